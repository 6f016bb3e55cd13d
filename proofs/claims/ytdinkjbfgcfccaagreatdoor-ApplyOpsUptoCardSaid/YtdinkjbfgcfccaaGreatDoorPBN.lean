/- Lemmas for laws of this seat. -/
import Derived.Test.YtdinkjbfgcfccaaGreatDoorPBM
set_option maxHeartbeats 4000000
namespace Go.Proofs.YtdinkjbfgcfccaaGreatDoor.Sw
open Go.Proofs.Tryz
open Go
set_option maxRecDepth 100000
set_option linter.unusedVariables false
set_option linter.unusedSimpArgs false
set_option linter.deprecated false
set_option linter.defProp false
def JO:=@List.takeWhile_cons_of_pos
def DK:=@Bool.not_eq_false'
def gU (g:GH) (b:Nat) (x:List au) (c:az):Prop:=∃v0 c0,c=(b,.cells #[v0] 140 (0,0))::c0∧aH 45 cA g v0 x c0
theorem gU.mono {g g':GH} {b:Nat} {x:List au} {c:az} (h:gU g b x c) (hg:aM g g'):gU g' b x c:=by
 obtain⟨v0,c0,e,h0⟩:=h
 exact⟨v0,c0,e,h0.mono hg⟩
theorem gU.eq {g:GH} {b:Nat} {x y:List au} {c:az} (h:gU g b x c) (e:x=y):gU g b y c:=e▸h
theorem gU.bw {g g':GH} {b:Nat} {x:List au} {c:az} (h:gU g b x c):gU g' b x c:=by
 obtain⟨v0,c0,e,h0⟩:=h
 exact⟨v0,c0,e,h0.bw (fun _ _ _ _ h=>h)⟩
def kf (g:GH) (b:Nat) (x:List au) (c:az):Prop:=∃v0 c0,c=(b,.cells #[v0] 41 (0,0))::c0∧aH 45 cA g v0 x c0
theorem kf.mono {g g':GH} {b:Nat} {x:List au} {c:az} (h:kf g b x c) (hg:aM g g'):kf g' b x c:=by
 obtain⟨v0,c0,e,h0⟩:=h
 exact⟨v0,c0,e,h0.mono hg⟩
theorem kf.eq {g:GH} {b:Nat} {x y:List au} {c:az} (h:kf g b x c) (e:x=y):kf g b y c:=e▸h
theorem kf.bw {g g':GH} {b:Nat} {x:List au} {c:az} (h:kf g b x c):kf g' b x c:=by
 obtain⟨v0,c0,e,h0⟩:=h
 exact⟨v0,c0,e,h0.bw (fun _ _ _ _ h=>h)⟩
theorem Rk (B:World) (h:ay) (g:GH) (hg:bu g h) (ae:bz g) (am:Value) (x:List au) (V:an g 45 cA am x) (target:au) (O:j_ x) (hlen:x.length≤1000000000):
  aG prog B 168 #[am,.agg #[vI target.ax,vI target.ah,vS target.af],.func (.func 169) #[] #[]] h g [] (fun a4 g' L'=>a4=.tuple #[.int .i64 (nG x target:Int),.bool (ng x target)]∧g'=g∧L'=[]):=by
 obtain⟨X,J,rfl⟩:=V.ak
 refine aG.aq func168 fun R hR=>At.rg 3<|Op.bx 4 45 1 #[vI target.ax,vI target.ah,vS target.af] (St.init hg) fun U b4 a5=>Op.pg 1 []<|At.go 2 3 [(8,vI (x.length:Int))] ?_
 refine At.go 3 3 [(9,vI 0),(10,vI (x.length:Int))] ?_
 have a6:∀(m:Nat) (i:Int) (u:Int) (Y:ay) (hm:(u-i).toNat<m) (h0:0≤i) (h1:i≤u) (h2:u≤x.length) (hl:Lo x target i) (hh:Hi x target u) (I:St h g (aS []) g [[(U,Obj.cells #[vI target.ax,vI target.ah,vS target.af] 45 (0,0))]] Y),At (bP prog B 168 f168 R) [] 3 [(0,vL X x.length J),(2,.func (.func 169) #[] #[]),(4,vP U),(8,vI (x.length:Int)),(9,vI i),(10,vI u)] Y:=by
  intro m;induction m with
  |zero=>intros;omega
  |succ m ar=>
   intro i u Y hm h0 h1 h2 hl hh I
   refine At.go 4 3 [(17,.bool (decide (i<u)))]<|At.fd (i<u) 17 5 10 (fun b5=>?_) fun b6=>?_
   ·refine At.rp 7 2 [(18,vI i),(19,vI u)]<|Op.vq 20 (i+u)<|Op.vl 21 (.int .u64 (IntKind.wrap .u64 (i+u))) (.int .u64 (i+u)) (sR (by omega) (by omega))<|Op.vl 22 (.int .u64 (Int.fdiv (i+u) (2 ^ 1))) (.int .u64 ((i+u) / 2)) (FL _ _ _ rfl (by decide))<|Op.vl 23 (.int .i64 (IntKind.wrap .i64 ((i+u) / 2))) (.int .i64 ((i+u) / 2)) (nS (by omega) (by omega)) ?_
    refine Op.pg 6 [(11,vI ((i+u) / 2))]<|At.dw (fun _=>False) [(0,true),(1,true),(2,true),(3,true),(4,true),(5,false),(6,false),(7,true)]<|Op.px 3 [(24,.func (.func 169) #[] #[]),(25,vL X x.length J),(26,vI ((i+u) / 2))] ?_
    obtain⟨D,Z⟩:=bW x ((i+u) / 2)
    obtain⟨a7,aw,b8,ca,a8,a9,ab⟩:=an.bB V _ Z
    cases a8
    refine Op.iq 41 45 3 32 x.length J 25 26 27 a7 aw ((i+u) / 2) ?_
    replace ab:cut _ _ _=[vI D.ax,vI D.ah,vS D.af]:=ab
    refine Op.qv (T:=45) (x:=27) (o:=aw+((i+u) / 2:Int).toNat*3) (d:=28) (n:=3) (vs:=[vI D.ax,vI D.ah,vS D.af]) (by kernel_rfl) (by kernel_rfl) (by kernel_rfl) id (I.sub _ _ a9) ab rfl<|Op.la 45 4 29 0 3 [vI target.ax,vI target.ah,vS target.af] (I.ag 0 rfl)<|Op.cv (some 30) 24 #[28,29] #[45,45] 169 #[] #[] [] [[(U,Obj.cells #[vI target.ax,vI target.ah,vS target.af] 45 (0,0))]] #[.agg #[vI D.ax,vI D.ah,vS D.af],.agg #[vI target.ax,vI target.ah,vS target.af]] (eg.of (by kernel_rfl)) (by kernel_rfl) I (JM _ _ _ I.sub ae D target) (fun _ _ h=>absurd h (gP _)) ?_
    rintro _ bb _ cb bc a0 ⟨rfl,bd,rfl⟩;subst bb;clear bc
    refine Op.pg 7 [(31,.bool (decide ((lV D target)<0)))]<|At.fd ((lV D target)<0) 31 8 9 (fun be=>?_) fun bi=>?_
    ·exact At.rp 3 1 [(32,vI ((i+u) / 2))]<|Op.vq 33 (((i+u) / 2)+1)<|Op.pg 3 [(9,vI (((i+u) / 2)+1))] (At.ke (ar (((i+u) / 2)+1) u _ (by omega) (by omega) (by omega) (by omega) (by exact QB O hl (by omega) Z be) ‹_› a0))
    exact At.go 3 2 [(10,vI ((i+u) / 2))] (At.ke (ar i ((i+u) / 2) _ (by omega) (by omega) (by omega) (by omega) ‹_› (by exact QC O (by omega) Z bi) a0))
   refine At.dw (fun _=>False) [(0,true),(1,true),(2,true),(3,true),(4,true),(5,true),(6,true),(7,true),(8,true),(9,true),(10,false),(11,false),(12,true),(13,true),(14,true),(15,true)]<|Op.px 5 [(35,vI i),(39,.bool (decide (i<(x.length:Int))))]<|Op.wd (i<(x.length:Int)) 39 (fun ce=>?_) fun bj=>?_
   ·refine Op.px 3 [(40,.func (.func 169) #[] #[]),(41,vL X x.length J),(42,vI i)] ?_
    obtain⟨G,a1⟩:=bW x i
    obtain⟨bk,a3,cf,ch,bm,bo,ad⟩:=an.bB V _ a1
    cases bm
    refine Op.iq 41 45 3 32 x.length J 41 42 43 bk a3 i ?_
    replace ad:cut _ _ _=[vI G.ax,vI G.ah,vS G.af]:=ad
    refine Op.qv (T:=45) (x:=43) (o:=a3+i.toNat*3) (d:=44) (n:=3) (vs:=[vI G.ax,vI G.ah,vS G.af]) (by kernel_rfl) (by kernel_rfl) (by kernel_rfl) id (I.sub _ _ bo) ad rfl<|Op.la 45 4 45 0 3 [vI target.ax,vI target.ah,vS target.af] (I.ag 0 rfl)<|Op.cv (some 46) 40 #[44,45] #[45,45] 169 #[] #[] [] [[(U,Obj.cells #[vI target.ax,vI target.ah,vS target.af] 45 (0,0))]] #[.agg #[vI G.ax,vI G.ah,vS G.af],.agg #[vI target.ax,vI target.ah,vS target.af]] (eg.of (by kernel_rfl)) (by kernel_rfl) I (JM _ _ _ I.sub ae G target) (fun _ _ h=>absurd h (gP _)) ?_
    rintro _ bs _ ci bt b3 ⟨rfl,bd,rfl⟩;subst bs;clear bt
    exact Op.pg 11 [(6,vI i),(7,.bool ((lV G target)==0))]<|At.rt (.tuple #[vI i,.bool ((lV G target)==0)]) (hR b3.drop ⟨bA (bg (by exact Ju h0 (by omega) hl (by have e:i=u:=(by omega);rw[e];exact hh))) (bn (by exact QE h0 O hl (by have e:i=u:=(by omega);rw[e];exact hh) a1 rfl)),rfl,rfl⟩)
   exact Op.pg 11 [(6,vI i),(7,vF)]<|At.rt (.tuple #[vI i,vF]) (hR I.drop ⟨bA (bg (by exact Ju h0 (by omega) hl (by have e:i=u:=(by omega);rw[e];exact hh))) (bn (by exact QF h0 O hl (by have e:i=u:=(by omega);rw[e];exact hh) bj)),rfl,rfl⟩)
 exact At.ke (a6 _ 0 (x.length:Int) _ (bG _) (by omega) (by omega) (by omega) (by exact Qz _ _) (by exact QA _ _) a5)
theorem Rl (B:World) (h:ay) (g:GH) (hg:bu g h) (dv:bz g) (a1:Value) (s:List au) (U:az) (J:aH 45 cA g a1 s U) (i:Int) (a3:Value) (v:List au) (Z:az) (V:aH 45 cA g a3 v Z) (h0:0≤i) (hi:i≤s.length) (h1:s.length≤1000000) (h2:v.length≤1000000) (hs:St h g (aS [U,Z]) g [U,Z] h):
  aG prog B 171 #[a1,vI i,a3] h g [U,Z] (fun bs g' L'=>∃v0 a4,bs=v0∧aH 45 cA g' v0 (nH s i v) a4∧g'=g∧L'=[a4]):=by
 obtain⟨D,u,rfl⟩:=J.ak
 obtain⟨X,Y,rfl⟩:=V.ak
 refine aG.aq func171 fun R hR=>At.go 1 1 []<|At.rp 3 2 [(10,vL D s.length u),(11,vI i)]<|Op.sq 41 45 3 32 10 11 D s.length u 12 .i64 i (by omega) (by omega)<|Op.gt 2 ?_
 refine At.go 3 3 [(7,vI (v.length:Int))]<|At.go 4 2 [(16,.bool ((v.length:Int)==0))]<|At.fd ((v.length:Int)=0) 16 5 7 (fun dC=>?_) fun dE=>?_
 ·exact At.go 6 2 [(6,vL D s.length u)]<|At.rt (vL D s.length u)<|hR (hs.fs [1] rfl).drop ⟨(vL D s.length u),U,rfl,dP J (by exact QG (by omega)),rfl,rfl⟩
 refine At.go 8 3 [(8,vI (s.length:Int))]<|At.go 9 3 [(22,.bool (i==(s.length:Int)))]<|At.fd (i=(s.length:Int)) 22 10 12 (fun dT=>?_) fun d0=>?_
 ·refine At.rp 4 2 [(23,vL D s.length u),(24,vL X v.length Y)] ?_
  obtain⟨d1,bt,b3⟩:=cT.slice (P:=prog) (V.toH hs 1 rfl)
  refine Op.ap 23 24 41 41 25 45 32 cA (ys:=v) J hs 0 b3 (by omega) (fun _ _ _=>trivial) bt fun d2 b4 d3 a5 b5 d4=>?_
  obtain⟨ad,ae,rfl⟩:=a5.ak
  exact Op.pg 11 [(6,vL ad ((s++v).length) ae)]<|At.rt (vL ad ((s++v).length) ae)<|hR (b5.fs [1] rfl).drop ⟨(vL ad ((s++v).length) ae),b4,rfl,dP a5 (by exact QH (by omega)),rfl,rfl⟩
 refine At.rp 6 2 [(26,vI (s.length:Int)),(27,vI (v.length:Int))]<|Op.vq 28 ((s.length:Int)+(v.length:Int))<|Op.pg 13 [(31,.bool (decide (((s.length:Int)+(v.length:Int))>(u:Int))))]<|At.fd (((s.length:Int)+(v.length:Int))>(u:Int)) 31 14 19 (fun d5=>?_) fun d6=>?_
 ·refine At.rp 10 2 [(32,vL D s.length u),(33,vI i)] ?_
  have d7:=J.FN
  have b6:=J.take i.toNat (by omega)
  refine Op.yp (T:=41) (E:=45) (sz:=3) (cK:=32) (x:=32) (hi:=33) (ao:=D) (n:=s.length) (c:=u) (dst:=34) (k:=.i64) (m:=i) (by kernel_rfl) (by kernel_rfl) (by kernel_rfl) (by kernel_rfl) (by omega) (by omega)<|Op.px 2 [(35,vI (s.length:Int)),(36,vI (v.length:Int))]<|Op.vq 37 ((s.length:Int)+(v.length:Int))<|Op.px 1 [(38,vI i)]<|Op.vq 39 (((s.length:Int)+(v.length:Int))-i) ?_
  refine Op.Mq (x:=34) (y:=39) (t:=41) (t':=3) (dst:=40) (E:=45) (cK:=32) (d:=cA) (ao:=(d_ D 0 u 3)) (n:=i.toNat) (cap:=u) (xs:=(s.take i.toNat)) (m:=((s.length:Int)+(v.length:Int))-i) (by kernel_rfl) (by kernel_rfl) (by kernel_rfl) (by kernel_rfl) (by kernel_rfl) (b6.toH hs 0 rfl) (by kernel_rfl) (by omega) (by(simp only[dZ] at *;omega)) (by(simp only[dZ] at *;omega)) hs fun G d8 d9 I ea a6 eb a7=>?_
  have b8:((s.take i.toNat)++List.replicate (((s.length:Int)+(v.length:Int))-i:Int).toNat (Kd.zv cA)).length=(s.take i.toNat).length+(((s.length:Int)+(v.length:Int))-i:Int).toNat:=by rw[b_,oH]
  generalize ed:(s.take i.toNat)++List.replicate (((s.length:Int)+(v.length:Int))-i:Int).toNat (Kd.zv cA)=am at a6 b8
  refine Op.pg 15 [(9,vL (some ⟨G,0,none⟩) ((s.take i.toNat).length+(((s.length:Int)+(v.length:Int))-i:Int).toNat) I)]<|At.rp 5 2 [(41,vL (some ⟨G,0,none⟩) ((s.take i.toNat).length+(((s.length:Int)+(v.length:Int))-i:Int).toNat) I),(42,vI i)]<|Op.sq 41 45 3 32 41 42 (some ⟨G,0,none⟩) ((s.take i.toNat).length+(((s.length:Int)+(v.length:Int))-i:Int).toNat) I 43 .i64 i (by omega) (by(simp only[dZ] at *;omega))<|Op.px 1 [(44,vL X v.length Y)] ?_
  obtain⟨ee,ca,cb⟩:=cT.slice (P:=prog) (V.toH a7 2 rfl)
  refine Op.bD (x:=43) (y:=44) (t:=41) (t':=41) (dst:=45) (E:=45) (cK:=32) (d:=cA) (ao:=(some ⟨G,0,none⟩)) (n:=((s.take i.toNat).length+(((s.length:Int)+(v.length:Int))-i:Int).toNat)) (c:=I) (lo:=i.toNat) (ys:=v) (by kernel_rfl) (by kernel_rfl) (by kernel_rfl) a6 (by(simp only[dZ] at *;omega)) a7 0 rfl ca cb rfl (fun _ _ _=>trivial) fun ef eh a8 a9=>?_
  have ce:=yA (xs:=am) (ys:=v) (lo:=i.toNat) (by(simp only[dZ] at *;omega))
  generalize ej:putAt am i.toNat (List.take (am.length-i.toNat) v)=ar at a8 ce
  refine Op.gt 16<|At.dw (fun _=>False) [(0,true),(1,true),(2,true),(3,true),(4,true),(5,true),(6,true),(7,true),(1008,false),(8,false)]<|Op.px 3 [(46,vL (some ⟨G,0,none⟩) ((s.take i.toNat).length+(((s.length:Int)+(v.length:Int))-i:Int).toNat) I),(47,vI i),(48,vI (v.length:Int))]<|Op.vq 49 (i+(v.length:Int))<|Op.sq 41 45 3 32 46 49 (some ⟨G,0,none⟩) ((s.take i.toNat).length+(((s.length:Int)+(v.length:Int))-i:Int).toNat) I 50 .i64 (i+(v.length:Int)) (by omega) (by(simp only[dZ] at *;omega)) ?_
  refine Op.px 2 [(51,vL D s.length u),(52,vI i)]<|Op.sq 41 45 3 32 51 52 D s.length u 53 .i64 i (by omega) (by omega)<|Op.ba ?_
  obtain⟨em,cf,ch⟩:=cT.slice (P:=prog) (h_.Fs (J.toH a9 1 rfl) i.toNat (by omega))
  refine Op.bD (x:=50) (y:=53) (t:=41) (t':=41) (dst:=54) (E:=45) (cK:=32) (d:=cA) (ao:=(some ⟨G,0,none⟩)) (n:=((s.take i.toNat).length+(((s.length:Int)+(v.length:Int))-i:Int).toNat)) (c:=I) (lo:=(i+(v.length:Int):Int).toNat) (ys:=s.drop i.toNat) (by kernel_rfl) (by kernel_rfl) (by kernel_rfl) a8 (by(simp only[dZ] at *;omega)) a9 0 rfl cf ch rfl (fun _ _ _=>trivial) fun ci en bb ck=>?_
  have co:=yA (xs:=ar) (ys:=s.drop i.toNat) (lo:=(i+(v.length:Int):Int).toNat) (by(simp only[dZ] at *;omega))
  generalize ep:putAt ar (i+(v.length:Int):Int).toNat (List.take (ar.length-(i+(v.length:Int):Int).toNat) (s.drop i.toNat))=er at bb co
  exact Op.gt 17<|At.go 18 2 [(6,vL (some ⟨G,0,none⟩) ((s.take i.toNat).length+(((s.length:Int)+(v.length:Int))-i:Int).toNat) I)]<|At.rt (vL (some ⟨G,0,none⟩) ((s.take i.toNat).length+(((s.length:Int)+(v.length:Int))-i:Int).toNat) I)<|hR (ck.fs [2,2] rfl).drop.drop ⟨(vL (some ⟨G,0,none⟩) ((s.take i.toNat).length+(((s.length:Int)+(v.length:Int))-i:Int).toNat) I),ci,rfl,dP bb (by(subst_vars;exact QI h0 hi rfl rfl)),rfl,rfl⟩
 refine At.rp 6 3 [(56,vL D s.length u),(57,vI (s.length:Int)),(58,vI (v.length:Int))]<|Op.vq 59 ((s.length:Int)+(v.length:Int)) ?_
 obtain⟨O,aw,et,ex⟩:=aH.Mn J ((s.length:Int)+(v.length:Int):Int).toNat (by omega)
 refine Op.yp (T:=41) (E:=45) (sz:=3) (cK:=32) (x:=56) (hi:=59) (ao:=D) (n:=s.length) (c:=u) (dst:=60) (k:=.i64) (m:=(s.length:Int)+(v.length:Int)) (by kernel_rfl) (by kernel_rfl) (by kernel_rfl) (by kernel_rfl) (by omega) (by omega)<|Op.pg 20 [(0,vL (d_ D 0 u 3) (((s.length:Int)+(v.length:Int):Int).toNat) u)]<|At.rp 8 4 [(61,vL X v.length Y),(62,vL (d_ D 0 u 3) (((s.length:Int)+(v.length:Int):Int).toNat) u),(63,vI i),(64,vI (v.length:Int))]<|Op.vq 65 (i+(v.length:Int))<|Op.sq 41 45 3 32 62 65 (d_ D 0 u 3) (((s.length:Int)+(v.length:Int):Int).toNat) u 66 .i64 (i+(v.length:Int)) (by omega) (by omega) ?_
 obtain⟨bc,bd,eA,eB,eI,be,c3,eJ,eK,eL,eQ⟩:=V.cases (by omega)
 obtain⟨bi,e1,c4,e2,e3,bj,c5,c6,e4,c8,e5⟩:=aw.cases (by omega)
 have ab:=hs
 rw[c3,c5] at ab
 have c9:=be;have da:=bj
 have db:X=some ⟨bc,bd,none⟩:=by injection be
 have dc:∃o2,(d_ (d_ D 0 u 3) (i+(v.length:Int):Int).toNat u 3)=some ⟨bi,o2,none⟩:=by injection bj with hq _ _;exact MR hq _ _ _
 refine Op.overlaps (f:=198) (x:=61) (y:=66) (t:=41) (tb:=4) (E:=45) (sz:=3) (cK:=32) (dst:=67) (ts:=#[41,41]) (b1:=bc) (o1:=bd) (n1:=v.length) (c1:=Y) (b2:=bi) (n2:=(((s.length:Int)+(v.length:Int):Int).toNat-(i+(v.length:Int):Int).toNat)) (c2:=(u-(i+(v.length:Int):Int).toNat)) (a2:=(d_ (d_ D 0 u 3) (i+(v.length:Int):Int).toNat u 3)) (by kernel_rfl) (by kernel_rfl) (by kernel_rfl) (by rw[←db];kernel_rfl) (by kernel_rfl) dc (ab.ag 1 rfl) (ab.ag 0 rfl) (fun h=>ab.ne 0 1 rfl rfl rfl h.symm) ?_ ?_
 ·have e6:=c6;have hle:=c8;have hlen:0<O.length:=by omega
  have dd:=iB (Kd.sz cA) (show 1≤c4 by omega)
  simp only[show cA.sz=3 from rfl] at dd hle;omega
 clear c9 da
 refine Op.pg 21 [(68,vT)]<|At.bT 68 22<|At.dw (fun _=>False) [(0,true),(1,true),(2,true),(3,true),(4,true),(5,true),(6,true),(7,true),(1008,false),(8,false)]<|Op.px 3 [(69,vL (d_ D 0 u 3) (((s.length:Int)+(v.length:Int):Int).toNat) u),(70,vI i),(71,vI (v.length:Int))]<|Op.vq 72 (i+(v.length:Int)) ?_
 refine Op.sq 41 45 3 32 69 72 (d_ D 0 u 3) (((s.length:Int)+(v.length:Int):Int).toNat) u 73 .i64 (i+(v.length:Int)) (by omega) (by omega)<|Op.px 2 [(74,vL (d_ D 0 u 3) (((s.length:Int)+(v.length:Int):Int).toNat) u),(75,vI i)]<|Op.sq 41 45 3 32 74 75 (d_ D 0 u 3) (((s.length:Int)+(v.length:Int):Int).toNat) u 76 .i64 i (by omega) (by omega)<|Op.ba ?_
 obtain⟨e7,df,dg⟩:=cT.slice (P:=prog) (h_.Fs (aw.toH hs 0 rfl) i.toNat (by omega))
 refine Op.bD (x:=73) (y:=76) (t:=41) (t':=41) (dst:=77) (E:=45) (cK:=32) (d:=cA) (ao:=(d_ D 0 u 3)) (n:=(((s.length:Int)+(v.length:Int):Int).toNat)) (c:=u) (lo:=(i+(v.length:Int):Int).toNat) (ys:=O.drop i.toNat) (by kernel_rfl) (by kernel_rfl) (by kernel_rfl) aw (by omega) hs 0 rfl df dg rfl (fun _ _ _=>trivial) fun e8 e9 bk bm=>?_
 have dj:=yA (xs:=O) (ys:=O.drop i.toNat) (lo:=(i+(v.length:Int):Int).toNat) (by omega)
 generalize fa:putAt O (i+(v.length:Int):Int).toNat (List.take (O.length-(i+(v.length:Int):Int).toNat) (O.drop i.toNat))=a0 at bk dj
 refine Op.gt 23<|At.rp 5 2 [(78,vL (d_ D 0 u 3) (((s.length:Int)+(v.length:Int):Int).toNat) u),(79,vI i)]<|Op.sq 41 45 3 32 78 79 (d_ D 0 u 3) (((s.length:Int)+(v.length:Int):Int).toNat) u 80 .i64 i (by omega) (by omega)<|Op.px 1 [(81,vL X v.length Y)] ?_
 obtain⟨fg,dk,dl⟩:=cT.slice (P:=prog) (V.toH bm 1 rfl)
 refine Op.bD (x:=80) (y:=81) (t:=41) (t':=41) (dst:=82) (E:=45) (cK:=32) (d:=cA) (ao:=(d_ D 0 u 3)) (n:=(((s.length:Int)+(v.length:Int):Int).toNat)) (c:=u) (lo:=i.toNat) (ys:=v) (by kernel_rfl) (by kernel_rfl) (by kernel_rfl) bk (by omega) bm 0 rfl dk dl rfl (fun _ _ _=>trivial) fun dp fi bo dq=>?_
 have du:=yA (xs:=a0) (ys:=v) (lo:=i.toNat) (by omega)
 generalize fj:putAt a0 i.toNat (List.take (a0.length-i.toNat) v)=fl at bo du
 exact Op.gt 24<|At.go 25 2 [(6,vL (d_ D 0 u 3) (((s.length:Int)+(v.length:Int):Int).toNat) u)]<|At.rt (vL (d_ D 0 u 3) (((s.length:Int)+(v.length:Int):Int).toNat) u)<|hR (dq.fs [1] rfl).drop ⟨(vL (d_ D 0 u 3) (((s.length:Int)+(v.length:Int):Int).toNat) u),dp,rfl,dP bo (by(subst_vars;exact QJ h0 hi rfl (by omega) ‹_› (by omega))),rfl,rfl⟩
theorem JP (B:World) (h:ay) (g:GH) (hg:bu g h) (am:bz g) (w:au) (D:Nat) (G:Array Value) (bS:au→Bool) (ar:eg prog D) (aw:pM prog g D G (fun x:au=>.agg #[.int .i64 x.ax,.int .i64 x.ah,.string (br x.af)]) (fun _=>True) bS) (U:Nat) (a0:g U=some (.cells #[.func (.func D) #[] G] 181 (0,0))) (I:Nat) (out:List au) (u:az) (V:kf g I out u) (h1:out.length≤1000000) (hs:St h g (aS [u]) g [u] h):
  aG prog B 138 #[.agg #[vI w.ax,vI w.ah,vS w.af],vP U,vP I] h g [u] (fun a1 g' L'=>∃X,a1=.bool (bS w)∧kf g' I (if bS w=true then out++[w] else out) X∧g'=g∧L'=[X]):=by
 refine aG.aq func138 fun R hR=>At.rg 2<|Op.bx 3 45 0 #[vI w.ax,vI w.ah,vS w.af] hs fun a3 bj J=>Op.pg 1 []<|At.rg 4 ?_
 refine Op.l1 181 1 6 0 (.func (.func D) #[] G) (J.sub _ _ a0)<|Op.la 45 3 7 0 3 [vI w.ax,vI w.ah,vS w.af] (J.ag 0 rfl)<|Op.cv (some 8) 6 #[7] #[45] D #[] G [] [[(a3,Obj.cells #[vI w.ax,vI w.ah,vS w.af] 45 (0,0))],u] ((#[.agg #[vI w.ax,vI w.ah,vS w.af]]:Array Value)++G) ar (FM (by kernel_rfl)) J (aw _ _ _ (aM.refl _) J.sub am w (by((try dsimp only)<;>(first|omega|trivial|(simp only[bJ,cF];omega))))) (fun _ _ h=>absurd h (gP _)) ?_
 rintro _ a4 _ bk a5 Y ⟨rfl,bm,rfl⟩;subst a4;clear a5
 refine Op.pg 2 [(5,.bool (bS w))]<|At.go 3 1 [(9,.bool (bS w))]<|At.cW (bS w) 9 4 5 (fun bo=>?_) fun bs=>?_
 ·refine At.rg 5 ?_
  obtain⟨bt,a6,a7,Z⟩:=V
  obtain⟨a8,a9,rfl⟩:=Z.ak
  have O:=St.un [a6] a7 (Y.fs [1] rfl)
  refine Op.l1 41 2 10 0 (vL a8 out.length a9) (O.ag 0 rfl)<|Op.la 45 3 11 0 3 [vI w.ax,vI w.ah,vS w.af] (O.ag 2 rfl)<|Op.ls 12 1 45 #[vI w.ax,vI w.ah,vS w.af] O fun b3 b4 ab=>Op.ap 10 12 41 41 13 45 32 cA (ys:=[w]) Z ab 2 (⟨_,_,rfl,rfl,Reads.nil⟩) (by(simp only[bJ,cF];omega)) (fun _ _ _=>trivial) (cT.lit (m:=1) (sz:=3) (ab.ag 0 rfl) (news:=[vI w.ax,vI w.ah,vS w.af]) rfl rfl (by simp[Value.oneCell']) _) fun b5 b6 b8 ad bb ca=>?_
  obtain⟨a46,ae,rfl⟩:=ad.ak
  refine Op.s1 41 2 13 0 (vL a46 ((out++([w])).length) ae) 0 #[vL a46 ((out++([w])).length) ae] ((bb).drop) zt fun cb bc=>Op.gt 5<|At.go 6 2 [(4,.bool (bS w))] ?_
  obtain⟨bd,be,bi⟩:=St.bF (Q:=kf g I (out++([w]))) 2 bc ⟨_,_,rfl,ad⟩
  exact At.rt (.bool (bS w))<|hR (bi.fs [1] rfl).drop ⟨bd,(bn (by rfl)),be.eq (by(rw[aY ‹_›];done)),rfl,rfl⟩
 exact At.gr 6 2 4 (.bool (bS w)) (hR Y.drop ⟨u,(bn (by rfl)),V.eq (by(rw[aL (iT.1 ‹_›)];done)),rfl,rfl⟩)
theorem Rm (B:World) (h:ay) (g:GH) (hg:bu g h) (a8:bz g) (ar:Value) (s:List au) (aw:an g 45 cA ar s) (V:Nat) (Y:Array Value) (bS:au→Bool) (a9:eg prog V) (bb:pM prog g V Y (fun x:au=>.agg #[.int .i64 x.ax,.int .i64 x.ah,.string (br x.af)]) (fun _=>True) bS) (G:Nat) (bc:g G=some (.cells #[.func (.func V) #[] Y] 181 (0,0))) (D:Nat) (out:List au) (O:az) (bd:kf g D out O) (h1:s.length≤1000000) (h2:out.length≤1000000) (hs:St h g (aS [O]) g [O] h):
  aG prog B 158 #[ar,.func (.func 138) #[] #[vP G,vP D]] h g [O] (fun be g' L'=>∃a0,be=.int .i64 (ek bS s)∧kf g' D (out++(List.find? bS s).toList) a0∧g'=g∧L'=[a0]):=by
 obtain⟨a1,Z,rfl⟩:=aw.ak
 refine aG.aq func158 fun R hR=>At.go 1 1 []<|At.go 2 3 [(7,vI (s.length:Int)),(8,vI 0)] ?_
 have bi:∀(m:Nat) (i:Int) (o2:List au) (U:az) (ab:ay) (hm:s.length-i.toNat<m) (h0:0≤i) (h3:i≤s.length) (I:findAt bS s i) (ho:o2=out) (ad:kf g D o2 U) (J:St h g (aS [O]) g [U] ab),At (bP prog B 158 f158 R) [] 2 [(0,vL a1 s.length Z),(1,.func (.func 138) #[] #[vP G,vP D]),(7,vI (s.length:Int)),(8,vI i)] ab:=by
  intro m;induction m with
  |zero=>intros;omega
  |succ m bj=>
   intro i o2 U ab hm h0 h3 I ho ad J
   refine At.go 3 1 [(9,.bool (decide (i<(s.length:Int))))]<|At.fd (i<(s.length:Int)) 9 4 10 (fun b4=>?_) fun a3=>?_
   ·refine At.go 5 2 [(5,vI i)]<|At.rp 6 3 [(11,.func (.func 138) #[] #[vP G,vP D]),(12,vL a1 s.length Z),(13,vI i)] ?_
    obtain⟨u,X⟩:=bW s i
    obtain⟨bk,a4,b5,b6,bm,bo,ae⟩:=an.bB aw _ X
    cases bm
    refine Op.iq 41 45 3 32 s.length Z 12 13 14 bk a4 i ?_
    replace ae:cut _ _ _=[vI u.ax,vI u.ah,vS u.af]:=ae
    refine Op.la 45 14 15 (a4+i.toNat*3) 3 [vI u.ax,vI u.ah,vS u.af] (J.sub _ _ bo) ?_ (hv:=ae)
    refine Op.cv (some 16) 11 #[15] #[45] 138 #[] #[vP G,vP D] [U] [] #[.agg #[vI u.ax,vI u.ah,vS u.af],vP G,vP D] (eg.of (by kernel_rfl)) (by kernel_rfl) J (JP _ _ _ J.sub a8 u V Y bS a9 bb G bc D o2 _ ad (by((try dsimp only)<;>((subst ho;omega)))) (St.pt 1 J)) (fun _ _ _=>trivial) ?_
    rintro _ bs _ b8 bt a5 ⟨b3,rfl,a6,ca,rfl⟩;subst bs;clear bt
    refine Op.gt 6<|At.cW (bS u) 16 7 9 (fun am=>?_) fun a7=>?_
    ·exact At.gr 8 2 4 (vI i) (hR a5 ⟨b3,(bg (by exact td I X am)),a6.eq (by(subst ho;rw[aY am];exact QK I X am h0)),rfl,rfl⟩)
    exact At.rg 2<|Op.vq 18 (i+1)<|Op.pg 2 [(8,vI (i+1))] (At.ke (bj (i+1) (if bS u=true then o2++[u] else o2) _ _ (by omega) (by omega) (by omega) (by exact uO I h0 X a7) (by rw[aL (iT.1 a7)];exact ho) a6 a5))
   exact At.gr 11 1 4 (vI (-1)) (hR J ⟨U,(bg (by exact tf I a3)),ad.eq (by(subst ho;exact QL I a3)),rfl,rfl⟩)
 exact At.ke (bi _ 0 out _ _ (bG _) (by omega) (by omega) (by exact uN _ _) (by rfl) bd hs)
theorem Rn (B:World) (h:ay) (g:GH) (hg:bu g h) (bm:bz g) (bo:Value) (s:List au) (V:az) (ae:aH 45 cA g bo s V) (Y:Nat) (am:Array Value) (bS:au→Bool) (bs:eg prog Y) (bt:pM prog g Y am (fun x:au=>.agg #[.int .i64 x.ax,.int .i64 x.ah,.string (br x.af)]) (fun _=>True) bS) (J:Nat) (b3:g J=some (.cells #[.func (.func Y) #[] am] 181 (0,0))) (I:Nat) (out:List au) (Z:az) (c3:kf g I out Z) (h1:s.length≤1000000) (h2:out.length+s.length≤1000000) (hs:St h g (aS [V,Z]) g [V,Z] h):
  aG prog B 137 #[bo,.func (.func 138) #[] #[vP J,vP I]] h g [V,Z] (fun c4 g' L'=>∃v0 b4 b5,c4=v0∧aH 45 cA g' v0 (List.filter (fun w=>!bS w) s) b4∧kf g' I (out++List.filter bS s) b5∧g'=g∧L'=[b5,b4]):=by
 obtain⟨ar,aw,rfl⟩:=ae.ak
 refine aG.aq func137 fun R hR=>At.go 1 1 []<|At.rp 4 2 [(8,vL ar s.length aw),(9,.func (.func 138) #[] #[vP J,vP I])] ?_
 have a0:=hs.gH
 have c5:=ae.fK hs
 refine Op.le (some 10) 1 hs (Rm _ _ _ hs.jk (bm.mono a0) _ _ c5 Y am bS bs (bt.mono a0) J (a0 _ _ b3) I out _ (c3.mono a0) (by(try dsimp only)<;>omega) (by(try dsimp only)<;>omega) (St.pt 1 hs.freeze.1)) (fun _ _ _ hp=>by obtain⟨_,_,_,a1,_⟩:=hp;exact a1) ?_
 rintro _ _ d1 b6 ⟨c6,rfl,a3,a1,rfl⟩;clear a1
 replace a3:=a3.bw (g':=g)
 refine Op.pg 2 [(5,vI (ek bS s))]<|At.go 3 2 [(12,.bool ((ek bS s)==((-1):Int)))]<|At.fd ((ek bS s)=((-1):Int)) 12 4 6 (fun d2=>?_) fun ab=>?_
 ·exact At.go 5 2 [(4,vL ar s.length aw)]<|At.rt (vL ar s.length aw)<|hR (b6.fs [1] rfl) ⟨(vL ar s.length aw),V,c6,rfl,dP ae (by exact(DH (xI ‹_›).1).symm),a3.eq (by(rw[(xI ‹_›).1,(xI ‹_›).2];rfl)),rfl,rfl⟩
 refine At.rp 3 1 [(14,vI (ek bS s))]<|Op.cO 15 ((ek bS s)+1) (by(have:=(tU ab).2.2;omega)) (by(have:=(tU ab).2.2;omega))<|Op.pg 7 [(6,vI ((ek bS s)+1))] ?_
 have c8:∀(m:Nat) (i:Int) (k:Int) (ys:List au) (o2:List au) (a31:Option Addr) (D:Nat) (a4:az) (ad:az) (a9:ay) (hm:s.length-k.toNat<m) (h0:0≤i) (h3:i<k) (h4:k≤s.length) (G:qd s ys o2 out bS i k) (X:aH 45 cA g (.slice a31 ys.length D) ys a4) (bb:kf g I o2 ad) (a5:St h g (aS [V,Z]) g [a4,ad] a9),At (bP prog B 137 f137 R) [] 7 [(0,vL a31 ys.length D),(1,.func (.func 138) #[] #[vP J,vP I]),(5,vI i),(6,vI k)] a9:=by
  intro m;induction m with
  |zero=>intros;omega
  |succ m b8=>
   intro i k ys o2 a31 D a4 ad a9 hm h0 h3 h4 G X bb a5
   refine At.go 8 4 [(19,.bool (decide (k<(ys.length:Int))))]<|At.fd (k<(ys.length:Int)) 19 9 15 (fun d3=>?_) fun ca=>?_
   ·refine At.rp 6 2 [(22,vL a31 ys.length D),(23,vI k)] ?_
    obtain⟨u,bc⟩:=bW ys k
    obtain⟨U,O,d4,d5,c9,da,bd⟩:=h_.bB (X.toH a5 0 rfl) _ bc
    cases c9
    refine Op.iq 41 45 3 32 ys.length D 22 23 24 U O k ?_
    replace bd:cut _ _ _=[vI u.ax,vI u.ah,vS u.af]:=bd
    refine Op.la 45 24 25 (O+k.toNat*3) 3 [vI u.ax,vI u.ah,vS u.af] da ?_ (hv:=bd)
    refine Op.al 7 45 lp a5 fun db d6 dc=>Op.sg 45 7 25 0 0 #[vI u.ax,vI u.ah,vS u.af] dc zt fun d7 cb=>Op.gt 10<|At.rp 4 1 [(26,.func (.func 138) #[] #[vP J,vP I])]<|Op.la 45 7 27 0 3 [vI u.ax,vI u.ah,vS u.af] (cb.ag 0 rfl) ?_
    have be:=cb.fs [1,1,2] rfl
    refine Op.cv (some 28) 26 #[27] #[45] 138 #[] #[vP J,vP I] [ad] [[(db,Obj.cells #[vI u.ax,vI u.ah,vS u.af] 45 (0,0))],a4] #[.agg #[vI u.ax,vI u.ah,vS u.af],vP J,vP I] (eg.of (by kernel_rfl)) (by kernel_rfl) be (JP _ _ _ be.sub bm u Y am bS bs bt J b3 I o2 _ bb (by((try dsimp only)<;>((have:=G.len;have:=QS G h0;omega)))) (St.pt 1 be)) (fun _ _ _=>trivial) ?_
    rintro _ dd _ d8 df a6 ⟨d9,rfl,ce,a1,rfl⟩;subst dd;clear df
    refine Op.pg 11 [(29,.bool (!(bS u)))]<|At.cW (!(bS u)) 29 12 14 (fun a7=>?_) fun a8=>?_
    ·replace a7:=(dn a7)
     refine At.rp 5 2 [(30,vL (some ⟨U,O,none⟩) ys.length D),(31,vI i)]<|Op.la 45 7 32 0 3 [vI u.ax,vI u.ah,vS u.af] (a6.ag 1 rfl) ?_
     obtain⟨bi,bj⟩:=bW ys i
     obtain⟨ea,eb,ed,ee,dg,ef,cf⟩:=h_.bB (X.toH a6 2 rfl) _ bj
     cases dg
     refine Op.iq 41 45 3 32 ys.length D 30 31 33 U O i ?_
     replace cf:cut _ _ _=[vI bi.ax,vI bi.ah,vS bi.af]:=cf
     obtain⟨_,_,eh,ch,ej,dj,dk,ci,dl,ck,dp⟩:=X.cases (CG (eX _) (fO.1 bj).1)
     cases dj;subst dk
     have co:=(fO.1 bj).1
     have dq:=iB 3 (cH (Nat.succ_le_of_lt co) (cH (Nat.le_add_right _ _) (CI ci)))
     refine Op.store (T:=45) (x:=33) (y:=32) (b:=U) (o:=O+i.toNat*3) (vs:=[vI u.ax,vI u.ah,vS u.af]) (a?:=true) (n:=3) (by kernel_rfl) (by kernel_rfl) (by kernel_rfl) (by kernel_rfl) rfl (by simp[Value.oneCell']) a6 2 rfl (by simp only[mP] at dq;simp only[show cA.sz=3 from rfl] at ck;omega) (cs:=ch) (cs':=splice ch (O+i.toNat*3) [vI u.ax,vI u.ah,vS u.af]) rfl zt fun em du=>?_
     have dv:=aH.put (T:=45) (b:=U) ci dl ck dp _ co (x:=u) (vs:=[vI u.ax,vI u.ah,vS u.af]) rfl
     refine Op.kp [(0,vL (some ⟨U,O,none⟩) ys.length D),(1,.func (.func 138) #[] #[vP J,vP I]),(5,vI i),(6,vI k)]<|Op.cast (e':=[(0,vL (some ⟨U,O,none⟩) ((ys.set i.toNat u).length) D),(1,.func (.func 138) #[] #[vP J,vP I]),(5,vI i),(6,vI k)]) (by simp only[zg])<|Op.gt 13<|At.rp 3 1 [(34,vI i)]<|Op.vq 35 (i+1) ?_
     exact Op.pg 14 [(5,vI (i+1))]<|At.rp 3 1 [(20,vI k)]<|Op.vq 21 (k+1)<|Op.pg 7 [(6,vI (k+1))]<|At.ke (b8 (i+1) (k+1) (ys.set i.toNat u) (if bS u=true then o2++[u] else o2) _ _ _ _ _ (by(have:=G.len;omega)) (by omega) (by omega) (by(have:=G.len;omega)) (by(rw[aL (iT.1 a7)];exact QN G h0 (by omega) bc a7)) dv ce ((du.fs [2,2] rfl).drop))
    replace a8:=(dr a8)
    exact At.rp 3 1 [(20,vI k)]<|Op.vq 21 (k+1)<|Op.pg 7 [(6,vI (k+1))]<|At.ke (b8 i (k+1) ys (if bS u=true then o2++[u] else o2) _ _ _ _ _ (by(have:=G.len;omega)) (by omega) (by omega) (by(have:=G.len;omega)) (by(rw[aY a8];exact QO G (by omega) bc a8)) X ce ((a6.fs [2,2] rfl).drop))
   refine At.rp 4 2 [(36,vL a31 ys.length D),(37,vI i)]<|Op.sq 41 45 3 32 36 37 a31 ys.length D 38 .i64 i (by omega) (by(have:=G.len;omega))<|Op.Mr (x:=38) (t:=41) (E:=45) (cK:=32) (d:=cA) (ao:=a31) (n:=ys.length) (c:=D) (lo:=i.toNat) (by kernel_rfl) (by kernel_rfl) (by kernel_rfl) (by kernel_rfl) X (by(have:=G.len;omega)) a5 0 rfl (fun _ _ _=>trivial) fun dC en bk dE=>?_
   have dT:=MS (xs:=ys) (z:=Kd.zv cA) (lo:=i.toNat) (by(have:=G.len;omega))
   generalize ep:putAt ys i.toNat (List.replicate (ys.length-i.toNat) (Kd.zv cA))=er at bk dT
   refine Op.gt 16<|At.rp 4 2 [(39,vL a31 ys.length D),(40,vI i)] ?_
   have et:=bk.FN
   have d0:=bk.take i.toNat (by(have:=G.len;omega))
   exact Op.yp (T:=41) (E:=45) (sz:=3) (cK:=32) (x:=39) (hi:=40) (ao:=a31) (n:=ys.length) (c:=D) (dst:=41) (k:=.i64) (m:=i) (by kernel_rfl) (by kernel_rfl) (by kernel_rfl) (by kernel_rfl) (by omega) (by(have:=G.len;omega))<|Op.pg 17 [(4,vL (d_ a31 0 D 3) i.toNat D)]<|At.rt (vL (d_ a31 0 D 3) i.toNat D)<|hR (dE.fs [1] rfl) ⟨(vL (d_ a31 0 D 3) i.toNat D),dC,ad,rfl,dP d0 (by(subst_vars;exact(Jw G ca h0 (by have:=G.len;omega) _).1)),bb.eq (by exact(Jw G ca h0 (by have:=G.len;omega) []).2),rfl,rfl⟩
 exact At.ke (c8 _ (ek bS s) ((ek bS s)+1) s (out++(List.find? bS s).toList) _ _ _ _ _ (bG _) (by exact(tU ab).2.2.1) (by omega) (by(have:=(tU ab).2.2.2;omega)) (by exact QM ab) ae a3 b6)
theorem JQ (B:World) (h:ay) (g:GH) (hg:bu g h) (Y:bz g) (u:Nat) (t:List au) (I:az) (bb:gU g u t I) (D:Nat) (G:Array Value) (bS:au→Bool) (bc:eg prog D) (Z:pM prog g D G (fun x:au=>.agg #[.int .i64 x.ax,.int .i64 x.ah,.string (br x.af)]) (fun _=>True) bS) (h1:t.length≤1000000) (hs:St h g (aS [I]) g [I] h):
  aG prog B 103 #[vP u,.func (.func D) #[] G] h g [I] (fun bd g' L'=>∃v0 aw a0,bd=v0∧aH 45 cA g' v0 (List.filter bS t) aw∧gU g' u (List.filter (fun w=>!bS w) t) a0∧g'=g∧L'=[a0,aw]):=by
 refine aG.aq func103 fun R hR=>At.rg 2<|Op.bx 3 181 1 #[.func (.func D) #[] G] hs fun ab ci be=>Op.pg 1 []<|At.rg 1 ?_
 refine Op.al 5 41 #[vN] be fun ad ck bi=>Op.gt 2<|At.rp 10 4 [(6,vP u),(9,vP u)] ?_
 obtain⟨co,bj,bk,J⟩:=bb
 obtain⟨bm,bo,rfl⟩:=J.ak
 have a1:=St.un [bj] bk (bi.fs [1,1,2] rfl)
 refine Op.l1 41 9 10 0 (vL bm t.length bo) (a1.ag 0 rfl)<|Op.px 1 [(11,.func (.func 138) #[] #[vP ab,vP ad])] ?_
 obtain⟨a3,O⟩:=St.freeze (a1.fs [3] rfl)
 have a4:=iK (g:=g) ab (.cells #[.func (.func D) #[] G] 181 (0,0))
 generalize bs:cS g _=ae at a3 O a4;clear bs
 replace J:=J.mono O
 replace Y:=Y.mono O
 replace Z:=Z.mono O
 have bt:=aH.nil 45 cA ae
 obtain⟨c3,b3,b4⟩:=St.bF (Q:=kf ae ad ([]:List au)) 2 (a3.nl.fs [2,2,2,3] rfl) ⟨_,_,rfl,bt⟩
 have am:=b4.fs [1,1,2] rfl
 refine Op.cl (some 12) 2 am (Rn _ _ _ am.sub Y _ t _ J D G bS bc Z ab a4 ad ([]:List au) _ b3 (by(try dsimp only)<;>omega) (by((try dsimp only)<;>((simp only[cF];omega)))) (St.pt 2 am)) ?_
 rintro _ b5 _ c4 b6 b8 ⟨c5,c6,c8,rfl,a5,ca,c9,rfl⟩;subst b5;clear b6
 obtain⟨a6,a7,rfl⟩:=a5.ak
 refine Op.px 2 [(14,vP u)]<|Op.s1 41 14 12 0 (vL a6 (((List.filter (fun w=>!bS w) t)).length) a7) 2 #[vL a6 (((List.filter (fun w=>!bS w) t)).length) a7] b8 zt fun da cb=>Op.gt 3<|At.rg 2 ?_
 obtain⟨db,a8,ce,U⟩:=ca
 obtain⟨V,X,rfl⟩:=U.ak
 have a9:=St.un [a8] ce cb
 refine Op.l1 41 5 15 0 (vL V ((([]:List au)++List.filter bS t).length) X) (a9.ag 0 rfl)<|Op.pg 4 [(4,vL V ((([]:List au)++List.filter bS t).length) X)] ?_
 obtain⟨cf,ar,ch⟩:=St.bF (Q:=gU ae u (List.filter (fun w=>!bS w) t)) 2 (a9.fs [1,1,2,3] rfl) ⟨_,_,rfl,a5⟩
 refine At.rt (vL V ((([]:List au)++List.filter bS t).length) X) ?_
 replace ar:=ar.bw (g':=g)
 replace U:=U.bw (fun _ _ _ _ h=>h) (g':=g)
 exact hR (ch.fs [1] rfl).drop.iM ⟨(vL V ((([]:List au)++List.filter bS t).length) X),a8,cf,rfl,dP U (by simp),ar.eq (by simp),rfl,rfl⟩
theorem Ro (B:World) (h:ay) (g:GH) (hg:bu g h) (U:bz g) (w:au) (kind:Int) (D:Nat) (V:g D=some (.cells #[vI kind] 3 (0,0))) (G:Value) (de:List aj) (I:an g 9 cV G de) (J:Nat) (X:g J=some (.cells #[G] 40 (0,0))) (hok:True) (hp:de.length≤1000000000):
  aG prog B 162 #[.agg #[vI w.ax,vI w.ah,vS w.af],vP D,vP J] h g [] (fun Y g' L'=>Y=.bool (fN kind de w)∧g'=g∧L'=[]):=by
 obtain⟨Z,ab,rfl⟩:=I.ak
 refine aG.aq func162 fun R hR=>At.rg 2<|Op.bx 3 45 0 #[vI w.ax,vI w.ah,vS w.af] (St.init hg) fun O ar u=>Op.pg 1 []<|At.rp 11 1 [(5,vQ O 1)] ?_
 refine Op.l1 3 5 6 1 (vI w.ah) (u.ag 0 rfl)<|Op.l1 3 1 7 0 (vI kind) (u.sub _ _ V)<|Op.px 2 [(9,.bool (w.ah==kind))]<|Op.wd (w.ah=kind) 9 (fun ad=>?_) fun ae=>?_
 ·exact Op.l1 40 2 10 0 (vL Z de.length ab) (u.sub _ _ X)<|Op.px 1 [(11,vQ O 2)]<|Op.l1 9 11 12 2 (vS w.af) (u.ag 0 rfl)<|Op.c1 13 (Rg _ _ _ u.sub U _ _ I w.af (by(try dsimp only)<;>omega)) u fun aw am=>Op.pr 2 4 (.bool (de.any (fun z=>decide (w.af=z)))) (hR am.drop ⟨(bn (by exact QV ad)),rfl,rfl⟩)
 exact Op.pr 2 4 vF (hR u.drop ⟨(bn (by exact QW ae)),rfl,rfl⟩)
theorem Rp (B:World) (h:ay) (g:GH) (hg:bu g h) (O:bz g) (w:au) (G:Value) (u:List Int) (I:an g 3 (dK .i64) G u) (J:Nat) (U:g J=some (.cells #[G] 78 (0,0))) (hok:True) (hp:u.length≤1000000000):
  aG prog B 104 #[.agg #[vI w.ax,vI w.ah,vS w.af],vP J] h g [] (fun V g' L'=>V=.bool (qa u w)∧g'=g∧L'=[]):=by
 obtain⟨X,Y,rfl⟩:=I.ak
 refine aG.aq func104 fun R hR=>At.rg 2<|Op.bx 2 45 0 #[vI w.ax,vI w.ah,vS w.af] (St.init hg) fun Z ad D=>Op.pg 1 []<|At.rg 5 ?_
 exact Op.l1 78 1 4 0 (vL X u.length Y) (D.sub _ _ U)<|Op.px 1 [(5,vP Z)]<|Op.l1 3 5 6 0 (vI w.ax) (D.ag 0 rfl)<|Op.c1 7 (Cx _ _ _ D.sub O _ _ I w.ax (by(try dsimp only)<;>omega)) D fun ae ab=>Op.pr 2 3 (.bool (u.any (fun z=>decide (w.ax=z)))) (hR ab.drop ⟨(bn (by exact QU _ _)),rfl,rfl⟩)
theorem Rq (B:World) (h:ay) (g:GH) (hg:bu g h) (D:bz g) (G:Nat) (t:List au) (O:az) (I:gU g G t O) (kind:Int) (ar:Value) (de:List aj) (u:an g 9 cV ar de) (h1:t.length≤1000000) (h2:de.length≤1000000) (hs:St h g (aS [O]) g [O] h):
  aG prog B 145 #[vP G,vI kind,ar] h g [O] (fun a7 g' L'=>∃v0 aw a0,a7=v0∧aH 45 cA g' v0 (List.filter (fN kind de) t) aw∧gU g' G (List.filter (fun w=>!fN kind de w) t) a0∧g'=g∧L'=[a0,aw]):=by
 obtain⟨a1,a3,rfl⟩:=u.ak
 refine aG.aq func145 fun R hR=>At.rg 3<|Op.bx 4 3 1 #[vI kind] hs fun U bo a8=>Op.bx 5 40 2 #[vL a1 de.length a3] a8 fun V bs a9=>Op.pg 1 [] ?_
 refine At.rp 4 2 [(7,vP G),(8,.func (.func 162) #[] #[vP U,vP V])] ?_
 obtain⟨a4,X⟩:=St.freeze (a9.fs [1] rfl)
 have Y:=iK (g:=g) U (.cells #[vI kind] 3 (0,0))
 generalize bb:cS g _=a5 at a4 X Y;clear bb
 replace D:=D.mono X
 replace u:=u.mono X
 replace I:=I.mono X
 obtain⟨Z,J⟩:=St.freeze (a4)
 have a6:=iK (g:=a5) V (.cells #[vL a1 de.length a3] 40 (0,0))
 generalize bc:cS a5 _=bt at Z J a6;clear bc
 replace D:=D.mono J
 replace u:=u.mono J
 replace I:=I.mono J
 replace Y:=J _ _ Y
 refine Op.cl (some 9) 1 Z (JQ _ _ _ Z.sub D G t _ I 162 #[vP U,vP V] (fun x=>fN kind de x) (eg.of (by kernel_rfl)) (fun B h g2 hle hs bd x hok=>aG.args (by rfl) (Ro B h g2 hs bd x kind U (hle _ _ Y) _ _ (u.mono hle) V (hle _ _ a6) hok (by omega))) (by(try dsimp only)<;>omega) (St.pt 1 Z)) ?_
 rintro _ be _ b3 bi bj ⟨b4,bk,bm,rfl,ab,ad,b5,rfl⟩;subst be;clear bi
 obtain⟨ae,am,rfl⟩:=ab.ak
 refine Op.pg 2 [(6,vL ae (((List.filter (fun x=>fN kind de x) t)).length) am)]<|At.rt (vL ae (((List.filter (fun x=>fN kind de x) t)).length) am) ?_
 replace ad:=ad.bw (g':=g)
 replace ab:=ab.bw (fun _ _ _ _ h=>h) (g':=g)
 exact hR bj.iM ⟨(vL ae (((List.filter (fun x=>fN kind de x) t)).length) am),bk,bm,rfl,dP ab (by rfl),ad.eq (by rfl),rfl,rfl⟩
theorem Rr (B:World) (h:ay) (g:GH) (hg:bu g h) (V:bz g) (D:Nat) (t:List au) (G:az) (X:gU g D t G) (Z:Value) (u:List Int) (I:an g 3 (dK .i64) Z u) (h1:t.length≤1000000) (h2:u.length≤1000000) (hs:St h g (aS [G]) g [G] h):
  aG prog B 85 #[vP D,Z] h g [G] (fun ar g' L'=>∃ab,ar=.tuple #[]∧gU g' D (List.filter (fun w=>!qa u w) t) ab∧g'=g∧L'=[ab]):=by
 obtain⟨ad,ae,rfl⟩:=I.ak
 refine aG.aq func85 fun R hR=>At.rg 1<|Op.bx 3 78 1 #[vL ad u.length ae] hs fun J a8 aw=>Op.gt 1<|At.rp 3 2 [(4,vP D),(5,.func (.func 104) #[] #[vP J])] ?_
 obtain⟨O,U⟩:=St.freeze (aw)
 have am:=iK (g:=g) J (.cells #[vL ad u.length ae] 78 (0,0))
 generalize a0:cS g _=a9 at O U am;clear a0
 replace V:=V.mono U
 replace I:=I.mono U
 replace X:=X.mono U
 refine Op.cl (some 6) 1 O (JQ _ _ _ O.sub V D t _ X 104 #[vP J] (fun x=>qa u x) (eg.of (by kernel_rfl)) (fun B h g2 hle hs a1 x hok=>aG.args (by rfl) (Rp B h g2 hs a1 x _ _ (I.mono hle) J (hle _ _ am) hok (by omega))) (by(try dsimp only)<;>omega) (St.pt 1 O)) ?_
 rintro _ a3 _ bb a4 a5 ⟨bc,bd,a6,rfl,a7,Y,be,rfl⟩;subst a3;clear a4
 obtain⟨bi,bj,rfl⟩:=a7.ak
 refine Op.gt 2<|At.rt eY ?_
 replace Y:=Y.bw (g':=g)
 exact hR (a5.fs [1] rfl).drop.iM ⟨a6,rfl,Y.eq (by rfl),rfl,rfl⟩
theorem Rs (B:World) (h:ay) (g:GH) (hg:bu g h) (X:bz g):
  aG prog B 48 #[] h g [] (fun G g' L'=>∃b0 D,G=vP b0∧gU g' b0 [] D∧g'=g∧L'=[D]):=by
 refine aG.aq func48 fun R hR=>At.go 1 1 []<|At.rp 3 1 [(1,.agg #[vN])]<|Op.bx 2 140 1 #[vN] (St.init hg) fun u Y I=>Op.pg 2 [(0,vP u)] ?_
 have J:=aH.nil 45 cA g
 obtain⟨O,U,V⟩:=St.bF (Q:=gU g u ([]:List au)) 2 (I.nl.fs [1] rfl) ⟨_,_,rfl,J⟩
 exact At.rt (vP u) (hR V ⟨u,O,rfl,U.eq (by rfl),rfl,rfl⟩)
theorem Ak (B:World) (h:ay) (g:GH) (hg:bu g h) (ab:bz g) (u:Nat) (t:List au) (D:az) (ad:gU g u t D) (h1:t.length≤1000000) (hs:St h g (aS [D]) g [D] h):
  aG prog B 54 #[vP u] h g [D] (fun ae g' L'=>∃v0 X Y,ae=v0∧aH 45 cA g' v0 t X∧gU g' u t Y∧g'=g∧L'=[Y,X]):=by
 refine aG.aq func54 fun R hR=>At.go 1 1 []<|At.rp 6 3 [(5,vP u)] ?_
 obtain⟨v20,am,ar,J⟩:=ad
 obtain⟨aw,a0,rfl⟩:=J.ak
 have Z:=St.un [am] ar hs
 refine Op.l1 41 5 6 0 (vL aw t.length a0) (Z.ag 0 rfl) ?_
 have G:=Z.fs [1] rfl
 have a1:=G.gH
 have a3:=J.fK G
 refine Op.le (some 7) 0 G (Rh _ _ _ G.jk (ab.mono a1) _ _ a3 (by(try dsimp only)<;>omega)) (fun _ _ _ hp=>by obtain⟨_,_,_,_,O,_⟩:=hp;exact O) ?_ (hM:=(fun _ _ h=>absurd h (gP _)))
 rintro _ _ a9 a4 ⟨bb,a5,rfl,I,O,rfl⟩;clear O
 obtain⟨U,V,rfl⟩:=I.ak
 replace I:=I.bw (fun _ _ _ _ h=>h) (g':=g)
 refine Op.pg 2 [(2,vL U (t.length) V)] ?_
 obtain⟨a6,a7,a8⟩:=St.bF (Q:=gU g u t) 2 (a4.fs [1,1,2] rfl) ⟨_,_,rfl,J⟩
 exact At.rt (vL U (t.length) V) (hR a8 ⟨(vL U (t.length) V),a5,a6,rfl,dP I (by rfl),a7.eq (by rfl),rfl,rfl⟩)
theorem Rt (B:World) (h:ay) (g:GH) (hg:bu g h) (O:bz g) (u:Nat) (t:List au) (J:az) (ae:gU g u t J) (w:au) (h1:t.length≤1000000) (hw:w.af.length≤1000000000) (cf:j_ t) (hs:St h g (aS [J]) g [J] h):
  aG prog B 148 #[vP u,.agg #[vI w.ax,vI w.ah,vS w.af]] h g [J] (fun a6 g' L'=>∃am,a6=.int .i64 (nI t w)∧gU g' u (nJ t w) am∧g'=g∧L'=[am]):=by
 refine aG.aq func148 fun R hR=>At.rg 2<|Op.bx 3 45 1 #[vI w.ax,vI w.ah,vS w.af] hs fun a7 ch X=>Op.pg 1 []<|At.rg 3 ?_
 refine Op.la 45 3 7 0 3 [vI w.ax,vI w.ah,vS w.af] (X.ag 0 rfl)<|Op.c1 8 (Rj _ _ _ X.sub O w (by(try dsimp only)<;>omega)) X fun ci ar=>Op.pg 2 [(9,.bool (!(iQ w)))]<|At.cW (!(iQ w)) 9 3 5 (fun aw=>?_) fun a0=>?_
 ·replace aw:=(dn aw)
  exact At.gr 4 1 4 (vI 90) (hR ar.drop ⟨J,(bg (by(unfold nI;simp[*];done))),ae.eq (by(unfold nJ;simp[*];done)),rfl,rfl⟩)
 replace a0:=(dr a0)
 obtain⟨ck,a8,a9,I⟩:=ae
 obtain⟨Y,Z,rfl⟩:=I.ak
 have ab:=St.un [a8] a9 (ar.fs [1] rfl)
 refine At.dw (fun _=>False) [(0,true),(1,true),(2,true),(3,true),(4,false),(5,false),(6,true),(7,true),(8,true),(9,true),(10,true)]<|Op.px 3 [(13,vP u)]<|Op.lf 41 13 0 14 1 (vL Y t.length Z) id (ab.ag 0 rfl)<|Op.la 45 3 15 0 3 [vI w.ax,vI w.ah,vS w.af] (ab.ag 2 rfl) ?_
 have U:=ab.fs [1] rfl
 have bb:=U.gH
 have bc:=I.fK U
 refine Op.le (some 16) 0 U (Rk _ _ _ U.jk (O.mono bb) _ _ bc w (by(try dsimp only)<;>omega) (by(try dsimp only)<;>omega)) (fun _ _ _ hp=>by obtain⟨_,D,_⟩:=hp;exact D) ?_ (hM:=(fun _ _ h=>absurd h (gP _)))
 rintro _ _ co G ⟨rfl,D,rfl⟩;clear D
 refine Op.pg 6 [(5,vI (nG t w:Int)),(6,.bool (ng t w))]<|At.go 7 2 [(19,.bool (ng t w))]<|At.cW (ng t w) 19 8 10 (fun c3=>?_) fun c4=>?_
 ·refine At.go 9 1 [(4,vI 0)] ?_
  obtain⟨bd,be,bi⟩:=St.bF (Q:=gU g u t) 2 (G.fs [1] rfl) ⟨_,_,rfl,I⟩
  exact At.rt (vI 0)<|hR (bi.fs [1] rfl).drop ⟨bd,(bg (by(unfold nI;simp[*];done))),be.eq (by(unfold nJ;simp[*];done)),rfl,rfl⟩
 refine At.dw (fun _=>False) [(0,true),(1,true),(2,true),(4,true),(3,true),(5,false),(6,false),(7,true),(8,true)]<|Op.px 4 [(24,vP u),(26,vP a7)]<|Op.lf 41 24 0 25 1 (vL Y t.length Z) id (G.ag 1 rfl)<|Op.l1 3 26 27 0 (vI w.ax) (G.ag 2 rfl) ?_
 have bj:=G.gH
 have bk:=I.fK G
 refine Op.le (some 28) 0 G (Ri _ _ _ G.jk (O.mono bj) _ _ bk w.ax (by(try dsimp only)<;>omega)) (fun _ _ _ hp=>by obtain⟨_,D,_⟩:=hp;exact D) ?_ (hM:=(fun _ _ h=>absurd h (gP _)))
 rintro _ _ c5 V ⟨rfl,D,rfl⟩;clear D
 refine Op.pg 11 [(21,.bool (decide ((cnt w.ax t:Int)≥8)))]<|At.fd ((cnt w.ax t:Int)≥8) 21 12 14 (fun c6=>?_) fun c8=>?_
 ·refine At.go 9 1 [(4,vI 104)] ?_
  obtain⟨bm,bo,bs⟩:=St.bF (Q:=gU g u t) 2 (V.fs [1] rfl) ⟨_,_,rfl,I⟩
  exact At.rt (vI 104)<|hR (bs.fs [1] rfl).drop ⟨bm,(bg (by(unfold nI;simp[*];done))),bo.eq (by(unfold nJ;simp[*];done)),rfl,rfl⟩
 refine At.dw (fun _=>False) [(0,true),(1,true),(2,true),(3,true),(5,true),(4,true),(6,false),(7,false),(1008,false),(8,false),(9,true),(10,true),(11,false)]<|Op.px 5 [(30,vP u),(33,vP u),(35,vI (nG t w:Int))]<|Op.lf 41 33 0 34 1 (vL Y t.length Z) id (V.ag 1 rfl)<|Op.la 45 3 36 0 3 [vI w.ax,vI w.ah,vS w.af] (V.ag 2 rfl)<|Op.ls 37 1 45 #[vI w.ax,vI w.ah,vS w.af] V fun a1 c9 bt=>?_
 refine Op.ba ?_
 have b3:aH 45 cA g (vL (some ⟨a1,0,none⟩) 1 1) [w] [(a1,Obj.cells #[vI w.ax,vI w.ah,vS w.af] 45 (0,0))]:=aH.lit (by kernel_rfl) (by unfold maxLen;decide) (by kernel_rfl) ⟨_,_,rfl,rfl,Reads.nil⟩
 have ad:=bt.fs [1] rfl
 refine Op.cl (some 38) 2 ad (Rl _ _ _ ad.sub O _ t _ I (nG t w:Int) _ ([w]) _ b3 (by(try dsimp only)<;>omega) (by((try dsimp only)<;>((have:=QT t w;omega)))) (by(try dsimp only)<;>omega) (by((try dsimp only)<;>((simp only[bJ,cF];omega)))) (St.pt 2 ad)) ?_
 rintro _ b4 _ da b5 b6 ⟨db,dc,rfl,a3,D,rfl⟩;subst b4;clear b5
 obtain⟨a4,a5,rfl⟩:=a3.ak
 refine Op.px 2 [(40,vP u)]<|Op.s1 41 40 38 0 (vL a4 ((nH t (nG t w:Int) ([w])).length) a5) 1 #[vL a4 ((nH t (nG t w:Int) ([w])).length) a5] b6 zt fun dd b8=>Op.gt 15<|At.go 16 1 [(4,vI 0)] ?_
 obtain⟨ca,cb,ce⟩:=St.bF (Q:=gU g u (nH t (nG t w:Int) ([w]))) 2 (b8.fs [1] rfl) ⟨_,_,rfl,a3⟩
 exact At.rt (vI 0)<|hR (ce.fs [1] rfl).drop ⟨ca,(bg (by(unfold nI;simp[*];done))),cb.eq (by(unfold nJ;simp[*];done)),rfl,rfl⟩
def om (w:au):List au→List au
  |[]=>[w]
  |x::xs=>if fV x w=true then x::om w xs else w::x::xs
theorem JR (w:au):∀xs:List au,nH xs (nG xs w) [w]=om w xs
  |[]=>rfl
  |x::xs=>by
   have ih:=JR w xs
   unfold nH nG at *
   unfold om
   by_cases h:fV x w=true
   · rw[aY h,←ih,JO (by simpa using h),bJ]
     rw[show((((xs.takeWhile fun x=>fV x w).length+1:Nat):Int)).toNat=(((xs.takeWhile fun x=>fV x w).length:Int)).toNat+1 by omega]
     simp
   · rw[aL h,DA (by simpa using h)]
     simp
theorem DL {w y:au}:∀{xs:List au},y∈om w xs↔y=w∨y∈xs
  |[]=>by simp[om]
  |x::xs=>by
   have ih:=DL (w:=w) (y:=y) (xs:=xs)
   unfold om
   split
   · rw[eO,ih,eO]
     constructor
     · rintro(h|h|h)
       · exact .inr (.inl h)
       · exact .inl h
       · exact .inr (.inr h)
     · rintro(h|h|h)
       · exact .inr (.inl h)
       · exact .inl h
       · exact .inr (.inr h)
   · rw[eO]
theorem JS {w:au}:∀{xs:List au},j_ xs→w ∉ xs→j_ (om w xs)
  |[],_,_=>CE _ _
  |x::xs,hs,hw=>by
   obtain⟨h1,h2⟩:=jF.1 hs
   simp only[eO,tq] at hw
   unfold om
   split
   · rename_i h
     refine jF.2 ⟨fun y hy=>?_,JS h2 hw.2⟩
     rcases DL.1 hy with rfl|hy
     · exact h
     · exact h1 y hy
   · rename_i h
     have u:fV w x=true:=by
       cases hl:fV w x with
       |true=>rfl
       |false=>exact absurd (Qx hl (by simpa using h)) hw.1
     refine jF.2 ⟨fun y hy=>?_,hs⟩
     rcases eO.1 hy with rfl|hy
     · exact u
     · exact Af u (h1 y hy)
theorem DM {w:au} {c:Int}:∀{xs:List au},cnt c (om w xs)=cnt c xs+if w.ax=c then 1 else 0
  |[]=>by simp[om,cnt]
  |x::xs=>by
   have ih:=DM (w:=w) (c:=c) (xs:=xs)
   unfold om
   split
   · rw[cnt,ih,cnt];omega
   · rw[cnt,cnt];omega
theorem JT (xs:List au) (w:au):(nJ xs w=xs∧¬(iQ w=true∧ng xs w=false∧(cnt w.ax xs:Int)<8))∨(nJ xs w=om w xs∧nI xs w=0∧iQ w=true∧ng xs w=false∧(cnt w.ax xs:Int)<8):=by
  unfold nJ nI
  by_cases h1:iQ w=false
  · left;simp[h1]
  · rw[aL h1,aL h1]
    by_cases h2:ng xs w=true
    · left;simp[h2]
    · rw[aL h2,aL h2]
      by_cases h3:(cnt w.ax xs:Int)≥8
      · left;rw[aY h3];exact⟨rfl,fun h=>by omega⟩
      · right;rw[aL h3,aL h3];exact⟨JR w xs,rfl,by simpa using h1,by simpa using h2,by omega⟩
section
variable {xs out:List au} {w x:au} {i:Int} {put b:Bool}
end
def vv (ops:Array Oper) (kb:Nat):List (Nat×Bool)→List (Nat×Bool)→List (Nat×Bool)→Array Bool→Bool
  |(i,true)::P,A,B,listed=>Region.free .any ops listed i&&(Region.ready .any ops listed).contains i&&!(Nat.beq i kb)&&(!(qq ops i)||((ops[kb]?).isNone||depOn ops 10 kb i))&&vv ops kb P A B (listed.setIfInBounds i true)
  |[],(i,false)::A,(j,false)::B,listed=>!(Nat.ble 1000 i)&&!(Nat.ble 1000 j)&&((Region.ready .any ops listed==[i,j])||(Region.ready .any ops listed==[j,i]))&&!(Nat.beq i kb)&&!(Nat.beq j kb)&&
     mL ops kb false A (listed.setIfInBounds i true)&&mL ops kb false B (listed.setIfInBounds j true)
  |_,_,_,_=>false
section
variable {P:Program} {ops:Array Oper} {S2:World→Prop} {K:Act→World→Prop} {kb:Nat}
theorem Ru:∀(Q A B:List (Nat×Bool)) (T:World→Prop) (listed:Array Bool) (a:Act) (w:World) (bH:Nat),gw (Q++A)≤bH→gw (Q++B)≤bH→qY ops listed→vv ops kb Q A B listed=true→listed.getD kb false=false→
    kP P ops S2 T (Q++A) K a w→kP P ops S2 T (Q++B) K a w→oC P ops kb T K bH listed a w:=by
  intro Q
  induction Q with
  |nil=>
   intro A B T listed a w bH u I hcl hok D hA hB
   match A,B,hok with
   |(i,false)::A,(j,false)::B,hok=>
    simp only[vv,bZ,gz,ji,jZ] at hok
    obtain⟨⟨⟨⟨⟨⟨h1,h2⟩,h3⟩,h4⟩,h5⟩,h6⟩,h7⟩:=hok
    have hik:i≠kb:=fun e=>by subst e;simp at h4
    have hjk:j≠kb:=fun e=>by subst e;simp at h5
    obtain⟨bH,rfl⟩:∃m,bH=m+1:=⟨bH-1,by simp[gw,h1] at u;omega⟩
    have J:gw A≤bH:=by simp[gw,h1] at u;omega
    have O:gw B≤bH:=by simp[gw,h2] at I;omega
    have U:i∈Region.ready .any ops listed:=by rcases h3 with h3|h3<;>rw[h3]<;>simp
    have Z:j∈Region.ready .any ops listed:=by rcases h3 with h3|h3<;>rw[h3]<;>simp
    rw[dS,vW h1] at hA
    rw[dS,vW h2] at hB
    refine⟨fun h0=>(by rw[h0] at U;cases U),fun k hk=>?_⟩
    have hkk:k=i∨k=j:=by rcases h3 with h3|h3<;>rw[h3] at hk<;>simp at hk<;>omega
    rcases hkk with rfl|rfl
    · exact mJ (fun V w' h'=>⟨fun _=>h'.1,x9 A kb T false T _ V w' bH J (l9 hcl U) h6 (fun _=>⟨rfl,by rw[getD_set_ne false hik];exact D⟩) (fun hz=>by cases hz) h'.2⟩) hA
    · exact mJ (fun V w' h'=>⟨fun _=>h'.1,x9 B kb T false T _ V w' bH O (l9 hcl Z) h7 (fun _=>⟨rfl,by rw[getD_set_ne false hjk];exact D⟩) (fun hz=>by cases hz) h'.2⟩) hB
  |cons p Q ih=>
   obtain⟨i,b⟩:=p
   intro A B T listed a w bH u I hcl hok D hA hB
   cases b with
   |false=>simp[vv] at hok
   |true=>
    obtain⟨bH,rfl⟩:∃m,bH=m+1:=⟨bH-1,by simp[gw] at u;omega⟩
    have J:gw (Q++A)≤bH:=by simp[gw] at u;omega
    have O:gw (Q++B)≤bH:=by simp[gw] at I;omega
    obtain⟨o,v,hi,hd,hy,hS,hA⟩:=hA
    obtain⟨o',ab,hi',am,X,ar,hB⟩:=hB
    rw[hi] at hi'
    cases hi'
    simp only[vv,bZ,gz,ji] at hok
    obtain⟨⟨⟨⟨h1,h2⟩,h3⟩,h4⟩,h5⟩:=hok
    have hik:i≠kb:=fun e=>by subst e;simp at h3
    have h2:i∈Region.ready .any ops listed:=by simpa using h2
    have ad:v=ab:=by
      rcases hy with ⟨hw,hr⟩|⟨hw,rfl⟩
      · rcases X with ⟨_,ae⟩|⟨G,_⟩
        · have hs:(if mK o=true then T else fun _=>True) w:=by split;exact hS;trivial
          have e1:=hr w hs
          have e2:=ae w hs
          rw[e1] at e2
          cases e2
          rfl
        · rw[hw] at G;cases G
      · rcases X with ⟨G,_⟩|⟨_,rfl⟩
        · rw[hw] at G;cases G
        · rfl
    subst ad
    have Y:=ih A B T (listed.setIfInBounds i true) (a.put o.dst v) w bH J O (l9 hcl h2) h5 (by rw[getD_set_ne false hik];exact D) hA hB
    cases hn:mK o with
    |false=>
     rw[hn] at hy
     exact qZ (S':=fun _=>True) hi hd hik (.inl fun _=>trivial) bH listed a w hcl (.inl fun _=>trivial) (Region.free_spec hi h1) h2 (by simpa using hy) trivial (fun _=>hS) Y
    |true=>
     rw[hn,aY rfl] at hy
     have hne:qq ops i=true:=by simp[qq,hi,hn]
     rw[hne] at h4
     simp only[AZ,false_or] at h4
     refine qZ (S':=T) hi hd hik (.inr ⟨fun _ h=>h,fun ok hok=>?_⟩) bH listed a w hcl (.inr D) (Region.free_spec hi h1) h2 hy hS (fun _=>hS) Y
     rcases h4 with h4|h4
     · rw[hok] at h4;simp at h4
     · exact⟨10,h4⟩
end
section
variable {C:ff} {ds:List Deferred} {i:Nat} {e:Env} {h:ay}
def JU (k:List Item) (Q A B:List (Nat×Bool)):Bool:=match q9 k with
  |some ops=>Nat.ble (gw (Q++A)) ops.size&&(Nat.ble (gw (Q++B)) ops.size&&vv ops (o6 A) Q A B (Array.replicate ops.size false))
  |none=>false
theorem At.gh (hm:C.P.follows .mixedOrders=true) (M:Nat→Prop) (Q A B:List (Nat×Bool)) (hL:JU (pt C.code i) Q A B=true) (u:Op C ds i h M (Q++A) e h) (D:Op C ds i h M (Q++B) e h):At C ds i e h:=by
  intro a w f is
  have u:=u a {w with drawn:=w.drawn+1} f is.nQ (dB.refl _ _)
  have D:=D a {w with drawn:=w.drawn+1} f is.nQ (dB.refl _ _)
  generalize pt C.code i=k at *
  unfold JU at hL
  split at hL
  · rename_i ops hd
    unfold q9 at hd
    split at hd
    · rename_i id G k'
      simp only[ey] at hd
      subst hd
      simp only[bZ] at hL
      have h1:=jz hL.1
      have h2:=jz hL.2.1
      refine dY.nQ hm fun t=>x7 (kb:=o6 A) (S:=holds C h M) _ _ _ _ _ (Ru Q A B _ _ _ _ _ h1 h2 ?_ hL.2.2 ?_ u D)
      · intro k o ho hk
        have hlt:k<G.size:=(lF.1 ho).1
        simp[hlt] at hk
      · simp only[ya,yb];split<;>rfl
    · cases hd
  · cases hL
end
inductive LT where
  |iU
  |mv (i:Nat) (b:Bool) (t:LT)
  |gh (i j:Nat) (A B:LT)
def LT.bw:LT→List (Nat×Bool)
  |.iU=>[]
  |.mv i b t=>(i,b)::t.bw
  |.gh i j A B=>(3000,false)::(i,false)::(A.bw++(4000,false)::(j,false)::B.bw)
def LT.gD (P:Program) (ops:Array Oper) (S2:World→Prop) (K:Act→World→Prop):LT→Mv
  |.iU=>fun _=>K
  |.mv i true t=>uo P ops i (t.gD P ops S2 K)
  |.mv i false t=>gv P ops S2 i (t.gD P ops S2 K)
  |.gh i j A B=>fun S a w=>gv P ops S2 i (A.gD P ops S2 K) S a w∧gv P ops S2 j (B.gD P ops S2 K) S a w
def LT.low:LT→Bool
  |.iU=>true
  |.mv i b t=>(b||!(Nat.ble 3000 i))&&t.low
  |.gh i j A B=>!(Nat.ble 3000 i)&&(!(Nat.ble 3000 j)&&(A.low&&B.low))
def LT.size:LT→Nat
  |.iU=>0
  |.mv _ _ t=>t.size+1
  |.gh _ _ A B=>max A.size B.size+1
def LT.ok (ops:Array Oper):LT→Array Bool→Bool
  |.iU,listed=>(Region.ready .any ops listed).isEmpty
  |.mv i true t,listed=>Region.free .any ops listed i&&(Region.ready .any ops listed).contains i&&(!(Nat.beq i 1000000)&&t.ok ops (listed.setIfInBounds i true))
  |.mv i false t,listed=>!(Nat.ble 1000 i)&&((Region.ready .any ops listed==[i])&&t.ok ops (listed.setIfInBounds i true))
  |.gh i j A B,listed=>!(Nat.ble 1000 i)&&(!(Nat.ble 1000 j)&&(((Region.ready .any ops listed==[i,j])||(Region.ready .any ops listed==[j,i]))&&(A.ok ops (listed.setIfInBounds i true)&&B.ok ops (listed.setIfInBounds j true))))
section
variable {P:Program} {ops:Array Oper} {S2:World→Prop} {K:Act→World→Prop}
theorem tV:∀(t:LT) (L:List (Nat×Bool)) (u:List Mv),t.low=true→dO P ops S2 K L=(fun _=>K)::u→dO P ops S2 K (t.bw++L)=t.gD P ops S2 K::u
  |.iU,L,u,_,h=>h
  |.mv i b t,L,u,hl,h=>by
   simp only[LT.low,bZ] at hl
   have ih:=tV t L u hl.2 h
   cases b with
   |true=>
    show uo P ops i (Mv.top (dO P ops S2 K (t.bw++L)))::Mv.iJ (dO P ops S2 K (t.bw++L))=_
    rw[ih];rfl
   |false=>
    have h3:Nat.ble 3000 i=false:=by simpa using hl.1
    show(bif Nat.ble 3000 i then _ else gv P ops S2 i (Mv.top (dO P ops S2 K (t.bw++L)))::Mv.iJ (dO P ops S2 K (t.bw++L)))=_
    rw[h3,ih];rfl
  |.gh i j A B,L,u,hl,h=>by
   simp only[LT.low,bZ,gz] at hl
   obtain⟨h1,h2,hA,hB⟩:=hl
   have D:=tV B L u hB h
   have G:dO P ops S2 K ((j,false)::(B.bw++L))=gv P ops S2 j (B.gD P ops S2 K)::u:=by
     show(bif Nat.ble 3000 j then _ else gv P ops S2 j (Mv.top (dO P ops S2 K (B.bw++L)))::Mv.iJ (dO P ops S2 K (B.bw++L)))=_
     rw[h2,D];rfl
   have I:=tV A ((4000,false)::(j,false)::(B.bw++L)) (gv P ops S2 j (B.gD P ops S2 K)::u) hA (by
     show(fun _=>K)::dO P ops S2 K ((j,false)::(B.bw++L))=_
     rw[G])
   have J:dO P ops S2 K ((i,false)::(A.bw++(4000,false)::(j,false)::(B.bw++L)))=gv P ops S2 i (A.gD P ops S2 K)::gv P ops S2 j (B.gD P ops S2 K)::u:=by
     show(bif Nat.ble 3000 i then _ else gv P ops S2 i (Mv.top (dO P ops S2 K (A.bw++(4000,false)::(j,false)::(B.bw++L))))::Mv.iJ (dO P ops S2 K (A.bw++(4000,false)::(j,false)::(B.bw++L))))=_
     rw[h1,I];rfl
   have e:(LT.gh i j A B).bw++L=(3000,false)::(i,false)::(A.bw++(4000,false)::(j,false)::(B.bw++L)):=by
     show(3000,false)::(i,false)::((A.bw++(4000,false)::(j,false)::B.bw)++L)=_
     rw[cJ];rfl
   rw[e]
   show(fun S a w=>Mv.top (dO P ops S2 K ((i,false)::(A.bw++(4000,false)::(j,false)::(B.bw++L)))) S a w∧Mv.top (Mv.iJ (dO P ops S2 K ((i,false)::(A.bw++(4000,false)::(j,false)::(B.bw++L))))) S a w)::
     Mv.iJ (Mv.iJ (dO P ops S2 K ((i,false)::(A.bw++(4000,false)::(j,false)::(B.bw++L)))))=_
   rw[J];rfl
theorem Rv:∀(t:LT) (T:World→Prop) (listed:Array Bool) (a:Act) (w:World) (bH:Nat),t.size≤bH→qY ops listed→t.ok ops listed=true→ops.size≤1000000→listed.getD 1000000 false=false→
    t.gD P ops S2 K T a w→oC P ops 1000000 T K bH listed a w:=by
  intro t
  induction t with
  |iU=>exact fun T listed a w bH _ _ hok _ _ h=>E5 (by simpa[LT.ok,List.isEmpty_iff] using hok) h bH
  |mv i b t ih=>
   intro T listed a w bH hf hcl hok hsz G h
   obtain⟨bH,rfl⟩:∃m,bH=m+1:=⟨bH-1,by simp[LT.size] at hf;omega⟩
   have I:t.size≤bH:=by simp[LT.size] at hf;omega
   cases b with
   |true=>
    obtain⟨o,v,hi,hd,hy,hS,h⟩:=h
    simp only[LT.ok,bZ,gz] at hok
    obtain⟨⟨h1,h2⟩,h3,h5⟩:=hok
    have hik:i≠1000000:=fun e=>by subst e;simp at h3
    have h2:i∈Region.ready .any ops listed:=by simpa using h2
    have J:=ih T (listed.setIfInBounds i true) (a.put o.dst v) w bH I (l9 hcl h2) h5 hsz (by rw[getD_set_ne false hik];exact G) h
    cases hn:mK o with
    |false=>
     rw[hn] at hy
     exact qZ (S':=fun _=>True) hi hd hik (.inl fun _=>trivial) bH listed a w hcl (.inl fun _=>trivial) (Region.free_spec hi h1) h2 (by simpa using hy) trivial (fun _=>hS) J
    |true=>
     rw[hn,aY rfl] at hy
     refine qZ (S':=T) hi hd hik (.inr ⟨fun _ h=>h,fun ok hok=>?_⟩) bH listed a w hcl (.inr G) (Region.free_spec hi h1) h2 hy hS (fun _=>hS) J
     have:=(lF.1 hok).1
     omega
   |false=>
    simp only[LT.ok,bZ,gz,jZ] at hok
    obtain⟨h1,h2,h3⟩:=hok
    have hik:i≠1000000:=fun e=>by subst e;simp at h1
    have D:i∈Region.ready .any ops listed:=by rw[h2];simp
    have h:iV P ops i (fun u w'=>T w'∧t.gD P ops S2 K T u w') a w:=by
      have h':gv P ops S2 i (t.gD P ops S2 K) T a w:=h
      unfold gv at h'
      rwa[aL (by rw[h1];simp)] at h'
    refine⟨fun h0=>(by rw[h0] at D;cases D),fun k hk=>?_⟩
    rw[h2] at hk
    obtain rfl:k=i:=by simpa using hk
    exact mJ (fun u w' h'=>⟨fun _=>h'.1,ih T _ u w' bH I (l9 hcl D) h3 hsz (by rw[getD_set_ne false hik];exact G) h'.2⟩) h
  |gh i j A B O U=>
   intro T listed a w bH hf hcl hok hsz G h
   obtain⟨bH,rfl⟩:∃m,bH=m+1:=⟨bH-1,by simp[LT.size] at hf;omega⟩
   have V:A.size≤bH:=by simp[LT.size] at hf;omega
   have X:B.size≤bH:=by simp[LT.size] at hf;omega
   simp only[LT.ok,bZ,gz,ji,jZ] at hok
   obtain⟨h1,h2,h3,hA,hB⟩:=hok
   have hik:i≠1000000:=fun e=>by subst e;simp at h1
   have hjk:j≠1000000:=fun e=>by subst e;simp at h2
   have D:i∈Region.ready .any ops listed:=by rcases h3 with h3|h3<;>rw[h3]<;>simp
   have Y:j∈Region.ready .any ops listed:=by rcases h3 with h3|h3<;>rw[h3]<;>simp
   obtain⟨g1,g2⟩:=h
   have g1:iV P ops i (fun u w'=>T w'∧A.gD P ops S2 K T u w') a w:=by unfold gv at g1;rwa[aL (by rw[h1];simp)] at g1
   have g2:iV P ops j (fun u w'=>T w'∧B.gD P ops S2 K T u w') a w:=by unfold gv at g2;rwa[aL (by rw[h2];simp)] at g2
   refine⟨fun h0=>(by rw[h0] at D;cases D),fun k hk=>?_⟩
   have hkk:k=i∨k=j:=by rcases h3 with h3|h3<;>rw[h3] at hk<;>simp at hk<;>omega
   rcases hkk with rfl|rfl
   · exact mJ (fun u w' h'=>⟨fun _=>h'.1,O T _ u w' bH V (l9 hcl D) hA hsz (by rw[getD_set_ne false hik];exact G) h'.2⟩) g1
   · exact mJ (fun u w' h'=>⟨fun _=>h'.1,U T _ u w' bH X (l9 hcl Y) hB hsz (by rw[getD_set_ne false hjk];exact G) h'.2⟩) g2
end
section
variable {C:ff} {ds:List Deferred} {i:Nat} {e:Env} {h r:ay} {M:Nat→Prop}
def JV (k:List Item) (t:LT):Bool:=match q9 k with
  |some ops=>Nat.ble t.size ops.size&&(Nat.ble ops.size 1000000&&(t.low&&t.ok ops (Array.replicate ops.size false)))
  |none=>false
theorem At.tree (hm:C.P.follows .mixedOrders=true) (M:Nat→Prop) (t:LT) (hL:JV (pt C.code i) t=true) (H:Op C ds i h M t.bw e h):At C ds i e h:=by
  intro a w f is
  have H:=H a {w with drawn:=w.drawn+1} f is.nQ (dB.refl _ _)
  generalize pt C.code i=k at *
  unfold JV at hL
  split at hL
  · rename_i ops hd
    unfold q9 at hd
    split at hd
    · rename_i id u k'
      simp only[ey] at hd
      subst hd
      simp only[bZ] at hL
      have h1:=jz hL.1
      have h2:=jz hL.2.1
      have hs:=tV (P:=C.P) (ops:=u) (S2:=holds C #[] fun _=>True) (K:=fun a w=>dY C.P C.ro C.fn C.Q k' a w) t [] [] hL.2.2.1 rfl
      rw[dm] at hs
      refine dY.nQ hm fun D=>x7 (kb:=1000000) (S:=holds C h M) _ _ _ _ _ (Rv (S2:=holds C #[] fun _=>True) t _ _ _ _ _ h1 ?_ hL.2.2.2 h2 ?_ ?_)
      · intro k o ho hk
        have hlt:k<u.size:=(lF.1 ho).1
        simp[hlt] at hk
      · simp only[ya,yb];split<;>rfl
      · have H:Mv.top (dO C.P u (holds C #[] fun _=>True) (fun a w=>dY C.P C.ro C.fn C.Q k' a w) t.bw) (holds C h M) a {w with drawn:=w.drawn+1}:=H
        rw[hs] at H
        exact H
    · cases hd
  · cases hL
theorem Op.si (D u:LT) {A B L:List (Nat×Bool)} (hA:D.low=true) (hB:u.low=true) (U:D.bw=A) (V:u.bw=B) (X:A++(4000,false)::B=L) (G:Op C ds i r M A e h) (I:Op C ds i r M B e h):Op C ds i r M ((3000,false)::L) e h:=by
  intro a w f is hk
  have G:=G a w f is hk
  have I:=I a w f is hk
  subst U V X
  unfold kP at *
  generalize (fun a w=>dY C.P C.ro C.fn C.Q (pt C.code i).tail a w)=K at *
  have J:=tV (P:=C.P) (ops:=g_ (pt C.code i)) (S2:=holds C #[] fun _=>True) (K:=K) D [] [] hA rfl
  have O:=tV (P:=C.P) (ops:=g_ (pt C.code i)) (S2:=holds C #[] fun _=>True) (K:=K) u [] [] hB rfl
  rw[dm] at J O
  have s2:=tV (P:=C.P) (ops:=g_ (pt C.code i)) (S2:=holds C #[] fun _=>True) (K:=K) D ((4000,false)::u.bw) (dO C.P (g_ (pt C.code i)) (holds C #[] fun _=>True) K u.bw) hA rfl
  rw[J] at G
  rw[O] at I s2
  show Mv.top (dO C.P (g_ (pt C.code i)) (holds C #[] fun _=>True) K (D.bw++(4000,false)::u.bw)) _ a w∧Mv.top (Mv.iJ (dO C.P (g_ (pt C.code i)) (holds C #[] fun _=>True) K (D.bw++(4000,false)::u.bw))) _ a w
  rw[s2]
  exact⟨G,I⟩
theorem Op.fk {j k:Nat} {A B:LT} (u:Op C ds i r M ((j,false)::A.bw) e h) (D:Op C ds i r M ((k,false)::B.bw) e h) (hA:A.low=true:=by rfl) (hB:B.low=true:=by rfl) (hj:Nat.ble 3000 j=false:=by rfl) (hk:Nat.ble 3000 k=false:=by rfl):Op C ds i r M (LT.gh j k A B).bw e h:=
  Op.si (.mv j false A) (.mv k false B) (by simp[LT.low,hj,hA]) (by simp[LT.low,hk,hB]) rfl rfl rfl u D
end
def kg (g:GH) (b:Nat) (x:List (Int×(List au))) (c:az):Prop:=r_ 45 cA g b x c
theorem kg.mono {g g':GH} {b:Nat} {x:List (Int×(List au))} {c:az} (h:kg g b x c) (hg:aM g g'):kg g' b x c:=r_.mono h hg
def tW (g:GH) (b:Nat) (x:List (Int×(List au))):Prop:=vp 45 cA g b x
theorem tW.mono {g g':GH} {b:Nat} {x:List (Int×(List au))} (h:tW g b x) (hg:aM g g'):tW g' b x:=vp.mono h hg
theorem kg.fK {h0:ay} {g0:GH} {S0:Nat→Prop} {g:GH} {L:List az} {h:ay} {C c:az} {b:Nat} {x:List (Int×(List au))} (H:kg g b x c) (s:St h0 g0 S0 g (C::L) h) (hc:∀p∈c,p∈C):tW (cS g C) b x:=r_.fK H s hc
def qf (g:GH) (a:iO) (v:Value):Prop:=∃u,v=.agg #[.int .i64 a.cX,u]∧an g 5 a_ u a.data
theorem qf.mono {g g':GH} {a:iO} {v:Value} (hg:aM g g') (h:qf g a v):qf g' a v:=by
 obtain⟨u,e,h0⟩:=h
 exact⟨u,e,h0.mono hg⟩
def jc (g:GH) (b:Nat) (x:List (Int×iO)) (c:az):Prop:=n8 qf g b x c
theorem jc.mono {g g':GH} {b:Nat} {x:List (Int×iO)} {c:az} (h:jc g b x c) (hg:aM g g'):jc g' b x c:=n8.mono (fun _ _=>qf.mono hg) h
def tX (g:GH) (b:Nat) (x:List (Int×iO)):Prop:=pW qf g b x
theorem tX.mono {g g':GH} {b:Nat} {x:List (Int×iO)} (h:tX g b x) (hg:aM g g'):tX g' b x:=pW.mono hg (fun _ _=>qf.mono hg) h
theorem jc.fK {h0:ay} {g0:GH} {S0:Nat→Prop} {g:GH} {L:List az} {h:ay} {C c:az} {b:Nat} {x:List (Int×iO)} (H:jc g b x c) (s:St h0 g0 S0 g (C::L) h) (hc:∀p∈c,p∈C):tX (cS g C) b x:=n8.fK (fun _ _=>qf.mono s.gH) H s hc
def b9 (g:GH) (b:Nat) (x:Sp) (c:az):Prop:=∃b0 c0 b1 c1 b2 c2 u D G I,c=(b,.cells #[vP b0,vP b1,vP b2,.int .i64 x.aE,.int .i64 x.count,.map (some u),.map (some G)] 100 (0,0))::(c0++(c1++(c2++(D++I))))∧eD g b0 x.aA c0∧gU g b1 x.aQ c1∧fU g b2 x.aN c2∧kg g u x.events D∧jc g G x.aW I
theorem b9.mono {g g':GH} {b:Nat} {x:Sp} {c:az} (h:b9 g b x c) (hg:aM g g'):b9 g' b x c:=by
 obtain⟨b0,c0,b1,c1,b2,c2,u,D,G,I,e,h0,h1,h2,h3,h4⟩:=h
 exact⟨b0,c0,b1,c1,b2,c2,u,D,G,I,e,h0.mono hg,h1.mono hg,h2.mono hg,h3.mono hg,h4.mono hg⟩
theorem b9.eq {g:GH} {b:Nat} {x y:Sp} {c:az} (h:b9 g b x c) (e:x=y):b9 g b y c:=e▸h
theorem Rw (B:World) (h:ay) (g:GH) (hg:bu g h) (G:bz g):
  aG prog B 21 #[] h g [] (fun ad g' L'=>∃b0 J,ad=vP b0∧b9 g' b0 vr J∧L'=[J]):=by
 refine aG.aq func21 fun R hR=>?_
 have O:=St.init hg
 refine At.go 1 1 []<|At.rg 8<|Op.c0 (some 1) (OC _ _ _ O.sub G) O ?_
 rintro _ ae _ bt am U ⟨V,b3,rfl,ar,X,rfl⟩;subst ae;clear am
 refine Op.c0 (some 2) (Rs _ _ _ U.sub G) U ?_
 rintro _ aw _ b4 a0 Y ⟨Z,b5,rfl,a1,X,rfl⟩;subst aw;clear a0
 refine Op.c0 (some 3) (PS _ _ _ Y.sub G) Y ?_
 rintro _ a3 _ b6 a4 a5 ⟨ab,b8,rfl,a6,X,rfl⟩;subst a3;clear a4
 refine Op.makeMap (mt:=97) (dst:=4) (by kernel_rfl) a5 fun I ca a7=>?_
 have a8:cG encI #[] 0 ([]:List (Int×Value)):=cG.empty _ _
 have a9:mD 45 cA g [] ([]:List (Int×(List au))) []:=mD.nil
 refine Op.makeMap (mt:=98) (dst:=5) (by kernel_rfl) (a7.nl.fs [1] rfl) fun u cb bb=>?_
 have bc:cG encI #[] 0 ([]:List (Int×Value)):=cG.empty _ _
 have bd:fu (qf g) [] ([]:List (Int×iO)):=fu.nil
 refine Op.px 1 [(6,.agg #[vP V,vP Z,vP ab,vI 0,vI 0,.map (some I),.map (some u)])]<|Op.bx 7 100 6 #[vP V,vP Z,vP ab,vI 0,vI 0,.map (some I),.map (some u)] bb fun D ce be=>Op.pg 2 [(0,vP D)] ?_
 obtain⟨cf,bi,bj⟩:=St.bF (Q:=kg g I ([]:List (Int×(List au)))) 2 (be.fs [1,1,3,3] rfl) ⟨_,_,_,_,rfl,a8,a9⟩
 have bk:jc g u ([]:List (Int×iO)) [(u,.map #[] 0)]:=⟨_,_,_,rfl,bc,bd⟩
 obtain⟨bm,bo,bs⟩:=St.bF (Q:=b9 g D (⟨[⟨[47],[],0, -1,0,0⟩],[],([]:f_),0,0,([]:List (Int×(List au))),([]:List (Int×iO))⟩:Sp)) 6 (bj.fs [2,1,3,4,5,5] rfl) ⟨_,_,_,_,_,_,_,_,_,_,rfl,ar,a1,a6,bi,bk⟩
 exact At.rt (vP D) (hR bs ⟨D,bm,rfl,bo.eq (by rfl),rfl⟩)
theorem DN (B:World) (h:ay) (g:GH) (hg:bu g h) (dv:bz g) (I:Nat) (s:Sp) (U:az) (dC:b9 g I s U) (kind:Int) (bs:Value) (de:List aj) (bt:an g 9 cV bs de) (h1:s.aQ.length≤1000000) (h2:de.length≤1000000) (hq:qe s.aQ s.events) (hs:St h g (aS [U]) g [U] h):
  aG prog B 111 #[vP I,vI kind,bs] h g [U] (fun dE g' L'=>∃b3,dE=.tuple #[]∧b9 g' I (sj s kind de) b3∧L'=[b3]):=by
 obtain⟨dT,d0,rfl⟩:=bt.ak
 refine aG.aq func111 fun R hR=>At.rp 9 3 [(10,vQ I 1)] ?_
 obtain⟨d1,b4,a4,d2,d3,b5,G,d4,d5,b6,d6,a5,d7,a6,d8,a7⟩:=dC
 have b8:=St.un [b4,d2,b5,d4,b6] d6 hs
 refine Op.l1 93 10 11 1 (vP a4) (b8.ag 0 rfl)<|Op.px 2 [(12,vI kind),(13,vL dT de.length d0)] ?_
 have a8:=b8.fs [1,1,2] rfl
 refine Op.cl (some 14) 1 a8 (Rq _ _ _ a8.sub dv a4 s.aQ _ d7 kind _ _ bt (by(try dsimp only)<;>omega) (by(try dsimp only)<;>omega) (St.pt 1 a8)) ?_
 rintro _ d9 _ gc ea eb ⟨ge,ed,ee,rfl,Z,a9,gg,rfl⟩;subst d9;clear ea
 obtain⟨ef,ca,rfl⟩:=Z.ak
 refine Op.pg 1 [(15,vI (((List.filter (fN kind de) s.aQ)).length:Int)),(16,vI 0)] ?_
 have eh:∀(m:Nat) (J:GH) (O:aM g J) (e:kJ) (i:Int) (ab:az) (bb:ay) (hm:(s.aQ.filter (fN kind de)).length-i.toNat<m) (h0:0≤i) (h3:i≤(s.aQ.filter (fN kind de)).length) (he:e=kK s.events ((s.aQ.filter (fN kind de)).take i.toNat)) (ad:kg J G e ab) (ae:St h g (aS [U]) J [ee,ed,[(I,Obj.cells #[vP d1,vP a4,vP d3,vI s.aE,vI s.count,.map (some G),.map (some d5)] 100 (0,0))],b4,b5,ab,b6] bb),At (bP prog B 111 f111 R) [] 1 [(0,vP I),(14,vL ef (((List.filter (fN kind de) s.aQ)).length) ca),(15,vI (((List.filter (fN kind de) s.aQ)).length:Int)),(16,vI i)] bb:=by
  intro m;induction m with
  |zero=>intros;omega
  |succ m am=>
   intro J O e i ab bb hm h0 h3 he ad ae
   replace a5:=a5.mono O
   replace a6:=a6.mono O
   replace a7:=a7.mono O
   replace Z:=Z.mono O
   replace a9:=a9.mono O
   refine At.go 2 1 [(17,.bool (decide (i<(((List.filter (fN kind de) s.aQ)).length:Int))))]<|At.fd (i<(((List.filter (fN kind de) s.aQ)).length:Int)) 17 3 6 (fun gk=>?_) fun gn=>?_
   ·refine At.rg 4 ?_
    obtain⟨u,V⟩:=bW (List.filter (fN kind de) s.aQ) i
    obtain⟨ej,cb,gs,g1,em,en,bc⟩:=h_.bB (Z.toH ae 1 rfl) _ V
    cases em
    refine Op.iq 41 45 3 32 (((List.filter (fN kind de) s.aQ)).length) ca 14 16 18 ej cb i ?_
    replace bc:cut _ _ _=[vI u.ax,vI u.ah,vS u.af]:=bc
    refine Op.la 45 18 19 (cb+i.toNat*3) 3 [vI u.ax,vI u.ah,vS u.af] en ?_ (hv:=bc)
    refine Op.al 7 45 lp ae fun ar g2 ep=>Op.sg 45 7 19 0 0 #[vI u.ax,vI u.ah,vS u.af] ep zt fun g3 D=>Op.gt 4<|At.gh (by kernel_rfl) (aS [ab]) [(0,true),(1,true),(2,true),(4,true),(6,true),(7,true),(8,true),(10,true),(3,true),(5,true),(9,true),(11,true),(13,true)] [(12,false),(14,false),(15,false),(16,false)] [(14,false),(12,false),(15,false),(16,false)] (by kernel_rfl) ?_ ?_
    ·show Op _ _ _ _ _ [(0,true),(1,true),(2,true),(4,true),(6,true),(7,true),(8,true),(10,true),(3,true),(5,true),(9,true),(11,true),(13,true),(12,false),(14,false),(15,false),(16,false)] _ _
     refine Op.px 8 [(22,vQ I 5),(24,vP ar),(28,vQ I 5),(30,vP ar)]<|Op.lf 97 22 5 23 1 (.map (some G)) (D.fy 3 [6] rfl rfl rfl) (D.ag 3 rfl)<|Op.lf 3 24 0 25 1 (vI u.ax) (D.fy 0 [6] rfl rfl rfl) (D.ag 0 rfl)<|Op.lf 97 28 5 29 1 (.map (some G)) (D.fy 3 [6] rfl rfl rfl) (D.ag 3 rfl)<|Op.lf 3 30 0 31 1 (vI u.ax) (D.fy 0 [6] rfl rfl rfl) (D.ag 0 rfl) ?_
     refine Op.qv (T:=45) (x:=7) (o:=0) (d:=33) (n:=3) (vs:=[vI u.ax,vI u.ah,vS u.af]) (by kernel_rfl) (by kernel_rfl) (by kernel_rfl) (D.fy 0 [6] rfl rfl rfl) (D.ag 0 rfl) (by kernel_rfl) rfl ?_
     obtain⟨ce,cf,g4,er,aw,a0,et⟩:=ad
     have bd:=St.un [er] aw (D.fs [5,5,5,5,5,5,6] rfl)
     rcases et.gS u.ax with ⟨be,ex,bi⟩|⟨g5,X,g6,g7,be,ex,ch,ci,bi⟩
     ·refine Op.mn (.slice none 0 0) 97 29 31 32 u.ax (bd.ag 0 rfl) a0 be<|Op.ls 34 1 45 #[vI u.ax,vI u.ah,vS u.af] bd fun g8 g9 eA=>?_
      have ck:=eA.nl
      have eB:=aH.nil 45 cA J
      refine Op.ap 32 34 41 41 35 45 32 cA (ys:=[u]) eB ck 0 (⟨_,_,rfl,rfl,Reads.nil⟩) (by(simp only[bJ,cF];omega)) (fun p hq _=>absurd hq (by simp)) (cT.lit (m:=1) (sz:=3) (ck.ag 1 rfl) (news:=[vI u.ax,vI u.ah,vS u.af]) rfl rfl (by simp[Value.oneCell']) _) fun ha hb hf co eI hh=>?_
      obtain⟨c3,c4,rfl⟩:=co.ak
      refine Op.nY (d:=.int .i64) (z:=.slice none 0 0) (mt:=97) (x:=23) (ix:=25) (y:=35) (k:=u.ax) (v:=vL c3 ((([]:List au)++([u])).length) c4) (.inl (by kernel_rfl)) (by kernel_rfl) kC (by kernel_rfl) (by kernel_rfl) (by kernel_rfl) ((eI.fs [1] rfl).drop) 1 rfl a0 (fun _=>⟨(G,.map ce cf),by simp[aw],rfl⟩) fun hj hl hn eJ eK=>?_
      have eL:=bi.1 _ (vL c3 ((([]:List au)++([u])).length) c4) _ _ (aM.refl _) co
      refine Op.gt 5<|At.rg 2<|Op.cO 36 (i+1) (by omega) (by(have:=kX (fN kind de) s.aQ;omega))<|Op.pg 1 [(16,vI (i+1))] ?_
      obtain⟨ho,eQ,e1⟩:=St.bF (Q:=kg J G (dz e u.ax (([]:List au)++([u])))) 2 ((St.mg 2 (eK.fs [1,2,2] rfl)).fs [1] rfl) ⟨_,_,_,_,rfl,eJ,eL⟩
      exact At.ke (am _ O (dz e u.ax (([]:List au)++([u]))) (i+1) _ _ (by omega) (by omega) (by omega) (by exact Jy he h0 V ‹_›) eQ ((e1.fs [6,6,6,6,6,6] rfl).drop))
     obtain⟨a116,e2,rfl⟩:=ch.ak
     have c5:=St.si ci (bd.fs [1] rfl)
     refine Op.mk (.slice none 0 0) 97 29 31 32 u.ax (vL a116 X.length e2) (c5.ag 2 rfl) a0 be<|Op.ls 34 1 45 #[vI u.ax,vI u.ah,vS u.af] c5 fun hp hr c6=>Op.ap 32 34 41 41 35 45 32 cA (ys:=[u]) ch c6 1 (⟨_,_,rfl,rfl,Reads.nil⟩) (by(have:=JA hq he ‹_›;simp only[bJ,cF];omega)) (fun p hq _=>⟨p,by simp[aw,ci.mem_iff,hq],rfl⟩) (cT.lit (m:=1) (sz:=3) (c6.ag 0 rfl) (news:=[vI u.ax,vI u.ah,vS u.af]) rfl rfl (by simp[Value.oneCell']) _) fun hu hw hx c8 e3 hy=>?_
     obtain⟨c9,da,rfl⟩:=c8.ak
     refine Op.nY (d:=.int .i64) (z:=.slice none 0 0) (mt:=97) (x:=23) (ix:=25) (y:=35) (k:=u.ax) (v:=vL c9 ((X++([u])).length) da) (.inl (by kernel_rfl)) (by kernel_rfl) kC (by kernel_rfl) (by kernel_rfl) (by kernel_rfl) ((e3).drop) 2 rfl a0 (fun _=>⟨(G,.map ce cf),by simp[aw],rfl⟩) fun hz hA hB e4 e5=>?_
     have e6:=bi.1 _ (vL c9 ((X++([u])).length) da) _ _ (aM.refl _) c8
     refine Op.gt 5<|At.rg 2<|Op.cO 36 (i+1) (by omega) (by(have:=kX (fN kind de) s.aQ;omega))<|Op.pg 1 [(16,vI (i+1))] ?_
     obtain⟨hC,e7,e8⟩:=St.bF (Q:=kg J G (dz e u.ax (X++([u])))) 2 ((St.mg 2 e5).fs [1] rfl) ⟨_,_,_,_,rfl,e4,e6⟩
     exact At.ke (am _ O (dz e u.ax (X++([u]))) (i+1) _ _ (by omega) (by omega) (by omega) (by exact Jz he h0 V ‹_›) e7 ((e8.fs [6,6,6,6,6,6] rfl).drop))
    show Op _ _ _ _ _ [(0,true),(1,true),(2,true),(4,true),(6,true),(7,true),(8,true),(10,true),(3,true),(5,true),(9,true),(11,true),(13,true),(14,false),(12,false),(15,false),(16,false)] _ _
    refine Op.px 8 [(22,vQ I 5),(24,vP ar),(28,vQ I 5),(30,vP ar)]<|Op.lf 97 22 5 23 1 (.map (some G)) (D.fy 3 [6] rfl rfl rfl) (D.ag 3 rfl)<|Op.lf 3 24 0 25 1 (vI u.ax) (D.fy 0 [6] rfl rfl rfl) (D.ag 0 rfl)<|Op.lf 97 28 5 29 1 (.map (some G)) (D.fy 3 [6] rfl rfl rfl) (D.ag 3 rfl)<|Op.lf 3 30 0 31 1 (vI u.ax) (D.fy 0 [6] rfl rfl rfl) (D.ag 0 rfl) ?_
    refine Op.qv (T:=45) (x:=7) (o:=0) (d:=33) (n:=3) (vs:=[vI u.ax,vI u.ah,vS u.af]) (by kernel_rfl) (by kernel_rfl) (by kernel_rfl) (D.fy 0 [6] rfl rfl rfl) (D.ag 0 rfl) (by kernel_rfl) rfl<|Op.ls 34 1 45 #[vI u.ax,vI u.ah,vS u.af] D fun hD hE e9=>?_
    obtain⟨db,dc,hF,fa,a1,a3,fg⟩:=ad
    have bj:=St.un [fa] a1 (e9.fs [6,6,6,6,6,6,6,7] rfl)
    rcases fg.gS u.ax with ⟨bk,fi,bm⟩|⟨hG,Y,hH,hI,bk,fi,dd,df,bm⟩
    ·refine Op.mn (.slice none 0 0) 97 29 31 32 u.ax (bj.ag 0 rfl) a3 bk ?_
     have dg:=bj.nl
     have fj:=aH.nil 45 cA J
     refine Op.ap 32 34 41 41 35 45 32 cA (ys:=[u]) fj dg 0 (⟨_,_,rfl,rfl,Reads.nil⟩) (by(simp only[bJ,cF];omega)) (fun p hq _=>absurd hq (by simp)) (cT.lit (m:=1) (sz:=3) (dg.ag 3 rfl) (news:=[vI u.ax,vI u.ah,vS u.af]) rfl rfl (by simp[Value.oneCell']) _) fun hJ hK hL dj fl hN=>?_
     obtain⟨dk,dl,rfl⟩:=dj.ak
     refine Op.nY (d:=.int .i64) (z:=.slice none 0 0) (mt:=97) (x:=23) (ix:=25) (y:=35) (k:=u.ax) (v:=vL dk ((([]:List au)++([u])).length) dl) (.inl (by kernel_rfl)) (by kernel_rfl) kC (by kernel_rfl) (by kernel_rfl) (by kernel_rfl) ((fl.fs [3] rfl).drop) 1 rfl a3 (fun _=>⟨(G,.map db dc),by simp[a1],rfl⟩) fun hO hP hQ fp fr=>?_
     have ft:=bm.1 _ (vL dk ((([]:List au)++([u])).length) dl) _ _ (aM.refl _) dj
     refine Op.gt 5<|At.rg 2<|Op.cO 36 (i+1) (by omega) (by(have:=kX (fN kind de) s.aQ;omega))<|Op.pg 1 [(16,vI (i+1))] ?_
     obtain⟨hS,fv,fw⟩:=St.bF (Q:=kg J G (dz e u.ax (([]:List au)++([u])))) 2 ((St.mg 2 (fr.fs [1,2,2] rfl)).fs [1] rfl) ⟨_,_,_,_,rfl,fp,ft⟩
     exact At.ke (am _ O (dz e u.ax (([]:List au)++([u]))) (i+1) _ _ (by omega) (by omega) (by omega) (by exact Jy he h0 V ‹_›) fv ((fw.fs [6,6,6,6,6,6] rfl).drop))
    obtain⟨fx,f0,rfl⟩:=dd.ak
    have bo:=St.si df (bj.fs [1] rfl)
    refine Op.mk (.slice none 0 0) 97 29 31 32 u.ax (vL fx Y.length f0) (bo.ag 2 rfl) a3 bk<|Op.ap 32 34 41 41 35 45 32 cA (ys:=[u]) dd bo 0 (⟨_,_,rfl,rfl,Reads.nil⟩) (by(have:=JA hq he ‹_›;simp only[bJ,cF];omega)) (fun p hq _=>⟨p,by simp[a1,df.mem_iff,hq],rfl⟩) (cT.lit (m:=1) (sz:=3) (bo.ag 3 rfl) (news:=[vI u.ax,vI u.ah,vS u.af]) rfl rfl (by simp[Value.oneCell']) _) fun hT hV hW dp f1 hX=>?_
    obtain⟨dq,du,rfl⟩:=dp.ak
    refine Op.nY (d:=.int .i64) (z:=.slice none 0 0) (mt:=97) (x:=23) (ix:=25) (y:=35) (k:=u.ax) (v:=vL dq ((Y++([u])).length) du) (.inl (by kernel_rfl)) (by kernel_rfl) kC (by kernel_rfl) (by kernel_rfl) (by kernel_rfl) ((f1.fs [3] rfl).drop) 2 rfl a3 (fun _=>⟨(G,.map db dc),by simp[a1],rfl⟩) fun hY hZ h4 f2 f3=>?_
    have f4:=bm.1 _ (vL dq ((Y++([u])).length) du) _ _ (aM.refl _) dp
    refine Op.gt 5<|At.rg 2<|Op.cO 36 (i+1) (by omega) (by(have:=kX (fN kind de) s.aQ;omega))<|Op.pg 1 [(16,vI (i+1))] ?_
    obtain⟨h5,f5,f6⟩:=St.bF (Q:=kg J G (dz e u.ax (Y++([u])))) 2 ((St.mg 2 f3).fs [1] rfl) ⟨_,_,_,_,rfl,f2,f4⟩
    exact At.ke (am _ O (dz e u.ax (Y++([u]))) (i+1) _ _ (by omega) (by omega) (by omega) (by exact Jz he h0 V ‹_›) f5 ((f6.fs [6,6,6,6,6,6] rfl).drop))
   obtain⟨f7,f8,f9⟩:=St.bF (Q:=b9 J I (⟨s.aA,(List.filter (fun w=>!fN kind de w) s.aQ),s.aN,s.aE,s.count,e,s.aW⟩:Sp)) 6 (ae.fs [1,6,6,6,4,6,6] rfl) ⟨_,_,_,_,_,_,_,_,_,_,rfl,a5,a9,a6,ad,a7⟩
   exact At.rt eY<|hR (f9.fs [1] rfl).drop ⟨f7,rfl,f8.eq (by(rw[QX he ‹_›];rfl)),rfl⟩
 exact At.ke (eh _ _ (aM.refl _) s.events 0 _ _ (bG _) (by omega) (by omega) (by rfl) d8 eb)
theorem JW (B:World) (h:ay) (g:GH) (hg:bu g h) (u:bz g) (D:Nat) (s:Sp) (G:az) (J:b9 g D s G) (p:aj) (I:dA s) (hp:p.length≤1000000000) (hs:St h g (aS [G]) g [G] h):
  aG prog B 89 #[vP D,vS p] h g [G] (fun am g' L'=>∃X,am=.tuple #[]∧b9 g' D (vu s p) X∧L'=[X]):=by
 refine aG.aq func89 fun R hR=>At.rp 4 2 [(6,vP D),(7,vS p)]<|Op.ls 8 1 9 #[vS p] hs fun Y bc ar=>?_
 have aw:aH 9 cV g (vL (some ⟨Y,0,none⟩) 1 1) [p] [(Y,Obj.cells #[vS p] 9 (0,0))]:=aH.lit (by kernel_rfl) (by unfold maxLen;decide) (by kernel_rfl) ⟨_,_,rfl,rfl,Reads.nil⟩
 obtain⟨bd,O,Z,a0⟩:=aH.freeze aw (ar)
 replace u:=u.mono Z
 replace J:=J.mono Z
 refine Op.cl (some 9) 1 O (DN _ _ _ O.sub u D s _ J 1 _ _ a0 (by((try dsimp only)<;>((have:=I.wl;omega)))) (by((try dsimp only)<;>((simp;done)))) (by(try dsimp only)<;>exact I.quo) (St.pt 1 O)) ?_
 rintro _ a1 _ be a3 ab ⟨bi,rfl,U,rfl⟩
 replace u:=u.mono a3
 refine Op.gt 1<|At.rp 7 1 [(11,vS p)]<|Op.c1 12 (xm _ _ _ ab.sub u p (by(try dsimp only)<;>omega)) ab fun bj a4=>Op.pg 2 [(4,vS (parentOf p))]<|At.rp 4 2 [(15,vP D),(16,vS (parentOf p))] ?_
 refine Op.ls 17 1 9 #[vS (parentOf p)] a4 fun ad bk a5=>?_
 have a6:aH 9 cV a1 (vL (some ⟨ad,0,none⟩) 1 1) [parentOf p] [(ad,Obj.cells #[vS (parentOf p)] 9 (0,0))]:=aH.lit (by kernel_rfl) (by unfold maxLen;decide) (by kernel_rfl) ⟨_,_,rfl,rfl,Reads.nil⟩
 obtain⟨bm,V,ae,a7⟩:=aH.freeze a6 (a5)
 replace u:=u.mono ae
 replace U:=U.mono ae
 refine Op.cl (some 18) 1 V (DN _ _ _ V.sub u D (sj s 1 ([p])) _ U 2 _ _ a7 (by((try dsimp only)<;>((have:=(I.oc 1 [p]).wl;omega)))) (by((try dsimp only)<;>((simp;done)))) (by(try dsimp only)<;>exact(I.oc _ _).quo) (St.pt 1 V)) ?_
 rintro _ bo _ bs bt a8 ⟨a9,rfl,bb,rfl⟩
 exact Op.gt 3<|At.rt eY (hR a8 ⟨a9,rfl,bb.eq (by rfl),rfl⟩)
theorem JX (B:World) (h:ay) (g:GH) (hg:bu g h) (U:bz g) (D:Nat) (s:Sp) (X:az) (dd:b9 g D s X) (b6:Value) (G:List Int) (aw:an g 3 (dK .i64) b6 G) (df:dA s) (hc:G.length≤1000000) (hs:St h g (aS [X]) g [X] h):
  aG prog B 72 #[vP D,b6] h g [X] (fun dg g' L'=>∃b8,dg=.tuple #[]∧b9 g' D (lW s G) b8∧L'=[b8]):=by
 obtain⟨ca,a0,rfl⟩:=aw.ak
 refine aG.aq func72 fun R hR=>At.go 1 3 [(8,vL ca G.length a0),(9,vI (G.length:Int)),(10,vI 0)] ?_
 have dj:∀(m:Nat) (I:GH) (a1:aM g I) (x:Sp) (i:Int) (a3:az) (a9:ay) (hm:G.length-i.toNat<m) (h0:0≤i) (h3:i≤G.length) (V:dA x) (hx:x=lW s (G.take i.toNat)) (bb:b9 I D x a3) (a4:St h g (aS [X]) I [a3] a9),At (bP prog B 72 f72 R) [] 1 [(0,vP D),(8,vL ca G.length a0),(9,vI (G.length:Int)),(10,vI i)] a9:=by
  intro m;induction m with
  |zero=>intros;omega
  |succ m dk=>
   intro I a1 x i a3 a9 hm h0 h3 V hx bb a4
   replace U:=U.mono a1
   replace aw:=aw.mono a1
   refine At.go 2 1 [(11,.bool (decide (i<(G.length:Int))))]<|At.fd (i<(G.length:Int)) 11 3 15 (fun f3=>?_) fun f4=>?_
   ·refine At.rg 3 ?_
    obtain⟨u,dl⟩:=bW G i
    obtain⟨cb,bc,f5,f6,dp,dq,bd⟩:=an.bB aw _ dl
    cases dp
    refine Op.iq 78 3 1 8 G.length a0 8 10 12 cb bc i ?_
    replace bd:cut _ _ _=[vI u]:=bd
    refine Op.l1 3 12 13 (bc+i.toNat*1) (vI u) (a4.sub _ _ dq) ?_ (hv:=bN bd 0 rfl)
    refine Op.pg 4 [(5,vI u)]<|At.rp 7 3 [(16,vQ D 1)] ?_
    obtain⟨ce,a5,cf,du,ch,dv,ci,dC,f7,dE,dT,ck,d0,d1,d2,d3⟩:=bb
    have co:=St.un [a5,du,dv,dC,dE] dT a4
    refine Op.l1 93 16 17 1 (vP cf) (co.ag 0 rfl)<|Op.px 1 [(18,vI u)]<|Op.ls 19 1 3 #[vI u] co fun be f8 d4=>?_
    have d5:aH 3 (dK .i64) I (vL (some ⟨be,0,none⟩) 1 1) [u] [(be,Obj.cells #[vI u] 3 (0,0))]:=aH.lit (by kernel_rfl) (by unfold maxLen;decide) (by kernel_rfl) ⟨_,_,rfl,rfl,Reads.nil⟩
    have ab:=d4.fs [2,2,3,3] rfl
    have c3:=ab.gH
    have d6:=d5.fK ab
    refine Op.le (some 20) 1 ab (Rr _ _ _ ab.jk (U.mono c3) cf x.aQ _ (d0.mono c3) _ _ d6 (by((try dsimp only)<;>((have:=V.wl;omega)))) (by((try dsimp only)<;>((simp;done)))) (St.pt 1 ab.freeze.1)) (fun _ _ _ hp=>by obtain⟨_,_,_,J,_⟩:=hp;exact J) ?_
    rintro _ _ f9 c4 ⟨gc,rfl,bi,J,rfl⟩;clear J
    replace bi:=bi.bw (g':=I)
    refine Op.gt 5<|At.rp 6 3 [(23,vQ D 5)]<|Op.l1 97 23 24 5 (.map (some ci)) (c4.ag 2 rfl)<|Op.px 1 [(25,vI u)] ?_
    obtain⟨ge,gg,gk,d7,d8,d9,ea⟩:=d2
    refine Op.yJ (d:=.int .i64) (z:=.slice none 0 0) (mt:=97) (kt:=3) (x:=24) (ix:=25) (dst:=none) (k:=u) (by kernel_rfl) (by kernel_rfl) kC (by kernel_rfl) (by kernel_rfl) (St.un [d7] d8 (c4.fs [4,4,4,4,4,5] rfl)) 0 rfl d9 zt fun gn gs eb ed=>?_
    obtain⟨g1,g2,ee,ef⟩:=ea.Qo u
    have c5:=(St.si ee (ed.fs [1] rfl)).drop
    refine Op.gt 6<|At.rp 7 3 [(28,vQ D 2)]<|Op.l1 95 28 29 2 (vP ch) (c5.ag 4 rfl)<|Op.px 1 [(30,vI u)]<|Op.ls 31 1 3 #[vI u] c5 fun bj g3 eh=>?_
    have ej:aH 3 (dK .i64) I (vL (some ⟨bj,0,none⟩) 1 1) [u] [(bj,Obj.cells #[vI u] 3 (0,0))]:=aH.lit (by kernel_rfl) (by unfold maxLen;decide) (by kernel_rfl) ⟨_,_,rfl,rfl,Reads.nil⟩
    have ad:=eh.fs [6,6,6,6,6,6,7,7] rfl
    have c6:=ad.gH
    have em:=ej.fK ad
    refine Op.le (some 32) 1 ad (P3 _ _ _ ad.jk (U.mono c6) ch x.aN _ (d1.mono c6) _ _ em (by(try dsimp only)<;>exact V.aN) (by((try dsimp only)<;>((simp;done)))) (St.pt 1 ad.freeze.1)) (fun _ _ _ hp=>by obtain⟨_,_,_,_,_,_,J,_⟩:=hp;exact J) ?_
    rintro _ _ g4 c8 ⟨g5,en,g6,rfl,bk,bm,J,rfl⟩;clear J
    obtain⟨g7,g8,rfl⟩:=bk.ak
    replace bk:=bk.bw (fun _ _ _ _ h=>h) (g':=I)
    replace bm:=bm.bw (g':=I)
    refine Op.gt 7<|At.rp 9 3 [(35,vP D)]<|Op.l1 91 35 36 0 (vP ce) (c8.ag 7 rfl)<|Op.px 1 [(37,vI u)]<|Op.ls 38 1 3 #[vI u] c8 fun Y g9 ep=>?_
    have er:aH 3 (dK .i64) I (vL (some ⟨Y,0,none⟩) 1 1) [u] [(Y,Obj.cells #[vI u] 3 (0,0))]:=aH.lit (by kernel_rfl) (by unfold maxLen;decide) (by kernel_rfl) ⟨_,_,rfl,rfl,Reads.nil⟩
    have ae:=St.mg 2 (ep.fs [8,8,8,8,8,8,8,8,9,9] rfl)
    have et:=ae.gH
    have ex:=er.Bx (c:=([(Y,Obj.cells #[vI u] 3 (0,0))]++a5:az)) ae (by intro p hp;simp only[eo,hp,nt,nv])
    have eA:=eD.fK (C:=([(Y,Obj.cells #[vI u] 3 (0,0))]++a5:az)) ck ae (by intro p hp;simp only[eo,hp,nt,nv])
    refine Op.le (some 39) 0 ae (Ol _ _ _ ae.jk (U.mono et) ce x.aA eA _ _ ex (by(try dsimp only)<;>exact V.tree) (by((try dsimp only)<;>((simp;done))))) (fun _ _ _ hp=>by obtain⟨_,_,_,_,J,_⟩:=hp;exact J) ?_ (hM:=(fun _ _ h=>absurd h (gP _)))
    rintro _ _ ha eB ⟨hb,eI,rfl,Z,J,rfl⟩;clear J
    obtain⟨a117,c9,rfl⟩:=Z.ak
    replace Z:=Z.bw (fun _ _ _ _ h=>h) (g':=I)
    refine Op.pg 8 [(40,vI ((j5 x.aA ([u])).length:Int)),(41,vI 0)] ?_
    obtain⟨he,eJ,eK⟩:=St.bF (Q:=kg I ci (eR x.events u)) 2 ((St.sp [[(Y,Obj.cells #[vI u] 3 (0,0))],a5] eB).fs [5,5,5,5,5,5,6,7] rfl) ⟨_,_,_,_,rfl,eb,ef⟩
    obtain⟨hf,eL,eQ⟩:=St.bF (Q:=b9 I D (⟨x.aA,(List.filter (fun w=>!qa ([u]) w) x.aQ),(mq (pY ([u])) x.aN),x.aE,x.count,(eR x.events u),x.aW⟩:Sp)) 6 (eK.fs [7,7,6,6,5,10,6,8,9,9,10] rfl) ⟨_,_,_,_,_,_,_,_,_,_,rfl,ck,bi,bm,eJ,d3⟩
    have e1:∀(m:Nat) (am:GH) (a6:aM I am) (y:Sp) (q:Int) (bo:az) (bs:ay) (hm:(j5 x.aA [u]).length-q.toNat<m) (h4:0≤q) (h5:q≤(j5 x.aA [u]).length) (h6:(j5 x.aA [u]).length≤1000) (ar:dA y) (hy:y=((j5 x.aA [u]).take q.toNat).foldl lq (sn x u)) (bt:b9 am D y bo) (a7:St h g (aS [X]) am [bo,[(Y,Obj.cells #[vI u] 3 (0,0))],eI,[(bj,Obj.cells #[vI u] 3 (0,0))],en,[(be,Obj.cells #[vI u] 3 (0,0))]] bs),At (bP prog B 72 f72 R) [] 8 [(0,vP D),(8,vL (some ⟨cb,bc,none⟩) G.length a0),(9,vI (G.length:Int)),(10,vI i),(39,vL a117 ((j5 x.aA ([u])).length) c9),(40,vI ((j5 x.aA ([u])).length:Int)),(41,vI q)] bs:=by
     intro m;induction m with
     |zero=>intros;omega
     |succ m e2=>
      intro am a6 y q bo bs hm h4 h5 h6 ar hy bt a7
      replace Z:=Z.mono a6
      replace U:=U.mono a6
      refine At.go 9 1 [(42,.bool (decide (q<((j5 x.aA ([u])).length:Int))))]<|At.fd (q<((j5 x.aA ([u])).length:Int)) 42 10 14 (fun hh=>?_) fun hj=>?_
      ·refine At.rg 3 ?_
       obtain⟨O,a8⟩:=bW (j5 x.aA ([u])) q
       obtain⟨e3,da,hl,hn,e4,e5,b3⟩:=h_.bB (Z.toH a7 2 rfl) _ a8
       cases e4
       refine Op.iq 40 9 1 16 ((j5 x.aA ([u])).length) c9 39 41 43 e3 da q ?_
       replace b3:cut _ _ _=[vS O]:=b3
       refine Op.l1 9 43 44 (da+q.toNat*1) (vS O) e5 ?_ (hv:=bN b3 0 rfl)
       refine Op.pg 11 [(7,vS O)]<|At.rp 6 3 [(47,vP D)] ?_
       obtain⟨db,e6,ho,e7,hq,e8,hr,e9,hu,fa,fg,fi,fj,fl,fp,fr⟩:=bt
       have dc:=St.un [e6,e7,e8,e9,fa] fg a7
       refine Op.l1 91 47 48 0 (vP db) (dc.ag 0 rfl)<|Op.px 1 [(49,vS O)] ?_
       have b4:=dc.fs [1] rfl
       refine Op.cl (some 50) 1 b4 (C0 _ _ _ b4.sub U db y.aA _ fi O (-1) (by(try dsimp only)<;>exact ar.tree) (by((try dsimp only)<;>((have:=JC V.tree (bY a8);omega)))) (St.pt 1 b4)) ?_
       rintro _ ft _ hw fv fw ⟨hz,rfl,fx,J,rfl⟩;subst ft;clear fv
       refine Op.gt 12<|At.rp 3 2 [(51,vP D),(52,vS O)] ?_
       obtain⟨hA,f0,b5⟩:=St.bF (Q:=b9 am D (⟨(fZ y.aA O (-1)).1,y.aQ,y.aN,y.aE,y.count,y.events,y.aW⟩:Sp)) 6 (fw.fs [1] rfl) ⟨_,_,_,_,_,_,_,_,_,_,rfl,fx,fj,fl,fp,fr⟩
       refine Op.cl (some 53) 1 b5 (JW _ _ _ b5.sub U D (⟨(fZ y.aA O (-1)).1,y.aQ,y.aN,y.aE,y.count,y.events,y.aW⟩:Sp) _ f0 O (by((try dsimp only)<;>(exact ar.tr (ar.tree.drop _ _)))) (by((try dsimp only)<;>((have:=JC V.tree (bY a8);omega)))) (St.pt 1 b5)) ?_
       rintro _ hB _ hC hD f1 ⟨hE,rfl,f2,rfl⟩
       exact Op.gt 13<|At.rg 2<|Op.vq 54 (q+1)<|Op.pg 8 [(41,vI (q+1))] (At.ke (e2 _ (aM.trans a6 (by repeat (first|assumption|apply aM.trans))) (vu (⟨(fZ y.aA O (-1)).1,y.aQ,y.aN,y.aE,y.count,y.events,y.aW⟩:Sp) O) (q+1) _ _ (by omega) (by omega) (by omega) (by omega) (by exact ar.lq _) (by exact Q2 hy h4 a8) f2 f1))
      exact At.rg 2<|Op.vq 55 (i+1)<|Op.pg 1 [(10,vI (i+1))]<|At.ke (dk _ (aM.trans a1 (by repeat (first|assumption|apply aM.trans))) y (i+1) _ _ (by omega) (by omega) (by omega) (by(rw[JB hy ‹_›];exact V.oS _)) (by(rw[JB hy ‹_›];exact Q0 hx h0 ‹_›)) bt ((a7.fs [5,5,5,5,5] rfl).drop.drop.drop.drop.drop))
    exact At.ke (e1 _ _ (aM.refl _) (⟨x.aA,(List.filter (fun w=>!qa ([u]) w) x.aQ),(mq (pY ([u])) x.aN),x.aE,x.count,(eR x.events u),x.aW⟩:Sp) 0 _ _ (bG _) (by omega) (by omega) (by exact Q3 V.tree) (by exact V.left _) (by rfl) eL eQ)
   exact At.rt eY (hR a4 ⟨a3,rfl,bb.eq (by exact Q1 hx ‹_›),rfl⟩)
 exact At.ke (dj _ _ (aM.refl _) s 0 _ _ (bG _) (by omega) (by omega) (by exact df) (by rfl) dd hs)
theorem Rx (B:World) (h:ay) (g:GH) (hg:bu g h) (V:bz g) (D:Nat) (s:Sp) (X:az) (c3:b9 g D s X) (w:au) (O:dA s) (hp:w.af.length≤1000000000) (hs:St h g (aS [X]) g [X] h):
  aG prog B 119 #[vP D,.agg #[vI w.ax,vI w.ah,vS w.af]] h g [X] (fun c4 g' L'=>∃bj,c4=.int .i64 (jb s w)∧b9 g' D (od s w) bj∧L'=[bj]):=by
 refine aG.aq func119 fun R hR=>At.rg 2<|Op.bx 3 45 1 #[vI w.ax,vI w.ah,vS w.af] hs fun Y e9 c5=>Op.pg 1 [] ?_
 have bk:∀(m:Nat) (ab:GH) (bm:aM g ab) (x:Sp) (n:Int) (a4:az) (a5:ay) (hm:0<m) (hx:x=s) (hn0:n=(eE s.events w.ax).length) (c6:n≤1000) (bo:b9 ab D x a4) (bs:St h g (aS [X]) ab [[(Y,Obj.cells #[vI w.ax,vI w.ah,vS w.af] 45 (0,0))],a4] a5),At (bP prog B 119 f119 R) [] 2 [(0,vP D),(3,vP Y),(5,vI n)] a5:=by
  intro m;induction m with
  |zero=>intros;omega
  |succ m fa=>
   intro ab bm x n a4 a5 hm hx hn0 c6 bo bs
   replace V:=V.mono bm
   refine At.rp 7 3 [(18,vQ D 1)] ?_
   obtain⟨c8,bt,ad,c9,da,b3,db,b4,dc,b5,dd,ae,df,am,ar,aw⟩:=bo
   have b6:=St.un [bt,c9,b3,b4,b5] dd (bs.fs [1] rfl)
   refine Op.l1 93 18 19 1 (vP ad) (b6.ag 0 rfl) ?_
   have a6:=b6.fs [1,1,2] rfl
   refine Op.cl (some 20) 1 a6 (Ak _ _ _ a6.sub V ad x.aQ _ df (by((try dsimp only)<;>((subst hx;have:=O.wl;omega)))) (St.pt 1 a6)) ?_
   rintro _ dg _ fg dj dk ⟨fi,dl,dp,rfl,a1,a0,dq,rfl⟩;subst dg;clear dj
   obtain⟨du,b8,rfl⟩:=a1.ak
   refine Op.pg 3 [(21,vI (x.aQ.length:Int)),(22,vI 0)] ?_
   have dv:∀(m:Nat) (Z:GH) (G:aM ab Z) (n2:Int) (i:Int) (a7:ay) (hm:x.aQ.length-i.toNat<m) (h0:0≤i) (h3:i≤x.aQ.length) (dC:0≤n2) (dE:n2≤1000+i) (hn:(n2-(eE s.events w.ax).length)+(cnt w.ax (x.aQ.drop i.toNat):Int)=cnt w.ax x.aQ) (hno:∀z∈x.aQ.take i.toNat,z≠w) (I:St h g (aS [X]) Z [dp,dl,[(D,Obj.cells #[vP c8,vP ad,vP da,vI x.aE,vI x.count,.map (some db),.map (some dc)] 100 (0,0))],bt,b3,b4,b5,[(Y,Obj.cells #[vI w.ax,vI w.ah,vS w.af] 45 (0,0))]] a7),At (bP prog B 119 f119 R) [] 3 [(0,vP D),(3,vP Y),(5,vI n2),(20,vL du (x.aQ.length) b8),(21,vI (x.aQ.length:Int)),(22,vI i)] a7:=by
    intro m;induction m with
    |zero=>intros;omega
    |succ m ca=>
     intro Z G n2 i a7 hm h0 h3 dC dE hn hno I
     replace ae:=ae.mono G
     replace am:=am.mono G
     replace ar:=ar.mono G
     replace aw:=aw.mono G
     replace a1:=a1.mono G
     replace V:=V.mono G
     replace a0:=a0.mono G
     refine At.go 4 1 [(23,.bool (decide (i<(x.aQ.length:Int))))]<|At.fd (i<(x.aQ.length:Int)) 23 5 14 (fun fj=>?_) fun fl=>?_
     ·refine At.rg 4 ?_
      obtain⟨u,J⟩:=bW x.aQ i
      obtain⟨dT,cb,fp,fr,d0,d1,a8⟩:=h_.bB (a1.toH I 1 rfl) _ J
      cases d0
      refine Op.iq 41 45 3 32 (x.aQ.length) b8 20 22 24 dT cb i ?_
      replace a8:cut _ _ _=[vI u.ax,vI u.ah,vS u.af]:=a8
      refine Op.la 45 24 25 (cb+i.toNat*3) 3 [vI u.ax,vI u.ah,vS u.af] d1 ?_ (hv:=a8)
      refine Op.al 7 45 lp I fun d2 ft d3=>Op.sg 45 7 25 0 0 #[vI u.ax,vI u.ah,vS u.af] d3 zt fun fv U=>Op.gt 6<|At.rg 3<|Op.la 45 7 26 0 3 [vI u.ax,vI u.ah,vS u.af] (U.ag 0 rfl) ?_
      refine Op.la 45 3 27 0 3 [vI w.ax,vI w.ah,vS w.af] (U.ag 8 rfl)<|Op.Fx (T:=45) (T':=45) (x:=26) (y:=27) (neq:=false) (dst:=28) (xs:=#[vI u.ax,vI u.ah,vS u.af]) (ys:=#[vI w.ax,vI w.ah,vS w.af]) (q:=((u.ax==w.ax)&&((u.ah==w.ah)&&((br u.af==br w.af)&&true)))) (q':=decide (u=w)) (by kernel_rfl) (by kernel_rfl) (by kernel_rfl) (by kernel_rfl) (by kernel_rfl) (F_ u w)<|Op.gt 7<|At.fd (u=w) 28 8 10 (fun fw=>?_) fun fx=>?_
      ·refine At.go 9 1 [(4,vI 0)] ?_
       obtain⟨d4,d5,d6⟩:=St.bF (Q:=b9 Z D x) 6 (U.fs [2,1,7,7,7,5,7,7] rfl) ⟨_,_,_,_,_,_,_,_,_,_,rfl,ae,a0,am,ar,aw⟩
       exact At.rt (vI 0)<|hR (d6.fs [3,3,3] rfl).drop.drop.drop ⟨d4,(bg (by(subst hx;first|exact(Ah J ‹_›).1.symm|exact(Ah J ‹_›).2.symm))),d5.eq (by(subst hx;first|exact(Ah J ‹_›).1.symm|exact(Ah J ‹_›).2.symm)),rfl⟩
      refine At.rp 5 1 [(29,vP d2)]<|Op.l1 3 29 30 0 (vI u.ax) (U.ag 0 rfl)<|Op.px 1 [(31,vP Y)]<|Op.l1 3 31 32 0 (vI w.ax) (U.ag 8 rfl)<|Op.pg 11 [(33,.bool (u.ax==w.ax))] ?_
      refine At.fd (u.ax=w.ax) 33 12 13 (fun f0=>?_) fun f1=>?_
      ·refine At.rp 3 1 [(34,vI n2)]<|Op.cO 35 (n2+1) (by omega) (by(subst hx;have:=O.wl;omega))<|Op.pg 13 [(5,vI (n2+1))]<|At.rg 2<|Op.cO 36 (i+1) (by omega) (by(subst hx;have:=O.wl;omega)) ?_
       exact Op.pg 3 [(22,vI (i+1))]<|At.ke (ca _ G (n2+1) (i+1) _ (by omega) (by omega) (by omega) (by omega) (by omega) (by(have h7:=Jp hn h0 J ‹_›;omega)) (by exact JE hno h0 J ‹_›) U.drop)
      exact At.rg 2<|Op.cO 36 (i+1) (by omega) (by(subst hx;have:=O.wl;omega))<|Op.pg 3 [(22,vI (i+1))]<|At.ke (ca _ G n2 (i+1) _ (by omega) (by omega) (by omega) (by omega) (by omega) (by exact Jq hn h0 J ‹_›) (by exact JE hno h0 J ‹_›) U.drop)
     refine At.go 15 2 [(38,.bool (decide (n2≥8)))]<|At.fd (n2≥8) 38 16 18 (fun f2=>?_) fun f3=>?_
     ·refine At.go 17 1 [(4,vI 104)] ?_
      obtain⟨d7,d8,d9⟩:=St.bF (Q:=b9 Z D x) 6 (I.fs [1,6,6,6,4,6,6] rfl) ⟨_,_,_,_,_,_,_,_,_,_,rfl,ae,a0,am,ar,aw⟩
      exact At.rt (vI 104)<|hR (d9.fs [2,2] rfl).drop.drop ⟨d7,(bg (by(subst hx;first|exact(Ai (n:=n2) (su hno ‹_›) (by have:=qS hn ‹_›;omega) ‹_›).1.symm|exact(Ai (n:=n2) (su hno ‹_›) (by have:=qS hn ‹_›;omega) ‹_›).2.symm))),d8.eq (by(subst hx;first|exact(Ai (n:=n2) (su hno ‹_›) (by have:=qS hn ‹_›;omega) ‹_›).1.symm|exact(Ai (n:=n2) (su hno ‹_›) (by have:=qS hn ‹_›;omega) ‹_›).2.symm)),rfl⟩
     refine At.dw (fun _=>False) [(0,true),(1,true),(2,true),(3,true),(4,false),(1005,false),(5,false),(6,true)]<|Op.px 3 [(41,vQ D 1)]<|Op.lf 93 41 1 42 1 (vP ad) id (I.ag 2 rfl)<|Op.la 45 3 43 0 3 [vI w.ax,vI w.ah,vS w.af] (I.ag 7 rfl)<|Op.ba ?_
     refine Op.cl (some 44) 1 I (Rt _ _ _ I.sub V ad x.aQ _ a0 w (by((try dsimp only)<;>((subst hx;have:=O.wl;omega)))) (by(try dsimp only)<;>omega) (by((try dsimp only)<;>((subst hx;exact O.ws)))) (St.pt 1 I)) ?_
     rintro _ ea _ f4 eb ed ⟨f5,rfl,ee,dq,rfl⟩;subst ea;clear eb
     refine Op.pg 19 [(4,vI (nI x.aQ w))] ?_
     obtain⟨ef,eh,ej⟩:=St.bF (Q:=b9 Z D (⟨x.aA,(nJ x.aQ w),x.aN,x.aE,x.count,x.events,x.aW⟩:Sp)) 6 (ed.fs [1,6,6,6,4,6,6] rfl) ⟨_,_,_,_,_,_,_,_,_,_,rfl,ae,ee,am,ar,aw⟩
     exact At.rt (vI (nI x.aQ w))<|hR (ej.fs [2,2] rfl).drop.drop ⟨ef,(bg (by(subst hx;first|exact(Aj (n:=n2) (su hno ‹_›) (by have:=qS hn ‹_›;omega) ‹_›).1.symm|exact(Aj (n:=n2) (su hno ‹_›) (by have:=qS hn ‹_›;omega) ‹_›).2.symm))),eh.eq (by(subst hx;first|exact(Aj (n:=n2) (su hno ‹_›) (by have:=qS hn ‹_›;omega) ‹_›).1.symm|exact(Aj (n:=n2) (su hno ‹_›) (by have:=qS hn ‹_›;omega) ‹_›).2.symm)),rfl⟩
   exact At.ke (dv _ _ (aM.refl _) n 0 _ (bG _) (by omega) (by omega) (by omega) (by omega) (by(rw[hn0];simp)) (by exact Q4 _ _) dk)
 obtain⟨f6,em,f7,en,f8,ep,a9,er,f9,et,ex,ce,cf,ch,eA,ci⟩:=c3
 have bb:=St.un [em,en,ep,er,et] ex (c5.fs [1] rfl)
 refine At.dw (fun _=>False) [(0,true),(1,true),(2,true),(4,true),(3,true),(5,false),(6,false),(7,true),(8,true)]<|Op.px 4 [(10,vQ D 5),(12,vP Y)]<|Op.lf 97 10 5 11 1 (.map (some a9)) id (bb.ag 0 rfl)<|Op.l1 3 12 13 0 (vI w.ax) (bb.ag 6 rfl) ?_
 obtain⟨gc,ge,gg,eB,eI,a3,bc⟩:=eA
 have bd:=St.un [eB] eI (bb.fs [3,3,3,3,4] rfl)
 rcases bc.gS w.ax with ⟨be,eJ,eK⟩|⟨gk,bi,gn,gs,be,eJ,eL,ck,eK⟩
 ·refine Op.mn (.slice none 0 0) 97 11 13 14 w.ax (bd.ag 0 rfl) a3 be<|Op.pg 2 [(5,vI 0)] ?_
  obtain⟨g1,eQ,e1⟩:=St.bF (Q:=kg g a9 s.events) 2 bd ⟨_,_,_,_,rfl,a3,bc⟩
  obtain⟨g2,e2,e3⟩:=St.bF (Q:=b9 g D s) 6 (e1.fs [4,4,4,4] rfl) ⟨_,_,_,_,_,_,_,_,_,_,rfl,ce,cf,ch,eQ,ci⟩
  exact At.ke (bk _ _ (by repeat (first|assumption|exact aM.refl _|apply aM.trans)) s 0 _ _ (bG _) (by rfl) (by exact Q5 ‹_›) (by omega) e2 (e3.fs [1] rfl))
 obtain⟨e4,n151,rfl⟩:=eL.ak
 have co:=St.si ck (bd.fs [1] rfl)
 refine Op.mk (.slice none 0 0) 97 11 13 14 w.ax (vL e4 bi.length n151) (co.ag 2 rfl) a3 be<|Op.pg 2 [(5,vI (bi.length:Int))] ?_
 obtain⟨g3,e5,e6⟩:=St.bF (Q:=kg g a9 s.events) 2 ((St.tw ck co).fs [1] rfl) ⟨_,_,_,_,rfl,a3,bc⟩
 obtain⟨g4,e7,e8⟩:=St.bF (Q:=b9 g D s) 6 (e6.fs [4,4,4,4] rfl) ⟨_,_,_,_,_,_,_,_,_,_,rfl,ce,cf,ch,e5,ci⟩
 exact At.ke (bk _ _ (by repeat (first|assumption|exact aM.refl _|apply aM.trans)) s (bi.length:Int) _ _ (bG _) (by rfl) (by exact JF ‹_›) (by(have h9:=O.quo w.ax;have h7:=JF ‹_›;omega)) e7 (e8.fs [1] rfl))
theorem Ry (B:World) (h:ay) (g:GH) (hg:bu g h) (U:bz g) (D:Nat) (s:Sp) (V:az) (a0:b9 g D s V) (client:Int) (o:aR) (dj:Value) (ej:an g 5 a_ dj o.Data) (dk:Value) (em:an g 25 dy dk o.aB) (u:Nat) (x:Result) (X:az) (Y:eG g u x X) (b5:dA s) (hp:o.af.length≤1000000000) (hs:St h g (aS [V,X]) g [V,X] h):
  aG prog B 95 #[vP D,vI client,.agg #[vI o.ah,vS o.af,dj,vI o.ai,vI o.aI,.bool o.aV,.bool o.aK,.bool o.au,dk],vP u] h g [V,X] (fun en g' L'=>∃dl dp,en=.tuple #[]∧b9 g' D (nh s client o) dl∧eG g' u (oh s client o x) dp∧L'=[dl,dp]):=by
 obtain⟨b6,b8,rfl⟩:=ej.ak
 obtain⟨ca,cb,rfl⟩:=em.ak
 refine aG.aq func95 fun R hR=>At.rg 1<|Op.bx 6 25 2 #[vI o.ah,vS o.af,vL b6 o.Data.length b8,vI o.ai,vI o.aI,.bool o.aV,.bool o.aK,.bool o.au,vL ca o.aB.length cb] hs fun J h3 ce=>Op.gt 1<|At.go 2 1 [(8,vI 1)] ?_
 have dq:∀(m:Nat) (a1:GH) (a3:aM g a1) (I:Int) (cf:ay) (hm:0<m) (hk:I=oe o) (ad:St h g (aS [V,X]) a1 [[(J,Obj.cells #[vI o.ah,vS o.af,vL b6 o.Data.length b8,vI o.ai,vI o.aI,.bool o.aV,.bool o.aK,.bool o.au,vL ca o.aB.length cb] 25 (0,0))],V,X] cf),At (bP prog B 95 f95 R) [] 5 [(0,vP D),(1,vI client),(3,vP u),(6,vP J),(8,vI I)] cf:=by
  intro m;induction m with
  |zero=>intros;omega
  |succ m h4=>
   intro a1 a3 I cf hm hk ad
   replace U:=U.mono a3
   replace a0:=a0.mono a3
   replace Y:=Y.mono a3
   refine At.rp 2 1 [(14,vQ J 7)]<|Op.l1 4 14 15 7 (.bool o.au) (ad.ag 0 rfl)<|Op.gt 6 ?_
   have du:∀(m:Nat) (G:GH) (dv:aM a1 G) (y:Sp) (z:Result) (ch:az) (ci:az) (ck:ay) (hm:0<m) (hy:y=nh s client o) (hz:oh s client o x=og s o z) (co:b9 G D y ch) (a4:eG G u z ci) (a5:St h g (aS [V,X]) G [[(J,Obj.cells #[vI o.ah,vS o.af,vL b6 o.Data.length b8,vI o.ai,vI o.aI,.bool o.aV,.bool o.aK,.bool o.au,vL ca o.aB.length cb] 25 (0,0))],ch,ci] ck),At (bP prog B 95 f95 R) [] 11 [(0,vP D),(3,vP u),(6,vP J)] ck:=by
    intro m;induction m with
    |zero=>intros;omega
    |succ m h5=>
     intro G dv y z ch ci ck hm hy hz co a4 a5
     replace U:=U.mono dv
     refine At.rp 3 1 [(31,vP J)]<|Op.l1 3 31 32 0 (vI o.ah) (a5.ag 0 rfl)<|Op.pg 12 [(33,.bool (o.ah==7))]<|At.fd (o.ah=7) 33 13 15 (fun h6=>?_) fun h7=>?_
     ·obtain⟨dC,ep,h8,er,h9,et,ib,ex,ih,eA,eB,dE,eI,eJ,eK,eL⟩:=co
      obtain⟨v53,ii,eQ,ik,e1,e2,dT,e3,d0⟩:=a4
      obtain⟨d1,d2,rfl⟩:=dT.ak
      obtain⟨il,io,rfl⟩:=e3.ak
      obtain⟨d3,d4,rfl⟩:=d0.ak
      have c3:=St.un [eQ,e1] e2 ((St.un [ep,er,et,ex,eA] eB (a5.fs [1] rfl)).fs [6,6,6,6,6,6,6,7] rfl)
      refine At.dw (fun _=>False) [(0,true),(1,true),(2,true),(3,true),(4,true),(6,true),(5,true),(7,false),(8,false),(9,true),(10,true),(11,true),(12,true),(13,true),(1014,false),(14,false),(15,true),(16,true),(17,false)]<|Op.px 6 [(35,vP u),(36,vP u),(39,vP D),(41,vQ J 1)]<|Op.lf 91 39 0 40 1 (vP dC) id (c3.ag 3 rfl)<|Op.l1 9 41 42 1 (vS o.af) (c3.ag 9 rfl) ?_
      have a6:=c3.fs [3,3,3,3,4] rfl
      have e4:=a6.gH
      have e5:=eD.fK dE a6 (by intro p hp;simp only[eo,hp,nt,nv])
      refine Op.le (some 43) 0 a6 (Oi _ _ _ a6.jk (U.mono e4) dC y.aA e5 o.af (by((try dsimp only)<;>((rw[hy,sw];exact b5.tree)))) (by(try dsimp only)<;>omega)) (fun _ _ _ hp=>by obtain⟨_,_,_,_,O,_⟩:=hp;exact O) ?_ (hM:=(fun _ _ h=>absurd h (gP _)))
      rintro _ _ ip e6 ⟨v75,is,rfl,a7,O,rfl⟩;clear O
      obtain⟨a8,a9,rfl⟩:=a7.ak
      replace a7:=a7.bw (fun _ _ _ _ h=>h) (g':=G)
      refine Op.px 5 [(44,vL a8 (((iD y.aA o.af).1).length) a9),(45,vI ((iD y.aA o.af).2)),(47,vQ u 9)]<|Op.ba<|Op.s1 40 47 44 9 (vL a8 (((iD y.aA o.af).1).length) a9) 2 #[vI z.Code,vI z.aU,vI z.At,vS z.aa.af,vL d1 z.aa.Data.length d2,vI z.aa.ai,vI z.aa.aC,vI z.aa.Next,vI z.aa.aF,vL a8 (((iD y.aA o.af).1).length) a9,vL d3 z.aP.length d4] e6 zt fun iv e7=>Op.px 2 [(49,vP u)]<|Op.s1 29 49 45 0 (vI ((iD y.aA o.af).2)) 2 #[vI ((iD y.aA o.af).2),vI z.aU,vI z.At,vS z.aa.af,vL d1 z.aa.Data.length d2,vI z.aa.ai,vI z.aa.aC,vI z.aa.Next,vI z.aa.aF,vL a8 (((iD y.aA o.af).1).length) a9,vL d3 z.aP.length d4] e7 zt fun i0 e8=>?_
      refine Op.gt 14 ?_
      obtain⟨e9,fa,fg⟩:=St.bF (Q:=b9 G D y) 6 (e8.fs [4,4,4,4,9,9,9,9,8,9] rfl) ⟨_,_,_,_,_,_,_,_,_,_,rfl,dE,eI,eJ,eK,eL⟩
      obtain⟨fi,fj,fl⟩:=St.bF (Q:=eG G u (⟨(iD y.aA o.af).2,z.aU,z.At,⟨z.aa.af,z.aa.Data,z.aa.ai,z.aa.aC,z.aa.Next,z.aa.aF⟩,(iD y.aA o.af).1,z.aP⟩:Result)) 3 (fg.fs [3,1,4,3,4] rfl) ⟨_,_,_,_,_,rfl,dT,a7,d0⟩
      exact At.rt eY<|hR (fl.fs [1,3,3] rfl).drop.drop ⟨e9,fi,rfl,fa.eq (by exact hy),fj.eq (by(rw[hz,Rb ‹_›,hy,sw];done)),rfl⟩
     obtain⟨bb,fp,i1,fr,i3,ft,i4,fv,i5,fw,fx,Z,bc,bd,be,bi⟩:=co
     have ab:=St.un [fp,fr,ft,fv,fw] fx (a5.fs [1] rfl)
     refine At.gh (by kernel_rfl) (fun _=>False) [(0,true),(1,true),(2,true),(4,true),(3,true),(5,true)] [(6,false),(7,true),(8,true),(9,true),(10,false),(1011,false),(11,false),(12,true)] [(10,false),(6,false),(7,true),(8,true),(9,true),(1011,false),(11,false),(12,true)] (by kernel_rfl) ?_ ?_
     ·show Op _ _ _ _ _ [(0,true),(1,true),(2,true),(4,true),(3,true),(5,true),(6,false),(7,true),(8,true),(9,true),(10,false),(1011,false),(11,false),(12,true)] _ _
      refine Op.px 4 [(53,vP D),(55,vQ J 1)]<|Op.lf 91 53 0 54 1 (vP bb) id (ab.ag 0 rfl)<|Op.lf 9 55 1 56 1 (vS o.af) id (ab.ag 6 rfl) ?_
      have bj:=ab.fs [1] rfl
      have f0:=bj.gH
      have f1:=eD.fK Z bj (by intro p hp;simp only[eo,hp,nt,nv])
      refine Op.le (some 57) 0 bj (G6 _ _ _ bj.jk (U.mono f0) bb y.aA f1 o.af (by((try dsimp only)<;>((rw[hy,sw];exact b5.tree)))) (by(try dsimp only)<;>omega)) (fun _ _ _ hp=>by obtain⟨_,_,_,_,O,_⟩:=hp;exact O) ?_ (hM:=(fun _ _ h=>absurd h (gP _)))
      rintro _ _ i6 f2 ⟨i7,i8,rfl,bk,O,rfl⟩;clear O
      obtain⟨bm,bo,rfl⟩:=bk.ak
      replace bk:=bk.bw (fun _ _ _ _ h=>h) (g':=G)
      refine Op.px 3 [(58,.agg #[vS (((bV y.aA o.af).1).af),vL bm ((((bV y.aA o.af).1).Data).length) bo,vI (((bV y.aA o.af).1).ai),vI (((bV y.aA o.af).1).aC),vI (((bV y.aA o.af).1).Next),vI (((bV y.aA o.af).1).aF)]),(59,vI ((bV y.aA o.af).2))]<|Op.al 9 39 qQ f2 fun i9 jf f3=>Op.ba<|Op.sg 39 9 58 0 0 #[vS (((bV y.aA o.af).1).af),vL bm ((((bV y.aA o.af).1).Data).length) bo,vI (((bV y.aA o.af).1).ai),vI (((bV y.aA o.af).1).aC),vI (((bV y.aA o.af).1).Next),vI (((bV y.aA o.af).1).aF)] f3 zt fun jj f4=>Op.pg 16 [(10,vI ((bV y.aA o.af).2))] ?_
      refine At.rp 5 4 [(61,vI ((bV y.aA o.af).2)),(63,vP u)] ?_
      obtain⟨js,v131,f5,jt,f6,f7,d5,ae,am⟩:=a4
      obtain⟨a139,f8,rfl⟩:=d5.ak
      obtain⟨d6,d7,rfl⟩:=ae.ak
      obtain⟨d8,d9,rfl⟩:=am.ak
      refine Op.s1 29 63 61 0 (vI ((bV y.aA o.af).2)) 0 #[vI ((bV y.aA o.af).2),vI z.aU,vI z.At,vS z.aa.af,vL a139 z.aa.Data.length f8,vI z.aa.ai,vI z.aa.aC,vI z.aa.Next,vI z.aa.aF,vL d6 z.aX.length d7,vL d8 z.aP.length d9] (St.un [f5,f6] f7 (f4.fs [8,8,8,8,8,8,8,8,8,9] rfl)) zt fun j1 c4=>Op.gt 17<|At.go 18 2 [(65,.bool (((bV y.aA o.af).2)==0))]<|At.fd (((bV y.aA o.af).2)=0) 65 19 20 (fun j2=>?_) fun kc=>?_
      ·refine At.rp 5 1 [(66,vP u)]<|Op.la 39 9 67 0 6 [vS (((bV y.aA o.af).1).af),vL bm ((((bV y.aA o.af).1).Data).length) bo,vI (((bV y.aA o.af).1).ai),vI (((bV y.aA o.af).1).aC),vI (((bV y.aA o.af).1).Next),vI (((bV y.aA o.af).1).aF)] (c4.ag 3 rfl)<|Op.px 2 [(69,vQ u 3)]<|Op.sg 39 69 67 3 0 #[vI ((bV y.aA o.af).2),vI z.aU,vI z.At,vS (((bV y.aA o.af).1).af),vL bm ((((bV y.aA o.af).1).Data).length) bo,vI (((bV y.aA o.af).1).ai),vI (((bV y.aA o.af).1).aC),vI (((bV y.aA o.af).1).Next),vI (((bV y.aA o.af).1).aF),vL d6 z.aX.length d7,vL d8 z.aP.length d9] c4 zt fun kd f9=>Op.gt 20 ?_
       obtain⟨gc,c5,ge⟩:=St.bF (Q:=b9 G D y) 6 (f9.fs [5,4,4,4,4,10,10,10,10,9,10] rfl) ⟨_,_,_,_,_,_,_,_,_,_,rfl,Z,bc,bd,be,bi⟩
       obtain⟨gg,gk,c6,gn⟩:=aH.freeze bk (ge.fs [5] rfl)
       replace ae:=ae.mono c6
       replace am:=am.mono c6
       replace c5:=c5.mono c6
       obtain⟨gs,g1,g2⟩:=St.bF (Q:=eG gg u (⟨(bV y.aA o.af).2,z.aU,z.At,⟨((bV y.aA o.af).1).af,((bV y.aA o.af).1).Data,((bV y.aA o.af).1).ai,((bV y.aA o.af).1).aC,((bV y.aA o.af).1).Next,((bV y.aA o.af).1).aF⟩,z.aX,z.aP⟩:Result)) 3 (gk.fs [3,3,3] rfl) ⟨_,_,_,_,_,rfl,gn,ae,am⟩
       exact At.rt eY<|hR (g2.fs [1,3,3] rfl).drop.drop ⟨gc,gs,rfl,c5.eq (by exact hy),g1.eq (by(rw[hz];simp only[hy,sw] at *;rw[JH ‹_› ‹_›])),rfl⟩
      obtain⟨g3,g4,g5⟩:=St.bF (Q:=b9 G D y) 6 (c4.fs [5,4,4,4,4,10,10,10,10,9,10] rfl) ⟨_,_,_,_,_,_,_,_,_,_,rfl,Z,bc,bd,be,bi⟩
      obtain⟨g6,g7,g8⟩:=St.bF (Q:=eG G u (⟨(bV y.aA o.af).2,z.aU,z.At,⟨z.aa.af,z.aa.Data,z.aa.ai,z.aa.aC,z.aa.Next,z.aa.aF⟩,z.aX,z.aP⟩:Result)) 3 (g5.fs [3,3,3] rfl) ⟨_,_,_,_,_,rfl,d5,ae,am⟩
      exact At.rt eY<|hR (g8.fs [1,4,4,4] rfl).drop.drop.drop ⟨g3,g6,rfl,g4.eq (by exact hy),g7.eq (by(rw[hz];simp only[hy,sw] at *;rw[JI ‹_› ‹_›])),rfl⟩
     show Op _ _ _ _ _ [(0,true),(1,true),(2,true),(4,true),(3,true),(5,true),(10,false),(6,false),(7,true),(8,true),(9,true),(1011,false),(11,false),(12,true)] _ _
     refine Op.px 4 [(53,vP D),(55,vQ J 1)]<|Op.lf 91 53 0 54 1 (vP bb) id (ab.ag 0 rfl)<|Op.lf 9 55 1 56 1 (vS o.af) id (ab.ag 6 rfl)<|Op.al 9 39 qQ ab fun kh kk g9=>?_
     have bs:=g9.fs [1,1,2] rfl
     have ha:=bs.gH
     have hb:=eD.fK Z bs (by intro p hp;simp only[eo,hp,nt,nv])
     refine Op.le (some 57) 0 bs (G6 _ _ _ bs.jk (U.mono ha) bb y.aA hb o.af (by((try dsimp only)<;>((rw[hy,sw];exact b5.tree)))) (by(try dsimp only)<;>omega)) (fun _ _ _ hp=>by obtain⟨_,_,_,_,O,_⟩:=hp;exact O) ?_ (hM:=(fun _ _ h=>absurd h (gP _)))
     rintro _ _ kl he ⟨v183,km,rfl,bt,O,rfl⟩;clear O
     obtain⟨b3,b4,rfl⟩:=bt.ak
     replace bt:=bt.bw (fun _ _ _ _ h=>h) (g':=G)
     refine Op.px 3 [(58,.agg #[vS (((bV y.aA o.af).1).af),vL b3 ((((bV y.aA o.af).1).Data).length) b4,vI (((bV y.aA o.af).1).ai),vI (((bV y.aA o.af).1).aC),vI (((bV y.aA o.af).1).Next),vI (((bV y.aA o.af).1).aF)]),(59,vI ((bV y.aA o.af).2))]<|Op.ba<|Op.sg 39 9 58 0 2 #[vS (((bV y.aA o.af).1).af),vL b3 ((((bV y.aA o.af).1).Data).length) b4,vI (((bV y.aA o.af).1).ai),vI (((bV y.aA o.af).1).aC),vI (((bV y.aA o.af).1).Next),vI (((bV y.aA o.af).1).aF)] he zt fun kv hf=>Op.pg 16 [(10,vI ((bV y.aA o.af).2))]<|At.rp 5 4 [(61,vI ((bV y.aA o.af).2)),(63,vP u)] ?_
     obtain⟨kw,kx,hh,kA,hj,hl,ea,ar,aw⟩:=a4
     obtain⟨hn,ho,rfl⟩:=ea.ak
     obtain⟨eb,ed,rfl⟩:=ar.ak
     obtain⟨ee,n206,rfl⟩:=aw.ak
     refine Op.s1 29 63 61 0 (vI ((bV y.aA o.af).2)) 0 #[vI ((bV y.aA o.af).2),vI z.aU,vI z.At,vS z.aa.af,vL hn z.aa.Data.length ho,vI z.aa.ai,vI z.aa.aC,vI z.aa.Next,vI z.aa.aF,vL eb z.aX.length ed,vL ee z.aP.length n206] (St.un [hh,hj] hl (hf.fs [8,8,8,8,8,8,8,8,8,9] rfl)) zt fun k0 c8=>Op.gt 17<|At.go 18 2 [(65,.bool (((bV y.aA o.af).2)==0))]<|At.fd (((bV y.aA o.af).2)=0) 65 19 20 (fun k1=>?_) fun k2=>?_
     ·refine At.rp 5 1 [(66,vP u)]<|Op.la 39 9 67 0 6 [vS (((bV y.aA o.af).1).af),vL b3 ((((bV y.aA o.af).1).Data).length) b4,vI (((bV y.aA o.af).1).ai),vI (((bV y.aA o.af).1).aC),vI (((bV y.aA o.af).1).Next),vI (((bV y.aA o.af).1).aF)] (c8.ag 5 rfl)<|Op.px 2 [(69,vQ u 3)]<|Op.sg 39 69 67 3 0 #[vI ((bV y.aA o.af).2),vI z.aU,vI z.At,vS (((bV y.aA o.af).1).af),vL b3 ((((bV y.aA o.af).1).Data).length) b4,vI (((bV y.aA o.af).1).ai),vI (((bV y.aA o.af).1).aC),vI (((bV y.aA o.af).1).Next),vI (((bV y.aA o.af).1).aF),vL eb z.aX.length ed,vL ee z.aP.length n206] c8 zt fun k3 hq=>Op.gt 20 ?_
      obtain⟨hr,c9,hu⟩:=St.bF (Q:=b9 G D y) 6 (hq.fs [5,5,4,4,4,10,10,10,10,9,10] rfl) ⟨_,_,_,_,_,_,_,_,_,_,rfl,Z,bc,bd,be,bi⟩
      obtain⟨hw,hx,da,hA⟩:=aH.freeze bt (hu.fs [4] rfl)
      replace ar:=ar.mono da
      replace aw:=aw.mono da
      replace c9:=c9.mono da
      obtain⟨hB,hC,hD⟩:=St.bF (Q:=eG hw u (⟨(bV y.aA o.af).2,z.aU,z.At,⟨((bV y.aA o.af).1).af,((bV y.aA o.af).1).Data,((bV y.aA o.af).1).ai,((bV y.aA o.af).1).aC,((bV y.aA o.af).1).Next,((bV y.aA o.af).1).aF⟩,z.aX,z.aP⟩:Result)) 3 (hx.fs [3,3,3] rfl) ⟨_,_,_,_,_,rfl,hA,ar,aw⟩
      exact At.rt eY<|hR (hD.fs [1,3,3] rfl).drop.drop ⟨hr,hB,rfl,c9.eq (by exact hy),hC.eq (by(rw[hz];simp only[hy,sw] at *;rw[JH ‹_› ‹_›])),rfl⟩
     obtain⟨hE,hF,hG⟩:=St.bF (Q:=b9 G D y) 6 (c8.fs [5,5,4,4,4,10,10,10,10,9,10] rfl) ⟨_,_,_,_,_,_,_,_,_,_,rfl,Z,bc,bd,be,bi⟩
     obtain⟨hH,hI,hJ⟩:=St.bF (Q:=eG G u (⟨(bV y.aA o.af).2,z.aU,z.At,⟨z.aa.af,z.aa.Data,z.aa.ai,z.aa.aC,z.aa.Next,z.aa.aF⟩,z.aX,z.aP⟩:Result)) 3 (hG.fs [3,3,3] rfl) ⟨_,_,_,_,_,rfl,ea,ar,aw⟩
     exact At.rt eY<|hR (hJ.fs [1,4,4,4] rfl).drop.drop.drop ⟨hE,hH,rfl,hF.eq (by exact hy),hI.eq (by(rw[hz];simp only[hy,sw] at *;rw[JI ‹_› ‹_›])),rfl⟩
   refine At.cW o.au 15 7 11 (fun k4=>?_) fun k5=>?_
   ·refine At.rp 11 5 [(16,vP u),(17,vP D),(18,vI client),(19,vI I),(20,vQ J 1)]<|Op.l1 9 20 21 1 (vS o.af) (ad.ag 0 rfl)<|Op.px 1 [(22,.agg #[vI client,vI I,vS o.af])] ?_
    have db:=ad.fs [1] rfl
    refine Op.cl (some 23) 1 db (Rx _ _ _ db.sub U D s _ a0 (⟨client,I,o.af⟩:au) (by(try dsimp only)<;>omega) (by(try dsimp only)<;>omega) (St.pt 1 db)) ?_
    rintro _ ef _ k6 hK hL ⟨hN,rfl,eh,rfl⟩
    replace Y:=Y.mono hK
    refine Op.px 2 [(25,vP u)] ?_
    obtain⟨k7,k8,hO,lb,hP,hQ,dc,dd,df⟩:=Y
    obtain⟨hS,hT,rfl⟩:=dc.ak
    obtain⟨hV,n258,rfl⟩:=dd.ak
    obtain⟨hW,n260,rfl⟩:=df.ak
    refine Op.s1 29 25 23 0 (vI (jb s (⟨client,I,o.af⟩:au))) 0 #[vI (jb s (⟨client,I,o.af⟩:au)),vI x.aU,vI x.At,vS x.aa.af,vL hS x.aa.Data.length hT,vI x.aa.ai,vI x.aa.aC,vI x.aa.Next,vI x.aa.aF,vL hV x.aX.length n258,vL hW x.aP.length n260] (St.un [hO,hP] hQ (hL.fs [1,1,2] rfl)) zt fun lc dg=>Op.gt 8<|At.rp 5 3 [(28,vP u)]<|Op.l1 29 28 29 0 (vI (jb s (⟨client,I,o.af⟩:au))) (dg.ag 0 rfl)<|Op.pg 9 [(30,.bool ((jb s (⟨client,I,o.af⟩:au)) != 0))] ?_
    refine At.fn ((jb s (⟨client,I,o.af⟩:au))=0) 30 10 11 (fun lh=>?_) fun li=>?_
    ·obtain⟨hX,hY,hZ⟩:=St.bF (Q:=eG ef u (⟨jb s (⟨client,I,o.af⟩:au),x.aU,x.At,⟨x.aa.af,x.aa.Data,x.aa.ai,x.aa.aC,x.aa.Next,x.aa.aF⟩,x.aX,x.aP⟩:Result)) 3 dg ⟨_,_,_,_,_,rfl,dc,dd,df⟩
     exact At.rt eY<|hR (hZ.fs [1,2] rfl).drop ⟨hN,hX,rfl,eh.eq (by(subst hk;exact JG ‹_›)),hY.eq (by(subst hk;exact Ra ‹_› ‹_›)),rfl⟩
    obtain⟨lj,h1,h2⟩:=St.bF (Q:=eG ef u (⟨jb s (⟨client,I,o.af⟩:au),x.aU,x.At,⟨x.aa.af,x.aa.Data,x.aa.ai,x.aa.aC,x.aa.Next,x.aa.aF⟩,x.aX,x.aP⟩:Result)) 3 dg ⟨_,_,_,_,_,rfl,dc,dd,df⟩
    exact At.ke (du _ _ (by repeat (first|assumption|exact aM.refl _|apply aM.trans)) (od s (⟨client,I,o.af⟩:au)) (⟨jb s (⟨client,I,o.af⟩:au),x.aU,x.At,⟨x.aa.af,x.aa.Data,x.aa.ai,x.aa.aC,x.aa.Next,x.aa.aF⟩,x.aX,x.aP⟩:Result) _ _ _ (bG _) (by(subst hk;exact JG ‹_›)) (by(subst hk;exact Q_ ‹_› ‹_› _)) eh h1 (h2.fs [1,2] rfl))
   exact At.ke (du _ _ (by repeat (first|assumption|exact aM.refl _|apply aM.trans)) s x _ _ _ (bG _) (by exact Q8 ‹_›) (by exact Q9 ‹_›) a0 Y ad)
 refine At.rp 3 1 [(11,vP J)]<|Op.l1 3 11 12 0 (vI o.ah) (ce.ag 0 rfl)<|Op.pg 3 [(13,.bool (o.ah==7))]<|At.fd (o.ah=7) 13 4 5 (fun lk=>?_) fun ll=>?_
 ·exact At.go 5 1 [(8,vI 2)] (At.ke (dq _ _ (by repeat (first|assumption|exact aM.refl _|apply aM.trans)) 2 _ (bG _) (by exact Q6 ‹_›) ce))
 exact At.ke (dq _ _ (by repeat (first|assumption|exact aM.refl _|apply aM.trans)) 1 _ (bG _) (by exact Q7 ‹_›) ce)
theorem Rz (B:World) (h:ay) (g:GH) (hg:bu g h) (I:bz g) (p:aj) (u:Nat) (s:Sp) (G:az) (J:b9 g u s G) (V:Nat) (D:g V=some (.cells #[vP u] 52 (0,0))) (X:dA s) (hp:p.length≤1000000000) (hs:St h g (aS [G]) g [G] h):
  aG prog B 118 #[vS p,vP V] h g [G] (fun ab g' L'=>∃Y,ab=.tuple #[]∧b9 g' u (sj s 1 [p]) Y∧L'=[Y]):=by
 refine aG.aq func118 fun R hR=>At.rg 4<|Op.l1 52 1 3 0 (vP u) (hs.sub _ _ D)<|Op.px 1 [(4,vS p)]<|Op.ls 5 1 9 #[vS p] hs fun Z a3 ad=>?_
 have ae:aH 9 cV g (vL (some ⟨Z,0,none⟩) 1 1) [p] [(Z,Obj.cells #[vS p] 9 (0,0))]:=aH.lit (by kernel_rfl) (by unfold maxLen;decide) (by kernel_rfl) ⟨_,_,rfl,rfl,Reads.nil⟩
 obtain⟨a4,O,U,am⟩:=aH.freeze ae (ad)
 replace I:=I.mono U
 replace J:=J.mono U
 replace D:=U _ _ D
 refine Op.cl (some 6) 1 O (DN _ _ _ O.sub I u s _ J 1 _ _ am (by((try dsimp only)<;>((have:=X.wl;omega)))) (by((try dsimp only)<;>((simp;done)))) (by(try dsimp only)<;>exact X.quo) (St.pt 1 O)) ?_
 rintro _ a5 _ a6 ar aw ⟨a0,rfl,a1,rfl⟩
 replace D:=ar _ _ D
 exact Op.gt 1<|At.rt eY (hR aw ⟨a0,rfl,a1.eq (by rfl),rfl⟩)
def qT (g:GH) (b:Nat) (fH:Nat) (f:Nat) (u cp:Array Value):Prop:=
  (fH=1∧f=89∧u=#[.pointer (some ⟨b,0,none⟩)]∧cp=#[])∨
  (fH=2∧f=118∧u=#[]∧∃b0,cp=#[.pointer (some ⟨b0,0,none⟩)]∧g b0=some (.cells #[.pointer (some ⟨b,0,none⟩)] 52 (0,0)))
theorem qT.mono {g g':GH} {b fH f:Nat} {u cp:Array Value} (h:qT g b fH f u cp) (hg:aM g g'):qT g' b fH f u cp:=by
  rcases h with h|⟨h1,h2,h3,b0,h4,h5⟩
  · exact .inl h
  · exact .inr ⟨h1,h2,h3,b0,h4,hg _ _ h5⟩
theorem qT.JY {g:GH} {b fH f:Nat} {u cp:Array Value} (h:qT g b fH f u cp):eg prog f:=by
  rcases h with ⟨_,rfl,_⟩|⟨_,rfl,_⟩
  · exact eg.of (by kernel_rfl)
  · exact eg.of (by kernel_rfl)
structure iz where
  ec:aj
  fH:Nat
  bB:Nat
def vw:Kd iz where
  sz:=2
  K g x cs:=(x.fH=0∧cs=[.string (br x.ec),.nilFunc])∨∃f u cp,qT g x.bB x.fH f u cp∧cs=[.string (br x.ec),.func (.func f) u cp]
  len h:=by rcases h with ⟨_,rfl⟩|⟨_,_,_,_,rfl⟩<;>rfl
  one h:=by rcases h with ⟨_,rfl⟩|⟨_,_,_,_,rfl⟩<;>simp[Value.oneCell']
  mono hg h:=by
    rcases h with h|⟨f,u,cp,h,e⟩
    · exact .inl h
    · exact .inr ⟨f,u,cp,h.mono hg,e⟩
  zv:=⟨[],0,0⟩
  zc:=[.string (br []),.nilFunc]
  zK _:=.inl ⟨rfl,rfl⟩
theorem RA {g:GH} {x:iz} {cs:List Value} (hn:x.fH≠0) (h:vw.K g x cs):∃f u cp,qT g x.bB x.fH f u cp∧cs=[.string (br x.ec),.func (.func f) u cp]:=by
  rcases h with ⟨h,_⟩|h
  · exact absurd h hn
  · exact h
theorem JZ {e:Env} {x:Operand} {v:Value} {u cp:Array Value} (h:e.ev x=v):u++#[x].map e.ev++cp=u++(#[v]:Array Value)++cp:=by subst h;simp
def nK (s:Sp) (fH:Nat) (p:bp):Sp:=if fH=1 then vu s p else sj s 1 [p]
theorem J0 (B:World) (h:ay) (g:GH) (hg:bu g h) (G:bz g) {fH f:Nat} {I cp:Array Value} (D:Nat) (s:Sp) (u:az) (J:b9 g D s u) (p:aj) (hc:qT g D fH f I cp) (O:dA s) (hp:p.length≤1000000000) (hs:St h g (aS [u]) g [u] h):
    aG prog B f (I++(#[.string (br p)]:Array Value)++cp) h g [u] (fun V g' L'=>∃U,V=.tuple #[]∧b9 g' D (nK s fH p) U∧L'=[U]):=by
  rcases hc with ⟨rfl,rfl,rfl,rfl⟩|⟨rfl,rfl,rfl,b0,rfl,hb⟩
  · exact JW B h g hg G D s u J p O hp hs
  · exact Rz B h g hg G p D s u J b0 hb O hp hs
theorem dA.Al {s:Sp} (H:dA s) (fH:Nat) (p:bp):dA (nK s fH p):=by
  unfold nK
  split
  · exact H.xJ p
  · exact H.oc _ _
def dU:aa:=⟨[],[],0, -1,0,0⟩
def dN (s:Sp) (client:Int) (o:aR):List aa×bp×Int:=cg s.aA o.af o.Data (if o.aV=true then client else -1) s.count o.aK
def dV (s:Sp) (client:Int) (o:aR):List aa:=
  if o.ah=3 then (dN s client o).1 else if o.ah=4 then (fZ s.aA o.af o.ai).1 else (eU s.aA o.af o.Data o.ai).1
def cu (s:Sp) (client:Int) (o:aR):Int:=
  if o.ah=3 then (dN s client o).2.2 else if o.ah=4 then (fZ s.aA o.af o.ai).2 else (eU s.aA o.af o.Data o.ai).2.2
def bI (s:Sp) (client:Int) (o:aR):aa:=
  if o.ah=3 then {dU with af:=(dN s client o).2.1} else if o.ah=4 then dU
  else if (eU s.aA o.af o.Data o.ai).2.2=0 then {dU with af:=o.af,ai:=(eU s.aA o.af o.Data o.ai).2.1} else dU
def cP (s:Sp) (client:Int) (o:aR):bp:=if o.ah=3 then (dN s client o).2.1 else o.af
def iR (o:aR):Nat:=if o.ah=3 then 1 else if o.ah=4 then 1 else 2
def cM (s:Sp) (client:Int) (o:aR):Sp:={s with aA:=dV s client o}
theorem Am {o:aR} (h:o.ah=3):iR o=1:=by rw[iR,aY h]
theorem J1 {o:aR} (h:¬o.ah=3) (h4:o.ah=4):iR o=1:=by rw[iR,aL h,aY h4]
theorem J2 {o:aR} (h:¬o.ah=3) (h4:¬o.ah=4):iR o=2:=by rw[iR,aL h,aL h4]
structure Mu where
  sp:Sp
  bC:List iz
  jx:List bp
def iS (b:Nat) (client:Int) (m:Mu) (o:aR):Mu:=
  ⟨cM m.sp client o,m.bC++[⟨cP m.sp client o,iR o,b⟩],m.jx++[if o.ah=3 then (bI m.sp client o).af else []]⟩
def oT (b:Nat) (client:Int) (s:Sp) (ops:List aR) (i:Int) (m:Mu):Prop:=
  m=(ops.take i.toNat).foldl (iS b client) ⟨s,[],[]⟩∧∀k:Nat,(k:Int)<i→∀o,ops[k]?=some o→cu ((ops.take k).foldl (iS b client) ⟨s,[],[]⟩).sp client o=0
section
variable {ns:List aa} {l:aa} {p data:bp} {cC born bK:Int} {num:Bool}
theorem fB.put (H:fB ns) (hn:(fG ns l.af).length<1000) (hl:l.af.length≤64∧l.Data.length≤128∧ -9223372036854775808≤l.Next∧l.Next≤9223372036854775807):fB (ei ns l):=by
  have hp:=pQ ns l
  refine⟨by rw[hp.length_eq,bJ];omega,fun n hm=>?_⟩
  rcases eO.1 (hp.mem_iff.1 hm) with rfl|hm
  · exact hl
  · exact H.2 n (ic.1 hm).1
theorem DO (ns:List aa) (p:bp):(fG ns p).length≤ns.length:=kX _ _
theorem RB (h:l∈ns):(fG ns l.af).length<ns.length:=by
  unfold fG
  refine List.length_filter_lt_length_iff_exists.2 ⟨l,h,?_⟩
  simp
theorem RC (x:Int): -9223372036854775808≤IntKind.wrap .i64 x∧IntKind.wrap .i64 x≤9223372036854775807:=by
  have e:IntKind.wrap .i64 x=if (true&&decide (x % 18446744073709551616≥9223372036854775808))=true then x % 18446744073709551616-18446744073709551616 else x % 18446744073709551616:=rfl
  rw[e]
  by_cases h:x % 18446744073709551616≥9223372036854775808
  · rw[aY (by rw[lK,cN];exact h)];omega
  · rw[aL (by rw[lK,cN];exact h)];omega
theorem fB.set (H:fB ns):fB (eU ns p data bK).1:=by
  unfold eU
  split
  · exact H
  · split
    · exact H
    · rename_i l hf
      obtain⟨hm,rfl⟩:=jJ hf
      repeat' split
      · exact H
      · exact H
      · rename_i hd
        have:=H.2 l hm
        refine H.put (l:={l with Data:=data,ai:=IntKind.wrap .i64 (l.ai+1)}) ?_ ⟨this.1,by simpa using hd,this.2.2⟩
        have h1:=RB hm
        have h2:=H.1
        show(fG ns l.af).length<1000
        omega
theorem fB.make (H:fB ns):fB (cg ns p data cC born num).1:=by
  unfold cg
  repeat' split
  all_goals first|exact H|skip
  rename_i h1 h2 _ up hf h3 h4 _ D h5
  obtain⟨hm,G⟩:=jJ hf
  have hu:=H.2 up hm
  have hlen:ns.length<32:=by omega
  show fB (n4 ns up (fh up p num) data cC born num)
  unfold n4
  have hN:(fh up p num).length≤64:=by
    unfold fh
    split
    · exact Cn _ _
    · exact Co (by simpa using h1)
  have hw:fB (ei ns (if num=true then {up with Next:=IntKind.wrap .i64 (up.Next+1)} else up)):=by
    refine H.put (by have:=DO ns (if num=true then {up with Next:=IntKind.wrap .i64 (up.Next+1)} else up).af;omega) ?_
    split
    · exact⟨hu.1,hu.2.1,RC _⟩
    · exact hu
  have u:(ei ns (if num=true then {up with Next:=IntKind.wrap .i64 (up.Next+1)} else up)).length≤33:=by
    rw[(pQ ns _).length_eq,bJ]
    have:=DO ns (if num=true then {up with Next:=IntKind.wrap .i64 (up.Next+1)} else up).af
    omega
  refine hw.put (CG (cH (DO _ _) u) (by decide)) ⟨hN,by simpa using h2,by show(-9223372036854775808:Int)≤0;decide,by show(0:Int)≤9223372036854775807;decide⟩
end
theorem dA.oU {s:Sp} (H:dA s) (client:Int) (o:aR):dA (cM s client o):=by
  refine H.tr ?_
  unfold dV dN
  repeat' split
  all_goals first|exact H.tree.make|exact H.tree.drop _ _|exact H.tree.set
section
variable {b:Nat} {client i:Int} {s:Sp} {ops:List aR} {m:Mu} {o:aR}
theorem RD:oT b client s ops 0 ⟨s,[],[]⟩:=⟨rfl,fun k h=>by omega⟩
theorem DP (H:oT b client s ops i m) (h0:0≤i) (ho:ops[i.toNat]?=some o) (he:cu m.sp client o=0):oT b client s ops (i+1) (iS b client m o):=by
  obtain⟨h1,h2⟩:=H
  refine⟨?_,fun k hk p hp=>?_⟩
  · rw[toNat_succ h0,fP ho,vk,←h1];rfl
  · by_cases hlt:(k:Int)<i
    · exact h2 k hlt p hp
    · obtain rfl:k=i.toNat:=by omega
      rw[hp] at ho
      rw[gI ho,←h1]
      exact he
end
def tY (client:Int) (s:Sp) (o:aR):Sp:=cM s client o
def jd (client:Int):Sp→List aR→Int→Option (Int×Int×Sp)
  |_,[],_=>none
  |s,o::os,i=>if cu s client o=0 then jd client (cM s client o) os (i+1) else some (i,cu s client o,cM s client o)
def nL (b:Nat) (client:Int) (s:Sp) (ops:List aR):Mu:=ops.foldl (iS b client) ⟨s,[],[]⟩
def qg (s:Sp) (c:iz):Sp:=nK s c.fH c.ec
def DQ (u s:Sp):Sp:={s with aA:=if lN u.aA=true then u.aA else s.aA}
def oV (s:Sp) (client:Int) (o:aR):Sp:=match jd client s o.aB 0 with
  |some (_,_,sp)=>DQ s sp
  |none=>(nL 0 client s o.aB).bC.foldl qg (nL 0 client s o.aB).sp
def qU (s:Sp) (client:Int) (o:aR) (x:Result):Result:=match jd client s o.aB 0 with
  |some (i,e,_)=>{x with Code:=e,At:=i}
  |none=>{x with aX:=(nL 0 client s o.aB).jx}
theorem An {s:Sp} (H:dA s) {c:Int} (o:aR):(cP s c o).length≤o.af.length+64:=by
  unfold cP dN cg
  repeat' split
  all_goals first|(simp;done)|skip
  all_goals
    simp only[]
    unfold fh
    split
    · exact cH (Cn _ _) (by omega)
    · omega
section
variable {b:Nat} {client i:Int} {s:Sp} {ops:List aR} {m:Mu} {o:aR} {x:Result}
theorem xM:∀(ops:List aR) (m:Mu),(ops.foldl (iS b client) m).sp=ops.foldl (tY client) m.sp
  |[],_=>rfl
  |o::ops,m=>xM ops (iS b client m o)
theorem J3:∀(pre rest:List aR) (s:Sp) (i:Int),(∀k o,pre[k]?=some o→cu ((pre.take k).foldl (tY client) s) client o=0)→
    jd client s (pre++rest) i=jd client (pre.foldl (tY client) s) rest (i+pre.length)
  |[],rest,s,i,_=>by simp
  |o::pre,rest,s,i,h=>by
   have h0:=h 0 o rfl
   simp only[uB,List.foldl_nil] at h0
   rw[dL,jd,aY h0]
   have:=J3 pre rest (tY client s o) (i+1) fun k p hp=>h (k+1) p (by simpa using hp)
   show jd client (tY client s o) (pre++rest) (i+1)=_
   rw[this,bJ,qB]
   congr 1
   omega
theorem J4 (H:oT b client s ops i m) (h0:0≤i) (hi:i≤ops.length):jd client s (ops.take i.toNat) 0=none∧∀rest,jd client s (ops.take i.toNat++rest) 0=jd client m.sp rest i:=by
  have h:∀rest,jd client s (ops.take i.toNat++rest) 0=jd client m.sp rest i:=fun rest=>by
    rw[J3,H.1,xM]
    · congr 1
      rw[dZ]
      omega
    · intro k p hp
      have hk:k<i.toNat:=by
        have:=(fO.1 hp).1
        rw[dZ] at this
        omega
      rw[sK,aY hk] at hp
      have:=H.2 k (by omega) p hp
      rw[xM] at this
      rw[q8,jB (by omega)]
      exact this
  refine⟨?_,h⟩
  have:=h []
  rw[dm] at this
  rw[this,jd]
theorem J5 (H:oT b client s ops i m) (h0:0≤i) (ho:ops[i.toNat]?=some o) (he:¬cu m.sp client o=0):jd client s ops 0=some (i,cu m.sp client o,cM m.sp client o):=by
  have hlt:=(fO.1 ho).1
  have h:=(J4 H h0 (by omega)).2 (ops.drop i.toNat)
  rw[lJ] at h
  rw[h,v7 hlt,jd]
  have:ops[i.toNat]=o:=(fO.1 ho).2
  rw[this,aL he]
theorem J6 (H:oT b client s ops i m) (h0:0≤i) (hi:i≤ops.length) (hn:¬i<(ops.length:Int)):jd client s ops 0=none∧m=nL b client s ops:=by
  have h:=(J4 H h0 hi).1
  have h1:=H.1
  rw[fF (by omega)] at h h1
  exact⟨h,h1⟩
theorem RE (H:oT b client s o.aB i m) (h0:0≤i) {p:aR} (hp:o.aB[i.toNat]?=some p) (he:¬cu m.sp client p=0):oV s client o=DQ s (cM m.sp client p):=by
  unfold oV
  rw[J5 H h0 hp he]
theorem RF (H:oT b client s o.aB i m) (h0:0≤i) {p:aR} (hp:o.aB[i.toNat]?=some p) (he:¬cu m.sp client p=0):qU s client o x={x with Code:=cu m.sp client p,At:=i}:=by
  unfold qU
  rw[J5 H h0 hp he]
theorem DR (b':Nat):∀(ops:List aR) (m m':Mu),m.sp=m'.sp→m.jx=m'.jx→m.bC.map (fun c=>(c.ec,c.fH))=m'.bC.map (fun c=>(c.ec,c.fH))→
    (ops.foldl (iS b client) m).sp=(ops.foldl (iS b' client) m').sp∧(ops.foldl (iS b client) m).jx=(ops.foldl (iS b' client) m').jx∧(ops.foldl (iS b client) m).bC.map (fun c=>(c.ec,c.fH))=(ops.foldl (iS b' client) m').bC.map (fun c=>(c.ec,c.fH))
  |[],_,_,h1,h2,h3=>⟨h1,h2,h3⟩
  |o::ops,m,m',h1,h2,h3=>DR b' ops (iS b client m o) (iS b' client m' o) (by unfold iS;rw[h1]) (by unfold iS;rw[h1,h2]) (by unfold iS;simp only[gA,h3,h1,eS,kQ])
theorem J7 (l:List iz) (s:Sp):l.foldl qg s=(l.map fun c=>(c.ec,c.fH)).foldl (fun s p=>nK s p.2 p.1) s:=by
  rw[List.foldl_map]
  rfl
theorem RG (b':Nat):(nL b client s ops).bC.foldl qg (nL b client s ops).sp=(nL b' client s ops).bC.foldl qg (nL b' client s ops).sp:=by
  obtain⟨h1,_,h3⟩:=DR (b:=b) (client:=client) b' ops ⟨s,[],[]⟩ ⟨s,[],[]⟩ rfl rfl rfl
  rw[J7,J7]
  unfold nL
  rw[h1,h3]
theorem RH {y z:Sp} {cs:List iz} {ns:List bp} {q:Int} (H:oT b client s o.aB i ⟨y,cs,ns⟩) (h0:0≤i) (hi:i≤o.aB.length) (hn:¬i<(o.aB.length:Int)) (hz:z=(cs.take q.toNat).foldl qg y) (hq:¬q<(cs.length:Int)):z=oV s client o:=by
  obtain⟨h1,h2⟩:=J6 H h0 hi hn
  unfold oV
  rw[h1]
  simp only[]
  rw[RG (b:=0) b,←h2]
  rw[fF (by omega)] at hz
  exact hz
theorem RI {y:Sp} {cs:List iz} {ns:List bp} (H:oT b client s o.aB i ⟨y,cs,ns⟩) (h0:0≤i) (hi:i≤o.aB.length) (hn:¬i<(o.aB.length:Int)):{x with aX:=ns}=qU s client o x:=by
  obtain⟨h1,h2⟩:=J6 H h0 hi hn
  unfold qU
  rw[h1]
  simp only[]
  unfold nL
  rw[(DR (b:=0) (client:=client) b o.aB ⟨s,[],[]⟩ ⟨s,[],[]⟩ rfl rfl rfl).2.1]
  unfold nL at h2
  rw[←h2]
theorem RJ (o:aR):iR o≠0:=by
  unfold iR
  split
  · decide
  · split<;>decide
theorem DS {cs:List iz} (h:∀c∈cs,c.fH≠0∧c.bB=b) (p:bp) (o:aR):∀c∈cs++[(⟨p,iR o,b⟩:iz)],c.fH≠0∧c.bB=b:=fun c hc=>by
  rcases eo.1 hc with hc|hc
  · exact h c hc
  · rw[iA.1 hc];exact⟨RJ o,rfl⟩
theorem DT {cs:List iz} (h:∀c∈cs,c.ec.length≤1000000000) {p:bp} (hp:p.length≤1000000000) (o:aR):∀c∈cs++[(⟨p,iR o,b⟩:iz)],c.ec.length≤1000000000:=fun c hc=>by
  rcases eo.1 hc with hc|hc
  · exact h c hc
  · rw[iA.1 hc];exact hp
theorem RL {y z:Sp} {cs:List iz} {c:iz} {q:Int} (hz:z=(cs.take q.toNat).foldl qg y) (h0:0≤q) (hc:cs[q.toNat]?=some c):nK z c.fH c.ec=(cs.take (q+1).toNat).foldl qg y:=by
  rw[toNat_succ h0,fP hc,vk,←hz]
  rfl
end
def touchS (s:Sp) (c:Int):Sp:={s with aN:=touchB s.aN c s.aE}
def qV (s:Sp) (c:Int) (o:aR):Sp:=if cu s c o=0 then nK (cM s c o) (iR o) (cP s c o) else cM s c o
def Ao (s:Sp) (c:Int) (o:aR) (x:Result):Result:=if cu s c o=0 then {x with Code:=cu s c o,aa:=bI s c o} else {x with Code:=cu s c o}
def ki (o:aR):Bool:=decide (o.ah=3)||(decide (o.ah=4)||decide (o.ah=5))
def nM (o:aR):Bool:=decide (o.ah=6)||decide (o.ah=7)
def oo (s:Sp) (c:Int) (o:aR):Sp:=if o.ah=2 then lW s [c] else if ki o=true then qV s c o else if nM o=true then nh s c o else if o.ah=8 then oV s c o else s
def qh (s:Sp) (c:Int) (o:aR) (x:Result):Result:=if o.ah=2 then x else if ki o=true then Ao s c o x else if nM o=true then oh s c o x else if o.ah=8 then qU s c o x else x
def dH (s:Sp) (c:Int) (b:bp):Sp:=
  if (aD b).2≠0 then s else if (aD b).1.ah=1 then {s with aN:=mU s.aN c (aD b).1.aI s.aE}
  else if touchE s.aN c s.aE≠0 then touchS s c else oo (touchS s c) c (aD b).1
def cB (s:Sp) (c:Int) (b:bp) (x:Result):Result:=
  if (aD b).2≠0 then {x with Code:=(aD b).2} else if (aD b).1.ah=1 then {x with Code:=jO s.aN c (aD b).1.aI s.aE}
  else if touchE s.aN c s.aE≠0 then {x with Code:=touchE s.aN c s.aE} else qh (touchS s c) c (aD b).1 {x with Code:=touchE s.aN c s.aE}
theorem dA.touch1 {s:Sp} (H:dA s) {c:Int}:dA (touchS s c):=⟨H.tree,H.wl,H.ws,H.aN.touch,H.quo⟩
section
variable {s:Sp} {c:Int} {b:bp} {x:Result} {ka:Bool}
theorem J8 (h:¬(aD b).2=0):s=dH s c b∧{x with Code:=(aD b).2}=cB s c b x:=⟨by unfold dH;rw[aY h],by unfold cB;rw[aY h]⟩
theorem J9 (h:(aD b).2=0) (hk:(aD b).1.ah=1):{s with aN:=mU s.aN c (aD b).1.aI s.aE}=dH s c b∧{x with Code:=jO s.aN c (aD b).1.aI s.aE}=cB s c b x:=
  ⟨by unfold dH;rw[aL (by simpa using h),aY hk],by unfold cB;rw[aL (by simpa using h),aY hk]⟩
theorem J_ (h:(aD b).2=0) (hk:¬(aD b).1.ah=1) (ht:¬touchE s.aN c s.aE=0):touchS s c=dH s c b∧{x with Code:=touchE s.aN c s.aE}=cB s c b x:=
  ⟨by unfold dH;rw[aL (by simpa using h),aL hk,aY ht],by unfold cB;rw[aL (by simpa using h),aL hk,aY ht]⟩
theorem vz (h:(aD b).2=0) (hk:¬(aD b).1.ah=1) (ht:touchE s.aN c s.aE=0):oo (touchS s c) c (aD b).1=dH s c b∧qh (touchS s c) c (aD b).1 {x with Code:=touchE s.aN c s.aE}=cB s c b x:=
  ⟨by unfold dH;rw[aL (by simpa using h),aL hk,aL (by simpa using ht)],by unfold cB;rw[aL (by simpa using h),aL hk,aL (by simpa using ht)]⟩
theorem Ka (h:(aD b).2=0) (hk:¬(aD b).1.ah=1) (ht:touchE s.aN c s.aE=0) (k2:(aD b).1.ah=2):lW (touchS s c) [c]=dH s c b∧{x with Code:=touchE s.aN c s.aE}=cB s c b x:=by
  obtain⟨h1,h2⟩:=vz (x:=x) h hk ht
  rw[←h1,←h2]
  exact⟨by unfold oo;rw[aY k2],by unfold qh;rw[aY k2]⟩
theorem Kb (h:(aD b).2=0) (hk:¬(aD b).1.ah=1) (ht:touchE s.aN c s.aE=0) (k2:¬(aD b).1.ah=2) (hA:ka=ki (aD b).1) (u:ka=true) (he:cu (touchS s c) c (aD b).1=0):
    nK (cM (touchS s c) c (aD b).1) (iR (aD b).1) (cP (touchS s c) c (aD b).1)=dH s c b∧{x with Code:=cu (touchS s c) c (aD b).1,aa:=bI (touchS s c) c (aD b).1}=cB s c b x:=by
  obtain⟨h1,h2⟩:=vz (x:=x) h hk ht
  rw[←h1,←h2]
  have hA:ki (aD b).1=true:=by rw[←hA];exact u
  exact⟨by unfold oo qV;rw[aL k2,aY hA,aY he],by unfold qh Ao;rw[aL k2,aY hA,aY he]⟩
theorem Kc (h:(aD b).2=0) (hk:¬(aD b).1.ah=1) (ht:touchE s.aN c s.aE=0) (k2:¬(aD b).1.ah=2) (hA:ka=ki (aD b).1) (u:ka=true) (he:¬cu (touchS s c) c (aD b).1=0):
    cM (touchS s c) c (aD b).1=dH s c b∧{x with Code:=cu (touchS s c) c (aD b).1}=cB s c b x:=by
  obtain⟨h1,h2⟩:=vz (x:=x) h hk ht
  rw[←h1,←h2]
  have hA:ki (aD b).1=true:=by rw[←hA];exact u
  exact⟨by unfold oo qV;rw[aL k2,aY hA,aL he],by unfold qh Ao;rw[aL k2,aY hA,aL he]⟩
theorem Ke {u:Bool} (h:(aD b).2=0) (hk:¬(aD b).1.ah=1) (ht:touchE s.aN c s.aE=0) (k2:¬(aD b).1.ah=2) (hA:ka=ki (aD b).1) (D:ka=false) (hL:u=nM (aD b).1) (G:u=true):
    nh (touchS s c) c (aD b).1=dH s c b∧oh (touchS s c) c (aD b).1 {x with Code:=touchE s.aN c s.aE}=cB s c b x:=by
  obtain⟨h1,h2⟩:=vz (x:=x) h hk ht
  rw[←h1,←h2]
  have hA:¬ki (aD b).1=true:=by rw[←hA,D];decide
  have hL:nM (aD b).1=true:=by rw[←hL];exact G
  exact⟨by unfold oo;rw[aL k2,aL hA,aY hL],by unfold qh;rw[aL k2,aL hA,aY hL]⟩
theorem Kf {u:Bool} (h:(aD b).2=0) (hk:¬(aD b).1.ah=1) (ht:touchE s.aN c s.aE=0) (k2:¬(aD b).1.ah=2) (hA:ka=ki (aD b).1) (G:ka=false) (hL:u=nM (aD b).1) (I:u=false) (D:(aD b).1.ah=8):
    oV (touchS s c) c (aD b).1=dH s c b∧qU (touchS s c) c (aD b).1 {x with Code:=touchE s.aN c s.aE}=cB s c b x:=by
  obtain⟨h1,h2⟩:=vz (x:=x) h hk ht
  rw[←h1,←h2]
  have hA:¬ki (aD b).1=true:=by rw[←hA,G];decide
  have hL:¬nM (aD b).1=true:=by rw[←hL,I];decide
  exact⟨by unfold oo;rw[aL k2,aL hA,aL hL,aY D],by unfold qh;rw[aL k2,aL hA,aL hL,aY D]⟩
theorem Kg {u:Bool} (h:(aD b).2=0) (hk:¬(aD b).1.ah=1) (ht:touchE s.aN c s.aE=0) (k2:¬(aD b).1.ah=2) (hA:ka=ki (aD b).1) (G:ka=false) (hL:u=nM (aD b).1) (I:u=false) (D:¬(aD b).1.ah=8):
    touchS s c=dH s c b∧{x with Code:=touchE s.aN c s.aE}=cB s c b x:=by
  obtain⟨h1,h2⟩:=vz (x:=x) h hk ht
  rw[←h1,←h2]
  have hA:¬ki (aD b).1=true:=by rw[←hA,G];decide
  have hL:¬nM (aD b).1=true:=by rw[←hL,I];decide
  exact⟨by unfold oo;rw[aL k2,aL hA,aL hL,aL D],by unfold qh;rw[aL k2,aL hA,aL hL,aL D]⟩
theorem RM {o:aR} (h:o.ah=3):true=ki o:=by unfold ki;rw[gb h];rfl
theorem RN {o:aR} (h:o.ah=4):true=ki o:=by unfold ki;rw[gb h];simp
theorem RO {o:aR} (h3:¬o.ah=3) (h4:¬o.ah=4):decide (o.ah=5)=ki o:=by unfold ki;rw[gQ h3,gQ h4];rfl
theorem RP {o:aR} (h:o.ah=6):true=nM o:=by unfold nM;rw[gb h];rfl
theorem RQ {o:aR} (h3:¬o.ah=6):decide (o.ah=7)=nM o:=by unfold nM;rw[gQ h3];rfl
theorem xN (b:bp):cU (aD b).1≤1000000:=by
  unfold aD
  split
  · rw[xD];decide
  · split
    · rw[xD];decide
    · rename_i h1 h2
      simp only[tq] at h2
      have hr:dh false (aT false b).1=true:=by simpa using h2.2
      have ho:=(nC hr).2.2.2.1
      have he:(aT false b).2=true:=by simpa using h2.1
      unfold aT at ho he ⊢
      repeat' split at he
      · rename_i h3 h4
        rw[aY h3,aY h4] at ho ⊢
        refine cH (Dn _ _) ?_
        have h5:gl (((aJ b).1.drop 3).map fun x=>(jS x).1)≤131073*(((aJ b).1.drop 3).map fun x=>(jS x).1).length:=Dp fun x hx=>by
          obtain⟨y,_,rfl⟩:=cY.1 hx
          exact IT y
        have h6:(((aJ b).1.drop 3).map fun x=>(jS x).1).length≤4:=ho
        have:131073*(((aJ b).1.drop 3).map fun x=>(jS x).1).length≤131073*4:=uy _ h6
        omega
      · cases he
      · cases he
end
def xO (s:Sp):Sp:=lW {s with aN:=mq (mu s.aE) s.aN} (jP (mu s.aE) s.aN)
def gK (s:Sp) (t:Int):Sp:=xO {s with aE:=max s.aE (min t 1099511627775)}
def kL (s:Sp) (c:Int):iO:=(cy s.aW c).getD ⟨0,[]⟩
def je (e:j0):Bool:=decide (0≤e.ax)&&(decide (e.ax<8)&&(decide (1≤e.cw)&&decide (e.cw<1099511627776)))
def lu (s:Sp):Sp:={s with count:=s.count+1}
def mF (s:Sp) (c:Int) (b:bp):Result:={cB (lu s) c b ⟨0,s.count+1,0,dU,[],[]⟩ with aP:=eE (dH (lu s) c b).events c}
def xP (s:Sp) (e:j0) (b:bp):Sp:={dH (lu s) e.ax b with events:=eR (dH (lu s) e.ax b).events e.ax,aW:=dz (dH (lu s) e.ax b).aW e.ax ⟨e.cw,(aO (mF s e.ax b)).1⟩}
def kj (s:Sp) (e:j0) (b:bp):Sp:=
  if je e=true∧(kL (gK s e.cx) e.ax).cX<e.cw then xP (gK s e.cx) e b else gK s e.cx
def cz (s:Sp) (e:j0) (b:bp):bp:=
  if je e=true then (if (kL (gK s e.cx) e.ax).cX<e.cw then (aO (mF (gK s e.cx) e.ax b)).1 else if e.cw=(kL (gK s e.cx) e.ax).cX then (kL (gK s e.cx) e.ax).data else []) else []
def kn (s:Sp) (e:j0):Bool:=je e&&decide ((kL (gK s e.cx) e.ax).cX<e.cw)
set_option linter.unusedSectionVars false
structure nN (ws:List au):Prop where
  sort:j_ ws
  right:∀w∈ws,iQ w=true
  qi:∀c,cnt c ws≤8
theorem Ap (c:Int) (w:au) (ws:List au):cnt c (w::ws)=(if w.ax=c then 1 else 0)+cnt c ws:=rfl
theorem Kh (c:Int) (q:au→Bool):∀ws:List au,cnt c (ws.filter q)≤cnt c ws
  |[]=>gF _
  |w::ws=>by
   have ih:=Kh c q ws
   rw[iW]
   split
   · rw[Ap,Ap];omega
   · rw[Ap];omega
theorem nN.nil:nN []:=⟨j_.nil,fun w h=>(by cases h),fun c=>by simp[cnt]⟩
theorem nN.filter {ws:List au} (H:nN ws) (q:au→Bool):nN (ws.filter q):=
  ⟨H.sort.filter q,fun w h=>H.right w (ic.1 h).1,fun c=>cH (Kh c q ws) (H.qi c)⟩
theorem nN.add {ws:List au} (H:nN ws) (w:au):nN (nJ ws w):=by
  rcases JT ws w with ⟨e,_⟩|⟨e,_,h1,h2,h3⟩
  · rw[e];exact H
  · rw[e]
    refine⟨JS H.sort (by simpa[ng] using h2),fun y hy=>?_,fun c=>?_⟩
    · rcases DL.1 hy with rfl|hy
      · exact h1
      · exact H.right y hy
    · rw[DM]
      by_cases hc:w.ax=c
      · subst hc;rw[aY rfl];omega
      · rw[aL hc];exact H.qi c
theorem Aq {w:au} (h:iQ w=true):w.af.length≤64∧0≤w.ax∧w.ax<8∧(w.ah=1∨w.ah=2):=by
  unfold iQ at h
  simp only[bZ,ji,cN,jZ] at h
  obtain⟨h1,h2,h3,h4⟩:=h
  have h5:=j4.1 h4
  unfold eH at h5
  simp only[bZ,cN] at h5
  exact⟨h5.2.1,h1,h2,h3⟩
theorem Ki:∀(ws:List au),(∀w∈ws,0≤w.ax∧w.ax<8)→ws.length=cnt 0 ws+cnt 1 ws+cnt 2 ws+cnt 3 ws+cnt 4 ws+cnt 5 ws+cnt 6 ws+cnt 7 ws
  |[],_=>by simp[cnt]
  |w::ws,h=>by
   have ih:=Ki ws fun v hv=>h v (by simp[hv])
   have hw:=h w (by simp)
   rw[bJ,ih]
   simp only[Ap]
   have hc:w.ax=0∨w.ax=1∨w.ax=2∨w.ax=3∨w.ax=4∨w.ax=5∨w.ax=6∨w.ax=7:=by omega
   rcases hc with e|e|e|e|e|e|e|e<;>simp[e]<;>omega
theorem nN.len {ws:List au} (H:nN ws):ws.length≤64:=by
  rw[Ki ws fun w hw=>(Aq (H.right w hw)).2.imp id (·.1)]
  have:=H.qi 0;have:=H.qi 1;have:=H.qi 2;have:=H.qi 3;have:=H.qi 4;have:=H.qi 5;have:=H.qi 6;have:=H.qi 7
  omega
structure kM (e:kJ):Prop where
  sort:fR e
  ne:∀p∈e,p.2≠[]
  own:∀p∈e,∀w∈p.2,w.ax=p.1∧iQ w=true
section
variable {e:kJ} {w:au} {ws:List au} {c:Int}
theorem kM.nil:kM []:=⟨List.Pairwise.nil,fun p h=>(by cases h),fun p h=>by cases h⟩
theorem kM.eE (H:kM e) (c:Int):∀w∈eE e c,w.ax=c∧iQ w=true:=by
  unfold Sw.eE
  cases hf:cy e c with
  |none=>intro w h;cases h
  |some xs=>exact H.own (c,xs) ((mo H.sort).1 hf)
theorem kM.put (H:kM e) (h:iQ w=true):kM (vt e w):=by
  unfold vt
  refine⟨xw H.sort,fun p hp=>?_,fun p hp v hv=>?_⟩
  · rcases rV hp with rfl|hp
    · simp
    · exact H.ne p hp
  · rcases rV hp with rfl|hp
    · rcases eo.1 hv with hv|hv
      · exact H.eE w.ax v hv
      · rw[iA.1 hv];exact⟨rfl,h⟩
    · exact H.own p hp v hv
theorem kM.Kj:∀(ws:List au) {e:kJ},kM e→(∀w∈ws,iQ w=true)→kM (kK e ws)
  |[],_,H,_=>H
  |w::ws,_,H,h=>kM.Kj ws (H.put (h w (by simp))) fun v hv=>h v (by simp[hv])
theorem kM.n7 (H:kM e) (c:Int):kM (eR e c):=
  ⟨s7 oL H.sort,fun p hp=>H.ne p (ic.1 hp).1,fun p hp=>H.own p (ic.1 hp).1⟩
end
structure sx (r:List (Int×iO)):Prop where
  sort:fR r
  ok:∀p∈r,(0≤p.1∧p.1<8)∧(1≤p.2.cX∧p.2.cX<1099511627776)∧p.2.data.length≤65536
theorem sx.nil:sx []:=⟨List.Pairwise.nil,fun p h=>by cases h⟩
theorem sx.put {r:List (Int×iO)} {c u:Int} {d:bp} (H:sx r) (h:(0≤c∧c<8)∧(1≤u∧u<1099511627776)∧d.length≤65536):sx (dz r c ⟨u,d⟩):=
  ⟨xw H.sort,fun p hp=>by
    rcases rV hp with rfl|hp
    · exact h
    · exact H.ok p hp⟩
def lz (Q:Int→Int→Prop) (ns:List aa):Prop:=∀n∈ns,Q n.aC n.aF
def vA (cnt:Int) (o b:Int):Prop:=o<8∧b≤cnt
section
variable {Q:Int→Int→Prop} {ns:List aa} {l:aa} {p data:bp} {cC born bK:Int} {num:Bool}
theorem lz.DU (H:lz Q ns) (h:Q l.aC l.aF):lz Q (ei ns l):=fun n hn=>by
  rcases qI.1 hn with rfl|hn
  · exact h
  · exact H n hn.1
theorem lz.make (H:lz Q ns) (h:Q (max cC (-1)) (max born 0)):lz Q (cg ns p data cC born num).1:=by
  by_cases he:(cg ns p data cC born num).2.2=0
  · obtain⟨up,_,_,hf,_,_,_,_,e⟩:=zD he
    rw[e]
    unfold n4
    refine lz.DU (H.DU ?_) h
    have:=H up (jJ hf).1
    split<;>exact this
  · rw[(CY he).1];exact H
theorem lz.drop (H:lz Q ns):lz Q (fZ ns p bK).1:=by
  unfold fZ
  repeat' split
  all_goals first|exact H|exact fun n hn=>H n (ic.1 hn).1
theorem lz.set (H:lz Q ns):lz Q (eU ns p data bK).1:=by
  unfold eU
  repeat' split
  all_goals first|exact H|skip
  rename_i l hf _ _
  exact H.DU (H l (jJ hf).1)
end
structure bO (k:Int) (s:Sp):Prop where
  tree:e_ k s.aA
  mG:nN s.aQ
  aN:gC s.aN
  nO:∀p∈s.aN,s.aE<p.2.dx+p.2.aI
  aE:0≤s.aE∧s.aE<1099511627776
  ev:kM s.events
  quo:qe s.aQ s.events
  jX:sx s.aW
  lB:lz (vA s.count) s.aA
  cn:0≤s.count
section
variable {k k':Int} {s:Sp} {kind c t:Int} {de:List bp} {p:bp} {o:aR} {w:au}
theorem bO.mono (H:bO k s) (h:k≤k'):bO k' s:=⟨H.tree.mono h,H.mG,H.aN,H.nO,H.aE,H.ev,H.quo,H.jX,H.lB,H.cn⟩
theorem bO.wk (H:bO k s) (hk:k≤1000000):dA s:=⟨H.tree.b hk,cH H.mG.len (by decide),H.mG.sort,H.aN,H.quo⟩
theorem bO.new:bO 0 vr:=⟨e_.new,nN.nil,gC.nil,fun p h=>(by cases h),by decide,kM.nil,fun c=>(by simp[vr,eE,cy]),sx.nil,fun n hn=>(by rw[iA.1 hn];exact⟨by decide,by decide⟩),by decide⟩
theorem bO.oc (H:bO k s) (kind:Int) (de:List bp):bO k (sj s kind de):=
  ⟨H.tree,H.mG.filter _,H.aN,H.nO,H.aE,kM.Kj _ H.ev (fun w hw=>H.mG.right w (ic.1 hw).1),H.quo.oc kind de,H.jX,H.lB,H.cn⟩
theorem bO.xJ (H:bO k s) (p:bp):bO k (vu s p):=(H.oc _ _).oc _ _
theorem bO.Al (H:bO k s) (fH:Nat) (p:bp):bO k (nK s fH p):=by
  unfold nK
  split
  · exact H.xJ p
  · exact H.oc _ _
theorem bO.tr {ns:List aa} (H:bO k s) (h:e_ k' ns) (hl:lz (vA s.count) ns):bO k' {s with aA:=ns}:=⟨h,H.mG,H.aN,H.nO,H.aE,H.ev,H.quo,H.jX,hl,H.cn⟩
theorem bO.lq (H:bO k s) (p:bp):bO k (lq s p):=(H.tr (H.tree.drop (p:=p) (bK:= -1)) H.lB.drop).xJ p
theorem bO.Ag:∀(ps:List bp) {s:Sp},bO k s→bO k (ps.foldl Sw.lq s)
  |[],_,H=>H
  |p::ps,_,H=>bO.Ag ps (H.lq p)
theorem bO.left (H:bO k s) (c:Int):bO k (sn s c):=
  ⟨H.tree,H.mG.filter _,H.aN.left _,fun p hp=>H.nO p (ic.1 hp).1,H.aE,H.ev.n7 c,fun i=>by
    have h1:=H.quo i
    have h2:=(DB (fun w:au=>decide (w.ax=i)) (oL (p:=fun w=>!qa [c] w) (l:=s.aQ))).length_le
    show _+(eE (eR s.events c) i).length≤8
    rw[DJ]
    split
    · simp only[cF];unfold sn;simp only;omega
    · unfold sn;simp only;omega,H.jX,H.lB,H.cn⟩
theorem bO.oS (H:bO k s) (c:Int):bO k (oS s c):=bO.Ag _ (H.left c)
theorem bO.xK:∀(cs:List Int) {s:Sp},bO k s→bO k (lW s cs)
  |[],_,H=>H
  |c::cs,_,H=>bO.xK cs (H.oS c)
theorem bO.RR (H:bO k s) (w:au):bO k (od s w):=by
  unfold od xL
  split
  · exact H
  · split
    · exact H
    · rename_i h1 h2
      refine⟨H.tree,H.mG.add w,H.aN,H.nO,H.aE,H.ev,fun i=>?_,H.jX,H.lB,H.cn⟩
      have h3:=H.quo i
      rw[←JD] at h3 ⊢
      show cnt i (nJ s.aQ w)+(eE s.events i).length≤8
      rcases JT s.aQ w with ⟨e,_⟩|⟨e,_,_,_,_⟩
      · rw[e];exact h3
      · rw[e,DM]
        split
        · rename_i hc;subst hc;omega
        · exact h3
theorem bO.gS (H:bO k s) (c:Int) (o:aR):bO k (nh s c o):=by
  unfold nh
  split
  · exact H.RR _
  · exact H
theorem RS (H:e_ k s.aA) (h0:0≤k) (hk:k≤100000):e_ (k+1) (dV s c o):=by
  unfold dV dN
  split
  · exact H.make hk h0
  · split
    · exact(H.drop).mono (by omega)
    · exact H.set hk
theorem RT (H:bO k s) (hc:c<8):lz (vA s.count) (dV s c o):=by
  have h0:=H.cn
  unfold dV dN
  split
  · refine H.lB.make ⟨?_,by omega⟩
    split<;>omega
  · split
    · exact H.lB.drop
    · exact H.lB.set
theorem bO.oU (H:bO k s) (h0:0≤k) (hk:k≤100000) (hc:c<8):bO (k+1) (cM s c o):=H.tr (RS H.tree h0 hk) (RT H hc)
theorem bO.qV (H:bO k s) (h0:0≤k) (hk:k≤100000) (hc:c<8):bO (k+1) (qV s c o):=by
  unfold Sw.qV
  split
  · exact(H.oU h0 hk hc).Al _ _
  · exact H.oU h0 hk hc
theorem bO.Kk (hc:c<8):∀(ops:List aR) {s:Sp} {k:Int},bO k s→0≤k→k+ops.length≤100000→bO (k+ops.length) (ops.foldl (tY c) s)
  |[],_,_,H,_,_=>by simpa using H
  |o::ops,s,k,H,h0,hk=>by
   rw[bJ] at hk ⊢
   have:=bO.Kk hc ops (s:=cM s c o) (k:=k+1) (H.oU h0 (by omega) hc) (by omega) (by omega)
   rw[qB]
   exact this.mono (by omega)
theorem bO.Kl:∀(l:List iz) {s:Sp},bO k s→bO k (l.foldl qg s)
  |[],_,H=>H
  |x::l,_,H=>bO.Kl l (H.Al x.fH x.ec)
theorem DV (hc:c<8):∀(ops:List aR) {s sp:Sp} {k i j e:Int},bO k s→0≤k→k+ops.length≤100000→jd c s ops i=some (j,e,sp)→bO (k+ops.length) sp∧sp.count=s.count∧e≠0∧i≤j∧j<i+ops.length
  |[],_,_,_,_,_,_,_,_,_,h=>by cases h
  |o::ops,s,sp,k,i,j,e,H,h0,hk,h=>by
   rw[bJ] at hk ⊢
   rw[jd] at h
   split at h
   · obtain⟨h1,h5,h2,h3,h4⟩:=DV hc ops (H.oU (c:=c) (o:=o) h0 (by omega) hc) (by omega) (by omega) h
     exact⟨h1.mono (by omega),h5,h2,by omega,by omega⟩
   · rename_i he
     cases h
     exact⟨(H.oU h0 (by omega) hc).mono (by omega),rfl,he,by omega,by omega⟩
theorem bO.RU (H:bO k s) (hc:c<8) (h0:0≤k) (hk:k+o.aB.length≤100000):bO (k+o.aB.length) (oV s c o):=by
  unfold oV
  split
  · rename_i j e sp h
    obtain⟨h1,h2,_⟩:=DV hc _ H h0 hk h
    unfold DQ
    rw[H.tree.OW,aY rfl]
    exact h1.tr (H.tree.mono (by omega)) (by rw[h2];exact H.lB)
  · unfold nL
    refine bO.Kl _ ?_
    rw[xM]
    exact H.Kk hc _ h0 hk
theorem bO.touch (H:bO k s):bO k (touchS s c):=by
  unfold touchS
  refine⟨H.tree,H.mG,H.aN.touch,fun p hp=>?_,H.aE,H.ev,H.quo,H.jX,H.lB,H.cn⟩
  show s.aE<_
  unfold touchB at hp
  split at hp
  · exact H.nO p hp
  · split at hp
    · exact H.nO p hp
    · rename_i x hf _
      rcases rV hp with rfl|hp
      · have:=H.nO _ ((mo H.aN.1).1 hf)
        simp only at this ⊢
        omega
      · exact H.nO p hp
theorem bO.kD (H:bO k s) {dF:Int}:bO k {s with aN:=mU s.aN c dF s.aE}:=by
  refine⟨H.tree,H.mG,H.aN.kD,fun p hp=>?_,H.aE,H.ev,H.quo,H.jX,H.lB,H.cn⟩
  show s.aE<_
  unfold mU at hp
  split at hp
  · rename_i h
    rcases rV hp with rfl|hp
    · unfold jO at h
      split at h
      · simp at h
      · rename_i hr
        have hr:gW ⟨c,dF,s.aE⟩=true:=by simpa using hr
        have:=(xx hr).2.1
        simp only at this ⊢
        omega
    · exact H.nO p hp
  · exact H.nO p hp
theorem bO.run (H:bO k s) (hc:c<8) (h0:0≤k) (hk:k≤99000) (ho:o.aB.length≤4):bO (k+4) (oo s c o):=by
  unfold oo
  repeat' split
  · exact(H.xK [c]).mono (by omega)
  · exact(H.qV h0 (by omega) hc).mono (by omega)
  · exact(H.gS c o).mono (by omega)
  · exact(H.RU hc h0 (by omega)).mono (by omega)
  · exact H.mono (by omega)
end
theorem Km {b:bp} (h:(aD b).2=0):(aD b).1.aB.length≤4:=by
  unfold aD at *
  repeat' split at h
  all_goals first|(simp at h;done)|skip
  rename_i h1 h2
  rw[aL h1,aL h2]
  have:dh false (aT false b).1=true:=by
    simp only[tq] at h2
    simpa using h2.2
  exact(nC this).2.2.2.1
section
variable {k:Int} {s:Sp} {c t:Int} {b:bp} {e:j0}
theorem bO.step (H:bO k s) (hc:c<8) (h0:0≤k) (hk:k≤99000):bO (k+4) (dH s c b):=by
  unfold dH
  split
  · exact H.mono (by omega)
  · rename_i hr
    split
    · exact H.kD.mono (by omega)
    · split
      · exact H.touch.mono (by omega)
      · exact H.touch.run hc h0 hk (Km (by simpa using hr))
structure DW (k:Int) (s:Sp):Prop where
  tree:e_ k s.aA
  mG:nN s.aQ
  aN:gC s.aN
  aE:0≤s.aE∧s.aE<1099511627776
  ev:kM s.events
  quo:qe s.aQ s.events
  jX:sx s.aW
  lB:lz (vA s.count) s.aA
  cn:0≤s.count
theorem DW.RV (H:DW k s):bO k (xO s):=by
  unfold xO
  refine bO.xK _ ⟨H.tree,H.mG,H.aN.left _,fun p hp=>?_,H.aE,H.ev,H.quo,H.jX,H.lB,H.cn⟩
  have:=(ic.1 hp).2
  unfold mu at this
  simp only[gz,jE] at this
  show s.aE<_
  omega
theorem bO.RW (H:bO k s) (t:Int):DW k {s with aE:=max s.aE (min t 1099511627775)}:=
  ⟨H.tree,H.mG,H.aN,by have:=H.aE;show 0≤max s.aE (min t 1099511627775)∧max s.aE (min t 1099511627775)<1099511627776;omega,H.ev,H.quo,H.jX,H.lB,H.cn⟩
theorem bO.xQ (H:bO k s) (t:Int):bO k (gK s t):=(H.RW t).RV
theorem bO.more (H:bO k s):bO k (lu s):=⟨H.tree,H.mG,H.aN,H.nO,H.aE,H.ev,H.quo,H.jX,fun n hn=>(by have:=H.lB n hn;unfold vA lu at *;simp only;omega),by have:=H.cn;unfold lu;simp only;omega⟩
end
theorem Kn {e:j0} (h:je e=true):(0≤e.ax∧e.ax<8)∧1≤e.cw∧e.cw<1099511627776:=by
  unfold je at h
  simp only[bZ,cN] at h
  omega
structure kN (x:Result):Prop where
  code:0≤x.Code∧x.Code≤1000
  count:0≤x.aU∧x.aU≤2000000000000
  bB:0≤x.At∧x.At≤4
  ec:x.aa.af.length≤64
  data:x.aa.Data.length≤128
  bK:0≤x.aa.ai∧x.aa.ai≤1000000
  own: -1≤x.aa.aC∧x.aa.aC<8
  next:0≤x.aa.Next∧x.aa.Next≤1000000
  born:0≤x.aa.aF∧x.aa.aF≤2000000000000
  jx:x.aX.length≤32∧∀n∈x.aX,n.length≤64
theorem sy {m:Nat}:∀fs:List aj,(∀f∈fs,f.length≤m)→(dW fs).length≤(10+m)*fs.length
  |[],_=>by simp[dW]
  |f::fs,h=>by
   have ih:=sy fs fun g hg=>h g (by simp[hg])
   have hf:=h f (by simp)
   have hn:=(tu (f.length:Int)).2
   have e:dW (f::fs)=eP f.length++(f++dW fs):=by
     unfold dW
     rw[tn]
     unfold rO
     rw[cJ]
   rw[e,b_,b_,bJ,Cy]
   omega
theorem Ko {w:au} (h:iQ w=true):kG w=true∧(mA w).1.length≤148:=by
  obtain⟨h1,h2,h3,h4⟩:=Aq h
  have hn:[w.ax,w.ah].all gi=true:=by
    simp only[jD,me,bZ,mh]
    exact⟨jN (by omega) (by omega),jN (by omega) (by omega)⟩
  have hw:[w.ax,w.ah].all eW=true:=by
    simp only[jD,me,bZ,mh,eW,cN]
    omega
  have hl:(eC [w.ax,w.ah]).length≤20:=u5 _
  have hm:∀f∈[eC [w.ax,w.ah],w.af],f.length≤64:=by
    intro f hf
    simp only[eO,List.not_mem_nil,or_false] at hf
    rcases hf with rfl|rfl<;>omega
  have hj:jM [eC [w.ax,w.ah],w.af]=true:=vi (by simp) fun f hf=>by have:=hm f hf;omega
  have he:mA w=(dW [eC [w.ax,w.ah],w.af],0):=by unfold mA;rw[r7 hn,tO hj]
  refine⟨?_,?_⟩
  · unfold kG
    rw[hw,he];rfl
  · rw[he]
    exact sy _ hm
theorem RX {x:Result} (H:kN x) (he:x.aP.length≤8∧∀w∈x.aP,iQ w=true):(aO x).2=0∧(aO x).1.length≤65536:=by
  obtain⟨h1,h2,h3,h4,h5,h6,h7,h8,h9,u⟩:=H
  have hb:jw x=true:=by
    refine Dr ?_ (by omega) (by omega)
    simp only[jD,me,bZ,mh,eW,cN]
    omega
  have hn:=Ja hb
  have hj:jM x.aX=true:=vi (by omega) fun f hf=>by have:=u.2 f hf;omega
  have D:x.aP.all kG=true:=by
    rw[gx]
    exact fun w hw=>(Ko (he.2 w hw)).1
  have I:(dW x.aX).length≤2368:=cH (sy _ u.2) (by omega)
  have J:(eC (tJ x)).length≤70:=u5 _
  have hrow:lU x=(eC (tJ x))::x.aa.af::x.aa.Data::dW x.aX::x.aP.map (fun w=>(mA w).1):=by
    unfold lU xE
    rw[r7 hn,tO hj]
    rfl
  have hm:∀f∈lU x,f.length≤2368:=by
    rw[hrow]
    intro f hf
    simp only[eO,cY] at hf
    rcases hf with rfl|rfl|rfl|rfl|⟨w,hw,rfl⟩
    · omega
    · omega
    · omega
    · omega
    · have:=(Ko (he.2 w hw)).2;omega
  have hl:(lU x).length≤12:=by
    rw[hrow]
    simp only[bJ,ew]
    omega
  have G:jM (lU x)=true:=vi (by omega) fun f hf=>by have:=hm f hf;omega
  have e:aO x=(dW (lU x),0):=by
    unfold aO
    rw[aL (by rw[hb];simp),aL (by rw[tO hj];simp),aL (by rw[D];simp),tO G,aL (by simp)]
  rw[e]
  exact⟨rfl,cH (sy _ hm) (by omega)⟩
section
variable {k k':Int} {s:Sp} {c t:Int} {o:aR} {x:Result} {p data:bp} {ns:List aa} {cC born bK:Int} {num:Bool}
def Cd (e:Int):Prop:=0≤e∧e≤1000
theorem Ar (p:bp):Cd (cR p):=by unfold cR Cd;split<;>omega
theorem Kp (p:bp):Cd (cj p):=by unfold cj Cd;split<;>omega
theorem RY (up:aa) (p:bp) (num:Bool):Cd (gd up p num):=by
  unfold gd j3
  repeat' split
  · exact Ar _
  · exact⟨by simp,by simp⟩
  · exact⟨by simp,by simp⟩
theorem RZ:Cd (cg ns p data cC born num).2.2:=by
  unfold cg
  repeat' split
  all_goals first|exact Kp _|exact RY _ _ _|exact⟨by simp,by simp⟩
theorem R0:Cd (fZ ns p bK).2:=by
  unfold fZ
  repeat' split
  all_goals first|exact Kp _|exact⟨by simp,by simp⟩
theorem R1:Cd (eU ns p data bK).2.2:=by
  unfold eU
  repeat' split
  all_goals first|exact Ar _|exact⟨by simp,by simp⟩
theorem R3:Cd (iD ns p).2:=by
  unfold iD
  repeat' split
  all_goals first|exact Ar _|exact⟨by simp,by simp⟩
theorem Kq:Cd (bV ns p).2:=by
  unfold bV
  repeat' split
  all_goals first|exact Ar _|exact⟨by simp,by simp⟩
theorem DX:Cd (cu s c o):=by
  unfold cu dN
  split
  · exact RZ
  · split
    · exact R0
    · exact R1
theorem R4 (ws:List au) (w:au):Cd (nI ws w):=by
  unfold nI
  repeat' split
  all_goals exact⟨by simp,by simp⟩
theorem R5 (w:au):Cd (jb s w):=by
  unfold jb
  repeat' split
  all_goals first|exact R4 _ _|exact⟨by simp,by simp⟩
theorem touchE_cd (b:f_) (c t:Int):Cd (touchE b c t):=by
  unfold touchE
  split
  all_goals exact⟨by simp,by simp⟩
theorem R6 (b:f_) (c sp t:Int):Cd (jO b c sp t):=by
  unfold jO
  repeat' split
  all_goals exact⟨by simp,by simp⟩
theorem R7 (b:bp):Cd (aD b).2:=by
  unfold aD
  repeat' split
  all_goals exact⟨by simp,by simp⟩
structure gL (l:aa):Prop where
  ec:l.af.length≤64
  data:l.Data.length≤128
  bK:0≤l.ai∧l.ai≤1000000
  own: -1≤l.aC∧l.aC<8
  next:0≤l.Next∧l.Next≤1000000
  born:0≤l.aF∧l.aF≤2000000000000
theorem gL.none:gL dU:=⟨by decide,by decide,by decide,by decide,by decide,by decide⟩
theorem bO.As (H:bO k s) (hk:k≤1000000) (hc:s.count≤2000000000000) {l:aa} (h:l∈s.aA):gL l:=by
  obtain⟨h1,h2,h3,h4,h5,h6,_⟩:=H.tree.node l h
  have:=H.lB l h
  unfold vA at this
  exact⟨rK h1,h2,⟨h4.1,by omega⟩,⟨h3,this.1⟩,⟨h5.1,by omega⟩,h6,by omega⟩
theorem kN.As (H:kN x) {l:aa} (h:gL l) {e:Int} (he:Cd e):kN {x with Code:=e,aa:=l}:=
  ⟨he,H.count,H.bB,h.ec,h.data,h.bK,h.own,h.next,h.born,H.jx⟩
theorem kN.cd (H:kN x) {e:Int} (he:Cd e):kN {x with Code:=e}:=⟨he,H.count,H.bB,H.ec,H.data,H.bK,H.own,H.next,H.born,H.jx⟩
theorem R8 (H:bO k s) (h0:0≤k) (hk:k≤100000) (he:cu s c o=0):gL (bI s c o):=by
  unfold bI
  unfold cu at he
  split
  · rename_i h3
    rw[aY h3] at he
    unfold dN at *
    obtain⟨up,u,_,hf,_,hm,_,_,e⟩:=zD he
    refine⟨?_,gL.none.data,gL.none.bK,gL.none.own,gL.none.next,gL.none.born⟩
    show(cg s.aA o.af o.Data _ s.count o.aK).2.1.length≤64
    rw[e]
    exact rK (tD (CZ u hm).1)
  · split
    · exact gL.none
    · split
      · rename_i h3 h4 h5
        unfold eU at h5 ⊢
        repeat' split at h5
        · rename_i hp;exact absurd h5 hp
        · simp at h5
        · simp at h5
        · simp at h5
        · rename_i hp _ l hf _ _
          have D:cR o.af=0:=by simpa using hp
          have hl:=H.tree.node l (jJ hf).1
          rw[aL hp]
          simp only[hf]
          rename_i h6 h7
          rw[aL h6,aL h7]
          refine⟨rK (j4.1 D),gL.none.data,?_,gL.none.own,gL.none.next,gL.none.born⟩
          show 0≤IntKind.wrap .i64 (l.ai+1)∧IntKind.wrap .i64 (l.ai+1)≤1000000
          rw[CX hl.2.2.2.1.1 (by have:=hl.2.2.2.1.2;omega)]
          have:=hl.2.2.2.1
          omega
      · exact gL.none
theorem R9 (H:e_ k ns):(iD ns p).1.length≤32∧∀n∈(iD ns p).1,n.length≤64:=by
  unfold iD
  repeat' split
  · exact⟨by simp,fun n h=>(by simp at h)⟩
  · exact⟨by simp,fun n h=>(by simp at h)⟩
  · unfold gJ
    refine⟨?_,fun n h=>?_⟩
    · rw[ew]
      exact cH (kX _ _) H.len
    · obtain⟨l,hl,rfl⟩:=cY.1 h
      exact rK (H.node l (ic.1 hl).1).1
theorem R_ (H:bO k s) (hk:k≤1000000) (hc:s.count≤2000000000000) (hx:kN x):kN (og s o x):=by
  unfold og
  repeat' split
  · exact⟨R3,hx.count,hx.bB,hx.ec,hx.data,hx.bK,hx.own,hx.next,hx.born,R9 H.tree⟩
  · rename_i h
    refine hx.As ?_ Kq
    unfold bV at h ⊢
    split
    · rename_i hp
      rw[aY hp] at h
      split
      · rename_i hf;simp[hf] at h
      · rename_i l hf;exact H.As hk hc (jJ hf).1
    · rename_i hp
      rw[aL hp] at h
      exact absurd h hp
  · exact hx.cd Kq
theorem Kr (hc:c<8):∀(ops:List aR) {m:Mu} {k:Int},bO k m.sp→0≤k→k+ops.length≤100000→(∀n∈m.jx,n.length≤64)→(∀n∈(ops.foldl (iS 0 c) m).jx,n.length≤64)∧(ops.foldl (iS 0 c) m).jx.length=m.jx.length+ops.length
  |[],_,_,_,_,_,h=>⟨h,rfl⟩
  |o::ops,m,k,H,h0,hk,h=>by
   rw[bJ] at hk ⊢
   obtain⟨h1,h2⟩:=Kr hc ops (m:=iS 0 c m o) (k:=k+1) (H.oU h0 (by omega) hc) (by omega) (by omega) (fun n hn=>by
     unfold iS at hn
     rcases eo.1 hn with hn|hn
     · exact h n hn
     · rw[iA.1 hn]
       split
       · rename_i h3
         unfold bI
         rw[aY h3]
         show(dN m.sp c o).2.1.length≤64
         unfold dN
         by_cases he:(cg m.sp.aA o.af o.Data (if o.aV=true then c else -1) m.sp.count o.aK).2.2=0
         · obtain⟨up,u,_,hf,_,hm,_,_,e⟩:=zD he
           rw[e]
           exact rK (tD (CZ u hm).1)
         · rw[(CY he).2];decide
       · decide)
   refine⟨h1,?_⟩
   rw[qB,h2]
   unfold iS
   simp only[b_,oI]
   omega
theorem Sa (H:bO k s) (hc:c<8) (h0:0≤k) (hk:k≤99000) (ho:o.aB.length≤4) (hx:kN x):kN (qU s c o x):=by
  unfold qU
  split
  · rename_i j e sp h
    obtain⟨_,_,_,h1,h2⟩:=DV hc _ H h0 (by omega) h
    have u:Cd e:=by
      have key:∀(ops:List aR) (s:Sp) (i:Int),jd c s ops i=some (j,e,sp)→Cd e:=by
        intro ops
        induction ops with
        |nil=>intro s i h;cases h
        |cons o ops ih=>
         intro s i h
         rw[jd] at h
         split at h
         · exact ih _ _ h
         · cases h;exact DX
      exact key _ _ _ h
    exact⟨u,hx.count,⟨h1,by show j≤4;omega⟩,hx.ec,hx.data,hx.bK,hx.own,hx.next,hx.born,hx.jx⟩
  · obtain⟨h1,h2⟩:=Kr hc o.aB (m:=⟨s,[],[]⟩) H h0 (by omega) (fun n h=>by cases h)
    refine⟨hx.code,hx.count,hx.bB,hx.ec,hx.data,hx.bK,hx.own,hx.next,hx.born,?_,h1⟩
    show(o.aB.foldl (iS 0 c) ⟨s,[],[]⟩).jx.length≤32
    rw[h2]
    simp only[cF]
    omega
theorem Sb (H:bO k s) (hk:k≤1000000) (hc:s.count≤2000000000000) (hx:kN x):kN (oh s c o x):=by
  unfold oh
  split
  · exact hx.cd (R5 _)
  · exact R_ H hk hc hx
theorem Sc (H:bO k s) (hc:c<8) (h0:0≤k) (hk:k≤99000) (ho:o.aB.length≤4) (hn:s.count≤2000000000000) (hx:kN x):kN (qh s c o x):=by
  unfold qh
  repeat' split
  · exact hx
  · unfold Ao
    split
    · rename_i he;exact hx.As (R8 H h0 (by omega) he) DX
    · exact hx.cd DX
  · exact Sb H (by omega) hn hx
  · exact Sa H hc h0 hk ho hx
  · exact hx
theorem Ks {b:bp} (H:bO k s) (hc:c<8) (h0:0≤k) (hk:k≤99000) (hn:s.count≤2000000000000) (hx:kN x):kN (cB s c b x):=by
  unfold cB
  split
  · exact hx.cd (R7 b)
  · rename_i hr
    split
    · exact hx.cd (R6 _ _ _ _)
    · split
      · exact hx.cd (touchE_cd _ _ _)
      · exact Sc H.touch hc h0 hk (Km (by simpa using hr)) hn (hx.cd (touchE_cd _ _ _))
end
section
variable {k:Int} {s:Sp} {c:Int} {b:bp} {e:j0}
theorem bO.Kt (H:bO k s) (c:Int):(eE s.events c).length≤8∧∀w∈eE s.events c,iQ w=true:=
  ⟨by have:=H.quo c;omega,fun w hw=>(H.ev.eE c w hw).2⟩
theorem Sd (H:bO k s) (hc:c<8) (h0:0≤k) (hk:k≤99000) (hn:s.count≤1000000000000):kN (mF s c b):=by
  have h1:=Ks (b:=b) (x:=⟨0,s.count+1,0,dU,[],[]⟩) H.more hc h0 hk (by show s.count+1≤_;omega) ⟨by show(0:Int)≤0∧(0:Int)≤1000;omega,by have:=H.cn;show 0≤s.count+1∧s.count+1≤_;omega,by show(0:Int)≤0∧(0:Int)≤4;omega,gL.none.ec,gL.none.data,gL.none.bK,gL.none.own,gL.none.next,gL.none.born,eX _,fun n h=>by cases h⟩
  exact⟨h1.code,h1.count,h1.bB,h1.ec,h1.data,h1.bK,h1.own,h1.next,h1.born,h1.jx⟩
theorem Se (H:bO k s) (hc:c<8) (h0:0≤k) (hk:k≤99000) (hn:s.count≤1000000000000):m_ (mF s c b):=by
  have h1:=Sd (b:=b) H hc h0 hk hn
  have h2:=(H.more.step (b:=b) hc h0 hk).Kt c
  refine⟨cH h1.ec (by decide),⟨cH h1.jx.1 (by decide),fun n hn=>cH (h1.jx.2 n hn) (by decide)⟩,cH h2.1 (by decide),fun w hw=>cH (Aq (h2.2 w hw)).1 (by decide)⟩
theorem Sf (H:bO k s) (hc:c<8) (h0:0≤k) (hk:k≤99000) (hn:s.count≤1000000000000):(aO (mF s c b)).2=0∧(aO (mF s c b)).1.length≤65536:=by
  have h1:=Ks (b:=b) (x:=⟨0,s.count+1,0,dU,[],[]⟩) H.more hc h0 hk (by show s.count+1≤_;omega) ⟨by show(0:Int)≤0∧(0:Int)≤1000;omega,by have:=H.cn;show 0≤s.count+1∧s.count+1≤_;omega,by show(0:Int)≤0∧(0:Int)≤4;omega,gL.none.ec,gL.none.data,gL.none.bK,gL.none.own,gL.none.next,gL.none.born,eX _,fun n h=>by cases h⟩
  refine RX (x:=mF s c b) ⟨h1.code,h1.count,h1.bB,h1.ec,h1.data,h1.bK,h1.own,h1.next,h1.born,h1.jx⟩ ?_
  exact(H.more.step (b:=b) hc h0 hk).Kt c
theorem bO.done (H:bO k s) (he:je e=true) (h0:0≤k) (hk:k≤99000) (hn:s.count≤1000000000000):bO (k+4) (xP s e b):=by
  obtain⟨h1,h2,h3⟩:=Kn he
  have h4:=H.more.step (b:=b) h1.2 h0 hk
  refine⟨h4.tree,h4.mG,h4.aN,h4.nO,h4.aE,h4.ev.n7 _,fun i=>?_,h4.jX.put ⟨h1,⟨h2,h3⟩,(Sf H h1.2 h0 hk hn).2⟩,h4.lB,h4.cn⟩
  have h5:=h4.quo i
  show _+(eE (eR (dH (lu s) e.ax b).events e.ax) i).length≤8
  rw[DJ]
  split
  · simp only[cF];unfold xP;simp only;omega
  · unfold xP;simp only;omega
end
def kp (s:Sp):Int×Int×List (Int×iO):=(s.aE,s.count,s.aW)
section
variable {s:Sp} {c t:Int} {b:bp} {e:j0} {o:aR}
theorem Ku (fH:Nat) (p:bp):kp (nK s fH p)=kp s:=by unfold nK;split<;>rfl
theorem Kv:∀(ps:List bp) (s:Sp),kp (ps.foldl lq s)=kp s
  |[],_=>rfl
  |p::ps,s=>by rw[qB,Kv ps];rfl
theorem DY:∀(cs:List Int) (s:Sp),kp (lW s cs)=kp s
  |[],_=>rfl
  |c::cs,s=>by
   have:=DY cs (oS s c)
   unfold lW at *
   rw[qB,this]
   unfold oS
   rw[Kv]
   rfl
theorem Kw:kp (gK s t)=(max s.aE (min t 1099511627775),s.count,s.aW):=by unfold gK xO;rw[DY];rfl
theorem Kx:∀(l:List iz) (s:Sp),kp (l.foldl qg s)=kp s
  |[],_=>rfl
  |x::l,s=>by
   rw[qB,Kx l]
   exact Ku _ _
theorem Ky:∀(l:List aR) (s:Sp),kp (l.foldl (tY c) s)=kp s
  |[],_=>rfl
  |x::l,s=>by rw[qB,Ky l];rfl
theorem Kz:∀(ops:List aR) {s sp:Sp} {i j e:Int},jd c s ops i=some (j,e,sp)→kp sp=kp s
  |[],_,_,_,_,_,h=>by cases h
  |o::ops,s,sp,i,j,e,h=>by
   rw[jd] at h
   split at h
   · exact Kz (s:=cM s c o) ops h
   · cases h;rfl
theorem Sg:kp (oV s c o)=kp s:=by
  unfold oV
  split
  · rename_i h
    have:=Kz _ h
    rw[←this];rfl
  · rw[Kx]
    unfold nL
    rw[xM,Ky]
theorem Sh:kp (nh s c o)=kp s:=by unfold nh;split<;>rfl
theorem Si:kp (qV s c o)=kp s:=by unfold qV;split;rw[Ku];rfl;rfl
theorem Sj:kp (oo s c o)=kp s:=by
  unfold oo
  repeat' split
  · exact DY _ _
  · exact Si
  · exact Sh
  · exact Sg
  · rfl
theorem Sk:kp (dH s c b)=kp s:=by
  unfold dH
  repeat' split
  · rfl
  · rfl
  · rfl
  · rw[Sj];rfl
theorem Sl {s u:Sp} (h:kp s=kp u):s.count=u.count:=congrArg (·.2.1) h
theorem vB:(gK s t).count=s.count:=congrArg (·.2.1) (Kw (s:=s) (t:=t))
theorem KA:(gK s t).aW=s.aW:=congrArg (·.2.2) (Kw (s:=s) (t:=t))
theorem Sm:(xP s e b).count=s.count+1:=Sl (Sk (s:=lu s) (c:=e.ax) (b:=b))
theorem Sn:(kj s e b).count=if kn s e=true then s.count+1 else s.count:=by
  unfold kj kn
  by_cases h1:je e=true
  · by_cases h2:(kL (gK s e.cx) e.ax).cX<e.cw
    · rw[aY ⟨h1,h2⟩,Sm,vB,h1,gb h2];rfl
    · rw[aL (fun h=>h2 h.2),vB,gQ h2];simp
  · rw[aL (fun h=>h1 h.1),vB]
    simp[h1]
end
theorem bO.DZ {k:Int} {s:Sp} {b:bp} {e:j0} (H:bO k s) (h0:0≤k) (hk:k≤99000) (hn:s.count≤1000000000000):bO (k+4) (kj s e b):=by
  unfold kj
  split
  · rename_i h
    exact(H.xQ e.cx).done h.1 h0 hk (by rw[vB];exact hn)
  · exact(H.xQ e.cx).mono (by omega)
where
  u:∀(b:aj) (i:Nat) (v0:Int),(fM b i v0).2.2=0→(i:Int)+1≤(fM b i v0).2.1
    |[],i,v0,h=>by simp[fM] at h
    |c::r,i,v0,h=>by
     rw[fM] at h ⊢
     split at h
     · simp at h
     · rename_i hn
       rw[aL hn]
       split at h
       · rename_i hc
         rw[aY hc]
         exact Cz _
       · rename_i hc
         rw[aL hc]
         have:=u r (i+1) _ h
         omega
section
variable {b:aj} {inner i2:Bool} {ops:List aR} {o:aR}
def fC (o:aR):Bool:=rC o&&decide ((o.af.length:Int)+o.Data.length≤1024)
def fA (o:aR) (inner:Bool):Bool:=rA o inner&&!((((((!nB o||!mW o)||!mX o)||!mY o)||!lS o)||!mZ o)||!mw o)
mutual
def fe (inner:Bool):aR→Bool
  |⟨k,p,u,D,sp,b,G,w,ops⟩=>fA ⟨k,p,u,D,sp,b,G,w,ops⟩ inner&&(xR ops&&fC ⟨k,p,u,D,sp,b,G,w,ops⟩)
def xR:List aR→Bool
  |[]=>true
  |x::xs=>fe true x&&xR xs
end
theorem KB:∀xs:List aR,xR xs=xs.all (fe true)
  |[]=>by rw[xR,me]
  |x::xs=>by rw[xR,jD,KB xs]
theorem tZ (inner:Bool) (o:aR):fe inner o=(fA o inner&&(o.aB.all (fe true)&&fC o)):=by
  obtain⟨k,p,u,D,sp,b,G,w,ops⟩:=o
  rw[fe,KB]
where
  u:∀(o:aR),fe true o=true→dh true o=true:=fun o h=>by
    rw[tZ] at h
    rw[mz]
    unfold fA fC at h
    unfold lg
    simp only[bZ,gz,wR,DK,gx,cN] at h ⊢
    obtain⟨⟨h1,⟨⟨⟨⟨⟨⟨h2,h3⟩,h4⟩,h5⟩,h6⟩,h7⟩,h8⟩⟩,h9,D,h11⟩:=h
    exact⟨⟨h1,h2,h3,h4,h5,h6,h7,h8,D⟩,fun x hx=>u x (h9 x hx)⟩
  termination_by o=>cU o
  decreasing_by exact iP hx
end
def qW (s:Sp):ie:=⟨s.aE,s.count,s.aA,s.aQ,s.aN.map (·.2),(s.events.map (·.2)).flatten,s.aW.map fun p=>⟨p.1,p.2.cX,p.2.data⟩⟩
section
variable {k c c':Int} {s:Sp} {e:j0} {b:bp} {o:aR}
end
section
variable {k:Int} {s:Sp} {e acc:kJ} {c:Int} {ys ws:List au}
theorem KC {α:Type} {x:List (Int×α)} (hs:fR x) (hb:∀p∈x,0≤p.1∧p.1<8):x.length≤8:=by
  have key:∀(x:List (Int×α)) (n:Nat),x.Pairwise (fun a b=>a.1<b.1)→(∀p∈x,(n:Int)≤p.1∧p.1<8)→n≤8→x.length+n≤8:=by
    intro x
    induction x with
    |nil=>intro n _ _ h;simpa using h
    |cons p x ih=>
     intro n hs hb h8
     obtain⟨g1,g2⟩:=jF.1 hs
     have hp:=hb p (by simp)
     have:=ih (p.1.toNat+1) g2 (fun q hq=>by have:=g1 q hq;have:=hb q (by simp[hq]);omega) (by omega)
     rw[bJ]
     omega
  have:=key x 0 hs (fun p hp=>by have:=hb p hp;omega) (by omega)
  omega
theorem bO.Sq (H:bO k s):s.events.length≤8:=KC H.ev.sort fun p hp=>by
  cases h:p.2 with
  |nil=>exact absurd h (H.ev.ne p hp)
  |cons w ws=>
   have:=H.ev.own p hp w (by rw[h];simp)
   have h2:=Aq this.2
   omega
end
mutual
def iH:aR→Int→Int→Int
  |⟨_,p,u,_,_,_,_,_,ops⟩,bM,deep=>if deep=0∧ops≠[] then bM+1 else lX ops bM deep (1+p.length+u.length)
def lX:List aR→Int→Int→Int→Int
  |[],_,_,n=>n
  |x::xs,bM,deep,n=>if n≤bM then lX xs bM deep (n+iH x (bM-n) (deep-1)) else n
end
mutual
def bD:aR→Int→aR
  |⟨k,p,u,D,sp,b,G,w,ops⟩,deep=>⟨k,p,u,D,sp,b,G,w,if deep>0 then ni ops (deep-1) else []⟩
def ni:List aR→Int→List aR
  |[],_=>[]
  |x::xs,deep=>bD x deep::ni xs deep
end
section
variable {bM deep n i:Int} {o x:aR} {ops:List aR}
theorem D0 (o:aR) (deep:Int):bD o deep={o with aB:=if deep>0 then ni o.aB (deep-1) else []}:=by
  obtain⟨_,_,_,_,_,_,_,_,_⟩:=o
  rw[bD]
theorem KD:∀(xs:List aR) (deep:Int),ni xs deep=xs.map fun x=>bD x deep
  |[],_=>by rw[ni];rfl
  |x::xs,deep=>by rw[ni,KD xs];rfl
mutual
theorem KE:∀(o:aR) (deep:Int),cU (bD o deep)≤cU o
  |⟨k,p,u,D,sp,b,G,w,ops⟩,deep=>by
   rw[bD,cU,cU]
   split
   · have:=KF ops (deep-1);omega
   · rw[gl];omega
theorem KF:∀(xs:List aR) (deep:Int),gl (ni xs deep)≤gl xs
  |[],_=>by rw[ni];exact gF _
  |x::xs,deep=>by
   rw[ni,gl,gl]
   have:=KE x deep
   have:=KF xs deep
   omega
end
theorem Au {m:Nat} (h:cU o≤m):cU (bD o deep)≤m:=cH (KE o deep) h
def vC (o:aR) (deep:Int) (bL:List aR) (i:Int):Prop:=bL=(o.aB.take i.toNat).map (fun x=>bD x (deep-1))∧(0<i→deep>0)
theorem Sr:vC o deep [] 0:=⟨rfl,fun h=>absurd h (by decide)⟩
theorem Ss {bL:List aR} (H:vC o deep bL i) (h0:0≤i) (hx:o.aB[i.toNat]?=some x) (h:deep>0):vC o deep (bL++[bD x (deep-1)]) (i+1):=by
  unfold vC at *
  rw[toNat_succ h0,fP hx,gA,←H.1]
  exact⟨rfl,fun _=>h⟩
theorem KG {bL:List aR} (H:vC o deep bL i) (h0:0≤i) (hi:¬i<(o.aB.length:Int)∨¬deep>0):bL=if deep>0 then ni o.aB (deep-1) else []:=by
  obtain⟨h1,h2⟩:=H
  by_cases h:deep>0
  · have hi:¬i<(o.aB.length:Int):=by
      rcases hi with hi|hi
      · exact hi
      · exact absurd h hi
    rw[aY h,h1,fF (by omega),KD]
  · have:i=0:=by
      by_cases h3:0<i
      · exact absurd (h2 h3) h
      · omega
    subst this
    rw[aL h,h1]
    rfl
theorem Av (o:aR) (deep:Int):(bD o deep).ah=o.ah∧(bD o deep).af=o.af∧(bD o deep).Data=o.Data∧(bD o deep).ai=o.ai∧(bD o deep).aI=o.aI∧(bD o deep).aV=o.aV∧(bD o deep).aK=o.aK∧(bD o deep).au=o.au:=by
  rw[D0];exact⟨rfl,rfl,rfl,rfl,rfl,rfl,rfl,rfl⟩
end
structure c7 where
  ax:Int
  cw:Int
  cx:Int
  Op:aR
  jg:aj
def KH:Kd c7 where
  sz:=13
  K g x cs:=∃v0 v1 v2,an g 5 a_ v0 x.Op.Data∧an g 25 dy v1 x.Op.aB∧an g 5 a_ v2 x.jg∧cs=[.int .i64 x.ax,.int .i64 x.cw,.int .i64 x.cx,.int .i64 x.Op.ah,.string (br x.Op.af),v0,.int .i64 x.Op.ai,.int .i64 x.Op.aI,.bool x.Op.aV,.bool x.Op.aK,.bool x.Op.au,v1,v2]
  len h:=by obtain⟨v0,v1,v2,h0,h1,h2,rfl⟩:=h;rfl
  one h:=by
    obtain⟨v0,v1,v2,h0,h1,h2,rfl⟩:=h
    obtain⟨_,_,rfl⟩:=h0.ak
    obtain⟨_,_,rfl⟩:=h1.ak
    obtain⟨_,_,rfl⟩:=h2.ak
    simp[Value.oneCell']
  mono hg h:=by obtain⟨v0,v1,v2,h0,h1,h2,rfl⟩:=h;exact⟨v0,v1,v2,h0.mono hg,h1.mono hg,h2.mono hg,rfl⟩
  zv:=⟨0,0,0,⟨0,[],[],0,0,false,false,false,[]⟩,[]⟩
  zc:=[.int .i64 0,.int .i64 0,.int .i64 0,.int .i64 0,.string (br []),.slice none 0 0,.int .i64 0,.int .i64 0,.bool false,.bool false,.bool false,.slice none 0 0,.slice none 0 0]
  zK _:=⟨_,_,_,an.nil _ _ _,an.nil _ _ _,an.nil _ _ _,rfl⟩
def lY (o:aR) (bM deep:Int):Bool:=decide (iH o bM deep>bM)
def stepG (x:c7):Bool:=lY x.Op 3000 3||decide ((x.jg.length:Int)>2000)
def cD (x:c7):j0:=⟨x.ax,x.cw,x.cx,[]⟩
def cI (x:c7):bp:=if (bQ (bD x.Op 3)).2≠0 then x.jg else (bQ (bD x.Op 3)).1
section
variable {l:List c7} {i:Int} {x:c7}
theorem Su (h:¬(bQ (bD x.Op 3)).2=0):x.jg=cI x:=by unfold cI;rw[aY h]
theorem Sv (h:(bQ (bD x.Op 3)).2=0):(bQ (bD x.Op 3)).1=cI x:=by unfold cI;rw[aL (by simpa using h)]
theorem Sx (o:aR):(bQ o).1.length≤1024:=by
  unfold bQ
  split
  · exact eX _
  · split
    · exact eX _
    · rename_i h
      simp only[tq,Nat.not_lt] at h
      exact h.2
theorem Sy (h:x.jg.length≤2000):(cI x).length≤2000:=by
  unfold cI
  split
  · exact h
  · exact cH (Sx _) (by decide)
end
theorem Sz (mr:Nat):∀(B:World) (h:ay) (g:GH) (hg:bu g h) (V:bz g) (o:aR) (a6:Value) (X:an g 5 a_ a6 o.Data) (a7:Value) (ar:an g 25 dy a7 o.aB) (deep:Int) (ho:cU o≤100000000) (hd:0≤deep∧deep≤1000) (bj:cU o<mr),aG prog B 7 #[.agg #[vI o.ah,vS o.af,a6,vI o.ai,vI o.aI,.bool o.aV,.bool o.aK,.bool o.au,a7],vI deep] h g [] (fun c3 g' L'=>∃v0 v1,c3=.agg #[.int .i64 ((bD o deep).ah),.string (br ((bD o deep).af)),v0,.int .i64 ((bD o deep).ai),.int .i64 ((bD o deep).aI),.bool ((bD o deep).aV),.bool ((bD o deep).aK),.bool ((bD o deep).au),v1]∧an g' 5 a_ v0 ((bD o deep).Data)∧an g' 25 dy v1 ((bD o deep).aB)∧L'=[]):=by
 induction mr with
 |zero=>intros;omega
 |succ mr c4=>
 intro B h g hg V o a6 X a7 ar deep ho hd bj
 obtain⟨Y,Z,rfl⟩:=X.ak
 obtain⟨a3,aw,rfl⟩:=ar.ak
 refine aG.aq func7 fun R hR=>At.rg 2<|Op.bx 2 25 0 #[vI o.ah,vS o.af,vL Y o.Data.length Z,vI o.ai,vI o.aI,.bool o.aV,.bool o.aK,.bool o.au,vL a3 o.aB.length aw] (St.init hg) fun J ef c5=>Op.al 4 25 fE c5 fun bk eh c6=>Op.gt 1 ?_
 refine At.rg 2<|Op.ls 7 0 25 #[] c6 fun a8 ej c8=>Op.pg 2 [(5,vL (some ⟨a8,0,none⟩) 0 0)]<|At.go 3 1 [(6,vI 0)] ?_
 have c9:∀(m:Nat) (a4:GH) (a0:aM g a4) (bL:List aR) (i:Int) (D:Option Addr) (G:Nat) (a9:az) (bb:ay) (hm:o.aB.length-i.toNat<m) (h0:0≤i) (h1:i≤o.aB.length) (hI:vC o deep bL i) (O:aH 25 dy a4 (.slice D bL.length G) bL a9) (U:St h g (aS []) a4 [a9,[(bk,Obj.cells fE 25 (0,0))],[(J,Obj.cells #[vI o.ah,vS o.af,vL Y o.Data.length Z,vI o.ai,vI o.aI,.bool o.aV,.bool o.aK,.bool o.au,vL a3 o.aB.length aw] 25 (0,0))]] bb),At (bP prog B 7 f7 R) [] 3 [(1,vI deep),(2,vP J),(4,vP bk),(5,vL D bL.length G),(6,vI i)] bb:=by
  intro m;induction m with
  |zero=>intros;omega
  |succ m da=>
   intro a4 a0 bL i D G a9 bb hm h0 h1 hI O U
   replace V:=V.mono a0
   replace X:=X.mono a0
   replace ar:=ar.mono a0
   refine At.rp 9 2 [(8,vI i),(9,vQ J 8)]<|Op.l1 23 9 10 8 (vL a3 o.aB.length aw) (U.ag 2 rfl)<|Op.px 3 [(13,.bool (decide (i<(o.aB.length:Int))))]<|Op.wd (i<(o.aB.length:Int)) 13 (fun em=>?_) fun en=>?_
   ·refine Op.pg 4 [(16,.bool (decide (deep>0)))]<|At.fd (deep>0) 16 5 7 (fun ep=>?_) fun er=>?_
    ·refine At.rp 12 2 [(19,vL D bL.length G),(20,vQ J 8)]<|Op.l1 23 20 21 8 (vL a3 o.aB.length aw) (U.ag 2 rfl)<|Op.px 1 [(22,vI i)] ?_
     obtain⟨u,a5⟩:=bW o.aB i
     obtain⟨db,bm,et,ex,dc,dd,a1⟩:=an.bB ar _ a5
     cases dc
     refine Op.iq 23 25 9 96 o.aB.length aw 21 22 23 db bm i ?_
     replace a1:=k9.1 a1
     obtain⟨eA,v51,bo,bs,a1⟩:=a1
     obtain⟨a53,df,rfl⟩:=bo.ak
     obtain⟨dg,dj,rfl⟩:=bs.ak
     refine Op.la 25 23 24 (bm+i.toNat*9) 9 [vI u.ah,vS u.af,vL a53 u.Data.length df,vI u.ai,vI u.aI,.bool u.aV,.bool u.aK,.bool u.au,vL dg u.aB.length dj] (U.sub _ _ dd) ?_ (hv:=a1)
     refine Op.px 1 [(25,vI deep)]<|Op.vq 26 (deep-1)<|Op.c0 (some 27) (c4 _ _ _ U.sub V u _ bo _ bs (deep-1) (by((try dsimp only)<;>((have:=iP (bY a5);omega)))) (by(try dsimp only)<;>omega) (by exact nR (iP (bY a5)) (r9 bj))) U ?_
     rintro _ eB _ eI dk dl ⟨eJ,eK,rfl,bt,b3,rfl⟩
     obtain⟨b4,b5,rfl⟩:=bt.ak
     obtain⟨b6,b8,rfl⟩:=b3.ak
     replace O:=O.mono dk
     refine Op.ls 28 1 25 #[vI ((bD u (deep-1)).ah),vS ((bD u (deep-1)).af),vL b4 (((bD u (deep-1)).Data).length) b5,vI ((bD u (deep-1)).ai),vI ((bD u (deep-1)).aI),.bool ((bD u (deep-1)).aV),.bool ((bD u (deep-1)).aK),.bool ((bD u (deep-1)).au),vL b6 (((bD u (deep-1)).aB).length) b8] dl fun eL eQ ca=>Op.ap 19 28 23 23 29 25 96 dy (ys:=[(bD u (deep-1))]) O ca 1 (⟨_,_,rfl,(k9.2 ⟨_,_,bt,b3,rfl⟩),Reads.nil⟩) (by(have:=fD o;have h7:=congrArg List.length hI.1;simp only[ew,dZ,bJ,cF] at *;omega)) (fun _ _ _=>trivial) (cT.lit (m:=1) (sz:=9) (ca.ag 0 rfl) (news:=[vI ((bD u (deep-1)).ah),vS ((bD u (deep-1)).af),vL b4 (((bD u (deep-1)).Data).length) b5,vI ((bD u (deep-1)).ai),vI ((bD u (deep-1)).aI),.bool ((bD u (deep-1)).aV),.bool ((bD u (deep-1)).aK),.bool ((bD u (deep-1)).au),vL b6 (((bD u (deep-1)).aB).length) b8]) rfl rfl (by simp[Value.oneCell']) _) fun v72 e1 e2 cb dp e3=>?_
     obtain⟨dq,du,rfl⟩:=cb.ak
     exact Op.pg 6 [(5,vL dq ((bL++([(bD u (deep-1))])).length) du)]<|At.rp 3 1 [(17,vI i)]<|Op.cO 18 (i+1) (by omega) (by(have:=fD o;omega))<|Op.pg 3 [(6,vI (i+1))] (At.ke (da _ (aM.trans a0 (by repeat (first|assumption|apply aM.trans))) (bL++([(bD u (deep-1))])) (i+1) _ _ _ _ (by omega) (by omega) (by omega) (by exact Ss hI h0 a5 ‹_›) cb ((dp).drop)))
    refine At.rp 3 2 [(30,vL D bL.length G),(31,vQ J 8)]<|Op.s1 23 31 30 8 (vL D bL.length G) 2 #[vI o.ah,vS o.af,vL Y o.Data.length Z,vI o.ai,vI o.aI,.bool o.aV,.bool o.aK,.bool o.au,vL D bL.length G] U zt fun e4 bc=>Op.gt 8<|At.rp 5 1 [(32,vQ J 2)]<|Op.l1 22 32 33 2 (vL Y o.Data.length Z) (bc.ag 2 rfl) ?_
    refine Op.c0 (some 34) (mT _ _ _ bc.sub V _ _ X (by((try dsimp only)<;>((have:=fD o;omega))))) bc ?_
    rintro _ dv _ e5 dC dE ⟨e6,e7,rfl,ce,dT,rfl⟩;subst dv;clear dC
    obtain⟨ab,ad,rfl⟩:=ce.ak
    refine Op.px 1 [(35,vQ J 2)]<|Op.s1 22 35 34 2 (vL ab (o.Data.length) ad) 3 #[vI o.ah,vS o.af,vL ab (o.Data.length) ad,vI o.ai,vI o.aI,.bool o.aV,.bool o.aK,.bool o.au,vL D bL.length G] dE zt fun e8 cf=>Op.gt 9<|At.rg 2<|Op.la 25 2 36 0 9 [vI o.ah,vS o.af,vL ab (o.Data.length) ad,vI o.ai,vI o.aI,.bool o.aV,.bool o.aK,.bool o.au,vL D bL.length G] (cf.ag 3 rfl) ?_
    refine Op.sg 25 4 36 0 2 #[vI o.ah,vS o.af,vL ab (o.Data.length) ad,vI o.ai,vI o.aI,.bool o.aV,.bool o.aK,.bool o.au,vL D bL.length G] cf zt fun e9 d0=>Op.gt 10 ?_
    obtain⟨fa,d1,d2,bd⟩:=aH.freeze ce (d0)
    replace O:=O.mono d2
    obtain⟨fg,ch,d3,d4⟩:=aH.freeze O (d1)
    replace bd:=bd.mono d3
    exact At.rn f7 [.agg #[vI o.ah,vS o.af,vL ab (o.Data.length) ad,vI o.ai,vI o.aI,.bool o.aV,.bool o.aK,.bool o.au,vL D bL.length G]] [.cell 4 25] ⟨⟨_,_,rfl,cq (n:=9) (by kernel_rfl) (ch.ag 0 rfl) (by kernel_rfl) rfl⟩,trivial⟩ (hR ch.drop.drop ⟨(vL ab (o.Data.length) ad),(vL D bL.length G),(by(have I:=Av o deep;simp only[I.1,I.2.1,I.2.2.2.1,I.2.2.2.2.1,I.2.2.2.2.2.1,I.2.2.2.2.2.2.1,I.2.2.2.2.2.2.2];done)),bl bd (by(rw[(Av o deep).2.2.1])),bl d4 (by(rw[D0,KG hI h0 (.inr ‹_›)])),rfl⟩)
   refine Op.pg 4 [(16,vF)]<|At.cQ 16 7<|At.rp 3 2 [(30,vL D bL.length G),(31,vQ J 8)]<|Op.s1 23 31 30 8 (vL D bL.length G) 2 #[vI o.ah,vS o.af,vL Y o.Data.length Z,vI o.ai,vI o.aI,.bool o.aV,.bool o.aK,.bool o.au,vL D bL.length G] U zt fun fi be=>Op.gt 8 ?_
   refine At.rp 5 1 [(32,vQ J 2)]<|Op.l1 22 32 33 2 (vL Y o.Data.length Z) (be.ag 2 rfl)<|Op.c0 (some 34) (mT _ _ _ be.sub V _ _ X (by((try dsimp only)<;>((have:=fD o;omega))))) be ?_
   rintro _ d5 _ fj d6 d7 ⟨fl,fp,rfl,ci,dT,rfl⟩;subst d5;clear d6
   obtain⟨ae,am,rfl⟩:=ci.ak
   refine Op.px 1 [(35,vQ J 2)]<|Op.s1 22 35 34 2 (vL ae (o.Data.length) am) 3 #[vI o.ah,vS o.af,vL ae (o.Data.length) am,vI o.ai,vI o.aI,.bool o.aV,.bool o.aK,.bool o.au,vL D bL.length G] d7 zt fun fr ck=>Op.gt 9<|At.rg 2<|Op.la 25 2 36 0 9 [vI o.ah,vS o.af,vL ae (o.Data.length) am,vI o.ai,vI o.aI,.bool o.aV,.bool o.aK,.bool o.au,vL D bL.length G] (ck.ag 3 rfl) ?_
   refine Op.sg 25 4 36 0 2 #[vI o.ah,vS o.af,vL ae (o.Data.length) am,vI o.ai,vI o.aI,.bool o.aV,.bool o.aK,.bool o.au,vL D bL.length G] ck zt fun ft d8=>Op.gt 10 ?_
   obtain⟨fv,d9,ea,bi⟩:=aH.freeze ci (d8)
   replace O:=O.mono ea
   obtain⟨fw,co,eb,ed⟩:=aH.freeze O (d9)
   replace bi:=bi.mono eb
   exact At.rn f7 [.agg #[vI o.ah,vS o.af,vL ae (o.Data.length) am,vI o.ai,vI o.aI,.bool o.aV,.bool o.aK,.bool o.au,vL D bL.length G]] [.cell 4 25] ⟨⟨_,_,rfl,cq (n:=9) (by kernel_rfl) (co.ag 0 rfl) (by kernel_rfl) rfl⟩,trivial⟩ (hR co.drop.drop ⟨(vL ae (o.Data.length) am),(vL D bL.length G),(by(have I:=Av o deep;simp only[I.1,I.2.1,I.2.2.2.1,I.2.2.2.2.1,I.2.2.2.2.2.1,I.2.2.2.2.2.2.1,I.2.2.2.2.2.2.2];done)),bl bi (by(rw[(Av o deep).2.2.1])),bl ed (by(rw[D0,KG hI h0 (.inl ‹_›)])),rfl⟩)
 have ee:aH 25 dy g (vL (some ⟨a8,0,none⟩) 0 0) ([]:List aR) [(a8,Obj.cells #[] 25 (0,0))]:=aH.lit (by kernel_rfl) (by unfold maxLen;decide) (by kernel_rfl) Reads.nil
 exact At.ke (c9 _ _ (aM.refl _) ([]:List aR) 0 _ _ _ _ (bG _) (by omega) (by omega) (by exact Sr) ee c8)
theorem KI (B:World) (h:ay) (g:GH) (hg:bu g h) (G:bz g) (o:aR) (u:Value) (I:an g 5 a_ u o.Data) (D:Value) (J:an g 25 dy D o.aB) (deep:Int) (ho:cU o≤100000000) (hd:0≤deep∧deep≤1000):aG prog B 7 #[.agg #[vI o.ah,vS o.af,u,vI o.ai,vI o.aI,.bool o.aV,.bool o.aK,.bool o.au,D],vI deep] h g [] (fun O g' L'=>∃v0 v1,O=.agg #[.int .i64 ((bD o deep).ah),.string (br ((bD o deep).af)),v0,.int .i64 ((bD o deep).ai),.int .i64 ((bD o deep).aI),.bool ((bD o deep).aV),.bool ((bD o deep).aK),.bool ((bD o deep).au),v1]∧an g' 5 a_ v0 ((bD o deep).Data)∧an g' 25 dy v1 ((bD o deep).aB)∧L'=[]):=Sz _ B h g hg G o u I D J deep ho hd (bG _)
theorem SA (B:World) (h:ay) (g:GH) (hg:bu g h) (a0:bz g) (x:c7) (G:Value) (U:an g 5 a_ G x.Op.Data) (I:Value) (V:an g 25 dy I x.Op.aB) (J:Value) (X:an g 5 a_ J x.jg):
  aG prog B 51 #[.agg #[vI x.ax,vI x.cw,vI x.cx,vI x.Op.ah,vS x.Op.af,G,vI x.Op.ai,vI x.Op.aI,.bool x.Op.aV,.bool x.Op.aK,.bool x.Op.au,I,J]] h g [] (fun Y g' L'=>∃v0,Y=.agg #[.int .i64 ((cD x).ax),.int .i64 ((cD x).cw),.int .i64 ((cD x).cx),v0]∧an g' 5 a_ v0 ((cD x).uL)∧L'=[]):=by
 obtain⟨Z,ab,rfl⟩:=U.ak
 obtain⟨ad,ae,rfl⟩:=V.ak
 obtain⟨am,ar,rfl⟩:=X.ak
 refine aG.aq func51 fun R hR=>At.rg 2<|Op.bx 1 55 0 #[vI x.ax,vI x.cw,vI x.cx,vI x.Op.ah,vS x.Op.af,vL Z x.Op.Data.length ab,vI x.Op.ai,vI x.Op.aI,.bool x.Op.aV,.bool x.Op.aK,.bool x.Op.au,vL ad x.Op.aB.length ae,vL am x.jg.length ar] (St.init hg) fun D a1 aw=>Op.al 2 104 #[vI 0,vI 0,vI 0,vN] aw fun a3 a4 u=>Op.gt 1 ?_
 refine At.rp 8 1 [(3,vP D)]<|Op.l1 3 3 4 0 (vI x.ax) (u.ag 1 rfl)<|Op.px 1 [(5,vQ D 1)]<|Op.l1 3 5 6 1 (vI x.cw) (u.ag 1 rfl)<|Op.px 1 [(7,vQ D 2)] ?_
 exact Op.l1 3 7 8 2 (vI x.cx) (u.ag 1 rfl)<|Op.px 1 [(9,.agg #[vI x.ax,vI x.cw,vI x.cx,vN])]<|Op.sg 104 2 9 0 0 #[vI x.ax,vI x.cw,vI x.cx,vN] u zt fun a5 O=>Op.gt 2<|At.rn f51 [.agg #[vI x.ax,vI x.cw,vI x.cx,vN]] [.cell 2 104] ⟨⟨_,_,rfl,cq (n:=4) (by kernel_rfl) (O.ag 0 rfl) (by kernel_rfl) rfl⟩,trivial⟩ (hR O.drop.drop ⟨vN,(by rfl),bl (an.empty _ _ _ _ _) (by rfl),rfl⟩)
theorem SB (B:World) (h:ay) (g:GH) (hg:bu g h) (u:bz g) (x:c7) (X:Value) (Y:an g 5 a_ X x.Op.Data) (Z:Value) (ab:an g 25 dy Z x.Op.aB) (ad:Value) (D:an g 5 a_ ad x.jg) (ho:cU x.Op≤100000000) (hr:x.jg.length≤1000000000):
  aG prog B 52 #[.agg #[vI x.ax,vI x.cw,vI x.cx,vI x.Op.ah,vS x.Op.af,X,vI x.Op.ai,vI x.Op.aI,.bool x.Op.aV,.bool x.Op.aK,.bool x.Op.au,Z,ad]] h g [] (fun bc g' L'=>∃v0,bc=v0∧an g' 5 a_ v0 (cI x)∧L'=[]):=by
 obtain⟨ae,am,rfl⟩:=Y.ak
 obtain⟨ar,aw,rfl⟩:=ab.ak
 obtain⟨a0,a1,rfl⟩:=D.ak
 refine aG.aq func52 fun R hR=>At.rg 2<|Op.bx 1 55 0 #[vI x.ax,vI x.cw,vI x.cx,vI x.Op.ah,vS x.Op.af,vL ae x.Op.Data.length am,vI x.Op.ai,vI x.Op.aI,.bool x.Op.aV,.bool x.Op.aK,.bool x.Op.au,vL ar x.Op.aB.length aw,vL a0 x.jg.length a1] (St.init hg) fun a3 bm I=>Op.pg 1 []<|At.rp 9 1 [(6,vQ a3 3)] ?_
 refine Op.la 25 6 7 3 9 [vI x.Op.ah,vS x.Op.af,vL ae x.Op.Data.length am,vI x.Op.ai,vI x.Op.aI,.bool x.Op.aV,.bool x.Op.aK,.bool x.Op.au,vL ar x.Op.aB.length aw] (I.ag 0 rfl)<|Op.c0 (some 8) (KI _ _ _ I.sub u x.Op _ Y _ ab 3 (by(try dsimp only)<;>omega) (by(try dsimp only)<;>omega)) I ?_
 rintro _ bo _ bs a4 a5 ⟨bt,b3,rfl,a6,a7,rfl⟩
 obtain⟨b4,b5,rfl⟩:=a6.ak
 obtain⟨a31,b6,rfl⟩:=a7.ak
 replace u:=u.mono a4
 replace D:=D.mono a4
 refine Op.c0 (some 9) (Ji _ _ _ a5.sub u (bD x.Op (3)) _ a6 _ a7 (by((try dsimp only)<;>(exact Au (by omega))))) a5 ?_
 rintro _ b8 _ ca a8 G ⟨v37,rfl,a9,rfl⟩
 obtain⟨J,O,rfl⟩:=a9.ak
 replace u:=u.mono a8
 replace D:=D.mono a8
 refine Op.pg 2 [(3,vL J (((bQ (bD x.Op (3))).1).length) O),(4,vI ((bQ (bD x.Op (3))).2))]<|At.go 3 2 [(13,.bool (((bQ (bD x.Op (3))).2) != 0))]<|At.fn (((bQ (bD x.Op (3))).2)=0) 13 4 6 (fun cb=>?_) fun ce=>?_
 ·refine At.rp 4 1 [(14,vQ a3 12)]<|Op.l1 22 14 15 12 (vL a0 x.jg.length a1) (G.ag 0 rfl)<|Op.c0 (some 16) (mT _ _ _ G.sub u _ _ D (by(try dsimp only)<;>omega)) G ?_
  rintro _ bd _ cf be bi ⟨ch,ci,rfl,bb,ck,rfl⟩;subst bd;clear be
  obtain⟨U,V,rfl⟩:=bb.ak
  refine Op.pg 5 [(2,vL U (x.jg.length) V)] ?_
  obtain⟨co,bj,c3,bk⟩:=aH.freeze bb (bi)
  exact At.rt (vL U (x.jg.length) V) (hR bj.drop ⟨(vL U (x.jg.length) V),rfl,bl bk (by exact Su ‹_›),rfl⟩)
 exact At.gr 7 2 2 (vL J (((bQ (bD x.Op (3))).1).length) O) (hR G.drop ⟨(vL J (((bQ (bD x.Op (3))).1).length) O),rfl,bl a9 (by exact Sv ‹_›),rfl⟩)
abbrev lC:Array Value:=#[vS [],.nilFunc]
abbrev oq:Array Value:=#[vS [],vN,vI 0,vI (-1),vI 0,vI 0]
theorem KJ (B:World) (h:ay) (g:GH) (hg:bu g h) (a4:bz g) (u:Nat) (s:Sp) (a6:az) (a7:b9 g u s a6) (client:Int) (o:aR) (co:Value) (a8:an g 5 a_ co o.Data) (c3:Value) (ee:an g 25 dy c3 o.aB) (hP:l_ g) (a5:dA s) (hp:o.af.length≤100000000) (hd:o.Data.length≤1000000000) (hs:St h g (aS [a6]) g [a6] h):
  aG prog B 94 #[vP u,vI client,.agg #[vI o.ah,vS o.af,co,vI o.ai,vI o.aI,.bool o.aV,.bool o.aK,.bool o.au,c3]] h g [a6] (fun ef g' L'=>∃v0 c4 c5 f0 c6 c8 c9,ef=.tuple #[.agg #[.string (br ((bI s client o).af)),v0,.int .i64 ((bI s client o).ai),.int .i64 ((bI s client o).aC),.int .i64 ((bI s client o).Next),.int .i64 ((bI s client o).aF)],.agg #[.string (br c5),.func (.func f0) c6 c8],.int .i64 (cu s client o)]∧aH 5 a_ g' v0 ((bI s client o).Data) c4∧c5=cP s client o∧qT g' u (iR o) f0 c6 c8∧b9 g' u (cM s client o) c9∧L'=[c9,c4]):=by
 obtain⟨a9,bb,rfl⟩:=a8.ak
 obtain⟨eh,ej,rfl⟩:=ee.ak
 refine aG.aq func94 fun R hR=>At.rg 5<|Op.bx 3 52 0 #[vP u] hs fun J hG em=>Op.bx 5 25 2 #[vI o.ah,vS o.af,vL a9 o.Data.length bb,vI o.ai,vI o.aI,.bool o.aV,.bool o.aK,.bool o.au,vL eh o.aB.length ej] em fun I hH en=>Op.al 6 39 qQ en fun G hI ep=>?_
 refine Op.al 7 168 lC ep fun O hJ er=>Op.pg 1 []<|At.rp 2 1 [(11,vQ G 3)]<|Op.s1 3 11 (.const (vI (-1))) 3 (vI (-1)) 1 oq er zt fun hK ad=>Op.gt 2 ?_
 refine At.rp 2 1 [(12,vP I)]<|Op.l1 3 12 13 0 (vI o.ah) (ad.ag 2 rfl)<|Op.gt 3<|At.go 4 2 [(14,.bool (o.ah==3))]<|At.fd (o.ah=3) 14 5 12 (fun hL=>?_) fun hN=>?_
 ·refine At.go 6 1 [(9,vI (-1))]<|At.rp 2 1 [(16,vQ I 5)]<|Op.l1 4 16 17 5 (.bool o.aV) (ad.ag 2 rfl)<|Op.gt 7<|At.cW o.aV 17 8 9 (fun hO=>?_) fun hQ=>?_
  ·refine At.go 9 2 [(9,vI client)] ?_
   obtain⟨da,et,hS,ex,hT,eA,hV,eB,hW,eI,eJ,eK,db,dc,dd,df⟩:=a7
   have X:=St.un [et,ex,eA,eB,eI] eJ (ad.fs [3,3,3,3,4] rfl)
   refine At.dw (fun _=>False) [(4,true),(6,true),(8,true),(13,true),(0,true),(1,true),(2,true),(3,true),(5,true),(7,true),(9,true),(10,true),(11,true),(12,true),(14,false),(1015,false),(15,false),(16,true),(17,true),(18,true),(19,true),(20,false),(21,true)]<|Op.px 4 [(24,vQ I 1),(26,vQ I 2),(28,vI client),(33,vQ I 6)]<|Op.lf 52 3 0 20 1 (vP u) id (X.ag 9 rfl)<|Op.px 2 [(22,vP u)]<|Op.lf 91 22 0 23 1 (vP da) id (X.ag 0 rfl) ?_
   refine Op.lf 9 24 1 25 1 (vS o.af) id (X.ag 8 rfl)<|Op.lf 22 26 2 27 1 (vL a9 o.Data.length bb) id (X.ag 8 rfl)<|Op.lf 52 3 0 29 1 (vP u) id (X.ag 9 rfl)<|Op.px 2 [(31,vQ u 4)]<|Op.lf 3 31 4 32 1 (vI s.count) id (X.ag 0 rfl) ?_
   refine Op.l1 4 33 34 6 (.bool o.aK) (X.ag 8 rfl)<|Op.ba ?_
   have bi:=X.fs [1] rfl
   refine Op.cl (some 35) 1 bi (HG _ _ _ bi.sub a4 da s.aA _ eK o.af _ _ a8 client s.count o.aK hP (by(try dsimp only)<;>exact a5.tree) (by(try dsimp only)<;>omega) (by(try dsimp only)<;>omega) (St.pt 1 bi)) ?_
   rintro _ eL _ hX eQ e1 ⟨hY,rfl,dg,bc,rfl⟩;subst eL;clear eQ
   refine Op.px 4 [(36,vS ((cg s.aA o.af o.Data client s.count o.aK).2.1)),(37,vI ((cg s.aA o.af o.Data client s.count o.aK).2.2)),(38,vP G)]<|Op.s1 9 38 36 0 (vS ((cg s.aA o.af o.Data client s.count o.aK).2.1)) 7 #[vS ((cg s.aA o.af o.Data client s.count o.aK).2.1),vN,vI 0,vI (-1),vI 0,vI 0] e1 zt fun hZ U=>Op.pg 10 [(8,vI ((cg s.aA o.af o.Data client s.count o.aK).2.2))]<|At.gh (by kernel_rfl) (aS [[(G,Obj.cells #[vS ((cg s.aA o.af o.Data client s.count o.aK).2.1),vN,vI 0,vI (-1),vI 0,vI 0] 39 (0,0))],[(O,Obj.cells lC 168 (0,0))]]) [(1,true),(6,true),(3,true),(4,true)] [(0,false),(2,false),(5,true),(7,false),(8,false),(9,true)] [(2,false),(5,true),(0,false),(7,false),(8,false),(9,true)] (by kernel_rfl) ?_ ?_
   ·show Op _ _ _ _ _ [(1,true),(6,true),(3,true),(4,true),(0,false),(2,false),(5,true),(7,false),(8,false),(9,true)] _ _
    refine Op.px 2 [(40,vP G),(45,vI ((cg s.aA o.af o.Data client s.count o.aK).2.2))]<|Op.lf 52 3 0 42 1 (vP u) (U.fy 9 [7,6] rfl rfl rfl) (U.ag 9 rfl)<|Op.px 1 [(43,.func (.func 89) #[vP u] #[])]<|Op.la 39 6 39 0 6 [vS ((cg s.aA o.af o.Data client s.count o.aK).2.1),vN,vI 0,vI (-1),vI 0,vI 0] (U.ag 7 rfl)<|Op.l1 9 40 41 0 (vS ((cg s.aA o.af o.Data client s.count o.aK).2.1)) (U.ag 7 rfl) ?_
    refine Op.px 1 [(44,.agg #[vS ((cg s.aA o.af o.Data client s.count o.aK).2.1),.func (.func 89) #[vP u] #[]])]<|Op.sg 39 6 39 0 7 #[vS ((cg s.aA o.af o.Data client s.count o.aK).2.1),vN,vI 0,vI (-1),vI 0,vI 0] U (fun _=>⟨(G,Obj.cells #[vS ((cg s.aA o.af o.Data client s.count o.aK).2.1),vN,vI 0,vI (-1),vI 0,vI 0] 39 (0,0)),by simp,rfl⟩) fun h1 e2=>Op.sg 168 7 44 0 6 #[vS ((cg s.aA o.af o.Data client s.count o.aK).2.1),.func (.func 89) #[vP u] #[]] e2 (fun _=>⟨(O,Obj.cells lC 168 (0,0)),by simp,rfl⟩) fun h2 e3=>Op.pg 11 [(8,vI ((cg s.aA o.af o.Data client s.count o.aK).2.2))] ?_
    have e4:=aH.zero 5 a_ g none
    obtain⟨e5,e6,bj⟩:=St.bF (Q:=b9 g u (⟨(cg s.aA o.af o.Data client s.count o.aK).1,s.aQ,s.aN,s.aE,s.count,s.events,s.aW⟩:Sp)) 6 (e3.nl.fs [6,6,6,6,5,6] rfl) ⟨_,_,_,_,_,_,_,_,_,_,rfl,dg,db,dc,dd,df⟩
    exact At.rn f94 [.agg #[vS ((cg s.aA o.af o.Data client s.count o.aK).2.1),vN,vI 0,vI (-1),vI 0,vI 0],.agg #[vS ((cg s.aA o.af o.Data client s.count o.aK).2.1),.func (.func 89) #[vP u] #[]],vI ((cg s.aA o.af o.Data client s.count o.aK).2.2)] [.cell 6 39,.cell 7 168,.tmp 8] ⟨⟨_,_,rfl,cq (n:=6) (by kernel_rfl) (bj.ag 3 rfl) (by kernel_rfl) rfl⟩,⟨_,_,rfl,cq (n:=2) (by kernel_rfl) (bj.ag 2 rfl) (by kernel_rfl) rfl⟩,rfl,trivial⟩<|hR (bj.fs [1,1,5,5,5,5] rfl).drop.drop.drop.drop ⟨vN,[],((cg s.aA o.af o.Data client s.count o.aK).2.1),89,#[vP u],#[],e5,gG (by(simp[cu,bI,cP,cM,dV,dN,dU, *];done)) (by(simp[cu,bI,cP,cM,dV,dN,dU, *];done)) (bg (by(simp[cu,bI,cP,cM,dV,dN,dU, *];done))),dP e4 (by(simp[cu,bI,cP,cM,dV,dN,dU, *];done)),(by(simp[cu,bI,cP,cM,dV,dN,dU, *];done)),(by(rw[Am ‹_›];exact(.inl ⟨rfl,rfl,rfl,rfl⟩))),e6.eq (by(simp[cu,bI,cP,cM,dV,dN,dU, *];done)),rfl⟩
   show Op _ _ _ _ _ [(1,true),(6,true),(3,true),(4,true),(2,false),(5,true),(0,false),(7,false),(8,false),(9,true)] _ _
   refine Op.px 2 [(40,vP G),(45,vI ((cg s.aA o.af o.Data client s.count o.aK).2.2))]<|Op.lf 52 3 0 42 1 (vP u) (U.fy 9 [7,6] rfl rfl rfl) (U.ag 9 rfl)<|Op.px 1 [(43,.func (.func 89) #[vP u] #[])]<|Op.l1 9 40 41 0 (vS ((cg s.aA o.af o.Data client s.count o.aK).2.1)) (U.ag 7 rfl)<|Op.px 1 [(44,.agg #[vS ((cg s.aA o.af o.Data client s.count o.aK).2.1),.func (.func 89) #[vP u] #[]])] ?_
   refine Op.la 39 6 39 0 6 [vS ((cg s.aA o.af o.Data client s.count o.aK).2.1),vN,vI 0,vI (-1),vI 0,vI 0] (U.ag 7 rfl)<|Op.sg 39 6 39 0 7 #[vS ((cg s.aA o.af o.Data client s.count o.aK).2.1),vN,vI 0,vI (-1),vI 0,vI 0] U (fun _=>⟨(G,Obj.cells #[vS ((cg s.aA o.af o.Data client s.count o.aK).2.1),vN,vI 0,vI (-1),vI 0,vI 0] 39 (0,0)),by simp,rfl⟩) fun h3 e7=>Op.sg 168 7 44 0 6 #[vS ((cg s.aA o.af o.Data client s.count o.aK).2.1),.func (.func 89) #[vP u] #[]] e7 (fun _=>⟨(O,Obj.cells lC 168 (0,0)),by simp,rfl⟩) fun h4 e8=>Op.pg 11 [(8,vI ((cg s.aA o.af o.Data client s.count o.aK).2.2))] ?_
   have e9:=aH.zero 5 a_ g none
   obtain⟨fa,fg,bk⟩:=St.bF (Q:=b9 g u (⟨(cg s.aA o.af o.Data client s.count o.aK).1,s.aQ,s.aN,s.aE,s.count,s.events,s.aW⟩:Sp)) 6 (e8.nl.fs [6,6,6,6,5,6] rfl) ⟨_,_,_,_,_,_,_,_,_,_,rfl,dg,db,dc,dd,df⟩
   exact At.rn f94 [.agg #[vS ((cg s.aA o.af o.Data client s.count o.aK).2.1),vN,vI 0,vI (-1),vI 0,vI 0],.agg #[vS ((cg s.aA o.af o.Data client s.count o.aK).2.1),.func (.func 89) #[vP u] #[]],vI ((cg s.aA o.af o.Data client s.count o.aK).2.2)] [.cell 6 39,.cell 7 168,.tmp 8] ⟨⟨_,_,rfl,cq (n:=6) (by kernel_rfl) (bk.ag 3 rfl) (by kernel_rfl) rfl⟩,⟨_,_,rfl,cq (n:=2) (by kernel_rfl) (bk.ag 2 rfl) (by kernel_rfl) rfl⟩,rfl,trivial⟩<|hR (bk.fs [1,1,5,5,5,5] rfl).drop.drop.drop.drop ⟨vN,[],((cg s.aA o.af o.Data client s.count o.aK).2.1),89,#[vP u],#[],fa,gG (by(simp[cu,bI,cP,cM,dV,dN,dU, *];done)) (by(simp[cu,bI,cP,cM,dV,dN,dU, *];done)) (bg (by(simp[cu,bI,cP,cM,dV,dN,dU, *];done))),dP e9 (by(simp[cu,bI,cP,cM,dV,dN,dU, *];done)),(by(simp[cu,bI,cP,cM,dV,dN,dU, *];done)),(by(rw[Am ‹_›];exact(.inl ⟨rfl,rfl,rfl,rfl⟩))),fg.eq (by(simp[cu,bI,cP,cM,dV,dN,dU, *];done)),rfl⟩
  obtain⟨dj,fi,h5,fj,h6,fl,h7,fp,h8,fr,ft,fv,dk,dl,dp,dq⟩:=a7
  have Y:=St.un [fi,fj,fl,fp,fr] ft (ad.fs [3,3,3,3,4] rfl)
  refine At.dw (fun _=>False) [(4,true),(6,true),(8,true),(13,true),(0,true),(1,true),(2,true),(3,true),(5,true),(7,true),(9,true),(10,true),(11,true),(12,true),(14,false),(1015,false),(15,false),(16,true),(17,true),(18,true),(19,true),(20,false),(21,true)]<|Op.px 4 [(24,vQ I 1),(26,vQ I 2),(28,vI (-1)),(33,vQ I 6)]<|Op.lf 52 3 0 20 1 (vP u) id (Y.ag 9 rfl)<|Op.px 2 [(22,vP u)]<|Op.lf 91 22 0 23 1 (vP dj) id (Y.ag 0 rfl) ?_
  refine Op.lf 9 24 1 25 1 (vS o.af) id (Y.ag 8 rfl)<|Op.lf 22 26 2 27 1 (vL a9 o.Data.length bb) id (Y.ag 8 rfl)<|Op.lf 52 3 0 29 1 (vP u) id (Y.ag 9 rfl)<|Op.px 2 [(31,vQ u 4)]<|Op.lf 3 31 4 32 1 (vI s.count) id (Y.ag 0 rfl) ?_
  refine Op.l1 4 33 34 6 (.bool o.aK) (Y.ag 8 rfl)<|Op.ba ?_
  have bm:=Y.fs [1] rfl
  refine Op.cl (some 35) 1 bm (HG _ _ _ bm.sub a4 dj s.aA _ fv o.af _ _ a8 (-1) s.count o.aK hP (by(try dsimp only)<;>exact a5.tree) (by(try dsimp only)<;>omega) (by(try dsimp only)<;>omega) (St.pt 1 bm)) ?_
  rintro _ fw _ h9 fx f1 ⟨ib,rfl,du,bc,rfl⟩;subst fw;clear fx
  refine Op.px 4 [(36,vS ((cg s.aA o.af o.Data (-1) s.count o.aK).2.1)),(37,vI ((cg s.aA o.af o.Data (-1) s.count o.aK).2.2)),(38,vP G)]<|Op.s1 9 38 36 0 (vS ((cg s.aA o.af o.Data (-1) s.count o.aK).2.1)) 7 #[vS ((cg s.aA o.af o.Data (-1) s.count o.aK).2.1),vN,vI 0,vI (-1),vI 0,vI 0] f1 zt fun ih V=>Op.pg 10 [(8,vI ((cg s.aA o.af o.Data (-1) s.count o.aK).2.2))]<|At.gh (by kernel_rfl) (aS [[(G,Obj.cells #[vS ((cg s.aA o.af o.Data (-1) s.count o.aK).2.1),vN,vI 0,vI (-1),vI 0,vI 0] 39 (0,0))],[(O,Obj.cells lC 168 (0,0))]]) [(1,true),(6,true),(3,true),(4,true)] [(0,false),(2,false),(5,true),(7,false),(8,false),(9,true)] [(2,false),(5,true),(0,false),(7,false),(8,false),(9,true)] (by kernel_rfl) ?_ ?_
  ·show Op _ _ _ _ _ [(1,true),(6,true),(3,true),(4,true),(0,false),(2,false),(5,true),(7,false),(8,false),(9,true)] _ _
   refine Op.px 2 [(40,vP G),(45,vI ((cg s.aA o.af o.Data (-1) s.count o.aK).2.2))]<|Op.lf 52 3 0 42 1 (vP u) (V.fy 9 [7,6] rfl rfl rfl) (V.ag 9 rfl)<|Op.px 1 [(43,.func (.func 89) #[vP u] #[])]<|Op.la 39 6 39 0 6 [vS ((cg s.aA o.af o.Data (-1) s.count o.aK).2.1),vN,vI 0,vI (-1),vI 0,vI 0] (V.ag 7 rfl)<|Op.l1 9 40 41 0 (vS ((cg s.aA o.af o.Data (-1) s.count o.aK).2.1)) (V.ag 7 rfl) ?_
   refine Op.px 1 [(44,.agg #[vS ((cg s.aA o.af o.Data (-1) s.count o.aK).2.1),.func (.func 89) #[vP u] #[]])]<|Op.sg 39 6 39 0 7 #[vS ((cg s.aA o.af o.Data (-1) s.count o.aK).2.1),vN,vI 0,vI (-1),vI 0,vI 0] V (fun _=>⟨(G,Obj.cells #[vS ((cg s.aA o.af o.Data (-1) s.count o.aK).2.1),vN,vI 0,vI (-1),vI 0,vI 0] 39 (0,0)),by simp,rfl⟩) fun ii f2=>Op.sg 168 7 44 0 6 #[vS ((cg s.aA o.af o.Data (-1) s.count o.aK).2.1),.func (.func 89) #[vP u] #[]] f2 (fun _=>⟨(O,Obj.cells lC 168 (0,0)),by simp,rfl⟩) fun ik f3=>Op.pg 11 [(8,vI ((cg s.aA o.af o.Data (-1) s.count o.aK).2.2))] ?_
   have f4:=aH.zero 5 a_ g none
   obtain⟨f5,f6,bo⟩:=St.bF (Q:=b9 g u (⟨(cg s.aA o.af o.Data (-1) s.count o.aK).1,s.aQ,s.aN,s.aE,s.count,s.events,s.aW⟩:Sp)) 6 (f3.nl.fs [6,6,6,6,5,6] rfl) ⟨_,_,_,_,_,_,_,_,_,_,rfl,du,dk,dl,dp,dq⟩
   exact At.rn f94 [.agg #[vS ((cg s.aA o.af o.Data (-1) s.count o.aK).2.1),vN,vI 0,vI (-1),vI 0,vI 0],.agg #[vS ((cg s.aA o.af o.Data (-1) s.count o.aK).2.1),.func (.func 89) #[vP u] #[]],vI ((cg s.aA o.af o.Data (-1) s.count o.aK).2.2)] [.cell 6 39,.cell 7 168,.tmp 8] ⟨⟨_,_,rfl,cq (n:=6) (by kernel_rfl) (bo.ag 3 rfl) (by kernel_rfl) rfl⟩,⟨_,_,rfl,cq (n:=2) (by kernel_rfl) (bo.ag 2 rfl) (by kernel_rfl) rfl⟩,rfl,trivial⟩<|hR (bo.fs [1,1,5,5,5,5] rfl).drop.drop.drop.drop ⟨vN,[],((cg s.aA o.af o.Data (-1) s.count o.aK).2.1),89,#[vP u],#[],f5,gG (by(simp[cu,bI,cP,cM,dV,dN,dU, *];done)) (by(simp[cu,bI,cP,cM,dV,dN,dU, *];done)) (bg (by(simp[cu,bI,cP,cM,dV,dN,dU, *];done))),dP f4 (by(simp[cu,bI,cP,cM,dV,dN,dU, *];done)),(by(simp[cu,bI,cP,cM,dV,dN,dU, *];done)),(by(rw[Am ‹_›];exact(.inl ⟨rfl,rfl,rfl,rfl⟩))),f6.eq (by(simp[cu,bI,cP,cM,dV,dN,dU, *];done)),rfl⟩
  show Op _ _ _ _ _ [(1,true),(6,true),(3,true),(4,true),(2,false),(5,true),(0,false),(7,false),(8,false),(9,true)] _ _
  refine Op.px 2 [(40,vP G),(45,vI ((cg s.aA o.af o.Data (-1) s.count o.aK).2.2))]<|Op.lf 52 3 0 42 1 (vP u) (V.fy 9 [7,6] rfl rfl rfl) (V.ag 9 rfl)<|Op.px 1 [(43,.func (.func 89) #[vP u] #[])]<|Op.l1 9 40 41 0 (vS ((cg s.aA o.af o.Data (-1) s.count o.aK).2.1)) (V.ag 7 rfl)<|Op.px 1 [(44,.agg #[vS ((cg s.aA o.af o.Data (-1) s.count o.aK).2.1),.func (.func 89) #[vP u] #[]])] ?_
  refine Op.la 39 6 39 0 6 [vS ((cg s.aA o.af o.Data (-1) s.count o.aK).2.1),vN,vI 0,vI (-1),vI 0,vI 0] (V.ag 7 rfl)<|Op.sg 39 6 39 0 7 #[vS ((cg s.aA o.af o.Data (-1) s.count o.aK).2.1),vN,vI 0,vI (-1),vI 0,vI 0] V (fun _=>⟨(G,Obj.cells #[vS ((cg s.aA o.af o.Data (-1) s.count o.aK).2.1),vN,vI 0,vI (-1),vI 0,vI 0] 39 (0,0)),by simp,rfl⟩) fun il f7=>Op.sg 168 7 44 0 6 #[vS ((cg s.aA o.af o.Data (-1) s.count o.aK).2.1),.func (.func 89) #[vP u] #[]] f7 (fun _=>⟨(O,Obj.cells lC 168 (0,0)),by simp,rfl⟩) fun io f8=>Op.pg 11 [(8,vI ((cg s.aA o.af o.Data (-1) s.count o.aK).2.2))] ?_
  have f9:=aH.zero 5 a_ g none
  obtain⟨gc,ge,bs⟩:=St.bF (Q:=b9 g u (⟨(cg s.aA o.af o.Data (-1) s.count o.aK).1,s.aQ,s.aN,s.aE,s.count,s.events,s.aW⟩:Sp)) 6 (f8.nl.fs [6,6,6,6,5,6] rfl) ⟨_,_,_,_,_,_,_,_,_,_,rfl,du,dk,dl,dp,dq⟩
  exact At.rn f94 [.agg #[vS ((cg s.aA o.af o.Data (-1) s.count o.aK).2.1),vN,vI 0,vI (-1),vI 0,vI 0],.agg #[vS ((cg s.aA o.af o.Data (-1) s.count o.aK).2.1),.func (.func 89) #[vP u] #[]],vI ((cg s.aA o.af o.Data (-1) s.count o.aK).2.2)] [.cell 6 39,.cell 7 168,.tmp 8] ⟨⟨_,_,rfl,cq (n:=6) (by kernel_rfl) (bs.ag 3 rfl) (by kernel_rfl) rfl⟩,⟨_,_,rfl,cq (n:=2) (by kernel_rfl) (bs.ag 2 rfl) (by kernel_rfl) rfl⟩,rfl,trivial⟩<|hR (bs.fs [1,1,5,5,5,5] rfl).drop.drop.drop.drop ⟨vN,[],((cg s.aA o.af o.Data (-1) s.count o.aK).2.1),89,#[vP u],#[],gc,gG (by(simp[cu,bI,cP,cM,dV,dN,dU, *];done)) (by(simp[cu,bI,cP,cM,dV,dN,dU, *];done)) (bg (by(simp[cu,bI,cP,cM,dV,dN,dU, *];done))),dP f9 (by(simp[cu,bI,cP,cM,dV,dN,dU, *];done)),(by(simp[cu,bI,cP,cM,dV,dN,dU, *];done)),(by(rw[Am ‹_›];exact(.inl ⟨rfl,rfl,rfl,rfl⟩))),ge.eq (by(simp[cu,bI,cP,cM,dV,dN,dU, *];done)),rfl⟩
 refine At.go 13 2 [(46,.bool (o.ah==4))]<|At.fd (o.ah=4) 46 14 16 (fun ip=>?_) fun is=>?_
 ·obtain⟨bd,dv,iv,dC,i0,dE,i1,dT,i3,d0,gg,d1,d2,d3,d4,d5⟩:=a7
  have D:=St.un [dv,dC,dE,dT,d0] gg (ad.fs [3,3,3,3,4] rfl)
  refine At.gh (by kernel_rfl) (aS [dv,dC,dE,dT,d0,[(G,Obj.cells oq 39 (0,0))],[(O,Obj.cells lC 168 (0,0))]]) [(1,true),(10,true),(12,true),(2,true),(3,true),(4,true),(5,true),(6,true),(7,true),(8,true),(9,true),(11,true),(13,true)] [(0,false),(14,false),(15,false),(16,false),(17,true)] [(14,false),(0,false),(15,false),(16,false),(17,true)] (by kernel_rfl) ?_ ?_
  ·show Op _ _ _ _ _ [(1,true),(10,true),(12,true),(2,true),(3,true),(4,true),(5,true),(6,true),(7,true),(8,true),(9,true),(11,true),(13,true),(0,false),(14,false),(15,false),(16,false),(17,true)] _ _
   refine Op.px 3 [(49,vQ I 1),(58,vQ I 1),(60,vQ I 3)]<|Op.lf 9 49 1 50 1 (vS o.af) (D.fy 8 [1,2,3,4,5,7,6] rfl rfl rfl) (D.ag 8 rfl)<|Op.lf 52 3 0 51 1 (vP u) (D.fy 9 [1,2,3,4,5,7,6] rfl rfl rfl) (D.ag 9 rfl)<|Op.px 2 [(53,.agg #[vS o.af,.func (.func 89) #[vP u] #[]])]<|Op.lf 52 3 0 54 1 (vP u) (D.fy 9 [1,2,3,4,5,7,6] rfl rfl rfl) (D.ag 9 rfl) ?_
   refine Op.px 2 [(56,vP u)]<|Op.lf 91 56 0 57 1 (vP bd) (D.fy 0 [1,2,3,4,5,7,6] rfl rfl rfl) (D.ag 0 rfl)<|Op.lf 9 58 1 59 1 (vS o.af) (D.fy 8 [1,2,3,4,5,7,6] rfl rfl rfl) (D.ag 8 rfl)<|Op.lf 3 60 3 61 1 (vI o.ai) (D.fy 8 [1,2,3,4,5,7,6] rfl rfl rfl) (D.ag 8 rfl)<|Op.la 39 6 48 0 6 [vS [],vN,vI 0,vI (-1),vI 0,vI 0] (D.ag 7 rfl) ?_
   have bt:=D.fs [1] rfl
   refine Op.cl (some 62) 1 bt (C0 _ _ _ bt.sub a4 bd s.aA _ d1 o.af o.ai (by(try dsimp only)<;>exact a5.tree) (by(try dsimp only)<;>omega) (St.pt 1 bt)) ?_ (hM:=(fun _ _ h=>qA (by simp) h))
   rintro _ gk _ i4 gn gs ⟨i5,rfl,g1,bc,rfl⟩;subst gk;clear gn
   refine Op.sg 39 6 48 0 7 oq gs (fun _=>⟨(G,Obj.cells oq 39 (0,0)),by simp,rfl⟩) fun i6 g2=>Op.sg 168 7 53 0 6 #[vS o.af,.func (.func 89) #[vP u] #[]] g2 (fun _=>⟨(O,Obj.cells lC 168 (0,0)),by simp,rfl⟩) fun i7 g3=>Op.pg 11 [(8,vI ((fZ s.aA o.af o.ai).2))] ?_
   have g4:=aH.zero 5 a_ g none
   obtain⟨g5,g6,b3⟩:=St.bF (Q:=b9 g u (⟨(fZ s.aA o.af o.ai).1,s.aQ,s.aN,s.aE,s.count,s.events,s.aW⟩:Sp)) 6 (g3.nl.fs [6,6,6,6,5,6] rfl) ⟨_,_,_,_,_,_,_,_,_,_,rfl,g1,d2,d3,d4,d5⟩
   exact At.rn f94 [.agg oq,.agg #[vS o.af,.func (.func 89) #[vP u] #[]],vI ((fZ s.aA o.af o.ai).2)] [.cell 6 39,.cell 7 168,.tmp 8] ⟨⟨_,_,rfl,cq (n:=6) (by kernel_rfl) (b3.ag 3 rfl) (by kernel_rfl) rfl⟩,⟨_,_,rfl,cq (n:=2) (by kernel_rfl) (b3.ag 2 rfl) (by kernel_rfl) rfl⟩,rfl,trivial⟩<|hR (b3.fs [1,1,5,5,5,5] rfl).drop.drop.drop.drop ⟨vN,[],o.af,89,#[vP u],#[],g5,gG (by(simp[cu,bI,cP,cM,dV,dN,dU, *];done)) (by(simp[cu,bI,cP,cM,dV,dN,dU, *];done)) (bg (by(simp[cu,bI,cP,cM,dV,dN,dU, *];done))),dP g4 (by(simp[cu,bI,cP,cM,dV,dN,dU, *];done)),(by(simp[cu,bI,cP,cM,dV,dN,dU, *];done)),(by(rw[J1 ‹_› ‹_›];exact(.inl ⟨rfl,rfl,rfl,rfl⟩))),g6.eq (by(unfold cM dV;simp[*];done)),rfl⟩
  show Op _ _ _ _ _ [(1,true),(10,true),(12,true),(2,true),(3,true),(4,true),(5,true),(6,true),(7,true),(8,true),(9,true),(11,true),(13,true),(14,false),(0,false),(15,false),(16,false),(17,true)] _ _
  refine Op.px 3 [(49,vQ I 1),(58,vQ I 1),(60,vQ I 3)]<|Op.lf 9 49 1 50 1 (vS o.af) (D.fy 8 [1,2,3,4,5,7,6] rfl rfl rfl) (D.ag 8 rfl)<|Op.lf 52 3 0 51 1 (vP u) (D.fy 9 [1,2,3,4,5,7,6] rfl rfl rfl) (D.ag 9 rfl)<|Op.px 2 [(53,.agg #[vS o.af,.func (.func 89) #[vP u] #[]])]<|Op.lf 52 3 0 54 1 (vP u) (D.fy 9 [1,2,3,4,5,7,6] rfl rfl rfl) (D.ag 9 rfl) ?_
  refine Op.px 2 [(56,vP u)]<|Op.lf 91 56 0 57 1 (vP bd) (D.fy 0 [1,2,3,4,5,7,6] rfl rfl rfl) (D.ag 0 rfl)<|Op.lf 9 58 1 59 1 (vS o.af) (D.fy 8 [1,2,3,4,5,7,6] rfl rfl rfl) (D.ag 8 rfl)<|Op.lf 3 60 3 61 1 (vI o.ai) (D.fy 8 [1,2,3,4,5,7,6] rfl rfl rfl) (D.ag 8 rfl) ?_
  have b4:=D.fs [1] rfl
  refine Op.cl (some 62) 1 b4 (C0 _ _ _ b4.sub a4 bd s.aA _ d1 o.af o.ai (by(try dsimp only)<;>exact a5.tree) (by(try dsimp only)<;>omega) (St.pt 1 b4)) ?_ (hM:=(fun _ _ h=>qA (by simp) h))
  rintro _ g7 _ i8 g8 d6 ⟨i9,rfl,g9,bc,rfl⟩;subst g7;clear g8
  refine Op.la 39 6 48 0 6 [vS [],vN,vI 0,vI (-1),vI 0,vI 0] (d6.ag 7 rfl)<|Op.sg 39 6 48 0 7 oq d6 (fun _=>⟨(G,Obj.cells oq 39 (0,0)),by simp,rfl⟩) fun jf ha=>Op.sg 168 7 53 0 6 #[vS o.af,.func (.func 89) #[vP u] #[]] ha (fun _=>⟨(O,Obj.cells lC 168 (0,0)),by simp,rfl⟩) fun jj hb=>Op.pg 11 [(8,vI ((fZ s.aA o.af o.ai).2))] ?_
  have he:=aH.zero 5 a_ g none
  obtain⟨hf,hh,b5⟩:=St.bF (Q:=b9 g u (⟨(fZ s.aA o.af o.ai).1,s.aQ,s.aN,s.aE,s.count,s.events,s.aW⟩:Sp)) 6 (hb.nl.fs [6,6,6,6,5,6] rfl) ⟨_,_,_,_,_,_,_,_,_,_,rfl,g9,d2,d3,d4,d5⟩
  exact At.rn f94 [.agg oq,.agg #[vS o.af,.func (.func 89) #[vP u] #[]],vI ((fZ s.aA o.af o.ai).2)] [.cell 6 39,.cell 7 168,.tmp 8] ⟨⟨_,_,rfl,cq (n:=6) (by kernel_rfl) (b5.ag 3 rfl) (by kernel_rfl) rfl⟩,⟨_,_,rfl,cq (n:=2) (by kernel_rfl) (b5.ag 2 rfl) (by kernel_rfl) rfl⟩,rfl,trivial⟩<|hR (b5.fs [1,1,5,5,5,5] rfl).drop.drop.drop.drop ⟨vN,[],o.af,89,#[vP u],#[],hf,gG (by(simp[cu,bI,cP,cM,dV,dN,dU, *];done)) (by(simp[cu,bI,cP,cM,dV,dN,dU, *];done)) (bg (by(simp[cu,bI,cP,cM,dV,dN,dU, *];done))),dP he (by(simp[cu,bI,cP,cM,dV,dN,dU, *];done)),(by(simp[cu,bI,cP,cM,dV,dN,dU, *];done)),(by(rw[J1 ‹_› ‹_›];exact(.inl ⟨rfl,rfl,rfl,rfl⟩))),hh.eq (by(unfold cM dV;simp[*];done)),rfl⟩
 obtain⟨d7,hj,js,b6,jt,b8,j1,ca,j2,cb,hl,hm,ae,am,ar,aw⟩:=a7
 have a0:=St.un [hj,b6,b8,ca,cb] hl (ad.fs [3,3,3,3,4] rfl)
 refine At.dw (fun _=>False) [(4,true),(6,true),(8,true),(0,true),(1,true),(2,true),(3,true),(5,true),(7,true),(9,false),(1010,false),(10,false),(11,true),(12,true),(13,true),(14,true),(15,true)]<|Op.px 3 [(68,vQ I 1),(70,vQ I 2),(72,vQ I 3)]<|Op.lf 52 3 0 64 1 (vP u) id (a0.ag 9 rfl)<|Op.px 2 [(66,vP u)]<|Op.lf 91 66 0 67 1 (vP d7) id (a0.ag 0 rfl) ?_
 refine Op.lf 9 68 1 69 1 (vS o.af) id (a0.ag 8 rfl)<|Op.lf 22 70 2 71 1 (vL a9 o.Data.length bb) id (a0.ag 8 rfl)<|Op.l1 3 72 73 3 (vI o.ai) (a0.ag 8 rfl)<|Op.ba ?_
 have ce:=a0.fs [1] rfl
 refine Op.cl (some 74) 1 ce (OD _ _ _ ce.sub a4 d7 s.aA _ hm o.af _ _ a8 o.ai (by(try dsimp only)<;>exact a5.tree) (by(try dsimp only)<;>omega) (by(try dsimp only)<;>omega) (St.pt 1 ce)) ?_
 rintro _ hn _ kc ho a1 ⟨d8,rfl,a3,bc,rfl⟩;subst hn;clear ho
 refine Op.pg 17 [(8,vI ((eU s.aA o.af o.Data o.ai).2.2)),(10,vI ((eU s.aA o.af o.Data o.ai).2.1))]<|At.go 18 2 [(78,.bool (((eU s.aA o.af o.Data o.ai).2.2)==0))]<|At.fd (((eU s.aA o.af o.Data o.ai).2.2)=0) 78 19 20 (fun kd=>?_) fun kh=>?_
 ·refine At.rp 7 1 [(79,vQ I 1)]<|Op.l1 9 79 80 1 (vS o.af) (a1.ag 8 rfl)<|Op.px 2 [(81,vI ((eU s.aA o.af o.Data o.ai).2.1)),(82,vP G)]<|Op.s1 9 82 80 0 (vS o.af) 7 #[vS o.af,vN,vI 0,vI (-1),vI 0,vI 0] a1 zt fun kk hq=>Op.px 1 [(83,vQ G 2)] ?_
  refine Op.s1 3 83 81 2 (vI ((eU s.aA o.af o.Data o.ai).2.1)) 7 #[vS o.af,vN,vI ((eU s.aA o.af o.Data o.ai).2.1),vI (-1),vI 0,vI 0] hq zt fun kl be=>Op.gt 20<|At.dw (aS [d8,b6,b8,ca,cb,[(G,Obj.cells #[vS o.af,vN,vI ((eU s.aA o.af o.Data o.ai).2.1),vI (-1),vI 0,vI 0] 39 (0,0))],[(O,Obj.cells lC 168 (0,0))]]) [(1,true),(3,true),(5,true),(2,true),(4,true),(0,false),(6,false),(7,false),(8,true)]<|Op.px 3 [(85,vQ I 1),(87,.func (.func 118) #[] #[vP J]),(89,vI ((eU s.aA o.af o.Data o.ai).2.2))]<|Op.lf 9 85 1 86 1 (vS o.af) (be.fy 8 [0,2,3,4,5,7,6] rfl rfl rfl) (be.ag 8 rfl) ?_
  refine Op.px 1 [(88,.agg #[vS o.af,.func (.func 118) #[] #[vP J]])]<|Op.la 39 6 84 0 6 [vS o.af,vN,vI ((eU s.aA o.af o.Data o.ai).2.1),vI (-1),vI 0,vI 0] (be.ag 7 rfl)<|Op.sg 39 6 84 0 7 #[vS o.af,vN,vI ((eU s.aA o.af o.Data o.ai).2.1),vI (-1),vI 0,vI 0] be (fun _=>⟨(G,Obj.cells #[vS o.af,vN,vI ((eU s.aA o.af o.Data o.ai).2.1),vI (-1),vI 0,vI 0] 39 (0,0)),by simp,rfl⟩) fun km hr=>Op.sg 168 7 88 0 6 #[vS o.af,.func (.func 118) #[] #[vP J]] hr (fun _=>⟨(O,Obj.cells lC 168 (0,0)),by simp,rfl⟩) fun kv hu=>Op.pg 21 [(8,vI ((eU s.aA o.af o.Data o.ai).2.2))] ?_
  have cf:=aH.zero 5 a_ g none
  obtain⟨d9,Z⟩:=St.freeze (hu.nl.fs [10] rfl)
  have ea:=iK (g:=g) J (.cells #[vP u] 52 (0,0))
  generalize hw:cS g _=hx at d9 Z ea;clear hw
  replace ae:=ae.mono Z
  replace am:=am.mono Z
  replace ar:=ar.mono Z
  replace aw:=aw.mono Z
  replace cf:=cf.mono Z
  replace a3:=a3.mono Z
  obtain⟨hy,hz,ch⟩:=St.bF (Q:=b9 hx u (⟨(eU s.aA o.af o.Data o.ai).1,s.aQ,s.aN,s.aE,s.count,s.events,s.aW⟩:Sp)) 6 (d9.fs [6,6,6,6,5,6] rfl) ⟨_,_,_,_,_,_,_,_,_,_,rfl,a3,ae,am,ar,aw⟩
  exact At.rn f94 [.agg #[vS o.af,vN,vI ((eU s.aA o.af o.Data o.ai).2.1),vI (-1),vI 0,vI 0],.agg #[vS o.af,.func (.func 118) #[] #[vP J]],vI ((eU s.aA o.af o.Data o.ai).2.2)] [.cell 6 39,.cell 7 168,.tmp 8] ⟨⟨_,_,rfl,cq (n:=6) (by kernel_rfl) (ch.ag 3 rfl) (by kernel_rfl) rfl⟩,⟨_,_,rfl,cq (n:=2) (by kernel_rfl) (ch.ag 2 rfl) (by kernel_rfl) rfl⟩,rfl,trivial⟩<|hR (ch.fs [1,1,4,4,4] rfl).drop.drop.drop ⟨vN,[],o.af,118,#[],#[vP J],hy,gG (by(simp[cu,bI,cP,cM,dV,dN,dU, *];done)) (by(simp[cu,bI,cP,cM,dV,dN,dU, *];done)) (bg (by(simp[cu,bI,cP,cM,dV,dN,dU, *];done))),dP cf (by(simp[cu,bI,cP,cM,dV,dN,dU, *];done)),(by(simp[cu,bI,cP,cM,dV,dN,dU, *];done)),(by(rw[J2 ‹_› ‹_›];exact(.inr ⟨rfl,rfl,rfl,J,rfl,ea⟩))),hz.eq (by(unfold cM dV;simp[*];done)),rfl⟩
 refine At.dw (aS [d8,b6,b8,ca,cb,[(G,Obj.cells oq 39 (0,0))],[(O,Obj.cells lC 168 (0,0))]]) [(1,true),(3,true),(5,true),(2,true),(4,true),(0,false),(6,false),(7,false),(8,true)]<|Op.px 3 [(85,vQ I 1),(87,.func (.func 118) #[] #[vP J]),(89,vI ((eU s.aA o.af o.Data o.ai).2.2))]<|Op.lf 9 85 1 86 1 (vS o.af) (a1.fy 8 [0,2,3,4,5,7,6] rfl rfl rfl) (a1.ag 8 rfl)<|Op.px 1 [(88,.agg #[vS o.af,.func (.func 118) #[] #[vP J]])]<|Op.la 39 6 84 0 6 [vS [],vN,vI 0,vI (-1),vI 0,vI 0] (a1.ag 7 rfl) ?_
 refine Op.sg 39 6 84 0 7 oq a1 (fun _=>⟨(G,Obj.cells oq 39 (0,0)),by simp,rfl⟩) fun kw hA=>Op.sg 168 7 88 0 6 #[vS o.af,.func (.func 118) #[] #[vP J]] hA (fun _=>⟨(O,Obj.cells lC 168 (0,0)),by simp,rfl⟩) fun kx hB=>Op.pg 21 [(8,vI ((eU s.aA o.af o.Data o.ai).2.2))] ?_
 have ci:=aH.zero 5 a_ g none
 obtain⟨eb,ab⟩:=St.freeze (hB.nl.fs [10] rfl)
 have ed:=iK (g:=g) J (.cells #[vP u] 52 (0,0))
 generalize hC:cS g _=hD at eb ab ed;clear hC
 replace ae:=ae.mono ab
 replace am:=am.mono ab
 replace ar:=ar.mono ab
 replace aw:=aw.mono ab
 replace ci:=ci.mono ab
 replace a3:=a3.mono ab
 obtain⟨hE,hF,ck⟩:=St.bF (Q:=b9 hD u (⟨(eU s.aA o.af o.Data o.ai).1,s.aQ,s.aN,s.aE,s.count,s.events,s.aW⟩:Sp)) 6 (eb.fs [6,6,6,6,5,6] rfl) ⟨_,_,_,_,_,_,_,_,_,_,rfl,a3,ae,am,ar,aw⟩
 exact At.rn f94 [.agg oq,.agg #[vS o.af,.func (.func 118) #[] #[vP J]],vI ((eU s.aA o.af o.Data o.ai).2.2)] [.cell 6 39,.cell 7 168,.tmp 8] ⟨⟨_,_,rfl,cq (n:=6) (by kernel_rfl) (ck.ag 3 rfl) (by kernel_rfl) rfl⟩,⟨_,_,rfl,cq (n:=2) (by kernel_rfl) (ck.ag 2 rfl) (by kernel_rfl) rfl⟩,rfl,trivial⟩<|hR (ck.fs [1,1,4,4,4] rfl).drop.drop.drop ⟨vN,[],o.af,118,#[],#[vP J],hE,gG (by(simp[cu,bI,cP,cM,dV,dN,dU, *];done)) (by(simp[cu,bI,cP,cM,dV,dN,dU, *];done)) (bg (by(simp[cu,bI,cP,cM,dV,dN,dU, *];done))),dP ci (by(simp[cu,bI,cP,cM,dV,dN,dU, *];done)),(by(simp[cu,bI,cP,cM,dV,dN,dU, *];done)),(by(rw[J2 ‹_› ‹_›];exact(.inr ⟨rfl,rfl,rfl,J,rfl,ed⟩))),hF.eq (by(unfold cM dV;simp[*];done)),rfl⟩
end Go.Proofs.YtdinkjbfgcfccaaGreatDoor.Sw
