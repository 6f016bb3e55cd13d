/- Lemmas for laws of this seat. -/
import Derived.Test.YtpacclkciilmpaaGreatDoorGBL
set_option maxHeartbeats 4000000
namespace Go.Proofs.YtpacclkciilmpaaGreatDoor.Sw
open Go.Proofs.Tryz
open Go
set_option maxRecDepth 100000
set_option linter.unusedVariables false
set_option linter.unusedSimpArgs false
set_option linter.deprecated false
set_option linter.defProp false
def Jg:=@List.takeWhile_cons_of_neg
def r9:=@List.length_set
def r_:=@List.foldl_append
def C_:=@List.Sublist.filter
def Ag:=@Nat.lt_of_le_of_lt
def Da:=@Nat.succ_le_of_lt
def Db:=@Nat.le_add_right
def Ah:=@Nat.le_of_eq
def fF (g:GH) (b:Nat) (x:Result) (c:au):Prop:=∃v4 v9 u D G,c=(b,.cells #[.int .i64 x.Code,.int .i64 x.bg,.int .i64 x.At,.string (a_ x.af.aa),v4,.int .i64 x.af.ak,.int .i64 x.af.aE,.int .i64 x.af.Next,.int .i64 x.af.aO,v9,D] 59 (0,0))::(u++G)∧ay g 5 bn v4 x.af.Data∧aF 9 ew g v9 x.bF u∧aF 69 cu g D x.aW G
theorem fF.mono {g g':GH} {b:Nat} {x:Result} {c:au} (h:fF g b x c) (hg:aG g g'):fF g' b x c:=by
 obtain⟨v4,v9,u,D,G,e,h0,h1,h2⟩:=h
 exact⟨v4,v9,u,D,G,e,h0.mono hg,h1.mono hg,h2.mono hg⟩
theorem fF.eq {g:GH} {b:Nat} {x y:Result} {c:au} (h:fF g b x c) (e:x=y):fF g b y c:=e▸h
theorem Q2 (B:World) (h:av) (g:GH) (hg:bf g h) (ad:bh g) (V:Value) (l:List Int) (X:ay g 3 (eF .i64) V l) (f:Nat) (q:Int→Bool) (hf:ei prog f) (hq:∀(B:World) (h:av) (g:GH),bf g h→bh g→∀(x:Int),aA prog B f #[.int .i64 x] h g [] (fun v g' L'=>v=.bool (q x)∧g'=g∧L'=[])) (hlen:l.length≤1000000000):
  aA prog B 111 #[V,.func (.func f) #[] #[]] h g [] (fun ae g' L'=>ae=.int .i64 (eC q l)∧g'=g∧L'=[]):=by
 obtain⟨Y,I,rfl⟩:=X.ai
 refine aA.aq func111 fun R hR=>At.go 1 1 []<|At.go 2 3 [(7,vI (l.length:Int)),(8,vI 0)] ?_
 have am:∀(m:Nat) (i:Int) (J:av) (hm:l.length-i.toNat<m) (h0:0≤i) (h1:i≤l.length) (G:findAt q l i) (u:St h g (aM []) g [] J),At (bS prog B 111 f111 R) [] 2 [(0,vL Y l.length I),(1,.func (.func f) #[] #[]),(7,vI (l.length:Int)),(8,vI i)] J:=by
  intro m;induction m with
  |zero=>intros;omega
  |succ m ar=>
   intro i J hm h0 h1 G u
   refine At.go 3 1 [(9,.bool (decide (i<(l.length:Int))))]<|At.fd (i<(l.length:Int)) 9 4 10 (fun a8=>?_) fun aw=>?_
   ·refine At.go 5 2 [(5,vI i)]<|At.rp 6 3 [(11,.func (.func f) #[] #[]),(12,vL Y l.length I),(13,vI i)] ?_
    obtain⟨D,O⟩:=cD l i
    obtain⟨a0,Z,a9,bb,a1,a3,U⟩:=ay.br X _ O
    cases a1
    refine Op.iq 81 3 1 8 l.length I 12 13 14 a0 Z i ?_
    replace U:cut _ _ _=[vI D]:=U
    refine Op.l1 3 14 15 (Z+i.toNat*1) (vI D) (u.sub _ _ a3) ?_ (hv:=cT U 0 rfl)
    refine Op.cv (some 16) 11 #[15] #[3] f #[] #[] [] [] #[vI D] hf (by kernel_rfl) u (hq _ _ _ u.sub ad D) (fun _ _ h=>absurd h (gq _)) ?_
    rintro _ a4 _ bc a5 ab ⟨rfl,bd,rfl⟩;subst a4;clear a5
    refine Op.gt 6<|At.c_ (q D) 16 7 9 (fun a6=>?_) fun a7=>?_
    ·exact At.gr 8 2 4 (vI i) (hR ab ⟨(bp (by exact td G O a6)),rfl,rfl⟩)
    exact At.rg 2<|Op.vq 18 (i+1)<|Op.pg 2 [(8,vI (i+1))] (At.ke (ar (i+1) _ (by omega) (by omega) (by omega) (by exact uL G h0 O a7) ab))
   exact At.gr 11 1 4 (vI (-1)) (hR u ⟨(bp (by exact tf G aw)),rfl,rfl⟩)
 exact At.ke (am _ 0 _ (bK _) (by omega) (by omega) (by exact uK _ _) (St.init hg))
theorem Jh (B:World) (h:av) (g:GH) (hg:bf g h) (u:bh g) (D:Value) (l:List Int) (G:ay g 3 (eF .i64) D l) (f:Nat) (q:Int→Bool) (hf:ei prog f) (hq:∀(B:World) (h:av) (g:GH),bf g h→bh g→∀(x:Int),aA prog B f #[.int .i64 x] h g [] (fun v g' L'=>v=.bool (q x)∧g'=g∧L'=[])) (hlen:l.length≤1000000000):
  aA prog B 69 #[D,.func (.func f) #[] #[]] h g [] (fun J g' L'=>J=.bool (l.any q)∧g'=g∧L'=[]):=by
 obtain⟨O,U,rfl⟩:=G.ai
 refine aA.aq func69 fun R hR=>?_
 have I:=St.init hg
 exact At.go 1 1 []<|At.rp 5 2 [(5,vL O l.length U),(6,.func (.func f) #[] #[])]<|Op.c1 7 (Q2 _ _ _ I.sub u _ _ G f (fun x=>q x) hf (fun B h g hg u x=>hq B h g hg u x) (by(try dsimp only)<;>assumption)) I fun X V=>Op.pr 2 4 (.bool (decide ((eC (fun x=>q x) l)≥0))) (hR V ⟨(aS (by exact uJ _ _)),rfl,rfl⟩)
theorem Q3 (B:World) (h:av) (g:GH) (hg:bf g h) (G:bh g) (v:Int):
  aA prog B 109 #[vI v] h g [] (fun D g' L'=>D=.bool (!iJ v)∧g'=g∧L'=[]):=by
 refine aA.aq func109 fun R hR=>?_
 have u:=St.init hg
 refine At.go 1 1 []<|At.rp 7 3 [(5,.bool (decide (v<0)))]<|Op.wd (v<0) 5 (fun I=>?_) fun J=>?_
 ·exact Op.pr 2 2 vT (hR u ⟨(aS (by exact Qc ‹_›)),rfl,rfl⟩)
 exact Op.pr 2 2 (.bool (decide (v>4611686018427387902))) (hR u ⟨(aS (by exact Qd ‹_›)),rfl,rfl⟩)
theorem Ji (B:World) (h:av) (g:GH) (hg:bf g h) (u:bh g) (D:Value) (list:List Int) (G:ay g 3 (eF .i64) D list) (hlen:list.length≤1000000000):
  aA prog B 66 #[D] h g [] (fun J g' L'=>J=.bool (list.all iJ)∧g'=g∧L'=[]):=by
 obtain⟨O,U,rfl⟩:=G.ai
 refine aA.aq func66 fun R hR=>?_
 have I:=St.init hg
 exact At.go 1 1 []<|At.rp 4 1 [(3,vL O list.length U)]<|Op.c1 4 (Jh _ _ _ I.sub u _ _ G 109 (fun v=>!iJ v) (ei.of (by kernel_rfl)) (fun B h g hg u v=>Q3 B h g hg u v) (by(try dsimp only)<;>omega)) I fun X V=>Op.pr 2 2 (.bool (!(list.any (fun v=>!iJ v)))) (hR V ⟨(aS (by exact Qe _)),rfl,rfl⟩)
theorem Q4 (B:World) (h:av) (g:GH) (hg:bf g h) (be:bh g) (Z:Value) (a:aj) (ab:ay g 5 bn Z a) (ad:Value) (b:aj) (ae:ay g 5 bn ad b) (h1:b.length≤1000000000):
  aA prog B 51 #[Z,ad] h g [] (fun a3 g' L'=>a3=.bool (decide (a=b))∧g'=g∧L'=[]):=by
 obtain⟨am,I,rfl⟩:=ab.ai
 obtain⟨ar,J,rfl⟩:=ae.ai
 refine aA.aq func51 fun R hR=>?_
 have aw:=St.init hg
 refine At.go 1 1 []<|At.go 2 5 [(10,.bool ((a.length:Int) != (b.length:Int)))]<|At.fn ((a.length:Int)=(b.length:Int)) 10 3 5 (fun bi=>?_) fun bj=>?_
 ·exact At.gr 4 1 4 vF (hR aw ⟨(aS (by exact wZ ‹_›)),rfl,rfl⟩)
 refine At.go 6 3 [(12,vI (a.length:Int)),(13,vI 0)] ?_
 have a4:∀(m:Nat) (i:Int) (O:av) (hm:a.length-i.toNat<m) (h0:0≤i) (h2:i≤a.length) (a5:(a.length:Int)=b.length) (ht:a.take i.toNat=b.take i.toNat) (u:St h g (aM []) g [] O),At (bS prog B 51 f51 R) [] 6 [(0,vL am a.length I),(1,vL ar b.length J),(12,vI (a.length:Int)),(13,vI i)] O:=by
  intro m;induction m with
  |zero=>intros;omega
  |succ m a6=>
   intro i O hm h0 h2 a5 ht u
   refine At.go 7 1 [(14,.bool (decide (i<(a.length:Int))))]<|At.fd (i<(a.length:Int)) 14 8 14 (fun bk=>?_) fun bm=>?_
   ·refine At.go 9 2 [(5,vI i)]<|At.dw (fun _=>False) [(0,true),(1,true),(2,true),(4,true),(5,true),(6,true),(3,true),(7,false),(8,true)]<|Op.px 2 [(16,vL am a.length I),(17,vI i)] ?_
    obtain⟨D,U⟩:=cD a i
    obtain⟨a7,a0,bo,bs,a8,a9,V⟩:=ay.br ab _ U
    cases a8
    refine Op.iq 28 5 1 1 a.length I 16 17 18 a7 a0 i ?_
    replace V:cut _ _ _=[.int .u8 (D.toNat:Int)]:=V
    refine Op.px 2 [(20,vL ar b.length J),(21,vI i)] ?_
    obtain⟨G,X⟩:=cD b i
    obtain⟨bb,a1,bt,b3,bc,bd,Y⟩:=ay.br ae _ X
    cases bc
    refine Op.iq 28 5 1 1 b.length J 20 21 22 bb a1 i ?_
    replace Y:cut _ _ _=[.int .u8 (G.toNat:Int)]:=Y
    refine Op.fQ (T:=5) (x:=18) (o:=a0+i.toNat*1) (d:=19) (n:=1) (v:=.int .u8 (D.toNat:Int)) (by kernel_rfl) (by kernel_rfl) (by kernel_rfl) id (u.sub _ _ a9) (cT V 0 rfl)<|Op.l1 5 22 23 (a1+i.toNat*1) (.int .u8 (G.toNat:Int)) (u.sub _ _ bd) ?_ (hv:=cT Y 0 rfl)
    refine Op.pg 10 [(24,.bool ((D.toNat:Int) != (G.toNat:Int)))]<|At.fn ((D.toNat:Int)=(G.toNat:Int)) 24 11 13 (fun b4=>?_) fun b5=>?_
    ·exact At.gr 12 1 4 vF (hR u ⟨(aS (by exact w4 U X (I_ ‹_›))),rfl,rfl⟩)
    exact At.rg 2<|Op.vq 25 (i+1)<|Op.pg 6 [(13,vI (i+1))] (At.ke (a6 (i+1) _ (by omega) (by omega) (by omega) (by omega) (by exact uP ht h0 U X (I9 ‹_›)) u))
   exact At.gr 15 1 4 vT (hR u ⟨(aS (by exact w5 ‹_› ‹_› ht)),rfl,rfl⟩)
 exact At.ke (a4 _ 0 _ (bK _) (by omega) (by omega) (by omega) (by rfl) aw)
abbrev si:Array Value:=#[vS [],vN,vI 0,vI 0,vI 0,vI 0]
abbrev ko:Array Value:=#[vI 0,vI 0,vS []]
abbrev ia:Array Value:=#[vI 0,vI 0,vI 0,vS [],vN,vI 0,vI 0,vI 0,vI 0,vN,vN]
abbrev tP:List Value:=[.agg #[vI 0,vI 0,vI 0,vS [],vN,vI 0,vI 0,vI 0,vI 0,vN,vN],vI 130]
theorem Jj (B:World) (h:av) (g:GH) (hg:bf g h) (D:bh g) (x:Result) (dk:Value) (J:ay g 5 bn dk x.af.Data) (dl:Value) (ad:ay g 9 ew dl x.bF) (dp:Value) (G:ay g 69 cu dp x.aW) (hL:vc x):
  aA prog B 30 #[.agg #[vI x.Code,vI x.bg,vI x.At,vS x.af.aa,dk,vI x.af.ak,vI x.af.aE,vI x.af.Next,vI x.af.aO,dl,dp]] h g [] (fun e6 g' L'=>∃v0,e6=.tuple #[v0,.int .i64 ((dy x).2)]∧ay g' 5 bn v0 ((dy x).1)∧L'=[]):=by
 obtain⟨V,X,rfl⟩:=J.ai
 obtain⟨a3,ae,rfl⟩:=ad.ai
 obtain⟨a4,am,rfl⟩:=G.ai
 refine aA.aq func30 fun R hR=>At.rg 3<|Op.bx 1 59 0 #[vI x.Code,vI x.bg,vI x.At,vS x.af.aa,vL V x.af.Data.length X,vI x.af.ak,vI x.af.aE,vI x.af.Next,vI x.af.aO,vL a3 x.bF.length ae,vL a4 x.aW.length am] (St.init hg) fun O hu dq=>Op.pg 1 []<|At.rp 4 1 [(20,vQ O 3)] ?_
 refine Op.la 56 20 21 3 6 [vS x.af.aa,vL V x.af.Data.length X,vI x.af.ak,vI x.af.aE,vI x.af.Next,vI x.af.aO] (dq.ag 0 rfl)<|Op.al 4 56 si dq fun I hw e7=>Op.sg 56 4 21 0 0 #[vS x.af.aa,vL V x.af.Data.length X,vI x.af.ak,vI x.af.aE,vI x.af.Next,vI x.af.aO] e7 zt fun hx ar=>Op.gt 2 ?_
 have e8:∀(m:Nat) (co:av) (hm:0<m) (hB:kn x=true) (ab:St h g (aM []) g [[(I,Obj.cells #[vS x.af.aa,vL V x.af.Data.length X,vI x.af.ak,vI x.af.aE,vI x.af.Next,vI x.af.aO] 56 (0,0))],[(O,Obj.cells #[vI x.Code,vI x.bg,vI x.At,vS x.af.aa,vL V x.af.Data.length X,vI x.af.ak,vI x.af.aE,vI x.af.Next,vI x.af.aO,vL a3 x.bF.length ae,vL a4 x.aW.length am] 59 (0,0))]] co),At (bS prog B 30 f30 R) [] 6 [(1,vP O),(4,vP I)] co:=by
  intro m;induction m with
  |zero=>intros;omega
  |succ m hy=>
   intro co hm hB ab
   refine At.rp 22 1 [(48,vP O)]<|Op.l1 52 48 49 0 (vI x.Code) (ab.ag 1 rfl)<|Op.px 1 [(50,vQ O 1)]<|Op.l1 3 50 51 1 (vI x.bg) (ab.ag 1 rfl)<|Op.px 1 [(52,vQ O 2)] ?_
   refine Op.l1 3 52 53 2 (vI x.At) (ab.ag 1 rfl)<|Op.px 1 [(54,vQ I 2)]<|Op.l1 3 54 55 2 (vI x.af.ak) (ab.ag 0 rfl)<|Op.px 1 [(56,vQ I 3)]<|Op.l1 3 56 57 3 (vI x.af.aE) (ab.ag 0 rfl) ?_
   refine Op.dQ 58 (x.af.aE+1) (by(have:=CW hB;omega)) (by(have:=CW hB;omega))<|Op.px 1 [(59,vQ I 4)]<|Op.l1 3 59 60 4 (vI x.af.Next) (ab.ag 0 rfl)<|Op.px 1 [(61,vQ I 5)]<|Op.l1 3 61 62 5 (vI x.af.aO) (ab.ag 0 rfl) ?_
   refine Op.ls 63 7 3 #[vI x.Code,vI x.bg,vI x.At,vI x.af.ak,vI (x.af.aE+1),vI x.af.Next,vI x.af.aO] ab fun du hz e9=>?_
   have fa:aF 3 (eF .i64) g (vL (some ⟨du,0,none⟩) 7 7) [x.Code,x.bg,x.At,x.af.ak,x.af.aE+1,x.af.Next,x.af.aO] [(du,Obj.cells #[vI x.Code,vI x.bg,vI x.At,vI x.af.ak,vI (x.af.aE+1),vI x.af.Next,vI x.af.aO] 3 (0,0))]:=aF.lit (by kernel_rfl) (by unfold maxLen;decide) (by kernel_rfl) ⟨_,_,rfl,rfl,⟨_,_,rfl,rfl,⟨_,_,rfl,rfl,⟨_,_,rfl,rfl,⟨_,_,rfl,rfl,⟨_,_,rfl,rfl,⟨_,_,rfl,rfl,Reads.nil⟩⟩⟩⟩⟩⟩⟩
   obtain⟨hA,dv,bj,fg⟩:=aF.freeze fa (e9)
   replace D:=D.mono bj
   replace G:=G.mono bj
   replace J:=J.mono bj
   replace ad:=ad.mono bj
   refine Op.c0 (some 64) (CB _ _ _ dv.sub D _ _ fg (by((try dsimp only)<;>((simp;done))))) dv ?_
   rintro _ dC _ hC bk dE ⟨hD,rfl,Y,rfl⟩
   obtain⟨a6,a7,rfl⟩:=Y.ai
   replace D:=D.mono bk
   replace G:=G.mono bk
   replace J:=J.mono bk
   replace ad:=ad.mono bk
   refine Op.pg 7 [(5,vL a6 (((eD ([x.Code,x.bg,x.At,x.af.ak,x.af.aE+1,x.af.Next,x.af.aO])).1).length) a7)]<|At.go 8 1 [(7,vN)]<|At.rp 4 1 [(67,vQ O 9)]<|Op.l1 57 67 68 9 (vL a3 x.bF.length ae) (dE.ag 1 rfl)<|Op.pg 9 [(69,vI (x.bF.length:Int)),(70,vI 0)] ?_
   have fi:∀(m:Nat) (bm:GH) (aw:aG dC bm) (ns:List aj) (i:Int) (a46:Option Addr) (a8:Nat) (c3:au) (c4:av) (hm:x.bF.length-i.toNat<m) (h0:0≤i) (h1:i≤x.bF.length) (hN:ns=x.bF.take i.toNat) (a9:aF 28 (jC 5 bn) bm (.slice a46 ns.length a8) ns c3) (bo:St h g (aM []) bm [c3,[(I,Obj.cells #[vS x.af.aa,vL V x.af.Data.length X,vI x.af.ak,vI x.af.aE,vI x.af.Next,vI x.af.aO] 56 (0,0))],[(O,Obj.cells #[vI x.Code,vI x.bg,vI x.At,vS x.af.aa,vL V x.af.Data.length X,vI x.af.ak,vI x.af.aE,vI x.af.Next,vI x.af.aO,vL a3 x.bF.length ae,vL a4 x.aW.length am] 59 (0,0))]] c4),At (bS prog B 30 f30 R) [] 9 [(1,vP O),(4,vP I),(5,vL a6 (((eD ([x.Code,x.bg,x.At,x.af.ak,x.af.aE+1,x.af.Next,x.af.aO])).1).length) a7),(7,vL a46 ns.length a8),(68,vL a3 x.bF.length ae),(69,vI (x.bF.length:Int)),(70,vI i)] c4:=by
    intro m;induction m with
    |zero=>intros;omega
    |succ m fj=>
     intro bm aw ns i a46 a8 c3 c4 hm h0 h1 hN a9 bo
     replace D:=D.mono aw
     replace G:=G.mono aw
     replace J:=J.mono aw
     replace ad:=ad.mono aw
     replace Y:=Y.mono aw
     refine At.go 10 1 [(71,.bool (decide (i<(x.bF.length:Int))))]<|At.fd (i<(x.bF.length:Int)) 71 11 14 (fun hE=>?_) fun hF=>?_
     ·refine At.rg 3 ?_
      obtain⟨Z,c5⟩:=cD x.bF i
      obtain⟨fl,dT,hG,hH,fp,fr,c6⟩:=ay.br ad _ c5
      cases fp
      refine Op.iq 57 9 1 16 x.bF.length ae 68 70 72 fl dT i ?_
      replace c6:cut _ _ _=[vS Z]:=c6
      refine Op.l1 9 72 73 (dT+i.toNat*1) (vS Z) (bo.sub _ _ fr) ?_ (hv:=cT c6 0 rfl)
      refine Op.pg 12 [(9,vS Z)]<|At.rp 6 2 [(74,vL a46 ns.length a8),(75,vS Z)]<|Op.toBytes (S:=9) (T:=28) (E:=5) (x:=75) (dst:=76) (l:=Z) (by kernel_rfl) (by kernel_rfl) (by kernel_rfl) (by kernel_rfl) (by kernel_rfl) (by(have:=hL.2.1.2 _ (cL c5);omega)) bo fun dQ hJ hK d0 ft=>?_
      obtain⟨d1,d2,rfl⟩:=d0.ai
      obtain⟨hO,fv,fw,fx⟩:=va.freeze d0 (ft)
      replace a9:=a9.mono fw
      refine Op.ls 77 1 28 #[vL d1 Z.length d2] fv fun hP hQ d3=>Op.ap 74 77 107 107 78 28 24 (jC 5 bn) (ys:=[Z]) a9 d3 1 (⟨_,_,rfl,⟨_,rfl,fx⟩,Reads.nil⟩) (by(have h1:=congrArg List.length hN;have h2:=hL.2.1.1;simp only[dD,bL,cS] at *;omega)) (fun _ _ _=>trivial) (di.lit (m:=1) (sz:=1) (d3.ag 0 rfl) (news:=[vL d1 Z.length d2]) rfl rfl (by simp[Value.oneCell']) _) fun hS hT hV d4 f0 hW=>?_
      obtain⟨f1,f2,rfl⟩:=d4.ai
      exact Op.pg 13 [(7,vL f1 ((ns++([Z])).length) f2)]<|At.rg 2<|Op.dQ 79 (i+1) (by omega) (by(have:=hL.2.1.1;omega))<|Op.pg 9 [(70,vI (i+1))] (At.ke (fj _ (aG.trans aw (by repeat (first|assumption|apply aG.trans))) (ns++([Z])) (i+1) _ _ _ _ (by omega) (by omega) (by omega) (by rw[toNat_succ h0,fu c5,hN]) d4 ((f0).drop)))
     refine At.rp 7 1 [(81,vL a46 ns.length a8)] ?_
     obtain⟨hX,d5,bs,f3⟩:=aF.freeze a9 (bo)
     replace D:=D.mono bs
     replace G:=G.mono bs
     replace J:=J.mono bs
     replace Y:=Y.mono bs
     refine Op.c0 (some 82) (zD _ _ _ d5.sub D _ _ f3 (by((try dsimp only)<;>((have h1:=congrArg List.length hN;have h2:=hL.2.1.1;simp only[dD,bL,cS] at *;omega))))) d5 ?_
     rintro _ hY _ hZ bt c8 ⟨h3,rfl,b3,rfl⟩
     obtain⟨b4,b5,rfl⟩:=b3.ai
     replace D:=D.mono bt
     replace G:=G.mono bt
     replace J:=J.mono bt
     replace Y:=Y.mono bt
     refine Op.pg 15 [(10,vL b4 (((dx ns).1).length) b5),(11,vI ((dx ns).2))]<|At.go 16 2 [(86,.bool (((dx ns).2) != 0))]<|At.fn (((dx ns).2)=0) 86 17 19 (fun h4=>?_) fun h5=>?_
     ·exact At.go 18 2 [(2,vN),(3,vI 130)]<|At.rt pX (hR c8.drop.drop ⟨vN,bM rfl (bp (by(rw[hN,eR (by omega)] at *;rw[II hB ‹_›]))),bP (ay.empty _ _ _ _ _) (by(rw[hN,eR (by omega)] at *;rw[II hB ‹_›])),rfl⟩)
     refine At.rp 9 2 [(87,vL a6 (((eD ([x.Code,x.bg,x.At,x.af.ak,x.af.aE+1,x.af.Next,x.af.aO])).1).length) a7),(88,vP I)]<|Op.l1 9 88 89 0 (vS x.af.aa) (c8.ag 0 rfl)<|Op.toBytes (S:=9) (T:=28) (E:=5) (x:=89) (dst:=90) (l:=x.af.aa) (by kernel_rfl) (by kernel_rfl) (by kernel_rfl) (by kernel_rfl) (by kernel_rfl) (by(have:=hL.1;omega)) c8 fun h6 h7 h8 d6 d7=>?_
     obtain⟨d8,d9,rfl⟩:=d6.ai
     refine Op.px 1 [(91,vQ I 1)]<|Op.l1 28 91 92 1 (vL V x.af.Data.length X) (d7.ag 1 rfl)<|Op.px 1 [(93,vL b4 (((dx ns).1).length) b5)] ?_
     obtain⟨ea,f4,bb,f5⟩:=va.freeze d6 (d7)
     replace D:=D.mono bb
     replace G:=G.mono bb
     replace J:=J.mono bb
     replace Y:=Y.mono bb
     replace b3:=b3.mono bb
     refine Op.ls 94 4 28 #[vL a6 (((eD ([x.Code,x.bg,x.At,x.af.ak,x.af.aE+1,x.af.Next,x.af.aO])).1).length) a7,vL d8 x.af.aa.length d9,vL V x.af.Data.length X,vL b4 (((dx ns).1).length) b5] f4 fun c9 h9 eb=>Op.pg 20 [(12,vL (some ⟨c9,0,none⟩) 4 4)]<|At.rp 4 1 [(95,vQ O 10)]<|Op.l1 42 95 96 10 (vL a4 x.aW.length am) (eb.ag 2 rfl)<|Op.pg 21 [(97,vI (x.aW.length:Int)),(98,vI 0)] ?_
     have f6:∀(m:Nat) (bc:GH) (b6:aG ea bc) (cq:List aj) (q:Int) (bd:Option Addr) (be:Nat) (da:au) (db:av) (hm:x.aW.length-q.toNat<m) (ed:0≤q) (f7:q≤x.aW.length) (hn0:(dx x.bF).2=0) (hI:qL x cq q) (U:aF 28 (jC 5 bn) bc (.slice bd cq.length be) cq da) (b8:St h g (aM []) bc [da,[(I,Obj.cells #[vS x.af.aa,vL V x.af.Data.length X,vI x.af.ak,vI x.af.aE,vI x.af.Next,vI x.af.aO] 56 (0,0))],[(O,Obj.cells #[vI x.Code,vI x.bg,vI x.At,vS x.af.aa,vL V x.af.Data.length X,vI x.af.ak,vI x.af.aE,vI x.af.Next,vI x.af.aO,vL a3 x.bF.length ae,vL a4 x.aW.length am] 59 (0,0))]] db),At (bS prog B 30 f30 R) [] 21 [(12,vL bd cq.length be),(96,vL a4 x.aW.length am),(97,vI (x.aW.length:Int)),(98,vI q)] db:=by
      intro m;induction m with
      |zero=>intros;omega
      |succ m f8=>
       intro bc b6 cq q bd be da db hm ed f7 hn0 hI U b8
       replace D:=D.mono b6
       replace G:=G.mono b6
       refine At.go 22 1 [(99,.bool (decide (q<(x.aW.length:Int))))]<|At.fd (q<(x.aW.length:Int)) 99 23 32 (fun ib=>?_) fun ih=>?_
       ·refine At.rg 4 ?_
        obtain⟨u,a0⟩:=cD x.aW q
        obtain⟨f9,ee,ii,ik,gc,ge,dc⟩:=ay.br G _ a0
        cases gc
        refine Op.iq 42 69 3 32 x.aW.length am 96 98 100 f9 ee q ?_
        replace dc:cut _ _ _=[vI u.Client,vI u.Kind,vS u.aa]:=dc
        refine Op.la 69 100 101 (ee+q.toNat*3) 3 [vI u.Client,vI u.Kind,vS u.aa] (b8.sub _ _ ge) ?_ (hv:=dc)
        refine Op.al 14 69 ko b8 fun bi il gg=>Op.sg 69 14 101 0 0 #[vI u.Client,vI u.Kind,vS u.aa] gg zt fun io dd=>Op.gt 24<|At.rp 11 1 [(103,vP bi)]<|Op.l1 3 103 104 0 (vI u.Client) (dd.ag 0 rfl) ?_
        refine Op.px 1 [(105,vQ bi 1)]<|Op.l1 3 105 106 1 (vI u.Kind) (dd.ag 0 rfl)<|Op.ls 107 2 3 #[vI u.Client,vI u.Kind] dd fun ef ip gk=>?_
        have gn:aF 3 (eF .i64) bc (vL (some ⟨ef,0,none⟩) 2 2) [u.Client,u.Kind] [(ef,Obj.cells #[vI u.Client,vI u.Kind] 3 (0,0))]:=aF.lit (by kernel_rfl) (by unfold maxLen;decide) (by kernel_rfl) ⟨_,_,rfl,rfl,⟨_,_,rfl,rfl,Reads.nil⟩⟩
        obtain⟨is,eh,ej,gs⟩:=aF.freeze gn (gk)
        replace U:=U.mono ej
        replace D:=D.mono ej
        refine Op.c0 (some 108) (CB _ _ _ eh.sub D _ _ gs (by((try dsimp only)<;>((simp;done))))) eh ?_
        rintro _ iv _ i0 em en ⟨v148,rfl,ca,rfl⟩
        obtain⟨cb,n151,rfl⟩:=ca.ai
        replace U:=U.mono em
        replace D:=D.mono em
        refine Op.pg 25 [(15,vL cb (((eD ([u.Client,u.Kind])).1).length) n151)]<|At.rp 11 2 [(112,vL cb (((eD ([u.Client,u.Kind])).1).length) n151),(113,vQ bi 2)]<|Op.l1 9 113 114 2 (vS u.aa) (en.ag 0 rfl)<|Op.toBytes (S:=9) (T:=28) (E:=5) (x:=114) (dst:=115) (l:=u.aa) (by kernel_rfl) (by kernel_rfl) (by kernel_rfl) (by kernel_rfl) (by kernel_rfl) (by(have:=hL.2.2.2 _ (cL a0);omega)) en fun i1 i2 i3 eo g1=>?_
        obtain⟨ep,n160,rfl⟩:=eo.ai
        obtain⟨g2,g3,df,g4⟩:=va.freeze eo (g1)
        replace U:=U.mono df
        replace D:=D.mono df
        replace ca:=ca.mono df
        refine Op.ls 116 2 28 #[vL cb (((eD ([u.Client,u.Kind])).1).length) n151,vL ep u.aa.length n160] g3 fun er i4 g5=>?_
        have g6:aF 28 (jC 5 bn) g2 (vL (some ⟨er,0,none⟩) 2 2) [(eD ([u.Client,u.Kind])).1,u.aa] [(er,Obj.cells #[vL cb (((eD ([u.Client,u.Kind])).1).length) n151,vL ep u.aa.length n160] 28 (0,0))]:=aF.lit (by kernel_rfl) (by unfold maxLen;decide) (by kernel_rfl) ⟨_,_,rfl,⟨_,rfl,ca⟩,⟨_,_,rfl,⟨_,rfl,g4⟩,Reads.nil⟩⟩
        obtain⟨i5,et,ex,g7⟩:=aF.freeze g6 (g5)
        replace U:=U.mono ex
        replace D:=D.mono ex
        refine Op.c0 (some 117) (zD _ _ _ et.sub D _ _ g7 (by((try dsimp only)<;>((simp;done))))) et ?_
        rintro _ g8 _ i6 eA dg ⟨i7,rfl,eB,rfl⟩
        obtain⟨ce,cf,rfl⟩:=eB.ai
        replace U:=U.mono eA
        replace D:=D.mono eA
        refine Op.pg 26 [(17,vL ce (((dx ([(eD ([u.Client,u.Kind])).1,u.aa])).1).length) cf),(18,vI ((dx ([(eD ([u.Client,u.Kind])).1,u.aa])).2))]<|At.rp 11 1 [(120,vP bi)]<|Op.l1 3 120 121 0 (vI u.Client) (dg.ag 0 rfl)<|Op.px 1 [(122,vQ bi 1)]<|Op.l1 3 122 123 1 (vI u.Kind) (dg.ag 0 rfl) ?_
        refine Op.ls 124 2 3 #[vI u.Client,vI u.Kind] dg fun eI i8 ch=>?_
        have g9:aF 3 (eF .i64) g8 (vL (some ⟨eI,0,none⟩) 2 2) [u.Client,u.Kind] [(eI,Obj.cells #[vI u.Client,vI u.Kind] 3 (0,0))]:=aF.lit (by kernel_rfl) (by unfold maxLen;decide) (by kernel_rfl) ⟨_,_,rfl,rfl,⟨_,_,rfl,rfl,Reads.nil⟩⟩
        have ha:=ch.gi
        have hb:=g9.fK ch
        refine Op.le (some 125) 0 ch (Ji _ _ _ ch.ij (D.mono ha) _ _ hb (by((try dsimp only)<;>((simp;done))))) (fun _ _ _ hp=>by obtain⟨_,a1,_⟩:=hp;exact a1) ?_ (hM:=(fun _ _ h=>absurd h (gq _)))
        rintro _ _ i9 dj ⟨rfl,a1,rfl⟩;clear a1
        refine Op.px 2 [(127,.bool (!(([u.Client,u.Kind]).all iJ)))]<|Op.wb (!(([u.Client,u.Kind]).all iJ)) 127 (fun eJ=>?_) fun eK=>?_
        ·replace eJ:=(dm eJ)
         exact Op.pg 27 [(130,vT)]<|At.bX 130 28<|At.go 29 2 [(2,vN),(3,vI 130)]<|At.rt pX (hR dj.drop.drop.drop.drop.drop ⟨vN,bM rfl (bp (by(rw[Ab hB hn0 a0 (IJ ‹_›)]))),bP (ay.empty _ _ _ _ _) (by(rw[Ab hB hn0 a0 (IJ ‹_›)])),rfl⟩)
        replace eK:=(dn eK)
        refine Op.pg 27 [(130,.bool (((dx ([(eD ([u.Client,u.Kind])).1,u.aa])).2) != 0))]<|At.fn (((dx ([(eD ([u.Client,u.Kind])).1,u.aa])).2)=0) 130 28 30 (fun jf=>?_) fun jj=>?_
        ·exact At.go 29 2 [(2,vN),(3,vI 130)]<|At.rt pX (hR dj.drop.drop.drop.drop.drop ⟨vN,bM rfl (bp (by(rw[Ab hB hn0 a0 (IK ‹_›)]))),bP (ay.empty _ _ _ _ _) (by(rw[Ab hB hn0 a0 (IK ‹_›)])),rfl⟩)
        refine At.rp 5 2 [(131,vL bd cq.length be),(132,vL ce (((dx ([(eD ([u.Client,u.Kind])).1,u.aa])).1).length) cf)]<|Op.ls 133 1 28 #[vL ce (((dx ([(eD ([u.Client,u.Kind])).1,u.aa])).1).length) cf] dj fun jn js eL=>Op.ap 131 133 107 107 134 28 24 (jC 5 bn) (ys:=[(dx ([(eD ([u.Client,u.Kind])).1,u.aa])).1]) U eL 3 (⟨_,_,rfl,⟨_,rfl,eB⟩,Reads.nil⟩) (by(have h1:=IG hI hL.2.2.1;simp only[bL,cS];omega)) (fun _ _ _=>trivial) (di.lit (m:=1) (sz:=1) (eL.ag 0 rfl) (news:=[vL ce (((dx ([(eD ([u.Client,u.Kind])).1,u.aa])).1).length) cf]) rfl rfl (by simp[Value.oneCell']) _) fun jt j1 j2 eQ he kc=>?_
        obtain⟨hf,hh,rfl⟩:=eQ.ai
        exact Op.pg 31 [(12,vL hf ((cq++([(dx ([(eD ([u.Client,u.Kind])).1,u.aa])).1])).length) hh)]<|At.rg 2<|Op.dQ 135 (q+1) (by omega) (by(have:=hL.2.2.1;omega))<|Op.pg 21 [(98,vI (q+1))]<|At.ke (f8 _ (aG.trans b6 (by repeat (first|assumption|apply aG.trans))) (cq++([(dx ([(eD ([u.Client,u.Kind])).1,u.aa])).1])) (q+1) _ _ _ _ (by omega) (by omega) (by omega) (by omega) (by exact Qg hI ed a0 ‹_› ‹_›) eQ (((he).drop).drop.drop))
       refine At.rp 7 1 [(137,vL bd cq.length be)] ?_
       obtain⟨kd,eT,hj,hl⟩:=aF.freeze U (b8)
       replace D:=D.mono hj
       refine Op.c0 (some 138) (zD _ _ _ eT.sub D _ _ hl (by((try dsimp only)<;>((have h1:=IG hI hL.2.2.1;omega))))) eT ?_
       rintro _ kh _ kk kl e1 ⟨km,rfl,e2,rfl⟩
       obtain⟨ci,n217,rfl⟩:=e2.ai
       refine Op.pg 33 [(11,vI ((dx cq).2)),(19,vL ci (((dx cq).1).length) n217)]<|At.go 34 2 [(142,.bool (((dx cq).2) != 0))]<|At.fn (((dx cq).2)=0) 142 35 37 (fun kv=>?_) fun kw=>?_
       ·exact At.go 36 2 [(2,vN),(3,vI 130)]<|At.rt pX (hR e1.drop.drop ⟨vN,bM rfl (bp (by(rw[IM hB hn0 hI (by omega) ‹_›]))),bP (ay.empty _ _ _ _ _) (by(rw[IM hB hn0 hI (by omega) ‹_›])),rfl⟩)
       exact At.go 38 3 [(2,vL ci (((dx cq).1).length) n217),(3,vI 0)]<|At.rt (.tuple #[vL ci (((dx cq).1).length) n217,vI 0]) (hR e1.drop.drop ⟨(vL ci (((dx cq).1).length) n217),bM rfl (bp (by(rw[IN hB hn0 hI (by omega) ‹_›]))),bP e2 (by(rw[IN hB hn0 hI (by omega) ‹_›])),rfl⟩)
     have hn:aF 28 (jC 5 bn) ea (vL (some ⟨c9,0,none⟩) 4 4) [(eD ([x.Code,x.bg,x.At,x.af.ak,x.af.aE+1,x.af.Next,x.af.aO])).1,x.af.aa,x.af.Data,(dx ns).1] [(c9,Obj.cells #[vL a6 (((eD ([x.Code,x.bg,x.At,x.af.ak,x.af.aE+1,x.af.Next,x.af.aO])).1).length) a7,vL d8 x.af.aa.length d9,vL V x.af.Data.length X,vL b4 (((dx ns).1).length) b5] 28 (0,0))]:=aF.lit (by kernel_rfl) (by unfold maxLen;decide) (by kernel_rfl) ⟨_,_,rfl,⟨_,rfl,Y⟩,⟨_,_,rfl,⟨_,rfl,f5⟩,⟨_,_,rfl,⟨_,rfl,J⟩,⟨_,_,rfl,⟨_,rfl,b3⟩,Reads.nil⟩⟩⟩⟩
     exact At.ke (f6 _ _ (aG.refl _) ([(eD ([x.Code,x.bg,x.At,x.af.ak,x.af.aE+1,x.af.Next,x.af.aO])).1,x.af.aa,x.af.Data,(dx ns).1]) 0 _ _ _ _ (bK _) (by omega) (by omega) (by(rw[hN,eR (by omega)] at *;assumption)) (by(rw[hN,eR (by omega)];exact Qf x)) hn eb)
   have ho:=aF.zero 28 (jC 5 bn) dC none
   exact At.ke (fi _ _ (aG.refl _) [] 0 _ _ _ _ (bK _) (by omega) (by omega) (by rfl) ho dE.nl)
 refine At.rp 25 1 [(22,vP O)]<|Op.l1 52 22 23 0 (vI x.Code) (ar.ag 1 rfl)<|Op.px 1 [(24,vQ O 1)]<|Op.l1 3 24 25 1 (vI x.bg) (ar.ag 1 rfl)<|Op.px 1 [(26,vQ O 2)] ?_
 refine Op.l1 3 26 27 2 (vI x.At) (ar.ag 1 rfl)<|Op.px 1 [(28,vQ I 2)]<|Op.l1 3 28 29 2 (vI x.af.ak) (ar.ag 0 rfl)<|Op.px 1 [(30,vQ I 4)]<|Op.l1 3 30 31 4 (vI x.af.Next) (ar.ag 0 rfl) ?_
 refine Op.px 1 [(32,vQ I 5)]<|Op.l1 3 32 33 5 (vI x.af.aO) (ar.ag 0 rfl)<|Op.ls 34 6 3 #[vI x.Code,vI x.bg,vI x.At,vI x.af.ak,vI x.af.Next,vI x.af.aO] ar fun e3 kx ck=>?_
 have hq:aF 3 (eF .i64) g (vL (some ⟨e3,0,none⟩) 6 6) [x.Code,x.bg,x.At,x.af.ak,x.af.Next,x.af.aO] [(e3,Obj.cells #[vI x.Code,vI x.bg,vI x.At,vI x.af.ak,vI x.af.Next,vI x.af.aO] 3 (0,0))]:=aF.lit (by kernel_rfl) (by unfold maxLen;decide) (by kernel_rfl) ⟨_,_,rfl,rfl,⟨_,_,rfl,rfl,⟨_,_,rfl,rfl,⟨_,_,rfl,rfl,⟨_,_,rfl,rfl,⟨_,_,rfl,rfl,Reads.nil⟩⟩⟩⟩⟩⟩
 have hr:=ck.gi
 have hs:=hq.fK ck
 refine Op.le (some 35) 0 ck (Ji _ _ _ ck.ij (D.mono hr) _ _ hs (by((try dsimp only)<;>((simp;done))))) (fun _ _ _ hp=>by obtain⟨_,a1,_⟩:=hp;exact a1) ?_ (hM:=(fun _ _ h=>absurd h (gq _)))
 rintro _ _ kA a5 ⟨rfl,a1,rfl⟩;clear a1
 refine Op.px 2 [(37,.bool (!(([x.Code,x.bg,x.At,x.af.ak,x.af.Next,x.af.aO]).all iJ)))]<|Op.wb (!(([x.Code,x.bg,x.At,x.af.ak,x.af.Next,x.af.aO]).all iJ)) 37 (fun e4=>?_) fun e5=>?_
 ·replace e4:=(dm e4)
  exact Op.pg 3 [(46,vT)]<|At.bX 46 4<|At.go 5 2 [(2,vN),(3,vI 130)]<|At.rt pX (hR a5.drop.drop.drop ⟨vN,bM rfl (bp (by(rw[vf (IQ ‹_›)]))),bP (ay.empty _ _ _ _ _) (by(rw[vf (IQ ‹_›)])),rfl⟩)
 replace e5:=(dn e5)
 refine Op.px 1 [(38,vQ I 3)]<|Op.l1 3 38 39 3 (vI x.af.aE) (a5.ag 1 rfl)<|Op.px 3 [(42,.bool (decide (x.af.aE<((-1):Int))))]<|Op.wd (x.af.aE<((-1):Int)) 42 (fun k0=>?_) fun k1=>?_
 ·exact Op.pg 3 [(46,vT)]<|At.bX 46 4<|At.go 5 2 [(2,vN),(3,vI 130)]<|At.rt pX (hR a5.drop.drop.drop ⟨vN,bM rfl (bp (by(rw[vf (Ac (.inl ‹_›))]))),bP (ay.empty _ _ _ _ _) (by(rw[vf (Ac (.inl ‹_›))])),rfl⟩)
 refine Op.px 1 [(43,vQ I 3)]<|Op.l1 3 43 44 3 (vI x.af.aE) (a5.ag 1 rfl)<|Op.pg 3 [(46,.bool (decide (x.af.aE>4611686018427387902)))]<|At.fd (x.af.aE>4611686018427387902) 46 4 6 (fun k2=>?_) fun k3=>?_
 ·exact At.go 5 2 [(2,vN),(3,vI 130)]<|At.rt pX (hR a5.drop.drop.drop ⟨vN,bM rfl (bp (by(rw[vf (Ac (.inr ‹_›))]))),bP (ay.empty _ _ _ _ _) (by(rw[vf (Ac (.inr ‹_›))])),rfl⟩)
 exact At.ke (e8 _ _ (bK _) (by exact IP ‹_› ‹_› ‹_›) a5.drop)
theorem Q5 (B:World) (h:av) (g:GH) (hg:bf g h) (ad:bh g) (a8:Value) (b:aj) (a9:ay g 5 bn a8 b) (hl:b.length≤1000000000):
  aA prog B 50 #[a8] h g [] (fun b6 g' L'=>b6=.tuple #[.agg #[.int .i64 (((ez b).1).Client),.int .i64 (((ez b).1).Kind),.string (a_ (((ez b).1).aa))],.bool ((ez b).2)]∧L'=[]):=by
 obtain⟨b8,ca,rfl⟩:=a9.ai
 refine aA.aq func50 fun R hR=>At.rg 2<|Op.al 2 69 ko (St.init hg) fun c9 da bb=>Op.pg 1 []<|At.rp 7 1 [(9,vL b8 b.length ca)] ?_
 refine Op.c0 (some 10) (zE _ _ _ bb.sub ad _ _ a9 (by(try dsimp only)<;>omega)) bb ?_
 rintro _ db _ dc cb I ⟨dd,rfl,J,rfl⟩
 obtain⟨bc,O,rfl⟩:=J.ai
 replace ad:=ad.mono cb
 refine Op.pg 2 [(4,vL bc (((aT b).1).length) O),(5,vI ((aT b).2))]<|At.rp 7 3 [(15,.bool (((aT b).2) != 0))]<|Op.wb (((aT b).2) != 0) 15 (fun bd=>?_) fun be=>?_
 ·replace bd:=jO bd
  refine Op.pg 3 [(19,vT)]<|At.bX 19 4<|At.rp 3 1 [(20,.agg ko)]<|Op.sg 69 2 20 0 0 ko I zt fun df bi=>Op.pg 5 [(3,vF)] ?_
  exact At.rn f50 [.agg ko,vF] [.cell 2 69,.tmp 3] ⟨⟨_,_,rfl,dB (n:=3) (by kernel_rfl) (bi.ag 0 rfl) (by kernel_rfl) rfl⟩,rfl,trivial⟩ (hR bi.drop ⟨bM (by(rw[IS ‹_›];done)) (aS (by(rw[IS ‹_›];done))),rfl⟩)
 replace be:=l6 be
 refine Op.pg 3 [(19,.bool ((((aT b).1).length:Int) != 2))]<|At.fn ((((aT b).1).length:Int)=2) 19 4 6 (fun dg=>?_) fun dj=>?_
 ·exact At.rp 3 1 [(20,.agg ko)]<|Op.sg 69 2 20 0 0 ko I zt fun dk bj=>Op.pg 5 [(3,vF)]<|At.rn f50 [.agg ko,vF] [.cell 2 69,.tmp 3] ⟨⟨_,_,rfl,dB (n:=3) (by kernel_rfl) (bj.ag 0 rfl) (by kernel_rfl) rfl⟩,rfl,trivial⟩ (hR bj.drop ⟨bM (by(rw[IT ‹_›];done)) (aS (by(rw[IT ‹_›];done))),rfl⟩)
 refine At.rp 9 1 [(22,vL bc (((aT b).1).length) O)] ?_
 obtain⟨u,D⟩:=cD ((aT b).1) 0
 obtain⟨ae,U,dl,dp,ce,am,ar⟩:=ay.br J _ D
 cases ce
 refine Op.iq 107 28 1 24 (((aT b).1).length) O 22 (.const (vI 0)) 23 ae U 0 ?_
 obtain⟨dq,ar,bk⟩:=ar
 obtain⟨cf,ch,rfl⟩:=bk.ai
 refine Op.l1 28 23 24 (U+(0:Int).toNat*1) (vL cf u.length ch) (I.sub _ _ am) ?_ (hv:=cT ar 0 rfl)
 refine Op.c0 (some 25) (Aa _ _ _ I.sub ad _ _ bk 2 (by((try dsimp only)<;>((have:=xC D;omega))))) I ?_
 rintro _ du _ dv bm G ⟨dC,rfl,aw,rfl⟩
 obtain⟨bo,V,rfl⟩:=aw.ai
 replace am:=bm _ _ am
 replace J:=J.mono bm
 refine Op.pg 7 [(6,vL bo (((bH u).1).length) V),(7,.bool (gK u 2))]<|At.go 8 2 [(29,.bool (!(gK u 2)))]<|At.c_ (!(gK u 2)) 29 9 11 (fun bs=>?_) fun bt=>?_
 ·replace bs:=(dm bs)
  exact At.rp 3 1 [(30,.agg ko)]<|Op.sg 69 2 30 0 0 ko G zt fun dE b3=>Op.pg 10 [(3,vF)]<|At.rn f50 [.agg ko,vF] [.cell 2 69,.tmp 3] ⟨⟨_,_,rfl,dB (n:=3) (by kernel_rfl) (b3.ag 0 rfl) (by kernel_rfl) rfl⟩,rfl,trivial⟩ (hR b3.drop ⟨bM (by(rw[IU D ‹_›];done)) (aS (by(rw[IU D ‹_›];done))),rfl⟩)
 replace bt:=(dn bt)
 refine At.dw (fun _=>False) [(0,true),(1,true),(3,true),(4,true),(6,true),(7,true),(2,true),(5,true),(8,false),(9,true),(10,true),(1011,false),(11,false),(12,true)]<|Op.px 1 [(31,vL bo (((bH u).1).length) V)] ?_
 obtain⟨X,a0⟩:=j6 (l:=(bH u).1) (i:=0) (by(have:=fE ‹_›;omega))
 obtain⟨a1,Y,dT,d0,ci,ck,a3⟩:=ay.br aw _ a0
 cases ci
 refine Op.ix 81 3 1 8 (((bH u).1).length) V 31 (.const (vI 0)) 32 a1 Y 0 (by omega) (by(have:=fE ‹_›;omega)) ?_
 replace a3:cut _ _ _=[vI X]:=a3
 refine Op.px 1 [(34,vL (some ⟨a1,Y,none⟩) (((bH u).1).length) V)] ?_
 obtain⟨Z,a4⟩:=j6 (l:=(bH u).1) (i:=1) (by(have:=fE ‹_›;omega))
 obtain⟨d1,d2,d3,d4,co,c3,a5⟩:=ay.br aw _ a4
 cases co
 refine Op.ix 81 3 1 8 (((bH u).1).length) V 34 (.const (vI 1)) 35 a1 Y 1 (by omega) (by(have:=fE ‹_›;omega)) ?_
 replace a5:cut _ _ _=[vI Z]:=a5
 refine Op.px 1 [(37,vL (some ⟨ae,U,none⟩) (((aT b).1).length) O)] ?_
 obtain⟨ab,a6⟩:=cD ((aT b).1) 1
 obtain⟨d5,d6,d7,d8,c4,c5,a7⟩:=ay.br J _ a6
 cases c4
 refine Op.iq 107 28 1 24 (((aT b).1).length) O 37 (.const (vI 1)) 38 ae U 1 ?_
 obtain⟨d9,a7,b4⟩:=a7
 obtain⟨c6,c8,rfl⟩:=b4.ai
 refine Op.fQ (T:=3) (x:=32) (o:=Y+(0:Int).toNat*1) (d:=33) (n:=1) (v:=vI X) (by kernel_rfl) (by kernel_rfl) (by kernel_rfl) id (G.sub _ _ ck) (cT a3 0 rfl)<|Op.fQ (T:=3) (x:=35) (o:=Y+(1:Int).toNat*1) (d:=36) (n:=1) (v:=vI Z) (by kernel_rfl) (by kernel_rfl) (by kernel_rfl) id (G.sub _ _ c3) (cT a5 0 rfl)<|Op.l1 28 38 39 (U+(1:Int).toNat*1) (vL c6 ab.length c8) (G.sub _ _ c5) ?_ (hv:=cT a7 0 rfl)
 refine Op.yI (T:=28) (S:=9) (E:=5) (x:=39) (dst:=40) (l:=ab) (by kernel_rfl) (by kernel_rfl) (by kernel_rfl) (by kernel_rfl) (by kernel_rfl) b4 G.sub (fun _ _ _ h=>h)<|Op.px 1 [(41,.agg #[vI X,vI Z,vS ab])]<|Op.ba<|Op.sg 69 2 41 0 0 #[vI X,vI Z,vS ab] G zt fun ea b5=>Op.pg 12 [(3,vT)] ?_
 exact At.rn f50 [.agg #[vI X,vI Z,vS ab],vT] [.cell 2 69,.tmp 3] ⟨⟨_,_,rfl,dB (n:=3) (by kernel_rfl) (b5.ag 0 rfl) (by kernel_rfl) rfl⟩,rfl,trivial⟩ (hR b5.drop ⟨bM (by(rw[IV ‹_› ‹_› D ‹_› a0 a4 a6];done)) (aS (by(rw[IV ‹_› ‹_› D ‹_› a0 a4 a6];done))),rfl⟩)
theorem Dc (B:World) (h:av) (g:GH) (hg:bf g h) (O:bh g) (em:Value) (b:aj) (V:ay g 5 bn em b) (hl:b.length≤1000000000):
  aA prog B 18 #[em] h g [] (fun he g' L'=>∃v0 v1 v2,he=.tuple #[.agg #[.int .i64 (((aY b).1).Code),.int .i64 (((aY b).1).bg),.int .i64 (((aY b).1).At),.string (a_ (((aY b).1).af.aa)),v0,.int .i64 (((aY b).1).af.ak),.int .i64 (((aY b).1).af.aE),.int .i64 (((aY b).1).af.Next),.int .i64 (((aY b).1).af.aO),v1,v2],.int .i64 ((aY b).2)]∧ay g' 5 bn v0 (((aY b).1).af.Data)∧ay g' 9 ew v1 (((aY b).1).bF)∧ay g' 69 cu v2 (((aY b).1).aW)∧L'=[]):=by
 obtain⟨cb,ce,rfl⟩:=V.ai
 refine aA.aq func18 fun R hR=>At.rg 2<|Op.al 2 59 ia (St.init hg) fun cf kv en=>Op.pg 1 []<|At.rp 7 1 [(19,vL cb b.length ce)] ?_
 refine Op.c0 (some 20) (zE _ _ _ en.sub O _ _ V (by(try dsimp only)<;>omega)) en ?_
 rintro _ kw _ kx eo bk ⟨kA,rfl,ae,rfl⟩
 obtain⟨ep,am,rfl⟩:=ae.ai
 replace O:=O.mono eo
 replace V:=V.mono eo
 refine Op.pg 2 [(4,vL ep (((aT b).1).length) am),(5,vI ((aT b).2))]<|At.rp 7 3 [(25,.bool (((aT b).2) != 0))]<|Op.wb (((aT b).2) != 0) 25 (fun er=>?_) fun et=>?_
 ·replace er:=jO er
  refine Op.pg 3 [(29,vT)]<|At.bX 29 4<|At.rp 3 1 [(30,.agg ia)]<|Op.sg 59 2 30 0 0 ia bk zt fun k0 ex=>Op.pg 5 [(3,vI 130)] ?_
  exact At.rn f18 tP [.cell 2 59,.tmp 3] ⟨⟨_,_,rfl,dB (n:=11) (by kernel_rfl) (ex.ag 0 rfl) (by kernel_rfl) rfl⟩,rfl,trivial⟩ (hR ex.drop ⟨vN,vN,vN,bM (by(rw[jW (hr_1 ‹_›)];rfl)) (bp (by(rw[jW (hr_1 ‹_›)];done))),bP (ay.empty _ _ _ _ _) (by(rw[jW (hr_1 ‹_›)];rfl)),bP (ay.empty _ _ _ _ _) (by(rw[jW (hr_1 ‹_›)];rfl)),bP (ay.empty _ _ _ _ _) (by(rw[jW (hr_1 ‹_›)];rfl)),rfl⟩)
 replace et:=l6 et
 refine Op.pg 3 [(29,.bool (decide ((((aT b).1).length:Int)<4)))]<|At.fd ((((aT b).1).length:Int)<4) 29 4 6 (fun k1=>?_) fun k2=>?_
 ·exact At.rp 3 1 [(30,.agg ia)]<|Op.sg 59 2 30 0 0 ia bk zt fun k3 eA=>Op.pg 5 [(3,vI 130)]<|At.rn f18 tP [.cell 2 59,.tmp 3] ⟨⟨_,_,rfl,dB (n:=11) (by kernel_rfl) (eA.ag 0 rfl) (by kernel_rfl) rfl⟩,rfl,trivial⟩ (hR eA.drop ⟨vN,vN,vN,bM (by(rw[jW (hr_2 ‹_›)];rfl)) (bp (by(rw[jW (hr_2 ‹_›)];done))),bP (ay.empty _ _ _ _ _) (by(rw[jW (hr_2 ‹_›)];rfl)),bP (ay.empty _ _ _ _ _) (by(rw[jW (hr_2 ‹_›)];rfl)),bP (ay.empty _ _ _ _ _) (by(rw[jW (hr_2 ‹_›)];rfl)),rfl⟩)
 refine At.rp 9 1 [(32,vL ep (((aT b).1).length) am)] ?_
 obtain⟨D,I⟩:=cD ((aT b).1) 0
 obtain⟨a0,Z,k4,k5,hf,dc,dd⟩:=ay.br ae _ I
 cases hf
 refine Op.iq 107 28 1 24 (((aT b).1).length) am 32 (.const (vI 0)) 33 a0 Z 0 ?_
 obtain⟨k6,dd,eB⟩:=dd
 obtain⟨hh,hj,rfl⟩:=eB.ai
 refine Op.l1 28 33 34 (Z+(0:Int).toNat*1) (vL hh D.length hj) (bk.sub _ _ dc) ?_ (hv:=cT dd 0 rfl)
 refine Op.c0 (some 35) (Aa _ _ _ bk.sub O _ _ eB 7 (by((try dsimp only)<;>((have:=xC I;omega))))) bk ?_
 rintro _ k7 _ k8 ch df ⟨lb,rfl,a1,rfl⟩
 obtain⟨eI,Y,rfl⟩:=a1.ai
 replace dc:=ch _ _ dc
 replace O:=O.mono ch
 replace V:=V.mono ch
 replace ae:=ae.mono ch
 refine Op.pg 7 [(6,vL eI (((bH D).1).length) Y),(7,.bool (gK D 7))]<|At.rp 9 1 [(39,vL (some ⟨a0,Z,none⟩) (((aT b).1).length) am)] ?_
 obtain⟨X,J⟩:=cD ((aT b).1) 3
 obtain⟨lc,lh,li,lj,hn,dg,dj⟩:=ay.br ae _ J
 cases hn
 refine Op.iq 107 28 1 24 (((aT b).1).length) am 39 (.const (vI 3)) 40 a0 Z 3 ?_
 obtain⟨lk,dj,eJ⟩:=dj
 obtain⟨ho,hp,rfl⟩:=eJ.ai
 refine Op.l1 28 40 41 (Z+(3:Int).toNat*1) (vL ho X.length hp) (df.sub _ _ dg) ?_ (hv:=cT dj 0 rfl)
 refine Op.c0 (some 42) (zE _ _ _ df.sub O _ _ eJ (by((try dsimp only)<;>((have:=xC J;omega))))) df ?_
 rintro _ ci _ ll bm ab ⟨v75,rfl,ck,rfl⟩
 obtain⟨dk,co,rfl⟩:=ck.ai
 replace dg:=bm _ _ dg
 replace O:=O.mono bm
 replace V:=V.mono bm
 replace ae:=ae.mono bm
 replace a1:=a1.mono bm
 refine Op.pg 8 [(5,vI ((aT X).2)),(8,vL dk (((aT X).1).length) co)]<|At.rp 6 3 [(47,.bool (!(gK D 7)))]<|Op.wb (!(gK D 7)) 47 (fun eK=>?_) fun eL=>?_
 ·replace eK:=(dm eK)
  refine Op.pg 9 [(50,vT)]<|At.bX 50 10<|At.rp 3 1 [(51,.agg ia)]<|Op.sg 59 2 51 0 0 ia ab zt fun lm eQ=>Op.pg 11 [(3,vI 130)] ?_
  exact At.rn f18 tP [.cell 2 59,.tmp 3] ⟨⟨_,_,rfl,dB (n:=11) (by kernel_rfl) (eQ.ag 0 rfl) (by kernel_rfl) rfl⟩,rfl,trivial⟩ (hR eQ.drop ⟨vN,vN,vN,bM (by(rw[jW (xG I ‹_›)];rfl)) (bp (by(rw[jW (xG I ‹_›)];done))),bP (ay.empty _ _ _ _ _) (by(rw[jW (xG I ‹_›)];rfl)),bP (ay.empty _ _ _ _ _) (by(rw[jW (xG I ‹_›)];rfl)),bP (ay.empty _ _ _ _ _) (by(rw[jW (xG I ‹_›)];rfl)),rfl⟩)
 replace eL:=(dn eL)
 refine Op.pg 9 [(50,.bool (((aT X).2) != 0))]<|At.fn (((aT X).2)=0) 50 10 12 (fun ln=>?_) fun lr=>?_
 ·exact At.rp 3 1 [(51,.agg ia)]<|Op.sg 59 2 51 0 0 ia ab zt fun lv eT=>Op.pg 11 [(3,vI 130)]<|At.rn f18 tP [.cell 2 59,.tmp 3] ⟨⟨_,_,rfl,dB (n:=11) (by kernel_rfl) (eT.ag 0 rfl) (by kernel_rfl) rfl⟩,rfl,trivial⟩ (hR eT.drop ⟨vN,vN,vN,bM (by(rw[jW (hr_4 J ‹_›)];rfl)) (bp (by(rw[jW (hr_4 J ‹_›)];done))),bP (ay.empty _ _ _ _ _) (by(rw[jW (hr_4 J ‹_›)];rfl)),bP (ay.empty _ _ _ _ _) (by(rw[jW (hr_4 J ‹_›)];rfl)),bP (ay.empty _ _ _ _ _) (by(rw[jW (hr_4 J ‹_›)];rfl)),rfl⟩)
 refine At.dw (fun _=>False) [(0,true),(1,true),(3,true),(4,true),(6,true),(7,true),(9,true),(10,true),(12,true),(13,true),(16,true),(17,true),(19,true),(20,true),(22,true),(23,true),(26,true),(27,true),(2,true),(5,true),(8,true),(11,true),(14,true),(15,true),(18,true),(21,true),(24,true),(25,true),(28,true),(29,true),(30,true),(31,false),(1032,false),(32,false)]<|Op.px 1 [(52,vL eI (((bH D).1).length) Y)] ?_
 obtain⟨a6,e1⟩:=j6 (l:=(bH D).1) (i:=0) (by(have:=fE ‹_›;omega))
 obtain⟨ad,U,lw,lx,hq,hr,dl⟩:=ay.br a1 _ e1
 cases hq
 refine Op.ix 81 3 1 8 (((bH D).1).length) Y 52 (.const (vI 0)) 53 ad U 0 (by omega) (by(have:=fE ‹_›;omega)) ?_
 replace dl:cut _ _ _=[vI a6]:=dl
 refine Op.px 1 [(55,vL (some ⟨ad,U,none⟩) (((bH D).1).length) Y)] ?_
 obtain⟨a7,e2⟩:=j6 (l:=(bH D).1) (i:=1) (by(have:=fE ‹_›;omega))
 obtain⟨ly,lA,lL,lO,hs,hu,dp⟩:=ay.br a1 _ e2
 cases hs
 refine Op.ix 81 3 1 8 (((bH D).1).length) Y 55 (.const (vI 1)) 56 ad U 1 (by omega) (by(have:=fE ‹_›;omega)) ?_
 replace dp:cut _ _ _=[vI a7]:=dp
 refine Op.px 1 [(58,vL (some ⟨ad,U,none⟩) (((bH D).1).length) Y)] ?_
 obtain⟨a8,e3⟩:=j6 (l:=(bH D).1) (i:=2) (by(have:=fE ‹_›;omega))
 obtain⟨l0,l2,l3,l4,hw,hx,dq⟩:=ay.br a1 _ e3
 cases hw
 refine Op.ix 81 3 1 8 (((bH D).1).length) Y 58 (.const (vI 2)) 59 ad U 2 (by omega) (by(have:=fE ‹_›;omega)) ?_
 replace dq:cut _ _ _=[vI a8]:=dq
 refine Op.px 1 [(61,vL (some ⟨ad,U,none⟩) (((bH D).1).length) Y)] ?_
 obtain⟨a9,e4⟩:=j6 (l:=(bH D).1) (i:=3) (by(have:=fE ‹_›;omega))
 obtain⟨l8,ma,md,mf,hy,hz,du⟩:=ay.br a1 _ e4
 cases hy
 refine Op.ix 81 3 1 8 (((bH D).1).length) Y 61 (.const (vI 3)) 62 ad U 3 (by omega) (by(have:=fE ‹_›;omega)) ?_
 replace du:cut _ _ _=[vI a9]:=du
 refine Op.px 1 [(64,vL (some ⟨ad,U,none⟩) (((bH D).1).length) Y)] ?_
 obtain⟨a5,c3⟩:=j6 (l:=(bH D).1) (i:=4) (by(have:=fE ‹_›;omega))
 obtain⟨mi,ml,mp,mx,hA,hB,dv⟩:=ay.br a1 _ c3
 cases hA
 refine Op.ix 81 3 1 8 (((bH D).1).length) Y 64 (.const (vI 4)) 65 ad U 4 (by omega) (by(have:=fE ‹_›;omega)) ?_
 replace dv:cut _ _ _=[vI a5]:=dv
 refine Op.px 1 [(68,vL (some ⟨ad,U,none⟩) (((bH D).1).length) Y)] ?_
 obtain⟨bb,e5⟩:=j6 (l:=(bH D).1) (i:=5) (by(have:=fE ‹_›;omega))
 obtain⟨my,m0,m1,m2,hC,hD,dC⟩:=ay.br a1 _ e5
 cases hC
 refine Op.ix 81 3 1 8 (((bH D).1).length) Y 68 (.const (vI 5)) 69 ad U 5 (by omega) (by(have:=fE ‹_›;omega)) ?_
 replace dC:cut _ _ _=[vI bb]:=dC
 refine Op.px 1 [(71,vL (some ⟨ad,U,none⟩) (((bH D).1).length) Y)] ?_
 obtain⟨bc,e6⟩:=j6 (l:=(bH D).1) (i:=6) (by(have:=fE ‹_›;omega))
 obtain⟨m3,m4,m5,m6,hF,hG,dE⟩:=ay.br a1 _ e6
 cases hF
 refine Op.ix 81 3 1 8 (((bH D).1).length) Y 71 (.const (vI 6)) 72 ad U 6 (by omega) (by(have:=fE ‹_›;omega)) ?_
 replace dE:cut _ _ _=[vI bc]:=dE
 refine Op.px 1 [(74,vL (some ⟨a0,Z,none⟩) (((aT b).1).length) am)] ?_
 obtain⟨bd,e7⟩:=cD ((aT b).1) 1
 obtain⟨m7,m8,m9,na,hI,hJ,dT⟩:=ay.br ae _ e7
 cases hI
 refine Op.iq 107 28 1 24 (((aT b).1).length) am 74 (.const (vI 1)) 75 a0 Z 1 ?_
 obtain⟨nb,dT,e8⟩:=dT
 obtain⟨hK,hL,rfl⟩:=e8.ai
 refine Op.px 1 [(78,vL (some ⟨a0,Z,none⟩) (((aT b).1).length) am)] ?_
 obtain⟨bo,e9⟩:=cD ((aT b).1) 2
 obtain⟨nd,nf,nm,nn,hO,hP,d0⟩:=ay.br ae _ e9
 cases hO
 refine Op.iq 107 28 1 24 (((aT b).1).length) am 78 (.const (vI 2)) 79 a0 Z 2 ?_
 obtain⟨no,d0,fa⟩:=d0
 obtain⟨d1,d2,rfl⟩:=fa.ai
 refine Op.fQ (T:=3) (x:=53) (o:=U+(0:Int).toNat*1) (d:=54) (n:=1) (v:=vI a6) (by kernel_rfl) (by kernel_rfl) (by kernel_rfl) id (ab.sub _ _ hr) (cT dl 0 rfl)<|Op.fQ (T:=3) (x:=56) (o:=U+(1:Int).toNat*1) (d:=57) (n:=1) (v:=vI a7) (by kernel_rfl) (by kernel_rfl) (by kernel_rfl) id (ab.sub _ _ hu) (cT dp 0 rfl)<|Op.fQ (T:=3) (x:=59) (o:=U+(2:Int).toNat*1) (d:=60) (n:=1) (v:=vI a8) (by kernel_rfl) (by kernel_rfl) (by kernel_rfl) id (ab.sub _ _ hx) (cT dq 0 rfl)<|Op.fQ (T:=3) (x:=62) (o:=U+(3:Int).toNat*1) (d:=63) (n:=1) (v:=vI a9) (by kernel_rfl) (by kernel_rfl) (by kernel_rfl) id (ab.sub _ _ hz) (cT du 0 rfl)<|Op.fQ (T:=3) (x:=65) (o:=U+(4:Int).toNat*1) (d:=66) (n:=1) (v:=vI a5) (by kernel_rfl) (by kernel_rfl) (by kernel_rfl) id (ab.sub _ _ hB) (cT dv 0 rfl) ?_
 refine Op.dQ 67 (a5-1) (by(have:=nV c3;omega)) (by(have:=nV c3;omega))<|Op.fQ (T:=3) (x:=69) (o:=U+(5:Int).toNat*1) (d:=70) (n:=1) (v:=vI bb) (by kernel_rfl) (by kernel_rfl) (by kernel_rfl) id (ab.sub _ _ hD) (cT dC 0 rfl)<|Op.fQ (T:=3) (x:=72) (o:=U+(6:Int).toNat*1) (d:=73) (n:=1) (v:=vI bc) (by kernel_rfl) (by kernel_rfl) (by kernel_rfl) id (ab.sub _ _ hG) (cT dE 0 rfl)<|Op.fQ (T:=28) (x:=75) (o:=Z+(1:Int).toNat*1) (d:=76) (n:=1) (v:=vL hK bd.length hL) (by kernel_rfl) (by kernel_rfl) (by kernel_rfl) id (ab.sub _ _ hJ) (cT dT 0 rfl)<|Op.yI (T:=28) (S:=9) (E:=5) (x:=76) (dst:=77) (l:=bd) (by kernel_rfl) (by kernel_rfl) (by kernel_rfl) (by kernel_rfl) (by kernel_rfl) e8 ab.sub (fun _ _ _ h=>h) ?_
 refine Op.fQ (T:=28) (x:=79) (o:=Z+(2:Int).toNat*1) (d:=80) (n:=1) (v:=vL d1 bo.length d2) (by kernel_rfl) (by kernel_rfl) (by kernel_rfl) id (ab.sub _ _ hP) (cT d0 0 rfl)<|Op.px 2 [(82,.agg #[vI a6,vI a7,vI a8,vS bd,vL d1 bo.length d2,vI a9,vI (a5-1),vI bb,vI bc,vN,vN])]<|Op.al 9 59 ia ab fun ar np hQ=>Op.ba<|Op.sg 59 9 82 0 0 #[vI a6,vI a7,vI a8,vS bd,vL d1 bo.length d2,vI a9,vI (a5-1),vI bb,vI bc,vN,vN] hQ zt fun nu hS=>?_
 refine Op.gt 13<|At.go 14 3 [(83,vL dk (((aT X).1).length) co),(84,vI (((aT X).1).length:Int)),(85,vI 0)] ?_
 have hT:=aF.nil 9 ew ci
 have hV:=aF.nil 69 cu ci
 obtain⟨nx,hW,hX⟩:=St.bl (Q:=fF ci ar (⟨a6,a7,a8,⟨bd,bo,a9,a5-1,bb,bc⟩,([]:List aj),([]:List ah)⟩:Result)) 3 (hS.nl.nl.fs [1,2] rfl) ⟨_,_,_,_,_,rfl,fa,hT,hV⟩
 have hY:∀(m:Nat) (be:GH) (bi:aG ci be) (ob:Result) (i:Int) (d3:au) (d4:av) (hm:(aT X).1.length-i.toNat<m) (h0:0≤i) (h1:i≤(aT X).1.length) (hH:kQ b=true) (hN:tN b D X ob i) (d5:fF be ar ob d3) (c4:St h g (aM []) be [d3,[(cf,Obj.cells ia 59 (0,0))]] d4),At (bS prog B 18 f18 R) [] 14 [(0,vL cb b.length ce),(2,vP cf),(4,vL (some ⟨a0,Z,none⟩) (((aT b).1).length) am),(9,vP ar),(83,vL dk (((aT X).1).length) co),(84,vI (((aT X).1).length:Int)),(85,vI i)] d4:=by
  intro m;induction m with
  |zero=>intros;omega
  |succ m hZ=>
   intro be bi ob i d3 d4 hm h0 h1 hH hN d5 c4
   replace O:=O.mono bi
   replace V:=V.mono bi
   replace ae:=ae.mono bi
   replace ck:=ck.mono bi
   refine At.go 15 1 [(86,.bool (decide (i<(((aT X).1).length:Int))))]<|At.fd (i<(((aT X).1).length:Int)) 86 16 19 (fun nz=>?_) fun n0=>?_
   ·refine At.rg 3 ?_
    obtain⟨aw,fg⟩:=cD ((aT X).1) i
    obtain⟨h2,fi,n3,oi,h3,h4,d6⟩:=ay.br ck _ fg
    cases h3
    refine Op.iq 107 28 1 24 (((aT X).1).length) co 83 85 87 h2 fi i ?_
    obtain⟨oj,d6,fj⟩:=d6
    obtain⟨d7,d8,rfl⟩:=fj.ai
    refine Op.l1 28 87 88 (fi+i.toNat*1) (vL d7 aw.length d8) (c4.sub _ _ h4) ?_ (hv:=cT d6 0 rfl)
    refine Op.pg 17 [(11,vL d7 aw.length d8)]<|At.rp 8 1 [(89,vQ ar 9)] ?_
    obtain⟨ol,v212,h5,or,h6,h7,fl,fp,fr⟩:=d5
    obtain⟨h8,n221,rfl⟩:=fl.ai
    obtain⟨a222,h9,rfl⟩:=fp.ai
    obtain⟨ib,n225,rfl⟩:=fr.ai
    have d9:=St.un [h5,h6] h7 c4
    refine Op.l1 57 89 90 9 (vL a222 ob.bF.length h9) (d9.ag 0 rfl)<|Op.px 1 [(91,vL d7 aw.length d8)]<|Op.MN (T:=28) (S:=9) (E:=5) (x:=91) (dst:=92) (l:=aw) (by kernel_rfl) (by kernel_rfl) (by kernel_rfl) (by kernel_rfl) (by kernel_rfl) (fj.toH d9.sub)<|Op.ls 93 1 9 #[vS aw] d9 fun ow o3 ft=>Op.ap 90 93 57 57 94 9 16 ew (ys:=[aw]) fp ft 2 (⟨_,_,rfl,rfl,Reads.nil⟩) (by(have:=(Ql hN).1;simp only[bL,cS];omega)) (fun _ _ _=>trivial) (di.lit (m:=1) (sz:=1) (ft.ag 0 rfl) (news:=[vS aw]) rfl rfl (by simp[Value.oneCell']) _) fun o4 pa pb fv ih pc=>?_
    obtain⟨fw,fx,rfl⟩:=fv.ai
    refine Op.px 1 [(95,vQ ar 9)]<|Op.s1 57 95 94 9 (vL fw ((ob.bF++([aw])).length) fx) 0 #[vI ob.Code,vI ob.bg,vI ob.At,vS ob.af.aa,vL h8 ob.af.Data.length n221,vI ob.af.ak,vI ob.af.aE,vI ob.af.Next,vI ob.af.aO,vL fw ((ob.bF++([aw])).length) fx,vL ib ob.aW.length n225] ((ih).drop) zt fun pd ii=>Op.gt 18<|At.rg 2<|Op.dQ 96 (i+1) (by omega) (by(have:=(mR X).1;omega)) ?_
    refine Op.pg 14 [(85,vI (i+1))] ?_
    obtain⟨pf,ik,il⟩:=St.bl (Q:=fF be ar (⟨ob.Code,ob.bg,ob.At,⟨ob.af.aa,ob.af.Data,ob.af.ak,ob.af.aE,ob.af.Next,ob.af.aO⟩,ob.bF++([aw]),ob.aW⟩:Result)) 3 ii ⟨_,_,_,_,_,rfl,fl,fv,fr⟩
    exact At.ke (hZ _ bi (⟨ob.Code,ob.bg,ob.At,⟨ob.af.aa,ob.af.Data,ob.af.ak,ob.af.aE,ob.af.Next,ob.af.aO⟩,ob.bF++([aw]),ob.aW⟩:Result) (i+1) _ _ (by omega) (by omega) (by omega) (by omega) (by exact Qk hN h0 fg) ik il)
   refine At.rp 4 1 [(97,vL (some ⟨a0,Z,none⟩) (((aT b).1).length) am)]<|Op.wE (T:=107) (E:=28) (cR:=24) (x:=97) (ao:=(some ⟨a0,Z,none⟩)) (n:=(((aT b).1).length)) (c:=am) (dst:=98) (d:=(jC 5 bn)) (lo:=(.const (vI 4))) (k:=.i64) (m:=4) (by kernel_rfl) (by kernel_rfl) (by kernel_rfl) (by kernel_rfl) ae (by omega) (by omega) fun ph c5=>?_
   obtain⟨io,f0,rfl⟩:=c5.ai
   refine Op.pg 20 [(99,vI ((((aT b).1).drop (4:Int).toNat).length:Int)),(100,vI 0)] ?_
   have ip:∀(m:Nat) (c6:GH) (bs:aG be c6) (u:Result) (q:Int) (ea:au) (eb:av) (hm:((aT b).1.drop (4:Int).toNat).length-q.toNat<m) (f1:0≤q) (is:q≤((aT b).1.drop (4:Int).toNat).length) (hE:pY b D X u q) (bt:fF c6 ar u ea) (b3:St h g (aM []) c6 [ea,[(cf,Obj.cells ia 59 (0,0))]] eb),At (bS prog B 18 f18 R) [] 20 [(0,vL cb b.length ce),(2,vP cf),(9,vP ar),(98,vL io ((((aT b).1).drop (4:Int).toNat).length) f0),(99,vI ((((aT b).1).drop (4:Int).toNat).length:Int)),(100,vI q)] eb:=by
    intro m;induction m with
    |zero=>intros;omega
    |succ m iv=>
     intro c6 bs u q ea eb hm f1 is hE bt b3
     replace O:=O.mono bs
     replace V:=V.mono bs
     replace c5:=c5.mono bs
     refine At.go 21 1 [(101,.bool (decide (q<((((aT b).1).drop (4:Int).toNat).length:Int))))]<|At.fd (q<((((aT b).1).drop (4:Int).toNat).length:Int)) 101 22 30 (fun pj=>?_) fun pl=>?_
     ·refine At.rg 3 ?_
      obtain⟨G,a4⟩:=cD (((aT b).1).drop (4:Int).toNat) q
      obtain⟨i0,f2,pm,po,i1,i2,ed⟩:=ay.br c5 _ a4
      cases i1
      refine Op.iq 107 28 1 24 ((((aT b).1).drop (4:Int).toNat).length) f0 98 100 102 i0 f2 q ?_
      obtain⟨pu,ed,f3⟩:=ed
      obtain⟨ee,n267,rfl⟩:=f3.ai
      refine Op.l1 28 102 103 (f2+q.toNat*1) (vL ee G.length n267) (b3.sub _ _ i2) ?_ (hv:=cT ed 0 rfl)
      refine Op.pg 23 [(13,vL ee G.length n267)]<|At.rp 8 1 [(105,vL ee G.length n267)]<|Op.c0 (some 106) (Q5 _ _ _ b3.sub O _ _ f3 (by((try dsimp only)<;>((have:=CR a4;omega))))) b3 ?_
      rintro _ i3 _ pv i4 i5 ⟨rfl,rfl⟩
      replace bt:=bt.mono i4
      refine Op.px 3 [(107,.agg #[vI (((ez G).1).Client),vI (((ez G).1).Kind),vS (((ez G).1).aa)]),(108,.bool ((ez G).2))]<|Op.al 14 69 ko i5 fun pw py i6=>Op.sg 69 14 107 0 0 #[vI (((ez G).1).Client),vI (((ez G).1).Kind),vS (((ez G).1).aa)] i6 zt fun pA f4=>Op.pg 24 [(15,.bool ((ez G).2))]<|At.go 25 2 [(110,.bool (!((ez G).2)))] ?_
      refine At.c_ (!((ez G).2)) 110 26 28 (fun f5=>?_) fun f6=>?_
      ·replace f5:=(dm f5)
       exact At.rp 3 1 [(111,.agg ia)]<|Op.sg 59 2 111 0 2 ia f4 zt fun pB f7=>Op.pg 27 [(3,vI 130)]<|At.rn f18 tP [.cell 2 59,.tmp 3] ⟨⟨_,_,rfl,dB (n:=11) (by kernel_rfl) (f7.ag 2 rfl) (by kernel_rfl) rfl⟩,rfl,trivial⟩ (hR f7.drop.drop.drop ⟨vN,vN,vN,bM (by(rw[xH hH a4 ‹_›];rfl)) (bp (by(rw[xH hH a4 ‹_›];done))),bP (ay.empty _ _ _ _ _) (by(rw[xH hH a4 ‹_›];rfl)),bP (ay.empty _ _ _ _ _) (by(rw[xH hH a4 ‹_›];rfl)),bP (ay.empty _ _ _ _ _) (by(rw[xH hH a4 ‹_›];rfl)),rfl⟩)
      replace f6:=(dn f6)
      refine At.rp 7 1 [(112,vQ ar 10)] ?_
      obtain⟨pC,pD,i7,p0,i8,i9,f8,f9,gc⟩:=bt
      obtain⟨jf,jj,rfl⟩:=f8.ai
      obtain⟨jn,js,rfl⟩:=f9.ai
      obtain⟨jt,n295,rfl⟩:=gc.ai
      have ef:=St.un [i7,i8] i9 (f4.fs [1] rfl)
      refine Op.l1 42 112 113 10 (vL jt u.aW.length n295) (ef.ag 0 rfl)<|Op.la 69 14 114 0 3 [vI (((ez G).1).Client),vI (((ez G).1).Kind),vS (((ez G).1).aa)] (ef.ag 3 rfl)<|Op.ls 115 1 69 #[vI (((ez G).1).Client),vI (((ez G).1).Kind),vS (((ez G).1).aa)] ef fun p1 p2 ge=>Op.ap 113 115 42 42 116 69 32 cu (ys:=[((ez G).1)]) gc ge 3 (⟨_,_,rfl,rfl,Reads.nil⟩) (by(have:=IW hE;simp only[bL,cS];omega)) (fun _ _ _=>trivial) (di.lit (m:=1) (sz:=3) (ge.ag 0 rfl) (news:=[vI (((ez G).1).Client),vI (((ez G).1).Kind),vS (((ez G).1).aa)]) rfl rfl (by simp[Value.oneCell']) _) fun p3 p8 qr gg j1 q0=>?_
      obtain⟨gk,n308,rfl⟩:=gg.ai
      refine Op.px 1 [(117,vQ ar 10)]<|Op.s1 42 117 116 10 (vL gk ((u.aW++([((ez G).1)])).length) n308) 0 #[vI u.Code,vI u.bg,vI u.At,vS u.af.aa,vL jf u.af.Data.length jj,vI u.af.ak,vI u.af.aE,vI u.af.Next,vI u.af.aO,vL jn u.bF.length js,vL gk ((u.aW++([((ez G).1)])).length) n308] ((j1).drop) zt fun q1 j2=>Op.gt 29<|At.rg 2<|Op.dQ 118 (q+1) (by omega) (by(have:=Qq ‹_›;omega)) ?_
      refine Op.pg 20 [(100,vI (q+1))] ?_
      obtain⟨q2,kc,kd⟩:=St.bl (Q:=fF i3 ar (⟨u.Code,u.bg,u.At,⟨u.af.aa,u.af.Data,u.af.ak,u.af.aE,u.af.Next,u.af.aO⟩,u.bF,u.aW++([((ez G).1)])⟩:Result)) 3 j2 ⟨_,_,_,_,_,rfl,f8,f9,gg⟩
      exact At.ke (iv _ (aG.trans bs (by repeat (first|assumption|apply aG.trans))) (⟨u.Code,u.bg,u.At,⟨u.af.aa,u.af.Data,u.af.ak,u.af.aE,u.af.Next,u.af.aO⟩,u.bF,u.aW++([((ez G).1)])⟩:Result) (q+1) _ _ (by omega) (by omega) (by omega) (by exact Qn hE f1 a4 ‹_›) kc ((kd.fs [1] rfl).drop))
     refine At.rg 7 ?_
     obtain⟨q3,rb,kh,rc,kk,kl,a3,gn,c8⟩:=bt
     obtain⟨b4,b5,rfl⟩:=a3.ai
     obtain⟨b6,n329,rfl⟩:=gn.ai
     obtain⟨b8,n331,rfl⟩:=c8.ai
     have gs:=St.un [kh,kk] kl b3
     refine Op.la 59 9 120 0 11 [vI u.Code,vI u.bg,vI u.At,vS u.af.aa,vL b4 u.af.Data.length b5,vI u.af.ak,vI u.af.aE,vI u.af.Next,vI u.af.aO,vL b6 u.bF.length n329,vL b8 u.aW.length n331] (gs.ag 0 rfl) ?_
     obtain⟨rd,km,c9,bj⟩:=aF.freeze gn (gs.fs [1] rfl)
     replace a3:=a3.mono c9
     replace c8:=c8.mono c9
     replace O:=O.mono c9
     replace V:=V.mono c9
     obtain⟨re,g1,da,db⟩:=aF.freeze c8 (km.fs [1] rfl)
     replace a3:=a3.mono da
     replace O:=O.mono da
     replace V:=V.mono da
     replace bj:=bj.mono da
     refine Op.c0 (some 121) (Jj _ _ _ g1.sub O u _ a3 _ bj _ db (by(try dsimp only)<;>exact Qp hE)) g1 ?_
     rintro _ rf _ rh ca eh ⟨rk,rfl,g2,rfl⟩
     obtain⟨g3,g4,rfl⟩:=g2.ai
     replace a3:=a3.mono ca
     replace O:=O.mono ca
     replace V:=V.mono ca
     replace bj:=bj.mono ca
     replace db:=db.mono ca
     refine Op.pg 31 [(16,vL g3 (((dy u).1).length) g4),(17,vI ((dy u).2))]<|At.rp 8 3 [(126,.bool (((dy u).2) != 0))]<|Op.wb (((dy u).2) != 0) 126 (fun g5=>?_) fun g6=>?_
     ·replace g5:=jO g5
      refine Op.pg 32 [(131,vT)]<|At.bX 131 33<|At.rp 3 1 [(132,.agg ia)]<|Op.sg 59 2 132 0 1 ia eh zt fun rr g7=>Op.pg 34 [(3,vI 130)] ?_
      exact At.rn f18 tP [.cell 2 59,.tmp 3] ⟨⟨_,_,rfl,dB (n:=11) (by kernel_rfl) (g7.ag 1 rfl) (by kernel_rfl) rfl⟩,rfl,trivial⟩ (hR g7.drop.drop ⟨vN,vN,vN,bM (by(rw[pZ hH I J hE ‹_› (.inl ‹_›)];rfl)) (bp (by(rw[pZ hH I J hE ‹_› (.inl ‹_›)];done))),bP (ay.empty _ _ _ _ _) (by(rw[pZ hH I J hE ‹_› (.inl ‹_›)];rfl)),bP (ay.empty _ _ _ _ _) (by(rw[pZ hH I J hE ‹_› (.inl ‹_›)];rfl)),bP (ay.empty _ _ _ _ _) (by(rw[pZ hH I J hE ‹_› (.inl ‹_›)];rfl)),rfl⟩)
     replace g6:=l6 g6
     refine Op.px 2 [(127,vL g3 (((dy u).1).length) g4),(128,vL cb b.length ce)]<|Op.c1 129 (Q4 _ _ _ eh.sub O _ _ g2 _ _ V (by(try dsimp only)<;>omega)) eh fun rv ej=>Op.pg 32 [(131,.bool (!(decide (((dy u).1)=b))))]<|At.c_ (!(decide (((dy u).1)=b))) 131 33 35 (fun g8=>?_) fun g9=>?_
     ·replace g8:=kF (dm g8)
      exact At.rp 3 1 [(132,.agg ia)]<|Op.sg 59 2 132 0 1 ia ej zt fun rx ha=>Op.pg 34 [(3,vI 130)]<|At.rn f18 tP [.cell 2 59,.tmp 3] ⟨⟨_,_,rfl,dB (n:=11) (by kernel_rfl) (ha.ag 1 rfl) (by kernel_rfl) rfl⟩,rfl,trivial⟩ (hR ha.drop.drop ⟨vN,vN,vN,bM (by(rw[pZ hH I J hE ‹_› (.inr ‹_›)];rfl)) (bp (by(rw[pZ hH I J hE ‹_› (.inr ‹_›)];done))),bP (ay.empty _ _ _ _ _) (by(rw[pZ hH I J hE ‹_› (.inr ‹_›)];rfl)),bP (ay.empty _ _ _ _ _) (by(rw[pZ hH I J hE ‹_› (.inr ‹_›)];rfl)),bP (ay.empty _ _ _ _ _) (by(rw[pZ hH I J hE ‹_› (.inr ‹_›)];rfl)),rfl⟩)
     replace g9:=iR (dn g9)
     exact At.rg 3<|Op.la 59 9 133 0 11 [vI u.Code,vI u.bg,vI u.At,vS u.af.aa,vL b4 u.af.Data.length b5,vI u.af.ak,vI u.af.aE,vI u.af.Next,vI u.af.aO,vL b6 u.bF.length n329,vL b8 u.aW.length n331] (ej.ag 0 rfl)<|Op.sg 59 2 133 0 1 #[vI u.Code,vI u.bg,vI u.At,vS u.af.aa,vL b4 u.af.Data.length b5,vI u.af.ak,vI u.af.aE,vI u.af.Next,vI u.af.aO,vL b6 u.bF.length n329,vL b8 u.aW.length n331] ej zt fun r0 hb=>Op.pg 36 [(3,vI 0)]<|At.rn f18 [.agg #[vI u.Code,vI u.bg,vI u.At,vS u.af.aa,vL b4 u.af.Data.length b5,vI u.af.ak,vI u.af.aE,vI u.af.Next,vI u.af.aO,vL b6 u.bF.length n329,vL b8 u.aW.length n331],vI 0] [.cell 2 59,.tmp 3] ⟨⟨_,_,rfl,dB (n:=11) (by kernel_rfl) (hb.ag 1 rfl) (by kernel_rfl) rfl⟩,rfl,trivial⟩ (hR hb.drop.drop ⟨(vL b4 u.af.Data.length b5),(vL b6 u.bF.length n329),(vL b8 u.aW.length n331),bM (by(rw[xI hH I J hE ‹_› ‹_› ‹_›];done)) (bp (by(rw[xI hH I J hE ‹_› ‹_› ‹_›];done))),bP a3 (by(rw[xI hH I J hE ‹_› ‹_› ‹_›];done)),bP bj (by(rw[xI hH I J hE ‹_› ‹_› ‹_›];done)),bP db (by(rw[xI hH I J hE ‹_› ‹_› ‹_›];done)),rfl⟩)
   exact At.ke (ip _ _ (aG.refl _) ob 0 _ _ (bK _) (by omega) (by omega) (by exact Qm hN ‹_›) d5 c4)
 exact At.ke (hY _ _ (aG.refl _) (⟨a6,a7,a8,⟨bd,bo,a9,a5-1,bb,bc⟩,([]:List aj),([]:List ah)⟩:Result) 0 _ _ (bK _) (by omega) (by omega) (by exact Qi ‹_› ‹_› I ‹_› J ‹_›) (by exact Qj e7 e9 e1 e2 e3 e4 c3 e5 e6) hW hX)
set_option linter.unusedSectionVars false
def ny {α:Type} (y:List (Int×(List α×au))):List (Int×List α):=y.map fun p=>(p.1,p.2.1)
def oP {α:Type} (y:List (Int×(List α×au))):au:=(y.map fun p=>p.2.2).flatten
def Q6 {α:Type} (T:TypeId) (d:Kd α) (g:GH) (a:List α×au) (v:Value):Prop:=aF T d g v a.1 a.2
section
variable {α:Type} {y:List (Int×(List α×au))} {k:Int} {xs:List α} {c:au}
theorem Jk (h:fJ y):fJ (ny y):=by unfold ny fJ;rw[pJ];exact h
theorem Dd:bW (ny y) k=(bW y k).map (·.1):=by
  induction y with
  |nil=>rfl
  |cons p y ih=>
   unfold ny at *
   rw[e_,jU,jU,ih]
   split<;>rfl
theorem Jl:ny (b7 y k (xs,c))=b7 (ny y) k xs:=by
  induction y with
  |nil=>rfl
  |cons p y ih=>
   unfold ny at *
   rw[e_,b7,b7]
   repeat' split
   · rw[e_,ih]
   · rfl
   · rfl
theorem Jm:ny (fh y k)=fh (ny y) k:=by
  unfold ny fh
  rw[qC]
  rfl
theorem Q7 {u:Type} {x:List (Int×u)} (h:bW x k=none):fh x k=x:=by
  unfold fh
  rw[oH]
  intro p hp
  simpa using zF.1 h p hp
theorem Q8 {u:Type} {x:List (Int×u)} {a:u} (hs:fJ x):b7 (fh x k) k a=b7 x k a:=by
  induction x with
  |nil=>rfl
  |cons p x ih=>
   obtain⟨h1,h2⟩:=jE.1 hs
   have ih:=ih h2
   unfold fh at *
   rw[ju]
   by_cases h:p.1=k
   · simp only[h,ry,ng,fZ,de]
     rw[b7,aB (by omega),aL h]
     have:x.filter (fun p=>!decide (p.1=k))=x:=by
       rw[oH]
       intro q hq
       have:=h1 q hq
       simp only[gZ,jP]
       omega
     rw[this]
     cases x with
     |nil=>rfl
     |cons q x=>
      have:=h1 q (by simp)
      rw[b7,aB (by omega),aB (by omega)]
   · simp only[h,s5,qw,iA]
     rw[b7,b7,ih,aB h,aB h]
     split
     · rfl
     · have:x.filter (fun p=>!decide (p.1=k))=x:=by
         rw[oH]
         intro q hq
         have:=h1 q hq
         simp only[gZ,jP]
         omega
       rw[this]
theorem Q9 (hs:fJ y) (h:bW y k=some (xs,c)):(oP y).Perm (c++oP (fh y k)):=by
  induction y with
  |nil=>simp[bW] at h
  |cons p y ih=>
   obtain⟨h1,h2⟩:=jE.1 hs
   rw[jU] at h
   unfold oP fh at *
   rw[ju,e_,cg]
   by_cases hk:p.1=k
   · rw[aL hk] at h
     obtain⟨u,D,G⟩:=p
     simp only[eN,iB] at h
     obtain⟨rfl,rfl⟩:=h
     simp only at hk
     subst hk
     simp only[ry,ng,fZ,de]
     have:y.filter (fun p=>!decide (p.1=u))=y:=by
       rw[oH]
       intro q hq
       have:=h1 q hq
       simp only[gZ,jP]
       simp only at this
       omega
     rw[this]
   · rw[aB hk] at h
     simp only[hk,s5,qw,iA]
     rw[e_,cg]
     refine((ih h2 h).append_left p.2.2).trans ?_
     rw[←cI,←cI]
     exact List.perm_append_comm.append_right _
theorem Jn {x:List (Int×(List α×au))} (h:bW x k=none):(oP (b7 x k (xs,c))).Perm (c++oP x):=by
  have:=(CC (k:=k) (a:=(xs,c)) (x:=x) (zF.1 h)).map (fun p=>p.2.2)
  unfold oP
  exact this.flatten
end
def jX {α:Type} (T:TypeId) (d:Kd α) (g:GH) (ks:List (Int×Value)) (x:List (Int×List α)) (F:au):Prop:=∃y,eS (Q6 T d g) ks y∧x=ny y∧F.Perm (oP y)
def Jo {α:Type} (T:TypeId) (d:Kd α) (g:GH) (ks:List (Int×Value)) (x:List (Int×List α)) (k:Int) (F:au):Prop:=
  (∀g' v xs c,aG g g'→aF T d g' v xs c→jX T d g' (h_ ks k v) (b7 x k xs) (c++F))∧∀g',aG g g'→jX T d g' (jF ks k) (fh x k) F
section
variable {α:Type} {T:TypeId} {d:Kd α} {g g':GH} {ks:List (Int×Value)} {x:List (Int×List α)} {F F' c:au} {k:Int} {v:Value} {xs:List α}
theorem jX.mono (H:jX T d g ks x F) (hg:aG g g'):jX T d g' ks x F:=by
  obtain⟨y,h1,h2,h3⟩:=H
  exact⟨y,h1.mono fun _ _ h=>aF.mono h hg,h2,h3⟩
theorem jX.nil:jX T d g [] ([]:List (Int×List α)) []:=⟨[],eS.nil,rfl,gj _⟩
theorem jX.sort (H:jX T d g ks x F):fJ x:=by
  obtain⟨y,h1,rfl,h3⟩:=H
  exact Jk h1.1
theorem jX.gy (H:jX T d g ks x F) (k:Int):(fH ks k=none∧bW x k=none∧Jo T d g ks x k F)∨
    ∃v xs c F',fH ks k=some v∧bW x k=some xs∧aF T d g v xs c∧F.Perm (c++F')∧Jo T d g ks x k F':=by
  obtain⟨y,h1,rfl,h3⟩:=H
  have hd:∀(xs:List α) (c:au),(oP (b7 (fh y k) k (xs,c))).Perm (c++oP (fh y k)):=fun xs c=>Jn (by rw[HC,aL rfl])
  rcases h1.gy k with ⟨e1,e2⟩|⟨v,⟨xs,c⟩,e1,e2,e3⟩
  · refine .inl ⟨e1,by rw[Dd,e2];rfl,fun g2 v xs c hg hr=>⟨b7 y k (xs,c),eS.mI (a:=(xs,c)) (h1.mono fun _ _ h=>aF.mono h hg) hr,Jl.symm,(h3.append_left c).trans (Jn e2).symm⟩,fun g2 hg=>⟨fh y k,(h1.mono fun _ _ h=>aF.mono h hg).nQ k,Jm.symm,by rw[Q7 e2];exact h3⟩⟩
  · refine .inr ⟨v,xs,c,oP (fh y k),e1,by rw[Dd,e2];rfl,e3,h3.trans (Q9 h1.1 e2),fun g2 v xs c hg hr=>⟨b7 y k (xs,c),eS.mI (a:=(xs,c)) (h1.mono fun _ _ h=>aF.mono h hg) hr,Jl.symm,?_⟩,fun g2 hg=>⟨fh y k,(h1.mono fun _ _ h=>aF.mono h hg).nQ k,Jm.symm,gj _⟩⟩
    rw[←Q8 h1.1]
    exact(hd xs c).symm
theorem jX.Q_ (H:jX T d g ks x F) (k:Int):∃u F',F.Perm (u++F')∧jX T d g (jF ks k) (fh x k) F':=by
  rcases H.gy k with ⟨_,_,h⟩|⟨_,_,c,F',_,_,_,hp,h⟩
  · exact⟨[],F,gj _,h.2 g (aG.refl _)⟩
  · exact⟨c,F',hp,h.2 g (aG.refl _)⟩
theorem jX.br (H:jX T d g ks x F) (h:(k,v)∈ks):∃xs,bW x k=some xs∧∃ao n,v=.slice ao xs.length n:=by
  obtain⟨y,h1,rfl,h3⟩:=H
  obtain⟨⟨xs,c⟩,e2,e3⟩:=h1.zH ((zG h1.2.1).2 h)
  obtain⟨ao,n,e⟩:=aF.ai e3
  exact⟨xs,by rw[Dd,e2];rfl,ao,n,e⟩
end
def sj {α:Type} (T:TypeId) (d:Kd α) (g:GH) (b:Nat) (x:List (Int×List α)) (c:au):Prop:=∃es aP ks F,c=(b,.map es aP)::F∧cC encI es aP ks∧jX T d g ks x F
def Ra {α:Type} (T:TypeId) (d:Kd α) (g:GH) (a:List α) (v:Value):Prop:=ay g T d v a
def vi {α:Type} (T:TypeId) (d:Kd α) (g:GH) (b:Nat) (x:List (Int×List α)):Prop:=pQ (Ra T d) g b x
section
variable {α:Type} {T:TypeId} {d:Kd α} {g g':GH} {b:Nat} {x y:List (Int×List α)} {c C:au} {L:List au} {h0 h:av} {g0:GH} {S0:Nat→Prop}
theorem sj.mono (H:sj T d g b x c) (hg:aG g g'):sj T d g' b x c:=by
  obtain⟨es,aP,ks,F,h1,h2,h3⟩:=H
  exact⟨es,aP,ks,F,h1,h2,h3.mono hg⟩
theorem vi.mono (H:vi T d g b x) (hg:aG g g'):vi T d g' b x:=pQ.mono hg (fun _ _ h=>ay.mono h hg) H
theorem Rb {z:List (Int×(List α×au))} {a:Int×(List α×au)} (h:a∈z) {p:Nat×Obj} (hp:p∈a.2.2):p∈oP z:=q7.2 ⟨_,cF.2 ⟨a,h,rfl⟩,hp⟩
theorem sj.fK (H:sj T d g b x c) (s:St h0 g0 S0 g (C::L) h) (hc:∀p∈c,p∈C):vi T d (cQ g C) b x:=by
  obtain⟨es,aP,ks,F,rfl,h2,z,h3,rfl,h5⟩:=H
  refine⟨es,aP,ks,nJ s.oC (hc _ (.head _)),h2,Jk h3.1,h3.2.1,?_,fun k v a G I=>?_⟩
  · have:(ny z).map (·.1)=z.map (·.1):=by unfold ny;rw[jr];rfl
    rw[this];exact h3.2.2.1
  · obtain⟨q,hq,e⟩:=cF.1 I
    obtain⟨J,u,D⟩:=q
    simp only[iB] at e
    obtain⟨rfl,rfl⟩:=e
    have hr:aF T d g v u D:=h3.2.2.2 _ v (u,D) G hq
    exact hr.lp s fun p hp=>hc p (.tail _ (h5.mem_iff.2 (Rb hq hp)))
end
theorem St.nW {h0 h:av} {g0 g:GH} {S0:Nat→Prop} {L:List au} {F c F':au} (hp:F.Perm (c++F')) (s:St h0 g0 S0 g (F::L) h):St h0 g0 S0 g (c::F'::L) h:=
  St.pM (L:=F::L) (by rw[cg,cg,cg,←cI];exact hp.append_right _) s
theorem St.tw {h0 h:av} {g0 g:GH} {S0:Nat→Prop} {L:List au} {F c F':au} (hp:F.Perm (c++F')) (s:St h0 g0 S0 g (c::F'::L) h):St h0 g0 S0 g (F::L) h:=
  St.pM (L:=c::F'::L) (by rw[cg,cg,cg,←cI];exact(hp.append_right _).symm) s
def kR (a b:Int):Int:=if a<b then -1 else if a>b then 1 else 0
def mu (a b:aj):Int:=if Go.Op.bytesLess a b=true then -1 else if (Go.Op.bytesLess a b||a==b)=true then 0 else 1
theorem Rc {a b:aj} (h:Go.Op.bytesLess a b=true): -1=mu a b:=by rw[mu,aL h]
theorem Re {a b:aj} (h:Go.Op.bytesLess a b=false) (h2:(Go.Op.bytesLess a b||a==b)=true):0=mu a b:=by rw[mu,aB (jc.1 h),aL h2]
theorem Rf {a b:aj} (h:Go.Op.bytesLess a b=false) (h2:(Go.Op.bytesLess a b||a==b)=false):1=mu a b:=by rw[mu,aB (jc.1 h),aB (jc.1 h2)]
def jy:List Int→Int
  |[]=>0
  |x::l=>if x=0 then jy l else x
def jY (a b:ah):Int:=jy [mu a.aa b.aa,kR a.Kind b.Kind,kR a.Client b.Client]
theorem Rg {l:List Int} {i x:Int} (h:jy l=jy (l.drop i.toNat)) (h0:0≤i) (hx:l[i.toNat]?=some x) (hz:x=0):jy l=jy (l.drop (i+1).toNat):=by
  rw[h,drop_at hx,toNat_succ h0,jy,aL hz]
theorem Rh {l:List Int} {i x:Int} (h:jy l=jy (l.drop i.toNat)) (hx:l[i.toNat]?=some x) (hz:¬(x=0)):x=jy l:=by
  rw[h,drop_at hx,jy,aB hz]
theorem Ri {l:List Int} {i:Int} (h:jy l=jy (l.drop i.toNat)) (hi:¬(i<(l.length:Int))):0=jy l:=by
  rw[h,mH (by omega)];rfl
def fo (a b:ah):Bool:=if a.aa≠b.aa then Go.Op.bytesLess a.aa b.aa else if a.Kind≠b.Kind then decide (a.Kind<b.Kind) else decide (a.Client<b.Client)
def cnt (c:Int):List ah→Nat
  |[]=>0
  |x::xs=>(if x.Client=c then 1 else 0)+cnt c xs
theorem De {c n i:Int} {l:List ah} {x:ah} (h:n+(cnt c (l.drop i.toNat):Int)=cnt c l) (h0:0≤i) (hx:l[i.toNat]?=some x) (hc:x.Client=c):n+1+(cnt c (l.drop (i+1).toNat):Int)=cnt c l:=by
  rw[drop_at hx,cnt,aL hc] at h;rw[toNat_succ h0];omega
theorem Df {c n i:Int} {l:List ah} {x:ah} (h:n+(cnt c (l.drop i.toNat):Int)=cnt c l) (h0:0≤i) (hx:l[i.toNat]?=some x) (hc:¬(x.Client=c)):n+(cnt c (l.drop (i+1).toNat):Int)=cnt c l:=by
  rw[drop_at hx,cnt,aB hc] at h;rw[toNat_succ h0];omega
theorem p4 {c n i:Int} {l:List ah} (h:n+(cnt c (l.drop i.toNat):Int)=cnt c l) (hi:¬(i<(l.length:Int))):n=(cnt c l:Int):=by
  rw[mH (by omega)] at h;simpa[cnt] using h
def fP (w:ah):Bool:=decide (w.Client≥0)&&(decide (w.Client<8)&&((w.Kind==1||w.Kind==2)&&cP w.aa==0))
def vj (l:List ah) (i:Int):ah:=l.getD i.toNat ⟨0,0,[]⟩
theorem Jp {l:List ah} {i:Int} {x:ah} (hx:l[i.toNat]?=some x):vj l i=x:=by simp[vj,List.getD,hx]
def p5 (u:List Int) (w:ah):Bool:=u.any fun c=>decide (c=w.Client)
def fY (kind:Int) (cZ:List aj) (w:ah):Bool:=cZ.any (fun p=>decide (p=w.aa))&&decide (w.Kind=kind)
section
variable {kind:Int} {cZ:List aj} {l:List ah} {i k:Int} {Va:Bool} {x:ah}
end
theorem xK (a:ah):fo a a=false:=by simp[fo]
theorem p6 {a b:ah} (h:a.aa≠b.aa):fo a b=Go.Op.bytesLess a.aa b.aa:=by unfold fo;rw[aL h]
theorem p7 {a b:ah} (h:a.aa=b.aa) (k:a.Kind≠b.Kind):fo a b=decide (a.Kind<b.Kind):=by unfold fo;rw[aB (fun n=>n h),aL k]
theorem tQ {a b:ah} (h:a.aa=b.aa) (k:a.Kind=b.Kind):fo a b=decide (a.Client<b.Client):=by unfold fo;rw[aB (fun n=>n h),aB (fun n=>n k)]
theorem xL {a b c:ah} (h:fo a b=true) (k:fo b c=true):fo a c=true:=by
  by_cases h1:a.aa=b.aa
  · by_cases k1:b.aa=c.aa
    · by_cases h2:a.Kind=b.Kind
      · by_cases k2:b.Kind=c.Kind
        · rw[tQ h1 h2,cB] at h
          rw[tQ k1 k2,cB] at k
          rw[tQ (h1.trans k1) (h2.trans k2),cB];omega
        · rw[p7 k1 k2,cB] at k
          rw[p7 (h1.trans k1) (by rw[h2];exact k2),cB,h2];exact k
      · rw[p7 h1 h2,cB] at h
        by_cases k2:b.Kind=c.Kind
        · rw[p7 (h1.trans k1) (by rw[←k2];exact h2),cB,←k2];exact h
        · rw[p7 k1 k2,cB] at k
          rw[p7 (h1.trans k1) (by omega),cB];omega
    · rw[p6 k1] at k
      rw[p6 (by rw[h1];exact k1),h1];exact k
  · rw[p6 h1] at h
    by_cases k1:b.aa=c.aa
    · rw[p6 (by rw[←k1];exact h1),←k1];exact h
    · rw[p6 k1] at k
      have:=w8 h k
      rw[p6 (BZ this)];exact this
theorem Jq {a b:ah} (h:a.aa=b.aa) (k:a.Kind=b.Kind) (c:a.Client=b.Client):a=b:=by
  obtain⟨a0,a1,a2⟩:=a;obtain⟨b0,b1,b2⟩:=b
  simp only at h k c
  rw[h,k,c]
theorem Rj {a b:ah} (h:fo a b=false) (k:fo b a=false):a=b:=by
  by_cases h1:a.aa=b.aa
  · by_cases h2:a.Kind=b.Kind
    · rw[tQ h1 h2,jP] at h
      rw[tQ h1.symm h2.symm,jP] at k
      exact Jq h1 h2 (by omega)
    · rw[p7 h1 h2,jP] at h
      rw[p7 h1.symm (fun e=>h2 e.symm),jP] at k
      omega
  · rw[p6 h1] at h
    rw[p6 (fun e=>h1 e.symm)] at k
    exact absurd (zb h k) h1
theorem Rk {a b:ah} (h:fo a b=true):fo b a=false:=by
  cases hk:fo b a with
  |false=>rfl
  |true=>have:=xL h hk;rw[xK] at this;cases this
theorem Jr (a b:ah):(fo a b=true∧jY a b= -1)∨(a=b∧jY a b=0)∨(fo b a=true∧jY a b=1):=by
  unfold jY
  by_cases h1:a.aa=b.aa
  · have e1:mu a.aa b.aa=0:=by simp[mu,h1,uR]
    by_cases h2:a.Kind=b.Kind
    · have e2:kR a.Kind b.Kind=0:=by simp[kR,h2]
      rw[e1,e2,tQ h1 h2,tQ h1.symm h2.symm]
      simp only[jy,iA]
      unfold kR
      by_cases h3:a.Client<b.Client
      · left;simp[h3]
      · by_cases h4:b.Client<a.Client
        · right;right;simp[h3,h4]
        · right;left
          exact⟨Jq h1 h2 (by omega),by simp[h3,h4]⟩
    · rw[e1,p7 h1 h2,p7 h1.symm (fun e=>h2 e.symm)]
      simp only[jy,iA]
      unfold kR
      by_cases h3:a.Kind<b.Kind
      · left;simp[h3]
      · right;right
        have h4:b.Kind<a.Kind:=by omega
        simp[h3,h4]
  · rw[p6 h1,p6 (fun e=>h1 e.symm)]
    unfold mu
    cases h:Go.Op.bytesLess a.aa b.aa with
    |true=>left;simp[jy]
    |false=>
     right;right
     have:Go.Op.bytesLess b.aa a.aa=true:=by
       cases hk:Go.Op.bytesLess b.aa a.aa with
       |true=>rfl
       |false=>exact absurd (zb h hk) h1
     have hne:(a.aa==b.aa)=false:=by simpa using h1
     simp[this,hne,jy]
theorem xM {a b:ah}:jY a b<0↔fo a b=true:=by
  rcases Jr a b with ⟨h,e⟩|⟨h,e⟩|⟨h,e⟩
  · simp[h,e]
  · subst h;simp[e,xK]
  · simp[e,Rk h]
theorem Js {a b:ah}:jY a b=0↔a=b:=by
  rcases Jr a b with ⟨h,e⟩|⟨h,e⟩|⟨h,e⟩
  · rw[e];simp;intro u;subst u;rw[xK] at h;cases h
  · rw[e];simp[h]
  · rw[e];simp;intro u;subst u;rw[xK] at h;cases h
def iX (xs:List ah):Prop:=xs.Pairwise fun a b=>fo a b=true
theorem iX.nil:iX []:=List.Pairwise.nil
theorem iX.filter {xs:List ah} (h:iX xs) (q:ah→Bool):iX (xs.filter q):=List.Pairwise.filter q h
theorem iX.at {xs:List ah} (h:iX xs) {i j:Nat} {x y:ah} (u:i<j) (hx:xs[i]?=some x) (hy:xs[j]?=some y):fo x y=true:=by
  obtain⟨hi,rfl⟩:=dL.1 hx
  obtain⟨hj,rfl⟩:=dL.1 hy
  exact oB.1 h i j hi hj u
def Lo (xs:List ah) (w:ah) (i:Int):Prop:=∀(k:Nat) x,(k:Int)<i→xs[k]?=some x→fo x w=true
def Hi (xs:List ah) (w:ah) (i:Int):Prop:=∀(k:Nat) x,i≤(k:Int)→xs[k]?=some x→fo x w=false
theorem Rl (xs:List ah) (w:ah):Lo xs w 0:=fun k x h=>by omega
theorem Rm (xs:List ah) (w:ah):Hi xs w xs.length:=fun k x h hx=>by have:=(dL.1 hx).1;omega
theorem Rn {xs:List ah} {w:ah} (hs:iX xs) {i m:Int} {x:ah} (h:Lo xs w i) (h0:0≤m) (hx:xs[m.toNat]?=some x) (hc:jY x w<0):Lo xs w (m+1):=by
  intro k y hk hy
  rcases oo k m.toNat with hl|hl
  · exact xL (hs.at hl hy hx) (xM.1 hc)
  · have:k=m.toNat:=by omega
    subst this
    rw[hx] at hy;cases hy;exact xM.1 hc
theorem Ro {xs:List ah} {w:ah} (hs:iX xs) {m:Int} {x:ah} (h0:0≤m) (hx:xs[m.toNat]?=some x) (hc:¬(jY x w<0)):Hi xs w m:=by
  intro k y hk hy
  have u:fo x w=false:=by cases h:fo x w with|false=>rfl|true=>exact absurd (xM.2 h) hc
  rcases oo m.toNat k with hl|hl
  · cases h:fo y w with
    |false=>rfl
    |true=>have:=xL (hs.at hl hx hy) h;rw[u] at this;cases this
  · have:k=m.toNat:=by omega
    subst this
    rw[hx] at hy;cases hy;exact u
def nA (xs:List ah) (w:ah):Nat:=(xs.takeWhile fun x=>fo x w).length
def mS (xs:List ah) (w:ah):Bool:=decide (w∈xs)
theorem Jt {xs:List ah} {w:ah} {i:Int} (h0:0≤i) (hn:i≤xs.length) (hl:Lo xs w i) (hh:Hi xs w i):i=(nA xs w:Int):=by
  have h1:∀x∈xs.take i.toNat,fo x w=true:=by
    intro x hx
    obtain⟨k,hk⟩:=nh.1 hx
    rw[o7] at hk
    split at hk
    · exact hl k x (by omega) hk
    · cases hk
  unfold nA
  have h2:(xs.takeWhile fun x=>fo x w)=xs.take i.toNat:=by
    conv=>lhs;rw[←mJ i.toNat xs]
    rw[List.takeWhile_append_of_pos (by simpa using h1)]
    cases hd:xs.drop i.toNat with
    |nil=>simp
    |cons y ys=>
     have:xs[i.toNat]?=some y:=by
       have:=congrArg (fun l=>l[0]?) hd
       simpa using this
     rw[Jg (by simp[hh i.toNat y (by omega) this])]
     simp
  rw[h2,dD,jB (by omega)]
  omega
theorem Rp {xs:List ah} {w x:ah} {i:Int} (hx:xs[i.toNat]?=some x) (hc:jY x w=0):mS xs w=true:=by
  rw[Js] at hc
  subst hc
  exact eW (cL hx)
theorem Ju {xs:List ah} {w:ah} {i:Int} (h0:0≤i) (hs:iX xs) (hl:Lo xs w i) (hh:Hi xs w i) (hi:∀x,xs[i.toNat]?=some x→x≠w):mS xs w=false:=by
  refine fU fun hm=>?_
  obtain⟨k,hk⟩:=nh.1 hm
  rcases Int.lt_or_le k i with h|h
  · have:=hl k w h hk;rw[xK] at this;cases this
  · rcases oo i.toNat k with h'|h'
    · have hlt:=(dL.1 hk).1
      have h1:xs[i.toNat]?=some xs[i.toNat]:=kE (by omega)
      have h2:=hh i.toNat _ (by omega) h1
      rw[hs.at h' h1 hk] at h2;cases h2
    · have:k=i.toNat:=by omega
      subst this
      exact hi w hk rfl
theorem Rq {xs:List ah} {w x:ah} {i:Int} {b:Bool} (h0:0≤i) (hs:iX xs) (hl:Lo xs w i) (hh:Hi xs w i) (hx:xs[i.toNat]?=some x) (hb:b=(jY x w==0)):b=mS xs w:=by
  subst hb
  by_cases hc:jY x w=0
  · rw[Rp hx hc];simpa using hc
  · rw[Ju h0 hs hl hh fun y hy=>by rw[hx] at hy;cases hy;exact fun e=>hc (Js.2 e)];simpa using hc
theorem Rr {xs:List ah} {w:ah} {i:Int} (h0:0≤i) (hs:iX xs) (hl:Lo xs w i) (hh:Hi xs w i) (hn:¬(i<(xs.length:Int))):false=mS xs w:=by
  rw[Ju h0 hs hl hh fun y hy=>by have:=(dL.1 hy).1;omega]
def nB {α:Type} (xs:List α) (i:Int) (ys:List α):List α:=xs.take i.toNat++ys++xs.drop i.toNat
theorem Rs {α:Type} {xs ys:List α} {i:Int} (h:(ys.length:Int)=0):xs=nB xs i ys:=by
  have:ys=[]:=lg (by omega)
  subst this;simp[nB]
theorem Rt {α:Type} {xs ys:List α} {i:Int} (h:i=xs.length):xs++ys=nB xs i ys:=by
  subst h;simp[nB]
theorem Dg {α:Type} {a b c:List α} (h:c.length≤b.length):putAt (a++b) a.length c=a++c++b.drop c.length:=by
  simp[putAt,uq]
theorem Dh {α:Type} {ys:List α} {k:Nat} (h:ys.length≤k):ys.take k=ys:=eR h
theorem Ru {α:Type} {xs ys:List α} {z:α} {i k m:Int} (h0:0≤i) (hi:i≤xs.length) (hm:m=i+ys.length) (hk:k=xs.length+ys.length-i):
    putAt (putAt (xs.take i.toNat++List.replicate k.toNat z) i.toNat (ys.take ((xs.take i.toNat++List.replicate k.toNat z).length-i.toNat))) m.toNat
      ((xs.drop i.toNat).take ((putAt (xs.take i.toNat++List.replicate k.toNat z) i.toNat (ys.take ((xs.take i.toNat++List.replicate k.toNat z).length-i.toNat))).length-m.toNat))=nB xs i ys:=by
  subst hm
  subst hk
  have e1:(xs.take i.toNat).length=i.toNat:=by rw[dD];omega
  have e2:(xs.take i.toNat++List.replicate (xs.length+ys.length-i:Int).toNat z).length-i.toNat=(xs.length+ys.length-i:Int).toNat:=by rw[b_,e1,oz];omega
  have I:ys.take ((xs.take i.toNat++List.replicate (xs.length+ys.length-i:Int).toNat z).length-i.toNat)=ys:=by rw[e2];exact Dh (ys:=ys) (by omega)
  rw[I]
  have e3:=Dg (a:=xs.take i.toNat) (b:=List.replicate (xs.length+ys.length-i:Int).toNat z) (c:=ys) (by simp;omega)
  rw[e1] at e3
  rw[e3,List.drop_replicate]
  have u:(xs.take i.toNat++ys).length=(i+ys.length:Int).toNat:=by rw[b_,e1];omega
  have D:(xs.drop i.toNat).length=xs.length-i.toNat:=gx
  have J:(xs.take i.toNat++ys++List.replicate ((xs.length+ys.length-i:Int).toNat-ys.length) z).length-(i+ys.length:Int).toNat=xs.length-i.toNat:=by
    rw[b_,u,oz];omega
  rw[J,Dh (ys:=xs.drop i.toNat) (by omega)]
  have G:=Dg (a:=xs.take i.toNat++ys) (b:=List.replicate ((xs.length+ys.length-i:Int).toNat-ys.length) z) (c:=xs.drop i.toNat) (by rw[D,oz];omega)
  rw[u] at G
  have O:(List.replicate ((xs.length+ys.length-i:Int).toNat-ys.length) z).drop (xs.drop i.toNat).length=[]:=mH (by rw[oz,D];omega)
  rw[G,O,dh]
  rfl
theorem Rv {α:Type} {xs ys zs:List α} {i m:Int} (h0:0≤i) (hi:i≤xs.length) (hm:m=i+ys.length) (hz:zs.length=xs.length+ys.length) {k:Nat} (ht:zs.take xs.length=xs.take k) (hk:xs.length≤k):
    putAt (putAt zs m.toNat ((zs.drop i.toNat).take (zs.length-m.toNat))) i.toNat (ys.take ((putAt zs m.toNat ((zs.drop i.toNat).take (zs.length-m.toNat))).length-i.toNat))=nB xs i ys:=by
  subst hm
  rw[eR hk] at ht
  have e1:(zs.drop i.toNat).take (zs.length-(i+ys.length:Int).toNat)=xs.drop i.toNat:=by
    rw[hz,show xs.length+ys.length-(i+ys.length:Int).toNat=xs.length-i.toNat from by omega,←q8,ht]
  rw[e1]
  have e2:putAt zs (i+ys.length:Int).toNat (xs.drop i.toNat)=zs.take (i+ys.length:Int).toNat++xs.drop i.toNat:=by
    have:zs.drop ((i+ys.length:Int).toNat+(xs.drop i.toNat).length)=[]:=mH (by rw[gx,hz];omega)
    unfold putAt
    rw[this,dh]
  rw[e2]
  have e3:zs.take (i+ys.length:Int).toNat=xs.take i.toNat++(zs.drop i.toNat).take ys.length:=by
    rw[show(i+ys.length:Int).toNat=i.toNat+ys.length from by omega,wz]
    congr 1
    rw[←ht,qo,jB (by omega)]
  have D:(xs.take i.toNat).length=i.toNat:=by rw[dD];omega
  have u:((zs.drop i.toNat).take ys.length).length=ys.length:=by rw[dD,gx,hz];omega
  rw[e3,cI]
  have I:(xs.take i.toNat++((zs.drop i.toNat).take ys.length++xs.drop i.toNat)).length-i.toNat=xs.length+ys.length-i.toNat:=by
    rw[b_,D,b_,u,gx];omega
  rw[I,Dh (ys:=ys) (by omega)]
  have G:=Dg (a:=xs.take i.toNat) (b:=(zs.drop i.toNat).take ys.length++xs.drop i.toNat) (c:=ys) (by rw[b_,u];omega)
  rw[D] at G
  rw[G,uq,u,Bc,mH (by omega),dY,ux]
  rfl
theorem tT {α:Type} {q:α→Bool}:∀{l:List α},eC q l≠ -1→(l.take (eC q l).toNat).filter q=[]∧(∃x,l[(eC q l).toNat]?=some x∧q x=true∧l.find? q=some x)∧0≤eC q l∧eC q l<l.length
  |[],h=>by simp[eC] at h
  |x::xs,h=>by
   unfold eC at h ⊢
   by_cases hq:q x=true
   · simp only[hq,iA]
     refine⟨by simp,⟨x,by simp,hq,by simp[hq]⟩,by omega,by simp⟩
   · simp only[hq,de] at h ⊢
     by_cases hn:eC q xs<0
     · rw[aL hn] at h;exact absurd rfl h
     · rw[aB hn]
       have hg:=wW q xs
       obtain⟨h1,⟨y,h2,h3,h4⟩,h5,h6⟩:=tT (q:=q) (l:=xs) (by omega)
       simp only[fZ,de]
       rw[toNat_succ h5]
       refine⟨by simp[hq,h1],⟨y,by simpa using h2,h3,by simp[hq,h4]⟩,by omega,by simp;omega⟩
theorem xN {α:Type} {q:α→Bool}:∀{l:List α},eC q l= -1→l.filter q=[]∧l.find? q=none
  |[],_=>by simp
  |x::xs,h=>by
   unfold eC at h
   by_cases hq:q x=true
   · simp[hq] at h
   · simp only[hq,de] at h
     by_cases hn:eC q xs<0
     · have hg:=wW q xs
       obtain⟨h1,h2⟩:=xN (q:=q) (l:=xs) (by omega)
       simp only[wO] at hq
       simp only[ju,wH,hq,h1,h2,fZ,de,and_self]
     · rw[aB hn] at h;omega
theorem Di {α:Type} {q:α→Bool}:∀{l:List α},l.filter q=[]→l.filter (fun x=>!q x)=l
  |[],_=>rfl
  |x::xs,h=>by
   cases hq:q x with
   |true=>simp[hq] at h
   |false=>simp only[ju,hq,fZ,de,qw,iA] at h ⊢;rw[Di h]
theorem Rw {α:Type} {q:α→Bool} {l out:List α} {i:Int} {x:α} (H:findAt q l i) (hx:l[i.toNat]?=some x) (hq:q x=true) (h0:0≤i):out++[x]=out++(l.find? q).toList:=by
  have hi:=td H hx hq
  obtain⟨_,⟨y,h2,_,h4⟩,_⟩:=tT (q:=q) (l:=l) (by omega)
  rw[←hi,hx] at h2
  cases h2
  rw[h4];rfl
theorem Rx {α:Type} {q:α→Bool} {l out:List α} {i:Int} (H:findAt q l i) (hi:¬(i<(l.length:Int))):out=out++(l.find? q).toList:=by
  rw[(xN (tf H hi).symm).2];simp
structure p9 (xs ys o2 out:List ah) (q:ah→Bool) (i j:Int):Prop where
  len:ys.length=xs.length
  low:ys.take i.toNat=(xs.take j.toNat).filter fun w=>!q w
  high:ys.drop j.toNat=xs.drop j.toNat
  out:o2=out++(xs.take j.toNat).filter q
theorem Ry {xs out:List ah} {q:ah→Bool} (h:¬(eC q xs= -1)):p9 xs xs (out++(xs.find? q).toList) out q (eC q xs) (eC q xs+1):=by
  obtain⟨h1,⟨x,h2,h3,h4⟩,h5,h6⟩:=tT h
  refine⟨rfl,?_,rfl,?_⟩
  · rw[toNat_succ h5,fu h2,nK,Di h1];simp[h3]
  · rw[toNat_succ h5,fu h2,nK,h1,h4];simp[h3]
section
variable {xs ys o2 out:List ah} {q:ah→Bool} {i j:Int} {x y:ah}
theorem p9.at (H:p9 xs ys o2 out q i j) (hx:ys[j.toNat]?=some x):xs[j.toNat]?=some x:=by
  have:=congrArg (fun l=>l[0]?) H.high
  simp only[s9,m_] at this
  rw[←this];exact hx
theorem Rz (H:p9 xs ys o2 out q i j) (h0:0≤i) (u:i<j) (hx:ys[j.toNat]?=some x) (hq:q x=false):p9 xs (ys.set i.toNat x) o2 out q (i+1) (j+1):=by
  have hx':=H.at hx
  have hj:=(dL.1 hx).1
  refine⟨by rw[r9];exact H.len,?_,?_,?_⟩
  · rw[toNat_succ h0,toNat_succ (by omega),fu (x:=x) (by rw[List.getElem?_set_self (by omega)]),List.take_set_of_le (iO _),H.low,fu hx',nK]
    simp[hq]
  · rw[List.drop_set_of_lt (by omega),toNat_succ (by omega)]
    have:=congrArg (List.drop 1) H.high
    simpa using this
  · rw[H.out,toNat_succ (by omega),fu hx',nK];simp[hq]
theorem RA (H:p9 xs ys o2 out q i j) (h0:0≤j) (hx:ys[j.toNat]?=some x) (hq:q x=true):p9 xs ys (o2++[x]) out q i (j+1):=by
  have hx':=H.at hx
  refine⟨H.len,?_,?_,?_⟩
  · rw[H.low,toNat_succ h0,fu hx',nK];simp[hq]
  · rw[toNat_succ h0]
    have:=congrArg (List.drop 1) H.high
    simpa using this
  · rw[H.out,toNat_succ h0,fu hx',nK];simp[hq]
theorem Jv (H:p9 xs ys o2 out q i j) (hj:¬(j<(ys.length:Int))) (h0:0≤i) (hi:i≤ys.length) (zs:List ah):(putAt ys i.toNat zs).take i.toNat=xs.filter (fun w=>!q w)∧o2=out++xs.filter q:=by
  have e:=H.len
  have hl:=H.low
  have ho:=H.out
  have ht:xs.take j.toNat=xs:=eR (by omega)
  rw[ht] at hl ho
  refine⟨?_,ho⟩
  rw[←hl]
  unfold putAt
  rw[cI,wg (by rw[dD];omega)]
end
theorem RB {xs ys o2 out:List ah} {q:ah→Bool} {i j:Int} (H:p9 xs ys o2 out q i j) (h0:0≤i):o2.length≤out.length+xs.length:=by
  rw[H.out,b_]
  have:=kG q (xs.take j.toNat)
  have:=List.length_take_le' j.toNat xs
  omega
theorem RC (xs:List ah) (w:ah):nA xs w≤xs.length:=(List.takeWhile_sublist _).length_le
theorem RD (u:List Int) (w:ah):(u.any fun z=>decide (w.Client=z))=p5 u w:=by
  unfold p5;congr 1;funext z;rw[oI];simp[eq_comm]
theorem RE {kind:Int} {cZ:List aj} {w:ah} (h:w.Kind=kind):(cZ.any fun z=>decide (w.aa=z))=fY kind cZ w:=by
  unfold fY
  rw[eW h,lB]
  congr 1;funext z;rw[oI];simp[eq_comm]
theorem RF {kind:Int} {cZ:List aj} {w:ah} (h:¬(w.Kind=kind)):false=fY kind cZ w:=by
  unfold fY
  rw[fU h,uY]
def nC (xs:List ah) (w:ah):Int:=if fP w=false then 90 else if mS xs w=true then 0 else if (cnt w.Client xs:Int)≥8 then 104 else 0
def nD (xs:List ah) (w:ah):List ah:=if fP w=false then xs else if mS xs w=true then xs else if (cnt w.Client xs:Int)≥8 then xs else nB xs (nA xs w) [w]
def kS (l:List ah) (k:Nat):Bool:=match l[k]? with
  |none=>true
  |some w=>fP w&&((decide (k=0)||fo (vj l ((k:Int)-1)) w)&&decide ((cnt w.Client l:Int)≤8))
def jZ (l:List ah):Bool:=(List.range l.length).all (kS l)
def jm (xs l:List ah):List ah:=if jZ l=true then l else xs
def xO (l:List ah) (i:Int):Prop:=∀k:Nat,(k:Int)<i→kS l k=true
theorem RG (l:List ah):xO l 0:=fun k h=>by omega
theorem Jw {l:List ah} {i:Int} (h:xO l i) (h0:0≤i) (hs:kS l i.toNat=true):xO l (i+1):=fun k hk=>by
  by_cases he:(k:Int)<i
  · exact h k he
  · have:k=i.toNat:=by omega
    rw[this];exact hs
theorem Jx {l:List ah} {i:Int} (h:xO l i) (hi:¬(i<(l.length:Int))):jZ l=true:=by
  unfold jZ
  rw[gR]
  intro k hk
  exact h k (by have:=q4.1 hk;omega)
theorem sn {l:List ah} {i:Int} {x:ah} (h0:0≤i) (hx:l[i.toNat]?=some x) (hs:kS l i.toNat=false):jZ l=false:=by
  cases h:jZ l with
  |false=>rfl
  |true=>
   unfold jZ at h
   rw[gR] at h
   have:=h i.toNat (q4.2 (dL.1 hx).1)
   rw[hs] at this;cases this
section
variable {l:List ah} {i:Int} {x y:ah}
theorem Jy (hx:l[i.toNat]?=some x) (h:fP x=false):kS l i.toNat=false:=by simp[kS,hx,h]
theorem Jz (h0:0<i) (hy:l[(i-1).toNat]?=some y):vj l ((i.toNat:Int)-1)=y:=by
  rw[show(i.toNat:Int)-1=i-1 from by omega];exact Jp hy
theorem JA (h0:0<i) (hx:l[i.toNat]?=some x) (hy:l[(i-1).toNat]?=some y) (h:fo y x=false):kS l i.toNat=false:=by
  have:¬(i.toNat=0):=by omega
  have hp:=Jz h0 hy
  unfold kS
  rw[hx]
  simp only[hp,h,fU this,qA,Bool.false_and,uY]
theorem Ai (hx:l[i.toNat]?=some x) (h:¬((cnt x.Client l:Int)≤8)):kS l i.toNat=false:=by unfold kS;rw[hx];simp only[fU h,uY]
theorem RH (hx:l[i.toNat]?=some x) (h:fP x=true) (h0:i=0) (hc:(cnt x.Client l:Int)≤8):kS l i.toNat=true:=by subst h0;simp only[yN] at hx;unfold kS;rw[yN,hx];simp only[h,eW hc,ry,Bool.true_or,lB]
theorem RI (hx:l[i.toNat]?=some x) (h:fP x=true) (h0:0<i) (hy:l[(i-1).toNat]?=some y) (h2:fo y x=true) (hc:(cnt x.Client l:Int)≤8):kS l i.toNat=true:=by
  have:¬(i.toNat=0):=by omega
  have hp:=Jz h0 hy
  unfold kS
  rw[hx]
  simp only[hp,h,h2,eW hc,Bool.or_true,lB]
theorem JB {a b:ah} (h:jY a b≥0):fo a b=false:=by
  cases hl:fo a b with
  |false=>rfl
  |true=>have:=xM.2 hl;omega
theorem RJ {a b:ah} (h:¬(jY a b≥0)):fo a b=true:=xM.1 (by omega)
end
abbrev gL:=List (Int×List ah)
structure Sp where
  an:List af
  aD:List ah
  az:fm
  ax:Int
  count:Int
  events:gL
  aI:List (Int×f_)
def eM:Sp:=⟨[⟨[47],[],0, -1,0,0⟩],[],[],0,0,[],[]⟩
def nX (e:gL) (w:ah):gL:=b7 e w.Client ((bW e w.Client).getD []++[w])
def eV (e:gL) (ws:List ah):gL:=ws.foldl nX e
def su (s:Sp) (kind:Int) (cZ:List aQ):Sp:=
  {s with aD:=s.aD.filter (fun w=>!fY kind cZ w),events:=eV s.events (s.aD.filter (fY kind cZ))}
def vk (s:Sp) (p:aQ):Sp:=su (su s 1 [p]) 2 [parentOf p]
section
variable {e f:gL} {ws:List ah} {w:ah} {i:Int} {s:Sp}
theorem JC (h:f=eV e (ws.take i.toNat)) (h0:0≤i) (hx:ws[i.toNat]?=some w):b7 f w.Client ((bW f w.Client).getD []++[w])=eV e (ws.take (i+1).toNat):=by
  unfold eV at *
  rw[toNat_succ h0,fu hx,r_,←h]
  rfl
theorem RL (h:f=eV e (ws.take i.toNat)) (hi:¬i<(ws.length:Int)):f=eV e ws:=by
  rw[eR (by omega)] at h
  exact h
end
def eE (e:gL) (c:Int):List ah:=(bW e c).getD []
def p_ (ws:List ah) (e:gL):Prop:=∀c,(ws.filter fun w=>decide (w.Client=c)).length+(eE e c).length≤8
section
variable {e f:gL} {ws vs xs:List ah} {w:ah} {i c:Int} {s:Sp} {kind:Int} {cZ:List aQ}
theorem vm (h:f=eV e (ws.take i.toNat)) (h0:0≤i) (hx:ws[i.toNat]?=some w) (hf:bW f w.Client=none):b7 f w.Client ([]++[w])=eV e (ws.take (i+1).toNat):=by
  have:=JC h h0 hx
  rwa[hf] at this
theorem vn (h:f=eV e (ws.take i.toNat)) (h0:0≤i) (hx:ws[i.toNat]?=some w) (hf:bW f w.Client=some xs):b7 f w.Client (xs++[w])=eV e (ws.take (i+1).toNat):=by
  have:=JC h h0 hx
  rwa[hf] at this
theorem RM:eE (nX e w) c=eE e c++(if w.Client=c then [w] else []):=by
  unfold eE nX
  rw[u_]
  by_cases h:w.Client=c
  · subst h;simp
  · rw[aB h,aB h,dh]
theorem Aj:∀(ws:List ah) (e:gL),eE (eV e ws) c=eE e c++ws.filter fun w=>decide (w.Client=c)
  |[],e=>by simp[eV]
  |w::ws,e=>by
   have:=Aj ws (nX e w)
   unfold eV at *
   rw[oE,this,RM,ju,cI]
   by_cases h:w.Client=c<;>simp[h]
theorem RN (Q:p_ vs e) (he:f=eV e ((vs.filter (fY kind cZ)).take i.toNat)) (c:Int):(eE f c).length≤8:=by
  have h1:=Q c
  rw[he,Aj,b_]
  have h2:=(C_ (fun w:ah=>decide (w.Client=c)) ((List.take_sublist i.toNat (vs.filter (fY kind cZ))).trans oJ)).length_le
  omega
theorem JD (Q:p_ vs e) (he:f=eV e ((vs.filter (fY kind cZ)).take i.toNat)) (hf:bW f c=some xs):xs.length≤8:=by
  have:=RN Q he c
  unfold eE at this
  rwa[hf] at this
theorem p_.nY (Q:p_ vs e) (kind:Int) (cZ:List aQ):p_ (vs.filter (fun w=>!fY kind cZ w)) (eV e (vs.filter (fY kind cZ))):=by
  intro c
  have h1:=Q c
  rw[Aj,b_]
  have:∀l:List ah,((l.filter (fun w=>!fY kind cZ w)).filter fun w=>decide (w.Client=c)).length+((l.filter (fY kind cZ)).filter fun w=>decide (w.Client=c)).length=(l.filter fun w=>decide (w.Client=c)).length:=by
    intro l
    induction l with
    |nil=>rfl
    |cons w l ih=>by_cases h1:fY kind cZ w<;>by_cases h2:w.Client=c<;>simp[h1,h2] at ih ⊢<;>omega
  have:=this vs
  omega
end
structure dH (s:Sp):Prop where
  tree:fM s.an
  wl:s.aD.length≤1000
  ws:iX s.aD
  az:gJ s.az
  quo:p_ s.aD s.events
def lE (s:Sp) (p:aQ):Sp:=vk {s with an:=(fL s.an p (-1)).1} p
def sw (s:Sp) (c:Int):Sp:={s with aD:=s.aD.filter (fun w=>!p5 [c] w),events:=fh s.events c,az:=kM (pS [c]) s.az}
def oQ (s:Sp) (c:Int):Sp:=(j_ s.an [c]).foldl lE (sw s c)
def lF (s:Sp) (cs:List Int):Sp:=cs.foldl oQ s
section
variable {s x y:Sp} {p:aQ} {c i q:Int} {ns:List af} {cs:List Int} {ps:List aQ}
theorem dH.nY (H:dH s) (kind:Int) (cZ:List aQ):dH (su s kind cZ):=
  ⟨H.tree,cr (kG _ _) H.wl,H.ws.filter _,H.az,H.quo.nY kind cZ⟩
theorem dH.xP (H:dH s) (p:aQ):dH (vk s p):=(H.nY _ _).nY _ _
theorem fM.sub (H:fM ns) {ms:List af} (h:ms.Sublist ns):fM ms:=⟨cr h.length_le H.1,fun n hn=>H.2 n (h.mem hn)⟩
theorem fM.drop (H:fM ns) (p:aQ) (bA:Int):fM (fL ns p bA).1:=by
  unfold fL
  repeat' split
  all_goals first|exact H|exact H.sub oJ
theorem dH.tr (H:dH s) (h:fM ns):dH {s with an:=ns}:=⟨h,H.wl,H.ws,H.az,H.quo⟩
theorem dH.lE (H:dH s) (p:aQ):dH (lE s p):=(H.tr (H.tree.drop p _)).xP p
theorem dH.Ak (H:dH s):∀ps:List aQ,dH (ps.foldl Sw.lE s):=fun ps=>by
  induction ps generalizing s with
  |nil=>exact H
  |cons p ps ih=>exact ih (H.lE p)
theorem Dj {e:gL}:eE (fh e c) i=if c=i then [] else eE e i:=by
  unfold eE
  rw[HC]
  split<;>rfl
theorem dH.left (H:dH s) (c:Int):dH (sw s c):=by
  refine⟨H.tree,cr (kG _ _) H.wl,H.ws.filter _,H.az.left _,fun i=>?_⟩
  have h1:=H.quo i
  have h2:=(C_ (fun w:ah=>decide (w.Client=i)) (oJ (p:=fun w=>!p5 [c] w) (l:=s.aD))).length_le
  show _+(eE (fh s.events c) i).length≤8
  rw[Dj]
  split
  · simp only[cS];unfold sw;simp only;omega
  · unfold sw;simp only;omega
theorem dH.oQ (H:dH s) (c:Int):dH (oQ s c):=(H.left c).Ak _
theorem dH.xQ (H:dH s):∀cs:List Int,dH (lF s cs):=fun cs=>by
  unfold lF
  induction cs generalizing s with
  |nil=>exact H
  |cons c cs ih=>exact ih (H.oQ c)
theorem RO (h:x=lF s (cs.take i.toNat)) (h0:0≤i) (hc:cs[i.toNat]?=some c):Sw.oQ x c=lF s (cs.take (i+1).toNat):=by
  rw[toNat_succ h0,fu hc,h]
  unfold lF
  rw[r_]
  rfl
theorem RP (h:x=lF s (cs.take i.toNat)) (hi:¬i<(cs.length:Int)):x=lF s cs:=by
  rw[eR (by omega)] at h
  exact h
theorem RQ (h:y=(ps.take q.toNat).foldl Sw.lE x) (h0:0≤q) (hp:ps[q.toNat]?=some p):Sw.lE y p=(ps.take (q+1).toNat).foldl Sw.lE x:=by
  rw[toNat_succ h0,fu hp,h,r_]
  rfl
theorem JE (h:y=(ps.take q.toNat).foldl Sw.lE x) (hi:¬q<(ps.length:Int)):y=ps.foldl Sw.lE x:=by
  rw[eR (by omega)] at h
  exact h
theorem JF (H:fM ns) (h:p∈j_ ns cs):p.length≤64:=by
  unfold j_ at h
  obtain⟨n,hn,rfl⟩:=cF.1 (List.mem_reverse.1 h)
  exact(H.2 n (iH.1 hn).1).1
theorem RR (H:fM ns):(j_ ns cs).length≤1000:=by
  unfold j_
  rw[FU,eu]
  exact cr (kG _ _) H.1
end
def jz (s:Sp) (w:ah):Int:=if w∈s.aD then 0 else if (cnt w.Client s.aD:Int)+(eE s.events w.Client).length≥8 then 104 else nC s.aD w
def xR (s:Sp) (w:ah):List ah:=if w∈s.aD then s.aD else if (cnt w.Client s.aD:Int)+(eE s.events w.Client).length≥8 then s.aD else nD s.aD w
def nZ (s:Sp) (w:ah):Sp:={s with aD:=xR s w}
section
variable {s x y:Sp} {w z:ah} {i n:Int} {ws:List ah}
theorem Dk (c:Int):∀ws:List ah,cnt c ws=(ws.filter fun w=>decide (w.Client=c)).length
  |[]=>rfl
  |w::ws=>by
   have:=Dk c ws
   rw[ju]
   unfold cnt
   by_cases h:w.Client=c
   · simp[h,this];try omega
   · simp[h,this]
theorem RS (ws:List ah) (w:ah):∀z∈ws.take (0:Int).toNat,z≠w:=fun z h=>by simp at h
theorem JG (H:∀z∈ws.take i.toNat,z≠w) (h0:0≤i) (hz:ws[i.toNat]?=some z) (h:¬z=w):∀z∈ws.take (i+1).toNat,z≠w:=by
  rw[toNat_succ h0,fu hz]
  intro y hy
  rcases cU.1 hy with hy|hy
  · exact H y hy
  · rw[gv.1 hy];exact h
theorem sx (H:∀z∈ws.take i.toNat,z≠w) (h:¬i<(ws.length:Int)):w ∉ ws:=by
  rw[eR (by omega)] at H
  exact fun hm=>H w hm rfl
theorem Al (hx:s.aD[i.toNat]?=some z) (h:z=w):jz s w=0∧nZ s w=s:=by
  have:w∈s.aD:=h▸cL hx
  exact⟨by rw[jz,aL this],by rw[nZ,xR,aL this]⟩
theorem Am (h1:w ∉ s.aD) (hn:n=(cnt w.Client s.aD:Int)+(eE s.events w.Client).length) (h:n≥8):jz s w=104∧nZ s w=s:=
  ⟨by rw[jz,aB h1,aL (by omega)],by rw[nZ,xR,aB h1,aL (by omega)]⟩
theorem An (h1:w ∉ s.aD) (hn:n=(cnt w.Client s.aD:Int)+(eE s.events w.Client).length) (h:¬n≥8):jz s w=nC s.aD w∧nZ s w={s with aD:=nD s.aD w}:=
  ⟨by rw[jz,aB h1,aB (by omega)],by rw[nZ,xR,aB h1,aB (by omega)]⟩
theorem RT {e:gL} {c:Int} (h:bW e c=none):(0:Int)=(eE e c).length:=by unfold eE;rw[h];rfl
theorem JH {e:gL} {c:Int} {xs:List ah} (h:bW e c=some xs):(xs.length:Int)=(eE e c).length:=by unfold eE;rw[h];rfl
end
def n4 (o:aC):Int:=if o.Kind=7 then 2 else 1
def n5 (s:Sp) (o:aC) (x:Result):Result:=
  if o.Kind=7 then {x with bF:=(iS s.an o.aa).1,Code:=(iS s.an o.aa).2}
  else if (bR s.an o.aa).2=0 then {x with Code:=(bR s.an o.aa).2,af:=(bR s.an o.aa).1} else {x with Code:=(bR s.an o.aa).2}
def mT (s:Sp) (client:Int) (o:aC):Sp:=if o.ah=true then nZ s ⟨client,n4 o,o.aa⟩ else s
def n6 (s:Sp) (client:Int) (o:aC) (x:Result):Result:=
  if o.ah=true∧jz s ⟨client,n4 o,o.aa⟩≠0 then {x with Code:=jz s ⟨client,n4 o,o.aa⟩} else n5 s o x
section
variable {s x y:Sp} {client:Int} {o:aC} {r z:Result}
theorem RU (h:o.Kind=7):2=n4 o:=by rw[n4,aL h]
theorem RV (h:¬o.Kind=7):1=n4 o:=by rw[n4,aB h]
theorem JI (h:o.ah=true):nZ s ⟨client,n4 o,o.aa⟩=mT s client o:=by rw[mT,aL h]
theorem RW (h:o.ah=false):s=mT s client o:=by rw[mT,aB (by rw[h];decide)]
theorem RX (h:o.ah=false):n6 s client o r=n5 s o r:=by rw[n6,aB (by rw[h];simp)]
theorem RY (h:o.ah=true) (he:jz s ⟨client,n4 o,o.aa⟩=0) (c:Int):n6 s client o r=n5 s o {r with Code:=c}:=by
  rw[n6,aB (fun h'=>h'.2 he)]
  rfl
theorem RZ (h:o.ah=true) (he:jz s ⟨client,n4 o,o.aa⟩≠0):{r with Code:=jz s ⟨client,n4 o,o.aa⟩}=n6 s client o r:=by
  rw[n6,aL ⟨h,he⟩]
theorem sy:(mT s client o).an=s.an:=by unfold mT;split<;>rfl
theorem R0 (h:o.Kind=7):n5 s o r={r with bF:=(iS s.an o.aa).1,Code:=(iS s.an o.aa).2}:=by rw[n5,aL h]
theorem JJ (h:¬o.Kind=7) (he:(bR s.an o.aa).2=0):n5 s o r={r with Code:=(bR s.an o.aa).2,af:=(bR s.an o.aa).1}:=by rw[n5,aB h,aL he]
theorem JK (h:¬o.Kind=7) (he:¬(bR s.an o.aa).2=0):n5 s o r={r with Code:=(bR s.an o.aa).2}:=by rw[n5,aB h,aB he]
end
theorem JL (B:World) (h:av) (g:GH) (hg:bf g h) (D:bh g) (x:aj):
  aA prog B 136 #[vS x] h g [] (fun u g' L'=>u=vF∧g'=g∧L'=[]):=by
 exact aA.aq func136 fun R hR=>At.go 1 1 []<|At.rp 4 2 [(3,vS x),(4,vS x)]<|Op.vl 5 (.bool (!((a_ x).toList==(a_ x).toList))) vF (by simp)<|Op.pr 2 2 vF (hR (St.init hg) ⟨(aS (by rfl)),rfl,rfl⟩)
theorem JM (B:World) (h:av) (g:GH) (hg:bf g h) (D:bh g) (x:Int):
  aA prog B 137 #[vI x] h g [] (fun u g' L'=>u=vF∧g'=g∧L'=[]):=by
 exact aA.aq func137 fun R hR=>At.go 1 1 []<|At.rp 4 2 [(3,vI x),(4,vI x)]<|Op.vl 5 (.bool (x != x)) vF (by simp)<|Op.pr 2 2 vF (hR (St.init hg) ⟨(aS (by rfl)),rfl,rfl⟩)
theorem R1 (B:World) (h:av) (g:GH) (hg:bf g h) (I:bh g) (x:aj) (y:aj):
  aA prog B 114 #[vS x,vS y] h g [] (fun V g' L'=>V=.int .i64 (mu x y)∧g'=g∧L'=[]):=by
 refine aA.aq func114 fun R hR=>?_
 have J:=St.init hg
 refine At.go 1 1 []<|At.rp 3 1 [(7,vS x)]<|Op.c1 8 (JL _ _ _ J.sub I x) J fun Y O=>Op.pg 2 [(5,vF)]<|At.rp 3 1 [(9,vS y)] ?_
 refine Op.c1 10 (JL _ _ _ O.sub I y) O fun Z u=>Op.pg 3 [(6,vF)]<|At.go 4 1 [(11,vF)]<|At.dP 11 11<|At.go 12 1 [(13,vF)] ?_
 refine At.dP 13 15<|At.rp 3 2 [(14,vS x),(15,vS y)]<|Op.vl 16 (.bool (Go.Op.bytesLess (a_ x).toList (a_ y).toList)) (.bool (Go.Op.bytesLess x y)) (by rw[toList_mkS,toList_mkS])<|Op.gt 16<|At.c_ (Go.Op.bytesLess x y) 16 17 19 (fun X=>?_) fun U=>?_
 ·exact At.gr 18 1 4 (vI (-1)) (hR u ⟨(bp (by exact Rc X)),rfl,rfl⟩)
 refine At.rp 3 2 [(17,vS x),(18,vS y)]<|Op.vl 19 (.bool (!(Go.Op.bytesLess (a_ x).toList (a_ y).toList||(a_ x).toList==(a_ y).toList))) (.bool (!(Go.Op.bytesLess x y||x==y))) (by rw[toList_mkS,toList_mkS])<|Op.gt 20<|At.c_ (!(Go.Op.bytesLess x y||x==y)) 19 21 23 (fun D=>?_) fun G=>?_
 ·replace D:=(dm D)
  exact At.gr 22 1 4 (vI 1) (hR u ⟨(bp (by exact Rf U D)),rfl,rfl⟩)
 replace G:=(dn G)
 exact At.gr 24 1 4 (vI 0) (hR u ⟨(bp (by exact Re U G)),rfl,rfl⟩)
theorem JN (B:World) (h:av) (g:GH) (hg:bf g h) (D:bh g) (x:Int) (y:Int):
  aA prog B 115 #[vI x,vI y] h g [] (fun J g' L'=>J=.int .i64 (kR x y)∧g'=g∧L'=[]):=by
 refine aA.aq func115 fun R hR=>?_
 have G:=St.init hg
 refine At.go 1 1 []<|At.rp 3 1 [(7,vI x)]<|Op.c1 8 (JM _ _ _ G.sub D x) G fun O I=>Op.pg 2 [(5,vF)]<|At.rp 3 1 [(9,vI y)] ?_
 refine Op.c1 10 (JM _ _ _ I.sub D y) I fun U u=>Op.pg 3 [(6,vF)]<|At.go 4 1 [(11,vF)]<|At.dP 11 11<|At.go 12 1 [(13,vF)] ?_
 refine At.dP 13 15<|At.go 16 3 [(16,.bool (decide (x<y)))]<|At.fd (x<y) 16 17 19 (fun V=>?_) fun X=>?_
 ·exact At.gr 18 1 4 (vI (-1)) (hR u ⟨(bp (by(unfold kR;rw[aL ‹_›]))),rfl,rfl⟩)
 refine At.go 20 3 [(19,.bool (decide (x>y)))]<|At.fd (x>y) 19 21 23 (fun Y=>?_) fun Z=>?_
 ·exact At.gr 22 1 4 (vI 1) (hR u ⟨(bp (by(unfold kR;rw[aB ‹_›,aL ‹_›]))),rfl,rfl⟩)
 exact At.gr 24 1 4 (vI 0) (hR u ⟨(bp (by(unfold kR;rw[aB ‹_›,aB ‹_›]))),rfl,rfl⟩)
theorem R3 (B:World) (h:av) (g:GH) (hg:bf g h) (a3:bh g) (U:Value) (l:List Int) (V:ay g 3 (eF .i64) U l) (hl:l.length≤1000000000):
  aA prog B 113 #[U] h g [] (fun Z g' L'=>Z=.int .i64 (jy l)∧g'=g∧L'=[]):=by
 obtain⟨X,G,rfl⟩:=V.ai
 refine aA.aq func113 fun R hR=>At.go 1 1 []<|At.go 2 1 [(3,vI 0)]<|At.go 3 3 [(6,vL X l.length G),(7,vI (l.length:Int)),(8,vI 0)] ?_
 have ab:∀(m:Nat) (i:Int) (I:av) (hm:l.length-i.toNat<m) (h0:0≤i) (h2:i≤l.length) (hz:jy l=jy (l.drop i.toNat)) (D:St h g (aM []) g [] I),At (bS prog B 113 f113 R) [] 3 [(3,vI 0),(6,vL X l.length G),(7,vI (l.length:Int)),(8,vI i)] I:=by
  intro m;induction m with
  |zero=>intros;omega
  |succ m ad=>
   intro i I hm h0 h2 hz D
   refine At.go 4 1 [(9,.bool (decide (i<(l.length:Int))))]<|At.fd (i<(l.length:Int)) 9 5 11 (fun a4=>?_) fun ae=>?_
   ·refine At.rg 3 ?_
    obtain⟨u,J⟩:=cD l i
    obtain⟨am,Y,a5,a6,ar,aw,O⟩:=ay.br V _ J
    cases ar
    refine Op.iq 81 3 1 8 l.length G 6 8 10 am Y i ?_
    replace O:cut _ _ _=[vI u]:=O
    refine Op.l1 3 10 11 (Y+i.toNat*1) (vI u) (D.sub _ _ aw) ?_ (hv:=cT O 0 rfl)
    refine Op.pg 6 [(5,vI u)]<|At.go 7 3 [(14,.bool (u != 0))]<|At.fn (u=0) 14 8 10 (fun a0=>?_) fun a1=>?_
    ·exact At.gr 9 2 2 (vI u) (hR D ⟨(bp (by exact Rh hz J a0)),rfl,rfl⟩)
    exact At.rg 2<|Op.vq 16 (i+1)<|Op.pg 3 [(8,vI (i+1))] (At.ke (ad (i+1) _ (by omega) (by omega) (by omega) (by exact Rg hz h0 J a1) D))
   exact At.gr 12 2 2 (vI 0) (hR D ⟨(bp (by exact Ri hz ae)),rfl,rfl⟩)
 exact At.ke (ab _ 0 _ (bK _) (by omega) (by omega) (by rfl) (St.init hg))
theorem Dl (B:World) (h:av) (g:GH) (hg:bf g h) (D:bh g) (a:ah) (b:ah):
  aA prog B 74 #[.agg #[vI a.Client,vI a.Kind,vS a.aa],.agg #[vI b.Client,vI b.Kind,vS b.aa]] h g [] (fun Y g' L'=>Y=.int .i64 (jY a b)∧g'=g∧L'=[]):=by
 refine aA.aq func74 fun R hR=>At.rg 3<|Op.bx 2 69 0 #[vI a.Client,vI a.Kind,vS a.aa] (St.init hg) fun I aw Z=>Op.bx 3 69 1 #[vI b.Client,vI b.Kind,vS b.aa] Z fun J a0 u=>Op.pg 1 [] ?_
 refine At.dw (fun _=>False) [(0,true),(2,true),(5,true),(7,true),(10,true),(12,true),(1,true),(3,true),(6,true),(8,true),(11,true),(13,true),(4,false),(9,false),(14,false),(15,false),(16,false),(17,true)]<|Op.px 6 [(5,vQ I 2),(7,vQ J 2),(10,vQ I 1),(12,vQ J 1),(15,vP I),(17,vP J)]<|Op.lf 9 5 2 6 1 (vS a.aa) id (u.ag 1 rfl)<|Op.lf 9 7 2 8 1 (vS b.aa) id (u.ag 0 rfl)<|Op.lf 3 10 1 11 1 (vI a.Kind) id (u.ag 1 rfl) ?_
 refine Op.lf 3 12 1 13 1 (vI b.Kind) id (u.ag 0 rfl)<|Op.lf 3 15 0 16 1 (vI a.Client) id (u.ag 1 rfl)<|Op.lf 3 17 0 18 1 (vI b.Client) id (u.ag 0 rfl)<|Op.c1 9 (R1 _ _ _ u.sub D a.aa b.aa) u fun a1 U=>Op.c1 14 (JN _ _ _ U.sub D a.Kind b.Kind) U fun a3 V=>?_
 refine Op.c1 19 (JN _ _ _ V.sub D a.Client b.Client) V fun a4 ab=>Op.ls 20 3 3 #[vI (mu a.aa b.aa),vI (kR a.Kind b.Kind),vI (kR a.Client b.Client)] ab fun X a5 G=>?_
 have ad:aF 3 (eF .i64) g (vL (some ⟨X,0,none⟩) 3 3) [mu a.aa b.aa,kR a.Kind b.Kind,kR a.Client b.Client] [(X,Obj.cells #[vI (mu a.aa b.aa),vI (kR a.Kind b.Kind),vI (kR a.Client b.Client)] 3 (0,0))]:=aF.lit (by kernel_rfl) (by unfold maxLen;decide) (by kernel_rfl) ⟨_,_,rfl,rfl,⟨_,_,rfl,rfl,⟨_,_,rfl,rfl,Reads.nil⟩⟩⟩
 have ae:=G.gi
 have am:=ad.fK G
 refine Op.le (some 21) 0 G (R3 _ _ _ G.ij (D.mono ae) _ _ am (by((try dsimp only)<;>((simp;done))))) (fun _ _ _ hp=>by obtain⟨_,O,_⟩:=hp;exact O) ?_ (hM:=(fun _ _ h=>absurd h (gq _)))
 rintro _ _ a6 ar ⟨rfl,O,rfl⟩;clear O
 exact Op.pr 2 4 (vI (jy ([mu a.aa b.aa,kR a.Kind b.Kind,kR a.Client b.Client]))) (hR ar.drop.drop.drop ⟨(bp (by rfl)),rfl,rfl⟩)
theorem R4 (B:World) (h:av) (g:GH) (hg:bf g h) (a5:bh g) (Z:Value) (l:List aj) (ab:ay g 9 ew Z l) (u:aj) (hlen:l.length≤1000000000):
  aA prog B 176 #[Z,vS u] h g [] (fun am g' L'=>am=.int .i64 (eC (fun z=>decide (u=z)) l)∧g'=g∧L'=[]):=by
 obtain⟨ad,J,rfl⟩:=ab.ai
 refine aA.aq func176 fun R hR=>At.go 1 1 []<|At.go 2 3 [(7,vI (l.length:Int)),(8,vI 0)] ?_
 have ar:∀(m:Nat) (i:Int) (O:av) (hm:l.length-i.toNat<m) (h0:0≤i) (h1:i≤l.length) (I:findAt (fun z=>decide (u=z)) l i) (D:St h g (aM []) g [] O),At (bS prog B 176 f176 R) [] 2 [(0,vL ad l.length J),(1,vS u),(7,vI (l.length:Int)),(8,vI i)] O:=by
  intro m;induction m with
  |zero=>intros;omega
  |succ m aw=>
   intro i O hm h0 h1 I D
   refine At.go 3 1 [(9,.bool (decide (i<(l.length:Int))))]<|At.fd (i<(l.length:Int)) 9 4 10 (fun a6=>?_) fun a0=>?_
   ·refine At.go 5 2 [(5,vI i)]<|At.rp 6 3 [(11,vS u),(12,vL ad l.length J),(13,vI i)] ?_
    obtain⟨G,U⟩:=cD l i
    obtain⟨a1,ae,a7,a8,a3,a4,V⟩:=ay.br ab _ U
    cases a3
    refine Op.iq 57 9 1 16 l.length J 12 13 14 a1 ae i ?_
    replace V:cut _ _ _=[vS G]:=V
    refine Op.l1 9 14 15 (ae+i.toNat*1) (vS G) (D.sub _ _ a4) ?_ (hv:=cT V 0 rfl)
    refine Op.vl 16 (.bool ((a_ u).toList==(a_ G).toList)) (.bool (u==G)) (by rw[toList_mkS,toList_mkS])<|Op.gt 6<|At.c_ (u==G) 16 7 9 (fun X=>?_) fun Y=>?_
    ·replace X:=eq_of_beq X
     exact At.gr 8 2 4 (vI i) (hR D ⟨(bp (by exact td I U (eW X))),rfl,rfl⟩)
    replace Y:=rj Y
    exact At.rg 2<|Op.vq 18 (i+1)<|Op.pg 2 [(8,vI (i+1))] (At.ke (aw (i+1) _ (by omega) (by omega) (by omega) (by exact uL I h0 U (fU Y)) D))
   exact At.gr 11 1 4 (vI (-1)) (hR D ⟨(bp (by exact tf I a0)),rfl,rfl⟩)
 exact At.ke (ar _ 0 _ (bK _) (by omega) (by omega) (by exact uK _ _) (St.init hg))
theorem R5 (B:World) (h:av) (g:GH) (hg:bf g h) (J:bh g) (D:Value) (l:List aj) (G:ay g 9 ew D l) (u:aj) (hlen:l.length≤1000000000):
  aA prog B 155 #[D,vS u] h g [] (fun O g' L'=>O=.bool (l.any (fun z=>decide (u=z)))∧g'=g∧L'=[]):=by
 obtain⟨U,V,rfl⟩:=G.ai
 refine aA.aq func155 fun R hR=>?_
 have I:=St.init hg
 exact At.go 1 1 []<|At.rp 5 2 [(5,vL U l.length V),(6,vS u)]<|Op.c1 7 (R4 _ _ _ I.sub J _ _ G u (by(try dsimp only)<;>omega)) I fun Y X=>Op.pr 2 4 (.bool (decide ((eC (fun z=>decide (u=z)) l)≥0))) (hR X ⟨(aS (by exact uJ _ _)),rfl,rfl⟩)
theorem JO (B:World) (h:av) (g:GH) (hg:bf g h) (a1:bh g) (D:Value) (s:List ah) (u:ay g 69 cu D s) (hl:s.length≤1000000000):
  aA prog B 76 #[D] h g [] (fun ab g' L'=>∃v0 G,ab=v0∧aF 69 cu g' v0 s G∧g'=g∧L'=[G]):=by
 obtain⟨I,J,rfl⟩:=u.ai
 refine aA.aq func76 fun R hR=>?_
 have O:=St.init hg
 refine At.go 1 1 []<|At.rp 2 1 [(3,vL I s.length J)] ?_
 rcases I with _|a20
 ·refine Op.vl 4 vT vT rfl<|Op.gt 2<|At.bX 4 3<|At.go 4 1 [(2,vN)] ?_
  have ad:=aF.zero 69 cu g none
  exact At.rt vN (hR O.nl ⟨vN,[],rfl,dZ ad (by exact(ay.Fg u).symm),rfl,rfl⟩)
 refine Op.vl 4 vF vF rfl<|Op.gt 2<|At.dP 4 5<|At.rg 4<|Op.ls 5 0 69 #[] O fun U a3 V=>?_
 refine Op.px 1 [(6,vL (some a20) s.length J)] ?_
 have ae:aF 69 cu g (vL (some ⟨U,0,none⟩) 0 0) ([]:List ah) [(U,Obj.cells #[] 69 (0,0))]:=aF.lit (by kernel_rfl) (by unfold maxLen;decide) (by kernel_rfl) Reads.nil
 obtain⟨a4,am,ar⟩:=di.slice (P:=prog) (u.toH V.sub)
 refine Op.ap 5 6 42 42 7 69 32 cu (ys:=s) ae V 0 ar (by(simp only[cS];omega)) (fun _ _ _=>trivial) am fun a5 aw a6 X a0 a7=>?_
 obtain⟨Y,Z,rfl⟩:=X.ai
 exact Op.pr 6 2 (vL Y ((([]:List ah)++s).length) Z) (hR a0 ⟨(vL Y ((([]:List ah)++s).length) Z),aw,rfl,dZ X (by(simp;done)),rfl,rfl⟩)
theorem Dm (B:World) (h:av) (g:GH) (hg:bf g h) (a7:bh g) (V:Value) (list:List ah) (X:ay g 69 cu V list) (client:Int) (hlen:list.length≤1000000000):
  aA prog B 75 #[V,vI client] h g [] (fun ad g' L'=>ad=.int .i64 (cnt client list:Int)∧g'=g∧L'=[]):=by
 obtain⟨Y,G,rfl⟩:=X.ai
 refine aA.aq func75 fun R hR=>At.go 1 1 []<|At.go 2 1 [(5,vI 0)]<|At.go 3 3 [(8,vL Y list.length G),(9,vI (list.length:Int)),(10,vI 0)] ?_
 have ae:∀(m:Nat) (n:Int) (i:Int) (I:av) (hm:list.length-i.toNat<m) (h0:0≤i) (h1:i≤list.length) (hn0:0≤n) (am:n≤i) (hn:n+(cnt client (list.drop i.toNat):Int)=cnt client list) (D:St h g (aM []) g [] I),At (bS prog B 75 f75 R) [] 3 [(1,vI client),(5,vI n),(8,vL Y list.length G),(9,vI (list.length:Int)),(10,vI i)] I:=by
  intro m;induction m with
  |zero=>intros;omega
  |succ m Z=>
   intro n i I hm h0 h1 hn0 am hn D
   refine At.go 4 1 [(11,.bool (decide (i<(list.length:Int))))]<|At.fd (i<(list.length:Int)) 11 5 10 (fun a8=>?_) fun ar=>?_
   ·refine At.rg 4 ?_
    obtain⟨u,J⟩:=cD list i
    obtain⟨aw,ab,a9,bb,a0,a1,O⟩:=ay.br X _ J
    cases a0
    refine Op.iq 42 69 3 32 list.length G 8 10 12 aw ab i ?_
    replace O:cut _ _ _=[vI u.Client,vI u.Kind,vS u.aa]:=O
    refine Op.la 69 12 13 (ab+i.toNat*3) 3 [vI u.Client,vI u.Kind,vS u.aa] (D.sub _ _ a1) ?_ (hv:=O)
    refine Op.al 7 69 ko D fun a3 bc a4=>Op.sg 69 7 13 0 0 #[vI u.Client,vI u.Kind,vS u.aa] a4 zt fun bd U=>Op.gt 6<|At.rp 4 1 [(14,vP a3)]<|Op.l1 3 14 15 0 (vI u.Client) (U.ag 0 rfl) ?_
    refine Op.pg 7 [(17,.bool (u.Client==client))]<|At.fd (u.Client=client) 17 8 9 (fun a5=>?_) fun a6=>?_
    ·refine At.rp 3 1 [(18,vI n)]<|Op.vq 19 (n+1)<|Op.pg 9 [(5,vI (n+1))]<|At.rg 2<|Op.vq 20 (i+1) ?_
     exact Op.pg 3 [(10,vI (i+1))]<|At.ke (Z (n+1) (i+1) _ (by omega) (by omega) (by omega) (by omega) (by omega) (by exact De hn h0 J a5) U.drop)
    exact At.rg 2<|Op.vq 20 (i+1)<|Op.pg 3 [(10,vI (i+1))]<|At.ke (Z n (i+1) _ (by omega) (by omega) (by omega) (by omega) (by omega) (by exact Df hn h0 J a6) U.drop)
   exact At.gr 11 2 4 (vI n) (hR D ⟨(bp (by exact p4 hn ar)),rfl,rfl⟩)
 exact At.ke (ae _ 0 0 _ (bK _) (by omega) (by omega) (by omega) (by omega) (by simp) (St.init hg))
theorem Dn (B:World) (h:av) (g:GH) (hg:bf g h) (bj:bh g) (ad:Value) (a:List ah) (ae:ay g 69 cu ad a) (am:Value) (b:List ah) (ar:ay g 69 cu am b) (h1:a.length≤1000000000):
  aA prog B 22 #[ad,am] h g [] (fun a5 g' L'=>a5=.bool (decide (a=b))∧g'=g∧L'=[]):=by
 obtain⟨aw,I,rfl⟩:=ae.ai
 obtain⟨a0,J,rfl⟩:=ar.ai
 refine aA.aq func22 fun R hR=>?_
 have a1:=St.init hg
 refine At.go 1 1 []<|At.go 2 5 [(10,.bool ((a.length:Int) != (b.length:Int)))]<|At.fn ((a.length:Int)=(b.length:Int)) 10 3 5 (fun bk=>?_) fun bm=>?_
 ·exact At.gr 4 1 4 vF (hR a1 ⟨(aS (by exact wZ ‹_›)),rfl,rfl⟩)
 refine At.go 6 1 [(5,vI 0)] ?_
 have a6:∀(m:Nat) (i:Int) (O:av) (hm:a.length-i.toNat<m) (h0:0≤i) (h2:i≤a.length) (ht:a.take i.toNat=b.take i.toNat) (G:St h g (aM []) g [] O),At (bS prog B 22 f22 R) [] 6 [(0,vL aw a.length I),(1,vL a0 b.length J),(5,vI i)] O:=by
  intro m;induction m with
  |zero=>intros;omega
  |succ m a7=>
   intro i O hm h0 h2 ht G
   refine At.go 7 4 [(14,.bool (decide (i<(a.length:Int))))]<|At.fd (i<(a.length:Int)) 14 8 13 (fun bo=>?_) fun a8=>?_
   ·refine At.dw (fun _=>False) [(0,true),(1,true),(2,true),(4,true),(5,true),(6,true),(3,true),(7,false),(8,true)]<|Op.px 2 [(17,vL aw a.length I),(18,vI i)] ?_
    obtain⟨u,U⟩:=cD a i
    obtain⟨a9,a3,bs,bt,bb,bc,V⟩:=ay.br ae _ U
    cases bb
    refine Op.iq 42 69 3 32 a.length I 17 18 19 a9 a3 i ?_
    replace V:cut _ _ _=[vI u.Client,vI u.Kind,vS u.aa]:=V
    refine Op.px 2 [(21,vL a0 b.length J),(22,vI i)] ?_
    obtain⟨D,X⟩:=cD b i
    obtain⟨bd,a4,b3,b4,be,bi,Y⟩:=ay.br ar _ X
    cases be
    refine Op.iq 42 69 3 32 b.length J 21 22 23 bd a4 i ?_
    replace Y:cut _ _ _=[vI D.Client,vI D.Kind,vS D.aa]:=Y
    refine Op.jg (T:=69) (x:=19) (o:=a3+i.toNat*3) (d:=20) (n:=3) (vs:=[vI u.Client,vI u.Kind,vS u.aa]) (by kernel_rfl) (by kernel_rfl) (by kernel_rfl) id (G.sub _ _ bc) V rfl<|Op.la 69 23 24 (a4+i.toNat*3) 3 [vI D.Client,vI D.Kind,vS D.aa] (G.sub _ _ bi) ?_ (hv:=Y)
    refine Op.Bp (T:=69) (T':=69) (x:=20) (y:=24) (neq:=true) (dst:=25) (xs:=#[vI u.Client,vI u.Kind,vS u.aa]) (ys:=#[vI D.Client,vI D.Kind,vS D.aa]) (q:=((u.Client==D.Client)&&((u.Kind==D.Kind)&&((a_ u.aa==a_ D.aa)&&true)))) (q':=!(decide (u=D))) (by kernel_rfl) (by kernel_rfl) (by kernel_rfl) (by kernel_rfl) (by kernel_rfl) (congrArg (fun z=>!z) (F3 u D))<|Op.gt 9<|At.c_ (!(decide (u=D))) 25 10 12 (fun Z=>?_) fun ab=>?_
    ·replace Z:=kF (dm Z)
     exact At.gr 11 1 4 vF (hR G ⟨(aS (by exact w4 U X Z)),rfl,rfl⟩)
    replace ab:=iR (dn ab)
    exact At.rp 3 1 [(15,vI i)]<|Op.vq 16 (i+1)<|Op.pg 6 [(5,vI (i+1))] (At.ke (a7 (i+1) _ (by omega) (by omega) (by omega) (by exact uP ht h0 U X ab) G))
   exact At.gr 14 1 4 vT (hR G ⟨(aS (by exact w5 ‹_› a8 ht)),rfl,rfl⟩)
 exact At.ke (a6 _ 0 _ (bK _) (by omega) (by omega) (by rfl) a1)
theorem Dp (B:World) (h:av) (g:GH) (hg:bf g h) (G:bh g) (w:ah) (hlen:w.aa.length≤1000000000):
  aA prog B 73 #[.agg #[vI w.Client,vI w.Kind,vS w.aa]] h g [] (fun I g' L'=>I=.bool (fP w)∧g'=g∧L'=[]):=by
 refine aA.aq func73 fun R hR=>At.rg 2<|Op.bx 1 69 0 #[vI w.Client,vI w.Kind,vS w.aa] (St.init hg) fun D U u=>Op.pg 1 []<|At.rp 25 1 [(3,vP D)] ?_
 refine Op.l1 3 3 4 0 (vI w.Client) (u.ag 0 rfl)<|Op.px 2 [(6,.bool (decide (w.Client≥0)))]<|Op.wd (w.Client≥0) 6 (fun V=>?_) fun X=>?_
 ·refine Op.px 1 [(7,vP D)]<|Op.l1 3 7 8 0 (vI w.Client) (u.ag 0 rfl)<|Op.px 3 [(11,.bool (decide (w.Client<8)))]<|Op.wd (w.Client<8) 11 (fun Y=>?_) fun Z=>?_
  ·refine Op.px 1 [(12,vQ D 1)]<|Op.l1 3 12 13 1 (vI w.Kind) (u.ag 0 rfl)<|Op.px 2 [(15,.bool (w.Kind==1))]<|Op.wd (w.Kind=1) 15 (fun ab=>?_) fun ad=>?_
   ·exact Op.px 7 [(21,vT),(22,vQ D 2)]<|Op.l1 9 22 23 2 (vS w.aa) (u.ag 0 rfl)<|Op.c1 24 (zp _ _ _ u.sub G w.aa (by(try dsimp only)<;>omega)) u fun ae J=>Op.pr 2 2 (.bool ((cP w.aa)==0)) (hR J.drop ⟨(aS (by(simp[fP, *];done))),rfl,rfl⟩)
   refine Op.px 1 [(16,vQ D 1)]<|Op.l1 3 16 17 1 (vI w.Kind) (u.ag 0 rfl)<|Op.px 4 [(21,.bool (w.Kind==2))]<|Op.wd (w.Kind=2) 21 (fun am=>?_) fun ar=>?_
   ·exact Op.px 1 [(22,vQ D 2)]<|Op.l1 9 22 23 2 (vS w.aa) (u.ag 0 rfl)<|Op.c1 24 (zp _ _ _ u.sub G w.aa (by(try dsimp only)<;>omega)) u fun aw O=>Op.pr 2 2 (.bool ((cP w.aa)==0)) (hR O.drop ⟨(aS (by(simp[fP, *];done))),rfl,rfl⟩)
   exact Op.pr 2 2 vF (hR u.drop ⟨(aS (by(simp[fP, *];done))),rfl,rfl⟩)
  exact Op.pr 2 2 vF (hR u.drop ⟨(aS (by(simp[fP, *];done))),rfl,rfl⟩)
 exact Op.pr 2 2 vF (hR u.drop ⟨(aS (by(simp[fP, *];done))),rfl,rfl⟩)
def gF (g:GH) (b:Nat) (x:List ah) (c:au):Prop:=∃v0 c0,c=(b,.cells #[v0] 120 (0,0))::c0∧aF 69 cu g v0 x c0
theorem gF.mono {g g':GH} {b:Nat} {x:List ah} {c:au} (h:gF g b x c) (hg:aG g g'):gF g' b x c:=by
 obtain⟨v0,c0,e,h0⟩:=h
 exact⟨v0,c0,e,h0.mono hg⟩
theorem gF.eq {g:GH} {b:Nat} {x y:List ah} {c:au} (h:gF g b x c) (e:x=y):gF g b y c:=e▸h
theorem gF.aX {g g':GH} {b:Nat} {x:List ah} {c:au} (h:gF g b x c):gF g' b x c:=by
 obtain⟨v0,c0,e,h0⟩:=h
 exact⟨v0,c0,e,h0.aX (fun _ _ _ _ h=>h)⟩
def kq (g:GH) (b:Nat) (x:List ah) (c:au):Prop:=∃v0 c0,c=(b,.cells #[v0] 42 (0,0))::c0∧aF 69 cu g v0 x c0
theorem kq.mono {g g':GH} {b:Nat} {x:List ah} {c:au} (h:kq g b x c) (hg:aG g g'):kq g' b x c:=by
 obtain⟨v0,c0,e,h0⟩:=h
 exact⟨v0,c0,e,h0.mono hg⟩
theorem kq.eq {g:GH} {b:Nat} {x y:List ah} {c:au} (h:kq g b x c) (e:x=y):kq g b y c:=e▸h
theorem kq.aX {g g':GH} {b:Nat} {x:List ah} {c:au} (h:kq g b x c):kq g' b x c:=by
 obtain⟨v0,c0,e,h0⟩:=h
 exact⟨v0,c0,e,h0.aX (fun _ _ _ _ h=>h)⟩
theorem R6 (B:World) (h:av) (g:GH) (hg:bf g h) (ae:bh g) (am:Value) (x:List ah) (V:ay g 69 cu am x) (target:ah) (O:iX x) (hlen:x.length≤1000000000):
  aA prog B 159 #[am,.agg #[vI target.Client,vI target.Kind,vS target.aa],.func (.func 74) #[] #[]] h g [] (fun a4 g' L'=>a4=.tuple #[.int .i64 (nA x target:Int),.bool (mS x target)]∧g'=g∧L'=[]):=by
 obtain⟨X,J,rfl⟩:=V.ai
 refine aA.aq func159 fun R hR=>At.rg 3<|Op.bx 4 69 1 #[vI target.Client,vI target.Kind,vS target.aa] (St.init hg) fun U b4 a5=>Op.pg 1 []<|At.go 2 3 [(8,vI (x.length:Int))] ?_
 refine At.go 3 3 [(9,vI 0),(10,vI (x.length:Int))] ?_
 have a6:∀(m:Nat) (i:Int) (u:Int) (Y:av) (hm:(u-i).toNat<m) (h0:0≤i) (h1:i≤u) (h2:u≤x.length) (hl:Lo x target i) (hh:Hi x target u) (I:St h g (aM []) g [[(U,Obj.cells #[vI target.Client,vI target.Kind,vS target.aa] 69 (0,0))]] Y),At (bS prog B 159 f159 R) [] 3 [(0,vL X x.length J),(2,.func (.func 74) #[] #[]),(4,vP U),(8,vI (x.length:Int)),(9,vI i),(10,vI u)] Y:=by
  intro m;induction m with
  |zero=>intros;omega
  |succ m ar=>
   intro i u Y hm h0 h1 h2 hl hh I
   refine At.go 4 3 [(17,.bool (decide (i<u)))]<|At.fd (i<u) 17 5 10 (fun b5=>?_) fun b6=>?_
   ·refine At.rp 7 2 [(18,vI i),(19,vI u)]<|Op.vq 20 (i+u)<|Op.vl 21 (.int .u64 (IntKind.wrap .u64 (i+u))) (.int .u64 (i+u)) (Na (by omega) (by omega))<|Op.vl 22 (.int .u64 (Int.fdiv (i+u) (2 ^ 1))) (.int .u64 ((i+u) / 2)) (FC _ _ _ rfl (by decide))<|Op.vl 23 (.int .i64 (IntKind.wrap .i64 ((i+u) / 2))) (.int .i64 ((i+u) / 2)) (oA (by omega) (by omega)) ?_
    refine Op.pg 6 [(11,vI ((i+u) / 2))]<|At.dw (fun _=>False) [(0,true),(1,true),(2,true),(3,true),(4,true),(5,false),(6,false),(7,true)]<|Op.px 3 [(24,.func (.func 74) #[] #[]),(25,vL X x.length J),(26,vI ((i+u) / 2))] ?_
    obtain⟨D,Z⟩:=cD x ((i+u) / 2)
    obtain⟨a7,aw,b8,ca,a8,a9,ab⟩:=ay.br V _ Z
    cases a8
    refine Op.iq 42 69 3 32 x.length J 25 26 27 a7 aw ((i+u) / 2) ?_
    replace ab:cut _ _ _=[vI D.Client,vI D.Kind,vS D.aa]:=ab
    refine Op.jg (T:=69) (x:=27) (o:=aw+((i+u) / 2:Int).toNat*3) (d:=28) (n:=3) (vs:=[vI D.Client,vI D.Kind,vS D.aa]) (by kernel_rfl) (by kernel_rfl) (by kernel_rfl) id (I.sub _ _ a9) ab rfl<|Op.la 69 4 29 0 3 [vI target.Client,vI target.Kind,vS target.aa] (I.ag 0 rfl)<|Op.cv (some 30) 24 #[28,29] #[69,69] 74 #[] #[] [] [[(U,Obj.cells #[vI target.Client,vI target.Kind,vS target.aa] 69 (0,0))]] #[.agg #[vI D.Client,vI D.Kind,vS D.aa],.agg #[vI target.Client,vI target.Kind,vS target.aa]] (ei.of (by kernel_rfl)) (by kernel_rfl) I (Dl _ _ _ I.sub ae D target) (fun _ _ h=>absurd h (gq _)) ?_
    rintro _ bb _ cb bc a0 ⟨rfl,bd,rfl⟩;subst bb;clear bc
    refine Op.pg 7 [(31,.bool (decide ((jY D target)<0)))]<|At.fd ((jY D target)<0) 31 8 9 (fun be=>?_) fun bi=>?_
    ·exact At.rp 3 1 [(32,vI ((i+u) / 2))]<|Op.vq 33 (((i+u) / 2)+1)<|Op.pg 3 [(9,vI (((i+u) / 2)+1))] (At.ke (ar (((i+u) / 2)+1) u _ (by omega) (by omega) (by omega) (by omega) (by exact Rn O hl (by omega) Z be) ‹_› a0))
    exact At.go 3 2 [(10,vI ((i+u) / 2))] (At.ke (ar i ((i+u) / 2) _ (by omega) (by omega) (by omega) (by omega) ‹_› (by exact Ro O (by omega) Z bi) a0))
   refine At.dw (fun _=>False) [(0,true),(1,true),(2,true),(3,true),(4,true),(5,true),(6,true),(7,true),(8,true),(9,true),(10,false),(11,false),(12,true),(13,true),(14,true),(15,true)]<|Op.px 5 [(35,vI i),(39,.bool (decide (i<(x.length:Int))))]<|Op.wd (i<(x.length:Int)) 39 (fun ce=>?_) fun bj=>?_
   ·refine Op.px 3 [(40,.func (.func 74) #[] #[]),(41,vL X x.length J),(42,vI i)] ?_
    obtain⟨G,a1⟩:=cD x i
    obtain⟨bk,a3,cf,ch,bm,bo,ad⟩:=ay.br V _ a1
    cases bm
    refine Op.iq 42 69 3 32 x.length J 41 42 43 bk a3 i ?_
    replace ad:cut _ _ _=[vI G.Client,vI G.Kind,vS G.aa]:=ad
    refine Op.jg (T:=69) (x:=43) (o:=a3+i.toNat*3) (d:=44) (n:=3) (vs:=[vI G.Client,vI G.Kind,vS G.aa]) (by kernel_rfl) (by kernel_rfl) (by kernel_rfl) id (I.sub _ _ bo) ad rfl<|Op.la 69 4 45 0 3 [vI target.Client,vI target.Kind,vS target.aa] (I.ag 0 rfl)<|Op.cv (some 46) 40 #[44,45] #[69,69] 74 #[] #[] [] [[(U,Obj.cells #[vI target.Client,vI target.Kind,vS target.aa] 69 (0,0))]] #[.agg #[vI G.Client,vI G.Kind,vS G.aa],.agg #[vI target.Client,vI target.Kind,vS target.aa]] (ei.of (by kernel_rfl)) (by kernel_rfl) I (Dl _ _ _ I.sub ae G target) (fun _ _ h=>absurd h (gq _)) ?_
    rintro _ bs _ ci bt b3 ⟨rfl,bd,rfl⟩;subst bs;clear bt
    exact Op.pg 11 [(6,vI i),(7,.bool ((jY G target)==0))]<|At.rt (.tuple #[vI i,.bool ((jY G target)==0)]) (hR b3.drop ⟨bM (bp (by exact Jt h0 (by omega) hl (by have e:i=u:=(by omega);rw[e];exact hh))) (aS (by exact Rq h0 O hl (by have e:i=u:=(by omega);rw[e];exact hh) a1 rfl)),rfl,rfl⟩)
   exact Op.pg 11 [(6,vI i),(7,vF)]<|At.rt (.tuple #[vI i,vF]) (hR I.drop ⟨bM (bp (by exact Jt h0 (by omega) hl (by have e:i=u:=(by omega);rw[e];exact hh))) (aS (by exact Rr h0 O hl (by have e:i=u:=(by omega);rw[e];exact hh) bj)),rfl,rfl⟩)
 exact At.ke (a6 _ 0 (x.length:Int) _ (bK _) (by omega) (by omega) (by omega) (by exact Rl _ _) (by exact Rm _ _) a5)
theorem R7 (B:World) (h:av) (g:GH) (hg:bf g h) (dv:bh g) (a1:Value) (s:List ah) (U:au) (J:aF 69 cu g a1 s U) (i:Int) (a3:Value) (v:List ah) (Z:au) (V:aF 69 cu g a3 v Z) (h0:0≤i) (hi:i≤s.length) (h1:s.length≤1000000) (h2:v.length≤1000000) (hs:St h g (aM [U,Z]) g [U,Z] h):
  aA prog B 160 #[a1,vI i,a3] h g [U,Z] (fun bs g' L'=>∃v0 a4,bs=v0∧aF 69 cu g' v0 (nB s i v) a4∧g'=g∧L'=[a4]):=by
 obtain⟨D,u,rfl⟩:=J.ai
 obtain⟨X,Y,rfl⟩:=V.ai
 refine aA.aq func160 fun R hR=>At.go 1 1 []<|At.rp 3 2 [(10,vL D s.length u),(11,vI i)]<|Op.sq 42 69 3 32 10 11 D s.length u 12 .i64 i (by omega) (by omega)<|Op.gt 2 ?_
 refine At.go 3 3 [(7,vI (v.length:Int))]<|At.go 4 2 [(16,.bool ((v.length:Int)==0))]<|At.fd ((v.length:Int)=0) 16 5 7 (fun dC=>?_) fun dE=>?_
 ·exact At.go 6 2 [(6,vL D s.length u)]<|At.rt (vL D s.length u)<|hR (hs.fs [1] rfl).drop ⟨(vL D s.length u),U,rfl,dZ J (by exact Rs (by omega)),rfl,rfl⟩
 refine At.go 8 3 [(8,vI (s.length:Int))]<|At.go 9 3 [(22,.bool (i==(s.length:Int)))]<|At.fd (i=(s.length:Int)) 22 10 12 (fun dT=>?_) fun d0=>?_
 ·refine At.rp 4 2 [(23,vL D s.length u),(24,vL X v.length Y)] ?_
  obtain⟨d1,bt,b3⟩:=di.slice (P:=prog) (V.toH hs 1 rfl)
  refine Op.ap 23 24 42 42 25 69 32 cu (ys:=v) J hs 0 b3 (by omega) (fun _ _ _=>trivial) bt fun d2 b4 d3 a5 b5 d4=>?_
  obtain⟨ad,ae,rfl⟩:=a5.ai
  exact Op.pg 11 [(6,vL ad ((s++v).length) ae)]<|At.rt (vL ad ((s++v).length) ae)<|hR (b5.fs [1] rfl).drop ⟨(vL ad ((s++v).length) ae),b4,rfl,dZ a5 (by exact Rt (by omega)),rfl,rfl⟩
 refine At.rp 6 2 [(26,vI (s.length:Int)),(27,vI (v.length:Int))]<|Op.vq 28 ((s.length:Int)+(v.length:Int))<|Op.pg 13 [(31,.bool (decide (((s.length:Int)+(v.length:Int))>(u:Int))))]<|At.fd (((s.length:Int)+(v.length:Int))>(u:Int)) 31 14 19 (fun d5=>?_) fun d6=>?_
 ·refine At.rp 10 2 [(32,vL D s.length u),(33,vI i)] ?_
  have d7:=J.FE
  have b6:=J.take i.toNat (by omega)
  refine Op.yG (T:=42) (E:=69) (sz:=3) (cR:=32) (x:=32) (hi:=33) (ao:=D) (n:=s.length) (c:=u) (dst:=34) (k:=.i64) (m:=i) (by kernel_rfl) (by kernel_rfl) (by kernel_rfl) (by kernel_rfl) (by omega) (by omega)<|Op.px 2 [(35,vI (s.length:Int)),(36,vI (v.length:Int))]<|Op.vq 37 ((s.length:Int)+(v.length:Int))<|Op.px 1 [(38,vI i)]<|Op.vq 39 (((s.length:Int)+(v.length:Int))-i) ?_
  refine Op.MM (x:=34) (y:=39) (t:=42) (t':=3) (dst:=40) (E:=69) (cR:=32) (d:=cu) (ao:=(ek D 0 u 3)) (n:=i.toNat) (cap:=u) (xs:=(s.take i.toNat)) (m:=((s.length:Int)+(v.length:Int))-i) (by kernel_rfl) (by kernel_rfl) (by kernel_rfl) (by kernel_rfl) (by kernel_rfl) (b6.toH hs 0 rfl) (by kernel_rfl) (by omega) (by(simp only[dD] at *;omega)) (by(simp only[dD] at *;omega)) hs fun G d8 d9 I ea a6 eb a7=>?_
  have b8:((s.take i.toNat)++List.replicate (((s.length:Int)+(v.length:Int))-i:Int).toNat (Kd.zv cu)).length=(s.take i.toNat).length+(((s.length:Int)+(v.length:Int))-i:Int).toNat:=by rw[b_,oz]
  generalize ed:(s.take i.toNat)++List.replicate (((s.length:Int)+(v.length:Int))-i:Int).toNat (Kd.zv cu)=am at a6 b8
  refine Op.pg 15 [(9,vL (some ⟨G,0,none⟩) ((s.take i.toNat).length+(((s.length:Int)+(v.length:Int))-i:Int).toNat) I)]<|At.rp 5 2 [(41,vL (some ⟨G,0,none⟩) ((s.take i.toNat).length+(((s.length:Int)+(v.length:Int))-i:Int).toNat) I),(42,vI i)]<|Op.sq 42 69 3 32 41 42 (some ⟨G,0,none⟩) ((s.take i.toNat).length+(((s.length:Int)+(v.length:Int))-i:Int).toNat) I 43 .i64 i (by omega) (by(simp only[dD] at *;omega))<|Op.px 1 [(44,vL X v.length Y)] ?_
  obtain⟨ee,ca,cb⟩:=di.slice (P:=prog) (V.toH a7 2 rfl)
  refine Op.bG (x:=43) (y:=44) (t:=42) (t':=42) (dst:=45) (E:=69) (cR:=32) (d:=cu) (ao:=(some ⟨G,0,none⟩)) (n:=((s.take i.toNat).length+(((s.length:Int)+(v.length:Int))-i:Int).toNat)) (c:=I) (lo:=i.toNat) (ys:=v) (by kernel_rfl) (by kernel_rfl) (by kernel_rfl) a6 (by(simp only[dD] at *;omega)) a7 0 rfl ca cb rfl (fun _ _ _=>trivial) fun ef eh a8 a9=>?_
  have ce:=yP (xs:=am) (ys:=v) (lo:=i.toNat) (by(simp only[dD] at *;omega))
  generalize ej:putAt am i.toNat (List.take (am.length-i.toNat) v)=ar at a8 ce
  refine Op.gt 16<|At.dw (fun _=>False) [(0,true),(1,true),(2,true),(3,true),(4,true),(5,true),(6,true),(7,true),(1008,false),(8,false)]<|Op.px 3 [(46,vL (some ⟨G,0,none⟩) ((s.take i.toNat).length+(((s.length:Int)+(v.length:Int))-i:Int).toNat) I),(47,vI i),(48,vI (v.length:Int))]<|Op.vq 49 (i+(v.length:Int))<|Op.sq 42 69 3 32 46 49 (some ⟨G,0,none⟩) ((s.take i.toNat).length+(((s.length:Int)+(v.length:Int))-i:Int).toNat) I 50 .i64 (i+(v.length:Int)) (by omega) (by(simp only[dD] at *;omega)) ?_
  refine Op.px 2 [(51,vL D s.length u),(52,vI i)]<|Op.sq 42 69 3 32 51 52 D s.length u 53 .i64 i (by omega) (by omega)<|Op.ba ?_
  obtain⟨em,cf,ch⟩:=di.slice (P:=prog) (ig.Fh (J.toH a9 1 rfl) i.toNat (by omega))
  refine Op.bG (x:=50) (y:=53) (t:=42) (t':=42) (dst:=54) (E:=69) (cR:=32) (d:=cu) (ao:=(some ⟨G,0,none⟩)) (n:=((s.take i.toNat).length+(((s.length:Int)+(v.length:Int))-i:Int).toNat)) (c:=I) (lo:=(i+(v.length:Int):Int).toNat) (ys:=s.drop i.toNat) (by kernel_rfl) (by kernel_rfl) (by kernel_rfl) a8 (by(simp only[dD] at *;omega)) a9 0 rfl cf ch rfl (fun _ _ _=>trivial) fun ci en bb ck=>?_
  have co:=yP (xs:=ar) (ys:=s.drop i.toNat) (lo:=(i+(v.length:Int):Int).toNat) (by(simp only[dD] at *;omega))
  generalize eo:putAt ar (i+(v.length:Int):Int).toNat (List.take (ar.length-(i+(v.length:Int):Int).toNat) (s.drop i.toNat))=ep at bb co
  exact Op.gt 17<|At.go 18 2 [(6,vL (some ⟨G,0,none⟩) ((s.take i.toNat).length+(((s.length:Int)+(v.length:Int))-i:Int).toNat) I)]<|At.rt (vL (some ⟨G,0,none⟩) ((s.take i.toNat).length+(((s.length:Int)+(v.length:Int))-i:Int).toNat) I)<|hR (ck.fs [2,2] rfl).drop.drop ⟨(vL (some ⟨G,0,none⟩) ((s.take i.toNat).length+(((s.length:Int)+(v.length:Int))-i:Int).toNat) I),ci,rfl,dZ bb (by(subst_vars;exact Ru h0 hi rfl rfl)),rfl,rfl⟩
 refine At.rp 6 3 [(56,vL D s.length u),(57,vI (s.length:Int)),(58,vI (v.length:Int))]<|Op.vq 59 ((s.length:Int)+(v.length:Int)) ?_
 obtain⟨O,aw,er,et⟩:=aF.MJ J ((s.length:Int)+(v.length:Int):Int).toNat (by omega)
 refine Op.yG (T:=42) (E:=69) (sz:=3) (cR:=32) (x:=56) (hi:=59) (ao:=D) (n:=s.length) (c:=u) (dst:=60) (k:=.i64) (m:=(s.length:Int)+(v.length:Int)) (by kernel_rfl) (by kernel_rfl) (by kernel_rfl) (by kernel_rfl) (by omega) (by omega)<|Op.pg 20 [(0,vL (ek D 0 u 3) (((s.length:Int)+(v.length:Int):Int).toNat) u)]<|At.rp 8 4 [(61,vL X v.length Y),(62,vL (ek D 0 u 3) (((s.length:Int)+(v.length:Int):Int).toNat) u),(63,vI i),(64,vI (v.length:Int))]<|Op.vq 65 (i+(v.length:Int))<|Op.sq 42 69 3 32 62 65 (ek D 0 u 3) (((s.length:Int)+(v.length:Int):Int).toNat) u 66 .i64 (i+(v.length:Int)) (by omega) (by omega) ?_
 obtain⟨bc,bd,ex,eA,eB,be,c3,eI,eJ,eK,eL⟩:=V.cases (by omega)
 obtain⟨bi,eQ,c4,eT,e1,bj,c5,c6,e2,c8,e3⟩:=aw.cases (by omega)
 have ab:=hs
 rw[c3,c5] at ab
 have c9:=be;have da:=bj
 have db:X=some ⟨bc,bd,none⟩:=by injection be
 have dc:∃o2,(ek (ek D 0 u 3) (i+(v.length:Int):Int).toNat u 3)=some ⟨bi,o2,none⟩:=by injection bj with hq _ _;exact Nc hq _ _ _
 refine Op.overlaps (f:=181) (x:=61) (y:=66) (t:=42) (tb:=4) (E:=69) (sz:=3) (cR:=32) (dst:=67) (ts:=#[42,42]) (b1:=bc) (o1:=bd) (n1:=v.length) (c1:=Y) (b2:=bi) (n2:=(((s.length:Int)+(v.length:Int):Int).toNat-(i+(v.length:Int):Int).toNat)) (c2:=(u-(i+(v.length:Int):Int).toNat)) (a2:=(ek (ek D 0 u 3) (i+(v.length:Int):Int).toNat u 3)) (by kernel_rfl) (by kernel_rfl) (by kernel_rfl) (by rw[←db];kernel_rfl) (by kernel_rfl) dc (ab.ag 1 rfl) (ab.ag 0 rfl) (fun h=>ab.ne 0 1 rfl rfl rfl h.symm) ?_ ?_
 ·have e4:=c6;have hle:=c8;have hlen:0<O.length:=by omega
  have dd:=iC (Kd.sz cu) (show 1≤c4 by omega)
  simp only[show cu.sz=3 from rfl] at dd hle;omega
 clear c9 da
 refine Op.pg 21 [(68,vT)]<|At.bX 68 22<|At.dw (fun _=>False) [(0,true),(1,true),(2,true),(3,true),(4,true),(5,true),(6,true),(7,true),(1008,false),(8,false)]<|Op.px 3 [(69,vL (ek D 0 u 3) (((s.length:Int)+(v.length:Int):Int).toNat) u),(70,vI i),(71,vI (v.length:Int))]<|Op.vq 72 (i+(v.length:Int)) ?_
 refine Op.sq 42 69 3 32 69 72 (ek D 0 u 3) (((s.length:Int)+(v.length:Int):Int).toNat) u 73 .i64 (i+(v.length:Int)) (by omega) (by omega)<|Op.px 2 [(74,vL (ek D 0 u 3) (((s.length:Int)+(v.length:Int):Int).toNat) u),(75,vI i)]<|Op.sq 42 69 3 32 74 75 (ek D 0 u 3) (((s.length:Int)+(v.length:Int):Int).toNat) u 76 .i64 i (by omega) (by omega)<|Op.ba ?_
 obtain⟨e5,df,dg⟩:=di.slice (P:=prog) (ig.Fh (aw.toH hs 0 rfl) i.toNat (by omega))
 refine Op.bG (x:=73) (y:=76) (t:=42) (t':=42) (dst:=77) (E:=69) (cR:=32) (d:=cu) (ao:=(ek D 0 u 3)) (n:=(((s.length:Int)+(v.length:Int):Int).toNat)) (c:=u) (lo:=(i+(v.length:Int):Int).toNat) (ys:=O.drop i.toNat) (by kernel_rfl) (by kernel_rfl) (by kernel_rfl) aw (by omega) hs 0 rfl df dg rfl (fun _ _ _=>trivial) fun e6 e7 bk bm=>?_
 have dj:=yP (xs:=O) (ys:=O.drop i.toNat) (lo:=(i+(v.length:Int):Int).toNat) (by omega)
 generalize e8:putAt O (i+(v.length:Int):Int).toNat (List.take (O.length-(i+(v.length:Int):Int).toNat) (O.drop i.toNat))=a0 at bk dj
 refine Op.gt 23<|At.rp 5 2 [(78,vL (ek D 0 u 3) (((s.length:Int)+(v.length:Int):Int).toNat) u),(79,vI i)]<|Op.sq 42 69 3 32 78 79 (ek D 0 u 3) (((s.length:Int)+(v.length:Int):Int).toNat) u 80 .i64 i (by omega) (by omega)<|Op.px 1 [(81,vL X v.length Y)] ?_
 obtain⟨e9,dk,dl⟩:=di.slice (P:=prog) (V.toH bm 1 rfl)
 refine Op.bG (x:=80) (y:=81) (t:=42) (t':=42) (dst:=82) (E:=69) (cR:=32) (d:=cu) (ao:=(ek D 0 u 3)) (n:=(((s.length:Int)+(v.length:Int):Int).toNat)) (c:=u) (lo:=i.toNat) (ys:=v) (by kernel_rfl) (by kernel_rfl) (by kernel_rfl) bk (by omega) bm 0 rfl dk dl rfl (fun _ _ _=>trivial) fun dp fa bo dq=>?_
 have du:=yP (xs:=a0) (ys:=v) (lo:=i.toNat) (by omega)
 generalize fg:putAt a0 i.toNat (List.take (a0.length-i.toNat) v)=fi at bo du
 exact Op.gt 24<|At.go 25 2 [(6,vL (ek D 0 u 3) (((s.length:Int)+(v.length:Int):Int).toNat) u)]<|At.rt (vL (ek D 0 u 3) (((s.length:Int)+(v.length:Int):Int).toNat) u)<|hR (dq.fs [1] rfl).drop ⟨(vL (ek D 0 u 3) (((s.length:Int)+(v.length:Int):Int).toNat) u),dp,rfl,dZ bo (by(subst_vars;exact Rv h0 hi rfl (by omega) ‹_› (by omega))),rfl,rfl⟩
theorem JP (B:World) (h:av) (g:GH) (hg:bf g h) (am:bh g) (w:ah) (D:Nat) (G:Array Value) (bQ:ah→Bool) (ar:ei prog D) (aw:pI prog g D G (fun x:ah=>.agg #[.int .i64 x.Client,.int .i64 x.Kind,.string (a_ x.aa)]) (fun _=>True) bQ) (U:Nat) (a0:g U=some (.cells #[.func (.func D) #[] G] 147 (0,0))) (I:Nat) (out:List ah) (u:au) (V:kq g I out u) (h1:out.length≤1000000) (hs:St h g (aM [u]) g [u] h):
  aA prog B 124 #[.agg #[vI w.Client,vI w.Kind,vS w.aa],vP U,vP I] h g [u] (fun a1 g' L'=>∃X,a1=.bool (bQ w)∧kq g' I (if bQ w=true then out++[w] else out) X∧g'=g∧L'=[X]):=by
 refine aA.aq func124 fun R hR=>At.rg 2<|Op.bx 3 69 0 #[vI w.Client,vI w.Kind,vS w.aa] hs fun a3 bj J=>Op.pg 1 []<|At.rg 4 ?_
 refine Op.l1 147 1 6 0 (.func (.func D) #[] G) (J.sub _ _ a0)<|Op.la 69 3 7 0 3 [vI w.Client,vI w.Kind,vS w.aa] (J.ag 0 rfl)<|Op.cv (some 8) 6 #[7] #[69] D #[] G [] [[(a3,Obj.cells #[vI w.Client,vI w.Kind,vS w.aa] 69 (0,0))],u] ((#[.agg #[vI w.Client,vI w.Kind,vS w.aa]]:Array Value)++G) ar (FD (by kernel_rfl)) J (aw _ _ _ (aG.refl _) J.sub am w (by((try dsimp only)<;>(first|omega|trivial|(simp only[bL,cS];omega))))) (fun _ _ h=>absurd h (gq _)) ?_
 rintro _ a4 _ bk a5 Y ⟨rfl,bm,rfl⟩;subst a4;clear a5
 refine Op.pg 2 [(5,.bool (bQ w))]<|At.go 3 1 [(9,.bool (bQ w))]<|At.c_ (bQ w) 9 4 5 (fun bo=>?_) fun bs=>?_
 ·refine At.rg 5 ?_
  obtain⟨bt,a6,a7,Z⟩:=V
  obtain⟨a8,a9,rfl⟩:=Z.ai
  have O:=St.un [a6] a7 (Y.fs [1] rfl)
  refine Op.l1 42 2 10 0 (vL a8 out.length a9) (O.ag 0 rfl)<|Op.la 69 3 11 0 3 [vI w.Client,vI w.Kind,vS w.aa] (O.ag 2 rfl)<|Op.ls 12 1 69 #[vI w.Client,vI w.Kind,vS w.aa] O fun b3 b4 ab=>Op.ap 10 12 42 42 13 69 32 cu (ys:=[w]) Z ab 2 (⟨_,_,rfl,rfl,Reads.nil⟩) (by(simp only[bL,cS];omega)) (fun _ _ _=>trivial) (di.lit (m:=1) (sz:=3) (ab.ag 0 rfl) (news:=[vI w.Client,vI w.Kind,vS w.aa]) rfl rfl (by simp[Value.oneCell']) _) fun b5 b6 b8 ad bb ca=>?_
  obtain⟨a46,ae,rfl⟩:=ad.ai
  refine Op.s1 42 2 13 0 (vL a46 ((out++([w])).length) ae) 0 #[vL a46 ((out++([w])).length) ae] ((bb).drop) zt fun cb bc=>Op.gt 5<|At.go 6 2 [(4,.bool (bQ w))] ?_
  obtain⟨bd,be,bi⟩:=St.bl (Q:=kq g I (out++([w]))) 2 bc ⟨_,_,rfl,ad⟩
  exact At.rt (.bool (bQ w))<|hR (bi.fs [1] rfl).drop ⟨bd,(aS (by rfl)),be.eq (by(rw[aL ‹_›];done)),rfl,rfl⟩
 exact At.gr 6 2 4 (.bool (bQ w)) (hR Y.drop ⟨u,(aS (by rfl)),V.eq (by(rw[aB (jc.1 ‹_›)];done)),rfl,rfl⟩)
theorem R8 (B:World) (h:av) (g:GH) (hg:bf g h) (a8:bh g) (ar:Value) (s:List ah) (aw:ay g 69 cu ar s) (V:Nat) (Y:Array Value) (bQ:ah→Bool) (a9:ei prog V) (bb:pI prog g V Y (fun x:ah=>.agg #[.int .i64 x.Client,.int .i64 x.Kind,.string (a_ x.aa)]) (fun _=>True) bQ) (G:Nat) (bc:g G=some (.cells #[.func (.func V) #[] Y] 147 (0,0))) (D:Nat) (out:List ah) (O:au) (bd:kq g D out O) (h1:s.length≤1000000) (h2:out.length≤1000000) (hs:St h g (aM [O]) g [O] h):
  aA prog B 152 #[ar,.func (.func 124) #[] #[vP G,vP D]] h g [O] (fun be g' L'=>∃a0,be=.int .i64 (eC bQ s)∧kq g' D (out++(List.find? bQ s).toList) a0∧g'=g∧L'=[a0]):=by
 obtain⟨a1,Z,rfl⟩:=aw.ai
 refine aA.aq func152 fun R hR=>At.go 1 1 []<|At.go 2 3 [(7,vI (s.length:Int)),(8,vI 0)] ?_
 have bi:∀(m:Nat) (i:Int) (o2:List ah) (U:au) (ab:av) (hm:s.length-i.toNat<m) (h0:0≤i) (h3:i≤s.length) (I:findAt bQ s i) (ho:o2=out) (ad:kq g D o2 U) (J:St h g (aM [O]) g [U] ab),At (bS prog B 152 f152 R) [] 2 [(0,vL a1 s.length Z),(1,.func (.func 124) #[] #[vP G,vP D]),(7,vI (s.length:Int)),(8,vI i)] ab:=by
  intro m;induction m with
  |zero=>intros;omega
  |succ m bj=>
   intro i o2 U ab hm h0 h3 I ho ad J
   refine At.go 3 1 [(9,.bool (decide (i<(s.length:Int))))]<|At.fd (i<(s.length:Int)) 9 4 10 (fun b4=>?_) fun a3=>?_
   ·refine At.go 5 2 [(5,vI i)]<|At.rp 6 3 [(11,.func (.func 124) #[] #[vP G,vP D]),(12,vL a1 s.length Z),(13,vI i)] ?_
    obtain⟨u,X⟩:=cD s i
    obtain⟨bk,a4,b5,b6,bm,bo,ae⟩:=ay.br aw _ X
    cases bm
    refine Op.iq 42 69 3 32 s.length Z 12 13 14 bk a4 i ?_
    replace ae:cut _ _ _=[vI u.Client,vI u.Kind,vS u.aa]:=ae
    refine Op.la 69 14 15 (a4+i.toNat*3) 3 [vI u.Client,vI u.Kind,vS u.aa] (J.sub _ _ bo) ?_ (hv:=ae)
    refine Op.cv (some 16) 11 #[15] #[69] 124 #[] #[vP G,vP D] [U] [] #[.agg #[vI u.Client,vI u.Kind,vS u.aa],vP G,vP D] (ei.of (by kernel_rfl)) (by kernel_rfl) J (JP _ _ _ J.sub a8 u V Y bQ a9 bb G bc D o2 _ ad (by((try dsimp only)<;>((subst ho;omega)))) (St.pt 1 J)) (fun _ _ _=>trivial) ?_
    rintro _ bs _ b8 bt a5 ⟨b3,rfl,a6,ca,rfl⟩;subst bs;clear bt
    refine Op.gt 6<|At.c_ (bQ u) 16 7 9 (fun am=>?_) fun a7=>?_
    ·exact At.gr 8 2 4 (vI i) (hR a5 ⟨b3,(bp (by exact td I X am)),a6.eq (by(subst ho;rw[aL am];exact Rw I X am h0)),rfl,rfl⟩)
    exact At.rg 2<|Op.vq 18 (i+1)<|Op.pg 2 [(8,vI (i+1))] (At.ke (bj (i+1) (if bQ u=true then o2++[u] else o2) _ _ (by omega) (by omega) (by omega) (by exact uL I h0 X a7) (by rw[aB (jc.1 a7)];exact ho) a6 a5))
   exact At.gr 11 1 4 (vI (-1)) (hR J ⟨U,(bp (by exact tf I a3)),ad.eq (by(subst ho;exact Rx I a3)),rfl,rfl⟩)
 exact At.ke (bi _ 0 out _ _ (bK _) (by omega) (by omega) (by exact uK _ _) (by rfl) bd hs)
theorem R9 (B:World) (h:av) (g:GH) (hg:bf g h) (bm:bh g) (bo:Value) (s:List ah) (V:au) (ae:aF 69 cu g bo s V) (Y:Nat) (am:Array Value) (bQ:ah→Bool) (bs:ei prog Y) (bt:pI prog g Y am (fun x:ah=>.agg #[.int .i64 x.Client,.int .i64 x.Kind,.string (a_ x.aa)]) (fun _=>True) bQ) (J:Nat) (b3:g J=some (.cells #[.func (.func Y) #[] am] 147 (0,0))) (I:Nat) (out:List ah) (Z:au) (c3:kq g I out Z) (h1:s.length≤1000000) (h2:out.length+s.length≤1000000) (hs:St h g (aM [V,Z]) g [V,Z] h):
  aA prog B 123 #[bo,.func (.func 124) #[] #[vP J,vP I]] h g [V,Z] (fun c4 g' L'=>∃v0 b4 b5,c4=v0∧aF 69 cu g' v0 (List.filter (fun w=>!bQ w) s) b4∧kq g' I (out++List.filter bQ s) b5∧g'=g∧L'=[b5,b4]):=by
 obtain⟨ar,aw,rfl⟩:=ae.ai
 refine aA.aq func123 fun R hR=>At.go 1 1 []<|At.rp 4 2 [(8,vL ar s.length aw),(9,.func (.func 124) #[] #[vP J,vP I])] ?_
 have a0:=hs.gi
 have c5:=ae.fK hs
 refine Op.le (some 10) 1 hs (R8 _ _ _ hs.ij (bm.mono a0) _ _ c5 Y am bQ bs (bt.mono a0) J (a0 _ _ b3) I out _ (c3.mono a0) (by(try dsimp only)<;>omega) (by(try dsimp only)<;>omega) (St.pt 1 hs.freeze.1)) (fun _ _ _ hp=>by obtain⟨_,_,_,a1,_⟩:=hp;exact a1) ?_
 rintro _ _ d1 b6 ⟨c6,rfl,a3,a1,rfl⟩;clear a1
 replace a3:=a3.aX (g':=g)
 refine Op.pg 2 [(5,vI (eC bQ s))]<|At.go 3 2 [(12,.bool ((eC bQ s)==((-1):Int)))]<|At.fd ((eC bQ s)=((-1):Int)) 12 4 6 (fun d2=>?_) fun ab=>?_
 ·exact At.go 5 2 [(4,vL ar s.length aw)]<|At.rt (vL ar s.length aw)<|hR (b6.fs [1] rfl) ⟨(vL ar s.length aw),V,c6,rfl,dZ ae (by exact(Di (xN ‹_›).1).symm),a3.eq (by(rw[(xN ‹_›).1,(xN ‹_›).2];rfl)),rfl,rfl⟩
 refine At.rp 3 1 [(14,vI (eC bQ s))]<|Op.dQ 15 ((eC bQ s)+1) (by(have:=(tT ab).2.2;omega)) (by(have:=(tT ab).2.2;omega))<|Op.pg 7 [(6,vI ((eC bQ s)+1))] ?_
 have c8:∀(m:Nat) (i:Int) (k:Int) (ys:List ah) (o2:List ah) (a31:Option Addr) (D:Nat) (a4:au) (ad:au) (a9:av) (hm:s.length-k.toNat<m) (h0:0≤i) (h3:i<k) (h4:k≤s.length) (G:p9 s ys o2 out bQ i k) (X:aF 69 cu g (.slice a31 ys.length D) ys a4) (bb:kq g I o2 ad) (a5:St h g (aM [V,Z]) g [a4,ad] a9),At (bS prog B 123 f123 R) [] 7 [(0,vL a31 ys.length D),(1,.func (.func 124) #[] #[vP J,vP I]),(5,vI i),(6,vI k)] a9:=by
  intro m;induction m with
  |zero=>intros;omega
  |succ m b8=>
   intro i k ys o2 a31 D a4 ad a9 hm h0 h3 h4 G X bb a5
   refine At.go 8 4 [(19,.bool (decide (k<(ys.length:Int))))]<|At.fd (k<(ys.length:Int)) 19 9 15 (fun d3=>?_) fun ca=>?_
   ·refine At.rp 6 2 [(22,vL a31 ys.length D),(23,vI k)] ?_
    obtain⟨u,bc⟩:=cD ys k
    obtain⟨U,O,d4,d5,c9,da,bd⟩:=ig.br (X.toH a5 0 rfl) _ bc
    cases c9
    refine Op.iq 42 69 3 32 ys.length D 22 23 24 U O k ?_
    replace bd:cut _ _ _=[vI u.Client,vI u.Kind,vS u.aa]:=bd
    refine Op.la 69 24 25 (O+k.toNat*3) 3 [vI u.Client,vI u.Kind,vS u.aa] da ?_ (hv:=bd)
    refine Op.al 7 69 ko a5 fun db d6 dc=>Op.sg 69 7 25 0 0 #[vI u.Client,vI u.Kind,vS u.aa] dc zt fun d7 cb=>Op.gt 10<|At.rp 4 1 [(26,.func (.func 124) #[] #[vP J,vP I])]<|Op.la 69 7 27 0 3 [vI u.Client,vI u.Kind,vS u.aa] (cb.ag 0 rfl) ?_
    have be:=cb.fs [1,1,2] rfl
    refine Op.cv (some 28) 26 #[27] #[69] 124 #[] #[vP J,vP I] [ad] [[(db,Obj.cells #[vI u.Client,vI u.Kind,vS u.aa] 69 (0,0))],a4] #[.agg #[vI u.Client,vI u.Kind,vS u.aa],vP J,vP I] (ei.of (by kernel_rfl)) (by kernel_rfl) be (JP _ _ _ be.sub bm u Y am bQ bs bt J b3 I o2 _ bb (by((try dsimp only)<;>((have:=G.len;have:=RB G h0;omega)))) (St.pt 1 be)) (fun _ _ _=>trivial) ?_
    rintro _ dd _ d8 df a6 ⟨d9,rfl,ce,a1,rfl⟩;subst dd;clear df
    refine Op.pg 11 [(29,.bool (!(bQ u)))]<|At.c_ (!(bQ u)) 29 12 14 (fun a7=>?_) fun a8=>?_
    ·replace a7:=(dm a7)
     refine At.rp 5 2 [(30,vL (some ⟨U,O,none⟩) ys.length D),(31,vI i)]<|Op.la 69 7 32 0 3 [vI u.Client,vI u.Kind,vS u.aa] (a6.ag 1 rfl) ?_
     obtain⟨bi,bj⟩:=cD ys i
     obtain⟨ea,eb,ed,ee,dg,ef,cf⟩:=ig.br (X.toH a6 2 rfl) _ bj
     cases dg
     refine Op.iq 42 69 3 32 ys.length D 30 31 33 U O i ?_
     replace cf:cut _ _ _=[vI bi.Client,vI bi.Kind,vS bi.aa]:=cf
     obtain⟨_,_,eh,ch,ej,dj,dk,ci,dl,ck,dp⟩:=X.cases (Ag (gO _) (dL.1 bj).1)
     cases dj;subst dk
     have co:=(dL.1 bj).1
     have dq:=iC 3 (cr (Da co) (cr (Db _ _) (Ah ci)))
     refine Op.store (T:=69) (x:=33) (y:=32) (b:=U) (o:=O+i.toNat*3) (vs:=[vI u.Client,vI u.Kind,vS u.aa]) (a?:=true) (n:=3) (by kernel_rfl) (by kernel_rfl) (by kernel_rfl) (by kernel_rfl) rfl (by simp[Value.oneCell']) a6 2 rfl (by simp only[kZ] at dq;simp only[show cu.sz=3 from rfl] at ck;omega) (cs:=ch) (cs':=splice ch (O+i.toNat*3) [vI u.Client,vI u.Kind,vS u.aa]) rfl zt fun em du=>?_
     have dv:=aF.put (T:=69) (b:=U) ci dl ck dp _ co (x:=u) (vs:=[vI u.Client,vI u.Kind,vS u.aa]) rfl
     refine Op.kp [(0,vL (some ⟨U,O,none⟩) ys.length D),(1,.func (.func 124) #[] #[vP J,vP I]),(5,vI i),(6,vI k)]<|Op.cast (e':=[(0,vL (some ⟨U,O,none⟩) ((ys.set i.toNat u).length) D),(1,.func (.func 124) #[] #[vP J,vP I]),(5,vI i),(6,vI k)]) (by simp only[r9])<|Op.gt 13<|At.rp 3 1 [(34,vI i)]<|Op.vq 35 (i+1) ?_
     exact Op.pg 14 [(5,vI (i+1))]<|At.rp 3 1 [(20,vI k)]<|Op.vq 21 (k+1)<|Op.pg 7 [(6,vI (k+1))]<|At.ke (b8 (i+1) (k+1) (ys.set i.toNat u) (if bQ u=true then o2++[u] else o2) _ _ _ _ _ (by(have:=G.len;omega)) (by omega) (by omega) (by(have:=G.len;omega)) (by(rw[aB (jc.1 a7)];exact Rz G h0 (by omega) bc a7)) dv ce ((du.fs [2,2] rfl).drop))
    replace a8:=(dn a8)
    exact At.rp 3 1 [(20,vI k)]<|Op.vq 21 (k+1)<|Op.pg 7 [(6,vI (k+1))]<|At.ke (b8 i (k+1) ys (if bQ u=true then o2++[u] else o2) _ _ _ _ _ (by(have:=G.len;omega)) (by omega) (by omega) (by(have:=G.len;omega)) (by(rw[aL a8];exact RA G (by omega) bc a8)) X ce ((a6.fs [2,2] rfl).drop))
   refine At.rp 4 2 [(36,vL a31 ys.length D),(37,vI i)]<|Op.sq 42 69 3 32 36 37 a31 ys.length D 38 .i64 i (by omega) (by(have:=G.len;omega))<|Op.MO (x:=38) (t:=42) (E:=69) (cR:=32) (d:=cu) (ao:=a31) (n:=ys.length) (c:=D) (lo:=i.toNat) (by kernel_rfl) (by kernel_rfl) (by kernel_rfl) (by kernel_rfl) X (by(have:=G.len;omega)) a5 0 rfl (fun _ _ _=>trivial) fun dC en bk dE=>?_
   have dT:=Nd (xs:=ys) (z:=Kd.zv cu) (lo:=i.toNat) (by(have:=G.len;omega))
   generalize eo:putAt ys i.toNat (List.replicate (ys.length-i.toNat) (Kd.zv cu))=ep at bk dT
   refine Op.gt 16<|At.rp 4 2 [(39,vL a31 ys.length D),(40,vI i)] ?_
   have er:=bk.FE
   have d0:=bk.take i.toNat (by(have:=G.len;omega))
   exact Op.yG (T:=42) (E:=69) (sz:=3) (cR:=32) (x:=39) (hi:=40) (ao:=a31) (n:=ys.length) (c:=D) (dst:=41) (k:=.i64) (m:=i) (by kernel_rfl) (by kernel_rfl) (by kernel_rfl) (by kernel_rfl) (by omega) (by(have:=G.len;omega))<|Op.pg 17 [(4,vL (ek a31 0 D 3) i.toNat D)]<|At.rt (vL (ek a31 0 D 3) i.toNat D)<|hR (dE.fs [1] rfl) ⟨(vL (ek a31 0 D 3) i.toNat D),dC,ad,rfl,dZ d0 (by(subst_vars;exact(Jv G ca h0 (by have:=G.len;omega) _).1)),bb.eq (by exact(Jv G ca h0 (by have:=G.len;omega) []).2),rfl,rfl⟩
 exact At.ke (c8 _ (eC bQ s) ((eC bQ s)+1) s (out++(List.find? bQ s).toList) _ _ _ _ _ (bK _) (by exact(tT ab).2.2.1) (by omega) (by(have:=(tT ab).2.2.2;omega)) (by exact Ry ab) ae a3 b6)
theorem JQ (B:World) (h:av) (g:GH) (hg:bf g h) (Y:bh g) (u:Nat) (t:List ah) (I:au) (bb:gF g u t I) (D:Nat) (G:Array Value) (bQ:ah→Bool) (bc:ei prog D) (Z:pI prog g D G (fun x:ah=>.agg #[.int .i64 x.Client,.int .i64 x.Kind,.string (a_ x.aa)]) (fun _=>True) bQ) (h1:t.length≤1000000) (hs:St h g (aM [I]) g [I] h):
  aA prog B 90 #[vP u,.func (.func D) #[] G] h g [I] (fun bd g' L'=>∃v0 aw a0,bd=v0∧aF 69 cu g' v0 (List.filter bQ t) aw∧gF g' u (List.filter (fun w=>!bQ w) t) a0∧g'=g∧L'=[a0,aw]):=by
 refine aA.aq func90 fun R hR=>At.rg 2<|Op.bx 3 147 1 #[.func (.func D) #[] G] hs fun ab ci be=>Op.pg 1 []<|At.rg 1 ?_
 refine Op.al 5 42 #[vN] be fun ad ck bi=>Op.gt 2<|At.rp 10 4 [(6,vP u),(9,vP u)] ?_
 obtain⟨co,bj,bk,J⟩:=bb
 obtain⟨bm,bo,rfl⟩:=J.ai
 have a1:=St.un [bj] bk (bi.fs [1,1,2] rfl)
 refine Op.l1 42 9 10 0 (vL bm t.length bo) (a1.ag 0 rfl)<|Op.px 1 [(11,.func (.func 124) #[] #[vP ab,vP ad])] ?_
 obtain⟨a3,O⟩:=St.freeze (a1.fs [3] rfl)
 have a4:=iQ (g:=g) ab (.cells #[.func (.func D) #[] G] 147 (0,0))
 generalize bs:cQ g _=ae at a3 O a4;clear bs
 replace J:=J.mono O
 replace Y:=Y.mono O
 replace Z:=Z.mono O
 have bt:=aF.nil 69 cu ae
 obtain⟨c3,b3,b4⟩:=St.bl (Q:=kq ae ad ([]:List ah)) 2 (a3.nl.fs [2,2,2,3] rfl) ⟨_,_,rfl,bt⟩
 have am:=b4.fs [1,1,2] rfl
 refine Op.cl (some 12) 2 am (R9 _ _ _ am.sub Y _ t _ J D G bQ bc Z ab a4 ad ([]:List ah) _ b3 (by(try dsimp only)<;>omega) (by((try dsimp only)<;>((simp only[cS];omega)))) (St.pt 2 am)) ?_
 rintro _ b5 _ c4 b6 b8 ⟨c5,c6,c8,rfl,a5,ca,c9,rfl⟩;subst b5;clear b6
 obtain⟨a6,a7,rfl⟩:=a5.ai
 refine Op.px 2 [(14,vP u)]<|Op.s1 42 14 12 0 (vL a6 (((List.filter (fun w=>!bQ w) t)).length) a7) 2 #[vL a6 (((List.filter (fun w=>!bQ w) t)).length) a7] b8 zt fun da cb=>Op.gt 3<|At.rg 2 ?_
 obtain⟨db,a8,ce,U⟩:=ca
 obtain⟨V,X,rfl⟩:=U.ai
 have a9:=St.un [a8] ce cb
 refine Op.l1 42 5 15 0 (vL V ((([]:List ah)++List.filter bQ t).length) X) (a9.ag 0 rfl)<|Op.pg 4 [(4,vL V ((([]:List ah)++List.filter bQ t).length) X)] ?_
 obtain⟨cf,ar,ch⟩:=St.bl (Q:=gF ae u (List.filter (fun w=>!bQ w) t)) 2 (a9.fs [1,1,2,3] rfl) ⟨_,_,rfl,a5⟩
 refine At.rt (vL V ((([]:List ah)++List.filter bQ t).length) X) ?_
 replace ar:=ar.aX (g':=g)
 replace U:=U.aX (fun _ _ _ _ h=>h) (g':=g)
 exact hR (ch.fs [1] rfl).drop.ji ⟨(vL V ((([]:List ah)++List.filter bQ t).length) X),a8,cf,rfl,dZ U (by simp),ar.eq (by simp),rfl,rfl⟩
theorem R_ (B:World) (h:av) (g:GH) (hg:bf g h) (U:bh g) (w:ah) (kind:Int) (D:Nat) (V:g D=some (.cells #[vI kind] 3 (0,0))) (G:Value) (cZ:List aj) (I:ay g 9 ew G cZ) (J:Nat) (X:g J=some (.cells #[G] 57 (0,0))) (hok:True) (hp:cZ.length≤1000000000):
  aA prog B 154 #[.agg #[vI w.Client,vI w.Kind,vS w.aa],vP D,vP J] h g [] (fun Y g' L'=>Y=.bool (fY kind cZ w)∧g'=g∧L'=[]):=by
 obtain⟨Z,ab,rfl⟩:=I.ai
 refine aA.aq func154 fun R hR=>At.rg 2<|Op.bx 3 69 0 #[vI w.Client,vI w.Kind,vS w.aa] (St.init hg) fun O ar u=>Op.pg 1 []<|At.rp 11 1 [(5,vQ O 1)] ?_
 refine Op.l1 3 5 6 1 (vI w.Kind) (u.ag 0 rfl)<|Op.l1 3 1 7 0 (vI kind) (u.sub _ _ V)<|Op.px 2 [(9,.bool (w.Kind==kind))]<|Op.wd (w.Kind=kind) 9 (fun ad=>?_) fun ae=>?_
 ·exact Op.l1 57 2 10 0 (vL Z cZ.length ab) (u.sub _ _ X)<|Op.px 1 [(11,vQ O 2)]<|Op.l1 9 11 12 2 (vS w.aa) (u.ag 0 rfl)<|Op.c1 13 (R5 _ _ _ u.sub U _ _ I w.aa (by(try dsimp only)<;>omega)) u fun aw am=>Op.pr 2 4 (.bool (cZ.any (fun z=>decide (w.aa=z)))) (hR am.drop ⟨(aS (by exact RE ad)),rfl,rfl⟩)
 exact Op.pr 2 4 vF (hR u.drop ⟨(aS (by exact RF ae)),rfl,rfl⟩)
theorem Sa (B:World) (h:av) (g:GH) (hg:bf g h) (O:bh g) (w:ah) (G:Value) (u:List Int) (I:ay g 3 (eF .i64) G u) (J:Nat) (U:g J=some (.cells #[G] 81 (0,0))) (hok:True) (hp:u.length≤1000000000):
  aA prog B 91 #[.agg #[vI w.Client,vI w.Kind,vS w.aa],vP J] h g [] (fun V g' L'=>V=.bool (p5 u w)∧g'=g∧L'=[]):=by
 obtain⟨X,Y,rfl⟩:=I.ai
 refine aA.aq func91 fun R hR=>At.rg 2<|Op.bx 2 69 0 #[vI w.Client,vI w.Kind,vS w.aa] (St.init hg) fun Z ad D=>Op.pg 1 []<|At.rg 5 ?_
 exact Op.l1 81 1 4 0 (vL X u.length Y) (D.sub _ _ U)<|Op.px 1 [(5,vP Z)]<|Op.l1 3 5 6 0 (vI w.Client) (D.ag 0 rfl)<|Op.c1 7 (Cp _ _ _ D.sub O _ _ I w.Client (by(try dsimp only)<;>omega)) D fun ae ab=>Op.pr 2 3 (.bool (u.any (fun z=>decide (w.Client=z)))) (hR ab.drop ⟨(aS (by exact RD _ _)),rfl,rfl⟩)
theorem Sb (B:World) (h:av) (g:GH) (hg:bf g h) (D:bh g) (G:Nat) (t:List ah) (O:au) (I:gF g G t O) (kind:Int) (ar:Value) (cZ:List aj) (u:ay g 9 ew ar cZ) (h1:t.length≤1000000) (h2:cZ.length≤1000000) (hs:St h g (aM [O]) g [O] h):
  aA prog B 131 #[vP G,vI kind,ar] h g [O] (fun a7 g' L'=>∃v0 aw a0,a7=v0∧aF 69 cu g' v0 (List.filter (fY kind cZ) t) aw∧gF g' G (List.filter (fun w=>!fY kind cZ w) t) a0∧g'=g∧L'=[a0,aw]):=by
 obtain⟨a1,a3,rfl⟩:=u.ai
 refine aA.aq func131 fun R hR=>At.rg 3<|Op.bx 4 3 1 #[vI kind] hs fun U bo a8=>Op.bx 5 57 2 #[vL a1 cZ.length a3] a8 fun V bs a9=>Op.pg 1 [] ?_
 refine At.rp 4 2 [(7,vP G),(8,.func (.func 154) #[] #[vP U,vP V])] ?_
 obtain⟨a4,X⟩:=St.freeze (a9.fs [1] rfl)
 have Y:=iQ (g:=g) U (.cells #[vI kind] 3 (0,0))
 generalize bb:cQ g _=a5 at a4 X Y;clear bb
 replace D:=D.mono X
 replace u:=u.mono X
 replace I:=I.mono X
 obtain⟨Z,J⟩:=St.freeze (a4)
 have a6:=iQ (g:=a5) V (.cells #[vL a1 cZ.length a3] 57 (0,0))
 generalize bc:cQ a5 _=bt at Z J a6;clear bc
 replace D:=D.mono J
 replace u:=u.mono J
 replace I:=I.mono J
 replace Y:=J _ _ Y
 refine Op.cl (some 9) 1 Z (JQ _ _ _ Z.sub D G t _ I 154 #[vP U,vP V] (fun x=>fY kind cZ x) (ei.of (by kernel_rfl)) (fun B h g2 hle hs bd x hok=>aA.args (by rfl) (R_ B h g2 hs bd x kind U (hle _ _ Y) _ _ (u.mono hle) V (hle _ _ a6) hok (by omega))) (by(try dsimp only)<;>omega) (St.pt 1 Z)) ?_
 rintro _ be _ b3 bi bj ⟨b4,bk,bm,rfl,ab,ad,b5,rfl⟩;subst be;clear bi
 obtain⟨ae,am,rfl⟩:=ab.ai
 refine Op.pg 2 [(6,vL ae (((List.filter (fun x=>fY kind cZ x) t)).length) am)]<|At.rt (vL ae (((List.filter (fun x=>fY kind cZ x) t)).length) am) ?_
 replace ad:=ad.aX (g':=g)
 replace ab:=ab.aX (fun _ _ _ _ h=>h) (g':=g)
 exact hR bj.ji ⟨(vL ae (((List.filter (fun x=>fY kind cZ x) t)).length) am),bk,bm,rfl,dZ ab (by rfl),ad.eq (by rfl),rfl,rfl⟩
theorem Sc (B:World) (h:av) (g:GH) (hg:bf g h) (V:bh g) (D:Nat) (t:List ah) (G:au) (X:gF g D t G) (Z:Value) (u:List Int) (I:ay g 3 (eF .i64) Z u) (h1:t.length≤1000000) (h2:u.length≤1000000) (hs:St h g (aM [G]) g [G] h):
  aA prog B 53 #[vP D,Z] h g [G] (fun ar g' L'=>∃ab,ar=.tuple #[]∧gF g' D (List.filter (fun w=>!p5 u w) t) ab∧g'=g∧L'=[ab]):=by
 obtain⟨ad,ae,rfl⟩:=I.ai
 refine aA.aq func53 fun R hR=>At.rg 1<|Op.bx 3 81 1 #[vL ad u.length ae] hs fun J a8 aw=>Op.gt 1<|At.rp 3 2 [(4,vP D),(5,.func (.func 91) #[] #[vP J])] ?_
 obtain⟨O,U⟩:=St.freeze (aw)
 have am:=iQ (g:=g) J (.cells #[vL ad u.length ae] 81 (0,0))
 generalize a0:cQ g _=a9 at O U am;clear a0
 replace V:=V.mono U
 replace I:=I.mono U
 replace X:=X.mono U
 refine Op.cl (some 6) 1 O (JQ _ _ _ O.sub V D t _ X 91 #[vP J] (fun x=>p5 u x) (ei.of (by kernel_rfl)) (fun B h g2 hle hs a1 x hok=>aA.args (by rfl) (Sa B h g2 hs a1 x _ _ (I.mono hle) J (hle _ _ am) hok (by omega))) (by(try dsimp only)<;>omega) (St.pt 1 O)) ?_
 rintro _ a3 _ bb a4 a5 ⟨bc,bd,a6,rfl,a7,Y,be,rfl⟩;subst a3;clear a4
 obtain⟨bi,bj,rfl⟩:=a7.ai
 refine Op.gt 2<|At.rt dr ?_
 replace Y:=Y.aX (g':=g)
 exact hR (a5.fs [1] rfl).drop.ji ⟨a6,rfl,Y.eq (by rfl),rfl,rfl⟩
theorem Sd (B:World) (h:av) (g:GH) (hg:bf g h) (X:bh g):
  aA prog B 24 #[] h g [] (fun G g' L'=>∃b0 D,G=vP b0∧gF g' b0 [] D∧g'=g∧L'=[D]):=by
 refine aA.aq func24 fun R hR=>At.go 1 1 []<|At.rp 3 1 [(1,.agg #[vN])]<|Op.bx 2 120 1 #[vN] (St.init hg) fun u Y I=>Op.pg 2 [(0,vP u)] ?_
 have J:=aF.nil 69 cu g
 obtain⟨O,U,V⟩:=St.bl (Q:=gF g u ([]:List ah)) 2 (I.nl.fs [1] rfl) ⟨_,_,rfl,J⟩
 exact At.rt (vP u) (hR V ⟨u,O,rfl,U.eq (by rfl),rfl,rfl⟩)
theorem xS (B:World) (h:av) (g:GH) (hg:bf g h) (ab:bh g) (u:Nat) (t:List ah) (D:au) (ad:gF g u t D) (h1:t.length≤1000000) (hs:St h g (aM [D]) g [D] h):
  aA prog B 39 #[vP u] h g [D] (fun ae g' L'=>∃v0 X Y,ae=v0∧aF 69 cu g' v0 t X∧gF g' u t Y∧g'=g∧L'=[Y,X]):=by
 refine aA.aq func39 fun R hR=>At.go 1 1 []<|At.rp 6 3 [(5,vP u)] ?_
 obtain⟨v20,am,ar,J⟩:=ad
 obtain⟨aw,a0,rfl⟩:=J.ai
 have Z:=St.un [am] ar hs
 refine Op.l1 42 5 6 0 (vL aw t.length a0) (Z.ag 0 rfl) ?_
 have G:=Z.fs [1] rfl
 have a1:=G.gi
 have a3:=J.fK G
 refine Op.le (some 7) 0 G (JO _ _ _ G.ij (ab.mono a1) _ _ a3 (by(try dsimp only)<;>omega)) (fun _ _ _ hp=>by obtain⟨_,_,_,_,O,_⟩:=hp;exact O) ?_ (hM:=(fun _ _ h=>absurd h (gq _)))
 rintro _ _ a9 a4 ⟨bb,a5,rfl,I,O,rfl⟩;clear O
 obtain⟨U,V,rfl⟩:=I.ai
 replace I:=I.aX (fun _ _ _ _ h=>h) (g':=g)
 refine Op.pg 2 [(2,vL U (t.length) V)] ?_
 obtain⟨a6,a7,a8⟩:=St.bl (Q:=gF g u t) 2 (a4.fs [1,1,2] rfl) ⟨_,_,rfl,J⟩
 exact At.rt (vL U (t.length) V) (hR a8 ⟨(vL U (t.length) V),a5,a6,rfl,dZ I (by rfl),a7.eq (by rfl),rfl,rfl⟩)
theorem Se (B:World) (h:av) (g:GH) (hg:bf g h) (O:bh g) (u:Nat) (t:List ah) (J:au) (ae:gF g u t J) (w:ah) (h1:t.length≤1000000) (hw:w.aa.length≤1000000000) (cf:iX t) (hs:St h g (aM [J]) g [J] h):
  aA prog B 134 #[vP u,.agg #[vI w.Client,vI w.Kind,vS w.aa]] h g [J] (fun a6 g' L'=>∃am,a6=.int .i64 (nC t w)∧gF g' u (nD t w) am∧g'=g∧L'=[am]):=by
 refine aA.aq func134 fun R hR=>At.rg 2<|Op.bx 3 69 1 #[vI w.Client,vI w.Kind,vS w.aa] hs fun a7 ch X=>Op.pg 1 []<|At.rg 3 ?_
 refine Op.la 69 3 7 0 3 [vI w.Client,vI w.Kind,vS w.aa] (X.ag 0 rfl)<|Op.c1 8 (Dp _ _ _ X.sub O w (by(try dsimp only)<;>omega)) X fun ci ar=>Op.pg 2 [(9,.bool (!(fP w)))]<|At.c_ (!(fP w)) 9 3 5 (fun aw=>?_) fun a0=>?_
 ·replace aw:=(dm aw)
  exact At.gr 4 1 4 (vI 90) (hR ar.drop ⟨J,(bp (by(unfold nC;simp[*];done))),ae.eq (by(unfold nD;simp[*];done)),rfl,rfl⟩)
 replace a0:=(dn a0)
 obtain⟨ck,a8,a9,I⟩:=ae
 obtain⟨Y,Z,rfl⟩:=I.ai
 have ab:=St.un [a8] a9 (ar.fs [1] rfl)
 refine At.dw (fun _=>False) [(0,true),(1,true),(2,true),(3,true),(4,false),(5,false),(6,true),(7,true),(8,true),(9,true),(10,true)]<|Op.px 3 [(13,vP u)]<|Op.lf 42 13 0 14 1 (vL Y t.length Z) id (ab.ag 0 rfl)<|Op.la 69 3 15 0 3 [vI w.Client,vI w.Kind,vS w.aa] (ab.ag 2 rfl) ?_
 have U:=ab.fs [1] rfl
 have bb:=U.gi
 have bc:=I.fK U
 refine Op.le (some 16) 0 U (R6 _ _ _ U.ij (O.mono bb) _ _ bc w (by(try dsimp only)<;>omega) (by(try dsimp only)<;>omega)) (fun _ _ _ hp=>by obtain⟨_,D,_⟩:=hp;exact D) ?_ (hM:=(fun _ _ h=>absurd h (gq _)))
 rintro _ _ co G ⟨rfl,D,rfl⟩;clear D
 refine Op.pg 6 [(5,vI (nA t w:Int)),(6,.bool (mS t w))]<|At.go 7 2 [(19,.bool (mS t w))]<|At.c_ (mS t w) 19 8 10 (fun c3=>?_) fun c4=>?_
 ·refine At.go 9 1 [(4,vI 0)] ?_
  obtain⟨bd,be,bi⟩:=St.bl (Q:=gF g u t) 2 (G.fs [1] rfl) ⟨_,_,rfl,I⟩
  exact At.rt (vI 0)<|hR (bi.fs [1] rfl).drop ⟨bd,(bp (by(unfold nC;simp[*];done))),be.eq (by(unfold nD;simp[*];done)),rfl,rfl⟩
 refine At.dw (fun _=>False) [(0,true),(1,true),(2,true),(4,true),(3,true),(5,false),(6,false),(7,true),(8,true)]<|Op.px 4 [(24,vP u),(26,vP a7)]<|Op.lf 42 24 0 25 1 (vL Y t.length Z) id (G.ag 1 rfl)<|Op.l1 3 26 27 0 (vI w.Client) (G.ag 2 rfl) ?_
 have bj:=G.gi
 have bk:=I.fK G
 refine Op.le (some 28) 0 G (Dm _ _ _ G.ij (O.mono bj) _ _ bk w.Client (by(try dsimp only)<;>omega)) (fun _ _ _ hp=>by obtain⟨_,D,_⟩:=hp;exact D) ?_ (hM:=(fun _ _ h=>absurd h (gq _)))
 rintro _ _ c5 V ⟨rfl,D,rfl⟩;clear D
 refine Op.pg 11 [(21,.bool (decide ((cnt w.Client t:Int)≥8)))]<|At.fd ((cnt w.Client t:Int)≥8) 21 12 14 (fun c6=>?_) fun c8=>?_
 ·refine At.go 9 1 [(4,vI 104)] ?_
  obtain⟨bm,bo,bs⟩:=St.bl (Q:=gF g u t) 2 (V.fs [1] rfl) ⟨_,_,rfl,I⟩
  exact At.rt (vI 104)<|hR (bs.fs [1] rfl).drop ⟨bm,(bp (by(unfold nC;simp[*];done))),bo.eq (by(unfold nD;simp[*];done)),rfl,rfl⟩
 refine At.dw (fun _=>False) [(0,true),(1,true),(2,true),(3,true),(5,true),(4,true),(6,false),(7,false),(1008,false),(8,false),(9,true),(10,true),(11,false)]<|Op.px 5 [(30,vP u),(33,vP u),(35,vI (nA t w:Int))]<|Op.lf 42 33 0 34 1 (vL Y t.length Z) id (V.ag 1 rfl)<|Op.la 69 3 36 0 3 [vI w.Client,vI w.Kind,vS w.aa] (V.ag 2 rfl)<|Op.ls 37 1 69 #[vI w.Client,vI w.Kind,vS w.aa] V fun a1 c9 bt=>?_
 refine Op.ba ?_
 have b3:aF 69 cu g (vL (some ⟨a1,0,none⟩) 1 1) [w] [(a1,Obj.cells #[vI w.Client,vI w.Kind,vS w.aa] 69 (0,0))]:=aF.lit (by kernel_rfl) (by unfold maxLen;decide) (by kernel_rfl) ⟨_,_,rfl,rfl,Reads.nil⟩
 have ad:=bt.fs [1] rfl
 refine Op.cl (some 38) 2 ad (R7 _ _ _ ad.sub O _ t _ I (nA t w:Int) _ ([w]) _ b3 (by(try dsimp only)<;>omega) (by((try dsimp only)<;>((have:=RC t w;omega)))) (by(try dsimp only)<;>omega) (by((try dsimp only)<;>((simp only[bL,cS];omega)))) (St.pt 2 ad)) ?_
 rintro _ b4 _ da b5 b6 ⟨db,dc,rfl,a3,D,rfl⟩;subst b4;clear b5
 obtain⟨a4,a5,rfl⟩:=a3.ai
 refine Op.px 2 [(40,vP u)]<|Op.s1 42 40 38 0 (vL a4 ((nB t (nA t w:Int) ([w])).length) a5) 1 #[vL a4 ((nB t (nA t w:Int) ([w])).length) a5] b6 zt fun dd b8=>Op.gt 15<|At.go 16 1 [(4,vI 0)] ?_
 obtain⟨ca,cb,ce⟩:=St.bl (Q:=gF g u (nB t (nA t w:Int) ([w]))) 2 (b8.fs [1] rfl) ⟨_,_,rfl,a3⟩
 exact At.rt (vI 0)<|hR (ce.fs [1] rfl).drop ⟨ca,(bp (by(unfold nC;simp[*];done))),cb.eq (by(unfold nD;simp[*];done)),rfl,rfl⟩
theorem Sf (B:World) (h:av) (g:GH) (hg:bf g h) (Y:bh g) (O:Nat) (t:List ah) (G:au) (Z:gF g O t G) (a4:Value) (list:List ah) (X:ay g 69 cu a4 list) (h1:list.length≤1000000) (hw:∀w∈list,w.aa.length≤1000000000) (hs:St h g (aM [G]) g [G] h):
  aA prog B 34 #[vP O,a4] h g [G] (fun bk g' L'=>∃a5,bk=.bool (jZ list)∧gF g' O (jm t list) a5∧g'=g∧L'=[a5]):=by
 obtain⟨ae,I,rfl⟩:=X.ai
 refine aA.aq func34 fun R hR=>At.go 1 1 []<|At.go 2 3 [(7,vL ae list.length I),(8,vI (list.length:Int)),(9,vI 0)] ?_
 have bm:∀(m:Nat) (i:Int) (a0:av) (hm:list.length-i.toNat<m) (h0:0≤i) (h3:i≤list.length) (hk:xO list i) (ab:St h g (aM [G]) g [G] a0),At (bS prog B 34 f34 R) [] 2 [(0,vP O),(1,vL ae list.length I),(7,vL ae list.length I),(8,vI (list.length:Int)),(9,vI i)] a0:=by
  intro m;induction m with
  |zero=>intros;omega
  |succ m a6=>
   intro i a0 hm h0 h3 hk ab
   refine At.go 3 1 [(10,.bool (decide (i<(list.length:Int))))]<|At.fd (i<(list.length:Int)) 10 4 10 (fun co=>?_) fun a7=>?_
   ·refine At.rp 6 1 [(11,vI i)] ?_
    obtain⟨u,D⟩:=cD list i
    obtain⟨ad,U,c3,c4,bo,bs,a1⟩:=ay.br X _ D
    cases bo
    refine Op.iq 42 69 3 32 list.length I 7 9 12 ad U i ?_
    replace a1:cut _ _ _=[vI u.Client,vI u.Kind,vS u.aa]:=a1
    refine Op.la 69 12 13 (U+i.toNat*3) 3 [vI u.Client,vI u.Kind,vS u.aa] (ab.sub _ _ bs) ?_ (hv:=a1)
    refine Op.al 6 69 ko ab fun a8 c5 bt=>Op.px 1 [(5,vI i)]<|Op.sg 69 6 13 0 0 #[vI u.Client,vI u.Kind,vS u.aa] bt zt fun c6 am=>Op.gt 5<|At.dw (fun _=>False) [(0,false),(1,false),(2,true),(3,true),(4,true),(5,true),(6,true),(7,true),(8,true),(9,true),(10,true),(11,true),(12,false),(13,false),(14,true),(15,true),(16,true),(17,true),(18,true),(19,true),(20,false),(21,false),(22,true),(23,true)] ?_
    refine Op.la 69 6 14 0 3 [vI u.Client,vI u.Kind,vS u.aa] (am.ag 0 rfl)<|Op.c1 15 (Dp _ _ _ am.sub Y u (by((try dsimp only)<;>(exact hw _ (cL D))))) am fun c8 V=>Op.px 2 [(17,.bool (!(fP u)))]<|Op.wb (!(fP u)) 17 (fun a9=>?_) fun bb=>?_
    ·replace a9:=(dm a9)
     exact Op.pg 6 [(37,vT)]<|At.bX 37 7<|At.gr 8 1 4 vF (hR V.drop ⟨G,(aS (by exact(sn h0 D (Jy D ‹_›)).symm)),Z.eq (by(unfold jm;rw[aB (jc.1 (sn h0 D (Jy D ‹_›)))])),rfl,rfl⟩)
    replace bb:=(dn bb)
    refine Op.px 3 [(20,.bool (decide (i>0)))]<|Op.wd (i>0) 20 (fun c9=>?_) fun da=>?_
    ·refine Op.px 2 [(21,vL (some ⟨ad,U,none⟩) list.length I),(22,vI i)]<|Op.vq 23 (i-1) ?_
     obtain⟨J,ar⟩:=cD list (i-1)
     obtain⟨db,dc,dd,df,b3,b4,a3⟩:=ay.br X _ ar
     cases b3
     refine Op.iq 42 69 3 32 list.length I 21 23 24 ad U (i-1) ?_
     replace a3:cut _ _ _=[vI J.Client,vI J.Kind,vS J.aa]:=a3
     refine Op.jg (T:=69) (x:=24) (o:=U+(i-1:Int).toNat*3) (d:=25) (n:=3) (vs:=[vI J.Client,vI J.Kind,vS J.aa]) (by kernel_rfl) (by kernel_rfl) (by kernel_rfl) id (am.sub _ _ b4) a3 rfl<|Op.la 69 6 26 0 3 [vI u.Client,vI u.Kind,vS u.aa] (V.ag 0 rfl)<|Op.c1 27 (Dl _ _ _ V.sub Y J u) V fun dg aw=>Op.px 4 [(31,.bool (decide ((jY J u)≥0)))]<|Op.wd ((jY J u)≥0) 31 (fun dj=>?_) fun dk=>?_
     ·exact Op.pg 6 [(37,vT)]<|At.bX 37 7<|At.gr 8 1 4 vF (hR aw.drop ⟨G,(aS (by exact(sn h0 D (JA (by omega) D ar (JB ‹_›))).symm)),Z.eq (by(unfold jm;rw[aB (jc.1 (sn h0 D (JA (by omega) D ar (JB ‹_›))))])),rfl,rfl⟩)
     refine Op.px 2 [(32,vL (some ⟨ad,U,none⟩) list.length I),(33,vP a8)]<|Op.l1 3 33 34 0 (vI u.Client) (aw.ag 0 rfl)<|Op.c1 35 (Dm _ _ _ aw.sub Y _ _ X u.Client (by(try dsimp only)<;>omega)) aw fun dl bc=>Op.pg 6 [(37,.bool (decide ((cnt u.Client list:Int)>8)))]<|At.fd ((cnt u.Client list:Int)>8) 37 7 9 (fun dp=>?_) fun dq=>?_
     ·exact At.gr 8 1 4 vF (hR bc.drop ⟨G,(aS (by exact(sn h0 D (Ai D (by omega))).symm)),Z.eq (by(unfold jm;rw[aB (jc.1 (sn h0 D (Ai D (by omega))))])),rfl,rfl⟩)
     exact At.rg 2<|Op.vq 38 (i+1)<|Op.pg 2 [(9,vI (i+1))]<|At.ke (a6 (i+1) _ (by omega) (by omega) (by omega) (by exact Jw hk h0 (RI D ‹_› (by omega) ar (RJ ‹_›) (by omega))) bc.drop)
    refine Op.px 13 [(31,vF),(32,vL (some ⟨ad,U,none⟩) list.length I),(33,vP a8)]<|Op.l1 3 33 34 0 (vI u.Client) (V.ag 0 rfl)<|Op.c1 35 (Dm _ _ _ V.sub Y _ _ X u.Client (by(try dsimp only)<;>omega)) V fun du bd=>Op.pg 6 [(37,.bool (decide ((cnt u.Client list:Int)>8)))]<|At.fd ((cnt u.Client list:Int)>8) 37 7 9 (fun dv=>?_) fun dC=>?_
    ·exact At.gr 8 1 4 vF (hR bd.drop ⟨G,(aS (by exact(sn h0 D (Ai D (by omega))).symm)),Z.eq (by(unfold jm;rw[aB (jc.1 (sn h0 D (Ai D (by omega))))])),rfl,rfl⟩)
    exact At.rg 2<|Op.vq 38 (i+1)<|Op.pg 2 [(9,vI (i+1))]<|At.ke (a6 (i+1) _ (by omega) (by omega) (by omega) (by exact Jw hk h0 (RH D ‹_› (by omega) (by omega))) bd.drop)
   refine At.rp 6 2 [(39,vP O),(40,vL ae list.length I)]<|Op.c0 (some 41) (JO _ _ _ ab.sub Y _ _ X (by(try dsimp only)<;>omega)) ab ?_
   rintro _ b5 _ dE b6 b8 ⟨dT,d0,rfl,be,d1,rfl⟩;subst b5;clear b6
   obtain⟨bi,bj,rfl⟩:=be.ai
   refine Op.px 2 [(43,vP O)] ?_
   obtain⟨d2,ca,cb,ce⟩:=Z
   obtain⟨d3,d4,rfl⟩:=ce.ai
   refine Op.s1 42 43 41 0 (vL bi (list.length) bj) 0 #[vL bi (list.length) bj] (St.un [ca] cb (b8.fs [1] rfl)) zt fun d5 cf=>Op.gt 11<|At.go 12 1 [(4,vT)] ?_
   obtain⟨ch,ci,ck⟩:=St.bl (Q:=gF g O list) 2 (cf.fs [1,2,2] rfl) ⟨_,_,rfl,be⟩
   exact At.rt vT<|hR (ck.fs [1] rfl).drop ⟨ch,(aS (by exact(Jx hk a7).symm)),ci.eq (by(unfold jm;rw[aL (Jx hk a7)])),rfl,rfl⟩
 exact At.ke (bm _ 0 _ (bK _) (by omega) (by omega) (by exact RG _) hs)
def n7 (w:ah):List ah→List ah
  |[]=>[w]
  |x::xs=>if fo x w=true then x::n7 w xs else w::x::xs
theorem JR (w:ah):∀xs:List ah,nB xs (nA xs w) [w]=n7 w xs
  |[]=>rfl
  |x::xs=>by
   have ih:=JR w xs
   unfold nB nA at *
   unfold n7
   by_cases h:fo x w=true
   · rw[aL h,←ih,List.takeWhile_cons_of_pos (by simpa using h),bL]
     rw[show((((xs.takeWhile fun x=>fo x w).length+1:Nat):Int)).toNat=(((xs.takeWhile fun x=>fo x w).length:Int)).toNat+1 by omega]
     simp
   · rw[aB h,Jg (by simpa using h)]
     simp
theorem Dq {w y:ah}:∀{xs:List ah},y∈n7 w xs↔y=w∨y∈xs
  |[]=>by simp[n7]
  |x::xs=>by
   have ih:=Dq (w:=w) (y:=y) (xs:=xs)
   unfold n7
   split
   · rw[fe,ih,fe]
     constructor
     · rintro(h|h|h)
       · exact .inr (.inl h)
       · exact .inl h
       · exact .inr (.inr h)
     · rintro(h|h|h)
       · exact .inr (.inl h)
       · exact .inl h
       · exact .inr (.inr h)
   · rw[fe]
theorem JS {w:ah}:∀{xs:List ah},iX xs→w ∉ xs→iX (n7 w xs)
  |[],_,_=>CT _ _
  |x::xs,hs,hw=>by
   obtain⟨h1,h2⟩:=jE.1 hs
   simp only[fe,rZ] at hw
   unfold n7
   split
   · rename_i h
     refine jE.2 ⟨fun y hy=>?_,JS h2 hw.2⟩
     rcases Dq.1 hy with rfl|hy
     · exact h
     · exact h1 y hy
   · rename_i h
     have u:fo w x=true:=by
       cases hl:fo w x with
       |true=>rfl
       |false=>exact absurd (Rj hl (by simpa using h)) hw.1
     refine jE.2 ⟨fun y hy=>?_,hs⟩
     rcases fe.1 hy with rfl|hy
     · exact u
     · exact xL u (h1 y hy)
theorem Dr {w:ah} {c:Int}:∀{xs:List ah},cnt c (n7 w xs)=cnt c xs+if w.Client=c then 1 else 0
  |[]=>by simp[n7,cnt]
  |x::xs=>by
   have ih:=Dr (w:=w) (c:=c) (xs:=xs)
   unfold n7
   split
   · rw[cnt,ih,cnt];omega
   · rw[cnt,cnt];omega
theorem JT (xs:List ah) (w:ah):(nD xs w=xs∧¬(fP w=true∧mS xs w=false∧(cnt w.Client xs:Int)<8))∨(nD xs w=n7 w xs∧nC xs w=0∧fP w=true∧mS xs w=false∧(cnt w.Client xs:Int)<8):=by
  unfold nD nC
  by_cases h1:fP w=false
  · left;simp[h1]
  · rw[aB h1,aB h1]
    by_cases h2:mS xs w=true
    · left;simp[h2]
    · rw[aB h2,aB h2]
      by_cases h3:(cnt w.Client xs:Int)≥8
      · left;rw[aL h3];exact⟨rfl,fun h=>by omega⟩
      · right;rw[aB h3,aB h3];exact⟨JR w xs,rfl,by simpa using h1,by simpa using h2,by omega⟩
theorem Sg {xs l:List ah} (h:iX xs):iX (jm xs l):=by
  unfold jm
  split
  · rename_i hb
    have step:∀k:Nat,k<l.length→kS l k=true:=fun k hk=>gR.1 hb k (q4.2 hk)
    have hn:∀(k:Nat) x y,l[k]?=some x→l[k+1]?=some y→fo x y=true:=by
      intro k x y hx hy
      have:=step (k+1) (dL.1 hy).1
      unfold kS at this
      rw[hy] at this
      simp only[bO,ie,cB] at this
      rcases this.2.1 with h|h
      · omega
      · rwa[show((k+1:Nat):Int)-1=(k:Int) by omega,Jp (x:=x) (by simpa using hx)] at h
    have go:∀(n i j:Nat) x y,j=i+1+n→l[i]?=some x→l[j]?=some y→fo x y=true:=by
      intro n
      induction n with
      |zero=>intro i j x y hj hx hy;subst hj;exact hn i x y hx hy
      |succ n ih=>
       intro i j x y hj hx hy
       have hlt:=(dL.1 hy).1
       have h1:l[i+1+n]?=some l[i+1+n]:=kE (by omega)
       exact xL (ih i _ x _ rfl hx h1) (hn _ _ y h1 (by rw[show i+1+n+1=j by omega];exact hy))
    exact oB.2 fun i j hi hj u=>go (j-i-1) i j _ _ (by omega) (kE hi) (kE hj)
  · exact h
section
variable {xs out:List ah} {w x:ah} {i:Int} {put b:Bool}
end
def vp (ops:Array Oper) (kb:Nat):List (Nat×Bool)→List (Nat×Bool)→List (Nat×Bool)→Array Bool→Bool
  |(i,true)::P,A,B,listed=>Region.free .any ops listed i&&(Region.ready .any ops listed).contains i&&!(Nat.beq i kb)&&(!(ql ops i)||((ops[kb]?).isNone||depOn ops 10 kb i))&&vp ops kb P A B (listed.setIfInBounds i true)
  |[],(i,false)::A,(j,false)::B,listed=>!(Nat.ble 1000 i)&&!(Nat.ble 1000 j)&&((Region.ready .any ops listed==[i,j])||(Region.ready .any ops listed==[j,i]))&&!(Nat.beq i kb)&&!(Nat.beq j kb)&&
     mE ops kb false A (listed.setIfInBounds i true)&&mE ops kb false B (listed.setIfInBounds j true)
  |_,_,_,_=>false
section
variable {P:Program} {ops:Array Oper} {S2:World→Prop} {K:Act→World→Prop} {kb:Nat}
theorem Sh:∀(Q A B:List (Nat×Bool)) (T:World→Prop) (listed:Array Bool) (a:Act) (w:World) (bD:Nat),gH (Q++A)≤bD→gH (Q++B)≤bD→qY ops listed→vp ops kb Q A B listed=true→listed.getD kb false=false→
    kY P ops S2 T (Q++A) K a w→kY P ops S2 T (Q++B) K a w→ot P ops kb T K bD listed a w:=by
  intro Q
  induction Q with
  |nil=>
   intro A B T listed a w bD u I hcl hok D hA hB
   match A,B,hok with
   |(i,false)::A,(j,false)::B,hok=>
    simp only[vp,bO,gZ,ie,kz] at hok
    obtain⟨⟨⟨⟨⟨⟨h1,h2⟩,h3⟩,h4⟩,h5⟩,h6⟩,h7⟩:=hok
    have hik:i≠kb:=fun e=>by subst e;simp at h4
    have hjk:j≠kb:=fun e=>by subst e;simp at h5
    obtain⟨bD,rfl⟩:∃m,bD=m+1:=⟨bD-1,by simp[gH,h1] at u;omega⟩
    have J:gH A≤bD:=by simp[gH,h1] at u;omega
    have O:gH B≤bD:=by simp[gH,h2] at I;omega
    have U:i∈Region.ready .any ops listed:=by rcases h3 with h3|h3<;>rw[h3]<;>simp
    have Z:j∈Region.ready .any ops listed:=by rcases h3 with h3|h3<;>rw[h3]<;>simp
    rw[dY,vZ h1] at hA
    rw[dY,vZ h2] at hB
    refine⟨fun h0=>(by rw[h0] at U;cases U),fun k hk=>?_⟩
    have hkk:k=i∨k=j:=by rcases h3 with h3|h3<;>rw[h3] at hk<;>simp at hk<;>omega
    rcases hkk with rfl|rfl
    · exact mC (fun V w' h'=>⟨fun _=>h'.1,yp A kb T false T _ V w' bD J (lZ hcl U) h6 (fun _=>⟨rfl,by rw[getD_set_ne false hik];exact D⟩) (fun hz=>by cases hz) h'.2⟩) hA
    · exact mC (fun V w' h'=>⟨fun _=>h'.1,yp B kb T false T _ V w' bD O (lZ hcl Z) h7 (fun _=>⟨rfl,by rw[getD_set_ne false hjk];exact D⟩) (fun hz=>by cases hz) h'.2⟩) hB
  |cons p Q ih=>
   obtain⟨i,b⟩:=p
   intro A B T listed a w bD u I hcl hok D hA hB
   cases b with
   |false=>simp[vp] at hok
   |true=>
    obtain⟨bD,rfl⟩:∃m,bD=m+1:=⟨bD-1,by simp[gH] at u;omega⟩
    have J:gH (Q++A)≤bD:=by simp[gH] at u;omega
    have O:gH (Q++B)≤bD:=by simp[gH] at I;omega
    obtain⟨o,v,hi,hd,hy,hS,hA⟩:=hA
    obtain⟨o',ab,hi',am,X,ar,hB⟩:=hB
    rw[hi] at hi'
    cases hi'
    simp only[vp,bO,gZ,ie] at hok
    obtain⟨⟨⟨⟨h1,h2⟩,h3⟩,h4⟩,h5⟩:=hok
    have hik:i≠kb:=fun e=>by subst e;simp at h3
    have h2:i∈Region.ready .any ops listed:=by simpa using h2
    have ad:v=ab:=by
      rcases hy with ⟨hw,hr⟩|⟨hw,rfl⟩
      · rcases X with ⟨_,ae⟩|⟨G,_⟩
        · have hs:(if mD o=true then T else fun _=>True) w:=by split;exact hS;trivial
          have e1:=hr w hs
          have e2:=ae w hs
          rw[e1] at e2
          cases e2
          rfl
        · rw[hw] at G;cases G
      · rcases X with ⟨G,_⟩|⟨_,rfl⟩
        · rw[hw] at G;cases G
        · rfl
    subst ad
    have Y:=ih A B T (listed.setIfInBounds i true) (a.put o.dst v) w bD J O (lZ hcl h2) h5 (by rw[getD_set_ne false hik];exact D) hA hB
    cases hn:mD o with
    |false=>
     rw[hn] at hy
     exact qZ (S':=fun _=>True) hi hd hik (.inl fun _=>trivial) bD listed a w hcl (.inl fun _=>trivial) (Region.free_spec hi h1) h2 (by simpa using hy) trivial (fun _=>hS) Y
    |true=>
     rw[hn,aL rfl] at hy
     have hne:ql ops i=true:=by simp[ql,hi,hn]
     rw[hne] at h4
     simp only[AW,false_or] at h4
     refine qZ (S':=T) hi hd hik (.inr ⟨fun _ h=>h,fun ok hok=>?_⟩) bD listed a w hcl (.inr D) (Region.free_spec hi h1) h2 hy hS (fun _=>hS) Y
     rcases h4 with h4|h4
     · rw[hok] at h4;simp at h4
     · exact⟨10,h4⟩
end
section
variable {C:fC} {ds:List Deferred} {i:Nat} {e:Env} {h:av}
def JU (k:List Item) (Q A B:List (Nat×Bool)):Bool:=match q9 k with
  |some ops=>Nat.ble (gH (Q++A)) ops.size&&(Nat.ble (gH (Q++B)) ops.size&&vp ops (o6 A) Q A B (Array.replicate ops.size false))
  |none=>false
theorem At.gb (hm:C.P.follows .mixedOrders=true) (M:Nat→Prop) (Q A B:List (Nat×Bool)) (hL:JU (pt C.code i) Q A B=true) (u:Op C ds i h M (Q++A) e h) (D:Op C ds i h M (Q++B) e h):At C ds i e h:=by
  intro a w f is
  have u:=u a {w with drawn:=w.drawn+1} f is.nG (dK.refl _ _)
  have D:=D a {w with drawn:=w.drawn+1} f is.nG (dK.refl _ _)
  generalize pt C.code i=k at *
  unfold JU at hL
  split at hL
  · rename_i ops hd
    unfold q9 at hd
    split at hd
    · rename_i id G k'
      simp only[eN] at hd
      subst hd
      simp only[bO] at hL
      have h1:=jb hL.1
      have h2:=jb hL.2.1
      refine eg.nG hm fun t=>yo (kb:=o6 A) (S:=holds C h M) _ _ _ _ _ (Sh Q A B _ _ _ _ _ h1 h2 ?_ hL.2.2 ?_ u D)
      · intro k o ho hk
        have hlt:k<G.size:=(lK.1 ho).1
        simp[hlt] at hk
      · simp only[yt,yu];split<;>rfl
    · cases hd
  · cases hL
end
inductive LT where
  |iN
  |mv (i:Nat) (b:Bool) (t:LT)
  |gb (i j:Nat) (A B:LT)
def LT.aX:LT→List (Nat×Bool)
  |.iN=>[]
  |.mv i b t=>(i,b)::t.aX
  |.gb i j A B=>(3000,false)::(i,false)::(A.aX++(4000,false)::(j,false)::B.aX)
def LT.gQ (P:Program) (ops:Array Oper) (S2:World→Prop) (K:Act→World→Prop):LT→Mv
  |.iN=>fun _=>K
  |.mv i true t=>um P ops i (t.gQ P ops S2 K)
  |.mv i false t=>gG P ops S2 i (t.gQ P ops S2 K)
  |.gb i j A B=>fun S a w=>gG P ops S2 i (A.gQ P ops S2 K) S a w∧gG P ops S2 j (B.gQ P ops S2 K) S a w
def LT.low:LT→Bool
  |.iN=>true
  |.mv i b t=>(b||!(Nat.ble 3000 i))&&t.low
  |.gb i j A B=>!(Nat.ble 3000 i)&&(!(Nat.ble 3000 j)&&(A.low&&B.low))
def LT.size:LT→Nat
  |.iN=>0
  |.mv _ _ t=>t.size+1
  |.gb _ _ A B=>max A.size B.size+1
def LT.ok (ops:Array Oper):LT→Array Bool→Bool
  |.iN,listed=>(Region.ready .any ops listed).isEmpty
  |.mv i true t,listed=>Region.free .any ops listed i&&(Region.ready .any ops listed).contains i&&(!(Nat.beq i 1000000)&&t.ok ops (listed.setIfInBounds i true))
  |.mv i false t,listed=>!(Nat.ble 1000 i)&&((Region.ready .any ops listed==[i])&&t.ok ops (listed.setIfInBounds i true))
  |.gb i j A B,listed=>!(Nat.ble 1000 i)&&(!(Nat.ble 1000 j)&&(((Region.ready .any ops listed==[i,j])||(Region.ready .any ops listed==[j,i]))&&(A.ok ops (listed.setIfInBounds i true)&&B.ok ops (listed.setIfInBounds j true))))
section
variable {P:Program} {ops:Array Oper} {S2:World→Prop} {K:Act→World→Prop}
theorem tU:∀(t:LT) (L:List (Nat×Bool)) (st:List Mv),t.low=true→dW P ops S2 K L=(fun _=>K)::st→dW P ops S2 K (t.aX++L)=t.gQ P ops S2 K::st
  |.iN,L,st,_,h=>h
  |.mv i b t,L,st,hl,h=>by
   simp only[LT.low,bO] at hl
   have ih:=tU t L st hl.2 h
   cases b with
   |true=>
    show um P ops i (Mv.top (dW P ops S2 K (t.aX++L)))::Mv.je (dW P ops S2 K (t.aX++L))=_
    rw[ih];rfl
   |false=>
    have h3:Nat.ble 3000 i=false:=by simpa using hl.1
    show(bif Nat.ble 3000 i then _ else gG P ops S2 i (Mv.top (dW P ops S2 K (t.aX++L)))::Mv.je (dW P ops S2 K (t.aX++L)))=_
    rw[h3,ih];rfl
  |.gb i j A B,L,st,hl,h=>by
   simp only[LT.low,bO,gZ] at hl
   obtain⟨h1,h2,hA,hB⟩:=hl
   have u:=tU B L st hB h
   have D:dW P ops S2 K ((j,false)::(B.aX++L))=gG P ops S2 j (B.gQ P ops S2 K)::st:=by
     show(bif Nat.ble 3000 j then _ else gG P ops S2 j (Mv.top (dW P ops S2 K (B.aX++L)))::Mv.je (dW P ops S2 K (B.aX++L)))=_
     rw[h2,u];rfl
   have G:=tU A ((4000,false)::(j,false)::(B.aX++L)) (gG P ops S2 j (B.gQ P ops S2 K)::st) hA (by
     show(fun _=>K)::dW P ops S2 K ((j,false)::(B.aX++L))=_
     rw[D])
   have I:dW P ops S2 K ((i,false)::(A.aX++(4000,false)::(j,false)::(B.aX++L)))=gG P ops S2 i (A.gQ P ops S2 K)::gG P ops S2 j (B.gQ P ops S2 K)::st:=by
     show(bif Nat.ble 3000 i then _ else gG P ops S2 i (Mv.top (dW P ops S2 K (A.aX++(4000,false)::(j,false)::(B.aX++L))))::Mv.je (dW P ops S2 K (A.aX++(4000,false)::(j,false)::(B.aX++L))))=_
     rw[h1,G];rfl
   have e:(LT.gb i j A B).aX++L=(3000,false)::(i,false)::(A.aX++(4000,false)::(j,false)::(B.aX++L)):=by
     show(3000,false)::(i,false)::((A.aX++(4000,false)::(j,false)::B.aX)++L)=_
     rw[cI];rfl
   rw[e]
   show(fun S a w=>Mv.top (dW P ops S2 K ((i,false)::(A.aX++(4000,false)::(j,false)::(B.aX++L)))) S a w∧Mv.top (Mv.je (dW P ops S2 K ((i,false)::(A.aX++(4000,false)::(j,false)::(B.aX++L))))) S a w)::
     Mv.je (Mv.je (dW P ops S2 K ((i,false)::(A.aX++(4000,false)::(j,false)::(B.aX++L)))))=_
   rw[I];rfl
theorem Si:∀(t:LT) (T:World→Prop) (listed:Array Bool) (a:Act) (w:World) (bD:Nat),t.size≤bD→qY ops listed→t.ok ops listed=true→ops.size≤1000000→listed.getD 1000000 false=false→
    t.gQ P ops S2 K T a w→ot P ops 1000000 T K bD listed a w:=by
  intro t
  induction t with
  |iN=>exact fun T listed a w bD _ _ hok _ _ h=>EV (by simpa[LT.ok,List.isEmpty_iff] using hok) h bD
  |mv i b t ih=>
   intro T listed a w bD hf hcl hok hsz G h
   obtain⟨bD,rfl⟩:∃m,bD=m+1:=⟨bD-1,by simp[LT.size] at hf;omega⟩
   have I:t.size≤bD:=by simp[LT.size] at hf;omega
   cases b with
   |true=>
    obtain⟨o,v,hi,hd,hy,hS,h⟩:=h
    simp only[LT.ok,bO,gZ] at hok
    obtain⟨⟨h1,h2⟩,h3,h5⟩:=hok
    have hik:i≠1000000:=fun e=>by subst e;simp at h3
    have h2:i∈Region.ready .any ops listed:=by simpa using h2
    have J:=ih T (listed.setIfInBounds i true) (a.put o.dst v) w bD I (lZ hcl h2) h5 hsz (by rw[getD_set_ne false hik];exact G) h
    cases hn:mD o with
    |false=>
     rw[hn] at hy
     exact qZ (S':=fun _=>True) hi hd hik (.inl fun _=>trivial) bD listed a w hcl (.inl fun _=>trivial) (Region.free_spec hi h1) h2 (by simpa using hy) trivial (fun _=>hS) J
    |true=>
     rw[hn,aL rfl] at hy
     refine qZ (S':=T) hi hd hik (.inr ⟨fun _ h=>h,fun ok hok=>?_⟩) bD listed a w hcl (.inr G) (Region.free_spec hi h1) h2 hy hS (fun _=>hS) J
     have:=(lK.1 hok).1
     omega
   |false=>
    simp only[LT.ok,bO,gZ,kz] at hok
    obtain⟨h1,h2,h3⟩:=hok
    have hik:i≠1000000:=fun e=>by subst e;simp at h1
    have D:i∈Region.ready .any ops listed:=by rw[h2];simp
    have h:jq P ops i (fun u w'=>T w'∧t.gQ P ops S2 K T u w') a w:=by
      have h':gG P ops S2 i (t.gQ P ops S2 K) T a w:=h
      unfold gG at h'
      rwa[aB (by rw[h1];simp)] at h'
    refine⟨fun h0=>(by rw[h0] at D;cases D),fun k hk=>?_⟩
    rw[h2] at hk
    obtain rfl:k=i:=by simpa using hk
    exact mC (fun u w' h'=>⟨fun _=>h'.1,ih T _ u w' bD I (lZ hcl D) h3 hsz (by rw[getD_set_ne false hik];exact G) h'.2⟩) h
  |gb i j A B O U=>
   intro T listed a w bD hf hcl hok hsz G h
   obtain⟨bD,rfl⟩:∃m,bD=m+1:=⟨bD-1,by simp[LT.size] at hf;omega⟩
   have V:A.size≤bD:=by simp[LT.size] at hf;omega
   have X:B.size≤bD:=by simp[LT.size] at hf;omega
   simp only[LT.ok,bO,gZ,ie,kz] at hok
   obtain⟨h1,h2,h3,hA,hB⟩:=hok
   have hik:i≠1000000:=fun e=>by subst e;simp at h1
   have hjk:j≠1000000:=fun e=>by subst e;simp at h2
   have D:i∈Region.ready .any ops listed:=by rcases h3 with h3|h3<;>rw[h3]<;>simp
   have Y:j∈Region.ready .any ops listed:=by rcases h3 with h3|h3<;>rw[h3]<;>simp
   obtain⟨g1,g2⟩:=h
   have g1:jq P ops i (fun u w'=>T w'∧A.gQ P ops S2 K T u w') a w:=by unfold gG at g1;rwa[aB (by rw[h1];simp)] at g1
   have g2:jq P ops j (fun u w'=>T w'∧B.gQ P ops S2 K T u w') a w:=by unfold gG at g2;rwa[aB (by rw[h2];simp)] at g2
   refine⟨fun h0=>(by rw[h0] at D;cases D),fun k hk=>?_⟩
   have hkk:k=i∨k=j:=by rcases h3 with h3|h3<;>rw[h3] at hk<;>simp at hk<;>omega
   rcases hkk with rfl|rfl
   · exact mC (fun u w' h'=>⟨fun _=>h'.1,O T _ u w' bD V (lZ hcl D) hA hsz (by rw[getD_set_ne false hik];exact G) h'.2⟩) g1
   · exact mC (fun u w' h'=>⟨fun _=>h'.1,U T _ u w' bD X (lZ hcl Y) hB hsz (by rw[getD_set_ne false hjk];exact G) h'.2⟩) g2
end
section
variable {C:fC} {ds:List Deferred} {i:Nat} {e:Env} {h r:av} {M:Nat→Prop}
def JV (k:List Item) (t:LT):Bool:=match q9 k with
  |some ops=>Nat.ble t.size ops.size&&(Nat.ble ops.size 1000000&&(t.low&&t.ok ops (Array.replicate ops.size false)))
  |none=>false
theorem At.tree (hm:C.P.follows .mixedOrders=true) (M:Nat→Prop) (t:LT) (hL:JV (pt C.code i) t=true) (H:Op C ds i h M t.aX e h):At C ds i e h:=by
  intro a w f is
  have H:=H a {w with drawn:=w.drawn+1} f is.nG (dK.refl _ _)
  generalize pt C.code i=k at *
  unfold JV at hL
  split at hL
  · rename_i ops hd
    unfold q9 at hd
    split at hd
    · rename_i id u k'
      simp only[eN] at hd
      subst hd
      simp only[bO] at hL
      have h1:=jb hL.1
      have h2:=jb hL.2.1
      have hs:=tU (P:=C.P) (ops:=u) (S2:=holds C #[] fun _=>True) (K:=fun a w=>eg C.P C.ro C.fn C.Q k' a w) t [] [] hL.2.2.1 rfl
      rw[dh] at hs
      refine eg.nG hm fun D=>yo (kb:=1000000) (S:=holds C h M) _ _ _ _ _ (Si (S2:=holds C #[] fun _=>True) t _ _ _ _ _ h1 ?_ hL.2.2.2 h2 ?_ ?_)
      · intro k o ho hk
        have hlt:k<u.size:=(lK.1 ho).1
        simp[hlt] at hk
      · simp only[yt,yu];split<;>rfl
      · have H:Mv.top (dW C.P u (holds C #[] fun _=>True) (fun a w=>eg C.P C.ro C.fn C.Q k' a w) t.aX) (holds C h M) a {w with drawn:=w.drawn+1}:=H
        rw[hs] at H
        exact H
    · cases hd
  · cases hL
theorem Op.nW (D u:LT) {A B L:List (Nat×Bool)} (hA:D.low=true) (hB:u.low=true) (U:D.aX=A) (V:u.aX=B) (X:A++(4000,false)::B=L) (G:Op C ds i r M A e h) (I:Op C ds i r M B e h):Op C ds i r M ((3000,false)::L) e h:=by
  intro a w f is hk
  have G:=G a w f is hk
  have I:=I a w f is hk
  subst U V X
  unfold kY at *
  generalize (fun a w=>eg C.P C.ro C.fn C.Q (pt C.code i).tail a w)=K at *
  have J:=tU (P:=C.P) (ops:=iE (pt C.code i)) (S2:=holds C #[] fun _=>True) (K:=K) D [] [] hA rfl
  have O:=tU (P:=C.P) (ops:=iE (pt C.code i)) (S2:=holds C #[] fun _=>True) (K:=K) u [] [] hB rfl
  rw[dh] at J O
  have s2:=tU (P:=C.P) (ops:=iE (pt C.code i)) (S2:=holds C #[] fun _=>True) (K:=K) D ((4000,false)::u.aX) (dW C.P (iE (pt C.code i)) (holds C #[] fun _=>True) K u.aX) hA rfl
  rw[J] at G
  rw[O] at I s2
  show Mv.top (dW C.P (iE (pt C.code i)) (holds C #[] fun _=>True) K (D.aX++(4000,false)::u.aX)) _ a w∧Mv.top (Mv.je (dW C.P (iE (pt C.code i)) (holds C #[] fun _=>True) K (D.aX++(4000,false)::u.aX))) _ a w
  rw[s2]
  exact⟨G,I⟩
theorem Op.fk {j k:Nat} {A B:LT} (u:Op C ds i r M ((j,false)::A.aX) e h) (D:Op C ds i r M ((k,false)::B.aX) e h) (hA:A.low=true:=by rfl) (hB:B.low=true:=by rfl) (hj:Nat.ble 3000 j=false:=by rfl) (hk:Nat.ble 3000 k=false:=by rfl):Op C ds i r M (LT.gb j k A B).aX e h:=
  Op.nW (.mv j false A) (.mv k false B) (by simp[LT.low,hj,hA]) (by simp[LT.low,hk,hB]) rfl rfl rfl u D
end
def gM (g:GH) (b:Nat) (x:List (Int×(List ah))) (c:au):Prop:=sj 69 cu g b x c
theorem gM.mono {g g':GH} {b:Nat} {x:List (Int×(List ah))} {c:au} (h:gM g b x c) (hg:aG g g'):gM g' b x c:=sj.mono h hg
def tV (g:GH) (b:Nat) (x:List (Int×(List ah))):Prop:=vi 69 cu g b x
theorem tV.mono {g g':GH} {b:Nat} {x:List (Int×(List ah))} (h:tV g b x) (hg:aG g g'):tV g' b x:=vi.mono h hg
theorem gM.fK {h0:av} {g0:GH} {S0:Nat→Prop} {g:GH} {L:List au} {h:av} {C c:au} {b:Nat} {x:List (Int×(List ah))} (H:gM g b x c) (s:St h0 g0 S0 g (C::L) h) (hc:∀p∈c,p∈C):tV (cQ g C) b x:=sj.fK H s hc
def qa (g:GH) (a:f_) (v:Value):Prop:=∃u,v=.agg #[.int .i64 a.stamp,u]∧ay g 5 bn u a.data
theorem qa.mono {g g':GH} {a:f_} {v:Value} (hg:aG g g') (h:qa g a v):qa g' a v:=by
 obtain⟨u,e,h0⟩:=h
 exact⟨u,e,h0.mono hg⟩
def iK (g:GH) (b:Nat) (x:List (Int×f_)) (c:au):Prop:=nR qa g b x c
theorem iK.mono {g g':GH} {b:Nat} {x:List (Int×f_)} {c:au} (h:iK g b x c) (hg:aG g g'):iK g' b x c:=nR.mono (fun _ _=>qa.mono hg) h
def tW (g:GH) (b:Nat) (x:List (Int×f_)):Prop:=pQ qa g b x
theorem tW.mono {g g':GH} {b:Nat} {x:List (Int×f_)} (h:tW g b x) (hg:aG g g'):tW g' b x:=pQ.mono hg (fun _ _=>qa.mono hg) h
theorem iK.fK {h0:av} {g0:GH} {S0:Nat→Prop} {g:GH} {L:List au} {h:av} {C c:au} {b:Nat} {x:List (Int×f_)} (H:iK g b x c) (s:St h0 g0 S0 g (C::L) h) (hc:∀p∈c,p∈C):tW (cQ g C) b x:=nR.fK (fun _ _=>qa.mono s.gi) H s hc
def bB (g:GH) (b:Nat) (x:Sp) (c:au):Prop:=∃b0 c0 b1 c1 b2 c2 u D G I,c=(b,.cells #[vP b0,vP b1,vP b2,.int .i64 x.ax,.int .i64 x.count,.map (some u),.map (some G)] 79 (0,0))::(c0++(c1++(c2++(D++I))))∧eU g b0 x.an c0∧gF g b1 x.aD c1∧fN g b2 x.az c2∧gM g u x.events D∧iK g G x.aI I
theorem bB.mono {g g':GH} {b:Nat} {x:Sp} {c:au} (h:bB g b x c) (hg:aG g g'):bB g' b x c:=by
 obtain⟨b0,c0,b1,c1,b2,c2,u,D,G,I,e,h0,h1,h2,h3,h4⟩:=h
 exact⟨b0,c0,b1,c1,b2,c2,u,D,G,I,e,h0.mono hg,h1.mono hg,h2.mono hg,h3.mono hg,h4.mono hg⟩
theorem bB.eq {g:GH} {b:Nat} {x y:Sp} {c:au} (h:bB g b x c) (e:x=y):bB g b y c:=e▸h
theorem vr (B:World) (h:av) (g:GH) (hg:bf g h) (G:bh g):
  aA prog B 8 #[] h g [] (fun ad g' L'=>∃b0 J,ad=vP b0∧bB g' b0 eM J∧L'=[J]):=by
 refine aA.aq func8 fun R hR=>?_
 have O:=St.init hg
 refine At.go 1 1 []<|At.rg 8<|Op.c0 (some 1) (Qs _ _ _ O.sub G) O ?_
 rintro _ ae _ bt am U ⟨V,b3,rfl,ar,X,rfl⟩;subst ae;clear am
 refine Op.c0 (some 2) (Sd _ _ _ U.sub G) U ?_
 rintro _ aw _ b4 a0 Y ⟨Z,b5,rfl,a1,X,rfl⟩;subst aw;clear a0
 refine Op.c0 (some 3) (Pv _ _ _ Y.sub G) Y ?_
 rintro _ a3 _ b6 a4 a5 ⟨ab,b8,rfl,a6,X,rfl⟩;subst a3;clear a4
 refine Op.makeMap (mt:=76) (dst:=4) (by kernel_rfl) a5 fun I ca a7=>?_
 have a8:cC encI #[] 0 ([]:List (Int×Value)):=cC.empty _ _
 have a9:jX 69 cu g [] ([]:List (Int×(List ah))) []:=jX.nil
 refine Op.makeMap (mt:=77) (dst:=5) (by kernel_rfl) (a7.nl.fs [1] rfl) fun u cb bb=>?_
 have bc:cC encI #[] 0 ([]:List (Int×Value)):=cC.empty _ _
 have bd:eS (qa g) [] ([]:List (Int×f_)):=eS.nil
 refine Op.px 1 [(6,.agg #[vP V,vP Z,vP ab,vI 0,vI 0,.map (some I),.map (some u)])]<|Op.bx 7 79 6 #[vP V,vP Z,vP ab,vI 0,vI 0,.map (some I),.map (some u)] bb fun D ce be=>Op.pg 2 [(0,vP D)] ?_
 obtain⟨cf,bi,bj⟩:=St.bl (Q:=gM g I ([]:List (Int×(List ah)))) 2 (be.fs [1,1,3,3] rfl) ⟨_,_,_,_,rfl,a8,a9⟩
 have bk:iK g u ([]:List (Int×f_)) [(u,.map #[] 0)]:=⟨_,_,_,rfl,bc,bd⟩
 obtain⟨bm,bo,bs⟩:=St.bl (Q:=bB g D (⟨[⟨[47],[],0, -1,0,0⟩],[],([]:fm),0,0,([]:List (Int×(List ah))),([]:List (Int×f_))⟩:Sp)) 6 (bj.fs [2,1,3,4,5,5] rfl) ⟨_,_,_,_,_,_,_,_,_,_,rfl,ar,a1,a6,bi,bk⟩
 exact At.rt (vP D) (hR bs ⟨D,bm,rfl,bo.eq (by rfl),rfl⟩)
theorem Ds (B:World) (h:av) (g:GH) (hg:bf g h) (dv:bh g) (I:Nat) (s:Sp) (U:au) (dC:bB g I s U) (kind:Int) (bs:Value) (cZ:List aj) (bt:ay g 9 ew bs cZ) (h1:s.aD.length≤1000000) (h2:cZ.length≤1000000) (hq:p_ s.aD s.events) (hs:St h g (aM [U]) g [U] h):
  aA prog B 98 #[vP I,vI kind,bs] h g [U] (fun dE g' L'=>∃b3,dE=.tuple #[]∧bB g' I (su s kind cZ) b3∧L'=[b3]):=by
 obtain⟨dT,d0,rfl⟩:=bt.ai
 refine aA.aq func98 fun R hR=>At.rp 9 3 [(10,vQ I 1)] ?_
 obtain⟨d1,b4,a4,d2,d3,b5,G,d4,d5,b6,d6,a5,d7,a6,d8,a7⟩:=dC
 have b8:=St.un [b4,d2,b5,d4,b6] d6 hs
 refine Op.l1 72 10 11 1 (vP a4) (b8.ag 0 rfl)<|Op.px 2 [(12,vI kind),(13,vL dT cZ.length d0)] ?_
 have a8:=b8.fs [1,1,2] rfl
 refine Op.cl (some 14) 1 a8 (Sb _ _ _ a8.sub dv a4 s.aD _ d7 kind _ _ bt (by(try dsimp only)<;>omega) (by(try dsimp only)<;>omega) (St.pt 1 a8)) ?_
 rintro _ d9 _ f8 ea eb ⟨f9,ed,ee,rfl,Z,a9,gc,rfl⟩;subst d9;clear ea
 obtain⟨ef,ca,rfl⟩:=Z.ai
 refine Op.pg 1 [(15,vI (((List.filter (fY kind cZ) s.aD)).length:Int)),(16,vI 0)] ?_
 have eh:∀(m:Nat) (J:GH) (O:aG g J) (e:gL) (i:Int) (ab:au) (bb:av) (hm:(s.aD.filter (fY kind cZ)).length-i.toNat<m) (h0:0≤i) (h3:i≤(s.aD.filter (fY kind cZ)).length) (he:e=eV s.events ((s.aD.filter (fY kind cZ)).take i.toNat)) (ad:gM J G e ab) (ae:St h g (aM [U]) J [ee,ed,[(I,Obj.cells #[vP d1,vP a4,vP d3,vI s.ax,vI s.count,.map (some G),.map (some d5)] 79 (0,0))],b4,b5,ab,b6] bb),At (bS prog B 98 f98 R) [] 1 [(0,vP I),(14,vL ef (((List.filter (fY kind cZ) s.aD)).length) ca),(15,vI (((List.filter (fY kind cZ) s.aD)).length:Int)),(16,vI i)] bb:=by
  intro m;induction m with
  |zero=>intros;omega
  |succ m am=>
   intro J O e i ab bb hm h0 h3 he ad ae
   replace a5:=a5.mono O
   replace a6:=a6.mono O
   replace a7:=a7.mono O
   replace Z:=Z.mono O
   replace a9:=a9.mono O
   refine At.go 2 1 [(17,.bool (decide (i<(((List.filter (fY kind cZ) s.aD)).length:Int))))]<|At.fd (i<(((List.filter (fY kind cZ) s.aD)).length:Int)) 17 3 6 (fun ge=>?_) fun gg=>?_
   ·refine At.rg 4 ?_
    obtain⟨u,V⟩:=cD (List.filter (fY kind cZ) s.aD) i
    obtain⟨ej,cb,gk,gn,em,en,bc⟩:=ig.br (Z.toH ae 1 rfl) _ V
    cases em
    refine Op.iq 42 69 3 32 (((List.filter (fY kind cZ) s.aD)).length) ca 14 16 18 ej cb i ?_
    replace bc:cut _ _ _=[vI u.Client,vI u.Kind,vS u.aa]:=bc
    refine Op.la 69 18 19 (cb+i.toNat*3) 3 [vI u.Client,vI u.Kind,vS u.aa] en ?_ (hv:=bc)
    refine Op.al 7 69 ko ae fun ar gs eo=>Op.sg 69 7 19 0 0 #[vI u.Client,vI u.Kind,vS u.aa] eo zt fun g1 D=>Op.gt 4<|At.gb (by kernel_rfl) (aM [ab]) [(0,true),(1,true),(2,true),(4,true),(6,true),(7,true),(8,true),(10,true),(3,true),(5,true),(9,true),(11,true),(13,true)] [(12,false),(14,false),(15,false),(16,false)] [(14,false),(12,false),(15,false),(16,false)] (by kernel_rfl) ?_ ?_
    ·show Op _ _ _ _ _ [(0,true),(1,true),(2,true),(4,true),(6,true),(7,true),(8,true),(10,true),(3,true),(5,true),(9,true),(11,true),(13,true),(12,false),(14,false),(15,false),(16,false)] _ _
     refine Op.px 8 [(22,vQ I 5),(24,vP ar),(28,vQ I 5),(30,vP ar)]<|Op.lf 76 22 5 23 1 (.map (some G)) (D.dF 3 [6] rfl rfl rfl) (D.ag 3 rfl)<|Op.lf 3 24 0 25 1 (vI u.Client) (D.dF 0 [6] rfl rfl rfl) (D.ag 0 rfl)<|Op.lf 76 28 5 29 1 (.map (some G)) (D.dF 3 [6] rfl rfl rfl) (D.ag 3 rfl)<|Op.lf 3 30 0 31 1 (vI u.Client) (D.dF 0 [6] rfl rfl rfl) (D.ag 0 rfl) ?_
     refine Op.jg (T:=69) (x:=7) (o:=0) (d:=33) (n:=3) (vs:=[vI u.Client,vI u.Kind,vS u.aa]) (by kernel_rfl) (by kernel_rfl) (by kernel_rfl) (D.dF 0 [6] rfl rfl rfl) (D.ag 0 rfl) (by kernel_rfl) rfl ?_
     obtain⟨ce,cf,g2,ep,aw,a0,er⟩:=ad
     have bd:=St.un [ep] aw (D.fs [5,5,5,5,5,5,6] rfl)
     rcases er.gy u.Client with ⟨be,et,bi⟩|⟨g3,X,g4,g5,be,et,ch,ci,bi⟩
     ·refine Op.mn (.slice none 0 0) 76 29 31 32 u.Client (bd.ag 0 rfl) a0 be<|Op.ls 34 1 69 #[vI u.Client,vI u.Kind,vS u.aa] bd fun g6 g7 ex=>?_
      have ck:=ex.nl
      have eA:=aF.nil 69 cu J
      refine Op.ap 32 34 42 42 35 69 32 cu (ys:=[u]) eA ck 0 (⟨_,_,rfl,rfl,Reads.nil⟩) (by(simp only[bL,cS];omega)) (fun p hq _=>absurd hq (by simp)) (di.lit (m:=1) (sz:=3) (ck.ag 1 rfl) (news:=[vI u.Client,vI u.Kind,vS u.aa]) rfl rfl (by simp[Value.oneCell']) _) fun g8 g9 ha co eB hb=>?_
      obtain⟨c3,c4,rfl⟩:=co.ai
      refine Op.jQ (d:=.int .i64) (z:=.slice none 0 0) (mt:=76) (x:=23) (ix:=25) (y:=35) (k:=u.Client) (v:=vL c3 ((([]:List ah)++([u])).length) c4) (.inl (by kernel_rfl)) (by kernel_rfl) iu (by kernel_rfl) (by kernel_rfl) (by kernel_rfl) ((eB.fs [1] rfl).drop) 1 rfl a0 (fun _=>⟨(G,.map ce cf),by simp[aw],rfl⟩) fun hf hh hj eI eJ=>?_
      have eK:=bi.1 _ (vL c3 ((([]:List ah)++([u])).length) c4) _ _ (aG.refl _) co
      refine Op.gt 5<|At.rg 2<|Op.dQ 36 (i+1) (by omega) (by(have:=kG (fY kind cZ) s.aD;omega))<|Op.pg 1 [(16,vI (i+1))] ?_
      obtain⟨hl,eL,eQ⟩:=St.bl (Q:=gM J G (b7 e u.Client (([]:List ah)++([u])))) 2 ((St.mg 2 (eJ.fs [1,2,2] rfl)).fs [1] rfl) ⟨_,_,_,_,rfl,eI,eK⟩
      exact At.ke (am _ O (b7 e u.Client (([]:List ah)++([u]))) (i+1) _ _ (by omega) (by omega) (by omega) (by exact vm he h0 V ‹_›) eL ((eQ.fs [6,6,6,6,6,6] rfl).drop))
     obtain⟨a116,eT,rfl⟩:=ch.ai
     have c5:=St.nW ci (bd.fs [1] rfl)
     refine Op.mk (.slice none 0 0) 76 29 31 32 u.Client (vL a116 X.length eT) (c5.ag 2 rfl) a0 be<|Op.ls 34 1 69 #[vI u.Client,vI u.Kind,vS u.aa] c5 fun hn ho c6=>Op.ap 32 34 42 42 35 69 32 cu (ys:=[u]) ch c6 1 (⟨_,_,rfl,rfl,Reads.nil⟩) (by(have:=JD hq he ‹_›;simp only[bL,cS];omega)) (fun p hq _=>⟨p,by simp[aw,ci.mem_iff,hq],rfl⟩) (di.lit (m:=1) (sz:=3) (c6.ag 0 rfl) (news:=[vI u.Client,vI u.Kind,vS u.aa]) rfl rfl (by simp[Value.oneCell']) _) fun hp hr hu c8 e1 hw=>?_
     obtain⟨c9,da,rfl⟩:=c8.ai
     refine Op.jQ (d:=.int .i64) (z:=.slice none 0 0) (mt:=76) (x:=23) (ix:=25) (y:=35) (k:=u.Client) (v:=vL c9 ((X++([u])).length) da) (.inl (by kernel_rfl)) (by kernel_rfl) iu (by kernel_rfl) (by kernel_rfl) (by kernel_rfl) ((e1).drop) 2 rfl a0 (fun _=>⟨(G,.map ce cf),by simp[aw],rfl⟩) fun hx hy hz e2 e3=>?_
     have e4:=bi.1 _ (vL c9 ((X++([u])).length) da) _ _ (aG.refl _) c8
     refine Op.gt 5<|At.rg 2<|Op.dQ 36 (i+1) (by omega) (by(have:=kG (fY kind cZ) s.aD;omega))<|Op.pg 1 [(16,vI (i+1))] ?_
     obtain⟨hA,e5,e6⟩:=St.bl (Q:=gM J G (b7 e u.Client (X++([u])))) 2 ((St.mg 2 e3).fs [1] rfl) ⟨_,_,_,_,rfl,e2,e4⟩
     exact At.ke (am _ O (b7 e u.Client (X++([u]))) (i+1) _ _ (by omega) (by omega) (by omega) (by exact vn he h0 V ‹_›) e5 ((e6.fs [6,6,6,6,6,6] rfl).drop))
    show Op _ _ _ _ _ [(0,true),(1,true),(2,true),(4,true),(6,true),(7,true),(8,true),(10,true),(3,true),(5,true),(9,true),(11,true),(13,true),(14,false),(12,false),(15,false),(16,false)] _ _
    refine Op.px 8 [(22,vQ I 5),(24,vP ar),(28,vQ I 5),(30,vP ar)]<|Op.lf 76 22 5 23 1 (.map (some G)) (D.dF 3 [6] rfl rfl rfl) (D.ag 3 rfl)<|Op.lf 3 24 0 25 1 (vI u.Client) (D.dF 0 [6] rfl rfl rfl) (D.ag 0 rfl)<|Op.lf 76 28 5 29 1 (.map (some G)) (D.dF 3 [6] rfl rfl rfl) (D.ag 3 rfl)<|Op.lf 3 30 0 31 1 (vI u.Client) (D.dF 0 [6] rfl rfl rfl) (D.ag 0 rfl) ?_
    refine Op.jg (T:=69) (x:=7) (o:=0) (d:=33) (n:=3) (vs:=[vI u.Client,vI u.Kind,vS u.aa]) (by kernel_rfl) (by kernel_rfl) (by kernel_rfl) (D.dF 0 [6] rfl rfl rfl) (D.ag 0 rfl) (by kernel_rfl) rfl<|Op.ls 34 1 69 #[vI u.Client,vI u.Kind,vS u.aa] D fun hB hC e7=>?_
    obtain⟨db,dc,hD,e8,a1,a3,e9⟩:=ad
    have bj:=St.un [e8] a1 (e7.fs [6,6,6,6,6,6,6,7] rfl)
    rcases e9.gy u.Client with ⟨bk,fa,bm⟩|⟨hE,Y,hF,hG,bk,fa,dd,df,bm⟩
    ·refine Op.mn (.slice none 0 0) 76 29 31 32 u.Client (bj.ag 0 rfl) a3 bk ?_
     have dg:=bj.nl
     have fg:=aF.nil 69 cu J
     refine Op.ap 32 34 42 42 35 69 32 cu (ys:=[u]) fg dg 0 (⟨_,_,rfl,rfl,Reads.nil⟩) (by(simp only[bL,cS];omega)) (fun p hq _=>absurd hq (by simp)) (di.lit (m:=1) (sz:=3) (dg.ag 3 rfl) (news:=[vI u.Client,vI u.Kind,vS u.aa]) rfl rfl (by simp[Value.oneCell']) _) fun hH hI hJ dj fi hK=>?_
     obtain⟨dk,dl,rfl⟩:=dj.ai
     refine Op.jQ (d:=.int .i64) (z:=.slice none 0 0) (mt:=76) (x:=23) (ix:=25) (y:=35) (k:=u.Client) (v:=vL dk ((([]:List ah)++([u])).length) dl) (.inl (by kernel_rfl)) (by kernel_rfl) iu (by kernel_rfl) (by kernel_rfl) (by kernel_rfl) ((fi.fs [3] rfl).drop) 1 rfl a3 (fun _=>⟨(G,.map db dc),by simp[a1],rfl⟩) fun hL hN hO fj fl=>?_
     have fp:=bm.1 _ (vL dk ((([]:List ah)++([u])).length) dl) _ _ (aG.refl _) dj
     refine Op.gt 5<|At.rg 2<|Op.dQ 36 (i+1) (by omega) (by(have:=kG (fY kind cZ) s.aD;omega))<|Op.pg 1 [(16,vI (i+1))] ?_
     obtain⟨hP,fr,ft⟩:=St.bl (Q:=gM J G (b7 e u.Client (([]:List ah)++([u])))) 2 ((St.mg 2 (fl.fs [1,2,2] rfl)).fs [1] rfl) ⟨_,_,_,_,rfl,fj,fp⟩
     exact At.ke (am _ O (b7 e u.Client (([]:List ah)++([u]))) (i+1) _ _ (by omega) (by omega) (by omega) (by exact vm he h0 V ‹_›) fr ((ft.fs [6,6,6,6,6,6] rfl).drop))
    obtain⟨fv,fw,rfl⟩:=dd.ai
    have bo:=St.nW df (bj.fs [1] rfl)
    refine Op.mk (.slice none 0 0) 76 29 31 32 u.Client (vL fv Y.length fw) (bo.ag 2 rfl) a3 bk<|Op.ap 32 34 42 42 35 69 32 cu (ys:=[u]) dd bo 0 (⟨_,_,rfl,rfl,Reads.nil⟩) (by(have:=JD hq he ‹_›;simp only[bL,cS];omega)) (fun p hq _=>⟨p,by simp[a1,df.mem_iff,hq],rfl⟩) (di.lit (m:=1) (sz:=3) (bo.ag 3 rfl) (news:=[vI u.Client,vI u.Kind,vS u.aa]) rfl rfl (by simp[Value.oneCell']) _) fun hQ hS hT dp fx hV=>?_
    obtain⟨dq,du,rfl⟩:=dp.ai
    refine Op.jQ (d:=.int .i64) (z:=.slice none 0 0) (mt:=76) (x:=23) (ix:=25) (y:=35) (k:=u.Client) (v:=vL dq ((Y++([u])).length) du) (.inl (by kernel_rfl)) (by kernel_rfl) iu (by kernel_rfl) (by kernel_rfl) (by kernel_rfl) ((fx.fs [3] rfl).drop) 2 rfl a3 (fun _=>⟨(G,.map db dc),by simp[a1],rfl⟩) fun hW hX hY f0 f1=>?_
    have f2:=bm.1 _ (vL dq ((Y++([u])).length) du) _ _ (aG.refl _) dp
    refine Op.gt 5<|At.rg 2<|Op.dQ 36 (i+1) (by omega) (by(have:=kG (fY kind cZ) s.aD;omega))<|Op.pg 1 [(16,vI (i+1))] ?_
    obtain⟨hZ,f3,f4⟩:=St.bl (Q:=gM J G (b7 e u.Client (Y++([u])))) 2 ((St.mg 2 f1).fs [1] rfl) ⟨_,_,_,_,rfl,f0,f2⟩
    exact At.ke (am _ O (b7 e u.Client (Y++([u]))) (i+1) _ _ (by omega) (by omega) (by omega) (by exact vn he h0 V ‹_›) f3 ((f4.fs [6,6,6,6,6,6] rfl).drop))
   obtain⟨f5,f6,f7⟩:=St.bl (Q:=bB J I (⟨s.an,(List.filter (fun w=>!fY kind cZ w) s.aD),s.az,s.ax,s.count,e,s.aI⟩:Sp)) 6 (ae.fs [1,6,6,6,4,6,6] rfl) ⟨_,_,_,_,_,_,_,_,_,_,rfl,a5,a9,a6,ad,a7⟩
   exact At.rt dr<|hR (f7.fs [1] rfl).drop ⟨f5,rfl,f6.eq (by(rw[RL he ‹_›];rfl)),rfl⟩
 exact At.ke (eh _ _ (aG.refl _) s.events 0 _ _ (bK _) (by omega) (by omega) (by rfl) d8 eb)
theorem JW (B:World) (h:av) (g:GH) (hg:bf g h) (u:bh g) (D:Nat) (s:Sp) (G:au) (J:bB g D s G) (p:aj) (I:dH s) (hp:p.length≤1000000000) (hs:St h g (aM [G]) g [G] h):
  aA prog B 57 #[vP D,vS p] h g [G] (fun am g' L'=>∃X,am=.tuple #[]∧bB g' D (vk s p) X∧L'=[X]):=by
 refine aA.aq func57 fun R hR=>At.rp 4 2 [(6,vP D),(7,vS p)]<|Op.ls 8 1 9 #[vS p] hs fun Y bc ar=>?_
 have aw:aF 9 ew g (vL (some ⟨Y,0,none⟩) 1 1) [p] [(Y,Obj.cells #[vS p] 9 (0,0))]:=aF.lit (by kernel_rfl) (by unfold maxLen;decide) (by kernel_rfl) ⟨_,_,rfl,rfl,Reads.nil⟩
 obtain⟨bd,O,Z,a0⟩:=aF.freeze aw (ar)
 replace u:=u.mono Z
 replace J:=J.mono Z
 refine Op.cl (some 9) 1 O (Ds _ _ _ O.sub u D s _ J 1 _ _ a0 (by((try dsimp only)<;>((have:=I.wl;omega)))) (by((try dsimp only)<;>((simp;done)))) (by(try dsimp only)<;>exact I.quo) (St.pt 1 O)) ?_
 rintro _ a1 _ be a3 ab ⟨bi,rfl,U,rfl⟩
 replace u:=u.mono a3
 refine Op.gt 1<|At.rp 7 1 [(11,vS p)]<|Op.c1 12 (xo _ _ _ ab.sub u p (by(try dsimp only)<;>omega)) ab fun bj a4=>Op.pg 2 [(4,vS (parentOf p))]<|At.rp 4 2 [(15,vP D),(16,vS (parentOf p))] ?_
 refine Op.ls 17 1 9 #[vS (parentOf p)] a4 fun ad bk a5=>?_
 have a6:aF 9 ew a1 (vL (some ⟨ad,0,none⟩) 1 1) [parentOf p] [(ad,Obj.cells #[vS (parentOf p)] 9 (0,0))]:=aF.lit (by kernel_rfl) (by unfold maxLen;decide) (by kernel_rfl) ⟨_,_,rfl,rfl,Reads.nil⟩
 obtain⟨bm,V,ae,a7⟩:=aF.freeze a6 (a5)
 replace u:=u.mono ae
 replace U:=U.mono ae
 refine Op.cl (some 18) 1 V (Ds _ _ _ V.sub u D (su s 1 ([p])) _ U 2 _ _ a7 (by((try dsimp only)<;>((have:=(I.nY 1 [p]).wl;omega)))) (by((try dsimp only)<;>((simp;done)))) (by(try dsimp only)<;>exact(I.nY _ _).quo) (St.pt 1 V)) ?_
 rintro _ bo _ bs bt a8 ⟨a9,rfl,bb,rfl⟩
 exact Op.gt 3<|At.rt dr (hR a8 ⟨a9,rfl,bb.eq (by rfl),rfl⟩)
theorem JX (B:World) (h:av) (g:GH) (hg:bf g h) (U:bh g) (D:Nat) (s:Sp) (X:au) (dd:bB g D s X) (b6:Value) (G:List Int) (aw:ay g 3 (eF .i64) b6 G) (df:dH s) (hc:G.length≤1000000) (hs:St h g (aM [X]) g [X] h):
  aA prog B 26 #[vP D,b6] h g [X] (fun dg g' L'=>∃b8,dg=.tuple #[]∧bB g' D (lF s G) b8∧L'=[b8]):=by
 obtain⟨ca,a0,rfl⟩:=aw.ai
 refine aA.aq func26 fun R hR=>At.go 1 3 [(8,vL ca G.length a0),(9,vI (G.length:Int)),(10,vI 0)] ?_
 have dj:∀(m:Nat) (I:GH) (a1:aG g I) (x:Sp) (i:Int) (a3:au) (a9:av) (hm:G.length-i.toNat<m) (h0:0≤i) (h3:i≤G.length) (V:dH x) (hx:x=lF s (G.take i.toNat)) (bb:bB I D x a3) (a4:St h g (aM [X]) I [a3] a9),At (bS prog B 26 f26 R) [] 1 [(0,vP D),(8,vL ca G.length a0),(9,vI (G.length:Int)),(10,vI i)] a9:=by
  intro m;induction m with
  |zero=>intros;omega
  |succ m dk=>
   intro I a1 x i a3 a9 hm h0 h3 V hx bb a4
   replace U:=U.mono a1
   replace aw:=aw.mono a1
   refine At.go 2 1 [(11,.bool (decide (i<(G.length:Int))))]<|At.fd (i<(G.length:Int)) 11 3 15 (fun f1=>?_) fun f2=>?_
   ·refine At.rg 3 ?_
    obtain⟨u,dl⟩:=cD G i
    obtain⟨cb,bc,f3,f4,dp,dq,bd⟩:=ay.br aw _ dl
    cases dp
    refine Op.iq 81 3 1 8 G.length a0 8 10 12 cb bc i ?_
    replace bd:cut _ _ _=[vI u]:=bd
    refine Op.l1 3 12 13 (bc+i.toNat*1) (vI u) (a4.sub _ _ dq) ?_ (hv:=cT bd 0 rfl)
    refine Op.pg 4 [(5,vI u)]<|At.rp 7 3 [(16,vQ D 1)] ?_
    obtain⟨ce,a5,cf,du,ch,dv,ci,dC,f5,dE,dT,ck,d0,d1,d2,d3⟩:=bb
    have co:=St.un [a5,du,dv,dC,dE] dT a4
    refine Op.l1 72 16 17 1 (vP cf) (co.ag 0 rfl)<|Op.px 1 [(18,vI u)]<|Op.ls 19 1 3 #[vI u] co fun be f6 d4=>?_
    have d5:aF 3 (eF .i64) I (vL (some ⟨be,0,none⟩) 1 1) [u] [(be,Obj.cells #[vI u] 3 (0,0))]:=aF.lit (by kernel_rfl) (by unfold maxLen;decide) (by kernel_rfl) ⟨_,_,rfl,rfl,Reads.nil⟩
    have ab:=d4.fs [2,2,3,3] rfl
    have c3:=ab.gi
    have d6:=d5.fK ab
    refine Op.le (some 20) 1 ab (Sc _ _ _ ab.ij (U.mono c3) cf x.aD _ (d0.mono c3) _ _ d6 (by((try dsimp only)<;>((have:=V.wl;omega)))) (by((try dsimp only)<;>((simp;done)))) (St.pt 1 ab.freeze.1)) (fun _ _ _ hp=>by obtain⟨_,_,_,J,_⟩:=hp;exact J) ?_
    rintro _ _ f7 c4 ⟨f8,rfl,bi,J,rfl⟩;clear J
    replace bi:=bi.aX (g':=I)
    refine Op.gt 5<|At.rp 6 3 [(23,vQ D 5)]<|Op.l1 76 23 24 5 (.map (some ci)) (c4.ag 2 rfl)<|Op.px 1 [(25,vI u)] ?_
    obtain⟨f9,gc,ge,d7,d8,d9,ea⟩:=d2
    refine Op.yY (d:=.int .i64) (z:=.slice none 0 0) (mt:=76) (kt:=3) (x:=24) (ix:=25) (dst:=none) (k:=u) (by kernel_rfl) (by kernel_rfl) iu (by kernel_rfl) (by kernel_rfl) (St.un [d7] d8 (c4.fs [4,4,4,4,4,5] rfl)) 0 rfl d9 zt fun gg gk eb ed=>?_
    obtain⟨gn,gs,ee,ef⟩:=ea.Q_ u
    have c5:=(St.nW ee (ed.fs [1] rfl)).drop
    refine Op.gt 6<|At.rp 7 3 [(28,vQ D 2)]<|Op.l1 74 28 29 2 (vP ch) (c5.ag 4 rfl)<|Op.px 1 [(30,vI u)]<|Op.ls 31 1 3 #[vI u] c5 fun bj g1 eh=>?_
    have ej:aF 3 (eF .i64) I (vL (some ⟨bj,0,none⟩) 1 1) [u] [(bj,Obj.cells #[vI u] 3 (0,0))]:=aF.lit (by kernel_rfl) (by unfold maxLen;decide) (by kernel_rfl) ⟨_,_,rfl,rfl,Reads.nil⟩
    have ad:=eh.fs [6,6,6,6,6,6,7,7] rfl
    have c6:=ad.gi
    have em:=ej.fK ad
    refine Op.le (some 32) 1 ad (PD _ _ _ ad.ij (U.mono c6) ch x.az _ (d1.mono c6) _ _ em (by(try dsimp only)<;>exact V.az) (by((try dsimp only)<;>((simp;done)))) (St.pt 1 ad.freeze.1)) (fun _ _ _ hp=>by obtain⟨_,_,_,_,_,_,J,_⟩:=hp;exact J) ?_
    rintro _ _ g2 c8 ⟨g3,en,g4,rfl,bk,bm,J,rfl⟩;clear J
    obtain⟨g5,g6,rfl⟩:=bk.ai
    replace bk:=bk.aX (fun _ _ _ _ h=>h) (g':=I)
    replace bm:=bm.aX (g':=I)
    refine Op.gt 7<|At.rp 9 3 [(35,vP D)]<|Op.l1 70 35 36 0 (vP ce) (c8.ag 7 rfl)<|Op.px 1 [(37,vI u)]<|Op.ls 38 1 3 #[vI u] c8 fun Y g7 eo=>?_
    have ep:aF 3 (eF .i64) I (vL (some ⟨Y,0,none⟩) 1 1) [u] [(Y,Obj.cells #[vI u] 3 (0,0))]:=aF.lit (by kernel_rfl) (by unfold maxLen;decide) (by kernel_rfl) ⟨_,_,rfl,rfl,Reads.nil⟩
    have ae:=St.mg 2 (eo.fs [8,8,8,8,8,8,8,8,9,9] rfl)
    have er:=ae.gi
    have et:=ep.lp (c:=([(Y,Obj.cells #[vI u] 3 (0,0))]++a5:au)) ae (by intro p hp;simp only[cU,hp,g_,hU])
    have ex:=eU.fK (C:=([(Y,Obj.cells #[vI u] 3 (0,0))]++a5:au)) ck ae (by intro p hp;simp only[cU,hp,g_,hU])
    refine Op.le (some 39) 0 ae (OJ _ _ _ ae.ij (U.mono er) ce x.an ex _ _ et (by(try dsimp only)<;>exact V.tree) (by((try dsimp only)<;>((simp;done))))) (fun _ _ _ hp=>by obtain⟨_,_,_,_,J,_⟩:=hp;exact J) ?_ (hM:=(fun _ _ h=>absurd h (gq _)))
    rintro _ _ g8 eA ⟨g9,eB,rfl,Z,J,rfl⟩;clear J
    obtain⟨a117,c9,rfl⟩:=Z.ai
    replace Z:=Z.aX (fun _ _ _ _ h=>h) (g':=I)
    refine Op.pg 8 [(40,vI ((j_ x.an ([u])).length:Int)),(41,vI 0)] ?_
    obtain⟨ha,eI,eJ⟩:=St.bl (Q:=gM I ci (fh x.events u)) 2 ((St.sp [[(Y,Obj.cells #[vI u] 3 (0,0))],a5] eA).fs [5,5,5,5,5,5,6,7] rfl) ⟨_,_,_,_,rfl,eb,ef⟩
    obtain⟨hb,eK,eL⟩:=St.bl (Q:=bB I D (⟨x.an,(List.filter (fun w=>!p5 ([u]) w) x.aD),(kM (pS ([u])) x.az),x.ax,x.count,(fh x.events u),x.aI⟩:Sp)) 6 (eJ.fs [7,7,6,6,5,10,6,8,9,9,10] rfl) ⟨_,_,_,_,_,_,_,_,_,_,rfl,ck,bi,bm,eI,d3⟩
    have eQ:∀(m:Nat) (am:GH) (a6:aG I am) (y:Sp) (q:Int) (bo:au) (bs:av) (hm:(j_ x.an [u]).length-q.toNat<m) (h4:0≤q) (h5:q≤(j_ x.an [u]).length) (h6:(j_ x.an [u]).length≤1000) (ar:dH y) (hy:y=((j_ x.an [u]).take q.toNat).foldl lE (sw x u)) (bt:bB am D y bo) (a7:St h g (aM [X]) am [bo,[(Y,Obj.cells #[vI u] 3 (0,0))],eB,[(bj,Obj.cells #[vI u] 3 (0,0))],en,[(be,Obj.cells #[vI u] 3 (0,0))]] bs),At (bS prog B 26 f26 R) [] 8 [(0,vP D),(8,vL (some ⟨cb,bc,none⟩) G.length a0),(9,vI (G.length:Int)),(10,vI i),(39,vL a117 ((j_ x.an ([u])).length) c9),(40,vI ((j_ x.an ([u])).length:Int)),(41,vI q)] bs:=by
     intro m;induction m with
     |zero=>intros;omega
     |succ m eT=>
      intro am a6 y q bo bs hm h4 h5 h6 ar hy bt a7
      replace Z:=Z.mono a6
      replace U:=U.mono a6
      refine At.go 9 1 [(42,.bool (decide (q<((j_ x.an ([u])).length:Int))))]<|At.fd (q<((j_ x.an ([u])).length:Int)) 42 10 14 (fun he=>?_) fun hf=>?_
      ·refine At.rg 3 ?_
       obtain⟨O,a8⟩:=cD (j_ x.an ([u])) q
       obtain⟨e1,da,hh,hj,e2,e3,b3⟩:=ig.br (Z.toH a7 2 rfl) _ a8
       cases e2
       refine Op.iq 57 9 1 16 ((j_ x.an ([u])).length) c9 39 41 43 e1 da q ?_
       replace b3:cut _ _ _=[vS O]:=b3
       refine Op.l1 9 43 44 (da+q.toNat*1) (vS O) e3 ?_ (hv:=cT b3 0 rfl)
       refine Op.pg 11 [(7,vS O)]<|At.rp 6 3 [(47,vP D)] ?_
       obtain⟨db,e4,hl,e5,hn,e6,ho,e7,hq,e8,e9,fa,fg,fi,fj,fl⟩:=bt
       have dc:=St.un [e4,e5,e6,e7,e8] e9 a7
       refine Op.l1 70 47 48 0 (vP db) (dc.ag 0 rfl)<|Op.px 1 [(49,vS O)] ?_
       have b4:=dc.fs [1] rfl
       refine Op.cl (some 50) 1 b4 (C4 _ _ _ b4.sub U db y.an _ fa O (-1) (by(try dsimp only)<;>exact ar.tree) (by((try dsimp only)<;>((have:=JF V.tree (cL a8);omega)))) (St.pt 1 b4)) ?_
       rintro _ fp _ hr fr ft ⟨hu,rfl,fv,J,rfl⟩;subst fp;clear fr
       refine Op.gt 12<|At.rp 3 2 [(51,vP D),(52,vS O)] ?_
       obtain⟨hw,fw,b5⟩:=St.bl (Q:=bB am D (⟨(fL y.an O (-1)).1,y.aD,y.az,y.ax,y.count,y.events,y.aI⟩:Sp)) 6 (ft.fs [1] rfl) ⟨_,_,_,_,_,_,_,_,_,_,rfl,fv,fg,fi,fj,fl⟩
       refine Op.cl (some 53) 1 b5 (JW _ _ _ b5.sub U D (⟨(fL y.an O (-1)).1,y.aD,y.az,y.ax,y.count,y.events,y.aI⟩:Sp) _ fw O (by((try dsimp only)<;>(exact ar.tr (ar.tree.drop _ _)))) (by((try dsimp only)<;>((have:=JF V.tree (cL a8);omega)))) (St.pt 1 b5)) ?_
       rintro _ hz _ hA hB fx ⟨hC,rfl,f0,rfl⟩
       exact Op.gt 13<|At.rg 2<|Op.vq 54 (q+1)<|Op.pg 8 [(41,vI (q+1))] (At.ke (eT _ (aG.trans a6 (by repeat (first|assumption|apply aG.trans))) (vk (⟨(fL y.an O (-1)).1,y.aD,y.az,y.ax,y.count,y.events,y.aI⟩:Sp) O) (q+1) _ _ (by omega) (by omega) (by omega) (by omega) (by exact ar.lE _) (by exact RQ hy h4 a8) f0 fx))
      exact At.rg 2<|Op.vq 55 (i+1)<|Op.pg 1 [(10,vI (i+1))]<|At.ke (dk _ (aG.trans a1 (by repeat (first|assumption|apply aG.trans))) y (i+1) _ _ (by omega) (by omega) (by omega) (by(rw[JE hy ‹_›];exact V.oQ _)) (by(rw[JE hy ‹_›];exact RO hx h0 ‹_›)) bt ((a7.fs [5,5,5,5,5] rfl).drop.drop.drop.drop.drop))
    exact At.ke (eQ _ _ (aG.refl _) (⟨x.an,(List.filter (fun w=>!p5 ([u]) w) x.aD),(kM (pS ([u])) x.az),x.ax,x.count,(fh x.events u),x.aI⟩:Sp) 0 _ _ (bK _) (by omega) (by omega) (by exact RR V.tree) (by exact V.left _) (by rfl) eK eL)
   exact At.rt dr (hR a4 ⟨a3,rfl,bb.eq (by exact RP hx ‹_›),rfl⟩)
 exact At.ke (dj _ _ (aG.refl _) s 0 _ _ (bK _) (by omega) (by omega) (by exact df) (by rfl) dd hs)
end Go.Proofs.YtpacclkciilmpaaGreatDoor.Sw
