/- Lemmas for laws of this seat. -/
import Derived.Test.YtceekbnihfckeaaGreatDoorQBL
namespace Go.Proofs.YtceekbnihfckeaaGreatDoor.Sw
open Tryz
open Go
set_option maxRecDepth 100000
set_option linter.unusedVariables false
set_option linter.unusedSimpArgs false
set_option linter.deprecated false
set_option linter.defProp false
def J5:=@List.takeWhile_cons_of_neg
def wQ:=@List.foldl_append
def E2:=@List.Sublist.filter
def Co:=@Nat.le_of_eq
def fW (g:GH) (b:Nat) (x:Result) (c:ay):Prop:=∃v4 v9 u D G,c=(b,.cells #[.int .i64 x.Code,.int .i64 x.aZ,.int .i64 x.At,.string (bp x.ag.af),v4,.int .i64 x.ag.ai,.int .i64 x.ag.aD,.int .i64 x.ag.Next,.int .i64 x.ag.aL,v9,D] 43 (0,0))::(u++G)∧av g 5 br v4 x.ag.Data∧aJ 9 eU g v9 x.bP u∧aJ 45 dh g D x.aT G
theorem fW.mono {g g':GH} {b:Nat} {x:Result} {c:ay} (h:fW g b x c) (hg:aM g g'):fW g' b x c:=by
 obtain⟨v4,v9,u,D,G,e,h0,h1,h2⟩:=h
 exact⟨v4,v9,u,D,G,e,h0.mono hg,h1.mono hg,h2.mono hg⟩
theorem fW.eq {g:GH} {b:Nat} {x y:Result} {c:ay} (h:fW g b x c) (e:x=y):fW g b y c:=e▸h
theorem QS (B:World) (h:ax) (g:GH) (hg:bl g h) (ae:bq g) (V:Value) (l:List Int) (X:av g 3 (fh .i64) V l) (f:Nat) (q:Int→Bool) (hf:fc prog f) (hq:∀(B:World) (h:ax) (g:GH),bl g h→bq g→∀(x:Int),aE prog B f #[.int .i64 x] h g [] (fun v g' L'=>v=.bool (q x)∧g'=g∧L'=[])) (hlen:l.length≤1000000000):
  aE prog B 161 #[V,.func (.func f) #[] #[]] h g [] (fun am g' L'=>am=.int .i64 (fm q l)∧g'=g∧L'=[]):=by
 obtain⟨Y,I,rfl⟩:=X.aj
 refine aE.aq func161 fun R hR=>?_
 have ar:=St.init hg
 refine At.go 1 1 [] ?_
 refine At.go 2 3 [(7,vI (l.length:Int)),(8,vI 0)] ?_
 have aw:∀(m:Nat) (i:Int) (J:ax) (hm:l.length-i.toNat<m) (h0:0≤i) (h1:i≤l.length) (G:findAt q l i) (u:St h g (aV []) g [] J),At (bX prog B 161 f161 R) [] 2 [(0,vL Y l.length I),(1,.func (.func f) #[] #[]),(7,vI (l.length:Int)),(8,vI i)] J:=by
  intro m;induction m with
  |zero=>intros;omega
  |succ m a0=>
   intro i J hm h0 h1 G u
   refine At.go 3 1 [(9,.bool (decide (i<(l.length:Int))))] ?_
   refine At.fd (i<(l.length:Int)) 9 4 10 (fun bc=>?_) fun a1=>?_
   ·refine At.go 5 2 [(5,vI i)] ?_
    refine At.rp 6 3 [(11,.func (.func f) #[] #[]),(12,vL Y l.length I),(13,vI i)] ?_
    obtain⟨D,O⟩:=cG l i
    obtain⟨a3,ab,bd,be,a4,a5,U⟩:=av.bF X _ O
    cases a4
    refine Op.iq 117 3 1 8 l.length I 12 13 14 a3 ab i ?_
    replace U:cut _ _ _=[vI D]:=U
    refine Op.l1 3 14 15 (ab+i.toNat*1) (vI D) (u.sub _ _ a5) ?_ (hv:=c_ U 0 rfl)
    refine Op.cv (some 16) 11 #[15] #[3] f #[] #[] [] [] #[vI D] hf (by kernel_rfl) u (hq _ _ _ u.sub ae D) (fun _ _ h=>absurd h (dB _)) ?_
    rintro _ a6 _ bi a7 ad ⟨rfl,bj,rfl⟩;subst a6;clear a7
    refine Op.gt 6 ?_
    refine At.di (q D) 16 7 9 (fun a8=>?_) fun a9=>?_
    ·exact At.gr 8 2 4 (vI i) (hR ad ⟨(bB (by exact wB G O a8)),rfl,rfl⟩)
    refine At.rg 2 ?_
    refine Op.vq 18 (i+1) ?_
    exact Op.pg 2 [(8,vI (i+1))] (At.ke (a0 (i+1) _ (by omega) (by omega) (by omega) (by exact xP G h0 O a9) ad))
   exact At.gr 11 1 4 (vI (-1)) (hR u ⟨(bB (by exact wC G a1)),rfl,rfl⟩)
 exact At.ke (aw _ 0 _ (bM _) (by omega) (by omega) (by exact xO _ _) ar)
theorem QT (B:World) (h:ax) (g:GH) (hg:bl g h) (u:bq g) (D:Value) (l:List Int) (G:av g 3 (fh .i64) D l) (f:Nat) (q:Int→Bool) (hf:fc prog f) (hq:∀(B:World) (h:ax) (g:GH),bl g h→bq g→∀(x:Int),aE prog B f #[.int .i64 x] h g [] (fun v g' L'=>v=.bool (q x)∧g'=g∧L'=[])) (hlen:l.length≤1000000000):
  aE prog B 109 #[D,.func (.func f) #[] #[]] h g [] (fun J g' L'=>J=.bool (l.any q)∧g'=g∧L'=[]):=by
 obtain⟨O,U,rfl⟩:=G.aj
 refine aE.aq func109 fun R hR=>?_
 have I:=St.init hg
 refine At.go 1 1 [] ?_
 refine At.rp 5 2 [(5,vL O l.length U),(6,.func (.func f) #[] #[])] ?_
 refine Op.c1 7 (QS _ _ _ I.sub u _ _ G f (fun x=>q x) hf (fun B h g hg u x=>hq B h g hg u x) (by(try dsimp only)<;>assumption)) I fun X V=>?_
 exact Op.pr 2 4 (.bool (decide ((fm (fun x=>q x) l)≥0))) (hR V ⟨(aS (by exact xN _ _)),rfl,rfl⟩)
theorem QU (B:World) (h:ax) (g:GH) (hg:bl g h) (G:bq g) (v:Int):
  aE prog B 110 #[vI v] h g [] (fun D g' L'=>D=.bool (!jC v)∧g'=g∧L'=[]):=by
 refine aE.aq func110 fun R hR=>?_
 have u:=St.init hg
 refine At.go 1 1 [] ?_
 refine At.rp 7 3 [(5,.bool (decide (v<0)))] ?_
 refine Op.wd (v<0) 5 (fun I=>?_) fun J=>?_
 ·exact Op.pr 2 2 (.bool true) (hR u ⟨(aS (by exact P8 ‹_›)),rfl,rfl⟩)
 exact Op.pr 2 2 (.bool (decide (v>4611686018427387902))) (hR u ⟨(aS (by exact P9 ‹_›)),rfl,rfl⟩)
theorem J6 (B:World) (h:ax) (g:GH) (hg:bl g h) (u:bq g) (D:Value) (list:List Int) (G:av g 3 (fh .i64) D list) (hlen:list.length≤1000000000):
  aE prog B 59 #[D] h g [] (fun J g' L'=>J=.bool (list.all jC)∧g'=g∧L'=[]):=by
 obtain⟨O,U,rfl⟩:=G.aj
 refine aE.aq func59 fun R hR=>?_
 have I:=St.init hg
 refine At.go 1 1 [] ?_
 refine At.rp 4 1 [(3,vL O list.length U)] ?_
 refine Op.c1 4 (QT _ _ _ I.sub u _ _ G 110 (fun v=>!jC v) (fc.of (by kernel_rfl)) (fun B h g hg u v=>QU B h g hg u v) (by(try dsimp only)<;>omega)) I fun X V=>?_
 exact Op.pr 2 2 (.bool (!(list.any (fun v=>!jC v)))) (hR V ⟨(aS (by exact P_ _)),rfl,rfl⟩)
theorem QV (B:World) (h:ax) (g:GH) (hg:bl g h) (bi:bq g) (ab:Value) (a:an) (ad:av g 5 br ab a) (ae:Value) (b:an) (am:av g 5 br ae b) (h1:b.length≤1000000000):
  aE prog B 68 #[ab,ae] h g [] (fun a4 g' L'=>a4=.bool (decide (a=b))∧g'=g∧L'=[]):=by
 obtain⟨ar,I,rfl⟩:=ad.aj
 obtain⟨aw,J,rfl⟩:=am.aj
 refine aE.aq func68 fun R hR=>?_
 have a0:=St.init hg
 refine At.go 1 1 [] ?_
 refine At.go 2 5 [(10,.bool ((a.length:Int) != (b.length:Int)))] ?_
 refine At.fn ((a.length:Int)=(b.length:Int)) 10 3 5 (fun bj=>?_) fun bk=>?_
 ·exact At.gr 4 1 4 (.bool false) (hR a0 ⟨(aS (by exact tN ‹_›)),rfl,rfl⟩)
 refine At.go 6 3 [(12,vI (a.length:Int)),(13,vI 0)] ?_
 have a5:∀(m:Nat) (i:Int) (O:ax) (hm:a.length-i.toNat<m) (h0:0≤i) (h2:i≤a.length) (hab:(a.length:Int)=b.length) (ht:a.take i.toNat=b.take i.toNat) (u:St h g (aV []) g [] O),At (bX prog B 68 f68 R) [] 6 [(0,vL ar a.length I),(1,vL aw b.length J),(12,vI (a.length:Int)),(13,vI i)] O:=by
  intro m;induction m with
  |zero=>intros;omega
  |succ m a6=>
   intro i O hm h0 h2 hab ht u
   refine At.go 7 1 [(14,.bool (decide (i<(a.length:Int))))] ?_
   refine At.fd (i<(a.length:Int)) 14 8 14 (fun bm=>?_) fun bo=>?_
   ·refine At.go 9 2 [(5,vI i)] ?_
    refine At.dw (fun _=>False) [(0,true),(1,true),(2,true),(4,true),(5,true),(6,true),(3,true),(7,false),(8,true)] ?_
    refine Op.px 2 [(16,vL ar a.length I),(17,vI i)] ?_
    obtain⟨D,U⟩:=cG a i
    obtain⟨a7,a1,bt,b3,a8,a9,V⟩:=av.bF ad _ U
    cases a8
    refine Op.iq 22 5 1 1 a.length I 16 17 18 a7 a1 i ?_
    replace V:cut _ _ _=[.int .u8 (D.toNat:Int)]:=V
    refine Op.px 2 [(20,vL aw b.length J),(21,vI i)] ?_
    obtain⟨G,X⟩:=cG b i
    obtain⟨bc,a3,b4,b5,bd,be,Y⟩:=av.bF am _ X
    cases bd
    refine Op.iq 22 5 1 1 b.length J 20 21 22 bc a3 i ?_
    replace Y:cut _ _ _=[.int .u8 (G.toNat:Int)]:=Y
    refine Op.gB (T:=5) (x:=18) (o:=a1+i.toNat*1) (d:=19) (n:=1) (v:=.int .u8 (D.toNat:Int)) (by kernel_rfl) (by kernel_rfl) (by kernel_rfl) (fun h=>h) (u.sub _ _ a9) (c_ V 0 rfl) ?_
    refine Op.l1 5 22 23 (a3+i.toNat*1) (.int .u8 (G.toNat:Int)) (u.sub _ _ be) ?_ (hv:=c_ Y 0 rfl)
    refine Op.pg 10 [(24,.bool ((D.toNat:Int) != (G.toNat:Int)))] ?_
    refine At.fn ((D.toNat:Int)=(G.toNat:Int)) 24 11 13 (fun b6=>?_) fun b8=>?_
    ·exact At.gr 12 1 4 (.bool false) (hR u ⟨(aS (by exact tO U X (JY ‹_›))),rfl,rfl⟩)
    refine At.rg 2 ?_
    refine Op.vq 25 (i+1) ?_
    exact Op.pg 6 [(13,vI (i+1))] (At.ke (a6 (i+1) _ (by omega) (by omega) (by omega) (by omega) (by exact qp ht h0 U X (JX ‹_›)) u))
   exact At.gr 15 1 4 (.bool true) (hR u ⟨(aS (by exact tP ‹_› ‹_› ht)),rfl,rfl⟩)
 exact At.ke (a5 _ 0 _ (bM _) (by omega) (by omega) (by omega) (by rfl) a0)
theorem J7 (B:World) (h:ax) (g:GH) (hg:bl g h) (D:bq g) (x:Result) (dq:Value) (J:av g 5 br dq x.ag.Data) (du:Value) (ae:av g 9 eU du x.bP) (dv:Value) (G:av g 45 dh dv x.aT) (hL:Ap x):
  aE prog B 25 #[.agg #[vI x.Code,vI x.aZ,vI x.At,vS x.ag.af,dq,vI x.ag.ai,vI x.ag.aD,vI x.ag.Next,vI x.ag.aL,du,dv]] h g [] (fun fi g' L'=>∃v0,fi=.tuple #[v0,.int .i64 ((cL x).2)]∧av g' 5 br v0 ((cL x).1)∧L'=[]):=by
 obtain⟨V,X,rfl⟩:=J.aj
 obtain⟨a4,am,rfl⟩:=ae.aj
 obtain⟨a5,ar,rfl⟩:=G.aj
 refine aE.aq func25 fun R hR=>?_
 have fj:=St.init hg
 refine At.rg 3 ?_
 refine Op.bx 1 43 0 #[vI x.Code,vI x.aZ,vI x.At,vS x.ag.af,vL V x.ag.Data.length X,vI x.ag.ai,vI x.ag.aD,vI x.ag.Next,vI x.ag.aL,vL a4 x.bP.length am,vL a5 x.aT.length ar] fj fun O hO dC=>?_
 refine Op.pg 1 [] ?_
 refine At.rp 4 1 [(20,vQ O 3)] ?_
 refine Op.la 39 20 21 3 6 [vS x.ag.af,vL V x.ag.Data.length X,vI x.ag.ai,vI x.ag.aD,vI x.ag.Next,vI x.ag.aL] (dC.ah 0 rfl) ?_
 refine Op.al 4 39 #[vS [],vN,vI 0,vI 0,vI 0,vI 0] dC fun I hP fl=>?_
 refine Op.sg 39 4 21 0 0 #[vS x.ag.af,vL V x.ag.Data.length X,vI x.ag.ai,vI x.ag.aD,vI x.ag.Next,vI x.ag.aL] fl (fun _=>trivial) fun hQ aw=>?_
 refine Op.gt 2 ?_
 have fp:∀(m:Nat) (c5:ax) (hm:0<m) (hB:ku x=true) (ad:St h g (aV []) g [[(I,Obj.cells #[vS x.ag.af,vL V x.ag.Data.length X,vI x.ag.ai,vI x.ag.aD,vI x.ag.Next,vI x.ag.aL] 39 (0,0))],[(O,Obj.cells #[vI x.Code,vI x.aZ,vI x.At,vS x.ag.af,vL V x.ag.Data.length X,vI x.ag.ai,vI x.ag.aD,vI x.ag.Next,vI x.ag.aL,vL a4 x.bP.length am,vL a5 x.aT.length ar] 43 (0,0))]] c5),At (bX prog B 25 f25 R) [] 6 [(1,vP O),(4,vP I)] c5:=by
  intro m;induction m with
  |zero=>intros;omega
  |succ m hS=>
   intro c5 hm hB ad
   refine At.rp 22 1 [(48,vP O)] ?_
   refine Op.l1 29 48 49 0 (vI x.Code) (ad.ah 1 rfl) ?_
   refine Op.px 1 [(50,vQ O 1)] ?_
   refine Op.l1 3 50 51 1 (vI x.aZ) (ad.ah 1 rfl) ?_
   refine Op.px 1 [(52,vQ O 2)] ?_
   refine Op.l1 3 52 53 2 (vI x.At) (ad.ah 1 rfl) ?_
   refine Op.px 1 [(54,vQ I 2)] ?_
   refine Op.l1 3 54 55 2 (vI x.ag.ai) (ad.ah 0 rfl) ?_
   refine Op.px 1 [(56,vQ I 3)] ?_
   refine Op.l1 3 56 57 3 (vI x.ag.aD) (ad.ah 0 rfl) ?_
   refine Op.cE 58 (x.ag.aD+1) (by(have:=ES hB;omega)) (by(have:=ES hB;omega)) ?_
   refine Op.px 1 [(59,vQ I 4)] ?_
   refine Op.l1 3 59 60 4 (vI x.ag.Next) (ad.ah 0 rfl) ?_
   refine Op.px 1 [(61,vQ I 5)] ?_
   refine Op.l1 3 61 62 5 (vI x.ag.aL) (ad.ah 0 rfl) ?_
   refine Op.ls 63 7 3 #[vI x.Code,vI x.aZ,vI x.At,vI x.ag.ai,vI (x.ag.aD+1),vI x.ag.Next,vI x.ag.aL] ad fun dE hT fr=>?_
   have ft:aJ 3 (fh .i64) g (vL (some ⟨dE,0,none⟩) 7 7) [x.Code,x.aZ,x.At,x.ag.ai,x.ag.aD+1,x.ag.Next,x.ag.aL] [(dE,Obj.cells #[vI x.Code,vI x.aZ,vI x.At,vI x.ag.ai,vI (x.ag.aD+1),vI x.ag.Next,vI x.ag.aL] 3 (0,0))]:=aJ.lit (by kernel_rfl) (by unfold maxLen;decide) (by kernel_rfl) ⟨_,_,rfl,rfl,⟨_,_,rfl,rfl,⟨_,_,rfl,rfl,⟨_,_,rfl,rfl,⟨_,_,rfl,rfl,⟨_,_,rfl,rfl,⟨_,_,rfl,rfl,Reads.nil⟩⟩⟩⟩⟩⟩⟩
   obtain⟨hV,dT,bm,fv⟩:=aJ.freeze ft (fr.aa 0 rfl)
   replace D:=D.mono bm
   replace G:=G.mono bm
   replace J:=J.mono bm
   replace ae:=ae.mono bm
   refine Op.c0 (some 64) (EA _ _ _ dT.sub D _ _ fv (by((try dsimp only)<;>((simp;done))))) dT ?_
   rintro _ d0 _ hW bo d1 ⟨hX,rfl,Y,rfl⟩
   obtain⟨a7,a8,rfl⟩:=Y.aj
   replace D:=D.mono bo
   replace G:=G.mono bo
   replace J:=J.mono bo
   replace ae:=ae.mono bo
   refine Op.pg 7 [(5,vL a7 (((fo ([x.Code,x.aZ,x.At,x.ag.ai,x.ag.aD+1,x.ag.Next,x.ag.aL])).1).length) a8)] ?_
   refine At.go 8 1 [(7,vN)] ?_
   refine At.rp 4 1 [(67,vQ O 9)] ?_
   refine Op.l1 40 67 68 9 (vL a4 x.bP.length am) (d1.ah 1 rfl) ?_
   refine Op.pg 9 [(69,vI (x.bP.length:Int)),(70,vI 0)] ?_
   have fw:∀(m:Nat) (bt:GH) (a0:aM d0 bt) (ns:List an) (i:Int) (a46:Option Addr) (a9:Nat) (c6:ay) (c8:ax) (hm:x.bP.length-i.toNat<m) (h0:0≤i) (h1:i≤x.bP.length) (hN:ns=x.bP.take i.toNat) (bc:aJ 22 (jI 5 br) bt (.slice a46 ns.length a9) ns c6) (b3:St h g (aV []) bt [c6,[(I,Obj.cells #[vS x.ag.af,vL V x.ag.Data.length X,vI x.ag.ai,vI x.ag.aD,vI x.ag.Next,vI x.ag.aL] 39 (0,0))],[(O,Obj.cells #[vI x.Code,vI x.aZ,vI x.At,vS x.ag.af,vL V x.ag.Data.length X,vI x.ag.ai,vI x.ag.aD,vI x.ag.Next,vI x.ag.aL,vL a4 x.bP.length am,vL a5 x.aT.length ar] 43 (0,0))]] c8),At (bX prog B 25 f25 R) [] 9 [(1,vP O),(4,vP I),(5,vL a7 (((fo ([x.Code,x.aZ,x.At,x.ag.ai,x.ag.aD+1,x.ag.Next,x.ag.aL])).1).length) a8),(7,vL a46 ns.length a9),(68,vL a4 x.bP.length am),(69,vI (x.bP.length:Int)),(70,vI i)] c8:=by
    intro m;induction m with
    |zero=>intros;omega
    |succ m fx=>
     intro bt a0 ns i a46 a9 c6 c8 hm h0 h1 hN bc b3
     replace D:=D.mono a0
     replace G:=G.mono a0
     replace J:=J.mono a0
     replace ae:=ae.mono a0
     replace Y:=Y.mono a0
     refine At.go 10 1 [(71,.bool (decide (i<(x.bP.length:Int))))] ?_
     refine At.fd (i<(x.bP.length:Int)) 71 11 14 (fun hY=>?_) fun hZ=>?_
     ·refine At.rg 3 ?_
      obtain⟨ab,c9⟩:=cG x.bP i
      obtain⟨f0,d2,h3,h4,f1,f2,da⟩:=av.bF ae _ c9
      cases f1
      refine Op.iq 40 9 1 16 x.bP.length am 68 70 72 f0 d2 i ?_
      replace da:cut _ _ _=[vS ab]:=da
      refine Op.l1 9 72 73 (d2+i.toNat*1) (vS ab) (b3.sub _ _ f2) ?_ (hv:=c_ da 0 rfl)
      refine Op.pg 12 [(9,vS ab)] ?_
      refine At.rp 6 2 [(74,vL a46 ns.length a9),(75,vS ab)] ?_
      refine Op.toBytes (S:=9) (T:=22) (E:=5) (x:=75) (dst:=76) (l:=ab) (by kernel_rfl) (by kernel_rfl) (by kernel_rfl) (by kernel_rfl) (by kernel_rfl) (by(have:=hL.2.1.2 _ (cj c9);omega)) b3 fun cE h5 h6 d3 f3=>?_
      obtain⟨d4,d5,rfl⟩:=d3.aj
      obtain⟨h7,f4,f5,f6⟩:=x8.freeze d3 (f3.aa 0 rfl)
      replace bc:=bc.mono f5
      refine Op.ls 77 1 22 #[vL d4 ab.length d5] f4 fun h8 h9 d6=>?_
      refine Op.ap 74 77 115 115 78 22 24 (jI 5 br) (ys:=[ab]) bc d6 1 (⟨_,_,rfl,⟨_,rfl,f6⟩,Reads.nil⟩) (by(have h1:=congrArg List.length hN;have h2:=hL.2.1.1;simp only[e_,bY,dU] at *;omega)) (fun _ _ _=>trivial) (eT.lit (m:=1) (sz:=1) (d6.ah 0 rfl) (news:=[vL d4 ab.length d5]) rfl rfl (by simp[Value.oneCell']) _) fun ib ih ii d7 f7 ik=>?_
      obtain⟨f8,f9,rfl⟩:=d7.aj
      have gc:=(f7.aa 0 rfl).drop
      refine Op.pg 13 [(7,vL f8 ((ns++([ab])).length) f9)] ?_
      refine At.rg 2 ?_
      refine Op.cE 79 (i+1) (by omega) (by(have:=hL.2.1.1;omega)) ?_
      exact Op.pg 9 [(70,vI (i+1))] (At.ke (fx _ (aM.trans a0 (by repeat (first|assumption|apply aM.trans))) (ns++([ab])) (i+1) _ _ _ _ (by omega) (by omega) (by omega) (by rw[toNat_succ h0,fG c9,hN]) d7 gc))
     refine At.rp 7 1 [(81,vL a46 ns.length a9)] ?_
     obtain⟨il,d8,b4,ge⟩:=aJ.freeze bc (b3.aa 0 rfl)
     replace D:=D.mono b4
     replace G:=G.mono b4
     replace J:=J.mono b4
     replace Y:=Y.mono b4
     refine Op.c0 (some 82) (B2 _ _ _ d8.sub D _ _ ge (by((try dsimp only)<;>((have h1:=congrArg List.length hN;have h2:=hL.2.1.1;simp only[e_,bY,dU] at *;omega))))) d8 ?_
     rintro _ io _ ip b5 db ⟨is,rfl,b6,rfl⟩
     obtain⟨b8,ca,rfl⟩:=b6.aj
     replace D:=D.mono b5
     replace G:=G.mono b5
     replace J:=J.mono b5
     replace Y:=Y.mono b5
     refine Op.pg 15 [(10,vL b8 (((dM ns).1).length) ca),(11,vI ((dM ns).2))] ?_
     refine At.go 16 2 [(86,.bool (((dM ns).2) != 0))] ?_
     refine At.fn (((dM ns).2)=0) 86 17 19 (fun iv=>?_) fun i0=>?_
     ·refine At.go 18 2 [(2,vN),(3,vI 130)] ?_
      exact At.rt (.tuple #[vN,vI 130]) (hR db.drop.drop ⟨vN,b7 rfl (bB (by(rw[hN,fC (by omega)] at *;rw[Jy hB ‹_›]))),b9 (av.empty _ _ _ _ _) (by(rw[hN,fC (by omega)] at *;rw[Jy hB ‹_›])),rfl⟩)
     refine At.rp 9 2 [(87,vL a7 (((fo ([x.Code,x.aZ,x.At,x.ag.ai,x.ag.aD+1,x.ag.Next,x.ag.aL])).1).length) a8),(88,vP I)] ?_
     refine Op.l1 9 88 89 0 (vS x.ag.af) (db.ah 0 rfl) ?_
     refine Op.toBytes (S:=9) (T:=22) (E:=5) (x:=89) (dst:=90) (l:=x.ag.af) (by kernel_rfl) (by kernel_rfl) (by kernel_rfl) (by kernel_rfl) (by kernel_rfl) (by(have:=hL.1;omega)) db fun i1 i2 i3 d9 ed=>?_
     obtain⟨ee,ef,rfl⟩:=d9.aj
     refine Op.px 1 [(91,vQ I 1)] ?_
     refine Op.l1 22 91 92 1 (vL V x.ag.Data.length X) (ed.ah 1 rfl) ?_
     refine Op.px 1 [(93,vL b8 (((dM ns).1).length) ca)] ?_
     obtain⟨eh,gg,bd,gk⟩:=x8.freeze d9 (ed.aa 0 rfl)
     replace D:=D.mono bd
     replace G:=G.mono bd
     replace J:=J.mono bd
     replace Y:=Y.mono bd
     replace b6:=b6.mono bd
     refine Op.ls 94 4 22 #[vL a7 (((fo ([x.Code,x.aZ,x.At,x.ag.ai,x.ag.aD+1,x.ag.Next,x.ag.aL])).1).length) a8,vL ee x.ag.af.length ef,vL V x.ag.Data.length X,vL b8 (((dM ns).1).length) ca] gg fun dc i4 ej=>?_
     refine Op.pg 20 [(12,vL (some ⟨dc,0,none⟩) 4 4)] ?_
     refine At.rp 4 1 [(95,vQ O 10)] ?_
     refine Op.l1 41 95 96 10 (vL a5 x.aT.length ar) (ej.ah 2 rfl) ?_
     refine Op.pg 21 [(97,vI (x.aT.length:Int)),(98,vI 0)] ?_
     have gn:∀(m:Nat) (be:GH) (cb:aM eh be) (cN:List an) (q:Int) (bi:Option Addr) (bj:Nat) (dd:ay) (df:ax) (hm:x.aT.length-q.toNat<m) (em:0≤q) (gs:q≤x.aT.length) (hn0:(dM x.bP).2=0) (hI:tq x cN q) (U:aJ 22 (jI 5 br) be (.slice bi cN.length bj) cN dd) (ce:St h g (aV []) be [dd,[(I,Obj.cells #[vS x.ag.af,vL V x.ag.Data.length X,vI x.ag.ai,vI x.ag.aD,vI x.ag.Next,vI x.ag.aL] 39 (0,0))],[(O,Obj.cells #[vI x.Code,vI x.aZ,vI x.At,vS x.ag.af,vL V x.ag.Data.length X,vI x.ag.ai,vI x.ag.aD,vI x.ag.Next,vI x.ag.aL,vL a4 x.bP.length am,vL a5 x.aT.length ar] 43 (0,0))]] df),At (bX prog B 25 f25 R) [] 21 [(12,vL bi cN.length bj),(96,vL a5 x.aT.length ar),(97,vI (x.aT.length:Int)),(98,vI q)] df:=by
      intro m;induction m with
      |zero=>intros;omega
      |succ m g1=>
       intro be cb cN q bi bj dd df hm em gs hn0 hI U ce
       replace D:=D.mono cb
       replace G:=G.mono cb
       refine At.go 22 1 [(99,.bool (decide (q<(x.aT.length:Int))))] ?_
       refine At.fd (q<(x.aT.length:Int)) 99 23 32 (fun i5=>?_) fun i6=>?_
       ·refine At.rg 4 ?_
        obtain⟨u,a1⟩:=cG x.aT q
        obtain⟨g2,en,i7,i8,g3,g4,dg⟩:=av.bF G _ a1
        cases g3
        refine Op.iq 41 45 3 32 x.aT.length ar 96 98 100 g2 en q ?_
        replace dg:cut _ _ _=[vI u.Client,vI u.Kind,vS u.af]:=dg
        refine Op.la 45 100 101 (en+q.toNat*3) 3 [vI u.Client,vI u.Kind,vS u.af] (ce.sub _ _ g4) ?_ (hv:=dg)
        refine Op.al 14 45 #[vI 0,vI 0,vS []] ce fun bk i9 g5=>?_
        refine Op.sg 45 14 101 0 0 #[vI u.Client,vI u.Kind,vS u.af] g5 (fun _=>trivial) fun jf dj=>?_
        refine Op.gt 24 ?_
        refine At.rp 11 1 [(103,vP bk)] ?_
        refine Op.l1 3 103 104 0 (vI u.Client) (dj.ah 0 rfl) ?_
        refine Op.px 1 [(105,vQ bk 1)] ?_
        refine Op.l1 3 105 106 1 (vI u.Kind) (dj.ah 0 rfl) ?_
        refine Op.ls 107 2 3 #[vI u.Client,vI u.Kind] dj fun ep jj g6=>?_
        have g7:aJ 3 (fh .i64) be (vL (some ⟨ep,0,none⟩) 2 2) [u.Client,u.Kind] [(ep,Obj.cells #[vI u.Client,vI u.Kind] 3 (0,0))]:=aJ.lit (by kernel_rfl) (by unfold maxLen;decide) (by kernel_rfl) ⟨_,_,rfl,rfl,⟨_,_,rfl,rfl,Reads.nil⟩⟩
        obtain⟨jn,er,et,g8⟩:=aJ.freeze g7 (g6.aa 0 rfl)
        replace U:=U.mono et
        replace D:=D.mono et
        refine Op.c0 (some 108) (EA _ _ _ er.sub D _ _ g8 (by((try dsimp only)<;>((simp;done))))) er ?_
        rintro _ jt _ j1 ex eA ⟨v148,rfl,cf,rfl⟩
        obtain⟨ch,n151,rfl⟩:=cf.aj
        replace U:=U.mono ex
        replace D:=D.mono ex
        refine Op.pg 25 [(15,vL ch (((fo ([u.Client,u.Kind])).1).length) n151)] ?_
        refine At.rp 11 2 [(112,vL ch (((fo ([u.Client,u.Kind])).1).length) n151),(113,vQ bk 2)] ?_
        refine Op.l1 9 113 114 2 (vS u.af) (eA.ah 0 rfl) ?_
        refine Op.toBytes (S:=9) (T:=22) (E:=5) (x:=114) (dst:=115) (l:=u.af) (by kernel_rfl) (by kernel_rfl) (by kernel_rfl) (by kernel_rfl) (by kernel_rfl) (by(have:=hL.2.2.2 _ (cj a1);omega)) eA fun j2 kc kd eB g9=>?_
        obtain⟨eE,n160,rfl⟩:=eB.aj
        obtain⟨he,hf,dk,hh⟩:=x8.freeze eB (g9.aa 0 rfl)
        replace U:=U.mono dk
        replace D:=D.mono dk
        replace cf:=cf.mono dk
        refine Op.ls 116 2 22 #[vL ch (((fo ([u.Client,u.Kind])).1).length) n151,vL eE u.af.length n160] hf fun eI kh hj=>?_
        have hl:aJ 22 (jI 5 br) he (vL (some ⟨eI,0,none⟩) 2 2) [(fo ([u.Client,u.Kind])).1,u.af] [(eI,Obj.cells #[vL ch (((fo ([u.Client,u.Kind])).1).length) n151,vL eE u.af.length n160] 22 (0,0))]:=aJ.lit (by kernel_rfl) (by unfold maxLen;decide) (by kernel_rfl) ⟨_,_,rfl,⟨_,rfl,cf⟩,⟨_,_,rfl,⟨_,rfl,hh⟩,Reads.nil⟩⟩
        obtain⟨kk,eJ,eK,hn⟩:=aJ.freeze hl (hj.aa 0 rfl)
        replace U:=U.mono eK
        replace D:=D.mono eK
        refine Op.c0 (some 117) (B2 _ _ _ eJ.sub D _ _ hn (by((try dsimp only)<;>((simp;done))))) eJ ?_
        rintro _ ho _ kl eL dl ⟨km,rfl,eQ,rfl⟩
        obtain⟨ci,ck,rfl⟩:=eQ.aj
        replace U:=U.mono eL
        replace D:=D.mono eL
        refine Op.pg 26 [(17,vL ci (((dM ([(fo ([u.Client,u.Kind])).1,u.af])).1).length) ck),(18,vI ((dM ([(fo ([u.Client,u.Kind])).1,u.af])).2))] ?_
        refine At.rp 11 1 [(120,vP bk)] ?_
        refine Op.l1 3 120 121 0 (vI u.Client) (dl.ah 0 rfl) ?_
        refine Op.px 1 [(122,vQ bk 1)] ?_
        refine Op.l1 3 122 123 1 (vI u.Kind) (dl.ah 0 rfl) ?_
        refine Op.ls 124 2 3 #[vI u.Client,vI u.Kind] dl fun e1 kv co=>?_
        have hq:aJ 3 (fh .i64) ho (vL (some ⟨e1,0,none⟩) 2 2) [u.Client,u.Kind] [(e1,Obj.cells #[vI u.Client,vI u.Kind] 3 (0,0))]:=aJ.lit (by kernel_rfl) (by unfold maxLen;decide) (by kernel_rfl) ⟨_,_,rfl,rfl,⟨_,_,rfl,rfl,Reads.nil⟩⟩
        have hr:=co.gz
        have hs:=hq.fY co
        refine Op.le (some 125) 0 co (J6 _ _ _ co.iO (D.mono hr) _ _ hs (by((try dsimp only)<;>((simp;done))))) (fun _ _ _ hp=>by obtain⟨_,a3,_⟩:=hp;exact a3) ?_ (hM:=(fun _ _ h=>absurd h (dB _)))
        rintro _ _ kw dp ⟨rfl,a3,rfl⟩;clear a3
        refine Op.px 2 [(127,.bool (!(([u.Client,u.Kind]).all jC)))] ?_
        refine Op.wb (!(([u.Client,u.Kind]).all jC)) 127 (fun e2=>?_) fun e3=>?_
        ·replace e2:=(dG e2)
         refine Op.pg 27 [(130,.bool true)] ?_
         refine At.bW 130 28 ?_
         refine At.go 29 2 [(2,vN),(3,vI 130)] ?_
         exact At.rt (.tuple #[vN,vI 130]) (hR dp.drop.drop.drop.drop.drop ⟨vN,b7 rfl (bB (by(rw[Ci hB hn0 a1 (Jz ‹_›)]))),b9 (av.empty _ _ _ _ _) (by(rw[Ci hB hn0 a1 (Jz ‹_›)])),rfl⟩)
        replace e3:=(dH e3)
        refine Op.pg 27 [(130,.bool (((dM ([(fo ([u.Client,u.Kind])).1,u.af])).2) != 0))] ?_
        refine At.fn (((dM ([(fo ([u.Client,u.Kind])).1,u.af])).2)=0) 130 28 30 (fun kx=>?_) fun kA=>?_
        ·refine At.go 29 2 [(2,vN),(3,vI 130)] ?_
         exact At.rt (.tuple #[vN,vI 130]) (hR dp.drop.drop.drop.drop.drop ⟨vN,b7 rfl (bB (by(rw[Ci hB hn0 a1 (JA ‹_›)]))),b9 (av.empty _ _ _ _ _) (by(rw[Ci hB hn0 a1 (JA ‹_›)])),rfl⟩)
        refine At.rp 5 2 [(131,vL bi cN.length bj),(132,vL ci (((dM ([(fo ([u.Client,u.Kind])).1,u.af])).1).length) ck)] ?_
        refine Op.ls 133 1 22 #[vL ci (((dM ([(fo ([u.Client,u.Kind])).1,u.af])).1).length) ck] dp fun k0 k1 e4=>?_
        refine Op.ap 131 133 115 115 134 22 24 (jI 5 br) (ys:=[(dM ([(fo ([u.Client,u.Kind])).1,u.af])).1]) U e4 3 (⟨_,_,rfl,⟨_,rfl,eQ⟩,Reads.nil⟩) (by(have h1:=Jx hI hL.2.2.1;simp only[bY,dU];omega)) (fun _ _ _=>trivial) (eT.lit (m:=1) (sz:=1) (e4.ah 0 rfl) (news:=[vL ci (((dM ([(fo ([u.Client,u.Kind])).1,u.af])).1).length) ck]) rfl rfl (by simp[Value.oneCell']) _) fun k2 k3 k4 e5 hu k5=>?_
        obtain⟨hw,hx,rfl⟩:=e5.aj
        have hy:=(hu.aa 0 rfl).drop
        refine Op.pg 31 [(12,vL hw ((cN++([(dM ([(fo ([u.Client,u.Kind])).1,u.af])).1])).length) hx)] ?_
        refine At.rg 2 ?_
        refine Op.cE 135 (q+1) (by omega) (by(have:=hL.2.2.1;omega)) ?_
        refine Op.pg 21 [(98,vI (q+1))] ?_
        have hz:=hy.drop.drop
        exact At.ke (g1 _ (aM.trans cb (by repeat (first|assumption|apply aM.trans))) (cN++([(dM ([(fo ([u.Client,u.Kind])).1,u.af])).1])) (q+1) _ _ _ _ (by omega) (by omega) (by omega) (by omega) (by exact Qb hI em a1 ‹_› ‹_›) e5 hz)
       refine At.rp 7 1 [(137,vL bi cN.length bj)] ?_
       obtain⟨k6,e6,hA,hC⟩:=aJ.freeze U (ce.aa 0 rfl)
       replace D:=D.mono hA
       refine Op.c0 (some 138) (B2 _ _ _ e6.sub D _ _ hC (by((try dsimp only)<;>((have h1:=Jx hI hL.2.2.1;omega))))) e6 ?_
       rintro _ k7 _ k8 lc e7 ⟨lh,rfl,e8,rfl⟩
       obtain⟨c3,n217,rfl⟩:=e8.aj
       refine Op.pg 33 [(11,vI ((dM cN).2)),(19,vL c3 (((dM cN).1).length) n217)] ?_
       refine At.go 34 2 [(142,.bool (((dM cN).2) != 0))] ?_
       refine At.fn (((dM cN).2)=0) 142 35 37 (fun li=>?_) fun lj=>?_
       ·refine At.go 36 2 [(2,vN),(3,vI 130)] ?_
        exact At.rt (.tuple #[vN,vI 130]) (hR e7.drop.drop ⟨vN,b7 rfl (bB (by(rw[JC hB hn0 hI (by omega) ‹_›]))),b9 (av.empty _ _ _ _ _) (by(rw[JC hB hn0 hI (by omega) ‹_›])),rfl⟩)
       refine At.go 38 3 [(2,vL c3 (((dM cN).1).length) n217),(3,vI 0)] ?_
       exact At.rt (.tuple #[vL c3 (((dM cN).1).length) n217,vI 0]) (hR e7.drop.drop ⟨(vL c3 (((dM cN).1).length) n217),b7 rfl (bB (by(rw[JD hB hn0 hI (by omega) ‹_›]))),b9 e8 (by(rw[JD hB hn0 hI (by omega) ‹_›])),rfl⟩)
     have hD:aJ 22 (jI 5 br) eh (vL (some ⟨dc,0,none⟩) 4 4) [(fo ([x.Code,x.aZ,x.At,x.ag.ai,x.ag.aD+1,x.ag.Next,x.ag.aL])).1,x.ag.af,x.ag.Data,(dM ns).1] [(dc,Obj.cells #[vL a7 (((fo ([x.Code,x.aZ,x.At,x.ag.ai,x.ag.aD+1,x.ag.Next,x.ag.aL])).1).length) a8,vL ee x.ag.af.length ef,vL V x.ag.Data.length X,vL b8 (((dM ns).1).length) ca] 22 (0,0))]:=aJ.lit (by kernel_rfl) (by unfold maxLen;decide) (by kernel_rfl) ⟨_,_,rfl,⟨_,rfl,Y⟩,⟨_,_,rfl,⟨_,rfl,gk⟩,⟨_,_,rfl,⟨_,rfl,J⟩,⟨_,_,rfl,⟨_,rfl,b6⟩,Reads.nil⟩⟩⟩⟩
     exact At.ke (gn _ _ (aM.refl _) ([(fo ([x.Code,x.aZ,x.At,x.ag.ai,x.ag.aD+1,x.ag.Next,x.ag.aL])).1,x.ag.af,x.ag.Data,(dM ns).1]) 0 _ _ _ _ (bM _) (by omega) (by omega) (by(rw[hN,fC (by omega)] at *;assumption)) (by(rw[hN,fC (by omega)];exact Qa x)) hD ej)
   have hE:=aJ.zero 22 (jI 5 br) d0 none
   have hF:=d1.nl
   exact At.ke (fw _ _ (aM.refl _) [] 0 _ _ _ _ (bM _) (by omega) (by omega) (by rfl) hE hF)
 refine At.rp 25 1 [(22,vP O)] ?_
 refine Op.l1 29 22 23 0 (vI x.Code) (aw.ah 1 rfl) ?_
 refine Op.px 1 [(24,vQ O 1)] ?_
 refine Op.l1 3 24 25 1 (vI x.aZ) (aw.ah 1 rfl) ?_
 refine Op.px 1 [(26,vQ O 2)] ?_
 refine Op.l1 3 26 27 2 (vI x.At) (aw.ah 1 rfl) ?_
 refine Op.px 1 [(28,vQ I 2)] ?_
 refine Op.l1 3 28 29 2 (vI x.ag.ai) (aw.ah 0 rfl) ?_
 refine Op.px 1 [(30,vQ I 4)] ?_
 refine Op.l1 3 30 31 4 (vI x.ag.Next) (aw.ah 0 rfl) ?_
 refine Op.px 1 [(32,vQ I 5)] ?_
 refine Op.l1 3 32 33 5 (vI x.ag.aL) (aw.ah 0 rfl) ?_
 refine Op.ls 34 6 3 #[vI x.Code,vI x.aZ,vI x.At,vI x.ag.ai,vI x.ag.Next,vI x.ag.aL] aw fun e9 lk c4=>?_
 have hG:aJ 3 (fh .i64) g (vL (some ⟨e9,0,none⟩) 6 6) [x.Code,x.aZ,x.At,x.ag.ai,x.ag.Next,x.ag.aL] [(e9,Obj.cells #[vI x.Code,vI x.aZ,vI x.At,vI x.ag.ai,vI x.ag.Next,vI x.ag.aL] 3 (0,0))]:=aJ.lit (by kernel_rfl) (by unfold maxLen;decide) (by kernel_rfl) ⟨_,_,rfl,rfl,⟨_,_,rfl,rfl,⟨_,_,rfl,rfl,⟨_,_,rfl,rfl,⟨_,_,rfl,rfl,⟨_,_,rfl,rfl,Reads.nil⟩⟩⟩⟩⟩⟩
 have hH:=c4.gz
 have hJ:=hG.fY c4
 refine Op.le (some 35) 0 c4 (J6 _ _ _ c4.iO (D.mono hH) _ _ hJ (by((try dsimp only)<;>((simp;done))))) (fun _ _ _ hp=>by obtain⟨_,a3,_⟩:=hp;exact a3) ?_ (hM:=(fun _ _ h=>absurd h (dB _)))
 rintro _ _ ll a6 ⟨rfl,a3,rfl⟩;clear a3
 refine Op.px 2 [(37,.bool (!(([x.Code,x.aZ,x.At,x.ag.ai,x.ag.Next,x.ag.aL]).all jC)))] ?_
 refine Op.wb (!(([x.Code,x.aZ,x.At,x.ag.ai,x.ag.Next,x.ag.aL]).all jC)) 37 (fun fa=>?_) fun fg=>?_
 ·replace fa:=(dG fa)
  refine Op.pg 3 [(46,.bool true)] ?_
  refine At.bW 46 4 ?_
  refine At.go 5 2 [(2,vN),(3,vI 130)] ?_
  exact At.rt (.tuple #[vN,vI 130]) (hR a6.drop.drop.drop ⟨vN,b7 rfl (bB (by(rw[x9 (JF ‹_›)]))),b9 (av.empty _ _ _ _ _) (by(rw[x9 (JF ‹_›)])),rfl⟩)
 replace fg:=(dH fg)
 refine Op.px 1 [(38,vQ I 3)] ?_
 refine Op.l1 3 38 39 3 (vI x.ag.aD) (a6.ah 1 rfl) ?_
 refine Op.px 3 [(42,.bool (decide (x.ag.aD<((-1):Int))))] ?_
 refine Op.wd (x.ag.aD<((-1):Int)) 42 (fun lm=>?_) fun ln=>?_
 ·refine Op.pg 3 [(46,.bool true)] ?_
  refine At.bW 46 4 ?_
  refine At.go 5 2 [(2,vN),(3,vI 130)] ?_
  exact At.rt (.tuple #[vN,vI 130]) (hR a6.drop.drop.drop ⟨vN,b7 rfl (bB (by(rw[x9 (Cj (.inl ‹_›))]))),b9 (av.empty _ _ _ _ _) (by(rw[x9 (Cj (.inl ‹_›))])),rfl⟩)
 refine Op.px 1 [(43,vQ I 3)] ?_
 refine Op.l1 3 43 44 3 (vI x.ag.aD) (a6.ah 1 rfl) ?_
 refine Op.pg 3 [(46,.bool (decide (x.ag.aD>4611686018427387902)))] ?_
 refine At.fd (x.ag.aD>4611686018427387902) 46 4 6 (fun lr=>?_) fun lv=>?_
 ·refine At.go 5 2 [(2,vN),(3,vI 130)] ?_
  exact At.rt (.tuple #[vN,vI 130]) (hR a6.drop.drop.drop ⟨vN,b7 rfl (bB (by(rw[x9 (Cj (.inr ‹_›))]))),b9 (av.empty _ _ _ _ _) (by(rw[x9 (Cj (.inr ‹_›))])),rfl⟩)
 have hK:=a6.drop
 exact At.ke (fp _ _ (bM _) (by exact JE ‹_› ‹_› ‹_›) hK)
theorem QW (B:World) (h:ax) (g:GH) (hg:bl g h) (ae:bq g) (a9:Value) (b:an) (bc:av g 5 br a9 b) (hl:b.length≤1000000000):
  aE prog B 67 #[a9] h g [] (fun cb g' L'=>cb=.tuple #[.agg #[.int .i64 (((dZ b).1).Client),.int .i64 (((dZ b).1).Kind),.string (bp (((dZ b).1).af))],.bool ((dZ b).2)]∧L'=[]):=by
 obtain⟨ce,cf,rfl⟩:=bc.aj
 refine aE.aq func67 fun R hR=>?_
 have ch:=St.init hg
 refine At.rg 2 ?_
 refine Op.al 2 45 #[vI 0,vI 0,vS []] ch fun dd df bd=>?_
 refine Op.pg 1 [] ?_
 refine At.rp 7 1 [(9,vL ce b.length cf)] ?_
 refine Op.c0 (some 10) (B3 _ _ _ bd.sub ae _ _ bc (by(try dsimp only)<;>omega)) bd ?_
 rintro _ dg _ dj ci U ⟨dk,rfl,V,rfl⟩
 obtain⟨be,X,rfl⟩:=V.aj
 replace ae:=ae.mono ci
 refine Op.pg 2 [(4,vL be (((bg b).1).length) X),(5,vI ((bg b).2))] ?_
 refine At.rp 7 3 [(15,.bool (((bg b).2) != 0))] ?_
 refine Op.wb (((bg b).2) != 0) 15 (fun bi=>?_) fun bj=>?_
 ·replace bi:=gY bi
  refine Op.pg 3 [(19,.bool true)] ?_
  refine At.bW 19 4 ?_
  refine At.rp 3 1 [(20,.agg #[vI 0,vI 0,vS []])] ?_
  refine Op.sg 45 2 20 0 0 #[vI 0,vI 0,vS []] U (fun _=>trivial) fun dl bk=>?_
  refine Op.pg 5 [(3,.bool false)] ?_
  exact At.rm f67 [.agg #[vI 0,vI 0,vS []],.bool false] [.cell 2 45,.tmp 3] (.tuple #[.agg #[vI 0,vI 0,vS []],.bool false]) ⟨⟨_,_,rfl,dY (n:=3) (by kernel_rfl) (bk.ah 0 rfl) (by kernel_rfl) rfl⟩,rfl,trivial⟩ (hR bk.drop ⟨b7 (by(rw[JG ‹_›];done)) (aS (by(rw[JG ‹_›];done))),rfl⟩)
 replace bj:=jk bj
 refine Op.pg 3 [(19,.bool ((((bg b).1).length:Int) != 2))] ?_
 refine At.fn ((((bg b).1).length:Int)=2) 19 4 6 (fun dp=>?_) fun dq=>?_
 ·refine At.rp 3 1 [(20,.agg #[vI 0,vI 0,vS []])] ?_
  refine Op.sg 45 2 20 0 0 #[vI 0,vI 0,vS []] U (fun _=>trivial) fun du bm=>?_
  refine Op.pg 5 [(3,.bool false)] ?_
  exact At.rm f67 [.agg #[vI 0,vI 0,vS []],.bool false] [.cell 2 45,.tmp 3] (.tuple #[.agg #[vI 0,vI 0,vS []],.bool false]) ⟨⟨_,_,rfl,dY (n:=3) (by kernel_rfl) (bm.ah 0 rfl) (by kernel_rfl) rfl⟩,rfl,trivial⟩ (hR bm.drop ⟨b7 (by(rw[JH ‹_›];done)) (aS (by(rw[JH ‹_›];done))),rfl⟩)
 refine At.rp 9 1 [(22,vL be (((bg b).1).length) X)] ?_
 obtain⟨u,D⟩:=cG ((bg b).1) 0
 obtain⟨am,Y,dv,dC,ck,ar,aw⟩:=av.bF V _ D
 cases ck
 refine Op.iq 115 22 1 24 (((bg b).1).length) X 22 (.const (vI 0)) 23 am Y 0 ?_
 obtain⟨dE,aw,bo⟩:=aw
 obtain⟨co,c3,rfl⟩:=bo.aj
 refine Op.l1 22 23 24 (Y+(0:Int).toNat*1) (vL co u.length c3) (U.sub _ _ ar) ?_ (hv:=c_ aw 0 rfl)
 refine Op.c0 (some 25) (Ch _ _ _ U.sub ae _ _ bo 2 (by((try dsimp only)<;>((have:=An D;omega))))) U ?_
 rintro _ dT _ d0 bt G ⟨d1,rfl,a0,rfl⟩
 obtain⟨b3,ab,rfl⟩:=a0.aj
 replace ar:=bt _ _ ar
 replace V:=V.mono bt
 refine Op.pg 7 [(6,vL b3 (((bU u).1).length) ab),(7,.bool (gI u 2))] ?_
 refine At.go 8 2 [(29,.bool (!(gI u 2)))] ?_
 refine At.di (!(gI u 2)) 29 9 11 (fun b4=>?_) fun b5=>?_
 ·replace b4:=(dG b4)
  refine At.rp 3 1 [(30,.agg #[vI 0,vI 0,vS []])] ?_
  refine Op.sg 45 2 30 0 0 #[vI 0,vI 0,vS []] G (fun _=>trivial) fun d2 b6=>?_
  refine Op.pg 10 [(3,.bool false)] ?_
  exact At.rm f67 [.agg #[vI 0,vI 0,vS []],.bool false] [.cell 2 45,.tmp 3] (.tuple #[.agg #[vI 0,vI 0,vS []],.bool false]) ⟨⟨_,_,rfl,dY (n:=3) (by kernel_rfl) (b6.ah 0 rfl) (by kernel_rfl) rfl⟩,rfl,trivial⟩ (hR b6.drop ⟨b7 (by(rw[JI D ‹_›];done)) (aS (by(rw[JI D ‹_›];done))),rfl⟩)
 replace b5:=(dH b5)
 refine At.dw (fun _=>False) [(0,true),(1,true),(3,true),(4,true),(6,true),(7,true),(2,true),(5,true),(8,false),(9,true),(10,true),(1011,false),(11,false),(12,true)] ?_
 refine Op.px 1 [(31,vL b3 (((bU u).1).length) ab)] ?_
 obtain⟨I,a1⟩:=lK (l:=(bU u).1) (i:=0) (by(have:=fV ‹_›;omega))
 obtain⟨a3,ad,d3,d4,c4,c5,a4⟩:=av.bF a0 _ a1
 cases c4
 refine Op.ix 117 3 1 8 (((bU u).1).length) ab 31 (.const (vI 0)) 32 a3 ad 0 (by omega) (by(have:=fV ‹_›;omega)) ?_
 replace a4:cut _ _ _=[vI I]:=a4
 refine Op.px 1 [(34,vL (some ⟨a3,ad,none⟩) (((bU u).1).length) ab)] ?_
 obtain⟨J,a5⟩:=lK (l:=(bU u).1) (i:=1) (by(have:=fV ‹_›;omega))
 obtain⟨d5,d6,d7,d8,c6,c8,a6⟩:=av.bF a0 _ a5
 cases c6
 refine Op.ix 117 3 1 8 (((bU u).1).length) ab 34 (.const (vI 1)) 35 a3 ad 1 (by omega) (by(have:=fV ‹_›;omega)) ?_
 replace a6:cut _ _ _=[vI J]:=a6
 refine Op.px 1 [(37,vL (some ⟨am,Y,none⟩) (((bg b).1).length) X)] ?_
 obtain⟨O,a7⟩:=cG ((bg b).1) 1
 obtain⟨d9,ed,ee,ef,c9,da,a8⟩:=av.bF V _ a7
 cases c9
 refine Op.iq 115 22 1 24 (((bg b).1).length) X 37 (.const (vI 1)) 38 am Y 1 ?_
 obtain⟨eh,a8,b8⟩:=a8
 obtain⟨db,dc,rfl⟩:=b8.aj
 refine Op.gB (T:=3) (x:=32) (o:=ad+(0:Int).toNat*1) (d:=33) (n:=1) (v:=vI I) (by kernel_rfl) (by kernel_rfl) (by kernel_rfl) (fun h=>h) (G.sub _ _ c5) (c_ a4 0 rfl) ?_
 refine Op.gB (T:=3) (x:=35) (o:=ad+(1:Int).toNat*1) (d:=36) (n:=1) (v:=vI J) (by kernel_rfl) (by kernel_rfl) (by kernel_rfl) (fun h=>h) (G.sub _ _ c8) (c_ a6 0 rfl) ?_
 refine Op.l1 22 38 39 (Y+(1:Int).toNat*1) (vL db O.length dc) (G.sub _ _ da) ?_ (hv:=c_ a8 0 rfl)
 refine Op.Bo (T:=22) (S:=9) (E:=5) (x:=39) (dst:=40) (l:=O) (by kernel_rfl) (by kernel_rfl) (by kernel_rfl) (by kernel_rfl) (by kernel_rfl) b8 G.sub (fun _ _ _ h=>h) ?_
 refine Op.px 1 [(41,.agg #[vI I,vI J,vS O])] ?_
 refine Op.ba ?_
 refine Op.sg 45 2 41 0 0 #[vI I,vI J,vS O] G (fun _=>trivial) fun ej ca=>?_
 refine Op.pg 12 [(3,.bool true)] ?_
 exact At.rm f67 [.agg #[vI I,vI J,vS O],.bool true] [.cell 2 45,.tmp 3] (.tuple #[.agg #[vI I,vI J,vS O],.bool true]) ⟨⟨_,_,rfl,dY (n:=3) (by kernel_rfl) (ca.ah 0 rfl) (by kernel_rfl) rfl⟩,rfl,trivial⟩ (hR ca.drop ⟨b7 (by(rw[JJ ‹_› ‹_› D ‹_› a1 a5 a7];done)) (aS (by(rw[JJ ‹_› ‹_› D ‹_› a1 a5 a7];done))),rfl⟩)
theorem CX (B:World) (h:ax) (g:GH) (hg:bl g h) (O:bq g) (ex:Value) (b:an) (V:av g 5 br ex b) (hl:b.length≤1000000000):
  aE prog B 28 #[ex] h g [] (fun hr g' L'=>∃v0 v1 v2,hr=.tuple #[.agg #[.int .i64 (((bw b).1).Code),.int .i64 (((bw b).1).aZ),.int .i64 (((bw b).1).At),.string (bp (((bw b).1).ag.af)),v0,.int .i64 (((bw b).1).ag.ai),.int .i64 (((bw b).1).ag.aD),.int .i64 (((bw b).1).ag.Next),.int .i64 (((bw b).1).ag.aL),v1,v2],.int .i64 ((bw b).2)]∧av g' 5 br v0 (((bw b).1).ag.Data)∧av g' 9 eU v1 (((bw b).1).bP)∧av g' 45 dh v2 (((bw b).1).aT)∧L'=[]):=by
 obtain⟨ch,ci,rfl⟩:=V.aj
 refine aE.aq func28 fun R hR=>?_
 have hs:=St.init hg
 refine At.rg 2 ?_
 refine Op.al 2 43 #[vI 0,vI 0,vI 0,vS [],vN,vI 0,vI 0,vI 0,vI 0,vN,vN] hs fun ck ll eA=>?_
 refine Op.pg 1 [] ?_
 refine At.rp 7 1 [(19,vL ch b.length ci)] ?_
 refine Op.c0 (some 20) (B3 _ _ _ eA.sub O _ _ V (by(try dsimp only)<;>omega)) eA ?_
 rintro _ lm _ ln eB b5 ⟨lr,rfl,am,rfl⟩
 obtain⟨eE,ar,rfl⟩:=am.aj
 replace O:=O.mono eB
 replace V:=V.mono eB
 refine Op.pg 2 [(4,vL eE (((bg b).1).length) ar),(5,vI ((bg b).2))] ?_
 refine At.rp 7 3 [(25,.bool (((bg b).2) != 0))] ?_
 refine Op.wb (((bg b).2) != 0) 25 (fun eI=>?_) fun eJ=>?_
 ·replace eI:=gY eI
  refine Op.pg 3 [(29,.bool true)] ?_
  refine At.bW 29 4 ?_
  refine At.rp 3 1 [(30,.agg #[vI 0,vI 0,vI 0,vS [],vN,vI 0,vI 0,vI 0,vI 0,vN,vN])] ?_
  refine Op.sg 43 2 30 0 0 #[vI 0,vI 0,vI 0,vS [],vN,vI 0,vI 0,vI 0,vI 0,vN,vN] b5 (fun _=>trivial) fun lv eK=>?_
  refine Op.pg 5 [(3,vI 130)] ?_
  exact At.rm f28 [.agg #[vI 0,vI 0,vI 0,vS [],vN,vI 0,vI 0,vI 0,vI 0,vN,vN],vI 130] [.cell 2 43,.tmp 3] (.tuple #[.agg #[vI 0,vI 0,vI 0,vS [],vN,vI 0,vI 0,vI 0,vI 0,vN,vN],vI 130]) ⟨⟨_,_,rfl,dY (n:=11) (by kernel_rfl) (eK.ah 0 rfl) (by kernel_rfl) rfl⟩,rfl,trivial⟩ (hR eK.drop ⟨vN,vN,vN,b7 (by(rw[lg (hr_1 ‹_›)];rfl)) (bB (by(rw[lg (hr_1 ‹_›)];done))),b9 (av.empty _ _ _ _ _) (by(rw[lg (hr_1 ‹_›)];rfl)),b9 (av.empty _ _ _ _ _) (by(rw[lg (hr_1 ‹_›)];rfl)),b9 (av.empty _ _ _ _ _) (by(rw[lg (hr_1 ‹_›)];rfl)),rfl⟩)
 replace eJ:=jk eJ
 refine Op.pg 3 [(29,.bool (decide ((((bg b).1).length:Int)<4)))] ?_
 refine At.fd ((((bg b).1).length:Int)<4) 29 4 6 (fun lw=>?_) fun lx=>?_
 ·refine At.rp 3 1 [(30,.agg #[vI 0,vI 0,vI 0,vS [],vN,vI 0,vI 0,vI 0,vI 0,vN,vN])] ?_
  refine Op.sg 43 2 30 0 0 #[vI 0,vI 0,vI 0,vS [],vN,vI 0,vI 0,vI 0,vI 0,vN,vN] b5 (fun _=>trivial) fun ly eL=>?_
  refine Op.pg 5 [(3,vI 130)] ?_
  exact At.rm f28 [.agg #[vI 0,vI 0,vI 0,vS [],vN,vI 0,vI 0,vI 0,vI 0,vN,vN],vI 130] [.cell 2 43,.tmp 3] (.tuple #[.agg #[vI 0,vI 0,vI 0,vS [],vN,vI 0,vI 0,vI 0,vI 0,vN,vN],vI 130]) ⟨⟨_,_,rfl,dY (n:=11) (by kernel_rfl) (eL.ah 0 rfl) (by kernel_rfl) rfl⟩,rfl,trivial⟩ (hR eL.drop ⟨vN,vN,vN,b7 (by(rw[lg (hr_2 ‹_›)];rfl)) (bB (by(rw[lg (hr_2 ‹_›)];done))),b9 (av.empty _ _ _ _ _) (by(rw[lg (hr_2 ‹_›)];rfl)),b9 (av.empty _ _ _ _ _) (by(rw[lg (hr_2 ‹_›)];rfl)),b9 (av.empty _ _ _ _ _) (by(rw[lg (hr_2 ‹_›)];rfl)),rfl⟩)
 refine At.rp 9 1 [(32,vL eE (((bg b).1).length) ar)] ?_
 obtain⟨D,I⟩:=cG ((bg b).1) 0
 obtain⟨a1,ab,lA,lL,hu,dg,dj⟩:=av.bF am _ I
 cases hu
 refine Op.iq 115 22 1 24 (((bg b).1).length) ar 32 (.const (vI 0)) 33 a1 ab 0 ?_
 obtain⟨lO,dj,eQ⟩:=dj
 obtain⟨hw,hx,rfl⟩:=eQ.aj
 refine Op.l1 22 33 34 (ab+(0:Int).toNat*1) (vL hw D.length hx) (b5.sub _ _ dg) ?_ (hv:=c_ dj 0 rfl)
 refine Op.c0 (some 35) (Ch _ _ _ b5.sub O _ _ eQ 7 (by((try dsimp only)<;>((have:=An I;omega))))) b5 ?_
 rintro _ l0 _ l2 co dk ⟨l3,rfl,a3,rfl⟩
 obtain⟨e1,Y,rfl⟩:=a3.aj
 replace dg:=co _ _ dg
 replace O:=O.mono co
 replace V:=V.mono co
 replace am:=am.mono co
 refine Op.pg 7 [(6,vL e1 (((bU D).1).length) Y),(7,.bool (gI D 7))] ?_
 refine At.rp 9 1 [(39,vL (some ⟨a1,ab,none⟩) (((bg b).1).length) ar)] ?_
 obtain⟨X,J⟩:=cG ((bg b).1) 3
 obtain⟨l4,l8,ma,md,hy,dl,dp⟩:=av.bF am _ J
 cases hy
 refine Op.iq 115 22 1 24 (((bg b).1).length) ar 39 (.const (vI 3)) 40 a1 ab 3 ?_
 obtain⟨mf,dp,e2⟩:=dp
 obtain⟨hz,hA,rfl⟩:=e2.aj
 refine Op.l1 22 40 41 (ab+(3:Int).toNat*1) (vL hz X.length hA) (dk.sub _ _ dl) ?_ (hv:=c_ dp 0 rfl)
 refine Op.c0 (some 42) (B3 _ _ _ dk.sub O _ _ e2 (by((try dsimp only)<;>((have:=An J;omega))))) dk ?_
 rintro _ c3 _ mi b6 ad ⟨v75,rfl,c4,rfl⟩
 obtain⟨dq,c5,rfl⟩:=c4.aj
 replace dl:=b6 _ _ dl
 replace O:=O.mono b6
 replace V:=V.mono b6
 replace am:=am.mono b6
 replace a3:=a3.mono b6
 refine Op.pg 8 [(5,vI ((bg X).2)),(8,vL dq (((bg X).1).length) c5)] ?_
 refine At.rp 6 3 [(47,.bool (!(gI D 7)))] ?_
 refine Op.wb (!(gI D 7)) 47 (fun e3=>?_) fun e4=>?_
 ·replace e3:=(dG e3)
  refine Op.pg 9 [(50,.bool true)] ?_
  refine At.bW 50 10 ?_
  refine At.rp 3 1 [(51,.agg #[vI 0,vI 0,vI 0,vS [],vN,vI 0,vI 0,vI 0,vI 0,vN,vN])] ?_
  refine Op.sg 43 2 51 0 0 #[vI 0,vI 0,vI 0,vS [],vN,vI 0,vI 0,vI 0,vI 0,vN,vN] ad (fun _=>trivial) fun ml e5=>?_
  refine Op.pg 11 [(3,vI 130)] ?_
  exact At.rm f28 [.agg #[vI 0,vI 0,vI 0,vS [],vN,vI 0,vI 0,vI 0,vI 0,vN,vN],vI 130] [.cell 2 43,.tmp 3] (.tuple #[.agg #[vI 0,vI 0,vI 0,vS [],vN,vI 0,vI 0,vI 0,vI 0,vN,vN],vI 130]) ⟨⟨_,_,rfl,dY (n:=11) (by kernel_rfl) (e5.ah 0 rfl) (by kernel_rfl) rfl⟩,rfl,trivial⟩ (hR e5.drop ⟨vN,vN,vN,b7 (by(rw[lg (Aq I ‹_›)];rfl)) (bB (by(rw[lg (Aq I ‹_›)];done))),b9 (av.empty _ _ _ _ _) (by(rw[lg (Aq I ‹_›)];rfl)),b9 (av.empty _ _ _ _ _) (by(rw[lg (Aq I ‹_›)];rfl)),b9 (av.empty _ _ _ _ _) (by(rw[lg (Aq I ‹_›)];rfl)),rfl⟩)
 replace e4:=(dH e4)
 refine Op.pg 9 [(50,.bool (((bg X).2) != 0))] ?_
 refine At.fn (((bg X).2)=0) 50 10 12 (fun mp=>?_) fun mx=>?_
 ·refine At.rp 3 1 [(51,.agg #[vI 0,vI 0,vI 0,vS [],vN,vI 0,vI 0,vI 0,vI 0,vN,vN])] ?_
  refine Op.sg 43 2 51 0 0 #[vI 0,vI 0,vI 0,vS [],vN,vI 0,vI 0,vI 0,vI 0,vN,vN] ad (fun _=>trivial) fun my e6=>?_
  refine Op.pg 11 [(3,vI 130)] ?_
  exact At.rm f28 [.agg #[vI 0,vI 0,vI 0,vS [],vN,vI 0,vI 0,vI 0,vI 0,vN,vN],vI 130] [.cell 2 43,.tmp 3] (.tuple #[.agg #[vI 0,vI 0,vI 0,vS [],vN,vI 0,vI 0,vI 0,vI 0,vN,vN],vI 130]) ⟨⟨_,_,rfl,dY (n:=11) (by kernel_rfl) (e6.ah 0 rfl) (by kernel_rfl) rfl⟩,rfl,trivial⟩ (hR e6.drop ⟨vN,vN,vN,b7 (by(rw[lg (hr_4 J ‹_›)];rfl)) (bB (by(rw[lg (hr_4 J ‹_›)];done))),b9 (av.empty _ _ _ _ _) (by(rw[lg (hr_4 J ‹_›)];rfl)),b9 (av.empty _ _ _ _ _) (by(rw[lg (hr_4 J ‹_›)];rfl)),b9 (av.empty _ _ _ _ _) (by(rw[lg (hr_4 J ‹_›)];rfl)),rfl⟩)
 refine At.dw (fun _=>False) [(0,true),(1,true),(3,true),(4,true),(6,true),(7,true),(9,true),(10,true),(12,true),(13,true),(16,true),(17,true),(19,true),(20,true),(22,true),(23,true),(26,true),(27,true),(2,true),(5,true),(8,true),(11,true),(14,true),(15,true),(18,true),(21,true),(24,true),(25,true),(28,true),(29,true),(30,true),(31,false),(1032,false),(32,false)] ?_
 refine Op.px 1 [(52,vL e1 (((bU D).1).length) Y)] ?_
 obtain⟨a7,e7⟩:=lK (l:=(bU D).1) (i:=0) (by(have:=fV ‹_›;omega))
 obtain⟨ae,U,m0,m1,hB,hC,du⟩:=av.bF a3 _ e7
 cases hB
 refine Op.ix 117 3 1 8 (((bU D).1).length) Y 52 (.const (vI 0)) 53 ae U 0 (by omega) (by(have:=fV ‹_›;omega)) ?_
 replace du:cut _ _ _=[vI a7]:=du
 refine Op.px 1 [(55,vL (some ⟨ae,U,none⟩) (((bU D).1).length) Y)] ?_
 obtain⟨a8,e8⟩:=lK (l:=(bU D).1) (i:=1) (by(have:=fV ‹_›;omega))
 obtain⟨m2,m3,m4,m5,hD,hF,dv⟩:=av.bF a3 _ e8
 cases hD
 refine Op.ix 117 3 1 8 (((bU D).1).length) Y 55 (.const (vI 1)) 56 ae U 1 (by omega) (by(have:=fV ‹_›;omega)) ?_
 replace dv:cut _ _ _=[vI a8]:=dv
 refine Op.px 1 [(58,vL (some ⟨ae,U,none⟩) (((bU D).1).length) Y)] ?_
 obtain⟨a9,e9⟩:=lK (l:=(bU D).1) (i:=2) (by(have:=fV ‹_›;omega))
 obtain⟨m6,m7,m8,m9,hG,hI,dC⟩:=av.bF a3 _ e9
 cases hG
 refine Op.ix 117 3 1 8 (((bU D).1).length) Y 58 (.const (vI 2)) 59 ae U 2 (by omega) (by(have:=fV ‹_›;omega)) ?_
 replace dC:cut _ _ _=[vI a9]:=dC
 refine Op.px 1 [(61,vL (some ⟨ae,U,none⟩) (((bU D).1).length) Y)] ?_
 obtain⟨bc,fa⟩:=lK (l:=(bU D).1) (i:=3) (by(have:=fV ‹_›;omega))
 obtain⟨na,nb,nd,nf,hJ,hK,dE⟩:=av.bF a3 _ fa
 cases hJ
 refine Op.ix 117 3 1 8 (((bU D).1).length) Y 61 (.const (vI 3)) 62 ae U 3 (by omega) (by(have:=fV ‹_›;omega)) ?_
 replace dE:cut _ _ _=[vI bc]:=dE
 refine Op.px 1 [(64,vL (some ⟨ae,U,none⟩) (((bU D).1).length) Y)] ?_
 obtain⟨a6,c6⟩:=lK (l:=(bU D).1) (i:=4) (by(have:=fV ‹_›;omega))
 obtain⟨nm,nn,no,np,hL,hO,dT⟩:=av.bF a3 _ c6
 cases hL
 refine Op.ix 117 3 1 8 (((bU D).1).length) Y 64 (.const (vI 4)) 65 ae U 4 (by omega) (by(have:=fV ‹_›;omega)) ?_
 replace dT:cut _ _ _=[vI a6]:=dT
 refine Op.px 1 [(68,vL (some ⟨ae,U,none⟩) (((bU D).1).length) Y)] ?_
 obtain⟨bd,fg⟩:=lK (l:=(bU D).1) (i:=5) (by(have:=fV ‹_›;omega))
 obtain⟨nu,nx,nz,n0,hP,hQ,d0⟩:=av.bF a3 _ fg
 cases hP
 refine Op.ix 117 3 1 8 (((bU D).1).length) Y 68 (.const (vI 5)) 69 ae U 5 (by omega) (by(have:=fV ‹_›;omega)) ?_
 replace d0:cut _ _ _=[vI bd]:=d0
 refine Op.px 1 [(71,vL (some ⟨ae,U,none⟩) (((bU D).1).length) Y)] ?_
 obtain⟨be,fi⟩:=lK (l:=(bU D).1) (i:=6) (by(have:=fV ‹_›;omega))
 obtain⟨n3,oi,oj,ol,hS,hT,d1⟩:=av.bF a3 _ fi
 cases hS
 refine Op.ix 117 3 1 8 (((bU D).1).length) Y 71 (.const (vI 6)) 72 ae U 6 (by omega) (by(have:=fV ‹_›;omega)) ?_
 replace d1:cut _ _ _=[vI be]:=d1
 refine Op.px 1 [(74,vL (some ⟨a1,ab,none⟩) (((bg b).1).length) ar)] ?_
 obtain⟨bi,fj⟩:=cG ((bg b).1) 1
 obtain⟨or,o3,o4,pa,hV,hW,d2⟩:=av.bF am _ fj
 cases hV
 refine Op.iq 115 22 1 24 (((bg b).1).length) ar 74 (.const (vI 1)) 75 a1 ab 1 ?_
 obtain⟨pb,d2,fl⟩:=d2
 obtain⟨hX,hY,rfl⟩:=fl.aj
 refine Op.px 1 [(78,vL (some ⟨a1,ab,none⟩) (((bg b).1).length) ar)] ?_
 obtain⟨b8,fp⟩:=cG ((bg b).1) 2
 obtain⟨pc,pd,pf,ph,hZ,h2,d3⟩:=av.bF am _ fp
 cases hZ
 refine Op.iq 115 22 1 24 (((bg b).1).length) ar 78 (.const (vI 2)) 79 a1 ab 2 ?_
 obtain⟨pj,d3,fr⟩:=d3
 obtain⟨d4,d5,rfl⟩:=fr.aj
 refine Op.gB (T:=3) (x:=53) (o:=U+(0:Int).toNat*1) (d:=54) (n:=1) (v:=vI a7) (by kernel_rfl) (by kernel_rfl) (by kernel_rfl) (fun h=>h) (ad.sub _ _ hC) (c_ du 0 rfl) ?_
 refine Op.gB (T:=3) (x:=56) (o:=U+(1:Int).toNat*1) (d:=57) (n:=1) (v:=vI a8) (by kernel_rfl) (by kernel_rfl) (by kernel_rfl) (fun h=>h) (ad.sub _ _ hF) (c_ dv 0 rfl) ?_
 refine Op.gB (T:=3) (x:=59) (o:=U+(2:Int).toNat*1) (d:=60) (n:=1) (v:=vI a9) (by kernel_rfl) (by kernel_rfl) (by kernel_rfl) (fun h=>h) (ad.sub _ _ hI) (c_ dC 0 rfl) ?_
 refine Op.gB (T:=3) (x:=62) (o:=U+(3:Int).toNat*1) (d:=63) (n:=1) (v:=vI bc) (by kernel_rfl) (by kernel_rfl) (by kernel_rfl) (fun h=>h) (ad.sub _ _ hK) (c_ dE 0 rfl) ?_
 refine Op.gB (T:=3) (x:=65) (o:=U+(4:Int).toNat*1) (d:=66) (n:=1) (v:=vI a6) (by kernel_rfl) (by kernel_rfl) (by kernel_rfl) (fun h=>h) (ad.sub _ _ hO) (c_ dT 0 rfl) ?_
 refine Op.cE 67 (a6-1) (by(have:=oV c6;omega)) (by(have:=oV c6;omega)) ?_
 refine Op.gB (T:=3) (x:=69) (o:=U+(5:Int).toNat*1) (d:=70) (n:=1) (v:=vI bd) (by kernel_rfl) (by kernel_rfl) (by kernel_rfl) (fun h=>h) (ad.sub _ _ hQ) (c_ d0 0 rfl) ?_
 refine Op.gB (T:=3) (x:=72) (o:=U+(6:Int).toNat*1) (d:=73) (n:=1) (v:=vI be) (by kernel_rfl) (by kernel_rfl) (by kernel_rfl) (fun h=>h) (ad.sub _ _ hT) (c_ d1 0 rfl) ?_
 refine Op.gB (T:=22) (x:=75) (o:=ab+(1:Int).toNat*1) (d:=76) (n:=1) (v:=vL hX bi.length hY) (by kernel_rfl) (by kernel_rfl) (by kernel_rfl) (fun h=>h) (ad.sub _ _ hW) (c_ d2 0 rfl) ?_
 refine Op.Bo (T:=22) (S:=9) (E:=5) (x:=76) (dst:=77) (l:=bi) (by kernel_rfl) (by kernel_rfl) (by kernel_rfl) (by kernel_rfl) (by kernel_rfl) fl ad.sub (fun _ _ _ h=>h) ?_
 refine Op.gB (T:=22) (x:=79) (o:=ab+(2:Int).toNat*1) (d:=80) (n:=1) (v:=vL d4 b8.length d5) (by kernel_rfl) (by kernel_rfl) (by kernel_rfl) (fun h=>h) (ad.sub _ _ h2) (c_ d3 0 rfl) ?_
 refine Op.px 2 [(82,.agg #[vI a7,vI a8,vI a9,vS bi,vL d4 b8.length d5,vI bc,vI (a6-1),vI bd,vI be,vN,vN])] ?_
 refine Op.al 9 43 #[vI 0,vI 0,vI 0,vS [],vN,vI 0,vI 0,vI 0,vI 0,vN,vN] ad fun aw pl h3=>?_
 refine Op.ba ?_
 refine Op.sg 43 9 82 0 0 #[vI a7,vI a8,vI a9,vS bi,vL d4 b8.length d5,vI bc,vI (a6-1),vI bd,vI be,vN,vN] h3 (fun _=>trivial) fun pm h4=>?_
 refine Op.gt 13 ?_
 refine At.go 14 3 [(83,vL dq (((bg X).1).length) c5),(84,vI (((bg X).1).length:Int)),(85,vI 0)] ?_
 have h5:=aJ.nil 9 eU c3
 have h6:=h4.nl
 have h7:=aJ.nil 45 dh c3
 have h8:=h6.nl
 have h9:=((h8.aa 0 rfl).aa 1 rfl).aa 2 rfl
 obtain⟨po,ib,ih⟩:=St.bJ (Q:=fW c3 aw (⟨a7,a8,a9,⟨bi,b8,bc,a6-1,bd,be⟩,([]:List an),([]:List ak)⟩:Result)) 3 h9 ⟨_,_,_,_,_,rfl,fr,h5,h7⟩
 have ii:∀(m:Nat) (bj:GH) (bk:aM c3 bj) (ob:Result) (i:Int) (d6:ay) (d7:ax) (hm:(bg X).1.length-i.toNat<m) (h0:0≤i) (h1:i≤(bg X).1.length) (hH:j7 b=true) (hN:wP b D X ob i) (d8:fW bj aw ob d6) (c8:St h g (aV []) bj [d6,[(ck,Obj.cells #[vI 0,vI 0,vI 0,vS [],vN,vI 0,vI 0,vI 0,vI 0,vN,vN] 43 (0,0))]] d7),At (bX prog B 28 f28 R) [] 14 [(0,vL ch b.length ci),(2,vP ck),(4,vL (some ⟨a1,ab,none⟩) (((bg b).1).length) ar),(9,vP aw),(83,vL dq (((bg X).1).length) c5),(84,vI (((bg X).1).length:Int)),(85,vI i)] d7:=by
  intro m;induction m with
  |zero=>intros;omega
  |succ m ik=>
   intro bj bk ob i d6 d7 hm h0 h1 hH hN d8 c8
   replace O:=O.mono bk
   replace V:=V.mono bk
   replace am:=am.mono bk
   replace c4:=c4.mono bk
   refine At.go 15 1 [(86,.bool (decide (i<(((bg X).1).length:Int))))] ?_
   refine At.fd (i<(((bg X).1).length:Int)) 86 16 19 (fun pu=>?_) fun pv=>?_
   ·refine At.rg 3 ?_
    obtain⟨a0,ft⟩:=cG ((bg X).1) i
    obtain⟨il,fv,pw,py,io,ip,d9⟩:=av.bF c4 _ ft
    cases io
    refine Op.iq 115 22 1 24 (((bg X).1).length) c5 83 85 87 il fv i ?_
    obtain⟨pA,d9,fw⟩:=d9
    obtain⟨ed,ee,rfl⟩:=fw.aj
    refine Op.l1 22 87 88 (fv+i.toNat*1) (vL ed a0.length ee) (c8.sub _ _ ip) ?_ (hv:=c_ d9 0 rfl)
    refine Op.pg 17 [(11,vL ed a0.length ee)] ?_
    refine At.rp 8 1 [(89,vQ aw 9)] ?_
    obtain⟨pB,v212,is,pC,iv,i0,fx,f0,f1⟩:=d8
    obtain⟨i1,n221,rfl⟩:=fx.aj
    obtain⟨a222,i2,rfl⟩:=f0.aj
    obtain⟨i3,n225,rfl⟩:=f1.aj
    have ef:=St.un [is,iv] i0 c8
    refine Op.l1 40 89 90 9 (vL a222 ob.bP.length i2) (ef.ah 0 rfl) ?_
    refine Op.px 1 [(91,vL ed a0.length ee)] ?_
    refine Op.MO (T:=22) (S:=9) (E:=5) (x:=91) (dst:=92) (l:=a0) (by kernel_rfl) (by kernel_rfl) (by kernel_rfl) (by kernel_rfl) (by kernel_rfl) (fw.toH ef.sub) ?_
    refine Op.ls 93 1 9 #[vS a0] ef fun pD p0 f2=>?_
    refine Op.ap 90 93 40 40 94 9 16 eU (ys:=[a0]) f0 f2 2 (⟨_,_,rfl,rfl,Reads.nil⟩) (by(have:=(Qg hN).1;simp only[bY,dU];omega)) (fun _ _ _=>trivial) (eT.lit (m:=1) (sz:=1) (f2.ah 0 rfl) (news:=[vS a0]) rfl rfl (by simp[Value.oneCell']) _) fun p1 p2 p3 f3 i4 p8=>?_
    obtain⟨f4,f5,rfl⟩:=f3.aj
    have i5:=(i4.aa 0 rfl).drop
    refine Op.px 1 [(95,vQ aw 9)] ?_
    refine Op.s1 40 95 94 9 (vL f4 ((ob.bP++([a0])).length) f5) 0 #[vI ob.Code,vI ob.aZ,vI ob.At,vS ob.ag.af,vL i1 ob.ag.Data.length n221,vI ob.ag.ai,vI ob.ag.aD,vI ob.ag.Next,vI ob.ag.aL,vL f4 ((ob.bP++([a0])).length) f5,vL i3 ob.aT.length n225] i5 (fun _=>trivial) fun qr i6=>?_
    refine Op.gt 18 ?_
    refine At.rg 2 ?_
    refine Op.cE 96 (i+1) (by omega) (by(have:=(nU X).1;omega)) ?_
    refine Op.pg 14 [(85,vI (i+1))] ?_
    obtain⟨q0,i7,i8⟩:=St.bJ (Q:=fW bj aw (⟨ob.Code,ob.aZ,ob.At,⟨ob.ag.af,ob.ag.Data,ob.ag.ai,ob.ag.aD,ob.ag.Next,ob.ag.aL⟩,ob.bP++([a0]),ob.aT⟩:Result)) 3 i6 ⟨_,_,_,_,_,rfl,fx,f3,f1⟩
    exact At.ke (ik _ bk (⟨ob.Code,ob.aZ,ob.At,⟨ob.ag.af,ob.ag.Data,ob.ag.ai,ob.ag.aD,ob.ag.Next,ob.ag.aL⟩,ob.bP++([a0]),ob.aT⟩:Result) (i+1) _ _ (by omega) (by omega) (by omega) (by omega) (by exact Qf hN h0 ft) i7 i8)
   refine At.rp 4 1 [(97,vL (some ⟨a1,ab,none⟩) (((bg b).1).length) ar)] ?_
   refine Op.zA (T:=115) (E:=22) (dx:=24) (x:=97) (ao:=(some ⟨a1,ab,none⟩)) (n:=(((bg b).1).length)) (c:=ar) (dst:=98) (d:=(jI 5 br)) (lo:=(.const (vI 4))) (k:=.i64) (m:=4) (by kernel_rfl) (by kernel_rfl) (by kernel_rfl) (by kernel_rfl) am (by omega) (by omega) fun q1 c9=>?_
   obtain⟨i9,f6,rfl⟩:=c9.aj
   refine Op.pg 20 [(99,vI ((((bg b).1).drop (4:Int).toNat).length:Int)),(100,vI 0)] ?_
   have jf:∀(m:Nat) (da:GH) (ca:aM bj da) (u:Result) (q:Int) (eh:ay) (ej:ax) (hm:((bg b).1.drop (4:Int).toNat).length-q.toNat<m) (f7:0≤q) (jj:q≤((bg b).1.drop (4:Int).toNat).length) (hE:q9 b D X u q) (cb:fW da aw u eh) (ce:St h g (aV []) da [eh,[(ck,Obj.cells #[vI 0,vI 0,vI 0,vS [],vN,vI 0,vI 0,vI 0,vI 0,vN,vN] 43 (0,0))]] ej),At (bX prog B 28 f28 R) [] 20 [(0,vL ch b.length ci),(2,vP ck),(9,vP aw),(98,vL i9 ((((bg b).1).drop (4:Int).toNat).length) f6),(99,vI ((((bg b).1).drop (4:Int).toNat).length:Int)),(100,vI q)] ej:=by
    intro m;induction m with
    |zero=>intros;omega
    |succ m jn=>
     intro da ca u q eh ej hm f7 jj hE cb ce
     replace O:=O.mono ca
     replace V:=V.mono ca
     replace c9:=c9.mono ca
     refine At.go 21 1 [(101,.bool (decide (q<((((bg b).1).drop (4:Int).toNat).length:Int))))] ?_
     refine At.fd (q<((((bg b).1).drop (4:Int).toNat).length:Int)) 101 22 30 (fun q2=>?_) fun q3=>?_
     ·refine At.rg 3 ?_
      obtain⟨G,a5⟩:=cG (((bg b).1).drop (4:Int).toNat) q
      obtain⟨jt,f8,q4,q5,j1,j2,em⟩:=av.bF c9 _ a5
      cases j1
      refine Op.iq 115 22 1 24 ((((bg b).1).drop (4:Int).toNat).length) f6 98 100 102 jt f8 q ?_
      obtain⟨q6,em,f9⟩:=em
      obtain⟨en,n267,rfl⟩:=f9.aj
      refine Op.l1 22 102 103 (f8+q.toNat*1) (vL en G.length n267) (ce.sub _ _ j2) ?_ (hv:=c_ em 0 rfl)
      refine Op.pg 23 [(13,vL en G.length n267)] ?_
      refine At.rp 8 1 [(105,vL en G.length n267)] ?_
      refine Op.c0 (some 106) (QW _ _ _ ce.sub O _ _ f9 (by((try dsimp only)<;>((have:=EM a5;omega))))) ce ?_
      rintro _ kc _ ra kd kh ⟨rfl,rfl⟩
      replace cb:=cb.mono kd
      refine Op.px 3 [(107,.agg #[vI (((dZ G).1).Client),vI (((dZ G).1).Kind),vS (((dZ G).1).af)]),(108,.bool ((dZ G).2))] ?_
      refine Op.al 14 45 #[vI 0,vI 0,vS []] kh fun rb rc kk=>?_
      refine Op.sg 45 14 107 0 0 #[vI (((dZ G).1).Client),vI (((dZ G).1).Kind),vS (((dZ G).1).af)] kk (fun _=>trivial) fun rd gc=>?_
      refine Op.pg 24 [(15,.bool ((dZ G).2))] ?_
      refine At.go 25 2 [(110,.bool (!((dZ G).2)))] ?_
      refine At.di (!((dZ G).2)) 110 26 28 (fun ge=>?_) fun gg=>?_
      ·replace ge:=(dG ge)
       refine At.rp 3 1 [(111,.agg #[vI 0,vI 0,vI 0,vS [],vN,vI 0,vI 0,vI 0,vI 0,vN,vN])] ?_
       refine Op.sg 43 2 111 0 2 #[vI 0,vI 0,vI 0,vS [],vN,vI 0,vI 0,vI 0,vI 0,vN,vN] gc (fun _=>trivial) fun re gk=>?_
       refine Op.pg 27 [(3,vI 130)] ?_
       exact At.rm f28 [.agg #[vI 0,vI 0,vI 0,vS [],vN,vI 0,vI 0,vI 0,vI 0,vN,vN],vI 130] [.cell 2 43,.tmp 3] (.tuple #[.agg #[vI 0,vI 0,vI 0,vS [],vN,vI 0,vI 0,vI 0,vI 0,vN,vN],vI 130]) ⟨⟨_,_,rfl,dY (n:=11) (by kernel_rfl) (gk.ah 2 rfl) (by kernel_rfl) rfl⟩,rfl,trivial⟩ (hR gk.drop.drop.drop ⟨vN,vN,vN,b7 (by(rw[Ar hH a5 ‹_›];rfl)) (bB (by(rw[Ar hH a5 ‹_›];done))),b9 (av.empty _ _ _ _ _) (by(rw[Ar hH a5 ‹_›];rfl)),b9 (av.empty _ _ _ _ _) (by(rw[Ar hH a5 ‹_›];rfl)),b9 (av.empty _ _ _ _ _) (by(rw[Ar hH a5 ‹_›];rfl)),rfl⟩)
      replace gg:=(dH gg)
      refine At.rp 7 1 [(112,vQ aw 10)] ?_
      obtain⟨rf,rh,kl,rk,km,kv,gn,gs,g1⟩:=cb
      obtain⟨kw,kx,rfl⟩:=gn.aj
      obtain⟨kA,k0,rfl⟩:=gs.aj
      obtain⟨k1,n295,rfl⟩:=g1.aj
      have k2:=(gc.aa 0 rfl).aa 1 rfl
      have ep:=St.un [kl,km] kv k2
      refine Op.l1 41 112 113 10 (vL k1 u.aT.length n295) (ep.ah 0 rfl) ?_
      refine Op.la 45 14 114 0 3 [vI (((dZ G).1).Client),vI (((dZ G).1).Kind),vS (((dZ G).1).af)] (ep.ah 3 rfl) ?_
      refine Op.ls 115 1 45 #[vI (((dZ G).1).Client),vI (((dZ G).1).Kind),vS (((dZ G).1).af)] ep fun rn rr g2=>?_
      refine Op.ap 113 115 41 41 116 45 32 dh (ys:=[((dZ G).1)]) g1 g2 3 (⟨_,_,rfl,rfl,Reads.nil⟩) (by(have:=JK hE;simp only[bY,dU];omega)) (fun _ _ _=>trivial) (eT.lit (m:=1) (sz:=3) (g2.ah 0 rfl) (news:=[vI (((dZ G).1).Client),vI (((dZ G).1).Kind),vS (((dZ G).1).af)]) rfl rfl (by simp[Value.oneCell']) _) fun rv rx r0 g3 k3 r1=>?_
      obtain⟨g4,n308,rfl⟩:=g3.aj
      have k4:=(k3.aa 0 rfl).drop
      refine Op.px 1 [(117,vQ aw 10)] ?_
      refine Op.s1 41 117 116 10 (vL g4 ((u.aT++([((dZ G).1)])).length) n308) 0 #[vI u.Code,vI u.aZ,vI u.At,vS u.ag.af,vL kw u.ag.Data.length kx,vI u.ag.ai,vI u.ag.aD,vI u.ag.Next,vI u.ag.aL,vL kA u.bP.length k0,vL g4 ((u.aT++([((dZ G).1)])).length) n308] k4 (fun _=>trivial) fun r2 k5=>?_
      refine Op.gt 29 ?_
      refine At.rg 2 ?_
      refine Op.cE 118 (q+1) (by omega) (by(have:=Ql ‹_›;omega)) ?_
      refine Op.pg 20 [(100,vI (q+1))] ?_
      obtain⟨r3,k6,k7⟩:=St.bJ (Q:=fW kc aw (⟨u.Code,u.aZ,u.At,⟨u.ag.af,u.ag.Data,u.ag.ai,u.ag.aD,u.ag.Next,u.ag.aL⟩,u.bP,u.aT++([((dZ G).1)])⟩:Result)) 3 k5 ⟨_,_,_,_,_,rfl,gn,gs,g3⟩
      have k8:=(k7.aa 0 rfl).aa 1 rfl
      have lc:=k8.drop
      exact At.ke (jn _ (aM.trans ca (by repeat (first|assumption|apply aM.trans))) (⟨u.Code,u.aZ,u.At,⟨u.ag.af,u.ag.Data,u.ag.ai,u.ag.aD,u.ag.Next,u.ag.aL⟩,u.bP,u.aT++([((dZ G).1)])⟩:Result) (q+1) _ _ (by omega) (by omega) (by omega) (by exact Qi hE f7 a5 ‹_›) k6 lc)
     refine At.rg 7 ?_
     obtain⟨sc,sd,lh,sf,li,lj,a4,g5,db⟩:=cb
     obtain⟨bm,bo,rfl⟩:=a4.aj
     obtain⟨bt,n329,rfl⟩:=g5.aj
     obtain⟨b3,n331,rfl⟩:=db.aj
     have g6:=St.un [lh,li] lj ce
     refine Op.la 43 9 120 0 11 [vI u.Code,vI u.aZ,vI u.At,vS u.ag.af,vL bm u.ag.Data.length bo,vI u.ag.ai,vI u.ag.aD,vI u.ag.Next,vI u.ag.aL,vL bt u.bP.length n329,vL b3 u.aT.length n331] (g6.ah 0 rfl) ?_
     obtain⟨sh,lk,dc,b4⟩:=aJ.freeze g5 (g6.aa 1 rfl)
     replace a4:=a4.mono dc
     replace db:=db.mono dc
     replace O:=O.mono dc
     replace V:=V.mono dc
     obtain⟨sk,g7,dd,df⟩:=aJ.freeze db (lk.aa 1 rfl)
     replace a4:=a4.mono dd
     replace O:=O.mono dd
     replace V:=V.mono dd
     replace b4:=b4.mono dd
     refine Op.c0 (some 121) (J7 _ _ _ g7.sub O u _ a4 _ b4 _ df (by(try dsimp only)<;>exact Qk hE)) g7 ?_
     rintro _ sm _ so cf er ⟨ss,rfl,g8,rfl⟩
     obtain⟨g9,he,rfl⟩:=g8.aj
     replace a4:=a4.mono cf
     replace O:=O.mono cf
     replace V:=V.mono cf
     replace b4:=b4.mono cf
     replace df:=df.mono cf
     refine Op.pg 31 [(16,vL g9 (((cL u).1).length) he),(17,vI ((cL u).2))] ?_
     refine At.rp 8 3 [(126,.bool (((cL u).2) != 0))] ?_
     refine Op.wb (((cL u).2) != 0) 126 (fun hf=>?_) fun hh=>?_
     ·replace hf:=gY hf
      refine Op.pg 32 [(131,.bool true)] ?_
      refine At.bW 131 33 ?_
      refine At.rp 3 1 [(132,.agg #[vI 0,vI 0,vI 0,vS [],vN,vI 0,vI 0,vI 0,vI 0,vN,vN])] ?_
      refine Op.sg 43 2 132 0 1 #[vI 0,vI 0,vI 0,vS [],vN,vI 0,vI 0,vI 0,vI 0,vN,vN] er (fun _=>trivial) fun sA hj=>?_
      refine Op.pg 34 [(3,vI 130)] ?_
      exact At.rm f28 [.agg #[vI 0,vI 0,vI 0,vS [],vN,vI 0,vI 0,vI 0,vI 0,vN,vN],vI 130] [.cell 2 43,.tmp 3] (.tuple #[.agg #[vI 0,vI 0,vI 0,vS [],vN,vI 0,vI 0,vI 0,vI 0,vN,vN],vI 130]) ⟨⟨_,_,rfl,dY (n:=11) (by kernel_rfl) (hj.ah 1 rfl) (by kernel_rfl) rfl⟩,rfl,trivial⟩ (hR hj.drop.drop ⟨vN,vN,vN,b7 (by(rw[q_ hH I J hE ‹_› (.inl ‹_›)];rfl)) (bB (by(rw[q_ hH I J hE ‹_› (.inl ‹_›)];done))),b9 (av.empty _ _ _ _ _) (by(rw[q_ hH I J hE ‹_› (.inl ‹_›)];rfl)),b9 (av.empty _ _ _ _ _) (by(rw[q_ hH I J hE ‹_› (.inl ‹_›)];rfl)),b9 (av.empty _ _ _ _ _) (by(rw[q_ hH I J hE ‹_› (.inl ‹_›)];rfl)),rfl⟩)
     replace hh:=jk hh
     refine Op.px 2 [(127,vL g9 (((cL u).1).length) he),(128,vL ch b.length ci)] ?_
     refine Op.c1 129 (QV _ _ _ er.sub O _ _ g8 _ _ V (by(try dsimp only)<;>omega)) er fun sB et=>?_
     refine Op.pg 32 [(131,.bool (!(decide (((cL u).1)=b))))] ?_
     refine At.di (!(decide (((cL u).1)=b))) 131 33 35 (fun hn=>?_) fun ho=>?_
     ·replace hn:=jq (dG hn)
      refine At.rp 3 1 [(132,.agg #[vI 0,vI 0,vI 0,vS [],vN,vI 0,vI 0,vI 0,vI 0,vN,vN])] ?_
      refine Op.sg 43 2 132 0 1 #[vI 0,vI 0,vI 0,vS [],vN,vI 0,vI 0,vI 0,vI 0,vN,vN] et (fun _=>trivial) fun sT hp=>?_
      refine Op.pg 34 [(3,vI 130)] ?_
      exact At.rm f28 [.agg #[vI 0,vI 0,vI 0,vS [],vN,vI 0,vI 0,vI 0,vI 0,vN,vN],vI 130] [.cell 2 43,.tmp 3] (.tuple #[.agg #[vI 0,vI 0,vI 0,vS [],vN,vI 0,vI 0,vI 0,vI 0,vN,vN],vI 130]) ⟨⟨_,_,rfl,dY (n:=11) (by kernel_rfl) (hp.ah 1 rfl) (by kernel_rfl) rfl⟩,rfl,trivial⟩ (hR hp.drop.drop ⟨vN,vN,vN,b7 (by(rw[q_ hH I J hE ‹_› (.inr ‹_›)];rfl)) (bB (by(rw[q_ hH I J hE ‹_› (.inr ‹_›)];done))),b9 (av.empty _ _ _ _ _) (by(rw[q_ hH I J hE ‹_› (.inr ‹_›)];rfl)),b9 (av.empty _ _ _ _ _) (by(rw[q_ hH I J hE ‹_› (.inr ‹_›)];rfl)),b9 (av.empty _ _ _ _ _) (by(rw[q_ hH I J hE ‹_› (.inr ‹_›)];rfl)),rfl⟩)
     replace ho:=gp (dH ho)
     refine At.rg 3 ?_
     refine Op.la 43 9 133 0 11 [vI u.Code,vI u.aZ,vI u.At,vS u.ag.af,vL bm u.ag.Data.length bo,vI u.ag.ai,vI u.ag.aD,vI u.ag.Next,vI u.ag.aL,vL bt u.bP.length n329,vL b3 u.aT.length n331] (et.ah 0 rfl) ?_
     refine Op.sg 43 2 133 0 1 #[vI u.Code,vI u.aZ,vI u.At,vS u.ag.af,vL bm u.ag.Data.length bo,vI u.ag.ai,vI u.ag.aD,vI u.ag.Next,vI u.ag.aL,vL bt u.bP.length n329,vL b3 u.aT.length n331] et (fun _=>trivial) fun s0 hq=>?_
     refine Op.pg 36 [(3,vI 0)] ?_
     exact At.rm f28 [.agg #[vI u.Code,vI u.aZ,vI u.At,vS u.ag.af,vL bm u.ag.Data.length bo,vI u.ag.ai,vI u.ag.aD,vI u.ag.Next,vI u.ag.aL,vL bt u.bP.length n329,vL b3 u.aT.length n331],vI 0] [.cell 2 43,.tmp 3] (.tuple #[.agg #[vI u.Code,vI u.aZ,vI u.At,vS u.ag.af,vL bm u.ag.Data.length bo,vI u.ag.ai,vI u.ag.aD,vI u.ag.Next,vI u.ag.aL,vL bt u.bP.length n329,vL b3 u.aT.length n331],vI 0]) ⟨⟨_,_,rfl,dY (n:=11) (by kernel_rfl) (hq.ah 1 rfl) (by kernel_rfl) rfl⟩,rfl,trivial⟩ (hR hq.drop.drop ⟨(vL bm u.ag.Data.length bo),(vL bt u.bP.length n329),(vL b3 u.aT.length n331),b7 (by(rw[As hH I J hE ‹_› ‹_› ‹_›];done)) (bB (by(rw[As hH I J hE ‹_› ‹_› ‹_›];done))),b9 a4 (by(rw[As hH I J hE ‹_› ‹_› ‹_›];done)),b9 b4 (by(rw[As hH I J hE ‹_› ‹_› ‹_›];done)),b9 df (by(rw[As hH I J hE ‹_› ‹_› ‹_›];done)),rfl⟩)
   exact At.ke (jf _ _ (aM.refl _) ob 0 _ _ (bM _) (by omega) (by omega) (by exact Qh hN ‹_›) d8 c8)
 exact At.ke (ii _ _ (aM.refl _) (⟨a7,a8,a9,⟨bi,b8,bc,a6-1,bd,be⟩,([]:List an),([]:List ak)⟩:Result) 0 _ _ (bM _) (by omega) (by omega) (by exact Qd ‹_› ‹_› I ‹_› J ‹_›) (by exact Qe fj fp e7 e8 e9 fa c6 fg fi) ib ih)
set_option linter.unusedSectionVars false
def ot {α:Type} (y:List (Int×(List α×ay))):List (Int×List α):=y.map fun p=>(p.1,p.2.1)
def qf {α:Type} (y:List (Int×(List α×ay))):ay:=(y.map fun p=>p.2.2).flatten
def QX {α:Type} (T:TypeId) (d:Kd α) (g:GH) (a:List α×ay) (v:Value):Prop:=aJ T d g v a.1 a.2
section
variable {α:Type} {y:List (Int×(List α×ay))} {k:Int} {xs:List α} {c:ay}
theorem QY (h:fJ y):fJ (ot y):=by unfold ot fJ;rw[wo];exact h
theorem J8:bV (ot y) k=(bV y k).map (·.1):=by
  induction y with
  |nil=>rfl
  |cons p y ih=>
   unfold ot at *
   rw[eR,lR,lR,ih]
   split<;>rfl
theorem J9:ot (dJ y k (xs,c))=dJ (ot y) k xs:=by
  induction y with
  |nil=>rfl
  |cons p y ih=>
   unfold ot at *
   rw[eR,dJ,dJ]
   repeat' split
   · rw[eR,ih]
   · rfl
   · rfl
theorem J_:ot (eF y k)=eF (ot y) k:=by
  unfold ot eF
  rw[wv]
  rfl
theorem FQ {u:Type} {x:List (Int×u)} (h:bV x k=none):eF x k=x:=by
  unfold eF
  rw[mJ]
  intro p hp
  simpa using rH.1 h p hp
theorem QZ {u:Type} {x:List (Int×u)} {a:u} (hs:fJ x):dJ (eF x k) k a=dJ x k a:=by
  induction x with
  |nil=>rfl
  |cons p x ih=>
   obtain⟨h1,h2⟩:=kX.1 hs
   have ih:=ih h2
   unfold eF at *
   rw[jK]
   by_cases h:p.1=k
   · simp only[h,wq,nk,gA,dV]
     rw[dJ,aC (by omega),aO h]
     have:x.filter (fun p=>!decide (p.1=k))=x:=by
       rw[mJ]
       intro q hq
       have:=h1 q hq
       simp only[gN,jb]
       omega
     rw[this]
     cases x with
     |nil=>rfl
     |cons q x=>
      have:=h1 q (by simp)
      rw[dJ,aC (by omega),aC (by omega)]
   · simp only[h,xG,uC,jl]
     rw[dJ,dJ,ih,aC h,aC h]
     split
     · rfl
     · have:x.filter (fun p=>!decide (p.1=k))=x:=by
         rw[mJ]
         intro q hq
         have:=h1 q hq
         simp only[gN,jb]
         omega
       rw[this]
theorem Q0 (hs:fJ y) (h:bV y k=some (xs,c)):(qf y).Perm (c++qf (eF y k)):=by
  induction y with
  |nil=>simp[bV] at h
  |cons p y ih=>
   obtain⟨h1,h2⟩:=kX.1 hs
   rw[lR] at h
   unfold qf eF at *
   rw[jK,eR,cH]
   by_cases hk:p.1=k
   · rw[aO hk] at h
     obtain⟨u,D,G⟩:=p
     simp only[fu,iM] at h
     obtain⟨rfl,rfl⟩:=h
     simp only at hk
     subst hk
     simp only[wq,nk,gA,dV]
     have:y.filter (fun p=>!decide (p.1=u))=y:=by
       rw[mJ]
       intro q hq
       have:=h1 q hq
       simp only[gN,jb]
       simp only at this
       omega
     rw[this]
   · rw[aC hk] at h
     simp only[hk,xG,uC,jl]
     rw[eR,cH]
     refine((ih h2 h).append_left p.2.2).trans ?_
     rw[←dm,←dm]
     exact List.perm_append_comm.append_right _
theorem Ka {x:List (Int×(List α×ay))} (h:bV x k=none):(qf (dJ x k (xs,c))).Perm (c++qf x):=by
  have:=(ED (k:=k) (a:=(xs,c)) (x:=x) (rH.1 h)).map (fun p=>p.2.2)
  unfold qf
  exact this.flatten
end
def nA {α:Type} (T:TypeId) (d:Kd α) (g:GH) (ks:List (Int×Value)) (x:List (Int×List α)) (F:ay):Prop:=∃y,ga (QX T d g) ks y∧x=ot y∧F.Perm (qf y)
def Kb {α:Type} (T:TypeId) (d:Kd α) (g:GH) (ks:List (Int×Value)) (x:List (Int×List α)) (k:Int) (F:ay):Prop:=
  (∀g' v xs c,aM g g'→aJ T d g' v xs c→nA T d g' (iZ ks k v) (dJ x k xs) (c++F))∧∀g',aM g g'→nA T d g' (kJ ks k) (eF x k) F
section
variable {α:Type} {T:TypeId} {d:Kd α} {g g':GH} {ks:List (Int×Value)} {x:List (Int×List α)} {F F' c:ay} {k:Int} {v:Value} {xs:List α}
theorem nA.mono (H:nA T d g ks x F) (hg:aM g g'):nA T d g' ks x F:=by
  obtain⟨y,h1,h2,h3⟩:=H
  exact⟨y,h1.mono fun _ _ h=>aJ.mono h hg,h2,h3⟩
theorem nA.nil:nA T d g [] ([]:List (Int×List α)) []:=⟨[],ga.nil,rfl,gO _⟩
theorem nA.iB (H:nA T d g ks x F) (k:Int):(fZ ks k=none∧bV x k=none∧Kb T d g ks x k F)∨
    ∃v xs c F',fZ ks k=some v∧bV x k=some xs∧aJ T d g v xs c∧F.Perm (c++F')∧Kb T d g ks x k F':=by
  obtain⟨y,h1,rfl,h3⟩:=H
  have hd:∀(xs:List α) (c:ay),(qf (dJ (eF y k) k (xs,c))).Perm (c++qf (eF y k)):=fun xs c=>Ka (by rw[IJ,aO rfl])
  rcases h1.iB k with ⟨e1,e2⟩|⟨v,⟨xs,c⟩,e1,e2,e3⟩
  · refine .inl ⟨e1,by rw[J8,e2];rfl,fun g2 v xs c hg hr=>⟨dJ y k (xs,c),ga.p5 (a:=(xs,c)) (h1.mono fun _ _ h=>aJ.mono h hg) hr,J9.symm,(h3.append_left c).trans (Ka e2).symm⟩,fun g2 hg=>⟨eF y k,(h1.mono fun _ _ h=>aJ.mono h hg).oS k,J_.symm,by rw[FQ e2];exact h3⟩⟩
  · refine .inr ⟨v,xs,c,qf (eF y k),e1,by rw[J8,e2];rfl,e3,h3.trans (Q0 h1.1 e2),fun g2 v xs c hg hr=>⟨dJ y k (xs,c),ga.p5 (a:=(xs,c)) (h1.mono fun _ _ h=>aJ.mono h hg) hr,J9.symm,?_⟩,fun g2 hg=>⟨eF y k,(h1.mono fun _ _ h=>aJ.mono h hg).oS k,J_.symm,gO _⟩⟩
    rw[←QZ h1.1]
    exact(hd xs c).symm
theorem nA.Q1 (H:nA T d g ks x F) (k:Int):∃u F',F.Perm (u++F')∧nA T d g (kJ ks k) (eF x k) F':=by
  rcases H.iB k with ⟨_,_,h⟩|⟨_,_,c,F',_,_,_,hp,h⟩
  · exact⟨[],F,gO _,h.2 g (aM.refl _)⟩
  · exact⟨c,F',hp,h.2 g (aM.refl _)⟩
end
def uZ {α:Type} (T:TypeId) (d:Kd α) (g:GH) (b:Nat) (x:List (Int×List α)) (c:ay):Prop:=∃es bf ks F,c=(b,.map es bf)::F∧cZ encI es bf ks∧nA T d g ks x F
def Q2 {α:Type} (T:TypeId) (d:Kd α) (g:GH) (a:List α) (v:Value):Prop:=av g T d v a
def ya {α:Type} (T:TypeId) (d:Kd α) (g:GH) (b:Nat) (x:List (Int×List α)):Prop:=qS (Q2 T d) g b x
section
variable {α:Type} {T:TypeId} {d:Kd α} {g g':GH} {b:Nat} {x y:List (Int×List α)} {c C:ay} {L:List ay} {h0 h:ax} {g0:GH} {S0:Nat→Prop}
theorem uZ.mono (H:uZ T d g b x c) (hg:aM g g'):uZ T d g' b x c:=by
  obtain⟨es,bf,ks,F,h1,h2,h3⟩:=H
  exact⟨es,bf,ks,F,h1,h2,h3.mono hg⟩
theorem ya.mono (H:ya T d g b x) (hg:aM g g'):ya T d g' b x:=qS.mono hg (fun _ _ h=>av.mono h hg) H
theorem Q3 {z:List (Int×(List α×ay))} {a:Int×(List α×ay)} (h:a∈z) {p:Nat×Obj} (hp:p∈a.2.2):p∈qf z:=xu.2 ⟨_,de.2 ⟨a,h,rfl⟩,hp⟩
theorem uZ.fY (H:uZ T d g b x c) (s:St h0 g0 S0 g (C::L) h) (hc:∀p∈c,p∈C):ya T d (dy g C) b x:=by
  obtain⟨es,bf,ks,F,rfl,h2,z,h3,rfl,h5⟩:=H
  refine⟨es,bf,ks,oK s.p9 (hc _ (.head _)),h2,QY h3.1,h3.2.1,?_,fun k v a G I=>?_⟩
  · have:(ot z).map (·.1)=z.map (·.1):=by unfold ot;rw[jg];rfl
    rw[this];exact h3.2.2.1
  · obtain⟨q,hq,e⟩:=de.1 I
    obtain⟨J,u,D⟩:=q
    simp only[iM] at e
    obtain⟨rfl,rfl⟩:=e
    have hr:aJ T d g v u D:=h3.2.2.2 _ v (u,D) G hq
    exact hr.lH s fun p hp=>hc p (.tail _ (h5.mem_iff.2 (Q3 hq hp)))
end
theorem St.u0 {h0 h:ax} {g0 g:GH} {S0:Nat→Prop} {L:List ay} {F c F':ay} (hp:F.Perm (c++F')) (s:St h0 g0 S0 g (F::L) h):St h0 g0 S0 g (c::F'::L) h:=
  St.qN (L:=F::L) (by rw[cH,cH,cH,←dm];exact hp.append_right _) s
theorem St.tw {h0 h:ax} {g0 g:GH} {S0:Nat→Prop} {L:List ay} {F c F':ay} (hp:F.Perm (c++F')) (s:St h0 g0 S0 g (c::F'::L) h):St h0 g0 S0 g (F::L) h:=
  St.qN (L:=c::F'::L) (by rw[cH,cH,cH,←dm];exact(hp.append_right _).symm) s
def mh (a b:Int):Int:=if a<b then -1 else if a>b then 1 else 0
def nB (a b:an):Int:=if Go.Op.bytesLess a b=true then -1 else if (Go.Op.bytesLess a b||a==b)=true then 0 else 1
theorem Q4 {a b:an} (h:Go.Op.bytesLess a b=true): -1=nB a b:=by rw[nB,aO h]
theorem Q5 {a b:an} (h:Go.Op.bytesLess a b=false) (h2:(Go.Op.bytesLess a b||a==b)=true):0=nB a b:=by rw[nB,aC (kH.1 h),aO h2]
theorem Q6 {a b:an} (h:Go.Op.bytesLess a b=false) (h2:(Go.Op.bytesLess a b||a==b)=false):1=nB a b:=by rw[nB,aC (kH.1 h),aC (kH.1 h2)]
def ko:List Int→Int
  |[]=>0
  |x::l=>if x=0 then ko l else x
def mW (a b:ak):Int:=ko [nB a.af b.af,mh a.Kind b.Kind,mh a.Client b.Client]
theorem Q7 {l:List Int} {i x:Int} (h:ko l=ko (l.drop i.toNat)) (h0:0≤i) (hx:l[i.toNat]?=some x) (hz:x=0):ko l=ko (l.drop (i+1).toNat):=by
  rw[h,drop_at hx,toNat_succ h0,ko,aO hz]
theorem Q8 {l:List Int} {i x:Int} (h:ko l=ko (l.drop i.toNat)) (hx:l[i.toNat]?=some x) (hz:¬(x=0)):x=ko l:=by
  rw[h,drop_at hx,ko,aC hz]
theorem Q9 {l:List Int} {i:Int} (h:ko l=ko (l.drop i.toNat)) (hi:¬(i<(l.length:Int))):0=ko l:=by
  rw[h,mz (by omega)];rfl
def gF (a b:ak):Bool:=if a.af≠b.af then Go.Op.bytesLess a.af b.af else if a.Kind≠b.Kind then decide (a.Kind<b.Kind) else decide (a.Client<b.Client)
def cnt (c:Int):List ak→Nat
  |[]=>0
  |x::xs=>(if x.Client=c then 1 else 0)+cnt c xs
theorem E3 {c n i:Int} {l:List ak} {x:ak} (h:n+(cnt c (l.drop i.toNat):Int)=cnt c l) (h0:0≤i) (hx:l[i.toNat]?=some x) (hc:x.Client=c):n+1+(cnt c (l.drop (i+1).toNat):Int)=cnt c l:=by
  rw[drop_at hx,cnt,aO hc] at h;rw[toNat_succ h0];omega
theorem E4 {c n i:Int} {l:List ak} {x:ak} (h:n+(cnt c (l.drop i.toNat):Int)=cnt c l) (h0:0≤i) (hx:l[i.toNat]?=some x) (hc:¬(x.Client=c)):n+(cnt c (l.drop (i+1).toNat):Int)=cnt c l:=by
  rw[drop_at hx,cnt,aC hc] at h;rw[toNat_succ h0];omega
theorem ri {c n i:Int} {l:List ak} (h:n+(cnt c (l.drop i.toNat):Int)=cnt c l) (hi:¬(i<(l.length:Int))):n=(cnt c l:Int):=by
  rw[mz (by omega)] at h;simpa[cnt] using h
def jD (w:ak):Bool:=decide (w.Client≥0)&&(decide (w.Client<8)&&((w.Kind==1||w.Kind==2)&&cX w.af==0))
def qg (u:List Int) (w:ak):Bool:=u.any fun c=>decide (c=w.Client)
def gl (kind:Int) (dN:List an) (w:ak):Bool:=dN.any (fun p=>decide (p=w.af))&&decide (w.Kind=kind)
section
variable {kind:Int} {dN:List an} {l:List ak} {i k:Int} {UJ:Bool} {x:ak}
end
theorem Av (a:ak):gF a a=false:=by simp[gF]
theorem rj {a b:ak} (h:a.af≠b.af):gF a b=Go.Op.bytesLess a.af b.af:=by unfold gF;rw[aO h]
theorem rq {a b:ak} (h:a.af=b.af) (k:a.Kind≠b.Kind):gF a b=decide (a.Kind<b.Kind):=by unfold gF;rw[aC (fun n=>n h),aO k]
theorem wR {a b:ak} (h:a.af=b.af) (k:a.Kind=b.Kind):gF a b=decide (a.Client<b.Client):=by unfold gF;rw[aC (fun n=>n h),aC (fun n=>n k)]
theorem Cp {a b c:ak} (h:gF a b=true) (k:gF b c=true):gF a c=true:=by
  by_cases h1:a.af=b.af
  · by_cases k1:b.af=c.af
    · by_cases h2:a.Kind=b.Kind
      · by_cases k2:b.Kind=c.Kind
        · rw[wR h1 h2,cQ] at h
          rw[wR k1 k2,cQ] at k
          rw[wR (h1.trans k1) (h2.trans k2),cQ];omega
        · rw[rq k1 k2,cQ] at k
          rw[rq (h1.trans k1) (by rw[h2];exact k2),cQ,h2];exact k
      · rw[rq h1 h2,cQ] at h
        by_cases k2:b.Kind=c.Kind
        · rw[rq (h1.trans k1) (by rw[←k2];exact h2),cQ,←k2];exact h
        · rw[rq k1 k2,cQ] at k
          rw[rq (h1.trans k1) (by omega),cQ];omega
    · rw[rj k1] at k
      rw[rj (by rw[h1];exact k1),h1];exact k
  · rw[rj h1] at h
    by_cases k1:b.af=c.af
    · rw[rj (by rw[←k1];exact h1),←k1];exact h
    · rw[rj k1] at k
      have:=zV h k
      rw[rj (DY this)];exact this
theorem Kc {a b:ak} (h:a.af=b.af) (k:a.Kind=b.Kind) (c:a.Client=b.Client):a=b:=by
  obtain⟨a0,a1,a2⟩:=a;obtain⟨b0,b1,b2⟩:=b
  simp only at h k c
  rw[h,k,c]
theorem Q_ {a b:ak} (h:gF a b=false) (k:gF b a=false):a=b:=by
  by_cases h1:a.af=b.af
  · by_cases h2:a.Kind=b.Kind
    · rw[wR h1 h2,jb] at h
      rw[wR h1.symm h2.symm,jb] at k
      exact Kc h1 h2 (by omega)
    · rw[rq h1 h2,jb] at h
      rw[rq h1.symm (fun e=>h2 e.symm),jb] at k
      omega
  · rw[rj h1] at h
    rw[rj (fun e=>h1 e.symm)] at k
    exact absurd (BI h k) h1
theorem Ra {a b:ak} (h:gF a b=true):gF b a=false:=by
  cases hk:gF b a with
  |false=>rfl
  |true=>have:=Cp h hk;rw[Av] at this;cases this
theorem Ke (a b:ak):(gF a b=true∧mW a b= -1)∨(a=b∧mW a b=0)∨(gF b a=true∧mW a b=1):=by
  unfold mW
  by_cases h1:a.af=b.af
  · have e1:nB a.af b.af=0:=by simp[nB,h1,xU]
    by_cases h2:a.Kind=b.Kind
    · have e2:mh a.Kind b.Kind=0:=by simp[mh,h2]
      rw[e1,e2,wR h1 h2,wR h1.symm h2.symm]
      simp only[ko,jl]
      unfold mh
      by_cases h3:a.Client<b.Client
      · left;simp[h3]
      · by_cases h4:b.Client<a.Client
        · right;right;simp[h3,h4]
        · right;left
          exact⟨Kc h1 h2 (by omega),by simp[h3,h4]⟩
    · rw[e1,rq h1 h2,rq h1.symm (fun e=>h2 e.symm)]
      simp only[ko,jl]
      unfold mh
      by_cases h3:a.Kind<b.Kind
      · left;simp[h3]
      · right;right
        have h4:b.Kind<a.Kind:=by omega
        simp[h3,h4]
  · rw[rj h1,rj (fun e=>h1 e.symm)]
    unfold nB
    cases h:Go.Op.bytesLess a.af b.af with
    |true=>left;simp[ko]
    |false=>
     right;right
     have:Go.Op.bytesLess b.af a.af=true:=by
       cases hk:Go.Op.bytesLess b.af a.af with
       |true=>rfl
       |false=>exact absurd (BI h hk) h1
     have hne:(a.af==b.af)=false:=by simpa using h1
     simp[this,hne,ko]
theorem E5 {a b:ak}:mW a b<0↔gF a b=true:=by
  rcases Ke a b with ⟨h,e⟩|⟨h,e⟩|⟨h,e⟩
  · simp[h,e]
  · subst h;simp[e,Av]
  · simp[e,Ra h]
theorem Kf {a b:ak}:mW a b=0↔a=b:=by
  rcases Ke a b with ⟨h,e⟩|⟨h,e⟩|⟨h,e⟩
  · rw[e];simp;intro hab;subst hab;rw[Av] at h;cases h
  · rw[e];simp[h]
  · rw[e];simp;intro hab;subst hab;rw[Av] at h;cases h
def lT (xs:List ak):Prop:=xs.Pairwise fun a b=>gF a b=true
theorem lT.nil:lT []:=List.Pairwise.nil
theorem lT.filter {xs:List ak} (h:lT xs) (q:ak→Bool):lT (xs.filter q):=List.Pairwise.filter q h
theorem lT.at {xs:List ak} (h:lT xs) {i j:Nat} {x y:ak} (u:i<j) (hx:xs[i]?=some x) (hy:xs[j]?=some y):gF x y=true:=by
  obtain⟨hi,rfl⟩:=fT.1 hx
  obtain⟨hj,rfl⟩:=fT.1 hy
  exact Bu.1 h i j hi hj u
def Lo (xs:List ak) (w:ak) (i:Int):Prop:=∀(k:Nat) x,(k:Int)<i→xs[k]?=some x→gF x w=true
def Hi (xs:List ak) (w:ak) (i:Int):Prop:=∀(k:Nat) x,i≤(k:Int)→xs[k]?=some x→gF x w=false
theorem Rb (xs:List ak) (w:ak):Lo xs w 0:=fun k x h=>by omega
theorem Rc (xs:List ak) (w:ak):Hi xs w xs.length:=fun k x h hx=>by have:=(fT.1 hx).1;omega
theorem Re {xs:List ak} {w:ak} (hs:lT xs) {i m:Int} {x:ak} (h:Lo xs w i) (h0:0≤m) (hx:xs[m.toNat]?=some x) (hc:mW x w<0):Lo xs w (m+1):=by
  intro k y hk hy
  rcases pV k m.toNat with hl|hl
  · exact Cp (hs.at hl hy hx) (E5.1 hc)
  · have:k=m.toNat:=by omega
    subst this
    rw[hx] at hy;cases hy;exact E5.1 hc
theorem Rf {xs:List ak} {w:ak} (hs:lT xs) {m:Int} {x:ak} (h0:0≤m) (hx:xs[m.toNat]?=some x) (hc:¬(mW x w<0)):Hi xs w m:=by
  intro k y hk hy
  have u:gF x w=false:=by cases h:gF x w with|false=>rfl|true=>exact absurd (E5.2 h) hc
  rcases pV m.toNat k with hl|hl
  · cases h:gF y w with
    |false=>rfl
    |true=>have:=Cp (hs.at hl hx hy) h;rw[u] at this;cases this
  · have:k=m.toNat:=by omega
    subst this
    rw[hx] at hy;cases hy;exact u
def ou (xs:List ak) (w:ak):Nat:=(xs.takeWhile fun x=>gF x w).length
def mX (xs:List ak) (w:ak):Bool:=decide (w∈xs)
theorem Kg {xs:List ak} {w:ak} {i:Int} (h0:0≤i) (hn:i≤xs.length) (hl:Lo xs w i) (hh:Hi xs w i):i=(ou xs w:Int):=by
  have h1:∀x∈xs.take i.toNat,gF x w=true:=by
    intro x hx
    obtain⟨k,hk⟩:=qa.1 hx
    rw[uv] at hk
    split at hk
    · exact hl k x (by omega) hk
    · cases hk
  unfold ou
  have h2:(xs.takeWhile fun x=>gF x w)=xs.take i.toNat:=by
    conv=>lhs;rw[←od i.toNat xs]
    rw[List.takeWhile_append_of_pos (by simpa using h1)]
    cases hd:xs.drop i.toNat with
    |nil=>simp
    |cons y ys=>
     have:xs[i.toNat]?=some y:=by
       have:=congrArg (fun l=>l[0]?) hd
       simpa using this
     rw[J5 (by simp[hh i.toNat y (by omega) this])]
     simp
  rw[h2,e_,kW (by omega)]
  omega
theorem Rg {xs:List ak} {w x:ak} {i:Int} (hx:xs[i.toNat]?=some x) (hc:mW x w=0):mX xs w=true:=by
  rw[Kf] at hc
  subst hc
  exact eu (cj hx)
theorem Kh {xs:List ak} {w:ak} {i:Int} (h0:0≤i) (hs:lT xs) (hl:Lo xs w i) (hh:Hi xs w i) (hi:∀x,xs[i.toNat]?=some x→x≠w):mX xs w=false:=by
  refine gb fun hm=>?_
  obtain⟨k,hk⟩:=qa.1 hm
  rcases Int.lt_or_le k i with h|h
  · have:=hl k w h hk;rw[Av] at this;cases this
  · rcases pV i.toNat k with h'|h'
    · have hlt:=(fT.1 hk).1
      have h1:xs[i.toNat]?=some xs[i.toNat]:=oG (by omega)
      have h2:=hh i.toNat _ (by omega) h1
      rw[hs.at h' h1 hk] at h2;cases h2
    · have:k=i.toNat:=by omega
      subst this
      exact hi w hk rfl
theorem Rh {xs:List ak} {w x:ak} {i:Int} {b:Bool} (h0:0≤i) (hs:lT xs) (hl:Lo xs w i) (hh:Hi xs w i) (hx:xs[i.toNat]?=some x) (hb:b=(mW x w==0)):b=mX xs w:=by
  subst hb
  by_cases hc:mW x w=0
  · rw[Rg hx hc];simpa using hc
  · rw[Kh h0 hs hl hh fun y hy=>by rw[hx] at hy;cases hy;exact fun e=>hc (Kf.2 e)];simpa using hc
theorem Ri {xs:List ak} {w:ak} {i:Int} (h0:0≤i) (hs:lT xs) (hl:Lo xs w i) (hh:Hi xs w i) (hn:¬(i<(xs.length:Int))):false=mX xs w:=by
  rw[Kh h0 hs hl hh fun y hy=>by have:=(fT.1 hy).1;omega]
def nV {α:Type} (xs:List α) (i:Int) (ys:List α):List α:=xs.take i.toNat++ys++xs.drop i.toNat
theorem Rj {α:Type} {xs ys:List α} {i:Int} (h:(ys.length:Int)=0):xs=nV xs i ys:=by
  have:ys=[]:=ju (by omega)
  subst this;simp[nV]
theorem Rk {α:Type} {xs ys:List α} {i:Int} (h:i=xs.length):xs++ys=nV xs i ys:=by
  subst h;simp[nV]
theorem E6 {α:Type} {a b c:List α} (h:c.length≤b.length):putAt (a++b) a.length c=a++c++b.drop c.length:=by
  simp[putAt,zk]
theorem E7 {α:Type} {ys:List α} {k:Nat} (h:ys.length≤k):ys.take k=ys:=fC h
theorem Rl {α:Type} {xs ys:List α} {z:α} {i k m:Int} (h0:0≤i) (hi:i≤xs.length) (hm:m=i+ys.length) (hk:k=xs.length+ys.length-i):
    putAt (putAt (xs.take i.toNat++List.replicate k.toNat z) i.toNat (ys.take ((xs.take i.toNat++List.replicate k.toNat z).length-i.toNat))) m.toNat
      ((xs.drop i.toNat).take ((putAt (xs.take i.toNat++List.replicate k.toNat z) i.toNat (ys.take ((xs.take i.toNat++List.replicate k.toNat z).length-i.toNat))).length-m.toNat))=nV xs i ys:=by
  subst hm
  subst hk
  have e1:(xs.take i.toNat).length=i.toNat:=by rw[e_];omega
  have e2:(xs.take i.toNat++List.replicate (xs.length+ys.length-i:Int).toNat z).length-i.toNat=(xs.length+ys.length-i:Int).toNat:=by rw[cA,e1,p7];omega
  have I:ys.take ((xs.take i.toNat++List.replicate (xs.length+ys.length-i:Int).toNat z).length-i.toNat)=ys:=by rw[e2];exact E7 (ys:=ys) (by omega)
  rw[I]
  have e3:=E6 (a:=xs.take i.toNat) (b:=List.replicate (xs.length+ys.length-i:Int).toNat z) (c:=ys) (by simp;omega)
  rw[e1] at e3
  rw[e3,List.drop_replicate]
  have u:(xs.take i.toNat++ys).length=(i+ys.length:Int).toNat:=by rw[cA,e1];omega
  have D:(xs.drop i.toNat).length=xs.length-i.toNat:=iP
  have J:(xs.take i.toNat++ys++List.replicate ((xs.length+ys.length-i:Int).toNat-ys.length) z).length-(i+ys.length:Int).toNat=xs.length-i.toNat:=by
    rw[cA,u,p7];omega
  rw[J,E7 (ys:=xs.drop i.toNat) (by omega)]
  have G:=E6 (a:=xs.take i.toNat++ys) (b:=List.replicate ((xs.length+ys.length-i:Int).toNat-ys.length) z) (c:=xs.drop i.toNat) (by rw[D,p7];omega)
  rw[u] at G
  have O:(List.replicate ((xs.length+ys.length-i:Int).toNat-ys.length) z).drop (xs.drop i.toNat).length=[]:=mz (by rw[p7,D];omega)
  rw[G,O,dX]
  rfl
theorem Rm {α:Type} {xs ys u:List α} {i m:Int} (h0:0≤i) (hi:i≤xs.length) (hm:m=i+ys.length) (hz:u.length=xs.length+ys.length) {k:Nat} (ht:u.take xs.length=xs.take k) (hk:xs.length≤k):
    putAt (putAt u m.toNat ((u.drop i.toNat).take (u.length-m.toNat))) i.toNat (ys.take ((putAt u m.toNat ((u.drop i.toNat).take (u.length-m.toNat))).length-i.toNat))=nV xs i ys:=by
  subst hm
  rw[fC hk] at ht
  have e1:(u.drop i.toNat).take (u.length-(i+ys.length:Int).toNat)=xs.drop i.toNat:=by
    rw[hz,show xs.length+ys.length-(i+ys.length:Int).toNat=xs.length-i.toNat from by omega,←ux,ht]
  rw[e1]
  have e2:putAt u (i+ys.length:Int).toNat (xs.drop i.toNat)=u.take (i+ys.length:Int).toNat++xs.drop i.toNat:=by
    have:u.drop ((i+ys.length:Int).toNat+(xs.drop i.toNat).length)=[]:=mz (by rw[iP,hz];omega)
    unfold putAt
    rw[this,dX]
  rw[e2]
  have e3:u.take (i+ys.length:Int).toNat=xs.take i.toNat++(u.drop i.toNat).take ys.length:=by
    rw[show(i+ys.length:Int).toNat=i.toNat+ys.length from by omega,Bl]
    congr 1
    rw[←ht,uy,kW (by omega)]
  have G:(xs.take i.toNat).length=i.toNat:=by rw[e_];omega
  have D:((u.drop i.toNat).take ys.length).length=ys.length:=by rw[e_,iP,hz];omega
  rw[e3,dm]
  have J:(xs.take i.toNat++((u.drop i.toNat).take ys.length++xs.drop i.toNat)).length-i.toNat=xs.length+ys.length-i.toNat:=by
    rw[cA,G,cA,D,iP];omega
  rw[J,E7 (ys:=ys) (by omega)]
  have I:=E6 (a:=xs.take i.toNat) (b:=(u.drop i.toNat).take ys.length++xs.drop i.toNat) (c:=ys) (by rw[cA,D];omega)
  rw[G] at I
  rw[I,zk,D,Nat.sub_self,mz (by omega),eN,zq]
  rfl
theorem wS {α:Type} {q:α→Bool}:∀{l:List α},fm q l≠ -1→(l.take (fm q l).toNat).filter q=[]∧(∃x,l[(fm q l).toNat]?=some x∧q x=true∧l.find? q=some x)∧0≤fm q l∧fm q l<l.length
  |[],h=>by simp[fm] at h
  |x::xs,h=>by
   unfold fm at h ⊢
   by_cases hq:q x=true
   · simp only[hq,jl]
     refine⟨by simp,⟨x,by simp,hq,by simp[hq]⟩,by omega,by simp⟩
   · simp only[hq,dV] at h ⊢
     by_cases hn:fm q xs<0
     · rw[aO hn] at h;exact absurd rfl h
     · rw[aC hn]
       have hg:=zR q xs
       obtain⟨h1,⟨y,h2,h3,h4⟩,h5,h6⟩:=wS (q:=q) (l:=xs) (by omega)
       simp only[gA,dV]
       rw[toNat_succ h5]
       refine⟨by simp[hq,h1],⟨y,by simpa using h2,h3,by simp[hq,h4]⟩,by omega,by simp;omega⟩
theorem Aw {α:Type} {q:α→Bool}:∀{l:List α},fm q l= -1→l.filter q=[]∧l.find? q=none
  |[],_=>by simp
  |x::xs,h=>by
   unfold fm at h
   by_cases hq:q x=true
   · simp[hq] at h
   · simp only[hq,dV] at h
     by_cases hn:fm q xs<0
     · have hg:=zR q xs
       obtain⟨h1,h2⟩:=Aw (q:=q) (l:=xs) (by omega)
       simp only[zL] at hq
       simp only[jK,zD,hq,h1,h2,gA,dV,and_self]
     · rw[aC hn] at h;omega
theorem E8 {α:Type} {q:α→Bool}:∀{l:List α},l.filter q=[]→l.filter (fun x=>!q x)=l
  |[],_=>rfl
  |x::xs,h=>by
   cases hq:q x with
   |true=>simp[hq] at h
   |false=>simp only[jK,hq,gA,dV,uC,jl] at h ⊢;rw[E8 h]
theorem Rn {α:Type} {q:α→Bool} {l out:List α} {i:Int} {x:α} (H:findAt q l i) (hx:l[i.toNat]?=some x) (hq:q x=true) (h0:0≤i):out++[x]=out++(l.find? q).toList:=by
  have hi:=wB H hx hq
  obtain⟨_,⟨y,h2,_,h4⟩,_⟩:=wS (q:=q) (l:=l) (by omega)
  rw[←hi,hx] at h2
  cases h2
  rw[h4];rfl
theorem Ro {α:Type} {q:α→Bool} {l out:List α} {i:Int} (H:findAt q l i) (hi:¬(i<(l.length:Int))):out=out++(l.find? q).toList:=by
  rw[(Aw (wC H hi).symm).2];simp
structure ru (xs ys o2 out:List ak) (q:ak→Bool) (i j:Int):Prop where
  len:ys.length=xs.length
  low:ys.take i.toNat=(xs.take j.toNat).filter fun w=>!q w
  high:ys.drop j.toNat=xs.drop j.toNat
  out:o2=out++(xs.take j.toNat).filter q
theorem Rp {xs out:List ak} {q:ak→Bool} (h:¬(fm q xs= -1)):ru xs xs (out++(xs.find? q).toList) out q (fm q xs) (fm q xs+1):=by
  obtain⟨h1,⟨x,h2,h3,h4⟩,h5,h6⟩:=wS h
  refine⟨rfl,?_,rfl,?_⟩
  · rw[toNat_succ h5,fG h2,nP,E8 h1];simp[h3]
  · rw[toNat_succ h5,fG h2,nP,h1,h4];simp[h3]
section
variable {xs ys o2 out:List ak} {q:ak→Bool} {i j:Int} {x y:ak}
theorem ru.at (H:ru xs ys o2 out q i j) (hx:ys[j.toNat]?=some x):xs[j.toNat]?=some x:=by
  have:=congrArg (fun l=>l[0]?) H.high
  simp only[xJ,lG] at this
  rw[←this];exact hx
theorem Rq (H:ru xs ys o2 out q i j) (h0:0≤i) (u:i<j) (hx:ys[j.toNat]?=some x) (hq:q x=false):ru xs (ys.set i.toNat x) o2 out q (i+1) (j+1):=by
  have hx':=H.at hx
  have hj:=(fT.1 hx).1
  refine⟨by rw[List.length_set];exact H.len,?_,?_,?_⟩
  · rw[toNat_succ h0,toNat_succ (by omega),fG (x:=x) (by rw[List.getElem?_set_self (by omega)]),List.take_set_of_le (iE _),H.low,fG hx',nP]
    simp[hq]
  · rw[List.drop_set_of_lt (by omega),toNat_succ (by omega)]
    have:=congrArg (List.drop 1) H.high
    simpa using this
  · rw[H.out,toNat_succ (by omega),fG hx',nP];simp[hq]
theorem Rr (H:ru xs ys o2 out q i j) (h0:0≤j) (hx:ys[j.toNat]?=some x) (hq:q x=true):ru xs ys (o2++[x]) out q i (j+1):=by
  have hx':=H.at hx
  refine⟨H.len,?_,?_,?_⟩
  · rw[H.low,toNat_succ h0,fG hx',nP];simp[hq]
  · rw[toNat_succ h0]
    have:=congrArg (List.drop 1) H.high
    simpa using this
  · rw[H.out,toNat_succ h0,fG hx',nP];simp[hq]
theorem Ki (H:ru xs ys o2 out q i j) (hj:¬(j<(ys.length:Int))) (h0:0≤i) (hi:i≤ys.length) (u:List ak):(putAt ys i.toNat u).take i.toNat=xs.filter (fun w=>!q w)∧o2=out++xs.filter q:=by
  have e:=H.len
  have hl:=H.low
  have ho:=H.out
  have ht:xs.take j.toNat=xs:=fC (by omega)
  rw[ht] at hl ho
  refine⟨?_,ho⟩
  rw[←hl]
  unfold putAt
  rw[dm,zl (by rw[e_];omega)]
end
theorem Rs {xs ys o2 out:List ak} {q:ak→Bool} {i j:Int} (H:ru xs ys o2 out q i j) (h0:0≤i):o2.length≤out.length+xs.length:=by
  rw[H.out,cA]
  have:=l7 q (xs.take j.toNat)
  have:=List.length_take_le' j.toNat xs
  omega
theorem Rt (xs:List ak) (w:ak):ou xs w≤xs.length:=(List.takeWhile_sublist _).length_le
theorem Ru (u:List Int) (w:ak):(u.any fun z=>decide (w.Client=z))=qg u w:=by
  unfold qg;congr 1;funext z;rw[kQ];simp[zJ]
theorem Rv {kind:Int} {dN:List an} {w:ak} (h:w.Kind=kind):(dN.any fun z=>decide (w.af=z))=gl kind dN w:=by
  unfold gl
  rw[eu h,mK]
  congr 1;funext z;rw[kQ];simp[zJ]
theorem Rw {kind:Int} {dN:List an} {w:ak} (h:¬(w.Kind=kind)):false=gl kind dN w:=by
  unfold gl
  rw[gb h,x4]
def nW (xs:List ak) (w:ak):Int:=if jD w=false then 90 else if mX xs w=true then 0 else if (cnt w.Client xs:Int)≥8 then 104 else 0
def nX (xs:List ak) (w:ak):List ak:=if jD w=false then xs else if mX xs w=true then xs else if (cnt w.Client xs:Int)≥8 then xs else nV xs (ou xs w) [w]
section
variable {l:List ak} {i:Int} {x y:ak}
end
abbrev ja:=List (Int×List ak)
structure Sp where
  au:List ag
  aN:List ak
  book:gx
  aA:Int
  count:Int
  events:ja
  aR:List (Int×jA)
def mL:Sp:=⟨[⟨[47],[],0, -1,0,0⟩],[],[],0,0,[],[]⟩
def yb (e:ja) (w:ak):ja:=dJ e w.Client ((bV e w.Client).getD []++[w])
def kz (e:ja) (ws:List ak):ja:=ws.foldl yb e
def lu (s:Sp) (kind:Int) (dN:List aQ):Sp:=
  {s with aN:=s.aN.filter (fun w=>!gl kind dN w),events:=kz s.events (s.aN.filter (gl kind dN))}
def pE (s:Sp) (p:aQ):Sp:=lu (lu s 1 [p]) 2 [parentOf p]
section
variable {e f:ja} {ws:List ak} {w:ak} {i:Int} {s:Sp}
theorem Kj (h:f=kz e (ws.take i.toNat)) (h0:0≤i) (hx:ws[i.toNat]?=some w):dJ f w.Client ((bV f w.Client).getD []++[w])=kz e (ws.take (i+1).toNat):=by
  unfold kz at *
  rw[toNat_succ h0,fG hx,wQ,←h]
  rfl
theorem Rx (h:f=kz e (ws.take i.toNat)) (hi:¬i<(ws.length:Int)):f=kz e ws:=by
  rw[fC (by omega)] at h
  exact h
end
def cV (e:ja) (c:Int):List ak:=(bV e c).getD []
def ry (ws:List ak) (e:ja):Prop:=∀c,(ws.filter fun w=>decide (w.Client=c)).length+(cV e c).length≤8
section
variable {e f:ja} {ws vs xs:List ak} {w:ak} {i c:Int} {s:Sp} {kind:Int} {dN:List aQ}
theorem Kk (h:f=kz e (ws.take i.toNat)) (h0:0≤i) (hx:ws[i.toNat]?=some w) (hf:bV f w.Client=none):dJ f w.Client ([]++[w])=kz e (ws.take (i+1).toNat):=by
  have:=Kj h h0 hx
  rwa[hf] at this
theorem Kl (h:f=kz e (ws.take i.toNat)) (h0:0≤i) (hx:ws[i.toNat]?=some w) (hf:bV f w.Client=some xs):dJ f w.Client (xs++[w])=kz e (ws.take (i+1).toNat):=by
  have:=Kj h h0 hx
  rwa[hf] at this
theorem Ry:cV (yb e w) c=cV e c++(if w.Client=c then [w] else []):=by
  unfold cV yb
  rw[n9]
  by_cases h:w.Client=c
  · subst h;simp
  · rw[aC h,aC h,dX]
theorem vv:∀(ws:List ak) (e:ja),cV (kz e ws) c=cV e c++ws.filter fun w=>decide (w.Client=c)
  |[],e=>by simp[kz]
  |w::ws,e=>by
   have:=vv ws (yb e w)
   unfold kz at *
   rw[nr,this,Ry,jK,dm]
   by_cases h:w.Client=c<;>simp[h]
theorem Rz (Q:ry vs e) (he:f=kz e ((vs.filter (gl kind dN)).take i.toNat)) (c:Int):(cV f c).length≤8:=by
  have h1:=Q c
  rw[he,vv,cA]
  have h2:=(E2 (fun w:ak=>decide (w.Client=c)) ((List.take_sublist i.toNat (vs.filter (gl kind dN))).trans mM)).length_le
  omega
theorem Km (Q:ry vs e) (he:f=kz e ((vs.filter (gl kind dN)).take i.toNat)) (hf:bV f c=some xs):xs.length≤8:=by
  have:=Rz Q he c
  unfold cV at this
  rwa[hf] at this
theorem ry.lq (Q:ry vs e) (kind:Int) (dN:List aQ):ry (vs.filter (fun w=>!gl kind dN w)) (kz e (vs.filter (gl kind dN))):=by
  intro c
  have h1:=Q c
  rw[vv,cA]
  have:∀l:List ak,((l.filter (fun w=>!gl kind dN w)).filter fun w=>decide (w.Client=c)).length+((l.filter (gl kind dN)).filter fun w=>decide (w.Client=c)).length=(l.filter fun w=>decide (w.Client=c)).length:=by
    intro l
    induction l with
    |nil=>rfl
    |cons w l ih=>by_cases h1:gl kind dN w<;>by_cases h2:w.Client=c<;>simp[h1,h2] at ih ⊢<;>omega
  have:=this vs
  omega
end
structure eg (s:Sp):Prop where
  tree:gj s.au
  wl:s.aN.length≤1000
  ws:lT s.aN
  book:gS s.book
  quo:ry s.aN s.events
def jG (s:Sp) (p:aQ):Sp:=pE {s with au:=(f_ s.au p (-1)).1} p
def oB (s:Sp) (c:Int):Sp:={s with aN:=s.aN.filter (fun w=>!qg [c] w),events:=eF s.events c,book:=ia (qd [c]) s.book}
def iV (s:Sp) (c:Int):Sp:=(gw s.au [c]).foldl jG (oB s c)
def jc (s:Sp) (cs:List Int):Sp:=cs.foldl iV s
section
variable {s x y:Sp} {p:aQ} {c i q:Int} {ns:List ag} {cs:List Int} {ps:List aQ}
theorem eg.lq (H:eg s) (kind:Int) (dN:List aQ):eg (lu s kind dN):=
  ⟨H.tree,bQ (l7 _ _) H.wl,H.ws.filter _,H.book,H.quo.lq kind dN⟩
theorem eg.qv (H:eg s) (p:aQ):eg (pE s p):=(H.lq _ _).lq _ _
theorem gj.sub (H:gj ns) {ms:List ag} (h:ms.Sublist ns):gj ms:=⟨bQ h.length_le H.1,fun n hn=>H.2 n (h.mem hn)⟩
theorem gj.drop (H:gj ns) (p:aQ) (bO:Int):gj (f_ ns p bO).1:=by
  unfold f_
  repeat' split
  all_goals first|exact H|exact H.sub mM
theorem eg.tr (H:eg s) (h:gj ns):eg {s with au:=ns}:=⟨h,H.wl,H.ws,H.book,H.quo⟩
theorem eg.jG (H:eg s) (p:aQ):eg (jG s p):=(H.tr (H.tree.drop p _)).qv p
theorem eg.pF (H:eg s):∀ps:List aQ,eg (ps.foldl Sw.jG s):=fun ps=>by
  induction ps generalizing s with
  |nil=>exact H
  |cons p ps ih=>exact ih (H.jG p)
theorem nq {e:ja}:cV (eF e c) i=if c=i then [] else cV e i:=by
  unfold cV
  rw[IJ]
  split<;>rfl
theorem eg.left (H:eg s) (c:Int):eg (oB s c):=by
  refine⟨H.tree,bQ (l7 _ _) H.wl,H.ws.filter _,H.book.left _,fun i=>?_⟩
  have h1:=H.quo i
  have h2:=(E2 (fun w:ak=>decide (w.Client=i)) (mM (p:=fun w=>!qg [c] w) (l:=s.aN))).length_le
  show _+(cV (eF s.events c) i).length≤8
  rw[nq]
  split
  · simp only[dU];unfold oB;simp only;omega
  · unfold oB;simp only;omega
theorem eg.iV (H:eg s) (c:Int):eg (iV s c):=(H.left c).pF _
theorem eg.oC (H:eg s):∀cs:List Int,eg (jc s cs):=fun cs=>by
  unfold jc
  induction cs generalizing s with
  |nil=>exact H
  |cons c cs ih=>exact ih (H.iV c)
theorem RA (h:x=jc s (cs.take i.toNat)) (h0:0≤i) (hc:cs[i.toNat]?=some c):Sw.iV x c=jc s (cs.take (i+1).toNat):=by
  rw[toNat_succ h0,fG hc,h]
  unfold jc
  rw[wQ]
  rfl
theorem RB (h:x=jc s (cs.take i.toNat)) (hi:¬i<(cs.length:Int)):x=jc s cs:=by
  rw[fC (by omega)] at h
  exact h
theorem RC (h:y=(ps.take q.toNat).foldl Sw.jG x) (h0:0≤q) (hp:ps[q.toNat]?=some p):Sw.jG y p=(ps.take (q+1).toNat).foldl Sw.jG x:=by
  rw[toNat_succ h0,fG hp,h,wQ]
  rfl
theorem Kn (h:y=(ps.take q.toNat).foldl Sw.jG x) (hi:¬q<(ps.length:Int)):y=ps.foldl Sw.jG x:=by
  rw[fC (by omega)] at h
  exact h
theorem Ko (H:gj ns) (h:p∈gw ns cs):p.length≤64:=by
  unfold gw at h
  obtain⟨n,hn,rfl⟩:=de.1 (DE.1 h)
  exact(H.2 n (fB.1 hn).1).1
theorem RD (H:gj ns):(gw ns cs).length≤1000:=by
  unfold gw
  rw[GV,d_]
  exact bQ (l7 _ _) H.1
end
def jO (s:Sp) (w:ak):Int:=if w∈s.aN then 0 else if (cnt w.Client s.aN:Int)+(cV s.events w.Client).length≥8 then 104 else nW s.aN w
def ug (s:Sp) (w:ak):List ak:=if w∈s.aN then s.aN else if (cnt w.Client s.aN:Int)+(cV s.events w.Client).length≥8 then s.aN else nX s.aN w
def mN (s:Sp) (w:ak):Sp:={s with aN:=ug s w}
section
variable {s x y:Sp} {w z:ak} {i n:Int} {ws:List ak}
theorem Kp (c:Int):∀ws:List ak,cnt c ws=(ws.filter fun w=>decide (w.Client=c)).length
  |[]=>rfl
  |w::ws=>by
   have:=Kp c ws
   rw[jK]
   unfold cnt
   by_cases h:w.Client=c
   · simp[h,this];try omega
   · simp[h,this]
theorem RE (ws:List ak) (w:ak):∀z∈ws.take (0:Int).toNat,z≠w:=fun z h=>by simp at h
theorem Kq (H:∀z∈ws.take i.toNat,z≠w) (h0:0≤i) (hz:ws[i.toNat]?=some z) (h:¬z=w):∀z∈ws.take (i+1).toNat,z≠w:=by
  rw[toNat_succ h0,fG hz]
  intro y hy
  rcases dP.1 hy with hy|hy
  · exact H y hy
  · rw[iw.1 hy];exact h
theorem u5 (H:∀z∈ws.take i.toNat,z≠w) (h:¬i<(ws.length:Int)):w ∉ ws:=by
  rw[fC (by omega)] at H
  exact fun hm=>H w hm rfl
theorem Cq (hx:s.aN[i.toNat]?=some z) (h:z=w):jO s w=0∧mN s w=s:=by
  have:w∈s.aN:=h▸cj hx
  exact⟨by rw[jO,aO this],by rw[mN,ug,aO this]⟩
theorem Cr (h1:w ∉ s.aN) (hn:n=(cnt w.Client s.aN:Int)+(cV s.events w.Client).length) (h:n≥8):jO s w=104∧mN s w=s:=
  ⟨by rw[jO,aC h1,aO (by omega)],by rw[mN,ug,aC h1,aO (by omega)]⟩
theorem Cs (h1:w ∉ s.aN) (hn:n=(cnt w.Client s.aN:Int)+(cV s.events w.Client).length) (h:¬n≥8):jO s w=nW s.aN w∧mN s w={s with aN:=nX s.aN w}:=
  ⟨by rw[jO,aC h1,aC (by omega)],by rw[mN,ug,aC h1,aC (by omega)]⟩
theorem RF {e:ja} {c:Int} (h:bV e c=none):(0:Int)=(cV e c).length:=by unfold cV;rw[h];rfl
theorem Kr {e:ja} {c:Int} {xs:List ak} (h:bV e c=some xs):(xs.length:Int)=(cV e c).length:=by unfold cV;rw[h];rfl
end
def oW (o:aG):Int:=if o.Kind=7 then 2 else 1
def nY (s:Sp) (o:aG) (x:Result):Result:=
  if o.Kind=7 then {x with bP:=(jL s.au o.af).1,Code:=(jL s.au o.af).2}
  else if (cg s.au o.af).2=0 then {x with Code:=(cg s.au o.af).2,ag:=(cg s.au o.af).1} else {x with Code:=(cg s.au o.af).2}
def kC (s:Sp) (client:Int) (o:aG):Sp:=if o.ak=true then mN s ⟨client,oW o,o.af⟩ else s
def mj (s:Sp) (client:Int) (o:aG) (x:Result):Result:=
  if o.ak=true∧jO s ⟨client,oW o,o.af⟩≠0 then {x with Code:=jO s ⟨client,oW o,o.af⟩} else nY s o x
section
variable {s x y:Sp} {client:Int} {o:aG} {r z:Result}
theorem RG (h:o.Kind=7):2=oW o:=by rw[oW,aO h]
theorem RH (h:¬o.Kind=7):1=oW o:=by rw[oW,aC h]
theorem Ks (h:o.ak=true):mN s ⟨client,oW o,o.af⟩=kC s client o:=by rw[kC,aO h]
theorem RI (h:o.ak=false):s=kC s client o:=by rw[kC,aC (by rw[h];decide)]
theorem RJ (h:o.ak=false):mj s client o r=nY s o r:=by rw[mj,aC (by rw[h];simp)]
theorem RL (h:o.ak=true) (he:jO s ⟨client,oW o,o.af⟩=0) (c:Int):mj s client o r=nY s o {r with Code:=c}:=by
  rw[mj,aC (fun h'=>h'.2 he)]
  rfl
theorem RM (h:o.ak=true) (he:jO s ⟨client,oW o,o.af⟩≠0):{r with Code:=jO s ⟨client,oW o,o.af⟩}=mj s client o r:=by
  rw[mj,aO ⟨h,he⟩]
theorem tC:(kC s client o).au=s.au:=by unfold kC;split<;>rfl
theorem RN (h:o.Kind=7):nY s o r={r with bP:=(jL s.au o.af).1,Code:=(jL s.au o.af).2}:=by rw[nY,aO h]
theorem Kt (h:¬o.Kind=7) (he:(cg s.au o.af).2=0):nY s o r={r with Code:=(cg s.au o.af).2,ag:=(cg s.au o.af).1}:=by rw[nY,aC h,aO he]
theorem Ku (h:¬o.Kind=7) (he:¬(cg s.au o.af).2=0):nY s o r={r with Code:=(cg s.au o.af).2}:=by rw[nY,aC h,aC he]
end
theorem Kv (B:World) (h:ax) (g:GH) (hg:bl g h) (G:bq g) (x:an):
  aE prog B 231 #[vS x] h g [] (fun u g' L'=>u=.bool false∧g'=g∧L'=[]):=by
 refine aE.aq func231 fun R hR=>?_
 have D:=St.init hg
 refine At.go 1 1 [] ?_
 refine At.rp 4 2 [(3,vS x),(4,vS x)] ?_
 refine Op.vl 5 (.bool (!((bp x).toList==(bp x).toList))) (.bool false) (by simp) ?_
 exact Op.pr 2 2 (.bool false) (hR D ⟨(aS (by rfl)),rfl,rfl⟩)
theorem Kw (B:World) (h:ax) (g:GH) (hg:bl g h) (G:bq g) (x:Int):
  aE prog B 232 #[vI x] h g [] (fun u g' L'=>u=.bool false∧g'=g∧L'=[]):=by
 refine aE.aq func232 fun R hR=>?_
 have D:=St.init hg
 refine At.go 1 1 [] ?_
 refine At.rp 4 2 [(3,vI x),(4,vI x)] ?_
 refine Op.vl 5 (.bool (x != x)) (.bool false) (by simp) ?_
 exact Op.pr 2 2 (.bool false) (hR D ⟨(aS (by rfl)),rfl,rfl⟩)
theorem RO (B:World) (h:ax) (g:GH) (hg:bl g h) (I:bq g) (x:an) (y:an):
  aE prog B 196 #[vS x,vS y] h g [] (fun V g' L'=>V=.int .i64 (nB x y)∧g'=g∧L'=[]):=by
 refine aE.aq func196 fun R hR=>?_
 have J:=St.init hg
 refine At.go 1 1 [] ?_
 refine At.rp 3 1 [(7,vS x)] ?_
 refine Op.c1 8 (Kv _ _ _ J.sub I x) J fun Y O=>?_
 refine Op.pg 2 [(5,.bool false)] ?_
 refine At.rp 3 1 [(9,vS y)] ?_
 refine Op.c1 10 (Kv _ _ _ O.sub I y) O fun ab u=>?_
 refine Op.pg 3 [(6,.bool false)] ?_
 refine At.go 4 1 [(11,.bool false)] ?_
 refine At.dK 11 11 ?_
 refine At.go 12 1 [(13,.bool false)] ?_
 refine At.dK 13 15 ?_
 refine At.rp 3 2 [(14,vS x),(15,vS y)] ?_
 refine Op.vl 16 (.bool (Go.Op.bytesLess (bp x).toList (bp y).toList)) (.bool (Go.Op.bytesLess x y)) (by rw[toList_mkS,toList_mkS]) ?_
 refine Op.gt 16 ?_
 refine At.di (Go.Op.bytesLess x y) 16 17 19 (fun X=>?_) fun U=>?_
 ·exact At.gr 18 1 4 (vI (-1)) (hR u ⟨(bB (by exact Q4 X)),rfl,rfl⟩)
 refine At.rp 3 2 [(17,vS x),(18,vS y)] ?_
 refine Op.vl 19 (.bool (!(Go.Op.bytesLess (bp x).toList (bp y).toList||(bp x).toList==(bp y).toList))) (.bool (!(Go.Op.bytesLess x y||x==y))) (by rw[toList_mkS,toList_mkS]) ?_
 refine Op.gt 20 ?_
 refine At.di (!(Go.Op.bytesLess x y||x==y)) 19 21 23 (fun D=>?_) fun G=>?_
 ·replace D:=(dG D)
  exact At.gr 22 1 4 (vI 1) (hR u ⟨(bB (by exact Q6 U D)),rfl,rfl⟩)
 replace G:=(dH G)
 exact At.gr 24 1 4 (vI 0) (hR u ⟨(bB (by exact Q5 U G)),rfl,rfl⟩)
theorem Kx (B:World) (h:ax) (g:GH) (hg:bl g h) (D:bq g) (x:Int) (y:Int):
  aE prog B 197 #[vI x,vI y] h g [] (fun J g' L'=>J=.int .i64 (mh x y)∧g'=g∧L'=[]):=by
 refine aE.aq func197 fun R hR=>?_
 have G:=St.init hg
 refine At.go 1 1 [] ?_
 refine At.rp 3 1 [(7,vI x)] ?_
 refine Op.c1 8 (Kw _ _ _ G.sub D x) G fun O I=>?_
 refine Op.pg 2 [(5,.bool false)] ?_
 refine At.rp 3 1 [(9,vI y)] ?_
 refine Op.c1 10 (Kw _ _ _ I.sub D y) I fun U u=>?_
 refine Op.pg 3 [(6,.bool false)] ?_
 refine At.go 4 1 [(11,.bool false)] ?_
 refine At.dK 11 11 ?_
 refine At.go 12 1 [(13,.bool false)] ?_
 refine At.dK 13 15 ?_
 refine At.go 16 3 [(16,.bool (decide (x<y)))] ?_
 refine At.fd (x<y) 16 17 19 (fun V=>?_) fun X=>?_
 ·exact At.gr 18 1 4 (vI (-1)) (hR u ⟨(bB (by(unfold mh;rw[aO ‹_›]))),rfl,rfl⟩)
 refine At.go 20 3 [(19,.bool (decide (x>y)))] ?_
 refine At.fd (x>y) 19 21 23 (fun Y=>?_) fun ab=>?_
 ·exact At.gr 22 1 4 (vI 1) (hR u ⟨(bB (by(unfold mh;rw[aC ‹_›,aO ‹_›]))),rfl,rfl⟩)
 exact At.gr 24 1 4 (vI 0) (hR u ⟨(bB (by(unfold mh;rw[aC ‹_›,aC ‹_›]))),rfl,rfl⟩)
theorem RP (B:World) (h:ax) (g:GH) (hg:bl g h) (a5:bq g) (U:Value) (l:List Int) (V:av g 3 (fh .i64) U l) (hl:l.length≤1000000000):
  aE prog B 195 #[U] h g [] (fun ab g' L'=>ab=.int .i64 (ko l)∧g'=g∧L'=[]):=by
 obtain⟨X,G,rfl⟩:=V.aj
 refine aE.aq func195 fun R hR=>?_
 have ad:=St.init hg
 refine At.go 1 1 [] ?_
 refine At.go 2 1 [(3,vI 0)] ?_
 refine At.go 3 3 [(6,vL X l.length G),(7,vI (l.length:Int)),(8,vI 0)] ?_
 have ae:∀(m:Nat) (i:Int) (I:ax) (hm:l.length-i.toNat<m) (h0:0≤i) (h2:i≤l.length) (hz:ko l=ko (l.drop i.toNat)) (D:St h g (aV []) g [] I),At (bX prog B 195 f195 R) [] 3 [(3,vI 0),(6,vL X l.length G),(7,vI (l.length:Int)),(8,vI i)] I:=by
  intro m;induction m with
  |zero=>intros;omega
  |succ m am=>
   intro i I hm h0 h2 hz D
   refine At.go 4 1 [(9,.bool (decide (i<(l.length:Int))))] ?_
   refine At.fd (i<(l.length:Int)) 9 5 11 (fun a6=>?_) fun ar=>?_
   ·refine At.rg 3 ?_
    obtain⟨u,J⟩:=cG l i
    obtain⟨aw,Y,a7,a8,a0,a1,O⟩:=av.bF V _ J
    cases a0
    refine Op.iq 117 3 1 8 l.length G 6 8 10 aw Y i ?_
    replace O:cut _ _ _=[vI u]:=O
    refine Op.l1 3 10 11 (Y+i.toNat*1) (vI u) (D.sub _ _ a1) ?_ (hv:=c_ O 0 rfl)
    refine Op.pg 6 [(5,vI u)] ?_
    refine At.go 7 3 [(14,.bool (u != 0))] ?_
    refine At.fn (u=0) 14 8 10 (fun a3=>?_) fun a4=>?_
    ·exact At.gr 9 2 2 (vI u) (hR D ⟨(bB (by exact Q8 hz J a3)),rfl,rfl⟩)
    refine At.rg 2 ?_
    refine Op.vq 16 (i+1) ?_
    exact Op.pg 3 [(8,vI (i+1))] (At.ke (am (i+1) _ (by omega) (by omega) (by omega) (by exact Q7 hz h0 J a4) D))
   exact At.gr 12 2 2 (vI 0) (hR D ⟨(bB (by exact Q9 hz ar)),rfl,rfl⟩)
 exact At.ke (ae _ 0 _ (bM _) (by omega) (by omega) (by rfl) ad)
theorem Ky (B:World) (h:ax) (g:GH) (hg:bl g h) (D:bq g) (a:ak) (b:ak):
  aE prog B 151 #[.agg #[vI a.Client,vI a.Kind,vS a.af],.agg #[vI b.Client,vI b.Kind,vS b.af]] h g [] (fun Y g' L'=>Y=.int .i64 (mW a b)∧g'=g∧L'=[]):=by
 refine aE.aq func151 fun R hR=>?_
 have ab:=St.init hg
 refine At.rg 3 ?_
 refine Op.bx 2 45 0 #[vI a.Client,vI a.Kind,vS a.af] ab fun I a1 ad=>?_
 refine Op.bx 3 45 1 #[vI b.Client,vI b.Kind,vS b.af] ad fun J a3 u=>?_
 refine Op.pg 1 [] ?_
 refine At.dw (fun _=>False) [(0,true),(2,true),(5,true),(7,true),(10,true),(12,true),(1,true),(3,true),(6,true),(8,true),(11,true),(13,true),(4,false),(9,false),(14,false),(15,false),(16,false),(17,true)] ?_
 refine Op.px 6 [(5,vQ I 2),(7,vQ J 2),(10,vQ I 1),(12,vQ J 1),(15,vP I),(17,vP J)] ?_
 refine Op.lf 9 5 2 6 1 (vS a.af) (fun h=>h) (u.ah 1 rfl) ?_
 refine Op.lf 9 7 2 8 1 (vS b.af) (fun h=>h) (u.ah 0 rfl) ?_
 refine Op.lf 3 10 1 11 1 (vI a.Kind) (fun h=>h) (u.ah 1 rfl) ?_
 refine Op.lf 3 12 1 13 1 (vI b.Kind) (fun h=>h) (u.ah 0 rfl) ?_
 refine Op.lf 3 15 0 16 1 (vI a.Client) (fun h=>h) (u.ah 1 rfl) ?_
 refine Op.lf 3 17 0 18 1 (vI b.Client) (fun h=>h) (u.ah 0 rfl) ?_
 refine Op.c1 9 (RO _ _ _ u.sub D a.af b.af) u fun a4 U=>?_
 refine Op.c1 14 (Kx _ _ _ U.sub D a.Kind b.Kind) U fun a5 V=>?_
 refine Op.c1 19 (Kx _ _ _ V.sub D a.Client b.Client) V fun a6 ae=>?_
 refine Op.ls 20 3 3 #[vI (nB a.af b.af),vI (mh a.Kind b.Kind),vI (mh a.Client b.Client)] ae fun X a7 G=>?_
 have am:aJ 3 (fh .i64) g (vL (some ⟨X,0,none⟩) 3 3) [nB a.af b.af,mh a.Kind b.Kind,mh a.Client b.Client] [(X,Obj.cells #[vI (nB a.af b.af),vI (mh a.Kind b.Kind),vI (mh a.Client b.Client)] 3 (0,0))]:=aJ.lit (by kernel_rfl) (by unfold maxLen;decide) (by kernel_rfl) ⟨_,_,rfl,rfl,⟨_,_,rfl,rfl,⟨_,_,rfl,rfl,Reads.nil⟩⟩⟩
 have ar:=G.gz
 have aw:=am.fY G
 refine Op.le (some 21) 0 G (RP _ _ _ G.iO (D.mono ar) _ _ aw (by((try dsimp only)<;>((simp;done))))) (fun _ _ _ hp=>by obtain⟨_,O,_⟩:=hp;exact O) ?_ (hM:=(fun _ _ h=>absurd h (dB _)))
 rintro _ _ a8 a0 ⟨rfl,O,rfl⟩;clear O
 exact Op.pr 2 4 (vI (ko ([nB a.af b.af,mh a.Kind b.Kind,mh a.Client b.Client]))) (hR a0.drop.drop.drop ⟨(bB (by rfl)),rfl,rfl⟩)
theorem RQ (B:World) (h:ax) (g:GH) (hg:bl g h) (a7:bq g) (ab:Value) (l:List an) (ad:av g 9 eU ab l) (u:an) (hlen:l.length≤1000000000):
  aE prog B 259 #[ab,vS u] h g [] (fun ar g' L'=>ar=.int .i64 (fm (fun z=>decide (u=z)) l)∧g'=g∧L'=[]):=by
 obtain⟨ae,J,rfl⟩:=ad.aj
 refine aE.aq func259 fun R hR=>?_
 have aw:=St.init hg
 refine At.go 1 1 [] ?_
 refine At.go 2 3 [(7,vI (l.length:Int)),(8,vI 0)] ?_
 have a0:∀(m:Nat) (i:Int) (O:ax) (hm:l.length-i.toNat<m) (h0:0≤i) (h1:i≤l.length) (I:findAt (fun z=>decide (u=z)) l i) (D:St h g (aV []) g [] O),At (bX prog B 259 f259 R) [] 2 [(0,vL ae l.length J),(1,vS u),(7,vI (l.length:Int)),(8,vI i)] O:=by
  intro m;induction m with
  |zero=>intros;omega
  |succ m a1=>
   intro i O hm h0 h1 I D
   refine At.go 3 1 [(9,.bool (decide (i<(l.length:Int))))] ?_
   refine At.fd (i<(l.length:Int)) 9 4 10 (fun a8=>?_) fun a3=>?_
   ·refine At.go 5 2 [(5,vI i)] ?_
    refine At.rp 6 3 [(11,vS u),(12,vL ae l.length J),(13,vI i)] ?_
    obtain⟨G,U⟩:=cG l i
    obtain⟨a4,am,a9,bc,a5,a6,V⟩:=av.bF ad _ U
    cases a5
    refine Op.iq 40 9 1 16 l.length J 12 13 14 a4 am i ?_
    replace V:cut _ _ _=[vS G]:=V
    refine Op.l1 9 14 15 (am+i.toNat*1) (vS G) (D.sub _ _ a6) ?_ (hv:=c_ V 0 rfl)
    refine Op.vl 16 (.bool ((bp u).toList==(bp G).toList)) (.bool (u==G)) (by rw[toList_mkS,toList_mkS]) ?_
    refine Op.gt 6 ?_
    refine At.di (u==G) 16 7 9 (fun X=>?_) fun Y=>?_
    ·replace X:=eq_of_beq X
     exact At.gr 8 2 4 (vI i) (hR D ⟨(bB (by exact wB I U (eu X))),rfl,rfl⟩)
    replace Y:=n4 Y
    refine At.rg 2 ?_
    refine Op.vq 18 (i+1) ?_
    exact Op.pg 2 [(8,vI (i+1))] (At.ke (a1 (i+1) _ (by omega) (by omega) (by omega) (by exact xP I h0 U (gb Y)) D))
   exact At.gr 11 1 4 (vI (-1)) (hR D ⟨(bB (by exact wC I a3)),rfl,rfl⟩)
 exact At.ke (a0 _ 0 _ (bM _) (by omega) (by omega) (by exact xO _ _) aw)
theorem RR (B:World) (h:ax) (g:GH) (hg:bl g h) (J:bq g) (D:Value) (l:List an) (G:av g 9 eU D l) (u:an) (hlen:l.length≤1000000000):
  aE prog B 237 #[D,vS u] h g [] (fun O g' L'=>O=.bool (l.any (fun z=>decide (u=z)))∧g'=g∧L'=[]):=by
 obtain⟨U,V,rfl⟩:=G.aj
 refine aE.aq func237 fun R hR=>?_
 have I:=St.init hg
 refine At.go 1 1 [] ?_
 refine At.rp 5 2 [(5,vL U l.length V),(6,vS u)] ?_
 refine Op.c1 7 (RQ _ _ _ I.sub J _ _ G u (by(try dsimp only)<;>omega)) I fun Y X=>?_
 exact Op.pr 2 4 (.bool (decide ((fm (fun z=>decide (u=z)) l)≥0))) (hR X ⟨(aS (by exact xN _ _)),rfl,rfl⟩)
theorem RS (B:World) (h:ax) (g:GH) (hg:bl g h) (a4:bq g) (D:Value) (s:List ak) (u:av g 45 dh D s) (hl:s.length≤1000000000):
  aE prog B 142 #[D] h g [] (fun ad g' L'=>∃v0 G,ad=v0∧aJ 45 dh g' v0 s G∧g'=g∧L'=[G]):=by
 obtain⟨I,J,rfl⟩:=u.aj
 refine aE.aq func142 fun R hR=>?_
 have O:=St.init hg
 refine At.go 1 1 [] ?_
 refine At.rp 2 1 [(3,vL I s.length J)] ?_
 rcases I with _|a20
 ·refine Op.vl 4 (.bool true) (.bool true) rfl ?_
  refine Op.gt 2 ?_
  refine At.bW 4 3 ?_
  refine At.go 4 1 [(2,vN)] ?_
  have ae:=aJ.zero 45 dh g none
  have am:=O.nl
  exact At.rt vN (hR am ⟨vN,[],rfl,eV ae (by exact(av.Gh u).symm),rfl,rfl⟩)
 refine Op.vl 4 (.bool false) (.bool false) rfl ?_
 refine Op.gt 2 ?_
 refine At.dK 4 5 ?_
 refine At.rg 4 ?_
 refine Op.ls 5 0 45 #[] O fun U a5 V=>?_
 refine Op.px 1 [(6,vL (some a20) s.length J)] ?_
 have ar:aJ 45 dh g (vL (some ⟨U,0,none⟩) 0 0) ([]:List ak) [(U,Obj.cells #[] 45 (0,0))]:=aJ.lit (by kernel_rfl) (by unfold maxLen;decide) (by kernel_rfl) Reads.nil
 obtain⟨a6,aw,a0⟩:=eT.slice (P:=prog) (u.toH V.sub)
 refine Op.ap 5 6 41 41 7 45 32 dh (ys:=s) ar V 0 a0 (by(simp only[dU];omega)) (fun _ _ _=>trivial) aw fun a7 a1 a8 X a3 a9=>?_
 obtain⟨Y,ab,rfl⟩:=X.aj
 exact Op.pr 6 2 (vL Y ((([]:List ak)++s).length) ab) (hR a3 ⟨(vL Y ((([]:List ak)++s).length) ab),a1,rfl,eV X (by(simp;done)),rfl,rfl⟩)
theorem UK (B:World) (h:ax) (g:GH) (hg:bl g h) (a6:bq g) (V:Value) (list:List ak) (X:av g 45 dh V list) (client:Int) (hlen:list.length≤1000000000):
  aE prog B 157 #[V,vI client] h g [] (fun ae g' L'=>ae=.int .i64 (cnt client list:Int)∧g'=g∧L'=[]):=by
 obtain⟨Y,G,rfl⟩:=X.aj
 refine aE.aq func157 fun R hR=>?_
 have am:=St.init hg
 refine At.go 1 1 [] ?_
 refine At.go 2 1 [(5,vI 0)] ?_
 refine At.go 3 1 [(6,vI 0)] ?_
 have ar:∀(m:Nat) (n:Int) (i:Int) (I:ax) (hm:list.length-i.toNat<m) (h0:0≤i) (h1:i≤list.length) (hn0:0≤n) (aw:n≤i) (hn:n+(cnt client (list.drop i.toNat):Int)=cnt client list) (D:St h g (aV []) g [] I),At (bX prog B 157 f157 R) [] 3 [(0,vL Y list.length G),(1,vI client),(5,vI n),(6,vI i)] I:=by
  intro m;induction m with
  |zero=>intros;omega
  |succ m ab=>
   intro n i I hm h0 h1 hn0 aw hn D
   refine At.go 4 4 [(10,.bool (decide (i<(list.length:Int))))] ?_
   refine At.fd (i<(list.length:Int)) 10 5 9 (fun a7=>?_) fun a0=>?_
   ·refine At.rp 7 2 [(13,vL Y list.length G),(14,vI i)] ?_
    obtain⟨u,J⟩:=cG list i
    obtain⟨ad,O,a8,a9,a1,a3,U⟩:=av.bF X _ J
    cases a1
    refine Op.iq 41 45 3 32 list.length G 13 14 15 ad O i ?_
    replace U:cut _ _ _=[vI u.Client,vI u.Kind,vS u.af]:=U
    refine Op.px 1 [(16,vQ ad (O+i.toNat*3))] ?_
    refine Op.l1 3 16 17 (O+i.toNat*3) (vI u.Client) (D.sub _ _ a3) ?_ (hv:=c_ U 0 rfl)
    refine Op.pg 6 [(19,.bool (u.Client==client))] ?_
    refine At.fd (u.Client=client) 19 7 8 (fun a4=>?_) fun a5=>?_
    ·refine At.rp 3 1 [(20,vI n)] ?_
     refine Op.vq 21 (n+1) ?_
     refine Op.pg 8 [(5,vI (n+1))] ?_
     refine At.rp 3 1 [(11,vI i)] ?_
     refine Op.vq 12 (i+1) ?_
     exact Op.pg 3 [(6,vI (i+1))] (At.ke (ab (n+1) (i+1) _ (by omega) (by omega) (by omega) (by omega) (by omega) (by exact E3 hn h0 J a4) D))
    refine At.rp 3 1 [(11,vI i)] ?_
    refine Op.vq 12 (i+1) ?_
    exact Op.pg 3 [(6,vI (i+1))] (At.ke (ab n (i+1) _ (by omega) (by omega) (by omega) (by omega) (by omega) (by exact E4 hn h0 J a5) D))
   exact At.gr 10 2 4 (vI n) (hR D ⟨(bB (by exact ri hn a0)),rfl,rfl⟩)
 exact At.ke (ar _ 0 0 _ (bM _) (by omega) (by omega) (by omega) (by omega) (by simp) am)
theorem RT (B:World) (h:ax) (g:GH) (hg:bl g h) (bd:bq g) (V:Value) (list:List ak) (X:av g 45 dh V list) (client:Int) (hlen:list.length≤1000000000):
  aE prog B 152 #[V,vI client] h g [] (fun ae g' L'=>ae=.int .i64 (cnt client list:Int)∧g'=g∧L'=[]):=by
 obtain⟨Y,G,rfl⟩:=X.aj
 refine aE.aq func152 fun R hR=>?_
 have am:=St.init hg
 refine At.go 1 1 [] ?_
 refine At.go 2 1 [(5,vI 0)] ?_
 refine At.go 3 3 [(8,vL Y list.length G),(9,vI (list.length:Int)),(10,vI 0)] ?_
 have ar:∀(m:Nat) (n:Int) (i:Int) (I:ax) (hm:list.length-i.toNat<m) (h0:0≤i) (h1:i≤list.length) (hn0:0≤n) (aw:n≤i) (hn:n+(cnt client (list.drop i.toNat):Int)=cnt client list) (D:St h g (aV []) g [] I),At (bX prog B 152 f152 R) [] 3 [(1,vI client),(5,vI n),(8,vL Y list.length G),(9,vI (list.length:Int)),(10,vI i)] I:=by
  intro m;induction m with
  |zero=>intros;omega
  |succ m ab=>
   intro n i I hm h0 h1 hn0 aw hn D
   refine At.go 4 1 [(11,.bool (decide (i<(list.length:Int))))] ?_
   refine At.fd (i<(list.length:Int)) 11 5 10 (fun be=>?_) fun a0=>?_
   ·refine At.rg 4 ?_
    obtain⟨u,J⟩:=cG list i
    obtain⟨a1,ad,bi,bj,a3,a4,O⟩:=av.bF X _ J
    cases a3
    refine Op.iq 41 45 3 32 list.length G 8 10 12 a1 ad i ?_
    replace O:cut _ _ _=[vI u.Client,vI u.Kind,vS u.af]:=O
    refine Op.la 45 12 13 (ad+i.toNat*3) 3 [vI u.Client,vI u.Kind,vS u.af] (D.sub _ _ a4) ?_ (hv:=O)
    refine Op.al 7 45 #[vI 0,vI 0,vS []] D fun a5 bk a6=>?_
    refine Op.sg 45 7 13 0 0 #[vI u.Client,vI u.Kind,vS u.af] a6 (fun _=>trivial) fun bm U=>?_
    refine Op.gt 6 ?_
    refine At.rp 4 1 [(14,vP a5)] ?_
    refine Op.l1 3 14 15 0 (vI u.Client) (U.ah 0 rfl) ?_
    refine Op.pg 7 [(17,.bool (u.Client==client))] ?_
    refine At.fd (u.Client=client) 17 8 9 (fun a7=>?_) fun a8=>?_
    ·refine At.rp 3 1 [(18,vI n)] ?_
     refine Op.vq 19 (n+1) ?_
     refine Op.pg 9 [(5,vI (n+1))] ?_
     refine At.rg 2 ?_
     refine Op.vq 20 (i+1) ?_
     refine Op.pg 3 [(10,vI (i+1))] ?_
     have a9:=U.drop
     exact At.ke (ab (n+1) (i+1) _ (by omega) (by omega) (by omega) (by omega) (by omega) (by exact E3 hn h0 J a7) a9)
    refine At.rg 2 ?_
    refine Op.vq 20 (i+1) ?_
    refine Op.pg 3 [(10,vI (i+1))] ?_
    have bc:=U.drop
    exact At.ke (ab n (i+1) _ (by omega) (by omega) (by omega) (by omega) (by omega) (by exact E4 hn h0 J a8) bc)
   exact At.gr 11 2 4 (vI n) (hR D ⟨(bB (by exact ri hn a0)),rfl,rfl⟩)
 exact At.ke (ar _ 0 0 _ (bM _) (by omega) (by omega) (by omega) (by omega) (by simp) am)
theorem xe (B:World) (h:ax) (g:GH) (hg:bl g h) (bm:bq g) (ae:Value) (a:List ak) (am:av g 45 dh ae a) (ar:Value) (b:List ak) (aw:av g 45 dh ar b) (h1:a.length≤1000000000):
  aE prog B 44 #[ae,ar] h g [] (fun a6 g' L'=>a6=.bool (decide (a=b))∧g'=g∧L'=[]):=by
 obtain⟨a0,I,rfl⟩:=am.aj
 obtain⟨a1,J,rfl⟩:=aw.aj
 refine aE.aq func44 fun R hR=>?_
 have a3:=St.init hg
 refine At.go 1 1 [] ?_
 refine At.go 2 5 [(10,.bool ((a.length:Int) != (b.length:Int)))] ?_
 refine At.fn ((a.length:Int)=(b.length:Int)) 10 3 5 (fun bo=>?_) fun bt=>?_
 ·exact At.gr 4 1 4 (.bool false) (hR a3 ⟨(aS (by exact tN ‹_›)),rfl,rfl⟩)
 refine At.go 6 1 [(5,vI 0)] ?_
 have a7:∀(m:Nat) (i:Int) (O:ax) (hm:a.length-i.toNat<m) (h0:0≤i) (h2:i≤a.length) (ht:a.take i.toNat=b.take i.toNat) (G:St h g (aV []) g [] O),At (bX prog B 44 f44 R) [] 6 [(0,vL a0 a.length I),(1,vL a1 b.length J),(5,vI i)] O:=by
  intro m;induction m with
  |zero=>intros;omega
  |succ m a8=>
   intro i O hm h0 h2 ht G
   refine At.go 7 4 [(14,.bool (decide (i<(a.length:Int))))] ?_
   refine At.fd (i<(a.length:Int)) 14 8 13 (fun b3=>?_) fun a9=>?_
   ·refine At.dw (fun _=>False) [(0,true),(1,true),(2,true),(4,true),(5,true),(6,true),(3,true),(7,false),(8,true)] ?_
    refine Op.px 2 [(17,vL a0 a.length I),(18,vI i)] ?_
    obtain⟨u,U⟩:=cG a i
    obtain⟨bc,a4,b4,b5,bd,be,V⟩:=av.bF am _ U
    cases bd
    refine Op.iq 41 45 3 32 a.length I 17 18 19 bc a4 i ?_
    replace V:cut _ _ _=[vI u.Client,vI u.Kind,vS u.af]:=V
    refine Op.px 2 [(21,vL a1 b.length J),(22,vI i)] ?_
    obtain⟨D,X⟩:=cG b i
    obtain⟨bi,a5,b6,b8,bj,bk,Y⟩:=av.bF aw _ X
    cases bj
    refine Op.iq 41 45 3 32 b.length J 21 22 23 bi a5 i ?_
    replace Y:cut _ _ _=[vI D.Client,vI D.Kind,vS D.af]:=Y
    refine Op.iU (T:=45) (x:=19) (o:=a4+i.toNat*3) (d:=20) (n:=3) (vs:=[vI u.Client,vI u.Kind,vS u.af]) (by kernel_rfl) (by kernel_rfl) (by kernel_rfl) (fun h=>h) (G.sub _ _ be) V rfl ?_
    refine Op.la 45 23 24 (a5+i.toNat*3) 3 [vI D.Client,vI D.Kind,vS D.af] (G.sub _ _ bk) ?_ (hv:=Y)
    refine Op.A3 (T:=45) (T':=45) (x:=20) (y:=24) (neq:=true) (dst:=25) (xs:=#[vI u.Client,vI u.Kind,vS u.af]) (ys:=#[vI D.Client,vI D.Kind,vS D.af]) (q:=((u.Client==D.Client)&&((u.Kind==D.Kind)&&((bp u.af==bp D.af)&&true)))) (q':=!(decide (u=D))) (by kernel_rfl) (by kernel_rfl) (by kernel_rfl) (by kernel_rfl) (by kernel_rfl) (congrArg (fun z=>!z) (G4 u D)) ?_
    refine Op.gt 9 ?_
    refine At.di (!(decide (u=D))) 25 10 12 (fun ab=>?_) fun ad=>?_
    ·replace ab:=jq (dG ab)
     exact At.gr 11 1 4 (.bool false) (hR G ⟨(aS (by exact tO U X ab)),rfl,rfl⟩)
    replace ad:=gp (dH ad)
    refine At.rp 3 1 [(15,vI i)] ?_
    refine Op.vq 16 (i+1) ?_
    exact Op.pg 6 [(5,vI (i+1))] (At.ke (a8 (i+1) _ (by omega) (by omega) (by omega) (by exact qp ht h0 U X ad) G))
   exact At.gr 14 1 4 (.bool true) (hR G ⟨(aS (by exact tP ‹_› a9 ht)),rfl,rfl⟩)
 exact At.ke (a7 _ 0 _ (bM _) (by omega) (by omega) (by rfl) a3)
theorem RU (B:World) (h:ax) (g:GH) (hg:bl g h) (G:bq g) (w:ak) (hlen:w.af.length≤1000000000):
  aE prog B 150 #[.agg #[vI w.Client,vI w.Kind,vS w.af]] h g [] (fun I g' L'=>I=.bool (jD w)∧g'=g∧L'=[]):=by
 refine aE.aq func150 fun R hR=>?_
 have J:=St.init hg
 refine At.rg 2 ?_
 refine Op.bx 1 45 0 #[vI w.Client,vI w.Kind,vS w.af] J fun D V u=>?_
 refine Op.pg 1 [] ?_
 refine At.rp 25 1 [(3,vP D)] ?_
 refine Op.l1 3 3 4 0 (vI w.Client) (u.ah 0 rfl) ?_
 refine Op.px 2 [(6,.bool (decide (w.Client≥0)))] ?_
 refine Op.wd (w.Client≥0) 6 (fun X=>?_) fun Y=>?_
 ·refine Op.px 1 [(7,vP D)] ?_
  refine Op.l1 3 7 8 0 (vI w.Client) (u.ah 0 rfl) ?_
  refine Op.px 3 [(11,.bool (decide (w.Client<8)))] ?_
  refine Op.wd (w.Client<8) 11 (fun ab=>?_) fun ad=>?_
  ·refine Op.px 1 [(12,vQ D 1)] ?_
   refine Op.l1 3 12 13 1 (vI w.Kind) (u.ah 0 rfl) ?_
   refine Op.px 2 [(15,.bool (w.Kind==1))] ?_
   refine Op.wd (w.Kind=1) 15 (fun ae=>?_) fun am=>?_
   ·refine Op.px 7 [(21,.bool true),(22,vQ D 2)] ?_
    refine Op.l1 9 22 23 2 (vS w.af) (u.ah 0 rfl) ?_
    refine Op.c1 24 (BW _ _ _ u.sub G w.af (by(try dsimp only)<;>omega)) u fun ar O=>?_
    exact Op.pr 2 2 (.bool ((cX w.af)==0)) (hR O.drop ⟨(aS (by(simp[jD, *];done))),rfl,rfl⟩)
   refine Op.px 1 [(16,vQ D 1)] ?_
   refine Op.l1 3 16 17 1 (vI w.Kind) (u.ah 0 rfl) ?_
   refine Op.px 4 [(21,.bool (w.Kind==2))] ?_
   refine Op.wd (w.Kind=2) 21 (fun aw=>?_) fun a0=>?_
   ·refine Op.px 1 [(22,vQ D 2)] ?_
    refine Op.l1 9 22 23 2 (vS w.af) (u.ah 0 rfl) ?_
    refine Op.c1 24 (BW _ _ _ u.sub G w.af (by(try dsimp only)<;>omega)) u fun a1 U=>?_
    exact Op.pr 2 2 (.bool ((cX w.af)==0)) (hR U.drop ⟨(aS (by(simp[jD, *];done))),rfl,rfl⟩)
   exact Op.pr 2 2 (.bool false) (hR u.drop ⟨(aS (by(simp[jD, *];done))),rfl,rfl⟩)
  exact Op.pr 2 2 (.bool false) (hR u.drop ⟨(aS (by(simp[jD, *];done))),rfl,rfl⟩)
 exact Op.pr 2 2 (.bool false) (hR u.drop ⟨(aS (by(simp[jD, *];done))),rfl,rfl⟩)
def i_ (g:GH) (b:Nat) (x:List ak) (c:ay):Prop:=∃v0 c0,c=(b,.cells #[v0] 199 (0,0))::c0∧aJ 45 dh g v0 x c0
theorem i_.mono {g g':GH} {b:Nat} {x:List ak} {c:ay} (h:i_ g b x c) (hg:aM g g'):i_ g' b x c:=by
 obtain⟨v0,c0,e,h0⟩:=h
 exact⟨v0,c0,e,h0.mono hg⟩
theorem i_.eq {g:GH} {b:Nat} {x y:List ak} {c:ay} (h:i_ g b x c) (e:x=y):i_ g b y c:=e▸h
theorem i_.bu {g g':GH} {b:Nat} {x:List ak} {c:ay} (h:i_ g b x c):i_ g' b x c:=by
 obtain⟨v0,c0,e,h0⟩:=h
 exact⟨v0,c0,e,h0.bu (fun _ _ _ _ h=>h)⟩
def lU (g:GH) (b:Nat) (x:List ak) (c:ay):Prop:=∃v0 c0,c=(b,.cells #[v0] 41 (0,0))::c0∧aJ 45 dh g v0 x c0
theorem lU.mono {g g':GH} {b:Nat} {x:List ak} {c:ay} (h:lU g b x c) (hg:aM g g'):lU g' b x c:=by
 obtain⟨v0,c0,e,h0⟩:=h
 exact⟨v0,c0,e,h0.mono hg⟩
theorem lU.eq {g:GH} {b:Nat} {x y:List ak} {c:ay} (h:lU g b x c) (e:x=y):lU g b y c:=e▸h
theorem lU.bu {g g':GH} {b:Nat} {x:List ak} {c:ay} (h:lU g b x c):lU g' b x c:=by
 obtain⟨v0,c0,e,h0⟩:=h
 exact⟨v0,c0,e,h0.bu (fun _ _ _ _ h=>h)⟩
theorem RV (B:World) (h:ax) (g:GH) (hg:bl g h) (am:bq g) (ar:Value) (x:List ak) (V:av g 45 dh ar x) (target:ak) (O:lT x) (hlen:x.length≤1000000000):
  aE prog B 241 #[ar,.agg #[vI target.Client,vI target.Kind,vS target.af],.func (.func 151) #[] #[]] h g [] (fun a5 g' L'=>a5=.tuple #[.int .i64 (ou x target:Int),.bool (mX x target)]∧g'=g∧L'=[]):=by
 obtain⟨X,J,rfl⟩:=V.aj
 refine aE.aq func241 fun R hR=>?_
 have a6:=St.init hg
 refine At.rg 3 ?_
 refine Op.bx 4 45 1 #[vI target.Client,vI target.Kind,vS target.af] a6 fun U ca a7=>?_
 refine Op.pg 1 [] ?_
 refine At.go 2 3 [(8,vI (x.length:Int))] ?_
 refine At.go 3 3 [(9,vI 0),(10,vI (x.length:Int))] ?_
 have a8:∀(m:Nat) (i:Int) (u:Int) (Y:ax) (hm:(u-i).toNat<m) (h0:0≤i) (h1:i≤u) (h2:u≤x.length) (hl:Lo x target i) (hh:Hi x target u) (I:St h g (aV []) g [[(U,Obj.cells #[vI target.Client,vI target.Kind,vS target.af] 45 (0,0))]] Y),At (bX prog B 241 f241 R) [] 3 [(0,vL X x.length J),(2,.func (.func 151) #[] #[]),(4,vP U),(8,vI (x.length:Int)),(9,vI i),(10,vI u)] Y:=by
  intro m;induction m with
  |zero=>intros;omega
  |succ m aw=>
   intro i u Y hm h0 h1 h2 hl hh I
   refine At.go 4 3 [(17,.bool (decide (i<u)))] ?_
   refine At.fd (i<u) 17 5 10 (fun cb=>?_) fun ce=>?_
   ·refine At.rp 7 2 [(18,vI i),(19,vI u)] ?_
    refine Op.vq 20 (i+u) ?_
    refine Op.vl 21 (.int .u64 (IntKind.wrap .u64 (i+u))) (.int .u64 (i+u)) (Nc (by omega) (by omega)) ?_
    refine Op.vl 22 (.int .u64 (Int.fdiv (i+u) (2 ^ 1))) (.int .u64 ((i+u) / 2)) (GA _ _ _ rfl (by decide)) ?_
    refine Op.vl 23 (.int .i64 (IntKind.wrap .i64 ((i+u) / 2))) (.int .i64 ((i+u) / 2)) (oI (by omega) (by omega)) ?_
    refine Op.pg 6 [(11,vI ((i+u) / 2))] ?_
    refine At.dw (fun _=>False) [(0,true),(1,true),(2,true),(3,true),(4,true),(5,false),(6,false),(7,true)] ?_
    refine Op.px 3 [(24,.func (.func 151) #[] #[]),(25,vL X x.length J),(26,vI ((i+u) / 2))] ?_
    obtain⟨D,ab⟩:=cG x ((i+u) / 2)
    obtain⟨a9,a0,cf,ch,bc,bd,ad⟩:=av.bF V _ ab
    cases bc
    refine Op.iq 41 45 3 32 x.length J 25 26 27 a9 a0 ((i+u) / 2) ?_
    replace ad:cut _ _ _=[vI D.Client,vI D.Kind,vS D.af]:=ad
    refine Op.iU (T:=45) (x:=27) (o:=a0+((i+u) / 2:Int).toNat*3) (d:=28) (n:=3) (vs:=[vI D.Client,vI D.Kind,vS D.af]) (by kernel_rfl) (by kernel_rfl) (by kernel_rfl) (fun h=>h) (I.sub _ _ bd) ad rfl ?_
    refine Op.la 45 4 29 0 3 [vI target.Client,vI target.Kind,vS target.af] (I.ah 0 rfl) ?_
    refine Op.cv (some 30) 24 #[28,29] #[45,45] 151 #[] #[] [] [[(U,Obj.cells #[vI target.Client,vI target.Kind,vS target.af] 45 (0,0))]] #[.agg #[vI D.Client,vI D.Kind,vS D.af],.agg #[vI target.Client,vI target.Kind,vS target.af]] (fc.of (by kernel_rfl)) (by kernel_rfl) I (Ky _ _ _ I.sub am D target) (fun _ _ h=>absurd h (dB _)) ?_
    rintro _ be _ ci bi a1 ⟨rfl,bj,rfl⟩;subst be;clear bi
    refine Op.pg 7 [(31,.bool (decide ((mW D target)<0)))] ?_
    refine At.fd ((mW D target)<0) 31 8 9 (fun bk=>?_) fun bm=>?_
    ·refine At.rp 3 1 [(32,vI ((i+u) / 2))] ?_
     refine Op.vq 33 (((i+u) / 2)+1) ?_
     exact Op.pg 3 [(9,vI (((i+u) / 2)+1))] (At.ke (aw (((i+u) / 2)+1) u _ (by omega) (by omega) (by omega) (by omega) (by exact Re O hl (by omega) ab bk) ‹_› a1))
    exact At.go 3 2 [(10,vI ((i+u) / 2))] (At.ke (aw i ((i+u) / 2) _ (by omega) (by omega) (by omega) (by omega) ‹_› (by exact Rf O (by omega) ab bm) a1))
   refine At.dw (fun _=>False) [(0,true),(1,true),(2,true),(3,true),(4,true),(5,true),(6,true),(7,true),(8,true),(9,true),(10,false),(11,false),(12,true),(13,true),(14,true),(15,true)] ?_
   refine Op.px 5 [(35,vI i),(39,.bool (decide (i<(x.length:Int))))] ?_
   refine Op.wd (i<(x.length:Int)) 39 (fun ck=>?_) fun bo=>?_
   ·refine Op.px 3 [(40,.func (.func 151) #[] #[]),(41,vL X x.length J),(42,vI i)] ?_
    obtain⟨G,a3⟩:=cG x i
    obtain⟨bt,a4,co,c3,b3,b4,ae⟩:=av.bF V _ a3
    cases b3
    refine Op.iq 41 45 3 32 x.length J 41 42 43 bt a4 i ?_
    replace ae:cut _ _ _=[vI G.Client,vI G.Kind,vS G.af]:=ae
    refine Op.iU (T:=45) (x:=43) (o:=a4+i.toNat*3) (d:=44) (n:=3) (vs:=[vI G.Client,vI G.Kind,vS G.af]) (by kernel_rfl) (by kernel_rfl) (by kernel_rfl) (fun h=>h) (I.sub _ _ b4) ae rfl ?_
    refine Op.la 45 4 45 0 3 [vI target.Client,vI target.Kind,vS target.af] (I.ah 0 rfl) ?_
    refine Op.cv (some 46) 40 #[44,45] #[45,45] 151 #[] #[] [] [[(U,Obj.cells #[vI target.Client,vI target.Kind,vS target.af] 45 (0,0))]] #[.agg #[vI G.Client,vI G.Kind,vS G.af],.agg #[vI target.Client,vI target.Kind,vS target.af]] (fc.of (by kernel_rfl)) (by kernel_rfl) I (Ky _ _ _ I.sub am G target) (fun _ _ h=>absurd h (dB _)) ?_
    rintro _ b5 _ c4 b6 b8 ⟨rfl,bj,rfl⟩;subst b5;clear b6
    refine Op.pg 11 [(6,vI i),(7,.bool ((mW G target)==0))] ?_
    exact At.rt (.tuple #[vI i,.bool ((mW G target)==0)]) (hR b8.drop ⟨b7 (bB (by exact Kg h0 (by omega) hl (by have e:i=u:=(by omega);rw[e];exact hh))) (aS (by exact Rh h0 O hl (by have e:i=u:=(by omega);rw[e];exact hh) a3 rfl)),rfl,rfl⟩)
   refine Op.pg 11 [(6,vI i),(7,.bool false)] ?_
   exact At.rt (.tuple #[vI i,.bool false]) (hR I.drop ⟨b7 (bB (by exact Kg h0 (by omega) hl (by have e:i=u:=(by omega);rw[e];exact hh))) (aS (by exact Ri h0 O hl (by have e:i=u:=(by omega);rw[e];exact hh) bo)),rfl,rfl⟩)
 exact At.ke (a8 _ 0 (x.length:Int) _ (bM _) (by omega) (by omega) (by omega) (by exact Rb _ _) (by exact Rc _ _) a7)
theorem RW (B:World) (h:ax) (g:GH) (hg:bl g h) (d3:bq g) (a3:Value) (s:List ak) (U:ay) (J:aJ 45 dh g a3 s U) (i:Int) (a4:Value) (v:List ak) (ab:ay) (V:aJ 45 dh g a4 v ab) (h0:0≤i) (hi:i≤s.length) (h1:s.length≤1000000) (h2:v.length≤1000000) (hs:St h g (aV [U,ab]) g [U,ab] h):
  aE prog B 242 #[a3,vI i,a4] h g [U,ab] (fun b4 g' L'=>∃v0 a5,b4=v0∧aJ 45 dh g' v0 (nV s i v) a5∧g'=g∧L'=[a5]):=by
 obtain⟨D,u,rfl⟩:=J.aj
 obtain⟨X,Y,rfl⟩:=V.aj
 refine aE.aq func242 fun R hR=>?_
 refine At.go 1 1 [] ?_
 refine At.rp 3 2 [(10,vL D s.length u),(11,vI i)] ?_
 refine Op.sq 41 45 3 32 10 11 D s.length u 12 .i64 i (by omega) (by omega) ?_
 refine Op.gt 2 ?_
 refine At.go 3 3 [(7,vI (v.length:Int))] ?_
 refine At.go 4 2 [(16,.bool ((v.length:Int)==0))] ?_
 refine At.fd ((v.length:Int)=0) 16 5 7 (fun d4=>?_) fun d5=>?_
 ·refine At.go 6 2 [(6,vL D s.length u)] ?_
  refine At.rt (vL D s.length u) ?_
  have b5:=(hs.aa 0 rfl).aa 1 rfl
  exact hR b5.drop ⟨(vL D s.length u),U,rfl,eV J (by exact Rj (by omega)),rfl,rfl⟩
 refine At.go 8 3 [(8,vI (s.length:Int))] ?_
 refine At.go 9 3 [(22,.bool (i==(s.length:Int)))] ?_
 refine At.fd (i=(s.length:Int)) 22 10 12 (fun d6=>?_) fun d7=>?_
 ·refine At.rp 4 2 [(23,vL D s.length u),(24,vL X v.length Y)] ?_
  obtain⟨d8,b6,b8⟩:=eT.slice (P:=prog) (V.toH hs 1 rfl)
  refine Op.ap 23 24 41 41 25 45 32 dh (ys:=v) J hs 0 b8 (by omega) (fun _ _ _=>trivial) b6 fun d9 ca ed a6 cb ee=>?_
  obtain⟨ae,am,rfl⟩:=a6.aj
  refine Op.pg 11 [(6,vL ae ((s++v).length) am)] ?_
  refine At.rt (vL ae ((s++v).length) am) ?_
  have ce:=(cb.aa 0 rfl).aa 1 rfl
  exact hR ce.drop ⟨(vL ae ((s++v).length) am),ca,rfl,eV a6 (by exact Rk (by omega)),rfl,rfl⟩
 refine At.rp 6 2 [(26,vI (s.length:Int)),(27,vI (v.length:Int))] ?_
 refine Op.vq 28 ((s.length:Int)+(v.length:Int)) ?_
 refine Op.pg 13 [(31,.bool (decide (((s.length:Int)+(v.length:Int))>(u:Int))))] ?_
 refine At.fd (((s.length:Int)+(v.length:Int))>(u:Int)) 31 14 19 (fun ef=>?_) fun eh=>?_
 ·refine At.rp 10 2 [(32,vL D s.length u),(33,vI i)] ?_
  have ej:=J.GC
  have cf:=J.take i.toNat (by omega)
  refine Op.Bm (T:=41) (E:=45) (sz:=3) (dx:=32) (x:=32) (hi:=33) (ao:=D) (n:=s.length) (c:=u) (dst:=34) (k:=.i64) (m:=i) (by kernel_rfl) (by kernel_rfl) (by kernel_rfl) (by kernel_rfl) (by omega) (by omega) ?_
  refine Op.px 2 [(35,vI (s.length:Int)),(36,vI (v.length:Int))] ?_
  refine Op.vq 37 ((s.length:Int)+(v.length:Int)) ?_
  refine Op.px 1 [(38,vI i)] ?_
  refine Op.vq 39 (((s.length:Int)+(v.length:Int))-i) ?_
  refine Op.MN (x:=34) (y:=39) (t:=41) (t':=3) (dst:=40) (E:=45) (dx:=32) (d:=dh) (ao:=(eZ D 0 u 3)) (n:=i.toNat) (cap:=u) (xs:=(s.take i.toNat)) (m:=((s.length:Int)+(v.length:Int))-i) (by kernel_rfl) (by kernel_rfl) (by kernel_rfl) (by kernel_rfl) (by kernel_rfl) (cf.toH hs 0 rfl) (by kernel_rfl) (by omega) (by(simp only[e_] at *;omega)) (by(simp only[e_] at *;omega)) hs fun G em en I ep a7 er a8=>?_
  have ch:((s.take i.toNat)++List.replicate (((s.length:Int)+(v.length:Int))-i:Int).toNat (Kd.zv dh)).length=(s.take i.toNat).length+(((s.length:Int)+(v.length:Int))-i:Int).toNat:=by rw[cA,p7]
  generalize et:(s.take i.toNat)++List.replicate (((s.length:Int)+(v.length:Int))-i:Int).toNat (Kd.zv dh)=ar at a7 ch
  refine Op.pg 15 [(9,vL (some ⟨G,0,none⟩) ((s.take i.toNat).length+(((s.length:Int)+(v.length:Int))-i:Int).toNat) I)] ?_
  refine At.rp 5 2 [(41,vL (some ⟨G,0,none⟩) ((s.take i.toNat).length+(((s.length:Int)+(v.length:Int))-i:Int).toNat) I),(42,vI i)] ?_
  refine Op.sq 41 45 3 32 41 42 (some ⟨G,0,none⟩) ((s.take i.toNat).length+(((s.length:Int)+(v.length:Int))-i:Int).toNat) I 43 .i64 i (by omega) (by(simp only[e_] at *;omega)) ?_
  refine Op.px 1 [(44,vL X v.length Y)] ?_
  obtain⟨ex,ci,ck⟩:=eT.slice (P:=prog) (V.toH a8 2 rfl)
  refine Op.bE (x:=43) (y:=44) (t:=41) (t':=41) (dst:=45) (E:=45) (dx:=32) (d:=dh) (ao:=(some ⟨G,0,none⟩)) (n:=((s.take i.toNat).length+(((s.length:Int)+(v.length:Int))-i:Int).toNat)) (c:=I) (lo:=i.toNat) (ys:=v) (by kernel_rfl) (by kernel_rfl) (by kernel_rfl) a7 (by(simp only[e_] at *;omega)) a8 0 rfl ci ck rfl (fun _ _ _=>trivial) fun eA eB a9 bc=>?_
  have co:=Bv (xs:=ar) (ys:=v) (lo:=i.toNat) (by(simp only[e_] at *;omega))
  generalize eE:putAt ar i.toNat (List.take (ar.length-i.toNat) v)=aw at a9 co
  refine Op.gt 16 ?_
  refine At.dw (fun _=>False) [(0,true),(1,true),(2,true),(3,true),(4,true),(5,true),(6,true),(7,true),(1008,false),(8,false)] ?_
  refine Op.px 3 [(46,vL (some ⟨G,0,none⟩) ((s.take i.toNat).length+(((s.length:Int)+(v.length:Int))-i:Int).toNat) I),(47,vI i),(48,vI (v.length:Int))] ?_
  refine Op.vq 49 (i+(v.length:Int)) ?_
  refine Op.sq 41 45 3 32 46 49 (some ⟨G,0,none⟩) ((s.take i.toNat).length+(((s.length:Int)+(v.length:Int))-i:Int).toNat) I 50 .i64 (i+(v.length:Int)) (by omega) (by(simp only[e_] at *;omega)) ?_
  refine Op.px 2 [(51,vL D s.length u),(52,vI i)] ?_
  refine Op.sq 41 45 3 32 51 52 D s.length u 53 .i64 i (by omega) (by omega) ?_
  refine Op.ba ?_
  obtain⟨eI,c3,c4⟩:=eT.slice (P:=prog) (jX.Gi (J.toH bc 1 rfl) i.toNat (by omega))
  refine Op.bE (x:=50) (y:=53) (t:=41) (t':=41) (dst:=54) (E:=45) (dx:=32) (d:=dh) (ao:=(some ⟨G,0,none⟩)) (n:=((s.take i.toNat).length+(((s.length:Int)+(v.length:Int))-i:Int).toNat)) (c:=I) (lo:=(i+(v.length:Int):Int).toNat) (ys:=s.drop i.toNat) (by kernel_rfl) (by kernel_rfl) (by kernel_rfl) a9 (by(simp only[e_] at *;omega)) bc 0 rfl c3 c4 rfl (fun _ _ _=>trivial) fun c5 eJ bd c6=>?_
  have c8:=Bv (xs:=aw) (ys:=s.drop i.toNat) (lo:=(i+(v.length:Int):Int).toNat) (by(simp only[e_] at *;omega))
  generalize eK:putAt aw (i+(v.length:Int):Int).toNat (List.take (aw.length-(i+(v.length:Int):Int).toNat) (s.drop i.toNat))=eL at bd c8
  refine Op.gt 17 ?_
  refine At.go 18 2 [(6,vL (some ⟨G,0,none⟩) ((s.take i.toNat).length+(((s.length:Int)+(v.length:Int))-i:Int).toNat) I)] ?_
  refine At.rt (vL (some ⟨G,0,none⟩) ((s.take i.toNat).length+(((s.length:Int)+(v.length:Int))-i:Int).toNat) I) ?_
  have c9:=((c6.aa 0 rfl).aa 2 rfl).aa 2 rfl
  exact hR c9.drop.drop ⟨(vL (some ⟨G,0,none⟩) ((s.take i.toNat).length+(((s.length:Int)+(v.length:Int))-i:Int).toNat) I),c5,rfl,eV bd (by(subst_vars;exact Rl h0 hi rfl rfl)),rfl,rfl⟩
 refine At.rp 6 3 [(56,vL D s.length u),(57,vI (s.length:Int)),(58,vI (v.length:Int))] ?_
 refine Op.vq 59 ((s.length:Int)+(v.length:Int)) ?_
 obtain⟨O,a0,eQ,e1⟩:=aJ.MK J ((s.length:Int)+(v.length:Int):Int).toNat (by omega)
 refine Op.Bm (T:=41) (E:=45) (sz:=3) (dx:=32) (x:=56) (hi:=59) (ao:=D) (n:=s.length) (c:=u) (dst:=60) (k:=.i64) (m:=(s.length:Int)+(v.length:Int)) (by kernel_rfl) (by kernel_rfl) (by kernel_rfl) (by kernel_rfl) (by omega) (by omega) ?_
 refine Op.pg 20 [(0,vL (eZ D 0 u 3) (((s.length:Int)+(v.length:Int):Int).toNat) u)] ?_
 refine At.rp 8 4 [(61,vL X v.length Y),(62,vL (eZ D 0 u 3) (((s.length:Int)+(v.length:Int):Int).toNat) u),(63,vI i),(64,vI (v.length:Int))] ?_
 refine Op.vq 65 (i+(v.length:Int)) ?_
 refine Op.sq 41 45 3 32 62 65 (eZ D 0 u 3) (((s.length:Int)+(v.length:Int):Int).toNat) u 66 .i64 (i+(v.length:Int)) (by omega) (by omega) ?_
 obtain⟨be,bi,e2,e3,e4,bj,da,e5,e6,e7,e8⟩:=V.cases (by omega)
 obtain⟨bk,e9,db,fa,fg,bm,dc,dd,fi,df,fj⟩:=a0.cases (by omega)
 have ad:=hs
 rw[da,dc] at ad
 have dg:=bj;have dj:=bm
 have dk:X=some ⟨be,bi,none⟩:=by injection bj
 have dl:∃o2,(eZ (eZ D 0 u 3) (i+(v.length:Int):Int).toNat u 3)=some ⟨bk,o2,none⟩:=by injection bm with hq _ _;exact Nf hq _ _ _
 refine Op.overlaps (f:=264) (x:=61) (y:=66) (t:=41) (tb:=4) (E:=45) (sz:=3) (dx:=32) (dst:=67) (ts:=#[41,41]) (b1:=be) (o1:=bi) (n1:=v.length) (c1:=Y) (b2:=bk) (n2:=(((s.length:Int)+(v.length:Int):Int).toNat-(i+(v.length:Int):Int).toNat)) (c2:=(u-(i+(v.length:Int):Int).toNat)) (a2:=(eZ (eZ D 0 u 3) (i+(v.length:Int):Int).toNat u 3)) (by kernel_rfl) (by kernel_rfl) (by kernel_rfl) (by rw[←dk];kernel_rfl) (by kernel_rfl) dl (ad.ah 1 rfl) (ad.ah 0 rfl) (fun h=>ad.ne 0 1 rfl rfl rfl h.symm) ?_ ?_
 ·have fl:=dd;have hle:=df;have hlen:0<O.length:=by omega
  have dp:=jW (Kd.sz dh) (show 1≤db by omega)
  simp only[show dh.sz=3 from rfl] at dp hle;omega
 clear dg dj
 refine Op.pg 21 [(68,.bool true)] ?_
 refine At.bW 68 22 ?_
 refine At.dw (fun _=>False) [(0,true),(1,true),(2,true),(3,true),(4,true),(5,true),(6,true),(7,true),(1008,false),(8,false)] ?_
 refine Op.px 3 [(69,vL (eZ D 0 u 3) (((s.length:Int)+(v.length:Int):Int).toNat) u),(70,vI i),(71,vI (v.length:Int))] ?_
 refine Op.vq 72 (i+(v.length:Int)) ?_
 refine Op.sq 41 45 3 32 69 72 (eZ D 0 u 3) (((s.length:Int)+(v.length:Int):Int).toNat) u 73 .i64 (i+(v.length:Int)) (by omega) (by omega) ?_
 refine Op.px 2 [(74,vL (eZ D 0 u 3) (((s.length:Int)+(v.length:Int):Int).toNat) u),(75,vI i)] ?_
 refine Op.sq 41 45 3 32 74 75 (eZ D 0 u 3) (((s.length:Int)+(v.length:Int):Int).toNat) u 76 .i64 i (by omega) (by omega) ?_
 refine Op.ba ?_
 obtain⟨fp,dq,du⟩:=eT.slice (P:=prog) (jX.Gi (a0.toH hs 0 rfl) i.toNat (by omega))
 refine Op.bE (x:=73) (y:=76) (t:=41) (t':=41) (dst:=77) (E:=45) (dx:=32) (d:=dh) (ao:=(eZ D 0 u 3)) (n:=(((s.length:Int)+(v.length:Int):Int).toNat)) (c:=u) (lo:=(i+(v.length:Int):Int).toNat) (ys:=O.drop i.toNat) (by kernel_rfl) (by kernel_rfl) (by kernel_rfl) a0 (by omega) hs 0 rfl dq du rfl (fun _ _ _=>trivial) fun fr ft bo bt=>?_
 have dv:=Bv (xs:=O) (ys:=O.drop i.toNat) (lo:=(i+(v.length:Int):Int).toNat) (by omega)
 generalize fv:putAt O (i+(v.length:Int):Int).toNat (List.take (O.length-(i+(v.length:Int):Int).toNat) (O.drop i.toNat))=a1 at bo dv
 refine Op.gt 23 ?_
 refine At.rp 5 2 [(78,vL (eZ D 0 u 3) (((s.length:Int)+(v.length:Int):Int).toNat) u),(79,vI i)] ?_
 refine Op.sq 41 45 3 32 78 79 (eZ D 0 u 3) (((s.length:Int)+(v.length:Int):Int).toNat) u 80 .i64 i (by omega) (by omega) ?_
 refine Op.px 1 [(81,vL X v.length Y)] ?_
 obtain⟨fw,dC,dE⟩:=eT.slice (P:=prog) (V.toH bt 1 rfl)
 refine Op.bE (x:=80) (y:=81) (t:=41) (t':=41) (dst:=82) (E:=45) (dx:=32) (d:=dh) (ao:=(eZ D 0 u 3)) (n:=(((s.length:Int)+(v.length:Int):Int).toNat)) (c:=u) (lo:=i.toNat) (ys:=v) (by kernel_rfl) (by kernel_rfl) (by kernel_rfl) bo (by omega) bt 0 rfl dC dE rfl (fun _ _ _=>trivial) fun dT fx b3 d0=>?_
 have d1:=Bv (xs:=a1) (ys:=v) (lo:=i.toNat) (by omega)
 generalize f0:putAt a1 i.toNat (List.take (a1.length-i.toNat) v)=f1 at b3 d1
 refine Op.gt 24 ?_
 refine At.go 25 2 [(6,vL (eZ D 0 u 3) (((s.length:Int)+(v.length:Int):Int).toNat) u)] ?_
 refine At.rt (vL (eZ D 0 u 3) (((s.length:Int)+(v.length:Int):Int).toNat) u) ?_
 have d2:=(d0.aa 0 rfl).aa 1 rfl
 exact hR d2.drop ⟨(vL (eZ D 0 u 3) (((s.length:Int)+(v.length:Int):Int).toNat) u),dT,rfl,eV b3 (by(subst_vars;exact Rm h0 hi rfl (by omega) ‹_› (by omega))),rfl,rfl⟩
theorem Kz (B:World) (h:ax) (g:GH) (hg:bl g h) (ar:bq g) (w:ak) (D:Nat) (G:Array Value) (cw:ak→Bool) (aw:fc prog D) (a0:qL prog g D G (fun x:ak=>.agg #[.int .i64 x.Client,.int .i64 x.Kind,.string (bp x.af)]) (fun _=>True) cw) (U:Nat) (a1:g U=some (.cells #[.func (.func D) #[] G] 178 (0,0))) (I:Nat) (out:List ak) (u:ay) (V:lU g I out u) (h1:out.length≤1000000) (hs:St h g (aV [u]) g [u] h):
  aE prog B 201 #[.agg #[vI w.Client,vI w.Kind,vS w.af],vP U,vP I] h g [u] (fun a3 g' L'=>∃X,a3=.bool (cw w)∧lU g' I (if cw w=true then out++[w] else out) X∧g'=g∧L'=[X]):=by
 refine aE.aq func201 fun R hR=>?_
 refine At.rg 2 ?_
 refine Op.bx 3 45 0 #[vI w.Client,vI w.Kind,vS w.af] hs fun a4 b3 J=>?_
 refine Op.pg 1 [] ?_
 refine At.rg 4 ?_
 refine Op.l1 178 1 6 0 (.func (.func D) #[] G) (J.sub _ _ a1) ?_
 refine Op.la 45 3 7 0 3 [vI w.Client,vI w.Kind,vS w.af] (J.ah 0 rfl) ?_
 refine Op.cv (some 8) 6 #[7] #[45] D #[] G [] [[(a4,Obj.cells #[vI w.Client,vI w.Kind,vS w.af] 45 (0,0))],u] ((#[.agg #[vI w.Client,vI w.Kind,vS w.af]]:Array Value)++G) aw (GB (by kernel_rfl)) J (a0 _ _ _ (aM.refl _) J.sub ar w (by((try dsimp only)<;>(first|omega|trivial|(simp only[bY,dU];omega))))) (fun _ _ h=>absurd h (dB _)) ?_
 rintro _ a5 _ b4 a6 Y ⟨rfl,b5,rfl⟩;subst a5;clear a6
 refine Op.pg 2 [(5,.bool (cw w))] ?_
 refine At.go 3 1 [(9,.bool (cw w))] ?_
 refine At.di (cw w) 9 4 5 (fun b6=>?_) fun b8=>?_
 ·refine At.rg 5 ?_
  obtain⟨ca,a7,a8,ab⟩:=V
  obtain⟨a9,bc,rfl⟩:=ab.aj
  have bd:=(Y.aa 0 rfl).aa 1 rfl
  have O:=St.un [a7] a8 bd
  refine Op.l1 41 2 10 0 (vL a9 out.length bc) (O.ah 0 rfl) ?_
  refine Op.la 45 3 11 0 3 [vI w.Client,vI w.Kind,vS w.af] (O.ah 2 rfl) ?_
  refine Op.ls 12 1 45 #[vI w.Client,vI w.Kind,vS w.af] O fun cb ce ad=>?_
  refine Op.ap 10 12 41 41 13 45 32 dh (ys:=[w]) ab ad 2 (⟨_,_,rfl,rfl,Reads.nil⟩) (by(simp only[bY,dU];omega)) (fun _ _ _=>trivial) (eT.lit (m:=1) (sz:=3) (ad.ah 0 rfl) (news:=[vI w.Client,vI w.Kind,vS w.af]) rfl rfl (by simp[Value.oneCell']) _) fun cf ch ci ae be ck=>?_
  obtain⟨a46,am,rfl⟩:=ae.aj
  have bi:=(be.aa 0 rfl).drop
  refine Op.s1 41 2 13 0 (vL a46 ((out++([w])).length) am) 0 #[vL a46 ((out++([w])).length) am] bi (fun _=>trivial) fun co bj=>?_
  refine Op.gt 5 ?_
  refine At.go 6 2 [(4,.bool (cw w))] ?_
  obtain⟨bk,bm,bo⟩:=St.bJ (Q:=lU g I (out++([w]))) 2 bj ⟨_,_,rfl,ae⟩
  refine At.rt (.bool (cw w)) ?_
  have bt:=(bo.aa 0 rfl).aa 1 rfl
  exact hR bt.drop ⟨bk,(aS (by rfl)),bm.eq (by(rw[aO ‹_›];done)),rfl,rfl⟩
 exact At.gr 6 2 4 (.bool (cw w)) (hR Y.drop ⟨u,(aS (by rfl)),V.eq (by(rw[aC (kH.1 ‹_›)];done)),rfl,rfl⟩)
theorem RX (B:World) (h:ax) (g:GH) (hg:bl g h) (a9:bq g) (aw:Value) (s:List ak) (a0:av g 45 dh aw s) (V:Nat) (Y:Array Value) (cw:ak→Bool) (bc:fc prog V) (bd:qL prog g V Y (fun x:ak=>.agg #[.int .i64 x.Client,.int .i64 x.Kind,.string (bp x.af)]) (fun _=>True) cw) (G:Nat) (be:g G=some (.cells #[.func (.func V) #[] Y] 178 (0,0))) (D:Nat) (out:List ak) (O:ay) (bi:lU g D out O) (h1:s.length≤1000000) (h2:out.length≤1000000) (hs:St h g (aV [O]) g [O] h):
  aE prog B 234 #[aw,.func (.func 201) #[] #[vP G,vP D]] h g [O] (fun bj g' L'=>∃a1,bj=.int .i64 (fm cw s)∧lU g' D (out++(List.find? cw s).toList) a1∧g'=g∧L'=[a1]):=by
 obtain⟨a3,ab,rfl⟩:=a0.aj
 refine aE.aq func234 fun R hR=>?_
 refine At.go 1 1 [] ?_
 refine At.go 2 3 [(7,vI (s.length:Int)),(8,vI 0)] ?_
 have bk:∀(m:Nat) (i:Int) (o2:List ak) (U:ay) (ad:ax) (hm:s.length-i.toNat<m) (h0:0≤i) (h3:i≤s.length) (I:findAt cw s i) (ho:o2=out) (ae:lU g D o2 U) (J:St h g (aV [O]) g [U] ad),At (bX prog B 234 f234 R) [] 2 [(0,vL a3 s.length ab),(1,.func (.func 201) #[] #[vP G,vP D]),(7,vI (s.length:Int)),(8,vI i)] ad:=by
  intro m;induction m with
  |zero=>intros;omega
  |succ m bm=>
   intro i o2 U ad hm h0 h3 I ho ae J
   refine At.go 3 1 [(9,.bool (decide (i<(s.length:Int))))] ?_
   refine At.fd (i<(s.length:Int)) 9 4 10 (fun b8=>?_) fun a4=>?_
   ·refine At.go 5 2 [(5,vI i)] ?_
    refine At.rp 6 3 [(11,.func (.func 201) #[] #[vP G,vP D]),(12,vL a3 s.length ab),(13,vI i)] ?_
    obtain⟨u,X⟩:=cG s i
    obtain⟨bo,a5,ca,cb,bt,b3,am⟩:=av.bF a0 _ X
    cases bt
    refine Op.iq 41 45 3 32 s.length ab 12 13 14 bo a5 i ?_
    replace am:cut _ _ _=[vI u.Client,vI u.Kind,vS u.af]:=am
    refine Op.la 45 14 15 (a5+i.toNat*3) 3 [vI u.Client,vI u.Kind,vS u.af] (J.sub _ _ b3) ?_ (hv:=am)
    refine Op.cv (some 16) 11 #[15] #[45] 201 #[] #[vP G,vP D] [U] [] #[.agg #[vI u.Client,vI u.Kind,vS u.af],vP G,vP D] (fc.of (by kernel_rfl)) (by kernel_rfl) J (Kz _ _ _ J.sub a9 u V Y cw bc bd G be D o2 _ ae (by((try dsimp only)<;>((subst ho;omega)))) (St.pt 1 J)) (fun _ _ _=>trivial) ?_
    rintro _ b4 _ ce b5 a6 ⟨b6,rfl,a7,cf,rfl⟩;subst b4;clear b5
    refine Op.gt 6 ?_
    refine At.di (cw u) 16 7 9 (fun ar=>?_) fun a8=>?_
    ·exact At.gr 8 2 4 (vI i) (hR a6 ⟨b6,(bB (by exact wB I X ar)),a7.eq (by(subst ho;rw[aO ar];exact Rn I X ar h0)),rfl,rfl⟩)
    refine At.rg 2 ?_
    refine Op.vq 18 (i+1) ?_
    exact Op.pg 2 [(8,vI (i+1))] (At.ke (bm (i+1) (if cw u=true then o2++[u] else o2) _ _ (by omega) (by omega) (by omega) (by exact xP I h0 X a8) (by rw[aC (kH.1 a8)];exact ho) a7 a6))
   exact At.gr 11 1 4 (vI (-1)) (hR J ⟨U,(bB (by exact wC I a4)),ae.eq (by(subst ho;exact Ro I a4)),rfl,rfl⟩)
 exact At.ke (bk _ 0 out _ _ (bM _) (by omega) (by omega) (by exact xO _ _) (by rfl) bi hs)
theorem RY (B:World) (h:ax) (g:GH) (hg:bl g h) (bt:bq g) (b3:Value) (s:List ak) (V:ay) (am:aJ 45 dh g b3 s V) (Y:Nat) (ar:Array Value) (cw:ak→Bool) (b4:fc prog Y) (b5:qL prog g Y ar (fun x:ak=>.agg #[.int .i64 x.Client,.int .i64 x.Kind,.string (bp x.af)]) (fun _=>True) cw) (J:Nat) (b6:g J=some (.cells #[.func (.func Y) #[] ar] 178 (0,0))) (I:Nat) (out:List ak) (ab:ay) (c6:lU g I out ab) (h1:s.length≤1000000) (h2:out.length+s.length≤1000000) (hs:St h g (aV [V,ab]) g [V,ab] h):
  aE prog B 200 #[b3,.func (.func 201) #[] #[vP J,vP I]] h g [V,ab] (fun c8 g' L'=>∃v0 b8 ca,c8=v0∧aJ 45 dh g' v0 (List.filter (fun w=>!cw w) s) b8∧lU g' I (out++List.filter cw s) ca∧g'=g∧L'=[ca,b8]):=by
 obtain⟨aw,a0,rfl⟩:=am.aj
 refine aE.aq func200 fun R hR=>?_
 refine At.go 1 1 [] ?_
 refine At.rp 4 2 [(8,vL aw s.length a0),(9,.func (.func 201) #[] #[vP J,vP I])] ?_
 have a1:=hs.gz
 have c9:=am.fY hs
 refine Op.le (some 10) 1 hs (RX _ _ _ hs.iO (bt.mono a1) _ _ c9 Y ar cw b4 (b5.mono a1) J (a1 _ _ b6) I out _ (c6.mono a1) (by(try dsimp only)<;>omega) (by(try dsimp only)<;>omega) (St.pt 1 hs.freeze.1)) (fun _ _ _ hp=>by obtain⟨_,_,_,a3,_⟩:=hp;exact a3) ?_
 rintro _ _ ed cb ⟨da,rfl,a4,a3,rfl⟩;clear a3
 replace a4:=a4.bu (g':=g)
 refine Op.pg 2 [(5,vI (fm cw s))] ?_
 refine At.go 3 2 [(12,.bool ((fm cw s)==((-1):Int)))] ?_
 refine At.fd ((fm cw s)=((-1):Int)) 12 4 6 (fun ee=>?_) fun ad=>?_
 ·refine At.go 5 2 [(4,vL aw s.length a0)] ?_
  refine At.rt (vL aw s.length a0) ?_
  have db:=(cb.aa 0 rfl).aa 1 rfl
  exact hR db ⟨(vL aw s.length a0),V,da,rfl,eV am (by exact(E8 (Aw ‹_›).1).symm),a4.eq (by(rw[(Aw ‹_›).1,(Aw ‹_›).2];rfl)),rfl,rfl⟩
 refine At.rp 3 1 [(14,vI (fm cw s))] ?_
 refine Op.cE 15 ((fm cw s)+1) (by(have:=(wS ad).2.2;omega)) (by(have:=(wS ad).2.2;omega)) ?_
 refine Op.pg 7 [(6,vI ((fm cw s)+1))] ?_
 have dc:∀(m:Nat) (i:Int) (k:Int) (ys:List ak) (o2:List ak) (a31:Option Addr) (D:Nat) (a5:ay) (ae:ay) (bc:ax) (hm:s.length-k.toNat<m) (h0:0≤i) (h3:i<k) (h4:k≤s.length) (G:ru s ys o2 out cw i k) (X:aJ 45 dh g (.slice a31 ys.length D) ys a5) (bd:lU g I o2 ae) (a6:St h g (aV [V,ab]) g [a5,ae] bc),At (bX prog B 200 f200 R) [] 7 [(0,vL a31 ys.length D),(1,.func (.func 201) #[] #[vP J,vP I]),(5,vI i),(6,vI k)] bc:=by
  intro m;induction m with
  |zero=>intros;omega
  |succ m ce=>
   intro i k ys o2 a31 D a5 ae bc hm h0 h3 h4 G X bd a6
   refine At.go 8 4 [(19,.bool (decide (k<(ys.length:Int))))] ?_
   refine At.fd (k<(ys.length:Int)) 19 9 15 (fun ef=>?_) fun cf=>?_
   ·refine At.rp 6 2 [(22,vL a31 ys.length D),(23,vI k)] ?_
    obtain⟨u,be⟩:=cG ys k
    obtain⟨U,O,eh,ej,dd,df,bi⟩:=jX.bF (X.toH a6 0 rfl) _ be
    cases dd
    refine Op.iq 41 45 3 32 ys.length D 22 23 24 U O k ?_
    replace bi:cut _ _ _=[vI u.Client,vI u.Kind,vS u.af]:=bi
    refine Op.la 45 24 25 (O+k.toNat*3) 3 [vI u.Client,vI u.Kind,vS u.af] df ?_ (hv:=bi)
    refine Op.al 7 45 #[vI 0,vI 0,vS []] a6 fun dg em dj=>?_
    refine Op.sg 45 7 25 0 0 #[vI u.Client,vI u.Kind,vS u.af] dj (fun _=>trivial) fun en ch=>?_
    refine Op.gt 10 ?_
    refine At.rp 4 1 [(26,.func (.func 201) #[] #[vP J,vP I])] ?_
    refine Op.la 45 7 27 0 3 [vI u.Client,vI u.Kind,vS u.af] (ch.ah 0 rfl) ?_
    have bj:=((ch.aa 1 rfl).aa 1 rfl).aa 2 rfl
    refine Op.cv (some 28) 26 #[27] #[45] 201 #[] #[vP J,vP I] [ae] [[(dg,Obj.cells #[vI u.Client,vI u.Kind,vS u.af] 45 (0,0))],a5] #[.agg #[vI u.Client,vI u.Kind,vS u.af],vP J,vP I] (fc.of (by kernel_rfl)) (by kernel_rfl) bj (Kz _ _ _ bj.sub bt u Y ar cw b4 b5 J b6 I o2 _ bd (by((try dsimp only)<;>((have:=G.len;have:=Rs G h0;omega)))) (St.pt 1 bj)) (fun _ _ _=>trivial) ?_
    rintro _ dk _ ep dl a7 ⟨er,rfl,ci,a3,rfl⟩;subst dk;clear dl
    refine Op.pg 11 [(29,.bool (!(cw u)))] ?_
    refine At.di (!(cw u)) 29 12 14 (fun a8=>?_) fun a9=>?_
    ·replace a8:=(dG a8)
     refine At.rp 5 2 [(30,vL (some ⟨U,O,none⟩) ys.length D),(31,vI i)] ?_
     refine Op.la 45 7 32 0 3 [vI u.Client,vI u.Kind,vS u.af] (a7.ah 1 rfl) ?_
     obtain⟨bk,bm⟩:=cG ys i
     obtain⟨et,ex,eA,eB,dp,eE,ck⟩:=jX.bF (X.toH a7 2 rfl) _ bm
     cases dp
     refine Op.iq 41 45 3 32 ys.length D 30 31 33 U O i ?_
     replace ck:cut _ _ _=[vI bk.Client,vI bk.Kind,vS bk.af]:=ck
     obtain⟨_,_,eI,co,eJ,dq,du,c3,dv,c4,dC⟩:=X.cases (Nat.lt_of_le_of_lt (fH _) (fT.1 bm).1)
     cases dq;subst du
     have c5:=(fT.1 bm).1
     have dE:=jW 3 (bQ (Nat.succ_le_of_lt c5) (bQ (Nat.le_add_right _ _) (Co c3)))
     refine Op.store (T:=45) (x:=33) (y:=32) (b:=U) (o:=O+i.toNat*3) (vs:=[vI u.Client,vI u.Kind,vS u.af]) (a?:=true) (n:=3) (by kernel_rfl) (by kernel_rfl) (by kernel_rfl) (by kernel_rfl) rfl (by simp[Value.oneCell']) a7 2 rfl (by simp only[oc] at dE;simp only[show dh.sz=3 from rfl] at c4;omega) (cs:=co) (cs':=splice co (O+i.toNat*3) [vI u.Client,vI u.Kind,vS u.af]) rfl (fun _=>trivial) fun eK dT=>?_
     have d0:=aJ.put (T:=45) (b:=U) c3 dv c4 dC _ c5 (x:=u) (vs:=[vI u.Client,vI u.Kind,vS u.af]) rfl
     refine Op.kp [(0,vL (some ⟨U,O,none⟩) ys.length D),(1,.func (.func 201) #[] #[vP J,vP I]),(5,vI i),(6,vI k)] ?_
     refine Op.cast (e':=[(0,vL (some ⟨U,O,none⟩) ((ys.set i.toNat u).length) D),(1,.func (.func 201) #[] #[vP J,vP I]),(5,vI i),(6,vI k)]) (by simp only[List.length_set]) ?_
     refine Op.gt 13 ?_
     refine At.rp 3 1 [(34,vI i)] ?_
     refine Op.vq 35 (i+1) ?_
     refine Op.pg 14 [(5,vI (i+1))] ?_
     refine At.rp 3 1 [(20,vI k)] ?_
     refine Op.vq 21 (k+1) ?_
     refine Op.pg 7 [(6,vI (k+1))] ?_
     have d1:=((dT.aa 0 rfl).aa 2 rfl).aa 2 rfl
     have d2:=d1.drop
     exact At.ke (ce (i+1) (k+1) (ys.set i.toNat u) (if cw u=true then o2++[u] else o2) _ _ _ _ _ (by(have:=G.len;omega)) (by omega) (by omega) (by(have:=G.len;omega)) (by(rw[aC (kH.1 a8)];exact Rq G h0 (by omega) be a8)) d0 ci d2)
    replace a9:=(dH a9)
    refine At.rp 3 1 [(20,vI k)] ?_
    refine Op.vq 21 (k+1) ?_
    refine Op.pg 7 [(6,vI (k+1))] ?_
    have d3:=((a7.aa 0 rfl).aa 2 rfl).aa 2 rfl
    have d4:=d3.drop
    exact At.ke (ce i (k+1) ys (if cw u=true then o2++[u] else o2) _ _ _ _ _ (by(have:=G.len;omega)) (by omega) (by omega) (by(have:=G.len;omega)) (by(rw[aO a9];exact Rr G (by omega) be a9)) X ci d4)
   refine At.rp 4 2 [(36,vL a31 ys.length D),(37,vI i)] ?_
   refine Op.sq 41 45 3 32 36 37 a31 ys.length D 38 .i64 i (by omega) (by(have:=G.len;omega)) ?_
   refine Op.MP (x:=38) (t:=41) (E:=45) (dx:=32) (d:=dh) (ao:=a31) (n:=ys.length) (c:=D) (lo:=i.toNat) (by kernel_rfl) (by kernel_rfl) (by kernel_rfl) (by kernel_rfl) X (by(have:=G.len;omega)) a6 0 rfl (fun _ _ _=>trivial) fun d5 eL bo d6=>?_
   have d7:=Ng (xs:=ys) (z:=Kd.zv dh) (lo:=i.toNat) (by(have:=G.len;omega))
   generalize eQ:putAt ys i.toNat (List.replicate (ys.length-i.toNat) (Kd.zv dh))=e1 at bo d7
   refine Op.gt 16 ?_
   refine At.rp 4 2 [(39,vL a31 ys.length D),(40,vI i)] ?_
   have e2:=bo.GC
   have d8:=bo.take i.toNat (by(have:=G.len;omega))
   refine Op.Bm (T:=41) (E:=45) (sz:=3) (dx:=32) (x:=39) (hi:=40) (ao:=a31) (n:=ys.length) (c:=D) (dst:=41) (k:=.i64) (m:=i) (by kernel_rfl) (by kernel_rfl) (by kernel_rfl) (by kernel_rfl) (by omega) (by(have:=G.len;omega)) ?_
   refine Op.pg 17 [(4,vL (eZ a31 0 D 3) i.toNat D)] ?_
   refine At.rt (vL (eZ a31 0 D 3) i.toNat D) ?_
   have d9:=(d6.aa 0 rfl).aa 1 rfl
   exact hR d9 ⟨(vL (eZ a31 0 D 3) i.toNat D),d5,ae,rfl,eV d8 (by(subst_vars;exact(Ki G cf h0 (by have:=G.len;omega) _).1)),bd.eq (by exact(Ki G cf h0 (by have:=G.len;omega) []).2),rfl,rfl⟩
 exact At.ke (dc _ (fm cw s) ((fm cw s)+1) s (out++(List.find? cw s).toList) _ _ _ _ _ (bM _) (by exact(wS ad).2.2.1) (by omega) (by(have:=(wS ad).2.2.2;omega)) (by exact Rp ad) am a4 cb)
theorem KA (B:World) (h:ax) (g:GH) (hg:bl g h) (Y:bq g) (u:Nat) (t:List ak) (I:ay) (bd:i_ g u t I) (D:Nat) (G:Array Value) (cw:ak→Bool) (be:fc prog D) (ab:qL prog g D G (fun x:ak=>.agg #[.int .i64 x.Client,.int .i64 x.Kind,.string (bp x.af)]) (fun _=>True) cw) (h1:t.length≤1000000) (hs:St h g (aV [I]) g [I] h):
  aE prog B 162 #[vP u,.func (.func D) #[] G] h g [I] (fun bi g' L'=>∃v0 a0 a1,bi=v0∧aJ 45 dh g' v0 (List.filter cw t) a0∧i_ g' u (List.filter (fun w=>!cw w) t) a1∧g'=g∧L'=[a1,a0]):=by
 refine aE.aq func162 fun R hR=>?_
 refine At.rg 2 ?_
 refine Op.bx 3 178 1 #[.func (.func D) #[] G] hs fun ad c9 bj=>?_
 refine Op.pg 1 [] ?_
 refine At.rg 1 ?_
 refine Op.al 5 41 #[vN] bj fun ae da bk=>?_
 refine Op.gt 2 ?_
 refine At.rp 10 4 [(6,vP u),(9,vP u)] ?_
 obtain⟨db,bm,bo,J⟩:=bd
 obtain⟨bt,b3,rfl⟩:=J.aj
 have b4:=((bk.aa 1 rfl).aa 1 rfl).aa 2 rfl
 have a3:=St.un [bm] bo b4
 refine Op.l1 41 9 10 0 (vL bt t.length b3) (a3.ah 0 rfl) ?_
 refine Op.px 1 [(11,.func (.func 201) #[] #[vP ad,vP ae])] ?_
 obtain⟨a4,O⟩:=St.freeze (a3.aa 3 rfl)
 have a5:=iN (g:=g) ad (.cells #[.func (.func D) #[] G] 178 (0,0))
 generalize b5:dy g _=am at a4 O a5;clear b5
 replace J:=J.mono O
 replace Y:=Y.mono O
 replace ab:=ab.mono O
 have b6:=aJ.nil 45 dh am
 have b8:=a4.nl
 have ca:=(((b8.aa 2 rfl).aa 2 rfl).aa 2 rfl).aa 3 rfl
 obtain⟨dc,cb,ce⟩:=St.bJ (Q:=lU am ae ([]:List ak)) 2 ca ⟨_,_,rfl,b6⟩
 have ar:=((ce.aa 1 rfl).aa 1 rfl).aa 2 rfl
 refine Op.cl (some 12) 2 ar (RY _ _ _ ar.sub Y _ t _ J D G cw be ab ad a5 ae ([]:List ak) _ cb (by(try dsimp only)<;>omega) (by((try dsimp only)<;>((simp only[dU];omega)))) (St.pt 2 ar)) ?_
 rintro _ cf _ dd ch ci ⟨df,dg,dj,rfl,a6,ck,dk,rfl⟩;subst cf;clear ch
 obtain⟨a7,a8,rfl⟩:=a6.aj
 refine Op.px 2 [(14,vP u)] ?_
 refine Op.s1 41 14 12 0 (vL a7 (((List.filter (fun w=>!cw w) t)).length) a8) 2 #[vL a7 (((List.filter (fun w=>!cw w) t)).length) a8] ci (fun _=>trivial) fun dl co=>?_
 refine Op.gt 3 ?_
 refine At.rg 2 ?_
 obtain⟨dp,a9,c3,U⟩:=ck
 obtain⟨V,X,rfl⟩:=U.aj
 have bc:=St.un [a9] c3 co
 refine Op.l1 41 5 15 0 (vL V ((([]:List ak)++List.filter cw t).length) X) (bc.ah 0 rfl) ?_
 refine Op.pg 4 [(4,vL V ((([]:List ak)++List.filter cw t).length) X)] ?_
 have c4:=(((bc.aa 1 rfl).aa 1 rfl).aa 2 rfl).aa 3 rfl
 obtain⟨c5,aw,c6⟩:=St.bJ (Q:=i_ am u (List.filter (fun w=>!cw w) t)) 2 c4 ⟨_,_,rfl,a6⟩
 refine At.rt (vL V ((([]:List ak)++List.filter cw t).length) X) ?_
 have c8:=(c6.aa 0 rfl).aa 1 rfl
 replace aw:=aw.bu (g':=g)
 replace U:=U.bu (fun _ _ _ _ h=>h) (g':=g)
 exact hR c8.drop.jZ ⟨(vL V ((([]:List ak)++List.filter cw t).length) X),a9,c5,rfl,eV U (by simp),aw.eq (by simp),rfl,rfl⟩
theorem RZ (B:World) (h:ax) (g:GH) (hg:bl g h) (U:bq g) (w:ak) (kind:Int) (D:Nat) (V:g D=some (.cells #[vI kind] 3 (0,0))) (G:Value) (dN:List an) (I:av g 9 eU G dN) (J:Nat) (X:g J=some (.cells #[G] 40 (0,0))) (hok:True) (hp:dN.length≤1000000000):
  aE prog B 236 #[.agg #[vI w.Client,vI w.Kind,vS w.af],vP D,vP J] h g [] (fun Y g' L'=>Y=.bool (gl kind dN w)∧g'=g∧L'=[]):=by
 obtain⟨ab,ad,rfl⟩:=I.aj
 refine aE.aq func236 fun R hR=>?_
 have ae:=St.init hg
 refine At.rg 2 ?_
 refine Op.bx 3 45 0 #[vI w.Client,vI w.Kind,vS w.af] ae fun O a0 u=>?_
 refine Op.pg 1 [] ?_
 refine At.rp 11 1 [(5,vQ O 1)] ?_
 refine Op.l1 3 5 6 1 (vI w.Kind) (u.ah 0 rfl) ?_
 refine Op.l1 3 1 7 0 (vI kind) (u.sub _ _ V) ?_
 refine Op.px 2 [(9,.bool (w.Kind==kind))] ?_
 refine Op.wd (w.Kind=kind) 9 (fun am=>?_) fun ar=>?_
 ·refine Op.l1 40 2 10 0 (vL ab dN.length ad) (u.sub _ _ X) ?_
  refine Op.px 1 [(11,vQ O 2)] ?_
  refine Op.l1 9 11 12 2 (vS w.af) (u.ah 0 rfl) ?_
  refine Op.c1 13 (RR _ _ _ u.sub U _ _ I w.af (by(try dsimp only)<;>omega)) u fun a1 aw=>?_
  exact Op.pr 2 4 (.bool (dN.any (fun z=>decide (w.af=z)))) (hR aw.drop ⟨(aS (by exact Rv am)),rfl,rfl⟩)
 exact Op.pr 2 4 (.bool false) (hR u.drop ⟨(aS (by exact Rw ar)),rfl,rfl⟩)
theorem R0 (B:World) (h:ax) (g:GH) (hg:bl g h) (O:bq g) (w:ak) (G:Value) (u:List Int) (I:av g 3 (fh .i64) G u) (J:Nat) (U:g J=some (.cells #[G] 117 (0,0))) (hok:True) (hp:u.length≤1000000000):
  aE prog B 163 #[.agg #[vI w.Client,vI w.Kind,vS w.af],vP J] h g [] (fun V g' L'=>V=.bool (qg u w)∧g'=g∧L'=[]):=by
 obtain⟨X,Y,rfl⟩:=I.aj
 refine aE.aq func163 fun R hR=>?_
 have ab:=St.init hg
 refine At.rg 2 ?_
 refine Op.bx 2 45 0 #[vI w.Client,vI w.Kind,vS w.af] ab fun ad am D=>?_
 refine Op.pg 1 [] ?_
 refine At.rg 5 ?_
 refine Op.l1 117 1 4 0 (vL X u.length Y) (D.sub _ _ U) ?_
 refine Op.px 1 [(5,vP ad)] ?_
 refine Op.l1 3 5 6 0 (vI w.Client) (D.ah 0 rfl) ?_
 refine Op.c1 7 (Em _ _ _ D.sub O _ _ I w.Client (by(try dsimp only)<;>omega)) D fun ar ae=>?_
 exact Op.pr 2 3 (.bool (u.any (fun z=>decide (w.Client=z)))) (hR ae.drop ⟨(aS (by exact Ru _ _)),rfl,rfl⟩)
theorem R1 (B:World) (h:ax) (g:GH) (hg:bl g h) (D:bq g) (G:Nat) (t:List ak) (O:ay) (I:i_ g G t O) (kind:Int) (aw:Value) (dN:List an) (u:av g 9 eU aw dN) (h1:t.length≤1000000) (h2:dN.length≤1000000) (hs:St h g (aV [O]) g [O] h):
  aE prog B 208 #[vP G,vI kind,aw] h g [O] (fun a8 g' L'=>∃v0 a0 a1,a8=v0∧aJ 45 dh g' v0 (List.filter (gl kind dN) t) a0∧i_ g' G (List.filter (fun w=>!gl kind dN w) t) a1∧g'=g∧L'=[a1,a0]):=by
 obtain⟨a3,a4,rfl⟩:=u.aj
 refine aE.aq func208 fun R hR=>?_
 refine At.rg 3 ?_
 refine Op.bx 4 3 1 #[vI kind] hs fun U b3 a9=>?_
 refine Op.bx 5 40 2 #[vL a3 dN.length a4] a9 fun V b4 bc=>?_
 refine Op.pg 1 [] ?_
 refine At.rp 4 2 [(7,vP G),(8,.func (.func 236) #[] #[vP U,vP V])] ?_
 obtain⟨a5,X⟩:=St.freeze (bc.aa 1 rfl)
 have Y:=iN (g:=g) U (.cells #[vI kind] 3 (0,0))
 generalize bd:dy g _=a6 at a5 X Y;clear bd
 replace D:=D.mono X
 replace u:=u.mono X
 replace I:=I.mono X
 obtain⟨ab,J⟩:=St.freeze (a5.aa 0 rfl)
 have a7:=iN (g:=a6) V (.cells #[vL a3 dN.length a4] 40 (0,0))
 generalize be:dy a6 _=b5 at ab J a7;clear be
 replace D:=D.mono J
 replace u:=u.mono J
 replace I:=I.mono J
 replace Y:=J _ _ Y
 refine Op.cl (some 9) 1 ab (KA _ _ _ ab.sub D G t _ I 236 #[vP U,vP V] (fun x=>gl kind dN x) (fc.of (by kernel_rfl)) (fun B h g2 hle hs bi x hok=>aE.args (by rfl) (RZ B h g2 hs bi x kind U (hle _ _ Y) _ _ (u.mono hle) V (hle _ _ a7) hok (by omega))) (by(try dsimp only)<;>omega) (St.pt 1 ab)) ?_
 rintro _ bj _ b6 bk bm ⟨b8,bo,bt,rfl,ad,ae,ca,rfl⟩;subst bj;clear bk
 obtain⟨am,ar,rfl⟩:=ad.aj
 refine Op.pg 2 [(6,vL am (((List.filter (fun x=>gl kind dN x) t)).length) ar)] ?_
 refine At.rt (vL am (((List.filter (fun x=>gl kind dN x) t)).length) ar) ?_
 replace ae:=ae.bu (g':=g)
 replace ad:=ad.bu (fun _ _ _ _ h=>h) (g':=g)
 exact hR bm.jZ ⟨(vL am (((List.filter (fun x=>gl kind dN x) t)).length) ar),bo,bt,rfl,eV ad (by rfl),ae.eq (by rfl),rfl,rfl⟩
theorem R3 (B:World) (h:ax) (g:GH) (hg:bl g h) (V:bq g) (D:Nat) (t:List ak) (G:ay) (X:i_ g D t G) (ab:Value) (u:List Int) (I:av g 3 (fh .i64) ab u) (h1:t.length≤1000000) (h2:u.length≤1000000) (hs:St h g (aV [G]) g [G] h):
  aE prog B 116 #[vP D,ab] h g [G] (fun aw g' L'=>∃ad,aw=.tuple #[]∧i_ g' D (List.filter (fun w=>!qg u w) t) ad∧g'=g∧L'=[ad]):=by
 obtain⟨ae,am,rfl⟩:=I.aj
 refine aE.aq func116 fun R hR=>?_
 refine At.rg 1 ?_
 refine Op.bx 3 117 1 #[vL ae u.length am] hs fun J bc a0=>?_
 refine Op.gt 1 ?_
 refine At.rp 3 2 [(4,vP D),(5,.func (.func 163) #[] #[vP J])] ?_
 obtain⟨O,U⟩:=St.freeze (a0.aa 0 rfl)
 have ar:=iN (g:=g) J (.cells #[vL ae u.length am] 117 (0,0))
 generalize a1:dy g _=bd at O U ar;clear a1
 replace V:=V.mono U
 replace I:=I.mono U
 replace X:=X.mono U
 refine Op.cl (some 6) 1 O (KA _ _ _ O.sub V D t _ X 163 #[vP J] (fun x=>qg u x) (fc.of (by kernel_rfl)) (fun B h g2 hle hs a3 x hok=>aE.args (by rfl) (R0 B h g2 hs a3 x _ _ (I.mono hle) J (hle _ _ ar) hok (by omega))) (by(try dsimp only)<;>omega) (St.pt 1 O)) ?_
 rintro _ a4 _ be a5 a6 ⟨bi,bj,a7,rfl,a8,Y,bk,rfl⟩;subst a4;clear a5
 obtain⟨bm,bo,rfl⟩:=a8.aj
 refine Op.gt 2 ?_
 refine At.rt (.tuple #[]) ?_
 have a9:=(a6.aa 0 rfl).aa 1 rfl
 replace Y:=Y.bu (g':=g)
 exact hR a9.drop.jZ ⟨a7,rfl,Y.eq (by rfl),rfl,rfl⟩
theorem R4 (B:World) (h:ax) (g:GH) (hg:bl g h) (ad:bq g):
  aE prog B 72 #[] h g [] (fun G g' L'=>∃b0 D,G=vP b0∧i_ g' b0 [] D∧g'=g∧L'=[D]):=by
 refine aE.aq func72 fun R hR=>?_
 have I:=St.init hg
 refine At.go 1 1 [] ?_
 refine At.rp 3 1 [(1,.agg #[vN])] ?_
 refine Op.bx 2 199 1 #[vN] I fun u ae J=>?_
 refine Op.pg 2 [(0,vP u)] ?_
 have O:=aJ.nil 45 dh g
 have U:=J.nl
 have V:=(U.aa 0 rfl).aa 1 rfl
 obtain⟨X,Y,ab⟩:=St.bJ (Q:=i_ g u ([]:List ak)) 2 V ⟨_,_,rfl,O⟩
 exact At.rt (vP u) (hR ab ⟨u,X,rfl,Y.eq (by rfl),rfl,rfl⟩)
theorem Ct (B:World) (h:ax) (g:GH) (hg:bl g h) (ad:bq g) (u:Nat) (t:List ak) (D:ay) (ae:i_ g u t D) (h1:t.length≤1000000) (hs:St h g (aV [D]) g [D] h):
  aE prog B 87 #[vP u] h g [D] (fun am g' L'=>∃v0 X Y,am=v0∧aJ 45 dh g' v0 t X∧i_ g' u t Y∧g'=g∧L'=[Y,X]):=by
 refine aE.aq func87 fun R hR=>?_
 refine At.go 1 1 [] ?_
 refine At.rp 6 3 [(5,vP u)] ?_
 obtain⟨v20,ar,aw,J⟩:=ae
 obtain⟨a0,a1,rfl⟩:=J.aj
 have ab:=St.un [ar] aw hs
 refine Op.l1 41 5 6 0 (vL a0 t.length a1) (ab.ah 0 rfl) ?_
 have G:=(ab.aa 0 rfl).aa 1 rfl
 have a3:=G.gz
 have a4:=J.fY G
 refine Op.le (some 7) 0 G (RS _ _ _ G.iO (ad.mono a3) _ _ a4 (by(try dsimp only)<;>omega)) (fun _ _ _ hp=>by obtain⟨_,_,_,_,O,_⟩:=hp;exact O) ?_ (hM:=(fun _ _ h=>absurd h (dB _)))
 rintro _ _ bd a5 ⟨be,a6,rfl,I,O,rfl⟩;clear O
 obtain⟨U,V,rfl⟩:=I.aj
 replace I:=I.bu (fun _ _ _ _ h=>h) (g':=g)
 refine Op.pg 2 [(2,vL U (t.length) V)] ?_
 have a7:=((a5.aa 1 rfl).aa 1 rfl).aa 2 rfl
 obtain⟨a8,a9,bc⟩:=St.bJ (Q:=i_ g u t) 2 a7 ⟨_,_,rfl,J⟩
 exact At.rt (vL U (t.length) V) (hR bc ⟨(vL U (t.length) V),a6,a8,rfl,eV I (by rfl),a9.eq (by rfl),rfl,rfl⟩)
theorem R5 (B:World) (h:ax) (g:GH) (hg:bl g h) (O:bq g) (u:Nat) (t:List ak) (J:ay) (am:i_ g u t J) (w:ak) (h1:t.length≤1000000) (hw:w.af.length≤1000000000) (c9:lT t) (hs:St h g (aV [J]) g [J] h):
  aE prog B 211 #[vP u,.agg #[vI w.Client,vI w.Kind,vS w.af]] h g [J] (fun a7 g' L'=>∃ar,a7=.int .i64 (nW t w)∧i_ g' u (nX t w) ar∧g'=g∧L'=[ar]):=by
 refine aE.aq func211 fun R hR=>?_
 refine At.rg 2 ?_
 refine Op.bx 3 45 1 #[vI w.Client,vI w.Kind,vS w.af] hs fun a8 da X=>?_
 refine Op.pg 1 [] ?_
 refine At.rg 3 ?_
 refine Op.la 45 3 7 0 3 [vI w.Client,vI w.Kind,vS w.af] (X.ah 0 rfl) ?_
 refine Op.c1 8 (RU _ _ _ X.sub O w (by(try dsimp only)<;>omega)) X fun db aw=>?_
 refine Op.pg 2 [(9,.bool (!(jD w)))] ?_
 refine At.di (!(jD w)) 9 3 5 (fun a0=>?_) fun a1=>?_
 ·replace a0:=(dG a0)
  exact At.gr 4 1 4 (vI 90) (hR aw.drop ⟨J,(bB (by(unfold nW;simp[*];done))),am.eq (by(unfold nX;simp[*];done)),rfl,rfl⟩)
 replace a1:=(dH a1)
 obtain⟨dc,a9,bc,I⟩:=am
 obtain⟨Y,ab,rfl⟩:=I.aj
 have bd:=(aw.aa 0 rfl).aa 1 rfl
 have ad:=St.un [a9] bc bd
 refine At.dw (fun _=>False) [(0,true),(1,true),(2,true),(3,true),(4,false),(5,false),(6,true),(7,true),(8,true),(9,true),(10,true)] ?_
 refine Op.px 3 [(13,vP u)] ?_
 refine Op.lf 41 13 0 14 1 (vL Y t.length ab) (fun h=>h) (ad.ah 0 rfl) ?_
 refine Op.la 45 3 15 0 3 [vI w.Client,vI w.Kind,vS w.af] (ad.ah 2 rfl) ?_
 have U:=(ad.aa 0 rfl).aa 1 rfl
 have be:=U.gz
 have bi:=I.fY U
 refine Op.le (some 16) 0 U (RV _ _ _ U.iO (O.mono be) _ _ bi w (by(try dsimp only)<;>omega) (by(try dsimp only)<;>omega)) (fun _ _ _ hp=>by obtain⟨_,D,_⟩:=hp;exact D) ?_ (hM:=(fun _ _ h=>absurd h (dB _)))
 rintro _ _ dd G ⟨rfl,D,rfl⟩;clear D
 refine Op.pg 6 [(5,vI (ou t w:Int)),(6,.bool (mX t w))] ?_
 refine At.go 7 2 [(19,.bool (mX t w))] ?_
 refine At.di (mX t w) 19 8 10 (fun df=>?_) fun dg=>?_
 ·refine At.go 9 1 [(4,vI 0)] ?_
  have bj:=(G.aa 0 rfl).aa 1 rfl
  obtain⟨bk,bm,bo⟩:=St.bJ (Q:=i_ g u t) 2 bj ⟨_,_,rfl,I⟩
  refine At.rt (vI 0) ?_
  have bt:=(bo.aa 0 rfl).aa 1 rfl
  exact hR bt.drop ⟨bk,(bB (by(unfold nW;simp[*];done))),bm.eq (by(unfold nX;simp[*];done)),rfl,rfl⟩
 refine At.dw (fun _=>False) [(0,true),(1,true),(2,true),(4,true),(3,true),(5,false),(6,false),(7,true),(8,true)] ?_
 refine Op.px 4 [(24,vP u),(26,vP a8)] ?_
 refine Op.lf 41 24 0 25 1 (vL Y t.length ab) (fun h=>h) (G.ah 1 rfl) ?_
 refine Op.l1 3 26 27 0 (vI w.Client) (G.ah 2 rfl) ?_
 have b3:=G.gz
 have b4:=I.fY G
 refine Op.le (some 28) 0 G (RT _ _ _ G.iO (O.mono b3) _ _ b4 w.Client (by(try dsimp only)<;>omega)) (fun _ _ _ hp=>by obtain⟨_,D,_⟩:=hp;exact D) ?_ (hM:=(fun _ _ h=>absurd h (dB _)))
 rintro _ _ dj V ⟨rfl,D,rfl⟩;clear D
 refine Op.pg 11 [(21,.bool (decide ((cnt w.Client t:Int)≥8)))] ?_
 refine At.fd ((cnt w.Client t:Int)≥8) 21 12 14 (fun dk=>?_) fun dl=>?_
 ·refine At.go 9 1 [(4,vI 104)] ?_
  have b5:=(V.aa 0 rfl).aa 1 rfl
  obtain⟨b6,b8,ca⟩:=St.bJ (Q:=i_ g u t) 2 b5 ⟨_,_,rfl,I⟩
  refine At.rt (vI 104) ?_
  have cb:=(ca.aa 0 rfl).aa 1 rfl
  exact hR cb.drop ⟨b6,(bB (by(unfold nW;simp[*];done))),b8.eq (by(unfold nX;simp[*];done)),rfl,rfl⟩
 refine At.dw (fun _=>False) [(0,true),(1,true),(2,true),(3,true),(5,true),(4,true),(6,false),(7,false),(1008,false),(8,false),(9,true),(10,true),(11,false)] ?_
 refine Op.px 5 [(30,vP u),(33,vP u),(35,vI (ou t w:Int))] ?_
 refine Op.lf 41 33 0 34 1 (vL Y t.length ab) (fun h=>h) (V.ah 1 rfl) ?_
 refine Op.la 45 3 36 0 3 [vI w.Client,vI w.Kind,vS w.af] (V.ah 2 rfl) ?_
 refine Op.ls 37 1 45 #[vI w.Client,vI w.Kind,vS w.af] V fun a3 dp ce=>?_
 refine Op.ba ?_
 have cf:aJ 45 dh g (vL (some ⟨a3,0,none⟩) 1 1) [w] [(a3,Obj.cells #[vI w.Client,vI w.Kind,vS w.af] 45 (0,0))]:=aJ.lit (by kernel_rfl) (by unfold maxLen;decide) (by kernel_rfl) ⟨_,_,rfl,rfl,Reads.nil⟩
 have ae:=(ce.aa 0 rfl).aa 1 rfl
 refine Op.cl (some 38) 2 ae (RW _ _ _ ae.sub O _ t _ I (ou t w:Int) _ ([w]) _ cf (by(try dsimp only)<;>omega) (by((try dsimp only)<;>((have:=Rt t w;omega)))) (by(try dsimp only)<;>omega) (by((try dsimp only)<;>((simp only[bY,dU];omega)))) (St.pt 2 ae)) ?_
 rintro _ ch _ dq ci ck ⟨du,dv,rfl,a4,D,rfl⟩;subst ch;clear ci
 obtain⟨a5,a6,rfl⟩:=a4.aj
 refine Op.px 2 [(40,vP u)] ?_
 refine Op.s1 41 40 38 0 (vL a5 ((nV t (ou t w:Int) ([w])).length) a6) 1 #[vL a5 ((nV t (ou t w:Int) ([w])).length) a6] ck (fun _=>trivial) fun dC co=>?_
 refine Op.gt 15 ?_
 refine At.go 16 1 [(4,vI 0)] ?_
 have c3:=(co.aa 0 rfl).aa 1 rfl
 obtain⟨c4,c5,c6⟩:=St.bJ (Q:=i_ g u (nV t (ou t w:Int) ([w]))) 2 c3 ⟨_,_,rfl,a4⟩
 refine At.rt (vI 0) ?_
 have c8:=(c6.aa 0 rfl).aa 1 rfl
 exact hR c8.drop ⟨c4,(bB (by(unfold nW;simp[*];done))),c5.eq (by(unfold nX;simp[*];done)),rfl,rfl⟩
def oX (w:ak):List ak→List ak
  |[]=>[w]
  |x::xs=>if gF x w=true then x::oX w xs else w::x::xs
theorem KB (w:ak):∀xs:List ak,nV xs (ou xs w) [w]=oX w xs
  |[]=>rfl
  |x::xs=>by
   have ih:=KB w xs
   unfold nV ou at *
   unfold oX
   by_cases h:gF x w=true
   · rw[aO h,←ih,List.takeWhile_cons_of_pos (by simpa using h),bY]
     rw[show((((xs.takeWhile fun x=>gF x w).length+1:Nat):Int)).toNat=(((xs.takeWhile fun x=>gF x w).length:Int)).toNat+1 by omega]
     simp
   · rw[aC h,J5 (by simpa using h)]
     simp
theorem AY {w y:ak}:∀{xs:List ak},y∈oX w xs↔y=w∨y∈xs
  |[]=>by simp[oX]
  |x::xs=>by
   have ih:=AY (w:=w) (y:=y) (xs:=xs)
   unfold oX
   split
   · rw[ei,ih,ei]
     constructor
     · rintro(h|h|h)
       · exact .inr (.inl h)
       · exact .inl h
       · exact .inr (.inr h)
     · rintro(h|h|h)
       · exact .inr (.inl h)
       · exact .inl h
       · exact .inr (.inr h)
   · rw[ei]
theorem KC {w:ak}:∀{xs:List ak},lT xs→w ∉ xs→lT (oX w xs)
  |[],_,_=>EP _ _
  |x::xs,hs,hw=>by
   obtain⟨h1,h2⟩:=kX.1 hs
   simp only[ei,qt] at hw
   unfold oX
   split
   · rename_i h
     refine kX.2 ⟨fun y hy=>?_,KC h2 hw.2⟩
     rcases AY.1 hy with rfl|hy
     · exact h
     · exact h1 y hy
   · rename_i h
     have u:gF w x=true:=by
       cases hl:gF w x with
       |true=>rfl
       |false=>exact absurd (Q_ hl (by simpa using h)) hw.1
     refine kX.2 ⟨fun y hy=>?_,hs⟩
     rcases ei.1 hy with rfl|hy
     · exact u
     · exact Cp u (h1 y hy)
theorem E9 {w:ak} {c:Int}:∀{xs:List ak},cnt c (oX w xs)=cnt c xs+if w.Client=c then 1 else 0
  |[]=>by simp[oX,cnt]
  |x::xs=>by
   have ih:=E9 (w:=w) (c:=c) (xs:=xs)
   unfold oX
   split
   · rw[cnt,ih,cnt];omega
   · rw[cnt,cnt];omega
theorem CO (xs:List ak) (w:ak):(nX xs w=xs∧¬(jD w=true∧mX xs w=false∧(cnt w.Client xs:Int)<8))∨(nX xs w=oX w xs∧nW xs w=0∧jD w=true∧mX xs w=false∧(cnt w.Client xs:Int)<8):=by
  unfold nX nW
  by_cases h1:jD w=false
  · left;simp[h1]
  · rw[aC h1,aC h1]
    by_cases h2:mX xs w=true
    · left;simp[h2]
    · rw[aC h2,aC h2]
      by_cases h3:(cnt w.Client xs:Int)≥8
      · left;rw[aO h3];exact⟨rfl,fun h=>by omega⟩
      · right;rw[aC h3,aC h3];exact⟨KB w xs,rfl,by simpa using h1,by simpa using h2,by omega⟩
section
variable {xs out:List ak} {w x:ak} {i:Int} {put b:Bool}
end
def yc (ops:Array Oper) (kb:Nat):List (Nat×Bool)→List (Nat×Bool)→List (Nat×Bool)→Array Bool→Bool
  |(i,true)::P,A,B,listed=>Region.free .any ops listed i&&(Region.ready .any ops listed).contains i&&!(Nat.beq i kb)&&(!(sR ops i)||((ops[kb]?).isNone||depOn ops 10 kb i))&&yc ops kb P A B (listed.setIfInBounds i true)
  |[],(i,false)::A,(j,false)::B,listed=>!(Nat.ble 1000 i)&&!(Nat.ble 1000 j)&&((Region.ready .any ops listed==[i,j])||(Region.ready .any ops listed==[j,i]))&&!(Nat.beq i kb)&&!(Nat.beq j kb)&&
     nM ops kb false A (listed.setIfInBounds i true)&&nM ops kb false B (listed.setIfInBounds j true)
  |_,_,_,_=>false
section
variable {P:Program} {ops:Array Oper} {S2:World→Prop} {K:Act→World→Prop} {kb:Nat}
theorem R6:∀(Q A B:List (Nat×Bool)) (T:World→Prop) (listed:Array Bool) (a:Act) (w:World) (bI:Nat),iu (Q++A)≤bI→iu (Q++B)≤bI→uq ops listed→yc ops kb Q A B listed=true→listed.getD kb false=false→
    mB P ops S2 T (Q++A) K a w→mB P ops S2 T (Q++B) K a w→pX P ops kb T K bI listed a w:=by
  intro Q
  induction Q with
  |nil=>
   intro A B T listed a w bI u I hcl hok D hA hB
   match A,B,hok with
   |(i,false)::A,(j,false)::B,hok=>
    simp only[yc,b_,gN,jh,j6] at hok
    obtain⟨⟨⟨⟨⟨⟨h1,h2⟩,h3⟩,h4⟩,h5⟩,h6⟩,h7⟩:=hok
    have hik:i≠kb:=fun e=>by subst e;simp at h4
    have hjk:j≠kb:=fun e=>by subst e;simp at h5
    obtain⟨bI,rfl⟩:∃m,bI=m+1:=⟨bI-1,by simp[iu,h1] at u;omega⟩
    have J:iu A≤bI:=by simp[iu,h1] at u;omega
    have O:iu B≤bI:=by simp[iu,h2] at I;omega
    have U:i∈Region.ready .any ops listed:=by rcases h3 with h3|h3<;>rw[h3]<;>simp
    have ab:j∈Region.ready .any ops listed:=by rcases h3 with h3|h3<;>rw[h3]<;>simp
    rw[eN,zf h1] at hA
    rw[eN,zf h2] at hB
    refine⟨fun h0=>(by rw[h0] at U;cases U),fun k hk=>?_⟩
    have hkk:k=i∨k=j:=by rcases h3 with h3|h3<;>rw[h3] at hk<;>simp at hk<;>omega
    rcases hkk with rfl|rfl
    · exact nK (fun V w' h'=>⟨fun _=>h'.1,A9 A kb T false T _ V w' bI J (nw hcl U) h6 (fun _=>⟨rfl,by rw[getD_set_ne false hik];exact D⟩) (fun hz=>by cases hz) h'.2⟩) hA
    · exact nK (fun V w' h'=>⟨fun _=>h'.1,A9 B kb T false T _ V w' bI O (nw hcl ab) h7 (fun _=>⟨rfl,by rw[getD_set_ne false hjk];exact D⟩) (fun hz=>by cases hz) h'.2⟩) hB
  |cons p Q ih=>
   obtain⟨i,b⟩:=p
   intro A B T listed a w bI u I hcl hok D hA hB
   cases b with
   |false=>simp[yc] at hok
   |true=>
    obtain⟨bI,rfl⟩:∃m,bI=m+1:=⟨bI-1,by simp[iu] at u;omega⟩
    have J:iu (Q++A)≤bI:=by simp[iu] at u;omega
    have O:iu (Q++B)≤bI:=by simp[iu] at I;omega
    obtain⟨o,v,hi,hd,hy,hS,hA⟩:=hA
    obtain⟨o',ad,hi',ar,X,aw,hB⟩:=hB
    rw[hi] at hi'
    cases hi'
    simp only[yc,b_,gN,jh] at hok
    obtain⟨⟨⟨⟨h1,h2⟩,h3⟩,h4⟩,h5⟩:=hok
    have hik:i≠kb:=fun e=>by subst e;simp at h3
    have h2:i∈Region.ready .any ops listed:=by simpa using h2
    have ae:v=ad:=by
      rcases hy with ⟨hw,hr⟩|⟨hw,rfl⟩
      · rcases X with ⟨_,am⟩|⟨G,_⟩
        · have hs:(if nL o=true then T else fun _=>True) w:=by split;exact hS;trivial
          have e1:=hr w hs
          have e2:=am w hs
          rw[e1] at e2
          cases e2
          rfl
        · rw[hw] at G;cases G
      · rcases X with ⟨G,_⟩|⟨_,rfl⟩
        · rw[hw] at G;cases G
        · rfl
    subst ae
    have Y:=ih A B T (listed.setIfInBounds i true) (a.put o.dst v) w bI J O (nw hcl h2) h5 (by rw[getD_set_ne false hik];exact D) hA hB
    cases hn:nL o with
    |false=>
     rw[hn] at hy
     exact ur (S':=fun _=>True) hi hd hik (.inl fun _=>trivial) bI listed a w hcl (.inl fun _=>trivial) (Region.free_spec hi h1) h2 (by simpa using hy) trivial (fun _=>hS) Y
    |true=>
     rw[hn,aO rfl] at hy
     have hne:sR ops i=true:=by simp[sR,hi,hn]
     rw[hne] at h4
     simp only[CY,false_or] at h4
     refine ur (S':=T) hi hd hik (.inr ⟨fun _ h=>h,fun ok hok=>?_⟩) bI listed a w hcl (.inr D) (Region.free_spec hi h1) h2 hy hS (fun _=>hS) Y
     rcases h4 with h4|h4
     · rw[hok] at h4;simp at h4
     · exact⟨10,h4⟩
end
section
variable {C:fP} {ds:List Deferred} {i:Nat} {e:Env} {h:ax}
def KD (k:List Item) (Q A B:List (Nat×Bool)):Bool:=match uz k with
  |some ops=>Nat.ble (iu (Q++A)) ops.size&&(Nat.ble (iu (Q++B)) ops.size&&yc ops (qB A) Q A B (Array.replicate ops.size false))
  |none=>false
theorem At.gQ (hm:C.P.follows .mixedOrders=true) (M:Nat→Prop) (Q A B:List (Nat×Bool)) (hL:KD (pt C.code i) Q A B=true) (u:Op C ds i h M (Q++A) e h) (D:Op C ds i h M (Q++B) e h):At C ds i e h:=by
  intro a w f is
  have u:=u a {w with drawn:=w.drawn+1} f is.oa (ez.refl _ _)
  have D:=D a {w with drawn:=w.drawn+1} f is.oa (ez.refl _ _)
  generalize pt C.code i=k at *
  unfold KD at hL
  split at hL
  · rename_i ops hd
    unfold uz at hd
    split at hd
    · rename_i id G k'
      simp only[fu] at hd
      subst hd
      simp only[b_] at hL
      have h1:=kV hL.1
      have h2:=kV hL.2.1
      refine eY.oa hm fun t=>A7 (kb:=qB A) (S:=holds C h M) _ _ _ _ _ (R6 Q A B _ _ _ _ _ h1 h2 ?_ hL.2.2 ?_ u D)
      · intro k o ho hk
        have hlt:k<G.size:=(mP.1 ho).1
        simp[hlt] at hk
      · simp only[Ba,Bb];split<;>rfl
    · cases hd
  · cases hL
end
inductive LT where
  |j9
  |mv (i:Nat) (b:Bool) (t:LT)
  |gQ (i j:Nat) (A B:LT)
def LT.bu:LT→List (Nat×Bool)
  |.j9=>[]
  |.mv i b t=>(i,b)::t.bu
  |.gQ i j A B=>(3000,false)::(i,false)::(A.bu++(4000,false)::(j,false)::B.bu)
def LT.iI (P:Program) (ops:Array Oper) (S2:World→Prop) (K:Act→World→Prop):LT→Mv
  |.j9=>fun _=>K
  |.mv i true t=>xq P ops i (t.iI P ops S2 K)
  |.mv i false t=>ij P ops S2 i (t.iI P ops S2 K)
  |.gQ i j A B=>fun S a w=>ij P ops S2 i (A.iI P ops S2 K) S a w∧ij P ops S2 j (B.iI P ops S2 K) S a w
def LT.low:LT→Bool
  |.j9=>true
  |.mv i b t=>(b||!(Nat.ble 3000 i))&&t.low
  |.gQ i j A B=>!(Nat.ble 3000 i)&&(!(Nat.ble 3000 j)&&(A.low&&B.low))
def LT.size:LT→Nat
  |.j9=>0
  |.mv _ _ t=>t.size+1
  |.gQ _ _ A B=>max A.size B.size+1
def LT.ok (ops:Array Oper):LT→Array Bool→Bool
  |.j9,listed=>(Region.ready .any ops listed).isEmpty
  |.mv i true t,listed=>Region.free .any ops listed i&&(Region.ready .any ops listed).contains i&&(!(Nat.beq i 1000000)&&t.ok ops (listed.setIfInBounds i true))
  |.mv i false t,listed=>!(Nat.ble 1000 i)&&((Region.ready .any ops listed==[i])&&t.ok ops (listed.setIfInBounds i true))
  |.gQ i j A B,listed=>!(Nat.ble 1000 i)&&(!(Nat.ble 1000 j)&&(((Region.ready .any ops listed==[i,j])||(Region.ready .any ops listed==[j,i]))&&(A.ok ops (listed.setIfInBounds i true)&&B.ok ops (listed.setIfInBounds j true))))
section
variable {P:Program} {ops:Array Oper} {S2:World→Prop} {K:Act→World→Prop}
theorem wT:∀(t:LT) (L:List (Nat×Bool)) (st:List Mv),t.low=true→eS P ops S2 K L=(fun _=>K)::st→eS P ops S2 K (t.bu++L)=t.iI P ops S2 K::st
  |.j9,L,st,_,h=>h
  |.mv i b t,L,st,hl,h=>by
   simp only[LT.low,b_] at hl
   have ih:=wT t L st hl.2 h
   cases b with
   |true=>
    show xq P ops i (Mv.top (eS P ops S2 K (t.bu++L)))::Mv.jV (eS P ops S2 K (t.bu++L))=_
    rw[ih];rfl
   |false=>
    have h3:Nat.ble 3000 i=false:=by simpa using hl.1
    show(bif Nat.ble 3000 i then _ else ij P ops S2 i (Mv.top (eS P ops S2 K (t.bu++L)))::Mv.jV (eS P ops S2 K (t.bu++L)))=_
    rw[h3,ih];rfl
  |.gQ i j A B,L,st,hl,h=>by
   simp only[LT.low,b_,gN] at hl
   obtain⟨h1,h2,hA,hB⟩:=hl
   have u:=wT B L st hB h
   have D:eS P ops S2 K ((j,false)::(B.bu++L))=ij P ops S2 j (B.iI P ops S2 K)::st:=by
     show(bif Nat.ble 3000 j then _ else ij P ops S2 j (Mv.top (eS P ops S2 K (B.bu++L)))::Mv.jV (eS P ops S2 K (B.bu++L)))=_
     rw[h2,u];rfl
   have G:=wT A ((4000,false)::(j,false)::(B.bu++L)) (ij P ops S2 j (B.iI P ops S2 K)::st) hA (by
     show(fun _=>K)::eS P ops S2 K ((j,false)::(B.bu++L))=_
     rw[D])
   have I:eS P ops S2 K ((i,false)::(A.bu++(4000,false)::(j,false)::(B.bu++L)))=ij P ops S2 i (A.iI P ops S2 K)::ij P ops S2 j (B.iI P ops S2 K)::st:=by
     show(bif Nat.ble 3000 i then _ else ij P ops S2 i (Mv.top (eS P ops S2 K (A.bu++(4000,false)::(j,false)::(B.bu++L))))::Mv.jV (eS P ops S2 K (A.bu++(4000,false)::(j,false)::(B.bu++L))))=_
     rw[h1,G];rfl
   have e:(LT.gQ i j A B).bu++L=(3000,false)::(i,false)::(A.bu++(4000,false)::(j,false)::(B.bu++L)):=by
     show(3000,false)::(i,false)::((A.bu++(4000,false)::(j,false)::B.bu)++L)=_
     rw[dm];rfl
   rw[e]
   show(fun S a w=>Mv.top (eS P ops S2 K ((i,false)::(A.bu++(4000,false)::(j,false)::(B.bu++L)))) S a w∧Mv.top (Mv.jV (eS P ops S2 K ((i,false)::(A.bu++(4000,false)::(j,false)::(B.bu++L))))) S a w)::
     Mv.jV (Mv.jV (eS P ops S2 K ((i,false)::(A.bu++(4000,false)::(j,false)::(B.bu++L)))))=_
   rw[I];rfl
theorem R7:∀(t:LT) (T:World→Prop) (listed:Array Bool) (a:Act) (w:World) (bI:Nat),t.size≤bI→uq ops listed→t.ok ops listed=true→ops.size≤1000000→listed.getD 1000000 false=false→
    t.iI P ops S2 K T a w→pX P ops 1000000 T K bI listed a w:=by
  intro t
  induction t with
  |j9=>exact fun T listed a w bI _ _ hok _ _ h=>FZ (by simpa[LT.ok,List.isEmpty_iff] using hok) h bI
  |mv i b t ih=>
   intro T listed a w bI hf hcl hok hsz G h
   obtain⟨bI,rfl⟩:∃m,bI=m+1:=⟨bI-1,by simp[LT.size] at hf;omega⟩
   have I:t.size≤bI:=by simp[LT.size] at hf;omega
   cases b with
   |true=>
    obtain⟨o,v,hi,hd,hy,hS,h⟩:=h
    simp only[LT.ok,b_,gN] at hok
    obtain⟨⟨h1,h2⟩,h3,h5⟩:=hok
    have hik:i≠1000000:=fun e=>by subst e;simp at h3
    have h2:i∈Region.ready .any ops listed:=by simpa using h2
    have J:=ih T (listed.setIfInBounds i true) (a.put o.dst v) w bI I (nw hcl h2) h5 hsz (by rw[getD_set_ne false hik];exact G) h
    cases hn:nL o with
    |false=>
     rw[hn] at hy
     exact ur (S':=fun _=>True) hi hd hik (.inl fun _=>trivial) bI listed a w hcl (.inl fun _=>trivial) (Region.free_spec hi h1) h2 (by simpa using hy) trivial (fun _=>hS) J
    |true=>
     rw[hn,aO rfl] at hy
     refine ur (S':=T) hi hd hik (.inr ⟨fun _ h=>h,fun ok hok=>?_⟩) bI listed a w hcl (.inr G) (Region.free_spec hi h1) h2 hy hS (fun _=>hS) J
     have:=(mP.1 hok).1
     omega
   |false=>
    simp only[LT.ok,b_,gN,j6] at hok
    obtain⟨h1,h2,h3⟩:=hok
    have hik:i≠1000000:=fun e=>by subst e;simp at h1
    have D:i∈Region.ready .any ops listed:=by rw[h2];simp
    have h:j_ P ops i (fun u w'=>T w'∧t.iI P ops S2 K T u w') a w:=by
      have h':ij P ops S2 i (t.iI P ops S2 K) T a w:=h
      unfold ij at h'
      rwa[aC (by rw[h1];simp)] at h'
    refine⟨fun h0=>(by rw[h0] at D;cases D),fun k hk=>?_⟩
    rw[h2] at hk
    obtain rfl:k=i:=by simpa using hk
    exact nK (fun u w' h'=>⟨fun _=>h'.1,ih T _ u w' bI I (nw hcl D) h3 hsz (by rw[getD_set_ne false hik];exact G) h'.2⟩) h
  |gQ i j A B O U=>
   intro T listed a w bI hf hcl hok hsz G h
   obtain⟨bI,rfl⟩:∃m,bI=m+1:=⟨bI-1,by simp[LT.size] at hf;omega⟩
   have V:A.size≤bI:=by simp[LT.size] at hf;omega
   have X:B.size≤bI:=by simp[LT.size] at hf;omega
   simp only[LT.ok,b_,gN,jh,j6] at hok
   obtain⟨h1,h2,h3,hA,hB⟩:=hok
   have hik:i≠1000000:=fun e=>by subst e;simp at h1
   have hjk:j≠1000000:=fun e=>by subst e;simp at h2
   have D:i∈Region.ready .any ops listed:=by rcases h3 with h3|h3<;>rw[h3]<;>simp
   have Y:j∈Region.ready .any ops listed:=by rcases h3 with h3|h3<;>rw[h3]<;>simp
   obtain⟨g1,g2⟩:=h
   have g1:j_ P ops i (fun u w'=>T w'∧A.iI P ops S2 K T u w') a w:=by unfold ij at g1;rwa[aC (by rw[h1];simp)] at g1
   have g2:j_ P ops j (fun u w'=>T w'∧B.iI P ops S2 K T u w') a w:=by unfold ij at g2;rwa[aC (by rw[h2];simp)] at g2
   refine⟨fun h0=>(by rw[h0] at D;cases D),fun k hk=>?_⟩
   have hkk:k=i∨k=j:=by rcases h3 with h3|h3<;>rw[h3] at hk<;>simp at hk<;>omega
   rcases hkk with rfl|rfl
   · exact nK (fun u w' h'=>⟨fun _=>h'.1,O T _ u w' bI V (nw hcl D) hA hsz (by rw[getD_set_ne false hik];exact G) h'.2⟩) g1
   · exact nK (fun u w' h'=>⟨fun _=>h'.1,U T _ u w' bI X (nw hcl Y) hB hsz (by rw[getD_set_ne false hjk];exact G) h'.2⟩) g2
end
section
variable {C:fP} {ds:List Deferred} {i:Nat} {e:Env} {h r:ax} {M:Nat→Prop}
def KE (k:List Item) (t:LT):Bool:=match uz k with
  |some ops=>Nat.ble t.size ops.size&&(Nat.ble ops.size 1000000&&(t.low&&t.ok ops (Array.replicate ops.size false)))
  |none=>false
theorem At.tree (hm:C.P.follows .mixedOrders=true) (M:Nat→Prop) (t:LT) (hL:KE (pt C.code i) t=true) (H:Op C ds i h M t.bu e h):At C ds i e h:=by
  intro a w f is
  have H:=H a {w with drawn:=w.drawn+1} f is.oa (ez.refl _ _)
  generalize pt C.code i=k at *
  unfold KE at hL
  split at hL
  · rename_i ops hd
    unfold uz at hd
    split at hd
    · rename_i id u k'
      simp only[fu] at hd
      subst hd
      simp only[b_] at hL
      have h1:=kV hL.1
      have h2:=kV hL.2.1
      have hs:=wT (P:=C.P) (ops:=u) (S2:=holds C #[] fun _=>True) (K:=fun a w=>eY C.P C.ro C.fn C.Q k' a w) t [] [] hL.2.2.1 rfl
      rw[dX] at hs
      refine eY.oa hm fun D=>A7 (kb:=1000000) (S:=holds C h M) _ _ _ _ _ (R7 (S2:=holds C #[] fun _=>True) t _ _ _ _ _ h1 ?_ hL.2.2.2 h2 ?_ ?_)
      · intro k o ho hk
        have hlt:k<u.size:=(mP.1 ho).1
        simp[hlt] at hk
      · simp only[Ba,Bb];split<;>rfl
      · have H:Mv.top (eS C.P u (holds C #[] fun _=>True) (fun a w=>eY C.P C.ro C.fn C.Q k' a w) t.bu) (holds C h M) a {w with drawn:=w.drawn+1}:=H
        rw[hs] at H
        exact H
    · cases hd
  · cases hL
theorem Op.u0 (D u:LT) {A B L:List (Nat×Bool)} (hA:D.low=true) (hB:u.low=true) (U:D.bu=A) (V:u.bu=B) (X:A++(4000,false)::B=L) (G:Op C ds i r M A e h) (I:Op C ds i r M B e h):Op C ds i r M ((3000,false)::L) e h:=by
  intro a w f is hk
  have G:=G a w f is hk
  have I:=I a w f is hk
  subst U V X
  unfold mB at *
  generalize (fun a w=>eY C.P C.ro C.fn C.Q (pt C.code i).tail a w)=K at *
  have J:=wT (P:=C.P) (ops:=jx (pt C.code i)) (S2:=holds C #[] fun _=>True) (K:=K) D [] [] hA rfl
  have O:=wT (P:=C.P) (ops:=jx (pt C.code i)) (S2:=holds C #[] fun _=>True) (K:=K) u [] [] hB rfl
  rw[dX] at J O
  have s2:=wT (P:=C.P) (ops:=jx (pt C.code i)) (S2:=holds C #[] fun _=>True) (K:=K) D ((4000,false)::u.bu) (eS C.P (jx (pt C.code i)) (holds C #[] fun _=>True) K u.bu) hA rfl
  rw[J] at G
  rw[O] at I s2
  show Mv.top (eS C.P (jx (pt C.code i)) (holds C #[] fun _=>True) K (D.bu++(4000,false)::u.bu)) _ a w∧Mv.top (Mv.jV (eS C.P (jx (pt C.code i)) (holds C #[] fun _=>True) K (D.bu++(4000,false)::u.bu))) _ a w
  rw[s2]
  exact⟨G,I⟩
theorem Op.fk {j k:Nat} {A B:LT} (u:Op C ds i r M ((j,false)::A.bu) e h) (D:Op C ds i r M ((k,false)::B.bu) e h) (hA:A.low=true:=by rfl) (hB:B.low=true:=by rfl) (hj:Nat.ble 3000 j=false:=by rfl) (hk:Nat.ble 3000 k=false:=by rfl):Op C ds i r M (LT.gQ j k A B).bu e h:=
  Op.u0 (.mv j false A) (.mv k false B) (by simp[LT.low,hj,hA]) (by simp[LT.low,hk,hB]) rfl rfl rfl u D
end
def lV (g:GH) (b:Nat) (x:List (Int×(List ak))) (c:ay):Prop:=uZ 45 dh g b x c
theorem lV.mono {g g':GH} {b:Nat} {x:List (Int×(List ak))} {c:ay} (h:lV g b x c) (hg:aM g g'):lV g' b x c:=uZ.mono h hg
def wU (g:GH) (b:Nat) (x:List (Int×(List ak))):Prop:=ya 45 dh g b x
theorem wU.mono {g g':GH} {b:Nat} {x:List (Int×(List ak))} (h:wU g b x) (hg:aM g g'):wU g' b x:=ya.mono h hg
theorem lV.fY {h0:ax} {g0:GH} {S0:Nat→Prop} {g:GH} {L:List ay} {h:ax} {C c:ay} {b:Nat} {x:List (Int×(List ak))} (H:lV g b x c) (s:St h0 g0 S0 g (C::L) h) (hc:∀p∈c,p∈C):wU (dy g C) b x:=uZ.fY H s hc
def rz (g:GH) (a:jA) (v:Value):Prop:=∃u,v=.agg #[.int .i64 a.cW,u]∧av g 5 br u a.data
theorem rz.mono {g g':GH} {a:jA} {v:Value} (hg:aM g g') (h:rz g a v):rz g' a v:=by
 obtain⟨u,e,h0⟩:=h
 exact⟨u,e,h0.mono hg⟩
def kq (g:GH) (b:Nat) (x:List (Int×jA)) (c:ay):Prop:=oT rz g b x c
theorem kq.mono {g g':GH} {b:Nat} {x:List (Int×jA)} {c:ay} (h:kq g b x c) (hg:aM g g'):kq g' b x c:=oT.mono (fun _ _=>rz.mono hg) h
def wV (g:GH) (b:Nat) (x:List (Int×jA)):Prop:=qS rz g b x
theorem wV.mono {g g':GH} {b:Nat} {x:List (Int×jA)} (h:wV g b x) (hg:aM g g'):wV g' b x:=qS.mono hg (fun _ _=>rz.mono hg) h
theorem kq.fY {h0:ax} {g0:GH} {S0:Nat→Prop} {g:GH} {L:List ay} {h:ax} {C c:ay} {b:Nat} {x:List (Int×jA)} (H:kq g b x c) (s:St h0 g0 S0 g (C::L) h) (hc:∀p∈c,p∈C):wV (dy g C) b x:=oT.fY (fun _ _=>rz.mono s.gz) H s hc
def cu (g:GH) (b:Nat) (x:Sp) (c:ay):Prop:=∃b0 c0 b1 c1 b2 c2 u D G I,c=(b,.cells #[vP b0,vP b1,vP b2,.int .i64 x.aA,.int .i64 x.count,.map (some u),.map (some G)] 138 (0,0))::(c0++(c1++(c2++(D++I))))∧fI g b0 x.au c0∧i_ g b1 x.aN c1∧gD g b2 x.book c2∧lV g u x.events D∧kq g G x.aR I
theorem cu.mono {g g':GH} {b:Nat} {x:Sp} {c:ay} (h:cu g b x c) (hg:aM g g'):cu g' b x c:=by
 obtain⟨b0,c0,b1,c1,b2,c2,u,D,G,I,e,h0,h1,h2,h3,h4⟩:=h
 exact⟨b0,c0,b1,c1,b2,c2,u,D,G,I,e,h0.mono hg,h1.mono hg,h2.mono hg,h3.mono hg,h4.mono hg⟩
theorem cu.eq {g:GH} {b:Nat} {x y:Sp} {c:ay} (h:cu g b x c) (e:x=y):cu g b y c:=e▸h
theorem xm (B:World) (h:ax) (g:GH) (hg:bl g h) (G:bq g):
  aE prog B 32 #[] h g [] (fun ae g' L'=>∃b0 J,ae=vP b0∧cu g' b0 mL J∧L'=[J]):=by
 refine aE.aq func32 fun R hR=>?_
 have O:=St.init hg
 refine At.go 1 1 [] ?_
 refine At.rg 8 ?_
 refine Op.c0 (some 1) (Qn _ _ _ O.sub G) O ?_
 rintro _ am _ ca ar U ⟨V,cb,rfl,aw,X,rfl⟩;subst am;clear ar
 refine Op.c0 (some 2) (R4 _ _ _ U.sub G) U ?_
 rintro _ a0 _ ce a1 Y ⟨ab,cf,rfl,a3,X,rfl⟩;subst a0;clear a1
 refine Op.c0 (some 3) (Pp _ _ _ Y.sub G) Y ?_
 rintro _ a4 _ ch a5 a6 ⟨ad,ci,rfl,a7,X,rfl⟩;subst a4;clear a5
 refine Op.makeMap (mt:=135) (dst:=4) (by kernel_rfl) a6 fun I ck a8=>?_
 have a9:cZ encI #[] 0 ([]:List (Int×Value)):=cZ.empty _ _
 have bc:nA 45 dh g [] ([]:List (Int×(List ak))) []:=nA.nil
 have bd:=a8.nl.aa 1 rfl
 refine Op.makeMap (mt:=136) (dst:=5) (by kernel_rfl) bd fun u co be=>?_
 have bi:cZ encI #[] 0 ([]:List (Int×Value)):=cZ.empty _ _
 have bj:ga (rz g) [] ([]:List (Int×jA)):=ga.nil
 refine Op.px 1 [(6,.agg #[vP V,vP ab,vP ad,vI 0,vI 0,.map (some I),.map (some u)])] ?_
 refine Op.bx 7 138 6 #[vP V,vP ab,vP ad,vI 0,vI 0,.map (some I),.map (some u)] be fun D c3 bk=>?_
 refine Op.pg 2 [(0,vP D)] ?_
 have bm:=(((bk.aa 1 rfl).aa 1 rfl).aa 3 rfl).aa 3 rfl
 obtain⟨c4,bo,bt⟩:=St.bJ (Q:=lV g I ([]:List (Int×(List ak)))) 2 bm ⟨_,_,_,_,rfl,a9,bc⟩
 have b3:kq g u ([]:List (Int×jA)) [(u,.map #[] 0)]:=⟨_,_,_,rfl,bi,bj⟩
 have b4:=(((((bt.aa 2 rfl).aa 1 rfl).aa 3 rfl).aa 4 rfl).aa 5 rfl).aa 5 rfl
 obtain⟨b5,b6,b8⟩:=St.bJ (Q:=cu g D (⟨[⟨[47],[],0, -1,0,0⟩],[],([]:gx),0,0,([]:List (Int×(List ak))),([]:List (Int×jA))⟩:Sp)) 6 b4 ⟨_,_,_,_,_,_,_,_,_,_,rfl,aw,a3,a7,bo,b3⟩
 exact At.rt (vP D) (hR b8 ⟨D,b5,rfl,b6.eq (by rfl),rfl⟩)
theorem E_ (B:World) (h:ax) (g:GH) (hg:bl g h) (dT:bq g) (I:Nat) (s:Sp) (U:ay) (d0:cu g I s U) (kind:Int) (b4:Value) (dN:List an) (b5:av g 9 eU b4 dN) (h1:s.aN.length≤1000000) (h2:dN.length≤1000000) (hq:ry s.aN s.events) (hs:St h g (aV [U]) g [U] h):
  aE prog B 170 #[vP I,vI kind,b4] h g [U] (fun d1 g' L'=>∃b6,d1=.tuple #[]∧cu g' I (lu s kind dN) b6∧L'=[b6]):=by
 obtain⟨d2,d3,rfl⟩:=b5.aj
 refine aE.aq func170 fun R hR=>?_
 refine At.rp 9 3 [(10,vQ I 1)] ?_
 obtain⟨d4,b8,a5,d5,d6,ca,G,d7,d8,cb,d9,a6,ed,a7,ee,a8⟩:=d0
 have ce:=St.un [b8,d5,ca,d7,cb] d9 hs
 refine Op.l1 131 10 11 1 (vP a5) (ce.ah 0 rfl) ?_
 refine Op.px 2 [(12,vI kind),(13,vL d2 dN.length d3)] ?_
 have a9:=((ce.aa 1 rfl).aa 1 rfl).aa 2 rfl
 refine Op.cl (some 14) 1 a9 (R1 _ _ _ a9.sub dT a5 s.aN _ ed kind _ _ b5 (by(try dsimp only)<;>omega) (by(try dsimp only)<;>omega) (St.pt 1 a9)) ?_
 rintro _ ef _ hE eh ej ⟨hF,em,en,rfl,ab,bc,hG,rfl⟩;subst ef;clear eh
 obtain⟨ep,cf,rfl⟩:=ab.aj
 refine Op.pg 1 [(15,vI (((List.filter (gl kind dN) s.aN)).length:Int)),(16,vI 0)] ?_
 have er:∀(m:Nat) (J:GH) (O:aM g J) (e:ja) (i:Int) (ad:ay) (bd:ax) (hm:(s.aN.filter (gl kind dN)).length-i.toNat<m) (h0:0≤i) (h3:i≤(s.aN.filter (gl kind dN)).length) (he:e=kz s.events ((s.aN.filter (gl kind dN)).take i.toNat)) (ae:lV J G e ad) (am:St h g (aV [U]) J [en,em,[(I,Obj.cells #[vP d4,vP a5,vP d6,vI s.aA,vI s.count,.map (some G),.map (some d8)] 138 (0,0))],b8,ca,ad,cb] bd),At (bX prog B 170 f170 R) [] 1 [(0,vP I),(14,vL ep (((List.filter (gl kind dN) s.aN)).length) cf),(15,vI (((List.filter (gl kind dN) s.aN)).length:Int)),(16,vI i)] bd:=by
  intro m;induction m with
  |zero=>intros;omega
  |succ m ar=>
   intro J O e i ad bd hm h0 h3 he ae am
   replace a6:=a6.mono O
   replace a7:=a7.mono O
   replace a8:=a8.mono O
   replace ab:=ab.mono O
   replace bc:=bc.mono O
   refine At.go 2 1 [(17,.bool (decide (i<(((List.filter (gl kind dN) s.aN)).length:Int))))] ?_
   refine At.fd (i<(((List.filter (gl kind dN) s.aN)).length:Int)) 17 3 6 (fun hH=>?_) fun hI=>?_
   ·refine At.rg 4 ?_
    obtain⟨u,V⟩:=cG (List.filter (gl kind dN) s.aN) i
    obtain⟨et,ch,hJ,hK,ex,eA,be⟩:=jX.bF (ab.toH am 1 rfl) _ V
    cases ex
    refine Op.iq 41 45 3 32 (((List.filter (gl kind dN) s.aN)).length) cf 14 16 18 et ch i ?_
    replace be:cut _ _ _=[vI u.Client,vI u.Kind,vS u.af]:=be
    refine Op.la 45 18 19 (ch+i.toNat*3) 3 [vI u.Client,vI u.Kind,vS u.af] eA ?_ (hv:=be)
    refine Op.al 7 45 #[vI 0,vI 0,vS []] am fun aw hL eB=>?_
    refine Op.sg 45 7 19 0 0 #[vI u.Client,vI u.Kind,vS u.af] eB (fun _=>trivial) fun hN D=>?_
    refine Op.gt 4 ?_
    refine At.gQ (by kernel_rfl) (aV [ad]) [(0,true),(1,true),(2,true),(4,true),(6,true),(7,true),(8,true),(10,true),(3,true),(5,true),(9,true),(11,true),(13,true)] [(12,false),(14,false),(15,false),(16,false)] [(14,false),(12,false),(15,false),(16,false)] (by kernel_rfl) ?_ ?_
    ·show Op _ _ _ _ _ [(0,true),(1,true),(2,true),(4,true),(6,true),(7,true),(8,true),(10,true),(3,true),(5,true),(9,true),(11,true),(13,true),(12,false),(14,false),(15,false),(16,false)] _ _
     refine Op.px 8 [(22,vQ I 5),(24,vP aw),(28,vQ I 5),(30,vP aw)] ?_
     refine Op.lf 135 22 5 23 1 (.map (some G)) (fun h=>(bz h).elim (D.apart 3 6 rfl rfl rfl) (fun h=>absurd h (dB _))) (D.ah 3 rfl) ?_
     refine Op.lf 3 24 0 25 1 (vI u.Client) (fun h=>(bz h).elim (D.apart 0 6 rfl rfl rfl) (fun h=>absurd h (dB _))) (D.ah 0 rfl) ?_
     refine Op.lf 135 28 5 29 1 (.map (some G)) (fun h=>(bz h).elim (D.apart 3 6 rfl rfl rfl) (fun h=>absurd h (dB _))) (D.ah 3 rfl) ?_
     refine Op.lf 3 30 0 31 1 (vI u.Client) (fun h=>(bz h).elim (D.apart 0 6 rfl rfl rfl) (fun h=>absurd h (dB _))) (D.ah 0 rfl) ?_
     refine Op.iU (T:=45) (x:=7) (o:=0) (d:=33) (n:=3) (vs:=[vI u.Client,vI u.Kind,vS u.af]) (by kernel_rfl) (by kernel_rfl) (by kernel_rfl) (fun h=>(bz h).elim (D.apart 0 6 rfl rfl rfl) (fun h=>absurd h (dB _))) (D.ah 0 rfl) (by kernel_rfl) rfl ?_
     obtain⟨ci,ck,hO,eE,a0,a1,eI⟩:=ae
     have eJ:=((((((D.aa 5 rfl).aa 5 rfl).aa 5 rfl).aa 5 rfl).aa 5 rfl).aa 5 rfl).aa 6 rfl
     have bi:=St.un [eE] a0 eJ
     rcases eI.iB u.Client with ⟨bj,eK,bk⟩|⟨hP,X,hQ,hS,bj,eK,co,c3,bk⟩
     ·refine Op.mn (.slice none 0 0) 135 29 31 32 u.Client (bi.ah 0 rfl) a1 bj ?_
      refine Op.ls 34 1 45 #[vI u.Client,vI u.Kind,vS u.af] bi fun hT hV eL=>?_
      have c4:=eL.nl
      have eQ:=aJ.nil 45 dh J
      refine Op.ap 32 34 41 41 35 45 32 dh (ys:=[u]) eQ c4 0 (⟨_,_,rfl,rfl,Reads.nil⟩) (by(simp only[bY,dU];omega)) (fun p hq _=>absurd hq (by simp)) (eT.lit (m:=1) (sz:=3) (c4.ah 1 rfl) (news:=[vI u.Client,vI u.Kind,vS u.af]) rfl rfl (by simp[Value.oneCell']) _) fun hW hX hY c5 e1 hZ=>?_
      obtain⟨c6,c8,rfl⟩:=c5.aj
      have e2:=(e1.aa 1 rfl).drop
      refine Op.oM (d:=.int .i64) (z:=.slice none 0 0) (mt:=135) (x:=23) (ix:=25) (y:=35) (k:=u.Client) (v:=vL c6 ((([]:List ak)++([u])).length) c8) (.inl (by kernel_rfl)) (by kernel_rfl) mc (by kernel_rfl) (by kernel_rfl) (by kernel_rfl) e2 1 rfl a1 (fun _=>⟨(G,.map ci ck),by simp[a0],rfl⟩) fun h4 h5 h6 e3 e4=>?_
      have e5:=bk.1 _ (vL c6 ((([]:List ak)++([u])).length) c8) _ _ (aM.refl _) c5
      have e6:=((e4.aa 1 rfl).aa 2 rfl).aa 2 rfl
      have e7:=St.mg 2 e6
      refine Op.gt 5 ?_
      refine At.rg 2 ?_
      refine Op.cE 36 (i+1) (by omega) (by(have:=l7 (gl kind dN) s.aN;omega)) ?_
      refine Op.pg 1 [(16,vI (i+1))] ?_
      have e8:=(e7.aa 0 rfl).aa 1 rfl
      obtain⟨h7,e9,fa⟩:=St.bJ (Q:=lV J G (dJ e u.Client (([]:List ak)++([u])))) 2 e8 ⟨_,_,_,_,rfl,e3,e5⟩
      have fg:=((((((fa.aa 0 rfl).aa 6 rfl).aa 6 rfl).aa 6 rfl).aa 6 rfl).aa 6 rfl).aa 6 rfl
      have fi:=fg.drop
      exact At.ke (ar _ O (dJ e u.Client (([]:List ak)++([u]))) (i+1) _ _ (by omega) (by omega) (by omega) (by exact Kk he h0 V ‹_›) e9 fi)
     obtain⟨a116,fj,rfl⟩:=co.aj
     have fl:=(bi.aa 0 rfl).aa 1 rfl
     have c9:=St.u0 c3 fl
     refine Op.mk (.slice none 0 0) 135 29 31 32 u.Client (vL a116 X.length fj) (c9.ah 2 rfl) a1 bj ?_
     refine Op.ls 34 1 45 #[vI u.Client,vI u.Kind,vS u.af] c9 fun h8 h9 da=>?_
     refine Op.ap 32 34 41 41 35 45 32 dh (ys:=[u]) co da 1 (⟨_,_,rfl,rfl,Reads.nil⟩) (by(have:=Km hq he ‹_›;simp only[bY,dU];omega)) (fun p hq _=>⟨p,by simp[a0,c3.mem_iff,hq],rfl⟩) (eT.lit (m:=1) (sz:=3) (da.ah 0 rfl) (news:=[vI u.Client,vI u.Kind,vS u.af]) rfl rfl (by simp[Value.oneCell']) _) fun ib ih ii db fp ik=>?_
     obtain⟨dc,dd,rfl⟩:=db.aj
     have fr:=(fp.aa 0 rfl).drop
     refine Op.oM (d:=.int .i64) (z:=.slice none 0 0) (mt:=135) (x:=23) (ix:=25) (y:=35) (k:=u.Client) (v:=vL dc ((X++([u])).length) dd) (.inl (by kernel_rfl)) (by kernel_rfl) mc (by kernel_rfl) (by kernel_rfl) (by kernel_rfl) fr 2 rfl a1 (fun _=>⟨(G,.map ci ck),by simp[a0],rfl⟩) fun il io ip ft fv=>?_
     have fw:=bk.1 _ (vL dc ((X++([u])).length) dd) _ _ (aM.refl _) db
     have fx:=St.mg 2 fv
     refine Op.gt 5 ?_
     refine At.rg 2 ?_
     refine Op.cE 36 (i+1) (by omega) (by(have:=l7 (gl kind dN) s.aN;omega)) ?_
     refine Op.pg 1 [(16,vI (i+1))] ?_
     have f0:=(fx.aa 0 rfl).aa 1 rfl
     obtain⟨is,f1,f2⟩:=St.bJ (Q:=lV J G (dJ e u.Client (X++([u])))) 2 f0 ⟨_,_,_,_,rfl,ft,fw⟩
     have f3:=((((((f2.aa 0 rfl).aa 6 rfl).aa 6 rfl).aa 6 rfl).aa 6 rfl).aa 6 rfl).aa 6 rfl
     have f4:=f3.drop
     exact At.ke (ar _ O (dJ e u.Client (X++([u]))) (i+1) _ _ (by omega) (by omega) (by omega) (by exact Kl he h0 V ‹_›) f1 f4)
    show Op _ _ _ _ _ [(0,true),(1,true),(2,true),(4,true),(6,true),(7,true),(8,true),(10,true),(3,true),(5,true),(9,true),(11,true),(13,true),(14,false),(12,false),(15,false),(16,false)] _ _
    refine Op.px 8 [(22,vQ I 5),(24,vP aw),(28,vQ I 5),(30,vP aw)] ?_
    refine Op.lf 135 22 5 23 1 (.map (some G)) (fun h=>(bz h).elim (D.apart 3 6 rfl rfl rfl) (fun h=>absurd h (dB _))) (D.ah 3 rfl) ?_
    refine Op.lf 3 24 0 25 1 (vI u.Client) (fun h=>(bz h).elim (D.apart 0 6 rfl rfl rfl) (fun h=>absurd h (dB _))) (D.ah 0 rfl) ?_
    refine Op.lf 135 28 5 29 1 (.map (some G)) (fun h=>(bz h).elim (D.apart 3 6 rfl rfl rfl) (fun h=>absurd h (dB _))) (D.ah 3 rfl) ?_
    refine Op.lf 3 30 0 31 1 (vI u.Client) (fun h=>(bz h).elim (D.apart 0 6 rfl rfl rfl) (fun h=>absurd h (dB _))) (D.ah 0 rfl) ?_
    refine Op.iU (T:=45) (x:=7) (o:=0) (d:=33) (n:=3) (vs:=[vI u.Client,vI u.Kind,vS u.af]) (by kernel_rfl) (by kernel_rfl) (by kernel_rfl) (fun h=>(bz h).elim (D.apart 0 6 rfl rfl rfl) (fun h=>absurd h (dB _))) (D.ah 0 rfl) (by kernel_rfl) rfl ?_
    refine Op.ls 34 1 45 #[vI u.Client,vI u.Kind,vS u.af] D fun iv i0 f5=>?_
    obtain⟨df,dg,i1,f6,a3,a4,f7⟩:=ae
    have f8:=(((((((f5.aa 6 rfl).aa 6 rfl).aa 6 rfl).aa 6 rfl).aa 6 rfl).aa 6 rfl).aa 6 rfl).aa 7 rfl
    have bm:=St.un [f6] a3 f8
    rcases f7.iB u.Client with ⟨bo,f9,bt⟩|⟨i2,Y,i3,i4,bo,f9,dj,dk,bt⟩
    ·refine Op.mn (.slice none 0 0) 135 29 31 32 u.Client (bm.ah 0 rfl) a4 bo ?_
     have dl:=bm.nl
     have gc:=aJ.nil 45 dh J
     refine Op.ap 32 34 41 41 35 45 32 dh (ys:=[u]) gc dl 0 (⟨_,_,rfl,rfl,Reads.nil⟩) (by(simp only[bY,dU];omega)) (fun p hq _=>absurd hq (by simp)) (eT.lit (m:=1) (sz:=3) (dl.ah 3 rfl) (news:=[vI u.Client,vI u.Kind,vS u.af]) rfl rfl (by simp[Value.oneCell']) _) fun i5 i6 i7 dp ge i8=>?_
     obtain⟨dq,du,rfl⟩:=dp.aj
     have gg:=(ge.aa 3 rfl).drop
     refine Op.oM (d:=.int .i64) (z:=.slice none 0 0) (mt:=135) (x:=23) (ix:=25) (y:=35) (k:=u.Client) (v:=vL dq ((([]:List ak)++([u])).length) du) (.inl (by kernel_rfl)) (by kernel_rfl) mc (by kernel_rfl) (by kernel_rfl) (by kernel_rfl) gg 1 rfl a4 (fun _=>⟨(G,.map df dg),by simp[a3],rfl⟩) fun i9 jf jj gk gn=>?_
     have gs:=bt.1 _ (vL dq ((([]:List ak)++([u])).length) du) _ _ (aM.refl _) dp
     have g1:=((gn.aa 1 rfl).aa 2 rfl).aa 2 rfl
     have g2:=St.mg 2 g1
     refine Op.gt 5 ?_
     refine At.rg 2 ?_
     refine Op.cE 36 (i+1) (by omega) (by(have:=l7 (gl kind dN) s.aN;omega)) ?_
     refine Op.pg 1 [(16,vI (i+1))] ?_
     have g3:=(g2.aa 0 rfl).aa 1 rfl
     obtain⟨jn,g4,g5⟩:=St.bJ (Q:=lV J G (dJ e u.Client (([]:List ak)++([u])))) 2 g3 ⟨_,_,_,_,rfl,gk,gs⟩
     have g6:=((((((g5.aa 0 rfl).aa 6 rfl).aa 6 rfl).aa 6 rfl).aa 6 rfl).aa 6 rfl).aa 6 rfl
     have g7:=g6.drop
     exact At.ke (ar _ O (dJ e u.Client (([]:List ak)++([u]))) (i+1) _ _ (by omega) (by omega) (by omega) (by exact Kk he h0 V ‹_›) g4 g7)
    obtain⟨g8,g9,rfl⟩:=dj.aj
    have hf:=(bm.aa 0 rfl).aa 1 rfl
    have b3:=St.u0 dk hf
    refine Op.mk (.slice none 0 0) 135 29 31 32 u.Client (vL g8 Y.length g9) (b3.ah 2 rfl) a4 bo ?_
    refine Op.ap 32 34 41 41 35 45 32 dh (ys:=[u]) dj b3 0 (⟨_,_,rfl,rfl,Reads.nil⟩) (by(have:=Km hq he ‹_›;simp only[bY,dU];omega)) (fun p hq _=>⟨p,by simp[a3,dk.mem_iff,hq],rfl⟩) (eT.lit (m:=1) (sz:=3) (b3.ah 3 rfl) (news:=[vI u.Client,vI u.Kind,vS u.af]) rfl rfl (by simp[Value.oneCell']) _) fun jt j1 j2 dv hh kc=>?_
    obtain⟨dC,dE,rfl⟩:=dv.aj
    have hj:=(hh.aa 3 rfl).drop
    refine Op.oM (d:=.int .i64) (z:=.slice none 0 0) (mt:=135) (x:=23) (ix:=25) (y:=35) (k:=u.Client) (v:=vL dC ((Y++([u])).length) dE) (.inl (by kernel_rfl)) (by kernel_rfl) mc (by kernel_rfl) (by kernel_rfl) (by kernel_rfl) hj 2 rfl a4 (fun _=>⟨(G,.map df dg),by simp[a3],rfl⟩) fun kd kh kk hl hn=>?_
    have ho:=bt.1 _ (vL dC ((Y++([u])).length) dE) _ _ (aM.refl _) dv
    have hp:=St.mg 2 hn
    refine Op.gt 5 ?_
    refine At.rg 2 ?_
    refine Op.cE 36 (i+1) (by omega) (by(have:=l7 (gl kind dN) s.aN;omega)) ?_
    refine Op.pg 1 [(16,vI (i+1))] ?_
    have hr:=(hp.aa 0 rfl).aa 1 rfl
    obtain⟨kl,hu,hw⟩:=St.bJ (Q:=lV J G (dJ e u.Client (Y++([u])))) 2 hr ⟨_,_,_,_,rfl,hl,ho⟩
    have hx:=((((((hw.aa 0 rfl).aa 6 rfl).aa 6 rfl).aa 6 rfl).aa 6 rfl).aa 6 rfl).aa 6 rfl
    have hy:=hx.drop
    exact At.ke (ar _ O (dJ e u.Client (Y++([u]))) (i+1) _ _ (by omega) (by omega) (by omega) (by exact Kl he h0 V ‹_›) hu hy)
   have hz:=((((((am.aa 1 rfl).aa 6 rfl).aa 6 rfl).aa 6 rfl).aa 4 rfl).aa 6 rfl).aa 6 rfl
   obtain⟨hA,hB,hC⟩:=St.bJ (Q:=cu J I (⟨s.au,(List.filter (fun w=>!gl kind dN w) s.aN),s.book,s.aA,s.count,e,s.aR⟩:Sp)) 6 hz ⟨_,_,_,_,_,_,_,_,_,_,rfl,a6,bc,a7,ae,a8⟩
   refine At.rt (.tuple #[]) ?_
   have hD:=(hC.aa 0 rfl).aa 1 rfl
   exact hR hD.drop ⟨hA,rfl,hB.eq (by(rw[Rx he ‹_›];rfl)),rfl⟩
 exact At.ke (er _ _ (aM.refl _) s.events 0 _ _ (bM _) (by omega) (by omega) (by rfl) ee ej)
theorem KF (B:World) (h:ax) (g:GH) (hg:bl g h) (u:bq g) (D:Nat) (s:Sp) (G:ay) (J:cu g D s G) (p:an) (I:eg s) (hp:p.length≤1000000000) (hs:St h g (aV [G]) g [G] h):
  aE prog B 120 #[vP D,vS p] h g [G] (fun ar g' L'=>∃X,ar=.tuple #[]∧cu g' D (pE s p) X∧L'=[X]):=by
 refine aE.aq func120 fun R hR=>?_
 refine At.rp 4 2 [(6,vP D),(7,vS p)] ?_
 refine Op.ls 8 1 9 #[vS p] hs fun Y be aw=>?_
 have a0:aJ 9 eU g (vL (some ⟨Y,0,none⟩) 1 1) [p] [(Y,Obj.cells #[vS p] 9 (0,0))]:=aJ.lit (by kernel_rfl) (by unfold maxLen;decide) (by kernel_rfl) ⟨_,_,rfl,rfl,Reads.nil⟩
 obtain⟨bi,O,ab,a1⟩:=aJ.freeze a0 (aw.aa 0 rfl)
 replace u:=u.mono ab
 replace J:=J.mono ab
 refine Op.cl (some 9) 1 O (E_ _ _ _ O.sub u D s _ J 1 _ _ a1 (by((try dsimp only)<;>((have:=I.wl;omega)))) (by((try dsimp only)<;>((simp;done)))) (by(try dsimp only)<;>exact I.quo) (St.pt 1 O)) ?_
 rintro _ a3 _ bj a4 ad ⟨bk,rfl,U,rfl⟩
 replace u:=u.mono a4
 refine Op.gt 1 ?_
 refine At.rp 7 1 [(11,vS p)] ?_
 refine Op.c1 12 (Ag _ _ _ ad.sub u p (by(try dsimp only)<;>omega)) ad fun bm a5=>?_
 refine Op.pg 2 [(4,vS (parentOf p))] ?_
 refine At.rp 4 2 [(15,vP D),(16,vS (parentOf p))] ?_
 refine Op.ls 17 1 9 #[vS (parentOf p)] a5 fun ae bo a6=>?_
 have a7:aJ 9 eU a3 (vL (some ⟨ae,0,none⟩) 1 1) [parentOf p] [(ae,Obj.cells #[vS (parentOf p)] 9 (0,0))]:=aJ.lit (by kernel_rfl) (by unfold maxLen;decide) (by kernel_rfl) ⟨_,_,rfl,rfl,Reads.nil⟩
 obtain⟨bt,V,am,a8⟩:=aJ.freeze a7 (a6.aa 0 rfl)
 replace u:=u.mono am
 replace U:=U.mono am
 refine Op.cl (some 18) 1 V (E_ _ _ _ V.sub u D (lu s 1 ([p])) _ U 2 _ _ a8 (by((try dsimp only)<;>((have:=(I.lq 1 [p]).wl;omega)))) (by((try dsimp only)<;>((simp;done)))) (by(try dsimp only)<;>exact(I.lq _ _).quo) (St.pt 1 V)) ?_
 rintro _ b3 _ b4 b5 a9 ⟨bc,rfl,bd,rfl⟩
 refine Op.gt 3 ?_
 exact At.rt (.tuple #[]) (hR a9 ⟨bc,rfl,bd.eq (by rfl),rfl⟩)
set_option maxHeartbeats 1000000 in
theorem KG (B:World) (h:ax) (g:GH) (hg:bl g h) (U:bq g) (D:Nat) (s:Sp) (X:ay) (dj:cu g D s X) (cb:Value) (G:List Int) (a0:av g 3 (fh .i64) cb G) (dk:eg s) (hc:G.length≤1000000) (hs:St h g (aV [X]) g [X] h):
  aE prog B 75 #[vP D,cb] h g [X] (fun dl g' L'=>∃ce,dl=.tuple #[]∧cu g' D (jc s G) ce∧L'=[ce]):=by
 obtain⟨cf,a1,rfl⟩:=a0.aj
 refine aE.aq func75 fun R hR=>?_
 refine At.go 1 3 [(8,vL cf G.length a1),(9,vI (G.length:Int)),(10,vI 0)] ?_
 have dp:∀(m:Nat) (I:GH) (a3:aM g I) (x:Sp) (i:Int) (a4:ay) (bc:ax) (hm:G.length-i.toNat<m) (h0:0≤i) (h3:i≤G.length) (V:eg x) (hx:x=jc s (G.take i.toNat)) (bd:cu I D x a4) (a5:St h g (aV [X]) I [a4] bc),At (bX prog B 75 f75 R) [] 1 [(0,vP D),(8,vL cf G.length a1),(9,vI (G.length:Int)),(10,vI i)] bc:=by
  intro m;induction m with
  |zero=>intros;omega
  |succ m dq=>
   intro I a3 x i a4 bc hm h0 h3 V hx bd a5
   replace U:=U.mono a3
   replace a0:=a0.mono a3
   refine At.go 2 1 [(11,.bool (decide (i<(G.length:Int))))] ?_
   refine At.fd (i<(G.length:Int)) 11 3 15 (fun g2=>?_) fun g3=>?_
   ·refine At.rg 3 ?_
    obtain⟨u,du⟩:=cG G i
    obtain⟨ch,be,g4,g5,dv,dC,bi⟩:=av.bF a0 _ du
    cases dv
    refine Op.iq 117 3 1 8 G.length a1 8 10 12 ch be i ?_
    replace bi:cut _ _ _=[vI u]:=bi
    refine Op.l1 3 12 13 (be+i.toNat*1) (vI u) (a5.sub _ _ dC) ?_ (hv:=c_ bi 0 rfl)
    refine Op.pg 4 [(5,vI u)] ?_
    refine At.rp 7 3 [(16,vQ D 1)] ?_
    obtain⟨ci,a6,ck,dE,co,dT,c3,d0,g6,d1,d2,c4,d3,d4,d5,d6⟩:=bd
    have c5:=St.un [a6,dE,dT,d0,d1] d2 a5
    refine Op.l1 131 16 17 1 (vP ck) (c5.ah 0 rfl) ?_
    refine Op.px 1 [(18,vI u)] ?_
    refine Op.ls 19 1 3 #[vI u] c5 fun bj g7 d7=>?_
    have d8:aJ 3 (fh .i64) I (vL (some ⟨bj,0,none⟩) 1 1) [u] [(bj,Obj.cells #[vI u] 3 (0,0))]:=aJ.lit (by kernel_rfl) (by unfold maxLen;decide) (by kernel_rfl) ⟨_,_,rfl,rfl,Reads.nil⟩
    have ad:=(((d7.aa 2 rfl).aa 2 rfl).aa 3 rfl).aa 3 rfl
    have c6:=ad.gz
    have d9:=d8.fY ad
    refine Op.le (some 20) 1 ad (R3 _ _ _ ad.iO (U.mono c6) ck x.aN _ (d3.mono c6) _ _ d9 (by((try dsimp only)<;>((have:=V.wl;omega)))) (by((try dsimp only)<;>((simp;done)))) (St.pt 1 ad.freeze.1)) (fun _ _ _ hp=>by obtain⟨_,_,_,J,_⟩:=hp;exact J) ?_
    rintro _ _ g8 c8 ⟨g9,rfl,bk,J,rfl⟩;clear J
    replace bk:=bk.bu (g':=I)
    refine Op.gt 5 ?_
    refine At.rp 6 3 [(23,vQ D 5)] ?_
    refine Op.l1 135 23 24 5 (.map (some c3)) (c8.ah 2 rfl) ?_
    refine Op.px 1 [(25,vI u)] ?_
    obtain⟨he,hf,hh,ed,ee,ef,eh⟩:=d5
    have ej:=(((((c8.aa 4 rfl).aa 4 rfl).aa 4 rfl).aa 4 rfl).aa 4 rfl).aa 5 rfl
    have em:=St.un [ed] ee ej
    refine Op.BE (d:=.int .i64) (z:=.slice none 0 0) (mt:=135) (kt:=3) (x:=24) (ix:=25) (dst:=none) (k:=u) (by kernel_rfl) (by kernel_rfl) mc (by kernel_rfl) (by kernel_rfl) em 0 rfl ef (fun _=>trivial) fun hj hl en ep=>?_
    obtain⟨hn,ho,er,et⟩:=eh.Q1 u
    have ex:=(ep.aa 0 rfl).aa 1 rfl
    have c9:=(St.u0 er ex).drop
    refine Op.gt 6 ?_
    refine At.rp 7 3 [(28,vQ D 2)] ?_
    refine Op.l1 133 28 29 2 (vP co) (c9.ah 4 rfl) ?_
    refine Op.px 1 [(30,vI u)] ?_
    refine Op.ls 31 1 3 #[vI u] c9 fun bm hq eA=>?_
    have eB:aJ 3 (fh .i64) I (vL (some ⟨bm,0,none⟩) 1 1) [u] [(bm,Obj.cells #[vI u] 3 (0,0))]:=aJ.lit (by kernel_rfl) (by unfold maxLen;decide) (by kernel_rfl) ⟨_,_,rfl,rfl,Reads.nil⟩
    have ae:=(((((((eA.aa 6 rfl).aa 6 rfl).aa 6 rfl).aa 6 rfl).aa 6 rfl).aa 6 rfl).aa 7 rfl).aa 7 rfl
    have da:=ae.gz
    have eE:=eB.fY ae
    refine Op.le (some 32) 1 ae (Pz _ _ _ ae.iO (U.mono da) co x.book _ (d4.mono da) _ _ eE (by(try dsimp only)<;>exact V.book) (by((try dsimp only)<;>((simp;done)))) (St.pt 1 ae.freeze.1)) (fun _ _ _ hp=>by obtain⟨_,_,_,_,_,_,J,_⟩:=hp;exact J) ?_
    rintro _ _ hr db ⟨hu,eI,hw,rfl,bo,bt,J,rfl⟩;clear J
    obtain⟨hz,hA,rfl⟩:=bo.aj
    replace bo:=bo.bu (fun _ _ _ _ h=>h) (g':=I)
    replace bt:=bt.bu (g':=I)
    refine Op.gt 7 ?_
    refine At.rp 9 3 [(35,vP D)] ?_
    refine Op.l1 129 35 36 0 (vP ci) (db.ah 7 rfl) ?_
    refine Op.px 1 [(37,vI u)] ?_
    refine Op.ls 38 1 3 #[vI u] db fun Y hB eJ=>?_
    have eK:aJ 3 (fh .i64) I (vL (some ⟨Y,0,none⟩) 1 1) [u] [(Y,Obj.cells #[vI u] 3 (0,0))]:=aJ.lit (by kernel_rfl) (by unfold maxLen;decide) (by kernel_rfl) ⟨_,_,rfl,rfl,Reads.nil⟩
    have eL:=(((((((((eJ.aa 8 rfl).aa 8 rfl).aa 8 rfl).aa 8 rfl).aa 8 rfl).aa 8 rfl).aa 8 rfl).aa 8 rfl).aa 9 rfl).aa 9 rfl
    have am:=St.mg 2 eL
    have eQ:=am.gz
    have e1:=eK.lH (c:=([(Y,Obj.cells #[vI u] 3 (0,0))]++a6:ay)) am (by intro p hp;simp only[dP,hp,iF,iG])
    have e2:=fI.fY (C:=([(Y,Obj.cells #[vI u] 3 (0,0))]++a6:ay)) c4 am (by intro p hp;simp only[dP,hp,iF,iG])
    refine Op.le (some 39) 0 am (OI _ _ _ am.iO (U.mono eQ) ci x.au e2 _ _ e1 (by(try dsimp only)<;>exact V.tree) (by((try dsimp only)<;>((simp;done))))) (fun _ _ _ hp=>by obtain⟨_,_,_,_,J,_⟩:=hp;exact J) ?_ (hM:=(fun _ _ h=>absurd h (dB _)))
    rintro _ _ hC e3 ⟨hD,e4,rfl,ab,J,rfl⟩;clear J
    obtain⟨a117,dc,rfl⟩:=ab.aj
    replace ab:=ab.bu (fun _ _ _ _ h=>h) (g':=I)
    have e5:=St.sp [[(Y,Obj.cells #[vI u] 3 (0,0))],a6] e3
    refine Op.pg 8 [(40,vI ((gw x.au ([u])).length:Int)),(41,vI 0)] ?_
    have e6:=(((((((e5.aa 5 rfl).aa 5 rfl).aa 5 rfl).aa 5 rfl).aa 5 rfl).aa 5 rfl).aa 6 rfl).aa 7 rfl
    obtain⟨hE,e7,e8⟩:=St.bJ (Q:=lV I c3 (eF x.events u)) 2 e6 ⟨_,_,_,_,rfl,en,et⟩
    have e9:=((((((((((e8.aa 7 rfl).aa 7 rfl).aa 6 rfl).aa 6 rfl).aa 5 rfl).aa 10 rfl).aa 6 rfl).aa 8 rfl).aa 9 rfl).aa 9 rfl).aa 10 rfl
    obtain⟨hF,fa,fg⟩:=St.bJ (Q:=cu I D (⟨x.au,(List.filter (fun w=>!qg ([u]) w) x.aN),(ia (qd ([u])) x.book),x.aA,x.count,(eF x.events u),x.aR⟩:Sp)) 6 e9 ⟨_,_,_,_,_,_,_,_,_,_,rfl,c4,bk,bt,e7,d6⟩
    have fi:∀(m:Nat) (ar:GH) (a7:aM I ar) (y:Sp) (q:Int) (b3:ay) (b4:ax) (hm:(gw x.au [u]).length-q.toNat<m) (h4:0≤q) (h5:q≤(gw x.au [u]).length) (h6:(gw x.au [u]).length≤1000) (aw:eg y) (hy:y=((gw x.au [u]).take q.toNat).foldl jG (oB x u)) (b5:cu ar D y b3) (a8:St h g (aV [X]) ar [b3,[(Y,Obj.cells #[vI u] 3 (0,0))],e4,[(bm,Obj.cells #[vI u] 3 (0,0))],eI,[(bj,Obj.cells #[vI u] 3 (0,0))]] b4),At (bX prog B 75 f75 R) [] 8 [(0,vP D),(8,vL (some ⟨ch,be,none⟩) G.length a1),(9,vI (G.length:Int)),(10,vI i),(39,vL a117 ((gw x.au ([u])).length) dc),(40,vI ((gw x.au ([u])).length:Int)),(41,vI q)] b4:=by
     intro m;induction m with
     |zero=>intros;omega
     |succ m fj=>
      intro ar a7 y q b3 b4 hm h4 h5 h6 aw hy b5 a8
      replace ab:=ab.mono a7
      replace U:=U.mono a7
      refine At.go 9 1 [(42,.bool (decide (q<((gw x.au ([u])).length:Int))))] ?_
      refine At.fd (q<((gw x.au ([u])).length:Int)) 42 10 14 (fun hG=>?_) fun hH=>?_
      ·refine At.rg 3 ?_
       obtain⟨O,a9⟩:=cG (gw x.au ([u])) q
       obtain⟨fl,dd,hI,hJ,fp,fr,b6⟩:=jX.bF (ab.toH a8 2 rfl) _ a9
       cases fp
       refine Op.iq 40 9 1 16 ((gw x.au ([u])).length) dc 39 41 43 fl dd q ?_
       replace b6:cut _ _ _=[vS O]:=b6
       refine Op.l1 9 43 44 (dd+q.toNat*1) (vS O) fr ?_ (hv:=c_ b6 0 rfl)
       refine Op.pg 11 [(7,vS O)] ?_
       refine At.rp 6 3 [(47,vP D)] ?_
       obtain⟨df,ft,hK,fv,hL,fw,hN,fx,hO,f0,f1,f2,f3,f4,f5,f6⟩:=b5
       have dg:=St.un [ft,fv,fw,fx,f0] f1 a8
       refine Op.l1 129 47 48 0 (vP df) (dg.ah 0 rfl) ?_
       refine Op.px 1 [(49,vS O)] ?_
       have b8:=(dg.aa 0 rfl).aa 1 rfl
       refine Op.cl (some 50) 1 b8 (EY _ _ _ b8.sub U df y.au _ f2 O (-1) (by(try dsimp only)<;>exact aw.tree) (by((try dsimp only)<;>((have:=Ko V.tree (cj a9);omega)))) (St.pt 1 b8)) ?_
       rintro _ f7 _ hP f8 f9 ⟨hQ,rfl,gc,J,rfl⟩;subst f7;clear f8
       refine Op.gt 12 ?_
       refine At.rp 3 2 [(51,vP D),(52,vS O)] ?_
       have ge:=(f9.aa 0 rfl).aa 1 rfl
       obtain⟨hS,gg,ca⟩:=St.bJ (Q:=cu ar D (⟨(f_ y.au O (-1)).1,y.aN,y.book,y.aA,y.count,y.events,y.aR⟩:Sp)) 6 ge ⟨_,_,_,_,_,_,_,_,_,_,rfl,gc,f3,f4,f5,f6⟩
       refine Op.cl (some 53) 1 ca (KF _ _ _ ca.sub U D (⟨(f_ y.au O (-1)).1,y.aN,y.book,y.aA,y.count,y.events,y.aR⟩:Sp) _ gg O (by((try dsimp only)<;>(exact aw.tr (aw.tree.drop _ _)))) (by((try dsimp only)<;>((have:=Ko V.tree (cj a9);omega)))) (St.pt 1 ca)) ?_
       rintro _ hT _ hV hW gk ⟨hX,rfl,gn,rfl⟩
       refine Op.gt 13 ?_
       refine At.rg 2 ?_
       refine Op.vq 54 (q+1) ?_
       exact Op.pg 8 [(41,vI (q+1))] (At.ke (fj _ (aM.trans a7 (by repeat (first|assumption|apply aM.trans))) (pE (⟨(f_ y.au O (-1)).1,y.aN,y.book,y.aA,y.count,y.events,y.aR⟩:Sp) O) (q+1) _ _ (by omega) (by omega) (by omega) (by omega) (by exact aw.jG _) (by exact RC hy h4 a9) gn gk))
      refine At.rg 2 ?_
      refine Op.vq 55 (i+1) ?_
      refine Op.pg 1 [(10,vI (i+1))] ?_
      have gs:=(((((a8.aa 0 rfl).aa 5 rfl).aa 5 rfl).aa 5 rfl).aa 5 rfl).aa 5 rfl
      have g1:=gs.drop.drop.drop.drop.drop
      exact At.ke (dq _ (aM.trans a3 (by repeat (first|assumption|apply aM.trans))) y (i+1) _ _ (by omega) (by omega) (by omega) (by(rw[Kn hy ‹_›];exact V.iV _)) (by(rw[Kn hy ‹_›];exact RA hx h0 ‹_›)) b5 g1)
    exact At.ke (fi _ _ (aM.refl _) (⟨x.au,(List.filter (fun w=>!qg ([u]) w) x.aN),(ia (qd ([u])) x.book),x.aA,x.count,(eF x.events u),x.aR⟩:Sp) 0 _ _ (bM _) (by omega) (by omega) (by exact RD V.tree) (by exact V.left _) (by rfl) fa fg)
   exact At.rt (.tuple #[]) (hR a5 ⟨a4,rfl,bd.eq (by exact RB hx ‹_›),rfl⟩)
 exact At.ke (dp _ _ (aM.refl _) s 0 _ _ (bM _) (by omega) (by omega) (by exact dk) (by rfl) dj hs)
end Go.Proofs.YtceekbnihfckeaaGreatDoor.Sw
