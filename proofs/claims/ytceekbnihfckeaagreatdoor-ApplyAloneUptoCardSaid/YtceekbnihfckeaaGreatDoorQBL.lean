/- Lemmas for laws of this seat. -/
import Derived.Test.YtceekbnihfckeaaGreatDoorQBK
import Derived.Lib.ConvBytes
import Derived.Laws.MakeOwn
namespace Go.Proofs.YtceekbnihfckeaaGreatDoor.Sw
open Tryz
set_option linter.unusedVariables false
set_option linter.unusedSimpArgs false
set_option linter.deprecated false
open Go
set_option linter.defProp false
def pM:=@Nat.le_of_lt_succ
def qt:=@not_or
def EP:=@List.pairwise_singleton
def ER:=@List.pairwise_append
def Ju:=@List.exists_mem_of_ne_nil
theorem PU (h:ax) (o:Obj) (f:Obj→Obj):(h.push o).modify h.size f=h.push (f o):=by
  apply DF
  intro k
  rw[Bd,Bc,Bc]
  by_cases hk:h.size=k
  · subst hk;simp
  · rw[aC hk,aC (fun e=>hk e.symm),aC (fun e=>hk e.symm)]
section
variable {P:Program} {w:World} {t t' ty E:TypeId} {sz dx:Nat} {i:TypeInfo} {z:Value}
end
def x8 {α:Type} (T:TypeId) (d:Kd α) (g:GH) (v:Value) (xs:List α) (c:ay):Prop:=
  ∃(b o cap q:Nat) (cur:Array Value) (rest:List α),v=.slice (some ⟨b,o,none⟩) xs.length cap∧c=[(b,.cells cur T (q,q+1))]∧cur.size≤q∧xs.length+rest.length=cap∧cap≤maxLen∧o+cap*d.sz≤cur.size∧Reads d g (xs++rest) (cut cur o (cap*d.sz))
def wO {α:Type} (T:TypeId) (d:Kd α) (g:GH) (v:Value) (xs:List α) (c:ay):Prop:=aJ T d g v xs c∨x8 T d g v xs c
section
variable {α:Type} {d:Kd α} {g g':GH} {h h':ax} {T:TypeId} {v:Value} {xs:List α} {c:ay}
theorem wO.aj (hr:wO T d g v xs c):∃ao cap,v=.slice ao xs.length cap:=by
  rcases hr with h|⟨b,o,cap,q,cur,rest,e1,_⟩
  · exact h.aj
  · exact⟨_,_,e1⟩
theorem wO.toH {h0:ax} {g0:GH} {S0:Nat→Prop} {L:List ay} (hr:wO T d g v xs c) (s:St h0 g0 S0 g L h) (k:Nat) (hk:L[k]?=some c):jX h g T d v xs:=by
  rcases hr with hr|⟨b,o,cap,q,cur,rest,rfl,rfl,hq,h1,h2,h3,h4⟩
  · exact hr.toH s k hk
  · exact⟨_,cap,rfl,by omega,fun _=>⟨b,o,cur,(T,_,_),rfl,s.ah k hk,Bj h1 h4⟩⟩
end
theorem x8.freeze {α:Type} {d:Kd α} {g:GH} {h:ax} {T:TypeId} {v:Value} {xs:List α} {c:ay} {h0:ax} {g0:GH} {S0:Nat→Prop} {L:List ay} (hr:wO T d g v xs c) (s:St h0 g0 S0 g (c::L) h):
    ∃g',St h0 g0 S0 g' L h∧aM g g'∧av g' T d v xs:=by
  rcases hr with hr|⟨b,o,cap,q,cur,rest,rfl,rfl,hq,h1,h2,h3,h4⟩
  · exact hr.freeze s
  · obtain⟨u,hle⟩:=s.freeze
    exact⟨_,u,hle,_,cap,rfl,by omega,fun _=>⟨b,o,cur,(T,_,_),rfl,iN _ _,(Bj h1 h4).mono hle⟩⟩
section
variable {C:fP} {ds:List Deferred} {i j:Nat} {r:ax} {M:Nat→Prop} {Ls:List (Nat×Bool)} {e:Env} {h:ax}
variable {h0:ax} {g0:GH} {S0:Nat→Prop} {g:GH} {L:List ay}
theorem Op.toBytes {dst:Nat} {T S E:TypeId} {x:Operand} {l:an} (ho:dS C i j e=some (some dst,.convert S T x)) (hS:C.P.underlying S=some .string) (hT:C.P.underlying T=some (.slice E)) (hE:C.P.underlying E=some (.int .u8))
    (hx:e.ev x=.string (bp l)) (hl:l.length≤140737488355328) (s:St h0 g0 S0 g L h)
    (K:∀v c h',wO E br g v l c→St h0 g0 S0 g (c::L) h'→Op C ds i r M Ls ((dst,v)::e) h'):Op C ds i r M ((j,false)::Ls) e h:=by
  obtain⟨o',h1,h2,h3⟩:=gT ho
  refine Op.run h1 (R:=fun D h'=>∃v c,D=.value v∧wO E br g v l c∧St h0 g0 S0 g (c::L) h'∧(ez r M h→ez r M h')) ?_ ?_
  · intro w is
    have hh:=is.heap
    have hsz:(bp l).size=l.length:=qH l
    have hrun:=Lib.run_convert_string_bytes (P:=C.P) w S T E (bp l) hS hT hE
    have hheap:(Lib.bytesWorld w E (bp l)).heap=w.heap.push (.cells (Lib.bytesCells w E (bp l)) E ((Lib.bytesCells w E (bp l)).size,(Lib.bytesCells w E (bp l)).size+1)):=by
      simp only[Lib.bytesWorld,World.freeze,World.alloc,World.drew]
      rw[aC (by decide)]
      dsimp only
      rw[PU]
      simp
    have O:=zx w l.length 0 E
    have G:=Dk w l.length 0 E (by unfold maxLen;omega)
    have u:(Lib.bytesCells w E (bp l)).size=grownCap w l.length 0 E:=by
      unfold Lib.bytesCells
      rw[Dd,DB,Array.size_replicate,hsz]
      show(bp l).size+_=_
      omega
    refine⟨_,Lib.bytesWorld w E (bp l),?_,⟨rfl,?_,?_,?_⟩,_,[(w.heap.size,.cells (Lib.bytesCells w E (bp l)) E ((Lib.bytesCells w E (bp l)).size,(Lib.bytesCells w E (bp l)).size+1))],rfl,.inr ⟨w.heap.size,0,grownCap w l.length 0 E,_,_,List.replicate (grownCap w l.length 0 E-l.length) 0,rfl,rfl,iE _,by simp;omega,G,by rw[u];simp[br],?_⟩,?_,?_⟩
    · unfold fL execOp
      simp only[h3,hx,Sem.run_bind,hrun,hsz,Result.andThen_ok,Sem.run_pure]
    · exact is.os
    · exact is.tape
    · exact is.output
    · have e1:cut (Lib.bytesCells w E (bp l)) 0 (grownCap w l.length 0 E*br.sz)=(l.map fun b=>Value.int .u8 b.toNat)++List.replicate (grownCap w l.length 0 E-l.length) (.int .u8 0):=by
        unfold cut
        rw[zq,fC (by rw[uw,u];simp[br])]
        unfold Lib.bytesCells
        rw[hsz,De,Array.toList_map,Array.toList_replicate]
        rfl
      rw[e1]
      refine(Ga g l).append ?_
      generalize grownCap w l.length 0 E-l.length=q
      induction q with
      |zero=>rfl
      |succ q ih=>rw[zu,zu];exact⟨[.int .u8 0],_,rfl,rfl,ih⟩
    · rw[hheap,hh];exact s.alloc _
    · intro I;rw[hheap,hh];exact ez.push _ I
  · rintro _ _ ⟨v,c,rfl,hrow,hst,J⟩
    refine⟨v,rfl,J,?_⟩
    rw[h2]
    exact K v c _ hrow hst
end
set_option maxRecDepth 100000
def Jv (g:GH) (a:Bool) (v:Value):Prop:=v=.bool a
theorem PV (B:World) (h:ax) (g:GH) (hg:bl g h) (aw:bq g) (kind:Int):
  aE prog B 105 #[vI kind] h g [] (fun ad g' L'=>ad=.tuple #[.agg #[.bool ((bT kind).eX),.bool ((bT kind).data),.bool ((bT kind).lM),.bool ((bT kind).dD),.bool ((bT kind).make),.bool ((bT kind).watch),.bool ((bT kind).ops)],.bool (nS kind)]∧g'=g∧L'=[]):=by
 refine aE.aq func105 fun R hR=>?_
 have ae:=St.init hg
 refine At.rg 2 ?_
 refine Op.al 2 180 #[.bool false,.bool false,.bool false,.bool false,.bool false,.bool false,.bool false] ae fun a0 a1 u=>?_
 refine Op.pg 1 [] ?_
 refine At.go 2 1 [(4,vI kind)] ?_
 refine At.go 3 2 [(5,.bool (kind==1))] ?_
 refine At.fd (kind=1) 5 4 6 (fun a3=>?_) fun a4=>?_
 ·refine At.rp 3 1 [(7,.agg #[.bool false,.bool false,.bool false,.bool true,.bool false,.bool false,.bool false])] ?_
  refine Op.sg 180 2 7 0 0 #[.bool false,.bool false,.bool false,.bool true,.bool false,.bool false,.bool false] u (fun _=>trivial) fun a5 D=>?_
  refine Op.pg 5 [(3,.bool true)] ?_
  exact At.rm f105 [.agg #[.bool false,.bool false,.bool false,.bool true,.bool false,.bool false,.bool false],.bool true] [.cell 2 180,.tmp 3] (.tuple #[.agg #[.bool false,.bool false,.bool false,.bool true,.bool false,.bool false,.bool false],.bool true]) ⟨⟨_,_,rfl,dY (n:=7) (by kernel_rfl) (D.ah 0 rfl) (by kernel_rfl) rfl⟩,rfl,trivial⟩ (hR D.drop ⟨b7 (by(subst_vars;rfl)) (aS (by(subst_vars;rfl))),rfl,rfl⟩)
 refine At.go 7 2 [(8,.bool (kind==2))] ?_
 refine At.fd (kind=2) 8 9 8 (fun am=>?_) fun a6=>?_
 ·refine At.kT 8 am ?_
  refine At.bW 8 10 ?_
  refine At.rp 3 1 [(11,.agg #[.bool false,.bool false,.bool false,.bool false,.bool false,.bool false,.bool false])] ?_
  refine Op.sg 180 2 11 0 0 #[.bool false,.bool false,.bool false,.bool false,.bool false,.bool false,.bool false] u (fun _=>trivial) fun a7 G=>?_
  refine Op.pg 5 [(3,.bool true)] ?_
  exact At.rm f105 [.agg #[.bool false,.bool false,.bool false,.bool false,.bool false,.bool false,.bool false],.bool true] [.cell 2 180,.tmp 3] (.tuple #[.agg #[.bool false,.bool false,.bool false,.bool false,.bool false,.bool false,.bool false],.bool true]) ⟨⟨_,_,rfl,dY (n:=7) (by kernel_rfl) (G.ah 0 rfl) (by kernel_rfl) rfl⟩,rfl,trivial⟩ (hR G.drop ⟨b7 (by(subst_vars;rfl)) (aS (by(subst_vars;rfl))),rfl,rfl⟩)
 refine At.go 9 2 [(8,.bool (kind==9))] ?_
 refine At.fd (kind=9) 8 10 12 (fun a8=>?_) fun a9=>?_
 ·refine At.rp 3 1 [(11,.agg #[.bool false,.bool false,.bool false,.bool false,.bool false,.bool false,.bool false])] ?_
  refine Op.sg 180 2 11 0 0 #[.bool false,.bool false,.bool false,.bool false,.bool false,.bool false,.bool false] u (fun _=>trivial) fun bc I=>?_
  refine Op.pg 5 [(3,.bool true)] ?_
  exact At.rm f105 [.agg #[.bool false,.bool false,.bool false,.bool false,.bool false,.bool false,.bool false],.bool true] [.cell 2 180,.tmp 3] (.tuple #[.agg #[.bool false,.bool false,.bool false,.bool false,.bool false,.bool false,.bool false],.bool true]) ⟨⟨_,_,rfl,dY (n:=7) (by kernel_rfl) (I.ah 0 rfl) (by kernel_rfl) rfl⟩,rfl,trivial⟩ (hR I.drop ⟨b7 (by(subst_vars;rfl)) (aS (by(subst_vars;rfl))),rfl,rfl⟩)
 refine At.go 13 2 [(12,.bool (kind==3))] ?_
 refine At.fd (kind=3) 12 14 16 (fun bd=>?_) fun be=>?_
 ·refine At.rp 3 1 [(14,.agg #[.bool true,.bool true,.bool false,.bool false,.bool true,.bool false,.bool false])] ?_
  refine Op.sg 180 2 14 0 0 #[.bool true,.bool true,.bool false,.bool false,.bool true,.bool false,.bool false] u (fun _=>trivial) fun bi J=>?_
  refine Op.pg 5 [(3,.bool true)] ?_
  exact At.rm f105 [.agg #[.bool true,.bool true,.bool false,.bool false,.bool true,.bool false,.bool false],.bool true] [.cell 2 180,.tmp 3] (.tuple #[.agg #[.bool true,.bool true,.bool false,.bool false,.bool true,.bool false,.bool false],.bool true]) ⟨⟨_,_,rfl,dY (n:=7) (by kernel_rfl) (J.ah 0 rfl) (by kernel_rfl) rfl⟩,rfl,trivial⟩ (hR J.drop ⟨b7 (by(subst_vars;rfl)) (aS (by(subst_vars;rfl))),rfl,rfl⟩)
 refine At.go 17 2 [(15,.bool (kind==4))] ?_
 refine At.fd (kind=4) 15 18 20 (fun bj=>?_) fun bk=>?_
 ·refine At.rp 3 1 [(17,.agg #[.bool true,.bool false,.bool true,.bool false,.bool false,.bool false,.bool false])] ?_
  refine Op.sg 180 2 17 0 0 #[.bool true,.bool false,.bool true,.bool false,.bool false,.bool false,.bool false] u (fun _=>trivial) fun bm O=>?_
  refine Op.pg 5 [(3,.bool true)] ?_
  exact At.rm f105 [.agg #[.bool true,.bool false,.bool true,.bool false,.bool false,.bool false,.bool false],.bool true] [.cell 2 180,.tmp 3] (.tuple #[.agg #[.bool true,.bool false,.bool true,.bool false,.bool false,.bool false,.bool false],.bool true]) ⟨⟨_,_,rfl,dY (n:=7) (by kernel_rfl) (O.ah 0 rfl) (by kernel_rfl) rfl⟩,rfl,trivial⟩ (hR O.drop ⟨b7 (by(subst_vars;rfl)) (aS (by(subst_vars;rfl))),rfl,rfl⟩)
 refine At.go 21 2 [(18,.bool (kind==5))] ?_
 refine At.fd (kind=5) 18 22 24 (fun bo=>?_) fun bt=>?_
 ·refine At.rp 3 1 [(20,.agg #[.bool true,.bool true,.bool true,.bool false,.bool false,.bool false,.bool false])] ?_
  refine Op.sg 180 2 20 0 0 #[.bool true,.bool true,.bool true,.bool false,.bool false,.bool false,.bool false] u (fun _=>trivial) fun b3 U=>?_
  refine Op.pg 5 [(3,.bool true)] ?_
  exact At.rm f105 [.agg #[.bool true,.bool true,.bool true,.bool false,.bool false,.bool false,.bool false],.bool true] [.cell 2 180,.tmp 3] (.tuple #[.agg #[.bool true,.bool true,.bool true,.bool false,.bool false,.bool false,.bool false],.bool true]) ⟨⟨_,_,rfl,dY (n:=7) (by kernel_rfl) (U.ah 0 rfl) (by kernel_rfl) rfl⟩,rfl,trivial⟩ (hR U.drop ⟨b7 (by(subst_vars;rfl)) (aS (by(subst_vars;rfl))),rfl,rfl⟩)
 refine At.go 25 2 [(21,.bool (kind==6))] ?_
 refine At.fd (kind=6) 21 27 26 (fun ar=>?_) fun b4=>?_
 ·refine At.kT 21 ar ?_
  refine At.bW 21 28 ?_
  refine At.rp 3 1 [(24,.agg #[.bool true,.bool false,.bool false,.bool false,.bool false,.bool true,.bool false])] ?_
  refine Op.sg 180 2 24 0 0 #[.bool true,.bool false,.bool false,.bool false,.bool false,.bool true,.bool false] u (fun _=>trivial) fun b5 V=>?_
  refine Op.pg 5 [(3,.bool true)] ?_
  exact At.rm f105 [.agg #[.bool true,.bool false,.bool false,.bool false,.bool false,.bool true,.bool false],.bool true] [.cell 2 180,.tmp 3] (.tuple #[.agg #[.bool true,.bool false,.bool false,.bool false,.bool false,.bool true,.bool false],.bool true]) ⟨⟨_,_,rfl,dY (n:=7) (by kernel_rfl) (V.ah 0 rfl) (by kernel_rfl) rfl⟩,rfl,trivial⟩ (hR V.drop ⟨b7 (by(subst_vars;rfl)) (aS (by(subst_vars;rfl))),rfl,rfl⟩)
 refine At.go 27 2 [(21,.bool (kind==7))] ?_
 refine At.fd (kind=7) 21 28 30 (fun b6=>?_) fun b8=>?_
 ·refine At.rp 3 1 [(24,.agg #[.bool true,.bool false,.bool false,.bool false,.bool false,.bool true,.bool false])] ?_
  refine Op.sg 180 2 24 0 0 #[.bool true,.bool false,.bool false,.bool false,.bool false,.bool true,.bool false] u (fun _=>trivial) fun ca X=>?_
  refine Op.pg 5 [(3,.bool true)] ?_
  exact At.rm f105 [.agg #[.bool true,.bool false,.bool false,.bool false,.bool false,.bool true,.bool false],.bool true] [.cell 2 180,.tmp 3] (.tuple #[.agg #[.bool true,.bool false,.bool false,.bool false,.bool false,.bool true,.bool false],.bool true]) ⟨⟨_,_,rfl,dY (n:=7) (by kernel_rfl) (X.ah 0 rfl) (by kernel_rfl) rfl⟩,rfl,trivial⟩ (hR X.drop ⟨b7 (by(subst_vars;rfl)) (aS (by(subst_vars;rfl))),rfl,rfl⟩)
 refine At.go 31 2 [(25,.bool (kind==8))] ?_
 refine At.fd (kind=8) 25 32 34 (fun cb=>?_) fun ce=>?_
 ·refine At.rp 3 1 [(27,.agg #[.bool false,.bool false,.bool false,.bool false,.bool false,.bool false,.bool true])] ?_
  refine Op.sg 180 2 27 0 0 #[.bool false,.bool false,.bool false,.bool false,.bool false,.bool false,.bool true] u (fun _=>trivial) fun cf Y=>?_
  refine Op.pg 5 [(3,.bool true)] ?_
  exact At.rm f105 [.agg #[.bool false,.bool false,.bool false,.bool false,.bool false,.bool false,.bool true],.bool true] [.cell 2 180,.tmp 3] (.tuple #[.agg #[.bool false,.bool false,.bool false,.bool false,.bool false,.bool false,.bool true],.bool true]) ⟨⟨_,_,rfl,dY (n:=7) (by kernel_rfl) (Y.ah 0 rfl) (by kernel_rfl) rfl⟩,rfl,trivial⟩ (hR Y.drop ⟨b7 (by(subst_vars;rfl)) (aS (by(subst_vars;rfl))),rfl,rfl⟩)
 refine At.rp 3 1 [(28,.agg #[.bool false,.bool false,.bool false,.bool false,.bool false,.bool false,.bool false])] ?_
 refine Op.sg 180 2 28 0 0 #[.bool false,.bool false,.bool false,.bool false,.bool false,.bool false,.bool false] u (fun _=>trivial) fun ch ab=>?_
 refine Op.pg 35 [(3,.bool false)] ?_
 exact At.rm f105 [.agg #[.bool false,.bool false,.bool false,.bool false,.bool false,.bool false,.bool false],.bool false] [.cell 2 180,.tmp 3] (.tuple #[.agg #[.bool false,.bool false,.bool false,.bool false,.bool false,.bool false,.bool false],.bool false]) ⟨⟨_,_,rfl,dY (n:=7) (by kernel_rfl) (ab.ah 0 rfl) (by kernel_rfl) rfl⟩,rfl,trivial⟩ (hR ab.drop ⟨b7 (by(rw[PA (I6 ‹_› ‹_› ‹_› ‹_› ‹_› ‹_› ‹_› ‹_› ‹_›)])) (aS (by exact I6 ‹_› ‹_› ‹_› ‹_› ‹_› ‹_› ‹_› ‹_› ‹_› |> Eq.symm)),rfl,rfl⟩)
theorem PW (B:World) (h:ax) (g:GH) (hg:bl g h) (a5:bq g) (V:Value) (l:List aG) (X:av g 25 ek V l) (f:Nat) (q:aG→Bool) (Y:aG→Prop) (hf:fc prog f) (hq:∀(B:World) (h:ax) (g:GH),bl g h→bq g→∀(x:aG) (ab:Value) (bt:av g 5 br ab x.Data) (ad:Value) (b3:av g 25 ek ad x.az),Y x→aE prog B f #[.agg #[.int .i64 x.Kind,.string (bp x.af),ab,.int .i64 x.ai,.int .i64 x.aF,.bool x.aY,.bool x.aI,.bool x.ak,ad]] h g [] (fun v g' L'=>v=.bool (q x)∧g'=g∧L'=[])) (hall:∀x∈l,Y x) (hlen:l.length≤1000000000):
  aE prog B 160 #[V,.func (.func f) #[] #[]] h g [] (fun a6 g' L'=>a6=.int .i64 (fm q l)∧g'=g∧L'=[]):=by
 obtain⟨ae,O,rfl⟩:=X.aj
 refine aE.aq func160 fun R hR=>?_
 have a7:=St.init hg
 refine At.go 1 1 [] ?_
 refine At.go 2 3 [(7,vI (l.length:Int)),(8,vI 0)] ?_
 have a8:∀(m:Nat) (i:Int) (U:ax) (hm:l.length-i.toNat<m) (h0:0≤i) (h1:i≤l.length) (I:findAt q l i) (D:St h g (aV []) g [] U),At (bX prog B 160 f160 R) [] 2 [(0,vL ae l.length O),(1,.func (.func f) #[] #[]),(7,vI (l.length:Int)),(8,vI i)] U:=by
  intro m;induction m with
  |zero=>intros;omega
  |succ m a9=>
   intro i U hm h0 h1 I D
   refine At.go 3 1 [(9,.bool (decide (i<(l.length:Int))))] ?_
   refine At.fd (i<(l.length:Int)) 9 4 10 (fun b4=>?_) fun bc=>?_
   ·refine At.go 5 2 [(5,vI i)] ?_
    refine At.rp 6 3 [(11,.func (.func f) #[] #[]),(12,vL ae l.length O),(13,vI i)] ?_
    obtain⟨u,J⟩:=cG l i
    obtain⟨bd,am,b5,b6,be,bi,G⟩:=av.bF X _ J
    cases be
    refine Op.iq 23 25 9 96 l.length O 12 13 14 bd am i ?_
    replace G:=iC.1 G
    obtain⟨b8,ca,ar,aw,G⟩:=G
    obtain⟨a37,a0,rfl⟩:=ar.aj
    obtain⟨a1,a3,rfl⟩:=aw.aj
    refine Op.la 25 14 15 (am+i.toNat*9) 9 [vI u.Kind,vS u.af,vL a37 u.Data.length a0,vI u.ai,vI u.aF,.bool u.aY,.bool u.aI,.bool u.ak,vL a1 u.az.length a3] (D.sub _ _ bi) ?_ (hv:=G)
    refine Op.cv (some 16) 11 #[15] #[25] f #[] #[] [] [] #[.agg #[vI u.Kind,vS u.af,vL a37 u.Data.length a0,vI u.ai,vI u.aF,.bool u.aY,.bool u.aI,.bool u.ak,vL a1 u.az.length a3]] hf (by kernel_rfl) D (hq _ _ _ D.sub a5 u _ ar _ aw (by((try dsimp only)<;>(exact hall _ (cj J))))) (fun _ _ h=>absurd h (dB _)) ?_
    rintro _ bj _ cb bk a4 ⟨rfl,ce,rfl⟩;subst bj;clear bk
    refine Op.gt 6 ?_
    refine At.di (q u) 16 7 9 (fun bm=>?_) fun bo=>?_
    ·exact At.gr 8 2 4 (vI i) (hR a4 ⟨(bB (by exact wB I J bm)),rfl,rfl⟩)
    refine At.rg 2 ?_
    refine Op.vq 18 (i+1) ?_
    exact Op.pg 2 [(8,vI (i+1))] (At.ke (a9 (i+1) _ (by omega) (by omega) (by omega) (by exact xP I h0 J bo) a4))
   exact At.gr 11 1 4 (vI (-1)) (hR D ⟨(bB (by exact wC I bc)),rfl,rfl⟩)
 exact At.ke (a8 _ 0 _ (bM _) (by omega) (by omega) (by exact xO _ _) a7)
theorem PX (B:World) (h:ax) (g:GH) (hg:bl g h) (U:bq g) (D:Value) (l:List aG) (G:av g 25 ek D l) (f:Nat) (q:aG→Bool) (u:aG→Prop) (hf:fc prog f) (hq:∀(B:World) (h:ax) (g:GH),bl g h→bq g→∀(x:aG) (I:Value) (ad:av g 5 br I x.Data) (J:Value) (ae:av g 25 ek J x.az),u x→aE prog B f #[.agg #[.int .i64 x.Kind,.string (bp x.af),I,.int .i64 x.ai,.int .i64 x.aF,.bool x.aY,.bool x.aI,.bool x.ak,J]] h g [] (fun v g' L'=>v=.bool (q x)∧g'=g∧L'=[])) (hall:∀x∈l,u x) (hlen:l.length≤1000000000):
  aE prog B 106 #[D,.func (.func f) #[] #[]] h g [] (fun V g' L'=>V=.bool (l.any q)∧g'=g∧L'=[]):=by
 obtain⟨X,Y,rfl⟩:=G.aj
 refine aE.aq func106 fun R hR=>?_
 have O:=St.init hg
 refine At.go 1 1 [] ?_
 refine At.rp 5 2 [(5,vL X l.length Y),(6,.func (.func f) #[] #[])] ?_
 refine Op.c1 7 (PW _ _ _ O.sub U _ _ G f q u hf hq (by(try dsimp only)<;>assumption) (by(try dsimp only)<;>assumption)) O fun am ab=>?_
 exact Op.pr 2 4 (.bool (decide ((fm q l)≥0))) (hR ab ⟨(aS (by exact xN _ _)),rfl,rfl⟩)
theorem PY (mr:Nat) (am:∀(B:World) (h:ax) (g:GH) (hg:bl g h) (G:bq g) (o:aG) (I:Value) (a1:av g 5 br I o.Data) (J:Value) (a3:av g 25 ek J o.az) (bR:Bool) (hs:cq o≤1000000000) (ar:cq o<mr),aE prog B 51 #[.agg #[vI o.Kind,vS o.af,I,vI o.ai,vI o.aF,.bool o.aY,.bool o.aI,.bool o.ak,J],.bool bR] h g [] (fun u g' L'=>u=.bool (dr bR o)∧g'=g∧L'=[])) (B:World) (h:ax) (g:GH) (hg:bl g h) (G:bq g) (x:aG) (O:Value) (U:av g 5 br O x.Data) (V:Value) (X:av g 25 ek V x.az) (hs:cq x≤1000000000) (ar:cq x<mr):
  aE prog B 107 #[.agg #[vI x.Kind,vS x.af,O,vI x.ai,vI x.aF,.bool x.aY,.bool x.aI,.bool x.ak,V]] h g [] (fun u g' L'=>u=.bool (!dr true x)∧g'=g∧L'=[]):=by
 obtain⟨Y,ab,rfl⟩:=U.aj
 obtain⟨ad,ae,rfl⟩:=X.aj
 refine aE.aq func107 fun R hR=>?_
 have aw:=St.init hg
 refine At.rg 2 ?_
 refine Op.bx 1 25 0 #[vI x.Kind,vS x.af,vL Y x.Data.length ab,vI x.ai,vI x.aF,.bool x.aY,.bool x.aI,.bool x.ak,vL ad x.az.length ae] aw fun a4 a5 D=>?_
 refine Op.pg 1 [] ?_
 refine At.rg 4 ?_
 refine Op.la 25 1 3 0 9 [vI x.Kind,vS x.af,vL Y x.Data.length ab,vI x.ai,vI x.aF,.bool x.aY,.bool x.aI,.bool x.ak,vL ad x.az.length ae] (D.ah 0 rfl) ?_
 refine Op.c1 4 (am _ _ _ D.sub G x _ U _ X true (by(try dsimp only)<;>omega) ‹_›) D fun a6 a0=>?_
 exact Op.pr 2 2 (.bool (!(dr true x))) (hR a0.drop ⟨(aS (by rfl)),rfl,rfl⟩)
theorem PZ (mr:Nat):∀(B:World) (h:ax) (g:GH) (hg:bl g h) (aw:bq g) (o:aG) (a0:Value) (bm:av g 5 br a0 o.Data) (a1:Value) (a3:av g 25 ek a1 o.az) (bR:Bool) (hs:cq o≤1000000000) (bo:cq o<mr),aE prog B 51 #[.agg #[vI o.Kind,vS o.af,a0,vI o.ai,vI o.aF,.bool o.aY,.bool o.aI,.bool o.ak,a1],.bool bR] h g [] (fun dE g' L'=>dE=.bool (dr bR o)∧g'=g∧L'=[]):=by
 induction mr with
 |zero=>intros;omega
 |succ mr dT=>
 intro B h g hg aw o a0 bm a1 a3 bR hs bo
 obtain⟨O,U,rfl⟩:=bm.aj
 obtain⟨I,J,rfl⟩:=a3.aj
 refine aE.aq func51 fun R hR=>?_
 have d0:=St.init hg
 refine At.rg 2 ?_
 refine Op.bx 2 25 0 #[vI o.Kind,vS o.af,vL O o.Data.length U,vI o.ai,vI o.aF,.bool o.aY,.bool o.aI,.bool o.ak,vL I o.az.length J] d0 fun u ej a4=>?_
 refine Op.pg 1 [] ?_
 refine At.rp 9 1 [(8,vP u)] ?_
 refine Op.l1 3 8 9 0 (vI o.Kind) (a4.ah 0 rfl) ?_
 refine Op.c1 10 (PV _ _ _ a4.sub aw o.Kind) a4 fun em d1=>?_
 refine Op.px 3 [(11,.agg #[.bool ((bT o.Kind).eX),.bool ((bT o.Kind).data),.bool ((bT o.Kind).lM),.bool ((bT o.Kind).dD),.bool ((bT o.Kind).make),.bool ((bT o.Kind).watch),.bool ((bT o.Kind).ops)]),(12,.bool (nS o.Kind))] ?_
 refine Op.al 5 180 #[.bool false,.bool false,.bool false,.bool false,.bool false,.bool false,.bool false] d1 fun D en d2=>?_
 refine Op.sg 180 5 11 0 0 #[.bool ((bT o.Kind).eX),.bool ((bT o.Kind).data),.bool ((bT o.Kind).lM),.bool ((bT o.Kind).dD),.bool ((bT o.Kind).make),.bool ((bT o.Kind).watch),.bool ((bT o.Kind).ops)] d2 (fun _=>trivial) fun ep X=>?_
 refine Op.pg 2 [(6,.bool (nS o.Kind))] ?_
 have a5:∀(m:Nat) (a6:ax) (hm:0<m) (hA:rA o bR=true) (Y:St h g (aV []) g [[(D,Obj.cells #[.bool ((bT o.Kind).eX),.bool ((bT o.Kind).data),.bool ((bT o.Kind).lM),.bool ((bT o.Kind).dD),.bool ((bT o.Kind).make),.bool ((bT o.Kind).watch),.bool ((bT o.Kind).ops)] 180 (0,0))],[(u,Obj.cells #[vI o.Kind,vS o.af,vL O o.Data.length U,vI o.ai,vI o.aF,.bool o.aY,.bool o.aI,.bool o.ak,vL I o.az.length J] 25 (0,0))]] a6),At (bX prog B 51 f51 R) [] 8 [(2,vP u),(5,vP D)] a6:=by
  intro m;induction m with
  |zero=>intros;omega
  |succ m er=>
   intro a6 hm hA Y
   have bt:∀(m:Nat) (a7:ax) (hm:0<m) (b3:qX o=true) (ab:St h g (aV []) g [[(D,Obj.cells #[.bool ((bT o.Kind).eX),.bool ((bT o.Kind).data),.bool ((bT o.Kind).lM),.bool ((bT o.Kind).dD),.bool ((bT o.Kind).make),.bool ((bT o.Kind).watch),.bool ((bT o.Kind).ops)] 180 (0,0))],[(u,Obj.cells #[vI o.Kind,vS o.af,vL O o.Data.length U,vI o.ai,vI o.aF,.bool o.aY,.bool o.aI,.bool o.ak,vL I o.az.length J] 25 (0,0))]] a7),At (bX prog B 51 f51 R) [] 10 [(2,vP u),(5,vP D)] a7:=by
    intro m;induction m with
    |zero=>intros;omega
    |succ m et=>
     intro a7 hm b3 ab
     have b4:∀(m:Nat) (a8:ax) (hm:0<m) (b5:qY o=true) (ad:St h g (aV []) g [[(D,Obj.cells #[.bool ((bT o.Kind).eX),.bool ((bT o.Kind).data),.bool ((bT o.Kind).lM),.bool ((bT o.Kind).dD),.bool ((bT o.Kind).make),.bool ((bT o.Kind).watch),.bool ((bT o.Kind).ops)] 180 (0,0))],[(u,Obj.cells #[vI o.Kind,vS o.af,vL O o.Data.length U,vI o.ai,vI o.aF,.bool o.aY,.bool o.aI,.bool o.ak,vL I o.az.length J] 25 (0,0))]] a8),At (bX prog B 51 f51 R) [] 12 [(2,vP u),(5,vP D)] a8:=by
      intro m;induction m with
      |zero=>intros;omega
      |succ m ex=>
       intro a8 hm b5 ad
       have b6:∀(m:Nat) (a9:ax) (hm:0<m) (b8:qZ o=true) (ae:St h g (aV []) g [[(D,Obj.cells #[.bool ((bT o.Kind).eX),.bool ((bT o.Kind).data),.bool ((bT o.Kind).lM),.bool ((bT o.Kind).dD),.bool ((bT o.Kind).make),.bool ((bT o.Kind).watch),.bool ((bT o.Kind).ops)] 180 (0,0))],[(u,Obj.cells #[vI o.Kind,vS o.af,vL O o.Data.length U,vI o.ai,vI o.aF,.bool o.aY,.bool o.aI,.bool o.ak,vL I o.az.length J] 25 (0,0))]] a9),At (bX prog B 51 f51 R) [] 14 [(2,vP u),(5,vP D)] a9:=by
        intro m;induction m with
        |zero=>intros;omega
        |succ m eA=>
         intro a9 hm b8 ae
         have ca:∀(m:Nat) (bc:ax) (hm:0<m) (cb:q7 o=true) (V:St h g (aV []) g [[(D,Obj.cells #[.bool ((bT o.Kind).eX),.bool ((bT o.Kind).data),.bool ((bT o.Kind).lM),.bool ((bT o.Kind).dD),.bool ((bT o.Kind).make),.bool ((bT o.Kind).watch),.bool ((bT o.Kind).ops)] 180 (0,0))],[(u,Obj.cells #[vI o.Kind,vS o.af,vL O o.Data.length U,vI o.ai,vI o.aF,.bool o.aY,.bool o.aI,.bool o.ak,vL I o.az.length J] 25 (0,0))]] bc),At (bX prog B 51 f51 R) [] 16 [(2,vP u),(5,vP D)] bc:=by
          intro m;induction m with
          |zero=>intros;omega
          |succ m eB=>
           intro bc hm cb V
           have ce:∀(m:Nat) (bd:ax) (hm:0<m) (cf:qe o=true) (am:St h g (aV []) g [[(D,Obj.cells #[.bool ((bT o.Kind).eX),.bool ((bT o.Kind).data),.bool ((bT o.Kind).lM),.bool ((bT o.Kind).dD),.bool ((bT o.Kind).make),.bool ((bT o.Kind).watch),.bool ((bT o.Kind).ops)] 180 (0,0))],[(u,Obj.cells #[vI o.Kind,vS o.af,vL O o.Data.length U,vI o.ai,vI o.aF,.bool o.aY,.bool o.aI,.bool o.ak,vL I o.az.length J] 25 (0,0))]] bd),At (bX prog B 51 f51 R) [] 18 [(2,vP u),(5,vP D)] bd:=by
            intro m;induction m with
            |zero=>intros;omega
            |succ m eE=>
             intro bd hm cf am
             have ch:∀(m:Nat) (be:ax) (hm:0<m) (ci:q8 o=true) (ar:St h g (aV []) g [[(D,Obj.cells #[.bool ((bT o.Kind).eX),.bool ((bT o.Kind).data),.bool ((bT o.Kind).lM),.bool ((bT o.Kind).dD),.bool ((bT o.Kind).make),.bool ((bT o.Kind).watch),.bool ((bT o.Kind).ops)] 180 (0,0))],[(u,Obj.cells #[vI o.Kind,vS o.af,vL O o.Data.length U,vI o.ai,vI o.aF,.bool o.aY,.bool o.aI,.bool o.ak,vL I o.az.length J] 25 (0,0))]] be),At (bX prog B 51 f51 R) [] 20 [(2,vP u),(5,vP D)] be:=by
              intro m;induction m with
              |zero=>intros;omega
              |succ m eI=>
               intro be hm ci ar
               have ck:∀(m:Nat) (bi:ax) (hm:0<m) (co:n7 o=true) (G:St h g (aV []) g [[(D,Obj.cells #[.bool ((bT o.Kind).eX),.bool ((bT o.Kind).data),.bool ((bT o.Kind).lM),.bool ((bT o.Kind).dD),.bool ((bT o.Kind).make),.bool ((bT o.Kind).watch),.bool ((bT o.Kind).ops)] 180 (0,0))],[(u,Obj.cells #[vI o.Kind,vS o.af,vL O o.Data.length U,vI o.ai,vI o.aF,.bool o.aY,.bool o.aI,.bool o.ak,vL I o.az.length J] 25 (0,0))]] bi),At (bX prog B 51 f51 R) [] 24 [(2,vP u)] bi:=by
                intro m;induction m with
                |zero=>intros;omega
                |succ m eJ=>
                 intro bi hm co G
                 refine At.rp 4 1 [(89,vQ u 3)] ?_
                 refine Op.l1 3 89 90 3 (vI o.ai) (G.ah 1 rfl) ?_
                 refine Op.pg 25 [(88,.bool (decide (o.ai<((-1):Int))))] ?_
                 refine At.fd (o.ai<((-1):Int)) 88 33 26 (fun d3=>?_) fun eK=>?_
                 ·refine At.kT 88 d3 ?_
                  refine At.bW 88 34 ?_
                  exact At.gr 7 1 4 (.bool false) (hR G.drop.drop ⟨(aS (by exact(Al (Am (by omega))).symm)),rfl,rfl⟩)
                 refine At.rp 4 1 [(92,vQ u 3)] ?_
                 refine Op.l1 3 92 93 3 (vI o.ai) (G.ah 1 rfl) ?_
                 refine Op.pg 27 [(88,.bool (decide (o.ai≥1099511627776)))] ?_
                 refine At.fd (o.ai≥1099511627776) 88 33 28 (fun d4=>?_) fun eL=>?_
                 ·refine At.kT 88 d4 ?_
                  refine At.bW 88 34 ?_
                  exact At.gr 7 1 4 (.bool false) (hR G.drop.drop ⟨(aS (by exact(Al (Am (by omega))).symm)),rfl,rfl⟩)
                 refine At.rp 4 1 [(95,vQ u 4)] ?_
                 refine Op.l1 3 95 96 4 (vI o.aF) (G.ah 1 rfl) ?_
                 refine Op.pg 29 [(88,.bool (decide (o.aF<0)))] ?_
                 refine At.fd (o.aF<0) 88 33 30 (fun d5=>?_) fun eQ=>?_
                 ·refine At.kT 88 d5 ?_
                  refine At.bW 88 34 ?_
                  exact At.gr 7 1 4 (.bool false) (hR G.drop.drop ⟨(aS (by exact(Al (Am (by omega))).symm)),rfl,rfl⟩)
                 refine At.rp 4 1 [(98,vQ u 4)] ?_
                 refine Op.l1 3 98 99 4 (vI o.aF) (G.ah 1 rfl) ?_
                 refine Op.pg 31 [(88,.bool (decide (o.aF≥1099511627776)))] ?_
                 refine At.fd (o.aF≥1099511627776) 88 33 32 (fun d6=>?_) fun e1=>?_
                 ·refine At.kT 88 d6 ?_
                  refine At.bW 88 34 ?_
                  exact At.gr 7 1 4 (.bool false) (hR G.drop.drop ⟨(aS (by exact(Al (Am (by omega))).symm)),rfl,rfl⟩)
                 refine At.rp 5 1 [(101,vQ u 8)] ?_
                 refine Op.l1 23 101 102 8 (vL I o.az.length J) (G.ah 1 rfl) ?_
                 refine Op.pg 33 [(88,.bool (decide ((o.az.length:Int)>4)))] ?_
                 refine At.fd ((o.az.length:Int)>4) 88 34 36 (fun e2=>?_) fun e3=>?_
                 ·exact At.gr 7 1 4 (.bool false) (hR G.drop.drop ⟨(aS (by exact(Al (Am (by omega))).symm)),rfl,rfl⟩)
                 refine At.rp 5 1 [(105,vQ u 8)] ?_
                 refine Op.l1 23 105 106 8 (vL I o.az.length J) (G.ah 1 rfl) ?_
                 refine Op.c1 107 (PX _ _ _ G.sub aw _ _ a3 107 (fun x=>!dr true x) (fun x=>cq x<cq o) (fc.of (by kernel_rfl)) (fun B h g hg aw x v2 h2 d7 h8 hc=>PY mr dT B h g hg aw x v2 h2 d7 h8 (by omega) (nv hc (pM bo))) (by(try dsimp only)<;>exact fun x hx=>ie hx) (by((try dsimp only)<;>((have:=fO o;omega))))) G fun e4 d8=>?_
                 exact Op.pr 37 4 (.bool (!(o.az.any (fun x=>!dr true x)))) (hR d8.drop.drop ⟨(aS (by exact PI hA b3 b5 b8 cb cf ci co (PJ ‹_› ‹_› ‹_› ‹_› ‹_›))),rfl,rfl⟩)
               refine At.rp 10 1 [(79,vQ D 6)] ?_
               refine Op.l1 4 79 80 6 (.bool ((bT o.Kind).ops)) (ar.ah 0 rfl) ?_
               refine Op.px 2 [(82,.bool (!((bT o.Kind).ops)))] ?_
               refine Op.wb (!((bT o.Kind).ops)) 82 (fun c3=>?_) fun c4=>?_
               ·replace c3:=(dG c3)
                refine Op.px 1 [(83,vQ u 8)] ?_
                refine Op.l1 23 83 84 8 (vL I o.az.length J) (ar.ah 1 rfl) ?_
                refine Op.pg 21 [(27,.bool ((o.az.length:Int) != 0))] ?_
                refine At.fn ((o.az.length:Int)=0) 27 22 24 (fun e5=>?_) fun e6=>?_
                ·exact At.gr 7 1 4 (.bool false) (hR ar.drop.drop ⟨(aS (by(refine(PG ?_).symm;unfold n7;simp_all;done))),rfl,rfl⟩)
                exact At.ke (ck _ _ (bM _) (by(unfold n7;simp[*];done)) ar)
               replace c4:=(dH c4)
               refine Op.pg 21 [(27,.bool false)] ?_
               exact At.dK 27 24 (At.ke (ck _ _ (bM _) (by(unfold n7;simp[*];done)) ar))
             refine At.rp 8 1 [(72,vQ D 5)] ?_
             refine Op.l1 4 72 73 5 (.bool ((bT o.Kind).watch)) (am.ah 0 rfl) ?_
             refine Op.px 2 [(75,.bool (!((bT o.Kind).watch)))] ?_
             refine Op.wb (!((bT o.Kind).watch)) 75 (fun c5=>?_) fun c6=>?_
             ·replace c5:=(dG c5)
              refine Op.px 1 [(76,vQ u 7)] ?_
              refine Op.l1 4 76 77 7 (.bool o.ak) (am.ah 1 rfl) ?_
              refine Op.pg 19 [(27,.bool o.ak)] ?_
              refine At.di o.ak 27 21 20 (fun d9=>?_) fun e7=>?_
              ·refine At.kB 27 d9 ?_
               refine At.bW 27 22 ?_
               exact At.gr 7 1 4 (.bool false) (hR am.drop.drop ⟨(aS (by(refine(PF ?_).symm;unfold q8;simp[*];done))),rfl,rfl⟩)
              exact At.ke (ch _ _ (bM _) (by(unfold q8;simp[*];done)) am)
             replace c6:=(dH c6)
             refine Op.pg 19 [(27,.bool false)] ?_
             exact At.dK 27 20 (At.ke (ch _ _ (bM _) (by(unfold q8;simp[*];done)) am))
           refine At.rp 12 1 [(61,vQ D 4)] ?_
           refine Op.l1 4 61 62 4 (.bool ((bT o.Kind).make)) (V.ah 0 rfl) ?_
           refine Op.px 2 [(64,.bool (!((bT o.Kind).make)))] ?_
           refine Op.wb (!((bT o.Kind).make)) 64 (fun c8=>?_) fun c9=>?_
           ·replace c8:=(dG c8)
            refine Op.px 1 [(65,vQ u 5)] ?_
            refine Op.l1 4 65 66 5 (.bool o.aY) (V.ah 1 rfl) ?_
            refine Op.px 1 [(67,.bool o.aY)] ?_
            refine Op.wb o.aY 67 (fun e8=>?_) fun e9=>?_
            ·refine Op.pg 17 [(27,.bool true)] ?_
             refine At.bW 27 21 ?_
             refine At.bW 27 22 ?_
             exact At.gr 7 1 4 (.bool false) (hR V.drop.drop ⟨(aS (by(refine(I_ ?_).symm;unfold qe;simp[*];done))),rfl,rfl⟩)
            refine Op.px 1 [(68,vQ u 6)] ?_
            refine Op.l1 4 68 69 6 (.bool o.aI) (V.ah 1 rfl) ?_
            refine Op.pg 17 [(27,.bool o.aI)] ?_
            refine At.di o.aI 27 21 18 (fun ed=>?_) fun fa=>?_
            ·refine At.kB 27 ed ?_
             refine At.bW 27 22 ?_
             exact At.gr 7 1 4 (.bool false) (hR V.drop.drop ⟨(aS (by(refine(I_ ?_).symm;unfold qe;simp[*];done))),rfl,rfl⟩)
            exact At.ke (ce _ _ (bM _) (by(unfold qe;simp[*];done)) V)
           replace c9:=(dH c9)
           refine Op.pg 17 [(27,.bool false)] ?_
           exact At.dK 27 18 (At.ke (ce _ _ (bM _) (by(unfold qe;simp[*];done)) V))
         refine At.rp 9 1 [(53,vQ D 3)] ?_
         refine Op.l1 4 53 54 3 (.bool ((bT o.Kind).dD)) (ae.ah 0 rfl) ?_
         refine Op.px 2 [(56,.bool (!((bT o.Kind).dD)))] ?_
         refine Op.wb (!((bT o.Kind).dD)) 56 (fun da=>?_) fun db=>?_
         ·replace da:=(dG da)
          refine Op.px 1 [(57,vQ u 4)] ?_
          refine Op.l1 3 57 58 4 (vI o.aF) (ae.ah 1 rfl) ?_
          refine Op.pg 15 [(27,.bool (o.aF != 0))] ?_
          refine At.fn (o.aF=0) 27 21 16 (fun ee=>?_) fun fg=>?_
          ·refine At.nT 27 ee ?_
           refine At.bW 27 22 ?_
           exact At.gr 7 1 4 (.bool false) (hR ae.drop.drop ⟨(aS (by(refine(PE ?_).symm;unfold q7;simp[*];done))),rfl,rfl⟩)
          exact At.ke (ca _ _ (bM _) (by(unfold q7;simp[*];done)) ae)
         replace db:=(dH db)
         refine Op.pg 15 [(27,.bool false)] ?_
         exact At.dK 27 16 (At.ke (ca _ _ (bM _) (by(unfold q7;simp[*];done)) ae))
       refine At.rp 9 1 [(45,vQ D 2)] ?_
       refine Op.l1 4 45 46 2 (.bool ((bT o.Kind).lM)) (ad.ah 0 rfl) ?_
       refine Op.px 2 [(48,.bool (!((bT o.Kind).lM)))] ?_
       refine Op.wb (!((bT o.Kind).lM)) 48 (fun dc=>?_) fun dd=>?_
       ·replace dc:=(dG dc)
        refine Op.px 1 [(49,vQ u 3)] ?_
        refine Op.l1 3 49 50 3 (vI o.ai) (ad.ah 1 rfl) ?_
        refine Op.pg 13 [(27,.bool (o.ai != 0))] ?_
        refine At.fn (o.ai=0) 27 21 14 (fun ef=>?_) fun fi=>?_
        ·refine At.nT 27 ef ?_
         refine At.bW 27 22 ?_
         exact At.gr 7 1 4 (.bool false) (hR ad.drop.drop ⟨(aS (by(refine(PD ?_).symm;unfold qZ;simp[*];done))),rfl,rfl⟩)
        exact At.ke (b6 _ _ (bM _) (by(unfold qZ;simp[*];done)) ad)
       replace dd:=(dH dd)
       refine Op.pg 13 [(27,.bool false)] ?_
       exact At.dK 27 14 (At.ke (b6 _ _ (bM _) (by(unfold qZ;simp[*];done)) ad))
     refine At.rp 10 1 [(36,vQ D 1)] ?_
     refine Op.l1 4 36 37 1 (.bool ((bT o.Kind).data)) (ab.ah 0 rfl) ?_
     refine Op.px 2 [(39,.bool (!((bT o.Kind).data)))] ?_
     refine Op.wb (!((bT o.Kind).data)) 39 (fun df=>?_) fun dg=>?_
     ·replace df:=(dG df)
      refine Op.px 1 [(40,vQ u 2)] ?_
      refine Op.l1 22 40 41 2 (vL O o.Data.length U) (ab.ah 1 rfl) ?_
      refine Op.pg 11 [(27,.bool ((o.Data.length:Int) != 0))] ?_
      refine At.fn ((o.Data.length:Int)=0) 27 21 12 (fun eh=>?_) fun fj=>?_
      ·refine At.nT 27 eh ?_
       refine At.bW 27 22 ?_
       exact At.gr 7 1 4 (.bool false) (hR ab.drop.drop ⟨(aS (by(refine(PC ?_).symm;unfold qY;simp_all;done))),rfl,rfl⟩)
      exact At.ke (b4 _ _ (bM _) (by(unfold qY;simp[*];done)) ab)
     replace dg:=(dH dg)
     refine Op.pg 11 [(27,.bool false)] ?_
     exact At.dK 27 12 (At.ke (b4 _ _ (bM _) (by(unfold qY;simp[*];done)) ab))
   refine At.rp 9 1 [(28,vP D)] ?_
   refine Op.l1 4 28 29 0 (.bool ((bT o.Kind).eX)) (Y.ah 0 rfl) ?_
   refine Op.px 2 [(31,.bool (!((bT o.Kind).eX)))] ?_
   refine Op.wb (!((bT o.Kind).eX)) 31 (fun dj=>?_) fun dk=>?_
   ·replace dj:=(dG dj)
    refine Op.px 1 [(32,vQ u 1)] ?_
    refine Op.l1 9 32 33 1 (vS o.af) (Y.ah 1 rfl) ?_
    refine Op.vl 34 (.bool (!((bp o.af).toList==(bp []).toList))) (.bool (!(o.af==([]:an)))) (by rw[toList_mkS,toList_mkS]) ?_
    refine Op.pg 9 [(27,.bool (!(o.af==([]:an))))] ?_
    refine At.di (!(o.af==([]:an))) 27 21 10 (fun bj=>?_) fun dl=>?_
    ·refine At.kB 27 bj ?_
     replace bj:=n4 (dG bj)
     refine At.bW 27 22 ?_
     exact At.gr 7 1 4 (.bool false) (hR Y.drop.drop ⟨(aS (by(refine(PB ?_).symm;unfold qX;simp[*];done))),rfl,rfl⟩)
    replace dl:=eq_of_beq (dH dl)
    exact At.ke (bt _ _ (bM _) (by(unfold qX;simp[*];done)) Y)
   replace dk:=(dH dk)
   refine Op.pg 9 [(27,.bool false)] ?_
   exact At.dK 27 10 (At.ke (bt _ _ (bM _) (by(unfold qX;simp[*];done)) Y))
 refine At.go 3 3 [(13,.bool (!(nS o.Kind)))] ?_
 refine At.di (!(nS o.Kind)) 13 5 4 (fun bk=>?_) fun dp=>?_
 ·refine At.kB 13 bk ?_
  replace bk:=(dG bk)
  refine At.bW 13 6 ?_
  exact At.gr 7 1 4 (.bool false) (hR X.drop.drop ⟨(aS (by(refine(I9 ?_).symm;unfold rA;simp[*];done))),rfl,rfl⟩)
 replace dp:=(dH dp)
 refine At.rp 12 2 [(17,.bool bR)] ?_
 refine Op.wb bR 17 (fun fl=>?_) fun fp=>?_
 ·refine Op.px 1 [(18,vQ D 4)] ?_
  refine Op.l1 4 18 19 4 (.bool ((bT o.Kind).make)) (X.ah 0 rfl) ?_
  refine Op.px 3 [(22,.bool (!((bT o.Kind).make)))] ?_
  refine Op.wb (!((bT o.Kind).make)) 22 (fun dq=>?_) fun du=>?_
  ·replace dq:=(dG dq)
   refine Op.px 1 [(23,vQ D 2)] ?_
   refine Op.l1 4 23 24 2 (.bool ((bT o.Kind).lM)) (X.ah 0 rfl) ?_
   refine Op.pg 5 [(13,.bool (!((bT o.Kind).lM)))] ?_
   refine At.di (!((bT o.Kind).lM)) 13 6 8 (fun dv=>?_) fun dC=>?_
   ·replace dv:=(dG dv)
    exact At.gr 7 1 4 (.bool false) (hR X.drop.drop ⟨(aS (by(refine(I9 ?_).symm;unfold rA;simp[*];done))),rfl,rfl⟩)
   replace dC:=(dH dC)
   exact At.ke (a5 _ _ (bM _) (by(unfold rA;simp[*];done)) X)
  replace du:=(dH du)
  refine Op.pg 5 [(13,.bool false)] ?_
  exact At.dK 13 8 (At.ke (a5 _ _ (bM _) (by(unfold rA;simp[*];done)) X))
 refine Op.pg 5 [(13,.bool false)] ?_
 exact At.dK 13 8 (At.ke (a5 _ _ (bM _) (by(unfold rA;simp[*];done)) X))
theorem Jw (B:World) (h:ax) (g:GH) (hg:bl g h) (G:bq g) (o:aG) (u:Value) (I:av g 5 br u o.Data) (D:Value) (J:av g 25 ek D o.az) (bR:Bool) (hs:cq o≤1000000000):aE prog B 51 #[.agg #[vI o.Kind,vS o.af,u,vI o.ai,vI o.aF,.bool o.aY,.bool o.aI,.bool o.ak,D],.bool bR] h g [] (fun O g' L'=>O=.bool (dr bR o)∧g'=g∧L'=[]):=PZ _ B h g hg G o u I D J bR hs (bM _)
theorem P0 (B:World) (h:ax) (g:GH) (hg:bl g h) (da:bq g) (o:aG) (a5:Value) (b4:av g 5 br a5 o.Data) (a6:Value) (b5:av g 25 ek a6 o.az):
  aE prog B 108 #[.agg #[vI o.Kind,vS o.af,a5,vI o.ai,vI o.aF,.bool o.aY,.bool o.aI,.bool o.ak,a6]] h g [] (fun b6 g' L'=>b6=.int .i64 (fS o)∧g'=g∧L'=[]):=by
 obtain⟨a7,a8,rfl⟩:=b4.aj
 obtain⟨a9,bc,rfl⟩:=b5.aj
 refine aE.aq func108 fun R hR=>?_
 have b8:=St.init hg
 refine At.rg 2 ?_
 refine Op.bx 1 25 0 #[vI o.Kind,vS o.af,vL a7 o.Data.length a8,vI o.ai,vI o.aF,.bool o.aY,.bool o.aI,.bool o.ak,vL a9 o.az.length bc] b8 fun X db ca=>?_
 refine Op.pg 1 [] ?_
 refine At.go 2 1 [(3,vI 0)] ?_
 refine At.rg 12 ?_
 refine Op.makeMap (mt:=243) (dst:=6) (by kernel_rfl) ca fun I dc bd=>?_
 have cb:cZ encI #[] 0 ([]:List (Int×Value)):=cZ.empty _ _
 have ce:ga (Jv g) [] ([]:List (Int×Bool)):=ga.nil
 refine Op.px 1 [(7,vQ X 5)] ?_
 refine Op.l1 4 7 8 5 (.bool o.aY) (bd.ah 1 rfl) ?_
 refine Op.oM (d:=.int .i64) (z:=.bool false) (mt:=243) (x:=6) (ix:=(.const (vI 1))) (y:=8) (k:=(1:Int)) (v:=.bool o.aY) (.inr (by kernel_rfl)) (by kernel_rfl) mc (by kernel_rfl) (by kernel_rfl) (by kernel_rfl) bd 0 rfl cb (fun _=>trivial) fun dd df dg cf be=>?_
 have ch:=ga.p5 (k:=(1:Int)) (a:=o.aY) (v:=.bool o.aY) ce rfl
 refine Op.px 1 [(9,vQ X 6)] ?_
 refine Op.l1 4 9 10 6 (.bool o.aI) (be.ah 1 rfl) ?_
 refine Op.oM (d:=.int .i64) (z:=.bool false) (mt:=243) (x:=6) (ix:=(.const (vI 2))) (y:=10) (k:=(2:Int)) (v:=.bool o.aI) (.inr (by kernel_rfl)) (by kernel_rfl) mc (by kernel_rfl) (by kernel_rfl) (by kernel_rfl) be 0 rfl cf (fun _=>trivial) fun dj dk dl ci bi=>?_
 have ck:=ga.p5 (k:=(2:Int)) (a:=o.aI) (v:=.bool o.aI) ch rfl
 refine Op.px 1 [(11,vQ X 7)] ?_
 refine Op.l1 4 11 12 7 (.bool o.ak) (bi.ah 1 rfl) ?_
 refine Op.oM (d:=.int .i64) (z:=.bool false) (mt:=243) (x:=6) (ix:=(.const (vI 4))) (y:=12) (k:=(4:Int)) (v:=.bool o.ak) (.inr (by kernel_rfl)) (by kernel_rfl) mc (by kernel_rfl) (by kernel_rfl) (by kernel_rfl) bi 0 rfl ci (fun _=>trivial) fun co ar dp aw bj=>?_
 have c3:=ga.p5 (k:=(4:Int)) (a:=o.ak) (v:=.bool o.ak) ck rfl
 refine Op.px 1 [(13,.map (some I))] ?_
 refine Op.wz (d:=.int .i64) (z:=.bool false) (mt:=243) (x:=13) (dst:=14) (m:=I) (by kernel_rfl) (by kernel_rfl) (by kernel_rfl) (bj.ah 0 rfl) aw bj fun Y c4 dq a0 c5=>?_
 replace a0:=a0.toD aw
 refine Op.gt 3 ?_
 have c6:∀(m:Nat) (x1:List (Int×Bool)) (n:Int) (J:Array MapEntry) (G:List (Int×Value)) (ab:List (Int×Value)) (a1:Obj) (a3:ax) (hm:ab.length<m) (O:kn o x1 ab G n) (U:cZ encI J ar G) (V:ga (Jv g) G x1) (bk:kK encI J ar I ab none a1) (ad:St h g (aV []) g [[(Y,a1)],[(I,.map J ar)],[(X,Obj.cells #[vI o.Kind,vS o.af,vL a7 o.Data.length a8,vI o.ai,vI o.aF,.bool o.aY,.bool o.aI,.bool o.ak,vL a9 o.az.length bc] 25 (0,0))]] a3),At (bX prog B 108 f108 R) [] 3 [(3,vI n),(14,vP Y)] a3:=by
  intro m;induction m with
  |zero=>intros;omega
  |succ m bm=>
   intro x1 n J G ab a1 a3 hm O U V bk ad
   refine At.rg 2 ?_
   refine Op.IX (x:=14) (dst:=15) (it:=Y) (m:=I) (by kernel_rfl) (by kernel_rfl) (ad.ah 1 rfl) U bk ad 0 rfl (fun _=>trivial) ⟨fun u=>?_,fun bo D c8 bt b3 du u a4 ae=>?_⟩
   ·refine Op.pg 4 [(16,.bool false)] ?_
    refine At.dK 16 9 ?_
    exact At.gr 10 2 2 (vI n) (hR ad.drop.drop.drop ⟨(bB (by exact O.j9 u)),rfl,rfl⟩)
   have c9:(D,c8)∈G:=by exact O.mem u
   obtain⟨am,dv,rfl⟩:=V.EC ((EB V.2.1).2 c9)
   refine Op.pg 4 [(16,.bool true)] ?_
   refine At.bW 16 5 ?_
   refine At.rg 5 ?_
   refine Op.IY (x:=14) (dst:=17) (it:=Y) (m:=I) (k:=D) (v:=.bool am) (by kernel_rfl) (by kernel_rfl) (ae.ah 1 rfl) U a4 (ae.ah 0 rfl) ?_
   refine Op.pg 6 [(4,vI D),(5,.bool am)] ?_
   refine At.go 7 1 [(20,.bool am)] ?_
   refine At.di am 20 8 3 (fun dC=>?_) fun dE=>?_
   ·refine At.rp 4 2 [(21,vI n),(22,vI D)] ?_
    refine Op.vl 23 (.int .i64 (IntKind.wrap .i64 (((BitVec.ofInt (IntKind.bits .i64) n ||| BitVec.ofInt (IntKind.bits .i64) D).toNat:Nat):Int))) (.int .i64 (n+D)) (O.PN u ‹_›) ?_
    exact Op.pg 3 [(3,vI (n+D))] (At.ke (bm x1 (n+D) J G (bo++bt) b3 _ (by(have hz:=congrArg List.length u;simp only[cA,bY] at hz ⊢;omega)) (by exact O.hit u ‹_› ‹_›) U V a4.B4 ae))
   exact At.ke (bm x1 n J G (bo++bt) b3 _ (by(have hz:=congrArg List.length u;simp only[cA,bY] at hz ⊢;omega)) (by exact O.jJ u ‹_› ‹_›) U V a4.B4 ae)
 exact At.ke (c6 _ (dJ (dJ (dJ ([]:List (Int×Bool)) (1:Int) o.aY) (2:Int) o.aI) (4:Int) o.ak) 0 co (iZ (iZ (iZ ([]:List (Int×Value)) (1:Int) (.bool o.aY)) (2:Int) (.bool o.aI)) (4:Int) (.bool o.ak)) (iZ (iZ (iZ ([]:List (Int×Value)) (1:Int) (.bool o.aY)) (2:Int) (.bool o.aI)) (4:Int) (.bool o.ak)) c4 _ (bM _) (by exact PM ‹_› rfl) aw c3 a0 c5)
theorem P3 (mr:Nat):∀(B:World) (h:ax) (g:GH) (hg:bl g h) (D:bq g) (o:aG) (a9:Value) (I:av g 5 br a9 o.Data) (bc:Value) (G:av g 25 ek bc o.az) (hr:dr false o=true∨dr true o=true) (hs:cq o≤1000000000) (cb:cq o<mr),aE prog B 52 #[.agg #[vI o.Kind,vS o.af,a9,vI o.ai,vI o.aF,.bool o.aY,.bool o.aI,.bool o.ak,bc]] h g [] (fun dj g' L'=>∃v0,dj=.tuple #[v0,.int .i64 ((cy o).2)]∧av g' 5 br v0 ((cy o).1)∧L'=[]):=by
 induction mr with
 |zero=>intros;omega
 |succ mr dk=>
 intro B h g hg D o a9 I bc G hr hs cb
 obtain⟨U,V,rfl⟩:=I.aj
 obtain⟨ab,X,rfl⟩:=G.aj
 refine aE.aq func52 fun R hR=>?_
 have dl:=St.init hg
 refine At.rg 3 ?_
 refine Op.bx 1 25 0 #[vI o.Kind,vS o.af,vL U o.Data.length V,vI o.ai,vI o.aF,.bool o.aY,.bool o.aI,.bool o.ak,vL ab o.az.length X] dl fun J ef Y=>?_
 refine Op.pg 1 [] ?_
 refine At.dw (fun _=>False) [(0,true),(2,true),(5,true),(1,true),(3,true),(4,true),(6,true),(7,false),(8,false),(9,false),(10,false),(11,true),(12,true),(13,true),(14,true),(15,true)] ?_
 refine Op.px 3 [(12,vP J),(14,vQ J 3),(17,vQ J 4)] ?_
 refine Op.lf 3 12 0 13 1 (vI o.Kind) (fun h=>h) (Y.ah 0 rfl) ?_
 refine Op.lf 3 14 3 15 1 (vI o.ai) (fun h=>h) (Y.ah 0 rfl) ?_
 refine Op.cE 16 (o.ai+1) (by(have h:=(wM hr).2.1;omega)) (by(have h:=(wM hr).2.1;omega)) ?_
 refine Op.lf 3 17 4 18 1 (vI o.aF) (fun h=>h) (Y.ah 0 rfl) ?_
 refine Op.la 25 1 19 0 9 [vI o.Kind,vS o.af,vL U o.Data.length V,vI o.ai,vI o.aF,.bool o.aY,.bool o.aI,.bool o.ak,vL ab o.az.length X] (Y.ah 0 rfl) ?_
 refine Op.c1 20 (P0 _ _ _ Y.sub D o _ I _ G) Y fun eh dp=>?_
 refine Op.ls 21 4 3 #[vI o.Kind,vI (o.ai+1),vI o.aF,vI (fS o)] dp fun ce ej dq=>?_
 have du:aJ 3 (fh .i64) g (vL (some ⟨ce,0,none⟩) 4 4) [o.Kind,o.ai+1,o.aF,fS o] [(ce,Obj.cells #[vI o.Kind,vI (o.ai+1),vI o.aF,vI (fS o)] 3 (0,0))]:=aJ.lit (by kernel_rfl) (by unfold maxLen;decide) (by kernel_rfl) ⟨_,_,rfl,rfl,⟨_,_,rfl,rfl,⟨_,_,rfl,rfl,⟨_,_,rfl,rfl,Reads.nil⟩⟩⟩⟩
 obtain⟨em,cf,bd,dv⟩:=aJ.freeze du (dq.aa 0 rfl)
 replace D:=D.mono bd
 replace I:=I.mono bd
 replace G:=G.mono bd
 refine Op.c0 (some 22) (EA _ _ _ cf.sub D _ _ dv (by((try dsimp only)<;>((simp;done))))) cf ?_
 rintro _ en _ ep be bi ⟨v37,rfl,aw,rfl⟩
 obtain⟨a0,a1,rfl⟩:=aw.aj
 replace D:=D.mono be
 replace I:=I.mono be
 replace G:=G.mono be
 refine Op.pg 2 [(4,vL a0 (((fo ([o.Kind,o.ai+1,o.aF,fS o])).1).length) a1),(5,vI ((fo ([o.Kind,o.ai+1,o.aF,fS o])).2))] ?_
 refine At.go 3 2 [(26,.bool (((fo ([o.Kind,o.ai+1,o.aF,fS o])).2) != 0))] ?_
 refine At.fn (((fo ([o.Kind,o.ai+1,o.aF,fS o])).2)=0) 26 4 6 (fun er=>?_) fun et=>?_
 ·refine At.go 5 3 [(2,vN),(3,vI ((fo ([o.Kind,o.ai+1,o.aF,fS o])).2))] ?_
  exact At.rt (.tuple #[vN,vI ((fo ([o.Kind,o.ai+1,o.aF,fS o])).2)]) (hR bi.drop ⟨vN,b7 rfl (bB (by exact absurd (congrArg Prod.snd (wM hr).1) ‹_›)),b9 (av.empty _ _ _ _ _) (by exact absurd (congrArg Prod.snd (wM hr).1) ‹_›),rfl⟩)
 refine At.rp 8 2 [(28,vL a0 (((fo ([o.Kind,o.ai+1,o.aF,fS o])).1).length) a1),(29,vQ J 1)] ?_
 refine Op.l1 9 29 30 1 (vS o.af) (bi.ah 0 rfl) ?_
 refine Op.toBytes (S:=9) (T:=22) (E:=5) (x:=30) (dst:=31) (l:=o.af) (by kernel_rfl) (by kernel_rfl) (by kernel_rfl) (by kernel_rfl) (by kernel_rfl) (by(have:=fO o;omega)) bi fun ex eA eB ch ci=>?_
 obtain⟨ck,co,rfl⟩:=ch.aj
 refine Op.px 1 [(32,vQ J 2)] ?_
 refine Op.l1 22 32 33 2 (vL U o.Data.length V) (ci.ah 1 rfl) ?_
 obtain⟨c3,dC,a3,dE⟩:=x8.freeze ch (ci.aa 0 rfl)
 replace D:=D.mono a3
 replace I:=I.mono a3
 replace G:=G.mono a3
 replace aw:=aw.mono a3
 refine Op.ls 34 3 22 #[vL a0 (((fo ([o.Kind,o.ai+1,o.aF,fS o])).1).length) a1,vL ck o.af.length co,vL U o.Data.length V] dC fun bj eE c4=>?_
 refine Op.pg 7 [(6,vL (some ⟨bj,0,none⟩) 3 3)] ?_
 refine At.rp 4 1 [(35,vQ J 8)] ?_
 refine Op.l1 23 35 36 8 (vL ab o.az.length X) (c4.ah 1 rfl) ?_
 refine Op.pg 8 [(37,vI (o.az.length:Int)),(38,vI 0)] ?_
 have dT:∀(m:Nat) (a4:GH) (a5:aM c3 a4) (cN:List an) (i:Int) (ad:Option Addr) (ae:Nat) (bk:ay) (bm:ax) (hm:o.az.length-i.toNat<m) (h0:0≤i) (h1:i≤o.az.length) (hI:uP o cN i) (am:aJ 22 (jI 5 br) a4 (.slice ad cN.length ae) cN bk) (a6:St h g (aV []) a4 [bk,[(J,Obj.cells #[vI o.Kind,vS o.af,vL U o.Data.length V,vI o.ai,vI o.aF,.bool o.aY,.bool o.aI,.bool o.ak,vL ab o.az.length X] 25 (0,0))]] bm),At (bX prog B 52 f52 R) [] 8 [(6,vL ad cN.length ae),(36,vL ab o.az.length X),(37,vI (o.az.length:Int)),(38,vI i)] bm:=by
  intro m;induction m with
  |zero=>intros;omega
  |succ m d0=>
   intro a4 a5 cN i ad ae bk bm hm h0 h1 hI am a6
   replace D:=D.mono a5
   replace G:=G.mono a5
   refine At.go 9 1 [(39,.bool (decide (i<(o.az.length:Int))))] ?_
   refine At.fd (i<(o.az.length:Int)) 39 10 18 (fun eI=>?_) fun eJ=>?_
   ·refine At.rg 4 ?_
    obtain⟨u,O⟩:=cG o.az i
    obtain⟨d1,c5,eK,eL,d2,bo,ar⟩:=av.bF G _ O
    cases d2
    refine Op.iq 23 25 9 96 o.az.length X 36 38 40 d1 c5 i ?_
    replace ar:=iC.1 ar
    obtain⟨eQ,e1,c6,c8,ar⟩:=ar
    obtain⟨bt,b3,rfl⟩:=c6.aj
    obtain⟨b4,b5,rfl⟩:=c8.aj
    refine Op.la 25 40 41 (c5+i.toNat*9) 9 [vI u.Kind,vS u.af,vL bt u.Data.length b3,vI u.ai,vI u.aF,.bool u.aY,.bool u.aI,.bool u.ak,vL b4 u.az.length b5] (a6.sub _ _ bo) ?_ (hv:=ar)
    refine Op.al 8 25 #[vI 0,vS [],vN,vI 0,vI 0,.bool false,.bool false,.bool false,vN] a6 fun e2 e3 d3=>?_
    refine Op.sg 25 8 41 0 0 #[vI u.Kind,vS u.af,vL bt u.Data.length b3,vI u.ai,vI u.aF,.bool u.aY,.bool u.aI,.bool u.ak,vL b4 u.az.length b5] d3 (fun _=>trivial) fun e4 b6=>?_
    refine Op.gt 11 ?_
    refine At.rg 7 ?_
    refine Op.la 25 8 43 0 9 [vI u.Kind,vS u.af,vL bt u.Data.length b3,vI u.ai,vI u.aF,.bool u.aY,.bool u.aI,.bool u.ak,vL b4 u.az.length b5] (b6.ah 0 rfl) ?_
    refine Op.c0 (some 44) (dk _ _ _ b6.sub D u _ c6 _ c8 (by((try dsimp only)<;>(exact .inr ((wM hr).2.2.2 _ (cj O))))) (by((try dsimp only)<;>((have:=ie (cj O);omega)))) (by exact nv (ie (cj O)) (pM cb))) b6 ?_
    rintro _ e5 _ e6 c9 da ⟨e7,rfl,db,rfl⟩
    obtain⟨a7,a8,rfl⟩:=db.aj
    replace bo:=c9 _ _ bo
    replace am:=am.mono c9
    refine Op.pg 12 [(9,vL a7 (((cy u).1).length) a8),(10,vI ((cy u).2))] ?_
    refine At.go 13 2 [(48,.bool (((cy u).2) != 0))] ?_
    refine At.fn (((cy u).2)=0) 48 14 16 (fun e8=>?_) fun e9=>?_
    ·refine At.go 15 3 [(2,vN),(3,vI ((cy u).2))] ?_
     exact At.rt (.tuple #[vN,vI ((cy u).2)]) (hR da.drop.drop.drop ⟨vN,b7 rfl (bB (by(rw[Je hI O ‹_›]))),b9 (av.empty _ _ _ _ _) (by(rw[Je hI O ‹_›])),rfl⟩)
    refine At.rp 5 2 [(50,vL ad cN.length ae),(51,vL a7 (((cy u).1).length) a8)] ?_
    refine Op.ls 52 1 22 #[vL a7 (((cy u).1).length) a8] da fun fa fg dc=>?_
    refine Op.ap 50 52 115 115 53 22 24 (jI 5 br) (ys:=[(cy u).1]) am dc 2 (⟨_,_,rfl,⟨_,rfl,db⟩,Reads.nil⟩) (by(have:=Jg hI (wM hr).2.2.1;simp only[bY,dU];omega)) (fun _ _ _=>trivial) (eT.lit (m:=1) (sz:=1) (dc.ah 0 rfl) (news:=[vL a7 (((cy u).1).length) a8]) rfl rfl (by simp[Value.oneCell']) _) fun fi fj fl dd d4 fp=>?_
    obtain⟨a109,d5,rfl⟩:=dd.aj
    have d6:=(d4.aa 0 rfl).drop
    refine Op.pg 17 [(6,vL a109 ((cN++([(cy u).1])).length) d5)] ?_
    refine At.rg 2 ?_
    refine Op.cE 54 (i+1) (by omega) (by(have:=fO o;omega)) ?_
    refine Op.pg 8 [(38,vI (i+1))] ?_
    have d7:=d6.drop
    exact At.ke (d0 _ (aM.trans a5 (by repeat (first|assumption|apply aM.trans))) (cN++([(cy u).1])) (i+1) _ _ _ _ (by omega) (by omega) (by omega) (by exact PL hI h0 O ‹_›) dd d7)
   refine At.rp 6 1 [(55,vL ad cN.length ae)] ?_
   obtain⟨fr,df,d8,d9⟩:=aJ.freeze am (a6.aa 0 rfl)
   replace D:=D.mono d8
   refine Op.c0 (some 56) (B2 _ _ _ df.sub D _ _ d9 (by((try dsimp only)<;>((have:=Jg hI (wM hr).2.2.1;omega))))) df ?_
   rintro _ ft _ fv fw ed ⟨fx,rfl,dg,rfl⟩
   obtain⟨b8,ca,rfl⟩:=dg.aj
   refine Op.pg 19 [(2,vL b8 (((dM cN).1).length) ca),(3,vI ((dM cN).2))] ?_
   exact At.rt (.tuple #[vL b8 (((dM cN).1).length) ca,vI ((dM cN).2)]) (hR ed.drop ⟨(vL b8 (((dM cN).1).length) ca),b7 rfl (bB (by(rw[Jf hI ‹_›]))),b9 dg (by(rw[Jf hI ‹_›])),rfl⟩)
 have ee:aJ 22 (jI 5 br) c3 (vL (some ⟨bj,0,none⟩) 3 3) [(fo ([o.Kind,o.ai+1,o.aF,fS o])).1,o.af,o.Data] [(bj,Obj.cells #[vL a0 (((fo ([o.Kind,o.ai+1,o.aF,fS o])).1).length) a1,vL ck o.af.length co,vL U o.Data.length V] 22 (0,0))]:=aJ.lit (by kernel_rfl) (by unfold maxLen;decide) (by kernel_rfl) ⟨_,_,rfl,⟨_,rfl,aw⟩,⟨_,_,rfl,⟨_,rfl,dE⟩,⟨_,_,rfl,⟨_,rfl,I⟩,Reads.nil⟩⟩⟩
 exact At.ke (dT _ _ (aM.refl _) ([(fo ([o.Kind,o.ai+1,o.aF,fS o])).1,o.af,o.Data]) 0 _ _ _ _ (bM _) (by omega) (by omega) (by exact PK o) ee c4)
theorem P4 (B:World) (h:ax) (g:GH) (hg:bl g h) (G:bq g) (o:aG) (u:Value) (I:av g 5 br u o.Data) (D:Value) (J:av g 25 ek D o.az) (hr:dr false o=true∨dr true o=true) (hs:cq o≤1000000000):aE prog B 52 #[.agg #[vI o.Kind,vS o.af,u,vI o.ai,vI o.aF,.bool o.aY,.bool o.aI,.bool o.ak,D]] h g [] (fun O g' L'=>∃v0,O=.tuple #[v0,.int .i64 ((cy o).2)]∧av g' 5 br v0 ((cy o).1)∧L'=[]):=P3 _ B h g hg G o u I D J hr hs (bM _)
theorem CV (B:World) (h:ax) (g:GH) (hg:bl g h) (ad:bq g) (o:aG) (ae:Value) (I:av g 5 br ae o.Data) (am:Value) (J:av g 25 ek am o.az) (hs:cq o≤1000000000):
  aE prog B 17 #[.agg #[vI o.Kind,vS o.af,ae,vI o.ai,vI o.aF,.bool o.aY,.bool o.aI,.bool o.ak,am]] h g [] (fun a4 g' L'=>∃v0,a4=.tuple #[v0,.int .i64 ((bA o).2)]∧av g' 5 br v0 ((bA o).1)∧L'=[]):=by
 obtain⟨O,U,rfl⟩:=I.aj
 obtain⟨V,X,rfl⟩:=J.aj
 refine aE.aq func17 fun R hR=>?_
 have a5:=St.init hg
 refine At.rg 3 ?_
 refine Op.bx 1 25 0 #[vI o.Kind,vS o.af,vL O o.Data.length U,vI o.ai,vI o.aF,.bool o.aY,.bool o.aI,.bool o.ak,vL V o.az.length X] a5 fun a6 a7 Y=>?_
 refine Op.pg 1 [] ?_
 refine At.rg 3 ?_
 refine Op.la 25 1 6 0 9 [vI o.Kind,vS o.af,vL O o.Data.length U,vI o.ai,vI o.aF,.bool o.aY,.bool o.aI,.bool o.ak,vL V o.az.length X] (Y.ah 0 rfl) ?_
 refine Op.c1 7 (Jw _ _ _ Y.sub ad o _ I _ J false (by(try dsimp only)<;>omega)) Y fun a8 u=>?_
 refine Op.pg 2 [(8,.bool (!(dr false o)))] ?_
 refine At.di (!(dr false o)) 8 3 5 (fun ar=>?_) fun aw=>?_
 ·replace ar:=(dG ar)
  refine At.go 4 2 [(2,vN),(3,vI 130)] ?_
  exact At.rt (.tuple #[vN,vI 130]) (hR u.drop ⟨vN,b7 rfl (bB (by(rw[Jh ‹_›]))),b9 (av.empty _ _ _ _ _) (by(rw[Jh ‹_›])),rfl⟩)
 replace aw:=(dH aw)
 refine At.rg 7 ?_
 refine Op.la 25 1 10 0 9 [vI o.Kind,vS o.af,vL O o.Data.length U,vI o.ai,vI o.aF,.bool o.aY,.bool o.aI,.bool o.ak,vL V o.az.length X] (u.ah 0 rfl) ?_
 refine Op.c0 (some 11) (P4 _ _ _ u.sub ad o _ I _ J (by((try dsimp only)<;>(exact .inl ‹_›))) (by(try dsimp only)<;>omega)) u ?_
 rintro _ a9 _ bc bd ab ⟨v31,rfl,a0,rfl⟩
 obtain⟨D,G,rfl⟩:=a0.aj
 refine Op.pg 6 [(4,vL D (((cy o).1).length) G),(5,vI ((cy o).2))] ?_
 refine At.rp 7 3 [(16,.bool (((cy o).2) != 0))] ?_
 refine Op.wb (((cy o).2) != 0) 16 (fun a1=>?_) fun a3=>?_
 ·replace a1:=gY a1
  refine Op.pg 7 [(20,.bool true)] ?_
  refine At.bW 20 8 ?_
  refine At.go 9 2 [(2,vN),(3,vI 130)] ?_
  exact At.rt (.tuple #[vN,vI 130]) (hR ab.drop ⟨vN,b7 rfl (bB (by(rw[B9 ‹_› (by first|exact .inl ‹_›|exact .inr ‹_›)]))),b9 (av.empty _ _ _ _ _) (by(rw[B9 ‹_› (by first|exact .inl ‹_›|exact .inr ‹_›)])),rfl⟩)
 replace a3:=jk a3
 refine Op.pg 7 [(20,.bool (decide ((((cy o).1).length:Int)>1024)))] ?_
 refine At.fd ((((cy o).1).length:Int)>1024) 20 8 10 (fun be=>?_) fun bi=>?_
 ·refine At.go 9 2 [(2,vN),(3,vI 130)] ?_
  exact At.rt (.tuple #[vN,vI 130]) (hR ab.drop ⟨vN,b7 rfl (bB (by(rw[B9 ‹_› (by first|exact .inl ‹_›|exact .inr ‹_›)]))),b9 (av.empty _ _ _ _ _) (by(rw[B9 ‹_› (by first|exact .inl ‹_›|exact .inr ‹_›)])),rfl⟩)
 refine At.go 11 3 [(2,vL D (((cy o).1).length) G),(3,vI 0)] ?_
 exact At.rt (.tuple #[vL D (((cy o).1).length) G,vI 0]) (hR ab.drop ⟨(vL D (((cy o).1).length) G),b7 rfl (bB (by(rw[Ji ‹_› ‹_› ‹_›]))),b9 a0 (by(rw[Ji ‹_› ‹_› ‹_›])),rfl⟩)
def tn (g:GH) (b:Nat) (x:aG) (c:ay):Prop:=∃v2 u D,c=(b,.cells #[.int .i64 x.Kind,.string (bp x.af),v2,.int .i64 x.ai,.int .i64 x.aF,.bool x.aY,.bool x.aI,.bool x.ak,u] 25 (0,0))::D∧av g 5 br v2 x.Data∧aJ 25 ek g u x.az D
theorem tn.mono {g g':GH} {b:Nat} {x:aG} {c:ay} (h:tn g b x c) (hg:aM g g'):tn g' b x c:=by
 obtain⟨v2,u,D,e,h0,h1⟩:=h
 exact⟨v2,u,D,e,h0.mono hg,h1.mono hg⟩
theorem Ch (B:World) (h:ax) (g:GH) (hg:bl g h) (V:bq g) (I:Value) (b:an) (J:av g 5 br I b) (n:Int) (hl:b.length≤1000000000):
  aE prog B 66 #[I,vI n] h g [] (fun X g' L'=>∃v0,X=.tuple #[v0,.bool (gI b n)]∧av g' 3 (fh .i64) v0 ((bU b).1)∧L'=[]):=by
 obtain⟨Y,ab,rfl⟩:=J.aj
 refine aE.aq func66 fun R hR=>?_
 have O:=St.init hg
 refine At.go 1 2 [] ?_
 refine At.rp 7 1 [(9,vL Y b.length ab)] ?_
 refine Op.c0 (some 10) (O3 _ _ _ O.sub V _ _ J (by(try dsimp only)<;>omega)) O ?_
 rintro _ ad _ ae am U ⟨ar,rfl,G,rfl⟩
 obtain⟨u,D,rfl⟩:=G.aj
 refine Op.pg 2 [(6,vL u (((bU b).1).length) D),(7,vI ((bU b).2))] ?_
 refine At.rp 11 4 [(13,vL u (((bU b).1).length) D),(16,.bool (((bU b).2)==0))] ?_
 refine Op.wd (((bU b).2)=0) 16 (fun aw=>?_) fun a0=>?_
 ·refine Op.pg 3 [(4,vL u (((bU b).1).length) D),(5,.bool ((((bU b).1).length:Int)==n))] ?_
  exact At.rt (.tuple #[vL u (((bU b).1).length) D,.bool ((((bU b).1).length:Int)==n)]) (hR U ⟨(vL u (((bU b).1).length) D),b7 rfl (aS (by exact PR ‹_›)),b9 G (by rfl),rfl⟩)
 refine Op.pg 3 [(4,vL u (((bU b).1).length) D),(5,.bool false)] ?_
 exact At.rt (.tuple #[vL u (((bU b).1).length) D,.bool false]) (hR U ⟨(vL u (((bU b).1).length) D),b7 rfl (aS (by exact PS ‹_›)),b9 G (by rfl),rfl⟩)
theorem P5 (mr:Nat):∀(B:World) (h:ax) (g:GH) (hg:bl g h) (Y:bq g) (d3:Value) (b:an) (d4:av g 5 br d3 b) (bR:Bool) (hl:b.length≤1000000000) (d5:(if bR=true then 0 else 1)<mr),aE prog B 55 #[d3,.bool bR] h g [] (fun h7 g' L'=>∃v0 v1,h7=.tuple #[.agg #[.int .i64 (((a_ bR b).1).Kind),.string (bp (((a_ bR b).1).af)),v0,.int .i64 (((a_ bR b).1).ai),.int .i64 (((a_ bR b).1).aF),.bool (((a_ bR b).1).aY),.bool (((a_ bR b).1).aI),.bool (((a_ bR b).1).ak),v1],.bool ((a_ bR b).2)]∧av g' 5 br v0 (((a_ bR b).1).Data)∧av g' 25 ek v1 (((a_ bR b).1).az)∧L'=[]):=by
 induction mr with
 |zero=>intros;omega
 |succ mr f1=>
 intro B h g hg Y d3 b d4 bR hl d5
 obtain⟨h8,h9,rfl⟩:=d4.aj
 refine aE.aq func55 fun R hR=>?_
 have ib:=St.init hg
 refine At.rg 2 ?_
 refine Op.al 4 25 #[vI 0,vS [],vN,vI 0,vI 0,.bool false,.bool false,.bool false,vN] ib fun dl pw f2=>?_
 refine Op.pg 1 [] ?_
 refine At.rp 7 1 [(16,vL h8 b.length h9)] ?_
 refine Op.c0 (some 17) (B3 _ _ _ f2.sub Y _ _ d4 (by(try dsimp only)<;>omega)) f2 ?_
 rintro _ py _ pA ih a7 ⟨pB,rfl,ad,rfl⟩
 obtain⟨d6,X,rfl⟩:=ad.aj
 replace Y:=Y.mono ih
 refine Op.pg 2 [(6,vL d6 (((bg b).1).length) X),(7,vI ((bg b).2))] ?_
 refine At.rp 15 3 [(22,.bool (((bg b).2) != 0))] ?_
 refine Op.wb (((bg b).2) != 0) 22 (fun f3=>?_) fun f4=>?_
 ·replace f3:=gY f3
  refine Op.pg 3 [(34,.bool true)] ?_
  refine At.bW 34 4 ?_
  refine At.rp 3 1 [(35,.agg #[vI 0,vS [],vN,vI 0,vI 0,.bool false,.bool false,.bool false,vN])] ?_
  refine Op.sg 25 4 35 0 0 #[vI 0,vS [],vN,vI 0,vI 0,.bool false,.bool false,.bool false,vN] a7 (fun _=>trivial) fun pC f5=>?_
  refine Op.pg 5 [(5,.bool false)] ?_
  exact At.rm f55 [.agg #[vI 0,vS [],vN,vI 0,vI 0,.bool false,.bool false,.bool false,vN],.bool false] [.cell 4 25,.tmp 5] (.tuple #[.agg #[vI 0,vS [],vN,vI 0,vI 0,.bool false,.bool false,.bool false,vN],.bool false]) ⟨⟨_,_,rfl,dY (n:=9) (by kernel_rfl) (f5.ah 0 rfl) (by kernel_rfl) rfl⟩,rfl,trivial⟩ (hR f5.drop ⟨vN,vN,b7 (by(rw[iR (B_ ‹_›)];rfl)) (aS (by(rw[iR (B_ ‹_›)];done))),b9 (av.empty _ _ _ _ _) (by(rw[iR (B_ ‹_›)];rfl)),b9 (av.empty _ _ _ _ _) (by(rw[iR (B_ ‹_›)];rfl)),rfl⟩)
 replace f4:=jk f4
 refine Op.px 5 [(27,.bool (decide ((((bg b).1).length:Int)<3)))] ?_
 refine Op.wd ((((bg b).1).length:Int)<3) 27 (fun pD=>?_) fun p0=>?_
 ·refine Op.pg 3 [(34,.bool true)] ?_
  refine At.bW 34 4 ?_
  refine At.rp 3 1 [(35,.agg #[vI 0,vS [],vN,vI 0,vI 0,.bool false,.bool false,.bool false,vN])] ?_
  refine Op.sg 25 4 35 0 0 #[vI 0,vS [],vN,vI 0,vI 0,.bool false,.bool false,.bool false,vN] a7 (fun _=>trivial) fun p1 f6=>?_
  refine Op.pg 5 [(5,.bool false)] ?_
  exact At.rm f55 [.agg #[vI 0,vS [],vN,vI 0,vI 0,.bool false,.bool false,.bool false,vN],.bool false] [.cell 4 25,.tmp 5] (.tuple #[.agg #[vI 0,vS [],vN,vI 0,vI 0,.bool false,.bool false,.bool false,vN],.bool false]) ⟨⟨_,_,rfl,dY (n:=9) (by kernel_rfl) (f6.ah 0 rfl) (by kernel_rfl) rfl⟩,rfl,trivial⟩ (hR f6.drop ⟨vN,vN,b7 (by(rw[iR (Ca ‹_›)];rfl)) (aS (by(rw[iR (Ca ‹_›)];done))),b9 (av.empty _ _ _ _ _) (by(rw[iR (Ca ‹_›)];rfl)),b9 (av.empty _ _ _ _ _) (by(rw[iR (Ca ‹_›)];rfl)),rfl⟩)
 refine Op.px 2 [(29,.bool bR)] ?_
 refine Op.wb bR 29 (fun p2=>?_) fun p3=>?_
 ·refine Op.pg 3 [(34,.bool (decide ((((bg b).1).length:Int)>3)))] ?_
  refine At.fd ((((bg b).1).length:Int)>3) 34 4 6 (fun p8=>?_) fun qr=>?_
  ·refine At.rp 3 1 [(35,.agg #[vI 0,vS [],vN,vI 0,vI 0,.bool false,.bool false,.bool false,vN])] ?_
   refine Op.sg 25 4 35 0 0 #[vI 0,vS [],vN,vI 0,vI 0,.bool false,.bool false,.bool false,vN] a7 (fun _=>trivial) fun q0 f7=>?_
   refine Op.pg 5 [(5,.bool false)] ?_
   exact At.rm f55 [.agg #[vI 0,vS [],vN,vI 0,vI 0,.bool false,.bool false,.bool false,vN],.bool false] [.cell 4 25,.tmp 5] (.tuple #[.agg #[vI 0,vS [],vN,vI 0,vI 0,.bool false,.bool false,.bool false,vN],.bool false]) ⟨⟨_,_,rfl,dY (n:=9) (by kernel_rfl) (f7.ah 0 rfl) (by kernel_rfl) rfl⟩,rfl,trivial⟩ (hR f7.drop ⟨vN,vN,b7 (by(rw[iR (Cb ‹_› ‹_›)];rfl)) (aS (by(rw[iR (Cb ‹_› ‹_›)];done))),b9 (av.empty _ _ _ _ _) (by(rw[iR (Cb ‹_› ‹_›)];rfl)),b9 (av.empty _ _ _ _ _) (by(rw[iR (Cb ‹_› ‹_›)];rfl)),rfl⟩)
  refine At.rp 9 1 [(37,vL d6 (((bg b).1).length) X)] ?_
  obtain⟨J,a3⟩:=cG ((bg b).1) 0
  obtain⟨bc,a5,q1,q2,ii,d7,d8⟩:=av.bF ad _ a3
  cases ii
  refine Op.iq 115 22 1 24 (((bg b).1).length) X 37 (.const (vI 0)) 38 bc a5 0 ?_
  obtain⟨q3,d8,f8⟩:=d8
  obtain⟨ik,il,rfl⟩:=f8.aj
  refine Op.l1 22 38 39 (a5+(0:Int).toNat*1) (vL ik J.length il) (a7.sub _ _ d7) ?_ (hv:=c_ d8 0 rfl)
  refine Op.c0 (some 40) (Ch _ _ _ a7.sub Y _ _ f8 4 (by((try dsimp only)<;>((have:=An a3;omega))))) a7 ?_
  rintro _ d9 _ q4 ed ae ⟨q5,rfl,a8,rfl⟩
  obtain⟨f9,ab,rfl⟩:=a8.aj
  replace d7:=ed _ _ d7
  replace Y:=Y.mono ed
  replace ad:=ad.mono ed
  refine Op.pg 7 [(8,vL f9 (((bU J).1).length) ab),(9,.bool (gI J 4))] ?_
  refine At.rp 8 3 [(45,.bool (!(gI J 4)))] ?_
  refine Op.wb (!(gI J 4)) 45 (fun gc=>?_) fun ge=>?_
  ·replace gc:=(dG gc)
   refine Op.pg 8 [(50,.bool true)] ?_
   refine At.bW 50 9 ?_
   refine At.rp 3 1 [(51,.agg #[vI 0,vS [],vN,vI 0,vI 0,.bool false,.bool false,.bool false,vN])] ?_
   refine Op.sg 25 4 51 0 0 #[vI 0,vS [],vN,vI 0,vI 0,.bool false,.bool false,.bool false,vN] ae (fun _=>trivial) fun q6 gg=>?_
   refine Op.pg 10 [(5,.bool false)] ?_
   exact At.rm f55 [.agg #[vI 0,vS [],vN,vI 0,vI 0,.bool false,.bool false,.bool false,vN],.bool false] [.cell 4 25,.tmp 5] (.tuple #[.agg #[vI 0,vS [],vN,vI 0,vI 0,.bool false,.bool false,.bool false,vN],.bool false]) ⟨⟨_,_,rfl,dY (n:=9) (by kernel_rfl) (gg.ah 0 rfl) (by kernel_rfl) rfl⟩,rfl,trivial⟩ (hR gg.drop ⟨vN,vN,b7 (by(rw[iR (uQ a3 ‹_›)];rfl)) (aS (by(rw[iR (uQ a3 ‹_›)];done))),b9 (av.empty _ _ _ _ _) (by(rw[iR (uQ a3 ‹_›)];rfl)),b9 (av.empty _ _ _ _ _) (by(rw[iR (uQ a3 ‹_›)];rfl)),rfl⟩)
  replace ge:=(dH ge)
  refine Op.px 1 [(46,vL f9 (((bU J).1).length) ab)] ?_
  obtain⟨G,am⟩:=lK (l:=(bU J).1) (i:=3) (by(have:=fV ‹_›;omega))
  obtain⟨ar,U,ra,rb,io,ip,ee⟩:=av.bF a8 _ am
  cases io
  refine Op.ix 117 3 1 8 (((bU J).1).length) ab 46 (.const (vI 3)) 47 ar U 3 (by omega) (by(have:=fV ‹_›;omega)) ?_
  replace ee:cut _ _ _=[vI G]:=ee
  refine Op.l1 3 47 48 (U+(3:Int).toNat*1) (vI G) (ae.sub _ _ ip) ?_ (hv:=c_ ee 0 rfl)
  refine Op.pg 8 [(50,.bool (decide (G>7)))] ?_
  refine At.fd (G>7) 50 9 11 (fun rc=>?_) fun rd=>?_
  ·refine At.rp 3 1 [(51,.agg #[vI 0,vS [],vN,vI 0,vI 0,.bool false,.bool false,.bool false,vN])] ?_
   refine Op.sg 25 4 51 0 0 #[vI 0,vS [],vN,vI 0,vI 0,.bool false,.bool false,.bool false,vN] ae (fun _=>trivial) fun re gk=>?_
   refine Op.pg 10 [(5,.bool false)] ?_
   exact At.rm f55 [.agg #[vI 0,vS [],vN,vI 0,vI 0,.bool false,.bool false,.bool false,vN],.bool false] [.cell 4 25,.tmp 5] (.tuple #[.agg #[vI 0,vS [],vN,vI 0,vI 0,.bool false,.bool false,.bool false,vN],.bool false]) ⟨⟨_,_,rfl,dY (n:=9) (by kernel_rfl) (gk.ah 0 rfl) (by kernel_rfl) rfl⟩,rfl,trivial⟩ (hR gk.drop ⟨vN,vN,b7 (by(rw[iR (uR a3 am ‹_›)];rfl)) (aS (by(rw[iR (uR a3 am ‹_›)];done))),b9 (av.empty _ _ _ _ _) (by(rw[iR (uR a3 am ‹_›)];rfl)),b9 (av.empty _ _ _ _ _) (by(rw[iR (uR a3 am ‹_›)];rfl)),rfl⟩)
  refine At.dw (fun _=>False) [(0,true),(1,true),(3,true),(4,true),(7,true),(8,true),(10,true),(11,true),(15,true),(16,true),(20,true),(21,true),(25,true),(26,true),(29,true),(30,true),(2,true),(5,true),(6,true),(9,true),(12,true),(13,true),(14,true),(17,true),(18,true),(19,true),(22,true),(23,true),(24,true),(27,true),(28,true),(31,true),(32,true),(33,false),(1034,false),(34,false)] ?_
  refine Op.px 1 [(52,vL (some ⟨ar,U,none⟩) (((bU J).1).length) ab)] ?_
  obtain⟨bo,gn⟩:=lK (l:=(bU J).1) (i:=0) (by(have:=fV ‹_›;omega))
  obtain⟨rf,rh,rk,rn,is,iv,ef⟩:=av.bF a8 _ gn
  cases is
  refine Op.ix 117 3 1 8 (((bU J).1).length) ab 52 (.const (vI 0)) 53 ar U 0 (by omega) (by(have:=fV ‹_›;omega)) ?_
  replace ef:cut _ _ _=[vI bo]:=ef
  refine Op.px 1 [(55,vL (some ⟨ar,U,none⟩) (((bU J).1).length) ab)] ?_
  obtain⟨bd,dp⟩:=lK (l:=(bU J).1) (i:=1) (by(have:=fV ‹_›;omega))
  obtain⟨rr,rv,rx,r0,i0,i1,eh⟩:=av.bF a8 _ dp
  cases i0
  refine Op.ix 117 3 1 8 (((bU J).1).length) ab 55 (.const (vI 1)) 56 ar U 1 (by omega) (by(have:=fV ‹_›;omega)) ?_
  replace eh:cut _ _ _=[vI bd]:=eh
  refine Op.px 1 [(59,vL (some ⟨ar,U,none⟩) (((bU J).1).length) ab)] ?_
  obtain⟨bt,gs⟩:=lK (l:=(bU J).1) (i:=2) (by(have:=fV ‹_›;omega))
  obtain⟨r1,r2,r3,sc,i2,i3,ej⟩:=av.bF a8 _ gs
  cases i2
  refine Op.ix 117 3 1 8 (((bU J).1).length) ab 59 (.const (vI 2)) 60 ar U 2 (by omega) (by(have:=fV ‹_›;omega)) ?_
  replace ej:cut _ _ _=[vI bt]:=ej
  refine Op.px 1 [(62,vL (some ⟨ar,U,none⟩) (((bU J).1).length) ab)] ?_
  obtain⟨sd,sf,sh,sk,i4,i5,em⟩:=av.bF a8 _ am
  cases i4
  refine Op.ix 117 3 1 8 (((bU J).1).length) ab 62 (.const (vI 3)) 63 ar U 3 (by omega) (by(have:=fV ‹_›;omega)) ?_
  replace em:cut _ _ _=[vI G]:=em
  refine Op.px 1 [(67,vL (some ⟨ar,U,none⟩) (((bU J).1).length) ab)] ?_
  obtain⟨sm,so,ss,sA,i6,i7,en⟩:=av.bF a8 _ am
  cases i6
  refine Op.ix 117 3 1 8 (((bU J).1).length) ab 67 (.const (vI 3)) 68 ar U 3 (by omega) (by(have:=fV ‹_›;omega)) ?_
  replace en:cut _ _ _=[vI G]:=en
  refine Op.px 1 [(72,vL (some ⟨ar,U,none⟩) (((bU J).1).length) ab)] ?_
  obtain⟨sB,sT,s0,s2,i8,i9,ep⟩:=av.bF a8 _ am
  cases i8
  refine Op.ix 117 3 1 8 (((bU J).1).length) ab 72 (.const (vI 3)) 73 ar U 3 (by omega) (by(have:=fV ‹_›;omega)) ?_
  replace ep:cut _ _ _=[vI G]:=ep
  refine Op.px 1 [(77,vL (some ⟨bc,a5,none⟩) (((bg b).1).length) X)] ?_
  obtain⟨b3,g1⟩:=cG ((bg b).1) 1
  obtain⟨s3,s4,s8,ta,jf,jj,er⟩:=av.bF ad _ g1
  cases jf
  refine Op.iq 115 22 1 24 (((bg b).1).length) X 77 (.const (vI 1)) 78 bc a5 1 ?_
  obtain⟨v146,er,g2⟩:=er
  obtain⟨a148,jn,rfl⟩:=g2.aj
  refine Op.px 1 [(81,vL (some ⟨bc,a5,none⟩) (((bg b).1).length) X)] ?_
  obtain⟨cb,g3⟩:=cG ((bg b).1) 2
  obtain⟨te,th,ti,tk,jt,j1,et⟩:=av.bF ad _ g3
  cases jt
  refine Op.iq 115 22 1 24 (((bg b).1).length) X 81 (.const (vI 2)) 82 bc a5 2 ?_
  obtain⟨tl,et,g4⟩:=et
  obtain⟨ex,eA,rfl⟩:=g4.aj
  refine Op.gB (T:=3) (x:=53) (o:=U+(0:Int).toNat*1) (d:=54) (n:=1) (v:=vI bo) (by kernel_rfl) (by kernel_rfl) (by kernel_rfl) (fun h=>h) (ae.sub _ _ iv) (c_ ef 0 rfl) ?_
  refine Op.gB (T:=3) (x:=56) (o:=U+(1:Int).toNat*1) (d:=57) (n:=1) (v:=vI bd) (by kernel_rfl) (by kernel_rfl) (by kernel_rfl) (fun h=>h) (ae.sub _ _ i1) (c_ eh 0 rfl) ?_
  refine Op.cE 58 (bd-1) (by(have:=oV dp;omega)) (by(have:=oV dp;omega)) ?_
  refine Op.gB (T:=3) (x:=60) (o:=U+(2:Int).toNat*1) (d:=61) (n:=1) (v:=vI bt) (by kernel_rfl) (by kernel_rfl) (by kernel_rfl) (fun h=>h) (ae.sub _ _ i3) (c_ ej 0 rfl) ?_
  refine Op.gB (T:=3) (x:=63) (o:=U+(3:Int).toNat*1) (d:=64) (n:=1) (v:=vI G) (by kernel_rfl) (by kernel_rfl) (by kernel_rfl) (fun h=>h) (ae.sub _ _ i5) (c_ em 0 rfl) ?_
  refine Op.vl 65 (.int .i64 (IntKind.wrap .i64 (((BitVec.ofInt (IntKind.bits .i64) G &&& BitVec.ofInt (IntKind.bits .i64) (1:Int)).toNat:Nat):Int))) (.int .i64 (G % 2)) (Jj (by have:=oV am;omega) (by omega)) ?_
  refine Op.px 1 [(66,.bool ((G % 2) != 0))] ?_
  refine Op.gB (T:=3) (x:=68) (o:=U+(3:Int).toNat*1) (d:=69) (n:=1) (v:=vI G) (by kernel_rfl) (by kernel_rfl) (by kernel_rfl) (fun h=>h) (ae.sub _ _ i7) (c_ en 0 rfl) ?_
  refine Op.vl 70 (.int .i64 (IntKind.wrap .i64 (((BitVec.ofInt (IntKind.bits .i64) G &&& BitVec.ofInt (IntKind.bits .i64) (2:Int)).toNat:Nat):Int))) (.int .i64 (G / 2 % 2*2)) (Jk (by have:=oV am;omega) (by omega)) ?_
  refine Op.px 1 [(71,.bool ((G / 2 % 2*2) != 0))] ?_
  refine Op.gB (T:=3) (x:=73) (o:=U+(3:Int).toNat*1) (d:=74) (n:=1) (v:=vI G) (by kernel_rfl) (by kernel_rfl) (by kernel_rfl) (fun h=>h) (ae.sub _ _ i9) (c_ ep 0 rfl) ?_
  refine Op.vl 75 (.int .i64 (IntKind.wrap .i64 (((BitVec.ofInt (IntKind.bits .i64) G &&& BitVec.ofInt (IntKind.bits .i64) (4:Int)).toNat:Nat):Int))) (.int .i64 (G / 4 % 2*4)) (Jl (by have:=oV am;omega) (by omega)) ?_
  refine Op.px 1 [(76,.bool ((G / 4 % 2*4) != 0))] ?_
  refine Op.gB (T:=22) (x:=78) (o:=a5+(1:Int).toNat*1) (d:=79) (n:=1) (v:=vL a148 b3.length jn) (by kernel_rfl) (by kernel_rfl) (by kernel_rfl) (fun h=>h) (ae.sub _ _ jj) (c_ er 0 rfl) ?_
  refine Op.Bo (T:=22) (S:=9) (E:=5) (x:=79) (dst:=80) (l:=b3) (by kernel_rfl) (by kernel_rfl) (by kernel_rfl) (by kernel_rfl) (by kernel_rfl) g2 ae.sub (fun _ _ _ h=>h) ?_
  refine Op.gB (T:=22) (x:=82) (o:=a5+(2:Int).toNat*1) (d:=83) (n:=1) (v:=vL ex cb.length eA) (by kernel_rfl) (by kernel_rfl) (by kernel_rfl) (fun h=>h) (ae.sub _ _ j1) (c_ et 0 rfl) ?_
  refine Op.px 1 [(84,.agg #[vI bo,vS b3,vL ex cb.length eA,vI (bd-1),vI bt,.bool ((G % 2) != 0),.bool ((G / 2 % 2*2) != 0),.bool ((G / 4 % 2*4) != 0),vN])] ?_
  refine Op.al 10 25 #[vI 0,vS [],vN,vI 0,vI 0,.bool false,.bool false,.bool false,vN] ae fun b4 tm j2=>?_
  refine Op.ba ?_
  refine Op.sg 25 10 84 0 0 #[vI bo,vS b3,vL ex cb.length eA,vI (bd-1),vI bt,.bool ((G % 2) != 0),.bool ((G / 2 % 2*2) != 0),.bool ((G / 4 % 2*4) != 0),vN] j2 (fun _=>trivial) fun tp kc=>?_
  refine Op.gt 12 ?_
  refine At.rp 4 1 [(85,vL (some ⟨bc,a5,none⟩) (((bg b).1).length) X)] ?_
  refine Op.zA (T:=115) (E:=22) (dx:=24) (x:=85) (ao:=(some ⟨bc,a5,none⟩)) (n:=(((bg b).1).length)) (c:=X) (dst:=86) (d:=(jI 5 br)) (lo:=(.const (vI 3))) (k:=.i64) (m:=3) (by kernel_rfl) (by kernel_rfl) (by kernel_rfl) (by kernel_rfl) ad (by omega) (by omega) fun tt dq=>?_
  obtain⟨kd,n171,rfl⟩:=dq.aj
  refine Op.pg 13 [(87,vI ((((bg b).1).drop (3:Int).toNat).length:Int)),(88,vI 0)] ?_
  have kh:=aJ.nil 25 ek d9
  have kk:=kc.nl
  have kl:=(kk.aa 0 rfl).aa 1 rfl
  obtain⟨tx,km,kv⟩:=St.bJ (Q:=tn d9 b4 (⟨bo,b3,cb,bd-1,bt,(G % 2) != 0,(G / 2 % 2*2) != 0,(G / 4 % 2*4) != 0,([]:List aG)⟩:aG)) 2 kl ⟨_,_,_,rfl,g4,kh⟩
  have eB:∀(m:Nat) (du:GH) (dv:aM d9 du) (ob:aG) (i:Int) (eE:ay) (eI:ax) (hm:((bg b).1.drop (3:Int).toNat).length-i.toNat<m) (h0:0≤i) (h1:i≤((bg b).1.drop (3:Int).toNat).length) (hB:iA bR b=true) (hP:wN b ob i) (be:(ob.az.length:Int)=i) (ce:tn du b4 ob eE) (cf:St h g (aV []) du [eE,[(dl,Obj.cells #[vI 0,vS [],vN,vI 0,vI 0,.bool false,.bool false,.bool false,vN] 25 (0,0))]] eI),At (bX prog B 55 f55 R) [] 13 [(4,vP dl),(10,vP b4),(86,vL kd ((((bg b).1).drop (3:Int).toNat).length) n171),(87,vI ((((bg b).1).drop (3:Int).toNat).length:Int)),(88,vI i)] eI:=by
   intro m;induction m with
   |zero=>intros;omega
   |succ m eJ=>
    intro du dv ob i eE eI hm h0 h1 hB hP be ce cf
    replace Y:=Y.mono dv
    replace dq:=dq.mono dv
    refine At.go 14 1 [(89,.bool (decide (i<((((bg b).1).drop (3:Int).toNat).length:Int))))] ?_
    refine At.fd (i<((((bg b).1).drop (3:Int).toNat).length:Int)) 89 15 23 (fun tz=>?_) fun tA=>?_
    ·refine At.rg 3 ?_
     obtain⟨u,bi⟩:=cG (((bg b).1).drop (3:Int).toNat) i
     obtain⟨kw,g5,tB,tR,kx,kA,eK⟩:=av.bF dq _ bi
     cases kx
     refine Op.iq 115 22 1 24 ((((bg b).1).drop (3:Int).toNat).length) n171 86 88 90 kw g5 i ?_
     obtain⟨tS,eK,g6⟩:=eK
     obtain⟨eL,n197,rfl⟩:=g6.aj
     refine Op.l1 22 90 91 (g5+i.toNat*1) (vL eL u.length n197) (cf.sub _ _ kA) ?_ (hv:=c_ eK 0 rfl)
     refine Op.pg 16 [(12,vL eL u.length n197)] ?_
     refine At.rp 8 1 [(93,vL eL u.length n197)] ?_
     refine Op.c0 (some 94) (f1 _ _ _ cf.sub Y _ _ g6 true (by((try dsimp only)<;>((have:=EM bi;omega)))) (by exact Js hB h0 ‹_› d5)) cf ?_
     rintro _ k0 _ t0 k1 k2 ⟨t1,t2,rfl,g7,g8,rfl⟩
     obtain⟨ch,ci,rfl⟩:=g7.aj
     obtain⟨ck,co,rfl⟩:=g8.aj
     replace ce:=ce.mono k1
     refine Op.px 3 [(95,.agg #[vI (((a_ true u).1).Kind),vS (((a_ true u).1).af),vL ch ((((a_ true u).1).Data).length) ci,vI (((a_ true u).1).ai),vI (((a_ true u).1).aF),.bool (((a_ true u).1).aY),.bool (((a_ true u).1).aI),.bool (((a_ true u).1).ak),vL ck ((((a_ true u).1).az).length) co]),(96,.bool ((a_ true u).2))] ?_
     refine Op.al 13 25 #[vI 0,vS [],vN,vI 0,vI 0,.bool false,.bool false,.bool false,vN] k2 fun t3 t4 k3=>?_
     refine Op.sg 25 13 95 0 0 #[vI (((a_ true u).1).Kind),vS (((a_ true u).1).af),vL ch ((((a_ true u).1).Data).length) ci,vI (((a_ true u).1).ai),vI (((a_ true u).1).aF),.bool (((a_ true u).1).aY),.bool (((a_ true u).1).aI),.bool (((a_ true u).1).ak),vL ck ((((a_ true u).1).az).length) co] k3 (fun _=>trivial) fun t5 g9=>?_
     refine Op.pg 17 [(14,.bool ((a_ true u).2))] ?_
     refine At.go 18 2 [(98,.bool (!((a_ true u).2)))] ?_
     refine At.di (!((a_ true u).2)) 98 19 21 (fun he=>?_) fun hf=>?_
     ·replace he:=(dG he)
      refine At.rp 3 1 [(99,.agg #[vI 0,vS [],vN,vI 0,vI 0,.bool false,.bool false,.bool false,vN])] ?_
      refine Op.sg 25 4 99 0 2 #[vI 0,vS [],vN,vI 0,vI 0,.bool false,.bool false,.bool false,vN] g9 (fun _=>trivial) fun t6 hh=>?_
      refine Op.pg 20 [(5,.bool false)] ?_
      exact At.rm f55 [.agg #[vI 0,vS [],vN,vI 0,vI 0,.bool false,.bool false,.bool false,vN],.bool false] [.cell 4 25,.tmp 5] (.tuple #[.agg #[vI 0,vS [],vN,vI 0,vI 0,.bool false,.bool false,.bool false,vN],.bool false]) ⟨⟨_,_,rfl,dY (n:=9) (by kernel_rfl) (hh.ah 2 rfl) (by kernel_rfl) rfl⟩,rfl,trivial⟩ (hR hh.drop.drop.drop ⟨vN,vN,b7 (by(rw[uS hB bi ‹_›];rfl)) (aS (by(rw[uS hB bi ‹_›];done))),b9 (av.empty _ _ _ _ _) (by(rw[uS hB bi ‹_›];rfl)),b9 (av.empty _ _ _ _ _) (by(rw[uS hB bi ‹_›];rfl)),rfl⟩)
     replace hf:=(dH hf)
     refine At.rp 7 1 [(100,vQ b4 8)] ?_
     obtain⟨t7,t8,k4,k5,hj,hn⟩:=ce
     obtain⟨k6,k7,rfl⟩:=hj.aj
     obtain⟨k8,n228,rfl⟩:=hn.aj
     have lc:=(g9.aa 0 rfl).aa 1 rfl
     have eQ:=St.un [k4] k5 lc
     refine Op.l1 23 100 101 8 (vL k8 ob.az.length n228) (eQ.ah 0 rfl) ?_
     refine Op.la 25 13 102 0 9 [vI (((a_ true u).1).Kind),vS (((a_ true u).1).af),vL ch ((((a_ true u).1).Data).length) ci,vI (((a_ true u).1).ai),vI (((a_ true u).1).aF),.bool (((a_ true u).1).aY),.bool (((a_ true u).1).aI),.bool (((a_ true u).1).ak),vL ck ((((a_ true u).1).az).length) co] (eQ.ah 2 rfl) ?_
     refine Op.ls 103 1 25 #[vI (((a_ true u).1).Kind),vS (((a_ true u).1).af),vL ch ((((a_ true u).1).Data).length) ci,vI (((a_ true u).1).ai),vI (((a_ true u).1).aF),.bool (((a_ true u).1).aY),.bool (((a_ true u).1).aI),.bool (((a_ true u).1).ak),vL ck ((((a_ true u).1).az).length) co] eQ fun t9 ub ho=>?_
     refine Op.ap 101 103 23 23 104 25 96 ek (ys:=[((a_ true u).1)]) hn ho 2 (⟨_,_,rfl,(iC.2 ⟨_,_,g7,g8,rfl⟩),Reads.nil⟩) (by(have:=Cc ‹_› be;simp only[bY,dU];omega)) (fun _ _ _=>trivial) (eT.lit (m:=1) (sz:=9) (ho.ah 0 rfl) (news:=[vI (((a_ true u).1).Kind),vS (((a_ true u).1).af),vL ch ((((a_ true u).1).Data).length) ci,vI (((a_ true u).1).ai),vI (((a_ true u).1).aF),.bool (((a_ true u).1).aY),.bool (((a_ true u).1).aI),.bool (((a_ true u).1).ak),vL ck ((((a_ true u).1).az).length) co]) rfl rfl (by simp[Value.oneCell']) _) fun ui ul us hp lh ut=>?_
     obtain⟨hq,n241,rfl⟩:=hp.aj
     have li:=(lh.aa 0 rfl).drop
     refine Op.px 1 [(105,vQ b4 8)] ?_
     refine Op.s1 23 105 104 8 (vL hq ((ob.az++([((a_ true u).1)])).length) n241) 0 #[vI ob.Kind,vS ob.af,vL k6 ob.Data.length k7,vI ob.ai,vI ob.aF,.bool ob.aY,.bool ob.aI,.bool ob.ak,vL hq ((ob.az++([((a_ true u).1)])).length) n241] li (fun _=>trivial) fun u1 lj=>?_
     refine Op.gt 22 ?_
     refine At.rg 2 ?_
     refine Op.cE 106 (i+1) (by omega) (by(have:=Cc ‹_› be;omega)) ?_
     refine Op.pg 13 [(88,vI (i+1))] ?_
     obtain⟨u2,lk,ll⟩:=St.bJ (Q:=tn k0 b4 (⟨ob.Kind,ob.af,ob.Data,ob.ai,ob.aF,ob.aY,ob.aI,ob.ak,ob.az++([((a_ true u).1)])⟩:aG)) 2 lj ⟨_,_,_,rfl,hj,hp⟩
     have lm:=(ll.aa 0 rfl).aa 1 rfl
     have ln:=lm.drop
     exact At.ke (eJ _ (aM.trans dv (by repeat (first|assumption|apply aM.trans))) (⟨ob.Kind,ob.af,ob.Data,ob.ai,ob.aF,ob.aY,ob.aI,ob.ak,ob.az++([((a_ true u).1)])⟩:aG) (i+1) _ _ (by omega) (by omega) (by omega) (by omega) (by exact Jr hP h0 bi ‹_›) (by(simp only[cA,bY,dU];omega)) lk ln)
    refine At.rg 3 ?_
    obtain⟨u3,u4,lr,lv,dC,hr⟩:=ce
    obtain⟨c3,n257,rfl⟩:=dC.aj
    obtain⟨c4,c5,rfl⟩:=hr.aj
    have hs:=St.un [lr] lv cf
    refine Op.la 25 10 107 0 9 [vI ob.Kind,vS ob.af,vL c3 ob.Data.length n257,vI ob.ai,vI ob.aF,.bool ob.aY,.bool ob.aI,.bool ob.ak,vL c4 ob.az.length c5] (hs.ah 0 rfl) ?_
    refine Op.sg 25 4 107 0 2 #[vI ob.Kind,vS ob.af,vL c3 ob.Data.length n257,vI ob.ai,vI ob.aF,.bool ob.aY,.bool ob.aI,.bool ob.ak,vL c4 ob.az.length c5] hs (fun _=>trivial) fun vd lw=>?_
    refine Op.pg 24 [(5,.bool true)] ?_
    obtain⟨ve,hu,lx,ly⟩:=aJ.freeze hr (lw.aa 1 rfl)
    replace dC:=dC.mono lx
    exact At.rm f55 [.agg #[vI ob.Kind,vS ob.af,vL c3 ob.Data.length n257,vI ob.ai,vI ob.aF,.bool ob.aY,.bool ob.aI,.bool ob.ak,vL c4 ob.az.length c5],.bool true] [.cell 4 25,.tmp 5] (.tuple #[.agg #[vI ob.Kind,vS ob.af,vL c3 ob.Data.length n257,vI ob.ai,vI ob.aF,.bool ob.aY,.bool ob.aI,.bool ob.ak,vL c4 ob.az.length c5],.bool true]) ⟨⟨_,_,rfl,dY (n:=9) (by kernel_rfl) (hu.ah 1 rfl) (by kernel_rfl) rfl⟩,rfl,trivial⟩ (hR hu.drop.drop ⟨(vL c3 ob.Data.length n257),(vL c4 ob.az.length c5),b7 (by(rw[uT hB hP ‹_›];done)) (aS (by(rw[uT hB hP ‹_›];done))),b9 dC (by(rw[uT hB hP ‹_›];done)),b9 ly (by(rw[uT hB hP ‹_›];done)),rfl⟩)
  exact At.ke (eB _ _ (aM.refl _) (⟨bo,b3,cb,bd-1,bt,(G % 2) != 0,(G / 2 % 2*2) != 0,(G / 4 % 2*4) != 0,([]:List aG)⟩:aG) 0 _ _ (bM _) (by omega) (by omega) (by exact Jp ‹_› ‹_› (by exact .inr ‹_›) a3 ‹_› am ‹_›) (by exact Jq (Jo a3 g1 g3 gn dp gs am)) (by rfl) km kv)
 refine Op.pg 3 [(34,.bool false)] ?_
 refine At.dK 34 6 ?_
 refine At.rp 9 1 [(37,vL d6 (((bg b).1).length) X)] ?_
 obtain⟨O,a4⟩:=cG ((bg b).1) 0
 obtain⟨bj,a6,vo,vx,lA,e1,e2⟩:=av.bF ad _ a4
 cases lA
 refine Op.iq 115 22 1 24 (((bg b).1).length) X 37 (.const (vI 0)) 38 bj a6 0 ?_
 obtain⟨vy,e2,hw⟩:=e2
 obtain⟨lL,lO,rfl⟩:=hw.aj
 refine Op.l1 22 38 39 (a6+(0:Int).toNat*1) (vL lL O.length lO) (a7.sub _ _ e1) ?_ (hv:=c_ e2 0 rfl)
 refine Op.c0 (some 40) (Ch _ _ _ a7.sub Y _ _ hw 4 (by((try dsimp only)<;>((have:=An a4;omega))))) a7 ?_
 rintro _ e3 _ v2 e4 aw ⟨v3,rfl,a9,rfl⟩
 obtain⟨hx,n285,rfl⟩:=a9.aj
 replace e1:=e4 _ _ e1
 replace Y:=Y.mono e4
 replace ad:=ad.mono e4
 refine Op.pg 7 [(8,vL hx (((bU O).1).length) n285),(9,.bool (gI O 4))] ?_
 refine At.rp 8 3 [(45,.bool (!(gI O 4)))] ?_
 refine Op.wb (!(gI O 4)) 45 (fun hy=>?_) fun hz=>?_
 ·replace hy:=(dG hy)
  refine Op.pg 8 [(50,.bool true)] ?_
  refine At.bW 50 9 ?_
  refine At.rp 3 1 [(51,.agg #[vI 0,vS [],vN,vI 0,vI 0,.bool false,.bool false,.bool false,vN])] ?_
  refine Op.sg 25 4 51 0 0 #[vI 0,vS [],vN,vI 0,vI 0,.bool false,.bool false,.bool false,vN] aw (fun _=>trivial) fun v4 hA=>?_
  refine Op.pg 10 [(5,.bool false)] ?_
  exact At.rm f55 [.agg #[vI 0,vS [],vN,vI 0,vI 0,.bool false,.bool false,.bool false,vN],.bool false] [.cell 4 25,.tmp 5] (.tuple #[.agg #[vI 0,vS [],vN,vI 0,vI 0,.bool false,.bool false,.bool false,vN],.bool false]) ⟨⟨_,_,rfl,dY (n:=9) (by kernel_rfl) (hA.ah 0 rfl) (by kernel_rfl) rfl⟩,rfl,trivial⟩ (hR hA.drop ⟨vN,vN,b7 (by(rw[iR (uQ a4 ‹_›)];rfl)) (aS (by(rw[iR (uQ a4 ‹_›)];done))),b9 (av.empty _ _ _ _ _) (by(rw[iR (uQ a4 ‹_›)];rfl)),b9 (av.empty _ _ _ _ _) (by(rw[iR (uQ a4 ‹_›)];rfl)),rfl⟩)
 replace hz:=(dH hz)
 refine Op.px 1 [(46,vL hx (((bU O).1).length) n285)] ?_
 obtain⟨I,a0⟩:=lK (l:=(bU O).1) (i:=3) (by(have:=fV ‹_›;omega))
 obtain⟨a1,V,v5,v6,l0,l2,e5⟩:=av.bF a9 _ a0
 cases l0
 refine Op.ix 117 3 1 8 (((bU O).1).length) n285 46 (.const (vI 3)) 47 a1 V 3 (by omega) (by(have:=fV ‹_›;omega)) ?_
 replace e5:cut _ _ _=[vI I]:=e5
 refine Op.l1 3 47 48 (V+(3:Int).toNat*1) (vI I) (aw.sub _ _ l2) ?_ (hv:=c_ e5 0 rfl)
 refine Op.pg 8 [(50,.bool (decide (I>7)))] ?_
 refine At.fd (I>7) 50 9 11 (fun v8=>?_) fun v9=>?_
 ·refine At.rp 3 1 [(51,.agg #[vI 0,vS [],vN,vI 0,vI 0,.bool false,.bool false,.bool false,vN])] ?_
  refine Op.sg 25 4 51 0 0 #[vI 0,vS [],vN,vI 0,vI 0,.bool false,.bool false,.bool false,vN] aw (fun _=>trivial) fun wa hC=>?_
  refine Op.pg 10 [(5,.bool false)] ?_
  exact At.rm f55 [.agg #[vI 0,vS [],vN,vI 0,vI 0,.bool false,.bool false,.bool false,vN],.bool false] [.cell 4 25,.tmp 5] (.tuple #[.agg #[vI 0,vS [],vN,vI 0,vI 0,.bool false,.bool false,.bool false,vN],.bool false]) ⟨⟨_,_,rfl,dY (n:=9) (by kernel_rfl) (hC.ah 0 rfl) (by kernel_rfl) rfl⟩,rfl,trivial⟩ (hR hC.drop ⟨vN,vN,b7 (by(rw[iR (uR a4 a0 ‹_›)];rfl)) (aS (by(rw[iR (uR a4 a0 ‹_›)];done))),b9 (av.empty _ _ _ _ _) (by(rw[iR (uR a4 a0 ‹_›)];rfl)),b9 (av.empty _ _ _ _ _) (by(rw[iR (uR a4 a0 ‹_›)];rfl)),rfl⟩)
 refine At.dw (fun _=>False) [(0,true),(1,true),(3,true),(4,true),(7,true),(8,true),(10,true),(11,true),(15,true),(16,true),(20,true),(21,true),(25,true),(26,true),(29,true),(30,true),(2,true),(5,true),(6,true),(9,true),(12,true),(13,true),(14,true),(17,true),(18,true),(19,true),(22,true),(23,true),(24,true),(27,true),(28,true),(31,true),(32,true),(33,false),(1034,false),(34,false)] ?_
 refine Op.px 1 [(52,vL (some ⟨a1,V,none⟩) (((bU O).1).length) n285)] ?_
 obtain⟨b5,hD⟩:=lK (l:=(bU O).1) (i:=0) (by(have:=fV ‹_›;omega))
 obtain⟨wc,wi,wn,wp,l3,l4,e6⟩:=av.bF a9 _ hD
 cases l3
 refine Op.ix 117 3 1 8 (((bU O).1).length) n285 52 (.const (vI 0)) 53 a1 V 0 (by omega) (by(have:=fV ‹_›;omega)) ?_
 replace e6:cut _ _ _=[vI b5]:=e6
 refine Op.px 1 [(55,vL (some ⟨a1,V,none⟩) (((bU O).1).length) n285)] ?_
 obtain⟨bk,dE⟩:=lK (l:=(bU O).1) (i:=1) (by(have:=fV ‹_›;omega))
 obtain⟨wr,wt,ww,wx,l8,ma,e7⟩:=av.bF a9 _ dE
 cases l8
 refine Op.ix 117 3 1 8 (((bU O).1).length) n285 55 (.const (vI 1)) 56 a1 V 1 (by omega) (by(have:=fV ‹_›;omega)) ?_
 replace e7:cut _ _ _=[vI bk]:=e7
 refine Op.px 1 [(59,vL (some ⟨a1,V,none⟩) (((bU O).1).length) n285)] ?_
 obtain⟨b6,hE⟩:=lK (l:=(bU O).1) (i:=2) (by(have:=fV ‹_›;omega))
 obtain⟨wy,w0,w1,w2,md,mf,e8⟩:=av.bF a9 _ hE
 cases md
 refine Op.ix 117 3 1 8 (((bU O).1).length) n285 59 (.const (vI 2)) 60 a1 V 2 (by omega) (by(have:=fV ‹_›;omega)) ?_
 replace e8:cut _ _ _=[vI b6]:=e8
 refine Op.px 1 [(62,vL (some ⟨a1,V,none⟩) (((bU O).1).length) n285)] ?_
 obtain⟨w3,w7,xa,xc,mi,ml,e9⟩:=av.bF a9 _ a0
 cases mi
 refine Op.ix 117 3 1 8 (((bU O).1).length) n285 62 (.const (vI 3)) 63 a1 V 3 (by omega) (by(have:=fV ‹_›;omega)) ?_
 replace e9:cut _ _ _=[vI I]:=e9
 refine Op.px 1 [(67,vL (some ⟨a1,V,none⟩) (((bU O).1).length) n285)] ?_
 obtain⟨xf,xi,xn,xr,mp,mx,fa⟩:=av.bF a9 _ a0
 cases mp
 refine Op.ix 117 3 1 8 (((bU O).1).length) n285 67 (.const (vI 3)) 68 a1 V 3 (by omega) (by(have:=fV ‹_›;omega)) ?_
 replace fa:cut _ _ _=[vI I]:=fa
 refine Op.px 1 [(72,vL (some ⟨a1,V,none⟩) (((bU O).1).length) n285)] ?_
 obtain⟨xt,xv,yi,yk,my,m0,fg⟩:=av.bF a9 _ a0
 cases my
 refine Op.ix 117 3 1 8 (((bU O).1).length) n285 72 (.const (vI 3)) 73 a1 V 3 (by omega) (by(have:=fV ‹_›;omega)) ?_
 replace fg:cut _ _ _=[vI I]:=fg
 refine Op.px 1 [(77,vL (some ⟨bj,a6,none⟩) (((bg b).1).length) X)] ?_
 obtain⟨b8,hF⟩:=cG ((bg b).1) 1
 obtain⟨yn,yr,yv,y7,m1,m2,fi⟩:=av.bF ad _ hF
 cases m1
 refine Op.iq 115 22 1 24 (((bg b).1).length) X 77 (.const (vI 1)) 78 bj a6 1 ?_
 obtain⟨y8,fi,hG⟩:=fi
 obtain⟨m3,m4,rfl⟩:=hG.aj
 refine Op.px 1 [(81,vL (some ⟨bj,a6,none⟩) (((bg b).1).length) X)] ?_
 obtain⟨c6,hH⟩:=cG ((bg b).1) 2
 obtain⟨zr,zs,zt,z0,m5,m6,fj⟩:=av.bF ad _ hH
 cases m5
 refine Op.iq 115 22 1 24 (((bg b).1).length) X 81 (.const (vI 2)) 82 bj a6 2 ?_
 obtain⟨z1,fj,hI⟩:=fj
 obtain⟨fl,fp,rfl⟩:=hI.aj
 refine Op.gB (T:=3) (x:=53) (o:=V+(0:Int).toNat*1) (d:=54) (n:=1) (v:=vI b5) (by kernel_rfl) (by kernel_rfl) (by kernel_rfl) (fun h=>h) (aw.sub _ _ l4) (c_ e6 0 rfl) ?_
 refine Op.gB (T:=3) (x:=56) (o:=V+(1:Int).toNat*1) (d:=57) (n:=1) (v:=vI bk) (by kernel_rfl) (by kernel_rfl) (by kernel_rfl) (fun h=>h) (aw.sub _ _ ma) (c_ e7 0 rfl) ?_
 refine Op.cE 58 (bk-1) (by(have:=oV dE;omega)) (by(have:=oV dE;omega)) ?_
 refine Op.gB (T:=3) (x:=60) (o:=V+(2:Int).toNat*1) (d:=61) (n:=1) (v:=vI b6) (by kernel_rfl) (by kernel_rfl) (by kernel_rfl) (fun h=>h) (aw.sub _ _ mf) (c_ e8 0 rfl) ?_
 refine Op.gB (T:=3) (x:=63) (o:=V+(3:Int).toNat*1) (d:=64) (n:=1) (v:=vI I) (by kernel_rfl) (by kernel_rfl) (by kernel_rfl) (fun h=>h) (aw.sub _ _ ml) (c_ e9 0 rfl) ?_
 refine Op.vl 65 (.int .i64 (IntKind.wrap .i64 (((BitVec.ofInt (IntKind.bits .i64) I &&& BitVec.ofInt (IntKind.bits .i64) (1:Int)).toNat:Nat):Int))) (.int .i64 (I % 2)) (Jj (by have:=oV a0;omega) (by omega)) ?_
 refine Op.px 1 [(66,.bool ((I % 2) != 0))] ?_
 refine Op.gB (T:=3) (x:=68) (o:=V+(3:Int).toNat*1) (d:=69) (n:=1) (v:=vI I) (by kernel_rfl) (by kernel_rfl) (by kernel_rfl) (fun h=>h) (aw.sub _ _ mx) (c_ fa 0 rfl) ?_
 refine Op.vl 70 (.int .i64 (IntKind.wrap .i64 (((BitVec.ofInt (IntKind.bits .i64) I &&& BitVec.ofInt (IntKind.bits .i64) (2:Int)).toNat:Nat):Int))) (.int .i64 (I / 2 % 2*2)) (Jk (by have:=oV a0;omega) (by omega)) ?_
 refine Op.px 1 [(71,.bool ((I / 2 % 2*2) != 0))] ?_
 refine Op.gB (T:=3) (x:=73) (o:=V+(3:Int).toNat*1) (d:=74) (n:=1) (v:=vI I) (by kernel_rfl) (by kernel_rfl) (by kernel_rfl) (fun h=>h) (aw.sub _ _ m0) (c_ fg 0 rfl) ?_
 refine Op.vl 75 (.int .i64 (IntKind.wrap .i64 (((BitVec.ofInt (IntKind.bits .i64) I &&& BitVec.ofInt (IntKind.bits .i64) (4:Int)).toNat:Nat):Int))) (.int .i64 (I / 4 % 2*4)) (Jl (by have:=oV a0;omega) (by omega)) ?_
 refine Op.px 1 [(76,.bool ((I / 4 % 2*4) != 0))] ?_
 refine Op.gB (T:=22) (x:=78) (o:=a6+(1:Int).toNat*1) (d:=79) (n:=1) (v:=vL m3 b8.length m4) (by kernel_rfl) (by kernel_rfl) (by kernel_rfl) (fun h=>h) (aw.sub _ _ m2) (c_ fi 0 rfl) ?_
 refine Op.Bo (T:=22) (S:=9) (E:=5) (x:=79) (dst:=80) (l:=b8) (by kernel_rfl) (by kernel_rfl) (by kernel_rfl) (by kernel_rfl) (by kernel_rfl) hG aw.sub (fun _ _ _ h=>h) ?_
 refine Op.gB (T:=22) (x:=82) (o:=a6+(2:Int).toNat*1) (d:=83) (n:=1) (v:=vL fl c6.length fp) (by kernel_rfl) (by kernel_rfl) (by kernel_rfl) (fun h=>h) (aw.sub _ _ m6) (c_ fj 0 rfl) ?_
 refine Op.px 1 [(84,.agg #[vI b5,vS b8,vL fl c6.length fp,vI (bk-1),vI b6,.bool ((I % 2) != 0),.bool ((I / 2 % 2*2) != 0),.bool ((I / 4 % 2*4) != 0),vN])] ?_
 refine Op.al 10 25 #[vI 0,vS [],vN,vI 0,vI 0,.bool false,.bool false,.bool false,vN] aw fun ca z2 m7=>?_
 refine Op.ba ?_
 refine Op.sg 25 10 84 0 0 #[vI b5,vS b8,vL fl c6.length fp,vI (bk-1),vI b6,.bool ((I % 2) != 0),.bool ((I / 2 % 2*2) != 0),.bool ((I / 4 % 2*4) != 0),vN] m7 (fun _=>trivial) fun z3 m8=>?_
 refine Op.gt 12 ?_
 refine At.rp 4 1 [(85,vL (some ⟨bj,a6,none⟩) (((bg b).1).length) X)] ?_
 refine Op.zA (T:=115) (E:=22) (dx:=24) (x:=85) (ao:=(some ⟨bj,a6,none⟩)) (n:=(((bg b).1).length)) (c:=X) (dst:=86) (d:=(jI 5 br)) (lo:=(.const (vI 3))) (k:=.i64) (m:=3) (by kernel_rfl) (by kernel_rfl) (by kernel_rfl) (by kernel_rfl) ad (by omega) (by omega) fun z4 dT=>?_
 obtain⟨m9,hJ,rfl⟩:=dT.aj
 refine Op.pg 13 [(87,vI ((((bg b).1).drop (3:Int).toNat).length:Int)),(88,vI 0)] ?_
 have na:=aJ.nil 25 ek e3
 have nb:=m8.nl
 have nd:=(nb.aa 0 rfl).aa 1 rfl
 obtain⟨z5,nf,nm⟩:=St.bJ (Q:=tn e3 ca (⟨b5,b8,c6,bk-1,b6,(I % 2) != 0,(I / 2 % 2*2) != 0,(I / 4 % 2*4) != 0,([]:List aG)⟩:aG)) 2 nd ⟨_,_,_,rfl,hI,na⟩
 have eB:∀(m:Nat) (d0:GH) (d1:aM e3 d0) (ob:aG) (i:Int) (fr:ay) (ft:ax) (hm:((bg b).1.drop (3:Int).toNat).length-i.toNat<m) (h0:0≤i) (h1:i≤((bg b).1.drop (3:Int).toNat).length) (hB:iA bR b=true) (hP:wN b ob i) (be:(ob.az.length:Int)=i) (c8:tn d0 ca ob fr) (c9:St h g (aV []) d0 [fr,[(dl,Obj.cells #[vI 0,vS [],vN,vI 0,vI 0,.bool false,.bool false,.bool false,vN] 25 (0,0))]] ft),At (bX prog B 55 f55 R) [] 13 [(4,vP dl),(10,vP ca),(86,vL m9 ((((bg b).1).drop (3:Int).toNat).length) hJ),(87,vI ((((bg b).1).drop (3:Int).toNat).length:Int)),(88,vI i)] ft:=by
  intro m;induction m with
  |zero=>intros;omega
  |succ m eJ=>
   intro d0 d1 ob i fr ft hm h0 h1 hB hP be c8 c9
   replace Y:=Y.mono d1
   replace dT:=dT.mono d1
   refine At.go 14 1 [(89,.bool (decide (i<((((bg b).1).drop (3:Int).toNat).length:Int))))] ?_
   refine At.fd (i<((((bg b).1).drop (3:Int).toNat).length:Int)) 89 15 23 (fun z6=>?_) fun z7=>?_
   ·refine At.rg 3 ?_
    obtain⟨D,bm⟩:=cG (((bg b).1).drop (3:Int).toNat) i
    obtain⟨nn,hK,z8,z9,no,np,fv⟩:=av.bF dT _ bm
    cases no
    refine Op.iq 115 22 1 24 ((((bg b).1).drop (3:Int).toNat).length) hJ 86 88 90 nn hK i ?_
    obtain⟨A0,fv,hL⟩:=fv
    obtain⟨fw,fx,rfl⟩:=hL.aj
    refine Op.l1 22 90 91 (hK+i.toNat*1) (vL fw D.length fx) (c9.sub _ _ np) ?_ (hv:=c_ fv 0 rfl)
    refine Op.pg 16 [(12,vL fw D.length fx)] ?_
    refine At.rp 8 1 [(93,vL fw D.length fx)] ?_
    refine Op.c0 (some 94) (f1 _ _ _ c9.sub Y _ _ hL true (by((try dsimp only)<;>((have:=EM bm;omega)))) (by exact Js hB h0 ‹_› d5)) c9 ?_
    rintro _ nu _ A1 nx nz ⟨CH,CM,rfl,hN,hO,rfl⟩
    obtain⟨da,db,rfl⟩:=hN.aj
    obtain⟨dc,dd,rfl⟩:=hO.aj
    replace c8:=c8.mono nx
    refine Op.px 3 [(95,.agg #[vI (((a_ true D).1).Kind),vS (((a_ true D).1).af),vL da ((((a_ true D).1).Data).length) db,vI (((a_ true D).1).ai),vI (((a_ true D).1).aF),.bool (((a_ true D).1).aY),.bool (((a_ true D).1).aI),.bool (((a_ true D).1).ak),vL dc ((((a_ true D).1).az).length) dd]),(96,.bool ((a_ true D).2))] ?_
    refine Op.al 13 25 #[vI 0,vS [],vN,vI 0,vI 0,.bool false,.bool false,.bool false,vN] nz fun Eq EQ n0=>?_
    refine Op.sg 25 13 95 0 0 #[vI (((a_ true D).1).Kind),vS (((a_ true D).1).af),vL da ((((a_ true D).1).Data).length) db,vI (((a_ true D).1).ai),vI (((a_ true D).1).aF),.bool (((a_ true D).1).aY),.bool (((a_ true D).1).aI),.bool (((a_ true D).1).ak),vL dc ((((a_ true D).1).az).length) dd] n0 (fun _=>trivial) fun Fd hQ=>?_
    refine Op.pg 17 [(14,.bool ((a_ true D).2))] ?_
    refine At.go 18 2 [(98,.bool (!((a_ true D).2)))] ?_
    refine At.di (!((a_ true D).2)) 98 19 21 (fun hS=>?_) fun hT=>?_
    ·replace hS:=(dG hS)
     refine At.rp 3 1 [(99,.agg #[vI 0,vS [],vN,vI 0,vI 0,.bool false,.bool false,.bool false,vN])] ?_
     refine Op.sg 25 4 99 0 2 #[vI 0,vS [],vN,vI 0,vI 0,.bool false,.bool false,.bool false,vN] hQ (fun _=>trivial) fun Fn hV=>?_
     refine Op.pg 20 [(5,.bool false)] ?_
     exact At.rm f55 [.agg #[vI 0,vS [],vN,vI 0,vI 0,.bool false,.bool false,.bool false,vN],.bool false] [.cell 4 25,.tmp 5] (.tuple #[.agg #[vI 0,vS [],vN,vI 0,vI 0,.bool false,.bool false,.bool false,vN],.bool false]) ⟨⟨_,_,rfl,dY (n:=9) (by kernel_rfl) (hV.ah 2 rfl) (by kernel_rfl) rfl⟩,rfl,trivial⟩ (hR hV.drop.drop.drop ⟨vN,vN,b7 (by(rw[uS hB bm ‹_›];rfl)) (aS (by(rw[uS hB bm ‹_›];done))),b9 (av.empty _ _ _ _ _) (by(rw[uS hB bm ‹_›];rfl)),b9 (av.empty _ _ _ _ _) (by(rw[uS hB bm ‹_›];rfl)),rfl⟩)
    replace hT:=(dH hT)
    refine At.rp 7 1 [(100,vQ ca 8)] ?_
    obtain⟨Fr,FS,n3,oi,hW,hX⟩:=c8
    obtain⟨oj,ol,rfl⟩:=hW.aj
    obtain⟨or,o3,rfl⟩:=hX.aj
    have o4:=(hQ.aa 0 rfl).aa 1 rfl
    have f0:=St.un [n3] oi o4
    refine Op.l1 23 100 101 8 (vL or ob.az.length o3) (f0.ah 0 rfl) ?_
    refine Op.la 25 13 102 0 9 [vI (((a_ true D).1).Kind),vS (((a_ true D).1).af),vL da ((((a_ true D).1).Data).length) db,vI (((a_ true D).1).ai),vI (((a_ true D).1).aF),.bool (((a_ true D).1).aY),.bool (((a_ true D).1).aI),.bool (((a_ true D).1).ak),vL dc ((((a_ true D).1).az).length) dd] (f0.ah 2 rfl) ?_
    refine Op.ls 103 1 25 #[vI (((a_ true D).1).Kind),vS (((a_ true D).1).af),vL da ((((a_ true D).1).Data).length) db,vI (((a_ true D).1).ai),vI (((a_ true D).1).aF),.bool (((a_ true D).1).aY),.bool (((a_ true D).1).aI),.bool (((a_ true D).1).ak),vL dc ((((a_ true D).1).az).length) dd] f0 fun GE GT hY=>?_
    refine Op.ap 101 103 23 23 104 25 96 ek (ys:=[((a_ true D).1)]) hX hY 2 (⟨_,_,rfl,(iC.2 ⟨_,_,hN,hO,rfl⟩),Reads.nil⟩) (by(have:=Cc ‹_› be;simp only[bY,dU];omega)) (fun _ _ _=>trivial) (eT.lit (m:=1) (sz:=9) (hY.ah 0 rfl) (news:=[vI (((a_ true D).1).Kind),vS (((a_ true D).1).af),vL da ((((a_ true D).1).Data).length) db,vI (((a_ true D).1).ai),vI (((a_ true D).1).aF),.bool (((a_ true D).1).aY),.bool (((a_ true D).1).aI),.bool (((a_ true D).1).ak),vL dc ((((a_ true D).1).az).length) dd]) rfl rfl (by simp[Value.oneCell']) _) fun Ha Hb Hc hZ pa Hd=>?_
    obtain⟨h2,h3,rfl⟩:=hZ.aj
    have pb:=(pa.aa 0 rfl).drop
    refine Op.px 1 [(105,vQ ca 8)] ?_
    refine Op.s1 23 105 104 8 (vL h2 ((ob.az++([((a_ true D).1)])).length) h3) 0 #[vI ob.Kind,vS ob.af,vL oj ob.Data.length ol,vI ob.ai,vI ob.aF,.bool ob.aY,.bool ob.aI,.bool ob.ak,vL h2 ((ob.az++([((a_ true D).1)])).length) h3] pb (fun _=>trivial) fun Hk pc=>?_
    refine Op.gt 22 ?_
    refine At.rg 2 ?_
    refine Op.cE 106 (i+1) (by omega) (by(have:=Cc ‹_› be;omega)) ?_
    refine Op.pg 13 [(88,vI (i+1))] ?_
    obtain⟨Hm,pd,pf⟩:=St.bJ (Q:=tn nu ca (⟨ob.Kind,ob.af,ob.Data,ob.ai,ob.aF,ob.aY,ob.aI,ob.ak,ob.az++([((a_ true D).1)])⟩:aG)) 2 pc ⟨_,_,_,rfl,hW,hZ⟩
    have ph:=(pf.aa 0 rfl).aa 1 rfl
    have pj:=ph.drop
    exact At.ke (eJ _ (aM.trans d1 (by repeat (first|assumption|apply aM.trans))) (⟨ob.Kind,ob.af,ob.Data,ob.ai,ob.aF,ob.aY,ob.aI,ob.ak,ob.az++([((a_ true D).1)])⟩:aG) (i+1) _ _ (by omega) (by omega) (by omega) (by omega) (by exact Jr hP h0 bm ‹_›) (by(simp only[cA,bY,dU];omega)) pd pj)
   refine At.rg 3 ?_
   obtain⟨Hn,HA,pl,pm,d2,h4⟩:=c8
   obtain⟨df,dg,rfl⟩:=d2.aj
   obtain⟨dj,dk,rfl⟩:=h4.aj
   have h5:=St.un [pl] pm c9
   refine Op.la 25 10 107 0 9 [vI ob.Kind,vS ob.af,vL df ob.Data.length dg,vI ob.ai,vI ob.aF,.bool ob.aY,.bool ob.aI,.bool ob.ak,vL dj ob.az.length dk] (h5.ah 0 rfl) ?_
   refine Op.sg 25 4 107 0 2 #[vI ob.Kind,vS ob.af,vL df ob.Data.length dg,vI ob.ai,vI ob.aF,.bool ob.aY,.bool ob.aI,.bool ob.ak,vL dj ob.az.length dk] h5 (fun _=>trivial) fun HB po=>?_
   refine Op.pg 24 [(5,.bool true)] ?_
   obtain⟨HI,h6,pu,pv⟩:=aJ.freeze h4 (po.aa 1 rfl)
   replace d2:=d2.mono pu
   exact At.rm f55 [.agg #[vI ob.Kind,vS ob.af,vL df ob.Data.length dg,vI ob.ai,vI ob.aF,.bool ob.aY,.bool ob.aI,.bool ob.ak,vL dj ob.az.length dk],.bool true] [.cell 4 25,.tmp 5] (.tuple #[.agg #[vI ob.Kind,vS ob.af,vL df ob.Data.length dg,vI ob.ai,vI ob.aF,.bool ob.aY,.bool ob.aI,.bool ob.ak,vL dj ob.az.length dk],.bool true]) ⟨⟨_,_,rfl,dY (n:=9) (by kernel_rfl) (h6.ah 1 rfl) (by kernel_rfl) rfl⟩,rfl,trivial⟩ (hR h6.drop.drop ⟨(vL df ob.Data.length dg),(vL dj ob.az.length dk),b7 (by(rw[uT hB hP ‹_›];done)) (aS (by(rw[uT hB hP ‹_›];done))),b9 d2 (by(rw[uT hB hP ‹_›];done)),b9 pv (by(rw[uT hB hP ‹_›];done)),rfl⟩)
 exact At.ke (eB _ _ (aM.refl _) (⟨b5,b8,c6,bk-1,b6,(I % 2) != 0,(I / 2 % 2*2) != 0,(I / 4 % 2*4) != 0,([]:List aG)⟩:aG) 0 _ _ (bM _) (by omega) (by omega) (by exact Jp ‹_› ‹_› (by exact .inl ‹_›) a4 ‹_› a0 ‹_›) (by exact Jq (Jo a4 hF hH hD dE hE a0)) (by rfl) nf nm)
theorem P6 (B:World) (h:ax) (g:GH) (hg:bl g h) (D:bq g) (u:Value) (b:an) (G:av g 5 br u b) (bR:Bool) (hl:b.length≤1000000000):aE prog B 55 #[u,.bool bR] h g [] (fun I g' L'=>∃v0 v1,I=.tuple #[.agg #[.int .i64 (((a_ bR b).1).Kind),.string (bp (((a_ bR b).1).af)),v0,.int .i64 (((a_ bR b).1).ai),.int .i64 (((a_ bR b).1).aF),.bool (((a_ bR b).1).aY),.bool (((a_ bR b).1).aI),.bool (((a_ bR b).1).ak),v1],.bool ((a_ bR b).2)]∧av g' 5 br v0 (((a_ bR b).1).Data)∧av g' 25 ek v1 (((a_ bR b).1).az)∧L'=[]):=P5 _ B h g hg D u b G bR hl (bM _)
theorem P7 (B:World) (h:ax) (g:GH) (hg:bl g h) (I:bq g) (Y:Value) (b:an) (ab:av g 5 br Y b) (hl:b.length≤1000000000):
  aE prog B 21 #[Y] h g [] (fun a4 g' L'=>∃v0 v1,a4=.tuple #[.agg #[.int .i64 (((aU b).1).Kind),.string (bp (((aU b).1).af)),v0,.int .i64 (((aU b).1).ai),.int .i64 (((aU b).1).aF),.bool (((aU b).1).aY),.bool (((aU b).1).aI),.bool (((aU b).1).ak),v1],.int .i64 ((aU b).2)]∧av g' 5 br v0 (((aU b).1).Data)∧av g' 25 ek v1 (((aU b).1).az)∧L'=[]):=by
 obtain⟨a5,a6,rfl⟩:=ab.aj
 refine aE.aq func21 fun R hR=>?_
 have a7:=St.init hg
 refine At.rg 2 ?_
 refine Op.al 2 25 #[vI 0,vS [],vN,vI 0,vI 0,.bool false,.bool false,.bool false,vN] a7 fun bd be O=>?_
 refine Op.pg 1 [] ?_
 refine At.go 2 3 [(8,.bool (decide ((b.length:Int)>1024)))] ?_
 refine At.fd ((b.length:Int)>1024) 8 3 5 (fun bi=>?_) fun bj=>?_
 ·refine At.rp 3 1 [(9,.agg #[vI 0,vS [],vN,vI 0,vI 0,.bool false,.bool false,.bool false,vN])] ?_
  refine Op.sg 25 2 9 0 0 #[vI 0,vS [],vN,vI 0,vI 0,.bool false,.bool false,.bool false,vN] O (fun _=>trivial) fun bk ad=>?_
  refine Op.pg 4 [(3,vI 130)] ?_
  exact At.rm f21 [.agg #[vI 0,vS [],vN,vI 0,vI 0,.bool false,.bool false,.bool false,vN],vI 130] [.cell 2 25,.tmp 3] (.tuple #[.agg #[vI 0,vS [],vN,vI 0,vI 0,.bool false,.bool false,.bool false,vN],vI 130]) ⟨⟨_,_,rfl,dY (n:=9) (by kernel_rfl) (ad.ah 0 rfl) (by kernel_rfl) rfl⟩,rfl,trivial⟩ (hR ad.drop ⟨vN,vN,b7 (by(rw[Ce ‹_›];rfl)) (bB (by(rw[Ce ‹_›];done))),b9 (av.empty _ _ _ _ _) (by(rw[Ce ‹_›];rfl)),b9 (av.empty _ _ _ _ _) (by(rw[Ce ‹_›];rfl)),rfl⟩)
 refine At.rp 8 1 [(11,vL a5 b.length a6)] ?_
 refine Op.c0 (some 12) (P6 _ _ _ O.sub I _ _ ab false (by(try dsimp only)<;>omega)) O ?_
 rintro _ bm _ bo a8 a9 ⟨bt,b3,rfl,U,V,rfl⟩
 obtain⟨a31,u,rfl⟩:=U.aj
 obtain⟨D,G,rfl⟩:=V.aj
 replace I:=I.mono a8
 refine Op.px 3 [(13,.agg #[vI (((a_ false b).1).Kind),vS (((a_ false b).1).af),vL a31 ((((a_ false b).1).Data).length) u,vI (((a_ false b).1).ai),vI (((a_ false b).1).aF),.bool (((a_ false b).1).aY),.bool (((a_ false b).1).aI),.bool (((a_ false b).1).ak),vL D ((((a_ false b).1).az).length) G]),(14,.bool ((a_ false b).2))] ?_
 refine Op.al 4 25 #[vI 0,vS [],vN,vI 0,vI 0,.bool false,.bool false,.bool false,vN] a9 fun b4 b5 bc=>?_
 refine Op.sg 25 4 13 0 0 #[vI (((a_ false b).1).Kind),vS (((a_ false b).1).af),vL a31 ((((a_ false b).1).Data).length) u,vI (((a_ false b).1).ai),vI (((a_ false b).1).aF),.bool (((a_ false b).1).aY),.bool (((a_ false b).1).aI),.bool (((a_ false b).1).ak),vL D ((((a_ false b).1).az).length) G] bc (fun _=>trivial) fun b6 J=>?_
 refine Op.pg 6 [(5,.bool ((a_ false b).2))] ?_
 refine At.rp 7 3 [(17,.bool (!((a_ false b).2)))] ?_
 refine Op.wb (!((a_ false b).2)) 17 (fun ae=>?_) fun am=>?_
 ·replace ae:=(dG ae)
  refine Op.pg 7 [(21,.bool true)] ?_
  refine At.bW 21 8 ?_
  refine At.rp 3 1 [(22,.agg #[vI 0,vS [],vN,vI 0,vI 0,.bool false,.bool false,.bool false,vN])] ?_
  refine Op.sg 25 2 22 0 1 #[vI 0,vS [],vN,vI 0,vI 0,.bool false,.bool false,.bool false,vN] J (fun _=>trivial) fun b8 ar=>?_
  refine Op.pg 9 [(3,vI 130)] ?_
  exact At.rm f21 [.agg #[vI 0,vS [],vN,vI 0,vI 0,.bool false,.bool false,.bool false,vN],vI 130] [.cell 2 25,.tmp 3] (.tuple #[.agg #[vI 0,vS [],vN,vI 0,vI 0,.bool false,.bool false,.bool false,vN],vI 130]) ⟨⟨_,_,rfl,dY (n:=9) (by kernel_rfl) (ar.ah 1 rfl) (by kernel_rfl) rfl⟩,rfl,trivial⟩ (hR ar.drop.drop ⟨vN,vN,b7 (by(rw[uU ‹_› (.inl ‹_›)];rfl)) (bB (by(rw[uU ‹_› (.inl ‹_›)];done))),b9 (av.empty _ _ _ _ _) (by(rw[uU ‹_› (.inl ‹_›)];rfl)),b9 (av.empty _ _ _ _ _) (by(rw[uU ‹_› (.inl ‹_›)];rfl)),rfl⟩)
 replace am:=(dH am)
 refine Op.la 25 4 18 0 9 [vI (((a_ false b).1).Kind),vS (((a_ false b).1).af),vL a31 ((((a_ false b).1).Data).length) u,vI (((a_ false b).1).ai),vI (((a_ false b).1).aF),.bool (((a_ false b).1).aY),.bool (((a_ false b).1).aI),.bool (((a_ false b).1).ak),vL D ((((a_ false b).1).az).length) G] (J.ah 0 rfl) ?_
 refine Op.c1 19 (Jw _ _ _ J.sub I ((a_ false b).1) _ U _ V false (by(try dsimp only)<;>exact PT b)) J fun ca X=>?_
 refine Op.pg 7 [(21,.bool (!(dr false ((a_ false b).1))))] ?_
 refine At.di (!(dr false ((a_ false b).1))) 21 8 10 (fun aw=>?_) fun a0=>?_
 ·replace aw:=(dG aw)
  refine At.rp 3 1 [(22,.agg #[vI 0,vS [],vN,vI 0,vI 0,.bool false,.bool false,.bool false,vN])] ?_
  refine Op.sg 25 2 22 0 1 #[vI 0,vS [],vN,vI 0,vI 0,.bool false,.bool false,.bool false,vN] X (fun _=>trivial) fun cb a1=>?_
  refine Op.pg 9 [(3,vI 130)] ?_
  exact At.rm f21 [.agg #[vI 0,vS [],vN,vI 0,vI 0,.bool false,.bool false,.bool false,vN],vI 130] [.cell 2 25,.tmp 3] (.tuple #[.agg #[vI 0,vS [],vN,vI 0,vI 0,.bool false,.bool false,.bool false,vN],vI 130]) ⟨⟨_,_,rfl,dY (n:=9) (by kernel_rfl) (a1.ah 1 rfl) (by kernel_rfl) rfl⟩,rfl,trivial⟩ (hR a1.drop.drop ⟨vN,vN,b7 (by(rw[uU ‹_› (.inr ‹_›)];rfl)) (bB (by(rw[uU ‹_› (.inr ‹_›)];done))),b9 (av.empty _ _ _ _ _) (by(rw[uU ‹_› (.inr ‹_›)];rfl)),b9 (av.empty _ _ _ _ _) (by(rw[uU ‹_› (.inr ‹_›)];rfl)),rfl⟩)
 replace a0:=(dH a0)
 refine At.rg 3 ?_
 refine Op.la 25 4 23 0 9 [vI (((a_ false b).1).Kind),vS (((a_ false b).1).af),vL a31 ((((a_ false b).1).Data).length) u,vI (((a_ false b).1).ai),vI (((a_ false b).1).aF),.bool (((a_ false b).1).aY),.bool (((a_ false b).1).aI),.bool (((a_ false b).1).ak),vL D ((((a_ false b).1).az).length) G] (X.ah 0 rfl) ?_
 refine Op.sg 25 2 23 0 1 #[vI (((a_ false b).1).Kind),vS (((a_ false b).1).af),vL a31 ((((a_ false b).1).Data).length) u,vI (((a_ false b).1).ai),vI (((a_ false b).1).aF),.bool (((a_ false b).1).aY),.bool (((a_ false b).1).aI),.bool (((a_ false b).1).ak),vL D ((((a_ false b).1).az).length) G] X (fun _=>trivial) fun ce a3=>?_
 refine Op.pg 11 [(3,vI 0)] ?_
 exact At.rm f21 [.agg #[vI (((a_ false b).1).Kind),vS (((a_ false b).1).af),vL a31 ((((a_ false b).1).Data).length) u,vI (((a_ false b).1).ai),vI (((a_ false b).1).aF),.bool (((a_ false b).1).aY),.bool (((a_ false b).1).aI),.bool (((a_ false b).1).ak),vL D ((((a_ false b).1).az).length) G],vI 0] [.cell 2 25,.tmp 3] (.tuple #[.agg #[vI (((a_ false b).1).Kind),vS (((a_ false b).1).af),vL a31 ((((a_ false b).1).Data).length) u,vI (((a_ false b).1).ai),vI (((a_ false b).1).aF),.bool (((a_ false b).1).aY),.bool (((a_ false b).1).aI),.bool (((a_ false b).1).ak),vL D ((((a_ false b).1).az).length) G],vI 0]) ⟨⟨_,_,rfl,dY (n:=9) (by kernel_rfl) (a3.ah 1 rfl) (by kernel_rfl) rfl⟩,rfl,trivial⟩ (hR a3.drop.drop ⟨(vL a31 ((((a_ false b).1).Data).length) u),(vL D ((((a_ false b).1).az).length) G),b7 (by(rw[Cf ‹_› ‹_› ‹_›];done)) (bB (by(rw[Cf ‹_› ‹_› ‹_›];done))),b9 U (by(rw[Cf ‹_› ‹_› ‹_›];done)),b9 V (by(rw[Cf ‹_› ‹_› ‹_›];done)),rfl⟩)
def jC (v:Int):Bool:=decide (0≤v)&&decide (v≤4611686018427387902)
theorem P8 {v:Int} (h1:v<0):true=!jC v:=by unfold jC;rw[gb (by omega)];rfl
theorem P9 {v:Int} (h1:¬v<0):decide (v>4611686018427387902)=!jC v:=by
  unfold jC
  rw[eu (p:=0≤v) (by omega),lp,kQ]
  simp
theorem P_ (l:List Int):(!l.any fun x=>!jC x)=l.all jC:=by rw[Ih];simp
def pe (x:Result):List Int:=[x.Code,x.aZ,x.At,x.ag.ai,x.ag.aD+1,x.ag.Next,x.ag.aL]
def ku (x:Result):Bool:=[x.Code,x.aZ,x.At,x.ag.ai,x.ag.Next,x.ag.aL].all jC&&(decide (-1≤x.ag.aD)&&decide (x.ag.aD≤4611686018427387902))
def js (w:ak):an×Int:=dM [(fo [w.Client,w.Kind]).1,w.af]
def jF (w:ak):Bool:=[w.Client,w.Kind].all jC&&(js w).2==0
def vt (x:Result):List an:=[(fo (pe x)).1,x.ag.af,x.ag.Data,(dM x.bP).1]
def je (x:Result):List an:=vt x++x.aT.map fun w=>(js w).1
def cL (x:Result):an×Int:=
  if ku x=false then ([],130) else if (dM x.bP).2≠0 then ([],130) else if x.aT.all jF=false then ([],130) else if (dM (je x)).2≠0 then ([],130) else ((dM (je x)).1,0)
def Ap (x:Result):Prop:=x.ag.af.length≤1000000000∧(x.bP.length≤1000000∧∀n∈x.bP,n.length≤1000000000)∧(x.aT.length≤1000000∧∀w∈x.aT,w.af.length≤1000000000)
def tq (x:Result) (cN:List an) (i:Int):Prop:=cN=vt x++(x.aT.take i.toNat).map (fun w=>(js w).1)∧(x.aT.take i.toNat).all jF=true
section
variable {x:Result} {cN:List an} {i:Int} {w:ak}
theorem Qa (x:Result):tq x (vt x) 0:=⟨by simp,rfl⟩
theorem Qb (H:tq x cN i) (h0:0≤i) (hw:x.aT[i.toNat]?=some w) (h1:[w.Client,w.Kind].all jC=true) (h2:(js w).2=0):tq x (cN++[(js w).1]) (i+1):=by
  obtain⟨g1,g2⟩:=H
  unfold tq
  rw[toNat_succ h0,fG hw]
  refine⟨by rw[g1];simp,?_⟩
  rw[BX,g2,lp,j5,nh,mK]
  unfold jF
  rw[h1,h2];rfl
theorem Jx (H:tq x cN i) (h:x.aT.length≤1000000):cN.length≤1000004:=by
  rw[H.1,cA,d_,e_]
  show 4+_≤_
  omega
theorem x9 (h:ku x=false):cL x=([],130):=by unfold cL;rw[aO h]
theorem Jy (h:ku x=true) (h2:¬(dM x.bP).2=0):cL x=([],130):=by unfold cL;rw[h,aC (by simp),aO h2]
theorem Qc (hw:x.aT[i.toNat]?=some w) (he:jF w=false):x.aT.all jF=false:=by
  cases h:x.aT.all jF with
  |false=>rfl
  |true=>rw[ic] at h;rw[h w (cj hw)] at he;cases he
theorem Jz (h:[w.Client,w.Kind].all jC=false):jF w=false:=by unfold jF;rw[h];rfl
theorem JA (h:¬(js w).2=0):jF w=false:=by unfold jF;simp[h]
theorem Ci (h:ku x=true) (h2:(dM x.bP).2=0) (hw:x.aT[i.toNat]?=some w) (he:jF w=false):cL x=([],130):=by
  unfold cL
  rw[h,aC (by simp),aC (by omega),aO (Qc hw he)]
theorem JB (H:tq x cN i) (h:¬i<(x.aT.length:Int)):cN=je x∧x.aT.all jF=true:=by
  obtain⟨g1,g2⟩:=H
  rw[fC (by omega)] at g1 g2
  exact⟨g1,g2⟩
theorem JC (h:ku x=true) (h2:(dM x.bP).2=0) (H:tq x cN i) (hi:¬i<(x.aT.length:Int)) (he:¬(dM cN).2=0):cL x=([],130):=by
  obtain⟨g1,g2⟩:=JB H hi
  rw[g1] at he
  unfold cL
  rw[h,aC (by simp),aC (by omega),g2,aC (by simp),aO he]
theorem JD (h:ku x=true) (h2:(dM x.bP).2=0) (H:tq x cN i) (hi:¬i<(x.aT.length:Int)) (he:(dM cN).2=0):cL x=((dM cN).1,0):=by
  obtain⟨g1,g2⟩:=JB H hi
  rw[g1] at he ⊢
  unfold cL
  rw[h,aC (by simp),aC (by omega),g2,aC (by simp),aC (by omega)]
theorem JE (h:[x.Code,x.aZ,x.At,x.ag.ai,x.ag.Next,x.ag.aL].all jC=true) (h1:¬x.ag.aD< -1) (h2:¬x.ag.aD>4611686018427387902):ku x=true:=by
  unfold ku
  rw[h,eu (by omega),eu (by omega)];rfl
theorem JF (h:[x.Code,x.aZ,x.At,x.ag.ai,x.ag.Next,x.ag.aL].all jC=false):ku x=false:=by unfold ku;rw[h];rfl
theorem Cj (h:x.ag.aD< -1∨x.ag.aD>4611686018427387902):ku x=false:=by
  unfold ku
  rcases h with h|h
  · rw[gb (p:= -1≤x.ag.aD) (by omega)];simp
  · rw[gb (p:=x.ag.aD≤4611686018427387902) (by omega)];simp
theorem ES (h:ku x=true): -1≤x.ag.aD∧x.ag.aD≤4611686018427387902:=by
  unfold ku at h
  simp only[b_,cQ] at h
  exact h.2
end
def t_ (v:List Int) (s:List an) (kL:List an) (cV:List ak):Result:=⟨v.getD 0 0,v.getD 1 0,v.getD 2 0,⟨s.getD 1 [],s.getD 2 [],v.getD 3 0,v.getD 4 0-1,v.getD 5 0,v.getD 6 0⟩,kL,cV⟩
def uV:Result:=⟨0,0,0,⟨[],[],0,0,0,0⟩,[],[]⟩
def rF (b:an):Bool:=((bg b).2==0&&((bg b).1.length:Int)==2)&&gI ((bg b).1.getD 0 []) 2
def dZ (b:an):ak×Bool:=if rF b then (⟨(bU ((bg b).1.getD 0 [])).1.getD 0 0,(bU ((bg b).1.getD 0 [])).1.getD 1 0,(bg b).1.getD 1 []⟩,true) else (⟨0,0,[]⟩,false)
def j7 (b:an):Bool:=((bg b).2==0&&decide (4≤((bg b).1.length:Int)))&&(gI ((bg b).1.getD 0 []) 7&&(bg ((bg b).1.getD 3 [])).2==0)
def pn (b:an) (cV:List ak):Result:=t_ (bU ((bg b).1.getD 0 [])).1 (bg b).1 (bg ((bg b).1.getD 3 [])).1 cV
def nE (b:an):List ak:=((bg b).1.drop (4:Int).toNat).map fun e=>(dZ e).1
def bw (b:an):Result×Int:=
  if j7 b then (if ((bg b).1.drop (4:Int).toNat).all (fun e=>(dZ e).2) then (if (cL (pn b (nE b))).2=0∧(cL (pn b (nE b))).1=b then (pn b (nE b),0) else (uV,130)) else (uV,130)) else (uV,130)
section
variable {b x0 x1 x2 x3 e:an} {y0 y1 y2 y3 y4 y5 y6 i:Int} {ns:List an} {cV:List ak} {ob:Result}
theorem JG (h:¬(bg b).2=0):dZ b=(⟨0,0,[]⟩,false):=by unfold dZ rF;simp[h]
theorem JH (h:¬((bg b).1.length:Int)=2):dZ b=(⟨0,0,[]⟩,false):=by
  unfold dZ rF
  have:(((bg b).1.length:Int)==2)=false:=by simpa using h
  rw[this];simp
theorem JI (u:(bg b).1[(0:Int).toNat]?=some x0) (h:gI x0 2=false):dZ b=(⟨0,0,[]⟩,false):=by
  unfold dZ rF
  rw[getD_at (k:=0) u,h];simp
theorem JJ (h1:(bg b).2=0) (h2:((bg b).1.length:Int)=2) (u:(bg b).1[(0:Int).toNat]?=some x0) (h:gI x0 2=true) (v0:(bU x0).1[(0:Int).toNat]?=some y0) (v1:(bU x0).1[(1:Int).toNat]?=some y1) (s1:(bg b).1[(1:Int).toNat]?=some x1):
    dZ b=(⟨y0,y1,x1⟩,true):=by
  have hb:rF b=true:=by unfold rF;rw[getD_at (k:=0) u,h,h1,h2];rfl
  unfold dZ
  rw[aO hb,getD_at (k:=0) u,getD_at (k:=1) s1,getD_at (k:=0) v0,getD_at (k:=1) v1]
theorem hr_1 (h:¬(bg b).2=0):j7 b=false:=by unfold j7;simp[h]
theorem hr_2 (h:((bg b).1.length:Int)<4):j7 b=false:=by unfold j7;rw[gb (p:=(4:Int)≤_) (by omega)];simp
theorem Aq (u:(bg b).1[(0:Int).toNat]?=some x0) (h:gI x0 7=false):j7 b=false:=by unfold j7;rw[getD_at (k:=0) u,h];simp
theorem hr_4 (s3:(bg b).1[(3:Int).toNat]?=some x3) (h:¬(bg x3).2=0):j7 b=false:=by unfold j7;rw[getD_at (k:=3) s3];simp[h]
theorem Qd (h1:(bg b).2=0) (h2:¬((bg b).1.length:Int)<4) (u:(bg b).1[(0:Int).toNat]?=some x0) (h3:gI x0 7=true) (s3:(bg b).1[(3:Int).toNat]?=some x3) (h4:(bg x3).2=0):j7 b=true:=by
  unfold j7
  rw[getD_at (k:=0) u,getD_at (k:=3) s3,h1,h3,h4,eu (p:=(4:Int)≤_) (by omega)];rfl
theorem lg (h:j7 b=false):bw b=(uV,130):=by unfold bw;rw[h];rfl
theorem Qe (s1:(bg b).1[(1:Int).toNat]?=some x1) (s2:(bg b).1[(2:Int).toNat]?=some x2) (v0:(bU x0).1[(0:Int).toNat]?=some y0) (v1:(bU x0).1[(1:Int).toNat]?=some y1)
    (v2:(bU x0).1[(2:Int).toNat]?=some y2) (v3:(bU x0).1[(3:Int).toNat]?=some y3) (v4:(bU x0).1[(4:Int).toNat]?=some y4) (v5:(bU x0).1[(5:Int).toNat]?=some y5) (v6:(bU x0).1[(6:Int).toNat]?=some y6):
    (⟨y0,y1,y2,⟨x1,x2,y3,y4-1,y5,y6⟩,ns,cV⟩:Result)=t_ (bU x0).1 (bg b).1 ns cV:=by
  unfold t_
  rw[getD_at (k:=1) s1,getD_at (k:=2) s2,getD_at (k:=0) v0,getD_at (k:=1) v1,getD_at (k:=2) v2,getD_at (k:=3) v3,getD_at (k:=4) v4,getD_at (k:=5) v5,getD_at (k:=6) v6]
def wP (b x0 x3:an) (ob:Result) (i:Int):Prop:=ob=t_ (bU x0).1 (bg b).1 ((bg x3).1.take i.toNat) []
theorem Qf (H:wP b x0 x3 ob i) (h0:0≤i) (he:(bg x3).1[i.toNat]?=some e):wP b x0 x3 ⟨ob.Code,ob.aZ,ob.At,⟨ob.ag.af,ob.ag.Data,ob.ag.ai,ob.ag.aD,ob.ag.Next,ob.ag.aL⟩,ob.bP++[e],ob.aT⟩ (i+1):=by
  unfold wP at *
  rw[toNat_succ h0,fG he,H]
  rfl
theorem Qg (H:wP b x0 x3 ob i):ob.bP.length≤1024∧ob.aT.length=0:=by
  rw[H]
  have:=(nU x3).1
  show((bg x3).1.take i.toNat).length≤1024∧_
  rw[e_]
  exact⟨by omega,rfl⟩
def q9 (b x0 x3:an) (ob:Result) (i:Int):Prop:=ob=t_ (bU x0).1 (bg b).1 (bg x3).1 ((((bg b).1.drop (4:Int).toNat).take i.toNat).map fun e=>(dZ e).1)∧(((bg b).1.drop (4:Int).toNat).take i.toNat).all (fun e=>(dZ e).2)=true
theorem Qh (H:wP b x0 x3 ob i) (h:¬i<((bg x3).1.length:Int)):q9 b x0 x3 ob 0:=by
  unfold wP at H
  rw[fC (by omega)] at H
  exact⟨by rw[H];rfl,rfl⟩
theorem Qi (H:q9 b x0 x3 ob i) (h0:0≤i) (he:((bg b).1.drop (4:Int).toNat)[i.toNat]?=some e) (hok:(dZ e).2=true):
    q9 b x0 x3 ⟨ob.Code,ob.aZ,ob.At,⟨ob.ag.af,ob.ag.Data,ob.ag.ai,ob.ag.aD,ob.ag.Next,ob.ag.aL⟩,ob.bP,ob.aT++[(dZ e).1]⟩ (i+1):=by
  obtain⟨h1,h2⟩:=H
  unfold q9
  rw[toNat_succ h0,fG he,BX,h2]
  refine⟨by rw[h1,iH];rfl,by simp[hok]⟩
theorem JK (H:q9 b x0 x3 ob i):ob.aT.length≤1024:=by
  rw[H.1]
  have:=(nU b).1
  show((((bg b).1.drop (4:Int).toNat).take i.toNat).map _).length≤1024
  rw[d_,e_,iP]
  omega
theorem Qj (e:an):(dZ e).1.af.length≤65536:=by
  unfold dZ
  split
  · exact Cg (nU e).2
  · exact fH _
theorem Qk (H:q9 b x0 x3 ob i):Ap ob:=by
  have h1:=JK H
  rw[H.1] at h1 ⊢
  refine⟨?_,⟨?_,fun n hn=>?_⟩,bQ h1 (by decide),fun w hw=>?_⟩
  · have:=Cg (k:=1) (nU b).2
    exact bQ this (by decide)
  · exact bQ (nU x3).1 (by decide)
  · exact bQ ((nU x3).2 n hn) (by decide)
  · obtain⟨e,_,rfl⟩:=de.1 hw
    exact bQ (Qj e) (by decide)
theorem Ar (hH:j7 b=true) (he:((bg b).1.drop (4:Int).toNat)[i.toNat]?=some e) (hok:(dZ e).2=false):bw b=(uV,130):=by
  unfold bw
  rw[aO hH,aC]
  intro h
  rw[ic] at h
  rw[h e (cj he)] at hok
  cases hok
theorem JL (u:(bg b).1[(0:Int).toNat]?=some x0) (s3:(bg b).1[(3:Int).toNat]?=some x3) (H:q9 b x0 x3 ob i) (h:¬i<(((bg b).1.drop (4:Int).toNat).length:Int)):ob=pn b (nE b)∧((bg b).1.drop (4:Int).toNat).all (fun e=>(dZ e).2)=true:=by
  obtain⟨h1,h2⟩:=H
  rw[fC (by omega)] at h1 h2
  refine⟨?_,h2⟩
  rw[h1]
  unfold pn nE
  rw[getD_at (k:=0) u,getD_at (k:=3) s3]
theorem q_ (hH:j7 b=true) (u:(bg b).1[(0:Int).toNat]?=some x0) (s3:(bg b).1[(3:Int).toNat]?=some x3) (H:q9 b x0 x3 ob i) (h:¬i<(((bg b).1.drop (4:Int).toNat).length:Int)) (hn:¬(cL ob).2=0∨¬(cL ob).1=b):bw b=(uV,130):=by
  obtain⟨h1,h2⟩:=JL u s3 H h
  rw[h1] at hn
  unfold bw
  rw[aO hH,aO h2,aC]
  rintro⟨g1,g2⟩
  rcases hn with hn|hn
  · exact hn g1
  · exact hn g2
theorem As (hH:j7 b=true) (u:(bg b).1[(0:Int).toNat]?=some x0) (s3:(bg b).1[(3:Int).toNat]?=some x3) (H:q9 b x0 x3 ob i) (h:¬i<(((bg b).1.drop (4:Int).toNat).length:Int)) (g1:(cL ob).2=0) (g2:(cL ob).1=b):bw b=(ob,0):=by
  obtain⟨h1,h2⟩:=JL u s3 H h
  rw[h1] at g1 g2
  unfold bw
  rw[aO hH,aO h2,aO ⟨g1,g2⟩,h1]
theorem Ql (h:i<(((bg b).1.drop (4:Int).toNat).length:Int)):i≤1024:=by
  have:=(nU b).1
  rw[iP] at h
  omega
end
theorem Qm (B:World) (h:ax) (g:GH) (hg:bl g h) (a0:bq g) (G:Nat) (x:List ag) (V:kZ g G x) (l:ag) (X:Value) (a1:av g 5 br X l.Data) (hp:l.af.length≤1000000000):
  aE prog B 149 #[.map (some G),.agg #[vS l.af,X,vI l.ai,vI l.aD,vI l.Next,vI l.aL]] h g [] (fun a3 g' L'=>a3=.bool (lP x l)∧g'=g∧L'=[]):=by
 obtain⟨Y,ab,rfl⟩:=a1.aj
 refine aE.aq func149 fun R hR=>?_
 have a4:=St.init hg
 refine At.rg 2 ?_
 refine Op.bx 3 39 1 #[vS l.af,vL Y l.Data.length ab,vI l.ai,vI l.aD,vI l.Next,vI l.aL] a4 fun D be u=>?_
 refine Op.pg 1 [] ?_
 refine At.rp 24 1 [(9,vQ D 3)] ?_
 refine Op.l1 3 9 10 3 (vI l.aD) (u.ah 0 rfl) ?_
 refine Op.px 2 [(12,.bool (decide (l.aD<((-1):Int))))] ?_
 refine Op.wd (l.aD<((-1):Int)) 12 (fun bi=>?_) fun bj=>?_
 ·refine Op.pg 2 [(32,.bool true)] ?_
  refine At.bW 32 3 ?_
  exact At.gr 4 1 4 (.bool false) (hR u.drop ⟨(aS (by exact(Ac (by omega)).symm)),rfl,rfl⟩)
 refine Op.px 1 [(13,vQ D 2)] ?_
 refine Op.l1 3 13 14 2 (vI l.ai) (u.ah 0 rfl) ?_
 refine Op.px 3 [(17,.bool (decide (l.ai<0)))] ?_
 refine Op.wd (l.ai<0) 17 (fun bk=>?_) fun bm=>?_
 ·refine Op.pg 2 [(32,.bool true)] ?_
  refine At.bW 32 3 ?_
  exact At.gr 4 1 4 (.bool false) (hR u.drop ⟨(aS (by exact(Ac (by omega)).symm)),rfl,rfl⟩)
 refine Op.px 1 [(18,vQ D 4)] ?_
 refine Op.l1 3 18 19 4 (vI l.Next) (u.ah 0 rfl) ?_
 refine Op.px 3 [(22,.bool (decide (l.Next<0)))] ?_
 refine Op.wd (l.Next<0) 22 (fun bo=>?_) fun bt=>?_
 ·refine Op.pg 2 [(32,.bool true)] ?_
  refine At.bW 32 3 ?_
  exact At.gr 4 1 4 (.bool false) (hR u.drop ⟨(aS (by exact(Ac (by omega)).symm)),rfl,rfl⟩)
 refine Op.px 1 [(23,vQ D 5)] ?_
 refine Op.l1 3 23 24 5 (vI l.aL) (u.ah 0 rfl) ?_
 refine Op.px 3 [(27,.bool (decide (l.aL<0)))] ?_
 refine Op.wd (l.aL<0) 27 (fun b3=>?_) fun b4=>?_
 ·refine Op.pg 2 [(32,.bool true)] ?_
  refine At.bW 32 3 ?_
  exact At.gr 4 1 4 (.bool false) (hR u.drop ⟨(aS (by exact(Ac (by omega)).symm)),rfl,rfl⟩)
 refine Op.px 1 [(28,vQ D 1)] ?_
 refine Op.l1 22 28 29 1 (vL Y l.Data.length ab) (u.ah 0 rfl) ?_
 refine Op.pg 2 [(32,.bool (decide ((l.Data.length:Int)>128)))] ?_
 refine At.fd ((l.Data.length:Int)>128) 32 3 5 (fun b5=>?_) fun b6=>?_
 ·exact At.gr 4 1 4 (.bool false) (hR u.drop ⟨(aS (by exact(Ac (by omega)).symm)),rfl,rfl⟩)
 refine At.rp 3 1 [(33,.map (some G))] ?_
 obtain⟨b8,ca,cb,a5,a6,a7,ce,cf,ch⟩:=kZ.me V
 refine Op.DL (d:=.string) (mt:=195) (x:=33) (dst:=34) (m:=G) (z:=.pointer none) (by kernel_rfl) (by kernel_rfl) (by kernel_rfl) rfl (u.sub _ _ a5) a6 a7 ?_
 refine Op.pg 6 [(35,.bool ((x.length:Int)==0))] ?_
 refine At.fd ((x.length:Int)=0) 35 7 9 (fun ci=>?_) fun ck=>?_
 ·refine At.rp 14 1 [(36,vP D)] ?_
  refine Op.l1 9 36 37 0 (vS l.af) (u.ah 0 rfl) ?_
  refine Op.vl 38 (.bool ((bp l.af).toList==(bp ([47])).toList)) (.bool (l.af==([47]))) (by rw[toList_mkS,toList_mkS]) ?_
  refine Op.px 1 [(39,.bool (l.af==([47])))] ?_
  refine Op.wb (l.af==([47])) 39 (fun ad=>?_) fun ae=>?_
  ·replace ad:=eq_of_beq ad
   refine Op.px 1 [(40,vQ D 3)] ?_
   refine Op.l1 3 40 41 3 (vI l.aD) (u.ah 0 rfl) ?_
   refine Op.px 3 [(44,.bool (l.aD==((-1):Int)))] ?_
   refine Op.wd (l.aD=((-1):Int)) 44 (fun co=>?_) fun c3=>?_
   ·refine Op.px 1 [(45,vQ D 5)] ?_
    refine Op.l1 3 45 46 5 (vI l.aL) (u.ah 0 rfl) ?_
    exact Op.pr 8 4 (.bool (l.aL==0)) (hR u.drop ⟨(aS (by(rw[D6 (by omega) (by omega) (by omega) (by omega) (by omega) ‹_›];simp[*]<;>first|exact J _ _|rfl))),rfl,rfl⟩)
   exact Op.pr 8 4 (.bool false) (hR u.drop ⟨(aS (by(rw[D6 (by omega) (by omega) (by omega) (by omega) (by omega) ‹_›];simp[*]<;>first|exact J _ _|rfl))),rfl,rfl⟩)
  replace ae:=n4 ae
  exact Op.pr 8 4 (.bool false) (hR u.drop ⟨(aS (by(rw[D6 (by omega) (by omega) (by omega) (by omega) (by omega) ‹_›];simp[*]<;>first|exact J _ _|rfl))),rfl,rfl⟩)
 refine At.rp 8 1 [(50,vP D)] ?_
 refine Op.l1 9 50 51 0 (vS l.af) (u.ah 0 rfl) ?_
 refine Op.c1 52 (Ag _ _ _ u.sub a0 l.af (by(try dsimp only)<;>omega)) u fun c4 I=>?_
 refine Op.pg 10 [(5,vS (parentOf l.af)),(6,vI (cz l.af))] ?_
 refine At.rp 8 2 [(56,.map (some G)),(57,vS (parentOf l.af))] ?_
 obtain⟨c5,c6,c8,am,ar,c9,da,db,a8⟩:=kZ.me V
 rcases a8 (parentOf l.af) with ⟨a9,O⟩|⟨U,aw,dc,a9,O,bc,bd,dd⟩
 ·refine Op.uH (ok:=true) (d:=.string) (mt:=195) (x:=56) (ix:=57) (dst:=58) (k:=(parentOf l.af)) (m:=G) (z:=.pointer none) (by kernel_rfl) (by kernel_rfl) l_ (by kernel_rfl) (by kernel_rfl) (I.sub _ _ am) ar O ?_
  refine Op.pg 11 [(7,.pointer none),(8,.bool false)] ?_
  refine At.rp 13 3 [(63,.bool ((cz l.af)==0))] ?_
  refine Op.wd ((cz l.af)=0) 63 (fun df=>?_) fun dg=>?_
  ·exact Op.pr 12 4 (.bool false) (hR I.drop ⟨(aS (by(rw[BR (by omega) (by omega) (by omega) (by omega) (by omega) ‹_›];simp[*]<;>first|exact J _ _|rfl))),rfl,rfl⟩)
  exact Op.pr 12 4 (.bool false) (hR I.drop ⟨(aS (by(rw[BR (by omega) (by omega) (by omega) (by omega) (by omega) ‹_›];simp[*]<;>first|exact J _ _|rfl))),rfl,rfl⟩)
 obtain⟨dj,dk,rfl⟩:=bd.aj
 refine Op.qM (ok:=true) (d:=.string) (mt:=195) (x:=56) (ix:=57) (dst:=58) (k:=(parentOf l.af)) (m:=G) (v:=vP U) (z:=.pointer none) (by kernel_rfl) (by kernel_rfl) l_ (by kernel_rfl) (by kernel_rfl) (I.sub _ _ am) ar O ?_
 refine Op.pg 11 [(7,vP U),(8,.bool true)] ?_
 refine At.rp 13 3 [(63,.bool ((cz l.af)==0))] ?_
 refine Op.wd ((cz l.af)=0) 63 (fun dl=>?_) fun dp=>?_
 ·refine Op.px 6 [(66,.bool true),(69,vQ U 3)] ?_
  refine Op.l1 3 69 70 3 (vI aw.aD) (I.sub _ _ bc) ?_
  exact Op.pr 12 4 (.bool (aw.aD==((-1):Int))) (hR I.drop ⟨(aS (by(rw[BR (by omega) (by omega) (by omega) (by omega) (by omega) ‹_›];simp[*]<;>first|exact J _ _|rfl))),rfl,rfl⟩)
 exact Op.pr 12 4 (.bool false) (hR I.drop ⟨(aS (by(rw[BR (by omega) (by omega) (by omega) (by omega) (by omega) ‹_›];simp[*]<;>first|exact J _ _|rfl))),rfl,rfl⟩)
def fI (g:GH) (b:Nat) (x:List ag) (c:ay):Prop:=∃b0 c0,c=(b,.cells #[.map (some b0)] 197 (0,0))::c0∧hU g b0 x c0
theorem fI.mono {g g':GH} {b:Nat} {x:List ag} {c:ay} (h:fI g b x c) (hg:aM g g'):fI g' b x c:=by
 obtain⟨b0,c0,e,h0⟩:=h
 exact⟨b0,c0,e,h0.mono hg⟩
theorem fI.eq {g:GH} {b:Nat} {x y:List ag} {c:ay} (h:fI g b x c) (e:x=y):fI g b y c:=e▸h
theorem fI.bu {g g':GH} {b:Nat} {x:List ag} {c:ay} (h:fI g b x c):fI g' b x c:=by
 obtain⟨b0,c0,e,h0⟩:=h
 exact⟨b0,c0,e,h0.bu⟩
theorem fI.sort {g:GH} {b:Nat} {ns:List ag} {c:ay} (H:fI g b ns c):fU ns:=by
 obtain⟨b0,c0,rfl,es,bf,ms,_,h1,_⟩:=H
 exact h1.2.2.1
theorem fI.fY {h0:ax} {g0:GH} {S0:Nat→Prop} {g:GH} {L:List ay} {h:ax} {C c:ay} {b:Nat} {ns:List ag} (H:fI g b ns c) (s:St h0 g0 S0 g (C::L) h) (hc:∀p∈c,p∈C):kj (dy g C) b ns:=by
 obtain⟨b0,c0,rfl,h1⟩:=H
 exact⟨b0,oK s.p9 (hc _ (.head _)),h1.fY s fun p hp=>hc p (.tail _ hp)⟩
theorem Qn (B:World) (h:ax) (g:GH) (hg:bl g h) (bt:bq g):
  aE prog B 71 #[] h g [] (fun X g' L'=>∃b0 O,X=vP b0∧fI g' b0 ([⟨[47],[],0, -1,0,0⟩]) O∧g'=g∧L'=[O]):=by
 refine aE.aq func71 fun R hR=>?_
 have Y:=St.init hg
 refine At.go 1 1 [] ?_
 refine At.rg 8 ?_
 refine Op.makeMap (mt:=195) (dst:=1) (by kernel_rfl) Y fun u ab ad=>?_
 have ae:St h g (aV []) g [[(u,.map #[] 0)],[]] ab:=St.bu (L:=[[(u,.map #[] 0)]]) rfl ad
 have am:cZ encS #[] 0 ([]:List (aQ×Value)):=cZ.empty _ _
 have ar:=h_.nil
 refine Op.px 1 [(2,.agg #[vS ([47]),vN,vI 0,vI (-1),vI 0,vI 0])] ?_
 refine Op.bx 3 39 2 #[vS ([47]),vN,vI 0,vI (-1),vI 0,vI 0] ae fun D b3 aw=>?_
 have a0:=aJ.zero 5 br g none
 have a1:=aw.nl
 refine Op.oM (d:=.string) (z:=.pointer none) (mt:=195) (x:=1) (ix:=(.const (vS ([47])))) (y:=3) (k:=([47])) (v:=vP D) (.inr (by kernel_rfl)) (by kernel_rfl) l_ (by kernel_rfl) (by kernel_rfl) (by kernel_rfl) a1 2 rfl am (fun _=>trivial) fun I J U a3 a4=>?_
 have a5:h_ (iZ [] ([47]) (vP D)) ((D,.cells #[vS ([47]),vN,vI 0,vI (-1),vI 0,vI 0] 39 (0,0))::[]++[]:ay) (eO ([]:List ag) (⟨[47],([]:an),0,(-1),0,0⟩:ag)):=ar.B5 (g:=g) (l:=(⟨[47],([]:an),0,(-1),0,0⟩:ag)) (by rfl) a0 (by first|omega|decide)
 have a6:=((a4.aa 0 rfl).aa 1 rfl).aa 2 rfl
 have a7:St h g (aV []) g [[(u,.map I J)],[(D,Obj.cells #[vS ([47]),vN,vI 0,vI (-1),vI 0,vI 0] 39 (0,0))],[],[]] U:=a6
 have a8:St h g (aV []) g [[(u,.map I J)],((D,.cells #[vS ([47]),vN,vI 0,vI (-1),vI 0,vI 0] 39 (0,0))::[]++[]:ay)] U:=St.bu (L:=[[(u,.map I J)],[(D,Obj.cells #[vS ([47]),vN,vI 0,vI (-1),vI 0,vI 0] 39 (0,0))],[],[]]) (by simp only[cH,List.flatten_nil,dm,dW,eN,dX]) a7
 refine Op.px 2 [(5,.agg #[.map (some u)])] ?_
 refine Op.bx 6 197 5 #[.map (some u)] a8 fun G V a9=>?_
 refine Op.pg 2 [(0,vP G)] ?_
 have bc:=((a9.aa 0 rfl).aa 2 rfl).aa 2 rfl
 have bd:St h g (aV []) g [[(u,.map I J)],((D,.cells #[vS ([47]),vN,vI 0,vI (-1),vI 0,vI 0] 39 (0,0))::[]++[]:ay),[(G,Obj.cells #[.map (some u)] 197 (0,0))]] V:=bc
 obtain⟨b4,be,bi⟩:∃c,hU g u (eO ([]:List ag) (⟨[47],([]:an),0,(-1),0,0⟩:ag)) c∧St h g (aV []) g (c::[[(G,Obj.cells #[.map (some u)] 197 (0,0))]]) V:=⟨_,a5.close a3 (gO _),St.bu (L:=[(u,.map I J)]::((D,.cells #[vS ([47]),vN,vI 0,vI (-1),vI 0,vI 0] 39 (0,0))::[]++[]:ay)::[[(G,Obj.cells #[.map (some u)] 197 (0,0))]]) (by simp only[cH,dm,dW,eN,dX]) bd⟩
 have bj:=(bi.aa 0 rfl).aa 1 rfl
 obtain⟨bk,bm,bo⟩:=St.bJ (Q:=fI g G (eO ([]:List ag) (⟨[47],([]:an),0,(-1),0,0⟩:ag))) 2 bj ⟨_,_,rfl,be⟩
 exact At.rt (vP G) (hR bo ⟨G,bk,rfl,bm.eq (by rfl),rfl,rfl⟩)
theorem Qo (B:World) (h:ax) (g:GH) (hg:bl g h) (a5:bq g) (G:Nat) (t:List ag) (I:ay) (ae:fI g G t I) (p:an) (a6:Value) (data:an) (a7:av g 5 br a6 data) (bO:Int) (hB:gj t) (hp:p.length≤1000000000) (hd:data.length≤1000000000) (hs:St h g (aV [I]) g [I] h):
  aE prog B 175 #[vP G,vS p,a6,vI bO] h g [I] (fun bo g' L'=>∃a8,bo=.tuple #[.int .i64 ((fe t p data bO).2.1),.int .i64 ((fe t p data bO).2.2)]∧fI g' G ((fe t p data bO).1) a8∧g'=g∧L'=[a8]):=by
 obtain⟨bt,b3,rfl⟩:=a7.aj
 refine aE.aq func175 fun R hR=>?_
 refine At.go 1 2 [] ?_
 refine At.rp 9 3 [(13,vP G),(14,vS p),(15,vI bO)] ?_
 have b4:=hs.gz
 have b5:=fI.fY ae hs (by intro p hp;simp only[dP,hp,iF,iG])
 refine Op.le (some 16) 0 hs (Ib _ _ _ hs.iO (a5.mono b4) G t b5 p bO (by(try dsimp only)<;>omega)) (fun _ _ _ hp=>by obtain⟨am,_,_⟩:=hp;exact am) ?_ (hM:=(fun _ _ h=>absurd h (dB _)))
 rintro d3 _ d4 ar ⟨am,rfl,b6⟩;clear am
 rcases b6 with ⟨rfl,a9⟩|⟨J,u,v31,d5,rfl,d6,bc,b8,d7,d8,ca⟩
 ·have cb:((fM t p bO) != 0)=true:=xL.2 a9
  have d9:((fM t p bO)==0)=false:=s7.2 a9
  refine Op.pg 2 [(10,.pointer none),(11,vI (fM t p bO))] ?_
  refine At.go 3 3 [(19,.bool ((fM t p bO) != 0))] ?_
  refine At.di ((fM t p bO) != 0) 19 4 6 (fun bd=>?_) fun hb=>?_
  ·replace bd:=gY bd
   refine At.go 5 3 [(8,vI 0),(9,vI (fM t p bO))] ?_
   exact At.rt (.tuple #[vI 0,vI (fM t p bO)]) (hR ar ⟨I,b7 (bB (by(rw[D7 ‹_›];done))) (bB (by(rw[D7 ‹_›];done))),ae.eq (by(rw[D7 ‹_›];done)),rfl,rfl⟩)
  exact Bool.noConfusion (cb.symm.trans hb)
 refine Op.pg 2 [(10,vP J),(11,vI 0)] ?_
 refine At.go 3 3 [(19,.bool false)] ?_
 refine At.dK 19 6 ?_
 refine At.go 7 4 [(23,.bool (decide ((data.length:Int)>128)))] ?_
 refine At.fd ((data.length:Int)>128) 23 8 10 (fun ed=>?_) fun ee=>?_
 ·refine At.go 5 2 [(8,vI 0),(9,vI 104)] ?_
  exact At.rt (.tuple #[vI 0,vI 104]) (hR ar ⟨I,b7 (bB (by(rw[D9 ‹_› ‹_› ‹_›];done))) (bB (by(rw[D9 ‹_› ‹_› ‹_›];done))),ae.eq (by(rw[D9 ‹_› ‹_› ‹_›];done)),rfl,rfl⟩)
 refine At.rp 6 2 [(27,vP J),(28,vL bt data.length b3)] ?_
 refine Op.c0 (some 29) (om _ _ _ ar.sub a5 _ _ a7 (by(try dsimp only)<;>omega)) ar ?_
 rintro _ ce _ aw cf ch ⟨v46,O,rfl,be,am,rfl⟩;subst ce;clear cf
 obtain⟨X,Y,rfl⟩:=be.aj
 refine Op.px 2 [(31,vQ J 1)] ?_
 obtain⟨D,a1,a3,ci⟩:=ae
 have ck:=(ch.aa 0 rfl).aa 1 rfl
 have co:=St.un [a1] a3 ck
 have c3:=(co.aa 0 rfl).aa 1 rfl
 obtain⟨U,V,c4,a4,bi,bj,c5⟩:=hU.me ci
 have c6:St h g (aV [I]) g [a1,[(G,Obj.cells #[.map (some D)] 197 (0,0))],O] aw:=c3
 have c8:St h g (aV [I]) g ([(D,.map U V)]::a4::[[(G,Obj.cells #[.map (some D)] 197 (0,0))],O]) aw:=St.qN (L:=a1::[[(G,Obj.cells #[.map (some D)] 197 (0,0))],O]) (bi.append_right _) c6
 obtain⟨ef,ab,ad,c9,da,db⟩:=c5.bF (g:=g) (l:=u) (b:=J) bj (by rw[(ki bc).2];exact bc) (I1 (es:=U) (bf:=V) (C:=(I:ay)) (b0:=D) hs (by simp[a3]) (by simp[a3,bi.mem_iff]) b8 ca)
 obtain⟨a76,dc,rfl⟩:=da.aj
 have dd:=(c8.aa 0 rfl).aa 1 rfl
 have df:St h g (aV [I]) g [a4,[(D,.map U V)],[(G,Obj.cells #[.map (some D)] 197 (0,0))],O] aw:=dd
 have dg:St h g (aV [I]) g [[(J,Obj.cells #[vS u.af,vL a76 u.Data.length dc,vI u.ai,vI u.aD,vI u.Next,vI u.aL] 39 (0,0))],ab,ad,[(D,.map U V)],[(G,Obj.cells #[.map (some D)] 197 (0,0))],O] aw:=St.qN (L:=a4::[[(D,.map U V)],[(G,Obj.cells #[.map (some D)] 197 (0,0))],O]) (by have hq:=c9.append_right (List.flatten [[(D,.map U V)],[(G,Obj.cells #[.map (some D)] 197 (0,0))],O]);simpa only[cH,List.flatten_nil,dm,dW,eN,dX] using hq) df
 refine Op.s1 22 31 29 1 (vL X (data.length) Y) 0 #[vS u.af,vL X (data.length) Y,vI u.ai,vI u.aD,vI u.Next,vI u.aL] dg (fun _=>trivial) fun eh bk=>?_
 refine Op.gt 11 ?_
 refine At.rp 8 3 [(32,vP J),(34,vQ J 2)] ?_
 refine Op.l1 3 34 35 2 (vI u.ai) (bk.ah 0 rfl) ?_
 refine Op.vl 36 (.int .i64 (IntKind.wrap .i64 (u.ai+1))) (.int .i64 (IntKind.wrap .i64 (u.ai+1))) rfl ?_
 refine Op.px 2 [(38,vQ J 2)] ?_
 refine Op.s1 3 38 36 2 (vI (IntKind.wrap .i64 (u.ai+1))) 0 #[vS u.af,vL X (data.length) Y,vI (IntKind.wrap .i64 (u.ai+1)),vI u.aD,vI u.Next,vI u.aL] bk (fun _=>trivial) fun a0 bm=>?_
 refine Op.gt 12 ?_
 refine At.rp 6 3 [(41,vQ J 2)] ?_
 refine Op.l1 3 41 42 2 (vI (IntKind.wrap .i64 (u.ai+1))) (bm.ah 0 rfl) ?_
 refine Op.pg 13 [(8,vI (IntKind.wrap .i64 (u.ai+1))),(9,vI 0)] ?_
 have dj:h_ c4 ((J,.cells #[vS u.af,vL X (data.length) Y,vI (IntKind.wrap .i64 (u.ai+1)),vI u.aD,vI u.Next,vI u.aL] 39 (0,0))::O++ad:ay) (eO t (⟨u.af,data,IntKind.wrap .i64 (u.ai+1),u.aD,u.Next,u.aL⟩:ag)):=db (⟨u.af,data,IntKind.wrap .i64 (u.ai+1),u.aD,u.Next,u.aL⟩:ag) _ _ rfl be
 have dk:=(((((bm.aa 4 rfl).aa 4 rfl).aa 3 rfl).aa 4 rfl).aa 5 rfl).aa 5 rfl
 have dl:St h g (aV [I]) g [[(J,Obj.cells #[vS u.af,vL X (data.length) Y,vI (IntKind.wrap .i64 (u.ai+1)),vI u.aD,vI u.Next,vI u.aL] 39 (0,0))],O,ad,ab,[(D,.map U V)],[(G,Obj.cells #[.map (some D)] 197 (0,0))]] a0:=dk
 have dp:St h g (aV [I]) g [((J,.cells #[vS u.af,vL X (data.length) Y,vI (IntKind.wrap .i64 (u.ai+1)),vI u.aD,vI u.Next,vI u.aL] 39 (0,0))::O++ad:ay),ab,[(D,.map U V)],[(G,Obj.cells #[.map (some D)] 197 (0,0))]] a0:=St.bu (L:=[[(J,Obj.cells #[vS u.af,vL X (data.length) Y,vI (IntKind.wrap .i64 (u.ai+1)),vI u.aD,vI u.Next,vI u.aL] 39 (0,0))],O,ad,ab,[(D,.map U V)],[(G,Obj.cells #[.map (some D)] 197 (0,0))]]) (by simp only[cH,List.flatten_nil,dm,dW,eN,dX]) dl
 have dq:=((dp.aa 1 rfl).aa 1 rfl).aa 2 rfl
 have du:St h g (aV [I]) g [[(D,.map U V)],((J,.cells #[vS u.af,vL X (data.length) Y,vI (IntKind.wrap .i64 (u.ai+1)),vI u.aD,vI u.Next,vI u.aL] 39 (0,0))::O++ad:ay),ab,[(G,Obj.cells #[.map (some D)] 197 (0,0))]] a0:=dq
 obtain⟨ej,dv,dC⟩:∃c,hU g D (eO t (⟨u.af,data,IntKind.wrap .i64 (u.ai+1),u.aD,u.Next,u.aL⟩:ag)) c∧St h g (aV [I]) g (c::[ab,[(G,Obj.cells #[.map (some D)] 197 (0,0))]]) a0:=⟨_,dj.close bj (gO _),St.bu (L:=[(D,.map U V)]::((J,.cells #[vS u.af,vL X (data.length) Y,vI (IntKind.wrap .i64 (u.ai+1)),vI u.aD,vI u.Next,vI u.aL] 39 (0,0))::O++ad:ay)::[ab,[(G,Obj.cells #[.map (some D)] 197 (0,0))]]) (by simp only[cH,dm,dW,eN,dX]) du⟩
 have dE:=((dC.aa 1 rfl).aa 1 rfl).aa 2 rfl
 obtain⟨dT,d0,d1⟩:=St.bJ (Q:=fI g G (eO t (⟨u.af,data,IntKind.wrap .i64 (u.ai+1),u.aD,u.Next,u.aL⟩:ag))) 2 dE ⟨_,_,rfl,dv⟩
 refine At.rt (.tuple #[vI (IntKind.wrap .i64 (u.ai+1)),vI 0]) ?_
 have d2:=(d1.aa 0 rfl).aa 1 rfl
 exact hR d2.drop ⟨dT,b7 (bB (by(rw[D_ ‹_› ‹_› ‹_›];done))) (bB (by(rw[D_ ‹_› ‹_› ‹_›];done))),d0.eq (by(rw[D_ ‹_› ‹_› ‹_›];done)),rfl,rfl⟩
theorem Qp {ns:List ag} {p q:aQ} {up:ag} (hf:cc ns p=some up) (hq:cc ns q=none) (v:Int):cc (eO ns ⟨up.af,up.Data,up.ai,up.aD,v,up.aL⟩) q=none:=N8 (up:=up) hf hq rfl
theorem JM (B:World) (h:ax) (g:GH) (hg:bl g h) (b3:bq g) (G:Nat) (t:List ag) (I:ay) (bj:fI g G t I) (p:an) (dg:Value) (data:an) (b4:av g 5 br dg data) (cI:Int) (born:Int) (num:Bool) (hP:lZ g) (hB:gj t) (hp:p.length≤100000000) (hd:data.length≤1000000000) (hs:St h g (aV [I]) g [I] h):
  aE prog B 174 #[vP G,vS p,dg,vI cI,vI born,.bool num] h g [I] (fun d0 g' L'=>∃dj,d0=.tuple #[.string (bp ((cm t p data cI born num).2.1)),.int .i64 ((cm t p data cI born num).2.2)]∧fI g' G ((cm t p data cI born num).1) dj∧g'=g∧L'=[dj]):=by
 obtain⟨ch,ci,rfl⟩:=b4.aj
 have d1:=bj.sort
 refine aE.aq func174 fun R hR=>?_
 refine At.go 1 2 [] ?_
 refine At.rp 9 3 [(19,vP G),(20,vS p),(21,vL ch data.length ci)] ?_
 have dk:=hs.gz
 have d2:=fI.fY bj hs (by intro p hp;simp only[dP,hp,iF,iG])
 refine Op.le (some 22) 0 hs (OF _ _ _ hs.iO (b3.mono dk) G t d2 p _ _ (b4.mono dk) (by(try dsimp only)<;>omega)) (fun _ _ _ hp=>by obtain⟨bk,_,_⟩:=hp;exact bk) ?_ (hM:=(fun _ _ h=>absurd h (dB _)))
 rintro hS _ a3 ck ⟨bk,rfl,d3⟩;clear bk
 rcases d3 with ⟨rfl,dl⟩|⟨J,u,v31,hT,rfl,hV,a4,d4,hW,hX,d5⟩
 ·have d6:((gC t p data) != 0)=true:=xL.2 dl
  have hY:((gC t p data)==0)=false:=s7.2 dl
  refine Op.pg 2 [(14,.pointer none),(15,vI (gC t p data))] ?_
  refine At.go 3 2 [(26,.bool ((gC t p data) != 0))] ?_
  refine At.di ((gC t p data) != 0) 26 4 6 (fun dp=>?_) fun hb=>?_
  ·replace dp:=gY dp
   refine At.go 5 3 [(12,vS []),(13,vI (gC t p data))] ?_
   exact At.rt (.tuple #[vS [],vI (gC t p data)]) (hR ck ⟨I,b7 (jY (by(rw[Ea ‹_›];done))) (bB (by(rw[Ea ‹_›];done))),bj.eq (by(rw[Ea ‹_›];done)),rfl,rfl⟩)
  exact Bool.noConfusion (d6.symm.trans hb)
 refine Op.pg 2 [(14,vP J),(15,vI 0)] ?_
 refine At.go 3 2 [(26,.bool false)] ?_
 refine At.dK 26 6 ?_
 refine At.go 7 1 [(28,.bool num)] ?_
 refine At.di num 28 8 13 (fun d7=>?_) fun d8=>?_
 ·refine At.rp 11 4 [(30,vS p),(33,vQ J 4)] ?_
  obtain⟨D,co,c3,d9⟩:=bj
  have ed:=St.un [co] c3 ck
  have ee:=(ed.aa 0 rfl).aa 1 rfl
  obtain⟨ab,ad,bd,c4,dq,a5,be⟩:=hU.me d9
  have ef:St h g (aV [I]) g [co,[(G,Obj.cells #[.map (some D)] 197 (0,0))]] a3:=ee
  have eh:St h g (aV [I]) g ([(D,.map ab ad)]::c4::[[(G,Obj.cells #[.map (some D)] 197 (0,0))]]) a3:=St.qN (L:=co::[[(G,Obj.cells #[.map (some D)] 197 (0,0))]]) (dq.append_right _) ef
  obtain⟨hZ,X,Y,ej,bm,b5⟩:=be.bF (g:=g) (l:=u) (b:=J) a5 (by rw[(ki a4).2];exact a4) (I1 (es:=ab) (bf:=ad) (C:=(I:ay)) (b0:=D) hs (by simp[c3]) (by simp[c3,dq.mem_iff]) d4 d5)
  obtain⟨U,V,rfl⟩:=bm.aj
  have em:=(eh.aa 0 rfl).aa 1 rfl
  have en:St h g (aV [I]) g [c4,[(D,.map ab ad)],[(G,Obj.cells #[.map (some D)] 197 (0,0))]] a3:=em
  have c5:St h g (aV [I]) g [[(J,Obj.cells #[vS u.af,vL U u.Data.length V,vI u.ai,vI u.aD,vI u.Next,vI u.aL] 39 (0,0))],X,Y,[(D,.map ab ad)],[(G,Obj.cells #[.map (some D)] 197 (0,0))]] a3:=St.qN (L:=c4::[[(D,.map ab ad)],[(G,Obj.cells #[.map (some D)] 197 (0,0))]]) (by have hq:=ej.append_right (List.flatten [[(D,.map ab ad)],[(G,Obj.cells #[.map (some D)] 197 (0,0))]]);simpa only[cH,List.flatten_nil,dm,dW,eN,dX] using hq) en
  refine Op.l1 3 33 34 4 (vI u.Next) (c5.ah 0 rfl) ?_
  refine Op.c1 35 (Ox _ _ _ c5.sub b3 p u.Next hP (by((try dsimp only)<;>((have:=gj.next hB ‹_›;omega)))) (by((try dsimp only)<;>((have:=gj.next hB ‹_›;omega)))) (by((try dsimp only)<;>((have:=gj.next hB ‹_›;omega))))) c5 fun a0 ae=>?_
  refine Op.pg 9 [(1,vS (fy p u.Next)),(15,vI (lN p u.Next))] ?_
  refine At.go 10 2 [(39,.bool ((lN p u.Next) != 0))] ?_
  refine At.fn ((lN p u.Next)=0) 39 11 13 (fun h1=>?_) fun h2=>?_
  ·refine At.go 12 3 [(12,vS []),(13,vI (lN p u.Next))] ?_
   have ep:h_ bd ((J,.cells #[vS u.af,vL U u.Data.length V,vI u.ai,vI u.aD,vI u.Next,vI u.aL] 39 (0,0))::X++Y:ay) t:=by have hq:=b5 u _ _ rfl bm;rwa[BL be.sort (by rw[(ki a4).2];exact a4)] at hq
   have er:St h g (aV [I]) g [((J,.cells #[vS u.af,vL U u.Data.length V,vI u.ai,vI u.aD,vI u.Next,vI u.aL] 39 (0,0))::X++Y:ay),[(D,.map ab ad)],[(G,Obj.cells #[.map (some D)] 197 (0,0))]] a0:=St.bu (L:=[[(J,Obj.cells #[vS u.af,vL U u.Data.length V,vI u.ai,vI u.aD,vI u.Next,vI u.aL] 39 (0,0))],X,Y,[(D,.map ab ad)],[(G,Obj.cells #[.map (some D)] 197 (0,0))]]) (by simp only[cH,List.flatten_nil,dm,dW,eN,dX]) ae
   have et:=(er.aa 0 rfl).aa 1 rfl
   have ex:St h g (aV [I]) g [[(D,.map ab ad)],((J,.cells #[vS u.af,vL U u.Data.length V,vI u.ai,vI u.aD,vI u.Next,vI u.aL] 39 (0,0))::X++Y:ay),[(G,Obj.cells #[.map (some D)] 197 (0,0))]] a0:=et
   obtain⟨h3,eA,eB⟩:∃c,hU g D t c∧St h g (aV [I]) g (c::[[(G,Obj.cells #[.map (some D)] 197 (0,0))]]) a0:=⟨_,ep.close a5 (gO _),St.bu (L:=[(D,.map ab ad)]::((J,.cells #[vS u.af,vL U u.Data.length V,vI u.ai,vI u.aD,vI u.Next,vI u.aL] 39 (0,0))::X++Y:ay)::[[(G,Obj.cells #[.map (some D)] 197 (0,0))]]) (by simp only[cH,dm,dW,eN,dX]) ex⟩
   have eE:=(eB.aa 0 rfl).aa 1 rfl
   obtain⟨eI,eJ,eK⟩:=St.bJ (Q:=fI g G t) 2 eE ⟨_,_,rfl,eA⟩
   exact At.rt (.tuple #[vS [],vI (lN p u.Next)]) (hR eK ⟨eI,b7 (jY (by(rw[Eb ‹_› ‹_› ‹_› ‹_›];done))) (bB (by(rw[Eb ‹_› ‹_› ‹_› ‹_›];done))),eJ.eq (by(rw[Eb ‹_› ‹_› ‹_› ‹_›];done)),rfl,rfl⟩)
  refine At.rp 11 3 [(44,vP G)] ?_
  refine Op.l1 195 44 45 0 (.map (some D)) (ae.ah 4 rfl) ?_
  refine Op.px 1 [(46,vS (fy p u.Next))] ?_
  obtain⟨eL,c6⟩:∃o,fZ bd (fy p u.Next)=o:=⟨_,rfl⟩
  have b6:=be.iB (fy p u.Next)
  rw[c6] at b6
  rcases eL with _|h4
  ·have h5:cc t (fy p u.Next)=none:=by cases hq:cc t (fy p u.Next) with|none=>rfl|some _=>(rw[hq] at b6;cases b6)
   refine Op.uH (ok:=true) (d:=.string) (mt:=195) (x:=45) (ix:=46) (dst:=47) (k:=(fy p u.Next)) (m:=D) (z:=.pointer none) (by kernel_rfl) (by kernel_rfl) l_ (by kernel_rfl) (by kernel_rfl) (ae.ah 3 rfl) a5 c6 ?_
   refine Op.pg 14 [(17,.bool false)] ?_
   refine At.go 15 1 [(50,.bool false)] ?_
   refine At.dK 50 18 ?_
   refine At.rp 6 3 [(53,vP G)] ?_
   refine Op.l1 195 53 54 0 (.map (some D)) (ae.ah 4 rfl) ?_
   refine Op.DL (d:=.string) (mt:=195) (x:=54) (dst:=55) (m:=D) (z:=.pointer none) (by kernel_rfl) (by kernel_rfl) (by kernel_rfl) rfl (ae.ah 3 rfl) a5 be.len ?_
   refine Op.pg 19 [(56,.bool (decide ((t.length:Int)≥32)))] ?_
   refine At.fd ((t.length:Int)≥32) 56 20 22 (fun h6=>?_) fun h7=>?_
   ·refine At.go 21 2 [(12,vS []),(13,vI 104)] ?_
    have eQ:h_ bd ((J,.cells #[vS u.af,vL U u.Data.length V,vI u.ai,vI u.aD,vI u.Next,vI u.aL] 39 (0,0))::X++Y:ay) t:=by have hq:=b5 u _ _ rfl bm;rwa[BL be.sort (by rw[(ki a4).2];exact a4)] at hq
    have e1:St h g (aV [I]) g [((J,.cells #[vS u.af,vL U u.Data.length V,vI u.ai,vI u.aD,vI u.Next,vI u.aL] 39 (0,0))::X++Y:ay),[(D,.map ab ad)],[(G,Obj.cells #[.map (some D)] 197 (0,0))]] a0:=St.bu (L:=[[(J,Obj.cells #[vS u.af,vL U u.Data.length V,vI u.ai,vI u.aD,vI u.Next,vI u.aL] 39 (0,0))],X,Y,[(D,.map ab ad)],[(G,Obj.cells #[.map (some D)] 197 (0,0))]]) (by simp only[cH,List.flatten_nil,dm,dW,eN,dX]) ae
    have e2:=(e1.aa 0 rfl).aa 1 rfl
    have e3:St h g (aV [I]) g [[(D,.map ab ad)],((J,.cells #[vS u.af,vL U u.Data.length V,vI u.ai,vI u.aD,vI u.Next,vI u.aL] 39 (0,0))::X++Y:ay),[(G,Obj.cells #[.map (some D)] 197 (0,0))]] a0:=e2
    obtain⟨h8,e4,e5⟩:∃c,hU g D t c∧St h g (aV [I]) g (c::[[(G,Obj.cells #[.map (some D)] 197 (0,0))]]) a0:=⟨_,eQ.close a5 (gO _),St.bu (L:=[(D,.map ab ad)]::((J,.cells #[vS u.af,vL U u.Data.length V,vI u.ai,vI u.aD,vI u.Next,vI u.aL] 39 (0,0))::X++Y:ay)::[[(G,Obj.cells #[.map (some D)] 197 (0,0))]]) (by simp only[cH,dm,dW,eN,dX]) e3⟩
    have e6:=(e5.aa 0 rfl).aa 1 rfl
    obtain⟨e7,e8,e9⟩:=St.bJ (Q:=fI g G t) 2 e6 ⟨_,_,rfl,e4⟩
    exact At.rt (.tuple #[vS [],vI 104]) (hR e9 ⟨e7,b7 (jY (by(rw[xW ‹_› ‹_› (by simp[gL, *]) (by simp[fR, *]<;>rfl) ‹_› ‹_›];done))) (bB (by(rw[xW ‹_› ‹_› (by simp[gL, *]) (by simp[fR, *]<;>rfl) ‹_› ‹_›];done))),e8.eq (by(rw[xW ‹_› ‹_› (by simp[gL, *]) (by simp[fR, *]<;>rfl) ‹_› ‹_›];done)),rfl,rfl⟩)
   refine At.go 23 1 [(57,.bool num)] ?_
   refine At.di num 57 24 25 (fun h9=>?_) fun hb=>?_
   ·refine At.rp 8 3 [(58,vP J),(60,vQ J 4)] ?_
    refine Op.l1 3 60 61 4 (vI u.Next) (ae.ah 0 rfl) ?_
    refine Op.vl 62 (.int .i64 (IntKind.wrap .i64 (u.Next+1))) (.int .i64 (IntKind.wrap .i64 (u.Next+1))) rfl ?_
    refine Op.px 2 [(64,vQ J 4)] ?_
    refine Op.s1 3 64 62 4 (vI (IntKind.wrap .i64 (u.Next+1))) 0 #[vS u.af,vL U u.Data.length V,vI u.ai,vI u.aD,vI (IntKind.wrap .i64 (u.Next+1)),vI u.aL] ae (fun _=>trivial) fun ib c8=>?_
    refine Op.gt 25 ?_
    refine At.dw (fun _=>False) [(0,true),(1,true),(2,true),(4,true),(5,true),(6,true),(8,true),(9,true),(10,true),(11,true),(3,true),(7,false),(12,true),(13,false),(1014,false),(14,false)] ?_
    refine Op.px 7 [(67,vP G),(69,vS (fy p u.Next)),(70,vS (fy p u.Next)),(71,vL ch data.length ci),(73,vI cI)] ?_
    refine Op.vl 74 (.int .i64 (if ((-1):Int)>cI then ((-1):Int) else cI)) (.int .i64 (max cI ((-1):Int))) (xY _ _) ?_
    refine Op.px 1 [(75,vI born)] ?_
    refine Op.vl 76 (.int .i64 (if (0:Int)>born then (0:Int) else born)) (.int .i64 (max born (0:Int))) (xY _ _) ?_
    refine Op.lf 195 67 0 68 1 (.map (some D)) (fun h=>h) (c8.ah 4 rfl) ?_
    refine Op.c0 (some 72) (om _ _ _ c8.sub b3 _ _ b4 (by(try dsimp only)<;>omega)) c8 ?_
    rintro _ fa _ ih fg fi ⟨ii,a6,rfl,du,bk,rfl⟩;subst fa;clear fg
    obtain⟨am,ar,rfl⟩:=du.aj
    refine Op.px 1 [(77,.agg #[vS (fy p u.Next),vL am (data.length) ar,vI 0,vI (max cI ((-1):Int)),vI 0,vI (max born (0:Int))])] ?_
    refine Op.bx 78 39 77 #[vS (fy p u.Next),vL am (data.length) ar,vI 0,vI (max cI ((-1):Int)),vI 0,vI (max born (0:Int))] fi fun aw dv fj=>?_
    refine Op.ba ?_
    have fl:h_ bd ((J,.cells #[vS u.af,vL U u.Data.length V,vI u.ai,vI u.aD,vI (IntKind.wrap .i64 (u.Next+1)),vI u.aL] 39 (0,0))::X++Y:ay) (eO t (⟨u.af,u.Data,u.ai,u.aD,IntKind.wrap .i64 (u.Next+1),u.aL⟩:ag)):=b5 (⟨u.af,u.Data,u.ai,u.aD,IntKind.wrap .i64 (u.Next+1),u.aL⟩:ag) _ _ rfl bm
    have fp:=((((fj.aa 1 rfl).aa 1 rfl).aa 4 rfl).aa 4 rfl).aa 4 rfl
    have fr:St h g (aV [I]) g [[(J,Obj.cells #[vS u.af,vL U u.Data.length V,vI u.ai,vI u.aD,vI (IntKind.wrap .i64 (u.Next+1)),vI u.aL] 39 (0,0))],X,Y,[(aw,Obj.cells #[vS (fy p u.Next),vL am (data.length) ar,vI 0,vI (max cI ((-1):Int)),vI 0,vI (max born (0:Int))] 39 (0,0))],a6,[(D,.map ab ad)],[(G,Obj.cells #[.map (some D)] 197 (0,0))]] dv:=fp
    have ft:St h g (aV [I]) g [((J,.cells #[vS u.af,vL U u.Data.length V,vI u.ai,vI u.aD,vI (IntKind.wrap .i64 (u.Next+1)),vI u.aL] 39 (0,0))::X++Y:ay),[(aw,Obj.cells #[vS (fy p u.Next),vL am (data.length) ar,vI 0,vI (max cI ((-1):Int)),vI 0,vI (max born (0:Int))] 39 (0,0))],a6,[(D,.map ab ad)],[(G,Obj.cells #[.map (some D)] 197 (0,0))]] dv:=St.bu (L:=[[(J,Obj.cells #[vS u.af,vL U u.Data.length V,vI u.ai,vI u.aD,vI (IntKind.wrap .i64 (u.Next+1)),vI u.aL] 39 (0,0))],X,Y,[(aw,Obj.cells #[vS (fy p u.Next),vL am (data.length) ar,vI 0,vI (max cI ((-1):Int)),vI 0,vI (max born (0:Int))] 39 (0,0))],a6,[(D,.map ab ad)],[(G,Obj.cells #[.map (some D)] 197 (0,0))]]) (by simp only[cH,List.flatten_nil,dm,dW,eN,dX]) fr
    refine Op.oM (d:=.string) (z:=.pointer none) (mt:=195) (x:=68) (ix:=69) (y:=78) (k:=(fy p u.Next)) (v:=vP aw) (.inl (by kernel_rfl)) (by kernel_rfl) l_ (by kernel_rfl) (by kernel_rfl) (by kernel_rfl) ft 3 rfl a5 (fun _=>trivial) fun b8 ca c9 fv fw=>?_
    have fx:h_ (iZ bd (fy p u.Next) (vP aw)) ((aw,.cells #[vS (fy p u.Next),vL am (data.length) ar,vI 0,vI (max cI ((-1):Int)),vI 0,vI (max born (0:Int))] 39 (0,0))::a6++((J,.cells #[vS u.af,vL U u.Data.length V,vI u.ai,vI u.aD,vI (IntKind.wrap .i64 (u.Next+1)),vI u.aL] 39 (0,0))::X++Y:ay):ay) (eO (eO t (⟨u.af,u.Data,u.ai,u.aD,IntKind.wrap .i64 (u.Next+1),u.aL⟩:ag)) (⟨fy p u.Next,data,0,(max cI ((-1):Int)),0,(max born (0:Int))⟩:ag)):=fl.B5 (g:=g) (l:=(⟨fy p u.Next,data,0,(max cI ((-1):Int)),0,(max born (0:Int))⟩:ag)) (by exact Qp (p:=parentOf p) ‹_› ‹_› _) du (by exact Ec _ _)
    have f0:=(((fw.aa 0 rfl).aa 2 rfl).aa 2 rfl).aa 3 rfl
    have f1:St h g (aV [I]) g [[(D,.map b8 ca)],[(aw,Obj.cells #[vS (fy p u.Next),vL am (data.length) ar,vI 0,vI (max cI ((-1):Int)),vI 0,vI (max born (0:Int))] 39 (0,0))],a6,((J,.cells #[vS u.af,vL U u.Data.length V,vI u.ai,vI u.aD,vI (IntKind.wrap .i64 (u.Next+1)),vI u.aL] 39 (0,0))::X++Y:ay),[(G,Obj.cells #[.map (some D)] 197 (0,0))]] c9:=f0
    have f2:St h g (aV [I]) g [[(D,.map b8 ca)],((aw,.cells #[vS (fy p u.Next),vL am (data.length) ar,vI 0,vI (max cI ((-1):Int)),vI 0,vI (max born (0:Int))] 39 (0,0))::a6++((J,.cells #[vS u.af,vL U u.Data.length V,vI u.ai,vI u.aD,vI (IntKind.wrap .i64 (u.Next+1)),vI u.aL] 39 (0,0))::X++Y:ay):ay),[(G,Obj.cells #[.map (some D)] 197 (0,0))]] c9:=St.bu (L:=[[(D,.map b8 ca)],[(aw,Obj.cells #[vS (fy p u.Next),vL am (data.length) ar,vI 0,vI (max cI ((-1):Int)),vI 0,vI (max born (0:Int))] 39 (0,0))],a6,((J,.cells #[vS u.af,vL U u.Data.length V,vI u.ai,vI u.aD,vI (IntKind.wrap .i64 (u.Next+1)),vI u.aL] 39 (0,0))::X++Y:ay),[(G,Obj.cells #[.map (some D)] 197 (0,0))]]) (by simp only[cH,List.flatten_nil,dm,dW,eN,dX]) f1
    refine Op.gt 26 ?_
    refine At.go 27 3 [(12,vS (fy p u.Next)),(13,vI 0)] ?_
    obtain⟨ik,f3,f4⟩:∃c,hU g D (eO (eO t (⟨u.af,u.Data,u.ai,u.aD,IntKind.wrap .i64 (u.Next+1),u.aL⟩:ag)) (⟨fy p u.Next,data,0,(max cI ((-1):Int)),0,(max born (0:Int))⟩:ag)) c∧St h g (aV [I]) g (c::[[(G,Obj.cells #[.map (some D)] 197 (0,0))]]) c9:=⟨_,fx.close fv (gO _),St.bu (L:=[(D,.map b8 ca)]::((aw,.cells #[vS (fy p u.Next),vL am (data.length) ar,vI 0,vI (max cI ((-1):Int)),vI 0,vI (max born (0:Int))] 39 (0,0))::a6++((J,.cells #[vS u.af,vL U u.Data.length V,vI u.ai,vI u.aD,vI (IntKind.wrap .i64 (u.Next+1)),vI u.aL] 39 (0,0))::X++Y:ay):ay)::[[(G,Obj.cells #[.map (some D)] 197 (0,0))]]) (by simp only[cH,dm,dW,eN,dX]) f2⟩
    have f5:=(f4.aa 0 rfl).aa 1 rfl
    obtain⟨f6,f7,f8⟩:=St.bJ (Q:=fI g G (eO (eO t (⟨u.af,u.Data,u.ai,u.aD,IntKind.wrap .i64 (u.Next+1),u.aL⟩:ag)) (⟨fy p u.Next,data,0,(max cI ((-1):Int)),0,(max born (0:Int))⟩:ag))) 2 f5 ⟨_,_,rfl,f3⟩
    exact At.rt (.tuple #[vS (fy p u.Next),vI 0]) (hR f8 ⟨f6,b7 (jY (by(rw[xX ‹_› ‹_› (by simp[gL, *]) (by simp[fR, *]<;>rfl) ‹_› ‹_›];done))) (bB (by(rw[xX ‹_› ‹_› (by simp[gL, *]) (by simp[fR, *]<;>rfl) ‹_› ‹_›];done))),f7.eq (by(rw[xX ‹_› ‹_› (by simp[gL, *]) (by simp[fR, *]<;>rfl) ‹_› ‹_›];exact(N_ ‹_›).symm)),rfl,rfl⟩)
   exact Bool.noConfusion (d7.symm.trans hb)
  have il:(cc t (fy p u.Next)).isSome=true:=b6.symm
  refine Op.qM (ok:=true) (d:=.string) (mt:=195) (x:=45) (ix:=46) (dst:=47) (k:=(fy p u.Next)) (m:=D) (z:=.pointer none) (by kernel_rfl) (by kernel_rfl) l_ (by kernel_rfl) (by kernel_rfl) (ae.ah 3 rfl) a5 c6 ?_
  refine Op.pg 14 [(17,.bool true)] ?_
  refine At.go 15 1 [(50,.bool true)] ?_
  refine At.bW 50 16 ?_
  refine At.go 17 2 [(12,vS []),(13,vI 101)] ?_
  have f9:h_ bd ((J,.cells #[vS u.af,vL U u.Data.length V,vI u.ai,vI u.aD,vI u.Next,vI u.aL] 39 (0,0))::X++Y:ay) t:=by have hq:=b5 u _ _ rfl bm;rwa[BL be.sort (by rw[(ki a4).2];exact a4)] at hq
  have gc:St h g (aV [I]) g [((J,.cells #[vS u.af,vL U u.Data.length V,vI u.ai,vI u.aD,vI u.Next,vI u.aL] 39 (0,0))::X++Y:ay),[(D,.map ab ad)],[(G,Obj.cells #[.map (some D)] 197 (0,0))]] a0:=St.bu (L:=[[(J,Obj.cells #[vS u.af,vL U u.Data.length V,vI u.ai,vI u.aD,vI u.Next,vI u.aL] 39 (0,0))],X,Y,[(D,.map ab ad)],[(G,Obj.cells #[.map (some D)] 197 (0,0))]]) (by simp only[cH,List.flatten_nil,dm,dW,eN,dX]) ae
  have ge:=(gc.aa 0 rfl).aa 1 rfl
  have gg:St h g (aV [I]) g [[(D,.map ab ad)],((J,.cells #[vS u.af,vL U u.Data.length V,vI u.ai,vI u.aD,vI u.Next,vI u.aL] 39 (0,0))::X++Y:ay),[(G,Obj.cells #[.map (some D)] 197 (0,0))]] a0:=ge
  obtain⟨io,gk,gn⟩:∃c,hU g D t c∧St h g (aV [I]) g (c::[[(G,Obj.cells #[.map (some D)] 197 (0,0))]]) a0:=⟨_,f9.close a5 (gO _),St.bu (L:=[(D,.map ab ad)]::((J,.cells #[vS u.af,vL U u.Data.length V,vI u.ai,vI u.aD,vI u.Next,vI u.aL] 39 (0,0))::X++Y:ay)::[[(G,Obj.cells #[.map (some D)] 197 (0,0))]]) (by simp only[cH,dm,dW,eN,dX]) gg⟩
  have gs:=(gn.aa 0 rfl).aa 1 rfl
  obtain⟨g1,g2,g3⟩:=St.bJ (Q:=fI g G t) 2 gs ⟨_,_,rfl,gk⟩
  exact At.rt (.tuple #[vS [],vI 101]) (hR g3 ⟨g1,b7 (jY (by(rw[xV ‹_› ‹_› (by simp[gL, *]) (by simp[fR, *]<;>rfl) ‹_›];done))) (bB (by(rw[xV ‹_› ‹_› (by simp[gL, *]) (by simp[fR, *]<;>rfl) ‹_›];done))),g2.eq (by(rw[xV ‹_› ‹_› (by simp[gL, *]) (by simp[fR, *]<;>rfl) ‹_›];done)),rfl,rfl⟩)
 refine At.rp 11 3 [(44,vP G)] ?_
 obtain⟨O,da,g4,g5⟩:=bj
 have dC:=St.un [da] g4 ck
 refine Op.l1 195 44 45 0 (.map (some O)) (dC.ah 0 rfl) ?_
 refine Op.px 1 [(46,vS p)] ?_
 have g6:=(dC.aa 0 rfl).aa 1 rfl
 obtain⟨db,dc,dE,a7,g7,bi,bo⟩:=hU.me g5
 have g8:St h g (aV [I]) g [da,[(G,Obj.cells #[.map (some O)] 197 (0,0))]] a3:=g6
 have a1:St h g (aV [I]) g ([(O,.map db dc)]::a7::[[(G,Obj.cells #[.map (some O)] 197 (0,0))]]) a3:=St.qN (L:=da::[[(G,Obj.cells #[.map (some O)] 197 (0,0))]]) (g7.append_right _) g8
 obtain⟨g9,dd⟩:∃o,fZ dE p=o:=⟨_,rfl⟩
 have cb:=bo.iB p
 rw[dd] at cb
 rcases g9 with _|ip
 ·have is:cc t p=none:=by cases hq:cc t p with|none=>rfl|some _=>(rw[hq] at cb;cases cb)
  refine Op.uH (ok:=true) (d:=.string) (mt:=195) (x:=45) (ix:=46) (dst:=47) (k:=p) (m:=O) (z:=.pointer none) (by kernel_rfl) (by kernel_rfl) l_ (by kernel_rfl) (by kernel_rfl) (a1.ah 0 rfl) bi dd ?_
  refine Op.pg 14 [(17,.bool false)] ?_
  refine At.go 15 1 [(50,.bool false)] ?_
  refine At.dK 50 18 ?_
  refine At.rp 6 3 [(53,vP G)] ?_
  refine Op.l1 195 53 54 0 (.map (some O)) (a1.ah 2 rfl) ?_
  refine Op.DL (d:=.string) (mt:=195) (x:=54) (dst:=55) (m:=O) (z:=.pointer none) (by kernel_rfl) (by kernel_rfl) (by kernel_rfl) rfl (a1.ah 0 rfl) bi bo.len ?_
  refine Op.pg 19 [(56,.bool (decide ((t.length:Int)≥32)))] ?_
  refine At.fd ((t.length:Int)≥32) 56 20 22 (fun iv=>?_) fun i0=>?_
  ·refine At.go 21 2 [(12,vS []),(13,vI 104)] ?_
   obtain⟨i1,he,hf⟩:∃c,hU g O t c∧St h g (aV [I]) g (c::[[(G,Obj.cells #[.map (some O)] 197 (0,0))]]) a3:=⟨_,bo.close bi (gO _),St.bu (L:=[(O,.map db dc)]::a7::[[(G,Obj.cells #[.map (some O)] 197 (0,0))]]) (by simp only[cH,dm,dW,eN,dX]) a1⟩
   have hh:=(hf.aa 0 rfl).aa 1 rfl
   obtain⟨hj,hl,hm⟩:=St.bJ (Q:=fI g G t) 2 hh ⟨_,_,rfl,he⟩
   exact At.rt (.tuple #[vS [],vI 104]) (hR hm ⟨hj,b7 (jY (by(rw[xW ‹_› ‹_› (by simp[gL, *]) (by simp[fR, *]<;>rfl) ‹_› ‹_›];done))) (bB (by(rw[xW ‹_› ‹_› (by simp[gL, *]) (by simp[fR, *]<;>rfl) ‹_› ‹_›];done))),hl.eq (by(rw[xW ‹_› ‹_› (by simp[gL, *]) (by simp[fR, *]<;>rfl) ‹_› ‹_›];done)),rfl,rfl⟩)
  refine At.go 23 1 [(57,.bool num)] ?_
  refine At.di num 57 24 25 (fun hb=>?_) fun i2=>?_
  ·exact Bool.noConfusion (hb.symm.trans d8)
  refine At.dw (fun _=>False) [(0,true),(1,true),(2,true),(4,true),(5,true),(6,true),(8,true),(9,true),(10,true),(11,true),(3,true),(7,false),(12,true),(13,false),(1014,false),(14,false)] ?_
  refine Op.px 7 [(67,vP G),(69,vS p),(70,vS p),(71,vL ch data.length ci),(73,vI cI)] ?_
  refine Op.vl 74 (.int .i64 (if ((-1):Int)>cI then ((-1):Int) else cI)) (.int .i64 (max cI ((-1):Int))) (xY _ _) ?_
  refine Op.px 1 [(75,vI born)] ?_
  refine Op.vl 76 (.int .i64 (if (0:Int)>born then (0:Int) else born)) (.int .i64 (max born (0:Int))) (xY _ _) ?_
  refine Op.lf 195 67 0 68 1 (.map (some O)) (fun h=>h) (a1.ah 2 rfl) ?_
  refine Op.c0 (some 72) (om _ _ _ a1.sub b3 _ _ b4 (by(try dsimp only)<;>omega)) a1 ?_
  rintro _ hn _ i3 ho hr ⟨i4,bt,rfl,dT,bk,rfl⟩;subst hn;clear ho
  obtain⟨a8,a9,rfl⟩:=dT.aj
  refine Op.px 1 [(77,.agg #[vS p,vL a8 (data.length) a9,vI 0,vI (max cI ((-1):Int)),vI 0,vI (max born (0:Int))])] ?_
  refine Op.bx 78 39 77 #[vS p,vL a8 (data.length) a9,vI 0,vI (max cI ((-1):Int)),vI 0,vI (max born (0:Int))] hr fun bc i5 hu=>?_
  refine Op.ba ?_
  refine Op.oM (d:=.string) (z:=.pointer none) (mt:=195) (x:=68) (ix:=69) (y:=78) (k:=p) (v:=vP bc) (.inl (by kernel_rfl)) (by kernel_rfl) l_ (by kernel_rfl) (by kernel_rfl) (by kernel_rfl) hu 2 rfl bi (fun _=>trivial) fun ce cf df hw hx=>?_
  have hy:h_ (iZ dE p (vP bc)) ((bc,.cells #[vS p,vL a8 (data.length) a9,vI 0,vI (max cI ((-1):Int)),vI 0,vI (max born (0:Int))] 39 (0,0))::bt++a7:ay) (eO t (⟨p,data,0,(max cI ((-1):Int)),0,(max born (0:Int))⟩:ag)):=bo.B5 (g:=g) (l:=(⟨p,data,0,(max cI ((-1):Int)),0,(max born (0:Int))⟩:ag)) ‹_› dT (by exact Ed (HP ‹_› ‹_›).1)
  have hz:=((hx.aa 1 rfl).aa 1 rfl).aa 2 rfl
  have hA:St h g (aV [I]) g [[(O,.map ce cf)],[(bc,Obj.cells #[vS p,vL a8 (data.length) a9,vI 0,vI (max cI ((-1):Int)),vI 0,vI (max born (0:Int))] 39 (0,0))],bt,a7,[(G,Obj.cells #[.map (some O)] 197 (0,0))]] df:=hz
  have hC:St h g (aV [I]) g [[(O,.map ce cf)],((bc,.cells #[vS p,vL a8 (data.length) a9,vI 0,vI (max cI ((-1):Int)),vI 0,vI (max born (0:Int))] 39 (0,0))::bt++a7:ay),[(G,Obj.cells #[.map (some O)] 197 (0,0))]] df:=St.bu (L:=[[(O,.map ce cf)],[(bc,Obj.cells #[vS p,vL a8 (data.length) a9,vI 0,vI (max cI ((-1):Int)),vI 0,vI (max born (0:Int))] 39 (0,0))],bt,a7,[(G,Obj.cells #[.map (some O)] 197 (0,0))]]) (by simp only[cH,List.flatten_nil,dm,dW,eN,dX]) hA
  refine Op.gt 26 ?_
  refine At.go 27 3 [(12,vS p),(13,vI 0)] ?_
  obtain⟨i6,hD,hE⟩:∃c,hU g O (eO t (⟨p,data,0,(max cI ((-1):Int)),0,(max born (0:Int))⟩:ag)) c∧St h g (aV [I]) g (c::[[(G,Obj.cells #[.map (some O)] 197 (0,0))]]) df:=⟨_,hy.close hw (gO _),St.bu (L:=[(O,.map ce cf)]::((bc,.cells #[vS p,vL a8 (data.length) a9,vI 0,vI (max cI ((-1):Int)),vI 0,vI (max born (0:Int))] 39 (0,0))::bt++a7:ay)::[[(G,Obj.cells #[.map (some O)] 197 (0,0))]]) (by simp only[cH,dm,dW,eN,dX]) hC⟩
  have hF:=(hE.aa 0 rfl).aa 1 rfl
  obtain⟨hG,hH,hI⟩:=St.bJ (Q:=fI g G (eO t (⟨p,data,0,(max cI ((-1):Int)),0,(max born (0:Int))⟩:ag))) 2 hF ⟨_,_,rfl,hD⟩
  exact At.rt (.tuple #[vS p,vI 0]) (hR hI ⟨hG,b7 (jY (by(rw[xX ‹_› ‹_› (by simp[gL, *]) (by simp[fR, *]<;>rfl) ‹_› ‹_›];done))) (bB (by(rw[xX ‹_› ‹_› (by simp[gL, *]) (by simp[fR, *]<;>rfl) ‹_› ‹_›];done))),hH.eq (by(rw[xX ‹_› ‹_› (by simp[gL, *]) (by simp[fR, *]<;>rfl) ‹_› ‹_›];exact(N9 ‹_› d1 ‹_›).symm)),rfl,rfl⟩)
 have i7:(cc t p).isSome=true:=cb.symm
 refine Op.qM (ok:=true) (d:=.string) (mt:=195) (x:=45) (ix:=46) (dst:=47) (k:=p) (m:=O) (z:=.pointer none) (by kernel_rfl) (by kernel_rfl) l_ (by kernel_rfl) (by kernel_rfl) (a1.ah 0 rfl) bi dd ?_
 refine Op.pg 14 [(17,.bool true)] ?_
 refine At.go 15 1 [(50,.bool true)] ?_
 refine At.bW 50 16 ?_
 refine At.go 17 2 [(12,vS []),(13,vI 101)] ?_
 obtain⟨i8,hJ,hK⟩:∃c,hU g O t c∧St h g (aV [I]) g (c::[[(G,Obj.cells #[.map (some O)] 197 (0,0))]]) a3:=⟨_,bo.close bi (gO _),St.bu (L:=[(O,.map db dc)]::a7::[[(G,Obj.cells #[.map (some O)] 197 (0,0))]]) (by simp only[cH,dm,dW,eN,dX]) a1⟩
 have hL:=(hK.aa 0 rfl).aa 1 rfl
 obtain⟨hN,hO,hQ⟩:=St.bJ (Q:=fI g G t) 2 hL ⟨_,_,rfl,hJ⟩
 exact At.rt (.tuple #[vS [],vI 101]) (hR hQ ⟨hN,b7 (jY (by(rw[xV ‹_› ‹_› (by simp[gL, *]) (by simp[fR, *]<;>rfl) ‹_›];done))) (bB (by(rw[xV ‹_› ‹_› (by simp[gL, *]) (by simp[fR, *]<;>rfl) ‹_›];done))),hO.eq (by(rw[xV ‹_› ‹_› (by simp[gL, *]) (by simp[fR, *]<;>rfl) ‹_›];done)),rfl,rfl⟩)
theorem JN:∀{a b:aQ},a <+: b→a≠b→kg a b=true:=by
  rintro a b ⟨t,rfl⟩ hne
  have ht:t≠[]:=fun e=>hne (by rw[e,dX])
  have h1:=NV a [] t
  rw[dX] at h1
  unfold kg
  rw[h1]
  cases t with
  |nil=>exact absurd rfl ht
  |cons c t=>simp[Go.Op.bytesLess]
theorem JO {p:aQ} (h:fF p=true):([47]:aQ) <+: p:=by
  unfold fF at h
  simp only[b_,cQ] at h
  cases p with
  |nil=>simp at h
  |cons c p=>obtain rfl:c=47:=by simpa using h.1
             exact⟨p,rfl⟩
theorem uW {p:aQ} (h:cz p=0):fF p=true:=by
  cases hp:fF p with
  |true=>rfl
  |false=>
   have:cx p=[]:=by unfold cx;rw[hp];rfl
   exact absurd h (Hx this)
theorem Qq:¬cz [47]=0:=by decide
theorem JP {p:aQ} (h:fF p=true) (hne:p≠[47]):kg [47] p=true:=JN (JO h) hne.symm
theorem Au {p:aQ} (h:cz p=0):p≠[47]:=fun e=>Qq (e▸h)
theorem Qr {p:aQ} (h:cz p=0):kg (parentOf p) p=true:=by
  have hk:=j0.2 (uW h)
  obtain⟨_,h1,_,_,_,h2,h3⟩:=DX hk (Au h)
  have hne:parentOf p≠p:=fun e=>by rw[e,NY hk] at h3;cases h3
  refine JN ?_ hne
  unfold uI at h2
  simp only[b_,jh,j6] at h2
  rcases h2.2 with e|e|e
  · exact absurd e.symm hne
  · rw[e];exact JO (uW h)
  · exact(DC _ _).trans (uF.1 e)
theorem JQ (c:UInt8):∀(l:List aQ) (x d:aQ),fQ c (l++[x])++d=fQ c (l++[x++d])
  |[],x,d=>by simp[fQ]
  |[a],x,d=>by simp[fQ]
  |a::b::l,x,d=>by
   have:=JQ c (b::l) x d
   simp only[dW,fQ,dm] at this ⊢
   rw[this]
theorem JR:∀(k n:Nat),47 ∉ low k n
  |0,n=>by simp[low]
  |k+1,n=>by
   have hd:∀a:Nat,a<10→(47:UInt8)≠UInt8.ofNat (48+a):=by decide
   unfold low
   rw[ei,qt]
   exact⟨hd _ (xo _ (by decide)),JR k n⟩
theorem JS {p:aQ} {n:Int} (h:lN p n=0):cz (fy p n)=0∧parentOf (fy p n)=parentOf p∧fF (fy p n)=true:=by
  obtain⟨h0,h1,hs⟩:=HD h
  have hok:mT p n=true:=by
    cases hk:mT p n with
    |true=>rfl
    |false=>have:=(wD hk).2;rw[h] at this;cases this
  have hne:cx p≠[]:=by
    unfold mT at hok
    simp only[b_,cQ] at hok
    exact hok.1
  have hp:fF p=true:=by
    cases hk:fF p with
    |true=>rfl
    |false=>exact absurd (by unfold cx;rw[hk];rfl) hne
  have hq:fF (fy p n)=true:=by
    unfold lN at h
    rw[aO hok] at h
    have:=j0.1 h
    unfold fy
    rw[aO hok]
    unfold ny
    rw[aO this]
    exact this
  have hl:=HF hne
  have G:=uJ hp
  have hj:fy p n=joined ((cx p).dropLast++[nQ (cx p)++low 5 n.toNat]):=by
    rw[hs]
    conv=>lhs;rw[←G,←hl]
    unfold joined
    rw[dW,JQ]
  have I:fy p n≠[47]:=by
    intro e
    have h2:=NW h
    rw[e] at h2
    simp at h2
    omega
  have u:cx (fy p n)=(cx p).dropLast++[nQ (cx p)++low 5 n.toNat]:=by
    unfold cx
    rw[aO hq,aC I]
    conv=>lhs;rw[hj]
    show splitOn 47 (fQ 47 _)=_
    refine Bs 47 _ (by simp) ?_
    intro x hx
    rcases dP.1 hx with hx|hx
    · exact zU (xT p x (GQ _ hx))
    · rw[iw] at hx
      subst hx
      rw[dP,qt]
      have D:nQ (cx p)∈(cx p).dropLast++[nQ (cx p)]:=by simp
      rw[hl] at D
      exact⟨zU (xT p _ D),JR _ _⟩
  refine⟨?_,?_,hq⟩
  · refine Hg ?_
    rw[u]
    simp
  · unfold parentOf
    rw[aC hne,aC (by rw[u];simp),u]
    simp
def Qs (k:Int) (ns:List ag) (n:ag):Prop:=
  fF n.af=true∧n.Data.length≤128∧ -1≤n.aD∧(0≤n.ai∧n.ai≤k)∧(0≤n.Next∧n.Next≤k)∧0≤n.aL∧(n.af=[47]∧n.aD= -1∧n.aL=0∨cz n.af=0∧∃u∈ns,u.af=parentOf n.af∧u.aD= -1)
structure fq (k:Int) (ns:List ag):Prop where
  sort:fU ns
  len:ns.length≤32
  root:∃r∈ns,r.af=[47]
  node:∀n∈ns,Qs k ns n
theorem fq.mono {k k':Int} {ns:List ag} (H:fq k ns) (h:k≤k'):fq k' ns:=
  ⟨H.sort,H.len,H.root,fun n hn=>by
    obtain⟨h1,h2,h3,h4,h5,h6,h7⟩:=H.node n hn
    exact⟨h1,h2,h3,⟨h4.1,by omega⟩,⟨h5.1,by omega⟩,h6,h7⟩⟩
theorem fq.new:fq 0 [⟨[47],[],0, -1,0,0⟩]:=
  ⟨EP _ _,by decide,⟨_,.head _,rfl⟩,fun n hn=>by
    rw[iw] at hn
    subst hn
    exact⟨by decide,by decide,by decide,by decide,by decide,by decide,.inl ⟨rfl,rfl,rfl⟩⟩⟩
theorem fq.b {k:Int} {ns:List ag} (H:fq k ns) (hk:k≤1000000):gj ns:=
  ⟨by have:=H.len;omega,fun n hn=>by
    obtain⟨h1,h2,h3,h4,h5,h6,h7⟩:=H.node n hn
    exact⟨uK h1,h2,by omega,by omega⟩⟩
theorem tu {ns:List ag} {l n:ag}:n∈eO ns l↔n=l∨n∈ns∧n.af≠l.af:=by
  rw[(qc ns l).mem_iff,ei]
  unfold gi
  rw[fB]
  simp
theorem ET {ns:List ag} {p:aQ} {n:ag}:n∈gi ns p↔n∈ns∧n.af≠p:=by
  unfold gi
  rw[fB]
  simp
theorem fU.uniq {ns:List ag} (h:fU ns) {a b:ag} (ha:a∈ns) (hb:b∈ns) (e:a.af=b.af):a=b:=by
  have h1:=qb h.nodup ha
  have h2:=qb h.nodup hb
  rw[e,h2] at h1
  exact(fK h1).symm
theorem Qt {ns:List ag} (hs:fU ns) {u:ag} (hu:u∈ns):(gi ns u.af).length+1=ns.length:=by
  have hn:=hs.nodup
  clear hs
  induction ns with
  |nil=>cases hu
  |cons n ns ih=>
   rw[eR,qK] at hn
   rcases ei.1 hu with rfl|hu
   · have:gi (u::ns) u.af=ns:=by
       unfold gi
       rw[jK]
       simp only[wq,nk,gA,dV]
       exact zX (oh.2 fun x hx e=>hn.1 (e▸de.2 ⟨x,hx,rfl⟩))
     rw[this,bY]
   · have hne:n.af≠u.af:=fun e=>hn.1 (e▸de.2 ⟨u,hu,rfl⟩)
     have:gi (n::ns) u.af=n::gi ns u.af:=by
       unfold gi
       rw[jK]
       simp[hne]
     rw[this,bY,bY,ih hu hn.2]
theorem EU {ns:List ag} (hs:fU ns) {u l:ag} (hu:u∈ns) (e:l.af=u.af):(eO ns l).length=ns.length:=by
  rw[(qc ns l).length_eq,bY,e,Qt hs hu]
theorem Qu {ns:List ag} {l:ag} (h:cc ns l.af=none):(eO ns l).length=ns.length+1:=by
  rw[(qc ns l).length_eq,bY,zX h]
theorem fq.put {k:Int} {ns:List ag} (H:fq k ns) {u l:ag} (hu:u∈ns) (hp:l.af=u.af) (ho:l.aD=u.aD) (hb:l.aL=u.aL) (hd:l.Data.length≤128) (hv:0≤l.ai∧l.ai≤k) (hn:0≤l.Next∧l.Next≤k):fq k (eO ns l):=by
  have G:∀x∈ns,∃y∈eO ns l,y.af=x.af∧y.aD=x.aD:=fun x hx=>by
    by_cases e:x.af=l.af
    · have:x=u:=H.sort.uniq hx hu (e.trans hp)
      subst this
      exact⟨l,tu.2 (.inl rfl),hp,ho⟩
    · exact⟨x,tu.2 (.inr ⟨hx,e⟩),rfl,rfl⟩
  refine⟨zW H.sort l,by rw[EU H.sort hu hp];exact H.len,?_,fun n D=>?_⟩
  · obtain⟨r,hr,J⟩:=H.root
    obtain⟨y,hy,e,_⟩:=G r hr
    exact⟨y,hy,e.trans J⟩
  · have I:∀{q:aQ},(∃u∈ns,u.af=q∧u.aD= -1)→∃u∈eO ns l,u.af=q∧u.aD= -1:=by
      rintro q ⟨x,hx,h1,h2⟩
      obtain⟨y,hy,e1,e2⟩:=G x hx
      exact⟨y,hy,e1.trans h1,e2.trans h2⟩
    rcases tu.1 D with rfl|⟨D,_⟩
    · obtain⟨h1,h2,h3,h4,h5,h6,h7⟩:=H.node u hu
      refine⟨hp▸h1,hd,ho▸h3,hv,hn,hb▸h6,?_⟩
      rw[hp,ho,hb]
      exact h7.imp id fun h=>⟨h.1,I h.2⟩
    · obtain⟨h1,h2,h3,h4,h5,h6,h7⟩:=H.node n D
      exact⟨h1,h2,h3,h4,h5,h6,h7.imp id fun h=>⟨h.1,I h.2⟩⟩
theorem fq.add {k:Int} {ns:List ag} (H:fq k ns) {l:ag} (hl:ns.length<32) (hf:cc ns l.af=none) (hc:cz l.af=0) (hu:∃u∈ns,u.af=parentOf l.af∧u.aD= -1) (hd:l.Data.length≤128) (ho: -1≤l.aD) (hv:0≤l.ai∧l.ai≤k) (hn:0≤l.Next∧l.Next≤k) (hb:0≤l.aL):
    fq k (eO ns l):=by
  have G:∀x∈ns,x∈eO ns l:=fun x hx=>tu.2 (.inr ⟨hx,oh.1 hf x hx⟩)
  have I:∀{q:aQ},(∃u∈ns,u.af=q∧u.aD= -1)→∃u∈eO ns l,u.af=q∧u.aD= -1:=fun⟨x,hx,h⟩=>⟨x,G x hx,h⟩
  refine⟨zW H.sort l,by rw[Qu hf];omega,?_,fun n D=>?_⟩
  · obtain⟨r,hr,J⟩:=H.root
    exact⟨r,G r hr,J⟩
  · rcases tu.1 D with rfl|⟨D,_⟩
    · exact⟨uW hc,hd,ho,hv,hn,hb,.inr ⟨hc,I hu⟩⟩
    · obtain⟨h1,h2,h3,h4,h5,h6,h7⟩:=H.node n D
      exact⟨h1,h2,h3,h4,h5,h6,h7.imp id fun h=>⟨h.1,I h.2⟩⟩
theorem Ck {ns:List ag} {p q:aQ}:q∈gK ns p↔∃n∈ns,n.af=q∧cz q=0∧parentOf q=p:=by
  unfold gK HG
  rw[de]
  constructor
  · rintro⟨n,hn,rfl⟩
    rw[fB] at hn
    simp only[b_,cQ] at hn
    exact⟨n,hn.1,rfl,hn.2⟩
  · rintro⟨n,hn,rfl,h⟩
    exact⟨n,fB.2 ⟨hn,by simpa using h⟩,rfl⟩
theorem Qv {ns:List ag} {p:aQ} (h:gK ns p=[]) {n:ag} (hn:n∈ns) (hc:cz n.af=0):parentOf n.af≠p:=fun e=>by
  have:n.af∈gK ns p:=Ck.2 ⟨n,hn,rfl,hc,e⟩
  rw[h] at this
  cases this
theorem fq.oS {k:Int} {ns:List ag} (H:fq k ns) {p:aQ} (hp:p≠[47]) (hk:gK ns p=[]):fq k (gi ns p):=by
  refine⟨D1 H.sort p,bQ (l7 _ _) H.len,?_,fun n hn=>?_⟩
  · obtain⟨r,hr,D⟩:=H.root
    exact⟨r,ET.2 ⟨hr,D▸hp.symm⟩,D⟩
  · obtain⟨hn,hne⟩:=ET.1 hn
    obtain⟨h1,h2,h3,h4,h5,h6,h7⟩:=H.node n hn
    refine⟨h1,h2,h3,h4,h5,h6,h7.imp id fun h=>⟨h.1,?_⟩⟩
    obtain⟨u,hu,e1,e2⟩:=h.2
    exact⟨u,ET.2 ⟨hu,fun e=>Qv hk hn h.1 (e1.symm.trans e)⟩,e1,e2⟩
theorem Qw {x:Int} (h0: -9223372036854775808≤x) (h1:x≤9223372036854775807):IntKind.wrap .i64 x=x:=by
  have:=oI h0 h1
  injection this
theorem EV {x:Int} (h0:0≤x) (h1:x≤1000000):IntKind.wrap .i64 (x+1)=x+1:=Qw (by omega) (by omega)
section
variable {k:Int} {ns:List ag} {p data:aQ} {cI born bO:Int} {num:Bool}
theorem Cl (h:(cm ns p data cI born num).2.2=0):∃up,cz p=0∧data.length≤128∧cc ns (parentOf p)=some up∧up.aD= -1∧gL up p num=0∧cc ns (fR up p num)=none∧ns.length<32∧
    cm ns p data cI born num=(oO ns up (fR up p num) data cI born num,fR up p num,0):=by
  unfold cm at h ⊢
  by_cases h1:cz p=0
  · simp only[h1,ne_eq,kE,dV] at h ⊢
    by_cases h2:data.length>128
    · simp[h2] at h
    · simp only[h2,dV] at h ⊢
      cases hf:cc ns (parentOf p) with
      |none=>simp[hf] at h
      |some up=>
       simp only[hf] at h ⊢
       by_cases h3:up.aD= -1
       · simp only[h3,ne_eq,kE,dV] at h ⊢
         by_cases h4:gL up p num=0
         · simp only[h4,ne_eq,kE,dV] at h ⊢
           cases hq:cc ns (fR up p num) with
           |some _=>simp[hq] at h
           |none=>
            simp only[hq] at h ⊢
            by_cases h5:ns.length≥32
            · simp[h5] at h
            · simp only[h5,dV]
              exact⟨up,trivial,by omega,rfl,h3,h4,hq,by omega,rfl⟩
         · simp[h4] at h
       · simp[h3] at h
  · simp[h1] at h
theorem EW (h:(cm ns p data cI born num).2.2≠0):(cm ns p data cI born num).1=ns∧(cm ns p data cI born num).2.1=[]:=by
  unfold cm at h ⊢
  by_cases h1:cz p=0
  · simp only[h1,ne_eq,kE,dV] at h ⊢
    by_cases h2:data.length>128
    · simp[h2]
    · simp only[h2,dV] at h ⊢
      cases hf:cc ns (parentOf p) with
      |none=>simp
      |some up=>
       simp only[hf] at h ⊢
       by_cases h3:up.aD= -1
       · simp only[h3,ne_eq,kE,dV] at h ⊢
         by_cases h4:gL up p num=0
         · simp only[h4,ne_eq,kE,dV] at h ⊢
           cases hq:cc ns (fR up p num) with
           |some _=>simp
           |none=>
            simp only[hq] at h ⊢
            by_cases h5:ns.length≥32
            · simp[h5]
            · simp[h5] at h
         · simp[h4]
       · simp[h3]
  · simp[h1]
theorem EX {up:ag} (hc:cz p=0) (he:gL up p num=0):cz (fR up p num)=0∧parentOf (fR up p num)=parentOf p:=by
  unfold gL fR at *
  cases num with
  |false=>exact⟨hc,rfl⟩
  |true=>
   simp only[jl] at he ⊢
   exact⟨(JS he).1,(JS he).2.1⟩
def tv (ns:List ag) (up:ag) (num:Bool):List ag:=eO ns (if num then {up with Next:=IntKind.wrap .i64 (up.Next+1)} else up)
theorem Qx (H:fq k ns) (hk:k≤100000) {up:ag} (hu:up∈ns):fq (k+1) (tv ns up num):=by
  obtain⟨h1,h2,h3,h4,h5,h6,h7⟩:=H.node up hu
  have u:=H.mono (k':=k+1) (by omega)
  unfold tv
  cases num with
  |false=>exact u.put hu rfl rfl rfl h2 ⟨h4.1,by show up.ai≤k+1;omega⟩ ⟨h5.1,by show up.Next≤k+1;omega⟩
  |true=>
   simp only[jl]
   rw[EV h5.1 (by omega)]
   exact u.put hu rfl rfl rfl h2 ⟨h4.1,by show up.ai≤k+1;omega⟩ ⟨by show 0≤up.Next+1;omega,by show up.Next+1≤k+1;omega⟩
theorem Qy {up:ag} {q:aQ} (hu:up∈ns) (hq:cc ns q=none):cc (tv ns up num) q=none:=by
  rw[oh] at hq ⊢
  intro n hn
  unfold tv at hn
  rcases tu.1 hn with rfl|⟨hn,_⟩
  · cases num with
    |false=>exact hq up hu
    |true=>exact hq up hu
  · exact hq n hn
theorem Qz (hs:fU ns) {up:ag} (hu:up∈ns):(tv ns up num).length=ns.length:=by
  unfold tv
  cases num with
  |false=>exact EU hs hu rfl
  |true=>exact EU hs hu rfl
theorem QA {up:ag}:∃u∈tv ns up num,u.af=up.af∧u.aD=up.aD:=by
  unfold tv
  cases num with
  |false=>exact⟨_,tu.2 (.inl rfl),rfl,rfl⟩
  |true=>exact⟨_,tu.2 (.inl rfl),rfl,rfl⟩
theorem QB {up:ag} {q:aQ}:oO ns up q data cI born num=eO (tv ns up num) ⟨q,data,0,max cI (-1),0,max born 0⟩:=rfl
theorem fq.make (H:fq k ns) (hk:k≤100000) (I:0≤k):fq (k+1) (cm ns p data cI born num).1:=by
  by_cases h:(cm ns p data cI born num).2.2=0
  · obtain⟨up,hc,hd,hf,ho,he,hq,hl,e⟩:=Cl h
    rw[e]
    obtain⟨hu,D⟩:=ki hf
    show fq (k+1) (oO ns up (fR up p num) data cI born num)
    rw[QB]
    obtain⟨h1,h2⟩:=EX hc he
    refine(Qx H hk hu).add (by rw[Qz H.sort hu];exact hl) (Qy hu hq) h1 ?_ hd (Int.le_max_right _ _) ⟨by simp,by simp;omega⟩ ⟨by simp,by simp;omega⟩ (Int.le_max_right _ _)
    obtain⟨u,G,e1,e2⟩:=QA (ns:=ns) (up:=up) (num:=num)
    exact⟨u,G,by rw[e1,D];exact h2.symm,e2.trans ho⟩
  · rw[(EW h).1]
    exact H.mono (by omega)
theorem QC (h:(f_ ns p bO).2=0):∃l,cz p=0∧cc ns p=some l∧gK ns p=[]∧f_ ns p bO=(gi ns p,0):=by
  unfold f_ at h ⊢
  by_cases h1:cz p=0
  · simp only[h1,ne_eq,kE,dV] at h ⊢
    cases hf:cc ns p with
    |none=>simp[hf] at h
    |some l=>
     simp only[hf] at h ⊢
     by_cases h2:bO≥0∧l.ai≠bO
     · rw[aO h2] at h;cases h
     · rw[aC h2] at h ⊢
       by_cases h3:gK ns p=[]
       · exact⟨l,trivial,rfl,h3,by simp[h3]⟩
       · rw[aO h3] at h;cases h
  · simp[h1] at h
theorem QD (h:(f_ ns p bO).2≠0):(f_ ns p bO).1=ns:=by
  unfold f_ at h ⊢
  split
  · rfl
  · rename_i h1
    rw[aC h1] at h
    split
    · rfl
    · rename_i l hf
      simp only[hf] at h
      split
      · rfl
      · rename_i h2
        rw[aC h2] at h
        split
        · rfl
        · rename_i h3
          rw[aC h3] at h
          exact absurd rfl h
theorem fq.drop (H:fq k ns):fq k (f_ ns p bO).1:=by
  by_cases h:(f_ ns p bO).2=0
  · obtain⟨l,hc,hf,hk,e⟩:=QC h
    rw[e]
    exact H.oS (Au hc) hk
  · rw[QD h];exact H
theorem fq.set (H:fq k ns) (hk:k≤100000):fq (k+1) (fe ns p data bO).1:=by
  have u:=H.mono (k':=k+1) (by omega)
  unfold fe
  split
  · exact u
  · split
    · exact u
    · rename_i l hf
      split
      · exact u
      · split
        · exact u
        · rename_i hd
          obtain⟨hu,_⟩:=ki hf
          obtain⟨h1,h2,h3,h4,h5,h6,h7⟩:=H.node l hu
          rw[EV h4.1 (by omega)]
          exact u.put hu rfl rfl rfl (by show data.length≤128;omega) ⟨by show 0≤l.ai+1;omega,by show l.ai+1≤k+1;omega⟩ ⟨h5.1,by show l.Next≤k+1;omega⟩
end
section
variable {k:Int} {ns:List ag}
theorem fq.JT (H:fq k ns) {n:ag} (hn:n∈ns) (e:n.af=[47]):n.aD= -1∧n.aL=0:=by
  obtain⟨_,_,_,_,_,_,h7⟩:=H.node n hn
  rcases h7 with ⟨_,h⟩|⟨h,_⟩
  · exact h
  · exact absurd e (Au h)
theorem fq.JU (H:fq k ns):∀(rest seen:List ag),seen++rest=ns→wE seen rest=true
  |[],seen,_=>rfl
  |l::rest,seen,e=>by
   have hl:l∈ns:=by rw[←e];simp
   obtain⟨h1,h2,h3,h4,h5,h6,h7⟩:=H.node l hl
   have hs:=H.sort
   rw[←e] at hs
   obtain⟨O,U,G⟩:=ER.1 hs
   have I:∀x∈ns,kg x.af l.af=true→x∈seen:=fun x hx hlt=>by
     rw[←e] at hx
     rcases dP.1 hx with hx|hx
     · exact hx
     · rcases ei.1 hx with rfl|hx
       · unfold kg at hlt;rw[xU] at hlt;cases hlt
       · have:=(kX.1 U).1 x hx
         unfold kg at hlt this
         rw[BJ this] at hlt
         cases hlt
   have hr:lP seen l=true:=by
     unfold lP
     simp only[b_,cQ]
     refine⟨⟨⟨⟨⟨h3,h4.1⟩,h5.1⟩,h6⟩,h2⟩,?_⟩
     by_cases D:seen=[]
     · rw[aO D]
       have:l.af=[47]:=by
         by_cases hp:l.af=[47]
         · exact hp
         · obtain⟨r,hr,V⟩:=H.root
           have:=I r hr (by rw[V];exact JP h1 hp)
           rw[D] at this
           cases this
       have h8:=H.JT hl this
       simp[this,h8.1,h8.2]
     · rw[aC D]
       obtain⟨x,hx⟩:=Ju _ D
       have hxl:=G x hx l (.head _)
       have hp:l.af≠[47]:=by
         intro hp
         have X:x∈ns:=by rw[←e];exact Be _ hx
         by_cases J:x.af=[47]
         · rw[J,hp] at hxl;unfold kg at hxl;rw[xU] at hxl;cases hxl
         · have h9:=JP (H.node x X).1 J
           unfold kg at h9 hxl
           rw[hp,BJ h9] at hxl
           cases hxl
       rcases h7 with h7|⟨hc,u,hu,e1,e2⟩
       · exact absurd h7.1 hp
       · have Y:=I u hu (by rw[e1];exact Qr hc)
         have ab:(seen.map (·.af)).Nodup:=fU.nodup O
         have hf:=qb ab Y
         rw[e1] at hf
         simp[hc,hf,e2]
   unfold wE
   rw[hr,H.JU rest (seen++[l]) (by rw[←e];simp),lp,mK]
   cases hg:seen.getLast? with
   |none=>rfl
   |some x=>exact G x (List.mem_of_getLast? hg) l (.head _)
theorem fq.QE (H:fq k ns):mU ns=true:=by
  unfold mU
  rw[H.JU ns [] rfl]
  have h1:=H.len
  obtain⟨r,hr,_⟩:=H.root
  have h2:=List.length_pos_of_mem hr
  simp only[lp,b_,cQ]
  omega
end
theorem QF {u ks:List aQ} (h:u.Perm ks) (hf:[]=u):ks=[]:=by subst hf;exact h.symm.eq_nil
theorem QG {u ks:List aQ} {x:aQ} {xs:List aQ} (h:u.Perm ks) (hp:x::xs <+: u):ks≠[]:=by
 rintro rfl
 have h1:=hp.length_le
 rw[h.length_eq] at h1
 simp at h1
def uX {α:Type} (xs:List α):Option Code:=if xs.isEmpty=true then none else some .ret
theorem QH {α:Type} {xs:List α} (h:xs.isEmpty=true):uX xs=none:=by unfold uX;rw[aO h]
theorem QI {α:Type} (xs:List α) (x:α):uX (xs++[x])=some .ret:=by unfold uX;rw[aC];simp
theorem QJ {α:Type} (xs:List α) (x:α):Value.bool (some Code.ret:Option Code).isNone=Value.bool (xs++[x]).isEmpty:=by simp
theorem JV {ns:List ag} {p:aQ} {bO:Int} (h:¬cz p=0):f_ ns p bO=(ns,cz p):=by unfold f_;rw[aO h]
theorem JW {ns:List ag} {p:aQ} {bO:Int} (h:cz p=0) (hp:cX p=0) (hv:fM ns p bO≠0):f_ ns p bO=(ns,fM ns p bO):=by
 unfold fM eG at *;unfold f_
 simp only[h,hp,ne_eq,kE,dV] at *
 cases hf:cc ns p with
 |none=>simp[hf]
 |some l=>simp only[hf] at *;split at hv<;>simp_all
theorem Cm {ns:List ag} {p:aQ} {bO:Int} {l:ag} (h:cz p=0) (hv:fM ns p bO=0) (hf:cc ns p=some l):f_ ns p bO=if gK ns p≠[] then (ns,103) else (gi ns p,0):=by
 obtain⟨_,h2⟩:=D8 hv hf
 unfold f_
 rw[aC (by simpa using h),hf]
 simp only[]
 rw[aC h2]
theorem EY (B:World) (h:ax) (g:GH) (hg:bl g h) (ab:bq g) (G:Nat) (t:List ag) (J:ay) (ae:fI g G t J) (p:an) (bO:Int) (hB:gj t) (hp:p.length≤1000000000) (hs:St h g (aV [J]) g [J] h):
  aE prog B 119 #[vP G,vS p,vI bO] h g [J] (fun df g' L'=>∃bo,df=.int .i64 ((f_ t p bO).2)∧fI g' G ((f_ t p bO).1) bo∧g'=g∧L'=[bo]):=by
 refine aE.aq func119 fun R hR=>?_
 refine At.rg 1 ?_
 refine Op.al 6 29 #[vI 0] hs fun D f7 bt=>?_
 refine Op.gt 1 ?_
 refine At.rp 7 1 [(12,vS p)] ?_
 refine Op.c1 13 (Ag _ _ _ bt.sub ab p (by(try dsimp only)<;>omega)) bt fun f8 b3=>?_
 refine Op.pg 2 [(8,vI (cz p))] ?_
 refine At.go 3 2 [(17,.bool ((cz p) != 0))] ?_
 refine At.fn ((cz p)=0) 17 4 6 (fun f9=>?_) fun gc=>?_
 ·refine At.rp 2 1 [(18,vI (cz p))] ?_
  refine Op.s1 29 6 18 0 (vI (cz p)) 0 #[vI (cz p)] b3 (fun _=>trivial) fun ge b4=>?_
  refine Op.gt 5 ?_
  exact At.rm f119 [vI (cz p)] [.cell 6 29] (vI (cz p)) ⟨⟨_,_,rfl,Bp (n:=1) (by kernel_rfl) (b4.ah 0 rfl) (by kernel_rfl)⟩,trivial⟩ (hR b4.drop ⟨J,(bB (by(rw[JV ‹_›];done))),ae.eq (by(rw[JV ‹_›];done)),rfl,rfl⟩)
 refine At.rp 9 3 [(20,vP G),(21,vS p),(22,vI bO)] ?_
 have a3:=(b3.aa 0 rfl).aa 1 rfl
 have dg:=a3.gz
 have dj:=fI.fY ae a3 (by intro p hp;simp only[dP,hp,iF,iG])
 refine Op.le (some 23) 0 a3 (Ib _ _ _ a3.iO (ab.mono dg) G t dj p bO (by(try dsimp only)<;>omega)) (fun _ _ _ hp=>by obtain⟨a8,_,_⟩:=hp;exact a8) ?_ (hM:=(fun _ _ h=>absurd h (dB _)))
 rintro gg _ gk X ⟨a8,rfl,dk⟩;clear a8
 rcases dk with ⟨rfl,b5⟩|⟨gn,gs,g1,g3,rfl,g4,g5,g6,g7,g8,g9⟩
 ·have dl:((fM t p bO) != 0)=true:=xL.2 b5
  have he:((fM t p bO)==0)=false:=s7.2 b5
  refine Op.pg 7 [(10,vI (fM t p bO))] ?_
  refine At.go 8 2 [(27,.bool ((fM t p bO) != 0))] ?_
  refine At.di ((fM t p bO) != 0) 27 9 11 (fun b6=>?_) fun hb=>?_
  ·replace b6:=gY b6
   refine At.rp 2 1 [(28,vI (fM t p bO))] ?_
   refine Op.s1 29 6 28 0 (vI (fM t p bO)) 1 #[vI (fM t p bO)] X (fun _=>trivial) fun hf b8=>?_
   refine Op.gt 10 ?_
   refine At.rm f119 [vI (fM t p bO)] [.cell 6 29] (vI (fM t p bO)) ⟨⟨_,_,rfl,Bp (n:=1) (by kernel_rfl) (b8.ah 1 rfl) (by kernel_rfl)⟩,trivial⟩ ?_
   have dp:=(b8.aa 0 rfl).aa 1 rfl
   exact hR dp.drop ⟨J,(bB (by(rw[JW ‹_› (j0.2 (uW ‹_›)) ‹_›];done))),ae.eq (by(rw[JW ‹_› (j0.2 (uW ‹_›)) ‹_›];done)),rfl,rfl⟩
  exact Bool.noConfusion (dl.symm.trans hb)
 refine Op.pg 7 [(10,vI 0)] ?_
 refine At.go 8 2 [(27,.bool false)] ?_
 refine At.dK 27 11 ?_
 have dq:=fI.fY ae X (fun p hp=>hp)
 have ca:=X.freeze.1
 have du:=X.freeze.2
 replace ab:=ab.mono du
 refine At.rp 3 2 [(29,vP G),(30,vS p)] ?_
 refine Op.c0 (some 31) (H9 _ _ _ ca.sub ab G t dq p) ca ?_
 rintro _ a9 _ hh dv dC ⟨f62,a4,rfl,dE,dT,rfl⟩
 replace ab:=ab.mono dv
 refine Op.gt 12 ?_
 refine At.kp [(0,vP G),(1,vS p),(6,vP D),(31,.func (.func f62) #[] a4)] ?_
 refine At.rangeFunc (x:=31) (f:=f62) (cp:=a4) (by kernel_rfl) rfl (by kernel_rfl) (by kernel_rfl) dE dC fun u U V cb d0 d1=>?_
 have d2:=((d1.aa 1 rfl).aa 2 rfl).aa 2 rfl
 have d3:St h g (aV [J]) a9 [[(U,.loop (dR (eC 119 V (pt (dz f119) 12) u) none))],[(D,Obj.cells #[vI 0] 29 (0,0))],[(u,.deferred (some []))]] cb:=d2
 have bc:St h g (aV [J]) a9 [(([(U,.loop (dR (eC 119 V (pt (dz f119) 12) u) none))]:ay)++([(D,Obj.cells #[vI 0] 29 (0,0))]:ay):ay),[(u,.deferred (some []))]] cb:=St.bu (L:=[[(U,.loop (dR (eC 119 V (pt (dz f119) 12) u) none))],[(D,Obj.cells #[vI 0] 29 (0,0))],[(u,.deferred (some []))]]) (by simp only[cH,List.flatten_nil,dm,dW,eN,dX]) d3
 obtain⟨ce,ar⟩:∃I:List aQ→GH→ay→Prop,I=(fun xs g2 c2=>∃(cf:Int),c2=(([(U,.loop (dR (eC 119 V (pt (dz f119) 12) u) (uX xs)))]:ay)++([(D,Obj.cells #[.int .i64 cf] 29 (0,0))]:ay):ay)∧(xs≠[]→cf=103)):=⟨_,rfl⟩
 have d4:uE prog B U tc (fun d5=>d5.Perm (gK t p)) (fun xs=>xs.isEmpty) ce a9:=by
  intro bd a5 ch ci hj hl hm hn d6 d7 ho ck co
  rw[ar] at ck
  obtain⟨be,rfl,hr⟩:=ck
  obtain rfl:=d7
  rw[show(uX ch)=none from by exact QH d6] at co ⊢
  have c3:St bd a5 (aV [(([(U,.loop (dR (eC 119 V (pt (dz f119) 12) u) none))]:ay)++([(D,Obj.cells #[vI be] 29 (0,0))]:ay):ay)]) a5 [[(U,.loop (dR (eC 119 V (pt (dz f119) 12) u) none))],[(D,Obj.cells #[vI be] 29 (0,0))]] bd:=St.bu (by simp only[cH,List.flatten_nil,dm,dW,eN,dX]) co
  refine uD.uB (n:=f119.ntmps) (e0:=[(0,vP G),(1,vS p),(6,vP D),(31,.func (.func f62) #[] a4)]) (e:=[(32,vS ci),(0,vP G),(1,vS p),(6,vP D),(31,.func (.func f62) #[] a4)]) (c3.ah 0 rfl) d0 (by kernel_rfl) (by kernel_rfl) (by kernel_rfl) (by kernel_rfl) fun hu d8=>?_
  refine At.beginRound rfl (by kernel_rfl) c3 0 rfl 1 (by kernel_rfl) fun hw d9=>?_
  refine At.rg 1 ?_
  refine Op.s1 29 6 (.const (vI 103)) 0 (vI 103) 1 #[vI 103] d9 (fun _=>trivial) fun hx ed=>?_
  refine Op.gt 2 ?_
  refine At.zG (j:=(some .ret)) (by kernel_rfl) ed 0 rfl fun ee ef=>?_
  have eh:St bd a5 (aV [(([(U,.loop (dR (eC 119 V (pt (dz f119) 12) u) none))]:ay)++([(D,Obj.cells #[vI be] 29 (0,0))]:ay):ay)]) a5 [(([(U,.loop (dR (eC 119 V (pt (dz f119) 12) u) (some .ret)))]:ay)++([(D,Obj.cells #[vI 103] 29 (0,0))]:ay):ay)] ee:=St.bu (L:=[[(U,.loop (dR (eC 119 V (pt (dz f119) 12) u) (some .ret)))],[(D,Obj.cells #[vI 103] 29 (0,0))]]) (by simp only[cH,List.flatten_nil,dm,dW,eN,dX]) ef
  refine d8 _ _ _ _ eh ⟨_,by exact QJ _ _,rfl,?_⟩
  rw[←QI ch ci]
  rw[ar];exact⟨103,rfl,(by exact fun _=>rfl)⟩
 refine wj.call (Lc:=[(([(U,.loop (dR (eC 119 V (pt (dz f119) 12) u) none))]:ay)++([(D,Obj.cells #[vI 0] 29 (0,0))]:ay):ay)]) (L:=[[(u,.deferred (some []))]]) bc (dT B _ _ _ ce (fun xs=>xs.isEmpty) _ (aM.refl _) bc.sub ab d4 rfl (by rw[ar];exact⟨0,rfl,(by exact fun h=>absurd rfl h)⟩) (St.part (Lc:=[(([(U,.loop (dR (eC 119 V (pt (dz f119) 12) u) none))]:ay)++([(D,Obj.cells #[vI 0] 29 (0,0))]:ay):ay)]) (L:=[[(u,.deferred (some []))]]) bc)) ?_
 rintro _ c4 _ c5 hy a6 ⟨hz,ej,hA,rfl,c6,em,en,hC,rfl,a7⟩
 rcases ej with _|⟨x0,ep⟩
 ·have aw:gK t p=[]:=QF c6 (en rfl)
  rw[ar] at a7
  obtain⟨Y,rfl,hD⟩:=a7
  rw[show(uX [])=none from by rfl] at a6
  have er:St h g (aV [J]) c4 [[(U,.loop (dR (eC 119 V (pt (dz f119) 12) u) none))],[(D,Obj.cells #[vI Y] 29 (0,0))],[(u,.deferred (some []))]] c5:=St.bu (by simp only[cH,List.flatten_nil,dm,dW,eN,dX]) a6
  refine jz.zH (j:=none) er 0 rfl fun bi et=>?_
  have ex:=et.drop
  refine jz.bF 13 (by kernel_rfl) ?_
  have eA:St h g (aV [J]) g (J::[[(D,Obj.cells #[vI Y] 29 (0,0))],[(u,.deferred (some []))]]) bi:=X.xE (ex.Aj (aM.trans X.le X.gz) (by repeat (first|assumption|exact aM.refl _|apply aM.trans)))
  refine At.rp 6 3 [(35,vP G)] ?_
  obtain⟨O,bj,eB,eE⟩:=ae
  have c8:=St.un [bj] eB eA
  refine Op.l1 195 35 36 0 (.map (some O)) (c8.ah 0 rfl) ?_
  refine Op.px 1 [(37,vS p)] ?_
  have eI:=(c8.aa 0 rfl).aa 1 rfl
  obtain⟨eJ,ad,hE,bk,eK,eL,eQ⟩:=hU.me eE
  have e1:St h g (aV [J]) g [bj,[(G,Obj.cells #[.map (some O)] 197 (0,0))],[(D,Obj.cells #[vI Y] 29 (0,0))],[(u,.deferred (some []))]] bi:=eI
  have e2:St h g (aV [J]) g ([(O,.map eJ ad)]::bk::[[(G,Obj.cells #[.map (some O)] 197 (0,0))],[(D,Obj.cells #[vI Y] 29 (0,0))],[(u,.deferred (some []))]]) bi:=St.qN (L:=bj::[[(G,Obj.cells #[.map (some O)] 197 (0,0))],[(D,Obj.cells #[vI Y] 29 (0,0))],[(u,.deferred (some []))]]) (eK.append_right _) e1
  obtain⟨bm,a0,e3,e4⟩:=eQ.oS p
  refine Op.BE (d:=.string) (z:=.pointer none) (mt:=195) (kt:=9) (x:=36) (ix:=37) (dst:=none) (k:=p) (by kernel_rfl) (by kernel_rfl) l_ (by kernel_rfl) (by kernel_rfl) e2 0 rfl eL (fun _=>trivial) fun am c9 e5 e6=>?_
  have e7:=(e6.aa 0 rfl).aa 1 rfl
  have e8:St h g (aV [J]) g [bk,[(O,.map am ad)],[(G,Obj.cells #[.map (some O)] 197 (0,0))],[(D,Obj.cells #[vI Y] 29 (0,0))],[(u,.deferred (some []))]] c9:=e7
  have e9:St h g (aV [J]) g [bm,a0,[(O,.map am ad)],[(G,Obj.cells #[.map (some O)] 197 (0,0))],[(D,Obj.cells #[vI Y] 29 (0,0))],[(u,.deferred (some []))]] c9:=St.qN (L:=bk::[[(O,.map am ad)],[(G,Obj.cells #[.map (some O)] 197 (0,0))],[(D,Obj.cells #[vI Y] 29 (0,0))],[(u,.deferred (some []))]]) (by have hq:=e3.append_right (List.flatten [[(O,.map am ad)],[(G,Obj.cells #[.map (some O)] 197 (0,0))],[(D,Obj.cells #[vI Y] 29 (0,0))],[(u,.deferred (some []))]]);simpa only[cH,List.flatten_nil,dm,dW,eN,dX] using hq) e8
  refine Op.gt 14 ?_
  refine At.rg 1 ?_
  refine Op.s1 29 6 (.const (vI 0)) 0 (vI 0) 4 #[vI 0] e9 (fun _=>trivial) fun da fa=>?_
  refine Op.gt 15 ?_
  have fg:=((fa.aa 1 rfl).aa 1 rfl).aa 2 rfl
  have fi:St h g (aV [J]) g [[(O,.map am ad)],bm,a0,[(G,Obj.cells #[.map (some O)] 197 (0,0))],[(D,Obj.cells #[vI 0] 29 (0,0))],[(u,.deferred (some []))]] da:=fg
  obtain⟨hF,fj,fl⟩:∃c,hU g O (gi t p) c∧St h g (aV [J]) g (c::[a0,[(G,Obj.cells #[.map (some O)] 197 (0,0))],[(D,Obj.cells #[vI 0] 29 (0,0))],[(u,.deferred (some []))]]) da:=⟨_,e4.close e5 (gO _),St.bu (L:=[(O,.map am ad)]::bm::[a0,[(G,Obj.cells #[.map (some O)] 197 (0,0))],[(D,Obj.cells #[vI 0] 29 (0,0))],[(u,.deferred (some []))]]) (by simp only[cH,dm,dW,eN,dX]) fi⟩
  have fp:=((fl.aa 1 rfl).aa 1 rfl).aa 2 rfl
  obtain⟨db,fr,ft⟩:=St.bJ (Q:=fI g G (gi t p)) 2 fp ⟨_,_,rfl,fj⟩
  have fv:=(((ft.aa 2 rfl).aa 2 rfl).aa 2 rfl).aa 3 rfl
  refine At.Bw (jz.GG (L:=[db,a0,[(D,Obj.cells #[vI 0] 29 (0,0))]]) (f:=f119) (vs:=[vI 0]) (rl:=[.cell 6 29]) (v:=vI 0) [u] (by kernel_rfl) (by kernel_rfl) rfl fv ?_)
  intro hG dc
  refine⟨⟨⟨_,_,rfl,Bp (n:=1) (by kernel_rfl) (dc.ah 2 rfl) (by kernel_rfl)⟩,trivial⟩,?_⟩
  have fw:=((dc.aa 0 rfl).aa 2 rfl).aa 2 rfl
  exact hR fw.drop.drop ⟨db,(bB (by(rw[Cm ‹_› ‹_› ‹_›,aC (fun h=>h aw)];done))),fr.eq (by(rw[Cm ‹_› ‹_› ‹_›,aC (fun h=>h aw)];done)),rfl,rfl⟩
 have aw:gK t p≠[]:=QG c6 em
 rw[ar] at a7
 obtain⟨a1,rfl,fx⟩:=a7
 rw[show(uX (x0::ep))=(some .ret) from by rfl] at a6
 have f0:St h g (aV [J]) c4 [[(U,.loop (dR (eC 119 V (pt (dz f119) 12) u) (some .ret)))],[(D,Obj.cells #[vI a1] 29 (0,0))],[(u,.deferred (some []))]] c5:=St.bu (by simp only[cH,List.flatten_nil,dm,dW,eN,dX]) a6
 refine jz.zH (j:=(some .ret)) f0 0 rfl fun f1 f2=>?_
 have f3:=f2.drop
 have f4:St h g (aV [J]) g (J::[[(D,Obj.cells #[vI a1] 29 (0,0))],[(u,.deferred (some []))]]) f1:=X.xE (f3.Aj (aM.trans X.le X.gz) (by repeat (first|assumption|exact aM.refl _|apply aM.trans)))
 have f5:=((f4.aa 1 rfl).aa 1 rfl).aa 2 rfl
 refine jz.GG (L:=[J,[(D,Obj.cells #[vI a1] 29 (0,0))]]) (f:=f119) (vs:=[vI a1]) (rl:=[.cell 6 29]) (v:=vI a1) [u] (by kernel_rfl) (by kernel_rfl) rfl f5 fun hH dd=>?_
 refine⟨⟨⟨_,_,rfl,Bp (n:=1) (by kernel_rfl) (dd.ah 1 rfl) (by kernel_rfl)⟩,trivial⟩,?_⟩
 have f6:=(dd.aa 0 rfl).aa 1 rfl
 exact hR f6.drop ⟨J,(bB (by(rw[Cm ‹_› ‹_› ‹_›,aO aw];exact fx (by simp)))),ae.eq (by(rw[Cm ‹_› ‹_› ‹_›,aO aw];done)),rfl,rfl⟩
section
variable {ns out:List ag} {l x:ag} {i:Int} {put:Bool}
end
section
variable {ns:List ag} {p data q:aQ} {cI born bO o' b':Int} {num:Bool} {up x:ag} {k:Int}
theorem JX {a b:UInt8} (h:(a.toNat:Int)=(b.toNat:Int)):a=b:=UInt8.toNat_inj.1 (by omega)
theorem JY {a b:UInt8} (h:¬(a.toNat:Int)=(b.toNat:Int)):¬a=b:=fun e=>h (by rw[e])
end
def uY (list:List ag) (i:Nat) (l:ag):Prop:=lP (list.take i) l=true∧∀x,(list.take i).getLast?=some x→kg x.af l.af=true
theorem JZ:∀(rest seen:List ag),wE seen rest=true↔∀i l,rest[i]?=some l→lP (seen++rest.take i) l=true∧∀x,(seen++rest.take i).getLast?=some x→kg x.af l.af=true
  |[],seen=>by simp[wE]
  |n::rest,seen=>by
   unfold wE
   rw[b_,b_,JZ rest (seen++[n])]
   constructor
   · rintro⟨⟨h1,h2⟩,h3⟩ i l hl
     cases i with
     |zero=>
      simp only[List.getElem?_cons_zero,fu] at hl
      subst hl
      simp only[xD,dX]
      refine⟨h1,fun x hx=>?_⟩
      rw[hx] at h2
      exact h2
     |succ i=>
      simp only[List.getElem?_cons_succ] at hl
      have:=h3 i l hl
      simpa using this
   · intro H
     refine⟨?_,fun i l hl=>?_⟩
     · have:=H 0 n rfl
       simp only[xD,dX] at this
       refine⟨this.1,?_⟩
       cases hg:seen.getLast? with
       |none=>rfl
       |some x=>exact this.2 x hg
     · have:=H (i+1) l (by simpa using hl)
       simpa using this
theorem EZ {list:List ag}:mU list=true↔(1≤list.length∧list.length≤32)∧∀i l,list[i]?=some l→uY list i l:=by
  unfold mU uY
  rw[b_,b_,JZ]
  simp only[eN,cQ]
  constructor
  · rintro⟨⟨h1,h2⟩,h3⟩;exact⟨⟨h2,h3⟩,h1⟩
  · rintro⟨⟨h2,h3⟩,h1⟩;exact⟨⟨h1,h2⟩,h3⟩
theorem J0 {list:List ag} {i:Nat} {l:ag} (hl:list[i]?=some l) (h:¬uY list i l):false=mU list:=by
  cases hb:mU list with
  |false=>rfl
  |true=>exact absurd ((EZ.1 hb).2 i l hl) h
theorem Cn {list:List ag} (h:(list.length:Int)<1∨(list.length:Int)>32):false=mU list:=by
  cases hb:mU list with
  |false=>rfl
  |true=>have:=(EZ.1 hb).1;omega
theorem J1 {list:List ag} {i:Int} {x:ag} (h:0<i) (hx:list[(i-1).toNat]?=some x):(list.take i.toNat).getLast?=some x:=by
  have e:i.toNat=(i-1).toNat+1:=by omega
  rw[e,fG hx]
  simp
section
variable {list:List ag} {i:Int} {l x:ag}
theorem J2 (h0:0<i) (hl:list[i.toNat]?=some l) (hx:list[(i-1).toNat]?=some x) (h:Go.Op.bytesLess x.af l.af=false):false=mU list:=
  J0 hl fun hr=>by
    have:=hr.2 x (J1 h0 hx)
    unfold kg at this
    rw[h] at this
    cases this
end
theorem J3 {l:ag}:∀{ns:List ag},(∀n∈ns,kg n.af l.af=true)→s_ l ns=ns++[l]
  |[],_=>rfl
  |n::ns,h=>by
   unfold s_
   rw[aC,J3 fun m hm=>h m (.tail _ hm)]
   · rfl
   · have:=h n (.head _)
     unfold kg at this ⊢
     rw[BJ this]
     simp
def x_ (list:List ag) (i:Int):Prop:=(∀j l,j<i.toNat→list[j]?=some l→uY list j l)∧fU (list.take i.toNat)
theorem QK (list:List ag):x_ list 0:=⟨fun j l hj=>absurd hj (by simp),by simp[fU]⟩
section
variable {list:List ag} {i:Int} {l x:ag}
theorem QL (H:x_ list i) (hr:∀x,(list.take i.toNat).getLast?=some x→kg x.af l.af=true):∀n∈list.take i.toNat,kg n.af l.af=true:=by
  intro n hn
  rcases List.eq_nil_or_concat (list.take i.toNat) with e|⟨a,x,e⟩
  · rw[e] at hn;cases hn
  · rw[List.concat_eq_append] at e
    have h1:=hr x (by rw[e];simp)
    have hs:=H.2
    rw[e] at hs hn
    rcases dP.1 hn with hn|hn
    · exact zV ((ER.1 hs).2.2 n hn x (by simp)) h1
    · rw[iw] at hn
      exact hn▸h1
theorem E0 (H:x_ list i) (h0:0≤i) (hl:list[i.toNat]?=some l) (hr:uY list i.toNat l):x_ list (i+1)∧cc (list.take i.toNat) l.af=none∧eO (list.take i.toNat) l=list.take (i+1).toNat:=by
  have hlt:=QL H hr.2
  have hnone:cc (list.take i.toNat) l.af=none:=oh.2 fun n hn=>DY (hlt n hn)
  refine⟨⟨?_,?_⟩,hnone,?_⟩
  · intro j D hj u
    rcases pV j i.toNat with h|h
    · exact H.1 j D h u
    · obtain rfl:j=i.toNat:=by omega
      rw[hl] at u
      cases u
      exact hr
  · rw[toNat_succ h0,fG hl]
    refine ER.2 ⟨H.2,EP _ _,fun a ha b hb=>?_⟩
    rw[iw] at hb
    subst hb
    exact hlt a ha
  · unfold eO
    rw[zX hnone,J3 hlt,toNat_succ h0,fG hl]
theorem QM (hi:¬0<i) (h0:0≤i) (h:lP (list.take i.toNat) l=true):uY list i.toNat l:=
  ⟨h,fun x hx=>by
    have:i.toNat=0:=by omega
    rw[this] at hx
    simp at hx⟩
theorem QN (hi:0<i) (h:lP (list.take i.toNat) l=true) (hx:list[(i-1).toNat]?=some x) (hlt:Go.Op.bytesLess x.af l.af=true):uY list i.toNat l:=
  ⟨h,fun y hy=>by
    rw[J1 hi hx] at hy
    cases hy
    exact hlt⟩
theorem J4 (hl:list[i.toNat]?=some l) (h:lP (list.take i.toNat) l=false):false=mU list:=J0 hl fun hr=>by have h9:=hr.1;rw[h] at h9;cases h9
theorem QO (H:x_ list i) (hi:¬i<list.length) (h1:¬(list.length:Int)=0) (h2:¬(list.length:Int)>32):true=mU list∧list.take i.toNat=list:=
  ⟨(EZ.2 ⟨by omega,fun j l hl=>H.1 j l (by have:=(fT.1 hl).1;omega) hl⟩).symm,fC (by omega)⟩
end
theorem E1 (B:World) (h:ax) (g:GH) (hg:bl g h) (a1:bq g) (I:Value) (s:an) (J:av g 5 br I s) (h1:s.length≤1000000000):
  aE prog B 22 #[I] h g [] (fun X g' L'=>∃v0 O,X=v0∧aJ 5 br g' v0 s O∧g'=g∧L'=[O]):=by
 obtain⟨Y,ab,rfl⟩:=J.aj
 refine aE.aq func22 fun R hR=>?_
 have ad:=St.init hg
 refine At.go 1 1 [] ?_
 refine At.rg 2 ?_
 refine Op.ls 4 0 5 #[] ad fun u a3 U=>?_
 refine Op.pg 2 [(3,vL (some ⟨u,0,none⟩) 0 0)] ?_
 refine At.rp 4 2 [(5,vL (some ⟨u,0,none⟩) 0 0),(6,vL Y s.length ab)] ?_
 have ae:aJ 5 br g (vL (some ⟨u,0,none⟩) 0 0) ([]:an) [(u,Obj.cells #[] 5 (0,0))]:=aJ.lit (by kernel_rfl) (by unfold maxLen;decide) (by kernel_rfl) Reads.nil
 obtain⟨a4,am,ar⟩:=eT.slice (P:=prog) (J.toH U.sub)
 refine Op.ap 5 6 22 22 7 5 1 br (ys:=s) ae U 0 ar (by(simp only[cA,bY,dU,e_,iP];omega)) (fun _ _ _=>trivial) am fun a5 aw a6 V a0 a7=>?_
 obtain⟨D,G,rfl⟩:=V.aj
 refine Op.pg 3 [(3,vL D ((([]:an)++s).length) G)] ?_
 exact At.gr 4 2 2 (vL D ((([]:an)++s).length) G) (hR a0 ⟨(vL D ((([]:an)++s).length) G),aw,rfl,eV V (by simp),rfl,rfl⟩)
theorem tM (B:World) (h:ax) (g:GH) (hg:bl g h) (bm:bq g) (ab:Value) (a:an) (ad:av g 5 br ab a) (ae:Value) (b:an) (am:av g 5 br ae b) (h1:a.length≤1000000000):
  aE prog B 19 #[ab,ae] h g [] (fun a4 g' L'=>a4=.bool (decide (a=b))∧g'=g∧L'=[]):=by
 obtain⟨ar,I,rfl⟩:=ad.aj
 obtain⟨aw,J,rfl⟩:=am.aj
 refine aE.aq func19 fun R hR=>?_
 have a0:=St.init hg
 refine At.go 1 1 [] ?_
 refine At.go 2 5 [(10,.bool ((a.length:Int) != (b.length:Int)))] ?_
 refine At.fn ((a.length:Int)=(b.length:Int)) 10 3 5 (fun bo=>?_) fun bt=>?_
 ·exact At.gr 4 1 4 (.bool false) (hR a0 ⟨(aS (by exact tN ‹_›)),rfl,rfl⟩)
 refine At.go 6 1 [(5,vI 0)] ?_
 have a5:∀(m:Nat) (i:Int) (O:ax) (hm:a.length-i.toNat<m) (h0:0≤i) (h2:i≤a.length) (ht:a.take i.toNat=b.take i.toNat) (u:St h g (aV []) g [] O),At (bX prog B 19 f19 R) [] 6 [(0,vL ar a.length I),(1,vL aw b.length J),(5,vI i)] O:=by
  intro m;induction m with
  |zero=>intros;omega
  |succ m a6=>
   intro i O hm h0 h2 ht u
   refine At.go 7 4 [(14,.bool (decide (i<(a.length:Int))))] ?_
   refine At.fd (i<(a.length:Int)) 14 8 13 (fun b3=>?_) fun a7=>?_
   ·refine At.dw (fun _=>False) [(0,true),(1,true),(2,true),(4,true),(5,true),(6,true),(3,true),(7,false),(8,true)] ?_
    refine Op.px 2 [(17,vL ar a.length I),(18,vI i)] ?_
    obtain⟨D,U⟩:=cG a i
    obtain⟨a8,a1,b4,b5,a9,bc,V⟩:=av.bF ad _ U
    cases a9
    refine Op.iq 22 5 1 1 a.length I 17 18 19 a8 a1 i ?_
    replace V:cut _ _ _=[.int .u8 (D.toNat:Int)]:=V
    refine Op.px 2 [(21,vL aw b.length J),(22,vI i)] ?_
    obtain⟨G,X⟩:=cG b i
    obtain⟨bd,a3,b6,b8,be,bi,Y⟩:=av.bF am _ X
    cases be
    refine Op.iq 22 5 1 1 b.length J 21 22 23 bd a3 i ?_
    replace Y:cut _ _ _=[.int .u8 (G.toNat:Int)]:=Y
    refine Op.gB (T:=5) (x:=19) (o:=a1+i.toNat*1) (d:=20) (n:=1) (v:=.int .u8 (D.toNat:Int)) (by kernel_rfl) (by kernel_rfl) (by kernel_rfl) (fun h=>h) (u.sub _ _ bc) (c_ V 0 rfl) ?_
    refine Op.l1 5 23 24 (a3+i.toNat*1) (.int .u8 (G.toNat:Int)) (u.sub _ _ bi) ?_ (hv:=c_ Y 0 rfl)
    refine Op.pg 9 [(25,.bool ((D.toNat:Int) != (G.toNat:Int)))] ?_
    refine At.fn ((D.toNat:Int)=(G.toNat:Int)) 25 10 12 (fun bj=>?_) fun bk=>?_
    ·exact At.gr 11 1 4 (.bool false) (hR u ⟨(aS (by exact tO U X (JY bj))),rfl,rfl⟩)
    refine At.rp 3 1 [(15,vI i)] ?_
    refine Op.vq 16 (i+1) ?_
    exact Op.pg 6 [(5,vI (i+1))] (At.ke (a6 (i+1) _ (by omega) (by omega) (by omega) (by exact qp ht h0 U X (JX bk)) u))
   exact At.gr 14 1 4 (.bool true) (hR u ⟨(aS (by exact tP ‹_› a7 ht)),rfl,rfl⟩)
 exact At.ke (a5 _ 0 _ (bM _) (by omega) (by omega) (by rfl) a0)
end Go.Proofs.YtceekbnihfckeaaGreatDoor.Sw
