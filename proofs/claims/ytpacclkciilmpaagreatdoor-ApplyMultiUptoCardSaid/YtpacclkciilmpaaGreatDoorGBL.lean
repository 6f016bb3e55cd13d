/- Lemmas for laws of this seat. -/
import Derived.Test.YtpacclkciilmpaaGreatDoorGBK
import Derived.Lib.ConvBytes
import Derived.Laws.MakeOwn
set_option maxHeartbeats 4000000
namespace Go.Proofs.YtpacclkciilmpaaGreatDoor.Sw
open Go.Proofs.Tryz
set_option linter.unusedVariables false
set_option linter.unusedSimpArgs false
set_option linter.deprecated false
open Go
set_option linter.defProp false
def xE:=@Nat.le_of_lt_succ
def rZ:=@not_or
def CT:=@List.pairwise_singleton
theorem PZ (h:av) (o:Obj) (f:Obj→Obj):(h.push o).modify h.size f=h.push (f o):=by
  apply BH
  intro k
  rw[yx,yw,yw]
  by_cases hk:h.size=k
  · subst hk;simp
  · rw[aB hk,aB (fun e=>hk e.symm),aB (fun e=>hk e.symm)]
section
variable {P:Program} {w:World} {t t' ty E:TypeId} {sz cR:Nat} {i:TypeInfo} {z:Value}
end
def va {α:Type} (T:TypeId) (d:Kd α) (g:GH) (v:Value) (xs:List α) (c:au):Prop:=
  ∃(b o cap q:Nat) (cur:Array Value) (rest:List α),v=.slice (some ⟨b,o,none⟩) xs.length cap∧c=[(b,.cells cur T (q,q+1))]∧cur.size≤q∧xs.length+rest.length=cap∧cap≤maxLen∧o+cap*d.sz≤cur.size∧Reads d g (xs++rest) (cut cur o (cap*d.sz))
def tJ {α:Type} (T:TypeId) (d:Kd α) (g:GH) (v:Value) (xs:List α) (c:au):Prop:=aF T d g v xs c∨va T d g v xs c
section
variable {α:Type} {d:Kd α} {g g':GH} {h h':av} {T:TypeId} {v:Value} {xs:List α} {c:au}
theorem tJ.ai (hr:tJ T d g v xs c):∃ao cap,v=.slice ao xs.length cap:=by
  rcases hr with h|⟨b,o,cap,q,cur,rest,e1,_⟩
  · exact h.ai
  · exact⟨_,_,e1⟩
theorem tJ.toH {h0:av} {g0:GH} {S0:Nat→Prop} {L:List au} (hr:tJ T d g v xs c) (s:St h0 g0 S0 g L h) (k:Nat) (hk:L[k]?=some c):ig h g T d v xs:=by
  rcases hr with hr|⟨b,o,cap,q,cur,rest,rfl,rfl,hq,h1,h2,h3,h4⟩
  · exact hr.toH s k hk
  · exact⟨_,cap,rfl,by omega,fun _=>⟨b,o,cur,(T,_,_),rfl,s.ag k hk,yD h1 h4⟩⟩
end
theorem va.freeze {α:Type} {d:Kd α} {g:GH} {h:av} {T:TypeId} {v:Value} {xs:List α} {c:au} {h0:av} {g0:GH} {S0:Nat→Prop} {L:List au} (hr:tJ T d g v xs c) (s:St h0 g0 S0 g (c::L) h):
    ∃g',St h0 g0 S0 g' L h∧aG g g'∧ay g' T d v xs:=by
  rcases hr with hr|⟨b,o,cap,q,cur,rest,rfl,rfl,hq,h1,h2,h3,h4⟩
  · exact hr.freeze s
  · obtain⟨u,hle⟩:=s.freeze
    exact⟨_,u,hle,_,cap,rfl,by omega,fun _=>⟨b,o,cur,(T,_,_),rfl,iQ _ _,(yD h1 h4).mono hle⟩⟩
section
variable {C:fC} {ds:List Deferred} {i j:Nat} {r:av} {M:Nat→Prop} {Ls:List (Nat×Bool)} {e:Env} {h:av}
variable {h0:av} {g0:GH} {S0:Nat→Prop} {g:GH} {L:List au}
theorem Op.toBytes {dst:Nat} {T S E:TypeId} {x:Operand} {l:aj} (ho:c7 C i j e=some (some dst,.convert S T x)) (hS:C.P.underlying S=some .string) (hT:C.P.underlying T=some (.slice E)) (hE:C.P.underlying E=some (.int .u8))
    (hx:e.ev x=.string (a_ l)) (hl:l.length≤140737488355328) (s:St h0 g0 S0 g L h)
    (K:∀v c h',tJ E bn g v l c→St h0 g0 S0 g (c::L) h'→Op C ds i r M Ls ((dst,v)::e) h'):Op C ds i r M ((j,false)::Ls) e h:=by
  obtain⟨o',h1,h2,h3⟩:=gw ho
  refine Op.run h1 (R:=fun D h'=>∃v c,D=.value v∧tJ E bn g v l c∧St h0 g0 S0 g (c::L) h'∧(dK r M h→dK r M h')) ?_ ?_
  · intro w is
    have hh:=is.heap
    have hsz:(a_ l).size=l.length:=pz l
    have hrun:=Lib.run_convert_string_bytes (P:=C.P) w S T E (a_ l) hS hT hE
    have hheap:(Lib.bytesWorld w E (a_ l)).heap=w.heap.push (.cells (Lib.bytesCells w E (a_ l)) E ((Lib.bytesCells w E (a_ l)).size,(Lib.bytesCells w E (a_ l)).size+1)):=by
      simp only[Lib.bytesWorld,World.freeze,World.alloc,World.drew]
      rw[aB (by decide)]
      dsimp only
      rw[PZ]
      simp
    have O:=wA w l.length 0 E
    have G:=Bk w l.length 0 E (by unfold maxLen;omega)
    have u:(Lib.bytesCells w E (a_ l)).size=grownCap w l.length 0 E:=by
      unfold Lib.bytesCells
      rw[Be,BE,Array.size_replicate,hsz]
      show(a_ l).size+_=_
      omega
    refine⟨_,Lib.bytesWorld w E (a_ l),?_,⟨rfl,?_,?_,?_⟩,_,[(w.heap.size,.cells (Lib.bytesCells w E (a_ l)) E ((Lib.bytesCells w E (a_ l)).size,(Lib.bytesCells w E (a_ l)).size+1))],rfl,.inr ⟨w.heap.size,0,grownCap w l.length 0 E,_,_,List.replicate (grownCap w l.length 0 E-l.length) 0,rfl,rfl,iO _,by simp;omega,G,by rw[u];simp[bn],?_⟩,?_,?_⟩
    · unfold fc execOp
      simp only[h3,hx,Sem.run_bind,hrun,hsz,Result.andThen_ok,Sem.run_pure]
    · exact is.os
    · exact is.tape
    · exact is.output
    · have e1:cut (Lib.bytesCells w E (a_ l)) 0 (grownCap w l.length 0 E*bn.sz)=(l.map fun b=>Value.int .u8 b.toNat)++List.replicate (grownCap w l.length 0 E-l.length) (.int .u8 0):=by
        unfold cut
        rw[ux,eR (by rw[qn,u];simp[bn])]
        unfold Lib.bytesCells
        rw[hsz,Bf,Array.toList_map,Array.toList_replicate]
        rfl
      rw[e1]
      refine(E9 g l).append ?_
      generalize grownCap w l.length 0 E-l.length=q
      induction q with
      |zero=>rfl
      |succ q ih=>rw[wu,wu];exact⟨[.int .u8 0],_,rfl,rfl,ih⟩
    · rw[hheap,hh];exact s.alloc _
    · intro I;rw[hheap,hh];exact dK.push _ I
  · rintro _ _ ⟨v,c,rfl,hrow,hst,J⟩
    refine⟨v,rfl,J,?_⟩
    rw[h2]
    exact K v c _ hrow hst
end
set_option maxRecDepth 100000
def IE (g:GH) (a:Bool) (v:Value):Prop:=v=.bool a
abbrev oO:Array Value:=#[vF,vF,vF,vF,vF,vF,vF]
abbrev vb:Array Value:=#[vT,vF,vF,vF,vF,vT,vF]
abbrev fO:Array Value:=#[vI 0,vS [],vN,vI 0,vI 0,vF,vF,vF,vN]
abbrev pX:Value:=(.tuple #[vN,vI 130])
abbrev qJ:List Value:=[.agg #[vI 0,vS [],vN,vI 0,vI 0,vF,vF,vF,vN],vF]
abbrev CU:List Value:=[.agg #[vI 0,vS [],vN,vI 0,vI 0,vF,vF,vF,vN],vI 130]
abbrev r4:Array Value:=#[vS ([47]),vN,vI 0,vI (-1),vI 0,vI 0]
theorem P0 (B:World) (h:av) (g:GH) (hg:bf g h) (am:bh g) (kind:Int):
  aA prog B 84 #[vI kind] h g [] (fun ab g' L'=>ab=.tuple #[.agg #[.bool ((bJ kind).ey),.bool ((bJ kind).data),.bool ((bJ kind).j7),.bool ((bJ kind).dO),.bool ((bJ kind).make),.bool ((bJ kind).watch),.bool ((bJ kind).ops)],.bool (oM kind)]∧g'=g∧L'=[]):=by
 refine aA.aq func84 fun R hR=>At.rg 2<|Op.al 2 155 oO (St.init hg) fun ar aw u=>Op.pg 1 []<|At.go 2 1 [(4,vI kind)] ?_
 refine At.go 3 2 [(5,.bool (kind==1))]<|At.fd (kind=1) 5 4 6 (fun a0=>?_) fun a1=>?_
 ·exact At.rp 3 1 [(7,.agg #[vF,vF,vF,vT,vF,vF,vF])]<|Op.sg 155 2 7 0 0 #[vF,vF,vF,vT,vF,vF,vF] u zt fun a3 D=>Op.pg 5 [(3,vT)]<|At.rn f84 [.agg #[vF,vF,vF,vT,vF,vF,vF],vT] [.cell 2 155,.tmp 3] ⟨⟨_,_,rfl,dB (n:=7) (by kernel_rfl) (D.ag 0 rfl) (by kernel_rfl) rfl⟩,rfl,trivial⟩ (hR D.drop ⟨bM (by(subst_vars;rfl)) (aS (by(subst_vars;rfl))),rfl,rfl⟩)
 refine At.go 7 2 [(8,.bool (kind==2))]<|At.fd (kind=2) 8 9 8 (fun ad=>?_) fun a4=>?_
 ·refine At.kT 8 ad<|At.bX 8 10<|At.rp 3 1 [(11,.agg oO)]<|Op.sg 155 2 11 0 0 oO u zt fun a5 G=>Op.pg 5 [(3,vT)] ?_
  exact At.rn f84 [.agg oO,vT] [.cell 2 155,.tmp 3] ⟨⟨_,_,rfl,dB (n:=7) (by kernel_rfl) (G.ag 0 rfl) (by kernel_rfl) rfl⟩,rfl,trivial⟩ (hR G.drop ⟨bM (by(subst_vars;rfl)) (aS (by(subst_vars;rfl))),rfl,rfl⟩)
 refine At.go 9 2 [(8,.bool (kind==9))]<|At.fd (kind=9) 8 10 12 (fun a6=>?_) fun a7=>?_
 ·exact At.rp 3 1 [(11,.agg oO)]<|Op.sg 155 2 11 0 0 oO u zt fun a8 I=>Op.pg 5 [(3,vT)]<|At.rn f84 [.agg oO,vT] [.cell 2 155,.tmp 3] ⟨⟨_,_,rfl,dB (n:=7) (by kernel_rfl) (I.ag 0 rfl) (by kernel_rfl) rfl⟩,rfl,trivial⟩ (hR I.drop ⟨bM (by(subst_vars;rfl)) (aS (by(subst_vars;rfl))),rfl,rfl⟩)
 refine At.go 13 2 [(12,.bool (kind==3))]<|At.fd (kind=3) 12 14 16 (fun a9=>?_) fun bb=>?_
 ·exact At.rp 3 1 [(14,.agg #[vT,vT,vF,vF,vT,vF,vF])]<|Op.sg 155 2 14 0 0 #[vT,vT,vF,vF,vT,vF,vF] u zt fun bc J=>Op.pg 5 [(3,vT)]<|At.rn f84 [.agg #[vT,vT,vF,vF,vT,vF,vF],vT] [.cell 2 155,.tmp 3] ⟨⟨_,_,rfl,dB (n:=7) (by kernel_rfl) (J.ag 0 rfl) (by kernel_rfl) rfl⟩,rfl,trivial⟩ (hR J.drop ⟨bM (by(subst_vars;rfl)) (aS (by(subst_vars;rfl))),rfl,rfl⟩)
 refine At.go 17 2 [(15,.bool (kind==4))]<|At.fd (kind=4) 15 18 20 (fun bd=>?_) fun be=>?_
 ·exact At.rp 3 1 [(17,.agg #[vT,vF,vT,vF,vF,vF,vF])]<|Op.sg 155 2 17 0 0 #[vT,vF,vT,vF,vF,vF,vF] u zt fun bi O=>Op.pg 5 [(3,vT)]<|At.rn f84 [.agg #[vT,vF,vT,vF,vF,vF,vF],vT] [.cell 2 155,.tmp 3] ⟨⟨_,_,rfl,dB (n:=7) (by kernel_rfl) (O.ag 0 rfl) (by kernel_rfl) rfl⟩,rfl,trivial⟩ (hR O.drop ⟨bM (by(subst_vars;rfl)) (aS (by(subst_vars;rfl))),rfl,rfl⟩)
 refine At.go 21 2 [(18,.bool (kind==5))]<|At.fd (kind=5) 18 22 24 (fun bj=>?_) fun bk=>?_
 ·exact At.rp 3 1 [(20,.agg #[vT,vT,vT,vF,vF,vF,vF])]<|Op.sg 155 2 20 0 0 #[vT,vT,vT,vF,vF,vF,vF] u zt fun bm U=>Op.pg 5 [(3,vT)]<|At.rn f84 [.agg #[vT,vT,vT,vF,vF,vF,vF],vT] [.cell 2 155,.tmp 3] ⟨⟨_,_,rfl,dB (n:=7) (by kernel_rfl) (U.ag 0 rfl) (by kernel_rfl) rfl⟩,rfl,trivial⟩ (hR U.drop ⟨bM (by(subst_vars;rfl)) (aS (by(subst_vars;rfl))),rfl,rfl⟩)
 refine At.go 25 2 [(21,.bool (kind==6))]<|At.fd (kind=6) 21 27 26 (fun ae=>?_) fun bo=>?_
 ·refine At.kT 21 ae<|At.bX 21 28<|At.rp 3 1 [(24,.agg vb)]<|Op.sg 155 2 24 0 0 vb u zt fun bs V=>Op.pg 5 [(3,vT)] ?_
  exact At.rn f84 [.agg vb,vT] [.cell 2 155,.tmp 3] ⟨⟨_,_,rfl,dB (n:=7) (by kernel_rfl) (V.ag 0 rfl) (by kernel_rfl) rfl⟩,rfl,trivial⟩ (hR V.drop ⟨bM (by(subst_vars;rfl)) (aS (by(subst_vars;rfl))),rfl,rfl⟩)
 refine At.go 27 2 [(21,.bool (kind==7))]<|At.fd (kind=7) 21 28 30 (fun bt=>?_) fun b3=>?_
 ·exact At.rp 3 1 [(24,.agg vb)]<|Op.sg 155 2 24 0 0 vb u zt fun b4 X=>Op.pg 5 [(3,vT)]<|At.rn f84 [.agg vb,vT] [.cell 2 155,.tmp 3] ⟨⟨_,_,rfl,dB (n:=7) (by kernel_rfl) (X.ag 0 rfl) (by kernel_rfl) rfl⟩,rfl,trivial⟩ (hR X.drop ⟨bM (by(subst_vars;rfl)) (aS (by(subst_vars;rfl))),rfl,rfl⟩)
 refine At.go 31 2 [(25,.bool (kind==8))]<|At.fd (kind=8) 25 32 34 (fun b5=>?_) fun b6=>?_
 ·exact At.rp 3 1 [(27,.agg #[vF,vF,vF,vF,vF,vF,vT])]<|Op.sg 155 2 27 0 0 #[vF,vF,vF,vF,vF,vF,vT] u zt fun b8 Y=>Op.pg 5 [(3,vT)]<|At.rn f84 [.agg #[vF,vF,vF,vF,vF,vF,vT],vT] [.cell 2 155,.tmp 3] ⟨⟨_,_,rfl,dB (n:=7) (by kernel_rfl) (Y.ag 0 rfl) (by kernel_rfl) rfl⟩,rfl,trivial⟩ (hR Y.drop ⟨bM (by(subst_vars;rfl)) (aS (by(subst_vars;rfl))),rfl,rfl⟩)
 exact At.rp 3 1 [(28,.agg oO)]<|Op.sg 155 2 28 0 0 oO u zt fun ca Z=>Op.pg 35 [(3,vF)]<|At.rn f84 [.agg oO,vF] [.cell 2 155,.tmp 3] ⟨⟨_,_,rfl,dB (n:=7) (by kernel_rfl) (Z.ag 0 rfl) (by kernel_rfl) rfl⟩,rfl,trivial⟩ (hR Z.drop ⟨bM (by(rw[PF (Ic ‹_› ‹_› ‹_› ‹_› ‹_› ‹_› ‹_› ‹_› ‹_›)])) (aS (by exact Ic ‹_› ‹_› ‹_› ‹_› ‹_› ‹_› ‹_› ‹_› ‹_› |> Eq.symm)),rfl,rfl⟩)
theorem P3 (B:World) (h:av) (g:GH) (hg:bf g h) (a4:bh g) (V:Value) (l:List aC) (X:ay g 36 eY V l) (f:Nat) (q:aC→Bool) (Y:aC→Prop) (hf:ei prog f) (hq:∀(B:World) (h:av) (g:GH),bf g h→bh g→∀(x:aC) (Z:Value) (bk:ay g 5 bn Z x.Data) (ab:Value) (bm:ay g 36 eY ab x.aH),Y x→aA prog B f #[.agg #[.int .i64 x.Kind,.string (a_ x.aa),Z,.int .i64 x.ak,.int .i64 x.aJ,.bool x.aZ,.bool x.aN,.bool x.ah,ab]] h g [] (fun v g' L'=>v=.bool (q x)∧g'=g∧L'=[])) (hall:∀x∈l,Y x) (hlen:l.length≤1000000000):
  aA prog B 122 #[V,.func (.func f) #[] #[]] h g [] (fun a5 g' L'=>a5=.int .i64 (eC q l)∧g'=g∧L'=[]):=by
 obtain⟨ad,O,rfl⟩:=X.ai
 refine aA.aq func122 fun R hR=>At.go 1 1 []<|At.go 2 3 [(7,vI (l.length:Int)),(8,vI 0)] ?_
 have a6:∀(m:Nat) (i:Int) (U:av) (hm:l.length-i.toNat<m) (h0:0≤i) (h1:i≤l.length) (I:findAt q l i) (D:St h g (aM []) g [] U),At (bS prog B 122 f122 R) [] 2 [(0,vL ad l.length O),(1,.func (.func f) #[] #[]),(7,vI (l.length:Int)),(8,vI i)] U:=by
  intro m;induction m with
  |zero=>intros;omega
  |succ m a7=>
   intro i U hm h0 h1 I D
   refine At.go 3 1 [(9,.bool (decide (i<(l.length:Int))))]<|At.fd (i<(l.length:Int)) 9 4 10 (fun bo=>?_) fun a8=>?_
   ·refine At.go 5 2 [(5,vI i)]<|At.rp 6 3 [(11,.func (.func f) #[] #[]),(12,vL ad l.length O),(13,vI i)] ?_
    obtain⟨u,J⟩:=cD l i
    obtain⟨a9,ae,bs,bt,bb,bc,G⟩:=ay.br X _ J
    cases bb
    refine Op.iq 34 36 9 96 l.length O 12 13 14 a9 ae i ?_
    replace G:=mP.1 G
    obtain⟨b3,b4,am,ar,G⟩:=G
    obtain⟨a37,aw,rfl⟩:=am.ai
    obtain⟨a0,a1,rfl⟩:=ar.ai
    refine Op.la 36 14 15 (ae+i.toNat*9) 9 [vI u.Kind,vS u.aa,vL a37 u.Data.length aw,vI u.ak,vI u.aJ,.bool u.aZ,.bool u.aN,.bool u.ah,vL a0 u.aH.length a1] (D.sub _ _ bc) ?_ (hv:=G)
    refine Op.cv (some 16) 11 #[15] #[36] f #[] #[] [] [] #[.agg #[vI u.Kind,vS u.aa,vL a37 u.Data.length aw,vI u.ak,vI u.aJ,.bool u.aZ,.bool u.aN,.bool u.ah,vL a0 u.aH.length a1]] hf (by kernel_rfl) D (hq _ _ _ D.sub a4 u _ am _ ar (by((try dsimp only)<;>(exact hall _ (cL J))))) (fun _ _ h=>absurd h (gq _)) ?_
    rintro _ bd _ b5 be a3 ⟨rfl,b6,rfl⟩;subst bd;clear be
    refine Op.gt 6<|At.c_ (q u) 16 7 9 (fun bi=>?_) fun bj=>?_
    ·exact At.gr 8 2 4 (vI i) (hR a3 ⟨(bp (by exact td I J bi)),rfl,rfl⟩)
    exact At.rg 2<|Op.vq 18 (i+1)<|Op.pg 2 [(8,vI (i+1))] (At.ke (a7 (i+1) _ (by omega) (by omega) (by omega) (by exact uL I h0 J bj) a3))
   exact At.gr 11 1 4 (vI (-1)) (hR D ⟨(bp (by exact tf I a8)),rfl,rfl⟩)
 exact At.ke (a6 _ 0 _ (bK _) (by omega) (by omega) (by exact uK _ _) (St.init hg))
theorem P4 (B:World) (h:av) (g:GH) (hg:bf g h) (U:bh g) (D:Value) (l:List aC) (G:ay g 36 eY D l) (f:Nat) (q:aC→Bool) (u:aC→Prop) (hf:ei prog f) (hq:∀(B:World) (h:av) (g:GH),bf g h→bh g→∀(x:aC) (I:Value) (ab:ay g 5 bn I x.Data) (J:Value) (ad:ay g 36 eY J x.aH),u x→aA prog B f #[.agg #[.int .i64 x.Kind,.string (a_ x.aa),I,.int .i64 x.ak,.int .i64 x.aJ,.bool x.aZ,.bool x.aN,.bool x.ah,J]] h g [] (fun v g' L'=>v=.bool (q x)∧g'=g∧L'=[])) (hall:∀x∈l,u x) (hlen:l.length≤1000000000):
  aA prog B 85 #[D,.func (.func f) #[] #[]] h g [] (fun V g' L'=>V=.bool (l.any q)∧g'=g∧L'=[]):=by
 obtain⟨X,Y,rfl⟩:=G.ai
 refine aA.aq func85 fun R hR=>?_
 have O:=St.init hg
 exact At.go 1 1 []<|At.rp 5 2 [(5,vL X l.length Y),(6,.func (.func f) #[] #[])]<|Op.c1 7 (P3 _ _ _ O.sub U _ _ G f q u hf hq (by(try dsimp only)<;>assumption) (by(try dsimp only)<;>assumption)) O fun ae Z=>Op.pr 2 4 (.bool (decide ((eC q l)≥0))) (hR Z ⟨(aS (by exact uJ _ _)),rfl,rfl⟩)
theorem P5 (mr:Nat) (ae:∀(B:World) (h:av) (g:GH) (hg:bf g h) (G:bh g) (o:aC) (I:Value) (aw:ay g 5 bn I o.Data) (J:Value) (a0:ay g 36 eY J o.aH) (bU:Bool) (hs:cY o≤1000000000) (am:cY o<mr),aA prog B 46 #[.agg #[vI o.Kind,vS o.aa,I,vI o.ak,vI o.aJ,.bool o.aZ,.bool o.aN,.bool o.ah,J],.bool bU] h g [] (fun u g' L'=>u=.bool (dV bU o)∧g'=g∧L'=[])) (B:World) (h:av) (g:GH) (hg:bf g h) (G:bh g) (x:aC) (O:Value) (U:ay g 5 bn O x.Data) (V:Value) (X:ay g 36 eY V x.aH) (hs:cY x≤1000000000) (am:cY x<mr):
  aA prog B 86 #[.agg #[vI x.Kind,vS x.aa,O,vI x.ak,vI x.aJ,.bool x.aZ,.bool x.aN,.bool x.ah,V]] h g [] (fun u g' L'=>u=.bool (!dV true x)∧g'=g∧L'=[]):=by
 obtain⟨Y,Z,rfl⟩:=U.ai
 obtain⟨ab,ad,rfl⟩:=X.ai
 refine aA.aq func86 fun R hR=>At.rg 2<|Op.bx 1 36 0 #[vI x.Kind,vS x.aa,vL Y x.Data.length Z,vI x.ak,vI x.aJ,.bool x.aZ,.bool x.aN,.bool x.ah,vL ab x.aH.length ad] (St.init hg) fun a1 a3 D=>Op.pg 1 []<|At.rg 4 ?_
 exact Op.la 36 1 3 0 9 [vI x.Kind,vS x.aa,vL Y x.Data.length Z,vI x.ak,vI x.aJ,.bool x.aZ,.bool x.aN,.bool x.ah,vL ab x.aH.length ad] (D.ag 0 rfl)<|Op.c1 4 (ae _ _ _ D.sub G x _ U _ X true (by(try dsimp only)<;>omega) ‹_›) D fun a4 ar=>Op.pr 2 2 (.bool (!(dV true x))) (hR ar.drop ⟨(aS (by rfl)),rfl,rfl⟩)
theorem P6 (mr:Nat):∀(B:World) (h:av) (g:GH) (hg:bf g h) (ar:bh g) (o:aC) (aw:Value) (bj:ay g 5 bn aw o.Data) (a0:Value) (a1:ay g 36 eY a0 o.aH) (bU:Bool) (hs:cY o≤1000000000) (bk:cY o<mr),aA prog B 46 #[.agg #[vI o.Kind,vS o.aa,aw,vI o.ak,vI o.aJ,.bool o.aZ,.bool o.aN,.bool o.ah,a0],.bool bU] h g [] (fun du g' L'=>du=.bool (dV bU o)∧g'=g∧L'=[]):=by
 induction mr with
 |zero=>intros;omega
 |succ mr dv=>
 intro B h g hg ar o aw bj a0 a1 bU hs bk
 obtain⟨O,U,rfl⟩:=bj.ai
 obtain⟨I,J,rfl⟩:=a1.ai
 refine aA.aq func46 fun R hR=>At.rg 2<|Op.bx 2 36 0 #[vI o.Kind,vS o.aa,vL O o.Data.length U,vI o.ak,vI o.aJ,.bool o.aZ,.bool o.aN,.bool o.ah,vL I o.aH.length J] (St.init hg) fun u ea a3=>Op.pg 1 []<|At.rp 9 1 [(8,vP u)] ?_
 refine Op.l1 3 8 9 0 (vI o.Kind) (a3.ag 0 rfl)<|Op.c1 10 (P0 _ _ _ a3.sub ar o.Kind) a3 fun eb dC=>Op.px 3 [(11,.agg #[.bool ((bJ o.Kind).ey),.bool ((bJ o.Kind).data),.bool ((bJ o.Kind).j7),.bool ((bJ o.Kind).dO),.bool ((bJ o.Kind).make),.bool ((bJ o.Kind).watch),.bool ((bJ o.Kind).ops)]),(12,.bool (oM o.Kind))]<|Op.al 5 155 oO dC fun D ed dE=>Op.sg 155 5 11 0 0 #[.bool ((bJ o.Kind).ey),.bool ((bJ o.Kind).data),.bool ((bJ o.Kind).j7),.bool ((bJ o.Kind).dO),.bool ((bJ o.Kind).make),.bool ((bJ o.Kind).watch),.bool ((bJ o.Kind).ops)] dE zt fun ee X=>?_
 refine Op.pg 2 [(6,.bool (oM o.Kind))] ?_
 have a4:∀(m:Nat) (a5:av) (hm:0<m) (hA:rA o bU=true) (Y:St h g (aM []) g [[(D,Obj.cells #[.bool ((bJ o.Kind).ey),.bool ((bJ o.Kind).data),.bool ((bJ o.Kind).j7),.bool ((bJ o.Kind).dO),.bool ((bJ o.Kind).make),.bool ((bJ o.Kind).watch),.bool ((bJ o.Kind).ops)] 155 (0,0))],[(u,Obj.cells #[vI o.Kind,vS o.aa,vL O o.Data.length U,vI o.ak,vI o.aJ,.bool o.aZ,.bool o.aN,.bool o.ah,vL I o.aH.length J] 36 (0,0))]] a5),At (bS prog B 46 f46 R) [] 8 [(2,vP u),(5,vP D)] a5:=by
  intro m;induction m with
  |zero=>intros;omega
  |succ m ef=>
   intro a5 hm hA Y
   have bm:∀(m:Nat) (a6:av) (hm:0<m) (bo:tv o=true) (Z:St h g (aM []) g [[(D,Obj.cells #[.bool ((bJ o.Kind).ey),.bool ((bJ o.Kind).data),.bool ((bJ o.Kind).j7),.bool ((bJ o.Kind).dO),.bool ((bJ o.Kind).make),.bool ((bJ o.Kind).watch),.bool ((bJ o.Kind).ops)] 155 (0,0))],[(u,Obj.cells #[vI o.Kind,vS o.aa,vL O o.Data.length U,vI o.ak,vI o.aJ,.bool o.aZ,.bool o.aN,.bool o.ah,vL I o.aH.length J] 36 (0,0))]] a6),At (bS prog B 46 f46 R) [] 10 [(2,vP u),(5,vP D)] a6:=by
    intro m;induction m with
    |zero=>intros;omega
    |succ m eh=>
     intro a6 hm bo Z
     have bs:∀(m:Nat) (a7:av) (hm:0<m) (bt:tC o=true) (ab:St h g (aM []) g [[(D,Obj.cells #[.bool ((bJ o.Kind).ey),.bool ((bJ o.Kind).data),.bool ((bJ o.Kind).j7),.bool ((bJ o.Kind).dO),.bool ((bJ o.Kind).make),.bool ((bJ o.Kind).watch),.bool ((bJ o.Kind).ops)] 155 (0,0))],[(u,Obj.cells #[vI o.Kind,vS o.aa,vL O o.Data.length U,vI o.ak,vI o.aJ,.bool o.aZ,.bool o.aN,.bool o.ah,vL I o.aH.length J] 36 (0,0))]] a7),At (bS prog B 46 f46 R) [] 12 [(2,vP u),(5,vP D)] a7:=by
      intro m;induction m with
      |zero=>intros;omega
      |succ m ej=>
       intro a7 hm bt ab
       have b3:∀(m:Nat) (a8:av) (hm:0<m) (b4:tD o=true) (ad:St h g (aM []) g [[(D,Obj.cells #[.bool ((bJ o.Kind).ey),.bool ((bJ o.Kind).data),.bool ((bJ o.Kind).j7),.bool ((bJ o.Kind).dO),.bool ((bJ o.Kind).make),.bool ((bJ o.Kind).watch),.bool ((bJ o.Kind).ops)] 155 (0,0))],[(u,Obj.cells #[vI o.Kind,vS o.aa,vL O o.Data.length U,vI o.ak,vI o.aJ,.bool o.aZ,.bool o.aN,.bool o.ah,vL I o.aH.length J] 36 (0,0))]] a8),At (bS prog B 46 f46 R) [] 14 [(2,vP u),(5,vP D)] a8:=by
        intro m;induction m with
        |zero=>intros;omega
        |succ m em=>
         intro a8 hm b4 ad
         have b5:∀(m:Nat) (a9:av) (hm:0<m) (b6:tE o=true) (V:St h g (aM []) g [[(D,Obj.cells #[.bool ((bJ o.Kind).ey),.bool ((bJ o.Kind).data),.bool ((bJ o.Kind).j7),.bool ((bJ o.Kind).dO),.bool ((bJ o.Kind).make),.bool ((bJ o.Kind).watch),.bool ((bJ o.Kind).ops)] 155 (0,0))],[(u,Obj.cells #[vI o.Kind,vS o.aa,vL O o.Data.length U,vI o.ak,vI o.aJ,.bool o.aZ,.bool o.aN,.bool o.ah,vL I o.aH.length J] 36 (0,0))]] a9),At (bS prog B 46 f46 R) [] 16 [(2,vP u),(5,vP D)] a9:=by
          intro m;induction m with
          |zero=>intros;omega
          |succ m en=>
           intro a9 hm b6 V
           have b8:∀(m:Nat) (bb:av) (hm:0<m) (ca:rQ o=true) (ae:St h g (aM []) g [[(D,Obj.cells #[.bool ((bJ o.Kind).ey),.bool ((bJ o.Kind).data),.bool ((bJ o.Kind).j7),.bool ((bJ o.Kind).dO),.bool ((bJ o.Kind).make),.bool ((bJ o.Kind).watch),.bool ((bJ o.Kind).ops)] 155 (0,0))],[(u,Obj.cells #[vI o.Kind,vS o.aa,vL O o.Data.length U,vI o.ak,vI o.aJ,.bool o.aZ,.bool o.aN,.bool o.ah,vL I o.aH.length J] 36 (0,0))]] bb),At (bS prog B 46 f46 R) [] 18 [(2,vP u),(5,vP D)] bb:=by
            intro m;induction m with
            |zero=>intros;omega
            |succ m eo=>
             intro bb hm ca ae
             have cb:∀(m:Nat) (bc:av) (hm:0<m) (ce:tF o=true) (am:St h g (aM []) g [[(D,Obj.cells #[.bool ((bJ o.Kind).ey),.bool ((bJ o.Kind).data),.bool ((bJ o.Kind).j7),.bool ((bJ o.Kind).dO),.bool ((bJ o.Kind).make),.bool ((bJ o.Kind).watch),.bool ((bJ o.Kind).ops)] 155 (0,0))],[(u,Obj.cells #[vI o.Kind,vS o.aa,vL O o.Data.length U,vI o.ak,vI o.aJ,.bool o.aZ,.bool o.aN,.bool o.ah,vL I o.aH.length J] 36 (0,0))]] bc),At (bS prog B 46 f46 R) [] 20 [(2,vP u),(5,vP D)] bc:=by
              intro m;induction m with
              |zero=>intros;omega
              |succ m ep=>
               intro bc hm ce am
               have cf:∀(m:Nat) (bd:av) (hm:0<m) (ch:rR o=true) (G:St h g (aM []) g [[(D,Obj.cells #[.bool ((bJ o.Kind).ey),.bool ((bJ o.Kind).data),.bool ((bJ o.Kind).j7),.bool ((bJ o.Kind).dO),.bool ((bJ o.Kind).make),.bool ((bJ o.Kind).watch),.bool ((bJ o.Kind).ops)] 155 (0,0))],[(u,Obj.cells #[vI o.Kind,vS o.aa,vL O o.Data.length U,vI o.ak,vI o.aJ,.bool o.aZ,.bool o.aN,.bool o.ah,vL I o.aH.length J] 36 (0,0))]] bd),At (bS prog B 46 f46 R) [] 24 [(2,vP u)] bd:=by
                intro m;induction m with
                |zero=>intros;omega
                |succ m er=>
                 intro bd hm ch G
                 refine At.rp 4 1 [(89,vQ u 3)]<|Op.l1 3 89 90 3 (vI o.ak) (G.ag 1 rfl)<|Op.pg 25 [(88,.bool (decide (o.ak<((-1):Int))))]<|At.fd (o.ak<((-1):Int)) 88 33 26 (fun dT=>?_) fun et=>?_
                 ·exact At.kT 88 dT<|At.bX 88 34<|At.gr 7 1 4 vF (hR G.drop.drop ⟨(aS (by exact(xA (xB (by omega))).symm)),rfl,rfl⟩)
                 refine At.rp 4 1 [(92,vQ u 3)]<|Op.l1 3 92 93 3 (vI o.ak) (G.ag 1 rfl)<|Op.pg 27 [(88,.bool (decide (o.ak≥1099511627776)))]<|At.fd (o.ak≥1099511627776) 88 33 28 (fun d0=>?_) fun ex=>?_
                 ·exact At.kT 88 d0<|At.bX 88 34<|At.gr 7 1 4 vF (hR G.drop.drop ⟨(aS (by exact(xA (xB (by omega))).symm)),rfl,rfl⟩)
                 refine At.rp 4 1 [(95,vQ u 4)]<|Op.l1 3 95 96 4 (vI o.aJ) (G.ag 1 rfl)<|Op.pg 29 [(88,.bool (decide (o.aJ<0)))]<|At.fd (o.aJ<0) 88 33 30 (fun d1=>?_) fun eA=>?_
                 ·exact At.kT 88 d1<|At.bX 88 34<|At.gr 7 1 4 vF (hR G.drop.drop ⟨(aS (by exact(xA (xB (by omega))).symm)),rfl,rfl⟩)
                 refine At.rp 4 1 [(98,vQ u 4)]<|Op.l1 3 98 99 4 (vI o.aJ) (G.ag 1 rfl)<|Op.pg 31 [(88,.bool (decide (o.aJ≥1099511627776)))]<|At.fd (o.aJ≥1099511627776) 88 33 32 (fun d2=>?_) fun eB=>?_
                 ·exact At.kT 88 d2<|At.bX 88 34<|At.gr 7 1 4 vF (hR G.drop.drop ⟨(aS (by exact(xA (xB (by omega))).symm)),rfl,rfl⟩)
                 refine At.rp 5 1 [(101,vQ u 8)]<|Op.l1 34 101 102 8 (vL I o.aH.length J) (G.ag 1 rfl)<|Op.pg 33 [(88,.bool (decide ((o.aH.length:Int)>4)))]<|At.fd ((o.aH.length:Int)>4) 88 34 36 (fun eI=>?_) fun eJ=>?_
                 ·exact At.gr 7 1 4 vF (hR G.drop.drop ⟨(aS (by exact(xA (xB (by omega))).symm)),rfl,rfl⟩)
                 exact At.rp 5 1 [(105,vQ u 8)]<|Op.l1 34 105 106 8 (vL I o.aH.length J) (G.ag 1 rfl)<|Op.c1 107 (P4 _ _ _ G.sub ar _ _ a1 86 (fun x=>!dV true x) (fun x=>cY x<cY o) (ei.of (by kernel_rfl)) (fun B h g hg ar x v2 h2 d3 h8 hc=>P5 mr dv B h g hg ar x v2 h2 d3 h8 (by omega) (qm hc (xE bk))) (by(try dsimp only)<;>exact fun x hx=>mm hx) (by((try dsimp only)<;>((have:=gu o;omega))))) G fun eK d4=>Op.pr 37 4 (.bool (!(o.aH.any (fun x=>!dV true x)))) (hR d4.drop.drop ⟨(aS (by exact PN hA bo bt b4 b6 ca ce ch (PO ‹_› ‹_› ‹_› ‹_› ‹_›))),rfl,rfl⟩)
               refine At.rp 10 1 [(79,vQ D 6)]<|Op.l1 4 79 80 6 (.bool ((bJ o.Kind).ops)) (am.ag 0 rfl)<|Op.px 2 [(82,.bool (!((bJ o.Kind).ops)))]<|Op.wb (!((bJ o.Kind).ops)) 82 (fun ci=>?_) fun ck=>?_
               ·replace ci:=(dm ci)
                refine Op.px 1 [(83,vQ u 8)]<|Op.l1 34 83 84 8 (vL I o.aH.length J) (am.ag 1 rfl)<|Op.pg 21 [(27,.bool ((o.aH.length:Int) != 0))]<|At.fn ((o.aH.length:Int)=0) 27 22 24 (fun eL=>?_) fun eQ=>?_
                ·exact At.gr 7 1 4 vF (hR am.drop.drop ⟨(aS (by(refine(PM ?_).symm;unfold rR;simp_all;done))),rfl,rfl⟩)
                exact At.ke (cf _ _ (bK _) (by(unfold rR;simp[*];done)) am)
               replace ck:=(dn ck)
               exact Op.pg 21 [(27,vF)]<|At.dP 27 24 (At.ke (cf _ _ (bK _) (by(unfold rR;simp[*];done)) am))
             refine At.rp 8 1 [(72,vQ D 5)]<|Op.l1 4 72 73 5 (.bool ((bJ o.Kind).watch)) (ae.ag 0 rfl)<|Op.px 2 [(75,.bool (!((bJ o.Kind).watch)))]<|Op.wb (!((bJ o.Kind).watch)) 75 (fun co=>?_) fun c3=>?_
             ·replace co:=(dm co)
              refine Op.px 1 [(76,vQ u 7)]<|Op.l1 4 76 77 7 (.bool o.ah) (ae.ag 1 rfl)<|Op.pg 19 [(27,.bool o.ah)]<|At.c_ o.ah 27 21 20 (fun d5=>?_) fun eT=>?_
              ·exact At.kB 27 d5<|At.bX 27 22<|At.gr 7 1 4 vF (hR ae.drop.drop ⟨(aS (by(refine(PL ?_).symm;unfold tF;simp[*];done))),rfl,rfl⟩)
              exact At.ke (cb _ _ (bK _) (by(unfold tF;simp[*];done)) ae)
             replace c3:=(dn c3)
             exact Op.pg 19 [(27,vF)]<|At.dP 27 20 (At.ke (cb _ _ (bK _) (by(unfold tF;simp[*];done)) ae))
           refine At.rp 12 1 [(61,vQ D 4)]<|Op.l1 4 61 62 4 (.bool ((bJ o.Kind).make)) (V.ag 0 rfl)<|Op.px 2 [(64,.bool (!((bJ o.Kind).make)))]<|Op.wb (!((bJ o.Kind).make)) 64 (fun c4=>?_) fun c5=>?_
           ·replace c4:=(dm c4)
            refine Op.px 1 [(65,vQ u 5)]<|Op.l1 4 65 66 5 (.bool o.aZ) (V.ag 1 rfl)<|Op.px 1 [(67,.bool o.aZ)]<|Op.wb o.aZ 67 (fun e1=>?_) fun e2=>?_
            ·exact Op.pg 17 [(27,vT)]<|At.bX 27 21<|At.bX 27 22<|At.gr 7 1 4 vF (hR V.drop.drop ⟨(aS (by(refine(Ih ?_).symm;unfold rQ;simp[*];done))),rfl,rfl⟩)
            refine Op.px 1 [(68,vQ u 6)]<|Op.l1 4 68 69 6 (.bool o.aN) (V.ag 1 rfl)<|Op.pg 17 [(27,.bool o.aN)]<|At.c_ o.aN 27 21 18 (fun d6=>?_) fun e3=>?_
            ·exact At.kB 27 d6<|At.bX 27 22<|At.gr 7 1 4 vF (hR V.drop.drop ⟨(aS (by(refine(Ih ?_).symm;unfold rQ;simp[*];done))),rfl,rfl⟩)
            exact At.ke (b8 _ _ (bK _) (by(unfold rQ;simp[*];done)) V)
           replace c5:=(dn c5)
           exact Op.pg 17 [(27,vF)]<|At.dP 27 18 (At.ke (b8 _ _ (bK _) (by(unfold rQ;simp[*];done)) V))
         refine At.rp 9 1 [(53,vQ D 3)]<|Op.l1 4 53 54 3 (.bool ((bJ o.Kind).dO)) (ad.ag 0 rfl)<|Op.px 2 [(56,.bool (!((bJ o.Kind).dO)))]<|Op.wb (!((bJ o.Kind).dO)) 56 (fun c6=>?_) fun c8=>?_
         ·replace c6:=(dm c6)
          refine Op.px 1 [(57,vQ u 4)]<|Op.l1 3 57 58 4 (vI o.aJ) (ad.ag 1 rfl)<|Op.pg 15 [(27,.bool (o.aJ != 0))]<|At.fn (o.aJ=0) 27 21 16 (fun d7=>?_) fun e4=>?_
          ·exact At.nT 27 d7<|At.bX 27 22<|At.gr 7 1 4 vF (hR ad.drop.drop ⟨(aS (by(refine(PK ?_).symm;unfold tE;simp[*];done))),rfl,rfl⟩)
          exact At.ke (b5 _ _ (bK _) (by(unfold tE;simp[*];done)) ad)
         replace c8:=(dn c8)
         exact Op.pg 15 [(27,vF)]<|At.dP 27 16 (At.ke (b5 _ _ (bK _) (by(unfold tE;simp[*];done)) ad))
       refine At.rp 9 1 [(45,vQ D 2)]<|Op.l1 4 45 46 2 (.bool ((bJ o.Kind).j7)) (ab.ag 0 rfl)<|Op.px 2 [(48,.bool (!((bJ o.Kind).j7)))]<|Op.wb (!((bJ o.Kind).j7)) 48 (fun c9=>?_) fun da=>?_
       ·replace c9:=(dm c9)
        refine Op.px 1 [(49,vQ u 3)]<|Op.l1 3 49 50 3 (vI o.ak) (ab.ag 1 rfl)<|Op.pg 13 [(27,.bool (o.ak != 0))]<|At.fn (o.ak=0) 27 21 14 (fun d8=>?_) fun e5=>?_
        ·exact At.nT 27 d8<|At.bX 27 22<|At.gr 7 1 4 vF (hR ab.drop.drop ⟨(aS (by(refine(PJ ?_).symm;unfold tD;simp[*];done))),rfl,rfl⟩)
        exact At.ke (b3 _ _ (bK _) (by(unfold tD;simp[*];done)) ab)
       replace da:=(dn da)
       exact Op.pg 13 [(27,vF)]<|At.dP 27 14 (At.ke (b3 _ _ (bK _) (by(unfold tD;simp[*];done)) ab))
     refine At.rp 10 1 [(36,vQ D 1)]<|Op.l1 4 36 37 1 (.bool ((bJ o.Kind).data)) (Z.ag 0 rfl)<|Op.px 2 [(39,.bool (!((bJ o.Kind).data)))]<|Op.wb (!((bJ o.Kind).data)) 39 (fun db=>?_) fun dc=>?_
     ·replace db:=(dm db)
      refine Op.px 1 [(40,vQ u 2)]<|Op.l1 28 40 41 2 (vL O o.Data.length U) (Z.ag 1 rfl)<|Op.pg 11 [(27,.bool ((o.Data.length:Int) != 0))]<|At.fn ((o.Data.length:Int)=0) 27 21 12 (fun d9=>?_) fun e6=>?_
      ·exact At.nT 27 d9<|At.bX 27 22<|At.gr 7 1 4 vF (hR Z.drop.drop ⟨(aS (by(refine(PI ?_).symm;unfold tC;simp_all;done))),rfl,rfl⟩)
      exact At.ke (bs _ _ (bK _) (by(unfold tC;simp[*];done)) Z)
     replace dc:=(dn dc)
     exact Op.pg 11 [(27,vF)]<|At.dP 27 12 (At.ke (bs _ _ (bK _) (by(unfold tC;simp[*];done)) Z))
   refine At.rp 9 1 [(28,vP D)]<|Op.l1 4 28 29 0 (.bool ((bJ o.Kind).ey)) (Y.ag 0 rfl)<|Op.px 2 [(31,.bool (!((bJ o.Kind).ey)))]<|Op.wb (!((bJ o.Kind).ey)) 31 (fun dd=>?_) fun df=>?_
   ·replace dd:=(dm dd)
    refine Op.px 1 [(32,vQ u 1)]<|Op.l1 9 32 33 1 (vS o.aa) (Y.ag 1 rfl)<|Op.vl 34 (.bool (!((a_ o.aa).toList==(a_ []).toList))) (.bool (!(o.aa==([]:aj)))) (by rw[toList_mkS,toList_mkS])<|Op.pg 9 [(27,.bool (!(o.aa==([]:aj))))]<|At.c_ (!(o.aa==([]:aj))) 27 21 10 (fun be=>?_) fun dg=>?_
    ·refine At.kB 27 be ?_
     replace be:=rj (dm be)
     exact At.bX 27 22<|At.gr 7 1 4 vF (hR Y.drop.drop ⟨(aS (by(refine(PG ?_).symm;unfold tv;simp[*];done))),rfl,rfl⟩)
    replace dg:=eq_of_beq (dn dg)
    exact At.ke (bm _ _ (bK _) (by(unfold tv;simp[*];done)) Y)
   replace df:=(dn df)
   exact Op.pg 9 [(27,vF)]<|At.dP 27 10 (At.ke (bm _ _ (bK _) (by(unfold tv;simp[*];done)) Y))
 refine At.go 3 3 [(13,.bool (!(oM o.Kind)))]<|At.c_ (!(oM o.Kind)) 13 5 4 (fun bi=>?_) fun dj=>?_
 ·refine At.kB 13 bi ?_
  replace bi:=(dm bi)
  exact At.bX 13 6<|At.gr 7 1 4 vF (hR X.drop.drop ⟨(aS (by(refine(Ig ?_).symm;unfold rA;simp[*];done))),rfl,rfl⟩)
 replace dj:=(dn dj)
 refine At.rp 12 2 [(17,.bool bU)]<|Op.wb bU 17 (fun e7=>?_) fun e8=>?_
 ·refine Op.px 1 [(18,vQ D 4)]<|Op.l1 4 18 19 4 (.bool ((bJ o.Kind).make)) (X.ag 0 rfl)<|Op.px 3 [(22,.bool (!((bJ o.Kind).make)))]<|Op.wb (!((bJ o.Kind).make)) 22 (fun dk=>?_) fun dl=>?_
  ·replace dk:=(dm dk)
   refine Op.px 1 [(23,vQ D 2)]<|Op.l1 4 23 24 2 (.bool ((bJ o.Kind).j7)) (X.ag 0 rfl)<|Op.pg 5 [(13,.bool (!((bJ o.Kind).j7)))]<|At.c_ (!((bJ o.Kind).j7)) 13 6 8 (fun dp=>?_) fun dq=>?_
   ·replace dp:=(dm dp)
    exact At.gr 7 1 4 vF (hR X.drop.drop ⟨(aS (by(refine(Ig ?_).symm;unfold rA;simp[*];done))),rfl,rfl⟩)
   replace dq:=(dn dq)
   exact At.ke (a4 _ _ (bK _) (by(unfold rA;simp[*];done)) X)
  replace dl:=(dn dl)
  exact Op.pg 5 [(13,vF)]<|At.dP 13 8 (At.ke (a4 _ _ (bK _) (by(unfold rA;simp[*];done)) X))
 exact Op.pg 5 [(13,vF)]<|At.dP 13 8 (At.ke (a4 _ _ (bK _) (by(unfold rA;simp[*];done)) X))
theorem IF (B:World) (h:av) (g:GH) (hg:bf g h) (G:bh g) (o:aC) (u:Value) (I:ay g 5 bn u o.Data) (D:Value) (J:ay g 36 eY D o.aH) (bU:Bool) (hs:cY o≤1000000000):aA prog B 46 #[.agg #[vI o.Kind,vS o.aa,u,vI o.ak,vI o.aJ,.bool o.aZ,.bool o.aN,.bool o.ah,D],.bool bU] h g [] (fun O g' L'=>O=.bool (dV bU o)∧g'=g∧L'=[]):=P6 _ B h g hg G o u I D J bU hs (bK _)
theorem P7 (B:World) (h:av) (g:GH) (hg:bf g h) (c5:bh g) (o:aC) (a4:Value) (bs:ay g 5 bn a4 o.Data) (a5:Value) (bt:ay g 36 eY a5 o.aH):
  aA prog B 87 #[.agg #[vI o.Kind,vS o.aa,a4,vI o.ak,vI o.aJ,.bool o.aZ,.bool o.aN,.bool o.ah,a5]] h g [] (fun b3 g' L'=>b3=.int .i64 (iy o)∧g'=g∧L'=[]):=by
 obtain⟨a6,a7,rfl⟩:=bs.ai
 obtain⟨a8,a9,rfl⟩:=bt.ai
 refine aA.aq func87 fun R hR=>At.rg 2<|Op.bx 1 36 0 #[vI o.Kind,vS o.aa,vL a6 o.Data.length a7,vI o.ak,vI o.aJ,.bool o.aZ,.bool o.aN,.bool o.ah,vL a8 o.aH.length a9] (St.init hg) fun X c6 b4=>Op.pg 1 []<|At.go 2 1 [(3,vI 0)] ?_
 refine At.rg 12<|Op.makeMap (mt:=207) (dst:=6) (by kernel_rfl) b4 fun I c8 bb=>?_
 have b5:cC encI #[] 0 ([]:List (Int×Value)):=cC.empty _ _
 have b6:eS (IE g) [] ([]:List (Int×Bool)):=eS.nil
 refine Op.px 1 [(7,vQ X 5)]<|Op.l1 4 7 8 5 (.bool o.aZ) (bb.ag 1 rfl)<|Op.jQ (d:=.int .i64) (z:=vF) (mt:=207) (x:=6) (ix:=(.const (vI 1))) (y:=8) (k:=(1:Int)) (v:=.bool o.aZ) (.inr (by kernel_rfl)) (by kernel_rfl) iu (by kernel_rfl) (by kernel_rfl) (by kernel_rfl) bb 0 rfl b5 zt fun c9 da db b8 bc=>?_
 have ca:=eS.mI (k:=(1:Int)) (a:=o.aZ) (v:=.bool o.aZ) b6 rfl
 refine Op.px 1 [(9,vQ X 6)]<|Op.l1 4 9 10 6 (.bool o.aN) (bc.ag 1 rfl)<|Op.jQ (d:=.int .i64) (z:=vF) (mt:=207) (x:=6) (ix:=(.const (vI 2))) (y:=10) (k:=(2:Int)) (v:=.bool o.aN) (.inr (by kernel_rfl)) (by kernel_rfl) iu (by kernel_rfl) (by kernel_rfl) (by kernel_rfl) bc 0 rfl b8 zt fun dc dd df cb bd=>?_
 have ce:=eS.mI (k:=(2:Int)) (a:=o.aN) (v:=.bool o.aN) ca rfl
 refine Op.px 1 [(11,vQ X 7)]<|Op.l1 4 11 12 7 (.bool o.ah) (bd.ag 1 rfl)<|Op.jQ (d:=.int .i64) (z:=vF) (mt:=207) (x:=6) (ix:=(.const (vI 4))) (y:=12) (k:=(4:Int)) (v:=.bool o.ah) (.inr (by kernel_rfl)) (by kernel_rfl) iu (by kernel_rfl) (by kernel_rfl) (by kernel_rfl) bd 0 rfl cb zt fun cf am dg ar be=>?_
 have ch:=eS.mI (k:=(4:Int)) (a:=o.ah) (v:=.bool o.ah) ce rfl
 refine Op.px 1 [(13,.map (some I))]<|Op.rD (d:=.int .i64) (z:=vF) (mt:=207) (x:=13) (dst:=14) (m:=I) (by kernel_rfl) (by kernel_rfl) (by kernel_rfl) (be.ag 0 rfl) ar be fun Y ci dj aw ck=>?_
 replace aw:=aw.toD ar
 refine Op.gt 3 ?_
 have co:∀(m:Nat) (x1:List (Int×Bool)) (n:Int) (J:Array MapEntry) (G:List (Int×Value)) (Z:List (Int×Value)) (a0:Obj) (a1:av) (hm:Z.length<m) (O:jx o x1 Z G n) (U:cC encI J am G) (V:eS (IE g) G x1) (bi:jw encI J am I Z none a0) (ab:St h g (aM []) g [[(Y,a0)],[(I,.map J am)],[(X,Obj.cells #[vI o.Kind,vS o.aa,vL a6 o.Data.length a7,vI o.ak,vI o.aJ,.bool o.aZ,.bool o.aN,.bool o.ah,vL a8 o.aH.length a9] 36 (0,0))]] a1),At (bS prog B 87 f87 R) [] 3 [(3,vI n),(14,vP Y)] a1:=by
  intro m;induction m with
  |zero=>intros;omega
  |succ m bj=>
   intro x1 n J G Z a0 a1 hm O U V bi ab
   refine At.rg 2<|Op.CF (x:=14) (dst:=15) (it:=Y) (m:=I) (by kernel_rfl) (by kernel_rfl) (ab.ag 1 rfl) U bi ab 0 rfl zt ⟨fun u=>?_,fun bk D c3 bm bo dk u a3 ad=>?_⟩
   ·exact Op.pg 4 [(16,vF)]<|At.dP 16 9<|At.gr 10 2 2 (vI n) (hR ab.drop.drop.drop ⟨(bp (by exact O.iN u)),rfl,rfl⟩)
   have c4:(D,c3)∈G:=by exact O.mem u
   obtain⟨ae,dl,rfl⟩:=V.zH ((zG V.2.1).2 c4)
   refine Op.pg 4 [(16,vT)]<|At.bX 16 5<|At.rg 5<|Op.CG (x:=14) (dst:=17) (it:=Y) (m:=I) (k:=D) (v:=.bool ae) (by kernel_rfl) (by kernel_rfl) (ad.ag 1 rfl) U a3 (ad.ag 0 rfl)<|Op.pg 6 [(4,vI D),(5,.bool ae)] ?_
   refine At.go 7 1 [(20,.bool ae)]<|At.c_ ae 20 8 3 (fun dp=>?_) fun dq=>?_
   ·exact At.rp 4 2 [(21,vI n),(22,vI D)]<|Op.vl 23 (.int .i64 (IntKind.wrap .i64 (((BitVec.ofInt (IntKind.bits .i64) n ||| BitVec.ofInt (IntKind.bits .i64) D).toNat:Nat):Int))) (.int .i64 (n+D)) (O.PU u ‹_›)<|Op.pg 3 [(3,vI (n+D))] (At.ke (bj x1 (n+D) J G (bk++bm) bo _ (by(have hz:=congrArg List.length u;simp only[b_,bL] at hz ⊢;omega)) (by exact O.hit u ‹_› ‹_›) U V a3.xw ad))
   exact At.ke (bj x1 n J G (bk++bm) bo _ (by(have hz:=congrArg List.length u;simp only[b_,bL] at hz ⊢;omega)) (by exact O.jd u ‹_› ‹_›) U V a3.xw ad)
 exact At.ke (co _ (b7 (b7 (b7 ([]:List (Int×Bool)) (1:Int) o.aZ) (2:Int) o.aN) (4:Int) o.ah) 0 cf (h_ (h_ (h_ ([]:List (Int×Value)) (1:Int) (.bool o.aZ)) (2:Int) (.bool o.aN)) (4:Int) (.bool o.ah)) (h_ (h_ (h_ ([]:List (Int×Value)) (1:Int) (.bool o.aZ)) (2:Int) (.bool o.aN)) (4:Int) (.bool o.ah)) ci _ (bK _) (by exact PT ‹_› rfl) ar ch aw ck)
theorem P8 (mr:Nat):∀(B:World) (h:av) (g:GH) (hg:bf g h) (D:bh g) (o:aC) (a8:Value) (I:ay g 5 bn a8 o.Data) (a9:Value) (G:ay g 36 eY a9 o.aH) (hr:dV false o=true∨dV true o=true) (hs:cY o≤1000000000) (b6:cY o<mr),aA prog B 47 #[.agg #[vI o.Kind,vS o.aa,a8,vI o.ak,vI o.aJ,.bool o.aZ,.bool o.aN,.bool o.ah,a9]] h g [] (fun dd g' L'=>∃v0,dd=.tuple #[v0,.int .i64 ((cN o).2)]∧ay g' 5 bn v0 ((cN o).1)∧L'=[]):=by
 induction mr with
 |zero=>intros;omega
 |succ mr df=>
 intro B h g hg D o a8 I a9 G hr hs b6
 obtain⟨U,V,rfl⟩:=I.ai
 obtain⟨Z,X,rfl⟩:=G.ai
 refine aA.aq func47 fun R hR=>At.rg 3<|Op.bx 1 36 0 #[vI o.Kind,vS o.aa,vL U o.Data.length V,vI o.ak,vI o.aJ,.bool o.aZ,.bool o.aN,.bool o.ah,vL Z o.aH.length X] (St.init hg) fun J d6 Y=>Op.pg 1 []<|At.dw (fun _=>False) [(0,true),(2,true),(5,true),(1,true),(3,true),(4,true),(6,true),(7,false),(8,false),(9,false),(10,false),(11,true),(12,true),(13,true),(14,true),(15,true)] ?_
 refine Op.px 3 [(12,vP J),(14,vQ J 3),(17,vQ J 4)]<|Op.lf 3 12 0 13 1 (vI o.Kind) id (Y.ag 0 rfl)<|Op.lf 3 14 3 15 1 (vI o.ak) id (Y.ag 0 rfl)<|Op.dQ 16 (o.ak+1) (by(have h:=(tH hr).2.1;omega)) (by(have h:=(tH hr).2.1;omega))<|Op.lf 3 17 4 18 1 (vI o.aJ) id (Y.ag 0 rfl) ?_
 refine Op.la 36 1 19 0 9 [vI o.Kind,vS o.aa,vL U o.Data.length V,vI o.ak,vI o.aJ,.bool o.aZ,.bool o.aN,.bool o.ah,vL Z o.aH.length X] (Y.ag 0 rfl)<|Op.c1 20 (P7 _ _ _ Y.sub D o _ I _ G) Y fun d7 dg=>Op.ls 21 4 3 #[vI o.Kind,vI (o.ak+1),vI o.aJ,vI (iy o)] dg fun b8 d8 dj=>?_
 have dk:aF 3 (eF .i64) g (vL (some ⟨b8,0,none⟩) 4 4) [o.Kind,o.ak+1,o.aJ,iy o] [(b8,Obj.cells #[vI o.Kind,vI (o.ak+1),vI o.aJ,vI (iy o)] 3 (0,0))]:=aF.lit (by kernel_rfl) (by unfold maxLen;decide) (by kernel_rfl) ⟨_,_,rfl,rfl,⟨_,_,rfl,rfl,⟨_,_,rfl,rfl,⟨_,_,rfl,rfl,Reads.nil⟩⟩⟩⟩
 obtain⟨d9,ca,bb,dl⟩:=aF.freeze dk (dj)
 replace D:=D.mono bb
 replace I:=I.mono bb
 replace G:=G.mono bb
 refine Op.c0 (some 22) (CB _ _ _ ca.sub D _ _ dl (by((try dsimp only)<;>((simp;done))))) ca ?_
 rintro _ ea _ eb bc bd ⟨v37,rfl,ar,rfl⟩
 obtain⟨aw,a0,rfl⟩:=ar.ai
 replace D:=D.mono bc
 replace I:=I.mono bc
 replace G:=G.mono bc
 refine Op.pg 2 [(4,vL aw (((eD ([o.Kind,o.ak+1,o.aJ,iy o])).1).length) a0),(5,vI ((eD ([o.Kind,o.ak+1,o.aJ,iy o])).2))]<|At.go 3 2 [(26,.bool (((eD ([o.Kind,o.ak+1,o.aJ,iy o])).2) != 0))]<|At.fn (((eD ([o.Kind,o.ak+1,o.aJ,iy o])).2)=0) 26 4 6 (fun ed=>?_) fun ee=>?_
 ·exact At.go 5 3 [(2,vN),(3,vI ((eD ([o.Kind,o.ak+1,o.aJ,iy o])).2))]<|At.rt (.tuple #[vN,vI ((eD ([o.Kind,o.ak+1,o.aJ,iy o])).2)]) (hR bd.drop ⟨vN,bM rfl (bp (by exact absurd (congrArg Prod.snd (tH hr).1) ‹_›)),bP (ay.empty _ _ _ _ _) (by exact absurd (congrArg Prod.snd (tH hr).1) ‹_›),rfl⟩)
 refine At.rp 8 2 [(28,vL aw (((eD ([o.Kind,o.ak+1,o.aJ,iy o])).1).length) a0),(29,vQ J 1)]<|Op.l1 9 29 30 1 (vS o.aa) (bd.ag 0 rfl)<|Op.toBytes (S:=9) (T:=28) (E:=5) (x:=30) (dst:=31) (l:=o.aa) (by kernel_rfl) (by kernel_rfl) (by kernel_rfl) (by kernel_rfl) (by kernel_rfl) (by(have:=gu o;omega)) bd fun ef eh ej cb ce=>?_
 obtain⟨cf,ch,rfl⟩:=cb.ai
 refine Op.px 1 [(32,vQ J 2)]<|Op.l1 28 32 33 2 (vL U o.Data.length V) (ce.ag 1 rfl) ?_
 obtain⟨ci,dp,a1,dq⟩:=va.freeze cb (ce)
 replace D:=D.mono a1
 replace I:=I.mono a1
 replace G:=G.mono a1
 replace ar:=ar.mono a1
 refine Op.ls 34 3 28 #[vL aw (((eD ([o.Kind,o.ak+1,o.aJ,iy o])).1).length) a0,vL cf o.aa.length ch,vL U o.Data.length V] dp fun be em ck=>Op.pg 7 [(6,vL (some ⟨be,0,none⟩) 3 3)]<|At.rp 4 1 [(35,vQ J 8)]<|Op.l1 34 35 36 8 (vL Z o.aH.length X) (ck.ag 1 rfl)<|Op.pg 8 [(37,vI (o.aH.length:Int)),(38,vI 0)] ?_
 have du:∀(m:Nat) (a3:GH) (a4:aG ci a3) (cq:List aj) (i:Int) (ab:Option Addr) (ad:Nat) (bi:au) (bj:av) (hm:o.aH.length-i.toNat<m) (h0:0≤i) (h1:i≤o.aH.length) (hI:rT o cq i) (ae:aF 28 (jC 5 bn) a3 (.slice ab cq.length ad) cq bi) (a5:St h g (aM []) a3 [bi,[(J,Obj.cells #[vI o.Kind,vS o.aa,vL U o.Data.length V,vI o.ak,vI o.aJ,.bool o.aZ,.bool o.aN,.bool o.ah,vL Z o.aH.length X] 36 (0,0))]] bj),At (bS prog B 47 f47 R) [] 8 [(6,vL ab cq.length ad),(36,vL Z o.aH.length X),(37,vI (o.aH.length:Int)),(38,vI i)] bj:=by
  intro m;induction m with
  |zero=>intros;omega
  |succ m dv=>
   intro a3 a4 cq i ab ad bi bj hm h0 h1 hI ae a5
   replace D:=D.mono a4
   replace G:=G.mono a4
   refine At.go 9 1 [(39,.bool (decide (i<(o.aH.length:Int))))]<|At.fd (i<(o.aH.length:Int)) 39 10 18 (fun en=>?_) fun eo=>?_
   ·refine At.rg 4 ?_
    obtain⟨u,O⟩:=cD o.aH i
    obtain⟨dC,co,ep,er,dE,bk,am⟩:=ay.br G _ O
    cases dE
    refine Op.iq 34 36 9 96 o.aH.length X 36 38 40 dC co i ?_
    replace am:=mP.1 am
    obtain⟨et,ex,c3,c4,am⟩:=am
    obtain⟨bm,bo,rfl⟩:=c3.ai
    obtain⟨bs,bt,rfl⟩:=c4.ai
    refine Op.la 36 40 41 (co+i.toNat*9) 9 [vI u.Kind,vS u.aa,vL bm u.Data.length bo,vI u.ak,vI u.aJ,.bool u.aZ,.bool u.aN,.bool u.ah,vL bs u.aH.length bt] (a5.sub _ _ bk) ?_ (hv:=am)
    refine Op.al 8 36 fO a5 fun eA eB dT=>Op.sg 36 8 41 0 0 #[vI u.Kind,vS u.aa,vL bm u.Data.length bo,vI u.ak,vI u.aJ,.bool u.aZ,.bool u.aN,.bool u.ah,vL bs u.aH.length bt] dT zt fun eI b3=>Op.gt 11<|At.rg 7<|Op.la 36 8 43 0 9 [vI u.Kind,vS u.aa,vL bm u.Data.length bo,vI u.ak,vI u.aJ,.bool u.aZ,.bool u.aN,.bool u.ah,vL bs u.aH.length bt] (b3.ag 0 rfl) ?_
    refine Op.c0 (some 44) (df _ _ _ b3.sub D u _ c3 _ c4 (by((try dsimp only)<;>(exact .inr ((tH hr).2.2.2 _ (cL O))))) (by((try dsimp only)<;>((have:=mm (cL O);omega)))) (by exact qm (mm (cL O)) (xE b6))) b3 ?_
    rintro _ eJ _ eK c5 c6 ⟨eL,rfl,c8,rfl⟩
    obtain⟨a6,a7,rfl⟩:=c8.ai
    replace bk:=c5 _ _ bk
    replace ae:=ae.mono c5
    refine Op.pg 12 [(9,vL a6 (((cN u).1).length) a7),(10,vI ((cN u).2))]<|At.go 13 2 [(48,.bool (((cN u).2) != 0))]<|At.fn (((cN u).2)=0) 48 14 16 (fun eQ=>?_) fun eT=>?_
    ·exact At.go 15 3 [(2,vN),(3,vI ((cN u).2))]<|At.rt (.tuple #[vN,vI ((cN u).2)]) (hR c6.drop.drop.drop ⟨vN,bM rfl (bp (by(rw[Im hI O ‹_›]))),bP (ay.empty _ _ _ _ _) (by(rw[Im hI O ‹_›])),rfl⟩)
    refine At.rp 5 2 [(50,vL ab cq.length ad),(51,vL a6 (((cN u).1).length) a7)]<|Op.ls 52 1 28 #[vL a6 (((cN u).1).length) a7] c6 fun e1 e2 c9=>Op.ap 50 52 107 107 53 28 24 (jC 5 bn) (ys:=[(cN u).1]) ae c9 2 (⟨_,_,rfl,⟨_,rfl,c8⟩,Reads.nil⟩) (by(have:=Ip hI (tH hr).2.2.1;simp only[bL,cS];omega)) (fun _ _ _=>trivial) (di.lit (m:=1) (sz:=1) (c9.ag 0 rfl) (news:=[vL a6 (((cN u).1).length) a7]) rfl rfl (by simp[Value.oneCell']) _) fun e3 e4 e5 da d0 e6=>?_
    obtain⟨a109,d1,rfl⟩:=da.ai
    exact Op.pg 17 [(6,vL a109 ((cq++([(cN u).1])).length) d1)]<|At.rg 2<|Op.dQ 54 (i+1) (by omega) (by(have:=gu o;omega))<|Op.pg 8 [(38,vI (i+1))]<|At.ke (dv _ (aG.trans a4 (by repeat (first|assumption|apply aG.trans))) (cq++([(cN u).1])) (i+1) _ _ _ _ (by omega) (by omega) (by omega) (by exact PS hI h0 O ‹_›) da (((d0).drop).drop))
   refine At.rp 6 1 [(55,vL ab cq.length ad)] ?_
   obtain⟨e7,db,d2,d3⟩:=aF.freeze ae (a5)
   replace D:=D.mono d2
   refine Op.c0 (some 56) (zD _ _ _ db.sub D _ _ d3 (by((try dsimp only)<;>((have:=Ip hI (tH hr).2.2.1;omega))))) db ?_
   rintro _ e8 _ e9 fa d4 ⟨fg,rfl,dc,rfl⟩
   obtain⟨b4,b5,rfl⟩:=dc.ai
   exact Op.pg 19 [(2,vL b4 (((dx cq).1).length) b5),(3,vI ((dx cq).2))]<|At.rt (.tuple #[vL b4 (((dx cq).1).length) b5,vI ((dx cq).2)]) (hR d4.drop ⟨(vL b4 (((dx cq).1).length) b5),bM rfl (bp (by(rw[Io hI ‹_›]))),bP dc (by(rw[Io hI ‹_›])),rfl⟩)
 have d5:aF 28 (jC 5 bn) ci (vL (some ⟨be,0,none⟩) 3 3) [(eD ([o.Kind,o.ak+1,o.aJ,iy o])).1,o.aa,o.Data] [(be,Obj.cells #[vL aw (((eD ([o.Kind,o.ak+1,o.aJ,iy o])).1).length) a0,vL cf o.aa.length ch,vL U o.Data.length V] 28 (0,0))]:=aF.lit (by kernel_rfl) (by unfold maxLen;decide) (by kernel_rfl) ⟨_,_,rfl,⟨_,rfl,ar⟩,⟨_,_,rfl,⟨_,rfl,dq⟩,⟨_,_,rfl,⟨_,rfl,I⟩,Reads.nil⟩⟩⟩
 exact At.ke (du _ _ (aG.refl _) ([(eD ([o.Kind,o.ak+1,o.aJ,iy o])).1,o.aa,o.Data]) 0 _ _ _ _ (bK _) (by omega) (by omega) (by exact PR o) d5 ck)
theorem P9 (B:World) (h:av) (g:GH) (hg:bf g h) (G:bh g) (o:aC) (u:Value) (I:ay g 5 bn u o.Data) (D:Value) (J:ay g 36 eY D o.aH) (hr:dV false o=true∨dV true o=true) (hs:cY o≤1000000000):aA prog B 47 #[.agg #[vI o.Kind,vS o.aa,u,vI o.ak,vI o.aJ,.bool o.aZ,.bool o.aN,.bool o.ah,D]] h g [] (fun O g' L'=>∃v0,O=.tuple #[v0,.int .i64 ((cN o).2)]∧ay g' 5 bn v0 ((cN o).1)∧L'=[]):=P8 _ B h g hg G o u I D J hr hs (bK _)
theorem CV (B:World) (h:av) (g:GH) (hg:bf g h) (ab:bh g) (o:aC) (ad:Value) (I:ay g 5 bn ad o.Data) (ae:Value) (J:ay g 36 eY ae o.aH) (hs:cY o≤1000000000):
  aA prog B 17 #[.agg #[vI o.Kind,vS o.aa,ad,vI o.ak,vI o.aJ,.bool o.aZ,.bool o.aN,.bool o.ah,ae]] h g [] (fun a3 g' L'=>∃v0,a3=.tuple #[v0,.int .i64 ((aU o).2)]∧ay g' 5 bn v0 ((aU o).1)∧L'=[]):=by
 obtain⟨O,U,rfl⟩:=I.ai
 obtain⟨V,X,rfl⟩:=J.ai
 refine aA.aq func17 fun R hR=>At.rg 3<|Op.bx 1 36 0 #[vI o.Kind,vS o.aa,vL O o.Data.length U,vI o.ak,vI o.aJ,.bool o.aZ,.bool o.aN,.bool o.ah,vL V o.aH.length X] (St.init hg) fun a4 a5 Y=>Op.pg 1 []<|At.rg 3 ?_
 refine Op.la 36 1 6 0 9 [vI o.Kind,vS o.aa,vL O o.Data.length U,vI o.ak,vI o.aJ,.bool o.aZ,.bool o.aN,.bool o.ah,vL V o.aH.length X] (Y.ag 0 rfl)<|Op.c1 7 (IF _ _ _ Y.sub ab o _ I _ J false (by(try dsimp only)<;>omega)) Y fun a6 u=>Op.pg 2 [(8,.bool (!(dV false o)))]<|At.c_ (!(dV false o)) 8 3 5 (fun am=>?_) fun ar=>?_
 ·replace am:=(dm am)
  exact At.go 4 2 [(2,vN),(3,vI 130)]<|At.rt pX (hR u.drop ⟨vN,bM rfl (bp (by(rw[Iq ‹_›]))),bP (ay.empty _ _ _ _ _) (by(rw[Iq ‹_›])),rfl⟩)
 replace ar:=(dn ar)
 refine At.rg 7<|Op.la 36 1 10 0 9 [vI o.Kind,vS o.aa,vL O o.Data.length U,vI o.ak,vI o.aJ,.bool o.aZ,.bool o.aN,.bool o.ah,vL V o.aH.length X] (u.ag 0 rfl)<|Op.c0 (some 11) (P9 _ _ _ u.sub ab o _ I _ J (by((try dsimp only)<;>(exact .inl ‹_›))) (by(try dsimp only)<;>omega)) u ?_
 rintro _ a7 _ a8 a9 Z ⟨v31,rfl,aw,rfl⟩
 obtain⟨D,G,rfl⟩:=aw.ai
 refine Op.pg 6 [(4,vL D (((cN o).1).length) G),(5,vI ((cN o).2))]<|At.rp 7 3 [(16,.bool (((cN o).2) != 0))]<|Op.wb (((cN o).2) != 0) 16 (fun a0=>?_) fun a1=>?_
 ·replace a0:=jO a0
  exact Op.pg 7 [(20,vT)]<|At.bX 20 8<|At.go 9 2 [(2,vN),(3,vI 130)]<|At.rt pX (hR Z.drop ⟨vN,bM rfl (bp (by(rw[zR ‹_› (by first|exact .inl ‹_›|exact .inr ‹_›)]))),bP (ay.empty _ _ _ _ _) (by(rw[zR ‹_› (by first|exact .inl ‹_›|exact .inr ‹_›)])),rfl⟩)
 replace a1:=l6 a1
 refine Op.pg 7 [(20,.bool (decide ((((cN o).1).length:Int)>1024)))]<|At.fd ((((cN o).1).length:Int)>1024) 20 8 10 (fun bb=>?_) fun bc=>?_
 ·exact At.go 9 2 [(2,vN),(3,vI 130)]<|At.rt pX (hR Z.drop ⟨vN,bM rfl (bp (by(rw[zR ‹_› (by first|exact .inl ‹_›|exact .inr ‹_›)]))),bP (ay.empty _ _ _ _ _) (by(rw[zR ‹_› (by first|exact .inl ‹_›|exact .inr ‹_›)])),rfl⟩)
 exact At.go 11 3 [(2,vL D (((cN o).1).length) G),(3,vI 0)]<|At.rt (.tuple #[vL D (((cN o).1).length) G,vI 0]) (hR Z.drop ⟨(vL D (((cN o).1).length) G),bM rfl (bp (by(rw[Ir ‹_› ‹_› ‹_›]))),bP aw (by(rw[Ir ‹_› ‹_› ‹_›])),rfl⟩)
def qK (g:GH) (b:Nat) (x:aC) (c:au):Prop:=∃v2 u D,c=(b,.cells #[.int .i64 x.Kind,.string (a_ x.aa),v2,.int .i64 x.ak,.int .i64 x.aJ,.bool x.aZ,.bool x.aN,.bool x.ah,u] 36 (0,0))::D∧ay g 5 bn v2 x.Data∧aF 36 eY g u x.aH D
theorem qK.mono {g g':GH} {b:Nat} {x:aC} {c:au} (h:qK g b x c) (hg:aG g g'):qK g' b x c:=by
 obtain⟨v2,u,D,e,h0,h1⟩:=h
 exact⟨v2,u,D,e,h0.mono hg,h1.mono hg⟩
theorem Aa (B:World) (h:av) (g:GH) (hg:bf g h) (V:bh g) (I:Value) (b:aj) (J:ay g 5 bn I b) (n:Int) (hl:b.length≤1000000000):
  aA prog B 49 #[I,vI n] h g [] (fun X g' L'=>∃v0,X=.tuple #[v0,.bool (gK b n)]∧ay g' 3 (eF .i64) v0 ((bH b).1)∧L'=[]):=by
 obtain⟨Y,Z,rfl⟩:=J.ai
 refine aA.aq func49 fun R hR=>?_
 have O:=St.init hg
 refine At.go 1 2 []<|At.rp 7 1 [(9,vL Y b.length Z)]<|Op.c0 (some 10) (O4 _ _ _ O.sub V _ _ J (by(try dsimp only)<;>omega)) O ?_
 rintro _ ab _ ad ae U ⟨am,rfl,G,rfl⟩
 obtain⟨u,D,rfl⟩:=G.ai
 refine Op.pg 2 [(6,vL u (((bH b).1).length) D),(7,vI ((bH b).2))]<|At.rp 11 4 [(13,vL u (((bH b).1).length) D),(16,.bool (((bH b).2)==0))]<|Op.wd (((bH b).2)=0) 16 (fun ar=>?_) fun aw=>?_
 ·exact Op.pg 3 [(4,vL u (((bH b).1).length) D),(5,.bool ((((bH b).1).length:Int)==n))]<|At.rt (.tuple #[vL u (((bH b).1).length) D,.bool ((((bH b).1).length:Int)==n)]) (hR U ⟨(vL u (((bH b).1).length) D),bM rfl (aS (by exact PW ‹_›)),bP G (by rfl),rfl⟩)
 exact Op.pg 3 [(4,vL u (((bH b).1).length) D),(5,vF)]<|At.rt (.tuple #[vL u (((bH b).1).length) D,vF]) (hR U ⟨(vL u (((bH b).1).length) D),bM rfl (aS (by exact PX ‹_›)),bP G (by rfl),rfl⟩)
theorem P_ (mr:Nat):∀(B:World) (h:av) (g:GH) (hg:bf g h) (Y:bh g) (d0:Value) (b:aj) (d1:ay g 5 bn d0 b) (bU:Bool) (hl:b.length≤1000000000) (d2:(if bU=true then 0 else 1)<mr),aA prog B 101 #[d0,.bool bU] h g [] (fun hX g' L'=>∃v0 v1,hX=.tuple #[.agg #[.int .i64 (((aR bU b).1).Kind),.string (a_ (((aR bU b).1).aa)),v0,.int .i64 (((aR bU b).1).ak),.int .i64 (((aR bU b).1).aJ),.bool (((aR bU b).1).aZ),.bool (((aR bU b).1).aN),.bool (((aR bU b).1).ah),v1],.bool ((aR bU b).2)]∧ay g' 5 bn v0 (((aR bU b).1).Data)∧ay g' 36 eY v1 (((aR bU b).1).aH)∧L'=[]):=by
 induction mr with
 |zero=>intros;omega
 |succ mr fr=>
 intro B h g hg Y d0 b d1 bU hl d2
 obtain⟨hY,hZ,rfl⟩:=d1.ai
 refine aA.aq func101 fun R hR=>At.rg 2<|Op.al 4 36 fO (St.init hg) fun c8 nu ft=>Op.pg 1 []<|At.rp 7 1 [(16,vL hY b.length hZ)] ?_
 refine Op.c0 (some 17) (zE _ _ _ ft.sub Y _ _ d1 (by(try dsimp only)<;>omega)) ft ?_
 rintro _ nx _ nz h2 a6 ⟨n0,rfl,ab,rfl⟩
 obtain⟨d3,X,rfl⟩:=ab.ai
 replace Y:=Y.mono h2
 refine Op.pg 2 [(6,vL d3 (((aT b).1).length) X),(7,vI ((aT b).2))]<|At.rp 15 3 [(22,.bool (((aT b).2) != 0))]<|Op.wb (((aT b).2) != 0) 22 (fun fv=>?_) fun fw=>?_
 ·replace fv:=jO fv
  refine Op.pg 3 [(34,vT)]<|At.bX 34 4<|At.rp 3 1 [(35,.agg fO)]<|Op.sg 36 4 35 0 0 fO a6 zt fun n3 fx=>Op.pg 5 [(5,vF)] ?_
  exact At.rn f101 qJ [.cell 4 36,.tmp 5] ⟨⟨_,_,rfl,dB (n:=9) (by kernel_rfl) (fx.ag 0 rfl) (by kernel_rfl) rfl⟩,rfl,trivial⟩ (hR fx.drop ⟨vN,vN,bM (by(rw[gT (zT ‹_›)];rfl)) (aS (by(rw[gT (zT ‹_›)];done))),bP (ay.empty _ _ _ _ _) (by(rw[gT (zT ‹_›)];rfl)),bP (ay.empty _ _ _ _ _) (by(rw[gT (zT ‹_›)];rfl)),rfl⟩)
 replace fw:=l6 fw
 refine Op.px 5 [(27,.bool (decide ((((aT b).1).length:Int)<3)))]<|Op.wd ((((aT b).1).length:Int)<3) 27 (fun oi=>?_) fun oj=>?_
 ·refine Op.pg 3 [(34,vT)]<|At.bX 34 4<|At.rp 3 1 [(35,.agg fO)]<|Op.sg 36 4 35 0 0 fO a6 zt fun ol f0=>Op.pg 5 [(5,vF)] ?_
  exact At.rn f101 qJ [.cell 4 36,.tmp 5] ⟨⟨_,_,rfl,dB (n:=9) (by kernel_rfl) (f0.ag 0 rfl) (by kernel_rfl) rfl⟩,rfl,trivial⟩ (hR f0.drop ⟨vN,vN,bM (by(rw[gT (zU ‹_›)];rfl)) (aS (by(rw[gT (zU ‹_›)];done))),bP (ay.empty _ _ _ _ _) (by(rw[gT (zU ‹_›)];rfl)),bP (ay.empty _ _ _ _ _) (by(rw[gT (zU ‹_›)];rfl)),rfl⟩)
 refine Op.px 2 [(29,.bool bU)]<|Op.wb bU 29 (fun or=>?_) fun ow=>?_
 ·refine Op.pg 3 [(34,.bool (decide ((((aT b).1).length:Int)>3)))]<|At.fd ((((aT b).1).length:Int)>3) 34 4 6 (fun o3=>?_) fun o4=>?_
  ·exact At.rp 3 1 [(35,.agg fO)]<|Op.sg 36 4 35 0 0 fO a6 zt fun pa f1=>Op.pg 5 [(5,vF)]<|At.rn f101 qJ [.cell 4 36,.tmp 5] ⟨⟨_,_,rfl,dB (n:=9) (by kernel_rfl) (f1.ag 0 rfl) (by kernel_rfl) rfl⟩,rfl,trivial⟩ (hR f1.drop ⟨vN,vN,bM (by(rw[gT (zV ‹_› ‹_›)];rfl)) (aS (by(rw[gT (zV ‹_› ‹_›)];done))),bP (ay.empty _ _ _ _ _) (by(rw[gT (zV ‹_› ‹_›)];rfl)),bP (ay.empty _ _ _ _ _) (by(rw[gT (zV ‹_› ‹_›)];rfl)),rfl⟩)
  refine At.rp 9 1 [(37,vL d3 (((aT b).1).length) X)] ?_
  obtain⟨J,a1⟩:=cD ((aT b).1) 0
  obtain⟨a9,a4,pb,pc,h3,d4,d5⟩:=ay.br ab _ a1
  cases h3
  refine Op.iq 107 28 1 24 (((aT b).1).length) X 37 (.const (vI 0)) 38 a9 a4 0 ?_
  obtain⟨pd,d5,f2⟩:=d5
  obtain⟨h4,h5,rfl⟩:=f2.ai
  refine Op.l1 28 38 39 (a4+(0:Int).toNat*1) (vL h4 J.length h5) (a6.sub _ _ d4) ?_ (hv:=cT d5 0 rfl)
  refine Op.c0 (some 40) (Aa _ _ _ a6.sub Y _ _ f2 4 (by((try dsimp only)<;>((have:=xC a1;omega))))) a6 ?_
  rintro _ d6 _ pf d7 ad ⟨ph,rfl,a7,rfl⟩
  obtain⟨f3,Z,rfl⟩:=a7.ai
  replace d4:=d7 _ _ d4
  replace Y:=Y.mono d7
  replace ab:=ab.mono d7
  refine Op.pg 7 [(8,vL f3 (((bH J).1).length) Z),(9,.bool (gK J 4))]<|At.rp 8 3 [(45,.bool (!(gK J 4)))]<|Op.wb (!(gK J 4)) 45 (fun f4=>?_) fun f5=>?_
  ·replace f4:=(dm f4)
   refine Op.pg 8 [(50,vT)]<|At.bX 50 9<|At.rp 3 1 [(51,.agg fO)]<|Op.sg 36 4 51 0 0 fO ad zt fun pj f6=>Op.pg 10 [(5,vF)] ?_
   exact At.rn f101 qJ [.cell 4 36,.tmp 5] ⟨⟨_,_,rfl,dB (n:=9) (by kernel_rfl) (f6.ag 0 rfl) (by kernel_rfl) rfl⟩,rfl,trivial⟩ (hR f6.drop ⟨vN,vN,bM (by(rw[gT (rU a1 ‹_›)];rfl)) (aS (by(rw[gT (rU a1 ‹_›)];done))),bP (ay.empty _ _ _ _ _) (by(rw[gT (rU a1 ‹_›)];rfl)),bP (ay.empty _ _ _ _ _) (by(rw[gT (rU a1 ‹_›)];rfl)),rfl⟩)
  replace f5:=(dn f5)
  refine Op.px 1 [(46,vL f3 (((bH J).1).length) Z)] ?_
  obtain⟨G,ae⟩:=j6 (l:=(bH J).1) (i:=3) (by(have:=fE ‹_›;omega))
  obtain⟨am,U,pl,pm,h6,h7,d8⟩:=ay.br a7 _ ae
  cases h6
  refine Op.ix 81 3 1 8 (((bH J).1).length) Z 46 (.const (vI 3)) 47 am U 3 (by omega) (by(have:=fE ‹_›;omega)) ?_
  replace d8:cut _ _ _=[vI G]:=d8
  refine Op.l1 3 47 48 (U+(3:Int).toNat*1) (vI G) (ad.sub _ _ h7) ?_ (hv:=cT d8 0 rfl)
  refine Op.pg 8 [(50,.bool (decide (G>7)))]<|At.fd (G>7) 50 9 11 (fun po=>?_) fun pu=>?_
  ·exact At.rp 3 1 [(51,.agg fO)]<|Op.sg 36 4 51 0 0 fO ad zt fun pv f7=>Op.pg 10 [(5,vF)]<|At.rn f101 qJ [.cell 4 36,.tmp 5] ⟨⟨_,_,rfl,dB (n:=9) (by kernel_rfl) (f7.ag 0 rfl) (by kernel_rfl) rfl⟩,rfl,trivial⟩ (hR f7.drop ⟨vN,vN,bM (by(rw[gT (rV a1 ae ‹_›)];rfl)) (aS (by(rw[gT (rV a1 ae ‹_›)];done))),bP (ay.empty _ _ _ _ _) (by(rw[gT (rV a1 ae ‹_›)];rfl)),bP (ay.empty _ _ _ _ _) (by(rw[gT (rV a1 ae ‹_›)];rfl)),rfl⟩)
  refine At.dw (fun _=>False) [(0,true),(1,true),(3,true),(4,true),(7,true),(8,true),(10,true),(11,true),(15,true),(16,true),(20,true),(21,true),(25,true),(26,true),(29,true),(30,true),(2,true),(5,true),(6,true),(9,true),(12,true),(13,true),(14,true),(17,true),(18,true),(19,true),(22,true),(23,true),(24,true),(27,true),(28,true),(31,true),(32,true),(33,false),(1034,false),(34,false)]<|Op.px 1 [(52,vL (some ⟨am,U,none⟩) (((bH J).1).length) Z)] ?_
  obtain⟨bk,f8⟩:=j6 (l:=(bH J).1) (i:=0) (by(have:=fE ‹_›;omega))
  obtain⟨pw,py,pA,pB,h8,h9,d9⟩:=ay.br a7 _ f8
  cases h8
  refine Op.ix 81 3 1 8 (((bH J).1).length) Z 52 (.const (vI 0)) 53 am U 0 (by omega) (by(have:=fE ‹_›;omega)) ?_
  replace d9:cut _ _ _=[vI bk]:=d9
  refine Op.px 1 [(55,vL (some ⟨am,U,none⟩) (((bH J).1).length) Z)] ?_
  obtain⟨bb,c9⟩:=j6 (l:=(bH J).1) (i:=1) (by(have:=fE ‹_›;omega))
  obtain⟨pC,pD,p0,p1,ib,ih,ea⟩:=ay.br a7 _ c9
  cases ib
  refine Op.ix 81 3 1 8 (((bH J).1).length) Z 55 (.const (vI 1)) 56 am U 1 (by omega) (by(have:=fE ‹_›;omega)) ?_
  replace ea:cut _ _ _=[vI bb]:=ea
  refine Op.px 1 [(59,vL (some ⟨am,U,none⟩) (((bH J).1).length) Z)] ?_
  obtain⟨bm,f9⟩:=j6 (l:=(bH J).1) (i:=2) (by(have:=fE ‹_›;omega))
  obtain⟨p2,p3,p8,qr,ii,ik,eb⟩:=ay.br a7 _ f9
  cases ii
  refine Op.ix 81 3 1 8 (((bH J).1).length) Z 59 (.const (vI 2)) 60 am U 2 (by omega) (by(have:=fE ‹_›;omega)) ?_
  replace eb:cut _ _ _=[vI bm]:=eb
  refine Op.px 1 [(62,vL (some ⟨am,U,none⟩) (((bH J).1).length) Z)] ?_
  obtain⟨q0,q1,q2,q3,il,io,ed⟩:=ay.br a7 _ ae
  cases il
  refine Op.ix 81 3 1 8 (((bH J).1).length) Z 62 (.const (vI 3)) 63 am U 3 (by omega) (by(have:=fE ‹_›;omega)) ?_
  replace ed:cut _ _ _=[vI G]:=ed
  refine Op.px 1 [(67,vL (some ⟨am,U,none⟩) (((bH J).1).length) Z)] ?_
  obtain⟨rb,rc,rd,re,ip,is,ee⟩:=ay.br a7 _ ae
  cases ip
  refine Op.ix 81 3 1 8 (((bH J).1).length) Z 67 (.const (vI 3)) 68 am U 3 (by omega) (by(have:=fE ‹_›;omega)) ?_
  replace ee:cut _ _ _=[vI G]:=ee
  refine Op.px 1 [(72,vL (some ⟨am,U,none⟩) (((bH J).1).length) Z)] ?_
  obtain⟨rf,rh,rk,rr,iv,i0,ef⟩:=ay.br a7 _ ae
  cases iv
  refine Op.ix 81 3 1 8 (((bH J).1).length) Z 72 (.const (vI 3)) 73 am U 3 (by omega) (by(have:=fE ‹_›;omega)) ?_
  replace ef:cut _ _ _=[vI G]:=ef
  refine Op.px 1 [(77,vL (some ⟨a9,a4,none⟩) (((aT b).1).length) X)] ?_
  obtain⟨bo,gc⟩:=cD ((aT b).1) 1
  obtain⟨rv,rx,r0,r1,i1,i2,eh⟩:=ay.br ab _ gc
  cases i1
  refine Op.iq 107 28 1 24 (((aT b).1).length) X 77 (.const (vI 1)) 78 a9 a4 1 ?_
  obtain⟨v146,eh,ge⟩:=eh
  obtain⟨a148,i3,rfl⟩:=ge.ai
  refine Op.px 1 [(81,vL (some ⟨a9,a4,none⟩) (((aT b).1).length) X)] ?_
  obtain⟨b6,gg⟩:=cD ((aT b).1) 2
  obtain⟨r2,r3,sc,sd,i4,i5,ej⟩:=ay.br ab _ gg
  cases i4
  refine Op.iq 107 28 1 24 (((aT b).1).length) X 81 (.const (vI 2)) 82 a9 a4 2 ?_
  obtain⟨sf,ej,gk⟩:=ej
  obtain⟨em,en,rfl⟩:=gk.ai
  refine Op.fQ (T:=3) (x:=53) (o:=U+(0:Int).toNat*1) (d:=54) (n:=1) (v:=vI bk) (by kernel_rfl) (by kernel_rfl) (by kernel_rfl) id (ad.sub _ _ h9) (cT d9 0 rfl)<|Op.fQ (T:=3) (x:=56) (o:=U+(1:Int).toNat*1) (d:=57) (n:=1) (v:=vI bb) (by kernel_rfl) (by kernel_rfl) (by kernel_rfl) id (ad.sub _ _ ih) (cT ea 0 rfl)<|Op.dQ 58 (bb-1) (by(have:=nV c9;omega)) (by(have:=nV c9;omega))<|Op.fQ (T:=3) (x:=60) (o:=U+(2:Int).toNat*1) (d:=61) (n:=1) (v:=vI bm) (by kernel_rfl) (by kernel_rfl) (by kernel_rfl) id (ad.sub _ _ ik) (cT eb 0 rfl)<|Op.fQ (T:=3) (x:=63) (o:=U+(3:Int).toNat*1) (d:=64) (n:=1) (v:=vI G) (by kernel_rfl) (by kernel_rfl) (by kernel_rfl) id (ad.sub _ _ io) (cT ed 0 rfl) ?_
  refine Op.vl 65 (.int .i64 (IntKind.wrap .i64 (((BitVec.ofInt (IntKind.bits .i64) G &&& BitVec.ofInt (IntKind.bits .i64) (1:Int)).toNat:Nat):Int))) (.int .i64 (G % 2)) (It (by have:=nV ae;omega) (by omega))<|Op.px 1 [(66,.bool ((G % 2) != 0))]<|Op.fQ (T:=3) (x:=68) (o:=U+(3:Int).toNat*1) (d:=69) (n:=1) (v:=vI G) (by kernel_rfl) (by kernel_rfl) (by kernel_rfl) id (ad.sub _ _ is) (cT ee 0 rfl)<|Op.vl 70 (.int .i64 (IntKind.wrap .i64 (((BitVec.ofInt (IntKind.bits .i64) G &&& BitVec.ofInt (IntKind.bits .i64) (2:Int)).toNat:Nat):Int))) (.int .i64 (G / 2 % 2*2)) (Iu (by have:=nV ae;omega) (by omega))<|Op.px 1 [(71,.bool ((G / 2 % 2*2) != 0))] ?_
  refine Op.fQ (T:=3) (x:=73) (o:=U+(3:Int).toNat*1) (d:=74) (n:=1) (v:=vI G) (by kernel_rfl) (by kernel_rfl) (by kernel_rfl) id (ad.sub _ _ i0) (cT ef 0 rfl)<|Op.vl 75 (.int .i64 (IntKind.wrap .i64 (((BitVec.ofInt (IntKind.bits .i64) G &&& BitVec.ofInt (IntKind.bits .i64) (4:Int)).toNat:Nat):Int))) (.int .i64 (G / 4 % 2*4)) (Iv (by have:=nV ae;omega) (by omega))<|Op.px 1 [(76,.bool ((G / 4 % 2*4) != 0))]<|Op.fQ (T:=28) (x:=78) (o:=a4+(1:Int).toNat*1) (d:=79) (n:=1) (v:=vL a148 bo.length i3) (by kernel_rfl) (by kernel_rfl) (by kernel_rfl) id (ad.sub _ _ i2) (cT eh 0 rfl)<|Op.yI (T:=28) (S:=9) (E:=5) (x:=79) (dst:=80) (l:=bo) (by kernel_rfl) (by kernel_rfl) (by kernel_rfl) (by kernel_rfl) (by kernel_rfl) ge ad.sub (fun _ _ _ h=>h) ?_
  refine Op.fQ (T:=28) (x:=82) (o:=a4+(2:Int).toNat*1) (d:=83) (n:=1) (v:=vL em b6.length en) (by kernel_rfl) (by kernel_rfl) (by kernel_rfl) id (ad.sub _ _ i5) (cT ej 0 rfl)<|Op.px 1 [(84,.agg #[vI bk,vS bo,vL em b6.length en,vI (bb-1),vI bm,.bool ((G % 2) != 0),.bool ((G / 2 % 2*2) != 0),.bool ((G / 4 % 2*4) != 0),vN])]<|Op.al 10 36 fO ad fun bs sh i6=>Op.ba<|Op.sg 36 10 84 0 0 #[vI bk,vS bo,vL em b6.length en,vI (bb-1),vI bm,.bool ((G % 2) != 0),.bool ((G / 2 % 2*2) != 0),.bool ((G / 4 % 2*4) != 0),vN] i6 zt fun sk i7=>?_
  refine Op.gt 12<|At.rp 4 1 [(85,vL (some ⟨a9,a4,none⟩) (((aT b).1).length) X)]<|Op.wE (T:=107) (E:=28) (cR:=24) (x:=85) (ao:=(some ⟨a9,a4,none⟩)) (n:=(((aT b).1).length)) (c:=X) (dst:=86) (d:=(jC 5 bn)) (lo:=(.const (vI 3))) (k:=.i64) (m:=3) (by kernel_rfl) (by kernel_rfl) (by kernel_rfl) (by kernel_rfl) ab (by omega) (by omega) fun sm da=>?_
  obtain⟨i8,n171,rfl⟩:=da.ai
  refine Op.pg 13 [(87,vI ((((aT b).1).drop (3:Int).toNat).length:Int)),(88,vI 0)] ?_
  have i9:=aF.nil 36 eY d6
  obtain⟨so,jf,jj⟩:=St.bl (Q:=qK d6 bs (⟨bk,bo,b6,bb-1,bm,(G % 2) != 0,(G / 2 % 2*2) != 0,(G / 4 % 2*4) != 0,([]:List aC)⟩:aC)) 2 (i7.nl.fs [1] rfl) ⟨_,_,_,rfl,gk,i9⟩
  have eo:∀(m:Nat) (db:GH) (dc:aG d6 db) (ob:aC) (i:Int) (ep:au) (er:av) (hm:((aT b).1.drop (3:Int).toNat).length-i.toNat<m) (h0:0≤i) (h1:i≤((aT b).1.drop (3:Int).toNat).length) (hB:iI bU b=true) (hP:tI b ob i) (bc:(ob.aH.length:Int)=i) (b8:qK db bs ob ep) (ca:St h g (aM []) db [ep,[(c8,Obj.cells fO 36 (0,0))]] er),At (bS prog B 101 f101 R) [] 13 [(4,vP c8),(10,vP bs),(86,vL i8 ((((aT b).1).drop (3:Int).toNat).length) n171),(87,vI ((((aT b).1).drop (3:Int).toNat).length:Int)),(88,vI i)] er:=by
   intro m;induction m with
   |zero=>intros;omega
   |succ m et=>
    intro db dc ob i ep er hm h0 h1 hB hP bc b8 ca
    replace Y:=Y.mono dc
    replace da:=da.mono dc
    refine At.go 14 1 [(89,.bool (decide (i<((((aT b).1).drop (3:Int).toNat).length:Int))))]<|At.fd (i<((((aT b).1).drop (3:Int).toNat).length:Int)) 89 15 23 (fun ss=>?_) fun sA=>?_
    ·refine At.rg 3 ?_
     obtain⟨u,bd⟩:=cD (((aT b).1).drop (3:Int).toNat) i
     obtain⟨jn,gn,sB,sT,js,jt,ex⟩:=ay.br da _ bd
     cases js
     refine Op.iq 107 28 1 24 ((((aT b).1).drop (3:Int).toNat).length) n171 86 88 90 jn gn i ?_
     obtain⟨s0,ex,gs⟩:=ex
     obtain⟨eA,n197,rfl⟩:=gs.ai
     refine Op.l1 28 90 91 (gn+i.toNat*1) (vL eA u.length n197) (ca.sub _ _ jt) ?_ (hv:=cT ex 0 rfl)
     refine Op.pg 16 [(12,vL eA u.length n197)]<|At.rp 8 1 [(93,vL eA u.length n197)]<|Op.c0 (some 94) (fr _ _ _ ca.sub Y _ _ gs true (by((try dsimp only)<;>((have:=CR bd;omega)))) (by exact IC hB h0 ‹_› d2)) ca ?_
     rintro _ j1 _ s2 j2 kc ⟨s3,s4,rfl,g1,g2,rfl⟩
     obtain⟨cb,ce,rfl⟩:=g1.ai
     obtain⟨cf,ch,rfl⟩:=g2.ai
     replace b8:=b8.mono j2
     refine Op.px 3 [(95,.agg #[vI (((aR true u).1).Kind),vS (((aR true u).1).aa),vL cb ((((aR true u).1).Data).length) ce,vI (((aR true u).1).ak),vI (((aR true u).1).aJ),.bool (((aR true u).1).aZ),.bool (((aR true u).1).aN),.bool (((aR true u).1).ah),vL cf ((((aR true u).1).aH).length) ch]),(96,.bool ((aR true u).2))]<|Op.al 13 36 fO kc fun s8 ta kd=>Op.sg 36 13 95 0 0 #[vI (((aR true u).1).Kind),vS (((aR true u).1).aa),vL cb ((((aR true u).1).Data).length) ce,vI (((aR true u).1).ak),vI (((aR true u).1).aJ),.bool (((aR true u).1).aZ),.bool (((aR true u).1).aN),.bool (((aR true u).1).ah),vL cf ((((aR true u).1).aH).length) ch] kd zt fun te g3=>Op.pg 17 [(14,.bool ((aR true u).2))]<|At.go 18 2 [(98,.bool (!((aR true u).2)))] ?_
     refine At.c_ (!((aR true u).2)) 98 19 21 (fun g4=>?_) fun g5=>?_
     ·replace g4:=(dm g4)
      exact At.rp 3 1 [(99,.agg fO)]<|Op.sg 36 4 99 0 2 fO g3 zt fun ti g6=>Op.pg 20 [(5,vF)]<|At.rn f101 qJ [.cell 4 36,.tmp 5] ⟨⟨_,_,rfl,dB (n:=9) (by kernel_rfl) (g6.ag 2 rfl) (by kernel_rfl) rfl⟩,rfl,trivial⟩ (hR g6.drop.drop.drop ⟨vN,vN,bM (by(rw[rW hB bd ‹_›];rfl)) (aS (by(rw[rW hB bd ‹_›];done))),bP (ay.empty _ _ _ _ _) (by(rw[rW hB bd ‹_›];rfl)),bP (ay.empty _ _ _ _ _) (by(rw[rW hB bd ‹_›];rfl)),rfl⟩)
     replace g5:=(dn g5)
     refine At.rp 7 1 [(100,vQ bs 8)] ?_
     obtain⟨tk,tl,kh,kk,g7,g8⟩:=b8
     obtain⟨kl,km,rfl⟩:=g7.ai
     obtain⟨kv,n228,rfl⟩:=g8.ai
     have eB:=St.un [kh] kk (g3.fs [1] rfl)
     refine Op.l1 34 100 101 8 (vL kv ob.aH.length n228) (eB.ag 0 rfl)<|Op.la 36 13 102 0 9 [vI (((aR true u).1).Kind),vS (((aR true u).1).aa),vL cb ((((aR true u).1).Data).length) ce,vI (((aR true u).1).ak),vI (((aR true u).1).aJ),.bool (((aR true u).1).aZ),.bool (((aR true u).1).aN),.bool (((aR true u).1).ah),vL cf ((((aR true u).1).aH).length) ch] (eB.ag 2 rfl)<|Op.ls 103 1 36 #[vI (((aR true u).1).Kind),vS (((aR true u).1).aa),vL cb ((((aR true u).1).Data).length) ce,vI (((aR true u).1).ak),vI (((aR true u).1).aJ),.bool (((aR true u).1).aZ),.bool (((aR true u).1).aN),.bool (((aR true u).1).ah),vL cf ((((aR true u).1).aH).length) ch] eB fun tm tp g9=>Op.ap 101 103 34 34 104 36 96 eY (ys:=[((aR true u).1)]) g8 g9 2 (⟨_,_,rfl,(mP.2 ⟨_,_,g1,g2,rfl⟩),Reads.nil⟩) (by(have:=zW ‹_› bc;simp only[bL,cS];omega)) (fun _ _ _=>trivial) (di.lit (m:=1) (sz:=9) (g9.ag 0 rfl) (news:=[vI (((aR true u).1).Kind),vS (((aR true u).1).aa),vL cb ((((aR true u).1).Data).length) ce,vI (((aR true u).1).ak),vI (((aR true u).1).aJ),.bool (((aR true u).1).aZ),.bool (((aR true u).1).aN),.bool (((aR true u).1).ah),vL cf ((((aR true u).1).aH).length) ch]) rfl rfl (by simp[Value.oneCell']) _) fun tt tx tz ha kw tA=>?_
     obtain⟨hb,n241,rfl⟩:=ha.ai
     refine Op.px 1 [(105,vQ bs 8)]<|Op.s1 34 105 104 8 (vL hb ((ob.aH++([((aR true u).1)])).length) n241) 0 #[vI ob.Kind,vS ob.aa,vL kl ob.Data.length km,vI ob.ak,vI ob.aJ,.bool ob.aZ,.bool ob.aN,.bool ob.ah,vL hb ((ob.aH++([((aR true u).1)])).length) n241] ((kw).drop) zt fun tB kx=>Op.gt 22<|At.rg 2<|Op.dQ 106 (i+1) (by omega) (by(have:=zW ‹_› bc;omega)) ?_
     refine Op.pg 13 [(88,vI (i+1))] ?_
     obtain⟨tR,kA,k0⟩:=St.bl (Q:=qK j1 bs (⟨ob.Kind,ob.aa,ob.Data,ob.ak,ob.aJ,ob.aZ,ob.aN,ob.ah,ob.aH++([((aR true u).1)])⟩:aC)) 2 kx ⟨_,_,_,rfl,g7,ha⟩
     exact At.ke (et _ (aG.trans dc (by repeat (first|assumption|apply aG.trans))) (⟨ob.Kind,ob.aa,ob.Data,ob.ak,ob.aJ,ob.aZ,ob.aN,ob.ah,ob.aH++([((aR true u).1)])⟩:aC) (i+1) _ _ (by omega) (by omega) (by omega) (by omega) (by exact IB hP h0 bd ‹_›) (by(simp only[b_,bL,cS];omega)) kA ((k0.fs [1] rfl).drop))
    refine At.rg 3 ?_
    obtain⟨tS,t0,k1,k2,dd,he⟩:=b8
    obtain⟨df,n257,rfl⟩:=dd.ai
    obtain⟨dg,dj,rfl⟩:=he.ai
    have hf:=St.un [k1] k2 ca
    refine Op.la 36 10 107 0 9 [vI ob.Kind,vS ob.aa,vL df ob.Data.length n257,vI ob.ak,vI ob.aJ,.bool ob.aZ,.bool ob.aN,.bool ob.ah,vL dg ob.aH.length dj] (hf.ag 0 rfl)<|Op.sg 36 4 107 0 2 #[vI ob.Kind,vS ob.aa,vL df ob.Data.length n257,vI ob.ak,vI ob.aJ,.bool ob.aZ,.bool ob.aN,.bool ob.ah,vL dg ob.aH.length dj] hf zt fun t1 k3=>Op.pg 24 [(5,vT)] ?_
    obtain⟨t2,hh,k4,k5⟩:=aF.freeze he (k3.fs [1] rfl)
    replace dd:=dd.mono k4
    exact At.rn f101 [.agg #[vI ob.Kind,vS ob.aa,vL df ob.Data.length n257,vI ob.ak,vI ob.aJ,.bool ob.aZ,.bool ob.aN,.bool ob.ah,vL dg ob.aH.length dj],vT] [.cell 4 36,.tmp 5] ⟨⟨_,_,rfl,dB (n:=9) (by kernel_rfl) (hh.ag 1 rfl) (by kernel_rfl) rfl⟩,rfl,trivial⟩ (hR hh.drop.drop ⟨(vL df ob.Data.length n257),(vL dg ob.aH.length dj),bM (by(rw[rX hB hP ‹_›];done)) (aS (by(rw[rX hB hP ‹_›];done))),bP dd (by(rw[rX hB hP ‹_›];done)),bP k5 (by(rw[rX hB hP ‹_›];done)),rfl⟩)
  exact At.ke (eo _ _ (aG.refl _) (⟨bk,bo,b6,bb-1,bm,(G % 2) != 0,(G / 2 % 2*2) != 0,(G / 4 % 2*4) != 0,([]:List aC)⟩:aC) 0 _ _ (bK _) (by omega) (by omega) (by exact Iz ‹_› ‹_› (by exact .inr ‹_›) a1 ‹_› ae ‹_›) (by exact IA (Iy a1 gc gg f8 c9 f9 ae)) (by rfl) jf jj)
 refine Op.pg 3 [(34,vF)]<|At.dP 34 6<|At.rp 9 1 [(37,vL d3 (((aT b).1).length) X)] ?_
 obtain⟨O,a3⟩:=cD ((aT b).1) 0
 obtain⟨be,a5,t3,t4,k6,eI,eJ⟩:=ay.br ab _ a3
 cases k6
 refine Op.iq 107 28 1 24 (((aT b).1).length) X 37 (.const (vI 0)) 38 be a5 0 ?_
 obtain⟨t5,eJ,hj⟩:=eJ
 obtain⟨k7,k8,rfl⟩:=hj.ai
 refine Op.l1 28 38 39 (a5+(0:Int).toNat*1) (vL k7 O.length k8) (a6.sub _ _ eI) ?_ (hv:=cT eJ 0 rfl)
 refine Op.c0 (some 40) (Aa _ _ _ a6.sub Y _ _ hj 4 (by((try dsimp only)<;>((have:=xC a3;omega))))) a6 ?_
 rintro _ eK _ t6 eL ar ⟨t7,rfl,a8,rfl⟩
 obtain⟨hn,n285,rfl⟩:=a8.ai
 replace eI:=eL _ _ eI
 replace Y:=Y.mono eL
 replace ab:=ab.mono eL
 refine Op.pg 7 [(8,vL hn (((bH O).1).length) n285),(9,.bool (gK O 4))]<|At.rp 8 3 [(45,.bool (!(gK O 4)))]<|Op.wb (!(gK O 4)) 45 (fun ho=>?_) fun hp=>?_
 ·replace ho:=(dm ho)
  refine Op.pg 8 [(50,vT)]<|At.bX 50 9<|At.rp 3 1 [(51,.agg fO)]<|Op.sg 36 4 51 0 0 fO ar zt fun t8 hq=>Op.pg 10 [(5,vF)] ?_
  exact At.rn f101 qJ [.cell 4 36,.tmp 5] ⟨⟨_,_,rfl,dB (n:=9) (by kernel_rfl) (hq.ag 0 rfl) (by kernel_rfl) rfl⟩,rfl,trivial⟩ (hR hq.drop ⟨vN,vN,bM (by(rw[gT (rU a3 ‹_›)];rfl)) (aS (by(rw[gT (rU a3 ‹_›)];done))),bP (ay.empty _ _ _ _ _) (by(rw[gT (rU a3 ‹_›)];rfl)),bP (ay.empty _ _ _ _ _) (by(rw[gT (rU a3 ‹_›)];rfl)),rfl⟩)
 replace hp:=(dn hp)
 refine Op.px 1 [(46,vL hn (((bH O).1).length) n285)] ?_
 obtain⟨I,aw⟩:=j6 (l:=(bH O).1) (i:=3) (by(have:=fE ‹_›;omega))
 obtain⟨a0,V,t9,ub,lb,lc,eQ⟩:=ay.br a8 _ aw
 cases lb
 refine Op.ix 81 3 1 8 (((bH O).1).length) n285 46 (.const (vI 3)) 47 a0 V 3 (by omega) (by(have:=fE ‹_›;omega)) ?_
 replace eQ:cut _ _ _=[vI I]:=eQ
 refine Op.l1 3 47 48 (V+(3:Int).toNat*1) (vI I) (ar.sub _ _ lc) ?_ (hv:=cT eQ 0 rfl)
 refine Op.pg 8 [(50,.bool (decide (I>7)))]<|At.fd (I>7) 50 9 11 (fun ui=>?_) fun ul=>?_
 ·exact At.rp 3 1 [(51,.agg fO)]<|Op.sg 36 4 51 0 0 fO ar zt fun us hr=>Op.pg 10 [(5,vF)]<|At.rn f101 qJ [.cell 4 36,.tmp 5] ⟨⟨_,_,rfl,dB (n:=9) (by kernel_rfl) (hr.ag 0 rfl) (by kernel_rfl) rfl⟩,rfl,trivial⟩ (hR hr.drop ⟨vN,vN,bM (by(rw[gT (rV a3 aw ‹_›)];rfl)) (aS (by(rw[gT (rV a3 aw ‹_›)];done))),bP (ay.empty _ _ _ _ _) (by(rw[gT (rV a3 aw ‹_›)];rfl)),bP (ay.empty _ _ _ _ _) (by(rw[gT (rV a3 aw ‹_›)];rfl)),rfl⟩)
 refine At.dw (fun _=>False) [(0,true),(1,true),(3,true),(4,true),(7,true),(8,true),(10,true),(11,true),(15,true),(16,true),(20,true),(21,true),(25,true),(26,true),(29,true),(30,true),(2,true),(5,true),(6,true),(9,true),(12,true),(13,true),(14,true),(17,true),(18,true),(19,true),(22,true),(23,true),(24,true),(27,true),(28,true),(31,true),(32,true),(33,false),(1034,false),(34,false)]<|Op.px 1 [(52,vL (some ⟨a0,V,none⟩) (((bH O).1).length) n285)] ?_
 obtain⟨bt,hs⟩:=j6 (l:=(bH O).1) (i:=0) (by(have:=fE ‹_›;omega))
 obtain⟨ut,u1,u2,u3,lh,li,eT⟩:=ay.br a8 _ hs
 cases lh
 refine Op.ix 81 3 1 8 (((bH O).1).length) n285 52 (.const (vI 0)) 53 a0 V 0 (by omega) (by(have:=fE ‹_›;omega)) ?_
 replace eT:cut _ _ _=[vI bt]:=eT
 refine Op.px 1 [(55,vL (some ⟨a0,V,none⟩) (((bH O).1).length) n285)] ?_
 obtain⟨bi,dk⟩:=j6 (l:=(bH O).1) (i:=1) (by(have:=fE ‹_›;omega))
 obtain⟨u4,vd,ve,vo,lj,lk,e1⟩:=ay.br a8 _ dk
 cases lj
 refine Op.ix 81 3 1 8 (((bH O).1).length) n285 55 (.const (vI 1)) 56 a0 V 1 (by omega) (by(have:=fE ‹_›;omega)) ?_
 replace e1:cut _ _ _=[vI bi]:=e1
 refine Op.px 1 [(59,vL (some ⟨a0,V,none⟩) (((bH O).1).length) n285)] ?_
 obtain⟨b3,hu⟩:=j6 (l:=(bH O).1) (i:=2) (by(have:=fE ‹_›;omega))
 obtain⟨vx,vy,v2,v3,ll,lm,e2⟩:=ay.br a8 _ hu
 cases ll
 refine Op.ix 81 3 1 8 (((bH O).1).length) n285 59 (.const (vI 2)) 60 a0 V 2 (by omega) (by(have:=fE ‹_›;omega)) ?_
 replace e2:cut _ _ _=[vI b3]:=e2
 refine Op.px 1 [(62,vL (some ⟨a0,V,none⟩) (((bH O).1).length) n285)] ?_
 obtain⟨v4,v5,v6,v8,ln,lr,e3⟩:=ay.br a8 _ aw
 cases ln
 refine Op.ix 81 3 1 8 (((bH O).1).length) n285 62 (.const (vI 3)) 63 a0 V 3 (by omega) (by(have:=fE ‹_›;omega)) ?_
 replace e3:cut _ _ _=[vI I]:=e3
 refine Op.px 1 [(67,vL (some ⟨a0,V,none⟩) (((bH O).1).length) n285)] ?_
 obtain⟨v9,wa,wc,wi,lv,lw,e4⟩:=ay.br a8 _ aw
 cases lv
 refine Op.ix 81 3 1 8 (((bH O).1).length) n285 67 (.const (vI 3)) 68 a0 V 3 (by omega) (by(have:=fE ‹_›;omega)) ?_
 replace e4:cut _ _ _=[vI I]:=e4
 refine Op.px 1 [(72,vL (some ⟨a0,V,none⟩) (((bH O).1).length) n285)] ?_
 obtain⟨wn,wp,wr,wt,lx,ly,e5⟩:=ay.br a8 _ aw
 cases lx
 refine Op.ix 81 3 1 8 (((bH O).1).length) n285 72 (.const (vI 3)) 73 a0 V 3 (by omega) (by(have:=fE ‹_›;omega)) ?_
 replace e5:cut _ _ _=[vI I]:=e5
 refine Op.px 1 [(77,vL (some ⟨be,a5,none⟩) (((aT b).1).length) X)] ?_
 obtain⟨b4,hw⟩:=cD ((aT b).1) 1
 obtain⟨ww,wx,wy,w0,lA,lL,e6⟩:=ay.br ab _ hw
 cases lA
 refine Op.iq 107 28 1 24 (((aT b).1).length) X 77 (.const (vI 1)) 78 be a5 1 ?_
 obtain⟨w1,e6,hx⟩:=e6
 obtain⟨lO,l0,rfl⟩:=hx.ai
 refine Op.px 1 [(81,vL (some ⟨be,a5,none⟩) (((aT b).1).length) X)] ?_
 obtain⟨ci,hy⟩:=cD ((aT b).1) 2
 obtain⟨w2,w3,w7,xa,l2,l3,e7⟩:=ay.br ab _ hy
 cases l2
 refine Op.iq 107 28 1 24 (((aT b).1).length) X 81 (.const (vI 2)) 82 be a5 2 ?_
 obtain⟨xc,e7,hz⟩:=e7
 obtain⟨e8,e9,rfl⟩:=hz.ai
 refine Op.fQ (T:=3) (x:=53) (o:=V+(0:Int).toNat*1) (d:=54) (n:=1) (v:=vI bt) (by kernel_rfl) (by kernel_rfl) (by kernel_rfl) id (ar.sub _ _ li) (cT eT 0 rfl)<|Op.fQ (T:=3) (x:=56) (o:=V+(1:Int).toNat*1) (d:=57) (n:=1) (v:=vI bi) (by kernel_rfl) (by kernel_rfl) (by kernel_rfl) id (ar.sub _ _ lk) (cT e1 0 rfl)<|Op.dQ 58 (bi-1) (by(have:=nV dk;omega)) (by(have:=nV dk;omega))<|Op.fQ (T:=3) (x:=60) (o:=V+(2:Int).toNat*1) (d:=61) (n:=1) (v:=vI b3) (by kernel_rfl) (by kernel_rfl) (by kernel_rfl) id (ar.sub _ _ lm) (cT e2 0 rfl)<|Op.fQ (T:=3) (x:=63) (o:=V+(3:Int).toNat*1) (d:=64) (n:=1) (v:=vI I) (by kernel_rfl) (by kernel_rfl) (by kernel_rfl) id (ar.sub _ _ lr) (cT e3 0 rfl) ?_
 refine Op.vl 65 (.int .i64 (IntKind.wrap .i64 (((BitVec.ofInt (IntKind.bits .i64) I &&& BitVec.ofInt (IntKind.bits .i64) (1:Int)).toNat:Nat):Int))) (.int .i64 (I % 2)) (It (by have:=nV aw;omega) (by omega))<|Op.px 1 [(66,.bool ((I % 2) != 0))]<|Op.fQ (T:=3) (x:=68) (o:=V+(3:Int).toNat*1) (d:=69) (n:=1) (v:=vI I) (by kernel_rfl) (by kernel_rfl) (by kernel_rfl) id (ar.sub _ _ lw) (cT e4 0 rfl)<|Op.vl 70 (.int .i64 (IntKind.wrap .i64 (((BitVec.ofInt (IntKind.bits .i64) I &&& BitVec.ofInt (IntKind.bits .i64) (2:Int)).toNat:Nat):Int))) (.int .i64 (I / 2 % 2*2)) (Iu (by have:=nV aw;omega) (by omega))<|Op.px 1 [(71,.bool ((I / 2 % 2*2) != 0))] ?_
 refine Op.fQ (T:=3) (x:=73) (o:=V+(3:Int).toNat*1) (d:=74) (n:=1) (v:=vI I) (by kernel_rfl) (by kernel_rfl) (by kernel_rfl) id (ar.sub _ _ ly) (cT e5 0 rfl)<|Op.vl 75 (.int .i64 (IntKind.wrap .i64 (((BitVec.ofInt (IntKind.bits .i64) I &&& BitVec.ofInt (IntKind.bits .i64) (4:Int)).toNat:Nat):Int))) (.int .i64 (I / 4 % 2*4)) (Iv (by have:=nV aw;omega) (by omega))<|Op.px 1 [(76,.bool ((I / 4 % 2*4) != 0))]<|Op.fQ (T:=28) (x:=78) (o:=a5+(1:Int).toNat*1) (d:=79) (n:=1) (v:=vL lO b4.length l0) (by kernel_rfl) (by kernel_rfl) (by kernel_rfl) id (ar.sub _ _ lL) (cT e6 0 rfl)<|Op.yI (T:=28) (S:=9) (E:=5) (x:=79) (dst:=80) (l:=b4) (by kernel_rfl) (by kernel_rfl) (by kernel_rfl) (by kernel_rfl) (by kernel_rfl) hx ar.sub (fun _ _ _ h=>h) ?_
 refine Op.fQ (T:=28) (x:=82) (o:=a5+(2:Int).toNat*1) (d:=83) (n:=1) (v:=vL e8 ci.length e9) (by kernel_rfl) (by kernel_rfl) (by kernel_rfl) id (ar.sub _ _ l3) (cT e7 0 rfl)<|Op.px 1 [(84,.agg #[vI bt,vS b4,vL e8 ci.length e9,vI (bi-1),vI b3,.bool ((I % 2) != 0),.bool ((I / 2 % 2*2) != 0),.bool ((I / 4 % 2*4) != 0),vN])]<|Op.al 10 36 fO ar fun b5 xf l4=>Op.ba<|Op.sg 36 10 84 0 0 #[vI bt,vS b4,vL e8 ci.length e9,vI (bi-1),vI b3,.bool ((I % 2) != 0),.bool ((I / 2 % 2*2) != 0),.bool ((I / 4 % 2*4) != 0),vN] l4 zt fun xi l8=>?_
 refine Op.gt 12<|At.rp 4 1 [(85,vL (some ⟨be,a5,none⟩) (((aT b).1).length) X)]<|Op.wE (T:=107) (E:=28) (cR:=24) (x:=85) (ao:=(some ⟨be,a5,none⟩)) (n:=(((aT b).1).length)) (c:=X) (dst:=86) (d:=(jC 5 bn)) (lo:=(.const (vI 3))) (k:=.i64) (m:=3) (by kernel_rfl) (by kernel_rfl) (by kernel_rfl) (by kernel_rfl) ab (by omega) (by omega) fun xn dl=>?_
 obtain⟨ma,hA,rfl⟩:=dl.ai
 refine Op.pg 13 [(87,vI ((((aT b).1).drop (3:Int).toNat).length:Int)),(88,vI 0)] ?_
 have md:=aF.nil 36 eY eK
 obtain⟨xr,mf,mi⟩:=St.bl (Q:=qK eK b5 (⟨bt,b4,ci,bi-1,b3,(I % 2) != 0,(I / 2 % 2*2) != 0,(I / 4 % 2*4) != 0,([]:List aC)⟩:aC)) 2 (l8.nl.fs [1] rfl) ⟨_,_,_,rfl,hz,md⟩
 have eo:∀(m:Nat) (dp:GH) (dq:aG eK dp) (ob:aC) (i:Int) (fa:au) (fg:av) (hm:((aT b).1.drop (3:Int).toNat).length-i.toNat<m) (h0:0≤i) (h1:i≤((aT b).1.drop (3:Int).toNat).length) (hB:iI bU b=true) (hP:tI b ob i) (bc:(ob.aH.length:Int)=i) (ck:qK dp b5 ob fa) (co:St h g (aM []) dp [fa,[(c8,Obj.cells fO 36 (0,0))]] fg),At (bS prog B 101 f101 R) [] 13 [(4,vP c8),(10,vP b5),(86,vL ma ((((aT b).1).drop (3:Int).toNat).length) hA),(87,vI ((((aT b).1).drop (3:Int).toNat).length:Int)),(88,vI i)] fg:=by
  intro m;induction m with
  |zero=>intros;omega
  |succ m et=>
   intro dp dq ob i fa fg hm h0 h1 hB hP bc ck co
   replace Y:=Y.mono dq
   replace dl:=dl.mono dq
   refine At.go 14 1 [(89,.bool (decide (i<((((aT b).1).drop (3:Int).toNat).length:Int))))]<|At.fd (i<((((aT b).1).drop (3:Int).toNat).length:Int)) 89 15 23 (fun xt=>?_) fun xv=>?_
   ·refine At.rg 3 ?_
    obtain⟨D,bj⟩:=cD (((aT b).1).drop (3:Int).toNat) i
    obtain⟨ml,hC,yi,yk,mp,mx,fi⟩:=ay.br dl _ bj
    cases mp
    refine Op.iq 107 28 1 24 ((((aT b).1).drop (3:Int).toNat).length) hA 86 88 90 ml hC i ?_
    obtain⟨yn,fi,hD⟩:=fi
    obtain⟨fj,fl,rfl⟩:=hD.ai
    refine Op.l1 28 90 91 (hC+i.toNat*1) (vL fj D.length fl) (co.sub _ _ mx) ?_ (hv:=cT fi 0 rfl)
    refine Op.pg 16 [(12,vL fj D.length fl)]<|At.rp 8 1 [(93,vL fj D.length fl)]<|Op.c0 (some 94) (fr _ _ _ co.sub Y _ _ hD true (by((try dsimp only)<;>((have:=CR bj;omega)))) (by exact IC hB h0 ‹_› d2)) co ?_
    rintro _ my _ yr m0 m1 ⟨yv,y7,rfl,hE,hF,rfl⟩
    obtain⟨c3,c4,rfl⟩:=hE.ai
    obtain⟨c5,c6,rfl⟩:=hF.ai
    replace ck:=ck.mono m0
    refine Op.px 3 [(95,.agg #[vI (((aR true D).1).Kind),vS (((aR true D).1).aa),vL c3 ((((aR true D).1).Data).length) c4,vI (((aR true D).1).ak),vI (((aR true D).1).aJ),.bool (((aR true D).1).aZ),.bool (((aR true D).1).aN),.bool (((aR true D).1).ah),vL c5 ((((aR true D).1).aH).length) c6]),(96,.bool ((aR true D).2))]<|Op.al 13 36 fO m1 fun y8 z1 m2=>Op.sg 36 13 95 0 0 #[vI (((aR true D).1).Kind),vS (((aR true D).1).aa),vL c3 ((((aR true D).1).Data).length) c4,vI (((aR true D).1).ak),vI (((aR true D).1).aJ),.bool (((aR true D).1).aZ),.bool (((aR true D).1).aN),.bool (((aR true D).1).ah),vL c5 ((((aR true D).1).aH).length) c6] m2 zt fun z2 hG=>Op.pg 17 [(14,.bool ((aR true D).2))]<|At.go 18 2 [(98,.bool (!((aR true D).2)))] ?_
    refine At.c_ (!((aR true D).2)) 98 19 21 (fun hH=>?_) fun hI=>?_
    ·replace hH:=(dm hH)
     exact At.rp 3 1 [(99,.agg fO)]<|Op.sg 36 4 99 0 2 fO hG zt fun z3 hJ=>Op.pg 20 [(5,vF)]<|At.rn f101 qJ [.cell 4 36,.tmp 5] ⟨⟨_,_,rfl,dB (n:=9) (by kernel_rfl) (hJ.ag 2 rfl) (by kernel_rfl) rfl⟩,rfl,trivial⟩ (hR hJ.drop.drop.drop ⟨vN,vN,bM (by(rw[rW hB bj ‹_›];rfl)) (aS (by(rw[rW hB bj ‹_›];done))),bP (ay.empty _ _ _ _ _) (by(rw[rW hB bj ‹_›];rfl)),bP (ay.empty _ _ _ _ _) (by(rw[rW hB bj ‹_›];rfl)),rfl⟩)
    replace hI:=(dn hI)
    refine At.rp 7 1 [(100,vQ b5 8)] ?_
    obtain⟨z4,z5,m3,m4,hK,hL⟩:=ck
    obtain⟨m5,m6,rfl⟩:=hK.ai
    obtain⟨m7,m8,rfl⟩:=hL.ai
    have fp:=St.un [m3] m4 (hG.fs [1] rfl)
    refine Op.l1 34 100 101 8 (vL m7 ob.aH.length m8) (fp.ag 0 rfl)<|Op.la 36 13 102 0 9 [vI (((aR true D).1).Kind),vS (((aR true D).1).aa),vL c3 ((((aR true D).1).Data).length) c4,vI (((aR true D).1).ak),vI (((aR true D).1).aJ),.bool (((aR true D).1).aZ),.bool (((aR true D).1).aN),.bool (((aR true D).1).ah),vL c5 ((((aR true D).1).aH).length) c6] (fp.ag 2 rfl)<|Op.ls 103 1 36 #[vI (((aR true D).1).Kind),vS (((aR true D).1).aa),vL c3 ((((aR true D).1).Data).length) c4,vI (((aR true D).1).ak),vI (((aR true D).1).aJ),.bool (((aR true D).1).aZ),.bool (((aR true D).1).aN),.bool (((aR true D).1).ah),vL c5 ((((aR true D).1).aH).length) c6] fp fun z6 z7 hN=>Op.ap 101 103 34 34 104 36 96 eY (ys:=[((aR true D).1)]) hL hN 2 (⟨_,_,rfl,(mP.2 ⟨_,_,hE,hF,rfl⟩),Reads.nil⟩) (by(have:=zW ‹_› bc;simp only[bL,cS];omega)) (fun _ _ _=>trivial) (di.lit (m:=1) (sz:=9) (hN.ag 0 rfl) (news:=[vI (((aR true D).1).Kind),vS (((aR true D).1).aa),vL c3 ((((aR true D).1).Data).length) c4,vI (((aR true D).1).ak),vI (((aR true D).1).aJ),.bool (((aR true D).1).aZ),.bool (((aR true D).1).aN),.bool (((aR true D).1).ah),vL c5 ((((aR true D).1).aH).length) c6]) rfl rfl (by simp[Value.oneCell']) _) fun z8 z9 A0 hO m9 A1=>?_
    obtain⟨hQ,hS,rfl⟩:=hO.ai
    refine Op.px 1 [(105,vQ b5 8)]<|Op.s1 34 105 104 8 (vL hQ ((ob.aH++([((aR true D).1)])).length) hS) 0 #[vI ob.Kind,vS ob.aa,vL m5 ob.Data.length m6,vI ob.ak,vI ob.aJ,.bool ob.aZ,.bool ob.aN,.bool ob.ah,vL hQ ((ob.aH++([((aR true D).1)])).length) hS] ((m9).drop) zt fun CH na=>Op.gt 22<|At.rg 2<|Op.dQ 106 (i+1) (by omega) (by(have:=zW ‹_› bc;omega)) ?_
    refine Op.pg 13 [(88,vI (i+1))] ?_
    obtain⟨CM,nb,nd⟩:=St.bl (Q:=qK my b5 (⟨ob.Kind,ob.aa,ob.Data,ob.ak,ob.aJ,ob.aZ,ob.aN,ob.ah,ob.aH++([((aR true D).1)])⟩:aC)) 2 na ⟨_,_,_,rfl,hK,hO⟩
    exact At.ke (et _ (aG.trans dq (by repeat (first|assumption|apply aG.trans))) (⟨ob.Kind,ob.aa,ob.Data,ob.ak,ob.aJ,ob.aZ,ob.aN,ob.ah,ob.aH++([((aR true D).1)])⟩:aC) (i+1) _ _ (by omega) (by omega) (by omega) (by omega) (by exact IB hP h0 bj ‹_›) (by(simp only[b_,bL,cS];omega)) nb ((nd.fs [1] rfl).drop))
   refine At.rg 3 ?_
   obtain⟨Eq,EQ,nf,nm,du,hT⟩:=ck
   obtain⟨dv,dC,rfl⟩:=du.ai
   obtain⟨dE,dT,rfl⟩:=hT.ai
   have hV:=St.un [nf] nm co
   refine Op.la 36 10 107 0 9 [vI ob.Kind,vS ob.aa,vL dv ob.Data.length dC,vI ob.ak,vI ob.aJ,.bool ob.aZ,.bool ob.aN,.bool ob.ah,vL dE ob.aH.length dT] (hV.ag 0 rfl)<|Op.sg 36 4 107 0 2 #[vI ob.Kind,vS ob.aa,vL dv ob.Data.length dC,vI ob.ak,vI ob.aJ,.bool ob.aZ,.bool ob.aN,.bool ob.ah,vL dE ob.aH.length dT] hV zt fun Fd nn=>Op.pg 24 [(5,vT)] ?_
   obtain⟨Fn,hW,no,np⟩:=aF.freeze hT (nn.fs [1] rfl)
   replace du:=du.mono no
   exact At.rn f101 [.agg #[vI ob.Kind,vS ob.aa,vL dv ob.Data.length dC,vI ob.ak,vI ob.aJ,.bool ob.aZ,.bool ob.aN,.bool ob.ah,vL dE ob.aH.length dT],vT] [.cell 4 36,.tmp 5] ⟨⟨_,_,rfl,dB (n:=9) (by kernel_rfl) (hW.ag 1 rfl) (by kernel_rfl) rfl⟩,rfl,trivial⟩ (hR hW.drop.drop ⟨(vL dv ob.Data.length dC),(vL dE ob.aH.length dT),bM (by(rw[rX hB hP ‹_›];done)) (aS (by(rw[rX hB hP ‹_›];done))),bP du (by(rw[rX hB hP ‹_›];done)),bP np (by(rw[rX hB hP ‹_›];done)),rfl⟩)
 exact At.ke (eo _ _ (aG.refl _) (⟨bt,b4,ci,bi-1,b3,(I % 2) != 0,(I / 2 % 2*2) != 0,(I / 4 % 2*4) != 0,([]:List aC)⟩:aC) 0 _ _ (bK _) (by omega) (by omega) (by exact Iz ‹_› ‹_› (by exact .inl ‹_›) a3 ‹_› aw ‹_›) (by exact IA (Iy a3 hw hy hs dk hu aw)) (by rfl) mf mi)
theorem Qa (B:World) (h:av) (g:GH) (hg:bf g h) (D:bh g) (u:Value) (b:aj) (G:ay g 5 bn u b) (bU:Bool) (hl:b.length≤1000000000):aA prog B 101 #[u,.bool bU] h g [] (fun I g' L'=>∃v0 v1,I=.tuple #[.agg #[.int .i64 (((aR bU b).1).Kind),.string (a_ (((aR bU b).1).aa)),v0,.int .i64 (((aR bU b).1).ak),.int .i64 (((aR bU b).1).aJ),.bool (((aR bU b).1).aZ),.bool (((aR bU b).1).aN),.bool (((aR bU b).1).ah),v1],.bool ((aR bU b).2)]∧ay g' 5 bn v0 (((aR bU b).1).Data)∧ay g' 36 eY v1 (((aR bU b).1).aH)∧L'=[]):=P_ _ B h g hg D u b G bU hl (bK _)
theorem Qb (B:World) (h:av) (g:GH) (hg:bf g h) (I:bh g) (Y:Value) (b:aj) (Z:ay g 5 bn Y b) (hl:b.length≤1000000000):
  aA prog B 60 #[Y] h g [] (fun a3 g' L'=>∃v0 v1,a3=.tuple #[.agg #[.int .i64 (((aK b).1).Kind),.string (a_ (((aK b).1).aa)),v0,.int .i64 (((aK b).1).ak),.int .i64 (((aK b).1).aJ),.bool (((aK b).1).aZ),.bool (((aK b).1).aN),.bool (((aK b).1).ah),v1],.int .i64 ((aK b).2)]∧ay g' 5 bn v0 (((aK b).1).Data)∧ay g' 36 eY v1 (((aK b).1).aH)∧L'=[]):=by
 obtain⟨a4,a5,rfl⟩:=Z.ai
 refine aA.aq func60 fun R hR=>At.rg 2<|Op.al 2 36 fO (St.init hg) fun a9 bb O=>Op.pg 1 []<|At.go 2 3 [(8,.bool (decide ((b.length:Int)>1024)))] ?_
 refine At.fd ((b.length:Int)>1024) 8 3 5 (fun bc=>?_) fun bd=>?_
 ·exact At.rp 3 1 [(9,.agg fO)]<|Op.sg 36 2 9 0 0 fO O zt fun be ab=>Op.pg 4 [(3,vI 130)]<|At.rn f60 CU [.cell 2 36,.tmp 3] ⟨⟨_,_,rfl,dB (n:=9) (by kernel_rfl) (ab.ag 0 rfl) (by kernel_rfl) rfl⟩,rfl,trivial⟩ (hR ab.drop ⟨vN,vN,bM (by(rw[zX ‹_›];rfl)) (bp (by(rw[zX ‹_›];done))),bP (ay.empty _ _ _ _ _) (by(rw[zX ‹_›];rfl)),bP (ay.empty _ _ _ _ _) (by(rw[zX ‹_›];rfl)),rfl⟩)
 refine At.rp 8 1 [(11,vL a4 b.length a5)]<|Op.c0 (some 12) (Qa _ _ _ O.sub I _ _ Z false (by(try dsimp only)<;>omega)) O ?_
 rintro _ bi _ bj a6 a7 ⟨bk,bm,rfl,U,V,rfl⟩
 obtain⟨a31,u,rfl⟩:=U.ai
 obtain⟨D,G,rfl⟩:=V.ai
 replace I:=I.mono a6
 refine Op.px 3 [(13,.agg #[vI (((aR false b).1).Kind),vS (((aR false b).1).aa),vL a31 ((((aR false b).1).Data).length) u,vI (((aR false b).1).ak),vI (((aR false b).1).aJ),.bool (((aR false b).1).aZ),.bool (((aR false b).1).aN),.bool (((aR false b).1).ah),vL D ((((aR false b).1).aH).length) G]),(14,.bool ((aR false b).2))]<|Op.al 4 36 fO a7 fun bo bs a8=>Op.sg 36 4 13 0 0 #[vI (((aR false b).1).Kind),vS (((aR false b).1).aa),vL a31 ((((aR false b).1).Data).length) u,vI (((aR false b).1).ak),vI (((aR false b).1).aJ),.bool (((aR false b).1).aZ),.bool (((aR false b).1).aN),.bool (((aR false b).1).ah),vL D ((((aR false b).1).aH).length) G] a8 zt fun bt J=>Op.pg 6 [(5,.bool ((aR false b).2))]<|At.rp 7 3 [(17,.bool (!((aR false b).2)))] ?_
 refine Op.wb (!((aR false b).2)) 17 (fun ad=>?_) fun ae=>?_
 ·replace ad:=(dm ad)
  refine Op.pg 7 [(21,vT)]<|At.bX 21 8<|At.rp 3 1 [(22,.agg fO)]<|Op.sg 36 2 22 0 1 fO J zt fun b3 am=>Op.pg 9 [(3,vI 130)] ?_
  exact At.rn f60 CU [.cell 2 36,.tmp 3] ⟨⟨_,_,rfl,dB (n:=9) (by kernel_rfl) (am.ag 1 rfl) (by kernel_rfl) rfl⟩,rfl,trivial⟩ (hR am.drop.drop ⟨vN,vN,bM (by(rw[rY ‹_› (.inl ‹_›)];rfl)) (bp (by(rw[rY ‹_› (.inl ‹_›)];done))),bP (ay.empty _ _ _ _ _) (by(rw[rY ‹_› (.inl ‹_›)];rfl)),bP (ay.empty _ _ _ _ _) (by(rw[rY ‹_› (.inl ‹_›)];rfl)),rfl⟩)
 replace ae:=(dn ae)
 refine Op.la 36 4 18 0 9 [vI (((aR false b).1).Kind),vS (((aR false b).1).aa),vL a31 ((((aR false b).1).Data).length) u,vI (((aR false b).1).ak),vI (((aR false b).1).aJ),.bool (((aR false b).1).aZ),.bool (((aR false b).1).aN),.bool (((aR false b).1).ah),vL D ((((aR false b).1).aH).length) G] (J.ag 0 rfl)<|Op.c1 19 (IF _ _ _ J.sub I ((aR false b).1) _ U _ V false (by(try dsimp only)<;>exact PY b)) J fun b4 X=>Op.pg 7 [(21,.bool (!(dV false ((aR false b).1))))]<|At.c_ (!(dV false ((aR false b).1))) 21 8 10 (fun ar=>?_) fun aw=>?_
 ·replace ar:=(dm ar)
  exact At.rp 3 1 [(22,.agg fO)]<|Op.sg 36 2 22 0 1 fO X zt fun b5 a0=>Op.pg 9 [(3,vI 130)]<|At.rn f60 CU [.cell 2 36,.tmp 3] ⟨⟨_,_,rfl,dB (n:=9) (by kernel_rfl) (a0.ag 1 rfl) (by kernel_rfl) rfl⟩,rfl,trivial⟩ (hR a0.drop.drop ⟨vN,vN,bM (by(rw[rY ‹_› (.inr ‹_›)];rfl)) (bp (by(rw[rY ‹_› (.inr ‹_›)];done))),bP (ay.empty _ _ _ _ _) (by(rw[rY ‹_› (.inr ‹_›)];rfl)),bP (ay.empty _ _ _ _ _) (by(rw[rY ‹_› (.inr ‹_›)];rfl)),rfl⟩)
 replace aw:=(dn aw)
 exact At.rg 3<|Op.la 36 4 23 0 9 [vI (((aR false b).1).Kind),vS (((aR false b).1).aa),vL a31 ((((aR false b).1).Data).length) u,vI (((aR false b).1).ak),vI (((aR false b).1).aJ),.bool (((aR false b).1).aZ),.bool (((aR false b).1).aN),.bool (((aR false b).1).ah),vL D ((((aR false b).1).aH).length) G] (X.ag 0 rfl)<|Op.sg 36 2 23 0 1 #[vI (((aR false b).1).Kind),vS (((aR false b).1).aa),vL a31 ((((aR false b).1).Data).length) u,vI (((aR false b).1).ak),vI (((aR false b).1).aJ),.bool (((aR false b).1).aZ),.bool (((aR false b).1).aN),.bool (((aR false b).1).ah),vL D ((((aR false b).1).aH).length) G] X zt fun b6 a1=>Op.pg 11 [(3,vI 0)]<|At.rn f60 [.agg #[vI (((aR false b).1).Kind),vS (((aR false b).1).aa),vL a31 ((((aR false b).1).Data).length) u,vI (((aR false b).1).ak),vI (((aR false b).1).aJ),.bool (((aR false b).1).aZ),.bool (((aR false b).1).aN),.bool (((aR false b).1).ah),vL D ((((aR false b).1).aH).length) G],vI 0] [.cell 2 36,.tmp 3] ⟨⟨_,_,rfl,dB (n:=9) (by kernel_rfl) (a1.ag 1 rfl) (by kernel_rfl) rfl⟩,rfl,trivial⟩ (hR a1.drop.drop ⟨(vL a31 ((((aR false b).1).Data).length) u),(vL D ((((aR false b).1).aH).length) G),bM (by(rw[zY ‹_› ‹_› ‹_›];done)) (bp (by(rw[zY ‹_› ‹_› ‹_›];done))),bP U (by(rw[zY ‹_› ‹_› ‹_›];done)),bP V (by(rw[zY ‹_› ‹_› ‹_›];done)),rfl⟩)
def iJ (v:Int):Bool:=decide (0≤v)&&decide (v≤4611686018427387902)
theorem Qc {v:Int} (h1:v<0):true=!iJ v:=by unfold iJ;rw[fU (by omega)];rfl
theorem Qd {v:Int} (h1:¬v<0):decide (v>4611686018427387902)=!iJ v:=by
  unfold iJ
  rw[eW (p:=0≤v) (by omega),lP,oI]
  simp
theorem Qe (l:List Int):(!l.any fun x=>!iJ x)=l.all iJ:=by rw[G4];simp
def tK (x:Result):List Int:=[x.Code,x.bg,x.At,x.af.ak,x.af.aE+1,x.af.Next,x.af.aO]
def kn (x:Result):Bool:=[x.Code,x.bg,x.At,x.af.ak,x.af.Next,x.af.aO].all iJ&&(decide (-1≤x.af.aE)&&decide (x.af.aE≤4611686018427387902))
def mq (w:ah):aj×Int:=dx [(eD [w.Client,w.Kind]).1,w.aa]
def kP (w:ah):Bool:=[w.Client,w.Kind].all iJ&&(mq w).2==0
def xF (x:Result):List aj:=[(eD (tK x)).1,x.af.aa,x.af.Data,(dx x.bF).1]
def lV (x:Result):List aj:=xF x++x.aW.map fun w=>(mq w).1
def dy (x:Result):aj×Int:=
  if kn x=false then ([],130) else if (dx x.bF).2≠0 then ([],130) else if x.aW.all kP=false then ([],130) else if (dx (lV x)).2≠0 then ([],130) else ((dx (lV x)).1,0)
def vc (x:Result):Prop:=x.af.aa.length≤1000000000∧(x.bF.length≤1000000∧∀n∈x.bF,n.length≤1000000000)∧(x.aW.length≤1000000∧∀w∈x.aW,w.aa.length≤1000000000)
def qL (x:Result) (cq:List aj) (i:Int):Prop:=cq=xF x++(x.aW.take i.toNat).map (fun w=>(mq w).1)∧(x.aW.take i.toNat).all kP=true
section
variable {x:Result} {cq:List aj} {i:Int} {w:ah}
theorem Qf (x:Result):qL x (xF x) 0:=⟨by simp,rfl⟩
theorem Qg (H:qL x cq i) (h0:0≤i) (hw:x.aW[i.toNat]?=some w) (h1:[w.Client,w.Kind].all iJ=true) (h2:(mq w).2=0):qL x (cq++[(mq w).1]) (i+1):=by
  obtain⟨g1,g2⟩:=H
  unfold qL
  rw[toNat_succ h0,fu hw]
  refine⟨by rw[g1];simp,?_⟩
  rw[zq,g2,lP,j5,nq,lB]
  unfold kP
  rw[h1,h2];rfl
theorem IG (H:qL x cq i) (h:x.aW.length≤1000000):cq.length≤1000004:=by
  rw[H.1,b_,eu,dD]
  show 4+_≤_
  omega
theorem vf (h:kn x=false):dy x=([],130):=by unfold dy;rw[aL h]
theorem II (h:kn x=true) (h2:¬(dx x.bF).2=0):dy x=([],130):=by unfold dy;rw[h,aB (by simp),aL h2]
theorem Qh (hw:x.aW[i.toNat]?=some w) (he:kP w=false):x.aW.all kP=false:=by
  cases h:x.aW.all kP with
  |false=>rfl
  |true=>rw[gR] at h;rw[h w (cL hw)] at he;cases he
theorem IJ (h:[w.Client,w.Kind].all iJ=false):kP w=false:=by unfold kP;rw[h];rfl
theorem IK (h:¬(mq w).2=0):kP w=false:=by unfold kP;simp[h]
theorem Ab (h:kn x=true) (h2:(dx x.bF).2=0) (hw:x.aW[i.toNat]?=some w) (he:kP w=false):dy x=([],130):=by
  unfold dy
  rw[h,aB (by simp),aB (by omega),aL (Qh hw he)]
theorem IL (H:qL x cq i) (h:¬i<(x.aW.length:Int)):cq=lV x∧x.aW.all kP=true:=by
  obtain⟨g1,g2⟩:=H
  rw[eR (by omega)] at g1 g2
  exact⟨g1,g2⟩
theorem IM (h:kn x=true) (h2:(dx x.bF).2=0) (H:qL x cq i) (hi:¬i<(x.aW.length:Int)) (he:¬(dx cq).2=0):dy x=([],130):=by
  obtain⟨g1,g2⟩:=IL H hi
  rw[g1] at he
  unfold dy
  rw[h,aB (by simp),aB (by omega),g2,aB (by simp),aL he]
theorem IN (h:kn x=true) (h2:(dx x.bF).2=0) (H:qL x cq i) (hi:¬i<(x.aW.length:Int)) (he:(dx cq).2=0):dy x=((dx cq).1,0):=by
  obtain⟨g1,g2⟩:=IL H hi
  rw[g1] at he ⊢
  unfold dy
  rw[h,aB (by simp),aB (by omega),g2,aB (by simp),aB (by omega)]
theorem IP (h:[x.Code,x.bg,x.At,x.af.ak,x.af.Next,x.af.aO].all iJ=true) (h1:¬x.af.aE< -1) (h2:¬x.af.aE>4611686018427387902):kn x=true:=by
  unfold kn
  rw[h,eW (by omega),eW (by omega)];rfl
theorem IQ (h:[x.Code,x.bg,x.At,x.af.ak,x.af.Next,x.af.aO].all iJ=false):kn x=false:=by unfold kn;rw[h];rfl
theorem Ac (h:x.af.aE< -1∨x.af.aE>4611686018427387902):kn x=false:=by
  unfold kn
  rcases h with h|h
  · rw[fU (p:= -1≤x.af.aE) (by omega)];simp
  · rw[fU (p:=x.af.aE≤4611686018427387902) (by omega)];simp
theorem CW (h:kn x=true): -1≤x.af.aE∧x.af.aE≤4611686018427387902:=by
  unfold kn at h
  simp only[bO,cB] at h
  exact h.2
end
def vg (v:List Int) (s:List aj) (iW:List aj) (eE:List ah):Result:=⟨v.getD 0 0,v.getD 1 0,v.getD 2 0,⟨s.getD 1 [],s.getD 2 [],v.getD 3 0,v.getD 4 0-1,v.getD 5 0,v.getD 6 0⟩,iW,eE⟩
def r5:Result:=⟨0,0,0,⟨[],[],0,0,0,0⟩,[],[]⟩
def tL (b:aj):Bool:=((aT b).2==0&&((aT b).1.length:Int)==2)&&gK ((aT b).1.getD 0 []) 2
def ez (b:aj):ah×Bool:=if tL b then (⟨(bH ((aT b).1.getD 0 [])).1.getD 0 0,(bH ((aT b).1.getD 0 [])).1.getD 1 0,(aT b).1.getD 1 []⟩,true) else (⟨0,0,[]⟩,false)
def kQ (b:aj):Bool:=((aT b).2==0&&decide (4≤((aT b).1.length:Int)))&&(gK ((aT b).1.getD 0 []) 7&&(aT ((aT b).1.getD 3 [])).2==0)
def tM (b:aj) (eE:List ah):Result:=vg (bH ((aT b).1.getD 0 [])).1 (aT b).1 (aT ((aT b).1.getD 3 [])).1 eE
def r6 (b:aj):List ah:=((aT b).1.drop (4:Int).toNat).map fun e=>(ez e).1
def aY (b:aj):Result×Int:=
  if kQ b then (if ((aT b).1.drop (4:Int).toNat).all (fun e=>(ez e).2) then (if (dy (tM b (r6 b))).2=0∧(dy (tM b (r6 b))).1=b then (tM b (r6 b),0) else (r5,130)) else (r5,130)) else (r5,130)
section
variable {b x0 x1 x2 x3 e:aj} {y0 y1 y2 y3 y4 y5 y6 i:Int} {ns:List aj} {eE:List ah} {ob:Result}
theorem IS (h:¬(aT b).2=0):ez b=(⟨0,0,[]⟩,false):=by unfold ez tL;simp[h]
theorem IT (h:¬((aT b).1.length:Int)=2):ez b=(⟨0,0,[]⟩,false):=by
  unfold ez tL
  have:(((aT b).1.length:Int)==2)=false:=by simpa using h
  rw[this];simp
theorem IU (u:(aT b).1[(0:Int).toNat]?=some x0) (h:gK x0 2=false):ez b=(⟨0,0,[]⟩,false):=by
  unfold ez tL
  rw[getD_at (k:=0) u,h];simp
theorem IV (h1:(aT b).2=0) (h2:((aT b).1.length:Int)=2) (u:(aT b).1[(0:Int).toNat]?=some x0) (h:gK x0 2=true) (v0:(bH x0).1[(0:Int).toNat]?=some y0) (v1:(bH x0).1[(1:Int).toNat]?=some y1) (s1:(aT b).1[(1:Int).toNat]?=some x1):
    ez b=(⟨y0,y1,x1⟩,true):=by
  have hb:tL b=true:=by unfold tL;rw[getD_at (k:=0) u,h,h1,h2];rfl
  unfold ez
  rw[aL hb,getD_at (k:=0) u,getD_at (k:=1) s1,getD_at (k:=0) v0,getD_at (k:=1) v1]
theorem hr_1 (h:¬(aT b).2=0):kQ b=false:=by unfold kQ;simp[h]
theorem hr_2 (h:((aT b).1.length:Int)<4):kQ b=false:=by unfold kQ;rw[fU (p:=(4:Int)≤_) (by omega)];simp
theorem xG (u:(aT b).1[(0:Int).toNat]?=some x0) (h:gK x0 7=false):kQ b=false:=by unfold kQ;rw[getD_at (k:=0) u,h];simp
theorem hr_4 (s3:(aT b).1[(3:Int).toNat]?=some x3) (h:¬(aT x3).2=0):kQ b=false:=by unfold kQ;rw[getD_at (k:=3) s3];simp[h]
theorem Qi (h1:(aT b).2=0) (h2:¬((aT b).1.length:Int)<4) (u:(aT b).1[(0:Int).toNat]?=some x0) (h3:gK x0 7=true) (s3:(aT b).1[(3:Int).toNat]?=some x3) (h4:(aT x3).2=0):kQ b=true:=by
  unfold kQ
  rw[getD_at (k:=0) u,getD_at (k:=3) s3,h1,h3,h4,eW (p:=(4:Int)≤_) (by omega)];rfl
theorem jW (h:kQ b=false):aY b=(r5,130):=by unfold aY;rw[h];rfl
theorem Qj (s1:(aT b).1[(1:Int).toNat]?=some x1) (s2:(aT b).1[(2:Int).toNat]?=some x2) (v0:(bH x0).1[(0:Int).toNat]?=some y0) (v1:(bH x0).1[(1:Int).toNat]?=some y1)
    (v2:(bH x0).1[(2:Int).toNat]?=some y2) (v3:(bH x0).1[(3:Int).toNat]?=some y3) (v4:(bH x0).1[(4:Int).toNat]?=some y4) (v5:(bH x0).1[(5:Int).toNat]?=some y5) (v6:(bH x0).1[(6:Int).toNat]?=some y6):
    (⟨y0,y1,y2,⟨x1,x2,y3,y4-1,y5,y6⟩,ns,eE⟩:Result)=vg (bH x0).1 (aT b).1 ns eE:=by
  unfold vg
  rw[getD_at (k:=1) s1,getD_at (k:=2) s2,getD_at (k:=0) v0,getD_at (k:=1) v1,getD_at (k:=2) v2,getD_at (k:=3) v3,getD_at (k:=4) v4,getD_at (k:=5) v5,getD_at (k:=6) v6]
def tN (b x0 x3:aj) (ob:Result) (i:Int):Prop:=ob=vg (bH x0).1 (aT b).1 ((aT x3).1.take i.toNat) []
theorem Qk (H:tN b x0 x3 ob i) (h0:0≤i) (he:(aT x3).1[i.toNat]?=some e):tN b x0 x3 ⟨ob.Code,ob.bg,ob.At,⟨ob.af.aa,ob.af.Data,ob.af.ak,ob.af.aE,ob.af.Next,ob.af.aO⟩,ob.bF++[e],ob.aW⟩ (i+1):=by
  unfold tN at *
  rw[toNat_succ h0,fu he,H]
  rfl
theorem Ql (H:tN b x0 x3 ob i):ob.bF.length≤1024∧ob.aW.length=0:=by
  rw[H]
  have:=(mR x3).1
  show((aT x3).1.take i.toNat).length≤1024∧_
  rw[dD]
  exact⟨by omega,rfl⟩
def pY (b x0 x3:aj) (ob:Result) (i:Int):Prop:=ob=vg (bH x0).1 (aT b).1 (aT x3).1 ((((aT b).1.drop (4:Int).toNat).take i.toNat).map fun e=>(ez e).1)∧(((aT b).1.drop (4:Int).toNat).take i.toNat).all (fun e=>(ez e).2)=true
theorem Qm (H:tN b x0 x3 ob i) (h:¬i<((aT x3).1.length:Int)):pY b x0 x3 ob 0:=by
  unfold tN at H
  rw[eR (by omega)] at H
  exact⟨by rw[H];rfl,rfl⟩
theorem Qn (H:pY b x0 x3 ob i) (h0:0≤i) (he:((aT b).1.drop (4:Int).toNat)[i.toNat]?=some e) (hok:(ez e).2=true):
    pY b x0 x3 ⟨ob.Code,ob.bg,ob.At,⟨ob.af.aa,ob.af.Data,ob.af.ak,ob.af.aE,ob.af.Next,ob.af.aO⟩,ob.bF,ob.aW++[(ez e).1]⟩ (i+1):=by
  obtain⟨h1,h2⟩:=H
  unfold pY
  rw[toNat_succ h0,fu he,zq,h2]
  refine⟨by rw[h1,gp];rfl,by simp[hok]⟩
theorem IW (H:pY b x0 x3 ob i):ob.aW.length≤1024:=by
  rw[H.1]
  have:=(mR b).1
  show((((aT b).1.drop (4:Int).toNat).take i.toNat).map _).length≤1024
  rw[eu,dD,gx]
  omega
theorem Qo (e:aj):(ez e).1.aa.length≤65536:=by
  unfold ez
  split
  · exact zZ (mR e).2
  · exact gO _
theorem Qp (H:pY b x0 x3 ob i):vc ob:=by
  have h1:=IW H
  rw[H.1] at h1 ⊢
  refine⟨?_,⟨?_,fun n hn=>?_⟩,cr h1 (by decide),fun w hw=>?_⟩
  · have:=zZ (k:=1) (mR b).2
    exact cr this (by decide)
  · exact cr (mR x3).1 (by decide)
  · exact cr ((mR x3).2 n hn) (by decide)
  · obtain⟨e,_,rfl⟩:=cF.1 hw
    exact cr (Qo e) (by decide)
theorem xH (hH:kQ b=true) (he:((aT b).1.drop (4:Int).toNat)[i.toNat]?=some e) (hok:(ez e).2=false):aY b=(r5,130):=by
  unfold aY
  rw[aL hH,aB]
  intro h
  rw[gR] at h
  rw[h e (cL he)] at hok
  cases hok
theorem IX (u:(aT b).1[(0:Int).toNat]?=some x0) (s3:(aT b).1[(3:Int).toNat]?=some x3) (H:pY b x0 x3 ob i) (h:¬i<(((aT b).1.drop (4:Int).toNat).length:Int)):ob=tM b (r6 b)∧((aT b).1.drop (4:Int).toNat).all (fun e=>(ez e).2)=true:=by
  obtain⟨h1,h2⟩:=H
  rw[eR (by omega)] at h1 h2
  refine⟨?_,h2⟩
  rw[h1]
  unfold tM r6
  rw[getD_at (k:=0) u,getD_at (k:=3) s3]
theorem pZ (hH:kQ b=true) (u:(aT b).1[(0:Int).toNat]?=some x0) (s3:(aT b).1[(3:Int).toNat]?=some x3) (H:pY b x0 x3 ob i) (h:¬i<(((aT b).1.drop (4:Int).toNat).length:Int)) (hn:¬(dy ob).2=0∨¬(dy ob).1=b):aY b=(r5,130):=by
  obtain⟨h1,h2⟩:=IX u s3 H h
  rw[h1] at hn
  unfold aY
  rw[aL hH,aL h2,aB]
  rintro⟨g1,g2⟩
  rcases hn with hn|hn
  · exact hn g1
  · exact hn g2
theorem xI (hH:kQ b=true) (u:(aT b).1[(0:Int).toNat]?=some x0) (s3:(aT b).1[(3:Int).toNat]?=some x3) (H:pY b x0 x3 ob i) (h:¬i<(((aT b).1.drop (4:Int).toNat).length:Int)) (g1:(dy ob).2=0) (g2:(dy ob).1=b):aY b=(ob,0):=by
  obtain⟨h1,h2⟩:=IX u s3 H h
  rw[h1] at g1 g2
  unfold aY
  rw[aL hH,aL h2,aL ⟨g1,g2⟩,h1]
theorem Qq (h:i<(((aT b).1.drop (4:Int).toNat).length:Int)):i≤1024:=by
  have:=(mR b).1
  rw[gx] at h
  omega
end
theorem Qr (B:World) (h:av) (g:GH) (hg:bf g h) (aw:bh g) (G:Nat) (x:List af) (V:jT g G x) (l:af) (X:Value) (a0:ay g 5 bn X l.Data) (hp:l.aa.length≤1000000000):
  aA prog B 71 #[.map (some G),.agg #[vS l.aa,X,vI l.ak,vI l.aE,vI l.Next,vI l.aO]] h g [] (fun a1 g' L'=>a1=.bool (kf x l)∧g'=g∧L'=[]):=by
 obtain⟨Y,Z,rfl⟩:=a0.ai
 refine aA.aq func71 fun R hR=>At.rg 2<|Op.bx 3 56 1 #[vS l.aa,vL Y l.Data.length Z,vI l.ak,vI l.aE,vI l.Next,vI l.aO] (St.init hg) fun D bb u=>Op.pg 1 []<|At.rp 24 1 [(9,vQ D 3)] ?_
 refine Op.l1 3 9 10 3 (vI l.aE) (u.ag 0 rfl)<|Op.px 2 [(12,.bool (decide (l.aE<((-1):Int))))]<|Op.wd (l.aE<((-1):Int)) 12 (fun bc=>?_) fun bd=>?_
 ·exact Op.pg 2 [(32,vT)]<|At.bX 32 3<|At.gr 4 1 4 vF (hR u.drop ⟨(aS (by exact(xj (by omega)).symm)),rfl,rfl⟩)
 refine Op.px 1 [(13,vQ D 2)]<|Op.l1 3 13 14 2 (vI l.ak) (u.ag 0 rfl)<|Op.px 3 [(17,.bool (decide (l.ak<0)))]<|Op.wd (l.ak<0) 17 (fun be=>?_) fun bi=>?_
 ·exact Op.pg 2 [(32,vT)]<|At.bX 32 3<|At.gr 4 1 4 vF (hR u.drop ⟨(aS (by exact(xj (by omega)).symm)),rfl,rfl⟩)
 refine Op.px 1 [(18,vQ D 4)]<|Op.l1 3 18 19 4 (vI l.Next) (u.ag 0 rfl)<|Op.px 3 [(22,.bool (decide (l.Next<0)))]<|Op.wd (l.Next<0) 22 (fun bj=>?_) fun bk=>?_
 ·exact Op.pg 2 [(32,vT)]<|At.bX 32 3<|At.gr 4 1 4 vF (hR u.drop ⟨(aS (by exact(xj (by omega)).symm)),rfl,rfl⟩)
 refine Op.px 1 [(23,vQ D 5)]<|Op.l1 3 23 24 5 (vI l.aO) (u.ag 0 rfl)<|Op.px 3 [(27,.bool (decide (l.aO<0)))]<|Op.wd (l.aO<0) 27 (fun bm=>?_) fun bo=>?_
 ·exact Op.pg 2 [(32,vT)]<|At.bX 32 3<|At.gr 4 1 4 vF (hR u.drop ⟨(aS (by exact(xj (by omega)).symm)),rfl,rfl⟩)
 refine Op.px 1 [(28,vQ D 1)]<|Op.l1 28 28 29 1 (vL Y l.Data.length Z) (u.ag 0 rfl)<|Op.pg 2 [(32,.bool (decide ((l.Data.length:Int)>128)))]<|At.fd ((l.Data.length:Int)>128) 32 3 5 (fun bs=>?_) fun bt=>?_
 ·exact At.gr 4 1 4 vF (hR u.drop ⟨(aS (by exact(xj (by omega)).symm)),rfl,rfl⟩)
 refine At.rp 3 1 [(33,.map (some G))] ?_
 obtain⟨b3,b4,b5,a3,a4,a5,b6,b8,ca⟩:=jT.kK V
 refine Op.BN (d:=.string) (mt:=116) (x:=33) (dst:=34) (m:=G) (z:=.pointer none) (by kernel_rfl) (by kernel_rfl) (by kernel_rfl) rfl (u.sub _ _ a3) a4 a5<|Op.pg 6 [(35,.bool ((x.length:Int)==0))]<|At.fd ((x.length:Int)=0) 35 7 9 (fun cb=>?_) fun ce=>?_
 ·refine At.rp 14 1 [(36,vP D)]<|Op.l1 9 36 37 0 (vS l.aa) (u.ag 0 rfl)<|Op.vl 38 (.bool ((a_ l.aa).toList==(a_ ([47])).toList)) (.bool (l.aa==([47]))) (by rw[toList_mkS,toList_mkS])<|Op.px 1 [(39,.bool (l.aa==([47])))]<|Op.wb (l.aa==([47])) 39 (fun ab=>?_) fun ad=>?_
  ·replace ab:=eq_of_beq ab
   refine Op.px 1 [(40,vQ D 3)]<|Op.l1 3 40 41 3 (vI l.aE) (u.ag 0 rfl)<|Op.px 3 [(44,.bool (l.aE==((-1):Int)))]<|Op.wd (l.aE=((-1):Int)) 44 (fun cf=>?_) fun ch=>?_
   ·exact Op.px 1 [(45,vQ D 5)]<|Op.l1 3 45 46 5 (vI l.aO) (u.ag 0 rfl)<|Op.pr 8 4 (.bool (l.aO==0)) (hR u.drop ⟨(aS (by(rw[B8 (by omega) (by omega) (by omega) (by omega) (by omega) ‹_›];simp[*]<;>first|exact J _ _|rfl))),rfl,rfl⟩)
   exact Op.pr 8 4 vF (hR u.drop ⟨(aS (by(rw[B8 (by omega) (by omega) (by omega) (by omega) (by omega) ‹_›];simp[*]<;>first|exact J _ _|rfl))),rfl,rfl⟩)
  replace ad:=rj ad
  exact Op.pr 8 4 vF (hR u.drop ⟨(aS (by(rw[B8 (by omega) (by omega) (by omega) (by omega) (by omega) ‹_›];simp[*]<;>first|exact J _ _|rfl))),rfl,rfl⟩)
 refine At.rp 8 1 [(50,vP D)]<|Op.l1 9 50 51 0 (vS l.aa) (u.ag 0 rfl)<|Op.c1 52 (xo _ _ _ u.sub aw l.aa (by(try dsimp only)<;>omega)) u fun ci I=>Op.pg 10 [(5,vS (parentOf l.aa)),(6,vI (b9 l.aa))]<|At.rp 8 2 [(56,.map (some G)),(57,vS (parentOf l.aa))] ?_
 obtain⟨ck,co,c3,ae,am,c4,c5,c6,a6⟩:=jT.kK V
 rcases a6 (parentOf l.aa) with ⟨a7,O⟩|⟨U,ar,c8,a7,O,a8,a9,c9⟩
 ·refine Op.rE (ok:=true) (d:=.string) (mt:=116) (x:=56) (ix:=57) (dst:=58) (k:=(parentOf l.aa)) (m:=G) (z:=.pointer none) (by kernel_rfl) (by kernel_rfl) kI (by kernel_rfl) (by kernel_rfl) (I.sub _ _ ae) am O<|Op.pg 11 [(7,.pointer none),(8,vF)]<|At.rp 13 3 [(63,.bool ((b9 l.aa)==0))]<|Op.wd ((b9 l.aa)=0) 63 (fun da=>?_) fun db=>?_
  ·exact Op.pr 12 4 vF (hR I.drop ⟨(aS (by(rw[zk (by omega) (by omega) (by omega) (by omega) (by omega) ‹_›];simp[*]<;>first|exact J _ _|rfl))),rfl,rfl⟩)
  exact Op.pr 12 4 vF (hR I.drop ⟨(aS (by(rw[zk (by omega) (by omega) (by omega) (by omega) (by omega) ‹_›];simp[*]<;>first|exact J _ _|rfl))),rfl,rfl⟩)
 obtain⟨dc,dd,rfl⟩:=a9.ai
 refine Op.pK (ok:=true) (d:=.string) (mt:=116) (x:=56) (ix:=57) (dst:=58) (k:=(parentOf l.aa)) (m:=G) (v:=vP U) (z:=.pointer none) (by kernel_rfl) (by kernel_rfl) kI (by kernel_rfl) (by kernel_rfl) (I.sub _ _ ae) am O<|Op.pg 11 [(7,vP U),(8,vT)]<|At.rp 13 3 [(63,.bool ((b9 l.aa)==0))]<|Op.wd ((b9 l.aa)=0) 63 (fun df=>?_) fun dg=>?_
 ·exact Op.px 6 [(66,vT),(69,vQ U 3)]<|Op.l1 3 69 70 3 (vI ar.aE) (I.sub _ _ a8)<|Op.pr 12 4 (.bool (ar.aE==((-1):Int))) (hR I.drop ⟨(aS (by(rw[zk (by omega) (by omega) (by omega) (by omega) (by omega) ‹_›];simp[*]<;>first|exact J _ _|rfl))),rfl,rfl⟩)
 exact Op.pr 12 4 vF (hR I.drop ⟨(aS (by(rw[zk (by omega) (by omega) (by omega) (by omega) (by omega) ‹_›];simp[*]<;>first|exact J _ _|rfl))),rfl,rfl⟩)
def eU (g:GH) (b:Nat) (x:List af) (c:au):Prop:=∃b0 c0,c=(b,.cells #[.map (some b0)] 118 (0,0))::c0∧gB g b0 x c0
theorem eU.mono {g g':GH} {b:Nat} {x:List af} {c:au} (h:eU g b x c) (hg:aG g g'):eU g' b x c:=by
 obtain⟨b0,c0,e,h0⟩:=h
 exact⟨b0,c0,e,h0.mono hg⟩
theorem eU.eq {g:GH} {b:Nat} {x y:List af} {c:au} (h:eU g b x c) (e:x=y):eU g b y c:=e▸h
theorem eU.aX {g g':GH} {b:Nat} {x:List af} {c:au} (h:eU g b x c):eU g' b x c:=by
 obtain⟨b0,c0,e,h0⟩:=h
 exact⟨b0,c0,e,h0.aX⟩
theorem eU.sort {g:GH} {b:Nat} {ns:List af} {c:au} (H:eU g b ns c):fW ns:=by
 obtain⟨b0,c0,rfl,es,aP,ms,_,h1,_⟩:=H
 exact h1.2.2.1
theorem eU.fK {h0:av} {g0:GH} {S0:Nat→Prop} {g:GH} {L:List au} {h:av} {C c:au} {b:Nat} {ns:List af} (H:eU g b ns c) (s:St h0 g0 S0 g (C::L) h) (hc:∀p∈c,p∈C):jv (cQ g C) b ns:=by
 obtain⟨b0,c0,rfl,h1⟩:=H
 exact⟨b0,nJ s.oC (hc _ (.head _)),h1.fK s fun p hp=>hc p (.tail _ hp)⟩
theorem Qs (B:World) (h:av) (g:GH) (hg:bf g h) (bd:bh g):
  aA prog B 23 #[] h g [] (fun X g' L'=>∃b0 O,X=vP b0∧eU g' b0 ([⟨[47],[],0, -1,0,0⟩]) O∧g'=g∧L'=[O]):=by
 refine aA.aq func23 fun R hR=>At.go 1 1 []<|At.rg 8<|Op.makeMap (mt:=116) (dst:=1) (by kernel_rfl) (St.init hg) fun u Y Z=>?_
 have ab:St h g (aM []) g [[(u,.map #[] 0)],[]] Y:=St.aX (L:=[[(u,.map #[] 0)]]) rfl Z
 have ad:cC encS #[] 0 ([]:List (aQ×Value)):=cC.empty _ _
 have ae:=gD.nil
 refine Op.px 1 [(2,.agg r4)]<|Op.bx 3 56 2 r4 ab fun D be am=>?_
 have ar:=aF.zero 5 bn g none
 refine Op.jQ (d:=.string) (z:=.pointer none) (mt:=116) (x:=1) (ix:=(.const (vS ([47])))) (y:=3) (k:=([47])) (v:=vP D) (.inr (by kernel_rfl)) (by kernel_rfl) kI (by kernel_rfl) (by kernel_rfl) (by kernel_rfl) am.nl 2 rfl ad zt fun I J U aw a0=>?_
 have a1:gD (h_ [] ([47]) (vP D)) ((D,.cells r4 56 (0,0))::[]++[]:au) (d_ ([]:List af) (⟨[47],([]:aj),0,(-1),0,0⟩:af)):=ae.zM (g:=g) (l:=(⟨[47],([]:aj),0,(-1),0,0⟩:af)) (by rfl) ar (by decide)
 have a3:St h g (aM []) g [[(u,.map I J)],[(D,Obj.cells r4 56 (0,0))],[],[]] U:=(a0.fs [1,2] rfl)
 have a4:St h g (aM []) g [[(u,.map I J)],((D,.cells r4 56 (0,0))::[]++[]:au)] U:=St.aX (L:=[[(u,.map I J)],[(D,Obj.cells r4 56 (0,0))],[],[]]) (by simp only[cg,List.flatten_nil,cI,dM,dY,dh]) a3
 refine Op.px 2 [(5,.agg #[.map (some u)])]<|Op.bx 6 118 5 #[.map (some u)] a4 fun G V a5=>Op.pg 2 [(0,vP G)] ?_
 have a6:St h g (aM []) g [[(u,.map I J)],((D,.cells r4 56 (0,0))::[]++[]:au),[(G,Obj.cells #[.map (some u)] 118 (0,0))]] V:=(a5.fs [2,2] rfl)
 obtain⟨bi,a7,a8⟩:∃c,gB g u (d_ ([]:List af) (⟨[47],([]:aj),0,(-1),0,0⟩:af)) c∧St h g (aM []) g (c::[[(G,Obj.cells #[.map (some u)] 118 (0,0))]]) V:=⟨_,a1.close aw (gj _),St.aX (L:=[(u,.map I J)]::((D,.cells r4 56 (0,0))::[]++[]:au)::[[(G,Obj.cells #[.map (some u)] 118 (0,0))]]) (by simp only[cg,cI,dM,dY,dh]) a6⟩
 obtain⟨a9,bb,bc⟩:=St.bl (Q:=eU g G (d_ ([]:List af) (⟨[47],([]:aj),0,(-1),0,0⟩:af))) 2 (a8.fs [1] rfl) ⟨_,_,rfl,a7⟩
 exact At.rt (vP G) (hR bc ⟨G,a9,rfl,bb.eq (by rfl),rfl,rfl⟩)
theorem Qt (B:World) (h:av) (g:GH) (hg:bf g h) (a4:bh g) (G:Nat) (t:List af) (I:au) (ad:eU g G t I) (p:aj) (a5:Value) (data:aj) (a6:ay g 5 bn a5 data) (bA:Int) (hB:fM t) (hp:p.length≤1000000000) (hd:data.length≤1000000000) (hs:St h g (aM [I]) g [I] h):
  aA prog B 104 #[vP G,vS p,a5,vI bA] h g [I] (fun bk g' L'=>∃a7,bk=.tuple #[.int .i64 ((eP t p data bA).2.1),.int .i64 ((eP t p data bA).2.2)]∧eU g' G ((eP t p data bA).1) a7∧g'=g∧L'=[a7]):=by
 obtain⟨bm,bo,rfl⟩:=a6.ai
 refine aA.aq func104 fun R hR=>At.go 1 2 []<|At.rp 9 3 [(13,vP G),(14,vS p),(15,vI bA)] ?_
 have bs:=hs.gi
 have bt:=eU.fK ad hs (by intro p hp;simp only[cU,hp,g_,hU])
 refine Op.le (some 16) 0 hs (GY _ _ _ hs.ij (a4.mono bs) G t bt p bA (by(try dsimp only)<;>omega)) (fun _ _ _ hp=>by obtain⟨ae,_,_⟩:=hp;exact ae) ?_ (hM:=(fun _ _ h=>absurd h (gq _)))
 rintro dl _ dp am ⟨ae,rfl,b3⟩;clear ae
 rcases b3 with ⟨rfl,a8⟩|⟨J,u,v31,dq,rfl,du,a9,b4,dv,dC,b5⟩
 ·have b6:((fq t p bA) != 0)=true:=uG.2 a8
  have dE:((fq t p bA)==0)=false:=qB.2 a8
  refine Op.pg 2 [(10,.pointer none),(11,vI (fq t p bA))]<|At.go 3 3 [(19,.bool ((fq t p bA) != 0))]<|At.c_ ((fq t p bA) != 0) 19 4 6 (fun bb=>?_) fun hb=>?_
  ·replace bb:=jO bb
   exact At.go 5 3 [(8,vI 0),(9,vI (fq t p bA))]<|At.rt (.tuple #[vI 0,vI (fq t p bA)]) (hR am ⟨I,bM (bp (by(rw[B9 ‹_›];done))) (bp (by(rw[B9 ‹_›];done))),ad.eq (by(rw[B9 ‹_›];done)),rfl,rfl⟩)
  exact Bool.noConfusion (b6.symm.trans hb)
 refine Op.pg 2 [(10,vP J),(11,vI 0)]<|At.go 3 3 [(19,vF)]<|At.dP 19 6<|At.go 7 4 [(23,.bool (decide ((data.length:Int)>128)))]<|At.fd ((data.length:Int)>128) 23 8 10 (fun dT=>?_) fun d0=>?_
 ·exact At.go 5 2 [(8,vI 0),(9,vI 104)]<|At.rt (.tuple #[vI 0,vI 104]) (hR am ⟨I,bM (bp (by(rw[Ca ‹_› ‹_› ‹_›];done))) (bp (by(rw[Ca ‹_› ‹_› ‹_›];done))),ad.eq (by(rw[Ca ‹_› ‹_› ‹_›];done)),rfl,rfl⟩)
 refine At.rp 6 2 [(27,vP J),(28,vL bm data.length bo)]<|Op.c0 (some 29) (mc _ _ _ am.sub a4 _ _ a6 (by(try dsimp only)<;>omega)) am ?_
 rintro _ b8 _ ar ca cb ⟨v46,O,rfl,bc,ae,rfl⟩;subst b8;clear ca
 obtain⟨X,Y,rfl⟩:=bc.ai
 refine Op.px 2 [(31,vQ J 1)] ?_
 obtain⟨D,a0,a1,ce⟩:=ad
 obtain⟨U,V,cf,a3,bd,be,ch⟩:=gB.kK ce
 have ci:St h g (aM [I]) g [a0,[(G,Obj.cells #[.map (some D)] 118 (0,0))],O] ar:=((St.un [a0] a1 (cb.fs [1] rfl)).fs [1] rfl)
 have ck:St h g (aM [I]) g ([(D,.map U V)]::a3::[[(G,Obj.cells #[.map (some D)] 118 (0,0))],O]) ar:=St.pM (L:=a0::[[(G,Obj.cells #[.map (some D)] 118 (0,0))],O]) (bd.append_right _) ci
 obtain⟨d1,Z,ab,co,c3,c4⟩:=ch.br (g:=g) (l:=u) (b:=J) be (by rw[(jR a9).2];exact a9) (H7 (es:=U) (aP:=V) (C:=(I:au)) (b0:=D) hs (by simp[a1]) (by simp[a1,bd.mem_iff]) b4 b5)
 obtain⟨a76,c5,rfl⟩:=c3.ai
 have c6:St h g (aM [I]) g [a3,[(D,.map U V)],[(G,Obj.cells #[.map (some D)] 118 (0,0))],O] ar:=(ck.fs [1] rfl)
 have c8:St h g (aM [I]) g [[(J,Obj.cells #[vS u.aa,vL a76 u.Data.length c5,vI u.ak,vI u.aE,vI u.Next,vI u.aO] 56 (0,0))],Z,ab,[(D,.map U V)],[(G,Obj.cells #[.map (some D)] 118 (0,0))],O] ar:=St.pM (L:=a3::[[(D,.map U V)],[(G,Obj.cells #[.map (some D)] 118 (0,0))],O]) (by have hq:=co.append_right (List.flatten [[(D,.map U V)],[(G,Obj.cells #[.map (some D)] 118 (0,0))],O]);simpa only[cg,List.flatten_nil,cI,dM,dY,dh] using hq) c6
 refine Op.s1 28 31 29 1 (vL X (data.length) Y) 0 #[vS u.aa,vL X (data.length) Y,vI u.ak,vI u.aE,vI u.Next,vI u.aO] c8 zt fun d2 bi=>Op.gt 11<|At.rp 8 3 [(32,vP J),(34,vQ J 2)]<|Op.l1 3 34 35 2 (vI u.ak) (bi.ag 0 rfl)<|Op.vl 36 (.int .i64 (IntKind.wrap .i64 (u.ak+1))) (.int .i64 (IntKind.wrap .i64 (u.ak+1))) rfl ?_
 refine Op.px 2 [(38,vQ J 2)]<|Op.s1 3 38 36 2 (vI (IntKind.wrap .i64 (u.ak+1))) 0 #[vS u.aa,vL X (data.length) Y,vI (IntKind.wrap .i64 (u.ak+1)),vI u.aE,vI u.Next,vI u.aO] bi zt fun aw bj=>Op.gt 12<|At.rp 6 3 [(41,vQ J 2)]<|Op.l1 3 41 42 2 (vI (IntKind.wrap .i64 (u.ak+1))) (bj.ag 0 rfl) ?_
 refine Op.pg 13 [(8,vI (IntKind.wrap .i64 (u.ak+1))),(9,vI 0)] ?_
 have c9:gD cf ((J,.cells #[vS u.aa,vL X (data.length) Y,vI (IntKind.wrap .i64 (u.ak+1)),vI u.aE,vI u.Next,vI u.aO] 56 (0,0))::O++ab:au) (d_ t (⟨u.aa,data,IntKind.wrap .i64 (u.ak+1),u.aE,u.Next,u.aO⟩:af)):=c4 (⟨u.aa,data,IntKind.wrap .i64 (u.ak+1),u.aE,u.Next,u.aO⟩:af) _ _ rfl bc
 have da:St h g (aM [I]) g [[(J,Obj.cells #[vS u.aa,vL X (data.length) Y,vI (IntKind.wrap .i64 (u.ak+1)),vI u.aE,vI u.Next,vI u.aO] 56 (0,0))],O,ab,Z,[(D,.map U V)],[(G,Obj.cells #[.map (some D)] 118 (0,0))]] aw:=(bj.fs [4,4,3,4,5,5] rfl)
 have db:St h g (aM [I]) g [((J,.cells #[vS u.aa,vL X (data.length) Y,vI (IntKind.wrap .i64 (u.ak+1)),vI u.aE,vI u.Next,vI u.aO] 56 (0,0))::O++ab:au),Z,[(D,.map U V)],[(G,Obj.cells #[.map (some D)] 118 (0,0))]] aw:=St.aX (L:=[[(J,Obj.cells #[vS u.aa,vL X (data.length) Y,vI (IntKind.wrap .i64 (u.ak+1)),vI u.aE,vI u.Next,vI u.aO] 56 (0,0))],O,ab,Z,[(D,.map U V)],[(G,Obj.cells #[.map (some D)] 118 (0,0))]]) (by simp only[cg,List.flatten_nil,cI,dM,dY,dh]) da
 have dc:St h g (aM [I]) g [[(D,.map U V)],((J,.cells #[vS u.aa,vL X (data.length) Y,vI (IntKind.wrap .i64 (u.ak+1)),vI u.aE,vI u.Next,vI u.aO] 56 (0,0))::O++ab:au),Z,[(G,Obj.cells #[.map (some D)] 118 (0,0))]] aw:=(db.fs [1,1,2] rfl)
 obtain⟨d3,dd,df⟩:∃c,gB g D (d_ t (⟨u.aa,data,IntKind.wrap .i64 (u.ak+1),u.aE,u.Next,u.aO⟩:af)) c∧St h g (aM [I]) g (c::[Z,[(G,Obj.cells #[.map (some D)] 118 (0,0))]]) aw:=⟨_,c9.close be (gj _),St.aX (L:=[(D,.map U V)]::((J,.cells #[vS u.aa,vL X (data.length) Y,vI (IntKind.wrap .i64 (u.ak+1)),vI u.aE,vI u.Next,vI u.aO] 56 (0,0))::O++ab:au)::[Z,[(G,Obj.cells #[.map (some D)] 118 (0,0))]]) (by simp only[cg,cI,dM,dY,dh]) dc⟩
 obtain⟨dg,dj,dk⟩:=St.bl (Q:=eU g G (d_ t (⟨u.aa,data,IntKind.wrap .i64 (u.ak+1),u.aE,u.Next,u.aO⟩:af))) 2 (df.fs [1,1,2] rfl) ⟨_,_,rfl,dd⟩
 exact At.rt (.tuple #[vI (IntKind.wrap .i64 (u.ak+1)),vI 0])<|hR (dk.fs [1] rfl).drop ⟨dg,bM (bp (by(rw[Cb ‹_› ‹_› ‹_›];done))) (bp (by(rw[Cb ‹_› ‹_› ‹_›];done))),dj.eq (by(rw[Cb ‹_› ‹_› ‹_›];done)),rfl,rfl⟩
theorem Qu {ns:List af} {p q:aQ} {up:af} (hf:bN ns p=some up) (hq:bN ns q=none) (v:Int):bN (d_ ns ⟨up.aa,up.Data,up.ak,up.aE,v,up.aO⟩) q=none:=N9 (up:=up) hf hq rfl
theorem IY (B:World) (h:av) (g:GH) (hg:bf g h) (bo:bh g) (G:Nat) (t:List af) (I:au) (be:eU g G t I) (p:aj) (dc:Value) (data:aj) (bs:ay g 5 bn dc data) (cj:Int) (born:Int) (num:Bool) (hP:l7 g) (hB:fM t) (hp:p.length≤100000000) (hd:data.length≤1000000000) (hs:St h g (aM [I]) g [I] h):
  aA prog B 103 #[vP G,vS p,dc,vI cj,vI born,.bool num] h g [I] (fun dC g' L'=>∃dd,dC=.tuple #[.string (a_ ((bY t p data cj born num).2.1)),.int .i64 ((bY t p data cj born num).2.2)]∧eU g' G ((bY t p data cj born num).1) dd∧g'=g∧L'=[dd]):=by
 obtain⟨cb,ce,rfl⟩:=bs.ai
 have dE:=be.sort
 refine aA.aq func103 fun R hR=>At.go 1 2 []<|At.rp 9 3 [(19,vP G),(20,vS p),(21,vL cb data.length ce)] ?_
 have df:=hs.gi
 have dT:=eU.fK be hs (by intro p hp;simp only[cU,hp,g_,hU])
 refine Op.le (some 22) 0 hs (OG _ _ _ hs.ij (bo.mono df) G t dT p _ _ (bs.mono df) (by(try dsimp only)<;>omega)) (fun _ _ _ hp=>by obtain⟨bi,_,_⟩:=hp;exact bi) ?_ (hM:=(fun _ _ h=>absurd h (gq _)))
 rintro hl _ a1 cf ⟨bi,rfl,d0⟩;clear bi
 rcases d0 with ⟨rfl,dg⟩|⟨J,u,v31,hm,rfl,hn,a3,d1,ho,hr,d2⟩
 ·have d3:((ga t p data) != 0)=true:=uG.2 dg
  have hu:((ga t p data)==0)=false:=qB.2 dg
  refine Op.pg 2 [(14,.pointer none),(15,vI (ga t p data))]<|At.go 3 2 [(26,.bool ((ga t p data) != 0))]<|At.c_ ((ga t p data) != 0) 26 4 6 (fun dj=>?_) fun hb=>?_
  ·replace dj:=jO dj
   exact At.go 5 3 [(12,vS []),(13,vI (ga t p data))]<|At.rt (.tuple #[vS [],vI (ga t p data)]) (hR cf ⟨I,bM (jh (by(rw[Cc ‹_›];done))) (bp (by(rw[Cc ‹_›];done))),be.eq (by(rw[Cc ‹_›];done)),rfl,rfl⟩)
  exact Bool.noConfusion (d3.symm.trans hb)
 refine Op.pg 2 [(14,vP J),(15,vI 0)]<|At.go 3 2 [(26,vF)]<|At.dP 26 6<|At.go 7 1 [(28,.bool num)]<|At.c_ num 28 8 13 (fun d4=>?_) fun d5=>?_
 ·refine At.rp 11 4 [(30,vS p),(33,vQ J 4)] ?_
  obtain⟨D,ch,ci,d6⟩:=be
  obtain⟨Z,ab,bb,ck,dk,a4,bc⟩:=gB.kK d6
  have d7:St h g (aM [I]) g [ch,[(G,Obj.cells #[.map (some D)] 118 (0,0))]] a1:=((St.un [ch] ci cf).fs [1] rfl)
  have d8:St h g (aM [I]) g ([(D,.map Z ab)]::ck::[[(G,Obj.cells #[.map (some D)] 118 (0,0))]]) a1:=St.pM (L:=ch::[[(G,Obj.cells #[.map (some D)] 118 (0,0))]]) (dk.append_right _) d7
  obtain⟨hw,X,Y,d9,bj,bt⟩:=bc.br (g:=g) (l:=u) (b:=J) a4 (by rw[(jR a3).2];exact a3) (H7 (es:=Z) (aP:=ab) (C:=(I:au)) (b0:=D) hs (by simp[ci]) (by simp[ci,dk.mem_iff]) d1 d2)
  obtain⟨U,V,rfl⟩:=bj.ai
  have ea:St h g (aM [I]) g [ck,[(D,.map Z ab)],[(G,Obj.cells #[.map (some D)] 118 (0,0))]] a1:=(d8.fs [1] rfl)
  have co:St h g (aM [I]) g [[(J,Obj.cells #[vS u.aa,vL U u.Data.length V,vI u.ak,vI u.aE,vI u.Next,vI u.aO] 56 (0,0))],X,Y,[(D,.map Z ab)],[(G,Obj.cells #[.map (some D)] 118 (0,0))]] a1:=St.pM (L:=ck::[[(D,.map Z ab)],[(G,Obj.cells #[.map (some D)] 118 (0,0))]]) (by have hq:=d9.append_right (List.flatten [[(D,.map Z ab)],[(G,Obj.cells #[.map (some D)] 118 (0,0))]]);simpa only[cg,List.flatten_nil,cI,dM,dY,dh] using hq) ea
  refine Op.l1 3 33 34 4 (vI u.Next) (co.ag 0 rfl)<|Op.c1 35 (Oy _ _ _ co.sub bo p u.Next hP (by((try dsimp only)<;>((have:=fM.next hB ‹_›;omega)))) (by((try dsimp only)<;>((have:=fM.next hB ‹_›;omega)))) (by((try dsimp only)<;>((have:=fM.next hB ‹_›;omega))))) co fun aw ad=>Op.pg 9 [(1,vS (eH p u.Next)),(15,vI (j8 p u.Next))]<|At.go 10 2 [(39,.bool ((j8 p u.Next) != 0))]<|At.fn ((j8 p u.Next)=0) 39 11 13 (fun hx=>?_) fun hy=>?_
  ·refine At.go 12 3 [(12,vS []),(13,vI (j8 p u.Next))] ?_
   have eb:gD bb ((J,.cells #[vS u.aa,vL U u.Data.length V,vI u.ak,vI u.aE,vI u.Next,vI u.aO] 56 (0,0))::X++Y:au) t:=by have hq:=bt u _ _ rfl bj;rwa[zf bc.sort (by rw[(jR a3).2];exact a3)] at hq
   have ed:St h g (aM [I]) g [((J,.cells #[vS u.aa,vL U u.Data.length V,vI u.ak,vI u.aE,vI u.Next,vI u.aO] 56 (0,0))::X++Y:au),[(D,.map Z ab)],[(G,Obj.cells #[.map (some D)] 118 (0,0))]] aw:=St.aX (L:=[[(J,Obj.cells #[vS u.aa,vL U u.Data.length V,vI u.ak,vI u.aE,vI u.Next,vI u.aO] 56 (0,0))],X,Y,[(D,.map Z ab)],[(G,Obj.cells #[.map (some D)] 118 (0,0))]]) (by simp only[cg,List.flatten_nil,cI,dM,dY,dh]) ad
   have ee:St h g (aM [I]) g [[(D,.map Z ab)],((J,.cells #[vS u.aa,vL U u.Data.length V,vI u.ak,vI u.aE,vI u.Next,vI u.aO] 56 (0,0))::X++Y:au),[(G,Obj.cells #[.map (some D)] 118 (0,0))]] aw:=(ed.fs [1] rfl)
   obtain⟨hz,ef,eh⟩:∃c,gB g D t c∧St h g (aM [I]) g (c::[[(G,Obj.cells #[.map (some D)] 118 (0,0))]]) aw:=⟨_,eb.close a4 (gj _),St.aX (L:=[(D,.map Z ab)]::((J,.cells #[vS u.aa,vL U u.Data.length V,vI u.ak,vI u.aE,vI u.Next,vI u.aO] 56 (0,0))::X++Y:au)::[[(G,Obj.cells #[.map (some D)] 118 (0,0))]]) (by simp only[cg,cI,dM,dY,dh]) ee⟩
   obtain⟨ej,em,en⟩:=St.bl (Q:=eU g G t) 2 (eh.fs [1] rfl) ⟨_,_,rfl,ef⟩
   exact At.rt (.tuple #[vS [],vI (j8 p u.Next)]) (hR en ⟨ej,bM (jh (by(rw[Ce ‹_› ‹_› ‹_› ‹_›];done))) (bp (by(rw[Ce ‹_› ‹_› ‹_› ‹_›];done))),em.eq (by(rw[Ce ‹_› ‹_› ‹_› ‹_›];done)),rfl,rfl⟩)
  refine At.rp 11 3 [(44,vP G)]<|Op.l1 116 44 45 0 (.map (some D)) (ad.ag 4 rfl)<|Op.px 1 [(46,vS (eH p u.Next))] ?_
  obtain⟨eo,c3⟩:∃o,fH bb (eH p u.Next)=o:=⟨_,rfl⟩
  have b3:=bc.gy (eH p u.Next)
  rw[c3] at b3
  rcases eo with _|hA
  ·have hC:bN t (eH p u.Next)=none:=by cases hq:bN t (eH p u.Next) with|none=>rfl|some _=>(rw[hq] at b3;cases b3)
   refine Op.rE (ok:=true) (d:=.string) (mt:=116) (x:=45) (ix:=46) (dst:=47) (k:=(eH p u.Next)) (m:=D) (z:=.pointer none) (by kernel_rfl) (by kernel_rfl) kI (by kernel_rfl) (by kernel_rfl) (ad.ag 3 rfl) a4 c3<|Op.pg 14 [(17,vF)]<|At.go 15 1 [(50,vF)]<|At.dP 50 18<|At.rp 6 3 [(53,vP G)] ?_
   refine Op.l1 116 53 54 0 (.map (some D)) (ad.ag 4 rfl)<|Op.BN (d:=.string) (mt:=116) (x:=54) (dst:=55) (m:=D) (z:=.pointer none) (by kernel_rfl) (by kernel_rfl) (by kernel_rfl) rfl (ad.ag 3 rfl) a4 bc.len<|Op.pg 19 [(56,.bool (decide ((t.length:Int)≥32)))]<|At.fd ((t.length:Int)≥32) 56 20 22 (fun hD=>?_) fun hE=>?_
   ·refine At.go 21 2 [(12,vS []),(13,vI 104)] ?_
    have ep:gD bb ((J,.cells #[vS u.aa,vL U u.Data.length V,vI u.ak,vI u.aE,vI u.Next,vI u.aO] 56 (0,0))::X++Y:au) t:=by have hq:=bt u _ _ rfl bj;rwa[zf bc.sort (by rw[(jR a3).2];exact a3)] at hq
    have er:St h g (aM [I]) g [((J,.cells #[vS u.aa,vL U u.Data.length V,vI u.ak,vI u.aE,vI u.Next,vI u.aO] 56 (0,0))::X++Y:au),[(D,.map Z ab)],[(G,Obj.cells #[.map (some D)] 118 (0,0))]] aw:=St.aX (L:=[[(J,Obj.cells #[vS u.aa,vL U u.Data.length V,vI u.ak,vI u.aE,vI u.Next,vI u.aO] 56 (0,0))],X,Y,[(D,.map Z ab)],[(G,Obj.cells #[.map (some D)] 118 (0,0))]]) (by simp only[cg,List.flatten_nil,cI,dM,dY,dh]) ad
    have et:St h g (aM [I]) g [[(D,.map Z ab)],((J,.cells #[vS u.aa,vL U u.Data.length V,vI u.ak,vI u.aE,vI u.Next,vI u.aO] 56 (0,0))::X++Y:au),[(G,Obj.cells #[.map (some D)] 118 (0,0))]] aw:=(er.fs [1] rfl)
    obtain⟨hF,ex,eA⟩:∃c,gB g D t c∧St h g (aM [I]) g (c::[[(G,Obj.cells #[.map (some D)] 118 (0,0))]]) aw:=⟨_,ep.close a4 (gj _),St.aX (L:=[(D,.map Z ab)]::((J,.cells #[vS u.aa,vL U u.Data.length V,vI u.ak,vI u.aE,vI u.Next,vI u.aO] 56 (0,0))::X++Y:au)::[[(G,Obj.cells #[.map (some D)] 118 (0,0))]]) (by simp only[cg,cI,dM,dY,dh]) et⟩
    obtain⟨eB,eI,eJ⟩:=St.bl (Q:=eU g G t) 2 (eA.fs [1] rfl) ⟨_,_,rfl,ex⟩
    exact At.rt (.tuple #[vS [],vI 104]) (hR eJ ⟨eB,bM (jh (by(rw[uT ‹_› ‹_› (by simp[fX, *]) (by simp[ff, *]<;>rfl) ‹_› ‹_›];done))) (bp (by(rw[uT ‹_› ‹_› (by simp[fX, *]) (by simp[ff, *]<;>rfl) ‹_› ‹_›];done))),eI.eq (by(rw[uT ‹_› ‹_› (by simp[fX, *]) (by simp[ff, *]<;>rfl) ‹_› ‹_›];done)),rfl,rfl⟩)
   refine At.go 23 1 [(57,.bool num)]<|At.c_ num 57 24 25 (fun hG=>?_) fun hb=>?_
   ·refine At.rp 8 3 [(58,vP J),(60,vQ J 4)]<|Op.l1 3 60 61 4 (vI u.Next) (ad.ag 0 rfl)<|Op.vl 62 (.int .i64 (IntKind.wrap .i64 (u.Next+1))) (.int .i64 (IntKind.wrap .i64 (u.Next+1))) rfl<|Op.px 2 [(64,vQ J 4)]<|Op.s1 3 64 62 4 (vI (IntKind.wrap .i64 (u.Next+1))) 0 #[vS u.aa,vL U u.Data.length V,vI u.ak,vI u.aE,vI (IntKind.wrap .i64 (u.Next+1)),vI u.aO] ad zt fun hH c4=>?_
    refine Op.gt 25<|At.dw (fun _=>False) [(0,true),(1,true),(2,true),(4,true),(5,true),(6,true),(8,true),(9,true),(10,true),(11,true),(3,true),(7,false),(12,true),(13,false),(1014,false),(14,false)]<|Op.px 7 [(67,vP G),(69,vS (eH p u.Next)),(70,vS (eH p u.Next)),(71,vL cb data.length ce),(73,vI cj)]<|Op.vl 74 (.int .i64 (if ((-1):Int)>cj then ((-1):Int) else cj)) (.int .i64 (max cj ((-1):Int))) (uV _ _)<|Op.px 1 [(75,vI born)] ?_
    refine Op.vl 76 (.int .i64 (if (0:Int)>born then (0:Int) else born)) (.int .i64 (max born (0:Int))) (uV _ _)<|Op.lf 116 67 0 68 1 (.map (some D)) id (c4.ag 4 rfl)<|Op.c0 (some 72) (mc _ _ _ c4.sub bo _ _ bs (by(try dsimp only)<;>omega)) c4 ?_
    rintro _ eK _ hI eL eQ ⟨hJ,a5,rfl,dl,bi,rfl⟩;subst eK;clear eL
    obtain⟨ae,am,rfl⟩:=dl.ai
    refine Op.px 1 [(77,.agg #[vS (eH p u.Next),vL ae (data.length) am,vI 0,vI (max cj ((-1):Int)),vI 0,vI (max born (0:Int))])]<|Op.bx 78 56 77 #[vS (eH p u.Next),vL ae (data.length) am,vI 0,vI (max cj ((-1):Int)),vI 0,vI (max born (0:Int))] eQ fun ar dp eT=>Op.ba ?_
    have e1:gD bb ((J,.cells #[vS u.aa,vL U u.Data.length V,vI u.ak,vI u.aE,vI (IntKind.wrap .i64 (u.Next+1)),vI u.aO] 56 (0,0))::X++Y:au) (d_ t (⟨u.aa,u.Data,u.ak,u.aE,IntKind.wrap .i64 (u.Next+1),u.aO⟩:af)):=bt (⟨u.aa,u.Data,u.ak,u.aE,IntKind.wrap .i64 (u.Next+1),u.aO⟩:af) _ _ rfl bj
    have e2:St h g (aM [I]) g [[(J,Obj.cells #[vS u.aa,vL U u.Data.length V,vI u.ak,vI u.aE,vI (IntKind.wrap .i64 (u.Next+1)),vI u.aO] 56 (0,0))],X,Y,[(ar,Obj.cells #[vS (eH p u.Next),vL ae (data.length) am,vI 0,vI (max cj ((-1):Int)),vI 0,vI (max born (0:Int))] 56 (0,0))],a5,[(D,.map Z ab)],[(G,Obj.cells #[.map (some D)] 118 (0,0))]] dp:=(eT.fs [1,1,4,4,4] rfl)
    have e3:St h g (aM [I]) g [((J,.cells #[vS u.aa,vL U u.Data.length V,vI u.ak,vI u.aE,vI (IntKind.wrap .i64 (u.Next+1)),vI u.aO] 56 (0,0))::X++Y:au),[(ar,Obj.cells #[vS (eH p u.Next),vL ae (data.length) am,vI 0,vI (max cj ((-1):Int)),vI 0,vI (max born (0:Int))] 56 (0,0))],a5,[(D,.map Z ab)],[(G,Obj.cells #[.map (some D)] 118 (0,0))]] dp:=St.aX (L:=[[(J,Obj.cells #[vS u.aa,vL U u.Data.length V,vI u.ak,vI u.aE,vI (IntKind.wrap .i64 (u.Next+1)),vI u.aO] 56 (0,0))],X,Y,[(ar,Obj.cells #[vS (eH p u.Next),vL ae (data.length) am,vI 0,vI (max cj ((-1):Int)),vI 0,vI (max born (0:Int))] 56 (0,0))],a5,[(D,.map Z ab)],[(G,Obj.cells #[.map (some D)] 118 (0,0))]]) (by simp only[cg,List.flatten_nil,cI,dM,dY,dh]) e2
    refine Op.jQ (d:=.string) (z:=.pointer none) (mt:=116) (x:=68) (ix:=69) (y:=78) (k:=(eH p u.Next)) (v:=vP ar) (.inl (by kernel_rfl)) (by kernel_rfl) kI (by kernel_rfl) (by kernel_rfl) (by kernel_rfl) e3 3 rfl a4 zt fun b4 b5 c5 e4 e5=>?_
    have e6:gD (h_ bb (eH p u.Next) (vP ar)) ((ar,.cells #[vS (eH p u.Next),vL ae (data.length) am,vI 0,vI (max cj ((-1):Int)),vI 0,vI (max born (0:Int))] 56 (0,0))::a5++((J,.cells #[vS u.aa,vL U u.Data.length V,vI u.ak,vI u.aE,vI (IntKind.wrap .i64 (u.Next+1)),vI u.aO] 56 (0,0))::X++Y:au):au) (d_ (d_ t (⟨u.aa,u.Data,u.ak,u.aE,IntKind.wrap .i64 (u.Next+1),u.aO⟩:af)) (⟨eH p u.Next,data,0,(max cj ((-1):Int)),0,(max born (0:Int))⟩:af)):=e1.zM (g:=g) (l:=(⟨eH p u.Next,data,0,(max cj ((-1):Int)),0,(max born (0:Int))⟩:af)) (by exact Qu (p:=parentOf p) ‹_› ‹_› _) dl (by exact Cf _ _)
    have e7:St h g (aM [I]) g [[(D,.map b4 b5)],[(ar,Obj.cells #[vS (eH p u.Next),vL ae (data.length) am,vI 0,vI (max cj ((-1):Int)),vI 0,vI (max born (0:Int))] 56 (0,0))],a5,((J,.cells #[vS u.aa,vL U u.Data.length V,vI u.ak,vI u.aE,vI (IntKind.wrap .i64 (u.Next+1)),vI u.aO] 56 (0,0))::X++Y:au),[(G,Obj.cells #[.map (some D)] 118 (0,0))]] c5:=(e5.fs [2,2,3] rfl)
    have e8:St h g (aM [I]) g [[(D,.map b4 b5)],((ar,.cells #[vS (eH p u.Next),vL ae (data.length) am,vI 0,vI (max cj ((-1):Int)),vI 0,vI (max born (0:Int))] 56 (0,0))::a5++((J,.cells #[vS u.aa,vL U u.Data.length V,vI u.ak,vI u.aE,vI (IntKind.wrap .i64 (u.Next+1)),vI u.aO] 56 (0,0))::X++Y:au):au),[(G,Obj.cells #[.map (some D)] 118 (0,0))]] c5:=St.aX (L:=[[(D,.map b4 b5)],[(ar,Obj.cells #[vS (eH p u.Next),vL ae (data.length) am,vI 0,vI (max cj ((-1):Int)),vI 0,vI (max born (0:Int))] 56 (0,0))],a5,((J,.cells #[vS u.aa,vL U u.Data.length V,vI u.ak,vI u.aE,vI (IntKind.wrap .i64 (u.Next+1)),vI u.aO] 56 (0,0))::X++Y:au),[(G,Obj.cells #[.map (some D)] 118 (0,0))]]) (by simp only[cg,List.flatten_nil,cI,dM,dY,dh]) e7
    refine Op.gt 26<|At.go 27 3 [(12,vS (eH p u.Next)),(13,vI 0)] ?_
    obtain⟨hK,e9,fa⟩:∃c,gB g D (d_ (d_ t (⟨u.aa,u.Data,u.ak,u.aE,IntKind.wrap .i64 (u.Next+1),u.aO⟩:af)) (⟨eH p u.Next,data,0,(max cj ((-1):Int)),0,(max born (0:Int))⟩:af)) c∧St h g (aM [I]) g (c::[[(G,Obj.cells #[.map (some D)] 118 (0,0))]]) c5:=⟨_,e6.close e4 (gj _),St.aX (L:=[(D,.map b4 b5)]::((ar,.cells #[vS (eH p u.Next),vL ae (data.length) am,vI 0,vI (max cj ((-1):Int)),vI 0,vI (max born (0:Int))] 56 (0,0))::a5++((J,.cells #[vS u.aa,vL U u.Data.length V,vI u.ak,vI u.aE,vI (IntKind.wrap .i64 (u.Next+1)),vI u.aO] 56 (0,0))::X++Y:au):au)::[[(G,Obj.cells #[.map (some D)] 118 (0,0))]]) (by simp only[cg,cI,dM,dY,dh]) e8⟩
    obtain⟨fg,fi,fj⟩:=St.bl (Q:=eU g G (d_ (d_ t (⟨u.aa,u.Data,u.ak,u.aE,IntKind.wrap .i64 (u.Next+1),u.aO⟩:af)) (⟨eH p u.Next,data,0,(max cj ((-1):Int)),0,(max born (0:Int))⟩:af))) 2 (fa.fs [1] rfl) ⟨_,_,rfl,e9⟩
    exact At.rt (.tuple #[vS (eH p u.Next),vI 0]) (hR fj ⟨fg,bM (jh (by(rw[uU ‹_› ‹_› (by simp[fX, *]) (by simp[ff, *]<;>rfl) ‹_› ‹_›];done))) (bp (by(rw[uU ‹_› ‹_› (by simp[fX, *]) (by simp[ff, *]<;>rfl) ‹_› ‹_›];done))),fi.eq (by(rw[uU ‹_› ‹_› (by simp[fX, *]) (by simp[ff, *]<;>rfl) ‹_› ‹_›];exact(Oa ‹_›).symm)),rfl,rfl⟩)
   exact Bool.noConfusion (d4.symm.trans hb)
  have hL:(bN t (eH p u.Next)).isSome=true:=b3.symm
  refine Op.pK (ok:=true) (d:=.string) (mt:=116) (x:=45) (ix:=46) (dst:=47) (k:=(eH p u.Next)) (m:=D) (z:=.pointer none) (by kernel_rfl) (by kernel_rfl) kI (by kernel_rfl) (by kernel_rfl) (ad.ag 3 rfl) a4 c3<|Op.pg 14 [(17,vT)]<|At.go 15 1 [(50,vT)]<|At.bX 50 16<|At.go 17 2 [(12,vS []),(13,vI 101)] ?_
  have fl:gD bb ((J,.cells #[vS u.aa,vL U u.Data.length V,vI u.ak,vI u.aE,vI u.Next,vI u.aO] 56 (0,0))::X++Y:au) t:=by have hq:=bt u _ _ rfl bj;rwa[zf bc.sort (by rw[(jR a3).2];exact a3)] at hq
  have fp:St h g (aM [I]) g [((J,.cells #[vS u.aa,vL U u.Data.length V,vI u.ak,vI u.aE,vI u.Next,vI u.aO] 56 (0,0))::X++Y:au),[(D,.map Z ab)],[(G,Obj.cells #[.map (some D)] 118 (0,0))]] aw:=St.aX (L:=[[(J,Obj.cells #[vS u.aa,vL U u.Data.length V,vI u.ak,vI u.aE,vI u.Next,vI u.aO] 56 (0,0))],X,Y,[(D,.map Z ab)],[(G,Obj.cells #[.map (some D)] 118 (0,0))]]) (by simp only[cg,List.flatten_nil,cI,dM,dY,dh]) ad
  have fr:St h g (aM [I]) g [[(D,.map Z ab)],((J,.cells #[vS u.aa,vL U u.Data.length V,vI u.ak,vI u.aE,vI u.Next,vI u.aO] 56 (0,0))::X++Y:au),[(G,Obj.cells #[.map (some D)] 118 (0,0))]] aw:=(fp.fs [1] rfl)
  obtain⟨hN,ft,fv⟩:∃c,gB g D t c∧St h g (aM [I]) g (c::[[(G,Obj.cells #[.map (some D)] 118 (0,0))]]) aw:=⟨_,fl.close a4 (gj _),St.aX (L:=[(D,.map Z ab)]::((J,.cells #[vS u.aa,vL U u.Data.length V,vI u.ak,vI u.aE,vI u.Next,vI u.aO] 56 (0,0))::X++Y:au)::[[(G,Obj.cells #[.map (some D)] 118 (0,0))]]) (by simp only[cg,cI,dM,dY,dh]) fr⟩
  obtain⟨fw,fx,f0⟩:=St.bl (Q:=eU g G t) 2 (fv.fs [1] rfl) ⟨_,_,rfl,ft⟩
  exact At.rt (.tuple #[vS [],vI 101]) (hR f0 ⟨fw,bM (jh (by(rw[uS ‹_› ‹_› (by simp[fX, *]) (by simp[ff, *]<;>rfl) ‹_›];done))) (bp (by(rw[uS ‹_› ‹_› (by simp[fX, *]) (by simp[ff, *]<;>rfl) ‹_›];done))),fx.eq (by(rw[uS ‹_› ‹_› (by simp[fX, *]) (by simp[ff, *]<;>rfl) ‹_›];done)),rfl,rfl⟩)
 refine At.rp 11 3 [(44,vP G)] ?_
 obtain⟨O,c6,f1,f2⟩:=be
 have dq:=St.un [c6] f1 cf
 refine Op.l1 116 44 45 0 (.map (some O)) (dq.ag 0 rfl)<|Op.px 1 [(46,vS p)] ?_
 obtain⟨c8,c9,du,a6,f3,bd,bk⟩:=gB.kK f2
 have f4:St h g (aM [I]) g [c6,[(G,Obj.cells #[.map (some O)] 118 (0,0))]] a1:=(dq.fs [1] rfl)
 have a0:St h g (aM [I]) g ([(O,.map c8 c9)]::a6::[[(G,Obj.cells #[.map (some O)] 118 (0,0))]]) a1:=St.pM (L:=c6::[[(G,Obj.cells #[.map (some O)] 118 (0,0))]]) (f3.append_right _) f4
 obtain⟨f5,da⟩:∃o,fH du p=o:=⟨_,rfl⟩
 have b6:=bk.gy p
 rw[da] at b6
 rcases f5 with _|hO
 ·have hQ:bN t p=none:=by cases hq:bN t p with|none=>rfl|some _=>(rw[hq] at b6;cases b6)
  refine Op.rE (ok:=true) (d:=.string) (mt:=116) (x:=45) (ix:=46) (dst:=47) (k:=p) (m:=O) (z:=.pointer none) (by kernel_rfl) (by kernel_rfl) kI (by kernel_rfl) (by kernel_rfl) (a0.ag 0 rfl) bd da<|Op.pg 14 [(17,vF)]<|At.go 15 1 [(50,vF)]<|At.dP 50 18<|At.rp 6 3 [(53,vP G)] ?_
  refine Op.l1 116 53 54 0 (.map (some O)) (a0.ag 2 rfl)<|Op.BN (d:=.string) (mt:=116) (x:=54) (dst:=55) (m:=O) (z:=.pointer none) (by kernel_rfl) (by kernel_rfl) (by kernel_rfl) rfl (a0.ag 0 rfl) bd bk.len<|Op.pg 19 [(56,.bool (decide ((t.length:Int)≥32)))]<|At.fd ((t.length:Int)≥32) 56 20 22 (fun hS=>?_) fun hT=>?_
  ·refine At.go 21 2 [(12,vS []),(13,vI 104)] ?_
   obtain⟨hV,f6,f7⟩:∃c,gB g O t c∧St h g (aM [I]) g (c::[[(G,Obj.cells #[.map (some O)] 118 (0,0))]]) a1:=⟨_,bk.close bd (gj _),St.aX (L:=[(O,.map c8 c9)]::a6::[[(G,Obj.cells #[.map (some O)] 118 (0,0))]]) (by simp only[cg,cI,dM,dY,dh]) a0⟩
   obtain⟨f8,f9,gc⟩:=St.bl (Q:=eU g G t) 2 (f7.fs [1] rfl) ⟨_,_,rfl,f6⟩
   exact At.rt (.tuple #[vS [],vI 104]) (hR gc ⟨f8,bM (jh (by(rw[uT ‹_› ‹_› (by simp[fX, *]) (by simp[ff, *]<;>rfl) ‹_› ‹_›];done))) (bp (by(rw[uT ‹_› ‹_› (by simp[fX, *]) (by simp[ff, *]<;>rfl) ‹_› ‹_›];done))),f9.eq (by(rw[uT ‹_› ‹_› (by simp[fX, *]) (by simp[ff, *]<;>rfl) ‹_› ‹_›];done)),rfl,rfl⟩)
  refine At.go 23 1 [(57,.bool num)]<|At.c_ num 57 24 25 (fun hb=>?_) fun hW=>?_
  ·exact Bool.noConfusion (hb.symm.trans d5)
  refine At.dw (fun _=>False) [(0,true),(1,true),(2,true),(4,true),(5,true),(6,true),(8,true),(9,true),(10,true),(11,true),(3,true),(7,false),(12,true),(13,false),(1014,false),(14,false)]<|Op.px 7 [(67,vP G),(69,vS p),(70,vS p),(71,vL cb data.length ce),(73,vI cj)]<|Op.vl 74 (.int .i64 (if ((-1):Int)>cj then ((-1):Int) else cj)) (.int .i64 (max cj ((-1):Int))) (uV _ _)<|Op.px 1 [(75,vI born)]<|Op.vl 76 (.int .i64 (if (0:Int)>born then (0:Int) else born)) (.int .i64 (max born (0:Int))) (uV _ _) ?_
  refine Op.lf 116 67 0 68 1 (.map (some O)) id (a0.ag 2 rfl)<|Op.c0 (some 72) (mc _ _ _ a0.sub bo _ _ bs (by(try dsimp only)<;>omega)) a0 ?_
  rintro _ ge _ hX gg gk ⟨hY,bm,rfl,dv,bi,rfl⟩;subst ge;clear gg
  obtain⟨a7,a8,rfl⟩:=dv.ai
  refine Op.px 1 [(77,.agg #[vS p,vL a7 (data.length) a8,vI 0,vI (max cj ((-1):Int)),vI 0,vI (max born (0:Int))])]<|Op.bx 78 56 77 #[vS p,vL a7 (data.length) a8,vI 0,vI (max cj ((-1):Int)),vI 0,vI (max born (0:Int))] gk fun a9 hZ gn=>Op.ba<|Op.jQ (d:=.string) (z:=.pointer none) (mt:=116) (x:=68) (ix:=69) (y:=78) (k:=p) (v:=vP a9) (.inl (by kernel_rfl)) (by kernel_rfl) kI (by kernel_rfl) (by kernel_rfl) (by kernel_rfl) gn 2 rfl bd zt fun b8 ca db gs g1=>?_
  have g2:gD (h_ du p (vP a9)) ((a9,.cells #[vS p,vL a7 (data.length) a8,vI 0,vI (max cj ((-1):Int)),vI 0,vI (max born (0:Int))] 56 (0,0))::bm++a6:au) (d_ t (⟨p,data,0,(max cj ((-1):Int)),0,(max born (0:Int))⟩:af)):=bk.zM (g:=g) (l:=(⟨p,data,0,(max cj ((-1):Int)),0,(max born (0:Int))⟩:af)) ‹_› dv (by exact Cg (GF ‹_› ‹_›).1)
  have g3:St h g (aM [I]) g [[(O,.map b8 ca)],[(a9,Obj.cells #[vS p,vL a7 (data.length) a8,vI 0,vI (max cj ((-1):Int)),vI 0,vI (max born (0:Int))] 56 (0,0))],bm,a6,[(G,Obj.cells #[.map (some O)] 118 (0,0))]] db:=(g1.fs [1,1,2] rfl)
  have g4:St h g (aM [I]) g [[(O,.map b8 ca)],((a9,.cells #[vS p,vL a7 (data.length) a8,vI 0,vI (max cj ((-1):Int)),vI 0,vI (max born (0:Int))] 56 (0,0))::bm++a6:au),[(G,Obj.cells #[.map (some O)] 118 (0,0))]] db:=St.aX (L:=[[(O,.map b8 ca)],[(a9,Obj.cells #[vS p,vL a7 (data.length) a8,vI 0,vI (max cj ((-1):Int)),vI 0,vI (max born (0:Int))] 56 (0,0))],bm,a6,[(G,Obj.cells #[.map (some O)] 118 (0,0))]]) (by simp only[cg,List.flatten_nil,cI,dM,dY,dh]) g3
  refine Op.gt 26<|At.go 27 3 [(12,vS p),(13,vI 0)] ?_
  obtain⟨h1,g5,g6⟩:∃c,gB g O (d_ t (⟨p,data,0,(max cj ((-1):Int)),0,(max born (0:Int))⟩:af)) c∧St h g (aM [I]) g (c::[[(G,Obj.cells #[.map (some O)] 118 (0,0))]]) db:=⟨_,g2.close gs (gj _),St.aX (L:=[(O,.map b8 ca)]::((a9,.cells #[vS p,vL a7 (data.length) a8,vI 0,vI (max cj ((-1):Int)),vI 0,vI (max born (0:Int))] 56 (0,0))::bm++a6:au)::[[(G,Obj.cells #[.map (some O)] 118 (0,0))]]) (by simp only[cg,cI,dM,dY,dh]) g4⟩
  obtain⟨g7,g8,g9⟩:=St.bl (Q:=eU g G (d_ t (⟨p,data,0,(max cj ((-1):Int)),0,(max born (0:Int))⟩:af))) 2 (g6.fs [1] rfl) ⟨_,_,rfl,g5⟩
  exact At.rt (.tuple #[vS p,vI 0]) (hR g9 ⟨g7,bM (jh (by(rw[uU ‹_› ‹_› (by simp[fX, *]) (by simp[ff, *]<;>rfl) ‹_› ‹_›];done))) (bp (by(rw[uU ‹_› ‹_› (by simp[fX, *]) (by simp[ff, *]<;>rfl) ‹_› ‹_›];done))),g8.eq (by(rw[uU ‹_› ‹_› (by simp[fX, *]) (by simp[ff, *]<;>rfl) ‹_› ‹_›];exact(N_ ‹_› dE ‹_›).symm)),rfl,rfl⟩)
 have h2:(bN t p).isSome=true:=b6.symm
 refine Op.pK (ok:=true) (d:=.string) (mt:=116) (x:=45) (ix:=46) (dst:=47) (k:=p) (m:=O) (z:=.pointer none) (by kernel_rfl) (by kernel_rfl) kI (by kernel_rfl) (by kernel_rfl) (a0.ag 0 rfl) bd da<|Op.pg 14 [(17,vT)]<|At.go 15 1 [(50,vT)]<|At.bX 50 16<|At.go 17 2 [(12,vS []),(13,vI 101)] ?_
 obtain⟨h3,ha,he⟩:∃c,gB g O t c∧St h g (aM [I]) g (c::[[(G,Obj.cells #[.map (some O)] 118 (0,0))]]) a1:=⟨_,bk.close bd (gj _),St.aX (L:=[(O,.map c8 c9)]::a6::[[(G,Obj.cells #[.map (some O)] 118 (0,0))]]) (by simp only[cg,cI,dM,dY,dh]) a0⟩
 obtain⟨hf,hh,hj⟩:=St.bl (Q:=eU g G t) 2 (he.fs [1] rfl) ⟨_,_,rfl,ha⟩
 exact At.rt (.tuple #[vS [],vI 101]) (hR hj ⟨hf,bM (jh (by(rw[uS ‹_› ‹_› (by simp[fX, *]) (by simp[ff, *]<;>rfl) ‹_›];done))) (bp (by(rw[uS ‹_› ‹_› (by simp[fX, *]) (by simp[ff, *]<;>rfl) ‹_›];done))),hh.eq (by(rw[uS ‹_› ‹_› (by simp[fX, *]) (by simp[ff, *]<;>rfl) ‹_›];done)),rfl,rfl⟩)
theorem IZ:∀{a b:aQ},a <+: b→a≠b→jk a b=true:=by
  rintro a b ⟨t,rfl⟩ hne
  have ht:t≠[]:=fun e=>hne (by rw[e,dh])
  have h1:=NV a [] t
  rw[dh] at h1
  unfold jk
  rw[h1]
  cases t with
  |nil=>exact absurd rfl ht
  |cons c t=>simp[Go.Op.bytesLess]
theorem I0 {p:aQ} (h:eX p=true):([47]:aQ) <+: p:=by
  unfold eX at h
  simp only[bO,cB] at h
  cases p with
  |nil=>simp at h
  |cons c p=>obtain rfl:c=47:=by simpa using h.1
             exact⟨p,rfl⟩
theorem tO {p:aQ} (h:b9 p=0):eX p=true:=by
  cases hp:eX p with
  |true=>rfl
  |false=>
   have:bT p=[]:=by unfold bT;rw[hp];rfl
   exact absurd h (Gp this)
theorem Qv:¬b9 [47]=0:=by decide
theorem I1 {p:aQ} (h:eX p=true) (hne:p≠[47]):jk [47] p=true:=IZ (I0 h) hne.symm
theorem CX {p:aQ} (h:b9 p=0):p≠[47]:=fun e=>Qv (e▸h)
theorem Qw {p:aQ} (h:b9 p=0):jk (parentOf p) p=true:=by
  have hk:=j9.2 (tO h)
  obtain⟨_,h1,_,_,_,h2,h3⟩:=N1 hk (CX h)
  have hne:parentOf p≠p:=fun e=>by rw[e,NY hk] at h3;cases h3
  refine IZ ?_ hne
  unfold rF at h2
  simp only[bO,ie,kz] at h2
  rcases h2.2 with e|e|e
  · exact absurd e.symm hne
  · rw[e];exact I0 (tO h)
  · exact(BF _ _).trans (rz.1 e)
theorem I2 (c:UInt8):∀(l:List aQ) (x d:aQ),fy c (l++[x])++d=fy c (l++[x++d])
  |[],x,d=>by simp[fy]
  |[a],x,d=>by simp[fy]
  |a::b::l,x,d=>by
   have:=I2 c (b::l) x d
   simp only[dM,fy,cI] at this ⊢
   rw[this]
theorem I3:∀(k n:Nat),47 ∉ low k n
  |0,n=>by simp[low]
  |k+1,n=>by
   have hd:∀a:Nat,a<10→(47:UInt8)≠UInt8.ofNat (48+a):=by decide
   unfold low
   rw[fe,rZ]
   exact⟨hd _ (uj _ (by decide)),I3 k n⟩
theorem I4 {p:aQ} {n:Int} (h:j8 p n=0):b9 (eH p n)=0∧parentOf (eH p n)=parentOf p∧eX (eH p n)=true:=by
  obtain⟨h0,h1,hs⟩:=Gt h
  have hok:lQ p n=true:=by
    cases hk:lQ p n with
    |true=>rfl
    |false=>have:=(tg hk).2;rw[h] at this;cases this
  have hne:bT p≠[]:=by
    unfold lQ at hok
    simp only[bO,cB] at hok
    exact hok.1
  have hp:eX p=true:=by
    cases hk:eX p with
    |true=>rfl
    |false=>exact absurd (by unfold bT;rw[hk];rfl) hne
  have hq:eX (eH p n)=true:=by
    unfold j8 at h
    rw[aL hok] at h
    have:=j9.1 h
    unfold eH
    rw[aL hok]
    unfold l9
    rw[aL this]
    exact this
  have hl:=Gv hne
  have G:=rG hp
  have hj:eH p n=joined ((bT p).dropLast++[mK (bT p)++low 5 n.toNat]):=by
    rw[hs]
    conv=>lhs;rw[←G,←hl]
    unfold joined
    rw[dM,I2]
  have I:eH p n≠[47]:=by
    intro e
    have h2:=NW h
    rw[e] at h2
    simp at h2
    omega
  have u:bT (eH p n)=(bT p).dropLast++[mK (bT p)++low 5 n.toNat]:=by
    unfold bT
    rw[aL hq,aB I]
    conv=>lhs;rw[hj]
    show splitOn 47 (fy 47 _)=_
    refine yM 47 _ (by simp) ?_
    intro x hx
    rcases cU.1 hx with hx|hx
    · exact w6 (uQ p x (FP _ hx))
    · rw[gv] at hx
      subst hx
      rw[cU,rZ]
      have D:mK (bT p)∈(bT p).dropLast++[mK (bT p)]:=by simp
      rw[hl] at D
      exact⟨w6 (uQ p _ D),I3 _ _⟩
  refine⟨?_,?_,hq⟩
  · refine Gb ?_
    rw[u]
    simp
  · unfold parentOf
    rw[aB hne,aB (by rw[u];simp),u]
    simp
def Qx (k:Int) (ns:List af) (n:af):Prop:=
  eX n.aa=true∧n.Data.length≤128∧ -1≤n.aE∧(0≤n.ak∧n.ak≤k)∧(0≤n.Next∧n.Next≤k)∧0≤n.aO∧(n.aa=[47]∧n.aE= -1∧n.aO=0∨b9 n.aa=0∧∃u∈ns,u.aa=parentOf n.aa∧u.aE= -1)
structure fB (k:Int) (ns:List af):Prop where
  sort:fW ns
  len:ns.length≤32
  root:∃r∈ns,r.aa=[47]
  node:∀n∈ns,Qx k ns n
theorem fB.mono {k k':Int} {ns:List af} (H:fB k ns) (h:k≤k'):fB k' ns:=
  ⟨H.sort,H.len,H.root,fun n hn=>by
    obtain⟨h1,h2,h3,h4,h5,h6,h7⟩:=H.node n hn
    exact⟨h1,h2,h3,⟨h4.1,by omega⟩,⟨h5.1,by omega⟩,h6,h7⟩⟩
theorem fB.new:fB 0 [⟨[47],[],0, -1,0,0⟩]:=
  ⟨CT _ _,by decide,⟨_,.head _,rfl⟩,fun n hn=>by
    rw[gv] at hn
    subst hn
    exact⟨by decide,by decide,by decide,by decide,by decide,by decide,.inl ⟨rfl,rfl,rfl⟩⟩⟩
theorem fB.b {k:Int} {ns:List af} (H:fB k ns) (hk:k≤1000000):fM ns:=
  ⟨by have:=H.len;omega,fun n hn=>by
    obtain⟨h1,h2,h3,h4,h5,h6,h7⟩:=H.node n hn
    exact⟨rI h1,h2,by omega,by omega⟩⟩
theorem qM {ns:List af} {l n:af}:n∈d_ ns l↔n=l∨n∈ns∧n.aa≠l.aa:=by
  rw[(pL ns l).mem_iff,fe]
  unfold fD
  rw[iH]
  simp
theorem CY {ns:List af} {p:aQ} {n:af}:n∈fD ns p↔n∈ns∧n.aa≠p:=by
  unfold fD
  rw[iH]
  simp
theorem fW.Qy {ns:List af} (h:fW ns) {a b:af} (ha:a∈ns) (hb:b∈ns) (e:a.aa=b.aa):a=b:=by
  have h1:=rH h.nodup ha
  have h2:=rH h.nodup hb
  rw[e,h2] at h1
  exact(fT h1).symm
theorem Qz {ns:List af} (hs:fW ns) {u:af} (hu:u∈ns):(fD ns u.aa).length+1=ns.length:=by
  have hn:=hs.nodup
  clear hs
  induction ns with
  |nil=>cases hu
  |cons n ns ih=>
   rw[e_,pH] at hn
   rcases fe.1 hu with rfl|hu
   · have:fD (u::ns) u.aa=ns:=by
       unfold fD
       rw[ju]
       simp only[ry,ng,fZ,de]
       exact w_ (oK.2 fun x hx e=>hn.1 (e▸cF.2 ⟨x,hx,rfl⟩))
     rw[this,bL]
   · have hne:n.aa≠u.aa:=fun e=>hn.1 (e▸cF.2 ⟨u,hu,rfl⟩)
     have:fD (n::ns) u.aa=n::fD ns u.aa:=by
       unfold fD
       rw[ju]
       simp[hne]
     rw[this,bL,bL,ih hu hn.2]
theorem CZ {ns:List af} (hs:fW ns) {u l:af} (hu:u∈ns) (e:l.aa=u.aa):(d_ ns l).length=ns.length:=by
  rw[(pL ns l).length_eq,bL,e,Qz hs hu]
theorem QA {ns:List af} {l:af} (h:bN ns l.aa=none):(d_ ns l).length=ns.length+1:=by
  rw[(pL ns l).length_eq,bL,w_ h]
theorem fB.put {k:Int} {ns:List af} (H:fB k ns) {u l:af} (hu:u∈ns) (hp:l.aa=u.aa) (ho:l.aE=u.aE) (hb:l.aO=u.aO) (hd:l.Data.length≤128) (hv:0≤l.ak∧l.ak≤k) (hn:0≤l.Next∧l.Next≤k):fB k (d_ ns l):=by
  have G:∀x∈ns,∃y∈d_ ns l,y.aa=x.aa∧y.aE=x.aE:=fun x hx=>by
    by_cases e:x.aa=l.aa
    · have:x=u:=H.sort.Qy hx hu (e.trans hp)
      subst this
      exact⟨l,qM.2 (.inl rfl),hp,ho⟩
    · exact⟨x,qM.2 (.inr ⟨hx,e⟩),rfl,rfl⟩
  refine⟨w9 H.sort l,by rw[CZ H.sort hu hp];exact H.len,?_,fun n D=>?_⟩
  · obtain⟨r,hr,J⟩:=H.root
    obtain⟨y,hy,e,_⟩:=G r hr
    exact⟨y,hy,e.trans J⟩
  · have I:∀{q:aQ},(∃u∈ns,u.aa=q∧u.aE= -1)→∃u∈d_ ns l,u.aa=q∧u.aE= -1:=by
      rintro q ⟨x,hx,h1,h2⟩
      obtain⟨y,hy,e1,e2⟩:=G x hx
      exact⟨y,hy,e1.trans h1,e2.trans h2⟩
    rcases qM.1 D with rfl|⟨D,_⟩
    · obtain⟨h1,h2,h3,h4,h5,h6,h7⟩:=H.node u hu
      refine⟨hp▸h1,hd,ho▸h3,hv,hn,hb▸h6,?_⟩
      rw[hp,ho,hb]
      exact h7.imp id fun h=>⟨h.1,I h.2⟩
    · obtain⟨h1,h2,h3,h4,h5,h6,h7⟩:=H.node n D
      exact⟨h1,h2,h3,h4,h5,h6,h7.imp id fun h=>⟨h.1,I h.2⟩⟩
theorem fB.add {k:Int} {ns:List af} (H:fB k ns) {l:af} (hl:ns.length<32) (hf:bN ns l.aa=none) (hc:b9 l.aa=0) (hu:∃u∈ns,u.aa=parentOf l.aa∧u.aE= -1) (hd:l.Data.length≤128) (ho: -1≤l.aE) (hv:0≤l.ak∧l.ak≤k) (hn:0≤l.Next∧l.Next≤k) (hb:0≤l.aO):
    fB k (d_ ns l):=by
  have G:∀x∈ns,x∈d_ ns l:=fun x hx=>qM.2 (.inr ⟨hx,oK.1 hf x hx⟩)
  have I:∀{q:aQ},(∃u∈ns,u.aa=q∧u.aE= -1)→∃u∈d_ ns l,u.aa=q∧u.aE= -1:=fun⟨x,hx,h⟩=>⟨x,G x hx,h⟩
  refine⟨w9 H.sort l,by rw[QA hf];omega,?_,fun n D=>?_⟩
  · obtain⟨r,hr,J⟩:=H.root
    exact⟨r,G r hr,J⟩
  · rcases qM.1 D with rfl|⟨D,_⟩
    · exact⟨tO hc,hd,ho,hv,hn,hb,.inr ⟨hc,I hu⟩⟩
    · obtain⟨h1,h2,h3,h4,h5,h6,h7⟩:=H.node n D
      exact⟨h1,h2,h3,h4,h5,h6,h7.imp id fun h=>⟨h.1,I h.2⟩⟩
theorem QB {ns:List af} {p q:aQ}:q∈gA ns p↔∃n∈ns,n.aa=q∧b9 q=0∧parentOf q=p:=by
  unfold gA Gw
  rw[cF]
  constructor
  · rintro⟨n,hn,rfl⟩
    rw[iH] at hn
    simp only[bO,cB] at hn
    exact⟨n,hn.1,rfl,hn.2⟩
  · rintro⟨n,hn,rfl,h⟩
    exact⟨n,iH.2 ⟨hn,by simpa using h⟩,rfl⟩
theorem QC {ns:List af} {p:aQ} (h:gA ns p=[]) {n:af} (hn:n∈ns) (hc:b9 n.aa=0):parentOf n.aa≠p:=fun e=>by
  have:n.aa∈gA ns p:=QB.2 ⟨n,hn,rfl,hc,e⟩
  rw[h] at this
  cases this
theorem fB.nQ {k:Int} {ns:List af} (H:fB k ns) {p:aQ} (hp:p≠[47]) (hk:gA ns p=[]):fB k (fD ns p):=by
  refine⟨B2 H.sort p,cr (kG _ _) H.len,?_,fun n hn=>?_⟩
  · obtain⟨r,hr,D⟩:=H.root
    exact⟨r,CY.2 ⟨hr,D▸hp.symm⟩,D⟩
  · obtain⟨hn,hne⟩:=CY.1 hn
    obtain⟨h1,h2,h3,h4,h5,h6,h7⟩:=H.node n hn
    refine⟨h1,h2,h3,h4,h5,h6,h7.imp id fun h=>⟨h.1,?_⟩⟩
    obtain⟨u,hu,e1,e2⟩:=h.2
    exact⟨u,CY.2 ⟨hu,fun e=>QC hk hn h.1 (e1.symm.trans e)⟩,e1,e2⟩
theorem QD {x:Int} (h0: -9223372036854775808≤x) (h1:x≤9223372036854775807):IntKind.wrap .i64 x=x:=by
  have:=oA h0 h1
  injection this
theorem C0 {x:Int} (h0:0≤x) (h1:x≤1000000):IntKind.wrap .i64 (x+1)=x+1:=QD (by omega) (by omega)
section
variable {k:Int} {ns:List af} {p data:aQ} {cj born bA:Int} {num:Bool}
theorem Ad (h:(bY ns p data cj born num).2.2=0):∃up,b9 p=0∧data.length≤128∧bN ns (parentOf p)=some up∧up.aE= -1∧fX up p num=0∧bN ns (ff up p num)=none∧ns.length<32∧
    bY ns p data cj born num=(l_ ns up (ff up p num) data cj born num,ff up p num,0):=by
  unfold bY at h ⊢
  by_cases h1:b9 p=0
  · simp only[h1,ne_eq,jN,de] at h ⊢
    by_cases h2:data.length>128
    · simp[h2] at h
    · simp only[h2,de] at h ⊢
      cases hf:bN ns (parentOf p) with
      |none=>simp[hf] at h
      |some up=>
       simp only[hf] at h ⊢
       by_cases h3:up.aE= -1
       · simp only[h3,ne_eq,jN,de] at h ⊢
         by_cases h4:fX up p num=0
         · simp only[h4,ne_eq,jN,de] at h ⊢
           cases hq:bN ns (ff up p num) with
           |some _=>simp[hq] at h
           |none=>
            simp only[hq] at h ⊢
            by_cases h5:ns.length≥32
            · simp[h5] at h
            · simp only[h5,de]
              exact⟨up,trivial,by omega,rfl,h3,h4,hq,by omega,rfl⟩
         · simp[h4] at h
       · simp[h3] at h
  · simp[h1] at h
theorem C1 (h:(bY ns p data cj born num).2.2≠0):(bY ns p data cj born num).1=ns∧(bY ns p data cj born num).2.1=[]:=by
  unfold bY at h ⊢
  by_cases h1:b9 p=0
  · simp only[h1,ne_eq,jN,de] at h ⊢
    by_cases h2:data.length>128
    · simp[h2]
    · simp only[h2,de] at h ⊢
      cases hf:bN ns (parentOf p) with
      |none=>simp
      |some up=>
       simp only[hf] at h ⊢
       by_cases h3:up.aE= -1
       · simp only[h3,ne_eq,jN,de] at h ⊢
         by_cases h4:fX up p num=0
         · simp only[h4,ne_eq,jN,de] at h ⊢
           cases hq:bN ns (ff up p num) with
           |some _=>simp
           |none=>
            simp only[hq] at h ⊢
            by_cases h5:ns.length≥32
            · simp[h5]
            · simp[h5] at h
         · simp[h4]
       · simp[h3]
  · simp[h1]
theorem C2 {up:af} (hc:b9 p=0) (he:fX up p num=0):b9 (ff up p num)=0∧parentOf (ff up p num)=parentOf p:=by
  unfold fX ff at *
  cases num with
  |false=>exact⟨hc,rfl⟩
  |true=>
   simp only[iA] at he ⊢
   exact⟨(I4 he).1,(I4 he).2.1⟩
def qN (ns:List af) (up:af) (num:Bool):List af:=d_ ns (if num then {up with Next:=IntKind.wrap .i64 (up.Next+1)} else up)
theorem QE (H:fB k ns) (hk:k≤100000) {up:af} (hu:up∈ns):fB (k+1) (qN ns up num):=by
  obtain⟨h1,h2,h3,h4,h5,h6,h7⟩:=H.node up hu
  have H1:=H.mono (k':=k+1) (by omega)
  unfold qN
  cases num with
  |false=>exact H1.put hu rfl rfl rfl h2 ⟨h4.1,by show up.ak≤k+1;omega⟩ ⟨h5.1,by show up.Next≤k+1;omega⟩
  |true=>
   simp only[iA]
   rw[C0 h5.1 (by omega)]
   exact H1.put hu rfl rfl rfl h2 ⟨h4.1,by show up.ak≤k+1;omega⟩ ⟨by show 0≤up.Next+1;omega,by show up.Next+1≤k+1;omega⟩
theorem QF {up:af} {q:aQ} (hu:up∈ns) (hq:bN ns q=none):bN (qN ns up num) q=none:=by
  rw[oK] at hq ⊢
  intro n hn
  unfold qN at hn
  rcases qM.1 hn with rfl|⟨hn,_⟩
  · cases num with
    |false=>exact hq up hu
    |true=>exact hq up hu
  · exact hq n hn
theorem QG (hs:fW ns) {up:af} (hu:up∈ns):(qN ns up num).length=ns.length:=by
  unfold qN
  cases num with
  |false=>exact CZ hs hu rfl
  |true=>exact CZ hs hu rfl
theorem QH {up:af}:∃u∈qN ns up num,u.aa=up.aa∧u.aE=up.aE:=by
  unfold qN
  cases num with
  |false=>exact⟨_,qM.2 (.inl rfl),rfl,rfl⟩
  |true=>exact⟨_,qM.2 (.inl rfl),rfl,rfl⟩
theorem QI {up:af} {q:aQ}:l_ ns up q data cj born num=d_ (qN ns up num) ⟨q,data,0,max cj (-1),0,max born 0⟩:=rfl
theorem fB.make (H:fB k ns) (hk:k≤100000) (I:0≤k):fB (k+1) (bY ns p data cj born num).1:=by
  by_cases h:(bY ns p data cj born num).2.2=0
  · obtain⟨up,hc,hd,hf,ho,he,hq,hl,e⟩:=Ad h
    rw[e]
    obtain⟨hu,D⟩:=jR hf
    show fB (k+1) (l_ ns up (ff up p num) data cj born num)
    rw[QI]
    obtain⟨h1,h2⟩:=C2 hc he
    refine(QE H hk hu).add (by rw[QG H.sort hu];exact hl) (QF hu hq) h1 ?_ hd (Int.le_max_right _ _) ⟨by simp,by simp;omega⟩ ⟨by simp,by simp;omega⟩ (Int.le_max_right _ _)
    obtain⟨u,G,e1,e2⟩:=QH (ns:=ns) (up:=up) (num:=num)
    exact⟨u,G,by rw[e1,D];exact h2.symm,e2.trans ho⟩
  · rw[(C1 h).1]
    exact H.mono (by omega)
theorem QJ (h:(fL ns p bA).2=0):∃l,b9 p=0∧bN ns p=some l∧gA ns p=[]∧fL ns p bA=(fD ns p,0):=by
  unfold fL at h ⊢
  by_cases h1:b9 p=0
  · simp only[h1,ne_eq,jN,de] at h ⊢
    cases hf:bN ns p with
    |none=>simp[hf] at h
    |some l=>
     simp only[hf] at h ⊢
     by_cases h2:bA≥0∧l.ak≠bA
     · rw[aL h2] at h;cases h
     · rw[aB h2] at h ⊢
       by_cases h3:gA ns p=[]
       · exact⟨l,trivial,rfl,h3,by simp[h3]⟩
       · rw[aL h3] at h;cases h
  · simp[h1] at h
theorem QK (h:(fL ns p bA).2≠0):(fL ns p bA).1=ns:=by
  unfold fL at h ⊢
  split
  · rfl
  · rename_i h1
    rw[aB h1] at h
    split
    · rfl
    · rename_i l hf
      simp only[hf] at h
      split
      · rfl
      · rename_i h2
        rw[aB h2] at h
        split
        · rfl
        · rename_i h3
          rw[aB h3] at h
          exact absurd rfl h
theorem fB.drop (H:fB k ns):fB k (fL ns p bA).1:=by
  by_cases h:(fL ns p bA).2=0
  · obtain⟨l,hc,hf,hk,e⟩:=QJ h
    rw[e]
    exact H.nQ (CX hc) hk
  · rw[QK h];exact H
theorem fB.set (H:fB k ns) (hk:k≤100000):fB (k+1) (eP ns p data bA).1:=by
  have H1:=H.mono (k':=k+1) (by omega)
  unfold eP
  split
  · exact H1
  · split
    · exact H1
    · rename_i l hf
      split
      · exact H1
      · split
        · exact H1
        · rename_i hd
          obtain⟨hu,_⟩:=jR hf
          obtain⟨h1,h2,h3,h4,h5,h6,h7⟩:=H.node l hu
          rw[C0 h4.1 (by omega)]
          exact H1.put hu rfl rfl rfl (by show data.length≤128;omega) ⟨by show 0≤l.ak+1;omega,by show l.ak+1≤k+1;omega⟩ ⟨h5.1,by show l.Next≤k+1;omega⟩
end
section
variable {k:Int} {ns:List af}
theorem fB.QL (H:fB k ns) {n:af} (hn:n∈ns) (e:n.aa=[47]):n.aE= -1∧n.aO=0:=by
  obtain⟨_,_,_,_,_,_,h7⟩:=H.node n hn
  rcases h7 with ⟨_,h⟩|⟨h,_⟩
  · exact h
  · exact absurd e (CX h)
theorem fB.I5 (H:fB k ns):∀(rest seen:List af),seen++rest=ns→th seen rest=true
  |[],seen,_=>rfl
  |l::rest,seen,e=>by
   have hl:l∈ns:=by rw[←e];simp
   obtain⟨h1,h2,h3,h4,h5,h6,h7⟩:=H.node l hl
   have hs:=H.sort
   rw[←e] at hs
   obtain⟨O,U,G⟩:=qF.1 hs
   have I:∀x∈ns,jk x.aa l.aa=true→x∈seen:=fun x hx hlt=>by
     rw[←e] at hx
     rcases cU.1 hx with hx|hx
     · exact hx
     · rcases fe.1 hx with rfl|hx
       · unfold jk at hlt;rw[uR] at hlt;cases hlt
       · have:=(jE.1 U).1 x hx
         unfold jk at hlt this
         rw[zd this] at hlt
         cases hlt
   have hr:kf seen l=true:=by
     unfold kf
     simp only[bO,cB]
     refine⟨⟨⟨⟨⟨h3,h4.1⟩,h5.1⟩,h6⟩,h2⟩,?_⟩
     by_cases D:seen=[]
     · rw[aL D]
       have:l.aa=[47]:=by
         by_cases hp:l.aa=[47]
         · exact hp
         · obtain⟨r,hr,V⟩:=H.root
           have:=I r hr (by rw[V];exact I1 h1 hp)
           rw[D] at this
           cases this
       have h8:=H.QL hl this
       simp[this,h8.1,h8.2]
     · rw[aB D]
       obtain⟨x,hx⟩:=List.exists_mem_of_ne_nil _ D
       have hxl:=G x hx l (.head _)
       have hp:l.aa≠[47]:=by
         intro hp
         have X:x∈ns:=by rw[←e];exact yy _ hx
         by_cases J:x.aa=[47]
         · rw[J,hp] at hxl;unfold jk at hxl;rw[uR] at hxl;cases hxl
         · have h9:=I1 (H.node x X).1 J
           unfold jk at h9 hxl
           rw[hp,zd h9] at hxl
           cases hxl
       rcases h7 with h7|⟨hc,u,hu,e1,e2⟩
       · exact absurd h7.1 hp
       · have Y:=I u hu (by rw[e1];exact Qw hc)
         have Z:(seen.map (·.aa)).Nodup:=fW.nodup O
         have hf:=rH Z Y
         rw[e1] at hf
         simp[hc,hf,e2]
   unfold th
   rw[hr,H.I5 rest (seen++[l]) (by rw[←e];simp),lP,lB]
   cases hg:seen.getLast? with
   |none=>rfl
   |some x=>exact G x (List.mem_of_getLast? hg) l (.head _)
theorem fB.C3 (H:fB k ns):gS ns=true:=by
  unfold gS
  rw[H.I5 ns [] rfl]
  have h1:=H.len
  obtain⟨r,hr,_⟩:=H.root
  have h2:=List.length_pos_of_mem hr
  simp only[lP,bO,cB]
  omega
end
theorem QM {u ks:List aQ} (h:u.Perm ks) (hf:[]=u):ks=[]:=by subst hf;exact h.symm.eq_nil
theorem QN {u ks:List aQ} {x:aQ} {xs:List aQ} (h:u.Perm ks) (hp:x::xs <+: u):ks≠[]:=by
 rintro rfl
 have h1:=hp.length_le
 rw[h.length_eq] at h1
 simp at h1
def r7 {α:Type} (xs:List α):Option Code:=if xs.isEmpty=true then none else some .ret
theorem QO {α:Type} {xs:List α} (h:xs.isEmpty=true):r7 xs=none:=by unfold r7;rw[aL h]
theorem QS {α:Type} (xs:List α) (x:α):r7 (xs++[x])=some .ret:=by unfold r7;rw[aB];simp
theorem QT {α:Type} (xs:List α) (x:α):Value.bool (some Code.ret:Option Code).isNone=Value.bool (xs++[x]).isEmpty:=by simp
theorem I6 {ns:List af} {p:aQ} {bA:Int} (h:¬b9 p=0):fL ns p bA=(ns,b9 p):=by unfold fL;rw[aL h]
theorem I7 {ns:List af} {p:aQ} {bA:Int} (h:b9 p=0) (hp:cP p=0) (hv:fq ns p bA≠0):fL ns p bA=(ns,fq ns p bA):=by
 unfold fq dX at *;unfold fL
 simp only[h,hp,ne_eq,jN,de] at *
 cases hf:bN ns p with
 |none=>simp[hf]
 |some l=>simp only[hf] at *;split at hv<;>simp_all
theorem Ae {ns:List af} {p:aQ} {bA:Int} {l:af} (h:b9 p=0) (hv:fq ns p bA=0) (hf:bN ns p=some l):fL ns p bA=if gA ns p≠[] then (ns,103) else (fD ns p,0):=by
 obtain⟨_,h2⟩:=B_ hv hf
 unfold fL
 rw[aB (by simpa using h),hf]
 simp only[]
 rw[aB h2]
theorem C4 (B:World) (h:av) (g:GH) (hg:bf g h) (Z:bh g) (G:Nat) (t:List af) (J:au) (ad:eU g G t J) (p:aj) (bA:Int) (hB:fM t) (hp:p.length≤1000000000) (hs:St h g (aM [J]) g [J] h):
  aA prog B 56 #[vP G,vS p,vI bA] h g [J] (fun db g' L'=>∃bk,db=.int .i64 ((fL t p bA).2)∧eU g' G ((fL t p bA).1) bk∧g'=g∧L'=[bk]):=by
 refine aA.aq func56 fun R hR=>At.rg 1<|Op.al 6 52 #[vI 0] hs fun D fa bm=>Op.gt 1<|At.rp 7 1 [(12,vS p)] ?_
 refine Op.c1 13 (xo _ _ _ bm.sub Z p (by(try dsimp only)<;>omega)) bm fun fg bo=>Op.pg 2 [(8,vI (b9 p))]<|At.go 3 2 [(17,.bool ((b9 p) != 0))]<|At.fn ((b9 p)=0) 17 4 6 (fun fi=>?_) fun fj=>?_
 ·exact At.rp 2 1 [(18,vI (b9 p))]<|Op.s1 52 6 18 0 (vI (b9 p)) 0 #[vI (b9 p)] bo zt fun fl bs=>Op.gt 5<|At.rn f56 [vI (b9 p)] [.cell 6 52] ⟨⟨_,_,rfl,yJ (n:=1) (by kernel_rfl) (bs.ag 0 rfl) (by kernel_rfl)⟩,trivial⟩ (hR bs.drop ⟨J,(bp (by(rw[I6 ‹_›];done))),ad.eq (by(rw[I6 ‹_›];done)),rfl,rfl⟩)
 refine At.rp 9 3 [(20,vP G),(21,vS p),(22,vI bA)] ?_
 have a1:=bo.fs [1] rfl
 have dc:=a1.gi
 have dd:=eU.fK ad a1 (by intro p hp;simp only[cU,hp,g_,hU])
 refine Op.le (some 23) 0 a1 (GY _ _ _ a1.ij (Z.mono dc) G t dd p bA (by(try dsimp only)<;>omega)) (fun _ _ _ hp=>by obtain⟨a7,_,_⟩:=hp;exact a7) ?_ (hM:=(fun _ _ h=>absurd h (gq _)))
 rintro fp _ fr X ⟨a7,rfl,df⟩;clear a7
 rcases df with ⟨rfl,bt⟩|⟨ft,fv,fw,fx,rfl,f0,f1,f2,f3,f4,f5⟩
 ·have dg:((fq t p bA) != 0)=true:=uG.2 bt
  have f6:((fq t p bA)==0)=false:=qB.2 bt
  refine Op.pg 7 [(10,vI (fq t p bA))]<|At.go 8 2 [(27,.bool ((fq t p bA) != 0))]<|At.c_ ((fq t p bA) != 0) 27 9 11 (fun b3=>?_) fun hb=>?_
  ·replace b3:=jO b3
   exact At.rp 2 1 [(28,vI (fq t p bA))]<|Op.s1 52 6 28 0 (vI (fq t p bA)) 1 #[vI (fq t p bA)] X zt fun f7 b4=>Op.gt 10<|At.rn f56 [vI (fq t p bA)] [.cell 6 52] ⟨⟨_,_,rfl,yJ (n:=1) (by kernel_rfl) (b4.ag 1 rfl) (by kernel_rfl)⟩,trivial⟩<|hR (b4.fs [1] rfl).drop ⟨J,(bp (by(rw[I7 ‹_› (j9.2 (tO ‹_›)) ‹_›];done))),ad.eq (by(rw[I7 ‹_› (j9.2 (tO ‹_›)) ‹_›];done)),rfl,rfl⟩
  exact Bool.noConfusion (dg.symm.trans hb)
 refine Op.pg 7 [(10,vI 0)]<|At.go 8 2 [(27,vF)]<|At.dP 27 11 ?_
 have dj:=eU.fK ad X (fun p hp=>hp)
 have b5:=X.freeze.1
 have dk:=X.freeze.2
 replace Z:=Z.mono dk
 refine At.rp 3 2 [(29,vP G),(30,vS p)]<|Op.c0 (some 31) (GV _ _ _ b5.sub Z G t dj p) b5 ?_
 rintro _ a8 _ f8 dl dp ⟨f62,a3,rfl,dq,du,rfl⟩
 replace Z:=Z.mono dl
 refine Op.gt 12<|At.kp [(0,vP G),(1,vS p),(6,vP D),(31,.func (.func f62) #[] a3)]<|At.rangeFunc (x:=31) (f:=f62) (cp:=a3) (by kernel_rfl) rfl (by kernel_rfl) (by kernel_rfl) dq dp fun u U V b6 dv dC=>?_
 have dE:St h g (aM [J]) a8 [[(U,.loop (cW (dN 56 V (pt (cJ f56) 12) u) none))],[(D,Obj.cells #[vI 0] 52 (0,0))],[(u,.deferred (some []))]] b6:=(dC.fs [1,2,2] rfl)
 have a9:St h g (aM [J]) a8 [(([(U,.loop (cW (dN 56 V (pt (cJ f56) 12) u) none))]:au)++([(D,Obj.cells #[vI 0] 52 (0,0))]:au):au),[(u,.deferred (some []))]] b6:=St.aX (L:=[[(U,.loop (cW (dN 56 V (pt (cJ f56) 12) u) none))],[(D,Obj.cells #[vI 0] 52 (0,0))],[(u,.deferred (some []))]]) (by simp only[cg,List.flatten_nil,cI,dM,dY,dh]) dE
 obtain⟨b8,am⟩:∃I:List aQ→GH→au→Prop,I=(fun xs g2 c2=>∃(ca:Int),c2=(([(U,.loop (cW (dN 56 V (pt (cJ f56) 12) u) (r7 xs)))]:au)++([(D,Obj.cells #[.int .i64 ca] 52 (0,0))]:au):au)∧(xs≠[]→ca=103)):=⟨_,rfl⟩
 have dT:ru prog B U qD (fun d0=>d0.Perm (gA t p)) (fun xs=>xs.isEmpty) b8 a8:=by
  intro bb a4 cb ce f9 gc ge gg d1 d2 gk cf ch
  rw[am] at cf
  obtain⟨bc,rfl,gn⟩:=cf
  obtain rfl:=d2
  rw[show(r7 cb)=none from by exact QO d1] at ch ⊢
  have ci:St bb a4 (aM [(([(U,.loop (cW (dN 56 V (pt (cJ f56) 12) u) none))]:au)++([(D,Obj.cells #[vI bc] 52 (0,0))]:au):au)]) a4 [[(U,.loop (cW (dN 56 V (pt (cJ f56) 12) u) none))],[(D,Obj.cells #[vI bc] 52 (0,0))]] bb:=St.aX (by simp only[cg,List.flatten_nil,cI,dM,dY,dh]) ch
  refine rq.ri (n:=f56.ntmps) (e0:=[(0,vP G),(1,vS p),(6,vP D),(31,.func (.func f62) #[] a3)]) (e:=[(32,vS ce),(0,vP G),(1,vS p),(6,vP D),(31,.func (.func f62) #[] a3)]) (ci.ag 0 rfl) dv (by kernel_rfl) (by kernel_rfl) (by kernel_rfl) (by kernel_rfl) fun gs d3=>At.beginRound rfl (by kernel_rfl) ci 0 rfl 1 (by kernel_rfl) fun g1 d4=>At.rg 1<|Op.s1 52 6 (.const (vI 103)) 0 (vI 103) 1 #[vI 103] d4 zt fun g3 d5=>Op.gt 2 ?_
  refine At.wK (j:=(some .ret)) (by kernel_rfl) d5 0 rfl fun d6 d7=>?_
  have d8:St bb a4 (aM [(([(U,.loop (cW (dN 56 V (pt (cJ f56) 12) u) none))]:au)++([(D,Obj.cells #[vI bc] 52 (0,0))]:au):au)]) a4 [(([(U,.loop (cW (dN 56 V (pt (cJ f56) 12) u) (some .ret)))]:au)++([(D,Obj.cells #[vI 103] 52 (0,0))]:au):au)] d6:=St.aX (L:=[[(U,.loop (cW (dN 56 V (pt (cJ f56) 12) u) (some .ret)))],[(D,Obj.cells #[vI 103] 52 (0,0))]]) (by simp only[cg,List.flatten_nil,cI,dM,dY,dh]) d7
  refine d3 _ _ _ _ d8 ⟨_,by exact QT _ _,rfl,?_⟩
  rw[←QS cb ce]
  rw[am];exact⟨103,rfl,(by exact fun _=>rfl)⟩
 refine sY.call (Lc:=[(([(U,.loop (cW (dN 56 V (pt (cJ f56) 12) u) none))]:au)++([(D,Obj.cells #[vI 0] 52 (0,0))]:au):au)]) (L:=[[(u,.deferred (some []))]]) a9 (du B _ _ _ b8 (fun xs=>xs.isEmpty) _ (aG.refl _) a9.sub Z dT rfl (by rw[am];exact⟨0,rfl,(by exact fun h=>absurd rfl h)⟩) (St.part (Lc:=[(([(U,.loop (cW (dN 56 V (pt (cJ f56) 12) u) none))]:au)++([(D,Obj.cells #[vI 0] 52 (0,0))]:au):au)]) (L:=[[(u,.deferred (some []))]]) a9)) ?_
 rintro _ ck _ co g4 a5 ⟨g5,d9,g6,rfl,c3,ea,eb,g7,rfl,a6⟩
 rcases d9 with _|⟨x0,ed⟩
 ·have ar:gA t p=[]:=QM c3 (eb rfl)
  rw[am] at a6
  obtain⟨Y,rfl,g8⟩:=a6
  rw[show(r7 [])=none from by rfl] at a5
  have ee:St h g (aM [J]) ck [[(U,.loop (cW (dN 56 V (pt (cJ f56) 12) u) none))],[(D,Obj.cells #[vI Y] 52 (0,0))],[(u,.deferred (some []))]] co:=St.aX (by simp only[cg,List.flatten_nil,cI,dM,dY,dh]) a5
  refine iG.wL (j:=none) ee 0 rfl fun bd ef=>iG.br 13 (by kernel_rfl) ?_
  have eh:St h g (aM [J]) g (J::[[(D,Obj.cells #[vI Y] 52 (0,0))],[(u,.deferred (some []))]]) bd:=X.uC (ef.drop.xy (aG.trans X.le X.gi) (by repeat (first|assumption|exact aG.refl _|apply aG.trans)))
  refine At.rp 6 3 [(35,vP G)] ?_
  obtain⟨O,be,ej,em⟩:=ad
  have c4:=St.un [be] ej eh
  refine Op.l1 116 35 36 0 (.map (some O)) (c4.ag 0 rfl)<|Op.px 1 [(37,vS p)] ?_
  obtain⟨en,ab,g9,bi,eo,ep,er⟩:=gB.kK em
  have et:St h g (aM [J]) g [be,[(G,Obj.cells #[.map (some O)] 118 (0,0))],[(D,Obj.cells #[vI Y] 52 (0,0))],[(u,.deferred (some []))]] bd:=(c4.fs [1] rfl)
  have ex:St h g (aM [J]) g ([(O,.map en ab)]::bi::[[(G,Obj.cells #[.map (some O)] 118 (0,0))],[(D,Obj.cells #[vI Y] 52 (0,0))],[(u,.deferred (some []))]]) bd:=St.pM (L:=be::[[(G,Obj.cells #[.map (some O)] 118 (0,0))],[(D,Obj.cells #[vI Y] 52 (0,0))],[(u,.deferred (some []))]]) (eo.append_right _) et
  obtain⟨bj,aw,eA,eB⟩:=er.nQ p
  refine Op.yY (d:=.string) (z:=.pointer none) (mt:=116) (kt:=9) (x:=36) (ix:=37) (dst:=none) (k:=p) (by kernel_rfl) (by kernel_rfl) kI (by kernel_rfl) (by kernel_rfl) ex 0 rfl ep zt fun ae c5 eI eJ=>?_
  have eK:St h g (aM [J]) g [bi,[(O,.map ae ab)],[(G,Obj.cells #[.map (some O)] 118 (0,0))],[(D,Obj.cells #[vI Y] 52 (0,0))],[(u,.deferred (some []))]] c5:=(eJ.fs [1] rfl)
  have eL:St h g (aM [J]) g [bj,aw,[(O,.map ae ab)],[(G,Obj.cells #[.map (some O)] 118 (0,0))],[(D,Obj.cells #[vI Y] 52 (0,0))],[(u,.deferred (some []))]] c5:=St.pM (L:=bi::[[(O,.map ae ab)],[(G,Obj.cells #[.map (some O)] 118 (0,0))],[(D,Obj.cells #[vI Y] 52 (0,0))],[(u,.deferred (some []))]]) (by have hq:=eA.append_right (List.flatten [[(O,.map ae ab)],[(G,Obj.cells #[.map (some O)] 118 (0,0))],[(D,Obj.cells #[vI Y] 52 (0,0))],[(u,.deferred (some []))]]);simpa only[cg,List.flatten_nil,cI,dM,dY,dh] using hq) eK
  refine Op.gt 14<|At.rg 1<|Op.s1 52 6 (.const (vI 0)) 0 (vI 0) 4 #[vI 0] eL zt fun c6 eQ=>Op.gt 15 ?_
  have eT:St h g (aM [J]) g [[(O,.map ae ab)],bj,aw,[(G,Obj.cells #[.map (some O)] 118 (0,0))],[(D,Obj.cells #[vI 0] 52 (0,0))],[(u,.deferred (some []))]] c6:=(eQ.fs [1,1,2] rfl)
  obtain⟨ha,e1,e2⟩:∃c,gB g O (fD t p) c∧St h g (aM [J]) g (c::[aw,[(G,Obj.cells #[.map (some O)] 118 (0,0))],[(D,Obj.cells #[vI 0] 52 (0,0))],[(u,.deferred (some []))]]) c6:=⟨_,eB.close eI (gj _),St.aX (L:=[(O,.map ae ab)]::bj::[aw,[(G,Obj.cells #[.map (some O)] 118 (0,0))],[(D,Obj.cells #[vI 0] 52 (0,0))],[(u,.deferred (some []))]]) (by simp only[cg,cI,dM,dY,dh]) eT⟩
  obtain⟨c8,e3,e4⟩:=St.bl (Q:=eU g G (fD t p)) 2 (e2.fs [1,1,2] rfl) ⟨_,_,rfl,e1⟩
  refine At.yQ (iG.FH (L:=[c8,aw,[(D,Obj.cells #[vI 0] 52 (0,0))]]) (f:=f56) (vs:=[vI 0]) (rl:=[.cell 6 52]) (v:=vI 0) [u] (by kernel_rfl) (by kernel_rfl) rfl (e4.fs [2,2,2,3] rfl) ?_)
  intro he c9
  refine⟨⟨⟨_,_,rfl,yJ (n:=1) (by kernel_rfl) (c9.ag 2 rfl) (by kernel_rfl)⟩,trivial⟩,?_⟩
  exact hR (c9.fs [2,2] rfl).drop.drop ⟨c8,(bp (by(rw[Ae ‹_› ‹_› ‹_›,aB (fun h=>h ar)];done))),e3.eq (by(rw[Ae ‹_› ‹_› ‹_›,aB (fun h=>h ar)];done)),rfl,rfl⟩
 have ar:gA t p≠[]:=QN c3 ea
 rw[am] at a6
 obtain⟨a0,rfl,e5⟩:=a6
 rw[show(r7 (x0::ed))=(some .ret) from by rfl] at a5
 have e6:St h g (aM [J]) ck [[(U,.loop (cW (dN 56 V (pt (cJ f56) 12) u) (some .ret)))],[(D,Obj.cells #[vI a0] 52 (0,0))],[(u,.deferred (some []))]] co:=St.aX (by simp only[cg,List.flatten_nil,cI,dM,dY,dh]) a5
 refine iG.wL (j:=(some .ret)) e6 0 rfl fun e7 e8=>?_
 have e9:St h g (aM [J]) g (J::[[(D,Obj.cells #[vI a0] 52 (0,0))],[(u,.deferred (some []))]]) e7:=X.uC (e8.drop.xy (aG.trans X.le X.gi) (by repeat (first|assumption|exact aG.refl _|apply aG.trans)))
 refine iG.FH (L:=[J,[(D,Obj.cells #[vI a0] 52 (0,0))]]) (f:=f56) (vs:=[vI a0]) (rl:=[.cell 6 52]) (v:=vI a0) [u] (by kernel_rfl) (by kernel_rfl) rfl (e9.fs [1,1,2] rfl) fun hf da=>⟨⟨⟨_,_,rfl,yJ (n:=1) (by kernel_rfl) (da.ag 1 rfl) (by kernel_rfl)⟩,trivial⟩,?_⟩
 exact hR (da.fs [1] rfl).drop ⟨J,(bp (by(rw[Ae ‹_› ‹_› ‹_›,aL ar];exact e5 (by simp)))),ad.eq (by(rw[Ae ‹_› ‹_› ‹_›,aL ar];done)),rfl,rfl⟩
section
variable {ns out:List af} {l x:af} {i:Int} {put:Bool}
end
section
variable {ns:List af} {p data q:aQ} {cj born bA o' b':Int} {num:Bool} {up x:af} {k:Int}
theorem I9 {a b:UInt8} (h:(a.toNat:Int)=(b.toNat:Int)):a=b:=UInt8.toNat_inj.1 (by omega)
theorem I_ {a b:UInt8} (h:¬(a.toNat:Int)=(b.toNat:Int)):¬a=b:=fun e=>h (by rw[e])
theorem QU (a b:af):decide (a=b)=(decide (a.aa=b.aa)&&(decide (a.Data=b.Data)&&(decide (a.ak=b.ak)&&(decide (a.aE=b.aE)&&(decide (a.Next=b.Next)&&decide (a.aO=b.aO)))))):=by
  obtain⟨a1,a2,a3,a4,a5,u⟩:=a
  obtain⟨b1,b2,D,G,I,J⟩:=b
  rw[oI]
  simp[af.mk.injEq]
theorem xJ {a b:af} (h:¬a.aa=b.aa∨¬a.Data=b.Data∨¬a.ak=b.ak∨¬a.aE=b.aE∨¬a.Next=b.Next):false=decide (a=b):=by
  refine(fU fun e=>?_).symm
  subst e
  rcases h with h|h|h|h|h
  all_goals exact h rfl
theorem QV {a b:af} (h1:a.aa=b.aa) (h2:a.Data=b.Data) (h3:a.ak=b.ak) (h4:a.aE=b.aE) (h5:a.Next=b.Next):(a.aO==b.aO)=decide (a=b):=by
  rw[QU,eW h2,eW h1,eW h3,eW h4,eW h5]
  simp only[lP]
  rw[oI]
  simp
end
def r8 (list:List af) (i:Nat) (l:af):Prop:=kf (list.take i) l=true∧∀x,(list.take i).getLast?=some x→jk x.aa l.aa=true
theorem Ja:∀(rest seen:List af),th seen rest=true↔∀i l,rest[i]?=some l→kf (seen++rest.take i) l=true∧∀x,(seen++rest.take i).getLast?=some x→jk x.aa l.aa=true
  |[],seen=>by simp[th]
  |n::rest,seen=>by
   unfold th
   rw[bO,bO,Ja rest (seen++[n])]
   constructor
   · rintro⟨⟨h1,h2⟩,h3⟩ i l hl
     cases i with
     |zero=>
      simp only[List.getElem?_cons_zero,eN] at hl
      subst hl
      simp only[uB,dh]
      refine⟨h1,fun x hx=>?_⟩
      rw[hx] at h2
      exact h2
     |succ i=>
      simp only[List.getElem?_cons_succ] at hl
      have:=h3 i l hl
      simpa using this
   · intro H
     refine⟨?_,fun i l hl=>?_⟩
     · have:=H 0 n rfl
       simp only[uB,dh] at this
       refine⟨this.1,?_⟩
       cases hg:seen.getLast? with
       |none=>rfl
       |some x=>exact this.2 x hg
     · have:=H (i+1) l (by simpa using hl)
       simpa using this
theorem C5 {list:List af}:gS list=true↔(1≤list.length∧list.length≤32)∧∀i l,list[i]?=some l→r8 list i l:=by
  unfold gS r8
  rw[bO,bO,Ja]
  simp only[dY,cB]
  constructor
  · rintro⟨⟨h1,h2⟩,h3⟩;exact⟨⟨h2,h3⟩,h1⟩
  · rintro⟨⟨h2,h3⟩,h1⟩;exact⟨⟨h1,h2⟩,h3⟩
theorem Jb {list:List af} {i:Nat} {l:af} (hl:list[i]?=some l) (h:¬r8 list i l):false=gS list:=by
  cases hb:gS list with
  |false=>rfl
  |true=>exact absurd ((C5.1 hb).2 i l hl) h
theorem Af {list:List af} (h:(list.length:Int)<1∨(list.length:Int)>32):false=gS list:=by
  cases hb:gS list with
  |false=>rfl
  |true=>have:=(C5.1 hb).1;omega
theorem Jc {list:List af} {i:Int} {x:af} (h:0<i) (hx:list[(i-1).toNat]?=some x):(list.take i.toNat).getLast?=some x:=by
  have e:i.toNat=(i-1).toNat+1:=by omega
  rw[e,fu hx]
  simp
section
variable {list:List af} {i:Int} {l x:af}
theorem Jd (h0:0<i) (hl:list[i.toNat]?=some l) (hx:list[(i-1).toNat]?=some x) (h:Go.Op.bytesLess x.aa l.aa=false):false=gS list:=
  Jb hl fun hr=>by
    have:=hr.2 x (Jc h0 hx)
    unfold jk at this
    rw[h] at this
    cases this
end
theorem Je {l:af}:∀{ns:List af},(∀n∈ns,jk n.aa l.aa=true)→nk l ns=ns++[l]
  |[],_=>rfl
  |n::ns,h=>by
   unfold nk
   rw[aB,Je fun m hm=>h m (.tail _ hm)]
   · rfl
   · have:=h n (.head _)
     unfold jk at this ⊢
     rw[zd this]
     simp
def vh (list:List af) (i:Int):Prop:=(∀j l,j<i.toNat→list[j]?=some l→r8 list j l)∧fW (list.take i.toNat)
theorem QW (list:List af):vh list 0:=⟨fun j l hj=>absurd hj (by simp),by simp[fW]⟩
section
variable {list:List af} {i:Int} {l x:af}
theorem QX (H:vh list i) (hr:∀x,(list.take i.toNat).getLast?=some x→jk x.aa l.aa=true):∀n∈list.take i.toNat,jk n.aa l.aa=true:=by
  intro n hn
  rcases List.eq_nil_or_concat (list.take i.toNat) with e|⟨a,x,e⟩
  · rw[e] at hn;cases hn
  · rw[List.concat_eq_append] at e
    have h1:=hr x (by rw[e];simp)
    have hs:=H.2
    rw[e] at hs hn
    rcases cU.1 hn with hn|hn
    · exact w8 ((qF.1 hs).2.2 n hn x (by simp)) h1
    · rw[gv] at hn
      exact hn▸h1
theorem C6 (H:vh list i) (h0:0≤i) (hl:list[i.toNat]?=some l) (hr:r8 list i.toNat l):vh list (i+1)∧bN (list.take i.toNat) l.aa=none∧d_ (list.take i.toNat) l=list.take (i+1).toNat:=by
  have hlt:=QX H hr.2
  have hnone:bN (list.take i.toNat) l.aa=none:=oK.2 fun n hn=>BZ (hlt n hn)
  refine⟨⟨?_,?_⟩,hnone,?_⟩
  · intro j D hj u
    rcases oo j i.toNat with h|h
    · exact H.1 j D h u
    · obtain rfl:j=i.toNat:=by omega
      rw[hl] at u
      cases u
      exact hr
  · rw[toNat_succ h0,fu hl]
    refine qF.2 ⟨H.2,CT _ _,fun a ha b hb=>?_⟩
    rw[gv] at hb
    subst hb
    exact hlt a ha
  · unfold d_
    rw[w_ hnone,Je hlt,toNat_succ h0,fu hl]
theorem QY (hi:¬0<i) (h0:0≤i) (h:kf (list.take i.toNat) l=true):r8 list i.toNat l:=
  ⟨h,fun x hx=>by
    have:i.toNat=0:=by omega
    rw[this] at hx
    simp at hx⟩
theorem QZ (hi:0<i) (h:kf (list.take i.toNat) l=true) (hx:list[(i-1).toNat]?=some x) (hlt:Go.Op.bytesLess x.aa l.aa=true):r8 list i.toNat l:=
  ⟨h,fun y hy=>by
    rw[Jc hi hx] at hy
    cases hy
    exact hlt⟩
theorem Jf (hl:list[i.toNat]?=some l) (h:kf (list.take i.toNat) l=false):false=gS list:=Jb hl fun hr=>by have h9:=hr.1;rw[h] at h9;cases h9
theorem Q0 (H:vh list i) (hi:¬i<list.length) (h1:¬(list.length:Int)=0) (h2:¬(list.length:Int)>32):true=gS list∧list.take i.toNat=list:=
  ⟨(C5.2 ⟨by omega,fun j l hl=>H.1 j l (by have:=(dL.1 hl).1;omega) hl⟩).symm,eR (by omega)⟩
end
theorem C7 (B:World) (h:av) (g:GH) (hg:bf g h) (aw:bh g) (I:Value) (s:aj) (J:ay g 5 bn I s) (h1:s.length≤1000000000):
  aA prog B 31 #[I] h g [] (fun X g' L'=>∃v0 O,X=v0∧aF 5 bn g' v0 s O∧g'=g∧L'=[O]):=by
 obtain⟨Y,Z,rfl⟩:=J.ai
 refine aA.aq func31 fun R hR=>At.go 1 1 []<|At.rg 2<|Op.ls 4 0 5 #[] (St.init hg) fun u a0 U=>Op.pg 2 [(3,vL (some ⟨u,0,none⟩) 0 0)] ?_
 refine At.rp 4 2 [(5,vL (some ⟨u,0,none⟩) 0 0),(6,vL Y s.length Z)] ?_
 have ab:aF 5 bn g (vL (some ⟨u,0,none⟩) 0 0) ([]:aj) [(u,Obj.cells #[] 5 (0,0))]:=aF.lit (by kernel_rfl) (by unfold maxLen;decide) (by kernel_rfl) Reads.nil
 obtain⟨a1,ad,ae⟩:=di.slice (P:=prog) (J.toH U.sub)
 refine Op.ap 5 6 28 28 7 5 1 bn (ys:=s) ab U 0 ae (by(simp only[b_,bL,cS,dD,gx];omega)) (fun _ _ _=>trivial) ad fun a3 am a4 V ar a5=>?_
 obtain⟨D,G,rfl⟩:=V.ai
 exact Op.pg 3 [(3,vL D ((([]:aj)++s).length) G)]<|At.gr 4 2 2 (vL D ((([]:aj)++s).length) G) (hR ar ⟨(vL D ((([]:aj)++s).length) G),am,rfl,dZ V (by simp),rfl,rfl⟩)
theorem C8 (B:World) (h:av) (g:GH) (hg:bf g h) (bj:bh g) (Z:Value) (a:aj) (ab:ay g 5 bn Z a) (ad:Value) (b:aj) (ae:ay g 5 bn ad b) (h1:a.length≤1000000000):
  aA prog B 14 #[Z,ad] h g [] (fun a3 g' L'=>a3=.bool (decide (a=b))∧g'=g∧L'=[]):=by
 obtain⟨am,I,rfl⟩:=ab.ai
 obtain⟨ar,J,rfl⟩:=ae.ai
 refine aA.aq func14 fun R hR=>?_
 have aw:=St.init hg
 refine At.go 1 1 []<|At.go 2 5 [(10,.bool ((a.length:Int) != (b.length:Int)))]<|At.fn ((a.length:Int)=(b.length:Int)) 10 3 5 (fun bk=>?_) fun bm=>?_
 ·exact At.gr 4 1 4 vF (hR aw ⟨(aS (by exact wZ ‹_›)),rfl,rfl⟩)
 refine At.go 6 1 [(5,vI 0)] ?_
 have a4:∀(m:Nat) (i:Int) (O:av) (hm:a.length-i.toNat<m) (h0:0≤i) (h2:i≤a.length) (ht:a.take i.toNat=b.take i.toNat) (u:St h g (aM []) g [] O),At (bS prog B 14 f14 R) [] 6 [(0,vL am a.length I),(1,vL ar b.length J),(5,vI i)] O:=by
  intro m;induction m with
  |zero=>intros;omega
  |succ m a5=>
   intro i O hm h0 h2 ht u
   refine At.go 7 4 [(14,.bool (decide (i<(a.length:Int))))]<|At.fd (i<(a.length:Int)) 14 8 13 (fun bo=>?_) fun a6=>?_
   ·refine At.dw (fun _=>False) [(0,true),(1,true),(2,true),(4,true),(5,true),(6,true),(3,true),(7,false),(8,true)]<|Op.px 2 [(17,vL am a.length I),(18,vI i)] ?_
    obtain⟨D,U⟩:=cD a i
    obtain⟨a7,a0,bs,bt,a8,a9,V⟩:=ay.br ab _ U
    cases a8
    refine Op.iq 28 5 1 1 a.length I 17 18 19 a7 a0 i ?_
    replace V:cut _ _ _=[.int .u8 (D.toNat:Int)]:=V
    refine Op.px 2 [(21,vL ar b.length J),(22,vI i)] ?_
    obtain⟨G,X⟩:=cD b i
    obtain⟨bb,a1,b3,b4,bc,bd,Y⟩:=ay.br ae _ X
    cases bc
    refine Op.iq 28 5 1 1 b.length J 21 22 23 bb a1 i ?_
    replace Y:cut _ _ _=[.int .u8 (G.toNat:Int)]:=Y
    refine Op.fQ (T:=5) (x:=19) (o:=a0+i.toNat*1) (d:=20) (n:=1) (v:=.int .u8 (D.toNat:Int)) (by kernel_rfl) (by kernel_rfl) (by kernel_rfl) id (u.sub _ _ a9) (cT V 0 rfl)<|Op.l1 5 23 24 (a1+i.toNat*1) (.int .u8 (G.toNat:Int)) (u.sub _ _ bd) ?_ (hv:=cT Y 0 rfl)
    refine Op.pg 9 [(25,.bool ((D.toNat:Int) != (G.toNat:Int)))]<|At.fn ((D.toNat:Int)=(G.toNat:Int)) 25 10 12 (fun be=>?_) fun bi=>?_
    ·exact At.gr 11 1 4 vF (hR u ⟨(aS (by exact w4 U X (I_ be))),rfl,rfl⟩)
    exact At.rp 3 1 [(15,vI i)]<|Op.vq 16 (i+1)<|Op.pg 6 [(5,vI (i+1))] (At.ke (a5 (i+1) _ (by omega) (by omega) (by omega) (by exact uP ht h0 U X (I9 bi)) u))
   exact At.gr 14 1 4 vT (hR u ⟨(aS (by exact w5 ‹_› a6 ht)),rfl,rfl⟩)
 exact At.ke (a4 _ 0 _ (bK _) (by omega) (by omega) (by rfl) aw)
theorem Q1 (B:World) (h:av) (g:GH) (hg:bf g h) (am:bh g) (a:af) (J:Value) (O:ay g 5 bn J a.Data) (b:af) (U:Value) (V:ay g 5 bn U b.Data) (h1:a.Data.length≤1000000000):
  aA prog B 52 #[.agg #[vS a.aa,J,vI a.ak,vI a.aE,vI a.Next,vI a.aO],.agg #[vS b.aa,U,vI b.ak,vI b.aE,vI b.Next,vI b.aO]] h g [] (fun ar g' L'=>ar=.bool (decide (a=b))∧g'=g∧L'=[]):=by
 obtain⟨X,Y,rfl⟩:=O.ai
 obtain⟨Z,ab,rfl⟩:=V.ai
 refine aA.aq func52 fun R hR=>At.rg 3<|Op.bx 2 56 0 #[vS a.aa,vL X a.Data.length Y,vI a.ak,vI a.aE,vI a.Next,vI a.aO] (St.init hg) fun G a0 aw=>Op.bx 3 56 1 #[vS b.aa,vL Z b.Data.length ab,vI b.ak,vI b.aE,vI b.Next,vI b.aO] aw fun I a1 D=>Op.pg 1 [] ?_
 refine At.rp 41 1 [(5,vP G)]<|Op.l1 9 5 6 0 (vS a.aa) (D.ag 1 rfl)<|Op.px 1 [(7,vP I)]<|Op.l1 9 7 8 0 (vS b.aa) (D.ag 0 rfl)<|Op.vl 9 (.bool ((a_ a.aa).toList==(a_ b.aa).toList)) (.bool (a.aa==b.aa)) (by rw[toList_mkS,toList_mkS]) ?_
 refine Op.px 1 [(10,.bool (a.aa==b.aa))]<|Op.wb (a.aa==b.aa) 10 (fun ad=>?_) fun ae=>?_
 ·replace ad:=eq_of_beq ad
  refine Op.px 1 [(11,vQ G 1)]<|Op.l1 28 11 12 1 (vL X a.Data.length Y) (D.ag 1 rfl)<|Op.px 1 [(13,vQ I 1)]<|Op.l1 28 13 14 1 (vL Z b.Data.length ab) (D.ag 0 rfl)<|Op.c1 15 (C8 _ _ _ D.sub am _ _ O _ _ V (by(try dsimp only)<;>omega)) D fun a3 u=>?_
  refine Op.px 2 [(17,.bool (decide (a.Data=b.Data)))]<|Op.wd (a.Data=b.Data) 17 (fun a4=>?_) fun a5=>?_
  ·refine Op.px 1 [(18,vQ G 2)]<|Op.l1 3 18 19 2 (vI a.ak) (u.ag 1 rfl)<|Op.px 1 [(20,vQ I 2)]<|Op.l1 3 20 21 2 (vI b.ak) (u.ag 0 rfl)<|Op.px 3 [(24,.bool (a.ak==b.ak))] ?_
   refine Op.wd (a.ak=b.ak) 24 (fun a6=>?_) fun a7=>?_
   ·refine Op.px 1 [(25,vQ G 3)]<|Op.l1 3 25 26 3 (vI a.aE) (u.ag 1 rfl)<|Op.px 1 [(27,vQ I 3)]<|Op.l1 3 27 28 3 (vI b.aE) (u.ag 0 rfl)<|Op.px 3 [(31,.bool (a.aE==b.aE))] ?_
    refine Op.wd (a.aE=b.aE) 31 (fun a8=>?_) fun a9=>?_
    ·refine Op.px 1 [(32,vQ G 4)]<|Op.l1 3 32 33 4 (vI a.Next) (u.ag 1 rfl)<|Op.px 1 [(34,vQ I 4)]<|Op.l1 3 34 35 4 (vI b.Next) (u.ag 0 rfl)<|Op.px 3 [(38,.bool (a.Next==b.Next))] ?_
     refine Op.wd (a.Next=b.Next) 38 (fun bb=>?_) fun bc=>?_
     ·exact Op.px 1 [(39,vQ G 5)]<|Op.l1 3 39 40 5 (vI a.aO) (u.ag 1 rfl)<|Op.px 1 [(41,vQ I 5)]<|Op.l1 3 41 42 5 (vI b.aO) (u.ag 0 rfl)<|Op.pr 2 4 (.bool (a.aO==b.aO)) (hR u.drop.drop ⟨(aS (by exact QV ‹_› ‹_› ‹_› ‹_› ‹_›)),rfl,rfl⟩)
     exact Op.pr 2 4 vF (hR u.drop.drop ⟨(aS (by exact xJ (.inr (.inr (.inr (.inr ‹_›)))))),rfl,rfl⟩)
    exact Op.pr 2 4 vF (hR u.drop.drop ⟨(aS (by exact xJ (.inr (.inr (.inr (.inl ‹_›)))))),rfl,rfl⟩)
   exact Op.pr 2 4 vF (hR u.drop.drop ⟨(aS (by exact xJ (.inr (.inr (.inl ‹_›))))),rfl,rfl⟩)
  exact Op.pr 2 4 vF (hR u.drop.drop ⟨(aS (by exact xJ (.inr (.inl ‹_›)))),rfl,rfl⟩)
 replace ae:=rj ae
 exact Op.pr 2 4 vF (hR D.drop.drop ⟨(aS (by exact xJ (.inl ‹_›))),rfl,rfl⟩)
theorem C9 (B:World) (h:av) (g:GH) (hg:bf g h) (a8:bh g) (ad:Value) (a:List af) (ae:ay g 56 kJ ad a) (am:Value) (b:List af) (ar:ay g 56 kJ am b) (h1:a.length≤1000000000) (hd:∀n∈a,n.Data.length≤1000000000):
  aA prog B 19 #[ad,am] h g [] (fun a9 g' L'=>a9=.bool (decide (a=b))∧g'=g∧L'=[]):=by
 obtain⟨aw,J,rfl⟩:=ae.ai
 obtain⟨a0,O,rfl⟩:=ar.ai
 refine aA.aq func19 fun R hR=>?_
 have a1:=St.init hg
 refine At.go 1 1 []<|At.go 2 5 [(10,.bool ((a.length:Int) != (b.length:Int)))]<|At.fn ((a.length:Int)=(b.length:Int)) 10 3 5 (fun b4=>?_) fun b5=>?_
 ·exact At.gr 4 1 4 vF (hR a1 ⟨(aS (by exact wZ ‹_›)),rfl,rfl⟩)
 refine At.go 6 1 [(5,vI 0)] ?_
 have bb:∀(m:Nat) (i:Int) (U:av) (hm:a.length-i.toNat<m) (h0:0≤i) (h2:i≤a.length) (ht:a.take i.toNat=b.take i.toNat) (G:St h g (aM []) g [] U),At (bS prog B 19 f19 R) [] 6 [(0,vL aw a.length J),(1,vL a0 b.length O),(5,vI i)] U:=by
  intro m;induction m with
  |zero=>intros;omega
  |succ m bc=>
   intro i U hm h0 h2 ht G
   refine At.go 7 4 [(14,.bool (decide (i<(a.length:Int))))]<|At.fd (i<(a.length:Int)) 14 8 13 (fun b6=>?_) fun bd=>?_
   ·refine At.dw (fun _=>False) [(0,true),(1,true),(2,true),(4,true),(5,true),(6,true),(3,true),(7,false),(8,false),(9,true)]<|Op.px 2 [(17,vL aw a.length J),(18,vI i)] ?_
    obtain⟨u,I⟩:=cD a i
    obtain⟨be,a3,b8,ca,bi,bj,V⟩:=ay.br ae _ I
    cases bi
    refine Op.iq 41 56 6 72 a.length J 17 18 19 be a3 i ?_
    obtain⟨cb,a4,V⟩:=V
    obtain⟨a37,bk,rfl⟩:=a4.ai
    refine Op.px 2 [(21,vL a0 b.length O),(22,vI i)] ?_
    obtain⟨D,X⟩:=cD b i
    obtain⟨bm,a5,ce,cf,bo,bs,Y⟩:=ay.br ar _ X
    cases bo
    refine Op.iq 41 56 6 72 b.length O 21 22 23 bm a5 i ?_
    obtain⟨ch,a6,Y⟩:=Y
    obtain⟨bt,b3,rfl⟩:=a6.ai
    refine Op.jg (T:=56) (x:=19) (o:=a3+i.toNat*6) (d:=20) (n:=6) (vs:=[vS u.aa,vL a37 u.Data.length bk,vI u.ak,vI u.aE,vI u.Next,vI u.aO]) (by kernel_rfl) (by kernel_rfl) (by kernel_rfl) id (G.sub _ _ bj) V rfl<|Op.la 56 23 24 (a5+i.toNat*6) 6 [vS D.aa,vL bt D.Data.length b3,vI D.ak,vI D.aE,vI D.Next,vI D.aO] (G.sub _ _ bs) ?_ (hv:=Y)
    refine Op.c1 25 (Q1 _ _ _ G.sub a8 u _ a4 D _ a6 (by((try dsimp only)<;>(exact hd _ (cL I))))) G fun ci a7=>Op.pg 9 [(26,.bool (!(decide (u=D))))]<|At.c_ (!(decide (u=D))) 26 10 12 (fun Z=>?_) fun ab=>?_
    ·replace Z:=kF (dm Z)
     exact At.gr 11 1 4 vF (hR a7 ⟨(aS (by exact w4 I X Z)),rfl,rfl⟩)
    replace ab:=iR (dn ab)
    exact At.rp 3 1 [(15,vI i)]<|Op.vq 16 (i+1)<|Op.pg 6 [(5,vI (i+1))] (At.ke (bc (i+1) _ (by omega) (by omega) (by omega) (by exact uP ht h0 I X ab) a7))
   exact At.gr 14 1 4 vT (hR G ⟨(aS (by exact w5 ‹_› bd ht)),rfl,rfl⟩)
 exact At.ke (bb _ 0 _ (bK _) (by omega) (by omega) (by rfl) a1)
end Go.Proofs.YtpacclkciilmpaaGreatDoor.Sw
