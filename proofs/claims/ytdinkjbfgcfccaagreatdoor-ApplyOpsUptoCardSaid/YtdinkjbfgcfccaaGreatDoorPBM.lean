/- Lemmas for laws of this seat. -/
import Derived.Test.YtdinkjbfgcfccaaGreatDoorPBL
import Derived.Lib.ConvBytes
import Derived.Laws.MakeOwn
set_option maxHeartbeats 4000000
namespace Go.Proofs.YtdinkjbfgcfccaaGreatDoor.Sw
open Go.Proofs.Tryz
set_option linter.unusedVariables false
set_option linter.unusedSimpArgs false
set_option linter.deprecated false
open Go
set_option linter.defProp false
def r9:=@Nat.le_of_lt_succ
def DA:=@List.takeWhile_cons_of_neg
def vk:=@List.foldl_append
def DB:=@List.Sublist.filter
theorem P4 (h:ay) (o:Obj) (f:Obj→Obj):(h.push o).modify h.size f=h.push (f o):=by
  apply BN
  intro k
  rw[yd,yc,yc]
  by_cases hk:h.size=k
  · subst hk;simp
  · rw[aL hk,aL (fun e=>hk e.symm),aL (fun e=>hk e.symm)]
section
variable {P:Program} {w:World} {t t' ty E:TypeId} {sz cK:Nat} {i:TypeInfo} {z:Value}
end
def p_ {α:Type} (T:TypeId) (d:Kd α) (g:GH) (v:Value) (xs:List α) (c:az):Prop:=
  ∃(b o cap q:Nat) (cur:Array Value) (rest:List α),v=.slice (some ⟨b,o,none⟩) xs.length cap∧c=[(b,.cells cur T (q,q+1))]∧cur.size≤q∧xs.length+rest.length=cap∧cap≤maxLen∧o+cap*d.sz≤cur.size∧Reads d g (xs++rest) (cut cur o (cap*d.sz))
def tQ {α:Type} (T:TypeId) (d:Kd α) (g:GH) (v:Value) (xs:List α) (c:az):Prop:=aH T d g v xs c∨p_ T d g v xs c
section
variable {α:Type} {d:Kd α} {g g':GH} {h h':ay} {T:TypeId} {v:Value} {xs:List α} {c:az}
theorem tQ.ak (hr:tQ T d g v xs c):∃ao cap,v=.slice ao xs.length cap:=by
  rcases hr with h|⟨b,o,cap,q,cur,rest,e1,_⟩
  · exact h.ak
  · exact⟨_,_,e1⟩
theorem tQ.toH {h0:ay} {g0:GH} {S0:Nat→Prop} {L:List az} (hr:tQ T d g v xs c) (s:St h0 g0 S0 g L h) (k:Nat) (hk:L[k]?=some c):h_ h g T d v xs:=by
  rcases hr with hr|⟨b,o,cap,q,cur,rest,rfl,rfl,hq,h1,h2,h3,h4⟩
  · exact hr.toH s k hk
  · exact⟨_,cap,rfl,by omega,fun _=>⟨b,o,cur,(T,_,_),rfl,s.ag k hk,yl h1 h4⟩⟩
end
theorem p_.freeze {α:Type} {d:Kd α} {g:GH} {h:ay} {T:TypeId} {v:Value} {xs:List α} {c:az} {h0:ay} {g0:GH} {S0:Nat→Prop} {L:List az} (hr:tQ T d g v xs c) (s:St h0 g0 S0 g (c::L) h):
    ∃g',St h0 g0 S0 g' L h∧aM g g'∧an g' T d v xs:=by
  rcases hr with hr|⟨b,o,cap,q,cur,rest,rfl,rfl,hq,h1,h2,h3,h4⟩
  · exact hr.freeze s
  · obtain⟨u,hle⟩:=s.freeze
    exact⟨_,u,hle,_,cap,rfl,by omega,fun _=>⟨b,o,cur,(T,_,_),rfl,iK _ _,(yl h1 h4).mono hle⟩⟩
section
variable {C:ff} {ds:List Deferred} {i j:Nat} {r:ay} {M:Nat→Prop} {Ls:List (Nat×Bool)} {e:Env} {h:ay}
variable {h0:ay} {g0:GH} {S0:Nat→Prop} {g:GH} {L:List az}
theorem Op.toBytes {dst:Nat} {T S E:TypeId} {x:Operand} {l:aj} (ho:c_ C i j e=some (some dst,.convert S T x)) (hS:C.P.underlying S=some .string) (hT:C.P.underlying T=some (.slice E)) (hE:C.P.underlying E=some (.int .u8))
    (hx:e.ev x=.string (br l)) (hl:l.length≤140737488355328) (s:St h0 g0 S0 g L h)
    (K:∀v c h',tQ E a_ g v l c→St h0 g0 S0 g (c::L) h'→Op C ds i r M Ls ((dst,v)::e) h'):Op C ds i r M ((j,false)::Ls) e h:=by
  obtain⟨o',h1,h2,h3⟩:=gm ho
  refine Op.run h1 (R:=fun D h'=>∃v c,D=.value v∧tQ E a_ g v l c∧St h0 g0 S0 g (c::L) h'∧(dB r M h→dB r M h')) ?_ ?_
  · intro w is
    have hh:=is.heap
    have hsz:(br l).size=l.length:=pE l
    have hrun:=Lib.run_convert_string_bytes (P:=C.P) w S T E (br l) hS hT hE
    have hheap:(Lib.bytesWorld w E (br l)).heap=w.heap.push (.cells (Lib.bytesCells w E (br l)) E ((Lib.bytesCells w E (br l)).size,(Lib.bytesCells w E (br l)).size+1)):=by
      simp only[Lib.bytesWorld,World.freeze,World.alloc,World.drew]
      rw[aL (by decide)]
      dsimp only
      rw[P4]
      simp
    have O:=wB w l.length 0 E
    have G:=Bp w l.length 0 E (by unfold maxLen;omega)
    have u:(Lib.bytesCells w E (br l)).size=grownCap w l.length 0 E:=by
      unfold Lib.bytesCells
      rw[Bi,BI,Array.size_replicate,hsz]
      show(br l).size+_=_
      omega
    refine⟨_,Lib.bytesWorld w E (br l),?_,⟨rfl,?_,?_,?_⟩,_,[(w.heap.size,.cells (Lib.bytesCells w E (br l)) E ((Lib.bytesCells w E (br l)).size,(Lib.bytesCells w E (br l)).size+1))],rfl,.inr ⟨w.heap.size,0,grownCap w l.length 0 E,_,_,List.replicate (grownCap w l.length 0 E-l.length) 0,rfl,rfl,gF _,by simp;omega,G,by rw[u];simp[a_],?_⟩,?_,?_⟩
    · unfold eN execOp
      simp only[h3,hx,Sem.run_bind,hrun,hsz,Result.andThen_ok,Sem.run_pure]
    · exact is.os
    · exact is.tape
    · exact is.output
    · have e1:cut (Lib.bytesCells w E (br l)) 0 (grownCap w l.length 0 E*a_.sz)=(l.map fun b=>Value.int .u8 b.toNat)++List.replicate (grownCap w l.length 0 E-l.length) (.int .u8 0):=by
        unfold cut
        rw[wu,fF (by rw[q6,u];simp[a_])]
        unfold Lib.bytesCells
        rw[hsz,Bj,Array.toList_map,Array.toList_replicate]
        rfl
      rw[e1]
      refine(Fi g l).append ?_
      generalize grownCap w l.length 0 E-l.length=q
      induction q with
      |zero=>rfl
      |succ q ih=>rw[wv,wv];exact⟨[.int .u8 0],_,rfl,rfl,ih⟩
    · rw[hheap,hh];exact s.alloc _
    · intro I;rw[hheap,hh];exact dB.push _ I
  · rintro _ _ ⟨v,c,rfl,hrow,hst,J⟩
    refine⟨v,rfl,J,?_⟩
    rw[h2]
    exact K v c _ hrow hst
end
set_option maxRecDepth 100000
def Jg (g:GH) (a:Bool) (v:Value):Prop:=v=.bool a
abbrev oQ:Array Value:=#[vF,vF,vF,vF,vF,vF,vF]
abbrev vm:Array Value:=#[vT,vF,vF,vF,vF,vT,vF]
abbrev fE:Array Value:=#[vI 0,vS [],vN,vI 0,vI 0,vF,vF,vF,vN]
abbrev jW:Value:=(.tuple #[vN,vI 130])
abbrev qP:List Value:=[.agg #[vI 0,vS [],vN,vI 0,vI 0,vF,vF,vF,vN],vF]
abbrev DC:List Value:=[.agg #[vI 0,vS [],vN,vI 0,vI 0,vF,vF,vF,vN],vI 130]
abbrev qQ:Array Value:=#[vS [],vN,vI 0,vI 0,vI 0,vI 0]
abbrev lp:Array Value:=#[vI 0,vI 0,vS []]
abbrev dG:Array Value:=#[vI 0,vI 0,vI 0,vS [],vN,vI 0,vI 0,vI 0,vI 0,vN,vN]
abbrev kH:List Value:=[.agg #[vI 0,vI 0,vI 0,vS [],vN,vI 0,vI 0,vI 0,vI 0,vN,vN],vI 130]
theorem P5 (B:World) (h:ay) (g:GH) (hg:bu g h) (am:bz g) (kind:Int):
  aG prog B 60 #[vI kind] h g [] (fun ab g' L'=>ab=.tuple #[.agg #[.bool ((bE kind).ec),.bool ((bE kind).data),.bool ((bE kind).jI),.bool ((bE kind).dF),.bool ((bE kind).make),.bool ((bE kind).watch),.bool ((bE kind).ops)],.bool (lR kind)]∧g'=g∧L'=[]):=by
 refine aG.aq func60 fun R hR=>At.rg 2<|Op.al 2 120 oQ (St.init hg) fun ar aw u=>Op.pg 1 []<|At.go 2 1 [(4,vI kind)] ?_
 refine At.go 3 2 [(5,.bool (kind==1))]<|At.fd (kind=1) 5 4 6 (fun a0=>?_) fun a1=>?_
 ·exact At.rp 3 1 [(7,.agg #[vF,vF,vF,vT,vF,vF,vF])]<|Op.sg 120 2 7 0 0 #[vF,vF,vF,vT,vF,vF,vF] u zt fun a3 D=>Op.pg 5 [(3,vT)]<|At.rn f60 [.agg #[vF,vF,vF,vT,vF,vF,vF],vT] [.cell 2 120,.tmp 3] ⟨⟨_,_,rfl,cq (n:=7) (by kernel_rfl) (D.ag 0 rfl) (by kernel_rfl) rfl⟩,rfl,trivial⟩ (hR D.drop ⟨bA (by(subst_vars;rfl)) (bn (by(subst_vars;rfl))),rfl,rfl⟩)
 refine At.go 7 2 [(8,.bool (kind==2))]<|At.fd (kind=2) 8 9 8 (fun ad=>?_) fun a4=>?_
 ·refine At.kT 8 ad<|At.bT 8 10<|At.rp 3 1 [(11,.agg oQ)]<|Op.sg 120 2 11 0 0 oQ u zt fun a5 G=>Op.pg 5 [(3,vT)] ?_
  exact At.rn f60 [.agg oQ,vT] [.cell 2 120,.tmp 3] ⟨⟨_,_,rfl,cq (n:=7) (by kernel_rfl) (G.ag 0 rfl) (by kernel_rfl) rfl⟩,rfl,trivial⟩ (hR G.drop ⟨bA (by(subst_vars;rfl)) (bn (by(subst_vars;rfl))),rfl,rfl⟩)
 refine At.go 9 2 [(8,.bool (kind==9))]<|At.fd (kind=9) 8 10 12 (fun a6=>?_) fun a7=>?_
 ·exact At.rp 3 1 [(11,.agg oQ)]<|Op.sg 120 2 11 0 0 oQ u zt fun a8 I=>Op.pg 5 [(3,vT)]<|At.rn f60 [.agg oQ,vT] [.cell 2 120,.tmp 3] ⟨⟨_,_,rfl,cq (n:=7) (by kernel_rfl) (I.ag 0 rfl) (by kernel_rfl) rfl⟩,rfl,trivial⟩ (hR I.drop ⟨bA (by(subst_vars;rfl)) (bn (by(subst_vars;rfl))),rfl,rfl⟩)
 refine At.go 13 2 [(12,.bool (kind==3))]<|At.fd (kind=3) 12 14 16 (fun a9=>?_) fun bb=>?_
 ·exact At.rp 3 1 [(14,.agg #[vT,vT,vF,vF,vT,vF,vF])]<|Op.sg 120 2 14 0 0 #[vT,vT,vF,vF,vT,vF,vF] u zt fun bc J=>Op.pg 5 [(3,vT)]<|At.rn f60 [.agg #[vT,vT,vF,vF,vT,vF,vF],vT] [.cell 2 120,.tmp 3] ⟨⟨_,_,rfl,cq (n:=7) (by kernel_rfl) (J.ag 0 rfl) (by kernel_rfl) rfl⟩,rfl,trivial⟩ (hR J.drop ⟨bA (by(subst_vars;rfl)) (bn (by(subst_vars;rfl))),rfl,rfl⟩)
 refine At.go 17 2 [(15,.bool (kind==4))]<|At.fd (kind=4) 15 18 20 (fun bd=>?_) fun be=>?_
 ·exact At.rp 3 1 [(17,.agg #[vT,vF,vT,vF,vF,vF,vF])]<|Op.sg 120 2 17 0 0 #[vT,vF,vT,vF,vF,vF,vF] u zt fun bi O=>Op.pg 5 [(3,vT)]<|At.rn f60 [.agg #[vT,vF,vT,vF,vF,vF,vF],vT] [.cell 2 120,.tmp 3] ⟨⟨_,_,rfl,cq (n:=7) (by kernel_rfl) (O.ag 0 rfl) (by kernel_rfl) rfl⟩,rfl,trivial⟩ (hR O.drop ⟨bA (by(subst_vars;rfl)) (bn (by(subst_vars;rfl))),rfl,rfl⟩)
 refine At.go 21 2 [(18,.bool (kind==5))]<|At.fd (kind=5) 18 22 24 (fun bj=>?_) fun bk=>?_
 ·exact At.rp 3 1 [(20,.agg #[vT,vT,vT,vF,vF,vF,vF])]<|Op.sg 120 2 20 0 0 #[vT,vT,vT,vF,vF,vF,vF] u zt fun bm U=>Op.pg 5 [(3,vT)]<|At.rn f60 [.agg #[vT,vT,vT,vF,vF,vF,vF],vT] [.cell 2 120,.tmp 3] ⟨⟨_,_,rfl,cq (n:=7) (by kernel_rfl) (U.ag 0 rfl) (by kernel_rfl) rfl⟩,rfl,trivial⟩ (hR U.drop ⟨bA (by(subst_vars;rfl)) (bn (by(subst_vars;rfl))),rfl,rfl⟩)
 refine At.go 25 2 [(21,.bool (kind==6))]<|At.fd (kind=6) 21 27 26 (fun ae=>?_) fun bo=>?_
 ·refine At.kT 21 ae<|At.bT 21 28<|At.rp 3 1 [(24,.agg vm)]<|Op.sg 120 2 24 0 0 vm u zt fun bs V=>Op.pg 5 [(3,vT)] ?_
  exact At.rn f60 [.agg vm,vT] [.cell 2 120,.tmp 3] ⟨⟨_,_,rfl,cq (n:=7) (by kernel_rfl) (V.ag 0 rfl) (by kernel_rfl) rfl⟩,rfl,trivial⟩ (hR V.drop ⟨bA (by(subst_vars;rfl)) (bn (by(subst_vars;rfl))),rfl,rfl⟩)
 refine At.go 27 2 [(21,.bool (kind==7))]<|At.fd (kind=7) 21 28 30 (fun bt=>?_) fun b3=>?_
 ·exact At.rp 3 1 [(24,.agg vm)]<|Op.sg 120 2 24 0 0 vm u zt fun b4 X=>Op.pg 5 [(3,vT)]<|At.rn f60 [.agg vm,vT] [.cell 2 120,.tmp 3] ⟨⟨_,_,rfl,cq (n:=7) (by kernel_rfl) (X.ag 0 rfl) (by kernel_rfl) rfl⟩,rfl,trivial⟩ (hR X.drop ⟨bA (by(subst_vars;rfl)) (bn (by(subst_vars;rfl))),rfl,rfl⟩)
 refine At.go 31 2 [(25,.bool (kind==8))]<|At.fd (kind=8) 25 32 34 (fun b5=>?_) fun b6=>?_
 ·exact At.rp 3 1 [(27,.agg #[vF,vF,vF,vF,vF,vF,vT])]<|Op.sg 120 2 27 0 0 #[vF,vF,vF,vF,vF,vF,vT] u zt fun b8 Y=>Op.pg 5 [(3,vT)]<|At.rn f60 [.agg #[vF,vF,vF,vF,vF,vF,vT],vT] [.cell 2 120,.tmp 3] ⟨⟨_,_,rfl,cq (n:=7) (by kernel_rfl) (Y.ag 0 rfl) (by kernel_rfl) rfl⟩,rfl,trivial⟩ (hR Y.drop ⟨bA (by(subst_vars;rfl)) (bn (by(subst_vars;rfl))),rfl,rfl⟩)
 exact At.rp 3 1 [(28,.agg oQ)]<|Op.sg 120 2 28 0 0 oQ u zt fun ca Z=>Op.pg 35 [(3,vF)]<|At.rn f60 [.agg oQ,vF] [.cell 2 120,.tmp 3] ⟨⟨_,_,rfl,cq (n:=7) (by kernel_rfl) (Z.ag 0 rfl) (by kernel_rfl) rfl⟩,rfl,trivial⟩ (hR Z.drop ⟨bA (by(rw[Pq (Iw ‹_› ‹_› ‹_› ‹_› ‹_› ‹_› ‹_› ‹_› ‹_›)])) (bn (by exact Iw ‹_› ‹_› ‹_› ‹_› ‹_› ‹_› ‹_› ‹_› ‹_› |> Eq.symm)),rfl,rfl⟩)
theorem P6 (B:World) (h:ay) (g:GH) (hg:bu g h) (a4:bz g) (V:Value) (l:List aR) (X:an g 25 dy V l) (f:Nat) (q:aR→Bool) (Y:aR→Prop) (hf:eg prog f) (hq:∀(B:World) (h:ay) (g:GH),bu g h→bz g→∀(x:aR) (Z:Value) (bk:an g 5 a_ Z x.Data) (ab:Value) (bm:an g 25 dy ab x.aB),Y x→aG prog B f #[.agg #[.int .i64 x.ah,.string (br x.af),Z,.int .i64 x.ai,.int .i64 x.aI,.bool x.aV,.bool x.aK,.bool x.au,ab]] h g [] (fun v g' L'=>v=.bool (q x)∧g'=g∧L'=[])) (hall:∀x∈l,Y x) (hlen:l.length≤1000000000):
  aG prog B 83 #[V,.func (.func f) #[] #[]] h g [] (fun a5 g' L'=>a5=.int .i64 (ek q l)∧g'=g∧L'=[]):=by
 obtain⟨ad,O,rfl⟩:=X.ak
 refine aG.aq func83 fun R hR=>At.go 1 1 []<|At.go 2 3 [(7,vI (l.length:Int)),(8,vI 0)] ?_
 have a6:∀(m:Nat) (i:Int) (U:ay) (hm:l.length-i.toNat<m) (h0:0≤i) (h1:i≤l.length) (I:findAt q l i) (D:St h g (aS []) g [] U),At (bP prog B 83 f83 R) [] 2 [(0,vL ad l.length O),(1,.func (.func f) #[] #[]),(7,vI (l.length:Int)),(8,vI i)] U:=by
  intro m;induction m with
  |zero=>intros;omega
  |succ m a7=>
   intro i U hm h0 h1 I D
   refine At.go 3 1 [(9,.bool (decide (i<(l.length:Int))))]<|At.fd (i<(l.length:Int)) 9 4 10 (fun bo=>?_) fun a8=>?_
   ·refine At.go 5 2 [(5,vI i)]<|At.rp 6 3 [(11,.func (.func f) #[] #[]),(12,vL ad l.length O),(13,vI i)] ?_
    obtain⟨u,J⟩:=bW l i
    obtain⟨a9,ae,bs,bt,bb,bc,G⟩:=an.bB X _ J
    cases bb
    refine Op.iq 23 25 9 96 l.length O 12 13 14 a9 ae i ?_
    replace G:=k9.1 G
    obtain⟨b3,b4,am,ar,G⟩:=G
    obtain⟨a37,aw,rfl⟩:=am.ak
    obtain⟨a0,a1,rfl⟩:=ar.ak
    refine Op.la 25 14 15 (ae+i.toNat*9) 9 [vI u.ah,vS u.af,vL a37 u.Data.length aw,vI u.ai,vI u.aI,.bool u.aV,.bool u.aK,.bool u.au,vL a0 u.aB.length a1] (D.sub _ _ bc) ?_ (hv:=G)
    refine Op.cv (some 16) 11 #[15] #[25] f #[] #[] [] [] #[.agg #[vI u.ah,vS u.af,vL a37 u.Data.length aw,vI u.ai,vI u.aI,.bool u.aV,.bool u.aK,.bool u.au,vL a0 u.aB.length a1]] hf (by kernel_rfl) D (hq _ _ _ D.sub a4 u _ am _ ar (by((try dsimp only)<;>(exact hall _ (bY J))))) (fun _ _ h=>absurd h (gP _)) ?_
    rintro _ bd _ b5 be a3 ⟨rfl,b6,rfl⟩;subst bd;clear be
    refine Op.gt 6<|At.cW (q u) 16 7 9 (fun bi=>?_) fun bj=>?_
    ·exact At.gr 8 2 4 (vI i) (hR a3 ⟨(bg (by exact td I J bi)),rfl,rfl⟩)
    exact At.rg 2<|Op.vq 18 (i+1)<|Op.pg 2 [(8,vI (i+1))] (At.ke (a7 (i+1) _ (by omega) (by omega) (by omega) (by exact uO I h0 J bj) a3))
   exact At.gr 11 1 4 (vI (-1)) (hR D ⟨(bg (by exact tf I a8)),rfl,rfl⟩)
 exact At.ke (a6 _ 0 _ (bG _) (by omega) (by omega) (by exact uN _ _) (St.init hg))
theorem P7 (B:World) (h:ay) (g:GH) (hg:bu g h) (U:bz g) (D:Value) (l:List aR) (G:an g 25 dy D l) (f:Nat) (q:aR→Bool) (u:aR→Prop) (hf:eg prog f) (hq:∀(B:World) (h:ay) (g:GH),bu g h→bz g→∀(x:aR) (I:Value) (ab:an g 5 a_ I x.Data) (J:Value) (ad:an g 25 dy J x.aB),u x→aG prog B f #[.agg #[.int .i64 x.ah,.string (br x.af),I,.int .i64 x.ai,.int .i64 x.aI,.bool x.aV,.bool x.aK,.bool x.au,J]] h g [] (fun v g' L'=>v=.bool (q x)∧g'=g∧L'=[])) (hall:∀x∈l,u x) (hlen:l.length≤1000000000):
  aG prog B 61 #[D,.func (.func f) #[] #[]] h g [] (fun V g' L'=>V=.bool (l.any q)∧g'=g∧L'=[]):=by
 obtain⟨X,Y,rfl⟩:=G.ak
 refine aG.aq func61 fun R hR=>?_
 have O:=St.init hg
 exact At.go 1 1 []<|At.rp 5 2 [(5,vL X l.length Y),(6,.func (.func f) #[] #[])]<|Op.c1 7 (P6 _ _ _ O.sub U _ _ G f q u hf hq (by(try dsimp only)<;>assumption) (by(try dsimp only)<;>assumption)) O fun ae Z=>Op.pr 2 4 (.bool (decide ((ek q l)≥0))) (hR Z ⟨(bn (by exact uM _ _)),rfl,rfl⟩)
theorem P8 (mr:Nat) (ae:∀(B:World) (h:ay) (g:GH) (hg:bu g h) (G:bz g) (o:aR) (I:Value) (aw:an g 5 a_ I o.Data) (J:Value) (a0:an g 25 dy J o.aB) (inner:Bool) (hs:cU o≤1000000000) (am:cU o<mr),aG prog B 26 #[.agg #[vI o.ah,vS o.af,I,vI o.ai,vI o.aI,.bool o.aV,.bool o.aK,.bool o.au,J],.bool inner] h g [] (fun u g' L'=>u=.bool (dh inner o)∧g'=g∧L'=[])) (B:World) (h:ay) (g:GH) (hg:bu g h) (G:bz g) (x:aR) (O:Value) (U:an g 5 a_ O x.Data) (V:Value) (X:an g 25 dy V x.aB) (hs:cU x≤1000000000) (am:cU x<mr):
  aG prog B 62 #[.agg #[vI x.ah,vS x.af,O,vI x.ai,vI x.aI,.bool x.aV,.bool x.aK,.bool x.au,V]] h g [] (fun u g' L'=>u=.bool (!dh true x)∧g'=g∧L'=[]):=by
 obtain⟨Y,Z,rfl⟩:=U.ak
 obtain⟨ab,ad,rfl⟩:=X.ak
 refine aG.aq func62 fun R hR=>At.rg 2<|Op.bx 1 25 0 #[vI x.ah,vS x.af,vL Y x.Data.length Z,vI x.ai,vI x.aI,.bool x.aV,.bool x.aK,.bool x.au,vL ab x.aB.length ad] (St.init hg) fun a1 a3 D=>Op.pg 1 []<|At.rg 4 ?_
 exact Op.la 25 1 3 0 9 [vI x.ah,vS x.af,vL Y x.Data.length Z,vI x.ai,vI x.aI,.bool x.aV,.bool x.aK,.bool x.au,vL ab x.aB.length ad] (D.ag 0 rfl)<|Op.c1 4 (ae _ _ _ D.sub G x _ U _ X true (by(try dsimp only)<;>omega) ‹_›) D fun a4 ar=>Op.pr 2 2 (.bool (!(dh true x))) (hR ar.drop ⟨(bn (by rfl)),rfl,rfl⟩)
theorem P9 (mr:Nat):∀(B:World) (h:ay) (g:GH) (hg:bu g h) (ar:bz g) (o:aR) (aw:Value) (bj:an g 5 a_ aw o.Data) (a0:Value) (a1:an g 25 dy a0 o.aB) (inner:Bool) (hs:cU o≤1000000000) (bk:cU o<mr),aG prog B 26 #[.agg #[vI o.ah,vS o.af,aw,vI o.ai,vI o.aI,.bool o.aV,.bool o.aK,.bool o.au,a0],.bool inner] h g [] (fun du g' L'=>du=.bool (dh inner o)∧g'=g∧L'=[]):=by
 induction mr with
 |zero=>intros;omega
 |succ mr dv=>
 intro B h g hg ar o aw bj a0 a1 inner hs bk
 obtain⟨O,U,rfl⟩:=bj.ak
 obtain⟨I,J,rfl⟩:=a1.ak
 refine aG.aq func26 fun R hR=>At.rg 2<|Op.bx 2 25 0 #[vI o.ah,vS o.af,vL O o.Data.length U,vI o.ai,vI o.aI,.bool o.aV,.bool o.aK,.bool o.au,vL I o.aB.length J] (St.init hg) fun u ea a3=>Op.pg 1 []<|At.rp 9 1 [(8,vP u)] ?_
 refine Op.l1 3 8 9 0 (vI o.ah) (a3.ag 0 rfl)<|Op.c1 10 (P5 _ _ _ a3.sub ar o.ah) a3 fun eb dC=>Op.px 3 [(11,.agg #[.bool ((bE o.ah).ec),.bool ((bE o.ah).data),.bool ((bE o.ah).jI),.bool ((bE o.ah).dF),.bool ((bE o.ah).make),.bool ((bE o.ah).watch),.bool ((bE o.ah).ops)]),(12,.bool (lR o.ah))]<|Op.al 5 120 oQ dC fun D ed dE=>Op.sg 120 5 11 0 0 #[.bool ((bE o.ah).ec),.bool ((bE o.ah).data),.bool ((bE o.ah).jI),.bool ((bE o.ah).dF),.bool ((bE o.ah).make),.bool ((bE o.ah).watch),.bool ((bE o.ah).ops)] dE zt fun ee X=>?_
 refine Op.pg 2 [(6,.bool (lR o.ah))] ?_
 have a4:∀(m:Nat) (a5:ay) (hm:0<m) (hA:rA o inner=true) (Y:St h g (aS []) g [[(D,Obj.cells #[.bool ((bE o.ah).ec),.bool ((bE o.ah).data),.bool ((bE o.ah).jI),.bool ((bE o.ah).dF),.bool ((bE o.ah).make),.bool ((bE o.ah).watch),.bool ((bE o.ah).ops)] 120 (0,0))],[(u,Obj.cells #[vI o.ah,vS o.af,vL O o.Data.length U,vI o.ai,vI o.aI,.bool o.aV,.bool o.aK,.bool o.au,vL I o.aB.length J] 25 (0,0))]] a5),At (bP prog B 26 f26 R) [] 8 [(2,vP u),(5,vP D)] a5:=by
  intro m;induction m with
  |zero=>intros;omega
  |succ m ef=>
   intro a5 hm hA Y
   have bm:∀(m:Nat) (a6:ay) (hm:0<m) (bo:nB o=true) (Z:St h g (aS []) g [[(D,Obj.cells #[.bool ((bE o.ah).ec),.bool ((bE o.ah).data),.bool ((bE o.ah).jI),.bool ((bE o.ah).dF),.bool ((bE o.ah).make),.bool ((bE o.ah).watch),.bool ((bE o.ah).ops)] 120 (0,0))],[(u,Obj.cells #[vI o.ah,vS o.af,vL O o.Data.length U,vI o.ai,vI o.aI,.bool o.aV,.bool o.aK,.bool o.au,vL I o.aB.length J] 25 (0,0))]] a6),At (bP prog B 26 f26 R) [] 10 [(2,vP u),(5,vP D)] a6:=by
    intro m;induction m with
    |zero=>intros;omega
    |succ m eh=>
     intro a6 hm bo Z
     have bs:∀(m:Nat) (a7:ay) (hm:0<m) (bt:mW o=true) (ab:St h g (aS []) g [[(D,Obj.cells #[.bool ((bE o.ah).ec),.bool ((bE o.ah).data),.bool ((bE o.ah).jI),.bool ((bE o.ah).dF),.bool ((bE o.ah).make),.bool ((bE o.ah).watch),.bool ((bE o.ah).ops)] 120 (0,0))],[(u,Obj.cells #[vI o.ah,vS o.af,vL O o.Data.length U,vI o.ai,vI o.aI,.bool o.aV,.bool o.aK,.bool o.au,vL I o.aB.length J] 25 (0,0))]] a7),At (bP prog B 26 f26 R) [] 12 [(2,vP u),(5,vP D)] a7:=by
      intro m;induction m with
      |zero=>intros;omega
      |succ m ej=>
       intro a7 hm bt ab
       have b3:∀(m:Nat) (a8:ay) (hm:0<m) (b4:mX o=true) (ad:St h g (aS []) g [[(D,Obj.cells #[.bool ((bE o.ah).ec),.bool ((bE o.ah).data),.bool ((bE o.ah).jI),.bool ((bE o.ah).dF),.bool ((bE o.ah).make),.bool ((bE o.ah).watch),.bool ((bE o.ah).ops)] 120 (0,0))],[(u,Obj.cells #[vI o.ah,vS o.af,vL O o.Data.length U,vI o.ai,vI o.aI,.bool o.aV,.bool o.aK,.bool o.au,vL I o.aB.length J] 25 (0,0))]] a8),At (bP prog B 26 f26 R) [] 14 [(2,vP u),(5,vP D)] a8:=by
        intro m;induction m with
        |zero=>intros;omega
        |succ m em=>
         intro a8 hm b4 ad
         have b5:∀(m:Nat) (a9:ay) (hm:0<m) (b6:mY o=true) (V:St h g (aS []) g [[(D,Obj.cells #[.bool ((bE o.ah).ec),.bool ((bE o.ah).data),.bool ((bE o.ah).jI),.bool ((bE o.ah).dF),.bool ((bE o.ah).make),.bool ((bE o.ah).watch),.bool ((bE o.ah).ops)] 120 (0,0))],[(u,Obj.cells #[vI o.ah,vS o.af,vL O o.Data.length U,vI o.ai,vI o.aI,.bool o.aV,.bool o.aK,.bool o.au,vL I o.aB.length J] 25 (0,0))]] a9),At (bP prog B 26 f26 R) [] 16 [(2,vP u),(5,vP D)] a9:=by
          intro m;induction m with
          |zero=>intros;omega
          |succ m en=>
           intro a9 hm b6 V
           have b8:∀(m:Nat) (bb:ay) (hm:0<m) (ca:lS o=true) (ae:St h g (aS []) g [[(D,Obj.cells #[.bool ((bE o.ah).ec),.bool ((bE o.ah).data),.bool ((bE o.ah).jI),.bool ((bE o.ah).dF),.bool ((bE o.ah).make),.bool ((bE o.ah).watch),.bool ((bE o.ah).ops)] 120 (0,0))],[(u,Obj.cells #[vI o.ah,vS o.af,vL O o.Data.length U,vI o.ai,vI o.aI,.bool o.aV,.bool o.aK,.bool o.au,vL I o.aB.length J] 25 (0,0))]] bb),At (bP prog B 26 f26 R) [] 18 [(2,vP u),(5,vP D)] bb:=by
            intro m;induction m with
            |zero=>intros;omega
            |succ m ep=>
             intro bb hm ca ae
             have cb:∀(m:Nat) (bc:ay) (hm:0<m) (ce:mZ o=true) (am:St h g (aS []) g [[(D,Obj.cells #[.bool ((bE o.ah).ec),.bool ((bE o.ah).data),.bool ((bE o.ah).jI),.bool ((bE o.ah).dF),.bool ((bE o.ah).make),.bool ((bE o.ah).watch),.bool ((bE o.ah).ops)] 120 (0,0))],[(u,Obj.cells #[vI o.ah,vS o.af,vL O o.Data.length U,vI o.ai,vI o.aI,.bool o.aV,.bool o.aK,.bool o.au,vL I o.aB.length J] 25 (0,0))]] bc),At (bP prog B 26 f26 R) [] 20 [(2,vP u),(5,vP D)] bc:=by
              intro m;induction m with
              |zero=>intros;omega
              |succ m er=>
               intro bc hm ce am
               have cf:∀(m:Nat) (bd:ay) (hm:0<m) (ch:mw o=true) (G:St h g (aS []) g [[(D,Obj.cells #[.bool ((bE o.ah).ec),.bool ((bE o.ah).data),.bool ((bE o.ah).jI),.bool ((bE o.ah).dF),.bool ((bE o.ah).make),.bool ((bE o.ah).watch),.bool ((bE o.ah).ops)] 120 (0,0))],[(u,Obj.cells #[vI o.ah,vS o.af,vL O o.Data.length U,vI o.ai,vI o.aI,.bool o.aV,.bool o.aK,.bool o.au,vL I o.aB.length J] 25 (0,0))]] bd),At (bP prog B 26 f26 R) [] 24 [(2,vP u)] bd:=by
                intro m;induction m with
                |zero=>intros;omega
                |succ m et=>
                 intro bd hm ch G
                 refine At.rp 4 1 [(89,vQ u 3)]<|Op.l1 3 89 90 3 (vI o.ai) (G.ag 1 rfl)<|Op.pg 25 [(88,.bool (decide (o.ai<((-1):Int))))]<|At.fd (o.ai<((-1):Int)) 88 33 26 (fun dT=>?_) fun ex=>?_
                 ·exact At.kT 88 dT<|At.bT 88 34<|At.gr 7 1 4 vF (hR G.drop.drop ⟨(bn (by exact(xz (xA (by omega))).symm)),rfl,rfl⟩)
                 refine At.rp 4 1 [(92,vQ u 3)]<|Op.l1 3 92 93 3 (vI o.ai) (G.ag 1 rfl)<|Op.pg 27 [(88,.bool (decide (o.ai≥1099511627776)))]<|At.fd (o.ai≥1099511627776) 88 33 28 (fun d0=>?_) fun eA=>?_
                 ·exact At.kT 88 d0<|At.bT 88 34<|At.gr 7 1 4 vF (hR G.drop.drop ⟨(bn (by exact(xz (xA (by omega))).symm)),rfl,rfl⟩)
                 refine At.rp 4 1 [(95,vQ u 4)]<|Op.l1 3 95 96 4 (vI o.aI) (G.ag 1 rfl)<|Op.pg 29 [(88,.bool (decide (o.aI<0)))]<|At.fd (o.aI<0) 88 33 30 (fun d1=>?_) fun eB=>?_
                 ·exact At.kT 88 d1<|At.bT 88 34<|At.gr 7 1 4 vF (hR G.drop.drop ⟨(bn (by exact(xz (xA (by omega))).symm)),rfl,rfl⟩)
                 refine At.rp 4 1 [(98,vQ u 4)]<|Op.l1 3 98 99 4 (vI o.aI) (G.ag 1 rfl)<|Op.pg 31 [(88,.bool (decide (o.aI≥1099511627776)))]<|At.fd (o.aI≥1099511627776) 88 33 32 (fun d2=>?_) fun eI=>?_
                 ·exact At.kT 88 d2<|At.bT 88 34<|At.gr 7 1 4 vF (hR G.drop.drop ⟨(bn (by exact(xz (xA (by omega))).symm)),rfl,rfl⟩)
                 refine At.rp 5 1 [(101,vQ u 8)]<|Op.l1 23 101 102 8 (vL I o.aB.length J) (G.ag 1 rfl)<|Op.pg 33 [(88,.bool (decide ((o.aB.length:Int)>4)))]<|At.fd ((o.aB.length:Int)>4) 88 34 36 (fun eJ=>?_) fun eK=>?_
                 ·exact At.gr 7 1 4 vF (hR G.drop.drop ⟨(bn (by exact(xz (xA (by omega))).symm)),rfl,rfl⟩)
                 exact At.rp 5 1 [(105,vQ u 8)]<|Op.l1 23 105 106 8 (vL I o.aB.length J) (G.ag 1 rfl)<|Op.c1 107 (P7 _ _ _ G.sub ar _ _ a1 62 (fun x=>!dh true x) (fun x=>cU x<cU o) (eg.of (by kernel_rfl)) (fun B h g hg ar x v2 h2 d3 h8 hc=>P8 mr dv B h g hg ar x v2 h2 d3 h8 (by omega) (nR hc (r9 bk))) (by(try dsimp only)<;>exact fun x hx=>iP hx) (by((try dsimp only)<;>((have:=fD o;omega))))) G fun eL d4=>Op.pr 37 4 (.bool (!(o.aB.any (fun x=>!dh true x)))) (hR d4.drop.drop ⟨(bn (by exact Py hA bo bt b4 b6 ca ce ch (Pz ‹_› ‹_› ‹_› ‹_› ‹_›))),rfl,rfl⟩)
               refine At.rp 10 1 [(79,vQ D 6)]<|Op.l1 4 79 80 6 (.bool ((bE o.ah).ops)) (am.ag 0 rfl)<|Op.px 2 [(82,.bool (!((bE o.ah).ops)))]<|Op.wb (!((bE o.ah).ops)) 82 (fun ci=>?_) fun ck=>?_
               ·replace ci:=(dn ci)
                refine Op.px 1 [(83,vQ u 8)]<|Op.l1 23 83 84 8 (vL I o.aB.length J) (am.ag 1 rfl)<|Op.pg 21 [(27,.bool ((o.aB.length:Int) != 0))]<|At.fn ((o.aB.length:Int)=0) 27 22 24 (fun eQ=>?_) fun e1=>?_
                ·exact At.gr 7 1 4 vF (hR am.drop.drop ⟨(bn (by(refine(Px ?_).symm;unfold mw;simp_all;done))),rfl,rfl⟩)
                exact At.ke (cf _ _ (bG _) (by(unfold mw;simp[*];done)) am)
               replace ck:=(dr ck)
               exact Op.pg 21 [(27,vF)]<|At.cQ 27 24 (At.ke (cf _ _ (bG _) (by(unfold mw;simp[*];done)) am))
             refine At.rp 8 1 [(72,vQ D 5)]<|Op.l1 4 72 73 5 (.bool ((bE o.ah).watch)) (ae.ag 0 rfl)<|Op.px 2 [(75,.bool (!((bE o.ah).watch)))]<|Op.wb (!((bE o.ah).watch)) 75 (fun co=>?_) fun c3=>?_
             ·replace co:=(dn co)
              refine Op.px 1 [(76,vQ u 7)]<|Op.l1 4 76 77 7 (.bool o.au) (ae.ag 1 rfl)<|Op.pg 19 [(27,.bool o.au)]<|At.cW o.au 27 21 20 (fun d5=>?_) fun e2=>?_
              ·exact At.kB 27 d5<|At.bT 27 22<|At.gr 7 1 4 vF (hR ae.drop.drop ⟨(bn (by(refine(Pw ?_).symm;unfold mZ;simp[*];done))),rfl,rfl⟩)
              exact At.ke (cb _ _ (bG _) (by(unfold mZ;simp[*];done)) ae)
             replace c3:=(dr c3)
             exact Op.pg 19 [(27,vF)]<|At.cQ 27 20 (At.ke (cb _ _ (bG _) (by(unfold mZ;simp[*];done)) ae))
           refine At.rp 12 1 [(61,vQ D 4)]<|Op.l1 4 61 62 4 (.bool ((bE o.ah).make)) (V.ag 0 rfl)<|Op.px 2 [(64,.bool (!((bE o.ah).make)))]<|Op.wb (!((bE o.ah).make)) 64 (fun c4=>?_) fun c5=>?_
           ·replace c4:=(dn c4)
            refine Op.px 1 [(65,vQ u 5)]<|Op.l1 4 65 66 5 (.bool o.aV) (V.ag 1 rfl)<|Op.px 1 [(67,.bool o.aV)]<|Op.wb o.aV 67 (fun e3=>?_) fun e4=>?_
            ·exact Op.pg 17 [(27,vT)]<|At.bT 27 21<|At.bT 27 22<|At.gr 7 1 4 vF (hR V.drop.drop ⟨(bn (by(refine(Iz ?_).symm;unfold lS;simp[*];done))),rfl,rfl⟩)
            refine Op.px 1 [(68,vQ u 6)]<|Op.l1 4 68 69 6 (.bool o.aK) (V.ag 1 rfl)<|Op.pg 17 [(27,.bool o.aK)]<|At.cW o.aK 27 21 18 (fun d6=>?_) fun e5=>?_
            ·exact At.kB 27 d6<|At.bT 27 22<|At.gr 7 1 4 vF (hR V.drop.drop ⟨(bn (by(refine(Iz ?_).symm;unfold lS;simp[*];done))),rfl,rfl⟩)
            exact At.ke (b8 _ _ (bG _) (by(unfold lS;simp[*];done)) V)
           replace c5:=(dr c5)
           exact Op.pg 17 [(27,vF)]<|At.cQ 27 18 (At.ke (b8 _ _ (bG _) (by(unfold lS;simp[*];done)) V))
         refine At.rp 9 1 [(53,vQ D 3)]<|Op.l1 4 53 54 3 (.bool ((bE o.ah).dF)) (ad.ag 0 rfl)<|Op.px 2 [(56,.bool (!((bE o.ah).dF)))]<|Op.wb (!((bE o.ah).dF)) 56 (fun c6=>?_) fun c8=>?_
         ·replace c6:=(dn c6)
          refine Op.px 1 [(57,vQ u 4)]<|Op.l1 3 57 58 4 (vI o.aI) (ad.ag 1 rfl)<|Op.pg 15 [(27,.bool (o.aI != 0))]<|At.fn (o.aI=0) 27 21 16 (fun d7=>?_) fun e6=>?_
          ·exact At.nT 27 d7<|At.bT 27 22<|At.gr 7 1 4 vF (hR ad.drop.drop ⟨(bn (by(refine(Pv ?_).symm;unfold mY;simp[*];done))),rfl,rfl⟩)
          exact At.ke (b5 _ _ (bG _) (by(unfold mY;simp[*];done)) ad)
         replace c8:=(dr c8)
         exact Op.pg 15 [(27,vF)]<|At.cQ 27 16 (At.ke (b5 _ _ (bG _) (by(unfold mY;simp[*];done)) ad))
       refine At.rp 9 1 [(45,vQ D 2)]<|Op.l1 4 45 46 2 (.bool ((bE o.ah).jI)) (ab.ag 0 rfl)<|Op.px 2 [(48,.bool (!((bE o.ah).jI)))]<|Op.wb (!((bE o.ah).jI)) 48 (fun c9=>?_) fun da=>?_
       ·replace c9:=(dn c9)
        refine Op.px 1 [(49,vQ u 3)]<|Op.l1 3 49 50 3 (vI o.ai) (ab.ag 1 rfl)<|Op.pg 13 [(27,.bool (o.ai != 0))]<|At.fn (o.ai=0) 27 21 14 (fun d8=>?_) fun e7=>?_
        ·exact At.nT 27 d8<|At.bT 27 22<|At.gr 7 1 4 vF (hR ab.drop.drop ⟨(bn (by(refine(Pu ?_).symm;unfold mX;simp[*];done))),rfl,rfl⟩)
        exact At.ke (b3 _ _ (bG _) (by(unfold mX;simp[*];done)) ab)
       replace da:=(dr da)
       exact Op.pg 13 [(27,vF)]<|At.cQ 27 14 (At.ke (b3 _ _ (bG _) (by(unfold mX;simp[*];done)) ab))
     refine At.rp 10 1 [(36,vQ D 1)]<|Op.l1 4 36 37 1 (.bool ((bE o.ah).data)) (Z.ag 0 rfl)<|Op.px 2 [(39,.bool (!((bE o.ah).data)))]<|Op.wb (!((bE o.ah).data)) 39 (fun db=>?_) fun dc=>?_
     ·replace db:=(dn db)
      refine Op.px 1 [(40,vQ u 2)]<|Op.l1 22 40 41 2 (vL O o.Data.length U) (Z.ag 1 rfl)<|Op.pg 11 [(27,.bool ((o.Data.length:Int) != 0))]<|At.fn ((o.Data.length:Int)=0) 27 21 12 (fun d9=>?_) fun e8=>?_
      ·exact At.nT 27 d9<|At.bT 27 22<|At.gr 7 1 4 vF (hR Z.drop.drop ⟨(bn (by(refine(Pt ?_).symm;unfold mW;simp_all;done))),rfl,rfl⟩)
      exact At.ke (bs _ _ (bG _) (by(unfold mW;simp[*];done)) Z)
     replace dc:=(dr dc)
     exact Op.pg 11 [(27,vF)]<|At.cQ 27 12 (At.ke (bs _ _ (bG _) (by(unfold mW;simp[*];done)) Z))
   refine At.rp 9 1 [(28,vP D)]<|Op.l1 4 28 29 0 (.bool ((bE o.ah).ec)) (Y.ag 0 rfl)<|Op.px 2 [(31,.bool (!((bE o.ah).ec)))]<|Op.wb (!((bE o.ah).ec)) 31 (fun dd=>?_) fun df=>?_
   ·replace dd:=(dn dd)
    refine Op.px 1 [(32,vQ u 1)]<|Op.l1 9 32 33 1 (vS o.af) (Y.ag 1 rfl)<|Op.vl 34 (.bool (!((br o.af).toList==(br []).toList))) (.bool (!(o.af==([]:aj)))) (by rw[toList_mkS,toList_mkS])<|Op.pg 9 [(27,.bool (!(o.af==([]:aj))))]<|At.cW (!(o.af==([]:aj))) 27 21 10 (fun be=>?_) fun dg=>?_
    ·refine At.kB 27 be ?_
     replace be:=pI (dn be)
     exact At.bT 27 22<|At.gr 7 1 4 vF (hR Y.drop.drop ⟨(bn (by(refine(Pr ?_).symm;unfold nB;simp[*];done))),rfl,rfl⟩)
    replace dg:=eq_of_beq (dr dg)
    exact At.ke (bm _ _ (bG _) (by(unfold nB;simp[*];done)) Y)
   replace df:=(dr df)
   exact Op.pg 9 [(27,vF)]<|At.cQ 27 10 (At.ke (bm _ _ (bG _) (by(unfold nB;simp[*];done)) Y))
 refine At.go 3 3 [(13,.bool (!(lR o.ah)))]<|At.cW (!(lR o.ah)) 13 5 4 (fun bi=>?_) fun dj=>?_
 ·refine At.kB 13 bi ?_
  replace bi:=(dn bi)
  exact At.bT 13 6<|At.gr 7 1 4 vF (hR X.drop.drop ⟨(bn (by(refine(Iy ?_).symm;unfold rA;simp[*];done))),rfl,rfl⟩)
 replace dj:=(dr dj)
 refine At.rp 12 2 [(17,.bool inner)]<|Op.wb inner 17 (fun e9=>?_) fun fa=>?_
 ·refine Op.px 1 [(18,vQ D 4)]<|Op.l1 4 18 19 4 (.bool ((bE o.ah).make)) (X.ag 0 rfl)<|Op.px 3 [(22,.bool (!((bE o.ah).make)))]<|Op.wb (!((bE o.ah).make)) 22 (fun dk=>?_) fun dl=>?_
  ·replace dk:=(dn dk)
   refine Op.px 1 [(23,vQ D 2)]<|Op.l1 4 23 24 2 (.bool ((bE o.ah).jI)) (X.ag 0 rfl)<|Op.pg 5 [(13,.bool (!((bE o.ah).jI)))]<|At.cW (!((bE o.ah).jI)) 13 6 8 (fun dp=>?_) fun dq=>?_
   ·replace dp:=(dn dp)
    exact At.gr 7 1 4 vF (hR X.drop.drop ⟨(bn (by(refine(Iy ?_).symm;unfold rA;simp[*];done))),rfl,rfl⟩)
   replace dq:=(dr dq)
   exact At.ke (a4 _ _ (bG _) (by(unfold rA;simp[*];done)) X)
  replace dl:=(dr dl)
  exact Op.pg 5 [(13,vF)]<|At.cQ 13 8 (At.ke (a4 _ _ (bG _) (by(unfold rA;simp[*];done)) X))
 exact Op.pg 5 [(13,vF)]<|At.cQ 13 8 (At.ke (a4 _ _ (bG _) (by(unfold rA;simp[*];done)) X))
theorem Jh (B:World) (h:ay) (g:GH) (hg:bu g h) (G:bz g) (o:aR) (u:Value) (I:an g 5 a_ u o.Data) (D:Value) (J:an g 25 dy D o.aB) (inner:Bool) (hs:cU o≤1000000000):aG prog B 26 #[.agg #[vI o.ah,vS o.af,u,vI o.ai,vI o.aI,.bool o.aV,.bool o.aK,.bool o.au,D],.bool inner] h g [] (fun O g' L'=>O=.bool (dh inner o)∧g'=g∧L'=[]):=P9 _ B h g hg G o u I D J inner hs (bG _)
theorem P_ (B:World) (h:ay) (g:GH) (hg:bu g h) (c5:bz g) (o:aR) (a4:Value) (bs:an g 5 a_ a4 o.Data) (a5:Value) (bt:an g 25 dy a5 o.aB):
  aG prog B 63 #[.agg #[vI o.ah,vS o.af,a4,vI o.ai,vI o.aI,.bool o.aV,.bool o.aK,.bool o.au,a5]] h g [] (fun b3 g' L'=>b3=.int .i64 (gy o)∧g'=g∧L'=[]):=by
 obtain⟨a6,a7,rfl⟩:=bs.ak
 obtain⟨a8,a9,rfl⟩:=bt.ak
 refine aG.aq func63 fun R hR=>At.rg 2<|Op.bx 1 25 0 #[vI o.ah,vS o.af,vL a6 o.Data.length a7,vI o.ai,vI o.aI,.bool o.aV,.bool o.aK,.bool o.au,vL a8 o.aB.length a9] (St.init hg) fun X c6 b4=>Op.pg 1 []<|At.go 2 1 [(3,vI 0)] ?_
 refine At.rg 12<|Op.makeMap (mt:=155) (dst:=6) (by kernel_rfl) b4 fun I c8 bb=>?_
 have b5:cG encI #[] 0 ([]:List (Int×Value)):=cG.empty _ _
 have b6:fu (Jg g) [] ([]:List (Int×Bool)):=fu.nil
 refine Op.px 1 [(7,vQ X 5)]<|Op.l1 4 7 8 5 (.bool o.aV) (bb.ag 1 rfl)<|Op.nY (d:=.int .i64) (z:=vF) (mt:=155) (x:=6) (ix:=(.const (vI 1))) (y:=8) (k:=(1:Int)) (v:=.bool o.aV) (.inr (by kernel_rfl)) (by kernel_rfl) kC (by kernel_rfl) (by kernel_rfl) (by kernel_rfl) bb 0 rfl b5 zt fun c9 da db b8 bc=>?_
 have ca:=fu.pz (k:=(1:Int)) (a:=o.aV) (v:=.bool o.aV) b6 rfl
 refine Op.px 1 [(9,vQ X 6)]<|Op.l1 4 9 10 6 (.bool o.aK) (bc.ag 1 rfl)<|Op.nY (d:=.int .i64) (z:=vF) (mt:=155) (x:=6) (ix:=(.const (vI 2))) (y:=10) (k:=(2:Int)) (v:=.bool o.aK) (.inr (by kernel_rfl)) (by kernel_rfl) kC (by kernel_rfl) (by kernel_rfl) (by kernel_rfl) bc 0 rfl b8 zt fun dc dd df cb bd=>?_
 have ce:=fu.pz (k:=(2:Int)) (a:=o.aK) (v:=.bool o.aK) ca rfl
 refine Op.px 1 [(11,vQ X 7)]<|Op.l1 4 11 12 7 (.bool o.au) (bd.ag 1 rfl)<|Op.nY (d:=.int .i64) (z:=vF) (mt:=155) (x:=6) (ix:=(.const (vI 4))) (y:=12) (k:=(4:Int)) (v:=.bool o.au) (.inr (by kernel_rfl)) (by kernel_rfl) kC (by kernel_rfl) (by kernel_rfl) (by kernel_rfl) bd 0 rfl cb zt fun cf am dg ar be=>?_
 have ch:=fu.pz (k:=(4:Int)) (a:=o.au) (v:=.bool o.au) ce rfl
 refine Op.px 1 [(13,.map (some I))]<|Op.s_ (d:=.int .i64) (z:=vF) (mt:=155) (x:=13) (dst:=14) (m:=I) (by kernel_rfl) (by kernel_rfl) (by kernel_rfl) (be.ag 0 rfl) ar be fun Y ci dj aw ck=>?_
 replace aw:=aw.toD ar
 refine Op.gt 3 ?_
 have co:∀(m:Nat) (x1:List (Int×Bool)) (n:Int) (J:Array MapEntry) (G:List (Int×Value)) (Z:List (Int×Value)) (a0:Obj) (a1:ay) (hm:Z.length<m) (O:i_ o x1 Z G n) (U:cG encI J am G) (V:fu (Jg g) G x1) (bi:jy encI J am I Z none a0) (ab:St h g (aS []) g [[(Y,a0)],[(I,.map J am)],[(X,Obj.cells #[vI o.ah,vS o.af,vL a6 o.Data.length a7,vI o.ai,vI o.aI,.bool o.aV,.bool o.aK,.bool o.au,vL a8 o.aB.length a9] 25 (0,0))]] a1),At (bP prog B 63 f63 R) [] 3 [(3,vI n),(14,vP Y)] a1:=by
  intro m;induction m with
  |zero=>intros;omega
  |succ m bj=>
   intro x1 n J G Z a0 a1 hm O U V bi ab
   refine At.rg 2<|Op.Jc (x:=14) (dst:=15) (it:=Y) (m:=I) (by kernel_rfl) (by kernel_rfl) (ab.ag 1 rfl) U bi ab 0 rfl zt ⟨fun u=>?_,fun bk D c3 bm bo dk u a3 ad=>?_⟩
   ·exact Op.pg 4 [(16,vF)]<|At.cQ 16 9<|At.gr 10 2 2 (vI n) (hR ab.drop.drop.drop ⟨(bg (by exact O.iU u)),rfl,rfl⟩)
   have c4:(D,c3)∈G:=by exact O.mem u
   obtain⟨ae,dl,rfl⟩:=V.Db ((Da V.2.1).2 c4)
   refine Op.pg 4 [(16,vT)]<|At.bT 16 5<|At.rg 5<|Op.Jd (x:=14) (dst:=17) (it:=Y) (m:=I) (k:=D) (v:=.bool ae) (by kernel_rfl) (by kernel_rfl) (ad.ag 1 rfl) U a3 (ad.ag 0 rfl)<|Op.pg 6 [(4,vI D),(5,.bool ae)] ?_
   refine At.go 7 1 [(20,.bool ae)]<|At.cW ae 20 8 3 (fun dp=>?_) fun dq=>?_
   ·exact At.rp 4 2 [(21,vI n),(22,vI D)]<|Op.vl 23 (.int .i64 (IntKind.wrap .i64 (((BitVec.ofInt (IntKind.bits .i64) n ||| BitVec.ofInt (IntKind.bits .i64) D).toNat:Nat):Int))) (.int .i64 (n+D)) (O.PB u ‹_›)<|Op.pg 3 [(3,vI (n+D))] (At.ke (bj x1 (n+D) J G (bk++bm) bo _ (by(have hz:=congrArg List.length u;simp only[b_,bJ] at hz ⊢;omega)) (by exact O.hit u ‹_› ‹_›) U V a3.Ac ad))
   exact At.ke (bj x1 n J G (bk++bm) bo _ (by(have hz:=congrArg List.length u;simp only[b_,bJ] at hz ⊢;omega)) (by exact O.gO u ‹_› ‹_›) U V a3.Ac ad)
 exact At.ke (co _ (dz (dz (dz ([]:List (Int×Bool)) (1:Int) o.aV) (2:Int) o.aK) (4:Int) o.au) 0 cf (gR (gR (gR ([]:List (Int×Value)) (1:Int) (.bool o.aV)) (2:Int) (.bool o.aK)) (4:Int) (.bool o.au)) (gR (gR (gR ([]:List (Int×Value)) (1:Int) (.bool o.aV)) (2:Int) (.bool o.aK)) (4:Int) (.bool o.au)) ci _ (bG _) (by exact PA ‹_› rfl) ar ch aw ck)
theorem Qa (mr:Nat):∀(B:World) (h:ay) (g:GH) (hg:bu g h) (D:bz g) (o:aR) (a8:Value) (I:an g 5 a_ a8 o.Data) (a9:Value) (G:an g 25 dy a9 o.aB) (hr:dh false o=true∨dh true o=true) (hs:cU o≤1000000000) (b6:cU o<mr),aG prog B 27 #[.agg #[vI o.ah,vS o.af,a8,vI o.ai,vI o.aI,.bool o.aV,.bool o.aK,.bool o.au,a9]] h g [] (fun dd g' L'=>∃v0,dd=.tuple #[v0,.int .i64 ((bR o).2)]∧an g' 5 a_ v0 ((bR o).1)∧L'=[]):=by
 induction mr with
 |zero=>intros;omega
 |succ mr df=>
 intro B h g hg D o a8 I a9 G hr hs b6
 obtain⟨U,V,rfl⟩:=I.ak
 obtain⟨Z,X,rfl⟩:=G.ak
 refine aG.aq func27 fun R hR=>At.rg 3<|Op.bx 1 25 0 #[vI o.ah,vS o.af,vL U o.Data.length V,vI o.ai,vI o.aI,.bool o.aV,.bool o.aK,.bool o.au,vL Z o.aB.length X] (St.init hg) fun J d6 Y=>Op.pg 1 []<|At.dw (fun _=>False) [(0,true),(2,true),(5,true),(1,true),(3,true),(4,true),(6,true),(7,false),(8,false),(9,false),(10,false),(11,true),(12,true),(13,true),(14,true),(15,true)] ?_
 refine Op.px 3 [(12,vP J),(14,vQ J 3),(17,vQ J 4)]<|Op.lf 3 12 0 13 1 (vI o.ah) id (Y.ag 0 rfl)<|Op.lf 3 14 3 15 1 (vI o.ai) id (Y.ag 0 rfl)<|Op.cO 16 (o.ai+1) (by(have h:=(tI hr).2.1;omega)) (by(have h:=(tI hr).2.1;omega))<|Op.lf 3 17 4 18 1 (vI o.aI) id (Y.ag 0 rfl) ?_
 refine Op.la 25 1 19 0 9 [vI o.ah,vS o.af,vL U o.Data.length V,vI o.ai,vI o.aI,.bool o.aV,.bool o.aK,.bool o.au,vL Z o.aB.length X] (Y.ag 0 rfl)<|Op.c1 20 (P_ _ _ _ Y.sub D o _ I _ G) Y fun d7 dg=>Op.ls 21 4 3 #[vI o.ah,vI (o.ai+1),vI o.aI,vI (gy o)] dg fun b8 d8 dj=>?_
 have dk:aH 3 (dK .i64) g (vL (some ⟨b8,0,none⟩) 4 4) [o.ah,o.ai+1,o.aI,gy o] [(b8,Obj.cells #[vI o.ah,vI (o.ai+1),vI o.aI,vI (gy o)] 3 (0,0))]:=aH.lit (by kernel_rfl) (by unfold maxLen;decide) (by kernel_rfl) ⟨_,_,rfl,rfl,⟨_,_,rfl,rfl,⟨_,_,rfl,rfl,⟨_,_,rfl,rfl,Reads.nil⟩⟩⟩⟩
 obtain⟨d9,ca,bb,dl⟩:=aH.freeze dk (dj)
 replace D:=D.mono bb
 replace I:=I.mono bb
 replace G:=G.mono bb
 refine Op.c0 (some 22) (CS _ _ _ ca.sub D _ _ dl (by((try dsimp only)<;>((simp;done))))) ca ?_
 rintro _ ea _ eb bc bd ⟨v37,rfl,ar,rfl⟩
 obtain⟨aw,a0,rfl⟩:=ar.ak
 replace D:=D.mono bc
 replace I:=I.mono bc
 replace G:=G.mono bc
 refine Op.pg 2 [(4,vL aw (((cr ([o.ah,o.ai+1,o.aI,gy o])).1).length) a0),(5,vI ((cr ([o.ah,o.ai+1,o.aI,gy o])).2))]<|At.go 3 2 [(26,.bool (((cr ([o.ah,o.ai+1,o.aI,gy o])).2) != 0))]<|At.fn (((cr ([o.ah,o.ai+1,o.aI,gy o])).2)=0) 26 4 6 (fun ed=>?_) fun ee=>?_
 ·exact At.go 5 3 [(2,vN),(3,vI ((cr ([o.ah,o.ai+1,o.aI,gy o])).2))]<|At.rt (.tuple #[vN,vI ((cr ([o.ah,o.ai+1,o.aI,gy o])).2)]) (hR bd.drop ⟨vN,bA rfl (bg (by exact absurd (congrArg Prod.snd (tI hr).1) ‹_›)),bl (an.empty _ _ _ _ _) (by exact absurd (congrArg Prod.snd (tI hr).1) ‹_›),rfl⟩)
 refine At.rp 8 2 [(28,vL aw (((cr ([o.ah,o.ai+1,o.aI,gy o])).1).length) a0),(29,vQ J 1)]<|Op.l1 9 29 30 1 (vS o.af) (bd.ag 0 rfl)<|Op.toBytes (S:=9) (T:=22) (E:=5) (x:=30) (dst:=31) (l:=o.af) (by kernel_rfl) (by kernel_rfl) (by kernel_rfl) (by kernel_rfl) (by kernel_rfl) (by(have:=fD o;omega)) bd fun ef eh ej cb ce=>?_
 obtain⟨cf,ch,rfl⟩:=cb.ak
 refine Op.px 1 [(32,vQ J 2)]<|Op.l1 22 32 33 2 (vL U o.Data.length V) (ce.ag 1 rfl) ?_
 obtain⟨ci,dp,a1,dq⟩:=p_.freeze cb (ce)
 replace D:=D.mono a1
 replace I:=I.mono a1
 replace G:=G.mono a1
 replace ar:=ar.mono a1
 refine Op.ls 34 3 22 #[vL aw (((cr ([o.ah,o.ai+1,o.aI,gy o])).1).length) a0,vL cf o.af.length ch,vL U o.Data.length V] dp fun be em ck=>Op.pg 7 [(6,vL (some ⟨be,0,none⟩) 3 3)]<|At.rp 4 1 [(35,vQ J 8)]<|Op.l1 23 35 36 8 (vL Z o.aB.length X) (ck.ag 1 rfl)<|Op.pg 8 [(37,vI (o.aB.length:Int)),(38,vI 0)] ?_
 have du:∀(m:Nat) (a3:GH) (a4:aM ci a3) (bL:List aj) (i:Int) (ab:Option Addr) (ad:Nat) (bi:az) (bj:ay) (hm:o.aB.length-i.toNat<m) (h0:0≤i) (h1:i≤o.aB.length) (hI:qM o bL i) (ae:aH 22 (fI 5 a_) a3 (.slice ab bL.length ad) bL bi) (a5:St h g (aS []) a3 [bi,[(J,Obj.cells #[vI o.ah,vS o.af,vL U o.Data.length V,vI o.ai,vI o.aI,.bool o.aV,.bool o.aK,.bool o.au,vL Z o.aB.length X] 25 (0,0))]] bj),At (bP prog B 27 f27 R) [] 8 [(6,vL ab bL.length ad),(36,vL Z o.aB.length X),(37,vI (o.aB.length:Int)),(38,vI i)] bj:=by
  intro m;induction m with
  |zero=>intros;omega
  |succ m dv=>
   intro a3 a4 bL i ab ad bi bj hm h0 h1 hI ae a5
   replace D:=D.mono a4
   replace G:=G.mono a4
   refine At.go 9 1 [(39,.bool (decide (i<(o.aB.length:Int))))]<|At.fd (i<(o.aB.length:Int)) 39 10 18 (fun en=>?_) fun ep=>?_
   ·refine At.rg 4 ?_
    obtain⟨u,O⟩:=bW o.aB i
    obtain⟨dC,co,er,et,dE,bk,am⟩:=an.bB G _ O
    cases dE
    refine Op.iq 23 25 9 96 o.aB.length X 36 38 40 dC co i ?_
    replace am:=k9.1 am
    obtain⟨ex,eA,c3,c4,am⟩:=am
    obtain⟨bm,bo,rfl⟩:=c3.ak
    obtain⟨bs,bt,rfl⟩:=c4.ak
    refine Op.la 25 40 41 (co+i.toNat*9) 9 [vI u.ah,vS u.af,vL bm u.Data.length bo,vI u.ai,vI u.aI,.bool u.aV,.bool u.aK,.bool u.au,vL bs u.aB.length bt] (a5.sub _ _ bk) ?_ (hv:=am)
    refine Op.al 8 25 fE a5 fun eB eI dT=>Op.sg 25 8 41 0 0 #[vI u.ah,vS u.af,vL bm u.Data.length bo,vI u.ai,vI u.aI,.bool u.aV,.bool u.aK,.bool u.au,vL bs u.aB.length bt] dT zt fun eJ b3=>Op.gt 11<|At.rg 7<|Op.la 25 8 43 0 9 [vI u.ah,vS u.af,vL bm u.Data.length bo,vI u.ai,vI u.aI,.bool u.aV,.bool u.aK,.bool u.au,vL bs u.aB.length bt] (b3.ag 0 rfl) ?_
    refine Op.c0 (some 44) (df _ _ _ b3.sub D u _ c3 _ c4 (by((try dsimp only)<;>(exact .inr ((tI hr).2.2.2 _ (bY O))))) (by((try dsimp only)<;>((have:=iP (bY O);omega)))) (by exact nR (iP (bY O)) (r9 b6))) b3 ?_
    rintro _ eK _ eL c5 c6 ⟨eQ,rfl,c8,rfl⟩
    obtain⟨a6,a7,rfl⟩:=c8.ak
    replace bk:=c5 _ _ bk
    replace ae:=ae.mono c5
    refine Op.pg 12 [(9,vL a6 (((bR u).1).length) a7),(10,vI ((bR u).2))]<|At.go 13 2 [(48,.bool (((bR u).2) != 0))]<|At.fn (((bR u).2)=0) 48 14 16 (fun e1=>?_) fun e2=>?_
    ·exact At.go 15 3 [(2,vN),(3,vI ((bR u).2))]<|At.rt (.tuple #[vN,vI ((bR u).2)]) (hR c6.drop.drop.drop ⟨vN,bA rfl (bg (by(rw[IF hI O ‹_›]))),bl (an.empty _ _ _ _ _) (by(rw[IF hI O ‹_›])),rfl⟩)
    refine At.rp 5 2 [(50,vL ab bL.length ad),(51,vL a6 (((bR u).1).length) a7)]<|Op.ls 52 1 22 #[vL a6 (((bR u).1).length) a7] c6 fun e3 e4 c9=>Op.ap 50 52 76 76 53 22 24 (fI 5 a_) (ys:=[(bR u).1]) ae c9 2 (⟨_,_,rfl,⟨_,rfl,c8⟩,Reads.nil⟩) (by(have:=zS hI (tI hr).2.2.1;simp only[bJ,cF];omega)) (fun _ _ _=>trivial) (cT.lit (m:=1) (sz:=1) (c9.ag 0 rfl) (news:=[vL a6 (((bR u).1).length) a7]) rfl rfl (by simp[Value.oneCell']) _) fun e5 e6 e7 da d0 e8=>?_
    obtain⟨a109,d1,rfl⟩:=da.ak
    exact Op.pg 17 [(6,vL a109 ((bL++([(bR u).1])).length) d1)]<|At.rg 2<|Op.cO 54 (i+1) (by omega) (by(have:=fD o;omega))<|Op.pg 8 [(38,vI (i+1))]<|At.ke (dv _ (aM.trans a4 (by repeat (first|assumption|apply aM.trans))) (bL++([(bR u).1])) (i+1) _ _ _ _ (by omega) (by omega) (by omega) (by exact IE hI h0 O ‹_›) da (((d0).drop).drop))
   refine At.rp 6 1 [(55,vL ab bL.length ad)] ?_
   obtain⟨e9,db,d2,d3⟩:=aH.freeze ae (a5)
   replace D:=D.mono d2
   refine Op.c0 (some 56) (zA _ _ _ db.sub D _ _ d3 (by((try dsimp only)<;>((have:=zS hI (tI hr).2.2.1;omega))))) db ?_
   rintro _ fa _ fg fi d4 ⟨fj,rfl,dc,rfl⟩
   obtain⟨b4,b5,rfl⟩:=dc.ak
   exact Op.pg 19 [(2,vL b4 (((b7 bL).1).length) b5),(3,vI ((b7 bL).2))]<|At.rt (.tuple #[vL b4 (((b7 bL).1).length) b5,vI ((b7 bL).2)]) (hR d4.drop ⟨(vL b4 (((b7 bL).1).length) b5),bA rfl (bg (by(rw[Di hI ‹_›]))),bl dc (by(rw[Di hI ‹_›])),rfl⟩)
 have d5:aH 22 (fI 5 a_) ci (vL (some ⟨be,0,none⟩) 3 3) [(cr ([o.ah,o.ai+1,o.aI,gy o])).1,o.af,o.Data] [(be,Obj.cells #[vL aw (((cr ([o.ah,o.ai+1,o.aI,gy o])).1).length) a0,vL cf o.af.length ch,vL U o.Data.length V] 22 (0,0))]:=aH.lit (by kernel_rfl) (by unfold maxLen;decide) (by kernel_rfl) ⟨_,_,rfl,⟨_,rfl,ar⟩,⟨_,_,rfl,⟨_,rfl,dq⟩,⟨_,_,rfl,⟨_,rfl,I⟩,Reads.nil⟩⟩⟩
 exact At.ke (du _ _ (aM.refl _) ([(cr ([o.ah,o.ai+1,o.aI,gy o])).1,o.af,o.Data]) 0 _ _ _ _ (bG _) (by omega) (by omega) (by exact IC o) d5 ck)
theorem Qb (B:World) (h:ay) (g:GH) (hg:bu g h) (G:bz g) (o:aR) (u:Value) (I:an g 5 a_ u o.Data) (D:Value) (J:an g 25 dy D o.aB) (hr:dh false o=true∨dh true o=true) (hs:cU o≤1000000000):aG prog B 27 #[.agg #[vI o.ah,vS o.af,u,vI o.ai,vI o.aI,.bool o.aV,.bool o.aK,.bool o.au,D]] h g [] (fun O g' L'=>∃v0,O=.tuple #[v0,.int .i64 ((bR o).2)]∧an g' 5 a_ v0 ((bR o).1)∧L'=[]):=Qa _ B h g hg G o u I D J hr hs (bG _)
theorem Ji (B:World) (h:ay) (g:GH) (hg:bu g h) (ab:bz g) (o:aR) (ad:Value) (I:an g 5 a_ ad o.Data) (ae:Value) (J:an g 25 dy ae o.aB) (hs:cU o≤1000000000):
  aG prog B 8 #[.agg #[vI o.ah,vS o.af,ad,vI o.ai,vI o.aI,.bool o.aV,.bool o.aK,.bool o.au,ae]] h g [] (fun a3 g' L'=>∃v0,a3=.tuple #[v0,.int .i64 ((bQ o).2)]∧an g' 5 a_ v0 ((bQ o).1)∧L'=[]):=by
 obtain⟨O,U,rfl⟩:=I.ak
 obtain⟨V,X,rfl⟩:=J.ak
 refine aG.aq func8 fun R hR=>At.rg 3<|Op.bx 1 25 0 #[vI o.ah,vS o.af,vL O o.Data.length U,vI o.ai,vI o.aI,.bool o.aV,.bool o.aK,.bool o.au,vL V o.aB.length X] (St.init hg) fun a4 a5 Y=>Op.pg 1 []<|At.rg 3 ?_
 refine Op.la 25 1 6 0 9 [vI o.ah,vS o.af,vL O o.Data.length U,vI o.ai,vI o.aI,.bool o.aV,.bool o.aK,.bool o.au,vL V o.aB.length X] (Y.ag 0 rfl)<|Op.c1 7 (Jh _ _ _ Y.sub ab o _ I _ J false (by(try dsimp only)<;>omega)) Y fun a6 u=>Op.pg 2 [(8,.bool (!(dh false o)))]<|At.cW (!(dh false o)) 8 3 5 (fun am=>?_) fun ar=>?_
 ·replace am:=(dn am)
  exact At.go 4 2 [(2,vN),(3,vI 130)]<|At.rt jW (hR u.drop ⟨vN,bA rfl (bg (by(rw[IG ‹_›]))),bl (an.empty _ _ _ _ _) (by(rw[IG ‹_›])),rfl⟩)
 replace ar:=(dr ar)
 refine At.rg 7<|Op.la 25 1 10 0 9 [vI o.ah,vS o.af,vL O o.Data.length U,vI o.ai,vI o.aI,.bool o.aV,.bool o.aK,.bool o.au,vL V o.aB.length X] (u.ag 0 rfl)<|Op.c0 (some 11) (Qb _ _ _ u.sub ab o _ I _ J (by((try dsimp only)<;>(exact .inl ‹_›))) (by(try dsimp only)<;>omega)) u ?_
 rintro _ a7 _ a8 a9 Z ⟨v31,rfl,aw,rfl⟩
 obtain⟨D,G,rfl⟩:=aw.ak
 refine Op.pg 6 [(4,vL D (((bR o).1).length) G),(5,vI ((bR o).2))]<|At.rp 7 3 [(16,.bool (((bR o).2) != 0))]<|Op.wb (((bR o).2) != 0) 16 (fun a0=>?_) fun a1=>?_
 ·replace a0:=fY a0
  exact Op.pg 7 [(20,vT)]<|At.bT 20 8<|At.go 9 2 [(2,vN),(3,vI 130)]<|At.rt jW (hR Z.drop ⟨vN,bA rfl (bg (by(rw[zT ‹_› (by first|exact .inl ‹_›|exact .inr ‹_›)]))),bl (an.empty _ _ _ _ _) (by(rw[zT ‹_› (by first|exact .inl ‹_›|exact .inr ‹_›)])),rfl⟩)
 replace a1:=gB a1
 refine Op.pg 7 [(20,.bool (decide ((((bR o).1).length:Int)>1024)))]<|At.fd ((((bR o).1).length:Int)>1024) 20 8 10 (fun bb=>?_) fun bc=>?_
 ·exact At.go 9 2 [(2,vN),(3,vI 130)]<|At.rt jW (hR Z.drop ⟨vN,bA rfl (bg (by(rw[zT ‹_› (by first|exact .inl ‹_›|exact .inr ‹_›)]))),bl (an.empty _ _ _ _ _) (by(rw[zT ‹_› (by first|exact .inl ‹_›|exact .inr ‹_›)])),rfl⟩)
 exact At.go 11 3 [(2,vL D (((bR o).1).length) G),(3,vI 0)]<|At.rt (.tuple #[vL D (((bR o).1).length) G,vI 0]) (hR Z.drop ⟨(vL D (((bR o).1).length) G),bA rfl (bg (by(rw[II ‹_› ‹_› ‹_›]))),bl aw (by(rw[II ‹_› ‹_› ‹_›])),rfl⟩)
def mC (g:GH) (b:Nat) (x:aR) (c:az):Prop:=∃v2 u D,c=(b,.cells #[.int .i64 x.ah,.string (br x.af),v2,.int .i64 x.ai,.int .i64 x.aI,.bool x.aV,.bool x.aK,.bool x.au,u] 25 (0,0))::D∧an g 5 a_ v2 x.Data∧aH 25 dy g u x.aB D
theorem mC.mono {g g':GH} {b:Nat} {x:aR} {c:az} (h:mC g b x c) (hg:aM g g'):mC g' b x c:=by
 obtain⟨v2,u,D,e,h0,h1⟩:=h
 exact⟨v2,u,D,e,h0.mono hg,h1.mono hg⟩
theorem Ae (B:World) (h:ay) (g:GH) (hg:bu g h) (V:bz g) (I:Value) (b:aj) (J:an g 5 a_ I b) (n:Int) (hl:b.length≤1000000000):
  aG prog B 42 #[I,vI n] h g [] (fun X g' L'=>∃v0,X=.tuple #[v0,.bool (fc b n)]∧an g' 3 (dK .i64) v0 ((bh b).1)∧L'=[]):=by
 obtain⟨Y,Z,rfl⟩:=J.ak
 refine aG.aq func42 fun R hR=>?_
 have O:=St.init hg
 refine At.go 1 2 []<|At.rp 7 1 [(9,vL Y b.length Z)]<|Op.c0 (some 10) (OA _ _ _ O.sub V _ _ J (by(try dsimp only)<;>omega)) O ?_
 rintro _ ab _ ad ae U ⟨am,rfl,G,rfl⟩
 obtain⟨u,D,rfl⟩:=G.ak
 refine Op.pg 2 [(6,vL u (((bh b).1).length) D),(7,vI ((bh b).2))]<|At.rp 11 4 [(13,vL u (((bh b).1).length) D),(16,.bool (((bh b).2)==0))]<|Op.wd (((bh b).2)=0) 16 (fun ar=>?_) fun aw=>?_
 ·exact Op.pg 3 [(4,vL u (((bh b).1).length) D),(5,.bool ((((bh b).1).length:Int)==n))]<|At.rt (.tuple #[vL u (((bh b).1).length) D,.bool ((((bh b).1).length:Int)==n)]) (hR U ⟨(vL u (((bh b).1).length) D),bA rfl (bn (by exact PC ‹_›)),bl G (by rfl),rfl⟩)
 exact Op.pg 3 [(4,vL u (((bh b).1).length) D),(5,vF)]<|At.rt (.tuple #[vL u (((bh b).1).length) D,vF]) (hR U ⟨(vL u (((bh b).1).length) D),bA rfl (bn (by exact Dm ‹_›)),bl G (by rfl),rfl⟩)
theorem Qc (mr:Nat):∀(B:World) (h:ay) (g:GH) (hg:bu g h) (Y:bz g) (d0:Value) (b:aj) (d1:an g 5 a_ d0 b) (inner:Bool) (hl:b.length≤1000000000) (d2:(if inner=true then 0 else 1)<mr),aG prog B 30 #[d0,.bool inner] h g [] (fun hZ g' L'=>∃v0 v1,hZ=.tuple #[.agg #[.int .i64 (((aT inner b).1).ah),.string (br (((aT inner b).1).af)),v0,.int .i64 (((aT inner b).1).ai),.int .i64 (((aT inner b).1).aI),.bool (((aT inner b).1).aV),.bool (((aT inner b).1).aK),.bool (((aT inner b).1).au),v1],.bool ((aT inner b).2)]∧an g' 5 a_ v0 (((aT inner b).1).Data)∧an g' 25 dy v1 (((aT inner b).1).aB)∧L'=[]):=by
 induction mr with
 |zero=>intros;omega
 |succ mr fv=>
 intro B h g hg Y d0 b d1 inner hl d2
 obtain⟨h2,h3,rfl⟩:=d1.ak
 refine aG.aq func30 fun R hR=>At.rg 2<|Op.al 4 25 fE (St.init hg) fun c8 n3 fw=>Op.pg 1 []<|At.rp 7 1 [(16,vL h2 b.length h3)] ?_
 refine Op.c0 (some 17) (zB _ _ _ fw.sub Y _ _ d1 (by(try dsimp only)<;>omega)) fw ?_
 rintro _ oi _ oj h4 a6 ⟨ol,rfl,ab,rfl⟩
 obtain⟨d3,X,rfl⟩:=ab.ak
 replace Y:=Y.mono h4
 refine Op.pg 2 [(6,vL d3 (((aJ b).1).length) X),(7,vI ((aJ b).2))]<|At.rp 15 3 [(22,.bool (((aJ b).2) != 0))]<|Op.wb (((aJ b).2) != 0) 22 (fun fx=>?_) fun f0=>?_
 ·replace fx:=fY fx
  refine Op.pg 3 [(34,vT)]<|At.bT 34 4<|At.rp 3 1 [(35,.agg fE)]<|Op.sg 25 4 35 0 0 fE a6 zt fun or f1=>Op.pg 5 [(5,vF)] ?_
  exact At.rn f30 qP [.cell 4 25,.tmp 5] ⟨⟨_,_,rfl,cq (n:=9) (by kernel_rfl) (f1.ag 0 rfl) (by kernel_rfl) rfl⟩,rfl,trivial⟩ (hR f1.drop ⟨vN,vN,bA (by(rw[fT (rW ‹_›)];rfl)) (bn (by(rw[fT (rW ‹_›)];done))),bl (an.empty _ _ _ _ _) (by(rw[fT (rW ‹_›)];rfl)),bl (an.empty _ _ _ _ _) (by(rw[fT (rW ‹_›)];rfl)),rfl⟩)
 replace f0:=gB f0
 refine Op.px 5 [(27,.bool (decide ((((aJ b).1).length:Int)<3)))]<|Op.wd ((((aJ b).1).length:Int)<3) 27 (fun ow=>?_) fun o3=>?_
 ·refine Op.pg 3 [(34,vT)]<|At.bT 34 4<|At.rp 3 1 [(35,.agg fE)]<|Op.sg 25 4 35 0 0 fE a6 zt fun o4 f2=>Op.pg 5 [(5,vF)] ?_
  exact At.rn f30 qP [.cell 4 25,.tmp 5] ⟨⟨_,_,rfl,cq (n:=9) (by kernel_rfl) (f2.ag 0 rfl) (by kernel_rfl) rfl⟩,rfl,trivial⟩ (hR f2.drop ⟨vN,vN,bA (by(rw[fT (rX ‹_›)];rfl)) (bn (by(rw[fT (rX ‹_›)];done))),bl (an.empty _ _ _ _ _) (by(rw[fT (rX ‹_›)];rfl)),bl (an.empty _ _ _ _ _) (by(rw[fT (rX ‹_›)];rfl)),rfl⟩)
 refine Op.px 2 [(29,.bool inner)]<|Op.wb inner 29 (fun o5=>?_) fun pa=>?_
 ·refine Op.pg 3 [(34,.bool (decide ((((aJ b).1).length:Int)>3)))]<|At.fd ((((aJ b).1).length:Int)>3) 34 4 6 (fun pb=>?_) fun pc=>?_
  ·exact At.rp 3 1 [(35,.agg fE)]<|Op.sg 25 4 35 0 0 fE a6 zt fun pd f3=>Op.pg 5 [(5,vF)]<|At.rn f30 qP [.cell 4 25,.tmp 5] ⟨⟨_,_,rfl,cq (n:=9) (by kernel_rfl) (f3.ag 0 rfl) (by kernel_rfl) rfl⟩,rfl,trivial⟩ (hR f3.drop ⟨vN,vN,bA (by(rw[fT (rY ‹_› ‹_›)];rfl)) (bn (by(rw[fT (rY ‹_› ‹_›)];done))),bl (an.empty _ _ _ _ _) (by(rw[fT (rY ‹_› ‹_›)];rfl)),bl (an.empty _ _ _ _ _) (by(rw[fT (rY ‹_› ‹_›)];rfl)),rfl⟩)
  refine At.rp 9 1 [(37,vL d3 (((aJ b).1).length) X)] ?_
  obtain⟨J,a1⟩:=bW ((aJ b).1) 0
  obtain⟨a9,a4,pf,ph,h5,d4,d5⟩:=an.bB ab _ a1
  cases h5
  refine Op.iq 76 22 1 24 (((aJ b).1).length) X 37 (.const (vI 0)) 38 a9 a4 0 ?_
  obtain⟨pj,d5,f4⟩:=d5
  obtain⟨h6,h7,rfl⟩:=f4.ak
  refine Op.l1 22 38 39 (a4+(0:Int).toNat*1) (vL h6 J.length h7) (a6.sub _ _ d4) ?_ (hv:=bN d5 0 rfl)
  refine Op.c0 (some 40) (Ae _ _ _ a6.sub Y _ _ f4 4 (by((try dsimp only)<;>((have:=oP a1;omega))))) a6 ?_
  rintro _ d6 _ pl d7 ad ⟨pm,rfl,a7,rfl⟩
  obtain⟨f5,Z,rfl⟩:=a7.ak
  replace d4:=d7 _ _ d4
  replace Y:=Y.mono d7
  replace ab:=ab.mono d7
  refine Op.pg 7 [(8,vL f5 (((bh J).1).length) Z),(9,.bool (fc J 4))]<|At.rp 8 3 [(45,.bool (!(fc J 4)))]<|Op.wb (!(fc J 4)) 45 (fun f6=>?_) fun f7=>?_
  ·replace f6:=(dn f6)
   refine Op.pg 8 [(50,vT)]<|At.bT 50 9<|At.rp 3 1 [(51,.agg fE)]<|Op.sg 25 4 51 0 0 fE ad zt fun po f8=>Op.pg 10 [(5,vF)] ?_
   exact At.rn f30 qP [.cell 4 25,.tmp 5] ⟨⟨_,_,rfl,cq (n:=9) (by kernel_rfl) (f8.ag 0 rfl) (by kernel_rfl) rfl⟩,rfl,trivial⟩ (hR f8.drop ⟨vN,vN,bA (by(rw[fT (lT a1 ‹_›)];rfl)) (bn (by(rw[fT (lT a1 ‹_›)];done))),bl (an.empty _ _ _ _ _) (by(rw[fT (lT a1 ‹_›)];rfl)),bl (an.empty _ _ _ _ _) (by(rw[fT (lT a1 ‹_›)];rfl)),rfl⟩)
  replace f7:=(dr f7)
  refine Op.px 1 [(46,vL f5 (((bh J).1).length) Z)] ?_
  obtain⟨G,ae⟩:=jo (l:=(bh J).1) (i:=3) (by(have:=fo ‹_›;omega))
  obtain⟨am,U,pu,pv,h8,h9,d8⟩:=an.bB a7 _ ae
  cases h8
  refine Op.ix 78 3 1 8 (((bh J).1).length) Z 46 (.const (vI 3)) 47 am U 3 (by omega) (by(have:=fo ‹_›;omega)) ?_
  replace d8:cut _ _ _=[vI G]:=d8
  refine Op.l1 3 47 48 (U+(3:Int).toNat*1) (vI G) (ad.sub _ _ h9) ?_ (hv:=bN d8 0 rfl)
  refine Op.pg 8 [(50,.bool (decide (G>7)))]<|At.fd (G>7) 50 9 11 (fun pw=>?_) fun py=>?_
  ·exact At.rp 3 1 [(51,.agg fE)]<|Op.sg 25 4 51 0 0 fE ad zt fun pA f9=>Op.pg 10 [(5,vF)]<|At.rn f30 qP [.cell 4 25,.tmp 5] ⟨⟨_,_,rfl,cq (n:=9) (by kernel_rfl) (f9.ag 0 rfl) (by kernel_rfl) rfl⟩,rfl,trivial⟩ (hR f9.drop ⟨vN,vN,bA (by(rw[fT (n9 a1 ae ‹_›)];rfl)) (bn (by(rw[fT (n9 a1 ae ‹_›)];done))),bl (an.empty _ _ _ _ _) (by(rw[fT (n9 a1 ae ‹_›)];rfl)),bl (an.empty _ _ _ _ _) (by(rw[fT (n9 a1 ae ‹_›)];rfl)),rfl⟩)
  refine At.dw (fun _=>False) [(0,true),(1,true),(3,true),(4,true),(7,true),(8,true),(10,true),(11,true),(15,true),(16,true),(20,true),(21,true),(25,true),(26,true),(29,true),(30,true),(2,true),(5,true),(6,true),(9,true),(12,true),(13,true),(14,true),(17,true),(18,true),(19,true),(22,true),(23,true),(24,true),(27,true),(28,true),(31,true),(32,true),(33,false),(1034,false),(34,false)]<|Op.px 1 [(52,vL (some ⟨am,U,none⟩) (((bh J).1).length) Z)] ?_
  obtain⟨bk,gc⟩:=jo (l:=(bh J).1) (i:=0) (by(have:=fo ‹_›;omega))
  obtain⟨pB,pC,pD,p0,ib,ih,d9⟩:=an.bB a7 _ gc
  cases ib
  refine Op.ix 78 3 1 8 (((bh J).1).length) Z 52 (.const (vI 0)) 53 am U 0 (by omega) (by(have:=fo ‹_›;omega)) ?_
  replace d9:cut _ _ _=[vI bk]:=d9
  refine Op.px 1 [(55,vL (some ⟨am,U,none⟩) (((bh J).1).length) Z)] ?_
  obtain⟨bb,c9⟩:=jo (l:=(bh J).1) (i:=1) (by(have:=fo ‹_›;omega))
  obtain⟨p1,p2,p3,p8,ii,ik,ea⟩:=an.bB a7 _ c9
  cases ii
  refine Op.ix 78 3 1 8 (((bh J).1).length) Z 55 (.const (vI 1)) 56 am U 1 (by omega) (by(have:=fo ‹_›;omega)) ?_
  replace ea:cut _ _ _=[vI bb]:=ea
  refine Op.px 1 [(59,vL (some ⟨am,U,none⟩) (((bh J).1).length) Z)] ?_
  obtain⟨bm,ge⟩:=jo (l:=(bh J).1) (i:=2) (by(have:=fo ‹_›;omega))
  obtain⟨qr,q0,q1,q2,il,io,eb⟩:=an.bB a7 _ ge
  cases il
  refine Op.ix 78 3 1 8 (((bh J).1).length) Z 59 (.const (vI 2)) 60 am U 2 (by omega) (by(have:=fo ‹_›;omega)) ?_
  replace eb:cut _ _ _=[vI bm]:=eb
  refine Op.px 1 [(62,vL (some ⟨am,U,none⟩) (((bh J).1).length) Z)] ?_
  obtain⟨q3,ra,rb,rc,ip,is,ed⟩:=an.bB a7 _ ae
  cases ip
  refine Op.ix 78 3 1 8 (((bh J).1).length) Z 62 (.const (vI 3)) 63 am U 3 (by omega) (by(have:=fo ‹_›;omega)) ?_
  replace ed:cut _ _ _=[vI G]:=ed
  refine Op.px 1 [(67,vL (some ⟨am,U,none⟩) (((bh J).1).length) Z)] ?_
  obtain⟨rd,re,rf,rh,iv,i0,ee⟩:=an.bB a7 _ ae
  cases iv
  refine Op.ix 78 3 1 8 (((bh J).1).length) Z 67 (.const (vI 3)) 68 am U 3 (by omega) (by(have:=fo ‹_›;omega)) ?_
  replace ee:cut _ _ _=[vI G]:=ee
  refine Op.px 1 [(72,vL (some ⟨am,U,none⟩) (((bh J).1).length) Z)] ?_
  obtain⟨rk,rr,rv,rx,i1,i3,ef⟩:=an.bB a7 _ ae
  cases i1
  refine Op.ix 78 3 1 8 (((bh J).1).length) Z 72 (.const (vI 3)) 73 am U 3 (by omega) (by(have:=fo ‹_›;omega)) ?_
  replace ef:cut _ _ _=[vI G]:=ef
  refine Op.px 1 [(77,vL (some ⟨a9,a4,none⟩) (((aJ b).1).length) X)] ?_
  obtain⟨bo,gg⟩:=bW ((aJ b).1) 1
  obtain⟨r0,r1,r2,r3,i4,i5,eh⟩:=an.bB ab _ gg
  cases i4
  refine Op.iq 76 22 1 24 (((aJ b).1).length) X 77 (.const (vI 1)) 78 a9 a4 1 ?_
  obtain⟨v146,eh,gk⟩:=eh
  obtain⟨a148,i6,rfl⟩:=gk.ak
  refine Op.px 1 [(81,vL (some ⟨a9,a4,none⟩) (((aJ b).1).length) X)] ?_
  obtain⟨b6,gn⟩:=bW ((aJ b).1) 2
  obtain⟨sc,sd,sf,sh,i7,i8,ej⟩:=an.bB ab _ gn
  cases i7
  refine Op.iq 76 22 1 24 (((aJ b).1).length) X 81 (.const (vI 2)) 82 a9 a4 2 ?_
  obtain⟨sk,ej,gs⟩:=ej
  obtain⟨em,en,rfl⟩:=gs.ak
  refine Op.ez (T:=3) (x:=53) (o:=U+(0:Int).toNat*1) (d:=54) (n:=1) (v:=vI bk) (by kernel_rfl) (by kernel_rfl) (by kernel_rfl) id (ad.sub _ _ ih) (bN d9 0 rfl)<|Op.ez (T:=3) (x:=56) (o:=U+(1:Int).toNat*1) (d:=57) (n:=1) (v:=vI bb) (by kernel_rfl) (by kernel_rfl) (by kernel_rfl) id (ad.sub _ _ ik) (bN ea 0 rfl)<|Op.cO 58 (bb-1) (by(have:=gT c9;omega)) (by(have:=gT c9;omega))<|Op.ez (T:=3) (x:=60) (o:=U+(2:Int).toNat*1) (d:=61) (n:=1) (v:=vI bm) (by kernel_rfl) (by kernel_rfl) (by kernel_rfl) id (ad.sub _ _ io) (bN eb 0 rfl)<|Op.ez (T:=3) (x:=63) (o:=U+(3:Int).toNat*1) (d:=64) (n:=1) (v:=vI G) (by kernel_rfl) (by kernel_rfl) (by kernel_rfl) id (ad.sub _ _ is) (bN ed 0 rfl) ?_
  refine Op.vl 65 (.int .i64 (IntKind.wrap .i64 (((BitVec.ofInt (IntKind.bits .i64) G &&& BitVec.ofInt (IntKind.bits .i64) (1:Int)).toNat:Nat):Int))) (.int .i64 (G % 2)) (IJ (by have:=gT ae;omega) (by omega))<|Op.px 1 [(66,.bool ((G % 2) != 0))]<|Op.ez (T:=3) (x:=68) (o:=U+(3:Int).toNat*1) (d:=69) (n:=1) (v:=vI G) (by kernel_rfl) (by kernel_rfl) (by kernel_rfl) id (ad.sub _ _ i0) (bN ee 0 rfl)<|Op.vl 70 (.int .i64 (IntKind.wrap .i64 (((BitVec.ofInt (IntKind.bits .i64) G &&& BitVec.ofInt (IntKind.bits .i64) (2:Int)).toNat:Nat):Int))) (.int .i64 (G / 2 % 2*2)) (IK (by have:=gT ae;omega) (by omega))<|Op.px 1 [(71,.bool ((G / 2 % 2*2) != 0))] ?_
  refine Op.ez (T:=3) (x:=73) (o:=U+(3:Int).toNat*1) (d:=74) (n:=1) (v:=vI G) (by kernel_rfl) (by kernel_rfl) (by kernel_rfl) id (ad.sub _ _ i3) (bN ef 0 rfl)<|Op.vl 75 (.int .i64 (IntKind.wrap .i64 (((BitVec.ofInt (IntKind.bits .i64) G &&& BitVec.ofInt (IntKind.bits .i64) (4:Int)).toNat:Nat):Int))) (.int .i64 (G / 4 % 2*4)) (IL (by have:=gT ae;omega) (by omega))<|Op.px 1 [(76,.bool ((G / 4 % 2*4) != 0))]<|Op.ez (T:=22) (x:=78) (o:=a4+(1:Int).toNat*1) (d:=79) (n:=1) (v:=vL a148 bo.length i6) (by kernel_rfl) (by kernel_rfl) (by kernel_rfl) id (ad.sub _ _ i5) (bN eh 0 rfl)<|Op.sQ (T:=22) (S:=9) (E:=5) (x:=79) (dst:=80) (l:=bo) (by kernel_rfl) (by kernel_rfl) (by kernel_rfl) (by kernel_rfl) (by kernel_rfl) gk ad.sub (fun _ _ _ h=>h) ?_
  refine Op.ez (T:=22) (x:=82) (o:=a4+(2:Int).toNat*1) (d:=83) (n:=1) (v:=vL em b6.length en) (by kernel_rfl) (by kernel_rfl) (by kernel_rfl) id (ad.sub _ _ i8) (bN ej 0 rfl)<|Op.px 1 [(84,.agg #[vI bk,vS bo,vL em b6.length en,vI (bb-1),vI bm,.bool ((G % 2) != 0),.bool ((G / 2 % 2*2) != 0),.bool ((G / 4 % 2*4) != 0),vN])]<|Op.al 10 25 fE ad fun bs sm i9=>Op.ba<|Op.sg 25 10 84 0 0 #[vI bk,vS bo,vL em b6.length en,vI (bb-1),vI bm,.bool ((G % 2) != 0),.bool ((G / 2 % 2*2) != 0),.bool ((G / 4 % 2*4) != 0),vN] i9 zt fun so jf=>?_
  refine Op.gt 12<|At.rp 4 1 [(85,vL (some ⟨a9,a4,none⟩) (((aJ b).1).length) X)]<|Op.pJ (T:=76) (E:=22) (cK:=24) (x:=85) (ao:=(some ⟨a9,a4,none⟩)) (n:=(((aJ b).1).length)) (c:=X) (dst:=86) (d:=(fI 5 a_)) (lo:=(.const (vI 3))) (k:=.i64) (m:=3) (by kernel_rfl) (by kernel_rfl) (by kernel_rfl) (by kernel_rfl) ab (by omega) (by omega) fun ss da=>?_
  obtain⟨jj,n171,rfl⟩:=da.ak
  refine Op.pg 13 [(87,vI ((((aJ b).1).drop (3:Int).toNat).length:Int)),(88,vI 0)] ?_
  have js:=aH.nil 25 dy d6
  obtain⟨st,jt,j1⟩:=St.bF (Q:=mC d6 bs (⟨bk,bo,b6,bb-1,bm,(G % 2) != 0,(G / 2 % 2*2) != 0,(G / 4 % 2*4) != 0,([]:List aR)⟩:aR)) 2 (jf.nl.fs [1] rfl) ⟨_,_,_,rfl,gs,js⟩
  have ep:∀(m:Nat) (db:GH) (dc:aM d6 db) (ob:aR) (i:Int) (er:az) (et:ay) (hm:((aJ b).1.drop (3:Int).toNat).length-i.toNat<m) (h0:0≤i) (h1:i≤((aJ b).1.drop (3:Int).toNat).length) (hB:fS inner b=true) (hP:nD b ob i) (bc:(ob.aB.length:Int)=i) (b8:mC db bs ob er) (ca:St h g (aS []) db [er,[(c8,Obj.cells fE 25 (0,0))]] et),At (bP prog B 30 f30 R) [] 13 [(4,vP c8),(10,vP bs),(86,vL jj ((((aJ b).1).drop (3:Int).toNat).length) n171),(87,vI ((((aJ b).1).drop (3:Int).toNat).length:Int)),(88,vI i)] et:=by
   intro m;induction m with
   |zero=>intros;omega
   |succ m ex=>
    intro db dc ob i er et hm h0 h1 hB hP bc b8 ca
    replace Y:=Y.mono dc
    replace da:=da.mono dc
    refine At.go 14 1 [(89,.bool (decide (i<((((aJ b).1).drop (3:Int).toNat).length:Int))))]<|At.fd (i<((((aJ b).1).drop (3:Int).toNat).length:Int)) 89 15 23 (fun sA=>?_) fun sB=>?_
    ·refine At.rg 3 ?_
     obtain⟨u,bd⟩:=bW (((aJ b).1).drop (3:Int).toNat) i
     obtain⟨j2,g1,sT,s0,kc,kd,eA⟩:=an.bB da _ bd
     cases kc
     refine Op.iq 76 22 1 24 ((((aJ b).1).drop (3:Int).toNat).length) n171 86 88 90 j2 g1 i ?_
     obtain⟨s2,eA,g2⟩:=eA
     obtain⟨eB,n197,rfl⟩:=g2.ak
     refine Op.l1 22 90 91 (g1+i.toNat*1) (vL eB u.length n197) (ca.sub _ _ kd) ?_ (hv:=bN eA 0 rfl)
     refine Op.pg 16 [(12,vL eB u.length n197)]<|At.rp 8 1 [(93,vL eB u.length n197)]<|Op.c0 (some 94) (fv _ _ _ ca.sub Y _ _ g2 true (by((try dsimp only)<;>((have:=Dk bd;omega)))) (by exact IS hB h0 ‹_› d2)) ca ?_
     rintro _ kh _ s3 kk kl ⟨s4,s5,rfl,g3,g4,rfl⟩
     obtain⟨cb,ce,rfl⟩:=g3.ak
     obtain⟨cf,ch,rfl⟩:=g4.ak
     replace b8:=b8.mono kk
     refine Op.px 3 [(95,.agg #[vI (((aT true u).1).ah),vS (((aT true u).1).af),vL cb ((((aT true u).1).Data).length) ce,vI (((aT true u).1).ai),vI (((aT true u).1).aI),.bool (((aT true u).1).aV),.bool (((aT true u).1).aK),.bool (((aT true u).1).au),vL cf ((((aT true u).1).aB).length) ch]),(96,.bool ((aT true u).2))]<|Op.al 13 25 fE kl fun s8 ta km=>Op.sg 25 13 95 0 0 #[vI (((aT true u).1).ah),vS (((aT true u).1).af),vL cb ((((aT true u).1).Data).length) ce,vI (((aT true u).1).ai),vI (((aT true u).1).aI),.bool (((aT true u).1).aV),.bool (((aT true u).1).aK),.bool (((aT true u).1).au),vL cf ((((aT true u).1).aB).length) ch] km zt fun te g5=>Op.pg 17 [(14,.bool ((aT true u).2))]<|At.go 18 2 [(98,.bool (!((aT true u).2)))] ?_
     refine At.cW (!((aT true u).2)) 98 19 21 (fun g6=>?_) fun g7=>?_
     ·replace g6:=(dn g6)
      exact At.rp 3 1 [(99,.agg fE)]<|Op.sg 25 4 99 0 2 fE g5 zt fun ti g8=>Op.pg 20 [(5,vF)]<|At.rn f30 qP [.cell 4 25,.tmp 5] ⟨⟨_,_,rfl,cq (n:=9) (by kernel_rfl) (g8.ag 2 rfl) (by kernel_rfl) rfl⟩,rfl,trivial⟩ (hR g8.drop.drop.drop ⟨vN,vN,bA (by(rw[qN hB bd ‹_›];rfl)) (bn (by(rw[qN hB bd ‹_›];done))),bl (an.empty _ _ _ _ _) (by(rw[qN hB bd ‹_›];rfl)),bl (an.empty _ _ _ _ _) (by(rw[qN hB bd ‹_›];rfl)),rfl⟩)
     replace g7:=(dr g7)
     refine At.rp 7 1 [(100,vQ bs 8)] ?_
     obtain⟨tk,tl,kv,kw,g9,ha⟩:=b8
     obtain⟨kx,kA,rfl⟩:=g9.ak
     obtain⟨k0,n228,rfl⟩:=ha.ak
     have eI:=St.un [kv] kw (g5.fs [1] rfl)
     refine Op.l1 23 100 101 8 (vL k0 ob.aB.length n228) (eI.ag 0 rfl)<|Op.la 25 13 102 0 9 [vI (((aT true u).1).ah),vS (((aT true u).1).af),vL cb ((((aT true u).1).Data).length) ce,vI (((aT true u).1).ai),vI (((aT true u).1).aI),.bool (((aT true u).1).aV),.bool (((aT true u).1).aK),.bool (((aT true u).1).au),vL cf ((((aT true u).1).aB).length) ch] (eI.ag 2 rfl)<|Op.ls 103 1 25 #[vI (((aT true u).1).ah),vS (((aT true u).1).af),vL cb ((((aT true u).1).Data).length) ce,vI (((aT true u).1).ai),vI (((aT true u).1).aI),.bool (((aT true u).1).aV),.bool (((aT true u).1).aK),.bool (((aT true u).1).au),vL cf ((((aT true u).1).aB).length) ch] eI fun tm tp hb=>Op.ap 101 103 23 23 104 25 96 dy (ys:=[((aT true u).1)]) ha hb 2 (⟨_,_,rfl,(k9.2 ⟨_,_,g3,g4,rfl⟩),Reads.nil⟩) (by(have:=zW ‹_› bc;simp only[bJ,cF];omega)) (fun _ _ _=>trivial) (cT.lit (m:=1) (sz:=9) (hb.ag 0 rfl) (news:=[vI (((aT true u).1).ah),vS (((aT true u).1).af),vL cb ((((aT true u).1).Data).length) ce,vI (((aT true u).1).ai),vI (((aT true u).1).aI),.bool (((aT true u).1).aV),.bool (((aT true u).1).aK),.bool (((aT true u).1).au),vL cf ((((aT true u).1).aB).length) ch]) rfl rfl (by simp[Value.oneCell']) _) fun tt tx tz he k1 tA=>?_
     obtain⟨hf,n241,rfl⟩:=he.ak
     refine Op.px 1 [(105,vQ bs 8)]<|Op.s1 23 105 104 8 (vL hf ((ob.aB++([((aT true u).1)])).length) n241) 0 #[vI ob.ah,vS ob.af,vL kx ob.Data.length kA,vI ob.ai,vI ob.aI,.bool ob.aV,.bool ob.aK,.bool ob.au,vL hf ((ob.aB++([((aT true u).1)])).length) n241] ((k1).drop) zt fun tB k2=>Op.gt 22<|At.rg 2<|Op.cO 106 (i+1) (by omega) (by(have:=zW ‹_› bc;omega)) ?_
     refine Op.pg 13 [(88,vI (i+1))] ?_
     obtain⟨tR,k3,k4⟩:=St.bF (Q:=mC kh bs (⟨ob.ah,ob.af,ob.Data,ob.ai,ob.aI,ob.aV,ob.aK,ob.au,ob.aB++([((aT true u).1)])⟩:aR)) 2 k2 ⟨_,_,_,rfl,g9,he⟩
     exact At.ke (ex _ (aM.trans dc (by repeat (first|assumption|apply aM.trans))) (⟨ob.ah,ob.af,ob.Data,ob.ai,ob.aI,ob.aV,ob.aK,ob.au,ob.aB++([((aT true u).1)])⟩:aR) (i+1) _ _ (by omega) (by omega) (by omega) (by omega) (by exact Dl hP h0 bd ‹_›) (by(simp only[b_,bJ,cF];omega)) k3 ((k4.fs [1] rfl).drop))
    refine At.rg 3 ?_
    obtain⟨tS,t0,k5,k6,dd,hh⟩:=b8
    obtain⟨df,n257,rfl⟩:=dd.ak
    obtain⟨dg,dj,rfl⟩:=hh.ak
    have hj:=St.un [k5] k6 ca
    refine Op.la 25 10 107 0 9 [vI ob.ah,vS ob.af,vL df ob.Data.length n257,vI ob.ai,vI ob.aI,.bool ob.aV,.bool ob.aK,.bool ob.au,vL dg ob.aB.length dj] (hj.ag 0 rfl)<|Op.sg 25 4 107 0 2 #[vI ob.ah,vS ob.af,vL df ob.Data.length n257,vI ob.ai,vI ob.aI,.bool ob.aV,.bool ob.aK,.bool ob.au,vL dg ob.aB.length dj] hj zt fun t1 k7=>Op.pg 24 [(5,vT)] ?_
    obtain⟨t2,hn,k8,lb⟩:=aH.freeze hh (k7.fs [1] rfl)
    replace dd:=dd.mono k8
    exact At.rn f30 [.agg #[vI ob.ah,vS ob.af,vL df ob.Data.length n257,vI ob.ai,vI ob.aI,.bool ob.aV,.bool ob.aK,.bool ob.au,vL dg ob.aB.length dj],vT] [.cell 4 25,.tmp 5] ⟨⟨_,_,rfl,cq (n:=9) (by kernel_rfl) (hn.ag 1 rfl) (by kernel_rfl) rfl⟩,rfl,trivial⟩ (hR hn.drop.drop ⟨(vL df ob.Data.length n257),(vL dg ob.aB.length dj),bA (by(rw[qO hB hP ‹_›];done)) (bn (by(rw[qO hB hP ‹_›];done))),bl dd (by(rw[qO hB hP ‹_›];done)),bl lb (by(rw[qO hB hP ‹_›];done)),rfl⟩)
  exact At.ke (ep _ _ (aM.refl _) (⟨bk,bo,b6,bb-1,bm,(G % 2) != 0,(G / 2 % 2*2) != 0,(G / 4 % 2*4) != 0,([]:List aR)⟩:aR) 0 _ _ (bG _) (by omega) (by omega) (by exact zU ‹_› ‹_› (by exact .inr ‹_›) a1 ‹_› ae ‹_›) (by exact zV (IQ a1 gg gn gc c9 ge ae)) (by rfl) jt j1)
 refine Op.pg 3 [(34,vF)]<|At.cQ 34 6<|At.rp 9 1 [(37,vL d3 (((aJ b).1).length) X)] ?_
 obtain⟨O,a3⟩:=bW ((aJ b).1) 0
 obtain⟨be,a5,t3,t4,lc,eJ,eK⟩:=an.bB ab _ a3
 cases lc
 refine Op.iq 76 22 1 24 (((aJ b).1).length) X 37 (.const (vI 0)) 38 be a5 0 ?_
 obtain⟨t5,eK,ho⟩:=eK
 obtain⟨lh,li,rfl⟩:=ho.ak
 refine Op.l1 22 38 39 (a5+(0:Int).toNat*1) (vL lh O.length li) (a6.sub _ _ eJ) ?_ (hv:=bN eK 0 rfl)
 refine Op.c0 (some 40) (Ae _ _ _ a6.sub Y _ _ ho 4 (by((try dsimp only)<;>((have:=oP a3;omega))))) a6 ?_
 rintro _ eL _ t6 eQ ar ⟨t7,rfl,a8,rfl⟩
 obtain⟨hp,n285,rfl⟩:=a8.ak
 replace eJ:=eQ _ _ eJ
 replace Y:=Y.mono eQ
 replace ab:=ab.mono eQ
 refine Op.pg 7 [(8,vL hp (((bh O).1).length) n285),(9,.bool (fc O 4))]<|At.rp 8 3 [(45,.bool (!(fc O 4)))]<|Op.wb (!(fc O 4)) 45 (fun hq=>?_) fun hr=>?_
 ·replace hq:=(dn hq)
  refine Op.pg 8 [(50,vT)]<|At.bT 50 9<|At.rp 3 1 [(51,.agg fE)]<|Op.sg 25 4 51 0 0 fE ar zt fun t8 hs=>Op.pg 10 [(5,vF)] ?_
  exact At.rn f30 qP [.cell 4 25,.tmp 5] ⟨⟨_,_,rfl,cq (n:=9) (by kernel_rfl) (hs.ag 0 rfl) (by kernel_rfl) rfl⟩,rfl,trivial⟩ (hR hs.drop ⟨vN,vN,bA (by(rw[fT (lT a3 ‹_›)];rfl)) (bn (by(rw[fT (lT a3 ‹_›)];done))),bl (an.empty _ _ _ _ _) (by(rw[fT (lT a3 ‹_›)];rfl)),bl (an.empty _ _ _ _ _) (by(rw[fT (lT a3 ‹_›)];rfl)),rfl⟩)
 replace hr:=(dr hr)
 refine Op.px 1 [(46,vL hp (((bh O).1).length) n285)] ?_
 obtain⟨I,aw⟩:=jo (l:=(bh O).1) (i:=3) (by(have:=fo ‹_›;omega))
 obtain⟨a0,V,t9,ub,lj,lk,e1⟩:=an.bB a8 _ aw
 cases lj
 refine Op.ix 78 3 1 8 (((bh O).1).length) n285 46 (.const (vI 3)) 47 a0 V 3 (by omega) (by(have:=fo ‹_›;omega)) ?_
 replace e1:cut _ _ _=[vI I]:=e1
 refine Op.l1 3 47 48 (V+(3:Int).toNat*1) (vI I) (ar.sub _ _ lk) ?_ (hv:=bN e1 0 rfl)
 refine Op.pg 8 [(50,.bool (decide (I>7)))]<|At.fd (I>7) 50 9 11 (fun ui=>?_) fun ul=>?_
 ·exact At.rp 3 1 [(51,.agg fE)]<|Op.sg 25 4 51 0 0 fE ar zt fun us hu=>Op.pg 10 [(5,vF)]<|At.rn f30 qP [.cell 4 25,.tmp 5] ⟨⟨_,_,rfl,cq (n:=9) (by kernel_rfl) (hu.ag 0 rfl) (by kernel_rfl) rfl⟩,rfl,trivial⟩ (hR hu.drop ⟨vN,vN,bA (by(rw[fT (n9 a3 aw ‹_›)];rfl)) (bn (by(rw[fT (n9 a3 aw ‹_›)];done))),bl (an.empty _ _ _ _ _) (by(rw[fT (n9 a3 aw ‹_›)];rfl)),bl (an.empty _ _ _ _ _) (by(rw[fT (n9 a3 aw ‹_›)];rfl)),rfl⟩)
 refine At.dw (fun _=>False) [(0,true),(1,true),(3,true),(4,true),(7,true),(8,true),(10,true),(11,true),(15,true),(16,true),(20,true),(21,true),(25,true),(26,true),(29,true),(30,true),(2,true),(5,true),(6,true),(9,true),(12,true),(13,true),(14,true),(17,true),(18,true),(19,true),(22,true),(23,true),(24,true),(27,true),(28,true),(31,true),(32,true),(33,false),(1034,false),(34,false)]<|Op.px 1 [(52,vL (some ⟨a0,V,none⟩) (((bh O).1).length) n285)] ?_
 obtain⟨bt,hw⟩:=jo (l:=(bh O).1) (i:=0) (by(have:=fo ‹_›;omega))
 obtain⟨ut,u1,u2,u3,ll,lm,e2⟩:=an.bB a8 _ hw
 cases ll
 refine Op.ix 78 3 1 8 (((bh O).1).length) n285 52 (.const (vI 0)) 53 a0 V 0 (by omega) (by(have:=fo ‹_›;omega)) ?_
 replace e2:cut _ _ _=[vI bt]:=e2
 refine Op.px 1 [(55,vL (some ⟨a0,V,none⟩) (((bh O).1).length) n285)] ?_
 obtain⟨bi,dk⟩:=jo (l:=(bh O).1) (i:=1) (by(have:=fo ‹_›;omega))
 obtain⟨u4,vd,ve,vo,ln,lr,e3⟩:=an.bB a8 _ dk
 cases ln
 refine Op.ix 78 3 1 8 (((bh O).1).length) n285 55 (.const (vI 1)) 56 a0 V 1 (by omega) (by(have:=fo ‹_›;omega)) ?_
 replace e3:cut _ _ _=[vI bi]:=e3
 refine Op.px 1 [(59,vL (some ⟨a0,V,none⟩) (((bh O).1).length) n285)] ?_
 obtain⟨b3,hx⟩:=jo (l:=(bh O).1) (i:=2) (by(have:=fo ‹_›;omega))
 obtain⟨vx,vy,v2,v3,lv,lw,e4⟩:=an.bB a8 _ hx
 cases lv
 refine Op.ix 78 3 1 8 (((bh O).1).length) n285 59 (.const (vI 2)) 60 a0 V 2 (by omega) (by(have:=fo ‹_›;omega)) ?_
 replace e4:cut _ _ _=[vI b3]:=e4
 refine Op.px 1 [(62,vL (some ⟨a0,V,none⟩) (((bh O).1).length) n285)] ?_
 obtain⟨v4,v5,v6,v8,lx,ly,e5⟩:=an.bB a8 _ aw
 cases lx
 refine Op.ix 78 3 1 8 (((bh O).1).length) n285 62 (.const (vI 3)) 63 a0 V 3 (by omega) (by(have:=fo ‹_›;omega)) ?_
 replace e5:cut _ _ _=[vI I]:=e5
 refine Op.px 1 [(67,vL (some ⟨a0,V,none⟩) (((bh O).1).length) n285)] ?_
 obtain⟨v9,wa,wc,wi,lA,lL,e6⟩:=an.bB a8 _ aw
 cases lA
 refine Op.ix 78 3 1 8 (((bh O).1).length) n285 67 (.const (vI 3)) 68 a0 V 3 (by omega) (by(have:=fo ‹_›;omega)) ?_
 replace e6:cut _ _ _=[vI I]:=e6
 refine Op.px 1 [(72,vL (some ⟨a0,V,none⟩) (((bh O).1).length) n285)] ?_
 obtain⟨wn,wp,wr,wt,lO,l0,e7⟩:=an.bB a8 _ aw
 cases lO
 refine Op.ix 78 3 1 8 (((bh O).1).length) n285 72 (.const (vI 3)) 73 a0 V 3 (by omega) (by(have:=fo ‹_›;omega)) ?_
 replace e7:cut _ _ _=[vI I]:=e7
 refine Op.px 1 [(77,vL (some ⟨be,a5,none⟩) (((aJ b).1).length) X)] ?_
 obtain⟨b4,hy⟩:=bW ((aJ b).1) 1
 obtain⟨ww,wx,wy,w0,l2,l3,e8⟩:=an.bB ab _ hy
 cases l2
 refine Op.iq 76 22 1 24 (((aJ b).1).length) X 77 (.const (vI 1)) 78 be a5 1 ?_
 obtain⟨w1,e8,hz⟩:=e8
 obtain⟨l4,l8,rfl⟩:=hz.ak
 refine Op.px 1 [(81,vL (some ⟨be,a5,none⟩) (((aJ b).1).length) X)] ?_
 obtain⟨ci,hA⟩:=bW ((aJ b).1) 2
 obtain⟨w2,w3,w7,xa,ma,md,e9⟩:=an.bB ab _ hA
 cases ma
 refine Op.iq 76 22 1 24 (((aJ b).1).length) X 81 (.const (vI 2)) 82 be a5 2 ?_
 obtain⟨xc,e9,hC⟩:=e9
 obtain⟨fa,fg,rfl⟩:=hC.ak
 refine Op.ez (T:=3) (x:=53) (o:=V+(0:Int).toNat*1) (d:=54) (n:=1) (v:=vI bt) (by kernel_rfl) (by kernel_rfl) (by kernel_rfl) id (ar.sub _ _ lm) (bN e2 0 rfl)<|Op.ez (T:=3) (x:=56) (o:=V+(1:Int).toNat*1) (d:=57) (n:=1) (v:=vI bi) (by kernel_rfl) (by kernel_rfl) (by kernel_rfl) id (ar.sub _ _ lr) (bN e3 0 rfl)<|Op.cO 58 (bi-1) (by(have:=gT dk;omega)) (by(have:=gT dk;omega))<|Op.ez (T:=3) (x:=60) (o:=V+(2:Int).toNat*1) (d:=61) (n:=1) (v:=vI b3) (by kernel_rfl) (by kernel_rfl) (by kernel_rfl) id (ar.sub _ _ lw) (bN e4 0 rfl)<|Op.ez (T:=3) (x:=63) (o:=V+(3:Int).toNat*1) (d:=64) (n:=1) (v:=vI I) (by kernel_rfl) (by kernel_rfl) (by kernel_rfl) id (ar.sub _ _ ly) (bN e5 0 rfl) ?_
 refine Op.vl 65 (.int .i64 (IntKind.wrap .i64 (((BitVec.ofInt (IntKind.bits .i64) I &&& BitVec.ofInt (IntKind.bits .i64) (1:Int)).toNat:Nat):Int))) (.int .i64 (I % 2)) (IJ (by have:=gT aw;omega) (by omega))<|Op.px 1 [(66,.bool ((I % 2) != 0))]<|Op.ez (T:=3) (x:=68) (o:=V+(3:Int).toNat*1) (d:=69) (n:=1) (v:=vI I) (by kernel_rfl) (by kernel_rfl) (by kernel_rfl) id (ar.sub _ _ lL) (bN e6 0 rfl)<|Op.vl 70 (.int .i64 (IntKind.wrap .i64 (((BitVec.ofInt (IntKind.bits .i64) I &&& BitVec.ofInt (IntKind.bits .i64) (2:Int)).toNat:Nat):Int))) (.int .i64 (I / 2 % 2*2)) (IK (by have:=gT aw;omega) (by omega))<|Op.px 1 [(71,.bool ((I / 2 % 2*2) != 0))] ?_
 refine Op.ez (T:=3) (x:=73) (o:=V+(3:Int).toNat*1) (d:=74) (n:=1) (v:=vI I) (by kernel_rfl) (by kernel_rfl) (by kernel_rfl) id (ar.sub _ _ l0) (bN e7 0 rfl)<|Op.vl 75 (.int .i64 (IntKind.wrap .i64 (((BitVec.ofInt (IntKind.bits .i64) I &&& BitVec.ofInt (IntKind.bits .i64) (4:Int)).toNat:Nat):Int))) (.int .i64 (I / 4 % 2*4)) (IL (by have:=gT aw;omega) (by omega))<|Op.px 1 [(76,.bool ((I / 4 % 2*4) != 0))]<|Op.ez (T:=22) (x:=78) (o:=a5+(1:Int).toNat*1) (d:=79) (n:=1) (v:=vL l4 b4.length l8) (by kernel_rfl) (by kernel_rfl) (by kernel_rfl) id (ar.sub _ _ l3) (bN e8 0 rfl)<|Op.sQ (T:=22) (S:=9) (E:=5) (x:=79) (dst:=80) (l:=b4) (by kernel_rfl) (by kernel_rfl) (by kernel_rfl) (by kernel_rfl) (by kernel_rfl) hz ar.sub (fun _ _ _ h=>h) ?_
 refine Op.ez (T:=22) (x:=82) (o:=a5+(2:Int).toNat*1) (d:=83) (n:=1) (v:=vL fa ci.length fg) (by kernel_rfl) (by kernel_rfl) (by kernel_rfl) id (ar.sub _ _ md) (bN e9 0 rfl)<|Op.px 1 [(84,.agg #[vI bt,vS b4,vL fa ci.length fg,vI (bi-1),vI b3,.bool ((I % 2) != 0),.bool ((I / 2 % 2*2) != 0),.bool ((I / 4 % 2*4) != 0),vN])]<|Op.al 10 25 fE ar fun b5 xf mf=>Op.ba<|Op.sg 25 10 84 0 0 #[vI bt,vS b4,vL fa ci.length fg,vI (bi-1),vI b3,.bool ((I % 2) != 0),.bool ((I / 2 % 2*2) != 0),.bool ((I / 4 % 2*4) != 0),vN] mf zt fun xi mi=>?_
 refine Op.gt 12<|At.rp 4 1 [(85,vL (some ⟨be,a5,none⟩) (((aJ b).1).length) X)]<|Op.pJ (T:=76) (E:=22) (cK:=24) (x:=85) (ao:=(some ⟨be,a5,none⟩)) (n:=(((aJ b).1).length)) (c:=X) (dst:=86) (d:=(fI 5 a_)) (lo:=(.const (vI 3))) (k:=.i64) (m:=3) (by kernel_rfl) (by kernel_rfl) (by kernel_rfl) (by kernel_rfl) ab (by omega) (by omega) fun xn dl=>?_
 obtain⟨ml,hD,rfl⟩:=dl.ak
 refine Op.pg 13 [(87,vI ((((aJ b).1).drop (3:Int).toNat).length:Int)),(88,vI 0)] ?_
 have mp:=aH.nil 25 dy eL
 obtain⟨xr,mx,my⟩:=St.bF (Q:=mC eL b5 (⟨bt,b4,ci,bi-1,b3,(I % 2) != 0,(I / 2 % 2*2) != 0,(I / 4 % 2*4) != 0,([]:List aR)⟩:aR)) 2 (mi.nl.fs [1] rfl) ⟨_,_,_,rfl,hC,mp⟩
 have ep:∀(m:Nat) (dp:GH) (dq:aM eL dp) (ob:aR) (i:Int) (fi:az) (fj:ay) (hm:((aJ b).1.drop (3:Int).toNat).length-i.toNat<m) (h0:0≤i) (h1:i≤((aJ b).1.drop (3:Int).toNat).length) (hB:fS inner b=true) (hP:nD b ob i) (bc:(ob.aB.length:Int)=i) (ck:mC dp b5 ob fi) (co:St h g (aS []) dp [fi,[(c8,Obj.cells fE 25 (0,0))]] fj),At (bP prog B 30 f30 R) [] 13 [(4,vP c8),(10,vP b5),(86,vL ml ((((aJ b).1).drop (3:Int).toNat).length) hD),(87,vI ((((aJ b).1).drop (3:Int).toNat).length:Int)),(88,vI i)] fj:=by
  intro m;induction m with
  |zero=>intros;omega
  |succ m ex=>
   intro dp dq ob i fi fj hm h0 h1 hB hP bc ck co
   replace Y:=Y.mono dq
   replace dl:=dl.mono dq
   refine At.go 14 1 [(89,.bool (decide (i<((((aJ b).1).drop (3:Int).toNat).length:Int))))]<|At.fd (i<((((aJ b).1).drop (3:Int).toNat).length:Int)) 89 15 23 (fun xt=>?_) fun xv=>?_
   ·refine At.rg 3 ?_
    obtain⟨D,bj⟩:=bW (((aJ b).1).drop (3:Int).toNat) i
    obtain⟨m0,hE,yi,yk,m1,m2,fl⟩:=an.bB dl _ bj
    cases m1
    refine Op.iq 76 22 1 24 ((((aJ b).1).drop (3:Int).toNat).length) hD 86 88 90 m0 hE i ?_
    obtain⟨yn,fl,hF⟩:=fl
    obtain⟨fp,fr,rfl⟩:=hF.ak
    refine Op.l1 22 90 91 (hE+i.toNat*1) (vL fp D.length fr) (co.sub _ _ m2) ?_ (hv:=bN fl 0 rfl)
    refine Op.pg 16 [(12,vL fp D.length fr)]<|At.rp 8 1 [(93,vL fp D.length fr)]<|Op.c0 (some 94) (fv _ _ _ co.sub Y _ _ hF true (by((try dsimp only)<;>((have:=Dk bj;omega)))) (by exact IS hB h0 ‹_› d2)) co ?_
    rintro _ m3 _ yr m4 m5 ⟨yv,y7,rfl,hG,hH,rfl⟩
    obtain⟨c3,c4,rfl⟩:=hG.ak
    obtain⟨c5,c6,rfl⟩:=hH.ak
    replace ck:=ck.mono m4
    refine Op.px 3 [(95,.agg #[vI (((aT true D).1).ah),vS (((aT true D).1).af),vL c3 ((((aT true D).1).Data).length) c4,vI (((aT true D).1).ai),vI (((aT true D).1).aI),.bool (((aT true D).1).aV),.bool (((aT true D).1).aK),.bool (((aT true D).1).au),vL c5 ((((aT true D).1).aB).length) c6]),(96,.bool ((aT true D).2))]<|Op.al 13 25 fE m5 fun y8 z0 m6=>Op.sg 25 13 95 0 0 #[vI (((aT true D).1).ah),vS (((aT true D).1).af),vL c3 ((((aT true D).1).Data).length) c4,vI (((aT true D).1).ai),vI (((aT true D).1).aI),.bool (((aT true D).1).aV),.bool (((aT true D).1).aK),.bool (((aT true D).1).au),vL c5 ((((aT true D).1).aB).length) c6] m6 zt fun z1 hI=>Op.pg 17 [(14,.bool ((aT true D).2))]<|At.go 18 2 [(98,.bool (!((aT true D).2)))] ?_
    refine At.cW (!((aT true D).2)) 98 19 21 (fun hJ=>?_) fun hK=>?_
    ·replace hJ:=(dn hJ)
     exact At.rp 3 1 [(99,.agg fE)]<|Op.sg 25 4 99 0 2 fE hI zt fun z2 hL=>Op.pg 20 [(5,vF)]<|At.rn f30 qP [.cell 4 25,.tmp 5] ⟨⟨_,_,rfl,cq (n:=9) (by kernel_rfl) (hL.ag 2 rfl) (by kernel_rfl) rfl⟩,rfl,trivial⟩ (hR hL.drop.drop.drop ⟨vN,vN,bA (by(rw[qN hB bj ‹_›];rfl)) (bn (by(rw[qN hB bj ‹_›];done))),bl (an.empty _ _ _ _ _) (by(rw[qN hB bj ‹_›];rfl)),bl (an.empty _ _ _ _ _) (by(rw[qN hB bj ‹_›];rfl)),rfl⟩)
    replace hK:=(dr hK)
    refine At.rp 7 1 [(100,vQ b5 8)] ?_
    obtain⟨z3,z4,m7,m8,hN,hO⟩:=ck
    obtain⟨m9,na,rfl⟩:=hN.ak
    obtain⟨nb,nd,rfl⟩:=hO.ak
    have ft:=St.un [m7] m8 (hI.fs [1] rfl)
    refine Op.l1 23 100 101 8 (vL nb ob.aB.length nd) (ft.ag 0 rfl)<|Op.la 25 13 102 0 9 [vI (((aT true D).1).ah),vS (((aT true D).1).af),vL c3 ((((aT true D).1).Data).length) c4,vI (((aT true D).1).ai),vI (((aT true D).1).aI),.bool (((aT true D).1).aV),.bool (((aT true D).1).aK),.bool (((aT true D).1).au),vL c5 ((((aT true D).1).aB).length) c6] (ft.ag 2 rfl)<|Op.ls 103 1 25 #[vI (((aT true D).1).ah),vS (((aT true D).1).af),vL c3 ((((aT true D).1).Data).length) c4,vI (((aT true D).1).ai),vI (((aT true D).1).aI),.bool (((aT true D).1).aV),.bool (((aT true D).1).aK),.bool (((aT true D).1).au),vL c5 ((((aT true D).1).aB).length) c6] ft fun z5 z6 hQ=>Op.ap 101 103 23 23 104 25 96 dy (ys:=[((aT true D).1)]) hO hQ 2 (⟨_,_,rfl,(k9.2 ⟨_,_,hG,hH,rfl⟩),Reads.nil⟩) (by(have:=zW ‹_› bc;simp only[bJ,cF];omega)) (fun _ _ _=>trivial) (cT.lit (m:=1) (sz:=9) (hQ.ag 0 rfl) (news:=[vI (((aT true D).1).ah),vS (((aT true D).1).af),vL c3 ((((aT true D).1).Data).length) c4,vI (((aT true D).1).ai),vI (((aT true D).1).aI),.bool (((aT true D).1).aV),.bool (((aT true D).1).aK),.bool (((aT true D).1).au),vL c5 ((((aT true D).1).aB).length) c6]) rfl rfl (by simp[Value.oneCell']) _) fun z7 z8 z9 hS nf A0=>?_
    obtain⟨hT,hV,rfl⟩:=hS.ak
    refine Op.px 1 [(105,vQ b5 8)]<|Op.s1 23 105 104 8 (vL hT ((ob.aB++([((aT true D).1)])).length) hV) 0 #[vI ob.ah,vS ob.af,vL m9 ob.Data.length na,vI ob.ai,vI ob.aI,.bool ob.aV,.bool ob.aK,.bool ob.au,vL hT ((ob.aB++([((aT true D).1)])).length) hV] ((nf).drop) zt fun A1 nm=>Op.gt 22<|At.rg 2<|Op.cO 106 (i+1) (by omega) (by(have:=zW ‹_› bc;omega)) ?_
    refine Op.pg 13 [(88,vI (i+1))] ?_
    obtain⟨CH,nn,no⟩:=St.bF (Q:=mC m3 b5 (⟨ob.ah,ob.af,ob.Data,ob.ai,ob.aI,ob.aV,ob.aK,ob.au,ob.aB++([((aT true D).1)])⟩:aR)) 2 nm ⟨_,_,_,rfl,hN,hS⟩
    exact At.ke (ex _ (aM.trans dq (by repeat (first|assumption|apply aM.trans))) (⟨ob.ah,ob.af,ob.Data,ob.ai,ob.aI,ob.aV,ob.aK,ob.au,ob.aB++([((aT true D).1)])⟩:aR) (i+1) _ _ (by omega) (by omega) (by omega) (by omega) (by exact Dl hP h0 bj ‹_›) (by(simp only[b_,bJ,cF];omega)) nn ((no.fs [1] rfl).drop))
   refine At.rg 3 ?_
   obtain⟨CM,Eq,np,nu,du,hW⟩:=ck
   obtain⟨dv,dC,rfl⟩:=du.ak
   obtain⟨dE,dT,rfl⟩:=hW.ak
   have hX:=St.un [np] nu co
   refine Op.la 25 10 107 0 9 [vI ob.ah,vS ob.af,vL dv ob.Data.length dC,vI ob.ai,vI ob.aI,.bool ob.aV,.bool ob.aK,.bool ob.au,vL dE ob.aB.length dT] (hX.ag 0 rfl)<|Op.sg 25 4 107 0 2 #[vI ob.ah,vS ob.af,vL dv ob.Data.length dC,vI ob.ai,vI ob.aI,.bool ob.aV,.bool ob.aK,.bool ob.au,vL dE ob.aB.length dT] hX zt fun EQ nx=>Op.pg 24 [(5,vT)] ?_
   obtain⟨Fd,hY,nz,n0⟩:=aH.freeze hW (nx.fs [1] rfl)
   replace du:=du.mono nz
   exact At.rn f30 [.agg #[vI ob.ah,vS ob.af,vL dv ob.Data.length dC,vI ob.ai,vI ob.aI,.bool ob.aV,.bool ob.aK,.bool ob.au,vL dE ob.aB.length dT],vT] [.cell 4 25,.tmp 5] ⟨⟨_,_,rfl,cq (n:=9) (by kernel_rfl) (hY.ag 1 rfl) (by kernel_rfl) rfl⟩,rfl,trivial⟩ (hR hY.drop.drop ⟨(vL dv ob.Data.length dC),(vL dE ob.aB.length dT),bA (by(rw[qO hB hP ‹_›];done)) (bn (by(rw[qO hB hP ‹_›];done))),bl du (by(rw[qO hB hP ‹_›];done)),bl n0 (by(rw[qO hB hP ‹_›];done)),rfl⟩)
 exact At.ke (ep _ _ (aM.refl _) (⟨bt,b4,ci,bi-1,b3,(I % 2) != 0,(I / 2 % 2*2) != 0,(I / 4 % 2*4) != 0,([]:List aR)⟩:aR) 0 _ _ (bG _) (by omega) (by omega) (by exact zU ‹_› ‹_› (by exact .inl ‹_›) a3 ‹_› aw ‹_›) (by exact zV (IQ a3 hy hA hw dk hx aw)) (by rfl) mx my)
theorem Qd (B:World) (h:ay) (g:GH) (hg:bu g h) (D:bz g) (u:Value) (b:aj) (G:an g 5 a_ u b) (inner:Bool) (hl:b.length≤1000000000):aG prog B 30 #[u,.bool inner] h g [] (fun I g' L'=>∃v0 v1,I=.tuple #[.agg #[.int .i64 (((aT inner b).1).ah),.string (br (((aT inner b).1).af)),v0,.int .i64 (((aT inner b).1).ai),.int .i64 (((aT inner b).1).aI),.bool (((aT inner b).1).aV),.bool (((aT inner b).1).aK),.bool (((aT inner b).1).au),v1],.bool ((aT inner b).2)]∧an g' 5 a_ v0 (((aT inner b).1).Data)∧an g' 25 dy v1 (((aT inner b).1).aB)∧L'=[]):=Qc _ B h g hg D u b G inner hl (bG _)
theorem DD (B:World) (h:ay) (g:GH) (hg:bu g h) (I:bz g) (Y:Value) (b:aj) (Z:an g 5 a_ Y b) (hl:b.length≤1000000000):
  aG prog B 12 #[Y] h g [] (fun a3 g' L'=>∃v0 v1,a3=.tuple #[.agg #[.int .i64 (((aD b).1).ah),.string (br (((aD b).1).af)),v0,.int .i64 (((aD b).1).ai),.int .i64 (((aD b).1).aI),.bool (((aD b).1).aV),.bool (((aD b).1).aK),.bool (((aD b).1).au),v1],.int .i64 ((aD b).2)]∧an g' 5 a_ v0 (((aD b).1).Data)∧an g' 25 dy v1 (((aD b).1).aB)∧L'=[]):=by
 obtain⟨a4,a5,rfl⟩:=Z.ak
 refine aG.aq func12 fun R hR=>At.rg 2<|Op.al 2 25 fE (St.init hg) fun a9 bb O=>Op.pg 1 []<|At.go 2 3 [(8,.bool (decide ((b.length:Int)>1024)))] ?_
 refine At.fd ((b.length:Int)>1024) 8 3 5 (fun bc=>?_) fun bd=>?_
 ·exact At.rp 3 1 [(9,.agg fE)]<|Op.sg 25 2 9 0 0 fE O zt fun be ab=>Op.pg 4 [(3,vI 130)]<|At.rn f12 DC [.cell 2 25,.tmp 3] ⟨⟨_,_,rfl,cq (n:=9) (by kernel_rfl) (ab.ag 0 rfl) (by kernel_rfl) rfl⟩,rfl,trivial⟩ (hR ab.drop ⟨vN,vN,bA (by(rw[xB ‹_›];rfl)) (bg (by(rw[xB ‹_›];done))),bl (an.empty _ _ _ _ _) (by(rw[xB ‹_›];rfl)),bl (an.empty _ _ _ _ _) (by(rw[xB ‹_›];rfl)),rfl⟩)
 refine At.rp 8 1 [(11,vL a4 b.length a5)]<|Op.c0 (some 12) (Qd _ _ _ O.sub I _ _ Z false (by(try dsimp only)<;>omega)) O ?_
 rintro _ bi _ bj a6 a7 ⟨bk,bm,rfl,U,V,rfl⟩
 obtain⟨a31,u,rfl⟩:=U.ak
 obtain⟨D,G,rfl⟩:=V.ak
 replace I:=I.mono a6
 refine Op.px 3 [(13,.agg #[vI (((aT false b).1).ah),vS (((aT false b).1).af),vL a31 ((((aT false b).1).Data).length) u,vI (((aT false b).1).ai),vI (((aT false b).1).aI),.bool (((aT false b).1).aV),.bool (((aT false b).1).aK),.bool (((aT false b).1).au),vL D ((((aT false b).1).aB).length) G]),(14,.bool ((aT false b).2))]<|Op.al 4 25 fE a7 fun bo bs a8=>Op.sg 25 4 13 0 0 #[vI (((aT false b).1).ah),vS (((aT false b).1).af),vL a31 ((((aT false b).1).Data).length) u,vI (((aT false b).1).ai),vI (((aT false b).1).aI),.bool (((aT false b).1).aV),.bool (((aT false b).1).aK),.bool (((aT false b).1).au),vL D ((((aT false b).1).aB).length) G] a8 zt fun bt J=>Op.pg 6 [(5,.bool ((aT false b).2))]<|At.rp 7 3 [(17,.bool (!((aT false b).2)))] ?_
 refine Op.wb (!((aT false b).2)) 17 (fun ad=>?_) fun ae=>?_
 ·replace ad:=(dn ad)
  refine Op.pg 7 [(21,vT)]<|At.bT 21 8<|At.rp 3 1 [(22,.agg fE)]<|Op.sg 25 2 22 0 1 fE J zt fun b3 am=>Op.pg 9 [(3,vI 130)] ?_
  exact At.rn f12 DC [.cell 2 25,.tmp 3] ⟨⟨_,_,rfl,cq (n:=9) (by kernel_rfl) (am.ag 1 rfl) (by kernel_rfl) rfl⟩,rfl,trivial⟩ (hR am.drop.drop ⟨vN,vN,bA (by(rw[pZ ‹_› (.inl ‹_›)];rfl)) (bg (by(rw[pZ ‹_› (.inl ‹_›)];done))),bl (an.empty _ _ _ _ _) (by(rw[pZ ‹_› (.inl ‹_›)];rfl)),bl (an.empty _ _ _ _ _) (by(rw[pZ ‹_› (.inl ‹_›)];rfl)),rfl⟩)
 replace ae:=(dr ae)
 refine Op.la 25 4 18 0 9 [vI (((aT false b).1).ah),vS (((aT false b).1).af),vL a31 ((((aT false b).1).Data).length) u,vI (((aT false b).1).ai),vI (((aT false b).1).aI),.bool (((aT false b).1).aV),.bool (((aT false b).1).aK),.bool (((aT false b).1).au),vL D ((((aT false b).1).aB).length) G] (J.ag 0 rfl)<|Op.c1 19 (Jh _ _ _ J.sub I ((aT false b).1) _ U _ V false (by(try dsimp only)<;>exact Dq b)) J fun b4 X=>Op.pg 7 [(21,.bool (!(dh false ((aT false b).1))))]<|At.cW (!(dh false ((aT false b).1))) 21 8 10 (fun ar=>?_) fun aw=>?_
 ·replace ar:=(dn ar)
  exact At.rp 3 1 [(22,.agg fE)]<|Op.sg 25 2 22 0 1 fE X zt fun b5 a0=>Op.pg 9 [(3,vI 130)]<|At.rn f12 DC [.cell 2 25,.tmp 3] ⟨⟨_,_,rfl,cq (n:=9) (by kernel_rfl) (a0.ag 1 rfl) (by kernel_rfl) rfl⟩,rfl,trivial⟩ (hR a0.drop.drop ⟨vN,vN,bA (by(rw[pZ ‹_› (.inr ‹_›)];rfl)) (bg (by(rw[pZ ‹_› (.inr ‹_›)];done))),bl (an.empty _ _ _ _ _) (by(rw[pZ ‹_› (.inr ‹_›)];rfl)),bl (an.empty _ _ _ _ _) (by(rw[pZ ‹_› (.inr ‹_›)];rfl)),rfl⟩)
 replace aw:=(dr aw)
 exact At.rg 3<|Op.la 25 4 23 0 9 [vI (((aT false b).1).ah),vS (((aT false b).1).af),vL a31 ((((aT false b).1).Data).length) u,vI (((aT false b).1).ai),vI (((aT false b).1).aI),.bool (((aT false b).1).aV),.bool (((aT false b).1).aK),.bool (((aT false b).1).au),vL D ((((aT false b).1).aB).length) G] (X.ag 0 rfl)<|Op.sg 25 2 23 0 1 #[vI (((aT false b).1).ah),vS (((aT false b).1).af),vL a31 ((((aT false b).1).Data).length) u,vI (((aT false b).1).ai),vI (((aT false b).1).aI),.bool (((aT false b).1).aV),.bool (((aT false b).1).aK),.bool (((aT false b).1).au),vL D ((((aT false b).1).aB).length) G] X zt fun b6 a1=>Op.pg 11 [(3,vI 0)]<|At.rn f12 [.agg #[vI (((aT false b).1).ah),vS (((aT false b).1).af),vL a31 ((((aT false b).1).Data).length) u,vI (((aT false b).1).ai),vI (((aT false b).1).aI),.bool (((aT false b).1).aV),.bool (((aT false b).1).aK),.bool (((aT false b).1).au),vL D ((((aT false b).1).aB).length) G],vI 0] [.cell 2 25,.tmp 3] ⟨⟨_,_,rfl,cq (n:=9) (by kernel_rfl) (a1.ag 1 rfl) (by kernel_rfl) rfl⟩,rfl,trivial⟩ (hR a1.drop.drop ⟨(vL a31 ((((aT false b).1).Data).length) u),(vL D ((((aT false b).1).aB).length) G),bA (by(rw[xC ‹_› ‹_› ‹_›];done)) (bg (by(rw[xC ‹_› ‹_› ‹_›];done))),bl U (by(rw[xC ‹_› ‹_› ‹_›];done)),bl V (by(rw[xC ‹_› ‹_› ‹_›];done)),rfl⟩)
def eG (g:GH) (b:Nat) (x:Result) (c:az):Prop:=∃v4 v9 u D G,c=(b,.cells #[.int .i64 x.Code,.int .i64 x.aU,.int .i64 x.At,.string (br x.aa.af),v4,.int .i64 x.aa.ai,.int .i64 x.aa.aC,.int .i64 x.aa.Next,.int .i64 x.aa.aF,v9,D] 43 (0,0))::(u++G)∧an g 5 a_ v4 x.aa.Data∧aH 9 cV g v9 x.aX u∧aH 45 cA g D x.aP G
theorem eG.mono {g g':GH} {b:Nat} {x:Result} {c:az} (h:eG g b x c) (hg:aM g g'):eG g' b x c:=by
 obtain⟨v4,v9,u,D,G,e,h0,h1,h2⟩:=h
 exact⟨v4,v9,u,D,G,e,h0.mono hg,h1.mono hg,h2.mono hg⟩
theorem eG.eq {g:GH} {b:Nat} {x y:Result} {c:az} (h:eG g b x c) (e:x=y):eG g b y c:=e▸h
theorem Qe (B:World) (h:ay) (g:GH) (hg:bu g h) (ad:bz g) (V:Value) (l:List Int) (X:an g 3 (dK .i64) V l) (f:Nat) (q:Int→Bool) (hf:eg prog f) (hq:∀(B:World) (h:ay) (g:GH),bu g h→bz g→∀(x:Int),aG prog B f #[.int .i64 x] h g [] (fun v g' L'=>v=.bool (q x)∧g'=g∧L'=[])) (hlen:l.length≤1000000000):
  aG prog B 84 #[V,.func (.func f) #[] #[]] h g [] (fun ae g' L'=>ae=.int .i64 (ek q l)∧g'=g∧L'=[]):=by
 obtain⟨Y,I,rfl⟩:=X.ak
 refine aG.aq func84 fun R hR=>At.go 1 1 []<|At.go 2 3 [(7,vI (l.length:Int)),(8,vI 0)] ?_
 have am:∀(m:Nat) (i:Int) (J:ay) (hm:l.length-i.toNat<m) (h0:0≤i) (h1:i≤l.length) (G:findAt q l i) (u:St h g (aS []) g [] J),At (bP prog B 84 f84 R) [] 2 [(0,vL Y l.length I),(1,.func (.func f) #[] #[]),(7,vI (l.length:Int)),(8,vI i)] J:=by
  intro m;induction m with
  |zero=>intros;omega
  |succ m ar=>
   intro i J hm h0 h1 G u
   refine At.go 3 1 [(9,.bool (decide (i<(l.length:Int))))]<|At.fd (i<(l.length:Int)) 9 4 10 (fun a8=>?_) fun aw=>?_
   ·refine At.go 5 2 [(5,vI i)]<|At.rp 6 3 [(11,.func (.func f) #[] #[]),(12,vL Y l.length I),(13,vI i)] ?_
    obtain⟨D,O⟩:=bW l i
    obtain⟨a0,Z,a9,bb,a1,a3,U⟩:=an.bB X _ O
    cases a1
    refine Op.iq 78 3 1 8 l.length I 12 13 14 a0 Z i ?_
    replace U:cut _ _ _=[vI D]:=U
    refine Op.l1 3 14 15 (Z+i.toNat*1) (vI D) (u.sub _ _ a3) ?_ (hv:=bN U 0 rfl)
    refine Op.cv (some 16) 11 #[15] #[3] f #[] #[] [] [] #[vI D] hf (by kernel_rfl) u (hq _ _ _ u.sub ad D) (fun _ _ h=>absurd h (gP _)) ?_
    rintro _ a4 _ bc a5 ab ⟨rfl,bd,rfl⟩;subst a4;clear a5
    refine Op.gt 6<|At.cW (q D) 16 7 9 (fun a6=>?_) fun a7=>?_
    ·exact At.gr 8 2 4 (vI i) (hR ab ⟨(bg (by exact td G O a6)),rfl,rfl⟩)
    exact At.rg 2<|Op.vq 18 (i+1)<|Op.pg 2 [(8,vI (i+1))] (At.ke (ar (i+1) _ (by omega) (by omega) (by omega) (by exact uO G h0 O a7) ab))
   exact At.gr 11 1 4 (vI (-1)) (hR u ⟨(bg (by exact tf G aw)),rfl,rfl⟩)
 exact At.ke (am _ 0 _ (bG _) (by omega) (by omega) (by exact uN _ _) (St.init hg))
theorem Qf (B:World) (h:ay) (g:GH) (hg:bu g h) (u:bz g) (D:Value) (l:List Int) (G:an g 3 (dK .i64) D l) (f:Nat) (q:Int→Bool) (hf:eg prog f) (hq:∀(B:World) (h:ay) (g:GH),bu g h→bz g→∀(x:Int),aG prog B f #[.int .i64 x] h g [] (fun v g' L'=>v=.bool (q x)∧g'=g∧L'=[])) (hlen:l.length≤1000000000):
  aG prog B 65 #[D,.func (.func f) #[] #[]] h g [] (fun J g' L'=>J=.bool (l.any q)∧g'=g∧L'=[]):=by
 obtain⟨O,U,rfl⟩:=G.ak
 refine aG.aq func65 fun R hR=>?_
 have I:=St.init hg
 exact At.go 1 1 []<|At.rp 5 2 [(5,vL O l.length U),(6,.func (.func f) #[] #[])]<|Op.c1 7 (Qe _ _ _ I.sub u _ _ G f (fun x=>q x) hf (fun B h g hg u x=>hq B h g hg u x) (by(try dsimp only)<;>assumption)) I fun X V=>Op.pr 2 4 (.bool (decide ((ek (fun x=>q x) l)≥0))) (hR V ⟨(bn (by exact uM _ _)),rfl,rfl⟩)
theorem Qg (B:World) (h:ay) (g:GH) (hg:bu g h) (G:bz g) (v:Int):
  aG prog B 66 #[vI v] h g [] (fun D g' L'=>D=.bool (!eW v)∧g'=g∧L'=[]):=by
 refine aG.aq func66 fun R hR=>?_
 have u:=St.init hg
 refine At.go 1 1 []<|At.rp 7 3 [(5,.bool (decide (v<0)))]<|Op.wd (v<0) 5 (fun I=>?_) fun J=>?_
 ·exact Op.pr 2 2 vT (hR u ⟨(bn (by exact IU ‹_›)),rfl,rfl⟩)
 exact Op.pr 2 2 (.bool (decide (v>4611686018427387902))) (hR u ⟨(bn (by exact PD ‹_›)),rfl,rfl⟩)
theorem Jj (B:World) (h:ay) (g:GH) (hg:bu g h) (u:bz g) (D:Value) (bC:List Int) (G:an g 3 (dK .i64) D bC) (hlen:bC.length≤1000000000):
  aG prog B 34 #[D] h g [] (fun J g' L'=>J=.bool (bC.all eW)∧g'=g∧L'=[]):=by
 obtain⟨O,U,rfl⟩:=G.ak
 refine aG.aq func34 fun R hR=>?_
 have I:=St.init hg
 exact At.go 1 1 []<|At.rp 4 1 [(3,vL O bC.length U)]<|Op.c1 4 (Qf _ _ _ I.sub u _ _ G 66 (fun v=>!eW v) (eg.of (by kernel_rfl)) (fun B h g hg u v=>Qg B h g hg u v) (by(try dsimp only)<;>omega)) I fun X V=>Op.pr 2 2 (.bool (!(bC.any (fun v=>!eW v)))) (hR V ⟨(bn (by exact PE _)),rfl,rfl⟩)
theorem Qh (B:World) (h:ay) (g:GH) (hg:bu g h) (be:bz g) (Z:Value) (a:aj) (ab:an g 5 a_ Z a) (ad:Value) (b:aj) (ae:an g 5 a_ ad b) (h1:b.length≤1000000000):
  aG prog B 44 #[Z,ad] h g [] (fun a3 g' L'=>a3=.bool (decide (a=b))∧g'=g∧L'=[]):=by
 obtain⟨am,I,rfl⟩:=ab.ak
 obtain⟨ar,J,rfl⟩:=ae.ak
 refine aG.aq func44 fun R hR=>?_
 have aw:=St.init hg
 refine At.go 1 1 []<|At.go 2 5 [(10,.bool ((a.length:Int) != (b.length:Int)))]<|At.fn ((a.length:Int)=(b.length:Int)) 10 3 5 (fun bi=>?_) fun bj=>?_
 ·exact At.gr 4 1 4 vF (hR aw ⟨(bn (by exact yL ‹_›)),rfl,rfl⟩)
 refine At.go 6 3 [(12,vI (a.length:Int)),(13,vI 0)] ?_
 have a4:∀(m:Nat) (i:Int) (O:ay) (hm:a.length-i.toNat<m) (h0:0≤i) (h2:i≤a.length) (a5:(a.length:Int)=b.length) (ht:a.take i.toNat=b.take i.toNat) (u:St h g (aS []) g [] O),At (bP prog B 44 f44 R) [] 6 [(0,vL am a.length I),(1,vL ar b.length J),(12,vI (a.length:Int)),(13,vI i)] O:=by
  intro m;induction m with
  |zero=>intros;omega
  |succ m a6=>
   intro i O hm h0 h2 a5 ht u
   refine At.go 7 1 [(14,.bool (decide (i<(a.length:Int))))]<|At.fd (i<(a.length:Int)) 14 8 14 (fun bk=>?_) fun bm=>?_
   ·refine At.go 9 2 [(5,vI i)]<|At.dw (fun _=>False) [(0,true),(1,true),(2,true),(4,true),(5,true),(6,true),(3,true),(7,false),(8,true)]<|Op.px 2 [(16,vL am a.length I),(17,vI i)] ?_
    obtain⟨D,U⟩:=bW a i
    obtain⟨a7,a0,bo,bs,a8,a9,V⟩:=an.bB ab _ U
    cases a8
    refine Op.iq 22 5 1 1 a.length I 16 17 18 a7 a0 i ?_
    replace V:cut _ _ _=[.int .u8 (D.toNat:Int)]:=V
    refine Op.px 2 [(20,vL ar b.length J),(21,vI i)] ?_
    obtain⟨G,X⟩:=bW b i
    obtain⟨bb,a1,bt,b3,bc,bd,Y⟩:=an.bB ae _ X
    cases bc
    refine Op.iq 22 5 1 1 b.length J 20 21 22 bb a1 i ?_
    replace Y:cut _ _ _=[.int .u8 (G.toNat:Int)]:=Y
    refine Op.ez (T:=5) (x:=18) (o:=a0+i.toNat*1) (d:=19) (n:=1) (v:=.int .u8 (D.toNat:Int)) (by kernel_rfl) (by kernel_rfl) (by kernel_rfl) id (u.sub _ _ a9) (bN V 0 rfl)<|Op.l1 5 22 23 (a1+i.toNat*1) (.int .u8 (G.toNat:Int)) (u.sub _ _ bd) ?_ (hv:=bN Y 0 rfl)
    refine Op.pg 10 [(24,.bool ((D.toNat:Int) != (G.toNat:Int)))]<|At.fn ((D.toNat:Int)=(G.toNat:Int)) 24 11 13 (fun b4=>?_) fun b5=>?_
    ·exact At.gr 12 1 4 vF (hR u ⟨(bn (by exact yM U X (HS ‹_›))),rfl,rfl⟩)
    exact At.rg 2<|Op.vq 25 (i+1)<|Op.pg 6 [(13,vI (i+1))] (At.ke (a6 (i+1) _ (by omega) (by omega) (by omega) (by omega) (by exact yO ht h0 U X (HR ‹_›)) u))
   exact At.gr 15 1 4 vT (hR u ⟨(bn (by exact yN ‹_› ‹_› ht)),rfl,rfl⟩)
 exact At.ke (a4 _ 0 _ (bG _) (by omega) (by omega) (by omega) (by rfl) aw)
theorem vn (B:World) (h:ay) (g:GH) (hg:bu g h) (D:bz g) (x:Result) (dk:Value) (J:an g 5 a_ dk x.aa.Data) (dl:Value) (ad:an g 9 cV dl x.aX) (dp:Value) (G:an g 45 cA dp x.aP) (hL:m_ x):
  aG prog B 16 #[.agg #[vI x.Code,vI x.aU,vI x.At,vS x.aa.af,dk,vI x.aa.ai,vI x.aa.aC,vI x.aa.Next,vI x.aa.aF,dl,dp]] h g [] (fun e8 g' L'=>∃v0,e8=.tuple #[v0,.int .i64 ((aO x).2)]∧an g' 5 a_ v0 ((aO x).1)∧L'=[]):=by
 obtain⟨V,X,rfl⟩:=J.ak
 obtain⟨a3,ae,rfl⟩:=ad.ak
 obtain⟨a4,am,rfl⟩:=G.ak
 refine aG.aq func16 fun R hR=>At.rg 3<|Op.bx 1 43 0 #[vI x.Code,vI x.aU,vI x.At,vS x.aa.af,vL V x.aa.Data.length X,vI x.aa.ai,vI x.aa.aC,vI x.aa.Next,vI x.aa.aF,vL a3 x.aX.length ae,vL a4 x.aP.length am] (St.init hg) fun O hx dq=>Op.pg 1 []<|At.rp 4 1 [(20,vQ O 3)] ?_
 refine Op.la 39 20 21 3 6 [vS x.aa.af,vL V x.aa.Data.length X,vI x.aa.ai,vI x.aa.aC,vI x.aa.Next,vI x.aa.aF] (dq.ag 0 rfl)<|Op.al 4 39 qQ dq fun I hy e9=>Op.sg 39 4 21 0 0 #[vS x.aa.af,vL V x.aa.Data.length X,vI x.aa.ai,vI x.aa.aC,vI x.aa.Next,vI x.aa.aF] e9 zt fun hz ar=>Op.gt 2 ?_
 have fa:∀(m:Nat) (co:ay) (hm:0<m) (hB:jw x=true) (ab:St h g (aS []) g [[(I,Obj.cells #[vS x.aa.af,vL V x.aa.Data.length X,vI x.aa.ai,vI x.aa.aC,vI x.aa.Next,vI x.aa.aF] 39 (0,0))],[(O,Obj.cells #[vI x.Code,vI x.aU,vI x.At,vS x.aa.af,vL V x.aa.Data.length X,vI x.aa.ai,vI x.aa.aC,vI x.aa.Next,vI x.aa.aF,vL a3 x.aX.length ae,vL a4 x.aP.length am] 43 (0,0))]] co),At (bP prog B 16 f16 R) [] 6 [(1,vP O),(4,vP I)] co:=by
  intro m;induction m with
  |zero=>intros;omega
  |succ m hA=>
   intro co hm hB ab
   refine At.rp 22 1 [(48,vP O)]<|Op.l1 29 48 49 0 (vI x.Code) (ab.ag 1 rfl)<|Op.px 1 [(50,vQ O 1)]<|Op.l1 3 50 51 1 (vI x.aU) (ab.ag 1 rfl)<|Op.px 1 [(52,vQ O 2)] ?_
   refine Op.l1 3 52 53 2 (vI x.At) (ab.ag 1 rfl)<|Op.px 1 [(54,vQ I 2)]<|Op.l1 3 54 55 2 (vI x.aa.ai) (ab.ag 0 rfl)<|Op.px 1 [(56,vQ I 3)]<|Op.l1 3 56 57 3 (vI x.aa.aC) (ab.ag 0 rfl) ?_
   refine Op.cO 58 (x.aa.aC+1) (by(have:=Ds hB;omega)) (by(have:=Ds hB;omega))<|Op.px 1 [(59,vQ I 4)]<|Op.l1 3 59 60 4 (vI x.aa.Next) (ab.ag 0 rfl)<|Op.px 1 [(61,vQ I 5)]<|Op.l1 3 61 62 5 (vI x.aa.aF) (ab.ag 0 rfl) ?_
   refine Op.ls 63 7 3 #[vI x.Code,vI x.aU,vI x.At,vI x.aa.ai,vI (x.aa.aC+1),vI x.aa.Next,vI x.aa.aF] ab fun du hC fg=>?_
   have fi:aH 3 (dK .i64) g (vL (some ⟨du,0,none⟩) 7 7) [x.Code,x.aU,x.At,x.aa.ai,x.aa.aC+1,x.aa.Next,x.aa.aF] [(du,Obj.cells #[vI x.Code,vI x.aU,vI x.At,vI x.aa.ai,vI (x.aa.aC+1),vI x.aa.Next,vI x.aa.aF] 3 (0,0))]:=aH.lit (by kernel_rfl) (by unfold maxLen;decide) (by kernel_rfl) ⟨_,_,rfl,rfl,⟨_,_,rfl,rfl,⟨_,_,rfl,rfl,⟨_,_,rfl,rfl,⟨_,_,rfl,rfl,⟨_,_,rfl,rfl,⟨_,_,rfl,rfl,Reads.nil⟩⟩⟩⟩⟩⟩⟩
   obtain⟨hD,dv,bj,fj⟩:=aH.freeze fi (fg)
   replace D:=D.mono bj
   replace G:=G.mono bj
   replace J:=J.mono bj
   replace ad:=ad.mono bj
   refine Op.c0 (some 64) (CS _ _ _ dv.sub D _ _ fj (by((try dsimp only)<;>((simp;done))))) dv ?_
   rintro _ dC _ hE bk dE ⟨hF,rfl,Y,rfl⟩
   obtain⟨a6,a7,rfl⟩:=Y.ak
   replace D:=D.mono bk
   replace G:=G.mono bk
   replace J:=J.mono bk
   replace ad:=ad.mono bk
   refine Op.pg 7 [(5,vL a6 (((cr ([x.Code,x.aU,x.At,x.aa.ai,x.aa.aC+1,x.aa.Next,x.aa.aF])).1).length) a7)]<|At.go 8 1 [(7,vN)]<|At.rp 4 1 [(67,vQ O 9)]<|Op.l1 40 67 68 9 (vL a3 x.aX.length ae) (dE.ag 1 rfl)<|Op.pg 9 [(69,vI (x.aX.length:Int)),(70,vI 0)] ?_
   have fl:∀(m:Nat) (bm:GH) (aw:aM dC bm) (ns:List aj) (i:Int) (a46:Option Addr) (a8:Nat) (c3:az) (c4:ay) (hm:x.aX.length-i.toNat<m) (h0:0≤i) (h1:i≤x.aX.length) (hN:ns=x.aX.take i.toNat) (a9:aH 22 (fI 5 a_) bm (.slice a46 ns.length a8) ns c3) (bo:St h g (aS []) bm [c3,[(I,Obj.cells #[vS x.aa.af,vL V x.aa.Data.length X,vI x.aa.ai,vI x.aa.aC,vI x.aa.Next,vI x.aa.aF] 39 (0,0))],[(O,Obj.cells #[vI x.Code,vI x.aU,vI x.At,vS x.aa.af,vL V x.aa.Data.length X,vI x.aa.ai,vI x.aa.aC,vI x.aa.Next,vI x.aa.aF,vL a3 x.aX.length ae,vL a4 x.aP.length am] 43 (0,0))]] c4),At (bP prog B 16 f16 R) [] 9 [(1,vP O),(4,vP I),(5,vL a6 (((cr ([x.Code,x.aU,x.At,x.aa.ai,x.aa.aC+1,x.aa.Next,x.aa.aF])).1).length) a7),(7,vL a46 ns.length a8),(68,vL a3 x.aX.length ae),(69,vI (x.aX.length:Int)),(70,vI i)] c4:=by
    intro m;induction m with
    |zero=>intros;omega
    |succ m fp=>
     intro bm aw ns i a46 a8 c3 c4 hm h0 h1 hN a9 bo
     replace D:=D.mono aw
     replace G:=G.mono aw
     replace J:=J.mono aw
     replace ad:=ad.mono aw
     replace Y:=Y.mono aw
     refine At.go 10 1 [(71,.bool (decide (i<(x.aX.length:Int))))]<|At.fd (i<(x.aX.length:Int)) 71 11 14 (fun hG=>?_) fun hH=>?_
     ·refine At.rg 3 ?_
      obtain⟨Z,c5⟩:=bW x.aX i
      obtain⟨fr,dT,hJ,hK,ft,fv,c6⟩:=an.bB ad _ c5
      cases ft
      refine Op.iq 40 9 1 16 x.aX.length ae 68 70 72 fr dT i ?_
      replace c6:cut _ _ _=[vS Z]:=c6
      refine Op.l1 9 72 73 (dT+i.toNat*1) (vS Z) (bo.sub _ _ fv) ?_ (hv:=bN c6 0 rfl)
      refine Op.pg 12 [(9,vS Z)]<|At.rp 6 2 [(74,vL a46 ns.length a8),(75,vS Z)]<|Op.toBytes (S:=9) (T:=22) (E:=5) (x:=75) (dst:=76) (l:=Z) (by kernel_rfl) (by kernel_rfl) (by kernel_rfl) (by kernel_rfl) (by kernel_rfl) (by(have:=hL.2.1.2 _ (bY c5);omega)) bo fun cO hO hP d0 fw=>?_
      obtain⟨d1,d2,rfl⟩:=d0.ak
      obtain⟨hQ,fx,f0,f1⟩:=p_.freeze d0 (fw)
      replace a9:=a9.mono f0
      refine Op.ls 77 1 22 #[vL d1 Z.length d2] fx fun hS hT d3=>Op.ap 74 77 76 76 78 22 24 (fI 5 a_) (ys:=[Z]) a9 d3 1 (⟨_,_,rfl,⟨_,rfl,f1⟩,Reads.nil⟩) (by(have h1:=congrArg List.length hN;have h2:=hL.2.1.1;simp only[dZ,bJ,cF] at *;omega)) (fun _ _ _=>trivial) (cT.lit (m:=1) (sz:=1) (d3.ag 0 rfl) (news:=[vL d1 Z.length d2]) rfl rfl (by simp[Value.oneCell']) _) fun hV hW hX d4 f2 hY=>?_
      obtain⟨f3,f4,rfl⟩:=d4.ak
      exact Op.pg 13 [(7,vL f3 ((ns++([Z])).length) f4)]<|At.rg 2<|Op.cO 79 (i+1) (by omega) (by(have:=hL.2.1.1;omega))<|Op.pg 9 [(70,vI (i+1))] (At.ke (fp _ (aM.trans aw (by repeat (first|assumption|apply aM.trans))) (ns++([Z])) (i+1) _ _ _ _ (by omega) (by omega) (by omega) (by rw[toNat_succ h0,fP c5,hN]) d4 ((f2).drop)))
     refine At.rp 7 1 [(81,vL a46 ns.length a8)] ?_
     obtain⟨hZ,d5,bs,f5⟩:=aH.freeze a9 (bo)
     replace D:=D.mono bs
     replace G:=G.mono bs
     replace J:=J.mono bs
     replace Y:=Y.mono bs
     refine Op.c0 (some 82) (zA _ _ _ d5.sub D _ _ f5 (by((try dsimp only)<;>((have h1:=congrArg List.length hN;have h2:=hL.2.1.1;simp only[dZ,bJ,cF] at *;omega))))) d5 ?_
     rintro _ h3 _ h4 bt c8 ⟨h5,rfl,b3,rfl⟩
     obtain⟨b4,b5,rfl⟩:=b3.ak
     replace D:=D.mono bt
     replace G:=G.mono bt
     replace J:=J.mono bt
     replace Y:=Y.mono bt
     refine Op.pg 15 [(10,vL b4 (((b7 ns).1).length) b5),(11,vI ((b7 ns).2))]<|At.go 16 2 [(86,.bool (((b7 ns).2) != 0))]<|At.fn (((b7 ns).2)=0) 86 17 19 (fun h6=>?_) fun h7=>?_
     ·exact At.go 18 2 [(2,vN),(3,vI 130)]<|At.rt jW (hR c8.drop.drop ⟨vN,bA rfl (bg (by(rw[hN,fF (by omega)] at *;rw[zZ hB ‹_›]))),bl (an.empty _ _ _ _ _) (by(rw[hN,fF (by omega)] at *;rw[zZ hB ‹_›])),rfl⟩)
     refine At.rp 9 2 [(87,vL a6 (((cr ([x.Code,x.aU,x.At,x.aa.ai,x.aa.aC+1,x.aa.Next,x.aa.aF])).1).length) a7),(88,vP I)]<|Op.l1 9 88 89 0 (vS x.aa.af) (c8.ag 0 rfl)<|Op.toBytes (S:=9) (T:=22) (E:=5) (x:=89) (dst:=90) (l:=x.aa.af) (by kernel_rfl) (by kernel_rfl) (by kernel_rfl) (by kernel_rfl) (by kernel_rfl) (by(have:=hL.1;omega)) c8 fun h8 h9 ib d6 d7=>?_
     obtain⟨d8,d9,rfl⟩:=d6.ak
     refine Op.px 1 [(91,vQ I 1)]<|Op.l1 22 91 92 1 (vL V x.aa.Data.length X) (d7.ag 1 rfl)<|Op.px 1 [(93,vL b4 (((b7 ns).1).length) b5)] ?_
     obtain⟨ea,f6,bb,f7⟩:=p_.freeze d6 (d7)
     replace D:=D.mono bb
     replace G:=G.mono bb
     replace J:=J.mono bb
     replace Y:=Y.mono bb
     replace b3:=b3.mono bb
     refine Op.ls 94 4 22 #[vL a6 (((cr ([x.Code,x.aU,x.At,x.aa.ai,x.aa.aC+1,x.aa.Next,x.aa.aF])).1).length) a7,vL d8 x.aa.af.length d9,vL V x.aa.Data.length X,vL b4 (((b7 ns).1).length) b5] f6 fun c9 ih eb=>Op.pg 20 [(12,vL (some ⟨c9,0,none⟩) 4 4)]<|At.rp 4 1 [(95,vQ O 10)]<|Op.l1 41 95 96 10 (vL a4 x.aP.length am) (eb.ag 2 rfl)<|Op.pg 21 [(97,vI (x.aP.length:Int)),(98,vI 0)] ?_
     have f8:∀(m:Nat) (bc:GH) (b6:aM ea bc) (bL:List aj) (q:Int) (bd:Option Addr) (be:Nat) (da:az) (db:ay) (hm:x.aP.length-q.toNat<m) (ed:0≤q) (f9:q≤x.aP.length) (hn0:(b7 x.aX).2=0) (hI:p4 x bL q) (U:aH 22 (fI 5 a_) bc (.slice bd bL.length be) bL da) (b8:St h g (aS []) bc [da,[(I,Obj.cells #[vS x.aa.af,vL V x.aa.Data.length X,vI x.aa.ai,vI x.aa.aC,vI x.aa.Next,vI x.aa.aF] 39 (0,0))],[(O,Obj.cells #[vI x.Code,vI x.aU,vI x.At,vS x.aa.af,vL V x.aa.Data.length X,vI x.aa.ai,vI x.aa.aC,vI x.aa.Next,vI x.aa.aF,vL a3 x.aX.length ae,vL a4 x.aP.length am] 43 (0,0))]] db),At (bP prog B 16 f16 R) [] 21 [(12,vL bd bL.length be),(96,vL a4 x.aP.length am),(97,vI (x.aP.length:Int)),(98,vI q)] db:=by
      intro m;induction m with
      |zero=>intros;omega
      |succ m gc=>
       intro bc b6 bL q bd be da db hm ed f9 hn0 hI U b8
       replace D:=D.mono b6
       replace G:=G.mono b6
       refine At.go 22 1 [(99,.bool (decide (q<(x.aP.length:Int))))]<|At.fd (q<(x.aP.length:Int)) 99 23 32 (fun ii=>?_) fun ik=>?_
       ·refine At.rg 4 ?_
        obtain⟨u,a0⟩:=bW x.aP q
        obtain⟨ge,ee,il,io,gg,gk,dc⟩:=an.bB G _ a0
        cases gg
        refine Op.iq 41 45 3 32 x.aP.length am 96 98 100 ge ee q ?_
        replace dc:cut _ _ _=[vI u.ax,vI u.ah,vS u.af]:=dc
        refine Op.la 45 100 101 (ee+q.toNat*3) 3 [vI u.ax,vI u.ah,vS u.af] (b8.sub _ _ gk) ?_ (hv:=dc)
        refine Op.al 14 45 lp b8 fun bi ip gn=>Op.sg 45 14 101 0 0 #[vI u.ax,vI u.ah,vS u.af] gn zt fun is dd=>Op.gt 24<|At.rp 11 1 [(103,vP bi)]<|Op.l1 3 103 104 0 (vI u.ax) (dd.ag 0 rfl) ?_
        refine Op.px 1 [(105,vQ bi 1)]<|Op.l1 3 105 106 1 (vI u.ah) (dd.ag 0 rfl)<|Op.ls 107 2 3 #[vI u.ax,vI u.ah] dd fun ef iv gs=>?_
        have g1:aH 3 (dK .i64) bc (vL (some ⟨ef,0,none⟩) 2 2) [u.ax,u.ah] [(ef,Obj.cells #[vI u.ax,vI u.ah] 3 (0,0))]:=aH.lit (by kernel_rfl) (by unfold maxLen;decide) (by kernel_rfl) ⟨_,_,rfl,rfl,⟨_,_,rfl,rfl,Reads.nil⟩⟩
        obtain⟨i0,eh,ej,g2⟩:=aH.freeze g1 (gs)
        replace U:=U.mono ej
        replace D:=D.mono ej
        refine Op.c0 (some 108) (CS _ _ _ eh.sub D _ _ g2 (by((try dsimp only)<;>((simp;done))))) eh ?_
        rintro _ i1 _ i3 em en ⟨v148,rfl,ca,rfl⟩
        obtain⟨cb,n151,rfl⟩:=ca.ak
        replace U:=U.mono em
        replace D:=D.mono em
        refine Op.pg 25 [(15,vL cb (((cr ([u.ax,u.ah])).1).length) n151)]<|At.rp 11 2 [(112,vL cb (((cr ([u.ax,u.ah])).1).length) n151),(113,vQ bi 2)]<|Op.l1 9 113 114 2 (vS u.af) (en.ag 0 rfl)<|Op.toBytes (S:=9) (T:=22) (E:=5) (x:=114) (dst:=115) (l:=u.af) (by kernel_rfl) (by kernel_rfl) (by kernel_rfl) (by kernel_rfl) (by kernel_rfl) (by(have:=hL.2.2.2 _ (bY a0);omega)) en fun i4 i5 i6 ep g3=>?_
        obtain⟨er,n160,rfl⟩:=ep.ak
        obtain⟨g4,g5,df,g6⟩:=p_.freeze ep (g3)
        replace U:=U.mono df
        replace D:=D.mono df
        replace ca:=ca.mono df
        refine Op.ls 116 2 22 #[vL cb (((cr ([u.ax,u.ah])).1).length) n151,vL er u.af.length n160] g5 fun et i7 g7=>?_
        have g8:aH 22 (fI 5 a_) g4 (vL (some ⟨et,0,none⟩) 2 2) [(cr ([u.ax,u.ah])).1,u.af] [(et,Obj.cells #[vL cb (((cr ([u.ax,u.ah])).1).length) n151,vL er u.af.length n160] 22 (0,0))]:=aH.lit (by kernel_rfl) (by unfold maxLen;decide) (by kernel_rfl) ⟨_,_,rfl,⟨_,rfl,ca⟩,⟨_,_,rfl,⟨_,rfl,g6⟩,Reads.nil⟩⟩
        obtain⟨i8,ex,eA,g9⟩:=aH.freeze g8 (g7)
        replace U:=U.mono eA
        replace D:=D.mono eA
        refine Op.c0 (some 117) (zA _ _ _ ex.sub D _ _ g9 (by((try dsimp only)<;>((simp;done))))) ex ?_
        rintro _ ha _ i9 eB dg ⟨jf,rfl,eI,rfl⟩
        obtain⟨ce,cf,rfl⟩:=eI.ak
        replace U:=U.mono eB
        replace D:=D.mono eB
        refine Op.pg 26 [(17,vL ce (((b7 ([(cr ([u.ax,u.ah])).1,u.af])).1).length) cf),(18,vI ((b7 ([(cr ([u.ax,u.ah])).1,u.af])).2))]<|At.rp 11 1 [(120,vP bi)]<|Op.l1 3 120 121 0 (vI u.ax) (dg.ag 0 rfl)<|Op.px 1 [(122,vQ bi 1)]<|Op.l1 3 122 123 1 (vI u.ah) (dg.ag 0 rfl) ?_
        refine Op.ls 124 2 3 #[vI u.ax,vI u.ah] dg fun eJ jj ch=>?_
        have hb:aH 3 (dK .i64) ha (vL (some ⟨eJ,0,none⟩) 2 2) [u.ax,u.ah] [(eJ,Obj.cells #[vI u.ax,vI u.ah] 3 (0,0))]:=aH.lit (by kernel_rfl) (by unfold maxLen;decide) (by kernel_rfl) ⟨_,_,rfl,rfl,⟨_,_,rfl,rfl,Reads.nil⟩⟩
        have he:=ch.gH
        have hf:=hb.fK ch
        refine Op.le (some 125) 0 ch (Jj _ _ _ ch.jk (D.mono he) _ _ hf (by((try dsimp only)<;>((simp;done))))) (fun _ _ _ hp=>by obtain⟨_,a1,_⟩:=hp;exact a1) ?_ (hM:=(fun _ _ h=>absurd h (gP _)))
        rintro _ _ js dj ⟨rfl,a1,rfl⟩;clear a1
        refine Op.px 2 [(127,.bool (!(([u.ax,u.ah]).all eW)))]<|Op.wb (!(([u.ax,u.ah]).all eW)) 127 (fun eK=>?_) fun eL=>?_
        ·replace eK:=(dn eK)
         exact Op.pg 27 [(130,vT)]<|At.bT 130 28<|At.go 29 2 [(2,vN),(3,vI 130)]<|At.rt jW (hR dj.drop.drop.drop.drop.drop ⟨vN,bA rfl (bg (by(rw[n_ hB hn0 a0 (rZ ‹_›)]))),bl (an.empty _ _ _ _ _) (by(rw[n_ hB hn0 a0 (rZ ‹_›)])),rfl⟩)
        replace eL:=(dr eL)
        refine Op.pg 27 [(130,.bool (((b7 ([(cr ([u.ax,u.ah])).1,u.af])).2) != 0))]<|At.fn (((b7 ([(cr ([u.ax,u.ah])).1,u.af])).2)=0) 130 28 30 (fun jt=>?_) fun j1=>?_
        ·exact At.go 29 2 [(2,vN),(3,vI 130)]<|At.rt jW (hR dj.drop.drop.drop.drop.drop ⟨vN,bA rfl (bg (by(rw[n_ hB hn0 a0 (z_ ‹_›)]))),bl (an.empty _ _ _ _ _) (by(rw[n_ hB hn0 a0 (z_ ‹_›)])),rfl⟩)
        refine At.rp 5 2 [(131,vL bd bL.length be),(132,vL ce (((b7 ([(cr ([u.ax,u.ah])).1,u.af])).1).length) cf)]<|Op.ls 133 1 22 #[vL ce (((b7 ([(cr ([u.ax,u.ah])).1,u.af])).1).length) cf] dj fun j2 kc eQ=>Op.ap 131 133 76 76 134 22 24 (fI 5 a_) (ys:=[(b7 ([(cr ([u.ax,u.ah])).1,u.af])).1]) U eQ 3 (⟨_,_,rfl,⟨_,rfl,eI⟩,Reads.nil⟩) (by(have h1:=zY hI hL.2.2.1;simp only[bJ,cF];omega)) (fun _ _ _=>trivial) (cT.lit (m:=1) (sz:=1) (eQ.ag 0 rfl) (news:=[vL ce (((b7 ([(cr ([u.ax,u.ah])).1,u.af])).1).length) cf]) rfl rfl (by simp[Value.oneCell']) _) fun kd kh kk e1 hh kl=>?_
        obtain⟨hj,hl,rfl⟩:=e1.ak
        exact Op.pg 31 [(12,vL hj ((bL++([(b7 ([(cr ([u.ax,u.ah])).1,u.af])).1])).length) hl)]<|At.rg 2<|Op.cO 135 (q+1) (by omega) (by(have:=hL.2.2.1;omega))<|Op.pg 21 [(98,vI (q+1))]<|At.ke (gc _ (aM.trans b6 (by repeat (first|assumption|apply aM.trans))) (bL++([(b7 ([(cr ([u.ax,u.ah])).1,u.af])).1])) (q+1) _ _ _ _ (by omega) (by omega) (by omega) (by omega) (by exact IW hI ed a0 ‹_› ‹_›) e1 (((hh).drop).drop.drop))
       refine At.rp 7 1 [(137,vL bd bL.length be)] ?_
       obtain⟨km,e2,hn,ho⟩:=aH.freeze U (b8)
       replace D:=D.mono hn
       refine Op.c0 (some 138) (zA _ _ _ e2.sub D _ _ ho (by((try dsimp only)<;>((have h1:=zY hI hL.2.2.1;omega))))) e2 ?_
       rintro _ kv _ kw kx e3 ⟨kA,rfl,e4,rfl⟩
       obtain⟨ci,n217,rfl⟩:=e4.ak
       refine Op.pg 33 [(11,vI ((b7 bL).2)),(19,vL ci (((b7 bL).1).length) n217)]<|At.go 34 2 [(142,.bool (((b7 bL).2) != 0))]<|At.fn (((b7 bL).2)=0) 142 35 37 (fun k0=>?_) fun k1=>?_
       ·exact At.go 36 2 [(2,vN),(3,vI 130)]<|At.rt jW (hR e3.drop.drop ⟨vN,bA rfl (bg (by(rw[Aa hB hn0 hI (by omega) ‹_›]))),bl (an.empty _ _ _ _ _) (by(rw[Aa hB hn0 hI (by omega) ‹_›])),rfl⟩)
       exact At.go 38 3 [(2,vL ci (((b7 bL).1).length) n217),(3,vI 0)]<|At.rt (.tuple #[vL ci (((b7 bL).1).length) n217,vI 0]) (hR e3.drop.drop ⟨(vL ci (((b7 bL).1).length) n217),bA rfl (bg (by(rw[Ab hB hn0 hI (by omega) ‹_›]))),bl e4 (by(rw[Ab hB hn0 hI (by omega) ‹_›])),rfl⟩)
     have hq:aH 22 (fI 5 a_) ea (vL (some ⟨c9,0,none⟩) 4 4) [(cr ([x.Code,x.aU,x.At,x.aa.ai,x.aa.aC+1,x.aa.Next,x.aa.aF])).1,x.aa.af,x.aa.Data,(b7 ns).1] [(c9,Obj.cells #[vL a6 (((cr ([x.Code,x.aU,x.At,x.aa.ai,x.aa.aC+1,x.aa.Next,x.aa.aF])).1).length) a7,vL d8 x.aa.af.length d9,vL V x.aa.Data.length X,vL b4 (((b7 ns).1).length) b5] 22 (0,0))]:=aH.lit (by kernel_rfl) (by unfold maxLen;decide) (by kernel_rfl) ⟨_,_,rfl,⟨_,rfl,Y⟩,⟨_,_,rfl,⟨_,rfl,f7⟩,⟨_,_,rfl,⟨_,rfl,J⟩,⟨_,_,rfl,⟨_,rfl,b3⟩,Reads.nil⟩⟩⟩⟩
     exact At.ke (f8 _ _ (aM.refl _) ([(cr ([x.Code,x.aU,x.At,x.aa.ai,x.aa.aC+1,x.aa.Next,x.aa.aF])).1,x.aa.af,x.aa.Data,(b7 ns).1]) 0 _ _ _ _ (bG _) (by omega) (by omega) (by(rw[hN,fF (by omega)] at *;assumption)) (by(rw[hN,fF (by omega)];exact IV x)) hq eb)
   have hr:=aH.zero 22 (fI 5 a_) dC none
   exact At.ke (fl _ _ (aM.refl _) [] 0 _ _ _ _ (bG _) (by omega) (by omega) (by rfl) hr dE.nl)
 refine At.rp 25 1 [(22,vP O)]<|Op.l1 29 22 23 0 (vI x.Code) (ar.ag 1 rfl)<|Op.px 1 [(24,vQ O 1)]<|Op.l1 3 24 25 1 (vI x.aU) (ar.ag 1 rfl)<|Op.px 1 [(26,vQ O 2)] ?_
 refine Op.l1 3 26 27 2 (vI x.At) (ar.ag 1 rfl)<|Op.px 1 [(28,vQ I 2)]<|Op.l1 3 28 29 2 (vI x.aa.ai) (ar.ag 0 rfl)<|Op.px 1 [(30,vQ I 4)]<|Op.l1 3 30 31 4 (vI x.aa.Next) (ar.ag 0 rfl) ?_
 refine Op.px 1 [(32,vQ I 5)]<|Op.l1 3 32 33 5 (vI x.aa.aF) (ar.ag 0 rfl)<|Op.ls 34 6 3 #[vI x.Code,vI x.aU,vI x.At,vI x.aa.ai,vI x.aa.Next,vI x.aa.aF] ar fun e5 k2 ck=>?_
 have hs:aH 3 (dK .i64) g (vL (some ⟨e5,0,none⟩) 6 6) [x.Code,x.aU,x.At,x.aa.ai,x.aa.Next,x.aa.aF] [(e5,Obj.cells #[vI x.Code,vI x.aU,vI x.At,vI x.aa.ai,vI x.aa.Next,vI x.aa.aF] 3 (0,0))]:=aH.lit (by kernel_rfl) (by unfold maxLen;decide) (by kernel_rfl) ⟨_,_,rfl,rfl,⟨_,_,rfl,rfl,⟨_,_,rfl,rfl,⟨_,_,rfl,rfl,⟨_,_,rfl,rfl,⟨_,_,rfl,rfl,Reads.nil⟩⟩⟩⟩⟩⟩
 have hu:=ck.gH
 have hw:=hs.fK ck
 refine Op.le (some 35) 0 ck (Jj _ _ _ ck.jk (D.mono hu) _ _ hw (by((try dsimp only)<;>((simp;done))))) (fun _ _ _ hp=>by obtain⟨_,a1,_⟩:=hp;exact a1) ?_ (hM:=(fun _ _ h=>absurd h (gP _)))
 rintro _ _ k3 a5 ⟨rfl,a1,rfl⟩;clear a1
 refine Op.px 2 [(37,.bool (!(([x.Code,x.aU,x.At,x.aa.ai,x.aa.Next,x.aa.aF]).all eW)))]<|Op.wb (!(([x.Code,x.aU,x.At,x.aa.ai,x.aa.Next,x.aa.aF]).all eW)) 37 (fun e6=>?_) fun e7=>?_
 ·replace e6:=(dn e6)
  exact Op.pg 3 [(46,vT)]<|At.bT 46 4<|At.go 5 2 [(2,vN),(3,vI 130)]<|At.rt jW (hR a5.drop.drop.drop ⟨vN,bA rfl (bg (by(rw[nc (vf ‹_›)]))),bl (an.empty _ _ _ _ _) (by(rw[nc (vf ‹_›)])),rfl⟩)
 replace e7:=(dr e7)
 refine Op.px 1 [(38,vQ I 3)]<|Op.l1 3 38 39 3 (vI x.aa.aC) (a5.ag 1 rfl)<|Op.px 3 [(42,.bool (decide (x.aa.aC<((-1):Int))))]<|Op.wd (x.aa.aC<((-1):Int)) 42 (fun k4=>?_) fun k5=>?_
 ·exact Op.pg 3 [(46,vT)]<|At.bT 46 4<|At.go 5 2 [(2,vN),(3,vI 130)]<|At.rt jW (hR a5.drop.drop.drop ⟨vN,bA rfl (bg (by(rw[nc (r4 (.inl ‹_›))]))),bl (an.empty _ _ _ _ _) (by(rw[nc (r4 (.inl ‹_›))])),rfl⟩)
 refine Op.px 1 [(43,vQ I 3)]<|Op.l1 3 43 44 3 (vI x.aa.aC) (a5.ag 1 rfl)<|Op.pg 3 [(46,.bool (decide (x.aa.aC>4611686018427387902)))]<|At.fd (x.aa.aC>4611686018427387902) 46 4 6 (fun k6=>?_) fun k7=>?_
 ·exact At.go 5 2 [(2,vN),(3,vI 130)]<|At.rt jW (hR a5.drop.drop.drop ⟨vN,bA rfl (bg (by(rw[nc (r4 (.inr ‹_›))]))),bl (an.empty _ _ _ _ _) (by(rw[nc (r4 (.inr ‹_›))])),rfl⟩)
 exact At.ke (fa _ _ (bG _) (by exact Dr ‹_› ‹_› ‹_›) a5.drop)
theorem Qi (B:World) (h:ay) (g:GH) (hg:bu g h) (ad:bz g) (a8:Value) (b:aj) (a9:an g 5 a_ a8 b) (hl:b.length≤1000000000):
  aG prog B 43 #[a8] h g [] (fun b6 g' L'=>b6=.tuple #[.agg #[.int .i64 (((dX b).1).ax),.int .i64 (((dX b).1).ah),.string (br (((dX b).1).af))],.bool ((dX b).2)]∧L'=[]):=by
 obtain⟨b8,ca,rfl⟩:=a9.ak
 refine aG.aq func43 fun R hR=>At.rg 2<|Op.al 2 45 lp (St.init hg) fun c9 da bb=>Op.pg 1 []<|At.rp 7 1 [(9,vL b8 b.length ca)] ?_
 refine Op.c0 (some 10) (zB _ _ _ bb.sub ad _ _ a9 (by(try dsimp only)<;>omega)) bb ?_
 rintro _ db _ dc cb I ⟨dd,rfl,J,rfl⟩
 obtain⟨bc,O,rfl⟩:=J.ak
 replace ad:=ad.mono cb
 refine Op.pg 2 [(4,vL bc (((aJ b).1).length) O),(5,vI ((aJ b).2))]<|At.rp 7 3 [(15,.bool (((aJ b).2) != 0))]<|Op.wb (((aJ b).2) != 0) 15 (fun bd=>?_) fun be=>?_
 ·replace bd:=fY bd
  refine Op.pg 3 [(19,vT)]<|At.bT 19 4<|At.rp 3 1 [(20,.agg lp)]<|Op.sg 45 2 20 0 0 lp I zt fun df bi=>Op.pg 5 [(3,vF)] ?_
  exact At.rn f43 [.agg lp,vF] [.cell 2 45,.tmp 3] ⟨⟨_,_,rfl,cq (n:=3) (by kernel_rfl) (bi.ag 0 rfl) (by kernel_rfl) rfl⟩,rfl,trivial⟩ (hR bi.drop ⟨bA (by(rw[tM ‹_›];done)) (bn (by(rw[tM ‹_›];done))),rfl⟩)
 replace be:=gB be
 refine Op.pg 3 [(19,.bool ((((aJ b).1).length:Int) != 2))]<|At.fn ((((aJ b).1).length:Int)=2) 19 4 6 (fun dg=>?_) fun dj=>?_
 ·exact At.rp 3 1 [(20,.agg lp)]<|Op.sg 45 2 20 0 0 lp I zt fun dk bj=>Op.pg 5 [(3,vF)]<|At.rn f43 [.agg lp,vF] [.cell 2 45,.tmp 3] ⟨⟨_,_,rfl,cq (n:=3) (by kernel_rfl) (bj.ag 0 rfl) (by kernel_rfl) rfl⟩,rfl,trivial⟩ (hR bj.drop ⟨bA (by(rw[tN ‹_›];done)) (bn (by(rw[tN ‹_›];done))),rfl⟩)
 refine At.rp 9 1 [(22,vL bc (((aJ b).1).length) O)] ?_
 obtain⟨u,D⟩:=bW ((aJ b).1) 0
 obtain⟨ae,U,dl,dp,ce,am,ar⟩:=an.bB J _ D
 cases ce
 refine Op.iq 76 22 1 24 (((aJ b).1).length) O 22 (.const (vI 0)) 23 ae U 0 ?_
 obtain⟨dq,ar,bk⟩:=ar
 obtain⟨cf,ch,rfl⟩:=bk.ak
 refine Op.l1 22 23 24 (U+(0:Int).toNat*1) (vL cf u.length ch) (I.sub _ _ am) ?_ (hv:=bN ar 0 rfl)
 refine Op.c0 (some 25) (Ae _ _ _ I.sub ad _ _ bk 2 (by((try dsimp only)<;>((have:=oP D;omega))))) I ?_
 rintro _ du _ dv bm G ⟨dC,rfl,aw,rfl⟩
 obtain⟨bo,V,rfl⟩:=aw.ak
 replace am:=bm _ _ am
 replace J:=J.mono bm
 refine Op.pg 7 [(6,vL bo (((bh u).1).length) V),(7,.bool (fc u 2))]<|At.go 8 2 [(29,.bool (!(fc u 2)))]<|At.cW (!(fc u 2)) 29 9 11 (fun bs=>?_) fun bt=>?_
 ·replace bs:=(dn bs)
  exact At.rp 3 1 [(30,.agg lp)]<|Op.sg 45 2 30 0 0 lp G zt fun dE b3=>Op.pg 10 [(3,vF)]<|At.rn f43 [.agg lp,vF] [.cell 2 45,.tmp 3] ⟨⟨_,_,rfl,cq (n:=3) (by kernel_rfl) (b3.ag 0 rfl) (by kernel_rfl) rfl⟩,rfl,trivial⟩ (hR b3.drop ⟨bA (by(rw[oa D ‹_›];done)) (bn (by(rw[oa D ‹_›];done))),rfl⟩)
 replace bt:=(dr bt)
 refine At.dw (fun _=>False) [(0,true),(1,true),(3,true),(4,true),(6,true),(7,true),(2,true),(5,true),(8,false),(9,true),(10,true),(1011,false),(11,false),(12,true)]<|Op.px 1 [(31,vL bo (((bh u).1).length) V)] ?_
 obtain⟨X,a0⟩:=jo (l:=(bh u).1) (i:=0) (by(have:=fo ‹_›;omega))
 obtain⟨a1,Y,dT,d0,ci,ck,a3⟩:=an.bB aw _ a0
 cases ci
 refine Op.ix 78 3 1 8 (((bh u).1).length) V 31 (.const (vI 0)) 32 a1 Y 0 (by omega) (by(have:=fo ‹_›;omega)) ?_
 replace a3:cut _ _ _=[vI X]:=a3
 refine Op.px 1 [(34,vL (some ⟨a1,Y,none⟩) (((bh u).1).length) V)] ?_
 obtain⟨Z,a4⟩:=jo (l:=(bh u).1) (i:=1) (by(have:=fo ‹_›;omega))
 obtain⟨d1,d2,d3,d4,co,c3,a5⟩:=an.bB aw _ a4
 cases co
 refine Op.ix 78 3 1 8 (((bh u).1).length) V 34 (.const (vI 1)) 35 a1 Y 1 (by omega) (by(have:=fo ‹_›;omega)) ?_
 replace a5:cut _ _ _=[vI Z]:=a5
 refine Op.px 1 [(37,vL (some ⟨ae,U,none⟩) (((aJ b).1).length) O)] ?_
 obtain⟨ab,a6⟩:=bW ((aJ b).1) 1
 obtain⟨d5,d6,d7,d8,c4,c5,a7⟩:=an.bB J _ a6
 cases c4
 refine Op.iq 76 22 1 24 (((aJ b).1).length) O 37 (.const (vI 1)) 38 ae U 1 ?_
 obtain⟨d9,a7,b4⟩:=a7
 obtain⟨c6,c8,rfl⟩:=b4.ak
 refine Op.ez (T:=3) (x:=32) (o:=Y+(0:Int).toNat*1) (d:=33) (n:=1) (v:=vI X) (by kernel_rfl) (by kernel_rfl) (by kernel_rfl) id (G.sub _ _ ck) (bN a3 0 rfl)<|Op.ez (T:=3) (x:=35) (o:=Y+(1:Int).toNat*1) (d:=36) (n:=1) (v:=vI Z) (by kernel_rfl) (by kernel_rfl) (by kernel_rfl) id (G.sub _ _ c3) (bN a5 0 rfl)<|Op.l1 22 38 39 (U+(1:Int).toNat*1) (vL c6 ab.length c8) (G.sub _ _ c5) ?_ (hv:=bN a7 0 rfl)
 refine Op.sQ (T:=22) (S:=9) (E:=5) (x:=39) (dst:=40) (l:=ab) (by kernel_rfl) (by kernel_rfl) (by kernel_rfl) (by kernel_rfl) (by kernel_rfl) b4 G.sub (fun _ _ _ h=>h)<|Op.px 1 [(41,.agg #[vI X,vI Z,vS ab])]<|Op.ba<|Op.sg 45 2 41 0 0 #[vI X,vI Z,vS ab] G zt fun ea b5=>Op.pg 12 [(3,vT)] ?_
 exact At.rn f43 [.agg #[vI X,vI Z,vS ab],vT] [.cell 2 45,.tmp 3] ⟨⟨_,_,rfl,cq (n:=3) (by kernel_rfl) (b5.ag 0 rfl) (by kernel_rfl) rfl⟩,rfl,trivial⟩ (hR b5.drop ⟨bA (by(rw[Dt ‹_› ‹_› D ‹_› a0 a4 a6];done)) (bn (by(rw[Dt ‹_› ‹_› D ‹_› a0 a4 a6];done))),rfl⟩)
theorem qR (B:World) (h:ay) (g:GH) (hg:bu g h) (O:bz g) (em:Value) (b:aj) (V:an g 5 a_ em b) (hl:b.length≤1000000000):
  aG prog B 19 #[em] h g [] (fun hh g' L'=>∃v0 v1 v2,hh=.tuple #[.agg #[.int .i64 (((av b).1).Code),.int .i64 (((av b).1).aU),.int .i64 (((av b).1).At),.string (br (((av b).1).aa.af)),v0,.int .i64 (((av b).1).aa.ai),.int .i64 (((av b).1).aa.aC),.int .i64 (((av b).1).aa.Next),.int .i64 (((av b).1).aa.aF),v1,v2],.int .i64 ((av b).2)]∧an g' 5 a_ v0 (((av b).1).aa.Data)∧an g' 9 cV v1 (((av b).1).aX)∧an g' 45 cA v2 (((av b).1).aP)∧L'=[]):=by
 obtain⟨cb,ce,rfl⟩:=V.ak
 refine aG.aq func19 fun R hR=>At.rg 2<|Op.al 2 43 dG (St.init hg) fun cf k0 en=>Op.pg 1 []<|At.rp 7 1 [(19,vL cb b.length ce)] ?_
 refine Op.c0 (some 20) (zB _ _ _ en.sub O _ _ V (by(try dsimp only)<;>omega)) en ?_
 rintro _ k1 _ k2 ep bk ⟨k3,rfl,ae,rfl⟩
 obtain⟨er,am,rfl⟩:=ae.ak
 replace O:=O.mono ep
 replace V:=V.mono ep
 refine Op.pg 2 [(4,vL er (((aJ b).1).length) am),(5,vI ((aJ b).2))]<|At.rp 7 3 [(25,.bool (((aJ b).2) != 0))]<|Op.wb (((aJ b).2) != 0) 25 (fun et=>?_) fun ex=>?_
 ·replace et:=fY et
  refine Op.pg 3 [(29,vT)]<|At.bT 29 4<|At.rp 3 1 [(30,.agg dG)]<|Op.sg 43 2 30 0 0 dG bk zt fun k4 eA=>Op.pg 5 [(3,vI 130)] ?_
  exact At.rn f19 kH [.cell 2 43,.tmp 3] ⟨⟨_,_,rfl,cq (n:=11) (by kernel_rfl) (eA.ag 0 rfl) (by kernel_rfl) rfl⟩,rfl,trivial⟩ (hR eA.drop ⟨vN,vN,vN,bA (by(rw[eF (hr_1 ‹_›)];rfl)) (bg (by(rw[eF (hr_1 ‹_›)];done))),bl (an.empty _ _ _ _ _) (by(rw[eF (hr_1 ‹_›)];rfl)),bl (an.empty _ _ _ _ _) (by(rw[eF (hr_1 ‹_›)];rfl)),bl (an.empty _ _ _ _ _) (by(rw[eF (hr_1 ‹_›)];rfl)),rfl⟩)
 replace ex:=gB ex
 refine Op.pg 3 [(29,.bool (decide ((((aJ b).1).length:Int)<4)))]<|At.fd ((((aJ b).1).length:Int)<4) 29 4 6 (fun k5=>?_) fun k6=>?_
 ·exact At.rp 3 1 [(30,.agg dG)]<|Op.sg 43 2 30 0 0 dG bk zt fun k7 eB=>Op.pg 5 [(3,vI 130)]<|At.rn f19 kH [.cell 2 43,.tmp 3] ⟨⟨_,_,rfl,cq (n:=11) (by kernel_rfl) (eB.ag 0 rfl) (by kernel_rfl) rfl⟩,rfl,trivial⟩ (hR eB.drop ⟨vN,vN,vN,bA (by(rw[eF (hr_2 ‹_›)];rfl)) (bg (by(rw[eF (hr_2 ‹_›)];done))),bl (an.empty _ _ _ _ _) (by(rw[eF (hr_2 ‹_›)];rfl)),bl (an.empty _ _ _ _ _) (by(rw[eF (hr_2 ‹_›)];rfl)),bl (an.empty _ _ _ _ _) (by(rw[eF (hr_2 ‹_›)];rfl)),rfl⟩)
 refine At.rp 9 1 [(32,vL er (((aJ b).1).length) am)] ?_
 obtain⟨D,I⟩:=bW ((aJ b).1) 0
 obtain⟨a0,Z,k8,lb,hj,dc,dd⟩:=an.bB ae _ I
 cases hj
 refine Op.iq 76 22 1 24 (((aJ b).1).length) am 32 (.const (vI 0)) 33 a0 Z 0 ?_
 obtain⟨lc,dd,eI⟩:=dd
 obtain⟨hn,ho,rfl⟩:=eI.ak
 refine Op.l1 22 33 34 (Z+(0:Int).toNat*1) (vL hn D.length ho) (bk.sub _ _ dc) ?_ (hv:=bN dd 0 rfl)
 refine Op.c0 (some 35) (Ae _ _ _ bk.sub O _ _ eI 7 (by((try dsimp only)<;>((have:=oP I;omega))))) bk ?_
 rintro _ lh _ li ch df ⟨lj,rfl,a1,rfl⟩
 obtain⟨eJ,Y,rfl⟩:=a1.ak
 replace dc:=ch _ _ dc
 replace O:=O.mono ch
 replace V:=V.mono ch
 replace ae:=ae.mono ch
 refine Op.pg 7 [(6,vL eJ (((bh D).1).length) Y),(7,.bool (fc D 7))]<|At.rp 9 1 [(39,vL (some ⟨a0,Z,none⟩) (((aJ b).1).length) am)] ?_
 obtain⟨X,J⟩:=bW ((aJ b).1) 3
 obtain⟨lk,ll,lm,ln,hp,dg,dj⟩:=an.bB ae _ J
 cases hp
 refine Op.iq 76 22 1 24 (((aJ b).1).length) am 39 (.const (vI 3)) 40 a0 Z 3 ?_
 obtain⟨lr,dj,eK⟩:=dj
 obtain⟨hq,hr,rfl⟩:=eK.ak
 refine Op.l1 22 40 41 (Z+(3:Int).toNat*1) (vL hq X.length hr) (df.sub _ _ dg) ?_ (hv:=bN dj 0 rfl)
 refine Op.c0 (some 42) (zB _ _ _ df.sub O _ _ eK (by((try dsimp only)<;>((have:=oP J;omega))))) df ?_
 rintro _ ci _ lv bm ab ⟨v75,rfl,ck,rfl⟩
 obtain⟨dk,co,rfl⟩:=ck.ak
 replace dg:=bm _ _ dg
 replace O:=O.mono bm
 replace V:=V.mono bm
 replace ae:=ae.mono bm
 replace a1:=a1.mono bm
 refine Op.pg 8 [(5,vI ((aJ X).2)),(8,vL dk (((aJ X).1).length) co)]<|At.rp 6 3 [(47,.bool (!(fc D 7)))]<|Op.wb (!(fc D 7)) 47 (fun eL=>?_) fun eQ=>?_
 ·replace eL:=(dn eL)
  refine Op.pg 9 [(50,vT)]<|At.bT 50 10<|At.rp 3 1 [(51,.agg dG)]<|Op.sg 43 2 51 0 0 dG ab zt fun lw e1=>Op.pg 11 [(3,vI 130)] ?_
  exact At.rn f19 kH [.cell 2 43,.tmp 3] ⟨⟨_,_,rfl,cq (n:=11) (by kernel_rfl) (e1.ag 0 rfl) (by kernel_rfl) rfl⟩,rfl,trivial⟩ (hR e1.drop ⟨vN,vN,vN,bA (by(rw[eF (mB I ‹_›)];rfl)) (bg (by(rw[eF (mB I ‹_›)];done))),bl (an.empty _ _ _ _ _) (by(rw[eF (mB I ‹_›)];rfl)),bl (an.empty _ _ _ _ _) (by(rw[eF (mB I ‹_›)];rfl)),bl (an.empty _ _ _ _ _) (by(rw[eF (mB I ‹_›)];rfl)),rfl⟩)
 replace eQ:=(dr eQ)
 refine Op.pg 9 [(50,.bool (((aJ X).2) != 0))]<|At.fn (((aJ X).2)=0) 50 10 12 (fun lx=>?_) fun ly=>?_
 ·exact At.rp 3 1 [(51,.agg dG)]<|Op.sg 43 2 51 0 0 dG ab zt fun lA e2=>Op.pg 11 [(3,vI 130)]<|At.rn f19 kH [.cell 2 43,.tmp 3] ⟨⟨_,_,rfl,cq (n:=11) (by kernel_rfl) (e2.ag 0 rfl) (by kernel_rfl) rfl⟩,rfl,trivial⟩ (hR e2.drop ⟨vN,vN,vN,bA (by(rw[eF (hr_4 J ‹_›)];rfl)) (bg (by(rw[eF (hr_4 J ‹_›)];done))),bl (an.empty _ _ _ _ _) (by(rw[eF (hr_4 J ‹_›)];rfl)),bl (an.empty _ _ _ _ _) (by(rw[eF (hr_4 J ‹_›)];rfl)),bl (an.empty _ _ _ _ _) (by(rw[eF (hr_4 J ‹_›)];rfl)),rfl⟩)
 refine At.dw (fun _=>False) [(0,true),(1,true),(3,true),(4,true),(6,true),(7,true),(9,true),(10,true),(12,true),(13,true),(16,true),(17,true),(19,true),(20,true),(22,true),(23,true),(26,true),(27,true),(2,true),(5,true),(8,true),(11,true),(14,true),(15,true),(18,true),(21,true),(24,true),(25,true),(28,true),(29,true),(30,true),(31,false),(1032,false),(32,false)]<|Op.px 1 [(52,vL eJ (((bh D).1).length) Y)] ?_
 obtain⟨a6,e3⟩:=jo (l:=(bh D).1) (i:=0) (by(have:=fo ‹_›;omega))
 obtain⟨ad,U,lL,lO,hs,hu,dl⟩:=an.bB a1 _ e3
 cases hs
 refine Op.ix 78 3 1 8 (((bh D).1).length) Y 52 (.const (vI 0)) 53 ad U 0 (by omega) (by(have:=fo ‹_›;omega)) ?_
 replace dl:cut _ _ _=[vI a6]:=dl
 refine Op.px 1 [(55,vL (some ⟨ad,U,none⟩) (((bh D).1).length) Y)] ?_
 obtain⟨a7,e4⟩:=jo (l:=(bh D).1) (i:=1) (by(have:=fo ‹_›;omega))
 obtain⟨l0,l2,l3,l4,hw,hx,dp⟩:=an.bB a1 _ e4
 cases hw
 refine Op.ix 78 3 1 8 (((bh D).1).length) Y 55 (.const (vI 1)) 56 ad U 1 (by omega) (by(have:=fo ‹_›;omega)) ?_
 replace dp:cut _ _ _=[vI a7]:=dp
 refine Op.px 1 [(58,vL (some ⟨ad,U,none⟩) (((bh D).1).length) Y)] ?_
 obtain⟨a8,e5⟩:=jo (l:=(bh D).1) (i:=2) (by(have:=fo ‹_›;omega))
 obtain⟨l8,ma,md,mf,hy,hz,dq⟩:=an.bB a1 _ e5
 cases hy
 refine Op.ix 78 3 1 8 (((bh D).1).length) Y 58 (.const (vI 2)) 59 ad U 2 (by omega) (by(have:=fo ‹_›;omega)) ?_
 replace dq:cut _ _ _=[vI a8]:=dq
 refine Op.px 1 [(61,vL (some ⟨ad,U,none⟩) (((bh D).1).length) Y)] ?_
 obtain⟨a9,e6⟩:=jo (l:=(bh D).1) (i:=3) (by(have:=fo ‹_›;omega))
 obtain⟨mi,ml,mp,mx,hA,hB,du⟩:=an.bB a1 _ e6
 cases hA
 refine Op.ix 78 3 1 8 (((bh D).1).length) Y 61 (.const (vI 3)) 62 ad U 3 (by omega) (by(have:=fo ‹_›;omega)) ?_
 replace du:cut _ _ _=[vI a9]:=du
 refine Op.px 1 [(64,vL (some ⟨ad,U,none⟩) (((bh D).1).length) Y)] ?_
 obtain⟨a5,c3⟩:=jo (l:=(bh D).1) (i:=4) (by(have:=fo ‹_›;omega))
 obtain⟨my,m0,m1,m2,hC,hD,dv⟩:=an.bB a1 _ c3
 cases hC
 refine Op.ix 78 3 1 8 (((bh D).1).length) Y 64 (.const (vI 4)) 65 ad U 4 (by omega) (by(have:=fo ‹_›;omega)) ?_
 replace dv:cut _ _ _=[vI a5]:=dv
 refine Op.px 1 [(68,vL (some ⟨ad,U,none⟩) (((bh D).1).length) Y)] ?_
 obtain⟨bb,e7⟩:=jo (l:=(bh D).1) (i:=5) (by(have:=fo ‹_›;omega))
 obtain⟨m3,m4,m5,m6,hF,hG,dC⟩:=an.bB a1 _ e7
 cases hF
 refine Op.ix 78 3 1 8 (((bh D).1).length) Y 68 (.const (vI 5)) 69 ad U 5 (by omega) (by(have:=fo ‹_›;omega)) ?_
 replace dC:cut _ _ _=[vI bb]:=dC
 refine Op.px 1 [(71,vL (some ⟨ad,U,none⟩) (((bh D).1).length) Y)] ?_
 obtain⟨bc,e8⟩:=jo (l:=(bh D).1) (i:=6) (by(have:=fo ‹_›;omega))
 obtain⟨m7,m8,m9,na,hI,hJ,dE⟩:=an.bB a1 _ e8
 cases hI
 refine Op.ix 78 3 1 8 (((bh D).1).length) Y 71 (.const (vI 6)) 72 ad U 6 (by omega) (by(have:=fo ‹_›;omega)) ?_
 replace dE:cut _ _ _=[vI bc]:=dE
 refine Op.px 1 [(74,vL (some ⟨a0,Z,none⟩) (((aJ b).1).length) am)] ?_
 obtain⟨bd,e9⟩:=bW ((aJ b).1) 1
 obtain⟨nb,nd,nf,nm,hK,hL,dT⟩:=an.bB ae _ e9
 cases hK
 refine Op.iq 76 22 1 24 (((aJ b).1).length) am 74 (.const (vI 1)) 75 a0 Z 1 ?_
 obtain⟨nn,dT,fa⟩:=dT
 obtain⟨hO,hP,rfl⟩:=fa.ak
 refine Op.px 1 [(78,vL (some ⟨a0,Z,none⟩) (((aJ b).1).length) am)] ?_
 obtain⟨bo,fg⟩:=bW ((aJ b).1) 2
 obtain⟨no,np,nu,nx,hQ,hS,d0⟩:=an.bB ae _ fg
 cases hQ
 refine Op.iq 76 22 1 24 (((aJ b).1).length) am 78 (.const (vI 2)) 79 a0 Z 2 ?_
 obtain⟨nz,d0,fi⟩:=d0
 obtain⟨d1,d2,rfl⟩:=fi.ak
 refine Op.ez (T:=3) (x:=53) (o:=U+(0:Int).toNat*1) (d:=54) (n:=1) (v:=vI a6) (by kernel_rfl) (by kernel_rfl) (by kernel_rfl) id (ab.sub _ _ hu) (bN dl 0 rfl)<|Op.ez (T:=3) (x:=56) (o:=U+(1:Int).toNat*1) (d:=57) (n:=1) (v:=vI a7) (by kernel_rfl) (by kernel_rfl) (by kernel_rfl) id (ab.sub _ _ hx) (bN dp 0 rfl)<|Op.ez (T:=3) (x:=59) (o:=U+(2:Int).toNat*1) (d:=60) (n:=1) (v:=vI a8) (by kernel_rfl) (by kernel_rfl) (by kernel_rfl) id (ab.sub _ _ hz) (bN dq 0 rfl)<|Op.ez (T:=3) (x:=62) (o:=U+(3:Int).toNat*1) (d:=63) (n:=1) (v:=vI a9) (by kernel_rfl) (by kernel_rfl) (by kernel_rfl) id (ab.sub _ _ hB) (bN du 0 rfl)<|Op.ez (T:=3) (x:=65) (o:=U+(4:Int).toNat*1) (d:=66) (n:=1) (v:=vI a5) (by kernel_rfl) (by kernel_rfl) (by kernel_rfl) id (ab.sub _ _ hD) (bN dv 0 rfl) ?_
 refine Op.cO 67 (a5-1) (by(have:=gT c3;omega)) (by(have:=gT c3;omega))<|Op.ez (T:=3) (x:=69) (o:=U+(5:Int).toNat*1) (d:=70) (n:=1) (v:=vI bb) (by kernel_rfl) (by kernel_rfl) (by kernel_rfl) id (ab.sub _ _ hG) (bN dC 0 rfl)<|Op.ez (T:=3) (x:=72) (o:=U+(6:Int).toNat*1) (d:=73) (n:=1) (v:=vI bc) (by kernel_rfl) (by kernel_rfl) (by kernel_rfl) id (ab.sub _ _ hJ) (bN dE 0 rfl)<|Op.ez (T:=22) (x:=75) (o:=Z+(1:Int).toNat*1) (d:=76) (n:=1) (v:=vL hO bd.length hP) (by kernel_rfl) (by kernel_rfl) (by kernel_rfl) id (ab.sub _ _ hL) (bN dT 0 rfl)<|Op.sQ (T:=22) (S:=9) (E:=5) (x:=76) (dst:=77) (l:=bd) (by kernel_rfl) (by kernel_rfl) (by kernel_rfl) (by kernel_rfl) (by kernel_rfl) fa ab.sub (fun _ _ _ h=>h) ?_
 refine Op.ez (T:=22) (x:=79) (o:=Z+(2:Int).toNat*1) (d:=80) (n:=1) (v:=vL d1 bo.length d2) (by kernel_rfl) (by kernel_rfl) (by kernel_rfl) id (ab.sub _ _ hS) (bN d0 0 rfl)<|Op.px 2 [(82,.agg #[vI a6,vI a7,vI a8,vS bd,vL d1 bo.length d2,vI a9,vI (a5-1),vI bb,vI bc,vN,vN])]<|Op.al 9 43 dG ab fun ar n0 hT=>Op.ba<|Op.sg 43 9 82 0 0 #[vI a6,vI a7,vI a8,vS bd,vL d1 bo.length d2,vI a9,vI (a5-1),vI bb,vI bc,vN,vN] hT zt fun n3 hV=>?_
 refine Op.gt 13<|At.go 14 3 [(83,vL dk (((aJ X).1).length) co),(84,vI (((aJ X).1).length:Int)),(85,vI 0)] ?_
 have hW:=aH.nil 9 cV ci
 have hX:=aH.nil 45 cA ci
 obtain⟨oi,hY,hZ⟩:=St.bF (Q:=eG ci ar (⟨a6,a7,a8,⟨bd,bo,a9,a5-1,bb,bc⟩,([]:List aj),([]:List au)⟩:Result)) 3 (hV.nl.nl.fs [1,2] rfl) ⟨_,_,_,_,_,rfl,fi,hW,hX⟩
 have h2:∀(m:Nat) (be:GH) (bi:aM ci be) (ob:Result) (i:Int) (d3:az) (d4:ay) (hm:(aJ X).1.length-i.toNat<m) (h0:0≤i) (h1:i≤(aJ X).1.length) (hH:jT b=true) (hN:r6 b D X ob i) (d5:eG be ar ob d3) (c4:St h g (aS []) be [d3,[(cf,Obj.cells dG 43 (0,0))]] d4),At (bP prog B 19 f19 R) [] 14 [(0,vL cb b.length ce),(2,vP cf),(4,vL (some ⟨a0,Z,none⟩) (((aJ b).1).length) am),(9,vP ar),(83,vL dk (((aJ X).1).length) co),(84,vI (((aJ X).1).length:Int)),(85,vI i)] d4:=by
  intro m;induction m with
  |zero=>intros;omega
  |succ m h3=>
   intro be bi ob i d3 d4 hm h0 h1 hH hN d5 c4
   replace O:=O.mono bi
   replace V:=V.mono bi
   replace ae:=ae.mono bi
   replace ck:=ck.mono bi
   refine At.go 15 1 [(86,.bool (decide (i<(((aJ X).1).length:Int))))]<|At.fd (i<(((aJ X).1).length:Int)) 86 16 19 (fun oj=>?_) fun ol=>?_
   ·refine At.rg 3 ?_
    obtain⟨aw,fj⟩:=bW ((aJ X).1) i
    obtain⟨h4,fl,or,ow,h5,h6,d6⟩:=an.bB ck _ fj
    cases h5
    refine Op.iq 76 22 1 24 (((aJ X).1).length) co 83 85 87 h4 fl i ?_
    obtain⟨o3,d6,fp⟩:=d6
    obtain⟨d7,d8,rfl⟩:=fp.ak
    refine Op.l1 22 87 88 (fl+i.toNat*1) (vL d7 aw.length d8) (c4.sub _ _ h6) ?_ (hv:=bN d6 0 rfl)
    refine Op.pg 17 [(11,vL d7 aw.length d8)]<|At.rp 8 1 [(89,vQ ar 9)] ?_
    obtain⟨o4,v212,h7,o5,h8,h9,fr,ft,fv⟩:=d5
    obtain⟨ib,n221,rfl⟩:=fr.ak
    obtain⟨a222,ih,rfl⟩:=ft.ak
    obtain⟨ii,n225,rfl⟩:=fv.ak
    have d9:=St.un [h7,h8] h9 c4
    refine Op.l1 40 89 90 9 (vL a222 ob.aX.length ih) (d9.ag 0 rfl)<|Op.px 1 [(91,vL d7 aw.length d8)]<|Op.Bu (T:=22) (S:=9) (E:=5) (x:=91) (dst:=92) (l:=aw) (by kernel_rfl) (by kernel_rfl) (by kernel_rfl) (by kernel_rfl) (by kernel_rfl) (fp.toH d9.sub)<|Op.ls 93 1 9 #[vS aw] d9 fun pa pb fw=>Op.ap 90 93 40 40 94 9 16 cV (ys:=[aw]) ft fw 2 (⟨_,_,rfl,rfl,Reads.nil⟩) (by(have:=(I1 hN).1;simp only[bJ,cF];omega)) (fun _ _ _=>trivial) (cT.lit (m:=1) (sz:=1) (fw.ag 0 rfl) (news:=[vS aw]) rfl rfl (by simp[Value.oneCell']) _) fun pc pd pf fx ik ph=>?_
    obtain⟨f0,f1,rfl⟩:=fx.ak
    refine Op.px 1 [(95,vQ ar 9)]<|Op.s1 40 95 94 9 (vL f0 ((ob.aX++([aw])).length) f1) 0 #[vI ob.Code,vI ob.aU,vI ob.At,vS ob.aa.af,vL ib ob.aa.Data.length n221,vI ob.aa.ai,vI ob.aa.aC,vI ob.aa.Next,vI ob.aa.aF,vL f0 ((ob.aX++([aw])).length) f1,vL ii ob.aP.length n225] ((ik).drop) zt fun pj il=>Op.gt 18<|At.rg 2<|Op.cO 96 (i+1) (by omega) (by(have:=(jv X).1;omega)) ?_
    refine Op.pg 14 [(85,vI (i+1))] ?_
    obtain⟨pl,io,ip⟩:=St.bF (Q:=eG be ar (⟨ob.Code,ob.aU,ob.At,⟨ob.aa.af,ob.aa.Data,ob.aa.ai,ob.aa.aC,ob.aa.Next,ob.aa.aF⟩,ob.aX++([aw]),ob.aP⟩:Result)) 3 il ⟨_,_,_,_,_,rfl,fr,fx,fv⟩
    exact At.ke (h3 _ bi (⟨ob.Code,ob.aU,ob.At,⟨ob.aa.af,ob.aa.Data,ob.aa.ai,ob.aa.aC,ob.aa.Next,ob.aa.aF⟩,ob.aX++([aw]),ob.aP⟩:Result) (i+1) _ _ (by omega) (by omega) (by omega) (by omega) (by exact I0 hN h0 fj) io ip)
   refine At.rp 4 1 [(97,vL (some ⟨a0,Z,none⟩) (((aJ b).1).length) am)]<|Op.pJ (T:=76) (E:=22) (cK:=24) (x:=97) (ao:=(some ⟨a0,Z,none⟩)) (n:=(((aJ b).1).length)) (c:=am) (dst:=98) (d:=(fI 5 a_)) (lo:=(.const (vI 4))) (k:=.i64) (m:=4) (by kernel_rfl) (by kernel_rfl) (by kernel_rfl) (by kernel_rfl) ae (by omega) (by omega) fun pm c5=>?_
   obtain⟨is,f2,rfl⟩:=c5.ak
   refine Op.pg 20 [(99,vI ((((aJ b).1).drop (4:Int).toNat).length:Int)),(100,vI 0)] ?_
   have iv:∀(m:Nat) (c6:GH) (bs:aM be c6) (u:Result) (q:Int) (ea:az) (eb:ay) (hm:((aJ b).1.drop (4:Int).toNat).length-q.toNat<m) (f3:0≤q) (i0:q≤((aJ b).1.drop (4:Int).toNat).length) (hE:nE b D X u q) (bt:eG c6 ar u ea) (b3:St h g (aS []) c6 [ea,[(cf,Obj.cells dG 43 (0,0))]] eb),At (bP prog B 19 f19 R) [] 20 [(0,vL cb b.length ce),(2,vP cf),(9,vP ar),(98,vL is ((((aJ b).1).drop (4:Int).toNat).length) f2),(99,vI ((((aJ b).1).drop (4:Int).toNat).length:Int)),(100,vI q)] eb:=by
    intro m;induction m with
    |zero=>intros;omega
    |succ m i1=>
     intro c6 bs u q ea eb hm f3 i0 hE bt b3
     replace O:=O.mono bs
     replace V:=V.mono bs
     replace c5:=c5.mono bs
     refine At.go 21 1 [(101,.bool (decide (q<((((aJ b).1).drop (4:Int).toNat).length:Int))))]<|At.fd (q<((((aJ b).1).drop (4:Int).toNat).length:Int)) 101 22 30 (fun po=>?_) fun pu=>?_
     ·refine At.rg 3 ?_
      obtain⟨G,a4⟩:=bW (((aJ b).1).drop (4:Int).toNat) q
      obtain⟨i3,f4,pv,pw,i4,i5,ed⟩:=an.bB c5 _ a4
      cases i4
      refine Op.iq 76 22 1 24 ((((aJ b).1).drop (4:Int).toNat).length) f2 98 100 102 i3 f4 q ?_
      obtain⟨py,ed,f5⟩:=ed
      obtain⟨ee,n267,rfl⟩:=f5.ak
      refine Op.l1 22 102 103 (f4+q.toNat*1) (vL ee G.length n267) (b3.sub _ _ i5) ?_ (hv:=bN ed 0 rfl)
      refine Op.pg 23 [(13,vL ee G.length n267)]<|At.rp 8 1 [(105,vL ee G.length n267)]<|Op.c0 (some 106) (Qi _ _ _ b3.sub O _ _ f5 (by((try dsimp only)<;>((have:=Dk a4;omega))))) b3 ?_
      rintro _ i6 _ pA i7 i8 ⟨rfl,rfl⟩
      replace bt:=bt.mono i7
      refine Op.px 3 [(107,.agg #[vI (((dX G).1).ax),vI (((dX G).1).ah),vS (((dX G).1).af)]),(108,.bool ((dX G).2))]<|Op.al 14 45 lp i8 fun pB pC i9=>Op.sg 45 14 107 0 0 #[vI (((dX G).1).ax),vI (((dX G).1).ah),vS (((dX G).1).af)] i9 zt fun pD f6=>Op.pg 24 [(15,.bool ((dX G).2))]<|At.go 25 2 [(110,.bool (!((dX G).2)))] ?_
      refine At.cW (!((dX G).2)) 110 26 28 (fun f7=>?_) fun f8=>?_
      ·replace f7:=(dn f7)
       exact At.rp 3 1 [(111,.agg dG)]<|Op.sg 43 2 111 0 2 dG f6 zt fun p0 f9=>Op.pg 27 [(3,vI 130)]<|At.rn f19 kH [.cell 2 43,.tmp 3] ⟨⟨_,_,rfl,cq (n:=11) (by kernel_rfl) (f9.ag 2 rfl) (by kernel_rfl) rfl⟩,rfl,trivial⟩ (hR f9.drop.drop.drop ⟨vN,vN,vN,bA (by(rw[vh hH a4 ‹_›];rfl)) (bg (by(rw[vh hH a4 ‹_›];done))),bl (an.empty _ _ _ _ _) (by(rw[vh hH a4 ‹_›];rfl)),bl (an.empty _ _ _ _ _) (by(rw[vh hH a4 ‹_›];rfl)),bl (an.empty _ _ _ _ _) (by(rw[vh hH a4 ‹_›];rfl)),rfl⟩)
      replace f8:=(dr f8)
      refine At.rp 7 1 [(112,vQ ar 10)] ?_
      obtain⟨p1,p2,jf,p3,jj,js,gc,ge,gg⟩:=bt
      obtain⟨jt,j1,rfl⟩:=gc.ak
      obtain⟨j2,kc,rfl⟩:=ge.ak
      obtain⟨kd,n295,rfl⟩:=gg.ak
      have ef:=St.un [jf,jj] js (f6.fs [1] rfl)
      refine Op.l1 41 112 113 10 (vL kd u.aP.length n295) (ef.ag 0 rfl)<|Op.la 45 14 114 0 3 [vI (((dX G).1).ax),vI (((dX G).1).ah),vS (((dX G).1).af)] (ef.ag 3 rfl)<|Op.ls 115 1 45 #[vI (((dX G).1).ax),vI (((dX G).1).ah),vS (((dX G).1).af)] ef fun p8 qr gk=>Op.ap 113 115 41 41 116 45 32 cA (ys:=[((dX G).1)]) gg gk 3 (⟨_,_,rfl,rfl,Reads.nil⟩) (by(have:=Du hE;simp only[bJ,cF];omega)) (fun _ _ _=>trivial) (cT.lit (m:=1) (sz:=3) (gk.ag 0 rfl) (news:=[vI (((dX G).1).ax),vI (((dX G).1).ah),vS (((dX G).1).af)]) rfl rfl (by simp[Value.oneCell']) _) fun q0 q1 q2 gn kh q3=>?_
      obtain⟨gs,n308,rfl⟩:=gn.ak
      refine Op.px 1 [(117,vQ ar 10)]<|Op.s1 41 117 116 10 (vL gs ((u.aP++([((dX G).1)])).length) n308) 0 #[vI u.Code,vI u.aU,vI u.At,vS u.aa.af,vL jt u.aa.Data.length j1,vI u.aa.ai,vI u.aa.aC,vI u.aa.Next,vI u.aa.aF,vL j2 u.aX.length kc,vL gs ((u.aP++([((dX G).1)])).length) n308] ((kh).drop) zt fun ra kk=>Op.gt 29<|At.rg 2<|Op.cO 118 (q+1) (by omega) (by(have:=PI ‹_›;omega)) ?_
      refine Op.pg 20 [(100,vI (q+1))] ?_
      obtain⟨rb,kl,km⟩:=St.bF (Q:=eG i6 ar (⟨u.Code,u.aU,u.At,⟨u.aa.af,u.aa.Data,u.aa.ai,u.aa.aC,u.aa.Next,u.aa.aF⟩,u.aX,u.aP++([((dX G).1)])⟩:Result)) 3 kk ⟨_,_,_,_,_,rfl,gc,ge,gn⟩
      exact At.ke (i1 _ (aM.trans bs (by repeat (first|assumption|apply aM.trans))) (⟨u.Code,u.aU,u.At,⟨u.aa.af,u.aa.Data,u.aa.ai,u.aa.aC,u.aa.Next,u.aa.aF⟩,u.aX,u.aP++([((dX G).1)])⟩:Result) (q+1) _ _ (by omega) (by omega) (by omega) (by exact I3 hE f3 a4 ‹_›) kl ((km.fs [1] rfl).drop))
     refine At.rg 7 ?_
     obtain⟨rc,rd,kv,re,kw,kx,a3,g1,c8⟩:=bt
     obtain⟨b4,b5,rfl⟩:=a3.ak
     obtain⟨b6,n329,rfl⟩:=g1.ak
     obtain⟨b8,n331,rfl⟩:=c8.ak
     have g2:=St.un [kv,kw] kx b3
     refine Op.la 43 9 120 0 11 [vI u.Code,vI u.aU,vI u.At,vS u.aa.af,vL b4 u.aa.Data.length b5,vI u.aa.ai,vI u.aa.aC,vI u.aa.Next,vI u.aa.aF,vL b6 u.aX.length n329,vL b8 u.aP.length n331] (g2.ag 0 rfl) ?_
     obtain⟨rf,kA,c9,bj⟩:=aH.freeze g1 (g2.fs [1] rfl)
     replace a3:=a3.mono c9
     replace c8:=c8.mono c9
     replace O:=O.mono c9
     replace V:=V.mono c9
     obtain⟨rh,g3,da,db⟩:=aH.freeze c8 (kA.fs [1] rfl)
     replace a3:=a3.mono da
     replace O:=O.mono da
     replace V:=V.mono da
     replace bj:=bj.mono da
     refine Op.c0 (some 121) (vn _ _ _ g3.sub O u _ a3 _ bj _ db (by(try dsimp only)<;>exact Dv hE)) g3 ?_
     rintro _ rk _ rr ca eh ⟨rv,rfl,g4,rfl⟩
     obtain⟨g5,g6,rfl⟩:=g4.ak
     replace a3:=a3.mono ca
     replace O:=O.mono ca
     replace V:=V.mono ca
     replace bj:=bj.mono ca
     replace db:=db.mono ca
     refine Op.pg 31 [(16,vL g5 (((aO u).1).length) g6),(17,vI ((aO u).2))]<|At.rp 8 3 [(126,.bool (((aO u).2) != 0))]<|Op.wb (((aO u).2) != 0) 126 (fun g7=>?_) fun g8=>?_
     ·replace g7:=fY g7
      refine Op.pg 32 [(131,vT)]<|At.bT 131 33<|At.rp 3 1 [(132,.agg dG)]<|Op.sg 43 2 132 0 1 dG eh zt fun rx g9=>Op.pg 34 [(3,vI 130)] ?_
      exact At.rn f19 kH [.cell 2 43,.tmp 3] ⟨⟨_,_,rfl,cq (n:=11) (by kernel_rfl) (g9.ag 1 rfl) (by kernel_rfl) rfl⟩,rfl,trivial⟩ (hR g9.drop.drop ⟨vN,vN,vN,bA (by(rw[jU hH I J hE ‹_› (.inl ‹_›)];rfl)) (bg (by(rw[jU hH I J hE ‹_› (.inl ‹_›)];done))),bl (an.empty _ _ _ _ _) (by(rw[jU hH I J hE ‹_› (.inl ‹_›)];rfl)),bl (an.empty _ _ _ _ _) (by(rw[jU hH I J hE ‹_› (.inl ‹_›)];rfl)),bl (an.empty _ _ _ _ _) (by(rw[jU hH I J hE ‹_› (.inl ‹_›)];rfl)),rfl⟩)
     replace g8:=gB g8
     refine Op.px 2 [(127,vL g5 (((aO u).1).length) g6),(128,vL cb b.length ce)]<|Op.c1 129 (Qh _ _ _ eh.sub O _ _ g4 _ _ V (by(try dsimp only)<;>omega)) eh fun r0 ej=>Op.pg 32 [(131,.bool (!(decide (((aO u).1)=b))))]<|At.cW (!(decide (((aO u).1)=b))) 131 33 35 (fun ha=>?_) fun hb=>?_
     ·replace ha:=kW (dn ha)
      exact At.rp 3 1 [(132,.agg dG)]<|Op.sg 43 2 132 0 1 dG ej zt fun r1 he=>Op.pg 34 [(3,vI 130)]<|At.rn f19 kH [.cell 2 43,.tmp 3] ⟨⟨_,_,rfl,cq (n:=11) (by kernel_rfl) (he.ag 1 rfl) (by kernel_rfl) rfl⟩,rfl,trivial⟩ (hR he.drop.drop ⟨vN,vN,vN,bA (by(rw[jU hH I J hE ‹_› (.inr ‹_›)];rfl)) (bg (by(rw[jU hH I J hE ‹_› (.inr ‹_›)];done))),bl (an.empty _ _ _ _ _) (by(rw[jU hH I J hE ‹_› (.inr ‹_›)];rfl)),bl (an.empty _ _ _ _ _) (by(rw[jU hH I J hE ‹_› (.inr ‹_›)];rfl)),bl (an.empty _ _ _ _ _) (by(rw[jU hH I J hE ‹_› (.inr ‹_›)];rfl)),rfl⟩)
     replace hb:=iX (dr hb)
     exact At.rg 3<|Op.la 43 9 133 0 11 [vI u.Code,vI u.aU,vI u.At,vS u.aa.af,vL b4 u.aa.Data.length b5,vI u.aa.ai,vI u.aa.aC,vI u.aa.Next,vI u.aa.aF,vL b6 u.aX.length n329,vL b8 u.aP.length n331] (ej.ag 0 rfl)<|Op.sg 43 2 133 0 1 #[vI u.Code,vI u.aU,vI u.At,vS u.aa.af,vL b4 u.aa.Data.length b5,vI u.aa.ai,vI u.aa.aC,vI u.aa.Next,vI u.aa.aF,vL b6 u.aX.length n329,vL b8 u.aP.length n331] ej zt fun r2 hf=>Op.pg 36 [(3,vI 0)]<|At.rn f19 [.agg #[vI u.Code,vI u.aU,vI u.At,vS u.aa.af,vL b4 u.aa.Data.length b5,vI u.aa.ai,vI u.aa.aC,vI u.aa.Next,vI u.aa.aF,vL b6 u.aX.length n329,vL b8 u.aP.length n331],vI 0] [.cell 2 43,.tmp 3] ⟨⟨_,_,rfl,cq (n:=11) (by kernel_rfl) (hf.ag 1 rfl) (by kernel_rfl) rfl⟩,rfl,trivial⟩ (hR hf.drop.drop ⟨(vL b4 u.aa.Data.length b5),(vL b6 u.aX.length n329),(vL b8 u.aP.length n331),bA (by(rw[p6 hH I J hE ‹_› ‹_› ‹_›];done)) (bg (by(rw[p6 hH I J hE ‹_› ‹_› ‹_›];done))),bl a3 (by(rw[p6 hH I J hE ‹_› ‹_› ‹_›];done)),bl bj (by(rw[p6 hH I J hE ‹_› ‹_› ‹_›];done)),bl db (by(rw[p6 hH I J hE ‹_› ‹_› ‹_›];done)),rfl⟩)
   exact At.ke (iv _ _ (aM.refl _) ob 0 _ _ (bG _) (by omega) (by omega) (by exact I2 hN ‹_›) d5 c4)
 exact At.ke (h2 _ _ (aM.refl _) (⟨a6,a7,a8,⟨bd,bo,a9,a5-1,bb,bc⟩,([]:List aj),([]:List au)⟩:Result) 0 _ _ (bG _) (by omega) (by omega) (by exact IY ‹_› ‹_› I ‹_› J ‹_›) (by exact IZ e9 fg e3 e4 e5 e6 c3 e7 e8) hY hZ)
set_option linter.unusedSectionVars false
def nF {α:Type} (y:List (Int×(List α×az))):List (Int×List α):=y.map fun p=>(p.1,p.2.1)
def oR {α:Type} (y:List (Int×(List α×az))):az:=(y.map fun p=>p.2.2).flatten
def Qj {α:Type} (T:TypeId) (d:Kd α) (g:GH) (a:List α×az) (v:Value):Prop:=aH T d g v a.1 a.2
section
variable {α:Type} {y:List (Int×(List α×az))} {k:Int} {xs:List α} {c:az}
theorem Qk (h:fR y):fR (nF y):=by unfold nF fR;rw[sY];exact h
theorem Jk:cy (nF y) k=(cy y k).map (·.1):=by
  induction y with
  |nil=>rfl
  |cons p y ih=>
   unfold nF at *
   rw[eS,kF,kF,ih]
   split<;>rfl
theorem Jl:nF (dz y k (xs,c))=dz (nF y) k xs:=by
  induction y with
  |nil=>rfl
  |cons p y ih=>
   unfold nF at *
   rw[eS,dz,dz]
   repeat' split
   · rw[eS,ih]
   · rfl
   · rfl
theorem Jm:nF (eR y k)=eR (nF y) k:=by
  unfold nF eR
  rw[s9]
  rfl
theorem Ql {u:Type} {x:List (Int×u)} (h:cy x k=none):eR x k=x:=by
  unfold eR
  rw[pN]
  intro p hp
  simpa using C9.1 h p hp
theorem Qm {u:Type} {x:List (Int×u)} {a:u} (hs:fR x):dz (eR x k) k a=dz x k a:=by
  induction x with
  |nil=>rfl
  |cons p x ih=>
   obtain⟨h1,h2⟩:=jF.1 hs
   have ih:=ih h2
   unfold eR at *
   rw[iW]
   by_cases h:p.1=k
   · simp only[h,sZ,nW,fW,dI]
     rw[dz,aL (by omega),aY h]
     have:x.filter (fun p=>!decide (p.1=k))=x:=by
       rw[pN]
       intro q hq
       have:=h1 q hq
       simp only[gz,jE]
       omega
     rw[this]
     cases x with
     |nil=>rfl
     |cons q x=>
      have:=h1 q (by simp)
      rw[dz,aL (by omega),aL (by omega)]
   · simp only[h,uE,rj,gX]
     rw[dz,dz,ih,aL h,aL h]
     split
     · rfl
     · have:x.filter (fun p=>!decide (p.1=k))=x:=by
         rw[pN]
         intro q hq
         have:=h1 q hq
         simp only[gz,jE]
         omega
       rw[this]
theorem Qn (hs:fR y) (h:cy y k=some (xs,c)):(oR y).Perm (c++oR (eR y k)):=by
  induction y with
  |nil=>simp[cy] at h
  |cons p y ih=>
   obtain⟨h1,h2⟩:=jF.1 hs
   rw[kF] at h
   unfold oR eR at *
   rw[iW,eS,cm]
   by_cases hk:p.1=k
   · rw[aY hk] at h
     obtain⟨u,D,G⟩:=p
     simp only[ey,gY] at h
     obtain⟨rfl,rfl⟩:=h
     simp only at hk
     subst hk
     simp only[sZ,nW,fW,dI]
     have:y.filter (fun p=>!decide (p.1=u))=y:=by
       rw[pN]
       intro q hq
       have:=h1 q hq
       simp only[gz,jE]
       simp only at this
       omega
     rw[this]
   · rw[aL hk] at h
     simp only[hk,uE,rj,gX]
     rw[eS,cm]
     refine((ih h2 h).append_left p.2.2).trans ?_
     rw[←cJ,←cJ]
     exact List.perm_append_comm.append_right _
theorem Jn {x:List (Int×(List α×az))} (h:cy x k=none):(oR (dz x k (xs,c))).Perm (c++oR x):=by
  have:=(Dc (k:=k) (a:=(xs,c)) (x:=x) (C9.1 h)).map (fun p=>p.2.2)
  unfold oR
  exact this.flatten
end
def mD {α:Type} (T:TypeId) (d:Kd α) (g:GH) (ks:List (Int×Value)) (x:List (Int×List α)) (F:az):Prop:=∃y,fu (Qj T d g) ks y∧x=nF y∧F.Perm (oR y)
def Jo {α:Type} (T:TypeId) (d:Kd α) (g:GH) (ks:List (Int×Value)) (x:List (Int×List α)) (k:Int) (F:az):Prop:=
  (∀g' v xs c,aM g g'→aH T d g' v xs c→mD T d g' (gR ks k v) (dz x k xs) (c++F))∧∀g',aM g g'→mD T d g' (jm ks k) (eR x k) F
section
variable {α:Type} {T:TypeId} {d:Kd α} {g g':GH} {ks:List (Int×Value)} {x:List (Int×List α)} {F F' c:az} {k:Int} {v:Value} {xs:List α}
theorem mD.mono (H:mD T d g ks x F) (hg:aM g g'):mD T d g' ks x F:=by
  obtain⟨y,h1,h2,h3⟩:=H
  exact⟨y,h1.mono fun _ _ h=>aH.mono h hg,h2,h3⟩
theorem mD.nil:mD T d g [] ([]:List (Int×List α)) []:=⟨[],fu.nil,rfl,ga _⟩
theorem mD.gS (H:mD T d g ks x F) (k:Int):(fq ks k=none∧cy x k=none∧Jo T d g ks x k F)∨
    ∃v xs c F',fq ks k=some v∧cy x k=some xs∧aH T d g v xs c∧F.Perm (c++F')∧Jo T d g ks x k F':=by
  obtain⟨y,h1,rfl,h3⟩:=H
  have hd:∀(xs:List α) (c:az),(oR (dz (eR y k) k (xs,c))).Perm (c++oR (eR y k)):=fun xs c=>Jn (by rw[Ih,aY rfl])
  rcases h1.gS k with ⟨e1,e2⟩|⟨v,⟨xs,c⟩,e1,e2,e3⟩
  · refine .inl ⟨e1,by rw[Jk,e2];rfl,fun g2 v xs c hg hr=>⟨dz y k (xs,c),fu.pz (a:=(xs,c)) (h1.mono fun _ _ h=>aH.mono h hg) hr,Jl.symm,(h3.append_left c).trans (Jn e2).symm⟩,fun g2 hg=>⟨eR y k,(h1.mono fun _ _ h=>aH.mono h hg).n7 k,Jm.symm,by rw[Ql e2];exact h3⟩⟩
  · refine .inr ⟨v,xs,c,oR (eR y k),e1,by rw[Jk,e2];rfl,e3,h3.trans (Qn h1.1 e2),fun g2 v xs c hg hr=>⟨dz y k (xs,c),fu.pz (a:=(xs,c)) (h1.mono fun _ _ h=>aH.mono h hg) hr,Jl.symm,?_⟩,fun g2 hg=>⟨eR y k,(h1.mono fun _ _ h=>aH.mono h hg).n7 k,Jm.symm,ga _⟩⟩
    rw[←Qm h1.1]
    exact(hd xs c).symm
theorem mD.Qo (H:mD T d g ks x F) (k:Int):∃u F',F.Perm (u++F')∧mD T d g (jm ks k) (eR x k) F':=by
  rcases H.gS k with ⟨_,_,h⟩|⟨_,_,c,F',_,_,_,hp,h⟩
  · exact⟨[],F,ga _,h.2 g (aM.refl _)⟩
  · exact⟨c,F',hp,h.2 g (aM.refl _)⟩
end
def r_ {α:Type} (T:TypeId) (d:Kd α) (g:GH) (b:Nat) (x:List (Int×List α)) (c:az):Prop:=∃es aZ ks F,c=(b,.map es aZ)::F∧cG encI es aZ ks∧mD T d g ks x F
def Qp {α:Type} (T:TypeId) (d:Kd α) (g:GH) (a:List α) (v:Value):Prop:=an g T d v a
def vp {α:Type} (T:TypeId) (d:Kd α) (g:GH) (b:Nat) (x:List (Int×List α)):Prop:=pW (Qp T d) g b x
section
variable {α:Type} {T:TypeId} {d:Kd α} {g g':GH} {b:Nat} {x y:List (Int×List α)} {c C:az} {L:List az} {h0 h:ay} {g0:GH} {S0:Nat→Prop}
theorem r_.mono (H:r_ T d g b x c) (hg:aM g g'):r_ T d g' b x c:=by
  obtain⟨es,aZ,ks,F,h1,h2,h3⟩:=H
  exact⟨es,aZ,ks,F,h1,h2,h3.mono hg⟩
theorem vp.mono (H:vp T d g b x) (hg:aM g g'):vp T d g' b x:=pW.mono hg (fun _ _ h=>an.mono h hg) H
theorem Qq {z:List (Int×(List α×az))} {a:Int×(List α×az)} (h:a∈z) {p:Nat×Obj} (hp:p∈a.2.2):p∈oR z:=ur.2 ⟨_,cY.2 ⟨a,h,rfl⟩,hp⟩
theorem r_.fK (H:r_ T d g b x c) (s:St h0 g0 S0 g (C::L) h) (hc:∀p∈c,p∈C):vp T d (cS g C) b x:=by
  obtain⟨es,aZ,ks,F,rfl,h2,z,h3,rfl,h5⟩:=H
  refine⟨es,aZ,ks,nV s.oJ (hc _ (.head _)),h2,Qk h3.1,h3.2.1,?_,fun k v a G I=>?_⟩
  · have:(nF z).map (·.1)=z.map (·.1):=by unfold nF;rw[jA];rfl
    rw[this];exact h3.2.2.1
  · obtain⟨q,hq,e⟩:=cY.1 I
    obtain⟨J,u,D⟩:=q
    simp only[gY] at e
    obtain⟨rfl,rfl⟩:=e
    have hr:aH T d g v u D:=h3.2.2.2 _ v (u,D) G hq
    exact hr.Bx s fun p hp=>hc p (.tail _ (h5.mem_iff.2 (Qq hq hp)))
end
theorem St.si {h0 h:ay} {g0 g:GH} {S0:Nat→Prop} {L:List az} {F c F':az} (hp:F.Perm (c++F')) (s:St h0 g0 S0 g (F::L) h):St h0 g0 S0 g (c::F'::L) h:=
  St.pR (L:=F::L) (by rw[cm,cm,cm,←cJ];exact hp.append_right _) s
theorem St.tw {h0 h:ay} {g0 g:GH} {S0:Nat→Prop} {L:List az} {F c F':az} (hp:F.Perm (c++F')) (s:St h0 g0 S0 g (c::F'::L) h):St h0 g0 S0 g (F::L) h:=
  St.pR (L:=c::F'::L) (by rw[cm,cm,cm,←cJ];exact(hp.append_right _).symm) s
def kI (a b:Int):Int:=if a<b then -1 else if a>b then 1 else 0
def mE (a b:aj):Int:=if Go.Op.bytesLess a b=true then -1 else if (Go.Op.bytesLess a b||a==b)=true then 0 else 1
theorem Qr {a b:aj} (h:Go.Op.bytesLess a b=true): -1=mE a b:=by rw[mE,aY h]
theorem Qs {a b:aj} (h:Go.Op.bytesLess a b=false) (h2:(Go.Op.bytesLess a b||a==b)=true):0=mE a b:=by rw[mE,aL (iT.1 h),aY h2]
theorem Qt {a b:aj} (h:Go.Op.bytesLess a b=false) (h2:(Go.Op.bytesLess a b||a==b)=false):1=mE a b:=by rw[mE,aL (iT.1 h),aL (iT.1 h2)]
def ja:List Int→Int
  |[]=>0
  |x::l=>if x=0 then ja l else x
def lV (a b:au):Int:=ja [mE a.af b.af,kI a.ah b.ah,kI a.ax b.ax]
theorem Qu {l:List Int} {i x:Int} (h:ja l=ja (l.drop i.toNat)) (h0:0≤i) (hx:l[i.toNat]?=some x) (hz:x=0):ja l=ja (l.drop (i+1).toNat):=by
  rw[h,drop_at hx,toNat_succ h0,ja,aY hz]
theorem Qv {l:List Int} {i x:Int} (h:ja l=ja (l.drop i.toNat)) (hx:l[i.toNat]?=some x) (hz:¬(x=0)):x=ja l:=by
  rw[h,drop_at hx,ja,aL hz]
theorem Qw {l:List Int} {i:Int} (h:ja l=ja (l.drop i.toNat)) (hi:¬(i<(l.length:Int))):0=ja l:=by
  rw[h,mO (by omega)];rfl
def fV (a b:au):Bool:=if a.af≠b.af then Go.Op.bytesLess a.af b.af else if a.ah≠b.ah then decide (a.ah<b.ah) else decide (a.ax<b.ax)
def cnt (c:Int):List au→Nat
  |[]=>0
  |x::xs=>(if x.ax=c then 1 else 0)+cnt c xs
theorem Jp {c n i:Int} {l:List au} {x:au} (h:n+(cnt c (l.drop i.toNat):Int)=cnt c l) (h0:0≤i) (hx:l[i.toNat]?=some x) (hc:x.ax=c):n+1+(cnt c (l.drop (i+1).toNat):Int)=cnt c l:=by
  rw[drop_at hx,cnt,aY hc] at h;rw[toNat_succ h0];omega
theorem Jq {c n i:Int} {l:List au} {x:au} (h:n+(cnt c (l.drop i.toNat):Int)=cnt c l) (h0:0≤i) (hx:l[i.toNat]?=some x) (hc:¬(x.ax=c)):n+(cnt c (l.drop (i+1).toNat):Int)=cnt c l:=by
  rw[drop_at hx,cnt,aL hc] at h;rw[toNat_succ h0];omega
theorem qS {c n i:Int} {l:List au} (h:n+(cnt c (l.drop i.toNat):Int)=cnt c l) (hi:¬(i<(l.length:Int))):n=(cnt c l:Int):=by
  rw[mO (by omega)] at h;simpa[cnt] using h
def iQ (w:au):Bool:=decide (w.ax≥0)&&(decide (w.ax<8)&&((w.ah==1||w.ah==2)&&cR w.af==0))
def qa (u:List Int) (w:au):Bool:=u.any fun c=>decide (c=w.ax)
def fN (kind:Int) (de:List aj) (w:au):Bool:=de.any (fun p=>decide (p=w.af))&&decide (w.ah=kind)
section
variable {kind:Int} {de:List aj} {l:List au} {i k:Int} {Uk:Bool} {x:au}
end
theorem xH (a:au):fV a a=false:=by simp[fV]
theorem qb {a b:au} (h:a.af≠b.af):fV a b=Go.Op.bytesLess a.af b.af:=by unfold fV;rw[aY h]
theorem qc {a b:au} (h:a.af=b.af) (k:a.ah≠b.ah):fV a b=decide (a.ah<b.ah):=by unfold fV;rw[aL (fun n=>n h),aY k]
theorem tT {a b:au} (h:a.af=b.af) (k:a.ah=b.ah):fV a b=decide (a.ax<b.ax):=by unfold fV;rw[aL (fun n=>n h),aL (fun n=>n k)]
theorem Af {a b c:au} (h:fV a b=true) (k:fV b c=true):fV a c=true:=by
  by_cases h1:a.af=b.af
  · by_cases k1:b.af=c.af
    · by_cases h2:a.ah=b.ah
      · by_cases k2:b.ah=c.ah
        · rw[tT h1 h2,cN] at h
          rw[tT k1 k2,cN] at k
          rw[tT (h1.trans k1) (h2.trans k2),cN];omega
        · rw[qc k1 k2,cN] at k
          rw[qc (h1.trans k1) (by rw[h2];exact k2),cN,h2];exact k
      · rw[qc h1 h2,cN] at h
        by_cases k2:b.ah=c.ah
        · rw[qc (h1.trans k1) (by rw[←k2];exact h2),cN,←k2];exact h
        · rw[qc k1 k2,cN] at k
          rw[qc (h1.trans k1) (by omega),cN];omega
    · rw[qb k1] at k
      rw[qb (by rw[h1];exact k1),h1];exact k
  · rw[qb h1] at h
    by_cases k1:b.af=c.af
    · rw[qb (by rw[←k1];exact h1),←k1];exact h
    · rw[qb k1] at k
      have:=w6 h k
      rw[qb (B7 this)];exact this
theorem Jr {a b:au} (h:a.af=b.af) (k:a.ah=b.ah) (c:a.ax=b.ax):a=b:=by
  obtain⟨a0,a1,a2⟩:=a;obtain⟨b0,b1,b2⟩:=b
  simp only at h k c
  rw[h,k,c]
theorem Qx {a b:au} (h:fV a b=false) (k:fV b a=false):a=b:=by
  by_cases h1:a.af=b.af
  · by_cases h2:a.ah=b.ah
    · rw[tT h1 h2,jE] at h
      rw[tT h1.symm h2.symm,jE] at k
      exact Jr h1 h2 (by omega)
    · rw[qc h1 h2,jE] at h
      rw[qc h1.symm (fun e=>h2 e.symm),jE] at k
      omega
  · rw[qb h1] at h
    rw[qb (fun e=>h1 e.symm)] at k
    exact absurd (yR h k) h1
theorem Qy {a b:au} (h:fV a b=true):fV b a=false:=by
  cases hk:fV b a with
  |false=>rfl
  |true=>have:=Af h hk;rw[xH] at this;cases this
theorem Js (a b:au):(fV a b=true∧lV a b= -1)∨(a=b∧lV a b=0)∨(fV b a=true∧lV a b=1):=by
  unfold lV
  by_cases h1:a.af=b.af
  · have e1:mE a.af b.af=0:=by simp[mE,h1,uT]
    by_cases h2:a.ah=b.ah
    · have e2:kI a.ah b.ah=0:=by simp[kI,h2]
      rw[e1,e2,tT h1 h2,tT h1.symm h2.symm]
      simp only[ja,gX]
      unfold kI
      by_cases h3:a.ax<b.ax
      · left;simp[h3]
      · by_cases h4:b.ax<a.ax
        · right;right;simp[h3,h4]
        · right;left
          exact⟨Jr h1 h2 (by omega),by simp[h3,h4]⟩
    · rw[e1,qc h1 h2,qc h1.symm (fun e=>h2 e.symm)]
      simp only[ja,gX]
      unfold kI
      by_cases h3:a.ah<b.ah
      · left;simp[h3]
      · right;right
        have h4:b.ah<a.ah:=by omega
        simp[h3,h4]
  · rw[qb h1,qb (fun e=>h1 e.symm)]
    unfold mE
    cases h:Go.Op.bytesLess a.af b.af with
    |true=>left;simp[ja]
    |false=>
     right;right
     have:Go.Op.bytesLess b.af a.af=true:=by
       cases hk:Go.Op.bytesLess b.af a.af with
       |true=>rfl
       |false=>exact absurd (yR h hk) h1
     have hne:(a.af==b.af)=false:=by simpa using h1
     simp[this,hne,ja]
theorem DE {a b:au}:lV a b<0↔fV a b=true:=by
  rcases Js a b with ⟨h,e⟩|⟨h,e⟩|⟨h,e⟩
  · simp[h,e]
  · subst h;simp[e,xH]
  · simp[e,Qy h]
theorem Jt {a b:au}:lV a b=0↔a=b:=by
  rcases Js a b with ⟨h,e⟩|⟨h,e⟩|⟨h,e⟩
  · rw[e];simp;intro u;subst u;rw[xH] at h;cases h
  · rw[e];simp[h]
  · rw[e];simp;intro u;subst u;rw[xH] at h;cases h
def j_ (xs:List au):Prop:=xs.Pairwise fun a b=>fV a b=true
theorem j_.nil:j_ []:=List.Pairwise.nil
theorem j_.filter {xs:List au} (h:j_ xs) (q:au→Bool):j_ (xs.filter q):=List.Pairwise.filter q h
theorem j_.at {xs:List au} (h:j_ xs) {i j:Nat} {x y:au} (u:i<j) (hx:xs[i]?=some x) (hy:xs[j]?=some y):fV x y=true:=by
  obtain⟨hi,rfl⟩:=fO.1 hx
  obtain⟨hj,rfl⟩:=fO.1 hy
  exact yz.1 h i j hi hj u
def Lo (xs:List au) (w:au) (i:Int):Prop:=∀(k:Nat) x,(k:Int)<i→xs[k]?=some x→fV x w=true
def Hi (xs:List au) (w:au) (i:Int):Prop:=∀(k:Nat) x,i≤(k:Int)→xs[k]?=some x→fV x w=false
theorem Qz (xs:List au) (w:au):Lo xs w 0:=fun k x h=>by omega
theorem QA (xs:List au) (w:au):Hi xs w xs.length:=fun k x h hx=>by have:=(fO.1 hx).1;omega
theorem QB {xs:List au} {w:au} (hs:j_ xs) {i m:Int} {x:au} (h:Lo xs w i) (h0:0≤m) (hx:xs[m.toNat]?=some x) (hc:lV x w<0):Lo xs w (m+1):=by
  intro k y hk hy
  rcases nP k m.toNat with hl|hl
  · exact Af (hs.at hl hy hx) (DE.1 hc)
  · have:k=m.toNat:=by omega
    subst this
    rw[hx] at hy;cases hy;exact DE.1 hc
theorem QC {xs:List au} {w:au} (hs:j_ xs) {m:Int} {x:au} (h0:0≤m) (hx:xs[m.toNat]?=some x) (hc:¬(lV x w<0)):Hi xs w m:=by
  intro k y hk hy
  have u:fV x w=false:=by cases h:fV x w with|false=>rfl|true=>exact absurd (DE.2 h) hc
  rcases nP m.toNat k with hl|hl
  · cases h:fV y w with
    |false=>rfl
    |true=>have:=Af (hs.at hl hx hy) h;rw[u] at this;cases this
  · have:k=m.toNat:=by omega
    subst this
    rw[hx] at hy;cases hy;exact u
def nG (xs:List au) (w:au):Nat:=(xs.takeWhile fun x=>fV x w).length
def ng (xs:List au) (w:au):Bool:=decide (w∈xs)
theorem Ju {xs:List au} {w:au} {i:Int} (h0:0≤i) (hn:i≤xs.length) (hl:Lo xs w i) (hh:Hi xs w i):i=(nG xs w:Int):=by
  have h1:∀x∈xs.take i.toNat,fV x w=true:=by
    intro x hx
    obtain⟨k,hk⟩:=pO.1 hx
    rw[sK] at hk
    split at hk
    · exact hl k x (by omega) hk
    · cases hk
  unfold nG
  have h2:(xs.takeWhile fun x=>fV x w)=xs.take i.toNat:=by
    conv=>lhs;rw[←lJ i.toNat xs]
    rw[List.takeWhile_append_of_pos (by simpa using h1)]
    cases hd:xs.drop i.toNat with
    |nil=>simp
    |cons y ys=>
     have:xs[i.toNat]?=some y:=by
       have:=congrArg (fun l=>l[0]?) hd
       simpa using this
     rw[DA (by simp[hh i.toNat y (by omega) this])]
     simp
  rw[h2,dZ,jB (by omega)]
  omega
theorem QD {xs:List au} {w x:au} {i:Int} (hx:xs[i.toNat]?=some x) (hc:lV x w=0):ng xs w=true:=by
  rw[Jt] at hc
  subst hc
  exact gb (bY hx)
theorem Jv {xs:List au} {w:au} {i:Int} (h0:0≤i) (hs:j_ xs) (hl:Lo xs w i) (hh:Hi xs w i) (hi:∀x,xs[i.toNat]?=some x→x≠w):ng xs w=false:=by
  refine gQ fun hm=>?_
  obtain⟨k,hk⟩:=pO.1 hm
  rcases Int.lt_or_le k i with h|h
  · have:=hl k w h hk;rw[xH] at this;cases this
  · rcases nP i.toNat k with h'|h'
    · have hlt:=(fO.1 hk).1
      have h1:xs[i.toNat]?=some xs[i.toNat]:=rq (by omega)
      have h2:=hh i.toNat _ (by omega) h1
      rw[hs.at h' h1 hk] at h2;cases h2
    · have:k=i.toNat:=by omega
      subst this
      exact hi w hk rfl
theorem QE {xs:List au} {w x:au} {i:Int} {b:Bool} (h0:0≤i) (hs:j_ xs) (hl:Lo xs w i) (hh:Hi xs w i) (hx:xs[i.toNat]?=some x) (hb:b=(lV x w==0)):b=ng xs w:=by
  subst hb
  by_cases hc:lV x w=0
  · rw[QD hx hc];simpa using hc
  · rw[Jv h0 hs hl hh fun y hy=>by rw[hx] at hy;cases hy;exact fun e=>hc (Jt.2 e)];simpa using hc
theorem QF {xs:List au} {w:au} {i:Int} (h0:0≤i) (hs:j_ xs) (hl:Lo xs w i) (hh:Hi xs w i) (hn:¬(i<(xs.length:Int))):false=ng xs w:=by
  rw[Jv h0 hs hl hh fun y hy=>by have:=(fO.1 hy).1;omega]
def nH {α:Type} (xs:List α) (i:Int) (ys:List α):List α:=xs.take i.toNat++ys++xs.drop i.toNat
theorem QG {α:Type} {xs ys:List α} {i:Int} (h:(ys.length:Int)=0):xs=nH xs i ys:=by
  have:ys=[]:=kU (by omega)
  subst this;simp[nH]
theorem QH {α:Type} {xs ys:List α} {i:Int} (h:i=xs.length):xs++ys=nH xs i ys:=by
  subst h;simp[nH]
theorem DF {α:Type} {a b c:List α} (h:c.length≤b.length):putAt (a++b) a.length c=a++c++b.drop c.length:=by
  simp[putAt,v_]
theorem DG {α:Type} {ys:List α} {k:Nat} (h:ys.length≤k):ys.take k=ys:=fF h
theorem QI {α:Type} {xs ys:List α} {z:α} {i k m:Int} (h0:0≤i) (hi:i≤xs.length) (hm:m=i+ys.length) (hk:k=xs.length+ys.length-i):
    putAt (putAt (xs.take i.toNat++List.replicate k.toNat z) i.toNat (ys.take ((xs.take i.toNat++List.replicate k.toNat z).length-i.toNat))) m.toNat
      ((xs.drop i.toNat).take ((putAt (xs.take i.toNat++List.replicate k.toNat z) i.toNat (ys.take ((xs.take i.toNat++List.replicate k.toNat z).length-i.toNat))).length-m.toNat))=nH xs i ys:=by
  subst hm
  subst hk
  have e1:(xs.take i.toNat).length=i.toNat:=by rw[dZ];omega
  have e2:(xs.take i.toNat++List.replicate (xs.length+ys.length-i:Int).toNat z).length-i.toNat=(xs.length+ys.length-i:Int).toNat:=by rw[b_,e1,oH];omega
  have I:ys.take ((xs.take i.toNat++List.replicate (xs.length+ys.length-i:Int).toNat z).length-i.toNat)=ys:=by rw[e2];exact DG (ys:=ys) (by omega)
  rw[I]
  have e3:=DF (a:=xs.take i.toNat) (b:=List.replicate (xs.length+ys.length-i:Int).toNat z) (c:=ys) (by simp;omega)
  rw[e1] at e3
  rw[e3,List.drop_replicate]
  have u:(xs.take i.toNat++ys).length=(i+ys.length:Int).toNat:=by rw[b_,e1];omega
  have D:(xs.drop i.toNat).length=xs.length-i.toNat:=eT
  have J:(xs.take i.toNat++ys++List.replicate ((xs.length+ys.length-i:Int).toNat-ys.length) z).length-(i+ys.length:Int).toNat=xs.length-i.toNat:=by
    rw[b_,u,oH];omega
  rw[J,DG (ys:=xs.drop i.toNat) (by omega)]
  have G:=DF (a:=xs.take i.toNat++ys) (b:=List.replicate ((xs.length+ys.length-i:Int).toNat-ys.length) z) (c:=xs.drop i.toNat) (by rw[D,oH];omega)
  rw[u] at G
  have O:(List.replicate ((xs.length+ys.length-i:Int).toNat-ys.length) z).drop (xs.drop i.toNat).length=[]:=mO (by rw[oH,D];omega)
  rw[G,O,dm]
  rfl
theorem QJ {α:Type} {xs ys zs:List α} {i m:Int} (h0:0≤i) (hi:i≤xs.length) (hm:m=i+ys.length) (hz:zs.length=xs.length+ys.length) {k:Nat} (ht:zs.take xs.length=xs.take k) (hk:xs.length≤k):
    putAt (putAt zs m.toNat ((zs.drop i.toNat).take (zs.length-m.toNat))) i.toNat (ys.take ((putAt zs m.toNat ((zs.drop i.toNat).take (zs.length-m.toNat))).length-i.toNat))=nH xs i ys:=by
  subst hm
  rw[fF hk] at ht
  have e1:(zs.drop i.toNat).take (zs.length-(i+ys.length:Int).toNat)=xs.drop i.toNat:=by
    rw[hz,show xs.length+ys.length-(i+ys.length:Int).toNat=xs.length-i.toNat from by omega,←q7,ht]
  rw[e1]
  have e2:putAt zs (i+ys.length:Int).toNat (xs.drop i.toNat)=zs.take (i+ys.length:Int).toNat++xs.drop i.toNat:=by
    have:zs.drop ((i+ys.length:Int).toNat+(xs.drop i.toNat).length)=[]:=mO (by rw[eT,hz];omega)
    unfold putAt
    rw[this,dm]
  rw[e2]
  have e3:zs.take (i+ys.length:Int).toNat=xs.take i.toNat++(zs.drop i.toNat).take ys.length:=by
    rw[show(i+ys.length:Int).toNat=i.toNat+ys.length from by omega,yo]
    congr 1
    rw[←ht,q8,jB (by omega)]
  have D:(xs.take i.toNat).length=i.toNat:=by rw[dZ];omega
  have u:((zs.drop i.toNat).take ys.length).length=ys.length:=by rw[dZ,eT,hz];omega
  rw[e3,cJ]
  have I:(xs.take i.toNat++((zs.drop i.toNat).take ys.length++xs.drop i.toNat)).length-i.toNat=xs.length+ys.length-i.toNat:=by
    rw[b_,D,b_,u,eT];omega
  rw[I,DG (ys:=ys) (by omega)]
  have G:=DF (a:=xs.take i.toNat) (b:=(zs.drop i.toNat).take ys.length++xs.drop i.toNat) (c:=ys) (by rw[b_,u];omega)
  rw[D] at G
  rw[G,v_,u,Nat.sub_self,mO (by omega),dS,wu]
  rfl
theorem tU {α:Type} {q:α→Bool}:∀{l:List α},ek q l≠ -1→(l.take (ek q l).toNat).filter q=[]∧(∃x,l[(ek q l).toNat]?=some x∧q x=true∧l.find? q=some x)∧0≤ek q l∧ek q l<l.length
  |[],h=>by simp[ek] at h
  |x::xs,h=>by
   unfold ek at h ⊢
   by_cases hq:q x=true
   · simp only[hq,gX]
     refine⟨by simp,⟨x,by simp,hq,by simp[hq]⟩,by omega,by simp⟩
   · simp only[hq,dI] at h ⊢
     by_cases hn:ek q xs<0
     · rw[aY hn] at h;exact absurd rfl h
     · rw[aL hn]
       have hg:=wY q xs
       obtain⟨h1,⟨y,h2,h3,h4⟩,h5,h6⟩:=tU (q:=q) (l:=xs) (by omega)
       simp only[fW,dI]
       rw[toNat_succ h5]
       refine⟨by simp[hq,h1],⟨y,by simpa using h2,h3,by simp[hq,h4]⟩,by omega,by simp;omega⟩
theorem xI {α:Type} {q:α→Bool}:∀{l:List α},ek q l= -1→l.filter q=[]∧l.find? q=none
  |[],_=>by simp
  |x::xs,h=>by
   unfold ek at h
   by_cases hq:q x=true
   · simp[hq] at h
   · simp only[hq,dI] at h
     by_cases hn:ek q xs<0
     · have hg:=wY q xs
       obtain⟨h1,h2⟩:=xI (q:=q) (l:=xs) (by omega)
       simp only[wQ] at hq
       simp only[iW,wJ,hq,h1,h2,fW,dI,and_self]
     · rw[aL hn] at h;omega
theorem DH {α:Type} {q:α→Bool}:∀{l:List α},l.filter q=[]→l.filter (fun x=>!q x)=l
  |[],_=>rfl
  |x::xs,h=>by
   cases hq:q x with
   |true=>simp[hq] at h
   |false=>simp only[iW,hq,fW,dI,rj,gX] at h ⊢;rw[DH h]
theorem QK {α:Type} {q:α→Bool} {l out:List α} {i:Int} {x:α} (H:findAt q l i) (hx:l[i.toNat]?=some x) (hq:q x=true) (h0:0≤i):out++[x]=out++(l.find? q).toList:=by
  have hi:=td H hx hq
  obtain⟨_,⟨y,h2,_,h4⟩,_⟩:=tU (q:=q) (l:=l) (by omega)
  rw[←hi,hx] at h2
  cases h2
  rw[h4];rfl
theorem QL {α:Type} {q:α→Bool} {l out:List α} {i:Int} (H:findAt q l i) (hi:¬(i<(l.length:Int))):out=out++(l.find? q).toList:=by
  rw[(xI (tf H hi).symm).2];simp
structure qd (xs ys o2 out:List au) (q:au→Bool) (i j:Int):Prop where
  len:ys.length=xs.length
  low:ys.take i.toNat=(xs.take j.toNat).filter fun w=>!q w
  high:ys.drop j.toNat=xs.drop j.toNat
  out:o2=out++(xs.take j.toNat).filter q
theorem QM {xs out:List au} {q:au→Bool} (h:¬(ek q xs= -1)):qd xs xs (out++(xs.find? q).toList) out q (ek q xs) (ek q xs+1):=by
  obtain⟨h1,⟨x,h2,h3,h4⟩,h5,h6⟩:=tU h
  refine⟨rfl,?_,rfl,?_⟩
  · rw[toNat_succ h5,fP h2,nX,DH h1];simp[h3]
  · rw[toNat_succ h5,fP h2,nX,h1,h4];simp[h3]
section
variable {xs ys o2 out:List au} {q:au→Bool} {i j:Int} {x y:au}
theorem qd.at (H:qd xs ys o2 out q i j) (hx:ys[j.toNat]?=some x):xs[j.toNat]?=some x:=by
  have:=congrArg (fun l=>l[0]?) H.high
  simp only[rE,nq] at this
  rw[←this];exact hx
theorem QN (H:qd xs ys o2 out q i j) (h0:0≤i) (u:i<j) (hx:ys[j.toNat]?=some x) (hq:q x=false):qd xs (ys.set i.toNat x) o2 out q (i+1) (j+1):=by
  have hx':=H.at hx
  have hj:=(fO.1 hx).1
  refine⟨by rw[zg];exact H.len,?_,?_,?_⟩
  · rw[toNat_succ h0,toNat_succ (by omega),fP (x:=x) (by rw[List.getElem?_set_self (by omega)]),List.take_set_of_le (gF _),H.low,fP hx',nX]
    simp[hq]
  · rw[List.drop_set_of_lt (by omega),toNat_succ (by omega)]
    have:=congrArg (List.drop 1) H.high
    simpa using this
  · rw[H.out,toNat_succ (by omega),fP hx',nX];simp[hq]
theorem QO (H:qd xs ys o2 out q i j) (h0:0≤j) (hx:ys[j.toNat]?=some x) (hq:q x=true):qd xs ys (o2++[x]) out q i (j+1):=by
  have hx':=H.at hx
  refine⟨H.len,?_,?_,?_⟩
  · rw[H.low,toNat_succ h0,fP hx',nX];simp[hq]
  · rw[toNat_succ h0]
    have:=congrArg (List.drop 1) H.high
    simpa using this
  · rw[H.out,toNat_succ h0,fP hx',nX];simp[hq]
theorem Jw (H:qd xs ys o2 out q i j) (hj:¬(j<(ys.length:Int))) (h0:0≤i) (hi:i≤ys.length) (zs:List au):(putAt ys i.toNat zs).take i.toNat=xs.filter (fun w=>!q w)∧o2=out++xs.filter q:=by
  have e:=H.len
  have hl:=H.low
  have ho:=H.out
  have ht:xs.take j.toNat=xs:=fF (by omega)
  rw[ht] at hl ho
  refine⟨?_,ho⟩
  rw[←hl]
  unfold putAt
  rw[cJ,we (by rw[dZ];omega)]
end
theorem QS {xs ys o2 out:List au} {q:au→Bool} {i j:Int} (H:qd xs ys o2 out q i j) (h0:0≤i):o2.length≤out.length+xs.length:=by
  rw[H.out,b_]
  have:=kX q (xs.take j.toNat)
  have:=List.length_take_le' j.toNat xs
  omega
theorem QT (xs:List au) (w:au):nG xs w≤xs.length:=(List.takeWhile_sublist _).length_le
theorem QU (u:List Int) (w:au):(u.any fun z=>decide (w.ax=z))=qa u w:=by
  unfold qa;congr 1;funext z;rw[iN];simp[eq_comm]
theorem QV {kind:Int} {de:List aj} {w:au} (h:w.ah=kind):(de.any fun z=>decide (w.af=z))=fN kind de w:=by
  unfold fN
  rw[gb h,mh]
  congr 1;funext z;rw[iN];simp[eq_comm]
theorem QW {kind:Int} {de:List aj} {w:au} (h:¬(w.ah=kind)):false=fN kind de w:=by
  unfold fN
  rw[gQ h,zf]
def nI (xs:List au) (w:au):Int:=if iQ w=false then 90 else if ng xs w=true then 0 else if (cnt w.ax xs:Int)≥8 then 104 else 0
def nJ (xs:List au) (w:au):List au:=if iQ w=false then xs else if ng xs w=true then xs else if (cnt w.ax xs:Int)≥8 then xs else nH xs (nG xs w) [w]
section
variable {l:List au} {i:Int} {x y:au}
end
abbrev kJ:=List (Int×List au)
structure Sp where
  aA:List aa
  aQ:List au
  aN:f_
  aE:Int
  count:Int
  events:kJ
  aW:List (Int×iO)
def vr:Sp:=⟨[⟨[47],[],0, -1,0,0⟩],[],[],0,0,[],[]⟩
def vt (e:kJ) (w:au):kJ:=dz e w.ax ((cy e w.ax).getD []++[w])
def kK (e:kJ) (ws:List au):kJ:=ws.foldl vt e
def sj (s:Sp) (kind:Int) (de:List bp):Sp:=
  {s with aQ:=s.aQ.filter (fun w=>!fN kind de w),events:=kK s.events (s.aQ.filter (fN kind de))}
def vu (s:Sp) (p:bp):Sp:=sj (sj s 1 [p]) 2 [parentOf p]
section
variable {e f:kJ} {ws:List au} {w:au} {i:Int} {s:Sp}
theorem Jx (h:f=kK e (ws.take i.toNat)) (h0:0≤i) (hx:ws[i.toNat]?=some w):dz f w.ax ((cy f w.ax).getD []++[w])=kK e (ws.take (i+1).toNat):=by
  unfold kK at *
  rw[toNat_succ h0,fP hx,vk,←h]
  rfl
theorem QX (h:f=kK e (ws.take i.toNat)) (hi:¬i<(ws.length:Int)):f=kK e ws:=by
  rw[fF (by omega)] at h
  exact h
end
def eE (e:kJ) (c:Int):List au:=(cy e c).getD []
def qe (ws:List au) (e:kJ):Prop:=∀c,(ws.filter fun w=>decide (w.ax=c)).length+(eE e c).length≤8
section
variable {e f:kJ} {ws vs xs:List au} {w:au} {i c:Int} {s:Sp} {kind:Int} {de:List bp}
theorem Jy (h:f=kK e (ws.take i.toNat)) (h0:0≤i) (hx:ws[i.toNat]?=some w) (hf:cy f w.ax=none):dz f w.ax ([]++[w])=kK e (ws.take (i+1).toNat):=by
  have:=Jx h h0 hx
  rwa[hf] at this
theorem Jz (h:f=kK e (ws.take i.toNat)) (h0:0≤i) (hx:ws[i.toNat]?=some w) (hf:cy f w.ax=some xs):dz f w.ax (xs++[w])=kK e (ws.take (i+1).toNat):=by
  have:=Jx h h0 hx
  rwa[hf] at this
theorem QY:eE (vt e w) c=eE e c++(if w.ax=c then [w] else []):=by
  unfold eE vt
  rw[C_]
  by_cases h:w.ax=c
  · subst h;simp
  · rw[aL h,aL h,dm]
theorem DI:∀(ws:List au) (e:kJ),eE (kK e ws) c=eE e c++ws.filter fun w=>decide (w.ax=c)
  |[],e=>by simp[kK]
  |w::ws,e=>by
   have:=DI ws (vt e w)
   unfold kK at *
   rw[qB,this,QY,iW,cJ]
   by_cases h:w.ax=c<;>simp[h]
theorem QZ (Q:qe vs e) (he:f=kK e ((vs.filter (fN kind de)).take i.toNat)) (c:Int):(eE f c).length≤8:=by
  have h1:=Q c
  rw[he,DI,b_]
  have h2:=(DB (fun w:au=>decide (w.ax=c)) ((List.take_sublist i.toNat (vs.filter (fN kind de))).trans oL)).length_le
  omega
theorem JA (Q:qe vs e) (he:f=kK e ((vs.filter (fN kind de)).take i.toNat)) (hf:cy f c=some xs):xs.length≤8:=by
  have:=QZ Q he c
  unfold eE at this
  rwa[hf] at this
theorem qe.oc (Q:qe vs e) (kind:Int) (de:List bp):qe (vs.filter (fun w=>!fN kind de w)) (kK e (vs.filter (fN kind de))):=by
  intro c
  have h1:=Q c
  rw[DI,b_]
  have:∀l:List au,((l.filter (fun w=>!fN kind de w)).filter fun w=>decide (w.ax=c)).length+((l.filter (fN kind de)).filter fun w=>decide (w.ax=c)).length=(l.filter fun w=>decide (w.ax=c)).length:=by
    intro l
    induction l with
    |nil=>rfl
    |cons w l ih=>by_cases h1:fN kind de w<;>by_cases h2:w.ax=c<;>simp[h1,h2] at ih ⊢<;>omega
  have:=this vs
  omega
end
structure dA (s:Sp):Prop where
  tree:fB s.aA
  wl:s.aQ.length≤1000
  ws:j_ s.aQ
  aN:gC s.aN
  quo:qe s.aQ s.events
def lq (s:Sp) (p:bp):Sp:=vu {s with aA:=(fZ s.aA p (-1)).1} p
def sn (s:Sp) (c:Int):Sp:={s with aQ:=s.aQ.filter (fun w=>!qa [c] w),events:=eR s.events c,aN:=mq (pY [c]) s.aN}
def oS (s:Sp) (c:Int):Sp:=(j5 s.aA [c]).foldl lq (sn s c)
def lW (s:Sp) (cs:List Int):Sp:=cs.foldl oS s
section
variable {s x y:Sp} {p:bp} {c i q:Int} {ns:List aa} {cs:List Int} {ps:List bp}
theorem dA.oc (H:dA s) (kind:Int) (de:List bp):dA (sj s kind de):=
  ⟨H.tree,cH (kX _ _) H.wl,H.ws.filter _,H.aN,H.quo.oc kind de⟩
theorem dA.xJ (H:dA s) (p:bp):dA (vu s p):=(H.oc _ _).oc _ _
theorem fB.sub (H:fB ns) {ms:List aa} (h:ms.Sublist ns):fB ms:=⟨cH h.length_le H.1,fun n hn=>H.2 n (h.mem hn)⟩
theorem fB.drop (H:fB ns) (p:bp) (bK:Int):fB (fZ ns p bK).1:=by
  unfold fZ
  repeat' split
  all_goals first|exact H|exact H.sub oL
theorem dA.tr (H:dA s) (h:fB ns):dA {s with aA:=ns}:=⟨h,H.wl,H.ws,H.aN,H.quo⟩
theorem dA.lq (H:dA s) (p:bp):dA (lq s p):=(H.tr (H.tree.drop p _)).xJ p
theorem dA.Ag (H:dA s):∀ps:List bp,dA (ps.foldl Sw.lq s):=fun ps=>by
  induction ps generalizing s with
  |nil=>exact H
  |cons p ps ih=>exact ih (H.lq p)
theorem DJ {e:kJ}:eE (eR e c) i=if c=i then [] else eE e i:=by
  unfold eE
  rw[Ih]
  split<;>rfl
theorem dA.left (H:dA s) (c:Int):dA (sn s c):=by
  refine⟨H.tree,cH (kX _ _) H.wl,H.ws.filter _,H.aN.left _,fun i=>?_⟩
  have h1:=H.quo i
  have h2:=(DB (fun w:au=>decide (w.ax=i)) (oL (p:=fun w=>!qa [c] w) (l:=s.aQ))).length_le
  show _+(eE (eR s.events c) i).length≤8
  rw[DJ]
  split
  · simp only[cF];unfold sn;simp only;omega
  · unfold sn;simp only;omega
theorem dA.oS (H:dA s) (c:Int):dA (oS s c):=(H.left c).Ag _
theorem dA.xK (H:dA s):∀cs:List Int,dA (lW s cs):=fun cs=>by
  unfold lW
  induction cs generalizing s with
  |nil=>exact H
  |cons c cs ih=>exact ih (H.oS c)
theorem Q0 (h:x=lW s (cs.take i.toNat)) (h0:0≤i) (hc:cs[i.toNat]?=some c):Sw.oS x c=lW s (cs.take (i+1).toNat):=by
  rw[toNat_succ h0,fP hc,h]
  unfold lW
  rw[vk]
  rfl
theorem Q1 (h:x=lW s (cs.take i.toNat)) (hi:¬i<(cs.length:Int)):x=lW s cs:=by
  rw[fF (by omega)] at h
  exact h
theorem Q2 (h:y=(ps.take q.toNat).foldl Sw.lq x) (h0:0≤q) (hp:ps[q.toNat]?=some p):Sw.lq y p=(ps.take (q+1).toNat).foldl Sw.lq x:=by
  rw[toNat_succ h0,fP hp,h,vk]
  rfl
theorem JB (h:y=(ps.take q.toNat).foldl Sw.lq x) (hi:¬q<(ps.length:Int)):y=ps.foldl Sw.lq x:=by
  rw[fF (by omega)] at h
  exact h
theorem JC (H:fB ns) (h:p∈j5 ns cs):p.length≤64:=by
  unfold j5 at h
  obtain⟨n,hn,rfl⟩:=cY.1 (List.mem_reverse.1 h)
  exact(H.2 n (ic.1 hn).1).1
theorem Q3 (H:fB ns):(j5 ns cs).length≤1000:=by
  unfold j5
  rw[F2,ew]
  exact cH (kX _ _) H.1
end
def jb (s:Sp) (w:au):Int:=if w∈s.aQ then 0 else if (cnt w.ax s.aQ:Int)+(eE s.events w.ax).length≥8 then 104 else nI s.aQ w
def xL (s:Sp) (w:au):List au:=if w∈s.aQ then s.aQ else if (cnt w.ax s.aQ:Int)+(eE s.events w.ax).length≥8 then s.aQ else nJ s.aQ w
def od (s:Sp) (w:au):Sp:={s with aQ:=xL s w}
section
variable {s x y:Sp} {w z:au} {i n:Int} {ws:List au}
theorem JD (c:Int):∀ws:List au,cnt c ws=(ws.filter fun w=>decide (w.ax=c)).length
  |[]=>rfl
  |w::ws=>by
   have:=JD c ws
   rw[iW]
   unfold cnt
   by_cases h:w.ax=c
   · simp[h,this];try omega
   · simp[h,this]
theorem Q4 (ws:List au) (w:au):∀z∈ws.take (0:Int).toNat,z≠w:=fun z h=>by simp at h
theorem JE (H:∀z∈ws.take i.toNat,z≠w) (h0:0≤i) (hz:ws[i.toNat]?=some z) (h:¬z=w):∀z∈ws.take (i+1).toNat,z≠w:=by
  rw[toNat_succ h0,fP hz]
  intro y hy
  rcases eo.1 hy with hy|hy
  · exact H y hy
  · rw[iA.1 hy];exact h
theorem su (H:∀z∈ws.take i.toNat,z≠w) (h:¬i<(ws.length:Int)):w ∉ ws:=by
  rw[fF (by omega)] at H
  exact fun hm=>H w hm rfl
theorem Ah (hx:s.aQ[i.toNat]?=some z) (h:z=w):jb s w=0∧od s w=s:=by
  have:w∈s.aQ:=h▸bY hx
  exact⟨by rw[jb,aY this],by rw[od,xL,aY this]⟩
theorem Ai (h1:w ∉ s.aQ) (hn:n=(cnt w.ax s.aQ:Int)+(eE s.events w.ax).length) (h:n≥8):jb s w=104∧od s w=s:=
  ⟨by rw[jb,aL h1,aY (by omega)],by rw[od,xL,aL h1,aY (by omega)]⟩
theorem Aj (h1:w ∉ s.aQ) (hn:n=(cnt w.ax s.aQ:Int)+(eE s.events w.ax).length) (h:¬n≥8):jb s w=nI s.aQ w∧od s w={s with aQ:=nJ s.aQ w}:=
  ⟨by rw[jb,aL h1,aL (by omega)],by rw[od,xL,aL h1,aL (by omega)]⟩
theorem Q5 {e:kJ} {c:Int} (h:cy e c=none):(0:Int)=(eE e c).length:=by unfold eE;rw[h];rfl
theorem JF {e:kJ} {c:Int} {xs:List au} (h:cy e c=some xs):(xs.length:Int)=(eE e c).length:=by unfold eE;rw[h];rfl
end
def oe (o:aR):Int:=if o.ah=7 then 2 else 1
def og (s:Sp) (o:aR) (x:Result):Result:=
  if o.ah=7 then {x with aX:=(iD s.aA o.af).1,Code:=(iD s.aA o.af).2}
  else if (bV s.aA o.af).2=0 then {x with Code:=(bV s.aA o.af).2,aa:=(bV s.aA o.af).1} else {x with Code:=(bV s.aA o.af).2}
def nh (s:Sp) (client:Int) (o:aR):Sp:=if o.au=true then od s ⟨client,oe o,o.af⟩ else s
def oh (s:Sp) (client:Int) (o:aR) (x:Result):Result:=
  if o.au=true∧jb s ⟨client,oe o,o.af⟩≠0 then {x with Code:=jb s ⟨client,oe o,o.af⟩} else og s o x
section
variable {s x y:Sp} {client:Int} {o:aR} {r z:Result}
theorem Q6 (h:o.ah=7):2=oe o:=by rw[oe,aY h]
theorem Q7 (h:¬o.ah=7):1=oe o:=by rw[oe,aL h]
theorem JG (h:o.au=true):od s ⟨client,oe o,o.af⟩=nh s client o:=by rw[nh,aY h]
theorem Q8 (h:o.au=false):s=nh s client o:=by rw[nh,aL (by rw[h];decide)]
theorem Q9 (h:o.au=false):oh s client o r=og s o r:=by rw[oh,aL (by rw[h];simp)]
theorem Q_ (h:o.au=true) (he:jb s ⟨client,oe o,o.af⟩=0) (c:Int):oh s client o r=og s o {r with Code:=c}:=by
  rw[oh,aL (fun h'=>h'.2 he)]
  rfl
theorem Ra (h:o.au=true) (he:jb s ⟨client,oe o,o.af⟩≠0):{r with Code:=jb s ⟨client,oe o,o.af⟩}=oh s client o r:=by
  rw[oh,aY ⟨h,he⟩]
theorem sw:(nh s client o).aA=s.aA:=by unfold nh;split<;>rfl
theorem Rb (h:o.ah=7):og s o r={r with aX:=(iD s.aA o.af).1,Code:=(iD s.aA o.af).2}:=by rw[og,aY h]
theorem JH (h:¬o.ah=7) (he:(bV s.aA o.af).2=0):og s o r={r with Code:=(bV s.aA o.af).2,aa:=(bV s.aA o.af).1}:=by rw[og,aL h,aY he]
theorem JI (h:¬o.ah=7) (he:¬(bV s.aA o.af).2=0):og s o r={r with Code:=(bV s.aA o.af).2}:=by rw[og,aL h,aL he]
end
theorem JJ (B:World) (h:ay) (g:GH) (hg:bu g h) (D:bz g) (x:aj):
  aG prog B 203 #[vS x] h g [] (fun u g' L'=>u=vF∧g'=g∧L'=[]):=by
 exact aG.aq func203 fun R hR=>At.go 1 1 []<|At.rp 4 2 [(3,vS x),(4,vS x)]<|Op.vl 5 (.bool (!((br x).toList==(br x).toList))) vF (by simp)<|Op.pr 2 2 vF (hR (St.init hg) ⟨(bn (by rfl)),rfl,rfl⟩)
theorem JK (B:World) (h:ay) (g:GH) (hg:bu g h) (D:bz g) (x:Int):
  aG prog B 157 #[vI x] h g [] (fun u g' L'=>u=vF∧g'=g∧L'=[]):=by
 exact aG.aq func157 fun R hR=>At.go 1 1 []<|At.rp 4 2 [(3,vI x),(4,vI x)]<|Op.vl 5 (.bool (x != x)) vF (by simp)<|Op.pr 2 2 vF (hR (St.init hg) ⟨(bn (by rfl)),rfl,rfl⟩)
theorem Rc (B:World) (h:ay) (g:GH) (hg:bu g h) (I:bz g) (x:aj) (y:aj):
  aG prog B 196 #[vS x,vS y] h g [] (fun V g' L'=>V=.int .i64 (mE x y)∧g'=g∧L'=[]):=by
 refine aG.aq func196 fun R hR=>?_
 have J:=St.init hg
 refine At.go 1 1 []<|At.rp 3 1 [(7,vS x)]<|Op.c1 8 (JJ _ _ _ J.sub I x) J fun Y O=>Op.pg 2 [(5,vF)]<|At.rp 3 1 [(9,vS y)] ?_
 refine Op.c1 10 (JJ _ _ _ O.sub I y) O fun Z u=>Op.pg 3 [(6,vF)]<|At.go 4 1 [(11,vF)]<|At.cQ 11 11<|At.go 12 1 [(13,vF)] ?_
 refine At.cQ 13 15<|At.rp 3 2 [(14,vS x),(15,vS y)]<|Op.vl 16 (.bool (Go.Op.bytesLess (br x).toList (br y).toList)) (.bool (Go.Op.bytesLess x y)) (by rw[toList_mkS,toList_mkS])<|Op.gt 16<|At.cW (Go.Op.bytesLess x y) 16 17 19 (fun X=>?_) fun U=>?_
 ·exact At.gr 18 1 4 (vI (-1)) (hR u ⟨(bg (by exact Qr X)),rfl,rfl⟩)
 refine At.rp 3 2 [(17,vS x),(18,vS y)]<|Op.vl 19 (.bool (!(Go.Op.bytesLess (br x).toList (br y).toList||(br x).toList==(br y).toList))) (.bool (!(Go.Op.bytesLess x y||x==y))) (by rw[toList_mkS,toList_mkS])<|Op.gt 20<|At.cW (!(Go.Op.bytesLess x y||x==y)) 19 21 23 (fun D=>?_) fun G=>?_
 ·replace D:=(dn D)
  exact At.gr 22 1 4 (vI 1) (hR u ⟨(bg (by exact Qt U D)),rfl,rfl⟩)
 replace G:=(dr G)
 exact At.gr 24 1 4 (vI 0) (hR u ⟨(bg (by exact Qs U G)),rfl,rfl⟩)
theorem JL (B:World) (h:ay) (g:GH) (hg:bu g h) (D:bz g) (x:Int) (y:Int):
  aG prog B 197 #[vI x,vI y] h g [] (fun J g' L'=>J=.int .i64 (kI x y)∧g'=g∧L'=[]):=by
 refine aG.aq func197 fun R hR=>?_
 have G:=St.init hg
 refine At.go 1 1 []<|At.rp 3 1 [(7,vI x)]<|Op.c1 8 (JK _ _ _ G.sub D x) G fun O I=>Op.pg 2 [(5,vF)]<|At.rp 3 1 [(9,vI y)] ?_
 refine Op.c1 10 (JK _ _ _ I.sub D y) I fun U u=>Op.pg 3 [(6,vF)]<|At.go 4 1 [(11,vF)]<|At.cQ 11 11<|At.go 12 1 [(13,vF)] ?_
 refine At.cQ 13 15<|At.go 16 3 [(16,.bool (decide (x<y)))]<|At.fd (x<y) 16 17 19 (fun V=>?_) fun X=>?_
 ·exact At.gr 18 1 4 (vI (-1)) (hR u ⟨(bg (by(unfold kI;rw[aY ‹_›]))),rfl,rfl⟩)
 refine At.go 20 3 [(19,.bool (decide (x>y)))]<|At.fd (x>y) 19 21 23 (fun Y=>?_) fun Z=>?_
 ·exact At.gr 22 1 4 (vI 1) (hR u ⟨(bg (by(unfold kI;rw[aL ‹_›,aY ‹_›]))),rfl,rfl⟩)
 exact At.gr 24 1 4 (vI 0) (hR u ⟨(bg (by(unfold kI;rw[aL ‹_›,aL ‹_›]))),rfl,rfl⟩)
theorem Re (B:World) (h:ay) (g:GH) (hg:bu g h) (a3:bz g) (U:Value) (l:List Int) (V:an g 3 (dK .i64) U l) (hl:l.length≤1000000000):
  aG prog B 195 #[U] h g [] (fun Z g' L'=>Z=.int .i64 (ja l)∧g'=g∧L'=[]):=by
 obtain⟨X,G,rfl⟩:=V.ak
 refine aG.aq func195 fun R hR=>At.go 1 1 []<|At.go 2 1 [(3,vI 0)]<|At.go 3 3 [(6,vL X l.length G),(7,vI (l.length:Int)),(8,vI 0)] ?_
 have ab:∀(m:Nat) (i:Int) (I:ay) (hm:l.length-i.toNat<m) (h0:0≤i) (h2:i≤l.length) (hz:ja l=ja (l.drop i.toNat)) (D:St h g (aS []) g [] I),At (bP prog B 195 f195 R) [] 3 [(3,vI 0),(6,vL X l.length G),(7,vI (l.length:Int)),(8,vI i)] I:=by
  intro m;induction m with
  |zero=>intros;omega
  |succ m ad=>
   intro i I hm h0 h2 hz D
   refine At.go 4 1 [(9,.bool (decide (i<(l.length:Int))))]<|At.fd (i<(l.length:Int)) 9 5 11 (fun a4=>?_) fun ae=>?_
   ·refine At.rg 3 ?_
    obtain⟨u,J⟩:=bW l i
    obtain⟨am,Y,a5,a6,ar,aw,O⟩:=an.bB V _ J
    cases ar
    refine Op.iq 78 3 1 8 l.length G 6 8 10 am Y i ?_
    replace O:cut _ _ _=[vI u]:=O
    refine Op.l1 3 10 11 (Y+i.toNat*1) (vI u) (D.sub _ _ aw) ?_ (hv:=bN O 0 rfl)
    refine Op.pg 6 [(5,vI u)]<|At.go 7 3 [(14,.bool (u != 0))]<|At.fn (u=0) 14 8 10 (fun a0=>?_) fun a1=>?_
    ·exact At.gr 9 2 2 (vI u) (hR D ⟨(bg (by exact Qv hz J a0)),rfl,rfl⟩)
    exact At.rg 2<|Op.vq 16 (i+1)<|Op.pg 3 [(8,vI (i+1))] (At.ke (ad (i+1) _ (by omega) (by omega) (by omega) (by exact Qu hz h0 J a1) D))
   exact At.gr 12 2 2 (vI 0) (hR D ⟨(bg (by exact Qw hz ae)),rfl,rfl⟩)
 exact At.ke (ab _ 0 _ (bG _) (by omega) (by omega) (by rfl) (St.init hg))
theorem JM (B:World) (h:ay) (g:GH) (hg:bu g h) (D:bz g) (a:au) (b:au):
  aG prog B 169 #[.agg #[vI a.ax,vI a.ah,vS a.af],.agg #[vI b.ax,vI b.ah,vS b.af]] h g [] (fun Y g' L'=>Y=.int .i64 (lV a b)∧g'=g∧L'=[]):=by
 refine aG.aq func169 fun R hR=>At.rg 3<|Op.bx 2 45 0 #[vI a.ax,vI a.ah,vS a.af] (St.init hg) fun I aw Z=>Op.bx 3 45 1 #[vI b.ax,vI b.ah,vS b.af] Z fun J a0 u=>Op.pg 1 [] ?_
 refine At.dw (fun _=>False) [(0,true),(2,true),(5,true),(7,true),(10,true),(12,true),(1,true),(3,true),(6,true),(8,true),(11,true),(13,true),(4,false),(9,false),(14,false),(15,false),(16,false),(17,true)]<|Op.px 6 [(5,vQ I 2),(7,vQ J 2),(10,vQ I 1),(12,vQ J 1),(15,vP I),(17,vP J)]<|Op.lf 9 5 2 6 1 (vS a.af) id (u.ag 1 rfl)<|Op.lf 9 7 2 8 1 (vS b.af) id (u.ag 0 rfl)<|Op.lf 3 10 1 11 1 (vI a.ah) id (u.ag 1 rfl) ?_
 refine Op.lf 3 12 1 13 1 (vI b.ah) id (u.ag 0 rfl)<|Op.lf 3 15 0 16 1 (vI a.ax) id (u.ag 1 rfl)<|Op.lf 3 17 0 18 1 (vI b.ax) id (u.ag 0 rfl)<|Op.c1 9 (Rc _ _ _ u.sub D a.af b.af) u fun a1 U=>Op.c1 14 (JL _ _ _ U.sub D a.ah b.ah) U fun a3 V=>?_
 refine Op.c1 19 (JL _ _ _ V.sub D a.ax b.ax) V fun a4 ab=>Op.ls 20 3 3 #[vI (mE a.af b.af),vI (kI a.ah b.ah),vI (kI a.ax b.ax)] ab fun X a5 G=>?_
 have ad:aH 3 (dK .i64) g (vL (some ⟨X,0,none⟩) 3 3) [mE a.af b.af,kI a.ah b.ah,kI a.ax b.ax] [(X,Obj.cells #[vI (mE a.af b.af),vI (kI a.ah b.ah),vI (kI a.ax b.ax)] 3 (0,0))]:=aH.lit (by kernel_rfl) (by unfold maxLen;decide) (by kernel_rfl) ⟨_,_,rfl,rfl,⟨_,_,rfl,rfl,⟨_,_,rfl,rfl,Reads.nil⟩⟩⟩
 have ae:=G.gH
 have am:=ad.fK G
 refine Op.le (some 21) 0 G (Re _ _ _ G.jk (D.mono ae) _ _ am (by((try dsimp only)<;>((simp;done))))) (fun _ _ _ hp=>by obtain⟨_,O,_⟩:=hp;exact O) ?_ (hM:=(fun _ _ h=>absurd h (gP _)))
 rintro _ _ a6 ar ⟨rfl,O,rfl⟩;clear O
 exact Op.pr 2 4 (vI (ja ([mE a.af b.af,kI a.ah b.ah,kI a.ax b.ax]))) (hR ar.drop.drop.drop ⟨(bg (by rfl)),rfl,rfl⟩)
theorem Rf (B:World) (h:ay) (g:GH) (hg:bu g h) (a5:bz g) (Z:Value) (l:List aj) (ab:an g 9 cV Z l) (u:aj) (hlen:l.length≤1000000000):
  aG prog B 190 #[Z,vS u] h g [] (fun am g' L'=>am=.int .i64 (ek (fun z=>decide (u=z)) l)∧g'=g∧L'=[]):=by
 obtain⟨ad,J,rfl⟩:=ab.ak
 refine aG.aq func190 fun R hR=>At.go 1 1 []<|At.go 2 3 [(7,vI (l.length:Int)),(8,vI 0)] ?_
 have ar:∀(m:Nat) (i:Int) (O:ay) (hm:l.length-i.toNat<m) (h0:0≤i) (h1:i≤l.length) (I:findAt (fun z=>decide (u=z)) l i) (D:St h g (aS []) g [] O),At (bP prog B 190 f190 R) [] 2 [(0,vL ad l.length J),(1,vS u),(7,vI (l.length:Int)),(8,vI i)] O:=by
  intro m;induction m with
  |zero=>intros;omega
  |succ m aw=>
   intro i O hm h0 h1 I D
   refine At.go 3 1 [(9,.bool (decide (i<(l.length:Int))))]<|At.fd (i<(l.length:Int)) 9 4 10 (fun a6=>?_) fun a0=>?_
   ·refine At.go 5 2 [(5,vI i)]<|At.rp 6 3 [(11,vS u),(12,vL ad l.length J),(13,vI i)] ?_
    obtain⟨G,U⟩:=bW l i
    obtain⟨a1,ae,a7,a8,a3,a4,V⟩:=an.bB ab _ U
    cases a3
    refine Op.iq 40 9 1 16 l.length J 12 13 14 a1 ae i ?_
    replace V:cut _ _ _=[vS G]:=V
    refine Op.l1 9 14 15 (ae+i.toNat*1) (vS G) (D.sub _ _ a4) ?_ (hv:=bN V 0 rfl)
    refine Op.vl 16 (.bool ((br u).toList==(br G).toList)) (.bool (u==G)) (by rw[toList_mkS,toList_mkS])<|Op.gt 6<|At.cW (u==G) 16 7 9 (fun X=>?_) fun Y=>?_
    ·replace X:=eq_of_beq X
     exact At.gr 8 2 4 (vI i) (hR D ⟨(bg (by exact td I U (gb X))),rfl,rfl⟩)
    replace Y:=pI Y
    exact At.rg 2<|Op.vq 18 (i+1)<|Op.pg 2 [(8,vI (i+1))] (At.ke (aw (i+1) _ (by omega) (by omega) (by omega) (by exact uO I h0 U (gQ Y)) D))
   exact At.gr 11 1 4 (vI (-1)) (hR D ⟨(bg (by exact tf I a0)),rfl,rfl⟩)
 exact At.ke (ar _ 0 _ (bG _) (by omega) (by omega) (by exact uN _ _) (St.init hg))
theorem Rg (B:World) (h:ay) (g:GH) (hg:bu g h) (J:bz g) (D:Value) (l:List aj) (G:an g 9 cV D l) (u:aj) (hlen:l.length≤1000000000):
  aG prog B 163 #[D,vS u] h g [] (fun O g' L'=>O=.bool (l.any (fun z=>decide (u=z)))∧g'=g∧L'=[]):=by
 obtain⟨U,V,rfl⟩:=G.ak
 refine aG.aq func163 fun R hR=>?_
 have I:=St.init hg
 exact At.go 1 1 []<|At.rp 5 2 [(5,vL U l.length V),(6,vS u)]<|Op.c1 7 (Rf _ _ _ I.sub J _ _ G u (by(try dsimp only)<;>omega)) I fun Y X=>Op.pr 2 4 (.bool (decide ((ek (fun z=>decide (u=z)) l)≥0))) (hR X ⟨(bn (by exact uM _ _)),rfl,rfl⟩)
theorem Rh (B:World) (h:ay) (g:GH) (hg:bu g h) (a1:bz g) (D:Value) (s:List au) (u:an g 45 cA D s) (hl:s.length≤1000000000):
  aG prog B 77 #[D] h g [] (fun ab g' L'=>∃v0 G,ab=v0∧aH 45 cA g' v0 s G∧g'=g∧L'=[G]):=by
 obtain⟨I,J,rfl⟩:=u.ak
 refine aG.aq func77 fun R hR=>?_
 have O:=St.init hg
 refine At.go 1 1 []<|At.rp 2 1 [(3,vL I s.length J)] ?_
 rcases I with _|a20
 ·refine Op.vl 4 vT vT rfl<|Op.gt 2<|At.bT 4 3<|At.go 4 1 [(2,vN)] ?_
  have ad:=aH.zero 45 cA g none
  exact At.rt vN (hR O.nl ⟨vN,[],rfl,dP ad (by exact(an.Fq u).symm),rfl,rfl⟩)
 refine Op.vl 4 vF vF rfl<|Op.gt 2<|At.cQ 4 5<|At.rg 4<|Op.ls 5 0 45 #[] O fun U a3 V=>?_
 refine Op.px 1 [(6,vL (some a20) s.length J)] ?_
 have ae:aH 45 cA g (vL (some ⟨U,0,none⟩) 0 0) ([]:List au) [(U,Obj.cells #[] 45 (0,0))]:=aH.lit (by kernel_rfl) (by unfold maxLen;decide) (by kernel_rfl) Reads.nil
 obtain⟨a4,am,ar⟩:=cT.slice (P:=prog) (u.toH V.sub)
 refine Op.ap 5 6 41 41 7 45 32 cA (ys:=s) ae V 0 ar (by(simp only[cF];omega)) (fun _ _ _=>trivial) am fun a5 aw a6 X a0 a7=>?_
 obtain⟨Y,Z,rfl⟩:=X.ak
 exact Op.pr 6 2 (vL Y ((([]:List au)++s).length) Z) (hR a0 ⟨(vL Y ((([]:List au)++s).length) Z),aw,rfl,dP X (by(simp;done)),rfl,rfl⟩)
theorem Ri (B:World) (h:ay) (g:GH) (hg:bu g h) (a7:bz g) (V:Value) (bC:List au) (X:an g 45 cA V bC) (client:Int) (hlen:bC.length≤1000000000):
  aG prog B 170 #[V,vI client] h g [] (fun ad g' L'=>ad=.int .i64 (cnt client bC:Int)∧g'=g∧L'=[]):=by
 obtain⟨Y,G,rfl⟩:=X.ak
 refine aG.aq func170 fun R hR=>At.go 1 1 []<|At.go 2 1 [(5,vI 0)]<|At.go 3 3 [(8,vL Y bC.length G),(9,vI (bC.length:Int)),(10,vI 0)] ?_
 have ae:∀(m:Nat) (n:Int) (i:Int) (I:ay) (hm:bC.length-i.toNat<m) (h0:0≤i) (h1:i≤bC.length) (hn0:0≤n) (am:n≤i) (hn:n+(cnt client (bC.drop i.toNat):Int)=cnt client bC) (D:St h g (aS []) g [] I),At (bP prog B 170 f170 R) [] 3 [(1,vI client),(5,vI n),(8,vL Y bC.length G),(9,vI (bC.length:Int)),(10,vI i)] I:=by
  intro m;induction m with
  |zero=>intros;omega
  |succ m Z=>
   intro n i I hm h0 h1 hn0 am hn D
   refine At.go 4 1 [(11,.bool (decide (i<(bC.length:Int))))]<|At.fd (i<(bC.length:Int)) 11 5 10 (fun a8=>?_) fun ar=>?_
   ·refine At.rg 4 ?_
    obtain⟨u,J⟩:=bW bC i
    obtain⟨aw,ab,a9,bb,a0,a1,O⟩:=an.bB X _ J
    cases a0
    refine Op.iq 41 45 3 32 bC.length G 8 10 12 aw ab i ?_
    replace O:cut _ _ _=[vI u.ax,vI u.ah,vS u.af]:=O
    refine Op.la 45 12 13 (ab+i.toNat*3) 3 [vI u.ax,vI u.ah,vS u.af] (D.sub _ _ a1) ?_ (hv:=O)
    refine Op.al 7 45 lp D fun a3 bc a4=>Op.sg 45 7 13 0 0 #[vI u.ax,vI u.ah,vS u.af] a4 zt fun bd U=>Op.gt 6<|At.rp 4 1 [(14,vP a3)]<|Op.l1 3 14 15 0 (vI u.ax) (U.ag 0 rfl) ?_
    refine Op.pg 7 [(17,.bool (u.ax==client))]<|At.fd (u.ax=client) 17 8 9 (fun a5=>?_) fun a6=>?_
    ·refine At.rp 3 1 [(18,vI n)]<|Op.vq 19 (n+1)<|Op.pg 9 [(5,vI (n+1))]<|At.rg 2<|Op.vq 20 (i+1) ?_
     exact Op.pg 3 [(10,vI (i+1))]<|At.ke (Z (n+1) (i+1) _ (by omega) (by omega) (by omega) (by omega) (by omega) (by exact Jp hn h0 J a5) U.drop)
    exact At.rg 2<|Op.vq 20 (i+1)<|Op.pg 3 [(10,vI (i+1))]<|At.ke (Z n (i+1) _ (by omega) (by omega) (by omega) (by omega) (by omega) (by exact Jq hn h0 J a6) U.drop)
   exact At.gr 11 2 4 (vI n) (hR D ⟨(bg (by exact qS hn ar)),rfl,rfl⟩)
 exact At.ke (ae _ 0 0 _ (bG _) (by omega) (by omega) (by omega) (by omega) (by simp) (St.init hg))
theorem JN (B:World) (h:ay) (g:GH) (hg:bu g h) (bj:bz g) (ad:Value) (a:List au) (ae:an g 45 cA ad a) (am:Value) (b:List au) (ar:an g 45 cA am b) (h1:a.length≤1000000000):
  aG prog B 23 #[ad,am] h g [] (fun a5 g' L'=>a5=.bool (decide (a=b))∧g'=g∧L'=[]):=by
 obtain⟨aw,I,rfl⟩:=ae.ak
 obtain⟨a0,J,rfl⟩:=ar.ak
 refine aG.aq func23 fun R hR=>?_
 have a1:=St.init hg
 refine At.go 1 1 []<|At.go 2 5 [(10,.bool ((a.length:Int) != (b.length:Int)))]<|At.fn ((a.length:Int)=(b.length:Int)) 10 3 5 (fun bk=>?_) fun bm=>?_
 ·exact At.gr 4 1 4 vF (hR a1 ⟨(bn (by exact yL ‹_›)),rfl,rfl⟩)
 refine At.go 6 1 [(5,vI 0)] ?_
 have a6:∀(m:Nat) (i:Int) (O:ay) (hm:a.length-i.toNat<m) (h0:0≤i) (h2:i≤a.length) (ht:a.take i.toNat=b.take i.toNat) (G:St h g (aS []) g [] O),At (bP prog B 23 f23 R) [] 6 [(0,vL aw a.length I),(1,vL a0 b.length J),(5,vI i)] O:=by
  intro m;induction m with
  |zero=>intros;omega
  |succ m a7=>
   intro i O hm h0 h2 ht G
   refine At.go 7 4 [(14,.bool (decide (i<(a.length:Int))))]<|At.fd (i<(a.length:Int)) 14 8 13 (fun bo=>?_) fun a8=>?_
   ·refine At.dw (fun _=>False) [(0,true),(1,true),(2,true),(4,true),(5,true),(6,true),(3,true),(7,false),(8,true)]<|Op.px 2 [(17,vL aw a.length I),(18,vI i)] ?_
    obtain⟨u,U⟩:=bW a i
    obtain⟨a9,a3,bs,bt,bb,bc,V⟩:=an.bB ae _ U
    cases bb
    refine Op.iq 41 45 3 32 a.length I 17 18 19 a9 a3 i ?_
    replace V:cut _ _ _=[vI u.ax,vI u.ah,vS u.af]:=V
    refine Op.px 2 [(21,vL a0 b.length J),(22,vI i)] ?_
    obtain⟨D,X⟩:=bW b i
    obtain⟨bd,a4,b3,b4,be,bi,Y⟩:=an.bB ar _ X
    cases be
    refine Op.iq 41 45 3 32 b.length J 21 22 23 bd a4 i ?_
    replace Y:cut _ _ _=[vI D.ax,vI D.ah,vS D.af]:=Y
    refine Op.qv (T:=45) (x:=19) (o:=a3+i.toNat*3) (d:=20) (n:=3) (vs:=[vI u.ax,vI u.ah,vS u.af]) (by kernel_rfl) (by kernel_rfl) (by kernel_rfl) id (G.sub _ _ bc) V rfl<|Op.la 45 23 24 (a4+i.toNat*3) 3 [vI D.ax,vI D.ah,vS D.af] (G.sub _ _ bi) ?_ (hv:=Y)
    refine Op.Fx (T:=45) (T':=45) (x:=20) (y:=24) (neq:=true) (dst:=25) (xs:=#[vI u.ax,vI u.ah,vS u.af]) (ys:=#[vI D.ax,vI D.ah,vS D.af]) (q:=((u.ax==D.ax)&&((u.ah==D.ah)&&((br u.af==br D.af)&&true)))) (q':=!(decide (u=D))) (by kernel_rfl) (by kernel_rfl) (by kernel_rfl) (by kernel_rfl) (by kernel_rfl) (congrArg (fun z=>!z) (F_ u D))<|Op.gt 9<|At.cW (!(decide (u=D))) 25 10 12 (fun Z=>?_) fun ab=>?_
    ·replace Z:=kW (dn Z)
     exact At.gr 11 1 4 vF (hR G ⟨(bn (by exact yM U X Z)),rfl,rfl⟩)
    replace ab:=iX (dr ab)
    exact At.rp 3 1 [(15,vI i)]<|Op.vq 16 (i+1)<|Op.pg 6 [(5,vI (i+1))] (At.ke (a7 (i+1) _ (by omega) (by omega) (by omega) (by exact yO ht h0 U X ab) G))
   exact At.gr 14 1 4 vT (hR G ⟨(bn (by exact yN ‹_› a8 ht)),rfl,rfl⟩)
 exact At.ke (a6 _ 0 _ (bG _) (by omega) (by omega) (by rfl) a1)
theorem Rj (B:World) (h:ay) (g:GH) (hg:bu g h) (G:bz g) (w:au) (hlen:w.af.length≤1000000000):
  aG prog B 167 #[.agg #[vI w.ax,vI w.ah,vS w.af]] h g [] (fun I g' L'=>I=.bool (iQ w)∧g'=g∧L'=[]):=by
 refine aG.aq func167 fun R hR=>At.rg 2<|Op.bx 1 45 0 #[vI w.ax,vI w.ah,vS w.af] (St.init hg) fun D U u=>Op.pg 1 []<|At.rp 25 1 [(3,vP D)] ?_
 refine Op.l1 3 3 4 0 (vI w.ax) (u.ag 0 rfl)<|Op.px 2 [(6,.bool (decide (w.ax≥0)))]<|Op.wd (w.ax≥0) 6 (fun V=>?_) fun X=>?_
 ·refine Op.px 1 [(7,vP D)]<|Op.l1 3 7 8 0 (vI w.ax) (u.ag 0 rfl)<|Op.px 3 [(11,.bool (decide (w.ax<8)))]<|Op.wd (w.ax<8) 11 (fun Y=>?_) fun Z=>?_
  ·refine Op.px 1 [(12,vQ D 1)]<|Op.l1 3 12 13 1 (vI w.ah) (u.ag 0 rfl)<|Op.px 2 [(15,.bool (w.ah==1))]<|Op.wd (w.ah=1) 15 (fun ab=>?_) fun ad=>?_
   ·exact Op.px 7 [(21,vT),(22,vQ D 2)]<|Op.l1 9 22 23 2 (vS w.af) (u.ag 0 rfl)<|Op.c1 24 (zd _ _ _ u.sub G w.af (by(try dsimp only)<;>omega)) u fun ae J=>Op.pr 2 2 (.bool ((cR w.af)==0)) (hR J.drop ⟨(bn (by(simp[iQ, *];done))),rfl,rfl⟩)
   refine Op.px 1 [(16,vQ D 1)]<|Op.l1 3 16 17 1 (vI w.ah) (u.ag 0 rfl)<|Op.px 4 [(21,.bool (w.ah==2))]<|Op.wd (w.ah=2) 21 (fun am=>?_) fun ar=>?_
   ·exact Op.px 1 [(22,vQ D 2)]<|Op.l1 9 22 23 2 (vS w.af) (u.ag 0 rfl)<|Op.c1 24 (zd _ _ _ u.sub G w.af (by(try dsimp only)<;>omega)) u fun aw O=>Op.pr 2 2 (.bool ((cR w.af)==0)) (hR O.drop ⟨(bn (by(simp[iQ, *];done))),rfl,rfl⟩)
   exact Op.pr 2 2 vF (hR u.drop ⟨(bn (by(simp[iQ, *];done))),rfl,rfl⟩)
  exact Op.pr 2 2 vF (hR u.drop ⟨(bn (by(simp[iQ, *];done))),rfl,rfl⟩)
 exact Op.pr 2 2 vF (hR u.drop ⟨(bn (by(simp[iQ, *];done))),rfl,rfl⟩)
end Go.Proofs.YtdinkjbfgcfccaaGreatDoor.Sw
