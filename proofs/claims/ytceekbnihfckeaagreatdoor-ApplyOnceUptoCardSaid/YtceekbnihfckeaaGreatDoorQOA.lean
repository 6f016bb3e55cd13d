/- Lemmas for laws of this seat. -/
import Derived.Test.YtceekbnihfckeaaGreatDoorQBP
namespace Go.Proofs.YtceekbnihfckeaaGreatDoor.Sw
open Go.Proofs.Tryz
set_option linter.unusedVariables false
set_option linter.unusedSimpArgs false
set_option linter.deprecated false
open Go
set_option linter.defProp false
def vc:=@List.map_eq_nil_iff
def rD:=@List.any_append
def tL:=@Bool.or_false
def vf:=@Bool.or_true
def ng:=@List.sum_cons
def vg:Kd Bool where
  sz:=1
  K _ x cs:=cs=[.bool x]
  len h:=by subst h;rfl
  one h:=by subst h;simp[Value.oneCell']
  mono _ h:=h
  zv:=false
  zc:=[.bool false]
  zK _:=rfl
section
variable {α:Type} {d:Kd α} {g g':GH}
end
section
variable {α:Type} {d:Kd α} {g g':GH} {h h':ax} {T:TypeId} {v:Value} {xs:List α}
end
section
variable {α:Type} {d:Kd α} {g g':GH} {h h':ax} {T:TypeId} {v:Value} {xs:List α} {c:ay}
end
theorem vh {cs:Array Value} {o n:Nat} {vs ws:List Value} (h:cut cs o n=vs) (k m:Nat) (hv:(vs.drop k).take m=ws) (hm:k+m≤n:=by omega):cut cs (o+k) m=ws:=by
  rw[←qo cs o n k m hm,h,hv]
section
variable {h0:ax} {g0:GH} {S0:Nat→Prop} {g:GH} {L L':List ay} {c:ay} {h h':ax}
end
section
variable {C:fP} {ds:List Deferred} {i j:Nat} {r:ax} {M:Nat→Prop} {Ls:List (Nat×Bool)} {e:Env} {h:ax}
variable {h0:ax} {g0:GH} {S0:Nat→Prop} {g:GH} {L L':List ay}
end
theorem St.LP {h0:ax} {g0:GH} {S0:Nat→Prop} {g:GH} {L:List ay} {h:ax} (s:St h0 g0 S0 g L h) {A:List ay} (hA:∀c∈A,c∈L) {b:Nat} {o:Obj} (hg:g b=some o):¬aV A b:=by
  intro hi
  obtain⟨p,hp,rfl⟩:=oL hA hi
  rw[s.sep p hp] at hg
  cases hg
section
variable {C:fP} {ds:List Deferred} {i j:Nat} {r:ax} {M:Nat→Prop} {Ls:List (Nat×Bool)} {e:Env} {h:ax}
end
theorem CK (a b:dL):((a.Client==b.Client)&&((a.aF==b.aF)&&((a.cC==b.cC)&&true)))=decide (a=b):=by
  obtain⟨a0,a1,a2⟩:=a;obtain⟨b0,b1,b2⟩:=b
  rw[kQ];simp[CL,b_,dL.mk.injEq]
mutual
def jE:aG→Nat
  |⟨_,_,_,_,_,_,_,_,ops⟩=>gy ops+1
def gy:List aG→Nat
  |[]=>0
  |x::xs=>max (jE x) (gy xs)
end
theorem vi (x:aG):jE x=gy x.az+1:=by
  obtain⟨k,p,u,D,sp,b,G,w,ops⟩:=x
  rw[jE]
end Go.Proofs.YtceekbnihfckeaaGreatDoor.Sw
namespace Go.Proofs.YtceekbnihfckeaaGreatDoor.Sw
open Go.Proofs.Tryz
set_option linter.unusedVariables false
set_option linter.unusedSimpArgs false
set_option linter.deprecated false
open Go
section
variable {C:fP} {ds:List Deferred} {i j:Nat} {r:ax} {M:Nat→Prop} {Ls:List (Nat×Bool)} {e:Env} {h:ax}
variable {h0:ax} {g0:GH} {S0:Nat→Prop} {g:GH} {L:List ay}
theorem Op.TS {dst:Nat} {T E:TypeId} {x:Operand} {b n:Nat} {cs:Array Value} {xs:an} (ho:dS C i j e=some (some dst,.convert T T x)) (hT:C.P.underlying T=some (.slice E)) (hE:C.P.underlying E=some (.int .u8))
    (hx:e.ev x=.slice (some ⟨b,0,none⟩) n n) (hn:xs.length=n) (s:St h0 g0 S0 g ([(b,.cells cs E (0,0))]::L) h) (hr:Reads br g xs (cut cs 0 (xs.length*br.sz))) (hM:b<r.size→M b)
    (K:∀g' h',aM g g'→St h0 g0 S0 g' L h'→av g' E br (.slice (some ⟨b,0,none⟩) n n) xs→Op C ds i r M Ls ((dst,.slice (some ⟨b,0,none⟩) n n)::e) h'):Op C ds i r M ((j,false)::Ls) e h:=by
  obtain⟨o',h1,h2,h3⟩:=gT ho
  have hb:=s.ah 0 rfl
  let f:Obj→Obj:=fun|.cells c elem (lo,hi)=>.cells c elem (if lo==hi then (cs.size,cs.size+1) else (min lo cs.size,max hi (cs.size+1)))|o=>o
  have u:jm h b (.cells cs E (cs.size,cs.size+1)) (h.modify b f):=jm.modify f hb
  refine Op.run h1 (R:=fun D h'=>D=.value (.slice (some ⟨b,0,none⟩) n n)∧h'=h.modify b f) ?_ ?_
  · intro w is
    have G:w.heap[b]?=some (.cells cs E (0,0)):=by rw[is.heap];exact hb
    have hsh:w.shape? b=some (E,cs.size):=by unfold World.shape?;rw[G]
    refine⟨_,w.freeze ⟨b,cs.size,none⟩ 1,?_,⟨rfl,is.os,is.tape,is.output⟩,rfl,?_⟩
    · unfold fL execOp
      simp only[h3,hx,Sem.run_bind]
      simp[convert,run_underlying hT,run_underlying hE,markStringish,hsh]
    · unfold World.freeze
      rw[aC (by decide)]
      rw[←is.heap]
      rfl
  · rintro _ _ ⟨rfl,rfl⟩
    refine⟨_,rfl,u.jJ hM,?_⟩
    rw[h2]
    obtain⟨I,hle⟩:=(s.p5 u).freeze
    refine K _ _ hle I ⟨_,_,by rw[hn],by omega,fun _=>⟨b,0,cs,(E,cs.size,cs.size+1),rfl,iN _ _,hr.mono hle⟩⟩
end
end Go.Proofs.YtceekbnihfckeaaGreatDoor.Sw
namespace Go.Proofs.YtceekbnihfckeaaGreatDoor.Sw
open Go.Proofs.Tryz
set_option linter.unusedVariables false
set_option linter.unusedSimpArgs false
set_option linter.deprecated false
open Go
section
variable {ns out:List ag} {l x:ag} {i:Int} {put:Bool}
end
section
variable {ns:List ag} {p data q:aQ} {cI born bO o' b':Int} {num:Bool} {up x:ag} {k:Int}
theorem vj (a b:ag):decide (a=b)=(decide (a.af=b.af)&&(decide (a.Data=b.Data)&&(decide (a.ai=b.ai)&&(decide (a.aD=b.aD)&&(decide (a.Next=b.Next)&&decide (a.aL=b.aL)))))):=by
  obtain⟨a1,a2,a3,a4,a5,u⟩:=a
  obtain⟨b1,b2,D,G,I,J⟩:=b
  rw[kQ]
  simp[ag.mk.injEq]
theorem jP {a b:ag} (h:¬a.af=b.af∨¬a.Data=b.Data∨¬a.ai=b.ai∨¬a.aD=b.aD∨¬a.Next=b.Next):false=decide (a=b):=by
  refine(gb fun e=>?_).symm
  subst e
  rcases h with h|h|h|h|h
  all_goals exact h rfl
theorem vk {a b:ag} (h1:a.af=b.af) (h2:a.Data=b.Data) (h3:a.ai=b.ai) (h4:a.aD=b.aD) (h5:a.Next=b.Next):(a.aL==b.aL)=decide (a=b):=by
  rw[vj,eu h2,eu h1,eu h3,eu h4,eu h5]
  simp only[lp]
  rw[kQ]
  simp
end
section
variable {list:List ag} {i:Int} {l x:ag}
end
section
variable {list:List ag} {i:Int} {l x:ag}
end
end Go.Proofs.YtceekbnihfckeaaGreatDoor.Sw
namespace Go.Proofs.YtceekbnihfckeaaGreatDoor.Sw
open Go.Proofs.Tryz
open Go
set_option maxRecDepth 100000
set_option linter.unusedVariables false
set_option linter.unusedSimpArgs false
set_option linter.deprecated false
theorem vm (B:World) (h:ax) (g:GH) (hg:bl g h) (ar:bq g) (a:ag) (J:Value) (O:av g 5 br J a.Data) (b:ag) (U:Value) (V:av g 5 br U b.Data) (h1:a.Data.length≤1000000000):
  aE prog B 42 #[.agg #[vS a.af,J,vI a.ai,vI a.aD,vI a.Next,vI a.aL],.agg #[vS b.af,U,vI b.ai,vI b.aD,vI b.Next,vI b.aL]] h g [] (fun aw g' L'=>aw=.bool (decide (a=b))∧g'=g∧L'=[]):=by
 obtain⟨X,Y,rfl⟩:=O.aj
 obtain⟨ab,ad,rfl⟩:=V.aj
 refine aE.aq func42 fun R hR=>?_
 have a0:=St.init hg
 refine At.rg 3 ?_
 refine Op.bx 2 39 0 #[vS a.af,vL X a.Data.length Y,vI a.ai,vI a.aD,vI a.Next,vI a.aL] a0 fun G a3 a1=>?_
 refine Op.bx 3 39 1 #[vS b.af,vL ab b.Data.length ad,vI b.ai,vI b.aD,vI b.Next,vI b.aL] a1 fun I a4 D=>?_
 refine Op.pg 1 [] ?_
 refine At.rp 41 1 [(5,vP G)] ?_
 refine Op.l1 9 5 6 0 (vS a.af) (D.ah 1 rfl) ?_
 refine Op.px 1 [(7,vP I)] ?_
 refine Op.l1 9 7 8 0 (vS b.af) (D.ah 0 rfl) ?_
 refine Op.vl 9 (.bool ((bp a.af).toList==(bp b.af).toList)) (.bool (a.af==b.af)) (by rw[toList_mkS,toList_mkS]) ?_
 refine Op.px 1 [(10,.bool (a.af==b.af))] ?_
 refine Op.wb (a.af==b.af) 10 (fun ae=>?_) fun am=>?_
 ·replace ae:=eq_of_beq ae
  refine Op.px 1 [(11,vQ G 1)] ?_
  refine Op.l1 22 11 12 1 (vL X a.Data.length Y) (D.ah 1 rfl) ?_
  refine Op.px 1 [(13,vQ I 1)] ?_
  refine Op.l1 22 13 14 1 (vL ab b.Data.length ad) (D.ah 0 rfl) ?_
  refine Op.c1 15 (tM _ _ _ D.sub ar _ _ O _ _ V (by(try dsimp only)<;>omega)) D fun a5 u=>?_
  refine Op.px 2 [(17,.bool (decide (a.Data=b.Data)))] ?_
  refine Op.wd (a.Data=b.Data) 17 (fun a6=>?_) fun a7=>?_
  ·refine Op.px 1 [(18,vQ G 2)] ?_
   refine Op.l1 3 18 19 2 (vI a.ai) (u.ah 1 rfl) ?_
   refine Op.px 1 [(20,vQ I 2)] ?_
   refine Op.l1 3 20 21 2 (vI b.ai) (u.ah 0 rfl) ?_
   refine Op.px 3 [(24,.bool (a.ai==b.ai))] ?_
   refine Op.wd (a.ai=b.ai) 24 (fun a8=>?_) fun a9=>?_
   ·refine Op.px 1 [(25,vQ G 3)] ?_
    refine Op.l1 3 25 26 3 (vI a.aD) (u.ah 1 rfl) ?_
    refine Op.px 1 [(27,vQ I 3)] ?_
    refine Op.l1 3 27 28 3 (vI b.aD) (u.ah 0 rfl) ?_
    refine Op.px 3 [(31,.bool (a.aD==b.aD))] ?_
    refine Op.wd (a.aD=b.aD) 31 (fun bc=>?_) fun bd=>?_
    ·refine Op.px 1 [(32,vQ G 4)] ?_
     refine Op.l1 3 32 33 4 (vI a.Next) (u.ah 1 rfl) ?_
     refine Op.px 1 [(34,vQ I 4)] ?_
     refine Op.l1 3 34 35 4 (vI b.Next) (u.ah 0 rfl) ?_
     refine Op.px 3 [(38,.bool (a.Next==b.Next))] ?_
     refine Op.wd (a.Next=b.Next) 38 (fun be=>?_) fun bi=>?_
     ·refine Op.px 1 [(39,vQ G 5)] ?_
      refine Op.l1 3 39 40 5 (vI a.aL) (u.ah 1 rfl) ?_
      refine Op.px 1 [(41,vQ I 5)] ?_
      refine Op.l1 3 41 42 5 (vI b.aL) (u.ah 0 rfl) ?_
      exact Op.pr 2 4 (.bool (a.aL==b.aL)) (hR u.drop.drop ⟨(aS (by exact vk ‹_› ‹_› ‹_› ‹_› ‹_›)),rfl,rfl⟩)
     exact Op.pr 2 4 (.bool false) (hR u.drop.drop ⟨(aS (by exact jP (.inr (.inr (.inr (.inr ‹_›)))))),rfl,rfl⟩)
    exact Op.pr 2 4 (.bool false) (hR u.drop.drop ⟨(aS (by exact jP (.inr (.inr (.inr (.inl ‹_›)))))),rfl,rfl⟩)
   exact Op.pr 2 4 (.bool false) (hR u.drop.drop ⟨(aS (by exact jP (.inr (.inr (.inl ‹_›))))),rfl,rfl⟩)
  exact Op.pr 2 4 (.bool false) (hR u.drop.drop ⟨(aS (by exact jP (.inr (.inl ‹_›)))),rfl,rfl⟩)
 replace am:=n4 am
 exact Op.pr 2 4 (.bool false) (hR D.drop.drop ⟨(aS (by exact jP (.inl ‹_›))),rfl,rfl⟩)
theorem yC (B:World) (h:ax) (g:GH) (hg:bl g h) (a9:bq g) (ae:Value) (a:List ag) (am:av g 39 mu ae a) (ar:Value) (b:List ag) (aw:av g 39 mu ar b) (h1:a.length≤1000000000) (hd:∀n∈a,n.Data.length≤1000000000):
  aE prog B 45 #[ae,ar] h g [] (fun bc g' L'=>bc=.bool (decide (a=b))∧g'=g∧L'=[]):=by
 obtain⟨a0,J,rfl⟩:=am.aj
 obtain⟨a1,O,rfl⟩:=aw.aj
 refine aE.aq func45 fun R hR=>?_
 have a3:=St.init hg
 refine At.go 1 1 [] ?_
 refine At.go 2 5 [(10,.bool ((a.length:Int) != (b.length:Int)))] ?_
 refine At.fn ((a.length:Int)=(b.length:Int)) 10 3 5 (fun b8=>?_) fun ca=>?_
 ·exact At.gr 4 1 4 (.bool false) (hR a3 ⟨(aS (by exact tN ‹_›)),rfl,rfl⟩)
 refine At.go 6 1 [(5,vI 0)] ?_
 have bd:∀(m:Nat) (i:Int) (U:ax) (hm:a.length-i.toNat<m) (h0:0≤i) (h2:i≤a.length) (ht:a.take i.toNat=b.take i.toNat) (G:St h g (aV []) g [] U),At (bX prog B 45 f45 R) [] 6 [(0,vL a0 a.length J),(1,vL a1 b.length O),(5,vI i)] U:=by
  intro m;induction m with
  |zero=>intros;omega
  |succ m be=>
   intro i U hm h0 h2 ht G
   refine At.go 7 4 [(14,.bool (decide (i<(a.length:Int))))] ?_
   refine At.fd (i<(a.length:Int)) 14 8 13 (fun cb=>?_) fun bi=>?_
   ·refine At.dw (fun _=>False) [(0,true),(1,true),(2,true),(4,true),(5,true),(6,true),(3,true),(7,false),(8,false),(9,true)] ?_
    refine Op.px 2 [(17,vL a0 a.length J),(18,vI i)] ?_
    obtain⟨u,I⟩:=cG a i
    obtain⟨bj,a4,ce,cf,bk,bm,V⟩:=av.bF am _ I
    cases bk
    refine Op.iq 57 39 6 72 a.length J 17 18 19 bj a4 i ?_
    obtain⟨ch,a5,V⟩:=V
    obtain⟨a37,bo,rfl⟩:=a5.aj
    refine Op.px 2 [(21,vL a1 b.length O),(22,vI i)] ?_
    obtain⟨D,X⟩:=cG b i
    obtain⟨bt,a6,ci,ck,b3,b4,Y⟩:=av.bF aw _ X
    cases b3
    refine Op.iq 57 39 6 72 b.length O 21 22 23 bt a6 i ?_
    obtain⟨co,a7,Y⟩:=Y
    obtain⟨b5,b6,rfl⟩:=a7.aj
    refine Op.iU (T:=39) (x:=19) (o:=a4+i.toNat*6) (d:=20) (n:=6) (vs:=[vS u.af,vL a37 u.Data.length bo,vI u.ai,vI u.aD,vI u.Next,vI u.aL]) (by kernel_rfl) (by kernel_rfl) (by kernel_rfl) (fun h=>h) (G.sub _ _ bm) V rfl ?_
    refine Op.la 39 23 24 (a6+i.toNat*6) 6 [vS D.af,vL b5 D.Data.length b6,vI D.ai,vI D.aD,vI D.Next,vI D.aL] (G.sub _ _ b4) ?_ (hv:=Y)
    refine Op.c1 25 (vm _ _ _ G.sub a9 u _ a5 D _ a7 (by((try dsimp only)<;>(exact hd _ (cj I))))) G fun c3 a8=>?_
    refine Op.pg 9 [(26,.bool (!(decide (u=D))))] ?_
    refine At.di (!(decide (u=D))) 26 10 12 (fun ab=>?_) fun ad=>?_
    ·replace ab:=jq (dG ab)
     exact At.gr 11 1 4 (.bool false) (hR a8 ⟨(aS (by exact tO I X ab)),rfl,rfl⟩)
    replace ad:=gp (dH ad)
    refine At.rp 3 1 [(15,vI i)] ?_
    refine Op.vq 16 (i+1) ?_
    exact Op.pg 6 [(5,vI (i+1))] (At.ke (be (i+1) _ (by omega) (by omega) (by omega) (by exact qp ht h0 I X ad) a8))
   exact At.gr 14 1 4 (.bool true) (hR G ⟨(aS (by exact tP ‹_› bi ht)),rfl,rfl⟩)
 exact At.ke (bd _ 0 _ (bM _) (by omega) (by omega) (by rfl) a3)
end Go.Proofs.YtceekbnihfckeaaGreatDoor.Sw
namespace Go.Proofs.YtceekbnihfckeaaGreatDoor.Sw
open Go.Proofs.Tryz
set_option linter.unusedVariables false
set_option linter.unusedSimpArgs false
set_option linter.deprecated false
set_option linter.unusedSectionVars false
open Go
section
variable {e:ja} {w:ak} {ws:List ak} {c:Int}
end
section
variable {Q:Int→Int→Prop} {ns:List ag} {l:ag} {p data:aQ} {cI born bO:Int} {num:Bool}
end
section
variable {k k':Int} {s:Sp} {kind c t:Int} {dN:List aQ} {p:aQ} {o:aG} {w:ak}
end
section
variable {k:Int} {s:Sp} {c t:Int} {b:aQ} {e:bN}
end
theorem vn {k:Int} {s:Sp} {t:Int} (H:bK k s) (h:min t 1099511627775≤s.aA):dI s t=s:=by
  have e:max s.aA (min t 1099511627775)=s.aA:=by omega
  unfold dI
  rw[e]
  have h1:gq (fA s.aA) s.book=[]:=by
    unfold gq
    rw[vc,vp]
    intro p hp
    have:=H.kr p hp
    unfold fA
    simp only[cQ]
    omega
  have h2:ia (fA s.aA) s.book=s.book:=by
    unfold ia
    rw[mJ]
    intro p hp
    have:=H.kr p hp
    unfold fA
    simp only[gN,jb]
    omega
  show jc {s with book:=ia (fA s.aA) s.book,aA:=s.aA} (gq (fA s.aA) s.book)=s
  rw[h1,h2]
  rfl
end Go.Proofs.YtceekbnihfckeaaGreatDoor.Sw
namespace Go.Proofs.YtceekbnihfckeaaGreatDoor.Sw
open Go.Proofs.Tryz
set_option linter.unusedVariables false
set_option linter.unusedSimpArgs false
set_option linter.deprecated false
set_option linter.unusedSectionVars false
open Go
section
variable {k k':Int} {s:Sp} {c t:Int} {o:aG} {x:Result} {p data:aQ} {ns:List ag} {cI born bO:Int} {num:Bool}
end
section
variable {k:Int} {s:Sp} {c:Int} {b:aQ} {e:bN}
end
section
variable {s:Sp} {c t:Int} {b:aQ} {e:bN} {o:aG}
theorem yu {s u:Sp} (h:kp s=kp u):s.aA=u.aA:=congrArg (·.1) h
theorem yM {s u:Sp} (h:kp s=kp u):s.aR=u.aR:=congrArg (·.2.2) h
theorem tF:(dI s t).aA=max s.aA (min t 1099511627775):=congrArg (·.1) (AB (s:=s) (t:=t))
theorem AL:(lY s e b).aA=s.aA:=by
  have:=yu (vu (s:=cB s) (c:=e.Client) (b:=b))
  exact this
theorem wZ:(lY s e b).aR=dJ s.aR e.Client ⟨e.bn,(cL (gV s e.Client b)).1⟩:=by
  show dJ (cF (cB s) e.Client b).aR _ _=_
  rw[yM (vu (s:=cB s) (c:=e.Client) (b:=b))]
  rfl
theorem AM:(bD s e b).aA=max s.aA (min e.aX 1099511627775):=by
  unfold bD
  split
  · rw[AL,tF]
  · exact tF
end
end Go.Proofs.YtceekbnihfckeaaGreatDoor.Sw
namespace Go.Proofs.YtceekbnihfckeaaGreatDoor.Sw
open Go.Proofs.Tryz
set_option linter.unusedVariables false
set_option linter.unusedSimpArgs false
set_option linter.deprecated false
open Go
section
variable {k:Int} {s:Sp} {e:bN} {b b':aQ}
theorem LQ {s:Sp} {c:Int} {r:jA} {x:List (Int×jA)} (h:s.aR=dJ x c r):gh s c=r:=by
  unfold gh
  rw[h,n9,aO rfl]
  rfl
theorem LR (ht:dI s e.aX=s) (hn:¬((gh s e.Client).cW<e.bn)):bD s e b=s:=by unfold bD;rw[ht,aC (fun h=>hn h.2)]
theorem LS (H:bK k s) (h0:0≤k) (hk:k≤99000) (hn:s.count≤1000000000000):dI (bD s e b) e.aX=bD s e b:=
  vn (H.iX h0 hk hn) (by rw[AM];omega)
theorem TU (H:bK k s) (h0:0≤k) (hk:k≤99000) (hn:s.count≤1000000000000):dQ (bD s e b) e=false∧bh (bD s e b) e b'=bh s e b∧bD (bD s e b) e b'=bD s e b:=by
  have ht:=LS (e:=e) (b:=b) H h0 hk hn
  by_cases h1:iL e=true
  · by_cases h2:(gh (dI s e.aX) e.Client).cW<e.bn
    · have hs:bD s e b=lY (dI s e.aX) e b:=by unfold bD;rw[aO ⟨h1,h2⟩]
      have hl:gh (bD s e b) e.Client=⟨e.bn,(cL (gV (dI s e.aX) e.Client b)).1⟩:=by
        rw[hs];exact LQ wZ
      have n1:¬((gh (bD s e b) e.Client).cW<e.bn):=by rw[hl];simp only;omega
      refine⟨?_,?_,?_⟩
      · unfold dQ;rw[ht,gb n1,x4]
      · unfold bh
        rw[ht,aO h1,aC n1,aO (by rw[hl]),aO h1,aO h2,hl]
      · exact LR ht n1
    · have hs:bD s e b=dI s e.aX:=by unfold bD;rw[aC (fun h=>h2 h.2)]
      rw[hs] at ht ⊢
      refine⟨?_,?_,?_⟩
      · unfold dQ;rw[ht,gb h2,x4]
      · unfold bh
        rw[ht,aO h1,aC h2,aO h1,aC h2]
      · unfold bD
        rw[ht,aC (fun h=>h2 h.2)]
  · have hs:bD s e b=dI s e.aX:=by unfold bD;rw[aC (fun h=>h1 h.1)]
    rw[hs] at ht ⊢
    refine⟨?_,?_,?_⟩
    · unfold dQ;simp[h1]
    · unfold bh;rw[aC h1,aC h1]
    · unfold bD
      rw[ht,aC (fun h=>h1 h.1)]
theorem TV (H:bK k s) (h0:0≤k) (hk:k≤99000) (hn:s.count≤1000000000000) (hd:dQ s e=true):
    dQ (bD s e b) {e with bn:=e.bn-1}=false∧bh (bD s e b) {e with bn:=e.bn-1} b'=[]∧bD (bD s e b) {e with bn:=e.bn-1} b'=bD s e b:=by
  have ht:=LS (e:=e) (b:=b) H h0 hk hn
  unfold dQ at hd
  rw[b_,cQ] at hd
  obtain⟨h1,h2⟩:=hd
  have hs:bD s e b=lY (dI s e.aX) e b:=by unfold bD;rw[aO ⟨h1,h2⟩]
  have hl:gh (bD s e b) e.Client=⟨e.bn,(cL (gV (dI s e.aX) e.Client b)).1⟩:=by
    rw[hs];exact LQ wZ
  have n1:¬((gh (bD s e b) e.Client).cW<e.bn-1):=by rw[hl];simp only;omega
  have n2:¬(e.bn-1=(gh (bD s e b) e.Client).cW):=by rw[hl];simp only;omega
  refine⟨?_,?_,?_⟩
  · unfold dQ
    simp only[]
    rw[ht,gb n1,x4]
  · unfold bh
    simp only[]
    rw[ht,aC n1,aC n2]
    split<;>rfl
  · exact LR (e:={e with bn:=e.bn-1}) ht n1
end
end Go.Proofs.YtceekbnihfckeaaGreatDoor.Sw
namespace Go.Proofs.YtceekbnihfckeaaGreatDoor.Sw
open Go.Proofs.Tryz
set_option linter.unusedVariables false
set_option linter.unusedSimpArgs false
set_option linter.deprecated false
set_option linter.unusedSectionVars false
open Go
section
variable {aB deep n i:Int} {o x:aG} {ops:List aG}
theorem jS (o:aG) (aB deep:Int):cM o aB deep=if deep=0∧o.az≠[] then aB+1 else ey o.az aB deep (1+o.af.length+o.Data.length):=by
  obtain⟨_,_,_,_,_,_,_,_,_⟩:=o
  rw[cM]
theorem lD (x:aG) (xs:List aG) (aB deep n:Int):ey (x::xs) aB deep n=if n≤aB then ey xs aB deep (n+cM x (aB-n) (deep-1)) else n:=by rw[ey]
theorem lE (o:aG):(cq o:Int)=1+o.af.length+o.Data.length+c7 o.az:=by rw[mO];omega
mutual
theorem lF:∀(o:aG) (aB deep:Int),0≤aB→0≤cM o aB deep∧cM o aB deep≤aB+1+cq o
  |⟨k,p,u,D,sp,b,G,w,ops⟩,aB,deep,h=>by
   have e:=jS ⟨k,p,u,D,sp,b,G,w,ops⟩ aB deep
   have hz:=lE ⟨k,p,u,D,sp,b,G,w,ops⟩
   simp only at e hz
   rw[e]
   split
   · omega
   · have:=pG ops aB deep (1+p.length+u.length) h (by omega)
     omega
theorem pG:∀(xs:List aG) (aB deep n:Int),0≤aB→0≤n→0≤ey xs aB deep n∧ey xs aB deep n≤max n (aB+1+c7 xs)
  |[],aB,deep,n,_,h=>by rw[ey];omega
  |x::xs,aB,deep,n,h,hn=>by
   rw[lD]
   have e:c7 (x::xs)=cq x+c7 xs:=by rw[c7]
   rw[e]
   split
   · have h1:=lF x (aB-n) (deep-1) (by omega)
     have h2:=pG xs aB deep (n+cM x (aB-n) (deep-1)) h (by omega)
     omega
   · omega
end
mutual
theorem uh:∀(o:aG) (aB deep:Int),0≤deep→cM o aB deep≤aB→cM o aB deep=cq o∧(jE o:Int)≤deep+1
  |⟨k,p,u,D,sp,b,G,w,ops⟩,aB,deep,hd,h=>by
   have e:=jS ⟨k,p,u,D,sp,b,G,w,ops⟩ aB deep
   have hz:=lE ⟨k,p,u,D,sp,b,G,w,ops⟩
   have ed:=vi ⟨k,p,u,D,sp,b,G,w,ops⟩
   simp only at e hz ed
   rw[e] at h ⊢
   split at h
   · omega
   · rename_i hne
     rw[aC hne]
     have:=pH ops aB deep (1+p.length+u.length) hd (by
       by_cases h0:ops=[]
       · exact .inr h0
       · exact .inl (by
           by_cases I:deep=0
           · exact absurd ⟨I,h0⟩ hne
           · omega)) h
     omega
theorem pH:∀(xs:List aG) (aB deep n:Int),0≤deep→(1≤deep∨xs=[])→ey xs aB deep n≤aB→ey xs aB deep n=n+c7 xs∧(gy xs:Int)≤deep
  |[],aB,deep,n,hd,_,h=>by rw[ey,c7,gy];omega
  |x::xs,aB,deep,n,hd,h1,h=>by
   have h1:1≤deep:=by
     rcases h1 with h1|h1
     · exact h1
     · cases h1
   rw[lD] at h ⊢
   have e:c7 (x::xs)=cq x+c7 xs:=by rw[c7]
   have ed:gy (x::xs)=max (jE x) (gy xs):=by rw[gy]
   rw[e,ed]
   split at h
   · rename_i hn
     rw[aO hn]
     have h2:=pH xs aB deep (n+cM x (aB-n) (deep-1)) hd (.inl h1) h
     have h3:=uh x (aB-n) (deep-1) (by omega) (by omega)
     omega
   · omega
end
def gX (o:aG) (aB deep n i:Int):Prop:=ey o.az aB deep (1+o.af.length+o.Data.length)=ey (o.az.drop i.toNat) aB deep n∧0≤n∧n≤aB+1+cq o
theorem pI (o:aG) (h:0≤aB):gX o aB deep (1+o.af.length+o.Data.length) 0:=⟨rfl,by omega,by have:=lE o;omega⟩
theorem pJ (H:gX o aB deep n i) (h0:0≤i) (hx:o.az[i.toNat]?=some x) (h:n≤aB):gX o aB deep (n+cM x (aB-n) (deep-1)) (i+1):=by
  obtain⟨h1,h2,h3⟩:=H
  have hb:=lF x (aB-n) (deep-1) (by omega)
  have hm:=xb (cj hx)
  have hz:=lE o
  refine⟨?_,by omega,by omega⟩
  rw[h1,drop_at hx,lD,aO h,show(i+1).toNat=i.toNat+1 by omega]
theorem pK (H:gX o aB deep n i) (hi:¬i<(o.az.length:Int)) (hn:¬(deep=0∧o.az≠[])):n=cM o aB deep:=by
  rw[jS,aC hn,H.1,mz (by omega),ey]
theorem pL (H:gX o aB deep n i) (hi:¬n≤aB) (hn:¬(deep=0∧o.az≠[])):n=cM o aB deep:=by
  rw[jS,aC hn,H.1]
  cases o.az.drop i.toNat with
  |nil=>rw[ey]
  |cons x xs=>rw[lD,aC hi]
theorem vB (h1:deep=0) (h2:(o.az.length:Int)>0):aB+1=cM o aB deep:=by
  rw[jS,aO ⟨h1,fun e=>by rw[e] at h2;simp at h2⟩]
theorem vC (h:¬deep=0):¬(deep=0∧o.az≠[]):=fun h'=>h h'.1
theorem vD (h:¬(o.az.length:Int)>0):¬(deep=0∧o.az≠[]):=fun h'=>h'.2 (ju (by omega))
end
end Go.Proofs.YtceekbnihfckeaaGreatDoor.Sw
namespace Go.Proofs.YtceekbnihfckeaaGreatDoor.Sw
open Go.Proofs.Tryz
set_option linter.unusedVariables false
set_option linter.unusedSimpArgs false
set_option linter.deprecated false
open Go
section
variable {l:List aH} {i:Int} {x:aH}
theorem vE (H:(l.take i.toNat).any stepG=false) (h0:0≤i) (hx:l[i.toNat]?=some x) (h1:jH x.Op 3000 3=false) (h2:¬(x.cS.length:Int)>2000):(l.take (i+1).toNat).any stepG=false:=by
  rw[toNat_succ h0,fG hx,rD,H]
  simp only[rJ,List.any_nil,tL,n8,stepG,h1,gb h2]
theorem vF (hx:l[i.toNat]?=some x) (h:jH x.Op 3000 3=true):true=fN l:=(kF.2 ⟨x,cj hx,by unfold stepG;rw[h];rfl⟩).symm
theorem vG (hx:l[i.toNat]?=some x) (h:(x.cS.length:Int)>2000):true=fN l:=(kF.2 ⟨x,cj hx,by unfold stepG;rw[eu h,vf]⟩).symm
theorem vH (H:(l.take i.toNat).any stepG=false) (h:¬i<(l.length:Int)):false=fN l:=by
  rw[fC (by omega)] at H
  exact H.symm
end
end Go.Proofs.YtceekbnihfckeaaGreatDoor.Sw
namespace Go.Proofs.YtceekbnihfckeaaGreatDoor.Sw
open Go.Proofs.Tryz
open Go
set_option maxRecDepth 100000
set_option linter.unusedVariables false
set_option linter.unusedSimpArgs false
set_option linter.deprecated false
theorem vJ (mr:Nat):∀(B:World) (h:ax) (g:GH) (hg:bl g h) (aw:bq g) (o:aG) (a0:Value) (a9:av g 5 br a0 o.Data) (a1:Value) (ae:av g 25 ek a1 o.az) (aB:Int) (deep:Int) (ho:cq o≤100000000) (hm:0≤aB∧aB≤1000000) (hd:0≤deep∧deep≤1000) (a3:cq o<mr),aE prog B 50 #[.agg #[vI o.Kind,vS o.af,a0,vI o.ai,vI o.aF,.bool o.aY,.bool o.aI,.bool o.ak,a1],vI aB,vI deep] h g [] (fun bo g' L'=>bo=.int .i64 (cM o aB deep)∧g'=g∧L'=[]):=by
 induction mr with
 |zero=>intros;omega
 |succ mr bc=>
 intro B h g hg aw o a0 a9 a1 ae aB deep ho hm hd a3
 obtain⟨am,ar,rfl⟩:=a9.aj
 obtain⟨O,I,rfl⟩:=ae.aj
 refine aE.aq func50 fun R hR=>?_
 have bt:=St.init hg
 refine At.rg 2 ?_
 refine Op.bx 3 25 0 #[vI o.Kind,vS o.af,vL am o.Data.length ar,vI o.ai,vI o.aF,.bool o.aY,.bool o.aI,.bool o.ak,vL O o.az.length I] bt fun G c4 X=>?_
 refine Op.pg 1 [] ?_
 refine At.rp 9 1 [(9,vQ G 1)] ?_
 refine Op.l1 9 9 10 1 (vS o.af) (X.ah 0 rfl) ?_
 refine Op.px 1 [(11,vI (o.af.length:Int))] ?_
 refine Op.cE 12 ((1:Int)+(o.af.length:Int)) (by omega) (by(have:=fO o;omega)) ?_
 refine Op.px 1 [(13,vQ G 2)] ?_
 refine Op.l1 22 13 14 2 (vL am o.Data.length ar) (X.ah 0 rfl) ?_
 refine Op.px 1 [(15,vI (o.Data.length:Int))] ?_
 refine Op.cE 16 (((1:Int)+(o.af.length:Int))+(o.Data.length:Int)) (by omega) (by(have:=fO o;omega)) ?_
 refine Op.pg 2 [(7,vI (((1:Int)+(o.af.length:Int))+(o.Data.length:Int)))] ?_
 refine At.rp 8 3 [(19,.bool (deep==0))] ?_
 refine Op.wd (deep=0) 19 (fun c5=>?_) fun c6=>?_
 ·refine Op.px 1 [(20,vQ G 8)] ?_
  refine Op.l1 23 20 21 8 (vL O o.az.length I) (X.ah 0 rfl) ?_
  refine Op.pg 3 [(24,.bool (decide ((o.az.length:Int)>0)))] ?_
  refine At.fd ((o.az.length:Int)>0) 24 4 6 (fun c8=>?_) fun c9=>?_
  ·refine At.rp 3 1 [(25,vI aB)] ?_
   refine Op.vq 26 (aB+1) ?_
   exact Op.pr 5 6 (vI (aB+1)) (hR X.drop ⟨(bB (by exact vB ‹_› ‹_›)),rfl,rfl⟩)
  refine At.go 7 1 [(8,vI 0)] ?_
  have a4:∀(m:Nat) (n:Int) (i:Int) (a5:ax) (hm:o.az.length-i.toNat<m) (h0:0≤i) (h1:i≤o.az.length) (J:¬(deep=0∧o.az≠[])) (hI:gX o aB deep n i) (U:St h g (aV []) g [[(G,Obj.cells #[vI o.Kind,vS o.af,vL am o.Data.length ar,vI o.ai,vI o.aF,.bool o.aY,.bool o.aI,.bool o.ak,vL O o.az.length I] 25 (0,0))]] a5),At (bX prog B 50 f50 R) [] 7 [(1,vI aB),(2,vI deep),(3,vP G),(7,vI n),(8,vI i)] a5:=by
   intro m;induction m with
   |zero=>intros;omega
   |succ m a6=>
    intro n i a5 hm h0 h1 J hI U
    refine At.rp 10 2 [(27,vI i),(28,vQ G 8)] ?_
    refine Op.l1 23 28 29 8 (vL O o.az.length I) (U.ah 0 rfl) ?_
    refine Op.px 3 [(32,.bool (decide (i<(o.az.length:Int))))] ?_
    refine Op.wd (i<(o.az.length:Int)) 32 (fun da=>?_) fun db=>?_
    ·refine Op.pg 8 [(36,.bool (decide (n≤aB)))] ?_
     refine At.fd (n≤aB) 36 9 11 (fun dc=>?_) fun dd=>?_
     ·refine At.rp 14 2 [(39,vI n),(40,vQ G 8)] ?_
      refine Op.l1 23 40 41 8 (vL O o.az.length I) (U.ah 0 rfl) ?_
      refine Op.px 1 [(42,vI i)] ?_
      obtain⟨D,a7⟩:=cG o.az i
      obtain⟨b3,bd,df,dg,b4,b5,ab⟩:=av.bF ae _ a7
      cases b4
      refine Op.iq 23 25 9 96 o.az.length I 41 42 43 b3 bd i ?_
      replace ab:=iC.1 ab
      obtain⟨dj,dk,be,bi,ab⟩:=ab
      obtain⟨a46,b6,rfl⟩:=be.aj
      obtain⟨b8,ca,rfl⟩:=bi.aj
      refine Op.la 25 43 44 (bd+i.toNat*9) 9 [vI D.Kind,vS D.af,vL a46 D.Data.length b6,vI D.ai,vI D.aF,.bool D.aY,.bool D.aI,.bool D.ak,vL b8 D.az.length ca] (U.sub _ _ b5) ?_ (hv:=ab)
      refine Op.px 2 [(45,vI aB),(46,vI n)] ?_
      refine Op.vq 47 (aB-n) ?_
      refine Op.px 1 [(48,vI deep)] ?_
      refine Op.vq 49 (deep-1) ?_
      refine Op.c1 50 (bc _ _ _ U.sub aw D _ be _ bi (aB-n) (deep-1) (by(try dsimp only)<;>omega) (by(try dsimp only)<;>omega) (by(try dsimp only)<;>omega) (by exact nv (ie (cj a7)) (pM a3))) U fun dl cb=>?_
      refine Op.vq 51 (n+(cM D (aB-n) (deep-1))) ?_
      refine Op.pg 10 [(7,vI (n+(cM D (aB-n) (deep-1))))] ?_
      refine At.rp 3 1 [(37,vI i)] ?_
      refine Op.vq 38 (i+1) ?_
      exact Op.pg 7 [(8,vI (i+1))] (At.ke (a6 (n+(cM D (aB-n) (deep-1))) (i+1) _ (by omega) (by omega) (by omega) (by exact J) (by exact pJ hI h0 a7 ‹_›) cb))
     exact At.gr 12 2 6 (vI n) (hR U.drop ⟨(bB (by exact pL hI ‹_› J)),rfl,rfl⟩)
    refine Op.pg 8 [(36,.bool false)] ?_
    refine At.dK 36 11 ?_
    exact At.gr 12 2 6 (vI n) (hR U.drop ⟨(bB (by exact pK hI ‹_› J)),rfl,rfl⟩)
  exact At.ke (a4 _ (((1:Int)+(o.af.length:Int))+(o.Data.length:Int)) 0 _ (bM _) (by omega) (by omega) (by exact vD ‹_›) (by exact pI o hm.1) X)
 refine Op.pg 3 [(24,.bool false)] ?_
 refine At.dK 24 6 ?_
 refine At.go 7 1 [(8,vI 0)] ?_
 have a4:∀(m:Nat) (n:Int) (i:Int) (a8:ax) (hm:o.az.length-i.toNat<m) (h0:0≤i) (h1:i≤o.az.length) (J:¬(deep=0∧o.az≠[])) (hI:gX o aB deep n i) (V:St h g (aV []) g [[(G,Obj.cells #[vI o.Kind,vS o.af,vL am o.Data.length ar,vI o.ai,vI o.aF,.bool o.aY,.bool o.aI,.bool o.ak,vL O o.az.length I] 25 (0,0))]] a8),At (bX prog B 50 f50 R) [] 7 [(1,vI aB),(2,vI deep),(3,vP G),(7,vI n),(8,vI i)] a8:=by
  intro m;induction m with
  |zero=>intros;omega
  |succ m a6=>
   intro n i a8 hm h0 h1 J hI V
   refine At.rp 10 2 [(27,vI i),(28,vQ G 8)] ?_
   refine Op.l1 23 28 29 8 (vL O o.az.length I) (V.ah 0 rfl) ?_
   refine Op.px 3 [(32,.bool (decide (i<(o.az.length:Int))))] ?_
   refine Op.wd (i<(o.az.length:Int)) 32 (fun dp=>?_) fun dq=>?_
   ·refine Op.pg 8 [(36,.bool (decide (n≤aB)))] ?_
    refine At.fd (n≤aB) 36 9 11 (fun du=>?_) fun dv=>?_
    ·refine At.rp 14 2 [(39,vI n),(40,vQ G 8)] ?_
     refine Op.l1 23 40 41 8 (vL O o.az.length I) (V.ah 0 rfl) ?_
     refine Op.px 1 [(42,vI i)] ?_
     obtain⟨u,Y⟩:=cG o.az i
     obtain⟨ce,bj,dC,dE,cf,ch,ad⟩:=av.bF ae _ Y
     cases cf
     refine Op.iq 23 25 9 96 o.az.length I 41 42 43 ce bj i ?_
     replace ad:=iC.1 ad
     obtain⟨dT,d0,bk,bm,ad⟩:=ad
     obtain⟨ci,ck,rfl⟩:=bk.aj
     obtain⟨a75,co,rfl⟩:=bm.aj
     refine Op.la 25 43 44 (bj+i.toNat*9) 9 [vI u.Kind,vS u.af,vL ci u.Data.length ck,vI u.ai,vI u.aF,.bool u.aY,.bool u.aI,.bool u.ak,vL a75 u.az.length co] (V.sub _ _ ch) ?_ (hv:=ad)
     refine Op.px 2 [(45,vI aB),(46,vI n)] ?_
     refine Op.cE 47 (aB-n) (by omega) (by(have:=hI.2.1;have:=hI.2.2;omega)) ?_
     refine Op.px 1 [(48,vI deep)] ?_
     refine Op.vq 49 (deep-1) ?_
     refine Op.c1 50 (bc _ _ _ V.sub aw u _ bk _ bm (aB-n) (deep-1) (by((try dsimp only)<;>((have:=ie (cj Y);omega)))) (by((try dsimp only)<;>((have:=hI.2.1;have:=hI.2.2;omega)))) (by(try dsimp only)<;>omega) (by exact nv (ie (cj Y)) (pM a3))) V fun d1 c3=>?_
     refine Op.cE 51 (n+(cM u (aB-n) (deep-1))) (by(have:=hI.2.1;have:=hI.2.2;have:=ie (cj Y);have h9:=lF u (aB-n) (deep-1) (by omega);omega)) (by(have:=hI.2.1;have:=hI.2.2;have:=ie (cj Y);have h9:=lF u (aB-n) (deep-1) (by omega);omega)) ?_
     refine Op.pg 10 [(7,vI (n+(cM u (aB-n) (deep-1))))] ?_
     refine At.rp 3 1 [(37,vI i)] ?_
     refine Op.cE 38 (i+1) (by omega) (by(have:=fO o;omega)) ?_
     exact Op.pg 7 [(8,vI (i+1))] (At.ke (a6 (n+(cM u (aB-n) (deep-1))) (i+1) _ (by omega) (by omega) (by omega) (by exact J) (by exact pJ hI h0 Y ‹_›) c3))
    exact At.gr 12 2 6 (vI n) (hR V.drop ⟨(bB (by exact pL hI ‹_› J)),rfl,rfl⟩)
   refine Op.pg 8 [(36,.bool false)] ?_
   refine At.dK 36 11 ?_
   exact At.gr 12 2 6 (vI n) (hR V.drop ⟨(bB (by exact pK hI ‹_› J)),rfl,rfl⟩)
 exact At.ke (a4 _ (((1:Int)+(o.af.length:Int))+(o.Data.length:Int)) 0 _ (bM _) (by omega) (by omega) (by exact vC ‹_›) (by exact pI o hm.1) X)
theorem vK (B:World) (h:ax) (g:GH) (hg:bl g h) (G:bq g) (o:aG) (u:Value) (I:av g 5 br u o.Data) (D:Value) (J:av g 25 ek D o.az) (aB:Int) (deep:Int) (ho:cq o≤100000000) (hm:0≤aB∧aB≤1000000) (hd:0≤deep∧deep≤1000):aE prog B 50 #[.agg #[vI o.Kind,vS o.af,u,vI o.ai,vI o.aF,.bool o.aY,.bool o.aI,.bool o.ak,D],vI aB,vI deep] h g [] (fun O g' L'=>O=.int .i64 (cM o aB deep)∧g'=g∧L'=[]):=vJ _ B h g hg G o u I D J aB deep ho hm hd (bM _)
theorem uj (B:World) (h:ax) (g:GH) (hg:bl g h) (Y:bq g) (o:aG) (D:Value) (G:av g 5 br D o.Data) (I:Value) (J:av g 25 ek I o.az) (aB:Int) (deep:Int) (ho:cq o≤100000000) (hm:0≤aB∧aB≤1000000) (hd:0≤deep∧deep≤1000):
  aE prog B 15 #[.agg #[vI o.Kind,vS o.af,D,vI o.ai,vI o.aF,.bool o.aY,.bool o.aI,.bool o.ak,I],vI aB,vI deep] h g [] (fun ab g' L'=>ab=.bool (jH o aB deep)∧g'=g∧L'=[]):=by
 obtain⟨O,U,rfl⟩:=G.aj
 obtain⟨V,X,rfl⟩:=J.aj
 refine aE.aq func15 fun R hR=>?_
 have ad:=St.init hg
 refine At.rg 2 ?_
 refine Op.bx 3 25 0 #[vI o.Kind,vS o.af,vL O o.Data.length U,vI o.ai,vI o.aF,.bool o.aY,.bool o.aI,.bool o.ak,vL V o.az.length X] ad fun am ar u=>?_
 refine Op.pg 1 [] ?_
 refine At.rg 7 ?_
 refine Op.la 25 3 7 0 9 [vI o.Kind,vS o.af,vL O o.Data.length U,vI o.ai,vI o.aF,.bool o.aY,.bool o.aI,.bool o.ak,vL V o.az.length X] (u.ah 0 rfl) ?_
 refine Op.px 2 [(8,vI aB),(9,vI deep)] ?_
 refine Op.c1 10 (vK _ _ _ u.sub Y o _ G _ J aB deep (by(try dsimp only)<;>omega) (by(try dsimp only)<;>omega) (by(try dsimp only)<;>omega)) u fun aw ae=>?_
 exact Op.pr 2 6 (.bool (decide ((cM o aB deep)>aB))) (hR ae.drop ⟨(aS (by rfl)),rfl,rfl⟩)
theorem uk (B:World) (h:ax) (g:GH) (hg:bl g h) (aw:bq g) (ad:Value) (list:List aH) (V:av g 71 iD ad list) (hl:list.length≤1048576) (ho:∀x∈list,cq x.Op≤100000000):
  aE prog B 31 #[ad] h g [] (fun a0 g' L'=>a0=.bool (fN list)∧g'=g∧L'=[]):=by
 obtain⟨ae,I,rfl⟩:=V.aj
 refine aE.aq func31 fun R hR=>?_
 have a1:=St.init hg
 refine At.go 1 1 [] ?_
 refine At.go 2 1 [(3,vI 0)] ?_
 have a3:∀(m:Nat) (i:Int) (X:ax) (hm:list.length-i.toNat<m) (h0:0≤i) (h1:i≤list.length) (hI:(list.take i.toNat).any stepG=false) (J:St h g (aV []) g [] X),At (bX prog B 31 f31 R) [] 2 [(0,vL ae list.length I),(3,vI i)] X:=by
  intro m;induction m with
  |zero=>intros;omega
  |succ m a4=>
   intro i X hm h0 h1 hI J
   refine At.go 3 4 [(7,.bool (decide (i<(list.length:Int))))] ?_
   refine At.fd (i<(list.length:Int)) 7 4 9 (fun bt=>?_) fun b3=>?_
   ·refine At.rp 15 2 [(10,vL ae list.length I),(11,vI i)] ?_
    obtain⟨u,G⟩:=cG list i
    obtain⟨O,D,b4,b5,a5,a6,Y⟩:=av.bF V _ G
    cases a5
    refine Op.iq 52 71 13 144 list.length I 10 11 12 O D i ?_
    obtain⟨b6,b8,v37,am,ar,a7,Y⟩:=Y
    obtain⟨a8,a9,rfl⟩:=am.aj
    obtain⟨bc,bd,rfl⟩:=ar.aj
    obtain⟨ca,cb,rfl⟩:=a7.aj
    refine Op.px 1 [(13,vQ O (D+i.toNat*13+3))] ?_
    refine Op.la 25 13 14 (D+i.toNat*13+3) 9 [vI u.Op.Kind,vS u.Op.af,vL a8 u.Op.Data.length a9,vI u.Op.ai,vI u.Op.aF,.bool u.Op.aY,.bool u.Op.aI,.bool u.Op.ak,vL bc u.Op.az.length bd] (J.sub _ _ a6) ?_ (hv:=(vh Y 3 9 rfl (by decide)))
    refine Op.c1 15 (uj _ _ _ J.sub aw u.Op _ am _ ar 3000 3 (by((try dsimp only)<;>(exact ho _ (cj G)))) (by(try dsimp only)<;>omega) (by(try dsimp only)<;>omega)) J fun ce U=>?_
    refine Op.px 1 [(16,.bool (jH u.Op (3000) (3)))] ?_
    refine Op.wb (jH u.Op (3000) (3)) 16 (fun cf=>?_) fun ch=>?_
    ·refine Op.pg 5 [(24,.bool true)] ?_
     refine At.bW 24 6 ?_
     exact At.gr 7 1 2 (.bool true) (hR U ⟨(aS (by exact vF G ‹_›)),rfl,rfl⟩)
    refine Op.px 2 [(17,vL (some ⟨O,D,none⟩) list.length I),(18,vI i)] ?_
    obtain⟨ci,ck,co,c3,be,bi,ab⟩:=av.bF V _ G
    cases be
    refine Op.iq 52 71 13 144 list.length I 17 18 19 O D i ?_
    obtain⟨c4,c5,cE,bj,bk,bm,ab⟩:=ab
    obtain⟨c6,c8,rfl⟩:=bj.aj
    obtain⟨c9,da,rfl⟩:=bk.aj
    obtain⟨a70,bo,rfl⟩:=bm.aj
    refine Op.px 1 [(20,vQ O (D+i.toNat*13+12))] ?_
    refine Op.l1 22 20 21 (D+i.toNat*13+12) (vL a70 u.cS.length bo) (U.sub _ _ bi) ?_ (hv:=c_ ab 12 rfl)
    refine Op.pg 5 [(24,.bool (decide ((u.cS.length:Int)>2000)))] ?_
    refine At.fd ((u.cS.length:Int)>2000) 24 6 8 (fun db=>?_) fun dc=>?_
    ·exact At.gr 7 1 2 (.bool true) (hR U ⟨(aS (by exact vG G ‹_›)),rfl,rfl⟩)
    refine At.rp 3 1 [(8,vI i)] ?_
    refine Op.vq 9 (i+1) ?_
    exact Op.pg 2 [(3,vI (i+1))] (At.ke (a4 (i+1) _ (by omega) (by omega) (by omega) (by exact vE hI h0 G ‹_› ‹_›) U))
   exact At.gr 10 1 2 (.bool false) (hR J ⟨(aS (by exact vH hI ‹_›)),rfl,rfl⟩)
 exact At.ke (a3 _ 0 _ (bM _) (by omega) (by omega) (by rfl) a1)
theorem vM (B:World) (h:ax) (g:GH) (hg:bl g h) (Y:bq g) (I:Value) (list:List aH) (G:av g 71 iD I list) (hl:list.length≤1048576):
  aE prog B 30 #[I] h g [] (fun X g' L'=>∃v0,X=v0∧av g' 71 iD v0 (list.take 60)∧L'=[]):=by
 obtain⟨u,D,rfl⟩:=G.aj
 refine aE.aq func30 fun R hR=>?_
 have J:=St.init hg
 refine At.go 1 1 [] ?_
 refine At.go 2 3 [(5,.bool (decide ((list.length:Int)>60)))] ?_
 refine At.fd ((list.length:Int)>60) 5 3 5 (fun ab=>?_) fun ad=>?_
 ·refine At.rp 3 1 [(6,vL u list.length D)] ?_
  refine Op.yS (T:=52) (E:=71) (dx:=144) (x:=6) (ao:=u) (n:=list.length) (c:=D) (dst:=7) (d:=iD) (hi:=(.const (vI 60))) (k:=.i64) (m:=60) (by kernel_rfl) (by kernel_rfl) (by kernel_rfl) (by kernel_rfl) G (by omega) (by omega) fun ae O=>?_
  obtain⟨U,V,rfl⟩:=O.aj
  exact Op.pr 4 2 (vL U ((list.take (60:Int).toNat).length) V) (hR J ⟨(vL U ((list.take (60:Int).toNat).length) V),rfl,b9 O (by rfl),rfl⟩)
 exact At.gr 6 2 2 (vL u list.length D) (hR J ⟨(vL u list.length D),rfl,b9 G (by exact(fC (by omega)).symm),rfl⟩)
end Go.Proofs.YtceekbnihfckeaaGreatDoor.Sw
namespace Go.Proofs.YtceekbnihfckeaaGreatDoor.Sw
open Go.Proofs.Tryz
set_option linter.unusedVariables false
set_option linter.unusedSimpArgs false
set_option linter.deprecated false
open Go
section
variable {i k:Int} {y s:Sp} {x:aH}
end
def gG (x m:Int):Int:=IntKind.wrap .i64 (((BitVec.ofInt (IntKind.bits .i64) x &&& BitVec.ofInt (IntKind.bits .i64) m).toNat:Nat):Int)
theorem FD (x m:Int): -9223372036854775808≤gG x m∧gG x m≤9223372036854775807:=Fb _
section
variable {i:Int} {s z:Sp} {x:aH} {l:List aH} {fb:aQ} {fn:Bool} {b':aQ}
theorem yw (H:ec i s) (h0:0≤i) (hi:i≤20000) (hz:z=bD s (aW x) (bC x)):dQ z (aW x)=false∧bh z (aW x) b'=bh s (aW x) (bC x)∧bD z (aW x) b'=z:=by
  subst hz
  exact TU H.ok (by omega) (by omega) (by have:=H.cnt;omega)
theorem AO (H:ec i s) (h0:0≤i) (hi:i≤20000) (hz:z=bD s (aW x) (bC x)) (hd:dQ s (aW x)=true):
    dQ z ⟨(aW x).Client,(aW x).bn-1,(aW x).aX,(aW x).kf⟩=false∧bh z ⟨(aW x).Client,(aW x).bn-1,(aW x).aX,(aW x).kf⟩ b'=[]∧bD z ⟨(aW x).Client,(aW x).bn-1,(aW x).aX,(aW x).kf⟩ b'=z:=by
  subst hz
  exact TV H.ok (by omega) (by omega) (by have:=H.cnt;omega) hd
theorem cP (l:List aH):(l.take 60).length≤60:=by rw[e_];omega
theorem LV (h:dQ s (aW x)=true):1≤x.bn∧x.bn<1099511627776:=by
  unfold dQ at h
  rw[b_] at h
  exact(w9 h.1).2
theorem jv (H:ec i s):((aP s).bZ.length≤1000000∧∀n∈(aP s).bZ,n.Data.length≤1000000000)∧(aP s).cJ.length≤1000000∧(aP s).cr.length≤1000000∧(aP s).aT.length≤1000000∧(aP s).bL.length≤1000000∧∀x∈(aP s).bL,x.Data.length≤1000000000:=by
  have K:=H.ok
  refine⟨⟨bQ K.tree.len (by decide),fun n hn=>bQ (K.tree.node n hn).2.1 (by decide)⟩,bQ K.gf.len (by decide),?_,?_,?_,?_⟩
  · show(s.book.map (·.2)).length≤_
    rw[d_]
    exact bQ K.book.len (by decide)
  · show((s.events.map (·.2)).flatten).length≤_
    have h8:=K.yT
    have key:∀(l:ja),(∀p∈l,p.2.length≤8)→((l.map (·.2)).flatten).length≤8*l.length:=by
      intro l
      induction l with
      |nil=>intro _;exact fH _
      |cons p l ih=>
       intro h
       have h1:=h p (by simp)
       have h2:=ih fun q hq=>h q (by simp[hq])
       rw[eR,cH,cA,bY]
       omega
    have:=key s.events fun p hp=>by
      have hq:=K.quo p.1
      have he:cV s.events p.1=p.2:=by
        unfold cV
        rw[(jR K.ev.sort).2 (show(p.1,p.2)∈s.events from hp)]
        rfl
      rw[he] at hq
      omega
    omega
  · show(s.aR.map _).length≤_
    rw[d_]
    exact bQ (xd K.fD.sort fun p hp=>(K.fD.ok p hp).1) (by decide)
  · intro x hx
    obtain⟨p,hp,rfl⟩:=de.1 hx
    exact bQ (K.fD.ok p hp).2.2 (by decide)
end
section
variable {a b:gu} {i:Int} {x y:ig}
theorem mA (h:¬a.aX=b.aX∨¬a.aZ=b.aZ∨¬a.bZ=b.bZ∨¬a.cJ=b.cJ∨¬a.cr=b.cr∨¬a.aT=b.aT∨¬a.bL=b.bL):false=decide (a=b):=by
  refine(gb fun e=>?_).symm
  subst e
  rcases h with h|h|h|h|h|h|h<;>exact h rfl
theorem CQ (h:¬(a.bL.length:Int)=b.bL.length):false=decide (a=b):=mA (.inr (.inr (.inr (.inr (.inr (.inr fun e=>h (by rw[e])))))))
theorem vO (hx:a.bL[i.toNat]?=some x) (hy:b.bL[i.toNat]?=some y) (h:¬x.Client=y.Client∨¬x.bn=y.bn∨¬x.Data=y.Data):false=decide (a=b):=mA (.inr (.inr (.inr (.inr (.inr (.inr fun e=>by
  rw[e,hy] at hx
  obtain rfl:=fK hx
  rcases h with h|h|h<;>exact h rfl))))))
theorem CR (h1:x.Client=y.Client) (h2:x.bn=y.bn) (h3:x.Data=y.Data):x=y:=by
  obtain⟨_,_,_⟩:=x
  obtain⟨_,_,_⟩:=y
  simp only at h1 h2 h3
  subst h1 h2 h3
  rfl
theorem CS (h1:a.aX=b.aX) (h2:a.aZ=b.aZ) (h3:a.bZ=b.bZ) (h4:a.cJ=b.cJ) (h5:a.cr=b.cr) (h6:a.aT=b.aT) (hl:(a.bL.length:Int)=b.bL.length) (ht:a.bL.take i.toNat=b.bL.take i.toNat) (hi:¬i<(a.bL.length:Int)):true=decide (a=b):=by
  refine(eu ?_).symm
  rw[fC (by omega),fC (by omega)] at ht
  obtain⟨_,_,_,_,_,_,_⟩:=a
  obtain⟨_,_,_,_,_,_,_⟩:=b
  simp only at h1 h2 h3 h4 h5 h6 ht
  subst h1 h2 h3 h4 h5 h6 ht
  rfl
end
end Go.Proofs.YtceekbnihfckeaaGreatDoor.Sw
namespace Go.Proofs.YtceekbnihfckeaaGreatDoor.Sw
open Go.Proofs.Tryz
open Go
set_option maxRecDepth 100000
set_option linter.unusedVariables false
set_option linter.unusedSimpArgs false
set_option linter.deprecated false
theorem CT (B:World) (h:ax) (g:GH) (hg:bl g h) (bm:bq g) (ae:Value) (a:List dL) (am:av g 85 nI ae a) (ar:Value) (b:List dL) (aw:av g 85 nI ar b) (h1:a.length≤1000000000):
  aE prog B 85 #[ae,ar] h g [] (fun a6 g' L'=>a6=.bool (decide (a=b))∧g'=g∧L'=[]):=by
 obtain⟨a0,I,rfl⟩:=am.aj
 obtain⟨a1,J,rfl⟩:=aw.aj
 refine aE.aq func85 fun R hR=>?_
 have a3:=St.init hg
 refine At.go 1 1 [] ?_
 refine At.go 2 5 [(10,.bool ((a.length:Int) != (b.length:Int)))] ?_
 refine At.fn ((a.length:Int)=(b.length:Int)) 10 3 5 (fun bo=>?_) fun bt=>?_
 ·exact At.gr 4 1 4 (.bool false) (hR a3 ⟨(aS (by exact tN ‹_›)),rfl,rfl⟩)
 refine At.go 6 1 [(5,vI 0)] ?_
 have a7:∀(m:Nat) (i:Int) (O:ax) (hm:a.length-i.toNat<m) (h0:0≤i) (h2:i≤a.length) (ht:a.take i.toNat=b.take i.toNat) (G:St h g (aV []) g [] O),At (bX prog B 85 f85 R) [] 6 [(0,vL a0 a.length I),(1,vL a1 b.length J),(5,vI i)] O:=by
  intro m;induction m with
  |zero=>intros;omega
  |succ m a8=>
   intro i O hm h0 h2 ht G
   refine At.go 7 4 [(14,.bool (decide (i<(a.length:Int))))] ?_
   refine At.fd (i<(a.length:Int)) 14 8 13 (fun b3=>?_) fun a9=>?_
   ·refine At.dw (fun _=>False) [(0,true),(1,true),(2,true),(4,true),(5,true),(6,true),(3,true),(7,false),(8,true)] ?_
    refine Op.px 2 [(17,vL a0 a.length I),(18,vI i)] ?_
    obtain⟨u,U⟩:=cG a i
    obtain⟨bc,a4,b4,b5,bd,be,V⟩:=av.bF am _ U
    cases bd
    refine Op.iq 62 85 3 24 a.length I 17 18 19 bc a4 i ?_
    replace V:cut _ _ _=[vI u.Client,vI u.aF,vI u.cC]:=V
    refine Op.px 2 [(21,vL a1 b.length J),(22,vI i)] ?_
    obtain⟨D,X⟩:=cG b i
    obtain⟨bi,a5,b6,b8,bj,bk,Y⟩:=av.bF aw _ X
    cases bj
    refine Op.iq 62 85 3 24 b.length J 21 22 23 bi a5 i ?_
    replace Y:cut _ _ _=[vI D.Client,vI D.aF,vI D.cC]:=Y
    refine Op.iU (T:=85) (x:=19) (o:=a4+i.toNat*3) (d:=20) (n:=3) (vs:=[vI u.Client,vI u.aF,vI u.cC]) (by kernel_rfl) (by kernel_rfl) (by kernel_rfl) (fun h=>h) (G.sub _ _ be) V rfl ?_
    refine Op.la 85 23 24 (a5+i.toNat*3) 3 [vI D.Client,vI D.aF,vI D.cC] (G.sub _ _ bk) ?_ (hv:=Y)
    refine Op.A3 (T:=85) (T':=85) (x:=20) (y:=24) (neq:=true) (dst:=25) (xs:=#[vI u.Client,vI u.aF,vI u.cC]) (ys:=#[vI D.Client,vI D.aF,vI D.cC]) (q:=((u.Client==D.Client)&&((u.aF==D.aF)&&((u.cC==D.cC)&&true)))) (q':=!(decide (u=D))) (by kernel_rfl) (by kernel_rfl) (by kernel_rfl) (by kernel_rfl) (by kernel_rfl) (congrArg (fun z=>!z) (CK u D)) ?_
    refine Op.gt 9 ?_
    refine At.di (!(decide (u=D))) 25 10 12 (fun ab=>?_) fun ad=>?_
    ·replace ab:=jq (dG ab)
     exact At.gr 11 1 4 (.bool false) (hR G ⟨(aS (by exact tO U X ab)),rfl,rfl⟩)
    replace ad:=gp (dH ad)
    refine At.rp 3 1 [(15,vI i)] ?_
    refine Op.vq 16 (i+1) ?_
    exact Op.pg 6 [(5,vI (i+1))] (At.ke (a8 (i+1) _ (by omega) (by omega) (by omega) (by exact qp ht h0 U X ad) G))
   exact At.gr 14 1 4 (.bool true) (hR G ⟨(aS (by exact tP ‹_› a9 ht)),rfl,rfl⟩)
 exact At.ke (a7 _ 0 _ (bM _) (by omega) (by omega) (by rfl) a3)
set_option maxHeartbeats 1000000 in
theorem A4 (B:World) (h:ax) (g:GH) (hg:bl g h) (Y:bq g) (a:gu) (c3:Value) (c4:av g 39 mu c3 a.bZ) (c5:Value) (c6:av g 45 dh c5 a.cJ) (c8:Value) (c9:av g 85 nI c8 a.cr) (da:Value) (db:av g 45 dh da a.aT) (dc:Value) (dd:av g 101 n_ dc a.bL) (b:gu) (df:Value) (dg:av g 39 mu df b.bZ) (dj:Value) (dk:av g 45 dh dj b.cJ) (dl:Value) (dp:av g 85 nI dl b.cr) (dq:Value) (du:av g 45 dh dq b.aT) (dv:Value) (dC:av g 101 n_ dv b.bL) (h1:(a.bZ.length≤1000000∧∀n∈a.bZ,n.Data.length≤1000000000)∧a.cJ.length≤1000000∧a.cr.length≤1000000∧a.aT.length≤1000000∧a.bL.length≤1000000∧∀x∈a.bL,x.Data.length≤1000000000):
  aE prog B 39 #[.agg #[vI a.aX,vI a.aZ,c3,c5,c8,da,dc],.agg #[vI b.aX,vI b.aZ,df,dj,dl,dq,dv]] h g [] (fun eA g' L'=>eA=.bool (decide (a=b))∧g'=g∧L'=[]):=by
 obtain⟨a3,a4,rfl⟩:=c4.aj
 obtain⟨a5,a6,rfl⟩:=c6.aj
 obtain⟨a7,a8,rfl⟩:=c9.aj
 obtain⟨a9,bc,rfl⟩:=db.aj
 obtain⟨ab,U,rfl⟩:=dd.aj
 obtain⟨bd,be,rfl⟩:=dg.aj
 obtain⟨bi,bj,rfl⟩:=dk.aj
 obtain⟨bk,bm,rfl⟩:=dp.aj
 obtain⟨bo,bt,rfl⟩:=du.aj
 obtain⟨a1,ad,rfl⟩:=dC.aj
 refine aE.aq func39 fun R hR=>?_
 have eB:=St.init hg
 refine At.rg 3 ?_
 refine Op.bx 2 81 0 #[vI a.aX,vI a.aZ,vL a3 a.bZ.length a4,vL a5 a.cJ.length a6,vL a7 a.cr.length a8,vL a9 a.aT.length bc,vL ab a.bL.length U] eB fun G fa eE=>?_
 refine Op.bx 3 81 1 #[vI b.aX,vI b.aZ,vL bd b.bZ.length be,vL bi b.cJ.length bj,vL bk b.cr.length bm,vL bo b.aT.length bt,vL a1 b.bL.length ad] eE fun I fg J=>?_
 refine Op.pg 1 [] ?_
 refine At.rp 53 1 [(8,vP G)] ?_
 refine Op.l1 3 8 9 0 (vI a.aX) (J.ah 1 rfl) ?_
 refine Op.px 1 [(10,vP I)] ?_
 refine Op.l1 3 10 11 0 (vI b.aX) (J.ah 0 rfl) ?_
 refine Op.px 2 [(13,.bool (a.aX != b.aX))] ?_
 refine Op.wb (a.aX != b.aX) 13 (fun dE=>?_) fun dT=>?_
 ·replace dE:=gY dE
  refine Op.pg 2 [(60,.bool true)] ?_
  refine At.bW 60 3 ?_
  exact At.gr 4 1 4 (.bool false) (hR J.drop.drop ⟨(aS (by exact mA (.inl ‹_›))),rfl,rfl⟩)
 replace dT:=jk dT
 refine Op.px 1 [(14,vQ G 1)] ?_
 refine Op.l1 3 14 15 1 (vI a.aZ) (J.ah 1 rfl) ?_
 refine Op.px 1 [(16,vQ I 1)] ?_
 refine Op.l1 3 16 17 1 (vI b.aZ) (J.ah 0 rfl) ?_
 refine Op.px 3 [(20,.bool (a.aZ != b.aZ))] ?_
 refine Op.wb (a.aZ != b.aZ) 20 (fun d0=>?_) fun d1=>?_
 ·replace d0:=gY d0
  refine Op.pg 2 [(60,.bool true)] ?_
  refine At.bW 60 3 ?_
  exact At.gr 4 1 4 (.bool false) (hR J.drop.drop ⟨(aS (by exact mA (.inr (.inl ‹_›)))),rfl,rfl⟩)
 replace d1:=jk d1
 refine Op.px 1 [(21,vQ G 2)] ?_
 refine Op.l1 57 21 22 2 (vL a3 a.bZ.length a4) (J.ah 1 rfl) ?_
 refine Op.px 1 [(23,vQ I 2)] ?_
 refine Op.l1 57 23 24 2 (vL bd b.bZ.length be) (J.ah 0 rfl) ?_
 refine Op.c1 25 (yC _ _ _ J.sub Y _ _ c4 _ _ dg (by(try dsimp only)<;>omega) (by(try dsimp only)<;>exact h1.1.2)) J fun fi ae=>?_
 refine Op.px 3 [(28,.bool (!(decide (a.bZ=b.bZ))))] ?_
 refine Op.wb (!(decide (a.bZ=b.bZ))) 28 (fun d2=>?_) fun d3=>?_
 ·replace d2:=jq (dG d2)
  refine Op.pg 2 [(60,.bool true)] ?_
  refine At.bW 60 3 ?_
  exact At.gr 4 1 4 (.bool false) (hR ae.drop.drop ⟨(aS (by exact mA (.inr (.inr (.inl ‹_›))))),rfl,rfl⟩)
 replace d3:=gp (dH d3)
 refine Op.px 1 [(29,vQ G 3)] ?_
 refine Op.l1 41 29 30 3 (vL a5 a.cJ.length a6) (ae.ah 1 rfl) ?_
 refine Op.px 1 [(31,vQ I 3)] ?_
 refine Op.l1 41 31 32 3 (vL bi b.cJ.length bj) (ae.ah 0 rfl) ?_
 refine Op.c1 33 (xe _ _ _ ae.sub Y _ _ c6 _ _ dk (by(try dsimp only)<;>omega)) ae fun fj am=>?_
 refine Op.px 3 [(36,.bool (!(decide (a.cJ=b.cJ))))] ?_
 refine Op.wb (!(decide (a.cJ=b.cJ))) 36 (fun d4=>?_) fun d5=>?_
 ·replace d4:=jq (dG d4)
  refine Op.pg 2 [(60,.bool true)] ?_
  refine At.bW 60 3 ?_
  exact At.gr 4 1 4 (.bool false) (hR am.drop.drop ⟨(aS (by exact mA (.inr (.inr (.inr (.inl ‹_›)))))),rfl,rfl⟩)
 replace d5:=gp (dH d5)
 refine Op.px 1 [(37,vQ G 4)] ?_
 refine Op.l1 62 37 38 4 (vL a7 a.cr.length a8) (am.ah 1 rfl) ?_
 refine Op.px 1 [(39,vQ I 4)] ?_
 refine Op.l1 62 39 40 4 (vL bk b.cr.length bm) (am.ah 0 rfl) ?_
 refine Op.c1 41 (CT _ _ _ am.sub Y _ _ c9 _ _ dp (by(try dsimp only)<;>omega)) am fun fl ar=>?_
 refine Op.px 3 [(44,.bool (!(decide (a.cr=b.cr))))] ?_
 refine Op.wb (!(decide (a.cr=b.cr))) 44 (fun d6=>?_) fun d7=>?_
 ·replace d6:=jq (dG d6)
  refine Op.pg 2 [(60,.bool true)] ?_
  refine At.bW 60 3 ?_
  exact At.gr 4 1 4 (.bool false) (hR ar.drop.drop ⟨(aS (by exact mA (.inr (.inr (.inr (.inr (.inl ‹_›))))))),rfl,rfl⟩)
 replace d7:=gp (dH d7)
 refine Op.px 1 [(45,vQ G 5)] ?_
 refine Op.l1 41 45 46 5 (vL a9 a.aT.length bc) (ar.ah 1 rfl) ?_
 refine Op.px 1 [(47,vQ I 5)] ?_
 refine Op.l1 41 47 48 5 (vL bo b.aT.length bt) (ar.ah 0 rfl) ?_
 refine Op.c1 49 (xe _ _ _ ar.sub Y _ _ db _ _ du (by(try dsimp only)<;>omega)) ar fun fp aw=>?_
 refine Op.px 3 [(52,.bool (!(decide (a.aT=b.aT))))] ?_
 refine Op.wb (!(decide (a.aT=b.aT))) 52 (fun d8=>?_) fun d9=>?_
 ·replace d8:=jq (dG d8)
  refine Op.pg 2 [(60,.bool true)] ?_
  refine At.bW 60 3 ?_
  exact At.gr 4 1 4 (.bool false) (hR aw.drop.drop ⟨(aS (by exact mA (.inr (.inr (.inr (.inr (.inr (.inl ‹_›)))))))),rfl,rfl⟩)
 replace d9:=gp (dH d9)
 refine Op.px 1 [(53,vQ G 6)] ?_
 refine Op.l1 65 53 54 6 (vL ab a.bL.length U) (aw.ah 1 rfl) ?_
 refine Op.px 2 [(55,vI (a.bL.length:Int)),(56,vQ I 6)] ?_
 refine Op.l1 65 56 57 6 (vL a1 b.bL.length ad) (aw.ah 0 rfl) ?_
 refine Op.pg 2 [(60,.bool ((a.bL.length:Int) != (b.bL.length:Int)))] ?_
 refine At.fn ((a.bL.length:Int)=(b.bL.length:Int)) 60 3 5 (fun fr=>?_) fun ft=>?_
 ·exact At.gr 4 1 4 (.bool false) (hR aw.drop.drop ⟨(aS (by exact CQ ‹_›)),rfl,rfl⟩)
 refine At.go 6 1 [(5,vI 0)] ?_
 have eI:∀(m:Nat) (i:Int) (b3:ax) (hm:a.bL.length-i.toNat<m) (h0:0≤i) (h2:i≤a.bL.length) (hl:(a.bL.length:Int)=b.bL.length) (ht:a.bL.take i.toNat=b.bL.take i.toNat) (e1:a.aX=b.aX) (e2:a.aZ=b.aZ) (e3:a.bZ=b.bZ) (b4:a.cJ=b.cJ) (b5:a.cr=b.cr) (b6:a.aT=b.aT) (V:St h g (aV []) g [[(I,Obj.cells #[vI b.aX,vI b.aZ,vL bd b.bZ.length be,vL bi b.cJ.length bj,vL bk b.cr.length bm,vL bo b.aT.length bt,vL a1 b.bL.length ad] 81 (0,0))],[(G,Obj.cells #[vI a.aX,vI a.aZ,vL a3 a.bZ.length a4,vL a5 a.cJ.length a6,vL a7 a.cr.length a8,vL a9 a.aT.length bc,vL ab a.bL.length U] 81 (0,0))]] b3),At (bX prog B 39 f39 R) [] 6 [(2,vP G),(3,vP I),(5,vI i)] b3:=by
  intro m;induction m with
  |zero=>intros;omega
  |succ m eJ=>
   intro i b3 hm h0 h2 hl ht e1 e2 e3 b4 b5 b6 V
   refine At.rp 5 2 [(61,vI i),(62,vQ G 6)] ?_
   refine Op.l1 65 62 63 6 (vL ab a.bL.length U) (V.ah 1 rfl) ?_
   refine Op.pg 7 [(65,.bool (decide (i<(a.bL.length:Int))))] ?_
   refine At.fd (i<(a.bL.length:Int)) 65 8 15 (fun fv=>?_) fun fw=>?_
   ·refine At.rp 7 1 [(68,vQ G 6)] ?_
    refine Op.l1 65 68 69 6 (vL ab a.bL.length U) (V.ah 1 rfl) ?_
    refine Op.px 1 [(70,vI i)] ?_
    obtain⟨u,X⟩:=cG a.bL i
    obtain⟨eK,ed,fx,f0,eL,eQ,b8⟩:=av.bF dd _ X
    cases eL
    refine Op.iq 65 101 3 40 a.bL.length U 69 70 71 eK ed i ?_
    obtain⟨f1,ee,b8⟩:=b8
    obtain⟨ca,cb,rfl⟩:=ee.aj
    refine Op.la 101 71 72 (ed+i.toNat*3) 3 [vI u.Client,vI u.bn,vL ca u.Data.length cb] (V.sub _ _ eQ) ?_ (hv:=b8)
    refine Op.al 6 101 #[vI 0,vI 0,vN] V fun ce f2 e4=>?_
    refine Op.sg 101 6 72 0 0 #[vI u.Client,vI u.bn,vL ca u.Data.length cb] e4 (fun _=>trivial) fun f3 cf=>?_
    refine Op.gt 9 ?_
    refine At.rp 7 1 [(73,vQ I 6)] ?_
    refine Op.l1 65 73 74 6 (vL a1 b.bL.length ad) (cf.ah 1 rfl) ?_
    refine Op.px 1 [(75,vI i)] ?_
    obtain⟨D,a0⟩:=cG b.bL i
    obtain⟨e5,ef,f4,f5,e6,e7,ch⟩:=av.bF dC _ a0
    cases e6
    refine Op.iq 65 101 3 40 b.bL.length ad 74 75 76 e5 ef i ?_
    obtain⟨f6,eh,ch⟩:=ch
    obtain⟨ci,ck,rfl⟩:=eh.aj
    refine Op.la 101 76 77 (ef+i.toNat*3) 3 [vI D.Client,vI D.bn,vL ci D.Data.length ck] (cf.sub _ _ e7) ?_ (hv:=ch)
    refine Op.al 7 101 #[vI 0,vI 0,vN] cf fun co f7 e8=>?_
    refine Op.sg 101 7 77 0 0 #[vI D.Client,vI D.bn,vL ci D.Data.length ck] e8 (fun _=>trivial) fun f8 O=>?_
    refine Op.gt 10 ?_
    refine At.rp 20 1 [(78,vP ce)] ?_
    refine Op.l1 3 78 79 0 (vI u.Client) (O.ah 1 rfl) ?_
    refine Op.px 1 [(80,vP co)] ?_
    refine Op.l1 3 80 81 0 (vI D.Client) (O.ah 0 rfl) ?_
    refine Op.px 2 [(83,.bool (u.Client != D.Client))] ?_
    refine Op.wb (u.Client != D.Client) 83 (fun ej=>?_) fun em=>?_
    ·replace ej:=gY ej
     refine Op.pg 11 [(97,.bool true)] ?_
     refine At.bW 97 12 ?_
     exact At.gr 13 1 4 (.bool false) (hR O.drop.drop.drop.drop ⟨(aS (by exact vO X a0 (.inl ‹_›))),rfl,rfl⟩)
    replace em:=jk em
    refine Op.px 1 [(84,vQ ce 1)] ?_
    refine Op.l1 3 84 85 1 (vI u.bn) (O.ah 1 rfl) ?_
    refine Op.px 1 [(86,vQ co 1)] ?_
    refine Op.l1 3 86 87 1 (vI D.bn) (O.ah 0 rfl) ?_
    refine Op.px 3 [(90,.bool (u.bn != D.bn))] ?_
    refine Op.wb (u.bn != D.bn) 90 (fun en=>?_) fun ep=>?_
    ·replace en:=gY en
     refine Op.pg 11 [(97,.bool true)] ?_
     refine At.bW 97 12 ?_
     exact At.gr 13 1 4 (.bool false) (hR O.drop.drop.drop.drop ⟨(aS (by exact vO X a0 (.inr (.inl ‹_›)))),rfl,rfl⟩)
    replace ep:=jk ep
    refine Op.px 1 [(91,vQ ce 2)] ?_
    refine Op.l1 22 91 92 2 (vL ca u.Data.length cb) (O.ah 1 rfl) ?_
    refine Op.px 1 [(93,vQ co 2)] ?_
    refine Op.l1 22 93 94 2 (vL ci D.Data.length ck) (O.ah 0 rfl) ?_
    refine Op.c1 95 (tM _ _ _ O.sub Y _ _ ee _ _ eh (by((try dsimp only)<;>(exact h1.2.2.2.2.2 _ (cj X))))) O fun f9 er=>?_
    refine Op.pg 11 [(97,.bool (!(decide (u.Data=D.Data))))] ?_
    refine At.di (!(decide (u.Data=D.Data))) 97 12 14 (fun et=>?_) fun ex=>?_
    ·replace et:=jq (dG et)
     exact At.gr 13 1 4 (.bool false) (hR er.drop.drop.drop.drop ⟨(aS (by exact vO X a0 (.inr (.inr ‹_›)))),rfl,rfl⟩)
    replace ex:=gp (dH ex)
    refine At.rp 3 1 [(66,vI i)] ?_
    refine Op.vq 67 (i+1) ?_
    refine Op.pg 6 [(5,vI (i+1))] ?_
    have e9:=er.drop.drop
    exact At.ke (eJ (i+1) _ (by omega) (by omega) (by omega) (by exact hl) (by exact qp ht h0 X a0 (CR ‹_› ‹_› ‹_›)) (by exact e1) (by exact e2) (by exact e3) (by exact b4) (by exact b5) (by exact b6) e9)
   exact At.gr 16 1 4 (.bool true) (hR V.drop.drop ⟨(aS (by exact CS e1 e2 e3 b4 b5 b6 hl ht ‹_›)),rfl,rfl⟩)
 exact At.ke (eI _ 0 _ (bM _) (by omega) (by omega) ‹_› (by rfl) ‹_› ‹_› ‹_› ‹_› ‹_› ‹_› aw)
end Go.Proofs.YtceekbnihfckeaaGreatDoor.Sw
namespace Go.Proofs.YtceekbnihfckeaaGreatDoor.Sw
open Go.Proofs.Tryz
open Go
set_option maxRecDepth 100000
set_option linter.unusedVariables false
set_option linter.unusedSimpArgs false
set_option linter.deprecated false
theorem nJ {l:List aH} (h:fN l=false):∀x∈l,cq x.Op≤3000∧(jE x.Op:Int)≤4∧x.cS.length≤2000:=fun x hx=>by
  unfold fN at h
  rw[Dz] at h
  have:=h x hx
  unfold stepG jH at this
  simp only[jh,cQ,qt] at this
  have h2:=uh x.Op 3000 3 (by decide) (by omega)
  omega
set_option maxHeartbeats 4000000 in
theorem TW (B:World) (h:ax) (g:GH) (hg:bl g h) (u:bq g) (f8:Value) (list:List aH) (eh:av g 71 iD f8 list) (x:aH) (f9:Value) (D:av g 5 br f9 x.Op.Data) (gc:Value) (G:av g 25 ek gc x.Op.az) (ge:Value) (I:av g 5 br ge x.cS) (bc:Int) (hP:lZ g) (hl:list.length≤1048576) (ho:∀z∈list,cq z.Op≤2000000∧z.cS.length≤2000000) (hx:cq x.Op≤2000000∧x.cS.length≤2000000):
  aE prog B 6 #[f8,.agg #[vI x.Client,vI x.bn,vI x.aX,vI x.Op.Kind,vS x.Op.af,f9,vI x.Op.ai,vI x.Op.aF,.bool x.Op.aY,.bool x.Op.aI,.bool x.Op.ak,gc,ge],vI bc] h g [] (fun h6 g' L'=>h6=.bool true∧L'=[]):=by
 obtain⟨h7,h8,rfl⟩:=eh.aj
 obtain⟨am,ar,rfl⟩:=D.aj
 obtain⟨aw,a0,rfl⟩:=G.aj
 obtain⟨a1,a3,rfl⟩:=I.aj
 refine aE.aq func6 fun R hR=>?_
 have ib:=St.init hg
 refine At.rg 2 ?_
 refine Op.bx 4 71 1 #[vI x.Client,vI x.bn,vI x.aX,vI x.Op.Kind,vS x.Op.af,vL am x.Op.Data.length ar,vI x.Op.ai,vI x.Op.aF,.bool x.Op.aY,.bool x.Op.aI,.bool x.Op.ak,vL aw x.Op.az.length a0,vL a1 x.cS.length a3] ib fun db m9 gg=>?_
 refine Op.pg 1 [] ?_
 refine At.rg 2 ?_
 refine Op.c0 (some 18) (yY _ _ _ gg.sub u hP) gg ?_
 rintro _ na _ nb dc gk ⟨rfl,rfl⟩
 replace u:=u.mono dc
 replace hP:=hP.mono dc
 replace eh:=eh.mono dc
 replace G:=G.mono dc
 replace I:=I.mono dc
 replace D:=D.mono dc
 refine Op.pg 2 [(19,.bool false)] ?_
 refine At.dK 19 5 ?_
 refine At.rp 3 1 [(20,vL h7 list.length h8)] ?_
 refine Op.c0 (some 21) (vM _ _ _ gk.sub u _ _ eh (by(try dsimp only)<;>omega)) gk ?_
 rintro _ ih _ nd d5 gn ⟨nf,rfl,ca,rfl⟩
 obtain⟨a31,c5,rfl⟩:=ca.aj
 replace u:=u.mono d5
 replace hP:=hP.mono d5
 replace G:=G.mono d5
 replace I:=I.mono d5
 replace D:=D.mono d5
 refine Op.pg 6 [(0,vL a31 ((list.take 60).length) c5)] ?_
 refine At.rp 7 1 [(22,vL a31 ((list.take 60).length) c5)] ?_
 refine Op.c1 23 (uk _ _ _ gn.sub u _ _ ca (by((try dsimp only)<;>((have h9:=cP list;omega)))) (by((try dsimp only)<;>(exact fun q hq=>(by have:=ho q (yZ hq);omega))))) gn fun nm e7=>?_
 refine Op.px 1 [(24,.bool (fN (list.take 60)))] ?_
 refine Op.wb (fN (list.take 60)) 24 (fun nn=>?_) fun no=>?_
 ·refine Op.pg 7 [(28,.bool true)] ?_
  refine At.bW 28 8 ?_
  exact At.gr 9 1 6 (.bool true) (hR e7.drop ⟨(aS (by rfl)),rfl⟩)
 refine Op.la 71 4 25 0 13 [vI x.Client,vI x.bn,vI x.aX,vI x.Op.Kind,vS x.Op.af,vL am x.Op.Data.length ar,vI x.Op.ai,vI x.Op.aF,.bool x.Op.aY,.bool x.Op.aI,.bool x.Op.ak,vL aw x.Op.az.length a0,vL a1 x.cS.length a3] (e7.ah 0 rfl) ?_
 refine Op.ls 26 1 71 #[vI x.Client,vI x.bn,vI x.aX,vI x.Op.Kind,vS x.Op.af,vL am x.Op.Data.length ar,vI x.Op.ai,vI x.Op.aF,.bool x.Op.aY,.bool x.Op.aI,.bool x.Op.ak,vL aw x.Op.az.length a0,vL a1 x.cS.length a3] e7 fun d6 np ej=>?_
 have ii:aJ 71 iD ih (vL (some ⟨d6,0,none⟩) 1 1) [x] [(d6,Obj.cells #[vI x.Client,vI x.bn,vI x.aX,vI x.Op.Kind,vS x.Op.af,vL am x.Op.Data.length ar,vI x.Op.ai,vI x.Op.aF,.bool x.Op.aY,.bool x.Op.aI,.bool x.Op.ak,vL aw x.Op.az.length a0,vL a1 x.cS.length a3] 71 (0,0))]:=aJ.lit (by kernel_rfl) (by unfold maxLen;decide) (by kernel_rfl) ⟨_,_,rfl,⟨_,_,_,D,G,I,rfl⟩,Reads.nil⟩
 have ik:=ej.gz
 have il:=ii.fY ej
 refine Op.le (some 27) 0 ej (uk _ _ _ ej.iO (u.mono ik) _ _ il (by((try dsimp only)<;>((simp;done)))) (by((try dsimp only)<;>(exact fun q hq=>(by rw[iw.1 hq];omega))))) (fun _ _ _ hp=>by obtain⟨_,a4,_⟩:=hp;exact a4) ?_ (hM:=(fun _ _ h=>absurd h (dB _)))
 rintro _ _ nu e8 ⟨rfl,a4,rfl⟩;clear a4
 refine Op.pg 7 [(28,.bool (fN ([x])))] ?_
 refine At.di (fN ([x])) 28 8 10 (fun nx=>?_) fun nz=>?_
 ·exact At.gr 9 1 6 (.bool true) (hR e8.drop.drop ⟨(aS (by rfl)),rfl⟩)
 refine At.rg 2 ?_
 refine Op.c0 (some 29) (xm _ _ _ e8.sub u) e8 ?_
 rintro _ io _ n0 dd ip ⟨ae,n3,rfl,is,rfl⟩
 replace u:=u.mono dd
 replace hP:=hP.mono dd
 replace G:=G.mono dd
 replace I:=I.mono dd
 replace D:=D.mono dd
 replace ca:=ca.mono dd
 refine Op.pg 11 [(7,vP ae)] ?_
 refine At.go 12 2 [(31,.bool false)] ?_
 refine At.dK 31 15 ?_
 refine At.go 16 1 [(8,vI 0)] ?_
 have iv:∀(m:Nat) (d7:GH) (cb:aM io d7) (y:Sp) (i:Int) (e9:ay) (fa:ax) (hm:(list.take 60).length-i.toNat<m) (h0:0≤i) (h1:i≤(list.take 60).length) (hK:ec i y) (bd:cu d7 ae y e9) (b6:St h g (aV []) d7 [e9,[(d6,Obj.cells #[vI x.Client,vI x.bn,vI x.aX,vI x.Op.Kind,vS x.Op.af,vL am x.Op.Data.length ar,vI x.Op.ai,vI x.Op.aF,.bool x.Op.aY,.bool x.Op.aI,.bool x.Op.ak,vL aw x.Op.az.length a0,vL a1 x.cS.length a3] 71 (0,0))],[(db,Obj.cells #[vI x.Client,vI x.bn,vI x.aX,vI x.Op.Kind,vS x.Op.af,vL am x.Op.Data.length ar,vI x.Op.ai,vI x.Op.aF,.bool x.Op.aY,.bool x.Op.aI,.bool x.Op.ak,vL aw x.Op.az.length a0,vL a1 x.cS.length a3] 71 (0,0))]] fa),At (bX prog B 6 f6 R) [] 16 [(0,vL a31 ((list.take 60).length) c5),(2,vI bc),(4,vP db),(7,vP ae),(8,vI i)] fa:=by
  intro m;induction m with
  |zero=>intros;omega
  |succ m i0=>
   intro d7 cb y i e9 fa hm h0 h1 hK bd b6
   replace u:=u.mono cb
   replace hP:=hP.mono cb
   replace G:=G.mono cb
   replace I:=I.mono cb
   replace D:=D.mono cb
   replace ca:=ca.mono cb
   refine At.go 17 4 [(35,.bool (decide (i<((list.take 60).length:Int))))] ?_
   refine At.fd (i<((list.take 60).length:Int)) 35 18 20 (fun oi=>?_) fun oj=>?_
   ·refine At.dw (fun _=>False) [(0,true),(1,true),(2,true),(3,true),(6,true),(7,true),(8,true),(4,true),(9,true),(5,false),(10,false),(1011,false),(11,false)] ?_
    refine Op.px 3 [(38,vP ae),(39,vL a31 ((list.take 60).length) c5),(40,vI i)] ?_
    obtain⟨J,d8⟩:=cG (list.take 60) i
    obtain⟨fg,d9,ol,or,i1,c6,fi⟩:=av.bF ca _ d8
    cases i1
    refine Op.iq 52 71 13 144 ((list.take 60).length) c5 39 40 41 fg d9 i ?_
    obtain⟨v76,o3,o4,gs,g1,g2,fi⟩:=fi
    obtain⟨i2,i3,rfl⟩:=gs.aj
    obtain⟨i4,i5,rfl⟩:=g1.aj
    obtain⟨i6,i7,rfl⟩:=g2.aj
    refine Op.px 2 [(44,vL (some ⟨fg,d9,none⟩) ((list.take 60).length) c5),(45,vI i)] ?_
    obtain⟨pa,pb,pc,pd,i8,c8,fj⟩:=av.bF ca _ d8
    cases i8
    refine Op.iq 52 71 13 144 ((list.take 60).length) c5 44 45 46 fg d9 i ?_
    obtain⟨pf,ph,pj,em,en,ep,fj⟩:=fj
    obtain⟨i9,jf,rfl⟩:=em.aj
    obtain⟨a105,jj,rfl⟩:=en.aj
    obtain⟨jn,jt,rfl⟩:=ep.aj
    refine Op.iU (T:=71) (x:=41) (o:=d9+i.toNat*13) (d:=42) (n:=13) (vs:=[vI J.Client,vI J.bn,vI J.aX,vI J.Op.Kind,vS J.Op.af,vL i2 J.Op.Data.length i3,vI J.Op.ai,vI J.Op.aF,.bool J.Op.aY,.bool J.Op.aI,.bool J.Op.ak,vL i4 J.Op.az.length i5,vL i6 J.cS.length i7]) (by kernel_rfl) (by kernel_rfl) (by kernel_rfl) (fun h=>h) (b6.sub _ _ c6) fi rfl ?_
    refine Op.iU (T:=71) (x:=46) (o:=d9+i.toNat*13) (d:=47) (n:=13) (vs:=[vI J.Client,vI J.bn,vI J.aX,vI J.Op.Kind,vS J.Op.af,vL i9 J.Op.Data.length jf,vI J.Op.ai,vI J.Op.aF,.bool J.Op.aY,.bool J.Op.aI,.bool J.Op.ak,vL a105 J.Op.az.length jj,vL jn J.cS.length jt]) (by kernel_rfl) (by kernel_rfl) (by kernel_rfl) (fun h=>h) (b6.sub _ _ c8) fj rfl ?_
    refine Op.c0 (some 43) (uo _ _ _ b6.sub u J _ gs _ g1 _ g2) b6 ?_
    rintro _ pl _ pm ce g3 ⟨po,rfl,er,rfl⟩
    obtain⟨pu,pv,rfl⟩:=er.aj
    replace c6:=ce _ _ c6
    replace c8:=ce _ _ c8
    replace u:=u.mono ce
    replace hP:=hP.mono ce
    replace en:=en.mono ce
    replace ep:=ep.mono ce
    replace em:=em.mono ce
    replace bd:=bd.mono ce
    refine Op.c0 (some 48) (vU _ _ _ g3.sub u J _ em _ en _ ep (by((try dsimp only)<;>((have h9:=(nJ (show fN (list.take 60)=false by assumption) _ (cj d8));omega)))) (by((try dsimp only)<;>((have h9:=(nJ (show fN (list.take 60)=false by assumption) _ (cj d8));omega))))) g3 ?_
    rintro _ pw _ py df fl ⟨pA,rfl,g4,rfl⟩
    obtain⟨pB,pC,rfl⟩:=g4.aj
    replace c6:=df _ _ c6
    replace c8:=df _ _ c8
    replace u:=u.mono df
    replace hP:=hP.mono df
    replace er:=er.mono df
    replace bd:=bd.mono df
    refine Op.ba ?_
    refine Op.cl (some 49) 1 fl (pR _ _ _ fl.sub u ae y _ bd (aW J) _ er _ _ g4 hP (by((try dsimp only)<;>(exact hK.ok.wk (by have h9:=cP list;omega)))) (by((try dsimp only)<;>(exact bQ (vV (nJ (show fN (list.take 60)=false by assumption) _ (cj d8)).2.2) (by decide)))) (by((try dsimp only)<;>(exact hK.ct (by have h9:=cP list;omega)))) (by(try dsimp only)<;>exact hK.fD) (by((try dsimp only)<;>(exact pS hK h0 (by have h9:=cP list;omega)))) (St.pt 1 fl)) ?_
    rintro _ pD _ p0 fp j1 ⟨v127,p1,p2,rfl,j2,kc,rfl⟩
    obtain⟨p3,p8,rfl⟩:=j2.aj
    replace c6:=fp _ _ c6
    replace c8:=fp _ _ c8
    replace hP:=hP.mono fp
    refine Op.gt 19 ?_
    refine At.rp 3 1 [(36,vI i)] ?_
    refine Op.cE 37 (i+1) (by omega) (by(have h9:=cP list;omega)) ?_
    refine Op.pg 16 [(8,vI (i+1))] ?_
    have kd:=(j1.aa 0 rfl).aa 1 rfl
    have kh:=kd.drop
    exact At.ke (i0 _ (aM.trans cb (by repeat (first|assumption|apply aM.trans))) (bD y (aW J) (bC J)) (i+1) _ _ (by omega) (by omega) (by omega) (by exact(hK.iX h0 (by have h9:=cP list;omega))) kc kh)
   have kk:∀(m:Nat) (ed:GH) (dg:aM d7 ed) (z:Sp) (fb:an) (fn:Bool) (a138:Option Addr) (ee:Nat) (c9:ay) (fr:ay) (ft:ax) (hm:0<m) (hz:z=bD y (aW x) (bC x)) (g5:fb=bh y (aW x) (bC x)) (hfn:fn=dQ y (aW x)) (a5:ec (i+1) z) (X:aJ 5 br ed (.slice a138 fb.length ee) fb c9) (g6:cu ed ae z fr) (g7:St h g (aV []) ed [c9,fr,[(d6,Obj.cells #[vI x.Client,vI x.bn,vI x.aX,vI x.Op.Kind,vS x.Op.af,vL am x.Op.Data.length ar,vI x.Op.ai,vI x.Op.aF,.bool x.Op.aY,.bool x.Op.aI,.bool x.Op.ak,vL aw x.Op.az.length a0,vL a1 x.cS.length a3] 71 (0,0))],[(db,Obj.cells #[vI x.Client,vI x.bn,vI x.aX,vI x.Op.Kind,vS x.Op.af,vL am x.Op.Data.length ar,vI x.Op.ai,vI x.Op.aF,.bool x.Op.aY,.bool x.Op.aI,.bool x.Op.ak,vL aw x.Op.az.length a0,vL a1 x.cS.length a3] 71 (0,0))]] ft),At (bX prog B 6 f6 R) [] 21 [(2,vI bc),(4,vP db),(7,vP ae),(9,vL a138 fb.length ee),(10,.bool fn)] ft:=by
    intro m;induction m with
    |zero=>intros;omega
    |succ m qr=>
     intro ed dg z fb fn a138 ee c9 fr ft hm hz g5 hfn a5 X g6 g7
     replace u:=u.mono dg
     replace hP:=hP.mono dg
     replace G:=G.mono dg
     replace I:=I.mono dg
     replace D:=D.mono dg
     refine At.rp 4 1 [(59,vP ae)] ?_
     have fv:=(g7.aa 0 rfl).aa 1 rfl
     refine Op.cl (some 60) 1 fv (pT _ _ _ fv.sub u ae z _ g6 (by((try dsimp only)<;>(exact a5.ok.pU (by have h9:=cP list;omega)))) (St.pt 1 fv)) ?_
     rintro _ q0 _ q1 dj kl ⟨q2,q3,q4,q5,q6,ra,rb,rc,rd,re,rf,rfl,g8,et,dk,cf,b3,a7,rfl⟩
     obtain⟨ex,eA,rfl⟩:=g8.aj
     obtain⟨eB,eE,rfl⟩:=et.aj
     obtain⟨eI,eJ,rfl⟩:=dk.aj
     obtain⟨eK,n169,rfl⟩:=cf.aj
     obtain⟨a173,eL,rfl⟩:=b3.aj
     replace X:=X.mono dj
     replace u:=u.mono dj
     replace hP:=hP.mono dj
     replace G:=G.mono dj
     replace I:=I.mono dj
     replace D:=D.mono dj
     refine Op.al 11 81 #[vI 0,vI 0,vN,vN,vN,vN,vN] kl fun g9 rh km=>?_
     refine Op.sg 81 11 60 0 0 #[vI ((aP z).aX),vI ((aP z).aZ),vL ex (((aP z).bZ).length) eA,vL eB (((aP z).cJ).length) eE,vL eI (((aP z).cr).length) eJ,vL eK (((aP z).aT).length) n169,vL a173 (((aP z).bL).length) eL] km (fun _=>trivial) fun rk kv=>?_
     refine Op.gt 22 ?_
     obtain⟨rn,kw,be,O⟩:=aJ.freeze g8 (kv.aa 2 rfl)
     replace X:=X.mono be
     replace et:=et.mono be
     replace dk:=dk.mono be
     replace cf:=cf.mono be
     replace b3:=b3.mono be
     replace u:=u.mono be
     replace hP:=hP.mono be
     replace G:=G.mono be
     replace I:=I.mono be
     replace D:=D.mono be
     replace a7:=a7.mono be
     obtain⟨rr,kx,bi,U⟩:=aJ.freeze et (kw.aa 2 rfl)
     replace X:=X.mono bi
     replace dk:=dk.mono bi
     replace cf:=cf.mono bi
     replace b3:=b3.mono bi
     replace u:=u.mono bi
     replace hP:=hP.mono bi
     replace G:=G.mono bi
     replace I:=I.mono bi
     replace D:=D.mono bi
     replace O:=O.mono bi
     replace a7:=a7.mono bi
     obtain⟨rv,kA,bj,V⟩:=aJ.freeze dk (kx.aa 2 rfl)
     replace X:=X.mono bj
     replace cf:=cf.mono bj
     replace b3:=b3.mono bj
     replace u:=u.mono bj
     replace hP:=hP.mono bj
     replace G:=G.mono bj
     replace I:=I.mono bj
     replace D:=D.mono bj
     replace O:=O.mono bj
     replace U:=U.mono bj
     replace a7:=a7.mono bj
     obtain⟨rx,k0,bk,Y⟩:=aJ.freeze cf (kA.aa 2 rfl)
     replace X:=X.mono bk
     replace b3:=b3.mono bk
     replace u:=u.mono bk
     replace hP:=hP.mono bk
     replace G:=G.mono bk
     replace I:=I.mono bk
     replace D:=D.mono bk
     replace O:=O.mono bk
     replace U:=U.mono bk
     replace V:=V.mono bk
     replace a7:=a7.mono bk
     obtain⟨he,k1,bm,ad⟩:=aJ.freeze b3 (k0.aa 2 rfl)
     replace X:=X.mono bm
     replace u:=u.mono bm
     replace hP:=hP.mono bm
     replace G:=G.mono bm
     replace I:=I.mono bm
     replace D:=D.mono bm
     replace O:=O.mono bm
     replace U:=U.mono bm
     replace V:=V.mono bm
     replace Y:=Y.mono bm
     replace a7:=a7.mono bm
     obtain⟨hf,a8⟩:=St.freeze (k1.aa 0 rfl)
     have ab:=iN (g:=he) g9 (.cells #[vI ((aP z).aX),vI ((aP z).aZ),vL ex (((aP z).bZ).length) eA,vL eB (((aP z).cJ).length) eE,vL eI (((aP z).cr).length) eJ,vL eK (((aP z).aT).length) n169,vL a173 (((aP z).bL).length) eL] 81 (0,0))
     generalize k2:dy he _=k3 at hf a8 ab;clear k2
     replace X:=X.mono a8
     replace u:=u.mono a8
     replace hP:=hP.mono a8
     replace G:=G.mono a8
     replace I:=I.mono a8
     replace D:=D.mono a8
     replace O:=O.mono a8
     replace U:=U.mono a8
     replace V:=V.mono a8
     replace Y:=Y.mono a8
     replace ad:=ad.mono a8
     replace a7:=a7.mono a8
     refine At.go 23 1 [(12,vI 0)] ?_
     have k4:∀(m:Nat) (eQ:GH) (a6:aM k3 eQ) (w:Sp) (q:Int) (fw:ay) (fx:ax) (hm:(gG bc 3-q).toNat<m) (h4:0≤q) (hw:w=z) (bo:cu eQ ae w fw) (ch:St h g (aV []) eQ [fw,c9,[(d6,Obj.cells #[vI x.Client,vI x.bn,vI x.aX,vI x.Op.Kind,vS x.Op.af,vL am x.Op.Data.length ar,vI x.Op.ai,vI x.Op.aF,.bool x.Op.aY,.bool x.Op.aI,.bool x.Op.ak,vL aw x.Op.az.length a0,vL a1 x.cS.length a3] 71 (0,0))],[(db,Obj.cells #[vI x.Client,vI x.bn,vI x.aX,vI x.Op.Kind,vS x.Op.af,vL am x.Op.Data.length ar,vI x.Op.ai,vI x.Op.aF,.bool x.Op.aY,.bool x.Op.aI,.bool x.Op.ak,vL aw x.Op.az.length a0,vL a1 x.cS.length a3] 71 (0,0))]] fx),At (bX prog B 6 f6 R) [] 23 [(2,vI bc),(4,vP db),(7,vP ae),(9,vL a138 fb.length ee),(10,.bool fn),(11,vP g9),(12,vI q)] fx:=by
      intro m;induction m with
      |zero=>intros;omega
      |succ m k5=>
       intro eQ a6 w q fw fx hm h4 hw bo ch
       replace X:=X.mono a6
       replace u:=u.mono a6
       replace hP:=hP.mono a6
       replace G:=G.mono a6
       replace I:=I.mono a6
       replace D:=D.mono a6
       replace O:=O.mono a6
       replace U:=U.mono a6
       replace V:=V.mono a6
       replace Y:=Y.mono a6
       replace ad:=ad.mono a6
       replace ab:=a6 _ _ ab
       refine At.rp 4 2 [(61,vI q),(62,vI bc)] ?_
       refine Op.vl 63 (.int .i64 (IntKind.wrap .i64 (((BitVec.ofInt (IntKind.bits .i64) bc &&& BitVec.ofInt (IntKind.bits .i64) (3:Int)).toNat:Nat):Int))) (.int .i64 (gG bc 3)) rfl ?_
       refine Op.pg 24 [(64,.bool (decide (q<(gG bc 3))))] ?_
       refine At.fd (q<(gG bc 3)) 64 25 31 (fun r0=>?_) fun r1=>?_
       ·refine At.rp 11 1 [(68,vP ae)] ?_
        refine Op.la 71 4 69 0 13 [vI x.Client,vI x.bn,vI x.aX,vI x.Op.Kind,vS x.Op.af,vL am x.Op.Data.length ar,vI x.Op.ai,vI x.Op.aF,.bool x.Op.aY,.bool x.Op.aI,.bool x.Op.ak,vL aw x.Op.az.length a0,vL a1 x.cS.length a3] (ch.ah 3 rfl) ?_
        refine Op.c0 (some 70) (uo _ _ _ ch.sub u x _ D _ G _ I) ch ?_
        rintro _ r2 _ r3 b4 k6 ⟨sc,rfl,e1,rfl⟩
        obtain⟨sd,sf,rfl⟩:=e1.aj
        replace X:=X.mono b4
        replace u:=u.mono b4
        replace hP:=hP.mono b4
        replace O:=O.mono b4
        replace U:=U.mono b4
        replace V:=V.mono b4
        replace Y:=Y.mono b4
        replace ad:=ad.mono b4
        replace bo:=bo.mono b4
        replace ab:=b4 _ _ ab
        refine Op.ls 71 5 5 #[.int .u8 111,.int .u8 116,.int .u8 104,.int .u8 101,.int .u8 114] k6 fun k7 sh k8=>?_
        refine Op.TS (T:=22) (E:=5) (x:=71) (dst:=72) (b:=k7) (n:=5) (cs:=#[.int .u8 111,.int .u8 116,.int .u8 104,.int .u8 101,.int .u8 114]) (xs:=([(111:UInt8),(116:UInt8),(104:UInt8),(101:UInt8),(114:UInt8)]:an)) (by kernel_rfl) (by kernel_rfl) (by kernel_rfl) (by kernel_rfl) rfl k8 ⟨_,_,rfl,rfl,⟨_,_,rfl,rfl,⟨_,_,rfl,rfl,⟨_,_,rfl,rfl,⟨_,_,rfl,rfl,Reads.nil⟩⟩⟩⟩⟩ (fun _=>trivial) fun sk sm bt f0 lc=>?_
        replace X:=X.mono bt
        replace u:=u.mono bt
        replace hP:=hP.mono bt
        replace O:=O.mono bt
        replace U:=U.mono bt
        replace V:=V.mono bt
        replace Y:=Y.mono bt
        replace ad:=ad.mono bt
        replace e1:=e1.mono bt
        replace bo:=bo.mono bt
        replace ab:=bt _ _ ab
        refine Op.cl (some 73) 1 f0 (pR _ _ _ f0.sub u ae w _ bo (aW x) _ e1 _ _ lc hP (by((try dsimp only)<;>((rw[hw];exact a5.ok.wk (by have h9:=cP list;omega))))) (by((try dsimp only)<;>((simp;done)))) (by((try dsimp only)<;>((rw[hw];exact a5.ct (by have h9:=cP list;omega))))) (by((try dsimp only)<;>((rw[hw];exact a5.fD)))) (by((try dsimp only)<;>((rw[hw];exact pS a5 (by omega) (by have h9:=cP list;omega))))) (St.pt 1 f0)) ?_
        rintro _ so _ ss b8 e2 ⟨v233,f1,hh,rfl,hj,lh,rfl⟩
        obtain⟨hn,hr,rfl⟩:=hj.aj
        replace X:=X.mono b8
        replace u:=u.mono b8
        replace hP:=hP.mono b8
        replace O:=O.mono b8
        replace U:=U.mono b8
        replace V:=V.mono b8
        replace Y:=Y.mono b8
        replace ad:=ad.mono b8
        replace ab:=b8 _ _ ab
        refine Op.pg 26 [(13,vL hn ((bh w (aW x) ([(111:UInt8),(116:UInt8),(104:UInt8),(101:UInt8),(114:UInt8)]:an)).length) hr),(14,.bool (dQ w (aW x)))] ?_
        refine At.dw (aV [hh]) [(0,true),(1,true),(2,true),(3,true),(4,false),(5,true),(6,true),(7,true),(8,true),(10,true),(9,false),(11,false),(12,true),(13,true)] ?_
        refine Op.px 2 [(77,.bool (dQ w (aW x)))] ?_
        refine Op.wb (dQ w (aW x)) 77 (fun sA=>?_) fun sB=>?_
        ·refine Op.pg 27 [(89,.bool true)] ?_
         refine At.bW 89 28 ?_
         exact At.gr 29 1 6 (.bool false) (hR e2.drop.drop.drop.drop.drop ⟨(aS (by(subst hw;exact absurd ((yw (b':=[]) hK h0 (by have h9:=cP list;omega) hz).1.symm.trans ‹_›) Bool.false_ne_true))),rfl⟩)
        refine Op.px 2 [(78,vL hn ((bh w (aW x) ([(111:UInt8),(116:UInt8),(104:UInt8),(101:UInt8),(114:UInt8)]:an)).length) hr),(79,vL a138 fb.length ee)] ?_
        have li:=((e2.aa 0 rfl).aa 2 rfl).aa 2 rfl
        have ef:=St.mg 2 li
        have lj:=ef.gz
        have lk:=hj.lH (c:=(f1++c9:ay)) ef (by intro p hp;simp only[dP,hp,iF,iG])
        have ll:=X.lH (c:=(f1++c9:ay)) ef (by intro p hp;simp only[dP,hp,iF,iG])
        refine Op.le (some 80) 0 ef (tM _ _ _ ef.iO (u.mono lj) _ _ lk _ _ ll (by((try dsimp only)<;>((rw[hw];exact A5 a5.ok))))) (fun _ _ _ hp=>by obtain⟨_,a4,_⟩:=hp;exact a4) ?_ (hM:=(fun _ _ h=>absurd h (dB _)))
        rintro _ _ sT lm ⟨rfl,a4,rfl⟩;clear a4
        have hs:=St.sp [f1,c9] lm
        refine Op.px 3 [(83,.bool (!(decide ((bh w (aW x) ([(111:UInt8),(116:UInt8),(104:UInt8),(101:UInt8),(114:UInt8)]:an))=fb))))] ?_
        refine Op.wb (!(decide ((bh w (aW x) ([(111:UInt8),(116:UInt8),(104:UInt8),(101:UInt8),(114:UInt8)]:an))=fb))) 83 (fun hu=>?_) fun hy=>?_
        ·replace hu:=jq (dG hu)
         refine Op.pg 27 [(89,.bool true)] ?_
         refine At.bW 89 28 ?_
         exact At.gr 29 1 6 (.bool false) (hR hs.drop.drop.drop.drop.drop ⟨(aS (by(subst hw;exact absurd ((yw hK h0 (by have h9:=cP list;omega) hz).2.1.trans g5.symm) ‹_›))),rfl⟩)
        replace hy:=gp (dH hy)
        refine Op.px 1 [(84,vP ae)] ?_
        refine Op.iU (T:=81) (x:=11) (o:=0) (d:=86) (n:=7) (vs:=[vI ((aP z).aX),vI ((aP z).aZ),vL ex (((aP z).bZ).length) eA,vL eB (((aP z).cJ).length) eE,vL eI (((aP z).cr).length) eJ,vL eK (((aP z).aT).length) n169,vL a173 (((aP z).bL).length) eL]) (by kernel_rfl) (by kernel_rfl) (by kernel_rfl) (e2.LP (A:=[hh]) (by simp) ab) (e2.sub _ _ ab) (by kernel_rfl) rfl ?_
        have f2:=((hs.aa 1 rfl).aa 1 rfl).aa 2 rfl
        refine Op.cl (some 85) 1 f2 (pT _ _ _ f2.sub u ae (bD w (aW x) ([(111:UInt8),(116:UInt8),(104:UInt8),(101:UInt8),(114:UInt8)]:an)) _ lh (by((try dsimp only)<;>((subst hw;rw[(yw hK h0 (by have h9:=cP list;omega) hz).2.2];exact a5.ok.pU (by have h9:=cP list;omega))))) (St.pt 1 f2)) ?_ (hM:=(fun _ _ h=>oL (by simp) h))
        rintro _ s0 _ s2 ci ln ⟨s3,dl,s4,dp,s8,dq,ta,du,te,dv,th,rfl,hA,hB,hC,hD,hE,lr,rfl⟩
        obtain⟨ti,n263,rfl⟩:=hA.aj
        obtain⟨tk,n268,rfl⟩:=hB.aj
        obtain⟨tl,tm,rfl⟩:=hC.aj
        obtain⟨tp,tt,rfl⟩:=hD.aj
        obtain⟨tx,n283,rfl⟩:=hE.aj
        replace u:=u.mono ci
        replace hP:=hP.mono ci
        replace O:=O.mono ci
        replace U:=U.mono ci
        replace V:=V.mono ci
        replace Y:=Y.mono ci
        replace ad:=ad.mono ci
        replace ab:=ci _ _ ab
        have lv:=(((((ln.aa 0 rfl).aa 5 rfl).aa 5 rfl).aa 5 rfl).aa 5 rfl).aa 5 rfl
        have ck:=St.mg 5 lv
        have dC:=ck.gz
        have lw:=hA.lH (c:=(dl++(dp++(dq++(du++dv))):ay)) ck (by intro p hp;simp only[dP,hp,iF,iG])
        have lx:=hB.lH (c:=(dl++(dp++(dq++(du++dv))):ay)) ck (by intro p hp;simp only[dP,hp,iF,iG])
        have ly:=hC.lH (c:=(dl++(dp++(dq++(du++dv))):ay)) ck (by intro p hp;simp only[dP,hp,iF,iG])
        have lA:=hD.lH (c:=(dl++(dp++(dq++(du++dv))):ay)) ck (by intro p hp;simp only[dP,hp,iF,iG])
        have lL:=hE.lH (c:=(dl++(dp++(dq++(du++dv))):ay)) ck (by intro p hp;simp only[dP,hp,iF,iG])
        refine Op.le (some 87) 0 ck (A4 _ _ _ ck.iO (u.mono dC) (aP (bD w (aW x) ([(111:UInt8),(116:UInt8),(104:UInt8),(101:UInt8),(114:UInt8)]:an))) _ lw _ lx _ ly _ lA _ lL (aP z) _ (O.mono dC) _ (U.mono dC) _ (V.mono dC) _ (Y.mono dC) _ (ad.mono dC) (by((try dsimp only)<;>((subst hw;rw[(yw hK h0 (by have h9:=cP list;omega) hz).2.2];exact jv a5))))) (fun _ _ _ hp=>by obtain⟨_,a4,_⟩:=hp;exact a4) ?_ (hM:=(fun _ _ h=>absurd h (dB _)))
        rintro _ _ tz lO ⟨rfl,a4,rfl⟩;clear a4
        have hF:=St.sp [dl,dp,dq,du,dv] lO
        refine Op.pg 27 [(89,.bool (!(decide ((aP (bD w (aW x) ([(111:UInt8),(116:UInt8),(104:UInt8),(101:UInt8),(114:UInt8)]:an)))=(aP z)))))] ?_
        refine At.di (!(decide ((aP (bD w (aW x) ([(111:UInt8),(116:UInt8),(104:UInt8),(101:UInt8),(114:UInt8)]:an)))=(aP z)))) 89 28 30 (fun hG=>?_) fun hH=>?_
        ·replace hG:=jq (dG hG)
         exact At.gr 29 1 6 (.bool false) (hR hF.drop.drop.drop.drop.drop.drop.drop.drop.drop.drop ⟨(aS (by(subst hw;exact absurd (congrArg aP (yw hK h0 (by have h9:=cP list;omega) hz).2.2) ‹_›))),rfl⟩)
        replace hH:=gp (dH hH)
        refine At.rp 3 1 [(65,vI q)] ?_
        refine Op.cE 66 (q+1) (by omega) (by(have:=FD bc 3;omega)) ?_
        refine Op.pg 23 [(12,vI (q+1))] ?_
        have l0:=((((((hF.aa 5 rfl).aa 6 rfl).aa 6 rfl).aa 6 rfl).aa 6 rfl).aa 6 rfl).aa 6 rfl
        have l2:=l0.drop.drop.drop.drop.drop.drop
        exact At.ke (k5 _ (aM.trans a6 (by repeat (first|assumption|apply aM.trans))) (bD w (aW x) ([(111:UInt8),(116:UInt8),(104:UInt8),(101:UInt8),(114:UInt8)]:an)) (q+1) _ _ (by omega) (by omega) (by(rw[hw];exact(yw hK h0 (by have h9:=cP list;omega) hz).2.2)) lr l2)
       refine At.go 32 2 [(91,.bool (!fn))] ?_
       refine At.di (!fn) 91 33 35 (fun hI=>?_) fun hJ=>?_
       ·replace hI:=(dG hI)
        exact At.gr 34 1 6 (.bool true) (hR ch.drop.drop.drop.drop ⟨(aS (by rfl)),rfl⟩)
       replace hJ:=(dH hJ)
       refine At.rg 4 ?_
       refine Op.la 71 4 92 0 13 [vI x.Client,vI x.bn,vI x.aX,vI x.Op.Kind,vS x.Op.af,vL am x.Op.Data.length ar,vI x.Op.ai,vI x.Op.aF,.bool x.Op.aY,.bool x.Op.aI,.bool x.Op.ak,vL aw x.Op.az.length a0,vL a1 x.cS.length a3] (ch.ah 3 rfl) ?_
       refine Op.c0 (some 93) (uo _ _ _ ch.sub u x _ D _ G _ I) ch ?_
       rintro _ tA _ tB a9 l3 ⟨tR,rfl,e3,rfl⟩
       obtain⟨f3,f4,rfl⟩:=e3.aj
       replace u:=u.mono a9
       replace hP:=hP.mono a9
       replace G:=G.mono a9
       replace I:=I.mono a9
       replace D:=D.mono a9
       replace O:=O.mono a9
       replace U:=U.mono a9
       replace V:=V.mono a9
       replace Y:=Y.mono a9
       replace ad:=ad.mono a9
       replace bo:=bo.mono a9
       replace ab:=a9 _ _ ab
       refine Op.al 15 75 #[vI 0,vI 0,vI 0,vN] l3 fun hL tS l4=>?_
       refine Op.sg 75 15 93 0 0 #[vI ((aW x).Client),vI ((aW x).bn),vI ((aW x).aX),vL f3 (((aW x).kf).length) f4] l4 (fun _=>trivial) fun t0 hN=>?_
       refine Op.gt 36 ?_
       refine At.rp 5 1 [(94,vQ hL 1)] ?_
       refine Op.l1 3 94 95 1 (vI ((aW x).bn)) (hN.ah 0 rfl) ?_
       refine Op.cE 96 (((aW x).bn)-1) (by(have h9:1≤(aW x).bn∧(aW x).bn<1099511627776:=LV (hfn.symm.trans ‹_›);omega)) (by(have h9:1≤(aW x).bn∧(aW x).bn<1099511627776:=LV (hfn.symm.trans ‹_›);omega)) ?_
       refine Op.px 1 [(97,vQ hL 1)] ?_
       refine Op.s1 3 97 96 1 (vI (((aW x).bn)-1)) 0 #[vI ((aW x).Client),vI (((aW x).bn)-1),vI ((aW x).aX),vL f3 (((aW x).kf).length) f4] hN (fun _=>trivial) fun t1 e4=>?_
       refine Op.gt 37 ?_
       refine At.dw (fun _=>False) [(0,true),(1,true),(2,false),(3,false),(1004,false),(4,false),(5,true),(6,true),(7,true),(8,true),(9,true)] ?_
       refine Op.px 1 [(99,vP ae)] ?_
       refine Op.iU (T:=75) (x:=15) (o:=0) (d:=100) (n:=4) (vs:=[vI ((aW x).Client),vI (((aW x).bn)-1),vI ((aW x).aX),vL f3 (((aW x).kf).length) f4]) (by kernel_rfl) (by kernel_rfl) (by kernel_rfl) (fun h=>h) (e4.ah 0 rfl) (by kernel_rfl) rfl ?_
       refine Op.la 71 4 101 0 13 [vI x.Client,vI x.bn,vI x.aX,vI x.Op.Kind,vS x.Op.af,vL am x.Op.Data.length ar,vI x.Op.ai,vI x.Op.aF,.bool x.Op.aY,.bool x.Op.aI,.bool x.Op.ak,vL aw x.Op.az.length a0,vL a1 x.cS.length a3] (e4.ah 4 rfl) ?_
       refine Op.c0 (some 102) (vU _ _ _ e4.sub u x _ D _ G _ I (by(try dsimp only)<;>omega) (by(try dsimp only)<;>omega)) e4 ?_
       rintro _ t2 _ t3 b5 l8 ⟨t4,rfl,hO,rfl⟩
       obtain⟨t5,t6,rfl⟩:=hO.aj
       replace u:=u.mono b5
       replace hP:=hP.mono b5
       replace O:=O.mono b5
       replace U:=U.mono b5
       replace V:=V.mono b5
       replace Y:=Y.mono b5
       replace ad:=ad.mono b5
       replace e3:=e3.mono b5
       replace bo:=bo.mono b5
       replace ab:=b5 _ _ ab
       refine Op.ba ?_
       have f5:=(l8.aa 0 rfl).aa 1 rfl
       refine Op.cl (some 103) 1 f5 (pR _ _ _ f5.sub u ae w _ bo (⟨(aW x).Client,((aW x).bn)-1,(aW x).aX,(aW x).kf⟩:bN) _ e3 _ _ hO hP (by((try dsimp only)<;>((rw[hw];exact a5.ok.wk (by have h9:=cP list;omega))))) (by((try dsimp only)<;>(exact bQ (vV (nJ (show fN [x]=false by assumption) x (by simp)).2.2) (by decide)))) (by((try dsimp only)<;>((rw[hw];exact a5.ct (by have h9:=cP list;omega))))) (by((try dsimp only)<;>((rw[hw];exact a5.fD)))) (by((try dsimp only)<;>((rw[hw];exact pS a5 (by omega) (by have h9:=cP list;omega))))) (St.pt 1 f5)) ?_
       rintro _ t7 _ t8 co da ⟨t9,ub,hQ,rfl,ma,md,rfl⟩
       obtain⟨mf,n337,rfl⟩:=ma.aj
       replace u:=u.mono co
       replace hP:=hP.mono co
       replace O:=O.mono co
       replace U:=U.mono co
       replace V:=V.mono co
       replace Y:=Y.mono co
       replace ad:=ad.mono co
       replace ab:=co _ _ ab
       refine Op.pg 38 [(16,vL mf ((bh w (⟨(aW x).Client,((aW x).bn)-1,(aW x).aX,(aW x).kf⟩:bN) (bC x)).length) n337),(17,.bool (dQ w (⟨(aW x).Client,((aW x).bn)-1,(aW x).aX,(aW x).kf⟩:bN)))] ?_
       refine At.dw (aV [hQ]) [(0,true),(1,true),(2,true),(3,true),(4,true),(5,true),(6,true),(7,true),(8,true),(10,true),(9,false),(11,false),(12,true),(13,true)] ?_
       refine Op.px 3 [(108,.bool (!(dQ w (⟨(aW x).Client,((aW x).bn)-1,(aW x).aX,(aW x).kf⟩:bN))))] ?_
       refine Op.wb (!(dQ w (⟨(aW x).Client,((aW x).bn)-1,(aW x).aX,(aW x).kf⟩:bN))) 108 (fun hS=>?_) fun hT=>?_
       ·replace hS:=(dG hS)
        refine Op.px 5 [(113,.bool (((bh w (⟨(aW x).Client,((aW x).bn)-1,(aW x).aX,(aW x).kf⟩:bN) (bC x)).length:Int)==0))] ?_
        refine Op.wd (((bh w (⟨(aW x).Client,((aW x).bn)-1,(aW x).aX,(aW x).kf⟩:bN) (bC x)).length:Int)=0) 113 (fun ui=>?_) fun ul=>?_
        ·refine Op.px 1 [(114,vP ae)] ?_
         refine Op.iU (T:=81) (x:=11) (o:=0) (d:=116) (n:=7) (vs:=[vI ((aP z).aX),vI ((aP z).aZ),vL ex (((aP z).bZ).length) eA,vL eB (((aP z).cJ).length) eE,vL eI (((aP z).cr).length) eJ,vL eK (((aP z).aT).length) n169,vL a173 (((aP z).bL).length) eL]) (by kernel_rfl) (by kernel_rfl) (by kernel_rfl) (da.LP (A:=[hQ]) (by simp) ab) (da.sub _ _ ab) (by kernel_rfl) rfl ?_
         refine Op.cl (some 115) 1 da (pT _ _ _ da.sub u ae (bD w (⟨(aW x).Client,((aW x).bn)-1,(aW x).aX,(aW x).kf⟩:bN) (bC x)) _ md (by((try dsimp only)<;>((subst hw;rw[(AO hK h0 (by have h9:=cP list;omega) hz (hfn.symm.trans ‹_›)).2.2];exact a5.ok.pU (by have h9:=cP list;omega))))) (St.pt 1 da)) ?_ (hM:=(fun _ _ h=>oL (by simp) h))
         rintro _ us _ ut c3 mi ⟨u1,dE,u2,dT,u3,d0,u4,d1,vd,d2,ve,rfl,hV,hW,hX,hY,hZ,vo,rfl⟩
         obtain⟨vx,vy,rfl⟩:=hV.aj
         obtain⟨v1,v2,rfl⟩:=hW.aj
         obtain⟨v3,v4,rfl⟩:=hX.aj
         obtain⟨v5,v6,rfl⟩:=hY.aj
         obtain⟨v8,v9,rfl⟩:=hZ.aj
         replace u:=u.mono c3
         replace hP:=hP.mono c3
         replace O:=O.mono c3
         replace U:=U.mono c3
         replace V:=V.mono c3
         replace Y:=Y.mono c3
         replace ad:=ad.mono c3
         replace ab:=c3 _ _ ab
         have ml:=(((((mi.aa 0 rfl).aa 5 rfl).aa 5 rfl).aa 5 rfl).aa 5 rfl).aa 5 rfl
         have c4:=St.mg 5 ml
         have d3:=c4.gz
         have mp:=hV.lH (c:=(dE++(dT++(d0++(d1++d2))):ay)) c4 (by intro p hp;simp only[dP,hp,iF,iG])
         have mx:=hW.lH (c:=(dE++(dT++(d0++(d1++d2))):ay)) c4 (by intro p hp;simp only[dP,hp,iF,iG])
         have my:=hX.lH (c:=(dE++(dT++(d0++(d1++d2))):ay)) c4 (by intro p hp;simp only[dP,hp,iF,iG])
         have m0:=hY.lH (c:=(dE++(dT++(d0++(d1++d2))):ay)) c4 (by intro p hp;simp only[dP,hp,iF,iG])
         have m1:=hZ.lH (c:=(dE++(dT++(d0++(d1++d2))):ay)) c4 (by intro p hp;simp only[dP,hp,iF,iG])
         refine Op.le (some 117) 0 c4 (A4 _ _ _ c4.iO (u.mono d3) (aP (bD w (⟨(aW x).Client,((aW x).bn)-1,(aW x).aX,(aW x).kf⟩:bN) (bC x))) _ mp _ mx _ my _ m0 _ m1 (aP z) _ (O.mono d3) _ (U.mono d3) _ (V.mono d3) _ (Y.mono d3) _ (ad.mono d3) (by((try dsimp only)<;>((subst hw;rw[(AO hK h0 (by have h9:=cP list;omega) hz (hfn.symm.trans ‹_›)).2.2];exact jv a5))))) (fun _ _ _ hp=>by obtain⟨_,a4,_⟩:=hp;exact a4) ?_ (hM:=(fun _ _ h=>absurd h (dB _)))
         rintro _ _ wa m2 ⟨rfl,a4,rfl⟩;clear a4
         have m3:=St.sp [dE,dT,d0,d1,d2] m2
         exact Op.pr 39 6 (.bool (decide ((aP (bD w (⟨(aW x).Client,((aW x).bn)-1,(aW x).aX,(aW x).kf⟩:bN) (bC x)))=(aP z)))) (hR m3.drop.drop.drop.drop.drop.drop.drop.drop.drop.drop.drop ⟨(aS (by(subst hw;exact eu (congrArg aP (AO hK h0 (by have h9:=cP list;omega) hz (hfn.symm.trans ‹_›)).2.2)))),rfl⟩)
        exact Op.pr 39 6 (.bool false) (hR da.drop.drop.drop.drop.drop.drop ⟨(aS (by(subst hw;exact absurd (congrArg (fun l=>(List.length l:Int)) (AO hK h0 (by have h9:=cP list;omega) hz (hfn.symm.trans ‹_›)).2.1) ‹_›))),rfl⟩)
       replace hT:=(dH hT)
       exact Op.pr 39 6 (.bool false) (hR da.drop.drop.drop.drop.drop.drop ⟨(aS (by(subst hw;exact absurd ((AO (b':=[]) hK h0 (by have h9:=cP list;omega) hz (hfn.symm.trans ‹_›)).1.symm.trans ‹_›) Bool.false_ne_true))),rfl⟩)
     exact At.ke (k4 _ _ (aM.refl _) z 0 _ _ (bM _) (by omega) (by rfl) a7 hf)
   refine At.dw (fun _=>False) [(0,true),(1,true),(3,true),(2,false),(4,false),(1005,false),(5,false),(6,true),(7,true),(8,true),(9,true),(10,true)] ?_
   refine Op.px 1 [(51,vP ae)] ?_
   refine Op.iU (T:=71) (x:=4) (o:=0) (d:=52) (n:=13) (vs:=[vI x.Client,vI x.bn,vI x.aX,vI x.Op.Kind,vS x.Op.af,vL am x.Op.Data.length ar,vI x.Op.ai,vI x.Op.aF,.bool x.Op.aY,.bool x.Op.aI,.bool x.Op.ak,vL aw x.Op.az.length a0,vL a1 x.cS.length a3]) (by kernel_rfl) (by kernel_rfl) (by kernel_rfl) (fun h=>h) (b6.ah 2 rfl) (by kernel_rfl) rfl ?_
   refine Op.iU (T:=71) (x:=4) (o:=0) (d:=54) (n:=13) (vs:=[vI x.Client,vI x.bn,vI x.aX,vI x.Op.Kind,vS x.Op.af,vL am x.Op.Data.length ar,vI x.Op.ai,vI x.Op.aF,.bool x.Op.aY,.bool x.Op.aI,.bool x.Op.ak,vL aw x.Op.az.length a0,vL a1 x.cS.length a3]) (by kernel_rfl) (by kernel_rfl) (by kernel_rfl) (fun h=>h) (b6.ah 2 rfl) (by kernel_rfl) rfl ?_
   refine Op.c0 (some 53) (uo _ _ _ b6.sub u x _ D _ G _ I) b6 ?_
   rintro _ wc _ wi d4 h2 ⟨wn,rfl,e5,rfl⟩
   obtain⟨wp,wr,rfl⟩:=e5.aj
   replace u:=u.mono d4
   replace hP:=hP.mono d4
   replace G:=G.mono d4
   replace I:=I.mono d4
   replace D:=D.mono d4
   replace bd:=bd.mono d4
   refine Op.c0 (some 55) (vU _ _ _ h2.sub u x _ D _ G _ I (by(try dsimp only)<;>omega) (by(try dsimp only)<;>omega)) h2 ?_
   rintro _ wt _ ww e6 f7 ⟨wx,rfl,h3,rfl⟩
   obtain⟨wy,w0,rfl⟩:=h3.aj
   replace u:=u.mono e6
   replace hP:=hP.mono e6
   replace e5:=e5.mono e6
   replace bd:=bd.mono e6
   refine Op.ba ?_
   refine Op.cl (some 56) 1 f7 (pR _ _ _ f7.sub u ae y _ bd (aW x) _ e5 _ _ h3 hP (by((try dsimp only)<;>(exact hK.ok.wk (by have h9:=cP list;omega)))) (by((try dsimp only)<;>(exact bQ (vV (nJ (show fN [x]=false by assumption) x (by simp)).2.2) (by decide)))) (by((try dsimp only)<;>(exact hK.ct (by have h9:=cP list;omega)))) (by(try dsimp only)<;>exact hK.fD) (by((try dsimp only)<;>(exact pS hK h0 (by have h9:=cP list;omega)))) (St.pt 1 f7)) ?_
   rintro _ w1 _ w2 w3 m4 ⟨w7,xa,xc,rfl,h5,m5,rfl⟩
   obtain⟨m6,m7,rfl⟩:=h5.aj
   refine Op.pg 21 [(9,vL m6 ((bh y (aW x) (bC x)).length) m7),(10,.bool (dQ y (aW x)))] ?_
   have m8:=(m4.aa 0 rfl).aa 1 rfl
   exact At.ke (kk _ _ (by repeat (first|assumption|exact aM.refl _|apply aM.trans)) (bD y (aW x) (bC x)) (bh y (aW x) (bC x)) (dQ y (aW x)) _ _ _ _ _ (bM _) (by rfl) (by rfl) (by rfl) (by exact(hK.iX h0 (by have h9:=cP list;omega))) h5 m5 m8)
 exact At.ke (iv _ _ (aM.refl _) mL 0 _ _ (bM _) (by omega) (by omega) (by exact ec.new) is ip)
end Go.Proofs.YtceekbnihfckeaaGreatDoor.Sw
namespace Go.Proofs.YtceekbnihfckeaaGreatDoor.Sw
open Go.Proofs.Tryz
set_option linter.unusedVariables false
set_option linter.unusedSimpArgs false
set_option linter.deprecated false
open Go Go.ChangeShapes Go.WideShapes Go.ChangeAt Go.RowKit Go.Deep Go.ChangeMaps
section
variable {H:Type} {enc:TypeId×Value→H} {P:Program} {w w':World} {iY:Nat} {sp:Nat→Bool} {hd:Bool}
end
section
variable {P:Program} {T E:TypeId}
theorem cT.int {k:IntKind} (ht:P.underlying T=some (.int k)):cT P T (fh k) (fun y=>k.min≤y∧y≤k.max):=⟨fun h hb=>by
  obtain⟨n,rfl,rfl,hw⟩:=DataW.trod_int ht h
  refine⟨n,rfl,?_⟩
  simpa[Lit.wf] using hw⟩
theorem cT.bool (ht:P.underlying T=some .bool):cT P T vg (fun _=>True):=⟨fun h hb=>by
  obtain⟨n,rfl,rfl⟩:=DataW.trod_bool ht h
  exact⟨n,rfl,trivial⟩⟩
end
section
variable {P:Program} {w:World} {T:TypeId} {H:Type} {enc:TypeId×Value→H} {v:Value} {dt:DataW H} {ps:List MemPlace} {b0:Nat} {r:Reach}
theorem CU {α:Type} {d:Kd α} {ok:α→Prop} {fs:Array Field} (I:cT P T d ok) (ht:P.underlying T=some (.struct fs)) (u:Value.okWide P w r b0 T v) (h:DataW.Trod enc P w 0 (fun _=>true) true T v dt ps) (hb:Rows.uptoBulk dt≤1048576):
    ∃(y:α) (cs:Array Value),v=.agg cs∧d.K (j8 w) y cs.toList∧ok y:=by
  obtain⟨cs,rfl,_⟩:=okWide_struct ht u
  obtain⟨bI,hf⟩:=h
  obtain⟨y,hk,ho⟩:=I.out hf hb
  exact⟨y,cs,rfl,hk,ho⟩
end
theorem eo {P:Program} {w:World} {H:Type} {enc:TypeId×Value→H} {n:Nat} {fs:Array Field} {cs:List Value} {xs:List (DataW H×List MemPlace)}
    (hf:∀(i:Nat) (f:Field),fs[i]?=some f→DataW.trod enc P w 0 (fun _=>true) true n f.type ((cs.drop f.offset).take (P.cellsOf f.type))=xs[i]?)
    (i t o m:Nat) (hi:(fs[i]?).map (fun f=>(f.type,f.offset))=some (t,o)) (hm:P.cellsOf t=m):DataW.trod enc P w 0 (fun _=>true) true n t ((cs.drop o).take m)=xs[i]?:=by
  obtain⟨f,h1,h2⟩:=pN.1 hi
  simp only[iM] at h2
  obtain⟨rfl,rfl⟩:=h2
  subst hm
  exact hf i f h1
end Go.Proofs.YtceekbnihfckeaaGreatDoor.Sw
namespace Go.Proofs.YtceekbnihfckeaaGreatDoor.Sw
open Go.Proofs.Tryz
open Go Go.ChangeShapes Go.WideShapes Go.ChangeAt Go.RowKit Go.Deep Go.ChangeMaps
set_option maxRecDepth 100000
set_option linter.unusedVariables false
set_option linter.unusedSimpArgs false
set_option linter.deprecated false
structure gZ (N:Nat) (P:Program) (T:TypeId) {α:Type} (d:Kd α) (ok:Nat→α→Prop):Prop where
  out:∀{H:Type} {enc:TypeId×Value→H} {w:World} {bI:Nat} {cs:List Value} {x:DataW H×List MemPlace},
    DataW.trod enc P w 0 (fun _=>true) true bI T cs=some x→Rows.uptoBulk x.1≤N→N≤1048576→∃y,d.K (j8 w) y cs∧ok (Rows.uptoBulk x.1) y
theorem pO {H:Type}:∀l:List (DataW H),Rows.uptoBulkAll l=(l.map Rows.uptoBulk).sum
  |[]=>rfl
  |d::r=>by rw[Rows.uptoBulkAll,eR,ng,pO r]
theorem gZ.sl {N:Nat} {P:Program} {T E:TypeId} {α:Type} {d:Kd α} {ok:Nat→α→Prop} (I:gZ N P E d ok) (ht:P.underlying T=some (.slice E)) (hc:P.cellsOf E=d.sz) (hp:0<d.sz):
    gZ (N+1) P T (jI E d) (fun b ys=>∃ds:List Nat,ds.length=ys.length∧ds.sum+1≤b∧∀(i:Nat) y n,ys[i]?=some y→ds[i]?=some n→ok n y):=⟨fun{H enc w bI cs x} h hb hN=>by
  rcases open_slice ht h with ⟨rfl,rfl⟩|⟨a,len,cap,m,n,u,X,rfl,_,hl,hm,J,rfl,hx⟩
  · exact⟨[],⟨_,rfl,av.nil _ _ _⟩,[],rfl,by simp[Rows.uptoBulk],fun i y n h=>by simp at h⟩
  · rw[aO rfl] at J
    subst J
    simp only[Rows.uptoBulk] at hb
    have hlen:=xg ((List.range len).map u)
    rw[d_,qw] at hlen
    have D:∀i,i<len→∃y,∃cs',w.cells? 0 (a.add (i*d.sz)) d.sz=some cs'∧d.K (j8 w) y cs'∧ok (Rows.uptoBulk (u i)) y:=fun i hi=>by
      obtain⟨cs',h1,h2⟩:=hx i (by omega)
      have h3:Rows.uptoBulk (u i)≤Rows.uptoBulkAll ((List.range len).map u):=fE (de.2 ⟨i,xh.2 hi,rfl⟩)
      obtain⟨y,h4,h5⟩:=I.out h2 (by show Rows.uptoBulk (u i)≤_;omega) (by omega)
      rw[hc] at h1
      exact⟨y,cs',h1,h4,h5⟩
    obtain⟨ys,O,hy⟩:=xj len D
    refine⟨ys,⟨_,rfl,_,m,by rw[O],by omega,fun hne=>?_⟩,(List.range len).map (fun i=>Rows.uptoBulk (u i)),by rw[d_,qw,O],?_,fun i y n hi hn=>?_⟩
    · obtain⟨b,o,spot⟩:=a
      have h0:0<len:=by
        rcases yU len with h|h
        · exact absurd (ju (by omega)) hne
        · exact h
      have U:spot=none:=by
        obtain⟨_,cs',h1,_⟩:=D 0 h0
        unfold World.cells? at h1
        rw[aO (fH _)] at h1
        obtain⟨v,_,hf⟩:=Lib.mapM_at h1 0 0 (by simp[hp])
        simpa[Addr.add] using World.cell?_spot hf
      subst U
      obtain⟨_,Y,h1,_⟩:=D 0 h0
      rw[vR,jT,lG] at h1
      obtain⟨cur,V,fz,hb',_⟩:=qx h1 hp
      refine⟨b,o,cur,(V,fz),rfl,hb',xk ys o fun i y hi=>?_⟩
      obtain⟨cs',h2,h3,_⟩:=hy i y hi
      rw[jT] at h2
      obtain⟨ab,ad,ae,G,e⟩:=qx h2 hp
      rw[hb'] at G
      simp only[fu,Obj.cells.injEq] at G
      obtain⟨rfl,_,_⟩:=G
      rw[←e];exact h3
    · have:=pO ((List.range len).map u)
      rw[jg] at this
      show((List.range len).map (Rows.uptoBulk ∘ u)).sum+1≤Rows.uptoBulk (.slice ((List.range len).map u) _)
      simp only[Rows.uptoBulk]
      omega
    · obtain⟨cs',_,_,hok⟩:=hy i y hi
      rw[jU] at hn
      have hlt:=(fT.1 hi).1
      rw[yV (by omega)] at hn
      obtain rfl:=fK hn
      exact hok⟩
def fX (n:Int):Prop:= -9223372036854775808≤n∧n≤9223372036854775807
def pP (b:Nat) (o:aG):Prop:=cq o≤b∧fX o.Kind∧fX o.ai∧fX o.aF
theorem pQ:∀(ys:List aG) (ds:List Nat),ds.length=ys.length→(∀(i:Nat) y n,ys[i]?=some y→ds[i]?=some n→pP n y)→c7 ys≤ds.sum
  |[],[],_,_=>by rw[c7];exact fH _
  |[],_::_,h,_=>by simp at h
  |_::_,[],h,_=>by simp at h
  |y::ys,n::ds,h,hk=>by
   have h1:=(hk 0 y n rfl rfl).1
   have h2:=pQ ys ds (by simpa using h) fun i u D hy hn=>hk (i+1) u D (by simpa using hy) (by simpa using hn)
   rw[c7,ng]
   omega
theorem oF:∀N:Nat,gZ N prog 25 ek pP
  |0=>⟨fun{H enc w bI cs x} h hb hN=>by have:=rK x.1;omega⟩
  |N+1=>⟨fun{H enc w bI cs x} h hb hN=>by
   obtain⟨xs,n,_,rfl,hl,hlen,hf⟩:=DataW.trod_struct underlying25 h
   have hl:cs.length=9:=hl.trans (by kernel_rfl)
   have hlen:xs.length=9:=hlen
   obtain⟨a0,a1,a2,a3,a4,a5,J,O,U,rfl⟩:∃a0 a1 a2 a3 a4 a5 J O U,cs=[a0,a1,a2,a3,a4,a5,J,O,U]:=by match cs,hl with|[a0,a1,a2,a3,a4,a5,J,O,U],_=>exact⟨a0,a1,a2,a3,a4,a5,J,O,U,rfl⟩
   obtain⟨z0,u,z2,z3,z4,z5,D,G,I,rfl⟩:∃z0 u z2 z3 z4 z5 D G I,xs=[z0,u,z2,z3,z4,z5,D,G,I]:=by match xs,hlen with|[z0,u,z2,z3,z4,z5,D,G,I],_=>exact⟨z0,u,z2,z3,z4,z5,D,G,I,rfl⟩
   have hB:Rows.uptoBulk (DataW.agg (List.map (·.1) [z0,u,z2,z3,z4,z5,D,G,I]))=Rows.uptoBulk z0.1+(Rows.uptoBulk u.1+(Rows.uptoBulk z2.1+(Rows.uptoBulk z3.1+(Rows.uptoBulk z4.1+(Rows.uptoBulk z5.1+(Rows.uptoBulk D.1+(Rows.uptoBulk G.1+Rows.uptoBulk I.1)))))))+1:=by
     simp only[eR,kG,Rows.uptoBulk,Rows.uptoBulkAll,lG]
   simp only[] at hb ⊢
   rw[hB] at hb ⊢
   have g0:=eo hf 0 3 0 1 (by kernel_rfl) (by kernel_rfl)
   replace g0:DataW.trod enc prog w 0 (fun _=>true) true n 3 [a0]=some z0:=g0
   obtain⟨y0,V,o0⟩:=(cT.int underlying3).out g0 (by omega)
   have V:[a0]=_:=V;cases V
   have g1:=eo hf 1 9 1 1 (by kernel_rfl) (by kernel_rfl)
   replace g1:DataW.trod enc prog w 0 (fun _=>true) true n 9 [a1]=some u:=g1
   obtain⟨s1,e1,r1,_⟩:=DataW.trod_string underlying9 g1
   cases e1
   have b1:s1.data.toList.length+1=Rows.uptoBulk u.1:=by rw[r1];rfl
   have g2:=eo hf 2 22 2 1 (by kernel_rfl) (by kernel_rfl)
   replace g2:DataW.trod enc prog w 0 (fun _=>true) true n 22 [a2]=some z2:=g2
   have a8:gZ 1048575 prog 5 br (fun b _=>1≤b):=⟨fun{H enc w bI cs x} h hb hN=>by
     obtain⟨y,hy,_⟩:=(cT.u8 underlying5).out h (by omega)
     exact⟨y,hy,rK _⟩⟩
   obtain⟨y2,⟨v2,e2,s2⟩,d2,bt,b3,a9⟩:=(gZ.sl a8 underlying22 (by kernel_rfl) (by decide)).out g2 (by omega) (by decide)
   cases e2
   have b2:y2.length+1≤Rows.uptoBulk z2.1:=by
     have key:∀ds:List Nat,(∀(i n:Nat),ds[i]?=some n→1≤n)→ds.length≤ds.sum:=by
       intro ds
       induction ds with
       |nil=>intro _;exact iE _
       |cons n ds ih=>
        intro h
        have:=h 0 n rfl
        have:=ih fun i m hm=>h (i+1) m (by simpa using hm)
        rw[bY,ng]
        omega
     have:=key d2 fun i n hn=>by
       have hlt:=(fT.1 hn).1
       exact a9 i (y2[i]'(by omega)) n (oG (by omega)) hn
     omega
   have g3:=eo hf 3 3 3 1 (by kernel_rfl) (by kernel_rfl)
   replace g3:DataW.trod enc prog w 0 (fun _=>true) true n 3 [a3]=some z3:=g3
   obtain⟨y3,X,bc⟩:=(cT.int underlying3).out g3 (by omega)
   have X:[a3]=_:=X;cases X
   have g4:=eo hf 4 3 4 1 (by kernel_rfl) (by kernel_rfl)
   replace g4:DataW.trod enc prog w 0 (fun _=>true) true n 3 [a4]=some z4:=g4
   obtain⟨y4,Y,bd⟩:=(cT.int underlying3).out g4 (by omega)
   have Y:[a4]=_:=Y;cases Y
   have ab:=eo hf 5 4 5 1 (by kernel_rfl) (by kernel_rfl)
   replace ab:DataW.trod enc prog w 0 (fun _=>true) true n 4 [a5]=some z5:=ab
   obtain⟨y5,ad,_⟩:=(cT.bool underlying4).out ab (by omega)
   have ad:[a5]=_:=ad;cases ad
   have ae:=eo hf 6 4 6 1 (by kernel_rfl) (by kernel_rfl)
   replace ae:DataW.trod enc prog w 0 (fun _=>true) true n 4 [J]=some D:=ae
   obtain⟨y6,am,_⟩:=(cT.bool underlying4).out ae (by omega)
   have am:[J]=_:=am;cases am
   have ar:=eo hf 7 4 7 1 (by kernel_rfl) (by kernel_rfl)
   replace ar:DataW.trod enc prog w 0 (fun _=>true) true n 4 [O]=some G:=ar
   obtain⟨be,aw,_⟩:=(cT.bool underlying4).out ar (by omega)
   have aw:[O]=_:=aw;cases aw
   have a6:=eo hf 8 23 8 1 (by kernel_rfl) (by kernel_rfl)
   replace a6:DataW.trod enc prog w 0 (fun _=>true) true n 23 [U]=some I:=a6
   obtain⟨a7,⟨b4,bi,bj⟩,bk,bm,b5,bo⟩:=(gZ.sl (oF N) underlying23 (by kernel_rfl) (by decide)).out a6 (by omega) hN
   cases bi
   have b6:=pQ a7 bk bm bo
   refine⟨⟨y0,s1.data.toList,y2,y3,y4,y5,y6,be,a7⟩,iC.2 ⟨_,_,s2,bj,?_⟩,?_,o0,bc,bd⟩
   · rw[rL]
   · rw[mO]
     simp only
     omega⟩
def vT (x:aH):Prop:=cq x.Op≤1048576∧x.cS.length≤1048576∧fX x.Client∧fX x.bn∧fX x.aX∧fX x.Op.Kind∧fX x.Op.ai∧fX x.Op.aF
theorem um:cT prog 71 iD vT:=⟨fun{H enc w bI cs x} h hb=>by
  obtain⟨xs,n,_,rfl,hl,hlen,hf⟩:=DataW.trod_struct underlying71 h
  have hl:cs.length=13:=hl.trans (by kernel_rfl)
  have hlen:xs.length=5:=hlen
  obtain⟨a0,a1,a2,a3,a4,a5,D,G,I,a9,J,O,U,rfl⟩:∃a0 a1 a2 a3 a4 a5 D G I a9 J O U,cs=[a0,a1,a2,a3,a4,a5,D,G,I,a9,J,O,U]:=by match cs,hl with|[a0,a1,a2,a3,a4,a5,D,G,I,a9,J,O,U],_=>exact⟨a0,a1,a2,a3,a4,a5,D,G,I,a9,J,O,U,rfl⟩
  obtain⟨z0,u,z2,z3,z4,rfl⟩:∃z0 u z2 z3 z4,xs=[z0,u,z2,z3,z4]:=by match xs,hlen with|[z0,u,z2,z3,z4],_=>exact⟨z0,u,z2,z3,z4,rfl⟩
  have hb:Rows.uptoBulkAll [z0.1,u.1,z2.1,z3.1,z4.1]≤1048576:=by simp only[Rows.uptoBulk,eR,kG] at hb;omega
  have g0:=eo hf 0 3 0 1 (by kernel_rfl) (by kernel_rfl)
  replace g0:DataW.trod enc prog w 0 (fun _=>true) true n 3 [a0]=some z0:=g0
  obtain⟨y0,V,o0⟩:=(cT.int underlying3).out g0 (bQ (fE (by simp)) hb)
  have V:[a0]=_:=V;cases V
  have g1:=eo hf 1 3 1 1 (by kernel_rfl) (by kernel_rfl)
  replace g1:DataW.trod enc prog w 0 (fun _=>true) true n 3 [a1]=some u:=g1
  obtain⟨y1,k1,o1⟩:=(cT.int underlying3).out g1 (bQ (fE (by simp)) hb)
  have k1:[a1]=_:=k1;cases k1
  have g2:=eo hf 2 3 2 1 (by kernel_rfl) (by kernel_rfl)
  replace g2:DataW.trod enc prog w 0 (fun _=>true) true n 3 [a2]=some z2:=g2
  obtain⟨y2,k2,o2⟩:=(cT.int underlying3).out g2 (bQ (fE (by simp)) hb)
  have k2:[a2]=_:=k2;cases k2
  have g3:=eo hf 3 25 3 9 (by kernel_rfl) (by kernel_rfl)
  replace g3:DataW.trod enc prog w 0 (fun _=>true) true n 25 [a3,a4,a5,D,G,I,a9,J,O]=some z3:=g3
  obtain⟨y3,Y,X⟩:=(oF 1048576).out g3 (bQ (fE (by simp)) hb) (by decide)
  obtain⟨v0,v1,ab,s1,e3⟩:=iC.1 Y
  cases e3
  have ad:Rows.uptoBulk z3.1≤1048576:=bQ (fE (by simp)) hb
  have g4:=eo hf 4 22 12 1 (by kernel_rfl) (by kernel_rfl)
  replace g4:DataW.trod enc prog w 0 (fun _=>true) true n 22 [U]=some z4:=g4
  obtain⟨y4,⟨v4,ae,am⟩,ar⟩:=(cT.sl (cT.u8 underlying5) underlying22 (by kernel_rfl) (by decide)).out g4 (bQ (fE (by simp)) hb)
  cases ae
  exact⟨⟨y0,y1,y2,y3,y4⟩,⟨_,_,_,ab,s1,am,rfl⟩,bQ X.1 ad,ar.1,o0,o1,o2,X.2⟩⟩
end Go.Proofs.YtceekbnihfckeaaGreatDoor.Sw
