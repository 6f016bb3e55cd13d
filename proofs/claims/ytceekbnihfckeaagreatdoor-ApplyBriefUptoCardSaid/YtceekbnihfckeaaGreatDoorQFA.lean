/- Lemmas for laws of this seat. -/
import Derived.Test.YtceekbnihfckeaaGreatDoorQBP
namespace Go.Proofs.YtceekbnihfckeaaGreatDoor.Sw
open Go.Proofs.Tryz
set_option linter.unusedVariables false
set_option linter.unusedSimpArgs false
set_option linter.deprecated false
open Go
set_option linter.defProp false
def rD:=@List.any_append
def tL:=@Bool.or_false
def vf:=@Bool.or_true
def ng:=@List.sum_cons
def nZ:=@Int.toNat_natCast
def vg:Kd Bool where
  sz:=1
  K _ x cs:=cs=[.bool x]
  len h:=by subst h;rfl
  one h:=by subst h;simp[Value.oneCell']
  mono _ h:=h
  zv:=false
  zc:=[.bool false]
  zK _:=rfl
section
variable {α:Type} {d:Kd α} {g g':GH}
end
section
variable {α:Type} {d:Kd α} {g g':GH} {h h':ax} {T:TypeId} {v:Value} {xs:List α}
end
section
variable {α:Type} {d:Kd α} {g g':GH} {h h':ax} {T:TypeId} {v:Value} {xs:List α} {c:ay}
end
theorem vh {cs:Array Value} {o n:Nat} {vs ws:List Value} (h:cut cs o n=vs) (k m:Nat) (hv:(vs.drop k).take m=ws) (hm:k+m≤n:=by omega):cut cs (o+k) m=ws:=by
  rw[←qo cs o n k m hm,h,hv]
mutual
def jE:aG→Nat
  |⟨_,_,_,_,_,_,_,_,ops⟩=>gy ops+1
def gy:List aG→Nat
  |[]=>0
  |x::xs=>max (jE x) (gy xs)
end
theorem vi (x:aG):jE x=gy x.az+1:=by
  obtain⟨k,p,u,D,sp,b,G,w,ops⟩:=x
  rw[jE]
end Go.Proofs.YtceekbnihfckeaaGreatDoor.Sw
namespace Go.Proofs.YtceekbnihfckeaaGreatDoor.Sw
open Go.Proofs.Tryz
set_option linter.unusedVariables false
set_option linter.unusedSimpArgs false
set_option linter.deprecated false
open Go
theorem Tl {p:aQ} (h:fF p=true) (hne:p≠[47]):cz p=0:=(DX (j0.2 h) hne).1
theorem Tm {p:aQ} (h:cz p=0):fF (parentOf p)=true:=j0.1 (DX (j0.2 (uW h)) (Au h)).2.1
section
variable {k:Int} {ns:List ag} {p data:aQ} {cI born bO:Int} {num:Bool}
end
section
variable {k:Int} {ns:List ag}
theorem fq.Tn (H:fq k ns) {p:aQ} (h:gK ns p≠[]):eG ns p=0∧∃u,cc ns p=some u∧u.aD= -1:=by
  obtain⟨q,hq⟩:=Ju _ h
  obtain⟨n,hn,rfl,hc,rfl⟩:=Ck.1 hq
  obtain⟨_,_,_,_,_,_,h7⟩:=H.node n hn
  rcases h7 with ⟨e,_⟩|⟨_,u,hu,e1,e2⟩
  · exact absurd e (Au hc)
  · have hf:cc ns (parentOf n.af)=some u:=by rw[←e1];exact qb H.sort.nodup hu
    exact⟨BM (j0.2 (Tm hc)) hf,u,hf,e2⟩
theorem fq.AG (H:fq k ns) {n:ag} (hn:n∈ns) (h:n.aD≠ -1):gK ns n.af=[]:=by
  by_cases hk:gK ns n.af=[]
  · exact hk
  · obtain⟨_,u,hu,e⟩:=H.Tn hk
    rw[qb H.sort.nodup hn] at hu
    exact absurd (fK hu▸e) h
end
end Go.Proofs.YtceekbnihfckeaaGreatDoor.Sw
namespace Go.Proofs.YtceekbnihfckeaaGreatDoor.Sw
open Go.Proofs.Tryz
set_option linter.unusedVariables false
set_option linter.unusedSimpArgs false
set_option linter.deprecated false
open Go
section
variable {ns out:List ag} {l x:ag} {i:Int} {put:Bool}
end
section
variable {ns:List ag} {p data q:aQ} {cI born bO o' b':Int} {num:Bool} {up x:ag} {k:Int}
theorem vj (a b:ag):decide (a=b)=(decide (a.af=b.af)&&(decide (a.Data=b.Data)&&(decide (a.ai=b.ai)&&(decide (a.aD=b.aD)&&(decide (a.Next=b.Next)&&decide (a.aL=b.aL)))))):=by
  obtain⟨a1,a2,a3,a4,a5,u⟩:=a
  obtain⟨b1,b2,D,G,I,J⟩:=b
  rw[kQ]
  simp[ag.mk.injEq]
theorem jP {a b:ag} (h:¬a.af=b.af∨¬a.Data=b.Data∨¬a.ai=b.ai∨¬a.aD=b.aD∨¬a.Next=b.Next):false=decide (a=b):=by
  refine(gb fun e=>?_).symm
  subst e
  rcases h with h|h|h|h|h
  all_goals exact h rfl
theorem vk {a b:ag} (h1:a.af=b.af) (h2:a.Data=b.Data) (h3:a.ai=b.ai) (h4:a.aD=b.aD) (h5:a.Next=b.Next):(a.aL==b.aL)=decide (a=b):=by
  rw[vj,eu h2,eu h1,eu h3,eu h4,eu h5]
  simp only[lp]
  rw[kQ]
  simp
end
section
variable {list:List ag} {i:Int} {l x:ag}
end
section
variable {list:List ag} {i:Int} {l x:ag}
end
end Go.Proofs.YtceekbnihfckeaaGreatDoor.Sw
namespace Go.Proofs.YtceekbnihfckeaaGreatDoor.Sw
open Go.Proofs.Tryz
set_option linter.unusedVariables false
set_option linter.unusedSimpArgs false
set_option linter.deprecated false
open Go
def gone (ns:List ag) (ps:List aQ):List ag:=ns.filter fun n=>!decide (n.af∈ps)
def m_ (ow:List Int) (n:ag):Bool:=ow.any fun o=>decide (n.aD=o)
theorem Fx {ns:List ag} {ow:List Int} {p:aQ}:p∈gw ns ow↔∃n∈ns,m_ ow n=true∧n.af=p:=by
  unfold gw
  rw[DE,de]
  constructor
  · rintro⟨n,hn,rfl⟩
    rw[fB] at hn
    exact⟨n,hn.1,hn.2,rfl⟩
  · rintro⟨n,hn,h,rfl⟩
    exact⟨n,fB.2 ⟨hn,h⟩,rfl⟩
theorem To {ns:List ag} (hs:fU ns) (ow:List Int):(gw ns ow).Nodup:=by
  unfold gw
  refine(List.reverse_perm _).nodup_iff.2 ?_
  exact fU.nodup (oD mM hs)
theorem Tp (ns:List ag):gone ns []=ns:=by
  unfold gone
  rw[mJ]
  intro n hn
  simp
theorem Tq {ns:List ag} (hs:fU ns) (ps:List aQ):fU (gone ns ps):=oD mM hs
theorem LB {ns:List ag} {ps:List aQ} {n:ag}:n∈gone ns ps↔n∈ns∧n.af ∉ ps:=by
  unfold gone
  rw[fB]
  simp
theorem Tr {ow:List Int} (ff:∀o∈ow,0≤o) {n:ag} (h:m_ ow n=true):0≤n.aD:=by
  unfold m_ at h
  rw[kF] at h
  obtain⟨o,ho,e⟩:=h
  rw[gp e]
  exact ff o ho
section
variable {k:Int} {ns:List ag} {ow:List Int}
theorem Ts (H:fq k ns) (ff:∀o∈ow,0≤o) {i:Int} {p:aQ} (h0:0≤i) (hx:(gw ns ow)[i.toNat]?=some p):
    f_ (gone ns ((gw ns ow).take i.toNat)) p (-1)=(gone ns ((gw ns ow).take (i+1).toNat),0):=by
  obtain⟨n,hn,u,rfl⟩:=Fx.1 (cj hx)
  have ho:=Tr ff u
  have hne:n.af≠[47]:=fun e=>by have:=(H.JT hn e).1;omega
  have hc:=Tl (H.node n hn).1 hne
  have hk:gK ns n.af=[]:=H.AG hn (by omega)
  have hnot:n.af ∉ (gw ns ow).take i.toNat:=by
    intro hm
    obtain⟨j,hj⟩:=qa.1 hm
    rw[uv] at hj
    split at hj
    · rename_i hlt
      have:=(Bx (fT.1 hj).1 (To H.sort ow)).1 (hj.trans hx.symm)
      omega
    · cases hj
  have hg:n∈gone ns ((gw ns ow).take i.toNat):=LB.2 ⟨hn,hnot⟩
  have hf:=qb (Tq H.sort _).nodup hg
  have hk2:gK (gone ns ((gw ns ow).take i.toNat)) n.af=[]:=by
    rw[GM]
    intro q hq
    obtain⟨m,hm,h⟩:=Ck.1 hq
    have:q∈gK ns n.af:=Ck.2 ⟨m,(LB.1 hm).1,h⟩
    rw[hk] at this
    cases this
  unfold f_
  rw[aC (by simpa using hc),hf]
  simp only[]
  rw[aC (fun h=>absurd h.1 (by decide)),aC (by simpa using hk2)]
  congr 1
  rw[toNat_succ h0,fG hx]
  unfold gi gone
  rw[Ew]
  apply s9
  intro m hm
  simp only[dP,iw,←Bool.not_or,←Bool.decide_or]
  congr 1
  exact decide_eq_decide.2 (by constructor<;>(rintro(h|h)<;>simp[h]))
theorem Tt (H:fq k ns):gone ns (gw ns ow)=ns.filter fun n=>!m_ ow n:=by
  unfold gone
  apply s9
  intro n hn
  congr 1
  cases h:m_ ow n with
  |true=>exact eu (Fx.2 ⟨n,hn,h,rfl⟩)
  |false=>
   refine gb fun hm=>?_
   obtain⟨m,hm,h2,e⟩:=Fx.1 hm
   rw[H.sort.uniq hm hn e,h] at h2
   cases h2
end
section
variable {k:Int} {ns:List ag} {p data:aQ} {num:Bool}
end
section
variable {k:Int} {ns:List ag}
end
end Go.Proofs.YtceekbnihfckeaaGreatDoor.Sw
namespace Go.Proofs.YtceekbnihfckeaaGreatDoor.Sw
open Go.Proofs.Tryz
open Go
set_option maxRecDepth 100000
set_option linter.unusedVariables false
set_option linter.unusedSimpArgs false
set_option linter.deprecated false
theorem vm (B:World) (h:ax) (g:GH) (hg:bl g h) (ar:bq g) (a:ag) (J:Value) (O:av g 5 br J a.Data) (b:ag) (U:Value) (V:av g 5 br U b.Data) (h1:a.Data.length≤1000000000):
  aE prog B 42 #[.agg #[vS a.af,J,vI a.ai,vI a.aD,vI a.Next,vI a.aL],.agg #[vS b.af,U,vI b.ai,vI b.aD,vI b.Next,vI b.aL]] h g [] (fun aw g' L'=>aw=.bool (decide (a=b))∧g'=g∧L'=[]):=by
 obtain⟨X,Y,rfl⟩:=O.aj
 obtain⟨ab,ad,rfl⟩:=V.aj
 refine aE.aq func42 fun R hR=>?_
 have a0:=St.init hg
 refine At.rg 3 ?_
 refine Op.bx 2 39 0 #[vS a.af,vL X a.Data.length Y,vI a.ai,vI a.aD,vI a.Next,vI a.aL] a0 fun G a3 a1=>?_
 refine Op.bx 3 39 1 #[vS b.af,vL ab b.Data.length ad,vI b.ai,vI b.aD,vI b.Next,vI b.aL] a1 fun I a4 D=>?_
 refine Op.pg 1 [] ?_
 refine At.rp 41 1 [(5,vP G)] ?_
 refine Op.l1 9 5 6 0 (vS a.af) (D.ah 1 rfl) ?_
 refine Op.px 1 [(7,vP I)] ?_
 refine Op.l1 9 7 8 0 (vS b.af) (D.ah 0 rfl) ?_
 refine Op.vl 9 (.bool ((bp a.af).toList==(bp b.af).toList)) (.bool (a.af==b.af)) (by rw[toList_mkS,toList_mkS]) ?_
 refine Op.px 1 [(10,.bool (a.af==b.af))] ?_
 refine Op.wb (a.af==b.af) 10 (fun ae=>?_) fun am=>?_
 ·replace ae:=eq_of_beq ae
  refine Op.px 1 [(11,vQ G 1)] ?_
  refine Op.l1 22 11 12 1 (vL X a.Data.length Y) (D.ah 1 rfl) ?_
  refine Op.px 1 [(13,vQ I 1)] ?_
  refine Op.l1 22 13 14 1 (vL ab b.Data.length ad) (D.ah 0 rfl) ?_
  refine Op.c1 15 (tM _ _ _ D.sub ar _ _ O _ _ V (by(try dsimp only)<;>omega)) D fun a5 u=>?_
  refine Op.px 2 [(17,.bool (decide (a.Data=b.Data)))] ?_
  refine Op.wd (a.Data=b.Data) 17 (fun a6=>?_) fun a7=>?_
  ·refine Op.px 1 [(18,vQ G 2)] ?_
   refine Op.l1 3 18 19 2 (vI a.ai) (u.ah 1 rfl) ?_
   refine Op.px 1 [(20,vQ I 2)] ?_
   refine Op.l1 3 20 21 2 (vI b.ai) (u.ah 0 rfl) ?_
   refine Op.px 3 [(24,.bool (a.ai==b.ai))] ?_
   refine Op.wd (a.ai=b.ai) 24 (fun a8=>?_) fun a9=>?_
   ·refine Op.px 1 [(25,vQ G 3)] ?_
    refine Op.l1 3 25 26 3 (vI a.aD) (u.ah 1 rfl) ?_
    refine Op.px 1 [(27,vQ I 3)] ?_
    refine Op.l1 3 27 28 3 (vI b.aD) (u.ah 0 rfl) ?_
    refine Op.px 3 [(31,.bool (a.aD==b.aD))] ?_
    refine Op.wd (a.aD=b.aD) 31 (fun bc=>?_) fun bd=>?_
    ·refine Op.px 1 [(32,vQ G 4)] ?_
     refine Op.l1 3 32 33 4 (vI a.Next) (u.ah 1 rfl) ?_
     refine Op.px 1 [(34,vQ I 4)] ?_
     refine Op.l1 3 34 35 4 (vI b.Next) (u.ah 0 rfl) ?_
     refine Op.px 3 [(38,.bool (a.Next==b.Next))] ?_
     refine Op.wd (a.Next=b.Next) 38 (fun be=>?_) fun bi=>?_
     ·refine Op.px 1 [(39,vQ G 5)] ?_
      refine Op.l1 3 39 40 5 (vI a.aL) (u.ah 1 rfl) ?_
      refine Op.px 1 [(41,vQ I 5)] ?_
      refine Op.l1 3 41 42 5 (vI b.aL) (u.ah 0 rfl) ?_
      exact Op.pr 2 4 (.bool (a.aL==b.aL)) (hR u.drop.drop ⟨(aS (by exact vk ‹_› ‹_› ‹_› ‹_› ‹_›)),rfl,rfl⟩)
     exact Op.pr 2 4 (.bool false) (hR u.drop.drop ⟨(aS (by exact jP (.inr (.inr (.inr (.inr ‹_›)))))),rfl,rfl⟩)
    exact Op.pr 2 4 (.bool false) (hR u.drop.drop ⟨(aS (by exact jP (.inr (.inr (.inr (.inl ‹_›)))))),rfl,rfl⟩)
   exact Op.pr 2 4 (.bool false) (hR u.drop.drop ⟨(aS (by exact jP (.inr (.inr (.inl ‹_›))))),rfl,rfl⟩)
  exact Op.pr 2 4 (.bool false) (hR u.drop.drop ⟨(aS (by exact jP (.inr (.inl ‹_›)))),rfl,rfl⟩)
 replace am:=n4 am
 exact Op.pr 2 4 (.bool false) (hR D.drop.drop ⟨(aS (by exact jP (.inl ‹_›))),rfl,rfl⟩)
end Go.Proofs.YtceekbnihfckeaaGreatDoor.Sw
namespace Go.Proofs.YtceekbnihfckeaaGreatDoor.Sw
open Go.Proofs.Tryz
set_option linter.unusedVariables false
set_option linter.unusedSimpArgs false
set_option linter.deprecated false
set_option linter.unusedSectionVars false
open Go
section
variable {k k':Int} {s:Sp} {c t:Int} {o:aG} {x:Result} {p data:aQ} {ns:List ag} {cI born bO:Int} {num:Bool}
end
section
variable {k:Int} {s:Sp} {c:Int} {b:aQ} {e:bN}
end
section
variable {s:Sp} {c t:Int} {b:aQ} {e:bN} {o:aG}
theorem yu {s u:Sp} (h:kp s=kp u):s.aA=u.aA:=congrArg (·.1) h
theorem tF:(dI s t).aA=max s.aA (min t 1099511627775):=congrArg (·.1) (AB (s:=s) (t:=t))
theorem AL:(lY s e b).aA=s.aA:=by
  have:=yu (vu (s:=cB s) (c:=e.Client) (b:=b))
  exact this
theorem AM:(bD s e b).aA=max s.aA (min e.aX 1099511627775):=by
  unfold bD
  split
  · rw[AL,tF]
  · exact tF
end
end Go.Proofs.YtceekbnihfckeaaGreatDoor.Sw
namespace Go.Proofs.YtceekbnihfckeaaGreatDoor.Sw
open Go.Proofs.Tryz
set_option linter.unusedVariables false
set_option linter.unusedSimpArgs false
set_option linter.deprecated false
set_option linter.unusedSectionVars false
open Go
section
variable {k c c':Int} {s:Sp} {e:bN} {b:aQ} {o:aG}
structure cO (c:Int) (s:Sp):Prop where
  book:bV s.book c=none
  gf:∀w∈s.aN,w.Client≠c
  ev:cV s.events c=[]
theorem cO.lq (H:cO c s) (kind:Int) (ps:List aQ):cO c (lu s kind ps):=by
  refine⟨H.book,fun w hw=>H.gf w (fB.1 hw).1,?_⟩
  show cV (kz s.events _) c=[]
  rw[vv,H.ev,eN,vp]
  intro w hw
  have:=H.gf w (fB.1 hw).1
  simpa using this
theorem cO.qv (H:cO c s) (p:aQ):cO c (pE s p):=(H.lq _ _).lq _ _
theorem cO.tr (H:cO c s) (ns:List ag):cO c {s with au:=ns}:=⟨H.book,H.gf,H.ev⟩
theorem cO.pF:∀(ps:List aQ) {s:Sp},cO c s→cO c (ps.foldl jG s)
  |[],_,H=>H
  |p::ps,_,H=>cO.pF ps ((H.tr _).qv p)
theorem w_ {α:Type} {q:Int×α→Bool}:∀{x:List (Int×α)} {c:Int},fJ x→bV x c=none→bV (x.filter q) c=none:=fun hs h=>rH.2 fun p hp=>rH.1 h p (fB.1 hp).1
theorem cO.left (H:cO c s) (hs:fJ s.book) (c':Int):cO c (oB s c'):=by
  refine⟨w_ hs H.book,fun w hw=>H.gf w (fB.1 hw).1,?_⟩
  show cV (eF s.events c') c=[]
  rw[nq]
  split
  · rfl
  · exact H.ev
theorem cO.oC:∀(cs:List Int) {s:Sp},cO c s→fJ s.book→cO c (jc s cs)
  |[],_,H,_=>H
  |c'::cs,s,H,hs=>by
   refine cO.oC cs (s:=iV s c') (cO.pF _ (H.left hs c')) ?_
   have key:∀(ps:List aQ) (s:Sp),(ps.foldl jG s).book=s.book:=by
     intro ps
     induction ps with
     |nil=>intro s;rfl
     |cons p ps ih=>intro s;rw[nr,ih];rfl
   unfold iV
   rw[key]
   exact oD mM hs
end
end Go.Proofs.YtceekbnihfckeaaGreatDoor.Sw
namespace Go.Proofs.YtceekbnihfckeaaGreatDoor.Sw
open Go.Proofs.Tryz
set_option linter.unusedVariables false
set_option linter.unusedSimpArgs false
set_option linter.deprecated false
set_option linter.unusedSectionVars false
open Go
section
variable {aB deep n i:Int} {o x:aG} {ops:List aG}
theorem jS (o:aG) (aB deep:Int):cM o aB deep=if deep=0∧o.az≠[] then aB+1 else ey o.az aB deep (1+o.af.length+o.Data.length):=by
  obtain⟨_,_,_,_,_,_,_,_,_⟩:=o
  rw[cM]
theorem lD (x:aG) (xs:List aG) (aB deep n:Int):ey (x::xs) aB deep n=if n≤aB then ey xs aB deep (n+cM x (aB-n) (deep-1)) else n:=by rw[ey]
theorem lE (o:aG):(cq o:Int)=1+o.af.length+o.Data.length+c7 o.az:=by rw[mO];omega
mutual
theorem lF:∀(o:aG) (aB deep:Int),0≤aB→0≤cM o aB deep∧cM o aB deep≤aB+1+cq o
  |⟨k,p,u,D,sp,b,G,w,ops⟩,aB,deep,h=>by
   have e:=jS ⟨k,p,u,D,sp,b,G,w,ops⟩ aB deep
   have hz:=lE ⟨k,p,u,D,sp,b,G,w,ops⟩
   simp only at e hz
   rw[e]
   split
   · omega
   · have:=pG ops aB deep (1+p.length+u.length) h (by omega)
     omega
theorem pG:∀(xs:List aG) (aB deep n:Int),0≤aB→0≤n→0≤ey xs aB deep n∧ey xs aB deep n≤max n (aB+1+c7 xs)
  |[],aB,deep,n,_,h=>by rw[ey];omega
  |x::xs,aB,deep,n,h,hn=>by
   rw[lD]
   have e:c7 (x::xs)=cq x+c7 xs:=by rw[c7]
   rw[e]
   split
   · have h1:=lF x (aB-n) (deep-1) (by omega)
     have h2:=pG xs aB deep (n+cM x (aB-n) (deep-1)) h (by omega)
     omega
   · omega
end
mutual
theorem uh:∀(o:aG) (aB deep:Int),0≤deep→cM o aB deep≤aB→cM o aB deep=cq o∧(jE o:Int)≤deep+1
  |⟨k,p,u,D,sp,b,G,w,ops⟩,aB,deep,hd,h=>by
   have e:=jS ⟨k,p,u,D,sp,b,G,w,ops⟩ aB deep
   have hz:=lE ⟨k,p,u,D,sp,b,G,w,ops⟩
   have ed:=vi ⟨k,p,u,D,sp,b,G,w,ops⟩
   simp only at e hz ed
   rw[e] at h ⊢
   split at h
   · omega
   · rename_i hne
     rw[aC hne]
     have:=pH ops aB deep (1+p.length+u.length) hd (by
       by_cases h0:ops=[]
       · exact .inr h0
       · exact .inl (by
           by_cases I:deep=0
           · exact absurd ⟨I,h0⟩ hne
           · omega)) h
     omega
theorem pH:∀(xs:List aG) (aB deep n:Int),0≤deep→(1≤deep∨xs=[])→ey xs aB deep n≤aB→ey xs aB deep n=n+c7 xs∧(gy xs:Int)≤deep
  |[],aB,deep,n,hd,_,h=>by rw[ey,c7,gy];omega
  |x::xs,aB,deep,n,hd,h1,h=>by
   have h1:1≤deep:=by
     rcases h1 with h1|h1
     · exact h1
     · cases h1
   rw[lD] at h ⊢
   have e:c7 (x::xs)=cq x+c7 xs:=by rw[c7]
   have ed:gy (x::xs)=max (jE x) (gy xs):=by rw[gy]
   rw[e,ed]
   split at h
   · rename_i hn
     rw[aO hn]
     have h2:=pH xs aB deep (n+cM x (aB-n) (deep-1)) hd (.inl h1) h
     have h3:=uh x (aB-n) (deep-1) (by omega) (by omega)
     omega
   · omega
end
def gX (o:aG) (aB deep n i:Int):Prop:=ey o.az aB deep (1+o.af.length+o.Data.length)=ey (o.az.drop i.toNat) aB deep n∧0≤n∧n≤aB+1+cq o
theorem pI (o:aG) (h:0≤aB):gX o aB deep (1+o.af.length+o.Data.length) 0:=⟨rfl,by omega,by have:=lE o;omega⟩
theorem pJ (H:gX o aB deep n i) (h0:0≤i) (hx:o.az[i.toNat]?=some x) (h:n≤aB):gX o aB deep (n+cM x (aB-n) (deep-1)) (i+1):=by
  obtain⟨h1,h2,h3⟩:=H
  have hb:=lF x (aB-n) (deep-1) (by omega)
  have hm:=xb (cj hx)
  have hz:=lE o
  refine⟨?_,by omega,by omega⟩
  rw[h1,drop_at hx,lD,aO h,show(i+1).toNat=i.toNat+1 by omega]
theorem pK (H:gX o aB deep n i) (hi:¬i<(o.az.length:Int)) (hn:¬(deep=0∧o.az≠[])):n=cM o aB deep:=by
  rw[jS,aC hn,H.1,mz (by omega),ey]
theorem pL (H:gX o aB deep n i) (hi:¬n≤aB) (hn:¬(deep=0∧o.az≠[])):n=cM o aB deep:=by
  rw[jS,aC hn,H.1]
  cases o.az.drop i.toNat with
  |nil=>rw[ey]
  |cons x xs=>rw[lD,aC hi]
theorem vB (h1:deep=0) (h2:(o.az.length:Int)>0):aB+1=cM o aB deep:=by
  rw[jS,aO ⟨h1,fun e=>by rw[e] at h2;simp at h2⟩]
theorem vC (h:¬deep=0):¬(deep=0∧o.az≠[]):=fun h'=>h h'.1
theorem vD (h:¬(o.az.length:Int)>0):¬(deep=0∧o.az≠[]):=fun h'=>h'.2 (ju (by omega))
end
end Go.Proofs.YtceekbnihfckeaaGreatDoor.Sw
namespace Go.Proofs.YtceekbnihfckeaaGreatDoor.Sw
open Go.Proofs.Tryz
set_option linter.unusedVariables false
set_option linter.unusedSimpArgs false
set_option linter.deprecated false
open Go
section
variable {l:List aH} {i:Int} {x:aH}
theorem vE (H:(l.take i.toNat).any stepG=false) (h0:0≤i) (hx:l[i.toNat]?=some x) (h1:jH x.Op 3000 3=false) (h2:¬(x.cS.length:Int)>2000):(l.take (i+1).toNat).any stepG=false:=by
  rw[toNat_succ h0,fG hx,rD,H]
  simp only[rJ,List.any_nil,tL,n8,stepG,h1,gb h2]
theorem vF (hx:l[i.toNat]?=some x) (h:jH x.Op 3000 3=true):true=fN l:=(kF.2 ⟨x,cj hx,by unfold stepG;rw[h];rfl⟩).symm
theorem vG (hx:l[i.toNat]?=some x) (h:(x.cS.length:Int)>2000):true=fN l:=(kF.2 ⟨x,cj hx,by unfold stepG;rw[eu h,vf]⟩).symm
theorem vH (H:(l.take i.toNat).any stepG=false) (h:¬i<(l.length:Int)):false=fN l:=by
  rw[fC (by omega)] at H
  exact H.symm
end
end Go.Proofs.YtceekbnihfckeaaGreatDoor.Sw
namespace Go.Proofs.YtceekbnihfckeaaGreatDoor.Sw
open Go.Proofs.Tryz
open Go
set_option maxRecDepth 100000
set_option linter.unusedVariables false
set_option linter.unusedSimpArgs false
set_option linter.deprecated false
theorem vJ (mr:Nat):∀(B:World) (h:ax) (g:GH) (hg:bl g h) (aw:bq g) (o:aG) (a0:Value) (a9:av g 5 br a0 o.Data) (a1:Value) (ae:av g 25 ek a1 o.az) (aB:Int) (deep:Int) (ho:cq o≤100000000) (hm:0≤aB∧aB≤1000000) (hd:0≤deep∧deep≤1000) (a3:cq o<mr),aE prog B 50 #[.agg #[vI o.Kind,vS o.af,a0,vI o.ai,vI o.aF,.bool o.aY,.bool o.aI,.bool o.ak,a1],vI aB,vI deep] h g [] (fun bo g' L'=>bo=.int .i64 (cM o aB deep)∧g'=g∧L'=[]):=by
 induction mr with
 |zero=>intros;omega
 |succ mr bc=>
 intro B h g hg aw o a0 a9 a1 ae aB deep ho hm hd a3
 obtain⟨am,ar,rfl⟩:=a9.aj
 obtain⟨O,I,rfl⟩:=ae.aj
 refine aE.aq func50 fun R hR=>?_
 have bt:=St.init hg
 refine At.rg 2 ?_
 refine Op.bx 3 25 0 #[vI o.Kind,vS o.af,vL am o.Data.length ar,vI o.ai,vI o.aF,.bool o.aY,.bool o.aI,.bool o.ak,vL O o.az.length I] bt fun G c4 X=>?_
 refine Op.pg 1 [] ?_
 refine At.rp 9 1 [(9,vQ G 1)] ?_
 refine Op.l1 9 9 10 1 (vS o.af) (X.ah 0 rfl) ?_
 refine Op.px 1 [(11,vI (o.af.length:Int))] ?_
 refine Op.cE 12 ((1:Int)+(o.af.length:Int)) (by omega) (by(have:=fO o;omega)) ?_
 refine Op.px 1 [(13,vQ G 2)] ?_
 refine Op.l1 22 13 14 2 (vL am o.Data.length ar) (X.ah 0 rfl) ?_
 refine Op.px 1 [(15,vI (o.Data.length:Int))] ?_
 refine Op.cE 16 (((1:Int)+(o.af.length:Int))+(o.Data.length:Int)) (by omega) (by(have:=fO o;omega)) ?_
 refine Op.pg 2 [(7,vI (((1:Int)+(o.af.length:Int))+(o.Data.length:Int)))] ?_
 refine At.rp 8 3 [(19,.bool (deep==0))] ?_
 refine Op.wd (deep=0) 19 (fun c5=>?_) fun c6=>?_
 ·refine Op.px 1 [(20,vQ G 8)] ?_
  refine Op.l1 23 20 21 8 (vL O o.az.length I) (X.ah 0 rfl) ?_
  refine Op.pg 3 [(24,.bool (decide ((o.az.length:Int)>0)))] ?_
  refine At.fd ((o.az.length:Int)>0) 24 4 6 (fun c8=>?_) fun c9=>?_
  ·refine At.rp 3 1 [(25,vI aB)] ?_
   refine Op.vq 26 (aB+1) ?_
   exact Op.pr 5 6 (vI (aB+1)) (hR X.drop ⟨(bB (by exact vB ‹_› ‹_›)),rfl,rfl⟩)
  refine At.go 7 1 [(8,vI 0)] ?_
  have a4:∀(m:Nat) (n:Int) (i:Int) (a5:ax) (hm:o.az.length-i.toNat<m) (h0:0≤i) (h1:i≤o.az.length) (J:¬(deep=0∧o.az≠[])) (hI:gX o aB deep n i) (U:St h g (aV []) g [[(G,Obj.cells #[vI o.Kind,vS o.af,vL am o.Data.length ar,vI o.ai,vI o.aF,.bool o.aY,.bool o.aI,.bool o.ak,vL O o.az.length I] 25 (0,0))]] a5),At (bX prog B 50 f50 R) [] 7 [(1,vI aB),(2,vI deep),(3,vP G),(7,vI n),(8,vI i)] a5:=by
   intro m;induction m with
   |zero=>intros;omega
   |succ m a6=>
    intro n i a5 hm h0 h1 J hI U
    refine At.rp 10 2 [(27,vI i),(28,vQ G 8)] ?_
    refine Op.l1 23 28 29 8 (vL O o.az.length I) (U.ah 0 rfl) ?_
    refine Op.px 3 [(32,.bool (decide (i<(o.az.length:Int))))] ?_
    refine Op.wd (i<(o.az.length:Int)) 32 (fun da=>?_) fun db=>?_
    ·refine Op.pg 8 [(36,.bool (decide (n≤aB)))] ?_
     refine At.fd (n≤aB) 36 9 11 (fun dc=>?_) fun dd=>?_
     ·refine At.rp 14 2 [(39,vI n),(40,vQ G 8)] ?_
      refine Op.l1 23 40 41 8 (vL O o.az.length I) (U.ah 0 rfl) ?_
      refine Op.px 1 [(42,vI i)] ?_
      obtain⟨D,a7⟩:=cG o.az i
      obtain⟨b3,bd,df,dg,b4,b5,ab⟩:=av.bF ae _ a7
      cases b4
      refine Op.iq 23 25 9 96 o.az.length I 41 42 43 b3 bd i ?_
      replace ab:=iC.1 ab
      obtain⟨dj,dk,be,bi,ab⟩:=ab
      obtain⟨a46,b6,rfl⟩:=be.aj
      obtain⟨b8,ca,rfl⟩:=bi.aj
      refine Op.la 25 43 44 (bd+i.toNat*9) 9 [vI D.Kind,vS D.af,vL a46 D.Data.length b6,vI D.ai,vI D.aF,.bool D.aY,.bool D.aI,.bool D.ak,vL b8 D.az.length ca] (U.sub _ _ b5) ?_ (hv:=ab)
      refine Op.px 2 [(45,vI aB),(46,vI n)] ?_
      refine Op.vq 47 (aB-n) ?_
      refine Op.px 1 [(48,vI deep)] ?_
      refine Op.vq 49 (deep-1) ?_
      refine Op.c1 50 (bc _ _ _ U.sub aw D _ be _ bi (aB-n) (deep-1) (by(try dsimp only)<;>omega) (by(try dsimp only)<;>omega) (by(try dsimp only)<;>omega) (by exact nv (ie (cj a7)) (pM a3))) U fun dl cb=>?_
      refine Op.vq 51 (n+(cM D (aB-n) (deep-1))) ?_
      refine Op.pg 10 [(7,vI (n+(cM D (aB-n) (deep-1))))] ?_
      refine At.rp 3 1 [(37,vI i)] ?_
      refine Op.vq 38 (i+1) ?_
      exact Op.pg 7 [(8,vI (i+1))] (At.ke (a6 (n+(cM D (aB-n) (deep-1))) (i+1) _ (by omega) (by omega) (by omega) (by exact J) (by exact pJ hI h0 a7 ‹_›) cb))
     exact At.gr 12 2 6 (vI n) (hR U.drop ⟨(bB (by exact pL hI ‹_› J)),rfl,rfl⟩)
    refine Op.pg 8 [(36,.bool false)] ?_
    refine At.dK 36 11 ?_
    exact At.gr 12 2 6 (vI n) (hR U.drop ⟨(bB (by exact pK hI ‹_› J)),rfl,rfl⟩)
  exact At.ke (a4 _ (((1:Int)+(o.af.length:Int))+(o.Data.length:Int)) 0 _ (bM _) (by omega) (by omega) (by exact vD ‹_›) (by exact pI o hm.1) X)
 refine Op.pg 3 [(24,.bool false)] ?_
 refine At.dK 24 6 ?_
 refine At.go 7 1 [(8,vI 0)] ?_
 have a4:∀(m:Nat) (n:Int) (i:Int) (a8:ax) (hm:o.az.length-i.toNat<m) (h0:0≤i) (h1:i≤o.az.length) (J:¬(deep=0∧o.az≠[])) (hI:gX o aB deep n i) (V:St h g (aV []) g [[(G,Obj.cells #[vI o.Kind,vS o.af,vL am o.Data.length ar,vI o.ai,vI o.aF,.bool o.aY,.bool o.aI,.bool o.ak,vL O o.az.length I] 25 (0,0))]] a8),At (bX prog B 50 f50 R) [] 7 [(1,vI aB),(2,vI deep),(3,vP G),(7,vI n),(8,vI i)] a8:=by
  intro m;induction m with
  |zero=>intros;omega
  |succ m a6=>
   intro n i a8 hm h0 h1 J hI V
   refine At.rp 10 2 [(27,vI i),(28,vQ G 8)] ?_
   refine Op.l1 23 28 29 8 (vL O o.az.length I) (V.ah 0 rfl) ?_
   refine Op.px 3 [(32,.bool (decide (i<(o.az.length:Int))))] ?_
   refine Op.wd (i<(o.az.length:Int)) 32 (fun dp=>?_) fun dq=>?_
   ·refine Op.pg 8 [(36,.bool (decide (n≤aB)))] ?_
    refine At.fd (n≤aB) 36 9 11 (fun du=>?_) fun dv=>?_
    ·refine At.rp 14 2 [(39,vI n),(40,vQ G 8)] ?_
     refine Op.l1 23 40 41 8 (vL O o.az.length I) (V.ah 0 rfl) ?_
     refine Op.px 1 [(42,vI i)] ?_
     obtain⟨u,Y⟩:=cG o.az i
     obtain⟨ce,bj,dC,dE,cf,ch,ad⟩:=av.bF ae _ Y
     cases cf
     refine Op.iq 23 25 9 96 o.az.length I 41 42 43 ce bj i ?_
     replace ad:=iC.1 ad
     obtain⟨dT,d0,bk,bm,ad⟩:=ad
     obtain⟨ci,ck,rfl⟩:=bk.aj
     obtain⟨a75,co,rfl⟩:=bm.aj
     refine Op.la 25 43 44 (bj+i.toNat*9) 9 [vI u.Kind,vS u.af,vL ci u.Data.length ck,vI u.ai,vI u.aF,.bool u.aY,.bool u.aI,.bool u.ak,vL a75 u.az.length co] (V.sub _ _ ch) ?_ (hv:=ad)
     refine Op.px 2 [(45,vI aB),(46,vI n)] ?_
     refine Op.cE 47 (aB-n) (by omega) (by(have:=hI.2.1;have:=hI.2.2;omega)) ?_
     refine Op.px 1 [(48,vI deep)] ?_
     refine Op.vq 49 (deep-1) ?_
     refine Op.c1 50 (bc _ _ _ V.sub aw u _ bk _ bm (aB-n) (deep-1) (by((try dsimp only)<;>((have:=ie (cj Y);omega)))) (by((try dsimp only)<;>((have:=hI.2.1;have:=hI.2.2;omega)))) (by(try dsimp only)<;>omega) (by exact nv (ie (cj Y)) (pM a3))) V fun d1 c3=>?_
     refine Op.cE 51 (n+(cM u (aB-n) (deep-1))) (by(have:=hI.2.1;have:=hI.2.2;have:=ie (cj Y);have h9:=lF u (aB-n) (deep-1) (by omega);omega)) (by(have:=hI.2.1;have:=hI.2.2;have:=ie (cj Y);have h9:=lF u (aB-n) (deep-1) (by omega);omega)) ?_
     refine Op.pg 10 [(7,vI (n+(cM u (aB-n) (deep-1))))] ?_
     refine At.rp 3 1 [(37,vI i)] ?_
     refine Op.cE 38 (i+1) (by omega) (by(have:=fO o;omega)) ?_
     exact Op.pg 7 [(8,vI (i+1))] (At.ke (a6 (n+(cM u (aB-n) (deep-1))) (i+1) _ (by omega) (by omega) (by omega) (by exact J) (by exact pJ hI h0 Y ‹_›) c3))
    exact At.gr 12 2 6 (vI n) (hR V.drop ⟨(bB (by exact pL hI ‹_› J)),rfl,rfl⟩)
   refine Op.pg 8 [(36,.bool false)] ?_
   refine At.dK 36 11 ?_
   exact At.gr 12 2 6 (vI n) (hR V.drop ⟨(bB (by exact pK hI ‹_› J)),rfl,rfl⟩)
 exact At.ke (a4 _ (((1:Int)+(o.af.length:Int))+(o.Data.length:Int)) 0 _ (bM _) (by omega) (by omega) (by exact vC ‹_›) (by exact pI o hm.1) X)
theorem vK (B:World) (h:ax) (g:GH) (hg:bl g h) (G:bq g) (o:aG) (u:Value) (I:av g 5 br u o.Data) (D:Value) (J:av g 25 ek D o.az) (aB:Int) (deep:Int) (ho:cq o≤100000000) (hm:0≤aB∧aB≤1000000) (hd:0≤deep∧deep≤1000):aE prog B 50 #[.agg #[vI o.Kind,vS o.af,u,vI o.ai,vI o.aF,.bool o.aY,.bool o.aI,.bool o.ak,D],vI aB,vI deep] h g [] (fun O g' L'=>O=.int .i64 (cM o aB deep)∧g'=g∧L'=[]):=vJ _ B h g hg G o u I D J aB deep ho hm hd (bM _)
theorem uj (B:World) (h:ax) (g:GH) (hg:bl g h) (Y:bq g) (o:aG) (D:Value) (G:av g 5 br D o.Data) (I:Value) (J:av g 25 ek I o.az) (aB:Int) (deep:Int) (ho:cq o≤100000000) (hm:0≤aB∧aB≤1000000) (hd:0≤deep∧deep≤1000):
  aE prog B 15 #[.agg #[vI o.Kind,vS o.af,D,vI o.ai,vI o.aF,.bool o.aY,.bool o.aI,.bool o.ak,I],vI aB,vI deep] h g [] (fun ab g' L'=>ab=.bool (jH o aB deep)∧g'=g∧L'=[]):=by
 obtain⟨O,U,rfl⟩:=G.aj
 obtain⟨V,X,rfl⟩:=J.aj
 refine aE.aq func15 fun R hR=>?_
 have ad:=St.init hg
 refine At.rg 2 ?_
 refine Op.bx 3 25 0 #[vI o.Kind,vS o.af,vL O o.Data.length U,vI o.ai,vI o.aF,.bool o.aY,.bool o.aI,.bool o.ak,vL V o.az.length X] ad fun am ar u=>?_
 refine Op.pg 1 [] ?_
 refine At.rg 7 ?_
 refine Op.la 25 3 7 0 9 [vI o.Kind,vS o.af,vL O o.Data.length U,vI o.ai,vI o.aF,.bool o.aY,.bool o.aI,.bool o.ak,vL V o.az.length X] (u.ah 0 rfl) ?_
 refine Op.px 2 [(8,vI aB),(9,vI deep)] ?_
 refine Op.c1 10 (vK _ _ _ u.sub Y o _ G _ J aB deep (by(try dsimp only)<;>omega) (by(try dsimp only)<;>omega) (by(try dsimp only)<;>omega)) u fun aw ae=>?_
 exact Op.pr 2 6 (.bool (decide ((cM o aB deep)>aB))) (hR ae.drop ⟨(aS (by rfl)),rfl,rfl⟩)
theorem uk (B:World) (h:ax) (g:GH) (hg:bl g h) (aw:bq g) (ad:Value) (list:List aH) (V:av g 71 iD ad list) (hl:list.length≤1048576) (ho:∀x∈list,cq x.Op≤100000000):
  aE prog B 31 #[ad] h g [] (fun a0 g' L'=>a0=.bool (fN list)∧g'=g∧L'=[]):=by
 obtain⟨ae,I,rfl⟩:=V.aj
 refine aE.aq func31 fun R hR=>?_
 have a1:=St.init hg
 refine At.go 1 1 [] ?_
 refine At.go 2 1 [(3,vI 0)] ?_
 have a3:∀(m:Nat) (i:Int) (X:ax) (hm:list.length-i.toNat<m) (h0:0≤i) (h1:i≤list.length) (hI:(list.take i.toNat).any stepG=false) (J:St h g (aV []) g [] X),At (bX prog B 31 f31 R) [] 2 [(0,vL ae list.length I),(3,vI i)] X:=by
  intro m;induction m with
  |zero=>intros;omega
  |succ m a4=>
   intro i X hm h0 h1 hI J
   refine At.go 3 4 [(7,.bool (decide (i<(list.length:Int))))] ?_
   refine At.fd (i<(list.length:Int)) 7 4 9 (fun bt=>?_) fun b3=>?_
   ·refine At.rp 15 2 [(10,vL ae list.length I),(11,vI i)] ?_
    obtain⟨u,G⟩:=cG list i
    obtain⟨O,D,b4,b5,a5,a6,Y⟩:=av.bF V _ G
    cases a5
    refine Op.iq 52 71 13 144 list.length I 10 11 12 O D i ?_
    obtain⟨b6,b8,v37,am,ar,a7,Y⟩:=Y
    obtain⟨a8,a9,rfl⟩:=am.aj
    obtain⟨bc,bd,rfl⟩:=ar.aj
    obtain⟨ca,cb,rfl⟩:=a7.aj
    refine Op.px 1 [(13,vQ O (D+i.toNat*13+3))] ?_
    refine Op.la 25 13 14 (D+i.toNat*13+3) 9 [vI u.Op.Kind,vS u.Op.af,vL a8 u.Op.Data.length a9,vI u.Op.ai,vI u.Op.aF,.bool u.Op.aY,.bool u.Op.aI,.bool u.Op.ak,vL bc u.Op.az.length bd] (J.sub _ _ a6) ?_ (hv:=(vh Y 3 9 rfl (by decide)))
    refine Op.c1 15 (uj _ _ _ J.sub aw u.Op _ am _ ar 3000 3 (by((try dsimp only)<;>(exact ho _ (cj G)))) (by(try dsimp only)<;>omega) (by(try dsimp only)<;>omega)) J fun ce U=>?_
    refine Op.px 1 [(16,.bool (jH u.Op (3000) (3)))] ?_
    refine Op.wb (jH u.Op (3000) (3)) 16 (fun cf=>?_) fun ch=>?_
    ·refine Op.pg 5 [(24,.bool true)] ?_
     refine At.bW 24 6 ?_
     exact At.gr 7 1 2 (.bool true) (hR U ⟨(aS (by exact vF G ‹_›)),rfl,rfl⟩)
    refine Op.px 2 [(17,vL (some ⟨O,D,none⟩) list.length I),(18,vI i)] ?_
    obtain⟨ci,ck,co,c3,be,bi,ab⟩:=av.bF V _ G
    cases be
    refine Op.iq 52 71 13 144 list.length I 17 18 19 O D i ?_
    obtain⟨c4,c5,cE,bj,bk,bm,ab⟩:=ab
    obtain⟨c6,c8,rfl⟩:=bj.aj
    obtain⟨c9,da,rfl⟩:=bk.aj
    obtain⟨a70,bo,rfl⟩:=bm.aj
    refine Op.px 1 [(20,vQ O (D+i.toNat*13+12))] ?_
    refine Op.l1 22 20 21 (D+i.toNat*13+12) (vL a70 u.cS.length bo) (U.sub _ _ bi) ?_ (hv:=c_ ab 12 rfl)
    refine Op.pg 5 [(24,.bool (decide ((u.cS.length:Int)>2000)))] ?_
    refine At.fd ((u.cS.length:Int)>2000) 24 6 8 (fun db=>?_) fun dc=>?_
    ·exact At.gr 7 1 2 (.bool true) (hR U ⟨(aS (by exact vG G ‹_›)),rfl,rfl⟩)
    refine At.rp 3 1 [(8,vI i)] ?_
    refine Op.vq 9 (i+1) ?_
    exact Op.pg 2 [(3,vI (i+1))] (At.ke (a4 (i+1) _ (by omega) (by omega) (by omega) (by exact vE hI h0 G ‹_› ‹_›) U))
   exact At.gr 10 1 2 (.bool false) (hR J ⟨(aS (by exact vH hI ‹_›)),rfl,rfl⟩)
 exact At.ke (a3 _ 0 _ (bM _) (by omega) (by omega) (by rfl) a1)
theorem vM (B:World) (h:ax) (g:GH) (hg:bl g h) (Y:bq g) (I:Value) (list:List aH) (G:av g 71 iD I list) (hl:list.length≤1048576):
  aE prog B 30 #[I] h g [] (fun X g' L'=>∃v0,X=v0∧av g' 71 iD v0 (list.take 60)∧L'=[]):=by
 obtain⟨u,D,rfl⟩:=G.aj
 refine aE.aq func30 fun R hR=>?_
 have J:=St.init hg
 refine At.go 1 1 [] ?_
 refine At.go 2 3 [(5,.bool (decide ((list.length:Int)>60)))] ?_
 refine At.fd ((list.length:Int)>60) 5 3 5 (fun ab=>?_) fun ad=>?_
 ·refine At.rp 3 1 [(6,vL u list.length D)] ?_
  refine Op.yS (T:=52) (E:=71) (dx:=144) (x:=6) (ao:=u) (n:=list.length) (c:=D) (dst:=7) (d:=iD) (hi:=(.const (vI 60))) (k:=.i64) (m:=60) (by kernel_rfl) (by kernel_rfl) (by kernel_rfl) (by kernel_rfl) G (by omega) (by omega) fun ae O=>?_
  obtain⟨U,V,rfl⟩:=O.aj
  exact Op.pr 4 2 (vL U ((list.take (60:Int).toNat).length) V) (hR J ⟨(vL U ((list.take (60:Int).toNat).length) V),rfl,b9 O (by rfl),rfl⟩)
 exact At.gr 6 2 2 (vL u list.length D) (hR J ⟨(vL u list.length D),rfl,b9 G (by exact(fC (by omega)).symm),rfl⟩)
end Go.Proofs.YtceekbnihfckeaaGreatDoor.Sw
namespace Go.Proofs.YtceekbnihfckeaaGreatDoor.Sw
open Go.Proofs.Tryz
set_option linter.unusedVariables false
set_option linter.unusedSimpArgs false
set_option linter.deprecated false
open Go
section
variable {i k:Int} {y s:Sp} {x:aH}
end
def gG (x m:Int):Int:=IntKind.wrap .i64 (((BitVec.ofInt (IntKind.bits .i64) x &&& BitVec.ofInt (IntKind.bits .i64) m).toNat:Nat):Int)
section
variable {i:Int} {s z:Sp} {x:aH} {l:List aH} {fb:aQ} {fn:Bool} {b':aQ}
theorem cP (l:List aH):(l.take 60).length≤60:=by rw[e_];omega
theorem jv (H:ec i s):((aP s).bZ.length≤1000000∧∀n∈(aP s).bZ,n.Data.length≤1000000000)∧(aP s).cJ.length≤1000000∧(aP s).cr.length≤1000000∧(aP s).aT.length≤1000000∧(aP s).bL.length≤1000000∧∀x∈(aP s).bL,x.Data.length≤1000000000:=by
  have K:=H.ok
  refine⟨⟨bQ K.tree.len (by decide),fun n hn=>bQ (K.tree.node n hn).2.1 (by decide)⟩,bQ K.gf.len (by decide),?_,?_,?_,?_⟩
  · show(s.book.map (·.2)).length≤_
    rw[d_]
    exact bQ K.book.len (by decide)
  · show((s.events.map (·.2)).flatten).length≤_
    have h8:=K.yT
    have key:∀(l:ja),(∀p∈l,p.2.length≤8)→((l.map (·.2)).flatten).length≤8*l.length:=by
      intro l
      induction l with
      |nil=>intro _;exact fH _
      |cons p l ih=>
       intro h
       have h1:=h p (by simp)
       have h2:=ih fun q hq=>h q (by simp[hq])
       rw[eR,cH,cA,bY]
       omega
    have:=key s.events fun p hp=>by
      have hq:=K.quo p.1
      have he:cV s.events p.1=p.2:=by
        unfold cV
        rw[(jR K.ev.sort).2 (show(p.1,p.2)∈s.events from hp)]
        rfl
      rw[he] at hq
      omega
    omega
  · show(s.aR.map _).length≤_
    rw[d_]
    exact bQ (xd K.fD.sort fun p hp=>(K.fD.ok p hp).1) (by decide)
  · intro x hx
    obtain⟨p,hp,rfl⟩:=de.1 hx
    exact bQ (K.fD.ok p hp).2.2 (by decide)
end
section
variable {a b:gu} {i:Int} {x y:ig}
end
end Go.Proofs.YtceekbnihfckeaaGreatDoor.Sw
namespace Go.Proofs.YtceekbnihfckeaaGreatDoor.Sw
open Go.Proofs.Tryz
set_option linter.unusedVariables false
set_option linter.unusedSimpArgs false
set_option linter.deprecated false
open Go Go.ChangeShapes Go.WideShapes Go.ChangeAt Go.RowKit Go.Deep Go.ChangeMaps
section
variable {H:Type} {enc:TypeId×Value→H} {P:Program} {w w':World} {iY:Nat} {sp:Nat→Bool} {hd:Bool}
end
section
variable {P:Program} {T E:TypeId}
theorem cT.int {k:IntKind} (ht:P.underlying T=some (.int k)):cT P T (fh k) (fun y=>k.min≤y∧y≤k.max):=⟨fun h hb=>by
  obtain⟨n,rfl,rfl,hw⟩:=DataW.trod_int ht h
  refine⟨n,rfl,?_⟩
  simpa[Lit.wf] using hw⟩
theorem cT.bool (ht:P.underlying T=some .bool):cT P T vg (fun _=>True):=⟨fun h hb=>by
  obtain⟨n,rfl,rfl⟩:=DataW.trod_bool ht h
  exact⟨n,rfl,trivial⟩⟩
end
section
variable {P:Program} {w:World} {T:TypeId} {H:Type} {enc:TypeId×Value→H} {v:Value} {dt:DataW H} {ps:List MemPlace} {b0:Nat} {r:Reach}
end
theorem eo {P:Program} {w:World} {H:Type} {enc:TypeId×Value→H} {n:Nat} {fs:Array Field} {cs:List Value} {xs:List (DataW H×List MemPlace)}
    (hf:∀(i:Nat) (f:Field),fs[i]?=some f→DataW.trod enc P w 0 (fun _=>true) true n f.type ((cs.drop f.offset).take (P.cellsOf f.type))=xs[i]?)
    (i t o m:Nat) (hi:(fs[i]?).map (fun f=>(f.type,f.offset))=some (t,o)) (hm:P.cellsOf t=m):DataW.trod enc P w 0 (fun _=>true) true n t ((cs.drop o).take m)=xs[i]?:=by
  obtain⟨f,h1,h2⟩:=pN.1 hi
  simp only[iM] at h2
  obtain⟨rfl,rfl⟩:=h2
  subst hm
  exact hf i f h1
end Go.Proofs.YtceekbnihfckeaaGreatDoor.Sw
namespace Go.Proofs.YtceekbnihfckeaaGreatDoor.Sw
open Go.Proofs.Tryz
open Go Go.ChangeShapes Go.WideShapes Go.ChangeAt Go.RowKit Go.Deep Go.ChangeMaps
set_option maxRecDepth 100000
set_option linter.unusedVariables false
set_option linter.unusedSimpArgs false
set_option linter.deprecated false
structure gZ (N:Nat) (P:Program) (T:TypeId) {α:Type} (d:Kd α) (ok:Nat→α→Prop):Prop where
  out:∀{H:Type} {enc:TypeId×Value→H} {w:World} {bI:Nat} {cs:List Value} {x:DataW H×List MemPlace},
    DataW.trod enc P w 0 (fun _=>true) true bI T cs=some x→Rows.uptoBulk x.1≤N→N≤1048576→∃y,d.K (j8 w) y cs∧ok (Rows.uptoBulk x.1) y
theorem pO {H:Type}:∀l:List (DataW H),Rows.uptoBulkAll l=(l.map Rows.uptoBulk).sum
  |[]=>rfl
  |d::r=>by rw[Rows.uptoBulkAll,eR,ng,pO r]
theorem gZ.sl {N:Nat} {P:Program} {T E:TypeId} {α:Type} {d:Kd α} {ok:Nat→α→Prop} (I:gZ N P E d ok) (ht:P.underlying T=some (.slice E)) (hc:P.cellsOf E=d.sz) (hp:0<d.sz):
    gZ (N+1) P T (jI E d) (fun b ys=>∃ds:List Nat,ds.length=ys.length∧ds.sum+1≤b∧∀(i:Nat) y n,ys[i]?=some y→ds[i]?=some n→ok n y):=⟨fun{H enc w bI cs x} h hb hN=>by
  rcases open_slice ht h with ⟨rfl,rfl⟩|⟨a,len,cap,m,n,u,X,rfl,_,hl,hm,J,rfl,hx⟩
  · exact⟨[],⟨_,rfl,av.nil _ _ _⟩,[],rfl,by simp[Rows.uptoBulk],fun i y n h=>by simp at h⟩
  · rw[aO rfl] at J
    subst J
    simp only[Rows.uptoBulk] at hb
    have hlen:=xg ((List.range len).map u)
    rw[d_,qw] at hlen
    have D:∀i,i<len→∃y,∃cs',w.cells? 0 (a.add (i*d.sz)) d.sz=some cs'∧d.K (j8 w) y cs'∧ok (Rows.uptoBulk (u i)) y:=fun i hi=>by
      obtain⟨cs',h1,h2⟩:=hx i (by omega)
      have h3:Rows.uptoBulk (u i)≤Rows.uptoBulkAll ((List.range len).map u):=fE (de.2 ⟨i,xh.2 hi,rfl⟩)
      obtain⟨y,h4,h5⟩:=I.out h2 (by show Rows.uptoBulk (u i)≤_;omega) (by omega)
      rw[hc] at h1
      exact⟨y,cs',h1,h4,h5⟩
    obtain⟨ys,O,hy⟩:=xj len D
    refine⟨ys,⟨_,rfl,_,m,by rw[O],by omega,fun hne=>?_⟩,(List.range len).map (fun i=>Rows.uptoBulk (u i)),by rw[d_,qw,O],?_,fun i y n hi hn=>?_⟩
    · obtain⟨b,o,spot⟩:=a
      have h0:0<len:=by
        rcases yU len with h|h
        · exact absurd (ju (by omega)) hne
        · exact h
      have U:spot=none:=by
        obtain⟨_,cs',h1,_⟩:=D 0 h0
        unfold World.cells? at h1
        rw[aO (fH _)] at h1
        obtain⟨v,_,hf⟩:=Lib.mapM_at h1 0 0 (by simp[hp])
        simpa[Addr.add] using World.cell?_spot hf
      subst U
      obtain⟨_,Y,h1,_⟩:=D 0 h0
      rw[vR,jT,lG] at h1
      obtain⟨cur,V,fz,hb',_⟩:=qx h1 hp
      refine⟨b,o,cur,(V,fz),rfl,hb',xk ys o fun i y hi=>?_⟩
      obtain⟨cs',h2,h3,_⟩:=hy i y hi
      rw[jT] at h2
      obtain⟨ab,ad,ae,G,e⟩:=qx h2 hp
      rw[hb'] at G
      simp only[fu,Obj.cells.injEq] at G
      obtain⟨rfl,_,_⟩:=G
      rw[←e];exact h3
    · have:=pO ((List.range len).map u)
      rw[jg] at this
      show((List.range len).map (Rows.uptoBulk ∘ u)).sum+1≤Rows.uptoBulk (.slice ((List.range len).map u) _)
      simp only[Rows.uptoBulk]
      omega
    · obtain⟨cs',_,_,hok⟩:=hy i y hi
      rw[jU] at hn
      have hlt:=(fT.1 hi).1
      rw[yV (by omega)] at hn
      obtain rfl:=fK hn
      exact hok⟩
def fX (n:Int):Prop:= -9223372036854775808≤n∧n≤9223372036854775807
def pP (b:Nat) (o:aG):Prop:=cq o≤b∧fX o.Kind∧fX o.ai∧fX o.aF
theorem pQ:∀(ys:List aG) (ds:List Nat),ds.length=ys.length→(∀(i:Nat) y n,ys[i]?=some y→ds[i]?=some n→pP n y)→c7 ys≤ds.sum
  |[],[],_,_=>by rw[c7];exact fH _
  |[],_::_,h,_=>by simp at h
  |_::_,[],h,_=>by simp at h
  |y::ys,n::ds,h,hk=>by
   have h1:=(hk 0 y n rfl rfl).1
   have h2:=pQ ys ds (by simpa using h) fun i u D hy hn=>hk (i+1) u D (by simpa using hy) (by simpa using hn)
   rw[c7,ng]
   omega
theorem oF:∀N:Nat,gZ N prog 25 ek pP
  |0=>⟨fun{H enc w bI cs x} h hb hN=>by have:=rK x.1;omega⟩
  |N+1=>⟨fun{H enc w bI cs x} h hb hN=>by
   obtain⟨xs,n,_,rfl,hl,hlen,hf⟩:=DataW.trod_struct underlying25 h
   have hl:cs.length=9:=hl.trans (by kernel_rfl)
   have hlen:xs.length=9:=hlen
   obtain⟨a0,a1,a2,a3,a4,a5,J,O,U,rfl⟩:∃a0 a1 a2 a3 a4 a5 J O U,cs=[a0,a1,a2,a3,a4,a5,J,O,U]:=by match cs,hl with|[a0,a1,a2,a3,a4,a5,J,O,U],_=>exact⟨a0,a1,a2,a3,a4,a5,J,O,U,rfl⟩
   obtain⟨z0,u,z2,z3,z4,z5,D,G,I,rfl⟩:∃z0 u z2 z3 z4 z5 D G I,xs=[z0,u,z2,z3,z4,z5,D,G,I]:=by match xs,hlen with|[z0,u,z2,z3,z4,z5,D,G,I],_=>exact⟨z0,u,z2,z3,z4,z5,D,G,I,rfl⟩
   have hB:Rows.uptoBulk (DataW.agg (List.map (·.1) [z0,u,z2,z3,z4,z5,D,G,I]))=Rows.uptoBulk z0.1+(Rows.uptoBulk u.1+(Rows.uptoBulk z2.1+(Rows.uptoBulk z3.1+(Rows.uptoBulk z4.1+(Rows.uptoBulk z5.1+(Rows.uptoBulk D.1+(Rows.uptoBulk G.1+Rows.uptoBulk I.1)))))))+1:=by
     simp only[eR,kG,Rows.uptoBulk,Rows.uptoBulkAll,lG]
   simp only[] at hb ⊢
   rw[hB] at hb ⊢
   have g0:=eo hf 0 3 0 1 (by kernel_rfl) (by kernel_rfl)
   replace g0:DataW.trod enc prog w 0 (fun _=>true) true n 3 [a0]=some z0:=g0
   obtain⟨y0,V,o0⟩:=(cT.int underlying3).out g0 (by omega)
   have V:[a0]=_:=V;cases V
   have g1:=eo hf 1 9 1 1 (by kernel_rfl) (by kernel_rfl)
   replace g1:DataW.trod enc prog w 0 (fun _=>true) true n 9 [a1]=some u:=g1
   obtain⟨s1,e1,r1,_⟩:=DataW.trod_string underlying9 g1
   cases e1
   have b1:s1.data.toList.length+1=Rows.uptoBulk u.1:=by rw[r1];rfl
   have g2:=eo hf 2 22 2 1 (by kernel_rfl) (by kernel_rfl)
   replace g2:DataW.trod enc prog w 0 (fun _=>true) true n 22 [a2]=some z2:=g2
   have a8:gZ 1048575 prog 5 br (fun b _=>1≤b):=⟨fun{H enc w bI cs x} h hb hN=>by
     obtain⟨y,hy,_⟩:=(cT.u8 underlying5).out h (by omega)
     exact⟨y,hy,rK _⟩⟩
   obtain⟨y2,⟨v2,e2,s2⟩,d2,bt,b3,a9⟩:=(gZ.sl a8 underlying22 (by kernel_rfl) (by decide)).out g2 (by omega) (by decide)
   cases e2
   have b2:y2.length+1≤Rows.uptoBulk z2.1:=by
     have key:∀ds:List Nat,(∀(i n:Nat),ds[i]?=some n→1≤n)→ds.length≤ds.sum:=by
       intro ds
       induction ds with
       |nil=>intro _;exact iE _
       |cons n ds ih=>
        intro h
        have:=h 0 n rfl
        have:=ih fun i m hm=>h (i+1) m (by simpa using hm)
        rw[bY,ng]
        omega
     have:=key d2 fun i n hn=>by
       have hlt:=(fT.1 hn).1
       exact a9 i (y2[i]'(by omega)) n (oG (by omega)) hn
     omega
   have g3:=eo hf 3 3 3 1 (by kernel_rfl) (by kernel_rfl)
   replace g3:DataW.trod enc prog w 0 (fun _=>true) true n 3 [a3]=some z3:=g3
   obtain⟨y3,X,bc⟩:=(cT.int underlying3).out g3 (by omega)
   have X:[a3]=_:=X;cases X
   have g4:=eo hf 4 3 4 1 (by kernel_rfl) (by kernel_rfl)
   replace g4:DataW.trod enc prog w 0 (fun _=>true) true n 3 [a4]=some z4:=g4
   obtain⟨y4,Y,bd⟩:=(cT.int underlying3).out g4 (by omega)
   have Y:[a4]=_:=Y;cases Y
   have ab:=eo hf 5 4 5 1 (by kernel_rfl) (by kernel_rfl)
   replace ab:DataW.trod enc prog w 0 (fun _=>true) true n 4 [a5]=some z5:=ab
   obtain⟨y5,ad,_⟩:=(cT.bool underlying4).out ab (by omega)
   have ad:[a5]=_:=ad;cases ad
   have ae:=eo hf 6 4 6 1 (by kernel_rfl) (by kernel_rfl)
   replace ae:DataW.trod enc prog w 0 (fun _=>true) true n 4 [J]=some D:=ae
   obtain⟨y6,am,_⟩:=(cT.bool underlying4).out ae (by omega)
   have am:[J]=_:=am;cases am
   have ar:=eo hf 7 4 7 1 (by kernel_rfl) (by kernel_rfl)
   replace ar:DataW.trod enc prog w 0 (fun _=>true) true n 4 [O]=some G:=ar
   obtain⟨be,aw,_⟩:=(cT.bool underlying4).out ar (by omega)
   have aw:[O]=_:=aw;cases aw
   have a6:=eo hf 8 23 8 1 (by kernel_rfl) (by kernel_rfl)
   replace a6:DataW.trod enc prog w 0 (fun _=>true) true n 23 [U]=some I:=a6
   obtain⟨a7,⟨b4,bi,bj⟩,bk,bm,b5,bo⟩:=(gZ.sl (oF N) underlying23 (by kernel_rfl) (by decide)).out a6 (by omega) hN
   cases bi
   have b6:=pQ a7 bk bm bo
   refine⟨⟨y0,s1.data.toList,y2,y3,y4,y5,y6,be,a7⟩,iC.2 ⟨_,_,s2,bj,?_⟩,?_,o0,bc,bd⟩
   · rw[rL]
   · rw[mO]
     simp only
     omega⟩
def vT (x:aH):Prop:=cq x.Op≤1048576∧x.cS.length≤1048576∧fX x.Client∧fX x.bn∧fX x.aX∧fX x.Op.Kind∧fX x.Op.ai∧fX x.Op.aF
theorem um:cT prog 71 iD vT:=⟨fun{H enc w bI cs x} h hb=>by
  obtain⟨xs,n,_,rfl,hl,hlen,hf⟩:=DataW.trod_struct underlying71 h
  have hl:cs.length=13:=hl.trans (by kernel_rfl)
  have hlen:xs.length=5:=hlen
  obtain⟨a0,a1,a2,a3,a4,a5,D,G,I,a9,J,O,U,rfl⟩:∃a0 a1 a2 a3 a4 a5 D G I a9 J O U,cs=[a0,a1,a2,a3,a4,a5,D,G,I,a9,J,O,U]:=by match cs,hl with|[a0,a1,a2,a3,a4,a5,D,G,I,a9,J,O,U],_=>exact⟨a0,a1,a2,a3,a4,a5,D,G,I,a9,J,O,U,rfl⟩
  obtain⟨z0,u,z2,z3,z4,rfl⟩:∃z0 u z2 z3 z4,xs=[z0,u,z2,z3,z4]:=by match xs,hlen with|[z0,u,z2,z3,z4],_=>exact⟨z0,u,z2,z3,z4,rfl⟩
  have hb:Rows.uptoBulkAll [z0.1,u.1,z2.1,z3.1,z4.1]≤1048576:=by simp only[Rows.uptoBulk,eR,kG] at hb;omega
  have g0:=eo hf 0 3 0 1 (by kernel_rfl) (by kernel_rfl)
  replace g0:DataW.trod enc prog w 0 (fun _=>true) true n 3 [a0]=some z0:=g0
  obtain⟨y0,V,o0⟩:=(cT.int underlying3).out g0 (bQ (fE (by simp)) hb)
  have V:[a0]=_:=V;cases V
  have g1:=eo hf 1 3 1 1 (by kernel_rfl) (by kernel_rfl)
  replace g1:DataW.trod enc prog w 0 (fun _=>true) true n 3 [a1]=some u:=g1
  obtain⟨y1,k1,o1⟩:=(cT.int underlying3).out g1 (bQ (fE (by simp)) hb)
  have k1:[a1]=_:=k1;cases k1
  have g2:=eo hf 2 3 2 1 (by kernel_rfl) (by kernel_rfl)
  replace g2:DataW.trod enc prog w 0 (fun _=>true) true n 3 [a2]=some z2:=g2
  obtain⟨y2,k2,o2⟩:=(cT.int underlying3).out g2 (bQ (fE (by simp)) hb)
  have k2:[a2]=_:=k2;cases k2
  have g3:=eo hf 3 25 3 9 (by kernel_rfl) (by kernel_rfl)
  replace g3:DataW.trod enc prog w 0 (fun _=>true) true n 25 [a3,a4,a5,D,G,I,a9,J,O]=some z3:=g3
  obtain⟨y3,Y,X⟩:=(oF 1048576).out g3 (bQ (fE (by simp)) hb) (by decide)
  obtain⟨v0,v1,ab,s1,e3⟩:=iC.1 Y
  cases e3
  have ad:Rows.uptoBulk z3.1≤1048576:=bQ (fE (by simp)) hb
  have g4:=eo hf 4 22 12 1 (by kernel_rfl) (by kernel_rfl)
  replace g4:DataW.trod enc prog w 0 (fun _=>true) true n 22 [U]=some z4:=g4
  obtain⟨y4,⟨v4,ae,am⟩,ar⟩:=(cT.sl (cT.u8 underlying5) underlying22 (by kernel_rfl) (by decide)).out g4 (bQ (fE (by simp)) hb)
  cases ae
  exact⟨⟨y0,y1,y2,y3,y4⟩,⟨_,_,_,ab,s1,am,rfl⟩,bQ X.1 ad,ar.1,o0,o1,o2,X.2⟩⟩
end Go.Proofs.YtceekbnihfckeaaGreatDoor.Sw
namespace Go.Proofs.YtceekbnihfckeaaGreatDoor.Sw
open Go.Proofs.Tryz
set_option linter.unusedVariables false
set_option linter.unusedSimpArgs false
set_option linter.deprecated false
set_option linter.unusedSectionVars false
open Go
section
variable {k c t:Int} {s:Sp} {e:bN} {b:aQ}
def mI (s:Sp):Prop:=∀p∈s.book,p.2.cC≤s.aA
theorem Fy:∀(ps:List aQ) (s:Sp),(ps.foldl jG s).book=s.book
  |[],_=>rfl
  |p::ps,s=>by rw[nr,Fy ps];rfl
theorem Fz:∀(cs:List Int) (s:Sp) {p:Int×dL},p∈(jc s cs).book→p∈s.book
  |[],_,_,h=>h
  |c::cs,s,p,h=>by
   have:=Fz cs (iV s c) h
   unfold iV at this
   rw[Fy] at this
   exact(fB.1 this).1
theorem mI.sub {s u:Sp} (H:mI s) (ht:s.aA≤u.aA) (hb:∀p∈u.book,p∈s.book):mI u:=fun p hp=>by have:=H p (hb p hp);omega
theorem mI.nG (H:mI s) (t:Int):mI (dI s t):=
  H.sub (by rw[tF];omega) fun p hp=>by
    unfold dI vA at hp
    exact(fB.1 (Fz _ _ hp)).1
theorem mI.touch (H:mI s):mI (touchS s c):=fun p hp=>by
  show p.2.cC≤s.aA
  have hp:p∈touchB s.book c s.aA:=hp
  unfold touchB at hp
  split at hp
  · exact H p hp
  · split at hp
    · exact H p hp
    · rename_i x hf _
      rcases qR hp with rfl|hp
      · have hx:c∈s.book.map (·.1)∨True:=.inr trivial
        have:∃q∈s.book,q.2=x:=by
          have key:∀l:gx,bV l c=some x→∃q∈l,q.2=x:=by
            intro l
            induction l with
            |nil=>intro h;simp[bV] at h
            |cons q l ih=>
             intro h
             rw[lR] at h
             split at h
             · exact⟨q,by simp,fK h⟩
             · obtain⟨r,hr,e⟩:=ih h
               exact⟨r,by simp[hr],e⟩
          exact key _ hf
        obtain⟨q,hq,rfl⟩:=this
        have:=H q hq
        simp only
        omega
      · exact H p hp
theorem LC:∀(l:List aG) (s:Sp),(l.foldl (rI c) s).book=s.book
  |[],_=>rfl
  |x::l,s=>by rw[nr,LC l];rfl
theorem AN (ff:Nat) (p:aQ):(lz s ff p).book=s.book:=by unfold lz;split<;>rfl
theorem LD:∀(l:List iW) (s:Sp),(l.foldl oE s).book=s.book
  |[],_=>rfl
  |x::l,s=>by
   rw[nr,LD l]
   exact AN _ _
theorem LF:∀(ops:List aG) {s sp:Sp} {i j e:Int},ji c s ops i=some (j,e,sp)→sp.book=s.book
  |[],_,_,_,_,_,h=>by cases h
  |o::ops,s,sp,i,j,e,h=>by
   rw[ji] at h
   split at h
   · exact LF (s:=cU s c o) ops h
   · cases h;rfl
theorem Tu {o:aG} {p:Int×dL} (h:p∈(lC s c o).book):p∈s.book:=by
  unfold lC at h
  split at h
  · exact Fz _ _ h
  · split at h
    · unfold kD at h
      split at h
      · rw[AN] at h;exact h
      · exact h
    · split at h
      · unfold kC at h;split at h<;>exact h
      · split at h
        · unfold nH at h
          split at h
          · rename_i hm
            have:=LF _ hm
            rw[←this];exact h
          · rw[LD] at h
            unfold nt at h
            rw[vz,LC] at h
            exact h
        · exact h
theorem mI.step (H:mI s):mI (cF s c b):=by
  unfold cF
  split
  · exact H
  · split
    · intro p hp
      show p.2.cC≤s.aA
      have hp:p∈lB s.book c _ s.aA:=hp
      unfold lB at hp
      split at hp
      · rcases qR hp with rfl|hp
        · exact Eo _
        · exact H p hp
      · exact H p hp
    · split
      · exact H.touch
      · exact H.touch.sub (by rw[yu Lh];exact Eo _) fun p hp=>Tu hp
theorem mI.iX (H:mI s):mI (bD s e b):=by
  unfold bD
  split
  · have h1:mI (cB (dI s e.aX)):=H.nG e.aX
    exact h1.step
  · exact H.nG e.aX
theorem Tv (hb:bV s.book c=none) (hs:fJ s.book):cO c (oB s c):=by
  refine⟨w_ hs hb,fun w hw=>?_,?_⟩
  · have:=(fB.1 hw).2
    unfold qg at this
    simp only[rJ,List.any_nil,tL,gN,jb] at this
    exact fun e=>this e.symm
  · show cV (eF s.events c) c=[]
    rw[nq,aO rfl]
theorem LG (c':Int):(iV s c').book=ia (qd [c']) s.book:=by unfold iV;rw[Fy];rfl
theorem LH:∀(cs:List Int) {s:Sp},c∈cs→bV s.book c=none→fJ s.book→cO c (jc s cs)
  |[],_,h,_,_=>by cases h
  |c'::cs,s,h,hb,hs=>by
   have h2:fJ (iV s c').book:=by rw[LG];exact oD mM hs
   by_cases he:c=c'
   · subst he
     exact cO.oC cs (s:=iV s c) (cO.pF _ (Tv hb hs)) h2
   · rcases ei.1 h with h|h
     · exact absurd h he
     · exact LH cs (s:=iV s c') h (by rw[LG];exact w_ hs hb) h2
theorem Tw (p:aQ):(jG s p).au=(f_ s.au p (-1)).1:=rfl
theorem Tx (H:fq k s.au) (hc:0≤c):(iV s c).au=s.au.filter fun n=>!m_ [c] n:=by
  have ff:∀o∈[c],0≤o:=fun o ho=>by rw[iw.1 ho];exact hc
  have key:∀(i:Nat),i≤(gw s.au [c]).length→(((gw s.au [c]).take i).foldl jG (oB s c)).au=gone s.au ((gw s.au [c]).take i):=by
    intro i
    induction i with
    |zero=>intro _;exact(Tp _).symm
    |succ i ih=>
     intro hi
     obtain⟨p,hp⟩:∃p,(gw s.au [c])[i]?=some p:=⟨_,oG (by omega)⟩
     rw[fG (i:=i) hp,wQ,nr,List.foldl_nil,Tw,ih (by omega)]
     have:=Ts H ff (i:=(i:Int)) (p:=p) (by omega) (by simpa using hp)
     rw[nZ] at this
     rw[this]
     show gone s.au ((gw s.au [c]).take ((i:Int)+1).toNat)=_
     rw[show((i:Int)+1).toNat=i+1 by omega,fG (i:=i) hp]
  have:=key (gw s.au [c]).length (iE _)
  rw[xz] at this
  unfold iV
  rw[this,Tt H]
theorem Ty (cs:List Int) (n:ag):m_ (c::cs) n=(m_ [c] n||m_ cs n):=by
  unfold m_
  simp[rJ]
theorem LI:∀(cs:List Int) {s:Sp},bK k s→(∀c∈cs,0≤c)→(jc s cs).au=s.au.filter fun n=>!m_ cs n
  |[],s,_,_=>by
   show s.au=_
   rw[zJ,mJ]
   intro n _
   rfl
  |c::cs,s,H,h=>by
   have h1:=LI cs (s:=iV s c) (H.iV c) fun x hx=>h x (by simp[hx])
   show(jc (iV s c) cs).au=_
   rw[h1,Tx H.tree (h c (by simp)),Ew]
   apply s9
   intro n _
   have:=Ty (c:=c) cs n
   rw[this]
   cases m_ [c] n<;>cases m_ cs n<;>rfl
theorem AG (K:bK k s) {x:dL} (hx:(c,x)∈s.book) (ht:x.cC+x.aF≤t) (hT:t<1099511627776):
    cO c (dI s t)∧∃cs:List Int,c∈cs∧(∀o∈cs,0≤o)∧(dI s t).au=s.au.filter fun n=>!m_ cs n:=by
  have L:=K.kN t
  have u:fA (max s.aA (min t 1099511627775)) x=true:=by
    unfold fA
    rw[cQ]
    omega
  have D:c∈gq (fA (max s.aA (min t 1099511627775))) s.book:=by
    unfold gq
    exact de.2 ⟨(c,x),fB.2 ⟨hx,u⟩,rfl⟩
  have G:∀o∈gq (fA (max s.aA (min t 1099511627775))) s.book,0≤o:=fun o ho=>by
    unfold gq at ho
    obtain⟨p,hp,rfl⟩:=de.1 ho
    have h1:=K.book.2 p (fB.1 hp).1
    rw[h1.1]
    exact(wH h1.2).1.1
  have hnone:bV (ia (fA (max s.aA (min t 1099511627775))) s.book) c=none:=by
    refine rH.2 fun p hp e=>?_
    have h1:=fB.1 hp
    have h2:=(jR K.book.1).2 (show(c,p.2)∈s.book by rw[←e];exact h1.1)
    rw[(jR K.book.1).2 hx] at h2
    have h3:=h1.2
    rw[←fK h2,u] at h3
    cases h3
  have hS:bK k {s with aA:=max s.aA (min t 1099511627775),book:=ia (fA (max s.aA (min t 1099511627775))) s.book}:=
    ⟨K.tree,K.gf,K.book.left _,fun p hp=>by
      have:=(fB.1 hp).2
      unfold fA at this
      simp only[gN,jb] at this
      show max s.aA (min t 1099511627775)<_
      omega,L.aA,K.ev,K.quo,K.fD,K.mo,K.cn⟩
  refine⟨?_,gq (fA (max s.aA (min t 1099511627775))) s.book,D,G,?_⟩
  · exact LH _ D hnone (K.book.left _).1
  · exact LI _ hS G
end
end Go.Proofs.YtceekbnihfckeaaGreatDoor.Sw
namespace Go.Proofs.YtceekbnihfckeaaGreatDoor.Sw
open Go.Proofs.Tryz
set_option linter.unusedVariables false
set_option linter.unusedSimpArgs false
set_option linter.deprecated false
set_option linter.unusedSectionVars false
open Go
theorem Tz (o:aG):cq ⟨o.Kind,o.af,o.Data,o.ai,o.aF,o.aY,o.aI,o.ak,o.az⟩=cq o:=by cases o;rfl
section
variable {i j c n:Int} {s z:Sp} {o:aG} {x:aH} {e:bN} {b p:aQ}
end
end Go.Proofs.YtceekbnihfckeaaGreatDoor.Sw
namespace Go.Proofs.YtceekbnihfckeaaGreatDoor.Sw
open Go.Proofs.Tryz
set_option linter.unusedVariables false
set_option linter.unusedSimpArgs false
set_option linter.deprecated false
set_option linter.unusedSectionVars false
open Go
theorem FA (x:Int) {m:Nat} (hm:m<2 ^ 62):0≤gG x m∧gG x m≤m:=by
  have h1:(BitVec.ofInt (IntKind.bits .i64) x &&& BitVec.ofInt (IntKind.bits .i64) (m:Int)).toNat≤m:=by
    rw[BitVec.toNat_and]
    refine bQ Nat.and_le_right ?_
    rw[Er]
    have h2:((2 ^ IntKind.bits .i64:Nat):Int)=18446744073709551616:=rfl
    rw[h2]
    omega
  unfold gG
  generalize (BitVec.ofInt (IntKind.bits .i64) x &&& BitVec.ofInt (IntKind.bits .i64) (m:Int)).toNat=v at h1
  have h3:v<2 ^ 62:=by omega
  have h4:IntKind.wrap .i64 (v:Int)=v:=by
    have h:=oI (n:=(v:Int)) (by omega) (by omega)
    injection h
  rw[h4]
  omega
theorem TA (x:Int):gG x 1023≤1023:=(FA x (m:=1023) (by decide)).2
theorem LJ (x:Int):0≤gG x 15∧gG x 15≤15:=FA x (m:=15) (by decide)
section
variable {k i j c kN sp t n m:Int} {s z:Sp} {x:dL} {w:ak} {l a:ag} {e:bN} {b:aQ} {xs:List dL}
def tG (c sp:Int) (xs:List dL):Prop:=(sp= -1∧∀x∈xs,¬x.Client=c)∨∃x∈xs,x.Client=c∧sp=x.cC+x.aF
theorem TB:tG c (-1) (xs.take (0:Int).toNat):=.inl ⟨rfl,fun x hx=>by cases hx⟩
theorem TC (h0:0≤i) (hx:xs[i.toNat]?=some x) (h:x.Client=c):tG c (x.cC+x.aF) (xs.take (i+1).toNat):=
  .inr ⟨x,by rw[toNat_succ h0,fG hx];simp,h,rfl⟩
theorem TD (H:tG c sp (xs.take i.toNat)) (h0:0≤i) (hx:xs[i.toNat]?=some x) (h:¬x.Client=c):tG c sp (xs.take (i+1).toNat):=by
  rw[toNat_succ h0,fG hx]
  rcases H with ⟨h1,h2⟩|⟨y,hy,h1,h2⟩
  · refine .inl ⟨h1,fun y hy=>?_⟩
    rcases dP.1 hy with hy|hy
    · exact h2 y hy
    · rw[iw.1 hy];exact h
  · exact .inr ⟨y,dP.2 (.inl hy),h1,h2⟩
theorem FB (H:tG c sp (xs.take i.toNat)) (h:¬i<(xs.length:Int)):tG c sp xs:=by
  rw[fC (by omega)] at H
  exact H
structure nc (i:Int) (s:Sp):Prop where
  k:ec i s
  seen:mI s
  aA:s.aA≤1023
theorem nc.new:nc 0 mL:=⟨ec.new,fun p hp=>(by cases hp),by decide⟩
theorem nc.iX (H:nc i s) (h0:0≤i) (hi:i≤20000) (he:e.aX≤1023):nc (i+1) (bD s e b):=⟨H.k.iX h0 hi,H.seen.iX,by rw[AM];have:=H.aA;omega⟩
theorem CG (H:nc i s) (hx:x∈(aP s).cr):(0≤x.Client∧x.Client<8)∧(1≤x.aF∧x.aF≤1000000)∧0≤x.cC∧x.cC≤1023∧(x.Client,x)∈s.book:=by
  obtain⟨p,hp,rfl⟩:=de.1 hx
  have h1:=H.k.ok.book.2 p hp
  have h2:=wH h1.2
  have h3:=H.seen p hp
  have h4:=H.aA
  refine⟨h2.1,h2.2.1,h2.2.2.1,by omega,?_⟩
  rw[←h1.1]
  exact hp
theorem LK (H:nc i s) (hs:tG c sp (aP s).cr): -1≤sp∧sp≤1001023:=by
  rcases hs with ⟨h, -⟩|⟨x,hx, -,h⟩
  · omega
  · have:=CG H hx
    omega
structure o5 (c:Int) (s z:Sp):Prop where
  xl:cO c z
  cs:∃cs:List Int,c∈cs∧(∀o∈cs,0≤o)∧z.au=s.au.filter fun n=>!m_ cs n
theorem TE:bD s ⟨-1,0,t,[]⟩ b=dI s t:=aC fun h=>by
  have:=h.1
  unfold iL at this
  simp at this
theorem TF (H:nc i s) (hs:tG c sp (aP s).cr) (hn:¬sp<0) (hz:z=bD s ⟨-1,0,sp+gG kN 15,[]⟩ b):o5 c s z:=by
  have u:=FA kN (m:=15) (by decide)
  have u:0≤gG kN 15∧gG kN 15≤15:=u
  rcases hs with ⟨h, -⟩|⟨x,hx,rfl,rfl⟩
  · omega
  · have h1:=CG H hx
    rw[hz,TE]
    obtain⟨h2,h3⟩:=AG H.k.ok (t:=x.cC+x.aF+gG kN 15) h1.2.2.2.2 (by omega) (by omega)
    exact⟨h2,h3⟩
theorem TG (H:nc i s) (h0:0≤i) (hi:i≤20000) (hz:z=bD s e b):ec (i+1) z:=hz▸H.k.iX h0 hi
theorem TH (H:o5 c s z) (K:ec i z) (hx:x∈(aP z).cr):¬x.Client=c:=by
  obtain⟨p,hp,rfl⟩:=de.1 hx
  intro e
  exact rH.1 H.xl.book p hp ((K.ok.book.2 p hp).1.trans e)
theorem TI (H:o5 c s z) (hx:w∈(aP z).cJ):¬w.Client=c:=H.xl.gf w hx
theorem TJ (H:o5 c s z) (K:ec i z) (hx:w∈(aP z).aT):¬w.Client=c:=by
  obtain⟨ws,h1,h2⟩:=xu.1 hx
  obtain⟨p,hp,rfl⟩:=de.1 h1
  intro e
  have h3:=K.ok.ev.own p hp w h2
  have h4:=H.xl.ev
  unfold cV at h4
  rw[(jR K.ok.ev.sort).2 (show(c,p.2)∈z.events by rw[←e,h3.1];exact hp)] at h4
  rw[show p.2=[] from h4] at h2
  cases h2
def hasB (ns:List ag) (l:ag):Bool:=ns.any fun n=>decide (n.af=l.af)
theorem TK:false=hasB (z.au.take (0:Int).toNat) l:=rfl
theorem TM (h0:0≤j) (hx:z.au[j.toNat]?=some a) (h:a.af=l.af):true=hasB (z.au.take (j+1).toNat) l:=by
  rw[toNat_succ h0,fG hx]
  unfold hasB
  rw[rD]
  simp[h]
theorem TN {u:Bool} (H:u=hasB (z.au.take j.toNat) l) (h0:0≤j) (hx:z.au[j.toNat]?=some a) (h:¬a.af=l.af):u=hasB (z.au.take (j+1).toNat) l:=by
  rw[toNat_succ h0,fG hx,H]
  unfold hasB
  rw[rD]
  simp[h]
theorem tH {u:Bool} (H:u=hasB (z.au.take j.toNat) l) (h:¬j<(z.au.length:Int)):u=hasB z.au l:=by
  rw[fC (by omega)] at H
  exact H
theorem o5.sub (H:o5 c s z) (ha:a∈z.au):a∈s.au:=by
  obtain⟨cs, -, -,h⟩:=H.cs
  rw[h] at ha
  exact(fB.1 ha).1
theorem LL (H:o5 c s z) (K:nc i s) (ha:a∈z.au) (hl:l∈s.au) (h:a.af=l.af):a=l:=K.k.ok.tree.sort.uniq (H.sub ha) hl h
theorem FC (H:o5 c s z) (K:nc i s) (hl:l∈s.au):hasB z.au l=decide (l∈z.au):=by
  unfold hasB
  rw[kQ,kF,cQ]
  constructor
  · rintro⟨a,ha,h⟩
    rw[←LL H K ha hl (by simpa using h)];exact ha
  · exact fun h=>⟨l,h,by simp⟩
theorem TO (H:o5 c s z) (K:nc i s) (hl:l∈s.au) (h1:l.aD= -1):hasB z.au l=true:=by
  rw[FC H K hl,cQ]
  obtain⟨cs, -,hcs,h⟩:=H.cs
  rw[h,fB]
  refine⟨hl,?_⟩
  rw[gN,kH]
  intro h2
  unfold m_ at h2
  obtain⟨o,ho,h3⟩:=kF.1 h2
  have:=hcs o ho
  simp only[cQ] at h3
  omega
theorem LM (H:o5 c s z) (K:nc i s) (hl:l∈s.au) (h1:l.aD=c):hasB z.au l=false:=by
  rw[FC H K hl,jb]
  obtain⟨cs,hc, -,h⟩:=H.cs
  rw[h,fB]
  rintro⟨-,h2⟩
  rw[gN,kH] at h2
  refine h2 (kF.2 ⟨c,hc,?_⟩)
  simp[h1]
def o6 (s z:Sp) (i n:Int):Prop:=n=(((s.au.take i.toNat).filter (hasB z.au)).length:Nat)
theorem TP:o6 s z 0 0:=rfl
theorem LN (H:o6 s z i n) (h0:0≤i) (hx:s.au[i.toNat]?=some l) (h:hasB z.au l=true):o6 s z (i+1) (n+1):=by
  unfold o6 at *
  rw[toNat_succ h0,fG hx,nP,cA,H]
  simp[h]
theorem CI (H:o6 s z i n) (h0:0≤i) (hx:s.au[i.toNat]?=some l) (h:hasB z.au l=false):o6 s z (i+1) n:=by
  unfold o6 at *
  rw[toNat_succ h0,fG hx,nP,cA,H]
  simp[h]
theorem CJ (H:o6 s z i n):0≤n∧n≤s.au.length:=by
  unfold o6 at H
  have h1:=l7 (hasB z.au) (s.au.take i.toNat)
  have h2:(s.au.take i.toNat).length≤s.au.length:=by rw[e_];omega
  omega
theorem TQ (H:o6 s z j n) (Z:o5 c s z) (K:nc i s) (h:¬j<(s.au.length:Int)):n=(z.au.length:Int):=by
  unfold o6 at H
  rw[fC (by omega)] at H
  obtain⟨cs,hc,hn,hT⟩:=Z.cs
  have:s.au.filter (hasB z.au)=z.au:=by
    conv=>rhs;rw[hT]
    refine s9 fun l hl=>?_
    rw[FC Z K hl,hT]
    rw[kQ,cQ,fB]
    exact⟨fun h=>h.2,fun h=>⟨hl,h⟩⟩
  rw[H,this]
end
end Go.Proofs.YtceekbnihfckeaaGreatDoor.Sw
namespace Go.Proofs.YtceekbnihfckeaaGreatDoor.Sw
open Go.Proofs.Tryz
open Go
set_option maxRecDepth 100000
set_option linter.unusedVariables false
set_option linter.unusedSimpArgs false
set_option linter.deprecated false
theorem nJ {l:List aH} (h:fN l=false):∀x∈l,cq x.Op≤3000∧(jE x.Op:Int)≤4∧x.cS.length≤2000:=fun x hx=>by
  unfold fN at h
  rw[Dz] at h
  have:=h x hx
  unfold stepG jH at this
  simp only[jh,cQ,qt] at this
  have h2:=uh x.Op 3000 3 (by decide) (by omega)
  omega
set_option maxHeartbeats 4000000 in
theorem TR (B:World) (h:ax) (g:GH) (hg:bl g h) (G:bq g) (f4:Value) (list:List aH) (ed:av g 71 iD f4 list) (client:Int) (kN:Int) (hP:lZ g) (hl:list.length≤1048576) (ho:∀z∈list,cq z.Op≤2000000∧z.cS.length≤2000000):
  aE prog B 7 #[f4,vI client,vI kN] h g [] (fun hN g' L'=>hN=.bool true∧L'=[]):=by
 obtain⟨hO,hQ,rfl⟩:=ed.aj
 refine aE.aq func7 fun R hR=>?_
 have f5:=St.init hg
 refine At.go 1 1 [] ?_
 refine At.rg 2 ?_
 refine Op.c0 (some 22) (yY _ _ _ f5.sub G hP) f5 ?_
 rintro _ m4 _ m5 eK f6 ⟨rfl,rfl⟩
 replace G:=G.mono eK
 replace hP:=hP.mono eK
 replace ed:=ed.mono eK
 refine Op.pg 2 [(23,.bool false)] ?_
 refine At.dK 23 5 ?_
 refine At.rp 3 1 [(24,vL hO list.length hQ)] ?_
 refine Op.c0 (some 25) (vM _ _ _ f6.sub G _ _ ed (by(try dsimp only)<;>omega)) f6 ?_
 rintro _ m6 _ m7 f8 f9 ⟨m8,rfl,b6,rfl⟩
 obtain⟨a28,dl,rfl⟩:=b6.aj
 replace G:=G.mono f8
 replace hP:=hP.mono f8
 refine Op.pg 6 [(0,vL a28 ((list.take 60).length) dl)] ?_
 refine At.rp 10 1 [(26,vL a28 ((list.take 60).length) dl)] ?_
 refine Op.c1 27 (uk _ _ _ f9.sub G _ _ b6 (by((try dsimp only)<;>((have h9:=cP list;omega)))) (by((try dsimp only)<;>(exact fun q hq=>(by have:=ho q (yZ hq);omega))))) f9 fun m9 dp=>?_
 refine Op.px 1 [(28,.bool (fN (list.take 60)))] ?_
 refine Op.wb (fN (list.take 60)) 28 (fun na=>?_) fun nb=>?_
 ·refine Op.pg 7 [(35,.bool true)] ?_
  refine At.bW 35 8 ?_
  exact At.gr 9 1 6 (.bool true) (hR dp ⟨(aS (by rfl)),rfl⟩)
 refine Op.px 4 [(32,.bool (decide (client<0)))] ?_
 refine Op.wd (client<0) 32 (fun nd=>?_) fun nf=>?_
 ·refine Op.pg 7 [(35,.bool true)] ?_
  refine At.bW 35 8 ?_
  exact At.gr 9 1 6 (.bool true) (hR dp ⟨(aS (by rfl)),rfl⟩)
 refine Op.pg 7 [(35,.bool (decide (client>7)))] ?_
 refine At.fd (client>7) 35 8 10 (fun nm=>?_) fun nn=>?_
 ·exact At.gr 9 1 6 (.bool true) (hR dp ⟨(aS (by rfl)),rfl⟩)
 refine At.rg 2 ?_
 refine Op.c0 (some 36) (xm _ _ _ dp.sub G) dp ?_
 rintro _ hS _ no eL hT ⟨ae,np,rfl,hV,rfl⟩
 replace G:=G.mono eL
 replace hP:=hP.mono eL
 replace b6:=b6.mono eL
 refine Op.pg 11 [(7,vP ae)] ?_
 refine At.go 12 2 [(38,.bool false)] ?_
 refine At.dK 38 15 ?_
 refine At.go 16 1 [(8,vI 0)] ?_
 have hW:∀(m:Nat) (ee:GH) (dq:aM hS ee) (y:Sp) (i:Int) (eQ:ay) (e1:ax) (hm:(list.take 60).length-i.toNat<m) (h0:0≤i) (h1:i≤(list.take 60).length) (hB:nc i y) (b8:cu ee ae y eQ) (c3:St h g (aV []) ee [eQ] e1),At (bX prog B 7 f7 R) [] 16 [(0,vL a28 ((list.take 60).length) dl),(1,vI client),(2,vI kN),(7,vP ae),(8,vI i)] e1:=by
  intro m;induction m with
  |zero=>intros;omega
  |succ m hX=>
   intro ee dq y i eQ e1 hm h0 h1 hB b8 c3
   replace G:=G.mono dq
   replace hP:=hP.mono dq
   replace b6:=b6.mono dq
   refine At.go 17 4 [(42,.bool (decide (i<((list.take 60).length:Int))))] ?_
   refine At.fd (i<((list.take 60).length:Int)) 42 18 22 (fun nu=>?_) fun nx=>?_
   ·refine At.rp 6 2 [(45,vL a28 ((list.take 60).length) dl),(46,vI i)] ?_
    obtain⟨D,ef⟩:=cG (list.take 60) i
    obtain⟨hY,gc,nz,n0,ib,ih,e2⟩:=av.bF b6 _ ef
    cases ib
    refine Op.iq 52 71 13 144 ((list.take 60).length) dl 45 46 47 hY gc i ?_
    obtain⟨n3,oi,oj,du,dv,dC,e2⟩:=e2
    obtain⟨dE,dT,rfl⟩:=du.aj
    obtain⟨d0,d1,rfl⟩:=dv.aj
    obtain⟨a75,d2,rfl⟩:=dC.aj
    refine Op.la 71 47 48 (gc+i.toNat*13) 13 [vI D.Client,vI D.bn,vI D.aX,vI D.Op.Kind,vS D.Op.af,vL dE D.Op.Data.length dT,vI D.Op.ai,vI D.Op.aF,.bool D.Op.aY,.bool D.Op.aI,.bool D.Op.ak,vL d0 D.Op.az.length d1,vL a75 D.cS.length d2] (c3.sub _ _ ih) ?_ (hv:=e2)
    refine Op.al 9 71 #[vI 0,vI 0,vI 0,vI 0,vS [],vN,vI 0,vI 0,.bool false,.bool false,.bool false,vN,vN] c3 fun ge ol ii=>?_
    refine Op.sg 71 9 48 0 0 #[vI D.Client,vI D.bn,vI D.aX,vI D.Op.Kind,vS D.Op.af,vL dE D.Op.Data.length dT,vI D.Op.ai,vI D.Op.aF,.bool D.Op.aY,.bool D.Op.aI,.bool D.Op.ak,vL d0 D.Op.az.length d1,vL a75 D.cS.length d2] ii (fun _=>trivial) fun or gg=>?_
    refine Op.gt 19 ?_
    refine At.rp 5 1 [(49,vQ ge 2)] ?_
    refine Op.l1 3 49 50 2 (vI D.aX) (gg.ah 0 rfl) ?_
    refine Op.vl 51 (.int .i64 (IntKind.wrap .i64 (((BitVec.ofInt (IntKind.bits .i64) D.aX &&& BitVec.ofInt (IntKind.bits .i64) (1023:Int)).toNat:Nat):Int))) (.int .i64 (gG D.aX 1023)) rfl ?_
    refine Op.px 1 [(52,vQ ge 2)] ?_
    refine Op.s1 3 52 51 2 (vI (gG D.aX 1023)) 0 #[vI D.Client,vI D.bn,vI (gG D.aX 1023),vI D.Op.Kind,vS D.Op.af,vL dE D.Op.Data.length dT,vI D.Op.ai,vI D.Op.aF,.bool D.Op.aY,.bool D.Op.aI,.bool D.Op.ak,vL d0 D.Op.az.length d1,vL a75 D.cS.length d2] gg (fun _=>trivial) fun o3 eh=>?_
    refine Op.gt 20 ?_
    refine At.dw (fun _=>False) [(0,true),(1,true),(3,true),(2,false),(4,false),(1005,false),(5,false)] ?_
    refine Op.px 1 [(53,vP ae)] ?_
    refine Op.iU (T:=71) (x:=9) (o:=0) (d:=54) (n:=13) (vs:=[vI D.Client,vI D.bn,vI (gG D.aX 1023),vI D.Op.Kind,vS D.Op.af,vL dE D.Op.Data.length dT,vI D.Op.ai,vI D.Op.aF,.bool D.Op.aY,.bool D.Op.aI,.bool D.Op.ak,vL d0 D.Op.az.length d1,vL a75 D.cS.length d2]) (by kernel_rfl) (by kernel_rfl) (by kernel_rfl) (fun h=>h) (eh.ah 0 rfl) (by kernel_rfl) rfl ?_
    refine Op.iU (T:=71) (x:=9) (o:=0) (d:=56) (n:=13) (vs:=[vI D.Client,vI D.bn,vI (gG D.aX 1023),vI D.Op.Kind,vS D.Op.af,vL dE D.Op.Data.length dT,vI D.Op.ai,vI D.Op.aF,.bool D.Op.aY,.bool D.Op.aI,.bool D.Op.ak,vL d0 D.Op.az.length d1,vL a75 D.cS.length d2]) (by kernel_rfl) (by kernel_rfl) (by kernel_rfl) (fun h=>h) (eh.ah 0 rfl) (by kernel_rfl) rfl ?_
    refine Op.c0 (some 55) (uo _ _ _ eh.sub G (⟨D.Client,D.bn,gG D.aX 1023,⟨D.Op.Kind,D.Op.af,D.Op.Data,D.Op.ai,D.Op.aF,D.Op.aY,D.Op.aI,D.Op.ak,D.Op.az⟩,D.cS⟩:aH) _ du _ dv _ dC) eh ?_
    rintro _ o4 _ pa c4 gk ⟨pb,rfl,ej,rfl⟩
    obtain⟨pc,pd,rfl⟩:=ej.aj
    replace G:=G.mono c4
    replace hP:=hP.mono c4
    replace du:=du.mono c4
    replace dv:=dv.mono c4
    replace dC:=dC.mono c4
    replace b8:=b8.mono c4
    refine Op.c0 (some 57) (vU _ _ _ gk.sub G (⟨D.Client,D.bn,gG D.aX 1023,⟨D.Op.Kind,D.Op.af,D.Op.Data,D.Op.ai,D.Op.aF,D.Op.aY,D.Op.aI,D.Op.ak,D.Op.az⟩,D.cS⟩:aH) _ du _ dv _ dC (by((try dsimp only)<;>((rw[Tz];have h9:=(nJ (show fN (list.take 60)=false by assumption) _ (cj ef));omega)))) (by((try dsimp only)<;>((have h9:=(nJ (show fN (list.take 60)=false by assumption) _ (cj ef));omega))))) gk ?_
    rintro _ pf _ ph em ik ⟨pj,rfl,gn,rfl⟩
    obtain⟨pl,pm,rfl⟩:=gn.aj
    replace G:=G.mono em
    replace hP:=hP.mono em
    replace ej:=ej.mono em
    replace b8:=b8.mono em
    refine Op.ba ?_
    have e3:=(ik.aa 0 rfl).aa 1 rfl
    refine Op.cl (some 58) 1 e3 (pR _ _ _ e3.sub G ae y _ b8 (aW (⟨D.Client,D.bn,gG D.aX 1023,⟨D.Op.Kind,D.Op.af,D.Op.Data,D.Op.ai,D.Op.aF,D.Op.aY,D.Op.aI,D.Op.ak,D.Op.az⟩,D.cS⟩:aH)) _ ej _ _ gn hP (by((try dsimp only)<;>(exact hB.k.ok.wk (by have h9:=cP list;omega)))) (by((try dsimp only)<;>(exact bQ (vV (nJ (show fN (list.take 60)=false by assumption) _ (cj ef)).2.2) (by decide)))) (by((try dsimp only)<;>(exact hB.k.ct (by have h9:=cP list;omega)))) (by(try dsimp only)<;>exact hB.k.fD) (by((try dsimp only)<;>(exact pS hB.k h0 (by have h9:=cP list;omega)))) (St.pt 1 e3)) ?_
    rintro _ po _ pu il io ⟨pv,pw,py,rfl,ip,is,rfl⟩
    obtain⟨pA,pB,rfl⟩:=ip.aj
    replace hP:=hP.mono il
    refine Op.gt 21 ?_
    refine At.rp 3 1 [(43,vI i)] ?_
    refine Op.cE 44 (i+1) (by omega) (by(have h9:=cP list;omega)) ?_
    refine Op.pg 16 [(8,vI (i+1))] ?_
    have iv:=((io.aa 0 rfl).aa 2 rfl).aa 2 rfl
    have i0:=iv.drop.drop
    exact At.ke (hX _ (aM.trans dq (by repeat (first|assumption|apply aM.trans))) (bD y (aW (⟨D.Client,D.bn,gG D.aX 1023,⟨D.Op.Kind,D.Op.af,D.Op.Data,D.Op.ai,D.Op.aF,D.Op.aY,D.Op.aI,D.Op.ak,D.Op.az⟩,D.cS⟩:aH)) (bC (⟨D.Client,D.bn,gG D.aX 1023,⟨D.Op.Kind,D.Op.af,D.Op.Data,D.Op.ai,D.Op.aF,D.Op.aY,D.Op.aI,D.Op.ak,D.Op.az⟩,D.cS⟩:aH))) (i+1) _ _ (by omega) (by omega) (by omega) (by exact hB.iX h0 (by have h9:=cP list;omega) (TA _)) is i0)
   refine At.rp 4 1 [(59,vP ae)] ?_
   refine Op.cl (some 60) 1 c3 (pT _ _ _ c3.sub G ae y _ b8 (by((try dsimp only)<;>(exact hB.k.ok.pU (by have h9:=cP list;omega)))) (St.pt 1 c3)) ?_
   rintro _ pC _ pD gs i1 ⟨p0,p1,p2,p3,p8,qr,v131,q0,q1,q2,i2,rfl,g1,en,c5,bi,a6,aw,rfl⟩
   obtain⟨a119,n120,rfl⟩:=g1.aj
   obtain⟨a124,n125,rfl⟩:=en.aj
   obtain⟨ep,a9,rfl⟩:=c5.aj
   obtain⟨g2,g3,rfl⟩:=bi.aj
   obtain⟨a139,g4,rfl⟩:=a6.aj
   replace G:=G.mono gs
   replace hP:=hP.mono gs
   refine Op.al 10 81 #[vI 0,vI 0,vN,vN,vN,vN,vN] i1 fun am q3 i3=>?_
   refine Op.sg 81 10 60 0 0 #[vI ((aP y).aX),vI ((aP y).aZ),vL a119 (((aP y).bZ).length) n120,vL a124 (((aP y).cJ).length) n125,vL ep (((aP y).cr).length) a9,vL g2 (((aP y).aT).length) g3,vL a139 (((aP y).bL).length) g4] i3 (fun _=>trivial) fun q4 i4=>?_
   refine Op.gt 23 ?_
   obtain⟨q5,i5,ca,J⟩:=aJ.freeze g1 (i4.aa 2 rfl)
   replace en:=en.mono ca
   replace c5:=c5.mono ca
   replace bi:=bi.mono ca
   replace a6:=a6.mono ca
   replace G:=G.mono ca
   replace hP:=hP.mono ca
   replace aw:=aw.mono ca
   obtain⟨q6,i6,cb,ra⟩:=aJ.freeze en (i5.aa 2 rfl)
   replace c5:=c5.mono cb
   replace bi:=bi.mono cb
   replace a6:=a6.mono cb
   replace G:=G.mono cb
   replace hP:=hP.mono cb
   replace J:=J.mono cb
   replace aw:=aw.mono cb
   obtain⟨rb,i7,c6,bc⟩:=aJ.freeze c5 (i6.aa 2 rfl)
   replace bi:=bi.mono c6
   replace a6:=a6.mono c6
   replace G:=G.mono c6
   replace hP:=hP.mono c6
   replace J:=J.mono c6
   replace aw:=aw.mono c6
   obtain⟨rc,i8,c8,rd⟩:=aJ.freeze bi (i7.aa 2 rfl)
   replace a6:=a6.mono c8
   replace G:=G.mono c8
   replace hP:=hP.mono c8
   replace J:=J.mono c8
   replace bc:=bc.mono c8
   replace aw:=aw.mono c8
   obtain⟨g5,i9,d3,re⟩:=aJ.freeze a6 (i8.aa 2 rfl)
   replace G:=G.mono d3
   replace hP:=hP.mono d3
   replace J:=J.mono d3
   replace bc:=bc.mono d3
   replace aw:=aw.mono d3
   obtain⟨g6,c9⟩:=St.freeze (i9.aa 0 rfl)
   have O:=iN (g:=g5) am (.cells #[vI ((aP y).aX),vI ((aP y).aZ),vL a119 (((aP y).bZ).length) n120,vL a124 (((aP y).cJ).length) n125,vL ep (((aP y).cr).length) a9,vL g2 (((aP y).aT).length) g3,vL a139 (((aP y).bL).length) g4] 81 (0,0))
   generalize jf:dy g5 _=g7 at g6 c9 O;clear jf
   replace G:=G.mono c9
   replace hP:=hP.mono c9
   replace J:=J.mono c9
   replace bc:=bc.mono c9
   replace aw:=aw.mono c9
   refine At.go 24 1 [(11,vI (-1))] ?_
   refine At.go 25 1 [(12,vI 0)] ?_
   have jj:∀(m:Nat) (dD:Int) (j:Int) (e4:ax) (hm:(aP y).cr.length-j.toNat<m) (h2:0≤j) (h3:j≤(aP y).cr.length) (hs:tG client dD ((aP y).cr.take j.toNat)) (ar:St h g (aV []) g7 [i2] e4),At (bX prog B 7 f7 R) [] 25 [(1,vI client),(2,vI kN),(7,vP ae),(10,vP am),(11,vI dD),(12,vI j)] e4:=by
    intro m;induction m with
    |zero=>intros;omega
    |succ m g8=>
     intro dD j e4 hm h2 h3 hs ar
     refine At.rp 5 2 [(61,vI j),(62,vQ am 4)] ?_
     refine Op.l1 62 62 63 4 (vL ep (((aP y).cr).length) a9) (ar.sub _ _ O) ?_
     refine Op.pg 26 [(65,.bool (decide (j<(((aP y).cr).length:Int))))] ?_
     refine At.fd (j<(((aP y).cr).length:Int)) 65 27 31 (fun rf=>?_) fun rh=>?_
     ·refine At.rp 8 1 [(68,vQ am 4)] ?_
      refine Op.l1 62 68 69 4 (vL ep (((aP y).cr).length) a9) (ar.sub _ _ O) ?_
      refine Op.px 1 [(70,vI j)] ?_
      obtain⟨V,ce⟩:=cG ((aP y).cr) j
      obtain⟨bj,a3,rk,rn,jn,jt,e5⟩:=av.bF bc _ ce
      cases jn
      refine Op.iq 62 85 3 24 (((aP y).cr).length) a9 69 70 71 bj a3 j ?_
      replace e5:cut _ _ _=[vI V.Client,vI V.aF,vI V.cC]:=e5
      refine Op.px 1 [(72,vQ bj (a3+j.toNat*3))] ?_
      refine Op.l1 3 72 73 (a3+j.toNat*3) (vI V.Client) (ar.sub _ _ jt) ?_ (hv:=c_ e5 0 rfl)
      refine Op.pg 28 [(75,.bool (V.Client==client))] ?_
      refine At.fd (V.Client=client) 75 29 30 (fun rr=>?_) fun rv=>?_
      ·refine At.dw (fun _=>False) [(0,true),(2,true),(6,true),(8,true),(1,true),(3,true),(4,true),(5,true),(7,false),(9,true),(10,true),(11,false),(12,true),(13,true)] ?_
       refine Op.px 4 [(76,vQ am 4),(78,vI j),(82,vQ am 4),(84,vI j)] ?_
       refine Op.lf 62 76 4 77 1 (vL (some ⟨bj,a3,none⟩) (((aP y).cr).length) a9) (fun h=>h) (ar.sub _ _ O) ?_
       obtain⟨rx,r0,r1,r2,j1,j2,e6⟩:=av.bF bc _ ce
       cases j1
       refine Op.iq 62 85 3 24 (((aP y).cr).length) a9 77 78 79 bj a3 j ?_
       replace e6:cut _ _ _=[vI V.Client,vI V.aF,vI V.cC]:=e6
       refine Op.px 1 [(80,vQ bj (a3+j.toNat*3+2))] ?_
       refine Op.gB (T:=3) (x:=80) (o:=a3+j.toNat*3+2) (d:=81) (n:=1) (v:=vI V.cC) (by kernel_rfl) (by kernel_rfl) (by kernel_rfl) (fun h=>h) (ar.sub _ _ j2) (c_ e6 2 rfl) ?_
       refine Op.l1 62 82 83 4 (vL (some ⟨bj,a3,none⟩) (((aP y).cr).length) a9) (ar.sub _ _ O) ?_
       obtain⟨r3,sc,sd,sf,kc,kd,e7⟩:=av.bF bc _ ce
       cases kc
       refine Op.iq 62 85 3 24 (((aP y).cr).length) a9 83 84 85 bj a3 j ?_
       replace e7:cut _ _ _=[vI V.Client,vI V.aF,vI V.cC]:=e7
       refine Op.px 1 [(86,vQ bj (a3+j.toNat*3+1))] ?_
       refine Op.l1 3 86 87 (a3+j.toNat*3+1) (vI V.aF) (ar.sub _ _ kd) ?_ (hv:=c_ e7 1 rfl)
       refine Op.cE 88 (V.cC+V.aF) (by(have h9:=CG hB (cj ce);omega)) (by(have h9:=CG hB (cj ce);omega)) ?_
       refine Op.pg 30 [(11,vI (V.cC+V.aF))] ?_
       refine At.rp 3 1 [(66,vI j)] ?_
       refine Op.cE 67 (j+1) (by omega) (by(have h9:=(jv hB.k).2.2.1;omega)) ?_
       exact Op.pg 25 [(12,vI (j+1))] (At.ke (g8 (V.cC+V.aF) (j+1) _ (by omega) (by omega) (by omega) (by exact TC h2 ce ‹_›) ar))
      refine At.rp 3 1 [(66,vI j)] ?_
      refine Op.cE 67 (j+1) (by omega) (by(have h9:=(jv hB.k).2.2.1;omega)) ?_
      exact Op.pg 25 [(12,vI (j+1))] (At.ke (g8 dD (j+1) _ (by omega) (by omega) (by omega) (by exact TD hs h2 ce ‹_›) ar))
     refine At.go 32 2 [(90,.bool (decide (dD<0)))] ?_
     refine At.fd (dD<0) 90 33 35 (fun sh=>?_) fun sk=>?_
     ·exact At.gr 34 1 6 (.bool true) (hR ar.drop ⟨(aS (by rfl)),rfl⟩)
     have kh:∀(m:Nat) (er:GH) (d4:aM g7 er) (z:Sp) (e8:ay) (e9:ax) (hm:0<m) (hZ:o5 client y z) (a7:ec (i+1) z) (g9:cu er ae z e8) (et:St h g (aV []) er [e8] e9),At (bX prog B 7 f7 R) [] 36 [(1,vI client),(7,vP ae),(10,vP am)] e9:=by
      intro m;induction m with
      |zero=>intros;omega
      |succ m sm=>
       intro er d4 z e8 e9 hm hZ a7 g9 et
       replace G:=G.mono d4
       replace hP:=hP.mono d4
       replace J:=J.mono d4
       replace O:=d4 _ _ O
       refine At.rp 4 1 [(98,vP ae)] ?_
       refine Op.cl (some 99) 1 et (pT _ _ _ et.sub G ae z _ g9 (by((try dsimp only)<;>(exact a7.ok.pU (by have h9:=cP list;omega)))) (St.pt 1 et)) ?_
       rintro _ so _ ss ex kk ⟨sA,sB,sT,s0,s2,s3,s4,s8,ta,te,d5,rfl,he,eA,da,bk,a8,th,rfl⟩
       obtain⟨d6,bm,rfl⟩:=he.aj
       obtain⟨eB,n225,rfl⟩:=eA.aj
       obtain⟨a229,d7,rfl⟩:=da.aj
       obtain⟨eE,n235,rfl⟩:=bk.aj
       obtain⟨hf,n240,rfl⟩:=a8.aj
       replace G:=G.mono ex
       replace hP:=hP.mono ex
       replace J:=J.mono ex
       replace O:=ex _ _ O
       refine Op.al 13 81 #[vI 0,vI 0,vN,vN,vN,vN,vN] kk fun Y ti kl=>?_
       refine Op.sg 81 13 99 0 0 #[vI ((aP z).aX),vI ((aP z).aZ),vL d6 (((aP z).bZ).length) bm,vL eB (((aP z).cJ).length) n225,vL a229 (((aP z).cr).length) d7,vL eE (((aP z).aT).length) n235,vL hf (((aP z).bL).length) n240] kl (fun _=>trivial) fun tk km=>?_
       refine Op.gt 37 ?_
       obtain⟨tl,kv,bo,a1⟩:=aJ.freeze he (km.aa 2 rfl)
       replace eA:=eA.mono bo
       replace da:=da.mono bo
       replace bk:=bk.mono bo
       replace a8:=a8.mono bo
       replace G:=G.mono bo
       replace hP:=hP.mono bo
       replace J:=J.mono bo
       replace O:=bo _ _ O
       obtain⟨tm,kw,bt,bd⟩:=aJ.freeze eA (kv.aa 2 rfl)
       replace da:=da.mono bt
       replace bk:=bk.mono bt
       replace a8:=a8.mono bt
       replace G:=G.mono bt
       replace hP:=hP.mono bt
       replace J:=J.mono bt
       replace a1:=a1.mono bt
       replace O:=bt _ _ O
       obtain⟨tp,kx,b3,cf⟩:=aJ.freeze da (kw.aa 2 rfl)
       replace bk:=bk.mono b3
       replace a8:=a8.mono b3
       replace G:=G.mono b3
       replace hP:=hP.mono b3
       replace J:=J.mono b3
       replace a1:=a1.mono b3
       replace bd:=bd.mono b3
       replace O:=b3 _ _ O
       obtain⟨tt,kA,b4,d8⟩:=aJ.freeze bk (kx.aa 2 rfl)
       replace a8:=a8.mono b4
       replace G:=G.mono b4
       replace hP:=hP.mono b4
       replace J:=J.mono b4
       replace a1:=a1.mono b4
       replace bd:=bd.mono b4
       replace cf:=cf.mono b4
       replace O:=b4 _ _ O
       obtain⟨hh,k0,b5,tx⟩:=aJ.freeze a8 (kA.aa 2 rfl)
       replace G:=G.mono b5
       replace hP:=hP.mono b5
       replace J:=J.mono b5
       replace a1:=a1.mono b5
       replace bd:=bd.mono b5
       replace cf:=cf.mono b5
       replace d8:=d8.mono b5
       replace O:=b5 _ _ O
       obtain⟨hj,be⟩:=St.freeze (k0.aa 0 rfl)
       have a4:=iN (g:=hh) Y (.cells #[vI ((aP z).aX),vI ((aP z).aZ),vL d6 (((aP z).bZ).length) bm,vL eB (((aP z).cJ).length) n225,vL a229 (((aP z).cr).length) d7,vL eE (((aP z).aT).length) n235,vL hf (((aP z).bL).length) n240] 81 (0,0))
       generalize k1:dy hh _=d9 at hj be a4;clear k1
       replace G:=G.mono be
       replace hP:=hP.mono be
       replace J:=J.mono be
       replace a1:=a1.mono be
       replace bd:=bd.mono be
       replace cf:=cf.mono be
       replace d8:=d8.mono be
       replace O:=be _ _ O
       refine At.go 38 1 [(14,vI 0)] ?_
       have k2:∀(m:Nat) (q:Int) (fa:ax) (hm:(aP z).cr.length-q.toNat<m) (h4:0≤q) (ch:St h g (aV []) d9 [d5] fa),At (bX prog B 7 f7 R) [] 38 [(1,vI client),(10,vP am),(13,vP Y),(14,vI q)] fa:=by
        intro m;induction m with
        |zero=>intros;omega
        |succ m k3=>
         intro q fa hm h4 ch
         refine At.rp 5 2 [(100,vI q),(101,vQ Y 4)] ?_
         refine Op.l1 62 101 102 4 (vL a229 (((aP z).cr).length) d7) (ch.sub _ _ a4) ?_
         refine Op.pg 39 [(104,.bool (decide (q<(((aP z).cr).length:Int))))] ?_
         refine At.fd (q<(((aP z).cr).length:Int)) 104 40 45 (fun tz=>?_) fun tA=>?_
         ·refine At.rp 8 1 [(107,vQ Y 4)] ?_
          refine Op.l1 62 107 108 4 (vL a229 (((aP z).cr).length) d7) (ch.sub _ _ a4) ?_
          refine Op.px 1 [(109,vI q)] ?_
          obtain⟨db,hp⟩:=cG ((aP z).cr) q
          obtain⟨hr,fg,tB,tR,k4,k5,fi⟩:=av.bF cf _ hp
          cases k4
          refine Op.iq 62 85 3 24 (((aP z).cr).length) d7 108 109 110 hr fg q ?_
          replace fi:cut _ _ _=[vI db.Client,vI db.aF,vI db.cC]:=fi
          refine Op.px 1 [(111,vQ hr (fg+q.toNat*3))] ?_
          refine Op.l1 3 111 112 (fg+q.toNat*3) (vI db.Client) (ch.sub _ _ k5) ?_ (hv:=c_ fi 0 rfl)
          refine Op.pg 41 [(114,.bool (db.Client==client))] ?_
          refine At.fd (db.Client=client) 114 42 44 (fun tS=>?_) fun t0=>?_
          ·exact At.gr 43 1 6 (.bool false) (hR ch.drop ⟨(aS (by exact absurd ‹_› (TH hZ a7 (cj hp)))),rfl⟩)
          refine At.rp 3 1 [(105,vI q)] ?_
          refine Op.cE 106 (q+1) (by omega) (by(have h9:=(jv a7).2.2.1;omega)) ?_
          exact Op.pg 38 [(14,vI (q+1))] (At.ke (k3 (q+1) _ (by omega) (by omega) ch))
         refine At.go 46 1 [(15,vI 0)] ?_
         have k6:∀(m:Nat) (ab:Int) (fj:ax) (hm:(aP z).cJ.length-ab.toNat<m) (h5:0≤ab) (ci:St h g (aV []) d9 [d5] fj),At (bX prog B 7 f7 R) [] 46 [(1,vI client),(10,vP am),(13,vP Y),(15,vI ab)] fj:=by
          intro m;induction m with
          |zero=>intros;omega
          |succ m k7=>
           intro ab fj hm h5 ci
           refine At.rp 5 2 [(115,vI ab),(116,vQ Y 3)] ?_
           refine Op.l1 41 116 117 3 (vL eB (((aP z).cJ).length) n225) (ci.sub _ _ a4) ?_
           refine Op.pg 47 [(119,.bool (decide (ab<(((aP z).cJ).length:Int))))] ?_
           refine At.fd (ab<(((aP z).cJ).length:Int)) 119 48 53 (fun t1=>?_) fun t2=>?_
           ·refine At.rp 8 1 [(122,vQ Y 3)] ?_
            refine Op.l1 41 122 123 3 (vL eB (((aP z).cJ).length) n225) (ci.sub _ _ a4) ?_
            refine Op.px 1 [(124,vI ab)] ?_
            obtain⟨dc,hu⟩:=cG ((aP z).cJ) ab
            obtain⟨hw,fl,t3,t4,k8,lc,fp⟩:=av.bF bd _ hu
            cases k8
            refine Op.iq 41 45 3 32 (((aP z).cJ).length) n225 123 124 125 hw fl ab ?_
            replace fp:cut _ _ _=[vI dc.Client,vI dc.Kind,vS dc.af]:=fp
            refine Op.px 1 [(126,vQ hw (fl+ab.toNat*3))] ?_
            refine Op.l1 3 126 127 (fl+ab.toNat*3) (vI dc.Client) (ci.sub _ _ lc) ?_ (hv:=c_ fp 0 rfl)
            refine Op.pg 49 [(129,.bool (dc.Client==client))] ?_
            refine At.fd (dc.Client=client) 129 50 52 (fun t5=>?_) fun t6=>?_
            ·exact At.gr 51 1 6 (.bool false) (hR ci.drop ⟨(aS (by exact absurd ‹_› (TI hZ (cj hu)))),rfl⟩)
            refine At.rp 3 1 [(120,vI ab)] ?_
            refine Op.cE 121 (ab+1) (by omega) (by(have h9:=(jv a7).2.1;omega)) ?_
            exact Op.pg 46 [(15,vI (ab+1))] (At.ke (k7 (ab+1) _ (by omega) (by omega) ci))
           refine At.go 54 1 [(16,vI 0)] ?_
           have lh:∀(m:Nat) (ad:Int) (fr:ax) (hm:(aP z).aT.length-ad.toNat<m) (h6:0≤ad) (ck:St h g (aV []) d9 [d5] fr),At (bX prog B 7 f7 R) [] 54 [(1,vI client),(10,vP am),(13,vP Y),(16,vI ad)] fr:=by
            intro m;induction m with
            |zero=>intros;omega
            |succ m li=>
             intro ad fr hm h6 ck
             refine At.rp 5 2 [(130,vI ad),(131,vQ Y 5)] ?_
             refine Op.l1 41 131 132 5 (vL eE (((aP z).aT).length) n235) (ck.sub _ _ a4) ?_
             refine Op.pg 55 [(134,.bool (decide (ad<(((aP z).aT).length:Int))))] ?_
             refine At.fd (ad<(((aP z).aT).length:Int)) 134 56 61 (fun t7=>?_) fun t8=>?_
             ·refine At.rp 8 1 [(137,vQ Y 5)] ?_
              refine Op.l1 41 137 138 5 (vL eE (((aP z).aT).length) n235) (ck.sub _ _ a4) ?_
              refine Op.px 1 [(139,vI ad)] ?_
              obtain⟨dd,hx⟩:=cG ((aP z).aT) ad
              obtain⟨hy,ft,t9,ub,lj,lk,fv⟩:=av.bF d8 _ hx
              cases lj
              refine Op.iq 41 45 3 32 (((aP z).aT).length) n235 138 139 140 hy ft ad ?_
              replace fv:cut _ _ _=[vI dd.Client,vI dd.Kind,vS dd.af]:=fv
              refine Op.px 1 [(141,vQ hy (ft+ad.toNat*3))] ?_
              refine Op.l1 3 141 142 (ft+ad.toNat*3) (vI dd.Client) (ck.sub _ _ lk) ?_ (hv:=c_ fv 0 rfl)
              refine Op.pg 57 [(144,.bool (dd.Client==client))] ?_
              refine At.fd (dd.Client=client) 144 58 60 (fun ui=>?_) fun ul=>?_
              ·exact At.gr 59 1 6 (.bool false) (hR ck.drop ⟨(aS (by exact absurd ‹_› (TJ hZ a7 (cj hx)))),rfl⟩)
              refine At.rp 3 1 [(135,vI ad)] ?_
              refine Op.cE 136 (ad+1) (by omega) (by(have h9:=(jv a7).2.2.2.1;omega)) ?_
              exact Op.pg 54 [(16,vI (ad+1))] (At.ke (li (ad+1) _ (by omega) (by omega) ck))
             refine At.go 62 1 [(17,vI 0)] ?_
             refine At.go 63 1 [(18,vI 0)] ?_
             have ll:∀(m:Nat) (n:Int) (k:Int) (fw:ax) (hm:(aP y).bZ.length-k.toNat<m) (h7:0≤k) (h8:k≤(aP y).bZ.length) (hn:o6 y z k n) (co:St h g (aV []) d9 [d5] fw),At (bX prog B 7 f7 R) [] 63 [(1,vI client),(10,vP am),(13,vP Y),(17,vI n),(18,vI k)] fw:=by
              intro m;induction m with
              |zero=>intros;omega
              |succ m df=>
               intro n k fw hm h7 h8 hn co
               refine At.rp 5 2 [(145,vI k),(146,vQ am 2)] ?_
               refine Op.l1 57 146 147 2 (vL a119 (((aP y).bZ).length) n120) (co.sub _ _ O) ?_
               refine Op.pg 64 [(149,.bool (decide (k<(((aP y).bZ).length:Int))))] ?_
               refine At.fd (k<(((aP y).bZ).length:Int)) 149 65 86 (fun us=>?_) fun ut=>?_
               ·refine At.rp 7 1 [(152,vQ am 2)] ?_
                refine Op.l1 57 152 153 2 (vL a119 (((aP y).bZ).length) n120) (co.sub _ _ O) ?_
                refine Op.px 1 [(154,vI k)] ?_
                obtain⟨I,hz⟩:=cG ((aP y).bZ) k
                obtain⟨lm,hA,u1,u2,ln,lr,fx⟩:=av.bF J _ hz
                cases ln
                refine Op.iq 57 39 6 72 (((aP y).bZ).length) n120 153 154 155 lm hA k ?_
                obtain⟨u3,hC,fx⟩:=fx
                obtain⟨eI,n335,rfl⟩:=hC.aj
                refine Op.la 39 155 156 (hA+k.toNat*6) 6 [vS I.af,vL eI I.Data.length n335,vI I.ai,vI I.aD,vI I.Next,vI I.aL] (co.sub _ _ lr) ?_ (hv:=fx)
                refine Op.al 19 39 #[vS [],vN,vI 0,vI 0,vI 0,vI 0] co fun dg u4 lv=>?_
                refine Op.sg 39 19 156 0 0 #[vS I.af,vL eI I.Data.length n335,vI I.ai,vI I.aD,vI I.Next,vI I.aL] lv (fun _=>trivial) fun vd lw=>?_
                refine Op.gt 66 ?_
                refine At.go 67 1 [(20,.bool false)] ?_
                refine At.go 68 1 [(21,vI 0)] ?_
                have lx:∀(m:Nat) (X:Bool) (u:Int) (f0:ax) (hm:(aP z).bZ.length-u.toNat<m) (f1:0≤u) (hxl:(aP y).bZ[k.toNat]?=some I) (a5:X=hasB ((aP z).bZ.take u.toNat) I) (U:St h g (aV []) d9 [[(dg,Obj.cells #[vS I.af,vL eI I.Data.length n335,vI I.ai,vI I.aD,vI I.Next,vI I.aL] 39 (0,0))],d5] f0),At (bX prog B 7 f7 R) [] 68 [(1,vI client),(10,vP am),(13,vP Y),(17,vI n),(18,vI k),(19,vP dg),(20,.bool X),(21,vI u)] f0:=by
                 intro m;induction m with
                 |zero=>intros;omega
                 |succ m hD=>
                  intro X u f0 hm f1 hxl a5 U
                  refine At.rp 5 2 [(157,vI u),(158,vQ Y 2)] ?_
                  refine Op.l1 57 158 159 2 (vL d6 (((aP z).bZ).length) bm) (U.sub _ _ a4) ?_
                  refine Op.pg 69 [(161,.bool (decide (u<(((aP z).bZ).length:Int))))] ?_
                  refine At.fd (u<(((aP z).bZ).length:Int)) 161 70 78 (fun ve=>?_) fun vo=>?_
                  ·refine At.dw (fun _=>False) [(0,true),(2,true),(6,true),(1,true),(3,true),(4,true),(5,true),(7,false),(8,true)] ?_
                   refine Op.px 3 [(164,vQ Y 2),(166,vI u),(170,vP dg)] ?_
                   refine Op.lf 57 164 2 165 1 (vL d6 (((aP z).bZ).length) bm) (fun h=>h) (U.sub _ _ a4) ?_
                   obtain⟨a0,dj⟩:=cG ((aP z).bZ) u
                   obtain⟨eJ,dk,vx,vy,ly,lA,f2⟩:=av.bF a1 _ dj
                   cases ly
                   refine Op.iq 57 39 6 72 (((aP z).bZ).length) bm 165 166 167 eJ dk u ?_
                   obtain⟨v1,lL,f2⟩:=f2
                   obtain⟨v2,v3,rfl⟩:=lL.aj
                   refine Op.px 1 [(168,vQ eJ (dk+u.toNat*6))] ?_
                   refine Op.gB (T:=9) (x:=168) (o:=dk+u.toNat*6) (d:=169) (n:=1) (v:=vS a0.af) (by kernel_rfl) (by kernel_rfl) (by kernel_rfl) (fun h=>h) (U.sub _ _ lA) (c_ f2 0 rfl) ?_
                   refine Op.l1 9 170 171 0 (vS I.af) (U.ah 0 rfl) ?_
                   refine Op.vl 172 (.bool ((bp a0.af).toList==(bp I.af).toList)) (.bool (a0.af==I.af)) (by rw[toList_mkS,toList_mkS]) ?_
                   refine Op.gt 71 ?_
                   refine At.di (a0.af==I.af) 172 72 77 (fun hE=>?_) fun hF=>?_
                   ·replace hE:=eq_of_beq hE
                    refine At.go 73 1 [(20,.bool true)] ?_
                    refine At.dw (fun _=>False) [(0,true),(2,true),(1,true),(3,true),(4,true),(5,false),(6,false),(7,true)] ?_
                    refine Op.px 2 [(173,vQ Y 2),(175,vI u)] ?_
                    refine Op.lf 57 173 2 174 1 (vL (some ⟨eJ,dk,none⟩) (((aP z).bZ).length) bm) (fun h=>h) (U.sub _ _ a4) ?_
                    obtain⟨v4,v5,v6,v8,lO,l0,f3⟩:=av.bF a1 _ dj
                    cases lO
                    refine Op.iq 57 39 6 72 (((aP z).bZ).length) bm 174 175 176 eJ dk u ?_
                    obtain⟨v9,hG,f3⟩:=f3
                    obtain⟨l2,l3,rfl⟩:=hG.aj
                    refine Op.iU (T:=39) (x:=176) (o:=dk+u.toNat*6) (d:=177) (n:=6) (vs:=[vS a0.af,vL l2 a0.Data.length l3,vI a0.ai,vI a0.aD,vI a0.Next,vI a0.aL]) (by kernel_rfl) (by kernel_rfl) (by kernel_rfl) (fun h=>h) (U.sub _ _ l0) f3 rfl ?_
                    refine Op.la 39 19 178 0 6 [vS I.af,vL eI I.Data.length n335,vI I.ai,vI I.aD,vI I.Next,vI I.aL] (U.ah 0 rfl) ?_
                    refine Op.c1 179 (vm _ _ _ U.sub G a0 _ hG I _ hC (by((try dsimp only)<;>(exact(jv a7).1.2 _ (cj dj))))) U fun wa hH=>?_
                    refine Op.pg 74 [(180,.bool (!(decide (a0=I))))] ?_
                    refine At.di (!(decide (a0=I))) 180 75 77 (fun hI=>?_) fun hJ=>?_
                    ·replace hI:=jq (dG hI)
                     exact At.gr 76 1 6 (.bool false) (hR hH.drop.drop ⟨(aS (by exact absurd (LL hZ hB (cj dj) (cj hxl) ‹_›) ‹_›)),rfl⟩)
                    replace hJ:=gp (dH hJ)
                    refine At.rp 3 1 [(162,vI u)] ?_
                    refine Op.cE 163 (u+1) (by omega) (by(have h9:=(jv a7).1.1;omega)) ?_
                    exact Op.pg 68 [(21,vI (u+1))] (At.ke (hD true (u+1) _ (by omega) (by omega) (by exact hxl) (by exact TM f1 dj ‹_›) hH))
                   replace hF:=n4 hF
                   refine At.rp 3 1 [(162,vI u)] ?_
                   refine Op.cE 163 (u+1) (by omega) (by(have h9:=(jv a7).1.1;omega)) ?_
                   exact Op.pg 68 [(21,vI (u+1))] (At.ke (hD X (u+1) _ (by omega) (by omega) (by exact hxl) (by exact TN a5 f1 dj ‹_›) U))
                  refine At.rp 16 1 [(181,vQ dg 3)] ?_
                  refine Op.l1 3 181 182 3 (vI I.aD) (U.ah 0 rfl) ?_
                  refine Op.px 2 [(184,.bool (I.aD==((-1):Int)))] ?_
                  refine Op.wd (I.aD=((-1):Int)) 184 (fun wc=>?_) fun wi=>?_
                  ·refine Op.px 4 [(188,.bool (!X))] ?_
                   refine Op.wb (!X) 188 (fun hK=>?_) fun hL=>?_
                   ·replace hK:=(dG hK)
                    refine Op.pg 79 [(196,.bool true)] ?_
                    refine At.bW 196 80 ?_
                    exact At.gr 81 1 6 (.bool false) (hR U.drop.drop ⟨(aS (by exact Bool.noConfusion ((TO hZ hB (cj hxl) ‹_›).symm.trans ((tH a5 ‹_›).symm.trans ‹_›)))),rfl⟩)
                   replace hL:=(dH hL)
                   refine Op.px 1 [(189,vQ dg 3)] ?_
                   refine Op.l1 3 189 190 3 (vI I.aD) (U.ah 0 rfl) ?_
                   refine Op.px 3 [(193,.bool (I.aD==client))] ?_
                   refine Op.wd (I.aD=client) 193 (fun wn=>?_) fun wp=>?_
                   ·refine Op.pg 79 [(196,.bool X)] ?_
                    refine At.di X 196 80 82 (fun wr=>?_) fun l4=>?_
                    ·exact At.gr 81 1 6 (.bool false) (hR U.drop.drop ⟨(aS (by exact Bool.noConfusion ((LM hZ hB (cj hxl) ‹_›).symm.trans ((tH a5 ‹_›).symm.trans ‹_›)))),rfl⟩)
                    refine At.go 83 1 [(197,.bool X)] ?_
                    refine At.di X 197 84 85 (fun hb=>?_) fun wt=>?_
                    ·exact Bool.noConfusion (hb.symm.trans l4)
                    refine At.rp 3 1 [(150,vI k)] ?_
                    refine Op.vq 151 (k+1) ?_
                    refine Op.pg 63 [(18,vI (k+1))] ?_
                    have l8:=U.drop
                    exact At.ke (df n (k+1) _ (by omega) (by omega) (by omega) (by exact CI hn h7 hxl ((tH a5 ‹_›).symm.trans ‹_›)) l8)
                   refine Op.pg 79 [(196,.bool false)] ?_
                   refine At.dK 196 82 ?_
                   refine At.go 83 1 [(197,.bool X)] ?_
                   refine At.di X 197 84 85 (fun ww=>?_) fun wx=>?_
                   ·refine At.rp 3 1 [(198,vI n)] ?_
                    refine Op.cE 199 (n+1) (by(have h9:=CJ hn;have h8:=hB.k.ok.tree.len;omega)) (by(have h9:=CJ hn;have h8:=hB.k.ok.tree.len;omega)) ?_
                    refine Op.pg 85 [(17,vI (n+1))] ?_
                    refine At.rp 3 1 [(150,vI k)] ?_
                    refine Op.cE 151 (k+1) (by omega) (by(have h9:=(jv hB.k).1.1;omega)) ?_
                    refine Op.pg 63 [(18,vI (k+1))] ?_
                    have ma:=U.drop
                    exact At.ke (df (n+1) (k+1) _ (by omega) (by omega) (by omega) (by exact LN hn h7 hxl ((tH a5 ‹_›).symm.trans ‹_›)) ma)
                   refine At.rp 3 1 [(150,vI k)] ?_
                   refine Op.cE 151 (k+1) (by omega) (by(have h9:=(jv hB.k).1.1;omega)) ?_
                   refine Op.pg 63 [(18,vI (k+1))] ?_
                   have md:=U.drop
                   exact At.ke (df n (k+1) _ (by omega) (by omega) (by omega) (by exact CI hn h7 hxl ((tH a5 ‹_›).symm.trans ‹_›)) md)
                  refine Op.px 5 [(188,.bool false),(189,vQ dg 3)] ?_
                  refine Op.l1 3 189 190 3 (vI I.aD) (U.ah 0 rfl) ?_
                  refine Op.px 3 [(193,.bool (I.aD==client))] ?_
                  refine Op.wd (I.aD=client) 193 (fun wy=>?_) fun w0=>?_
                  ·refine Op.pg 79 [(196,.bool X)] ?_
                   refine At.di X 196 80 82 (fun w1=>?_) fun mf=>?_
                   ·exact At.gr 81 1 6 (.bool false) (hR U.drop.drop ⟨(aS (by exact Bool.noConfusion ((LM hZ hB (cj hxl) ‹_›).symm.trans ((tH a5 ‹_›).symm.trans ‹_›)))),rfl⟩)
                   refine At.go 83 1 [(197,.bool X)] ?_
                   refine At.di X 197 84 85 (fun hb=>?_) fun w2=>?_
                   ·exact Bool.noConfusion (hb.symm.trans mf)
                   refine At.rp 3 1 [(150,vI k)] ?_
                   refine Op.cE 151 (k+1) (by omega) (by(have h9:=(jv hB.k).1.1;omega)) ?_
                   refine Op.pg 63 [(18,vI (k+1))] ?_
                   have mi:=U.drop
                   exact At.ke (df n (k+1) _ (by omega) (by omega) (by omega) (by exact CI hn h7 hxl ((tH a5 ‹_›).symm.trans ‹_›)) mi)
                  refine Op.pg 79 [(196,.bool false)] ?_
                  refine At.dK 196 82 ?_
                  refine At.go 83 1 [(197,.bool X)] ?_
                  refine At.di X 197 84 85 (fun w3=>?_) fun w7=>?_
                  ·refine At.rp 3 1 [(198,vI n)] ?_
                   refine Op.cE 199 (n+1) (by(have h9:=CJ hn;have h8:=hB.k.ok.tree.len;omega)) (by(have h9:=CJ hn;have h8:=hB.k.ok.tree.len;omega)) ?_
                   refine Op.pg 85 [(17,vI (n+1))] ?_
                   refine At.rp 3 1 [(150,vI k)] ?_
                   refine Op.cE 151 (k+1) (by omega) (by(have h9:=(jv hB.k).1.1;omega)) ?_
                   refine Op.pg 63 [(18,vI (k+1))] ?_
                   have ml:=U.drop
                   exact At.ke (df (n+1) (k+1) _ (by omega) (by omega) (by omega) (by exact LN hn h7 hxl ((tH a5 ‹_›).symm.trans ‹_›)) ml)
                  refine At.rp 3 1 [(150,vI k)] ?_
                  refine Op.cE 151 (k+1) (by omega) (by(have h9:=(jv hB.k).1.1;omega)) ?_
                  refine Op.pg 63 [(18,vI (k+1))] ?_
                  have mp:=U.drop
                  exact At.ke (df n (k+1) _ (by omega) (by omega) (by omega) (by exact CI hn h7 hxl ((tH a5 ‹_›).symm.trans ‹_›)) mp)
                exact At.ke (lx _ false 0 _ (bM _) (by omega) (by exact hz) (by exact TK) lw)
               refine At.rp 6 2 [(200,vI n),(201,vQ Y 2)] ?_
               refine Op.l1 57 201 202 2 (vL d6 (((aP z).bZ).length) bm) (co.sub _ _ a4) ?_
               exact Op.pr 87 6 (.bool (n==(((aP z).bZ).length:Int))) (hR co.drop ⟨(aS (by exact eu (TQ hn hZ hB ‹_›))),rfl⟩)
             exact At.ke (ll _ 0 0 _ (bM _) (by omega) (by omega) (by exact TP) ck)
           exact At.ke (lh _ 0 _ (bM _) (by omega) ci)
         exact At.ke (k6 _ 0 _ (bM _) (by omega) ch)
       exact At.ke (k2 _ 0 _ (bM _) (by omega) hj)
     refine At.rp 7 3 [(91,vP ae),(92,vI dD),(93,vI kN)] ?_
     refine Op.vl 94 (.int .i64 (IntKind.wrap .i64 (((BitVec.ofInt (IntKind.bits .i64) kN &&& BitVec.ofInt (IntKind.bits .i64) (15:Int)).toNat:Nat):Int))) (.int .i64 (gG kN 15)) rfl ?_
     refine Op.cE 95 (dD+(gG kN 15)) (by(have h9:=LK hB (FB hs ‹_›);have h8:=LJ kN;omega)) (by(have h9:=LK hB (FB hs ‹_›);have h8:=LJ kN;omega)) ?_
     refine Op.px 1 [(96,.agg #[vI (-1),vI 0,vI (dD+(gG kN 15)),vN])] ?_
     refine Op.cl (some 97) 1 ar (pR _ _ _ ar.sub G ae y _ aw (⟨(-1),0,dD+(gG kN 15),[]⟩:bN) _ (av.nil _ _ _) _ _ (av.nil _ _ _) hP (by((try dsimp only)<;>(exact hB.k.ok.wk (by have h9:=cP list;omega)))) (by(try dsimp only)<;>exact fH _) (by((try dsimp only)<;>(exact hB.k.ct (by have h9:=cP list;omega)))) (by(try dsimp only)<;>exact hB.k.fD) (by((try dsimp only)<;>(exact pS hB.k h0 (by have h9:=cP list;omega)))) (St.pt 1 ar)) ?_
     rintro _ xa _ xc mx my ⟨xf,xi,xn,rfl,m0,m1,rfl⟩
     obtain⟨xr,xt,rfl⟩:=m0.aj
     replace O:=mx _ _ O
     refine Op.gt 36 ?_
     have m2:=(my.aa 0 rfl).aa 1 rfl
     have m3:=m2.drop
     exact At.ke (kh _ _ (by repeat (first|assumption|exact aM.refl _|apply aM.trans)) (bD y (⟨(-1),0,dD+(gG kN 15),[]⟩:bN) ([]:an)) _ _ (bM _) (by exact TF hB (FB hs ‹_›) ‹_› rfl) (by exact TG hB h0 (by have h9:=cP list;omega) rfl) m1 m3)
   exact At.ke (jj _ (-1) 0 _ (bM _) (by omega) (by omega) (by exact TB) g6)
 exact At.ke (hW _ _ (aM.refl _) mL 0 _ _ (bM _) (by omega) (by omega) (by exact nc.new) hV hT)
end Go.Proofs.YtceekbnihfckeaaGreatDoor.Sw
