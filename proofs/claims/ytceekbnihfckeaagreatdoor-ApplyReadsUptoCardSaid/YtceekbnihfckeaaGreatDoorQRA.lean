/- Lemmas for laws of this seat. -/
import Derived.Test.YtceekbnihfckeaaGreatDoorQBP
namespace Go.Proofs.YtceekbnihfckeaaGreatDoor.Sw
open Go.Proofs.Tryz
set_option linter.unusedVariables false
set_option linter.unusedSimpArgs false
set_option linter.deprecated false
open Go
set_option linter.defProp false
def vc:=@List.map_eq_nil_iff
def yA:=@Nat.div_lt_of_lt_mul
def yB:=@Nat.mul_assoc
def nC:=@List.drop_left
def nZ:=@Int.toNat_natCast
def kO:=@List.getD_cons_zero
def kP:=@List.getD_cons_succ
def tK:=@List.all_map
def rD:=@List.any_append
def tL:=@Bool.or_false
def vf:=@Bool.or_true
def ng:=@List.sum_cons
def vg:Kd Bool where
  sz:=1
  K _ x cs:=cs=[.bool x]
  len h:=by subst h;rfl
  one h:=by subst h;simp[Value.oneCell']
  mono _ h:=h
  zv:=false
  zc:=[.bool false]
  zK _:=rfl
section
variable {α:Type} {d:Kd α} {g g':GH}
end
section
variable {α:Type} {d:Kd α} {g g':GH} {h h':ax} {T:TypeId} {v:Value} {xs:List α}
end
section
variable {α:Type} {d:Kd α} {g g':GH} {h h':ax} {T:TypeId} {v:Value} {xs:List α} {c:ay}
end
theorem vh {cs:Array Value} {o n:Nat} {vs ws:List Value} (h:cut cs o n=vs) (k m:Nat) (hv:(vs.drop k).take m=ws) (hm:k+m≤n:=by omega):cut cs (o+k) m=ws:=by
  rw[←qo cs o n k m hm,h,hv]
mutual
def jE:aG→Nat
  |⟨_,_,_,_,_,_,_,_,ops⟩=>gy ops+1
def gy:List aG→Nat
  |[]=>0
  |x::xs=>max (jE x) (gy xs)
end
theorem vi (x:aG):jE x=gy x.az+1:=by
  obtain⟨k,p,u,D,sp,b,G,w,ops⟩:=x
  rw[jE]
end Go.Proofs.YtceekbnihfckeaaGreatDoor.Sw
namespace Go.Proofs.YtceekbnihfckeaaGreatDoor.Sw
open Go.Proofs.Tryz
set_option linter.unusedVariables false
set_option linter.unusedSimpArgs false
set_option linter.deprecated false
open Go
section
variable {ns out:List ag} {l x:ag} {i:Int} {put:Bool}
end
section
variable {ns:List ag} {p data q:aQ} {cI born bO o' b':Int} {num:Bool} {up x:ag} {k:Int}
theorem vj (a b:ag):decide (a=b)=(decide (a.af=b.af)&&(decide (a.Data=b.Data)&&(decide (a.ai=b.ai)&&(decide (a.aD=b.aD)&&(decide (a.Next=b.Next)&&decide (a.aL=b.aL)))))):=by
  obtain⟨a1,a2,a3,a4,a5,u⟩:=a
  obtain⟨b1,b2,D,G,I,J⟩:=b
  rw[kQ]
  simp[ag.mk.injEq]
theorem jP {a b:ag} (h:¬a.af=b.af∨¬a.Data=b.Data∨¬a.ai=b.ai∨¬a.aD=b.aD∨¬a.Next=b.Next):false=decide (a=b):=by
  refine(gb fun e=>?_).symm
  subst e
  rcases h with h|h|h|h|h
  all_goals exact h rfl
theorem vk {a b:ag} (h1:a.af=b.af) (h2:a.Data=b.Data) (h3:a.ai=b.ai) (h4:a.aD=b.aD) (h5:a.Next=b.Next):(a.aL==b.aL)=decide (a=b):=by
  rw[vj,eu h2,eu h1,eu h3,eu h4,eu h5]
  simp only[lp]
  rw[kQ]
  simp
end
section
variable {list:List ag} {i:Int} {l x:ag}
end
section
variable {list:List ag} {i:Int} {l x:ag}
end
end Go.Proofs.YtceekbnihfckeaaGreatDoor.Sw
namespace Go.Proofs.YtceekbnihfckeaaGreatDoor.Sw
open Go.Proofs.Tryz
open Go
set_option maxRecDepth 100000
set_option linter.unusedVariables false
set_option linter.unusedSimpArgs false
set_option linter.deprecated false
theorem vm (B:World) (h:ax) (g:GH) (hg:bl g h) (ar:bq g) (a:ag) (J:Value) (O:av g 5 br J a.Data) (b:ag) (U:Value) (V:av g 5 br U b.Data) (h1:a.Data.length≤1000000000):
  aE prog B 42 #[.agg #[vS a.af,J,vI a.ai,vI a.aD,vI a.Next,vI a.aL],.agg #[vS b.af,U,vI b.ai,vI b.aD,vI b.Next,vI b.aL]] h g [] (fun aw g' L'=>aw=.bool (decide (a=b))∧g'=g∧L'=[]):=by
 obtain⟨X,Y,rfl⟩:=O.aj
 obtain⟨ab,ad,rfl⟩:=V.aj
 refine aE.aq func42 fun R hR=>?_
 have a0:=St.init hg
 refine At.rg 3 ?_
 refine Op.bx 2 39 0 #[vS a.af,vL X a.Data.length Y,vI a.ai,vI a.aD,vI a.Next,vI a.aL] a0 fun G a3 a1=>?_
 refine Op.bx 3 39 1 #[vS b.af,vL ab b.Data.length ad,vI b.ai,vI b.aD,vI b.Next,vI b.aL] a1 fun I a4 D=>?_
 refine Op.pg 1 [] ?_
 refine At.rp 41 1 [(5,vP G)] ?_
 refine Op.l1 9 5 6 0 (vS a.af) (D.ah 1 rfl) ?_
 refine Op.px 1 [(7,vP I)] ?_
 refine Op.l1 9 7 8 0 (vS b.af) (D.ah 0 rfl) ?_
 refine Op.vl 9 (.bool ((bp a.af).toList==(bp b.af).toList)) (.bool (a.af==b.af)) (by rw[toList_mkS,toList_mkS]) ?_
 refine Op.px 1 [(10,.bool (a.af==b.af))] ?_
 refine Op.wb (a.af==b.af) 10 (fun ae=>?_) fun am=>?_
 ·replace ae:=eq_of_beq ae
  refine Op.px 1 [(11,vQ G 1)] ?_
  refine Op.l1 22 11 12 1 (vL X a.Data.length Y) (D.ah 1 rfl) ?_
  refine Op.px 1 [(13,vQ I 1)] ?_
  refine Op.l1 22 13 14 1 (vL ab b.Data.length ad) (D.ah 0 rfl) ?_
  refine Op.c1 15 (tM _ _ _ D.sub ar _ _ O _ _ V (by(try dsimp only)<;>omega)) D fun a5 u=>?_
  refine Op.px 2 [(17,.bool (decide (a.Data=b.Data)))] ?_
  refine Op.wd (a.Data=b.Data) 17 (fun a6=>?_) fun a7=>?_
  ·refine Op.px 1 [(18,vQ G 2)] ?_
   refine Op.l1 3 18 19 2 (vI a.ai) (u.ah 1 rfl) ?_
   refine Op.px 1 [(20,vQ I 2)] ?_
   refine Op.l1 3 20 21 2 (vI b.ai) (u.ah 0 rfl) ?_
   refine Op.px 3 [(24,.bool (a.ai==b.ai))] ?_
   refine Op.wd (a.ai=b.ai) 24 (fun a8=>?_) fun a9=>?_
   ·refine Op.px 1 [(25,vQ G 3)] ?_
    refine Op.l1 3 25 26 3 (vI a.aD) (u.ah 1 rfl) ?_
    refine Op.px 1 [(27,vQ I 3)] ?_
    refine Op.l1 3 27 28 3 (vI b.aD) (u.ah 0 rfl) ?_
    refine Op.px 3 [(31,.bool (a.aD==b.aD))] ?_
    refine Op.wd (a.aD=b.aD) 31 (fun bc=>?_) fun bd=>?_
    ·refine Op.px 1 [(32,vQ G 4)] ?_
     refine Op.l1 3 32 33 4 (vI a.Next) (u.ah 1 rfl) ?_
     refine Op.px 1 [(34,vQ I 4)] ?_
     refine Op.l1 3 34 35 4 (vI b.Next) (u.ah 0 rfl) ?_
     refine Op.px 3 [(38,.bool (a.Next==b.Next))] ?_
     refine Op.wd (a.Next=b.Next) 38 (fun be=>?_) fun bi=>?_
     ·refine Op.px 1 [(39,vQ G 5)] ?_
      refine Op.l1 3 39 40 5 (vI a.aL) (u.ah 1 rfl) ?_
      refine Op.px 1 [(41,vQ I 5)] ?_
      refine Op.l1 3 41 42 5 (vI b.aL) (u.ah 0 rfl) ?_
      exact Op.pr 2 4 (.bool (a.aL==b.aL)) (hR u.drop.drop ⟨(aS (by exact vk ‹_› ‹_› ‹_› ‹_› ‹_›)),rfl,rfl⟩)
     exact Op.pr 2 4 (.bool false) (hR u.drop.drop ⟨(aS (by exact jP (.inr (.inr (.inr (.inr ‹_›)))))),rfl,rfl⟩)
    exact Op.pr 2 4 (.bool false) (hR u.drop.drop ⟨(aS (by exact jP (.inr (.inr (.inr (.inl ‹_›)))))),rfl,rfl⟩)
   exact Op.pr 2 4 (.bool false) (hR u.drop.drop ⟨(aS (by exact jP (.inr (.inr (.inl ‹_›))))),rfl,rfl⟩)
  exact Op.pr 2 4 (.bool false) (hR u.drop.drop ⟨(aS (by exact jP (.inr (.inl ‹_›)))),rfl,rfl⟩)
 replace am:=n4 am
 exact Op.pr 2 4 (.bool false) (hR D.drop.drop ⟨(aS (by exact jP (.inl ‹_›))),rfl,rfl⟩)
theorem yC (B:World) (h:ax) (g:GH) (hg:bl g h) (a9:bq g) (ae:Value) (a:List ag) (am:av g 39 mu ae a) (ar:Value) (b:List ag) (aw:av g 39 mu ar b) (h1:a.length≤1000000000) (hd:∀n∈a,n.Data.length≤1000000000):
  aE prog B 45 #[ae,ar] h g [] (fun bc g' L'=>bc=.bool (decide (a=b))∧g'=g∧L'=[]):=by
 obtain⟨a0,J,rfl⟩:=am.aj
 obtain⟨a1,O,rfl⟩:=aw.aj
 refine aE.aq func45 fun R hR=>?_
 have a3:=St.init hg
 refine At.go 1 1 [] ?_
 refine At.go 2 5 [(10,.bool ((a.length:Int) != (b.length:Int)))] ?_
 refine At.fn ((a.length:Int)=(b.length:Int)) 10 3 5 (fun b8=>?_) fun ca=>?_
 ·exact At.gr 4 1 4 (.bool false) (hR a3 ⟨(aS (by exact tN ‹_›)),rfl,rfl⟩)
 refine At.go 6 1 [(5,vI 0)] ?_
 have bd:∀(m:Nat) (i:Int) (U:ax) (hm:a.length-i.toNat<m) (h0:0≤i) (h2:i≤a.length) (ht:a.take i.toNat=b.take i.toNat) (G:St h g (aV []) g [] U),At (bX prog B 45 f45 R) [] 6 [(0,vL a0 a.length J),(1,vL a1 b.length O),(5,vI i)] U:=by
  intro m;induction m with
  |zero=>intros;omega
  |succ m be=>
   intro i U hm h0 h2 ht G
   refine At.go 7 4 [(14,.bool (decide (i<(a.length:Int))))] ?_
   refine At.fd (i<(a.length:Int)) 14 8 13 (fun cb=>?_) fun bi=>?_
   ·refine At.dw (fun _=>False) [(0,true),(1,true),(2,true),(4,true),(5,true),(6,true),(3,true),(7,false),(8,false),(9,true)] ?_
    refine Op.px 2 [(17,vL a0 a.length J),(18,vI i)] ?_
    obtain⟨u,I⟩:=cG a i
    obtain⟨bj,a4,ce,cf,bk,bm,V⟩:=av.bF am _ I
    cases bk
    refine Op.iq 57 39 6 72 a.length J 17 18 19 bj a4 i ?_
    obtain⟨ch,a5,V⟩:=V
    obtain⟨a37,bo,rfl⟩:=a5.aj
    refine Op.px 2 [(21,vL a1 b.length O),(22,vI i)] ?_
    obtain⟨D,X⟩:=cG b i
    obtain⟨bt,a6,ci,ck,b3,b4,Y⟩:=av.bF aw _ X
    cases b3
    refine Op.iq 57 39 6 72 b.length O 21 22 23 bt a6 i ?_
    obtain⟨co,a7,Y⟩:=Y
    obtain⟨b5,b6,rfl⟩:=a7.aj
    refine Op.iU (T:=39) (x:=19) (o:=a4+i.toNat*6) (d:=20) (n:=6) (vs:=[vS u.af,vL a37 u.Data.length bo,vI u.ai,vI u.aD,vI u.Next,vI u.aL]) (by kernel_rfl) (by kernel_rfl) (by kernel_rfl) (fun h=>h) (G.sub _ _ bm) V rfl ?_
    refine Op.la 39 23 24 (a6+i.toNat*6) 6 [vS D.af,vL b5 D.Data.length b6,vI D.ai,vI D.aD,vI D.Next,vI D.aL] (G.sub _ _ b4) ?_ (hv:=Y)
    refine Op.c1 25 (vm _ _ _ G.sub a9 u _ a5 D _ a7 (by((try dsimp only)<;>(exact hd _ (cj I))))) G fun c3 a8=>?_
    refine Op.pg 9 [(26,.bool (!(decide (u=D))))] ?_
    refine At.di (!(decide (u=D))) 26 10 12 (fun ab=>?_) fun ad=>?_
    ·replace ab:=jq (dG ab)
     exact At.gr 11 1 4 (.bool false) (hR a8 ⟨(aS (by exact tO I X ab)),rfl,rfl⟩)
    replace ad:=gp (dH ad)
    refine At.rp 3 1 [(15,vI i)] ?_
    refine Op.vq 16 (i+1) ?_
    exact Op.pg 6 [(5,vI (i+1))] (At.ke (be (i+1) _ (by omega) (by omega) (by omega) (by exact qp ht h0 I X ad) a8))
   exact At.gr 14 1 4 (.bool true) (hR G ⟨(aS (by exact tP ‹_› bi ht)),rfl,rfl⟩)
 exact At.ke (bd _ 0 _ (bM _) (by omega) (by omega) (by rfl) a3)
end Go.Proofs.YtceekbnihfckeaaGreatDoor.Sw
namespace Go.Proofs.YtceekbnihfckeaaGreatDoor.Sw
open Go.Proofs.Tryz
set_option linter.unusedVariables false
set_option linter.unusedSimpArgs false
set_option linter.deprecated false
set_option linter.unusedSectionVars false
open Go
section
variable {e:ja} {w:ak} {ws:List ak} {c:Int}
end
section
variable {Q:Int→Int→Prop} {ns:List ag} {l:ag} {p data:aQ} {cI born bO:Int} {num:Bool}
end
section
variable {k k':Int} {s:Sp} {kind c t:Int} {dN:List aQ} {p:aQ} {o:aG} {w:ak}
end
section
variable {k:Int} {s:Sp} {c t:Int} {b:aQ} {e:bN}
end
theorem vn {k:Int} {s:Sp} {t:Int} (H:bK k s) (h:min t 1099511627775≤s.aA):dI s t=s:=by
  have e:max s.aA (min t 1099511627775)=s.aA:=by omega
  unfold dI
  rw[e]
  have h1:gq (fA s.aA) s.book=[]:=by
    unfold gq
    rw[vc,vp]
    intro p hp
    have:=H.kr p hp
    unfold fA
    simp only[cQ]
    omega
  have h2:ia (fA s.aA) s.book=s.book:=by
    unfold ia
    rw[mJ]
    intro p hp
    have:=H.kr p hp
    unfold fA
    simp only[gN,jb]
    omega
  show jc {s with book:=ia (fA s.aA) s.book,aA:=s.aA} (gq (fA s.aA) s.book)=s
  rw[h1,h2]
  rfl
end Go.Proofs.YtceekbnihfckeaaGreatDoor.Sw
namespace Go.Proofs.YtceekbnihfckeaaGreatDoor.Sw
open Go.Proofs.Tryz
set_option linter.unusedVariables false
set_option linter.unusedSimpArgs false
set_option linter.deprecated false
open Go
theorem o7 {n:Nat} (h:n<256):(UInt8.ofNat n).toNat=n:=by
  rw[yD]
  exact o8 h
theorem tQ {c:UInt8} {r:an} {i:Nat} {a:Int} (h1:¬((i=8∧64≤c.toNat)∨(c.toNat=0∧0<i))) (h2:c.toNat<128):iz (c::r) i a=(a+((c.toNat*2 ^ (7*i):Nat):Int),(i:Int)+1,0):=by
  rw[iz,aC h1,aO h2,o8 h2]
theorem yE:∀(n v i:Nat) (a:Int) (rest:an),v<2 ^ (62-7*i)→i≤8→8≤n+i→(0<i→1≤v)→
    iz (gH n v++rest) i a=(a+((v*2 ^ (7*i):Nat):Int),(i:Int)+((gH n v).length:Int),0):=by
  intro n
  induction n with
  |zero=>
   intro v i a rest hv hi hn h1
   obtain rfl:i=8:=by omega
   have hv:v<64:=hv
   have h1:=h1 (by decide)
   have e:(UInt8.ofNat v).toNat=v:=o7 (by omega)
   rw[gH,dW,tQ (by rw[e];omega) (by rw[e];omega),e]
   rfl
  |succ n ih=>
   intro v i a rest hv hi hn h1
   have D:i=8→v<64:=fun h=>by subst h;exact hv
   rw[gH]
   split
   · rename_i hlt
     have e:(UInt8.ofNat v).toNat=v:=o7 (by omega)
     rw[dW,tQ (by rw[e];omega) (by rw[e];omega),e]
     rfl
   · rename_i G
     have I:i<8:=by omega
     have e:(UInt8.ofNat (v % 128+128)).toNat=v % 128+128:=o7 (by omega)
     have hq:v / 128<2 ^ (62-7*(i+1)):=by
       have e2:2 ^ (62-7*i)=2 ^ (62-7*(i+1))*128:=by
         rw[show 62-7*i=(62-7*(i+1))+7 by omega,AT]
       rw[e2] at hv
       exact yA (by rw[yF];exact hv)
     rw[dW,iz,aC (by rw[e];omega),aC (by rw[e];omega),e,ih (v / 128) (i+1) _ rest hq (by omega) (by omega) (fun _=>by omega)]
     have e3:(v % 128+128) % 128=v % 128:=by omega
     have u:v % 128*2 ^ (7*i)+v / 128*2 ^ (7*(i+1))=v*2 ^ (7*i):=by
       rw[yG,←yB,←nD]
       congr 1
       omega
     rw[e3,bY]
     refine n5 ?_ (n5 ?_ rfl)
     · show a+((v % 128*2 ^ (7*i):Nat):Int)+((v / 128*2 ^ (7*(i+1)):Nat):Int)=a+((v*2 ^ (7*i):Nat):Int)
       rw[←u]
       omega
     · show((i+1:Nat):Int)+((gH n (v / 128)).length:Int)=(i:Int)+(((gH n (v / 128)).length+1:Nat):Int)
       omega
theorem tT {v:Int} (h:gd v=true) (rest:an):bH (eM v++rest)=(v,((eM v).length:Int),0):=by
  obtain⟨h1,h2⟩:=yH h
  unfold bH eM
  rw[yE 9 v.toNat 0 0 rest (by show v.toNat<4611686018427387904;omega) (by decide) (by decide) (fun h=>absurd h (by decide))]
  refine n5 ?_ (n5 ?_ rfl)
  · show(0:Int)+((v.toNat*1:Nat):Int)=v
    omega
  · show((0:Nat):Int)+((gH 9 v.toNat).length:Int)=((gH 9 v.toNat).length:Int)
    omega
theorem tU (v:Int):0<(eM v).length:=(rE v).1
theorem tV:∀(fs out:List an),(∀f∈fs,f.length≤65536)→out.length+fs.length≤1024→kR (dA fs).length (dA fs) out=(out++fs,0)
  |[],out,_,_=>by simp[dA,kR]
  |f::fs,out,h,hl=>by
   have hf:=h f (by simp)
   have hok:gd (f.length:Int)=true:=jd (by omega) (by omega)
   have e:dA (f::fs)=eM f.length++(f++dA fs):=by
     unfold dA
     rw[qq]
     unfold vr
     rw[dm]
   have hr:=tT hok (f++dA fs)
   rw[←e] at hr
   have hp:=tU (f.length:Int)
   have hlen:(dA (f::fs)).length=(eM f.length).length+(f.length+(dA fs).length):=by rw[e,cA,cA]
   rw[bY] at hl
   rw[tW (by omega),hr]
   simp only[]
   rw[aC (by omega),aC (by simp),aC (by omega),aC (by omega)]
   have hd:(dA (f::fs)).drop (((eM f.length).length:Int)+(f.length:Int)).toNat=dA fs:=by
     rw[show(((eM f.length).length:Int)+(f.length:Int)).toNat=(eM f.length).length+f.length by omega,e,←qs,nC,nC]
   have ht:((dA (f::fs)).drop ((eM f.length).length:Int).toNat).take (f.length:Int).toNat=f:=by
     rw[nZ,nZ,e,nC,AU]
   rw[hd,ht,tV fs (out++[f]) (fun g hg=>h g (by simp[hg])) (by rw[cA,o9];omega),dm]
   rfl
theorem kS {fs:List an} (h:jr fs=true):bg (dA fs)=(fs,0):=by
  obtain⟨h1,h2⟩:=yI h
  exact tV fs [] h2 (by simpa using h1)
theorem tX:∀(l out:List Int),l.all gd=true→lX (dO l).length (dO l) out=(out++l,0)
  |[],out,_=>by simp[dO,lX]
  |v::l,out,h=>by
   rw[j5,b_] at h
   have e:dO (v::l)=eM v++dO l:=by unfold dO;rw[qq]
   have hr:=tT h.1 (dO l)
   rw[←e] at hr
   have hp:=tU v
   have hlen:(dO (v::l)).length=(eM v).length+(dO l).length:=by rw[e,cA]
   rw[yJ (by omega),hr]
   simp only[]
   rw[aC (by simp)]
   have hd:(dO (v::l)).drop ((eM v).length:Int).toNat=dO l:=by rw[nZ,e,nC]
   rw[hd,tX l (out++[v]) h.2,dm]
   rfl
theorem mw {l:List Int} (h:l.all gd=true):bU (dO l)=(l,0):=tX l [] h
theorem o_ {l:List Int} (h:l.all gd=true) (n:Int) (hn:(l.length:Int)=n):gI (dO l) n=true:=by
  unfold gI
  rw[mw h]
  simp[hn]
theorem tY {w:ak} (h:jF w=true):dZ (js w).1=(w,true):=by
  unfold jF at h
  simp only[b_,j6] at h
  obtain⟨h1,h2⟩:=h
  have hn:[w.Client,w.Kind].all gd=true:=by
    simp only[j5,nh,b_,mK] at h1 ⊢
    exact⟨(oz h1.1).1,(oz h1.2).1⟩
  unfold js at *
  obtain⟨h3,h4⟩:=n6 h2
  rw[h4]
  have hs:=kS h3
  rw[oA hn] at hs ⊢
  have hI:=mw hn
  unfold dZ rF
  rw[hs]
  simp only[kO,kP]
  rw[hI,o_ hn 2 rfl]
  simp
theorem yK {x:Result} (h:(cL x).2=0):ku x=true∧(dM x.bP).2=0∧x.aT.all jF=true∧(dM (je x)).2=0∧(cL x).1=(dM (je x)).1:=by
  unfold cL at *
  repeat' split at h
  all_goals first|(simp at h;done)|skip
  rename_i h1 h2 h3 h4
  refine⟨by simpa using h1,by simpa using h2,by simpa using h3,by simpa using h4,?_⟩
  rw[aC h1,aC h2,aC h3,aC h4]
theorem yL {x:Result} (h:(cL x).2=0):bw (cL x).1=(x,0):=by
  obtain⟨h1,h2,h3,h4,h5⟩:=yK h
  obtain⟨h6,h7⟩:=n6 h4
  obtain⟨h8,h9⟩:=n6 h2
  have hn:=AV h1
  have hb:(cL x).1=dA (je x):=by rw[h5,h7]
  have hs:=kS h6
  rw[←hb] at hs
  have hI:=mw hn
  have hrow:je x=(dO (pe x))::x.ag.af::x.ag.Data::dA x.bP::x.aT.map (fun w=>(js w).1):=by
    unfold je vt
    rw[oA hn,h9]
    rfl
  rw[hrow] at hs
  have hNs:=kS h8
  have hE:(x.aT.map fun w=>(js w).1).map (fun e=>(dZ e).1)=x.aT:=by
    rw[jg]
    conv=>rhs;rw[←rG x.aT]
    apply tZ
    intro w hw
    rw[ic] at h3
    simp only[Function.comp,tY (h3 w hw),id]
  have hA:(x.aT.map fun w=>(js w).1).all (fun e=>(dZ e).2)=true:=by
    rw[tK,ic]
    intro w hw
    rw[ic] at h3
    simp only[Function.comp,tY (h3 w hw)]
  have hd:j7 (cL x).1=true:=by
    unfold j7
    rw[hs]
    simp only[kO,kP,o_ hn 7 rfl,hNs]
    simp
    omega
  have u:nE (cL x).1=x.aT:=by
    unfold nE
    rw[hs]
    exact hE
  have hN:pn (cL x).1 (nE (cL x).1)=x:=by
    rw[u]
    unfold pn t_
    rw[hs]
    simp only[kO,kP,hI,hNs]
    unfold pe
    simp only[kO,kP]
    simp
  unfold bw
  rw[hd,aO rfl,hN]
  have:(List.drop (4:Int).toNat (bg (cL x).1).1).all (fun e=>(dZ e).2)=true:=by
    rw[hs]
    exact hA
  rw[this,aO rfl,aO ⟨h,rfl⟩]
end Go.Proofs.YtceekbnihfckeaaGreatDoor.Sw
namespace Go.Proofs.YtceekbnihfckeaaGreatDoor.Sw
open Go.Proofs.Tryz
set_option linter.unusedVariables false
set_option linter.unusedSimpArgs false
set_option linter.deprecated false
set_option linter.unusedSectionVars false
open Go
section
variable {k k':Int} {s:Sp} {c t:Int} {o:aG} {x:Result} {p data:aQ} {ns:List ag} {cI born bO:Int} {num:Bool}
end
section
variable {k:Int} {s:Sp} {c:Int} {b:aQ} {e:bN}
end
section
variable {s:Sp} {c t:Int} {b:aQ} {e:bN} {o:aG}
theorem yu {s u:Sp} (h:kp s=kp u):s.aA=u.aA:=congrArg (·.1) h
theorem tF:(dI s t).aA=max s.aA (min t 1099511627775):=congrArg (·.1) (AB (s:=s) (t:=t))
theorem AL:(lY s e b).aA=s.aA:=by
  have:=yu (vu (s:=cB s) (c:=e.Client) (b:=b))
  exact this
theorem AM:(bD s e b).aA=max s.aA (min e.aX 1099511627775):=by
  unfold bD
  split
  · rw[AL,tF]
  · exact tF
end
end Go.Proofs.YtceekbnihfckeaaGreatDoor.Sw
namespace Go.Proofs.YtceekbnihfckeaaGreatDoor.Sw
open Go.Proofs.Tryz
set_option linter.unusedVariables false
set_option linter.unusedSimpArgs false
set_option linter.deprecated false
open Go
theorem pq (o:aG):(fS o % 2 != (0:Int))=o.aY∧(fS o / 2 % 2*2 != (0:Int))=o.aI∧(fS o / 4 % 2*4 != (0:Int))=o.ak∧0≤fS o∧fS o≤7:=by
  unfold fS
  cases o.aY<;>cases o.aI<;>cases o.ak<;>decide
theorem ni {bR:Bool} {o:aG} (h:dr bR o=true):(gW o).all gd=true:=by
  obtain⟨h1,h2,h3,_⟩:=pz h
  obtain⟨_,_,_,h4,h5⟩:=pq o
  unfold gW
  simp only[j5,nh,b_,mK]
  exact⟨jd (by omega) (by omega),jd (by omega) (by omega),jd (by omega) (by omega),jd (by omega) (by omega)⟩
theorem ua:∀{xs:List aG},(iK xs).2=0→(iK xs).1=xs.map (fun x=>(cy x).1)∧∀x∈xs,(cy x).2=0
  |[],_=>⟨by rw[iK];rfl,fun x h=>by cases h⟩
  |x::xs,h=>by
   rw[w4] at h ⊢
   split at h
   · rename_i hx;exact absurd h hx
   · rename_i hx
     obtain⟨h1,h2⟩:=ua (xs:=xs) h
     rw[aC hx]
     refine⟨by simp only[h1,eR],fun y hy=>?_⟩
     rcases ei.1 hy with rfl|hy
     · simpa using hx
     · exact h2 y hy
def gR (o:aG):List an:=dO (gW o)::o.af::o.Data::o.az.map fun x=>(cy x).1
theorem uc {bR:Bool} {o:aG} (hr:dr bR o=true) (h:(cy o).2=0):(cy o).1=dA (gR o)∧jr (gR o)=true∧∀x∈o.az,(cy x).2=0:=by
  rw[w5] at h ⊢
  split at h
  · rename_i hx;exact absurd h hx
  · rename_i hx
    obtain⟨h1,h2⟩:=ua (by simpa using hx)
    rw[aC hx]
    rw[oA (ni hr),h1] at h ⊢
    obtain⟨h3,h4⟩:=n6 h
    exact⟨h4,h3,h2⟩
theorem ud {bR:Bool} {o:aG} (hr:dr bR o=true) (hj:jr (gR o)=true) (ops:List aG):nF (dA (gR o)) ops={o with az:=ops}:=by
  unfold nF
  rw[kS hj]
  unfold gR
  simp only[kO,kP]
  rw[mw (ni hr)]
  unfold w6 gW
  simp only[kO,kP]
  obtain⟨h1,h2,h3,_⟩:=pq o
  rw[h1,h2,h3]
  simp
theorem ue {bR:Bool} {o:aG} (hr:dr bR o=true) (hj:jr (gR o)=true) (hi:bR=true→o.az=[]):iA bR (dA (gR o))=true:=by
  unfold iA
  rw[kS hj]
  have e:(gR o).getD 0 []=dO (gW o):=rfl
  simp only[]
  rw[e,o_ (ni hr) 4 rfl,mw (ni hr)]
  have e3:(gW o).getD 3 0=fS o:=rfl
  simp only[]
  rw[e3,eu (pq o).2.2.2.2]
  unfold gR
  simp only[bY,d_]
  cases bR with
  |false=>simp;omega
  |true=>simp[hi rfl]
theorem yN {o:aG} (h:dr true o=true):o.az=[]:=by
  rw[nj] at h
  unfold kU rA n7 at h
  simp only[b_,nk,n8,jh,j6] at h
  obtain⟨⟨⟨hk,hm⟩,_,_,_,_,_,_,h7,_⟩,_⟩:=h
  rcases h7 with h7|h7
  · unfold bT at hm h7
    simp only[cQ,jh] at hm h7
    omega
  · exact ju (by omega)
theorem uf {o:aG} (hr:dr true o=true) (h:(cy o).2=0):jQ (cy o).1=(o,true):=by
  obtain⟨h1,h2,_⟩:=uc hr h
  have hi:=yN hr
  unfold jQ
  rw[h1,ue hr h2 (fun _=>hi),aO rfl,ud hr h2 []]
  obtain⟨k,p,u,D,sp,b,G,w,ops⟩:=o
  simp only at hi
  subst hi
  rfl
theorem yO {o:aG} (hr:dr false o=true) (h:(cy o).2=0):a_ false (cy o).1=(o,true):=by
  obtain⟨h1,h2,h3⟩:=uc hr h
  have h4:=(pz hr).2.2.2.2
  unfold a_
  rw[h1,ue hr h2 (fun h=>by cases h),aO rfl,kS h2]
  have hd:(gR o).drop 3=o.az.map fun x=>(cy x).1:=rfl
  simp only[]
  rw[hd]
  have ha:(o.az.map fun x=>(cy x).1).all (fun x=>(jQ x).2)=true:=by
    rw[tK,ic]
    intro x hx
    simp only[Function.comp,uf (h4 x hx) (h3 x hx)]
  have hm:(o.az.map fun x=>(cy x).1).map (fun x=>(jQ x).1)=o.az:=by
    rw[jg]
    conv=>rhs;rw[←rG o.az]
    apply tZ
    intro x hx
    simp only[Function.comp,uf (h4 x hx) (h3 x hx),id]
  rw[ha,aO rfl,hm,ud hr h2]
  obtain⟨_,_,_,_,_,_,_,_,_⟩:=o
  rfl
theorem yP {o:aG} (h:(bA o).2=0):dr false o=true∧(cy o).2=0∧(bA o).1=(cy o).1∧(cy o).1.length≤1024:=by
  unfold bA at *
  repeat' split at h
  · simp at h
  · simp at h
  · rename_i h1 h2
    rw[aC h1,aC h2]
    simp only[qt,AW] at h2
    exact⟨by simpa using h1,by simpa using h2.1,rfl,h2.2⟩
theorem w8 {o:aG} (h:(bA o).2=0):aU (bA o).1=(o,0):=by
  obtain⟨h1,h2,h3,h4⟩:=yP h
  unfold aU
  rw[h3,aC (by omega),yO h1 h2,aC (by rw[h1];simp)]
end Go.Proofs.YtceekbnihfckeaaGreatDoor.Sw
namespace Go.Proofs.YtceekbnihfckeaaGreatDoor.Sw
open Go.Proofs.Tryz
set_option linter.unusedVariables false
set_option linter.unusedSimpArgs false
set_option linter.deprecated false
set_option linter.unusedSectionVars false
open Go
section
variable {k c c':Int} {s:Sp} {e:bN} {b:aQ} {o:aG}
theorem TX (ho:aU b=(o,0)) (hk:o.Kind=6∨o.Kind=7∨o.Kind=9):(cF s c b).au=s.au:=by
  unfold cF
  rw[ho]
  simp only[ne_eq,kE,dV]
  rw[aC (by omega)]
  split
  · rfl
  · unfold lC
    rw[aC (by omega)]
    have ha:¬kM o=true:=by
      unfold kM
      simp only[jh,cQ]
      omega
    rw[aC ha]
    split
    · exact tC
    · rw[aC (by omega)];rfl
theorem TY (H:bK k s) (ho:aU b=(o,0)) (hk:o.Kind=6∨o.Kind=7∨o.Kind=9) (ht:e.aX≤s.aA):(bD s e b).au=s.au:=by
  have h1:=vn (t:=e.aX) H (by omega)
  unfold bD
  rw[h1]
  split
  · show(cF (cB s) e.Client b).au=s.au
    rw[TX ho hk];rfl
  · rfl
theorem TZ (x:Result):(nY s o x).aZ=x.aZ:=by
  unfold nY
  split
  · rfl
  · split<;>rfl
theorem T0 (x:Result):(mj s c o x).aZ=x.aZ:=by
  unfold mj
  split
  · rfl
  · exact TZ x
theorem T3 (x:Result):(qj s c o x).aZ=x.aZ:=by unfold qj;split<;>rfl
theorem T4 (x:Result):(cR s c b x).aZ=x.aZ:=by
  unfold cR mY tE
  repeat' split
  all_goals first|rfl|exact T0 _|exact T3 _
theorem yQ (H:bK k s) (h0:0≤k) (hk:k≤99000) (hn:s.count≤1000000000000) (hd:dQ s e=true):bw (bh s e b)=(gV (dI s e.aX) e.Client b,0):=by
  unfold dQ at hd
  rw[b_,cQ] at hd
  have h1:=w9 hd.1
  have hb:bh s e b=(cL (gV (dI s e.aX) e.Client b)).1:=by unfold bh;rw[aO hd.1,aO hd.2]
  rw[hb]
  exact yL (AX (H.nG e.aX) h1.1.2 h0 hk (by rw[qu];exact hn)).1
theorem T5 (H:bK k s) (h0:0≤k) (hk:k≤99000) (hn:s.count≤1000000000000) (hd:dQ s e=true):(bw (bh s e b)).2=0∧(bw (bh s e b)).1.aZ=s.count+1:=by
  rw[yQ H h0 hk hn hd]
  refine⟨rfl,?_⟩
  show(cR (cB (dI s e.aX)) e.Client b _).aZ=_
  rw[T4]
  show(dI s e.aX).count+1=_
  rw[qu]
end
end Go.Proofs.YtceekbnihfckeaaGreatDoor.Sw
namespace Go.Proofs.YtceekbnihfckeaaGreatDoor.Sw
open Go.Proofs.Tryz
set_option linter.unusedVariables false
set_option linter.unusedSimpArgs false
set_option linter.deprecated false
set_option linter.unusedSectionVars false
open Go
section
variable {aB deep n i:Int} {o x:aG} {ops:List aG}
theorem jS (o:aG) (aB deep:Int):cM o aB deep=if deep=0∧o.az≠[] then aB+1 else ey o.az aB deep (1+o.af.length+o.Data.length):=by
  obtain⟨_,_,_,_,_,_,_,_,_⟩:=o
  rw[cM]
theorem lD (x:aG) (xs:List aG) (aB deep n:Int):ey (x::xs) aB deep n=if n≤aB then ey xs aB deep (n+cM x (aB-n) (deep-1)) else n:=by rw[ey]
theorem lE (o:aG):(cq o:Int)=1+o.af.length+o.Data.length+c7 o.az:=by rw[mO];omega
mutual
theorem lF:∀(o:aG) (aB deep:Int),0≤aB→0≤cM o aB deep∧cM o aB deep≤aB+1+cq o
  |⟨k,p,u,D,sp,b,G,w,ops⟩,aB,deep,h=>by
   have e:=jS ⟨k,p,u,D,sp,b,G,w,ops⟩ aB deep
   have hz:=lE ⟨k,p,u,D,sp,b,G,w,ops⟩
   simp only at e hz
   rw[e]
   split
   · omega
   · have:=pG ops aB deep (1+p.length+u.length) h (by omega)
     omega
theorem pG:∀(xs:List aG) (aB deep n:Int),0≤aB→0≤n→0≤ey xs aB deep n∧ey xs aB deep n≤max n (aB+1+c7 xs)
  |[],aB,deep,n,_,h=>by rw[ey];omega
  |x::xs,aB,deep,n,h,hn=>by
   rw[lD]
   have e:c7 (x::xs)=cq x+c7 xs:=by rw[c7]
   rw[e]
   split
   · have h1:=lF x (aB-n) (deep-1) (by omega)
     have h2:=pG xs aB deep (n+cM x (aB-n) (deep-1)) h (by omega)
     omega
   · omega
end
mutual
theorem uh:∀(o:aG) (aB deep:Int),0≤deep→cM o aB deep≤aB→cM o aB deep=cq o∧(jE o:Int)≤deep+1
  |⟨k,p,u,D,sp,b,G,w,ops⟩,aB,deep,hd,h=>by
   have e:=jS ⟨k,p,u,D,sp,b,G,w,ops⟩ aB deep
   have hz:=lE ⟨k,p,u,D,sp,b,G,w,ops⟩
   have ed:=vi ⟨k,p,u,D,sp,b,G,w,ops⟩
   simp only at e hz ed
   rw[e] at h ⊢
   split at h
   · omega
   · rename_i hne
     rw[aC hne]
     have:=pH ops aB deep (1+p.length+u.length) hd (by
       by_cases h0:ops=[]
       · exact .inr h0
       · exact .inl (by
           by_cases I:deep=0
           · exact absurd ⟨I,h0⟩ hne
           · omega)) h
     omega
theorem pH:∀(xs:List aG) (aB deep n:Int),0≤deep→(1≤deep∨xs=[])→ey xs aB deep n≤aB→ey xs aB deep n=n+c7 xs∧(gy xs:Int)≤deep
  |[],aB,deep,n,hd,_,h=>by rw[ey,c7,gy];omega
  |x::xs,aB,deep,n,hd,h1,h=>by
   have h1:1≤deep:=by
     rcases h1 with h1|h1
     · exact h1
     · cases h1
   rw[lD] at h ⊢
   have e:c7 (x::xs)=cq x+c7 xs:=by rw[c7]
   have ed:gy (x::xs)=max (jE x) (gy xs):=by rw[gy]
   rw[e,ed]
   split at h
   · rename_i hn
     rw[aO hn]
     have h2:=pH xs aB deep (n+cM x (aB-n) (deep-1)) hd (.inl h1) h
     have h3:=uh x (aB-n) (deep-1) (by omega) (by omega)
     omega
   · omega
end
def gX (o:aG) (aB deep n i:Int):Prop:=ey o.az aB deep (1+o.af.length+o.Data.length)=ey (o.az.drop i.toNat) aB deep n∧0≤n∧n≤aB+1+cq o
theorem pI (o:aG) (h:0≤aB):gX o aB deep (1+o.af.length+o.Data.length) 0:=⟨rfl,by omega,by have:=lE o;omega⟩
theorem pJ (H:gX o aB deep n i) (h0:0≤i) (hx:o.az[i.toNat]?=some x) (h:n≤aB):gX o aB deep (n+cM x (aB-n) (deep-1)) (i+1):=by
  obtain⟨h1,h2,h3⟩:=H
  have hb:=lF x (aB-n) (deep-1) (by omega)
  have hm:=xb (cj hx)
  have hz:=lE o
  refine⟨?_,by omega,by omega⟩
  rw[h1,drop_at hx,lD,aO h,show(i+1).toNat=i.toNat+1 by omega]
theorem pK (H:gX o aB deep n i) (hi:¬i<(o.az.length:Int)) (hn:¬(deep=0∧o.az≠[])):n=cM o aB deep:=by
  rw[jS,aC hn,H.1,mz (by omega),ey]
theorem pL (H:gX o aB deep n i) (hi:¬n≤aB) (hn:¬(deep=0∧o.az≠[])):n=cM o aB deep:=by
  rw[jS,aC hn,H.1]
  cases o.az.drop i.toNat with
  |nil=>rw[ey]
  |cons x xs=>rw[lD,aC hi]
theorem vB (h1:deep=0) (h2:(o.az.length:Int)>0):aB+1=cM o aB deep:=by
  rw[jS,aO ⟨h1,fun e=>by rw[e] at h2;simp at h2⟩]
theorem vC (h:¬deep=0):¬(deep=0∧o.az≠[]):=fun h'=>h h'.1
theorem vD (h:¬(o.az.length:Int)>0):¬(deep=0∧o.az≠[]):=fun h'=>h'.2 (ju (by omega))
end
end Go.Proofs.YtceekbnihfckeaaGreatDoor.Sw
namespace Go.Proofs.YtceekbnihfckeaaGreatDoor.Sw
open Go.Proofs.Tryz
set_option linter.unusedVariables false
set_option linter.unusedSimpArgs false
set_option linter.deprecated false
open Go
section
variable {l:List aH} {i:Int} {x:aH}
theorem vE (H:(l.take i.toNat).any stepG=false) (h0:0≤i) (hx:l[i.toNat]?=some x) (h1:jH x.Op 3000 3=false) (h2:¬(x.cS.length:Int)>2000):(l.take (i+1).toNat).any stepG=false:=by
  rw[toNat_succ h0,fG hx,rD,H]
  simp only[rJ,List.any_nil,tL,n8,stepG,h1,gb h2]
theorem vF (hx:l[i.toNat]?=some x) (h:jH x.Op 3000 3=true):true=fN l:=(kF.2 ⟨x,cj hx,by unfold stepG;rw[h];rfl⟩).symm
theorem vG (hx:l[i.toNat]?=some x) (h:(x.cS.length:Int)>2000):true=fN l:=(kF.2 ⟨x,cj hx,by unfold stepG;rw[eu h,vf]⟩).symm
theorem vH (H:(l.take i.toNat).any stepG=false) (h:¬i<(l.length:Int)):false=fN l:=by
  rw[fC (by omega)] at H
  exact H.symm
end
end Go.Proofs.YtceekbnihfckeaaGreatDoor.Sw
namespace Go.Proofs.YtceekbnihfckeaaGreatDoor.Sw
open Go.Proofs.Tryz
open Go
set_option maxRecDepth 100000
set_option linter.unusedVariables false
set_option linter.unusedSimpArgs false
set_option linter.deprecated false
theorem vJ (mr:Nat):∀(B:World) (h:ax) (g:GH) (hg:bl g h) (aw:bq g) (o:aG) (a0:Value) (a9:av g 5 br a0 o.Data) (a1:Value) (ae:av g 25 ek a1 o.az) (aB:Int) (deep:Int) (ho:cq o≤100000000) (hm:0≤aB∧aB≤1000000) (hd:0≤deep∧deep≤1000) (a3:cq o<mr),aE prog B 50 #[.agg #[vI o.Kind,vS o.af,a0,vI o.ai,vI o.aF,.bool o.aY,.bool o.aI,.bool o.ak,a1],vI aB,vI deep] h g [] (fun bo g' L'=>bo=.int .i64 (cM o aB deep)∧g'=g∧L'=[]):=by
 induction mr with
 |zero=>intros;omega
 |succ mr bc=>
 intro B h g hg aw o a0 a9 a1 ae aB deep ho hm hd a3
 obtain⟨am,ar,rfl⟩:=a9.aj
 obtain⟨O,I,rfl⟩:=ae.aj
 refine aE.aq func50 fun R hR=>?_
 have bt:=St.init hg
 refine At.rg 2 ?_
 refine Op.bx 3 25 0 #[vI o.Kind,vS o.af,vL am o.Data.length ar,vI o.ai,vI o.aF,.bool o.aY,.bool o.aI,.bool o.ak,vL O o.az.length I] bt fun G c4 X=>?_
 refine Op.pg 1 [] ?_
 refine At.rp 9 1 [(9,vQ G 1)] ?_
 refine Op.l1 9 9 10 1 (vS o.af) (X.ah 0 rfl) ?_
 refine Op.px 1 [(11,vI (o.af.length:Int))] ?_
 refine Op.cE 12 ((1:Int)+(o.af.length:Int)) (by omega) (by(have:=fO o;omega)) ?_
 refine Op.px 1 [(13,vQ G 2)] ?_
 refine Op.l1 22 13 14 2 (vL am o.Data.length ar) (X.ah 0 rfl) ?_
 refine Op.px 1 [(15,vI (o.Data.length:Int))] ?_
 refine Op.cE 16 (((1:Int)+(o.af.length:Int))+(o.Data.length:Int)) (by omega) (by(have:=fO o;omega)) ?_
 refine Op.pg 2 [(7,vI (((1:Int)+(o.af.length:Int))+(o.Data.length:Int)))] ?_
 refine At.rp 8 3 [(19,.bool (deep==0))] ?_
 refine Op.wd (deep=0) 19 (fun c5=>?_) fun c6=>?_
 ·refine Op.px 1 [(20,vQ G 8)] ?_
  refine Op.l1 23 20 21 8 (vL O o.az.length I) (X.ah 0 rfl) ?_
  refine Op.pg 3 [(24,.bool (decide ((o.az.length:Int)>0)))] ?_
  refine At.fd ((o.az.length:Int)>0) 24 4 6 (fun c8=>?_) fun c9=>?_
  ·refine At.rp 3 1 [(25,vI aB)] ?_
   refine Op.vq 26 (aB+1) ?_
   exact Op.pr 5 6 (vI (aB+1)) (hR X.drop ⟨(bB (by exact vB ‹_› ‹_›)),rfl,rfl⟩)
  refine At.go 7 1 [(8,vI 0)] ?_
  have a4:∀(m:Nat) (n:Int) (i:Int) (a5:ax) (hm:o.az.length-i.toNat<m) (h0:0≤i) (h1:i≤o.az.length) (J:¬(deep=0∧o.az≠[])) (hI:gX o aB deep n i) (U:St h g (aV []) g [[(G,Obj.cells #[vI o.Kind,vS o.af,vL am o.Data.length ar,vI o.ai,vI o.aF,.bool o.aY,.bool o.aI,.bool o.ak,vL O o.az.length I] 25 (0,0))]] a5),At (bX prog B 50 f50 R) [] 7 [(1,vI aB),(2,vI deep),(3,vP G),(7,vI n),(8,vI i)] a5:=by
   intro m;induction m with
   |zero=>intros;omega
   |succ m a6=>
    intro n i a5 hm h0 h1 J hI U
    refine At.rp 10 2 [(27,vI i),(28,vQ G 8)] ?_
    refine Op.l1 23 28 29 8 (vL O o.az.length I) (U.ah 0 rfl) ?_
    refine Op.px 3 [(32,.bool (decide (i<(o.az.length:Int))))] ?_
    refine Op.wd (i<(o.az.length:Int)) 32 (fun da=>?_) fun db=>?_
    ·refine Op.pg 8 [(36,.bool (decide (n≤aB)))] ?_
     refine At.fd (n≤aB) 36 9 11 (fun dc=>?_) fun dd=>?_
     ·refine At.rp 14 2 [(39,vI n),(40,vQ G 8)] ?_
      refine Op.l1 23 40 41 8 (vL O o.az.length I) (U.ah 0 rfl) ?_
      refine Op.px 1 [(42,vI i)] ?_
      obtain⟨D,a7⟩:=cG o.az i
      obtain⟨b3,bd,df,dg,b4,b5,ab⟩:=av.bF ae _ a7
      cases b4
      refine Op.iq 23 25 9 96 o.az.length I 41 42 43 b3 bd i ?_
      replace ab:=iC.1 ab
      obtain⟨dj,dk,be,bi,ab⟩:=ab
      obtain⟨a46,b6,rfl⟩:=be.aj
      obtain⟨b8,ca,rfl⟩:=bi.aj
      refine Op.la 25 43 44 (bd+i.toNat*9) 9 [vI D.Kind,vS D.af,vL a46 D.Data.length b6,vI D.ai,vI D.aF,.bool D.aY,.bool D.aI,.bool D.ak,vL b8 D.az.length ca] (U.sub _ _ b5) ?_ (hv:=ab)
      refine Op.px 2 [(45,vI aB),(46,vI n)] ?_
      refine Op.vq 47 (aB-n) ?_
      refine Op.px 1 [(48,vI deep)] ?_
      refine Op.vq 49 (deep-1) ?_
      refine Op.c1 50 (bc _ _ _ U.sub aw D _ be _ bi (aB-n) (deep-1) (by(try dsimp only)<;>omega) (by(try dsimp only)<;>omega) (by(try dsimp only)<;>omega) (by exact nv (ie (cj a7)) (pM a3))) U fun dl cb=>?_
      refine Op.vq 51 (n+(cM D (aB-n) (deep-1))) ?_
      refine Op.pg 10 [(7,vI (n+(cM D (aB-n) (deep-1))))] ?_
      refine At.rp 3 1 [(37,vI i)] ?_
      refine Op.vq 38 (i+1) ?_
      exact Op.pg 7 [(8,vI (i+1))] (At.ke (a6 (n+(cM D (aB-n) (deep-1))) (i+1) _ (by omega) (by omega) (by omega) (by exact J) (by exact pJ hI h0 a7 ‹_›) cb))
     exact At.gr 12 2 6 (vI n) (hR U.drop ⟨(bB (by exact pL hI ‹_› J)),rfl,rfl⟩)
    refine Op.pg 8 [(36,.bool false)] ?_
    refine At.dK 36 11 ?_
    exact At.gr 12 2 6 (vI n) (hR U.drop ⟨(bB (by exact pK hI ‹_› J)),rfl,rfl⟩)
  exact At.ke (a4 _ (((1:Int)+(o.af.length:Int))+(o.Data.length:Int)) 0 _ (bM _) (by omega) (by omega) (by exact vD ‹_›) (by exact pI o hm.1) X)
 refine Op.pg 3 [(24,.bool false)] ?_
 refine At.dK 24 6 ?_
 refine At.go 7 1 [(8,vI 0)] ?_
 have a4:∀(m:Nat) (n:Int) (i:Int) (a8:ax) (hm:o.az.length-i.toNat<m) (h0:0≤i) (h1:i≤o.az.length) (J:¬(deep=0∧o.az≠[])) (hI:gX o aB deep n i) (V:St h g (aV []) g [[(G,Obj.cells #[vI o.Kind,vS o.af,vL am o.Data.length ar,vI o.ai,vI o.aF,.bool o.aY,.bool o.aI,.bool o.ak,vL O o.az.length I] 25 (0,0))]] a8),At (bX prog B 50 f50 R) [] 7 [(1,vI aB),(2,vI deep),(3,vP G),(7,vI n),(8,vI i)] a8:=by
  intro m;induction m with
  |zero=>intros;omega
  |succ m a6=>
   intro n i a8 hm h0 h1 J hI V
   refine At.rp 10 2 [(27,vI i),(28,vQ G 8)] ?_
   refine Op.l1 23 28 29 8 (vL O o.az.length I) (V.ah 0 rfl) ?_
   refine Op.px 3 [(32,.bool (decide (i<(o.az.length:Int))))] ?_
   refine Op.wd (i<(o.az.length:Int)) 32 (fun dp=>?_) fun dq=>?_
   ·refine Op.pg 8 [(36,.bool (decide (n≤aB)))] ?_
    refine At.fd (n≤aB) 36 9 11 (fun du=>?_) fun dv=>?_
    ·refine At.rp 14 2 [(39,vI n),(40,vQ G 8)] ?_
     refine Op.l1 23 40 41 8 (vL O o.az.length I) (V.ah 0 rfl) ?_
     refine Op.px 1 [(42,vI i)] ?_
     obtain⟨u,Y⟩:=cG o.az i
     obtain⟨ce,bj,dC,dE,cf,ch,ad⟩:=av.bF ae _ Y
     cases cf
     refine Op.iq 23 25 9 96 o.az.length I 41 42 43 ce bj i ?_
     replace ad:=iC.1 ad
     obtain⟨dT,d0,bk,bm,ad⟩:=ad
     obtain⟨ci,ck,rfl⟩:=bk.aj
     obtain⟨a75,co,rfl⟩:=bm.aj
     refine Op.la 25 43 44 (bj+i.toNat*9) 9 [vI u.Kind,vS u.af,vL ci u.Data.length ck,vI u.ai,vI u.aF,.bool u.aY,.bool u.aI,.bool u.ak,vL a75 u.az.length co] (V.sub _ _ ch) ?_ (hv:=ad)
     refine Op.px 2 [(45,vI aB),(46,vI n)] ?_
     refine Op.cE 47 (aB-n) (by omega) (by(have:=hI.2.1;have:=hI.2.2;omega)) ?_
     refine Op.px 1 [(48,vI deep)] ?_
     refine Op.vq 49 (deep-1) ?_
     refine Op.c1 50 (bc _ _ _ V.sub aw u _ bk _ bm (aB-n) (deep-1) (by((try dsimp only)<;>((have:=ie (cj Y);omega)))) (by((try dsimp only)<;>((have:=hI.2.1;have:=hI.2.2;omega)))) (by(try dsimp only)<;>omega) (by exact nv (ie (cj Y)) (pM a3))) V fun d1 c3=>?_
     refine Op.cE 51 (n+(cM u (aB-n) (deep-1))) (by(have:=hI.2.1;have:=hI.2.2;have:=ie (cj Y);have h9:=lF u (aB-n) (deep-1) (by omega);omega)) (by(have:=hI.2.1;have:=hI.2.2;have:=ie (cj Y);have h9:=lF u (aB-n) (deep-1) (by omega);omega)) ?_
     refine Op.pg 10 [(7,vI (n+(cM u (aB-n) (deep-1))))] ?_
     refine At.rp 3 1 [(37,vI i)] ?_
     refine Op.cE 38 (i+1) (by omega) (by(have:=fO o;omega)) ?_
     exact Op.pg 7 [(8,vI (i+1))] (At.ke (a6 (n+(cM u (aB-n) (deep-1))) (i+1) _ (by omega) (by omega) (by omega) (by exact J) (by exact pJ hI h0 Y ‹_›) c3))
    exact At.gr 12 2 6 (vI n) (hR V.drop ⟨(bB (by exact pL hI ‹_› J)),rfl,rfl⟩)
   refine Op.pg 8 [(36,.bool false)] ?_
   refine At.dK 36 11 ?_
   exact At.gr 12 2 6 (vI n) (hR V.drop ⟨(bB (by exact pK hI ‹_› J)),rfl,rfl⟩)
 exact At.ke (a4 _ (((1:Int)+(o.af.length:Int))+(o.Data.length:Int)) 0 _ (bM _) (by omega) (by omega) (by exact vC ‹_›) (by exact pI o hm.1) X)
theorem vK (B:World) (h:ax) (g:GH) (hg:bl g h) (G:bq g) (o:aG) (u:Value) (I:av g 5 br u o.Data) (D:Value) (J:av g 25 ek D o.az) (aB:Int) (deep:Int) (ho:cq o≤100000000) (hm:0≤aB∧aB≤1000000) (hd:0≤deep∧deep≤1000):aE prog B 50 #[.agg #[vI o.Kind,vS o.af,u,vI o.ai,vI o.aF,.bool o.aY,.bool o.aI,.bool o.ak,D],vI aB,vI deep] h g [] (fun O g' L'=>O=.int .i64 (cM o aB deep)∧g'=g∧L'=[]):=vJ _ B h g hg G o u I D J aB deep ho hm hd (bM _)
theorem uj (B:World) (h:ax) (g:GH) (hg:bl g h) (Y:bq g) (o:aG) (D:Value) (G:av g 5 br D o.Data) (I:Value) (J:av g 25 ek I o.az) (aB:Int) (deep:Int) (ho:cq o≤100000000) (hm:0≤aB∧aB≤1000000) (hd:0≤deep∧deep≤1000):
  aE prog B 15 #[.agg #[vI o.Kind,vS o.af,D,vI o.ai,vI o.aF,.bool o.aY,.bool o.aI,.bool o.ak,I],vI aB,vI deep] h g [] (fun ab g' L'=>ab=.bool (jH o aB deep)∧g'=g∧L'=[]):=by
 obtain⟨O,U,rfl⟩:=G.aj
 obtain⟨V,X,rfl⟩:=J.aj
 refine aE.aq func15 fun R hR=>?_
 have ad:=St.init hg
 refine At.rg 2 ?_
 refine Op.bx 3 25 0 #[vI o.Kind,vS o.af,vL O o.Data.length U,vI o.ai,vI o.aF,.bool o.aY,.bool o.aI,.bool o.ak,vL V o.az.length X] ad fun am ar u=>?_
 refine Op.pg 1 [] ?_
 refine At.rg 7 ?_
 refine Op.la 25 3 7 0 9 [vI o.Kind,vS o.af,vL O o.Data.length U,vI o.ai,vI o.aF,.bool o.aY,.bool o.aI,.bool o.ak,vL V o.az.length X] (u.ah 0 rfl) ?_
 refine Op.px 2 [(8,vI aB),(9,vI deep)] ?_
 refine Op.c1 10 (vK _ _ _ u.sub Y o _ G _ J aB deep (by(try dsimp only)<;>omega) (by(try dsimp only)<;>omega) (by(try dsimp only)<;>omega)) u fun aw ae=>?_
 exact Op.pr 2 6 (.bool (decide ((cM o aB deep)>aB))) (hR ae.drop ⟨(aS (by rfl)),rfl,rfl⟩)
theorem uk (B:World) (h:ax) (g:GH) (hg:bl g h) (aw:bq g) (ad:Value) (list:List aH) (V:av g 71 iD ad list) (hl:list.length≤1048576) (ho:∀x∈list,cq x.Op≤100000000):
  aE prog B 31 #[ad] h g [] (fun a0 g' L'=>a0=.bool (fN list)∧g'=g∧L'=[]):=by
 obtain⟨ae,I,rfl⟩:=V.aj
 refine aE.aq func31 fun R hR=>?_
 have a1:=St.init hg
 refine At.go 1 1 [] ?_
 refine At.go 2 1 [(3,vI 0)] ?_
 have a3:∀(m:Nat) (i:Int) (X:ax) (hm:list.length-i.toNat<m) (h0:0≤i) (h1:i≤list.length) (hI:(list.take i.toNat).any stepG=false) (J:St h g (aV []) g [] X),At (bX prog B 31 f31 R) [] 2 [(0,vL ae list.length I),(3,vI i)] X:=by
  intro m;induction m with
  |zero=>intros;omega
  |succ m a4=>
   intro i X hm h0 h1 hI J
   refine At.go 3 4 [(7,.bool (decide (i<(list.length:Int))))] ?_
   refine At.fd (i<(list.length:Int)) 7 4 9 (fun bt=>?_) fun b3=>?_
   ·refine At.rp 15 2 [(10,vL ae list.length I),(11,vI i)] ?_
    obtain⟨u,G⟩:=cG list i
    obtain⟨O,D,b4,b5,a5,a6,Y⟩:=av.bF V _ G
    cases a5
    refine Op.iq 52 71 13 144 list.length I 10 11 12 O D i ?_
    obtain⟨b6,b8,v37,am,ar,a7,Y⟩:=Y
    obtain⟨a8,a9,rfl⟩:=am.aj
    obtain⟨bc,bd,rfl⟩:=ar.aj
    obtain⟨ca,cb,rfl⟩:=a7.aj
    refine Op.px 1 [(13,vQ O (D+i.toNat*13+3))] ?_
    refine Op.la 25 13 14 (D+i.toNat*13+3) 9 [vI u.Op.Kind,vS u.Op.af,vL a8 u.Op.Data.length a9,vI u.Op.ai,vI u.Op.aF,.bool u.Op.aY,.bool u.Op.aI,.bool u.Op.ak,vL bc u.Op.az.length bd] (J.sub _ _ a6) ?_ (hv:=(vh Y 3 9 rfl (by decide)))
    refine Op.c1 15 (uj _ _ _ J.sub aw u.Op _ am _ ar 3000 3 (by((try dsimp only)<;>(exact ho _ (cj G)))) (by(try dsimp only)<;>omega) (by(try dsimp only)<;>omega)) J fun ce U=>?_
    refine Op.px 1 [(16,.bool (jH u.Op (3000) (3)))] ?_
    refine Op.wb (jH u.Op (3000) (3)) 16 (fun cf=>?_) fun ch=>?_
    ·refine Op.pg 5 [(24,.bool true)] ?_
     refine At.bW 24 6 ?_
     exact At.gr 7 1 2 (.bool true) (hR U ⟨(aS (by exact vF G ‹_›)),rfl,rfl⟩)
    refine Op.px 2 [(17,vL (some ⟨O,D,none⟩) list.length I),(18,vI i)] ?_
    obtain⟨ci,ck,co,c3,be,bi,ab⟩:=av.bF V _ G
    cases be
    refine Op.iq 52 71 13 144 list.length I 17 18 19 O D i ?_
    obtain⟨c4,c5,cE,bj,bk,bm,ab⟩:=ab
    obtain⟨c6,c8,rfl⟩:=bj.aj
    obtain⟨c9,da,rfl⟩:=bk.aj
    obtain⟨a70,bo,rfl⟩:=bm.aj
    refine Op.px 1 [(20,vQ O (D+i.toNat*13+12))] ?_
    refine Op.l1 22 20 21 (D+i.toNat*13+12) (vL a70 u.cS.length bo) (U.sub _ _ bi) ?_ (hv:=c_ ab 12 rfl)
    refine Op.pg 5 [(24,.bool (decide ((u.cS.length:Int)>2000)))] ?_
    refine At.fd ((u.cS.length:Int)>2000) 24 6 8 (fun db=>?_) fun dc=>?_
    ·exact At.gr 7 1 2 (.bool true) (hR U ⟨(aS (by exact vG G ‹_›)),rfl,rfl⟩)
    refine At.rp 3 1 [(8,vI i)] ?_
    refine Op.vq 9 (i+1) ?_
    exact Op.pg 2 [(3,vI (i+1))] (At.ke (a4 (i+1) _ (by omega) (by omega) (by omega) (by exact vE hI h0 G ‹_› ‹_›) U))
   exact At.gr 10 1 2 (.bool false) (hR J ⟨(aS (by exact vH hI ‹_›)),rfl,rfl⟩)
 exact At.ke (a3 _ 0 _ (bM _) (by omega) (by omega) (by rfl) a1)
theorem vM (B:World) (h:ax) (g:GH) (hg:bl g h) (Y:bq g) (I:Value) (list:List aH) (G:av g 71 iD I list) (hl:list.length≤1048576):
  aE prog B 30 #[I] h g [] (fun X g' L'=>∃v0,X=v0∧av g' 71 iD v0 (list.take 60)∧L'=[]):=by
 obtain⟨u,D,rfl⟩:=G.aj
 refine aE.aq func30 fun R hR=>?_
 have J:=St.init hg
 refine At.go 1 1 [] ?_
 refine At.go 2 3 [(5,.bool (decide ((list.length:Int)>60)))] ?_
 refine At.fd ((list.length:Int)>60) 5 3 5 (fun ab=>?_) fun ad=>?_
 ·refine At.rp 3 1 [(6,vL u list.length D)] ?_
  refine Op.yS (T:=52) (E:=71) (dx:=144) (x:=6) (ao:=u) (n:=list.length) (c:=D) (dst:=7) (d:=iD) (hi:=(.const (vI 60))) (k:=.i64) (m:=60) (by kernel_rfl) (by kernel_rfl) (by kernel_rfl) (by kernel_rfl) G (by omega) (by omega) fun ae O=>?_
  obtain⟨U,V,rfl⟩:=O.aj
  exact Op.pr 4 2 (vL U ((list.take (60:Int).toNat).length) V) (hR J ⟨(vL U ((list.take (60:Int).toNat).length) V),rfl,b9 O (by rfl),rfl⟩)
 exact At.gr 6 2 2 (vL u list.length D) (hR J ⟨(vL u list.length D),rfl,b9 G (by exact(fC (by omega)).symm),rfl⟩)
end Go.Proofs.YtceekbnihfckeaaGreatDoor.Sw
namespace Go.Proofs.YtceekbnihfckeaaGreatDoor.Sw
open Go.Proofs.Tryz
set_option linter.unusedVariables false
set_option linter.unusedSimpArgs false
set_option linter.deprecated false
open Go
section
variable {i k:Int} {y s:Sp} {x:aH}
end
def gG (x m:Int):Int:=IntKind.wrap .i64 (((BitVec.ofInt (IntKind.bits .i64) x &&& BitVec.ofInt (IntKind.bits .i64) m).toNat:Nat):Int)
theorem FD (x m:Int): -9223372036854775808≤gG x m∧gG x m≤9223372036854775807:=Fb _
section
variable {i:Int} {s z:Sp} {x:aH} {l:List aH} {fb:aQ} {fn:Bool} {b':aQ}
theorem cP (l:List aH):(l.take 60).length≤60:=by rw[e_];omega
theorem jv (H:ec i s):((aP s).bZ.length≤1000000∧∀n∈(aP s).bZ,n.Data.length≤1000000000)∧(aP s).cJ.length≤1000000∧(aP s).cr.length≤1000000∧(aP s).aT.length≤1000000∧(aP s).bL.length≤1000000∧∀x∈(aP s).bL,x.Data.length≤1000000000:=by
  have K:=H.ok
  refine⟨⟨bQ K.tree.len (by decide),fun n hn=>bQ (K.tree.node n hn).2.1 (by decide)⟩,bQ K.gf.len (by decide),?_,?_,?_,?_⟩
  · show(s.book.map (·.2)).length≤_
    rw[d_]
    exact bQ K.book.len (by decide)
  · show((s.events.map (·.2)).flatten).length≤_
    have h8:=K.yT
    have key:∀(l:ja),(∀p∈l,p.2.length≤8)→((l.map (·.2)).flatten).length≤8*l.length:=by
      intro l
      induction l with
      |nil=>intro _;exact fH _
      |cons p l ih=>
       intro h
       have h1:=h p (by simp)
       have h2:=ih fun q hq=>h q (by simp[hq])
       rw[eR,cH,cA,bY]
       omega
    have:=key s.events fun p hp=>by
      have hq:=K.quo p.1
      have he:cV s.events p.1=p.2:=by
        unfold cV
        rw[(jR K.ev.sort).2 (show(p.1,p.2)∈s.events from hp)]
        rfl
      rw[he] at hq
      omega
    omega
  · show(s.aR.map _).length≤_
    rw[d_]
    exact bQ (xd K.fD.sort fun p hp=>(K.fD.ok p hp).1) (by decide)
  · intro x hx
    obtain⟨p,hp,rfl⟩:=de.1 hx
    exact bQ (K.fD.ok p hp).2.2 (by decide)
end
section
variable {a b:gu} {i:Int} {x y:ig}
end
end Go.Proofs.YtceekbnihfckeaaGreatDoor.Sw
namespace Go.Proofs.YtceekbnihfckeaaGreatDoor.Sw
open Go.Proofs.Tryz
set_option linter.unusedVariables false
set_option linter.unusedSimpArgs false
set_option linter.deprecated false
open Go Go.ChangeShapes Go.WideShapes Go.ChangeAt Go.RowKit Go.Deep Go.ChangeMaps
section
variable {H:Type} {enc:TypeId×Value→H} {P:Program} {w w':World} {iY:Nat} {sp:Nat→Bool} {hd:Bool}
end
section
variable {P:Program} {T E:TypeId}
theorem cT.str (ht:P.underlying T=some .string):cT P T eU (fun y=>y.length≤1048576):=⟨fun h hb=>by
  obtain⟨s,rfl,rfl,_⟩:=DataW.trod_string ht h
  simp only[Rows.uptoBulk] at hb
  exact⟨s.data.toList,by show[Value.string s]=_;rw[rL],by omega⟩⟩
theorem cT.int {k:IntKind} (ht:P.underlying T=some (.int k)):cT P T (fh k) (fun y=>k.min≤y∧y≤k.max):=⟨fun h hb=>by
  obtain⟨n,rfl,rfl,hw⟩:=DataW.trod_int ht h
  refine⟨n,rfl,?_⟩
  simpa[Lit.wf] using hw⟩
theorem cT.bool (ht:P.underlying T=some .bool):cT P T vg (fun _=>True):=⟨fun h hb=>by
  obtain⟨n,rfl,rfl⟩:=DataW.trod_bool ht h
  exact⟨n,rfl,trivial⟩⟩
end
section
variable {P:Program} {w:World} {T:TypeId} {H:Type} {enc:TypeId×Value→H} {v:Value} {dt:DataW H} {ps:List MemPlace} {b0:Nat} {r:Reach}
theorem FE (ht:P.underlying T=some .string) (u:Value.okWide P w r b0 T v) (h:DataW.Trod enc P w 0 (fun _=>true) true T v dt ps) (hb:Rows.uptoBulk dt≤1048576):∃y:an,v=.string (bp y)∧y.length≤1048576:=by
  obtain⟨s,rfl,rfl,_,_⟩:=open_string ht u h
  simp only[Rows.uptoBulk] at hb
  exact⟨s.data.toList,by rw[rL],by omega⟩
end
theorem eo {P:Program} {w:World} {H:Type} {enc:TypeId×Value→H} {n:Nat} {fs:Array Field} {cs:List Value} {xs:List (DataW H×List MemPlace)}
    (hf:∀(i:Nat) (f:Field),fs[i]?=some f→DataW.trod enc P w 0 (fun _=>true) true n f.type ((cs.drop f.offset).take (P.cellsOf f.type))=xs[i]?)
    (i t o m:Nat) (hi:(fs[i]?).map (fun f=>(f.type,f.offset))=some (t,o)) (hm:P.cellsOf t=m):DataW.trod enc P w 0 (fun _=>true) true n t ((cs.drop o).take m)=xs[i]?:=by
  obtain⟨f,h1,h2⟩:=pN.1 hi
  simp only[iM] at h2
  obtain⟨rfl,rfl⟩:=h2
  subst hm
  exact hf i f h1
end Go.Proofs.YtceekbnihfckeaaGreatDoor.Sw
namespace Go.Proofs.YtceekbnihfckeaaGreatDoor.Sw
open Go.Proofs.Tryz
open Go Go.ChangeShapes Go.WideShapes Go.ChangeAt Go.RowKit Go.Deep Go.ChangeMaps
set_option maxRecDepth 100000
set_option linter.unusedVariables false
set_option linter.unusedSimpArgs false
set_option linter.deprecated false
structure gZ (N:Nat) (P:Program) (T:TypeId) {α:Type} (d:Kd α) (ok:Nat→α→Prop):Prop where
  out:∀{H:Type} {enc:TypeId×Value→H} {w:World} {bI:Nat} {cs:List Value} {x:DataW H×List MemPlace},
    DataW.trod enc P w 0 (fun _=>true) true bI T cs=some x→Rows.uptoBulk x.1≤N→N≤1048576→∃y,d.K (j8 w) y cs∧ok (Rows.uptoBulk x.1) y
theorem pO {H:Type}:∀l:List (DataW H),Rows.uptoBulkAll l=(l.map Rows.uptoBulk).sum
  |[]=>rfl
  |d::r=>by rw[Rows.uptoBulkAll,eR,ng,pO r]
theorem gZ.sl {N:Nat} {P:Program} {T E:TypeId} {α:Type} {d:Kd α} {ok:Nat→α→Prop} (I:gZ N P E d ok) (ht:P.underlying T=some (.slice E)) (hc:P.cellsOf E=d.sz) (hp:0<d.sz):
    gZ (N+1) P T (jI E d) (fun b ys=>∃ds:List Nat,ds.length=ys.length∧ds.sum+1≤b∧∀(i:Nat) y n,ys[i]?=some y→ds[i]?=some n→ok n y):=⟨fun{H enc w bI cs x} h hb hN=>by
  rcases open_slice ht h with ⟨rfl,rfl⟩|⟨a,len,cap,m,n,u,X,rfl,_,hl,hm,J,rfl,hx⟩
  · exact⟨[],⟨_,rfl,av.nil _ _ _⟩,[],rfl,by simp[Rows.uptoBulk],fun i y n h=>by simp at h⟩
  · rw[aO rfl] at J
    subst J
    simp only[Rows.uptoBulk] at hb
    have hlen:=xg ((List.range len).map u)
    rw[d_,qw] at hlen
    have D:∀i,i<len→∃y,∃cs',w.cells? 0 (a.add (i*d.sz)) d.sz=some cs'∧d.K (j8 w) y cs'∧ok (Rows.uptoBulk (u i)) y:=fun i hi=>by
      obtain⟨cs',h1,h2⟩:=hx i (by omega)
      have h3:Rows.uptoBulk (u i)≤Rows.uptoBulkAll ((List.range len).map u):=fE (de.2 ⟨i,xh.2 hi,rfl⟩)
      obtain⟨y,h4,h5⟩:=I.out h2 (by show Rows.uptoBulk (u i)≤_;omega) (by omega)
      rw[hc] at h1
      exact⟨y,cs',h1,h4,h5⟩
    obtain⟨ys,O,hy⟩:=xj len D
    refine⟨ys,⟨_,rfl,_,m,by rw[O],by omega,fun hne=>?_⟩,(List.range len).map (fun i=>Rows.uptoBulk (u i)),by rw[d_,qw,O],?_,fun i y n hi hn=>?_⟩
    · obtain⟨b,o,spot⟩:=a
      have h0:0<len:=by
        rcases yU len with h|h
        · exact absurd (ju (by omega)) hne
        · exact h
      have U:spot=none:=by
        obtain⟨_,cs',h1,_⟩:=D 0 h0
        unfold World.cells? at h1
        rw[aO (fH _)] at h1
        obtain⟨v,_,hf⟩:=Lib.mapM_at h1 0 0 (by simp[hp])
        simpa[Addr.add] using World.cell?_spot hf
      subst U
      obtain⟨_,Y,h1,_⟩:=D 0 h0
      rw[vR,jT,lG] at h1
      obtain⟨cur,V,fz,hb',_⟩:=qx h1 hp
      refine⟨b,o,cur,(V,fz),rfl,hb',xk ys o fun i y hi=>?_⟩
      obtain⟨cs',h2,h3,_⟩:=hy i y hi
      rw[jT] at h2
      obtain⟨ab,ad,ae,G,e⟩:=qx h2 hp
      rw[hb'] at G
      simp only[fu,Obj.cells.injEq] at G
      obtain⟨rfl,_,_⟩:=G
      rw[←e];exact h3
    · have:=pO ((List.range len).map u)
      rw[jg] at this
      show((List.range len).map (Rows.uptoBulk ∘ u)).sum+1≤Rows.uptoBulk (.slice ((List.range len).map u) _)
      simp only[Rows.uptoBulk]
      omega
    · obtain⟨cs',_,_,hok⟩:=hy i y hi
      rw[jU] at hn
      have hlt:=(fT.1 hi).1
      rw[yV (by omega)] at hn
      obtain rfl:=fK hn
      exact hok⟩
def fX (n:Int):Prop:= -9223372036854775808≤n∧n≤9223372036854775807
def pP (b:Nat) (o:aG):Prop:=cq o≤b∧fX o.Kind∧fX o.ai∧fX o.aF
theorem pQ:∀(ys:List aG) (ds:List Nat),ds.length=ys.length→(∀(i:Nat) y n,ys[i]?=some y→ds[i]?=some n→pP n y)→c7 ys≤ds.sum
  |[],[],_,_=>by rw[c7];exact fH _
  |[],_::_,h,_=>by simp at h
  |_::_,[],h,_=>by simp at h
  |y::ys,n::ds,h,hk=>by
   have h1:=(hk 0 y n rfl rfl).1
   have h2:=pQ ys ds (by simpa using h) fun i u D hy hn=>hk (i+1) u D (by simpa using hy) (by simpa using hn)
   rw[c7,ng]
   omega
theorem oF:∀N:Nat,gZ N prog 25 ek pP
  |0=>⟨fun{H enc w bI cs x} h hb hN=>by have:=rK x.1;omega⟩
  |N+1=>⟨fun{H enc w bI cs x} h hb hN=>by
   obtain⟨xs,n,_,rfl,hl,hlen,hf⟩:=DataW.trod_struct underlying25 h
   have hl:cs.length=9:=hl.trans (by kernel_rfl)
   have hlen:xs.length=9:=hlen
   obtain⟨a0,a1,a2,a3,a4,a5,J,O,U,rfl⟩:∃a0 a1 a2 a3 a4 a5 J O U,cs=[a0,a1,a2,a3,a4,a5,J,O,U]:=by match cs,hl with|[a0,a1,a2,a3,a4,a5,J,O,U],_=>exact⟨a0,a1,a2,a3,a4,a5,J,O,U,rfl⟩
   obtain⟨z0,u,z2,z3,z4,z5,D,G,I,rfl⟩:∃z0 u z2 z3 z4 z5 D G I,xs=[z0,u,z2,z3,z4,z5,D,G,I]:=by match xs,hlen with|[z0,u,z2,z3,z4,z5,D,G,I],_=>exact⟨z0,u,z2,z3,z4,z5,D,G,I,rfl⟩
   have hB:Rows.uptoBulk (DataW.agg (List.map (·.1) [z0,u,z2,z3,z4,z5,D,G,I]))=Rows.uptoBulk z0.1+(Rows.uptoBulk u.1+(Rows.uptoBulk z2.1+(Rows.uptoBulk z3.1+(Rows.uptoBulk z4.1+(Rows.uptoBulk z5.1+(Rows.uptoBulk D.1+(Rows.uptoBulk G.1+Rows.uptoBulk I.1)))))))+1:=by
     simp only[eR,kG,Rows.uptoBulk,Rows.uptoBulkAll,lG]
   simp only[] at hb ⊢
   rw[hB] at hb ⊢
   have g0:=eo hf 0 3 0 1 (by kernel_rfl) (by kernel_rfl)
   replace g0:DataW.trod enc prog w 0 (fun _=>true) true n 3 [a0]=some z0:=g0
   obtain⟨y0,V,o0⟩:=(cT.int underlying3).out g0 (by omega)
   have V:[a0]=_:=V;cases V
   have g1:=eo hf 1 9 1 1 (by kernel_rfl) (by kernel_rfl)
   replace g1:DataW.trod enc prog w 0 (fun _=>true) true n 9 [a1]=some u:=g1
   obtain⟨s1,e1,r1,_⟩:=DataW.trod_string underlying9 g1
   cases e1
   have b1:s1.data.toList.length+1=Rows.uptoBulk u.1:=by rw[r1];rfl
   have g2:=eo hf 2 22 2 1 (by kernel_rfl) (by kernel_rfl)
   replace g2:DataW.trod enc prog w 0 (fun _=>true) true n 22 [a2]=some z2:=g2
   have a8:gZ 1048575 prog 5 br (fun b _=>1≤b):=⟨fun{H enc w bI cs x} h hb hN=>by
     obtain⟨y,hy,_⟩:=(cT.u8 underlying5).out h (by omega)
     exact⟨y,hy,rK _⟩⟩
   obtain⟨y2,⟨v2,e2,s2⟩,d2,bt,b3,a9⟩:=(gZ.sl a8 underlying22 (by kernel_rfl) (by decide)).out g2 (by omega) (by decide)
   cases e2
   have b2:y2.length+1≤Rows.uptoBulk z2.1:=by
     have key:∀ds:List Nat,(∀(i n:Nat),ds[i]?=some n→1≤n)→ds.length≤ds.sum:=by
       intro ds
       induction ds with
       |nil=>intro _;exact iE _
       |cons n ds ih=>
        intro h
        have:=h 0 n rfl
        have:=ih fun i m hm=>h (i+1) m (by simpa using hm)
        rw[bY,ng]
        omega
     have:=key d2 fun i n hn=>by
       have hlt:=(fT.1 hn).1
       exact a9 i (y2[i]'(by omega)) n (oG (by omega)) hn
     omega
   have g3:=eo hf 3 3 3 1 (by kernel_rfl) (by kernel_rfl)
   replace g3:DataW.trod enc prog w 0 (fun _=>true) true n 3 [a3]=some z3:=g3
   obtain⟨y3,X,bc⟩:=(cT.int underlying3).out g3 (by omega)
   have X:[a3]=_:=X;cases X
   have g4:=eo hf 4 3 4 1 (by kernel_rfl) (by kernel_rfl)
   replace g4:DataW.trod enc prog w 0 (fun _=>true) true n 3 [a4]=some z4:=g4
   obtain⟨y4,Y,bd⟩:=(cT.int underlying3).out g4 (by omega)
   have Y:[a4]=_:=Y;cases Y
   have ab:=eo hf 5 4 5 1 (by kernel_rfl) (by kernel_rfl)
   replace ab:DataW.trod enc prog w 0 (fun _=>true) true n 4 [a5]=some z5:=ab
   obtain⟨y5,ad,_⟩:=(cT.bool underlying4).out ab (by omega)
   have ad:[a5]=_:=ad;cases ad
   have ae:=eo hf 6 4 6 1 (by kernel_rfl) (by kernel_rfl)
   replace ae:DataW.trod enc prog w 0 (fun _=>true) true n 4 [J]=some D:=ae
   obtain⟨y6,am,_⟩:=(cT.bool underlying4).out ae (by omega)
   have am:[J]=_:=am;cases am
   have ar:=eo hf 7 4 7 1 (by kernel_rfl) (by kernel_rfl)
   replace ar:DataW.trod enc prog w 0 (fun _=>true) true n 4 [O]=some G:=ar
   obtain⟨be,aw,_⟩:=(cT.bool underlying4).out ar (by omega)
   have aw:[O]=_:=aw;cases aw
   have a6:=eo hf 8 23 8 1 (by kernel_rfl) (by kernel_rfl)
   replace a6:DataW.trod enc prog w 0 (fun _=>true) true n 23 [U]=some I:=a6
   obtain⟨a7,⟨b4,bi,bj⟩,bk,bm,b5,bo⟩:=(gZ.sl (oF N) underlying23 (by kernel_rfl) (by decide)).out a6 (by omega) hN
   cases bi
   have b6:=pQ a7 bk bm bo
   refine⟨⟨y0,s1.data.toList,y2,y3,y4,y5,y6,be,a7⟩,iC.2 ⟨_,_,s2,bj,?_⟩,?_,o0,bc,bd⟩
   · rw[rL]
   · rw[mO]
     simp only
     omega⟩
def vT (x:aH):Prop:=cq x.Op≤1048576∧x.cS.length≤1048576∧fX x.Client∧fX x.bn∧fX x.aX∧fX x.Op.Kind∧fX x.Op.ai∧fX x.Op.aF
theorem um:cT prog 71 iD vT:=⟨fun{H enc w bI cs x} h hb=>by
  obtain⟨xs,n,_,rfl,hl,hlen,hf⟩:=DataW.trod_struct underlying71 h
  have hl:cs.length=13:=hl.trans (by kernel_rfl)
  have hlen:xs.length=5:=hlen
  obtain⟨a0,a1,a2,a3,a4,a5,D,G,I,a9,J,O,U,rfl⟩:∃a0 a1 a2 a3 a4 a5 D G I a9 J O U,cs=[a0,a1,a2,a3,a4,a5,D,G,I,a9,J,O,U]:=by match cs,hl with|[a0,a1,a2,a3,a4,a5,D,G,I,a9,J,O,U],_=>exact⟨a0,a1,a2,a3,a4,a5,D,G,I,a9,J,O,U,rfl⟩
  obtain⟨z0,u,z2,z3,z4,rfl⟩:∃z0 u z2 z3 z4,xs=[z0,u,z2,z3,z4]:=by match xs,hlen with|[z0,u,z2,z3,z4],_=>exact⟨z0,u,z2,z3,z4,rfl⟩
  have hb:Rows.uptoBulkAll [z0.1,u.1,z2.1,z3.1,z4.1]≤1048576:=by simp only[Rows.uptoBulk,eR,kG] at hb;omega
  have g0:=eo hf 0 3 0 1 (by kernel_rfl) (by kernel_rfl)
  replace g0:DataW.trod enc prog w 0 (fun _=>true) true n 3 [a0]=some z0:=g0
  obtain⟨y0,V,o0⟩:=(cT.int underlying3).out g0 (bQ (fE (by simp)) hb)
  have V:[a0]=_:=V;cases V
  have g1:=eo hf 1 3 1 1 (by kernel_rfl) (by kernel_rfl)
  replace g1:DataW.trod enc prog w 0 (fun _=>true) true n 3 [a1]=some u:=g1
  obtain⟨y1,k1,o1⟩:=(cT.int underlying3).out g1 (bQ (fE (by simp)) hb)
  have k1:[a1]=_:=k1;cases k1
  have g2:=eo hf 2 3 2 1 (by kernel_rfl) (by kernel_rfl)
  replace g2:DataW.trod enc prog w 0 (fun _=>true) true n 3 [a2]=some z2:=g2
  obtain⟨y2,k2,o2⟩:=(cT.int underlying3).out g2 (bQ (fE (by simp)) hb)
  have k2:[a2]=_:=k2;cases k2
  have g3:=eo hf 3 25 3 9 (by kernel_rfl) (by kernel_rfl)
  replace g3:DataW.trod enc prog w 0 (fun _=>true) true n 25 [a3,a4,a5,D,G,I,a9,J,O]=some z3:=g3
  obtain⟨y3,Y,X⟩:=(oF 1048576).out g3 (bQ (fE (by simp)) hb) (by decide)
  obtain⟨v0,v1,ab,s1,e3⟩:=iC.1 Y
  cases e3
  have ad:Rows.uptoBulk z3.1≤1048576:=bQ (fE (by simp)) hb
  have g4:=eo hf 4 22 12 1 (by kernel_rfl) (by kernel_rfl)
  replace g4:DataW.trod enc prog w 0 (fun _=>true) true n 22 [U]=some z4:=g4
  obtain⟨y4,⟨v4,ae,am⟩,ar⟩:=(cT.sl (cT.u8 underlying5) underlying22 (by kernel_rfl) (by decide)).out g4 (bQ (fE (by simp)) hb)
  cases ae
  exact⟨⟨y0,y1,y2,y3,y4⟩,⟨_,_,_,ab,s1,am,rfl⟩,bQ X.1 ad,ar.1,o0,o1,o2,X.2⟩⟩
end Go.Proofs.YtceekbnihfckeaaGreatDoor.Sw
namespace Go.Proofs.YtceekbnihfckeaaGreatDoor.Sw
open Go.Proofs.Tryz
set_option linter.unusedVariables false
set_option linter.unusedSimpArgs false
set_option linter.deprecated false
set_option linter.unusedSectionVars false
open Go
section
variable {i j c n:Int} {s z:Sp} {o:aG} {x:aH} {e:bN} {b p:aQ}
theorem ec.up (H:ec i s) (h:i≤j):ec j s:=⟨H.ok.mono (by omega),by have:=H.cnt;omega⟩
theorem LW (K:ec i s) (h0:0≤i) (hi:i≤20000) (hd:dQ s e=true):(bw (bh s e b)).2=0∧(bw (bh s e b)).1.aZ=s.count+1:=
  T5 K.ok (by omega) (by omega) (by have:=K.cnt;omega) hd
theorem T6 (hd:dQ s e=true):(bD s e b).count=s.count+1:=by rw[Fo,aO hd]
theorem T7 (hd:dQ s e=false):(bD s e b).count=s.count:=by rw[Fo,aC (by rw[hd];decide)]
theorem T8 (K:ec i s) (h0:0≤i) (hi:i≤20000) (hc:n=s.count) (hd:dQ s e=true):(bw (bh s e b)).1.aZ=n+1:=by rw[hc];exact(LW K h0 hi hd).2
theorem LX (hc:n=s.count) (hd:dQ s e=true):(bD s e b).count=n+1:=by rw[hc];exact T6 hd
theorem LY (hc:n=s.count) (hd:dQ s e=false):(bD s e b).count=n:=by rw[hc];exact T7 hd
theorem LZ:s.aA≤(bD s e b).aA:=by rw[AM];omega
def oy (p:aQ):List aG:=[⟨6,p,[],0,0,false,false,false,[]⟩,⟨7,p,[],0,0,false,false,true,[]⟩,⟨9,[],[],0,0,false,false,false,[]⟩,⟨6,p,[],0,0,false,false,true,[]⟩]
theorem T9 (hx:(oy p)[j.toNat]?=some o):o.Kind=6∨o.Kind=7∨o.Kind=9:=by
  have:=cj hx
  unfold oy at this
  simp only[ei,Ax,Ay] at this
  rcases this with rfl|rfl|rfl|rfl<;>simp
theorem T_ (hp:p.length≤1000000) (hx:(oy p)[j.toNat]?=some o):cq o≤1000000000:=by
  have:=cj hx
  unfold oy at this
  simp only[ei,Ax,Ay] at this
  have h2:c7 []=0:=by rw[c7]
  rcases this with rfl|rfl|rfl|rfl<;>rw[mO]<;>simp only[h2,dU]<;>omega
theorem Ua (K:ec i z) (ht:z.au=s.au) (hx:(oy p)[j.toNat]?=some o) (hp:(bA o).2=0) (he:e.aX=0):(bD z e (bA o).1).au=s.au:=by
  rw[TY K.ok (w8 hp) (T9 hx) (by rw[he];have:=K.ok.aA;omega),ht]
end
end Go.Proofs.YtceekbnihfckeaaGreatDoor.Sw
namespace Go.Proofs.YtceekbnihfckeaaGreatDoor.Sw
open Go.Proofs.Tryz
open Go
set_option maxRecDepth 100000
set_option linter.unusedVariables false
set_option linter.unusedSimpArgs false
set_option linter.deprecated false
theorem nJ {l:List aH} (h:fN l=false):∀x∈l,cq x.Op≤3000∧(jE x.Op:Int)≤4∧x.cS.length≤2000:=fun x hx=>by
  unfold fN at h
  rw[Dz] at h
  have:=h x hx
  unfold stepG jH at this
  simp only[jh,cQ,qt] at this
  have h2:=uh x.Op 3000 3 (by decide) (by omega)
  omega
set_option maxHeartbeats 4000000 in
theorem Ub (B:World) (h:ax) (g:GH) (hg:bl g h) (D:bq g) (dv:Value) (list:List aH) (bt:av g 71 iD dv list) (client:Int) (p:an) (hP:lZ g) (hl:list.length≤1048576) (ho:∀z∈list,cq z.Op≤2000000∧z.cS.length≤2000000):
  aE prog B 9 #[dv,vI client,vS p] h g [] (fun e5 g' L'=>e5=.bool true∧L'=[]):=by
 obtain⟨e6,e7,rfl⟩:=bt.aj
 refine aE.aq func9 fun R hR=>?_
 have dC:=St.init hg
 refine At.go 1 1 [] ?_
 refine At.rg 2 ?_
 refine Op.c0 (some 21) (yY _ _ _ dC.sub D hP) dC ?_
 rintro _ i0 _ i1 ck dE ⟨rfl,rfl⟩
 replace D:=D.mono ck
 replace hP:=hP.mono ck
 replace bt:=bt.mono ck
 refine Op.pg 2 [(22,.bool false)] ?_
 refine At.dK 22 5 ?_
 refine At.rp 3 1 [(23,vL e6 list.length e7)] ?_
 refine Op.c0 (some 24) (vM _ _ _ dE.sub D _ _ bt (by(try dsimp only)<;>omega)) dE ?_
 rintro _ i2 _ i3 dT d0 ⟨i4,rfl,V,rfl⟩
 obtain⟨a28,ab,rfl⟩:=V.aj
 replace D:=D.mono dT
 replace hP:=hP.mono dT
 refine Op.pg 6 [(0,vL a28 ((list.take 60).length) ab)] ?_
 refine At.rp 15 1 [(25,vL a28 ((list.take 60).length) ab)] ?_
 refine Op.c1 26 (uk _ _ _ d0.sub D _ _ V (by((try dsimp only)<;>((have h9:=cP list;omega)))) (by((try dsimp only)<;>(exact fun q hq=>(by have:=ho q (yZ hq);omega))))) d0 fun i5 a4=>?_
 refine Op.px 1 [(27,.bool (fN (list.take 60)))] ?_
 refine Op.wb (fN (list.take 60)) 27 (fun i6=>?_) fun i7=>?_
 ·refine Op.pg 7 [(39,.bool true)] ?_
  refine At.bW 39 8 ?_
  exact At.gr 9 1 6 (.bool true) (hR a4 ⟨(aS (by rfl)),rfl⟩)
 refine Op.px 4 [(31,.bool (decide (client<0)))] ?_
 refine Op.wd (client<0) 31 (fun i8=>?_) fun i9=>?_
 ·refine Op.pg 7 [(39,.bool true)] ?_
  refine At.bW 39 8 ?_
  exact At.gr 9 1 6 (.bool true) (hR a4 ⟨(aS (by rfl)),rfl⟩)
 refine Op.px 4 [(35,.bool (decide (client>7)))] ?_
 refine Op.wd (client>7) 35 (fun jf=>?_) fun jj=>?_
 ·refine Op.pg 7 [(39,.bool true)] ?_
  refine At.bW 39 8 ?_
  exact At.gr 9 1 6 (.bool true) (hR a4 ⟨(aS (by rfl)),rfl⟩)
 refine Op.pg 7 [(39,.bool (decide ((p.length:Int)>200)))] ?_
 refine At.fd ((p.length:Int)>200) 39 8 10 (fun jn=>?_) fun jt=>?_
 ·exact At.gr 9 1 6 (.bool true) (hR a4 ⟨(aS (by rfl)),rfl⟩)
 refine At.rg 2 ?_
 refine Op.c0 (some 40) (xm _ _ _ a4.sub D) a4 ?_
 rintro _ e8 _ j1 co e9 ⟨I,j2,rfl,fa,rfl⟩
 replace D:=D.mono co
 replace hP:=hP.mono co
 replace V:=V.mono co
 refine Op.pg 11 [(7,vP I)] ?_
 refine At.go 12 2 [(42,.bool false)] ?_
 refine At.dK 42 15 ?_
 refine At.go 16 1 [(8,vI 0)] ?_
 refine At.go 17 1 [(9,vI 0)] ?_
 refine At.go 18 1 [(10,vI 0)] ?_
 have fg:∀(m:Nat) (b3:GH) (a5:aM e8 b3) (y:Sp) (ct:Int) (ad:Int) (i:Int) (c3:ay) (c4:ax) (hm:(list.take 60).length-i.toNat<m) (h0:0≤i) (h1:i≤(list.take 60).length) (hK:ec i y) (hc:ct=y.count) (ht:ad=y.aA) (ae:cu b3 I y c3) (X:St h g (aV []) b3 [c3] c4),At (bX prog B 9 f9 R) [] 18 [(0,vL a28 ((list.take 60).length) ab),(1,vI client),(2,vS p),(7,vP I),(8,vI ct),(9,vI ad),(10,vI i)] c4:=by
  intro m;induction m with
  |zero=>intros;omega
  |succ m d1=>
   intro b3 a5 y ct ad i c3 c4 hm h0 h1 hK hc ht ae X
   replace D:=D.mono a5
   replace hP:=hP.mono a5
   replace V:=V.mono a5
   refine At.go 19 4 [(46,.bool (decide (i<((list.take 60).length:Int))))] ?_
   refine At.fd (i<((list.take 60).length:Int)) 46 20 36 (fun kc=>?_) fun kd=>?_
   ·refine At.dw (fun _=>False) [(0,true),(1,true),(2,true),(3,true),(6,true),(7,true),(8,true),(4,true),(9,true),(5,false),(10,false),(1011,false),(11,false),(12,true),(13,true),(14,true),(15,true),(16,true)] ?_
    refine Op.px 3 [(50,vP I),(51,vL a28 ((list.take 60).length) ab),(52,vI i)] ?_
    obtain⟨u,a9⟩:=cG (list.take 60) i
    obtain⟨c5,bc,kh,kk,fi,am,c6⟩:=av.bF V _ a9
    cases fi
    refine Op.iq 52 71 13 144 ((list.take 60).length) ab 51 52 53 c5 bc i ?_
    obtain⟨kl,km,kv,d2,d3,d4,c6⟩:=c6
    obtain⟨fj,fl,rfl⟩:=d2.aj
    obtain⟨a75,fp,rfl⟩:=d3.aj
    obtain⟨fr,ft,rfl⟩:=d4.aj
    refine Op.px 2 [(56,vL (some ⟨c5,bc,none⟩) ((list.take 60).length) ab),(57,vI i)] ?_
    obtain⟨kw,kx,kA,k0,fv,ar,c8⟩:=av.bF V _ a9
    cases fv
    refine Op.iq 52 71 13 144 ((list.take 60).length) ab 56 57 58 c5 bc i ?_
    obtain⟨k1,k2,k3,b4,b5,b6,c8⟩:=c8
    obtain⟨fw,fx,rfl⟩:=b4.aj
    obtain⟨f0,f1,rfl⟩:=b5.aj
    obtain⟨f2,n99,rfl⟩:=b6.aj
    refine Op.iU (T:=71) (x:=53) (o:=bc+i.toNat*13) (d:=54) (n:=13) (vs:=[vI u.Client,vI u.bn,vI u.aX,vI u.Op.Kind,vS u.Op.af,vL fj u.Op.Data.length fl,vI u.Op.ai,vI u.Op.aF,.bool u.Op.aY,.bool u.Op.aI,.bool u.Op.ak,vL a75 u.Op.az.length fp,vL fr u.cS.length ft]) (by kernel_rfl) (by kernel_rfl) (by kernel_rfl) (fun h=>h) (X.sub _ _ am) c6 rfl ?_
    refine Op.iU (T:=71) (x:=58) (o:=bc+i.toNat*13) (d:=59) (n:=13) (vs:=[vI u.Client,vI u.bn,vI u.aX,vI u.Op.Kind,vS u.Op.af,vL fw u.Op.Data.length fx,vI u.Op.ai,vI u.Op.aF,.bool u.Op.aY,.bool u.Op.aI,.bool u.Op.ak,vL f0 u.Op.az.length f1,vL f2 u.cS.length n99]) (by kernel_rfl) (by kernel_rfl) (by kernel_rfl) (fun h=>h) (X.sub _ _ ar) c8 rfl ?_
    refine Op.c0 (some 55) (uo _ _ _ X.sub D u _ d2 _ d3 _ d4) X ?_
    rintro _ k4 _ k5 Y d5 ⟨k6,rfl,b8,rfl⟩
    obtain⟨k7,n105,rfl⟩:=b8.aj
    replace am:=Y _ _ am
    replace ar:=Y _ _ ar
    replace D:=D.mono Y
    replace hP:=hP.mono Y
    replace b4:=b4.mono Y
    replace b5:=b5.mono Y
    replace b6:=b6.mono Y
    replace ae:=ae.mono Y
    refine Op.c0 (some 60) (vU _ _ _ d5.sub D u _ b4 _ b5 _ b6 (by((try dsimp only)<;>((have h9:=(nJ (show fN (list.take 60)=false by assumption) _ (cj a9));omega)))) (by((try dsimp only)<;>((have h9:=(nJ (show fN (list.take 60)=false by assumption) _ (cj a9));omega))))) d5 ?_
    rintro _ k8 _ lc a6 c9 ⟨lh,rfl,d6,rfl⟩
    obtain⟨li,lj,rfl⟩:=d6.aj
    replace am:=a6 _ _ am
    replace ar:=a6 _ _ ar
    replace D:=D.mono a6
    replace hP:=hP.mono a6
    replace b8:=b8.mono a6
    replace ae:=ae.mono a6
    refine Op.ba ?_
    refine Op.cl (some 61) 1 c9 (pR _ _ _ c9.sub D I y _ ae (aW u) _ b8 _ _ d6 hP (by((try dsimp only)<;>(exact hK.ok.wk (by have h9:=cP list;omega)))) (by((try dsimp only)<;>(exact bQ (vV (nJ (show fN (list.take 60)=false by assumption) _ (cj a9)).2.2) (by decide)))) (by((try dsimp only)<;>(exact hK.ct (by have h9:=cP list;omega)))) (by(try dsimp only)<;>exact hK.fD) (by((try dsimp only)<;>(exact pS hK h0 (by have h9:=cP list;omega)))) (St.pt 1 c9)) ?_
    rintro _ lk _ ll ca da ⟨lm,ln,lr,rfl,cb,f3,rfl⟩
    obtain⟨d7,d8,rfl⟩:=cb.aj
    replace am:=ca _ _ am
    replace ar:=ca _ _ ar
    replace D:=D.mono ca
    replace hP:=hP.mono ca
    refine Op.pg 21 [(11,vL d7 ((bh y (aW u) (bC u)).length) d8),(12,.bool (dQ y (aW u)))] ?_
    refine At.rp 4 1 [(64,vP I)] ?_
    refine Op.cl (some 65) 1 da (pT _ _ _ da.sub D I (bD y (aW u) (bC u)) _ f3 (by((try dsimp only)<;>(exact(hK.iX h0 (by have h9:=cP list;omega)).ok.pU (by have h9:=cP list;omega)))) (St.pt 1 da)) ?_
    rintro _ lv _ lw db f4 ⟨lx,ly,lA,lL,v139,lO,l0,l2,l3,l4,l8,rfl,f5,f6,f7,f8,gc,a7,rfl⟩
    obtain⟨ge,gg,rfl⟩:=f5.aj
    obtain⟨gk,n138,rfl⟩:=f6.aj
    obtain⟨gn,n143,rfl⟩:=f7.aj
    obtain⟨gs,g1,rfl⟩:=f8.aj
    obtain⟨g2,g3,rfl⟩:=gc.aj
    replace cb:=cb.mono db
    replace D:=D.mono db
    replace hP:=hP.mono db
    refine Op.al 13 81 #[vI 0,vI 0,vN,vN,vN,vN,vN] f4 fun a8 ma g4=>?_
    refine Op.sg 81 13 65 0 0 #[vI ((aP (bD y (aW u) (bC u))).aX),vI ((aP (bD y (aW u) (bC u))).aZ),vL ge (((aP (bD y (aW u) (bC u))).bZ).length) gg,vL gk (((aP (bD y (aW u) (bC u))).cJ).length) n138,vL gn (((aP (bD y (aW u) (bC u))).cr).length) n143,vL gs (((aP (bD y (aW u) (bC u))).aT).length) g1,vL g2 (((aP (bD y (aW u) (bC u))).bL).length) g3] g4 (fun _=>trivial) fun md aw=>?_
    refine Op.gt 22 ?_
    refine At.go 23 1 [(66,.bool (dQ y (aW u)))] ?_
    refine At.di (dQ y (aW u)) 66 24 30 (fun mf=>?_) fun mi=>?_
    ·refine At.rp 3 1 [(67,vI ct)] ?_
     refine Op.cE 68 (ct+1) (by(have h8:=hK.cnt;have h7:=cP list;have h6:=hK.ok.cn;omega)) (by(have h9:=FD 0 3;have h8:=hK.cnt;have h7:=cP list;omega)) ?_
     refine Op.pg 25 [(8,vI (ct+1))] ?_
     refine At.rp 8 1 [(70,vL d7 ((bh y (aW u) (bC u)).length) d8)] ?_
     obtain⟨ml,d9,dc,g5⟩:=aJ.freeze cb (aw.aa 7 rfl)
     replace D:=D.mono dc
     replace hP:=hP.mono dc
     replace a7:=a7.mono dc
     refine Op.c0 (some 71) (CX _ _ _ d9.sub D _ _ g5 (by(try dsimp only)<;>exact A5 hK.ok)) d9 ?_
     rintro _ mp _ mx ed g6 ⟨v171,my,m0,rfl,g7,g8,g9,rfl⟩
     obtain⟨a173,ee,rfl⟩:=g7.aj
     obtain⟨ef,eh,rfl⟩:=g8.aj
     obtain⟨ej,em,rfl⟩:=g9.aj
     replace hP:=hP.mono ed
     replace a7:=a7.mono ed
     refine Op.px 3 [(72,.agg #[vI (((bw (bh y (aW u) (bC u))).1).Code),vI (((bw (bh y (aW u) (bC u))).1).aZ),vI (((bw (bh y (aW u) (bC u))).1).At),vS (((bw (bh y (aW u) (bC u))).1).ag.af),vL a173 ((((bw (bh y (aW u) (bC u))).1).ag.Data).length) ee,vI (((bw (bh y (aW u) (bC u))).1).ag.ai),vI (((bw (bh y (aW u) (bC u))).1).ag.aD),vI (((bw (bh y (aW u) (bC u))).1).ag.Next),vI (((bw (bh y (aW u) (bC u))).1).ag.aL),vL ef ((((bw (bh y (aW u) (bC u))).1).bP).length) eh,vL ej ((((bw (bh y (aW u) (bC u))).1).aT).length) em]),(73,vI ((bw (bh y (aW u) (bC u))).2))] ?_
     refine Op.al 14 43 #[vI 0,vI 0,vI 0,vS [],vN,vI 0,vI 0,vI 0,vI 0,vN,vN] g6 fun he m1 hf=>?_
     refine Op.sg 43 14 72 0 0 #[vI (((bw (bh y (aW u) (bC u))).1).Code),vI (((bw (bh y (aW u) (bC u))).1).aZ),vI (((bw (bh y (aW u) (bC u))).1).At),vS (((bw (bh y (aW u) (bC u))).1).ag.af),vL a173 ((((bw (bh y (aW u) (bC u))).1).ag.Data).length) ee,vI (((bw (bh y (aW u) (bC u))).1).ag.ai),vI (((bw (bh y (aW u) (bC u))).1).ag.aD),vI (((bw (bh y (aW u) (bC u))).1).ag.Next),vI (((bw (bh y (aW u) (bC u))).1).ag.aL),vL ef ((((bw (bh y (aW u) (bC u))).1).bP).length) eh,vL ej ((((bw (bh y (aW u) (bC u))).1).aT).length) em] hf (fun _=>trivial) fun m2 U=>?_
     refine Op.pg 26 [(15,vI ((bw (bh y (aW u) (bC u))).2))] ?_
     refine At.rp 8 3 [(76,.bool (((bw (bh y (aW u) (bC u))).2) != 0))] ?_
     refine Op.wb (((bw (bh y (aW u) (bC u))).2) != 0) 76 (fun en=>?_) fun ep=>?_
     ·replace en:=gY en
      refine Op.pg 27 [(81,.bool true)] ?_
      refine At.bW 81 28 ?_
      exact At.gr 29 1 6 (.bool false) (hR U.drop.drop.drop.drop.drop.drop.drop.drop ⟨(aS (by exact absurd (LW hK h0 (by have h9:=cP list;omega) ‹_›).1 ‹_›)),rfl⟩)
     replace ep:=jk ep
     refine Op.px 1 [(77,vQ he 1)] ?_
     refine Op.l1 3 77 78 1 (vI (((bw (bh y (aW u) (bC u))).1).aZ)) (U.ah 0 rfl) ?_
     refine Op.pg 27 [(81,.bool ((((bw (bh y (aW u) (bC u))).1).aZ) != (ct+1)))] ?_
     refine At.fn ((((bw (bh y (aW u) (bC u))).1).aZ)=(ct+1)) 81 28 30 (fun m3=>?_) fun m4=>?_
     ·exact At.gr 29 1 6 (.bool false) (hR U.drop.drop.drop.drop.drop.drop.drop.drop ⟨(aS (by exact absurd (T8 hK h0 (by have h9:=cP list;omega) hc ‹_›) ‹_›)),rfl⟩)
     refine At.rp 10 1 [(82,vQ a8 1)] ?_
     refine Op.l1 3 82 83 1 (vI ((aP (bD y (aW u) (bC u))).aZ)) (U.ah 1 rfl) ?_
     refine Op.px 3 [(86,.bool (((aP (bD y (aW u) (bC u))).aZ) != (ct+1)))] ?_
     refine Op.wb (((aP (bD y (aW u) (bC u))).aZ) != (ct+1)) 86 (fun er=>?_) fun et=>?_
     ·replace er:=gY er
      refine Op.pg 31 [(91,.bool true)] ?_
      refine At.bW 91 32 ?_
      exact At.gr 33 1 6 (.bool false) (hR U.drop.drop.drop.drop.drop.drop.drop.drop ⟨(aS (by exact absurd (LX hc ‹_›) ‹_›)),rfl⟩)
     replace et:=jk et
     refine Op.px 1 [(87,vP a8)] ?_
     refine Op.l1 3 87 88 0 (vI ((aP (bD y (aW u) (bC u))).aX)) (U.ah 1 rfl) ?_
     refine Op.pg 31 [(91,.bool (decide (((aP (bD y (aW u) (bC u))).aX)<ad)))] ?_
     refine At.fd (((aP (bD y (aW u) (bC u))).aX)<ad) 91 32 34 (fun m5=>?_) fun m6=>?_
     ·exact At.gr 33 1 6 (.bool false) (hR U.drop.drop.drop.drop.drop.drop.drop.drop ⟨(aS (by exact absurd ‹_› (Int.not_lt.2 (by rw[ht];exact LZ)))),rfl⟩)
     refine At.rp 3 1 [(92,vP a8)] ?_
     refine Op.l1 3 92 93 0 (vI ((aP (bD y (aW u) (bC u))).aX)) (U.ah 1 rfl) ?_
     refine Op.pg 35 [(9,vI ((aP (bD y (aW u) (bC u))).aX))] ?_
     refine At.rp 3 1 [(47,vI i)] ?_
     refine Op.cE 48 (i+1) (by omega) (by(have h9:=cP list;omega)) ?_
     refine Op.pg 18 [(10,vI (i+1))] ?_
     have hh:=(((((((U.aa 2 rfl).aa 7 rfl).aa 7 rfl).aa 7 rfl).aa 7 rfl).aa 7 rfl).aa 7 rfl).aa 7 rfl
     have hj:=hh.drop.drop.drop.drop.drop.drop.drop
     exact At.ke (d1 _ (aM.trans a5 (by repeat (first|assumption|apply aM.trans))) (bD y (aW u) (bC u)) (ct+1) ((aP (bD y (aW u) (bC u))).aX) (i+1) _ _ (by omega) (by omega) (by omega) (by exact hK.iX h0 (by have h9:=cP list;omega)) (by exact(LX hc ‹_›).symm) (by rfl) a7 hj)
    refine At.rp 10 1 [(82,vQ a8 1)] ?_
    refine Op.l1 3 82 83 1 (vI ((aP (bD y (aW u) (bC u))).aZ)) (aw.ah 0 rfl) ?_
    refine Op.px 3 [(86,.bool (((aP (bD y (aW u) (bC u))).aZ) != ct))] ?_
    refine Op.wb (((aP (bD y (aW u) (bC u))).aZ) != ct) 86 (fun ex=>?_) fun eA=>?_
    ·replace ex:=gY ex
     refine Op.pg 31 [(91,.bool true)] ?_
     refine At.bW 91 32 ?_
     exact At.gr 33 1 6 (.bool false) (hR aw.drop.drop.drop.drop.drop.drop.drop.drop ⟨(aS (by exact absurd (LY hc ‹_›) ‹_›)),rfl⟩)
    replace eA:=jk eA
    refine Op.px 1 [(87,vP a8)] ?_
    refine Op.l1 3 87 88 0 (vI ((aP (bD y (aW u) (bC u))).aX)) (aw.ah 0 rfl) ?_
    refine Op.pg 31 [(91,.bool (decide (((aP (bD y (aW u) (bC u))).aX)<ad)))] ?_
    refine At.fd (((aP (bD y (aW u) (bC u))).aX)<ad) 91 32 34 (fun m7=>?_) fun m8=>?_
    ·exact At.gr 33 1 6 (.bool false) (hR aw.drop.drop.drop.drop.drop.drop.drop.drop ⟨(aS (by exact absurd ‹_› (Int.not_lt.2 (by rw[ht];exact LZ)))),rfl⟩)
    refine At.rp 3 1 [(92,vP a8)] ?_
    refine Op.l1 3 92 93 0 (vI ((aP (bD y (aW u) (bC u))).aX)) (aw.ah 0 rfl) ?_
    refine Op.pg 35 [(9,vI ((aP (bD y (aW u) (bC u))).aX))] ?_
    refine At.rp 3 1 [(47,vI i)] ?_
    refine Op.cE 48 (i+1) (by omega) (by(have h9:=cP list;omega)) ?_
    refine Op.pg 18 [(10,vI (i+1))] ?_
    have hn:=(((((((aw.aa 1 rfl).aa 7 rfl).aa 7 rfl).aa 7 rfl).aa 7 rfl).aa 7 rfl).aa 7 rfl).aa 7 rfl
    have hr:=hn.drop.drop.drop.drop.drop.drop.drop
    exact At.ke (d1 _ (aM.trans a5 (by repeat (first|assumption|apply aM.trans))) (bD y (aW u) (bC u)) ct ((aP (bD y (aW u) (bC u))).aX) (i+1) _ _ (by omega) (by omega) (by omega) (by exact hK.iX h0 (by have h9:=cP list;omega)) (by exact(LY hc ‹_›).symm) (by rfl) a7 hr)
   refine At.rp 4 1 [(94,vP I)] ?_
   refine Op.cl (some 95) 1 X (pT _ _ _ X.sub D I y _ ae (by((try dsimp only)<;>(exact hK.ok.pU (by have h9:=cP list;omega)))) (St.pt 1 X)) ?_
   rintro _ m9 _ na eB hs ⟨nb,nd,nf,hu,v218,hw,nm,hx,v228,hy,nn,rfl,eE,hA,hB,hC,hD,bd,rfl⟩
   obtain⟨dd,n212,rfl⟩:=eE.aj
   obtain⟨no,n217,rfl⟩:=hA.aj
   obtain⟨np,nu,rfl⟩:=hB.aj
   obtain⟨nx,n227,rfl⟩:=hC.aj
   obtain⟨nz,n232,rfl⟩:=hD.aj
   replace D:=D.mono eB
   replace hP:=hP.mono eB
   refine Op.pg 37 [(16,vL dd (((aP y).bZ).length) n212)] ?_
   obtain⟨hE,hF,df,a0⟩:=aJ.freeze eE (hs.aa 1 rfl)
   replace D:=D.mono df
   replace hP:=hP.mono df
   replace bd:=bd.mono df
   refine At.rp 9 7 [(98,.agg #[vI 6,vS p,vN,vI 0,vI 0,.bool false,.bool false,.bool false,vN]),(100,.agg #[vI 7,vS p,vN,vI 0,vI 0,.bool false,.bool false,.bool true,vN]),(101,.agg #[vI 9,vS [],vN,vI 0,vI 0,.bool false,.bool false,.bool false,vN]),(103,.agg #[vI 6,vS p,vN,vI 0,vI 0,.bool false,.bool false,.bool true,vN])] ?_
   refine Op.ls 104 4 25 #[vI 6,vS p,vN,vI 0,vI 0,.bool false,.bool false,.bool false,vN,vI 7,vS p,vN,vI 0,vI 0,.bool false,.bool false,.bool true,vN,vI 9,vS [],vN,vI 0,vI 0,.bool false,.bool false,.bool false,vN,vI 6,vS p,vN,vI 0,vI 0,.bool false,.bool false,.bool true,vN] hF fun dg n0 hG=>?_
   refine Op.pg 38 [(17,vL (some ⟨dg,0,none⟩) 4 4)] ?_
   have hH:aJ 25 ek hE (vL (some ⟨dg,0,none⟩) 4 4) [(⟨6,p,[],0,0,false,false,false,[]⟩:aG),(⟨7,p,[],0,0,false,false,true,[]⟩:aG),(⟨9,[],[],0,0,false,false,false,[]⟩:aG),(⟨6,p,[],0,0,false,false,true,[]⟩:aG)] [(dg,Obj.cells #[vI 6,vS p,vN,vI 0,vI 0,.bool false,.bool false,.bool false,vN,vI 7,vS p,vN,vI 0,vI 0,.bool false,.bool false,.bool true,vN,vI 9,vS [],vN,vI 0,vI 0,.bool false,.bool false,.bool false,vN,vI 6,vS p,vN,vI 0,vI 0,.bool false,.bool false,.bool true,vN] 25 (0,0))]:=aJ.lit (by kernel_rfl) (by unfold maxLen;decide) (by kernel_rfl) ⟨_,_,rfl,(iC.2 ⟨_,_,(av.nil _ _ _),(av.nil _ _ _),rfl⟩),⟨_,_,rfl,(iC.2 ⟨_,_,(av.nil _ _ _),(av.nil _ _ _),rfl⟩),⟨_,_,rfl,(iC.2 ⟨_,_,(av.nil _ _ _),(av.nil _ _ _),rfl⟩),⟨_,_,rfl,(iC.2 ⟨_,_,(av.nil _ _ _),(av.nil _ _ _),rfl⟩),Reads.nil⟩⟩⟩⟩
   obtain⟨hI,hJ,ce,hL⟩:=aJ.freeze hH (hG.aa 0 rfl)
   replace D:=D.mono ce
   replace hP:=hP.mono ce
   replace a0:=a0.mono ce
   replace bd:=bd.mono ce
   refine At.go 39 1 [(18,vI 0)] ?_
   have hN:∀(m:Nat) (be:GH) (bi:aM hI be) (z:Sp) (l:List aG) (j:Int) (dj:ay) (cf:Option Addr) (bj:Nat) (dk:ax) (hm:l.length-j.toNat<m) (h4:0≤j) (h5:j≤l.length) (J:l=oy p) (O:ec (i+j) z) (hz:z.au=y.au) (bk:cu be I z dj) (a1:av be 25 ek (vL cf l.length bj) l) (a3:St h g (aV []) be [dj,hu,hw,hx,hy] dk),At (bX prog B 9 f9 R) [] 39 [(1,vI client),(7,vP I),(16,vL dd (((aP y).bZ).length) n212),(17,vL cf l.length bj),(18,vI j)] dk:=by
    intro m;induction m with
    |zero=>intros;omega
    |succ m hO=>
     intro be bi z l j dj cf bj dk hm h4 h5 J O hz bk a1 a3
     replace D:=D.mono bi
     replace hP:=hP.mono bi
     replace a0:=a0.mono bi
     refine At.go 40 4 [(108,.bool (decide (j<(l.length:Int))))] ?_
     refine At.fd (j<(l.length:Int)) 108 41 48 (fun n3=>?_) fun oi=>?_
     ·refine At.rp 10 2 [(112,vL cf l.length bj),(113,vI j)] ?_
      obtain⟨G,dl⟩:=cG l j
      obtain⟨hQ,eI,oj,ol,hS,dp,bm⟩:=av.bF a1 _ dl
      cases hS
      refine Op.iq 23 25 9 96 l.length bj 112 113 114 hQ eI j ?_
      replace bm:=iC.1 bm
      obtain⟨or,o3,eJ,eK,bm⟩:=bm
      obtain⟨hT,hV,rfl⟩:=eJ.aj
      obtain⟨hW,hX,rfl⟩:=eK.aj
      refine Op.la 25 114 115 (eI+j.toNat*9) 9 [vI G.Kind,vS G.af,vL hT G.Data.length hV,vI G.ai,vI G.aF,.bool G.aY,.bool G.aI,.bool G.ak,vL hW G.az.length hX] (a3.sub _ _ dp) ?_ (hv:=bm)
      refine Op.c0 (some 116) (CV _ _ _ a3.sub D G _ eJ _ eK (by((try dsimp only)<;>(exact T_ (by omega) (J▸dl))))) a3 ?_
      rintro _ o4 _ pa bo ch ⟨pb,rfl,eL,rfl⟩
      obtain⟨eQ,e1,rfl⟩:=eL.aj
      replace dp:=bo _ _ dp
      replace D:=D.mono bo
      replace hP:=hP.mono bo
      replace a1:=a1.mono bo
      replace bk:=bk.mono bo
      refine Op.pg 42 [(19,vL eQ (((bA G).1).length) e1),(20,vI ((bA G).2))] ?_
      refine At.go 43 2 [(120,.bool (((bA G).2) != 0))] ?_
      refine At.fn (((bA G).2)=0) 120 44 46 (fun pc=>?_) fun pd=>?_
      ·exact At.gr 45 1 6 (.bool true) (hR ch.drop.drop.drop.drop.drop ⟨(aS (by rfl)),rfl⟩)
      refine At.rp 7 3 [(121,vP I),(122,vI client),(123,vI j)] ?_
      refine Op.cE 124 ((549755813888:Int)+j) (by omega) (by(have h9:=congrArg List.length J;have h8:(oy p).length=4:=rfl;have h7:=cP list;omega)) ?_
      refine Op.px 2 [(125,.agg #[vI client,vI ((549755813888:Int)+j),vI 0,vN]),(126,vL eQ (((bA G).1).length) e1)] ?_
      refine Op.cl (some 127) 1 ch (pR _ _ _ ch.sub D I z _ bk (⟨client,(549755813888:Int)+j,0,[]⟩:bN) _ (av.nil _ _ _) _ _ eL hP (by((try dsimp only)<;>(exact O.ok.wk (by have h9:=cP list;have h8:=congrArg List.length J;have h7:(oy p).length=4:=rfl;omega)))) (by((try dsimp only)<;>(exact bQ (CW _) (by decide)))) (by((try dsimp only)<;>(exact O.ct (by have h9:=cP list;have h8:=congrArg List.length J;have h7:(oy p).length=4:=rfl;omega)))) (by(try dsimp only)<;>exact O.fD) (by((try dsimp only)<;>(exact pS O (by omega) (by have h9:=cP list;have h8:=congrArg List.length J;have h7:(oy p).length=4:=rfl;omega)))) (St.pt 1 ch)) ?_
      rintro _ pf _ ph e2 hY ⟨pj,pl,pm,rfl,hZ,h2,rfl⟩
      obtain⟨po,pu,rfl⟩:=hZ.aj
      replace hP:=hP.mono e2
      replace a1:=a1.mono e2
      refine Op.gt 47 ?_
      refine At.rp 3 1 [(109,vI j)] ?_
      refine Op.cE 110 (j+1) (by omega) (by(have h9:=congrArg List.length J;have h8:(oy p).length=4:=rfl;have h7:=cP list;omega)) ?_
      refine Op.pg 39 [(18,vI (j+1))] ?_
      have h3:=(hY.aa 0 rfl).aa 1 rfl
      have ib:=h3.drop
      exact At.ke (hO _ (aM.trans bi (by repeat (first|assumption|apply aM.trans))) (bD z (⟨client,(549755813888:Int)+j,0,[]⟩:bN) ((bA G).1)) l (j+1) _ _ _ _ (by omega) (by omega) (by omega) (by exact J) (by exact(O.iX (by omega) (by have h9:=congrArg List.length J;have h8:(oy p).length=4:=rfl;have h7:=cP list;omega)).up (by omega)) (by exact Ua O hz (J▸dl) ‹_› rfl) h2 a1 ib)
     refine At.rp 6 1 [(128,vP I)] ?_
     refine Op.cl (some 129) 1 a3 (pT _ _ _ a3.sub D I z _ bk (by((try dsimp only)<;>(exact O.ok.pU (by have h9:=cP list;have h8:=congrArg List.length J;have h7:(oy p).length=4:=rfl;omega)))) (St.pt 1 a3)) ?_
     rintro _ pv _ pw dq ih ⟨py,pA,pB,pC,pD,p0,p1,p2,p3,p8,qr,rfl,e3,ii,ik,il,io,q0,rfl⟩
     obtain⟨ip,n305,rfl⟩:=e3.aj
     obtain⟨q1,n310,rfl⟩:=ii.aj
     obtain⟨q2,q3,rfl⟩:=ik.aj
     obtain⟨q4,n320,rfl⟩:=il.aj
     obtain⟨q5,q6,rfl⟩:=io.aj
     replace D:=D.mono dq
     replace hP:=hP.mono dq
     replace a0:=a0.mono dq
     refine Op.px 2 [(130,vL ip (((aP z).bZ).length) n305),(131,vL dd (((aP y).bZ).length) n212)] ?_
     have ci:=(ih.aa 0 rfl).aa 1 rfl
     have e4:=ci.gz
     have is:=e3.fY ci
     refine Op.le (some 132) 0 ci (yC _ _ _ ci.iO (D.mono e4) _ _ is _ _ (a0.mono e4) (by((try dsimp only)<;>(exact bQ (jv O).1.1 (by decide)))) (by(try dsimp only)<;>exact(jv O).1.2)) (fun _ _ _ hp=>by obtain⟨_,du,_⟩:=hp;exact du) ?_ (hM:=(fun _ _ h=>absurd h (dB _)))
     rintro _ _ ra iv ⟨rfl,du,rfl⟩;clear du
     exact Op.pr 49 6 (.bool (decide (((aP z).bZ)=((aP y).bZ)))) (hR iv.drop.drop.drop.drop.drop.drop.drop.drop.drop.drop ⟨(aS (by exact eu hz)),rfl⟩)
   exact At.ke (hN _ _ (aM.refl _) y ([(⟨6,p,[],0,0,false,false,false,[]⟩:aG),(⟨7,p,[],0,0,false,false,true,[]⟩:aG),(⟨9,[],[],0,0,false,false,false,[]⟩:aG),(⟨6,p,[],0,0,false,false,true,[]⟩:aG)]) 0 _ _ _ _ (bM _) (by omega) (by(show(0:Int)≤4;decide)) (by rfl) (by exact hK.up (by omega)) (by rfl) bd hL hJ)
 exact At.ke (fg _ _ (aM.refl _) mL 0 0 0 _ _ (bM _) (by omega) (by omega) (by exact ec.new) (by rfl) (by rfl) fa e9)
end Go.Proofs.YtceekbnihfckeaaGreatDoor.Sw
