/- Lemmas for laws of this seat. -/
import Derived.Test.YtceekbnihfckeaaGreatDoorQBP
namespace Go.Proofs.YtceekbnihfckeaaGreatDoor.Sw
open Go.Proofs.Tryz
set_option linter.unusedVariables false
set_option linter.unusedSimpArgs false
set_option linter.deprecated false
open Go
set_option linter.defProp false
def vc:=@List.map_eq_nil_iff
def yA:=@Nat.div_lt_of_lt_mul
def yB:=@Nat.mul_assoc
def nC:=@List.drop_left
def nZ:=@Int.toNat_natCast
def kO:=@List.getD_cons_zero
def kP:=@List.getD_cons_succ
def tK:=@List.all_map
def rD:=@List.any_append
def tL:=@Bool.or_false
def vf:=@Bool.or_true
def ng:=@List.sum_cons
def vg:Kd Bool where
  sz:=1
  K _ x cs:=cs=[.bool x]
  len h:=by subst h;rfl
  one h:=by subst h;simp[Value.oneCell']
  mono _ h:=h
  zv:=false
  zc:=[.bool false]
  zK _:=rfl
theorem vh {cs:Array Value} {o n:Nat} {vs ws:List Value} (h:cut cs o n=vs) (k m:Nat) (hv:(vs.drop k).take m=ws) (hm:k+m≤n:=by omega):cut cs (o+k) m=ws:=by
  rw[←qo cs o n k m hm,h,hv]
theorem CK (a b:dL):((a.Client==b.Client)&&((a.aF==b.aF)&&((a.cC==b.cC)&&true)))=decide (a=b):=by
  obtain⟨a0,a1,a2⟩:=a;obtain⟨b0,b1,b2⟩:=b
  rw[kQ];simp[CL,b_,dL.mk.injEq]
mutual
def jE:aG→Nat
  |⟨_,_,_,_,_,_,_,_,ops⟩=>gy ops+1
def gy:List aG→Nat
  |[]=>0
  |x::xs=>max (jE x) (gy xs)
end
theorem vi (x:aG):jE x=gy x.az+1:=by
  obtain⟨k,p,u,D,sp,b,G,w,ops⟩:=x
  rw[jE]
end Go.Proofs.YtceekbnihfckeaaGreatDoor.Sw
namespace Go.Proofs.YtceekbnihfckeaaGreatDoor.Sw
open Go.Proofs.Tryz
set_option linter.unusedVariables false
set_option linter.unusedSimpArgs false
set_option linter.deprecated false
open Go
section
variable {ns:List ag} {p data q:aQ} {cI born bO o' b':Int} {num:Bool} {up x:ag} {k:Int}
theorem vj (a b:ag):decide (a=b)=(decide (a.af=b.af)&&(decide (a.Data=b.Data)&&(decide (a.ai=b.ai)&&(decide (a.aD=b.aD)&&(decide (a.Next=b.Next)&&decide (a.aL=b.aL)))))):=by
  obtain⟨a1,a2,a3,a4,a5,u⟩:=a
  obtain⟨b1,b2,D,G,I,J⟩:=b
  rw[kQ]
  simp[ag.mk.injEq]
theorem jP {a b:ag} (h:¬a.af=b.af∨¬a.Data=b.Data∨¬a.ai=b.ai∨¬a.aD=b.aD∨¬a.Next=b.Next):false=decide (a=b):=by
  refine(gb fun e=>?_).symm
  subst e
  rcases h with h|h|h|h|h
  all_goals exact h rfl
theorem vk {a b:ag} (h1:a.af=b.af) (h2:a.Data=b.Data) (h3:a.ai=b.ai) (h4:a.aD=b.aD) (h5:a.Next=b.Next):(a.aL==b.aL)=decide (a=b):=by
  rw[vj,eu h2,eu h1,eu h3,eu h4,eu h5]
  simp only[lp]
  rw[kQ]
  simp
end
end Go.Proofs.YtceekbnihfckeaaGreatDoor.Sw
namespace Go.Proofs.YtceekbnihfckeaaGreatDoor.Sw
open Go.Proofs.Tryz
open Go
set_option maxRecDepth 100000
set_option linter.unusedVariables false
set_option linter.unusedSimpArgs false
set_option linter.deprecated false
theorem vm (B:World) (h:ax) (g:GH) (hg:bl g h) (ar:bq g) (a:ag) (J:Value) (O:av g 5 br J a.Data) (b:ag) (U:Value) (V:av g 5 br U b.Data) (h1:a.Data.length≤1000000000):
  aE prog B 42 #[.agg #[vS a.af,J,vI a.ai,vI a.aD,vI a.Next,vI a.aL],.agg #[vS b.af,U,vI b.ai,vI b.aD,vI b.Next,vI b.aL]] h g [] (fun aw g' L'=>aw=.bool (decide (a=b))∧g'=g∧L'=[]):=by
 obtain⟨X,Y,rfl⟩:=O.aj
 obtain⟨ab,ad,rfl⟩:=V.aj
 refine aE.aq func42 fun R hR=>?_
 have a0:=St.init hg
 refine At.rg 3 ?_
 refine Op.bx 2 39 0 #[vS a.af,vL X a.Data.length Y,vI a.ai,vI a.aD,vI a.Next,vI a.aL] a0 fun G a3 a1=>?_
 refine Op.bx 3 39 1 #[vS b.af,vL ab b.Data.length ad,vI b.ai,vI b.aD,vI b.Next,vI b.aL] a1 fun I a4 D=>?_
 refine Op.pg 1 [] ?_
 refine At.rp 41 1 [(5,vP G)] ?_
 refine Op.l1 9 5 6 0 (vS a.af) (D.ah 1 rfl) ?_
 refine Op.px 1 [(7,vP I)] ?_
 refine Op.l1 9 7 8 0 (vS b.af) (D.ah 0 rfl) ?_
 refine Op.vl 9 (.bool ((bp a.af).toList==(bp b.af).toList)) (.bool (a.af==b.af)) (by rw[toList_mkS,toList_mkS]) ?_
 refine Op.px 1 [(10,.bool (a.af==b.af))] ?_
 refine Op.wb (a.af==b.af) 10 (fun ae=>?_) fun am=>?_
 ·replace ae:=eq_of_beq ae
  refine Op.px 1 [(11,vQ G 1)] ?_
  refine Op.l1 22 11 12 1 (vL X a.Data.length Y) (D.ah 1 rfl) ?_
  refine Op.px 1 [(13,vQ I 1)] ?_
  refine Op.l1 22 13 14 1 (vL ab b.Data.length ad) (D.ah 0 rfl) ?_
  refine Op.c1 15 (tM _ _ _ D.sub ar _ _ O _ _ V (by(try dsimp only)<;>omega)) D fun a5 u=>?_
  refine Op.px 2 [(17,.bool (decide (a.Data=b.Data)))] ?_
  refine Op.wd (a.Data=b.Data) 17 (fun a6=>?_) fun a7=>?_
  ·refine Op.px 1 [(18,vQ G 2)] ?_
   refine Op.l1 3 18 19 2 (vI a.ai) (u.ah 1 rfl) ?_
   refine Op.px 1 [(20,vQ I 2)] ?_
   refine Op.l1 3 20 21 2 (vI b.ai) (u.ah 0 rfl) ?_
   refine Op.px 3 [(24,.bool (a.ai==b.ai))] ?_
   refine Op.wd (a.ai=b.ai) 24 (fun a8=>?_) fun a9=>?_
   ·refine Op.px 1 [(25,vQ G 3)] ?_
    refine Op.l1 3 25 26 3 (vI a.aD) (u.ah 1 rfl) ?_
    refine Op.px 1 [(27,vQ I 3)] ?_
    refine Op.l1 3 27 28 3 (vI b.aD) (u.ah 0 rfl) ?_
    refine Op.px 3 [(31,.bool (a.aD==b.aD))] ?_
    refine Op.wd (a.aD=b.aD) 31 (fun bc=>?_) fun bd=>?_
    ·refine Op.px 1 [(32,vQ G 4)] ?_
     refine Op.l1 3 32 33 4 (vI a.Next) (u.ah 1 rfl) ?_
     refine Op.px 1 [(34,vQ I 4)] ?_
     refine Op.l1 3 34 35 4 (vI b.Next) (u.ah 0 rfl) ?_
     refine Op.px 3 [(38,.bool (a.Next==b.Next))] ?_
     refine Op.wd (a.Next=b.Next) 38 (fun be=>?_) fun bi=>?_
     ·refine Op.px 1 [(39,vQ G 5)] ?_
      refine Op.l1 3 39 40 5 (vI a.aL) (u.ah 1 rfl) ?_
      refine Op.px 1 [(41,vQ I 5)] ?_
      refine Op.l1 3 41 42 5 (vI b.aL) (u.ah 0 rfl) ?_
      exact Op.pr 2 4 (.bool (a.aL==b.aL)) (hR u.drop.drop ⟨(aS (by exact vk ‹_› ‹_› ‹_› ‹_› ‹_›)),rfl,rfl⟩)
     exact Op.pr 2 4 (.bool false) (hR u.drop.drop ⟨(aS (by exact jP (.inr (.inr (.inr (.inr ‹_›)))))),rfl,rfl⟩)
    exact Op.pr 2 4 (.bool false) (hR u.drop.drop ⟨(aS (by exact jP (.inr (.inr (.inr (.inl ‹_›)))))),rfl,rfl⟩)
   exact Op.pr 2 4 (.bool false) (hR u.drop.drop ⟨(aS (by exact jP (.inr (.inr (.inl ‹_›))))),rfl,rfl⟩)
  exact Op.pr 2 4 (.bool false) (hR u.drop.drop ⟨(aS (by exact jP (.inr (.inl ‹_›)))),rfl,rfl⟩)
 replace am:=n4 am
 exact Op.pr 2 4 (.bool false) (hR D.drop.drop ⟨(aS (by exact jP (.inl ‹_›))),rfl,rfl⟩)
theorem yC (B:World) (h:ax) (g:GH) (hg:bl g h) (a9:bq g) (ae:Value) (a:List ag) (am:av g 39 mu ae a) (ar:Value) (b:List ag) (aw:av g 39 mu ar b) (h1:a.length≤1000000000) (hd:∀n∈a,n.Data.length≤1000000000):
  aE prog B 45 #[ae,ar] h g [] (fun bc g' L'=>bc=.bool (decide (a=b))∧g'=g∧L'=[]):=by
 obtain⟨a0,J,rfl⟩:=am.aj
 obtain⟨a1,O,rfl⟩:=aw.aj
 refine aE.aq func45 fun R hR=>?_
 have a3:=St.init hg
 refine At.go 1 1 [] ?_
 refine At.go 2 5 [(10,.bool ((a.length:Int) != (b.length:Int)))] ?_
 refine At.fn ((a.length:Int)=(b.length:Int)) 10 3 5 (fun b8=>?_) fun ca=>?_
 ·exact At.gr 4 1 4 (.bool false) (hR a3 ⟨(aS (by exact tN ‹_›)),rfl,rfl⟩)
 refine At.go 6 1 [(5,vI 0)] ?_
 have bd:∀(m:Nat) (i:Int) (U:ax) (hm:a.length-i.toNat<m) (h0:0≤i) (h2:i≤a.length) (ht:a.take i.toNat=b.take i.toNat) (G:St h g (aV []) g [] U),At (bX prog B 45 f45 R) [] 6 [(0,vL a0 a.length J),(1,vL a1 b.length O),(5,vI i)] U:=by
  intro m;induction m with
  |zero=>intros;omega
  |succ m be=>
   intro i U hm h0 h2 ht G
   refine At.go 7 4 [(14,.bool (decide (i<(a.length:Int))))] ?_
   refine At.fd (i<(a.length:Int)) 14 8 13 (fun cb=>?_) fun bi=>?_
   ·refine At.dw (fun _=>False) [(0,true),(1,true),(2,true),(4,true),(5,true),(6,true),(3,true),(7,false),(8,false),(9,true)] ?_
    refine Op.px 2 [(17,vL a0 a.length J),(18,vI i)] ?_
    obtain⟨u,I⟩:=cG a i
    obtain⟨bj,a4,ce,cf,bk,bm,V⟩:=av.bF am _ I
    cases bk
    refine Op.iq 57 39 6 72 a.length J 17 18 19 bj a4 i ?_
    obtain⟨ch,a5,V⟩:=V
    obtain⟨a37,bo,rfl⟩:=a5.aj
    refine Op.px 2 [(21,vL a1 b.length O),(22,vI i)] ?_
    obtain⟨D,X⟩:=cG b i
    obtain⟨bt,a6,ci,ck,b3,b4,Y⟩:=av.bF aw _ X
    cases b3
    refine Op.iq 57 39 6 72 b.length O 21 22 23 bt a6 i ?_
    obtain⟨co,a7,Y⟩:=Y
    obtain⟨b5,b6,rfl⟩:=a7.aj
    refine Op.iU (T:=39) (x:=19) (o:=a4+i.toNat*6) (d:=20) (n:=6) (vs:=[vS u.af,vL a37 u.Data.length bo,vI u.ai,vI u.aD,vI u.Next,vI u.aL]) (by kernel_rfl) (by kernel_rfl) (by kernel_rfl) (fun h=>h) (G.sub _ _ bm) V rfl ?_
    refine Op.la 39 23 24 (a6+i.toNat*6) 6 [vS D.af,vL b5 D.Data.length b6,vI D.ai,vI D.aD,vI D.Next,vI D.aL] (G.sub _ _ b4) ?_ (hv:=Y)
    refine Op.c1 25 (vm _ _ _ G.sub a9 u _ a5 D _ a7 (by((try dsimp only)<;>(exact hd _ (cj I))))) G fun c3 a8=>?_
    refine Op.pg 9 [(26,.bool (!(decide (u=D))))] ?_
    refine At.di (!(decide (u=D))) 26 10 12 (fun ab=>?_) fun ad=>?_
    ·replace ab:=jq (dG ab)
     exact At.gr 11 1 4 (.bool false) (hR a8 ⟨(aS (by exact tO I X ab)),rfl,rfl⟩)
    replace ad:=gp (dH ad)
    refine At.rp 3 1 [(15,vI i)] ?_
    refine Op.vq 16 (i+1) ?_
    exact Op.pg 6 [(5,vI (i+1))] (At.ke (be (i+1) _ (by omega) (by omega) (by omega) (by exact qp ht h0 I X ad) a8))
   exact At.gr 14 1 4 (.bool true) (hR G ⟨(aS (by exact tP ‹_› bi ht)),rfl,rfl⟩)
 exact At.ke (bd _ 0 _ (bM _) (by omega) (by omega) (by rfl) a3)
end Go.Proofs.YtceekbnihfckeaaGreatDoor.Sw
namespace Go.Proofs.YtceekbnihfckeaaGreatDoor.Sw
open Go.Proofs.Tryz
set_option linter.unusedVariables false
set_option linter.unusedSimpArgs false
set_option linter.deprecated false
set_option linter.unusedSectionVars false
open Go
theorem vn {k:Int} {s:Sp} {t:Int} (H:bK k s) (h:min t 1099511627775≤s.aA):dI s t=s:=by
  have e:max s.aA (min t 1099511627775)=s.aA:=by omega
  unfold dI
  rw[e]
  have h1:gq (fA s.aA) s.book=[]:=by
    unfold gq
    rw[vc,vp]
    intro p hp
    have:=H.kr p hp
    unfold fA
    simp only[cQ]
    omega
  have h2:ia (fA s.aA) s.book=s.book:=by
    unfold ia
    rw[mJ]
    intro p hp
    have:=H.kr p hp
    unfold fA
    simp only[gN,jb]
    omega
  show jc {s with book:=ia (fA s.aA) s.book,aA:=s.aA} (gq (fA s.aA) s.book)=s
  rw[h1,h2]
  rfl
end Go.Proofs.YtceekbnihfckeaaGreatDoor.Sw
namespace Go.Proofs.YtceekbnihfckeaaGreatDoor.Sw
open Go.Proofs.Tryz
set_option linter.unusedVariables false
set_option linter.unusedSimpArgs false
set_option linter.deprecated false
open Go
theorem o7 {n:Nat} (h:n<256):(UInt8.ofNat n).toNat=n:=by
  rw[yD]
  exact o8 h
theorem tQ {c:UInt8} {r:an} {i:Nat} {a:Int} (h1:¬((i=8∧64≤c.toNat)∨(c.toNat=0∧0<i))) (h2:c.toNat<128):iz (c::r) i a=(a+((c.toNat*2 ^ (7*i):Nat):Int),(i:Int)+1,0):=by
  rw[iz,aC h1,aO h2,o8 h2]
theorem yE:∀(n v i:Nat) (a:Int) (rest:an),v<2 ^ (62-7*i)→i≤8→8≤n+i→(0<i→1≤v)→
    iz (gH n v++rest) i a=(a+((v*2 ^ (7*i):Nat):Int),(i:Int)+((gH n v).length:Int),0):=by
  intro n
  induction n with
  |zero=>
   intro v i a rest hv hi hn h1
   obtain rfl:i=8:=by omega
   have hv:v<64:=hv
   have h1:=h1 (by decide)
   have e:(UInt8.ofNat v).toNat=v:=o7 (by omega)
   rw[gH,dW,tQ (by rw[e];omega) (by rw[e];omega),e]
   rfl
  |succ n ih=>
   intro v i a rest hv hi hn h1
   have D:i=8→v<64:=fun h=>by subst h;exact hv
   rw[gH]
   split
   · rename_i hlt
     have e:(UInt8.ofNat v).toNat=v:=o7 (by omega)
     rw[dW,tQ (by rw[e];omega) (by rw[e];omega),e]
     rfl
   · rename_i G
     have I:i<8:=by omega
     have e:(UInt8.ofNat (v % 128+128)).toNat=v % 128+128:=o7 (by omega)
     have hq:v / 128<2 ^ (62-7*(i+1)):=by
       have e2:2 ^ (62-7*i)=2 ^ (62-7*(i+1))*128:=by
         rw[show 62-7*i=(62-7*(i+1))+7 by omega,AT]
       rw[e2] at hv
       exact yA (by rw[yF];exact hv)
     rw[dW,iz,aC (by rw[e];omega),aC (by rw[e];omega),e,ih (v / 128) (i+1) _ rest hq (by omega) (by omega) (fun _=>by omega)]
     have e3:(v % 128+128) % 128=v % 128:=by omega
     have u:v % 128*2 ^ (7*i)+v / 128*2 ^ (7*(i+1))=v*2 ^ (7*i):=by
       rw[yG,←yB,←nD]
       congr 1
       omega
     rw[e3,bY]
     refine n5 ?_ (n5 ?_ rfl)
     · show a+((v % 128*2 ^ (7*i):Nat):Int)+((v / 128*2 ^ (7*(i+1)):Nat):Int)=a+((v*2 ^ (7*i):Nat):Int)
       rw[←u]
       omega
     · show((i+1:Nat):Int)+((gH n (v / 128)).length:Int)=(i:Int)+(((gH n (v / 128)).length+1:Nat):Int)
       omega
theorem tT {v:Int} (h:gd v=true) (rest:an):bH (eM v++rest)=(v,((eM v).length:Int),0):=by
  obtain⟨h1,h2⟩:=yH h
  unfold bH eM
  rw[yE 9 v.toNat 0 0 rest (by show v.toNat<4611686018427387904;omega) (by decide) (by decide) (fun h=>absurd h (by decide))]
  refine n5 ?_ (n5 ?_ rfl)
  · show(0:Int)+((v.toNat*1:Nat):Int)=v
    omega
  · show((0:Nat):Int)+((gH 9 v.toNat).length:Int)=((gH 9 v.toNat).length:Int)
    omega
theorem tU (v:Int):0<(eM v).length:=(rE v).1
theorem tV:∀(fs out:List an),(∀f∈fs,f.length≤65536)→out.length+fs.length≤1024→kR (dA fs).length (dA fs) out=(out++fs,0)
  |[],out,_,_=>by simp[dA,kR]
  |f::fs,out,h,hl=>by
   have hf:=h f (by simp)
   have hok:gd (f.length:Int)=true:=jd (by omega) (by omega)
   have e:dA (f::fs)=eM f.length++(f++dA fs):=by
     unfold dA
     rw[qq]
     unfold vr
     rw[dm]
   have hr:=tT hok (f++dA fs)
   rw[←e] at hr
   have hp:=tU (f.length:Int)
   have hlen:(dA (f::fs)).length=(eM f.length).length+(f.length+(dA fs).length):=by rw[e,cA,cA]
   rw[bY] at hl
   rw[tW (by omega),hr]
   simp only[]
   rw[aC (by omega),aC (by simp),aC (by omega),aC (by omega)]
   have hd:(dA (f::fs)).drop (((eM f.length).length:Int)+(f.length:Int)).toNat=dA fs:=by
     rw[show(((eM f.length).length:Int)+(f.length:Int)).toNat=(eM f.length).length+f.length by omega,e,←qs,nC,nC]
   have ht:((dA (f::fs)).drop ((eM f.length).length:Int).toNat).take (f.length:Int).toNat=f:=by
     rw[nZ,nZ,e,nC,AU]
   rw[hd,ht,tV fs (out++[f]) (fun g hg=>h g (by simp[hg])) (by rw[cA,o9];omega),dm]
   rfl
theorem kS {fs:List an} (h:jr fs=true):bg (dA fs)=(fs,0):=by
  obtain⟨h1,h2⟩:=yI h
  exact tV fs [] h2 (by simpa using h1)
theorem tX:∀(l out:List Int),l.all gd=true→lX (dO l).length (dO l) out=(out++l,0)
  |[],out,_=>by simp[dO,lX]
  |v::l,out,h=>by
   rw[j5,b_] at h
   have e:dO (v::l)=eM v++dO l:=by unfold dO;rw[qq]
   have hr:=tT h.1 (dO l)
   rw[←e] at hr
   have hp:=tU v
   have hlen:(dO (v::l)).length=(eM v).length+(dO l).length:=by rw[e,cA]
   rw[yJ (by omega),hr]
   simp only[]
   rw[aC (by simp)]
   have hd:(dO (v::l)).drop ((eM v).length:Int).toNat=dO l:=by rw[nZ,e,nC]
   rw[hd,tX l (out++[v]) h.2,dm]
   rfl
theorem mw {l:List Int} (h:l.all gd=true):bU (dO l)=(l,0):=tX l [] h
theorem o_ {l:List Int} (h:l.all gd=true) (n:Int) (hn:(l.length:Int)=n):gI (dO l) n=true:=by
  unfold gI
  rw[mw h]
  simp[hn]
theorem tY {w:ak} (h:jF w=true):dZ (js w).1=(w,true):=by
  unfold jF at h
  simp only[b_,j6] at h
  obtain⟨h1,h2⟩:=h
  have hn:[w.Client,w.Kind].all gd=true:=by
    simp only[j5,nh,b_,mK] at h1 ⊢
    exact⟨(oz h1.1).1,(oz h1.2).1⟩
  unfold js at *
  obtain⟨h3,h4⟩:=n6 h2
  rw[h4]
  have hs:=kS h3
  rw[oA hn] at hs ⊢
  have hI:=mw hn
  unfold dZ rF
  rw[hs]
  simp only[kO,kP]
  rw[hI,o_ hn 2 rfl]
  simp
theorem yK {x:Result} (h:(cL x).2=0):ku x=true∧(dM x.bP).2=0∧x.aT.all jF=true∧(dM (je x)).2=0∧(cL x).1=(dM (je x)).1:=by
  unfold cL at *
  repeat' split at h
  all_goals first|(simp at h;done)|skip
  rename_i h1 h2 h3 h4
  refine⟨by simpa using h1,by simpa using h2,by simpa using h3,by simpa using h4,?_⟩
  rw[aC h1,aC h2,aC h3,aC h4]
theorem yL {x:Result} (h:(cL x).2=0):bw (cL x).1=(x,0):=by
  obtain⟨h1,h2,h3,h4,h5⟩:=yK h
  obtain⟨h6,h7⟩:=n6 h4
  obtain⟨h8,h9⟩:=n6 h2
  have hn:=AV h1
  have hb:(cL x).1=dA (je x):=by rw[h5,h7]
  have hs:=kS h6
  rw[←hb] at hs
  have hI:=mw hn
  have hrow:je x=(dO (pe x))::x.ag.af::x.ag.Data::dA x.bP::x.aT.map (fun w=>(js w).1):=by
    unfold je vt
    rw[oA hn,h9]
    rfl
  rw[hrow] at hs
  have hNs:=kS h8
  have hE:(x.aT.map fun w=>(js w).1).map (fun e=>(dZ e).1)=x.aT:=by
    rw[jg]
    conv=>rhs;rw[←rG x.aT]
    apply tZ
    intro w hw
    rw[ic] at h3
    simp only[Function.comp,tY (h3 w hw),id]
  have hA:(x.aT.map fun w=>(js w).1).all (fun e=>(dZ e).2)=true:=by
    rw[tK,ic]
    intro w hw
    rw[ic] at h3
    simp only[Function.comp,tY (h3 w hw)]
  have hd:j7 (cL x).1=true:=by
    unfold j7
    rw[hs]
    simp only[kO,kP,o_ hn 7 rfl,hNs]
    simp
    omega
  have u:nE (cL x).1=x.aT:=by
    unfold nE
    rw[hs]
    exact hE
  have hN:pn (cL x).1 (nE (cL x).1)=x:=by
    rw[u]
    unfold pn t_
    rw[hs]
    simp only[kO,kP,hI,hNs]
    unfold pe
    simp only[kO,kP]
    simp
  unfold bw
  rw[hd,aO rfl,hN]
  have:(List.drop (4:Int).toNat (bg (cL x).1).1).all (fun e=>(dZ e).2)=true:=by
    rw[hs]
    exact hA
  rw[this,aO rfl,aO ⟨h,rfl⟩]
end Go.Proofs.YtceekbnihfckeaaGreatDoor.Sw
namespace Go.Proofs.YtceekbnihfckeaaGreatDoor.Sw
open Go.Proofs.Tryz
set_option linter.unusedVariables false
set_option linter.unusedSimpArgs false
set_option linter.deprecated false
set_option linter.unusedSectionVars false
open Go
section
variable {s:Sp} {c t:Int} {b:aQ} {e:bN} {o:aG}
theorem yM {s u:Sp} (h:kp s=kp u):s.aR=u.aR:=congrArg (·.2.2) h
theorem wZ:(lY s e b).aR=dJ s.aR e.Client ⟨e.bn,(cL (gV s e.Client b)).1⟩:=by
  show dJ (cF (cB s) e.Client b).aR _ _=_
  rw[yM (vu (s:=cB s) (c:=e.Client) (b:=b))]
  rfl
end
end Go.Proofs.YtceekbnihfckeaaGreatDoor.Sw
namespace Go.Proofs.YtceekbnihfckeaaGreatDoor.Sw
open Go.Proofs.Tryz
set_option linter.unusedVariables false
set_option linter.unusedSimpArgs false
set_option linter.deprecated false
open Go
theorem pq (o:aG):(fS o % 2 != (0:Int))=o.aY∧(fS o / 2 % 2*2 != (0:Int))=o.aI∧(fS o / 4 % 2*4 != (0:Int))=o.ak∧0≤fS o∧fS o≤7:=by
  unfold fS
  cases o.aY<;>cases o.aI<;>cases o.ak<;>decide
theorem ni {bR:Bool} {o:aG} (h:dr bR o=true):(gW o).all gd=true:=by
  obtain⟨h1,h2,h3,_⟩:=pz h
  obtain⟨_,_,_,h4,h5⟩:=pq o
  unfold gW
  simp only[j5,nh,b_,mK]
  exact⟨jd (by omega) (by omega),jd (by omega) (by omega),jd (by omega) (by omega),jd (by omega) (by omega)⟩
theorem ua:∀{xs:List aG},(iK xs).2=0→(iK xs).1=xs.map (fun x=>(cy x).1)∧∀x∈xs,(cy x).2=0
  |[],_=>⟨by rw[iK];rfl,fun x h=>by cases h⟩
  |x::xs,h=>by
   rw[w4] at h ⊢
   split at h
   · rename_i hx;exact absurd h hx
   · rename_i hx
     obtain⟨h1,h2⟩:=ua (xs:=xs) h
     rw[aC hx]
     refine⟨by simp only[h1,eR],fun y hy=>?_⟩
     rcases ei.1 hy with rfl|hy
     · simpa using hx
     · exact h2 y hy
def gR (o:aG):List an:=dO (gW o)::o.af::o.Data::o.az.map fun x=>(cy x).1
theorem uc {bR:Bool} {o:aG} (hr:dr bR o=true) (h:(cy o).2=0):(cy o).1=dA (gR o)∧jr (gR o)=true∧∀x∈o.az,(cy x).2=0:=by
  rw[w5] at h ⊢
  split at h
  · rename_i hx;exact absurd h hx
  · rename_i hx
    obtain⟨h1,h2⟩:=ua (by simpa using hx)
    rw[aC hx]
    rw[oA (ni hr),h1] at h ⊢
    obtain⟨h3,h4⟩:=n6 h
    exact⟨h4,h3,h2⟩
theorem ud {bR:Bool} {o:aG} (hr:dr bR o=true) (hj:jr (gR o)=true) (ops:List aG):nF (dA (gR o)) ops={o with az:=ops}:=by
  unfold nF
  rw[kS hj]
  unfold gR
  simp only[kO,kP]
  rw[mw (ni hr)]
  unfold w6 gW
  simp only[kO,kP]
  obtain⟨h1,h2,h3,_⟩:=pq o
  rw[h1,h2,h3]
  simp
theorem ue {bR:Bool} {o:aG} (hr:dr bR o=true) (hj:jr (gR o)=true) (hi:bR=true→o.az=[]):iA bR (dA (gR o))=true:=by
  unfold iA
  rw[kS hj]
  have e:(gR o).getD 0 []=dO (gW o):=rfl
  simp only[]
  rw[e,o_ (ni hr) 4 rfl,mw (ni hr)]
  have e3:(gW o).getD 3 0=fS o:=rfl
  simp only[]
  rw[e3,eu (pq o).2.2.2.2]
  unfold gR
  simp only[bY,d_]
  cases bR with
  |false=>simp;omega
  |true=>simp[hi rfl]
theorem yN {o:aG} (h:dr true o=true):o.az=[]:=by
  rw[nj] at h
  unfold kU rA n7 at h
  simp only[b_,nk,n8,jh,j6] at h
  obtain⟨⟨⟨hk,hm⟩,_,_,_,_,_,_,h7,_⟩,_⟩:=h
  rcases h7 with h7|h7
  · unfold bT at hm h7
    simp only[cQ,jh] at hm h7
    omega
  · exact ju (by omega)
theorem uf {o:aG} (hr:dr true o=true) (h:(cy o).2=0):jQ (cy o).1=(o,true):=by
  obtain⟨h1,h2,_⟩:=uc hr h
  have hi:=yN hr
  unfold jQ
  rw[h1,ue hr h2 (fun _=>hi),aO rfl,ud hr h2 []]
  obtain⟨k,p,u,D,sp,b,G,w,ops⟩:=o
  simp only at hi
  subst hi
  rfl
theorem yO {o:aG} (hr:dr false o=true) (h:(cy o).2=0):a_ false (cy o).1=(o,true):=by
  obtain⟨h1,h2,h3⟩:=uc hr h
  have h4:=(pz hr).2.2.2.2
  unfold a_
  rw[h1,ue hr h2 (fun h=>by cases h),aO rfl,kS h2]
  have hd:(gR o).drop 3=o.az.map fun x=>(cy x).1:=rfl
  simp only[]
  rw[hd]
  have ha:(o.az.map fun x=>(cy x).1).all (fun x=>(jQ x).2)=true:=by
    rw[tK,ic]
    intro x hx
    simp only[Function.comp,uf (h4 x hx) (h3 x hx)]
  have hm:(o.az.map fun x=>(cy x).1).map (fun x=>(jQ x).1)=o.az:=by
    rw[jg]
    conv=>rhs;rw[←rG o.az]
    apply tZ
    intro x hx
    simp only[Function.comp,uf (h4 x hx) (h3 x hx),id]
  rw[ha,aO rfl,hm,ud hr h2]
  obtain⟨_,_,_,_,_,_,_,_,_⟩:=o
  rfl
theorem yP {o:aG} (h:(bA o).2=0):dr false o=true∧(cy o).2=0∧(bA o).1=(cy o).1∧(cy o).1.length≤1024:=by
  unfold bA at *
  repeat' split at h
  · simp at h
  · simp at h
  · rename_i h1 h2
    rw[aC h1,aC h2]
    simp only[qt,AW] at h2
    exact⟨by simpa using h1,by simpa using h2.1,rfl,h2.2⟩
theorem w8 {o:aG} (h:(bA o).2=0):aU (bA o).1=(o,0):=by
  obtain⟨h1,h2,h3,h4⟩:=yP h
  unfold aU
  rw[h3,aC (by omega),yO h1 h2,aC (by rw[h1];simp)]
end Go.Proofs.YtceekbnihfckeaaGreatDoor.Sw
namespace Go.Proofs.YtceekbnihfckeaaGreatDoor.Sw
open Go.Proofs.Tryz
set_option linter.unusedVariables false
set_option linter.unusedSimpArgs false
set_option linter.deprecated false
set_option linter.unusedSectionVars false
open Go
section
variable {k c c':Int} {s:Sp} {e:bN} {b:aQ} {o:aG}
theorem yQ (H:bK k s) (h0:0≤k) (hk:k≤99000) (hn:s.count≤1000000000000) (hd:dQ s e=true):bw (bh s e b)=(gV (dI s e.aX) e.Client b,0):=by
  unfold dQ at hd
  rw[b_,cQ] at hd
  have h1:=w9 hd.1
  have hb:bh s e b=(cL (gV (dI s e.aX) e.Client b)).1:=by unfold bh;rw[aO hd.1,aO hd.2]
  rw[hb]
  exact yL (AX (H.nG e.aX) h1.1.2 h0 hk (by rw[qu];exact hn)).1
structure cO (c:Int) (s:Sp):Prop where
  book:bV s.book c=none
  gf:∀w∈s.aN,w.Client≠c
  ev:cV s.events c=[]
theorem cO.new:cO c mL:=⟨rfl,fun w h=>(by cases h),rfl⟩
theorem cO.lq (H:cO c s) (kind:Int) (ps:List aQ):cO c (lu s kind ps):=by
  refine⟨H.book,fun w hw=>H.gf w (fB.1 hw).1,?_⟩
  show cV (kz s.events _) c=[]
  rw[vv,H.ev,eN,vp]
  intro w hw
  have:=H.gf w (fB.1 hw).1
  simpa using this
theorem cO.qv (H:cO c s) (p:aQ):cO c (pE s p):=(H.lq _ _).lq _ _
theorem cO.vw (H:cO c s) (ff:Nat) (p:aQ):cO c (lz s ff p):=by
  unfold lz
  split
  · exact H.qv p
  · exact H.lq _ _
theorem cO.tr (H:cO c s) (ns:List ag):cO c {s with au:=ns}:=⟨H.book,H.gf,H.ev⟩
theorem cO.pF:∀(ps:List aQ) {s:Sp},cO c s→cO c (ps.foldl jG s)
  |[],_,H=>H
  |p::ps,_,H=>cO.pF ps ((H.tr _).qv p)
theorem w_ {α:Type} {q:Int×α→Bool}:∀{x:List (Int×α)} {c:Int},fJ x→bV x c=none→bV (x.filter q) c=none:=fun hs h=>rH.2 fun p hp=>rH.1 h p (fB.1 hp).1
theorem cO.left (H:cO c s) (hs:fJ s.book) (c':Int):cO c (oB s c'):=by
  refine⟨w_ hs H.book,fun w hw=>H.gf w (fB.1 hw).1,?_⟩
  show cV (eF s.events c') c=[]
  rw[nq]
  split
  · rfl
  · exact H.ev
theorem cO.oC:∀(cs:List Int) {s:Sp},cO c s→fJ s.book→cO c (jc s cs)
  |[],_,H,_=>H
  |c'::cs,s,H,hs=>by
   refine cO.oC cs (s:=iV s c') (cO.pF _ (H.left hs c')) ?_
   have key:∀(ps:List aQ) (s:Sp),(ps.foldl jG s).book=s.book:=by
     intro ps
     induction ps with
     |nil=>intro s;rfl
     |cons p ps ih=>intro s;rw[nr,ih];rfl
   unfold iV
   rw[key]
   exact oD mM hs
theorem cO.CN (H:cO c s) {w:ak} (hw:w.Client≠c):cO c (mN s w):=by
  unfold mN ug
  split
  · exact H
  · split
    · exact H
    · refine⟨H.book,fun v hv=>?_,H.ev⟩
      rcases CO s.aN w with ⟨e,_⟩|⟨e,_⟩
      · exact H.gf v (by simpa only[e] using hv)
      · simp only[e] at hv
        rcases AY.1 hv with rfl|hv
        · exact hw
        · exact H.gf v hv
theorem cO.iB (H:cO c s) (hc:c'≠c):cO c (kC s c' o):=by
  unfold kC
  split
  · exact H.CN hc
  · exact H
theorem cO.yR:∀(l:List iW) {s:Sp},cO c s→cO c (l.foldl oE s)
  |[],_,H=>H
  |x::l,_,H=>cO.yR l (H.vw x.ff x.eX)
theorem FO:∀(l:List aG) {s:Sp},cO c s→cO c (l.foldl (rI c') s)
  |[],_,H=>H
  |x::l,_,H=>FO l (H.tr _)
theorem FP:∀(ops:List aG) {s sp:Sp} {i j e:Int},cO c s→ji c' s ops i=some (j,e,sp)→cO c sp
  |[],_,_,_,_,_,_,h=>by cases h
  |o::ops,s,sp,i,j,e,H,h=>by
   rw[ji] at h
   split at h
   · exact FP ops (H.tr (ew s c' o)) h
   · cases h;exact H.tr _
theorem cO.CP (H:cO c s):cO c (nH s c' o):=by
  unfold nH
  split
  · rename_i h
    exact(FP _ H h).tr _
  · refine cO.yR _ ?_
    unfold nt
    rw[vz]
    exact FO _ H
theorem cO.touch (H:cO c s) (hc:c'≠c):cO c (touchS s c'):=by
  refine⟨?_,H.gf,H.ev⟩
  show bV (touchB s.book c' s.aA) c=none
  unfold touchB
  split
  · exact H.book
  · split
    · exact H.book
    · rw[n9,aC hc];exact H.book
theorem cO.step (H:cO c s) (hs:gS s.book) (hc:c'≠c):cO c (cF s c' b):=by
  unfold cF
  split
  · exact H
  · split
    · refine⟨?_,H.gf,H.ev⟩
      show bV (lB s.book c' _ s.aA) c=none
      unfold lB
      split
      · rw[n9,aC hc];exact H.book
      · exact H.book
    · split
      · exact H.touch hc
      · have H:=H.touch hc
        have hs:gS (touchS s c').book:=hs.touch
        unfold lC
        repeat' split
        · exact H.oC _ hs.1
        · unfold kD
          split
          · exact(H.tr _).vw _ _
          · exact H.tr _
        · exact H.iB hc
        · exact H.CP
        · exact H
theorem cO.nG (H:cO c s) (hs:gS s.book) (t:Int):cO c (dI s t):=by
  unfold dI vA
  refine cO.oC _ ⟨w_ hs.1 H.book,H.gf,H.ev⟩ (hs.left _).1
theorem cO.iX (K:bK k s) (H:cO c s) (hc:e.Client≠c):cO c (bD s e b):=by
  have h1:=H.nG K.book e.aX
  unfold bD
  split
  · have h2:cO c (cB (dI s e.aX)):=⟨h1.book,h1.gf,h1.ev⟩
    have h3:=h2.step (b:=b) (c':=e.Client) (K.nG e.aX).book hc
    refine⟨h3.book,h3.gf,?_⟩
    show cV (eF _ e.Client) c=[]
    rw[nq]
    split
    · rfl
    · exact h3.ev
  · exact h1
theorem Mb (H:bV s.aR c=none) (hc:e.Client≠c):bV (bD s e b).aR c=none:=by
  unfold bD
  split
  · rw[wZ,n9,aC hc,AZ];exact H
  · rw[AZ];exact H
theorem alone (K:bK k s) (h0:0≤k) (hk:k≤99000) (hn:s.count≤1000000000000) (H:cO c s) (hr:bV s.aR c=none) (hc:0≤c∧c<8) (ho:aU b=(o,0)) (h1:o.Kind≠1) (ds:aQ):
    dQ s ⟨c,1,0,ds⟩=true∧(bw (bh s ⟨c,1,0,ds⟩ b)).2=0∧(bw (bh s ⟨c,1,0,ds⟩ b)).1.Code=120∧(bw (bh s ⟨c,1,0,ds⟩ b)).1.aT=[]∧
    bD s ⟨c,1,0,ds⟩ b={s with count:=s.count+1,aR:=(bD s ⟨c,1,0,ds⟩ b).aR}:=by
  have ht:dI s (0:Int)=s:=vn K (by have:=K.aA;omega)
  have hE:iL ⟨c,1,0,ds⟩=true:=by
    unfold iL
    simp only[b_,cQ]
    omega
  have hl:gh s c=⟨0,[]⟩:=by unfold gh;rw[hr];rfl
  have hd:dQ s ⟨c,1,0,ds⟩=true:=by
    unfold dQ
    simp only[]
    rw[hE,ht,hl];rfl
  have u:bV (cB s).book c=none:=H.book
  have D:(bV (cB s).book c).isSome=false:=by rw[u];rfl
  have hst:cF (cB s) c b=cB s:=by
    unfold cF
    rw[ho]
    simp only[ne_eq,kE,dV]
    rw[aC h1]
    have:touchE (cB s).book c (cB s).aA=120:=by
      unfold touchE
      exact aO (.inl D)
    rw[this,aO (by decide)]
    unfold touchS touchB
    rw[u]
  have hx:∀x,cR (cB s) c b x={x with Code:=120}:=by
    intro x
    unfold cR
    rw[ho]
    simp only[ne_eq,kE,dV]
    rw[aC h1]
    have:touchE (cB s).book c (cB s).aA=120:=by
      unfold touchE
      exact aO (.inl D)
    rw[this,aO (by decide)]
  have hR:=yQ (b:=b) K h0 hk hn hd
  refine⟨hd,by rw[hR],?_,?_,?_⟩
  · rw[hR]
    show(cR (cB (dI s 0)) c b _).Code=120
    rw[ht,hx]
  · rw[hR]
    show cV (cF (cB (dI s 0)) c b).events c=[]
    rw[ht,hst]
    exact H.ev
  · have G:eF s.events c=s.events:=by
      refine FQ ?_
      have he:=H.ev
      unfold cV at he
      cases hf:bV s.events c with
      |none=>rfl
      |some xs=>
       rw[hf] at he
       exact absurd he (K.ev.ne (c,xs) ((jR K.ev.sort).1 hf))
    have e1:bD s ⟨c,1,0,ds⟩ b=lY s ⟨c,1,0,ds⟩ b:=by
      unfold bD
      simp only[]
      rw[ht,aO ⟨hE,by rw[hl];show(0:Int)<1;decide⟩]
    rw[e1]
    unfold lY
    simp only[]
    rw[hst]
    show({cB s with events:=eF s.events c,aR:=_}:Sp)=_
    rw[G]
    rfl
end
end Go.Proofs.YtceekbnihfckeaaGreatDoor.Sw
namespace Go.Proofs.YtceekbnihfckeaaGreatDoor.Sw
open Go.Proofs.Tryz
set_option linter.unusedVariables false
set_option linter.unusedSimpArgs false
set_option linter.deprecated false
set_option linter.unusedSectionVars false
open Go
section
variable {aB deep n i:Int} {o x:aG} {ops:List aG}
theorem jS (o:aG) (aB deep:Int):cM o aB deep=if deep=0∧o.az≠[] then aB+1 else ey o.az aB deep (1+o.af.length+o.Data.length):=by
  obtain⟨_,_,_,_,_,_,_,_,_⟩:=o
  rw[cM]
theorem lD (x:aG) (xs:List aG) (aB deep n:Int):ey (x::xs) aB deep n=if n≤aB then ey xs aB deep (n+cM x (aB-n) (deep-1)) else n:=by rw[ey]
theorem lE (o:aG):(cq o:Int)=1+o.af.length+o.Data.length+c7 o.az:=by rw[mO];omega
mutual
theorem lF:∀(o:aG) (aB deep:Int),0≤aB→0≤cM o aB deep∧cM o aB deep≤aB+1+cq o
  |⟨k,p,u,D,sp,b,G,w,ops⟩,aB,deep,h=>by
   have e:=jS ⟨k,p,u,D,sp,b,G,w,ops⟩ aB deep
   have hz:=lE ⟨k,p,u,D,sp,b,G,w,ops⟩
   simp only at e hz
   rw[e]
   split
   · omega
   · have:=pG ops aB deep (1+p.length+u.length) h (by omega)
     omega
theorem pG:∀(xs:List aG) (aB deep n:Int),0≤aB→0≤n→0≤ey xs aB deep n∧ey xs aB deep n≤max n (aB+1+c7 xs)
  |[],aB,deep,n,_,h=>by rw[ey];omega
  |x::xs,aB,deep,n,h,hn=>by
   rw[lD]
   have e:c7 (x::xs)=cq x+c7 xs:=by rw[c7]
   rw[e]
   split
   · have h1:=lF x (aB-n) (deep-1) (by omega)
     have h2:=pG xs aB deep (n+cM x (aB-n) (deep-1)) h (by omega)
     omega
   · omega
end
mutual
theorem uh:∀(o:aG) (aB deep:Int),0≤deep→cM o aB deep≤aB→cM o aB deep=cq o∧(jE o:Int)≤deep+1
  |⟨k,p,u,D,sp,b,G,w,ops⟩,aB,deep,hd,h=>by
   have e:=jS ⟨k,p,u,D,sp,b,G,w,ops⟩ aB deep
   have hz:=lE ⟨k,p,u,D,sp,b,G,w,ops⟩
   have ed:=vi ⟨k,p,u,D,sp,b,G,w,ops⟩
   simp only at e hz ed
   rw[e] at h ⊢
   split at h
   · omega
   · rename_i hne
     rw[aC hne]
     have:=pH ops aB deep (1+p.length+u.length) hd (by
       by_cases h0:ops=[]
       · exact .inr h0
       · exact .inl (by
           by_cases I:deep=0
           · exact absurd ⟨I,h0⟩ hne
           · omega)) h
     omega
theorem pH:∀(xs:List aG) (aB deep n:Int),0≤deep→(1≤deep∨xs=[])→ey xs aB deep n≤aB→ey xs aB deep n=n+c7 xs∧(gy xs:Int)≤deep
  |[],aB,deep,n,hd,_,h=>by rw[ey,c7,gy];omega
  |x::xs,aB,deep,n,hd,h1,h=>by
   have h1:1≤deep:=by
     rcases h1 with h1|h1
     · exact h1
     · cases h1
   rw[lD] at h ⊢
   have e:c7 (x::xs)=cq x+c7 xs:=by rw[c7]
   have ed:gy (x::xs)=max (jE x) (gy xs):=by rw[gy]
   rw[e,ed]
   split at h
   · rename_i hn
     rw[aO hn]
     have h2:=pH xs aB deep (n+cM x (aB-n) (deep-1)) hd (.inl h1) h
     have h3:=uh x (aB-n) (deep-1) (by omega) (by omega)
     omega
   · omega
end
def gX (o:aG) (aB deep n i:Int):Prop:=ey o.az aB deep (1+o.af.length+o.Data.length)=ey (o.az.drop i.toNat) aB deep n∧0≤n∧n≤aB+1+cq o
theorem pI (o:aG) (h:0≤aB):gX o aB deep (1+o.af.length+o.Data.length) 0:=⟨rfl,by omega,by have:=lE o;omega⟩
theorem pJ (H:gX o aB deep n i) (h0:0≤i) (hx:o.az[i.toNat]?=some x) (h:n≤aB):gX o aB deep (n+cM x (aB-n) (deep-1)) (i+1):=by
  obtain⟨h1,h2,h3⟩:=H
  have hb:=lF x (aB-n) (deep-1) (by omega)
  have hm:=xb (cj hx)
  have hz:=lE o
  refine⟨?_,by omega,by omega⟩
  rw[h1,drop_at hx,lD,aO h,show(i+1).toNat=i.toNat+1 by omega]
theorem pK (H:gX o aB deep n i) (hi:¬i<(o.az.length:Int)) (hn:¬(deep=0∧o.az≠[])):n=cM o aB deep:=by
  rw[jS,aC hn,H.1,mz (by omega),ey]
theorem pL (H:gX o aB deep n i) (hi:¬n≤aB) (hn:¬(deep=0∧o.az≠[])):n=cM o aB deep:=by
  rw[jS,aC hn,H.1]
  cases o.az.drop i.toNat with
  |nil=>rw[ey]
  |cons x xs=>rw[lD,aC hi]
theorem vB (h1:deep=0) (h2:(o.az.length:Int)>0):aB+1=cM o aB deep:=by
  rw[jS,aO ⟨h1,fun e=>by rw[e] at h2;simp at h2⟩]
theorem vC (h:¬deep=0):¬(deep=0∧o.az≠[]):=fun h'=>h h'.1
theorem vD (h:¬(o.az.length:Int)>0):¬(deep=0∧o.az≠[]):=fun h'=>h'.2 (ju (by omega))
end
end Go.Proofs.YtceekbnihfckeaaGreatDoor.Sw
namespace Go.Proofs.YtceekbnihfckeaaGreatDoor.Sw
open Go.Proofs.Tryz
set_option linter.unusedVariables false
set_option linter.unusedSimpArgs false
set_option linter.deprecated false
open Go
section
variable {l:List aH} {i:Int} {x:aH}
theorem vE (H:(l.take i.toNat).any stepG=false) (h0:0≤i) (hx:l[i.toNat]?=some x) (h1:jH x.Op 3000 3=false) (h2:¬(x.cS.length:Int)>2000):(l.take (i+1).toNat).any stepG=false:=by
  rw[toNat_succ h0,fG hx,rD,H]
  simp only[rJ,List.any_nil,tL,n8,stepG,h1,gb h2]
theorem vF (hx:l[i.toNat]?=some x) (h:jH x.Op 3000 3=true):true=fN l:=(kF.2 ⟨x,cj hx,by unfold stepG;rw[h];rfl⟩).symm
theorem vG (hx:l[i.toNat]?=some x) (h:(x.cS.length:Int)>2000):true=fN l:=(kF.2 ⟨x,cj hx,by unfold stepG;rw[eu h,vf]⟩).symm
theorem vH (H:(l.take i.toNat).any stepG=false) (h:¬i<(l.length:Int)):false=fN l:=by
  rw[fC (by omega)] at H
  exact H.symm
end
end Go.Proofs.YtceekbnihfckeaaGreatDoor.Sw
namespace Go.Proofs.YtceekbnihfckeaaGreatDoor.Sw
open Go.Proofs.Tryz
open Go
set_option maxRecDepth 100000
set_option linter.unusedVariables false
set_option linter.unusedSimpArgs false
set_option linter.deprecated false
theorem vJ (mr:Nat):∀(B:World) (h:ax) (g:GH) (hg:bl g h) (aw:bq g) (o:aG) (a0:Value) (a9:av g 5 br a0 o.Data) (a1:Value) (ae:av g 25 ek a1 o.az) (aB:Int) (deep:Int) (ho:cq o≤100000000) (hm:0≤aB∧aB≤1000000) (hd:0≤deep∧deep≤1000) (a3:cq o<mr),aE prog B 50 #[.agg #[vI o.Kind,vS o.af,a0,vI o.ai,vI o.aF,.bool o.aY,.bool o.aI,.bool o.ak,a1],vI aB,vI deep] h g [] (fun bo g' L'=>bo=.int .i64 (cM o aB deep)∧g'=g∧L'=[]):=by
 induction mr with
 |zero=>intros;omega
 |succ mr bc=>
 intro B h g hg aw o a0 a9 a1 ae aB deep ho hm hd a3
 obtain⟨am,ar,rfl⟩:=a9.aj
 obtain⟨O,I,rfl⟩:=ae.aj
 refine aE.aq func50 fun R hR=>?_
 have bt:=St.init hg
 refine At.rg 2 ?_
 refine Op.bx 3 25 0 #[vI o.Kind,vS o.af,vL am o.Data.length ar,vI o.ai,vI o.aF,.bool o.aY,.bool o.aI,.bool o.ak,vL O o.az.length I] bt fun G c4 X=>?_
 refine Op.pg 1 [] ?_
 refine At.rp 9 1 [(9,vQ G 1)] ?_
 refine Op.l1 9 9 10 1 (vS o.af) (X.ah 0 rfl) ?_
 refine Op.px 1 [(11,vI (o.af.length:Int))] ?_
 refine Op.cE 12 ((1:Int)+(o.af.length:Int)) (by omega) (by(have:=fO o;omega)) ?_
 refine Op.px 1 [(13,vQ G 2)] ?_
 refine Op.l1 22 13 14 2 (vL am o.Data.length ar) (X.ah 0 rfl) ?_
 refine Op.px 1 [(15,vI (o.Data.length:Int))] ?_
 refine Op.cE 16 (((1:Int)+(o.af.length:Int))+(o.Data.length:Int)) (by omega) (by(have:=fO o;omega)) ?_
 refine Op.pg 2 [(7,vI (((1:Int)+(o.af.length:Int))+(o.Data.length:Int)))] ?_
 refine At.rp 8 3 [(19,.bool (deep==0))] ?_
 refine Op.wd (deep=0) 19 (fun c5=>?_) fun c6=>?_
 ·refine Op.px 1 [(20,vQ G 8)] ?_
  refine Op.l1 23 20 21 8 (vL O o.az.length I) (X.ah 0 rfl) ?_
  refine Op.pg 3 [(24,.bool (decide ((o.az.length:Int)>0)))] ?_
  refine At.fd ((o.az.length:Int)>0) 24 4 6 (fun c8=>?_) fun c9=>?_
  ·refine At.rp 3 1 [(25,vI aB)] ?_
   refine Op.vq 26 (aB+1) ?_
   exact Op.pr 5 6 (vI (aB+1)) (hR X.drop ⟨(bB (by exact vB ‹_› ‹_›)),rfl,rfl⟩)
  refine At.go 7 1 [(8,vI 0)] ?_
  have a4:∀(m:Nat) (n:Int) (i:Int) (a5:ax) (hm:o.az.length-i.toNat<m) (h0:0≤i) (h1:i≤o.az.length) (J:¬(deep=0∧o.az≠[])) (hI:gX o aB deep n i) (U:St h g (aV []) g [[(G,Obj.cells #[vI o.Kind,vS o.af,vL am o.Data.length ar,vI o.ai,vI o.aF,.bool o.aY,.bool o.aI,.bool o.ak,vL O o.az.length I] 25 (0,0))]] a5),At (bX prog B 50 f50 R) [] 7 [(1,vI aB),(2,vI deep),(3,vP G),(7,vI n),(8,vI i)] a5:=by
   intro m;induction m with
   |zero=>intros;omega
   |succ m a6=>
    intro n i a5 hm h0 h1 J hI U
    refine At.rp 10 2 [(27,vI i),(28,vQ G 8)] ?_
    refine Op.l1 23 28 29 8 (vL O o.az.length I) (U.ah 0 rfl) ?_
    refine Op.px 3 [(32,.bool (decide (i<(o.az.length:Int))))] ?_
    refine Op.wd (i<(o.az.length:Int)) 32 (fun da=>?_) fun db=>?_
    ·refine Op.pg 8 [(36,.bool (decide (n≤aB)))] ?_
     refine At.fd (n≤aB) 36 9 11 (fun dc=>?_) fun dd=>?_
     ·refine At.rp 14 2 [(39,vI n),(40,vQ G 8)] ?_
      refine Op.l1 23 40 41 8 (vL O o.az.length I) (U.ah 0 rfl) ?_
      refine Op.px 1 [(42,vI i)] ?_
      obtain⟨D,a7⟩:=cG o.az i
      obtain⟨b3,bd,df,dg,b4,b5,ab⟩:=av.bF ae _ a7
      cases b4
      refine Op.iq 23 25 9 96 o.az.length I 41 42 43 b3 bd i ?_
      replace ab:=iC.1 ab
      obtain⟨dj,dk,be,bi,ab⟩:=ab
      obtain⟨a46,b6,rfl⟩:=be.aj
      obtain⟨b8,ca,rfl⟩:=bi.aj
      refine Op.la 25 43 44 (bd+i.toNat*9) 9 [vI D.Kind,vS D.af,vL a46 D.Data.length b6,vI D.ai,vI D.aF,.bool D.aY,.bool D.aI,.bool D.ak,vL b8 D.az.length ca] (U.sub _ _ b5) ?_ (hv:=ab)
      refine Op.px 2 [(45,vI aB),(46,vI n)] ?_
      refine Op.vq 47 (aB-n) ?_
      refine Op.px 1 [(48,vI deep)] ?_
      refine Op.vq 49 (deep-1) ?_
      refine Op.c1 50 (bc _ _ _ U.sub aw D _ be _ bi (aB-n) (deep-1) (by(try dsimp only)<;>omega) (by(try dsimp only)<;>omega) (by(try dsimp only)<;>omega) (by exact nv (ie (cj a7)) (pM a3))) U fun dl cb=>?_
      refine Op.vq 51 (n+(cM D (aB-n) (deep-1))) ?_
      refine Op.pg 10 [(7,vI (n+(cM D (aB-n) (deep-1))))] ?_
      refine At.rp 3 1 [(37,vI i)] ?_
      refine Op.vq 38 (i+1) ?_
      exact Op.pg 7 [(8,vI (i+1))] (At.ke (a6 (n+(cM D (aB-n) (deep-1))) (i+1) _ (by omega) (by omega) (by omega) (by exact J) (by exact pJ hI h0 a7 ‹_›) cb))
     exact At.gr 12 2 6 (vI n) (hR U.drop ⟨(bB (by exact pL hI ‹_› J)),rfl,rfl⟩)
    refine Op.pg 8 [(36,.bool false)] ?_
    refine At.dK 36 11 ?_
    exact At.gr 12 2 6 (vI n) (hR U.drop ⟨(bB (by exact pK hI ‹_› J)),rfl,rfl⟩)
  exact At.ke (a4 _ (((1:Int)+(o.af.length:Int))+(o.Data.length:Int)) 0 _ (bM _) (by omega) (by omega) (by exact vD ‹_›) (by exact pI o hm.1) X)
 refine Op.pg 3 [(24,.bool false)] ?_
 refine At.dK 24 6 ?_
 refine At.go 7 1 [(8,vI 0)] ?_
 have a4:∀(m:Nat) (n:Int) (i:Int) (a8:ax) (hm:o.az.length-i.toNat<m) (h0:0≤i) (h1:i≤o.az.length) (J:¬(deep=0∧o.az≠[])) (hI:gX o aB deep n i) (V:St h g (aV []) g [[(G,Obj.cells #[vI o.Kind,vS o.af,vL am o.Data.length ar,vI o.ai,vI o.aF,.bool o.aY,.bool o.aI,.bool o.ak,vL O o.az.length I] 25 (0,0))]] a8),At (bX prog B 50 f50 R) [] 7 [(1,vI aB),(2,vI deep),(3,vP G),(7,vI n),(8,vI i)] a8:=by
  intro m;induction m with
  |zero=>intros;omega
  |succ m a6=>
   intro n i a8 hm h0 h1 J hI V
   refine At.rp 10 2 [(27,vI i),(28,vQ G 8)] ?_
   refine Op.l1 23 28 29 8 (vL O o.az.length I) (V.ah 0 rfl) ?_
   refine Op.px 3 [(32,.bool (decide (i<(o.az.length:Int))))] ?_
   refine Op.wd (i<(o.az.length:Int)) 32 (fun dp=>?_) fun dq=>?_
   ·refine Op.pg 8 [(36,.bool (decide (n≤aB)))] ?_
    refine At.fd (n≤aB) 36 9 11 (fun du=>?_) fun dv=>?_
    ·refine At.rp 14 2 [(39,vI n),(40,vQ G 8)] ?_
     refine Op.l1 23 40 41 8 (vL O o.az.length I) (V.ah 0 rfl) ?_
     refine Op.px 1 [(42,vI i)] ?_
     obtain⟨u,Y⟩:=cG o.az i
     obtain⟨ce,bj,dC,dE,cf,ch,ad⟩:=av.bF ae _ Y
     cases cf
     refine Op.iq 23 25 9 96 o.az.length I 41 42 43 ce bj i ?_
     replace ad:=iC.1 ad
     obtain⟨dT,d0,bk,bm,ad⟩:=ad
     obtain⟨ci,ck,rfl⟩:=bk.aj
     obtain⟨a75,co,rfl⟩:=bm.aj
     refine Op.la 25 43 44 (bj+i.toNat*9) 9 [vI u.Kind,vS u.af,vL ci u.Data.length ck,vI u.ai,vI u.aF,.bool u.aY,.bool u.aI,.bool u.ak,vL a75 u.az.length co] (V.sub _ _ ch) ?_ (hv:=ad)
     refine Op.px 2 [(45,vI aB),(46,vI n)] ?_
     refine Op.cE 47 (aB-n) (by omega) (by(have:=hI.2.1;have:=hI.2.2;omega)) ?_
     refine Op.px 1 [(48,vI deep)] ?_
     refine Op.vq 49 (deep-1) ?_
     refine Op.c1 50 (bc _ _ _ V.sub aw u _ bk _ bm (aB-n) (deep-1) (by((try dsimp only)<;>((have:=ie (cj Y);omega)))) (by((try dsimp only)<;>((have:=hI.2.1;have:=hI.2.2;omega)))) (by(try dsimp only)<;>omega) (by exact nv (ie (cj Y)) (pM a3))) V fun d1 c3=>?_
     refine Op.cE 51 (n+(cM u (aB-n) (deep-1))) (by(have:=hI.2.1;have:=hI.2.2;have:=ie (cj Y);have h9:=lF u (aB-n) (deep-1) (by omega);omega)) (by(have:=hI.2.1;have:=hI.2.2;have:=ie (cj Y);have h9:=lF u (aB-n) (deep-1) (by omega);omega)) ?_
     refine Op.pg 10 [(7,vI (n+(cM u (aB-n) (deep-1))))] ?_
     refine At.rp 3 1 [(37,vI i)] ?_
     refine Op.cE 38 (i+1) (by omega) (by(have:=fO o;omega)) ?_
     exact Op.pg 7 [(8,vI (i+1))] (At.ke (a6 (n+(cM u (aB-n) (deep-1))) (i+1) _ (by omega) (by omega) (by omega) (by exact J) (by exact pJ hI h0 Y ‹_›) c3))
    exact At.gr 12 2 6 (vI n) (hR V.drop ⟨(bB (by exact pL hI ‹_› J)),rfl,rfl⟩)
   refine Op.pg 8 [(36,.bool false)] ?_
   refine At.dK 36 11 ?_
   exact At.gr 12 2 6 (vI n) (hR V.drop ⟨(bB (by exact pK hI ‹_› J)),rfl,rfl⟩)
 exact At.ke (a4 _ (((1:Int)+(o.af.length:Int))+(o.Data.length:Int)) 0 _ (bM _) (by omega) (by omega) (by exact vC ‹_›) (by exact pI o hm.1) X)
theorem vK (B:World) (h:ax) (g:GH) (hg:bl g h) (G:bq g) (o:aG) (u:Value) (I:av g 5 br u o.Data) (D:Value) (J:av g 25 ek D o.az) (aB:Int) (deep:Int) (ho:cq o≤100000000) (hm:0≤aB∧aB≤1000000) (hd:0≤deep∧deep≤1000):aE prog B 50 #[.agg #[vI o.Kind,vS o.af,u,vI o.ai,vI o.aF,.bool o.aY,.bool o.aI,.bool o.ak,D],vI aB,vI deep] h g [] (fun O g' L'=>O=.int .i64 (cM o aB deep)∧g'=g∧L'=[]):=vJ _ B h g hg G o u I D J aB deep ho hm hd (bM _)
theorem uj (B:World) (h:ax) (g:GH) (hg:bl g h) (Y:bq g) (o:aG) (D:Value) (G:av g 5 br D o.Data) (I:Value) (J:av g 25 ek I o.az) (aB:Int) (deep:Int) (ho:cq o≤100000000) (hm:0≤aB∧aB≤1000000) (hd:0≤deep∧deep≤1000):
  aE prog B 15 #[.agg #[vI o.Kind,vS o.af,D,vI o.ai,vI o.aF,.bool o.aY,.bool o.aI,.bool o.ak,I],vI aB,vI deep] h g [] (fun ab g' L'=>ab=.bool (jH o aB deep)∧g'=g∧L'=[]):=by
 obtain⟨O,U,rfl⟩:=G.aj
 obtain⟨V,X,rfl⟩:=J.aj
 refine aE.aq func15 fun R hR=>?_
 have ad:=St.init hg
 refine At.rg 2 ?_
 refine Op.bx 3 25 0 #[vI o.Kind,vS o.af,vL O o.Data.length U,vI o.ai,vI o.aF,.bool o.aY,.bool o.aI,.bool o.ak,vL V o.az.length X] ad fun am ar u=>?_
 refine Op.pg 1 [] ?_
 refine At.rg 7 ?_
 refine Op.la 25 3 7 0 9 [vI o.Kind,vS o.af,vL O o.Data.length U,vI o.ai,vI o.aF,.bool o.aY,.bool o.aI,.bool o.ak,vL V o.az.length X] (u.ah 0 rfl) ?_
 refine Op.px 2 [(8,vI aB),(9,vI deep)] ?_
 refine Op.c1 10 (vK _ _ _ u.sub Y o _ G _ J aB deep (by(try dsimp only)<;>omega) (by(try dsimp only)<;>omega) (by(try dsimp only)<;>omega)) u fun aw ae=>?_
 exact Op.pr 2 6 (.bool (decide ((cM o aB deep)>aB))) (hR ae.drop ⟨(aS (by rfl)),rfl,rfl⟩)
theorem uk (B:World) (h:ax) (g:GH) (hg:bl g h) (aw:bq g) (ad:Value) (list:List aH) (V:av g 71 iD ad list) (hl:list.length≤1048576) (ho:∀x∈list,cq x.Op≤100000000):
  aE prog B 31 #[ad] h g [] (fun a0 g' L'=>a0=.bool (fN list)∧g'=g∧L'=[]):=by
 obtain⟨ae,I,rfl⟩:=V.aj
 refine aE.aq func31 fun R hR=>?_
 have a1:=St.init hg
 refine At.go 1 1 [] ?_
 refine At.go 2 1 [(3,vI 0)] ?_
 have a3:∀(m:Nat) (i:Int) (X:ax) (hm:list.length-i.toNat<m) (h0:0≤i) (h1:i≤list.length) (hI:(list.take i.toNat).any stepG=false) (J:St h g (aV []) g [] X),At (bX prog B 31 f31 R) [] 2 [(0,vL ae list.length I),(3,vI i)] X:=by
  intro m;induction m with
  |zero=>intros;omega
  |succ m a4=>
   intro i X hm h0 h1 hI J
   refine At.go 3 4 [(7,.bool (decide (i<(list.length:Int))))] ?_
   refine At.fd (i<(list.length:Int)) 7 4 9 (fun bt=>?_) fun b3=>?_
   ·refine At.rp 15 2 [(10,vL ae list.length I),(11,vI i)] ?_
    obtain⟨u,G⟩:=cG list i
    obtain⟨O,D,b4,b5,a5,a6,Y⟩:=av.bF V _ G
    cases a5
    refine Op.iq 52 71 13 144 list.length I 10 11 12 O D i ?_
    obtain⟨b6,b8,v37,am,ar,a7,Y⟩:=Y
    obtain⟨a8,a9,rfl⟩:=am.aj
    obtain⟨bc,bd,rfl⟩:=ar.aj
    obtain⟨ca,cb,rfl⟩:=a7.aj
    refine Op.px 1 [(13,vQ O (D+i.toNat*13+3))] ?_
    refine Op.la 25 13 14 (D+i.toNat*13+3) 9 [vI u.Op.Kind,vS u.Op.af,vL a8 u.Op.Data.length a9,vI u.Op.ai,vI u.Op.aF,.bool u.Op.aY,.bool u.Op.aI,.bool u.Op.ak,vL bc u.Op.az.length bd] (J.sub _ _ a6) ?_ (hv:=(vh Y 3 9 rfl (by decide)))
    refine Op.c1 15 (uj _ _ _ J.sub aw u.Op _ am _ ar 3000 3 (by((try dsimp only)<;>(exact ho _ (cj G)))) (by(try dsimp only)<;>omega) (by(try dsimp only)<;>omega)) J fun ce U=>?_
    refine Op.px 1 [(16,.bool (jH u.Op (3000) (3)))] ?_
    refine Op.wb (jH u.Op (3000) (3)) 16 (fun cf=>?_) fun ch=>?_
    ·refine Op.pg 5 [(24,.bool true)] ?_
     refine At.bW 24 6 ?_
     exact At.gr 7 1 2 (.bool true) (hR U ⟨(aS (by exact vF G ‹_›)),rfl,rfl⟩)
    refine Op.px 2 [(17,vL (some ⟨O,D,none⟩) list.length I),(18,vI i)] ?_
    obtain⟨ci,ck,co,c3,be,bi,ab⟩:=av.bF V _ G
    cases be
    refine Op.iq 52 71 13 144 list.length I 17 18 19 O D i ?_
    obtain⟨c4,c5,cE,bj,bk,bm,ab⟩:=ab
    obtain⟨c6,c8,rfl⟩:=bj.aj
    obtain⟨c9,da,rfl⟩:=bk.aj
    obtain⟨a70,bo,rfl⟩:=bm.aj
    refine Op.px 1 [(20,vQ O (D+i.toNat*13+12))] ?_
    refine Op.l1 22 20 21 (D+i.toNat*13+12) (vL a70 u.cS.length bo) (U.sub _ _ bi) ?_ (hv:=c_ ab 12 rfl)
    refine Op.pg 5 [(24,.bool (decide ((u.cS.length:Int)>2000)))] ?_
    refine At.fd ((u.cS.length:Int)>2000) 24 6 8 (fun db=>?_) fun dc=>?_
    ·exact At.gr 7 1 2 (.bool true) (hR U ⟨(aS (by exact vG G ‹_›)),rfl,rfl⟩)
    refine At.rp 3 1 [(8,vI i)] ?_
    refine Op.vq 9 (i+1) ?_
    exact Op.pg 2 [(3,vI (i+1))] (At.ke (a4 (i+1) _ (by omega) (by omega) (by omega) (by exact vE hI h0 G ‹_› ‹_›) U))
   exact At.gr 10 1 2 (.bool false) (hR J ⟨(aS (by exact vH hI ‹_›)),rfl,rfl⟩)
 exact At.ke (a3 _ 0 _ (bM _) (by omega) (by omega) (by rfl) a1)
theorem vM (B:World) (h:ax) (g:GH) (hg:bl g h) (Y:bq g) (I:Value) (list:List aH) (G:av g 71 iD I list) (hl:list.length≤1048576):
  aE prog B 30 #[I] h g [] (fun X g' L'=>∃v0,X=v0∧av g' 71 iD v0 (list.take 60)∧L'=[]):=by
 obtain⟨u,D,rfl⟩:=G.aj
 refine aE.aq func30 fun R hR=>?_
 have J:=St.init hg
 refine At.go 1 1 [] ?_
 refine At.go 2 3 [(5,.bool (decide ((list.length:Int)>60)))] ?_
 refine At.fd ((list.length:Int)>60) 5 3 5 (fun ab=>?_) fun ad=>?_
 ·refine At.rp 3 1 [(6,vL u list.length D)] ?_
  refine Op.yS (T:=52) (E:=71) (dx:=144) (x:=6) (ao:=u) (n:=list.length) (c:=D) (dst:=7) (d:=iD) (hi:=(.const (vI 60))) (k:=.i64) (m:=60) (by kernel_rfl) (by kernel_rfl) (by kernel_rfl) (by kernel_rfl) G (by omega) (by omega) fun ae O=>?_
  obtain⟨U,V,rfl⟩:=O.aj
  exact Op.pr 4 2 (vL U ((list.take (60:Int).toNat).length) V) (hR J ⟨(vL U ((list.take (60:Int).toNat).length) V),rfl,b9 O (by rfl),rfl⟩)
 exact At.gr 6 2 2 (vL u list.length D) (hR J ⟨(vL u list.length D),rfl,b9 G (by exact(fC (by omega)).symm),rfl⟩)
end Go.Proofs.YtceekbnihfckeaaGreatDoor.Sw
namespace Go.Proofs.YtceekbnihfckeaaGreatDoor.Sw
open Go.Proofs.Tryz
set_option linter.unusedVariables false
set_option linter.unusedSimpArgs false
set_option linter.deprecated false
open Go
section
variable {i k:Int} {y s:Sp} {x:aH}
theorem ec.A2 (H:ec i s):ec (i+1) s:=⟨H.ok.mono (by omega),by have:=H.cnt;omega⟩
end
section
variable {i:Int} {s z:Sp} {x:aH} {l:List aH} {fb:aQ} {fn:Bool} {b':aQ}
theorem cP (l:List aH):(l.take 60).length≤60:=by rw[e_];omega
theorem jv (H:ec i s):((aP s).bZ.length≤1000000∧∀n∈(aP s).bZ,n.Data.length≤1000000000)∧(aP s).cJ.length≤1000000∧(aP s).cr.length≤1000000∧(aP s).aT.length≤1000000∧(aP s).bL.length≤1000000∧∀x∈(aP s).bL,x.Data.length≤1000000000:=by
  have K:=H.ok
  refine⟨⟨bQ K.tree.len (by decide),fun n hn=>bQ (K.tree.node n hn).2.1 (by decide)⟩,bQ K.gf.len (by decide),?_,?_,?_,?_⟩
  · show(s.book.map (·.2)).length≤_
    rw[d_]
    exact bQ K.book.len (by decide)
  · show((s.events.map (·.2)).flatten).length≤_
    have h8:=K.yT
    have key:∀(l:ja),(∀p∈l,p.2.length≤8)→((l.map (·.2)).flatten).length≤8*l.length:=by
      intro l
      induction l with
      |nil=>intro _;exact fH _
      |cons p l ih=>
       intro h
       have h1:=h p (by simp)
       have h2:=ih fun q hq=>h q (by simp[hq])
       rw[eR,cH,cA,bY]
       omega
    have:=key s.events fun p hp=>by
      have hq:=K.quo p.1
      have he:cV s.events p.1=p.2:=by
        unfold cV
        rw[(jR K.ev.sort).2 (show(p.1,p.2)∈s.events from hp)]
        rfl
      rw[he] at hq
      omega
    omega
  · show(s.aR.map _).length≤_
    rw[d_]
    exact bQ (xd K.fD.sort fun p hp=>(K.fD.ok p hp).1) (by decide)
  · intro x hx
    obtain⟨p,hp,rfl⟩:=de.1 hx
    exact bQ (K.fD.ok p hp).2.2 (by decide)
end
section
variable {a b:gu} {i:Int} {x y:ig}
theorem mA (h:¬a.aX=b.aX∨¬a.aZ=b.aZ∨¬a.bZ=b.bZ∨¬a.cJ=b.cJ∨¬a.cr=b.cr∨¬a.aT=b.aT∨¬a.bL=b.bL):false=decide (a=b):=by
  refine(gb fun e=>?_).symm
  subst e
  rcases h with h|h|h|h|h|h|h<;>exact h rfl
theorem CQ (h:¬(a.bL.length:Int)=b.bL.length):false=decide (a=b):=mA (.inr (.inr (.inr (.inr (.inr (.inr fun e=>h (by rw[e])))))))
theorem vO (hx:a.bL[i.toNat]?=some x) (hy:b.bL[i.toNat]?=some y) (h:¬x.Client=y.Client∨¬x.bn=y.bn∨¬x.Data=y.Data):false=decide (a=b):=mA (.inr (.inr (.inr (.inr (.inr (.inr fun e=>by
  rw[e,hy] at hx
  obtain rfl:=fK hx
  rcases h with h|h|h<;>exact h rfl))))))
theorem CR (h1:x.Client=y.Client) (h2:x.bn=y.bn) (h3:x.Data=y.Data):x=y:=by
  obtain⟨_,_,_⟩:=x
  obtain⟨_,_,_⟩:=y
  simp only at h1 h2 h3
  subst h1 h2 h3
  rfl
theorem CS (h1:a.aX=b.aX) (h2:a.aZ=b.aZ) (h3:a.bZ=b.bZ) (h4:a.cJ=b.cJ) (h5:a.cr=b.cr) (h6:a.aT=b.aT) (hl:(a.bL.length:Int)=b.bL.length) (ht:a.bL.take i.toNat=b.bL.take i.toNat) (hi:¬i<(a.bL.length:Int)):true=decide (a=b):=by
  refine(eu ?_).symm
  rw[fC (by omega),fC (by omega)] at ht
  obtain⟨_,_,_,_,_,_,_⟩:=a
  obtain⟨_,_,_,_,_,_,_⟩:=b
  simp only at h1 h2 h3 h4 h5 h6 ht
  subst h1 h2 h3 h4 h5 h6 ht
  rfl
end
end Go.Proofs.YtceekbnihfckeaaGreatDoor.Sw
namespace Go.Proofs.YtceekbnihfckeaaGreatDoor.Sw
open Go.Proofs.Tryz
open Go
set_option maxRecDepth 100000
set_option linter.unusedVariables false
set_option linter.unusedSimpArgs false
set_option linter.deprecated false
theorem CT (B:World) (h:ax) (g:GH) (hg:bl g h) (bm:bq g) (ae:Value) (a:List dL) (am:av g 85 nI ae a) (ar:Value) (b:List dL) (aw:av g 85 nI ar b) (h1:a.length≤1000000000):
  aE prog B 85 #[ae,ar] h g [] (fun a6 g' L'=>a6=.bool (decide (a=b))∧g'=g∧L'=[]):=by
 obtain⟨a0,I,rfl⟩:=am.aj
 obtain⟨a1,J,rfl⟩:=aw.aj
 refine aE.aq func85 fun R hR=>?_
 have a3:=St.init hg
 refine At.go 1 1 [] ?_
 refine At.go 2 5 [(10,.bool ((a.length:Int) != (b.length:Int)))] ?_
 refine At.fn ((a.length:Int)=(b.length:Int)) 10 3 5 (fun bo=>?_) fun bt=>?_
 ·exact At.gr 4 1 4 (.bool false) (hR a3 ⟨(aS (by exact tN ‹_›)),rfl,rfl⟩)
 refine At.go 6 1 [(5,vI 0)] ?_
 have a7:∀(m:Nat) (i:Int) (O:ax) (hm:a.length-i.toNat<m) (h0:0≤i) (h2:i≤a.length) (ht:a.take i.toNat=b.take i.toNat) (G:St h g (aV []) g [] O),At (bX prog B 85 f85 R) [] 6 [(0,vL a0 a.length I),(1,vL a1 b.length J),(5,vI i)] O:=by
  intro m;induction m with
  |zero=>intros;omega
  |succ m a8=>
   intro i O hm h0 h2 ht G
   refine At.go 7 4 [(14,.bool (decide (i<(a.length:Int))))] ?_
   refine At.fd (i<(a.length:Int)) 14 8 13 (fun b3=>?_) fun a9=>?_
   ·refine At.dw (fun _=>False) [(0,true),(1,true),(2,true),(4,true),(5,true),(6,true),(3,true),(7,false),(8,true)] ?_
    refine Op.px 2 [(17,vL a0 a.length I),(18,vI i)] ?_
    obtain⟨u,U⟩:=cG a i
    obtain⟨bc,a4,b4,b5,bd,be,V⟩:=av.bF am _ U
    cases bd
    refine Op.iq 62 85 3 24 a.length I 17 18 19 bc a4 i ?_
    replace V:cut _ _ _=[vI u.Client,vI u.aF,vI u.cC]:=V
    refine Op.px 2 [(21,vL a1 b.length J),(22,vI i)] ?_
    obtain⟨D,X⟩:=cG b i
    obtain⟨bi,a5,b6,b8,bj,bk,Y⟩:=av.bF aw _ X
    cases bj
    refine Op.iq 62 85 3 24 b.length J 21 22 23 bi a5 i ?_
    replace Y:cut _ _ _=[vI D.Client,vI D.aF,vI D.cC]:=Y
    refine Op.iU (T:=85) (x:=19) (o:=a4+i.toNat*3) (d:=20) (n:=3) (vs:=[vI u.Client,vI u.aF,vI u.cC]) (by kernel_rfl) (by kernel_rfl) (by kernel_rfl) (fun h=>h) (G.sub _ _ be) V rfl ?_
    refine Op.la 85 23 24 (a5+i.toNat*3) 3 [vI D.Client,vI D.aF,vI D.cC] (G.sub _ _ bk) ?_ (hv:=Y)
    refine Op.A3 (T:=85) (T':=85) (x:=20) (y:=24) (neq:=true) (dst:=25) (xs:=#[vI u.Client,vI u.aF,vI u.cC]) (ys:=#[vI D.Client,vI D.aF,vI D.cC]) (q:=((u.Client==D.Client)&&((u.aF==D.aF)&&((u.cC==D.cC)&&true)))) (q':=!(decide (u=D))) (by kernel_rfl) (by kernel_rfl) (by kernel_rfl) (by kernel_rfl) (by kernel_rfl) (congrArg (fun z=>!z) (CK u D)) ?_
    refine Op.gt 9 ?_
    refine At.di (!(decide (u=D))) 25 10 12 (fun ab=>?_) fun ad=>?_
    ·replace ab:=jq (dG ab)
     exact At.gr 11 1 4 (.bool false) (hR G ⟨(aS (by exact tO U X ab)),rfl,rfl⟩)
    replace ad:=gp (dH ad)
    refine At.rp 3 1 [(15,vI i)] ?_
    refine Op.vq 16 (i+1) ?_
    exact Op.pg 6 [(5,vI (i+1))] (At.ke (a8 (i+1) _ (by omega) (by omega) (by omega) (by exact qp ht h0 U X ad) G))
   exact At.gr 14 1 4 (.bool true) (hR G ⟨(aS (by exact tP ‹_› a9 ht)),rfl,rfl⟩)
 exact At.ke (a7 _ 0 _ (bM _) (by omega) (by omega) (by rfl) a3)
set_option maxHeartbeats 1000000 in
theorem A4 (B:World) (h:ax) (g:GH) (hg:bl g h) (Y:bq g) (a:gu) (c3:Value) (c4:av g 39 mu c3 a.bZ) (c5:Value) (c6:av g 45 dh c5 a.cJ) (c8:Value) (c9:av g 85 nI c8 a.cr) (da:Value) (db:av g 45 dh da a.aT) (dc:Value) (dd:av g 101 n_ dc a.bL) (b:gu) (df:Value) (dg:av g 39 mu df b.bZ) (dj:Value) (dk:av g 45 dh dj b.cJ) (dl:Value) (dp:av g 85 nI dl b.cr) (dq:Value) (du:av g 45 dh dq b.aT) (dv:Value) (dC:av g 101 n_ dv b.bL) (h1:(a.bZ.length≤1000000∧∀n∈a.bZ,n.Data.length≤1000000000)∧a.cJ.length≤1000000∧a.cr.length≤1000000∧a.aT.length≤1000000∧a.bL.length≤1000000∧∀x∈a.bL,x.Data.length≤1000000000):
  aE prog B 39 #[.agg #[vI a.aX,vI a.aZ,c3,c5,c8,da,dc],.agg #[vI b.aX,vI b.aZ,df,dj,dl,dq,dv]] h g [] (fun eA g' L'=>eA=.bool (decide (a=b))∧g'=g∧L'=[]):=by
 obtain⟨a3,a4,rfl⟩:=c4.aj
 obtain⟨a5,a6,rfl⟩:=c6.aj
 obtain⟨a7,a8,rfl⟩:=c9.aj
 obtain⟨a9,bc,rfl⟩:=db.aj
 obtain⟨ab,U,rfl⟩:=dd.aj
 obtain⟨bd,be,rfl⟩:=dg.aj
 obtain⟨bi,bj,rfl⟩:=dk.aj
 obtain⟨bk,bm,rfl⟩:=dp.aj
 obtain⟨bo,bt,rfl⟩:=du.aj
 obtain⟨a1,ad,rfl⟩:=dC.aj
 refine aE.aq func39 fun R hR=>?_
 have eB:=St.init hg
 refine At.rg 3 ?_
 refine Op.bx 2 81 0 #[vI a.aX,vI a.aZ,vL a3 a.bZ.length a4,vL a5 a.cJ.length a6,vL a7 a.cr.length a8,vL a9 a.aT.length bc,vL ab a.bL.length U] eB fun G fa eE=>?_
 refine Op.bx 3 81 1 #[vI b.aX,vI b.aZ,vL bd b.bZ.length be,vL bi b.cJ.length bj,vL bk b.cr.length bm,vL bo b.aT.length bt,vL a1 b.bL.length ad] eE fun I fg J=>?_
 refine Op.pg 1 [] ?_
 refine At.rp 53 1 [(8,vP G)] ?_
 refine Op.l1 3 8 9 0 (vI a.aX) (J.ah 1 rfl) ?_
 refine Op.px 1 [(10,vP I)] ?_
 refine Op.l1 3 10 11 0 (vI b.aX) (J.ah 0 rfl) ?_
 refine Op.px 2 [(13,.bool (a.aX != b.aX))] ?_
 refine Op.wb (a.aX != b.aX) 13 (fun dE=>?_) fun dT=>?_
 ·replace dE:=gY dE
  refine Op.pg 2 [(60,.bool true)] ?_
  refine At.bW 60 3 ?_
  exact At.gr 4 1 4 (.bool false) (hR J.drop.drop ⟨(aS (by exact mA (.inl ‹_›))),rfl,rfl⟩)
 replace dT:=jk dT
 refine Op.px 1 [(14,vQ G 1)] ?_
 refine Op.l1 3 14 15 1 (vI a.aZ) (J.ah 1 rfl) ?_
 refine Op.px 1 [(16,vQ I 1)] ?_
 refine Op.l1 3 16 17 1 (vI b.aZ) (J.ah 0 rfl) ?_
 refine Op.px 3 [(20,.bool (a.aZ != b.aZ))] ?_
 refine Op.wb (a.aZ != b.aZ) 20 (fun d0=>?_) fun d1=>?_
 ·replace d0:=gY d0
  refine Op.pg 2 [(60,.bool true)] ?_
  refine At.bW 60 3 ?_
  exact At.gr 4 1 4 (.bool false) (hR J.drop.drop ⟨(aS (by exact mA (.inr (.inl ‹_›)))),rfl,rfl⟩)
 replace d1:=jk d1
 refine Op.px 1 [(21,vQ G 2)] ?_
 refine Op.l1 57 21 22 2 (vL a3 a.bZ.length a4) (J.ah 1 rfl) ?_
 refine Op.px 1 [(23,vQ I 2)] ?_
 refine Op.l1 57 23 24 2 (vL bd b.bZ.length be) (J.ah 0 rfl) ?_
 refine Op.c1 25 (yC _ _ _ J.sub Y _ _ c4 _ _ dg (by(try dsimp only)<;>omega) (by(try dsimp only)<;>exact h1.1.2)) J fun fi ae=>?_
 refine Op.px 3 [(28,.bool (!(decide (a.bZ=b.bZ))))] ?_
 refine Op.wb (!(decide (a.bZ=b.bZ))) 28 (fun d2=>?_) fun d3=>?_
 ·replace d2:=jq (dG d2)
  refine Op.pg 2 [(60,.bool true)] ?_
  refine At.bW 60 3 ?_
  exact At.gr 4 1 4 (.bool false) (hR ae.drop.drop ⟨(aS (by exact mA (.inr (.inr (.inl ‹_›))))),rfl,rfl⟩)
 replace d3:=gp (dH d3)
 refine Op.px 1 [(29,vQ G 3)] ?_
 refine Op.l1 41 29 30 3 (vL a5 a.cJ.length a6) (ae.ah 1 rfl) ?_
 refine Op.px 1 [(31,vQ I 3)] ?_
 refine Op.l1 41 31 32 3 (vL bi b.cJ.length bj) (ae.ah 0 rfl) ?_
 refine Op.c1 33 (xe _ _ _ ae.sub Y _ _ c6 _ _ dk (by(try dsimp only)<;>omega)) ae fun fj am=>?_
 refine Op.px 3 [(36,.bool (!(decide (a.cJ=b.cJ))))] ?_
 refine Op.wb (!(decide (a.cJ=b.cJ))) 36 (fun d4=>?_) fun d5=>?_
 ·replace d4:=jq (dG d4)
  refine Op.pg 2 [(60,.bool true)] ?_
  refine At.bW 60 3 ?_
  exact At.gr 4 1 4 (.bool false) (hR am.drop.drop ⟨(aS (by exact mA (.inr (.inr (.inr (.inl ‹_›)))))),rfl,rfl⟩)
 replace d5:=gp (dH d5)
 refine Op.px 1 [(37,vQ G 4)] ?_
 refine Op.l1 62 37 38 4 (vL a7 a.cr.length a8) (am.ah 1 rfl) ?_
 refine Op.px 1 [(39,vQ I 4)] ?_
 refine Op.l1 62 39 40 4 (vL bk b.cr.length bm) (am.ah 0 rfl) ?_
 refine Op.c1 41 (CT _ _ _ am.sub Y _ _ c9 _ _ dp (by(try dsimp only)<;>omega)) am fun fl ar=>?_
 refine Op.px 3 [(44,.bool (!(decide (a.cr=b.cr))))] ?_
 refine Op.wb (!(decide (a.cr=b.cr))) 44 (fun d6=>?_) fun d7=>?_
 ·replace d6:=jq (dG d6)
  refine Op.pg 2 [(60,.bool true)] ?_
  refine At.bW 60 3 ?_
  exact At.gr 4 1 4 (.bool false) (hR ar.drop.drop ⟨(aS (by exact mA (.inr (.inr (.inr (.inr (.inl ‹_›))))))),rfl,rfl⟩)
 replace d7:=gp (dH d7)
 refine Op.px 1 [(45,vQ G 5)] ?_
 refine Op.l1 41 45 46 5 (vL a9 a.aT.length bc) (ar.ah 1 rfl) ?_
 refine Op.px 1 [(47,vQ I 5)] ?_
 refine Op.l1 41 47 48 5 (vL bo b.aT.length bt) (ar.ah 0 rfl) ?_
 refine Op.c1 49 (xe _ _ _ ar.sub Y _ _ db _ _ du (by(try dsimp only)<;>omega)) ar fun fp aw=>?_
 refine Op.px 3 [(52,.bool (!(decide (a.aT=b.aT))))] ?_
 refine Op.wb (!(decide (a.aT=b.aT))) 52 (fun d8=>?_) fun d9=>?_
 ·replace d8:=jq (dG d8)
  refine Op.pg 2 [(60,.bool true)] ?_
  refine At.bW 60 3 ?_
  exact At.gr 4 1 4 (.bool false) (hR aw.drop.drop ⟨(aS (by exact mA (.inr (.inr (.inr (.inr (.inr (.inl ‹_›)))))))),rfl,rfl⟩)
 replace d9:=gp (dH d9)
 refine Op.px 1 [(53,vQ G 6)] ?_
 refine Op.l1 65 53 54 6 (vL ab a.bL.length U) (aw.ah 1 rfl) ?_
 refine Op.px 2 [(55,vI (a.bL.length:Int)),(56,vQ I 6)] ?_
 refine Op.l1 65 56 57 6 (vL a1 b.bL.length ad) (aw.ah 0 rfl) ?_
 refine Op.pg 2 [(60,.bool ((a.bL.length:Int) != (b.bL.length:Int)))] ?_
 refine At.fn ((a.bL.length:Int)=(b.bL.length:Int)) 60 3 5 (fun fr=>?_) fun ft=>?_
 ·exact At.gr 4 1 4 (.bool false) (hR aw.drop.drop ⟨(aS (by exact CQ ‹_›)),rfl,rfl⟩)
 refine At.go 6 1 [(5,vI 0)] ?_
 have eI:∀(m:Nat) (i:Int) (b3:ax) (hm:a.bL.length-i.toNat<m) (h0:0≤i) (h2:i≤a.bL.length) (hl:(a.bL.length:Int)=b.bL.length) (ht:a.bL.take i.toNat=b.bL.take i.toNat) (e1:a.aX=b.aX) (e2:a.aZ=b.aZ) (e3:a.bZ=b.bZ) (b4:a.cJ=b.cJ) (b5:a.cr=b.cr) (b6:a.aT=b.aT) (V:St h g (aV []) g [[(I,Obj.cells #[vI b.aX,vI b.aZ,vL bd b.bZ.length be,vL bi b.cJ.length bj,vL bk b.cr.length bm,vL bo b.aT.length bt,vL a1 b.bL.length ad] 81 (0,0))],[(G,Obj.cells #[vI a.aX,vI a.aZ,vL a3 a.bZ.length a4,vL a5 a.cJ.length a6,vL a7 a.cr.length a8,vL a9 a.aT.length bc,vL ab a.bL.length U] 81 (0,0))]] b3),At (bX prog B 39 f39 R) [] 6 [(2,vP G),(3,vP I),(5,vI i)] b3:=by
  intro m;induction m with
  |zero=>intros;omega
  |succ m eJ=>
   intro i b3 hm h0 h2 hl ht e1 e2 e3 b4 b5 b6 V
   refine At.rp 5 2 [(61,vI i),(62,vQ G 6)] ?_
   refine Op.l1 65 62 63 6 (vL ab a.bL.length U) (V.ah 1 rfl) ?_
   refine Op.pg 7 [(65,.bool (decide (i<(a.bL.length:Int))))] ?_
   refine At.fd (i<(a.bL.length:Int)) 65 8 15 (fun fv=>?_) fun fw=>?_
   ·refine At.rp 7 1 [(68,vQ G 6)] ?_
    refine Op.l1 65 68 69 6 (vL ab a.bL.length U) (V.ah 1 rfl) ?_
    refine Op.px 1 [(70,vI i)] ?_
    obtain⟨u,X⟩:=cG a.bL i
    obtain⟨eK,ed,fx,f0,eL,eQ,b8⟩:=av.bF dd _ X
    cases eL
    refine Op.iq 65 101 3 40 a.bL.length U 69 70 71 eK ed i ?_
    obtain⟨f1,ee,b8⟩:=b8
    obtain⟨ca,cb,rfl⟩:=ee.aj
    refine Op.la 101 71 72 (ed+i.toNat*3) 3 [vI u.Client,vI u.bn,vL ca u.Data.length cb] (V.sub _ _ eQ) ?_ (hv:=b8)
    refine Op.al 6 101 #[vI 0,vI 0,vN] V fun ce f2 e4=>?_
    refine Op.sg 101 6 72 0 0 #[vI u.Client,vI u.bn,vL ca u.Data.length cb] e4 (fun _=>trivial) fun f3 cf=>?_
    refine Op.gt 9 ?_
    refine At.rp 7 1 [(73,vQ I 6)] ?_
    refine Op.l1 65 73 74 6 (vL a1 b.bL.length ad) (cf.ah 1 rfl) ?_
    refine Op.px 1 [(75,vI i)] ?_
    obtain⟨D,a0⟩:=cG b.bL i
    obtain⟨e5,ef,f4,f5,e6,e7,ch⟩:=av.bF dC _ a0
    cases e6
    refine Op.iq 65 101 3 40 b.bL.length ad 74 75 76 e5 ef i ?_
    obtain⟨f6,eh,ch⟩:=ch
    obtain⟨ci,ck,rfl⟩:=eh.aj
    refine Op.la 101 76 77 (ef+i.toNat*3) 3 [vI D.Client,vI D.bn,vL ci D.Data.length ck] (cf.sub _ _ e7) ?_ (hv:=ch)
    refine Op.al 7 101 #[vI 0,vI 0,vN] cf fun co f7 e8=>?_
    refine Op.sg 101 7 77 0 0 #[vI D.Client,vI D.bn,vL ci D.Data.length ck] e8 (fun _=>trivial) fun f8 O=>?_
    refine Op.gt 10 ?_
    refine At.rp 20 1 [(78,vP ce)] ?_
    refine Op.l1 3 78 79 0 (vI u.Client) (O.ah 1 rfl) ?_
    refine Op.px 1 [(80,vP co)] ?_
    refine Op.l1 3 80 81 0 (vI D.Client) (O.ah 0 rfl) ?_
    refine Op.px 2 [(83,.bool (u.Client != D.Client))] ?_
    refine Op.wb (u.Client != D.Client) 83 (fun ej=>?_) fun em=>?_
    ·replace ej:=gY ej
     refine Op.pg 11 [(97,.bool true)] ?_
     refine At.bW 97 12 ?_
     exact At.gr 13 1 4 (.bool false) (hR O.drop.drop.drop.drop ⟨(aS (by exact vO X a0 (.inl ‹_›))),rfl,rfl⟩)
    replace em:=jk em
    refine Op.px 1 [(84,vQ ce 1)] ?_
    refine Op.l1 3 84 85 1 (vI u.bn) (O.ah 1 rfl) ?_
    refine Op.px 1 [(86,vQ co 1)] ?_
    refine Op.l1 3 86 87 1 (vI D.bn) (O.ah 0 rfl) ?_
    refine Op.px 3 [(90,.bool (u.bn != D.bn))] ?_
    refine Op.wb (u.bn != D.bn) 90 (fun en=>?_) fun ep=>?_
    ·replace en:=gY en
     refine Op.pg 11 [(97,.bool true)] ?_
     refine At.bW 97 12 ?_
     exact At.gr 13 1 4 (.bool false) (hR O.drop.drop.drop.drop ⟨(aS (by exact vO X a0 (.inr (.inl ‹_›)))),rfl,rfl⟩)
    replace ep:=jk ep
    refine Op.px 1 [(91,vQ ce 2)] ?_
    refine Op.l1 22 91 92 2 (vL ca u.Data.length cb) (O.ah 1 rfl) ?_
    refine Op.px 1 [(93,vQ co 2)] ?_
    refine Op.l1 22 93 94 2 (vL ci D.Data.length ck) (O.ah 0 rfl) ?_
    refine Op.c1 95 (tM _ _ _ O.sub Y _ _ ee _ _ eh (by((try dsimp only)<;>(exact h1.2.2.2.2.2 _ (cj X))))) O fun f9 er=>?_
    refine Op.pg 11 [(97,.bool (!(decide (u.Data=D.Data))))] ?_
    refine At.di (!(decide (u.Data=D.Data))) 97 12 14 (fun et=>?_) fun ex=>?_
    ·replace et:=jq (dG et)
     exact At.gr 13 1 4 (.bool false) (hR er.drop.drop.drop.drop ⟨(aS (by exact vO X a0 (.inr (.inr ‹_›)))),rfl,rfl⟩)
    replace ex:=gp (dH ex)
    refine At.rp 3 1 [(66,vI i)] ?_
    refine Op.vq 67 (i+1) ?_
    refine Op.pg 6 [(5,vI (i+1))] ?_
    have e9:=er.drop.drop
    exact At.ke (eJ (i+1) _ (by omega) (by omega) (by omega) (by exact hl) (by exact qp ht h0 X a0 (CR ‹_› ‹_› ‹_›)) (by exact e1) (by exact e2) (by exact e3) (by exact b4) (by exact b5) (by exact b6) e9)
   exact At.gr 16 1 4 (.bool true) (hR V.drop.drop ⟨(aS (by exact CS e1 e2 e3 b4 b5 b6 hl ht ‹_›)),rfl,rfl⟩)
 exact At.ke (eI _ 0 _ (bM _) (by omega) (by omega) ‹_› (by rfl) ‹_› ‹_› ‹_› ‹_› ‹_› ‹_› aw)
end Go.Proofs.YtceekbnihfckeaaGreatDoor.Sw
namespace Go.Proofs.YtceekbnihfckeaaGreatDoor.Sw
open Go.Proofs.Tryz
set_option linter.unusedVariables false
set_option linter.unusedSimpArgs false
set_option linter.deprecated false
open Go Go.ChangeShapes Go.WideShapes Go.ChangeAt Go.RowKit Go.Deep Go.ChangeMaps
section
variable {P:Program} {T E:TypeId}
theorem cT.int {k:IntKind} (ht:P.underlying T=some (.int k)):cT P T (fh k) (fun y=>k.min≤y∧y≤k.max):=⟨fun h hb=>by
  obtain⟨n,rfl,rfl,hw⟩:=DataW.trod_int ht h
  refine⟨n,rfl,?_⟩
  simpa[Lit.wf] using hw⟩
theorem cT.bool (ht:P.underlying T=some .bool):cT P T vg (fun _=>True):=⟨fun h hb=>by
  obtain⟨n,rfl,rfl⟩:=DataW.trod_bool ht h
  exact⟨n,rfl,trivial⟩⟩
end
section
variable {P:Program} {w:World} {T:TypeId} {H:Type} {enc:TypeId×Value→H} {v:Value} {dt:DataW H} {ps:List MemPlace} {b0:Nat} {r:Reach}
theorem CU {α:Type} {d:Kd α} {ok:α→Prop} {fs:Array Field} (I:cT P T d ok) (ht:P.underlying T=some (.struct fs)) (u:Value.okWide P w r b0 T v) (h:DataW.Trod enc P w 0 (fun _=>true) true T v dt ps) (hb:Rows.uptoBulk dt≤1048576):
    ∃(y:α) (cs:Array Value),v=.agg cs∧d.K (j8 w) y cs.toList∧ok y:=by
  obtain⟨cs,rfl,_⟩:=okWide_struct ht u
  obtain⟨bI,hf⟩:=h
  obtain⟨y,hk,ho⟩:=I.out hf hb
  exact⟨y,cs,rfl,hk,ho⟩
end
theorem eo {P:Program} {w:World} {H:Type} {enc:TypeId×Value→H} {n:Nat} {fs:Array Field} {cs:List Value} {xs:List (DataW H×List MemPlace)}
    (hf:∀(i:Nat) (f:Field),fs[i]?=some f→DataW.trod enc P w 0 (fun _=>true) true n f.type ((cs.drop f.offset).take (P.cellsOf f.type))=xs[i]?)
    (i t o m:Nat) (hi:(fs[i]?).map (fun f=>(f.type,f.offset))=some (t,o)) (hm:P.cellsOf t=m):DataW.trod enc P w 0 (fun _=>true) true n t ((cs.drop o).take m)=xs[i]?:=by
  obtain⟨f,h1,h2⟩:=pN.1 hi
  simp only[iM] at h2
  obtain⟨rfl,rfl⟩:=h2
  subst hm
  exact hf i f h1
end Go.Proofs.YtceekbnihfckeaaGreatDoor.Sw
namespace Go.Proofs.YtceekbnihfckeaaGreatDoor.Sw
open Go.Proofs.Tryz
open Go Go.ChangeShapes Go.WideShapes Go.ChangeAt Go.RowKit Go.Deep Go.ChangeMaps
set_option maxRecDepth 100000
set_option linter.unusedVariables false
set_option linter.unusedSimpArgs false
set_option linter.deprecated false
structure gZ (N:Nat) (P:Program) (T:TypeId) {α:Type} (d:Kd α) (ok:Nat→α→Prop):Prop where
  out:∀{H:Type} {enc:TypeId×Value→H} {w:World} {bI:Nat} {cs:List Value} {x:DataW H×List MemPlace},
    DataW.trod enc P w 0 (fun _=>true) true bI T cs=some x→Rows.uptoBulk x.1≤N→N≤1048576→∃y,d.K (j8 w) y cs∧ok (Rows.uptoBulk x.1) y
theorem pO {H:Type}:∀l:List (DataW H),Rows.uptoBulkAll l=(l.map Rows.uptoBulk).sum
  |[]=>rfl
  |d::r=>by rw[Rows.uptoBulkAll,eR,ng,pO r]
theorem gZ.sl {N:Nat} {P:Program} {T E:TypeId} {α:Type} {d:Kd α} {ok:Nat→α→Prop} (I:gZ N P E d ok) (ht:P.underlying T=some (.slice E)) (hc:P.cellsOf E=d.sz) (hp:0<d.sz):
    gZ (N+1) P T (jI E d) (fun b ys=>∃ds:List Nat,ds.length=ys.length∧ds.sum+1≤b∧∀(i:Nat) y n,ys[i]?=some y→ds[i]?=some n→ok n y):=⟨fun{H enc w bI cs x} h hb hN=>by
  rcases open_slice ht h with ⟨rfl,rfl⟩|⟨a,len,cap,m,n,u,X,rfl,_,hl,hm,J,rfl,hx⟩
  · exact⟨[],⟨_,rfl,av.nil _ _ _⟩,[],rfl,by simp[Rows.uptoBulk],fun i y n h=>by simp at h⟩
  · rw[aO rfl] at J
    subst J
    simp only[Rows.uptoBulk] at hb
    have hlen:=xg ((List.range len).map u)
    rw[d_,qw] at hlen
    have D:∀i,i<len→∃y,∃cs',w.cells? 0 (a.add (i*d.sz)) d.sz=some cs'∧d.K (j8 w) y cs'∧ok (Rows.uptoBulk (u i)) y:=fun i hi=>by
      obtain⟨cs',h1,h2⟩:=hx i (by omega)
      have h3:Rows.uptoBulk (u i)≤Rows.uptoBulkAll ((List.range len).map u):=fE (de.2 ⟨i,xh.2 hi,rfl⟩)
      obtain⟨y,h4,h5⟩:=I.out h2 (by show Rows.uptoBulk (u i)≤_;omega) (by omega)
      rw[hc] at h1
      exact⟨y,cs',h1,h4,h5⟩
    obtain⟨ys,O,hy⟩:=xj len D
    refine⟨ys,⟨_,rfl,_,m,by rw[O],by omega,fun hne=>?_⟩,(List.range len).map (fun i=>Rows.uptoBulk (u i)),by rw[d_,qw,O],?_,fun i y n hi hn=>?_⟩
    · obtain⟨b,o,spot⟩:=a
      have h0:0<len:=by
        rcases yU len with h|h
        · exact absurd (ju (by omega)) hne
        · exact h
      have U:spot=none:=by
        obtain⟨_,cs',h1,_⟩:=D 0 h0
        unfold World.cells? at h1
        rw[aO (fH _)] at h1
        obtain⟨v,_,hf⟩:=Lib.mapM_at h1 0 0 (by simp[hp])
        simpa[Addr.add] using World.cell?_spot hf
      subst U
      obtain⟨_,Y,h1,_⟩:=D 0 h0
      rw[vR,jT,lG] at h1
      obtain⟨cur,V,fz,hb',_⟩:=qx h1 hp
      refine⟨b,o,cur,(V,fz),rfl,hb',xk ys o fun i y hi=>?_⟩
      obtain⟨cs',h2,h3,_⟩:=hy i y hi
      rw[jT] at h2
      obtain⟨ab,ad,ae,G,e⟩:=qx h2 hp
      rw[hb'] at G
      simp only[fu,Obj.cells.injEq] at G
      obtain⟨rfl,_,_⟩:=G
      rw[←e];exact h3
    · have:=pO ((List.range len).map u)
      rw[jg] at this
      show((List.range len).map (Rows.uptoBulk ∘ u)).sum+1≤Rows.uptoBulk (.slice ((List.range len).map u) _)
      simp only[Rows.uptoBulk]
      omega
    · obtain⟨cs',_,_,hok⟩:=hy i y hi
      rw[jU] at hn
      have hlt:=(fT.1 hi).1
      rw[yV (by omega)] at hn
      obtain rfl:=fK hn
      exact hok⟩
def fX (n:Int):Prop:= -9223372036854775808≤n∧n≤9223372036854775807
def pP (b:Nat) (o:aG):Prop:=cq o≤b∧fX o.Kind∧fX o.ai∧fX o.aF
theorem pQ:∀(ys:List aG) (ds:List Nat),ds.length=ys.length→(∀(i:Nat) y n,ys[i]?=some y→ds[i]?=some n→pP n y)→c7 ys≤ds.sum
  |[],[],_,_=>by rw[c7];exact fH _
  |[],_::_,h,_=>by simp at h
  |_::_,[],h,_=>by simp at h
  |y::ys,n::ds,h,hk=>by
   have h1:=(hk 0 y n rfl rfl).1
   have h2:=pQ ys ds (by simpa using h) fun i u D hy hn=>hk (i+1) u D (by simpa using hy) (by simpa using hn)
   rw[c7,ng]
   omega
theorem oF:∀N:Nat,gZ N prog 25 ek pP
  |0=>⟨fun{H enc w bI cs x} h hb hN=>by have:=rK x.1;omega⟩
  |N+1=>⟨fun{H enc w bI cs x} h hb hN=>by
   obtain⟨xs,n,_,rfl,hl,hlen,hf⟩:=DataW.trod_struct underlying25 h
   have hl:cs.length=9:=hl.trans (by kernel_rfl)
   have hlen:xs.length=9:=hlen
   obtain⟨a0,a1,a2,a3,a4,a5,J,O,U,rfl⟩:∃a0 a1 a2 a3 a4 a5 J O U,cs=[a0,a1,a2,a3,a4,a5,J,O,U]:=by match cs,hl with|[a0,a1,a2,a3,a4,a5,J,O,U],_=>exact⟨a0,a1,a2,a3,a4,a5,J,O,U,rfl⟩
   obtain⟨z0,u,z2,z3,z4,z5,D,G,I,rfl⟩:∃z0 u z2 z3 z4 z5 D G I,xs=[z0,u,z2,z3,z4,z5,D,G,I]:=by match xs,hlen with|[z0,u,z2,z3,z4,z5,D,G,I],_=>exact⟨z0,u,z2,z3,z4,z5,D,G,I,rfl⟩
   have hB:Rows.uptoBulk (DataW.agg (List.map (·.1) [z0,u,z2,z3,z4,z5,D,G,I]))=Rows.uptoBulk z0.1+(Rows.uptoBulk u.1+(Rows.uptoBulk z2.1+(Rows.uptoBulk z3.1+(Rows.uptoBulk z4.1+(Rows.uptoBulk z5.1+(Rows.uptoBulk D.1+(Rows.uptoBulk G.1+Rows.uptoBulk I.1)))))))+1:=by
     simp only[eR,kG,Rows.uptoBulk,Rows.uptoBulkAll,lG]
   simp only[] at hb ⊢
   rw[hB] at hb ⊢
   have g0:=eo hf 0 3 0 1 (by kernel_rfl) (by kernel_rfl)
   replace g0:DataW.trod enc prog w 0 (fun _=>true) true n 3 [a0]=some z0:=g0
   obtain⟨y0,V,o0⟩:=(cT.int underlying3).out g0 (by omega)
   have V:[a0]=_:=V;cases V
   have g1:=eo hf 1 9 1 1 (by kernel_rfl) (by kernel_rfl)
   replace g1:DataW.trod enc prog w 0 (fun _=>true) true n 9 [a1]=some u:=g1
   obtain⟨s1,e1,r1,_⟩:=DataW.trod_string underlying9 g1
   cases e1
   have b1:s1.data.toList.length+1=Rows.uptoBulk u.1:=by rw[r1];rfl
   have g2:=eo hf 2 22 2 1 (by kernel_rfl) (by kernel_rfl)
   replace g2:DataW.trod enc prog w 0 (fun _=>true) true n 22 [a2]=some z2:=g2
   have a8:gZ 1048575 prog 5 br (fun b _=>1≤b):=⟨fun{H enc w bI cs x} h hb hN=>by
     obtain⟨y,hy,_⟩:=(cT.u8 underlying5).out h (by omega)
     exact⟨y,hy,rK _⟩⟩
   obtain⟨y2,⟨v2,e2,s2⟩,d2,bt,b3,a9⟩:=(gZ.sl a8 underlying22 (by kernel_rfl) (by decide)).out g2 (by omega) (by decide)
   cases e2
   have b2:y2.length+1≤Rows.uptoBulk z2.1:=by
     have key:∀ds:List Nat,(∀(i n:Nat),ds[i]?=some n→1≤n)→ds.length≤ds.sum:=by
       intro ds
       induction ds with
       |nil=>intro _;exact iE _
       |cons n ds ih=>
        intro h
        have:=h 0 n rfl
        have:=ih fun i m hm=>h (i+1) m (by simpa using hm)
        rw[bY,ng]
        omega
     have:=key d2 fun i n hn=>by
       have hlt:=(fT.1 hn).1
       exact a9 i (y2[i]'(by omega)) n (oG (by omega)) hn
     omega
   have g3:=eo hf 3 3 3 1 (by kernel_rfl) (by kernel_rfl)
   replace g3:DataW.trod enc prog w 0 (fun _=>true) true n 3 [a3]=some z3:=g3
   obtain⟨y3,X,bc⟩:=(cT.int underlying3).out g3 (by omega)
   have X:[a3]=_:=X;cases X
   have g4:=eo hf 4 3 4 1 (by kernel_rfl) (by kernel_rfl)
   replace g4:DataW.trod enc prog w 0 (fun _=>true) true n 3 [a4]=some z4:=g4
   obtain⟨y4,Y,bd⟩:=(cT.int underlying3).out g4 (by omega)
   have Y:[a4]=_:=Y;cases Y
   have ab:=eo hf 5 4 5 1 (by kernel_rfl) (by kernel_rfl)
   replace ab:DataW.trod enc prog w 0 (fun _=>true) true n 4 [a5]=some z5:=ab
   obtain⟨y5,ad,_⟩:=(cT.bool underlying4).out ab (by omega)
   have ad:[a5]=_:=ad;cases ad
   have ae:=eo hf 6 4 6 1 (by kernel_rfl) (by kernel_rfl)
   replace ae:DataW.trod enc prog w 0 (fun _=>true) true n 4 [J]=some D:=ae
   obtain⟨y6,am,_⟩:=(cT.bool underlying4).out ae (by omega)
   have am:[J]=_:=am;cases am
   have ar:=eo hf 7 4 7 1 (by kernel_rfl) (by kernel_rfl)
   replace ar:DataW.trod enc prog w 0 (fun _=>true) true n 4 [O]=some G:=ar
   obtain⟨be,aw,_⟩:=(cT.bool underlying4).out ar (by omega)
   have aw:[O]=_:=aw;cases aw
   have a6:=eo hf 8 23 8 1 (by kernel_rfl) (by kernel_rfl)
   replace a6:DataW.trod enc prog w 0 (fun _=>true) true n 23 [U]=some I:=a6
   obtain⟨a7,⟨b4,bi,bj⟩,bk,bm,b5,bo⟩:=(gZ.sl (oF N) underlying23 (by kernel_rfl) (by decide)).out a6 (by omega) hN
   cases bi
   have b6:=pQ a7 bk bm bo
   refine⟨⟨y0,s1.data.toList,y2,y3,y4,y5,y6,be,a7⟩,iC.2 ⟨_,_,s2,bj,?_⟩,?_,o0,bc,bd⟩
   · rw[rL]
   · rw[mO]
     simp only
     omega⟩
def vT (x:aH):Prop:=cq x.Op≤1048576∧x.cS.length≤1048576∧fX x.Client∧fX x.bn∧fX x.aX∧fX x.Op.Kind∧fX x.Op.ai∧fX x.Op.aF
theorem um:cT prog 71 iD vT:=⟨fun{H enc w bI cs x} h hb=>by
  obtain⟨xs,n,_,rfl,hl,hlen,hf⟩:=DataW.trod_struct underlying71 h
  have hl:cs.length=13:=hl.trans (by kernel_rfl)
  have hlen:xs.length=5:=hlen
  obtain⟨a0,a1,a2,a3,a4,a5,D,G,I,a9,J,O,U,rfl⟩:∃a0 a1 a2 a3 a4 a5 D G I a9 J O U,cs=[a0,a1,a2,a3,a4,a5,D,G,I,a9,J,O,U]:=by match cs,hl with|[a0,a1,a2,a3,a4,a5,D,G,I,a9,J,O,U],_=>exact⟨a0,a1,a2,a3,a4,a5,D,G,I,a9,J,O,U,rfl⟩
  obtain⟨z0,u,z2,z3,z4,rfl⟩:∃z0 u z2 z3 z4,xs=[z0,u,z2,z3,z4]:=by match xs,hlen with|[z0,u,z2,z3,z4],_=>exact⟨z0,u,z2,z3,z4,rfl⟩
  have hb:Rows.uptoBulkAll [z0.1,u.1,z2.1,z3.1,z4.1]≤1048576:=by simp only[Rows.uptoBulk,eR,kG] at hb;omega
  have g0:=eo hf 0 3 0 1 (by kernel_rfl) (by kernel_rfl)
  replace g0:DataW.trod enc prog w 0 (fun _=>true) true n 3 [a0]=some z0:=g0
  obtain⟨y0,V,o0⟩:=(cT.int underlying3).out g0 (bQ (fE (by simp)) hb)
  have V:[a0]=_:=V;cases V
  have g1:=eo hf 1 3 1 1 (by kernel_rfl) (by kernel_rfl)
  replace g1:DataW.trod enc prog w 0 (fun _=>true) true n 3 [a1]=some u:=g1
  obtain⟨y1,k1,o1⟩:=(cT.int underlying3).out g1 (bQ (fE (by simp)) hb)
  have k1:[a1]=_:=k1;cases k1
  have g2:=eo hf 2 3 2 1 (by kernel_rfl) (by kernel_rfl)
  replace g2:DataW.trod enc prog w 0 (fun _=>true) true n 3 [a2]=some z2:=g2
  obtain⟨y2,k2,o2⟩:=(cT.int underlying3).out g2 (bQ (fE (by simp)) hb)
  have k2:[a2]=_:=k2;cases k2
  have g3:=eo hf 3 25 3 9 (by kernel_rfl) (by kernel_rfl)
  replace g3:DataW.trod enc prog w 0 (fun _=>true) true n 25 [a3,a4,a5,D,G,I,a9,J,O]=some z3:=g3
  obtain⟨y3,Y,X⟩:=(oF 1048576).out g3 (bQ (fE (by simp)) hb) (by decide)
  obtain⟨v0,v1,ab,s1,e3⟩:=iC.1 Y
  cases e3
  have ad:Rows.uptoBulk z3.1≤1048576:=bQ (fE (by simp)) hb
  have g4:=eo hf 4 22 12 1 (by kernel_rfl) (by kernel_rfl)
  replace g4:DataW.trod enc prog w 0 (fun _=>true) true n 22 [U]=some z4:=g4
  obtain⟨y4,⟨v4,ae,am⟩,ar⟩:=(cT.sl (cT.u8 underlying5) underlying22 (by kernel_rfl) (by decide)).out g4 (bQ (fE (by simp)) hb)
  cases ae
  exact⟨⟨y0,y1,y2,y3,y4⟩,⟨_,_,_,ab,s1,am,rfl⟩,bQ X.1 ad,ar.1,o0,o1,o2,X.2⟩⟩
def Mc (x:aG):Prop:=cq x≤1048576
theorem Md:cT prog 25 ek Mc:=⟨fun h hb=>by
  obtain⟨y,k,o⟩:=(oF 1048576).out h hb (by decide)
  exact⟨y,k,bQ o.1 hb⟩⟩
end Go.Proofs.YtceekbnihfckeaaGreatDoor.Sw
namespace Go.Proofs.YtceekbnihfckeaaGreatDoor.Sw
open Go.Proofs.Tryz
set_option linter.unusedVariables false
set_option linter.unusedSimpArgs false
set_option linter.deprecated false
set_option linter.unusedSectionVars false
open Go
section
variable {i j c n:Int} {s z:Sp} {o:aG} {x:aH} {e:bN} {b p:aQ}
structure qy (c:Int) (s:Sp):Prop where
  xl:cO c s
  fD:bV s.aR c=none
theorem qy.new:qy c mL:=⟨cO.new,rfl⟩
theorem qy.iX (H:qy c s) (K:ec i s) (hc:¬e.Client=c):qy c (bD s e b):=⟨H.xl.iX K.ok hc,Mb H.fD hc⟩
theorem yW (K:ec i s) (h0:0≤i) (hi:i≤20000) (H:qy c s) (hc:0≤c∧c<8) (hp:(bA (bE o 3)).2=0) (h1:¬o.Kind=1):
    dQ s ⟨c,1,0,[]⟩=true∧(bw (bh s ⟨c,1,0,[]⟩ (bA (bE o 3)).1)).2=0∧(bw (bh s ⟨c,1,0,[]⟩ (bA (bE o 3)).1)).1.Code=120∧(bw (bh s ⟨c,1,0,[]⟩ (bA (bE o 3)).1)).1.aT=[]∧
    bD s ⟨c,1,0,[]⟩ (bA (bE o 3)).1={s with count:=s.count+1,aR:=(bD s ⟨c,1,0,[]⟩ (bA (bE o 3)).1).aR}:=
  alone K.ok (by omega) (by omega) (by have:=K.cnt;omega) H.xl H.fD hc (w8 hp) (by rw[(yX o 3).1];exact h1) []
theorem FR (K:ec i s) (h0:0≤i) (hi:i≤20000) (H:qy c s) (hc:0≤c∧c<8) (hp:(bA (bE o 3)).2=0) (h1:¬o.Kind=1) (hz:z=bD s ⟨c,1,0,[]⟩ (bA (bE o 3)).1):
    z.count=s.count+1∧z.aA=s.aA∧z.au=s.au∧z.aN=s.aN∧z.book=s.book∧z.events=s.events:=by
  have h:=(yW K h0 hi H hc hp h1).2.2.2.2
  rw[←hz] at h
  rw[h]
  exact⟨rfl,rfl,rfl,rfl,rfl,rfl⟩
theorem Me (K:ec i s) (h0:0≤i) (hi:i≤20000) (H:qy c s) (hc:0≤c∧c<8) (hp:(bA (bE o 3)).2=0) (h1:¬o.Kind=1) (hz:z=bD s ⟨c,1,0,[]⟩ (bA (bE o 3)).1):
    (⟨(aP z).aX,(aP s).aZ,(aP z).bZ,(aP z).cJ,(aP z).cr,(aP z).aT,(aP s).bL⟩:gu)=aP s:=by
  obtain⟨-,h2,h3,h4,h5,h6⟩:=FR K h0 hi H hc hp h1 hz
  unfold aP
  rw[h2,h3,h4,h5,h6]
theorem Mf (K:ec i s) (Z:ec j z):((aP z).bZ.length≤1000000∧∀n∈(aP z).bZ,n.Data.length≤1000000000)∧(aP z).cJ.length≤1000000∧(aP z).cr.length≤1000000∧(aP z).aT.length≤1000000∧(aP s).bL.length≤1000000∧∀x∈(aP s).bL,x.Data.length≤1000000000:=
  ⟨(jv Z).1,(jv Z).2.1,(jv Z).2.2.1,(jv Z).2.2.2.1,(jv K).2.2.2.2⟩
end
end Go.Proofs.YtceekbnihfckeaaGreatDoor.Sw
namespace Go.Proofs.YtceekbnihfckeaaGreatDoor.Sw
open Go.Proofs.Tryz
open Go
set_option maxRecDepth 100000
set_option linter.unusedVariables false
set_option linter.unusedSimpArgs false
set_option linter.deprecated false
theorem nJ {l:List aH} (h:fN l=false):∀x∈l,cq x.Op≤3000∧(jE x.Op:Int)≤4∧x.cS.length≤2000:=fun x hx=>by
  unfold fN at h
  rw[Dz] at h
  have:=h x hx
  unfold stepG jH at this
  simp only[jh,cQ,qt] at this
  have h2:=uh x.Op 3000 3 (by decide) (by omega)
  omega
set_option maxHeartbeats 4000000 in
theorem Mg (B:World) (h:ax) (g:GH) (hg:bl g h) (u:bq g) (eK:Value) (list:List aH) (da:av g 71 iD eK list) (client:Int) (o:aG) (eL:Value) (ad:av g 5 br eL o.Data) (eQ:Value) (ae:av g 25 ek eQ o.az) (hP:lZ g) (hl:list.length≤1048576) (ho:∀z∈list,cq z.Op≤2000000∧z.cS.length≤2000000) (hx:cq o≤2000000):
  aE prog B 10 #[eK,vI client,.agg #[vI o.Kind,vS o.af,eL,vI o.ai,vI o.aF,.bool o.aY,.bool o.aI,.bool o.ak,eQ]] h g [] (fun g3 g' L'=>g3=.bool true∧L'=[]):=by
 obtain⟨g4,g5,rfl⟩:=da.aj
 obtain⟨db,dc,rfl⟩:=ad.aj
 obtain⟨dd,df,rfl⟩:=ae.aj
 refine aE.aq func10 fun R hR=>?_
 have g6:=St.init hg
 refine At.rg 2<|Op.bx 5 25 2 #[vI o.Kind,vS o.af,vL db o.Data.length dc,vI o.ai,vI o.aF,.bool o.aY,.bool o.aI,.bool o.ak,vL dd o.az.length df] g6 fun e1 i2 e2=>Op.pg 1 []<|At.rg 2 ?_
 refine Op.c0 (some 16) (yY _ _ _ e2.sub u hP) e2 ?_
 rintro _ i3 _ i4 ck e3 ⟨rfl,rfl⟩
 replace u:=u.mono ck
 replace hP:=hP.mono ck
 replace da:=da.mono ck
 replace ad:=ad.mono ck
 replace ae:=ae.mono ck
 refine Op.pg 2 [(17,.bool false)]<|At.dK 17 5<|At.rp 3 1 [(18,vL g4 list.length g5)]<|Op.c0 (some 19) (vM _ _ _ e3.sub u _ _ da (by(try dsimp only)<;>omega)) e3 ?_
 rintro _ i5 _ i6 dg d4 ⟨i7,rfl,U,rfl⟩
 obtain⟨a31,a3,rfl⟩:=U.aj
 replace u:=u.mono dg
 replace hP:=hP.mono dg
 replace ad:=ad.mono dg
 replace ae:=ae.mono dg
 refine Op.pg 6 [(0,vL a31 ((list.take 60).length) a3)]<|At.rg 8<|Op.la 25 5 21 0 9 [vI o.Kind,vS o.af,vL db o.Data.length dc,vI o.ai,vI o.aF,.bool o.aY,.bool o.aI,.bool o.ak,vL dd o.az.length df] (d4.ah 0 rfl)<|Op.c0 (some 22) (FT _ _ _ d4.sub u o _ ad _ ae 3 (by(try dsimp only)<;>omega) (by(try dsimp only)<;>omega)) d4 ?_
 rintro _ i8 _ i9 co e4 ⟨v37,jf,rfl,e5,e6,rfl⟩
 obtain⟨jj,jn,rfl⟩:=e5.aj
 obtain⟨jt,j1,rfl⟩:=e6.aj
 replace u:=u.mono co
 replace hP:=hP.mono co
 replace ad:=ad.mono co
 replace ae:=ae.mono co
 replace U:=U.mono co
 refine Op.c0 (some 23) (CV _ _ _ e4.sub u (bE o (3)) _ e5 _ e6 (by((try dsimp only)<;>(exact FU (by omega))))) e4 ?_
 rintro _ j2 _ kc c3 e7 ⟨kd,rfl,G,rfl⟩
 obtain⟨a51,d5,rfl⟩:=G.aj
 replace u:=u.mono c3
 replace hP:=hP.mono c3
 replace ad:=ad.mono c3
 replace ae:=ae.mono c3
 replace U:=U.mono c3
 refine Op.pg 7 [(7,vL a51 (((bA (bE o (3))).1).length) d5),(8,vI ((bA (bE o (3))).2))]<|At.rp 23 1 [(26,vL a31 ((list.take 60).length) a3)]<|Op.c1 27 (uk _ _ _ e7.sub u _ _ U (by((try dsimp only)<;>((have h9:=cP list;omega)))) (by((try dsimp only)<;>(exact fun q hq=>(by have:=ho q (yZ hq);omega))))) e7 fun kh ca=>Op.px 1 [(28,.bool (fN (list.take 60)))] ?_
 refine Op.wb (fN (list.take 60)) 28 (fun kk=>?_) fun kl=>?_
 ·refine Op.pg 8 [(48,.bool true)]<|At.bW 48 9<|At.go 10 1 [(6,.bool true)] ?_
  exact At.rt (.bool true) (hR ca.drop ⟨(aS (by rfl)),rfl⟩)
 refine Op.px 4 [(32,.bool (decide (client<0)))] (Op.wd (client<0) 32 (fun km=>?_) (fun kv=>?_))
 ·refine Op.pg 8 [(48,.bool true)]<|At.bW 48 9<|At.go 10 1 [(6,.bool true)] ?_
  exact At.rt (.bool true) (hR ca.drop ⟨(aS (by rfl)),rfl⟩)
 refine Op.px 4 [(36,.bool (decide (client>7)))] (Op.wd (client>7) 36 (fun kw=>?_) (fun kx=>?_))
 ·refine Op.pg 8 [(48,.bool true)]<|At.bW 48 9<|At.go 10 1 [(6,.bool true)] ?_
  exact At.rt (.bool true) (hR ca.drop ⟨(aS (by rfl)),rfl⟩)
 refine Op.la 25 5 37 0 9 [vI o.Kind,vS o.af,vL db o.Data.length dc,vI o.ai,vI o.aF,.bool o.aY,.bool o.aI,.bool o.ak,vL dd o.az.length df] (ca.ah 0 rfl)<|Op.c1 38 (uj _ _ _ ca.sub u o _ ad _ ae 2000 3 (by(try dsimp only)<;>omega) (by(try dsimp only)<;>omega) (by(try dsimp only)<;>omega)) ca fun kA cb=>Op.px 2 [(40,.bool (jH o (2000) (3)))] (Op.wb (jH o (2000) (3)) 40 (fun k0=>?_) (fun k1=>?_))
 ·refine Op.pg 8 [(48,.bool true)]<|At.bW 48 9<|At.go 10 1 [(6,.bool true)] ?_
  exact At.rt (.bool true) (hR cb.drop ⟨(aS (by rfl)),rfl⟩)
 refine Op.px 4 [(44,.bool (((bA (bE o (3))).2) != 0))] (Op.wb (((bA (bE o (3))).2) != 0) 44 (fun e8=>?_) (fun e9=>?_))
 ·replace e8:=gY e8
  refine Op.pg 8 [(48,.bool true)]<|At.bW 48 9<|At.go 10 1 [(6,.bool true)] ?_
  exact At.rt (.bool true) (hR cb.drop ⟨(aS (by rfl)),rfl⟩)
 replace e9:=jk e9
 refine Op.px 1 [(45,vP e1)]<|Op.l1 3 45 46 0 (vI o.Kind) (cb.ah 0 rfl)<|Op.pg 8 [(48,.bool (o.Kind==1))] (At.fd (o.Kind=1) 48 9 11 (fun k2=>?_) (fun k3=>?_))
 ·exact At.gr 10 1 6 (.bool true) (hR cb.drop ⟨(aS (by rfl)),rfl⟩)
 refine At.rg 2<|Op.c0 (some 49) (xm _ _ _ cb.sub u) cb ?_
 rintro _ g7 _ k4 dj g8 ⟨am,k5,rfl,g9,rfl⟩
 replace u:=u.mono dj
 replace hP:=hP.mono dj
 replace U:=U.mono dj
 replace G:=G.mono dj
 refine Op.pg 12 [(9,vP am)]<|At.go 13 2 [(51,.bool false)]<|At.dK 51 16<|At.go 17 1 [(10,vI 0)] ?_
 have he:∀(m:Nat) (dk:GH) (bo:aM g7 dk) (y:Sp) (i:Int) (d6:ay) (d7:ax) (hm:(list.take 60).length-i.toNat<m) (h0:0≤i) (h1:i≤(list.take 60).length) (hK:ec i y) (hA:qy client y) (a7:cu dk am y d6) (aw:St h g (aV []) dk [d6,[(e1,Obj.cells #[vI o.Kind,vS o.af,vL db o.Data.length dc,vI o.ai,vI o.aF,.bool o.aY,.bool o.aI,.bool o.ak,vL dd o.az.length df] 25 (0,0))]] d7),At (bX prog B 10 f10 R) [] 17 [(0,vL a31 ((list.take 60).length) a3),(1,vI client),(7,vL a51 (((bA (bE o (3))).1).length) d5),(9,vP am),(10,vI i)] d7:=by
  intro m;induction m with
  |zero=>intros;omega
  |succ m fa=>
   intro dk bo y i d6 d7 hm h0 h1 hK hA a7 aw
   replace u:=u.mono bo
   replace hP:=hP.mono bo
   replace U:=U.mono bo
   replace G:=G.mono bo
   refine At.go 18 4 [(55,.bool (decide (i<((list.take 60).length:Int))))] (At.fd (i<((list.take 60).length:Int)) 55 19 23 (fun k6=>?_) (fun k7=>?_))
   ·refine At.rp 7 2 [(58,vL a31 ((list.take 60).length) a3),(59,vI i)] ?_
    obtain⟨D,ce⟩:=cG (list.take 60) i
    obtain⟨cf,a4,k8,lc,hf,hh,d8⟩:=av.bF U _ ce
    cases hf
    refine Op.iq 52 71 13 144 ((list.take 60).length) a3 58 59 60 cf a4 i ?_
    obtain⟨lh,li,lj,hj,hn,hr,d8⟩:=d8
    obtain⟨lk,n105,rfl⟩:=hj.aj
    obtain⟨ll,lm,rfl⟩:=hn.aj
    obtain⟨ln,lr,rfl⟩:=hr.aj
    refine Op.px 1 [(61,vQ cf (a4+i.toNat*13))] (Op.l1 3 61 62 (a4+i.toNat*13) (vI D.Client) (aw.sub _ _ hh) ?_ (hv:=c_ d8 0 rfl))
    refine Op.pg 20 [(64,.bool (D.Client != client))] (At.fn (D.Client=client) 64 21 22 (fun lv=>?_) (fun lw=>?_))
    ·refine At.oa (by kernel_rfl) (fun _=>False) [(0,true),(1,true),(2,true),(3,true),(6,true),(7,true),(8,true),(4,true),(9,true),(5,false),(10,false),(1011,false),(11,false)] (by kernel_rfl)<|Op.px 3 [(65,vP am),(66,vL (some ⟨cf,a4,none⟩) ((list.take 60).length) a3),(67,vI i)] ?_
     obtain⟨lx,ly,lA,lL,hs,bt,d9⟩:=av.bF U _ ce
     cases hs
     refine Op.iq 52 71 13 144 ((list.take 60).length) a3 66 67 68 cf a4 i ?_
     obtain⟨lO,l0,l2,fg,fi,fj,d9⟩:=d9
     obtain⟨a127,n128,rfl⟩:=fg.aj
     obtain⟨hu,hw,rfl⟩:=fi.aj
     obtain⟨a131,hy,rfl⟩:=fj.aj
     refine Op.px 2 [(71,vL (some ⟨cf,a4,none⟩) ((list.take 60).length) a3),(72,vI i)] ?_
     obtain⟨l3,l4,l8,ma,hz,b3,ed⟩:=av.bF U _ ce
     cases hz
     refine Op.iq 52 71 13 144 ((list.take 60).length) a3 71 72 73 cf a4 i ?_
     obtain⟨md,mf,v146,dl,dp,dq,ed⟩:=ed
     obtain⟨a148,hB,rfl⟩:=dl.aj
     obtain⟨hC,n151,rfl⟩:=dp.aj
     obtain⟨hD,hE,rfl⟩:=dq.aj
     refine Op.iU (T:=71) (x:=68) (o:=a4+i.toNat*13) (d:=69) (n:=13) (vs:=[vI D.Client,vI D.bn,vI D.aX,vI D.Op.Kind,vS D.Op.af,vL a127 D.Op.Data.length n128,vI D.Op.ai,vI D.Op.aF,.bool D.Op.aY,.bool D.Op.aI,.bool D.Op.ak,vL hu D.Op.az.length hw,vL a131 D.cS.length hy]) (by kernel_rfl) (by kernel_rfl) (by kernel_rfl) (fun h=>h) (aw.sub _ _ bt) d9 rfl<|Op.iU (T:=71) (x:=73) (o:=a4+i.toNat*13) (d:=74) (n:=13) (vs:=[vI D.Client,vI D.bn,vI D.aX,vI D.Op.Kind,vS D.Op.af,vL a148 D.Op.Data.length hB,vI D.Op.ai,vI D.Op.aF,.bool D.Op.aY,.bool D.Op.aI,.bool D.Op.ak,vL hC D.Op.az.length n151,vL hD D.cS.length hE]) (by kernel_rfl) (by kernel_rfl) (by kernel_rfl) (fun h=>h) (aw.sub _ _ b3) ed rfl<|Op.c0 (some 70) (uo _ _ _ aw.sub u D _ fg _ fi _ fj) aw ?_
     rintro _ mi _ ml a8 fl ⟨mp,rfl,du,rfl⟩
     obtain⟨mx,my,rfl⟩:=du.aj
     replace bt:=a8 _ _ bt
     replace b3:=a8 _ _ b3
     replace u:=u.mono a8
     replace hP:=hP.mono a8
     replace dl:=dl.mono a8
     replace dp:=dp.mono a8
     replace dq:=dq.mono a8
     replace a7:=a7.mono a8
     refine Op.c0 (some 75) (vU _ _ _ fl.sub u D _ dl _ dp _ dq (by((try dsimp only)<;>((have h9:=(nJ (show fN (list.take 60)=false by assumption) _ (cj ce));omega)))) (by((try dsimp only)<;>((have h9:=(nJ (show fN (list.take 60)=false by assumption) _ (cj ce));omega))))) fl ?_
     rintro _ m0 _ m1 ch ee ⟨v164,rfl,fp,rfl⟩
     obtain⟨m2,m3,rfl⟩:=fp.aj
     replace bt:=ch _ _ bt
     replace b3:=ch _ _ b3
     replace u:=u.mono ch
     replace hP:=hP.mono ch
     replace du:=du.mono ch
     replace a7:=a7.mono ch
     refine Op.FV (by kernel_rfl)<|Op.cl (some 76) 1 ee (pR _ _ _ ee.sub u am y _ a7 (aW D) _ du _ _ fp hP (by((try dsimp only)<;>(exact hK.ok.wk (by have h9:=cP list;omega)))) (by((try dsimp only)<;>(exact bQ (vV (nJ (show fN (list.take 60)=false by assumption) _ (cj ce)).2.2) (by decide)))) (by((try dsimp only)<;>(exact hK.ct (by have h9:=cP list;omega)))) (by(try dsimp only)<;>exact hK.fD) (by((try dsimp only)<;>(exact pS hK h0 (by have h9:=cP list;omega)))) (St.pt 1 ee)) ?_
     rintro _ m4 _ m5 ef hF ⟨m6,m7,m8,rfl,hG,hH,rfl⟩
     obtain⟨m9,na,rfl⟩:=hG.aj
     replace bt:=ef _ _ bt
     replace b3:=ef _ _ b3
     replace hP:=hP.mono ef
     refine Op.gt 22<|At.rp 3 1 [(56,vI i)]<|Op.cE 57 (i+1) (by omega) (by(have h9:=cP list;omega))<|Op.pg 17 [(10,vI (i+1))] ?_
     have hI:=(hF.aa 0 rfl).aa 1 rfl
     have hJ:=hI.drop
     exact At.ke (fa _ (aM.trans bo (by repeat (first|assumption|apply aM.trans))) (bD y (aW D) (bC D)) (i+1) _ _ (by omega) (by omega) (by omega) (by exact hK.iX h0 (by have h9:=cP list;omega)) (by exact hA.iX hK ‹_›) hH hJ)
    refine At.rp 3 1 [(56,vI i)]<|Op.cE 57 (i+1) (by omega) (by(have h9:=cP list;omega)) ?_
    exact Op.pg 17 [(10,vI (i+1))] (At.ke (fa _ bo y (i+1) _ _ (by omega) (by omega) (by omega) (by exact hK.A2) (by exact hA) a7 aw))
   refine At.rp 4 1 [(77,vP am)]<|Op.cl (some 78) 1 aw (pT _ _ _ aw.sub u am y _ a7 (by((try dsimp only)<;>(exact hK.ok.pU (by have h9:=cP list;omega)))) (St.pt 1 aw)) ?_
   rintro _ nb _ nd eh hL ⟨nf,nm,nn,no,np,nu,nx,nz,n0,n3,oi,rfl,fr,dv,ci,a9,a0,V,rfl⟩
   obtain⟨ej,n189,rfl⟩:=fr.aj
   obtain⟨em,en,rfl⟩:=dv.aj
   obtain⟨ep,er,rfl⟩:=ci.aj
   obtain⟨et,ex,rfl⟩:=a9.aj
   obtain⟨b4,b5,rfl⟩:=a0.aj
   replace u:=u.mono eh
   replace hP:=hP.mono eh
   replace G:=G.mono eh
   refine Op.al 11 81 #[vI 0,vI 0,vN,vN,vN,vN,vN] hL fun dC oj hN=>Op.sg 81 11 78 0 0 #[vI ((aP y).aX),vI ((aP y).aZ),vL ej (((aP y).bZ).length) n189,vL em (((aP y).cJ).length) en,vL ep (((aP y).cr).length) er,vL et (((aP y).aT).length) ex,vL b4 (((aP y).bL).length) b5] hN (fun _=>trivial) fun ol hO=>Op.gt 24 ?_
   obtain⟨or,hQ,bc,I⟩:=aJ.freeze fr (hO.aa 2 rfl)
   replace dv:=dv.mono bc
   replace ci:=ci.mono bc
   replace a9:=a9.mono bc
   replace a0:=a0.mono bc
   replace u:=u.mono bc
   replace hP:=hP.mono bc
   replace G:=G.mono bc
   replace V:=V.mono bc
   obtain⟨o3,hS,bd,J⟩:=aJ.freeze dv (hQ.aa 2 rfl)
   replace ci:=ci.mono bd
   replace a9:=a9.mono bd
   replace a0:=a0.mono bd
   replace u:=u.mono bd
   replace hP:=hP.mono bd
   replace I:=I.mono bd
   replace G:=G.mono bd
   replace V:=V.mono bd
   obtain⟨o4,hT,be,O⟩:=aJ.freeze ci (hS.aa 2 rfl)
   replace a9:=a9.mono be
   replace a0:=a0.mono be
   replace u:=u.mono be
   replace hP:=hP.mono be
   replace I:=I.mono be
   replace J:=J.mono be
   replace G:=G.mono be
   replace V:=V.mono be
   obtain⟨pa,hV,bi,X⟩:=aJ.freeze a9 (hT.aa 2 rfl)
   replace a0:=a0.mono bi
   replace u:=u.mono bi
   replace hP:=hP.mono bi
   replace I:=I.mono bi
   replace J:=J.mono bi
   replace O:=O.mono bi
   replace G:=G.mono bi
   replace V:=V.mono bi
   obtain⟨ft,hW,bj,ab⟩:=aJ.freeze a0 (hV.aa 2 rfl)
   replace u:=u.mono bj
   replace hP:=hP.mono bj
   replace I:=I.mono bj
   replace J:=J.mono bj
   replace O:=O.mono bj
   replace X:=X.mono bj
   replace G:=G.mono bj
   replace V:=V.mono bj
   obtain⟨dE,a1⟩:=St.freeze (hW.aa 0 rfl)
   have Y:=iN (g:=ft) dC (.cells #[vI ((aP y).aX),vI ((aP y).aZ),vL ej (((aP y).bZ).length) n189,vL em (((aP y).cJ).length) en,vL ep (((aP y).cr).length) er,vL et (((aP y).aT).length) ex,vL b4 (((aP y).bL).length) b5] 81 (0,0))
   generalize hX:dy ft _=pb at dE a1 Y;clear hX
   replace u:=u.mono a1
   replace hP:=hP.mono a1
   replace I:=I.mono a1
   replace J:=J.mono a1
   replace O:=O.mono a1
   replace X:=X.mono a1
   replace ab:=ab.mono a1
   replace G:=G.mono a1
   replace V:=V.mono a1
   refine At.rp 10 4 [(80,vP am),(82,.agg #[vI client,vI 1,vI 0,vN]),(83,vL a51 (((bA (bE o (3))).1).length) d5)]<|Op.cl (some 84) 1 dE (pR _ _ _ dE.sub u am y _ V (⟨client,1,0,[]⟩:bN) _ (av.nil _ _ _) _ _ G hP (by((try dsimp only)<;>(exact hK.ok.wk (by have h9:=cP list;omega)))) (by((try dsimp only)<;>(exact bQ (CW _) (by decide)))) (by((try dsimp only)<;>(exact hK.ct (by have h9:=cP list;omega)))) (by(try dsimp only)<;>exact hK.fD) (by((try dsimp only)<;>(exact pS hK h0 (by have h9:=cP list;omega)))) (St.pt 1 dE)) ?_
   rintro _ pc _ pd bk hY ⟨pf,ph,pj,rfl,fv,c4,rfl⟩
   obtain⟨fw,fx,rfl⟩:=fv.aj
   replace u:=u.mono bk
   replace hP:=hP.mono bk
   replace I:=I.mono bk
   replace J:=J.mono bk
   replace O:=O.mono bk
   replace X:=X.mono bk
   replace ab:=ab.mono bk
   replace Y:=bk _ _ Y
   refine Op.pg 25 [(12,vL fw ((bh y (⟨client,1,0,[]⟩:bN) ((bA (bE o (3))).1)).length) fx),(13,.bool (dQ y (⟨client,1,0,[]⟩:bN)))]<|At.rp 8 1 [(88,vL fw ((bh y (⟨client,1,0,[]⟩:bN) ((bA (bE o (3))).1)).length) fx)] ?_
   obtain⟨pl,f0,a5,hZ⟩:=aJ.freeze fv (hY.aa 1 rfl)
   replace u:=u.mono a5
   replace hP:=hP.mono a5
   replace I:=I.mono a5
   replace J:=J.mono a5
   replace O:=O.mono a5
   replace X:=X.mono a5
   replace ab:=ab.mono a5
   replace c4:=c4.mono a5
   replace Y:=a5 _ _ Y
   refine Op.c0 (some 89) (CX _ _ _ f0.sub u _ _ hZ (by(try dsimp only)<;>exact A5 hK.ok)) f0 ?_
   rintro _ pm _ po a6 h2 ⟨pu,pv,pw,rfl,h3,h4,h5,rfl⟩
   obtain⟨f1,n263,rfl⟩:=h3.aj
   obtain⟨f2,n267,rfl⟩:=h4.aj
   obtain⟨eA,n271,rfl⟩:=h5.aj
   replace u:=u.mono a6
   replace hP:=hP.mono a6
   replace I:=I.mono a6
   replace J:=J.mono a6
   replace O:=O.mono a6
   replace X:=X.mono a6
   replace ab:=ab.mono a6
   replace c4:=c4.mono a6
   replace Y:=a6 _ _ Y
   refine Op.px 3 [(90,.agg #[vI (((bw (bh y (⟨client,1,0,[]⟩:bN) ((bA (bE o (3))).1))).1).Code),vI (((bw (bh y (⟨client,1,0,[]⟩:bN) ((bA (bE o (3))).1))).1).aZ),vI (((bw (bh y (⟨client,1,0,[]⟩:bN) ((bA (bE o (3))).1))).1).At),vS (((bw (bh y (⟨client,1,0,[]⟩:bN) ((bA (bE o (3))).1))).1).ag.af),vL f1 ((((bw (bh y (⟨client,1,0,[]⟩:bN) ((bA (bE o (3))).1))).1).ag.Data).length) n263,vI (((bw (bh y (⟨client,1,0,[]⟩:bN) ((bA (bE o (3))).1))).1).ag.ai),vI (((bw (bh y (⟨client,1,0,[]⟩:bN) ((bA (bE o (3))).1))).1).ag.aD),vI (((bw (bh y (⟨client,1,0,[]⟩:bN) ((bA (bE o (3))).1))).1).ag.Next),vI (((bw (bh y (⟨client,1,0,[]⟩:bN) ((bA (bE o (3))).1))).1).ag.aL),vL f2 ((((bw (bh y (⟨client,1,0,[]⟩:bN) ((bA (bE o (3))).1))).1).bP).length) n267,vL eA ((((bw (bh y (⟨client,1,0,[]⟩:bN) ((bA (bE o (3))).1))).1).aT).length) n271]),(91,vI ((bw (bh y (⟨client,1,0,[]⟩:bN) ((bA (bE o (3))).1))).2))]<|Op.al 14 43 #[vI 0,vI 0,vI 0,vS [],vN,vI 0,vI 0,vI 0,vI 0,vN,vN] h2 fun f3 py h6=>Op.sg 43 14 90 0 0 #[vI (((bw (bh y (⟨client,1,0,[]⟩:bN) ((bA (bE o (3))).1))).1).Code),vI (((bw (bh y (⟨client,1,0,[]⟩:bN) ((bA (bE o (3))).1))).1).aZ),vI (((bw (bh y (⟨client,1,0,[]⟩:bN) ((bA (bE o (3))).1))).1).At),vS (((bw (bh y (⟨client,1,0,[]⟩:bN) ((bA (bE o (3))).1))).1).ag.af),vL f1 ((((bw (bh y (⟨client,1,0,[]⟩:bN) ((bA (bE o (3))).1))).1).ag.Data).length) n263,vI (((bw (bh y (⟨client,1,0,[]⟩:bN) ((bA (bE o (3))).1))).1).ag.ai),vI (((bw (bh y (⟨client,1,0,[]⟩:bN) ((bA (bE o (3))).1))).1).ag.aD),vI (((bw (bh y (⟨client,1,0,[]⟩:bN) ((bA (bE o (3))).1))).1).ag.Next),vI (((bw (bh y (⟨client,1,0,[]⟩:bN) ((bA (bE o (3))).1))).1).ag.aL),vL f2 ((((bw (bh y (⟨client,1,0,[]⟩:bN) ((bA (bE o (3))).1))).1).bP).length) n267,vL eA ((((bw (bh y (⟨client,1,0,[]⟩:bN) ((bA (bE o (3))).1))).1).aT).length) n271] h6 (fun _=>trivial) fun pA ib=>Op.pg 26 [(8,vI ((bw (bh y (⟨client,1,0,[]⟩:bN) ((bA (bE o (3))).1))).2))] ?_
   refine At.rp 4 1 [(92,vP am)] ?_
   have eB:=(ib.aa 0 rfl).aa 1 rfl
   refine Op.cl (some 93) 1 eB (pT _ _ _ eB.sub u am (bD y (⟨client,1,0,[]⟩:bN) ((bA (bE o (3))).1)) _ c4 (by((try dsimp only)<;>(exact(hK.iX h0 (by have h9:=cP list;omega)).ok.pU (by have h9:=cP list;omega)))) (St.pt 1 eB)) ?_
   rintro _ pB _ pC bm ih ⟨pD,c5,p0,c6,p1,c8,p2,c9,p3,p8,qr,rfl,f4,f5,f6,f7,ii,q0,rfl⟩
   obtain⟨dT,n286,rfl⟩:=f4.aj
   obtain⟨d0,d1,rfl⟩:=f5.aj
   obtain⟨d2,n296,rfl⟩:=f6.aj
   obtain⟨d3,n301,rfl⟩:=f7.aj
   obtain⟨f8,n306,rfl⟩:=ii.aj
   replace u:=u.mono bm
   replace hP:=hP.mono bm
   replace I:=I.mono bm
   replace J:=J.mono bm
   replace O:=O.mono bm
   replace X:=X.mono bm
   replace ab:=ab.mono bm
   replace Y:=bm _ _ Y
   refine Op.al 15 81 #[vI 0,vI 0,vN,vN,vN,vN,vN] ih fun eE q1 ik=>Op.sg 81 15 93 0 0 #[vI ((aP (bD y (⟨client,1,0,[]⟩:bN) ((bA (bE o (3))).1))).aX),vI ((aP (bD y (⟨client,1,0,[]⟩:bN) ((bA (bE o (3))).1))).aZ),vL dT (((aP (bD y (⟨client,1,0,[]⟩:bN) ((bA (bE o (3))).1))).bZ).length) n286,vL d0 (((aP (bD y (⟨client,1,0,[]⟩:bN) ((bA (bE o (3))).1))).cJ).length) d1,vL d2 (((aP (bD y (⟨client,1,0,[]⟩:bN) ((bA (bE o (3))).1))).cr).length) n296,vL d3 (((aP (bD y (⟨client,1,0,[]⟩:bN) ((bA (bE o (3))).1))).aT).length) n301,vL f8 (((aP (bD y (⟨client,1,0,[]⟩:bN) ((bA (bE o (3))).1))).bL).length) n306] ik (fun _=>trivial) fun q2 ar=>Op.gt 27<|At.rp 25 3 [(96,.bool (!(dQ y (⟨client,1,0,[]⟩:bN))))] ?_
   refine Op.wb (!(dQ y (⟨client,1,0,[]⟩:bN))) 96 (fun f9=>?_) fun gc=>?_
   ·replace f9:=(dG f9)
    refine Op.pg 28 [(118,.bool true)]<|At.bW 118 29<|At.go 30 1 [(6,.bool false)] ?_
    exact At.rt (.bool false) (hR ar.drop.drop.drop.drop.drop.drop.drop.drop.drop ⟨(aS (by exact Bool.noConfusion ((yW hK h0 (by have h9:=cP list;omega) hA ⟨by omega,by omega⟩ ‹_› ‹_›).1.symm.trans ‹_›))),rfl⟩)
   replace gc:=(dH gc)
   refine Op.px 4 [(100,.bool (((bw (bh y (⟨client,1,0,[]⟩:bN) ((bA (bE o (3))).1))).2) != 0))] (Op.wb (((bw (bh y (⟨client,1,0,[]⟩:bN) ((bA (bE o (3))).1))).2) != 0) 100 (fun ge=>?_) (fun gg=>?_))
   ·replace ge:=gY ge
    refine Op.pg 28 [(118,.bool true)]<|At.bW 118 29<|At.go 30 1 [(6,.bool false)] ?_
    exact At.rt (.bool false) (hR ar.drop.drop.drop.drop.drop.drop.drop.drop.drop ⟨(aS (by exact absurd (yW hK h0 (by have h9:=cP list;omega) hA ⟨by omega,by omega⟩ ‹_› ‹_›).2.1 ‹_›)),rfl⟩)
   replace gg:=jk gg
   refine Op.px 1 [(101,vP f3)]<|Op.l1 29 101 102 0 (vI (((bw (bh y (⟨client,1,0,[]⟩:bN) ((bA (bE o (3))).1))).1).Code)) (ar.ah 7 rfl)<|Op.px 3 [(105,.bool ((((bw (bh y (⟨client,1,0,[]⟩:bN) ((bA (bE o (3))).1))).1).Code) != 120))] (Op.wb ((((bw (bh y (⟨client,1,0,[]⟩:bN) ((bA (bE o (3))).1))).1).Code) != 120) 105 (fun gk=>?_) (fun gn=>?_))
   ·replace gk:=gY gk
    refine Op.pg 28 [(118,.bool true)]<|At.bW 118 29<|At.go 30 1 [(6,.bool false)] ?_
    exact At.rt (.bool false) (hR ar.drop.drop.drop.drop.drop.drop.drop.drop.drop ⟨(aS (by exact absurd (yW hK h0 (by have h9:=cP list;omega) hA ⟨by omega,by omega⟩ ‹_› ‹_›).2.2.1 ‹_›)),rfl⟩)
   replace gn:=jk gn
   refine Op.px 1 [(106,vQ f3 10)]<|Op.l1 41 106 107 10 (vL eA ((((bw (bh y (⟨client,1,0,[]⟩:bN) ((bA (bE o (3))).1))).1).aT).length) n271) (ar.ah 7 rfl)<|Op.px 4 [(111,.bool (((((bw (bh y (⟨client,1,0,[]⟩:bN) ((bA (bE o (3))).1))).1).aT).length:Int) != 0))] (Op.wb (((((bw (bh y (⟨client,1,0,[]⟩:bN) ((bA (bE o (3))).1))).1).aT).length:Int) != 0) 111 (fun gs=>?_) (fun g1=>?_))
   ·replace gs:=gY gs
    refine Op.pg 28 [(118,.bool true)]<|At.bW 118 29<|At.go 30 1 [(6,.bool false)] ?_
    exact At.rt (.bool false) (hR ar.drop.drop.drop.drop.drop.drop.drop.drop.drop ⟨(aS (by exact absurd (congrArg (fun l=>(List.length l:Int)) (yW hK h0 (by have h9:=cP list;omega) hA ⟨by omega,by omega⟩ ‹_› ‹_›).2.2.2.1) ‹_›)),rfl⟩)
   replace g1:=jk g1
   refine Op.px 1 [(112,vQ eE 1)]<|Op.l1 3 112 113 1 (vI ((aP (bD y (⟨client,1,0,[]⟩:bN) ((bA (bE o (3))).1))).aZ)) (ar.ah 0 rfl)<|Op.px 1 [(114,vQ dC 1)]<|Op.l1 3 114 115 1 (vI ((aP y).aZ)) (ar.sub _ _ Y) ?_
   refine Op.cE 116 (((aP y).aZ)+1) (by(have h9:(aP y).aZ≤i:=hK.cnt;have h8:0≤(aP y).aZ:=hK.ok.cn;have h7:=cP list;omega)) (by(have h9:(aP y).aZ≤i:=hK.cnt;have h8:0≤(aP y).aZ:=hK.ok.cn;have h7:=cP list;omega))<|Op.pg 28 [(118,.bool (((aP (bD y (⟨client,1,0,[]⟩:bN) ((bA (bE o (3))).1))).aZ) != (((aP y).aZ)+1)))] (At.fn (((aP (bD y (⟨client,1,0,[]⟩:bN) ((bA (bE o (3))).1))).aZ)=(((aP y).aZ)+1)) 118 29 31 (fun q3=>?_) (fun q4=>?_))
   ·exact At.gr 30 1 6 (.bool false) (hR ar.drop.drop.drop.drop.drop.drop.drop.drop.drop ⟨(aS (by exact absurd (FR hK h0 (by have h9:=cP list;omega) hA ⟨by omega,by omega⟩ ‹_› ‹_› rfl).1 ‹_›)),rfl⟩)
   refine At.rp 4 1 [(119,vQ dC 1)]<|Op.l1 3 119 120 1 (vI ((aP y).aZ)) (ar.sub _ _ Y)<|Op.px 1 [(121,vQ eE 1)]<|Op.s1 3 121 120 1 (vI ((aP y).aZ)) 0 #[vI ((aP (bD y (⟨client,1,0,[]⟩:bN) ((bA (bE o (3))).1))).aX),vI ((aP y).aZ),vL dT (((aP (bD y (⟨client,1,0,[]⟩:bN) ((bA (bE o (3))).1))).bZ).length) n286,vL d0 (((aP (bD y (⟨client,1,0,[]⟩:bN) ((bA (bE o (3))).1))).cJ).length) d1,vL d2 (((aP (bD y (⟨client,1,0,[]⟩:bN) ((bA (bE o (3))).1))).cr).length) n296,vL d3 (((aP (bD y (⟨client,1,0,[]⟩:bN) ((bA (bE o (3))).1))).aT).length) n301,vL f8 (((aP (bD y (⟨client,1,0,[]⟩:bN) ((bA (bE o (3))).1))).bL).length) n306] ar (fun _=>trivial) fun q5 g2=>?_
   refine Op.gt 32<|At.rp 4 1 [(122,vQ dC 6)]<|Op.l1 65 122 123 6 (vL b4 (((aP y).bL).length) b5) (g2.sub _ _ Y)<|Op.px 1 [(124,vQ eE 6)] ?_
   refine Op.s1 65 124 123 6 (vL b4 (((aP y).bL).length) b5) 0 #[vI ((aP (bD y (⟨client,1,0,[]⟩:bN) ((bA (bE o (3))).1))).aX),vI ((aP y).aZ),vL dT (((aP (bD y (⟨client,1,0,[]⟩:bN) ((bA (bE o (3))).1))).bZ).length) n286,vL d0 (((aP (bD y (⟨client,1,0,[]⟩:bN) ((bA (bE o (3))).1))).cJ).length) d1,vL d2 (((aP (bD y (⟨client,1,0,[]⟩:bN) ((bA (bE o (3))).1))).cr).length) n296,vL d3 (((aP (bD y (⟨client,1,0,[]⟩:bN) ((bA (bE o (3))).1))).aT).length) n301,vL b4 (((aP y).bL).length) b5] g2 (fun _=>trivial) fun q6 eI=>Op.gt 33<|At.rg 4<|Op.la 81 15 125 0 7 [vI ((aP (bD y (⟨client,1,0,[]⟩:bN) ((bA (bE o (3))).1))).aX),vI ((aP y).aZ),vL dT (((aP (bD y (⟨client,1,0,[]⟩:bN) ((bA (bE o (3))).1))).bZ).length) n286,vL d0 (((aP (bD y (⟨client,1,0,[]⟩:bN) ((bA (bE o (3))).1))).cJ).length) d1,vL d2 (((aP (bD y (⟨client,1,0,[]⟩:bN) ((bA (bE o (3))).1))).cr).length) n296,vL d3 (((aP (bD y (⟨client,1,0,[]⟩:bN) ((bA (bE o (3))).1))).aT).length) n301,vL b4 (((aP y).bL).length) b5] (eI.ah 0 rfl) ?_
   refine Op.la 81 11 126 0 7 [vI ((aP y).aX),vI ((aP y).aZ),vL ej (((aP y).bZ).length) n189,vL em (((aP y).cJ).length) en,vL ep (((aP y).cr).length) er,vL et (((aP y).aT).length) ex,vL b4 (((aP y).bL).length) b5] (eI.sub _ _ Y) ?_
   have il:=(((((eI.aa 1 rfl).aa 1 rfl).aa 5 rfl).aa 5 rfl).aa 5 rfl).aa 5 rfl
   have b6:=St.mg 4 il
   have b8:=b6.gz
   have io:=f4.lH (c:=(c5++(c6++(c8++c9)):ay)) b6 (by intro p hp;simp only[dP,hp,iF,iG])
   have ip:=f5.lH (c:=(c5++(c6++(c8++c9)):ay)) b6 (by intro p hp;simp only[dP,hp,iF,iG])
   have is:=f6.lH (c:=(c5++(c6++(c8++c9)):ay)) b6 (by intro p hp;simp only[dP,hp,iF,iG])
   have iv:=f7.lH (c:=(c5++(c6++(c8++c9)):ay)) b6 (by intro p hp;simp only[dP,hp,iF,iG])
   refine Op.le (some 127) 0 b6 (A4 _ _ _ b6.iO (u.mono b8) (⟨(aP (bD y (⟨client,1,0,[]⟩:bN) ((bA (bE o (3))).1))).aX,(aP y).aZ,(aP (bD y (⟨client,1,0,[]⟩:bN) ((bA (bE o (3))).1))).bZ,(aP (bD y (⟨client,1,0,[]⟩:bN) ((bA (bE o (3))).1))).cJ,(aP (bD y (⟨client,1,0,[]⟩:bN) ((bA (bE o (3))).1))).cr,(aP (bD y (⟨client,1,0,[]⟩:bN) ((bA (bE o (3))).1))).aT,(aP y).bL⟩:gu) _ io _ ip _ is _ iv _ (ab.mono b8) (aP y) _ (I.mono b8) _ (J.mono b8) _ (O.mono b8) _ (X.mono b8) _ (ab.mono b8) (by((try dsimp only)<;>(exact Mf hK (hK.iX h0 (by have h9:=cP list;omega)))))) (fun _ _ _ hp=>by obtain⟨_,eJ,_⟩:=hp;exact eJ) ?_ (hM:=(fun _ _ h=>absurd h (dB _)))
   rintro _ _ ra i0 ⟨rfl,eJ,rfl⟩;clear eJ
   have i1:=St.sp [c5,c6,c8,c9] i0
   exact Op.pr 34 6 (.bool (decide ((⟨(aP (bD y (⟨client,1,0,[]⟩:bN) ((bA (bE o (3))).1))).aX,(aP y).aZ,(aP (bD y (⟨client,1,0,[]⟩:bN) ((bA (bE o (3))).1))).bZ,(aP (bD y (⟨client,1,0,[]⟩:bN) ((bA (bE o (3))).1))).cJ,(aP (bD y (⟨client,1,0,[]⟩:bN) ((bA (bE o (3))).1))).cr,(aP (bD y (⟨client,1,0,[]⟩:bN) ((bA (bE o (3))).1))).aT,(aP y).bL⟩:gu)=(aP y)))) (hR i1.drop.drop.drop.drop.drop.drop.drop.drop.drop ⟨(aS (by exact eu (Me hK h0 (by have h9:=cP list;omega) hA ⟨by omega,by omega⟩ ‹_› ‹_› rfl))),rfl⟩)
 exact At.ke (he _ _ (aM.refl _) mL 0 _ _ (bM _) (by omega) (by omega) (by exact ec.new) (by exact qy.new) g9 g8)
end Go.Proofs.YtceekbnihfckeaaGreatDoor.Sw
