/- Lemmas for laws of this seat. -/
import Derived.Test.YtdinkjbfgcfccaaGreatDoorPBK
set_option maxHeartbeats 4000000
namespace Go.Proofs.YtdinkjbfgcfccaaGreatDoor.Sw
open Go.Proofs.Tryz
set_option linter.unusedVariables false
set_option linter.unusedSimpArgs false
set_option linter.deprecated false
open Go
set_option linter.defProp false
def Iv:=@List.not_any_eq_all_not
def Df:=@List.getD_eq_getElem?_getD
def zP:=@List.drop_left
def Dg:=@Int.toNat_natCast
def bE (k:Int):F9:=⟨decide (3≤k)&&decide (k≤7),decide (k=3)||decide (k=5),decide (k=4)||decide (k=5),decide (k=1),decide (k=3),decide (k=6)||decide (k=7),decide (k=8)⟩
def lR (k:Int):Bool:=decide (1≤k)&&decide (k≤9)
theorem Pq {k:Int} (h:lR k=false):bE k=⟨false,false,false,false,false,false,false⟩:=by
  unfold lR at h
  unfold bE
  simp only[rD,jE] at h
  simp only[F9.mk.injEq,rD,wR,jE]
  omega
theorem Iw {k:Int} (h1:¬k=1) (h2:¬k=2) (h3:¬k=3) (h4:¬k=4) (h5:¬k=5) (h6:¬k=6) (h7:¬k=7) (h8:¬k=8) (h9:¬k=9):lR k=false:=by
  unfold lR
  simp only[rD,jE]
  omega
def rA (o:aR) (inner:Bool):Bool:=lR o.ah&&(!inner||((bE o.ah).make||(bE o.ah).jI))
def nB (o:aR):Bool:=(bE o.ah).ec||o.af==[]
def mW (o:aR):Bool:=(bE o.ah).data||(o.Data.length:Int)==0
def mX (o:aR):Bool:=(bE o.ah).jI||o.ai==0
def mY (o:aR):Bool:=(bE o.ah).dF||o.aI==0
def lS (o:aR):Bool:=(bE o.ah).make||(!o.aV&&!o.aK)
def mZ (o:aR):Bool:=(bE o.ah).watch||!o.au
def mw (o:aR):Bool:=(bE o.ah).ops||(o.aB.length:Int)==0
def rC (o:aR):Bool:=decide (-1≤o.ai)&&(decide (o.ai<1099511627776)&&(decide (0≤o.aI)&&(decide (o.aI<1099511627776)&&decide ((o.aB.length:Int)≤4))))
def lg (o:aR) (inner:Bool):Bool:=rA o inner&&(nB o&&(mW o&&(mX o&&(mY o&&(lS o&&(mZ o&&(mw o&&rC o)))))))
mutual
def dh (inner:Bool):aR→Bool
  |⟨k,p,u,D,sp,b,G,w,ops⟩=>lg ⟨k,p,u,D,sp,b,G,w,ops⟩ inner&&xy ops
def xy:List aR→Bool
  |[]=>true
  |x::xs=>dh true x&&xy xs
end
theorem Ix:∀xs:List aR,xy xs=xs.all (dh true)
  |[]=>by rw[xy,me]
  |x::xs=>by rw[xy,jD,Ix xs]
theorem mz (inner:Bool) (o:aR):dh inner o=(lg o inner&&o.aB.all (dh true)):=by
  obtain⟨k,p,u,D,sp,b,G,w,ops⟩:=o
  rw[dh,Ix]
section
variable {o:aR} {inner:Bool}
theorem Iy (h:rA o inner=false):dh inner o=false:=by rw[mz,lg,h];rfl
theorem Pr (h:nB o=false):dh inner o=false:=by rw[mz,lg,h];simp
theorem Pt (h:mW o=false):dh inner o=false:=by rw[mz,lg,h];simp
theorem Pu (h:mX o=false):dh inner o=false:=by rw[mz,lg,h];simp
theorem Pv (h:mY o=false):dh inner o=false:=by rw[mz,lg,h];simp
theorem Iz (h:lS o=false):dh inner o=false:=by rw[mz,lg,h];simp
theorem Pw (h:mZ o=false):dh inner o=false:=by rw[mz,lg,h];simp
theorem Px (h:mw o=false):dh inner o=false:=by rw[mz,lg,h];simp
theorem xz (h:rC o=false):dh inner o=false:=by rw[mz,lg,h];simp
theorem Py (hA:rA o inner=true) (h1:nB o=true) (h2:mW o=true) (h3:mX o=true) (h4:mY o=true) (h5:lS o=true) (h6:mZ o=true) (h7:mw o=true) (hC:rC o=true):
    (!o.aB.any fun x=>!dh true x)=dh inner o:=by
  rw[mz,lg,hA,h1,h2,h3,h4,h5,h6,h7,hC]
  simp only[lK]
  rw[Iv]
  simp
theorem xA (h:o.ai< -1∨o.ai≥1099511627776∨o.aI<0∨o.aI≥1099511627776∨(o.aB.length:Int)>4):rC o=false:=by
  unfold rC
  simp only[rD,jE]
  omega
theorem Pz (h1:¬o.ai< -1) (h2:¬o.ai≥1099511627776) (h3:¬o.aI<0) (h4:¬o.aI≥1099511627776) (h5:¬(o.aB.length:Int)>4):rC o=true:=by
  unfold rC
  simp only[bZ,cN]
  omega
theorem nC (h:dh inner o=true):(1≤o.ah∧o.ah≤9)∧(-1≤o.ai∧o.ai<1099511627776)∧(0≤o.aI∧o.aI<1099511627776)∧o.aB.length≤4∧∀x∈o.aB,dh true x=true:=by
  rw[mz,lg] at h
  simp only[bZ,gx] at h
  obtain⟨⟨hA,_,_,_,_,_,_,_,hC⟩,u⟩:=h
  unfold rA lR at hA
  unfold rC at hC
  simp only[bZ,cN] at hA hC
  exact⟨hA.1,⟨hC.1,hC.2.1⟩,⟨hC.2.2.1,hC.2.2.2.1⟩,by omega,u⟩
end
def gy (o:aR):Int:=(if o.aV then 1 else 0)+(if o.aK then 2 else 0)+(if o.au then 4 else 0)
def iw (o:aR):List Int:=[o.ah,o.ai+1,o.aI,gy o]
mutual
def bR:aR→aj×Int
  |⟨k,p,u,D,sp,b,G,w,ops⟩=>if (ju ops).2≠0 then ([],(ju ops).2) else b7 ((cr (iw ⟨k,p,u,D,sp,b,G,w,ops⟩)).1::p::u::(ju ops).1)
def ju:List aR→List aj×Int
  |[]=>([],0)
  |x::xs=>if (bR x).2≠0 then ([],(bR x).2) else ((bR x).1::(ju xs).1,(ju xs).2)
end
theorem vb (o:aR):bR o=if (ju o.aB).2≠0 then ([],(ju o.aB).2) else b7 ((cr (iw o)).1::o.af::o.Data::(ju o.aB).1):=by
  obtain⟨k,p,u,D,sp,b,G,w,ops⟩:=o
  rw[bR]
theorem zQ (x:aR) (xs:List aR):ju (x::xs)=if (bR x).2≠0 then ([],(bR x).2) else ((bR x).1::(ju xs).1,(ju xs).2):=by rw[ju]
def bQ (o:aR):aj×Int:=if dh false o=false then ([],130) else if (bR o).2≠0∨1024<(bR o).1.length then ([],130) else ((bR o).1,0)
mutual
def cU:aR→Nat
  |⟨_,p,u,_,_,_,_,_,ops⟩=>1+p.length+u.length+gl ops
def gl:List aR→Nat
  |[]=>0
  |x::xs=>cU x+gl xs
end
theorem tG (x:aR):cU x=1+x.af.length+x.Data.length+gl x.aB:=by
  obtain⟨k,p,u,D,sp,b,G,w,ops⟩:=x
  rw[cU]
theorem Dh:∀{xs:List aR} {x:aR},x∈xs→cU x≤gl xs
  |y::xs,x,h=>by
   rw[gl]
   rcases eO.1 h with rfl|h
   · omega
   · have:=Dh h;omega
theorem IA:∀xs:List aR,xs.length≤gl xs
  |[]=>eX _
  |x::xs=>by
   rw[gl,bJ]
   have:=IA xs
   have:=tG x
   omega
theorem iP {x y:aR} (h:y∈x.aB):cU y<cU x:=by
  have:=Dh h
  rw[tG x]
  omega
theorem fD (x:aR):x.af.length<cU x∧x.Data.length<cU x∧x.aB.length<cU x:=by
  have:=tG x
  have:=IA x.aB
  omega
section
variable {o x:aR} {inner:Bool} {i:Int} {bL:List aj}
theorem IB (h:dh inner o=true):cr (iw o)=(eC (iw o),0):=by
  obtain⟨h1,h2,h3,_,_⟩:=nC h
  unfold cr
  rw[aY]
  unfold iw gy
  simp only[jD,me,mh,bZ]
  refine⟨jN (by omega) (by omega),jN (by omega) (by omega),jN (by omega) (by omega),jN ?_ ?_⟩<;>(split<;>split<;>split<;>decide)
def qM (o:aR) (bL:List aj) (i:Int):Prop:=(∀x∈o.aB.take i.toNat,(bR x).2=0)∧bL=(cr (iw o)).1::o.af::o.Data::(o.aB.take i.toNat).map fun x=>(bR x).1
theorem IC (o:aR):qM o [(cr (iw o)).1,o.af,o.Data] 0:=⟨fun x h=>by simp at h,by simp⟩
theorem zR:∀{xs:List aR},(∀x∈xs,(bR x).2=0)→ju xs=(xs.map fun x=>(bR x).1,0)
  |[],_=>by rw[ju];rfl
  |x::xs,h=>by
   rw[zQ,aL (by simpa using h x (by simp)),zR fun y hy=>h y (by simp[hy])]
   rfl
theorem ID:∀{xs:List aR} {n:Nat} {x:aR},(∀y∈xs.take n,(bR y).2=0)→xs[n]?=some x→(bR x).2≠0→(ju xs).2=(bR x).2
  |[],_,_,_,h,_=>by simp at h
  |y::xs,0,x,_,h,hx=>by
   simp only[List.getElem?_cons_zero,ey] at h
   subst h
   rw[zQ,aY hx]
  |y::xs,n+1,x,hp,h,hx=>by
   rw[zQ,aL (by simpa using hp y (by simp))]
   exact ID (n:=n) (fun z hz=>hp z (by simp[hz])) (by simpa using h) hx
theorem IE (H:qM o bL i) (h0:0≤i) (hx:o.aB[i.toNat]?=some x) (he:(bR x).2=0):qM o (bL++[(bR x).1]) (i+1):=by
  obtain⟨h1,h2⟩:=H
  unfold qM
  rw[toNat_succ h0,fP hx]
  refine⟨fun y hy=>?_,by rw[h2];simp⟩
  rcases eo.1 hy with hy|hy
  · exact h1 y hy
  · rw[iA.1 hy];exact he
theorem IF (H:qM o bL i) (hx:o.aB[i.toNat]?=some x) (he:¬(bR x).2=0):bR o=([],(bR x).2):=by
  have:=ID H.1 hx he
  rw[vb,this,aY he]
theorem Di (H:qM o bL i) (h:¬i<(o.aB.length:Int)):bR o=b7 bL:=by
  obtain⟨h1,h2⟩:=H
  rw[fF (by omega)] at h1 h2
  rw[vb,zR h1,aL (by simp),h2]
theorem zS (H:qM o bL i) (h:o.aB.length≤4):bL.length≤7:=by
  rw[H.2]
  simp only[bJ,ew,dZ]
  omega
theorem IG (h:dh false o=false):bQ o=([],130):=by unfold bQ;rw[aY h]
theorem zT (h:dh false o=true) (h2:(bR o).2≠0∨((bR o).1.length:Int)>1024):bQ o=([],130):=by unfold bQ;rw[h,aL (by simp),aY (by omega)]
theorem II (h:dh false o=true) (h2:(bR o).2=0) (h3:¬((bR o).1.length:Int)>1024):bQ o=((bR o).1,0):=by unfold bQ;rw[h,aL (by simp),aL (by omega)]
end
def vc (v:List Int) (s:List aj) (ops:List aR):aR:=⟨v.getD 0 0,s.getD 1 [],s.getD 2 [],v.getD 1 0-1,v.getD 2 0,v.getD 3 0 % 2 != (0:Int),v.getD 3 0 / 2 % 2*2 != (0:Int),v.getD 3 0 / 4 % 2*4 != (0:Int),ops⟩
def fc (b:aj) (n:Int):Bool:=(bh b).2==0&&((bh b).1.length:Int)==n
def fS (inner:Bool) (b:aj):Bool:=((aJ b).2==0&&(decide (3≤((aJ b).1.length:Int))&&(!inner||decide (((aJ b).1.length:Int)≤3))))&&(fc ((aJ b).1.getD 0 []) 4&&decide ((bh ((aJ b).1.getD 0 [])).1.getD 3 0≤7))
def jR (b:aj) (ops:List aR):aR:=vc (bh ((aJ b).1.getD 0 [])).1 (aJ b).1 ops
def jS (b:aj):aR×Bool:=if fS true b then (jR b [],true) else (j8,false)
def aT (inner:Bool) (b:aj):aR×Bool:=
  if fS inner b then (if ((aJ b).1.drop 3).all fun x=>(jS x).2 then (jR b (((aJ b).1.drop 3).map fun x=>(jS x).1),true) else (j8,false)) else (j8,false)
theorem Dj (b:aj):aT true b=jS b:=by
  unfold aT jS
  cases h:fS true b with
  |false=>rfl
  |true=>
   have:(aJ b).1.length≤3:=by
     unfold fS at h
     simp only[nW,s6,bZ,cN] at h
     omega
   rw[mO this]
   rfl
def aD (b:aj):aR×Int:=if 1024<b.length then (j8,130) else if (aT false b).2=false∨dh false (aT false b).1=false then (j8,130) else ((aT false b).1,0)
def tH (B:Bool) (rs:List (Int×Value)) (k:Int):Int:=if (B&&!jQ rs k)=true then k else 0
def i_ (o:aR) (x1:List (Int×Bool)) (rs gf:List (Int×Value)) (n:Int):Prop:=
  x1=[(1,o.aV),(2,o.aK),(4,o.au)]∧(∀p∈rs,p∈gf)∧(rs.map (·.1)).Nodup∧n=tH o.aV rs 1+tH o.aK rs 2+tH o.au rs 4
section
variable {o:aR} {x1:List (Int×Bool)} {rs gf a b:List (Int×Value)} {n k:Int} {v:Value} {c:Bool} {R:Bool→Value→Prop}
theorem PA (hK:fu R gf x1) (hx:x1=[(1,o.aV),(2,o.aK),(4,o.au)]):i_ o x1 gf gf 0:=by
  have hm:∀k∈([1,2,4]:List Int),jQ gf k=true:=fun k hk=>by
    have h1:=hK.2.2.1
    rw[hx] at h1
    obtain⟨p,hp,e⟩:=cY.1 (h1.mem_iff.2 (show k∈_ from hk))
    exact tF.2 ⟨p,hp,e⟩
  refine⟨hx,fun p hp=>hp,hK.2.1,?_⟩
  unfold tH
  rw[hm 1 (by simp),hm 2 (by simp),hm 4 (by simp)]
  simp
theorem i_.key (H:i_ o x1 rs gf n) (hf:cy x1 k=some c):(k=1∧o.aV=c)∨(k=2∧o.aK=c)∨(k=4∧o.au=c):=by
  rw[H.1,kF,kF,kF] at hf
  simp only at hf
  split at hf
  · rename_i e;exact .inl ⟨e.symm,gI hf⟩
  · split at hf
    · rename_i e;exact .inr (.inl ⟨e.symm,gI hf⟩)
    · split at hf
      · rename_i e;exact .inr (.inr ⟨e.symm,gI hf⟩)
      · cases hf
theorem i_.mem (H:i_ o x1 rs gf n) (e:rs=a++(k,v)::b):(k,v)∈gf:=H.2.1 _ (by rw[e];simp)
theorem i_.any (e:rs=a++(k,v)::b):jQ rs k=true:=tF.2 ⟨(k,v),by rw[e];simp,rfl⟩
theorem i_.step (H:i_ o x1 rs gf n) (e:rs=a++(k,v)::b) (hf:cy x1 k=some c):i_ o x1 (a++b) gf (if c then n+k else n):=by
  have hk:=H.key hf
  have ha:=i_.any e
  obtain⟨h1,h2,h3,h4⟩:=H
  refine⟨h1,fun p hp=>h2 p (by rw[e];rcases eo.1 hp with hp|hp<;>simp[hp]),?_,?_⟩
  · rw[e] at h3
    refine uH (CJ _ ?_) h3
    exact(CK a).append (CL _ _)
  · rw[h4]
    unfold tH
    rw[qL e h3,qL e h3,qL e h3]
    rcases hk with ⟨rfl,hc⟩|⟨rfl,hc⟩|⟨rfl,hc⟩<;>(subst hc;rw[ha];simp)<;>(split<;>(try simp)<;>(try omega))
theorem i_.hit (H:i_ o x1 rs gf n) (e:rs=a++(k,v)::b) (hf:cy x1 k=some c) (hc:c=true):i_ o x1 (a++b) gf (n+k):=by
  have:=H.step e hf
  rwa[aY hc] at this
theorem i_.gO (H:i_ o x1 rs gf n) (e:rs=a++(k,v)::b) (hf:cy x1 k=some c) (hc:c=false):i_ o x1 (a++b) gf n:=by
  have:=H.step e hf
  rwa[aL (by simp[hc])] at this
theorem i_.PB (H:i_ o x1 rs gf n) (e:rs=a++(k,v)::b) (hf:cy x1 k=some c):
    Value.int .i64 (IntKind.wrap .i64 (((BitVec.ofInt (IntKind.bits .i64) n ||| BitVec.ofInt (IntKind.bits .i64) k).toNat:Nat):Int))=.int .i64 (n+k):=by
  have hk:=H.key hf
  have ha:=i_.any e
  obtain⟨h1,h2,h3,h4⟩:=H
  rw[h4]
  unfold tH
  rcases hk with ⟨rfl,hc⟩|⟨rfl,hc⟩|⟨rfl,hc⟩<;>rw[ha]<;>simp only[nW,zf,fW,dI]<;>(split<;>split<;>(try split)<;>rfl)
theorem i_.iU (H:i_ o x1 rs gf n) (e:rs=[]):n=gy o:=by
  obtain⟨_,_,_,h4⟩:=H
  subst e
  rw[h4]
  unfold tH gy jQ
  simp
end
theorem IJ {x:Int} (h0:0≤x) (h7:x≤7):Value.int .i64 (IntKind.wrap .i64 (((BitVec.ofInt (IntKind.bits .i64) x &&& BitVec.ofInt (IntKind.bits .i64) (1:Int)).toNat:Nat):Int))=.int .i64 (x % 2):=by
  have:x=0∨x=1∨x=2∨x=3∨x=4∨x=5∨x=6∨x=7:=by omega
  rcases this with rfl|rfl|rfl|rfl|rfl|rfl|rfl|rfl<;>rfl
theorem IK {x:Int} (h0:0≤x) (h7:x≤7):Value.int .i64 (IntKind.wrap .i64 (((BitVec.ofInt (IntKind.bits .i64) x &&& BitVec.ofInt (IntKind.bits .i64) (2:Int)).toNat:Nat):Int))=.int .i64 (x / 2 % 2*2):=by
  have:x=0∨x=1∨x=2∨x=3∨x=4∨x=5∨x=6∨x=7:=by omega
  rcases this with rfl|rfl|rfl|rfl|rfl|rfl|rfl|rfl<;>rfl
theorem IL {x:Int} (h0:0≤x) (h7:x≤7):Value.int .i64 (IntKind.wrap .i64 (((BitVec.ofInt (IntKind.bits .i64) x &&& BitVec.ofInt (IntKind.bits .i64) (4:Int)).toNat:Nat):Int))=.int .i64 (x / 4 % 2*4):=by
  have:x=0∨x=1∨x=2∨x=3∨x=4∨x=5∨x=6∨x=7:=by omega
  rcases this with rfl|rfl|rfl|rfl|rfl|rfl|rfl|rfl<;>rfl
theorem tI {o:aR} (h:dh false o=true∨dh true o=true):cr (iw o)=(eC (iw o),0)∧(-1≤o.ai∧o.ai<1099511627776)∧o.aB.length≤4∧∀x∈o.aB,dh true x=true:=by
  rcases h with h|h
  · obtain⟨_,h1,_,h2,h3⟩:=nC h;exact⟨IB h,h1,h2,h3⟩
  · obtain⟨_,h1,_,h2,h3⟩:=nC h;exact⟨IB h,h1,h2,h3⟩
theorem getD_at {α:Type} {l:List α} {k:Nat} {x d:α} (h:l[k]?=some x):l.getD k d=x:=by rw[Df,h];rfl
theorem IM:∀(n:Nat) (b:aj) (os:List Int),(∀x∈os,0≤x∧x<4611686018427387904)→∀x∈(j7 n b os).1,0≤x∧x<4611686018427387904
  |n,[],os,h=>by cases n<;>exact h
  |0,_::_,os,h=>fun x hx=>by cases hx
  |n+1,c::r,os,h=>by
   rw[j7]
   · split
     · intro x hx;cases hx
     · rename_i he
       refine IM n _ _ fun x hx=>?_
       rcases eo.1 hx with hx|hx
       · exact h x hx
       · have hb:=iu (b:=c::r) (tj he)
         rw[iA.1 hx]
         exact⟨hb.1,hb.2.1⟩
   · simp
theorem IN {b:aj} {x:Int} (h:x∈(bh b).1):0≤x∧x<4611686018427387904:=IM _ _ _ (fun x hx=>by cases hx) x h
theorem IP:∀(n:Nat) (b:aj) (os:List aj),(os.length≤1024∧∀x∈os,x.length≤65536)→(jr n b os).1.length≤1024∧∀x∈(jr n b os).1,x.length≤65536
  |n,[],os,h=>by cases n<;>exact h
  |0,_::_,os,h=>⟨by simp[jr],fun x hx=>by cases hx⟩
  |n+1,c::r,os,h=>by
   rw[jr]
   · split
     · exact⟨by simp,fun x hx=>by cases hx⟩
     · rename_i h1
       split
       · exact⟨by simp,fun x hx=>by cases hx⟩
       · split
         · exact⟨by simp,fun x hx=>by cases hx⟩
         · rename_i h2
           split
           · exact⟨by simp,fun x hx=>by cases hx⟩
           · refine IP n _ _ ⟨?_,fun x hx=>?_⟩
             · rw[b_,oI];omega
             · rcases eo.1 hx with hx|hx
               · exact h.2 x hx
               · rw[iA.1 hx,dZ];omega
   · simp
theorem jv (b:aj):(aJ b).1.length≤1024∧∀x∈(aJ b).1,x.length≤65536:=IP _ _ _ ⟨by simp,fun x hx=>by cases hx⟩
theorem oP {b x:aj} {k:Nat} (h:(aJ b).1[k]?=some x):x.length≤65536:=(jv b).2 _ (bY h)
theorem Dk {b x:aj} {n k:Nat} (h:((aJ b).1.drop n)[k]?=some x):x.length≤65536:=(jv b).2 _ (List.mem_of_mem_drop (bY h))
theorem gT {b:aj} {k:Nat} {y:Int} (h:(bh b).1[k]?=some y):0≤y∧y<4611686018427387904:=IN (bY h)
section
variable {b x0 x1 x2 x:aj} {inner:Bool} {y0 y1 y2 y3 i:Int} {ops:List aR} {ob one:aR} {n mr:Nat}
theorem IQ (u:(aJ b).1[(0:Int).toNat]?=some x0) (s1:(aJ b).1[(1:Int).toNat]?=some x1) (s2:(aJ b).1[(2:Int).toNat]?=some x2) (v0:(bh x0).1[(0:Int).toNat]?=some y0) (v1:(bh x0).1[(1:Int).toNat]?=some y1)
    (v2:(bh x0).1[(2:Int).toNat]?=some y2) (v3:(bh x0).1[(3:Int).toNat]?=some y3):(⟨y0,x1,x2,y1-1,y2,y3 % 2 != (0:Int),y3 / 2 % 2*2 != (0:Int),y3 / 4 % 2*4 != (0:Int),ops⟩:aR)=jR b ops:=by
  unfold jR vc
  rw[getD_at (k:=0) u,getD_at (k:=1) s1,getD_at (k:=2) s2,getD_at (k:=0) v0,getD_at (k:=1) v1,getD_at (k:=2) v2,getD_at (k:=3) v3]
theorem rW (h:¬(aJ b).2=0):fS inner b=false:=by unfold fS;simp[h]
theorem rX (h:((aJ b).1.length:Int)<3):fS inner b=false:=by
  unfold fS
  rw[gQ (p:=(3:Int)≤_) (by omega)];simp
theorem rY (hi:inner=true) (h:((aJ b).1.length:Int)>3):fS inner b=false:=by
  unfold fS
  rw[gQ (p:=((aJ b).1.length:Int)≤3) (by omega),hi];simp
theorem lT (u:(aJ b).1[(0:Int).toNat]?=some x0) (h:fc x0 4=false):fS inner b=false:=by
  unfold fS
  rw[getD_at (k:=0) u,h];simp
theorem n9 (u:(aJ b).1[(0:Int).toNat]?=some x0) (v3:(bh x0).1[(3:Int).toNat]?=some y3) (h:y3>7):fS inner b=false:=by
  unfold fS
  rw[getD_at (k:=0) u,getD_at (k:=3) v3,gQ (p:=y3≤7) (by omega)];simp
theorem zU (h1:(aJ b).2=0) (h2:¬((aJ b).1.length:Int)<3) (h3:inner=false∨¬((aJ b).1.length:Int)>3) (u:(aJ b).1[(0:Int).toNat]?=some x0) (h4:fc x0 4=true) (v3:(bh x0).1[(3:Int).toNat]?=some y3) (h5:¬y3>7):fS inner b=true:=by
  unfold fS
  rw[getD_at (k:=0) u,getD_at (k:=3) v3,h4,h1,gb (p:=(3:Int)≤_) (by omega),gb (p:=y3≤7) (by omega)]
  rcases h3 with h3|h3
  · rw[h3];rfl
  · rw[gb (p:=((aJ b).1.length:Int)≤3) (by omega)];simp
theorem fT (h:fS inner b=false):aT inner b=(j8,false):=by unfold aT;rw[h];rfl
def nD (b:aj) (ob:aR) (i:Int):Prop:=ob=jR b ((((aJ b).1.drop 3).take i.toNat).map fun x=>(aT true x).1)∧∀x∈((aJ b).1.drop 3).take i.toNat,(aT true x).2=true
theorem zV (h:ob=jR b []):nD b ob 0:=⟨by rw[h];rfl,fun x hx=>by simp at hx⟩
theorem Dl (H:nD b ob i) (h0:0≤i) (hx:((aJ b).1.drop 3)[i.toNat]?=some x) (hok:(aT true x).2=true):nD b ⟨ob.ah,ob.af,ob.Data,ob.ai,ob.aI,ob.aV,ob.aK,ob.au,ob.aB++[(aT true x).1]⟩ (i+1):=by
  obtain⟨h1,h2⟩:=H
  unfold nD
  rw[toNat_succ h0,fP hx]
  refine⟨by rw[h1];simp[jR,vc],fun y hy=>?_⟩
  rcases eo.1 hy with hy|hy
  · exact h2 y hy
  · rw[iA.1 hy];exact hok
theorem qN (hB:fS inner b=true) (hx:((aJ b).1.drop 3)[i.toNat]?=some x) (hok:(aT true x).2=false):aT inner b=(j8,false):=by
  unfold aT
  rw[aY hB,aL]
  intro h
  rw[gx] at h
  have:=h x (bY hx)
  rw[←Dj,hok] at this
  cases this
theorem qO (hB:fS inner b=true) (H:nD b ob i) (h:¬i<(((aJ b).1.drop 3).length:Int)):aT inner b=(ob,true):=by
  obtain⟨h1,h2⟩:=H
  rw[fF (by omega)] at h1 h2
  unfold aT
  rw[aY hB,aY]
  · rw[h1]
    simp only[Dj]
  · rw[gx]
    intro x hx
    rw[←Dj]
    exact h2 x hx
theorem IS (hB:fS inner b=true) (h0:0≤i) (h:i<(((aJ b).1.drop 3).length:Int)) (hm:(if inner=true then 0 else 1)<mr+1):(if true=true then 0 else 1)<mr:=by
  cases inner with
  |false=>simp at hm ⊢;omega
  |true=>
   exfalso
   unfold fS at hB
   simp only[nW,s6,bZ,cN] at hB
   rw[eT] at h
   omega
theorem zW (h:i<(((aJ b).1.drop (3:Int).toNat).length:Int)) (u:(ob.aB.length:Int)=i):ob.aB.length≤1024:=by
  have:=(jv b).1
  rw[eT] at h
  omega
theorem PC (h1:(bh b).2=0):(((bh b).1.length:Int)==i)=fc b i:=by unfold fc;simp[h1]
theorem Dm (h1:¬(bh b).2=0):false=fc b i:=by unfold fc;simp[h1]
theorem fo (h:fc b i=true):((bh b).1.length:Int)=i:=by unfold fc at h;simp at h;exact h.2
theorem xB (h:(b.length:Int)>1024):aD b=(j8,130):=by unfold aD;rw[aY (by omega)]
theorem pZ (h:¬(b.length:Int)>1024) (h2:(aT false b).2=false∨dh false (aT false b).1=false):aD b=(j8,130):=by unfold aD;rw[aL (by omega),aY h2]
theorem xC (h:¬(b.length:Int)>1024) (h2:(aT false b).2=true) (h3:dh false (aT false b).1=true):aD b=((aT false b).1,0):=by unfold aD;rw[aL (by omega),aL (by simp[h2,h3])]
end
theorem zX {l:List aj} {n k:Nat} (h:∀x∈l,x.length≤n):(l.getD k []).length≤n:=by
  rw[Df]
  cases hk:l[k]? with
  |none=>exact eX _
  |some x=>exact h x (bY hk)
theorem Dn (b:aj) (ops:List aR):cU (jR b ops)≤131073+gl ops:=by
  rw[tG]
  have h1:=zX (k:=1) (jv b).2
  have h2:=zX (k:=2) (jv b).2
  show 1+((aJ b).1.getD 1 []).length+((aJ b).1.getD 2 []).length+gl ops≤_
  omega
theorem xD:cU j8=1:=by unfold j8;rw[tG];rfl
theorem IT (b:aj):cU (jS b).1≤131073:=by
  unfold jS
  split
  · have:=Dn b [];rw[gl] at this;exact this
  · rw[xD];omega
theorem Dp {n:Nat}:∀{l:List aR},(∀x∈l,cU x≤n)→gl l≤n*l.length
  |[],_=>by rw[gl];exact eX _
  |x::l,h=>by
   rw[gl,bJ,Cy]
   have:=Dp (l:=l) fun y hy=>h y (by simp[hy])
   have:=h x (by simp)
   omega
theorem Dq (b:aj):cU (aT false b).1≤1000000000:=by
  unfold aT
  split
  · split
    · refine cH (Dn _ _) ?_
      have h1:=Dp (n:=131073) (l:=((aJ b).1.drop 3).map fun x=>(jS x).1) (fun x hx=>by obtain⟨y,_,rfl⟩:=cY.1 hx;exact IT y)
      rw[ew,eT] at h1
      have:=(jv b).1
      have h2:131073*((aJ b).1.length-3)≤131073*1024:=uy _ (by omega)
      omega
    · rw[xD];omega
  · rw[xD];omega
def eW (v:Int):Bool:=decide (0≤v)&&decide (v≤4611686018427387902)
theorem IU {v:Int} (h1:v<0):true=!eW v:=by unfold eW;rw[gQ (by omega)];rfl
theorem PD {v:Int} (h1:¬v<0):decide (v>4611686018427387902)=!eW v:=by
  unfold eW
  rw[gb (p:=0≤v) (by omega),lK,iN]
  simp
theorem PE (l:List Int):(!l.any fun x=>!eW x)=l.all eW:=by rw[Iv];simp
def tJ (x:Result):List Int:=[x.Code,x.aU,x.At,x.aa.ai,x.aa.aC+1,x.aa.Next,x.aa.aF]
def jw (x:Result):Bool:=[x.Code,x.aU,x.At,x.aa.ai,x.aa.Next,x.aa.aF].all eW&&(decide (-1≤x.aa.aC)&&decide (x.aa.aC≤4611686018427387902))
def mA (w:au):aj×Int:=b7 [(cr [w.ax,w.ah]).1,w.af]
def kG (w:au):Bool:=[w.ax,w.ah].all eW&&(mA w).2==0
def xE (x:Result):List aj:=[(cr (tJ x)).1,x.aa.af,x.aa.Data,(b7 x.aX).1]
def lU (x:Result):List aj:=xE x++x.aP.map fun w=>(mA w).1
def aO (x:Result):aj×Int:=
  if jw x=false then ([],130) else if (b7 x.aX).2≠0 then ([],130) else if x.aP.all kG=false then ([],130) else if (b7 (lU x)).2≠0 then ([],130) else ((b7 (lU x)).1,0)
def m_ (x:Result):Prop:=x.aa.af.length≤1000000000∧(x.aX.length≤1000000∧∀n∈x.aX,n.length≤1000000000)∧(x.aP.length≤1000000∧∀w∈x.aP,w.af.length≤1000000000)
def p4 (x:Result) (bL:List aj) (i:Int):Prop:=bL=xE x++(x.aP.take i.toNat).map (fun w=>(mA w).1)∧(x.aP.take i.toNat).all kG=true
section
variable {x:Result} {bL:List aj} {i:Int} {w:au}
theorem IV (x:Result):p4 x (xE x) 0:=⟨by simp,rfl⟩
theorem IW (H:p4 x bL i) (h0:0≤i) (hw:x.aP[i.toNat]?=some w) (h1:[w.ax,w.ah].all eW=true) (h2:(mA w).2=0):p4 x (bL++[(mA w).1]) (i+1):=by
  obtain⟨g1,g2⟩:=H
  unfold p4
  rw[toNat_succ h0,fP hw]
  refine⟨by rw[g1];simp,?_⟩
  rw[uZ,g2,lK,jD,me,mh]
  unfold kG
  rw[h1,h2];rfl
theorem zY (H:p4 x bL i) (h:x.aP.length≤1000000):bL.length≤1000004:=by
  rw[H.1,b_,ew,dZ]
  show 4+_≤_
  omega
theorem nc (h:jw x=false):aO x=([],130):=by unfold aO;rw[aY h]
theorem zZ (h:jw x=true) (h2:¬(b7 x.aX).2=0):aO x=([],130):=by unfold aO;rw[h,aL (by simp),aY h2]
theorem PF (hw:x.aP[i.toNat]?=some w) (he:kG w=false):x.aP.all kG=false:=by
  cases h:x.aP.all kG with
  |false=>rfl
  |true=>rw[gx] at h;rw[h w (bY hw)] at he;cases he
theorem rZ (h:[w.ax,w.ah].all eW=false):kG w=false:=by unfold kG;rw[h];rfl
theorem z_ (h:¬(mA w).2=0):kG w=false:=by unfold kG;simp[h]
theorem n_ (h:jw x=true) (h2:(b7 x.aX).2=0) (hw:x.aP[i.toNat]?=some w) (he:kG w=false):aO x=([],130):=by
  unfold aO
  rw[h,aL (by simp),aL (by omega),aY (PF hw he)]
theorem IX (H:p4 x bL i) (h:¬i<(x.aP.length:Int)):bL=lU x∧x.aP.all kG=true:=by
  obtain⟨g1,g2⟩:=H
  rw[fF (by omega)] at g1 g2
  exact⟨g1,g2⟩
theorem Aa (h:jw x=true) (h2:(b7 x.aX).2=0) (H:p4 x bL i) (hi:¬i<(x.aP.length:Int)) (he:¬(b7 bL).2=0):aO x=([],130):=by
  obtain⟨g1,g2⟩:=IX H hi
  rw[g1] at he
  unfold aO
  rw[h,aL (by simp),aL (by omega),g2,aL (by simp),aY he]
theorem Ab (h:jw x=true) (h2:(b7 x.aX).2=0) (H:p4 x bL i) (hi:¬i<(x.aP.length:Int)) (he:(b7 bL).2=0):aO x=((b7 bL).1,0):=by
  obtain⟨g1,g2⟩:=IX H hi
  rw[g1] at he ⊢
  unfold aO
  rw[h,aL (by simp),aL (by omega),g2,aL (by simp),aL (by omega)]
theorem Dr (h:[x.Code,x.aU,x.At,x.aa.ai,x.aa.Next,x.aa.aF].all eW=true) (h1:¬x.aa.aC< -1) (h2:¬x.aa.aC>4611686018427387902):jw x=true:=by
  unfold jw
  rw[h,gb (by omega),gb (by omega)];rfl
theorem vf (h:[x.Code,x.aU,x.At,x.aa.ai,x.aa.Next,x.aa.aF].all eW=false):jw x=false:=by unfold jw;rw[h];rfl
theorem r4 (h:x.aa.aC< -1∨x.aa.aC>4611686018427387902):jw x=false:=by
  unfold jw
  rcases h with h|h
  · rw[gQ (p:= -1≤x.aa.aC) (by omega)];simp
  · rw[gQ (p:=x.aa.aC≤4611686018427387902) (by omega)];simp
theorem Ds (h:jw x=true): -1≤x.aa.aC∧x.aa.aC≤4611686018427387902:=by
  unfold jw at h
  simp only[bZ,cN] at h
  exact h.2
end
def vg (v:List Int) (s:List aj) (jx:List aj) (eE:List au):Result:=⟨v.getD 0 0,v.getD 1 0,v.getD 2 0,⟨s.getD 1 [],s.getD 2 [],v.getD 3 0,v.getD 4 0-1,v.getD 5 0,v.getD 6 0⟩,jx,eE⟩
def p5:Result:=⟨0,0,0,⟨[],[],0,0,0,0⟩,[],[]⟩
def tK (b:aj):Bool:=((aJ b).2==0&&((aJ b).1.length:Int)==2)&&fc ((aJ b).1.getD 0 []) 2
def dX (b:aj):au×Bool:=if tK b then (⟨(bh ((aJ b).1.getD 0 [])).1.getD 0 0,(bh ((aJ b).1.getD 0 [])).1.getD 1 0,(aJ b).1.getD 1 []⟩,true) else (⟨0,0,[]⟩,false)
def jT (b:aj):Bool:=((aJ b).2==0&&decide (4≤((aJ b).1.length:Int)))&&(fc ((aJ b).1.getD 0 []) 7&&(aJ ((aJ b).1.getD 3 [])).2==0)
def tL (b:aj) (eE:List au):Result:=vg (bh ((aJ b).1.getD 0 [])).1 (aJ b).1 (aJ ((aJ b).1.getD 3 [])).1 eE
def r5 (b:aj):List au:=((aJ b).1.drop (4:Int).toNat).map fun e=>(dX e).1
def av (b:aj):Result×Int:=
  if jT b then (if ((aJ b).1.drop (4:Int).toNat).all (fun e=>(dX e).2) then (if (aO (tL b (r5 b))).2=0∧(aO (tL b (r5 b))).1=b then (tL b (r5 b),0) else (p5,130)) else (p5,130)) else (p5,130)
section
variable {b x0 x1 x2 x3 e:aj} {y0 y1 y2 y3 y4 y5 y6 i:Int} {ns:List aj} {eE:List au} {ob:Result}
theorem tM (h:¬(aJ b).2=0):dX b=(⟨0,0,[]⟩,false):=by unfold dX tK;simp[h]
theorem tN (h:¬((aJ b).1.length:Int)=2):dX b=(⟨0,0,[]⟩,false):=by
  unfold dX tK
  have:(((aJ b).1.length:Int)==2)=false:=by simpa using h
  rw[this];simp
theorem oa (u:(aJ b).1[(0:Int).toNat]?=some x0) (h:fc x0 2=false):dX b=(⟨0,0,[]⟩,false):=by
  unfold dX tK
  rw[getD_at (k:=0) u,h];simp
theorem Dt (h1:(aJ b).2=0) (h2:((aJ b).1.length:Int)=2) (u:(aJ b).1[(0:Int).toNat]?=some x0) (h:fc x0 2=true) (v0:(bh x0).1[(0:Int).toNat]?=some y0) (v1:(bh x0).1[(1:Int).toNat]?=some y1) (s1:(aJ b).1[(1:Int).toNat]?=some x1):
    dX b=(⟨y0,y1,x1⟩,true):=by
  have hb:tK b=true:=by unfold tK;rw[getD_at (k:=0) u,h,h1,h2];rfl
  unfold dX
  rw[aY hb,getD_at (k:=0) u,getD_at (k:=1) s1,getD_at (k:=0) v0,getD_at (k:=1) v1]
theorem hr_1 (h:¬(aJ b).2=0):jT b=false:=by unfold jT;simp[h]
theorem hr_2 (h:((aJ b).1.length:Int)<4):jT b=false:=by unfold jT;rw[gQ (p:=(4:Int)≤_) (by omega)];simp
theorem mB (u:(aJ b).1[(0:Int).toNat]?=some x0) (h:fc x0 7=false):jT b=false:=by unfold jT;rw[getD_at (k:=0) u,h];simp
theorem hr_4 (s3:(aJ b).1[(3:Int).toNat]?=some x3) (h:¬(aJ x3).2=0):jT b=false:=by unfold jT;rw[getD_at (k:=3) s3];simp[h]
theorem IY (h1:(aJ b).2=0) (h2:¬((aJ b).1.length:Int)<4) (u:(aJ b).1[(0:Int).toNat]?=some x0) (h3:fc x0 7=true) (s3:(aJ b).1[(3:Int).toNat]?=some x3) (h4:(aJ x3).2=0):jT b=true:=by
  unfold jT
  rw[getD_at (k:=0) u,getD_at (k:=3) s3,h1,h3,h4,gb (p:=(4:Int)≤_) (by omega)];rfl
theorem eF (h:jT b=false):av b=(p5,130):=by unfold av;rw[h];rfl
theorem IZ (s1:(aJ b).1[(1:Int).toNat]?=some x1) (s2:(aJ b).1[(2:Int).toNat]?=some x2) (v0:(bh x0).1[(0:Int).toNat]?=some y0) (v1:(bh x0).1[(1:Int).toNat]?=some y1)
    (v2:(bh x0).1[(2:Int).toNat]?=some y2) (v3:(bh x0).1[(3:Int).toNat]?=some y3) (v4:(bh x0).1[(4:Int).toNat]?=some y4) (v5:(bh x0).1[(5:Int).toNat]?=some y5) (v6:(bh x0).1[(6:Int).toNat]?=some y6):
    (⟨y0,y1,y2,⟨x1,x2,y3,y4-1,y5,y6⟩,ns,eE⟩:Result)=vg (bh x0).1 (aJ b).1 ns eE:=by
  unfold vg
  rw[getD_at (k:=1) s1,getD_at (k:=2) s2,getD_at (k:=0) v0,getD_at (k:=1) v1,getD_at (k:=2) v2,getD_at (k:=3) v3,getD_at (k:=4) v4,getD_at (k:=5) v5,getD_at (k:=6) v6]
def r6 (b x0 x3:aj) (ob:Result) (i:Int):Prop:=ob=vg (bh x0).1 (aJ b).1 ((aJ x3).1.take i.toNat) []
theorem I0 (H:r6 b x0 x3 ob i) (h0:0≤i) (he:(aJ x3).1[i.toNat]?=some e):r6 b x0 x3 ⟨ob.Code,ob.aU,ob.At,⟨ob.aa.af,ob.aa.Data,ob.aa.ai,ob.aa.aC,ob.aa.Next,ob.aa.aF⟩,ob.aX++[e],ob.aP⟩ (i+1):=by
  unfold r6 at *
  rw[toNat_succ h0,fP he,H]
  rfl
theorem I1 (H:r6 b x0 x3 ob i):ob.aX.length≤1024∧ob.aP.length=0:=by
  rw[H]
  have:=(jv x3).1
  show((aJ x3).1.take i.toNat).length≤1024∧_
  rw[dZ]
  exact⟨by omega,rfl⟩
def nE (b x0 x3:aj) (ob:Result) (i:Int):Prop:=ob=vg (bh x0).1 (aJ b).1 (aJ x3).1 ((((aJ b).1.drop (4:Int).toNat).take i.toNat).map fun e=>(dX e).1)∧(((aJ b).1.drop (4:Int).toNat).take i.toNat).all (fun e=>(dX e).2)=true
theorem I2 (H:r6 b x0 x3 ob i) (h:¬i<((aJ x3).1.length:Int)):nE b x0 x3 ob 0:=by
  unfold r6 at H
  rw[fF (by omega)] at H
  exact⟨by rw[H];rfl,rfl⟩
theorem I3 (H:nE b x0 x3 ob i) (h0:0≤i) (he:((aJ b).1.drop (4:Int).toNat)[i.toNat]?=some e) (hok:(dX e).2=true):
    nE b x0 x3 ⟨ob.Code,ob.aU,ob.At,⟨ob.aa.af,ob.aa.Data,ob.aa.ai,ob.aa.aC,ob.aa.Next,ob.aa.aF⟩,ob.aX,ob.aP++[(dX e).1]⟩ (i+1):=by
  obtain⟨h1,h2⟩:=H
  unfold nE
  rw[toNat_succ h0,fP he,uZ,h2]
  refine⟨by rw[h1,gA];rfl,by simp[hok]⟩
theorem Du (H:nE b x0 x3 ob i):ob.aP.length≤1024:=by
  rw[H.1]
  have:=(jv b).1
  show((((aJ b).1.drop (4:Int).toNat).take i.toNat).map _).length≤1024
  rw[ew,dZ,eT]
  omega
theorem PG (e:aj):(dX e).1.af.length≤65536:=by
  unfold dX
  split
  · exact zX (jv e).2
  · exact eX _
theorem Dv (H:nE b x0 x3 ob i):m_ ob:=by
  have h1:=Du H
  rw[H.1] at h1 ⊢
  refine⟨?_,⟨?_,fun n hn=>?_⟩,cH h1 (by decide),fun w hw=>?_⟩
  · have:=zX (k:=1) (jv b).2
    exact cH this (by decide)
  · exact cH (jv x3).1 (by decide)
  · exact cH ((jv x3).2 n hn) (by decide)
  · obtain⟨e,_,rfl⟩:=cY.1 hw
    exact cH (PG e) (by decide)
theorem vh (hH:jT b=true) (he:((aJ b).1.drop (4:Int).toNat)[i.toNat]?=some e) (hok:(dX e).2=false):av b=(p5,130):=by
  unfold av
  rw[aY hH,aL]
  intro h
  rw[gx] at h
  rw[h e (bY he)] at hok
  cases hok
theorem I4 (u:(aJ b).1[(0:Int).toNat]?=some x0) (s3:(aJ b).1[(3:Int).toNat]?=some x3) (H:nE b x0 x3 ob i) (h:¬i<(((aJ b).1.drop (4:Int).toNat).length:Int)):ob=tL b (r5 b)∧((aJ b).1.drop (4:Int).toNat).all (fun e=>(dX e).2)=true:=by
  obtain⟨h1,h2⟩:=H
  rw[fF (by omega)] at h1 h2
  refine⟨?_,h2⟩
  rw[h1]
  unfold tL r5
  rw[getD_at (k:=0) u,getD_at (k:=3) s3]
theorem jU (hH:jT b=true) (u:(aJ b).1[(0:Int).toNat]?=some x0) (s3:(aJ b).1[(3:Int).toNat]?=some x3) (H:nE b x0 x3 ob i) (h:¬i<(((aJ b).1.drop (4:Int).toNat).length:Int)) (hn:¬(aO ob).2=0∨¬(aO ob).1=b):av b=(p5,130):=by
  obtain⟨h1,h2⟩:=I4 u s3 H h
  rw[h1] at hn
  unfold av
  rw[aY hH,aY h2,aL]
  rintro⟨g1,g2⟩
  rcases hn with hn|hn
  · exact hn g1
  · exact hn g2
theorem p6 (hH:jT b=true) (u:(aJ b).1[(0:Int).toNat]?=some x0) (s3:(aJ b).1[(3:Int).toNat]?=some x3) (H:nE b x0 x3 ob i) (h:¬i<(((aJ b).1.drop (4:Int).toNat).length:Int)) (g1:(aO ob).2=0) (g2:(aO ob).1=b):av b=(ob,0):=by
  obtain⟨h1,h2⟩:=I4 u s3 H h
  rw[h1] at g1 g2
  unfold av
  rw[aY hH,aY h2,aY ⟨g1,g2⟩,h1]
theorem PI (h:i<(((aJ b).1.drop (4:Int).toNat).length:Int)):i≤1024:=by
  have:=(jv b).1
  rw[eT] at h
  omega
end
theorem Dw {n:Nat} (h:n<256):(UInt8.ofNat n).toNat=n:=by
  rw[wD]
  exact pF h
theorem I5 {c:UInt8} {r:aj} {i:Nat} {a:Int} (h1:¬((i=8∧64≤c.toNat)∨(c.toNat=0∧0<i))) (h2:c.toNat<128):fM (c::r) i a=(a+((c.toNat*2 ^ (7*i):Nat):Int),(i:Int)+1,0):=by
  rw[fM,aL h1,aY h2,pF h2]
theorem PJ:∀(n v i:Nat) (a:Int) (rest:aj),v<2 ^ (62-7*i)→i≤8→8≤n+i→(0<i→1≤v)→
    fM (ij n v++rest) i a=(a+((v*2 ^ (7*i):Nat):Int),(i:Int)+((ij n v).length:Int),0):=by
  intro n
  induction n with
  |zero=>
   intro v i a rest hv hi hn h1
   obtain rfl:i=8:=by omega
   have hv:v<64:=hv
   have h1:=h1 (by decide)
   have e:(UInt8.ofNat v).toNat=v:=Dw (by omega)
   rw[ij,dL,I5 (by rw[e];omega) (by rw[e];omega),e]
   rfl
  |succ n ih=>
   intro v i a rest hv hi hn h1
   have D:i=8→v<64:=fun h=>by subst h;exact hv
   rw[ij]
   split
   · rename_i hlt
     have e:(UInt8.ofNat v).toNat=v:=Dw (by omega)
     rw[dL,I5 (by rw[e];omega) (by rw[e];omega),e]
     rfl
   · rename_i G
     have I:i<8:=by omega
     have e:(UInt8.ofNat (v % 128+128)).toNat=v % 128+128:=Dw (by omega)
     have hq:v / 128<2 ^ (62-7*(i+1)):=by
       have e2:2 ^ (62-7*i)=2 ^ (62-7*(i+1))*128:=by
         rw[show 62-7*i=(62-7*(i+1))+7 by omega,Nat.pow_add]
       rw[e2] at hv
       exact Nat.div_lt_of_lt_mul (by rw[ze];exact hv)
     rw[dL,fM,aL (by rw[e];omega),aL (by rw[e];omega),e,ih (v / 128) (i+1) _ rest hq (by omega) (by omega) (fun _=>by omega)]
     have e3:(v % 128+128) % 128=v % 128:=by omega
     have u:v % 128*2 ^ (7*i)+v / 128*2 ^ (7*(i+1))=v*2 ^ (7*i):=by
       rw[zh,←Nat.mul_assoc,←nk]
       congr 1
       omega
     rw[e3,bJ]
     refine wO ?_ (wO ?_ rfl)
     · show a+((v % 128*2 ^ (7*i):Nat):Int)+((v / 128*2 ^ (7*(i+1)):Nat):Int)=a+((v*2 ^ (7*i):Nat):Int)
       rw[←u]
       omega
     · show((i+1:Nat):Int)+((ij n (v / 128)).length:Int)=(i:Int)+(((ij n (v / 128)).length+1:Nat):Int)
       omega
theorem I6 {v:Int} (h:gi v=true) (rest:aj):bf (eP v++rest)=(v,((eP v).length:Int),0):=by
  obtain⟨h1,h2⟩:=CR h
  unfold bf eP
  rw[PJ 9 v.toNat 0 0 rest (by show v.toNat<4611686018427387904;omega) (by decide) (by decide) (fun h=>absurd h (by decide))]
  refine wO ?_ (wO ?_ rfl)
  · show(0:Int)+((v.toNat*1:Nat):Int)=v
    omega
  · show((0:Nat):Int)+((ij 9 v.toNat).length:Int)=((ij 9 v.toNat).length:Int)
    omega
theorem I7 (v:Int):0<(eP v).length:=(tu v).1
theorem I9:∀(fs out:List aj),(∀f∈fs,f.length≤65536)→out.length+fs.length≤1024→jr (dW fs).length (dW fs) out=(out++fs,0)
  |[],out,_,_=>by simp[dW,jr]
  |f::fs,out,h,hl=>by
   have hf:=h f (by simp)
   have hok:gi (f.length:Int)=true:=jN (by omega) (by omega)
   have e:dW (f::fs)=eP f.length++(f++dW fs):=by
     unfold dW
     rw[tn]
     unfold rO
     rw[cJ]
   have hr:=I6 hok (f++dW fs)
   rw[←e] at hr
   have hp:=I7 (f.length:Int)
   have hlen:(dW (f::fs)).length=(eP f.length).length+(f.length+(dW fs).length):=by rw[e,b_,b_]
   rw[bJ] at hl
   rw[u6 (by omega),hr]
   simp only[]
   rw[aL (by omega),aL (by simp),aL (by omega),aL (by omega)]
   have hd:(dW (f::fs)).drop (((eP f.length).length:Int)+(f.length:Int)).toNat=dW fs:=by
     rw[show(((eP f.length).length:Int)+(f.length:Int)).toNat=(eP f.length).length+f.length by omega,e,←o7,zP,zP]
   have ht:((dW (f::fs)).drop ((eP f.length).length:Int).toNat).take (f.length:Int).toNat=f:=by
     rw[Dg,Dg,e,zP,List.take_left]
   rw[hd,ht,I9 fs (out++[f]) (fun g hg=>h g (by simp[hg])) (by rw[b_,oI];omega),cJ]
   rfl
theorem Dx {fs:List aj} (h:jM fs=true):fs.length≤1024∧∀f∈fs,f.length≤65536:=by
  unfold jM at h
  simp only[bZ,cN,gx] at h
  exact h
theorem vi {fs:List aj} (h1:fs.length≤1024) (h2:∀f∈fs,f.length≤65536):jM fs=true:=by
  unfold jM
  simp only[bZ,cN,gx]
  exact⟨h1,h2⟩
theorem vj {fs:List aj} (h:jM fs=true):aJ (dW fs)=(fs,0):=by
  obtain⟨h1,h2⟩:=Dx h
  exact I9 fs [] h2 (by simpa using h1)
theorem I_:∀(l out:List Int),l.all gi=true→j7 (eC l).length (eC l) out=(out++l,0)
  |[],out,_=>by simp[eC,j7]
  |v::l,out,h=>by
   rw[jD,bZ] at h
   have e:eC (v::l)=eP v++eC l:=by unfold eC;rw[tn]
   have hr:=I6 h.1 (eC l)
   rw[←e] at hr
   have hp:=I7 v
   have hlen:(eC (v::l)).length=(eP v).length+(eC l).length:=by rw[e,b_]
   rw[CQ (by omega),hr]
   simp only[]
   rw[aL (by simp)]
   have hd:(eC (v::l)).drop ((eP v).length:Int).toNat=eC l:=by rw[Dg,e,zP]
   rw[hd,I_ l (out++[v]) h.2,cJ]
   rfl
theorem xF {l:List Int} (h:l.all gi=true):bh (eC l)=(l,0):=I_ l [] h
theorem xG {fs:List aj} (h:(b7 fs).2=0):jM fs=true∧(b7 fs).1=dW fs:=by
  unfold b7 at *
  split at h
  · rename_i hj;exact⟨hj,by rw[aY hj]⟩
  · simp at h
theorem tO {fs:List aj} (h:jM fs=true):b7 fs=(dW fs,0):=by unfold b7;rw[aY h]
theorem r7 {l:List Int} (h:l.all gi=true):cr l=(eC l,0):=by unfold cr;rw[aY h]
theorem r8 {v:Int} (h:eW v=true):gi v=true∧0≤v∧v≤4611686018427387902:=by
  unfold eW at h
  simp only[bZ,cN] at h
  exact⟨jN (by omega) (by omega),h⟩
theorem Ja {x:Result} (h:jw x=true):(tJ x).all gi=true:=by
  have ho:=Ds h
  unfold jw at h
  simp only[jD,me,bZ,mh] at h
  unfold tJ
  simp only[jD,me,bZ,mh]
  obtain⟨⟨h1,h2,h3,h4,h5,h6⟩,_⟩:=h
  exact⟨(r8 h1).1,(r8 h2).1,(r8 h3).1,(r8 h4).1,jN (by omega) (by omega),(r8 h5).1,(r8 h6).1⟩
theorem Dy {l:List Int} (h:l.all gi=true) (n:Int) (hn:(l.length:Int)=n):fc (eC l) n=true:=by
  unfold fc
  rw[xF h]
  simp[hn]
set_option linter.unusedSectionVars false
open Go Go.MapKept
def j9 (es:Array MapEntry) (sb:Array Nat):Array MapEntry:=es.filter fun e=>!sb.contains e.born
def jy {κ:Type} (enc:κ→Value) (es:Array MapEntry) (aZ m:Nat) (rs:List (κ×Value)) (cur:Option (κ×Value)) (o:Obj):Prop:=
  ∃sb,o=.mapIter (some m) aZ sb aZ∧(j9 es sb).toList.map (fun e=>(e.key,e.val))=rs.map (fun p=>(enc p.1,p.2))∧∀p,cur=some p→∃y∈es.toList,y.key=enc p.1∧y.val=p.2∧sb.back?=some y.born
section
variable {κ:Type} {enc:κ→Value} {es:Array MapEntry} {aZ m:Nat} {rs ks:List (κ×Value)} {cur:Option (κ×Value)} {o:Obj}
theorem jy.start (hR:cG enc es aZ ks):jy enc es aZ m ks none (.mapIter (some m) aZ #[] aZ):=by
  refine⟨#[],rfl,?_,fun p h=>by cases h⟩
  have:j9 es #[]=es:=by unfold j9;rw[BH];intro x _;simp
  rw[this];exact hR.1
theorem kZ.toD (H:kZ enc es aZ m [] ks o) (hR:cG enc es aZ ks):jy enc es aZ m ks none o:=by
  obtain⟨u,rest,rfl,_,h2,_⟩:=H
  obtain rfl:u=[]:=by simpa using h2
  exact jy.start hR
theorem jy.Ac (H:jy enc es aZ m rs cur o):jy enc es aZ m rs none o:=by
  obtain⟨sb,h1,h2,_⟩:=H
  exact⟨sb,h1,h2,fun p h=>by cases h⟩
theorem Jb {P:Program} {w:World} {it ty:Nat} (hst:Stamped es aZ) (hI:jy enc es aZ m rs cur o) (hb:w.heap[m]?=some (.map es aZ)) (hit:w.heap[it]?=some o):
    (rs=[]∧∃w',(Instr.next (.pointer (some ⟨it,0,none⟩)) false ty).run P w=.ok (.tuple #[.bool false]) w'∧w'.heap=w.heap∧w'.os=w.os∧w'.tape=w.tape∧w'.output=w.output)∨
    (∃a k v b o' w',rs=a++(k,v)::b∧(Instr.next (.pointer (some ⟨it,0,none⟩)) false ty).run P w=.ok (.tuple #[.bool true,enc k,v]) w'∧w'.heap=w.heap.setIfInBounds it o'∧w'.os=w.os∧w'.tape=w.tape∧w'.output=w.output∧
      jy enc es aZ m (a++b) (some (k,v)) o'):=by
  obtain⟨sb,rfl,hr,_⟩:=hI
  obtain⟨hlt,X,_⟩:=hst
  have I:∀n:Nat,1≤n→∃fJ w',(choose (.mapNext n)).run P w=.ok fJ w'∧fJ<n∧w'.heap=w.heap∧w'.os=w.os∧w'.tape=w.tape∧w'.output=w.output:=by
    intro n hn
    rw[run_choose_drew]
    by_cases h1:n≤1
    · exact⟨0,w,by simp[Question.forced,h1],by omega,rfl,rfl,rfl,rfl⟩
    · exact⟨w.tape w.drawn (.mapNext n) % n,w.drew,by simp[Question.forced,h1,Question.cut],uk _ (by omega),rfl,rfl,rfl,rfl⟩
  have J:∀x∈j9 es sb,x.born<aZ:=fun x hx=>hlt x (by unfold j9 at hx;rw[Array.mem_filter] at hx;simpa using hx.1)
  have hl:es.filter (fun e=>!sb.contains e.born)=j9 es sb:=rfl
  have hold:(j9 es sb).filter (fun e=>decide (e.born<aZ))=j9 es sb:=by
    rw[BH];exact fun x hx=>by simpa using J x hx
  have hnew:(j9 es sb).filter (fun e=>decide (e.born≥aZ))=#[]:=by
    rw[FV];exact fun x hx=>by have:=J x hx;simp;omega
  have O:(!sb.isEmpty&&!es.isEmpty&&es.all fun e=>decide (e.born≥aZ))=false:=by
    cases he:es.isEmpty with
    |true=>simp
    |false=>
     have hne:es≠#[]:=by intro h;subst h;simp at he
     have u:0<es.size:=yC.2 hne
     have:es.all (fun e=>decide (e.born≥aZ))=false:=by
       rw[Array.all_eq_false]
       exact⟨0,u,by have:=hlt es[0] (by simp);simp;omega⟩
     simp[this]
  generalize hlf:j9 es sb=left at *
  have hg:(getObj it).run P w=.ok (.mapIter (some m) aZ sb aZ) w:=by simp[getObj,Sem.run,hit]
  by_cases D:left=#[]
  · subst D
    have G:rs=[]:=by cases rs with
      |nil=>rfl
      |cons p rs=>simp at hr
    refine .inl ⟨G,?_⟩
    obtain⟨fJ,w',hc,hi,hw⟩:=I 1 (gF _)
    have Y:fJ=0:=by omega
    subst Y
    refine⟨w',?_,hw⟩
    unfold Instr.next
    simp only[Sem.run_bind,hg,Result.andThen_ok,MapKept.run_getObj_map hb,O,fW,dI,Sem.run_pure,hl,hold,hnew]
    have hcs:((if (#[]:Array MapEntry).isEmpty=true then (#[none]:Array (Option MapEntry)) else #[])++((#[]:Array MapEntry)++#[]).map some)=#[none]:=by simp
    simp only[hcs]
    rw[show(#[none]:Array (Option MapEntry)).size=1 from rfl,hc]
    rfl
  · have u:0<left.size:=yC.2 D
    obtain⟨fJ,w',hc,hi,hw⟩:=I left.size u
    have hsplit:left.toList=left.toList.take fJ++left[fJ]::left.toList.drop (fJ+1):=by
      have hi2:fJ<left.toList.length:=by simpa using hi
      have:=lJ fJ left.toList
      rw[v7 hi2] at this
      simpa using this.symm
    obtain⟨Z,p,b',G,h1,h2,h3⟩:=BS hr hsplit
    simp only[gY] at h2
    have hy:left[fJ]∈es.toList:=by
      have:left[fJ]∈j9 es sb:=by rw[hlf];exact Array.getElem_mem hi
      unfold j9 at this
      rw[Array.mem_filter] at this
      simpa using this.1
    refine .inr ⟨Z,p.1,p.2,b',.mapIter (some m) aZ (sb.push left[fJ].born) aZ,{w' with heap:=w'.heap.setIfInBounds it (.mapIter (some m) aZ (sb.push left[fJ].born) aZ)},G,?_,by simp[hw.1],hw.2.1,hw.2.2.1,hw.2.2.2,?_⟩
    · unfold Instr.next
      have ab:w'.heap[it]?=some (.mapIter (some m) aZ sb aZ):=by rw[hw.1];exact hit
      have hem:left.isEmpty=false:=by simpa using D
      have hs:(setObj it (.mapIter (some m) aZ (sb.push left[fJ].born) aZ)).run P w'=.ok () {w' with heap:=w'.heap.setIfInBounds it (.mapIter (some m) aZ (sb.push left[fJ].born) aZ)}:=by simp[setObj,Sem.run,ab]
      simp only[Sem.run_bind,hg,Result.andThen_ok,MapKept.run_getObj_map hb,O,fW,dI,Sem.run_pure,hl,hold,hnew,hem]
      have hcs:((#[]:Array (Option MapEntry))++(left++#[]).map some)=left.map some:=by simp
      simp only[hcs,BI,hc,Result.andThen_ok,Array.getElem?_map,yD hi,lI,Sem.run_bind,hs,Sem.run_pure]
      rw[h2.1,h2.2]
    · refine⟨sb.push left[fJ].born,rfl,?_,fun q hq=>?_⟩
      · have e:(j9 es (sb.push left[fJ].born)).toList=left.toList.take fJ++left.toList.drop (fJ+1):=by
          have e1:∀n,j9 es (sb.push n)=left.filter fun x=>!(x.born==n):=by
            intro n
            rw[←hlf]
            unfold j9
            rw[Array.filter_filter]
            congr 1
            funext x
            rw[Array.contains_push]
            cases sb.contains x.born<;>cases(x.born==n)<;>rfl
          rw[e1,wP]
          conv=>lhs;rw[hsplit]
          rw[nX,iW]
          have U:(left.toList.map (·.born)).Nodup:=by
            rw[←hlf]
            unfold j9
            rw[wP]
            exact uH (List.filter_sublist.map _) X
          rw[hsplit,gA,eS] at U
          have V:=mM.1 U
          have ad:=pL.1 V.2.1
          rw[aL (by simp)]
          congr 1
          · rw[pN]
            intro x hx
            simp only[gz,qD,ne_eq]
            exact V.2.2 _ (cY.2 ⟨x,hx,rfl⟩) _ (by simp)
          · rw[pN]
            intro x hx
            simp only[gz,qD,ne_eq]
            intro e
            exact ad.1 (e▸cY.2 ⟨x,hx,rfl⟩)
        rw[e,gA,gA,h1,h3]
      · obtain rfl:=gI hq
        exact⟨_,hy,h2.1,h2.2,by simp⟩
end
section
variable {C:ff} {ds:List Deferred} {i j:Nat} {r:ay} {M:Nat→Prop} {Ls:List (Nat×Bool)} {e:Env} {h:ay}
variable {h0:ay} {g0:GH} {S0:Nat→Prop} {g:GH} {L:List az}
variable {κ:Type} [DecidableEq κ] {d:TypeDesc} {z:Value} {enc:κ→Value} {es:Array MapEntry} {aZ m mt:Nat} {ks:List (κ×Value)}
theorem Op.Jc {dst:Nat} {x:Operand} {it:Nat} {o1:Obj} {rs:List (κ×Value)} {cur:Option (κ×Value)} (ho:c_ C i j e=some (some dst,.next x false)) (hx:e.ev x=.pointer (some ⟨it,0,none⟩)) (hb:h[m]?=some (.map es aZ)) (hR:cG enc es aZ ks) (hI:jy enc es aZ m rs cur o1)
    (s:St h0 g0 S0 g L h) (n:Nat) (hL:L[n]?=some [(it,o1)]) (hM:it<r.size→M it)
    (K:(rs=[]→Op C ds i r M Ls ((dst,.tuple #[.bool false])::e) h)∧∀a k v b o2 h',rs=a++(k,v)::b→jy enc es aZ m (a++b) (some (k,v)) o2→St h0 g0 S0 g (L.set n [(it,o2)]) h'→Op C ds i r M Ls ((dst,.tuple #[.bool true,enc k,v])::e) h'):Op C ds i r M ((j,false)::Ls) e h:=by
  obtain⟨o,h1,h2,h3⟩:=gm ho
  have hit:=s.ag n hL
  by_cases U:rs=[]
  · subst U
    refine Op.run h1 (R:=fun D h'=>D=.value (.tuple #[.bool false])∧h'=h) ?_ ?_
    · intro w is
      rcases Jb (P:=C.P) (w:=w) (it:=it) (ty:=o.type) hR.2 hI (by rw[is.heap];exact hb) (by rw[is.heap];exact hit) with ⟨_,w',hrun,hw1,G,I,J⟩|⟨a,k,v,b,o',w',u,_⟩
      · refine⟨_,w',?_,⟨rfl,G.trans is.os,I.trans is.tape,J.trans is.output⟩,rfl,hw1.trans is.heap⟩
        unfold eN execOp
        simp only[h3,hx,Sem.run_bind,hrun,Result.andThen_ok,Sem.run_pure]
      · simp at u
    · rintro _ _ ⟨rfl,rfl⟩
      refine⟨_,rfl,fun hk=>hk,?_⟩
      rw[h2]
      exact K.1 rfl
  · refine Op.run h1 (R:=fun D h'=>∃a k v b o2,D=.value (.tuple #[.bool true,enc k,v])∧rs=a++(k,v)::b∧h'=h.setIfInBounds it o2∧jy enc es aZ m (a++b) (some (k,v)) o2) ?_ ?_
    · intro w is
      rcases Jb (P:=C.P) (w:=w) (it:=it) (ty:=o.type) hR.2 hI (by rw[is.heap];exact hb) (by rw[is.heap];exact hit) with ⟨h,_⟩|⟨a,k,v,b,o',w',u,hrun,hw1,G,I,J,O⟩
      · exact absurd h U
      · refine⟨_,w',?_,⟨rfl,G.trans is.os,I.trans is.tape,J.trans is.output⟩,a,k,v,b,o',rfl,u,by rw[hw1,is.heap],O⟩
        unfold eN execOp
        simp only[h3,hx,Sem.run_bind,hrun,Result.andThen_ok,Sem.run_pure]
    · rintro _ _ ⟨a,k,v,b,o2,rfl,u,rfl,O⟩
      refine⟨_,rfl,fun hk=>(iC.set o2 hit).gO hM hk,?_⟩
      rw[h2]
      exact K.2 a k v b o2 _ u O (s.kV n hL o2)
theorem Op.Jd {dst:Nat} {x:Operand} {it:Nat} {o1:Obj} {rs:List (κ×Value)} {k:κ} {v:Value} (ho:c_ C i j e=some (some dst,.entry x)) (hx:e.ev x=.pointer (some ⟨it,0,none⟩)) (hb:h[m]?=some (.map es aZ)) (hR:cG enc es aZ ks) (hI:jy enc es aZ m rs (some (k,v)) o1)
    (hit:h[it]?=some o1) (K:Op C ds i r M Ls ((dst,.tuple #[enc k,v])::e) h):Op C ds i r M ((j,false)::Ls) e h:=by
  obtain⟨o,h1,h2,h3⟩:=gm ho
  refine Op.run h1 (R:=fun G h'=>G=.value (.tuple #[enc k,v])∧h'=h) ?_ ?_
  · intro w is
    refine⟨_,w,?_,is.again,rfl,is.heap⟩
    obtain⟨sb,rfl,hr,hc⟩:=hI
    obtain⟨y,u,e3,I,J⟩:=hc (k,v) rfl
    have O:w.heap[m]?=some (.map es aZ):=by rw[is.heap];exact hb
    have hfind:es.find? (fun x=>x.born==y.born)=some y:=by
      cases hf:es.find? (fun x=>x.born==y.born) with
      |none=>
       rw[FX] at hf
       have:=hf y (by simpa using u)
       simp at this
      |some z=>
       have h5:=Array.find?_some hf
       have h6:z∈es.toList:=by simpa using FY hf
       have h7:z.born=y.born:=by simpa using h5
       have U:=hR.2.2.1
       obtain⟨V,hi1⟩:=pO.1 h6
       obtain⟨i2,hi2⟩:=pO.1 u
       have D:(es.toList.map (·.born))[V]?=some y.born:=by rw[jC,hi1];simp[h7]
       have X:(es.toList.map (·.born))[i2]?=some y.born:=by rw[jC,hi2];rfl
       have hlt:=(fO.1 D).1
       have:=(BG hlt U).1 (D.trans X.symm)
       subst this
       rw[hi1] at hi2
       exact congrArg some (gI hi2)
    have hg:(getObj it).run C.P w=.ok (.mapIter (some m) aZ sb aZ) w:=by simp[getObj,Sem.run,is.heap,hit]
    unfold eN execOp
    have hrun:(Instr.entry (e.ev x)).run C.P w=.ok (.tuple #[enc k,v]) w:=by
      unfold Instr.entry
      simp only[hx,Sem.run_bind,hg,Result.andThen_ok,J,MapKept.run_getObj_map O,hfind,bne_self_eq_false,fW,dI,Sem.run_pure]
      rw[e3,I]
    simp only[h3,Sem.run_bind,hrun,Result.andThen_ok,Sem.run_pure]
  · rintro _ _ ⟨rfl,rfl⟩
    refine⟨_,rfl,fun hk=>hk,?_⟩
    rw[h2]
    exact K
end
theorem Je {α:Type} {p:α→Bool}:∀{l:List α} {j:Nat} {y:α},l[j]?=some y→p y=false→(l.eraseIdx j).filter p=l.filter p
  |[],_,_,h,_=>by simp at h
  |x::l,0,y,h,hp=>by
   simp at h
   subst h
   rw[FT,iW,aL (by simp[hp])]
  |x::l,j+1,y,h,hp=>by
   rw[FU,iW,iW,Je (by simpa using h) hp]
section
variable {P:Program} {w:World} {κ:Type} [DecidableEq κ] {d:TypeDesc} {z:Value} {enc:κ→Value} {es:Array MapEntry} {aZ m mt:Nat} {ks:List (κ×Value)}
theorem PK {wU:TypeId} {ty:TypeId} (hT:kY P mt=some (d,z)) (hK:ku d enc) (hR:cG enc es aZ ks) (hb:w.heap[m]?=some (.map es aZ)) (k:κ):
    ∃u,(Builtin.delete_ #[mt,wU] ty #[.map (some m),enc k]).run P w=.ok eY {w with heap:=w.heap.setIfInBounds m (.map u aZ)}∧cG enc u aZ (jm ks k)∧(u=es∨∃j y,es[j]?=some y∧y.key=enc k∧u=es.eraseIdxIfInBounds j):=by
  obtain⟨kt,et,D,hu,hd,hi,hz⟩:=uJ hT
  rcases hR.find hK k with ⟨h1,h2,h3⟩|⟨j,e,h1,h2,h3,h4⟩
  · refine⟨es,?_,by rw[BQ h3];exact hR,.inl rfl⟩
    simp[Builtin.delete_,run_underlying hu,MapKept.run_getObj_map hb,run_checkKey hd (hK.ok k),run_findKey hd h1,MapKept.run_setObj_map _ hb,Result.andThen]
  · refine⟨_,?_,hR.F3 hK h2 h4,.inr ⟨j,e,h2,h3,rfl⟩⟩
    simp[Builtin.delete_,run_underlying hu,MapKept.run_getObj_map hb,run_checkKey hd (hK.ok k),run_findKey hd h1,MapKept.run_setObj_map _ hb,Result.andThen]
theorem jy.n7 {rs:List (κ×Value)} {k:κ} {v:Value} {o:Obj} {u:Array MapEntry} (hR:cG enc es aZ ks) (H:jy enc es aZ m rs (some (k,v)) o) (he:u=es∨∃j y,es[j]?=some y∧y.key=enc k∧u=es.eraseIdxIfInBounds j):jy enc u aZ m rs none o:=by
  rcases he with rfl|⟨j,y,hj,hy,rfl⟩
  · exact H.Ac
  · obtain⟨sb,rfl,hr,hc⟩:=H
    refine⟨sb,rfl,?_,fun p h=>by cases h⟩
    obtain⟨x,hx,e1,_,e3⟩:=hc (k,v) rfl
    have U:=(lF.1 hj).1
    have O:x=y:=by
      have D:=hR.2.2.2
      obtain⟨G,hi1⟩:=pO.1 hx
      have I:es.toList[j]?=some y:=by simpa using hj
      rw[List.Nodup,yz] at D
      obtain⟨l1,g1⟩:=fO.1 hi1
      obtain⟨J,g2⟩:=fO.1 I
      rcases Nat.lt_trichotomy G j with hlt|rfl|hlt
      · exfalso
        have:=D G j (by simpa using l1) (by simpa using J) hlt
        simp only[wK,g1,g2] at this
        exact this (e1.trans hy.symm)
      · rw[hi1] at I;exact gI I
      · exfalso
        have:=D j G (by simpa using J) (by simpa using l1) hlt
        simp only[wK,g1,g2] at this
        exact this (hy.trans e1.symm)
    subst O
    have hs:sb.contains x.born=true:=by
      rw[Array.contains_iff_mem]
      exact Array.mem_of_back? e3
    have e:(j9 (es.eraseIdxIfInBounds j) sb).toList=(j9 es sb).toList:=by
      unfold j9
      rw[wP,wP,Array.toList_eraseIdxIfInBounds]
      exact Je (by simpa using hj) (by rw[hs];rfl)
    rw[e];exact hr
end
section
variable {C:ff} {ds:List Deferred} {i j:Nat} {r:ay} {M:Nat→Prop} {Ls:List (Nat×Bool)} {e:Env} {h:ay}
variable {h0:ay} {g0:GH} {S0:Nat→Prop} {g:GH} {L:List az}
variable {κ:Type} [DecidableEq κ] {d:TypeDesc} {z:Value} {enc:κ→Value} {es:Array MapEntry} {aZ m mt:Nat} {ks:List (κ×Value)}
theorem Op.PL {dst:Option Tmp} {x ix:Operand} {kt:TypeId} {k:κ} {v:Value} {rs:List (κ×Value)} {o1:Obj} (ho:c_ C i j e=some (dst,.call {callee:=.builtin .delete,args:=#[x,ix],argTypes:=#[mt,kt]})) (hT:kY C.P mt=some (d,z)) (hK:ku d enc) (hx:e.ev x=.map (some m)) (G:e.ev ix=enc k)
    (s:St h0 g0 S0 g L h) (n:Nat) (hL:L[n]?=some [(m,.map es aZ)]) (hR:cG enc es aZ ks) (hI:jy enc es aZ m rs (some (k,v)) o1) (hM:m<r.size→M m)
    (K:∀u h',cG enc u aZ (jm ks k)→jy enc u aZ m rs none o1→St h0 g0 S0 g (L.set n [(m,.map u aZ)]) h'→Op C ds i r M Ls (e.fX dst eY) h'):Op C ds i r M ((j,false)::Ls) e h:=by
  obtain⟨o,h1,h2,h3⟩:=gm ho
  have hb:=s.ag n hL
  refine Op.run h1 (R:=fun I h'=>I=.value eY∧∃u,cG enc u aZ (jm ks k)∧jy enc u aZ m rs none o1∧h'=h.setIfInBounds m (.map u aZ)) ?_ ?_
  · intro w is
    obtain⟨u,hrun,D,he⟩:=PK (P:=C.P) (w:=w) (wU:=kt) (ty:=o.type) hT hK hR (by rw[is.heap];exact hb) k
    refine⟨.value eY,_,?_,(is.kV m (.map u aZ)).again,rfl,u,D,hI.n7 hR he,by simp[is.heap]⟩
    refine pH h3 (.inr (.inr (.inr (.inr (.inr (.inl rfl)))))) ?_
    simp only[pG,eS,kQ,hx,G]
    exact hrun
  · rintro _ _ ⟨rfl,u,D,J,rfl⟩
    refine⟨_,rfl,fun hk=>(iC.set (.map u aZ) hb).gO hM hk,?_⟩
    rw[h2]
    exact K u _ D J (s.kV n hL (.map u aZ))
end
set_option maxRecDepth 100000
def p7 (g:GH) (a:dQ) (v:Value):Prop:=v=.agg #[.int .i64 a.ax,.int .i64 a.aI,.int .i64 a.dx]
theorem p7.mono {g g':GH} {a:dQ} {v:Value} (hg:aM g g') (h:p7 g a v):p7 g' a v:=h
def iy (g:GH) (b:Nat) (x:List (Int×dQ)) (c:az):Prop:=n8 p7 g b x c
theorem iy.mono {g g':GH} {b:Nat} {x:List (Int×dQ)} {c:az} (h:iy g b x c) (hg:aM g g'):iy g' b x c:=n8.mono (fun _ _=>p7.mono hg) h
theorem iy.bw {g g':GH} {b:Nat} {x:List (Int×dQ)} {c:az} (h:iy g b x c):iy g' b x c:=n8.mono (fun _ _ h=>h) h
theorem iy.eq {g:GH} {b:Nat} {x y:List (Int×dQ)} {c:az} (h:iy g b x c) (e:x=y):iy g b y c:=e▸h
def tP (g:GH) (b:Nat) (x:List (Int×dQ)):Prop:=pW p7 g b x
theorem tP.mono {g g':GH} {b:Nat} {x:List (Int×dQ)} (h:tP g b x) (hg:aM g g'):tP g' b x:=pW.mono hg (fun _ _=>p7.mono hg) h
theorem iy.fK {h0:ay} {g0:GH} {S0:Nat→Prop} {g:GH} {L:List az} {h:ay} {C c:az} {b:Nat} {x:List (Int×dQ)} (H:iy g b x c) (s:St h0 g0 S0 g (C::L) h) (hc:∀p∈c,p∈C):tP (cS g C) b x:=n8.fK (fun _ _=>p7.mono s.gH) H s hc
def fU (g:GH) (b:Nat) (x:f_) (c:az):Prop:=∃b0 c0,c=(b,.cells #[.map (some b0)] 143 (0,0))::c0∧iy g b0 x c0
theorem fU.mono {g g':GH} {b:Nat} {x:f_} {c:az} (h:fU g b x c) (hg:aM g g'):fU g' b x c:=by
 obtain⟨b0,c0,e,h0⟩:=h
 exact⟨b0,c0,e,h0.mono hg⟩
theorem fU.eq {g:GH} {b:Nat} {x y:f_} {c:az} (h:fU g b x c) (e:x=y):fU g b y c:=e▸h
theorem fU.bw {g g':GH} {b:Nat} {x:f_} {c:az} (h:fU g b x c):fU g' b x c:=by
 obtain⟨b0,c0,e,h0⟩:=h
 exact⟨b0,c0,e,h0.bw⟩
def p9 (g:GH) (b:Nat) (x:List Int) (c:az):Prop:=∃v0 c0,c=(b,.cells #[v0] 78 (0,0))::c0∧aH 3 (dK .i64) g v0 x c0
theorem p9.eq {g:GH} {b:Nat} {x y:List Int} {c:az} (h:p9 g b x c) (e:x=y):p9 g b y c:=e▸h
abbrev jV:Array Value:=#[vI 0,vI 0,vI 0]
theorem PM (g0:GH) (bd D:Nat) (x:List (Int×dQ)) (J:g0 bd=some (.cells #[.map (some D)] 141 (0,0))) (ab:tP g0 D x):jl prog g0 99 #[vP bd] pX (fun b5=>b5.Perm (x.map (·.1))):=by
 intro B h g l I go c be hg a3 a4 b6 b8 hs
 replace J:=be _ _ J
 replace ab:=ab.mono be
 refine aG.aq func99 fun R hR=>At.rg 2<|Op.l1 141 1 4 0 (.map (some D)) (hs.sub _ _ J) ?_
 obtain⟨bi,bj,a5,G,ad,ae⟩:=ab
 have ab:tP g D x:=⟨bi,bj,a5,G,ad,ae⟩
 refine Op.s_ (d:=.int .i64) (z:=.agg jV) (mt:=141) (x:=4) (dst:=5) (m:=D) (by kernel_rfl) (by kernel_rfl) (by kernel_rfl) (hs.sub _ _ G) ad hs fun O ca ci cb ce=>Op.gt 1 ?_
 have cf:∀(m:Nat) (am:GH) (U:aM g am) (vs:List (Int×Value)) (rs:List (Int×Value)) (c1:az) (o1:Obj) (a6:ay) (hm:rs.length<m) (ar:go (vs.map (·.1))=true) (aw:qH go (vs.map (·.1))) (X:(vs++rs).Perm a5) (a7:I (vs.map (·.1)) am c1) (bk:kZ encI bi bj D vs rs o1) (a0:St h g (aS [c]) am [[(O,o1)],c1] a6),At (bP prog B 99 f99 R) [] 1 [(0,.func (.yield l) #[] #[]),(5,vP O)] a6:=by
  intro m;induction m with
  |zero=>intros;omega
  |succ m ch=>
   intro am U vs rs c1 o1 a6 hm ar aw X a7 bk a0
   replace a3:=a3.mono U
   replace a4:=a4.mono U
   replace J:=U _ _ J
   replace G:=U _ _ G
   refine At.rg 2<|Op.wV (x:=5) (dst:=6) (it:=O) (m:=D) (by kernel_rfl) (by kernel_rfl) (a0.sub _ _ G) ad bk a0 0 rfl zt ⟨fun V=>?_,fun Y u a1 Z a8 ck V bm a9=>?_⟩
   ·exact Op.pg 2 [(7,vF)]<|At.cQ 7 7<|At.rt eY<|hR a0.drop ⟨(vs.map (·.1)),vs.map (·.1),c1,rfl,by exact xk X V (ae.2.2.1),by exact rB _,by exact fun _=>rfl,by exact aw,rfl,a7⟩
   refine Op.pg 2 [(7,vT)]<|At.bT 7 3<|At.rg 3<|Op.wW (x:=5) (dst:=8) (it:=O) (m:=D) (vs:=vs) (k:=u) (v:=a1) (by kernel_rfl) (by kernel_rfl) (a9.sub _ _ G) ad bm (a9.ag 0 rfl)<|Op.pg 4 [(3,vI u)] ?_
   refine At.rp 4 2 [(10,.func (.yield l) #[] #[]),(11,vI u)] ?_
   have bo:=a9.fs [1] rfl
   refine Op.yield (dst:=some 12) (x:=10) (ops:=#[11]) (ts:=#[3]) (l:=l) (args:=#[vI u]) (Lc:=[c1]) (L:=[[(O,a8)]]) (by kernel_rfl) (by kernel_rfl) (by kernel_rfl) bo (a4 _ _ (vs.map (·.1)) u _ _ (by repeat (first|assumption|exact aM.refl _|apply aM.trans)) a3 (by exact ar) (by rfl) ⟨((vs++[(u,a1)])++(Y++Z)).map (·.1),by exact pT X V (ae.2.2.1),by exact⟨(Y++Z).map (·.1),by simp⟩⟩ a7 (St.part (Lc:=[c1]) (L:=[[(O,a8)]]) bo)) (fun _ _ _=>trivial) ?_
   rintro _ co _ c3 bs bt ⟨b3,rfl,rfl,b4⟩
   replace J:=bs _ _ J
   replace G:=bs _ _ G
   refine Op.pg 5 [(13,.bool (!(go (vs.map (·.1)++[u]))))]<|At.cW (!(go (vs.map (·.1)++[u]))) 13 6 1 (fun bb=>?_) fun bc=>?_
   ·replace bb:=(dn bb)
    exact At.rt eY<|hR ((bt.fs [1] rfl).drop) ⟨((vs++[(u,a1)])++(Y++Z)).map (·.1),vs.map (·.1)++[u],b3,rfl,by exact pT X V (ae.2.2.1),by exact⟨(Y++Z).map (·.1),by simp⟩,by exact fun h=>absurd h (iT.1 bb),by exact n6 aw ar,rfl,b4⟩
   replace bc:=(dr bc)
   exact At.ke (ch _ (aM.trans U (by repeat (first|assumption|apply aM.trans))) (vs++[(u,a1)]) (Y++Z) b3 a8 _ (by have hz:=congrArg List.length V;simp only[b_,bJ] at hz ⊢;omega) (by simpa using bc) (by simpa using n6 (x:=u) aw ar) (by exact rM X V) (by simpa using b4) bm (bt.fs [1] rfl))
 exact At.ke (cf _ _ (aM.refl _) [] a5 c ca _ (bG _) (by exact b6) (by exact uY go) (by exact ga _) (by exact b8) cb ce)
theorem PN (B:World) (h:ay) (g:GH) (hg:bu g h) (ab:bz g) (u:Nat) (x:List (Int×dQ)) (G:tP g u x):
  aG prog B 78 #[.map (some u)] h g [] (fun V g' L'=>∃f0 I,V=.func (.func f0) #[] I∧eg prog f0∧jl prog g' f0 I pX (fun X=>X.Perm (x.map (·.1)))∧L'=[]):=by
 refine aG.aq func78 fun R hR=>At.rg 2<|Op.bx 1 141 0 #[.map (some u)] (St.init hg) fun D ad Y=>Op.pg 1 []<|At.go 2 2 [(2,.func (.func 99) #[] #[vP D])] ?_
 obtain⟨J,O⟩:=St.freeze (Y)
 have U:=iK (g:=g) D (.cells #[.map (some u)] 141 (0,0))
 generalize Z:cS g _=ae at J O U;clear Z
 replace G:=G.mono O
 exact At.rt (.func (.func 99) #[] #[vP D]) (hR J ⟨99,#[vP D],rfl,eg.of (by kernel_rfl),PM _ D u x U G,rfl⟩)
theorem PO (B:World) (h:ay) (g:GH) (hg:bu g h) (b6:bz g) (V:Nat) (X:Array Value) (q:List Int) (b8:eg prog V) (ca:jl prog g V X pX (fun am=>am.Perm q)) (hq:q.length≤1000000000):
  aG prog B 100 #[vN,.func (.func V) #[] X] h g [] (fun cb g' L'=>∃a9 v0 bb,cb=v0∧a9.Perm q∧aH 3 (dK .i64) g' v0 a9 bb∧g'=g∧L'=[bb]):=by
 refine aG.aq func100 fun R hR=>At.rg 2<|Op.bx 2 78 0 #[vN] (St.init hg) fun D dv ce=>Op.pg 1 [(4,vN)]<|At.go 2 1 [(6,.func (.func V) #[] X)] ?_
 refine At.kp [(2,vP D),(4,vN),(6,.func (.func V) #[] X)] ?_
 have cf:=aH.zero 3 (dK .i64) g none
 refine At.rangeFunc (x:=6) (f:=V) (cp:=X) (by kernel_rfl) rfl (by kernel_rfl) (by kernel_rfl) b8 ce.nl fun u G J bc ch ci=>?_
 have ck:St h g (aS []) g [[(G,.loop (cZ (dD 100 J (pt (cL f100) 2) u) none))],[(D,Obj.cells #[vL none (([]:List Int).length) 0] 78 (0,0))],[],[(u,.deferred (some []))]] bc:=(ci.fs [1,2,3,3] rfl)
 have a3:St h g (aS []) g [(([(G,.loop (cZ (dD 100 J (pt (cL f100) 2) u) none))]:az)++([(D,Obj.cells #[vL none (([]:List Int).length) 0] 78 (0,0))]:az)++([]:az):az),[(u,.deferred (some []))]] bc:=St.bw (L:=[[(G,.loop (cZ (dD 100 J (pt (cL f100) 2) u) none))],[(D,Obj.cells #[vL none (([]:List Int).length) 0] 78 (0,0))],[],[(u,.deferred (some []))]]) (by simp only[cm,List.flatten_nil,cJ,dL,dS,dm]) ck
 obtain⟨bd,ar⟩:∃I:List Int→GH→az→Prop,I=(fun xs g2 c2=>∃(out:List Int) (be:Option Addr) (bi:Nat) (bj:az),c2=(([(G,.loop (cZ (dD 100 J (pt (cL f100) 2) u) none))]:az)++([(D,Obj.cells #[.slice be out.length bi] 78 (0,0))]:az)++(bj:az):az)∧aH 3 (dK .i64) g2 (.slice be out.length bi) out bj∧out=xs):=⟨_,rfl⟩
 have co:ry prog B G pX (fun am=>am.Perm q) (fun _=>true) bd g:=by
  intro a4 aw dC O dE dT d0 d1 d2 c3 c4 bk c5
  rw[ar] at bk
  obtain⟨U,a0,a1,a5,rfl,c6,bm⟩:=bk
  obtain rfl:=c3
  have hlen:U.length+1≤q.length:=by(obtain⟨am,h1,h2⟩:=c4;have h3:=h2.length_le;have h4:=h1.length_eq;rw[bm];simp only[b_,bJ,cF] at h3;omega)
  have bo:St a4 aw (aS [(([(G,.loop (cZ (dD 100 J (pt (cL f100) 2) u) none))]:az)++([(D,Obj.cells #[vL a0 U.length a1] 78 (0,0))]:az)++(a5:az):az)]) aw [[(G,.loop (cZ (dD 100 J (pt (cL f100) 2) u) none))],[(D,Obj.cells #[vL a0 U.length a1] 78 (0,0))],a5] a4:=St.bw (by simp only[cm,List.flatten_nil,cJ,dL,dS,dm]) c5
  refine ru.ri (n:=f100.ntmps) (e0:=[(2,vP D),(4,vN),(6,.func (.func V) #[] X)]) (e:=[(7,vI O),(2,vP D),(4,vN),(6,.func (.func V) #[] X)]) (bo.ag 0 rfl) ch (by kernel_rfl) (by kernel_rfl) (by kernel_rfl) (by kernel_rfl) fun d3 c8=>At.go 1 1 [(5,vI O)]<|At.beginRound rfl (by kernel_rfl) bo 0 rfl 2 (by kernel_rfl) fun d4 bs=>At.rg 5<|Op.l1 78 2 8 0 (vL a0 U.length a1) (bs.ag 1 rfl) ?_
  refine Op.px 1 [(9,vI O)]<|Op.ls 10 1 3 #[vI O] bs fun d5 d6 bt=>Op.ap 8 10 78 78 11 3 8 (dK .i64) (ys:=[O]) c6 bt 3 (⟨_,_,rfl,rfl,Reads.nil⟩) (by(simp only[bJ,cF];omega)) (fun _ _ _=>trivial) (cT.lit (m:=1) (sz:=1) (bt.ag 0 rfl) (news:=[vI O]) rfl rfl (by simp[Value.oneCell']) _) fun d7 a6 d8 b3 c9 d9=>?_
  obtain⟨ad,ae,rfl⟩:=b3.ak
  refine Op.s1 78 2 11 0 (vL ad ((U++([O])).length) ae) 1 #[vL ad ((U++([O])).length) ae] ((c9).drop) zt fun ea da=>Op.gt 3<|At.wM (j:=none) (by kernel_rfl) da 0 rfl fun db dc=>?_
  have dd:St a4 aw (aS [(([(G,.loop (cZ (dD 100 J (pt (cL f100) 2) u) none))]:az)++([(D,Obj.cells #[vL a0 U.length a1] 78 (0,0))]:az)++(a5:az):az)]) aw [(([(G,.loop (cZ (dD 100 J (pt (cL f100) 2) u) none))]:az)++([(D,Obj.cells #[vL ad ((U++([O])).length) ae] 78 (0,0))]:az)++(a6:az):az)] db:=St.bw (L:=[[(G,.loop (cZ (dD 100 J (pt (cL f100) 2) u) none))],[(D,Obj.cells #[vL ad ((U++([O])).length) ae] 78 (0,0))],a6]) (by simp only[cm,List.flatten_nil,cJ,dL,dS,dm]) dc
  refine c8 _ _ _ _ dd ⟨_,by rfl,rfl,?_⟩
  rw[ar];exact⟨(U++([O])),ad,ae,a6,rfl,b3,(by rw[bm])⟩
 refine sW.call (Lc:=[(([(G,.loop (cZ (dD 100 J (pt (cL f100) 2) u) none))]:az)++([(D,Obj.cells #[vL none (([]:List Int).length) 0] 78 (0,0))]:az)++([]:az):az)]) (L:=[[(u,.deferred (some []))]]) a3 (ca B _ _ _ bd (fun _=>true) _ (aM.refl _) a3.sub b6 co rfl (by rw[ar];exact⟨([]:List Int),none,0,[],rfl,cf,(by rfl)⟩) (St.part (Lc:=[(([(G,.loop (cZ (dD 100 J (pt (cL f100) 2) u) none))]:az)++([(D,Obj.cells #[vL none (([]:List Int).length) 0] 78 (0,0))]:az)++([]:az):az)]) (L:=[[(u,.deferred (some []))]]) a3)) ?_
 rintro _ df _ dg eb dj ⟨ed,ee,ef,rfl,eh,ej,dk,em,rfl,b4⟩
 have hx:=dk rfl;subst hx
 rw[ar] at b4
 obtain⟨Y,Z,ab,a7,rfl,a8,dl⟩:=b4
 have dp:St h g (aS []) df [[(G,.loop (cZ (dD 100 J (pt (cL f100) 2) u) none))],[(D,Obj.cells #[vL Z Y.length ab] 78 (0,0))],a7,[(u,.deferred (some []))]] dg:=St.bw (by simp only[cm,List.flatten_nil,cJ,dL,dS,dm]) dj
 refine ia.wN (j:=none) dp 0 rfl fun en dq=>?_
 have b5:=dq.drop
 refine ia.bB 3 (by kernel_rfl)<|At.rg 2<|Op.l1 78 2 12 0 (vL Z Y.length ab) (b5.ag 0 rfl)<|Op.pg 4 [(4,vL Z Y.length ab)]<|At.yB (ia.BF (L:=[[(D,Obj.cells #[vL Z Y.length ab] 78 (0,0))],a7]) (f:=f100) (v:=vL Z Y.length ab) [u] (by kernel_rfl) (by kernel_rfl) (b5.fs [1,1,2] rfl) ?_)
 intro ep du
 replace a8:=a8.bw (fun _ _ _ _ h=>h) (g':=g)
 exact hR du.drop.iM ⟨Y,(vL Z Y.length ab),a7,rfl,(by rw[dl];assumption),a8,rfl,rfl⟩
theorem PR (B:World) (h:ay) (g:GH) (hg:bu g h) (Y:bz g) (u:Nat) (D:Array Value) (q:List Int) (Z:eg prog u) (ab:jl prog g u D pX (fun ad=>ad.Perm q)) (hq:q.length≤1000000000):
  aG prog B 79 #[.func (.func u) #[] D] h g [] (fun ae g' L'=>∃I v0 J,ae=v0∧I.Perm q∧aH 3 (dK .i64) g' v0 I J∧g'=g∧L'=[J]):=by
 refine aG.aq func79 fun R hR=>?_
 have O:=St.init hg
 refine At.go 1 1 []<|At.rp 3 1 [(3,.func (.func u) #[] D)]<|Op.c0 (some 4) (PO _ _ _ O.sub Y u D q Z ab (by(try dsimp only)<;>assumption)) O ?_
 rintro _ am _ a1 ar aw ⟨G,a3,a0,rfl,a4,U,a5,rfl⟩;subst am;clear ar
 obtain⟨V,X,rfl⟩:=U.ak
 exact Op.pr 2 2 (vL V G.length X) (hR aw ⟨G,(vL V G.length X),a0,rfl,‹_›,U,rfl,rfl⟩)
theorem Dz (B:World) (h:ay) (g:GH) (hg:bu g h) (Z:bz g) (u:Nat) (G:Array Value) (q:List Int) (ab:eg prog u) (ad:jl prog g u G pX (fun ae=>ae.Perm q)) (hq:q.length≤1000000000):
  aG prog B 56 #[.func (.func u) #[] G] h g [] (fun am g' L'=>∃v0 U,am=v0∧aH 3 (dK .i64) g' v0 (dJ q) U∧g'=g∧L'=[U]):=by
 refine aG.aq func56 fun R hR=>?_
 have V:=St.init hg
 refine At.go 1 1 []<|At.rp 3 1 [(4,.func (.func u) #[] G)]<|Op.c0 (some 5) (PR _ _ _ V.sub Z u G q ab ad (by(try dsimp only)<;>assumption)) V ?_
 rintro _ ar _ a6 aw O ⟨D,a7,a8,rfl,X,Y,a9,rfl⟩;subst ar;clear aw
 obtain⟨I,J,rfl⟩:=Y.ak
 refine Op.pg 2 [(3,vL I D.length J)]<|At.rp 2 1 [(6,vL I D.length J)]<|Op.cl (some 7) 1 O (Io _ _ _ O.sub _ D _ Y (by(have:=yI X;omega)) (St.pt 1 O)) ?_
 rintro _ a0 _ bb a1 a3 ⟨rfl,bc,a4,a5,rfl⟩;subst a0;clear a1
 exact Op.gt 3<|At.gr 4 2 2 (vL I D.length J) (hR a3 ⟨(vL I D.length J),a4,rfl,dP a5 (by exact Ik X),rfl,rfl⟩)
theorem PS (B:World) (h:ay) (g:GH) (hg:bu g h) (ad:bz g):
  aG prog B 49 #[] h g [] (fun I g' L'=>∃b0 G,I=vP b0∧fU g' b0 ([]:f_) G∧g'=g∧L'=[G]):=by
 refine aG.aq func49 fun R hR=>At.go 1 1 []<|At.rg 4<|Op.makeMap (mt:=141) (dst:=1) (by kernel_rfl) (St.init hg) fun u ae J=>?_
 have O:cG encI #[] 0 ([]:List (Int×Value)):=cG.empty _ _
 have U:fu (p7 g) [] ([]:List (Int×dQ)):=fu.nil
 refine Op.px 1 [(2,.agg #[.map (some u)])]<|Op.bx 3 143 2 #[.map (some u)] J fun D am V=>Op.pg 2 [(0,vP D)] ?_
 have X:iy g u ([]:List (Int×dQ)) [(u,.map #[] 0)]:=⟨_,_,_,rfl,O,U⟩
 obtain⟨Y,Z,ab⟩:=St.bF (Q:=fU g D ([]:List (Int×dQ))) 2 V ⟨_,_,rfl,X⟩
 exact At.rt (vP D) (hR ab ⟨D,Y,rfl,Z.eq (by rfl),rfl,rfl⟩)
theorem PT (B:World) (h:ay) (g:GH) (hg:bu g h) (I:bz g) (s:dQ):
  aG prog B 114 #[.agg #[vI s.ax,vI s.aI,vI s.dx]] h g [] (fun G g' L'=>G=.bool (gW s)∧g'=g∧L'=[]):=by
 refine aG.aq func114 fun R hR=>At.rg 2<|Op.bx 1 152 0 #[vI s.ax,vI s.aI,vI s.dx] (St.init hg) fun D J u=>Op.pg 1 []<|At.rp 29 1 [(3,vP D)] ?_
 refine Op.l1 3 3 4 0 (vI s.ax) (u.ag 0 rfl)<|Op.px 2 [(6,.bool (decide (s.ax≥0)))]<|Op.wd (s.ax≥0) 6 (fun O=>?_) fun U=>?_
 ·refine Op.px 1 [(7,vP D)]<|Op.l1 3 7 8 0 (vI s.ax) (u.ag 0 rfl)<|Op.px 3 [(11,.bool (decide (s.ax<8)))]<|Op.wd (s.ax<8) 11 (fun V=>?_) fun X=>?_
  ·refine Op.px 1 [(12,vQ D 1)]<|Op.l1 3 12 13 1 (vI s.aI) (u.ag 0 rfl)<|Op.px 3 [(16,.bool (decide (s.aI≥1)))]<|Op.wd (s.aI≥1) 16 (fun Y=>?_) fun Z=>?_
   ·refine Op.px 1 [(17,vQ D 1)]<|Op.l1 3 17 18 1 (vI s.aI) (u.ag 0 rfl)<|Op.px 3 [(21,.bool (decide (s.aI≤1000000)))]<|Op.wd (s.aI≤1000000) 21 (fun ab=>?_) fun ad=>?_
    ·refine Op.px 1 [(22,vQ D 2)]<|Op.l1 3 22 23 2 (vI s.dx) (u.ag 0 rfl)<|Op.px 3 [(26,.bool (decide (s.dx≥0)))]<|Op.wd (s.dx≥0) 26 (fun ae=>?_) fun am=>?_
     ·exact Op.px 1 [(27,vQ D 2)]<|Op.l1 3 27 28 2 (vI s.dx) (u.ag 0 rfl)<|Op.pr 2 2 (.bool (decide (s.dx<1099511627776))) (hR u.drop ⟨(bn (by(simp[gW, *];done))),rfl,rfl⟩)
     exact Op.pr 2 2 vF (hR u.drop ⟨(bn (by(simp[gW, *];done))),rfl,rfl⟩)
    exact Op.pr 2 2 vF (hR u.drop ⟨(bn (by(simp[gW, *];done))),rfl,rfl⟩)
   exact Op.pr 2 2 vF (hR u.drop ⟨(bn (by(simp[gW, *];done))),rfl,rfl⟩)
  exact Op.pr 2 2 vF (hR u.drop ⟨(bn (by(simp[gW, *];done))),rfl,rfl⟩)
 exact Op.pr 2 2 vF (hR u.drop ⟨(bn (by(simp[gW, *];done))),rfl,rfl⟩)
theorem PU (B:World) (h:ay) (g:GH) (hg:bu g h) (be:bz g) (D:Nat) (b:f_) (I:az) (Z:fU g D b I) (client:Int) (hs:St h g (aS [I]) g [I] h):
  aG prog B 115 #[vP D,vI client] h g [I] (fun ab g' L'=>∃V,ab=.bool ((cy b client).isSome)∧fU g' D b V∧g'=g∧L'=[V]):=by
 refine aG.aq func115 fun R hR=>At.go 1 1 []<|At.rp 12 3 [(10,vP D)] ?_
 obtain⟨u,ad,ae,am⟩:=Z
 have G:=St.un [ad] ae hs
 refine Op.l1 141 10 11 0 (.map (some u)) (G.ag 0 rfl)<|Op.px 1 [(12,vI client)] ?_
 obtain⟨X,Y,bi,rfl,J,O⟩:=am
 rcases O.gS client with ⟨U,ar⟩|⟨bj,a31,U,ar,aw⟩
 ·refine Op.rF (ok:=true) (d:=.int .i64) (mt:=141) (x:=11) (ix:=12) (dst:=13) (k:=client) (m:=u) (z:=.agg jV) (by kernel_rfl) (by kernel_rfl) kC (by kernel_rfl) (by kernel_rfl) (G.ag 1 rfl) J U<|Op.px 3 [(14,.agg jV),(15,vF)]<|Op.al 5 152 jV G fun bk bm a0=>Op.sg 152 5 14 0 0 jV a0 zt fun bo a1=>Op.pg 2 [(6,vF)] ?_
  refine At.go 3 2 [(4,vF)] ?_
  have a3:iy g u b [(u,.map X Y)]:=⟨_,_,_,rfl,J,O⟩
  obtain⟨a4,a5,a6⟩:=St.bF (Q:=fU g D b) 2 (a1.fs [2,2] rfl) ⟨_,_,rfl,a3⟩
  exact At.rt vF<|hR (a6.fs [1] rfl).drop ⟨a4,(bn (by exact Pk ‹_›)),a5.eq (by rfl),rfl,rfl⟩
 obtain rfl:=aw
 refine Op.pP (ok:=true) (d:=.int .i64) (mt:=141) (x:=11) (ix:=12) (dst:=13) (k:=client) (m:=u) (v:=.agg #[vI a31.ax,vI a31.aI,vI a31.dx]) (z:=.agg jV) (by kernel_rfl) (by kernel_rfl) kC (by kernel_rfl) (by kernel_rfl) (G.ag 1 rfl) J U<|Op.px 3 [(14,.agg #[vI a31.ax,vI a31.aI,vI a31.dx]),(15,vT)]<|Op.al 5 152 jV G fun bs bt a7=>Op.sg 152 5 14 0 0 #[vI a31.ax,vI a31.aI,vI a31.dx] a7 zt fun b3 a8=>Op.pg 2 [(6,vT)] ?_
 refine At.go 3 2 [(4,vT)] ?_
 have a9:iy g u b [(u,.map X Y)]:=⟨_,_,_,rfl,J,O⟩
 obtain⟨bb,bc,bd⟩:=St.bF (Q:=fU g D b) 2 (a8.fs [2,2] rfl) ⟨_,_,rfl,a9⟩
 exact At.rt vT<|hR (bd.fs [1] rfl).drop ⟨bb,(bn (by exact Pj ‹_›)),bc.eq (by rfl),rfl,rfl⟩
theorem PV (B:World) (h:ay) (g:GH) (hg:bu g h) (U:bz g) (u:Nat) (b:f_) (D:az) (V:fU g u b D) (client:Int) (dF:Int) (cc:Int) (hs:St h g (aS [D]) g [D] h):
  aG prog B 92 #[vP u,vI client,vI dF,vI cc] h g [D] (fun am g' L'=>∃X,am=.int .i64 (jO b client dF cc)∧fU g' u (mU b client dF cc) X∧g'=g∧L'=[X]):=by
 refine aG.aq func92 fun R hR=>At.go 1 1 []<|At.rp 6 4 [(13,.agg #[vI client,vI dF,vI cc])]<|Op.al 9 152 jV hs fun bm bo ar=>Op.sg 152 9 13 0 0 #[vI client,vI dF,vI cc] ar zt fun bs G=>?_
 refine Op.gt 2<|At.rg 4<|Op.la 152 9 15 0 3 [vI client,vI dF,vI cc] (G.ag 0 rfl)<|Op.c1 16 (PT _ _ _ G.sub U (⟨client,dF,cc⟩:dQ)) G fun bt Y=>Op.pg 3 [(14,.bool (!(gW (⟨client,dF,cc⟩:dQ))))] ?_
 refine At.cW (!(gW (⟨client,dF,cc⟩:dQ))) 14 4 6 (fun Z=>?_) fun ab=>?_
 ·replace Z:=(dn Z)
  exact At.gr 5 1 8 (vI 120) (hR Y.drop ⟨D,(bg (by exact(Iq ‹_›).1.symm)),V.eq (by exact(Iq ‹_›).2.symm),rfl,rfl⟩)
 replace ab:=(dr ab)
 refine At.rp 4 2 [(19,vP u),(20,vI client)] ?_
 have I:=Y.fs [1] rfl
 refine Op.cl (some 21) 1 I (PU _ _ _ I.sub U u b _ V client (St.pt 1 I)) ?_
 rintro _ aw _ b3 a0 ad ⟨a1,rfl,ae,b4,rfl⟩;subst aw;clear a0
 refine Op.pg 7 [(18,.bool ((cy b client).isSome))]<|At.cW ((cy b client).isSome) 18 8 10 (fun b5=>?_) fun b6=>?_
 ·exact At.go 5 1 [(8,vI 101)]<|At.rt (vI 101)<|hR (ad.fs [1] rfl).drop ⟨a1,(bg (by exact(Ir ‹_› ‹_›).1.symm)),ae.eq (by exact(Ir ‹_› ‹_›).2.symm),rfl,rfl⟩
 obtain⟨J,a3,a4,a5⟩:=ae
 have O:=St.un [a3] a4 ad
 refine At.dw (fun _=>False) [(0,true),(1,true),(2,true),(4,true),(3,true),(5,false),(1006,false),(6,false)]<|Op.px 4 [(24,vP u),(26,vI client)]<|Op.lf 141 24 0 25 1 (.map (some J)) id (O.ag 0 rfl)<|Op.la 152 9 27 0 3 [vI client,vI dF,vI cc] (O.ag 2 rfl)<|Op.ba ?_
 obtain⟨b8,ca,cb,rfl,a6,a7⟩:=a5
 refine Op.ms (.agg jV) 141 25 26 27 client (.agg #[vI client,vI dF,vI cc]) O 1 a6 fun a8 a9 ce bb bc=>?_
 have bd:=fu.pz (k:=client) (a:=(⟨client,dF,cc⟩:dQ)) (v:=.agg #[vI client,vI dF,vI cc]) a7 rfl
 refine Op.gt 11<|At.go 12 1 [(8,vI 0)] ?_
 have be:iy g J (dz b client (⟨client,dF,cc⟩:dQ)) [(J,.map a8 a9)]:=⟨_,_,_,rfl,bb,bd⟩
 obtain⟨bi,bj,bk⟩:=St.bF (Q:=fU g u (dz b client (⟨client,dF,cc⟩:dQ))) 2 bc ⟨_,_,rfl,be⟩
 exact At.rt (vI 0)<|hR (bk.fs [1] rfl).drop ⟨bi,(bg (by exact(It ‹_› ‹_›).1.symm)),bj.eq (by exact(It ‹_› ‹_›).2.symm),rfl,rfl⟩
theorem touchF (B:World) (h:ay) (g:GH) (hg:bu g h) (ce:bz g) (D:Nat) (b:f_) (O:az) (ae:fU g D b O) (client:Int) (cc:Int) (hs:St h g (aS [O]) g [O] h):
  aG prog B 93 #[vP D,vI client,vI cc] h g [O] (fun am g' L'=>∃ab,am=.int .i64 (touchE b client cc)∧fU g' D (touchB b client cc) ab∧g'=g∧L'=[ab]):=by
 refine aG.aq func93 fun R hR=>At.go 1 1 []<|At.rp 12 3 [(12,vP D)] ?_
 obtain⟨u,ar,aw,a0⟩:=ae
 have I:=St.un [ar] aw hs
 refine Op.l1 141 12 13 0 (.map (some u)) (I.ag 0 rfl)<|Op.px 1 [(14,vI client)] ?_
 obtain⟨V,X,cf,rfl,G,J⟩:=a0
 rcases J.gS client with ⟨Y,a1⟩|⟨ch,a31,Y,a1,a3⟩
 ·refine Op.rF (ok:=true) (d:=.int .i64) (mt:=141) (x:=13) (ix:=14) (dst:=15) (k:=client) (m:=u) (z:=.agg jV) (by kernel_rfl) (by kernel_rfl) kC (by kernel_rfl) (by kernel_rfl) (I.ag 1 rfl) G Y<|Op.px 3 [(16,.agg jV),(17,vF)]<|Op.al 7 152 jV I fun ci ck a4=>Op.sg 152 7 16 0 0 jV a4 zt fun co a5=>Op.pg 2 [(8,vF)] ?_
  refine At.go 3 10 [(27,vT)]<|At.bT 27 4<|At.go 5 1 [(6,vI 120)] ?_
  have a6:iy g u b [(u,.map V X)]:=⟨_,_,_,rfl,G,J⟩
  obtain⟨a7,a8,a9⟩:=St.bF (Q:=fU g D b) 2 (a5.fs [2,2] rfl) ⟨_,_,rfl,a6⟩
  exact At.rt (vI 120)<|hR (a9.fs [1] rfl).drop ⟨a7,(bg (by exact(touch_1 ‹_›).1.symm)),a8.eq (by exact(touch_1 ‹_›).2.symm),rfl,rfl⟩
 obtain rfl:=a3
 refine Op.pP (ok:=true) (d:=.int .i64) (mt:=141) (x:=13) (ix:=14) (dst:=15) (k:=client) (m:=u) (v:=.agg #[vI a31.ax,vI a31.aI,vI a31.dx]) (z:=.agg jV) (by kernel_rfl) (by kernel_rfl) kC (by kernel_rfl) (by kernel_rfl) (I.ag 1 rfl) G Y<|Op.px 3 [(16,.agg #[vI a31.ax,vI a31.aI,vI a31.dx]),(17,vT)]<|Op.al 7 152 jV I fun ad c3 bb=>Op.sg 152 7 16 0 0 #[vI a31.ax,vI a31.aI,vI a31.dx] bb zt fun c4 U=>Op.pg 2 [(8,vT)] ?_
 refine At.rp 10 7 [(24,.bool (decide (cc<0)))]<|Op.wd (cc<0) 24 (fun c5=>?_) fun c6=>?_
 ·refine Op.pg 3 [(27,vT)]<|At.bT 27 4<|At.go 5 1 [(6,vI 120)] ?_
  have bc:iy g u b [(u,.map V X)]:=⟨_,_,_,rfl,G,J⟩
  obtain⟨bd,be,bi⟩:=St.bF (Q:=fU g D b) 2 (U.fs [2,2] rfl) ⟨_,_,rfl,bc⟩
  exact At.rt (vI 120)<|hR (bi.fs [1] rfl).drop ⟨bd,(bg (by exact(touch_2 ‹_› (by omega)).1.symm)),be.eq (by exact(touch_2 ‹_› (by omega)).2.symm),rfl,rfl⟩
 refine Op.pg 3 [(27,.bool (decide (cc≥1099511627776)))]<|At.fd (cc≥1099511627776) 27 4 6 (fun c8=>?_) fun c9=>?_
 ·refine At.go 5 1 [(6,vI 120)] ?_
  have bj:iy g u b [(u,.map V X)]:=⟨_,_,_,rfl,G,J⟩
  obtain⟨bk,bm,bo⟩:=St.bF (Q:=fU g D b) 2 (U.fs [2,2] rfl) ⟨_,_,rfl,bj⟩
  exact At.rt (vI 120)<|hR (bo.fs [1] rfl).drop ⟨bk,(bg (by exact(touch_2 ‹_› (by omega)).1.symm)),bm.eq (by exact(touch_2 ‹_› (by omega)).2.symm),rfl,rfl⟩
 refine At.rp 6 1 [(28,vQ ad 2)]<|Op.l1 3 28 29 2 (vI a31.dx) (U.ag 0 rfl)<|Op.px 1 [(30,vI cc)]<|Op.vl 31 (.int .i64 (if cc>a31.dx then cc else a31.dx)) (.int .i64 (max a31.dx cc)) (uX _ _)<|Op.px 1 [(32,vQ ad 2)] ?_
 refine Op.s1 3 32 31 2 (vI (max a31.dx cc)) 0 #[vI a31.ax,vI a31.aI,vI (max a31.dx cc)] U zt fun da Z=>Op.gt 7<|At.dw (fun _=>False) [(0,true),(1,true),(2,true),(4,true),(3,true),(5,false),(1006,false),(6,false)]<|Op.px 4 [(35,vP D),(37,vI client)]<|Op.lf 141 35 0 36 1 (.map (some u)) id (Z.ag 1 rfl) ?_
 refine Op.la 152 7 38 0 3 [vI a31.ax,vI a31.aI,vI (max a31.dx cc)] (Z.ag 0 rfl)<|Op.ba<|Op.ms (.agg jV) 141 36 37 38 client (.agg #[vI a31.ax,vI a31.aI,vI (max a31.dx cc)]) Z 2 G fun bs bt db b3 b4=>?_
 have b5:=fu.pz (k:=client) (a:=(⟨a31.ax,a31.aI,(max a31.dx cc)⟩:dQ)) (v:=.agg #[vI a31.ax,vI a31.aI,vI (max a31.dx cc)]) J rfl
 refine Op.gt 8<|At.go 9 1 [(6,vI 0)] ?_
 have b6:iy g u (dz b client (⟨a31.ax,a31.aI,(max a31.dx cc)⟩:dQ)) [(u,.map bs bt)]:=⟨_,_,_,rfl,b3,b5⟩
 obtain⟨b8,ca,cb⟩:=St.bF (Q:=fU g D (dz b client (⟨a31.ax,a31.aI,(max a31.dx cc)⟩:dQ))) 2 (b4.fs [2,2] rfl) ⟨_,_,rfl,b6⟩
 exact At.rt (vI 0)<|hR (cb.fs [1] rfl).drop ⟨b8,(bg (by exact(touch_3 ‹_› ‹_› ‹_›).1.symm)),ca.eq (by exact(touch_3 ‹_› ‹_› ‹_›).2.symm),rfl,rfl⟩
theorem PW (B:World) (h:ay) (g:GH) (hg:bu g h) (am:bz g) (client:Int) (s:dQ) (D:Nat) (G:Array Value) (bS:dQ→Bool) (ar:eg prog D) (aw:pM prog g D G (fun x:dQ=>.agg #[.int .i64 x.ax,.int .i64 x.aI,.int .i64 x.dx]) (fun s=>gW s=true) bS) (O:Nat) (a0:g O=some (.cells #[.func (.func D) #[] G] 164 (0,0))) (I:Nat) (out:List Int) (u:az) (U:p9 g I out u) (h1:out.length≤1000000) (hok:gW s=true) (hs:St h g (aS [u]) g [u] h):
  aG prog B 113 #[vI client,.agg #[vI s.ax,vI s.aI,vI s.dx],vP O,vP I] h g [u] (fun a1 g' L'=>∃V,a1=.bool (bS s)∧p9 g' I (if bS s=true then out++[client] else out) V∧g'=g∧L'=[V]):=by
 refine aG.aq func113 fun R hR=>At.rg 2<|Op.bx 5 152 1 #[vI s.ax,vI s.aI,vI s.dx] hs fun a3 bj J=>Op.pg 1 []<|At.rg 4 ?_
 refine Op.l1 164 2 8 0 (.func (.func D) #[] G) (J.sub _ _ a0)<|Op.la 152 5 9 0 3 [vI s.ax,vI s.aI,vI s.dx] (J.ag 0 rfl)<|Op.cv (some 10) 8 #[9] #[152] D #[] G [] [[(a3,Obj.cells #[vI s.ax,vI s.aI,vI s.dx] 152 (0,0))],u] ((#[.agg #[vI s.ax,vI s.aI,vI s.dx]]:Array Value)++G) ar (FM (by kernel_rfl)) J (aw _ _ _ (aM.refl _) J.sub am s (by(try dsimp only)<;>omega)) (fun _ _ h=>absurd h (gP _)) ?_
 rintro _ a4 _ bk a5 X ⟨rfl,bm,rfl⟩;subst a4;clear a5
 refine Op.pg 2 [(7,.bool (bS s))]<|At.go 3 1 [(11,.bool (bS s))]<|At.cW (bS s) 11 4 5 (fun bo=>?_) fun bs=>?_
 ·refine At.rg 5 ?_
  obtain⟨bt,a6,a7,Y⟩:=U
  obtain⟨a8,a9,rfl⟩:=Y.ak
  have Z:=St.un [a6] a7 (X.fs [1] rfl)
  refine Op.l1 78 3 12 0 (vL a8 out.length a9) (Z.ag 0 rfl)<|Op.px 1 [(13,vI client)]<|Op.ls 14 1 3 #[vI client] Z fun b3 b4 ab=>Op.ap 12 14 78 78 15 3 8 (dK .i64) (ys:=[client]) Y ab 2 (⟨_,_,rfl,rfl,Reads.nil⟩) (by(simp only[bJ,cF];omega)) (fun _ _ _=>trivial) (cT.lit (m:=1) (sz:=1) (ab.ag 0 rfl) (news:=[vI client]) rfl rfl (by simp[Value.oneCell']) _) fun b5 b6 b8 ad bb ca=>?_
  obtain⟨a46,ae,rfl⟩:=ad.ak
  refine Op.s1 78 3 15 0 (vL a46 ((out++([client])).length) ae) 0 #[vL a46 ((out++([client])).length) ae] ((bb).drop) zt fun cb bc=>Op.gt 5<|At.go 6 2 [(6,.bool (bS s))] ?_
  obtain⟨bd,be,bi⟩:=St.bF (Q:=p9 g I (out++([client]))) 2 bc ⟨_,_,rfl,ad⟩
  exact At.rt (.bool (bS s))<|hR (bi.fs [1] rfl).drop ⟨bd,(bn (by rfl)),be.eq (by(rw[aY ‹_›];done)),rfl,rfl⟩
 exact At.gr 6 2 6 (.bool (bS s)) (hR X.drop ⟨u,(bn (by rfl)),U.eq (by(rw[aL (iT.1 ‹_›)];done)),rfl,rfl⟩)
theorem PX (B:World) (h:ay) (g:GH) (hg:bu g h) (b8:bz g) (D:Nat) (mp:List (Int×dQ)) (ad:az) (ca:iy g D mp ad) (a0:Nat) (a3:Array Value) (bS:dQ→Bool) (cb:eg prog a0) (ce:pM prog g a0 a3 (fun x:dQ=>.agg #[.int .i64 x.ax,.int .i64 x.aI,.int .i64 x.dx]) (fun s=>gW s=true) bS) (V:Nat) (cf:g V=some (.cells #[.func (.func a0) #[] a3] 164 (0,0))) (I:Nat) (out:List Int) (ae:az) (ch:p9 g I out ae) (hB:gC mp) (h0:out=[]) (hs:St h g (aS [ad,ae]) g [ad,ae] h):
  aG prog B 112 #[.map (some D),.func (.func 113) #[] #[vP V,vP I]] h g [ad,ae] (fun ci g' L'=>∃be bi bj,ci=.tuple #[]∧iy g' D (mq bS mp) be∧bi.Perm (jP bS mp)∧p9 g' I bi bj∧g'=g∧L'=[be,bj]):=by
 refine aG.aq func112 fun R hR=>At.rp 2 1 [(6,.map (some D))] ?_
 obtain⟨ck,Y,bk,co,a4,c3⟩:=ca
 have bm:=St.un [] co hs
 refine Op.s_ (d:=.int .i64) (z:=.agg jV) (mt:=141) (x:=6) (dst:=7) (m:=D) (by kernel_rfl) (by kernel_rfl) (by kernel_rfl) (bm.ag 0 rfl) a4 bm fun am c4 dq a5 c5=>?_
 replace a5:=a5.toD a4
 refine Op.gt 1 ?_
 have c6:∀(m:Nat) (x1:f_) (o2:List Int) (J:Array MapEntry) (X:List (Int×Value)) (ar:List (Int×Value)) (a6:Obj) (aw:az) (a7:ay) (hm:ar.length<m) (O:mV mp bS x1 ar X o2) (a8:p9 g I o2 aw) (Z:cG encI J Y X) (ab:fu (p7 g) X x1) (bo:jy encI J Y D ar none a6) (a1:St h g (aS [ad,ae]) g [[(am,a6)],[(D,.map J Y)],aw] a7),At (bP prog B 112 f112 R) [] 1 [(0,.map (some D)),(1,.func (.func 113) #[] #[vP V,vP I]),(7,vP am)] a7:=by
  intro m;induction m with
  |zero=>intros;omega
  |succ m bs=>
   intro x1 o2 J X ar a6 aw a7 hm O a8 Z ab bo a1
   refine At.rg 2<|Op.Jc (x:=7) (dst:=8) (it:=am) (m:=D) (by kernel_rfl) (by kernel_rfl) (a1.ag 1 rfl) Z bo a1 0 rfl zt ⟨fun U=>?_,fun bt G c8 b3 a9 du U bb bc=>?_⟩
   ·refine Op.pg 2 [(9,vF)]<|At.cQ 9 7 ?_
    have c9:iy g D x1 [(D,.map J Y)]:=⟨_,_,_,rfl,Z,ab⟩
    exact At.rt eY (hR a1.drop ⟨([(D,.map J Y)]:az),o2,aw,rfl,c9.eq (by exact(O.iU U).1),(by exact(O.iU U).2),a8,rfl,rfl⟩)
   have da:(G,c8)∈X:=by exact O.mem U
   obtain⟨u,dv,rfl⟩:=ab.Db ((Da ab.2.1).2 da)
   refine Op.pg 2 [(9,vT)]<|At.bT 9 3<|At.rg 6<|Op.Jd (x:=7) (dst:=10) (it:=am) (m:=D) (k:=G) (v:=.agg #[vI u.ax,vI u.aI,vI u.dx]) (by kernel_rfl) (by kernel_rfl) (bc.ag 1 rfl) Z bb (bc.ag 0 rfl)<|Op.px 2 [(11,vI G),(12,.agg #[vI u.ax,vI u.aI,vI u.dx])] ?_
   refine Op.al 5 152 jV bc fun db dC dc=>Op.px 1 [(4,vI G)]<|Op.sg 152 5 12 0 0 #[vI u.ax,vI u.aI,vI u.dx] dc zt fun dE b4=>Op.gt 4<|At.rp 4 2 [(13,.func (.func 113) #[] #[vP V,vP I]),(14,vI G)] ?_
   refine Op.la 152 5 15 0 3 [vI u.ax,vI u.aI,vI u.dx] (b4.ag 0 rfl) ?_
   have bd:=b4.fs [2,2,2,3] rfl
   refine Op.cv (some 16) 13 #[14,15] #[3,152] 113 #[] #[vP V,vP I] [aw] [[(db,Obj.cells #[vI u.ax,vI u.aI,vI u.dx] 152 (0,0))],[(am,a9)],[(D,.map J Y)]] #[vI G,.agg #[vI u.ax,vI u.aI,vI u.dx],vP V,vP I] (eg.of (by kernel_rfl)) (by kernel_rfl) bd (PW _ _ _ bd.sub b8 G u a0 a3 bS cb ce V cf I o2 _ a8 (by((try dsimp only)<;>((have h1:=O.2.2.2.length_eq;have h2:=hB.len;have h3:=kX (fun p=>!jQ ar p.1&&bS p.2) mp;rw[ew] at h1;omega)))) (by((try dsimp only)<;>(exact(hB.find ((mo hB.1).2 (O.De hB.1 ‹_›))).2))) (St.pt 1 bd)) (fun _ _ _=>trivial) ?_
   rintro _ dd _ dT df b5 ⟨d0,rfl,b6,d1,rfl⟩;subst dd;clear df
   refine Op.gt 5<|At.cW (bS u) 16 6 1 (fun d2=>?_) fun d3=>?_
   ·refine At.rp 3 2 [(17,.map (some D)),(18,vI G)]<|Op.PL (d:=.int .i64) (z:=.agg jV) (mt:=141) (kt:=3) (x:=17) (ix:=18) (dst:=none) (k:=G) (v:=.agg #[vI u.ax,vI u.aI,vI u.dx]) (by kernel_rfl) (by kernel_rfl) kC (by kernel_rfl) (by kernel_rfl) b5 3 rfl Z bb zt fun dg d4 dj dk dl=>?_
    have dp:=ab.n7 G
    exact Op.gt 1<|At.ke (bs (eR x1 G) (if bS u=true then o2++[G] else o2) dg (jm X G) (bt++b3) a9 _ _ (by(have hz:=congrArg List.length U;simp only[b_,bJ] at hz ⊢;omega)) (by(rw[aY ‹_›];exact O.hit hB.1 U ‹_› ‹_›)) b6 dj dp dk ((dl.fs [3,3,3] rfl).drop))
   exact At.ke (bs x1 (if bS u=true then o2++[G] else o2) J X (bt++b3) a9 _ _ (by(have hz:=congrArg List.length U;simp only[b_,bJ] at hz ⊢;omega)) (by(rw[aL (iT.1 ‹_›)];exact O.gO hB.1 U ‹_› ‹_›)) b6 Z ab bb.Ac ((b5.fs [3,3,3] rfl).drop))
 exact At.ke (c6 _ mp out ck bk bk c4 _ _ (bG _) (by(subst h0;exact Pg ‹_›)) ch a4 c3 a5 c5)
theorem Jf (B:World) (h:ay) (g:GH) (hg:bu g h) (X:bz g) (G:Nat) (b:f_) (U:az) (bc:fU g G b U) (u:Nat) (I:Array Value) (bS:dQ→Bool) (bd:eg prog u) (Y:pM prog g u I (fun x:dQ=>.agg #[.int .i64 x.ax,.int .i64 x.aI,.int .i64 x.dx]) (fun s=>gW s=true) bS) (hB:gC b) (hs:St h g (aS [U]) g [U] h):
  aG prog B 90 #[vP G,.func (.func u) #[] I] h g [U] (fun be g' L'=>∃v0 a1 a3,be=v0∧aH 3 (dK .i64) g' v0 (jP bS b) a1∧fU g' G (mq bS b) a3∧g'=g∧L'=[a3,a1]):=by
 refine aG.aq func90 fun R hR=>At.rg 2<|Op.bx 3 164 1 #[.func (.func u) #[] I] hs fun Z c3 bi=>Op.pg 1 []<|At.rg 1 ?_
 refine Op.al 5 78 #[vN] bi fun ab c4 bj=>Op.gt 2<|At.rp 6 3 [(8,vP G)] ?_
 obtain⟨a4,bk,bm,ad⟩:=bc
 have a5:=St.un [bk] bm (bj.fs [1,1,2] rfl)
 refine Op.l1 141 8 9 0 (.map (some a4)) (a5.ag 0 rfl)<|Op.px 1 [(10,.func (.func 113) #[] #[vP Z,vP ab])] ?_
 obtain⟨a6,V⟩:=St.freeze (a5.fs [3] rfl)
 have a7:=iK (g:=g) Z (.cells #[.func (.func u) #[] I] 164 (0,0))
 generalize bo:cS g _=ae at a6 V a7;clear bo
 replace ad:=ad.mono V
 replace X:=X.mono V
 replace Y:=Y.mono V
 have bs:=aH.nil 3 (dK .i64) ae
 obtain⟨c5,bt,b3⟩:=St.bF (Q:=p9 ae ab ([]:List Int)) 2 (a6.nl.fs [2,2,2,3] rfl) ⟨_,_,rfl,bs⟩
 have am:=b3.fs [1,1,2] rfl
 refine Op.cl (some 11) 2 am (PX _ _ _ am.sub X a4 b _ ad u I bS bd Y Z a7 ab ([]:List Int) _ bt (by(try dsimp only)<;>omega) (by((try dsimp only)<;>(first|omega|assumption|rfl|(have h1:=yI ‹_›;have h2:=hB.len;have h3:=kX (fun p=>bS p.2) b;unfold jP at h1;rw[ew] at h1;omega)))) (St.pt 2 am)) ?_
 rintro _ b4 _ c6 b5 b6 ⟨c8,D,c9,rfl,b8,da,ca,db,rfl⟩;subst b4;clear b5
 refine Op.gt 3<|At.rg 2 ?_
 obtain⟨v53,cb,ce,a8⟩:=ca
 obtain⟨J,O,rfl⟩:=a8.ak
 have a9:=St.un [cb] ce (b6.fs [1] rfl)
 refine Op.l1 78 5 12 0 (vL J D.length O) (a9.ag 0 rfl) ?_
 have ar:=a9.fs [1] rfl
 refine Op.cl (some 13) 1 ar (Io _ _ _ ar.sub _ D _ a8 (by(have h1:=yI ‹_›;have h2:=hB.len;have h3:=kX (fun p=>bS p.2) b;unfold jP at h1;rw[ew] at h1;omega)) (St.pt 1 ar)) ?_
 rintro _ cf _ dc ch bb ⟨rfl,dd,ci,aw,rfl⟩;subst cf;clear ch
 refine Op.gt 4<|At.rg 2<|Op.l1 78 5 14 0 (vL J D.length O) (bb.ag 1 rfl)<|Op.pg 5 [(4,vL J D.length O)] ?_
 obtain⟨ck,a0,co⟩:=St.bF (Q:=fU ae G (mq bS b)) 2 (bb.fs [1,1,2,3] rfl) ⟨_,_,rfl,b8⟩
 refine At.rt (vL J D.length O) ?_
 replace a0:=a0.bw (g':=g)
 replace aw:=aw.bw (fun _ _ _ _ h=>h) (g':=g)
 exact hR (co.fs [1,1,2] rfl).drop.iM ⟨(vL J D.length O),ci,ck,rfl,dP aw (by exact Pe ‹_› (Ph hB.1)),a0.eq (by rfl),rfl,rfl⟩
theorem PY (B:World) (h:ay) (g:GH) (hg:bu g h) (O:bz g) (s:dQ) (cc:Int) (D:Nat) (I:g D=some (.cells #[vI cc] 3 (0,0))) (hok:gW s=true):
  aG prog B 91 #[.agg #[vI s.ax,vI s.aI,vI s.dx],vP D] h g [] (fun J g' L'=>J=.bool (mu cc s)∧g'=g∧L'=[]):=by
 refine aG.aq func91 fun R hR=>At.rg 2<|Op.bx 2 152 0 #[vI s.ax,vI s.aI,vI s.dx] (St.init hg) fun G U u=>Op.pg 1 []<|At.rp 8 1 [(4,vQ G 2)] ?_
 refine Op.l1 3 4 5 2 (vI s.dx) (u.ag 0 rfl)<|Op.px 1 [(6,vQ G 1)]<|Op.l1 3 6 7 1 (vI s.aI) (u.ag 0 rfl)<|Op.cO 8 (s.dx+s.aI) (by(have:=xx hok;omega)) (by(have:=xx hok;omega))<|Op.l1 3 1 9 0 (vI cc) (u.sub _ _ I) ?_
 exact Op.pr 2 3 (.bool (decide ((s.dx+s.aI)≤cc))) (hR u.drop ⟨(bn (by rfl)),rfl,rfl⟩)
theorem PZ (B:World) (h:ay) (g:GH) (hg:bu g h) (O:bz g) (u:Nat) (b:f_) (D:az) (U:fU g u b D) (cc:Int) (hB:gC b) (hs:St h g (aS [D]) g [D] h):
  aG prog B 73 #[vP u,vI cc] h g [D] (fun am g' L'=>∃v0 ab ad,am=v0∧aH 3 (dK .i64) g' v0 (jP (mu cc) b) ab∧fU g' u (mq (mu cc) b) ad∧g'=g∧L'=[ad,ab]):=by
 refine aG.aq func73 fun R hR=>At.rg 2<|Op.bx 3 3 1 #[vI cc] hs fun G a7 ar=>Op.pg 1 []<|At.rp 4 2 [(5,vP u),(6,.func (.func 91) #[] #[vP G])] ?_
 obtain⟨I,V⟩:=St.freeze (ar)
 have ae:=iK (g:=g) G (.cells #[vI cc] 3 (0,0))
 generalize aw:cS g _=a8 at I V ae;clear aw
 replace O:=O.mono V
 replace U:=U.mono V
 refine Op.cl (some 7) 1 I (Jf _ _ _ I.sub O u b _ U 91 #[vP G] (fun x=>mu cc x) (eg.of (by kernel_rfl)) (fun B h g2 hle hs a0 x hok=>aG.args (by rfl) (PY B h g2 hs a0 x cc G (hle _ _ ae) hok)) (by(try dsimp only)<;>omega) (St.pt 1 I)) ?_
 rintro _ a1 _ a9 a3 a4 ⟨bb,a5,a6,rfl,J,X,bc,rfl⟩;subst a1;clear a3
 obtain⟨Y,Z,rfl⟩:=J.ak
 refine Op.pg 2 [(4,vL Y (((jP (fun x=>mu cc x) b)).length) Z)]<|At.rt (vL Y (((jP (fun x=>mu cc x) b)).length) Z) ?_
 replace X:=X.bw (g':=g)
 replace J:=J.bw (fun _ _ _ _ h=>h) (g':=g)
 exact hR a4.iM ⟨(vL Y (((jP (fun x=>mu cc x) b)).length) Z),a5,a6,rfl,dP J (by rfl),X.eq (by rfl),rfl,rfl⟩
theorem P0 (B:World) (h:ay) (g:GH) (hg:bu g h) (O:bz g) (s:dQ) (G:Value) (u:List Int) (I:an g 3 (dK .i64) G u) (J:Nat) (U:g J=some (.cells #[G] 78 (0,0))) (hok:gW s=true) (hp:u.length≤1000000000):
  aG prog B 106 #[.agg #[vI s.ax,vI s.aI,vI s.dx],vP J] h g [] (fun V g' L'=>V=.bool (pY u s)∧g'=g∧L'=[]):=by
 obtain⟨X,Y,rfl⟩:=I.ak
 refine aG.aq func106 fun R hR=>At.rg 2<|Op.bx 2 152 0 #[vI s.ax,vI s.aI,vI s.dx] (St.init hg) fun Z ad D=>Op.pg 1 []<|At.rg 5 ?_
 exact Op.l1 78 1 4 0 (vL X u.length Y) (D.sub _ _ U)<|Op.px 1 [(5,vP Z)]<|Op.l1 3 5 6 0 (vI s.ax) (D.ag 0 rfl)<|Op.c1 7 (Cx _ _ _ D.sub O _ _ I s.ax (by(try dsimp only)<;>omega)) D fun ae ab=>Op.pr 2 3 (.bool (u.any (fun z=>decide (s.ax=z)))) (hR ab.drop ⟨(bn (by rfl)),rfl,rfl⟩)
theorem P3 (B:World) (h:ay) (g:GH) (hg:bu g h) (X:bz g) (D:Nat) (b:f_) (G:az) (Y:fU g D b G) (ae:Value) (u:List Int) (I:an g 3 (dK .i64) ae u) (hB:gC b) (hp:u.length≤1000000000) (hs:St h g (aS [G]) g [G] h):
  aG prog B 86 #[vP D,ae] h g [G] (fun a3 g' L'=>∃v0 am ar,a3=v0∧aH 3 (dK .i64) g' v0 (jP (pY u) b) am∧fU g' D (mq (pY u) b) ar∧g'=g∧L'=[ar,am]):=by
 obtain⟨aw,a0,rfl⟩:=I.ak
 refine aG.aq func86 fun R hR=>At.rg 2<|Op.bx 3 78 1 #[vL aw u.length a0] hs fun J bd a4=>Op.pg 1 []<|At.rp 4 2 [(5,vP D),(6,.func (.func 106) #[] #[vP J])] ?_
 obtain⟨O,U⟩:=St.freeze (a4)
 have a1:=iK (g:=g) J (.cells #[vL aw u.length a0] 78 (0,0))
 generalize a5:cS g _=be at O U a1;clear a5
 replace X:=X.mono U
 replace I:=I.mono U
 replace Y:=Y.mono U
 refine Op.cl (some 7) 1 O (Jf _ _ _ O.sub X D b _ Y 106 #[vP J] (fun x=>pY u x) (eg.of (by kernel_rfl)) (fun B h g2 hle hs a6 x hok=>aG.args (by rfl) (P0 B h g2 hs a6 x _ _ (I.mono hle) J (hle _ _ a1) hok (by omega))) (by(try dsimp only)<;>omega) (St.pt 1 O)) ?_
 rintro _ a7 _ bi a8 a9 ⟨bj,bb,bc,rfl,V,Z,bk,rfl⟩;subst a7;clear a8
 obtain⟨ab,ad,rfl⟩:=V.ak
 refine Op.pg 2 [(4,vL ab (((jP (fun x=>pY u x) b)).length) ad)]<|At.rt (vL ab (((jP (fun x=>pY u x) b)).length) ad) ?_
 replace Z:=Z.bw (g':=g)
 replace V:=V.bw (fun _ _ _ _ h=>h) (g':=g)
 exact hR a9.iM ⟨(vL ab (((jP (fun x=>pY u x) b)).length) ad),bb,bc,rfl,dP V (by rfl),Z.eq (by rfl),rfl,rfl⟩
theorem Ad (B:World) (h:ay) (g:GH) (hg:bu g h) (bk:bz g) (D:Nat) (b:f_) (U:az) (bm:fU g D b U) (hB:gC b) (hs:St h g (aS [U]) g [U] h):
  aG prog B 55 #[vP D] h g [U] (fun bo g' L'=>∃v0 ar aw,bo=v0∧aH 152 uK g' v0 (b.map (·.2)) ar∧fU g' D b aw∧g'=g∧L'=[aw,ar]):=by
 refine aG.aq func55 fun R hR=>At.go 1 1 []<|At.go 2 1 [(3,vN)]<|At.rp 8 3 [(8,vP D)] ?_
 obtain⟨G,bs,bt,a0⟩:=bm
 have a1:=St.un [bs] bt hs
 refine Op.l1 141 8 9 0 (.map (some G)) (a1.ag 0 rfl) ?_
 have V:=a1.fs [1] rfl
 have b3:=iy.fK a0 V (fun p hp=>hp)
 have a3:=V.freeze.1
 have a4:=V.freeze.2
 have X:=bk.mono a4
 refine Op.c0 (some 10) (PN _ _ _ a3.sub X G b b3) a3 ?_
 rintro _ dj _ dk b4 a5 ⟨f32,b5,rfl,b6,b8,rfl⟩
 replace X:=X.mono b4
 refine Op.c0 (some 11) (Dz _ _ _ a5.sub X f32 b5 (b.map (·.1)) b6 b8 (by((try dsimp only)<;>((have:=hB.len;simp only[ew];omega))))) a5 ?_
 rintro _ ca _ dl cb ce ⟨dp,cf,rfl,Y,dq,rfl⟩;subst ca;clear cb
 obtain⟨ch,a6,rfl⟩:=Y.ak
 have ci:=V.uC (ce.xq (aM.trans V.le a4) (by repeat (first|assumption|exact aM.refl _|apply aM.trans)))
 replace Y:=Y.bw (fun _ _ _ _ h=>h) (g':=g)
 refine Op.pg 3 [(12,vI ((dJ (b.map (·.1))).length:Int)),(13,vI 0)] ?_
 obtain⟨a7,a8,du,rfl,a9,bb⟩:=a0
 have ck:∀(m:Nat) (out:List dQ) (i:Int) (a53:Option Addr) (I:Nat) (Z:az) (ab:ay) (hm:(dJ (b.map (·.1))).length-i.toNat<m) (h0:0≤i) (h1:i≤(dJ (b.map (·.1))).length) (ho:out=(b.map (·.2)).take i.toNat) (ad:aH 152 uK g (.slice a53 out.length I) out Z) (J:St h g (aS [U]) g [Z,[(G,.map a7 a8)],cf,[(D,Obj.cells #[.map (some G)] 143 (0,0))]] ab),At (bP prog B 55 f55 R) [] 3 [(0,vP D),(3,vL a53 out.length I),(11,vL ch ((dJ (b.map (·.1))).length) a6),(12,vI ((dJ (b.map (·.1))).length:Int)),(13,vI i)] ab:=by
  intro m;induction m with
  |zero=>intros;omega
  |succ m co=>
   intro out i a53 I Z ab hm h0 h1 ho ad J
   refine At.go 4 1 [(14,.bool (decide (i<((dJ (b.map (·.1))).length:Int))))]<|At.fd (i<((dJ (b.map (·.1))).length:Int)) 14 5 8 (fun dv=>?_) fun dC=>?_
   ·refine At.rg 3 ?_
    obtain⟨O,ae⟩:=bW (dJ (b.map (·.1))) i
    obtain⟨c3,bc,dE,dT,c4,c5,am⟩:=h_.bB (Y.toH J 2 rfl) _ ae
    cases c4
    refine Op.iq 78 3 1 8 ((dJ (b.map (·.1))).length) a6 11 13 15 c3 bc i ?_
    replace am:cut _ _ _=[vI O]:=am
    refine Op.l1 3 15 16 (bc+i.toNat*1) (vI O) c5 ?_ (hv:=bN am 0 rfl)
    refine Op.pg 6 [(5,vI O)]<|At.rp 10 4 [(17,vL a53 out.length I),(20,vP D)]<|Op.l1 141 20 21 0 (.map (some G)) (J.ag 3 rfl)<|Op.px 1 [(22,vI O)] ?_
    rcases bb.gS O with ⟨bd,be⟩|⟨v70,u,bd,be,c6⟩
    ·exfalso;exact Pn hB.1 ae be
    obtain rfl:=c6
    refine Op.mk (.agg jV) 141 21 22 23 O (.agg #[vI u.ax,vI u.aI,vI u.dx]) (J.ag 1 rfl) a9 bd<|Op.ls 24 1 152 #[vI u.ax,vI u.aI,vI u.dx] J fun d0 d1 bi=>Op.ap 17 24 61 61 25 152 24 uK (ys:=[u]) ad bi 1 (⟨_,_,rfl,rfl,Reads.nil⟩) (by(have h1:=congrArg List.length ho;have h2:=hB.len;simp only[dZ,ew,bJ,cF] at *;omega)) (fun _ _ _=>trivial) (cT.lit (m:=1) (sz:=3) (bi.ag 0 rfl) (news:=[vI u.ax,vI u.aI,vI u.dx]) rfl rfl (by simp[Value.oneCell']) _) fun d2 d3 d4 bj c8 d5=>?_
    obtain⟨c9,da,rfl⟩:=bj.ak
    exact Op.pg 7 [(3,vL c9 ((out++([u])).length) da)]<|At.rg 2<|Op.cO 26 (i+1) (by omega) (by(have h2:=hB.len;rw[k_,ew] at *;omega))<|Op.pg 3 [(13,vI (i+1))] (At.ke (co (out++([u])) (i+1) _ _ _ _ (by omega) (by omega) (by omega) (by exact Po hB.1 h0 ae ‹_› ho) bj ((c8).drop)))
   refine At.go 9 2 [(2,vL a53 out.length I)] ?_
   have db:iy g G b [(G,.map a7 a8)]:=⟨_,_,_,rfl,a9,bb⟩
   obtain⟨dc,dd,df⟩:=St.bF (Q:=fU g D b) 2 (J.fs [2,1,2,3] rfl) ⟨_,_,rfl,db⟩
   exact At.rt (vL a53 out.length I)<|hR (df.fs [1,1,2] rfl).drop ⟨(vL a53 out.length I),Z,dc,rfl,dP ad (by exact Pp ‹_› ho),dd.eq (by rfl),rfl,rfl⟩
 have dg:=aH.zero 152 uK g none
 exact At.ke (ck _ [] 0 _ _ _ _ (bG _) (by omega) (by omega) (by rfl) dg ci.nl)
section
variable {C:ff} {ds:List Deferred} {i j:Nat} {r:ay} {M:Nat→Prop} {Ls:List (Nat×Bool)} {e:Env} {h:ay}
variable {h0:ay} {g0:GH} {S0:Nat→Prop} {g:GH} {L:List az}
end
theorem Deep.row {h0:ay} {g0:GH} {S0:Nat→Prop} {g:GH} {L:List az} {h:ay} {α:Type} {T:TypeId} {d:Kd α} {v:Value} {xs:List α} {c u:az} (hr:aH T d (cS gE u) v xs c) (s:St h0 g0 S0 g (c::u::L) h):
    ∃g',St h0 g0 S0 g' (c::L) h∧aM g g'∧aH T d g' v xs c:=by
  have s1:=s.pq (L':=u::c::L) (List.Perm.swap _ _ _)
  obtain⟨s2,D⟩:=St.freeze s1
  exact⟨_,s2,D,hr.mono (GZ fun p hp=>s1.sep p (by simp[hp]))⟩
end Go.Proofs.YtdinkjbfgcfccaaGreatDoor.Sw
