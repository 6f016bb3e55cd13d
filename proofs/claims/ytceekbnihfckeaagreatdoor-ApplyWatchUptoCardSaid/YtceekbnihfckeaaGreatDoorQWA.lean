/- Lemmas for laws of this seat. -/
import Derived.Test.YtceekbnihfckeaaGreatDoorQBP
namespace Go.Proofs.YtceekbnihfckeaaGreatDoor.Sw
open Go.Proofs.Tryz
set_option linter.unusedVariables false
set_option linter.unusedSimpArgs false
set_option linter.deprecated false
set_option linter.unusedSectionVars false
open Go
set_option linter.defProp false
def vc:=@List.map_eq_nil_iff
def yA:=@Nat.div_lt_of_lt_mul
def yB:=@Nat.mul_assoc
def nC:=@List.drop_left
def nZ:=@Int.toNat_natCast
def kO:=@List.getD_cons_zero
def kP:=@List.getD_cons_succ
def tK:=@List.all_map
section
variable {e:ja} {w:ak} {ws:List ak} {c:Int}
end
section
variable {Q:Int→Int→Prop} {ns:List ag} {l:ag} {p data:aQ} {cI born bO:Int} {num:Bool}
end
section
variable {k k':Int} {s:Sp} {kind c t:Int} {dN:List aQ} {p:aQ} {o:aG} {w:ak}
end
section
variable {k:Int} {s:Sp} {c t:Int} {b:aQ} {e:bN}
end
theorem vn {k:Int} {s:Sp} {t:Int} (H:bK k s) (h:min t 1099511627775≤s.aA):dI s t=s:=by
  have e:max s.aA (min t 1099511627775)=s.aA:=by omega
  unfold dI
  rw[e]
  have h1:gq (fA s.aA) s.book=[]:=by
    unfold gq
    rw[vc,vp]
    intro p hp
    have:=H.kr p hp
    unfold fA
    simp only[cQ]
    omega
  have h2:ia (fA s.aA) s.book=s.book:=by
    unfold ia
    rw[mJ]
    intro p hp
    have:=H.kr p hp
    unfold fA
    simp only[gN,jb]
    omega
  show jc {s with book:=ia (fA s.aA) s.book,aA:=s.aA} (gq (fA s.aA) s.book)=s
  rw[h1,h2]
  rfl
theorem o7 {n:Nat} (h:n<256):(UInt8.ofNat n).toNat=n:=by
  rw[yD]
  exact o8 h
theorem tQ {c:UInt8} {r:an} {i:Nat} {a:Int} (h1:¬((i=8∧64≤c.toNat)∨(c.toNat=0∧0<i))) (h2:c.toNat<128):iz (c::r) i a=(a+((c.toNat*2 ^ (7*i):Nat):Int),(i:Int)+1,0):=by
  rw[iz,aC h1,aO h2,o8 h2]
theorem yE:∀(n v i:Nat) (a:Int) (rest:an),v<2 ^ (62-7*i)→i≤8→8≤n+i→(0<i→1≤v)→
    iz (gH n v++rest) i a=(a+((v*2 ^ (7*i):Nat):Int),(i:Int)+((gH n v).length:Int),0):=by
  intro n
  induction n with
  |zero=>
   intro v i a rest hv hi hn h1
   obtain rfl:i=8:=by omega
   have hv:v<64:=hv
   have h1:=h1 (by decide)
   have e:(UInt8.ofNat v).toNat=v:=o7 (by omega)
   rw[gH,dW,tQ (by rw[e];omega) (by rw[e];omega),e]
   rfl
  |succ n ih=>
   intro v i a rest hv hi hn h1
   have D:i=8→v<64:=fun h=>by subst h;exact hv
   rw[gH]
   split
   · rename_i hlt
     have e:(UInt8.ofNat v).toNat=v:=o7 (by omega)
     rw[dW,tQ (by rw[e];omega) (by rw[e];omega),e]
     rfl
   · rename_i G
     have I:i<8:=by omega
     have e:(UInt8.ofNat (v % 128+128)).toNat=v % 128+128:=o7 (by omega)
     have hq:v / 128<2 ^ (62-7*(i+1)):=by
       have e2:2 ^ (62-7*i)=2 ^ (62-7*(i+1))*128:=by
         rw[show 62-7*i=(62-7*(i+1))+7 by omega,AT]
       rw[e2] at hv
       exact yA (by rw[yF];exact hv)
     rw[dW,iz,aC (by rw[e];omega),aC (by rw[e];omega),e,ih (v / 128) (i+1) _ rest hq (by omega) (by omega) (fun _=>by omega)]
     have e3:(v % 128+128) % 128=v % 128:=by omega
     have u:v % 128*2 ^ (7*i)+v / 128*2 ^ (7*(i+1))=v*2 ^ (7*i):=by
       rw[yG,←yB,←nD]
       congr 1
       omega
     rw[e3,bY]
     refine n5 ?_ (n5 ?_ rfl)
     · show a+((v % 128*2 ^ (7*i):Nat):Int)+((v / 128*2 ^ (7*(i+1)):Nat):Int)=a+((v*2 ^ (7*i):Nat):Int)
       rw[←u]
       omega
     · show((i+1:Nat):Int)+((gH n (v / 128)).length:Int)=(i:Int)+(((gH n (v / 128)).length+1:Nat):Int)
       omega
theorem tT {v:Int} (h:gd v=true) (rest:an):bH (eM v++rest)=(v,((eM v).length:Int),0):=by
  obtain⟨h1,h2⟩:=yH h
  unfold bH eM
  rw[yE 9 v.toNat 0 0 rest (by show v.toNat<4611686018427387904;omega) (by decide) (by decide) (fun h=>absurd h (by decide))]
  refine n5 ?_ (n5 ?_ rfl)
  · show(0:Int)+((v.toNat*1:Nat):Int)=v
    omega
  · show((0:Nat):Int)+((gH 9 v.toNat).length:Int)=((gH 9 v.toNat).length:Int)
    omega
theorem tU (v:Int):0<(eM v).length:=(rE v).1
theorem tV:∀(fs out:List an),(∀f∈fs,f.length≤65536)→out.length+fs.length≤1024→kR (dA fs).length (dA fs) out=(out++fs,0)
  |[],out,_,_=>by simp[dA,kR]
  |f::fs,out,h,hl=>by
   have hf:=h f (by simp)
   have hok:gd (f.length:Int)=true:=jd (by omega) (by omega)
   have e:dA (f::fs)=eM f.length++(f++dA fs):=by
     unfold dA
     rw[qq]
     unfold vr
     rw[dm]
   have hr:=tT hok (f++dA fs)
   rw[←e] at hr
   have hp:=tU (f.length:Int)
   have hlen:(dA (f::fs)).length=(eM f.length).length+(f.length+(dA fs).length):=by rw[e,cA,cA]
   rw[bY] at hl
   rw[tW (by omega),hr]
   simp only[]
   rw[aC (by omega),aC (by simp),aC (by omega),aC (by omega)]
   have hd:(dA (f::fs)).drop (((eM f.length).length:Int)+(f.length:Int)).toNat=dA fs:=by
     rw[show(((eM f.length).length:Int)+(f.length:Int)).toNat=(eM f.length).length+f.length by omega,e,←qs,nC,nC]
   have ht:((dA (f::fs)).drop ((eM f.length).length:Int).toNat).take (f.length:Int).toNat=f:=by
     rw[nZ,nZ,e,nC,AU]
   rw[hd,ht,tV fs (out++[f]) (fun g hg=>h g (by simp[hg])) (by rw[cA,o9];omega),dm]
   rfl
theorem kS {fs:List an} (h:jr fs=true):bg (dA fs)=(fs,0):=by
  obtain⟨h1,h2⟩:=yI h
  exact tV fs [] h2 (by simpa using h1)
theorem tX:∀(l out:List Int),l.all gd=true→lX (dO l).length (dO l) out=(out++l,0)
  |[],out,_=>by simp[dO,lX]
  |v::l,out,h=>by
   rw[j5,b_] at h
   have e:dO (v::l)=eM v++dO l:=by unfold dO;rw[qq]
   have hr:=tT h.1 (dO l)
   rw[←e] at hr
   have hp:=tU v
   have hlen:(dO (v::l)).length=(eM v).length+(dO l).length:=by rw[e,cA]
   rw[yJ (by omega),hr]
   simp only[]
   rw[aC (by simp)]
   have hd:(dO (v::l)).drop ((eM v).length:Int).toNat=dO l:=by rw[nZ,e,nC]
   rw[hd,tX l (out++[v]) h.2,dm]
   rfl
theorem mw {l:List Int} (h:l.all gd=true):bU (dO l)=(l,0):=tX l [] h
theorem o_ {l:List Int} (h:l.all gd=true) (n:Int) (hn:(l.length:Int)=n):gI (dO l) n=true:=by
  unfold gI
  rw[mw h]
  simp[hn]
theorem tY {w:ak} (h:jF w=true):dZ (js w).1=(w,true):=by
  unfold jF at h
  simp only[b_,j6] at h
  obtain⟨h1,h2⟩:=h
  have hn:[w.Client,w.Kind].all gd=true:=by
    simp only[j5,nh,b_,mK] at h1 ⊢
    exact⟨(oz h1.1).1,(oz h1.2).1⟩
  unfold js at *
  obtain⟨h3,h4⟩:=n6 h2
  rw[h4]
  have hs:=kS h3
  rw[oA hn] at hs ⊢
  have hI:=mw hn
  unfold dZ rF
  rw[hs]
  simp only[kO,kP]
  rw[hI,o_ hn 2 rfl]
  simp
theorem yK {x:Result} (h:(cL x).2=0):ku x=true∧(dM x.bP).2=0∧x.aT.all jF=true∧(dM (je x)).2=0∧(cL x).1=(dM (je x)).1:=by
  unfold cL at *
  repeat' split at h
  all_goals first|(simp at h;done)|skip
  rename_i h1 h2 h3 h4
  refine⟨by simpa using h1,by simpa using h2,by simpa using h3,by simpa using h4,?_⟩
  rw[aC h1,aC h2,aC h3,aC h4]
theorem yL {x:Result} (h:(cL x).2=0):bw (cL x).1=(x,0):=by
  obtain⟨h1,h2,h3,h4,h5⟩:=yK h
  obtain⟨h6,h7⟩:=n6 h4
  obtain⟨h8,h9⟩:=n6 h2
  have hn:=AV h1
  have hb:(cL x).1=dA (je x):=by rw[h5,h7]
  have hs:=kS h6
  rw[←hb] at hs
  have hI:=mw hn
  have hrow:je x=(dO (pe x))::x.ag.af::x.ag.Data::dA x.bP::x.aT.map (fun w=>(js w).1):=by
    unfold je vt
    rw[oA hn,h9]
    rfl
  rw[hrow] at hs
  have hNs:=kS h8
  have hE:(x.aT.map fun w=>(js w).1).map (fun e=>(dZ e).1)=x.aT:=by
    rw[jg]
    conv=>rhs;rw[←rG x.aT]
    apply tZ
    intro w hw
    rw[ic] at h3
    simp only[Function.comp,tY (h3 w hw),id]
  have hA:(x.aT.map fun w=>(js w).1).all (fun e=>(dZ e).2)=true:=by
    rw[tK,ic]
    intro w hw
    rw[ic] at h3
    simp only[Function.comp,tY (h3 w hw)]
  have hd:j7 (cL x).1=true:=by
    unfold j7
    rw[hs]
    simp only[kO,kP,o_ hn 7 rfl,hNs]
    simp
    omega
  have u:nE (cL x).1=x.aT:=by
    unfold nE
    rw[hs]
    exact hE
  have hN:pn (cL x).1 (nE (cL x).1)=x:=by
    rw[u]
    unfold pn t_
    rw[hs]
    simp only[kO,kP,hI,hNs]
    unfold pe
    simp only[kO,kP]
    simp
  unfold bw
  rw[hd,aO rfl,hN]
  have:(List.drop (4:Int).toNat (bg (cL x).1).1).all (fun e=>(dZ e).2)=true:=by
    rw[hs]
    exact hA
  rw[this,aO rfl,aO ⟨h,rfl⟩]
section
variable {k k':Int} {s:Sp} {c t:Int} {o:aG} {x:Result} {p data:aQ} {ns:List ag} {cI born bO:Int} {num:Bool}
end
section
variable {k:Int} {s:Sp} {c:Int} {b:aQ} {e:bN}
end
section
variable {s:Sp} {c t:Int} {b:aQ} {e:bN} {o:aG}
theorem yM {s u:Sp} (h:kp s=kp u):s.aR=u.aR:=congrArg (·.2.2) h
theorem wZ:(lY s e b).aR=dJ s.aR e.Client ⟨e.bn,(cL (gV s e.Client b)).1⟩:=by
  show dJ (cF (cB s) e.Client b).aR _ _=_
  rw[yM (vu (s:=cB s) (c:=e.Client) (b:=b))]
  rfl
end
theorem pq (o:aG):(fS o % 2 != (0:Int))=o.aY∧(fS o / 2 % 2*2 != (0:Int))=o.aI∧(fS o / 4 % 2*4 != (0:Int))=o.ak∧0≤fS o∧fS o≤7:=by
  unfold fS
  cases o.aY<;>cases o.aI<;>cases o.ak<;>decide
theorem ni {bR:Bool} {o:aG} (h:dr bR o=true):(gW o).all gd=true:=by
  obtain⟨h1,h2,h3,_⟩:=pz h
  obtain⟨_,_,_,h4,h5⟩:=pq o
  unfold gW
  simp only[j5,nh,b_,mK]
  exact⟨jd (by omega) (by omega),jd (by omega) (by omega),jd (by omega) (by omega),jd (by omega) (by omega)⟩
theorem ua:∀{xs:List aG},(iK xs).2=0→(iK xs).1=xs.map (fun x=>(cy x).1)∧∀x∈xs,(cy x).2=0
  |[],_=>⟨by rw[iK];rfl,fun x h=>by cases h⟩
  |x::xs,h=>by
   rw[w4] at h ⊢
   split at h
   · rename_i hx;exact absurd h hx
   · rename_i hx
     obtain⟨h1,h2⟩:=ua (xs:=xs) h
     rw[aC hx]
     refine⟨by simp only[h1,eR],fun y hy=>?_⟩
     rcases ei.1 hy with rfl|hy
     · simpa using hx
     · exact h2 y hy
def gR (o:aG):List an:=dO (gW o)::o.af::o.Data::o.az.map fun x=>(cy x).1
theorem uc {bR:Bool} {o:aG} (hr:dr bR o=true) (h:(cy o).2=0):(cy o).1=dA (gR o)∧jr (gR o)=true∧∀x∈o.az,(cy x).2=0:=by
  rw[w5] at h ⊢
  split at h
  · rename_i hx;exact absurd h hx
  · rename_i hx
    obtain⟨h1,h2⟩:=ua (by simpa using hx)
    rw[aC hx]
    rw[oA (ni hr),h1] at h ⊢
    obtain⟨h3,h4⟩:=n6 h
    exact⟨h4,h3,h2⟩
theorem ud {bR:Bool} {o:aG} (hr:dr bR o=true) (hj:jr (gR o)=true) (ops:List aG):nF (dA (gR o)) ops={o with az:=ops}:=by
  unfold nF
  rw[kS hj]
  unfold gR
  simp only[kO,kP]
  rw[mw (ni hr)]
  unfold w6 gW
  simp only[kO,kP]
  obtain⟨h1,h2,h3,_⟩:=pq o
  rw[h1,h2,h3]
  simp
theorem ue {bR:Bool} {o:aG} (hr:dr bR o=true) (hj:jr (gR o)=true) (hi:bR=true→o.az=[]):iA bR (dA (gR o))=true:=by
  unfold iA
  rw[kS hj]
  have e:(gR o).getD 0 []=dO (gW o):=rfl
  simp only[]
  rw[e,o_ (ni hr) 4 rfl,mw (ni hr)]
  have e3:(gW o).getD 3 0=fS o:=rfl
  simp only[]
  rw[e3,eu (pq o).2.2.2.2]
  unfold gR
  simp only[bY,d_]
  cases bR with
  |false=>simp;omega
  |true=>simp[hi rfl]
theorem yN {o:aG} (h:dr true o=true):o.az=[]:=by
  rw[nj] at h
  unfold kU rA n7 at h
  simp only[b_,nk,n8,jh,j6] at h
  obtain⟨⟨⟨hk,hm⟩,_,_,_,_,_,_,h7,_⟩,_⟩:=h
  rcases h7 with h7|h7
  · unfold bT at hm h7
    simp only[cQ,jh] at hm h7
    omega
  · exact ju (by omega)
theorem uf {o:aG} (hr:dr true o=true) (h:(cy o).2=0):jQ (cy o).1=(o,true):=by
  obtain⟨h1,h2,_⟩:=uc hr h
  have hi:=yN hr
  unfold jQ
  rw[h1,ue hr h2 (fun _=>hi),aO rfl,ud hr h2 []]
  obtain⟨k,p,u,D,sp,b,G,w,ops⟩:=o
  simp only at hi
  subst hi
  rfl
theorem yO {o:aG} (hr:dr false o=true) (h:(cy o).2=0):a_ false (cy o).1=(o,true):=by
  obtain⟨h1,h2,h3⟩:=uc hr h
  have h4:=(pz hr).2.2.2.2
  unfold a_
  rw[h1,ue hr h2 (fun h=>by cases h),aO rfl,kS h2]
  have hd:(gR o).drop 3=o.az.map fun x=>(cy x).1:=rfl
  simp only[]
  rw[hd]
  have ha:(o.az.map fun x=>(cy x).1).all (fun x=>(jQ x).2)=true:=by
    rw[tK,ic]
    intro x hx
    simp only[Function.comp,uf (h4 x hx) (h3 x hx)]
  have hm:(o.az.map fun x=>(cy x).1).map (fun x=>(jQ x).1)=o.az:=by
    rw[jg]
    conv=>rhs;rw[←rG o.az]
    apply tZ
    intro x hx
    simp only[Function.comp,uf (h4 x hx) (h3 x hx),id]
  rw[ha,aO rfl,hm,ud hr h2]
  obtain⟨_,_,_,_,_,_,_,_,_⟩:=o
  rfl
theorem yP {o:aG} (h:(bA o).2=0):dr false o=true∧(cy o).2=0∧(bA o).1=(cy o).1∧(cy o).1.length≤1024:=by
  unfold bA at *
  repeat' split at h
  · simp at h
  · simp at h
  · rename_i h1 h2
    rw[aC h1,aC h2]
    simp only[qt,AW] at h2
    exact⟨by simpa using h1,by simpa using h2.1,rfl,h2.2⟩
theorem w8 {o:aG} (h:(bA o).2=0):aU (bA o).1=(o,0):=by
  obtain⟨h1,h2,h3,h4⟩:=yP h
  unfold aU
  rw[h3,aC (by omega),yO h1 h2,aC (by rw[h1];simp)]
section
variable {k c c':Int} {s:Sp} {e:bN} {b:aQ} {o:aG}
theorem yQ (H:bK k s) (h0:0≤k) (hk:k≤99000) (hn:s.count≤1000000000000) (hd:dQ s e=true):bw (bh s e b)=(gV (dI s e.aX) e.Client b,0):=by
  unfold dQ at hd
  rw[b_,cQ] at hd
  have h1:=w9 hd.1
  have hb:bh s e b=(cL (gV (dI s e.aX) e.Client b)).1:=by unfold bh;rw[aO hd.1,aO hd.2]
  rw[hb]
  exact yL (AX (H.nG e.aX) h1.1.2 h0 hk (by rw[qu];exact hn)).1
end
open Go Go.ChangeShapes Go.WideShapes Go.ChangeAt Go.RowKit Go.Deep Go.ChangeMaps
section
variable {H:Type} {enc:TypeId×Value→H} {P:Program} {w w':World} {iY:Nat} {sp:Nat→Bool} {hd:Bool}
end
section
variable {P:Program} {T E:TypeId}
theorem cT.str (ht:P.underlying T=some .string):cT P T eU (fun y=>y.length≤1048576):=⟨fun h hb=>by
  obtain⟨s,rfl,rfl,_⟩:=DataW.trod_string ht h
  simp only[Rows.uptoBulk] at hb
  exact⟨s.data.toList,by show[Value.string s]=_;rw[rL],by omega⟩⟩
end
section
variable {P:Program} {w:World} {T:TypeId} {H:Type} {enc:TypeId×Value→H} {v:Value} {dt:DataW H} {ps:List MemPlace} {b0:Nat} {r:Reach}
theorem FE (ht:P.underlying T=some .string) (u:Value.okWide P w r b0 T v) (h:DataW.Trod enc P w 0 (fun _=>true) true T v dt ps) (hb:Rows.uptoBulk dt≤1048576):∃y:an,v=.string (bp y)∧y.length≤1048576:=by
  obtain⟨s,rfl,rfl,_,_⟩:=open_string ht u h
  simp only[Rows.uptoBulk] at hb
  exact⟨s.data.toList,by rw[rL],by omega⟩
end
section
variable {k c t:Int} {s:Sp} {e:bN} {b:aQ}
theorem AN (ff:Nat) (p:aQ):(lz s ff p).book=s.book:=by unfold lz;split<;>rfl
end
section
variable {i j c n:Int} {s z:Sp} {o:aG} {x:aH} {e:bN} {b p:aQ}
theorem ec.up (H:ec i s) (h:i≤j):ec j s:=⟨H.ok.mono (by omega),by have:=H.cnt;omega⟩
end
def dn (c st:Int) (o:aG):aH:=⟨c,st,0,o,[]⟩
def gU (p:aQ):aG:=⟨3,p,[],0,0,false,false,false,[]⟩
def gm (p:aQ) (w:Bool):aG:=⟨6,p,[],0,0,false,false,w,[]⟩
def iy (p data:aQ) (i:Int):aG:=⟨5,p,data,i,0,false,false,false,[]⟩
def gM:aG:=⟨1,[],[],0,99,false,false,false,[]⟩
def u_:aG:=⟨9,[],[],0,0,false,false,false,[]⟩
section
variable {k c a b st n sa sb:Int} {s z:Sp} {o:aG} {x:aH} {p data:aQ} {T:List ag} {W E:List ak} {l:ag} {bs:aQ} {e:bN} {Z:Sp} {i:Int} {FF FG:Bool}
theorem Uc (h:o.az=[]):bE o 3=o:=by
  rw[CE,h]
  obtain⟨_,_,_,_,_,_,_,_,_⟩:=o
  simp only at h
  subst h
  simp[ql]
theorem L0:∀l:List Int,(dO l).length≤10*l.length
  |[]=>iE _
  |v::l=>by
   have h1:=L0 l
   have h2:=(rE v).2
   unfold dO at *
   rw[qq,cA,bY]
   omega
theorem FH (hr:dr false o=true) (u:o.az=[]) (hp:o.af.length≤200) (hd:o.Data.length≤200):(bA o).2=0:=by
  have e0:(iK o.az).2=0:=by rw[u,iK]
  have e1:(iK o.az).1=[]:=by rw[u,iK]
  have hl:∀f∈[dO (gW o),o.af,o.Data],f.length≤200:=by
    intro f hf
    simp only[ei,Ax,Ay] at hf
    have:=L0 (gW o)
    have h4:(gW o).length=4:=rfl
    rcases hf with rfl|rfl|rfl<;>omega
  have h1:cy o=(dA [dO (gW o),o.af,o.Data],0):=by
    rw[w5,aC (by rw[e0];simp),oA (ni hr),e1]
    exact AA (Cy (by show 3≤1024;decide) fun f hf=>bQ (hl f hf) (by decide))
  have h2:=yg (m:=200) _ hl
  unfold bA
  rw[aC (by rw[hr];decide),h1,aC (by
    simp only[bY,dU] at h2
    simp only[ne_eq,kE,false_or]
    omega)]
theorem FI (K:bK k s) (h0:0≤k) (hk:k≤90000) (hn:s.count≤1000000) (hc:0≤c∧c<8) (hst:1≤st∧st<1099511627776) (hl:(gh s c).cW<st) (hp:(bA o).2=0) (u:o.az=[]):
    bC (dn c st o)=(bA o).1∧eW s (dn c st o)=true∧aK s (dn c st o)=gV s c (bA o).1∧dF s (dn c st o)=lY s ⟨c,st,0,[]⟩ (bA o).1:=by
  have hb:bC (dn c st o)=(bA o).1:=by
    unfold bC dn
    simp only[]
    rw[Uc u,aC (by rw[hp];simp)]
  have ht:dI s (0:Int)=s:=vn K (by have:=K.aA;omega)
  have hE:iL ⟨c,st,0,[]⟩=true:=by
    unfold iL
    simp only[b_,cQ]
    omega
  have hd:dQ s ⟨c,st,0,[]⟩=true:=by
    unfold dQ
    simp only[]
    rw[hE,ht,eu hl];rfl
  have hR:=yQ (b:=(bA o).1) K (by omega) (by omega) (by omega) hd
  have hR:bw (bh s ⟨c,st,0,[]⟩ (bA o).1)=(gV s c (bA o).1,0):=by
    rw[hR]
    show(gV (dI s 0) c _,_)=_
    rw[ht]
  have hdn:AF s (dn c st o)=true:=hd
  refine⟨hb,?_,?_,?_⟩
  · unfold eW
    rw[hdn,hb]
    show(true&&(bw (bh s ⟨c,st,0,[]⟩ (bA o).1)).2==0)=true
    rw[hR];rfl
  · unfold aK
    rw[aO hdn,hb]
    show(bw (bh s ⟨c,st,0,[]⟩ (bA o).1)).1=_
    rw[hR]
  · unfold dF
    rw[hb]
    show bD s ⟨c,st,0,[]⟩ (bA o).1=_
    unfold bD
    simp only[]
    rw[ht,aO ⟨hE,hl⟩]
structure iJ (a b:Int) (T:List ag) (W E:List ak) (n sa sb:Int) (ha hb:Bool) (s:Sp):Prop where
  ok:bK (4*n) s
  cnt:s.count≤n
  tree:s.au=T
  yx:s.aN=W
  ea:cV s.events a=[]
  eb:cV s.events b=E
  ba:(bV s.book a).isSome=ha
  bb:(bV s.book b).isSome=hb
  la:(gh s a).cW<sa
  lb:(gh s b).cW<sb
theorem iJ.new:iJ a b [⟨[47],[],0, -1,0,0⟩] [] [] 0 1 1 false false mL:=⟨bK.new,by decide,rfl,rfl,rfl,rfl,rfl,rfl,by show(0:Int)<1;decide,by show(0:Int)<1;decide⟩
theorem touch_some {u:gx} {c' cD:Int}:(bV (touchB u c' cD) c).isSome=(bV u c).isSome:=by
  unfold touchB
  split
  · rfl
  · rename_i x hx
    split
    · rfl
    · rw[n9]
      split
      · rename_i h;rw[←h,hx];rfl
      · rfl
theorem va:(gh (lY s e bs) c).cW=if e.Client=c then e.bn else (gh s c).cW:=by
  unfold gh
  rw[wZ,n9]
  split<;>rfl
theorem L1 (K:bK k s) (hp:(bA o).2=0) (h1:¬o.Kind=1) (hs:(bV s.book c).isSome=true):
    cF (cB s) c (bA o).1=lC (touchS (cB s) c) c o∧∀x,cR (cB s) c (bA o).1 x=mY (touchS (cB s) c) c o {x with Code:=0}:=by
  have ht:touchE (cB s).book c (cB s).aA=0:=by
    unfold touchE
    have:=K.aA
    refine aC ?_
    show ¬((bV s.book c).isSome=false∨s.aA<0∨s.aA≥1099511627776)
    rw[hs]
    rintro(h|h|h)
    · cases h
    · omega
    · omega
  have hr:=w8 hp
  refine⟨?_,fun x=>?_⟩
  · unfold cF
    rw[hr]
    simp only[ne_eq,kE,dV]
    rw[aC h1,ht,aC (by simp)]
  · unfold cR
    rw[hr]
    simp only[ne_eq,kE,dV]
    rw[aC h1,ht,aC (by simp)]
theorem FJ (u:o.az=[]) (h:kU o false=true):dr false o=true:=by
  rw[nj,h,u];rfl
theorem Ud:dr false (gU p)=true:=FJ rfl (by simp[kU,rA,nS,bT,qX,qY,qZ,q7,qe,q8,n7,rC,gU])
theorem Ue {w:Bool}:dr false (gm p w)=true:=FJ rfl (by simp[kU,rA,nS,bT,qX,qY,qZ,q7,qe,q8,n7,rC,gm])
theorem Uf (h:i=0∨i=1):dr false (iy p data i)=true:=FJ rfl (by rcases h with rfl|rfl<;>simp[kU,rA,nS,bT,qX,qY,qZ,q7,qe,q8,n7,rC,iy])
theorem Ug (hp:p.length≤200):(bA (gU p)).2=0:=FH Ud rfl hp (by show 0≤200;decide)
theorem L2 {w:Bool} (hp:p.length≤200):(bA (gm p w)).2=0:=FH Ue rfl hp (by show 0≤200;decide)
theorem Uh (h:i=0∨i=1) (hp:p.length≤200) (hd:data.length≤128):(bA (iy p data i)).2=0:=FH (Uf h) rfl hp (bQ hd (by decide))
theorem L3:(bA gM).2=0:=by decide+kernel
theorem Ui:(bA u_).2=0:=by decide+kernel
theorem FK (H:fq k T) (hl:l∈T) (e:l.af=p):cc T p=some l:=by
  cases h:cc T p with
  |none=>exact absurd e (oh.1 h l hl)
  |some m=>
   obtain⟨h1,h2⟩:=ki h
   rw[H.sort.uniq h1 hl (h2.trans e.symm)]
theorem L4 (ns:List ag) (l:ag):l∈eO ns l:=(qc ns l).mem_iff.2 (by simp)
theorem L5 (H:iJ a b T W E n sa sb true true s) (h0:0≤n) (hn:n≤1000) (hab:¬a=b) (ha:0≤a∧a<8) (hst:1≤st∧st<1000000∧sa≤st) (hp:(bA o).2=0) (D:o.az=[]) (h1:¬o.Kind=1)
    (hZ:lC (touchS (cB s) a) a o=Z) (hB:Z.book=(touchS (cB s) a).book):
    eW s (dn a st o)=true∧aK s (dn a st o)={mY (touchS (cB s) a) a o ⟨0,s.count+1,0,eD,[],[]⟩ with aT:=cV Z.events a}∧iJ a b Z.au Z.aN (cV Z.events b) (n+1) (st+1) sb true true (dF s (dn a st o)):=by
  have hc:=H.cnt
  have J:=H.la
  obtain⟨-,G,I,u⟩:=FI (o:=o) H.ok (by omega) (by omega) (by omega) ha ⟨hst.1,by omega⟩ (show(gh s a).cW<st by omega) hp D
  obtain⟨r1,r2⟩:=L1 H.ok hp h1 H.ba
  have r1:=r1.trans hZ
  refine⟨G,?_,?_⟩
  · rw[I]
    unfold gV
    rw[r2,r1]
  · have hok:bK (4*(n+1)) (dF s (dn a st o)):=(H.ok.iX (by omega) (by omega) (by omega)).mono (by omega)
    have O:(dF s (dn a st o)).count=s.count+1:=by rw[u,AD]
    refine⟨hok,by omega,?_,?_,?_,?_,?_,?_,?_,?_⟩
    · rw[u,←r1];rfl
    · rw[u,←r1];rfl
    · rw[u]
      show cV (eF _ a) a=[]
      rw[nq,aO rfl]
    · rw[u]
      show cV (eF (cF (cB s) a (bA o).1).events a) b=cV Z.events b
      rw[nq,aC hab,r1]
    · rw[u]
      show(bV (cF (cB s) a (bA o).1).book a).isSome=true
      rw[r1,hB]
      exact touch_some.trans H.ba
    · rw[u]
      show(bV (cF (cB s) a (bA o).1).book b).isSome=true
      rw[r1,hB]
      exact touch_some.trans H.bb
    · rw[u,va,aO rfl]
      show st<st+1
      omega
    · rw[u,va,aC hab]
      exact H.lb
theorem FL (H:iJ a b T W E n sa sb true true s) (h0:0≤n) (hn:n≤1000) (hab:¬a=b) (hb:0≤b∧b<8) (hst:1≤st∧st<1000000∧sb≤st) (hp:(bA o).2=0) (D:o.az=[]) (h1:¬o.Kind=1)
    (hZ:lC (touchS (cB s) b) b o=Z) (hB:Z.book=(touchS (cB s) b).book) (hE:cV Z.events a=[]):
    eW s (dn b st o)=true∧aK s (dn b st o)={mY (touchS (cB s) b) b o ⟨0,s.count+1,0,eD,[],[]⟩ with aT:=cV Z.events b}∧iJ a b Z.au Z.aN [] (n+1) sa (st+1) true true (dF s (dn b st o)):=by
  have hc:=H.cnt
  have J:=H.lb
  obtain⟨-,G,I,u⟩:=FI (o:=o) H.ok (by omega) (by omega) (by omega) hb ⟨hst.1,by omega⟩ (show(gh s b).cW<st by omega) hp D
  obtain⟨r1,r2⟩:=L1 H.ok hp h1 H.bb
  have r1:=r1.trans hZ
  have hba:¬b=a:=fun e=>hab e.symm
  refine⟨G,?_,?_⟩
  · rw[I]
    unfold gV
    rw[r2,r1]
  · have hok:bK (4*(n+1)) (dF s (dn b st o)):=(H.ok.iX (by omega) (by omega) (by omega)).mono (by omega)
    have O:(dF s (dn b st o)).count=s.count+1:=by rw[u,AD]
    refine⟨hok,by omega,?_,?_,?_,?_,?_,?_,?_,?_⟩
    · rw[u,←r1];rfl
    · rw[u,←r1];rfl
    · rw[u]
      show cV (eF (cF (cB s) b (bA o).1).events b) a=[]
      rw[nq,aC hba,r1]
      exact hE
    · rw[u]
      show cV (eF _ b) b=[]
      rw[nq,aO rfl]
    · rw[u]
      show(bV (cF (cB s) b (bA o).1).book a).isSome=true
      rw[r1,hB]
      exact touch_some.trans H.ba
    · rw[u]
      show(bV (cF (cB s) b (bA o).1).book b).isSome=true
      rw[r1,hB]
      exact touch_some.trans H.bb
    · rw[u,va,aC hba]
      exact H.la
    · rw[u,va,aO rfl]
      show st<st+1
      omega
theorem L6 (K:bK k s) (h0:0≤k) (hk:k≤90000) (hn:s.count≤1000000) (hc:0≤c∧c<8) (hl:(gh s c).cW<1) (hs:(bV s.book c).isSome=false):
    eW s (dn c 1 gM)=true∧cF (cB s) c (bA gM).1={cB s with book:=dJ s.book c ⟨c,99,s.aA⟩}∧dF s (dn c 1 gM)=lY s ⟨c,1,0,[]⟩ (bA gM).1:=by
  obtain⟨-,u,I,D⟩:=FI (o:=gM) K h0 hk hn hc ⟨by decide,by decide⟩ hl L3 rfl
  refine⟨u,?_,D⟩
  have hr:=w8 L3
  unfold cF
  rw[hr]
  simp only[ne_eq,kE,dV]
  rw[aO (show gM.Kind=1 by rfl)]
  have G:iQ ⟨c,99,s.aA⟩=true:=by
    unfold iQ
    have:=K.aA
    simp only[b_,cQ]
    omega
  have:=(EG (x:=s.book) (c:=c) (dD:=99) (cD:=s.aA) G hs).2
  show({cB s with book:=lB s.book c 99 s.aA}:Sp)=_
  rw[this]
theorem Uj (H:iJ a b T W E n 1 sb false FG s) (h0:0≤n) (hn:n≤1000) (hab:¬a=b) (ha:0≤a∧a<8):eW s (dn a 1 gM)=true∧iJ a b T W E (n+1) 2 sb true FG (dF s (dn a 1 gM)):=by
  have hc:=H.cnt
  obtain⟨I,D,u⟩:=L6 H.ok (by omega) (by omega) (by omega) ha H.la H.ba
  refine⟨I,?_⟩
  have hok:bK (4*(n+1)) (dF s (dn a 1 gM)):=(H.ok.iX (by omega) (by omega) (by omega)).mono (by omega)
  have O:(dF s (dn a 1 gM)).count=s.count+1:=by rw[u,AD]
  have J:(cF (cB s) a (bA gM).1).events=s.events:=by rw[D];rfl
  have G:(cF (cB s) a (bA gM).1).book=dJ s.book a ⟨a,99,s.aA⟩:=by rw[D]
  refine⟨hok,by omega,?_,?_,?_,?_,?_,?_,?_,?_⟩
  · rw[u,←H.tree]
    show(cF (cB s) a (bA gM).1).au=s.au
    rw[D];rfl
  · rw[u,←H.yx]
    show(cF (cB s) a (bA gM).1).aN=s.aN
    rw[D];rfl
  · rw[u]
    show cV (eF _ a) a=[]
    rw[nq,aO rfl]
  · rw[u]
    show cV (eF (cF (cB s) a (bA gM).1).events a) b=E
    rw[nq,aC hab,J]
    exact H.eb
  · rw[u]
    show(bV (cF (cB s) a (bA gM).1).book a).isSome=true
    rw[G,n9,aO rfl];rfl
  · rw[u]
    show(bV (cF (cB s) a (bA gM).1).book b).isSome=FG
    rw[G,n9,aC hab]
    exact H.bb
  · rw[u,va,aO rfl]
    show(1:Int)<2
    decide
  · rw[u,va,aC hab]
    exact H.lb
theorem Uk (H:iJ a b T W [] n sa 1 FF false s) (h0:0≤n) (hn:n≤1000) (hab:¬a=b) (hb:0≤b∧b<8):eW s (dn b 1 gM)=true∧iJ a b T W [] (n+1) sa 2 FF true (dF s (dn b 1 gM)):=by
  have hc:=H.cnt
  have hba:¬b=a:=fun e=>hab e.symm
  obtain⟨I,D,u⟩:=L6 H.ok (by omega) (by omega) (by omega) hb H.lb H.bb
  refine⟨I,?_⟩
  have hok:bK (4*(n+1)) (dF s (dn b 1 gM)):=(H.ok.iX (by omega) (by omega) (by omega)).mono (by omega)
  have O:(dF s (dn b 1 gM)).count=s.count+1:=by rw[u,AD]
  have J:(cF (cB s) b (bA gM).1).events=s.events:=by rw[D];rfl
  have G:(cF (cB s) b (bA gM).1).book=dJ s.book b ⟨b,99,s.aA⟩:=by rw[D]
  refine⟨hok,by omega,?_,?_,?_,?_,?_,?_,?_,?_⟩
  · rw[u,←H.tree]
    show(cF (cB s) b (bA gM).1).au=s.au
    rw[D];rfl
  · rw[u,←H.yx]
    show(cF (cB s) b (bA gM).1).aN=s.aN
    rw[D];rfl
  · rw[u]
    show cV (eF (cF (cB s) b (bA gM).1).events b) a=[]
    rw[nq,aC hba,J]
    exact H.ea
  · rw[u]
    show cV (eF _ b) b=[]
    rw[nq,aO rfl]
  · rw[u]
    show(bV (cF (cB s) b (bA gM).1).book a).isSome=FF
    rw[G,n9,aC hba]
    exact H.ba
  · rw[u]
    show(bV (cF (cB s) b (bA gM).1).book b).isSome=true
    rw[G,n9,aO rfl];rfl
  · rw[u,va,aC hba]
    exact H.la
  · rw[u,va,aO rfl]
    show(1:Int)<2
    decide
end
section
variable {k c a b st n sa sb i:Int} {s z:Sp} {p data:aQ} {T:List ag} {W E:List ak} {l:ag}
theorem L7 {kind:Int} {ps:List aQ} (h:s.aN=[]):(lu s kind ps).aN=[]∧(lu s kind ps).events=s.events:=by
  unfold lu
  rw[h]
  exact⟨rfl,rfl⟩
theorem Ul (H:iJ a b [⟨[47],[],0, -1,0,0⟩] [] [] n sa sb true true s) (h0:0≤n) (hn:n≤1000) (hab:¬a=b) (ha:0≤a∧a<8) (hst:1≤st∧st<1000000∧sa≤st) (hp:p.length≤200):
    eW s (dn a st (gU p))=true∧((aK s (dn a st (gU p))).Code=0∨(aK s (dn a st (gU p))).Code=90∨(aK s (dn a st (gU p))).Code=100)∧
    ((aK s (dn a st (gU p))).Code=0→∃T l,l∈T∧l.af=p∧l.ai=0∧cX p=0∧iJ a b T [] [] (n+1) (st+1) sb true true (dF s (dn a st (gU p)))):=by
  have G:∀S:Sp,(kD S a (gU p)).book=S.book:=fun S=>by
    unfold kD
    split
    · exact AN _ _
    · rfl
  obtain⟨I,J,u⟩:=L5 H h0 hn hab ha hst (Ug hp) rfl (show ¬(gU p).Kind=1 from(by decide:¬(3:Int)=1)) (Z:=kD (touchS (cB s) a) a (gU p)) rfl (G _)
  refine⟨I,?_⟩
  have hS:(touchS (cB s) a).au=[⟨[47],[],0, -1,0,0⟩]:=H.tree
  have hX:(aK s (dn a st (gU p))).Code=cK (touchS (cB s) a) a (gU p):=by
    rw[J]
    show(tE (touchS (cB s) a) a (gU p) _).Code=_
    unfold tE
    split<;>rfl
  rw[hX]
  generalize D:touchS (cB s) a=S at *
  have hE:cK S a (gU p)=(cm [⟨[47],[],0, -1,0,0⟩] p [] (-1) S.count false).2.2:=by
    rw[←hS];rfl
  have hT:ew S a (gU p)=(cm [⟨[47],[],0, -1,0,0⟩] p [] (-1) S.count false).1:=by
    rw[←hS];rfl
  unfold cm at hE hT
  by_cases c1:cz p≠0
  · rw[aO c1] at hE
    have:cz p=90:=by unfold cz at *;split<;>simp_all
    rw[hE]
    exact⟨.inr (.inl this),fun h=>absurd h c1⟩
  rw[aC c1] at hE hT
  have hz:¬([]:aQ).length>128:=by decide
  rw[aC hz] at hE hT
  cases hf:cc [⟨[47],[],0, -1,0,0⟩] (parentOf p) with
  |none=>
   rw[hf] at hE
   rw[hE]
   exact⟨.inr (.inr rfl),fun h=>by cases h⟩
  |some up=>
   have O:=iw.1 (ki hf).1
   rw[hf] at hE hT
   subst O
   have hpl:cx p≠[]:=fun e=>c1 (by unfold cz;rw[aO e];decide)
   have hne:p≠[47]:=fun e=>hpl (by rw[e];rfl)
   have U:cc [(⟨[47],[],0, -1,0,0⟩:ag)] p=none:=oh.2 fun m hm=>by
     rw[iw.1 hm]
     exact fun e=>hne e.symm
   have e1:gL ⟨[47],[],0, -1,0,0⟩ p false=0:=rfl
   have e2:fR ⟨[47],[],0, -1,0,0⟩ p false=p:=rfl
   simp only[e1,e2,U] at hE hT
   rw[aC (by decide),aC (by decide),aC (by decide)] at hE hT
   have hE:cK S a (gU p)=0:=hE
   refine⟨.inl hE,fun _=>?_⟩
   have V:kD S a (gU p)=pE (cU S a (gU p)) (cY S a (gU p)):=by
     unfold kD
     rw[aO hE]
     rfl
   have hw:(cU S a (gU p)).aN=[]:=by rw[←D];exact H.yx
   have hv:(pE (cU S a (gU p)) (cY S a (gU p))).aN=[]∧(pE (cU S a (gU p)) (cY S a (gU p))).events=S.events:=by
     obtain⟨f1,f2⟩:=L7 (kind:=1) (ps:=[cY S a (gU p)]) hw
     obtain⟨f3,f4⟩:=L7 (kind:=2) (ps:=[parentOf (cY S a (gU p))]) f1
     exact⟨f3,f4.trans f2⟩
   rw[V,hv.1,hv.2,show S.events=s.events by rw[←D];rfl,H.eb] at u
   refine⟨_,⟨p,[],0,max (-1) (-1),0,max S.count 0⟩,?_,rfl,rfl,?_,u⟩
   · show _∈ew S a (gU p)
     rw[hT]
     exact L4 _ _
   · unfold cX
     split
     · rfl
     · rename_i h
       exact absurd (by unfold cx;rw[aC h]) hpl
theorem Um (H:iJ a b T [] [] n sa sb true true s) (h0:0≤n) (hn:n≤1000) (hab:¬a=b) (hb:0≤b∧b<8) (hst:1≤st∧st<1000000∧sb≤st) (hp:p.length≤200) (hl:l∈T) (hlp:l.af=p) (hpe:cX p=0):
    eW s (dn b st (gm p true))=true∧(aK s (dn b st (gm p true))).Code=0∧(aK s (dn b st (gm p true))).ag=l∧(aK s (dn b st (gm p true))).aT=[]∧iJ a b T [⟨b,1,p⟩] [] (n+1) sa (st+1) true true (dF s (dn b st (gm p true))):=by
  have hS:(touchS (cB s) b).au=T:=H.tree
  have hw:(touchS (cB s) b).aN=[]:=H.yx
  have he:(touchS (cB s) b).events=s.events:=rfl
  obtain⟨I,u,D⟩:=FL (o:=gm p true) H h0 hn hab hb hst (L2 hp) rfl (show ¬(6:Int)=1 from by decide) (Z:=kC (touchS (cB s) b) b (gm p true)) rfl (by unfold kC;split<;>rfl) (by unfold kC;split<;>exact H.ea)
  have hrw:jD ⟨b,1,p⟩=true:=by
    unfold jD
    simp only[hpe,b_,cQ]
    exact⟨hb.1,hb.2,by decide,by decide⟩
  generalize J:touchS (cB s) b=S at *
  have G:jO S ⟨b,1,p⟩=0∧ug S ⟨b,1,p⟩=[⟨b,1,p⟩]:=by
    unfold jO ug
    rw[hw,he]
    have h1:¬((cnt b ([]:List ak):Int)+(cV s.events b).length≥8):=by rw[H.eb];exact(by decide:¬((0:Int)+0≥8))
    refine⟨?_,?_⟩
    · rw[aC (by simp),aC h1]
      unfold nW
      rw[hrw,aC (by decide),aC (by simp[mX]),aC (by show ¬((0:Int)≥8);decide)]
    · rw[aC (by simp),aC h1]
      unfold nX
      rw[hrw,aC (by decide),aC (by simp[mX]),aC (by show ¬((0:Int)≥8);decide)]
      simp[nV]
  have hg:cg S.au (gm p true).af=(l,0):=by
    show cg S.au p=_
    unfold cg
    rw[aO hpe,hS,FK (H.tree▸H.ok.tree) hl hlp]
  have hZ:kC S b (gm p true)={S with aN:=[⟨b,1,p⟩]}:=by
    show mN S ⟨b,1,p⟩=_
    unfold mN
    rw[G.2]
  have hX:∀x:Result,mY S b (gm p true) x={x with Code:=0,ag:=l}:=fun x=>by
    show mj S b (gm p true) x=_
    unfold mj
    rw[aC (fun h=>h.2 G.1)]
    show(if (gm p true).Kind=7 then _ else if (cg S.au (gm p true).af).2=0 then _ else _)=_
    rw[aC (show ¬(gm p true).Kind=7 from(by decide:¬(6:Int)=7)),hg,aO rfl]
  rw[hX] at u
  rw[hZ] at u D
  refine⟨I,by rw[u],by rw[u],?_,?_⟩
  · rw[u]
    show cV S.events b=[]
    rw[he,H.eb]
  · have:({S with aN:=[⟨b,1,p⟩]}:Sp).au=T:=hS
    rw[this] at D
    exact D
theorem Un (H:iJ a b T W E n sa sb true true s) (h0:0≤n) (hn:n≤1000) (hab:¬a=b) (ha:0≤a∧a<8) (hst:1≤st∧st<1000000∧sa≤st) (hp:p.length≤200) (hd:data.length≤128) (hl:l∈T) (hlp:l.af=p) (hpe:cX p=0) (hi:i=0∨i=1) (hv:l.ai=i) (D:W=[⟨b,1,p⟩]∨W=[]):
    eW s (dn a st (iy p data i))=true∧(aK s (dn a st (iy p data i))).Code=0∧(aK s (dn a st (iy p data i))).ag.ai=i+1∧(aK s (dn a st (iy p data i))).aT=[]∧∃T',{l with Data:=data,ai:=i+1}∈T'∧iJ a b T' [] (E++W) (n+1) (st+1) sb true true (dF s (dn a st (iy p data i))):=by
  have hS:(touchS (cB s) a).au=T:=H.tree
  have hw:(touchS (cB s) a).aN=W:=H.yx
  have he:(touchS (cB s) a).events=s.events:=rfl
  have J:∀S:Sp,(kD S a (iy p data i)).book=S.book:=fun S=>by
    unfold kD
    split
    · exact AN _ _
    · rfl
  obtain⟨O,u,G⟩:=L5 H h0 hn hab ha hst (Uh hi hp hd) rfl (show ¬(iy p data i).Kind=1 from(by decide:¬(5:Int)=1)) (Z:=kD (touchS (cB s) a) a (iy p data i)) rfl (J _)
  generalize Y:touchS (cB s) a=S at *
  have hwr:IntKind.wrap .i64 (l.ai+1)=i+1:=by
    rw[hv]
    rcases hi with rfl|rfl<;>rfl
  have hset:fe S.au p data i=(eO T {l with Data:=data,ai:=i+1},i+1,0):=by
    unfold fe
    rw[hpe,aC (by simp),hS,FK (H.tree▸H.ok.tree) hl hlp]
    simp only[]
    rw[aC (by rw[hv];simp),aC (by omega),hwr]
  have hE:cK S a (iy p data i)=0:=by
    show(fe S.au p data i).2.2=0
    rw[hset]
  have hT:ew S a (iy p data i)=eO T {l with Data:=data,ai:=i+1}:=by
    show(fe S.au p data i).1=_
    rw[hset]
  have hL:(bS S a (iy p data i)).ai=i+1:=by
    show(if (fe S.au p data i).2.2=0 then ({eD with af:=p,ai:=(fe S.au p data i).2.1}:ag) else eD).ai=_
    rw[hset,aO rfl]
  have I:kD S a (iy p data i)=lu (cU S a (iy p data i)) 1 [p]:=by
    unfold kD
    rw[aO hE]
    rfl
  have hX:∀x:Result,mY S a (iy p data i) x={x with Code:=0,ag:=bS S a (iy p data i)}:=fun x=>by
    show tE S a (iy p data i) x=_
    unfold tE
    rw[aO hE,hE]
  have U:(cU S a (iy p data i)).aN=W:=hw
  have hf:(lu (cU S a (iy p data i)) 1 [p]).aN=[]∧(lu (cU S a (iy p data i)) 1 [p]).events=kz s.events W:=by
    unfold lu
    rw[U]
    have hq:gl 1 [p] ⟨b,1,p⟩=true:=by simp[gl]
    rcases D with rfl|rfl
    · simp only[jK,hq,List.filter_nil,nk,gA,dV,jl]
      exact⟨trivial,by rw[←he];rfl⟩
    · exact⟨rfl,by rw[←he];rfl⟩
  have V:W.filter (fun w=>decide (w.Client=a))=[]:=by
    rcases D with rfl|rfl
    · rw[jK,aC (by simpa using fun e:b=a=>hab e.symm)];rfl
    · rfl
  have X:W.filter (fun w=>decide (w.Client=b))=W:=by
    rcases D with rfl|rfl
    · simp
    · rfl
  rw[hX,I] at u
  rw[I,hf.1,hf.2,vv,H.eb,X] at G
  refine⟨O,by rw[u],by rw[u];exact hL,?_,eO T {l with Data:=data,ai:=i+1},L4 _ _,?_⟩
  · rw[u]
    show cV (lu (cU S a (iy p data i)) 1 [p]).events a=[]
    rw[hf.2,vv,H.ea,V];rfl
  · have:(lu (cU S a (iy p data i)) 1 [p]).au=eO T {l with Data:=data,ai:=i+1}:=hT
    rw[this] at G
    exact G
theorem Uo (H:iJ a b T W E n sa sb true true s) (h0:0≤n) (hn:n≤1000) (hab:¬a=b) (hb:0≤b∧b<8) (hst:1≤st∧st<1000000∧sb≤st):
    eW s (dn b st u_)=true∧(aK s (dn b st u_)).aT=E∧iJ a b T W [] (n+1) sa (st+1) true true (dF s (dn b st u_)):=by
  obtain⟨D,G,u⟩:=FL H h0 hn hab hb hst Ui rfl (show ¬u_.Kind=1 from(by decide:¬(9:Int)=1)) (Z:=touchS (cB s) b) rfl rfl H.ea
  refine⟨D,?_,?_⟩
  · rw[G]
    exact H.eb
  · have h1:(touchS (cB s) b).au=T:=H.tree
    have h2:(touchS (cB s) b).aN=W:=H.yx
    rw[h1,h2] at u
    exact u
theorem Up (H:iJ a b T W [] n sa sb true true s) (h0:0≤n) (hn:n≤1000) (hab:¬a=b) (hb:0≤b∧b<8) (hst:1≤st∧st<1000000∧sb≤st) (hp:p.length≤200) (hl:l∈T) (hlp:l.af=p) (hpe:cX p=0):
    eW s (dn b st (gm p false))=true∧(aK s (dn b st (gm p false))).ag=l∧(aK s (dn b st (gm p false))).aT=[]:=by
  have hS:(touchS (cB s) b).au=T:=H.tree
  obtain⟨D,u, -⟩:=FL (o:=gm p false) H h0 hn hab hb hst (L2 hp) rfl (show ¬(6:Int)=1 from by decide) (Z:=touchS (cB s) b) rfl rfl H.ea
  refine⟨D,?_,?_⟩
  · rw[u]
    show(mj (touchS (cB s) b) b (gm p false) _).ag=l
    generalize G:touchS (cB s) b=S at *
    have hg:cg S.au (gm p false).af=(l,0):=by
      show cg S.au p=_
      unfold cg
      rw[aO hpe,hS,FK (H.tree▸H.ok.tree) hl hlp]
    unfold mj
    rw[aC (show ¬((gm p false).ak=true∧_) from fun h=>by cases h.1)]
    show(if (gm p false).Kind=7 then _ else if (cg S.au (gm p false).af).2=0 then _ else _:Result).ag=l
    rw[aC (show ¬(gm p false).Kind=7 from(by decide:¬(6:Int)=7)),hg,aO rfl]
  · rw[u]
    exact H.eb
theorem iJ.yy {ha hb:Bool} (H:iJ a b T W E n sa sb ha hb s):ec n s:=⟨H.ok,H.cnt⟩
def qn (a b:Int) (p:aQ):List aH:=[dn a 1 gM,dn b 1 gM,dn a 2 (gU p)]
def vb (a b:Int) (p:aQ) (i:Int) (y:Sp) (r:Result):Prop:=
  (i=0∧iJ a b [⟨[47],[],0, -1,0,0⟩] [] [] 0 1 1 false false y)∨(i=1∧iJ a b [⟨[47],[],0, -1,0,0⟩] [] [] 1 2 1 true false y)∨(i=2∧iJ a b [⟨[47],[],0, -1,0,0⟩] [] [] 2 2 2 true true y)∨
  (i=3∧ec 3 y∧(r.Code=0∨r.Code=90∨r.Code=100)∧(r.Code=0→∃T l,l∈T∧l.af=p∧l.ai=0∧cX p=0∧iJ a b T [] [] 3 3 2 true true y))
section
variable {r:Result} {x:aH} {y:Sp}
theorem Uq:vb a b p 0 mL r:=.inl ⟨rfl,iJ.new⟩
theorem L8 (h:vb a b p i y r):ec 3 y:=by
  rcases h with ⟨-,h⟩|⟨-,h⟩|⟨-,h⟩|⟨-,h, -⟩
  · exact h.yy.up (by omega)
  · exact h.yy.up (by omega)
  · exact h.yy.up (by omega)
  · exact h
theorem Ur (hp:p.length≤200) (hx:(qn a b p)[i.toNat]?=some x):cq x.Op≤100000000∧x.cS.length≤2000:=by
  have:=cj hx
  unfold qn at this
  simp only[ei,Ax,Ay] at this
  have h2:c7 []=0:=by rw[c7]
  rcases this with rfl|rfl|rfl<;>refine⟨?_,fH _⟩<;>rw[mO]<;>simp only[dn,gM,gU,h2,dU]<;>omega
theorem L9 (h:vb a b p i y r) (h0:0≤i) (hx:(qn a b p)[i.toNat]?=some x) (hab:¬a=b) (ha:0≤a∧a<8) (hb:0≤b∧b<8) (hp:p.length≤200):
    eW y x=true∧vb a b p (i+1) (dF y x) (aK y x):=by
  rcases h with ⟨rfl,h⟩|⟨rfl,h⟩|⟨rfl,h⟩|⟨rfl, -⟩
  · have hx:some (dn a 1 gM)=some x:=hx
    obtain rfl:=fK hx
    obtain⟨u,D⟩:=Uj h (by omega) (by omega) hab ha
    exact⟨u,.inr (.inl ⟨rfl,D⟩)⟩
  · have hx:some (dn b 1 gM)=some x:=hx
    obtain rfl:=fK hx
    obtain⟨u,D⟩:=Uk h (by omega) (by omega) hab hb
    exact⟨u,.inr (.inr (.inl ⟨rfl,D⟩))⟩
  · have hx:some (dn a 2 (gU p))=some x:=hx
    obtain rfl:=fK hx
    obtain⟨u,D,G⟩:=Ul (st:=2) h (by omega) (by omega) hab ha (by omega) hp
    exact⟨u,.inr (.inr (.inr ⟨rfl,h.yy.done (by omega) (by omega),D,G⟩))⟩
  · have hx:none=some x:=hx
    cases hx
theorem L_ (h:vb a b p i y r) (h1:¬i<3):i=3∧ec 3 y∧(r.Code=0∨r.Code=90∨r.Code=100)∧(r.Code=0→∃T l,l∈T∧l.af=p∧l.ai=0∧cX p=0∧iJ a b T [] [] 3 3 2 true true y):=by
  rcases h with ⟨h, -⟩|⟨h, -⟩|⟨h, -⟩|h
  · omega
  · omega
  · omega
  · exact h
theorem Us (h:vb a b p i y r) (h1:¬i<3) (h2:¬r.Code=0):r.Code=90∨r.Code=100:=(L_ h h1).2.2.1.resolve_left h2
def yz (a b:Int) (p data:aQ) (i:Int) (y:Sp):Prop:=∃T l W E,l∈T∧l.af=p∧cX p=0∧l.ai=i∧(i=0∧W=[⟨b,1,p⟩]∧E=[]∨1≤i∧W=[]∧E=[⟨b,1,p⟩]∧l.Data=data)∧iJ a b T W E (4+i) (3+i) 3 true true y
theorem AP (h:vb a b p i y r) (h1:¬i<3) (h2:r.Code=0) (hab:¬a=b) (hb:0≤b∧b<8) (hp:p.length≤200):
    eW y (dn b 2 (gm p true))=true∧(aK y (dn b 2 (gm p true))).Code=0∧(aK y (dn b 2 (gm p true))).ag.af=p∧(aK y (dn b 2 (gm p true))).aT=[]∧yz a b p data 0 (dF y (dn b 2 (gm p true))):=by
  obtain⟨T,l,k1,k2,D,u,G⟩:=(L_ h h1).2.2.2 h2
  obtain⟨I,J,O,U,V⟩:=Um (st:=2) G (by omega) (by omega) hab hb (by omega) hp k1 k2 u
  exact⟨I,J,by rw[O];exact k2,U,T,l,_,_,k1,k2,u,D,.inl ⟨rfl,rfl,rfl⟩,V⟩
theorem Ma (h:yz a b p data i y) (hi:i≤2):ec 6 y:=by
  obtain⟨T,l,W,E, -, -, -, -, -,h⟩:=h
  exact h.yy.up (by omega)
theorem AQ (h:yz a b p data i y) (h0:0≤i) (h2:i<2) (hab:¬a=b) (ha:0≤a∧a<8) (hp:p.length≤200) (hd:data.length≤128):
    eW y (dn a (3+i) (iy p data i))=true∧(aK y (dn a (3+i) (iy p data i))).Code=0∧(aK y (dn a (3+i) (iy p data i))).ag.ai=i+1∧(aK y (dn a (3+i) (iy p data i))).aT=[]∧yz a b p data (i+1) (dF y (dn a (3+i) (iy p data i))):=by
  obtain⟨T,l,W,E,k1,k2,u,G,D,I⟩:=h
  have J:W=[⟨b,1,p⟩]∨W=[]:=by
    rcases D with k|k
    · exact .inl k.2.1
    · exact .inr k.2.1
  obtain⟨O,U,V,X,T',Y,ab⟩:=Un (st:=3+i) I (by omega) (by omega) hab ha (by omega) hp hd k1 k2 u (by omega) G J
  refine⟨O,U,V,X,T',_,[],E++W,Y,k2,u,rfl,.inr ⟨by omega,rfl,?_,rfl⟩,?_⟩
  · rcases D with ⟨-,rfl,rfl⟩|⟨-,rfl,rfl, -⟩<;>rfl
  · rw[show 4+(i+1)=4+i+1 by omega,show 3+(i+1)=3+i+1 by omega]
    exact ab
def FM (a b:Int) (p data:aQ) (y:Sp):Prop:=∃T l W,l∈T∧l.af=p∧cX p=0∧l.ai=2∧l.Data=data∧iJ a b T W [] 7 5 4 true true y
theorem tI (h:yz a b p data i y) (h0:i≤2) (h2:¬i<2) (hab:¬a=b) (hb:0≤b∧b<8):eW y (dn b 3 u_)=true∧(aK y (dn b 3 u_)).aT=[⟨b,1,p⟩]∧FM a b p data (dF y (dn b 3 u_)):=by
  have:i=2:=by omega
  subst this
  obtain⟨T,l,W,E,k1,k2,D,G,u,I⟩:=h
  rcases u with ⟨k, -⟩|⟨-, -,rfl,u⟩
  · omega
  obtain⟨J,O,U⟩:=Uo (st:=3) I (by omega) (by omega) hab hb (by omega)
  exact⟨J,O,T,l,W,k1,k2,D,G,u,U⟩
theorem Ut (h:FM a b p data y):ec 7 y:=by
  obtain⟨T,l,W, -, -, -, -, -,h⟩:=h
  exact h.yy
theorem AR (h:FM a b p data y) (hab:¬a=b) (hb:0≤b∧b<8) (hp:p.length≤200):eW y (dn b 4 (gm p false))=true∧(aK y (dn b 4 (gm p false))).aT=[]∧(aK y (dn b 4 (gm p false))).ag.Data=data∧(aK y (dn b 4 (gm p false))).ag.ai=2:=by
  obtain⟨T,l,W,k1,k2,D,G,I,J⟩:=h
  obtain⟨O,u,U⟩:=Up (st:=4) J (by omega) (by omega) hab hb (by omega) hp k1 k2 D
  exact⟨O,U,by rw[u];exact I,by rw[u];exact G⟩
theorem FN {c st:Int} {o:aG} (u:o.az=[]) (hp:o.af.length≤200) (hd:o.Data.length≤200):cq (dn c st o).Op≤100000000∧(dn c st o).cS.length≤2000:=by
  refine⟨?_,fH _⟩
  have h2:c7 []=0:=by rw[c7]
  show cq o≤_
  rw[mO,u,h2]
  omega
end
end
set_option maxRecDepth 100000
def tJ (g:GH) (b:Nat) (x:Result) (c:ay):Prop:=∃v4 v9 u,c=(b,.cells #[.int .i64 x.Code,.int .i64 x.aZ,.int .i64 x.At,.string (bp x.ag.af),v4,.int .i64 x.ag.ai,.int .i64 x.ag.aD,.int .i64 x.ag.Next,.int .i64 x.ag.aL,v9,u] 43 (0,0))::([])∧av g 5 br v4 x.ag.Data∧av g 9 eU v9 x.bP∧av g 45 dh u x.aT
theorem tJ.mono {g g':GH} {b:Nat} {x:Result} {c:ay} (h:tJ g b x c) (hg:aM g g'):tJ g' b x c:=by
 obtain⟨v4,v9,u,e,h0,h1,h2⟩:=h
 exact⟨v4,v9,u,e,h0.mono hg,h1.mono hg,h2.mono hg⟩
set_option maxHeartbeats 4000000 in
theorem Uu (B:World) (h:ax) (g:GH) (hg:bl g h) (D:bq g) (p:an) (dl:Value) (data:an) (I:av g 5 br dl data) (a:Int) (b:Int) (hP:lZ g) (hp:p.length≤1048576) (hd:data.length≤1048576):
  aE prog B 8 #[vS p,dl,vI a,vI b] h g [] (fun f4 g' L'=>f4=.bool true∧L'=[]):=by
 obtain⟨a4,a5,rfl⟩:=I.aj
 refine aE.aq func8 fun R hR=>?_
 have dp:=St.init hg
 refine At.go 1 1 [] ?_
 refine At.rg 2 ?_
 refine Op.c0 (some 15) (yY _ _ _ dp.sub D hP) dp ?_
 rintro _ i1 _ i2 bi U ⟨rfl,rfl⟩
 replace D:=D.mono bi
 replace hP:=hP.mono bi
 replace I:=I.mono bi
 refine Op.pg 2 [(16,.bool false)] ?_
 refine At.dK 16 5 ?_
 refine At.rp 29 4 [(20,.bool (decide ((p.length:Int)>200)))] ?_
 refine Op.wd ((p.length:Int)>200) 20 (fun i3=>?_) fun i4=>?_
 ·refine Op.pg 6 [(45,.bool true)] ?_
  refine At.bW 45 7 ?_
  exact At.gr 8 1 8 (.bool true) (hR U ⟨(aS (by rfl)),rfl⟩)
 refine Op.px 5 [(25,.bool (decide ((data.length:Int)>128)))] ?_
 refine Op.wd ((data.length:Int)>128) 25 (fun i5=>?_) fun i6=>?_
 ·refine Op.pg 6 [(45,.bool true)] ?_
  refine At.bW 45 7 ?_
  exact At.gr 8 1 8 (.bool true) (hR U ⟨(aS (by rfl)),rfl⟩)
 refine Op.px 4 [(29,.bool (decide (a<0)))] ?_
 refine Op.wd (a<0) 29 (fun i7=>?_) fun i8=>?_
 ·refine Op.pg 6 [(45,.bool true)] ?_
  refine At.bW 45 7 ?_
  exact At.gr 8 1 8 (.bool true) (hR U ⟨(aS (by rfl)),rfl⟩)
 refine Op.px 4 [(33,.bool (decide (a>7)))] ?_
 refine Op.wd (a>7) 33 (fun i9=>?_) fun jf=>?_
 ·refine Op.pg 6 [(45,.bool true)] ?_
  refine At.bW 45 7 ?_
  exact At.gr 8 1 8 (.bool true) (hR U ⟨(aS (by rfl)),rfl⟩)
 refine Op.px 4 [(37,.bool (decide (b<0)))] ?_
 refine Op.wd (b<0) 37 (fun jj=>?_) fun jn=>?_
 ·refine Op.pg 6 [(45,.bool true)] ?_
  refine At.bW 45 7 ?_
  exact At.gr 8 1 8 (.bool true) (hR U ⟨(aS (by rfl)),rfl⟩)
 refine Op.px 4 [(41,.bool (decide (b>7)))] ?_
 refine Op.wd (b>7) 41 (fun jt=>?_) fun j1=>?_
 ·refine Op.pg 6 [(45,.bool true)] ?_
  refine At.bW 45 7 ?_
  exact At.gr 8 1 8 (.bool true) (hR U ⟨(aS (by rfl)),rfl⟩)
 refine Op.pg 6 [(45,.bool (a==b))] ?_
 refine At.fd (a=b) 45 7 9 (fun j2=>?_) fun kc=>?_
 ·exact At.gr 8 1 8 (.bool true) (hR U ⟨(aS (by rfl)),rfl⟩)
 refine At.rg 2 ?_
 refine Op.c0 (some 46) (xm _ _ _ U.sub D) U ?_
 rintro _ f5 _ kd bj f6 ⟨J,kh,rfl,bk,rfl⟩
 replace D:=D.mono bj
 replace hP:=hP.mono bj
 replace I:=I.mono bj
 refine Op.pg 10 [(9,vP J)] ?_
 refine At.go 11 2 [(48,.bool false)] ?_
 refine At.dK 48 14 ?_
 refine At.rp 12 10 [(51,.agg #[vI a,vI 1,vI 0,vI 1,vS [],vN,vI 0,vI 99,.bool false,.bool false,.bool false,vN,vN]),(54,.agg #[vI b,vI 1,vI 0,vI 1,vS [],vN,vI 0,vI 99,.bool false,.bool false,.bool false,vN,vN]),(58,.agg #[vI a,vI 2,vI 0,vI 3,vS p,vN,vI 0,vI 0,.bool false,.bool false,.bool false,vN,vN])] ?_
 refine Op.ls 59 3 71 #[vI a,vI 1,vI 0,vI 1,vS [],vN,vI 0,vI 99,.bool false,.bool false,.bool false,vN,vN,vI b,vI 1,vI 0,vI 1,vS [],vN,vI 0,vI 99,.bool false,.bool false,.bool false,vN,vN,vI a,vI 2,vI 0,vI 3,vS p,vN,vI 0,vI 0,.bool false,.bool false,.bool false,vN,vN] f6 fun bm kk f7=>?_
 refine Op.pg 15 [(10,vL (some ⟨bm,0,none⟩) 3 3)] ?_
 have f9:aJ 71 iD f5 (vL (some ⟨bm,0,none⟩) 3 3) [(⟨a,1,0,⟨1,[],[],0,99,false,false,false,[]⟩,[]⟩:aH),(⟨b,1,0,⟨1,[],[],0,99,false,false,false,[]⟩,[]⟩:aH),(⟨a,2,0,⟨3,p,[],0,0,false,false,false,[]⟩,[]⟩:aH)] [(bm,Obj.cells #[vI a,vI 1,vI 0,vI 1,vS [],vN,vI 0,vI 99,.bool false,.bool false,.bool false,vN,vN,vI b,vI 1,vI 0,vI 1,vS [],vN,vI 0,vI 99,.bool false,.bool false,.bool false,vN,vN,vI a,vI 2,vI 0,vI 3,vS p,vN,vI 0,vI 0,.bool false,.bool false,.bool false,vN,vN] 71 (0,0))]:=aJ.lit (by kernel_rfl) (by unfold maxLen;decide) (by kernel_rfl) ⟨_,_,rfl,⟨_,_,_,(av.nil _ _ _),(av.nil _ _ _),(av.nil _ _ _),rfl⟩,⟨_,_,rfl,⟨_,_,_,(av.nil _ _ _),(av.nil _ _ _),(av.nil _ _ _),rfl⟩,⟨_,_,rfl,⟨_,_,_,(av.nil _ _ _),(av.nil _ _ _),(av.nil _ _ _),rfl⟩,Reads.nil⟩⟩⟩
 obtain⟨dq,gc,a6,ge⟩:=aJ.freeze f9 (f7.aa 0 rfl)
 replace D:=D.mono a6
 replace hP:=hP.mono a6
 replace I:=I.mono a6
 replace bk:=bk.mono a6
 refine At.rp 3 1 [(60,.agg #[vI 0,vI 0,vI 0,vS [],vN,vI 0,vI 0,vI 0,vI 0,vN,vN])] ?_
 refine Op.al 11 43 #[vI 0,vI 0,vI 0,vS [],vN,vI 0,vI 0,vI 0,vI 0,vN,vN] gc fun G kl gg=>?_
 refine Op.sg 43 11 60 0 0 #[vI 0,vI 0,vI 0,vS [],vN,vI 0,vI 0,vI 0,vI 0,vN,vN] gg (fun _=>trivial) fun km gk=>?_
 refine Op.gt 16 ?_
 refine At.go 17 1 [] ?_
 obtain⟨kv,gn,gs⟩:=St.bJ (Q:=tJ dq G (⟨0,0,0,⟨[],([]:an),0,0,0,0⟩,([]:List an),([]:List ak)⟩:Result)) 1 gk ⟨_,_,_,rfl,(av.nil _ _ _),(av.nil _ _ _),(av.nil _ _ _)⟩
 refine At.go 18 1 [(13,vI 0)] ?_
 have g1:∀(m:Nat) (ab:GH) (am:aM dq ab) (y:Sp) (r:Result) (l:List aH) (i:Int) (bo:ay) (bt:ay) (a7:Option Addr) (ar:Nat) (b3:ax) (hm:l.length-i.toNat<m) (h0:0≤i) (h1:i≤l.length) (O:l=qn a b p) (hX:vb a b p i y r) (b4:cu ab J y bo) (aw:tJ ab G r bt) (a0:av ab 71 iD (vL a7 l.length ar) l) (a8:St h g (aV []) ab [bt,bo] b3),At (bX prog B 8 f8 R) [] 18 [(0,vS p),(1,vL a4 data.length a5),(2,vI a),(3,vI b),(9,vP J),(10,vL a7 l.length ar),(11,vP G),(13,vI i)] b3:=by
  intro m;induction m with
  |zero=>intros;omega
  |succ m g2=>
   intro ab am y r l i bo bt a7 ar b3 hm h0 h1 O hX b4 aw a0 a8
   replace D:=D.mono am
   replace hP:=hP.mono am
   replace I:=I.mono am
   refine At.go 19 4 [(64,.bool (decide (i<(l.length:Int))))] ?_
   refine At.fd (i<(l.length:Int)) 64 20 26 (fun kw=>?_) fun kx=>?_
   ·refine At.rp 11 3 [(68,vP J),(69,vL a7 l.length ar),(70,vI i)] ?_
    obtain⟨u,a9⟩:=cG l i
    obtain⟨g3,du,kA,k0,g4,b5,b6⟩:=av.bF a0 _ a9
    cases g4
    refine Op.iq 52 71 13 144 l.length ar 69 70 71 g3 du i ?_
    obtain⟨k1,k2,k3,dv,dC,dE,b6⟩:=b6
    obtain⟨g5,g6,rfl⟩:=dv.aj
    obtain⟨g7,g8,rfl⟩:=dC.aj
    obtain⟨g9,he,rfl⟩:=dE.aj
    refine Op.la 71 71 72 (du+i.toNat*13) 13 [vI u.Client,vI u.bn,vI u.aX,vI u.Op.Kind,vS u.Op.af,vL g5 u.Op.Data.length g6,vI u.Op.ai,vI u.Op.aF,.bool u.Op.aY,.bool u.Op.aI,.bool u.Op.ak,vL g7 u.Op.az.length g8,vL g9 u.cS.length he] (a8.sub _ _ b5) ?_ (hv:=b6)
    have b8:=(a8.aa 0 rfl).aa 1 rfl
    refine Op.cl (some 73) 1 b8 (wY _ _ _ b8.sub D J y _ b4 u _ dv _ dC _ dE hP (by(try dsimp only)<;>exact L8 hX) (by(try dsimp only)<;>omega) (by((try dsimp only)<;>(exact Ur (by omega) (O▸a9)))) (St.pt 1 b8)) ?_
    rintro _ hf _ k4 bc hh ⟨k5,k6,v105,k7,rfl,dT,d0,d1,hj,rfl⟩
    obtain⟨d2,d3,rfl⟩:=dT.aj
    obtain⟨d4,d5,rfl⟩:=d0.aj
    obtain⟨d6,d7,rfl⟩:=d1.aj
    replace b5:=bc _ _ b5
    replace hP:=hP.mono bc
    replace a0:=a0.mono bc
    replace aw:=aw.mono bc
    refine Op.px 3 [(74,.agg #[vI ((aK y u).Code),vI ((aK y u).aZ),vI ((aK y u).At),vS ((aK y u).ag.af),vL d2 (((aK y u).ag.Data).length) d3,vI ((aK y u).ag.ai),vI ((aK y u).ag.aD),vI ((aK y u).ag.Next),vI ((aK y u).ag.aL),vL d4 (((aK y u).bP).length) d5,vL d6 (((aK y u).aT).length) d7]),(75,.bool (eW y u))] ?_
    obtain⟨k8,lc,lh,hl,hn,ho,hq⟩:=aw
    obtain⟨li,lj,rfl⟩:=hn.aj
    obtain⟨lk,ll,rfl⟩:=ho.aj
    obtain⟨a124,n125,rfl⟩:=hq.aj
    have hr:=(hh.aa 0 rfl).aa 1 rfl
    have hs:=St.un [] hl hr
    refine Op.sg 43 11 74 0 0 #[vI ((aK y u).Code),vI ((aK y u).aZ),vI ((aK y u).At),vS ((aK y u).ag.af),vL d2 (((aK y u).ag.Data).length) d3,vI ((aK y u).ag.ai),vI ((aK y u).ag.aD),vI ((aK y u).ag.Next),vI ((aK y u).ag.aL),vL d4 (((aK y u).bP).length) d5,vL d6 (((aK y u).aT).length) d7] hs (fun _=>trivial) fun lm d8=>?_
    refine Op.pg 21 [(12,.bool (eW y u))] ?_
    refine At.go 22 2 [(77,.bool (!(eW y u)))] ?_
    refine At.di (!(eW y u)) 77 23 25 (fun d9=>?_) fun ed=>?_
    ·replace d9:=(dG d9)
     exact At.gr 24 1 8 (.bool false) (hR d8.drop.drop ⟨(aS (by exact Bool.noConfusion ((L9 hX h0 (O▸a9) (show ¬a=b by assumption) ⟨by omega,by omega⟩ ⟨by omega,by omega⟩ (by omega)).1.symm.trans ‹_›))),rfl⟩)
    replace ed:=(dH ed)
    refine At.rp 3 1 [(65,vI i)] ?_
    refine Op.cE 66 (i+1) (by omega) (by(have h9:=congrArg List.length O;have h8:(qn a b p).length=3:=rfl;omega)) ?_
    refine Op.pg 18 [(13,vI (i+1))] ?_
    obtain⟨ln,hu,hw⟩:=St.bJ (Q:=tJ hf G (⟨(aK y u).Code,(aK y u).aZ,(aK y u).At,⟨(aK y u).ag.af,(aK y u).ag.Data,(aK y u).ag.ai,(aK y u).ag.aD,(aK y u).ag.Next,(aK y u).ag.aL⟩,(aK y u).bP,(aK y u).aT⟩:Result)) 1 d8 ⟨_,_,_,rfl,dT,d0,d1⟩
    exact At.ke (g2 _ (aM.trans am (by repeat (first|assumption|apply aM.trans))) (dF y u) (⟨(aK y u).Code,(aK y u).aZ,(aK y u).At,⟨(aK y u).ag.af,(aK y u).ag.Data,(aK y u).ag.ai,(aK y u).ag.aD,(aK y u).ag.Next,(aK y u).ag.aL⟩,(aK y u).bP,(aK y u).aT⟩:Result) l (i+1) _ _ _ _ _ (by omega) (by omega) (by omega) (by exact O) (by exact(L9 hX h0 (O▸a9) (show ¬a=b by assumption) ⟨by omega,by omega⟩ ⟨by omega,by omega⟩ (by omega)).2) hj hu a0 hw)
   refine At.rp 3 1 [(78,vP G)] ?_
   obtain⟨lr,lv,lw,hx,hy,hz,hA⟩:=aw
   obtain⟨lx,n143,rfl⟩:=hy.aj
   obtain⟨ly,lA,rfl⟩:=hz.aj
   obtain⟨a146,lL,rfl⟩:=hA.aj
   have ad:=St.un [] hx a8
   refine Op.l1 29 78 79 0 (vI r.Code) (ad.ah 0 rfl) ?_
   refine Op.pg 27 [(80,.bool (r.Code != 0))] ?_
   refine At.fn (r.Code=0) 80 28 30 (fun lO=>?_) fun l0=>?_
   ·refine At.rp 9 1 [(81,vP G)] ?_
    refine Op.l1 29 81 82 0 (vI r.Code) (ad.ah 0 rfl) ?_
    refine Op.px 2 [(84,.bool (r.Code==90))] ?_
    refine Op.wd (r.Code=90) 84 (fun l2=>?_) fun l3=>?_
    ·exact Op.pr 29 8 (.bool true) (hR ad.drop.drop ⟨(aS (by rfl)),rfl⟩)
    refine Op.px 1 [(85,vP G)] ?_
    refine Op.l1 29 85 86 0 (vI r.Code) (ad.ah 0 rfl) ?_
    exact Op.pr 29 8 (.bool (r.Code==100)) (hR ad.drop.drop ⟨(aS (by exact eu ((Us hX (by have h9:=congrArg List.length O;have h8:(qn a b p).length=3:=rfl;omega) ‹_›).resolve_left ‹_›))),rfl⟩)
   refine At.rp 11 5 [(90,vP J),(94,.agg #[vI b,vI 2,vI 0,vI 6,vS p,vN,vI 0,vI 0,.bool false,.bool false,.bool true,vN,vN])] ?_
   have ca:=(ad.aa 0 rfl).aa 1 rfl
   refine Op.cl (some 95) 1 ca (wY _ _ _ ca.sub D J y _ b4 (⟨b,2,0,⟨6,p,[],0,0,false,false,true,[]⟩,[]⟩:aH) _ (av.nil _ _ _) _ (av.nil _ _ _) _ (av.nil _ _ _) hP (by(try dsimp only)<;>exact L8 hX) (by(try dsimp only)<;>omega) (by((try dsimp only)<;>(exact FN (c:=b) (st:=2) (o:=gm p true) rfl (by first|exact fH _|(show p.length≤200;omega)) (by first|exact fH _|(show data.length≤200;omega))))) (St.pt 1 ca)) ?_
   rintro _ ee _ l4 cb hB ⟨l8,ma,v164,md,rfl,ef,eh,ej,hC,rfl⟩
   obtain⟨em,en,rfl⟩:=ef.aj
   obtain⟨ep,er,rfl⟩:=eh.aj
   obtain⟨ce,cf,rfl⟩:=ej.aj
   replace D:=D.mono cb
   replace hP:=hP.mono cb
   replace I:=I.mono cb
   refine Op.px 3 [(96,.agg #[vI ((aK y (⟨b,2,0,⟨6,p,[],0,0,false,false,true,[]⟩,[]⟩:aH)).Code),vI ((aK y (⟨b,2,0,⟨6,p,[],0,0,false,false,true,[]⟩,[]⟩:aH)).aZ),vI ((aK y (⟨b,2,0,⟨6,p,[],0,0,false,false,true,[]⟩,[]⟩:aH)).At),vS ((aK y (⟨b,2,0,⟨6,p,[],0,0,false,false,true,[]⟩,[]⟩:aH)).ag.af),vL em (((aK y (⟨b,2,0,⟨6,p,[],0,0,false,false,true,[]⟩,[]⟩:aH)).ag.Data).length) en,vI ((aK y (⟨b,2,0,⟨6,p,[],0,0,false,false,true,[]⟩,[]⟩:aH)).ag.ai),vI ((aK y (⟨b,2,0,⟨6,p,[],0,0,false,false,true,[]⟩,[]⟩:aH)).ag.aD),vI ((aK y (⟨b,2,0,⟨6,p,[],0,0,false,false,true,[]⟩,[]⟩:aH)).ag.Next),vI ((aK y (⟨b,2,0,⟨6,p,[],0,0,false,false,true,[]⟩,[]⟩:aH)).ag.aL),vL ep (((aK y (⟨b,2,0,⟨6,p,[],0,0,false,false,true,[]⟩,[]⟩:aH)).bP).length) er,vL ce (((aK y (⟨b,2,0,⟨6,p,[],0,0,false,false,true,[]⟩,[]⟩:aH)).aT).length) cf]),(97,.bool (eW y (⟨b,2,0,⟨6,p,[],0,0,false,false,true,[]⟩,[]⟩:aH)))] ?_
   refine Op.sg 43 11 96 0 1 #[vI ((aK y (⟨b,2,0,⟨6,p,[],0,0,false,false,true,[]⟩,[]⟩:aH)).Code),vI ((aK y (⟨b,2,0,⟨6,p,[],0,0,false,false,true,[]⟩,[]⟩:aH)).aZ),vI ((aK y (⟨b,2,0,⟨6,p,[],0,0,false,false,true,[]⟩,[]⟩:aH)).At),vS ((aK y (⟨b,2,0,⟨6,p,[],0,0,false,false,true,[]⟩,[]⟩:aH)).ag.af),vL em (((aK y (⟨b,2,0,⟨6,p,[],0,0,false,false,true,[]⟩,[]⟩:aH)).ag.Data).length) en,vI ((aK y (⟨b,2,0,⟨6,p,[],0,0,false,false,true,[]⟩,[]⟩:aH)).ag.ai),vI ((aK y (⟨b,2,0,⟨6,p,[],0,0,false,false,true,[]⟩,[]⟩:aH)).ag.aD),vI ((aK y (⟨b,2,0,⟨6,p,[],0,0,false,false,true,[]⟩,[]⟩:aH)).ag.Next),vI ((aK y (⟨b,2,0,⟨6,p,[],0,0,false,false,true,[]⟩,[]⟩:aH)).ag.aL),vL ep (((aK y (⟨b,2,0,⟨6,p,[],0,0,false,false,true,[]⟩,[]⟩:aH)).bP).length) er,vL ce (((aK y (⟨b,2,0,⟨6,p,[],0,0,false,false,true,[]⟩,[]⟩:aH)).aT).length) cf] hB (fun _=>trivial) fun mf V=>?_
   refine Op.pg 31 [(12,.bool (eW y (⟨b,2,0,⟨6,p,[],0,0,false,false,true,[]⟩,[]⟩:aH)))] ?_
   refine At.rp 20 3 [(100,.bool (!(eW y (⟨b,2,0,⟨6,p,[],0,0,false,false,true,[]⟩,[]⟩:aH))))] ?_
   refine Op.wb (!(eW y (⟨b,2,0,⟨6,p,[],0,0,false,false,true,[]⟩,[]⟩:aH))) 100 (fun et=>?_) fun ex=>?_
   ·replace et:=(dG et)
    refine Op.pg 32 [(117,.bool true)] ?_
    refine At.bW 117 33 ?_
    exact At.gr 34 1 8 (.bool false) (hR V.drop.drop ⟨(aS (by exact Bool.noConfusion ((AP (data:=data) hX (by have h9:=congrArg List.length O;have h8:(qn a b p).length=3:=rfl;omega) ‹_› (show ¬a=b by assumption) ⟨by omega,by omega⟩ (by omega)).1.symm.trans ‹_›))),rfl⟩)
   replace ex:=(dH ex)
   refine Op.px 1 [(101,vP G)] ?_
   refine Op.l1 29 101 102 0 (vI ((aK y (⟨b,2,0,⟨6,p,[],0,0,false,false,true,[]⟩,[]⟩:aH)).Code)) (V.ah 1 rfl) ?_
   refine Op.px 3 [(105,.bool (((aK y (⟨b,2,0,⟨6,p,[],0,0,false,false,true,[]⟩,[]⟩:aH)).Code) != 0))] ?_
   refine Op.wb (((aK y (⟨b,2,0,⟨6,p,[],0,0,false,false,true,[]⟩,[]⟩:aH)).Code) != 0) 105 (fun eA=>?_) fun eB=>?_
   ·replace eA:=gY eA
    refine Op.pg 32 [(117,.bool true)] ?_
    refine At.bW 117 33 ?_
    exact At.gr 34 1 8 (.bool false) (hR V.drop.drop ⟨(aS (by exact absurd (AP (data:=data) hX (by have h9:=congrArg List.length O;have h8:(qn a b p).length=3:=rfl;omega) ‹_› (show ¬a=b by assumption) ⟨by omega,by omega⟩ (by omega)).2.1 ‹_›)),rfl⟩)
   replace eB:=jk eB
   refine Op.px 2 [(107,vQ G 3)] ?_
   refine Op.l1 9 107 108 3 (vS ((aK y (⟨b,2,0,⟨6,p,[],0,0,false,false,true,[]⟩,[]⟩:aH)).ag.af)) (V.ah 1 rfl) ?_
   refine Op.px 1 [(109,vS p)] ?_
   refine Op.vl 110 (.bool (!((bp ((aK y (⟨b,2,0,⟨6,p,[],0,0,false,false,true,[]⟩,[]⟩:aH)).ag.af)).toList==(bp p).toList))) (.bool (!(((aK y (⟨b,2,0,⟨6,p,[],0,0,false,false,true,[]⟩,[]⟩:aH)).ag.af)==p))) (by rw[toList_mkS,toList_mkS]) ?_
   refine Op.px 2 [(112,.bool (!(((aK y (⟨b,2,0,⟨6,p,[],0,0,false,false,true,[]⟩,[]⟩:aH)).ag.af)==p)))] ?_
   refine Op.wb (!(((aK y (⟨b,2,0,⟨6,p,[],0,0,false,false,true,[]⟩,[]⟩:aH)).ag.af)==p)) 112 (fun eE=>?_) fun eI=>?_
   ·replace eE:=n4 (dG eE)
    refine Op.pg 32 [(117,.bool true)] ?_
    refine At.bW 117 33 ?_
    exact At.gr 34 1 8 (.bool false) (hR V.drop.drop ⟨(aS (by exact absurd (AP (data:=data) hX (by have h9:=congrArg List.length O;have h8:(qn a b p).length=3:=rfl;omega) ‹_› (show ¬a=b by assumption) ⟨by omega,by omega⟩ (by omega)).2.2.1 ‹_›)),rfl⟩)
   replace eI:=eq_of_beq (dH eI)
   refine Op.px 1 [(113,vQ G 10)] ?_
   refine Op.l1 41 113 114 10 (vL ce (((aK y (⟨b,2,0,⟨6,p,[],0,0,false,false,true,[]⟩,[]⟩:aH)).aT).length) cf) (V.ah 1 rfl) ?_
   refine Op.pg 32 [(117,.bool ((((aK y (⟨b,2,0,⟨6,p,[],0,0,false,false,true,[]⟩,[]⟩:aH)).aT).length:Int) != 0))] ?_
   refine At.fn ((((aK y (⟨b,2,0,⟨6,p,[],0,0,false,false,true,[]⟩,[]⟩:aH)).aT).length:Int)=0) 117 33 35 (fun mi=>?_) fun ml=>?_
   ·exact At.gr 34 1 8 (.bool false) (hR V.drop.drop ⟨(aS (by exact absurd (congrArg (fun l=>(List.length l:Int)) (AP (data:=data) hX (by have h9:=congrArg List.length O;have h8:(qn a b p).length=3:=rfl;omega) ‹_› (show ¬a=b by assumption) ⟨by omega,by omega⟩ (by omega)).2.2.2.1) ‹_›)),rfl⟩)
   have hD:=(V.aa 0 rfl).aa 1 rfl
   obtain⟨mp,hE,hF⟩:=St.bJ (Q:=tJ ee G (⟨(aK y (⟨b,2,0,⟨6,p,[],0,0,false,false,true,[]⟩,[]⟩:aH)).Code,(aK y (⟨b,2,0,⟨6,p,[],0,0,false,false,true,[]⟩,[]⟩:aH)).aZ,(aK y (⟨b,2,0,⟨6,p,[],0,0,false,false,true,[]⟩,[]⟩:aH)).At,⟨(aK y (⟨b,2,0,⟨6,p,[],0,0,false,false,true,[]⟩,[]⟩:aH)).ag.af,(aK y (⟨b,2,0,⟨6,p,[],0,0,false,false,true,[]⟩,[]⟩:aH)).ag.Data,(aK y (⟨b,2,0,⟨6,p,[],0,0,false,false,true,[]⟩,[]⟩:aH)).ag.ai,(aK y (⟨b,2,0,⟨6,p,[],0,0,false,false,true,[]⟩,[]⟩:aH)).ag.aD,(aK y (⟨b,2,0,⟨6,p,[],0,0,false,false,true,[]⟩,[]⟩:aH)).ag.Next,(aK y (⟨b,2,0,⟨6,p,[],0,0,false,false,true,[]⟩,[]⟩:aH)).ag.aL⟩,(aK y (⟨b,2,0,⟨6,p,[],0,0,false,false,true,[]⟩,[]⟩:aH)).bP,(aK y (⟨b,2,0,⟨6,p,[],0,0,false,false,true,[]⟩,[]⟩:aH)).aT⟩:Result)) 1 hD ⟨_,_,_,rfl,ef,eh,ej⟩
   refine At.go 36 1 [(14,vI 0)] ?_
   have hG:∀(m:Nat) (a1:GH) (a3:aM ee a1) (y2:Sp) (r2:Result) (k:Int) (ch:ay) (ci:ay) (ck:ax) (hm:2-k.toNat<m) (h4:0≤k) (h5:k≤2) (hM:yz a b p data k y2) (co:cu a1 J y2 ch) (Y:tJ a1 G r2 ci) (c3:St h g (aV []) a1 [ci,ch] ck),At (bX prog B 8 f8 R) [] 36 [(0,vS p),(1,vL a4 data.length a5),(2,vI a),(3,vI b),(9,vP J),(11,vP G),(14,vI k)] ck:=by
    intro m;induction m with
    |zero=>intros;omega
    |succ m hH=>
     intro a1 a3 y2 r2 k ch ci ck hm h4 h5 hM co Y c3
     replace D:=D.mono a3
     replace hP:=hP.mono a3
     replace I:=I.mono a3
     refine At.go 37 2 [(119,.bool (decide (k<2)))] ?_
     refine At.fd (k<2) 119 38 44 (fun mx=>?_) fun my=>?_
     ·refine At.rp 15 3 [(123,vP J),(124,vI a),(125,vI k)] ?_
      refine Op.vq 126 ((3:Int)+k) ?_
      refine Op.px 5 [(131,.agg #[vI a,vI ((3:Int)+k),vI 0,vI 5,vS p,vL a4 data.length a5,vI k,vI 0,.bool false,.bool false,.bool false,vN,vN])] ?_
      have c4:=(c3.aa 0 rfl).aa 1 rfl
      refine Op.cl (some 132) 1 c4 (wY _ _ _ c4.sub D J y2 _ co (⟨a,(3:Int)+k,0,⟨5,p,data,k,0,false,false,false,[]⟩,[]⟩:aH) _ I _ (av.nil _ _ _) _ (av.nil _ _ _) hP (by(try dsimp only)<;>exact Ma hM h5) (by(try dsimp only)<;>omega) (by((try dsimp only)<;>(exact FN (c:=a) (st:=3+k) (o:=iy p data k) rfl (by first|exact fH _|(show p.length≤200;omega)) (by first|exact fH _|(show data.length≤200;omega))))) (St.pt 1 c4)) ?_
      rintro _ hI _ m0 eJ hJ ⟨m1,m2,m3,m4,rfl,eK,eL,eQ,hK,rfl⟩
      obtain⟨e1,e2,rfl⟩:=eK.aj
      obtain⟨e3,e4,rfl⟩:=eL.aj
      obtain⟨c5,c6,rfl⟩:=eQ.aj
      replace hP:=hP.mono eJ
      replace Y:=Y.mono eJ
      refine Op.px 3 [(133,.agg #[vI ((aK y2 (⟨a,(3:Int)+k,0,⟨5,p,data,k,0,false,false,false,[]⟩,[]⟩:aH)).Code),vI ((aK y2 (⟨a,(3:Int)+k,0,⟨5,p,data,k,0,false,false,false,[]⟩,[]⟩:aH)).aZ),vI ((aK y2 (⟨a,(3:Int)+k,0,⟨5,p,data,k,0,false,false,false,[]⟩,[]⟩:aH)).At),vS ((aK y2 (⟨a,(3:Int)+k,0,⟨5,p,data,k,0,false,false,false,[]⟩,[]⟩:aH)).ag.af),vL e1 (((aK y2 (⟨a,(3:Int)+k,0,⟨5,p,data,k,0,false,false,false,[]⟩,[]⟩:aH)).ag.Data).length) e2,vI ((aK y2 (⟨a,(3:Int)+k,0,⟨5,p,data,k,0,false,false,false,[]⟩,[]⟩:aH)).ag.ai),vI ((aK y2 (⟨a,(3:Int)+k,0,⟨5,p,data,k,0,false,false,false,[]⟩,[]⟩:aH)).ag.aD),vI ((aK y2 (⟨a,(3:Int)+k,0,⟨5,p,data,k,0,false,false,false,[]⟩,[]⟩:aH)).ag.Next),vI ((aK y2 (⟨a,(3:Int)+k,0,⟨5,p,data,k,0,false,false,false,[]⟩,[]⟩:aH)).ag.aL),vL e3 (((aK y2 (⟨a,(3:Int)+k,0,⟨5,p,data,k,0,false,false,false,[]⟩,[]⟩:aH)).bP).length) e4,vL c5 (((aK y2 (⟨a,(3:Int)+k,0,⟨5,p,data,k,0,false,false,false,[]⟩,[]⟩:aH)).aT).length) c6]),(134,.bool (eW y2 (⟨a,(3:Int)+k,0,⟨5,p,data,k,0,false,false,false,[]⟩,[]⟩:aH)))] ?_
      obtain⟨m5,m6,m7,hL,hN,hO,hQ⟩:=Y
      obtain⟨m8,m9,rfl⟩:=hN.aj
      obtain⟨na,n224,rfl⟩:=hO.aj
      obtain⟨nb,nd,rfl⟩:=hQ.aj
      have hS:=(hJ.aa 0 rfl).aa 1 rfl
      have hT:=St.un [] hL hS
      refine Op.sg 43 11 133 0 0 #[vI ((aK y2 (⟨a,(3:Int)+k,0,⟨5,p,data,k,0,false,false,false,[]⟩,[]⟩:aH)).Code),vI ((aK y2 (⟨a,(3:Int)+k,0,⟨5,p,data,k,0,false,false,false,[]⟩,[]⟩:aH)).aZ),vI ((aK y2 (⟨a,(3:Int)+k,0,⟨5,p,data,k,0,false,false,false,[]⟩,[]⟩:aH)).At),vS ((aK y2 (⟨a,(3:Int)+k,0,⟨5,p,data,k,0,false,false,false,[]⟩,[]⟩:aH)).ag.af),vL e1 (((aK y2 (⟨a,(3:Int)+k,0,⟨5,p,data,k,0,false,false,false,[]⟩,[]⟩:aH)).ag.Data).length) e2,vI ((aK y2 (⟨a,(3:Int)+k,0,⟨5,p,data,k,0,false,false,false,[]⟩,[]⟩:aH)).ag.ai),vI ((aK y2 (⟨a,(3:Int)+k,0,⟨5,p,data,k,0,false,false,false,[]⟩,[]⟩:aH)).ag.aD),vI ((aK y2 (⟨a,(3:Int)+k,0,⟨5,p,data,k,0,false,false,false,[]⟩,[]⟩:aH)).ag.Next),vI ((aK y2 (⟨a,(3:Int)+k,0,⟨5,p,data,k,0,false,false,false,[]⟩,[]⟩:aH)).ag.aL),vL e3 (((aK y2 (⟨a,(3:Int)+k,0,⟨5,p,data,k,0,false,false,false,[]⟩,[]⟩:aH)).bP).length) e4,vL c5 (((aK y2 (⟨a,(3:Int)+k,0,⟨5,p,data,k,0,false,false,false,[]⟩,[]⟩:aH)).aT).length) c6] hT (fun _=>trivial) fun nf X=>?_
      refine Op.pg 39 [(12,.bool (eW y2 (⟨a,(3:Int)+k,0,⟨5,p,data,k,0,false,false,false,[]⟩,[]⟩:aH)))] ?_
      refine At.rp 21 3 [(137,.bool (!(eW y2 (⟨a,(3:Int)+k,0,⟨5,p,data,k,0,false,false,false,[]⟩,[]⟩:aH))))] ?_
      refine Op.wb (!(eW y2 (⟨a,(3:Int)+k,0,⟨5,p,data,k,0,false,false,false,[]⟩,[]⟩:aH))) 137 (fun e5=>?_) fun e6=>?_
      ·replace e5:=(dG e5)
       refine Op.pg 40 [(155,.bool true)] ?_
       refine At.bW 155 41 ?_
       exact At.gr 42 1 8 (.bool false) (hR X.drop.drop ⟨(aS (by exact Bool.noConfusion ((AQ hM h4 ‹_› (show ¬a=b by assumption) ⟨by omega,by omega⟩ (by omega) (by omega)).1.symm.trans ‹_›))),rfl⟩)
      replace e6:=(dH e6)
      refine Op.px 1 [(138,vP G)] ?_
      refine Op.l1 29 138 139 0 (vI ((aK y2 (⟨a,(3:Int)+k,0,⟨5,p,data,k,0,false,false,false,[]⟩,[]⟩:aH)).Code)) (X.ah 0 rfl) ?_
      refine Op.px 3 [(142,.bool (((aK y2 (⟨a,(3:Int)+k,0,⟨5,p,data,k,0,false,false,false,[]⟩,[]⟩:aH)).Code) != 0))] ?_
      refine Op.wb (((aK y2 (⟨a,(3:Int)+k,0,⟨5,p,data,k,0,false,false,false,[]⟩,[]⟩:aH)).Code) != 0) 142 (fun e7=>?_) fun e8=>?_
      ·replace e7:=gY e7
       refine Op.pg 40 [(155,.bool true)] ?_
       refine At.bW 155 41 ?_
       exact At.gr 42 1 8 (.bool false) (hR X.drop.drop ⟨(aS (by exact absurd (AQ hM h4 ‹_› (show ¬a=b by assumption) ⟨by omega,by omega⟩ (by omega) (by omega)).2.1 ‹_›)),rfl⟩)
      replace e8:=jk e8
      refine Op.px 2 [(144,vQ G 5)] ?_
      refine Op.l1 3 144 145 5 (vI ((aK y2 (⟨a,(3:Int)+k,0,⟨5,p,data,k,0,false,false,false,[]⟩,[]⟩:aH)).ag.ai)) (X.ah 0 rfl) ?_
      refine Op.px 1 [(146,vI k)] ?_
      refine Op.vq 147 (k+1) ?_
      refine Op.px 3 [(150,.bool (((aK y2 (⟨a,(3:Int)+k,0,⟨5,p,data,k,0,false,false,false,[]⟩,[]⟩:aH)).ag.ai) != (k+1)))] ?_
      refine Op.wb (((aK y2 (⟨a,(3:Int)+k,0,⟨5,p,data,k,0,false,false,false,[]⟩,[]⟩:aH)).ag.ai) != (k+1)) 150 (fun e9=>?_) fun fa=>?_
      ·replace e9:=gY e9
       refine Op.pg 40 [(155,.bool true)] ?_
       refine At.bW 155 41 ?_
       exact At.gr 42 1 8 (.bool false) (hR X.drop.drop ⟨(aS (by exact absurd (AQ hM h4 ‹_› (show ¬a=b by assumption) ⟨by omega,by omega⟩ (by omega) (by omega)).2.2.1 ‹_›)),rfl⟩)
      replace fa:=jk fa
      refine Op.px 1 [(151,vQ G 10)] ?_
      refine Op.l1 41 151 152 10 (vL c5 (((aK y2 (⟨a,(3:Int)+k,0,⟨5,p,data,k,0,false,false,false,[]⟩,[]⟩:aH)).aT).length) c6) (X.ah 0 rfl) ?_
      refine Op.pg 40 [(155,.bool ((((aK y2 (⟨a,(3:Int)+k,0,⟨5,p,data,k,0,false,false,false,[]⟩,[]⟩:aH)).aT).length:Int) != 0))] ?_
      refine At.fn ((((aK y2 (⟨a,(3:Int)+k,0,⟨5,p,data,k,0,false,false,false,[]⟩,[]⟩:aH)).aT).length:Int)=0) 155 41 43 (fun nm=>?_) fun nn=>?_
      ·exact At.gr 42 1 8 (.bool false) (hR X.drop.drop ⟨(aS (by exact absurd (congrArg (fun l=>(List.length l:Int)) (AQ hM h4 ‹_› (show ¬a=b by assumption) ⟨by omega,by omega⟩ (by omega) (by omega)).2.2.2.1) ‹_›)),rfl⟩)
      refine At.rp 3 1 [(120,vI k)] ?_
      refine Op.vq 121 (k+1) ?_
      refine Op.pg 36 [(14,vI (k+1))] ?_
      obtain⟨no,hV,hW⟩:=St.bJ (Q:=tJ hI G (⟨(aK y2 (⟨a,(3:Int)+k,0,⟨5,p,data,k,0,false,false,false,[]⟩,[]⟩:aH)).Code,(aK y2 (⟨a,(3:Int)+k,0,⟨5,p,data,k,0,false,false,false,[]⟩,[]⟩:aH)).aZ,(aK y2 (⟨a,(3:Int)+k,0,⟨5,p,data,k,0,false,false,false,[]⟩,[]⟩:aH)).At,⟨(aK y2 (⟨a,(3:Int)+k,0,⟨5,p,data,k,0,false,false,false,[]⟩,[]⟩:aH)).ag.af,(aK y2 (⟨a,(3:Int)+k,0,⟨5,p,data,k,0,false,false,false,[]⟩,[]⟩:aH)).ag.Data,(aK y2 (⟨a,(3:Int)+k,0,⟨5,p,data,k,0,false,false,false,[]⟩,[]⟩:aH)).ag.ai,(aK y2 (⟨a,(3:Int)+k,0,⟨5,p,data,k,0,false,false,false,[]⟩,[]⟩:aH)).ag.aD,(aK y2 (⟨a,(3:Int)+k,0,⟨5,p,data,k,0,false,false,false,[]⟩,[]⟩:aH)).ag.Next,(aK y2 (⟨a,(3:Int)+k,0,⟨5,p,data,k,0,false,false,false,[]⟩,[]⟩:aH)).ag.aL⟩,(aK y2 (⟨a,(3:Int)+k,0,⟨5,p,data,k,0,false,false,false,[]⟩,[]⟩:aH)).bP,(aK y2 (⟨a,(3:Int)+k,0,⟨5,p,data,k,0,false,false,false,[]⟩,[]⟩:aH)).aT⟩:Result)) 1 X ⟨_,_,_,rfl,eK,eL,eQ⟩
      exact At.ke (hH _ (aM.trans a3 (by repeat (first|assumption|apply aM.trans))) (dF y2 (⟨a,(3:Int)+k,0,⟨5,p,data,k,0,false,false,false,[]⟩,[]⟩:aH)) (⟨(aK y2 (⟨a,(3:Int)+k,0,⟨5,p,data,k,0,false,false,false,[]⟩,[]⟩:aH)).Code,(aK y2 (⟨a,(3:Int)+k,0,⟨5,p,data,k,0,false,false,false,[]⟩,[]⟩:aH)).aZ,(aK y2 (⟨a,(3:Int)+k,0,⟨5,p,data,k,0,false,false,false,[]⟩,[]⟩:aH)).At,⟨(aK y2 (⟨a,(3:Int)+k,0,⟨5,p,data,k,0,false,false,false,[]⟩,[]⟩:aH)).ag.af,(aK y2 (⟨a,(3:Int)+k,0,⟨5,p,data,k,0,false,false,false,[]⟩,[]⟩:aH)).ag.Data,(aK y2 (⟨a,(3:Int)+k,0,⟨5,p,data,k,0,false,false,false,[]⟩,[]⟩:aH)).ag.ai,(aK y2 (⟨a,(3:Int)+k,0,⟨5,p,data,k,0,false,false,false,[]⟩,[]⟩:aH)).ag.aD,(aK y2 (⟨a,(3:Int)+k,0,⟨5,p,data,k,0,false,false,false,[]⟩,[]⟩:aH)).ag.Next,(aK y2 (⟨a,(3:Int)+k,0,⟨5,p,data,k,0,false,false,false,[]⟩,[]⟩:aH)).ag.aL⟩,(aK y2 (⟨a,(3:Int)+k,0,⟨5,p,data,k,0,false,false,false,[]⟩,[]⟩:aH)).bP,(aK y2 (⟨a,(3:Int)+k,0,⟨5,p,data,k,0,false,false,false,[]⟩,[]⟩:aH)).aT⟩:Result) (k+1) _ _ _ (by omega) (by omega) (by omega) (by exact(AQ hM h4 ‹_› (show ¬a=b by assumption) ⟨by omega,by omega⟩ (by omega) (by omega)).2.2.2.2) hK hV hW)
     refine At.rp 10 4 [(157,vP J),(160,.agg #[vI b,vI 3,vI 0,vI 9,vS [],vN,vI 0,vI 0,.bool false,.bool false,.bool false,vN,vN])] ?_
     have c8:=(c3.aa 0 rfl).aa 1 rfl
     refine Op.cl (some 161) 1 c8 (wY _ _ _ c8.sub D J y2 _ co (⟨b,3,0,⟨9,[],[],0,0,false,false,false,[]⟩,[]⟩:aH) _ (av.nil _ _ _) _ (av.nil _ _ _) _ (av.nil _ _ _) hP (by(try dsimp only)<;>exact Ma hM h5) (by(try dsimp only)<;>omega) (by(try dsimp only)<;>exact⟨by decide,by decide⟩) (St.pt 1 c8)) ?_
     rintro _ hY _ np bd hZ ⟨nu,nx,nz,n0,rfl,h2,h3,fg,h6,rfl⟩
     obtain⟨fi,fj,rfl⟩:=h2.aj
     obtain⟨fl,fp,rfl⟩:=h3.aj
     obtain⟨c9,da,rfl⟩:=fg.aj
     replace D:=D.mono bd
     replace hP:=hP.mono bd
     replace I:=I.mono bd
     replace Y:=Y.mono bd
     refine Op.px 3 [(162,.agg #[vI ((aK y2 (⟨b,3,0,⟨9,[],[],0,0,false,false,false,[]⟩,[]⟩:aH)).Code),vI ((aK y2 (⟨b,3,0,⟨9,[],[],0,0,false,false,false,[]⟩,[]⟩:aH)).aZ),vI ((aK y2 (⟨b,3,0,⟨9,[],[],0,0,false,false,false,[]⟩,[]⟩:aH)).At),vS ((aK y2 (⟨b,3,0,⟨9,[],[],0,0,false,false,false,[]⟩,[]⟩:aH)).ag.af),vL fi (((aK y2 (⟨b,3,0,⟨9,[],[],0,0,false,false,false,[]⟩,[]⟩:aH)).ag.Data).length) fj,vI ((aK y2 (⟨b,3,0,⟨9,[],[],0,0,false,false,false,[]⟩,[]⟩:aH)).ag.ai),vI ((aK y2 (⟨b,3,0,⟨9,[],[],0,0,false,false,false,[]⟩,[]⟩:aH)).ag.aD),vI ((aK y2 (⟨b,3,0,⟨9,[],[],0,0,false,false,false,[]⟩,[]⟩:aH)).ag.Next),vI ((aK y2 (⟨b,3,0,⟨9,[],[],0,0,false,false,false,[]⟩,[]⟩:aH)).ag.aL),vL fl (((aK y2 (⟨b,3,0,⟨9,[],[],0,0,false,false,false,[]⟩,[]⟩:aH)).bP).length) fp,vL c9 (((aK y2 (⟨b,3,0,⟨9,[],[],0,0,false,false,false,[]⟩,[]⟩:aH)).aT).length) da]),(163,.bool (eW y2 (⟨b,3,0,⟨9,[],[],0,0,false,false,false,[]⟩,[]⟩:aH)))] ?_
     obtain⟨n3,oi,oj,h7,ib,ih,ii⟩:=Y
     obtain⟨ol,or,rfl⟩:=ib.aj
     obtain⟨o3,n271,rfl⟩:=ih.aj
     obtain⟨o4,pa,rfl⟩:=ii.aj
     have ik:=(hZ.aa 0 rfl).aa 1 rfl
     have il:=St.un [] h7 ik
     refine Op.sg 43 11 162 0 0 #[vI ((aK y2 (⟨b,3,0,⟨9,[],[],0,0,false,false,false,[]⟩,[]⟩:aH)).Code),vI ((aK y2 (⟨b,3,0,⟨9,[],[],0,0,false,false,false,[]⟩,[]⟩:aH)).aZ),vI ((aK y2 (⟨b,3,0,⟨9,[],[],0,0,false,false,false,[]⟩,[]⟩:aH)).At),vS ((aK y2 (⟨b,3,0,⟨9,[],[],0,0,false,false,false,[]⟩,[]⟩:aH)).ag.af),vL fi (((aK y2 (⟨b,3,0,⟨9,[],[],0,0,false,false,false,[]⟩,[]⟩:aH)).ag.Data).length) fj,vI ((aK y2 (⟨b,3,0,⟨9,[],[],0,0,false,false,false,[]⟩,[]⟩:aH)).ag.ai),vI ((aK y2 (⟨b,3,0,⟨9,[],[],0,0,false,false,false,[]⟩,[]⟩:aH)).ag.aD),vI ((aK y2 (⟨b,3,0,⟨9,[],[],0,0,false,false,false,[]⟩,[]⟩:aH)).ag.Next),vI ((aK y2 (⟨b,3,0,⟨9,[],[],0,0,false,false,false,[]⟩,[]⟩:aH)).ag.aL),vL fl (((aK y2 (⟨b,3,0,⟨9,[],[],0,0,false,false,false,[]⟩,[]⟩:aH)).bP).length) fp,vL c9 (((aK y2 (⟨b,3,0,⟨9,[],[],0,0,false,false,false,[]⟩,[]⟩:aH)).aT).length) da] il (fun _=>trivial) fun pb db=>?_
     refine Op.pg 45 [(12,.bool (eW y2 (⟨b,3,0,⟨9,[],[],0,0,false,false,false,[]⟩,[]⟩:aH)))] ?_
     refine At.rp 12 3 [(166,.bool (!(eW y2 (⟨b,3,0,⟨9,[],[],0,0,false,false,false,[]⟩,[]⟩:aH))))] ?_
     refine Op.wb (!(eW y2 (⟨b,3,0,⟨9,[],[],0,0,false,false,false,[]⟩,[]⟩:aH))) 166 (fun fr=>?_) fun ft=>?_
     ·replace fr:=(dG fr)
      refine Op.pg 46 [(175,.bool true)] ?_
      refine At.bW 175 47 ?_
      exact At.gr 48 1 8 (.bool false) (hR db.drop.drop ⟨(aS (by exact Bool.noConfusion ((tI hM h5 ‹_› (show ¬a=b by assumption) ⟨by omega,by omega⟩).1.symm.trans ‹_›))),rfl⟩)
     replace ft:=(dH ft)
     refine Op.px 1 [(167,vQ G 10)] ?_
     refine Op.l1 41 167 168 10 (vL c9 (((aK y2 (⟨b,3,0,⟨9,[],[],0,0,false,false,false,[]⟩,[]⟩:aH)).aT).length) da) (db.ah 0 rfl) ?_
     refine Op.px 3 [(171,.agg #[vI b,vI 1,vS p])] ?_
     refine Op.ls 172 1 45 #[vI b,vI 1,vS p] db fun fv pc be=>?_
     have io:aJ 45 dh hY (vL (some ⟨fv,0,none⟩) 1 1) [(⟨b,1,p⟩:ak)] [(fv,Obj.cells #[vI b,vI 1,vS p] 45 (0,0))]:=aJ.lit (by kernel_rfl) (by unfold maxLen;decide) (by kernel_rfl) ⟨_,_,rfl,rfl,Reads.nil⟩
     have fw:=be.gz
     have ip:=io.fY be
     refine Op.le (some 173) 0 be (xe _ _ _ be.iO (D.mono fw) _ _ (fg.mono fw) _ _ ip (by((try dsimp only)<;>(exact bQ (Co (congrArg List.length (tI hM h5 ‹_› (show ¬a=b by assumption) ⟨by omega,by omega⟩).2.1)) (by show 1≤1000000000;decide))))) (fun _ _ _ hp=>by obtain⟨_,dc,_⟩:=hp;exact dc) ?_ (hM:=(fun _ _ h=>absurd h (dB _)))
     rintro _ _ pd fx ⟨rfl,dc,rfl⟩;clear dc
     refine Op.pg 46 [(175,.bool (!(decide (((aK y2 (⟨b,3,0,⟨9,[],[],0,0,false,false,false,[]⟩,[]⟩:aH)).aT)=([(⟨b,1,p⟩:ak)])))))] ?_
     refine At.di (!(decide (((aK y2 (⟨b,3,0,⟨9,[],[],0,0,false,false,false,[]⟩,[]⟩:aH)).aT)=([(⟨b,1,p⟩:ak)])))) 175 47 49 (fun f0=>?_) fun f1=>?_
     ·replace f0:=jq (dG f0)
      exact At.gr 48 1 8 (.bool false) (hR fx.drop.drop.drop ⟨(aS (by exact absurd (tI hM h5 ‹_› (show ¬a=b by assumption) ⟨by omega,by omega⟩).2.1 ‹_›)),rfl⟩)
     replace f1:=gp (dH f1)
     refine At.rp 11 5 [(177,vP J),(181,.agg #[vI b,vI 4,vI 0,vI 6,vS p,vN,vI 0,vI 0,.bool false,.bool false,.bool false,vN,vN])] ?_
     have dd:=((fx.aa 1 rfl).aa 1 rfl).aa 2 rfl
     refine Op.cl (some 182) 1 dd (wY _ _ _ dd.sub D J (dF y2 (⟨b,3,0,⟨9,[],[],0,0,false,false,false,[]⟩,[]⟩:aH)) _ h6 (⟨b,4,0,⟨6,p,[],0,0,false,false,false,[]⟩,[]⟩:aH) _ (av.nil _ _ _) _ (av.nil _ _ _) _ (av.nil _ _ _) hP (by(try dsimp only)<;>exact Ut (tI hM h5 ‹_› (show ¬a=b by assumption) ⟨by omega,by omega⟩).2.2) (by(try dsimp only)<;>omega) (by((try dsimp only)<;>(exact FN (c:=b) (st:=2) (o:=gm p true) rfl (by first|exact fH _|(show p.length≤200;omega)) (by first|exact fH _|(show data.length≤200;omega))))) (St.pt 1 dd)) ?_
     rintro _ pf _ ph df is ⟨pj,pl,pm,po,rfl,f2,iv,i0,pu,rfl⟩
     obtain⟨dg,n298,rfl⟩:=f2.aj
     obtain⟨f3,n302,rfl⟩:=iv.aj
     obtain⟨dj,n306,rfl⟩:=i0.aj
     replace D:=D.mono df
     replace hP:=hP.mono df
     replace I:=I.mono df
     refine Op.px 3 [(183,.agg #[vI ((aK (dF y2 (⟨b,3,0,⟨9,[],[],0,0,false,false,false,[]⟩,[]⟩:aH)) (⟨b,4,0,⟨6,p,[],0,0,false,false,false,[]⟩,[]⟩:aH)).Code),vI ((aK (dF y2 (⟨b,3,0,⟨9,[],[],0,0,false,false,false,[]⟩,[]⟩:aH)) (⟨b,4,0,⟨6,p,[],0,0,false,false,false,[]⟩,[]⟩:aH)).aZ),vI ((aK (dF y2 (⟨b,3,0,⟨9,[],[],0,0,false,false,false,[]⟩,[]⟩:aH)) (⟨b,4,0,⟨6,p,[],0,0,false,false,false,[]⟩,[]⟩:aH)).At),vS ((aK (dF y2 (⟨b,3,0,⟨9,[],[],0,0,false,false,false,[]⟩,[]⟩:aH)) (⟨b,4,0,⟨6,p,[],0,0,false,false,false,[]⟩,[]⟩:aH)).ag.af),vL dg (((aK (dF y2 (⟨b,3,0,⟨9,[],[],0,0,false,false,false,[]⟩,[]⟩:aH)) (⟨b,4,0,⟨6,p,[],0,0,false,false,false,[]⟩,[]⟩:aH)).ag.Data).length) n298,vI ((aK (dF y2 (⟨b,3,0,⟨9,[],[],0,0,false,false,false,[]⟩,[]⟩:aH)) (⟨b,4,0,⟨6,p,[],0,0,false,false,false,[]⟩,[]⟩:aH)).ag.ai),vI ((aK (dF y2 (⟨b,3,0,⟨9,[],[],0,0,false,false,false,[]⟩,[]⟩:aH)) (⟨b,4,0,⟨6,p,[],0,0,false,false,false,[]⟩,[]⟩:aH)).ag.aD),vI ((aK (dF y2 (⟨b,3,0,⟨9,[],[],0,0,false,false,false,[]⟩,[]⟩:aH)) (⟨b,4,0,⟨6,p,[],0,0,false,false,false,[]⟩,[]⟩:aH)).ag.Next),vI ((aK (dF y2 (⟨b,3,0,⟨9,[],[],0,0,false,false,false,[]⟩,[]⟩:aH)) (⟨b,4,0,⟨6,p,[],0,0,false,false,false,[]⟩,[]⟩:aH)).ag.aL),vL f3 (((aK (dF y2 (⟨b,3,0,⟨9,[],[],0,0,false,false,false,[]⟩,[]⟩:aH)) (⟨b,4,0,⟨6,p,[],0,0,false,false,false,[]⟩,[]⟩:aH)).bP).length) n302,vL dj (((aK (dF y2 (⟨b,3,0,⟨9,[],[],0,0,false,false,false,[]⟩,[]⟩:aH)) (⟨b,4,0,⟨6,p,[],0,0,false,false,false,[]⟩,[]⟩:aH)).aT).length) n306]),(184,.bool (eW (dF y2 (⟨b,3,0,⟨9,[],[],0,0,false,false,false,[]⟩,[]⟩:aH)) (⟨b,4,0,⟨6,p,[],0,0,false,false,false,[]⟩,[]⟩:aH)))] ?_
     refine Op.sg 43 11 183 0 2 #[vI ((aK (dF y2 (⟨b,3,0,⟨9,[],[],0,0,false,false,false,[]⟩,[]⟩:aH)) (⟨b,4,0,⟨6,p,[],0,0,false,false,false,[]⟩,[]⟩:aH)).Code),vI ((aK (dF y2 (⟨b,3,0,⟨9,[],[],0,0,false,false,false,[]⟩,[]⟩:aH)) (⟨b,4,0,⟨6,p,[],0,0,false,false,false,[]⟩,[]⟩:aH)).aZ),vI ((aK (dF y2 (⟨b,3,0,⟨9,[],[],0,0,false,false,false,[]⟩,[]⟩:aH)) (⟨b,4,0,⟨6,p,[],0,0,false,false,false,[]⟩,[]⟩:aH)).At),vS ((aK (dF y2 (⟨b,3,0,⟨9,[],[],0,0,false,false,false,[]⟩,[]⟩:aH)) (⟨b,4,0,⟨6,p,[],0,0,false,false,false,[]⟩,[]⟩:aH)).ag.af),vL dg (((aK (dF y2 (⟨b,3,0,⟨9,[],[],0,0,false,false,false,[]⟩,[]⟩:aH)) (⟨b,4,0,⟨6,p,[],0,0,false,false,false,[]⟩,[]⟩:aH)).ag.Data).length) n298,vI ((aK (dF y2 (⟨b,3,0,⟨9,[],[],0,0,false,false,false,[]⟩,[]⟩:aH)) (⟨b,4,0,⟨6,p,[],0,0,false,false,false,[]⟩,[]⟩:aH)).ag.ai),vI ((aK (dF y2 (⟨b,3,0,⟨9,[],[],0,0,false,false,false,[]⟩,[]⟩:aH)) (⟨b,4,0,⟨6,p,[],0,0,false,false,false,[]⟩,[]⟩:aH)).ag.aD),vI ((aK (dF y2 (⟨b,3,0,⟨9,[],[],0,0,false,false,false,[]⟩,[]⟩:aH)) (⟨b,4,0,⟨6,p,[],0,0,false,false,false,[]⟩,[]⟩:aH)).ag.Next),vI ((aK (dF y2 (⟨b,3,0,⟨9,[],[],0,0,false,false,false,[]⟩,[]⟩:aH)) (⟨b,4,0,⟨6,p,[],0,0,false,false,false,[]⟩,[]⟩:aH)).ag.aL),vL f3 (((aK (dF y2 (⟨b,3,0,⟨9,[],[],0,0,false,false,false,[]⟩,[]⟩:aH)) (⟨b,4,0,⟨6,p,[],0,0,false,false,false,[]⟩,[]⟩:aH)).bP).length) n302,vL dj (((aK (dF y2 (⟨b,3,0,⟨9,[],[],0,0,false,false,false,[]⟩,[]⟩:aH)) (⟨b,4,0,⟨6,p,[],0,0,false,false,false,[]⟩,[]⟩:aH)).aT).length) n306] is (fun _=>trivial) fun pv ae=>?_
     refine Op.pg 50 [(12,.bool (eW (dF y2 (⟨b,3,0,⟨9,[],[],0,0,false,false,false,[]⟩,[]⟩:aH)) (⟨b,4,0,⟨6,p,[],0,0,false,false,false,[]⟩,[]⟩:aH)))] ?_
     refine At.rp 21 2 [(186,.bool (eW (dF y2 (⟨b,3,0,⟨9,[],[],0,0,false,false,false,[]⟩,[]⟩:aH)) (⟨b,4,0,⟨6,p,[],0,0,false,false,false,[]⟩,[]⟩:aH)))] ?_
     refine Op.wb (eW (dF y2 (⟨b,3,0,⟨9,[],[],0,0,false,false,false,[]⟩,[]⟩:aH)) (⟨b,4,0,⟨6,p,[],0,0,false,false,false,[]⟩,[]⟩:aH)) 186 (fun pw=>?_) fun py=>?_
     ·refine Op.px 1 [(187,vQ G 10)] ?_
      refine Op.l1 41 187 188 10 (vL dj (((aK (dF y2 (⟨b,3,0,⟨9,[],[],0,0,false,false,false,[]⟩,[]⟩:aH)) (⟨b,4,0,⟨6,p,[],0,0,false,false,false,[]⟩,[]⟩:aH)).aT).length) n306) (ae.ah 2 rfl) ?_
      refine Op.px 4 [(192,.bool ((((aK (dF y2 (⟨b,3,0,⟨9,[],[],0,0,false,false,false,[]⟩,[]⟩:aH)) (⟨b,4,0,⟨6,p,[],0,0,false,false,false,[]⟩,[]⟩:aH)).aT).length:Int)==0))] ?_
      refine Op.wd ((((aK (dF y2 (⟨b,3,0,⟨9,[],[],0,0,false,false,false,[]⟩,[]⟩:aH)) (⟨b,4,0,⟨6,p,[],0,0,false,false,false,[]⟩,[]⟩:aH)).aT).length:Int)=0) 192 (fun pA=>?_) fun pB=>?_
      ·refine Op.px 2 [(194,vQ G 4)] ?_
       refine Op.l1 22 194 195 4 (vL dg (((aK (dF y2 (⟨b,3,0,⟨9,[],[],0,0,false,false,false,[]⟩,[]⟩:aH)) (⟨b,4,0,⟨6,p,[],0,0,false,false,false,[]⟩,[]⟩:aH)).ag.Data).length) n298) (ae.ah 2 rfl) ?_
       refine Op.px 1 [(196,vL a4 data.length a5)] ?_
       refine Op.c1 197 (tM _ _ _ ae.sub D _ _ f2 _ _ I (by((try dsimp only)<;>(exact bQ (Co (congrArg List.length (AR (tI hM h5 ‹_› (show ¬a=b by assumption) ⟨by omega,by omega⟩).2.2 (show ¬a=b by assumption) ⟨by omega,by omega⟩ (by omega)).2.2.1)) (by omega))))) ae fun pC dk=>?_
       refine Op.px 2 [(199,.bool (decide (((aK (dF y2 (⟨b,3,0,⟨9,[],[],0,0,false,false,false,[]⟩,[]⟩:aH)) (⟨b,4,0,⟨6,p,[],0,0,false,false,false,[]⟩,[]⟩:aH)).ag.Data)=data)))] ?_
       refine Op.wd (((aK (dF y2 (⟨b,3,0,⟨9,[],[],0,0,false,false,false,[]⟩,[]⟩:aH)) (⟨b,4,0,⟨6,p,[],0,0,false,false,false,[]⟩,[]⟩:aH)).ag.Data)=data) 199 (fun pD=>?_) fun p0=>?_
       ·refine Op.px 2 [(201,vQ G 5)] ?_
        refine Op.l1 3 201 202 5 (vI ((aK (dF y2 (⟨b,3,0,⟨9,[],[],0,0,false,false,false,[]⟩,[]⟩:aH)) (⟨b,4,0,⟨6,p,[],0,0,false,false,false,[]⟩,[]⟩:aH)).ag.ai)) (dk.ah 2 rfl) ?_
        exact Op.pr 51 8 (.bool (((aK (dF y2 (⟨b,3,0,⟨9,[],[],0,0,false,false,false,[]⟩,[]⟩:aH)) (⟨b,4,0,⟨6,p,[],0,0,false,false,false,[]⟩,[]⟩:aH)).ag.ai)==2)) (hR dk.drop.drop.drop ⟨(aS (by exact eu (AR (tI hM h5 ‹_› (show ¬a=b by assumption) ⟨by omega,by omega⟩).2.2 (show ¬a=b by assumption) ⟨by omega,by omega⟩ (by omega)).2.2.2)),rfl⟩)
       exact Op.pr 51 8 (.bool false) (hR dk.drop.drop.drop ⟨(aS (by exact absurd (AR (tI hM h5 ‹_› (show ¬a=b by assumption) ⟨by omega,by omega⟩).2.2 (show ¬a=b by assumption) ⟨by omega,by omega⟩ (by omega)).2.2.1 ‹_›)),rfl⟩)
      exact Op.pr 51 8 (.bool false) (hR ae.drop.drop.drop ⟨(aS (by exact absurd (congrArg (fun l=>(List.length l:Int)) (AR (tI hM h5 ‹_› (show ¬a=b by assumption) ⟨by omega,by omega⟩).2.2 (show ¬a=b by assumption) ⟨by omega,by omega⟩ (by omega)).2.1) ‹_›)),rfl⟩)
     exact Op.pr 51 8 (.bool false) (hR ae.drop.drop.drop ⟨(aS (by exact Bool.noConfusion ((AR (tI hM h5 ‹_› (show ¬a=b by assumption) ⟨by omega,by omega⟩).2.2 (show ¬a=b by assumption) ⟨by omega,by omega⟩ (by omega)).1.symm.trans ‹_›))),rfl⟩)
   exact At.ke (hG _ _ (aM.refl _) (dF y (⟨b,2,0,⟨6,p,[],0,0,false,false,true,[]⟩,[]⟩:aH)) (⟨(aK y (⟨b,2,0,⟨6,p,[],0,0,false,false,true,[]⟩,[]⟩:aH)).Code,(aK y (⟨b,2,0,⟨6,p,[],0,0,false,false,true,[]⟩,[]⟩:aH)).aZ,(aK y (⟨b,2,0,⟨6,p,[],0,0,false,false,true,[]⟩,[]⟩:aH)).At,⟨(aK y (⟨b,2,0,⟨6,p,[],0,0,false,false,true,[]⟩,[]⟩:aH)).ag.af,(aK y (⟨b,2,0,⟨6,p,[],0,0,false,false,true,[]⟩,[]⟩:aH)).ag.Data,(aK y (⟨b,2,0,⟨6,p,[],0,0,false,false,true,[]⟩,[]⟩:aH)).ag.ai,(aK y (⟨b,2,0,⟨6,p,[],0,0,false,false,true,[]⟩,[]⟩:aH)).ag.aD,(aK y (⟨b,2,0,⟨6,p,[],0,0,false,false,true,[]⟩,[]⟩:aH)).ag.Next,(aK y (⟨b,2,0,⟨6,p,[],0,0,false,false,true,[]⟩,[]⟩:aH)).ag.aL⟩,(aK y (⟨b,2,0,⟨6,p,[],0,0,false,false,true,[]⟩,[]⟩:aH)).bP,(aK y (⟨b,2,0,⟨6,p,[],0,0,false,false,true,[]⟩,[]⟩:aH)).aT⟩:Result) 0 _ _ _ (bM _) (by omega) (by omega) (by exact(AP (data:=data) hX (by have h9:=congrArg List.length O;have h8:(qn a b p).length=3:=rfl;omega) ‹_› (show ¬a=b by assumption) ⟨by omega,by omega⟩ (by omega)).2.2.2.2) hC hE hF)
 exact At.ke (g1 _ _ (aM.refl _) mL (⟨0,0,0,⟨[],([]:an),0,0,0,0⟩,([]:List an),([]:List ak)⟩:Result) ([(⟨a,1,0,⟨1,[],[],0,99,false,false,false,[]⟩,[]⟩:aH),(⟨b,1,0,⟨1,[],[],0,99,false,false,false,[]⟩,[]⟩:aH),(⟨a,2,0,⟨3,p,[],0,0,false,false,false,[]⟩,[]⟩:aH)]) 0 _ _ _ _ _ (bM _) (by omega) (by(show(0:Int)≤3;decide)) (by rfl) (by exact Uq) bk gn ge gs)
end Go.Proofs.YtceekbnihfckeaaGreatDoor.Sw
