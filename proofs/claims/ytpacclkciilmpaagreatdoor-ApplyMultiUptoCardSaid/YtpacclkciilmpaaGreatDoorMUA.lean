/- Lemmas for laws of this seat. -/
import Derived.Test.YtpacclkciilmpaaGreatDoorGBP
set_option maxHeartbeats 4000000
namespace Go.Proofs.YtpacclkciilmpaaGreatDoor.Sw
open Go.Proofs.Tryz
set_option linter.unusedVariables false
set_option linter.unusedSimpArgs false
set_option linter.deprecated false
open Go
set_option linter.defProp false
def AR:=@List.drop_left
def vU:=@List.getD_cons_zero
def vV:=@List.getD_cons_succ
section
variable {h0:av} {g0:GH} {S0:Nat→Prop} {g:GH} {L L':List au} {c:au} {h h':av}
end
section
variable {C:fC} {ds:List Deferred} {i j:Nat} {r:av} {M:Nat→Prop} {Ls:List (Nat×Bool)} {e:Env} {h:av}
variable {h0:av} {g0:GH} {S0:Nat→Prop} {g:GH} {L L':List au}
end
theorem LG {cur:Array Value} {p n:Nat} {old:List Value} (h:cut cur p n=old) (u:Nat) {vs new:List Value} (hn:old.take u++vs++old.drop (u+vs.length)=new) (hl:u+vs.length≤n) (hc:p+n≤cur.size):splice cur (p+u) vs=splice cur p new:=by
  subst hn
  have hcl:cur.toList.length=cur.size:=qn
  have ho:old.length=n:=by rw[←h];unfold cut;rw[dD,gx];omega
  have e1:(old.take u++vs++old.drop (u+vs.length)).length=n:=by
    rw[b_,b_,dD,gx];omega
  unfold splice
  rw[e1]
  congr 1
  have e2:cur.toList.take (p+u)=cur.toList.take p++old.take u:=by
    rw[wz,←h];unfold cut;rw[qo,jB (by omega)]
  have e3:cur.toList.drop (p+u+vs.length)=old.drop (u+vs.length)++cur.toList.drop (p+n):=by
    have:cur.toList.drop p=old++cur.toList.drop (p+n):=by
      rw[←h];unfold cut
      rw[←o8]
      exact(mJ n (cur.toList.drop p)).symm
    rw[yF,←o8,this,uq]
    rw[show u+vs.length-old.length=0 by omega,ux]
  rw[e2,e3]
  simp[cI]
theorem St.Ur {h0:av} {g0:GH} {S0:Nat→Prop} {g:GH} {L:List au} {h:av} (s:St h0 g0 S0 g L h) {A:List au} (hA:∀c∈A,c∈L) {b:Nat} {o:Obj} (hg:g b=some o):¬aM A b:=by
  intro hi
  obtain⟨p,hp,rfl⟩:=oD hA hi
  rw[s.sep p hp] at hg
  cases hg
section
variable {C:fC} {ds:List Deferred} {i j:Nat} {r:av} {M:Nat→Prop} {Ls:List (Nat×Bool)} {e:Env} {h:av}
end
set_option linter.unusedSectionVars false
section
variable {e:gL} {w:ah} {ws:List ah} {c:Int}
end
section
variable {Q:Int→Int→Prop} {ns:List af} {l:af} {p data:aQ} {cj born bA:Int} {num:Bool}
end
section
variable {k k':Int} {s:Sp} {kind c t:Int} {cZ:List aQ} {p:aQ} {o:aC} {w:ah}
end
section
variable {k:Int} {s:Sp} {c t:Int} {b:aQ} {e:bu}
end
theorem LH {k:Int} {s:Sp} {t:Int} (H:bC k s) (h:min t 1099511627775≤s.ax):fR s t=s:=by
  have e:max s.ax (min t 1099511627775)=s.ax:=by omega
  unfold fR
  rw[e]
  have h1:jl (jH s.ax) s.az=[]:=by
    unfold jl
    rw[List.map_eq_nil_iff,G3]
    intro p hp
    have:=H.mA p hp
    unfold jH
    simp only[cB]
    omega
  have h2:kM (jH s.ax) s.az=s.az:=by
    unfold kM
    rw[oH]
    intro p hp
    have:=H.mA p hp
    unfold jH
    simp only[gZ,jP]
    omega
  show lF {s with az:=kM (jH s.ax) s.az,ax:=s.ax} (jl (jH s.ax) s.az)=s
  rw[h1,h2]
  rfl
theorem EI {n:Nat} (h:n<256):(UInt8.ofNat n).toNat=n:=by
  rw[Bn]
  exact sU h
theorem LI {c:UInt8} {r:aj} {i:Nat} {a:Int} (h1:¬((i=8∧64≤c.toNat)∨(c.toNat=0∧0<i))) (h2:c.toNat<128):jG (c::r) i a=(a+((c.toNat*2 ^ (7*i):Nat):Int),(i:Int)+1,0):=by
  rw[jG,aB h1,aL h2,sU h2]
theorem Us:∀(n v i:Nat) (a:Int) (rest:aj),v<2 ^ (62-7*i)→i≤8→8≤n+i→(0<i→1≤v)→
    jG (kL n v++rest) i a=(a+((v*2 ^ (7*i):Nat):Int),(i:Int)+((kL n v).length:Int),0):=by
  intro n
  induction n with
  |zero=>
   intro v i a rest hv hi hn h1
   obtain rfl:i=8:=by omega
   have hv:v<64:=hv
   have h1:=h1 (by decide)
   have e:(UInt8.ofNat v).toNat=v:=EI (by omega)
   rw[kL,dM,LI (by rw[e];omega) (by rw[e];omega),e]
   rfl
  |succ n ih=>
   intro v i a rest hv hi hn h1
   have D:i=8→v<64:=fun h=>by subst h;exact hv
   rw[kL]
   split
   · rename_i hlt
     have e:(UInt8.ofNat v).toNat=v:=EI (by omega)
     rw[dM,LI (by rw[e];omega) (by rw[e];omega),e]
     rfl
   · rename_i G
     have I:i<8:=by omega
     have e:(UInt8.ofNat (v % 128+128)).toNat=v % 128+128:=EI (by omega)
     have hq:v / 128<2 ^ (62-7*(i+1)):=by
       have e2:2 ^ (62-7*i)=2 ^ (62-7*(i+1))*128:=by
         rw[show 62-7*i=(62-7*(i+1))+7 by omega,Nat.pow_add]
       rw[e2] at hv
       exact Nat.div_lt_of_lt_mul (by rw[Cr];exact hv)
     rw[dM,jG,aB (by rw[e];omega),aB (by rw[e];omega),e,ih (v / 128) (i+1) _ rest hq (by omega) (by omega) (fun _=>by omega)]
     have e3:(v % 128+128) % 128=v % 128:=by omega
     have u:v % 128*2 ^ (7*i)+v / 128*2 ^ (7*(i+1))=v*2 ^ (7*i):=by
       rw[Cw,←Nat.mul_assoc,←nH]
       congr 1
       omega
     rw[e3,bL]
     refine wM ?_ (wM ?_ rfl)
     · show a+((v % 128*2 ^ (7*i):Nat):Int)+((v / 128*2 ^ (7*(i+1)):Nat):Int)=a+((v*2 ^ (7*i):Nat):Int)
       rw[←u]
       omega
     · show((i+1:Nat):Int)+((kL n (v / 128)).length:Int)=(i:Int)+(((kL n (v / 128)).length+1:Nat):Int)
       omega
theorem LJ {v:Int} (h:iV v=true) (rest:aj):bq (gI v++rest)=(v,((gI v).length:Int),0):=by
  obtain⟨h1,h2⟩:=CA h
  unfold bq gI
  rw[Us 9 v.toNat 0 0 rest (by show v.toNat<4611686018427387904;omega) (by decide) (by decide) (fun h=>absurd h (by decide))]
  refine wM ?_ (wM ?_ rfl)
  · show(0:Int)+((v.toNat*1:Nat):Int)=v
    omega
  · show((0:Nat):Int)+((kL 9 v.toNat).length:Int)=((kL 9 v.toNat).length:Int)
    omega
theorem LK (v:Int):0<(gI v).length:=(u0 v).1
theorem LL:∀(fs out:List aj),(∀f∈fs,f.length≤65536)→out.length+fs.length≤1024→lS (fI fs).length (fI fs) out=(out++fs,0)
  |[],out,_,_=>by simp[fI,lS]
  |f::fs,out,h,hl=>by
   have hf:=h f (by simp)
   have hok:iV (f.length:Int)=true:=lT (by omega) (by omega)
   have e:fI (f::fs)=gI f.length++(f++fI fs):=by
     unfold fI
     rw[uX]
     unfold rL
     rw[cI]
   have hr:=LJ hok (f++fI fs)
   rw[←e] at hr
   have hp:=LK (f.length:Int)
   have hlen:(fI (f::fs)).length=(gI f.length).length+(f.length+(fI fs).length):=by rw[e,b_,b_]
   rw[bL] at hl
   rw[u5 (by omega),hr]
   simp only[]
   rw[aB (by omega),aB (by simp),aB (by omega),aB (by omega)]
   have hd:(fI (f::fs)).drop (((gI f.length).length:Int)+(f.length:Int)).toNat=fI fs:=by
     rw[show(((gI f.length).length:Int)+(f.length:Int)).toNat=(gI f.length).length+f.length by omega,e,←o8,AR,AR]
   have ht:((fI (f::fs)).drop ((gI f.length).length:Int).toNat).take (f.length:Int).toNat=f:=by
     rw[Ao,Ao,e,AR,List.take_left]
   rw[hd,ht,LL fs (out++[f]) (fun g hg=>h g (by simp[hg])) (by rw[b_,qz];omega),cI]
   rfl
theorem vW {fs:List aj} (h:lC fs=true):aT (fI fs)=(fs,0):=by
  obtain⟨h1,h2⟩:=DE h
  exact LL fs [] h2 (by simpa using h1)
theorem LM:∀(l out:List Int),l.all iV=true→mL (gC l).length (gC l) out=(out++l,0)
  |[],out,_=>by simp[gC,mL]
  |v::l,out,h=>by
   rw[j5,bO] at h
   have e:gC (v::l)=gI v++gC l:=by unfold gC;rw[uX]
   have hr:=LJ h.1 (gC l)
   rw[←e] at hr
   have hp:=LK v
   have hlen:(gC (v::l)).length=(gI v).length+(gC l).length:=by rw[e,b_]
   rw[Cz (by omega),hr]
   simp only[]
   rw[aB (by simp)]
   have hd:(gC (v::l)).drop ((gI v).length:Int).toNat=gC l:=by rw[Ao,e,AR]
   rw[hd,LM l (out++[v]) h.2,cI]
   rfl
theorem yg {l:List Int} (h:l.all iV=true):bH (gC l)=(l,0):=LM l [] h
theorem EJ {l:List Int} (h:l.all iV=true) (n:Int) (hn:(l.length:Int)=n):gK (gC l) n=true:=by
  unfold gK
  rw[yg h]
  simp[hn]
theorem LN {w:ah} (h:kP w=true):ez (mq w).1=(w,true):=by
  unfold kP at h
  simp only[bO,kz] at h
  obtain⟨h1,h2⟩:=h
  have hn:[w.Client,w.Kind].all iV=true:=by
    simp only[j5,nq,bO,lB] at h1 ⊢
    exact⟨(sE h1.1).1,(sE h1.2).1⟩
  unfold mq at *
  obtain⟨h3,h4⟩:=x4 h2
  rw[h4]
  have hs:=vW h3
  rw[x5 hn] at hs ⊢
  have hI:=yg hn
  unfold ez tL
  rw[hs]
  simp only[vU,vV]
  rw[hI,EJ hn 2 rfl]
  simp
theorem Ut {x:Result} (h:(dy x).2=0):kn x=true∧(dx x.bF).2=0∧x.aW.all kP=true∧(dx (lV x)).2=0∧(dy x).1=(dx (lV x)).1:=by
  unfold dy at *
  repeat' split at h
  all_goals first|(simp at h;done)|skip
  rename_i h1 h2 h3 h4
  refine⟨by simpa using h1,by simpa using h2,by simpa using h3,by simpa using h4,?_⟩
  rw[aB h1,aB h2,aB h3,aB h4]
theorem Uu {x:Result} (h:(dy x).2=0):aY (dy x).1=(x,0):=by
  obtain⟨h1,h2,h3,h4,h5⟩:=Ut h
  obtain⟨h6,h7⟩:=x4 h4
  obtain⟨h8,h9⟩:=x4 h2
  have hn:=Ks h1
  have hb:(dy x).1=fI (lV x):=by rw[h5,h7]
  have hs:=vW h6
  rw[←hb] at hs
  have hI:=yg hn
  have hrow:lV x=(gC (tK x))::x.af.aa::x.af.Data::fI x.bF::x.aW.map (fun w=>(mq w).1):=by
    unfold lV xF
    rw[x5 hn,h9]
    rfl
  rw[hrow] at hs
  have hNs:=vW h8
  have hE:(x.aW.map fun w=>(mq w).1).map (fun e=>(ez e).1)=x.aW:=by
    rw[jr]
    conv=>rhs;rw[←sL x.aW]
    apply uy
    intro w hw
    rw[gR] at h3
    simp only[Function.comp,LN (h3 w hw),id]
  have hA:(x.aW.map fun w=>(mq w).1).all (fun e=>(ez e).2)=true:=by
    rw[List.all_map,gR]
    intro w hw
    rw[gR] at h3
    simp only[Function.comp,LN (h3 w hw)]
  have hd:kQ (dy x).1=true:=by
    unfold kQ
    rw[hs]
    simp only[vU,vV,EJ hn 7 rfl,hNs]
    simp
    omega
  have u:r6 (dy x).1=x.aW:=by
    unfold r6
    rw[hs]
    exact hE
  have hN:tM (dy x).1 (r6 (dy x).1)=x:=by
    rw[u]
    unfold tM vg
    rw[hs]
    simp only[vU,vV,hI,hNs]
    unfold tK
    simp only[vU,vV]
    simp
  unfold aY
  rw[hd,aL rfl,hN]
  have:(List.drop (4:Int).toNat (aT (dy x).1).1).all (fun e=>(ez e).2)=true:=by
    rw[hs]
    exact hA
  rw[this,aL rfl,aL ⟨h,rfl⟩]
section
variable {k k':Int} {s:Sp} {c t:Int} {o:aC} {x:Result} {p data:aQ} {ns:List af} {cj born bA:Int} {num:Bool}
end
section
variable {k:Int} {s:Sp} {c:Int} {b:aQ} {e:bu}
end
section
variable {s:Sp} {c t:Int} {b:aQ} {e:bu} {o:aC}
theorem Uv {s u:Sp} (h:kp s=kp u):s.ax=u.ax:=congrArg (·.1) h
theorem Uw {s u:Sp} (h:kp s=kp u):s.aI=u.aI:=congrArg (·.2.2) h
theorem Ux:(qc s e b).ax=s.ax:=by
  have:=Uv (DI (s:=eO s) (c:=e.Client) (b:=b))
  exact this
theorem LP:(qc s e b).aI=b7 s.aI e.Client ⟨e.bz,(dy (iZ s e.Client b)).1⟩:=by
  show b7 (cV (eO s) e.Client b).aI _ _=_
  rw[Uw (DI (s:=eO s) (c:=e.Client) (b:=b))]
  rfl
end
section
variable {k:Int} {s:Sp} {e:bu} {b b':aQ}
theorem Uy {s:Sp} {c:Int} {r:f_} {x:List (Int×f_)} (h:s.aI=b7 x c r):iM s c=r:=by
  unfold iM
  rw[h,u_,aL rfl]
  rfl
end
theorem EK (o:aC):(iy o % 2 != (0:Int))=o.aZ∧(iy o / 2 % 2*2 != (0:Int))=o.aN∧(iy o / 4 % 2*4 != (0:Int))=o.ah∧0≤iy o∧iy o≤7:=by
  unfold iy
  cases o.aZ<;>cases o.aN<;>cases o.ah<;>decide
theorem AS {bU:Bool} {o:aC} (h:dV bU o=true):(mj o).all iV=true:=by
  obtain⟨h1,h2,h3,_⟩:=oN h
  obtain⟨_,_,_,h4,h5⟩:=EK o
  unfold mj
  simp only[j5,nq,bO,lB]
  exact⟨lT (by omega) (by omega),lT (by omega) (by omega),lT (by omega) (by omega),lT (by omega) (by omega)⟩
theorem LQ:∀{xs:List aC},(kO xs).2=0→(kO xs).1=xs.map (fun x=>(cN x).1)∧∀x∈xs,(cN x).2=0
  |[],_=>⟨by rw[kO];rfl,fun x h=>by cases h⟩
  |x::xs,h=>by
   rw[zQ] at h ⊢
   split at h
   · rename_i hx;exact absurd h hx
   · rename_i hx
     obtain⟨h1,h2⟩:=LQ (xs:=xs) h
     rw[aB hx]
     refine⟨by simp only[h1,e_],fun y hy=>?_⟩
     rcases fe.1 hy with rfl|hy
     · simpa using hx
     · exact h2 y hy
def om (o:aC):List aj:=gC (mj o)::o.aa::o.Data::o.aH.map fun x=>(cN x).1
theorem EL {bU:Bool} {o:aC} (hr:dV bU o=true) (h:(cN o).2=0):(cN o).1=fI (om o)∧lC (om o)=true∧∀x∈o.aH,(cN x).2=0:=by
  rw[CO] at h ⊢
  split at h
  · rename_i hx;exact absurd h hx
  · rename_i hx
    obtain⟨h1,h2⟩:=LQ (by simpa using hx)
    rw[aB hx]
    rw[x5 (AS hr),h1] at h ⊢
    obtain⟨h3,h4⟩:=x4 h
    exact⟨h4,h3,h2⟩
theorem LR {bU:Bool} {o:aC} (hr:dV bU o=true) (hj:lC (om o)=true) (ops:List aC):pW (fI (om o)) ops={o with aH:=ops}:=by
  unfold pW
  rw[vW hj]
  unfold om
  simp only[vU,vV]
  rw[yg (AS hr)]
  unfold zS mj
  simp only[vU,vV]
  obtain⟨h1,h2,h3,_⟩:=EK o
  rw[h1,h2,h3]
  simp
theorem LS {bU:Bool} {o:aC} (hr:dV bU o=true) (hj:lC (om o)=true) (hi:bU=true→o.aH=[]):iI bU (fI (om o))=true:=by
  unfold iI
  rw[vW hj]
  have e:(om o).getD 0 []=gC (mj o):=rfl
  simp only[]
  rw[e,EJ (AS hr) 4 rfl,yg (AS hr)]
  have e3:(mj o).getD 3 0=iy o:=rfl
  simp only[]
  rw[e3,eW (EK o).2.2.2.2]
  unfold om
  simp only[bL,eu]
  cases bU with
  |false=>simp;omega
  |true=>simp[hi rfl]
theorem Uz {o:aC} (h:dV true o=true):o.aH=[]:=by
  rw[mQ] at h
  unfold lU rA rR at h
  simp only[bO,ng,qA,ie,kz] at h
  obtain⟨⟨⟨hk,hm⟩,_,_,_,_,_,_,h7,_⟩,_⟩:=h
  rcases h7 with h7|h7
  · unfold bJ at hm h7
    simp only[cB,ie] at hm h7
    omega
  · exact lg (by omega)
theorem LV {o:aC} (hr:dV true o=true) (h:(cN o).2=0):mo (cN o).1=(o,true):=by
  obtain⟨h1,h2,_⟩:=EL hr h
  have hi:=Uz hr
  unfold mo
  rw[h1,LS hr h2 (fun _=>hi),aL rfl,LR hr h2 []]
  obtain⟨k,p,u,D,sp,b,G,w,ops⟩:=o
  simp only at hi
  subst hi
  rfl
theorem UA {o:aC} (hr:dV false o=true) (h:(cN o).2=0):aR false (cN o).1=(o,true):=by
  obtain⟨h1,h2,h3⟩:=EL hr h
  have h4:=(oN hr).2.2.2.2
  unfold aR
  rw[h1,LS hr h2 (fun h=>by cases h),aL rfl,vW h2]
  have hd:(om o).drop 3=o.aH.map fun x=>(cN x).1:=rfl
  simp only[]
  rw[hd]
  have ha:(o.aH.map fun x=>(cN x).1).all (fun x=>(mo x).2)=true:=by
    rw[List.all_map,gR]
    intro x hx
    simp only[Function.comp,LV (h4 x hx) (h3 x hx)]
  have hm:(o.aH.map fun x=>(cN x).1).map (fun x=>(mo x).1)=o.aH:=by
    rw[jr]
    conv=>rhs;rw[←sL o.aH]
    apply uy
    intro x hx
    simp only[Function.comp,LV (h4 x hx) (h3 x hx),id]
  rw[ha,aL rfl,hm,LR hr h2]
  obtain⟨_,_,_,_,_,_,_,_,_⟩:=o
  rfl
theorem yh {o:aC} (h:(aU o).2=0):dV false o=true∧(cN o).2=0∧(aU o).1=(cN o).1∧(cN o).1.length≤1024:=by
  unfold aU at *
  repeat' split at h
  · simp at h
  · simp at h
  · rename_i h1 h2
    rw[aB h1,aB h2]
    simp only[rZ,Nat.not_lt] at h2
    exact⟨by simpa using h1,by simpa using h2.1,rfl,h2.2⟩
theorem EM {o:aC} (h:(aU o).2=0):aK (aU o).1=(o,0):=by
  obtain⟨h1,h2,h3,h4⟩:=yh h
  unfold aK
  rw[h3,aB (by omega),UA h1 h2,aB (by rw[h1];simp)]
section
variable {k c c':Int} {s:Sp} {e:bu} {b:aQ} {o:aC}
theorem LW (H:bC k s) (h0:0≤k) (hk:k≤99000) (hn:s.count≤1000000000000) (hd:fG s e=true):aY (aV s e b)=(iZ (fR s e.bw) e.Client b,0):=by
  unfold fG at hd
  rw[bO,cB] at hd
  have h1:=Aw hd.1
  have hb:aV s e b=(dy (iZ (fR s e.bw) e.Client b)).1:=by unfold aV;rw[aL hd.1,aL hd.2]
  rw[hb]
  exact Uu (KA (H.tZ e.bw) h1.1.2 h0 hk (by rw[sF];exact hn)).1
end
section
variable {bI deep n i:Int} {o x:aC} {ops:List aC}
mutual
theorem LX:∀(o:aC) (deep:Int),(qI o:Int)≤deep+1→bG o deep=o
  |⟨k,p,u,D,sp,b,G,w,ops⟩,deep,h=>by
   have ed:=CN ⟨k,p,u,D,sp,b,G,w,ops⟩
   simp only at ed
   rw[bG]
   have:(if deep>0 then mV ops (deep-1) else [])=ops:=by
     split
     · exact LY ops (deep-1) (by omega)
     · cases ops with
       |nil=>rfl
       |cons x xs=>
        have I:mh (x::xs)=max (qI x) (mh xs):=by rw[mh]
        have:=CN x
        omega
   rw[this]
theorem LY:∀(xs:List aC) (deep:Int),(mh xs:Int)≤deep+1→mV xs deep=xs
  |[],_,_=>by rw[mV]
  |x::xs,deep,h=>by
   have u:mh (x::xs)=max (qI x) (mh xs):=by rw[mh]
   rw[mV,LX x deep (by omega),LY xs deep (by omega)]
end
end
section
variable {k c t:Int} {s:Sp} {e:bu} {b:aQ}
theorem UB (fA:Nat) (p:aQ):(kU s fA p).az=s.az:=by unfold kU;split<;>rfl
end
theorem UC (o:aC):cY ⟨o.Kind,o.aa,o.Data,o.ak,o.aJ,o.aZ,o.aN,o.ah,o.aH⟩=cY o:=by cases o;rfl
section
variable {i j c n:Int} {s z:Sp} {o:aC} {x:cz} {e:bu} {b p:aQ}
end
open Go Go.ChangeShapes Go.WideShapes Go.ChangeAt Go.RowKit Go.Deep Go.ChangeMaps
section
variable {H:Type} {enc:TypeId×Value→H} {P:Program} {w w':World} {oZ:Nat} {sp:Nat→Bool} {hd:Bool}
end
section
variable {P:Program} {T E:TypeId}
end
section
variable {P:Program} {w:World} {T:TypeId} {H:Type} {enc:TypeId×Value→H} {v:Value} {dt:DataW H} {ps:List MemPlace} {b0:Nat} {r:Reach}
theorem UD {k:IntKind} (ht:P.underlying T=some (.int k)) (u:Value.okWide P w r b0 T v) (h:DataW.Trod enc P w 0 (fun _=>true) true T v dt ps) (hb:Rows.uptoBulk dt≤1048576):∃y:Int,v=.int k y∧k.min≤y∧y≤k.max:=by
  obtain⟨n,rfl,rfl,_,hw⟩:=open_int ht u h
  exact⟨n,rfl,by simpa[Lit.wf] using hw⟩
end
set_option maxRecDepth 100000
def UE (x:aC):Prop:=cY x≤1048576
theorem UF:gY prog 36 eY UE:=⟨fun h hb=>by
  obtain⟨y,k,o⟩:=(D1 1048576).out h hb (by decide)
  exact⟨y,k,cr o.1 hb⟩⟩
def z0 (l:af):af:={l with aO:=0}
def zB (ns:List af):List af:=ns.map z0
section
variable {ns ms:List af} {l:af} {p data:aQ} {cj born bA c:Int} {num:Bool} {s t:Sp} {o:aC}
theorem AT:bN (zB ns) p=(bN ns p).map z0:=by
  unfold bN zB
  rw[List.find?_map]
  rfl
theorem LZ:fD (zB ns) p=zB (fD ns p):=by
  unfold fD zB
  rw[qC]
  rfl
theorem UG:nk (z0 l) (zB ns)=zB (nk l ns):=by
  unfold zB
  induction ns with
  |nil=>rfl
  |cons n ns ih=>
   rw[e_,nk,nk]
   show(if jk l.aa n.aa=true then _ else _)=_
   split
   · rfl
   · rw[ih];rfl
theorem EN:d_ (zB ns) (z0 l)=zB (d_ ns l):=by
  unfold d_
  rw[←UG,←LZ]
  rfl
theorem UH:gA (zB ns) p=gA ns p:=by
  unfold gA zB
  rw[qC,jr]
  rfl
theorem UI {up:af} {q:aQ}:l_ (zB ns) (z0 up) q data cj 0 num=zB (l_ ns up q data cj born num):=by
  unfold l_
  have e1:(if num=true then {z0 up with Next:=IntKind.wrap .i64 ((z0 up).Next+1)} else z0 up)=z0 (if num=true then {up with Next:=IntKind.wrap .i64 (up.Next+1)} else up):=by split<;>rfl
  rw[e1,EN]
  exact EN (l:=⟨q,data,0,max cj (-1),0,max born 0⟩)
theorem L0:bY (zB ns) p data cj 0 num=(zB (bY ns p data cj born num).1,(bY ns p data cj born num).2):=by
  unfold bY
  rw[AT]
  by_cases h1:b9 p≠0
  · rw[aL h1,aL h1]
  rw[aB h1,aB h1]
  by_cases h2:data.length>128
  · rw[aL h2,aL h2]
  rw[aB h2,aB h2]
  cases bN ns (parentOf p) with
  |none=>rfl
  |some up=>
   simp only[j3]
   by_cases h3:up.aE≠ -1
   · rw[aL h3,aL (show(z0 up).aE≠ -1 from h3)]
   rw[aB h3,aB (show ¬(z0 up).aE≠ -1 from h3)]
   have e2:fX (z0 up) p num=fX up p num:=rfl
   have e3:ff (z0 up) p num=ff up p num:=rfl
   rw[e2,e3,AT]
   by_cases h4:fX up p num≠0
   · rw[aL h4,aL h4]
   rw[aB h4,aB h4]
   cases bN ns (ff up p num) with
   |some _=>rfl
   |none=>
    simp only[Option.map_none]
    have u:(zB ns).length=ns.length:=by unfold zB;rw[eu]
    rw[u]
    by_cases h5:ns.length≥32
    · rw[aL h5,aL h5]
    rw[aB h5,aB h5,UI (born:=born)]
theorem L1:fL (zB ns) p bA=(zB (fL ns p bA).1,(fL ns p bA).2):=by
  unfold fL
  rw[AT,UH,LZ]
  by_cases h1:b9 p≠0
  · rw[aL h1,aL h1]
  rw[aB h1,aB h1]
  cases bN ns p with
  |none=>rfl
  |some l=>
   simp only[j3]
   have e:(z0 l).ak=l.ak:=rfl
   rw[e]
   repeat' split
   all_goals rfl
theorem L2:eP (zB ns) p data bA=(zB (eP ns p data bA).1,(eP ns p data bA).2):=by
  unfold eP
  rw[AT]
  by_cases h1:cP p≠0
  · rw[aL h1,aL h1]
  rw[aB h1,aB h1]
  cases bN ns p with
  |none=>rfl
  |some l=>
   simp only[j3]
   have e:(z0 l).ak=l.ak:=rfl
   rw[e]
   by_cases h2:bA≥0∧l.ak≠bA
   · rw[aL h2,aL h2]
   rw[aB h2,aB h2]
   by_cases h3:data.length>128
   · rw[aL h3,aL h3]
   rw[aB h3,aB h3,←EN]
   rfl
theorem L3 (h:zB s.an=zB t.an):cc s c o=cc t c o∧zB (dU s c o)=zB (dU t c o):=by
  have u:=L0 (ns:=s.an) (p:=o.aa) (data:=o.Data) (cj:=if o.aZ=true then c else -1) (born:=s.count) (num:=o.aN)
  have I:=L0 (ns:=t.an) (p:=o.aa) (data:=o.Data) (cj:=if o.aZ=true then c else -1) (born:=t.count) (num:=o.aN)
  have D:=L1 (ns:=s.an) (p:=o.aa) (bA:=o.ak)
  have d2:=L1 (ns:=t.an) (p:=o.aa) (bA:=o.ak)
  have s1:=L2 (ns:=s.an) (p:=o.aa) (data:=o.Data) (bA:=o.ak)
  have s2:=L2 (ns:=t.an) (p:=o.aa) (data:=o.Data) (bA:=o.ak)
  rw[h] at u D s1
  have M:=u.symm.trans I
  have G:=D.symm.trans d2
  have S:=s1.symm.trans s2
  unfold cc dU dS
  refine⟨?_,?_⟩
  · split
    · exact congrArg (fun x=>x.2.2) M
    · split
      · exact congrArg (fun x=>x.2) G
      · exact congrArg (fun x=>x.2.2) S
  · split
    · exact congrArg (fun x=>x.1) M
    · split
      · exact congrArg (fun x=>x.1) G
      · exact congrArg (fun x=>x.1) S
theorem L4 (fA:Nat) (p:aQ):(kU s fA p).an=s.an:=by unfold kU;split<;>rfl
theorem L5:∀(l:List iz) (s:Sp),(l.foldl oa s).an=s.an
  |[],_=>rfl
  |x::l,s=>by
   rw[oE,L5 l]
   exact L4 _ _
theorem L6:∀(ops:List aC) (s:Sp) (i:Int),gU c s ops i=none→∀j o,ops[j]?=some o→cc ((ops.take j).foldl (mU c) s) c o=0
  |[],_,_,_,j,o,h=>by simp at h
  |p::ops,s,i,h,j,o,ho=>by
   rw[gU] at h
   split at h
   · rename_i he
     cases j with
     |zero=>
      have:p=o:=by simpa using ho
      subst this
      exact he
     |succ j=>exact L6 ops _ _ h j o (by simpa using ho)
   · cases h
structure qW (k:Int) (c:Int) (s1 t:Sp) (ops:List aC) (i:Nat):Prop where
  ok:bC (k+4*i) t
  tree:zB t.an=zB ((ops.take i).foldl (mU c) s1).an
  az:∃x,bW t.az c=some x
  stamp:(iM t c).stamp<1000+i
  ax:t.ax=s1.ax
  count:t.count≤1000000000+i
theorem touch_find {b:fm} {c' bZ:Int} {x:cM} (h:bW b c=some x):∃y,bW (touchB b c' bZ) c=some y:=by
  unfold touchB
  split
  · exact⟨x,h⟩
  · split
    · exact⟨x,h⟩
    · rw[u_]
      split
      · exact⟨_,rfl⟩
      · exact⟨x,h⟩
theorem qW.step {k:Int} {s1:Sp} {ops:List aC} {i:Nat} {b:aQ} {ds:aQ} (H:qW k c s1 t ops i) (D:0≤k) (hk:k≤90000) (hi:i≤4) (hc:0≤c∧c<8) (ho:ops[i]?=some o) (hb:aK b=(o,0)) (G:3≤o.Kind∧o.Kind≤5)
    (hg:cc ((ops.take i).foldl (mU c) s1) c o=0):fG t ⟨c,1000+i,0,ds⟩=true∧(aY (aV t ⟨c,1000+i,0,ds⟩ b)).2=0∧(aY (aV t ⟨c,1000+i,0,ds⟩ b)).1.Code=0∧qW k c s1 (eZ t ⟨c,1000+i,0,ds⟩ b) ops (i+1):=by
  have K:=H.ok
  have ht:fR t (0:Int)=t:=LH K (by have:=K.ax;omega)
  have hE:ic ⟨c,1000+i,0,ds⟩=true:=by
    unfold ic
    simp only[bO,cB]
    omega
  have hd:fG t ⟨c,1000+i,0,ds⟩=true:=by
    unfold fG
    simp only[]
    rw[hE,ht,eW H.stamp];rfl
  obtain⟨x,hx⟩:=H.az
  have hte:touchE (eO t).az c (eO t).ax=0:=by
    unfold touchE
    refine aB ?_
    show ¬((bW t.az c).isSome=false∨t.ax<0∨t.ax≥1099511627776)
    have:=K.ax
    rw[hx]
    rintro(h|h|h)
    · simp at h
    · omega
    · omega
  have u:cc (touchS (eO t) c) c o=0:=by
    rw[(L3 (s:=touchS (eO t) c) (t:=(ops.take i).foldl (mU c) s1) (c:=c) (o:=o) H.tree).1]
    exact hg
  have hrun:cV (eO t) c b=kU (cH (touchS (eO t) c) c o) (iY o) (cK (touchS (eO t) c) c o):=by
    unfold cV
    rw[hb]
    simp only[ne_eq,jN,de]
    rw[aB (by omega),hte,aB (by simp)]
    unfold nF
    rw[aB (by omega),aL (by unfold jK;simp only[ie,cB];omega)]
    unfold qb
    rw[aL u]
  have hS:eZ t ⟨c,1000+i,0,ds⟩ b=qc t ⟨c,1000+i,0,ds⟩ b:=by
    unfold eZ
    simp only[]
    rw[ht,aL ⟨hE,H.stamp⟩]
  have hR:=LW (b:=b) K (by omega) (by omega) (by have:=H.count;omega) hd
  refine⟨hd,by rw[hR],?_,?_⟩
  · rw[hR]
    show(cx (eO (fR t 0)) c b _).Code=0
    rw[ht]
    unfold cx
    rw[hb]
    simp only[ne_eq,jN,de]
    rw[aB (by omega),hte,aB (by simp)]
    unfold oU
    rw[aB (by omega),aL (by unfold jK;simp only[ie,cB];omega)]
    unfold xV
    rw[aL u]
    exact u
  · rw[hS]
    refine⟨?_,?_,?_,?_,?_,?_⟩
    · have:=K.done (b:=b) (e:=⟨c,1000+i,0,ds⟩) hE (by omega) (by omega) (by have:=H.count;omega)
      exact this.mono (by omega)
    · show zB (cV (eO t) c b).an=_
      rw[hrun,L4,fu ho,r_]
      exact(L3 (s:=touchS (eO t) c) (t:=(ops.take i).foldl (mU c) s1) (c:=c) (o:=o) H.tree).2
    · show ∃x,bW (cV (eO t) c b).az c=some x
      rw[hrun,UB]
      exact touch_find hx
    · rw[Uy (r:=⟨1000+i,(dy (iZ t c b)).1⟩) LP]
      show(1000+i:Int)<1000+((i+1:Nat):Int)
      omega
    · rw[Ux];exact H.ax
    · rw[KH]
      have:=H.count
      omega
end
abbrev dA (ops:List aC):aC:=⟨8,[],[],0,0,false,false,false,ops⟩
theorem L7:∀{fs:List aj} {f:aj},f∈fs→f.length≤(fI fs).length
  |g::fs,f,h=>by
   have e:fI (g::fs)=rL g++fI fs:=by unfold fI;rw[uX]
   rw[e,b_]
   rcases fe.1 h with rfl|h
   · have:f.length≤(rL f).length:=by unfold rL;rw[b_];omega
     omega
   · have:=L7 h
     omega
section
variable {i j c k:Int} {s z t:Sp} {o:aC} {x:cz} {ops:List aC} {b:aQ} {e:bu}
theorem UJ (h:(aU (dA ops)).2=0) (hx:o∈ops):(aU o).2=0∧3≤o.Kind∧o.Kind≤5:=by
  obtain⟨h1,h2,h3,h4⟩:=yh h
  have h5:dV true o=true:=(oN h1).2.2.2.2 o hx
  obtain⟨r1,D,u⟩:=EL h1 h2
  have h6:(cN o).2=0:=u o hx
  have h7:(cN o).1.length≤1024:=by
    have:=L7 (fs:=om (dA ops)) (f:=(cN o).1) (by
      unfold om dA
      simp only[fe,cF]
      exact .inr (.inr (.inr ⟨o,hx,rfl⟩)))
    rw[←r1] at this
    omega
  have hk:rA o true=true:=by
    rw[mQ,lU] at h5
    simp only[bO] at h5
    exact h5.1.1
  have h8:dV false o=true:=by
    rw[mQ,lU] at h5 ⊢
    simp only[bO] at h5 ⊢
    refine⟨⟨?_,h5.1.2⟩,h5.2⟩
    unfold rA at hk ⊢
    simp only[bO] at hk
    rw[hk.1]
    rfl
  refine⟨?_,?_⟩
  · unfold aU
    rw[aB (by rw[h8];decide),aB (by omega)]
  · unfold rA bJ at hk
    simp only[bO,ie,cB,ng,fZ,false_or] at hk
    omega
structure qg (i:Int) (s:Sp):Prop where
  k:gX i s
  st:∀c,(iM s c).stamp≤i
theorem qg.new:qg 0 eM:=⟨gX.new,fun c=>(by show(0:Int)≤0;decide)⟩
theorem qg.mB (H:qg i s) (h0:0≤i) (hi:i≤20000) (he:e.bz=i+1):qg (i+1) (eZ s e b):=
  ⟨H.k.mB h0 hi,fun c=>by
    have h1:=H.st c
    unfold iM at h1 ⊢
    unfold eZ
    split
    · rw[LP,u_]
      split
      · show e.bz≤i+1
        omega
      · rw[AA];omega
    · rw[AA];omega⟩
def qX (s:Sp) (c:Int):Sp:=touchS (eO s) c
abbrev mulR (s:Sp) (c:Int) (ops:List aC):Result:=(aY (aV s ⟨c,1000,0,[]⟩ (aU (dA ops)).1)).1
theorem AU (H:qg i s) (h0:0≤i) (hi:i≤60) (hc:0≤c∧c<8) (hp:(aU (dA ops)).2=0):
    fG s ⟨c,1000,0,[]⟩=true∧(aY (aV s ⟨c,1000,0,[]⟩ (aU (dA ops)).1)).2=0∧mulR s c ops=iZ s c (aU (dA ops)).1∧eZ s ⟨c,1000,0,[]⟩ (aU (dA ops)).1=qc s ⟨c,1000,0,[]⟩ (aU (dA ops)).1:=by
  have K:=H.k.ok
  have ht:fR s (0:Int)=s:=LH K (by have:=K.ax;omega)
  have hE:ic ⟨c,1000,0,[]⟩=true:=by
    unfold ic
    simp only[bO,cB]
    omega
  have hl:(iM s c).stamp<1000:=by have:=H.st c;omega
  have hd:fG s ⟨c,1000,0,[]⟩=true:=by
    unfold fG
    simp only[]
    rw[hE,ht,eW hl];rfl
  have hR:=LW (b:=(aU (dA ops)).1) K (by omega) (by omega) (by have:=H.k.cnt;omega) hd
  refine⟨hd,by rw[hR],?_,?_⟩
  · unfold mulR
    rw[hR]
    show iZ (fR s 0) c _=_
    rw[ht]
  · unfold eZ
    simp only[]
    rw[ht,aL ⟨hE,hl⟩]
theorem L8 (hp:(aU (dA ops)).2=0) (ht:touchE s.az c s.ax=0):cV s c (aU (dA ops)).1=mw (touchS s c) c (dA ops)∧∀x,cx s c (aU (dA ops)).1 x=oc (touchS s c) c (dA ops) {x with Code:=0}:=by
  have hr:=EM hp
  refine⟨?_,fun x=>?_⟩
  · unfold cV
    rw[hr]
    simp only[ne_eq,jN,de]
    rw[aB (show ¬(dA ops).Kind=1 from(by decide:¬(8:Int)=1)),ht,aB (by simp)]
    rfl
  · unfold cx
    rw[hr]
    simp only[ne_eq,jN,de]
    rw[aB (show ¬(dA ops).Kind=1 from(by decide:¬(8:Int)=1)),ht,aB (by simp)]
    rfl
theorem L9 (hp:(aU (dA ops)).2=0) (ht:¬touchE s.az c s.ax=0):cV s c (aU (dA ops)).1=touchS s c∧∀x,cx s c (aU (dA ops)).1 x={x with Code:=120}:=by
  have hr:=EM hp
  have h1:touchE s.az c s.ax=120:=by
    unfold touchE at ht ⊢
    split at ht
    · rw[aL ‹_›]
    · exact absurd rfl ht
  refine⟨?_,fun x=>?_⟩
  · unfold cV
    rw[hr]
    simp only[ne_eq,jN,de]
    rw[aB (show ¬(dA ops).Kind=1 from(by decide:¬(8:Int)=1)),aL ht]
  · unfold cx
    rw[hr]
    simp only[ne_eq,jN,de]
    rw[aB (show ¬(dA ops).Kind=1 from(by decide:¬(8:Int)=1)),h1,aL (by decide)]
theorem EO (H:qg i s) (h0:0≤i) (hi:i≤60) (hc:0≤c∧c<8) (hp:(aU (dA ops)).2=0) (hz:z=eZ s ⟨c,1000,0,[]⟩ (aU (dA ops)).1) (hk:¬(mulR s c ops).Code=0):
    z.an=s.an∧(mulR s c ops).bF=[]∧((mulR s c ops).Code=120∨(mulR s c ops).At<(ops.length:Int)):=by
  obtain⟨-, -,h3,h4⟩:=AU H h0 hi hc hp
  have u:ops.length≤4:=(oN (yh hp).1).2.2.2.1
  rw[hz,h4]
  rw[h3] at hk ⊢
  unfold iZ at hk ⊢
  show(cV (eO s) c (aU (dA ops)).1).an=s.an∧_
  by_cases ht:touchE (eO s).az c (eO s).ax=0
  · obtain⟨e1,e2⟩:=L8 hp ht
    rw[e2] at hk ⊢
    rw[e1]
    unfold oc at hk ⊢
    unfold mw
    have H1:bC (4*i) (touchS (eO s) c):=H.k.ok.more.touch
    cases hm:gU c (touchS (eO s) c) (dA ops).aH 0 with
    |none=>
     rw[hm] at hk
     exact absurd rfl hk
    |some r=>
     obtain⟨j,e,sp⟩:=r
     obtain⟨-, -, -, -,h5⟩:=xZ hc.2 _ H1 (by omega) (by show 4*i+(ops.length:Int)≤100000;omega) hm
     refine⟨?_,rfl,.inr ?_⟩
     · show(if gS (touchS (eO s) c).an=true then (touchS (eO s) c).an else sp.an)=s.an
       rw[H1.tree.C3,aL rfl]
       rfl
     · show j<_
       have h5:j<0+(ops.length:Int):=h5
       omega
  · obtain⟨e1,e2⟩:=L9 hp ht
    rw[e2,e1]
    exact⟨rfl,rfl,.inl rfl⟩
theorem qh (H:qg i s) (h0:0≤i) (hi:i≤60) (hc:0≤c∧c<8) (hp:(aU (dA ops)).2=0) (hz:z=eZ s ⟨c,1000,0,[]⟩ (aU (dA ops)).1) (hk:(mulR s c ops).Code=0):
    (mulR s c ops).bF.length=ops.length∧zB z.an=zB (ops.foldl (mU c) (qX s c)).an∧qW (4*i) c (qX s c) s ops 0∧gU c (qX s c) ops 0=none:=by
  obtain⟨-, -,h3,h4⟩:=AU H h0 hi hc hp
  have D:ops.length≤4:=(oN (yh hp).1).2.2.2.1
  rw[hz,h4]
  rw[h3] at hk ⊢
  unfold iZ at hk ⊢
  by_cases ht:touchE (eO s).az c (eO s).ax=0
  · obtain⟨e1,e2⟩:=L8 hp ht
    have H1:bC (4*i) (touchS (eO s) c):=H.k.ok.more.touch
    rw[e2] at hk ⊢
    have u:(qc s ⟨c,1000,0,[]⟩ (aU (dA ops)).1).an=(mw (touchS (eO s) c) c (dA ops)).an:=by rw[←e1];rfl
    rw[u]
    unfold oc at hk ⊢
    unfold mw
    cases hm:gU c (touchS (eO s) c) (dA ops).aH 0 with
    |some r=>
     obtain⟨j,e,sp⟩:=r
     rw[hm] at hk
     obtain⟨-, -,h5, -, -⟩:=xZ hc.2 _ H1 (by omega) (by show 4*i+(ops.length:Int)≤100000;omega) hm
     exact absurd hk h5
    |none=>
     refine⟨?_,?_,⟨?_,rfl,?_,?_,rfl,?_⟩,hm⟩
     · show((kV 0 c (touchS (eO s) c) ops).iW).length=ops.length
       unfold kV
       have key:∀(l:List aC) (m:Mu),(l.foldl (iL 0 c) m).iW.length=m.iW.length+l.length:=by
         intro l
         induction l with
         |nil=>intro m;rfl
         |cons a l ih=>intro m;rw[oE,ih,bL];unfold iL;simp only[b_,bL,cS];omega
       rw[key]
       simp
     · show zB ((kV 0 c (touchS (eO s) c) ops).list.foldl oa (kV 0 c (touchS (eO s) c) ops).sp).an=_
       rw[L5]
       unfold kV
       rw[vv]
       rfl
     · exact H.k.ok.mono (by omega)
     · unfold touchE at ht
       split at ht
       · cases ht
       · rename_i h7
         have h8:¬(bW s.az c).isSome=false:=fun h=>h7 (.inl h)
         cases hf:bW s.az c with
         |none=>rw[hf] at h8;exact absurd rfl h8
         |some x=>exact⟨x,rfl⟩
     · have:=H.st c
       show(iM s c).stamp<1000+((0:Nat):Int)
       omega
     · have:=H.k.cnt
       show s.count≤1000000000+((0:Nat):Int)
       omega
  · obtain⟨e1,e2⟩:=L9 hp ht
    rw[e2] at hk
    exact absurd hk (by show ¬(120:Int)=0;decide)
theorem UK (h:lX o 500 1=false):bG o 2=o:=by
  unfold lX at h
  have:=DS o 500 1 (by decide) (by simpa using h)
  exact LX o 2 (by omega)
theorem yj (H:qW k c (qX s c) t ops j.toNat) (u:0≤k) (hk:k≤90000) (hc:0≤c∧c<8) (hp:(aU (dA ops)).2=0) (hb:gU c (qX s c) ops 0=none) (h0:0≤j) (ho:ops[j.toNat]?=some o) (hB:∀q∈ops,lX q 500 1=false):
    (aU (bG o 2)).2=0∧fG t ⟨c,1000+j,0,[]⟩=true∧(aY (aV t ⟨c,1000+j,0,[]⟩ (aU (bG o 2)).1)).2=0∧(aY (aV t ⟨c,1000+j,0,[]⟩ (aU (bG o 2)).1)).1.Code=0∧qW k c (qX s c) (eZ t ⟨c,1000+j,0,[]⟩ (aU (bG o 2)).1) ops (j+1).toNat:=by
  have D:ops.length≤4:=(oN (yh hp).1).2.2.2.1
  have hlt:=(dL.1 ho).1
  obtain⟨h1,h2⟩:=UJ hp (cL ho)
  rw[UK (hB o (cL ho))]
  have h:=H.step (ds:=[]) u hk (by omega) hc ho (EM h1) h2 (L6 ops _ 0 hb _ _ ho)
  rw[toNat_succ h0]
  have e:((j.toNat:Nat):Int)=j:=by omega
  rw[e] at h
  exact⟨h1,h⟩
theorem vX (H:qW k c s t ops j.toNat) (u:0≤k) (hk:k≤90000) (h0:0≤j) (hj:j≤ops.length) (hn:ops.length≤4):bC 90016 t∧t.count≤1000000004:=⟨H.ok.mono (by omega),by have:=H.count;omega⟩
theorem UL (H:bC 90016 t∧t.count≤1000000004):0≤t.count∧t.count≤1000000000000000:=⟨H.1.cn,by have:=H.2;omega⟩
theorem UM (H:bC 90016 t∧t.count≤1000000004):∀p∈t.aI,p.2.data.length≤1000000000:=fun p hp=>cr (H.1.gN.ok p hp).2.2 (by decide)
theorem UN (H:bC 90016 t∧t.count≤1000000004):ic e=true→vc (iZ (fR t e.bw) e.Client b):=fun hE=>
  Kz (H.1.tZ e.bw) (Aw hE).1.2 (by omega) (by omega) (by rw[sF];have:=H.2;omega)
theorem UO (h:∀q∈ops,cY q≤2000000) (hn:ops.length≤4):cY (dA ops)≤100000000:=by
  have h1:=z_ h
  have h2:=rS (dA ops)
  have h3:cY (dA ops)=1+0+0+gm ops:=h2
  have h4:2000000*ops.length≤2000000*4:=sS _ hn
  omega
def yl (ops:List aC) (i:Int):Prop:=∀q∈ops.take i.toNat,lX q 500 1=false
theorem UP:yl ops 0:=fun q hq=>by cases hq
theorem UQ (H:yl ops i) (h0:0≤i) (hx:ops[i.toNat]?=some o) (h:lX o 500 1=false):yl ops (i+1):=fun q hq=>by
  rw[toNat_succ h0,fu hx] at hq
  rcases cU.1 hq with hq|hq
  · exact H q hq
  · rw[gv.1 hq];exact h
theorem UR (H:yl ops i) (h:¬i<(ops.length:Int)):∀q∈ops,lX q 500 1=false:=fun q hq=>H q (by rw[eR (by omega)];exact hq)
theorem EP (H:qW k c (qX s c) t ops j.toNat) (h:¬j<(ops.length:Int)) (hz:zB z.an=zB (ops.foldl (mU c) (qX s c)).an):zB z.an=zB t.an:=by
  have:=H.tree
  rw[eR (by omega)] at this
  rw[hz,this]
theorem L_ {a b:List af} (h:zB a=zB b):a.length=b.length:=by
  have:=congrArg List.length h
  unfold zB at this
  simpa using this
end
def mY (i:Nat) (ns:List af):List af:=(ns.take i).map z0++ns.drop i
section
variable {ns ra:List af} {q:Int} {x:af} {i m:Nat}
theorem Ma:ns=mY (0:Int).toNat ns:=rfl
theorem AV:(mY i ns).length=ns.length:=by
  unfold mY
  rw[b_,eu,dD,gx]
  omega
theorem US (hx:(mY i ns)[i]?=some x):ns[i]?=some x:=by
  have hl:i<ns.length:=by
    have:=(dL.1 hx).1
    rw[AV] at this
    exact this
  unfold mY at hx
  rw[List.getElem?_append_right (by rw[eu,dD];omega),eu,dD,s9] at hx
  rw[←hx]
  congr 1
  omega
theorem Mb (h:ra=mY q.toNat ns) (h0:0≤q) (hx:ra[q.toNat]?=some x):ra.set q.toNat (z0 x)=mY (q+1).toNat ns:=by
  subst h
  have hy:=US hx
  have hl:=(dL.1 hy).1
  rw[toNat_succ h0]
  unfold mY
  have hn:((ns.take q.toNat).map z0).length=q.toNat:=by rw[eu,dD];omega
  rw[List.set_append_right _ _ (by omega),hn,Bc,uo hl,List.set_cons_zero,fu hy,gp,cI]
  rfl
theorem Mc (h:ra=mY q.toNat ns) (hq:¬q<(ra.length:Int)):ra=zB ns:=by
  have hl:ra.length=ns.length:=by rw[h,AV]
  rw[h]
  unfold mY zB
  rw[eR (by omega),G1 (by omega),dh]
theorem UT (h:ra=mY i ns) (hd:∀n∈ns,n.Data.length≤m):∀n∈ra,n.Data.length≤m:=by
  subst h
  intro n hn
  unfold mY at hn
  rcases cU.1 hn with hn|hn
  · obtain⟨y,hy,rfl⟩:=cF.1 hn
    exact hd y (wC hy)
  · exact hd n (G5 hn)
end
set_option maxHeartbeats 12000000 in
theorem UU (B:World) (h:av) (g:GH) (hg:bf g h) (D:bh g) (hA:Value) (list:List cz) (eA:ay g 38 qd hA list) (client:Int) (hB:Value) (ops:List aC) (G:ay g 36 eY hB ops) (hP:l7 g) (hl:list.length≤1048576) (ho:∀z∈list,cY z.Op≤2000000∧z.eG.length≤2000000) (hq:ops.length≤1048576) (eB:∀z∈ops,cY z≤2000000):
  aA prog B 4 #[hA,vI client,hB] h g [] (fun lr g' L'=>lr=vT∧L'=[]):=by
 obtain⟨lv,lw,rfl⟩:=eA.ai
 obtain⟨cb,a0,rfl⟩:=G.ai
 refine aA.aq func4 fun R hR=>?_
 have hC:=St.init hg
 refine At.go 1 1 []<|At.rg 2<|Op.c0 (some 28) (Ld _ _ _ hC.sub D hP) hC ?_
 rintro _ t1 _ t2 eI hD ⟨rfl,rfl⟩
 replace D:=D.mono eI
 replace hP:=hP.mono eI
 replace eA:=eA.mono eI
 replace G:=G.mono eI
 refine Op.pg 2 [(29,vF)]<|At.dP 29 5<|At.rp 3 1 [(30,vL lv list.length lw)]<|Op.c0 (some 31) (DV _ _ _ hD.sub D _ _ eA (by(try dsimp only)<;>omega)) hD ?_
 rintro _ hE _ t3 f8 hF ⟨t4,rfl,a9,rfl⟩
 obtain⟨a28,ce,rfl⟩:=a9.ai
 replace D:=D.mono f8
 replace hP:=hP.mono f8
 replace G:=G.mono f8
 refine Op.pg 6 [(0,vL a28 ((list.take 60).length) ce)]<|At.rp 15 1 [(32,vL a28 ((list.take 60).length) ce)]<|Op.c1 33 (DU _ _ _ hF.sub D _ _ a9 (by((try dsimp only)<;>((have h9:=cG list;omega)))) (by((try dsimp only)<;>(exact fun q hq=>(by have:=ho q (wC hq);omega))))) hF fun t5 d1=>Op.px 1 [(34,.bool (ja (list.take 60)))]<|Op.wb (ja (list.take 60)) 34 (fun t6=>?_) fun t7=>?_
 ·exact Op.pg 7 [(46,vT)]<|At.bX 46 8<|At.gr 9 1 6 vT (hR d1 ⟨(aS (by rfl)),rfl⟩)
 refine Op.px 5 [(39,.bool (decide ((ops.length:Int)>4)))]<|Op.wd ((ops.length:Int)>4) 39 (fun t8=>?_) fun t9=>?_
 ·exact Op.pg 7 [(46,vT)]<|At.bX 46 8<|At.gr 9 1 6 vT (hR d1 ⟨(aS (by rfl)),rfl⟩)
 refine Op.px 4 [(43,.bool (decide (client<0)))]<|Op.wd (client<0) 43 (fun ub=>?_) fun ui=>?_
 ·exact Op.pg 7 [(46,vT)]<|At.bX 46 8<|At.gr 9 1 6 vT (hR d1 ⟨(aS (by rfl)),rfl⟩)
 refine Op.pg 7 [(46,.bool (decide (client>7)))]<|At.fd (client>7) 46 8 10 (fun ul=>?_) fun us=>?_
 ·exact At.gr 9 1 6 vT (hR d1 ⟨(aS (by rfl)),rfl⟩)
 refine At.go 11 1 [(7,vI 0)] ?_
 have lx:∀(m:Nat) (i:Int) (f9:av) (hm:ops.length-i.toNat<m) (h0:0≤i) (h1:i≤ops.length) (hS:yl ops i) (d2:St h g (aM []) hE [] f9),At (bS prog B 4 f4 R) [] 11 [(0,vL a28 ((list.take 60).length) ce),(1,vI client),(2,vL cb ops.length a0),(7,vI i)] f9:=by
  intro m;induction m with
  |zero=>intros;omega
  |succ m ly=>
   intro i f9 hm h0 h1 hS d2
   refine At.go 12 4 [(50,.bool (decide (i<(ops.length:Int))))] ?_
   have lA:∀(m:Nat) (gc:av) (hm:0<m) (hS:∀q∈ops,lX q 500 1=false) (ge:St h g (aM []) hE [] gc),At (bS prog B 4 f4 R) [] 18 [(0,vL a28 ((list.take 60).length) ce),(1,vI client),(2,vL cb ops.length a0)] gc:=by
    intro m;induction m with
    |zero=>intros;omega
    |succ m ut=>
     intro gc hm hS ge
     refine At.rg 2<|Op.c0 (some 65) (vr _ _ _ ge.sub D) ge ?_
     rintro _ u1 _ u2 eJ hG ⟨Y,u3,rfl,gg,rfl⟩
     replace D:=D.mono eJ
     replace hP:=hP.mono eJ
     replace G:=G.mono eJ
     replace a9:=a9.mono eJ
     refine Op.pg 19 [(8,vP Y)]<|At.rg 2<|Op.c0 (some 66) (vr _ _ _ hG.sub D) hG ?_
     rintro _ lL _ u4 d3 lO ⟨a1,l0,rfl,ad,rfl⟩
     replace D:=D.mono d3
     replace hP:=hP.mono d3
     replace G:=G.mono d3
     replace a9:=a9.mono d3
     replace gg:=gg.mono d3
     refine Op.pg 20 [(9,vP a1)]<|At.go 21 6 [(72,vF)]<|At.dP 72 24<|At.go 25 1 [(10,vI 0)]<|At.go 26 1 [(11,vI 0)] ?_
     have l2:∀(m:Nat) (eK:GH) (cf:aG lL eK) (y:Sp) (i:Int) (gk:au) (gn:av) (hm:(list.take 60).length-i.toNat<m) (h0:0≤i) (h1:i≤(list.take 60).length) (hM:qg i y) (ch:bB eK Y y gk) (eL:St h g (aM []) eK [l0,gk] gn),At (bS prog B 4 f4 R) [] 26 [(0,vL a28 ((list.take 60).length) ce),(1,vI client),(2,vL cb ops.length a0),(8,vP Y),(9,vP a1),(10,vI 0),(11,vI i)] gn:=by
      intro m;induction m with
      |zero=>intros;omega
      |succ m l3=>
       intro eK cf y i gk gn hm h0 h1 hM ch eL
       replace D:=D.mono cf
       replace hP:=hP.mono cf
       replace G:=G.mono cf
       replace a9:=a9.mono cf
       replace ad:=ad.mono cf
       refine At.go 27 4 [(76,.bool (decide (i<((list.take 60).length:Int))))]<|At.fd (i<((list.take 60).length:Int)) 76 28 33 (fun vd=>?_) fun ve=>?_
       ·refine At.rp 6 2 [(79,vL a28 ((list.take 60).length) ce),(80,vI i)] ?_
        obtain⟨u,eQ⟩:=cD (list.take 60) i
        obtain⟨l4,hH,vo,vx,l8,ma,gs⟩:=ay.br a9 _ eQ
        cases l8
        refine Op.iq 22 38 13 144 ((list.take 60).length) ce 79 80 81 l4 hH i ?_
        obtain⟨vy,v1,v2,d4,d5,d6,gs⟩:=gs
        obtain⟨da,db,rfl⟩:=d4.ai
        obtain⟨dc,dd,rfl⟩:=d5.ai
        obtain⟨df,dg,rfl⟩:=d6.ai
        refine Op.la 38 81 82 (hH+i.toNat*13) 13 [vI u.Client,vI u.bz,vI u.bw,vI u.Op.Kind,vS u.Op.aa,vL da u.Op.Data.length db,vI u.Op.ak,vI u.Op.aJ,.bool u.Op.aZ,.bool u.Op.aN,.bool u.Op.ah,vL dc u.Op.aH.length dd,vL df u.eG.length dg] (eL.sub _ _ ma) ?_ (hv:=gs)
        refine Op.al 12 38 #[vI 0,vI 0,vI 0,vI 0,vS [],vN,vI 0,vI 0,vF,vF,vF,vN,vN] eL fun hI v3 md=>Op.sg 38 12 82 0 0 #[vI u.Client,vI u.bz,vI u.bw,vI u.Op.Kind,vS u.Op.aa,vL da u.Op.Data.length db,vI u.Op.ak,vI u.Op.aJ,.bool u.Op.aZ,.bool u.Op.aN,.bool u.Op.ah,vL dc u.Op.aH.length dd,vL df u.eG.length dg] md zt fun v4 mf=>Op.gt 29<|At.rp 4 1 [(83,vI i)]<|Op.dQ 84 (i+1) (by omega) (by(have h9:=cG list;omega)) ?_
        refine Op.px 1 [(85,vQ hI 1)]<|Op.s1 3 85 84 1 (vI (i+1)) 0 #[vI u.Client,vI (i+1),vI u.bw,vI u.Op.Kind,vS u.Op.aa,vL da u.Op.Data.length db,vI u.Op.ak,vI u.Op.aJ,.bool u.Op.aZ,.bool u.Op.aN,.bool u.Op.ah,vL dc u.Op.aH.length dd,vL df u.eG.length dg] mf zt fun v5 mi=>Op.gt 30<|At.rp 2 1 [(86,vQ hI 2)]<|Op.s1 3 86 (.const (vI 0)) 2 (vI 0) 0 #[vI u.Client,vI (i+1),vI 0,vI u.Op.Kind,vS u.Op.aa,vL da u.Op.Data.length db,vI u.Op.ak,vI u.Op.aJ,.bool u.Op.aZ,.bool u.Op.aN,.bool u.Op.ah,vL dc u.Op.aH.length dd,vL df u.eG.length dg] mi zt fun v6 eT=>?_
        refine Op.gt 31<|At.dw (fun _=>False) [(0,true),(1,true),(3,true),(2,false),(4,false),(1005,false),(5,false)]<|Op.px 1 [(87,vP Y)]<|Op.jg (T:=38) (x:=12) (o:=0) (d:=88) (n:=13) (vs:=[vI u.Client,vI (i+1),vI 0,vI u.Op.Kind,vS u.Op.aa,vL da u.Op.Data.length db,vI u.Op.ak,vI u.Op.aJ,.bool u.Op.aZ,.bool u.Op.aN,.bool u.Op.ah,vL dc u.Op.aH.length dd,vL df u.eG.length dg]) (by kernel_rfl) (by kernel_rfl) (by kernel_rfl) id (eT.ag 0 rfl) (by kernel_rfl) rfl<|Op.jg (T:=38) (x:=12) (o:=0) (d:=90) (n:=13) (vs:=[vI u.Client,vI (i+1),vI 0,vI u.Op.Kind,vS u.Op.aa,vL da u.Op.Data.length db,vI u.Op.ak,vI u.Op.aJ,.bool u.Op.aZ,.bool u.Op.aN,.bool u.Op.ah,vL dc u.Op.aH.length dd,vL df u.eG.length dg]) (by kernel_rfl) (by kernel_rfl) (by kernel_rfl) id (eT.ag 0 rfl) (by kernel_rfl) rfl ?_
        refine Op.c0 (some 89) (ya _ _ _ eT.sub D (⟨u.Client,i+1,0,⟨u.Op.Kind,u.Op.aa,u.Op.Data,u.Op.ak,u.Op.aJ,u.Op.aZ,u.Op.aN,u.Op.ah,u.Op.aH⟩,u.eG⟩:cz) _ d4 _ d5 _ d6) eT ?_
        rintro _ v8 _ v9 dj hJ ⟨wa,rfl,e1,rfl⟩
        obtain⟨wc,wi,rfl⟩:=e1.ai
        replace D:=D.mono dj
        replace hP:=hP.mono dj
        replace d4:=d4.mono dj
        replace d5:=d5.mono dj
        replace d6:=d6.mono dj
        replace ch:=ch.mono dj
        refine Op.c0 (some 91) (yb _ _ _ hJ.sub D (⟨u.Client,i+1,0,⟨u.Op.Kind,u.Op.aa,u.Op.Data,u.Op.ak,u.Op.aJ,u.Op.aZ,u.Op.aN,u.Op.ah,u.Op.aH⟩,u.eG⟩:cz) _ d4 _ d5 _ d6 (by((try dsimp only)<;>((rw[UC];have h9:=(og (show ja (list.take 60)=false by assumption) _ (cL eQ));omega)))) (by((try dsimp only)<;>((have h9:=(og (show ja (list.take 60)=false by assumption) _ (cL eQ));omega))))) hJ ?_
        rintro _ wn _ wp e2 ml ⟨v109,rfl,hK,rfl⟩
        obtain⟨wr,wt,rfl⟩:=hK.ai
        replace D:=D.mono e2
        replace hP:=hP.mono e2
        replace e1:=e1.mono e2
        replace ch:=ch.mono e2
        refine Op.ba ?_
        have g1:=ml.fs [1,1,2] rfl
        refine Op.cl (some 92) 1 g1 (ua _ _ _ g1.sub D Y y _ ch (bV (⟨u.Client,i+1,0,⟨u.Op.Kind,u.Op.aa,u.Op.Data,u.Op.ak,u.Op.aJ,u.Op.aZ,u.Op.aN,u.Op.ah,u.Op.aH⟩,u.eG⟩:cz)) _ e1 _ _ hK hP (by((try dsimp only)<;>(exact hM.k.ok.wk (by have h9:=cG list;omega)))) (by((try dsimp only)<;>(exact cr (x_ (og (show ja (list.take 60)=false by assumption) _ (cL eQ)).2.2) (by decide)))) (by((try dsimp only)<;>(exact hM.k.ct (by have h9:=cG list;omega)))) (by(try dsimp only)<;>exact hM.k.gN) (by((try dsimp only)<;>(exact vR hM.k h0 (by have h9:=cG list;omega)))) (St.pt 1 g1)) ?_
        rintro _ ww _ wx mp mx ⟨wy,w0,w1,rfl,my,m0,rfl⟩
        obtain⟨w2,w3,rfl⟩:=my.ai
        replace hP:=hP.mono mp
        exact Op.gt 32<|At.rp 3 1 [(77,vI i)]<|Op.dQ 78 (i+1) (by omega) (by(have h9:=cG list;omega))<|Op.pg 26 [(11,vI (i+1))]<|At.ke (l3 _ (aG.trans cf (by repeat (first|assumption|apply aG.trans))) (eZ y (bV (⟨u.Client,i+1,0,⟨u.Op.Kind,u.Op.aa,u.Op.Data,u.Op.ak,u.Op.aJ,u.Op.aZ,u.Op.aN,u.Op.ah,u.Op.aH⟩,u.eG⟩:cz)) (cm (⟨u.Client,i+1,0,⟨u.Op.Kind,u.Op.aa,u.Op.Data,u.Op.ak,u.Op.aJ,u.Op.aZ,u.Op.aN,u.Op.ah,u.Op.aH⟩,u.eG⟩:cz))) (i+1) _ _ (by omega) (by omega) (by omega) (by exact hM.mB h0 (by have h9:=cG list;omega) rfl) m0 ((mx.fs [3,3,3] rfl).drop.drop))
       refine At.rp 5 2 [(93,vP a1),(94,vP Y)] ?_
       have g2:=eL.fs [1] rfl
       refine Op.cl (some 95) 1 g2 (qU _ _ _ g2.sub D Y y _ ch (by((try dsimp only)<;>(exact hM.k.ok.qT (by have h9:=cG list;omega)))) (St.pt 1 g2)) ?_
       rintro _ w7 _ xa e3 m1 ⟨xc,xf,xi,xn,xr,xt,xv,yi,yk,yn,yr,rfl,hL,e4,dk,bo,a3,ae,rfl⟩
       obtain⟨yv,y7,rfl⟩:=hL.ai
       obtain⟨y8,z1,rfl⟩:=e4.ai
       obtain⟨z2,n146,rfl⟩:=dk.ai
       obtain⟨z3,n151,rfl⟩:=bo.ai
       obtain⟨z4,n156,rfl⟩:=a3.ai
       replace D:=D.mono e3
       replace hP:=hP.mono e3
       replace G:=G.mono e3
       replace ad:=ad.mono e3
       obtain⟨z5,m2,bb,bc⟩:=aF.freeze hL (m1.fs [1] rfl)
       replace e4:=e4.mono bb
       replace dk:=dk.mono bb
       replace bo:=bo.mono bb
       replace a3:=a3.mono bb
       replace D:=D.mono bb
       replace hP:=hP.mono bb
       replace G:=G.mono bb
       replace ae:=ae.mono bb
       replace ad:=ad.mono bb
       obtain⟨z6,m3,bd,ci⟩:=aF.freeze e4 (m2.fs [1] rfl)
       replace dk:=dk.mono bd
       replace bo:=bo.mono bd
       replace a3:=a3.mono bd
       replace D:=D.mono bd
       replace hP:=hP.mono bd
       replace G:=G.mono bd
       replace bc:=bc.mono bd
       replace ae:=ae.mono bd
       replace ad:=ad.mono bd
       obtain⟨z7,m4,be,d7⟩:=aF.freeze dk (m3.fs [1] rfl)
       replace bo:=bo.mono be
       replace a3:=a3.mono be
       replace D:=D.mono be
       replace hP:=hP.mono be
       replace G:=G.mono be
       replace bc:=bc.mono be
       replace ci:=ci.mono be
       replace ae:=ae.mono be
       replace ad:=ad.mono be
       obtain⟨z8,m5,bi,g3⟩:=aF.freeze bo (m4.fs [1] rfl)
       replace a3:=a3.mono bi
       replace D:=D.mono bi
       replace hP:=hP.mono bi
       replace G:=G.mono bi
       replace bc:=bc.mono bi
       replace ci:=ci.mono bi
       replace d7:=d7.mono bi
       replace ae:=ae.mono bi
       replace ad:=ad.mono bi
       obtain⟨z9,m6,bj,m7⟩:=aF.freeze a3 (m5.fs [1] rfl)
       replace D:=D.mono bj
       replace hP:=hP.mono bj
       replace G:=G.mono bj
       replace bc:=bc.mono bj
       replace ci:=ci.mono bj
       replace d7:=d7.mono bj
       replace g3:=g3.mono bj
       replace ae:=ae.mono bj
       replace ad:=ad.mono bj
       have g4:=m6.fs [1] rfl
       refine Op.cl (some 96) 1 g4 (Lu _ _ _ g4.sub D a1 eM _ ad (cO y) _ bc _ ci _ d7 _ g3 _ m7 (by(try dsimp only)<;>exact(qf hM.k).1) (by(try dsimp only)<;>exact(qf hM.k).2.1) (by(try dsimp only)<;>exact(qf hM.k).2.2.1) (by(try dsimp only)<;>exact(qf hM.k).2.2.2.1) (by(try dsimp only)<;>exact(qf hM.k).2.2.2.2) (St.pt 1 g4)) ?_
       rintro _ A0 _ A1 e5 g5 ⟨hN,rfl,V,rfl⟩
       replace D:=D.mono e5
       replace hP:=hP.mono e5
       replace G:=G.mono e5
       replace ae:=ae.mono e5
       refine Op.pg 34 [(97,.bool (!(decide (jL (cO y)))))]<|At.c_ (!(decide (jL (cO y)))) 97 35 37 (fun hO=>?_) fun hQ=>?_
       ·replace hO:=kF (dm hO)
        exact At.gr 36 1 6 vF (hR g5.drop.drop ⟨(aS (by exact absurd (Le hM.k (by have h9:=cG list;omega)) ‹_›)),rfl⟩)
       replace hQ:=iR (dn hQ)
       refine At.rp 8 2 [(100,.agg #[vI 8,vS [],vN,vI 0,vI 0,vF,vF,vF,vL cb ops.length a0])]<|Op.c0 (some 101) (CV _ _ _ g5.sub D (⟨8,[],[],0,0,false,false,false,ops⟩:aC) _ (ay.nil _ _ _) _ G (by((try dsimp only)<;>(exact cr (UO eB (by omega)) (by decide))))) g5 ?_
       rintro _ CH _ CM d8 hT ⟨Eq,rfl,Z,rfl⟩
       obtain⟨hV,n195,rfl⟩:=Z.ai
       replace D:=D.mono d8
       replace hP:=hP.mono d8
       replace G:=G.mono d8
       replace ae:=ae.mono d8
       replace V:=V.mono d8
       refine Op.pg 38 [(13,vL hV (((aU (⟨8,[],[],0,0,false,false,false,ops⟩:aC)).1).length) n195),(14,vI ((aU (⟨8,[],[],0,0,false,false,false,ops⟩:aC)).2))]<|At.go 39 2 [(105,.bool (((aU (⟨8,[],[],0,0,false,false,false,ops⟩:aC)).2) != 0))]<|At.fn (((aU (⟨8,[],[],0,0,false,false,false,ops⟩:aC)).2)=0) 105 40 42 (fun EQ=>?_) fun Fd=>?_
       ·exact At.gr 41 1 6 vT (hR hT.drop.drop ⟨(aS (by rfl)),rfl⟩)
       refine At.rp 4 1 [(106,vP Y)] ?_
       have g6:=hT.fs [1] rfl
       refine Op.cl (some 107) 1 g6 (qU _ _ _ g6.sub D Y y _ ae (by((try dsimp only)<;>(exact hM.k.ok.qT (by have h9:=cG list;omega)))) (St.pt 1 g6)) ?_
       rintro _ Fn _ Fr d9 m8 ⟨FS,GE,GT,Ha,Hb,Hc,v218,Hd,Hk,Hm,Hn,rfl,hW,e6,dl,bs,a4,aw,rfl⟩
       obtain⟨g7,g8,rfl⟩:=hW.ai
       obtain⟨hX,n212,rfl⟩:=e6.ai
       obtain⟨hY,n217,rfl⟩:=dl.ai
       obtain⟨hZ,h2,rfl⟩:=bs.ai
       obtain⟨h3,n227,rfl⟩:=a4.ai
       replace D:=D.mono d9
       replace hP:=hP.mono d9
       replace G:=G.mono d9
       replace Z:=Z.mono d9
       replace V:=V.mono d9
       refine Op.al 15 46 qS m8 fun ib HA m9=>Op.sg 46 15 107 0 0 #[vI ((cO y).bw),vI ((cO y).bg),vL g7 (((cO y).cy).length) g8,vL hX (((cO y).cX).length) n212,vL hY (((cO y).dG).length) n217,vL hZ (((cO y).aW).length) h2,vL h3 (((cO y).cw).length) n227] m9 zt fun HB na=>Op.gt 43 ?_
       obtain⟨HI,nb,a5,X⟩:=aF.freeze hW (na.fs [2] rfl)
       replace e6:=e6.mono a5
       replace dl:=dl.mono a5
       replace bs:=bs.mono a5
       replace a4:=a4.mono a5
       replace D:=D.mono a5
       replace hP:=hP.mono a5
       replace G:=G.mono a5
       replace Z:=Z.mono a5
       replace V:=V.mono a5
       replace aw:=aw.mono a5
       obtain⟨H0,nd,a6,H1⟩:=aF.freeze e6 (nb.fs [2] rfl)
       replace dl:=dl.mono a6
       replace bs:=bs.mono a6
       replace a4:=a4.mono a6
       replace D:=D.mono a6
       replace hP:=hP.mono a6
       replace G:=G.mono a6
       replace X:=X.mono a6
       replace Z:=Z.mono a6
       replace V:=V.mono a6
       replace aw:=aw.mono a6
       obtain⟨H2,nf,bk,H3⟩:=aF.freeze dl (nd.fs [2] rfl)
       replace bs:=bs.mono bk
       replace a4:=a4.mono bk
       replace D:=D.mono bk
       replace hP:=hP.mono bk
       replace G:=G.mono bk
       replace X:=X.mono bk
       replace Z:=Z.mono bk
       replace V:=V.mono bk
       replace aw:=aw.mono bk
       obtain⟨H4,nm,bt,H5⟩:=aF.freeze bs (nf.fs [2] rfl)
       replace a4:=a4.mono bt
       replace D:=D.mono bt
       replace hP:=hP.mono bt
       replace G:=G.mono bt
       replace X:=X.mono bt
       replace Z:=Z.mono bt
       replace V:=V.mono bt
       replace aw:=aw.mono bt
       obtain⟨ih,nn,ck,Id⟩:=aF.freeze a4 (nm.fs [2] rfl)
       replace D:=D.mono ck
       replace hP:=hP.mono ck
       replace G:=G.mono ck
       replace X:=X.mono ck
       replace Z:=Z.mono ck
       replace V:=V.mono ck
       replace aw:=aw.mono ck
       obtain⟨e7,b3⟩:=St.freeze (nn)
       have O:=iQ (g:=ih) ib (.cells #[vI ((cO y).bw),vI ((cO y).bg),vL g7 (((cO y).cy).length) g8,vL hX (((cO y).cX).length) n212,vL hY (((cO y).dG).length) n217,vL hZ (((cO y).aW).length) h2,vL h3 (((cO y).cw).length) n227] 46 (0,0))
       generalize no:cQ ih _=If at e7 b3 O;clear no
       replace D:=D.mono b3
       replace hP:=hP.mono b3
       replace G:=G.mono b3
       replace X:=X.mono b3
       replace Z:=Z.mono b3
       replace V:=V.mono b3
       replace aw:=aw.mono b3
       refine At.rp 11 5 [(109,vP Y),(112,.agg #[vI client,vI 1000,vI 0,vN]),(113,vL hV (((aU (⟨8,[],[],0,0,false,false,false,ops⟩:aC)).1).length) n195)]<|Op.cl (some 114) 1 e7 (ua _ _ _ e7.sub D Y y _ aw (⟨client,1000,0,[]⟩:bu) _ (ay.nil _ _ _) _ _ Z hP (by((try dsimp only)<;>(exact hM.k.ok.wk (by have h9:=cG list;omega)))) (by((try dsimp only)<;>(exact cr (DT _) (by decide)))) (by((try dsimp only)<;>(exact hM.k.ct (by have h9:=cG list;omega)))) (by(try dsimp only)<;>exact hM.k.gN) (by((try dsimp only)<;>(exact vR hM.k h0 (by have h9:=cG list;omega)))) (St.pt 1 e7)) ?_
       rintro _ IH _ IO dp np ⟨IR,I8,g9,rfl,ii,b4,rfl⟩
       obtain⟨ik,n267,rfl⟩:=ii.ai
       replace D:=D.mono dp
       replace hP:=hP.mono dp
       replace G:=G.mono dp
       replace X:=X.mono dp
       replace V:=V.mono dp
       replace O:=dp _ _ O
       refine Op.pg 44 [(16,vL ik ((aV y (⟨client,1000,0,[]⟩:bu) ((aU (⟨8,[],[],0,0,false,false,false,ops⟩:aC)).1)).length) n267),(17,.bool (fG y (⟨client,1000,0,[]⟩:bu)))]<|At.rp 8 1 [(118,vL ik ((aV y (⟨client,1000,0,[]⟩:bu) ((aU (⟨8,[],[],0,0,false,false,false,ops⟩:aC)).1)).length) n267)] ?_
       obtain⟨Ly,il,co,nu⟩:=aF.freeze ii (np.fs [1] rfl)
       replace D:=D.mono co
       replace hP:=hP.mono co
       replace G:=G.mono co
       replace X:=X.mono co
       replace V:=V.mono co
       replace b4:=b4.mono co
       replace O:=co _ _ O
       refine Op.c0 (some 119) (Dc _ _ _ il.sub D _ _ nu (by(try dsimp only)<;>exact AL hM.k.ok)) il ?_
       rintro _ nx _ LE c3 nz ⟨LO,M2,Ne,rfl,n0,n3,oi,rfl⟩
       obtain⟨e8,e9,rfl⟩:=n0.ai
       obtain⟨dq,n285,rfl⟩:=n3.ai
       obtain⟨fa,fg,rfl⟩:=oi.ai
       replace D:=D.mono c3
       replace hP:=hP.mono c3
       replace G:=G.mono c3
       replace X:=X.mono c3
       replace V:=V.mono c3
       replace b4:=b4.mono c3
       replace O:=c3 _ _ O
       refine Op.px 3 [(120,.agg #[vI (((aY (aV y (⟨client,1000,0,[]⟩:bu) ((aU (⟨8,[],[],0,0,false,false,false,ops⟩:aC)).1))).1).Code),vI (((aY (aV y (⟨client,1000,0,[]⟩:bu) ((aU (⟨8,[],[],0,0,false,false,false,ops⟩:aC)).1))).1).bg),vI (((aY (aV y (⟨client,1000,0,[]⟩:bu) ((aU (⟨8,[],[],0,0,false,false,false,ops⟩:aC)).1))).1).At),vS (((aY (aV y (⟨client,1000,0,[]⟩:bu) ((aU (⟨8,[],[],0,0,false,false,false,ops⟩:aC)).1))).1).af.aa),vL e8 ((((aY (aV y (⟨client,1000,0,[]⟩:bu) ((aU (⟨8,[],[],0,0,false,false,false,ops⟩:aC)).1))).1).af.Data).length) e9,vI (((aY (aV y (⟨client,1000,0,[]⟩:bu) ((aU (⟨8,[],[],0,0,false,false,false,ops⟩:aC)).1))).1).af.ak),vI (((aY (aV y (⟨client,1000,0,[]⟩:bu) ((aU (⟨8,[],[],0,0,false,false,false,ops⟩:aC)).1))).1).af.aE),vI (((aY (aV y (⟨client,1000,0,[]⟩:bu) ((aU (⟨8,[],[],0,0,false,false,false,ops⟩:aC)).1))).1).af.Next),vI (((aY (aV y (⟨client,1000,0,[]⟩:bu) ((aU (⟨8,[],[],0,0,false,false,false,ops⟩:aC)).1))).1).af.aO),vL dq ((((aY (aV y (⟨client,1000,0,[]⟩:bu) ((aU (⟨8,[],[],0,0,false,false,false,ops⟩:aC)).1))).1).bF).length) n285,vL fa ((((aY (aV y (⟨client,1000,0,[]⟩:bu) ((aU (⟨8,[],[],0,0,false,false,false,ops⟩:aC)).1))).1).aW).length) fg]),(121,vI ((aY (aV y (⟨client,1000,0,[]⟩:bu) ((aU (⟨8,[],[],0,0,false,false,false,ops⟩:aC)).1))).2))]<|Op.al 18 59 ia nz fun b5 Nm oj=>Op.sg 59 18 120 0 0 #[vI (((aY (aV y (⟨client,1000,0,[]⟩:bu) ((aU (⟨8,[],[],0,0,false,false,false,ops⟩:aC)).1))).1).Code),vI (((aY (aV y (⟨client,1000,0,[]⟩:bu) ((aU (⟨8,[],[],0,0,false,false,false,ops⟩:aC)).1))).1).bg),vI (((aY (aV y (⟨client,1000,0,[]⟩:bu) ((aU (⟨8,[],[],0,0,false,false,false,ops⟩:aC)).1))).1).At),vS (((aY (aV y (⟨client,1000,0,[]⟩:bu) ((aU (⟨8,[],[],0,0,false,false,false,ops⟩:aC)).1))).1).af.aa),vL e8 ((((aY (aV y (⟨client,1000,0,[]⟩:bu) ((aU (⟨8,[],[],0,0,false,false,false,ops⟩:aC)).1))).1).af.Data).length) e9,vI (((aY (aV y (⟨client,1000,0,[]⟩:bu) ((aU (⟨8,[],[],0,0,false,false,false,ops⟩:aC)).1))).1).af.ak),vI (((aY (aV y (⟨client,1000,0,[]⟩:bu) ((aU (⟨8,[],[],0,0,false,false,false,ops⟩:aC)).1))).1).af.aE),vI (((aY (aV y (⟨client,1000,0,[]⟩:bu) ((aU (⟨8,[],[],0,0,false,false,false,ops⟩:aC)).1))).1).af.Next),vI (((aY (aV y (⟨client,1000,0,[]⟩:bu) ((aU (⟨8,[],[],0,0,false,false,false,ops⟩:aC)).1))).1).af.aO),vL dq ((((aY (aV y (⟨client,1000,0,[]⟩:bu) ((aU (⟨8,[],[],0,0,false,false,false,ops⟩:aC)).1))).1).bF).length) n285,vL fa ((((aY (aV y (⟨client,1000,0,[]⟩:bu) ((aU (⟨8,[],[],0,0,false,false,false,ops⟩:aC)).1))).1).aW).length) fg] oj zt fun NE c4=>Op.pg 45 [(14,vI ((aY (aV y (⟨client,1000,0,[]⟩:bu) ((aU (⟨8,[],[],0,0,false,false,false,ops⟩:aC)).1))).2))]<|At.rp 6 3 [(124,.bool (!(fG y (⟨client,1000,0,[]⟩:bu))))] ?_
       refine Op.wb (!(fG y (⟨client,1000,0,[]⟩:bu))) 124 (fun io=>?_) fun ip=>?_
       ·replace io:=(dm io)
        exact Op.pg 46 [(127,vT)]<|At.bX 127 47<|At.gr 48 1 6 vF (hR c4.drop.drop.drop ⟨(aS (by exact Bool.noConfusion ((AU (c:=client) hM h0 (by have h9:=cG list;omega) ⟨by omega,by omega⟩ (show(aU (dA ops)).2=0 by assumption)).1.symm.trans ‹_›))),rfl⟩)
       replace ip:=(dn ip)
       refine Op.pg 46 [(127,.bool (((aY (aV y (⟨client,1000,0,[]⟩:bu) ((aU (⟨8,[],[],0,0,false,false,false,ops⟩:aC)).1))).2) != 0))]<|At.fn (((aY (aV y (⟨client,1000,0,[]⟩:bu) ((aU (⟨8,[],[],0,0,false,false,false,ops⟩:aC)).1))).2)=0) 127 47 49 (fun Ok=>?_) fun Or=>?_
       ·exact At.gr 48 1 6 vF (hR c4.drop.drop.drop ⟨(aS (by exact absurd (AU (c:=client) hM h0 (by have h9:=cG list;omega) ⟨by omega,by omega⟩ (show(aU (dA ops)).2=0 by assumption)).2.1 ‹_›)),rfl⟩)
       refine At.rp 3 1 [(128,vP b5)]<|Op.l1 52 128 129 0 (vI (((aY (aV y (⟨client,1000,0,[]⟩:bu) ((aU (⟨8,[],[],0,0,false,false,false,ops⟩:aC)).1))).1).Code)) (c4.ag 0 rfl)<|Op.pg 50 [(130,.bool ((((aY (aV y (⟨client,1000,0,[]⟩:bu) ((aU (⟨8,[],[],0,0,false,false,false,ops⟩:aC)).1))).1).Code) != 0))]<|At.fn ((((aY (aV y (⟨client,1000,0,[]⟩:bu) ((aU (⟨8,[],[],0,0,false,false,false,ops⟩:aC)).1))).1).Code)=0) 130 51 53 (fun Os=>?_) fun Pi=>?_
       ·refine At.dw (aM [g9,hN]) [(0,true),(3,true),(4,true),(1,false),(2,true),(5,false),(6,true),(7,true),(8,false),(9,true),(10,true),(11,true),(12,true),(13,true),(14,false),(15,true),(16,true),(17,true),(19,true),(20,true),(18,false),(21,true),(22,true),(23,true),(24,true)]<|Op.px 2 [(131,vP Y),(134,vQ ib 2)]<|Op.lf 41 134 2 135 1 (vL g7 (((cO y).cy).length) g8) (c4.Ur (A:=[g9,hN]) (by simp) O) (c4.sub _ _ O) ?_
        have ha:=c4.fs [1] rfl
        refine Op.cl (some 132) 1 ha (qU _ _ _ ha.sub D Y (eZ y (⟨client,1000,0,[]⟩:bu) ((aU (⟨8,[],[],0,0,false,false,false,ops⟩:aC)).1)) _ b4 (by((try dsimp only)<;>(exact(hM.k.mB (e:=⟨client,1000,0,[]⟩) (b:=(aU (dA ops)).1) h0 (by have h9:=cG list;omega)).ok.qT (by have h9:=cG list;omega)))) (St.pt 1 ha)) ?_ (hM:=(fun _ _ h=>oD (by simp) h))
        rintro _ Pl _ Ps hb ol ⟨PH,PP,PQ,P1,P2,QP,QQ,QR,Rd,RK,R2,rfl,is,or,ow,o3,o4,So,rfl⟩
        obtain⟨pa,n310,rfl⟩:=is.ai
        obtain⟨ST,T1,rfl⟩:=or.ai
        obtain⟨T2,n320,rfl⟩:=ow.ai
        obtain⟨UV,U2,rfl⟩:=o3.ai
        obtain⟨Vk,n330,rfl⟩:=o4.ai
        replace D:=D.mono hb
        replace X:=X.mono hb
        replace O:=hb _ _ O
        refine Op.px 1 [(133,vL pa (((cO (eZ y (⟨client,1000,0,[]⟩:bu) ((aU (⟨8,[],[],0,0,false,false,false,ops⟩:aC)).1))).cy).length) n310)] ?_
        have fi:=ol.fs [1] rfl
        have iv:=fi.gi
        have pb:=is.fK fi
        refine Op.le (some 136) 0 fi (C9 _ _ _ fi.ij (D.mono iv) _ _ pb _ _ (X.mono iv) (by((try dsimp only)<;>(exact cr (uf (hM.k.mB (e:=⟨client,1000,0,[]⟩) (b:=(aU (dA ops)).1) h0 (by have h9:=cG list;omega))).1.1 (by decide)))) (by((try dsimp only)<;>(exact(uf (hM.k.mB (e:=⟨client,1000,0,[]⟩) (b:=(aU (dA ops)).1) h0 (by have h9:=cG list;omega))).1.2)))) (fun _ _ _ hp=>by obtain⟨_,c5,_⟩:=hp;exact c5) ?_ (hM:=(fun _ _ h=>absurd h (gq _)))
        rintro _ _ Vl c6 ⟨rfl,c5,rfl⟩;clear c5
        refine Op.px 1 [(137,.bool (decide (((cO (eZ y (⟨client,1000,0,[]⟩:bu) ((aU (⟨8,[],[],0,0,false,false,false,ops⟩:aC)).1))).cy)=((cO y).cy))))]<|Op.wd (((cO (eZ y (⟨client,1000,0,[]⟩:bu) ((aU (⟨8,[],[],0,0,false,false,false,ops⟩:aC)).1))).cy)=((cO y).cy)) 137 (fun Vm=>?_) fun Vn=>?_
        ·refine Op.px 1 [(138,vQ b5 9)]<|Op.l1 57 138 139 9 (vL dq ((((aY (aV y (⟨client,1000,0,[]⟩:bu) ((aU (⟨8,[],[],0,0,false,false,false,ops⟩:aC)).1))).1).bF).length) n285) (c6.ag 6 rfl)<|Op.px 4 [(143,.bool (((((aY (aV y (⟨client,1000,0,[]⟩:bu) ((aU (⟨8,[],[],0,0,false,false,false,ops⟩:aC)).1))).1).bF).length:Int)==0))]<|Op.wd (((((aY (aV y (⟨client,1000,0,[]⟩:bu) ((aU (⟨8,[],[],0,0,false,false,false,ops⟩:aC)).1))).1).bF).length:Int)=0) 143 (fun Vo=>?_) fun Vp=>?_
         ·refine Op.px 1 [(144,vP b5)]<|Op.l1 52 144 145 0 (vI (((aY (aV y (⟨client,1000,0,[]⟩:bu) ((aU (⟨8,[],[],0,0,false,false,false,ops⟩:aC)).1))).1).Code)) (c6.ag 6 rfl)<|Op.px 2 [(147,.bool ((((aY (aV y (⟨client,1000,0,[]⟩:bu) ((aU (⟨8,[],[],0,0,false,false,false,ops⟩:aC)).1))).1).Code)==120))]<|Op.wd ((((aY (aV y (⟨client,1000,0,[]⟩:bu) ((aU (⟨8,[],[],0,0,false,false,false,ops⟩:aC)).1))).1).Code)=120) 147 (fun Vq=>?_) fun Vr=>?_
          ·exact Op.pr 52 6 vT (hR c6.drop.drop.drop.drop.drop.drop.drop.drop ⟨(aS (by rfl)),rfl⟩)
          exact Op.px 3 [(148,vQ b5 2),(151,vI (ops.length:Int))]<|Op.l1 3 148 149 2 (vI (((aY (aV y (⟨client,1000,0,[]⟩:bu) ((aU (⟨8,[],[],0,0,false,false,false,ops⟩:aC)).1))).1).At)) (c6.ag 6 rfl)<|Op.pr 52 6 (.bool (decide ((((aY (aV y (⟨client,1000,0,[]⟩:bu) ((aU (⟨8,[],[],0,0,false,false,false,ops⟩:aC)).1))).1).At)<(ops.length:Int)))) (hR c6.drop.drop.drop.drop.drop.drop.drop.drop ⟨(aS (by exact eW ((EO hM h0 (by have h9:=cG list;omega) ⟨by omega,by omega⟩ (show(aU (dA ops)).2=0 by assumption) rfl (show ¬(mulR y client ops).Code=0 by assumption)).2.2.resolve_left ‹_›))),rfl⟩)
         exact Op.pr 52 6 vF (hR c6.drop.drop.drop.drop.drop.drop.drop.drop ⟨(aS (by exact absurd (congrArg (fun l=>(List.length l:Int)) (EO hM h0 (by have h9:=cG list;omega) ⟨by omega,by omega⟩ (show(aU (dA ops)).2=0 by assumption) rfl (show ¬(mulR y client ops).Code=0 by assumption)).2.1) ‹_›)),rfl⟩)
        exact Op.pr 52 6 vF (hR c6.drop.drop.drop.drop.drop.drop.drop.drop ⟨(aS (by exact absurd (EO hM h0 (by have h9:=cG list;omega) ⟨by omega,by omega⟩ (show(aU (dA ops)).2=0 by assumption) rfl (show ¬(mulR y client ops).Code=0 by assumption)).1 ‹_›)),rfl⟩)
       refine At.go 54 1 [(19,vI 0)] ?_
       have pc:∀(m:Nat) (fj:GH) (c8:aG nx fj) (t:Sp) (j:Int) (he:au) (hf:av) (hm:ops.length-j.toNat<m) (h4:0≤j) (h5:j≤ops.length) (am:qW (4*i) client (qX y client) t ops j.toNat) (bm:bB fj a1 t he) (ea:St h g (aM []) fj [[(b5,Obj.cells #[vI (((aY (aV y (⟨client,1000,0,[]⟩:bu) ((aU (⟨8,[],[],0,0,false,false,false,ops⟩:aC)).1))).1).Code),vI (((aY (aV y (⟨client,1000,0,[]⟩:bu) ((aU (⟨8,[],[],0,0,false,false,false,ops⟩:aC)).1))).1).bg),vI (((aY (aV y (⟨client,1000,0,[]⟩:bu) ((aU (⟨8,[],[],0,0,false,false,false,ops⟩:aC)).1))).1).At),vS (((aY (aV y (⟨client,1000,0,[]⟩:bu) ((aU (⟨8,[],[],0,0,false,false,false,ops⟩:aC)).1))).1).af.aa),vL e8 ((((aY (aV y (⟨client,1000,0,[]⟩:bu) ((aU (⟨8,[],[],0,0,false,false,false,ops⟩:aC)).1))).1).af.Data).length) e9,vI (((aY (aV y (⟨client,1000,0,[]⟩:bu) ((aU (⟨8,[],[],0,0,false,false,false,ops⟩:aC)).1))).1).af.ak),vI (((aY (aV y (⟨client,1000,0,[]⟩:bu) ((aU (⟨8,[],[],0,0,false,false,false,ops⟩:aC)).1))).1).af.aE),vI (((aY (aV y (⟨client,1000,0,[]⟩:bu) ((aU (⟨8,[],[],0,0,false,false,false,ops⟩:aC)).1))).1).af.Next),vI (((aY (aV y (⟨client,1000,0,[]⟩:bu) ((aU (⟨8,[],[],0,0,false,false,false,ops⟩:aC)).1))).1).af.aO),vL dq ((((aY (aV y (⟨client,1000,0,[]⟩:bu) ((aU (⟨8,[],[],0,0,false,false,false,ops⟩:aC)).1))).1).bF).length) n285,vL fa ((((aY (aV y (⟨client,1000,0,[]⟩:bu) ((aU (⟨8,[],[],0,0,false,false,false,ops⟩:aC)).1))).1).aW).length) fg] 59 (0,0))],g9,he] hf),At (bS prog B 4 f4 R) [] 54 [(1,vI client),(2,vL cb ops.length a0),(8,vP Y),(9,vP a1),(10,vI 0),(18,vP b5),(19,vI j)] hf:=by
        intro m;induction m with
        |zero=>intros;omega
        |succ m pd=>
         intro fj c8 t j he hf hm h4 h5 am bm ea
         replace D:=D.mono c8
         replace hP:=hP.mono c8
         replace G:=G.mono c8
         replace b4:=b4.mono c8
         replace O:=c8 _ _ O
         refine At.go 55 4 [(158,.bool (decide (j<(ops.length:Int))))]<|At.fd (j<(ops.length:Int)) 158 56 68 (fun Vs=>?_) fun Vt=>?_
         ·refine At.rp 11 2 [(162,vL cb ops.length a0),(163,vI j)] ?_
          obtain⟨I,b6⟩:=cD ops j
          obtain⟨pf,i0,Vu,Vv,ph,eb,ed⟩:=ay.br G _ b6
          cases ph
          refine Op.iq 34 36 9 96 ops.length a0 162 163 164 pf i0 j ?_
          replace ed:=mP.1 ed
          obtain⟨Vw,Vx,i1,i2,ed⟩:=ed
          obtain⟨pj,pl,rfl⟩:=i1.ai
          obtain⟨pm,po,rfl⟩:=i2.ai
          refine Op.la 36 164 165 (i0+j.toNat*9) 9 [vI I.Kind,vS I.aa,vL pj I.Data.length pl,vI I.ak,vI I.aJ,.bool I.aZ,.bool I.aN,.bool I.ah,vL pm I.aH.length po] (ea.sub _ _ eb) ?_ (hv:=ed)
          refine Op.c0 (some 166) (La _ _ _ ea.sub D I _ i1 _ i2 2 (by((try dsimp only)<;>((have h9:=eB _ (cL b6);omega)))) (by(try dsimp only)<;>exact⟨by decide,by decide⟩)) ea ?_
          rintro _ Vy _ Vz ee i3 ⟨VA,VB,rfl,i4,i5,rfl⟩
          obtain⟨VC,VD,rfl⟩:=i4.ai
          obtain⟨VE,VF,rfl⟩:=i5.ai
          replace eb:=ee _ _ eb
          replace D:=D.mono ee
          replace hP:=hP.mono ee
          replace bm:=bm.mono ee
          replace O:=ee _ _ O
          refine Op.c0 (some 167) (CV _ _ _ i3.sub D (bG I (2)) _ i4 _ i5 (by((try dsimp only)<;>(exact K4 (by have h9:=eB _ (cL b6);omega))))) i3 ?_
          rintro _ VG _ VH ef i6 ⟨VI,rfl,i7,rfl⟩
          obtain⟨i8,i9,rfl⟩:=i7.ai
          replace eb:=ef _ _ eb
          replace D:=D.mono ef
          replace hP:=hP.mono ef
          replace bm:=bm.mono ef
          replace O:=ef _ _ O
          refine Op.pg 57 [(20,vL i8 (((aU (bG I (2))).1).length) i9),(21,vI ((aU (bG I (2))).2))]<|At.go 58 2 [(171,.bool (((aU (bG I (2))).2) != 0))]<|At.fn (((aU (bG I (2))).2)=0) 171 59 61 (fun VJ=>?_) fun VK=>?_
          ·exact At.gr 60 1 6 vF (hR i6.drop.drop.drop ⟨(aS (by exact absurd (yj am (by omega) (by have h9:=cG list;omega) ⟨by omega,by omega⟩ (show(aU (dA ops)).2=0 by assumption) (qh hM h0 (by have h9:=cG list;omega) ⟨by omega,by omega⟩ (show(aU (dA ops)).2=0 by assumption) rfl (show(mulR y client ops).Code=0 by assumption)).2.2.2 h4 b6 hS).1 ‹_›)),rfl⟩)
          refine At.rp 13 3 [(173,vP a1),(174,vI client),(175,vI j)]<|Op.vq 176 ((1000:Int)+j)<|Op.px 3 [(178,.agg #[vI client,vI ((1000:Int)+j),vI 0,vN]),(179,vL i8 (((aU (bG I (2))).1).length) i9)] ?_
          have hh:=i6.fs [1,1,2] rfl
          refine Op.cl (some 180) 1 hh (ua _ _ _ hh.sub D a1 t _ bm (⟨client,(1000:Int)+j,0,[]⟩:bu) _ (ay.nil _ _ _) _ _ i7 hP (by((try dsimp only)<;>(exact(vX am (by omega) (by have h9:=cG list;omega) h4 h5 (by omega)).1.wk (by omega)))) (by((try dsimp only)<;>(exact cr (DT _) (by decide)))) (by((try dsimp only)<;>(exact UL (vX am (by omega) (by have h9:=cG list;omega) h4 h5 (by omega))))) (by((try dsimp only)<;>(exact UM (vX am (by omega) (by have h9:=cG list;omega) h4 h5 (by omega))))) (by((try dsimp only)<;>(exact UN (vX am (by omega) (by have h9:=cG list;omega) h4 h5 (by omega))))) (St.pt 1 hh)) ?_
          rintro _ VL _ VM hj pu ⟨VN,VO,VP,rfl,jf,eh,rfl⟩
          obtain⟨jj,jn,rfl⟩:=jf.ai
          replace D:=D.mono hj
          replace hP:=hP.mono hj
          replace O:=hj _ _ O
          refine Op.pg 62 [(22,vL jj ((aV t (⟨client,(1000:Int)+j,0,[]⟩:bu) ((aU (bG I (2))).1)).length) jn),(23,.bool (fG t (⟨client,(1000:Int)+j,0,[]⟩:bu)))]<|At.rp 8 1 [(184,vL jj ((aV t (⟨client,(1000:Int)+j,0,[]⟩:bu) ((aU (bG I (2))).1)).length) jn)] ?_
          obtain⟨VQ,js,fl,pv⟩:=aF.freeze jf (pu.fs [1] rfl)
          replace D:=D.mono fl
          replace hP:=hP.mono fl
          replace eh:=eh.mono fl
          replace O:=fl _ _ O
          refine Op.c0 (some 185) (Dc _ _ _ js.sub D _ _ pv (by((try dsimp only)<;>(exact AL (vX am (by omega) (by have h9:=cG list;omega) h4 h5 (by omega)).1)))) js ?_
          rintro _ VR _ VS hn pw ⟨VT,VU,VV,rfl,py,pA,pB,rfl⟩
          obtain⟨jt,j1,rfl⟩:=py.ai
          obtain⟨j2,kc,rfl⟩:=pA.ai
          obtain⟨kd,kh,rfl⟩:=pB.ai
          replace hP:=hP.mono hn
          replace eh:=eh.mono hn
          replace O:=hn _ _ O
          refine Op.px 3 [(186,.agg #[vI (((aY (aV t (⟨client,(1000:Int)+j,0,[]⟩:bu) ((aU (bG I (2))).1))).1).Code),vI (((aY (aV t (⟨client,(1000:Int)+j,0,[]⟩:bu) ((aU (bG I (2))).1))).1).bg),vI (((aY (aV t (⟨client,(1000:Int)+j,0,[]⟩:bu) ((aU (bG I (2))).1))).1).At),vS (((aY (aV t (⟨client,(1000:Int)+j,0,[]⟩:bu) ((aU (bG I (2))).1))).1).af.aa),vL jt ((((aY (aV t (⟨client,(1000:Int)+j,0,[]⟩:bu) ((aU (bG I (2))).1))).1).af.Data).length) j1,vI (((aY (aV t (⟨client,(1000:Int)+j,0,[]⟩:bu) ((aU (bG I (2))).1))).1).af.ak),vI (((aY (aV t (⟨client,(1000:Int)+j,0,[]⟩:bu) ((aU (bG I (2))).1))).1).af.aE),vI (((aY (aV t (⟨client,(1000:Int)+j,0,[]⟩:bu) ((aU (bG I (2))).1))).1).af.Next),vI (((aY (aV t (⟨client,(1000:Int)+j,0,[]⟩:bu) ((aU (bG I (2))).1))).1).af.aO),vL j2 ((((aY (aV t (⟨client,(1000:Int)+j,0,[]⟩:bu) ((aU (bG I (2))).1))).1).bF).length) kc,vL kd ((((aY (aV t (⟨client,(1000:Int)+j,0,[]⟩:bu) ((aU (bG I (2))).1))).1).aW).length) kh]),(187,vI ((aY (aV t (⟨client,(1000:Int)+j,0,[]⟩:bu) ((aU (bG I (2))).1))).2))]<|Op.al 24 59 ia pw fun pC VW pD=>Op.sg 59 24 186 0 0 #[vI (((aY (aV t (⟨client,(1000:Int)+j,0,[]⟩:bu) ((aU (bG I (2))).1))).1).Code),vI (((aY (aV t (⟨client,(1000:Int)+j,0,[]⟩:bu) ((aU (bG I (2))).1))).1).bg),vI (((aY (aV t (⟨client,(1000:Int)+j,0,[]⟩:bu) ((aU (bG I (2))).1))).1).At),vS (((aY (aV t (⟨client,(1000:Int)+j,0,[]⟩:bu) ((aU (bG I (2))).1))).1).af.aa),vL jt ((((aY (aV t (⟨client,(1000:Int)+j,0,[]⟩:bu) ((aU (bG I (2))).1))).1).af.Data).length) j1,vI (((aY (aV t (⟨client,(1000:Int)+j,0,[]⟩:bu) ((aU (bG I (2))).1))).1).af.ak),vI (((aY (aV t (⟨client,(1000:Int)+j,0,[]⟩:bu) ((aU (bG I (2))).1))).1).af.aE),vI (((aY (aV t (⟨client,(1000:Int)+j,0,[]⟩:bu) ((aU (bG I (2))).1))).1).af.Next),vI (((aY (aV t (⟨client,(1000:Int)+j,0,[]⟩:bu) ((aU (bG I (2))).1))).1).af.aO),vL j2 ((((aY (aV t (⟨client,(1000:Int)+j,0,[]⟩:bu) ((aU (bG I (2))).1))).1).bF).length) kc,vL kd ((((aY (aV t (⟨client,(1000:Int)+j,0,[]⟩:bu) ((aU (bG I (2))).1))).1).aW).length) kh] pD zt fun VX ej=>Op.pg 63 [(21,vI ((aY (aV t (⟨client,(1000:Int)+j,0,[]⟩:bu) ((aU (bG I (2))).1))).2))]<|At.rp 11 3 [(190,.bool (!(fG t (⟨client,(1000:Int)+j,0,[]⟩:bu))))] ?_
          refine Op.wb (!(fG t (⟨client,(1000:Int)+j,0,[]⟩:bu))) 190 (fun kk=>?_) fun kl=>?_
          ·replace kk:=(dm kk)
           exact Op.pg 64 [(198,vT)]<|At.bX 198 65<|At.gr 66 1 6 vF (hR ej.drop.drop.drop.drop ⟨(aS (by exact Bool.noConfusion ((yj am (by omega) (by have h9:=cG list;omega) ⟨by omega,by omega⟩ (show(aU (dA ops)).2=0 by assumption) (qh hM h0 (by have h9:=cG list;omega) ⟨by omega,by omega⟩ (show(aU (dA ops)).2=0 by assumption) rfl (show(mulR y client ops).Code=0 by assumption)).2.2.2 h4 b6 hS).2.1.symm.trans ‹_›))),rfl⟩)
          replace kl:=(dn kl)
          refine Op.px 4 [(194,.bool (((aY (aV t (⟨client,(1000:Int)+j,0,[]⟩:bu) ((aU (bG I (2))).1))).2) != 0))]<|Op.wb (((aY (aV t (⟨client,(1000:Int)+j,0,[]⟩:bu) ((aU (bG I (2))).1))).2) != 0) 194 (fun km=>?_) fun kv=>?_
          ·replace km:=jO km
           exact Op.pg 64 [(198,vT)]<|At.bX 198 65<|At.gr 66 1 6 vF (hR ej.drop.drop.drop.drop ⟨(aS (by exact absurd (yj am (by omega) (by have h9:=cG list;omega) ⟨by omega,by omega⟩ (show(aU (dA ops)).2=0 by assumption) (qh hM h0 (by have h9:=cG list;omega) ⟨by omega,by omega⟩ (show(aU (dA ops)).2=0 by assumption) rfl (show(mulR y client ops).Code=0 by assumption)).2.2.2 h4 b6 hS).2.2.1 ‹_›)),rfl⟩)
          replace kv:=l6 kv
          refine Op.px 1 [(195,vP pC)]<|Op.l1 52 195 196 0 (vI (((aY (aV t (⟨client,(1000:Int)+j,0,[]⟩:bu) ((aU (bG I (2))).1))).1).Code)) (ej.ag 0 rfl)<|Op.pg 64 [(198,.bool ((((aY (aV t (⟨client,(1000:Int)+j,0,[]⟩:bu) ((aU (bG I (2))).1))).1).Code) != 0))]<|At.fn ((((aY (aV t (⟨client,(1000:Int)+j,0,[]⟩:bu) ((aU (bG I (2))).1))).1).Code)=0) 198 65 67 (fun VY=>?_) fun VZ=>?_
          ·exact At.gr 66 1 6 vF (hR ej.drop.drop.drop.drop ⟨(aS (by exact absurd (yj am (by omega) (by have h9:=cG list;omega) ⟨by omega,by omega⟩ (show(aU (dA ops)).2=0 by assumption) (qh hM h0 (by have h9:=cG list;omega) ⟨by omega,by omega⟩ (show(aU (dA ops)).2=0 by assumption) rfl (show(mulR y client ops).Code=0 by assumption)).2.2.2 h4 b6 hS).2.2.2.1 ‹_›)),rfl⟩)
          exact At.rp 3 1 [(159,vI j)]<|Op.vq 160 (j+1)<|Op.pg 54 [(19,vI (j+1))]<|At.ke (pd _ (aG.trans c8 (by repeat (first|assumption|apply aG.trans))) (eZ t (⟨client,(1000:Int)+j,0,[]⟩:bu) ((aU (bG I (2))).1)) (j+1) _ _ (by omega) (by omega) (by omega) (by exact(yj am (by omega) (by have h9:=cG list;omega) ⟨by omega,by omega⟩ (show(aU (dA ops)).2=0 by assumption) (qh hM h0 (by have h9:=cG list;omega) ⟨by omega,by omega⟩ (show(aU (dA ops)).2=0 by assumption) rfl (show(mulR y client ops).Code=0 by assumption)).2.2.2 h4 b6 hS).2.2.2.2) eh ((ej.fs [1,3,3,3] rfl).drop))
         refine At.rp 4 1 [(199,vP Y)] ?_
         have hr:=ea.fs [1] rfl
         refine Op.cl (some 200) 1 hr (qU _ _ _ hr.sub D Y (eZ y (⟨client,1000,0,[]⟩:bu) ((aU (⟨8,[],[],0,0,false,false,false,ops⟩:aC)).1)) _ b4 (by((try dsimp only)<;>(exact(hM.k.mB (e:=⟨client,1000,0,[]⟩) (b:=(aU (dA ops)).1) h0 (by have h9:=cG list;omega)).ok.qT (by have h9:=cG list;omega)))) (St.pt 1 hr)) ?_
         rintro _ V0 _ V1 fp p0 ⟨V2,V3,V4,p1,V5,p2,V6,p3,V7,p8,qr,rfl,fr,q0,q1,q2,q3,V8,rfl⟩
         obtain⟨rb,rc,rfl⟩:=fr.ai
         obtain⟨V9,V_,rfl⟩:=q0.ai
         obtain⟨Wa,Wb,rfl⟩:=q1.ai
         obtain⟨Wc,Wd,rfl⟩:=q2.ai
         obtain⟨We,Wf,rfl⟩:=q3.ai
         replace D:=D.mono fp
         replace hP:=hP.mono fp
         replace bm:=bm.mono fp
         replace O:=fp _ _ O
         refine Op.pg 69 [(25,vL rb (((cO (eZ y (⟨client,1000,0,[]⟩:bu) ((aU (⟨8,[],[],0,0,false,false,false,ops⟩:aC)).1))).cy).length) rc)]<|At.rp 4 1 [(202,vP a1)] ?_
         have hs:=p0.fs [6,6,6,6,6,6,6,7] rfl
         refine Op.cl (some 203) 1 hs (qU _ _ _ hs.sub D a1 t _ bm (by((try dsimp only)<;>(exact(vX am (by omega) (by have h9:=cG list;omega) h4 h5 (by omega)).1.qT (by omega)))) (St.pt 1 hs)) ?_
         rintro _ rd _ Wg ft fv ⟨Wh,Wi,Wj,re,Wk,rf,Wl,rh,Wm,rk,rr,rfl,kw,rv,rx,r0,r1,Wn,rfl⟩
         obtain⟨r2,r3,rfl⟩:=kw.ai
         obtain⟨Wo,Wp,rfl⟩:=rv.ai
         obtain⟨Wq,Wr,rfl⟩:=rx.ai
         obtain⟨Ws,Wt,rfl⟩:=r0.ai
         obtain⟨Wu,Wv,rfl⟩:=r1.ai
         replace fr:=fr.mono ft
         replace D:=D.mono ft
         replace hP:=hP.mono ft
         replace O:=ft _ _ O
         refine Op.pg 70 [(26,vL r2 (((cO t).cy).length) r3)]<|At.rp 13 6 [(210,.bool ((((cO (eZ y (⟨client,1000,0,[]⟩:bu) ((aU (⟨8,[],[],0,0,false,false,false,ops⟩:aC)).1))).cy).length:Int) != (((cO t).cy).length:Int)))]<|Op.wb ((((cO (eZ y (⟨client,1000,0,[]⟩:bu) ((aU (⟨8,[],[],0,0,false,false,false,ops⟩:aC)).1))).cy).length:Int) != (((cO t).cy).length:Int)) 210 (fun kx=>?_) fun kA=>?_
         ·replace kx:=jO kx
          exact Op.pg 71 [(217,vT)]<|At.bX 217 72<|At.gr 73 1 6 vF (hR fv.drop.drop.drop.drop.drop.drop.drop.drop.drop.drop.drop.drop.drop ⟨(aS (by exact absurd (congrArg (fun(q:Nat)=>(q:Int)) (L_ (EP am ‹_› (qh hM h0 (by have h9:=cG list;omega) ⟨by omega,by omega⟩ (show(aU (dA ops)).2=0 by assumption) rfl (show(mulR y client ops).Code=0 by assumption)).2.1))) ‹_›)),rfl⟩)
         replace kA:=l6 kA
         refine Op.px 1 [(211,vQ b5 9)]<|Op.l1 57 211 212 9 (vL dq ((((aY (aV y (⟨client,1000,0,[]⟩:bu) ((aU (⟨8,[],[],0,0,false,false,false,ops⟩:aC)).1))).1).bF).length) n285) (fv.ag 12 rfl)<|Op.pg 71 [(217,.bool (((((aY (aV y (⟨client,1000,0,[]⟩:bu) ((aU (⟨8,[],[],0,0,false,false,false,ops⟩:aC)).1))).1).bF).length:Int) != (ops.length:Int)))]<|At.fn (((((aY (aV y (⟨client,1000,0,[]⟩:bu) ((aU (⟨8,[],[],0,0,false,false,false,ops⟩:aC)).1))).1).bF).length:Int)=(ops.length:Int)) 217 72 74 (fun Ww=>?_) fun Wx=>?_
         ·exact At.gr 73 1 6 vF (hR fv.drop.drop.drop.drop.drop.drop.drop.drop.drop.drop.drop.drop.drop ⟨(aS (by exact absurd (congrArg (fun(q:Nat)=>(q:Int)) (qh hM h0 (by have h9:=cG list;omega) ⟨by omega,by omega⟩ (show(aU (dA ops)).2=0 by assumption) rfl (show(mulR y client ops).Code=0 by assumption)).1) ‹_›)),rfl⟩)
         refine At.go 75 1 [(27,vI 0)] ?_
         have sc:∀(m:Nat) (em:GH) (en:aG rd em) (ra:List af) (ab:List af) (q:Int) (eo:Option Addr) (a7:Nat) (du:au) (c9:Option Addr) (a8:Nat) (dv:au) (hu:av) (hm:ra.length-q.toNat<m) (h6:0≤q) (h7:q≤ra.length) (dC:ra=mY q.toNat (cO (eZ y ⟨client,1000,0,[]⟩ (aU (dA ops)).1)).cy) (hw:ab=mY q.toNat (cO t).cy) (hlc:ra.length=ab.length) (fw:aF 56 kJ em (.slice eo ra.length a7) ra du) (fx:aF 56 kJ em (.slice c9 ab.length a8) ab dv) (ep:St h g (aM []) em [rr,dv,re,rf,rh,rk,qr,du,p1,p2,p3,p8,[(b5,Obj.cells #[vI (((aY (aV y (⟨client,1000,0,[]⟩:bu) ((aU (⟨8,[],[],0,0,false,false,false,ops⟩:aC)).1))).1).Code),vI (((aY (aV y (⟨client,1000,0,[]⟩:bu) ((aU (⟨8,[],[],0,0,false,false,false,ops⟩:aC)).1))).1).bg),vI (((aY (aV y (⟨client,1000,0,[]⟩:bu) ((aU (⟨8,[],[],0,0,false,false,false,ops⟩:aC)).1))).1).At),vS (((aY (aV y (⟨client,1000,0,[]⟩:bu) ((aU (⟨8,[],[],0,0,false,false,false,ops⟩:aC)).1))).1).af.aa),vL e8 ((((aY (aV y (⟨client,1000,0,[]⟩:bu) ((aU (⟨8,[],[],0,0,false,false,false,ops⟩:aC)).1))).1).af.Data).length) e9,vI (((aY (aV y (⟨client,1000,0,[]⟩:bu) ((aU (⟨8,[],[],0,0,false,false,false,ops⟩:aC)).1))).1).af.ak),vI (((aY (aV y (⟨client,1000,0,[]⟩:bu) ((aU (⟨8,[],[],0,0,false,false,false,ops⟩:aC)).1))).1).af.aE),vI (((aY (aV y (⟨client,1000,0,[]⟩:bu) ((aU (⟨8,[],[],0,0,false,false,false,ops⟩:aC)).1))).1).af.Next),vI (((aY (aV y (⟨client,1000,0,[]⟩:bu) ((aU (⟨8,[],[],0,0,false,false,false,ops⟩:aC)).1))).1).af.aO),vL dq ((((aY (aV y (⟨client,1000,0,[]⟩:bu) ((aU (⟨8,[],[],0,0,false,false,false,ops⟩:aC)).1))).1).bF).length) n285,vL fa ((((aY (aV y (⟨client,1000,0,[]⟩:bu) ((aU (⟨8,[],[],0,0,false,false,false,ops⟩:aC)).1))).1).aW).length) fg] 59 (0,0))]] hu),At (bS prog B 4 f4 R) [] 75 [(25,vL eo ra.length a7),(26,vL c9 ab.length a8),(27,vI q)] hu:=by
          intro m;induction m with
          |zero=>intros;omega
          |succ m sd=>
           intro em en ra ab q eo a7 du c9 a8 dv hu hm h6 h7 dC hw hlc fw fx ep
           replace D:=D.mono en
           replace hP:=hP.mono en
           replace O:=en _ _ O
           refine At.go 76 4 [(221,.bool (decide (q<(ra.length:Int))))]<|At.fd (q<(ra.length:Int)) 221 77 80 (fun Wy=>?_) fun Wz=>?_
           ·refine At.rp 5 2 [(224,vL eo ra.length a7),(225,vI q)] ?_
            obtain⟨J,f0⟩:=cD ra q
            obtain⟨b8,ca,WA,WB,sf,sh,f1⟩:=ig.br (fw.toH ep 7 rfl) _ f0
            cases sf
            refine Op.iq 41 56 6 72 ra.length a7 224 225 226 b8 ca q ?_
            obtain⟨WC,k0,f1⟩:=f1
            obtain⟨k1,k2,rfl⟩:=k0.ai
            refine Op.px 1 [(227,vQ b8 (ca+q.toNat*6+5))] ?_
            obtain⟨_,_,WD,k3,WE,sk,sm,k4,so,hx,ss⟩:=fw.cases (Ag (gO _) (dL.1 f0).1)
            cases sk;subst sm
            have k5:=(ep.ag 7 rfl).symm.trans sh;simp only[eN,Obj.cells.injEq] at k5;rw[←k5.1] at f1
            have k6:=(dL.1 f0).1
            have k7:=iC 6 (cr (Da k6) (cr (Db _ _) (Ah k4)))
            refine Op.store (T:=3) (x:=227) (y:=(.const (vI 0))) (b:=b8) (o:=ca+q.toNat*6+5) (vs:=[vI 0]) (a?:=false) (n:=1) (by kernel_rfl) (by kernel_rfl) (by kernel_rfl) (by kernel_rfl) rfl (by simp[Value.oneCell']) ep 7 rfl (by simp only[kZ] at k7;simp only[show kJ.sz=6 from rfl] at hx;omega) (cs:=k3) (cs':=splice k3 (ca+q.toNat*6) [vS J.aa,vL k1 J.Data.length k2,vI J.ak,vI J.aE,vI J.Next,vI 0]) (LG f1 5 (vs:=[vI 0]) rfl (jb rfl) (by simp only[kZ] at k7;simp only[show kJ.sz=6 from rfl] at hx ⊢;omega)) zt fun WF hy=>?_
            have sA:=aF.put (T:=56) (b:=b8) k4 so hx ss _ k6 (x:=(⟨J.aa,J.Data,J.ak,J.aE,J.Next,0⟩:af)) (vs:=[vS J.aa,vL k1 J.Data.length k2,vI J.ak,vI J.aE,vI J.Next,vI 0]) ⟨_,k0,rfl⟩
            refine Op.kp [(25,vL (some ⟨b8,ca,none⟩) ra.length a7),(26,vL c9 ab.length a8),(27,vI q)]<|Op.cast (e':=[(25,vL (some ⟨b8,ca,none⟩) ((ra.set q.toNat (⟨J.aa,J.Data,J.ak,J.aE,J.Next,0⟩:af)).length) a7),(26,vL c9 ab.length a8),(27,vI q)]) (by simp only[r9])<|Op.gt 78<|At.rp 5 2 [(228,vL c9 ab.length a8),(229,vI q)] ?_
            obtain⟨U,f2⟩:=cD ab q
            obtain⟨dE,dT,WG,WH,sB,sT,f3⟩:=ig.br (fx.toH hy 1 rfl) _ f2
            cases sB
            refine Op.iq 41 56 6 72 ab.length a8 228 229 230 dE dT q ?_
            obtain⟨WI,k8,f3⟩:=f3
            obtain⟨lb,lc,rfl⟩:=k8.ai
            refine Op.px 1 [(231,vQ dE (dT+q.toNat*6+5))] ?_
            obtain⟨_,_,WJ,lh,WK,s0,s2,li,s3,hz,s4⟩:=fx.cases (Ag (gO _) (dL.1 f2).1)
            cases s0;subst s2
            have lj:=(hy.ag 1 rfl).symm.trans sT;simp only[eN,Obj.cells.injEq] at lj;rw[←lj.1] at f3
            have lk:=(dL.1 f2).1
            have ll:=iC 6 (cr (Da lk) (cr (Db _ _) (Ah li)))
            refine Op.store (T:=3) (x:=231) (y:=(.const (vI 0))) (b:=dE) (o:=dT+q.toNat*6+5) (vs:=[vI 0]) (a?:=false) (n:=1) (by kernel_rfl) (by kernel_rfl) (by kernel_rfl) (by kernel_rfl) rfl (by simp[Value.oneCell']) hy 1 rfl (by simp only[kZ] at ll;simp only[show kJ.sz=6 from rfl] at hz;omega) (cs:=lh) (cs':=splice lh (dT+q.toNat*6) [vS U.aa,vL lb U.Data.length lc,vI U.ak,vI U.aE,vI U.Next,vI 0]) (LG f3 5 (vs:=[vI 0]) rfl (jb rfl) (by simp only[kZ] at ll;simp only[show kJ.sz=6 from rfl] at hz ⊢;omega)) zt fun WL s8=>?_
            have ta:=aF.put (T:=56) (b:=dE) li s3 hz s4 _ lk (x:=(⟨U.aa,U.Data,U.ak,U.aE,U.Next,0⟩:af)) (vs:=[vS U.aa,vL lb U.Data.length lc,vI U.ak,vI U.aE,vI U.Next,vI 0]) ⟨_,k8,rfl⟩
            refine Op.kp [(25,vL (some ⟨b8,ca,none⟩) ((ra.set q.toNat (⟨J.aa,J.Data,J.ak,J.aE,J.Next,0⟩:af)).length) a7),(26,vL (some ⟨dE,dT,none⟩) ab.length a8),(27,vI q)]<|Op.cast (e':=[(25,vL (some ⟨b8,ca,none⟩) ((ra.set q.toNat (⟨J.aa,J.Data,J.ak,J.aE,J.Next,0⟩:af)).length) a7),(26,vL (some ⟨dE,dT,none⟩) ((ab.set q.toNat (⟨U.aa,U.Data,U.ak,U.aE,U.Next,0⟩:af)).length) a8),(27,vI q)]) (by simp only[r9])<|Op.gt 79<|At.rp 3 1 [(222,vI q)]<|Op.dQ 223 (q+1) (by omega) (by(have h9:=congrArg List.length dC;rw[AV] at h9;have h8:=(uf (hM.k.mB (e:=⟨client,1000,0,[]⟩) (b:=(aU (dA ops)).1) h0 (by have h9:=cG list;omega))).1.1;omega)) ?_
            exact Op.pg 75 [(27,vI (q+1))] (At.ke (sd _ en (ra.set q.toNat (⟨J.aa,J.Data,J.ak,J.aE,J.Next,0⟩:af)) (ab.set q.toNat (⟨U.aa,U.Data,U.ak,U.aE,U.Next,0⟩:af)) (q+1) _ _ _ _ _ _ _ (by(simp only[r9];omega)) (by omega) (by(rw[r9];omega)) (by exact Mb dC h6 f0) (by exact Mb hw h6 f2) (by(rw[r9,r9];exact hlc)) sA ta s8))
           refine At.rp 4 2 [(232,vL eo ra.length a7),(233,vL c9 ab.length a8)] ?_
           have er:=St.mg 2 (ep.fs [6,6,6,6,6,5,6,7] rfl)
           have te:=er.gi
           have ti:=fw.lp (c:=(du++dv:au)) er (by intro p hp;simp only[cU,hp,g_,hU])
           have tk:=fx.lp (c:=(du++dv:au)) er (by intro p hp;simp only[cU,hp,g_,hU])
           refine Op.le (some 234) 0 er (C9 _ _ _ er.ij (D.mono te) _ _ ti _ _ tk (by((try dsimp only)<;>((have h9:=congrArg List.length dC;rw[AV] at h9;have h8:=(uf (hM.k.mB (e:=⟨client,1000,0,[]⟩) (b:=(aU (dA ops)).1) h0 (by have h9:=cG list;omega))).1.1;omega)))) (by((try dsimp only)<;>(exact UT dC (uf (hM.k.mB (e:=⟨client,1000,0,[]⟩) (b:=(aU (dA ops)).1) h0 (by have h9:=cG list;omega))).1.2)))) (fun _ _ _ hp=>by obtain⟨_,c5,_⟩:=hp;exact c5) ?_ (hM:=(fun _ _ h=>absurd h (gq _)))
           rintro _ _ WM tl ⟨rfl,c5,rfl⟩;clear c5
           exact Op.pr 81 6 (.bool (decide (ra=ab))) (hR (St.sp [du,dv] tl).drop.drop.drop.drop.drop.drop.drop.drop.drop.drop.drop.drop.drop ⟨(aS (by exact eW ((Mc dC ‹_›).trans ((EP am ‹_› (qh hM h0 (by have h9:=cG list;omega) ⟨by omega,by omega⟩ (show(aU (dA ops)).2=0 by assumption) rfl (show(mulR y client ops).Code=0 by assumption)).2.1).trans (Mc hw (by rw[←hlc];assumption)).symm)))),rfl⟩)
         exact At.ke (sc _ _ (aG.refl _) ((cO (eZ y (⟨client,1000,0,[]⟩:bu) ((aU (⟨8,[],[],0,0,false,false,false,ops⟩:aC)).1))).cy) ((cO t).cy) 0 _ _ _ _ _ _ _ (bK _) (by omega) (by omega) (by exact Ma) (by exact Ma) (by exact L_ (EP am ‹_› (qh hM h0 (by have h9:=cG list;omega) ⟨by omega,by omega⟩ (show(aU (dA ops)).2=0 by assumption) rfl (show(mulR y client ops).Code=0 by assumption)).2.1)) fr kw fv)
       exact At.ke (pc _ _ (aG.refl _) (oV eM (cO y)) 0 _ _ (bK _) (by omega) (by omega) (by(rw[Lf hM.k (by have h9:=cG list;omega)];exact(qh hM h0 (by have h9:=cG list;omega) ⟨by omega,by omega⟩ (show(aU (dA ops)).2=0 by assumption) rfl (show(mulR y client ops).Code=0 by assumption)).2.2.1)) V c4)
     exact At.ke (l2 _ _ (aG.refl _) eM 0 _ _ (bK _) (by omega) (by omega) (by exact qg.new) gg lO)
   refine At.fd (i<(ops.length:Int)) 50 13 18 (fun WN=>?_) fun WO=>?_
   ·refine At.rp 12 2 [(53,vL cb ops.length a0),(54,vI i)] ?_
    obtain⟨ar,f5⟩:=cD ops i
    obtain⟨f6,d0,WP,WQ,tm,tp,et⟩:=ay.br G _ f5
    cases tm
    refine Op.iq 34 36 9 96 ops.length a0 53 54 55 f6 d0 i ?_
    replace et:=mP.1 et
    obtain⟨WR,WS,lm,ln,et⟩:=et
    obtain⟨tt,tx,rfl⟩:=lm.ai
    obtain⟨tz,tA,rfl⟩:=ln.ai
    refine Op.la 36 55 56 (d0+i.toNat*9) 9 [vI ar.Kind,vS ar.aa,vL tt ar.Data.length tx,vI ar.ak,vI ar.aJ,.bool ar.aZ,.bool ar.aN,.bool ar.ah,vL tz ar.aH.length tA] (d2.sub _ _ tp) ?_ (hv:=et)
    refine Op.c1 57 (K_ _ _ _ d2.sub D ar _ lm _ ln 500 1 (by((try dsimp only)<;>((have h9:=eB _ (cL f5);omega)))) (by(try dsimp only)<;>exact⟨by decide,by decide⟩) (by(try dsimp only)<;>exact⟨by decide,by decide⟩)) d2 fun WT f7=>Op.px 1 [(58,.bool (lX ar (500) (1)))]<|Op.wb (lX ar (500) (1)) 58 (fun WU=>?_) fun WV=>?_
    ·exact Op.pg 14 [(64,vT)]<|At.bX 64 15<|At.gr 16 1 6 vT (hR f7 ⟨(aS (by rfl)),rfl⟩)
    refine Op.px 2 [(59,vL (some ⟨f6,d0,none⟩) ops.length a0),(60,vI i)] ?_
    obtain⟨WW,WX,WY,WZ,tB,tR,ex⟩:=ay.br G _ f5
    cases tB
    refine Op.iq 34 36 9 96 ops.length a0 59 60 61 f6 d0 i ?_
    replace ex:=mP.1 ex
    obtain⟨W0,W1,tS,t0,ex⟩:=ex
    obtain⟨W2,W3,rfl⟩:=tS.ai
    obtain⟨W4,W5,rfl⟩:=t0.ai
    refine Op.px 1 [(62,vQ f6 (d0+i.toNat*9+6))]<|Op.l1 4 62 63 (d0+i.toNat*9+6) (.bool ar.aN) (f7.sub _ _ tR) ?_ (hv:=cT ex 6 rfl)
    refine Op.pg 14 [(64,.bool ar.aN)]<|At.c_ ar.aN 64 15 17 (fun W6=>?_) fun W7=>?_
    ·exact At.gr 16 1 6 vT (hR f7 ⟨(aS (by rfl)),rfl⟩)
    exact At.rp 3 1 [(51,vI i)]<|Op.vq 52 (i+1)<|Op.pg 11 [(7,vI (i+1))] (At.ke (ly (i+1) _ (by omega) (by omega) (by omega) (by exact UQ hS h0 f5 ‹_›) f7))
   exact At.ke (lA _ _ (bK _) (by exact UR hS ‹_›) d2)
 exact At.ke (lx _ 0 _ (bK _) (by omega) (by omega) (by exact UP) d1)
end Go.Proofs.YtpacclkciilmpaaGreatDoor.Sw
