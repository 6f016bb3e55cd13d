/- Lemmas for laws of this seat. -/
import Derived.Test.YtdinkjbfgcfccaaGreatDoorPBP
set_option maxHeartbeats 4000000
namespace Go.Proofs.YtdinkjbfgcfccaaGreatDoor.Sw
open Go.Proofs.Tryz
set_option linter.unusedVariables false
set_option linter.unusedSimpArgs false
set_option linter.deprecated false
open Go
set_option linter.defProp false
def uc:=@List.getD_cons_zero
def ud:=@List.getD_cons_succ
def Eb:=@List.take_succ_cons
def Ec:=@List.sum_cons
namespace Env
def gO (ks:List Nat) (e:Env):Env:=ks.filterMap fun t=>(get e t).map fun v=>(t,v)
end Env
section
variable {C:ff} {ds:List Deferred} {i:Nat} {r:ay} {M:Nat→Prop} {L:List (Nat×Bool)} {e:Env} {h:ay}
end
def S7:Kd Bool where
  sz:=1
  K _ x cs:=cs=[.bool x]
  len h:=by subst h;rfl
  one h:=by subst h;simp[Value.oneCell']
  mono _ h:=h
  zv:=false
  zc:=[.bool false]
  zK _:=rfl
section
variable {α:Type} {d:Kd α} {g g':GH}
end
section
variable {α:Type} {d:Kd α} {g g':GH} {h h':ay} {T:TypeId} {v:Value} {xs:List α}
end
section
variable {α:Type} {d:Kd α} {g g':GH} {h h':ay} {T:TypeId} {v:Value} {xs:List α} {c:az}
end
mutual
def sG:aR→Nat
  |⟨_,_,_,_,_,_,_,_,ops⟩=>mH ops+1
def mH:List aR→Nat
  |[]=>0
  |x::xs=>max (sG x) (mH xs)
end
theorem Ed (x:aR):sG x=mH x.aB+1:=by
  obtain⟨k,p,u,D,sp,b,G,w,ops⟩:=x
  rw[sG]
theorem Ee (o:aR):(gy o % 2 != (0:Int))=o.aV∧(gy o / 2 % 2*2 != (0:Int))=o.aK∧(gy o / 4 % 2*4 != (0:Int))=o.au∧0≤gy o∧gy o≤7:=by
  unfold gy
  cases o.aV<;>cases o.aK<;>cases o.au<;>decide
theorem ue {inner:Bool} {o:aR} (h:dh inner o=true):(iw o).all gi=true:=by
  obtain⟨h1,h2,h3,_⟩:=nC h
  obtain⟨_,_,_,h4,h5⟩:=Ee o
  unfold iw
  simp only[jD,me,bZ,mh]
  exact⟨jN (by omega) (by omega),jN (by omega) (by omega),jN (by omega) (by omega),jN (by omega) (by omega)⟩
theorem K4:∀{xs:List aR},(ju xs).2=0→(ju xs).1=xs.map (fun x=>(bR x).1)∧∀x∈xs,(bR x).2=0
  |[],_=>⟨by rw[ju];rfl,fun x h=>by cases h⟩
  |x::xs,h=>by
   rw[zQ] at h ⊢
   split at h
   · rename_i hx;exact absurd h hx
   · rename_i hx
     obtain⟨h1,h2⟩:=K4 (xs:=xs) h
     rw[aL hx]
     refine⟨by simp only[h1,eS],fun y hy=>?_⟩
     rcases eO.1 hy with rfl|hy
     · simpa using hx
     · exact h2 y hy
def oy (o:aR):List aj:=eC (iw o)::o.af::o.Data::o.aB.map fun x=>(bR x).1
theorem AF {inner:Bool} {o:aR} (hr:dh inner o=true) (h:(bR o).2=0):(bR o).1=dW (oy o)∧jM (oy o)=true∧∀x∈o.aB,(bR x).2=0:=by
  rw[vb] at h ⊢
  split at h
  · rename_i hx;exact absurd h hx
  · rename_i hx
    obtain⟨h1,h2⟩:=K4 (by simpa using hx)
    rw[aL hx]
    rw[r7 (ue hr),h1] at h ⊢
    obtain⟨h3,h4⟩:=xG h
    exact⟨h4,h3,h2⟩
theorem K5 {inner:Bool} {o:aR} (hr:dh inner o=true) (hj:jM (oy o)=true) (ops:List aR):jR (dW (oy o)) ops={o with aB:=ops}:=by
  unfold jR
  rw[vj hj]
  unfold oy
  simp only[uc,ud]
  rw[xF (ue hr)]
  unfold vc iw
  simp only[uc,ud]
  obtain⟨h1,h2,h3,_⟩:=Ee o
  rw[h1,h2,h3]
  simp
theorem K6 {inner:Bool} {o:aR} (hr:dh inner o=true) (hj:jM (oy o)=true) (hi:inner=true→o.aB=[]):fS inner (dW (oy o))=true:=by
  unfold fS
  rw[vj hj]
  have e:(oy o).getD 0 []=eC (iw o):=rfl
  simp only[]
  rw[e,Dy (ue hr) 4 rfl,xF (ue hr)]
  have e3:(iw o).getD 3 0=gy o:=rfl
  simp only[]
  rw[e3,gb (Ee o).2.2.2.2]
  unfold oy
  simp only[bJ,ew]
  cases inner with
  |false=>simp;omega
  |true=>simp[hi rfl]
theorem Ef {o:aR} (h:dh true o=true):o.aB=[]:=by
  rw[mz] at h
  unfold lg rA mw at h
  simp only[bZ,nW,s6,ji,jZ] at h
  obtain⟨⟨⟨hk,hm⟩,_,_,_,_,_,_,h7,_⟩,_⟩:=h
  rcases h7 with h7|h7
  · unfold bE at hm h7
    simp only[cN,ji] at hm h7
    omega
  · exact kU (by omega)
theorem K7 {o:aR} (hr:dh true o=true) (h:(bR o).2=0):jS (bR o).1=(o,true):=by
  obtain⟨h1,h2,_⟩:=AF hr h
  have hi:=Ef hr
  unfold jS
  rw[h1,K6 hr h2 (fun _=>hi),aY rfl,K5 hr h2 []]
  obtain⟨k,p,u,D,sp,b,G,w,ops⟩:=o
  simp only at hi
  subst hi
  rfl
theorem S8 {o:aR} (hr:dh false o=true) (h:(bR o).2=0):aT false (bR o).1=(o,true):=by
  obtain⟨h1,h2,h3⟩:=AF hr h
  have h4:=(nC hr).2.2.2.2
  unfold aT
  rw[h1,K6 hr h2 (fun h=>by cases h),aY rfl,vj h2]
  have hd:(oy o).drop 3=o.aB.map fun x=>(bR x).1:=rfl
  simp only[]
  rw[hd]
  have ha:(o.aB.map fun x=>(bR x).1).all (fun x=>(jS x).2)=true:=by
    rw[List.all_map,gx]
    intro x hx
    simp only[Function.comp,K7 (h4 x hx) (h3 x hx)]
  have hm:(o.aB.map fun x=>(bR x).1).map (fun x=>(jS x).1)=o.aB:=by
    rw[jA]
    conv=>rhs;rw[←uq o.aB]
    apply wA
    intro x hx
    simp only[Function.comp,K7 (h4 x hx) (h3 x hx),id]
  rw[ha,aY rfl,hm,K5 hr h2]
  obtain⟨_,_,_,_,_,_,_,_,_⟩:=o
  rfl
theorem vO {o:aR} (h:(bQ o).2=0):dh false o=true∧(bR o).2=0∧(bQ o).1=(bR o).1∧(bR o).1.length≤1024:=by
  unfold bQ at *
  repeat' split at h
  · simp at h
  · simp at h
  · rename_i h1 h2
    rw[aL h1,aL h2]
    simp only[tq,Nat.not_lt] at h2
    exact⟨by simpa using h1,by simpa using h2.1,rfl,h2.2⟩
theorem K8 {o:aR} (h:(bQ o).2=0):aD (bQ o).1=(o,0):=by
  obtain⟨h1,h2,h3,h4⟩:=vO h
  unfold aD
  rw[h3,aL (by omega),S8 h1 h2,aL (by rw[h1];simp)]
set_option linter.unusedSectionVars false
theorem K9:∀(b:aj) (i:Nat) (v0:Int),i≤8→(fM b i v0).2.2=0→∃m:Nat,(fM b i v0).1=v0+((m*2 ^ (7*i):Nat):Int)∧(0<i→1≤m)∧∀n,8≤n+i→b.take ((fM b i v0).2.1-i).toNat=ij n m
  |[],i,v0,_,h=>by simp[fM] at h
  |c::r,i,v0,hi,h=>by
   rw[fM] at h ⊢
   split at h
   · simp at h
   · rename_i hn
     rw[aL hn]
     split at h
     · rename_i hc
       rw[aY hc]
       refine⟨c.toNat,by simp only;rw[pF hc],fun h0=>by omega,fun n hk=>?_⟩
       have e:((i:Int)+1-i).toNat=1:=by omega
       simp only
       rw[e]
       have e2:UInt8.ofNat c.toNat=c:=UInt8.ofNat_toNat
       cases n with
       |zero=>rw[ij,e2];rfl
       |succ n=>rw[ij,aY hc,e2];rfl
     · rename_i hc
       rw[aL hc]
       have D:i<8:=by
         rcases nP i 8 with h|h
         · exact h
         · exact absurd (.inl ⟨by omega,by omega⟩) hn
       obtain⟨m,h1,h2,h3⟩:=K9 r (i+1) _ (by omega) h
       have h2:=h2 (by omega)
       have hlt:=UInt8.toNat_lt c
       refine⟨c.toNat % 128+128*m,?_,fun _=>by omega,fun n hk=>?_⟩
       · rw[h1,nk,zh,ze 128 m,Nat.mul_assoc]
         push_cast
         omega
       · obtain⟨n,rfl⟩:∃u,n=u+1:=⟨n-1,by omega⟩
         rw[ij,aL (by omega)]
         have e1:(c.toNat % 128+128*m) % 128+128=c.toNat:=by omega
         have e2:(c.toNat % 128+128*m) / 128=m:=by omega
         rw[e1,e2,UInt8.ofNat_toNat,←h3 n (by omega)]
         have hb:=u r (i+1) _ h
         have e3:((fM r (i+1) (v0+((c.toNat % 128*2 ^ (7*i):Nat):Int))).2.1-(i:Int)).toNat=((fM r (i+1) (v0+((c.toNat % 128*2 ^ (7*i):Nat):Int))).2.1-((i+1:Nat):Int)).toNat+1:=by omega
         rw[e3,Eb]
where
  u:∀(b:aj) (i:Nat) (v0:Int),(fM b i v0).2.2=0→(i:Int)+1≤(fM b i v0).2.1
    |[],i,v0,h=>by simp[fM] at h
    |c::r,i,v0,h=>by
     rw[fM] at h ⊢
     split at h
     · simp at h
     · rename_i hn
       rw[aL hn]
       split at h
       · rename_i hc
         rw[aY hc]
         exact Cz _
       · rename_i hc
         rw[aL hc]
         have:=u r (i+1) _ h
         omega
theorem K_ {b:aj} (h:(bf b).2.2=0):b.take (bf b).2.1.toNat=eP (bf b).1:=by
  obtain⟨m,h1,_,h2⟩:=K9 b 0 0 (by decide) h
  have h3:=h2 9 (by decide)
  unfold bf
  unfold eP
  rw[h1]
  have e:((0:Int)+((m*2 ^ (7*0):Nat):Int)).toNat=m:=by simp
  rw[e,←h3]
  congr 1
  simp
theorem S9 (a c:List aj):dW (a++c)=dW a++dW c:=CB
theorem S_ (f:aj):dW [f]=eP f.length++f:=by simp[dW,rO]
theorem La:∀(n:Nat) (b:aj) (out:List aj),(jr n b out).2=0→dW (jr n b out).1=dW out++b
  |n,[],out,_=>by cases n<;>simp[jr]
  |0,_::_,out,h=>by simp[jr] at h
  |n+1,c::r,out,h=>by
   rw[jr] at h ⊢
   · by_cases h1:out.length=1024
     · rw[aY h1] at h;simp at h
     rw[aL h1] at h ⊢
     by_cases h2:(bf (c::r)).2.2≠0
     · rw[aY h2] at h;exact absurd h h2
     rw[aL h2] at h ⊢
     by_cases h3:65536<(bf (c::r)).1
     · rw[aY h3] at h;simp at h
     rw[aL h3] at h ⊢
     split at h
     · simp at h
     · rename_i h4
       rw[aL h4,La n _ _ h,S9,S_,cJ,cJ]
       have he:(bf (c::r)).2.2=0:=tj h2
       have hb:=iu he
       have hc:=K_ he
       generalize hB:c::r=B at *
       have hl:((B.drop (bf B).2.1.toNat).take (bf B).1.toNat).length=(bf B).1.toNat:=by
         rw[dZ,eT]
         omega
       rw[hl,show(((bf B).1.toNat:Nat):Int)=(bf B).1 by omega,←hc]
       congr 1
       rw[show((bf B).2.1+(bf B).1).toNat=(bf B).2.1.toNat+(bf B).1.toNat by omega,←o7,lJ,lJ]
   · simp
   · simp
theorem Ta {b:aj} (h:(aJ b).2=0):dW (aJ b).1=b:=La _ _ _ h
theorem Lb:∀(n:Nat) (b:aj) (out:List Int),(j7 n b out).2=0→eC (j7 n b out).1=eC out++b
  |n,[],out,_=>by cases n<;>simp[j7]
  |0,_::_,out,h=>by simp[j7] at h
  |n+1,c::r,out,h=>by
   rw[j7] at h ⊢
   · split at h
     · rename_i h2;exact absurd h h2
     · rename_i h2
       have he:(bf (c::r)).2.2=0:=tj h2
       have hc:=K_ he
       rw[aL h2,Lb n _ _ h]
       have e:eC (out++[(bf (c::r)).1])=eC out++eP (bf (c::r)).1:=by simp[eC]
       rw[e,cJ,←hc,lJ]
   · simp
   · simp
theorem Tb {b:aj} (h:(bh b).2=0):eC (bh b).1=b:=Lb _ _ _ h
theorem Tc {y:Int} (h0:0≤y) (h7:y≤7):(if (y % 2 != (0:Int))=true then (1:Int) else 0)+(if (y / 2 % 2*2 != (0:Int))=true then 2 else 0)+(if (y / 4 % 2*4 != (0:Int))=true then 4 else 0)=y:=by
  have:y=0∨y=1∨y=2∨y=3∨y=4∨y=5∨y=6∨y=7:=by omega
  rcases this with rfl|rfl|rfl|rfl|rfl|rfl|rfl|rfl<;>decide
theorem Td {l:List Int} (h:l.length=4):l=[l.getD 0 0,l.getD 1 0,l.getD 2 0,l.getD 3 0]:=by
  rcases l with _|⟨a,_|⟨b,_|⟨c,_|⟨d,_|⟨e,l⟩⟩⟩⟩⟩<;>simp at h ⊢
theorem Te {l:List aj} (h:3≤l.length):l=l.getD 0 []::l.getD 1 []::l.getD 2 []::l.drop 3:=by
  rcases l with _|⟨a,_|⟨b,_|⟨c,l⟩⟩⟩<;>simp at h ⊢
section
variable {b:aj} {inner i2:Bool} {ops:List aR} {o:aR}
theorem Eg (h:fS inner b=true):(aJ b).2=0∧3≤(aJ b).1.length∧(inner=true→(aJ b).1.length≤3)∧(bh ((aJ b).1.getD 0 [])).2=0∧(bh ((aJ b).1.getD 0 [])).1.length=4∧(bh ((aJ b).1.getD 0 [])).1.getD 3 0≤7:=by
  unfold fS fc at h
  simp only[bZ,ji,gz,jZ,cN] at h
  obtain⟨⟨h1,h2,h3⟩,⟨h4,h5⟩,h6⟩:=h
  refine⟨h1,by omega,fun hi=>?_,h4,by omega,h6⟩
  rcases h3 with h3|h3
  · rw[hi] at h3;cases h3
  · omega
theorem Ld (h:fS inner b=true) (hm:(ops.map fun x=>(bR x).1)=(aJ b).1.drop 3) (ho:∀x∈ops,(bR x).2=0) (hr:dh i2 (jR b ops)=true):bR (jR b ops)=(b,0):=by
  obtain⟨h1,h2,_,h4,h5,h6⟩:=Eg h
  have u:(jR b ops).aB=ops:=rfl
  rw[vb,u,zR ho,aL (by simp),r7 (ue hr)]
  have hh:iw (jR b ops)=(bh ((aJ b).1.getD 0 [])).1:=by
    have e:=Td h5
    have hb:=(@IN ((aJ b).1.getD 0 []) ((bh ((aJ b).1.getD 0 [])).1.getD 3 0) (by
      rw[e]
      exact qX _ (qX _ (qX _ (List.mem_cons_self ..))))).1
    have hf:=Tc hb h6
    unfold iw gy jR vc
    simp only
    rw[hf,show(bh ((aJ b).1.getD 0 [])).1.getD 1 0-1+1=(bh ((aJ b).1.getD 0 [])).1.getD 1 0 by omega]
    exact e.symm
  rw[hh,Tb h4,hm]
  have hp:(jR b ops).af=(aJ b).1.getD 1 []:=rfl
  have hd:(jR b ops).Data=(aJ b).1.getD 2 []:=rfl
  rw[hp,hd,←Te h2,tO (vi (jv b).1 (jv b).2),Ta h1]
theorem Tf (h:(jS b).2=true) (hr:dh i2 (jS b).1=true):bR (jS b).1=(b,0):=by
  unfold jS at h hr ⊢
  split at h
  · rename_i hB
    rw[aY hB] at hr ⊢
    have h3:=Eg hB
    refine Ld hB ?_ (fun x hx=>by cases hx) hr
    rw[G9 (h3.2.2.1 rfl)]
    rfl
  · cases h
theorem Tg (h:(aT false b).2=true) (hr:dh false (aT false b).1=true):bR (aT false b).1=(b,0):=by
  unfold aT at h hr ⊢
  split at h
  · rename_i hB
    rw[aY hB] at hr ⊢
    split at h
    · rename_i hA
      rw[aY hA] at hr ⊢
      rw[gx] at hA
      have u:=(nC hr).2.2.2.2
      have hp:∀y∈(aJ b).1.drop 3,bR (jS y).1=(y,0):=fun y hy=>Tf (hA y hy) (u _ (BJ hy))
      refine Ld hB ?_ (fun x hx=>?_) hr
      · rw[jA]
        conv=>rhs;rw[←uq ((aJ b).1.drop 3)]
        exact wA fun y hy=>by simp only[Function.comp,hp y hy,id]
      · obtain⟨y,hy,rfl⟩:=cY.1 hx
        rw[hp y hy]
    · cases h
  · cases h
theorem Le (hl:¬(b.length:Int)>1024) (h:(aT false b).2=true) (hr:dh false (aT false b).1=true):bQ (aT false b).1=(b,0):=by
  unfold bQ
  rw[Tg h hr,aL (by rw[hr];simp),aL (by simp;omega)]
theorem vR:∀(inner:Bool) (o:aR),fe inner o=true↔dh inner o=true∧o.af.length+o.Data.length≤1024∧∀x∈o.aB,fe true x=true:=fun inner o=>by
  rw[tZ,mz]
  unfold fA fC lg
  have hx:(∀x∈o.aB,fe true x=true)→∀x∈o.aB,dh true x=true:=fun h x hx=>u x (h x hx)
  simp only[bZ,gz,wR,DK,gx,cN]
  constructor
  · rintro⟨⟨h1,⟨⟨⟨⟨⟨⟨h2,h3⟩,h4⟩,h5⟩,h6⟩,h7⟩,h8⟩⟩,h9,u,h11⟩
    exact⟨⟨⟨h1,h2,h3,h4,h5,h6,h7,h8,u⟩,hx h9⟩,by omega,h9⟩
  · rintro⟨⟨⟨h1,h2,h3,h4,h5,h6,h7,h8,u⟩,_⟩,h11,h9⟩
    exact⟨⟨h1,⟨⟨⟨⟨⟨⟨h2,h3⟩,h4⟩,h5⟩,h6⟩,h7⟩,h8⟩⟩,h9,u,by omega⟩
where
  u:∀(o:aR),fe true o=true→dh true o=true:=fun o h=>by
    rw[tZ] at h
    rw[mz]
    unfold fA fC at h
    unfold lg
    simp only[bZ,gz,wR,DK,gx,cN] at h ⊢
    obtain⟨⟨h1,⟨⟨⟨⟨⟨⟨h2,h3⟩,h4⟩,h5⟩,h6⟩,h7⟩,h8⟩⟩,h9,D,h11⟩:=h
    exact⟨⟨h1,h2,h3,h4,h5,h6,h7,h8,D⟩,fun x hx=>u x (h9 x hx)⟩
  termination_by o=>cU o
  decreasing_by exact iP hx
theorem Eh (h:fe true o=true):(bR o).2=0∧(bR o).1.length≤4000:=by
  obtain⟨h1,h2,_⟩:=(vR _ _).1 h
  have hn:(eC (iw o)).length≤40:=u5 _
  have hm:∀f∈[eC (iw o),o.af,o.Data],f.length≤1024:=by
    intro f hf
    simp only[eO,List.not_mem_nil,or_false] at hf
    rcases hf with rfl|rfl|rfl<;>omega
  have hj:jM [eC (iw o),o.af,o.Data]=true:=vi (by simp) fun f hf=>by have:=hm f hf;omega
  have e:bR o=(dW [eC (iw o),o.af,o.Data],0):=by
    rw[vb,Ef h1,ju,aL (by simp),r7 (ue h1),tO hj]
  rw[e]
  exact⟨rfl,cH (sy _ hm) (by simp)⟩
theorem Th (h:fe inner o=true):(bR o).2=0∧(bR o).1.length≤100000∧ju o.aB=(o.aB.map (fun x=>(bR x).1),0):=by
  obtain⟨h1,h2,h3⟩:=(vR _ _).1 h
  have h4:=(nC h1).2.2.2.1
  have hp:ju o.aB=(o.aB.map (fun x=>(bR x).1),0):=zR fun x hx=>(Eh (h3 x hx)).1
  have hn:(eC (iw o)).length≤40:=u5 _
  have hm:∀f∈eC (iw o)::o.af::o.Data::o.aB.map (fun x=>(bR x).1),f.length≤4000:=by
    intro f hf
    simp only[eO,cY] at hf
    rcases hf with rfl|rfl|rfl|⟨x,hx,rfl⟩
    · omega
    · omega
    · omega
    · exact(Eh (h3 x hx)).2
  have hj:jM (eC (iw o)::o.af::o.Data::o.aB.map (fun x=>(bR x).1))=true:=vi (by simp;omega) fun f hf=>by have:=hm f hf;omega
  have e:bR o=(dW (eC (iw o)::o.af::o.Data::o.aB.map (fun x=>(bR x).1)),0):=by
    rw[vb,hp,aL (by simp),r7 (ue h1),tO hj]
  refine⟨by rw[e],?_,hp⟩
  rw[e]
  refine cH (sy _ hm) ?_
  simp only[bJ,ew]
  omega
theorem Lf:∀{fs:List aj} {f:aj},f∈fs→f.length≤(dW fs).length
  |g::fs,f,h=>by
   have e:dW (g::fs)=eP g.length++(g++dW fs):=by
     unfold dW
     rw[tn]
     unfold rO
     rw[cJ]
   rw[e,b_,b_]
   rcases eO.1 h with rfl|h
   · omega
   · have:=Lf h;omega
theorem Lg {fs:List aj} {x y z:aj}:y.length+z.length≤(dW (x::y::z::fs)).length:=by
  have e:dW (x::y::z::fs)=eP x.length++(x++(eP y.length++(y++(eP z.length++(z++dW fs))))):=by
    unfold dW
    simp only[tn]
    unfold rO
    simp only[cJ]
  rw[e]
  simp only[b_]
  omega
theorem Ti (h:(bQ o).2=0):fe false o=true:=by
  obtain⟨h1,h2,_,h4⟩:=vO h
  obtain⟨h5,h6,h7⟩:=AF h1 h2
  have hr:=(nC h1).2.2.2.2
  rw[h5] at h4
  unfold oy at h4 h6
  refine(vR _ _).2 ⟨h1,cH Lg h4,fun x hx=>?_⟩
  have hx1:=hr x hx
  obtain⟨h8,h9,u⟩:=AF hx1 (h7 x hx)
  have h11:(bR x).1.length≤1024:=cH (Lf (qX _ (qX _ (qX _ (BJ (f:=fun x=>(bR x).1) hx))))) h4
  rw[h8] at h11
  unfold oy at h11
  refine(vR _ _).2 ⟨hx1,cH Lg h11,fun y hy=>?_⟩
  rw[Ef hx1] at hy
  cases hy
theorem xX (o:aR):bQ o=([],130)∨(bQ o).2=0:=by
  unfold bQ
  repeat' split
  · exact .inl rfl
  · exact .inl rfl
  · exact .inr rfl
theorem Lh (h:(o.aB.length:Int)>4):bQ o=([],130):=(xX o).resolve_right fun h2=>by
  have:=(nC (vO h2).1).2.2.2.1
  omega
theorem Li (h:fe false o=false):bQ o=([],130):=(xX o).resolve_right fun h2=>by
  rw[Ti h2] at h
  cases h
theorem Lj (h:((bR o).1.length:Int)>1024):bQ o=([],130):=(xX o).resolve_right fun h2=>by
  have:=(vO h2).2.2.2
  omega
theorem Ll (h:fe false o=true) (h2:¬((bR o).1.length:Int)>1024):bQ o=((bR o).1,0):=by
  unfold bQ
  rw[aL (by rw[((vR _ _).1 h).1];simp),aL (by rw[(Th h).1];simp;omega)]
def Lm (b:aj):List aj:=((aJ b).1.drop 3).takeWhile fun x=>(aT true x).2
end
section
variable {o x:aR} {inner b:Bool} {i:Int}
theorem Tj (h1:(!rA o inner)=false) (h2:((((((!nB o||!mW o)||!mX o)||!mY o)||!lS o)||!mZ o)||!mw o)=false):fA o inner=true:=by
  unfold fA
  rw[h2,show rA o inner=true by simpa using h1]
  rfl
theorem Tk (h:rA o inner=false):fe inner o=false:=by rw[tZ,fA,h];rfl
theorem Tl (h:((((((!nB o||!mW o)||!mX o)||!mY o)||!lS o)||!mZ o)||!mw o)=true):fe inner o=false:=by rw[tZ,fA,h];simp
theorem Tm (hx:o.aB[i.toNat]?=some x) (h:fe true x=false):fe inner o=false:=by
  rw[tZ]
  have:o.aB.all (fe true)=false:=by
    rw[iT]
    intro hc
    rw[gx.1 hc x (bY hx)] at h
    cases h
  rw[this]
  simp
theorem Tn {l:List aR} (h:(l.take i.toNat).all (fe true)=true) (h0:0≤i) (hx:l[i.toNat]?=some x) (hf:fe true x=true):(l.take (i+1).toNat).all (fe true)=true:=by
  rw[toNat_succ h0,fP hx,uZ,h]
  simp[hf]
theorem xY (hA:fA o inner=true) (hI:(o.aB.take i.toNat).all (fe true)=true) (hi:¬i<(o.aB.length:Int)):fC o=fe inner o:=by
  rw[fF (by omega)] at hI
  rw[tZ,hA,hI]
  rfl
theorem vU (h:fe false o=true∨fe true o=true):(-1≤o.ai∧o.ai<1099511627776)∧o.aB.length≤4∧∀x∈o.aB,fe true x=true∧(bR x).2=0:=by
  have:∀inner,fe inner o=true→(-1≤o.ai∧o.ai<1099511627776)∧o.aB.length≤4∧∀x∈o.aB,fe true x=true∧(bR x).2=0:=by
    intro inner h
    obtain⟨h1,h2,h3⟩:=(vR _ _).1 h
    exact⟨(nC h1).2.1,(nC h1).2.2.2.1,fun x hx=>⟨h3 x hx,(Eh (h3 x hx)).1⟩⟩
  exact h.elim (this _) (this _)
end
def bq (inner:Bool) (b:aj):aR:=if (aT inner b).2=true then (aT inner b).1 else if fS inner b=true then jR b ((Lm b).map fun x=>(aT true x).1) else j8
section
variable {b x:aj} {inner:Bool} {i deep y:Int} {ob:aR}
theorem Ln {α:Type} (p:α→Bool):∀{l:List α} {k:Nat} {z:α},l[k]?=some z→p z=false→(∀y∈l.take k,p y=true)→l.takeWhile p=l.take k
  |[],k,z,h,_,_=>by simp at h
  |a::l,0,z,h,hz,_=>by
   have e:a=z:=by simpa using h
   rw[DA (by rw[e,hz];simp)]
   rfl
  |a::l,k+1,z,h,hz,hy=>by
   rw[JO (hy a (by simp)),Eb]
   rw[Ln p (by simpa using h) hz fun y hm=>hy y (by rw[Eb];exact qX _ hm)]
theorem kO (h:fS inner b=false):bq inner b=j8:=by unfold bq;rw[fT h,h];rfl
theorem vV (h:(aT inner b).2=true):bq inner b=(aT inner b).1:=by unfold bq;rw[aY h]
theorem AG (h:¬((bh b).1.length:Int)=4):fc b 4=false:=by unfold fc;simp;intro _;omega
theorem AH (h:¬(bh b).2=0):fc b 4=false:=(Dm h).symm
theorem Lp (h1:(bh b).2=0) (h2:((bh b).1.length:Int)=4):fc b 4=true:=by unfold fc;rw[h1,h2];rfl
theorem Lq {l:List aj} (h0:3≤i) (h:l[i.toNat]?=some x):(l.drop 3)[(i-3).toNat]?=some x:=by
  rw[rE,show 3+(i-3).toNat=i.toNat by omega]
  exact h
theorem oz (hB:fS (decide (deep=0)) b=true) (h0:3≤i) (hi:i<((aJ b).1.length:Int)) (hd:deep=0∨deep=1):deep=1:=by
  rcases hd with rfl|h
  · exfalso
    have:=(Eg hB).2.2.1 rfl
    omega
  · exact h
theorem Lr (H:nD b ob (i-3)) (h0:3≤i) (hx:(aJ b).1[i.toNat]?=some x) (hok:(aT (decide (deep-1=0)) x).2=true) (hd:deep=1):
    nD b ⟨ob.ah,ob.af,ob.Data,ob.ai,ob.aI,ob.aV,ob.aK,ob.au,ob.aB++[bq (decide (deep-1=0)) x]⟩ (i+1-3):=by
  subst hd
  have e:i+1-3=(i-3)+1:=by omega
  rw[e,vV hok]
  exact Dl H (by omega) (Lq h0 hx) hok
theorem sH (hB:fS inner b=true) (H:nD b ob (i-3)) (h0:3≤i) (hx:(aJ b).1[i.toNat]?=some x) (hok:(aT (decide (deep-1=0)) x).2=false) (hd:deep=1):aT inner b=(j8,false)∧bq inner b=ob:=by
  subst hd
  have hx:=Lq h0 hx
  have h1:=qN hB hx hok
  refine⟨h1,?_⟩
  unfold bq
  rw[h1,aL (by simp),aY hB,H.1]
  congr 2
  unfold Lm
  exact Ln _ hx hok H.2
theorem sI (hB:fS inner b=true) (H:nD b ob (i-3)) (h0:3≤i) (h:¬i<((aJ b).1.length:Int)):aT inner b=(ob,true)∧bq inner b=ob:=by
  have h1:=qO hB H (by rw[eT];omega)
  exact⟨h1,by rw[vV (by rw[h1]),h1]⟩
theorem Lt {x0 x1 x2:aj} {y0 y1 y2 y3:Int} (u:(aJ b).1[(0:Int).toNat]?=some x0) (s1:(aJ b).1[(1:Int).toNat]?=some x1) (s2:(aJ b).1[(2:Int).toNat]?=some x2)
    (v0:(bh x0).1[(0:Int).toNat]?=some y0) (v1:(bh x0).1[(1:Int).toNat]?=some y1) (v2:(bh x0).1[(2:Int).toNat]?=some y2) (v3:(bh x0).1[(3:Int).toNat]?=some y3) (h7:¬y3>7):
    (⟨y0,x1,x2,y1-1,y2,y3 % 2==(1:Int),y3 / 2 % 2==(1:Int),y3 / 4==(1:Int),[]⟩:aR)=jR b []:=by
  have h8:=(gT v3).1
  unfold jR vc
  rw[getD_at (k:=0) u,getD_at (k:=1) s1,getD_at (k:=2) s2,getD_at (k:=0) v0,getD_at (k:=1) v1,getD_at (k:=2) v2,getD_at (k:=3) v3]
  have:y3=0∨y3=1∨y3=2∨y3=3∨y3=4∨y3=5∨y3=6∨y3=7:=by omega
  rcases this with rfl|rfl|rfl|rfl|rfl|rfl|rfl|rfl<;>rfl
theorem To (h:(aT false b).2=true):cU (bq false b)≤1000000000:=by rw[vV h];exact Dq b
theorem AI (o:aR):(bQ o).1.length≤1000000000:=by
  unfold bQ
  split
  · exact eX _
  split
  · exact eX _
  · rename_i h
    have:¬1024<(bR o).1.length:=fun h2=>h (.inr h2)
    show(bR o).1.length≤_
    omega
theorem AJ (h:(b.length:Int)>1024):aD b=(j8,130):=xB h
theorem AK (h:¬(b.length:Int)>1024) (h2:(aT false b).2=false):aD b=(j8,130):=pZ h (.inl h2)
theorem AL (h:¬(b.length:Int)>1024) (h2:(aT false b).2=true) (h3:¬(bQ (bq false b)).2=0):aD b=(j8,130):=by
  refine pZ h (.inr ?_)
  rw[vV h2] at h3
  cases hr:dh false (aT false b).1 with
  |false=>rfl
  |true=>exact absurd (by rw[Le h h2 hr]) h3
theorem AM (h:¬(b.length:Int)>1024) (h2:(aT false b).2=true) (h3:(bQ (bq false b)).2=0) (h4:¬(bQ (bq false b)).1=b):aD b=(j8,130):=by
  exfalso
  rw[vV h2] at h3 h4
  have hr:=(vO h3).1
  exact h4 (by rw[Le h h2 hr])
theorem AN (h:¬(b.length:Int)>1024) (h2:(aT false b).2=true) (h3:(bQ (bq false b)).2=0):aD b=(bq false b,0):=by
  rw[vV h2] at h3 ⊢
  exact xC h h2 (vO h3).1
end
section
variable {l:List Int} {q i v c k n:Int} {b x0 x3 e:aj} {ob:Result} {w:au}
end
section
variable {C:ff} {ds:List Deferred} {i:Nat} {r:ay} {M:Nat→Prop} {L:List (Nat×Bool)} {e:Env} {h:ay}
theorem Op.jn (n t:Nat) (ks:List Nat) (q:Bool) (D:∀b,b=q→Op C ds i r M (L.drop n) ((t,.bool b)::e.gO ks) h)
    (K:(∀b,b=q→∀e1,e1.get t=some (.bool b)→(e.gO ks).map (fun p=>e1.get p.1)=(e.gO ks).map (fun p=>some p.2)→Op C ds i r M (L.drop n) e1 h)→Op C ds i r M L e h):Op C ds i r M L e h:=by
  refine K fun b hb e1 h1 h2=>Op.sub (fun k u hu=>?_) (D b hb)
  by_cases hk:t=k
  · subst hk
    simp[Env.get] at hu
    rw[h1,hu]
  · rw[Env.get,o8 hk] at hu
    exact BX h2 k u hu
end
set_option maxRecDepth 100000
theorem Tp (B:World) (h:ay) (g:GH) (hg:bu g h) (G:bz g) (v:Int):
  aG prog B 64 #[vI v] h g [] (fun D g' L'=>D=.bool (decide (0≤v)&&decide (v<1099511627776))∧g'=g∧L'=[]):=by
 refine aG.aq func64 fun R hR=>?_
 have u:=St.init hg
 refine At.go 1 1 []<|At.rp 7 3 [(5,.bool (decide (v≥0)))]<|Op.wd (v≥0) 5 (fun I=>?_) fun J=>?_
 ·exact Op.pr 2 2 (.bool (decide (v<1099511627776))) (hR u ⟨(bn (by(rw[iN];simp;omega))),rfl,rfl⟩)
 exact Op.pr 2 2 vF (hR u ⟨(bn (by(rw[iN];simp;omega))),rfl,rfl⟩)
theorem Tq (mr:Nat):∀(B:World) (h:ay) (g:GH) (hg:bu g h) (ar:bz g) (o:aR) (aw:Value) (bj:an g 5 a_ aw o.Data) (a0:Value) (a1:an g 25 dy a0 o.aB) (inner:Bool) (hs:cU o≤1000000000) (bk:cU o<mr),aG prog B 28 #[.agg #[vI o.ah,vS o.af,aw,vI o.ai,vI o.aI,.bool o.aV,.bool o.aK,.bool o.au,a0],.bool inner] h g [] (fun dj g' L'=>dj=.bool (fe inner o)∧g'=g∧L'=[]):=by
 induction mr with
 |zero=>intros;omega
 |succ mr dk=>
 intro B h g hg ar o aw bj a0 a1 inner hs bk
 obtain⟨ab,ad,rfl⟩:=bj.ak
 obtain⟨O,J,rfl⟩:=a1.ak
 refine aG.aq func28 fun R hR=>At.rg 2<|Op.bx 2 25 0 #[vI o.ah,vS o.af,vL ab o.Data.length ad,vI o.ai,vI o.aI,.bool o.aV,.bool o.aK,.bool o.au,vL O o.aB.length J] (St.init hg) fun u d4 D=>Op.pg 1 []<|At.rg 24 ?_
 refine Op.jn 24 5 [1,2] ((bE o.ah).ec) (fun bm d5=>?_) fun V=>?_
 ·refine Op.gt 2<|At.rg 9<|Op.jn 9 6 [1,2,5] ((bE o.ah).data) (fun bo d6=>?_) fun bs=>?_
  ·refine Op.gt 3<|At.rg 9<|Op.jn 9 7 [1,2,5,6] ((bE o.ah).jI) (fun ae d7=>?_) fun bt=>?_
   ·refine Op.gt 4<|At.rg 9<|Op.jn 9 8 [1,2,5,6,7] ((bE o.ah).watch) (fun b3 d8=>?_) fun b4=>?_
    ·refine Op.gt 5<|At.rg 20<|Op.jn 20 76 [2,5,6,7,8] (!rA o inner) (fun dl d9=>?_) fun X=>?_
     ·refine Op.gt 6<|At.cW dl 76 7 9 (fun ea=>?_) fun dp=>?_
      ·exact At.gr 8 1 4 vF (hR D.drop ⟨(bn (by exact(Tk (by have h9:(!rA o inner)=true:=(by subst_vars;assumption);simpa using h9)).symm)),rfl,rfl⟩)
      refine At.rg 68<|Op.jn 7 83 [2,6,7,8] (!nB o) (fun a3 eb=>?_) fun b5=>?_
      ·refine Op.jn 10 93 [2,7,8] (a3||!mW o) (fun a4 ed=>?_) fun a5=>?_
       ·refine Op.jn 9 102 [2,8] (a4||!mX o) (fun a6 ee=>?_) fun a7=>?_
        ·refine Op.jn 10 112 [2,8] (a6||!mY o) (fun a8 ef=>?_) fun a9=>?_
         ·refine Op.jn 13 125 [2,8] (a8||!lS o) (fun bb eh=>?_) fun am=>?_
          ·refine Op.jn 8 133 [2] (bb||!mZ o) (fun bc ej=>?_) fun bd=>?_
           ·refine Op.jn 11 144 [2] (bc||!mw o) (fun dq em=>?_) fun be=>?_
            ·refine Op.gt 10<|At.cW dq 144 11 13 (fun en=>?_) fun ep=>?_
             ·exact At.gr 12 1 4 vF (hR D.drop ⟨(bn (by exact(Tl (by subst_vars;first|assumption|exact Eq.symm ‹_›)).symm)),rfl,rfl⟩)
             refine At.go 14 1 [(9,vI 0)] ?_
             have du:∀(m:Nat) (i:Int) (bi:ay) (hm:o.aB.length-i.toNat<m) (h0:0≤i) (h1:i≤o.aB.length) (hA:fA o inner=true) (hI:(o.aB.take i.toNat).all (fe true)=true) (G:St h g (aS []) g [[(u,Obj.cells #[vI o.ah,vS o.af,vL ab o.Data.length ad,vI o.ai,vI o.aI,.bool o.aV,.bool o.aK,.bool o.au,vL O o.aB.length J] 25 (0,0))]] bi),At (bP prog B 28 f28 R) [] 14 [(2,vP u),(9,vI i)] bi:=by
              intro m;induction m with
              |zero=>intros;omega
              |succ m dv=>
               intro i bi hm h0 h1 hA hI G
               refine At.rp 5 2 [(145,vI i),(146,vQ u 8)]<|Op.l1 23 146 147 8 (vL O o.aB.length J) (G.ag 0 rfl)<|Op.pg 15 [(149,.bool (decide (i<(o.aB.length:Int))))]<|At.fd (i<(o.aB.length:Int)) 149 16 21 (fun er=>?_) fun et=>?_
               ·refine At.rp 7 1 [(152,vQ u 8)]<|Op.l1 23 152 153 8 (vL O o.aB.length J) (G.ag 0 rfl)<|Op.px 1 [(154,vI i)] ?_
                obtain⟨I,Y⟩:=bW o.aB i
                obtain⟨dC,b6,ex,eA,dE,dT,Z⟩:=an.bB a1 _ Y
                cases dE
                refine Op.iq 23 25 9 96 o.aB.length J 153 154 155 dC b6 i ?_
                replace Z:=k9.1 Z
                obtain⟨v76,eB,b8,ca,Z⟩:=Z
                obtain⟨d0,d1,rfl⟩:=b8.ak
                obtain⟨d2,d3,rfl⟩:=ca.ak
                refine Op.la 25 155 156 (b6+i.toNat*9) 9 [vI I.ah,vS I.af,vL d0 I.Data.length d1,vI I.ai,vI I.aI,.bool I.aV,.bool I.aK,.bool I.au,vL d2 I.aB.length d3] (G.sub _ _ dT) ?_ (hv:=Z)
                refine Op.c1 157 (dk _ _ _ G.sub ar I _ b8 _ ca true (by((try dsimp only)<;>((have:=iP (bY Y);omega)))) (by exact nR (iP (bY Y)) (r9 bk))) G fun eI cb=>Op.pg 17 [(158,.bool (!(fe true I)))]<|At.cW (!(fe true I)) 158 18 20 (fun ce=>?_) fun cf=>?_
                ·replace ce:=(dn ce)
                 exact At.gr 19 1 4 vF (hR cb.drop ⟨(bn (by exact(Tm Y ‹_›).symm)),rfl,rfl⟩)
                replace cf:=(dr cf)
                exact At.rp 3 1 [(150,vI i)]<|Op.cO 151 (i+1) (by omega) (by(have:=fD o;omega))<|Op.pg 14 [(9,vI (i+1))] (At.ke (dv (i+1) _ (by omega) (by omega) (by omega) (by omega) (by exact Tn hI h0 Y ‹_›) cb))
               refine At.rp 30 1 [(159,vQ u 3)]<|Op.l1 3 159 160 3 (vI o.ai) (G.ag 0 rfl)<|Op.px 2 [(162,.bool (decide (o.ai≥((-1):Int))))]<|Op.wd (o.ai≥((-1):Int)) 162 (fun eJ=>?_) fun eK=>?_
               ·refine Op.px 1 [(163,vQ u 3)]<|Op.l1 3 163 164 3 (vI o.ai) (G.ag 0 rfl)<|Op.px 3 [(167,.bool (decide (o.ai<1099511627776)))]<|Op.wd (o.ai<1099511627776) 167 (fun eL=>?_) fun eQ=>?_
                ·refine Op.px 1 [(168,vQ u 4)]<|Op.l1 3 168 169 4 (vI o.aI) (G.ag 0 rfl)<|Op.c1 170 (Tp _ _ _ G.sub ar o.aI) G fun e1 U=>Op.px 2 [(172,.bool (decide (0≤o.aI)&&decide (o.aI<1099511627776)))]<|Op.wb (decide (0≤o.aI)&&decide (o.aI<1099511627776)) 172 (fun e2=>?_) fun e3=>?_
                 ·refine Op.px 1 [(173,vQ u 8)]<|Op.l1 23 173 174 8 (vL O o.aB.length J) (U.ag 0 rfl)<|Op.px 4 [(178,.bool (decide ((o.aB.length:Int)≤4)))]<|Op.wd ((o.aB.length:Int)≤4) 178 (fun e4=>?_) fun e5=>?_
                  ·refine Op.px 1 [(179,vQ u 1)]<|Op.l1 9 179 180 1 (vS o.af) (U.ag 0 rfl)<|Op.px 2 [(181,vI (o.af.length:Int)),(182,vQ u 2)]<|Op.l1 22 182 183 2 (vL ab o.Data.length ad) (U.ag 0 rfl)<|Op.px 1 [(184,vI (o.Data.length:Int))] ?_
                   exact Op.cO 185 ((o.af.length:Int)+(o.Data.length:Int)) (by omega) (by(have:=fD o;omega))<|Op.pr 22 4 (.bool (decide (((o.af.length:Int)+(o.Data.length:Int))≤1024))) (hR U.drop ⟨(bn (by(rw[←xY hA hI ‹_›];simp[*,fC,rC];done))),rfl,rfl⟩)
                  exact Op.pr 22 4 vF (hR U.drop ⟨(bn (by(rw[←xY hA hI ‹_›];simp[*,fC,rC];done))),rfl,rfl⟩)
                 exact Op.pr 22 4 vF (hR U.drop ⟨(bn (by(rw[←xY hA hI ‹_›];simp_all [fC,rC];omega))),rfl,rfl⟩)
                exact Op.pr 22 4 vF (hR G.drop ⟨(bn (by(rw[←xY hA hI ‹_›];simp[*,fC,rC];done))),rfl,rfl⟩)
               exact Op.pr 22 4 vF (hR G.drop ⟨(bn (by(rw[←xY hA hI ‹_›];simp[*,fC,rC];done))),rfl,rfl⟩)
             exact At.ke (du _ 0 _ (bG _) (by omega) (by omega) (by(subst_vars;exact Tj dp (by exact Eq.symm ‹_›))) (by rfl) D)
            refine Op.px 1 [(134,.bool bc)]<|Op.wb bc 134 (fun e6=>?_) fun e7=>?_
            ·exact Op.px 10 [(144,vT)] (be true (by(simp_all [mw];done)) _ (by kernel_rfl) (by kernel_rfl))
            refine Op.px 1 [(135,vP u)]<|Op.l1 3 135 136 0 (vI o.ah) (D.ag 0 rfl)<|Op.px 2 [(138,.bool (o.ah != 8))]<|Op.wb (o.ah != 8) 138 (fun ch=>?_) fun ci=>?_
            ·replace ch:=fY ch
             exact Op.px 1 [(139,vQ u 8)]<|Op.l1 23 139 140 8 (vL O o.aB.length J) (D.ag 0 rfl)<|Op.px 4 [(144,.bool ((o.aB.length:Int) != 0))] (be ((o.aB.length:Int) != 0) (by(simp_all [mw,bE,bne];done)) _ (by kernel_rfl) (by kernel_rfl))
            replace ci:=gB ci
            exact Op.px 6 [(144,vF)] (be false (by(simp_all [mw,bE];done)) _ (by kernel_rfl) (by kernel_rfl))
           refine Op.px 1 [(126,.bool bb)]<|Op.wb bb 126 (fun e8=>?_) fun e9=>?_
           ·exact Op.px 7 [(133,vT)] (bd true (by(simp_all [mZ];done)) _ (by kernel_rfl) (by kernel_rfl))
           refine Op.px 3 [(129,.bool (!b3))]<|Op.wb (!b3) 129 (fun ck=>?_) fun co=>?_
           ·replace ck:=(dn ck)
            exact Op.px 1 [(130,vQ u 7)]<|Op.l1 4 130 131 7 (.bool o.au) (D.ag 0 rfl)<|Op.px 2 [(133,.bool o.au)] (bd o.au (by(simp_all [mZ];done)) _ (by kernel_rfl) (by kernel_rfl))
           replace co:=(dr co)
           exact Op.px 4 [(133,vF)] (bd false (by(simp_all [mZ];done)) _ (by kernel_rfl) (by kernel_rfl))
          refine Op.px 1 [(113,.bool a8)]<|Op.wb a8 113 (fun fa=>?_) fun fg=>?_
          ·exact Op.px 12 [(125,vT)] (am true (by(simp_all [lS];done)) _ (by kernel_rfl) (by kernel_rfl))
          refine Op.px 1 [(114,vP u)]<|Op.l1 3 114 115 0 (vI o.ah) (D.ag 0 rfl)<|Op.px 2 [(117,.bool (o.ah != 3))]<|Op.wb (o.ah != 3) 117 (fun c3=>?_) fun c4=>?_
          ·replace c3:=fY c3
           refine Op.px 1 [(118,vQ u 5)]<|Op.l1 4 118 119 5 (.bool o.aV) (D.ag 0 rfl)<|Op.px 1 [(120,.bool o.aV)]<|Op.wb o.aV 120 (fun fi=>?_) fun fj=>?_
           ·exact Op.px 5 [(125,vT)] (am true (by(simp_all [lS,bE];done)) _ (by kernel_rfl) (by kernel_rfl))
           exact Op.px 1 [(121,vQ u 6)]<|Op.l1 4 121 122 6 (.bool o.aK) (D.ag 0 rfl)<|Op.px 3 [(125,.bool o.aK)] (am o.aK (by(simp_all [lS,bE];done)) _ (by kernel_rfl) (by kernel_rfl))
          replace c4:=gB c4
          exact Op.px 8 [(125,vF)] (am false (by(simp_all [lS,bE];done)) _ (by kernel_rfl) (by kernel_rfl))
         refine Op.px 1 [(103,.bool a6)]<|Op.wb a6 103 (fun fl=>?_) fun fp=>?_
         ·exact Op.px 9 [(112,vT)] (a9 true (by(simp_all [mY];done)) _ (by kernel_rfl) (by kernel_rfl))
         refine Op.px 1 [(104,vP u)]<|Op.l1 3 104 105 0 (vI o.ah) (D.ag 0 rfl)<|Op.px 2 [(107,.bool (o.ah != 1))]<|Op.wb (o.ah != 1) 107 (fun c5=>?_) fun c6=>?_
         ·replace c5:=fY c5
          exact Op.px 1 [(108,vQ u 4)]<|Op.l1 3 108 109 4 (vI o.aI) (D.ag 0 rfl)<|Op.px 3 [(112,.bool (o.aI != 0))] (a9 (o.aI != 0) (by(simp_all [mY,bE,bne];done)) _ (by kernel_rfl) (by kernel_rfl))
         replace c6:=gB c6
         exact Op.px 5 [(112,vF)] (a9 false (by(simp_all [mY,bE];done)) _ (by kernel_rfl) (by kernel_rfl))
        refine Op.px 1 [(94,.bool a4)]<|Op.wb a4 94 (fun fr=>?_) fun ft=>?_
        ·exact Op.px 8 [(102,vT)] (a7 true (by(simp_all [mX];done)) _ (by kernel_rfl) (by kernel_rfl))
        refine Op.px 3 [(97,.bool (!ae))]<|Op.wb (!ae) 97 (fun c8=>?_) fun c9=>?_
        ·replace c8:=(dn c8)
         exact Op.px 1 [(98,vQ u 3)]<|Op.l1 3 98 99 3 (vI o.ai) (D.ag 0 rfl)<|Op.px 3 [(102,.bool (o.ai != 0))] (a7 (o.ai != 0) (by(simp_all [mX,bE,bne];done)) _ (by kernel_rfl) (by kernel_rfl))
        replace c9:=(dr c9)
        exact Op.px 5 [(102,vF)] (a7 false (by(simp_all [mX];done)) _ (by kernel_rfl) (by kernel_rfl))
       refine Op.px 1 [(84,.bool a3)]<|Op.wb a3 84 (fun fv=>?_) fun fw=>?_
       ·exact Op.px 9 [(93,vT)] (a5 true (by(simp_all [mW];done)) _ (by kernel_rfl) (by kernel_rfl))
       refine Op.px 3 [(87,.bool (!bo))]<|Op.wb (!bo) 87 (fun da=>?_) fun db=>?_
       ·replace da:=(dn da)
        exact Op.px 1 [(88,vQ u 2)]<|Op.l1 22 88 89 2 (vL ab o.Data.length ad) (D.ag 0 rfl)<|Op.px 4 [(93,.bool ((o.Data.length:Int) != 0))] (a5 ((o.Data.length:Int) != 0) (by(simp_all [mW,bE,bne];done)) _ (by kernel_rfl) (by kernel_rfl))
       replace db:=(dr db)
       exact Op.px 6 [(93,vF)] (a5 false (by(simp_all [mW];done)) _ (by kernel_rfl) (by kernel_rfl))
      refine Op.px 3 [(79,.bool (!bm))]<|Op.wb (!bm) 79 (fun dc=>?_) fun dd=>?_
      ·replace dc:=(dn dc)
       exact Op.px 1 [(80,vQ u 1)]<|Op.l1 9 80 81 1 (vS o.af) (D.ag 0 rfl)<|Op.vl 82 (.bool (!((br o.af).toList==(br []).toList))) (.bool (!(o.af==([]:aj)))) (by rw[toList_mkS,toList_mkS])<|Op.px 1 [(83,.bool (!(o.af==([]:aj))))] (b5 (!(o.af==([]:aj))) (by(simp_all [nB];done)) _ (by kernel_rfl) (by kernel_rfl))
      replace dd:=(dr dd)
      exact Op.px 4 [(83,vF)] (b5 false (by(simp_all [nB];done)) _ (by kernel_rfl) (by kernel_rfl))
     refine Op.px 1 [(57,vP u)]<|Op.l1 3 57 58 0 (vI o.ah) (D.ag 0 rfl)<|Op.px 2 [(60,.bool (decide (o.ah<1)))]<|Op.wd (o.ah<1) 60 (fun fx=>?_) fun f0=>?_
     ·exact Op.px 16 [(76,vT)] (X true (by(simp[*,rA,lR,bE];try omega)) _ (by kernel_rfl) (by kernel_rfl))
     refine Op.px 1 [(61,vP u)]<|Op.l1 3 61 62 0 (vI o.ah) (D.ag 0 rfl)<|Op.px 3 [(65,.bool (decide (o.ah>9)))]<|Op.wd (o.ah>9) 65 (fun f1=>?_) fun f2=>?_
     ·exact Op.px 11 [(76,vT)] (X true (by(simp[*,rA,lR,bE];try omega)) _ (by kernel_rfl) (by kernel_rfl))
     refine Op.px 2 [(67,.bool inner)]<|Op.wb inner 67 (fun f3=>?_) fun f4=>?_
     ·refine Op.px 1 [(68,vP u)]<|Op.l1 3 68 69 0 (vI o.ah) (D.ag 0 rfl)<|Op.px 3 [(72,.bool (o.ah != 3))]<|Op.wb (o.ah != 3) 72 (fun df=>?_) fun dg=>?_
      ·replace df:=fY df
       exact Op.px 4 [(76,.bool (!ae))] (X (!ae) (by(simp[*,rA,lR,bE];try omega)) _ (by kernel_rfl) (by kernel_rfl))
      replace dg:=gB dg
      exact Op.px 4 [(76,vF)] (X false (by(simp[*,rA,lR,bE];try omega)) _ (by kernel_rfl) (by kernel_rfl))
     exact Op.px 9 [(76,vF)] (X false (by(simp[*,rA,lR,bE];try omega)) _ (by kernel_rfl) (by kernel_rfl))
    refine Op.px 1 [(49,vP u)]<|Op.l1 3 49 50 0 (vI o.ah) (D.ag 0 rfl)<|Op.px 2 [(52,.bool (o.ah==6))]<|Op.wd (o.ah=6) 52 (fun f5=>?_) fun f6=>?_
    ·exact Op.px 5 [(8,vT)] (b4 true (by(rw[iN];simp[bE, *];try omega)) _ (by kernel_rfl) (by kernel_rfl))
    exact Op.px 1 [(53,vP u)]<|Op.l1 3 53 54 0 (vI o.ah) (D.ag 0 rfl)<|Op.px 3 [(8,.bool (o.ah==7))] (b4 (o.ah==7) (by(rw[iN];simp[bE, *];try omega)) _ (by kernel_rfl) (by kernel_rfl))
   refine Op.px 1 [(41,vP u)]<|Op.l1 3 41 42 0 (vI o.ah) (D.ag 0 rfl)<|Op.px 2 [(44,.bool (o.ah==4))]<|Op.wd (o.ah=4) 44 (fun f7=>?_) fun f8=>?_
   ·exact Op.px 5 [(7,vT)] (bt true (by(rw[iN];simp[bE, *];try omega)) _ (by kernel_rfl) (by kernel_rfl))
   exact Op.px 1 [(45,vP u)]<|Op.l1 3 45 46 0 (vI o.ah) (D.ag 0 rfl)<|Op.px 3 [(7,.bool (o.ah==5))] (bt (o.ah==5) (by(rw[iN];simp[bE, *];try omega)) _ (by kernel_rfl) (by kernel_rfl))
  refine Op.px 1 [(33,vP u)]<|Op.l1 3 33 34 0 (vI o.ah) (D.ag 0 rfl)<|Op.px 2 [(36,.bool (o.ah==3))]<|Op.wd (o.ah=3) 36 (fun f9=>?_) fun gc=>?_
  ·exact Op.px 5 [(6,vT)] (bs true (by(rw[iN];simp[bE, *];try omega)) _ (by kernel_rfl) (by kernel_rfl))
  exact Op.px 1 [(37,vP u)]<|Op.l1 3 37 38 0 (vI o.ah) (D.ag 0 rfl)<|Op.px 3 [(6,.bool (o.ah==5))] (bs (o.ah==5) (by(rw[iN];simp[bE, *];try omega)) _ (by kernel_rfl) (by kernel_rfl))
 refine Op.px 1 [(10,vP u)]<|Op.l1 3 10 11 0 (vI o.ah) (D.ag 0 rfl)<|Op.px 2 [(13,.bool (o.ah==3))]<|Op.wd (o.ah=3) 13 (fun ge=>?_) fun gg=>?_
 ·exact Op.px 20 [(5,vT)] (V true (by(rw[iN];simp[bE, *];try omega)) _ (by kernel_rfl) (by kernel_rfl))
 refine Op.px 1 [(14,vP u)]<|Op.l1 3 14 15 0 (vI o.ah) (D.ag 0 rfl)<|Op.px 3 [(18,.bool (o.ah==4))]<|Op.wd (o.ah=4) 18 (fun gk=>?_) fun gn=>?_
 ·exact Op.px 15 [(5,vT)] (V true (by(rw[iN];simp[bE, *];try omega)) _ (by kernel_rfl) (by kernel_rfl))
 refine Op.px 1 [(19,vP u)]<|Op.l1 3 19 20 0 (vI o.ah) (D.ag 0 rfl)<|Op.px 3 [(23,.bool (o.ah==5))]<|Op.wd (o.ah=5) 23 (fun gs=>?_) fun g1=>?_
 ·exact Op.px 10 [(5,vT)] (V true (by(rw[iN];simp[bE, *];try omega)) _ (by kernel_rfl) (by kernel_rfl))
 refine Op.px 1 [(24,vP u)]<|Op.l1 3 24 25 0 (vI o.ah) (D.ag 0 rfl)<|Op.px 3 [(28,.bool (o.ah==6))]<|Op.wd (o.ah=6) 28 (fun g2=>?_) fun g3=>?_
 ·exact Op.px 5 [(5,vT)] (V true (by(rw[iN];simp[bE, *];try omega)) _ (by kernel_rfl) (by kernel_rfl))
 exact Op.px 1 [(29,vP u)]<|Op.l1 3 29 30 0 (vI o.ah) (D.ag 0 rfl)<|Op.px 3 [(5,.bool (o.ah==7))] (V (o.ah==7) (by(rw[iN];simp[bE, *];try omega)) _ (by kernel_rfl) (by kernel_rfl))
theorem Tr (B:World) (h:ay) (g:GH) (hg:bu g h) (G:bz g) (o:aR) (u:Value) (I:an g 5 a_ u o.Data) (D:Value) (J:an g 25 dy D o.aB) (inner:Bool) (hs:cU o≤1000000000):aG prog B 28 #[.agg #[vI o.ah,vS o.af,u,vI o.ai,vI o.aI,.bool o.aV,.bool o.aK,.bool o.au,D],.bool inner] h g [] (fun O g' L'=>O=.bool (fe inner o)∧g'=g∧L'=[]):=Tq _ B h g hg G o u I D J inner hs (bG _)
theorem Ts (mr:Nat):∀(B:World) (h:ay) (g:GH) (hg:bu g h) (G:bz g) (o:aR) (a9:Value) (O:an g 5 a_ a9 o.Data) (bb:Value) (J:an g 25 dy bb o.aB) (hf:fe false o=true∨fe true o=true) (hs:cU o≤1000000000) (b5:cU o<mr),aG prog B 29 #[.agg #[vI o.ah,vS o.af,a9,vI o.ai,vI o.aI,.bool o.aV,.bool o.aK,.bool o.au,bb]] h g [] (fun dk g' L'=>∃v0,dk=v0∧an g' 5 a_ v0 ((bR o).1)∧L'=[]):=by
 induction mr with
 |zero=>intros;omega
 |succ mr dl=>
 intro B h g hg G o a9 O bb J hf hs b5
 obtain⟨U,V,rfl⟩:=O.ak
 obtain⟨Y,X,rfl⟩:=J.ak
 refine aG.aq func29 fun R hR=>At.rg 2<|Op.bx 1 25 0 #[vI o.ah,vS o.af,vL U o.Data.length V,vI o.ai,vI o.aI,.bool o.aV,.bool o.aK,.bool o.au,vL Y o.aB.length X] (St.init hg) fun u ej bc=>Op.pg 1 []<|At.go 2 1 [(3,vI 0)] ?_
 have b6:∀(m:Nat) (n:Int) (bd:ay) (hm:0<m) (hn:n=if o.aV then 1 else 0) (a0:St h g (aS []) g [[(u,Obj.cells #[vI o.ah,vS o.af,vL U o.Data.length V,vI o.ai,vI o.aI,.bool o.aV,.bool o.aK,.bool o.au,vL Y o.aB.length X] 25 (0,0))]] bd),At (bP prog B 29 f29 R) [] 5 [(1,vP u),(3,vI n)] bd:=by
  intro m;induction m with
  |zero=>intros;omega
  |succ m em=>
   intro n bd hm hn a0
   have b8:∀(m:Nat) (n2:Int) (be:ay) (hm:0<m) (dp:n2=(if o.aV then 1 else 0)+(if o.aK then 2 else 0)) (a1:St h g (aS []) g [[(u,Obj.cells #[vI o.ah,vS o.af,vL U o.Data.length V,vI o.ai,vI o.aI,.bool o.aV,.bool o.aK,.bool o.au,vL Y o.aB.length X] 25 (0,0))]] be),At (bP prog B 29 f29 R) [] 8 [(1,vP u),(3,vI n2)] be:=by
    intro m;induction m with
    |zero=>intros;omega
    |succ m en=>
     intro n2 be hm dp a1
     have ca:∀(m:Nat) (I:Int) (bi:ay) (hm:0<m) (cb:I=gy o) (ad:St h g (aS []) g [[(u,Obj.cells #[vI o.ah,vS o.af,vL U o.Data.length V,vI o.ai,vI o.aI,.bool o.aV,.bool o.aK,.bool o.au,vL Y o.aB.length X] 25 (0,0))]] bi),At (bP prog B 29 f29 R) [] 11 [(1,vP u),(3,vI I)] bi:=by
      intro m;induction m with
      |zero=>intros;omega
      |succ m ep=>
       intro I bi hm cb ad
       refine At.rp 15 1 [(23,vP u)]<|Op.l1 3 23 24 0 (vI o.ah) (ad.ag 0 rfl)<|Op.px 1 [(25,vQ u 3)]<|Op.l1 3 25 26 3 (vI o.ai) (ad.ag 0 rfl)<|Op.cO 27 (o.ai+1) (by(have h:=(vU hf).1;omega)) (by(have h:=(vU hf).1;omega)) ?_
       refine Op.px 1 [(28,vQ u 4)]<|Op.l1 3 28 29 4 (vI o.aI) (ad.ag 0 rfl)<|Op.px 1 [(30,vI I)]<|Op.ls 31 4 3 #[vI o.ah,vI (o.ai+1),vI o.aI,vI I] ad fun ce er dq=>?_
       have du:aH 3 (dK .i64) g (vL (some ⟨ce,0,none⟩) 4 4) [o.ah,o.ai+1,o.aI,I] [(ce,Obj.cells #[vI o.ah,vI (o.ai+1),vI o.aI,vI I] 3 (0,0))]:=aH.lit (by kernel_rfl) (by unfold maxLen;decide) (by kernel_rfl) ⟨_,_,rfl,rfl,⟨_,_,rfl,rfl,⟨_,_,rfl,rfl,⟨_,_,rfl,rfl,Reads.nil⟩⟩⟩⟩
       obtain⟨et,cf,bj,dv⟩:=aH.freeze du (dq)
       replace G:=G.mono bj
       replace O:=O.mono bj
       replace J:=J.mono bj
       refine Op.c0 (some 32) (C5 _ _ _ cf.sub G _ _ dv (by((try dsimp only)<;>((simp;done))))) cf ?_
       rintro _ ex _ eA bk ch ⟨eB,rfl,a3,rfl⟩
       obtain⟨a4,a5,rfl⟩:=a3.ak
       replace G:=G.mono bk
       replace O:=O.mono bk
       replace J:=J.mono bk
       refine Op.pg 12 [(4,vL a4 (((cr ([o.ah,o.ai+1,o.aI,I])).1).length) a5)]<|At.rp 8 2 [(35,vL a4 (((cr ([o.ah,o.ai+1,o.aI,I])).1).length) a5),(36,vQ u 1)]<|Op.l1 9 36 37 1 (vS o.af) (ch.ag 0 rfl)<|Op.toBytes (S:=9) (T:=22) (E:=5) (x:=37) (dst:=38) (l:=o.af) (by kernel_rfl) (by kernel_rfl) (by kernel_rfl) (by kernel_rfl) (by kernel_rfl) (by(have:=fD o;omega)) ch fun eI eJ eK ci ck=>?_
       obtain⟨co,c3,rfl⟩:=ci.ak
       refine Op.px 1 [(39,vQ u 2)]<|Op.l1 22 39 40 2 (vL U o.Data.length V) (ck.ag 1 rfl) ?_
       obtain⟨c4,dC,a6,dE⟩:=p_.freeze ci (ck)
       replace G:=G.mono a6
       replace O:=O.mono a6
       replace J:=J.mono a6
       replace a3:=a3.mono a6
       refine Op.ls 41 3 22 #[vL a4 (((cr ([o.ah,o.ai+1,o.aI,I])).1).length) a5,vL co o.af.length c3,vL U o.Data.length V] dC fun bm eL dT=>Op.pg 13 [(6,vL (some ⟨bm,0,none⟩) 3 3)]<|At.go 14 1 [(7,vI 0)] ?_
       have d0:∀(m:Nat) (a7:GH) (a8:aM c4 a7) (bL:List aj) (i:Int) (ae:Option Addr) (am:Nat) (bo:az) (bs:ay) (hm:o.aB.length-i.toNat<m) (h0:0≤i) (h1:i≤o.aB.length) (hI:qM o bL i) (ar:aH 22 (fI 5 a_) a7 (.slice ae bL.length am) bL bo) (Z:St h g (aS []) a7 [bo,[(u,Obj.cells #[vI o.ah,vS o.af,vL U o.Data.length V,vI o.ai,vI o.aI,.bool o.aV,.bool o.aK,.bool o.au,vL Y o.aB.length X] 25 (0,0))]] bs),At (bP prog B 29 f29 R) [] 14 [(1,vP u),(6,vL ae bL.length am),(7,vI i)] bs:=by
        intro m;induction m with
        |zero=>intros;omega
        |succ m d1=>
         intro a7 a8 bL i ae am bo bs hm h0 h1 hI ar Z
         replace G:=G.mono a8
         replace J:=J.mono a8
         refine At.rp 5 2 [(42,vI i),(43,vQ u 8)]<|Op.l1 23 43 44 8 (vL Y o.aB.length X) (Z.ag 1 rfl)<|Op.pg 15 [(46,.bool (decide (i<(o.aB.length:Int))))]<|At.fd (i<(o.aB.length:Int)) 46 16 18 (fun eQ=>?_) fun e1=>?_
         ·refine At.rp 10 2 [(49,vL ae bL.length am),(50,vQ u 8)]<|Op.l1 23 50 51 8 (vL Y o.aB.length X) (Z.ag 1 rfl)<|Op.px 1 [(52,vI i)] ?_
          obtain⟨D,ab⟩:=bW o.aB i
          obtain⟨d2,c5,e2,e3,d3,bt,aw⟩:=an.bB J _ ab
          cases d3
          refine Op.iq 23 25 9 96 o.aB.length X 51 52 53 d2 c5 i ?_
          replace aw:=k9.1 aw
          obtain⟨e4,e5,c6,c8,aw⟩:=aw
          obtain⟨d4,d5,rfl⟩:=c6.ak
          obtain⟨d6,d7,rfl⟩:=c8.ak
          refine Op.la 25 53 54 (c5+i.toNat*9) 9 [vI D.ah,vS D.af,vL d4 D.Data.length d5,vI D.ai,vI D.aI,.bool D.aV,.bool D.aK,.bool D.au,vL d6 D.aB.length d7] (Z.sub _ _ bt) ?_ (hv:=aw)
          refine Op.c0 (some 55) (dl _ _ _ Z.sub G D _ c6 _ c8 (by(try dsimp only)<;>exact .inr ((vU hf).2.2 _ (bY ab)).1) (by((try dsimp only)<;>((have:=iP (bY ab);omega)))) (by exact nR (iP (bY ab)) (r9 b5))) Z ?_
          rintro _ e6 _ e7 c9 d8 ⟨e8,rfl,da,rfl⟩
          obtain⟨db,dc,rfl⟩:=da.ak
          replace bt:=c9 _ _ bt
          replace ar:=ar.mono c9
          refine Op.ls 56 1 22 #[vL db (((bR D).1).length) dc] d8 fun e9 fa dd=>Op.ap 49 56 76 76 57 22 24 (fI 5 a_) (ys:=[(bR D).1]) ar dd 1 (⟨_,_,rfl,⟨_,rfl,da⟩,Reads.nil⟩) (by(have h:=zS hI (vU hf).2.1;simp only[bJ,cF];omega)) (fun _ _ _=>trivial) (cT.lit (m:=1) (sz:=1) (dd.ag 0 rfl) (news:=[vL db (((bR D).1).length) dc]) rfl rfl (by simp[Value.oneCell']) _) fun fg fi fj df d9 fl=>?_
          obtain⟨ea,eb,rfl⟩:=df.ak
          exact Op.pg 17 [(6,vL ea ((bL++([(bR D).1])).length) eb)]<|At.rp 3 1 [(47,vI i)]<|Op.cO 48 (i+1) (by omega) (by(have:=fD o;omega))<|Op.pg 14 [(7,vI (i+1))] (At.ke (d1 _ (aM.trans a8 (by repeat (first|assumption|apply aM.trans))) (bL++([(bR D).1])) (i+1) _ _ _ _ (by omega) (by omega) (by omega) (by exact IE hI h0 ab ((vU hf).2.2 _ (bY ab)).2) df ((d9).drop)))
         refine At.rp 7 1 [(59,vL ae bL.length am)] ?_
         obtain⟨fp,dg,ed,ee⟩:=aH.freeze ar (Z)
         replace G:=G.mono ed
         refine Op.c0 (some 60) (zL _ _ _ dg.sub G _ _ ee (by((try dsimp only)<;>((have h:=zS hI (vU hf).2.1;omega))))) dg ?_
         rintro _ fr _ ft fv ef ⟨fw,rfl,dj,rfl⟩
         obtain⟨b3,b4,rfl⟩:=dj.ak
         exact Op.pg 19 [(8,vL b3 (((b7 bL).1).length) b4)]<|At.gr 20 2 2 (vL b3 (((b7 bL).1).length) b4) (hR ef.drop ⟨(vL b3 (((b7 bL).1).length) b4),rfl,bl dj (by(rw[Di hI ‹_›])),rfl⟩)
       have eh:aH 22 (fI 5 a_) c4 (vL (some ⟨bm,0,none⟩) 3 3) [(cr ([o.ah,o.ai+1,o.aI,I])).1,o.af,o.Data] [(bm,Obj.cells #[vL a4 (((cr ([o.ah,o.ai+1,o.aI,I])).1).length) a5,vL co o.af.length c3,vL U o.Data.length V] 22 (0,0))]:=aH.lit (by kernel_rfl) (by unfold maxLen;decide) (by kernel_rfl) ⟨_,_,rfl,⟨_,rfl,a3⟩,⟨_,_,rfl,⟨_,rfl,dE⟩,⟨_,_,rfl,⟨_,rfl,O⟩,Reads.nil⟩⟩⟩
       exact At.ke (d0 _ _ (aM.refl _) ([(cr ([o.ah,o.ai+1,o.aI,I])).1,o.af,o.Data]) 0 _ _ _ _ (bG _) (by omega) (by omega) (by(subst cb;exact IC o)) eh dT)
     refine At.rp 2 1 [(18,vQ u 7)]<|Op.l1 4 18 19 7 (.bool o.au) (a1.ag 0 rfl)<|Op.gt 9<|At.cW o.au 19 10 11 (fun fx=>?_) fun f0=>?_
     ·exact At.rp 3 1 [(20,vI n2)]<|Op.vq 21 (n2+4)<|Op.pg 11 [(3,vI (n2+4))] (At.ke (ca _ (n2+4) _ (bG _) (by(unfold gy;simp[*];done)) a1))
     exact At.ke (ca _ n2 _ (bG _) (by(unfold gy;simp[*];done)) a1)
   refine At.rp 2 1 [(14,vQ u 6)]<|Op.l1 4 14 15 6 (.bool o.aK) (a0.ag 0 rfl)<|Op.gt 6<|At.cW o.aK 15 7 8 (fun f1=>?_) fun f2=>?_
   ·exact At.rp 3 1 [(16,vI n)]<|Op.vq 17 (n+2)<|Op.pg 8 [(3,vI (n+2))] (At.ke (b8 _ (n+2) _ (bG _) (by(simp[*];done)) a0))
   exact At.ke (b8 _ n _ (bG _) (by(simp[*];done)) a0)
 refine At.rp 2 1 [(10,vQ u 5)]<|Op.l1 4 10 11 5 (.bool o.aV) (bc.ag 0 rfl)<|Op.gt 3<|At.cW o.aV 11 4 5 (fun f3=>?_) fun f4=>?_
 ·exact At.rp 3 1 [(12,vI 0)]<|Op.vq 13 ((0:Int)+1)<|Op.pg 5 [(3,vI ((0:Int)+1))] (At.ke (b6 _ ((0:Int)+1) _ (bG _) (by(simp[*];done)) bc))
 exact At.ke (b6 _ 0 _ (bG _) (by(simp[*];done)) bc)
theorem Tt (B:World) (h:ay) (g:GH) (hg:bu g h) (G:bz g) (o:aR) (u:Value) (I:an g 5 a_ u o.Data) (D:Value) (J:an g 25 dy D o.aB) (hf:fe false o=true∨fe true o=true) (hs:cU o≤1000000000):aG prog B 29 #[.agg #[vI o.ah,vS o.af,u,vI o.ai,vI o.aI,.bool o.aV,.bool o.aK,.bool o.au,D]] h g [] (fun O g' L'=>∃v0,O=v0∧an g' 5 a_ v0 ((bR o).1)∧L'=[]):=Ts _ B h g hg G o u I D J hf hs (bG _)
theorem Lu (B:World) (h:ay) (g:GH) (hg:bu g h) (Z:bz g) (o:aR) (ab:Value) (U:an g 5 a_ ab o.Data) (ad:Value) (V:an g 25 dy ad o.aB) (hs:cU o≤1000000000):
  aG prog B 9 #[.agg #[vI o.ah,vS o.af,ab,vI o.ai,vI o.aI,.bool o.aV,.bool o.aK,.bool o.au,ad]] h g [] (fun a0 g' L'=>∃v0,a0=.tuple #[v0,.int .i64 ((bQ o).2)]∧an g' 5 a_ v0 ((bQ o).1)∧L'=[]):=by
 obtain⟨X,Y,rfl⟩:=U.ak
 obtain⟨D,G,rfl⟩:=V.ak
 refine aG.aq func9 fun R hR=>At.rg 3<|Op.bx 1 25 0 #[vI o.ah,vS o.af,vL X o.Data.length Y,vI o.ai,vI o.aI,.bool o.aV,.bool o.aK,.bool o.au,vL D o.aB.length G] (St.init hg) fun a1 a3 u=>Op.pg 1 []<|At.rp 9 1 [(5,vQ a1 8)] ?_
 refine Op.l1 23 5 6 8 (vL D o.aB.length G) (u.ag 0 rfl)<|Op.px 3 [(9,.bool (decide ((o.aB.length:Int)>4)))]<|Op.wd ((o.aB.length:Int)>4) 9 (fun a4=>?_) fun a5=>?_
 ·exact Op.pg 2 [(13,vT)]<|At.bT 13 3<|At.go 4 2 [(2,vN),(3,vI 130)]<|At.rt (.tuple #[vN,vI 130]) (hR u.drop ⟨vN,bA rfl (bg (by(rw[Lh ‹_›]))),bl (an.empty _ _ _ _ _) (by(rw[Lh ‹_›])),rfl⟩)
 refine Op.la 25 1 10 0 9 [vI o.ah,vS o.af,vL X o.Data.length Y,vI o.ai,vI o.aI,.bool o.aV,.bool o.aK,.bool o.au,vL D o.aB.length G] (u.ag 0 rfl)<|Op.c1 11 (Tr _ _ _ u.sub Z o _ U _ V false (by(try dsimp only)<;>omega)) u fun a6 I=>Op.pg 2 [(13,.bool (!(fe false o)))]<|At.cW (!(fe false o)) 13 3 5 (fun ae=>?_) fun am=>?_
 ·replace ae:=(dn ae)
  exact At.go 4 2 [(2,vN),(3,vI 130)]<|At.rt (.tuple #[vN,vI 130]) (hR I.drop ⟨vN,bA rfl (bg (by(rw[Li ‹_›]))),bl (an.empty _ _ _ _ _) (by(rw[Li ‹_›])),rfl⟩)
 replace am:=(dr am)
 refine At.rg 3<|Op.la 25 1 14 0 9 [vI o.ah,vS o.af,vL X o.Data.length Y,vI o.ai,vI o.aI,.bool o.aV,.bool o.aK,.bool o.au,vL D o.aB.length G] (I.ag 0 rfl)<|Op.c0 (some 15) (Tt _ _ _ I.sub Z o _ U _ V (by((try dsimp only)<;>(exact .inl ‹_›))) (by(try dsimp only)<;>omega)) I ?_
 rintro _ a7 _ a8 a9 ar ⟨bb,rfl,aw,rfl⟩
 obtain⟨J,O,rfl⟩:=aw.ak
 refine Op.pg 6 [(4,vL J (((bR o).1).length) O)]<|At.go 7 3 [(18,.bool (decide ((((bR o).1).length:Int)>1024)))]<|At.fd ((((bR o).1).length:Int)>1024) 18 8 10 (fun bc=>?_) fun bd=>?_
 ·exact At.go 9 2 [(2,vN),(3,vI 130)]<|At.rt (.tuple #[vN,vI 130]) (hR ar.drop ⟨vN,bA rfl (bg (by(rw[Lj ‹_›]))),bl (an.empty _ _ _ _ _) (by(rw[Lj ‹_›])),rfl⟩)
 exact At.go 11 3 [(2,vL J (((bR o).1).length) O),(3,vI 0)]<|At.rt (.tuple #[vL J (((bR o).1).length) O,vI 0]) (hR ar.drop ⟨(vL J (((bR o).1).length) O),bA rfl (bg (by(rw[Ll ‹_› ‹_›]))),bl aw (by(rw[Ll ‹_› ‹_›])),rfl⟩)
theorem Tu (mr:Nat):∀(B:World) (h:ay) (g:GH) (hg:bu g h) (ar:bz g) (dq:Value) (b:aj) (du:an g 5 a_ dq b) (deep:Int) (hl:b.length≤1000000000) (hd:deep=0∨deep=1) (hX:deep.toNat<mr),aG prog B 31 #[dq,vI deep] h g [] (fun hY g' L'=>∃v0 v1,hY=.tuple #[.agg #[.int .i64 ((bq (decide (deep=0)) b).ah),.string (br ((bq (decide (deep=0)) b).af)),v0,.int .i64 ((bq (decide (deep=0)) b).ai),.int .i64 ((bq (decide (deep=0)) b).aI),.bool ((bq (decide (deep=0)) b).aV),.bool ((bq (decide (deep=0)) b).aK),.bool ((bq (decide (deep=0)) b).au),v1],.bool ((aT (decide (deep=0)) b).2)]∧an g' 5 a_ v0 ((bq (decide (deep=0)) b).Data)∧an g' 25 dy v1 ((bq (decide (deep=0)) b).aB)∧L'=[]):=by
 induction mr with
 |zero=>intros;omega
 |succ mr e4=>
 intro B h g hg ar dq b du deep hl hd hX
 obtain⟨hZ,h2,rfl⟩:=du.ak
 refine aG.aq func31 fun R hR=>At.rg 2<|Op.al 4 25 #[vI 0,vS [],vN,vI 0,vI 0,vF,vF,vF,vN] (St.init hg) fun b6 ol h3=>Op.pg 1 []<|At.rp 3 1 [(13,.agg #[vI 0,vS [],vN,vI 0,vI 0,vF,vF,vF,vN])] ?_
 refine Op.al 6 25 #[vI 0,vS [],vN,vI 0,vI 0,vF,vF,vF,vN] h3 fun O or h4=>Op.sg 25 6 13 0 0 #[vI 0,vS [],vN,vI 0,vI 0,vF,vF,vF,vN] h4 zt fun ow e5=>Op.gt 2<|At.rp 7 1 [(15,vL hZ b.length h2)]<|Op.c0 (some 16) (zM _ _ _ e5.sub ar _ _ du (by(try dsimp only)<;>omega)) e5 ?_
 rintro _ o3 _ o4 h5 a7 ⟨o5,rfl,ae,rfl⟩
 obtain⟨e6,ab,rfl⟩:=ae.ak
 replace ar:=ar.mono h5
 refine Op.pg 3 [(7,vL e6 (((aJ b).1).length) ab),(8,vI ((aJ b).2))]<|At.rp 7 3 [(21,.bool (((aJ b).2) != 0))]<|Op.wb (((aJ b).2) != 0) 21 (fun e7=>?_) fun e8=>?_
 ·replace e7:=fY e7
  refine Op.pg 4 [(25,vT)]<|At.bT 25 5<|At.rg 3<|Op.la 25 6 26 0 9 [vI 0,vS [],vN,vI 0,vI 0,vF,vF,vF,vN] (a7.ag 0 rfl)<|Op.sg 25 4 26 0 1 #[vI 0,vS [],vN,vI 0,vI 0,vF,vF,vF,vN] a7 zt fun pa e9=>?_
  exact Op.pg 6 [(5,vF)]<|At.rn f31 [.agg #[vI 0,vS [],vN,vI 0,vI 0,vF,vF,vF,vN],vF] [.cell 4 25,.tmp 5] ⟨⟨_,_,rfl,cq (n:=9) (by kernel_rfl) (e9.ag 1 rfl) (by kernel_rfl) rfl⟩,rfl,trivial⟩ (hR e9.drop.drop ⟨vN,vN,bA (by(rw[kO (rW ‹_›)];rfl)) (bn (by(rw[fT (rW ‹_›)];done))),bl (an.empty _ _ _ _ _) (by(rw[kO (rW ‹_›)];rfl)),bl (an.empty _ _ _ _ _) (by(rw[kO (rW ‹_›)];rfl)),rfl⟩)
 replace e8:=gB e8
 refine Op.pg 4 [(25,.bool (decide ((((aJ b).1).length:Int)<3)))]<|At.fd ((((aJ b).1).length:Int)<3) 25 5 7 (fun pb=>?_) fun pc=>?_
 ·exact At.rg 3<|Op.la 25 6 26 0 9 [vI 0,vS [],vN,vI 0,vI 0,vF,vF,vF,vN] (a7.ag 0 rfl)<|Op.sg 25 4 26 0 1 #[vI 0,vS [],vN,vI 0,vI 0,vF,vF,vF,vN] a7 zt fun pd fa=>Op.pg 6 [(5,vF)]<|At.rn f31 [.agg #[vI 0,vS [],vN,vI 0,vI 0,vF,vF,vF,vN],vF] [.cell 4 25,.tmp 5] ⟨⟨_,_,rfl,cq (n:=9) (by kernel_rfl) (fa.ag 1 rfl) (by kernel_rfl) rfl⟩,rfl,trivial⟩ (hR fa.drop.drop ⟨vN,vN,bA (by(rw[kO (rX ‹_›)];rfl)) (bn (by(rw[fT (rX ‹_›)];done))),bl (an.empty _ _ _ _ _) (by(rw[kO (rX ‹_›)];rfl)),bl (an.empty _ _ _ _ _) (by(rw[kO (rX ‹_›)];rfl)),rfl⟩)
 refine At.rp 9 1 [(28,vL e6 (((aJ b).1).length) ab)] ?_
 obtain⟨I,Z⟩:=bW ((aJ b).1) 0
 obtain⟨ad,Y,pf,ph,h6,dv,dC⟩:=an.bB ae _ Z
 cases h6
 refine Op.iq 76 22 1 24 (((aJ b).1).length) ab 28 (.const (vI 0)) 29 ad Y 0 ?_
 obtain⟨v53,dC,fg⟩:=dC
 obtain⟨h7,h8,rfl⟩:=fg.ak
 refine Op.l1 22 29 30 (Y+(0:Int).toNat*1) (vL h7 I.length h8) (a7.sub _ _ dv) ?_ (hv:=bN dC 0 rfl)
 refine Op.c0 (some 31) (C6 _ _ _ a7.sub ar _ _ fg (by((try dsimp only)<;>((have:=oP Z;omega))))) a7 ?_
 rintro _ bc _ pj dE aw ⟨pl,rfl,am,rfl⟩
 obtain⟨fi,U,rfl⟩:=am.ak
 replace dv:=dE _ _ dv
 replace ar:=ar.mono dE
 replace ae:=ae.mono dE
 refine Op.pg 8 [(8,vI ((bh I).2)),(9,vL fi (((bh I).1).length) U)]<|At.rp 22 3 [(36,.bool (((bh I).2) != 0))]<|Op.wb (((bh I).2) != 0) 36 (fun fj=>?_) fun fl=>?_
 ·replace fj:=fY fj
  refine Op.pg 9 [(55,vT)]<|At.bT 55 10<|At.rg 3<|Op.la 25 6 56 0 9 [vI 0,vS [],vN,vI 0,vI 0,vF,vF,vF,vN] (aw.ag 0 rfl)<|Op.sg 25 4 56 0 1 #[vI 0,vS [],vN,vI 0,vI 0,vF,vF,vF,vN] aw zt fun pm fp=>?_
  exact Op.pg 11 [(5,vF)]<|At.rn f31 [.agg #[vI 0,vS [],vN,vI 0,vI 0,vF,vF,vF,vN],vF] [.cell 4 25,.tmp 5] ⟨⟨_,_,rfl,cq (n:=9) (by kernel_rfl) (fp.ag 1 rfl) (by kernel_rfl) rfl⟩,rfl,trivial⟩ (hR fp.drop.drop ⟨vN,vN,bA (by(rw[kO (lT Z (AH ‹_›))];rfl)) (bn (by(rw[fT (lT Z (AH ‹_›))];done))),bl (an.empty _ _ _ _ _) (by(rw[kO (lT Z (AH ‹_›))];rfl)),bl (an.empty _ _ _ _ _) (by(rw[kO (lT Z (AH ‹_›))];rfl)),rfl⟩)
 replace fl:=gB fl
 refine Op.px 5 [(41,.bool ((((bh I).1).length:Int) != 4))]<|Op.wb ((((bh I).1).length:Int) != 4) 41 (fun fr=>?_) fun ft=>?_
 ·replace fr:=fY fr
  refine Op.pg 9 [(55,vT)]<|At.bT 55 10<|At.rg 3<|Op.la 25 6 56 0 9 [vI 0,vS [],vN,vI 0,vI 0,vF,vF,vF,vN] (aw.ag 0 rfl)<|Op.sg 25 4 56 0 1 #[vI 0,vS [],vN,vI 0,vI 0,vF,vF,vF,vN] aw zt fun po fv=>?_
  exact Op.pg 11 [(5,vF)]<|At.rn f31 [.agg #[vI 0,vS [],vN,vI 0,vI 0,vF,vF,vF,vN],vF] [.cell 4 25,.tmp 5] ⟨⟨_,_,rfl,cq (n:=9) (by kernel_rfl) (fv.ag 1 rfl) (by kernel_rfl) rfl⟩,rfl,trivial⟩ (hR fv.drop.drop ⟨vN,vN,bA (by(rw[kO (lT Z (AG ‹_›))];rfl)) (bn (by(rw[fT (lT Z (AG ‹_›))];done))),bl (an.empty _ _ _ _ _) (by(rw[kO (lT Z (AG ‹_›))];rfl)),bl (an.empty _ _ _ _ _) (by(rw[kO (lT Z (AG ‹_›))];rfl)),rfl⟩)
 replace ft:=gB ft
 refine Op.px 1 [(42,vL fi (((bh I).1).length) U)] ?_
 obtain⟨u,X⟩:=bW ((bh I).1) 3
 obtain⟨V,J,pu,pv,ib,ih,dT⟩:=an.bB am _ X
 cases ib
 refine Op.iq 78 3 1 8 (((bh I).1).length) U 42 (.const (vI 3)) 43 V J 3 ?_
 replace dT:cut _ _ _=[vI u]:=dT
 refine Op.l1 3 43 44 (J+(3:Int).toNat*1) (vI u) (aw.sub _ _ ih) ?_ (hv:=bN dT 0 rfl)
 refine Op.px 3 [(47,.bool (decide (u>7)))]<|Op.wd (u>7) 47 (fun pw=>?_) fun py=>?_
 ·refine Op.pg 9 [(55,vT)]<|At.bT 55 10<|At.rg 3<|Op.la 25 6 56 0 9 [vI 0,vS [],vN,vI 0,vI 0,vF,vF,vF,vN] (aw.ag 0 rfl)<|Op.sg 25 4 56 0 1 #[vI 0,vS [],vN,vI 0,vI 0,vF,vF,vF,vN] aw zt fun pA fw=>?_
  exact Op.pg 11 [(5,vF)]<|At.rn f31 [.agg #[vI 0,vS [],vN,vI 0,vI 0,vF,vF,vF,vN],vF] [.cell 4 25,.tmp 5] ⟨⟨_,_,rfl,cq (n:=9) (by kernel_rfl) (fw.ag 1 rfl) (by kernel_rfl) rfl⟩,rfl,trivial⟩ (hR fw.drop.drop ⟨vN,vN,bA (by(rw[kO (n9 Z X ‹_›)];rfl)) (bn (by(rw[fT (n9 Z X ‹_›)];done))),bl (an.empty _ _ _ _ _) (by(rw[kO (n9 Z X ‹_›)];rfl)),bl (an.empty _ _ _ _ _) (by(rw[kO (n9 Z X ‹_›)];rfl)),rfl⟩)
 refine Op.px 3 [(50,.bool (deep==0))]<|Op.wd (deep=0) 50 (fun pB=>?_) fun pC=>?_
 ·refine Op.pg 9 [(55,.bool (decide ((((aJ b).1).length:Int)>3)))]<|At.fd ((((aJ b).1).length:Int)>3) 55 10 12 (fun pD=>?_) fun p0=>?_
  ·exact At.rg 3<|Op.la 25 6 56 0 9 [vI 0,vS [],vN,vI 0,vI 0,vF,vF,vF,vN] (aw.ag 0 rfl)<|Op.sg 25 4 56 0 1 #[vI 0,vS [],vN,vI 0,vI 0,vF,vF,vF,vN] aw zt fun p1 fx=>Op.pg 11 [(5,vF)]<|At.rn f31 [.agg #[vI 0,vS [],vN,vI 0,vI 0,vF,vF,vF,vN],vF] [.cell 4 25,.tmp 5] ⟨⟨_,_,rfl,cq (n:=9) (by kernel_rfl) (fx.ag 1 rfl) (by kernel_rfl) rfl⟩,rfl,trivial⟩ (hR fx.drop.drop ⟨vN,vN,bA (by(rw[kO (rY (gb ‹_›) ‹_›)];rfl)) (bn (by(rw[fT (rY (gb ‹_›) ‹_›)];done))),bl (an.empty _ _ _ _ _) (by(rw[kO (rY (gb ‹_›) ‹_›)];rfl)),bl (an.empty _ _ _ _ _) (by(rw[kO (rY (gb ‹_›) ‹_›)];rfl)),rfl⟩)
  refine At.rp 5 1 [(57,vL (some ⟨V,J,none⟩) (((bh I).1).length) U)] ?_
  obtain⟨a0,f0⟩:=bW ((bh I).1) 0
  obtain⟨p2,p3,p8,qr,ii,ik,d0⟩:=an.bB am _ f0
  cases ii
  refine Op.iq 78 3 1 8 (((bh I).1).length) U 57 (.const (vI 0)) 58 V J 0 ?_
  replace d0:cut _ _ _=[vI a0]:=d0
  refine Op.l1 3 58 59 (J+(0:Int).toNat*1) (vI a0) (aw.sub _ _ ik) ?_ (hv:=bN d0 0 rfl)
  refine Op.px 1 [(60,vP O)]<|Op.s1 3 60 59 0 (vI a0) 0 #[vI a0,vS [],vN,vI 0,vI 0,vF,vF,vF,vN] aw zt fun q0 f1=>Op.gt 13<|At.rp 6 1 [(61,vL (some ⟨V,J,none⟩) (((bh I).1).length) U)] ?_
  obtain⟨a1,b8⟩:=bW ((bh I).1) 1
  obtain⟨q1,q2,q3,ra,il,io,d1⟩:=an.bB am _ b8
  cases il
  refine Op.iq 78 3 1 8 (((bh I).1).length) U 61 (.const (vI 1)) 62 V J 1 ?_
  replace d1:cut _ _ _=[vI a1]:=d1
  refine Op.l1 3 62 63 (J+(1:Int).toNat*1) (vI a1) (f1.sub _ _ io) ?_ (hv:=bN d1 0 rfl)
  refine Op.cO 64 (a1-1) (by(have:=gT b8;omega)) (by(have:=gT b8;omega))<|Op.px 1 [(65,vQ O 3)]<|Op.s1 3 65 64 3 (vI (a1-1)) 0 #[vI a0,vS [],vN,vI (a1-1),vI 0,vF,vF,vF,vN] f1 zt fun rb f2=>Op.gt 14<|At.rp 5 1 [(66,vL (some ⟨V,J,none⟩) (((bh I).1).length) U)] ?_
  obtain⟨a5,f3⟩:=bW ((bh I).1) 2
  obtain⟨rc,rd,re,rf,ip,is,d2⟩:=an.bB am _ f3
  cases ip
  refine Op.iq 78 3 1 8 (((bh I).1).length) U 66 (.const (vI 2)) 67 V J 2 ?_
  replace d2:cut _ _ _=[vI a5]:=d2
  refine Op.l1 3 67 68 (J+(2:Int).toNat*1) (vI a5) (f2.sub _ _ is) ?_ (hv:=bN d2 0 rfl)
  refine Op.px 1 [(69,vQ O 4)]<|Op.s1 3 69 68 4 (vI a5) 0 #[vI a0,vS [],vN,vI (a1-1),vI a5,vF,vF,vF,vN] f2 zt fun rh f4=>Op.gt 15<|At.rp 7 1 [(70,vL (some ⟨V,J,none⟩) (((bh I).1).length) U)] ?_
  obtain⟨rk,rr,rv,rx,iv,i0,d3⟩:=an.bB am _ X
  cases iv
  refine Op.iq 78 3 1 8 (((bh I).1).length) U 70 (.const (vI 3)) 71 V J 3 ?_
  replace d3:cut _ _ _=[vI u]:=d3
  refine Op.l1 3 71 72 (J+(3:Int).toNat*1) (vI u) (f4.sub _ _ i0) ?_ (hv:=bN d3 0 rfl)
  refine Op.vl 73 (.int .i64 (Int.tmod u (2:Int))) (.int .i64 (u % (2:Int))) (sP (by(have:=gT X;omega)))<|Op.px 2 [(74,.bool ((u % 2)==1)),(75,vQ O 5)]<|Op.s1 4 75 74 5 (.bool ((u % 2)==1)) 0 #[vI a0,vS [],vN,vI (a1-1),vI a5,.bool ((u % 2)==1),vF,vF,vN] f4 zt fun r0 f5=>Op.gt 16<|At.rp 8 1 [(76,vL (some ⟨V,J,none⟩) (((bh I).1).length) U)] ?_
  obtain⟨r1,r2,r3,sc,i1,i3,d4⟩:=an.bB am _ X
  cases i1
  refine Op.iq 78 3 1 8 (((bh I).1).length) U 76 (.const (vI 3)) 77 V J 3 ?_
  replace d4:cut _ _ _=[vI u]:=d4
  refine Op.l1 3 77 78 (J+(3:Int).toNat*1) (vI u) (f5.sub _ _ i3) ?_ (hv:=bN d4 0 rfl)
  refine Op.vl 79 (.int .i64 (IntKind.wrap .i64 (Int.tdiv u (2:Int)))) (.int .i64 (u / (2:Int))) (wG (by(have:=gT X;omega)) (by omega) (by omega))<|Op.vl 80 (.int .i64 (Int.tmod (u / 2) (2:Int))) (.int .i64 ((u / 2) % (2:Int))) (sP (by(have:=gT X;omega)))<|Op.px 2 [(81,.bool (((u / 2) % 2)==1)),(82,vQ O 6)]<|Op.s1 4 82 81 6 (.bool (((u / 2) % 2)==1)) 0 #[vI a0,vS [],vN,vI (a1-1),vI a5,.bool ((u % 2)==1),.bool (((u / 2) % 2)==1),vF,vN] f5 zt fun sd f6=>Op.gt 17 ?_
  refine At.rp 7 1 [(83,vL (some ⟨V,J,none⟩) (((bh I).1).length) U)] ?_
  obtain⟨sf,sh,sk,sm,i4,i5,d5⟩:=an.bB am _ X
  cases i4
  refine Op.iq 78 3 1 8 (((bh I).1).length) U 83 (.const (vI 3)) 84 V J 3 ?_
  replace d5:cut _ _ _=[vI u]:=d5
  refine Op.l1 3 84 85 (J+(3:Int).toNat*1) (vI u) (f6.sub _ _ i5) ?_ (hv:=bN d5 0 rfl)
  refine Op.vl 86 (.int .i64 (IntKind.wrap .i64 (Int.tdiv u (4:Int)))) (.int .i64 (u / (4:Int))) (wG (by(have:=gT X;omega)) (by omega) (by omega))<|Op.px 2 [(87,.bool ((u / 4)==1)),(88,vQ O 7)]<|Op.s1 4 88 87 7 (.bool ((u / 4)==1)) 0 #[vI a0,vS [],vN,vI (a1-1),vI a5,.bool ((u % 2)==1),.bool (((u / 2) % 2)==1),.bool ((u / 4)==1),vN] f6 zt fun so d6=>Op.gt 18<|At.rp 6 1 [(89,vL (some ⟨ad,Y,none⟩) (((aJ b).1).length) ab)] ?_
  obtain⟨a8,f7⟩:=bW ((aJ b).1) 1
  obtain⟨ss,st,sA,sB,i6,i7,d7⟩:=an.bB ae _ f7
  cases i6
  refine Op.iq 76 22 1 24 (((aJ b).1).length) ab 89 (.const (vI 1)) 90 ad Y 1 ?_
  obtain⟨sT,d7,f8⟩:=d7
  obtain⟨i8,n170,rfl⟩:=f8.ak
  refine Op.l1 22 90 91 (Y+(1:Int).toNat*1) (vL i8 a8.length n170) (d6.sub _ _ i7) ?_ (hv:=bN d7 0 rfl)
  refine Op.Bu (T:=22) (S:=9) (E:=5) (x:=91) (dst:=92) (l:=a8) (by kernel_rfl) (by kernel_rfl) (by kernel_rfl) (by kernel_rfl) (by kernel_rfl) (f8.toH d6.sub)<|Op.px 1 [(93,vQ O 1)]<|Op.s1 9 93 92 1 (vS a8) 0 #[vI a0,vS a8,vN,vI (a1-1),vI a5,.bool ((u % 2)==1),.bool (((u / 2) % 2)==1),.bool ((u / 4)==1),vN] d6 zt fun s0 f9=>Op.gt 19<|At.rp 5 1 [(94,vL (some ⟨ad,Y,none⟩) (((aJ b).1).length) ab)] ?_
  obtain⟨bj,gc⟩:=bW ((aJ b).1) 2
  obtain⟨s2,s3,s4,s5,i9,jf,d8⟩:=an.bB ae _ gc
  cases i9
  refine Op.iq 76 22 1 24 (((aJ b).1).length) ab 94 (.const (vI 2)) 95 ad Y 2 ?_
  obtain⟨v182,d8,ge⟩:=d8
  obtain⟨d9,ea,rfl⟩:=ge.ak
  refine Op.l1 22 95 96 (Y+(2:Int).toNat*1) (vL d9 bj.length ea) (f9.sub _ _ jf) ?_ (hv:=bN d8 0 rfl)
  refine Op.px 1 [(97,vQ O 2)]<|Op.s1 22 97 96 2 (vL d9 bj.length ea) 0 #[vI a0,vS a8,vL d9 bj.length ea,vI (a1-1),vI a5,.bool ((u % 2)==1),.bool (((u / 2) % 2)==1),.bool ((u / 4)==1),vN] f9 zt fun s8 jj=>Op.gt 20<|At.go 21 1 [(10,vI 3)] ?_
  have js:=aH.nil 25 dy bc
  obtain⟨ta,jt,j1⟩:=St.bF (Q:=mC bc O (⟨a0,a8,bj,a1-1,a5,(u % 2)==1,((u / 2) % 2)==1,(u / 4)==1,([]:List aR)⟩:aR)) 2 (jj.nl.fs [1] rfl) ⟨_,_,_,rfl,ge,js⟩
  have eb:∀(m:Nat) (ca:GH) (cb:aM bc ca) (ob:aR) (i:Int) (ed:az) (ee:ay) (hm:((aJ b).1).length-i.toNat<m) (h0:3≤i) (h1:i≤((aJ b).1).length) (hB:fS (decide (deep=0)) b=true) (hP:nD b ob (i-3)) (ef:(ob.aB.length:Int)=i-3) (bd:mC ca O ob ed) (bk:St h g (aS []) ca [ed,[(b6,Obj.cells #[vI 0,vS [],vN,vI 0,vI 0,vF,vF,vF,vN] 25 (0,0))]] ee),At (bP prog B 31 f31 R) [] 21 [(1,vI deep),(4,vP b6),(6,vP O),(7,vL (some ⟨ad,Y,none⟩) (((aJ b).1).length) ab),(10,vI i)] ee:=by
   intro m;induction m with
   |zero=>intros;omega
   |succ m eh=>
    intro ca cb ob i ed ee hm h0 h1 hB hP ef bd bk
    replace ar:=ar.mono cb
    replace ae:=ae.mono cb
    refine At.go 22 4 [(101,.bool (decide (i<(((aJ b).1).length:Int))))]<|At.fd (i<(((aJ b).1).length:Int)) 101 23 30 (fun te=>?_) fun ti=>?_
    ·refine At.rp 13 2 [(105,vL (some ⟨ad,Y,none⟩) (((aJ b).1).length) ab),(106,vI i)] ?_
     obtain⟨D,be⟩:=bW ((aJ b).1) i
     obtain⟨tk,tl,tm,tp,j2,kc,ej⟩:=an.bB ae _ be
     cases j2
     refine Op.iq 76 22 1 24 (((aJ b).1).length) ab 105 106 107 ad Y i ?_
     obtain⟨tt,ej,gg⟩:=ej
     obtain⟨a212,kd,rfl⟩:=gg.ak
     refine Op.l1 22 107 108 (Y+i.toNat*1) (vL a212 D.length kd) (bk.sub _ _ kc) ?_ (hv:=bN ej 0 rfl)
     refine Op.px 1 [(109,vI deep)]<|Op.vq 110 (deep-1)<|Op.c0 (some 111) (e4 _ _ _ bk.sub ar _ _ gg (deep-1) (by(try dsimp only)<;>omega) (by(try dsimp only)<;>omega) (by(have:=(oz hB h0 ‹_› hd);omega))) bk ?_
     rintro _ kh _ tx kk kl ⟨tz,tA,rfl,gk,gn,rfl⟩
     obtain⟨a218,n219,rfl⟩:=gk.ak
     obtain⟨a222,bm,rfl⟩:=gn.ak
     replace bd:=bd.mono kk
     refine Op.px 3 [(112,.agg #[vI ((bq (decide (deep-1=0)) D).ah),vS ((bq (decide (deep-1=0)) D).af),vL a218 (((bq (decide (deep-1=0)) D).Data).length) n219,vI ((bq (decide (deep-1=0)) D).ai),vI ((bq (decide (deep-1=0)) D).aI),.bool ((bq (decide (deep-1=0)) D).aV),.bool ((bq (decide (deep-1=0)) D).aK),.bool ((bq (decide (deep-1=0)) D).au),vL a222 (((bq (decide (deep-1=0)) D).aB).length) bm]),(113,.bool ((aT (decide (deep-1=0)) D).2))]<|Op.al 11 25 #[vI 0,vS [],vN,vI 0,vI 0,vF,vF,vF,vN] kl fun tB tR km=>Op.sg 25 11 112 0 0 #[vI ((bq (decide (deep-1=0)) D).ah),vS ((bq (decide (deep-1=0)) D).af),vL a218 (((bq (decide (deep-1=0)) D).Data).length) n219,vI ((bq (decide (deep-1=0)) D).ai),vI ((bq (decide (deep-1=0)) D).aI),.bool ((bq (decide (deep-1=0)) D).aV),.bool ((bq (decide (deep-1=0)) D).aK),.bool ((bq (decide (deep-1=0)) D).au),vL a222 (((bq (decide (deep-1=0)) D).aB).length) bm] km zt fun tS gs=>Op.pg 24 [(12,.bool ((aT (decide (deep-1=0)) D).2))]<|At.go 25 2 [(115,.bool (!((aT (decide (deep-1=0)) D).2)))] ?_
     refine At.cW (!((aT (decide (deep-1=0)) D).2)) 115 26 28 (fun g1=>?_) fun g2=>?_
     ·replace g1:=(dn g1)
      refine At.rg 3 ?_
      obtain⟨v233,t0,kv,kw,ce,g3⟩:=bd
      obtain⟨cf,n240,rfl⟩:=ce.ak
      obtain⟨ch,ci,rfl⟩:=g3.ak
      have g4:=St.un [kv] kw (gs.fs [1] rfl)
      refine Op.la 25 6 116 0 9 [vI ob.ah,vS ob.af,vL cf ob.Data.length n240,vI ob.ai,vI ob.aI,.bool ob.aV,.bool ob.aK,.bool ob.au,vL ch ob.aB.length ci] (g4.ag 0 rfl)<|Op.sg 25 4 116 0 3 #[vI ob.ah,vS ob.af,vL cf ob.Data.length n240,vI ob.ai,vI ob.aI,.bool ob.aV,.bool ob.aK,.bool ob.au,vL ch ob.aB.length ci] g4 zt fun t1 kx=>Op.pg 27 [(5,vF)] ?_
      obtain⟨t2,g5,kA,k0⟩:=aH.freeze g3 (kx.fs [1] rfl)
      replace ce:=ce.mono kA
      exact At.rn f31 [.agg #[vI ob.ah,vS ob.af,vL cf ob.Data.length n240,vI ob.ai,vI ob.aI,.bool ob.aV,.bool ob.aK,.bool ob.au,vL ch ob.aB.length ci],vF] [.cell 4 25,.tmp 5] ⟨⟨_,_,rfl,cq (n:=9) (by kernel_rfl) (g5.ag 2 rfl) (by kernel_rfl) rfl⟩,rfl,trivial⟩ (hR g5.drop.drop.drop ⟨(vL cf ob.Data.length n240),(vL ch ob.aB.length ci),bA (by(rw[(sH hB hP h0 be ‹_› (oz hB h0 ‹_› hd)).2])) (bn (by(rw[(sH hB hP h0 be ‹_› (oz hB h0 ‹_› hd)).1]))),bl ce (by(rw[(sH hB hP h0 be ‹_› (oz hB h0 ‹_› hd)).2])),bl k0 (by(rw[(sH hB hP h0 be ‹_› (oz hB h0 ‹_› hd)).2])),rfl⟩)
     replace g2:=(dr g2)
     refine At.rp 7 1 [(117,vQ O 8)] ?_
     obtain⟨t3,t4,k1,k2,g6,g7⟩:=bd
     obtain⟨k3,n258,rfl⟩:=g6.ak
     obtain⟨k4,n260,rfl⟩:=g7.ak
     have em:=St.un [k1] k2 (gs.fs [1] rfl)
     refine Op.l1 23 117 118 8 (vL k4 ob.aB.length n260) (em.ag 0 rfl)<|Op.la 25 11 119 0 9 [vI ((bq (decide (deep-1=0)) D).ah),vS ((bq (decide (deep-1=0)) D).af),vL a218 (((bq (decide (deep-1=0)) D).Data).length) n219,vI ((bq (decide (deep-1=0)) D).ai),vI ((bq (decide (deep-1=0)) D).aI),.bool ((bq (decide (deep-1=0)) D).aV),.bool ((bq (decide (deep-1=0)) D).aK),.bool ((bq (decide (deep-1=0)) D).au),vL a222 (((bq (decide (deep-1=0)) D).aB).length) bm] (em.ag 2 rfl)<|Op.ls 120 1 25 #[vI ((bq (decide (deep-1=0)) D).ah),vS ((bq (decide (deep-1=0)) D).af),vL a218 (((bq (decide (deep-1=0)) D).Data).length) n219,vI ((bq (decide (deep-1=0)) D).ai),vI ((bq (decide (deep-1=0)) D).aI),.bool ((bq (decide (deep-1=0)) D).aV),.bool ((bq (decide (deep-1=0)) D).aK),.bool ((bq (decide (deep-1=0)) D).au),vL a222 (((bq (decide (deep-1=0)) D).aB).length) bm] em fun t5 t6 g8=>Op.ap 118 120 23 23 121 25 96 dy (ys:=[(bq (decide (deep-1=0)) D)]) g7 g8 2 (⟨_,_,rfl,(k9.2 ⟨_,_,gk,gn,rfl⟩),Reads.nil⟩) (by omega) (fun _ _ _=>trivial) (cT.lit (m:=1) (sz:=9) (g8.ag 0 rfl) (news:=[vI ((bq (decide (deep-1=0)) D).ah),vS ((bq (decide (deep-1=0)) D).af),vL a218 (((bq (decide (deep-1=0)) D).Data).length) n219,vI ((bq (decide (deep-1=0)) D).ai),vI ((bq (decide (deep-1=0)) D).aI),.bool ((bq (decide (deep-1=0)) D).aV),.bool ((bq (decide (deep-1=0)) D).aK),.bool ((bq (decide (deep-1=0)) D).au),vL a222 (((bq (decide (deep-1=0)) D).aB).length) bm]) rfl rfl (by simp[Value.oneCell']) _) fun t7 t8 t9 g9 k5 ub=>?_
     obtain⟨ha,hb,rfl⟩:=g9.ak
     refine Op.px 1 [(122,vQ O 8)]<|Op.s1 23 122 121 8 (vL ha ((ob.aB++([(bq (decide (deep-1=0)) D)])).length) hb) 0 #[vI ob.ah,vS ob.af,vL k3 ob.Data.length n258,vI ob.ai,vI ob.aI,.bool ob.aV,.bool ob.aK,.bool ob.au,vL ha ((ob.aB++([(bq (decide (deep-1=0)) D)])).length) hb] ((k5).drop) zt fun ui k6=>Op.gt 29<|At.rp 3 1 [(102,vI i)]<|Op.vq 103 (i+1) ?_
     refine Op.pg 21 [(10,vI (i+1))] ?_
     obtain⟨ul,k7,k8⟩:=St.bF (Q:=mC kh O (⟨ob.ah,ob.af,ob.Data,ob.ai,ob.aI,ob.aV,ob.aK,ob.au,ob.aB++([(bq (decide (deep-1=0)) D)])⟩:aR)) 2 k6 ⟨_,_,_,rfl,g6,g9⟩
     exact At.ke (eh _ (aM.trans cb (by repeat (first|assumption|apply aM.trans))) (⟨ob.ah,ob.af,ob.Data,ob.ai,ob.aI,ob.aV,ob.aK,ob.au,ob.aB++([(bq (decide (deep-1=0)) D)])⟩:aR) (i+1) _ _ (by omega) (by omega) (by omega) (by omega) (by exact Lr hP h0 be ‹_› (oz hB h0 ‹_› hd)) (by(simp only[b_,bJ,cF];omega)) k7 ((k8.fs [1] rfl).drop))
    refine At.rg 3 ?_
    obtain⟨us,ut,lb,lc,ck,he⟩:=bd
    obtain⟨co,c3,rfl⟩:=ck.ak
    obtain⟨c4,c5,rfl⟩:=he.ak
    have hf:=St.un [lb] lc bk
    refine Op.la 25 6 123 0 9 [vI ob.ah,vS ob.af,vL co ob.Data.length c3,vI ob.ai,vI ob.aI,.bool ob.aV,.bool ob.aK,.bool ob.au,vL c4 ob.aB.length c5] (hf.ag 0 rfl)<|Op.sg 25 4 123 0 2 #[vI ob.ah,vS ob.af,vL co ob.Data.length c3,vI ob.ai,vI ob.aI,.bool ob.aV,.bool ob.aK,.bool ob.au,vL c4 ob.aB.length c5] hf zt fun u1 lh=>Op.pg 31 [(5,vT)] ?_
    obtain⟨u2,hh,li,lj⟩:=aH.freeze he (lh.fs [1] rfl)
    replace ck:=ck.mono li
    exact At.rn f31 [.agg #[vI ob.ah,vS ob.af,vL co ob.Data.length c3,vI ob.ai,vI ob.aI,.bool ob.aV,.bool ob.aK,.bool ob.au,vL c4 ob.aB.length c5],vT] [.cell 4 25,.tmp 5] ⟨⟨_,_,rfl,cq (n:=9) (by kernel_rfl) (hh.ag 1 rfl) (by kernel_rfl) rfl⟩,rfl,trivial⟩ (hR hh.drop.drop ⟨(vL co ob.Data.length c3),(vL c4 ob.aB.length c5),bA (by(rw[(sI hB hP h0 ‹_›).2])) (bn (by(rw[(sI hB hP h0 ‹_›).1]))),bl ck (by(rw[(sI hB hP h0 ‹_›).2])),bl lj (by(rw[(sI hB hP h0 ‹_›).2])),rfl⟩)
  exact At.ke (eb _ _ (aM.refl _) (⟨a0,a8,bj,a1-1,a5,(u % 2)==1,((u / 2) % 2)==1,(u / 4)==1,([]:List aR)⟩:aR) 3 _ _ (bG _) (by omega) (by omega) (by exact zU ‹_› ‹_› (by exact .inr ‹_›) Z (Lp ‹_› ‹_›) X ‹_›) (by exact zV (Lt Z f7 gc f0 b8 f3 X ‹_›)) (by rfl) jt j1)
 refine Op.pg 9 [(55,vF)]<|At.cQ 55 12<|At.rp 5 1 [(57,vL (some ⟨V,J,none⟩) (((bh I).1).length) U)] ?_
 obtain⟨a3,hj⟩:=bW ((bh I).1) 0
 obtain⟨u3,u4,vd,ve,lk,ll,en⟩:=an.bB am _ hj
 cases lk
 refine Op.iq 78 3 1 8 (((bh I).1).length) U 57 (.const (vI 0)) 58 V J 0 ?_
 replace en:cut _ _ _=[vI a3]:=en
 refine Op.l1 3 58 59 (J+(0:Int).toNat*1) (vI a3) (aw.sub _ _ ll) ?_ (hv:=bN en 0 rfl)
 refine Op.px 1 [(60,vP O)]<|Op.s1 3 60 59 0 (vI a3) 0 #[vI a3,vS [],vN,vI 0,vI 0,vF,vF,vF,vN] aw zt fun vo hn=>Op.gt 13<|At.rp 6 1 [(61,vL (some ⟨V,J,none⟩) (((bh I).1).length) U)] ?_
 obtain⟨a4,c6⟩:=bW ((bh I).1) 1
 obtain⟨vx,vy,v2,v3,lm,ln,ep⟩:=an.bB am _ c6
 cases lm
 refine Op.iq 78 3 1 8 (((bh I).1).length) U 61 (.const (vI 1)) 62 V J 1 ?_
 replace ep:cut _ _ _=[vI a4]:=ep
 refine Op.l1 3 62 63 (J+(1:Int).toNat*1) (vI a4) (hn.sub _ _ ln) ?_ (hv:=bN ep 0 rfl)
 refine Op.cO 64 (a4-1) (by(have:=gT c6;omega)) (by(have:=gT c6;omega))<|Op.px 1 [(65,vQ O 3)]<|Op.s1 3 65 64 3 (vI (a4-1)) 0 #[vI a3,vS [],vN,vI (a4-1),vI 0,vF,vF,vF,vN] hn zt fun v4 ho=>Op.gt 14<|At.rp 5 1 [(66,vL (some ⟨V,J,none⟩) (((bh I).1).length) U)] ?_
 obtain⟨a6,hp⟩:=bW ((bh I).1) 2
 obtain⟨v5,v6,v8,v9,lr,lv,er⟩:=an.bB am _ hp
 cases lr
 refine Op.iq 78 3 1 8 (((bh I).1).length) U 66 (.const (vI 2)) 67 V J 2 ?_
 replace er:cut _ _ _=[vI a6]:=er
 refine Op.l1 3 67 68 (J+(2:Int).toNat*1) (vI a6) (ho.sub _ _ lv) ?_ (hv:=bN er 0 rfl)
 refine Op.px 1 [(69,vQ O 4)]<|Op.s1 3 69 68 4 (vI a6) 0 #[vI a3,vS [],vN,vI (a4-1),vI a6,vF,vF,vF,vN] ho zt fun wa hq=>Op.gt 15<|At.rp 7 1 [(70,vL (some ⟨V,J,none⟩) (((bh I).1).length) U)] ?_
 obtain⟨wc,wi,wn,wp,lw,lx,et⟩:=an.bB am _ X
 cases lw
 refine Op.iq 78 3 1 8 (((bh I).1).length) U 70 (.const (vI 3)) 71 V J 3 ?_
 replace et:cut _ _ _=[vI u]:=et
 refine Op.l1 3 71 72 (J+(3:Int).toNat*1) (vI u) (hq.sub _ _ lx) ?_ (hv:=bN et 0 rfl)
 refine Op.vl 73 (.int .i64 (Int.tmod u (2:Int))) (.int .i64 (u % (2:Int))) (sP (by(have:=gT X;omega)))<|Op.px 2 [(74,.bool ((u % 2)==1)),(75,vQ O 5)]<|Op.s1 4 75 74 5 (.bool ((u % 2)==1)) 0 #[vI a3,vS [],vN,vI (a4-1),vI a6,.bool ((u % 2)==1),vF,vF,vN] hq zt fun wr hr=>Op.gt 16<|At.rp 8 1 [(76,vL (some ⟨V,J,none⟩) (((bh I).1).length) U)] ?_
 obtain⟨wt,ww,wx,wy,ly,lA,ex⟩:=an.bB am _ X
 cases ly
 refine Op.iq 78 3 1 8 (((bh I).1).length) U 76 (.const (vI 3)) 77 V J 3 ?_
 replace ex:cut _ _ _=[vI u]:=ex
 refine Op.l1 3 77 78 (J+(3:Int).toNat*1) (vI u) (hr.sub _ _ lA) ?_ (hv:=bN ex 0 rfl)
 refine Op.vl 79 (.int .i64 (IntKind.wrap .i64 (Int.tdiv u (2:Int)))) (.int .i64 (u / (2:Int))) (wG (by(have:=gT X;omega)) (by omega) (by omega))<|Op.vl 80 (.int .i64 (Int.tmod (u / 2) (2:Int))) (.int .i64 ((u / 2) % (2:Int))) (sP (by(have:=gT X;omega)))<|Op.px 2 [(81,.bool (((u / 2) % 2)==1)),(82,vQ O 6)]<|Op.s1 4 82 81 6 (.bool (((u / 2) % 2)==1)) 0 #[vI a3,vS [],vN,vI (a4-1),vI a6,.bool ((u % 2)==1),.bool (((u / 2) % 2)==1),vF,vN] hr zt fun w0 hs=>Op.gt 17 ?_
 refine At.rp 7 1 [(83,vL (some ⟨V,J,none⟩) (((bh I).1).length) U)] ?_
 obtain⟨w1,w2,w3,w7,lL,lO,eA⟩:=an.bB am _ X
 cases lL
 refine Op.iq 78 3 1 8 (((bh I).1).length) U 83 (.const (vI 3)) 84 V J 3 ?_
 replace eA:cut _ _ _=[vI u]:=eA
 refine Op.l1 3 84 85 (J+(3:Int).toNat*1) (vI u) (hs.sub _ _ lO) ?_ (hv:=bN eA 0 rfl)
 refine Op.vl 86 (.int .i64 (IntKind.wrap .i64 (Int.tdiv u (4:Int)))) (.int .i64 (u / (4:Int))) (wG (by(have:=gT X;omega)) (by omega) (by omega))<|Op.px 2 [(87,.bool ((u / 4)==1)),(88,vQ O 7)]<|Op.s1 4 88 87 7 (.bool ((u / 4)==1)) 0 #[vI a3,vS [],vN,vI (a4-1),vI a6,.bool ((u % 2)==1),.bool (((u / 2) % 2)==1),.bool ((u / 4)==1),vN] hs zt fun xa eB=>Op.gt 18<|At.rp 6 1 [(89,vL (some ⟨ad,Y,none⟩) (((aJ b).1).length) ab)] ?_
 obtain⟨a9,hu⟩:=bW ((aJ b).1) 1
 obtain⟨xc,xf,xi,xn,l0,l2,eI⟩:=an.bB ae _ hu
 cases l0
 refine Op.iq 76 22 1 24 (((aJ b).1).length) ab 89 (.const (vI 1)) 90 ad Y 1 ?_
 obtain⟨xr,eI,hw⟩:=eI
 obtain⟨l3,l4,rfl⟩:=hw.ak
 refine Op.l1 22 90 91 (Y+(1:Int).toNat*1) (vL l3 a9.length l4) (eB.sub _ _ l2) ?_ (hv:=bN eI 0 rfl)
 refine Op.Bu (T:=22) (S:=9) (E:=5) (x:=91) (dst:=92) (l:=a9) (by kernel_rfl) (by kernel_rfl) (by kernel_rfl) (by kernel_rfl) (by kernel_rfl) (hw.toH eB.sub)<|Op.px 1 [(93,vQ O 1)]<|Op.s1 9 93 92 1 (vS a9) 0 #[vI a3,vS a9,vN,vI (a4-1),vI a6,.bool ((u % 2)==1),.bool (((u / 2) % 2)==1),.bool ((u / 4)==1),vN] eB zt fun xt hx=>Op.gt 19<|At.rp 5 1 [(94,vL (some ⟨ad,Y,none⟩) (((aJ b).1).length) ab)] ?_
 obtain⟨bo,hy⟩:=bW ((aJ b).1) 2
 obtain⟨xv,yi,yk,yn,l8,ma,eJ⟩:=an.bB ae _ hy
 cases l8
 refine Op.iq 76 22 1 24 (((aJ b).1).length) ab 94 (.const (vI 2)) 95 ad Y 2 ?_
 obtain⟨yr,eJ,hz⟩:=eJ
 obtain⟨eK,eL,rfl⟩:=hz.ak
 refine Op.l1 22 95 96 (Y+(2:Int).toNat*1) (vL eK bo.length eL) (hx.sub _ _ ma) ?_ (hv:=bN eJ 0 rfl)
 refine Op.px 1 [(97,vQ O 2)]<|Op.s1 22 97 96 2 (vL eK bo.length eL) 0 #[vI a3,vS a9,vL eK bo.length eL,vI (a4-1),vI a6,.bool ((u % 2)==1),.bool (((u / 2) % 2)==1),.bool ((u / 4)==1),vN] hx zt fun yv md=>Op.gt 20<|At.go 21 1 [(10,vI 3)] ?_
 have mf:=aH.nil 25 dy bc
 obtain⟨y7,mi,ml⟩:=St.bF (Q:=mC bc O (⟨a3,a9,bo,a4-1,a6,(u % 2)==1,((u / 2) % 2)==1,(u / 4)==1,([]:List aR)⟩:aR)) 2 (md.nl.fs [1] rfl) ⟨_,_,_,rfl,hz,mf⟩
 have eb:∀(m:Nat) (c8:GH) (c9:aM bc c8) (ob:aR) (i:Int) (eQ:az) (e1:ay) (hm:((aJ b).1).length-i.toNat<m) (h0:3≤i) (h1:i≤((aJ b).1).length) (hB:fS (decide (deep=0)) b=true) (hP:nD b ob (i-3)) (ef:(ob.aB.length:Int)=i-3) (bi:mC c8 O ob eQ) (bs:St h g (aS []) c8 [eQ,[(b6,Obj.cells #[vI 0,vS [],vN,vI 0,vI 0,vF,vF,vF,vN] 25 (0,0))]] e1),At (bP prog B 31 f31 R) [] 21 [(1,vI deep),(4,vP b6),(6,vP O),(7,vL (some ⟨ad,Y,none⟩) (((aJ b).1).length) ab),(10,vI i)] e1:=by
  intro m;induction m with
  |zero=>intros;omega
  |succ m eh=>
   intro c8 c9 ob i eQ e1 hm h0 h1 hB hP ef bi bs
   replace ar:=ar.mono c9
   replace ae:=ae.mono c9
   refine At.go 22 4 [(101,.bool (decide (i<(((aJ b).1).length:Int))))]<|At.fd (i<(((aJ b).1).length:Int)) 101 23 30 (fun y8=>?_) fun z0=>?_
   ·refine At.rp 13 2 [(105,vL (some ⟨ad,Y,none⟩) (((aJ b).1).length) ab),(106,vI i)] ?_
    obtain⟨G,bb⟩:=bW ((aJ b).1) i
    obtain⟨z1,z2,z3,z4,mp,mx,e2⟩:=an.bB ae _ bb
    cases mp
    refine Op.iq 76 22 1 24 (((aJ b).1).length) ab 105 106 107 ad Y i ?_
    obtain⟨z5,e2,hA⟩:=e2
    obtain⟨my,m0,rfl⟩:=hA.ak
    refine Op.l1 22 107 108 (Y+i.toNat*1) (vL my G.length m0) (bs.sub _ _ mx) ?_ (hv:=bN e2 0 rfl)
    refine Op.px 1 [(109,vI deep)]<|Op.vq 110 (deep-1)<|Op.c0 (some 111) (e4 _ _ _ bs.sub ar _ _ hA (deep-1) (by((try dsimp only)<;>((have:=oP bb;omega)))) (by(try dsimp only)<;>omega) (by(have:=(oz hB h0 ‹_› hd);omega))) bs ?_
    rintro _ m1 _ z6 m2 m3 ⟨z7,z8,rfl,hC,hD,rfl⟩
    obtain⟨bt,b3,rfl⟩:=hC.ak
    obtain⟨b4,b5,rfl⟩:=hD.ak
    replace bi:=bi.mono m2
    refine Op.px 3 [(112,.agg #[vI ((bq (decide (deep-1=0)) G).ah),vS ((bq (decide (deep-1=0)) G).af),vL bt (((bq (decide (deep-1=0)) G).Data).length) b3,vI ((bq (decide (deep-1=0)) G).ai),vI ((bq (decide (deep-1=0)) G).aI),.bool ((bq (decide (deep-1=0)) G).aV),.bool ((bq (decide (deep-1=0)) G).aK),.bool ((bq (decide (deep-1=0)) G).au),vL b4 (((bq (decide (deep-1=0)) G).aB).length) b5]),(113,.bool ((aT (decide (deep-1=0)) G).2))]<|Op.al 11 25 #[vI 0,vS [],vN,vI 0,vI 0,vF,vF,vF,vN] m3 fun z9 A0 m4=>Op.sg 25 11 112 0 0 #[vI ((bq (decide (deep-1=0)) G).ah),vS ((bq (decide (deep-1=0)) G).af),vL bt (((bq (decide (deep-1=0)) G).Data).length) b3,vI ((bq (decide (deep-1=0)) G).ai),vI ((bq (decide (deep-1=0)) G).aI),.bool ((bq (decide (deep-1=0)) G).aV),.bool ((bq (decide (deep-1=0)) G).aK),.bool ((bq (decide (deep-1=0)) G).au),vL b4 (((bq (decide (deep-1=0)) G).aB).length) b5] m4 zt fun A1 hE=>Op.pg 24 [(12,.bool ((aT (decide (deep-1=0)) G).2))]<|At.go 25 2 [(115,.bool (!((aT (decide (deep-1=0)) G).2)))] ?_
    refine At.cW (!((aT (decide (deep-1=0)) G).2)) 115 26 28 (fun hF=>?_) fun hG=>?_
    ·replace hF:=(dn hF)
     refine At.rg 3 ?_
     obtain⟨CH,CM,m5,m6,da,hH⟩:=bi
     obtain⟨db,dc,rfl⟩:=da.ak
     obtain⟨dd,df,rfl⟩:=hH.ak
     have hI:=St.un [m5] m6 (hE.fs [1] rfl)
     refine Op.la 25 6 116 0 9 [vI ob.ah,vS ob.af,vL db ob.Data.length dc,vI ob.ai,vI ob.aI,.bool ob.aV,.bool ob.aK,.bool ob.au,vL dd ob.aB.length df] (hI.ag 0 rfl)<|Op.sg 25 4 116 0 3 #[vI ob.ah,vS ob.af,vL db ob.Data.length dc,vI ob.ai,vI ob.aI,.bool ob.aV,.bool ob.aK,.bool ob.au,vL dd ob.aB.length df] hI zt fun Eq m7=>Op.pg 27 [(5,vF)] ?_
     obtain⟨EQ,hJ,m8,m9⟩:=aH.freeze hH (m7.fs [1] rfl)
     replace da:=da.mono m8
     exact At.rn f31 [.agg #[vI ob.ah,vS ob.af,vL db ob.Data.length dc,vI ob.ai,vI ob.aI,.bool ob.aV,.bool ob.aK,.bool ob.au,vL dd ob.aB.length df],vF] [.cell 4 25,.tmp 5] ⟨⟨_,_,rfl,cq (n:=9) (by kernel_rfl) (hJ.ag 2 rfl) (by kernel_rfl) rfl⟩,rfl,trivial⟩ (hR hJ.drop.drop.drop ⟨(vL db ob.Data.length dc),(vL dd ob.aB.length df),bA (by(rw[(sH hB hP h0 bb ‹_› (oz hB h0 ‹_› hd)).2])) (bn (by(rw[(sH hB hP h0 bb ‹_› (oz hB h0 ‹_› hd)).1]))),bl da (by(rw[(sH hB hP h0 bb ‹_› (oz hB h0 ‹_› hd)).2])),bl m9 (by(rw[(sH hB hP h0 bb ‹_› (oz hB h0 ‹_› hd)).2])),rfl⟩)
    replace hG:=(dr hG)
    refine At.rp 7 1 [(117,vQ O 8)] ?_
    obtain⟨Fd,Fn,na,nb,hK,hL⟩:=bi
    obtain⟨nd,nf,rfl⟩:=hK.ak
    obtain⟨nm,nn,rfl⟩:=hL.ak
    have e3:=St.un [na] nb (hE.fs [1] rfl)
    refine Op.l1 23 117 118 8 (vL nm ob.aB.length nn) (e3.ag 0 rfl)<|Op.la 25 11 119 0 9 [vI ((bq (decide (deep-1=0)) G).ah),vS ((bq (decide (deep-1=0)) G).af),vL bt (((bq (decide (deep-1=0)) G).Data).length) b3,vI ((bq (decide (deep-1=0)) G).ai),vI ((bq (decide (deep-1=0)) G).aI),.bool ((bq (decide (deep-1=0)) G).aV),.bool ((bq (decide (deep-1=0)) G).aK),.bool ((bq (decide (deep-1=0)) G).au),vL b4 (((bq (decide (deep-1=0)) G).aB).length) b5] (e3.ag 2 rfl)<|Op.ls 120 1 25 #[vI ((bq (decide (deep-1=0)) G).ah),vS ((bq (decide (deep-1=0)) G).af),vL bt (((bq (decide (deep-1=0)) G).Data).length) b3,vI ((bq (decide (deep-1=0)) G).ai),vI ((bq (decide (deep-1=0)) G).aI),.bool ((bq (decide (deep-1=0)) G).aV),.bool ((bq (decide (deep-1=0)) G).aK),.bool ((bq (decide (deep-1=0)) G).au),vL b4 (((bq (decide (deep-1=0)) G).aB).length) b5] e3 fun Fr FS hN=>Op.ap 118 120 23 23 121 25 96 dy (ys:=[(bq (decide (deep-1=0)) G)]) hL hN 2 (⟨_,_,rfl,(k9.2 ⟨_,_,hC,hD,rfl⟩),Reads.nil⟩) (by(have h9:=(jv b).1;simp only[bJ,cF];omega)) (fun _ _ _=>trivial) (cT.lit (m:=1) (sz:=9) (hN.ag 0 rfl) (news:=[vI ((bq (decide (deep-1=0)) G).ah),vS ((bq (decide (deep-1=0)) G).af),vL bt (((bq (decide (deep-1=0)) G).Data).length) b3,vI ((bq (decide (deep-1=0)) G).ai),vI ((bq (decide (deep-1=0)) G).aI),.bool ((bq (decide (deep-1=0)) G).aV),.bool ((bq (decide (deep-1=0)) G).aK),.bool ((bq (decide (deep-1=0)) G).au),vL b4 (((bq (decide (deep-1=0)) G).aB).length) b5]) rfl rfl (by simp[Value.oneCell']) _) fun GE GT Ha hO no Hb=>?_
    obtain⟨hQ,hS,rfl⟩:=hO.ak
    refine Op.px 1 [(122,vQ O 8)]<|Op.s1 23 122 121 8 (vL hQ ((ob.aB++([(bq (decide (deep-1=0)) G)])).length) hS) 0 #[vI ob.ah,vS ob.af,vL nd ob.Data.length nf,vI ob.ai,vI ob.aI,.bool ob.aV,.bool ob.aK,.bool ob.au,vL hQ ((ob.aB++([(bq (decide (deep-1=0)) G)])).length) hS] ((no).drop) zt fun Hc np=>Op.gt 29<|At.rp 3 1 [(102,vI i)]<|Op.cO 103 (i+1) (by omega) (by(have h9:=(jv b).1;omega)) ?_
    refine Op.pg 21 [(10,vI (i+1))] ?_
    obtain⟨Hd,nu,nx⟩:=St.bF (Q:=mC m1 O (⟨ob.ah,ob.af,ob.Data,ob.ai,ob.aI,ob.aV,ob.aK,ob.au,ob.aB++([(bq (decide (deep-1=0)) G)])⟩:aR)) 2 np ⟨_,_,_,rfl,hK,hO⟩
    exact At.ke (eh _ (aM.trans c9 (by repeat (first|assumption|apply aM.trans))) (⟨ob.ah,ob.af,ob.Data,ob.ai,ob.aI,ob.aV,ob.aK,ob.au,ob.aB++([(bq (decide (deep-1=0)) G)])⟩:aR) (i+1) _ _ (by omega) (by omega) (by omega) (by omega) (by exact Lr hP h0 bb ‹_› (oz hB h0 ‹_› hd)) (by(simp only[b_,bJ,cF];omega)) nu ((nx.fs [1] rfl).drop))
   refine At.rg 3 ?_
   obtain⟨Hk,Hm,nz,n0,dg,hT⟩:=bi
   obtain⟨dj,dk,rfl⟩:=dg.ak
   obtain⟨dl,dp,rfl⟩:=hT.ak
   have hV:=St.un [nz] n0 bs
   refine Op.la 25 6 123 0 9 [vI ob.ah,vS ob.af,vL dj ob.Data.length dk,vI ob.ai,vI ob.aI,.bool ob.aV,.bool ob.aK,.bool ob.au,vL dl ob.aB.length dp] (hV.ag 0 rfl)<|Op.sg 25 4 123 0 2 #[vI ob.ah,vS ob.af,vL dj ob.Data.length dk,vI ob.ai,vI ob.aI,.bool ob.aV,.bool ob.aK,.bool ob.au,vL dl ob.aB.length dp] hV zt fun Hn n3=>Op.pg 31 [(5,vT)] ?_
   obtain⟨HA,hW,oi,oj⟩:=aH.freeze hT (n3.fs [1] rfl)
   replace dg:=dg.mono oi
   exact At.rn f31 [.agg #[vI ob.ah,vS ob.af,vL dj ob.Data.length dk,vI ob.ai,vI ob.aI,.bool ob.aV,.bool ob.aK,.bool ob.au,vL dl ob.aB.length dp],vT] [.cell 4 25,.tmp 5] ⟨⟨_,_,rfl,cq (n:=9) (by kernel_rfl) (hW.ag 1 rfl) (by kernel_rfl) rfl⟩,rfl,trivial⟩ (hR hW.drop.drop ⟨(vL dj ob.Data.length dk),(vL dl ob.aB.length dp),bA (by(rw[(sI hB hP h0 ‹_›).2])) (bn (by(rw[(sI hB hP h0 ‹_›).1]))),bl dg (by(rw[(sI hB hP h0 ‹_›).2])),bl oj (by(rw[(sI hB hP h0 ‹_›).2])),rfl⟩)
 exact At.ke (eb _ _ (aM.refl _) (⟨a3,a9,bo,a4-1,a6,(u % 2)==1,((u / 2) % 2)==1,(u / 4)==1,([]:List aR)⟩:aR) 3 _ _ (bG _) (by omega) (by omega) (by exact zU ‹_› ‹_› (by exact .inl (gQ ‹_›)) Z (Lp ‹_› ‹_›) X ‹_›) (by exact zV (Lt Z hu hy hj c6 hp X ‹_›)) (by rfl) mi ml)
theorem Tv (B:World) (h:ay) (g:GH) (hg:bu g h) (D:bz g) (u:Value) (b:aj) (G:an g 5 a_ u b) (deep:Int) (hl:b.length≤1000000000) (hd:deep=0∨deep=1):aG prog B 31 #[u,vI deep] h g [] (fun I g' L'=>∃v0 v1,I=.tuple #[.agg #[.int .i64 ((bq (decide (deep=0)) b).ah),.string (br ((bq (decide (deep=0)) b).af)),v0,.int .i64 ((bq (decide (deep=0)) b).ai),.int .i64 ((bq (decide (deep=0)) b).aI),.bool ((bq (decide (deep=0)) b).aV),.bool ((bq (decide (deep=0)) b).aK),.bool ((bq (decide (deep=0)) b).au),v1],.bool ((aT (decide (deep=0)) b).2)]∧an g' 5 a_ v0 ((bq (decide (deep=0)) b).Data)∧an g' 25 dy v1 ((bq (decide (deep=0)) b).aB)∧L'=[]):=Tu _ B h g hg D u b G deep hl hd (bG _)
theorem Tw (B:World) (h:ay) (g:GH) (hg:bu g h) (u:bz g) (ad:Value) (b:aj) (D:an g 5 a_ ad b) (hl:b.length≤1000000000):
  aG prog B 14 #[ad] h g [] (fun bi g' L'=>∃v0 v1,bi=.tuple #[.agg #[.int .i64 (((aD b).1).ah),.string (br (((aD b).1).af)),v0,.int .i64 (((aD b).1).ai),.int .i64 (((aD b).1).aI),.bool (((aD b).1).aV),.bool (((aD b).1).aK),.bool (((aD b).1).au),v1],.int .i64 ((aD b).2)]∧an g' 5 a_ v0 (((aD b).1).Data)∧an g' 25 dy v1 (((aD b).1).aB)∧L'=[]):=by
 obtain⟨ae,am,rfl⟩:=D.ak
 refine aG.aq func14 fun R hR=>At.rg 2<|Op.al 2 25 #[vI 0,vS [],vN,vI 0,vI 0,vF,vF,vF,vN] (St.init hg) fun bm bo Y=>Op.pg 1 []<|At.go 2 3 [(10,.bool (decide ((b.length:Int)>1024)))] ?_
 refine At.fd ((b.length:Int)>1024) 10 3 5 (fun bs=>?_) fun bt=>?_
 ·exact At.rp 3 1 [(11,.agg #[vI 0,vS [],vN,vI 0,vI 0,vF,vF,vF,vN])]<|Op.sg 25 2 11 0 0 #[vI 0,vS [],vN,vI 0,vI 0,vF,vF,vF,vN] Y zt fun b3 ar=>Op.pg 4 [(3,vI 130)]<|At.rn f14 [.agg #[vI 0,vS [],vN,vI 0,vI 0,vF,vF,vF,vN],vI 130] [.cell 2 25,.tmp 3] ⟨⟨_,_,rfl,cq (n:=9) (by kernel_rfl) (ar.ag 0 rfl) (by kernel_rfl) rfl⟩,rfl,trivial⟩ (hR ar.drop ⟨vN,vN,bA (by(rw[AJ ‹_›];rfl)) (bg (by(rw[AJ ‹_›];done))),bl (an.empty _ _ _ _ _) (by(rw[AJ ‹_›];rfl)),bl (an.empty _ _ _ _ _) (by(rw[AJ ‹_›];rfl)),rfl⟩)
 refine At.rp 8 1 [(13,vL ae b.length am)]<|Op.c0 (some 14) (Tv _ _ _ Y.sub u _ _ D 1 (by(try dsimp only)<;>omega) (by(try dsimp only)<;>omega)) Y ?_
 rintro _ b4 _ b5 aw bj ⟨b6,b8,rfl,O,U,rfl⟩
 obtain⟨a31,G,rfl⟩:=O.ak
 obtain⟨I,J,rfl⟩:=U.ak
 replace u:=u.mono aw
 replace D:=D.mono aw
 refine Op.px 3 [(15,.agg #[vI ((bq (decide (1=0)) b).ah),vS ((bq (decide (1=0)) b).af),vL a31 (((bq (decide (1=0)) b).Data).length) G,vI ((bq (decide (1=0)) b).ai),vI ((bq (decide (1=0)) b).aI),.bool ((bq (decide (1=0)) b).aV),.bool ((bq (decide (1=0)) b).aK),.bool ((bq (decide (1=0)) b).au),vL I (((bq (decide (1=0)) b).aB).length) J]),(16,.bool ((aT (decide (1=0)) b).2))]<|Op.al 4 25 #[vI 0,vS [],vN,vI 0,vI 0,vF,vF,vF,vN] bj fun ca cb bk=>Op.sg 25 4 15 0 0 #[vI ((bq (decide (1=0)) b).ah),vS ((bq (decide (1=0)) b).af),vL a31 (((bq (decide (1=0)) b).Data).length) G,vI ((bq (decide (1=0)) b).ai),vI ((bq (decide (1=0)) b).aI),.bool ((bq (decide (1=0)) b).aV),.bool ((bq (decide (1=0)) b).aK),.bool ((bq (decide (1=0)) b).au),vL I (((bq (decide (1=0)) b).aB).length) J] bk zt fun ce V=>Op.pg 6 [(5,.bool ((aT (decide (1=0)) b).2))]<|At.go 7 2 [(18,.bool (!((aT (decide (1=0)) b).2)))] ?_
 refine At.cW (!((aT (decide (1=0)) b).2)) 18 8 10 (fun a0=>?_) fun a1=>?_
 ·replace a0:=(dn a0)
  exact At.rp 3 1 [(19,.agg #[vI 0,vS [],vN,vI 0,vI 0,vF,vF,vF,vN])]<|Op.sg 25 2 19 0 1 #[vI 0,vS [],vN,vI 0,vI 0,vF,vF,vF,vN] V zt fun cf a3=>Op.pg 9 [(3,vI 130)]<|At.rn f14 [.agg #[vI 0,vS [],vN,vI 0,vI 0,vF,vF,vF,vN],vI 130] [.cell 2 25,.tmp 3] ⟨⟨_,_,rfl,cq (n:=9) (by kernel_rfl) (a3.ag 1 rfl) (by kernel_rfl) rfl⟩,rfl,trivial⟩ (hR a3.drop.drop ⟨vN,vN,bA (by(rw[AK ‹_› ‹_›];rfl)) (bg (by(rw[AK ‹_› ‹_›];done))),bl (an.empty _ _ _ _ _) (by(rw[AK ‹_› ‹_›];rfl)),bl (an.empty _ _ _ _ _) (by(rw[AK ‹_› ‹_›];rfl)),rfl⟩)
 replace a1:=(dr a1)
 refine At.rg 7<|Op.la 25 4 21 0 9 [vI ((bq (decide (1=0)) b).ah),vS ((bq (decide (1=0)) b).af),vL a31 (((bq (decide (1=0)) b).Data).length) G,vI ((bq (decide (1=0)) b).ai),vI ((bq (decide (1=0)) b).aI),.bool ((bq (decide (1=0)) b).aV),.bool ((bq (decide (1=0)) b).aK),.bool ((bq (decide (1=0)) b).au),vL I (((bq (decide (1=0)) b).aB).length) J] (V.ag 0 rfl)<|Op.c0 (some 22) (Lu _ _ _ V.sub u (bq (decide (1=0)) b) _ O _ U (by((try dsimp only)<;>(exact To ‹_›)))) V ?_
 rintro _ ch _ ci X Z ⟨ck,rfl,a4,rfl⟩
 obtain⟨a5,a6,rfl⟩:=a4.ak
 replace u:=u.mono X
 replace D:=D.mono X
 replace O:=O.mono X
 replace U:=U.mono X
 refine Op.pg 11 [(6,vL a5 (((bQ (bq (decide (1=0)) b)).1).length) a6),(7,vI ((bQ (bq (decide (1=0)) b)).2))]<|At.rp 8 3 [(27,.bool (((bQ (bq (decide (1=0)) b)).2) != 0))]<|Op.wb (((bQ (bq (decide (1=0)) b)).2) != 0) 27 (fun a7=>?_) fun a8=>?_
 ·replace a7:=fY a7
  refine Op.pg 12 [(32,vT)]<|At.bT 32 13<|At.rp 3 1 [(33,.agg #[vI 0,vS [],vN,vI 0,vI 0,vF,vF,vF,vN])]<|Op.sg 25 2 33 0 1 #[vI 0,vS [],vN,vI 0,vI 0,vF,vF,vF,vN] Z zt fun co a9=>Op.pg 14 [(3,vI 130)] ?_
  exact At.rn f14 [.agg #[vI 0,vS [],vN,vI 0,vI 0,vF,vF,vF,vN],vI 130] [.cell 2 25,.tmp 3] ⟨⟨_,_,rfl,cq (n:=9) (by kernel_rfl) (a9.ag 1 rfl) (by kernel_rfl) rfl⟩,rfl,trivial⟩ (hR a9.drop.drop ⟨vN,vN,bA (by(rw[AL ‹_› ‹_› ‹_›];rfl)) (bg (by(rw[AL ‹_› ‹_› ‹_›];done))),bl (an.empty _ _ _ _ _) (by(rw[AL ‹_› ‹_› ‹_›];rfl)),bl (an.empty _ _ _ _ _) (by(rw[AL ‹_› ‹_› ‹_›];rfl)),rfl⟩)
 replace a8:=gB a8
 refine Op.px 2 [(28,vL a5 (((bQ (bq (decide (1=0)) b)).1).length) a6),(29,vL ae b.length am)]<|Op.c1 30 (qK _ _ _ Z.sub u _ _ a4 _ _ D (by(try dsimp only)<;>exact AI _)) Z fun c3 ab=>Op.pg 12 [(32,.bool (!(decide (((bQ (bq (decide (1=0)) b)).1)=b))))]<|At.cW (!(decide (((bQ (bq (decide (1=0)) b)).1)=b))) 32 13 15 (fun bb=>?_) fun bc=>?_
 ·replace bb:=kW (dn bb)
  exact At.rp 3 1 [(33,.agg #[vI 0,vS [],vN,vI 0,vI 0,vF,vF,vF,vN])]<|Op.sg 25 2 33 0 1 #[vI 0,vS [],vN,vI 0,vI 0,vF,vF,vF,vN] ab zt fun c4 bd=>Op.pg 14 [(3,vI 130)]<|At.rn f14 [.agg #[vI 0,vS [],vN,vI 0,vI 0,vF,vF,vF,vN],vI 130] [.cell 2 25,.tmp 3] ⟨⟨_,_,rfl,cq (n:=9) (by kernel_rfl) (bd.ag 1 rfl) (by kernel_rfl) rfl⟩,rfl,trivial⟩ (hR bd.drop.drop ⟨vN,vN,bA (by(rw[AM ‹_› ‹_› ‹_› ‹_›];rfl)) (bg (by(rw[AM ‹_› ‹_› ‹_› ‹_›];done))),bl (an.empty _ _ _ _ _) (by(rw[AM ‹_› ‹_› ‹_› ‹_›];rfl)),bl (an.empty _ _ _ _ _) (by(rw[AM ‹_› ‹_› ‹_› ‹_›];rfl)),rfl⟩)
 replace bc:=iX (dr bc)
 exact At.rg 3<|Op.la 25 4 34 0 9 [vI ((bq (decide (1=0)) b).ah),vS ((bq (decide (1=0)) b).af),vL a31 (((bq (decide (1=0)) b).Data).length) G,vI ((bq (decide (1=0)) b).ai),vI ((bq (decide (1=0)) b).aI),.bool ((bq (decide (1=0)) b).aV),.bool ((bq (decide (1=0)) b).aK),.bool ((bq (decide (1=0)) b).au),vL I (((bq (decide (1=0)) b).aB).length) J] (ab.ag 0 rfl)<|Op.sg 25 2 34 0 1 #[vI ((bq (decide (1=0)) b).ah),vS ((bq (decide (1=0)) b).af),vL a31 (((bq (decide (1=0)) b).Data).length) G,vI ((bq (decide (1=0)) b).ai),vI ((bq (decide (1=0)) b).aI),.bool ((bq (decide (1=0)) b).aV),.bool ((bq (decide (1=0)) b).aK),.bool ((bq (decide (1=0)) b).au),vL I (((bq (decide (1=0)) b).aB).length) J] ab zt fun c5 be=>Op.pg 16 [(3,vI 0)]<|At.rn f14 [.agg #[vI ((bq (decide (1=0)) b).ah),vS ((bq (decide (1=0)) b).af),vL a31 (((bq (decide (1=0)) b).Data).length) G,vI ((bq (decide (1=0)) b).ai),vI ((bq (decide (1=0)) b).aI),.bool ((bq (decide (1=0)) b).aV),.bool ((bq (decide (1=0)) b).aK),.bool ((bq (decide (1=0)) b).au),vL I (((bq (decide (1=0)) b).aB).length) J],vI 0] [.cell 2 25,.tmp 3] ⟨⟨_,_,rfl,cq (n:=9) (by kernel_rfl) (be.ag 1 rfl) (by kernel_rfl) rfl⟩,rfl,trivial⟩ (hR be.drop.drop ⟨(vL a31 (((bq (decide (1=0)) b).Data).length) G),(vL I (((bq (decide (1=0)) b).aB).length) J),bA (by(rw[AN ‹_› ‹_› ‹_›];rfl)) (bg (by(rw[AN ‹_› ‹_› ‹_›];done))),bl O (by(rw[AN ‹_› ‹_› ‹_›];rfl)),bl U (by(rw[AN ‹_› ‹_› ‹_›];rfl)),rfl⟩)
section
variable {bM deep n i:Int} {o x:aR} {ops:List aR}
theorem xZ (o:aR) (bM deep:Int):iH o bM deep=if deep=0∧o.aB≠[] then bM+1 else lX o.aB bM deep (1+o.af.length+o.Data.length):=by
  obtain⟨_,_,_,_,_,_,_,_,_⟩:=o
  rw[iH]
theorem AO (x:aR) (xs:List aR) (bM deep n:Int):lX (x::xs) bM deep n=if n≤bM then lX xs bM deep (n+iH x (bM-n) (deep-1)) else n:=by rw[lX]
theorem AP (o:aR):(cU o:Int)=1+o.af.length+o.Data.length+gl o.aB:=by rw[tG];omega
mutual
theorem AQ:∀(o:aR) (bM deep:Int),0≤bM→0≤iH o bM deep∧iH o bM deep≤bM+1+cU o
  |⟨k,p,u,D,sp,b,G,w,ops⟩,bM,deep,h=>by
   have e:=xZ ⟨k,p,u,D,sp,b,G,w,ops⟩ bM deep
   have hz:=AP ⟨k,p,u,D,sp,b,G,w,ops⟩
   simp only at e hz
   rw[e]
   split
   · omega
   · have:=Lv ops bM deep (1+p.length+u.length) h (by omega)
     omega
theorem Lv:∀(xs:List aR) (bM deep n:Int),0≤bM→0≤n→0≤lX xs bM deep n∧lX xs bM deep n≤max n (bM+1+gl xs)
  |[],bM,deep,n,_,h=>by rw[lX];omega
  |x::xs,bM,deep,n,h,hn=>by
   rw[AO]
   have e:gl (x::xs)=cU x+gl xs:=by rw[gl]
   rw[e]
   split
   · have h1:=AQ x (bM-n) (deep-1) (by omega)
     have h2:=Lv xs bM deep (n+iH x (bM-n) (deep-1)) h (by omega)
     omega
   · omega
end
mutual
theorem Lw:∀(o:aR) (bM deep:Int),0≤deep→iH o bM deep≤bM→iH o bM deep=cU o∧(sG o:Int)≤deep+1
  |⟨k,p,u,D,sp,b,G,w,ops⟩,bM,deep,hd,h=>by
   have e:=xZ ⟨k,p,u,D,sp,b,G,w,ops⟩ bM deep
   have hz:=AP ⟨k,p,u,D,sp,b,G,w,ops⟩
   have ed:=Ed ⟨k,p,u,D,sp,b,G,w,ops⟩
   simp only at e hz ed
   rw[e] at h ⊢
   split at h
   · omega
   · rename_i hne
     rw[aL hne]
     have:=Lx ops bM deep (1+p.length+u.length) hd (by
       by_cases h0:ops=[]
       · exact .inr h0
       · exact .inl (by
           by_cases I:deep=0
           · exact absurd ⟨I,h0⟩ hne
           · omega)) h
     omega
theorem Lx:∀(xs:List aR) (bM deep n:Int),0≤deep→(1≤deep∨xs=[])→lX xs bM deep n≤bM→lX xs bM deep n=n+gl xs∧(mH xs:Int)≤deep
  |[],bM,deep,n,hd,_,h=>by rw[lX,gl,mH];omega
  |x::xs,bM,deep,n,hd,h1,h=>by
   have h1:1≤deep:=by
     rcases h1 with h1|h1
     · exact h1
     · cases h1
   rw[AO] at h ⊢
   have e:gl (x::xs)=cU x+gl xs:=by rw[gl]
   have ed:mH (x::xs)=max (sG x) (mH xs):=by rw[mH]
   rw[e,ed]
   split at h
   · rename_i hn
     rw[aY hn]
     have h2:=Lx xs bM deep (n+iH x (bM-n) (deep-1)) hd (.inl h1) h
     have h3:=Lw x (bM-n) (deep-1) (by omega) (by omega)
     omega
   · omega
end
mutual
theorem Lz:∀(o:aR) (deep:Int),(sG o:Int)≤deep+1→bD o deep=o
  |⟨k,p,u,D,sp,b,G,w,ops⟩,deep,h=>by
   have ed:=Ed ⟨k,p,u,D,sp,b,G,w,ops⟩
   simp only at ed
   rw[bD]
   have:(if deep>0 then ni ops (deep-1) else [])=ops:=by
     split
     · exact LA ops (deep-1) (by omega)
     · cases ops with
       |nil=>rfl
       |cons x xs=>
        have I:mH (x::xs)=max (sG x) (mH xs):=by rw[mH]
        have:=Ed x
        omega
   rw[this]
theorem LA:∀(xs:List aR) (deep:Int),(mH xs:Int)≤deep+1→ni xs deep=xs
  |[],_,_=>by rw[ni]
  |x::xs,deep,h=>by
   have u:mH (x::xs)=max (sG x) (mH xs):=by rw[mH]
   rw[ni,Lz x deep (by omega),LA xs deep (by omega)]
end
def uf (o:aR) (bM deep n i:Int):Prop:=lX o.aB bM deep (1+o.af.length+o.Data.length)=lX (o.aB.drop i.toNat) bM deep n∧0≤n∧n≤bM+1+cU o
theorem LB (o:aR) (h:0≤bM):uf o bM deep (1+o.af.length+o.Data.length) 0:=⟨rfl,by omega,by have:=AP o;omega⟩
theorem LC (H:uf o bM deep n i) (h0:0≤i) (hx:o.aB[i.toNat]?=some x) (h:n≤bM):uf o bM deep (n+iH x (bM-n) (deep-1)) (i+1):=by
  obtain⟨h1,h2,h3⟩:=H
  have hb:=AQ x (bM-n) (deep-1) (by omega)
  have hm:=Dh (bY hx)
  have hz:=AP o
  refine⟨?_,by omega,by omega⟩
  rw[h1,drop_at hx,AO,aY h,show(i+1).toNat=i.toNat+1 by omega]
theorem LD (H:uf o bM deep n i) (hi:¬i<(o.aB.length:Int)) (hn:¬(deep=0∧o.aB≠[])):n=iH o bM deep:=by
  rw[xZ,aL hn,H.1,mO (by omega),lX]
theorem LF (H:uf o bM deep n i) (hi:¬n≤bM) (hn:¬(deep=0∧o.aB≠[])):n=iH o bM deep:=by
  rw[xZ,aL hn,H.1]
  cases o.aB.drop i.toNat with
  |nil=>rw[lX]
  |cons x xs=>rw[AO,aL hi]
theorem Tx (h1:deep=0) (h2:(o.aB.length:Int)>0):bM+1=iH o bM deep:=by
  rw[xZ,aY ⟨h1,fun e=>by rw[e] at h2;simp at h2⟩]
theorem Ty (h:¬deep=0):¬(deep=0∧o.aB≠[]):=fun h'=>h h'.1
theorem Tz (h:¬(o.aB.length:Int)>0):¬(deep=0∧o.aB≠[]):=fun h'=>h'.2 (kU (by omega))
end
section
variable {o:aR} {r:Result} {b:aj}
theorem ug (h:lY o 5000 3=false):bD o 3=o:=by
  unfold lY at h
  have:=Lw o 5000 3 (by decide) (by simpa using h)
  exact Lz o 3 (by omega)
theorem LG (h:lY o 5000 3=false) (hl:((bQ (bD o 3)).1.length:Int)>0):(aD (bQ (bD o 3)).1).1=o:=by
  rw[ug h] at hl ⊢
  have h2:(bQ o).2=0:=(xX o).resolve_left fun e=>by rw[e] at hl;simp at hl
  rw[K8 h2]
theorem TA (h:lY o 5000 3=false) (hl:((bQ (bD o 3)).1.length:Int)>0):(aD (bQ (bD o 3)).1).2=0:=by
  rw[ug h] at hl ⊢
  have h2:(bQ o).2=0:=(xX o).resolve_left fun e=>by rw[e] at hl;simp at hl
  rw[K8 h2]
theorem Ei (b:aj):cU (aD b).1≤1000000000:=by
  unfold aD
  split
  · decide
  split
  · decide
  · exact Dq b
end
theorem TB (mr:Nat):∀(B:World) (h:ay) (g:GH) (hg:bu g h) (ar:bz g) (o:aR) (aw:Value) (a8:an g 5 a_ aw o.Data) (a0:Value) (ad:an g 25 dy a0 o.aB) (bM:Int) (deep:Int) (ho:cU o≤100000000) (hm:0≤bM∧bM≤1000000) (hd:0≤deep∧deep≤1000) (a1:cU o<mr),aG prog B 25 #[.agg #[vI o.ah,vS o.af,aw,vI o.ai,vI o.aI,.bool o.aV,.bool o.aK,.bool o.au,a0],vI bM,vI deep] h g [] (fun bk g' L'=>bk=.int .i64 (iH o bM deep)∧g'=g∧L'=[]):=by
 induction mr with
 |zero=>intros;omega
 |succ mr a9=>
 intro B h g hg ar o aw a8 a0 ad bM deep ho hm hd a1
 obtain⟨ae,am,rfl⟩:=a8.ak
 obtain⟨O,I,rfl⟩:=ad.ak
 refine aG.aq func25 fun R hR=>At.rg 2<|Op.bx 3 25 0 #[vI o.ah,vS o.af,vL ae o.Data.length am,vI o.ai,vI o.aI,.bool o.aV,.bool o.aK,.bool o.au,vL O o.aB.length I] (St.init hg) fun G ci X=>Op.pg 1 []<|At.rp 9 1 [(9,vQ G 1)] ?_
 refine Op.l1 9 9 10 1 (vS o.af) (X.ag 0 rfl)<|Op.px 1 [(11,vI (o.af.length:Int))]<|Op.cO 12 ((1:Int)+(o.af.length:Int)) (by omega) (by(have:=fD o;omega))<|Op.px 1 [(13,vQ G 2)]<|Op.l1 22 13 14 2 (vL ae o.Data.length am) (X.ag 0 rfl) ?_
 refine Op.px 1 [(15,vI (o.Data.length:Int))]<|Op.cO 16 (((1:Int)+(o.af.length:Int))+(o.Data.length:Int)) (by omega) (by(have:=fD o;omega))<|Op.pg 2 [(7,vI (((1:Int)+(o.af.length:Int))+(o.Data.length:Int)))]<|At.rp 8 3 [(19,.bool (deep==0))]<|Op.wd (deep=0) 19 (fun ck=>?_) fun co=>?_
 ·refine Op.px 1 [(20,vQ G 8)]<|Op.l1 23 20 21 8 (vL O o.aB.length I) (X.ag 0 rfl)<|Op.pg 3 [(24,.bool (decide ((o.aB.length:Int)>0)))]<|At.fd ((o.aB.length:Int)>0) 24 4 6 (fun c3=>?_) fun c4=>?_
  ·exact At.rp 3 1 [(25,vI bM)]<|Op.vq 26 (bM+1)<|Op.pr 5 6 (vI (bM+1)) (hR X.drop ⟨(bg (by exact Tx ‹_› ‹_›)),rfl,rfl⟩)
  refine At.go 7 1 [(8,vI 0)] ?_
  have a3:∀(m:Nat) (n:Int) (i:Int) (a4:ay) (hm:o.aB.length-i.toNat<m) (h0:0≤i) (h1:i≤o.aB.length) (J:¬(deep=0∧o.aB≠[])) (hI:uf o bM deep n i) (U:St h g (aS []) g [[(G,Obj.cells #[vI o.ah,vS o.af,vL ae o.Data.length am,vI o.ai,vI o.aI,.bool o.aV,.bool o.aK,.bool o.au,vL O o.aB.length I] 25 (0,0))]] a4),At (bP prog B 25 f25 R) [] 7 [(1,vI bM),(2,vI deep),(3,vP G),(7,vI n),(8,vI i)] a4:=by
   intro m;induction m with
   |zero=>intros;omega
   |succ m a5=>
    intro n i a4 hm h0 h1 J hI U
    refine At.rp 10 2 [(27,vI i),(28,vQ G 8)]<|Op.l1 23 28 29 8 (vL O o.aB.length I) (U.ag 0 rfl)<|Op.px 3 [(32,.bool (decide (i<(o.aB.length:Int))))]<|Op.wd (i<(o.aB.length:Int)) 32 (fun c5=>?_) fun c6=>?_
    ·refine Op.pg 8 [(36,.bool (decide (n≤bM)))]<|At.fd (n≤bM) 36 9 11 (fun c8=>?_) fun c9=>?_
     ·refine At.rp 14 2 [(39,vI n),(40,vQ G 8)]<|Op.l1 23 40 41 8 (vL O o.aB.length I) (U.ag 0 rfl)<|Op.px 1 [(42,vI i)] ?_
      obtain⟨D,a6⟩:=bW o.aB i
      obtain⟨bm,bb,da,db,bo,bs,Z⟩:=an.bB ad _ a6
      cases bo
      refine Op.iq 23 25 9 96 o.aB.length I 41 42 43 bm bb i ?_
      replace Z:=k9.1 Z
      obtain⟨dc,dd,bc,bd,Z⟩:=Z
      obtain⟨a46,bt,rfl⟩:=bc.ak
      obtain⟨b3,b4,rfl⟩:=bd.ak
      refine Op.la 25 43 44 (bb+i.toNat*9) 9 [vI D.ah,vS D.af,vL a46 D.Data.length bt,vI D.ai,vI D.aI,.bool D.aV,.bool D.aK,.bool D.au,vL b3 D.aB.length b4] (U.sub _ _ bs) ?_ (hv:=Z)
      refine Op.px 2 [(45,vI bM),(46,vI n)]<|Op.vq 47 (bM-n)<|Op.px 1 [(48,vI deep)]<|Op.vq 49 (deep-1)<|Op.c1 50 (a9 _ _ _ U.sub ar D _ bc _ bd (bM-n) (deep-1) (by(try dsimp only)<;>omega) (by(try dsimp only)<;>omega) (by(try dsimp only)<;>omega) (by exact nR (iP (bY a6)) (r9 a1))) U fun df b5=>?_
      exact Op.vq 51 (n+(iH D (bM-n) (deep-1)))<|Op.pg 10 [(7,vI (n+(iH D (bM-n) (deep-1))))]<|At.rp 3 1 [(37,vI i)]<|Op.vq 38 (i+1)<|Op.pg 7 [(8,vI (i+1))] (At.ke (a5 (n+(iH D (bM-n) (deep-1))) (i+1) _ (by omega) (by omega) (by omega) (by exact J) (by exact LC hI h0 a6 ‹_›) b5))
     exact At.gr 12 2 6 (vI n) (hR U.drop ⟨(bg (by exact LF hI ‹_› J)),rfl,rfl⟩)
    exact Op.pg 8 [(36,vF)]<|At.cQ 36 11<|At.gr 12 2 6 (vI n) (hR U.drop ⟨(bg (by exact LD hI ‹_› J)),rfl,rfl⟩)
  exact At.ke (a3 _ (((1:Int)+(o.af.length:Int))+(o.Data.length:Int)) 0 _ (bG _) (by omega) (by omega) (by exact Tz ‹_›) (by exact LB o hm.1) X)
 refine Op.pg 3 [(24,vF)]<|At.cQ 24 6<|At.go 7 1 [(8,vI 0)] ?_
 have a3:∀(m:Nat) (n:Int) (i:Int) (a7:ay) (hm:o.aB.length-i.toNat<m) (h0:0≤i) (h1:i≤o.aB.length) (J:¬(deep=0∧o.aB≠[])) (hI:uf o bM deep n i) (V:St h g (aS []) g [[(G,Obj.cells #[vI o.ah,vS o.af,vL ae o.Data.length am,vI o.ai,vI o.aI,.bool o.aV,.bool o.aK,.bool o.au,vL O o.aB.length I] 25 (0,0))]] a7),At (bP prog B 25 f25 R) [] 7 [(1,vI bM),(2,vI deep),(3,vP G),(7,vI n),(8,vI i)] a7:=by
  intro m;induction m with
  |zero=>intros;omega
  |succ m a5=>
   intro n i a7 hm h0 h1 J hI V
   refine At.rp 10 2 [(27,vI i),(28,vQ G 8)]<|Op.l1 23 28 29 8 (vL O o.aB.length I) (V.ag 0 rfl)<|Op.px 3 [(32,.bool (decide (i<(o.aB.length:Int))))]<|Op.wd (i<(o.aB.length:Int)) 32 (fun dg=>?_) fun dj=>?_
   ·refine Op.pg 8 [(36,.bool (decide (n≤bM)))]<|At.fd (n≤bM) 36 9 11 (fun dk=>?_) fun dl=>?_
    ·refine At.rp 14 2 [(39,vI n),(40,vQ G 8)]<|Op.l1 23 40 41 8 (vL O o.aB.length I) (V.ag 0 rfl)<|Op.px 1 [(42,vI i)] ?_
     obtain⟨u,Y⟩:=bW o.aB i
     obtain⟨b6,be,dp,dq,b8,ca,ab⟩:=an.bB ad _ Y
     cases b8
     refine Op.iq 23 25 9 96 o.aB.length I 41 42 43 b6 be i ?_
     replace ab:=k9.1 ab
     obtain⟨du,dv,bi,bj,ab⟩:=ab
     obtain⟨cb,ce,rfl⟩:=bi.ak
     obtain⟨a75,cf,rfl⟩:=bj.ak
     refine Op.la 25 43 44 (be+i.toNat*9) 9 [vI u.ah,vS u.af,vL cb u.Data.length ce,vI u.ai,vI u.aI,.bool u.aV,.bool u.aK,.bool u.au,vL a75 u.aB.length cf] (V.sub _ _ ca) ?_ (hv:=ab)
     refine Op.px 2 [(45,vI bM),(46,vI n)]<|Op.cO 47 (bM-n) (by omega) (by(have:=hI.2.1;have:=hI.2.2;omega))<|Op.px 1 [(48,vI deep)]<|Op.vq 49 (deep-1)<|Op.c1 50 (a9 _ _ _ V.sub ar u _ bi _ bj (bM-n) (deep-1) (by((try dsimp only)<;>((have:=iP (bY Y);omega)))) (by((try dsimp only)<;>((have:=hI.2.1;have:=hI.2.2;omega)))) (by(try dsimp only)<;>omega) (by exact nR (iP (bY Y)) (r9 a1))) V fun dC ch=>?_
     exact Op.cO 51 (n+(iH u (bM-n) (deep-1))) (by(have:=hI.2.1;have:=hI.2.2;have:=iP (bY Y);have h9:=AQ u (bM-n) (deep-1) (by omega);omega)) (by(have:=hI.2.1;have:=hI.2.2;have:=iP (bY Y);have h9:=AQ u (bM-n) (deep-1) (by omega);omega))<|Op.pg 10 [(7,vI (n+(iH u (bM-n) (deep-1))))]<|At.rp 3 1 [(37,vI i)]<|Op.cO 38 (i+1) (by omega) (by(have:=fD o;omega))<|Op.pg 7 [(8,vI (i+1))] (At.ke (a5 (n+(iH u (bM-n) (deep-1))) (i+1) _ (by omega) (by omega) (by omega) (by exact J) (by exact LC hI h0 Y ‹_›) ch))
    exact At.gr 12 2 6 (vI n) (hR V.drop ⟨(bg (by exact LF hI ‹_› J)),rfl,rfl⟩)
   exact Op.pg 8 [(36,vF)]<|At.cQ 36 11<|At.gr 12 2 6 (vI n) (hR V.drop ⟨(bg (by exact LD hI ‹_› J)),rfl,rfl⟩)
 exact At.ke (a3 _ (((1:Int)+(o.af.length:Int))+(o.Data.length:Int)) 0 _ (bG _) (by omega) (by omega) (by exact Ty ‹_›) (by exact LB o hm.1) X)
theorem TC (B:World) (h:ay) (g:GH) (hg:bu g h) (G:bz g) (o:aR) (u:Value) (I:an g 5 a_ u o.Data) (D:Value) (J:an g 25 dy D o.aB) (bM:Int) (deep:Int) (ho:cU o≤100000000) (hm:0≤bM∧bM≤1000000) (hd:0≤deep∧deep≤1000):aG prog B 25 #[.agg #[vI o.ah,vS o.af,u,vI o.ai,vI o.aI,.bool o.aV,.bool o.aK,.bool o.au,D],vI bM,vI deep] h g [] (fun O g' L'=>O=.int .i64 (iH o bM deep)∧g'=g∧L'=[]):=TB _ B h g hg G o u I D J bM deep ho hm hd (bG _)
theorem TD (B:World) (h:ay) (g:GH) (hg:bu g h) (Y:bz g) (o:aR) (D:Value) (G:an g 5 a_ D o.Data) (I:Value) (J:an g 25 dy I o.aB) (bM:Int) (deep:Int) (ho:cU o≤100000000) (hm:0≤bM∧bM≤1000000) (hd:0≤deep∧deep≤1000):
  aG prog B 6 #[.agg #[vI o.ah,vS o.af,D,vI o.ai,vI o.aI,.bool o.aV,.bool o.aK,.bool o.au,I],vI bM,vI deep] h g [] (fun Z g' L'=>Z=.bool (lY o bM deep)∧g'=g∧L'=[]):=by
 obtain⟨O,U,rfl⟩:=G.ak
 obtain⟨V,X,rfl⟩:=J.ak
 refine aG.aq func6 fun R hR=>At.rg 2<|Op.bx 3 25 0 #[vI o.ah,vS o.af,vL O o.Data.length U,vI o.ai,vI o.aI,.bool o.aV,.bool o.aK,.bool o.au,vL V o.aB.length X] (St.init hg) fun ad ae u=>Op.pg 1 []<|At.rg 7 ?_
 exact Op.la 25 3 7 0 9 [vI o.ah,vS o.af,vL O o.Data.length U,vI o.ai,vI o.aI,.bool o.aV,.bool o.aK,.bool o.au,vL V o.aB.length X] (u.ag 0 rfl)<|Op.px 2 [(8,vI bM),(9,vI deep)]<|Op.c1 10 (TC _ _ _ u.sub Y o _ G _ J bM deep (by(try dsimp only)<;>omega) (by(try dsimp only)<;>omega) (by(try dsimp only)<;>omega)) u fun am ab=>Op.pr 2 6 (.bool (decide ((iH o bM deep)>bM))) (hR ab.drop ⟨(bn (by rfl)),rfl,rfl⟩)
theorem TE (mr:Nat):∀(B:World) (h:ay) (g:GH) (hg:bu g h) (ar:bz g) (a:aR) (aw:Value) (a0:an g 5 a_ aw a.Data) (a1:Value) (a3:an g 25 dy a1 a.aB) (b:aR) (a4:Value) (a5:an g 5 a_ a4 b.Data) (a6:Value) (a7:an g 25 dy a6 b.aB) (deep:Int) (I:a=b) (hs:cU a≤1000000000) (hd:0≤deep∧deep≤1000) (be:cU a<mr),aG prog B 11 #[.agg #[vI a.ah,vS a.af,aw,vI a.ai,vI a.aI,.bool a.aV,.bool a.aK,.bool a.au,a1],.agg #[vI b.ah,vS b.af,a4,vI b.ai,vI b.aI,.bool b.aV,.bool b.aK,.bool b.au,a6],vI deep] h g [] (fun c6 g' L'=>c6=vT∧g'=g∧L'=[]):=by
 induction mr with
 |zero=>intros;omega
 |succ mr c8=>
 intro B h g hg ar a aw a0 a1 a3 b a4 a5 a6 a7 deep I hs hd be
 obtain⟨a8,a9,rfl⟩:=a0.ak
 obtain⟨Y,X,rfl⟩:=a3.ak
 obtain⟨bb,bc,rfl⟩:=a5.ak
 obtain⟨ae,Z,rfl⟩:=a7.ak
 refine aG.aq func11 fun R hR=>At.rg 3<|Op.bx 3 25 0 #[vI a.ah,vS a.af,vL a8 a.Data.length a9,vI a.ai,vI a.aI,.bool a.aV,.bool a.aK,.bool a.au,vL Y a.aB.length X] (St.init hg) fun D d1 c9=>Op.bx 4 25 1 #[vI b.ah,vS b.af,vL bb b.Data.length bc,vI b.ai,vI b.aI,.bool b.aV,.bool b.aK,.bool b.au,vL ae b.aB.length Z] c9 fun G d2 J=>Op.pg 1 [] ?_
 refine At.rp 64 1 [(8,vP D)]<|Op.l1 3 8 9 0 (vI a.ah) (J.ag 1 rfl)<|Op.px 1 [(10,vP G)]<|Op.l1 3 10 11 0 (vI b.ah) (J.ag 0 rfl)<|Op.px 2 [(13,.bool (a.ah != b.ah))] ?_
 refine Op.wb (a.ah != b.ah) 13 (fun bi=>?_) fun bj=>?_
 ·replace bi:=fY bi
  exact Op.pg 2 [(71,vT)]<|At.bT 71 3<|At.gr 4 1 6 vF (hR J.drop.drop ⟨(bn (by(subst I;exact absurd rfl ‹_›))),rfl,rfl⟩)
 replace bj:=gB bj
 refine Op.px 1 [(14,vQ D 1)]<|Op.l1 9 14 15 1 (vS a.af) (J.ag 1 rfl)<|Op.px 1 [(16,vQ G 1)]<|Op.l1 9 16 17 1 (vS b.af) (J.ag 0 rfl)<|Op.vl 18 (.bool (!((br a.af).toList==(br b.af).toList))) (.bool (!(a.af==b.af))) (by rw[toList_mkS,toList_mkS]) ?_
 refine Op.px 2 [(20,.bool (!(a.af==b.af)))]<|Op.wb (!(a.af==b.af)) 20 (fun bk=>?_) fun bm=>?_
 ·replace bk:=pI (dn bk)
  exact Op.pg 2 [(71,vT)]<|At.bT 71 3<|At.gr 4 1 6 vF (hR J.drop.drop ⟨(bn (by(subst I;exact absurd rfl ‹_›))),rfl,rfl⟩)
 replace bm:=eq_of_beq (dr bm)
 refine Op.px 1 [(21,vQ D 2)]<|Op.l1 22 21 22 2 (vL a8 a.Data.length a9) (J.ag 1 rfl)<|Op.px 1 [(23,vQ G 2)]<|Op.l1 22 23 24 2 (vL bb b.Data.length bc) (J.ag 0 rfl)<|Op.c1 25 (qK _ _ _ J.sub ar _ _ a0 _ _ a5 (by((try dsimp only)<;>((have:=fD a;omega))))) J fun d3 u=>?_
 refine Op.px 3 [(28,.bool (!(decide (a.Data=b.Data))))]<|Op.wb (!(decide (a.Data=b.Data))) 28 (fun bo=>?_) fun bs=>?_
 ·replace bo:=kW (dn bo)
  exact Op.pg 2 [(71,vT)]<|At.bT 71 3<|At.gr 4 1 6 vF (hR u.drop.drop ⟨(bn (by(subst I;exact absurd rfl ‹_›))),rfl,rfl⟩)
 replace bs:=iX (dr bs)
 refine Op.px 1 [(29,vQ D 3)]<|Op.l1 3 29 30 3 (vI a.ai) (u.ag 1 rfl)<|Op.px 1 [(31,vQ G 3)]<|Op.l1 3 31 32 3 (vI b.ai) (u.ag 0 rfl)<|Op.px 3 [(35,.bool (a.ai != b.ai))] ?_
 refine Op.wb (a.ai != b.ai) 35 (fun bt=>?_) fun b3=>?_
 ·replace bt:=fY bt
  exact Op.pg 2 [(71,vT)]<|At.bT 71 3<|At.gr 4 1 6 vF (hR u.drop.drop ⟨(bn (by(subst I;exact absurd rfl ‹_›))),rfl,rfl⟩)
 replace b3:=gB b3
 refine Op.px 1 [(36,vQ D 4)]<|Op.l1 3 36 37 4 (vI a.aI) (u.ag 1 rfl)<|Op.px 1 [(38,vQ G 4)]<|Op.l1 3 38 39 4 (vI b.aI) (u.ag 0 rfl)<|Op.px 3 [(42,.bool (a.aI != b.aI))] ?_
 refine Op.wb (a.aI != b.aI) 42 (fun b4=>?_) fun b5=>?_
 ·replace b4:=fY b4
  exact Op.pg 2 [(71,vT)]<|At.bT 71 3<|At.gr 4 1 6 vF (hR u.drop.drop ⟨(bn (by(subst I;exact absurd rfl ‹_›))),rfl,rfl⟩)
 replace b5:=gB b5
 refine Op.px 1 [(43,vQ D 5)]<|Op.l1 4 43 44 5 (.bool a.aV) (u.ag 1 rfl)<|Op.px 1 [(45,vQ G 5)]<|Op.l1 4 45 46 5 (.bool b.aV) (u.ag 0 rfl)<|Op.px 3 [(49,.bool (a.aV != b.aV))] ?_
 refine Op.wb (a.aV != b.aV) 49 (fun b6=>?_) fun b8=>?_
 ·replace b6:=fY b6
  exact Op.pg 2 [(71,vT)]<|At.bT 71 3<|At.gr 4 1 6 vF (hR u.drop.drop ⟨(bn (by(subst I;exact absurd rfl ‹_›))),rfl,rfl⟩)
 replace b8:=gB b8
 refine Op.px 1 [(50,vQ D 6)]<|Op.l1 4 50 51 6 (.bool a.aK) (u.ag 1 rfl)<|Op.px 1 [(52,vQ G 6)]<|Op.l1 4 52 53 6 (.bool b.aK) (u.ag 0 rfl)<|Op.px 3 [(56,.bool (a.aK != b.aK))] ?_
 refine Op.wb (a.aK != b.aK) 56 (fun ca=>?_) fun cb=>?_
 ·replace ca:=fY ca
  exact Op.pg 2 [(71,vT)]<|At.bT 71 3<|At.gr 4 1 6 vF (hR u.drop.drop ⟨(bn (by(subst I;exact absurd rfl ‹_›))),rfl,rfl⟩)
 replace cb:=gB cb
 refine Op.px 1 [(57,vQ D 7)]<|Op.l1 4 57 58 7 (.bool a.au) (u.ag 1 rfl)<|Op.px 1 [(59,vQ G 7)]<|Op.l1 4 59 60 7 (.bool b.au) (u.ag 0 rfl)<|Op.px 3 [(63,.bool (a.au != b.au))] ?_
 refine Op.wb (a.au != b.au) 63 (fun ce=>?_) fun cf=>?_
 ·replace ce:=fY ce
  exact Op.pg 2 [(71,vT)]<|At.bT 71 3<|At.gr 4 1 6 vF (hR u.drop.drop ⟨(bn (by(subst I;exact absurd rfl ‹_›))),rfl,rfl⟩)
 replace cf:=gB cf
 refine Op.px 1 [(64,vQ D 8)]<|Op.l1 23 64 65 8 (vL Y a.aB.length X) (u.ag 1 rfl)<|Op.px 2 [(66,vI (a.aB.length:Int)),(67,vQ G 8)]<|Op.l1 23 67 68 8 (vL ae b.aB.length Z) (u.ag 0 rfl)<|Op.pg 2 [(71,.bool ((a.aB.length:Int) != (b.aB.length:Int)))] ?_
 refine At.fn ((a.aB.length:Int)=(b.aB.length:Int)) 71 3 5 (fun d4=>?_) fun d5=>?_
 ·exact At.gr 4 1 6 vF (hR u.drop.drop ⟨(bn (by(subst I;exact absurd rfl ‹_›))),rfl,rfl⟩)
 refine At.go 6 1 [(7,vI 0)] ?_
 have da:∀(m:Nat) (i:Int) (bd:ay) (hm:a.aB.length-i.toNat<m) (h0:0≤i) (h1:i≤a.aB.length) (O:St h g (aS []) g [[(G,Obj.cells #[vI b.ah,vS b.af,vL bb b.Data.length bc,vI b.ai,vI b.aI,.bool b.aV,.bool b.aK,.bool b.au,vL ae b.aB.length Z] 25 (0,0))],[(D,Obj.cells #[vI a.ah,vS a.af,vL a8 a.Data.length a9,vI a.ai,vI a.aI,.bool a.aV,.bool a.aK,.bool a.au,vL Y a.aB.length X] 25 (0,0))]] bd),At (bP prog B 11 f11 R) [] 6 [(2,vI deep),(3,vP D),(4,vP G),(7,vI i)] bd:=by
  intro m;induction m with
  |zero=>intros;omega
  |succ m db=>
   intro i bd hm h0 h1 O
   refine At.rp 9 2 [(72,vI i),(73,vQ D 8)]<|Op.l1 23 73 74 8 (vL Y a.aB.length X) (O.ag 1 rfl)<|Op.px 3 [(77,.bool (decide (i<(a.aB.length:Int))))]<|Op.wd (i<(a.aB.length:Int)) 77 (fun d6=>?_) fun d7=>?_
   ·refine Op.pg 7 [(80,.bool (decide (deep>0)))]<|At.fd (deep>0) 80 8 13 (fun d8=>?_) fun d9=>?_
    ·refine At.dw (fun _=>False) [(0,true),(2,true),(5,true),(7,true),(10,true),(11,true),(1,true),(3,true),(4,true),(6,false),(8,true),(9,false),(12,false),(13,true)]<|Op.px 5 [(83,vQ D 8),(85,vI i),(88,vQ G 8),(90,vI i),(93,vI deep)]<|Op.vq 94 (deep-1)<|Op.lf 23 83 8 84 1 (vL Y a.aB.length X) id (O.ag 1 rfl) ?_
     obtain⟨U,am⟩:=bW a.aB i
     obtain⟨dc,ch,ea,eb,dd,df,ab⟩:=an.bB a3 _ am
     cases dd
     refine Op.iq 23 25 9 96 a.aB.length X 84 85 86 dc ch i ?_
     replace ab:=k9.1 ab
     obtain⟨ed,ee,ci,ck,ab⟩:=ab
     obtain⟨dg,dj,rfl⟩:=ci.ak
     obtain⟨dk,dl,rfl⟩:=ck.ak
     refine Op.qv (T:=25) (x:=86) (o:=ch+i.toNat*9) (d:=87) (n:=9) (vs:=[vI U.ah,vS U.af,vL dg U.Data.length dj,vI U.ai,vI U.aI,.bool U.aV,.bool U.aK,.bool U.au,vL dk U.aB.length dl]) (by kernel_rfl) (by kernel_rfl) (by kernel_rfl) id (O.sub _ _ df) ab rfl<|Op.l1 23 88 89 8 (vL ae b.aB.length Z) (O.ag 0 rfl) ?_
     obtain⟨V,co⟩:=bW b.aB i
     obtain⟨dp,c3,ef,eh,dq,du,ad⟩:=an.bB a7 _ co
     cases dq
     refine Op.iq 23 25 9 96 b.aB.length Z 89 90 91 dp c3 i ?_
     replace ad:=k9.1 ad
     obtain⟨ej,em,c4,c5,ad⟩:=ad
     obtain⟨dv,dC,rfl⟩:=c4.ak
     obtain⟨dE,dT,rfl⟩:=c5.ak
     refine Op.la 25 91 92 (c3+i.toNat*9) 9 [vI V.ah,vS V.af,vL dv V.Data.length dC,vI V.ai,vI V.aI,.bool V.aV,.bool V.aK,.bool V.au,vL dE V.aB.length dT] (O.sub _ _ du) ?_ (hv:=ad)
     refine Op.c1 95 (c8 _ _ _ O.sub ar U _ ci _ ck V _ c4 _ c5 (deep-1) (by((try dsimp only)<;>((subst I;exact gI (am.symm.trans co))))) (by((try dsimp only)<;>((have:=iP (bY am);omega)))) (by(try dsimp only)<;>omega) (by exact nR (iP (bY am)) (r9 be))) O fun en d0=>Op.pg 9 [(96,vF)]<|At.cQ 96 12<|At.rp 3 1 [(81,vI i)]<|Op.cO 82 (i+1) (by omega) (by(have:=fD a;omega)) ?_
     exact Op.pg 6 [(7,vI (i+1))] (At.ke (db (i+1) _ (by omega) (by omega) (by omega) d0))
    exact At.gr 14 1 6 vT (hR O.drop.drop ⟨(bn (by rfl)),rfl,rfl⟩)
   exact Op.pg 7 [(80,vF)]<|At.cQ 80 13<|At.gr 14 1 6 vT (hR O.drop.drop ⟨(bn (by rfl)),rfl,rfl⟩)
 exact At.ke (da _ 0 _ (bG _) (by omega) (by omega) u)
theorem Ej (B:World) (h:ay) (g:GH) (hg:bu g h) (J:bz g) (a:aR) (u:Value) (O:an g 5 a_ u a.Data) (D:Value) (U:an g 25 dy D a.aB) (b:aR) (G:Value) (V:an g 5 a_ G b.Data) (I:Value) (X:an g 25 dy I b.aB) (deep:Int) (Y:a=b) (hs:cU a≤1000000000) (hd:0≤deep∧deep≤1000):aG prog B 11 #[.agg #[vI a.ah,vS a.af,u,vI a.ai,vI a.aI,.bool a.aV,.bool a.aK,.bool a.au,D],.agg #[vI b.ah,vS b.af,G,vI b.ai,vI b.aI,.bool b.aV,.bool b.aK,.bool b.au,I],vI deep] h g [] (fun Z g' L'=>Z=vT∧g'=g∧L'=[]):=TE _ B h g hg J a u O D U b G V I X deep Y hs hd (bG _)
theorem TF (B:World) (h:ay) (g:GH) (hg:bu g h) (u:bz g) (o:aR) (cf:Value) (D:an g 5 a_ cf o.Data) (ch:Value) (G:an g 25 dy ch o.aB) (ci:Value) (b:aj) (I:an g 5 a_ ci b) (hP:l_ g) (ho:cU o≤2000000) (hb:b.length≤1048576):
  aG prog B 3 #[.agg #[vI o.ah,vS o.af,cf,vI o.ai,vI o.aI,.bool o.aV,.bool o.aK,.bool o.au,ch],ci] h g [] (fun du g' L'=>du=vT∧L'=[]):=by
 obtain⟨Z,ab,rfl⟩:=D.ak
 obtain⟨ad,ae,rfl⟩:=G.ak
 obtain⟨ck,co,rfl⟩:=I.ak
 refine aG.aq func3 fun R hR=>At.rg 2<|Op.bx 2 25 0 #[vI o.ah,vS o.af,vL Z o.Data.length ab,vI o.ai,vI o.aI,.bool o.aV,.bool o.aK,.bool o.au,vL ad o.aB.length ae] (St.init hg) fun d8 d9 c3=>Op.pg 1 []<|At.rg 2 ?_
 refine Op.c0 (some 12) (KV _ _ _ c3.sub u hP) c3 ?_
 rintro _ ea _ eb a0 a9 ⟨rfl,rfl⟩
 replace u:=u.mono a0
 replace hP:=hP.mono a0
 replace I:=I.mono a0
 replace D:=D.mono a0
 replace G:=G.mono a0
 refine Op.pg 2 [(13,vF)]<|At.cQ 13 5<|At.rg 7<|Op.la 25 2 14 0 9 [vI o.ah,vS o.af,vL Z o.Data.length ab,vI o.ai,vI o.aI,.bool o.aV,.bool o.aK,.bool o.au,vL ad o.aB.length ae] (a9.ag 0 rfl)<|Op.c1 15 (TD _ _ _ a9.sub u o _ D _ G 5000 3 (by(try dsimp only)<;>omega) (by(try dsimp only)<;>omega) (by(try dsimp only)<;>omega)) a9 fun ed a1=>?_
 refine Op.px 1 [(16,.bool (lY o (5000) (3)))]<|Op.wb (lY o (5000) (3)) 16 (fun ee=>?_) fun ef=>?_
 ·exact Op.pg 6 [(20,vT)]<|At.bT 20 7<|At.gr 8 1 4 vT (hR a1.drop ⟨(bn (by rfl)),rfl⟩)
 refine Op.pg 6 [(20,.bool (decide ((b.length:Int)>5000)))]<|At.fd ((b.length:Int)>5000) 20 7 9 (fun eh=>?_) fun ej=>?_
 ·exact At.gr 8 1 4 vT (hR a1.drop ⟨(bn (by rfl)),rfl⟩)
 refine At.rg 4<|Op.la 25 2 21 0 9 [vI o.ah,vS o.af,vL Z o.Data.length ab,vI o.ai,vI o.aI,.bool o.aV,.bool o.aK,.bool o.au,vL ad o.aB.length ae] (a1.ag 0 rfl)<|Op.c0 (some 22) (KI _ _ _ a1.sub u o _ D _ G 3 (by(try dsimp only)<;>omega) (by(try dsimp only)<;>omega)) a1 ?_
 rintro _ em _ en a3 dv ⟨v37,ep,rfl,U,V,rfl⟩
 obtain⟨bb,bc,rfl⟩:=U.ak
 obtain⟨bd,be,rfl⟩:=V.ak
 replace u:=u.mono a3
 replace hP:=hP.mono a3
 replace I:=I.mono a3
 replace D:=D.mono a3
 replace G:=G.mono a3
 refine Op.al 5 25 #[vI 0,vS [],vN,vI 0,vI 0,vF,vF,vF,vN] dv fun er et dC=>Op.sg 25 5 22 0 0 #[vI ((bD o (3)).ah),vS ((bD o (3)).af),vL bb (((bD o (3)).Data).length) bc,vI ((bD o (3)).ai),vI ((bD o (3)).aI),.bool ((bD o (3)).aV),.bool ((bD o (3)).aK),.bool ((bD o (3)).au),vL bd (((bD o (3)).aB).length) be] dC zt fun ex bi=>Op.gt 10<|At.rg 7<|Op.la 25 5 24 0 9 [vI ((bD o (3)).ah),vS ((bD o (3)).af),vL bb (((bD o (3)).Data).length) bc,vI ((bD o (3)).ai),vI ((bD o (3)).aI),.bool ((bD o (3)).aV),.bool ((bD o (3)).aK),.bool ((bD o (3)).au),vL bd (((bD o (3)).aB).length) be] (bi.ag 0 rfl) ?_
 refine Op.c0 (some 25) (Ji _ _ _ bi.sub u (bD o (3)) _ U _ V (by((try dsimp only)<;>(exact Au (by omega))))) bi ?_
 rintro _ eA _ eB X bj ⟨eI,rfl,J,rfl⟩
 obtain⟨bk,bm,rfl⟩:=J.ak
 replace u:=u.mono X
 replace hP:=hP.mono X
 replace I:=I.mono X
 replace D:=D.mono X
 replace G:=G.mono X
 replace U:=U.mono X
 replace V:=V.mono X
 refine Op.pg 11 [(6,vL bk (((bQ (bD o (3))).1).length) bm),(7,vI ((bQ (bD o (3))).2))]<|At.rg 7<|Op.la 25 2 29 0 9 [vI o.ah,vS o.af,vL Z o.Data.length ab,vI o.ai,vI o.aI,.bool o.aV,.bool o.aK,.bool o.au,vL ad o.aB.length ae] (bj.ag 1 rfl)<|Op.c0 (some 30) (Lu _ _ _ bj.sub u o _ D _ G (by(try dsimp only)<;>omega)) bj ?_
 rintro _ eJ _ eK O c4 ⟨eL,rfl,c5,rfl⟩
 obtain⟨c6,c8,rfl⟩:=c5.ak
 replace u:=u.mono O
 replace hP:=hP.mono O
 replace I:=I.mono O
 replace D:=D.mono O
 replace G:=G.mono O
 replace U:=U.mono O
 replace V:=V.mono O
 replace J:=J.mono O
 refine Op.pg 12 [(8,vL c6 (((bQ o).1).length) c8),(9,vI ((bQ o).2))]<|At.rp 15 2 [(33,vL bk (((bQ (bD o (3))).1).length) bm),(34,vL c6 (((bQ o).1).length) c8)]<|Op.c1 35 (qK _ _ _ c4.sub u _ _ J _ _ c5 (by(try dsimp only)<;>exact AI _)) c4 fun eQ am=>Op.px 2 [(37,.bool (!(decide (((bQ (bD o (3))).1)=((bQ o).1)))))]<|Op.wb (!(decide (((bQ (bD o (3))).1)=((bQ o).1)))) 37 (fun c9=>?_) fun da=>?_
 ·replace c9:=kW (dn c9)
  exact Op.pg 13 [(47,vT)]<|At.bT 47 14<|At.gr 15 1 4 vF (hR am.drop.drop ⟨(bn (by exact absurd (show(bQ (bD o 3)).1=(bQ o).1 by rw[ug (show lY o 5000 3=false by assumption)]) ‹_›)),rfl⟩)
 replace da:=iX (dr da)
 refine Op.px 5 [(42,.bool (((bQ (bD o (3))).2) != ((bQ o).2)))]<|Op.wb (((bQ (bD o (3))).2) != ((bQ o).2)) 42 (fun db=>?_) fun dc=>?_
 ·replace db:=fY db
  exact Op.pg 13 [(47,vT)]<|At.bT 47 14<|At.gr 15 1 4 vF (hR am.drop.drop ⟨(bn (by exact absurd (show(bQ (bD o 3)).2=(bQ o).2 by rw[ug (show lY o 5000 3=false by assumption)]) ‹_›)),rfl⟩)
 replace dc:=gB dc
 refine Op.la 25 5 43 0 9 [vI ((bD o (3)).ah),vS ((bD o (3)).af),vL bb (((bD o (3)).Data).length) bc,vI ((bD o (3)).ai),vI ((bD o (3)).aI),.bool ((bD o (3)).aV),.bool ((bD o (3)).aK),.bool ((bD o (3)).au),vL bd (((bD o (3)).aB).length) be] (am.ag 0 rfl)<|Op.la 25 2 44 0 9 [vI o.ah,vS o.af,vL Z o.Data.length ab,vI o.ai,vI o.aI,.bool o.aV,.bool o.aK,.bool o.au,vL ad o.aB.length ae] (am.ag 1 rfl)<|Op.c1 45 (Ej _ _ _ am.sub u (bD o (3)) _ U _ V o _ D _ G 3 (by((try dsimp only)<;>(exact ug (show lY o 5000 3=false by assumption)))) (by((try dsimp only)<;>(exact Au (by omega)))) (by(try dsimp only)<;>omega)) am fun e1 dd=>Op.pg 13 [(47,vF)]<|At.cQ 47 16 ?_
 refine At.rp 9 1 [(49,vL ck b.length co)]<|Op.c0 (some 50) (mT _ _ _ dd.sub u _ _ I (by(try dsimp only)<;>omega)) dd ?_
 rintro _ dE _ e2 dT d0 ⟨e3,e4,rfl,df,e5,rfl⟩;subst dE;clear dT
 obtain⟨e6,e7,rfl⟩:=df.ak
 obtain⟨e8,dg,ar,d1⟩:=aH.freeze df (d0)
 replace u:=u.mono ar
 replace hP:=hP.mono ar
 replace I:=I.mono ar
 replace D:=D.mono ar
 replace G:=G.mono ar
 replace J:=J.mono ar
 refine Op.c0 (some 51) (DD _ _ _ dg.sub u _ _ d1 (by(try dsimp only)<;>omega)) dg ?_
 rintro _ e9 _ fa aw d2 ⟨fg,fi,rfl,a5,a6,rfl⟩
 obtain⟨bo,bs,rfl⟩:=a5.ak
 obtain⟨bt,b3,rfl⟩:=a6.ak
 replace u:=u.mono aw
 replace hP:=hP.mono aw
 replace I:=I.mono aw
 replace D:=D.mono aw
 replace G:=G.mono aw
 replace J:=J.mono aw
 refine Op.px 3 [(52,.agg #[vI (((aD b).1).ah),vS (((aD b).1).af),vL bo ((((aD b).1).Data).length) bs,vI (((aD b).1).ai),vI (((aD b).1).aI),.bool (((aD b).1).aV),.bool (((aD b).1).aK),.bool (((aD b).1).au),vL bt ((((aD b).1).aB).length) b3]),(53,vI ((aD b).2))]<|Op.al 10 25 #[vI 0,vS [],vN,vI 0,vI 0,vF,vF,vF,vN] d2 fun fj fl d3=>Op.sg 25 10 52 0 0 #[vI (((aD b).1).ah),vS (((aD b).1).af),vL bo ((((aD b).1).Data).length) bs,vI (((aD b).1).ai),vI (((aD b).1).aI),.bool (((aD b).1).aV),.bool (((aD b).1).aK),.bool (((aD b).1).au),vL bt ((((aD b).1).aB).length) b3] d3 zt fun fp dj=>Op.pg 17 [(7,vI ((aD b).2))]<|At.rp 8 1 [(55,vL ck b.length co)] ?_
 refine Op.c0 (some 56) (Tw _ _ _ dj.sub u _ _ I (by(try dsimp only)<;>omega)) dj ?_
 rintro _ fr _ ft Y d4 ⟨fv,fw,rfl,dk,dl,rfl⟩
 obtain⟨b4,b5,rfl⟩:=dk.ak
 obtain⟨b6,n119,rfl⟩:=dl.ak
 replace u:=u.mono Y
 replace hP:=hP.mono Y
 replace D:=D.mono Y
 replace G:=G.mono Y
 replace a6:=a6.mono Y
 replace J:=J.mono Y
 replace a5:=a5.mono Y
 refine Op.px 3 [(57,.agg #[vI (((aD b).1).ah),vS (((aD b).1).af),vL b4 ((((aD b).1).Data).length) b5,vI (((aD b).1).ai),vI (((aD b).1).aI),.bool (((aD b).1).aV),.bool (((aD b).1).aK),.bool (((aD b).1).au),vL b6 ((((aD b).1).aB).length) n119]),(58,vI ((aD b).2))]<|Op.al 11 25 #[vI 0,vS [],vN,vI 0,vI 0,vF,vF,vF,vN] d4 fun fx f0 d5=>Op.sg 25 11 57 0 0 #[vI (((aD b).1).ah),vS (((aD b).1).af),vL b4 ((((aD b).1).Data).length) b5,vI (((aD b).1).ai),vI (((aD b).1).aI),.bool (((aD b).1).aV),.bool (((aD b).1).aK),.bool (((aD b).1).au),vL b6 ((((aD b).1).aB).length) n119] d5 zt fun f1 a7=>Op.pg 18 [(9,vI ((aD b).2))]<|At.rg 9 ?_
 refine Op.la 25 10 59 0 9 [vI (((aD b).1).ah),vS (((aD b).1).af),vL bo ((((aD b).1).Data).length) bs,vI (((aD b).1).ai),vI (((aD b).1).aI),.bool (((aD b).1).aV),.bool (((aD b).1).aK),.bool (((aD b).1).au),vL bt ((((aD b).1).aB).length) b3] (a7.ag 1 rfl)<|Op.la 25 11 60 0 9 [vI (((aD b).1).ah),vS (((aD b).1).af),vL b4 ((((aD b).1).Data).length) b5,vI (((aD b).1).ai),vI (((aD b).1).aI),.bool (((aD b).1).aV),.bool (((aD b).1).aK),.bool (((aD b).1).au),vL b6 ((((aD b).1).aB).length) n119] (a7.ag 0 rfl)<|Op.c1 61 (Ej _ _ _ a7.sub u ((aD b).1) _ a5 _ a6 ((aD b).1) _ dk _ dl 3 (by((try dsimp only)<;>(first|omega|exact hP|exact⟨by decide,by decide⟩|exact Au (by omega)|exact AI _|exact ug (show lY o 5000 3=false by assumption)|rfl|exact LG (show lY o 5000 3=false by assumption) ‹_›|exact Ei _|(rw[ug (show lY o 5000 3=false by assumption)];omega)))) (by(try dsimp only)<;>exact Ei _) (by(try dsimp only)<;>omega)) a7 fun f2 b8=>Op.px 4 [(63,vF),(64,vI ((aD b).2)),(65,vI ((aD b).2))]<|Op.vl 66 (.bool (((aD b).2) != ((aD b).2))) vF (by simp) ?_
 refine Op.pg 19 [(67,vF)]<|At.cQ 67 22<|At.go 23 3 [(70,.bool (decide ((((bQ (bD o (3))).1).length:Int)>0)))]<|At.fd ((((bQ (bD o (3))).1).length:Int)>0) 70 24 27 (fun f3=>?_) fun f4=>?_
 ·refine At.rp 7 1 [(72,vL bk (((bQ (bD o (3))).1).length) bm)]<|Op.c0 (some 73) (DD _ _ _ b8.sub u _ _ J (by(try dsimp only)<;>exact AI _)) b8 ?_
  rintro _ f5 _ f6 a8 d6 ⟨f7,v139,rfl,dp,dq,rfl⟩
  obtain⟨ca,n138,rfl⟩:=dp.ak
  obtain⟨cb,ce,rfl⟩:=dq.ak
  replace u:=u.mono a8
  replace hP:=hP.mono a8
  replace D:=D.mono a8
  replace G:=G.mono a8
  refine Op.px 3 [(74,.agg #[vI (((aD ((bQ (bD o (3))).1)).1).ah),vS (((aD ((bQ (bD o (3))).1)).1).af),vL ca ((((aD ((bQ (bD o (3))).1)).1).Data).length) n138,vI (((aD ((bQ (bD o (3))).1)).1).ai),vI (((aD ((bQ (bD o (3))).1)).1).aI),.bool (((aD ((bQ (bD o (3))).1)).1).aV),.bool (((aD ((bQ (bD o (3))).1)).1).aK),.bool (((aD ((bQ (bD o (3))).1)).1).au),vL cb ((((aD ((bQ (bD o (3))).1)).1).aB).length) ce]),(75,vI ((aD ((bQ (bD o (3))).1)).2))]<|Op.sg 25 10 74 0 1 #[vI (((aD ((bQ (bD o (3))).1)).1).ah),vS (((aD ((bQ (bD o (3))).1)).1).af),vL ca ((((aD ((bQ (bD o (3))).1)).1).Data).length) n138,vI (((aD ((bQ (bD o (3))).1)).1).ai),vI (((aD ((bQ (bD o (3))).1)).1).aI),.bool (((aD ((bQ (bD o (3))).1)).1).aV),.bool (((aD ((bQ (bD o (3))).1)).1).aK),.bool (((aD ((bQ (bD o (3))).1)).1).au),vL cb ((((aD ((bQ (bD o (3))).1)).1).aB).length) ce] d6 zt fun f8 a4=>Op.pg 25 [(7,vI ((aD ((bQ (bD o (3))).1)).2))]<|At.rp 8 3 [(78,.bool (((aD ((bQ (bD o (3))).1)).2)==0))]<|Op.wd (((aD ((bQ (bD o (3))).1)).2)=0) 78 (fun f9=>?_) fun gc=>?_
  ·exact Op.la 25 10 79 0 9 [vI (((aD ((bQ (bD o (3))).1)).1).ah),vS (((aD ((bQ (bD o (3))).1)).1).af),vL ca ((((aD ((bQ (bD o (3))).1)).1).Data).length) n138,vI (((aD ((bQ (bD o (3))).1)).1).ai),vI (((aD ((bQ (bD o (3))).1)).1).aI),.bool (((aD ((bQ (bD o (3))).1)).1).aV),.bool (((aD ((bQ (bD o (3))).1)).1).aK),.bool (((aD ((bQ (bD o (3))).1)).1).au),vL cb ((((aD ((bQ (bD o (3))).1)).1).aB).length) ce] (a4.ag 1 rfl)<|Op.la 25 2 80 0 9 [vI o.ah,vS o.af,vL Z o.Data.length ab,vI o.ai,vI o.aI,.bool o.aV,.bool o.aK,.bool o.au,vL ad o.aB.length ae] (a4.ag 3 rfl)<|Op.c1 81 (Ej _ _ _ a4.sub u ((aD ((bQ (bD o (3))).1)).1) _ dp _ dq o _ D _ G 3 (by((try dsimp only)<;>(exact LG (show lY o 5000 3=false by assumption) ‹_›))) (by(try dsimp only)<;>exact Ei _) (by(try dsimp only)<;>omega)) a4 fun ge d7=>Op.pr 26 4 vT (hR d7.drop.drop.drop.drop ⟨(bn (by rfl)),rfl⟩)
  exact Op.pr 26 4 vF (hR a4.drop.drop.drop.drop ⟨(bn (by exact absurd (TA (show lY o 5000 3=false by assumption) ‹_›) ‹_›)),rfl⟩)
 exact At.gr 28 1 4 vT (hR b8.drop.drop.drop.drop ⟨(bn (by rfl)),rfl⟩)
open Go Go.ChangeShapes Go.WideShapes Go.ChangeAt Go.RowKit Go.Deep Go.ChangeMaps
section
variable {H:Type} {enc:TypeId×Value→H} {P:Program} {w w':World} {ox:Nat} {sp:Nat→Bool} {hd:Bool}
end
section
variable {P:Program} {T E:TypeId}
theorem eM.bool (ht:P.underlying T=some .bool):eM P T S7 (fun _=>True):=⟨fun h hb=>by
  obtain⟨n,rfl,rfl⟩:=DataW.trod_bool ht h
  exact⟨n,rfl,trivial⟩⟩
end
section
variable {P:Program} {w:World} {T:TypeId} {H:Type} {enc:TypeId×Value→H} {v:Value} {dt:DataW H} {ps:List MemPlace} {b0:Nat} {r:Reach}
end
structure uh (N:Nat) (P:Program) (T:TypeId) {α:Type} (d:Kd α) (ok:Nat→α→Prop):Prop where
  out:∀{H:Type} {enc:TypeId×Value→H} {w:World} {bH:Nat} {cs:List Value} {x:DataW H×List MemPlace},
    DataW.trod enc P w 0 (fun _=>true) true bH T cs=some x→Rows.uptoBulk x.1≤N→N≤1048576→∃y,d.K (ov w) y cs∧ok (Rows.uptoBulk x.1) y
theorem LH {H:Type}:∀l:List (DataW H),Rows.uptoBulkAll l=(l.map Rows.uptoBulk).sum
  |[]=>rfl
  |d::r=>by rw[Rows.uptoBulkAll,eS,Ec,LH r]
theorem uh.sl {N:Nat} {P:Program} {T E:TypeId} {α:Type} {d:Kd α} {ok:Nat→α→Prop} (I:uh N P E d ok) (ht:P.underlying T=some (.slice E)) (hc:P.cellsOf E=d.sz) (hp:0<d.sz):
    uh (N+1) P T (fI E d) (fun b ys=>∃ds:List Nat,ds.length=ys.length∧ds.sum+1≤b∧∀(i:Nat) y n,ys[i]?=some y→ds[i]?=some n→ok n y):=⟨fun{H enc w bH cs x} h hb hN=>by
  rcases open_slice ht h with ⟨rfl,rfl⟩|⟨a,len,cap,m,n,u,X,rfl,_,hl,hm,J,rfl,hx⟩
  · exact⟨[],⟨_,rfl,an.nil _ _ _⟩,[],rfl,by simp[Rows.uptoBulk],fun i y n h=>by simp at h⟩
  · rw[aY rfl] at J
    subst J
    simp only[Rows.uptoBulk] at hb
    have hlen:=D9 ((List.range len).map u)
    rw[ew,AB] at hlen
    have D:∀i,i<len→∃y,∃cs',w.cells? 0 (a.add (i*d.sz)) d.sz=some cs'∧d.K (ov w) y cs'∧ok (Rows.uptoBulk (u i)) y:=fun i hi=>by
      obtain⟨cs',h1,h2⟩:=hx i (by omega)
      have h3:Rows.uptoBulk (u i)≤Rows.uptoBulkAll ((List.range len).map u):=jh (cY.2 ⟨i,A5.2 hi,rfl⟩)
      obtain⟨y,h4,h5⟩:=I.out h2 (by show Rows.uptoBulk (u i)≤_;omega) (by omega)
      rw[hc] at h1
      exact⟨y,cs',h1,h4,h5⟩
    obtain⟨ys,O,hy⟩:=D_ len D
    refine⟨ys,⟨_,rfl,_,m,by rw[O],by omega,fun hne=>?_⟩,(List.range len).map (fun i=>Rows.uptoBulk (u i)),by rw[ew,AB,O],?_,fun i y n hi hn=>?_⟩
    · obtain⟨b,o,spot⟩:=a
      have h0:0<len:=by
        rcases Nat.eq_zero_or_pos len with h|h
        · exact absurd (kU (by omega)) hne
        · exact h
      have U:spot=none:=by
        obtain⟨_,cs',h1,_⟩:=D 0 h0
        unfold World.cells? at h1
        rw[aY (eX _)] at h1
        obtain⟨v,_,hf⟩:=Lib.mapM_at h1 0 0 (by simp[hp])
        simpa[Addr.add] using World.cell?_spot hf
      subst U
      obtain⟨_,Y,h1,_⟩:=D 0 h0
      rw[yG,kS,nq] at h1
      obtain⟨cur,V,fz,hb',_⟩:=AD h1 hp
      refine⟨b,o,cur,(V,fz),rfl,hb',Ea ys o fun i y hi=>?_⟩
      obtain⟨cs',h2,h3,_⟩:=hy i y hi
      rw[kS] at h2
      obtain⟨Z,ab,ad,G,e⟩:=AD h2 hp
      rw[hb'] at G
      simp only[ey,Obj.cells.injEq] at G
      obtain⟨rfl,_,_⟩:=G
      rw[←e];exact h3
    · have:=LH ((List.range len).map u)
      rw[jA] at this
      show((List.range len).map (Rows.uptoBulk ∘ u)).sum+1≤Rows.uptoBulk (.slice ((List.range len).map u) _)
      simp only[Rows.uptoBulk]
      omega
    · obtain⟨cs',_,_,hok⟩:=hy i y hi
      rw[jC] at hn
      have hlt:=(fO.1 hi).1
      rw[Fe (by omega)] at hn
      obtain rfl:=gI hn
      exact hok⟩
def Ek (n:Int):Prop:= -9223372036854775808≤n∧n≤9223372036854775807
def LI (b:Nat) (o:aR):Prop:=cU o≤b∧Ek o.ah∧Ek o.ai∧Ek o.aI
theorem LJ:∀(ys:List aR) (ds:List Nat),ds.length=ys.length→(∀(i:Nat) y n,ys[i]?=some y→ds[i]?=some n→LI n y)→gl ys≤ds.sum
  |[],[],_,_=>by rw[gl];exact eX _
  |[],_::_,h,_=>by simp at h
  |_::_,[],h,_=>by simp at h
  |y::ys,n::ds,h,hk=>by
   have h1:=(hk 0 y n rfl rfl).1
   have h2:=LJ ys ds (by simpa using h) fun i u D hy hn=>hk (i+1) u D (by simpa using hy) (by simpa using hn)
   rw[gl,Ec]
   omega
theorem LK:∀N:Nat,uh N prog 25 dy LI
  |0=>⟨fun{H enc w bH cs x} h hb hN=>by have:=D8 x.1;omega⟩
  |N+1=>⟨fun{H enc w bH cs x} h hb hN=>by
   obtain⟨xs,n,_,rfl,hl,hlen,hf⟩:=DataW.trod_struct underlying25 h
   have hl:cs.length=9:=hl.trans (by kernel_rfl)
   have hlen:xs.length=9:=hlen
   obtain⟨a0,a1,a2,a3,a4,a5,J,O,U,rfl⟩:∃a0 a1 a2 a3 a4 a5 J O U,cs=[a0,a1,a2,a3,a4,a5,J,O,U]:=by match cs,hl with|[a0,a1,a2,a3,a4,a5,J,O,U],_=>exact⟨a0,a1,a2,a3,a4,a5,J,O,U,rfl⟩
   obtain⟨z0,u,z2,z3,z4,z5,D,G,I,rfl⟩:∃z0 u z2 z3 z4 z5 D G I,xs=[z0,u,z2,z3,z4,z5,D,G,I]:=by match xs,hlen with|[z0,u,z2,z3,z4,z5,D,G,I],_=>exact⟨z0,u,z2,z3,z4,z5,D,G,I,rfl⟩
   have hB:Rows.uptoBulk (DataW.agg (List.map (·.1) [z0,u,z2,z3,z4,z5,D,G,I]))=Rows.uptoBulk z0.1+(Rows.uptoBulk u.1+(Rows.uptoBulk z2.1+(Rows.uptoBulk z3.1+(Rows.uptoBulk z4.1+(Rows.uptoBulk z5.1+(Rows.uptoBulk D.1+(Rows.uptoBulk G.1+Rows.uptoBulk I.1)))))))+1:=by
     simp only[eS,kQ,Rows.uptoBulk,Rows.uptoBulkAll,nq]
   simp only[] at hb ⊢
   rw[hB] at hb ⊢
   have g0:=iI hf 0 3 0 1 (by kernel_rfl) (by kernel_rfl)
   replace g0:DataW.trod enc prog w 0 (fun _=>true) true n 3 [a0]=some z0:=g0
   obtain⟨y0,V,o0⟩:=(eM.int underlying3).out g0 (by omega)
   have V:[a0]=_:=V;cases V
   have g1:=iI hf 1 9 1 1 (by kernel_rfl) (by kernel_rfl)
   replace g1:DataW.trod enc prog w 0 (fun _=>true) true n 9 [a1]=some u:=g1
   obtain⟨s1,e1,r1,_⟩:=DataW.trod_string underlying9 g1
   cases e1
   have b1:s1.data.toList.length+1=Rows.uptoBulk u.1:=by rw[r1];rfl
   have g2:=iI hf 2 22 2 1 (by kernel_rfl) (by kernel_rfl)
   replace g2:DataW.trod enc prog w 0 (fun _=>true) true n 22 [a2]=some z2:=g2
   have a7:uh 1048575 prog 5 a_ (fun b _=>1≤b):=⟨fun{H enc w bH cs x} h hb hN=>by
     obtain⟨y,hy,_⟩:=(eM.u8 underlying5).out h (by omega)
     exact⟨y,hy,D8 _⟩⟩
   obtain⟨y2,⟨v2,e2,s2⟩,d2,bm,bo,a8⟩:=(uh.sl a7 underlying22 (by kernel_rfl) (by decide)).out g2 (by omega) (by decide)
   cases e2
   have b2:y2.length+1≤Rows.uptoBulk z2.1:=by
     have key:∀ds:List Nat,(∀(i n:Nat),ds[i]?=some n→1≤n)→ds.length≤ds.sum:=by
       intro ds
       induction ds with
       |nil=>intro _;exact gF _
       |cons n ds ih=>
        intro h
        have:=h 0 n rfl
        have:=ih fun i m hm=>h (i+1) m (by simpa using hm)
        rw[bJ,Ec]
        omega
     have:=key d2 fun i n hn=>by
       have hlt:=(fO.1 hn).1
       exact a8 i (y2[i]'(by omega)) n (rq (by omega)) hn
     omega
   have g3:=iI hf 3 3 3 1 (by kernel_rfl) (by kernel_rfl)
   replace g3:DataW.trod enc prog w 0 (fun _=>true) true n 3 [a3]=some z3:=g3
   obtain⟨y3,X,a9⟩:=(eM.int underlying3).out g3 (by omega)
   have X:[a3]=_:=X;cases X
   have g4:=iI hf 4 3 4 1 (by kernel_rfl) (by kernel_rfl)
   replace g4:DataW.trod enc prog w 0 (fun _=>true) true n 3 [a4]=some z4:=g4
   obtain⟨y4,Y,bb⟩:=(eM.int underlying3).out g4 (by omega)
   have Y:[a4]=_:=Y;cases Y
   have Z:=iI hf 5 4 5 1 (by kernel_rfl) (by kernel_rfl)
   replace Z:DataW.trod enc prog w 0 (fun _=>true) true n 4 [a5]=some z5:=Z
   obtain⟨y5,ab,_⟩:=(eM.bool underlying4).out Z (by omega)
   have ab:[a5]=_:=ab;cases ab
   have ad:=iI hf 6 4 6 1 (by kernel_rfl) (by kernel_rfl)
   replace ad:DataW.trod enc prog w 0 (fun _=>true) true n 4 [J]=some D:=ad
   obtain⟨y6,ae,_⟩:=(eM.bool underlying4).out ad (by omega)
   have ae:[J]=_:=ae;cases ae
   have am:=iI hf 7 4 7 1 (by kernel_rfl) (by kernel_rfl)
   replace am:DataW.trod enc prog w 0 (fun _=>true) true n 4 [O]=some G:=am
   obtain⟨bc,ar,_⟩:=(eM.bool underlying4).out am (by omega)
   have ar:[O]=_:=ar;cases ar
   have aw:=iI hf 8 23 8 1 (by kernel_rfl) (by kernel_rfl)
   replace aw:DataW.trod enc prog w 0 (fun _=>true) true n 23 [U]=some I:=aw
   obtain⟨a6,⟨bs,bd,be⟩,bi,bj,bt,bk⟩:=(uh.sl (LK N) underlying23 (by kernel_rfl) (by decide)).out aw (by omega) hN
   cases bd
   have b3:=LJ a6 bi bj bk
   refine⟨⟨y0,s1.data.toList,y2,y3,y4,y5,y6,bc,a6⟩,k9.2 ⟨_,_,s2,be,?_⟩,?_,o0,a9,bb⟩
   · rw[Bg]
   · rw[tG]
     simp only
     omega⟩
def TG (x:aR):Prop:=cU x≤1048576
theorem TH:eM prog 25 dy TG:=⟨fun h hb=>by
  obtain⟨y,k,o⟩:=(LK 1048576).out h hb (by decide)
  exact⟨y,k,cH o.1 hb⟩⟩
end Go.Proofs.YtdinkjbfgcfccaaGreatDoor.Sw
