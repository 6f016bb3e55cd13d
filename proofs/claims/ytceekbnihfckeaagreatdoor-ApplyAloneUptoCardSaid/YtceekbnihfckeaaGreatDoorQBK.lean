/- Lemmas for laws of this seat. -/
import Derived.Test.YtceekbnihfckeaaGreatDoorQBJ
namespace Go.Proofs.YtceekbnihfckeaaGreatDoor.Sw
open Tryz
set_option linter.unusedVariables false
set_option linter.unusedSimpArgs false
set_option linter.deprecated false
open Go
set_option linter.defProp false
def En:=@Nat.mul_succ
def AT:=@Nat.pow_add
def yF:=@Nat.mul_comm
def Ie:=@Nat.pow_le_pow_right
def Eo:=@Int.le_refl
def Ep:=@Int.natCast_nonneg
def Ah:=@Decidable.byContradiction
def Ig:=@List.flatMap_append
def BX:=@List.all_append
def nh:=@List.all_nil
def mK:=@Bool.and_true
def qq:=@List.flatMap_cons
def x4:=@Bool.and_false
def Er:=@BitVec.toNat_ofInt
def Es:=@List.perm_append_comm
def vp:=@List.filter_eq_nil_iff
def Et:=@List.Sublist.map
def Eu:=@List.Sublist.refl
def Ev:=@List.sublist_cons_self
def Ew:=@List.filter_filter
def Ex:=@List.perm_middle
def Ih:=@List.not_any_eq_all_not
def Ii:=@List.getD_eq_getElem?_getD
def gH:Nat→Nat→an
  |0,v=>[UInt8.ofNat v]
  |n+1,v=>if v<128 then [UInt8.ofNat v] else UInt8.ofNat (v % 128+128)::gH n (v / 128)
def eM (v:Int):an:=gH 9 v.toNat
def gd (v:Int):Bool:=decide (0≤v)&&decide (v<4611686018427387904)
theorem Ij:∀(n v:Nat),1≤(gH n v).length∧(gH n v).length≤n+1
  |0,v=>⟨by simp[gH],by simp[gH]⟩
  |n+1,v=>by
   have ih:=Ij n (v / 128)
   rw[gH]
   split
   · simp
   · rw[bY];omega
theorem rE (v:Int):1≤(eM v).length∧(eM v).length≤10:=Ij 9 _
def wF (o0 o:an) (v0 v:Int) (n:Nat):Prop:=o0++eM v0=o++gH n v.toNat∧v<128 ^ (n+1)∧n≤9∧0≤v
section
variable {o0 o:an} {v0 v:Int} {n:Nat}
theorem OJ (h:gd v=true):wF o0 o0 v v 9:=by
  unfold gd at h
  simp only[b_,cQ] at h
  refine⟨rfl,?_,by omega,h.1⟩
  have:(128:Int) ^ (9+1)=1180591620717411303424:=by decide
  omega
theorem OK (n:Nat):(128:Int) ^ (n+1)=128 ^ n*128:=Int.pow_succ _ _
theorem OL (H:wF o0 o v0 v n) (h:v≥128):∃m,n=m+1∧wF o0 (o++[UInt8.ofNat (v % 128+128:Int).toNat]) v0 (v / 128) m:=by
  obtain⟨h1,h2,h3,h4⟩:=H
  rcases n with _|m
  · simp at h2;omega
  · refine⟨m,rfl,?_,?_,by omega,by omega⟩
    · rw[h1,gH,aC (by omega),dm]
      have e1:v.toNat % 128+128=(v % 128+128:Int).toNat:=by omega
      have e2:v.toNat / 128=(v / 128:Int).toNat:=by omega
      rw[e1,e2]
      rfl
    · rw[OK] at h2
      have:(0:Int)<128 ^ (m+1):=by have:=Int.pow_pos (n:=128) (m:=m+1) (by decide);exact this
      omega
theorem OM (H:wF o0 o v0 v n) (h:¬v≥128):o++[UInt8.ofNat v.toNat]=o0++eM v0:=by
  obtain⟨h1,_,_,h4⟩:=H
  rw[h1]
  rcases n with _|m
  · rfl
  · rw[gH,aO (by omega)]
end
def iz:an→Nat→Int→Int×Int×Int
  |[],_,_=>(0,0,11)
  |c::r,i,v=>
   if (i=8∧64≤c.toNat)∨(c.toNat=0∧0<i) then (0,0,12)
   else if c.toNat<128 then (v+((c.toNat % 128*2 ^ (7*i):Nat):Int),(i:Int)+1,0)
   else iz r (i+1) (v+((c.toNat % 128*2 ^ (7*i):Nat):Int))
def bH (b:an):Int×Int×Int:=iz b 0 0
theorem yG (i:Nat):2 ^ (7*(i+1))=128*2 ^ (7*i):=by rw[En,AT,yF]
theorem Ik:∀(b:an) (i:Nat) (v:Int),i≤8→0≤v→v<((2 ^ (7*i):Nat):Int)→(iz b i v).2.2=0→0≤(iz b i v).1∧(iz b i v).1<4611686018427387904∧(i:Int)+1≤(iz b i v).2.1∧(iz b i v).2.1≤i+b.length∧(iz b i v).2.1≤9
  |[],i,v,_,_,_,h=>by simp[iz] at h
  |c::r,i,v,hi,h0,hv,h=>by
   rw[iz] at h ⊢
   split at h
   · simp at h
   · rename_i hn
     rw[aC hn]
     have hp:0<2 ^ (7*i):=DD (by decide)
     split at h
     · rename_i hl
       rw[aO hl]
       have hc:c.toNat % 128=c.toNat:=o8 hl
       have hm:c.toNat % 128*2 ^ (7*i)+2 ^ (7*i)≤4611686018427387904:=by
         by_cases h8:i=8
         · subst h8
           have:c.toNat<64:=by
             rcases pV c.toNat 64 with h|h
             · exact h
             · exact absurd (.inl ⟨rfl,h⟩) hn
           rw[hc]
           have:2 ^ (7*8)=72057594037927936:=by decide
           omega
         · have h7:i≤7:=by omega
           have h1:2 ^ (7*i)≤2 ^ (7*7):=Ie (by decide) (by omega)
           have h2:2 ^ (7*7)=562949953421312:=by decide
           have h3:c.toNat % 128*2 ^ (7*i)≤127*2 ^ (7*i):=jW _ (by omega)
           omega
       refine⟨by show 0≤v+_;omega,by show v+_<_;omega,Eo _,by show(i:Int)+1≤i+((c::r).length:Int);rw[bY];omega,by show(i:Int)+1≤9;omega⟩
     · rename_i hl
       rw[aC hl]
       have h8:i≠8:=fun e=>hn (.inl ⟨e,by omega⟩)
       have e:=yG i
       have hm:c.toNat % 128*2 ^ (7*i)+2 ^ (7*i)≤128*2 ^ (7*i):=by
         have:(c.toNat % 128+1)*2 ^ (7*i)≤128*2 ^ (7*i):=jW _ (by omega)
         rw[oc] at this
         exact this
       have ih:=Ik r (i+1) (v+((c.toNat % 128*2 ^ (7*i):Nat):Int)) (by omega) (by omega) (by rw[e];omega) h
       rw[bY]
       omega
theorem lQ {b:an} (h:(bH b).2.2=0):0≤(bH b).1∧(bH b).1<4611686018427387904∧1≤(bH b).2.1∧(bH b).2.1≤b.length∧(bH b).2.1≤9:=by
  have:=Ik b 0 0 (by decide) (by decide) (by decide) h
  unfold bH at *
  omega
def oo (b:an) (i v:Int):Prop:=bH b=iz (b.drop i.toNat) i.toNat v∧0≤v∧v<((2 ^ (7*i.toNat):Nat):Int)∧i≤8+(if b.length≤i.toNat then 1 else 0)∧0≤i
theorem ON (b:an):oo b 0 0:=⟨rfl,by decide,by decide,by split<;>omega,by decide⟩
section
variable {b:an} {i v:Int} {c:UInt8}
theorem Ey (H:oo b i v) (hc:b[i.toNat]?=some c):i≤8:=by
  have:=(fT.1 hc).1
  have h:=H.2.2.2.1
  rw[aC (by omega)] at h
  omega
theorem BY (H:oo b i v) (hc:b[i.toNat]?=some c):bH b=iz (c::b.drop (i.toNat+1)) i.toNat v:=by rw[H.1,drop_at hc]
theorem tf (H:oo b i v) (hc:b[i.toNat]?=some c) (h8:i=8) (h:64≤(c.toNat:Int)):bH b=(0,0,12):=by
  rw[BY H hc,iz,aO (.inl ⟨by omega,by omega⟩)]
theorem tg (H:oo b i v) (hc:b[i.toNat]?=some c) (h0:(c.toNat:Int)=0) (h:0<i):bH b=(0,0,12):=by
  rw[BY H hc,iz,aO (.inr ⟨by omega,by omega⟩)]
theorem oR (H:oo b i v) (hc:b[i.toNat]?=some c) (n1:¬(i=8∧64≤(c.toNat:Int))) (n2:¬((c.toNat:Int)=0∧0<i)) (h:(c.toNat:Int)<128):
    bH b=(v+((c.toNat % 128*2 ^ (7*i.toNat):Nat):Int),i+1,0):=by
  have hi:=H.2.2.2.2
  rw[BY H hc,iz,aC (by rintro(h|h);exact n1 ⟨by omega,by omega⟩;exact n2 ⟨by omega,by omega⟩),aO (by omega)]
  rw[show((i.toNat:Nat):Int)=i by omega]
theorem Il (H:oo b i v) (hc:b[i.toNat]?=some c) (n1:¬(i=8∧64≤(c.toNat:Int))) (n2:¬((c.toNat:Int)=0∧0<i)) (h:¬(c.toNat:Int)<128):
    oo b (i+1) (v+((c.toNat % 128*2 ^ (7*i.toNat):Nat):Int)):=by
  have hi:=H.2.2.2.2
  have h8:=Ey H hc
  have hv:=H.2.2.1
  have h0:=H.2.1
  refine⟨?_,by omega,?_,?_,by omega⟩
  · rw[BY H hc,iz,aC (by rintro(h|h);exact n1 ⟨by omega,by omega⟩;exact n2 ⟨by omega,by omega⟩),aC (by omega),toNat_succ hi]
  · rw[toNat_succ hi,yG]
    have hm:c.toNat % 128*2 ^ (7*i.toNat)+2 ^ (7*i.toNat)≤128*2 ^ (7*i.toNat):=by
      have:(c.toNat % 128+1)*2 ^ (7*i.toNat)≤128*2 ^ (7*i.toNat):=jW _ (by omega)
      rw[oc] at this
      exact this
    omega
  · have:i≠8:=fun e=>n1 ⟨e,by omega⟩
    split<;>omega
theorem Ez (H:oo b i v) (h:¬i<(b.length:Int)):bH b=(0,0,11):=by
  rw[H.1,List.drop_of_length_le (by omega),iz]
theorem Im (H:oo b i v) (hc:b[i.toNat]?=some c) (n1:¬(i=8∧64≤(c.toNat:Int))):0≤((c.toNat:Int) % 128)*2 ^ (7*i.toNat)∧v+((c.toNat:Int) % 128)*2 ^ (7*i.toNat)<4611686018427387904:=by
  have hi:=H.2.2.2.2
  have h8:=Ey H hc
  have hv:=H.2.2.1
  have h0:=H.2.1
  have key:v+((c.toNat % 128*2 ^ (7*i.toNat):Nat):Int)<4611686018427387904:=by
    by_cases u:i=8
    · subst u
      have hlt:c.toNat<64:=by
        rcases pV c.toNat 64 with h|h
        · exact h
        · exact absurd ⟨rfl,by omega⟩ n1
      have e1:c.toNat % 128=c.toNat:=o8 (by omega)
      have e2:2 ^ (7*(8:Int).toNat)=72057594037927936:=by decide
      have D:v<72057594037927936:=by have:=hv;rw[e2] at this;exact this
      rw[e1,e2]
      omega
    · have h1:2 ^ (7*i.toNat)≤2 ^ (7*7):=Ie (by decide) (by omega)
      have h2:2 ^ (7*7)=562949953421312:=by decide
      have h3:c.toNat % 128*2 ^ (7*i.toNat)≤127*2 ^ (7*i.toNat):=jW _ (by omega)
      omega
  have e:((c.toNat:Int) % 128)*2 ^ (7*i.toNat)=((c.toNat % 128*2 ^ (7*i.toNat):Nat):Int):=by simp
  rw[e]
  exact⟨Ep _,key⟩
end
def vr (f:an):an:=eM f.length++f
def jr (fs:List an):Bool:=decide (fs.length≤1024)&&fs.all fun f=>decide (f.length≤65536)
def dA (fs:List an):an:=fs.flatMap vr
def dM (fs:List an):an×Int:=if jr fs then (dA fs,0) else ([],13)
def dO (l:List Int):an:=l.flatMap eM
def fo (l:List Int):an×Int:=if l.all gd then (dO l,0) else ([],10)
def kR:Nat→an→List an→List an×Int
  |_,[],out=>(out,0)
  |0,_::_,out=>([],13)
  |n+1,b,out=>
   if out.length=1024 then ([],13)
   else if (bH b).2.2≠0 then ([],(bH b).2.2)
   else if 65536<(bH b).1 then ([],13)
   else if (b.length:Int)-(bH b).2.1<(bH b).1 then ([],11)
   else kR n (b.drop ((bH b).2.1+(bH b).1).toNat) (out++[(b.drop (bH b).2.1.toNat).take (bH b).1.toNat])
def bg (b:an):List an×Int:=kR b.length b []
def lX:Nat→an→List Int→List Int×Int
  |_,[],out=>(out,0)
  |0,_::_,out=>([],13)
  |n+1,b,out=>if (bH b).2.2≠0 then ([],(bH b).2.2) else lX n (b.drop (bH b).2.1.toNat) (out++[(bH b).1])
def bU (b:an):List Int×Int:=lX b.length b []
theorem Io:∀(n m:Nat) (b:an) (out:List an),b.length≤n→b.length≤m→kR n b out=kR m b out
  |n,m,[],out,_,_=>by cases n<;>cases m<;>rfl
  |0,_,_::_,_,h,_=>by simp at h
  |_,0,_::_,_,_,h=>by simp at h
  |n+1,m+1,c::r,out,h1,h2=>by
   rw[kR,kR]
   · repeat' split
     all_goals first|rfl|skip
     rename_i he _ _
     have he:(bH (c::r)).2.2=0:=Ah he
     have hb:=lQ he
     have hl:((c::r).drop ((bH (c::r)).2.1+(bH (c::r)).1).toNat).length≤r.length:=by rw[iP,bY];omega
     exact Io n m _ _ (by simp at h1;omega) (by simp at h2;omega)
   · simp
   · simp
theorem Ip:∀(n m:Nat) (b:an) (out:List Int),b.length≤n→b.length≤m→lX n b out=lX m b out
  |n,m,[],out,_,_=>by cases n<;>cases m<;>rfl
  |0,_,_::_,_,h,_=>by simp at h
  |_,0,_::_,_,_,h=>by simp at h
  |n+1,m+1,c::r,out,h1,h2=>by
   rw[lX,lX]
   · split
     · rfl
     · rename_i he
       have he:(bH (c::r)).2.2=0:=Ah he
       have hb:=lQ he
       have hl:((c::r).drop (bH (c::r)).2.1.toNat).length≤r.length:=by rw[iP,bY];omega
       exact Ip n m _ _ (by simp at h1;omega) (by simp at h2;omega)
   · simp
   · simp
def uN (fs:List an) (o:an) (i:Int):Prop:=o=dA (fs.take i.toNat)∧(fs.take i.toNat).all (fun f=>decide (f.length≤65536))=true
theorem OO (fs:List an):uN fs [] 0:=⟨rfl,rfl⟩
def uO (l:List Int) (o:an) (i:Int):Prop:=o=dO (l.take i.toNat)∧(l.take i.toNat).all gd=true
theorem OP (l:List Int):uO l [] 0:=⟨rfl,rfl⟩
section
variable {fs:List an} {l:List Int} {o b0 b f:an} {i v:Int} {out:List an} {os:List Int}
theorem OQ (H:uN fs o i) (h0:0≤i) (hf:fs[i.toNat]?=some f) (h:¬(f.length:Int)>65536):uN fs ((o++eM (f.length:Int))++f) (i+1):=by
  unfold uN dA at *
  rw[toNat_succ h0,fG hf,H.1,Ig,BX,H.2]
  refine⟨by simp[vr],?_⟩
  simp only[j5,nh,mK,lp,cQ]
  omega
theorem Iq:∀fs:List an,(fs.all fun f=>decide (f.length≤65536))=true→(dA fs).length≤65546*fs.length
  |[],_=>by simp[dA]
  |f::fs,h=>by
   rw[j5,b_,cQ] at h
   have ih:=Iq fs h.2
   have h1:=rE (f.length:Int)
   unfold dA at *
   rw[qq,cA,vr,cA,bY]
   omega
theorem Ir (H:uN fs o i):o.length≤65546*fs.length:=by
  have:=Iq _ H.2
  rw[H.1]
  rw[e_] at this
  omega
theorem It (H:uN fs o i) (h:¬i<(fs.length:Int)) (hl:¬(fs.length:Int)>1024):dM fs=(o,0):=by
  unfold uN at H
  rw[fC (by omega)] at H
  unfold dM jr
  rw[H.2,aO (by simp;omega),H.1]
theorem Iu (h:(fs.length:Int)>1024):dM fs=([],13):=by
  unfold dM jr
  rw[aC (by simp;omega)]
theorem Iv (hf:fs[i.toNat]?=some f) (h:(f.length:Int)>65536):dM fs=([],13):=by
  unfold dM jr
  rw[aC]
  intro hh
  simp only[b_,ic,cQ] at hh
  have:=hh.2 f (cj hf)
  omega
theorem OR (H:uO l o i) (h0:0≤i) (hv:l[i.toNat]?=some v) (h:gd v=true):uO l (o++eM v) (i+1):=by
  unfold uO dO at *
  rw[toNat_succ h0,fG hv,H.1,Ig,BX,H.2]
  simp[h]
theorem BZ:∀l:List Int,(dO l).length≤10*l.length
  |[]=>by simp[dO]
  |v::l=>by
   have ih:=BZ l
   have h1:=rE v
   unfold dO at *
   rw[qq,cA,bY]
   omega
theorem OS (H:uO l o i):o.length≤10*l.length:=by
  have:=BZ (l.take i.toNat)
  rw[H.1]
  rw[e_] at this
  omega
theorem Iw (H:uO l o i) (h:¬i<(l.length:Int)):fo l=(o,0):=by
  unfold uO at H
  rw[fC (by omega)] at H
  unfold fo
  rw[aO H.2,H.1]
theorem B0 (hv:l[i.toNat]?=some v) (h:gd v=false):fo l=([],10):=by
  unfold fo
  rw[aC]
  intro hh
  rw[ic] at hh
  rw[hh v (cj hv)] at h
  cases h
theorem jd (h1:¬v<0) (h2:¬v≥4611686018427387904):gd v=true:=by unfold gd;rw[eu (by omega),eu (by omega)];rfl
theorem B1 (h:v<0∨v≥4611686018427387904):gd v=false:=by
  unfold gd
  rcases h with h|h
  · rw[gb (by omega)];rfl
  · rw[gb (p:=v<4611686018427387904) (by omega),x4]
theorem jo {α u:Type} {x:α×u} {a:α} {c:u} (h:x=(a,c)):a=x.1∧c=x.2:=by rw[h];exact⟨rfl,rfl⟩
def qQ (b0 b:an) (out:List an):Prop:=bg b0=kR b.length b out
theorem OT (b:an):qQ b b []:=rfl
theorem tW (hb:(b.length:Int)>0) (out:List an):kR b.length b out=if out.length=1024 then ([],13)
    else if (bH b).2.2≠0 then ([],(bH b).2.2)
    else if 65536<(bH b).1 then ([],13)
    else if (b.length:Int)-(bH b).2.1<(bH b).1 then ([],11)
    else kR (b.drop ((bH b).2.1+(bH b).1).toNat).length (b.drop ((bH b).2.1+(bH b).1).toNat) (out++[(b.drop (bH b).2.1.toNat).take (bH b).1.toNat]):=by
  rcases b with _|⟨c,r⟩
  · simp at hb
  · rw[show(c::r).length=r.length+1 from rfl,kR]
    · by_cases h0:out.length=1024
      · rw[aO h0,aO h0]
      · rw[aC h0,aC h0]
        by_cases he:(bH (c::r)).2.2≠0
        · rw[aO he,aO he]
        · rw[aC he,aC he]
          by_cases h1:65536<(bH (c::r)).1
          · rw[aO h1,aO h1]
          · rw[aC h1,aC h1]
            have u:(c::r).length=r.length+1:=rfl
            rw[u]
            by_cases h2:((r.length+1:Nat):Int)-(bH (c::r)).2.1<(bH (c::r)).1
            · rw[aO h2,aO h2]
            · rw[aC h2,aC h2]
              have he:(bH (c::r)).2.2=0:=Ah he
              have hb:=lQ he
              have hl:((c::r).drop ((bH (c::r)).2.1+(bH (c::r)).1).toNat).length≤r.length:=by rw[iP,bY];omega
              exact Io _ _ _ _ hl (iE _)
    · simp
theorem Ix (H:qQ b0 b out) (hb:(b.length:Int)>0) (h:(out.length:Int)=1024):bg b0=([],13):=by rw[H,tW hb,aO (by omega)]
theorem Iy (H:qQ b0 b out) (hb:(b.length:Int)>0) (h:¬(out.length:Int)=1024) (he:¬(bH b).2.2=0):bg b0=([],(bH b).2.2):=by rw[H,tW hb,aC (by omega),aO he]
theorem Iz (H:qQ b0 b out) (hb:(b.length:Int)>0) (h:¬(out.length:Int)=1024) (he:(bH b).2.2=0) (hl:(bH b).1>65536):bg b0=([],13):=by rw[H,tW hb,aC (by omega),aC (by omega),aO hl]
theorem IA (H:qQ b0 b out) (hb:(b.length:Int)>0) (h:¬(out.length:Int)=1024) (he:(bH b).2.2=0) (hl:¬(bH b).1>65536) (hs:(b.length:Int)-(bH b).2.1<(bH b).1):bg b0=([],11):=by rw[H,tW hb,aC (by omega),aC (by omega),aC (by omega),aO hs]
theorem OU (H:qQ b0 b out) (hb:(b.length:Int)>0) (h:¬(out.length:Int)=1024) (he:(bH b).2.2=0) (hl:¬(bH b).1>65536) (hs:¬(b.length:Int)-(bH b).2.1<(bH b).1) {x:an} (hx:x=(b.drop (bH b).2.1.toNat).take (bH b).1.toNat):
    qQ b0 (b.drop ((bH b).2.1+(bH b).1).toNat) (out++[x]):=by unfold qQ;rw[H,tW hb,aC (by omega),aC (by omega),aC (by omega),aC hs,hx]
theorem IB (H:qQ b0 b out) (hb:¬(b.length:Int)>0):bg b0=(out,0):=by
  obtain rfl:b=[]:=ju (by omega)
  rw[H];rfl
def wG (b0 b:an) (os:List Int):Prop:=bU b0=lX b.length b os
theorem OV (b:an):wG b b []:=rfl
theorem yJ (hb:(b.length:Int)>0) (os:List Int):lX b.length b os=if (bH b).2.2≠0 then ([],(bH b).2.2) else lX (b.drop (bH b).2.1.toNat).length (b.drop (bH b).2.1.toNat) (os++[(bH b).1]):=by
  rcases b with _|⟨c,r⟩
  · simp at hb
  · rw[show(c::r).length=r.length+1 from rfl,lX]
    · split
      · rfl
      · rename_i he
        have he:(bH (c::r)).2.2=0:=Ah he
        have hb:=lQ he
        have hl:((c::r).drop (bH (c::r)).2.1.toNat).length≤r.length:=by rw[iP,bY];omega
        exact Ip _ _ _ _ hl (iE _)
    · simp
theorem IC (H:wG b0 b os) (hb:(b.length:Int)>0) (he:¬(bH b).2.2=0):bU b0=([],(bH b).2.2):=by rw[H,yJ hb,aO he]
theorem OW (H:wG b0 b os) (hb:(b.length:Int)>0) (he:(bH b).2.2=0):wG b0 (b.drop (bH b).2.1.toNat) (os++[(bH b).1]):=by unfold wG;rw[H,yJ hb,aC (by omega)]
theorem ID (H:wG b0 b os) (hb:¬(b.length:Int)>0):bU b0=(os,0):=by
  obtain rfl:b=[]:=ju (by omega)
  rw[H];rfl
end
theorem OX {a b:Int} {s m:Nat} (ha:0≤a) (hs:a<((2 ^ s:Nat):Int)) (hb:b=((m*2 ^ s:Nat):Int)) (hl:a+b<4611686018427387904):
    Value.int .i64 (IntKind.wrap .i64 (((BitVec.ofInt (IntKind.bits .i64) a ||| BitVec.ofInt (IntKind.bits .i64) b).toNat:Nat):Int))=.int .i64 (a+b):=by
  have u:IntKind.bits .i64=64:=rfl
  obtain⟨x,rfl⟩:∃x:Nat,a=(x:Int):=⟨a.toNat,by omega⟩
  subst hb
  have hx:x<2 ^ s:=by omega
  have key:x ||| m*2 ^ s=x+m*2 ^ s:=by
    have:=Nat.two_pow_add_eq_or_of_lt hx m
    rw[Nat.or_comm,yF m,←this,zw]
  have h1:(BitVec.ofInt 64 (x:Int)).toNat=x:=by
    rw[Er]
    omega
  have h2:(BitVec.ofInt 64 ((m*2 ^ s:Nat):Int)).toNat=m*2 ^ s:=by
    rw[Er]
    omega
  have h3:(BitVec.ofInt (IntKind.bits .i64) (x:Int) ||| BitVec.ofInt (IntKind.bits .i64) ((m*2 ^ s:Nat):Int)).toNat=x+m*2 ^ s:=by
    show(BitVec.ofInt 64 (x:Int) ||| BitVec.ofInt 64 ((m*2 ^ s:Nat):Int)).toNat=_
    rw[BitVec.toNat_or,h1,h2,key]
  rw[h3,Int.natCast_add]
  exact oI (by omega) (by omega)
theorem x5 (c:UInt8):Value.int .u8 (IntKind.wrap .u8 (((BitVec.ofInt (IntKind.bits .u8) (c.toNat:Int) &&& ~~~ BitVec.ofInt (IntKind.bits .u8) (128:Int)).toNat:Nat):Int))=.int .u8 ((c.toNat % 128:Nat):Int):=by
  have h:∀n:Fin 256,IntKind.wrap .u8 (((BitVec.ofInt (IntKind.bits .u8) ((n.val:Nat):Int) &&& ~~~ BitVec.ofInt (IntKind.bits .u8) (128:Int)).toNat:Nat):Int)=((n.val % 128:Nat):Int):=by decide+kernel
  exact congrArg _ (h ⟨c.toNat,c.toNat_lt⟩)
theorem IE {v:Int} (h:0≤v):Value.int .u8 (IntKind.wrap .u8 v)=.int .u8 (v % 256):=by
  congr 1
theorem OY {v:Int} (h:0≤v):Value.int .u8 (IntKind.wrap .u8 (((BitVec.ofInt (IntKind.bits .u8) (v % 256) ||| BitVec.ofInt (IntKind.bits .u8) (128:Int)).toNat:Nat):Int))=.int .u8 (v % 128+128):=by
  have h1:∀n:Fin 256,IntKind.wrap .u8 (((BitVec.ofInt (IntKind.bits .u8) ((n.val:Nat):Int) ||| BitVec.ofInt (IntKind.bits .u8) (128:Int)).toNat:Nat):Int)=((n.val:Nat):Int) % 128+128:=by decide+kernel
  have:=h1 ⟨(v % 256).toNat,by omega⟩
  simp only[show(((v % 256).toNat:Nat):Int)=v % 256 by omega] at this
  rw[this]
  congr 1
  omega
theorem OZ {a n:Int} {k:Nat} (ha:a=(k:Int)) (h0:0≤n) (h1:n≤63) (hf:((k*2 ^ n.toNat:Nat):Int)<4611686018427387904):Value.int .i64 (IntKind.wrap .i64 (a*2 ^ (min n.toNat (IntKind.bits .i64))))=.int .i64 ((k*2 ^ n.toNat:Nat):Int):=by
  have e:min n.toNat (IntKind.bits .i64)=n.toNat:=by show min n.toNat 64=_;omega
  have e2:a*2 ^ n.toNat=((k*2 ^ n.toNat:Nat):Int):=by subst ha;simp
  rw[e,e2]
  have:=Ep (k*2 ^ n.toNat)
  exact oI (by omega) (by omega)
theorem yH {v:Int} (h:gd v=true):0≤v∧v<4611686018427387904:=by
  unfold gd at h
  simpa using h
theorem IF {o0 o:an} {v0 v:Int} {n:Nat} (H:wF o0 o v0 v n):o.length≤o0.length+10:=by
  have h:=congrArg List.length H.1
  rw[cA,cA] at h
  have:=(rE v0).2
  omega
theorem O0 {o0 o:an} {v0 v:Int} {n:Nat} (H:wF o0 o v0 v n) (h:¬v≥128):o++[UInt8.ofNat (v % 256:Int).toNat]=o0++eM v0:=by
  rw[←OM H h]
  have:=H.2.2.2
  rw[show(v % 256:Int)=v by omega]
theorem O1 {a n:Int} {m k:Nat} (ha:a=((m:Nat):Int)) (hk:n=((k:Nat):Int)) (h1:k≤63) (hf:((m*2 ^ k:Nat):Int)<4611686018427387904):Value.int .i64 (IntKind.wrap .i64 (a*2 ^ (min n.toNat (IntKind.bits .i64))))=.int .i64 ((m*2 ^ k:Nat):Int):=by
  subst hk
  exact OZ ha (Ep k) (by omega) hf
section
variable {b:an} {i v:Int} {c:UInt8}
theorem x6 (H:oo b i v) (hc:b[i.toNat]?=some c) (n1:¬(i=8∧64≤(c.toNat:Int))):Value.int .i64 (IntKind.wrap .i64 (((c.toNat % 128:Nat):Int)*2 ^ (min (7*i:Int).toNat (IntKind.bits .i64))))=.int .i64 ((c.toNat % 128*2 ^ (7*i.toNat):Nat):Int):=by
  have hi:=H.2.2.2.2
  have h8:=Ey H hc
  have hv:=H.2.1
  have hf:=(Im H hc n1).2
  have e:((c.toNat:Int) % 128)*2 ^ (7*i.toNat)=((c.toNat % 128*2 ^ (7*i.toNat):Nat):Int):=by simp
  rw[e] at hf
  exact O1 rfl (by omega) (by omega) (by omega)
theorem x7 (H:oo b i v) (hc:b[i.toNat]?=some c) (n1:¬(i=8∧64≤(c.toNat:Int))):Value.int .i64 (IntKind.wrap .i64 (((BitVec.ofInt (IntKind.bits .i64) v ||| BitVec.ofInt (IntKind.bits .i64) ((c.toNat % 128*2 ^ (7*i.toNat):Nat):Int)).toNat:Nat):Int))=.int .i64 (v+((c.toNat % 128*2 ^ (7*i.toNat):Nat):Int)):=by
  have hf:=(Im H hc n1).2
  have e:((c.toNat:Int) % 128)*2 ^ (7*i.toNat)=((c.toNat % 128*2 ^ (7*i.toNat):Nat):Int):=by simp
  rw[e] at hf
  exact OX H.2.1 H.2.2.1 rfl hf
end
theorem O2 {α:Type} {b:List α} {n z:Int} (h0:0≤n) (h1:0≤z):(b.take (n+z).toNat).drop n.toNat=(b.drop n.toNat).take z.toNat:=by
  rw[ux]
  congr 1
  omega
set_option maxRecDepth 100000
def oq (g:GH) (b:Nat) (x:an) (c:ay):Prop:=∃v0 c0,c=(b,.cells #[v0] 187 (0,0))::c0∧aJ 5 br g v0 x c0
theorem oq.eq {g:GH} {b:Nat} {x y:an} {c:ay} (h:oq g b x c) (e:x=y):oq g b y c:=e▸h
theorem IG (B:World) (h:ax) (g:GH) (hg:bl g h) (ch:bq g) (u:Nat) (o:an) (D:ay) (a4:oq g u o D) (v:Int) (hv:gd v=true) (h1:o.length≤1000000000) (hs:St h g (aV [D]) g [D] h):
  aE prog B 111 #[vP u,vI v] h g [D] (fun a5 g' L'=>∃U,a5=.tuple #[]∧oq g' u (o++eM v) U∧g'=g∧L'=[U]):=by
 refine aE.aq func111 fun R hR=>?_
 have a6:∀(m:Nat) (o2:an) (v2:Int) (G:ay) (I:ax) (hm:v2.toNat<m) (h0:0≤v2) (h9:v2<4611686018427387904) (hI:∃n,wF o o2 v v2 n) (J:oq g u o2 G) (O:St h g (aV [D]) g [G] I),At (bX prog B 111 f111 R) [] 0 [(0,vP u),(1,vI v2)] I:=by
  intro m;induction m with
  |zero=>intros;omega
  |succ m a7=>
   intro o2 v2 G I hm h0 h9 hI J O
   refine At.go 1 2 [(5,.bool (decide (v2≥128)))] ?_
   refine At.fd (v2≥128) 5 2 4 (fun a8=>?_) fun ci=>?_
   ·refine At.rp 11 3 [(8,vP u),(10,vP u)] ?_
    obtain⟨ck,a9,bc,V⟩:=J
    obtain⟨bd,be,rfl⟩:=V.aj
    have X:=St.un [a9] bc O
    refine Op.l1 187 10 11 0 (vL bd o2.length be) (X.ah 0 rfl) ?_
    refine Op.px 1 [(12,vI v2)] ?_
    refine Op.vl 13 (.int .u8 (IntKind.wrap .u8 v2)) (.int .u8 (v2 % 256)) (IE (by omega)) ?_
    refine Op.vl 14 (.int .u8 (IntKind.wrap .u8 (((BitVec.ofInt (IntKind.bits .u8) (v2 % 256) ||| BitVec.ofInt (IntKind.bits .u8) (128:Int)).toNat:Nat):Int))) (.int .u8 (v2 % 128+128)) (OY (by omega)) ?_
    refine Op.ls 15 1 5 #[.int .u8 (v2 % 128+128)] X fun co c3 Y=>?_
    refine Op.ap 11 15 187 187 16 5 1 br (ys:=[(UInt8.ofNat (v2 % 128+128:Int).toNat)]) V Y 2 (⟨_,_,rfl,(Gj (by omega) (by omega)),Reads.nil⟩) (by(simp only[bY,dU];obtain⟨_,hn⟩:=hI;have:=IF hn;omega)) (fun _ _ _=>trivial) (eT.lit (m:=1) (sz:=1) (Y.ah 0 rfl) (news:=[.int .u8 (v2 % 128+128)]) rfl rfl (by simp[Value.oneCell']) _) fun c4 c5 c6 ab bi c8=>?_
    obtain⟨ad,ae,rfl⟩:=ab.aj
    have bj:=(bi.aa 0 rfl).drop
    refine Op.px 1 [(17,vP u)] ?_
    refine Op.s1 187 17 16 0 (vL ad ((o2++([(UInt8.ofNat (v2 % 128+128:Int).toNat)])).length) ae) 0 #[vL ad ((o2++([(UInt8.ofNat (v2 % 128+128:Int).toNat)])).length) ae] bj (fun _=>trivial) fun c9 bk=>?_
    refine Op.gt 3 ?_
    refine At.rp 3 1 [(6,vI v2)] ?_
    refine Op.vl 7 (.int .i64 (Int.fdiv v2 (2 ^ 7))) (.int .i64 (v2 / 128)) (GA _ _ _ rfl (by decide)) ?_
    refine Op.pg 0 [(1,vI (v2 / 128))] ?_
    obtain⟨da,bm,bo⟩:=St.bJ (Q:=oq g u (o2++([(UInt8.ofNat (v2 % 128+128:Int).toNat)]))) 2 bk ⟨_,_,rfl,ab⟩
    exact At.ke (a7 (o2++([(UInt8.ofNat (v2 % 128+128:Int).toNat)])) (v2 / 128) _ _ (by omega) (by omega) (by omega) (by(obtain⟨n,hn⟩:=hI;obtain⟨m,_,h⟩:=OL hn a8;exact⟨m,h⟩)) bm bo)
   refine At.rp 10 3 [(18,vP u),(20,vP u)] ?_
   obtain⟨db,bt,b3,am⟩:=J
   obtain⟨b4,b5,rfl⟩:=am.aj
   have ar:=St.un [bt] b3 O
   refine Op.l1 187 20 21 0 (vL b4 o2.length b5) (ar.ah 0 rfl) ?_
   refine Op.px 1 [(22,vI v2)] ?_
   refine Op.vl 23 (.int .u8 (IntKind.wrap .u8 v2)) (.int .u8 (v2 % 256)) (IE (by omega)) ?_
   refine Op.ls 24 1 5 #[.int .u8 (v2 % 256)] ar fun dc dd aw=>?_
   refine Op.ap 21 24 187 187 25 5 1 br (ys:=[(UInt8.ofNat (v2 % 256:Int).toNat)]) am aw 2 (⟨_,_,rfl,(Gj (by omega) (by omega)),Reads.nil⟩) (by(simp only[bY,dU];obtain⟨_,hn⟩:=hI;have:=IF hn;omega)) (fun _ _ _=>trivial) (eT.lit (m:=1) (sz:=1) (aw.ah 0 rfl) (news:=[.int .u8 (v2 % 256)]) rfl rfl (by simp[Value.oneCell']) _) fun df dg dj a0 b6 dk=>?_
   obtain⟨a1,a3,rfl⟩:=a0.aj
   have b8:=(b6.aa 0 rfl).drop
   refine Op.px 1 [(26,vP u)] ?_
   refine Op.s1 187 26 25 0 (vL a1 ((o2++([(UInt8.ofNat (v2 % 256:Int).toNat)])).length) a3) 0 #[vL a1 ((o2++([(UInt8.ofNat (v2 % 256:Int).toNat)])).length) a3] b8 (fun _=>trivial) fun dl ca=>?_
   refine Op.gt 5 ?_
   obtain⟨cb,ce,cf⟩:=St.bJ (Q:=oq g u (o2++([(UInt8.ofNat (v2 % 256:Int).toNat)]))) 2 ca ⟨_,_,rfl,a0⟩
   exact At.rt (.tuple #[]) (hR cf ⟨cb,rfl,ce.eq (by(obtain⟨n,hn⟩:=hI;exact O0 hn ‹_›)),rfl,rfl⟩)
 exact At.ke (a6 _ o v _ _ (bM _) (by exact(yH hv).1) (by exact(yH hv).2) (by exact⟨_,OJ hv⟩) a4 hs)
theorem EA (B:World) (h:ax) (g:GH) (hg:bl g h) (a1:bq g) (ab:Value) (list:List Int) (ad:av g 3 (fh .i64) ab list) (hl:list.length≤10000000):
  aE prog B 60 #[ab] h g [] (fun a3 g' L'=>∃v0,a3=.tuple #[v0,.int .i64 ((fo list).2)]∧av g' 5 br v0 ((fo list).1)∧L'=[]):=by
 obtain⟨ae,O,rfl⟩:=ad.aj
 refine aE.aq func60 fun R hR=>?_
 have a4:=St.init hg
 refine At.go 1 2 [] ?_
 refine At.rg 1 ?_
 refine Op.al 4 187 #[vN] a4 fun G ca a5=>?_
 refine Op.gt 2 ?_
 refine At.go 3 3 [(7,vL ae list.length O),(8,vI (list.length:Int)),(9,vI 0)] ?_
 have a6:=aJ.nil 5 br g
 have a7:=a5.nl
 have a8:=(a7.aa 0 rfl).aa 1 rfl
 obtain⟨cb,a9,bc⟩:=St.bJ (Q:=oq g G ([]:an)) 2 a8 ⟨_,_,rfl,a6⟩
 have bd:∀(m:Nat) (o:an) (i:Int) (U:ay) (V:ax) (hm:list.length-i.toNat<m) (h0:0≤i) (h1:i≤list.length) (hI:uO list o i) (X:oq g G o U) (D:St h g (aV []) g [U] V),At (bX prog B 60 f60 R) [] 3 [(4,vP G),(7,vL ae list.length O),(8,vI (list.length:Int)),(9,vI i)] V:=by
  intro m;induction m with
  |zero=>intros;omega
  |succ m be=>
   intro o i U V hm h0 h1 hI X D
   refine At.go 4 1 [(10,.bool (decide (i<(list.length:Int))))] ?_
   refine At.fd (i<(list.length:Int)) 10 5 12 (fun ce=>?_) fun cf=>?_
   ·refine At.rg 3 ?_
    obtain⟨u,am⟩:=cG list i
    obtain⟨bi,ar,ch,ci,bj,bk,Y⟩:=av.bF ad _ am
    cases bj
    refine Op.iq 117 3 1 8 list.length O 7 9 11 bi ar i ?_
    replace Y:cut _ _ _=[vI u]:=Y
    refine Op.l1 3 11 12 (ar+i.toNat*1) (vI u) (D.sub _ _ bk) ?_ (hv:=c_ Y 0 rfl)
    refine Op.pg 6 [(6,vI u)] ?_
    refine At.rp 6 3 [(15,.bool (decide (u<0)))] ?_
    refine Op.wd (u<0) 15 (fun ck=>?_) fun co=>?_
    ·refine Op.pg 7 [(18,.bool true)] ?_
     refine At.bW 18 8 ?_
     refine At.go 9 2 [(2,vN),(3,vI 10)] ?_
     exact At.rt (.tuple #[vN,vI 10]) (hR D.drop ⟨vN,b7 rfl (bB (by exact(jo (B0 ‹_› (B1 (by omega)))).2)),b9 (av.empty _ _ _ _ _) (by exact(jo (B0 ‹_› (B1 (by omega)))).1),rfl⟩)
    refine Op.pg 7 [(18,.bool (decide (u≥4611686018427387904)))] ?_
    refine At.fd (u≥4611686018427387904) 18 8 10 (fun c3=>?_) fun c4=>?_
    ·refine At.go 9 2 [(2,vN),(3,vI 10)] ?_
     exact At.rt (.tuple #[vN,vI 10]) (hR D.drop ⟨vN,b7 rfl (bB (by exact(jo (B0 ‹_› (B1 (by omega)))).2)),b9 (av.empty _ _ _ _ _) (by exact(jo (B0 ‹_› (B1 (by omega)))).1),rfl⟩)
    refine At.rp 2 1 [(19,vI u)] ?_
    refine Op.cl (some 20) 1 D (IG _ _ _ D.sub a1 G o _ X u (by((try dsimp only)<;>(exact jd (by omega) (by omega)))) (by((try dsimp only)<;>((have:=OS hI;omega)))) (St.pt 1 D)) ?_
    rintro _ bm _ c5 bo bt ⟨c6,rfl,b3,c8,rfl⟩;subst bm;clear bo
    refine Op.gt 11 ?_
    refine At.rg 2 ?_
    refine Op.vq 21 (i+1) ?_
    exact Op.pg 3 [(9,vI (i+1))] (At.ke (be (o++eM u) (i+1) _ _ (by omega) (by omega) (by omega) (by exact OR hI h0 am (jd (by omega) (by omega))) b3 bt))
   refine At.rg 3 ?_
   obtain⟨c9,b4,b5,aw⟩:=X
   obtain⟨I,J,rfl⟩:=aw.aj
   have a0:=St.un [b4] b5 D
   refine Op.l1 187 4 22 0 (vL I o.length J) (a0.ah 0 rfl) ?_
   refine Op.pg 13 [(2,vL I o.length J),(3,vI 0)] ?_
   obtain⟨da,b6,db,b8⟩:=aJ.freeze aw (a0.aa 1 rfl)
   exact At.rt (.tuple #[vL I o.length J,vI 0]) (hR b6.drop ⟨(vL I o.length J),b7 rfl (bB (by exact(jo (Iw hI ‹_›)).2)),b9 b8 (by exact(jo (Iw hI ‹_›)).1),rfl⟩)
 exact At.ke (bd _ ([]:an) 0 _ _ (bM _) (by omega) (by omega) (by exact OP _) a9 bc)
theorem B2 (B:World) (h:ax) (g:GH) (hg:bl g h) (bd:bq g) (am:Value) (fs:List an) (ar:av g 22 (jI 5 br) am fs) (hl:fs.length≤1000000000):
  aE prog B 61 #[am] h g [] (fun be g' L'=>∃v0,be=.tuple #[v0,.int .i64 ((dM fs).2)]∧av g' 5 br v0 ((dM fs).1)∧L'=[]):=by
 obtain⟨aw,O,rfl⟩:=ar.aj
 refine aE.aq func61 fun R hR=>?_
 have a0:=St.init hg
 refine At.go 1 2 [] ?_
 refine At.go 2 3 [(9,.bool (decide ((fs.length:Int)>1024)))] ?_
 refine At.fd ((fs.length:Int)>1024) 9 3 5 (fun df=>?_) fun dg=>?_
 ·refine At.go 4 2 [(2,vN),(3,vI 13)] ?_
  exact At.rt (.tuple #[vN,vI 13]) (hR a0 ⟨vN,b7 rfl (bB (by exact(jo (Iu ‹_›)).2)),b9 (av.empty _ _ _ _ _) (by exact(jo (Iu ‹_›)).1),rfl⟩)
 refine At.rg 1 ?_
 refine Op.al 4 187 #[vN] a0 fun G dj bi=>?_
 refine Op.gt 6 ?_
 refine At.go 7 3 [(10,vL aw fs.length O),(11,vI (fs.length:Int)),(12,vI 0)] ?_
 have bj:=aJ.nil 5 br g
 have bk:=bi.nl
 have bm:=(bk.aa 0 rfl).aa 1 rfl
 obtain⟨dk,bo,bt⟩:=St.bJ (Q:=oq g G ([]:an)) 2 bm ⟨_,_,rfl,bj⟩
 have b3:∀(m:Nat) (o:an) (i:Int) (U:ay) (V:ax) (hm:fs.length-i.toNat<m) (h0:0≤i) (h1:i≤fs.length) (hI:uN fs o i) (X:oq g G o U) (D:St h g (aV []) g [U] V),At (bX prog B 61 f61 R) [] 7 [(4,vP G),(10,vL aw fs.length O),(11,vI (fs.length:Int)),(12,vI i)] V:=by
  intro m;induction m with
  |zero=>intros;omega
  |succ m b4=>
   intro o i U V hm h0 h1 hI X D
   refine At.go 8 1 [(13,.bool (decide (i<(fs.length:Int))))] ?_
   refine At.fd (i<(fs.length:Int)) 13 9 17 (fun dl=>?_) fun dp=>?_
   ·refine At.rg 3 ?_
    obtain⟨u,a1⟩:=cG fs i
    obtain⟨b5,a3,dq,du,b6,b8,Y⟩:=av.bF ar _ a1
    cases b6
    refine Op.iq 115 22 1 24 fs.length O 10 12 14 b5 a3 i ?_
    obtain⟨v46,Y,a4⟩:=Y
    obtain⟨ab,ad,rfl⟩:=a4.aj
    refine Op.l1 22 14 15 (a3+i.toNat*1) (vL ab u.length ad) (D.sub _ _ b8) ?_ (hv:=c_ Y 0 rfl)
    refine Op.pg 10 [(6,vL ab u.length ad)] ?_
    refine At.go 11 3 [(18,.bool (decide ((u.length:Int)>65536)))] ?_
    refine At.fd ((u.length:Int)>65536) 18 12 14 (fun dv=>?_) fun dC=>?_
    ·refine At.go 13 2 [(2,vN),(3,vI 13)] ?_
     exact At.rt (.tuple #[vN,vI 13]) (hR D.drop ⟨vN,b7 rfl (bB (by exact(jo (Iv ‹_› ‹_›)).2)),b9 (av.empty _ _ _ _ _) (by exact(jo (Iv ‹_› ‹_›)).1),rfl⟩)
    refine At.rp 3 2 [(20,vI (u.length:Int))] ?_
    refine Op.cl (some 21) 1 D (IG _ _ _ D.sub bd G o _ X (u.length:Int) (by((try dsimp only)<;>(exact jd (by omega) (by omega)))) (by((try dsimp only)<;>((have:=Ir hI;omega)))) (St.pt 1 D)) ?_
    rintro _ ca _ dE cb ce ⟨dT,rfl,cf,d0,rfl⟩;subst ca;clear cb
    refine Op.gt 15 ?_
    refine At.rg 4 ?_
    obtain⟨d1,ch,ci,a5⟩:=cf
    obtain⟨ck,co,rfl⟩:=a5.aj
    have ae:=St.un [ch] ci ce
    refine Op.l1 187 4 22 0 (vL ck ((o++eM (u.length:Int)).length) co) (ae.ah 0 rfl) ?_
    refine Op.px 1 [(23,vL ab u.length ad)] ?_
    obtain⟨d2,c3,c4⟩:=eT.slice (P:=prog) (a4.toH ae.sub)
    refine Op.ap 22 23 187 22 24 5 1 br (ys:=u) a5 ae 1 c4 (by(have:=Ir hI;simp only[cA];have:=(rE (u.length:Int)).2;omega)) (fun _ _ _=>trivial) c3 fun d3 d4 d5 a6 c5 d6=>?_
    obtain⟨a7,a8,rfl⟩:=a6.aj
    refine Op.s1 187 4 24 0 (vL a7 (((o++eM (u.length:Int))++u).length) a8) 0 #[vL a7 (((o++eM (u.length:Int))++u).length) a8] c5 (fun _=>trivial) fun d7 c6=>?_
    refine Op.gt 16 ?_
    refine At.rg 2 ?_
    refine Op.vq 25 (i+1) ?_
    refine Op.pg 7 [(12,vI (i+1))] ?_
    obtain⟨d8,c8,c9⟩:=St.bJ (Q:=oq g G ((o++eM (u.length:Int))++u)) 2 c6 ⟨_,_,rfl,a6⟩
    exact At.ke (b4 ((o++eM (u.length:Int))++u) (i+1) _ _ (by omega) (by omega) (by omega) (by exact OQ hI h0 a1 ‹_›) c8 c9)
   refine At.rg 3 ?_
   obtain⟨d9,da,db,a9⟩:=X
   obtain⟨I,J,rfl⟩:=a9.aj
   have bc:=St.un [da] db D
   refine Op.l1 187 4 26 0 (vL I o.length J) (bc.ah 0 rfl) ?_
   refine Op.pg 18 [(2,vL I o.length J),(3,vI 0)] ?_
   obtain⟨ed,dc,ee,dd⟩:=aJ.freeze a9 (bc.aa 1 rfl)
   exact At.rt (.tuple #[vL I o.length J,vI 0]) (hR dc.drop ⟨(vL I o.length J),b7 rfl (bB (by exact(jo (It hI ‹_› ‹_›)).2)),b9 dd (by exact(jo (It hI ‹_› ‹_›)).1),rfl⟩)
 exact At.ke (b3 _ ([]:an) 0 _ _ (bM _) (by omega) (by omega) (by exact OO _) bo bt)
theorem II (B:World) (h:ax) (g:GH) (hg:bl g h) (a7:bq g) (ab:Value) (b:an) (ad:av g 5 br ab b) (hl:b.length≤1000000000):
  aE prog B 113 #[ab] h g [] (fun aw g' L'=>aw=.tuple #[.int .i64 ((bH b).1),.int .i64 ((bH b).2.1),.int .i64 ((bH b).2.2)]∧g'=g∧L'=[]):=by
 obtain⟨ae,I,rfl⟩:=ad.aj
 refine aE.aq func113 fun R hR=>?_
 have a0:=St.init hg
 refine At.go 1 3 [(2,vI 0)] ?_
 refine At.go 2 3 [(8,vL ae b.length I),(9,vI (b.length:Int)),(10,vI 0)] ?_
 have a1:∀(m:Nat) (i:Int) (v:Int) (J:ax) (hm:b.length-i.toNat<m) (h0:0≤i) (h1:i≤b.length) (hI:oo b i v) (G:St h g (aV []) g [] J),At (bX prog B 113 f113 R) [] 2 [(2,vI v),(8,vL ae b.length I),(9,vI (b.length:Int)),(10,vI i)] J:=by
  intro m;induction m with
  |zero=>intros;omega
  |succ m am=>
   intro i v J hm h0 h1 hI G
   refine At.go 3 1 [(11,.bool (decide (i<(b.length:Int))))] ?_
   refine At.fd (i<(b.length:Int)) 11 4 18 (fun a8=>?_) fun a9=>?_
   ·refine At.rp 5 1 [(12,vI i)] ?_
    obtain⟨u,D⟩:=cG b i
    obtain⟨a3,ar,bc,bd,a4,a5,O⟩:=av.bF ad _ D
    cases a4
    refine Op.iq 22 5 1 1 b.length I 8 10 13 a3 ar i ?_
    replace O:cut _ _ _=[.int .u8 (u.toNat:Int)]:=O
    refine Op.l1 5 13 14 (ar+i.toNat*1) (.int .u8 (u.toNat:Int)) (G.sub _ _ a5) ?_ (hv:=c_ O 0 rfl)
    refine Op.pg 5 [(5,vI i),(6,.int .u8 (u.toNat:Int))] ?_
    refine At.go 6 3 [(7,.bool (decide ((u.toNat:Int)<128)))] ?_
    refine At.rp 7 3 [(20,.bool (i==8))] ?_
    refine Op.wd (i=8) 20 (fun be=>?_) fun bi=>?_
    ·refine Op.pg 7 [(17,.bool (decide ((u.toNat:Int)≥64)))] ?_
     refine At.fd ((u.toNat:Int)≥64) 17 9 8 (fun a6=>?_) fun bj=>?_
     ·refine At.kT 17 a6 ?_
      refine At.bW 17 10 ?_
      refine At.go 11 3 [(2,vI 0),(3,vI 0),(4,vI 12)] ?_
      exact At.rt (.tuple #[vI 0,vI 0,vI 12]) (hR G ⟨lJ (bB (by(first|rw[tf hI D (by omega) (by omega)]|rw[tg hI D (by omega) (by omega)]))) (bB (by(first|rw[tf hI D (by omega) (by omega)]|rw[tg hI D (by omega) (by omega)]))) (bB (by(first|rw[tf hI D (by omega) (by omega)]|rw[tg hI D (by omega) (by omega)]))),rfl,rfl⟩)
     refine At.rp 10 2 [(25,.bool (decide ((u.toNat:Int)<128)))] ?_
     refine Op.wb (decide ((u.toNat:Int)<128)) 25 (fun U=>?_) fun V=>?_
     ·refine Op.sb 7 U ?_
      replace U:=gp U
      refine Op.px 4 [(29,.bool ((u.toNat:Int)==0))] ?_
      refine Op.wd ((u.toNat:Int)=0) 29 (fun bk=>?_) fun bm=>?_
      ·refine Op.pg 9 [(17,.bool (decide (i>0)))] ?_
       refine At.fd (i>0) 17 10 12 (fun bo=>?_) fun bt=>?_
       ·refine At.go 11 3 [(2,vI 0),(3,vI 0),(4,vI 12)] ?_
        exact At.rt (.tuple #[vI 0,vI 0,vI 12]) (hR G ⟨lJ (bB (by(first|rw[tf hI D (by omega) (by omega)]|rw[tg hI D (by omega) (by omega)]))) (bB (by(first|rw[tf hI D (by omega) (by omega)]|rw[tg hI D (by omega) (by omega)]))) (bB (by(first|rw[tf hI D (by omega) (by omega)]|rw[tg hI D (by omega) (by omega)]))),rfl,rfl⟩)
       refine At.rp 9 2 [(33,vI v),(34,.int .u8 (u.toNat:Int))] ?_
       refine Op.vl 35 (.int .u8 (IntKind.wrap .u8 (((BitVec.ofInt (IntKind.bits .u8) (u.toNat:Int) &&& ~~~ BitVec.ofInt (IntKind.bits .u8) (128:Int)).toNat:Nat):Int))) (.int .u8 (((u.toNat % 128:Nat):Int))) (x5 _) ?_
       refine Op.vl 36 (.int .i64 (IntKind.wrap .i64 ((u.toNat % 128:Nat):Int))) (.int .i64 ((u.toNat % 128:Nat):Int)) (oI (by omega) (by omega)) ?_
       refine Op.px 1 [(37,vI i)] ?_
       refine Op.vq 38 ((7:Int)*i) ?_
       refine Op.sv (ky:=.i64) 3 3 36 38 39 ((u.toNat % 128:Nat):Int) ((7:Int)*i) (((u.toNat % 128*2 ^ (7*i.toNat):Nat):Int)) (by omega) (x6 hI D (by omega)) ?_
       refine Op.vl 40 (.int .i64 (IntKind.wrap .i64 (((BitVec.ofInt (IntKind.bits .i64) v ||| BitVec.ofInt (IntKind.bits .i64) ((u.toNat % 128*2 ^ (7*i.toNat):Nat):Int)).toNat:Nat):Int))) (.int .i64 (v+((u.toNat % 128*2 ^ (7*i.toNat):Nat):Int))) (x7 hI D (by omega)) ?_
       refine Op.pg 13 [(2,vI (v+((u.toNat % 128*2 ^ (7*i.toNat):Nat):Int)))] ?_
       refine At.go 14 1 [(41,.bool true)] ?_
       refine At.bW 41 15 ?_
       refine At.rp 6 2 [(42,vI (v+((u.toNat % 128*2 ^ (7*i.toNat):Nat):Int))),(43,vI i)] ?_
       refine Op.vq 44 (i+1) ?_
       refine Op.pg 16 [(2,vI (v+((u.toNat % 128*2 ^ (7*i.toNat):Nat):Int))),(3,vI (i+1)),(4,vI 0)] ?_
       exact At.rt (.tuple #[vI (v+((u.toNat % 128*2 ^ (7*i.toNat):Nat):Int)),vI (i+1),vI 0]) (hR G ⟨lJ (bB (by rw[oR hI D (by omega) (by omega) (by omega)])) (bB (by rw[oR hI D (by omega) (by omega) (by omega)])) (bB (by rw[oR hI D (by omega) (by omega) (by omega)])),rfl,rfl⟩)
      refine Op.pg 9 [(17,.bool false)] ?_
      refine At.dK 17 12 ?_
      refine At.rp 9 2 [(33,vI v),(34,.int .u8 (u.toNat:Int))] ?_
      refine Op.vl 35 (.int .u8 (IntKind.wrap .u8 (((BitVec.ofInt (IntKind.bits .u8) (u.toNat:Int) &&& ~~~ BitVec.ofInt (IntKind.bits .u8) (128:Int)).toNat:Nat):Int))) (.int .u8 (((u.toNat % 128:Nat):Int))) (x5 _) ?_
      refine Op.vl 36 (.int .i64 (IntKind.wrap .i64 ((u.toNat % 128:Nat):Int))) (.int .i64 ((u.toNat % 128:Nat):Int)) (oI (by omega) (by omega)) ?_
      refine Op.px 1 [(37,vI i)] ?_
      refine Op.vq 38 ((7:Int)*i) ?_
      refine Op.sv (ky:=.i64) 3 3 36 38 39 ((u.toNat % 128:Nat):Int) ((7:Int)*i) (((u.toNat % 128*2 ^ (7*i.toNat):Nat):Int)) (by omega) (x6 hI D (by omega)) ?_
      refine Op.vl 40 (.int .i64 (IntKind.wrap .i64 (((BitVec.ofInt (IntKind.bits .i64) v ||| BitVec.ofInt (IntKind.bits .i64) ((u.toNat % 128*2 ^ (7*i.toNat):Nat):Int)).toNat:Nat):Int))) (.int .i64 (v+((u.toNat % 128*2 ^ (7*i.toNat):Nat):Int))) (x7 hI D (by omega)) ?_
      refine Op.pg 13 [(2,vI (v+((u.toNat % 128*2 ^ (7*i.toNat):Nat):Int)))] ?_
      refine At.go 14 1 [(41,.bool true)] ?_
      refine At.bW 41 15 ?_
      refine At.rp 6 2 [(42,vI (v+((u.toNat % 128*2 ^ (7*i.toNat):Nat):Int))),(43,vI i)] ?_
      refine Op.vq 44 (i+1) ?_
      refine Op.pg 16 [(2,vI (v+((u.toNat % 128*2 ^ (7*i.toNat):Nat):Int))),(3,vI (i+1)),(4,vI 0)] ?_
      exact At.rt (.tuple #[vI (v+((u.toNat % 128*2 ^ (7*i.toNat):Nat):Int)),vI (i+1),vI 0]) (hR G ⟨lJ (bB (by rw[oR hI D (by omega) (by omega) (by omega)])) (bB (by rw[oR hI D (by omega) (by omega) (by omega)])) (bB (by rw[oR hI D (by omega) (by omega) (by omega)])),rfl,rfl⟩)
     refine Op.sb 7 V ?_
     replace V:=jq V
     refine Op.pg 9 [(17,.bool false)] ?_
     refine At.dK 17 12 ?_
     refine At.rp 9 2 [(33,vI v),(34,.int .u8 (u.toNat:Int))] ?_
     refine Op.vl 35 (.int .u8 (IntKind.wrap .u8 (((BitVec.ofInt (IntKind.bits .u8) (u.toNat:Int) &&& ~~~ BitVec.ofInt (IntKind.bits .u8) (128:Int)).toNat:Nat):Int))) (.int .u8 (((u.toNat % 128:Nat):Int))) (x5 _) ?_
     refine Op.vl 36 (.int .i64 (IntKind.wrap .i64 ((u.toNat % 128:Nat):Int))) (.int .i64 ((u.toNat % 128:Nat):Int)) (oI (by omega) (by omega)) ?_
     refine Op.px 1 [(37,vI i)] ?_
     refine Op.vq 38 ((7:Int)*i) ?_
     refine Op.sv (ky:=.i64) 3 3 36 38 39 ((u.toNat % 128:Nat):Int) ((7:Int)*i) (((u.toNat % 128*2 ^ (7*i.toNat):Nat):Int)) (by omega) (x6 hI D (by omega)) ?_
     refine Op.vl 40 (.int .i64 (IntKind.wrap .i64 (((BitVec.ofInt (IntKind.bits .i64) v ||| BitVec.ofInt (IntKind.bits .i64) ((u.toNat % 128*2 ^ (7*i.toNat):Nat):Int)).toNat:Nat):Int))) (.int .i64 (v+((u.toNat % 128*2 ^ (7*i.toNat):Nat):Int))) (x7 hI D (by omega)) ?_
     refine Op.pg 13 [(2,vI (v+((u.toNat % 128*2 ^ (7*i.toNat):Nat):Int)))] ?_
     refine At.go 14 1 [(41,.bool false)] ?_
     refine At.dK 41 17 ?_
     refine At.rg 2 ?_
     refine Op.vq 45 (i+1) ?_
     exact Op.pg 2 [(10,vI (i+1))] (At.ke (am (i+1) (v+((u.toNat % 128*2 ^ (7*i.toNat):Nat):Int)) _ (by omega) (by omega) (by omega) (by exact Il hI D (by omega) (by omega) (by omega)) G))
    refine Op.pg 7 [(17,.bool false)] ?_
    refine At.dK 17 8 ?_
    refine At.rp 10 2 [(25,.bool (decide ((u.toNat:Int)<128)))] ?_
    refine Op.wb (decide ((u.toNat:Int)<128)) 25 (fun X=>?_) fun Y=>?_
    ·refine Op.sb 7 X ?_
     replace X:=gp X
     refine Op.px 4 [(29,.bool ((u.toNat:Int)==0))] ?_
     refine Op.wd ((u.toNat:Int)=0) 29 (fun b3=>?_) fun b4=>?_
     ·refine Op.pg 9 [(17,.bool (decide (i>0)))] ?_
      refine At.fd (i>0) 17 10 12 (fun b5=>?_) fun b6=>?_
      ·refine At.go 11 3 [(2,vI 0),(3,vI 0),(4,vI 12)] ?_
       exact At.rt (.tuple #[vI 0,vI 0,vI 12]) (hR G ⟨lJ (bB (by(first|rw[tf hI D (by omega) (by omega)]|rw[tg hI D (by omega) (by omega)]))) (bB (by(first|rw[tf hI D (by omega) (by omega)]|rw[tg hI D (by omega) (by omega)]))) (bB (by(first|rw[tf hI D (by omega) (by omega)]|rw[tg hI D (by omega) (by omega)]))),rfl,rfl⟩)
      refine At.rp 9 2 [(33,vI v),(34,.int .u8 (u.toNat:Int))] ?_
      refine Op.vl 35 (.int .u8 (IntKind.wrap .u8 (((BitVec.ofInt (IntKind.bits .u8) (u.toNat:Int) &&& ~~~ BitVec.ofInt (IntKind.bits .u8) (128:Int)).toNat:Nat):Int))) (.int .u8 (((u.toNat % 128:Nat):Int))) (x5 _) ?_
      refine Op.vl 36 (.int .i64 (IntKind.wrap .i64 ((u.toNat % 128:Nat):Int))) (.int .i64 ((u.toNat % 128:Nat):Int)) (oI (by omega) (by omega)) ?_
      refine Op.px 1 [(37,vI i)] ?_
      refine Op.vq 38 ((7:Int)*i) ?_
      refine Op.sv (ky:=.i64) 3 3 36 38 39 ((u.toNat % 128:Nat):Int) ((7:Int)*i) (((u.toNat % 128*2 ^ (7*i.toNat):Nat):Int)) (by omega) (x6 hI D (by omega)) ?_
      refine Op.vl 40 (.int .i64 (IntKind.wrap .i64 (((BitVec.ofInt (IntKind.bits .i64) v ||| BitVec.ofInt (IntKind.bits .i64) ((u.toNat % 128*2 ^ (7*i.toNat):Nat):Int)).toNat:Nat):Int))) (.int .i64 (v+((u.toNat % 128*2 ^ (7*i.toNat):Nat):Int))) (x7 hI D (by omega)) ?_
      refine Op.pg 13 [(2,vI (v+((u.toNat % 128*2 ^ (7*i.toNat):Nat):Int)))] ?_
      refine At.go 14 1 [(41,.bool true)] ?_
      refine At.bW 41 15 ?_
      refine At.rp 6 2 [(42,vI (v+((u.toNat % 128*2 ^ (7*i.toNat):Nat):Int))),(43,vI i)] ?_
      refine Op.vq 44 (i+1) ?_
      refine Op.pg 16 [(2,vI (v+((u.toNat % 128*2 ^ (7*i.toNat):Nat):Int))),(3,vI (i+1)),(4,vI 0)] ?_
      exact At.rt (.tuple #[vI (v+((u.toNat % 128*2 ^ (7*i.toNat):Nat):Int)),vI (i+1),vI 0]) (hR G ⟨lJ (bB (by rw[oR hI D (by omega) (by omega) (by omega)])) (bB (by rw[oR hI D (by omega) (by omega) (by omega)])) (bB (by rw[oR hI D (by omega) (by omega) (by omega)])),rfl,rfl⟩)
     refine Op.pg 9 [(17,.bool false)] ?_
     refine At.dK 17 12 ?_
     refine At.rp 9 2 [(33,vI v),(34,.int .u8 (u.toNat:Int))] ?_
     refine Op.vl 35 (.int .u8 (IntKind.wrap .u8 (((BitVec.ofInt (IntKind.bits .u8) (u.toNat:Int) &&& ~~~ BitVec.ofInt (IntKind.bits .u8) (128:Int)).toNat:Nat):Int))) (.int .u8 (((u.toNat % 128:Nat):Int))) (x5 _) ?_
     refine Op.vl 36 (.int .i64 (IntKind.wrap .i64 ((u.toNat % 128:Nat):Int))) (.int .i64 ((u.toNat % 128:Nat):Int)) (oI (by omega) (by omega)) ?_
     refine Op.px 1 [(37,vI i)] ?_
     refine Op.vq 38 ((7:Int)*i) ?_
     refine Op.sv (ky:=.i64) 3 3 36 38 39 ((u.toNat % 128:Nat):Int) ((7:Int)*i) (((u.toNat % 128*2 ^ (7*i.toNat):Nat):Int)) (by omega) (x6 hI D (by omega)) ?_
     refine Op.vl 40 (.int .i64 (IntKind.wrap .i64 (((BitVec.ofInt (IntKind.bits .i64) v ||| BitVec.ofInt (IntKind.bits .i64) ((u.toNat % 128*2 ^ (7*i.toNat):Nat):Int)).toNat:Nat):Int))) (.int .i64 (v+((u.toNat % 128*2 ^ (7*i.toNat):Nat):Int))) (x7 hI D (by omega)) ?_
     refine Op.pg 13 [(2,vI (v+((u.toNat % 128*2 ^ (7*i.toNat):Nat):Int)))] ?_
     refine At.go 14 1 [(41,.bool true)] ?_
     refine At.bW 41 15 ?_
     refine At.rp 6 2 [(42,vI (v+((u.toNat % 128*2 ^ (7*i.toNat):Nat):Int))),(43,vI i)] ?_
     refine Op.vq 44 (i+1) ?_
     refine Op.pg 16 [(2,vI (v+((u.toNat % 128*2 ^ (7*i.toNat):Nat):Int))),(3,vI (i+1)),(4,vI 0)] ?_
     exact At.rt (.tuple #[vI (v+((u.toNat % 128*2 ^ (7*i.toNat):Nat):Int)),vI (i+1),vI 0]) (hR G ⟨lJ (bB (by rw[oR hI D (by omega) (by omega) (by omega)])) (bB (by rw[oR hI D (by omega) (by omega) (by omega)])) (bB (by rw[oR hI D (by omega) (by omega) (by omega)])),rfl,rfl⟩)
    refine Op.sb 7 Y ?_
    replace Y:=jq Y
    refine Op.pg 9 [(17,.bool false)] ?_
    refine At.dK 17 12 ?_
    refine At.rp 9 2 [(33,vI v),(34,.int .u8 (u.toNat:Int))] ?_
    refine Op.vl 35 (.int .u8 (IntKind.wrap .u8 (((BitVec.ofInt (IntKind.bits .u8) (u.toNat:Int) &&& ~~~ BitVec.ofInt (IntKind.bits .u8) (128:Int)).toNat:Nat):Int))) (.int .u8 (((u.toNat % 128:Nat):Int))) (x5 _) ?_
    refine Op.vl 36 (.int .i64 (IntKind.wrap .i64 ((u.toNat % 128:Nat):Int))) (.int .i64 ((u.toNat % 128:Nat):Int)) (oI (by omega) (by omega)) ?_
    refine Op.px 1 [(37,vI i)] ?_
    refine Op.vq 38 ((7:Int)*i) ?_
    refine Op.sv (ky:=.i64) 3 3 36 38 39 ((u.toNat % 128:Nat):Int) ((7:Int)*i) (((u.toNat % 128*2 ^ (7*i.toNat):Nat):Int)) (by omega) (x6 hI D (by omega)) ?_
    refine Op.vl 40 (.int .i64 (IntKind.wrap .i64 (((BitVec.ofInt (IntKind.bits .i64) v ||| BitVec.ofInt (IntKind.bits .i64) ((u.toNat % 128*2 ^ (7*i.toNat):Nat):Int)).toNat:Nat):Int))) (.int .i64 (v+((u.toNat % 128*2 ^ (7*i.toNat):Nat):Int))) (x7 hI D (by omega)) ?_
    refine Op.pg 13 [(2,vI (v+((u.toNat % 128*2 ^ (7*i.toNat):Nat):Int)))] ?_
    refine At.go 14 1 [(41,.bool false)] ?_
    refine At.dK 41 17 ?_
    refine At.rg 2 ?_
    refine Op.vq 45 (i+1) ?_
    exact Op.pg 2 [(10,vI (i+1))] (At.ke (am (i+1) (v+((u.toNat % 128*2 ^ (7*i.toNat):Nat):Int)) _ (by omega) (by omega) (by omega) (by exact Il hI D (by omega) (by omega) (by omega)) G))
   refine At.go 19 3 [(2,vI 0),(3,vI 0),(4,vI 11)] ?_
   exact At.rt (.tuple #[vI 0,vI 0,vI 11]) (hR G ⟨lJ (bB (by rw[Ez hI (by omega)])) (bB (by rw[Ez hI (by omega)])) (bB (by rw[Ez hI (by omega)])),rfl,rfl⟩)
 exact At.ke (a1 _ 0 0 _ (bM _) (by omega) (by omega) (by exact ON _) a0)
theorem B3 (B:World) (h:ax) (g:GH) (hg:bl g h) (X:bq g) (ae:Value) (b:an) (am:av g 5 br ae b) (hl:b.length≤1000000000):
  aE prog B 65 #[ae] h g [] (fun a6 g' L'=>∃v0,a6=.tuple #[v0,.int .i64 ((bg b).2)]∧av g' 22 (jI 5 br) v0 ((bg b).1)∧L'=[]):=by
 obtain⟨ca,cb,rfl⟩:=am.aj
 refine aE.aq func65 fun R hR=>?_
 have a7:=St.init hg
 refine At.go 1 2 [] ?_
 refine At.go 2 1 [(4,vN)] ?_
 have a8:∀(m:Nat) (J:GH) (Y:aM g J) (fs:List an) (b2:an) (a20:Option Addr) (G:Nat) (ab:ay) (u:Option Addr) (D:Nat) (ad:ax) (hm:b2.length<m) (hI:qQ b b2 fs) (a9:b2.length≤b.length) (hf:fs.length≤1024) (O:aJ 22 (jI 5 br) J (.slice a20 fs.length G) fs ab) (I:av J 5 br (vL u b2.length D) b2) (U:St h g (aV []) J [ab] ad),At (bX prog B 65 f65 R) [] 2 [(0,vL u b2.length D),(4,vL a20 fs.length G)] ad:=by
  intro m;induction m with
  |zero=>intros;omega
  |succ m bc=>
   intro J Y fs b2 a20 G ab u D ad hm hI a9 hf O I U
   replace X:=X.mono Y
   refine At.go 3 3 [(10,.bool (decide ((b2.length:Int)>0)))] ?_
   refine At.fd ((b2.length:Int)>0) 10 4 23 (fun ce=>?_) fun cf=>?_
   ·refine At.go 5 3 [(13,.bool ((fs.length:Int)==1024))] ?_
    refine At.fd ((fs.length:Int)=1024) 13 6 8 (fun ch=>?_) fun ci=>?_
    ·refine At.go 7 2 [(2,vN),(3,vI 13)] ?_
     exact At.rt (.tuple #[vN,vI 13]) (hR U.drop ⟨vN,b7 rfl (bB (by exact(jo (Ix hI ‹_› ‹_›)).2)),b9 (av.empty _ _ _ _ _) (by exact(jo (Ix hI ‹_› ‹_›)).1),rfl⟩)
    refine At.rp 9 1 [(15,vL u b2.length D)] ?_
    refine Op.c1 16 (II _ _ _ U.sub X _ _ I (by(try dsimp only)<;>omega)) U fun ck V=>?_
    refine Op.pg 9 [(5,vI ((bH b2).1)),(6,vI ((bH b2).2.1)),(7,vI ((bH b2).2.2))] ?_
    refine At.go 10 3 [(20,.bool (((bH b2).2.2) != 0))] ?_
    refine At.fn (((bH b2).2.2)=0) 20 11 13 (fun co=>?_) fun c3=>?_
    ·refine At.go 12 3 [(2,vN),(3,vI ((bH b2).2.2))] ?_
     exact At.rt (.tuple #[vN,vI ((bH b2).2.2)]) (hR V.drop ⟨vN,b7 rfl (bB (by exact(jo (Iy hI ‹_› ‹_› ‹_›)).2)),b9 (av.empty _ _ _ _ _) (by exact(jo (Iy hI ‹_› ‹_› ‹_›)).1),rfl⟩)
    refine At.go 14 3 [(24,.bool (decide (((bH b2).1)>65536)))] ?_
    refine At.fd (((bH b2).1)>65536) 24 15 17 (fun c4=>?_) fun c5=>?_
    ·refine At.go 12 2 [(2,vN),(3,vI 13)] ?_
     exact At.rt (.tuple #[vN,vI 13]) (hR V.drop ⟨vN,b7 rfl (bB (by exact(jo (Iz hI ‹_› ‹_› ‹_› ‹_›)).2)),b9 (av.empty _ _ _ _ _) (by exact(jo (Iz hI ‹_› ‹_› ‹_› ‹_›)).1),rfl⟩)
    refine At.rp 7 3 [(29,vI (b2.length:Int)),(30,vI ((bH b2).2.1))] ?_
    refine Op.cE 31 ((b2.length:Int)-((bH b2).2.1)) (by(have hb:=lQ (b:=b2) ‹_›;omega)) (by(have hb:=lQ (b:=b2) ‹_›;omega)) ?_
    refine Op.pg 18 [(27,.bool (decide (((b2.length:Int)-((bH b2).2.1))<((bH b2).1))))] ?_
    refine At.fd (((b2.length:Int)-((bH b2).2.1))<((bH b2).1)) 27 19 21 (fun c6=>?_) fun c8=>?_
    ·refine At.go 12 2 [(2,vN),(3,vI 11)] ?_
     exact At.rt (.tuple #[vN,vI 11]) (hR V.drop ⟨vN,b7 rfl (bB (by exact(jo (IA hI ‹_› ‹_› ‹_› ‹_› ‹_›)).2)),b9 (av.empty _ _ _ _ _) (by exact(jo (IA hI ‹_› ‹_› ‹_› ‹_› ‹_›)).1),rfl⟩)
    refine At.rp 11 5 [(34,vL a20 fs.length G),(35,vL u b2.length D),(36,vI ((bH b2).2.1)),(37,vI ((bH b2).2.1)),(38,vI ((bH b2).1))] ?_
    refine Op.cE 39 (((bH b2).2.1)+((bH b2).1)) (by(have hb:=lQ (b:=b2) ‹_›;omega)) (by omega) ?_
    refine Op.MM (T:=22) (E:=5) (dx:=1) (x:=35) (ao:=u) (n:=b2.length) (c:=D) (dst:=40) (d:=br) (lo:=36) (hi:=39) (k:=.i64) (k':=.i64) (m:=(bH b2).2.1) (m':=((bH b2).2.1)+((bH b2).1)) (by kernel_rfl) (by kernel_rfl) (by kernel_rfl) (by kernel_rfl) (by kernel_rfl) I (by(have hb:=lQ (b:=b2) ‹_›;omega)) (by(have hb:=lQ (b:=b2) ‹_›;omega)) (by omega) fun c9 ar=>?_
    obtain⟨a46,da,rfl⟩:=ar.aj
    refine Op.c0 (some 41) (om _ _ _ V.sub X _ _ ar (by((try dsimp only)<;>((rw[iP,e_];have hb:=lQ (b:=b2) ‹_›;omega))))) V ?_
    rintro _ bd _ db be bi ⟨dc,dd,rfl,aw,df,rfl⟩;subst bd;clear be
    obtain⟨a53,a0,rfl⟩:=aw.aj
    obtain⟨dg,bj,a1,bk⟩:=aJ.freeze aw (bi.aa 0 rfl)
    replace O:=O.mono a1
    replace I:=I.mono a1
    refine Op.ls 42 1 22 #[vL a53 ((((b2.take (((bH b2).2.1)+((bH b2).1):Int).toNat).drop ((bH b2).2.1:Int).toNat)).length) a0] bj fun dj dk a3=>?_
    refine Op.ap 34 42 115 115 43 22 24 (jI 5 br) (ys:=[((b2.take (((bH b2).2.1)+((bH b2).1):Int).toNat).drop ((bH b2).2.1:Int).toNat)]) O a3 1 (⟨_,_,rfl,⟨_,rfl,bk⟩,Reads.nil⟩) (by(simp only[bY,dU];omega)) (fun _ _ _=>trivial) (eT.lit (m:=1) (sz:=1) (a3.ah 0 rfl) (news:=[vL a53 ((((b2.take (((bH b2).2.1)+((bH b2).1):Int).toNat).drop ((bH b2).2.1:Int).toNat)).length) a0]) rfl rfl (by simp[Value.oneCell']) _) fun cE dl dp a4 bm dq=>?_
    obtain⟨a70,bo,rfl⟩:=a4.aj
    have bt:=(bm.aa 0 rfl).drop
    refine Op.pg 22 [(4,vL a70 ((fs++([((b2.take (((bH b2).2.1)+((bH b2).1):Int).toNat).drop ((bH b2).2.1:Int).toNat)])).length) bo)] ?_
    refine At.rp 6 3 [(44,vL u b2.length D),(45,vI ((bH b2).2.1)),(46,vI ((bH b2).1))] ?_
    refine Op.cE 47 (((bH b2).2.1)+((bH b2).1)) (by(have hb:=lQ (b:=b2) ‹_›;omega)) (by omega) ?_
    refine Op.zA (T:=22) (E:=5) (dx:=1) (x:=44) (ao:=u) (n:=b2.length) (c:=D) (dst:=48) (d:=br) (lo:=47) (k:=.i64) (m:=((bH b2).2.1)+((bH b2).1)) (by kernel_rfl) (by kernel_rfl) (by kernel_rfl) (by kernel_rfl) I (by(have hb:=lQ (b:=b2) ‹_›;omega)) (by omega) fun du a5=>?_
    obtain⟨a75,b3,rfl⟩:=a5.aj
    exact Op.pg 2 [(0,vL a75 ((b2.drop (((bH b2).2.1)+((bH b2).1):Int).toNat).length) b3)] (At.ke (bc _ (aM.trans Y (by repeat (first|assumption|apply aM.trans))) (fs++([((b2.take (((bH b2).2.1)+((bH b2).1):Int).toNat).drop ((bH b2).2.1:Int).toNat)])) (b2.drop (((bH b2).2.1)+((bH b2).1):Int).toNat) _ _ _ _ _ _ (by(have hb:=lQ (b:=b2) ‹_›;rw[iP];omega)) (by(have hb:=lQ (b:=b2) ‹_›;exact OU hI ‹_› ‹_› ‹_› ‹_› ‹_› (O2 (by omega) (by omega)))) (by(rw[iP];omega)) (by(simp only[cA,bY,dU];omega)) a4 a5 bt))
   refine At.go 24 3 [(2,vL a20 fs.length G),(3,vI 0)] ?_
   obtain⟨dv,b4,dC,b5⟩:=aJ.freeze O (U.aa 0 rfl)
   exact At.rt (.tuple #[vL a20 fs.length G,vI 0]) (hR b4 ⟨(vL a20 fs.length G),b7 rfl (bB (by exact(jo (IB hI ‹_›)).2)),b9 b5 (by exact(jo (IB hI ‹_›)).1),rfl⟩)
 have b6:=aJ.zero 22 (jI 5 br) g none
 have b8:=a7.nl
 exact At.ke (a8 _ _ (aM.refl _) [] b _ _ _ _ _ _ (bM _) (by exact OT _) (by exact iE _) (by exact fH _) b6 am b8)
theorem O3 (B:World) (h:ax) (g:GH) (hg:bl g h) (O:bq g) (ad:Value) (b:an) (ae:av g 5 br ad b) (hl:b.length≤1000000000):
  aE prog B 114 #[ad] h g [] (fun a1 g' L'=>∃v0,a1=.tuple #[v0,.int .i64 ((bU b).2)]∧av g' 3 (fh .i64) v0 ((bU b).1)∧L'=[]):=by
 obtain⟨bo,bt,rfl⟩:=ae.aj
 refine aE.aq func114 fun R hR=>?_
 have a3:=St.init hg
 refine At.go 1 2 [] ?_
 refine At.go 2 1 [(4,vN)] ?_
 have a4:∀(m:Nat) (I:GH) (U:aM g I) (os:List Int) (b2:an) (a20:Option Addr) (u:Nat) (V:ay) (D:Option Addr) (G:Nat) (X:ax) (hm:b2.length<m) (hI:wG b b2 os) (a5:b2.length+os.length≤b.length) (Y:aJ 3 (fh .i64) I (.slice a20 os.length u) os V) (ab:av I 5 br (vL D b2.length G) b2) (J:St h g (aV []) I [V] X),At (bX prog B 114 f114 R) [] 2 [(0,vL D b2.length G),(4,vL a20 os.length u)] X:=by
  intro m;induction m with
  |zero=>intros;omega
  |succ m a6=>
   intro I U os b2 a20 u V D G X hm hI a5 Y ab J
   replace O:=O.mono U
   refine At.go 3 3 [(10,.bool (decide ((b2.length:Int)>0)))] ?_
   refine At.fd ((b2.length:Int)>0) 10 4 11 (fun b3=>?_) fun b4=>?_
   ·refine At.rp 9 1 [(12,vL D b2.length G)] ?_
    refine Op.c1 13 (II _ _ _ J.sub O _ _ ab (by(try dsimp only)<;>omega)) J fun b5 am=>?_
    refine Op.pg 5 [(5,vI ((bH b2).1)),(6,vI ((bH b2).2.1)),(7,vI ((bH b2).2.2))] ?_
    refine At.go 6 2 [(18,.bool (((bH b2).2.2) != 0))] ?_
    refine At.fn (((bH b2).2.2)=0) 18 7 9 (fun b6=>?_) fun b8=>?_
    ·refine At.go 8 3 [(2,vN),(3,vI ((bH b2).2.2))] ?_
     exact At.rt (.tuple #[vN,vI ((bH b2).2.2)]) (hR am.drop ⟨vN,b7 rfl (bB (by exact(jo (IC hI ‹_› ‹_›)).2)),b9 (av.empty _ _ _ _ _) (by exact(jo (IC hI ‹_› ‹_›)).1),rfl⟩)
    refine At.rp 5 2 [(20,vL a20 os.length u),(21,vI ((bH b2).1))] ?_
    refine Op.ls 22 1 3 #[vI ((bH b2).1)] am fun ca cb ar=>?_
    refine Op.ap 20 22 117 117 23 3 8 (fh .i64) (ys:=[(bH b2).1]) Y ar 1 (⟨_,_,rfl,rfl,Reads.nil⟩) (by(simp only[bY,dU];omega)) (fun _ _ _=>trivial) (eT.lit (m:=1) (sz:=1) (ar.ah 0 rfl) (news:=[vI ((bH b2).1)]) rfl rfl (by simp[Value.oneCell']) _) fun ce cf ch aw a7 ci=>?_
    obtain⟨a8,a9,rfl⟩:=aw.aj
    have bc:=(a7.aa 0 rfl).drop
    refine Op.pg 10 [(4,vL a8 ((os++([(bH b2).1])).length) a9)] ?_
    refine At.rp 4 2 [(24,vL D b2.length G),(25,vI ((bH b2).2.1))] ?_
    refine Op.zA (T:=22) (E:=5) (dx:=1) (x:=24) (ao:=D) (n:=b2.length) (c:=G) (dst:=26) (d:=br) (lo:=25) (k:=.i64) (m:=(bH b2).2.1) (by kernel_rfl) (by kernel_rfl) (by kernel_rfl) (by kernel_rfl) ab (by(have hb:=lQ (b:=b2) ‹_›;omega)) (by(have hb:=lQ (b:=b2) ‹_›;omega)) fun ck a0=>?_
    obtain⟨bd,be,rfl⟩:=a0.aj
    exact Op.pg 2 [(0,vL bd ((b2.drop ((bH b2).2.1:Int).toNat).length) be)] (At.ke (a6 _ U (os++([(bH b2).1])) (b2.drop ((bH b2).2.1:Int).toNat) _ _ _ _ _ _ (by(have hb:=lQ (b:=b2) ‹_›;rw[iP];omega)) (by exact OW hI ‹_› ‹_›) (by(have hb:=lQ (b:=b2) ‹_›;rw[iP,cA,o9];omega)) aw a0 bc))
   refine At.go 12 3 [(2,vL a20 os.length u),(3,vI 0)] ?_
   obtain⟨co,bi,c3,bj⟩:=aJ.freeze Y (J.aa 0 rfl)
   exact At.rt (.tuple #[vL a20 os.length u,vI 0]) (hR bi ⟨(vL a20 os.length u),b7 rfl (bB (by exact(jo (ID hI ‹_›)).2)),b9 bj (by exact(jo (ID hI ‹_›)).1),rfl⟩)
 have bk:=aJ.zero 3 (fh .i64) g none
 have bm:=a3.nl
 exact At.ke (a4 _ _ (aM.refl _) [] b _ _ _ _ _ _ (bM _) (by exact OV _) (by(simp;done)) bk ae bm)
def fJ {α:Type} (x:List (Int×α)):Prop:=x.Pairwise fun a b=>a.1<b.1
def bV {α:Type} (x:List (Int×α)) (k:Int):Option α:=(x.find? fun p=>decide (p.1=k)).map (·.2)
def eF {α:Type} (x:List (Int×α)) (k:Int):List (Int×α):=x.filter fun p=>!decide (p.1=k)
def dJ {α:Type}:List (Int×α)→Int→α→List (Int×α)
  |[],k,a=>[(k,a)]
  |p::x,k,a=>if p.1<k then p::dJ x k a else if p.1=k then (k,a)::x else (k,a)::p::x
section
variable {α:Type} {x:List (Int×α)} {k j:Int} {a:α}
theorem lR (p:Int×α) (x:List (Int×α)) (k:Int):bV (p::x) k=if p.1=k then some p.2 else bV x k:=by
  unfold bV
  rw[zD]
  by_cases h:p.1=k<;>simp[h]
theorem rH:bV x k=none↔∀p∈x,p.1≠k:=by
  induction x with
  |nil=>simp[bV]
  |cons p x ih=>
   rw[lR]
   by_cases h:p.1=k
   · simp[h]
   · rw[aC h,ih];simp[h]
theorem jR (hs:fJ x):bV x k=some a↔(k,a)∈x:=by
  induction x with
  |nil=>simp[bV]
  |cons p x ih=>
   obtain⟨h1,h2⟩:=kX.1 hs
   rw[lR,ei]
   by_cases h:p.1=k
   · rw[aO h]
     subst h
     constructor
     · intro e;left;rw[←fK e]
     · rintro(e|e)
       · rw[←e]
       · exact absurd (h1 _ e) (Int.lt_irrefl _)
   · rw[aC h,ih h2]
     constructor
     · exact .inr
     · rintro(e|e)
       · rw[←e] at h;exact absurd rfl h
       · exact e
theorem O4 (hs:fJ x) (k:Int):fJ (eF x k):=oD mM hs
theorem qR:∀{x:List (Int×α)} {q:Int×α},q∈dJ x k a→q=(k,a)∨q∈x
  |[],q,h=>by simp[dJ] at h;exact .inl h
  |p::x,q,h=>by
   rw[dJ] at h
   repeat' split at h
   · rcases ei.1 h with rfl|h
     · exact .inr (by simp)
     · rcases qR h with h|h
       · exact .inl h
       · exact .inr (by simp[h])
   · rcases ei.1 h with rfl|h
     · exact .inl rfl
     · exact .inr (by simp[h])
   · rcases ei.1 h with rfl|h
     · exact .inl rfl
     · exact .inr h
theorem Ai:∀{x:List (Int×α)},fJ x→fJ (dJ x k a)
  |[],_=>by simp[dJ,fJ]
  |p::x,hs=>by
   obtain⟨h1,h2⟩:=kX.1 hs
   rw[dJ]
   by_cases h:p.1<k
   · rw[aO h]
     refine kX.2 ⟨fun q hq=>?_,Ai h2⟩
     rcases qR hq with rfl|hq
     · exact h
     · exact h1 q hq
   · rw[aC h]
     by_cases e:p.1=k
     · rw[aO e]
       subst e
       exact kX.2 ⟨fun q hq=>h1 q hq,h2⟩
     · rw[aC e]
       refine kX.2 ⟨fun q hq=>?_,hs⟩
       rcases ei.1 hq with rfl|hq
       · show k<q.1;omega
       · have:=h1 q hq;show k<q.1;omega
theorem n9:∀{x:List (Int×α)},bV (dJ x k a) j=if k=j then some a else bV x j
  |[]=>by rw[dJ,lR]
  |p::x=>by
   rw[dJ]
   by_cases h1:p.1<k
   · rw[aO h1,lR,n9,lR]
     by_cases h:p.1=j
     · rw[aO h,aC (by omega),aO h]
     · rw[aC h,aC h]
   · rw[aC h1]
     by_cases h2:p.1=k
     · rw[aO h2,lR,lR]
       by_cases h3:k=j
       · rw[aO h3,aO h3]
       · rw[aC h3,aC h3,aC (by omega)]
     · rw[aC h2,lR]
theorem IJ:bV (eF x k) j=if k=j then none else bV x j:=by
  induction x with
  |nil=>simp[eF,bV]
  |cons p x ih=>
   unfold eF at *
   rw[jK]
   by_cases h:p.1=k
   · subst h
     simp only[wq,nk,gA,dV]
     rw[ih,lR]
     split<;>simp_all
   · simp only[h,xG,uC,jl]
     rw[lR,ih,lR]
     by_cases hj:p.1=j
     · rw[aO hj,aC (by omega),aO hj]
     · rw[aC hj,aC hj]
end
def ga {α:Type} (R:α→Value→Prop) (ks:List (Int×Value)) (x:List (Int×α)):Prop:=
  fJ x∧(ks.map (·.1)).Nodup∧(ks.map (·.1)).Perm (x.map (·.1))∧∀k v a,(k,v)∈ks→(k,a)∈x→R a v
section
variable {α:Type} {R R':α→Value→Prop} {ks:List (Int×Value)} {x:List (Int×α)} {k:Int} {v:Value} {a:α}
theorem ga.mono (H:ga R ks x) (h:∀a v,R a v→R' a v):ga R' ks x:=⟨H.1,H.2.1,H.2.2.1,fun k v a h1 h2=>h _ _ (H.2.2.2 k v a h1 h2)⟩
theorem ga.nil:ga R [] ([]:List (Int×α)):=⟨List.Pairwise.nil,List.Pairwise.nil,gO _,fun _ _ _ h=>by cases h⟩
theorem EB (hn:(ks.map (·.1)).Nodup):fZ ks k=some v↔(k,v)∈ks:=by
  constructor
  · intro h
    unfold fZ at h
    obtain⟨p,hp,rfl⟩:=pN.1 h
    have h1:=zh hp
    have h2:=zi hp
    simp only[cQ] at h2
    rw[←h2];exact h1
  · intro h
    obtain⟨i,hi⟩:=qa.1 h
    exact DH hn hi
theorem O5:fZ ks k=none↔∀p∈ks,p.1≠k:=by
  constructor
  · intro h p hp e
    unfold fZ at h
    rw[Option.map_eq_none_iff,List.find?_eq_none] at h
    exact absurd e (by simpa using h p hp)
  · exact DG
theorem ga.IK (H:ga R ks x):fZ ks k=none↔bV x k=none:=by
  rw[O5,rH]
  have hm:∀j,(∃p∈ks,p.1=j)↔∃p∈x,p.1=j:=fun j=>by
    have:=H.2.2.1.mem_iff (a:=j)
    simpa using this
  have:=hm k
  constructor
  · intro h p hp e
    obtain⟨q,hq,e2⟩:=(hm k).2 ⟨p,hp,e⟩
    exact h q hq e2
  · intro h p hp e
    obtain⟨q,hq,e2⟩:=(hm k).1 ⟨p,hp,e⟩
    exact h q hq e2
theorem ga.EC (H:ga R ks x) (h:fZ ks k=some v):∃a,bV x k=some a∧R a v:=by
  cases hf:bV x k with
  |none=>rw[H.IK.2 hf] at h;cases h
  |some a=>exact⟨a,rfl,H.2.2.2 k v a ((EB H.2.1).1 h) ((jR H.1).1 hf)⟩
theorem ga.iB (H:ga R ks x) (k:Int):(fZ ks k=none∧bV x k=none)∨∃v a,fZ ks k=some v∧bV x k=some a∧R a v:=by
  cases h:fZ ks k with
  |none=>exact .inl ⟨rfl,H.IK.1 h⟩
  |some v=>obtain⟨a,h1,h2⟩:=H.EC h;exact .inr ⟨v,a,rfl,h1,h2⟩
theorem O6 {q:Int×Value} (hn:(ks.map (·.1)).Nodup) (h:q∈iZ ks k v):q=(k,v)∨(q∈ks∧q.1≠k):=by
  unfold iZ at h
  split at h
  · obtain⟨p,hp,e⟩:=de.1 h
    by_cases hk:p.1=k
    · rw[aO hk] at e;left;rw[←e,hk]
    · rw[aC hk] at e;right;rw[←e];exact⟨hp,hk⟩
  · rename_i hne
    rcases dP.1 h with h|h
    · right
      refine⟨h,fun e=>hne (kF.2 ⟨q,h,by simpa using e⟩)⟩
    · left;exact iw.1 h
theorem IL:(iZ ks k v).map (·.1)=if ks.any (fun p=>decide (p.1=k)) then ks.map (·.1) else ks.map (·.1)++[k]:=by
  unfold iZ
  split
  · rw[jg]
    apply tZ
    intro p _
    simp only[Function.comp_apply]
    split<;>rfl
  · simp
theorem O7:∀{x:List (Int×α)},fJ x→(dJ x k a).map (·.1)=if x.any (fun p=>decide (p.1=k)) then x.map (·.1) else (dJ x k a).map (·.1)
  |x,hs=>by
   split
   · rename_i h
     induction x with
     |nil=>simp at h
     |cons p x ih=>
      obtain⟨h1,h2⟩:=kX.1 hs
      rw[dJ]
      repeat' split
      · rename_i hlt
        rw[eR,eR]
        rw[rJ] at h
        have:decide (p.1=k)=false:=gb (by omega)
        rw[this,n8] at h
        rw[ih h2 h]
      · rename_i _ e
        simp[e]
      · rename_i n1 n2
        exfalso
        rw[rJ] at h
        have:decide (p.1=k)=false:=gb (by omega)
        rw[this,n8] at h
        obtain⟨q,hq,e⟩:=kF.1 h
        have:=h1 q hq
        simp only[cQ] at e
        omega
   · rfl
theorem ED:∀{x:List (Int×α)},(∀p∈x,p.1≠k)→(dJ x k a).Perm ((k,a)::x)
  |[],_=>gO _
  |p::x,h=>by
   rw[dJ]
   repeat' split
   · exact((ED fun q hq=>h q (by simp[hq])).cons p).trans (List.Perm.swap _ _ _)
   · rename_i e;exact absurd e (h p (by simp))
   · exact gO _
theorem ga.p5 (H:ga R ks x) (hv:R a v):ga R (iZ ks k v) (dJ x k a):=by
  have hs:=Ai (k:=k) (a:=a) H.1
  have hm:(∃p∈ks,p.1=k)↔∃p∈x,p.1=k:=by
    have:=H.2.2.1.mem_iff (a:=k)
    simpa using this
  refine⟨hs,?_,?_,fun j u b h1 h2=>?_⟩
  · rw[IL]
    split
    · exact H.2.1
    · rename_i hne
      rw[nN]
      refine⟨H.2.1,by simp,fun y hy z hz e=>?_⟩
      rw[iw.1 hz] at e
      obtain⟨p,hp,e2⟩:=de.1 hy
      exact hne (kF.2 ⟨p,hp,by rw[e2,e];simp⟩)
  · rw[IL]
    by_cases hk:∃p∈ks,p.1=k
    · obtain⟨p,hp,e⟩:=hk
      rw[aO (kF.2 ⟨p,hp,by simpa using e⟩),O7 H.1]
      obtain⟨q,hq,e2⟩:=hm.1 ⟨p,hp,e⟩
      rw[aO (kF.2 ⟨q,hq,by simpa using e2⟩)]
      exact H.2.2.1
    · rw[aC (by simp only[kF,cQ];exact hk)]
      have hx:∀p∈x,p.1≠k:=fun p hp e=>hk (hm.2 ⟨p,hp,e⟩)
      refine List.Perm.trans ?_ ((ED (a:=a) hx).map (·.1)).symm
      exact List.perm_append_comm.trans (H.2.2.1.cons k)
  · have hf:=(jR hs).2 h2
    rw[n9] at hf
    rcases O6 H.2.1 h1 with e|⟨h1,hne⟩
    · obtain⟨rfl,rfl⟩:=Prod.mk.inj e
      rw[aO rfl] at hf
      rw[←fK hf];exact hv
    · rw[aC (fun e=>hne e.symm)] at hf
      exact H.2.2.2 j u b h1 ((jR H.1).1 hf)
theorem ga.oS (H:ga R ks x) (k:Int):ga R (kJ ks k) (eF x k):=by
  refine⟨O4 H.1 k,xK (List.filter_sublist.map _) H.2.1,?_,fun j u b h1 h2=>H.2.2.2 j u b (fB.1 h1).1 (fB.1 h2).1⟩
  have e1:(kJ ks k).map (·.1)=(ks.map (·.1)).filter fun j=>!decide (j=k):=by unfold kJ;rw[wv];rfl
  have e2:(eF x k).map (·.1)=(x.map (·.1)).filter fun j=>!decide (j=k):=by unfold eF;rw[wv];rfl
  rw[e1,e2]
  exact H.2.2.1.filter _
end
def oT {α:Type} (R:GH→α→Value→Prop) (g:GH) (b:Nat) (x:List (Int×α)) (c:ay):Prop:=∃es bf ks,c=[(b,.map es bf)]∧cZ encI es bf ks∧ga (R g) ks x
def qS {α:Type} (R:GH→α→Value→Prop) (g:GH) (b:Nat) (x:List (Int×α)):Prop:=∃es bf ks,g b=some (.map es bf)∧cZ encI es bf ks∧ga (R g) ks x
section
variable {α:Type} {R:GH→α→Value→Prop} {g g':GH} {b:Nat} {x y:List (Int×α)} {c:ay}
theorem oT.mono (hm:∀a v,R g a v→R g' a v) (H:oT R g b x c):oT R g' b x c:=by
  obtain⟨es,bf,ks,h1,h2,h3⟩:=H
  exact⟨es,bf,ks,h1,h2,h3.mono hm⟩
theorem qS.mono (hg:aM g g') (hm:∀a v,R g a v→R g' a v) (H:qS R g b x):qS R g' b x:=by
  obtain⟨es,bf,ks,h1,h2,h3⟩:=H
  exact⟨es,bf,ks,hg _ _ h1,h2,h3.mono hm⟩
theorem oT.fY {h0:ax} {g0:GH} {S0:Nat→Prop} {L:List ay} {h:ax} {C:ay} (hm:∀a v,R g a v→R (dy g C) a v) (H:oT R g b x c) (s:St h0 g0 S0 g (C::L) h) (hc:∀p∈c,p∈C):qS R (dy g C) b x:=by
  obtain⟨es,bf,ks,rfl,h2,h3⟩:=H
  exact⟨es,bf,ks,oK s.p9 (hc _ (.head _)),h2,h3.mono hm⟩
end
open Go Go.Sort Go.Proofs
def qT (_:GH) (x:Int) (a:Array Value):Prop:=a=#[.int .i64 x]
def eH (u:List Int):List Int:=u.mergeSort fun x y=>decide (x≤y)
theorem mG (u:List Int):(eH u).length=u.length:=by simp[eH]
theorem IM {l u:List Int} (h:l.Perm u):eH l=eH u:=by
  have tr:∀a b c:Int,decide (a≤b)=true→decide (b≤c)=true→decide (a≤c)=true:=fun a b c h1 h2=>by simp only[cQ] at *;omega
  have tot:∀a b:Int,(decide (a≤b)||decide (b≤a))=true:=fun a b=>by simp only[jh,cQ];omega
  refine BA (le:=fun a b=>decide (a≤b)=true) (fun a b _ _ h1 h2=>?_) (xH tr tot l) (xH tr tot u) (((xI l _).trans h).trans (xI u _).symm)
  simp only[cQ] at h1 h2
  omega
theorem EE {l:List Int} (h:l.Pairwise fun a b=>a<b):eH l=l:=by
  have tr:∀a b c:Int,decide (a≤b)=true→decide (b≤c)=true→decide (a≤c)=true:=fun a b c h1 h2=>by simp only[cQ] at *;omega
  have tot:∀a b:Int,(decide (a≤b)||decide (b≤a))=true:=fun a b=>by simp only[jh,cQ];omega
  refine BA (le:=fun a b=>decide (a≤b)=true) (fun a b _ _ h1 h2=>?_) (xH tr tot l) (h.imp fun hl=>?_) (xI l _)
  · simp only[cQ] at h1 h2
    omega
  · simp only[cQ]
    omega
theorem O8 {l u:List Int} (h:l.Perm u) (hs:u.Pairwise fun a b=>a<b):eH l=u:=(IM h).trans (EE hs)
theorem IN {g:GH}:∀{xs:List Int} {cs:List Value},Reads (fh .i64) g xs cs→cs=xs.map encI
  |[],cs,h=>by simpa[Reads] using h
  |x::xs,cs,⟨c,cs',e,hk,hr⟩=>by
   have hk:c=[.int .i64 x]:=hk
   have:=IN hr
   subst hk this
   rw[e]
   rfl
theorem IP (g:GH):∀xs:List Int,Reads (fh .i64) g xs (xs.map encI)
  |[]=>Reads.nil
  |x::xs=>⟨[.int .i64 x],xs.map encI,rfl,rfl,IP g xs⟩
theorem O9 (cur:Array Value) (o:Nat) (ts:List Int) (h:o+ts.length≤cur.size):putCells encI o ts.toArray cur=splice cur o (ts.map encI):=by
  apply DF
  intro k
  have hc:cur.toList.length=cur.size:=uw
  unfold putCells splice
  rw[GS]
  simp only[d_,sY]
  rw[zM,cA,e_,d_,zM,e_,hc,kW (by omega)]
  by_cases h1:k<o
  · rw[aO (by omega),aO h1,BB h1,uu]
    cases cur[k]? with
    |none=>rfl
    |some x=>simp;omega
  · by_cases h2:k<o+ts.length
    · rw[aO (by omega),aC h1,jU]
      have hk:k<cur.size:=by omega
      have hj:k-o<ts.length:=by omega
      rw[Bz hk,oG hj]
      simp only[mS]
      rw[aO ⟨by omega,by simpa using h2⟩]
      simp[hj]
    · rw[aC (by omega),xJ,uu,show o+ts.length+(k-(o+ts.length))=k from by omega]
      cases cur[k]? with
      |none=>rfl
      |some x=>simp;omega
theorem IQ (B:World) (h:ax) (g:GH) (hg:bl g h) (v:Value) (u:List Int) (c:ay) (hr:aJ 3 (fh .i64) g v u c) (hl:u.length≤1000000000) (hs:St h g (aV [c]) g [c] h):
    aE prog B 145 #[v] h g [c] fun G g' L'=>G=.tuple #[]∧g'=g∧∃c',aJ 3 (fh .i64) g v (eH u) c'∧L'=[c']:=by
  rcases hr with ⟨ao,rfl,rfl,rfl⟩|⟨b,o,cap,cur,rest,rfl,rfl,h1,h2,h3,h4⟩
  · intro w is
    exact(slices_Sort_int_none ao 0 w).mono fun e w' ⟨he,hw⟩=>⟨.tuple #[],he,hw▸is.again,g,[[]],by rw[hw,is.heap];exact hs,rfl,rfl,[],.inl ⟨ao,rfl,by simp[eH],rfl⟩,rfl⟩
  · intro w is
    have hb:=hs.ah 0 (b:=b) rfl
    have D:w.heap[b]?=some (.cells cur 3 (0,0)):=by rw[is.heap];exact hb
    have hz:(fh .i64).sz=1:=rfl
    rw[hz,oJ] at h3 h4
    have I:=IN h4
    have hcell:∀j,j<u.length→cur[o+j]?=some (encI u[j]!):=by
      intro j hj
      have e:(cut cur o cap)[j]?=some (encI u[j]!):=by
        rw[I,jU,GU hj]
        simp[hj]
      unfold cut at e
      rw[BB (by omega),xJ,uu] at e
      exact e
    have hH:Holds (Value.int .i64) w b o u.toArray:=by
      intro j hj
      have hj:j<u.length:=by simpa using hj
      refine⟨?_,by simp[World.frozen?,D]⟩
      simp only[World.cell?,D]
      simp only[Option.isSome_none,gA,dV]
      rw[hcell j hj]
      simp[hj]
      rfl
    have hlt:b<w.heap.size:=(mP.1 D).1
    refine(slices_Sort_int b o cap u w hH hlt (by omega)).mono fun e w' ⟨he,n,os,hw⟩=>⟨.tuple #[],he,?_,?_⟩
    · subst hw
      exact⟨rfl,is.os,is.tape,is.output⟩
    · have hu:jm h b (.cells (putCells encI o (eH u).toArray cur) 3 (0,0)) (h.modify b (onCells (putCells encI o (eH u).toArray))):=jm.modify (onCells (putCells encI o (eH u).toArray)) hb
      have s1:=(hs.xy 0 (b:=b) rfl hu).grow os
      have hh:w'.heap=h.modify b (onCells (putCells encI o (eH u).toArray))++os:=by
        rw[hw,←is.heap]
        rfl
      rw[hh]
      have hts:o+(eH u).length≤cur.size:=by rw[mG];omega
      have hput:putAt u 0 (eH u)=eH u:=by
        unfold putAt
        rw[xD,eN,sX,mz (by rw[mG];omega),dX]
      have hrow:=aJ.Bn (T:=3) (d:=(fh .i64)) (b:=b) (o:=o) (cap:=cap) (xs:=u) h1 h2 (by rw[hz,oJ];exact h3) (by rw[hz,oJ];exact h4) 0 (ys:=eH u) (news:=(eH u).map encI) (by rw[mG];omega) (IP g _)
      rw[hput,vR,lG,mG,←O9 cur o _ hts] at hrow
      exact⟨g,_,s1,rfl,rfl,_,hrow,rfl⟩
abbrev gx:=List (Int×dL)
def iQ (s:dL):Bool:=decide (0≤s.Client)&&(decide (s.Client<8)&&(decide (1≤s.aF)&&(decide (s.aF≤1000000)&&(decide (0≤s.cC)&&decide (s.cC<1099511627776)))))
theorem wH {s:dL} (h:iQ s=true):(0≤s.Client∧s.Client<8)∧(1≤s.aF∧s.aF≤1000000)∧0≤s.cC∧s.cC<1099511627776:=by
  unfold iQ at h
  simp only[b_,cQ] at h
  omega
def gS (x:gx):Prop:=fJ x∧∀p∈x,p.1=p.2.Client∧iQ p.2=true
def k9 (x:gx) (c dD cD:Int):Int:=if iQ ⟨c,dD,cD⟩=false then 120 else if (bV x c).isSome then 101 else 0
def lB (x:gx) (c dD cD:Int):gx:=if k9 x c dD cD=0 then dJ x c ⟨c,dD,cD⟩ else x
def touchE (x:gx) (c cD:Int):Int:=if (bV x c).isSome=false∨cD<0∨cD≥1099511627776 then 120 else 0
def touchB (x:gx) (c cD:Int):gx:=match bV x c with
  |none=>x
  |some s=>if cD<0∨cD≥1099511627776 then x else dJ x c ⟨s.Client,s.aF,max s.cC cD⟩
def gq (cw:dL→Bool) (x:gx):List Int:=(x.filter fun p=>cw p.2).map (·.1)
def ia (cw:dL→Bool) (x:gx):gx:=x.filter fun p=>!cw p.2
def fA (cD:Int) (s:dL):Bool:=decide (s.cC+s.aF≤cD)
def qd (cs:List Int) (s:dL):Bool:=cs.any fun z=>decide (s.Client=z)
section
variable {x:gx} {c dD cD:Int} {list:List dL} {i:Int} {s:dL}
theorem gS.nil:gS []:=⟨List.Pairwise.nil,fun p hp=>by cases hp⟩
theorem gS.len (H:gS x):x.length≤8:=by
  obtain⟨h1,h2⟩:=H
  have key:∀(x:gx) (n:Nat),x.Pairwise (fun a b=>a.1<b.1)→(∀p∈x,(n:Int)≤p.1∧p.1<8)→n≤8→x.length+n≤8:=by
    intro x
    induction x with
    |nil=>intro n _ _ h;simpa using h
    |cons p x ih=>
     intro n hs hb h8
     obtain⟨g1,g2⟩:=kX.1 hs
     have hp:=hb p (by simp)
     have:=ih (p.1.toNat+1) g2 (fun q hq=>by have:=g1 q hq;have:=hb q (by simp[hq]);omega) (by omega)
     rw[bY]
     omega
  have:=key x 0 h1 (fun p hp=>by have:=wH (h2 p hp).2;have:=(h2 p hp).1;omega) (by omega)
  omega
theorem gS.put (H:gS x) (hs:iQ s=true):gS (dJ x s.Client s):=by
  refine⟨Ai H.1,fun p hp=>?_⟩
  rcases qR hp with rfl|hp
  · exact⟨rfl,hs⟩
  · exact H.2 p hp
theorem gS.find (H:gS x) (h:bV x c=some s):s.Client=c∧iQ s=true:=by
  have:=H.2 _ ((jR H.1).1 h)
  exact⟨this.1.symm,this.2⟩
theorem gS.me (H:gS x):gS (lB x c dD cD):=by
  unfold lB
  split
  · rename_i h
    refine H.put (s:=⟨c,dD,cD⟩) ?_
    unfold k9 at h
    split at h
    · simp at h
    · rename_i hr;simpa using hr
  · exact H
theorem gS.touch (H:gS x):gS (touchB x c cD):=by
  unfold touchB
  split
  · exact H
  · rename_i s hf
    split
    · exact H
    · rename_i hn
      obtain⟨rfl,hr⟩:=H.find hf
      have:=wH hr
      refine H.put (s:=⟨s.Client,s.aF,max s.cC cD⟩) ?_
      unfold iQ
      simp only[b_,cQ]
      omega
theorem gS.left (H:gS x) (cw:dL→Bool):gS (ia cw x):=
  ⟨oD mM H.1,fun p hp=>H.2 p (fB.1 hp).1⟩
end
def k_ (rs:List (Int×Value)) (k:Int):Bool:=rs.any fun q=>decide (q.1=k)
theorem wI {rs:List (Int×Value)} {k:Int}:k_ rs k=true↔∃p∈rs,p.1=k:=by unfold k_;simp
def nR (x0:gx) (cw:dL→Bool) (x1:gx) (rs gP:List (Int×Value)) (o:List Int):Prop:=
  (∀p∈rs,p∈gP)∧(rs.map (·.1)).Nodup∧x1=x0.filter (fun p=>k_ rs p.1||!cw p.2)∧o.Perm ((x0.filter fun p=>!k_ rs p.1&&cw p.2).map (·.1))
theorem IS {α:Type} {f f':Int×α→Bool} {k:Int} {s:α}:∀{l:List (Int×α)},fJ l→(k,s)∈l→(∀p∈l,p.1≠k→f' p=f p)→f (k,s)=false→f' (k,s)=true→(l.filter f').Perm (l.filter f++[(k,s)])
  |[],_,h,_,_,_=>by cases h
  |q::l,hs,hm,hf,h0,h1=>by
   obtain⟨g1,g2⟩:=kX.1 hs
   rw[jK,jK]
   rcases ei.1 hm with rfl|hm
   · rw[aO h1,aC (by rw[h0];simp)]
     have:l.filter f'=l.filter f:=s9 fun p hp=>hf p (by simp[hp]) (by have:=g1 p hp;simp only at this;omega)
     rw[this]
     exact Es (l₁:=[(k,s)])
   · have hq:q.1≠k:=by have:=g1 _ hm;simp only at this;omega
     have ih:=IS g2 hm (fun p hp=>hf p (by simp[hp])) h0 h1
     rw[hf q (by simp) hq]
     split
     · exact ih.cons q
     · exact ih
section
variable {x0 x1:gx} {cw:dL→Bool} {rs gP a b:List (Int×Value)} {o:List Int} {k:Int} {v:Value} {s:dL} {R:dL→Value→Prop}
theorem O_ (hK:ga R gP x0):nR x0 cw x0 gP gP []:=by
  have hm:∀p∈x0,k_ gP p.1=true:=fun p hp=>by
    have:=hK.2.2.1.mem_iff.2 (de.2 ⟨p,hp,rfl⟩)
    obtain⟨q,hq,e⟩:=de.1 this
    exact wI.2 ⟨q,hq,e⟩
  refine⟨fun p hp=>hp,hK.2.1,?_,?_⟩
  · rw[zJ,mJ]
    intro p hp
    rw[hm p hp];rfl
  · have:(x0.filter fun p=>!k_ gP p.1&&cw p.2)=[]:=by
      rw[vp]
      intro p hp
      rw[hm p hp];simp
    rw[this]
    exact gO _
theorem nR.mem (H:nR x0 cw x1 rs gP o) (e:rs=a++(k,v)::b):(k,v)∈gP:=H.1 _ (by rw[e];simp)
theorem nR.EF (H:nR x0 cw x1 rs gP o) (hs:fJ x0) (hf:bV x1 k=some s):(k,s)∈x0:=by
  have h1:fJ x1:=by rw[H.2.2.1];exact oD mM hs
  have:=(jR h1).1 hf
  rw[H.2.2.1] at this
  exact(fB.1 this).1
theorem tj {k j:Int} (e:rs=a++(k,v)::b) (hn:(rs.map (·.1)).Nodup):k_ (a++b) j=(k_ rs j&&!decide (j=k)):=by
  subst e
  rw[iH,eR] at hn
  have h1:=List.perm_middle.nodup_iff.1 hn
  rw[←iH] at h1
  have hk:=(qK.1 h1).1
  rw[kQ,b_,wI,wI]
  simp only[gN,jb]
  constructor
  · rintro⟨p,hp,rfl⟩
    refine⟨⟨p,?_,rfl⟩,fun e=>hk (e▸de.2 ⟨p,hp,rfl⟩)⟩
    rcases dP.1 hp with hp|hp<;>simp[hp]
  · rintro⟨⟨p,hp,rfl⟩,hne⟩
    refine⟨p,?_,rfl⟩
    rcases dP.1 hp with hp|hp
    · simp[hp]
    · rcases ei.1 hp with rfl|hp
      · exact absurd rfl hne
      · simp[hp]
theorem nR.jJ (H:nR x0 cw x1 rs gP o) (hs:fJ x0) (e:rs=a++(k,v)::b) (hf:bV x1 k=some s) (hr:cw s=false):nR x0 cw x1 (a++b) gP o:=by
  have h0:=H.EF hs hf
  have u:∀p∈x0,p.1=k→p.2=s:=fun p hp e=>by
    have h1:=(jR hs).2 (show(k,p.2)∈x0 by rw[←e];exact hp)
    rw[(jR hs).2 h0] at h1
    exact(fK h1).symm
  obtain⟨h1,h2,h3,h4⟩:=H
  have D:∀p∈a++b,p∈rs:=fun p hp=>by rw[e];rcases dP.1 hp with hp|hp<;>simp[hp]
  refine⟨fun p hp=>h1 p (D p hp),?_,?_,?_⟩
  · rw[e] at h2
    refine xK (Et _ ?_) h2
    exact(Eu a).append (Ev _ _)
  · rw[h3]
    apply s9
    intro p hp
    rw[tj e h2]
    by_cases hk:p.1=k
    · rw[u p hp hk,hr];simp
    · simp[hk]
  · refine h4.trans ?_
    have:(x0.filter fun p=>!k_ rs p.1&&cw p.2)=x0.filter fun p=>!k_ (a++b) p.1&&cw p.2:=by
      apply s9
      intro p hp
      rw[tj e h2]
      by_cases hk:p.1=k
      · rw[u p hp hk,hr];simp
      · simp[hk]
    rw[this]
theorem nR.hit (H:nR x0 cw x1 rs gP o) (hs:fJ x0) (e:rs=a++(k,v)::b) (hf:bV x1 k=some s) (hr:cw s=true):nR x0 cw (eF x1 k) (a++b) (kJ gP k) (o++[k]):=by
  have h0:=H.EF hs hf
  have u:∀p∈x0,p.1=k→p.2=s:=fun p hp e=>by
    have h1:=(jR hs).2 (show(k,p.2)∈x0 by rw[←e];exact hp)
    rw[(jR hs).2 h0] at h1
    exact(fK h1).symm
  obtain⟨h1,h2,h3,h4⟩:=H
  have D:k_ rs k=true:=wI.2 ⟨(k,v),by rw[e];simp,rfl⟩
  refine⟨fun p hp=>?_,?_,?_,?_⟩
  · unfold kJ
    rw[fB]
    refine⟨h1 p (by rw[e];rcases dP.1 hp with hp|hp<;>simp[hp]),?_⟩
    have:k_ (a++b) p.1=true:=wI.2 ⟨p,hp,rfl⟩
    rw[tj e h2] at this
    simp only[b_] at this
    exact this.2
  · rw[e] at h2
    refine xK (Et _ ?_) h2
    exact(Eu a).append (Ev _ _)
  · rw[h3]
    unfold eF
    rw[Ew]
    apply s9
    intro p hp
    rw[tj e h2]
    by_cases hk:p.1=k
    · rw[u p hp hk,hr];simp[hk]
    · simp[hk]
  · have hp:=(IS (f:=fun p=>!k_ rs p.1&&cw p.2) (f':=fun p=>!k_ (a++b) p.1&&cw p.2) hs h0 (fun p hp hk=>by simp only[tj e h2];simp[hk]) (by simp[D]) (by simp only[tj e h2];simp[hr])).map (·.1)
    rw[iH] at hp
    exact(h4.append_right _).trans hp.symm
theorem nR.j9 (H:nR x0 cw x1 rs gP o) (e:rs=[]):x1=ia cw x0∧o.Perm (gq cw x0):=by
  obtain⟨_,_,h3,h4⟩:=H
  subst e
  exact⟨by rw[h3];rfl,by simpa[gq,k_] using h4⟩
theorem Pa (hs:fJ x0):(gq cw x0).Pairwise fun a b=>a<b:=by
  unfold gq
  rw[wo]
  exact oD mM hs
end
section
variable {x:gx} {c dD cD k:Int} {s:dL} {list:List dL} {out:List dL} {i:Int}
theorem IT (h:iQ ⟨c,dD,cD⟩=false):k9 x c dD cD=120∧lB x c dD cD=x:=by
  have:k9 x c dD cD=120:=by unfold k9;rw[aO h]
  unfold lB
  rw[this];exact⟨rfl,rfl⟩
theorem IU (h:iQ ⟨c,dD,cD⟩=true) (h2:(bV x c).isSome=true):k9 x c dD cD=101∧lB x c dD cD=x:=by
  have:k9 x c dD cD=101:=by unfold k9;rw[h,aC (by simp),aO h2]
  unfold lB
  rw[this];exact⟨rfl,rfl⟩
theorem EG (h:iQ ⟨c,dD,cD⟩=true) (h2:(bV x c).isSome=false):k9 x c dD cD=0∧lB x c dD cD=dJ x c ⟨c,dD,cD⟩:=by
  have:k9 x c dD cD=0:=by unfold k9;rw[h,aC (by simp),aC (by simp[h2])]
  unfold lB
  rw[this];exact⟨rfl,rfl⟩
theorem touch_1 (h:bV x c=none):touchE x c cD=120∧touchB x c cD=x:=by unfold touchE touchB;rw[h];exact⟨aO (.inl rfl),rfl⟩
theorem touch_2 (h:bV x c=some s) (h2:cD<0∨cD≥1099511627776):touchE x c cD=120∧touchB x c cD=x:=by unfold touchE touchB;rw[h];exact⟨aO (.inr h2),aO h2⟩
theorem touch_3 (h:bV x c=some s) (h1:¬cD<0) (h2:¬cD≥1099511627776):touchE x c cD=0∧touchB x c cD=dJ x c ⟨s.Client,s.aF,max s.cC cD⟩:=by
  unfold touchE touchB
  rw[h]
  exact⟨aC (by rintro(h|h|h);simp at h;exact h1 h;exact h2 h),aC (by rintro(h|h);exact h1 h;exact h2 h)⟩
theorem Pb (h:bV x c=some s):true=(bV x c).isSome:=by rw[h];rfl
theorem Pc (h:bV x c=none):false=(bV x c).isSome:=by rw[h];rfl
theorem Pd (hs:fJ x):eH (x.map (·.1))=x.map (·.1):=EE (by rw[wo];exact hs)
theorem IV (hs:fJ x) (hx:(eH (x.map (·.1)))[i.toNat]?=some k):∃s,x[i.toNat]?=some (k,s)∧bV x k=some s:=by
  rw[Pd hs,jU] at hx
  cases h:x[i.toNat]? with
  |none=>rw[h] at hx;cases hx
  |some p=>
   rw[h] at hx
   obtain⟨D,u⟩:=p
   simp only[mS,fu] at hx
   subst hx
   exact⟨u,rfl,(jR hs).2 (cj h)⟩
theorem Pe (hs:fJ x) (hx:(eH (x.map (·.1)))[i.toNat]?=some k) (hf:bV x k=none):False:=by
  obtain⟨s,_,h⟩:=IV hs hx
  rw[hf] at h;cases h
theorem Pf (hs:fJ x) (h0:0≤i) (hx:(eH (x.map (·.1)))[i.toNat]?=some k) (hf:bV x k=some s) (ho:out=(x.map (·.2)).take i.toNat):out++[s]=(x.map (·.2)).take (i+1).toNat:=by
  obtain⟨u,h1,h2⟩:=IV hs hx
  rw[hf] at h2
  obtain rfl:=fK h2
  rw[toNat_succ h0,fG (x:=s) (by rw[jU,h1];rfl),ho]
theorem Pg (h:¬i<((eH (x.map (·.1))).length:Int)) (ho:out=(x.map (·.2)).take i.toNat):out=x.map (·.2):=by
  rw[mG,d_] at h
  rw[ho,fC (by rw[d_];omega)]
end
set_option linter.unusedSectionVars false
open Go Go.MapKept
def lS (es:Array MapEntry) (sb:Array Nat):Array MapEntry:=es.filter fun e=>!sb.contains e.born
def kK {κ:Type} (enc:κ→Value) (es:Array MapEntry) (bf m:Nat) (rs:List (κ×Value)) (cur:Option (κ×Value)) (o:Obj):Prop:=
  ∃sb,o=.mapIter (some m) bf sb bf∧(lS es sb).toList.map (fun e=>(e.key,e.val))=rs.map (fun p=>(enc p.1,p.2))∧∀p,cur=some p→∃y∈es.toList,y.key=enc p.1∧y.val=p.2∧sb.back?=some y.born
section
variable {κ:Type} {enc:κ→Value} {es:Array MapEntry} {bf m:Nat} {rs ks:List (κ×Value)} {cur:Option (κ×Value)} {o:Obj}
theorem kK.start (hR:cZ enc es bf ks):kK enc es bf m ks none (.mapIter (some m) bf #[] bf):=by
  refine⟨#[],rfl,?_,fun p h=>by cases h⟩
  have:lS es #[]=es:=by unfold lS;rw[DA];intro x _;simp
  rw[this];exact hR.1
theorem mF.toD (H:mF enc es bf m [] ks o) (hR:cZ enc es bf ks):kK enc es bf m ks none o:=by
  obtain⟨u,rest,rfl,_,h2,_⟩:=H
  obtain rfl:u=[]:=by simpa using h2
  exact kK.start hR
theorem kK.B4 (H:kK enc es bf m rs cur o):kK enc es bf m rs none o:=by
  obtain⟨sb,h1,h2,_⟩:=H
  exact⟨sb,h1,h2,fun p h=>by cases h⟩
theorem IW {P:Program} {w:World} {it ty:Nat} (hst:Stamped es bf) (hI:kK enc es bf m rs cur o) (hb:w.heap[m]?=some (.map es bf)) (hit:w.heap[it]?=some o):
    (rs=[]∧∃w',(Instr.next (.pointer (some ⟨it,0,none⟩)) false ty).run P w=.ok (.tuple #[.bool false]) w'∧w'.heap=w.heap∧w'.os=w.os∧w'.tape=w.tape∧w'.output=w.output)∨
    (∃a k v b o' w',rs=a++(k,v)::b∧(Instr.next (.pointer (some ⟨it,0,none⟩)) false ty).run P w=.ok (.tuple #[.bool true,enc k,v]) w'∧w'.heap=w.heap.setIfInBounds it o'∧w'.os=w.os∧w'.tape=w.tape∧w'.output=w.output∧
      kK enc es bf m (a++b) (some (k,v)) o'):=by
  obtain⟨sb,rfl,hr,_⟩:=hI
  obtain⟨hlt,X,_⟩:=hst
  have I:∀n:Nat,1≤n→∃gv w',(choose (.mapNext n)).run P w=.ok gv w'∧gv<n∧w'.heap=w.heap∧w'.os=w.os∧w'.tape=w.tape∧w'.output=w.output:=by
    intro n hn
    rw[run_choose_drew]
    by_cases h1:n≤1
    · exact⟨0,w,by simp[Question.forced,h1],by omega,rfl,rfl,rfl,rfl⟩
    · exact⟨w.tape w.drawn (.mapNext n) % n,w.drew,by simp[Question.forced,h1,Question.cut],xo _ (by omega),rfl,rfl,rfl,rfl⟩
  have J:∀x∈lS es sb,x.born<bf:=fun x hx=>hlt x (by unfold lS at hx;rw[Array.mem_filter] at hx;simpa using hx.1)
  have hl:es.filter (fun e=>!sb.contains e.born)=lS es sb:=rfl
  have hold:(lS es sb).filter (fun e=>decide (e.born<bf))=lS es sb:=by
    rw[DA];exact fun x hx=>by simpa using J x hx
  have hnew:(lS es sb).filter (fun e=>decide (e.born≥bf))=#[]:=by
    rw[GL];exact fun x hx=>by have:=J x hx;simp;omega
  have O:(!sb.isEmpty&&!es.isEmpty&&es.all fun e=>decide (e.born≥bf))=false:=by
    cases he:es.isEmpty with
    |true=>simp
    |false=>
     have hne:es≠#[]:=by intro h;subst h;simp at he
     have u:0<es.size:=By.2 hne
     have:es.all (fun e=>decide (e.born≥bf))=false:=by
       rw[Array.all_eq_false]
       exact⟨0,u,by have:=hlt es[0] (by simp);simp;omega⟩
     simp[this]
  generalize hlf:lS es sb=left at *
  have hg:(getObj it).run P w=.ok (.mapIter (some m) bf sb bf) w:=by simp[getObj,Sem.run,hit]
  by_cases D:left=#[]
  · subst D
    have G:rs=[]:=by cases rs with
      |nil=>rfl
      |cons p rs=>simp at hr
    refine .inl ⟨G,?_⟩
    obtain⟨gv,w',hc,hi,hw⟩:=I 1 (iE _)
    have Y:gv=0:=by omega
    subst Y
    refine⟨w',?_,hw⟩
    unfold Instr.next
    simp only[Sem.run_bind,hg,Result.andThen_ok,MapKept.run_getObj_map hb,O,gA,dV,Sem.run_pure,hl,hold,hnew]
    have hcs:((if (#[]:Array MapEntry).isEmpty=true then (#[none]:Array (Option MapEntry)) else #[])++((#[]:Array MapEntry)++#[]).map some)=#[none]:=by simp
    simp only[hcs]
    rw[show(#[none]:Array (Option MapEntry)).size=1 from rfl,hc]
    rfl
  · have u:0<left.size:=By.2 D
    obtain⟨gv,w',hc,hi,hw⟩:=I left.size u
    have hsplit:left.toList=left.toList.take gv++left[gv]::left.toList.drop (gv+1):=by
      have hi2:gv<left.toList.length:=by simpa using hi
      have:=od gv left.toList
      rw[zj hi2] at this
      simpa using this.symm
    obtain⟨ab,p,b',G,h1,h2,h3⟩:=DK hr hsplit
    simp only[iM] at h2
    have hy:left[gv]∈es.toList:=by
      have:left[gv]∈lS es sb:=by rw[hlf];exact Array.getElem_mem hi
      unfold lS at this
      rw[Array.mem_filter] at this
      simpa using this.1
    refine .inr ⟨ab,p.1,p.2,b',.mapIter (some m) bf (sb.push left[gv].born) bf,{w' with heap:=w'.heap.setIfInBounds it (.mapIter (some m) bf (sb.push left[gv].born) bf)},G,?_,by simp[hw.1],hw.2.1,hw.2.2.1,hw.2.2.2,?_⟩
    · unfold Instr.next
      have ad:w'.heap[it]?=some (.mapIter (some m) bf sb bf):=by rw[hw.1];exact hit
      have hem:left.isEmpty=false:=by simpa using D
      have hs:(setObj it (.mapIter (some m) bf (sb.push left[gv].born) bf)).run P w'=.ok () {w' with heap:=w'.heap.setIfInBounds it (.mapIter (some m) bf (sb.push left[gv].born) bf)}:=by simp[setObj,Sem.run,ad]
      simp only[Sem.run_bind,hg,Result.andThen_ok,MapKept.run_getObj_map hb,O,gA,dV,Sem.run_pure,hl,hold,hnew,hem]
      have hcs:((#[]:Array (Option MapEntry))++(left++#[]).map some)=left.map some:=by simp
      simp only[hcs,DB,hc,Result.andThen_ok,Array.getElem?_map,Bz hi,mS,Sem.run_bind,hs,Sem.run_pure]
      rw[h2.1,h2.2]
    · refine⟨sb.push left[gv].born,rfl,?_,fun q hq=>?_⟩
      · have e:(lS es (sb.push left[gv].born)).toList=left.toList.take gv++left.toList.drop (gv+1):=by
          have e1:∀n,lS es (sb.push n)=left.filter fun x=>!(x.born==n):=by
            intro n
            rw[←hlf]
            unfold lS
            rw[Array.filter_filter]
            congr 1
            funext x
            rw[Array.contains_push]
            cases sb.contains x.born<;>cases(x.born==n)<;>rfl
          rw[e1,zI]
          conv=>lhs;rw[hsplit]
          rw[nP,jK]
          have U:(left.toList.map (·.born)).Nodup:=by
            rw[←hlf]
            unfold lS
            rw[zI]
            exact xK (List.filter_sublist.map _) X
          rw[hsplit,iH,eR] at U
          have V:=nN.1 U
          have ae:=qK.1 V.2.1
          rw[aC (by simp)]
          congr 1
          · rw[mJ]
            intro x hx
            simp only[gN,s7,ne_eq]
            exact V.2.2 _ (de.2 ⟨x,hx,rfl⟩) _ (by simp)
          · rw[mJ]
            intro x hx
            simp only[gN,s7,ne_eq]
            intro e
            exact ae.1 (e▸de.2 ⟨x,hx,rfl⟩)
        rw[e,iH,iH,h1,h3]
      · obtain rfl:=fK hq
        exact⟨_,hy,h2.1,h2.2,by simp⟩
end
section
variable {C:fP} {ds:List Deferred} {i j:Nat} {r:ax} {M:Nat→Prop} {Ls:List (Nat×Bool)} {e:Env} {h:ax}
variable {h0:ax} {g0:GH} {S0:Nat→Prop} {g:GH} {L:List ay}
variable {κ:Type} [DecidableEq κ] {d:TypeDesc} {z:Value} {enc:κ→Value} {es:Array MapEntry} {bf m mt:Nat} {ks:List (κ×Value)}
theorem Op.IX {dst:Nat} {x:Operand} {it:Nat} {o1:Obj} {rs:List (κ×Value)} {cur:Option (κ×Value)} (ho:dS C i j e=some (some dst,.next x false)) (hx:e.ev x=.pointer (some ⟨it,0,none⟩)) (hb:h[m]?=some (.map es bf)) (hR:cZ enc es bf ks) (hI:kK enc es bf m rs cur o1)
    (s:St h0 g0 S0 g L h) (n:Nat) (hL:L[n]?=some [(it,o1)]) (hM:it<r.size→M it)
    (K:(rs=[]→Op C ds i r M Ls ((dst,.tuple #[.bool false])::e) h)∧∀a k v b o2 h',rs=a++(k,v)::b→kK enc es bf m (a++b) (some (k,v)) o2→St h0 g0 S0 g (L.set n [(it,o2)]) h'→Op C ds i r M Ls ((dst,.tuple #[.bool true,enc k,v])::e) h'):Op C ds i r M ((j,false)::Ls) e h:=by
  obtain⟨o,h1,h2,h3⟩:=gT ho
  have hit:=s.ah n hL
  by_cases U:rs=[]
  · subst U
    refine Op.run h1 (R:=fun D h'=>D=.value (.tuple #[.bool false])∧h'=h) ?_ ?_
    · intro w is
      rcases IW (P:=C.P) (w:=w) (it:=it) (ty:=o.type) hR.2 hI (by rw[is.heap];exact hb) (by rw[is.heap];exact hit) with ⟨_,w',hrun,hw1,G,I,J⟩|⟨a,k,v,b,o',w',u,_⟩
      · refine⟨_,w',?_,⟨rfl,G.trans is.os,I.trans is.tape,J.trans is.output⟩,rfl,hw1.trans is.heap⟩
        unfold fL execOp
        simp only[h3,hx,Sem.run_bind,hrun,Result.andThen_ok,Sem.run_pure]
      · simp at u
    · rintro _ _ ⟨rfl,rfl⟩
      refine⟨_,rfl,fun hk=>hk,?_⟩
      rw[h2]
      exact K.1 rfl
  · refine Op.run h1 (R:=fun D h'=>∃a k v b o2,D=.value (.tuple #[.bool true,enc k,v])∧rs=a++(k,v)::b∧h'=h.setIfInBounds it o2∧kK enc es bf m (a++b) (some (k,v)) o2) ?_ ?_
    · intro w is
      rcases IW (P:=C.P) (w:=w) (it:=it) (ty:=o.type) hR.2 hI (by rw[is.heap];exact hb) (by rw[is.heap];exact hit) with ⟨h,_⟩|⟨a,k,v,b,o',w',u,hrun,hw1,G,I,J,O⟩
      · exact absurd h U
      · refine⟨_,w',?_,⟨rfl,G.trans is.os,I.trans is.tape,J.trans is.output⟩,a,k,v,b,o',rfl,u,by rw[hw1,is.heap],O⟩
        unfold fL execOp
        simp only[h3,hx,Sem.run_bind,hrun,Result.andThen_ok,Sem.run_pure]
    · rintro _ _ ⟨a,k,v,b,o2,rfl,u,rfl,O⟩
      refine⟨_,rfl,fun hk=>(jm.set o2 hit).jJ hM hk,?_⟩
      rw[h2]
      exact K.2 a k v b o2 _ u O (s.mD n hL o2)
theorem Op.IY {dst:Nat} {x:Operand} {it:Nat} {o1:Obj} {rs:List (κ×Value)} {k:κ} {v:Value} (ho:dS C i j e=some (some dst,.entry x)) (hx:e.ev x=.pointer (some ⟨it,0,none⟩)) (hb:h[m]?=some (.map es bf)) (hR:cZ enc es bf ks) (hI:kK enc es bf m rs (some (k,v)) o1)
    (hit:h[it]?=some o1) (K:Op C ds i r M Ls ((dst,.tuple #[enc k,v])::e) h):Op C ds i r M ((j,false)::Ls) e h:=by
  obtain⟨o,h1,h2,h3⟩:=gT ho
  refine Op.run h1 (R:=fun G h'=>G=.value (.tuple #[enc k,v])∧h'=h) ?_ ?_
  · intro w is
    refine⟨_,w,?_,is.again,rfl,is.heap⟩
    obtain⟨sb,rfl,hr,hc⟩:=hI
    obtain⟨y,u,e3,I,J⟩:=hc (k,v) rfl
    have O:w.heap[m]?=some (.map es bf):=by rw[is.heap];exact hb
    have hfind:es.find? (fun x=>x.born==y.born)=some y:=by
      cases hf:es.find? (fun x=>x.born==y.born) with
      |none=>
       rw[GO] at hf
       have:=hf y (by simpa using u)
       simp at this
      |some z=>
       have h5:=Array.find?_some hf
       have h6:z∈es.toList:=by simpa using GP hf
       have h7:z.born=y.born:=by simpa using h5
       have U:=hR.2.2.1
       obtain⟨V,hi1⟩:=qa.1 h6
       obtain⟨i2,hi2⟩:=qa.1 u
       have D:(es.toList.map (·.born))[V]?=some y.born:=by rw[jU,hi1];simp[h7]
       have X:(es.toList.map (·.born))[i2]?=some y.born:=by rw[jU,hi2];rfl
       have hlt:=(fT.1 D).1
       have:=(Bx hlt U).1 (D.trans X.symm)
       subst this
       rw[hi1] at hi2
       exact congrArg some (fK hi2)
    have hg:(getObj it).run C.P w=.ok (.mapIter (some m) bf sb bf) w:=by simp[getObj,Sem.run,is.heap,hit]
    unfold fL execOp
    have hrun:(Instr.entry (e.ev x)).run C.P w=.ok (.tuple #[enc k,v]) w:=by
      unfold Instr.entry
      simp only[hx,Sem.run_bind,hg,Result.andThen_ok,J,MapKept.run_getObj_map O,hfind,bne_self_eq_false,gA,dV,Sem.run_pure]
      rw[e3,I]
    simp only[h3,Sem.run_bind,hrun,Result.andThen_ok,Sem.run_pure]
  · rintro _ _ ⟨rfl,rfl⟩
    refine⟨_,rfl,fun hk=>hk,?_⟩
    rw[h2]
    exact K
end
theorem IZ {α:Type} {p:α→Bool}:∀{l:List α} {j:Nat} {y:α},l[j]?=some y→p y=false→(l.eraseIdx j).filter p=l.filter p
  |[],_,_,h,_=>by simp at h
  |x::l,0,y,h,hp=>by
   simp at h
   subst h
   rw[GJ,jK,aC (by simp[hp])]
  |x::l,j+1,y,h,hp=>by
   rw[GK,jK,jK,IZ (by simpa using h) hp]
section
variable {P:Program} {w:World} {κ:Type} [DecidableEq κ] {d:TypeDesc} {z:Value} {enc:κ→Value} {es:Array MapEntry} {bf m mt:Nat} {ks:List (κ×Value)}
theorem Ph {zN:TypeId} {ty:TypeId} (hT:mE P mt=some (d,z)) (hK:l9 d enc) (hR:cZ enc es bf ks) (hb:w.heap[m]?=some (.map es bf)) (k:κ):
    ∃u,(Builtin.delete_ #[mt,zN] ty #[.map (some m),enc k]).run P w=.ok (.tuple #[]) {w with heap:=w.heap.setIfInBounds m (.map u bf)}∧cZ enc u bf (kJ ks k)∧(u=es∨∃j y,es[j]?=some y∧y.key=enc k∧u=es.eraseIdxIfInBounds j):=by
  obtain⟨kt,et,D,hu,hd,hi,hz⟩:=xM hT
  rcases hR.find hK k with ⟨h1,h2,h3⟩|⟨j,e,h1,h2,h3,h4⟩
  · refine⟨es,?_,by rw[DI h3];exact hR,.inl rfl⟩
    simp[Builtin.delete_,run_underlying hu,MapKept.run_getObj_map hb,run_checkKey hd (hK.ok k),run_findKey hd h1,MapKept.run_setObj_map _ hb,Result.andThen]
  · refine⟨_,?_,hR.GW hK h2 h4,.inr ⟨j,e,h2,h3,rfl⟩⟩
    simp[Builtin.delete_,run_underlying hu,MapKept.run_getObj_map hb,run_checkKey hd (hK.ok k),run_findKey hd h1,MapKept.run_setObj_map _ hb,Result.andThen]
theorem kK.oS {rs:List (κ×Value)} {k:κ} {v:Value} {o:Obj} {u:Array MapEntry} (hR:cZ enc es bf ks) (H:kK enc es bf m rs (some (k,v)) o) (he:u=es∨∃j y,es[j]?=some y∧y.key=enc k∧u=es.eraseIdxIfInBounds j):kK enc u bf m rs none o:=by
  rcases he with rfl|⟨j,y,hj,hy,rfl⟩
  · exact H.B4
  · obtain⟨sb,rfl,hr,hc⟩:=H
    refine⟨sb,rfl,?_,fun p h=>by cases h⟩
    obtain⟨x,hx,e1,_,e3⟩:=hc (k,v) rfl
    have U:=(mP.1 hj).1
    have O:x=y:=by
      have D:=hR.2.2.2
      obtain⟨G,hi1⟩:=qa.1 hx
      have I:es.toList[j]?=some y:=by simpa using hj
      rw[List.Nodup,Bu] at D
      obtain⟨l1,g1⟩:=fT.1 hi1
      obtain⟨J,g2⟩:=fT.1 I
      rcases Nat.lt_trichotomy G j with hlt|rfl|hlt
      · exfalso
        have:=D G j (by simpa using l1) (by simpa using J) hlt
        simp only[zE,g1,g2] at this
        exact this (e1.trans hy.symm)
      · rw[hi1] at I;exact fK I
      · exfalso
        have:=D j G (by simpa using J) (by simpa using l1) hlt
        simp only[zE,g1,g2] at this
        exact this (hy.trans e1.symm)
    subst O
    have hs:sb.contains x.born=true:=by
      rw[Array.contains_iff_mem]
      exact Array.mem_of_back? e3
    have e:(lS (es.eraseIdxIfInBounds j) sb).toList=(lS es sb).toList:=by
      unfold lS
      rw[zI,zI,Array.toList_eraseIdxIfInBounds]
      exact IZ (by simpa using hj) (by rw[hs];rfl)
    rw[e];exact hr
end
section
variable {C:fP} {ds:List Deferred} {i j:Nat} {r:ax} {M:Nat→Prop} {Ls:List (Nat×Bool)} {e:Env} {h:ax}
variable {h0:ax} {g0:GH} {S0:Nat→Prop} {g:GH} {L:List ay}
variable {κ:Type} [DecidableEq κ] {d:TypeDesc} {z:Value} {enc:κ→Value} {es:Array MapEntry} {bf m mt:Nat} {ks:List (κ×Value)}
theorem Op.Pj {dst:Option Tmp} {x ix:Operand} {kt:TypeId} {k:κ} {v:Value} {rs:List (κ×Value)} {o1:Obj} (ho:dS C i j e=some (dst,.call {callee:=.builtin .delete,args:=#[x,ix],argTypes:=#[mt,kt]})) (hT:mE C.P mt=some (d,z)) (hK:l9 d enc) (hx:e.ev x=.map (some m)) (G:e.ev ix=enc k)
    (s:St h0 g0 S0 g L h) (n:Nat) (hL:L[n]?=some [(m,.map es bf)]) (hR:cZ enc es bf ks) (hI:kK enc es bf m rs (some (k,v)) o1) (hM:m<r.size→M m)
    (K:∀u h',cZ enc u bf (kJ ks k)→kK enc u bf m rs none o1→St h0 g0 S0 g (L.set n [(m,.map u bf)]) h'→Op C ds i r M Ls (e.gJ dst (.tuple #[])) h'):Op C ds i r M ((j,false)::Ls) e h:=by
  obtain⟨o,h1,h2,h3⟩:=gT ho
  have hb:=s.ah n hL
  refine Op.run h1 (R:=fun I h'=>I=.value (.tuple #[])∧∃u,cZ enc u bf (kJ ks k)∧kK enc u bf m rs none o1∧h'=h.setIfInBounds m (.map u bf)) ?_ ?_
  · intro w is
    obtain⟨u,hrun,D,he⟩:=Ph (P:=C.P) (w:=w) (zN:=kt) (ty:=o.type) hT hK hR (by rw[is.heap];exact hb) k
    refine⟨.value (.tuple #[]),_,?_,(is.mD m (.map u bf)).again,rfl,u,D,hI.oS hR he,by simp[is.heap]⟩
    refine qJ h3 (.inr (.inr (.inr (.inr (.inr (.inl rfl)))))) ?_
    simp only[qI,eR,kG,hx,G]
    exact hrun
  · rintro _ _ ⟨rfl,u,D,J,rfl⟩
    refine⟨_,rfl,fun hk=>(jm.set (.map u bf) hb).jJ hM hk,?_⟩
    rw[h2]
    exact K u _ D J (s.mD n hL (.map u bf))
end
def qU (g:GH) (a:dL) (v:Value):Prop:=v=.agg #[.int .i64 a.Client,.int .i64 a.aF,.int .i64 a.cC]
theorem qU.mono {g g':GH} {a:dL} {v:Value} (hg:aM g g') (h:qU g a v):qU g' a v:=h
def jB (g:GH) (b:Nat) (x:List (Int×dL)) (c:ay):Prop:=oT qU g b x c
theorem jB.mono {g g':GH} {b:Nat} {x:List (Int×dL)} {c:ay} (h:jB g b x c) (hg:aM g g'):jB g' b x c:=oT.mono (fun _ _=>qU.mono hg) h
theorem jB.bu {g g':GH} {b:Nat} {x:List (Int×dL)} {c:ay} (h:jB g b x c):jB g' b x c:=oT.mono (fun _ _ h=>h) h
theorem jB.eq {g:GH} {b:Nat} {x y:List (Int×dL)} {c:ay} (h:jB g b x c) (e:x=y):jB g b y c:=e▸h
def wJ (g:GH) (b:Nat) (x:List (Int×dL)):Prop:=qS qU g b x
theorem wJ.mono {g g':GH} {b:Nat} {x:List (Int×dL)} (h:wJ g b x) (hg:aM g g'):wJ g' b x:=qS.mono hg (fun _ _=>qU.mono hg) h
theorem jB.fY {h0:ax} {g0:GH} {S0:Nat→Prop} {g:GH} {L:List ay} {h:ax} {C c:ay} {b:Nat} {x:List (Int×dL)} (H:jB g b x c) (s:St h0 g0 S0 g (C::L) h) (hc:∀p∈c,p∈C):wJ (dy g C) b x:=oT.fY (fun _ _=>qU.mono s.gz) H s hc
def gD (g:GH) (b:Nat) (x:gx) (c:ay):Prop:=∃b0 c0,c=(b,.cells #[.map (some b0)] 202 (0,0))::c0∧jB g b0 x c0
theorem gD.mono {g g':GH} {b:Nat} {x:gx} {c:ay} (h:gD g b x c) (hg:aM g g'):gD g' b x c:=by
 obtain⟨b0,c0,e,h0⟩:=h
 exact⟨b0,c0,e,h0.mono hg⟩
theorem gD.eq {g:GH} {b:Nat} {x y:gx} {c:ay} (h:gD g b x c) (e:x=y):gD g b y c:=e▸h
theorem gD.bu {g g':GH} {b:Nat} {x:gx} {c:ay} (h:gD g b x c):gD g' b x c:=by
 obtain⟨b0,c0,e,h0⟩:=h
 exact⟨b0,c0,e,h0.bu⟩
def qV (g:GH) (b:Nat) (x:List Int) (c:ay):Prop:=∃v0 c0,c=(b,.cells #[v0] 117 (0,0))::c0∧aJ 3 (fh .i64) g v0 x c0
theorem qV.eq {g:GH} {b:Nat} {x y:List Int} {c:ay} (h:qV g b x c) (e:x=y):qV g b y c:=e▸h
theorem Pk (g0:GH) (bi D:Nat) (x:List (Int×dL)) (J:g0 bi=some (.cells #[.map (some D)] 200 (0,0))) (ad:wJ g0 D x):kI prog g0 190 #[vP bi] qT (fun ca=>ca.Perm (x.map (·.1))):=by
 intro B h g l I go c bj hg a4 a5 cb ce hs
 replace J:=bj _ _ J
 replace ad:=ad.mono bj
 refine aE.aq func190 fun R hR=>?_
 refine At.rg 2 ?_
 refine Op.l1 200 1 4 0 (.map (some D)) (hs.sub _ _ J) ?_
 obtain⟨bk,bm,a6,G,ae,am⟩:=ad
 have ad:wJ g D x:=⟨bk,bm,a6,G,ae,am⟩
 refine Op.wz (d:=.int .i64) (z:=.agg #[vI 0,vI 0,vI 0]) (mt:=200) (x:=4) (dst:=5) (m:=D) (by kernel_rfl) (by kernel_rfl) (by kernel_rfl) (hs.sub _ _ G) ae hs fun O cf c8 ch ci=>?_
 refine Op.gt 1 ?_
 have ck:∀(m:Nat) (ar:GH) (U:aM g ar) (vs:List (Int×Value)) (rs:List (Int×Value)) (c1:ay) (o1:Obj) (a7:ax) (hm:rs.length<m) (aw:go (vs.map (·.1))=true) (a0:td go (vs.map (·.1))) (X:(vs++rs).Perm a6) (a8:I (vs.map (·.1)) ar c1) (bo:mF encI bk bm D vs rs o1) (a1:St h g (aV [c]) ar [[(O,o1)],c1] a7),At (bX prog B 190 f190 R) [] 1 [(0,.func (.yield l) #[] #[]),(5,vP O)] a7:=by
  intro m;induction m with
  |zero=>intros;omega
  |succ m co=>
   intro ar U vs rs c1 o1 a7 hm aw a0 X a8 bo a1
   replace a4:=a4.mono U
   replace a5:=a5.mono U
   replace J:=U _ _ J
   replace G:=U _ _ G
   refine At.rg 2 ?_
   refine Op.zO (x:=5) (dst:=6) (it:=O) (m:=D) (by kernel_rfl) (by kernel_rfl) (a1.sub _ _ G) ae bo a1 0 rfl (fun _=>trivial) ⟨fun V=>?_,fun Y u a3 ab a9 c9 V bt bc=>?_⟩
   ·refine Op.pg 2 [(7,.bool false)] ?_
    refine At.dK 7 7 ?_
    refine At.rt (.tuple #[]) ?_
    have c3:=a1.drop
    refine hR c3 ⟨(vs.map (·.1)),vs.map (·.1),c1,rfl,by exact Ae X V (am.2.2.1),by exact uG _,by exact fun _=>rfl,by exact a0,rfl,a8⟩
   refine Op.pg 2 [(7,.bool true)] ?_
   refine At.bW 7 3 ?_
   refine At.rg 3 ?_
   refine Op.zP (x:=5) (dst:=8) (it:=O) (m:=D) (vs:=vs) (k:=u) (v:=a3) (by kernel_rfl) (by kernel_rfl) (bc.sub _ _ G) ae bt (bc.ah 0 rfl) ?_
   refine Op.pg 4 [(3,vI u)] ?_
   refine At.rp 4 2 [(10,.func (.yield l) #[] #[]),(11,vI u)] ?_
   have b3:=(bc.aa 0 rfl).aa 1 rfl
   refine Op.yield (dst:=some 12) (x:=10) (ops:=#[11]) (ts:=#[3]) (l:=l) (args:=#[vI u]) (Lc:=[c1]) (L:=[[(O,a9)]]) (by kernel_rfl) (by kernel_rfl) (by kernel_rfl) b3 (a5 _ _ (vs.map (·.1)) u _ _ (by repeat (first|assumption|exact aM.refl _|apply aM.trans)) a4 (by exact aw) (by rfl) ⟨((vs++[(u,a3)])++(Y++ab)).map (·.1),by exact qP X V (am.2.2.1),by exact⟨(Y++ab).map (·.1),by simp⟩⟩ a8 (St.part (Lc:=[c1]) (L:=[[(O,a9)]]) b3)) (fun _ _ _=>trivial) ?_
   rintro _ da _ db b4 b5 ⟨b6,rfl,rfl,b8⟩
   replace J:=b4 _ _ J
   replace G:=b4 _ _ G
   refine Op.pg 5 [(13,.bool (!(go (vs.map (·.1)++[u]))))] ?_
   refine At.di (!(go (vs.map (·.1)++[u]))) 13 6 1 (fun bd=>?_) fun be=>?_
   ·replace bd:=(dG bd)
    refine At.rt (.tuple #[]) ?_
    have c4:=(b5.aa 0 rfl).aa 1 rfl
    have c5:=c4.drop
    refine hR c5 ⟨((vs++[(u,a3)])++(Y++ab)).map (·.1),vs.map (·.1)++[u],b6,rfl,by exact qP X V (am.2.2.1),by exact⟨(Y++ab).map (·.1),by simp⟩,by exact fun h=>absurd h (kH.1 bd),by exact oQ a0 aw,rfl,b8⟩
   replace be:=(dH be)
   have c6:=(b5.aa 0 rfl).aa 1 rfl
   exact At.ke (co _ (aM.trans U (by repeat (first|assumption|apply aM.trans))) (vs++[(u,a3)]) (Y++ab) b6 a9 _ (by have hz:=congrArg List.length V;simp only[cA,bY] at hz ⊢;omega) (by simpa using be) (by simpa using oQ (x:=u) a0 aw) (by exact uM X V) (by simpa using b8) bt c6)
 exact At.ke (ck _ _ (aM.refl _) [] a6 c cf _ (bM _) (by exact cb) (by exact xZ go) (by exact gO _) (by exact ce) ch ci)
theorem Pm (B:World) (h:ax) (g:GH) (hg:bl g h) (ae:bq g) (u:Nat) (x:List (Int×dL)) (G:wJ g u x):
  aE prog B 143 #[.map (some u)] h g [] (fun V g' L'=>∃f0 I,V=.func (.func f0) #[] I∧fc prog f0∧kI prog g' f0 I qT (fun X=>X.Perm (x.map (·.1)))∧L'=[]):=by
 refine aE.aq func143 fun R hR=>?_
 have Y:=St.init hg
 refine At.rg 2 ?_
 refine Op.bx 1 200 0 #[.map (some u)] Y fun D am ab=>?_
 refine Op.pg 1 [] ?_
 refine At.go 2 2 [(2,.func (.func 190) #[] #[vP D])] ?_
 obtain⟨J,O⟩:=St.freeze (ab.aa 0 rfl)
 have U:=iN (g:=g) D (.cells #[.map (some u)] 200 (0,0))
 generalize ad:dy g _=ar at J O U;clear ad
 replace G:=G.mono O
 exact At.rt (.func (.func 190) #[] #[vP D]) (hR J ⟨190,#[vP D],rfl,fc.of (by kernel_rfl),Pk _ D u x U G,rfl⟩)
theorem Pn (B:World) (h:ax) (g:GH) (hg:bl g h) (cb:bq g) (V:Nat) (X:Array Value) (q:List Int) (ce:fc prog V) (cf:kI prog g V X qT (fun ar=>ar.Perm q)) (hq:q.length≤1000000000):
  aE prog B 191 #[vN,.func (.func V) #[] X] h g [] (fun ch g' L'=>∃bc v0 bd,ch=v0∧bc.Perm q∧aJ 3 (fh .i64) g' v0 bc bd∧g'=g∧L'=[bd]):=by
 refine aE.aq func191 fun R hR=>?_
 have ci:=St.init hg
 refine At.rg 2 ?_
 refine Op.bx 2 117 0 #[vN] ci fun D d4 ck=>?_
 refine Op.pg 1 [(4,vN)] ?_
 refine At.go 2 1 [(6,.func (.func V) #[] X)] ?_
 refine At.kp [(2,vP D),(4,vN),(6,.func (.func V) #[] X)] ?_
 have co:=aJ.zero 3 (fh .i64) g none
 have c3:=ck.nl
 refine At.rangeFunc (x:=6) (f:=V) (cp:=X) (by kernel_rfl) rfl (by kernel_rfl) (by kernel_rfl) ce c3 fun u G J be c4 c5=>?_
 have c6:=(((c5.aa 1 rfl).aa 2 rfl).aa 3 rfl).aa 3 rfl
 have c8:St h g (aV []) g [[(G,.loop (dR (eC 191 J (pt (dz f191) 2) u) none))],[(D,Obj.cells #[vL none (([]:List Int).length) 0] 117 (0,0))],[],[(u,.deferred (some []))]] be:=c6
 have a4:St h g (aV []) g [(([(G,.loop (dR (eC 191 J (pt (dz f191) 2) u) none))]:ay)++([(D,Obj.cells #[vL none (([]:List Int).length) 0] 117 (0,0))]:ay)++([]:ay):ay),[(u,.deferred (some []))]] be:=St.bu (L:=[[(G,.loop (dR (eC 191 J (pt (dz f191) 2) u) none))],[(D,Obj.cells #[vL none (([]:List Int).length) 0] 117 (0,0))],[],[(u,.deferred (some []))]]) (by simp only[cH,List.flatten_nil,dm,dW,eN,dX]) c8
 obtain⟨bi,aw⟩:∃I:List Int→GH→ay→Prop,I=(fun xs g2 c2=>∃(out:List Int) (bj:Option Addr) (bk:Nat) (bm:ay),c2=(([(G,.loop (dR (eC 191 J (pt (dz f191) 2) u) none))]:ay)++([(D,Obj.cells #[.slice bj out.length bk] 117 (0,0))]:ay)++(bm:ay):ay)∧aJ 3 (fh .i64) g2 (.slice bj out.length bk) out bm∧out=xs):=⟨_,rfl⟩
 have c9:uE prog B G qT (fun ar=>ar.Perm q) (fun _=>true) bi g:=by
  intro a5 a0 d5 O d6 d7 d8 d9 ed da db bo dc
  rw[aw] at bo
  obtain⟨U,a1,a3,a6,rfl,dd,bt⟩:=bo
  obtain rfl:=da
  have hlen:U.length+1≤q.length:=by(obtain⟨ar,h1,h2⟩:=db;have h3:=h2.length_le;have h4:=h1.length_eq;rw[bt];simp only[cA,bY,dU] at h3;omega)
  have b3:St a5 a0 (aV [(([(G,.loop (dR (eC 191 J (pt (dz f191) 2) u) none))]:ay)++([(D,Obj.cells #[vL a1 U.length a3] 117 (0,0))]:ay)++(a6:ay):ay)]) a0 [[(G,.loop (dR (eC 191 J (pt (dz f191) 2) u) none))],[(D,Obj.cells #[vL a1 U.length a3] 117 (0,0))],a6] a5:=St.bu (by simp only[cH,List.flatten_nil,dm,dW,eN,dX]) dc
  refine uD.uB (n:=f191.ntmps) (e0:=[(2,vP D),(4,vN),(6,.func (.func V) #[] X)]) (e:=[(7,vI O),(2,vP D),(4,vN),(6,.func (.func V) #[] X)]) (b3.ah 0 rfl) c4 (by kernel_rfl) (by kernel_rfl) (by kernel_rfl) (by kernel_rfl) fun ee df=>?_
  refine At.go 1 1 [(5,vI O)] ?_
  refine At.beginRound rfl (by kernel_rfl) b3 0 rfl 2 (by kernel_rfl) fun ef b4=>?_
  refine At.rg 5 ?_
  refine Op.l1 117 2 8 0 (vL a1 U.length a3) (b4.ah 1 rfl) ?_
  refine Op.px 1 [(9,vI O)] ?_
  refine Op.ls 10 1 3 #[vI O] b4 fun eh ej b5=>?_
  refine Op.ap 8 10 117 117 11 3 8 (fh .i64) (ys:=[O]) dd b5 3 (⟨_,_,rfl,rfl,Reads.nil⟩) (by(simp only[bY,dU];omega)) (fun _ _ _=>trivial) (eT.lit (m:=1) (sz:=1) (b5.ah 0 rfl) (news:=[vI O]) rfl rfl (by simp[Value.oneCell']) _) fun em a7 en b6 dg ep=>?_
  obtain⟨ae,am,rfl⟩:=b6.aj
  have dj:=(dg.aa 0 rfl).drop
  refine Op.s1 117 2 11 0 (vL ae ((U++([O])).length) am) 1 #[vL ae ((U++([O])).length) am] dj (fun _=>trivial) fun er dk=>?_
  refine Op.gt 3 ?_
  refine At.zG (j:=none) (by kernel_rfl) dk 0 rfl fun dl dp=>?_
  have dq:St a5 a0 (aV [(([(G,.loop (dR (eC 191 J (pt (dz f191) 2) u) none))]:ay)++([(D,Obj.cells #[vL a1 U.length a3] 117 (0,0))]:ay)++(a6:ay):ay)]) a0 [(([(G,.loop (dR (eC 191 J (pt (dz f191) 2) u) none))]:ay)++([(D,Obj.cells #[vL ae ((U++([O])).length) am] 117 (0,0))]:ay)++(a7:ay):ay)] dl:=St.bu (L:=[[(G,.loop (dR (eC 191 J (pt (dz f191) 2) u) none))],[(D,Obj.cells #[vL ae ((U++([O])).length) am] 117 (0,0))],a7]) (by simp only[cH,List.flatten_nil,dm,dW,eN,dX]) dp
  refine df _ _ _ _ dq ⟨_,by rfl,rfl,?_⟩
  rw[aw];exact⟨(U++([O])),ae,am,a7,rfl,b6,(by rw[bt])⟩
 refine wj.call (Lc:=[(([(G,.loop (dR (eC 191 J (pt (dz f191) 2) u) none))]:ay)++([(D,Obj.cells #[vL none (([]:List Int).length) 0] 117 (0,0))]:ay)++([]:ay):ay)]) (L:=[[(u,.deferred (some []))]]) a4 (cf B _ _ _ bi (fun _=>true) _ (aM.refl _) a4.sub cb c9 rfl (by rw[aw];exact⟨([]:List Int),none,0,[],rfl,co,(by rfl)⟩) (St.part (Lc:=[(([(G,.loop (dR (eC 191 J (pt (dz f191) 2) u) none))]:ay)++([(D,Obj.cells #[vL none (([]:List Int).length) 0] 117 (0,0))]:ay)++([]:ay):ay)]) (L:=[[(u,.deferred (some []))]]) a4)) ?_
 rintro _ du _ dv et dC ⟨ex,eA,eB,rfl,eE,eI,dE,eJ,rfl,b8⟩
 have hx:=dE rfl;subst hx
 rw[aw] at b8
 obtain⟨Y,ab,ad,a8,rfl,a9,dT⟩:=b8
 have d0:St h g (aV []) du [[(G,.loop (dR (eC 191 J (pt (dz f191) 2) u) none))],[(D,Obj.cells #[vL ab Y.length ad] 117 (0,0))],a8,[(u,.deferred (some []))]] dv:=St.bu (by simp only[cH,List.flatten_nil,dm,dW,eN,dX]) dC
 refine jz.zH (j:=none) d0 0 rfl fun eK d1=>?_
 have ca:=d1.drop
 refine jz.bF 3 (by kernel_rfl) ?_
 refine At.rg 2 ?_
 refine Op.l1 117 2 12 0 (vL ab Y.length ad) (ca.ah 0 rfl) ?_
 refine Op.pg 4 [(4,vL ab Y.length ad)] ?_
 have d2:=((ca.aa 1 rfl).aa 1 rfl).aa 2 rfl
 refine At.Bw (jz.Dy (L:=[[(D,Obj.cells #[vL ab Y.length ad] 117 (0,0))],a8]) (f:=f191) (v:=vL ab Y.length ad) [u] (by kernel_rfl) (by kernel_rfl) d2 ?_)
 intro eL d3
 replace a9:=a9.bu (fun _ _ _ _ h=>h) (g':=g)
 exact hR d3.drop.jZ ⟨Y,(vL ab Y.length ad),a8,rfl,(by rw[dT];assumption),a9,rfl,rfl⟩
theorem Po (B:World) (h:ax) (g:GH) (hg:bl g h) (Y:bq g) (u:Nat) (D:Array Value) (q:List Int) (ab:fc prog u) (ad:kI prog g u D qT (fun ae=>ae.Perm q)) (hq:q.length≤1000000000):
  aE prog B 144 #[.func (.func u) #[] D] h g [] (fun am g' L'=>∃I v0 J,am=v0∧I.Perm q∧aJ 3 (fh .i64) g' v0 I J∧g'=g∧L'=[J]):=by
 refine aE.aq func144 fun R hR=>?_
 have O:=St.init hg
 refine At.go 1 1 [] ?_
 refine At.rp 3 1 [(3,.func (.func u) #[] D)] ?_
 refine Op.c0 (some 4) (Pn _ _ _ O.sub Y u D q ab ad (by(try dsimp only)<;>assumption)) O ?_
 rintro _ ar _ a3 aw a0 ⟨G,a4,a1,rfl,a5,U,a6,rfl⟩;subst ar;clear aw
 obtain⟨V,X,rfl⟩:=U.aj
 exact Op.pr 2 2 (vL V G.length X) (hR a0 ⟨G,(vL V G.length X),a1,rfl,‹_›,U,rfl,rfl⟩)
theorem EH (B:World) (h:ax) (g:GH) (hg:bl g h) (ab:bq g) (u:Nat) (G:Array Value) (q:List Int) (ad:fc prog u) (ae:kI prog g u G qT (fun am=>am.Perm q)) (hq:q.length≤1000000000):
  aE prog B 89 #[.func (.func u) #[] G] h g [] (fun ar g' L'=>∃v0 U,ar=v0∧aJ 3 (fh .i64) g' v0 (eH q) U∧g'=g∧L'=[U]):=by
 refine aE.aq func89 fun R hR=>?_
 have V:=St.init hg
 refine At.go 1 1 [] ?_
 refine At.rp 3 1 [(4,.func (.func u) #[] G)] ?_
 refine Op.c0 (some 5) (Po _ _ _ V.sub ab u G q ad ae (by(try dsimp only)<;>assumption)) V ?_
 rintro _ aw _ a7 a0 O ⟨D,a8,a9,rfl,X,Y,bc,rfl⟩;subst aw;clear a0
 obtain⟨I,J,rfl⟩:=Y.aj
 refine Op.pg 2 [(3,vL I D.length J)] ?_
 refine At.rp 2 1 [(6,vL I D.length J)] ?_
 refine Op.cl (some 7) 1 O (IQ _ _ _ O.sub _ D _ Y (by(have:=BD X;omega)) (St.pt 1 O)) ?_
 rintro _ a1 _ bd a3 a4 ⟨rfl,be,a5,a6,rfl⟩;subst a1;clear a3
 refine Op.gt 3 ?_
 exact At.gr 4 2 2 (vL I D.length J) (hR a4 ⟨(vL I D.length J),a5,rfl,eV a6 (by exact IM X),rfl,rfl⟩)
def h_ (ks:List (aQ×Value)) (F:ay) (ns:List ag):Prop:=∃ms:List oP,ks=kY ms∧F.Perm (mV ms)∧HQ ms∧(ms.map (·.l)).Perm ns∧fU ns∧∀n∈ns,n.af.length≤64
theorem St.Aj {h0:ax} {g0:GH} {S0:Nat→Prop} {g g1:GH} {L:List ay} {h:ax} (s:St h0 g0 S0 g L h) (h1:aM g0 g1) (h2:aM g1 g):St h0 g0 S0 g1 L h:=
  ⟨s.size,s.frame,h1,fun b hb=>s.new b (by obtain⟨x,hx⟩:=F2.1 hb;rw[h2 _ _ hx];simp),fun b o hb=>s.sub b o (h2 _ _ hb),s.mC,s.nodup,
    fun p hp=>(by cases hg:g1 p.1 with
      |none=>rfl
      |some x=>have:=h2 _ _ hg;rw[s.sep p hp] at this;cases this),s.own⟩
section
variable {g:GH} {mb:Nat} {ns:List ag} {c F:ay} {es:Array MapEntry} {bf:Nat} {ks:List (aQ×Value)}
theorem hU.me (h:hU g mb ns c):∃es bf ks F,c.Perm ((mb,.map es bf)::F)∧cZ encS es bf ks∧h_ ks F ns:=by
  obtain⟨es,bf,ms,hp,⟨h1,h2,h3,h4⟩,hr⟩:=h
  exact⟨es,bf,kY ms,mV ms,hp,h1,ms,rfl,gO _,hr,h2,h3,h4⟩
theorem h_.close (h:h_ ks F ns) (hR:cZ encS es bf ks) (hc:c.Perm ((mb,.map es bf)::F)):hU g mb ns c:=by
  obtain⟨ms,rfl,u,hr,h2,h3,h4⟩:=h
  exact⟨es,bf,ms,hc.trans (u.cons _),⟨hR,h2,h3,h4⟩,hr⟩
theorem h_.nil:h_ [] [] []:=⟨[],rfl,gO _,fun m hm=>absurd hm (by simp),gO _,List.Pairwise.nil,fun n hn=>absurd hn (by simp)⟩
theorem h_.sort (h:h_ ks F ns):fU ns:=by obtain⟨_,_,_,_,_,h3,_⟩:=h;exact h3
theorem h_.len (h:h_ ks F ns):ks.length=ns.length:=by
  obtain⟨ms,rfl,_,_,h2,_⟩:=h
  have:=h2.length_eq
  simpa[kY] using this
theorem h_.iB (h:h_ ks F ns) (p:aQ):(fZ ks p).isSome=(cc ns p).isSome:=by
  obtain⟨ms,rfl,u,hr,h2,h3,h4⟩:=h
  have hn:(ms.map (·.l.af)).Nodup:=by
    have:=(h2.map (·.af)).nodup_iff.2 h3.nodup
    simpa[jg,Function.comp_def] using this
  rcases HR hn p with ⟨h5,h6⟩|⟨m,_,h5,h6⟩
  · rw[h6,←BK h2 h3.nodup,h5];rfl
  · rw[h6,←BK h2 h3.nodup,h5];rfl
theorem I0 (a b:List oP):mV (a++b)=mV a++mV b:=by simp[mV]
theorem EI {a b:List oP} (h:a.Perm b):(mV a).Perm (mV b):=(h.map BT).flatten
theorem h_.B5 (h:h_ ks F ns) {l:ag} {v:Value} {b:Nat} {u:ay} (hf:cc ns l.af=none) (hr:aJ 5 br g v l.Data u) (hl:l.af.length≤64):
    h_ (iZ ks l.af (.pointer (some ⟨b,0,none⟩))) ((b,.cells (qO l v) TL (0,0))::u++F) (eO ns l):=by
  obtain⟨ms,rfl,D,G,h2,h3,h4⟩:=h
  have hno:∀p∈kY ms,p.1≠l.af:=by
    intro p hp
    obtain⟨m,hm,rfl⟩:=de.1 hp
    exact oh.1 hf m.l (h2.mem_iff.1 (de.2 ⟨m,hm,rfl⟩))
  have hd:gi ns l.af=ns:=zX hf
  have hw:(eO ns l).Perm (l::ns):=by have:=qc ns l;rwa[hd] at this
  refine⟨ms++[⟨b,l,v,u⟩],?_,?_,?_,?_,zW h3 l,?_⟩
  · unfold iZ
    rw[aC (by
      rw[kF]
      rintro⟨p,hp,e⟩
      exact hno p hp (by simpa using e))]
    simp[kY]
  · rw[I0]
    have:mV [⟨b,l,v,u⟩]=(b,.cells (qO l v) TL (0,0))::u:=by simp[mV,BT]
    rw[this]
    exact(Es).trans (D.append_right _)
  · intro m hm
    rcases dP.1 hm with hm|hm
    · exact G m hm
    · rw[iw] at hm
      subst hm
      exact hr.bu (fun _ _ _ _ h=>h)
  · rw[iH]
    exact((Es).trans (h2.cons l)).trans hw.symm
  · intro n hn
    rcases ei.1 (hw.mem_iff.1 hn) with rfl|hn
    · exact hl
    · exact h4 n hn
theorem h_.oS (h:h_ ks F ns) (p:aQ):∃F' u,F.Perm (F'++u)∧h_ (kJ ks p) F' (gi ns p):=by
  obtain⟨ms,rfl,D,G,h2,h3,h4⟩:=h
  refine⟨mV (ms.filter fun m=>!decide (m.l.af=p)),mV (ms.filter fun m=>!(!decide (m.l.af=p))),?_,ms.filter fun m=>!decide (m.l.af=p),?_,gO _,fun m hm=>G m (fB.1 hm).1,?_,D1 h3 p,fun n hn=>h4 n (fB.1 hn).1⟩
  · refine D.trans ?_
    rw[←I0]
    exact EI (List.filter_append_perm _ _).symm
  · unfold kJ kY
    rw[wv]
    rfl
  · have:=h2.filter fun n=>!decide (n.af=p)
    rw[wv] at this
    exact this
theorem h_.bF (h:h_ ks F ns) {l:ag} {b:Nat} (hR:cZ encS es bf ks) (hf:cc ns l.af=some l) (he:∃e∈es.toList,e.key=encS l.af∧e.val=.pointer (some ⟨b,0,none⟩)):
    ∃v c1 F',F.Perm ((b,.cells (qO l v) TL (0,0))::c1++F')∧aJ 5 br g v l.Data c1∧
     ∀(u:ag) (D:Value) (G:ay),u.af=l.af→aJ 5 br g D u.Data G→h_ ks ((b,.cells (qO u D) TL (0,0))::G++F') (eO ns u):=by
  obtain⟨ms,rfl,V,O,h2,h3,h4⟩:=h
  have hn:(ms.map (·.l.af)).Nodup:=by
    have:=(h2.map (·.af)).nodup_iff.2 h3.nodup
    simpa[jg,Function.comp_def] using this
  obtain⟨e,X,Y,ab⟩:=he
  obtain⟨m,hm,ad,ae⟩:∃m∈ms,m.l=l∧m.b=b:=by
    have:(e.key,e.val)∈es.toList.map (fun e=>(e.key,e.val)):=de.2 ⟨e,X,rfl⟩
    rw[hR.1] at this
    obtain⟨q,hq,eq⟩:=de.1 this
    obtain⟨m,hm,rfl⟩:=de.1 hq
    simp only[iM,Y,ab,Value.pointer.injEq,fu,Addr.mk.injEq] at eq
    have hp:m.l.af=l.af:=l_.inj _ _ eq.1
    have h6:cc (ms.map (·.l)) m.l.af=some m.l:=qb (by simpa[jg,Function.comp_def] using hn) (de.2 ⟨m,hm,rfl⟩)
    rw[BK h2 h3.nodup,hp,hf] at h6
    exact⟨m,hm,(fK h6).symm,eq.2.1⟩
  subst ad ae
  obtain⟨a,d,rfl⟩:=List.append_of_mem hm
  refine⟨m.v,m.c,mV (a++d),?_,(O m hm).bu (fun _ _ _ _ h=>h),?_⟩
  · refine V.trans ((EI (Ex)).trans ?_)
    exact gO _
  · intro u D G hp am
    refine⟨a++⟨m.b,u,D,G⟩::d,?_,?_,?_,?_,zW h3 u,?_⟩
    · simp[kY,hp]
    · exact(EI (Ex (a:=(⟨m.b,u,D,G⟩:oP)) (l₁:=a) (l₂:=d)).symm)
    · intro q hq
      rcases dP.1 hq with hq|hq
      · exact O q (by simp[hq])
      · rcases ei.1 hq with rfl|hq
        · exact am.bu (fun _ _ _ _ h=>h)
        · exact O q (by simp[hq])
    · rw[iH,eR] at h2 ⊢
      have h7:(m.l::((a.map (·.l))++d.map (·.l))).Perm ns:=(List.perm_middle.symm).trans h2
      have h8:gi ns u.af=gi ns m.l.af:=by rw[hp]
      have h9:((a.map (·.l))++d.map (·.l)).Perm (gi ns m.l.af):=by
        have J:=h7.filter fun n=>!decide (n.af=m.l.af)
        rw[jK] at J
        simp only[wq,nk,gA,dV] at J
        have h11:(((a.map (·.l))++d.map (·.l)).filter fun n=>!decide (n.af=m.l.af))=(a.map (·.l))++d.map (·.l):=by
          rw[mJ]
          intro n I
          have U:((m.l::((a.map (·.l))++d.map (·.l))).map (fun n:ag=>n.af)).Nodup:=(h7.map (fun n:ag=>n.af)).nodup_iff.2 h3.nodup
          rw[eR] at U
          have:=(qK.1 U).1
          simp only[gN,jb]
          exact fun e=>this (e▸de.2 ⟨n,I,rfl⟩)
        rw[h11] at J
        exact J
      refine(Ex).trans (((h9.cons u).trans ?_))
      have:=(qc ns u).symm
      rwa[h8] at this
    · intro n I
      rcases ei.1 ((qc ns u).mem_iff.1 I) with rfl|I
      · rw[hp];exact h4 m.l (h2.mem_iff.1 (by simp))
      · exact h4 n (fB.1 I).1
theorem I1 {h0:ax} {g0:GH} {S0:Nat→Prop} {L:List ay} {h:ax} {C:ay} {u b0 D b:Nat} {l:ag} {T:TypeId} (s:St h0 g0 S0 g (C::L) h) (h1:(u,Obj.cells #[.map (some b0)] T (0,0))∈C) (h2:(b0,Obj.map es bf)∈C)
    (h3:dy g C u=some (.cells #[.map (some D)] T (0,0))) (h4:Ad (dy g C) D l b):∃e∈es.toList,e.key=encS l.af∧e.val=.pointer (some ⟨b,0,none⟩):=by
  have h5:=oK (g:=g) s.p9 h1
  rw[h3] at h5
  simp only[fu,Obj.cells.injEq,and_true,Array.mk.injEq,xp,Value.map.injEq] at h5
  subst h5
  obtain⟨G,I,h6,h7⟩:=h4
  have h8:=oK (g:=g) s.p9 h2
  rw[h6] at h8
  simp only[fu,Obj.map.injEq] at h8
  obtain⟨rfl,_⟩:=h8
  exact h7
end
theorem Pp (B:World) (h:ax) (g:GH) (hg:bl g h) (am:bq g):
  aE prog B 73 #[] h g [] (fun I g' L'=>∃b0 G,I=vP b0∧gD g' b0 ([]:gx) G∧g'=g∧L'=[G]):=by
 refine aE.aq func73 fun R hR=>?_
 have J:=St.init hg
 refine At.go 1 1 [] ?_
 refine At.rg 4 ?_
 refine Op.makeMap (mt:=200) (dst:=1) (by kernel_rfl) J fun u ar O=>?_
 have U:cZ encI #[] 0 ([]:List (Int×Value)):=cZ.empty _ _
 have V:ga (qU g) [] ([]:List (Int×dL)):=ga.nil
 refine Op.px 1 [(2,.agg #[.map (some u)])] ?_
 refine Op.bx 3 202 2 #[.map (some u)] O fun D aw X=>?_
 refine Op.pg 2 [(0,vP D)] ?_
 have Y:jB g u ([]:List (Int×dL)) [(u,.map #[] 0)]:=⟨_,_,_,rfl,U,V⟩
 obtain⟨ab,ad,ae⟩:=St.bJ (Q:=gD g D ([]:List (Int×dL))) 2 X ⟨_,_,rfl,Y⟩
 exact At.rt (vP D) (hR ae ⟨D,ab,rfl,ad.eq (by rfl),rfl,rfl⟩)
theorem Pq (B:World) (h:ax) (g:GH) (hg:bl g h) (J:bq g) (s:dL):
  aE prog B 153 #[.agg #[vI s.Client,vI s.aF,vI s.cC]] h g [] (fun G g' L'=>G=.bool (iQ s)∧g'=g∧L'=[]):=by
 refine aE.aq func153 fun R hR=>?_
 have I:=St.init hg
 refine At.rg 2 ?_
 refine Op.bx 1 85 0 #[vI s.Client,vI s.aF,vI s.cC] I fun D O u=>?_
 refine Op.pg 1 [] ?_
 refine At.rp 29 1 [(3,vP D)] ?_
 refine Op.l1 3 3 4 0 (vI s.Client) (u.ah 0 rfl) ?_
 refine Op.px 2 [(6,.bool (decide (s.Client≥0)))] ?_
 refine Op.wd (s.Client≥0) 6 (fun U=>?_) fun V=>?_
 ·refine Op.px 1 [(7,vP D)] ?_
  refine Op.l1 3 7 8 0 (vI s.Client) (u.ah 0 rfl) ?_
  refine Op.px 3 [(11,.bool (decide (s.Client<8)))] ?_
  refine Op.wd (s.Client<8) 11 (fun X=>?_) fun Y=>?_
  ·refine Op.px 1 [(12,vQ D 1)] ?_
   refine Op.l1 3 12 13 1 (vI s.aF) (u.ah 0 rfl) ?_
   refine Op.px 3 [(16,.bool (decide (s.aF≥1)))] ?_
   refine Op.wd (s.aF≥1) 16 (fun ab=>?_) fun ad=>?_
   ·refine Op.px 1 [(17,vQ D 1)] ?_
    refine Op.l1 3 17 18 1 (vI s.aF) (u.ah 0 rfl) ?_
    refine Op.px 3 [(21,.bool (decide (s.aF≤1000000)))] ?_
    refine Op.wd (s.aF≤1000000) 21 (fun ae=>?_) fun am=>?_
    ·refine Op.px 1 [(22,vQ D 2)] ?_
     refine Op.l1 3 22 23 2 (vI s.cC) (u.ah 0 rfl) ?_
     refine Op.px 3 [(26,.bool (decide (s.cC≥0)))] ?_
     refine Op.wd (s.cC≥0) 26 (fun ar=>?_) fun aw=>?_
     ·refine Op.px 1 [(27,vQ D 2)] ?_
      refine Op.l1 3 27 28 2 (vI s.cC) (u.ah 0 rfl) ?_
      exact Op.pr 2 2 (.bool (decide (s.cC<1099511627776))) (hR u.drop ⟨(aS (by(simp[iQ, *];done))),rfl,rfl⟩)
     exact Op.pr 2 2 (.bool false) (hR u.drop ⟨(aS (by(simp[iQ, *];done))),rfl,rfl⟩)
    exact Op.pr 2 2 (.bool false) (hR u.drop ⟨(aS (by(simp[iQ, *];done))),rfl,rfl⟩)
   exact Op.pr 2 2 (.bool false) (hR u.drop ⟨(aS (by(simp[iQ, *];done))),rfl,rfl⟩)
  exact Op.pr 2 2 (.bool false) (hR u.drop ⟨(aS (by(simp[iQ, *];done))),rfl,rfl⟩)
 exact Op.pr 2 2 (.bool false) (hR u.drop ⟨(aS (by(simp[iQ, *];done))),rfl,rfl⟩)
theorem Pr (B:World) (h:ax) (g:GH) (hg:bl g h) (bt:bq g) (D:Nat) (b:gx) (I:ay) (ab:gD g D b I) (client:Int) (hs:St h g (aV [I]) g [I] h):
  aE prog B 173 #[vP D,vI client] h g [I] (fun ad g' L'=>∃V,ad=.bool ((bV b client).isSome)∧gD g' D b V∧g'=g∧L'=[V]):=by
 refine aE.aq func173 fun R hR=>?_
 refine At.go 1 1 [] ?_
 refine At.rp 12 3 [(10,vP D)] ?_
 obtain⟨u,ae,am,ar⟩:=ab
 have G:=St.un [ae] am hs
 refine Op.l1 200 10 11 0 (.map (some u)) (G.ah 0 rfl) ?_
 refine Op.px 1 [(12,vI client)] ?_
 obtain⟨X,Y,b3,rfl,J,O⟩:=ar
 rcases O.iB client with ⟨U,aw⟩|⟨b4,a31,U,aw,a0⟩
 ·refine Op.uH (ok:=true) (d:=.int .i64) (mt:=200) (x:=11) (ix:=12) (dst:=13) (k:=client) (m:=u) (z:=.agg #[vI 0,vI 0,vI 0]) (by kernel_rfl) (by kernel_rfl) mc (by kernel_rfl) (by kernel_rfl) (G.ah 1 rfl) J U ?_
  refine Op.px 3 [(14,.agg #[vI 0,vI 0,vI 0]),(15,.bool false)] ?_
  refine Op.al 5 85 #[vI 0,vI 0,vI 0] G fun b5 b6 a1=>?_
  refine Op.sg 85 5 14 0 0 #[vI 0,vI 0,vI 0] a1 (fun _=>trivial) fun b8 a3=>?_
  refine Op.pg 2 [(6,.bool false)] ?_
  refine At.go 3 2 [(4,.bool false)] ?_
  have a4:jB g u b [(u,.map X Y)]:=⟨_,_,_,rfl,J,O⟩
  have a5:=((a3.aa 0 rfl).aa 2 rfl).aa 2 rfl
  obtain⟨a6,a7,a8⟩:=St.bJ (Q:=gD g D b) 2 a5 ⟨_,_,rfl,a4⟩
  refine At.rt (.bool false) ?_
  have a9:=(a8.aa 0 rfl).aa 1 rfl
  exact hR a9.drop ⟨a6,(aS (by exact Pc ‹_›)),a7.eq (by rfl),rfl,rfl⟩
 obtain rfl:=a0
 refine Op.qM (ok:=true) (d:=.int .i64) (mt:=200) (x:=11) (ix:=12) (dst:=13) (k:=client) (m:=u) (v:=.agg #[vI a31.Client,vI a31.aF,vI a31.cC]) (z:=.agg #[vI 0,vI 0,vI 0]) (by kernel_rfl) (by kernel_rfl) mc (by kernel_rfl) (by kernel_rfl) (G.ah 1 rfl) J U ?_
 refine Op.px 3 [(14,.agg #[vI a31.Client,vI a31.aF,vI a31.cC]),(15,.bool true)] ?_
 refine Op.al 5 85 #[vI 0,vI 0,vI 0] G fun ca cb bc=>?_
 refine Op.sg 85 5 14 0 0 #[vI a31.Client,vI a31.aF,vI a31.cC] bc (fun _=>trivial) fun ce bd=>?_
 refine Op.pg 2 [(6,.bool true)] ?_
 refine At.go 3 2 [(4,.bool true)] ?_
 have be:jB g u b [(u,.map X Y)]:=⟨_,_,_,rfl,J,O⟩
 have bi:=((bd.aa 0 rfl).aa 2 rfl).aa 2 rfl
 obtain⟨bj,bk,bm⟩:=St.bJ (Q:=gD g D b) 2 bi ⟨_,_,rfl,be⟩
 refine At.rt (.bool true) ?_
 have bo:=(bm.aa 0 rfl).aa 1 rfl
 exact hR bo.drop ⟨bj,(aS (by exact Pb ‹_›)),bk.eq (by rfl),rfl,rfl⟩
theorem Pt (B:World) (h:ax) (g:GH) (hg:bl g h) (U:bq g) (u:Nat) (b:gx) (D:ay) (V:gD g u b D) (client:Int) (dD:Int) (cD:Int) (hs:St h g (aV [D]) g [D] h):
  aE prog B 123 #[vP u,vI client,vI dD,vI cD] h g [D] (fun ar g' L'=>∃X,ar=.int .i64 (k9 b client dD cD)∧gD g' u (lB b client dD cD) X∧g'=g∧L'=[X]):=by
 refine aE.aq func123 fun R hR=>?_
 refine At.go 1 1 [] ?_
 refine At.rp 6 4 [(13,.agg #[vI client,vI dD,vI cD])] ?_
 refine Op.al 9 85 #[vI 0,vI 0,vI 0] hs fun b4 b5 aw=>?_
 refine Op.sg 85 9 13 0 0 #[vI client,vI dD,vI cD] aw (fun _=>trivial) fun b6 G=>?_
 refine Op.gt 2 ?_
 refine At.rg 4 ?_
 refine Op.la 85 9 15 0 3 [vI client,vI dD,vI cD] (G.ah 0 rfl) ?_
 refine Op.c1 16 (Pq _ _ _ G.sub U (⟨client,dD,cD⟩:dL)) G fun b8 Y=>?_
 refine Op.pg 3 [(14,.bool (!(iQ (⟨client,dD,cD⟩:dL))))] ?_
 refine At.di (!(iQ (⟨client,dD,cD⟩:dL))) 14 4 6 (fun ab=>?_) fun ad=>?_
 ·replace ab:=(dG ab)
  exact At.gr 5 1 8 (vI 120) (hR Y.drop ⟨D,(bB (by exact(IT ‹_›).1.symm)),V.eq (by exact(IT ‹_›).2.symm),rfl,rfl⟩)
 replace ad:=(dH ad)
 refine At.rp 4 2 [(19,vP u),(20,vI client)] ?_
 have I:=(Y.aa 0 rfl).aa 1 rfl
 refine Op.cl (some 21) 1 I (Pr _ _ _ I.sub U u b _ V client (St.pt 1 I)) ?_
 rintro _ a0 _ ca a1 ae ⟨a3,rfl,am,cb,rfl⟩;subst a0;clear a1
 refine Op.pg 7 [(18,.bool ((bV b client).isSome))] ?_
 refine At.di ((bV b client).isSome) 18 8 10 (fun ce=>?_) fun cf=>?_
 ·refine At.go 5 1 [(8,vI 101)] ?_
  refine At.rt (vI 101) ?_
  have a4:=(ae.aa 0 rfl).aa 1 rfl
  exact hR a4.drop ⟨a3,(bB (by exact(IU ‹_› ‹_›).1.symm)),am.eq (by exact(IU ‹_› ‹_›).2.symm),rfl,rfl⟩
 obtain⟨J,a5,a6,a7⟩:=am
 have O:=St.un [a5] a6 ae
 refine At.dw (fun _=>False) [(0,true),(1,true),(2,true),(4,true),(3,true),(5,false),(1006,false),(6,false)] ?_
 refine Op.px 4 [(24,vP u),(26,vI client)] ?_
 refine Op.lf 200 24 0 25 1 (.map (some J)) (fun h=>h) (O.ah 0 rfl) ?_
 refine Op.la 85 9 27 0 3 [vI client,vI dD,vI cD] (O.ah 2 rfl) ?_
 refine Op.ba ?_
 obtain⟨ch,ci,ck,rfl,a8,a9⟩:=a7
 refine Op.ms (.agg #[vI 0,vI 0,vI 0]) 200 25 26 27 client (.agg #[vI client,vI dD,vI cD]) O 1 a8 fun bc bd co be bi=>?_
 have bj:=ga.p5 (k:=client) (a:=(⟨client,dD,cD⟩:dL)) (v:=.agg #[vI client,vI dD,vI cD]) a9 rfl
 refine Op.gt 11 ?_
 refine At.go 12 1 [(8,vI 0)] ?_
 have bk:jB g J (dJ b client (⟨client,dD,cD⟩:dL)) [(J,.map bc bd)]:=⟨_,_,_,rfl,be,bj⟩
 obtain⟨bm,bo,bt⟩:=St.bJ (Q:=gD g u (dJ b client (⟨client,dD,cD⟩:dL))) 2 bi ⟨_,_,rfl,bk⟩
 refine At.rt (vI 0) ?_
 have b3:=(bt.aa 0 rfl).aa 1 rfl
 exact hR b3.drop ⟨bm,(bB (by exact(EG ‹_› ‹_›).1.symm)),bo.eq (by exact(EG ‹_› ‹_›).2.symm),rfl,rfl⟩
theorem touchF (B:World) (h:ax) (g:GH) (hg:bl g h) (c9:bq g) (D:Nat) (b:gx) (O:ay) (am:gD g D b O) (client:Int) (cD:Int) (hs:St h g (aV [O]) g [O] h):
  aE prog B 124 #[vP D,vI client,vI cD] h g [O] (fun ar g' L'=>∃ad,ar=.int .i64 (touchE b client cD)∧gD g' D (touchB b client cD) ad∧g'=g∧L'=[ad]):=by
 refine aE.aq func124 fun R hR=>?_
 refine At.go 1 1 [] ?_
 refine At.rp 12 3 [(12,vP D)] ?_
 obtain⟨u,aw,a0,a1⟩:=am
 have I:=St.un [aw] a0 hs
 refine Op.l1 200 12 13 0 (.map (some u)) (I.ah 0 rfl) ?_
 refine Op.px 1 [(14,vI client)] ?_
 obtain⟨V,X,da,rfl,G,J⟩:=a1
 rcases J.iB client with ⟨Y,a3⟩|⟨db,a31,Y,a3,a4⟩
 ·refine Op.uH (ok:=true) (d:=.int .i64) (mt:=200) (x:=13) (ix:=14) (dst:=15) (k:=client) (m:=u) (z:=.agg #[vI 0,vI 0,vI 0]) (by kernel_rfl) (by kernel_rfl) mc (by kernel_rfl) (by kernel_rfl) (I.ah 1 rfl) G Y ?_
  refine Op.px 3 [(16,.agg #[vI 0,vI 0,vI 0]),(17,.bool false)] ?_
  refine Op.al 7 85 #[vI 0,vI 0,vI 0] I fun dc dd a5=>?_
  refine Op.sg 85 7 16 0 0 #[vI 0,vI 0,vI 0] a5 (fun _=>trivial) fun df a6=>?_
  refine Op.pg 2 [(8,.bool false)] ?_
  refine At.go 3 10 [(27,.bool true)] ?_
  refine At.bW 27 4 ?_
  refine At.go 5 1 [(6,vI 120)] ?_
  have a7:jB g u b [(u,.map V X)]:=⟨_,_,_,rfl,G,J⟩
  have a8:=((a6.aa 0 rfl).aa 2 rfl).aa 2 rfl
  obtain⟨a9,bc,bd⟩:=St.bJ (Q:=gD g D b) 2 a8 ⟨_,_,rfl,a7⟩
  refine At.rt (vI 120) ?_
  have be:=(bd.aa 0 rfl).aa 1 rfl
  exact hR be.drop ⟨a9,(bB (by exact(touch_1 ‹_›).1.symm)),bc.eq (by exact(touch_1 ‹_›).2.symm),rfl,rfl⟩
 obtain rfl:=a4
 refine Op.qM (ok:=true) (d:=.int .i64) (mt:=200) (x:=13) (ix:=14) (dst:=15) (k:=client) (m:=u) (v:=.agg #[vI a31.Client,vI a31.aF,vI a31.cC]) (z:=.agg #[vI 0,vI 0,vI 0]) (by kernel_rfl) (by kernel_rfl) mc (by kernel_rfl) (by kernel_rfl) (I.ah 1 rfl) G Y ?_
 refine Op.px 3 [(16,.agg #[vI a31.Client,vI a31.aF,vI a31.cC]),(17,.bool true)] ?_
 refine Op.al 7 85 #[vI 0,vI 0,vI 0] I fun ae dg bi=>?_
 refine Op.sg 85 7 16 0 0 #[vI a31.Client,vI a31.aF,vI a31.cC] bi (fun _=>trivial) fun dj U=>?_
 refine Op.pg 2 [(8,.bool true)] ?_
 refine At.rp 10 7 [(24,.bool (decide (cD<0)))] ?_
 refine Op.wd (cD<0) 24 (fun dk=>?_) fun dl=>?_
 ·refine Op.pg 3 [(27,.bool true)] ?_
  refine At.bW 27 4 ?_
  refine At.go 5 1 [(6,vI 120)] ?_
  have bj:jB g u b [(u,.map V X)]:=⟨_,_,_,rfl,G,J⟩
  have bk:=((U.aa 0 rfl).aa 2 rfl).aa 2 rfl
  obtain⟨bm,bo,bt⟩:=St.bJ (Q:=gD g D b) 2 bk ⟨_,_,rfl,bj⟩
  refine At.rt (vI 120) ?_
  have b3:=(bt.aa 0 rfl).aa 1 rfl
  exact hR b3.drop ⟨bm,(bB (by exact(touch_2 ‹_› (by omega)).1.symm)),bo.eq (by exact(touch_2 ‹_› (by omega)).2.symm),rfl,rfl⟩
 refine Op.pg 3 [(27,.bool (decide (cD≥1099511627776)))] ?_
 refine At.fd (cD≥1099511627776) 27 4 6 (fun dp=>?_) fun dq=>?_
 ·refine At.go 5 1 [(6,vI 120)] ?_
  have b4:jB g u b [(u,.map V X)]:=⟨_,_,_,rfl,G,J⟩
  have b5:=((U.aa 0 rfl).aa 2 rfl).aa 2 rfl
  obtain⟨b6,b8,ca⟩:=St.bJ (Q:=gD g D b) 2 b5 ⟨_,_,rfl,b4⟩
  refine At.rt (vI 120) ?_
  have cb:=(ca.aa 0 rfl).aa 1 rfl
  exact hR cb.drop ⟨b6,(bB (by exact(touch_2 ‹_› (by omega)).1.symm)),b8.eq (by exact(touch_2 ‹_› (by omega)).2.symm),rfl,rfl⟩
 refine At.rp 6 1 [(28,vQ ae 2)] ?_
 refine Op.l1 3 28 29 2 (vI a31.cC) (U.ah 0 rfl) ?_
 refine Op.px 1 [(30,vI cD)] ?_
 refine Op.vl 31 (.int .i64 (if cD>a31.cC then cD else a31.cC)) (.int .i64 (max a31.cC cD)) (xY _ _) ?_
 refine Op.px 1 [(32,vQ ae 2)] ?_
 refine Op.s1 3 32 31 2 (vI (max a31.cC cD)) 0 #[vI a31.Client,vI a31.aF,vI (max a31.cC cD)] U (fun _=>trivial) fun du ab=>?_
 refine Op.gt 7 ?_
 refine At.dw (fun _=>False) [(0,true),(1,true),(2,true),(4,true),(3,true),(5,false),(1006,false),(6,false)] ?_
 refine Op.px 4 [(35,vP D),(37,vI client)] ?_
 refine Op.lf 200 35 0 36 1 (.map (some u)) (fun h=>h) (ab.ah 1 rfl) ?_
 refine Op.la 85 7 38 0 3 [vI a31.Client,vI a31.aF,vI (max a31.cC cD)] (ab.ah 0 rfl) ?_
 refine Op.ba ?_
 refine Op.ms (.agg #[vI 0,vI 0,vI 0]) 200 36 37 38 client (.agg #[vI a31.Client,vI a31.aF,vI (max a31.cC cD)]) ab 2 G fun ce cf dv ch ci=>?_
 have ck:=ga.p5 (k:=client) (a:=(⟨a31.Client,a31.aF,(max a31.cC cD)⟩:dL)) (v:=.agg #[vI a31.Client,vI a31.aF,vI (max a31.cC cD)]) J rfl
 refine Op.gt 8 ?_
 refine At.go 9 1 [(6,vI 0)] ?_
 have co:jB g u (dJ b client (⟨a31.Client,a31.aF,(max a31.cC cD)⟩:dL)) [(u,.map ce cf)]:=⟨_,_,_,rfl,ch,ck⟩
 have c3:=((ci.aa 0 rfl).aa 2 rfl).aa 2 rfl
 obtain⟨c4,c5,c6⟩:=St.bJ (Q:=gD g D (dJ b client (⟨a31.Client,a31.aF,(max a31.cC cD)⟩:dL))) 2 c3 ⟨_,_,rfl,co⟩
 refine At.rt (vI 0) ?_
 have c8:=(c6.aa 0 rfl).aa 1 rfl
 exact hR c8.drop ⟨c4,(bB (by exact(touch_3 ‹_› ‹_› ‹_›).1.symm)),c5.eq (by exact(touch_3 ‹_› ‹_› ‹_›).2.symm),rfl,rfl⟩
theorem Pu (B:World) (h:ax) (g:GH) (hg:bl g h) (ar:bq g) (client:Int) (s:dL) (D:Nat) (G:Array Value) (cw:dL→Bool) (aw:fc prog D) (a0:qL prog g D G (fun x:dL=>.agg #[.int .i64 x.Client,.int .i64 x.aF,.int .i64 x.cC]) (fun s=>iQ s=true) cw) (O:Nat) (a1:g O=some (.cells #[.func (.func D) #[] G] 208 (0,0))) (I:Nat) (out:List Int) (u:ay) (U:qV g I out u) (h1:out.length≤1000000) (hok:iQ s=true) (hs:St h g (aV [u]) g [u] h):
  aE prog B 172 #[vI client,.agg #[vI s.Client,vI s.aF,vI s.cC],vP O,vP I] h g [u] (fun a3 g' L'=>∃V,a3=.bool (cw s)∧qV g' I (if cw s=true then out++[client] else out) V∧g'=g∧L'=[V]):=by
 refine aE.aq func172 fun R hR=>?_
 refine At.rg 2 ?_
 refine Op.bx 5 85 1 #[vI s.Client,vI s.aF,vI s.cC] hs fun a4 b3 J=>?_
 refine Op.pg 1 [] ?_
 refine At.rg 4 ?_
 refine Op.l1 208 2 8 0 (.func (.func D) #[] G) (J.sub _ _ a1) ?_
 refine Op.la 85 5 9 0 3 [vI s.Client,vI s.aF,vI s.cC] (J.ah 0 rfl) ?_
 refine Op.cv (some 10) 8 #[9] #[85] D #[] G [] [[(a4,Obj.cells #[vI s.Client,vI s.aF,vI s.cC] 85 (0,0))],u] ((#[.agg #[vI s.Client,vI s.aF,vI s.cC]]:Array Value)++G) aw (GB (by kernel_rfl)) J (a0 _ _ _ (aM.refl _) J.sub ar s (by(try dsimp only)<;>omega)) (fun _ _ h=>absurd h (dB _)) ?_
 rintro _ a5 _ b4 a6 X ⟨rfl,b5,rfl⟩;subst a5;clear a6
 refine Op.pg 2 [(7,.bool (cw s))] ?_
 refine At.go 3 1 [(11,.bool (cw s))] ?_
 refine At.di (cw s) 11 4 5 (fun b6=>?_) fun b8=>?_
 ·refine At.rg 5 ?_
  obtain⟨ca,a7,a8,Y⟩:=U
  obtain⟨a9,bc,rfl⟩:=Y.aj
  have bd:=(X.aa 0 rfl).aa 1 rfl
  have ab:=St.un [a7] a8 bd
  refine Op.l1 117 3 12 0 (vL a9 out.length bc) (ab.ah 0 rfl) ?_
  refine Op.px 1 [(13,vI client)] ?_
  refine Op.ls 14 1 3 #[vI client] ab fun cb ce ad=>?_
  refine Op.ap 12 14 117 117 15 3 8 (fh .i64) (ys:=[client]) Y ad 2 (⟨_,_,rfl,rfl,Reads.nil⟩) (by(simp only[bY,dU];omega)) (fun _ _ _=>trivial) (eT.lit (m:=1) (sz:=1) (ad.ah 0 rfl) (news:=[vI client]) rfl rfl (by simp[Value.oneCell']) _) fun cf ch ci ae be ck=>?_
  obtain⟨a46,am,rfl⟩:=ae.aj
  have bi:=(be.aa 0 rfl).drop
  refine Op.s1 117 3 15 0 (vL a46 ((out++([client])).length) am) 0 #[vL a46 ((out++([client])).length) am] bi (fun _=>trivial) fun co bj=>?_
  refine Op.gt 5 ?_
  refine At.go 6 2 [(6,.bool (cw s))] ?_
  obtain⟨bk,bm,bo⟩:=St.bJ (Q:=qV g I (out++([client]))) 2 bj ⟨_,_,rfl,ae⟩
  refine At.rt (.bool (cw s)) ?_
  have bt:=(bo.aa 0 rfl).aa 1 rfl
  exact hR bt.drop ⟨bk,(aS (by rfl)),bm.eq (by(rw[aO ‹_›];done)),rfl,rfl⟩
 exact At.gr 6 2 6 (.bool (cw s)) (hR X.drop ⟨u,(aS (by rfl)),U.eq (by(rw[aC (kH.1 ‹_›)];done)),rfl,rfl⟩)
theorem Pv (B:World) (h:ax) (g:GH) (hg:bl g h) (ce:bq g) (D:Nat) (mp:List (Int×dL)) (ae:ay) (cf:jB g D mp ae) (a1:Nat) (a4:Array Value) (cw:dL→Bool) (ch:fc prog a1) (ci:qL prog g a1 a4 (fun x:dL=>.agg #[.int .i64 x.Client,.int .i64 x.aF,.int .i64 x.cC]) (fun s=>iQ s=true) cw) (V:Nat) (ck:g V=some (.cells #[.func (.func a1) #[] a4] 208 (0,0))) (I:Nat) (out:List Int) (am:ay) (co:qV g I out am) (hB:gS mp) (h0:out=[]) (hs:St h g (aV [ae,am]) g [ae,am] h):
  aE prog B 171 #[.map (some D),.func (.func 172) #[] #[vP V,vP I]] h g [ae,am] (fun c3 g' L'=>∃bj bk bm,c3=.tuple #[]∧jB g' D (ia cw mp) bj∧bk.Perm (gq cw mp)∧qV g' I bk bm∧g'=g∧L'=[bj,bm]):=by
 refine aE.aq func171 fun R hR=>?_
 refine At.rp 2 1 [(6,.map (some D))] ?_
 obtain⟨c4,Y,bo,c5,a5,c6⟩:=cf
 have bt:=St.un [] c5 hs
 refine Op.wz (d:=.int .i64) (z:=.agg #[vI 0,vI 0,vI 0]) (mt:=200) (x:=6) (dst:=7) (m:=D) (by kernel_rfl) (by kernel_rfl) (by kernel_rfl) (bt.ah 0 rfl) a5 bt fun ar c8 d1 a6 c9=>?_
 replace a6:=a6.toD a5
 refine Op.gt 1 ?_
 have da:∀(m:Nat) (x1:gx) (o2:List Int) (J:Array MapEntry) (X:List (Int×Value)) (aw:List (Int×Value)) (a7:Obj) (a0:ay) (a8:ax) (hm:aw.length<m) (O:nR mp cw x1 aw X o2) (a9:qV g I o2 a0) (ab:cZ encI J Y X) (ad:ga (qU g) X x1) (b3:kK encI J Y D aw none a7) (a3:St h g (aV [ae,am]) g [[(ar,a7)],[(D,.map J Y)],a0] a8),At (bX prog B 171 f171 R) [] 1 [(0,.map (some D)),(1,.func (.func 172) #[] #[vP V,vP I]),(7,vP ar)] a8:=by
  intro m;induction m with
  |zero=>intros;omega
  |succ m b4=>
   intro x1 o2 J X aw a7 a0 a8 hm O a9 ab ad b3 a3
   refine At.rg 2 ?_
   refine Op.IX (x:=7) (dst:=8) (it:=ar) (m:=D) (by kernel_rfl) (by kernel_rfl) (a3.ah 1 rfl) ab b3 a3 0 rfl (fun _=>trivial) ⟨fun U=>?_,fun b5 G db b6 bc d2 U bd be=>?_⟩
   ·refine Op.pg 2 [(9,.bool false)] ?_
    refine At.dK 9 7 ?_
    have dc:jB g D x1 [(D,.map J Y)]:=⟨_,_,_,rfl,ab,ad⟩
    exact At.rt (.tuple #[]) (hR a3.drop ⟨([(D,.map J Y)]:ay),o2,a0,rfl,dc.eq (by exact(O.j9 U).1),(by exact(O.j9 U).2),a9,rfl,rfl⟩)
   have dd:(G,db)∈X:=by exact O.mem U
   obtain⟨u,d3,rfl⟩:=ad.EC ((EB ad.2.1).2 dd)
   refine Op.pg 2 [(9,.bool true)] ?_
   refine At.bW 9 3 ?_
   refine At.rg 6 ?_
   refine Op.IY (x:=7) (dst:=10) (it:=ar) (m:=D) (k:=G) (v:=.agg #[vI u.Client,vI u.aF,vI u.cC]) (by kernel_rfl) (by kernel_rfl) (be.ah 1 rfl) ab bd (be.ah 0 rfl) ?_
   refine Op.px 2 [(11,vI G),(12,.agg #[vI u.Client,vI u.aF,vI u.cC])] ?_
   refine Op.al 5 85 #[vI 0,vI 0,vI 0] be fun df d4 dg=>?_
   refine Op.px 1 [(4,vI G)] ?_
   refine Op.sg 85 5 12 0 0 #[vI u.Client,vI u.aF,vI u.cC] dg (fun _=>trivial) fun d5 b8=>?_
   refine Op.gt 4 ?_
   refine At.rp 4 2 [(13,.func (.func 172) #[] #[vP V,vP I]),(14,vI G)] ?_
   refine Op.la 85 5 15 0 3 [vI u.Client,vI u.aF,vI u.cC] (b8.ah 0 rfl) ?_
   have bi:=(((b8.aa 2 rfl).aa 2 rfl).aa 2 rfl).aa 3 rfl
   refine Op.cv (some 16) 13 #[14,15] #[3,85] 172 #[] #[vP V,vP I] [a0] [[(df,Obj.cells #[vI u.Client,vI u.aF,vI u.cC] 85 (0,0))],[(ar,bc)],[(D,.map J Y)]] #[vI G,.agg #[vI u.Client,vI u.aF,vI u.cC],vP V,vP I] (fc.of (by kernel_rfl)) (by kernel_rfl) bi (Pu _ _ _ bi.sub ce G u a1 a4 cw ch ci V ck I o2 _ a9 (by((try dsimp only)<;>((have h1:=O.2.2.2.length_eq;have h2:=hB.len;have h3:=l7 (fun p=>!k_ aw p.1&&cw p.2) mp;rw[d_] at h1;omega)))) (by((try dsimp only)<;>(exact(hB.find ((jR hB.1).2 (O.EF hB.1 ‹_›))).2))) (St.pt 1 bi)) (fun _ _ _=>trivial) ?_
   rintro _ dj _ d6 dk ca ⟨d7,rfl,cb,d8,rfl⟩;subst dj;clear dk
   refine Op.gt 5 ?_
   refine At.di (cw u) 16 6 1 (fun d9=>?_) fun ed=>?_
   ·refine At.rp 3 2 [(17,.map (some D)),(18,vI G)] ?_
    refine Op.Pj (d:=.int .i64) (z:=.agg #[vI 0,vI 0,vI 0]) (mt:=200) (kt:=3) (x:=17) (ix:=18) (dst:=none) (k:=G) (v:=.agg #[vI u.Client,vI u.aF,vI u.cC]) (by kernel_rfl) (by kernel_rfl) mc (by kernel_rfl) (by kernel_rfl) ca 3 rfl ab bd (fun _=>trivial) fun dl ee dp dq du=>?_
    have dv:=ad.oS G
    refine Op.gt 1 ?_
    have dC:=(((du.aa 0 rfl).aa 3 rfl).aa 3 rfl).aa 3 rfl
    have dE:=dC.drop
    exact At.ke (b4 (eF x1 G) (if cw u=true then o2++[G] else o2) dl (kJ X G) (b5++b6) bc _ _ (by(have hz:=congrArg List.length U;simp only[cA,bY] at hz ⊢;omega)) (by(rw[aO ‹_›];exact O.hit hB.1 U ‹_› ‹_›)) cb dp dv dq dE)
   have dT:=(((ca.aa 0 rfl).aa 3 rfl).aa 3 rfl).aa 3 rfl
   have d0:=dT.drop
   exact At.ke (b4 x1 (if cw u=true then o2++[G] else o2) J X (b5++b6) bc _ _ (by(have hz:=congrArg List.length U;simp only[cA,bY] at hz ⊢;omega)) (by(rw[aC (kH.1 ‹_›)];exact O.jJ hB.1 U ‹_› ‹_›)) cb ab ad bd.B4 d0)
 exact At.ke (da _ mp out c4 bo bo c8 _ _ (bM _) (by(subst h0;exact O_ ‹_›)) co a5 c6 a6 c9)
theorem I2 (B:World) (h:ax) (g:GH) (hg:bl g h) (X:bq g) (G:Nat) (b:gx) (U:ay) (be:gD g G b U) (u:Nat) (I:Array Value) (cw:dL→Bool) (bi:fc prog u) (Y:qL prog g u I (fun x:dL=>.agg #[.int .i64 x.Client,.int .i64 x.aF,.int .i64 x.cC]) (fun s=>iQ s=true) cw) (hB:gS b) (hs:St h g (aV [U]) g [U] h):
  aE prog B 121 #[vP G,.func (.func u) #[] I] h g [U] (fun bj g' L'=>∃v0 a3 a4,bj=v0∧aJ 3 (fh .i64) g' v0 (gq cw b) a3∧gD g' G (ia cw b) a4∧g'=g∧L'=[a4,a3]):=by
 refine aE.aq func121 fun R hR=>?_
 refine At.rg 2 ?_
 refine Op.bx 3 208 1 #[.func (.func u) #[] I] hs fun ab dd bk=>?_
 refine Op.pg 1 [] ?_
 refine At.rg 1 ?_
 refine Op.al 5 117 #[vN] bk fun ad df bm=>?_
 refine Op.gt 2 ?_
 refine At.rp 6 3 [(8,vP G)] ?_
 obtain⟨a5,bo,bt,ae⟩:=be
 have b3:=((bm.aa 1 rfl).aa 1 rfl).aa 2 rfl
 have a6:=St.un [bo] bt b3
 refine Op.l1 200 8 9 0 (.map (some a5)) (a6.ah 0 rfl) ?_
 refine Op.px 1 [(10,.func (.func 172) #[] #[vP ab,vP ad])] ?_
 obtain⟨a7,V⟩:=St.freeze (a6.aa 3 rfl)
 have a8:=iN (g:=g) ab (.cells #[.func (.func u) #[] I] 208 (0,0))
 generalize b4:dy g _=am at a7 V a8;clear b4
 replace ae:=ae.mono V
 replace X:=X.mono V
 replace Y:=Y.mono V
 have b5:=aJ.nil 3 (fh .i64) am
 have b6:=a7.nl
 have b8:=(((b6.aa 2 rfl).aa 2 rfl).aa 2 rfl).aa 3 rfl
 obtain⟨dg,ca,cb⟩:=St.bJ (Q:=qV am ad ([]:List Int)) 2 b8 ⟨_,_,rfl,b5⟩
 have ar:=((cb.aa 1 rfl).aa 1 rfl).aa 2 rfl
 refine Op.cl (some 11) 2 ar (Pv _ _ _ ar.sub X a5 b _ ae u I cw bi Y ab a8 ad ([]:List Int) _ ca (by(try dsimp only)<;>omega) (by((try dsimp only)<;>(first|omega|assumption|rfl|(have h1:=BD ‹_›;have h2:=hB.len;have h3:=l7 (fun p=>cw p.2) b;unfold gq at h1;rw[d_] at h1;omega)))) (St.pt 2 ar)) ?_
 rintro _ ce _ dj cf ch ⟨dk,D,dl,rfl,ci,dp,ck,dq,rfl⟩;subst ce;clear cf
 refine Op.gt 3 ?_
 refine At.rg 2 ?_
 obtain⟨v53,co,c3,a9⟩:=ck
 obtain⟨J,O,rfl⟩:=a9.aj
 have c4:=(ch.aa 0 rfl).aa 1 rfl
 have bc:=St.un [co] c3 c4
 refine Op.l1 117 5 12 0 (vL J D.length O) (bc.ah 0 rfl) ?_
 have aw:=(bc.aa 0 rfl).aa 1 rfl
 refine Op.cl (some 13) 1 aw (IQ _ _ _ aw.sub _ D _ a9 (by(have h1:=BD ‹_›;have h2:=hB.len;have h3:=l7 (fun p=>cw p.2) b;unfold gq at h1;rw[d_] at h1;omega)) (St.pt 1 aw)) ?_
 rintro _ c5 _ du c6 bd ⟨rfl,dv,c8,a0,rfl⟩;subst c5;clear c6
 refine Op.gt 4 ?_
 refine At.rg 2 ?_
 refine Op.l1 117 5 14 0 (vL J D.length O) (bd.ah 1 rfl) ?_
 refine Op.pg 5 [(4,vL J D.length O)] ?_
 have c9:=(((bd.aa 1 rfl).aa 1 rfl).aa 2 rfl).aa 3 rfl
 obtain⟨da,a1,db⟩:=St.bJ (Q:=gD am G (ia cw b)) 2 c9 ⟨_,_,rfl,ci⟩
 refine At.rt (vL J D.length O) ?_
 have dc:=((db.aa 1 rfl).aa 1 rfl).aa 2 rfl
 replace a1:=a1.bu (g':=g)
 replace a0:=a0.bu (fun _ _ _ _ h=>h) (g':=g)
 exact hR dc.drop.jZ ⟨(vL J D.length O),c8,da,rfl,eV a0 (by exact O8 ‹_› (Pa hB.1)),a1.eq (by rfl),rfl,rfl⟩
theorem Pw (B:World) (h:ax) (g:GH) (hg:bl g h) (U:bq g) (s:dL) (cD:Int) (D:Nat) (I:g D=some (.cells #[vI cD] 3 (0,0))) (hok:iQ s=true):
  aE prog B 122 #[.agg #[vI s.Client,vI s.aF,vI s.cC],vP D] h g [] (fun J g' L'=>J=.bool (fA cD s)∧g'=g∧L'=[]):=by
 refine aE.aq func122 fun R hR=>?_
 have O:=St.init hg
 refine At.rg 2 ?_
 refine Op.bx 2 85 0 #[vI s.Client,vI s.aF,vI s.cC] O fun G V u=>?_
 refine Op.pg 1 [] ?_
 refine At.rp 8 1 [(4,vQ G 2)] ?_
 refine Op.l1 3 4 5 2 (vI s.cC) (u.ah 0 rfl) ?_
 refine Op.px 1 [(6,vQ G 1)] ?_
 refine Op.l1 3 6 7 1 (vI s.aF) (u.ah 0 rfl) ?_
 refine Op.cE 8 (s.cC+s.aF) (by(have:=wH hok;omega)) (by(have:=wH hok;omega)) ?_
 refine Op.l1 3 1 9 0 (vI cD) (u.sub _ _ I) ?_
 exact Op.pr 2 3 (.bool (decide ((s.cC+s.aF)≤cD))) (hR u.drop ⟨(aS (by rfl)),rfl,rfl⟩)
theorem Px (B:World) (h:ax) (g:GH) (hg:bl g h) (O:bq g) (u:Nat) (b:gx) (D:ay) (U:gD g u b D) (cD:Int) (hB:gS b) (hs:St h g (aV [D]) g [D] h):
  aE prog B 76 #[vP u,vI cD] h g [D] (fun ar g' L'=>∃v0 ad ae,ar=v0∧aJ 3 (fh .i64) g' v0 (gq (fA cD) b) ad∧gD g' u (ia (fA cD) b) ae∧g'=g∧L'=[ae,ad]):=by
 refine aE.aq func76 fun R hR=>?_
 refine At.rg 2 ?_
 refine Op.bx 3 3 1 #[vI cD] hs fun G a8 aw=>?_
 refine Op.pg 1 [] ?_
 refine At.rp 4 2 [(5,vP u),(6,.func (.func 122) #[] #[vP G])] ?_
 obtain⟨I,V⟩:=St.freeze (aw.aa 0 rfl)
 have am:=iN (g:=g) G (.cells #[vI cD] 3 (0,0))
 generalize a0:dy g _=a9 at I V am;clear a0
 replace O:=O.mono V
 replace U:=U.mono V
 refine Op.cl (some 7) 1 I (I2 _ _ _ I.sub O u b _ U 122 #[vP G] (fun x=>fA cD x) (fc.of (by kernel_rfl)) (fun B h g2 hle hs a1 x hok=>aE.args (by rfl) (Pw B h g2 hs a1 x cD G (hle _ _ am) hok)) (by(try dsimp only)<;>omega) (St.pt 1 I)) ?_
 rintro _ a3 _ bc a4 a5 ⟨bd,a6,a7,rfl,J,X,be,rfl⟩;subst a3;clear a4
 obtain⟨Y,ab,rfl⟩:=J.aj
 refine Op.pg 2 [(4,vL Y (((gq (fun x=>fA cD x) b)).length) ab)] ?_
 refine At.rt (vL Y (((gq (fun x=>fA cD x) b)).length) ab) ?_
 replace X:=X.bu (g':=g)
 replace J:=J.bu (fun _ _ _ _ h=>h) (g':=g)
 exact hR a5.jZ ⟨(vL Y (((gq (fun x=>fA cD x) b)).length) ab),a6,a7,rfl,eV J (by rfl),X.eq (by rfl),rfl,rfl⟩
theorem Py (B:World) (h:ax) (g:GH) (hg:bl g h) (O:bq g) (s:dL) (G:Value) (u:List Int) (I:av g 3 (fh .i64) G u) (J:Nat) (U:g J=some (.cells #[G] 117 (0,0))) (hok:iQ s=true) (hp:u.length≤1000000000):
  aE prog B 165 #[.agg #[vI s.Client,vI s.aF,vI s.cC],vP J] h g [] (fun V g' L'=>V=.bool (qd u s)∧g'=g∧L'=[]):=by
 obtain⟨X,Y,rfl⟩:=I.aj
 refine aE.aq func165 fun R hR=>?_
 have ab:=St.init hg
 refine At.rg 2 ?_
 refine Op.bx 2 85 0 #[vI s.Client,vI s.aF,vI s.cC] ab fun ad am D=>?_
 refine Op.pg 1 [] ?_
 refine At.rg 5 ?_
 refine Op.l1 117 1 4 0 (vL X u.length Y) (D.sub _ _ U) ?_
 refine Op.px 1 [(5,vP ad)] ?_
 refine Op.l1 3 5 6 0 (vI s.Client) (D.ah 0 rfl) ?_
 refine Op.c1 7 (Em _ _ _ D.sub O _ _ I s.Client (by(try dsimp only)<;>omega)) D fun ar ae=>?_
 exact Op.pr 2 3 (.bool (u.any (fun z=>decide (s.Client=z)))) (hR ae.drop ⟨(aS (by rfl)),rfl,rfl⟩)
theorem Pz (B:World) (h:ax) (g:GH) (hg:bl g h) (X:bq g) (D:Nat) (b:gx) (G:ay) (Y:gD g D b G) (am:Value) (u:List Int) (I:av g 3 (fh .i64) am u) (hB:gS b) (hp:u.length≤1000000000) (hs:St h g (aV [G]) g [G] h):
  aE prog B 117 #[vP D,am] h g [G] (fun a4 g' L'=>∃v0 ar aw,a4=v0∧aJ 3 (fh .i64) g' v0 (gq (qd u) b) ar∧gD g' D (ia (qd u) b) aw∧g'=g∧L'=[aw,ar]):=by
 obtain⟨a0,a1,rfl⟩:=I.aj
 refine aE.aq func117 fun R hR=>?_
 refine At.rg 2 ?_
 refine Op.bx 3 117 1 #[vL a0 u.length a1] hs fun J bi a5=>?_
 refine Op.pg 1 [] ?_
 refine At.rp 4 2 [(5,vP D),(6,.func (.func 165) #[] #[vP J])] ?_
 obtain⟨O,U⟩:=St.freeze (a5.aa 0 rfl)
 have a3:=iN (g:=g) J (.cells #[vL a0 u.length a1] 117 (0,0))
 generalize a6:dy g _=bj at O U a3;clear a6
 replace X:=X.mono U
 replace I:=I.mono U
 replace Y:=Y.mono U
 refine Op.cl (some 7) 1 O (I2 _ _ _ O.sub X D b _ Y 165 #[vP J] (fun x=>qd u x) (fc.of (by kernel_rfl)) (fun B h g2 hle hs a7 x hok=>aE.args (by rfl) (Py B h g2 hs a7 x _ _ (I.mono hle) J (hle _ _ a3) hok (by omega))) (by(try dsimp only)<;>omega) (St.pt 1 O)) ?_
 rintro _ a8 _ bk a9 bc ⟨bm,bd,be,rfl,V,ab,bo,rfl⟩;subst a8;clear a9
 obtain⟨ad,ae,rfl⟩:=V.aj
 refine Op.pg 2 [(4,vL ad (((gq (fun x=>qd u x) b)).length) ae)] ?_
 refine At.rt (vL ad (((gq (fun x=>qd u x) b)).length) ae) ?_
 replace ab:=ab.bu (g':=g)
 replace V:=V.bu (fun _ _ _ _ h=>h) (g':=g)
 exact hR bc.jZ ⟨(vL ad (((gq (fun x=>qd u x) b)).length) ae),bd,be,rfl,eV V (by rfl),ab.eq (by rfl),rfl,rfl⟩
theorem B6 (B:World) (h:ax) (g:GH) (hg:bl g h) (bo:bq g) (D:Nat) (b:gx) (U:ay) (bt:gD g D b U) (hB:gS b) (hs:St h g (aV [U]) g [U] h):
  aE prog B 88 #[vP D] h g [U] (fun b3 g' L'=>∃v0 aw a0,b3=v0∧aJ 85 nI g' v0 (b.map (·.2)) aw∧gD g' D b a0∧g'=g∧L'=[a0,aw]):=by
 refine aE.aq func88 fun R hR=>?_
 refine At.go 1 1 [] ?_
 refine At.go 2 1 [(3,vN)] ?_
 refine At.rp 8 3 [(8,vP D)] ?_
 obtain⟨G,b4,b5,a1⟩:=bt
 have a3:=St.un [b4] b5 hs
 refine Op.l1 200 8 9 0 (.map (some G)) (a3.ah 0 rfl) ?_
 have V:=(a3.aa 0 rfl).aa 1 rfl
 have b6:=jB.fY a1 V (fun p hp=>hp)
 have a4:=V.freeze.1
 have a5:=V.freeze.2
 have X:=bo.mono a5
 refine Op.c0 (some 10) (Pm _ _ _ a4.sub X G b b6) a4 ?_
 rintro _ dC _ dE b8 a6 ⟨f32,ca,rfl,cb,ce,rfl⟩
 replace X:=X.mono b8
 refine Op.c0 (some 11) (EH _ _ _ a6.sub X f32 ca (b.map (·.1)) cb ce (by((try dsimp only)<;>((have:=hB.len;simp only[d_];omega))))) a6 ?_
 rintro _ cf _ dT ch ci ⟨d0,ck,rfl,Y,d1,rfl⟩;subst cf;clear ch
 obtain⟨co,a7,rfl⟩:=Y.aj
 have c3:=V.xE (ci.Aj (aM.trans V.le a5) (by repeat (first|assumption|exact aM.refl _|apply aM.trans)))
 replace Y:=Y.bu (fun _ _ _ _ h=>h) (g':=g)
 refine Op.pg 3 [(12,vI ((eH (b.map (·.1))).length:Int)),(13,vI 0)] ?_
 obtain⟨a8,a9,d2,rfl,bc,bd⟩:=a1
 have c4:∀(m:Nat) (out:List dL) (i:Int) (a53:Option Addr) (I:Nat) (ab:ay) (ad:ax) (hm:(eH (b.map (·.1))).length-i.toNat<m) (h0:0≤i) (h1:i≤(eH (b.map (·.1))).length) (ho:out=(b.map (·.2)).take i.toNat) (ae:aJ 85 nI g (.slice a53 out.length I) out ab) (J:St h g (aV [U]) g [ab,[(G,.map a8 a9)],ck,[(D,Obj.cells #[.map (some G)] 202 (0,0))]] ad),At (bX prog B 88 f88 R) [] 3 [(0,vP D),(3,vL a53 out.length I),(11,vL co ((eH (b.map (·.1))).length) a7),(12,vI ((eH (b.map (·.1))).length:Int)),(13,vI i)] ad:=by
  intro m;induction m with
  |zero=>intros;omega
  |succ m c5=>
   intro out i a53 I ab ad hm h0 h1 ho ae J
   refine At.go 4 1 [(14,.bool (decide (i<((eH (b.map (·.1))).length:Int))))] ?_
   refine At.fd (i<((eH (b.map (·.1))).length:Int)) 14 5 8 (fun d3=>?_) fun d4=>?_
   ·refine At.rg 3 ?_
    obtain⟨O,am⟩:=cG (eH (b.map (·.1))) i
    obtain⟨c6,be,d5,d6,c8,c9,ar⟩:=jX.bF (Y.toH J 2 rfl) _ am
    cases c8
    refine Op.iq 117 3 1 8 ((eH (b.map (·.1))).length) a7 11 13 15 c6 be i ?_
    replace ar:cut _ _ _=[vI O]:=ar
    refine Op.l1 3 15 16 (be+i.toNat*1) (vI O) c9 ?_ (hv:=c_ ar 0 rfl)
    refine Op.pg 6 [(5,vI O)] ?_
    refine At.rp 10 4 [(17,vL a53 out.length I),(20,vP D)] ?_
    refine Op.l1 200 20 21 0 (.map (some G)) (J.ah 3 rfl) ?_
    refine Op.px 1 [(22,vI O)] ?_
    rcases bd.iB O with ⟨bi,bj⟩|⟨v70,u,bi,bj,da⟩
    ·exfalso;exact Pe hB.1 am bj
    obtain rfl:=da
    refine Op.mk (.agg #[vI 0,vI 0,vI 0]) 200 21 22 23 O (.agg #[vI u.Client,vI u.aF,vI u.cC]) (J.ah 1 rfl) bc bi ?_
    refine Op.ls 24 1 85 #[vI u.Client,vI u.aF,vI u.cC] J fun d7 d8 bk=>?_
    refine Op.ap 17 24 62 62 25 85 24 nI (ys:=[u]) ae bk 1 (⟨_,_,rfl,rfl,Reads.nil⟩) (by(have h1:=congrArg List.length ho;have h2:=hB.len;simp only[e_,d_,bY,dU] at *;omega)) (fun _ _ _=>trivial) (eT.lit (m:=1) (sz:=3) (bk.ah 0 rfl) (news:=[vI u.Client,vI u.aF,vI u.cC]) rfl rfl (by simp[Value.oneCell']) _) fun d9 ed ee bm db ef=>?_
    obtain⟨dc,dd,rfl⟩:=bm.aj
    have df:=(db.aa 0 rfl).drop
    refine Op.pg 7 [(3,vL dc ((out++([u])).length) dd)] ?_
    refine At.rg 2 ?_
    refine Op.cE 26 (i+1) (by omega) (by(have h2:=hB.len;rw[mG,d_] at *;omega)) ?_
    exact Op.pg 3 [(13,vI (i+1))] (At.ke (c5 (out++([u])) (i+1) _ _ _ _ (by omega) (by omega) (by omega) (by exact Pf hB.1 h0 am ‹_› ho) bm df))
   refine At.go 9 2 [(2,vL a53 out.length I)] ?_
   have dg:jB g G b [(G,.map a8 a9)]:=⟨_,_,_,rfl,bc,bd⟩
   have dj:=(((J.aa 2 rfl).aa 1 rfl).aa 2 rfl).aa 3 rfl
   obtain⟨dk,dl,dp⟩:=St.bJ (Q:=gD g D b) 2 dj ⟨_,_,rfl,dg⟩
   refine At.rt (vL a53 out.length I) ?_
   have dq:=((dp.aa 1 rfl).aa 1 rfl).aa 2 rfl
   exact hR dq.drop ⟨(vL a53 out.length I),ab,dk,rfl,eV ae (by exact Pg ‹_› ho),dl.eq (by rfl),rfl,rfl⟩
 have du:=aJ.zero 85 nI g none
 have dv:=c3.nl
 exact At.ke (c4 _ [] 0 _ _ _ _ (bM _) (by omega) (by omega) (by rfl) du dv)
structure aG where
  Kind:Int
  af:an
  Data:an
  ai:Int
  aF:Int
  aY:Bool
  aI:Bool
  ak:Bool
  az:List aG
def EJ (x:aG) (u D:Value):List Value:=[.int .i64 x.Kind,.string (bp x.af),u,.int .i64 x.ai,.int .i64 x.aF,.bool x.aY,.bool x.aI,.bool x.ak,D]
mutual
def wK (g:GH):aG→List Value→Prop
  |⟨k,p,u,I,sp,b,J,w,ops⟩,cs=>∃D G,av g 5 br D u∧
     (∃ao c,G=.slice ao ops.length c∧ops.length≤c∧(ops≠[]→∃(b:Nat) (o:Nat) (cur:Array Value) (fz:TypeId×Nat×Nat),ao=some ⟨b,o,none⟩∧g b=some (.cells cur fz.1 fz.2)∧qW g ops (cut cur o (ops.length*9))))∧
     cs=EJ ⟨k,p,u,I,sp,b,J,w,ops⟩ D G
def qW (g:GH):List aG→List Value→Prop
  |[],cs=>cs=[]
  |x::xs,cs=>∃c cs',cs=c++cs'∧wK g x c∧qW g xs cs'
end
def EK (g:GH) (u:Value) (ops:List aG):Prop:=∃ao c,u=.slice ao ops.length c∧ops.length≤c∧(ops≠[]→∃(b:Nat) (o:Nat) (cur:Array Value) (fz:TypeId×Nat×Nat),ao=some ⟨b,o,none⟩∧g b=some (.cells cur fz.1 fz.2)∧qW g ops (cut cur o (ops.length*9)))
theorem B7 (g:GH) (x:aG) (cs:List Value):wK g x cs↔∃u D,av g 5 br u x.Data∧EK g D x.az∧cs=EJ x u D:=by
  obtain⟨k,p,G,I,sp,b,J,w,ops⟩:=x
  rw[wK]
  rfl
mutual
theorem I3 {g g':GH} (hg:aM g g'):∀(x:aG) (cs:List Value),wK g x cs→wK g' x cs
  |⟨k,p,G,I,sp,b,J,w,ops⟩,cs,h=>by
   rw[wK] at h ⊢
   obtain⟨u,D,h1,⟨ao,c,h2,h3,h4⟩,h5⟩:=h
   exact⟨u,D,h1.mono hg,⟨ao,c,h2,h3,fun hn=>by
     obtain⟨b,o,cur,fz,e1,e2,e3⟩:=h4 hn
     exact⟨b,o,cur,fz,e1,hg _ _ e2,I4 hg ops _ e3⟩⟩,h5⟩
theorem I4 {g g':GH} (hg:aM g g'):∀(xs:List aG) (cs:List Value),qW g xs cs→qW g' xs cs
  |[],cs,h=>by rw[qW] at h ⊢;exact h
  |x::xs,cs,h=>by
   rw[qW] at h ⊢
   obtain⟨c,cs',h1,h2,h3⟩:=h
   exact⟨c,cs',h1,I3 hg x c h2,I4 hg xs cs' h3⟩
end
def oU:aG:=⟨0,[],[],0,0,false,false,false,[]⟩
def ek:Kd aG where
  sz:=9
  K:=wK
  len h:=by obtain⟨u,D,_,_,rfl⟩:=(B7 _ _ _).1 h;rfl
  one h:=by
    obtain⟨u,D,h1,⟨ao,c,rfl,_⟩,rfl⟩:=(B7 _ _ _).1 h
    obtain⟨_,_,rfl⟩:=h1.aj
    simp[Value.oneCell',EJ]
  mono hg h:=I3 hg _ _ h
  zv:=oU
  zc:=[.int .i64 0,.string (bp []),.slice none 0 0,.int .i64 0,.int .i64 0,.bool false,.bool false,.bool false,.slice none 0 0]
  zK _:=(B7 _ _ _).2 ⟨_,_,av.nil _ _ _,⟨none,0,rfl,iE _,fun h=>absurd rfl h⟩,rfl⟩
theorem B8 (g:GH):∀(xs:List aG) (cs:List Value),qW g xs cs↔Reads ek g xs cs
  |[],cs=>by rw[qW,Reads]
  |x::xs,cs=>by
   rw[qW,Reads]
   constructor
   · rintro⟨c,cs',h1,h2,h3⟩
     exact⟨c,cs',h1,h2,(B8 g xs cs').1 h3⟩
   · rintro⟨c,cs',h1,h2,h3⟩
     exact⟨c,cs',h1,h2,(B8 g xs cs').2 h3⟩
theorem I5 (g:GH) (u:Value) (ops:List aG):EK g u ops↔av g 25 ek u ops:=by
  unfold EK av
  constructor
  · rintro⟨ao,c,h1,h2,h3⟩
    refine⟨ao,c,h1,h2,fun hn=>?_⟩
    obtain⟨b,o,cur,fz,e1,e2,e3⟩:=h3 hn
    exact⟨b,o,cur,fz,e1,e2,(B8 g _ _).1 e3⟩
  · rintro⟨ao,c,h1,h2,h3⟩
    refine⟨ao,c,h1,h2,fun hn=>?_⟩
    obtain⟨b,o,cur,fz,e1,e2,e3⟩:=h3 hn
    exact⟨b,o,cur,fz,e1,e2,(B8 g _ _).2 e3⟩
theorem iC {g:GH} {x:aG} {cs:List Value}:ek.K g x cs↔∃v0 v1,av g 5 br v0 x.Data∧av g 25 ek v1 x.az∧
    cs=[.int .i64 x.Kind,.string (bp x.af),v0,.int .i64 x.ai,.int .i64 x.aF,.bool x.aY,.bool x.aI,.bool x.ak,v1]:=by
  refine(B7 g x cs).trans ?_
  constructor
  · rintro⟨v0,v1,h1,h2,h3⟩
    exact⟨v0,v1,h1,(I5 _ _ _).1 h2,h3⟩
  · rintro⟨v0,v1,h1,h2,h3⟩
    exact⟨v0,v1,h1,(I5 _ _ _).2 h2,h3⟩
end Go.Proofs.YtceekbnihfckeaaGreatDoor.Sw
namespace Go.Proofs.YtceekbnihfckeaaGreatDoor.Sw
open Tryz
set_option linter.unusedVariables false
set_option linter.unusedSimpArgs false
set_option linter.deprecated false
open Go
def bT (k:Int):G3:=⟨decide (3≤k)&&decide (k≤7),decide (k=3)||decide (k=5),decide (k=4)||decide (k=5),decide (k=1),decide (k=3),decide (k=6)||decide (k=7),decide (k=8)⟩
def nS (k:Int):Bool:=decide (1≤k)&&decide (k≤9)
theorem PA {k:Int} (h:nS k=false):bT k=⟨false,false,false,false,false,false,false⟩:=by
  unfold nS at h
  unfold bT
  simp only[wu,jb] at h
  simp only[G3.mk.injEq,wu,GR,jb]
  omega
theorem I6 {k:Int} (h1:¬k=1) (h2:¬k=2) (h3:¬k=3) (h4:¬k=4) (h5:¬k=5) (h6:¬k=6) (h7:¬k=7) (h8:¬k=8) (h9:¬k=9):nS k=false:=by
  unfold nS
  simp only[wu,jb]
  omega
def rA (o:aG) (bR:Bool):Bool:=nS o.Kind&&(!bR||((bT o.Kind).make||(bT o.Kind).lM))
def qX (o:aG):Bool:=(bT o.Kind).eX||o.af==[]
def qY (o:aG):Bool:=(bT o.Kind).data||(o.Data.length:Int)==0
def qZ (o:aG):Bool:=(bT o.Kind).lM||o.ai==0
def q7 (o:aG):Bool:=(bT o.Kind).dD||o.aF==0
def qe (o:aG):Bool:=(bT o.Kind).make||(!o.aY&&!o.aI)
def q8 (o:aG):Bool:=(bT o.Kind).watch||!o.ak
def n7 (o:aG):Bool:=(bT o.Kind).ops||(o.az.length:Int)==0
def rC (o:aG):Bool:=decide (-1≤o.ai)&&(decide (o.ai<1099511627776)&&(decide (0≤o.aF)&&(decide (o.aF<1099511627776)&&decide ((o.az.length:Int)≤4))))
def kU (o:aG) (bR:Bool):Bool:=rA o bR&&(qX o&&(qY o&&(qZ o&&(q7 o&&(qe o&&(q8 o&&(n7 o&&rC o)))))))
mutual
def dr (bR:Bool):aG→Bool
  |⟨k,p,u,D,sp,b,G,w,ops⟩=>kU ⟨k,p,u,D,sp,b,G,w,ops⟩ bR&&Ak ops
def Ak:List aG→Bool
  |[]=>true
  |x::xs=>dr true x&&Ak xs
end
theorem I7:∀xs:List aG,Ak xs=xs.all (dr true)
  |[]=>by rw[Ak,nh]
  |x::xs=>by rw[Ak,j5,I7 xs]
theorem nj (bR:Bool) (o:aG):dr bR o=(kU o bR&&o.az.all (dr true)):=by
  obtain⟨k,p,u,D,sp,b,G,w,ops⟩:=o
  rw[dr,I7]
section
variable {o:aG} {bR:Bool}
theorem I9 (h:rA o bR=false):dr bR o=false:=by rw[nj,kU,h];rfl
theorem PB (h:qX o=false):dr bR o=false:=by rw[nj,kU,h];simp
theorem PC (h:qY o=false):dr bR o=false:=by rw[nj,kU,h];simp
theorem PD (h:qZ o=false):dr bR o=false:=by rw[nj,kU,h];simp
theorem PE (h:q7 o=false):dr bR o=false:=by rw[nj,kU,h];simp
theorem I_ (h:qe o=false):dr bR o=false:=by rw[nj,kU,h];simp
theorem PF (h:q8 o=false):dr bR o=false:=by rw[nj,kU,h];simp
theorem PG (h:n7 o=false):dr bR o=false:=by rw[nj,kU,h];simp
theorem Al (h:rC o=false):dr bR o=false:=by rw[nj,kU,h];simp
theorem PI (hA:rA o bR=true) (h1:qX o=true) (h2:qY o=true) (h3:qZ o=true) (h4:q7 o=true) (h5:qe o=true) (h6:q8 o=true) (h7:n7 o=true) (hC:rC o=true):
    (!o.az.any fun x=>!dr true x)=dr bR o:=by
  rw[nj,kU,hA,h1,h2,h3,h4,h5,h6,h7,hC]
  simp only[lp]
  rw[Ih]
  simp
theorem Am (h:o.ai< -1∨o.ai≥1099511627776∨o.aF<0∨o.aF≥1099511627776∨(o.az.length:Int)>4):rC o=false:=by
  unfold rC
  simp only[wu,jb]
  omega
theorem PJ (h1:¬o.ai< -1) (h2:¬o.ai≥1099511627776) (h3:¬o.aF<0) (h4:¬o.aF≥1099511627776) (h5:¬(o.az.length:Int)>4):rC o=true:=by
  unfold rC
  simp only[b_,cQ]
  omega
theorem pz (h:dr bR o=true):(1≤o.Kind∧o.Kind≤9)∧(-1≤o.ai∧o.ai<1099511627776)∧(0≤o.aF∧o.aF<1099511627776)∧o.az.length≤4∧∀x∈o.az,dr true x=true:=by
  rw[nj,kU] at h
  simp only[b_,ic] at h
  obtain⟨⟨hA,_,_,_,_,_,_,_,hC⟩,u⟩:=h
  unfold rA nS at hA
  unfold rC at hC
  simp only[b_,cQ] at hA hC
  exact⟨hA.1,⟨hC.1,hC.2.1⟩,⟨hC.2.2.1,hC.2.2.2.1⟩,by omega,u⟩
end
def fS (o:aG):Int:=(if o.aY then 1 else 0)+(if o.aI then 2 else 0)+(if o.ak then 4 else 0)
def gW (o:aG):List Int:=[o.Kind,o.ai+1,o.aF,fS o]
mutual
def cy:aG→an×Int
  |⟨k,p,u,D,sp,b,G,w,ops⟩=>if (iK ops).2≠0 then ([],(iK ops).2) else dM ((fo (gW ⟨k,p,u,D,sp,b,G,w,ops⟩)).1::p::u::(iK ops).1)
def iK:List aG→List an×Int
  |[]=>([],0)
  |x::xs=>if (cy x).2≠0 then ([],(cy x).2) else ((cy x).1::(iK xs).1,(iK xs).2)
end
theorem w5 (o:aG):cy o=if (iK o.az).2≠0 then ([],(iK o.az).2) else dM ((fo (gW o)).1::o.af::o.Data::(iK o.az).1):=by
  obtain⟨k,p,u,D,sp,b,G,w,ops⟩:=o
  rw[cy]
theorem w4 (x:aG) (xs:List aG):iK (x::xs)=if (cy x).2≠0 then ([],(cy x).2) else ((cy x).1::(iK xs).1,(iK xs).2):=by rw[iK]
def bA (o:aG):an×Int:=if dr false o=false then ([],130) else if (cy o).2≠0∨1024<(cy o).1.length then ([],130) else ((cy o).1,0)
mutual
def cq:aG→Nat
  |⟨_,p,u,_,_,_,_,_,ops⟩=>1+p.length+u.length+c7 ops
def c7:List aG→Nat
  |[]=>0
  |x::xs=>cq x+c7 xs
end
theorem mO (x:aG):cq x=1+x.af.length+x.Data.length+c7 x.az:=by
  obtain⟨k,p,u,D,sp,b,G,w,ops⟩:=x
  rw[cq]
theorem xb:∀{xs:List aG} {x:aG},x∈xs→cq x≤c7 xs
  |y::xs,x,h=>by
   rw[c7]
   rcases ei.1 h with rfl|h
   · omega
   · have:=xb h;omega
theorem Ja:∀xs:List aG,xs.length≤c7 xs
  |[]=>fH _
  |x::xs=>by
   rw[c7,bY]
   have:=Ja xs
   have:=mO x
   omega
theorem ie {x y:aG} (h:y∈x.az):cq y<cq x:=by
  have:=xb h
  rw[mO x]
  omega
theorem fO (x:aG):x.af.length<cq x∧x.Data.length<cq x∧x.az.length<cq x:=by
  have:=mO x
  have:=Ja x.az
  omega
section
variable {o x:aG} {bR:Bool} {i:Int} {cN:List an}
theorem Jb (h:dr bR o=true):fo (gW o)=(dO (gW o),0):=by
  obtain⟨h1,h2,h3,_,_⟩:=pz h
  unfold fo
  rw[aO]
  unfold gW fS
  simp only[j5,nh,mK,b_]
  refine⟨jd (by omega) (by omega),jd (by omega) (by omega),jd (by omega) (by omega),jd ?_ ?_⟩<;>(split<;>split<;>split<;>decide)
def uP (o:aG) (cN:List an) (i:Int):Prop:=(∀x∈o.az.take i.toNat,(cy x).2=0)∧cN=(fo (gW o)).1::o.af::o.Data::(o.az.take i.toNat).map fun x=>(cy x).1
theorem PK (o:aG):uP o [(fo (gW o)).1,o.af,o.Data] 0:=⟨fun x h=>by simp at h,by simp⟩
theorem Jc:∀{xs:List aG},(∀x∈xs,(cy x).2=0)→iK xs=(xs.map fun x=>(cy x).1,0)
  |[],_=>by rw[iK];rfl
  |x::xs,h=>by
   rw[w4,aC (by simpa using h x (by simp)),Jc fun y hy=>h y (by simp[hy])]
   rfl
theorem Jd:∀{xs:List aG} {n:Nat} {x:aG},(∀y∈xs.take n,(cy y).2=0)→xs[n]?=some x→(cy x).2≠0→(iK xs).2=(cy x).2
  |[],_,_,_,h,_=>by simp at h
  |y::xs,0,x,_,h,hx=>by
   simp only[List.getElem?_cons_zero,fu] at h
   subst h
   rw[w4,aO hx]
  |y::xs,n+1,x,hp,h,hx=>by
   rw[w4,aC (by simpa using hp y (by simp))]
   exact Jd (n:=n) (fun z hz=>hp z (by simp[hz])) (by simpa using h) hx
theorem PL (H:uP o cN i) (h0:0≤i) (hx:o.az[i.toNat]?=some x) (he:(cy x).2=0):uP o (cN++[(cy x).1]) (i+1):=by
  obtain⟨h1,h2⟩:=H
  unfold uP
  rw[toNat_succ h0,fG hx]
  refine⟨fun y hy=>?_,by rw[h2];simp⟩
  rcases dP.1 hy with hy|hy
  · exact h1 y hy
  · rw[iw.1 hy];exact he
theorem Je (H:uP o cN i) (hx:o.az[i.toNat]?=some x) (he:¬(cy x).2=0):cy o=([],(cy x).2):=by
  have:=Jd H.1 hx he
  rw[w5,this,aO he]
theorem Jf (H:uP o cN i) (h:¬i<(o.az.length:Int)):cy o=dM cN:=by
  obtain⟨h1,h2⟩:=H
  rw[fC (by omega)] at h1 h2
  rw[w5,Jc h1,aC (by simp),h2]
theorem Jg (H:uP o cN i) (h:o.az.length≤4):cN.length≤7:=by
  rw[H.2]
  simp only[bY,d_,e_]
  omega
theorem Jh (h:dr false o=false):bA o=([],130):=by unfold bA;rw[aO h]
theorem B9 (h:dr false o=true) (h2:(cy o).2≠0∨((cy o).1.length:Int)>1024):bA o=([],130):=by unfold bA;rw[h,aC (by simp),aO (by omega)]
theorem Ji (h:dr false o=true) (h2:(cy o).2=0) (h3:¬((cy o).1.length:Int)>1024):bA o=((cy o).1,0):=by unfold bA;rw[h,aC (by simp),aC (by omega)]
end
def w6 (v:List Int) (s:List an) (ops:List aG):aG:=⟨v.getD 0 0,s.getD 1 [],s.getD 2 [],v.getD 1 0-1,v.getD 2 0,v.getD 3 0 % 2 != (0:Int),v.getD 3 0 / 2 % 2*2 != (0:Int),v.getD 3 0 / 4 % 2*4 != (0:Int),ops⟩
def gI (b:an) (n:Int):Bool:=(bU b).2==0&&((bU b).1.length:Int)==n
def iA (bR:Bool) (b:an):Bool:=((bg b).2==0&&(decide (3≤((bg b).1.length:Int))&&(!bR||decide (((bg b).1.length:Int)≤3))))&&(gI ((bg b).1.getD 0 []) 4&&decide ((bU ((bg b).1.getD 0 [])).1.getD 3 0≤7))
def nF (b:an) (ops:List aG):aG:=w6 (bU ((bg b).1.getD 0 [])).1 (bg b).1 ops
def jQ (b:an):aG×Bool:=if iA true b then (nF b [],true) else (oU,false)
def a_ (bR:Bool) (b:an):aG×Bool:=
  if iA bR b then (if ((bg b).1.drop 3).all fun x=>(jQ x).2 then (nF b (((bg b).1.drop 3).map fun x=>(jQ x).1),true) else (oU,false)) else (oU,false)
theorem EL (b:an):a_ true b=jQ b:=by
  unfold a_ jQ
  cases h:iA true b with
  |false=>rfl
  |true=>
   have:(bg b).1.length≤3:=by
     unfold iA at h
     simp only[nk,n8,b_,cQ] at h
     omega
   rw[mz this]
   rfl
def aU (b:an):aG×Int:=if 1024<b.length then (oU,130) else if (a_ false b).2=false∨dr false (a_ false b).1=false then (oU,130) else ((a_ false b).1,0)
def wL (B:Bool) (rs:List (Int×Value)) (k:Int):Int:=if (B&&!k_ rs k)=true then k else 0
def kn (o:aG) (x1:List (Int×Bool)) (rs gP:List (Int×Value)) (n:Int):Prop:=
  x1=[(1,o.aY),(2,o.aI),(4,o.ak)]∧(∀p∈rs,p∈gP)∧(rs.map (·.1)).Nodup∧n=wL o.aY rs 1+wL o.aI rs 2+wL o.ak rs 4
section
variable {o:aG} {x1:List (Int×Bool)} {rs gP a b:List (Int×Value)} {n k:Int} {v:Value} {c:Bool} {R:Bool→Value→Prop}
theorem PM (hK:ga R gP x1) (hx:x1=[(1,o.aY),(2,o.aI),(4,o.ak)]):kn o x1 gP gP 0:=by
  have hm:∀k∈([1,2,4]:List Int),k_ gP k=true:=fun k hk=>by
    have h1:=hK.2.2.1
    rw[hx] at h1
    obtain⟨p,hp,e⟩:=de.1 (h1.mem_iff.2 (show k∈_ from hk))
    exact wI.2 ⟨p,hp,e⟩
  refine⟨hx,fun p hp=>hp,hK.2.1,?_⟩
  unfold wL
  rw[hm 1 (by simp),hm 2 (by simp),hm 4 (by simp)]
  simp
theorem kn.key (H:kn o x1 rs gP n) (hf:bV x1 k=some c):(k=1∧o.aY=c)∨(k=2∧o.aI=c)∨(k=4∧o.ak=c):=by
  rw[H.1,lR,lR,lR] at hf
  simp only at hf
  split at hf
  · rename_i e;exact .inl ⟨e.symm,fK hf⟩
  · split at hf
    · rename_i e;exact .inr (.inl ⟨e.symm,fK hf⟩)
    · split at hf
      · rename_i e;exact .inr (.inr ⟨e.symm,fK hf⟩)
      · cases hf
theorem kn.mem (H:kn o x1 rs gP n) (e:rs=a++(k,v)::b):(k,v)∈gP:=H.2.1 _ (by rw[e];simp)
theorem kn.any (e:rs=a++(k,v)::b):k_ rs k=true:=wI.2 ⟨(k,v),by rw[e];simp,rfl⟩
theorem kn.step (H:kn o x1 rs gP n) (e:rs=a++(k,v)::b) (hf:bV x1 k=some c):kn o x1 (a++b) gP (if c then n+k else n):=by
  have hk:=H.key hf
  have ha:=kn.any e
  obtain⟨h1,h2,h3,h4⟩:=H
  refine⟨h1,fun p hp=>h2 p (by rw[e];rcases dP.1 hp with hp|hp<;>simp[hp]),?_,?_⟩
  · rw[e] at h3
    refine xK (Et _ ?_) h3
    exact(Eu a).append (Ev _ _)
  · rw[h4]
    unfold wL
    rw[tj e h3,tj e h3,tj e h3]
    rcases hk with ⟨rfl,hc⟩|⟨rfl,hc⟩|⟨rfl,hc⟩<;>(subst hc;rw[ha];simp)<;>(split<;>(try simp)<;>(try omega))
theorem kn.hit (H:kn o x1 rs gP n) (e:rs=a++(k,v)::b) (hf:bV x1 k=some c) (hc:c=true):kn o x1 (a++b) gP (n+k):=by
  have:=H.step e hf
  rwa[aO hc] at this
theorem kn.jJ (H:kn o x1 rs gP n) (e:rs=a++(k,v)::b) (hf:bV x1 k=some c) (hc:c=false):kn o x1 (a++b) gP n:=by
  have:=H.step e hf
  rwa[aC (by simp[hc])] at this
theorem kn.PN (H:kn o x1 rs gP n) (e:rs=a++(k,v)::b) (hf:bV x1 k=some c):
    Value.int .i64 (IntKind.wrap .i64 (((BitVec.ofInt (IntKind.bits .i64) n ||| BitVec.ofInt (IntKind.bits .i64) k).toNat:Nat):Int))=.int .i64 (n+k):=by
  have hk:=H.key hf
  have ha:=kn.any e
  obtain⟨h1,h2,h3,h4⟩:=H
  rw[h4]
  unfold wL
  rcases hk with ⟨rfl,hc⟩|⟨rfl,hc⟩|⟨rfl,hc⟩<;>rw[ha]<;>simp only[nk,x4,gA,dV]<;>(split<;>split<;>(try split)<;>rfl)
theorem kn.j9 (H:kn o x1 rs gP n) (e:rs=[]):n=fS o:=by
  obtain⟨_,_,_,h4⟩:=H
  subst e
  rw[h4]
  unfold wL fS k_
  simp
end
theorem Jj {x:Int} (h0:0≤x) (h7:x≤7):Value.int .i64 (IntKind.wrap .i64 (((BitVec.ofInt (IntKind.bits .i64) x &&& BitVec.ofInt (IntKind.bits .i64) (1:Int)).toNat:Nat):Int))=.int .i64 (x % 2):=by
  have:x=0∨x=1∨x=2∨x=3∨x=4∨x=5∨x=6∨x=7:=by omega
  rcases this with rfl|rfl|rfl|rfl|rfl|rfl|rfl|rfl<;>rfl
theorem Jk {x:Int} (h0:0≤x) (h7:x≤7):Value.int .i64 (IntKind.wrap .i64 (((BitVec.ofInt (IntKind.bits .i64) x &&& BitVec.ofInt (IntKind.bits .i64) (2:Int)).toNat:Nat):Int))=.int .i64 (x / 2 % 2*2):=by
  have:x=0∨x=1∨x=2∨x=3∨x=4∨x=5∨x=6∨x=7:=by omega
  rcases this with rfl|rfl|rfl|rfl|rfl|rfl|rfl|rfl<;>rfl
theorem Jl {x:Int} (h0:0≤x) (h7:x≤7):Value.int .i64 (IntKind.wrap .i64 (((BitVec.ofInt (IntKind.bits .i64) x &&& BitVec.ofInt (IntKind.bits .i64) (4:Int)).toNat:Nat):Int))=.int .i64 (x / 4 % 2*4):=by
  have:x=0∨x=1∨x=2∨x=3∨x=4∨x=5∨x=6∨x=7:=by omega
  rcases this with rfl|rfl|rfl|rfl|rfl|rfl|rfl|rfl<;>rfl
theorem wM {o:aG} (h:dr false o=true∨dr true o=true):fo (gW o)=(dO (gW o),0)∧(-1≤o.ai∧o.ai<1099511627776)∧o.az.length≤4∧∀x∈o.az,dr true x=true:=by
  rcases h with h|h
  · obtain⟨_,h1,_,h2,h3⟩:=pz h;exact⟨Jb h,h1,h2,h3⟩
  · obtain⟨_,h1,_,h2,h3⟩:=pz h;exact⟨Jb h,h1,h2,h3⟩
theorem getD_at {α:Type} {l:List α} {k:Nat} {x d:α} (h:l[k]?=some x):l.getD k d=x:=by rw[Ii,h];rfl
theorem Jm:∀(n:Nat) (b:an) (os:List Int),(∀x∈os,0≤x∧x<4611686018427387904)→∀x∈(lX n b os).1,0≤x∧x<4611686018427387904
  |n,[],os,h=>by cases n<;>exact h
  |0,_::_,os,h=>fun x hx=>by cases hx
  |n+1,c::r,os,h=>by
   rw[lX]
   · split
     · intro x hx;cases hx
     · rename_i he
       refine Jm n _ _ fun x hx=>?_
       rcases dP.1 hx with hx|hx
       · exact h x hx
       · have hb:=lQ (b:=c::r) (Ah he)
         rw[iw.1 hx]
         exact⟨hb.1,hb.2.1⟩
   · simp
theorem PO {b:an} {x:Int} (h:x∈(bU b).1):0≤x∧x<4611686018427387904:=Jm _ _ _ (fun x hx=>by cases hx) x h
theorem Jn:∀(n:Nat) (b:an) (os:List an),(os.length≤1024∧∀x∈os,x.length≤65536)→(kR n b os).1.length≤1024∧∀x∈(kR n b os).1,x.length≤65536
  |n,[],os,h=>by cases n<;>exact h
  |0,_::_,os,h=>⟨by simp[kR],fun x hx=>by cases hx⟩
  |n+1,c::r,os,h=>by
   rw[kR]
   · split
     · exact⟨by simp,fun x hx=>by cases hx⟩
     · rename_i h1
       split
       · exact⟨by simp,fun x hx=>by cases hx⟩
       · split
         · exact⟨by simp,fun x hx=>by cases hx⟩
         · rename_i h2
           split
           · exact⟨by simp,fun x hx=>by cases hx⟩
           · refine Jn n _ _ ⟨?_,fun x hx=>?_⟩
             · rw[cA,o9];omega
             · rcases dP.1 hx with hx|hx
               · exact h.2 x hx
               · rw[iw.1 hx,e_];omega
   · simp
theorem nU (b:an):(bg b).1.length≤1024∧∀x∈(bg b).1,x.length≤65536:=Jn _ _ _ ⟨by simp,fun x hx=>by cases hx⟩
theorem An {b x:an} {k:Nat} (h:(bg b).1[k]?=some x):x.length≤65536:=(nU b).2 _ (cj h)
theorem EM {b x:an} {n k:Nat} (h:((bg b).1.drop n)[k]?=some x):x.length≤65536:=(nU b).2 _ (List.mem_of_mem_drop (cj h))
theorem oV {b:an} {k:Nat} {y:Int} (h:(bU b).1[k]?=some y):0≤y∧y<4611686018427387904:=PO (cj h)
section
variable {b x0 x1 x2 x:an} {bR:Bool} {y0 y1 y2 y3 i:Int} {ops:List aG} {ob one:aG} {n mr:Nat}
theorem Jo (u:(bg b).1[(0:Int).toNat]?=some x0) (s1:(bg b).1[(1:Int).toNat]?=some x1) (s2:(bg b).1[(2:Int).toNat]?=some x2) (v0:(bU x0).1[(0:Int).toNat]?=some y0) (v1:(bU x0).1[(1:Int).toNat]?=some y1)
    (v2:(bU x0).1[(2:Int).toNat]?=some y2) (v3:(bU x0).1[(3:Int).toNat]?=some y3):(⟨y0,x1,x2,y1-1,y2,y3 % 2 != (0:Int),y3 / 2 % 2*2 != (0:Int),y3 / 4 % 2*4 != (0:Int),ops⟩:aG)=nF b ops:=by
  unfold nF w6
  rw[getD_at (k:=0) u,getD_at (k:=1) s1,getD_at (k:=2) s2,getD_at (k:=0) v0,getD_at (k:=1) v1,getD_at (k:=2) v2,getD_at (k:=3) v3]
theorem B_ (h:¬(bg b).2=0):iA bR b=false:=by unfold iA;simp[h]
theorem Ca (h:((bg b).1.length:Int)<3):iA bR b=false:=by
  unfold iA
  rw[gb (p:=(3:Int)≤_) (by omega)];simp
theorem Cb (hi:bR=true) (h:((bg b).1.length:Int)>3):iA bR b=false:=by
  unfold iA
  rw[gb (p:=((bg b).1.length:Int)≤3) (by omega),hi];simp
theorem uQ (u:(bg b).1[(0:Int).toNat]?=some x0) (h:gI x0 4=false):iA bR b=false:=by
  unfold iA
  rw[getD_at (k:=0) u,h];simp
theorem uR (u:(bg b).1[(0:Int).toNat]?=some x0) (v3:(bU x0).1[(3:Int).toNat]?=some y3) (h:y3>7):iA bR b=false:=by
  unfold iA
  rw[getD_at (k:=0) u,getD_at (k:=3) v3,gb (p:=y3≤7) (by omega)];simp
theorem Jp (h1:(bg b).2=0) (h2:¬((bg b).1.length:Int)<3) (h3:bR=false∨¬((bg b).1.length:Int)>3) (u:(bg b).1[(0:Int).toNat]?=some x0) (h4:gI x0 4=true) (v3:(bU x0).1[(3:Int).toNat]?=some y3) (h5:¬y3>7):iA bR b=true:=by
  unfold iA
  rw[getD_at (k:=0) u,getD_at (k:=3) v3,h4,h1,eu (p:=(3:Int)≤_) (by omega),eu (p:=y3≤7) (by omega)]
  rcases h3 with h3|h3
  · rw[h3];rfl
  · rw[eu (p:=((bg b).1.length:Int)≤3) (by omega)];simp
theorem iR (h:iA bR b=false):a_ bR b=(oU,false):=by unfold a_;rw[h];rfl
def wN (b:an) (ob:aG) (i:Int):Prop:=ob=nF b ((((bg b).1.drop 3).take i.toNat).map fun x=>(a_ true x).1)∧∀x∈((bg b).1.drop 3).take i.toNat,(a_ true x).2=true
theorem Jq (h:ob=nF b []):wN b ob 0:=⟨by rw[h];rfl,fun x hx=>by simp at hx⟩
theorem Jr (H:wN b ob i) (h0:0≤i) (hx:((bg b).1.drop 3)[i.toNat]?=some x) (hok:(a_ true x).2=true):wN b ⟨ob.Kind,ob.af,ob.Data,ob.ai,ob.aF,ob.aY,ob.aI,ob.ak,ob.az++[(a_ true x).1]⟩ (i+1):=by
  obtain⟨h1,h2⟩:=H
  unfold wN
  rw[toNat_succ h0,fG hx]
  refine⟨by rw[h1];simp[nF,w6],fun y hy=>?_⟩
  rcases dP.1 hy with hy|hy
  · exact h2 y hy
  · rw[iw.1 hy];exact hok
theorem uS (hB:iA bR b=true) (hx:((bg b).1.drop 3)[i.toNat]?=some x) (hok:(a_ true x).2=false):a_ bR b=(oU,false):=by
  unfold a_
  rw[aO hB,aC]
  intro h
  rw[ic] at h
  have:=h x (cj hx)
  rw[←EL,hok] at this
  cases this
theorem uT (hB:iA bR b=true) (H:wN b ob i) (h:¬i<(((bg b).1.drop 3).length:Int)):a_ bR b=(ob,true):=by
  obtain⟨h1,h2⟩:=H
  rw[fC (by omega)] at h1 h2
  unfold a_
  rw[aO hB,aO]
  · rw[h1]
    simp only[EL]
  · rw[ic]
    intro x hx
    rw[←EL]
    exact h2 x hx
theorem Js (hB:iA bR b=true) (h0:0≤i) (h:i<(((bg b).1.drop 3).length:Int)) (hm:(if bR=true then 0 else 1)<mr+1):(if true=true then 0 else 1)<mr:=by
  cases bR with
  |false=>simp at hm ⊢;omega
  |true=>
   exfalso
   unfold iA at hB
   simp only[nk,n8,b_,cQ] at hB
   rw[iP] at h
   omega
theorem Cc (h:i<(((bg b).1.drop (3:Int).toNat).length:Int)) (u:(ob.az.length:Int)=i):ob.az.length≤1024:=by
  have:=(nU b).1
  rw[iP] at h
  omega
theorem PR (h1:(bU b).2=0):(((bU b).1.length:Int)==i)=gI b i:=by unfold gI;simp[h1]
theorem PS (h1:¬(bU b).2=0):false=gI b i:=by unfold gI;simp[h1]
theorem fV (h:gI b i=true):((bU b).1.length:Int)=i:=by unfold gI at h;simp at h;exact h.2
theorem Ce (h:(b.length:Int)>1024):aU b=(oU,130):=by unfold aU;rw[aO (by omega)]
theorem uU (h:¬(b.length:Int)>1024) (h2:(a_ false b).2=false∨dr false (a_ false b).1=false):aU b=(oU,130):=by unfold aU;rw[aC (by omega),aO h2]
theorem Cf (h:¬(b.length:Int)>1024) (h2:(a_ false b).2=true) (h3:dr false (a_ false b).1=true):aU b=((a_ false b).1,0):=by unfold aU;rw[aC (by omega),aC (by simp[h2,h3])]
end
theorem Cg {l:List an} {n k:Nat} (h:∀x∈l,x.length≤n):(l.getD k []).length≤n:=by
  rw[Ii]
  cases hk:l[k]? with
  |none=>exact fH _
  |some x=>exact h x (cj hk)
theorem EN (b:an) (ops:List aG):cq (nF b ops)≤131073+c7 ops:=by
  rw[mO]
  have h1:=Cg (k:=1) (nU b).2
  have h2:=Cg (k:=2) (nU b).2
  show 1+((bg b).1.getD 1 []).length+((bg b).1.getD 2 []).length+c7 ops≤_
  omega
theorem Ao:cq oU=1:=by unfold oU;rw[mO];rfl
theorem Jt (b:an):cq (jQ b).1≤131073:=by
  unfold jQ
  split
  · have:=EN b [];rw[c7] at this;exact this
  · rw[Ao];omega
theorem EO {n:Nat}:∀{l:List aG},(∀x∈l,cq x≤n)→c7 l≤n*l.length
  |[],_=>by rw[c7];exact fH _
  |x::l,h=>by
   rw[c7,bY,En]
   have:=EO (l:=l) fun y hy=>h y (by simp[hy])
   have:=h x (by simp)
   omega
theorem PT (b:an):cq (a_ false b).1≤1000000000:=by
  unfold a_
  split
  · split
    · refine bQ (EN _ _) ?_
      have h1:=EO (n:=131073) (l:=((bg b).1.drop 3).map fun x=>(jQ x).1) (fun x hx=>by obtain⟨y,_,rfl⟩:=de.1 hx;exact Jt y)
      rw[d_,iP] at h1
      have:=(nU b).1
      have h2:131073*((bg b).1.length-3)≤131073*1024:=xA _ (by omega)
      omega
    · rw[Ao];omega
  · rw[Ao];omega
end Go.Proofs.YtceekbnihfckeaaGreatDoor.Sw
namespace Go.Proofs.YtceekbnihfckeaaGreatDoor.Sw
open Tryz
set_option linter.unusedVariables false
set_option linter.unusedSimpArgs false
set_option linter.deprecated false
open Go
section
variable {C:fP} {ds:List Deferred} {i j:Nat} {r:ax} {M:Nat→Prop} {Ls:List (Nat×Bool)} {e:Env} {h:ax}
variable {h0:ax} {g0:GH} {S0:Nat→Prop} {g:GH} {L:List ay}
end
theorem Deep.row {h0:ax} {g0:GH} {S0:Nat→Prop} {g:GH} {L:List ay} {h:ax} {α:Type} {T:TypeId} {d:Kd α} {v:Value} {xs:List α} {c u:ay} (hr:aJ T d (dy gE u) v xs c) (s:St h0 g0 S0 g (c::u::L) h):
    ∃g',St h0 g0 S0 g' (c::L) h∧aM g g'∧aJ T d g' v xs c:=by
  have s1:=s.qG (L':=u::c::L) (List.Perm.swap _ _ _)
  obtain⟨s2,D⟩:=St.freeze s1
  exact⟨_,s2,D,hr.mono (H6 fun p hp=>s1.sep p (by simp[hp]))⟩
end Go.Proofs.YtceekbnihfckeaaGreatDoor.Sw
