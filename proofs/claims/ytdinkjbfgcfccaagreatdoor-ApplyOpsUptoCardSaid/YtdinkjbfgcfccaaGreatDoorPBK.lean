/- Lemmas for laws of this seat. -/
import Derived.Test.YtdinkjbfgcfccaaGreatDoorPBJ
set_option maxHeartbeats 4000000
namespace Go.Proofs.YtdinkjbfgcfccaaGreatDoor.Sw
open Go.Proofs.Tryz
set_option linter.unusedVariables false
set_option linter.unusedSimpArgs false
set_option linter.deprecated false
open Go
set_option linter.defProp false
def G7:=@List.getElem?_append_right
def Cy:=@Nat.mul_succ
def ze:=@Nat.mul_comm
def G8:=@Nat.pow_le_pow_right
def Cz:=@Int.le_refl
def G9:=@List.drop_of_length_le
def CA:=@Int.natCast_nonneg
def tj:=@Decidable.byContradiction
def CB:=@List.flatMap_append
def uZ:=@List.all_append
def me:=@List.all_nil
def mh:=@Bool.and_true
def tn:=@List.flatMap_cons
def zf:=@Bool.and_false
def CC:=@List.perm_append_comm
def CD:=@List.perm_middle
def tq:=@not_or
def CE:=@List.pairwise_singleton
def CF:=@List.pairwise_append
def CG:=@Nat.lt_of_le_of_lt
def CI:=@Nat.le_of_eq
def zg:=@List.length_set
def CJ:=@List.Sublist.map
def CK:=@List.Sublist.refl
def CL:=@List.sublist_cons_self
def ij:Nat→Nat→aj
  |0,v=>[UInt8.ofNat v]
  |n+1,v=>if v<128 then [UInt8.ofNat v] else UInt8.ofNat (v % 128+128)::ij n (v / 128)
def eP (v:Int):aj:=ij 9 v.toNat
def gi (v:Int):Bool:=decide (0≤v)&&decide (v<4611686018427387904)
theorem G_:∀(n v:Nat),1≤(ij n v).length∧(ij n v).length≤n+1
  |0,v=>⟨by simp[ij],by simp[ij]⟩
  |n+1,v=>by
   have ih:=G_ n (v / 128)
   rw[ij]
   split
   · simp
   · rw[bJ];omega
theorem tu (v:Int):1≤(eP v).length∧(eP v).length≤10:=G_ 9 _
def tv (o0 o:aj) (v0 v:Int) (n:Nat):Prop:=o0++eP v0=o++ij n v.toNat∧v<128 ^ (n+1)∧n≤9∧0≤v
section
variable {o0 o:aj} {v0 v:Int} {n:Nat}
theorem He (h:gi v=true):tv o0 o0 v v 9:=by
  unfold gi at h
  simp only[bZ,cN] at h
  refine⟨rfl,?_,by omega,h.1⟩
  have:(128:Int) ^ (9+1)=1180591620717411303424:=by decide
  omega
theorem Hf (n:Nat):(128:Int) ^ (n+1)=128 ^ n*128:=Int.pow_succ _ _
theorem Om (H:tv o0 o v0 v n) (h:v≥128):∃m,n=m+1∧tv o0 (o++[UInt8.ofNat (v % 128+128:Int).toNat]) v0 (v / 128) m:=by
  obtain⟨h1,h2,h3,h4⟩:=H
  rcases n with _|m
  · simp at h2;omega
  · refine⟨m,rfl,?_,?_,by omega,by omega⟩
    · rw[h1,ij,aL (by omega),cJ]
      have e1:v.toNat % 128+128=(v % 128+128:Int).toNat:=by omega
      have e2:v.toNat / 128=(v / 128:Int).toNat:=by omega
      rw[e1,e2]
      rfl
    · rw[Hf] at h2
      have:(0:Int)<128 ^ (m+1):=by have:=Int.pow_pos (n:=128) (m:=m+1) (by decide);exact this
      omega
theorem On (H:tv o0 o v0 v n) (h:¬v≥128):o++[UInt8.ofNat v.toNat]=o0++eP v0:=by
  obtain⟨h1,_,_,h4⟩:=H
  rw[h1]
  rcases n with _|m
  · rfl
  · rw[ij,aY (by omega)]
def rN (o:aj) (v0 v:Int) (n:Nat):Prop:=∃p,o=p++[UInt8.ofNat (v % 128:Int).toNat]∧eP v0=p++ij n v.toNat∧v<128 ^ (n+1)∧n≤9∧0≤v∧p.length+n=9
theorem Oo (h:gi v=true):rN [UInt8.ofNat (v % 128:Int).toNat] v v 9:=by
  have H:=He (o0:=[]) h
  exact⟨[],rfl,rfl,H.2.1,H.2.2.1,H.2.2.2,rfl⟩
theorem Oq (H:rN o v0 v n) (h:v≥128) {x:UInt8} (hx:o[((o.length:Int)-1).toNat]?=some x):∃m,n=m+1∧rN ((o.set ((o.length:Int)-1).toNat (UInt8.ofNat ((x.toNat:Int)+128).toNat))++[UInt8.ofNat (v / 128 % 128:Int).toNat]) v0 (v / 128) m:=by
  obtain⟨p,h0,h1,h2,h3,h4,h5⟩:=H
  rcases n with _|m
  · simp at h2;omega
  · refine⟨m,rfl,p++[UInt8.ofNat (v % 128+128:Int).toNat],?_,?_,?_,by omega,by omega,by simp;omega⟩
    · subst h0
      have e:(((p++[UInt8.ofNat (v % 128:Int).toNat]).length:Int)-1).toNat=p.length:=by simp
      rw[e] at hx ⊢
      have e2:x=UInt8.ofNat (v % 128:Int).toNat:=by
        rw[G7 (gF _)] at hx
        simpa using hx.symm
      have e3:((x.toNat:Int)+128).toNat=(v % 128+128:Int).toNat:=by
        rw[e2,wD,pF (by omega)]
        omega
      rw[e3,List.set_append_right _ _ (gF _)]
      simp
    · rw[h1,ij,aL (by omega),cJ]
      have e1:v.toNat % 128+128=(v % 128+128:Int).toNat:=by omega
      have e2:v.toNat / 128=(v / 128:Int).toNat:=by omega
      rw[e1,e2]
      rfl
    · rw[Hf] at h2
      have:(0:Int)<128 ^ (m+1):=by have:=Int.pow_pos (n:=128) (m:=m+1) (by decide);exact this
      omega
theorem Ot (H:rN o v0 v n) (h:¬v≥128):o=eP v0:=by
  obtain⟨p,h0,h1,h2,h3,h4,h5⟩:=H
  rw[h0,h1]
  congr 1
  have e:(v % 128:Int).toNat=v.toNat:=by omega
  rw[e]
  rcases n with _|m
  · rfl
  · rw[ij,aY (by omega)]
theorem xo (H:rN o v0 v n):o.length≤10∧1≤o.length:=by
  obtain⟨p,h0,_,_,_,_,h5⟩:=H
  rw[h0,b_,oI]
  omega
end
def fM:aj→Nat→Int→Int×Int×Int
  |[],_,_=>(0,0,11)
  |c::r,i,v=>
   if (i=8∧64≤c.toNat)∨(c.toNat=0∧0<i) then (0,0,12)
   else if c.toNat<128 then (v+((c.toNat % 128*2 ^ (7*i):Nat):Int),(i:Int)+1,0)
   else fM r (i+1) (v+((c.toNat % 128*2 ^ (7*i):Nat):Int))
def bf (b:aj):Int×Int×Int:=fM b 0 0
theorem zh (i:Nat):2 ^ (7*(i+1))=128*2 ^ (7*i):=by rw[Cy,Nat.pow_add,ze]
theorem Hg:∀(b:aj) (i:Nat) (v:Int),i≤8→0≤v→v<((2 ^ (7*i):Nat):Int)→(fM b i v).2.2=0→0≤(fM b i v).1∧(fM b i v).1<4611686018427387904∧(i:Int)+1≤(fM b i v).2.1∧(fM b i v).2.1≤i+b.length∧(fM b i v).2.1≤9
  |[],i,v,_,_,_,h=>by simp[fM] at h
  |c::r,i,v,hi,h0,hv,h=>by
   rw[fM] at h ⊢
   split at h
   · simp at h
   · rename_i hn
     rw[aL hn]
     have hp:0<2 ^ (7*i):=BM (by decide)
     split at h
     · rename_i hl
       rw[aY hl]
       have hc:c.toNat % 128=c.toNat:=pF hl
       have hm:c.toNat % 128*2 ^ (7*i)+2 ^ (7*i)≤4611686018427387904:=by
         by_cases h8:i=8
         · subst h8
           have:c.toNat<64:=by
             rcases nP c.toNat 64 with h|h
             · exact h
             · exact absurd (.inl ⟨rfl,h⟩) hn
           rw[hc]
           have:2 ^ (7*8)=72057594037927936:=by decide
           omega
         · have h7:i≤7:=by omega
           have h1:2 ^ (7*i)≤2 ^ (7*7):=G8 (by decide) (by omega)
           have h2:2 ^ (7*7)=562949953421312:=by decide
           have h3:c.toNat % 128*2 ^ (7*i)≤127*2 ^ (7*i):=iB _ (by omega)
           omega
       refine⟨by show 0≤v+_;omega,by show v+_<_;omega,Cz _,by show(i:Int)+1≤i+((c::r).length:Int);rw[bJ];omega,by show(i:Int)+1≤9;omega⟩
     · rename_i hl
       rw[aL hl]
       have h8:i≠8:=fun e=>hn (.inl ⟨e,by omega⟩)
       have e:=zh i
       have hm:c.toNat % 128*2 ^ (7*i)+2 ^ (7*i)≤128*2 ^ (7*i):=by
         have:(c.toNat % 128+1)*2 ^ (7*i)≤128*2 ^ (7*i):=iB _ (by omega)
         rw[mP] at this
         exact this
       have ih:=Hg r (i+1) (v+((c.toNat % 128*2 ^ (7*i):Nat):Int)) (by omega) (by omega) (by rw[e];omega) h
       rw[bJ]
       omega
theorem iu {b:aj} (h:(bf b).2.2=0):0≤(bf b).1∧(bf b).1<4611686018427387904∧1≤(bf b).2.1∧(bf b).2.1≤b.length∧(bf b).2.1≤9:=by
  have:=Hg b 0 0 (by decide) (by decide) (by decide) h
  unfold bf at *
  omega
def lQ (b:aj) (i v:Int):Prop:=bf b=fM (b.drop i.toNat) i.toNat v∧0≤v∧v<((2 ^ (7*i.toNat):Nat):Int)∧i≤8+(if b.length≤i.toNat then 1 else 0)∧0≤i
theorem Hh (b:aj):lQ b 0 0:=⟨rfl,by decide,by decide,by split<;>omega,by decide⟩
section
variable {b:aj} {i v:Int} {c:UInt8}
theorem CN (H:lQ b i v) (hc:b[i.toNat]?=some c):i≤8:=by
  have:=(fO.1 hc).1
  have h:=H.2.2.2.1
  rw[aL (by omega)] at h
  omega
theorem zi (H:lQ b i v) (hc:b[i.toNat]?=some c):bf b=fM (c::b.drop (i.toNat+1)) i.toNat v:=by rw[H.1,drop_at hc]
theorem mj (H:lQ b i v) (hc:b[i.toNat]?=some c) (h8:i=8) (h:64≤(c.toNat:Int)):bf b=(0,0,12):=by
  rw[zi H hc,fM,aY (.inl ⟨by omega,by omega⟩)]
theorem mm (H:lQ b i v) (hc:b[i.toNat]?=some c) (h0:(c.toNat:Int)=0) (h:0<i):bf b=(0,0,12):=by
  rw[zi H hc,fM,aY (.inr ⟨by omega,by omega⟩)]
theorem iG (H:lQ b i v) (hc:b[i.toNat]?=some c) (n1:¬(i=8∧64≤(c.toNat:Int))) (n2:¬((c.toNat:Int)=0∧0<i)) (h:(c.toNat:Int)<128):
    bf b=(v+((c.toNat % 128*2 ^ (7*i.toNat):Nat):Int),i+1,0):=by
  have hi:=H.2.2.2.2
  rw[zi H hc,fM,aL (by rintro(h|h);exact n1 ⟨by omega,by omega⟩;exact n2 ⟨by omega,by omega⟩),aY (by omega)]
  rw[show((i.toNat:Nat):Int)=i by omega]
theorem zj (H:lQ b i v) (hc:b[i.toNat]?=some c) (n1:¬(i=8∧64≤(c.toNat:Int))) (n2:¬((c.toNat:Int)=0∧0<i)) (h:¬(c.toNat:Int)<128):
    lQ b (i+1) (v+((c.toNat % 128*2 ^ (7*i.toNat):Nat):Int)):=by
  have hi:=H.2.2.2.2
  have h8:=CN H hc
  have hv:=H.2.2.1
  have h0:=H.2.1
  refine⟨?_,by omega,?_,?_,by omega⟩
  · rw[zi H hc,fM,aL (by rintro(h|h);exact n1 ⟨by omega,by omega⟩;exact n2 ⟨by omega,by omega⟩),aL (by omega),toNat_succ hi]
  · rw[toNat_succ hi,zh]
    have hm:c.toNat % 128*2 ^ (7*i.toNat)+2 ^ (7*i.toNat)≤128*2 ^ (7*i.toNat):=by
      have:(c.toNat % 128+1)*2 ^ (7*i.toNat)≤128*2 ^ (7*i.toNat):=iB _ (by omega)
      rw[mP] at this
      exact this
    omega
  · have:i≠8:=fun e=>n1 ⟨e,by omega⟩
    split<;>omega
theorem u0 (H:lQ b i v) (h:¬i<(b.length:Int)):bf b=(0,0,11):=by
  rw[H.1,G9 (by omega),fM]
theorem CO (H:lQ b i v) (hc:b[i.toNat]?=some c) (n1:¬(i=8∧64≤(c.toNat:Int))):0≤((c.toNat:Int) % 128)*2 ^ (7*i.toNat)∧v+((c.toNat:Int) % 128)*2 ^ (7*i.toNat)<4611686018427387904:=by
  have hi:=H.2.2.2.2
  have h8:=CN H hc
  have hv:=H.2.2.1
  have h0:=H.2.1
  have key:v+((c.toNat % 128*2 ^ (7*i.toNat):Nat):Int)<4611686018427387904:=by
    by_cases u:i=8
    · subst u
      have hlt:c.toNat<64:=by
        rcases nP c.toNat 64 with h|h
        · exact h
        · exact absurd ⟨rfl,by omega⟩ n1
      have e1:c.toNat % 128=c.toNat:=pF (by omega)
      have e2:2 ^ (7*(8:Int).toNat)=72057594037927936:=by decide
      have D:v<72057594037927936:=by have:=hv;rw[e2] at this;exact this
      rw[e1,e2]
      omega
    · have h1:2 ^ (7*i.toNat)≤2 ^ (7*7):=G8 (by decide) (by omega)
      have h2:2 ^ (7*7)=562949953421312:=by decide
      have h3:c.toNat % 128*2 ^ (7*i.toNat)≤127*2 ^ (7*i.toNat):=iB _ (by omega)
      omega
  have e:((c.toNat:Int) % 128)*2 ^ (7*i.toNat)=((c.toNat % 128*2 ^ (7*i.toNat):Nat):Int):=by simp
  rw[e]
  exact⟨CA _,key⟩
end
def rO (f:aj):aj:=eP f.length++f
def jM (fs:List aj):Bool:=decide (fs.length≤1024)&&fs.all fun f=>decide (f.length≤65536)
def dW (fs:List aj):aj:=fs.flatMap rO
def b7 (fs:List aj):aj×Int:=if jM fs then (dW fs,0) else ([],13)
def eC (l:List Int):aj:=l.flatMap eP
def cr (l:List Int):aj×Int:=if l.all gi then (eC l,0) else ([],10)
def jr:Nat→aj→List aj→List aj×Int
  |_,[],out=>(out,0)
  |0,_::_,out=>([],13)
  |n+1,b,out=>
   if out.length=1024 then ([],13)
   else if (bf b).2.2≠0 then ([],(bf b).2.2)
   else if 65536<(bf b).1 then ([],13)
   else if (b.length:Int)-(bf b).2.1<(bf b).1 then ([],11)
   else jr n (b.drop ((bf b).2.1+(bf b).1).toNat) (out++[(b.drop (bf b).2.1.toNat).take (bf b).1.toNat])
def aJ (b:aj):List aj×Int:=jr b.length b []
def j7:Nat→aj→List Int→List Int×Int
  |_,[],out=>(out,0)
  |0,_::_,out=>([],13)
  |n+1,b,out=>if (bf b).2.2≠0 then ([],(bf b).2.2) else j7 n (b.drop (bf b).2.1.toNat) (out++[(bf b).1])
def bh (b:aj):List Int×Int:=j7 b.length b []
theorem Hj:∀(n m:Nat) (b:aj) (out:List aj),b.length≤n→b.length≤m→jr n b out=jr m b out
  |n,m,[],out,_,_=>by cases n<;>cases m<;>rfl
  |0,_,_::_,_,h,_=>by simp at h
  |_,0,_::_,_,_,h=>by simp at h
  |n+1,m+1,c::r,out,h1,h2=>by
   rw[jr,jr]
   · repeat' split
     all_goals first|rfl|skip
     rename_i he _ _
     have he:(bf (c::r)).2.2=0:=tj he
     have hb:=iu he
     have hl:((c::r).drop ((bf (c::r)).2.1+(bf (c::r)).1).toNat).length≤r.length:=by rw[eT,bJ];omega
     exact Hj n m _ _ (by simp at h1;omega) (by simp at h2;omega)
   · simp
   · simp
theorem Hl:∀(n m:Nat) (b:aj) (out:List Int),b.length≤n→b.length≤m→j7 n b out=j7 m b out
  |n,m,[],out,_,_=>by cases n<;>cases m<;>rfl
  |0,_,_::_,_,h,_=>by simp at h
  |_,0,_::_,_,_,h=>by simp at h
  |n+1,m+1,c::r,out,h1,h2=>by
   rw[j7,j7]
   · split
     · rfl
     · rename_i he
       have he:(bf (c::r)).2.2=0:=tj he
       have hb:=iu he
       have hl:((c::r).drop (bf (c::r)).2.1.toNat).length≤r.length:=by rw[eT,bJ];omega
       exact Hl n m _ _ (by simp at h1;omega) (by simp at h2;omega)
   · simp
   · simp
def oN (fs:List aj) (o:aj) (i:Int):Prop:=o=dW (fs.take i.toNat)∧(fs.take i.toNat).all (fun f=>decide (f.length≤65536))=true
theorem Ho (fs:List aj):oN fs [] 0:=⟨rfl,rfl⟩
def oO (l:List Int) (o:aj) (i:Int):Prop:=o=eC (l.take i.toNat)∧(l.take i.toNat).all gi=true
theorem Hp (l:List Int):oO l [] 0:=⟨rfl,rfl⟩
section
variable {fs:List aj} {l:List Int} {o b0 b f:aj} {i v:Int} {out:List aj} {os:List Int}
theorem Hq (H:oN fs o i) (h0:0≤i) (hf:fs[i.toNat]?=some f) (h:¬(f.length:Int)>65536):oN fs ((o++eP (f.length:Int))++f) (i+1):=by
  unfold oN dW at *
  rw[toNat_succ h0,fP hf,H.1,CB,uZ,H.2]
  refine⟨by simp[rO],?_⟩
  simp only[jD,me,mh,lK,cN]
  omega
theorem Hr:∀fs:List aj,(fs.all fun f=>decide (f.length≤65536))=true→(dW fs).length≤65546*fs.length
  |[],_=>by simp[dW]
  |f::fs,h=>by
   rw[jD,bZ,cN] at h
   have ih:=Hr fs h.2
   have h1:=tu (f.length:Int)
   unfold dW at *
   rw[tn,b_,rO,b_,bJ]
   omega
theorem zk (H:oN fs o i):o.length≤65546*fs.length:=by
  have:=Hr _ H.2
  rw[H.1]
  rw[dZ] at this
  omega
theorem zl (H:oN fs o i) (h:¬i<(fs.length:Int)) (hl:¬(fs.length:Int)>1024):b7 fs=(o,0):=by
  unfold oN at H
  rw[fF (by omega)] at H
  unfold b7 jM
  rw[H.2,aY (by simp;omega),H.1]
theorem zm (h:(fs.length:Int)>1024):b7 fs=([],13):=by
  unfold b7 jM
  rw[aL (by simp;omega)]
theorem zn (hf:fs[i.toNat]?=some f) (h:(f.length:Int)>65536):b7 fs=([],13):=by
  unfold b7 jM
  rw[aL]
  intro hh
  simp only[bZ,gx,cN] at hh
  have:=hh.2 f (bY hf)
  omega
theorem Hs (H:oO l o i) (h0:0≤i) (hv:l[i.toNat]?=some v) (h:gi v=true):oO l (o++eP v) (i+1):=by
  unfold oO eC at *
  rw[toNat_succ h0,fP hv,H.1,CB,uZ,H.2]
  simp[h]
theorem u5:∀l:List Int,(eC l).length≤10*l.length
  |[]=>by simp[eC]
  |v::l=>by
   have ih:=u5 l
   have h1:=tu v
   unfold eC at *
   rw[tn,b_,bJ]
   omega
theorem Ht (H:oO l o i):o.length≤10*l.length:=by
  have:=u5 (l.take i.toNat)
  rw[H.1]
  rw[dZ] at this
  omega
theorem zo (H:oO l o i) (h:¬i<(l.length:Int)):cr l=(o,0):=by
  unfold oO at H
  rw[fF (by omega)] at H
  unfold cr
  rw[aY H.2,H.1]
theorem xp (hv:l[i.toNat]?=some v) (h:gi v=false):cr l=([],10):=by
  unfold cr
  rw[aL]
  intro hh
  rw[gx] at hh
  rw[hh v (bY hv)] at h
  cases h
theorem jN (h1:¬v<0) (h2:¬v≥4611686018427387904):gi v=true:=by unfold gi;rw[gb (by omega),gb (by omega)];rfl
theorem rP (h:v<0∨v≥4611686018427387904):gi v=false:=by
  unfold gi
  rcases h with h|h
  · rw[gQ (by omega)];rfl
  · rw[gQ (p:=v<4611686018427387904) (by omega),zf]
theorem dM {α u:Type} {x:α×u} {a:α} {c:u} (h:x=(a,c)):a=x.1∧c=x.2:=by rw[h];exact⟨rfl,rfl⟩
def mS (b0 b:aj) (out:List aj):Prop:=aJ b0=jr b.length b out
theorem Hu (b:aj):mS b b []:=rfl
theorem u6 (hb:(b.length:Int)>0) (out:List aj):jr b.length b out=if out.length=1024 then ([],13)
    else if (bf b).2.2≠0 then ([],(bf b).2.2)
    else if 65536<(bf b).1 then ([],13)
    else if (b.length:Int)-(bf b).2.1<(bf b).1 then ([],11)
    else jr (b.drop ((bf b).2.1+(bf b).1).toNat).length (b.drop ((bf b).2.1+(bf b).1).toNat) (out++[(b.drop (bf b).2.1.toNat).take (bf b).1.toNat]):=by
  rcases b with _|⟨c,r⟩
  · simp at hb
  · rw[show(c::r).length=r.length+1 from rfl,jr]
    · by_cases h0:out.length=1024
      · rw[aY h0,aY h0]
      · rw[aL h0,aL h0]
        by_cases he:(bf (c::r)).2.2≠0
        · rw[aY he,aY he]
        · rw[aL he,aL he]
          by_cases h1:65536<(bf (c::r)).1
          · rw[aY h1,aY h1]
          · rw[aL h1,aL h1]
            have u:(c::r).length=r.length+1:=rfl
            rw[u]
            by_cases h2:((r.length+1:Nat):Int)-(bf (c::r)).2.1<(bf (c::r)).1
            · rw[aY h2,aY h2]
            · rw[aL h2,aL h2]
              have he:(bf (c::r)).2.2=0:=tj he
              have hb:=iu he
              have hl:((c::r).drop ((bf (c::r)).2.1+(bf (c::r)).1).toNat).length≤r.length:=by rw[eT,bJ];omega
              exact Hj _ _ _ _ hl (gF _)
    · simp
theorem zp (H:mS b0 b out) (hb:(b.length:Int)>0) (h:(out.length:Int)=1024):aJ b0=([],13):=by rw[H,u6 hb,aY (by omega)]
theorem zq (H:mS b0 b out) (hb:(b.length:Int)>0) (h:¬(out.length:Int)=1024) (he:¬(bf b).2.2=0):aJ b0=([],(bf b).2.2):=by rw[H,u6 hb,aL (by omega),aY he]
theorem zu (H:mS b0 b out) (hb:(b.length:Int)>0) (h:¬(out.length:Int)=1024) (he:(bf b).2.2=0) (hl:(bf b).1>65536):aJ b0=([],13):=by rw[H,u6 hb,aL (by omega),aL (by omega),aY hl]
theorem CP (H:mS b0 b out) (hb:(b.length:Int)>0) (h:¬(out.length:Int)=1024) (he:(bf b).2.2=0) (hl:¬(bf b).1>65536) (hs:(b.length:Int)-(bf b).2.1<(bf b).1):aJ b0=([],11):=by rw[H,u6 hb,aL (by omega),aL (by omega),aL (by omega),aY hs]
theorem Hv (H:mS b0 b out) (hb:(b.length:Int)>0) (h:¬(out.length:Int)=1024) (he:(bf b).2.2=0) (hl:¬(bf b).1>65536) (hs:¬(b.length:Int)-(bf b).2.1<(bf b).1) {x:aj} (hx:x=(b.drop (bf b).2.1.toNat).take (bf b).1.toNat):
    mS b0 (b.drop ((bf b).2.1+(bf b).1).toNat) (out++[x]):=by unfold mS;rw[H,u6 hb,aL (by omega),aL (by omega),aL (by omega),aL hs,hx]
theorem zw (H:mS b0 b out) (hb:¬(b.length:Int)>0):aJ b0=(out,0):=by
  obtain rfl:b=[]:=kU (by omega)
  rw[H];rfl
def pU (b0 b:aj) (os:List Int):Prop:=bh b0=j7 b.length b os
theorem Hw (b:aj):pU b b []:=rfl
theorem CQ (hb:(b.length:Int)>0) (os:List Int):j7 b.length b os=if (bf b).2.2≠0 then ([],(bf b).2.2) else j7 (b.drop (bf b).2.1.toNat).length (b.drop (bf b).2.1.toNat) (os++[(bf b).1]):=by
  rcases b with _|⟨c,r⟩
  · simp at hb
  · rw[show(c::r).length=r.length+1 from rfl,j7]
    · split
      · rfl
      · rename_i he
        have he:(bf (c::r)).2.2=0:=tj he
        have hb:=iu he
        have hl:((c::r).drop (bf (c::r)).2.1.toNat).length≤r.length:=by rw[eT,bJ];omega
        exact Hl _ _ _ _ hl (gF _)
    · simp
theorem zx (H:pU b0 b os) (hb:(b.length:Int)>0) (he:¬(bf b).2.2=0):bh b0=([],(bf b).2.2):=by rw[H,CQ hb,aY he]
theorem Hx (H:pU b0 b os) (hb:(b.length:Int)>0) (he:(bf b).2.2=0):pU b0 (b.drop (bf b).2.1.toNat) (os++[(bf b).1]):=by unfold pU;rw[H,CQ hb,aL (by omega)]
theorem zy (H:pU b0 b os) (hb:¬(b.length:Int)>0):bh b0=(os,0):=by
  obtain rfl:b=[]:=kU (by omega)
  rw[H];rfl
end
theorem Ou {a b:Int} {s m:Nat} (ha:0≤a) (hs:a<((2 ^ s:Nat):Int)) (hb:b=((m*2 ^ s:Nat):Int)) (hl:a+b<4611686018427387904):
    Value.int .i64 (IntKind.wrap .i64 (((BitVec.ofInt (IntKind.bits .i64) a ||| BitVec.ofInt (IntKind.bits .i64) b).toNat:Nat):Int))=.int .i64 (a+b):=by
  have u:IntKind.bits .i64=64:=rfl
  obtain⟨x,rfl⟩:∃x:Nat,a=(x:Int):=⟨a.toNat,by omega⟩
  subst hb
  have hx:x<2 ^ s:=by omega
  have key:x ||| m*2 ^ s=x+m*2 ^ s:=by
    have:=Nat.two_pow_add_eq_or_of_lt hx m
    rw[Nat.or_comm,ze m,←this,wz]
  have h1:(BitVec.ofInt 64 (x:Int)).toNat=x:=by
    rw[BitVec.toNat_ofInt]
    omega
  have h2:(BitVec.ofInt 64 ((m*2 ^ s:Nat):Int)).toNat=m*2 ^ s:=by
    rw[BitVec.toNat_ofInt]
    omega
  have h3:(BitVec.ofInt (IntKind.bits .i64) (x:Int) ||| BitVec.ofInt (IntKind.bits .i64) ((m*2 ^ s:Nat):Int)).toNat=x+m*2 ^ s:=by
    show(BitVec.ofInt 64 (x:Int) ||| BitVec.ofInt 64 ((m*2 ^ s:Nat):Int)).toNat=_
    rw[BitVec.toNat_or,h1,h2,key]
  rw[h3,Int.natCast_add]
  exact nS (by omega) (by omega)
theorem u7 (c:UInt8):Value.int .u8 (IntKind.wrap .u8 (((BitVec.ofInt (IntKind.bits .u8) (c.toNat:Int) &&& ~~~ BitVec.ofInt (IntKind.bits .u8) (128:Int)).toNat:Nat):Int))=.int .u8 ((c.toNat % 128:Nat):Int):=by
  have h:∀n:Fin 256,IntKind.wrap .u8 (((BitVec.ofInt (IntKind.bits .u8) ((n.val:Nat):Int) &&& ~~~ BitVec.ofInt (IntKind.bits .u8) (128:Int)).toNat:Nat):Int)=((n.val % 128:Nat):Int):=by decide+kernel
  exact congrArg _ (h ⟨c.toNat,c.toNat_lt⟩)
theorem Hy {v:Int} (h:0≤v):Value.int .u8 (IntKind.wrap .u8 v)=.int .u8 (v % 256):=by
  congr 1
theorem Ov {v:Int} (h:0≤v):Value.int .u8 (IntKind.wrap .u8 (((BitVec.ofInt (IntKind.bits .u8) (v % 256) ||| BitVec.ofInt (IntKind.bits .u8) (128:Int)).toNat:Nat):Int))=.int .u8 (v % 128+128):=by
  have h1:∀n:Fin 256,IntKind.wrap .u8 (((BitVec.ofInt (IntKind.bits .u8) ((n.val:Nat):Int) ||| BitVec.ofInt (IntKind.bits .u8) (128:Int)).toNat:Nat):Int)=((n.val:Nat):Int) % 128+128:=by decide+kernel
  have:=h1 ⟨(v % 256).toNat,by omega⟩
  simp only[show(((v % 256).toNat:Nat):Int)=v % 256 by omega] at this
  rw[this]
  congr 1
  omega
theorem Ow {a n:Int} {k:Nat} (ha:a=(k:Int)) (h0:0≤n) (h1:n≤63) (hf:((k*2 ^ n.toNat:Nat):Int)<4611686018427387904):Value.int .i64 (IntKind.wrap .i64 (a*2 ^ (min n.toNat (IntKind.bits .i64))))=.int .i64 ((k*2 ^ n.toNat:Nat):Int):=by
  have e:min n.toNat (IntKind.bits .i64)=n.toNat:=by show min n.toNat 64=_;omega
  have e2:a*2 ^ n.toNat=((k*2 ^ n.toNat:Nat):Int):=by subst ha;simp
  rw[e,e2]
  have:=CA (k*2 ^ n.toNat)
  exact nS (by omega) (by omega)
theorem CR {v:Int} (h:gi v=true):0≤v∧v<4611686018427387904:=by
  unfold gi at h
  simpa using h
theorem Hz {o0 o:aj} {v0 v:Int} {n:Nat} (H:tv o0 o v0 v n):o.length≤o0.length+10:=by
  have h:=congrArg List.length H.1
  rw[b_,b_] at h
  have:=(tu v0).2
  omega
theorem Ox {o0 o:aj} {v0 v:Int} {n:Nat} (H:tv o0 o v0 v n) (h:¬v≥128):o++[UInt8.ofNat (v % 256:Int).toNat]=o0++eP v0:=by
  rw[←On H h]
  have:=H.2.2.2
  rw[show(v % 256:Int)=v by omega]
theorem Oy {a n:Int} {m k:Nat} (ha:a=((m:Nat):Int)) (hk:n=((k:Nat):Int)) (h1:k≤63) (hf:((m*2 ^ k:Nat):Int)<4611686018427387904):Value.int .i64 (IntKind.wrap .i64 (a*2 ^ (min n.toNat (IntKind.bits .i64))))=.int .i64 ((m*2 ^ k:Nat):Int):=by
  subst hk
  exact Ow ha (CA k) (by omega) hf
section
variable {b:aj} {i v:Int} {c:UInt8}
theorem tC (H:lQ b i v) (hc:b[i.toNat]?=some c) (n1:¬(i=8∧64≤(c.toNat:Int))):Value.int .i64 (IntKind.wrap .i64 (((c.toNat % 128:Nat):Int)*2 ^ (min (7*i:Int).toNat (IntKind.bits .i64))))=.int .i64 ((c.toNat % 128*2 ^ (7*i.toNat):Nat):Int):=by
  have hi:=H.2.2.2.2
  have h8:=CN H hc
  have hv:=H.2.1
  have hf:=(CO H hc n1).2
  have e:((c.toNat:Int) % 128)*2 ^ (7*i.toNat)=((c.toNat % 128*2 ^ (7*i.toNat):Nat):Int):=by simp
  rw[e] at hf
  exact Oy rfl (by omega) (by omega) (by omega)
theorem u9 (H:lQ b i v) (hc:b[i.toNat]?=some c) (n1:¬(i=8∧64≤(c.toNat:Int))):Value.int .i64 (IntKind.wrap .i64 (((BitVec.ofInt (IntKind.bits .i64) v ||| BitVec.ofInt (IntKind.bits .i64) ((c.toNat % 128*2 ^ (7*i.toNat):Nat):Int)).toNat:Nat):Int))=.int .i64 (v+((c.toNat % 128*2 ^ (7*i.toNat):Nat):Int)):=by
  have hf:=(CO H hc n1).2
  have e:((c.toNat:Int) % 128)*2 ^ (7*i.toNat)=((c.toNat % 128*2 ^ (7*i.toNat):Nat):Int):=by simp
  rw[e] at hf
  exact Ou H.2.1 H.2.2.1 rfl hf
end
theorem Oz {α:Type} {b:List α} {n z:Int} (h0:0≤n) (h1:0≤z):(b.take (n+z).toNat).drop n.toNat=(b.drop n.toNat).take z.toNat:=by
  rw[q7]
  congr 1
  omega
set_option maxRecDepth 100000
def nA (g:GH) (b:Nat) (x:aj) (c:az):Prop:=∃v0 c0,c=(b,.cells #[v0] 128 (0,0))::c0∧aH 5 a_ g v0 x c0
theorem nA.eq {g:GH} {b:Nat} {x y:aj} {c:az} (h:nA g b x c) (e:x=y):nA g b y c:=e▸h
theorem HC (B:World) (h:ay) (g:GH) (hg:bu g h) (b8:bz g) (u:Nat) (o:aj) (D:az) (a3:nA g u o D) (v:Int) (hv:gi v=true) (h1:o.length≤1000000000) (hs:St h g (aS [D]) g [D] h):
  aG prog B 67 #[vP u,vI v] h g [D] (fun a4 g' L'=>∃U,a4=.tuple #[]∧nA g' u (o++eP v) U∧g'=g∧L'=[U]):=by
 refine aG.aq func67 fun R hR=>?_
 have a5:∀(m:Nat) (o2:aj) (v2:Int) (G:az) (I:ay) (hm:v2.toNat<m) (h0:0≤v2) (h9:v2<4611686018427387904) (hI:∃n,tv o o2 v v2 n) (J:nA g u o2 G) (O:St h g (aS [D]) g [G] I),At (bP prog B 67 f67 R) [] 0 [(0,vP u),(1,vI v2)] I:=by
  intro m;induction m with
  |zero=>intros;omega
  |succ m a6=>
   intro o2 v2 G I hm h0 h9 hI J O
   refine At.go 1 2 [(5,.bool (decide (v2≥128)))]<|At.fd (v2≥128) 5 2 4 (fun a7=>?_) fun ca=>?_
   ·refine At.rp 11 3 [(8,vP u),(10,vP u)] ?_
    obtain⟨cb,a8,a9,V⟩:=J
    obtain⟨bb,bc,rfl⟩:=V.ak
    have X:=St.un [a8] a9 O
    refine Op.l1 128 10 11 0 (vL bb o2.length bc) (X.ag 0 rfl)<|Op.px 1 [(12,vI v2)]<|Op.vl 13 (.int .u8 (IntKind.wrap .u8 v2)) (.int .u8 (v2 % 256)) (Hy (by omega))<|Op.vl 14 (.int .u8 (IntKind.wrap .u8 (((BitVec.ofInt (IntKind.bits .u8) (v2 % 256) ||| BitVec.ofInt (IntKind.bits .u8) (128:Int)).toNat:Nat):Int))) (.int .u8 (v2 % 128+128)) (Ov (by omega))<|Op.ls 15 1 5 #[.int .u8 (v2 % 128+128)] X fun ce cf Y=>?_
    refine Op.ap 11 15 128 128 16 5 1 a_ (ys:=[(UInt8.ofNat (v2 % 128+128:Int).toNat)]) V Y 2 (⟨_,_,rfl,(wF (by omega) (by omega)),Reads.nil⟩) (by(simp only[bJ,cF];obtain⟨_,hn⟩:=hI;have:=Hz hn;omega)) (fun _ _ _=>trivial) (cT.lit (m:=1) (sz:=1) (Y.ag 0 rfl) (news:=[.int .u8 (v2 % 128+128)]) rfl rfl (by simp[Value.oneCell']) _) fun ch ci ck Z bd co=>?_
    obtain⟨ab,ad,rfl⟩:=Z.ak
    refine Op.px 1 [(17,vP u)]<|Op.s1 128 17 16 0 (vL ab ((o2++([(UInt8.ofNat (v2 % 128+128:Int).toNat)])).length) ad) 0 #[vL ab ((o2++([(UInt8.ofNat (v2 % 128+128:Int).toNat)])).length) ad] ((bd).drop) zt fun c3 be=>Op.gt 3<|At.rp 3 1 [(6,vI v2)]<|Op.vl 7 (.int .i64 (Int.fdiv v2 (2 ^ 7))) (.int .i64 (v2 / 128)) (FL _ _ _ rfl (by decide)) ?_
    refine Op.pg 0 [(1,vI (v2 / 128))] ?_
    obtain⟨c4,bi,bj⟩:=St.bF (Q:=nA g u (o2++([(UInt8.ofNat (v2 % 128+128:Int).toNat)]))) 2 be ⟨_,_,rfl,Z⟩
    exact At.ke (a6 (o2++([(UInt8.ofNat (v2 % 128+128:Int).toNat)])) (v2 / 128) _ _ (by omega) (by omega) (by omega) (by(obtain⟨n,hn⟩:=hI;obtain⟨m,_,h⟩:=Om hn a7;exact⟨m,h⟩)) bi bj)
   refine At.rp 10 3 [(18,vP u),(20,vP u)] ?_
   obtain⟨c5,bk,bm,ae⟩:=J
   obtain⟨bo,bs,rfl⟩:=ae.ak
   have am:=St.un [bk] bm O
   refine Op.l1 128 20 21 0 (vL bo o2.length bs) (am.ag 0 rfl)<|Op.px 1 [(22,vI v2)]<|Op.vl 23 (.int .u8 (IntKind.wrap .u8 v2)) (.int .u8 (v2 % 256)) (Hy (by omega))<|Op.ls 24 1 5 #[.int .u8 (v2 % 256)] am fun c6 c8 ar=>Op.ap 21 24 128 128 25 5 1 a_ (ys:=[(UInt8.ofNat (v2 % 256:Int).toNat)]) ae ar 2 (⟨_,_,rfl,(wF (by omega) (by omega)),Reads.nil⟩) (by(simp only[bJ,cF];obtain⟨_,hn⟩:=hI;have:=Hz hn;omega)) (fun _ _ _=>trivial) (cT.lit (m:=1) (sz:=1) (ar.ag 0 rfl) (news:=[.int .u8 (v2 % 256)]) rfl rfl (by simp[Value.oneCell']) _) fun c9 da db aw bt dc=>?_
   obtain⟨a0,a1,rfl⟩:=aw.ak
   refine Op.px 1 [(26,vP u)]<|Op.s1 128 26 25 0 (vL a0 ((o2++([(UInt8.ofNat (v2 % 256:Int).toNat)])).length) a1) 0 #[vL a0 ((o2++([(UInt8.ofNat (v2 % 256:Int).toNat)])).length) a1] ((bt).drop) zt fun dd b3=>Op.gt 5 ?_
   obtain⟨b4,b5,b6⟩:=St.bF (Q:=nA g u (o2++([(UInt8.ofNat (v2 % 256:Int).toNat)]))) 2 b3 ⟨_,_,rfl,aw⟩
   exact At.rt eY (hR b6 ⟨b4,rfl,b5.eq (by(obtain⟨n,hn⟩:=hI;exact Ox hn ‹_›)),rfl,rfl⟩)
 exact At.ke (a5 _ o v _ _ (bG _) (by exact(CR hv).1) (by exact(CR hv).2) (by exact⟨_,He hv⟩) a3 hs)
theorem CS (B:World) (h:ay) (g:GH) (hg:bu g h) (a0:bz g) (Z:Value) (bC:List Int) (ab:an g 3 (dK .i64) Z bC) (hl:bC.length≤10000000):
  aG prog B 35 #[Z] h g [] (fun a1 g' L'=>∃v0,a1=.tuple #[v0,.int .i64 ((cr bC).2)]∧an g' 5 a_ v0 ((cr bC).1)∧L'=[]):=by
 obtain⟨ad,O,rfl⟩:=ab.ak
 refine aG.aq func35 fun R hR=>At.go 1 2 []<|At.rg 1<|Op.al 4 128 #[vN] (St.init hg) fun G bt a3=>Op.gt 2 ?_
 refine At.go 3 3 [(7,vL ad bC.length O),(8,vI (bC.length:Int)),(9,vI 0)] ?_
 have a4:=aH.nil 5 a_ g
 obtain⟨b3,a5,a6⟩:=St.bF (Q:=nA g G ([]:aj)) 2 (a3.nl.fs [1] rfl) ⟨_,_,rfl,a4⟩
 have a7:∀(m:Nat) (o:aj) (i:Int) (U:az) (V:ay) (hm:bC.length-i.toNat<m) (h0:0≤i) (h1:i≤bC.length) (hI:oO bC o i) (X:nA g G o U) (D:St h g (aS []) g [U] V),At (bP prog B 35 f35 R) [] 3 [(4,vP G),(7,vL ad bC.length O),(8,vI (bC.length:Int)),(9,vI i)] V:=by
  intro m;induction m with
  |zero=>intros;omega
  |succ m a8=>
   intro o i U V hm h0 h1 hI X D
   refine At.go 4 1 [(10,.bool (decide (i<(bC.length:Int))))]<|At.fd (i<(bC.length:Int)) 10 5 12 (fun b4=>?_) fun b5=>?_
   ·refine At.rg 3 ?_
    obtain⟨u,ae⟩:=bW bC i
    obtain⟨a9,am,b6,b8,bb,bc,Y⟩:=an.bB ab _ ae
    cases bb
    refine Op.iq 78 3 1 8 bC.length O 7 9 11 a9 am i ?_
    replace Y:cut _ _ _=[vI u]:=Y
    refine Op.l1 3 11 12 (am+i.toNat*1) (vI u) (D.sub _ _ bc) ?_ (hv:=bN Y 0 rfl)
    refine Op.pg 6 [(6,vI u)]<|At.rp 6 3 [(15,.bool (decide (u<0)))]<|Op.wd (u<0) 15 (fun ca=>?_) fun cb=>?_
    ·exact Op.pg 7 [(18,vT)]<|At.bT 18 8<|At.go 9 2 [(2,vN),(3,vI 10)]<|At.rt (.tuple #[vN,vI 10]) (hR D.drop ⟨vN,bA rfl (bg (by exact(dM (xp ‹_› (rP (by omega)))).2)),bl (an.empty _ _ _ _ _) (by exact(dM (xp ‹_› (rP (by omega)))).1),rfl⟩)
    refine Op.pg 7 [(18,.bool (decide (u≥4611686018427387904)))]<|At.fd (u≥4611686018427387904) 18 8 10 (fun ce=>?_) fun cf=>?_
    ·exact At.go 9 2 [(2,vN),(3,vI 10)]<|At.rt (.tuple #[vN,vI 10]) (hR D.drop ⟨vN,bA rfl (bg (by exact(dM (xp ‹_› (rP (by omega)))).2)),bl (an.empty _ _ _ _ _) (by exact(dM (xp ‹_› (rP (by omega)))).1),rfl⟩)
    refine At.rp 2 1 [(19,vI u)]<|Op.cl (some 20) 1 D (HC _ _ _ D.sub a0 G o _ X u (by((try dsimp only)<;>(exact jN (by omega) (by omega)))) (by((try dsimp only)<;>((have:=Ht hI;omega)))) (St.pt 1 D)) ?_
    rintro _ bd _ ch be bi ⟨ci,rfl,bj,ck,rfl⟩;subst bd;clear be
    exact Op.gt 11<|At.rg 2<|Op.vq 21 (i+1)<|Op.pg 3 [(9,vI (i+1))] (At.ke (a8 (o++eP u) (i+1) _ _ (by omega) (by omega) (by omega) (by exact Hs hI h0 ae (jN (by omega) (by omega))) bj bi))
   refine At.rg 3 ?_
   obtain⟨co,bk,bm,ar⟩:=X
   obtain⟨I,J,rfl⟩:=ar.ak
   have aw:=St.un [bk] bm D
   refine Op.l1 128 4 22 0 (vL I o.length J) (aw.ag 0 rfl)<|Op.pg 13 [(2,vL I o.length J),(3,vI 0)] ?_
   obtain⟨c3,bo,c4,bs⟩:=aH.freeze ar (aw.fs [1] rfl)
   exact At.rt (.tuple #[vL I o.length J,vI 0]) (hR bo.drop ⟨(vL I o.length J),bA rfl (bg (by exact(dM (zo hI ‹_›)).2)),bl bs (by exact(dM (zo hI ‹_›)).1),rfl⟩)
 exact At.ke (a7 _ ([]:aj) 0 _ _ (bG _) (by omega) (by omega) (by exact Hp _) a5 a6)
abbrev rQ:Value:=(.tuple #[vN,vI 13])
abbrev rR:Array Value:=#[vS ([47]),vN,vI 0,vI (-1),vI 0,vI 0]
abbrev zz:Value:=(.tuple #[vI 0,vN,vI 12])
theorem zA (B:World) (h:ay) (g:GH) (hg:bu g h) (bb:bz g) (ae:Value) (fs:List aj) (am:an g 22 (fI 5 a_) ae fs) (hl:fs.length≤1000000000):
  aG prog B 36 #[ae] h g [] (fun bc g' L'=>∃v0,bc=.tuple #[v0,.int .i64 ((b7 fs).2)]∧an g' 5 a_ v0 ((b7 fs).1)∧L'=[]):=by
 obtain⟨ar,O,rfl⟩:=am.ak
 refine aG.aq func36 fun R hR=>?_
 have aw:=St.init hg
 refine At.go 1 2 []<|At.go 2 3 [(9,.bool (decide ((fs.length:Int)>1024)))]<|At.fd ((fs.length:Int)>1024) 9 3 5 (fun c9=>?_) fun da=>?_
 ·exact At.go 4 2 [(2,vN),(3,vI 13)]<|At.rt rQ (hR aw ⟨vN,bA rfl (bg (by exact(dM (zm ‹_›)).2)),bl (an.empty _ _ _ _ _) (by exact(dM (zm ‹_›)).1),rfl⟩)
 refine At.rg 1<|Op.al 4 128 #[vN] aw fun G db bd=>Op.gt 6<|At.go 7 3 [(10,vL ar fs.length O),(11,vI (fs.length:Int)),(12,vI 0)] ?_
 have be:=aH.nil 5 a_ g
 obtain⟨dc,bi,bj⟩:=St.bF (Q:=nA g G ([]:aj)) 2 (bd.nl.fs [1] rfl) ⟨_,_,rfl,be⟩
 have bk:∀(m:Nat) (o:aj) (i:Int) (U:az) (V:ay) (hm:fs.length-i.toNat<m) (h0:0≤i) (h1:i≤fs.length) (hI:oN fs o i) (X:nA g G o U) (D:St h g (aS []) g [U] V),At (bP prog B 36 f36 R) [] 7 [(4,vP G),(10,vL ar fs.length O),(11,vI (fs.length:Int)),(12,vI i)] V:=by
  intro m;induction m with
  |zero=>intros;omega
  |succ m bm=>
   intro o i U V hm h0 h1 hI X D
   refine At.go 8 1 [(13,.bool (decide (i<(fs.length:Int))))]<|At.fd (i<(fs.length:Int)) 13 9 17 (fun dd=>?_) fun df=>?_
   ·refine At.rg 3 ?_
    obtain⟨u,a0⟩:=bW fs i
    obtain⟨bo,a1,dg,dj,bs,bt,Y⟩:=an.bB am _ a0
    cases bs
    refine Op.iq 76 22 1 24 fs.length O 10 12 14 bo a1 i ?_
    obtain⟨v46,Y,a3⟩:=Y
    obtain⟨Z,ab,rfl⟩:=a3.ak
    refine Op.l1 22 14 15 (a1+i.toNat*1) (vL Z u.length ab) (D.sub _ _ bt) ?_ (hv:=bN Y 0 rfl)
    refine Op.pg 10 [(6,vL Z u.length ab)]<|At.go 11 3 [(18,.bool (decide ((u.length:Int)>65536)))]<|At.fd ((u.length:Int)>65536) 18 12 14 (fun dk=>?_) fun dl=>?_
    ·exact At.go 13 2 [(2,vN),(3,vI 13)]<|At.rt rQ (hR D.drop ⟨vN,bA rfl (bg (by exact(dM (zn ‹_› ‹_›)).2)),bl (an.empty _ _ _ _ _) (by exact(dM (zn ‹_› ‹_›)).1),rfl⟩)
    refine At.rp 3 2 [(20,vI (u.length:Int))]<|Op.cl (some 21) 1 D (HC _ _ _ D.sub bb G o _ X (u.length:Int) (by((try dsimp only)<;>(exact jN (by omega) (by omega)))) (by((try dsimp only)<;>((have:=zk hI;omega)))) (St.pt 1 D)) ?_
    rintro _ b3 _ dp b4 b5 ⟨dq,rfl,b6,du,rfl⟩;subst b3;clear b4
    refine Op.gt 15<|At.rg 4 ?_
    obtain⟨dv,b8,ca,a4⟩:=b6
    obtain⟨cb,ce,rfl⟩:=a4.ak
    have ad:=St.un [b8] ca b5
    refine Op.l1 128 4 22 0 (vL cb ((o++eP (u.length:Int)).length) ce) (ad.ag 0 rfl)<|Op.px 1 [(23,vL Z u.length ab)] ?_
    obtain⟨dC,cf,ch⟩:=cT.slice (P:=prog) (a3.toH ad.sub)
    refine Op.ap 22 23 128 22 24 5 1 a_ (ys:=u) a4 ad 1 ch (by(have:=zk hI;simp only[b_];have:=(tu (u.length:Int)).2;omega)) (fun _ _ _=>trivial) cf fun dE dT d0 a5 ci d1=>?_
    obtain⟨a6,a7,rfl⟩:=a5.ak
    refine Op.s1 128 4 24 0 (vL a6 (((o++eP (u.length:Int))++u).length) a7) 0 #[vL a6 (((o++eP (u.length:Int))++u).length) a7] ci zt fun d2 ck=>Op.gt 16<|At.rg 2<|Op.vq 25 (i+1)<|Op.pg 7 [(12,vI (i+1))] ?_
    obtain⟨d3,co,c3⟩:=St.bF (Q:=nA g G ((o++eP (u.length:Int))++u)) 2 ck ⟨_,_,rfl,a5⟩
    exact At.ke (bm ((o++eP (u.length:Int))++u) (i+1) _ _ (by omega) (by omega) (by omega) (by exact Hq hI h0 a0 ‹_›) co c3)
   refine At.rg 3 ?_
   obtain⟨d4,c4,c5,a8⟩:=X
   obtain⟨I,J,rfl⟩:=a8.ak
   have a9:=St.un [c4] c5 D
   refine Op.l1 128 4 26 0 (vL I o.length J) (a9.ag 0 rfl)<|Op.pg 18 [(2,vL I o.length J),(3,vI 0)] ?_
   obtain⟨d5,c6,d6,c8⟩:=aH.freeze a8 (a9.fs [1] rfl)
   exact At.rt (.tuple #[vL I o.length J,vI 0]) (hR c6.drop ⟨(vL I o.length J),bA rfl (bg (by exact(dM (zl hI ‹_› ‹_›)).2)),bl c8 (by exact(dM (zl hI ‹_› ‹_›)).1),rfl⟩)
 exact At.ke (bk _ ([]:aj) 0 _ _ (bG _) (by omega) (by omega) (by exact Ho _) bi bj)
theorem HD (B:World) (h:ay) (g:GH) (hg:bu g h) (a5:bz g) (Z:Value) (b:aj) (ab:an g 5 a_ Z b) (hl:b.length≤1000000000):
  aG prog B 69 #[Z] h g [] (fun ar g' L'=>ar=.tuple #[.int .i64 ((bf b).1),.int .i64 ((bf b).2.1),.int .i64 ((bf b).2.2)]∧g'=g∧L'=[]):=by
 obtain⟨ad,I,rfl⟩:=ab.ak
 refine aG.aq func69 fun R hR=>At.go 1 3 [(2,vI 0)]<|At.go 2 3 [(8,vL ad b.length I),(9,vI (b.length:Int)),(10,vI 0)] ?_
 have aw:∀(m:Nat) (i:Int) (v:Int) (J:ay) (hm:b.length-i.toNat<m) (h0:0≤i) (h1:i≤b.length) (hI:lQ b i v) (G:St h g (aS []) g [] J),At (bP prog B 69 f69 R) [] 2 [(2,vI v),(8,vL ad b.length I),(9,vI (b.length:Int)),(10,vI i)] J:=by
  intro m;induction m with
  |zero=>intros;omega
  |succ m ae=>
   intro i v J hm h0 h1 hI G
   refine At.go 3 1 [(11,.bool (decide (i<(b.length:Int))))]<|At.fd (i<(b.length:Int)) 11 4 18 (fun a6=>?_) fun a7=>?_
   ·refine At.rp 5 1 [(12,vI i)] ?_
    obtain⟨u,D⟩:=bW b i
    obtain⟨a0,am,a8,a9,a1,a3,O⟩:=an.bB ab _ D
    cases a1
    refine Op.iq 22 5 1 1 b.length I 8 10 13 a0 am i ?_
    replace O:cut _ _ _=[.int .u8 (u.toNat:Int)]:=O
    refine Op.l1 5 13 14 (am+i.toNat*1) (.int .u8 (u.toNat:Int)) (G.sub _ _ a3) ?_ (hv:=bN O 0 rfl)
    refine Op.pg 5 [(5,vI i),(6,.int .u8 (u.toNat:Int))]<|At.go 6 3 [(7,.bool (decide ((u.toNat:Int)<128)))]<|At.rp 7 3 [(20,.bool (i==8))]<|Op.wd (i=8) 20 (fun bb=>?_) fun bc=>?_
    ·refine Op.pg 7 [(17,.bool (decide ((u.toNat:Int)≥64)))]<|At.fd ((u.toNat:Int)≥64) 17 9 8 (fun a4=>?_) fun bd=>?_
     ·exact At.kT 17 a4<|At.bT 17 10<|At.go 11 3 [(2,vI 0),(3,vI 0),(4,vI 12)]<|At.rt (.tuple #[vI 0,vI 0,vI 12]) (hR G ⟨gG (bg (by(first|rw[mj hI D (by omega) (by omega)]|rw[mm hI D (by omega) (by omega)]))) (bg (by(first|rw[mj hI D (by omega) (by omega)]|rw[mm hI D (by omega) (by omega)]))) (bg (by(first|rw[mj hI D (by omega) (by omega)]|rw[mm hI D (by omega) (by omega)]))),rfl,rfl⟩)
     refine At.rp 10 2 [(25,.bool (decide ((u.toNat:Int)<128)))]<|Op.wb (decide ((u.toNat:Int)<128)) 25 (fun U=>?_) fun V=>?_
     ·refine Op.sb 7 U ?_
      replace U:=iX U
      refine Op.px 4 [(29,.bool ((u.toNat:Int)==0))]<|Op.wd ((u.toNat:Int)=0) 29 (fun be=>?_) fun bi=>?_
      ·refine Op.pg 9 [(17,.bool (decide (i>0)))]<|At.fd (i>0) 17 10 12 (fun bj=>?_) fun bk=>?_
       ·exact At.go 11 3 [(2,vI 0),(3,vI 0),(4,vI 12)]<|At.rt (.tuple #[vI 0,vI 0,vI 12]) (hR G ⟨gG (bg (by(first|rw[mj hI D (by omega) (by omega)]|rw[mm hI D (by omega) (by omega)]))) (bg (by(first|rw[mj hI D (by omega) (by omega)]|rw[mm hI D (by omega) (by omega)]))) (bg (by(first|rw[mj hI D (by omega) (by omega)]|rw[mm hI D (by omega) (by omega)]))),rfl,rfl⟩)
       refine At.rp 9 2 [(33,vI v),(34,.int .u8 (u.toNat:Int))]<|Op.vl 35 (.int .u8 (IntKind.wrap .u8 (((BitVec.ofInt (IntKind.bits .u8) (u.toNat:Int) &&& ~~~ BitVec.ofInt (IntKind.bits .u8) (128:Int)).toNat:Nat):Int))) (.int .u8 (((u.toNat % 128:Nat):Int))) (u7 _)<|Op.vl 36 (.int .i64 (IntKind.wrap .i64 ((u.toNat % 128:Nat):Int))) (.int .i64 ((u.toNat % 128:Nat):Int)) (nS (by omega) (by omega))<|Op.px 1 [(37,vI i)]<|Op.vq 38 ((7:Int)*i) ?_
       refine Op.sv (ky:=.i64) 3 3 36 38 39 ((u.toNat % 128:Nat):Int) ((7:Int)*i) (((u.toNat % 128*2 ^ (7*i.toNat):Nat):Int)) (by omega) (tC hI D (by omega))<|Op.vl 40 (.int .i64 (IntKind.wrap .i64 (((BitVec.ofInt (IntKind.bits .i64) v ||| BitVec.ofInt (IntKind.bits .i64) ((u.toNat % 128*2 ^ (7*i.toNat):Nat):Int)).toNat:Nat):Int))) (.int .i64 (v+((u.toNat % 128*2 ^ (7*i.toNat):Nat):Int))) (u9 hI D (by omega))<|Op.pg 13 [(2,vI (v+((u.toNat % 128*2 ^ (7*i.toNat):Nat):Int)))]<|At.go 14 1 [(41,vT)]<|At.bT 41 15 ?_
       exact At.rp 6 2 [(42,vI (v+((u.toNat % 128*2 ^ (7*i.toNat):Nat):Int))),(43,vI i)]<|Op.vq 44 (i+1)<|Op.pg 16 [(2,vI (v+((u.toNat % 128*2 ^ (7*i.toNat):Nat):Int))),(3,vI (i+1)),(4,vI 0)]<|At.rt (.tuple #[vI (v+((u.toNat % 128*2 ^ (7*i.toNat):Nat):Int)),vI (i+1),vI 0]) (hR G ⟨gG (bg (by rw[iG hI D (by omega) (by omega) (by omega)])) (bg (by rw[iG hI D (by omega) (by omega) (by omega)])) (bg (by rw[iG hI D (by omega) (by omega) (by omega)])),rfl,rfl⟩)
      refine Op.pg 9 [(17,vF)]<|At.cQ 17 12<|At.rp 9 2 [(33,vI v),(34,.int .u8 (u.toNat:Int))]<|Op.vl 35 (.int .u8 (IntKind.wrap .u8 (((BitVec.ofInt (IntKind.bits .u8) (u.toNat:Int) &&& ~~~ BitVec.ofInt (IntKind.bits .u8) (128:Int)).toNat:Nat):Int))) (.int .u8 (((u.toNat % 128:Nat):Int))) (u7 _)<|Op.vl 36 (.int .i64 (IntKind.wrap .i64 ((u.toNat % 128:Nat):Int))) (.int .i64 ((u.toNat % 128:Nat):Int)) (nS (by omega) (by omega)) ?_
      refine Op.px 1 [(37,vI i)]<|Op.vq 38 ((7:Int)*i)<|Op.sv (ky:=.i64) 3 3 36 38 39 ((u.toNat % 128:Nat):Int) ((7:Int)*i) (((u.toNat % 128*2 ^ (7*i.toNat):Nat):Int)) (by omega) (tC hI D (by omega))<|Op.vl 40 (.int .i64 (IntKind.wrap .i64 (((BitVec.ofInt (IntKind.bits .i64) v ||| BitVec.ofInt (IntKind.bits .i64) ((u.toNat % 128*2 ^ (7*i.toNat):Nat):Int)).toNat:Nat):Int))) (.int .i64 (v+((u.toNat % 128*2 ^ (7*i.toNat):Nat):Int))) (u9 hI D (by omega))<|Op.pg 13 [(2,vI (v+((u.toNat % 128*2 ^ (7*i.toNat):Nat):Int)))] ?_
      refine At.go 14 1 [(41,vT)]<|At.bT 41 15<|At.rp 6 2 [(42,vI (v+((u.toNat % 128*2 ^ (7*i.toNat):Nat):Int))),(43,vI i)]<|Op.vq 44 (i+1)<|Op.pg 16 [(2,vI (v+((u.toNat % 128*2 ^ (7*i.toNat):Nat):Int))),(3,vI (i+1)),(4,vI 0)] ?_
      exact At.rt (.tuple #[vI (v+((u.toNat % 128*2 ^ (7*i.toNat):Nat):Int)),vI (i+1),vI 0]) (hR G ⟨gG (bg (by rw[iG hI D (by omega) (by omega) (by omega)])) (bg (by rw[iG hI D (by omega) (by omega) (by omega)])) (bg (by rw[iG hI D (by omega) (by omega) (by omega)])),rfl,rfl⟩)
     refine Op.sb 7 V ?_
     replace V:=kW V
     refine Op.pg 9 [(17,vF)]<|At.cQ 17 12<|At.rp 9 2 [(33,vI v),(34,.int .u8 (u.toNat:Int))]<|Op.vl 35 (.int .u8 (IntKind.wrap .u8 (((BitVec.ofInt (IntKind.bits .u8) (u.toNat:Int) &&& ~~~ BitVec.ofInt (IntKind.bits .u8) (128:Int)).toNat:Nat):Int))) (.int .u8 (((u.toNat % 128:Nat):Int))) (u7 _)<|Op.vl 36 (.int .i64 (IntKind.wrap .i64 ((u.toNat % 128:Nat):Int))) (.int .i64 ((u.toNat % 128:Nat):Int)) (nS (by omega) (by omega)) ?_
     refine Op.px 1 [(37,vI i)]<|Op.vq 38 ((7:Int)*i)<|Op.sv (ky:=.i64) 3 3 36 38 39 ((u.toNat % 128:Nat):Int) ((7:Int)*i) (((u.toNat % 128*2 ^ (7*i.toNat):Nat):Int)) (by omega) (tC hI D (by omega))<|Op.vl 40 (.int .i64 (IntKind.wrap .i64 (((BitVec.ofInt (IntKind.bits .i64) v ||| BitVec.ofInt (IntKind.bits .i64) ((u.toNat % 128*2 ^ (7*i.toNat):Nat):Int)).toNat:Nat):Int))) (.int .i64 (v+((u.toNat % 128*2 ^ (7*i.toNat):Nat):Int))) (u9 hI D (by omega))<|Op.pg 13 [(2,vI (v+((u.toNat % 128*2 ^ (7*i.toNat):Nat):Int)))] ?_
     exact At.go 14 1 [(41,vF)]<|At.cQ 41 17<|At.rg 2<|Op.vq 45 (i+1)<|Op.pg 2 [(10,vI (i+1))] (At.ke (ae (i+1) (v+((u.toNat % 128*2 ^ (7*i.toNat):Nat):Int)) _ (by omega) (by omega) (by omega) (by exact zj hI D (by omega) (by omega) (by omega)) G))
    refine Op.pg 7 [(17,vF)]<|At.cQ 17 8<|At.rp 10 2 [(25,.bool (decide ((u.toNat:Int)<128)))]<|Op.wb (decide ((u.toNat:Int)<128)) 25 (fun X=>?_) fun Y=>?_
    ·refine Op.sb 7 X ?_
     replace X:=iX X
     refine Op.px 4 [(29,.bool ((u.toNat:Int)==0))]<|Op.wd ((u.toNat:Int)=0) 29 (fun bm=>?_) fun bo=>?_
     ·refine Op.pg 9 [(17,.bool (decide (i>0)))]<|At.fd (i>0) 17 10 12 (fun bs=>?_) fun bt=>?_
      ·exact At.go 11 3 [(2,vI 0),(3,vI 0),(4,vI 12)]<|At.rt (.tuple #[vI 0,vI 0,vI 12]) (hR G ⟨gG (bg (by(first|rw[mj hI D (by omega) (by omega)]|rw[mm hI D (by omega) (by omega)]))) (bg (by(first|rw[mj hI D (by omega) (by omega)]|rw[mm hI D (by omega) (by omega)]))) (bg (by(first|rw[mj hI D (by omega) (by omega)]|rw[mm hI D (by omega) (by omega)]))),rfl,rfl⟩)
      refine At.rp 9 2 [(33,vI v),(34,.int .u8 (u.toNat:Int))]<|Op.vl 35 (.int .u8 (IntKind.wrap .u8 (((BitVec.ofInt (IntKind.bits .u8) (u.toNat:Int) &&& ~~~ BitVec.ofInt (IntKind.bits .u8) (128:Int)).toNat:Nat):Int))) (.int .u8 (((u.toNat % 128:Nat):Int))) (u7 _)<|Op.vl 36 (.int .i64 (IntKind.wrap .i64 ((u.toNat % 128:Nat):Int))) (.int .i64 ((u.toNat % 128:Nat):Int)) (nS (by omega) (by omega))<|Op.px 1 [(37,vI i)]<|Op.vq 38 ((7:Int)*i) ?_
      refine Op.sv (ky:=.i64) 3 3 36 38 39 ((u.toNat % 128:Nat):Int) ((7:Int)*i) (((u.toNat % 128*2 ^ (7*i.toNat):Nat):Int)) (by omega) (tC hI D (by omega))<|Op.vl 40 (.int .i64 (IntKind.wrap .i64 (((BitVec.ofInt (IntKind.bits .i64) v ||| BitVec.ofInt (IntKind.bits .i64) ((u.toNat % 128*2 ^ (7*i.toNat):Nat):Int)).toNat:Nat):Int))) (.int .i64 (v+((u.toNat % 128*2 ^ (7*i.toNat):Nat):Int))) (u9 hI D (by omega))<|Op.pg 13 [(2,vI (v+((u.toNat % 128*2 ^ (7*i.toNat):Nat):Int)))]<|At.go 14 1 [(41,vT)]<|At.bT 41 15 ?_
      exact At.rp 6 2 [(42,vI (v+((u.toNat % 128*2 ^ (7*i.toNat):Nat):Int))),(43,vI i)]<|Op.vq 44 (i+1)<|Op.pg 16 [(2,vI (v+((u.toNat % 128*2 ^ (7*i.toNat):Nat):Int))),(3,vI (i+1)),(4,vI 0)]<|At.rt (.tuple #[vI (v+((u.toNat % 128*2 ^ (7*i.toNat):Nat):Int)),vI (i+1),vI 0]) (hR G ⟨gG (bg (by rw[iG hI D (by omega) (by omega) (by omega)])) (bg (by rw[iG hI D (by omega) (by omega) (by omega)])) (bg (by rw[iG hI D (by omega) (by omega) (by omega)])),rfl,rfl⟩)
     refine Op.pg 9 [(17,vF)]<|At.cQ 17 12<|At.rp 9 2 [(33,vI v),(34,.int .u8 (u.toNat:Int))]<|Op.vl 35 (.int .u8 (IntKind.wrap .u8 (((BitVec.ofInt (IntKind.bits .u8) (u.toNat:Int) &&& ~~~ BitVec.ofInt (IntKind.bits .u8) (128:Int)).toNat:Nat):Int))) (.int .u8 (((u.toNat % 128:Nat):Int))) (u7 _)<|Op.vl 36 (.int .i64 (IntKind.wrap .i64 ((u.toNat % 128:Nat):Int))) (.int .i64 ((u.toNat % 128:Nat):Int)) (nS (by omega) (by omega)) ?_
     refine Op.px 1 [(37,vI i)]<|Op.vq 38 ((7:Int)*i)<|Op.sv (ky:=.i64) 3 3 36 38 39 ((u.toNat % 128:Nat):Int) ((7:Int)*i) (((u.toNat % 128*2 ^ (7*i.toNat):Nat):Int)) (by omega) (tC hI D (by omega))<|Op.vl 40 (.int .i64 (IntKind.wrap .i64 (((BitVec.ofInt (IntKind.bits .i64) v ||| BitVec.ofInt (IntKind.bits .i64) ((u.toNat % 128*2 ^ (7*i.toNat):Nat):Int)).toNat:Nat):Int))) (.int .i64 (v+((u.toNat % 128*2 ^ (7*i.toNat):Nat):Int))) (u9 hI D (by omega))<|Op.pg 13 [(2,vI (v+((u.toNat % 128*2 ^ (7*i.toNat):Nat):Int)))] ?_
     refine At.go 14 1 [(41,vT)]<|At.bT 41 15<|At.rp 6 2 [(42,vI (v+((u.toNat % 128*2 ^ (7*i.toNat):Nat):Int))),(43,vI i)]<|Op.vq 44 (i+1)<|Op.pg 16 [(2,vI (v+((u.toNat % 128*2 ^ (7*i.toNat):Nat):Int))),(3,vI (i+1)),(4,vI 0)] ?_
     exact At.rt (.tuple #[vI (v+((u.toNat % 128*2 ^ (7*i.toNat):Nat):Int)),vI (i+1),vI 0]) (hR G ⟨gG (bg (by rw[iG hI D (by omega) (by omega) (by omega)])) (bg (by rw[iG hI D (by omega) (by omega) (by omega)])) (bg (by rw[iG hI D (by omega) (by omega) (by omega)])),rfl,rfl⟩)
    refine Op.sb 7 Y ?_
    replace Y:=kW Y
    refine Op.pg 9 [(17,vF)]<|At.cQ 17 12<|At.rp 9 2 [(33,vI v),(34,.int .u8 (u.toNat:Int))]<|Op.vl 35 (.int .u8 (IntKind.wrap .u8 (((BitVec.ofInt (IntKind.bits .u8) (u.toNat:Int) &&& ~~~ BitVec.ofInt (IntKind.bits .u8) (128:Int)).toNat:Nat):Int))) (.int .u8 (((u.toNat % 128:Nat):Int))) (u7 _)<|Op.vl 36 (.int .i64 (IntKind.wrap .i64 ((u.toNat % 128:Nat):Int))) (.int .i64 ((u.toNat % 128:Nat):Int)) (nS (by omega) (by omega)) ?_
    refine Op.px 1 [(37,vI i)]<|Op.vq 38 ((7:Int)*i)<|Op.sv (ky:=.i64) 3 3 36 38 39 ((u.toNat % 128:Nat):Int) ((7:Int)*i) (((u.toNat % 128*2 ^ (7*i.toNat):Nat):Int)) (by omega) (tC hI D (by omega))<|Op.vl 40 (.int .i64 (IntKind.wrap .i64 (((BitVec.ofInt (IntKind.bits .i64) v ||| BitVec.ofInt (IntKind.bits .i64) ((u.toNat % 128*2 ^ (7*i.toNat):Nat):Int)).toNat:Nat):Int))) (.int .i64 (v+((u.toNat % 128*2 ^ (7*i.toNat):Nat):Int))) (u9 hI D (by omega))<|Op.pg 13 [(2,vI (v+((u.toNat % 128*2 ^ (7*i.toNat):Nat):Int)))] ?_
    exact At.go 14 1 [(41,vF)]<|At.cQ 41 17<|At.rg 2<|Op.vq 45 (i+1)<|Op.pg 2 [(10,vI (i+1))] (At.ke (ae (i+1) (v+((u.toNat % 128*2 ^ (7*i.toNat):Nat):Int)) _ (by omega) (by omega) (by omega) (by exact zj hI D (by omega) (by omega) (by omega)) G))
   exact At.go 19 3 [(2,vI 0),(3,vI 0),(4,vI 11)]<|At.rt (.tuple #[vI 0,vI 0,vI 11]) (hR G ⟨gG (bg (by rw[u0 hI (by omega)])) (bg (by rw[u0 hI (by omega)])) (bg (by rw[u0 hI (by omega)])),rfl,rfl⟩)
 exact At.ke (aw _ 0 0 _ (bG _) (by omega) (by omega) (by exact Hh _) (St.init hg))
theorem zB (B:World) (h:ay) (g:GH) (hg:bu g h) (X:bz g) (ad:Value) (b:aj) (ae:an g 5 a_ ad b) (hl:b.length≤1000000000):
  aG prog B 41 #[ad] h g [] (fun a5 g' L'=>∃v0,a5=.tuple #[v0,.int .i64 ((aJ b).2)]∧an g' 22 (fI 5 a_) v0 ((aJ b).1)∧L'=[]):=by
 obtain⟨bt,b3,rfl⟩:=ae.ak
 refine aG.aq func41 fun R hR=>At.go 1 2 []<|At.go 2 1 [(4,vN)] ?_
 have a6:∀(m:Nat) (J:GH) (Y:aM g J) (fs:List aj) (b2:aj) (a20:Option Addr) (G:Nat) (Z:az) (u:Option Addr) (D:Nat) (ab:ay) (hm:b2.length<m) (hI:mS b b2 fs) (a7:b2.length≤b.length) (hf:fs.length≤1024) (O:aH 22 (fI 5 a_) J (.slice a20 fs.length G) fs Z) (I:an J 5 a_ (vL u b2.length D) b2) (U:St h g (aS []) J [Z] ab),At (bP prog B 41 f41 R) [] 2 [(0,vL u b2.length D),(4,vL a20 fs.length G)] ab:=by
  intro m;induction m with
  |zero=>intros;omega
  |succ m a8=>
   intro J Y fs b2 a20 G Z u D ab hm hI a7 hf O I U
   replace X:=X.mono Y
   refine At.go 3 3 [(10,.bool (decide ((b2.length:Int)>0)))]<|At.fd ((b2.length:Int)>0) 10 4 23 (fun b4=>?_) fun b5=>?_
   ·refine At.go 5 3 [(13,.bool ((fs.length:Int)==1024))]<|At.fd ((fs.length:Int)=1024) 13 6 8 (fun b6=>?_) fun b8=>?_
    ·exact At.go 7 2 [(2,vN),(3,vI 13)]<|At.rt rQ (hR U.drop ⟨vN,bA rfl (bg (by exact(dM (zp hI ‹_› ‹_›)).2)),bl (an.empty _ _ _ _ _) (by exact(dM (zp hI ‹_› ‹_›)).1),rfl⟩)
    refine At.rp 9 1 [(15,vL u b2.length D)]<|Op.c1 16 (HD _ _ _ U.sub X _ _ I (by(try dsimp only)<;>omega)) U fun ca V=>Op.pg 9 [(5,vI ((bf b2).1)),(6,vI ((bf b2).2.1)),(7,vI ((bf b2).2.2))]<|At.go 10 3 [(20,.bool (((bf b2).2.2) != 0))]<|At.fn (((bf b2).2.2)=0) 20 11 13 (fun cb=>?_) fun ce=>?_
    ·exact At.go 12 3 [(2,vN),(3,vI ((bf b2).2.2))]<|At.rt (.tuple #[vN,vI ((bf b2).2.2)]) (hR V.drop ⟨vN,bA rfl (bg (by exact(dM (zq hI ‹_› ‹_› ‹_›)).2)),bl (an.empty _ _ _ _ _) (by exact(dM (zq hI ‹_› ‹_› ‹_›)).1),rfl⟩)
    refine At.go 14 3 [(24,.bool (decide (((bf b2).1)>65536)))]<|At.fd (((bf b2).1)>65536) 24 15 17 (fun cf=>?_) fun ch=>?_
    ·exact At.go 12 2 [(2,vN),(3,vI 13)]<|At.rt rQ (hR V.drop ⟨vN,bA rfl (bg (by exact(dM (zu hI ‹_› ‹_› ‹_› ‹_›)).2)),bl (an.empty _ _ _ _ _) (by exact(dM (zu hI ‹_› ‹_› ‹_› ‹_›)).1),rfl⟩)
    refine At.rp 7 3 [(29,vI (b2.length:Int)),(30,vI ((bf b2).2.1))]<|Op.cO 31 ((b2.length:Int)-((bf b2).2.1)) (by(have hb:=iu (b:=b2) ‹_›;omega)) (by(have hb:=iu (b:=b2) ‹_›;omega))<|Op.pg 18 [(27,.bool (decide (((b2.length:Int)-((bf b2).2.1))<((bf b2).1))))]<|At.fd (((b2.length:Int)-((bf b2).2.1))<((bf b2).1)) 27 19 21 (fun ci=>?_) fun ck=>?_
    ·exact At.go 12 2 [(2,vN),(3,vI 11)]<|At.rt (.tuple #[vN,vI 11]) (hR V.drop ⟨vN,bA rfl (bg (by exact(dM (CP hI ‹_› ‹_› ‹_› ‹_› ‹_›)).2)),bl (an.empty _ _ _ _ _) (by exact(dM (CP hI ‹_› ‹_› ‹_› ‹_› ‹_›)).1),rfl⟩)
    refine At.rp 11 5 [(34,vL a20 fs.length G),(35,vL u b2.length D),(36,vI ((bf b2).2.1)),(37,vI ((bf b2).2.1)),(38,vI ((bf b2).1))]<|Op.cO 39 (((bf b2).2.1)+((bf b2).1)) (by(have hb:=iu (b:=b2) ‹_›;omega)) (by omega)<|Op.Mp (T:=22) (E:=5) (cK:=1) (x:=35) (ao:=u) (n:=b2.length) (c:=D) (dst:=40) (d:=a_) (lo:=36) (hi:=39) (k:=.i64) (k':=.i64) (m:=(bf b2).2.1) (m':=((bf b2).2.1)+((bf b2).1)) (by kernel_rfl) (by kernel_rfl) (by kernel_rfl) (by kernel_rfl) (by kernel_rfl) I (by(have hb:=iu (b:=b2) ‹_›;omega)) (by(have hb:=iu (b:=b2) ‹_›;omega)) (by omega) fun co am=>?_
    obtain⟨a46,c3,rfl⟩:=am.ak
    refine Op.c0 (some 41) (ny _ _ _ V.sub X _ _ am (by((try dsimp only)<;>((rw[eT,dZ];have hb:=iu (b:=b2) ‹_›;omega))))) V ?_
    rintro _ a9 _ c4 bb bc ⟨c5,c6,rfl,ar,c8,rfl⟩;subst a9;clear bb
    obtain⟨a53,aw,rfl⟩:=ar.ak
    obtain⟨c9,bd,a0,be⟩:=aH.freeze ar (bc)
    replace O:=O.mono a0
    replace I:=I.mono a0
    refine Op.ls 42 1 22 #[vL a53 ((((b2.take (((bf b2).2.1)+((bf b2).1):Int).toNat).drop ((bf b2).2.1:Int).toNat)).length) aw] bd fun da db a1=>Op.ap 34 42 76 76 43 22 24 (fI 5 a_) (ys:=[((b2.take (((bf b2).2.1)+((bf b2).1):Int).toNat).drop ((bf b2).2.1:Int).toNat)]) O a1 1 (⟨_,_,rfl,⟨_,rfl,be⟩,Reads.nil⟩) (by(simp only[bJ,cF];omega)) (fun _ _ _=>trivial) (cT.lit (m:=1) (sz:=1) (a1.ag 0 rfl) (news:=[vL a53 ((((b2.take (((bf b2).2.1)+((bf b2).1):Int).toNat).drop ((bf b2).2.1:Int).toNat)).length) aw]) rfl rfl (by simp[Value.oneCell']) _) fun cO dc dd a3 bi df=>?_
    obtain⟨a70,bj,rfl⟩:=a3.ak
    refine Op.pg 22 [(4,vL a70 ((fs++([((b2.take (((bf b2).2.1)+((bf b2).1):Int).toNat).drop ((bf b2).2.1:Int).toNat)])).length) bj)]<|At.rp 6 3 [(44,vL u b2.length D),(45,vI ((bf b2).2.1)),(46,vI ((bf b2).1))]<|Op.cO 47 (((bf b2).2.1)+((bf b2).1)) (by(have hb:=iu (b:=b2) ‹_›;omega)) (by omega)<|Op.pJ (T:=22) (E:=5) (cK:=1) (x:=44) (ao:=u) (n:=b2.length) (c:=D) (dst:=48) (d:=a_) (lo:=47) (k:=.i64) (m:=((bf b2).2.1)+((bf b2).1)) (by kernel_rfl) (by kernel_rfl) (by kernel_rfl) (by kernel_rfl) I (by(have hb:=iu (b:=b2) ‹_›;omega)) (by omega) fun dg a4=>?_
    obtain⟨a75,bk,rfl⟩:=a4.ak
    exact Op.pg 2 [(0,vL a75 ((b2.drop (((bf b2).2.1)+((bf b2).1):Int).toNat).length) bk)] (At.ke (a8 _ (aM.trans Y (by repeat (first|assumption|apply aM.trans))) (fs++([((b2.take (((bf b2).2.1)+((bf b2).1):Int).toNat).drop ((bf b2).2.1:Int).toNat)])) (b2.drop (((bf b2).2.1)+((bf b2).1):Int).toNat) _ _ _ _ _ _ (by(have hb:=iu (b:=b2) ‹_›;rw[eT];omega)) (by(have hb:=iu (b:=b2) ‹_›;exact Hv hI ‹_› ‹_› ‹_› ‹_› ‹_› (Oz (by omega) (by omega)))) (by(rw[eT];omega)) (by(simp only[b_,bJ,cF];omega)) a3 a4 ((bi).drop)))
   refine At.go 24 3 [(2,vL a20 fs.length G),(3,vI 0)] ?_
   obtain⟨dj,bm,dk,bo⟩:=aH.freeze O (U)
   exact At.rt (.tuple #[vL a20 fs.length G,vI 0]) (hR bm ⟨(vL a20 fs.length G),bA rfl (bg (by exact(dM (zw hI ‹_›)).2)),bl bo (by exact(dM (zw hI ‹_›)).1),rfl⟩)
 have bs:=aH.zero 22 (fI 5 a_) g none
 exact At.ke (a6 _ _ (aM.refl _) [] b _ _ _ _ _ _ (bG _) (by exact Hu _) (by exact gF _) (by exact eX _) bs ae ((St.init hg).nl))
theorem OA (B:World) (h:ay) (g:GH) (hg:bu g h) (O:bz g) (ab:Value) (b:aj) (ad:an g 5 a_ ab b) (hl:b.length≤1000000000):
  aG prog B 70 #[ab] h g [] (fun a0 g' L'=>∃v0,a0=.tuple #[v0,.int .i64 ((bh b).2)]∧an g' 3 (dK .i64) v0 ((bh b).1)∧L'=[]):=by
 obtain⟨be,bi,rfl⟩:=ad.ak
 refine aG.aq func70 fun R hR=>At.go 1 2 []<|At.go 2 1 [(4,vN)] ?_
 have a1:∀(m:Nat) (I:GH) (U:aM g I) (os:List Int) (b2:aj) (a20:Option Addr) (u:Nat) (V:az) (D:Option Addr) (G:Nat) (X:ay) (hm:b2.length<m) (hI:pU b b2 os) (a3:b2.length+os.length≤b.length) (Y:aH 3 (dK .i64) I (.slice a20 os.length u) os V) (Z:an I 5 a_ (vL D b2.length G) b2) (J:St h g (aS []) I [V] X),At (bP prog B 70 f70 R) [] 2 [(0,vL D b2.length G),(4,vL a20 os.length u)] X:=by
  intro m;induction m with
  |zero=>intros;omega
  |succ m a4=>
   intro I U os b2 a20 u V D G X hm hI a3 Y Z J
   replace O:=O.mono U
   refine At.go 3 3 [(10,.bool (decide ((b2.length:Int)>0)))]<|At.fd ((b2.length:Int)>0) 10 4 11 (fun bj=>?_) fun bk=>?_
   ·refine At.rp 9 1 [(12,vL D b2.length G)]<|Op.c1 13 (HD _ _ _ J.sub O _ _ Z (by(try dsimp only)<;>omega)) J fun bm ae=>Op.pg 5 [(5,vI ((bf b2).1)),(6,vI ((bf b2).2.1)),(7,vI ((bf b2).2.2))]<|At.go 6 2 [(18,.bool (((bf b2).2.2) != 0))]<|At.fn (((bf b2).2.2)=0) 18 7 9 (fun bo=>?_) fun bs=>?_
    ·exact At.go 8 3 [(2,vN),(3,vI ((bf b2).2.2))]<|At.rt (.tuple #[vN,vI ((bf b2).2.2)]) (hR ae.drop ⟨vN,bA rfl (bg (by exact(dM (zx hI ‹_› ‹_›)).2)),bl (an.empty _ _ _ _ _) (by exact(dM (zx hI ‹_› ‹_›)).1),rfl⟩)
    refine At.rp 5 2 [(20,vL a20 os.length u),(21,vI ((bf b2).1))]<|Op.ls 22 1 3 #[vI ((bf b2).1)] ae fun bt b3 am=>Op.ap 20 22 78 78 23 3 8 (dK .i64) (ys:=[(bf b2).1]) Y am 1 (⟨_,_,rfl,rfl,Reads.nil⟩) (by(simp only[bJ,cF];omega)) (fun _ _ _=>trivial) (cT.lit (m:=1) (sz:=1) (am.ag 0 rfl) (news:=[vI ((bf b2).1)]) rfl rfl (by simp[Value.oneCell']) _) fun b4 b5 b6 ar a5 b8=>?_
    obtain⟨a6,a7,rfl⟩:=ar.ak
    refine Op.pg 10 [(4,vL a6 ((os++([(bf b2).1])).length) a7)]<|At.rp 4 2 [(24,vL D b2.length G),(25,vI ((bf b2).2.1))]<|Op.pJ (T:=22) (E:=5) (cK:=1) (x:=24) (ao:=D) (n:=b2.length) (c:=G) (dst:=26) (d:=a_) (lo:=25) (k:=.i64) (m:=(bf b2).2.1) (by kernel_rfl) (by kernel_rfl) (by kernel_rfl) (by kernel_rfl) Z (by(have hb:=iu (b:=b2) ‹_›;omega)) (by(have hb:=iu (b:=b2) ‹_›;omega)) fun ca aw=>?_
    obtain⟨a8,a9,rfl⟩:=aw.ak
    exact Op.pg 2 [(0,vL a8 ((b2.drop ((bf b2).2.1:Int).toNat).length) a9)] (At.ke (a4 _ U (os++([(bf b2).1])) (b2.drop ((bf b2).2.1:Int).toNat) _ _ _ _ _ _ (by(have hb:=iu (b:=b2) ‹_›;rw[eT];omega)) (by exact Hx hI ‹_› ‹_›) (by(have hb:=iu (b:=b2) ‹_›;rw[eT,b_,oI];omega)) ar aw ((a5).drop)))
   refine At.go 12 3 [(2,vL a20 os.length u),(3,vI 0)] ?_
   obtain⟨cb,bb,ce,bc⟩:=aH.freeze Y (J)
   exact At.rt (.tuple #[vL a20 os.length u,vI 0]) (hR bb ⟨(vL a20 os.length u),bA rfl (bg (by exact(dM (zy hI ‹_›)).2)),bl bc (by exact(dM (zy hI ‹_›)).1),rfl⟩)
 have bd:=aH.zero 3 (dK .i64) g none
 exact At.ke (a1 _ _ (aM.refl _) [] b _ _ _ _ _ _ (bG _) (by exact Hw _) (by(simp;done)) bd ad ((St.init hg).nl))
theorem OB (B:World) (h:ay) (g:GH) (hg:bu g h) (aw:bz g) (G:Nat) (x:List aa) (V:jL g G x) (l:aa) (X:Value) (a0:an g 5 a_ X l.Data) (hp:l.af.length≤1000000000):
  aG prog B 149 #[.map (some G),.agg #[vS l.af,X,vI l.ai,vI l.aC,vI l.Next,vI l.aF]] h g [] (fun a1 g' L'=>a1=.bool (j6 x l)∧g'=g∧L'=[]):=by
 obtain⟨Y,Z,rfl⟩:=a0.ak
 refine aG.aq func149 fun R hR=>At.rg 2<|Op.bx 3 39 1 #[vS l.af,vL Y l.Data.length Z,vI l.ai,vI l.aC,vI l.Next,vI l.aF] (St.init hg) fun D bb u=>Op.pg 1 []<|At.rp 24 1 [(9,vQ D 3)] ?_
 refine Op.l1 3 9 10 3 (vI l.aC) (u.ag 0 rfl)<|Op.px 2 [(12,.bool (decide (l.aC<((-1):Int))))]<|Op.wd (l.aC<((-1):Int)) 12 (fun bc=>?_) fun bd=>?_
 ·exact Op.pg 2 [(32,vT)]<|At.bT 32 3<|At.gr 4 1 4 vF (hR u.drop ⟨(bn (by exact(xh (by omega)).symm)),rfl,rfl⟩)
 refine Op.px 1 [(13,vQ D 2)]<|Op.l1 3 13 14 2 (vI l.ai) (u.ag 0 rfl)<|Op.px 3 [(17,.bool (decide (l.ai<0)))]<|Op.wd (l.ai<0) 17 (fun be=>?_) fun bi=>?_
 ·exact Op.pg 2 [(32,vT)]<|At.bT 32 3<|At.gr 4 1 4 vF (hR u.drop ⟨(bn (by exact(xh (by omega)).symm)),rfl,rfl⟩)
 refine Op.px 1 [(18,vQ D 4)]<|Op.l1 3 18 19 4 (vI l.Next) (u.ag 0 rfl)<|Op.px 3 [(22,.bool (decide (l.Next<0)))]<|Op.wd (l.Next<0) 22 (fun bj=>?_) fun bk=>?_
 ·exact Op.pg 2 [(32,vT)]<|At.bT 32 3<|At.gr 4 1 4 vF (hR u.drop ⟨(bn (by exact(xh (by omega)).symm)),rfl,rfl⟩)
 refine Op.px 1 [(23,vQ D 5)]<|Op.l1 3 23 24 5 (vI l.aF) (u.ag 0 rfl)<|Op.px 3 [(27,.bool (decide (l.aF<0)))]<|Op.wd (l.aF<0) 27 (fun bm=>?_) fun bo=>?_
 ·exact Op.pg 2 [(32,vT)]<|At.bT 32 3<|At.gr 4 1 4 vF (hR u.drop ⟨(bn (by exact(xh (by omega)).symm)),rfl,rfl⟩)
 refine Op.px 1 [(28,vQ D 1)]<|Op.l1 22 28 29 1 (vL Y l.Data.length Z) (u.ag 0 rfl)<|Op.pg 2 [(32,.bool (decide ((l.Data.length:Int)>128)))]<|At.fd ((l.Data.length:Int)>128) 32 3 5 (fun bs=>?_) fun bt=>?_
 ·exact At.gr 4 1 4 vF (hR u.drop ⟨(bn (by exact(xh (by omega)).symm)),rfl,rfl⟩)
 refine At.rp 3 1 [(33,.map (some G))] ?_
 obtain⟨b3,b4,b5,a3,a4,a5,b6,b8,ca⟩:=jL.kD V
 refine Op.BT (d:=.string) (mt:=136) (x:=33) (dst:=34) (m:=G) (z:=.pointer none) (by kernel_rfl) (by kernel_rfl) (by kernel_rfl) rfl (u.sub _ _ a3) a4 a5<|Op.pg 6 [(35,.bool ((x.length:Int)==0))]<|At.fd ((x.length:Int)=0) 35 7 9 (fun cb=>?_) fun ce=>?_
 ·refine At.rp 14 1 [(36,vP D)]<|Op.l1 9 36 37 0 (vS l.af) (u.ag 0 rfl)<|Op.vl 38 (.bool ((br l.af).toList==(br ([47])).toList)) (.bool (l.af==([47]))) (by rw[toList_mkS,toList_mkS])<|Op.px 1 [(39,.bool (l.af==([47])))]<|Op.wb (l.af==([47])) 39 (fun ab=>?_) fun ad=>?_
  ·replace ab:=eq_of_beq ab
   refine Op.px 1 [(40,vQ D 3)]<|Op.l1 3 40 41 3 (vI l.aC) (u.ag 0 rfl)<|Op.px 3 [(44,.bool (l.aC==((-1):Int)))]<|Op.wd (l.aC=((-1):Int)) 44 (fun cf=>?_) fun ch=>?_
   ·exact Op.px 1 [(45,vQ D 5)]<|Op.l1 3 45 46 5 (vI l.aF) (u.ag 0 rfl)<|Op.pr 8 4 (.bool (l.aF==0)) (hR u.drop ⟨(bn (by(rw[Cg (by omega) (by omega) (by omega) (by omega) (by omega) ‹_›];simp[*]<;>first|exact J _ _|rfl))),rfl,rfl⟩)
   exact Op.pr 8 4 vF (hR u.drop ⟨(bn (by(rw[Cg (by omega) (by omega) (by omega) (by omega) (by omega) ‹_›];simp[*]<;>first|exact J _ _|rfl))),rfl,rfl⟩)
  replace ad:=pI ad
  exact Op.pr 8 4 vF (hR u.drop ⟨(bn (by(rw[Cg (by omega) (by omega) (by omega) (by omega) (by omega) ‹_›];simp[*]<;>first|exact J _ _|rfl))),rfl,rfl⟩)
 refine At.rp 8 1 [(50,vP D)]<|Op.l1 9 50 51 0 (vS l.af) (u.ag 0 rfl)<|Op.c1 52 (xm _ _ _ u.sub aw l.af (by(try dsimp only)<;>omega)) u fun ci I=>Op.pg 10 [(5,vS (parentOf l.af)),(6,vI (cj l.af))]<|At.rp 8 2 [(56,.map (some G)),(57,vS (parentOf l.af))] ?_
 obtain⟨ck,co,c3,ae,am,c4,c5,c6,a6⟩:=jL.kD V
 rcases a6 (parentOf l.af) with ⟨a7,O⟩|⟨U,ar,c8,a7,O,a8,a9,c9⟩
 ·refine Op.rF (ok:=true) (d:=.string) (mt:=136) (x:=56) (ix:=57) (dst:=58) (k:=(parentOf l.af)) (m:=G) (z:=.pointer none) (by kernel_rfl) (by kernel_rfl) kz (by kernel_rfl) (by kernel_rfl) (I.sub _ _ ae) am O<|Op.pg 11 [(7,.pointer none),(8,vF)]<|At.rp 13 3 [(63,.bool ((cj l.af)==0))]<|Op.wd ((cj l.af)=0) 63 (fun da=>?_) fun db=>?_
  ·exact Op.pr 12 4 vF (hR I.drop ⟨(bn (by(rw[yZ (by omega) (by omega) (by omega) (by omega) (by omega) ‹_›];simp[*]<;>first|exact J _ _|rfl))),rfl,rfl⟩)
  exact Op.pr 12 4 vF (hR I.drop ⟨(bn (by(rw[yZ (by omega) (by omega) (by omega) (by omega) (by omega) ‹_›];simp[*]<;>first|exact J _ _|rfl))),rfl,rfl⟩)
 obtain⟨dc,dd,rfl⟩:=a9.ak
 refine Op.pP (ok:=true) (d:=.string) (mt:=136) (x:=56) (ix:=57) (dst:=58) (k:=(parentOf l.af)) (m:=G) (v:=vP U) (z:=.pointer none) (by kernel_rfl) (by kernel_rfl) kz (by kernel_rfl) (by kernel_rfl) (I.sub _ _ ae) am O<|Op.pg 11 [(7,vP U),(8,vT)]<|At.rp 13 3 [(63,.bool ((cj l.af)==0))]<|Op.wd ((cj l.af)=0) 63 (fun df=>?_) fun dg=>?_
 ·exact Op.px 6 [(66,vT),(69,vQ U 3)]<|Op.l1 3 69 70 3 (vI ar.aC) (I.sub _ _ a8)<|Op.pr 12 4 (.bool (ar.aC==((-1):Int))) (hR I.drop ⟨(bn (by(rw[yZ (by omega) (by omega) (by omega) (by omega) (by omega) ‹_›];simp[*]<;>first|exact J _ _|rfl))),rfl,rfl⟩)
 exact Op.pr 12 4 vF (hR I.drop ⟨(bn (by(rw[yZ (by omega) (by omega) (by omega) (by omega) (by omega) ‹_›];simp[*]<;>first|exact J _ _|rfl))),rfl,rfl⟩)
def gu (ks:List (bp×Value)) (F:az) (ns:List aa):Prop:=∃ms:List n5,ks=jK ms∧F.Perm (lP ms)∧GO ms∧(ms.map (·.l)).Perm ns∧fL ns∧∀n∈ns,n.af.length≤64
theorem St.xq {h0:ay} {g0:GH} {S0:Nat→Prop} {g g1:GH} {L:List az} {h:ay} (s:St h0 g0 S0 g L h) (h1:aM g0 g1) (h2:aM g1 g):St h0 g0 S0 g1 L h:=
  ⟨s.size,s.frame,h1,fun b hb=>s.new b (by obtain⟨x,hx⟩:=E8.1 hb;rw[h2 _ _ hx];simp),fun b o hb=>s.sub b o (h2 _ _ hb),s.kR,s.nodup,
    fun p hp=>(by cases hg:g1 p.1 with
      |none=>rfl
      |some x=>have:=h2 _ _ hg;rw[s.sep p hp] at this;cases this),s.own⟩
section
variable {g:GH} {mb:Nat} {ns:List aa} {c F:az} {es:Array MapEntry} {aZ:Nat} {ks:List (bp×Value)}
theorem gq.kD (h:gq g mb ns c):∃es aZ ks F,c.Perm ((mb,.map es aZ)::F)∧cG encS es aZ ks∧gu ks F ns:=by
  obtain⟨es,aZ,ms,hp,⟨h1,h2,h3,h4⟩,hr⟩:=h
  exact⟨es,aZ,jK ms,lP ms,hp,h1,ms,rfl,ga _,hr,h2,h3,h4⟩
theorem gu.close (h:gu ks F ns) (hR:cG encS es aZ ks) (hc:c.Perm ((mb,.map es aZ)::F)):gq g mb ns c:=by
  obtain⟨ms,rfl,u,hr,h2,h3,h4⟩:=h
  exact⟨es,aZ,ms,hc.trans (u.cons _),⟨hR,h2,h3,h4⟩,hr⟩
theorem gu.nil:gu [] [] []:=⟨[],rfl,ga _,fun m hm=>absurd hm (by simp),ga _,List.Pairwise.nil,fun n hn=>absurd hn (by simp)⟩
theorem gu.sort (h:gu ks F ns):fL ns:=by obtain⟨_,_,_,_,_,h3,_⟩:=h;exact h3
theorem gu.len (h:gu ks F ns):ks.length=ns.length:=by
  obtain⟨ms,rfl,_,_,h2,_⟩:=h
  have:=h2.length_eq
  simpa[jK] using this
theorem gu.gS (h:gu ks F ns) (p:bp):(fq ks p).isSome=(bU ns p).isSome:=by
  obtain⟨ms,rfl,u,hr,h2,h3,h4⟩:=h
  have hn:(ms.map (·.l.af)).Nodup:=by
    have:=(h2.map (·.af)).nodup_iff.2 h3.nodup
    simpa[jA,Function.comp_def] using this
  rcases GP hn p with ⟨h5,h6⟩|⟨m,_,h5,h6⟩
  · rw[h6,←yT h2 h3.nodup,h5];rfl
  · rw[h6,←yT h2 h3.nodup,h5];rfl
theorem HE (a b:List n5):lP (a++b)=lP a++lP b:=by simp[lP]
theorem CT {a b:List n5} (h:a.Perm b):(lP a).Perm (lP b):=(h.map y_).flatten
theorem gu.zC (h:gu ks F ns) {l:aa} {v:Value} {b:Nat} {u:az} (hf:bU ns l.af=none) (hr:aH 5 a_ g v l.Data u) (hl:l.af.length≤64):
    gu (gR ks l.af (.pointer (some ⟨b,0,none⟩))) ((b,.cells (pS l v) TL (0,0))::u++F) (ei ns l):=by
  obtain⟨ms,rfl,D,G,h2,h3,h4⟩:=h
  have hno:∀p∈jK ms,p.1≠l.af:=by
    intro p hp
    obtain⟨m,hm,rfl⟩:=cY.1 hp
    exact oM.1 hf m.l (h2.mem_iff.1 (cY.2 ⟨m,hm,rfl⟩))
  have hd:fG ns l.af=ns:=w9 hf
  have hw:(ei ns l).Perm (l::ns):=by have:=pQ ns l;rwa[hd] at this
  refine⟨ms++[⟨b,l,v,u⟩],?_,?_,?_,?_,w8 h3 l,?_⟩
  · unfold gR
    rw[aL (by
      rw[qC]
      rintro⟨p,hp,e⟩
      exact hno p hp (by simpa using e))]
    simp[jK]
  · rw[HE]
    have:lP [⟨b,l,v,u⟩]=(b,.cells (pS l v) TL (0,0))::u:=by simp[lP,y_]
    rw[this]
    exact(CC).trans (D.append_right _)
  · intro m hm
    rcases eo.1 hm with hm|hm
    · exact G m hm
    · rw[iA] at hm
      subst hm
      exact hr.bw (fun _ _ _ _ h=>h)
  · rw[gA]
    exact((CC).trans (h2.cons l)).trans hw.symm
  · intro n hn
    rcases eO.1 (hw.mem_iff.1 hn) with rfl|hn
    · exact hl
    · exact h4 n hn
theorem gu.n7 (h:gu ks F ns) (p:bp):∃F' u,F.Perm (F'++u)∧gu (jm ks p) F' (fG ns p):=by
  obtain⟨ms,rfl,D,G,h2,h3,h4⟩:=h
  refine⟨lP (ms.filter fun m=>!decide (m.l.af=p)),lP (ms.filter fun m=>!(!decide (m.l.af=p))),?_,ms.filter fun m=>!decide (m.l.af=p),?_,ga _,fun m hm=>G m (ic.1 hm).1,?_,B_ h3 p,fun n hn=>h4 n (ic.1 hn).1⟩
  · refine D.trans ?_
    rw[←HE]
    exact CT (List.filter_append_perm _ _).symm
  · unfold jm jK
    rw[s9]
    rfl
  · have:=h2.filter fun n=>!decide (n.af=p)
    rw[s9] at this
    exact this
theorem gu.bB (h:gu ks F ns) {l:aa} {b:Nat} (hR:cG encS es aZ ks) (hf:bU ns l.af=some l) (he:∃e∈es.toList,e.key=encS l.af∧e.val=.pointer (some ⟨b,0,none⟩)):
    ∃v c1 F',F.Perm ((b,.cells (pS l v) TL (0,0))::c1++F')∧aH 5 a_ g v l.Data c1∧
     ∀(u:aa) (D:Value) (G:az),u.af=l.af→aH 5 a_ g D u.Data G→gu ks ((b,.cells (pS u D) TL (0,0))::G++F') (ei ns u):=by
  obtain⟨ms,rfl,V,O,h2,h3,h4⟩:=h
  have hn:(ms.map (·.l.af)).Nodup:=by
    have:=(h2.map (·.af)).nodup_iff.2 h3.nodup
    simpa[jA,Function.comp_def] using this
  obtain⟨e,X,Y,Z⟩:=he
  obtain⟨m,hm,ab,ad⟩:∃m∈ms,m.l=l∧m.b=b:=by
    have:(e.key,e.val)∈es.toList.map (fun e=>(e.key,e.val)):=cY.2 ⟨e,X,rfl⟩
    rw[hR.1] at this
    obtain⟨q,hq,eq⟩:=cY.1 this
    obtain⟨m,hm,rfl⟩:=cY.1 hq
    simp only[gY,Y,Z,Value.pointer.injEq,ey,Addr.mk.injEq] at eq
    have hp:m.l.af=l.af:=kz.inj _ _ eq.1
    have h6:bU (ms.map (·.l)) m.l.af=some m.l:=rJ (by simpa[jA,Function.comp_def] using hn) (cY.2 ⟨m,hm,rfl⟩)
    rw[yT h2 h3.nodup,hp,hf] at h6
    exact⟨m,hm,(gI h6).symm,eq.2.1⟩
  subst ab ad
  obtain⟨a,d,rfl⟩:=List.append_of_mem hm
  refine⟨m.v,m.c,lP (a++d),?_,(O m hm).bw (fun _ _ _ _ h=>h),?_⟩
  · refine V.trans ((CT (CD)).trans ?_)
    exact ga _
  · intro u D G hp ae
    refine⟨a++⟨m.b,u,D,G⟩::d,?_,?_,?_,?_,w8 h3 u,?_⟩
    · simp[jK,hp]
    · exact(CT (CD (a:=(⟨m.b,u,D,G⟩:n5)) (l₁:=a) (l₂:=d)).symm)
    · intro q hq
      rcases eo.1 hq with hq|hq
      · exact O q (by simp[hq])
      · rcases eO.1 hq with rfl|hq
        · exact ae.bw (fun _ _ _ _ h=>h)
        · exact O q (by simp[hq])
    · rw[gA,eS] at h2 ⊢
      have h7:(m.l::((a.map (·.l))++d.map (·.l))).Perm ns:=(List.perm_middle.symm).trans h2
      have h8:fG ns u.af=fG ns m.l.af:=by rw[hp]
      have h9:((a.map (·.l))++d.map (·.l)).Perm (fG ns m.l.af):=by
        have J:=h7.filter fun n=>!decide (n.af=m.l.af)
        rw[iW] at J
        simp only[sZ,nW,fW,dI] at J
        have h11:(((a.map (·.l))++d.map (·.l)).filter fun n=>!decide (n.af=m.l.af))=(a.map (·.l))++d.map (·.l):=by
          rw[pN]
          intro n I
          have U:((m.l::((a.map (·.l))++d.map (·.l))).map (fun n:aa=>n.af)).Nodup:=(h7.map (fun n:aa=>n.af)).nodup_iff.2 h3.nodup
          rw[eS] at U
          have:=(pL.1 U).1
          simp only[gz,jE]
          exact fun e=>this (e▸cY.2 ⟨n,I,rfl⟩)
        rw[h11] at J
        exact J
      refine(CD).trans (((h9.cons u).trans ?_))
      have:=(pQ ns u).symm
      rwa[h8] at this
    · intro n I
      rcases eO.1 ((pQ ns u).mem_iff.1 I) with rfl|I
      · rw[hp];exact h4 m.l (h2.mem_iff.1 (by simp))
      · exact h4 n (ic.1 I).1
theorem HF {h0:ay} {g0:GH} {S0:Nat→Prop} {L:List az} {h:ay} {C:az} {u b0 D b:Nat} {l:aa} {T:TypeId} (s:St h0 g0 S0 g (C::L) h) (h1:(u,Obj.cells #[.map (some b0)] T (0,0))∈C) (h2:(b0,Obj.map es aZ)∈C)
    (h3:cS g C u=some (.cells #[.map (some D)] T (0,0))) (h4:xj (cS g C) D l b):∃e∈es.toList,e.key=encS l.af∧e.val=.pointer (some ⟨b,0,none⟩):=by
  have h5:=nV (g:=g) s.oJ h1
  rw[h3] at h5
  simp only[ey,Obj.cells.injEq,and_true,Array.mk.injEq,um,Value.map.injEq] at h5
  subst h5
  obtain⟨G,I,h6,h7⟩:=h4
  have h8:=nV (g:=g) s.oJ h2
  rw[h6] at h8
  simp only[ey,Obj.map.injEq] at h8
  obtain⟨rfl,_⟩:=h8
  exact h7
end
def eD (g:GH) (b:Nat) (x:List aa) (c:az):Prop:=∃b0 c0,c=(b,.cells #[.map (some b0)] 138 (0,0))::c0∧gq g b0 x c0
theorem eD.mono {g g':GH} {b:Nat} {x:List aa} {c:az} (h:eD g b x c) (hg:aM g g'):eD g' b x c:=by
 obtain⟨b0,c0,e,h0⟩:=h
 exact⟨b0,c0,e,h0.mono hg⟩
theorem eD.eq {g:GH} {b:Nat} {x y:List aa} {c:az} (h:eD g b x c) (e:x=y):eD g b y c:=e▸h
theorem eD.bw {g g':GH} {b:Nat} {x:List aa} {c:az} (h:eD g b x c):eD g' b x c:=by
 obtain⟨b0,c0,e,h0⟩:=h
 exact⟨b0,c0,e,h0.bw⟩
theorem eD.sort {g:GH} {b:Nat} {ns:List aa} {c:az} (H:eD g b ns c):fL ns:=by
 obtain⟨b0,c0,rfl,es,aZ,ms,_,h1,_⟩:=H
 exact h1.2.2.1
theorem eD.fK {h0:ay} {g0:GH} {S0:Nat→Prop} {g:GH} {L:List az} {h:ay} {C c:az} {b:Nat} {ns:List aa} (H:eD g b ns c) (s:St h0 g0 S0 g (C::L) h) (hc:∀p∈c,p∈C):iZ (cS g C) b ns:=by
 obtain⟨b0,c0,rfl,h1⟩:=H
 exact⟨b0,nV s.oJ (hc _ (.head _)),h1.fK s fun p hp=>hc p (.tail _ hp)⟩
theorem OC (B:World) (h:ay) (g:GH) (hg:bu g h) (bd:bz g):
  aG prog B 47 #[] h g [] (fun X g' L'=>∃b0 O,X=vP b0∧eD g' b0 ([⟨[47],[],0, -1,0,0⟩]) O∧g'=g∧L'=[O]):=by
 refine aG.aq func47 fun R hR=>At.go 1 1 []<|At.rg 8<|Op.makeMap (mt:=136) (dst:=1) (by kernel_rfl) (St.init hg) fun u Y Z=>?_
 have ab:St h g (aS []) g [[(u,.map #[] 0)],[]] Y:=St.bw (L:=[[(u,.map #[] 0)]]) rfl Z
 have ad:cG encS #[] 0 ([]:List (bp×Value)):=cG.empty _ _
 have ae:=gu.nil
 refine Op.px 1 [(2,.agg rR)]<|Op.bx 3 39 2 rR ab fun D be am=>?_
 have ar:=aH.zero 5 a_ g none
 refine Op.nY (d:=.string) (z:=.pointer none) (mt:=136) (x:=1) (ix:=(.const (vS ([47])))) (y:=3) (k:=([47])) (v:=vP D) (.inr (by kernel_rfl)) (by kernel_rfl) kz (by kernel_rfl) (by kernel_rfl) (by kernel_rfl) am.nl 2 rfl ad zt fun I J U aw a0=>?_
 have a1:gu (gR [] ([47]) (vP D)) ((D,.cells rR 39 (0,0))::[]++[]:az) (ei ([]:List aa) (⟨[47],([]:aj),0,(-1),0,0⟩:aa)):=ae.zC (g:=g) (l:=(⟨[47],([]:aj),0,(-1),0,0⟩:aa)) (by rfl) ar (by decide)
 have a3:St h g (aS []) g [[(u,.map I J)],[(D,Obj.cells rR 39 (0,0))],[],[]] U:=(a0.fs [1,2] rfl)
 have a4:St h g (aS []) g [[(u,.map I J)],((D,.cells rR 39 (0,0))::[]++[]:az)] U:=St.bw (L:=[[(u,.map I J)],[(D,Obj.cells rR 39 (0,0))],[],[]]) (by simp only[cm,List.flatten_nil,cJ,dL,dS,dm]) a3
 refine Op.px 2 [(5,.agg #[.map (some u)])]<|Op.bx 6 138 5 #[.map (some u)] a4 fun G V a5=>Op.pg 2 [(0,vP G)] ?_
 have a6:St h g (aS []) g [[(u,.map I J)],((D,.cells rR 39 (0,0))::[]++[]:az),[(G,Obj.cells #[.map (some u)] 138 (0,0))]] V:=(a5.fs [2,2] rfl)
 obtain⟨bi,a7,a8⟩:∃c,gq g u (ei ([]:List aa) (⟨[47],([]:aj),0,(-1),0,0⟩:aa)) c∧St h g (aS []) g (c::[[(G,Obj.cells #[.map (some u)] 138 (0,0))]]) V:=⟨_,a1.close aw (ga _),St.bw (L:=[(u,.map I J)]::((D,.cells rR 39 (0,0))::[]++[]:az)::[[(G,Obj.cells #[.map (some u)] 138 (0,0))]]) (by simp only[cm,cJ,dL,dS,dm]) a6⟩
 obtain⟨a9,bb,bc⟩:=St.bF (Q:=eD g G (ei ([]:List aa) (⟨[47],([]:aj),0,(-1),0,0⟩:aa))) 2 (a8.fs [1] rfl) ⟨_,_,rfl,a7⟩
 exact At.rt (vP G) (hR bc ⟨G,a9,rfl,bb.eq (by rfl),rfl,rfl⟩)
theorem OD (B:World) (h:ay) (g:GH) (hg:bu g h) (a4:bz g) (G:Nat) (t:List aa) (I:az) (ad:eD g G t I) (p:aj) (a5:Value) (data:aj) (a6:an g 5 a_ a5 data) (bK:Int) (hB:fB t) (hp:p.length≤1000000000) (hd:data.length≤1000000000) (hs:St h g (aS [I]) g [I] h):
  aG prog B 117 #[vP G,vS p,a5,vI bK] h g [I] (fun bk g' L'=>∃a7,bk=.tuple #[.int .i64 ((eU t p data bK).2.1),.int .i64 ((eU t p data bK).2.2)]∧eD g' G ((eU t p data bK).1) a7∧g'=g∧L'=[a7]):=by
 obtain⟨bm,bo,rfl⟩:=a6.ak
 refine aG.aq func117 fun R hR=>At.go 1 2 []<|At.rp 9 3 [(13,vP G),(14,vS p),(15,vI bK)] ?_
 have bs:=hs.gH
 have bt:=eD.fK ad hs (by intro p hp;simp only[eo,hp,nt,nv])
 refine Op.le (some 16) 0 hs (G5 _ _ _ hs.jk (a4.mono bs) G t bt p bK (by(try dsimp only)<;>omega)) (fun _ _ _ hp=>by obtain⟨ae,_,_⟩:=hp;exact ae) ?_ (hM:=(fun _ _ h=>absurd h (gP _)))
 rintro dl _ dp am ⟨ae,rfl,b3⟩;clear ae
 rcases b3 with ⟨rfl,a8⟩|⟨J,u,v31,dq,rfl,du,a9,b4,dv,dC,b5⟩
 ·have b6:((eV t p bK) != 0)=true:=uI.2 a8
  have dE:((eV t p bK)==0)=false:=qD.2 a8
  refine Op.pg 2 [(10,.pointer none),(11,vI (eV t p bK))]<|At.go 3 3 [(19,.bool ((eV t p bK) != 0))]<|At.cW ((eV t p bK) != 0) 19 4 6 (fun bb=>?_) fun hb=>?_
  ·replace bb:=fY bb
   exact At.go 5 3 [(8,vI 0),(9,vI (eV t p bK))]<|At.rt (.tuple #[vI 0,vI (eV t p bK)]) (hR am ⟨I,bA (bg (by(rw[Ch ‹_›];done))) (bg (by(rw[Ch ‹_›];done))),ad.eq (by(rw[Ch ‹_›];done)),rfl,rfl⟩)
  exact Bool.noConfusion (b6.symm.trans hb)
 refine Op.pg 2 [(10,vP J),(11,vI 0)]<|At.go 3 3 [(19,vF)]<|At.cQ 19 6<|At.go 7 4 [(23,.bool (decide ((data.length:Int)>128)))]<|At.fd ((data.length:Int)>128) 23 8 10 (fun dT=>?_) fun d0=>?_
 ·exact At.go 5 2 [(8,vI 0),(9,vI 104)]<|At.rt (.tuple #[vI 0,vI 104]) (hR am ⟨I,bA (bg (by(rw[Cj ‹_› ‹_› ‹_›];done))) (bg (by(rw[Cj ‹_› ‹_› ‹_›];done))),ad.eq (by(rw[Cj ‹_› ‹_› ‹_›];done)),rfl,rfl⟩)
 refine At.rp 6 2 [(27,vP J),(28,vL bm data.length bo)]<|Op.c0 (some 29) (ny _ _ _ am.sub a4 _ _ a6 (by(try dsimp only)<;>omega)) am ?_
 rintro _ b8 _ ar ca cb ⟨v46,O,rfl,bc,ae,rfl⟩;subst b8;clear ca
 obtain⟨X,Y,rfl⟩:=bc.ak
 refine Op.px 2 [(31,vQ J 1)] ?_
 obtain⟨D,a0,a1,ce⟩:=ad
 obtain⟨U,V,cf,a3,bd,be,ch⟩:=gq.kD ce
 have ci:St h g (aS [I]) g [a0,[(G,Obj.cells #[.map (some D)] 138 (0,0))],O] ar:=((St.un [a0] a1 (cb.fs [1] rfl)).fs [1] rfl)
 have ck:St h g (aS [I]) g ([(D,.map U V)]::a3::[[(G,Obj.cells #[.map (some D)] 138 (0,0))],O]) ar:=St.pR (L:=a0::[[(G,Obj.cells #[.map (some D)] 138 (0,0))],O]) (bd.append_right _) ci
 obtain⟨d1,Z,ab,co,c3,c4⟩:=ch.bB (g:=g) (l:=u) (b:=J) be (by rw[(jJ a9).2];exact a9) (HF (es:=U) (aZ:=V) (C:=(I:az)) (b0:=D) hs (by simp[a1]) (by simp[a1,bd.mem_iff]) b4 b5)
 obtain⟨a76,c5,rfl⟩:=c3.ak
 have c6:St h g (aS [I]) g [a3,[(D,.map U V)],[(G,Obj.cells #[.map (some D)] 138 (0,0))],O] ar:=(ck.fs [1] rfl)
 have c8:St h g (aS [I]) g [[(J,Obj.cells #[vS u.af,vL a76 u.Data.length c5,vI u.ai,vI u.aC,vI u.Next,vI u.aF] 39 (0,0))],Z,ab,[(D,.map U V)],[(G,Obj.cells #[.map (some D)] 138 (0,0))],O] ar:=St.pR (L:=a3::[[(D,.map U V)],[(G,Obj.cells #[.map (some D)] 138 (0,0))],O]) (by have hq:=co.append_right (List.flatten [[(D,.map U V)],[(G,Obj.cells #[.map (some D)] 138 (0,0))],O]);simpa only[cm,List.flatten_nil,cJ,dL,dS,dm] using hq) c6
 refine Op.s1 22 31 29 1 (vL X (data.length) Y) 0 #[vS u.af,vL X (data.length) Y,vI u.ai,vI u.aC,vI u.Next,vI u.aF] c8 zt fun d2 bi=>Op.gt 11<|At.rp 8 3 [(32,vP J),(34,vQ J 2)]<|Op.l1 3 34 35 2 (vI u.ai) (bi.ag 0 rfl)<|Op.vl 36 (.int .i64 (IntKind.wrap .i64 (u.ai+1))) (.int .i64 (IntKind.wrap .i64 (u.ai+1))) rfl ?_
 refine Op.px 2 [(38,vQ J 2)]<|Op.s1 3 38 36 2 (vI (IntKind.wrap .i64 (u.ai+1))) 0 #[vS u.af,vL X (data.length) Y,vI (IntKind.wrap .i64 (u.ai+1)),vI u.aC,vI u.Next,vI u.aF] bi zt fun aw bj=>Op.gt 12<|At.rp 6 3 [(41,vQ J 2)]<|Op.l1 3 41 42 2 (vI (IntKind.wrap .i64 (u.ai+1))) (bj.ag 0 rfl) ?_
 refine Op.pg 13 [(8,vI (IntKind.wrap .i64 (u.ai+1))),(9,vI 0)] ?_
 have c9:gu cf ((J,.cells #[vS u.af,vL X (data.length) Y,vI (IntKind.wrap .i64 (u.ai+1)),vI u.aC,vI u.Next,vI u.aF] 39 (0,0))::O++ab:az) (ei t (⟨u.af,data,IntKind.wrap .i64 (u.ai+1),u.aC,u.Next,u.aF⟩:aa)):=c4 (⟨u.af,data,IntKind.wrap .i64 (u.ai+1),u.aC,u.Next,u.aF⟩:aa) _ _ rfl bc
 have da:St h g (aS [I]) g [[(J,Obj.cells #[vS u.af,vL X (data.length) Y,vI (IntKind.wrap .i64 (u.ai+1)),vI u.aC,vI u.Next,vI u.aF] 39 (0,0))],O,ab,Z,[(D,.map U V)],[(G,Obj.cells #[.map (some D)] 138 (0,0))]] aw:=(bj.fs [4,4,3,4,5,5] rfl)
 have db:St h g (aS [I]) g [((J,.cells #[vS u.af,vL X (data.length) Y,vI (IntKind.wrap .i64 (u.ai+1)),vI u.aC,vI u.Next,vI u.aF] 39 (0,0))::O++ab:az),Z,[(D,.map U V)],[(G,Obj.cells #[.map (some D)] 138 (0,0))]] aw:=St.bw (L:=[[(J,Obj.cells #[vS u.af,vL X (data.length) Y,vI (IntKind.wrap .i64 (u.ai+1)),vI u.aC,vI u.Next,vI u.aF] 39 (0,0))],O,ab,Z,[(D,.map U V)],[(G,Obj.cells #[.map (some D)] 138 (0,0))]]) (by simp only[cm,List.flatten_nil,cJ,dL,dS,dm]) da
 have dc:St h g (aS [I]) g [[(D,.map U V)],((J,.cells #[vS u.af,vL X (data.length) Y,vI (IntKind.wrap .i64 (u.ai+1)),vI u.aC,vI u.Next,vI u.aF] 39 (0,0))::O++ab:az),Z,[(G,Obj.cells #[.map (some D)] 138 (0,0))]] aw:=(db.fs [1,1,2] rfl)
 obtain⟨d3,dd,df⟩:∃c,gq g D (ei t (⟨u.af,data,IntKind.wrap .i64 (u.ai+1),u.aC,u.Next,u.aF⟩:aa)) c∧St h g (aS [I]) g (c::[Z,[(G,Obj.cells #[.map (some D)] 138 (0,0))]]) aw:=⟨_,c9.close be (ga _),St.bw (L:=[(D,.map U V)]::((J,.cells #[vS u.af,vL X (data.length) Y,vI (IntKind.wrap .i64 (u.ai+1)),vI u.aC,vI u.Next,vI u.aF] 39 (0,0))::O++ab:az)::[Z,[(G,Obj.cells #[.map (some D)] 138 (0,0))]]) (by simp only[cm,cJ,dL,dS,dm]) dc⟩
 obtain⟨dg,dj,dk⟩:=St.bF (Q:=eD g G (ei t (⟨u.af,data,IntKind.wrap .i64 (u.ai+1),u.aC,u.Next,u.aF⟩:aa))) 2 (df.fs [1,1,2] rfl) ⟨_,_,rfl,dd⟩
 exact At.rt (.tuple #[vI (IntKind.wrap .i64 (u.ai+1)),vI 0])<|hR (dk.fs [1] rfl).drop ⟨dg,bA (bg (by(rw[Ck ‹_› ‹_› ‹_›];done))) (bg (by(rw[Ck ‹_› ‹_› ‹_›];done))),dj.eq (by(rw[Ck ‹_› ‹_› ‹_›];done)),rfl,rfl⟩
theorem OE {ns:List aa} {p q:bp} {up:aa} (hf:bU ns p=some up) (hq:bU ns q=none) (v:Int):bU (ei ns ⟨up.af,up.Data,up.ai,up.aC,v,up.aF⟩) q=none:=NO (up:=up) hf hq rfl
theorem HG (B:World) (h:ay) (g:GH) (hg:bu g h) (bo:bz g) (G:Nat) (t:List aa) (I:az) (be:eD g G t I) (p:aj) (dc:Value) (data:aj) (bs:an g 5 a_ dc data) (cC:Int) (born:Int) (num:Bool) (hP:l_ g) (hB:fB t) (hp:p.length≤100000000) (hd:data.length≤1000000000) (hs:St h g (aS [I]) g [I] h):
  aG prog B 116 #[vP G,vS p,dc,vI cC,vI born,.bool num] h g [I] (fun dC g' L'=>∃dd,dC=.tuple #[.string (br ((cg t p data cC born num).2.1)),.int .i64 ((cg t p data cC born num).2.2)]∧eD g' G ((cg t p data cC born num).1) dd∧g'=g∧L'=[dd]):=by
 obtain⟨cb,ce,rfl⟩:=bs.ak
 have dE:=be.sort
 refine aG.aq func116 fun R hR=>At.go 1 2 []<|At.rp 9 3 [(19,vP G),(20,vS p),(21,vL cb data.length ce)] ?_
 have df:=hs.gH
 have dT:=eD.fK be hs (by intro p hp;simp only[eo,hp,nt,nv])
 refine Op.le (some 22) 0 hs (Oh _ _ _ hs.jk (bo.mono df) G t dT p _ _ (bs.mono df) (by(try dsimp only)<;>omega)) (fun _ _ _ hp=>by obtain⟨bi,_,_⟩:=hp;exact bi) ?_ (hM:=(fun _ _ h=>absurd h (gP _)))
 rintro hn _ a1 cf ⟨bi,rfl,d0⟩;clear bi
 rcases d0 with ⟨rfl,dg⟩|⟨J,u,v31,ho,rfl,hr,a3,d1,hu,hw,d2⟩
 ·have d3:((fQ t p data) != 0)=true:=uI.2 dg
  have hx:((fQ t p data)==0)=false:=qD.2 dg
  refine Op.pg 2 [(14,.pointer none),(15,vI (fQ t p data))]<|At.go 3 2 [(26,.bool ((fQ t p data) != 0))]<|At.cW ((fQ t p data) != 0) 26 4 6 (fun dj=>?_) fun hb=>?_
  ·replace dj:=fY dj
   exact At.go 5 3 [(12,vS []),(13,vI (fQ t p data))]<|At.rt (.tuple #[vS [],vI (fQ t p data)]) (hR cf ⟨I,bA (iL (by(rw[Cl ‹_›];done))) (bg (by(rw[Cl ‹_›];done))),be.eq (by(rw[Cl ‹_›];done)),rfl,rfl⟩)
  exact Bool.noConfusion (d3.symm.trans hb)
 refine Op.pg 2 [(14,vP J),(15,vI 0)]<|At.go 3 2 [(26,vF)]<|At.cQ 26 6<|At.go 7 1 [(28,.bool num)]<|At.cW num 28 8 13 (fun d4=>?_) fun d5=>?_
 ·refine At.rp 11 4 [(30,vS p),(33,vQ J 4)] ?_
  obtain⟨D,ch,ci,d6⟩:=be
  obtain⟨Z,ab,bb,ck,dk,a4,bc⟩:=gq.kD d6
  have d7:St h g (aS [I]) g [ch,[(G,Obj.cells #[.map (some D)] 138 (0,0))]] a1:=((St.un [ch] ci cf).fs [1] rfl)
  have d8:St h g (aS [I]) g ([(D,.map Z ab)]::ck::[[(G,Obj.cells #[.map (some D)] 138 (0,0))]]) a1:=St.pR (L:=ch::[[(G,Obj.cells #[.map (some D)] 138 (0,0))]]) (dk.append_right _) d7
  obtain⟨hy,X,Y,d9,bj,bt⟩:=bc.bB (g:=g) (l:=u) (b:=J) a4 (by rw[(jJ a3).2];exact a3) (HF (es:=Z) (aZ:=ab) (C:=(I:az)) (b0:=D) hs (by simp[ci]) (by simp[ci,dk.mem_iff]) d1 d2)
  obtain⟨U,V,rfl⟩:=bj.ak
  have ea:St h g (aS [I]) g [ck,[(D,.map Z ab)],[(G,Obj.cells #[.map (some D)] 138 (0,0))]] a1:=(d8.fs [1] rfl)
  have co:St h g (aS [I]) g [[(J,Obj.cells #[vS u.af,vL U u.Data.length V,vI u.ai,vI u.aC,vI u.Next,vI u.aF] 39 (0,0))],X,Y,[(D,.map Z ab)],[(G,Obj.cells #[.map (some D)] 138 (0,0))]] a1:=St.pR (L:=ck::[[(D,.map Z ab)],[(G,Obj.cells #[.map (some D)] 138 (0,0))]]) (by have hq:=d9.append_right (List.flatten [[(D,.map Z ab)],[(G,Obj.cells #[.map (some D)] 138 (0,0))]]);simpa only[cm,List.flatten_nil,cJ,dL,dS,dm] using hq) ea
  refine Op.l1 3 33 34 4 (vI u.Next) (co.ag 0 rfl)<|Op.c1 35 (N_ _ _ _ co.sub bo p u.Next hP (by((try dsimp only)<;>((have:=fB.next hB ‹_›;omega)))) (by((try dsimp only)<;>((have:=fB.next hB ‹_›;omega)))) (by((try dsimp only)<;>((have:=fB.next hB ‹_›;omega))))) co fun aw ad=>Op.pg 9 [(1,vS (eu p u.Next)),(15,vI (j3 p u.Next))]<|At.go 10 2 [(39,.bool ((j3 p u.Next) != 0))]<|At.fn ((j3 p u.Next)=0) 39 11 13 (fun hz=>?_) fun hA=>?_
  ·refine At.go 12 3 [(12,vS []),(13,vI (j3 p u.Next))] ?_
   have eb:gu bb ((J,.cells #[vS u.af,vL U u.Data.length V,vI u.ai,vI u.aC,vI u.Next,vI u.aF] 39 (0,0))::X++Y:az) t:=by have hq:=bt u _ _ rfl bj;rwa[yU bc.sort (by rw[(jJ a3).2];exact a3)] at hq
   have ed:St h g (aS [I]) g [((J,.cells #[vS u.af,vL U u.Data.length V,vI u.ai,vI u.aC,vI u.Next,vI u.aF] 39 (0,0))::X++Y:az),[(D,.map Z ab)],[(G,Obj.cells #[.map (some D)] 138 (0,0))]] aw:=St.bw (L:=[[(J,Obj.cells #[vS u.af,vL U u.Data.length V,vI u.ai,vI u.aC,vI u.Next,vI u.aF] 39 (0,0))],X,Y,[(D,.map Z ab)],[(G,Obj.cells #[.map (some D)] 138 (0,0))]]) (by simp only[cm,List.flatten_nil,cJ,dL,dS,dm]) ad
   have ee:St h g (aS [I]) g [[(D,.map Z ab)],((J,.cells #[vS u.af,vL U u.Data.length V,vI u.ai,vI u.aC,vI u.Next,vI u.aF] 39 (0,0))::X++Y:az),[(G,Obj.cells #[.map (some D)] 138 (0,0))]] aw:=(ed.fs [1] rfl)
   obtain⟨hC,ef,eh⟩:∃c,gq g D t c∧St h g (aS [I]) g (c::[[(G,Obj.cells #[.map (some D)] 138 (0,0))]]) aw:=⟨_,eb.close a4 (ga _),St.bw (L:=[(D,.map Z ab)]::((J,.cells #[vS u.af,vL U u.Data.length V,vI u.ai,vI u.aC,vI u.Next,vI u.aF] 39 (0,0))::X++Y:az)::[[(G,Obj.cells #[.map (some D)] 138 (0,0))]]) (by simp only[cm,cJ,dL,dS,dm]) ee⟩
   obtain⟨ej,em,en⟩:=St.bF (Q:=eD g G t) 2 (eh.fs [1] rfl) ⟨_,_,rfl,ef⟩
   exact At.rt (.tuple #[vS [],vI (j3 p u.Next)]) (hR en ⟨ej,bA (iL (by(rw[Cm ‹_› ‹_› ‹_› ‹_›];done))) (bg (by(rw[Cm ‹_› ‹_› ‹_› ‹_›];done))),em.eq (by(rw[Cm ‹_› ‹_› ‹_› ‹_›];done)),rfl,rfl⟩)
  refine At.rp 11 3 [(44,vP G)]<|Op.l1 136 44 45 0 (.map (some D)) (ad.ag 4 rfl)<|Op.px 1 [(46,vS (eu p u.Next))] ?_
  obtain⟨ep,c3⟩:∃o,fq bb (eu p u.Next)=o:=⟨_,rfl⟩
  have b3:=bc.gS (eu p u.Next)
  rw[c3] at b3
  rcases ep with _|hD
  ·have hE:bU t (eu p u.Next)=none:=by cases hq:bU t (eu p u.Next) with|none=>rfl|some _=>(rw[hq] at b3;cases b3)
   refine Op.rF (ok:=true) (d:=.string) (mt:=136) (x:=45) (ix:=46) (dst:=47) (k:=(eu p u.Next)) (m:=D) (z:=.pointer none) (by kernel_rfl) (by kernel_rfl) kz (by kernel_rfl) (by kernel_rfl) (ad.ag 3 rfl) a4 c3<|Op.pg 14 [(17,vF)]<|At.go 15 1 [(50,vF)]<|At.cQ 50 18<|At.rp 6 3 [(53,vP G)] ?_
   refine Op.l1 136 53 54 0 (.map (some D)) (ad.ag 4 rfl)<|Op.BT (d:=.string) (mt:=136) (x:=54) (dst:=55) (m:=D) (z:=.pointer none) (by kernel_rfl) (by kernel_rfl) (by kernel_rfl) rfl (ad.ag 3 rfl) a4 bc.len<|Op.pg 19 [(56,.bool (decide ((t.length:Int)≥32)))]<|At.fd ((t.length:Int)≥32) 56 20 22 (fun hF=>?_) fun hG=>?_
   ·refine At.go 21 2 [(12,vS []),(13,vI 104)] ?_
    have er:gu bb ((J,.cells #[vS u.af,vL U u.Data.length V,vI u.ai,vI u.aC,vI u.Next,vI u.aF] 39 (0,0))::X++Y:az) t:=by have hq:=bt u _ _ rfl bj;rwa[yU bc.sort (by rw[(jJ a3).2];exact a3)] at hq
    have et:St h g (aS [I]) g [((J,.cells #[vS u.af,vL U u.Data.length V,vI u.ai,vI u.aC,vI u.Next,vI u.aF] 39 (0,0))::X++Y:az),[(D,.map Z ab)],[(G,Obj.cells #[.map (some D)] 138 (0,0))]] aw:=St.bw (L:=[[(J,Obj.cells #[vS u.af,vL U u.Data.length V,vI u.ai,vI u.aC,vI u.Next,vI u.aF] 39 (0,0))],X,Y,[(D,.map Z ab)],[(G,Obj.cells #[.map (some D)] 138 (0,0))]]) (by simp only[cm,List.flatten_nil,cJ,dL,dS,dm]) ad
    have ex:St h g (aS [I]) g [[(D,.map Z ab)],((J,.cells #[vS u.af,vL U u.Data.length V,vI u.ai,vI u.aC,vI u.Next,vI u.aF] 39 (0,0))::X++Y:az),[(G,Obj.cells #[.map (some D)] 138 (0,0))]] aw:=(et.fs [1] rfl)
    obtain⟨hH,eA,eB⟩:∃c,gq g D t c∧St h g (aS [I]) g (c::[[(G,Obj.cells #[.map (some D)] 138 (0,0))]]) aw:=⟨_,er.close a4 (ga _),St.bw (L:=[(D,.map Z ab)]::((J,.cells #[vS u.af,vL U u.Data.length V,vI u.ai,vI u.aC,vI u.Next,vI u.aF] 39 (0,0))::X++Y:az)::[[(G,Obj.cells #[.map (some D)] 138 (0,0))]]) (by simp only[cm,cJ,dL,dS,dm]) ex⟩
    obtain⟨eI,eJ,eK⟩:=St.bF (Q:=eD g G t) 2 (eB.fs [1] rfl) ⟨_,_,rfl,eA⟩
    exact At.rt (.tuple #[vS [],vI 104]) (hR eK ⟨eI,bA (iL (by(rw[uV ‹_› ‹_› (by simp[gd, *]) (by simp[fh, *]<;>rfl) ‹_› ‹_›];done))) (bg (by(rw[uV ‹_› ‹_› (by simp[gd, *]) (by simp[fh, *]<;>rfl) ‹_› ‹_›];done))),eJ.eq (by(rw[uV ‹_› ‹_› (by simp[gd, *]) (by simp[fh, *]<;>rfl) ‹_› ‹_›];done)),rfl,rfl⟩)
   refine At.go 23 1 [(57,.bool num)]<|At.cW num 57 24 25 (fun hI=>?_) fun hb=>?_
   ·refine At.rp 8 3 [(58,vP J),(60,vQ J 4)]<|Op.l1 3 60 61 4 (vI u.Next) (ad.ag 0 rfl)<|Op.vl 62 (.int .i64 (IntKind.wrap .i64 (u.Next+1))) (.int .i64 (IntKind.wrap .i64 (u.Next+1))) rfl<|Op.px 2 [(64,vQ J 4)]<|Op.s1 3 64 62 4 (vI (IntKind.wrap .i64 (u.Next+1))) 0 #[vS u.af,vL U u.Data.length V,vI u.ai,vI u.aC,vI (IntKind.wrap .i64 (u.Next+1)),vI u.aF] ad zt fun hJ c4=>?_
    refine Op.gt 25<|At.dw (fun _=>False) [(0,true),(1,true),(2,true),(4,true),(5,true),(6,true),(8,true),(9,true),(10,true),(11,true),(3,true),(7,false),(12,true),(13,false),(1014,false),(14,false)]<|Op.px 7 [(67,vP G),(69,vS (eu p u.Next)),(70,vS (eu p u.Next)),(71,vL cb data.length ce),(73,vI cC)]<|Op.vl 74 (.int .i64 (if ((-1):Int)>cC then ((-1):Int) else cC)) (.int .i64 (max cC ((-1):Int))) (uX _ _)<|Op.px 1 [(75,vI born)] ?_
    refine Op.vl 76 (.int .i64 (if (0:Int)>born then (0:Int) else born)) (.int .i64 (max born (0:Int))) (uX _ _)<|Op.lf 136 67 0 68 1 (.map (some D)) id (c4.ag 4 rfl)<|Op.c0 (some 72) (ny _ _ _ c4.sub bo _ _ bs (by(try dsimp only)<;>omega)) c4 ?_
    rintro _ eL _ hK eQ e1 ⟨hL,a5,rfl,dl,bi,rfl⟩;subst eL;clear eQ
    obtain⟨ae,am,rfl⟩:=dl.ak
    refine Op.px 1 [(77,.agg #[vS (eu p u.Next),vL ae (data.length) am,vI 0,vI (max cC ((-1):Int)),vI 0,vI (max born (0:Int))])]<|Op.bx 78 39 77 #[vS (eu p u.Next),vL ae (data.length) am,vI 0,vI (max cC ((-1):Int)),vI 0,vI (max born (0:Int))] e1 fun ar dp e2=>Op.ba ?_
    have e3:gu bb ((J,.cells #[vS u.af,vL U u.Data.length V,vI u.ai,vI u.aC,vI (IntKind.wrap .i64 (u.Next+1)),vI u.aF] 39 (0,0))::X++Y:az) (ei t (⟨u.af,u.Data,u.ai,u.aC,IntKind.wrap .i64 (u.Next+1),u.aF⟩:aa)):=bt (⟨u.af,u.Data,u.ai,u.aC,IntKind.wrap .i64 (u.Next+1),u.aF⟩:aa) _ _ rfl bj
    have e4:St h g (aS [I]) g [[(J,Obj.cells #[vS u.af,vL U u.Data.length V,vI u.ai,vI u.aC,vI (IntKind.wrap .i64 (u.Next+1)),vI u.aF] 39 (0,0))],X,Y,[(ar,Obj.cells #[vS (eu p u.Next),vL ae (data.length) am,vI 0,vI (max cC ((-1):Int)),vI 0,vI (max born (0:Int))] 39 (0,0))],a5,[(D,.map Z ab)],[(G,Obj.cells #[.map (some D)] 138 (0,0))]] dp:=(e2.fs [1,1,4,4,4] rfl)
    have e5:St h g (aS [I]) g [((J,.cells #[vS u.af,vL U u.Data.length V,vI u.ai,vI u.aC,vI (IntKind.wrap .i64 (u.Next+1)),vI u.aF] 39 (0,0))::X++Y:az),[(ar,Obj.cells #[vS (eu p u.Next),vL ae (data.length) am,vI 0,vI (max cC ((-1):Int)),vI 0,vI (max born (0:Int))] 39 (0,0))],a5,[(D,.map Z ab)],[(G,Obj.cells #[.map (some D)] 138 (0,0))]] dp:=St.bw (L:=[[(J,Obj.cells #[vS u.af,vL U u.Data.length V,vI u.ai,vI u.aC,vI (IntKind.wrap .i64 (u.Next+1)),vI u.aF] 39 (0,0))],X,Y,[(ar,Obj.cells #[vS (eu p u.Next),vL ae (data.length) am,vI 0,vI (max cC ((-1):Int)),vI 0,vI (max born (0:Int))] 39 (0,0))],a5,[(D,.map Z ab)],[(G,Obj.cells #[.map (some D)] 138 (0,0))]]) (by simp only[cm,List.flatten_nil,cJ,dL,dS,dm]) e4
    refine Op.nY (d:=.string) (z:=.pointer none) (mt:=136) (x:=68) (ix:=69) (y:=78) (k:=(eu p u.Next)) (v:=vP ar) (.inl (by kernel_rfl)) (by kernel_rfl) kz (by kernel_rfl) (by kernel_rfl) (by kernel_rfl) e5 3 rfl a4 zt fun b4 b5 c5 e6 e7=>?_
    have e8:gu (gR bb (eu p u.Next) (vP ar)) ((ar,.cells #[vS (eu p u.Next),vL ae (data.length) am,vI 0,vI (max cC ((-1):Int)),vI 0,vI (max born (0:Int))] 39 (0,0))::a5++((J,.cells #[vS u.af,vL U u.Data.length V,vI u.ai,vI u.aC,vI (IntKind.wrap .i64 (u.Next+1)),vI u.aF] 39 (0,0))::X++Y:az):az) (ei (ei t (⟨u.af,u.Data,u.ai,u.aC,IntKind.wrap .i64 (u.Next+1),u.aF⟩:aa)) (⟨eu p u.Next,data,0,(max cC ((-1):Int)),0,(max born (0:Int))⟩:aa)):=e3.zC (g:=g) (l:=(⟨eu p u.Next,data,0,(max cC ((-1):Int)),0,(max born (0:Int))⟩:aa)) (by exact OE (p:=parentOf p) ‹_› ‹_› _) dl (by exact Cn _ _)
    have e9:St h g (aS [I]) g [[(D,.map b4 b5)],[(ar,Obj.cells #[vS (eu p u.Next),vL ae (data.length) am,vI 0,vI (max cC ((-1):Int)),vI 0,vI (max born (0:Int))] 39 (0,0))],a5,((J,.cells #[vS u.af,vL U u.Data.length V,vI u.ai,vI u.aC,vI (IntKind.wrap .i64 (u.Next+1)),vI u.aF] 39 (0,0))::X++Y:az),[(G,Obj.cells #[.map (some D)] 138 (0,0))]] c5:=(e7.fs [2,2,3] rfl)
    have fa:St h g (aS [I]) g [[(D,.map b4 b5)],((ar,.cells #[vS (eu p u.Next),vL ae (data.length) am,vI 0,vI (max cC ((-1):Int)),vI 0,vI (max born (0:Int))] 39 (0,0))::a5++((J,.cells #[vS u.af,vL U u.Data.length V,vI u.ai,vI u.aC,vI (IntKind.wrap .i64 (u.Next+1)),vI u.aF] 39 (0,0))::X++Y:az):az),[(G,Obj.cells #[.map (some D)] 138 (0,0))]] c5:=St.bw (L:=[[(D,.map b4 b5)],[(ar,Obj.cells #[vS (eu p u.Next),vL ae (data.length) am,vI 0,vI (max cC ((-1):Int)),vI 0,vI (max born (0:Int))] 39 (0,0))],a5,((J,.cells #[vS u.af,vL U u.Data.length V,vI u.ai,vI u.aC,vI (IntKind.wrap .i64 (u.Next+1)),vI u.aF] 39 (0,0))::X++Y:az),[(G,Obj.cells #[.map (some D)] 138 (0,0))]]) (by simp only[cm,List.flatten_nil,cJ,dL,dS,dm]) e9
    refine Op.gt 26<|At.go 27 3 [(12,vS (eu p u.Next)),(13,vI 0)] ?_
    obtain⟨hN,fg,fi⟩:∃c,gq g D (ei (ei t (⟨u.af,u.Data,u.ai,u.aC,IntKind.wrap .i64 (u.Next+1),u.aF⟩:aa)) (⟨eu p u.Next,data,0,(max cC ((-1):Int)),0,(max born (0:Int))⟩:aa)) c∧St h g (aS [I]) g (c::[[(G,Obj.cells #[.map (some D)] 138 (0,0))]]) c5:=⟨_,e8.close e6 (ga _),St.bw (L:=[(D,.map b4 b5)]::((ar,.cells #[vS (eu p u.Next),vL ae (data.length) am,vI 0,vI (max cC ((-1):Int)),vI 0,vI (max born (0:Int))] 39 (0,0))::a5++((J,.cells #[vS u.af,vL U u.Data.length V,vI u.ai,vI u.aC,vI (IntKind.wrap .i64 (u.Next+1)),vI u.aF] 39 (0,0))::X++Y:az):az)::[[(G,Obj.cells #[.map (some D)] 138 (0,0))]]) (by simp only[cm,cJ,dL,dS,dm]) fa⟩
    obtain⟨fj,fl,fp⟩:=St.bF (Q:=eD g G (ei (ei t (⟨u.af,u.Data,u.ai,u.aC,IntKind.wrap .i64 (u.Next+1),u.aF⟩:aa)) (⟨eu p u.Next,data,0,(max cC ((-1):Int)),0,(max born (0:Int))⟩:aa))) 2 (fi.fs [1] rfl) ⟨_,_,rfl,fg⟩
    exact At.rt (.tuple #[vS (eu p u.Next),vI 0]) (hR fp ⟨fj,bA (iL (by(rw[uW ‹_› ‹_› (by simp[gd, *]) (by simp[fh, *]<;>rfl) ‹_› ‹_›];done))) (bg (by(rw[uW ‹_› ‹_› (by simp[gd, *]) (by simp[fh, *]<;>rfl) ‹_› ‹_›];done))),fl.eq (by(rw[uW ‹_› ‹_› (by simp[gd, *]) (by simp[fh, *]<;>rfl) ‹_› ‹_›];exact(NQ ‹_›).symm)),rfl,rfl⟩)
   exact Bool.noConfusion (d4.symm.trans hb)
  have hO:(bU t (eu p u.Next)).isSome=true:=b3.symm
  refine Op.pP (ok:=true) (d:=.string) (mt:=136) (x:=45) (ix:=46) (dst:=47) (k:=(eu p u.Next)) (m:=D) (z:=.pointer none) (by kernel_rfl) (by kernel_rfl) kz (by kernel_rfl) (by kernel_rfl) (ad.ag 3 rfl) a4 c3<|Op.pg 14 [(17,vT)]<|At.go 15 1 [(50,vT)]<|At.bT 50 16<|At.go 17 2 [(12,vS []),(13,vI 101)] ?_
  have fr:gu bb ((J,.cells #[vS u.af,vL U u.Data.length V,vI u.ai,vI u.aC,vI u.Next,vI u.aF] 39 (0,0))::X++Y:az) t:=by have hq:=bt u _ _ rfl bj;rwa[yU bc.sort (by rw[(jJ a3).2];exact a3)] at hq
  have ft:St h g (aS [I]) g [((J,.cells #[vS u.af,vL U u.Data.length V,vI u.ai,vI u.aC,vI u.Next,vI u.aF] 39 (0,0))::X++Y:az),[(D,.map Z ab)],[(G,Obj.cells #[.map (some D)] 138 (0,0))]] aw:=St.bw (L:=[[(J,Obj.cells #[vS u.af,vL U u.Data.length V,vI u.ai,vI u.aC,vI u.Next,vI u.aF] 39 (0,0))],X,Y,[(D,.map Z ab)],[(G,Obj.cells #[.map (some D)] 138 (0,0))]]) (by simp only[cm,List.flatten_nil,cJ,dL,dS,dm]) ad
  have fv:St h g (aS [I]) g [[(D,.map Z ab)],((J,.cells #[vS u.af,vL U u.Data.length V,vI u.ai,vI u.aC,vI u.Next,vI u.aF] 39 (0,0))::X++Y:az),[(G,Obj.cells #[.map (some D)] 138 (0,0))]] aw:=(ft.fs [1] rfl)
  obtain⟨hQ,fw,fx⟩:∃c,gq g D t c∧St h g (aS [I]) g (c::[[(G,Obj.cells #[.map (some D)] 138 (0,0))]]) aw:=⟨_,fr.close a4 (ga _),St.bw (L:=[(D,.map Z ab)]::((J,.cells #[vS u.af,vL U u.Data.length V,vI u.ai,vI u.aC,vI u.Next,vI u.aF] 39 (0,0))::X++Y:az)::[[(G,Obj.cells #[.map (some D)] 138 (0,0))]]) (by simp only[cm,cJ,dL,dS,dm]) fv⟩
  obtain⟨f0,f1,f2⟩:=St.bF (Q:=eD g G t) 2 (fx.fs [1] rfl) ⟨_,_,rfl,fw⟩
  exact At.rt (.tuple #[vS [],vI 101]) (hR f2 ⟨f0,bA (iL (by(rw[uU ‹_› ‹_› (by simp[gd, *]) (by simp[fh, *]<;>rfl) ‹_›];done))) (bg (by(rw[uU ‹_› ‹_› (by simp[gd, *]) (by simp[fh, *]<;>rfl) ‹_›];done))),f1.eq (by(rw[uU ‹_› ‹_› (by simp[gd, *]) (by simp[fh, *]<;>rfl) ‹_›];done)),rfl,rfl⟩)
 refine At.rp 11 3 [(44,vP G)] ?_
 obtain⟨O,c6,f3,f4⟩:=be
 have dq:=St.un [c6] f3 cf
 refine Op.l1 136 44 45 0 (.map (some O)) (dq.ag 0 rfl)<|Op.px 1 [(46,vS p)] ?_
 obtain⟨c8,c9,du,a6,f5,bd,bk⟩:=gq.kD f4
 have f6:St h g (aS [I]) g [c6,[(G,Obj.cells #[.map (some O)] 138 (0,0))]] a1:=(dq.fs [1] rfl)
 have a0:St h g (aS [I]) g ([(O,.map c8 c9)]::a6::[[(G,Obj.cells #[.map (some O)] 138 (0,0))]]) a1:=St.pR (L:=c6::[[(G,Obj.cells #[.map (some O)] 138 (0,0))]]) (f5.append_right _) f6
 obtain⟨f7,da⟩:∃o,fq du p=o:=⟨_,rfl⟩
 have b6:=bk.gS p
 rw[da] at b6
 rcases f7 with _|hS
 ·have hT:bU t p=none:=by cases hq:bU t p with|none=>rfl|some _=>(rw[hq] at b6;cases b6)
  refine Op.rF (ok:=true) (d:=.string) (mt:=136) (x:=45) (ix:=46) (dst:=47) (k:=p) (m:=O) (z:=.pointer none) (by kernel_rfl) (by kernel_rfl) kz (by kernel_rfl) (by kernel_rfl) (a0.ag 0 rfl) bd da<|Op.pg 14 [(17,vF)]<|At.go 15 1 [(50,vF)]<|At.cQ 50 18<|At.rp 6 3 [(53,vP G)] ?_
  refine Op.l1 136 53 54 0 (.map (some O)) (a0.ag 2 rfl)<|Op.BT (d:=.string) (mt:=136) (x:=54) (dst:=55) (m:=O) (z:=.pointer none) (by kernel_rfl) (by kernel_rfl) (by kernel_rfl) rfl (a0.ag 0 rfl) bd bk.len<|Op.pg 19 [(56,.bool (decide ((t.length:Int)≥32)))]<|At.fd ((t.length:Int)≥32) 56 20 22 (fun hV=>?_) fun hW=>?_
  ·refine At.go 21 2 [(12,vS []),(13,vI 104)] ?_
   obtain⟨hX,f8,f9⟩:∃c,gq g O t c∧St h g (aS [I]) g (c::[[(G,Obj.cells #[.map (some O)] 138 (0,0))]]) a1:=⟨_,bk.close bd (ga _),St.bw (L:=[(O,.map c8 c9)]::a6::[[(G,Obj.cells #[.map (some O)] 138 (0,0))]]) (by simp only[cm,cJ,dL,dS,dm]) a0⟩
   obtain⟨gc,ge,gg⟩:=St.bF (Q:=eD g G t) 2 (f9.fs [1] rfl) ⟨_,_,rfl,f8⟩
   exact At.rt (.tuple #[vS [],vI 104]) (hR gg ⟨gc,bA (iL (by(rw[uV ‹_› ‹_› (by simp[gd, *]) (by simp[fh, *]<;>rfl) ‹_› ‹_›];done))) (bg (by(rw[uV ‹_› ‹_› (by simp[gd, *]) (by simp[fh, *]<;>rfl) ‹_› ‹_›];done))),ge.eq (by(rw[uV ‹_› ‹_› (by simp[gd, *]) (by simp[fh, *]<;>rfl) ‹_› ‹_›];done)),rfl,rfl⟩)
  refine At.go 23 1 [(57,.bool num)]<|At.cW num 57 24 25 (fun hb=>?_) fun hY=>?_
  ·exact Bool.noConfusion (hb.symm.trans d5)
  refine At.dw (fun _=>False) [(0,true),(1,true),(2,true),(4,true),(5,true),(6,true),(8,true),(9,true),(10,true),(11,true),(3,true),(7,false),(12,true),(13,false),(1014,false),(14,false)]<|Op.px 7 [(67,vP G),(69,vS p),(70,vS p),(71,vL cb data.length ce),(73,vI cC)]<|Op.vl 74 (.int .i64 (if ((-1):Int)>cC then ((-1):Int) else cC)) (.int .i64 (max cC ((-1):Int))) (uX _ _)<|Op.px 1 [(75,vI born)]<|Op.vl 76 (.int .i64 (if (0:Int)>born then (0:Int) else born)) (.int .i64 (max born (0:Int))) (uX _ _) ?_
  refine Op.lf 136 67 0 68 1 (.map (some O)) id (a0.ag 2 rfl)<|Op.c0 (some 72) (ny _ _ _ a0.sub bo _ _ bs (by(try dsimp only)<;>omega)) a0 ?_
  rintro _ gk _ hZ gn gs ⟨h1,bm,rfl,dv,bi,rfl⟩;subst gk;clear gn
  obtain⟨a7,a8,rfl⟩:=dv.ak
  refine Op.px 1 [(77,.agg #[vS p,vL a7 (data.length) a8,vI 0,vI (max cC ((-1):Int)),vI 0,vI (max born (0:Int))])]<|Op.bx 78 39 77 #[vS p,vL a7 (data.length) a8,vI 0,vI (max cC ((-1):Int)),vI 0,vI (max born (0:Int))] gs fun a9 h2 g1=>Op.ba<|Op.nY (d:=.string) (z:=.pointer none) (mt:=136) (x:=68) (ix:=69) (y:=78) (k:=p) (v:=vP a9) (.inl (by kernel_rfl)) (by kernel_rfl) kz (by kernel_rfl) (by kernel_rfl) (by kernel_rfl) g1 2 rfl bd zt fun b8 ca db g2 g3=>?_
  have g4:gu (gR du p (vP a9)) ((a9,.cells #[vS p,vL a7 (data.length) a8,vI 0,vI (max cC ((-1):Int)),vI 0,vI (max born (0:Int))] 39 (0,0))::bm++a6:az) (ei t (⟨p,data,0,(max cC ((-1):Int)),0,(max born (0:Int))⟩:aa)):=bk.zC (g:=g) (l:=(⟨p,data,0,(max cC ((-1):Int)),0,(max born (0:Int))⟩:aa)) ‹_› dv (by exact Co (GN ‹_› ‹_›).1)
  have g5:St h g (aS [I]) g [[(O,.map b8 ca)],[(a9,Obj.cells #[vS p,vL a7 (data.length) a8,vI 0,vI (max cC ((-1):Int)),vI 0,vI (max born (0:Int))] 39 (0,0))],bm,a6,[(G,Obj.cells #[.map (some O)] 138 (0,0))]] db:=(g3.fs [1,1,2] rfl)
  have g6:St h g (aS [I]) g [[(O,.map b8 ca)],((a9,.cells #[vS p,vL a7 (data.length) a8,vI 0,vI (max cC ((-1):Int)),vI 0,vI (max born (0:Int))] 39 (0,0))::bm++a6:az),[(G,Obj.cells #[.map (some O)] 138 (0,0))]] db:=St.bw (L:=[[(O,.map b8 ca)],[(a9,Obj.cells #[vS p,vL a7 (data.length) a8,vI 0,vI (max cC ((-1):Int)),vI 0,vI (max born (0:Int))] 39 (0,0))],bm,a6,[(G,Obj.cells #[.map (some O)] 138 (0,0))]]) (by simp only[cm,List.flatten_nil,cJ,dL,dS,dm]) g5
  refine Op.gt 26<|At.go 27 3 [(12,vS p),(13,vI 0)] ?_
  obtain⟨h3,g7,g8⟩:∃c,gq g O (ei t (⟨p,data,0,(max cC ((-1):Int)),0,(max born (0:Int))⟩:aa)) c∧St h g (aS [I]) g (c::[[(G,Obj.cells #[.map (some O)] 138 (0,0))]]) db:=⟨_,g4.close g2 (ga _),St.bw (L:=[(O,.map b8 ca)]::((a9,.cells #[vS p,vL a7 (data.length) a8,vI 0,vI (max cC ((-1):Int)),vI 0,vI (max born (0:Int))] 39 (0,0))::bm++a6:az)::[[(G,Obj.cells #[.map (some O)] 138 (0,0))]]) (by simp only[cm,cJ,dL,dS,dm]) g6⟩
  obtain⟨g9,ha,he⟩:=St.bF (Q:=eD g G (ei t (⟨p,data,0,(max cC ((-1):Int)),0,(max born (0:Int))⟩:aa))) 2 (g8.fs [1] rfl) ⟨_,_,rfl,g7⟩
  exact At.rt (.tuple #[vS p,vI 0]) (hR he ⟨g9,bA (iL (by(rw[uW ‹_› ‹_› (by simp[gd, *]) (by simp[fh, *]<;>rfl) ‹_› ‹_›];done))) (bg (by(rw[uW ‹_› ‹_› (by simp[gd, *]) (by simp[fh, *]<;>rfl) ‹_› ‹_›];done))),ha.eq (by(rw[uW ‹_› ‹_› (by simp[gd, *]) (by simp[fh, *]<;>rfl) ‹_› ‹_›];exact(NP ‹_› dE ‹_›).symm)),rfl,rfl⟩)
 have h4:(bU t p).isSome=true:=b6.symm
 refine Op.pP (ok:=true) (d:=.string) (mt:=136) (x:=45) (ix:=46) (dst:=47) (k:=p) (m:=O) (z:=.pointer none) (by kernel_rfl) (by kernel_rfl) kz (by kernel_rfl) (by kernel_rfl) (a0.ag 0 rfl) bd da<|Op.pg 14 [(17,vT)]<|At.go 15 1 [(50,vT)]<|At.bT 50 16<|At.go 17 2 [(12,vS []),(13,vI 101)] ?_
 obtain⟨h5,hf,hh⟩:∃c,gq g O t c∧St h g (aS [I]) g (c::[[(G,Obj.cells #[.map (some O)] 138 (0,0))]]) a1:=⟨_,bk.close bd (ga _),St.bw (L:=[(O,.map c8 c9)]::a6::[[(G,Obj.cells #[.map (some O)] 138 (0,0))]]) (by simp only[cm,cJ,dL,dS,dm]) a0⟩
 obtain⟨hj,hl,hm⟩:=St.bF (Q:=eD g G t) 2 (hh.fs [1] rfl) ⟨_,_,rfl,hf⟩
 exact At.rt (.tuple #[vS [],vI 101]) (hR hm ⟨hj,bA (iL (by(rw[uU ‹_› ‹_› (by simp[gd, *]) (by simp[fh, *]<;>rfl) ‹_›];done))) (bg (by(rw[uU ‹_› ‹_› (by simp[gd, *]) (by simp[fh, *]<;>rfl) ‹_›];done))),hl.eq (by(rw[uU ‹_› ‹_› (by simp[gd, *]) (by simp[fh, *]<;>rfl) ‹_›];done)),rfl,rfl⟩)
theorem HH:∀{a b:bp},a <+: b→a≠b→iY a b=true:=by
  rintro a b ⟨t,rfl⟩ hne
  have ht:t≠[]:=fun e=>hne (by rw[e,dm])
  have h1:=Nz a [] t
  rw[dm] at h1
  unfold iY
  rw[h1]
  cases t with
  |nil=>exact absurd rfl ht
  |cons c t=>simp[Go.Op.bytesLess]
theorem HJ {p:bp} (h:eH p=true):([47]:bp) <+: p:=by
  unfold eH at h
  simp only[bZ,cN] at h
  cases p with
  |nil=>simp at h
  |cons c p=>obtain rfl:c=47:=by simpa using h.1
             exact⟨p,rfl⟩
theorem tD {p:bp} (h:cj p=0):eH p=true:=by
  cases hp:eH p with
  |true=>rfl
  |false=>
   have:bX p=[]:=by unfold bX;rw[hp];rfl
   exact absurd h (Gw this)
theorem OF:¬cj [47]=0:=by decide
theorem HK {p:bp} (h:eH p=true) (hne:p≠[47]):iY [47] p=true:=HH (HJ h) hne.symm
theorem CU {p:bp} (h:cj p=0):p≠[47]:=fun e=>OF (e▸h)
theorem OG {p:bp} (h:cj p=0):iY (parentOf p) p=true:=by
  have hk:=j4.2 (tD h)
  obtain⟨_,h1,_,_,_,h2,h3⟩:=NG hk (CU h)
  have hne:parentOf p≠p:=fun e=>by rw[e,NC hk] at h3;cases h3
  refine HH ?_ hne
  unfold rH at h2
  simp only[bZ,ji,jZ] at h2
  rcases h2.2 with e|e|e
  · exact absurd e.symm hne
  · rw[e];exact HJ (tD h)
  · exact(BL _ _).trans (rz.1 e)
theorem HL (c:UInt8):∀(l:List bp) (x d:bp),eZ c (l++[x])++d=eZ c (l++[x++d])
  |[],x,d=>by simp[eZ]
  |[a],x,d=>by simp[eZ]
  |a::b::l,x,d=>by
   have:=HL c (b::l) x d
   simp only[dL,eZ,cJ] at this ⊢
   rw[this]
theorem HM:∀(k n:Nat),47 ∉ low k n
  |0,n=>by simp[low]
  |k+1,n=>by
   have hd:∀a:Nat,a<10→(47:UInt8)≠UInt8.ofNat (48+a):=by decide
   unfold low
   rw[eO,tq]
   exact⟨hd _ (uk _ (by decide)),HM k n⟩
theorem HN {p:bp} {n:Int} (h:j3 p n=0):cj (eu p n)=0∧parentOf (eu p n)=parentOf p∧eH (eu p n)=true:=by
  obtain⟨h0,h1,hs⟩:=GA h
  have hok:lM p n=true:=by
    cases hk:lM p n with
    |true=>rfl
    |false=>have:=(tg hk).2;rw[h] at this;cases this
  have hne:bX p≠[]:=by
    unfold lM at hok
    simp only[bZ,cN] at hok
    exact hok.1
  have hp:eH p=true:=by
    cases hk:eH p with
    |true=>rfl
    |false=>exact absurd (by unfold bX;rw[hk];rfl) hne
  have hq:eH (eu p n)=true:=by
    unfold j3 at h
    rw[aY hok] at h
    have:=j4.1 h
    unfold eu
    rw[aY hok]
    unfold mc
    rw[aY this]
    exact this
  have hl:=GC hne
  have G:=rI hp
  have hj:eu p n=joined ((bX p).dropLast++[mR (bX p)++low 5 n.toNat]):=by
    rw[hs]
    conv=>lhs;rw[←G,←hl]
    unfold joined
    rw[dL,HL]
  have I:eu p n≠[47]:=by
    intro e
    have h2:=NA h
    rw[e] at h2
    simp at h2
    omega
  have u:bX (eu p n)=(bX p).dropLast++[mR (bX p)++low 5 n.toNat]:=by
    unfold bX
    rw[aY hq,aL I]
    conv=>lhs;rw[hj]
    show splitOn 47 (eZ 47 _)=_
    refine yx 47 _ (by simp) ?_
    intro x hx
    rcases eo.1 hx with hx|hx
    · exact w5 (uS p x (FZ _ hx))
    · rw[iA] at hx
      subst hx
      rw[eo,tq]
      have D:mR (bX p)∈(bX p).dropLast++[mR (bX p)]:=by simp
      rw[hl] at D
      exact⟨w5 (uS p _ D),HM _ _⟩
  refine⟨?_,?_,hq⟩
  · refine Gi ?_
    rw[u]
    simp
  · unfold parentOf
    rw[aL hne,aL (by rw[u];simp),u]
    simp
def OH (k:Int) (ns:List aa) (n:aa):Prop:=
  eH n.af=true∧n.Data.length≤128∧ -1≤n.aC∧(0≤n.ai∧n.ai≤k)∧(0≤n.Next∧n.Next≤k)∧0≤n.aF∧(n.af=[47]∧n.aC= -1∧n.aF=0∨cj n.af=0∧∃u∈ns,u.af=parentOf n.af∧u.aC= -1)
structure e_ (k:Int) (ns:List aa):Prop where
  sort:fL ns
  len:ns.length≤32
  root:∃r∈ns,r.af=[47]
  node:∀n∈ns,OH k ns n
theorem e_.mono {k k':Int} {ns:List aa} (H:e_ k ns) (h:k≤k'):e_ k' ns:=
  ⟨H.sort,H.len,H.root,fun n hn=>by
    obtain⟨h1,h2,h3,h4,h5,h6,h7⟩:=H.node n hn
    exact⟨h1,h2,h3,⟨h4.1,by omega⟩,⟨h5.1,by omega⟩,h6,h7⟩⟩
theorem e_.new:e_ 0 [⟨[47],[],0, -1,0,0⟩]:=
  ⟨CE _ _,by decide,⟨_,.head _,rfl⟩,fun n hn=>by
    rw[iA] at hn
    subst hn
    exact⟨by decide,by decide,by decide,by decide,by decide,by decide,.inl ⟨rfl,rfl,rfl⟩⟩⟩
theorem e_.b {k:Int} {ns:List aa} (H:e_ k ns) (hk:k≤1000000):fB ns:=
  ⟨by have:=H.len;omega,fun n hn=>by
    obtain⟨h1,h2,h3,h4,h5,h6,h7⟩:=H.node n hn
    exact⟨rK h1,h2,by omega,by omega⟩⟩
theorem qI {ns:List aa} {l n:aa}:n∈ei ns l↔n=l∨n∈ns∧n.af≠l.af:=by
  rw[(pQ ns l).mem_iff,eO]
  unfold fG
  rw[ic]
  simp
theorem CV {ns:List aa} {p:bp} {n:aa}:n∈fG ns p↔n∈ns∧n.af≠p:=by
  unfold fG
  rw[ic]
  simp
theorem fL.OI {ns:List aa} (h:fL ns) {a b:aa} (ha:a∈ns) (hb:b∈ns) (e:a.af=b.af):a=b:=by
  have h1:=rJ h.nodup ha
  have h2:=rJ h.nodup hb
  rw[e,h2] at h1
  exact(gI h1).symm
theorem OJ {ns:List aa} (hs:fL ns) {u:aa} (hu:u∈ns):(fG ns u.af).length+1=ns.length:=by
  have hn:=hs.nodup
  clear hs
  induction ns with
  |nil=>cases hu
  |cons n ns ih=>
   rw[eS,pL] at hn
   rcases eO.1 hu with rfl|hu
   · have:fG (u::ns) u.af=ns:=by
       unfold fG
       rw[iW]
       simp only[sZ,nW,fW,dI]
       exact w9 (oM.2 fun x hx e=>hn.1 (e▸cY.2 ⟨x,hx,rfl⟩))
     rw[this,bJ]
   · have hne:n.af≠u.af:=fun e=>hn.1 (e▸cY.2 ⟨u,hu,rfl⟩)
     have:fG (n::ns) u.af=n::fG ns u.af:=by
       unfold fG
       rw[iW]
       simp[hne]
     rw[this,bJ,bJ,ih hu hn.2]
theorem CW {ns:List aa} (hs:fL ns) {u l:aa} (hu:u∈ns) (e:l.af=u.af):(ei ns l).length=ns.length:=by
  rw[(pQ ns l).length_eq,bJ,e,OJ hs hu]
theorem OK {ns:List aa} {l:aa} (h:bU ns l.af=none):(ei ns l).length=ns.length+1:=by
  rw[(pQ ns l).length_eq,bJ,w9 h]
theorem e_.put {k:Int} {ns:List aa} (H:e_ k ns) {u l:aa} (hu:u∈ns) (hp:l.af=u.af) (ho:l.aC=u.aC) (hb:l.aF=u.aF) (hd:l.Data.length≤128) (hv:0≤l.ai∧l.ai≤k) (hn:0≤l.Next∧l.Next≤k):e_ k (ei ns l):=by
  have G:∀x∈ns,∃y∈ei ns l,y.af=x.af∧y.aC=x.aC:=fun x hx=>by
    by_cases e:x.af=l.af
    · have:x=u:=H.sort.OI hx hu (e.trans hp)
      subst this
      exact⟨l,qI.2 (.inl rfl),hp,ho⟩
    · exact⟨x,qI.2 (.inr ⟨hx,e⟩),rfl,rfl⟩
  refine⟨w8 H.sort l,by rw[CW H.sort hu hp];exact H.len,?_,fun n D=>?_⟩
  · obtain⟨r,hr,J⟩:=H.root
    obtain⟨y,hy,e,_⟩:=G r hr
    exact⟨y,hy,e.trans J⟩
  · have I:∀{q:bp},(∃u∈ns,u.af=q∧u.aC= -1)→∃u∈ei ns l,u.af=q∧u.aC= -1:=by
      rintro q ⟨x,hx,h1,h2⟩
      obtain⟨y,hy,e1,e2⟩:=G x hx
      exact⟨y,hy,e1.trans h1,e2.trans h2⟩
    rcases qI.1 D with rfl|⟨D,_⟩
    · obtain⟨h1,h2,h3,h4,h5,h6,h7⟩:=H.node u hu
      refine⟨hp▸h1,hd,ho▸h3,hv,hn,hb▸h6,?_⟩
      rw[hp,ho,hb]
      exact h7.imp id fun h=>⟨h.1,I h.2⟩
    · obtain⟨h1,h2,h3,h4,h5,h6,h7⟩:=H.node n D
      exact⟨h1,h2,h3,h4,h5,h6,h7.imp id fun h=>⟨h.1,I h.2⟩⟩
theorem e_.add {k:Int} {ns:List aa} (H:e_ k ns) {l:aa} (hl:ns.length<32) (hf:bU ns l.af=none) (hc:cj l.af=0) (hu:∃u∈ns,u.af=parentOf l.af∧u.aC= -1) (hd:l.Data.length≤128) (ho: -1≤l.aC) (hv:0≤l.ai∧l.ai≤k) (hn:0≤l.Next∧l.Next≤k) (hb:0≤l.aF):
    e_ k (ei ns l):=by
  have G:∀x∈ns,x∈ei ns l:=fun x hx=>qI.2 (.inr ⟨hx,oM.1 hf x hx⟩)
  have I:∀{q:bp},(∃u∈ns,u.af=q∧u.aC= -1)→∃u∈ei ns l,u.af=q∧u.aC= -1:=fun⟨x,hx,h⟩=>⟨x,G x hx,h⟩
  refine⟨w8 H.sort l,by rw[OK hf];omega,?_,fun n D=>?_⟩
  · obtain⟨r,hr,J⟩:=H.root
    exact⟨r,G r hr,J⟩
  · rcases qI.1 D with rfl|⟨D,_⟩
    · exact⟨tD hc,hd,ho,hv,hn,hb,.inr ⟨hc,I hu⟩⟩
    · obtain⟨h1,h2,h3,h4,h5,h6,h7⟩:=H.node n D
      exact⟨h1,h2,h3,h4,h5,h6,h7.imp id fun h=>⟨h.1,I h.2⟩⟩
theorem OL {ns:List aa} {p q:bp}:q∈gJ ns p↔∃n∈ns,n.af=q∧cj q=0∧parentOf q=p:=by
  unfold gJ GD
  rw[cY]
  constructor
  · rintro⟨n,hn,rfl⟩
    rw[ic] at hn
    simp only[bZ,cN] at hn
    exact⟨n,hn.1,rfl,hn.2⟩
  · rintro⟨n,hn,rfl,h⟩
    exact⟨n,ic.2 ⟨hn,by simpa using h⟩,rfl⟩
theorem OM {ns:List aa} {p:bp} (h:gJ ns p=[]) {n:aa} (hn:n∈ns) (hc:cj n.af=0):parentOf n.af≠p:=fun e=>by
  have:n.af∈gJ ns p:=OL.2 ⟨n,hn,rfl,hc,e⟩
  rw[h] at this
  cases this
theorem e_.n7 {k:Int} {ns:List aa} (H:e_ k ns) {p:bp} (hp:p≠[47]) (hk:gJ ns p=[]):e_ k (fG ns p):=by
  refine⟨B_ H.sort p,cH (kX _ _) H.len,?_,fun n hn=>?_⟩
  · obtain⟨r,hr,D⟩:=H.root
    exact⟨r,CV.2 ⟨hr,D▸hp.symm⟩,D⟩
  · obtain⟨hn,hne⟩:=CV.1 hn
    obtain⟨h1,h2,h3,h4,h5,h6,h7⟩:=H.node n hn
    refine⟨h1,h2,h3,h4,h5,h6,h7.imp id fun h=>⟨h.1,?_⟩⟩
    obtain⟨u,hu,e1,e2⟩:=h.2
    exact⟨u,CV.2 ⟨hu,fun e=>OM hk hn h.1 (e1.symm.trans e)⟩,e1,e2⟩
theorem ON {x:Int} (h0: -9223372036854775808≤x) (h1:x≤9223372036854775807):IntKind.wrap .i64 x=x:=by
  have:=nS h0 h1
  injection this
theorem CX {x:Int} (h0:0≤x) (h1:x≤1000000):IntKind.wrap .i64 (x+1)=x+1:=ON (by omega) (by omega)
section
variable {k:Int} {ns:List aa} {p data:bp} {cC born bK:Int} {num:Bool}
theorem zD (h:(cg ns p data cC born num).2.2=0):∃up,cj p=0∧data.length≤128∧bU ns (parentOf p)=some up∧up.aC= -1∧gd up p num=0∧bU ns (fh up p num)=none∧ns.length<32∧
    cg ns p data cC born num=(n4 ns up (fh up p num) data cC born num,fh up p num,0):=by
  unfold cg at h ⊢
  by_cases h1:cj p=0
  · simp only[h1,ne_eq,mQ,dI] at h ⊢
    by_cases h2:data.length>128
    · simp[h2] at h
    · simp only[h2,dI] at h ⊢
      cases hf:bU ns (parentOf p) with
      |none=>simp[hf] at h
      |some up=>
       simp only[hf] at h ⊢
       by_cases h3:up.aC= -1
       · simp only[h3,ne_eq,mQ,dI] at h ⊢
         by_cases h4:gd up p num=0
         · simp only[h4,ne_eq,mQ,dI] at h ⊢
           cases hq:bU ns (fh up p num) with
           |some _=>simp[hq] at h
           |none=>
            simp only[hq] at h ⊢
            by_cases h5:ns.length≥32
            · simp[h5] at h
            · simp only[h5,dI]
              exact⟨up,trivial,by omega,rfl,h3,h4,hq,by omega,rfl⟩
         · simp[h4] at h
       · simp[h3] at h
  · simp[h1] at h
theorem CY (h:(cg ns p data cC born num).2.2≠0):(cg ns p data cC born num).1=ns∧(cg ns p data cC born num).2.1=[]:=by
  unfold cg at h ⊢
  by_cases h1:cj p=0
  · simp only[h1,ne_eq,mQ,dI] at h ⊢
    by_cases h2:data.length>128
    · simp[h2]
    · simp only[h2,dI] at h ⊢
      cases hf:bU ns (parentOf p) with
      |none=>simp
      |some up=>
       simp only[hf] at h ⊢
       by_cases h3:up.aC= -1
       · simp only[h3,ne_eq,mQ,dI] at h ⊢
         by_cases h4:gd up p num=0
         · simp only[h4,ne_eq,mQ,dI] at h ⊢
           cases hq:bU ns (fh up p num) with
           |some _=>simp
           |none=>
            simp only[hq] at h ⊢
            by_cases h5:ns.length≥32
            · simp[h5]
            · simp[h5] at h
         · simp[h4]
       · simp[h3]
  · simp[h1]
theorem CZ {up:aa} (hc:cj p=0) (he:gd up p num=0):cj (fh up p num)=0∧parentOf (fh up p num)=parentOf p:=by
  unfold gd fh at *
  cases num with
  |false=>exact⟨hc,rfl⟩
  |true=>
   simp only[gX] at he ⊢
   exact⟨(HN he).1,(HN he).2.1⟩
def qJ (ns:List aa) (up:aa) (num:Bool):List aa:=ei ns (if num then {up with Next:=IntKind.wrap .i64 (up.Next+1)} else up)
theorem OO (H:e_ k ns) (hk:k≤100000) {up:aa} (hu:up∈ns):e_ (k+1) (qJ ns up num):=by
  obtain⟨h1,h2,h3,h4,h5,h6,h7⟩:=H.node up hu
  have u:=H.mono (k':=k+1) (by omega)
  unfold qJ
  cases num with
  |false=>exact u.put hu rfl rfl rfl h2 ⟨h4.1,by show up.ai≤k+1;omega⟩ ⟨h5.1,by show up.Next≤k+1;omega⟩
  |true=>
   simp only[gX]
   rw[CX h5.1 (by omega)]
   exact u.put hu rfl rfl rfl h2 ⟨h4.1,by show up.ai≤k+1;omega⟩ ⟨by show 0≤up.Next+1;omega,by show up.Next+1≤k+1;omega⟩
theorem OP {up:aa} {q:bp} (hu:up∈ns) (hq:bU ns q=none):bU (qJ ns up num) q=none:=by
  rw[oM] at hq ⊢
  intro n hn
  unfold qJ at hn
  rcases qI.1 hn with rfl|⟨hn,_⟩
  · cases num with
    |false=>exact hq up hu
    |true=>exact hq up hu
  · exact hq n hn
theorem OQ (hs:fL ns) {up:aa} (hu:up∈ns):(qJ ns up num).length=ns.length:=by
  unfold qJ
  cases num with
  |false=>exact CW hs hu rfl
  |true=>exact CW hs hu rfl
theorem OR {up:aa}:∃u∈qJ ns up num,u.af=up.af∧u.aC=up.aC:=by
  unfold qJ
  cases num with
  |false=>exact⟨_,qI.2 (.inl rfl),rfl,rfl⟩
  |true=>exact⟨_,qI.2 (.inl rfl),rfl,rfl⟩
theorem OS {up:aa} {q:bp}:n4 ns up q data cC born num=ei (qJ ns up num) ⟨q,data,0,max cC (-1),0,max born 0⟩:=rfl
theorem e_.make (H:e_ k ns) (hk:k≤100000) (I:0≤k):e_ (k+1) (cg ns p data cC born num).1:=by
  by_cases h:(cg ns p data cC born num).2.2=0
  · obtain⟨up,hc,hd,hf,ho,he,hq,hl,e⟩:=zD h
    rw[e]
    obtain⟨hu,D⟩:=jJ hf
    show e_ (k+1) (n4 ns up (fh up p num) data cC born num)
    rw[OS]
    obtain⟨h1,h2⟩:=CZ hc he
    refine(OO H hk hu).add (by rw[OQ H.sort hu];exact hl) (OP hu hq) h1 ?_ hd (Int.le_max_right _ _) ⟨by simp,by simp;omega⟩ ⟨by simp,by simp;omega⟩ (Int.le_max_right _ _)
    obtain⟨u,G,e1,e2⟩:=OR (ns:=ns) (up:=up) (num:=num)
    exact⟨u,G,by rw[e1,D];exact h2.symm,e2.trans ho⟩
  · rw[(CY h).1]
    exact H.mono (by omega)
theorem OT (h:(fZ ns p bK).2=0):∃l,cj p=0∧bU ns p=some l∧gJ ns p=[]∧fZ ns p bK=(fG ns p,0):=by
  unfold fZ at h ⊢
  by_cases h1:cj p=0
  · simp only[h1,ne_eq,mQ,dI] at h ⊢
    cases hf:bU ns p with
    |none=>simp[hf] at h
    |some l=>
     simp only[hf] at h ⊢
     by_cases h2:bK≥0∧l.ai≠bK
     · rw[aY h2] at h;cases h
     · rw[aL h2] at h ⊢
       by_cases h3:gJ ns p=[]
       · exact⟨l,trivial,rfl,h3,by simp[h3]⟩
       · rw[aY h3] at h;cases h
  · simp[h1] at h
theorem OU (h:(fZ ns p bK).2≠0):(fZ ns p bK).1=ns:=by
  unfold fZ at h ⊢
  split
  · rfl
  · rename_i h1
    rw[aL h1] at h
    split
    · rfl
    · rename_i l hf
      simp only[hf] at h
      split
      · rfl
      · rename_i h2
        rw[aL h2] at h
        split
        · rfl
        · rename_i h3
          rw[aL h3] at h
          exact absurd rfl h
theorem e_.drop (H:e_ k ns):e_ k (fZ ns p bK).1:=by
  by_cases h:(fZ ns p bK).2=0
  · obtain⟨l,hc,hf,hk,e⟩:=OT h
    rw[e]
    exact H.n7 (CU hc) hk
  · rw[OU h];exact H
theorem e_.set (H:e_ k ns) (hk:k≤100000):e_ (k+1) (eU ns p data bK).1:=by
  have u:=H.mono (k':=k+1) (by omega)
  unfold eU
  split
  · exact u
  · split
    · exact u
    · rename_i l hf
      split
      · exact u
      · split
        · exact u
        · rename_i hd
          obtain⟨hu,_⟩:=jJ hf
          obtain⟨h1,h2,h3,h4,h5,h6,h7⟩:=H.node l hu
          rw[CX h4.1 (by omega)]
          exact u.put hu rfl rfl rfl (by show data.length≤128;omega) ⟨by show 0≤l.ai+1;omega,by show l.ai+1≤k+1;omega⟩ ⟨h5.1,by show l.Next≤k+1;omega⟩
end
section
variable {k:Int} {ns:List aa}
theorem e_.OV (H:e_ k ns) {n:aa} (hn:n∈ns) (e:n.af=[47]):n.aC= -1∧n.aF=0:=by
  obtain⟨_,_,_,_,_,_,h7⟩:=H.node n hn
  rcases h7 with ⟨_,h⟩|⟨h,_⟩
  · exact h
  · exact absurd e (CU h)
theorem e_.HO (H:e_ k ns):∀(rest seen:List aa),seen++rest=ns→th seen rest=true
  |[],seen,_=>rfl
  |l::rest,seen,e=>by
   have hl:l∈ns:=by rw[←e];simp
   obtain⟨h1,h2,h3,h4,h5,h6,h7⟩:=H.node l hl
   have hs:=H.sort
   rw[←e] at hs
   obtain⟨O,U,G⟩:=CF.1 hs
   have I:∀x∈ns,iY x.af l.af=true→x∈seen:=fun x hx hlt=>by
     rw[←e] at hx
     rcases eo.1 hx with hx|hx
     · exact hx
     · rcases eO.1 hx with rfl|hx
       · unfold iY at hlt;rw[uT] at hlt;cases hlt
       · have:=(jF.1 U).1 x hx
         unfold iY at hlt this
         rw[yS this] at hlt
         cases hlt
   have hr:j6 seen l=true:=by
     unfold j6
     simp only[bZ,cN]
     refine⟨⟨⟨⟨⟨h3,h4.1⟩,h5.1⟩,h6⟩,h2⟩,?_⟩
     by_cases D:seen=[]
     · rw[aY D]
       have:l.af=[47]:=by
         by_cases hp:l.af=[47]
         · exact hp
         · obtain⟨r,hr,V⟩:=H.root
           have:=I r hr (by rw[V];exact HK h1 hp)
           rw[D] at this
           cases this
       have h8:=H.OV hl this
       simp[this,h8.1,h8.2]
     · rw[aL D]
       obtain⟨x,hx⟩:=List.exists_mem_of_ne_nil _ D
       have hxl:=G x hx l (.head _)
       have hp:l.af≠[47]:=by
         intro hp
         have X:x∈ns:=by rw[←e];exact ye _ hx
         by_cases J:x.af=[47]
         · rw[J,hp] at hxl;unfold iY at hxl;rw[uT] at hxl;cases hxl
         · have h9:=HK (H.node x X).1 J
           unfold iY at h9 hxl
           rw[hp,yS h9] at hxl
           cases hxl
       rcases h7 with h7|⟨hc,u,hu,e1,e2⟩
       · exact absurd h7.1 hp
       · have Y:=I u hu (by rw[e1];exact OG hc)
         have Z:(seen.map (·.af)).Nodup:=fL.nodup O
         have hf:=rJ Z Y
         rw[e1] at hf
         simp[hc,hf,e2]
   unfold th
   rw[hr,H.HO rest (seen++[l]) (by rw[←e];simp),lK,mh]
   cases hg:seen.getLast? with
   |none=>rfl
   |some x=>exact G x (List.mem_of_getLast? hg) l (.head _)
theorem e_.OW (H:e_ k ns):lN ns=true:=by
  unfold lN
  rw[H.HO ns [] rfl]
  have h1:=H.len
  obtain⟨r,hr,_⟩:=H.root
  have h2:=List.length_pos_of_mem hr
  simp only[lK,bZ,cN]
  omega
end
theorem OX {u ks:List bp} (h:u.Perm ks) (hf:[]=u):ks=[]:=by subst hf;exact h.symm.eq_nil
theorem OY {u ks:List bp} {x:bp} {xs:List bp} (h:u.Perm ks) (hp:x::xs <+: u):ks≠[]:=by
 rintro rfl
 have h1:=hp.length_le
 rw[h.length_eq] at h1
 simp at h1
def rS {α:Type} (xs:List α):Option Code:=if xs.isEmpty=true then none else some .ret
theorem OZ {α:Type} {xs:List α} (h:xs.isEmpty=true):rS xs=none:=by unfold rS;rw[aY h]
theorem O0 {α:Type} (xs:List α) (x:α):rS (xs++[x])=some .ret:=by unfold rS;rw[aL];simp
theorem O1 {α:Type} (xs:List α) (x:α):Value.bool (some Code.ret:Option Code).isNone=Value.bool (xs++[x]).isEmpty:=by simp
theorem HP {ns:List aa} {p:bp} {bK:Int} (h:¬cj p=0):fZ ns p bK=(ns,cj p):=by unfold fZ;rw[aY h]
theorem HQ {ns:List aa} {p:bp} {bK:Int} (h:cj p=0) (hp:cR p=0) (hv:eV ns p bK≠0):fZ ns p bK=(ns,eV ns p bK):=by
 unfold eV dR at *;unfold fZ
 simp only[h,hp,ne_eq,mQ,dI] at *
 cases hf:bU ns p with
 |none=>simp[hf]
 |some l=>simp only[hf] at *;split at hv<;>simp_all
theorem zE {ns:List aa} {p:bp} {bK:Int} {l:aa} (h:cj p=0) (hv:eV ns p bK=0) (hf:bU ns p=some l):fZ ns p bK=if gJ ns p≠[] then (ns,103) else (fG ns p,0):=by
 obtain⟨_,h2⟩:=Ci hv hf
 unfold fZ
 rw[aL (by simpa using h),hf]
 simp only[]
 rw[aL h2]
theorem C0 (B:World) (h:ay) (g:GH) (hg:bu g h) (Z:bz g) (G:Nat) (t:List aa) (J:az) (ad:eD g G t J) (p:aj) (bK:Int) (hB:fB t) (hp:p.length≤1000000000) (hs:St h g (aS [J]) g [J] h):
  aG prog B 88 #[vP G,vS p,vI bK] h g [J] (fun db g' L'=>∃bk,db=.int .i64 ((fZ t p bK).2)∧eD g' G ((fZ t p bK).1) bk∧g'=g∧L'=[bk]):=by
 refine aG.aq func88 fun R hR=>At.rg 1<|Op.al 6 29 #[vI 0] hs fun D fi bm=>Op.gt 1<|At.rp 7 1 [(12,vS p)] ?_
 refine Op.c1 13 (xm _ _ _ bm.sub Z p (by(try dsimp only)<;>omega)) bm fun fj bo=>Op.pg 2 [(8,vI (cj p))]<|At.go 3 2 [(17,.bool ((cj p) != 0))]<|At.fn ((cj p)=0) 17 4 6 (fun fl=>?_) fun fp=>?_
 ·exact At.rp 2 1 [(18,vI (cj p))]<|Op.s1 29 6 18 0 (vI (cj p)) 0 #[vI (cj p)] bo zt fun fr bs=>Op.gt 5<|At.rn f88 [vI (cj p)] [.cell 6 29] ⟨⟨_,_,rfl,yt (n:=1) (by kernel_rfl) (bs.ag 0 rfl) (by kernel_rfl)⟩,trivial⟩ (hR bs.drop ⟨J,(bg (by(rw[HP ‹_›];done))),ad.eq (by(rw[HP ‹_›];done)),rfl,rfl⟩)
 refine At.rp 9 3 [(20,vP G),(21,vS p),(22,vI bK)] ?_
 have a1:=bo.fs [1] rfl
 have dc:=a1.gH
 have dd:=eD.fK ad a1 (by intro p hp;simp only[eo,hp,nt,nv])
 refine Op.le (some 23) 0 a1 (G5 _ _ _ a1.jk (Z.mono dc) G t dd p bK (by(try dsimp only)<;>omega)) (fun _ _ _ hp=>by obtain⟨a7,_,_⟩:=hp;exact a7) ?_ (hM:=(fun _ _ h=>absurd h (gP _)))
 rintro ft _ fv X ⟨a7,rfl,df⟩;clear a7
 rcases df with ⟨rfl,bt⟩|⟨fw,fx,f0,f1,rfl,f2,f3,f4,f5,f6,f7⟩
 ·have dg:((eV t p bK) != 0)=true:=uI.2 bt
  have f8:((eV t p bK)==0)=false:=qD.2 bt
  refine Op.pg 7 [(10,vI (eV t p bK))]<|At.go 8 2 [(27,.bool ((eV t p bK) != 0))]<|At.cW ((eV t p bK) != 0) 27 9 11 (fun b3=>?_) fun hb=>?_
  ·replace b3:=fY b3
   exact At.rp 2 1 [(28,vI (eV t p bK))]<|Op.s1 29 6 28 0 (vI (eV t p bK)) 1 #[vI (eV t p bK)] X zt fun f9 b4=>Op.gt 10<|At.rn f88 [vI (eV t p bK)] [.cell 6 29] ⟨⟨_,_,rfl,yt (n:=1) (by kernel_rfl) (b4.ag 1 rfl) (by kernel_rfl)⟩,trivial⟩<|hR (b4.fs [1] rfl).drop ⟨J,(bg (by(rw[HQ ‹_› (j4.2 (tD ‹_›)) ‹_›];done))),ad.eq (by(rw[HQ ‹_› (j4.2 (tD ‹_›)) ‹_›];done)),rfl,rfl⟩
  exact Bool.noConfusion (dg.symm.trans hb)
 refine Op.pg 7 [(10,vI 0)]<|At.go 8 2 [(27,vF)]<|At.cQ 27 11 ?_
 have dj:=eD.fK ad X (fun p hp=>hp)
 have b5:=X.freeze.1
 have dk:=X.freeze.2
 replace Z:=Z.mono dk
 refine At.rp 3 2 [(29,vP G),(30,vS p)]<|Op.c0 (some 31) (G2 _ _ _ b5.sub Z G t dj p) b5 ?_
 rintro _ a8 _ gc dl dp ⟨f62,a3,rfl,dq,du,rfl⟩
 replace Z:=Z.mono dl
 refine Op.gt 12<|At.kp [(0,vP G),(1,vS p),(6,vP D),(31,.func (.func f62) #[] a3)]<|At.rangeFunc (x:=31) (f:=f62) (cp:=a3) (by kernel_rfl) rfl (by kernel_rfl) (by kernel_rfl) dq dp fun u U V b6 dv dC=>?_
 have dE:St h g (aS [J]) a8 [[(U,.loop (cZ (dD 88 V (pt (cL f88) 12) u) none))],[(D,Obj.cells #[vI 0] 29 (0,0))],[(u,.deferred (some []))]] b6:=(dC.fs [1,2,2] rfl)
 have a9:St h g (aS [J]) a8 [(([(U,.loop (cZ (dD 88 V (pt (cL f88) 12) u) none))]:az)++([(D,Obj.cells #[vI 0] 29 (0,0))]:az):az),[(u,.deferred (some []))]] b6:=St.bw (L:=[[(U,.loop (cZ (dD 88 V (pt (cL f88) 12) u) none))],[(D,Obj.cells #[vI 0] 29 (0,0))],[(u,.deferred (some []))]]) (by simp only[cm,List.flatten_nil,cJ,dL,dS,dm]) dE
 obtain⟨b8,am⟩:∃I:List bp→GH→az→Prop,I=(fun xs g2 c2=>∃(ca:Int),c2=(([(U,.loop (cZ (dD 88 V (pt (cL f88) 12) u) (rS xs)))]:az)++([(D,Obj.cells #[.int .i64 ca] 29 (0,0))]:az):az)∧(xs≠[]→ca=103)):=⟨_,rfl⟩
 have dT:ry prog B U qG (fun d0=>d0.Perm (gJ t p)) (fun xs=>xs.isEmpty) b8 a8:=by
  intro bb a4 cb ce ge gg gk gn d1 d2 gs cf ch
  rw[am] at cf
  obtain⟨bc,rfl,g1⟩:=cf
  obtain rfl:=d2
  rw[show(rS cb)=none from by exact OZ d1] at ch ⊢
  have ci:St bb a4 (aS [(([(U,.loop (cZ (dD 88 V (pt (cL f88) 12) u) none))]:az)++([(D,Obj.cells #[vI bc] 29 (0,0))]:az):az)]) a4 [[(U,.loop (cZ (dD 88 V (pt (cL f88) 12) u) none))],[(D,Obj.cells #[vI bc] 29 (0,0))]] bb:=St.bw (by simp only[cm,List.flatten_nil,cJ,dL,dS,dm]) ch
  refine ru.ri (n:=f88.ntmps) (e0:=[(0,vP G),(1,vS p),(6,vP D),(31,.func (.func f62) #[] a3)]) (e:=[(32,vS ce),(0,vP G),(1,vS p),(6,vP D),(31,.func (.func f62) #[] a3)]) (ci.ag 0 rfl) dv (by kernel_rfl) (by kernel_rfl) (by kernel_rfl) (by kernel_rfl) fun g3 d3=>At.beginRound rfl (by kernel_rfl) ci 0 rfl 1 (by kernel_rfl) fun g4 d4=>At.rg 1<|Op.s1 29 6 (.const (vI 103)) 0 (vI 103) 1 #[vI 103] d4 zt fun g5 d5=>Op.gt 2 ?_
  refine At.wM (j:=(some .ret)) (by kernel_rfl) d5 0 rfl fun d6 d7=>?_
  have d8:St bb a4 (aS [(([(U,.loop (cZ (dD 88 V (pt (cL f88) 12) u) none))]:az)++([(D,Obj.cells #[vI bc] 29 (0,0))]:az):az)]) a4 [(([(U,.loop (cZ (dD 88 V (pt (cL f88) 12) u) (some .ret)))]:az)++([(D,Obj.cells #[vI 103] 29 (0,0))]:az):az)] d6:=St.bw (L:=[[(U,.loop (cZ (dD 88 V (pt (cL f88) 12) u) (some .ret)))],[(D,Obj.cells #[vI 103] 29 (0,0))]]) (by simp only[cm,List.flatten_nil,cJ,dL,dS,dm]) d7
  refine d3 _ _ _ _ d8 ⟨_,by exact O1 _ _,rfl,?_⟩
  rw[←O0 cb ce]
  rw[am];exact⟨103,rfl,(by exact fun _=>rfl)⟩
 refine sW.call (Lc:=[(([(U,.loop (cZ (dD 88 V (pt (cL f88) 12) u) none))]:az)++([(D,Obj.cells #[vI 0] 29 (0,0))]:az):az)]) (L:=[[(u,.deferred (some []))]]) a9 (du B _ _ _ b8 (fun xs=>xs.isEmpty) _ (aM.refl _) a9.sub Z dT rfl (by rw[am];exact⟨0,rfl,(by exact fun h=>absurd rfl h)⟩) (St.part (Lc:=[(([(U,.loop (cZ (dD 88 V (pt (cL f88) 12) u) none))]:az)++([(D,Obj.cells #[vI 0] 29 (0,0))]:az):az)]) (L:=[[(u,.deferred (some []))]]) a9)) ?_
 rintro _ ck _ co g6 a5 ⟨g7,d9,g8,rfl,c3,ea,eb,g9,rfl,a6⟩
 rcases d9 with _|⟨x0,ed⟩
 ·have ar:gJ t p=[]:=OX c3 (eb rfl)
  rw[am] at a6
  obtain⟨Y,rfl,ha⟩:=a6
  rw[show(rS [])=none from by rfl] at a5
  have ee:St h g (aS [J]) ck [[(U,.loop (cZ (dD 88 V (pt (cL f88) 12) u) none))],[(D,Obj.cells #[vI Y] 29 (0,0))],[(u,.deferred (some []))]] co:=St.bw (by simp only[cm,List.flatten_nil,cJ,dL,dS,dm]) a5
  refine ia.wN (j:=none) ee 0 rfl fun bd ef=>ia.bB 13 (by kernel_rfl) ?_
  have eh:St h g (aS [J]) g (J::[[(D,Obj.cells #[vI Y] 29 (0,0))],[(u,.deferred (some []))]]) bd:=X.uC (ef.drop.xq (aM.trans X.le X.gH) (by repeat (first|assumption|exact aM.refl _|apply aM.trans)))
  refine At.rp 6 3 [(35,vP G)] ?_
  obtain⟨O,be,ej,em⟩:=ad
  have c4:=St.un [be] ej eh
  refine Op.l1 136 35 36 0 (.map (some O)) (c4.ag 0 rfl)<|Op.px 1 [(37,vS p)] ?_
  obtain⟨en,ab,he,bi,ep,er,et⟩:=gq.kD em
  have ex:St h g (aS [J]) g [be,[(G,Obj.cells #[.map (some O)] 138 (0,0))],[(D,Obj.cells #[vI Y] 29 (0,0))],[(u,.deferred (some []))]] bd:=(c4.fs [1] rfl)
  have eA:St h g (aS [J]) g ([(O,.map en ab)]::bi::[[(G,Obj.cells #[.map (some O)] 138 (0,0))],[(D,Obj.cells #[vI Y] 29 (0,0))],[(u,.deferred (some []))]]) bd:=St.pR (L:=be::[[(G,Obj.cells #[.map (some O)] 138 (0,0))],[(D,Obj.cells #[vI Y] 29 (0,0))],[(u,.deferred (some []))]]) (ep.append_right _) ex
  obtain⟨bj,aw,eB,eI⟩:=et.n7 p
  refine Op.yJ (d:=.string) (z:=.pointer none) (mt:=136) (kt:=9) (x:=36) (ix:=37) (dst:=none) (k:=p) (by kernel_rfl) (by kernel_rfl) kz (by kernel_rfl) (by kernel_rfl) eA 0 rfl er zt fun ae c5 eJ eK=>?_
  have eL:St h g (aS [J]) g [bi,[(O,.map ae ab)],[(G,Obj.cells #[.map (some O)] 138 (0,0))],[(D,Obj.cells #[vI Y] 29 (0,0))],[(u,.deferred (some []))]] c5:=(eK.fs [1] rfl)
  have eQ:St h g (aS [J]) g [bj,aw,[(O,.map ae ab)],[(G,Obj.cells #[.map (some O)] 138 (0,0))],[(D,Obj.cells #[vI Y] 29 (0,0))],[(u,.deferred (some []))]] c5:=St.pR (L:=bi::[[(O,.map ae ab)],[(G,Obj.cells #[.map (some O)] 138 (0,0))],[(D,Obj.cells #[vI Y] 29 (0,0))],[(u,.deferred (some []))]]) (by have hq:=eB.append_right (List.flatten [[(O,.map ae ab)],[(G,Obj.cells #[.map (some O)] 138 (0,0))],[(D,Obj.cells #[vI Y] 29 (0,0))],[(u,.deferred (some []))]]);simpa only[cm,List.flatten_nil,cJ,dL,dS,dm] using hq) eL
  refine Op.gt 14<|At.rg 1<|Op.s1 29 6 (.const (vI 0)) 0 (vI 0) 4 #[vI 0] eQ zt fun c6 e1=>Op.gt 15 ?_
  have e2:St h g (aS [J]) g [[(O,.map ae ab)],bj,aw,[(G,Obj.cells #[.map (some O)] 138 (0,0))],[(D,Obj.cells #[vI 0] 29 (0,0))],[(u,.deferred (some []))]] c6:=(e1.fs [1,1,2] rfl)
  obtain⟨hf,e3,e4⟩:∃c,gq g O (fG t p) c∧St h g (aS [J]) g (c::[aw,[(G,Obj.cells #[.map (some O)] 138 (0,0))],[(D,Obj.cells #[vI 0] 29 (0,0))],[(u,.deferred (some []))]]) c6:=⟨_,eI.close eJ (ga _),St.bw (L:=[(O,.map ae ab)]::bj::[aw,[(G,Obj.cells #[.map (some O)] 138 (0,0))],[(D,Obj.cells #[vI 0] 29 (0,0))],[(u,.deferred (some []))]]) (by simp only[cm,cJ,dL,dS,dm]) e2⟩
  obtain⟨c8,e5,e6⟩:=St.bF (Q:=eD g G (fG t p)) 2 (e4.fs [1,1,2] rfl) ⟨_,_,rfl,e3⟩
  refine At.yB (ia.FQ (L:=[c8,aw,[(D,Obj.cells #[vI 0] 29 (0,0))]]) (f:=f88) (vs:=[vI 0]) (rl:=[.cell 6 29]) (v:=vI 0) [u] (by kernel_rfl) (by kernel_rfl) rfl (e6.fs [2,2,2,3] rfl) ?_)
  intro hh c9
  refine⟨⟨⟨_,_,rfl,yt (n:=1) (by kernel_rfl) (c9.ag 2 rfl) (by kernel_rfl)⟩,trivial⟩,?_⟩
  exact hR (c9.fs [2,2] rfl).drop.drop ⟨c8,(bg (by(rw[zE ‹_› ‹_› ‹_›,aL (fun h=>h ar)];done))),e5.eq (by(rw[zE ‹_› ‹_› ‹_›,aL (fun h=>h ar)];done)),rfl,rfl⟩
 have ar:gJ t p≠[]:=OY c3 ea
 rw[am] at a6
 obtain⟨a0,rfl,e7⟩:=a6
 rw[show(rS (x0::ed))=(some .ret) from by rfl] at a5
 have e8:St h g (aS [J]) ck [[(U,.loop (cZ (dD 88 V (pt (cL f88) 12) u) (some .ret)))],[(D,Obj.cells #[vI a0] 29 (0,0))],[(u,.deferred (some []))]] co:=St.bw (by simp only[cm,List.flatten_nil,cJ,dL,dS,dm]) a5
 refine ia.wN (j:=(some .ret)) e8 0 rfl fun e9 fa=>?_
 have fg:St h g (aS [J]) g (J::[[(D,Obj.cells #[vI a0] 29 (0,0))],[(u,.deferred (some []))]]) e9:=X.uC (fa.drop.xq (aM.trans X.le X.gH) (by repeat (first|assumption|exact aM.refl _|apply aM.trans)))
 refine ia.FQ (L:=[J,[(D,Obj.cells #[vI a0] 29 (0,0))]]) (f:=f88) (vs:=[vI a0]) (rl:=[.cell 6 29]) (v:=vI a0) [u] (by kernel_rfl) (by kernel_rfl) rfl (fg.fs [1,1,2] rfl) fun hj da=>⟨⟨⟨_,_,rfl,yt (n:=1) (by kernel_rfl) (da.ag 1 rfl) (by kernel_rfl)⟩,trivial⟩,?_⟩
 exact hR (da.fs [1] rfl).drop ⟨J,(bg (by(rw[zE ‹_› ‹_› ‹_›,aY ar];exact e7 (by simp)))),ad.eq (by(rw[zE ‹_› ‹_› ‹_›,aY ar];done)),rfl,rfl⟩
section
variable {ns out:List aa} {l x:aa} {i:Int} {put:Bool}
end
section
variable {ns:List aa} {p data q:bp} {cC born bK o' b':Int} {num:Bool} {up x:aa} {k:Int}
theorem HR {a b:UInt8} (h:(a.toNat:Int)=(b.toNat:Int)):a=b:=UInt8.toNat_inj.1 (by omega)
theorem HS {a b:UInt8} (h:¬(a.toNat:Int)=(b.toNat:Int)):¬a=b:=fun e=>h (by rw[e])
end
def rT (bC:List aa) (i:Nat) (l:aa):Prop:=j6 (bC.take i) l=true∧∀x,(bC.take i).getLast?=some x→iY x.af l.af=true
theorem HT:∀(rest seen:List aa),th seen rest=true↔∀i l,rest[i]?=some l→j6 (seen++rest.take i) l=true∧∀x,(seen++rest.take i).getLast?=some x→iY x.af l.af=true
  |[],seen=>by simp[th]
  |n::rest,seen=>by
   unfold th
   rw[bZ,bZ,HT rest (seen++[n])]
   constructor
   · rintro⟨⟨h1,h2⟩,h3⟩ i l hl
     cases i with
     |zero=>
      simp only[List.getElem?_cons_zero,ey] at hl
      subst hl
      simp only[uB,dm]
      refine⟨h1,fun x hx=>?_⟩
      rw[hx] at h2
      exact h2
     |succ i=>
      simp only[List.getElem?_cons_succ] at hl
      have:=h3 i l hl
      simpa using this
   · intro H
     refine⟨?_,fun i l hl=>?_⟩
     · have:=H 0 n rfl
       simp only[uB,dm] at this
       refine⟨this.1,?_⟩
       cases hg:seen.getLast? with
       |none=>rfl
       |some x=>exact this.2 x hg
     · have:=H (i+1) l (by simpa using hl)
       simpa using this
theorem C1 {bC:List aa}:lN bC=true↔(1≤bC.length∧bC.length≤32)∧∀i l,bC[i]?=some l→rT bC i l:=by
  unfold lN rT
  rw[bZ,bZ,HT]
  simp only[dS,cN]
  constructor
  · rintro⟨⟨h1,h2⟩,h3⟩;exact⟨⟨h2,h3⟩,h1⟩
  · rintro⟨⟨h2,h3⟩,h1⟩;exact⟨⟨h1,h2⟩,h3⟩
theorem HU {bC:List aa} {i:Nat} {l:aa} (hl:bC[i]?=some l) (h:¬rT bC i l):false=lN bC:=by
  cases hb:lN bC with
  |false=>rfl
  |true=>exact absurd ((C1.1 hb).2 i l hl) h
theorem zF {bC:List aa} (h:(bC.length:Int)<1∨(bC.length:Int)>32):false=lN bC:=by
  cases hb:lN bC with
  |false=>rfl
  |true=>have:=(C1.1 hb).1;omega
theorem HV {bC:List aa} {i:Int} {x:aa} (h:0<i) (hx:bC[(i-1).toNat]?=some x):(bC.take i.toNat).getLast?=some x:=by
  have e:i.toNat=(i-1).toNat+1:=by omega
  rw[e,fP hx]
  simp
section
variable {bC:List aa} {i:Int} {l x:aa}
theorem HW (h0:0<i) (hl:bC[i.toNat]?=some l) (hx:bC[(i-1).toNat]?=some x) (h:Go.Op.bytesLess x.af l.af=false):false=lN bC:=
  HU hl fun hr=>by
    have:=hr.2 x (HV h0 hx)
    unfold iY at this
    rw[h] at this
    cases this
end
theorem HX {l:aa}:∀{ns:List aa},(∀n∈ns,iY n.af l.af=true)→qF l ns=ns++[l]
  |[],_=>rfl
  |n::ns,h=>by
   unfold qF
   rw[aL,HX fun m hm=>h m (.tail _ hm)]
   · rfl
   · have:=h n (.head _)
     unfold iY at this ⊢
     rw[yS this]
     simp
def u_ (bC:List aa) (i:Int):Prop:=(∀j l,j<i.toNat→bC[j]?=some l→rT bC j l)∧fL (bC.take i.toNat)
theorem O2 (bC:List aa):u_ bC 0:=⟨fun j l hj=>absurd hj (by simp),by simp[fL]⟩
section
variable {bC:List aa} {i:Int} {l x:aa}
theorem O3 (H:u_ bC i) (hr:∀x,(bC.take i.toNat).getLast?=some x→iY x.af l.af=true):∀n∈bC.take i.toNat,iY n.af l.af=true:=by
  intro n hn
  rcases List.eq_nil_or_concat (bC.take i.toNat) with e|⟨a,x,e⟩
  · rw[e] at hn;cases hn
  · rw[List.concat_eq_append] at e
    have h1:=hr x (by rw[e];simp)
    have hs:=H.2
    rw[e] at hs hn
    rcases eo.1 hn with hn|hn
    · exact w6 ((CF.1 hs).2.2 n hn x (by simp)) h1
    · rw[iA] at hn
      exact hn▸h1
theorem C2 (H:u_ bC i) (h0:0≤i) (hl:bC[i.toNat]?=some l) (hr:rT bC i.toNat l):u_ bC (i+1)∧bU (bC.take i.toNat) l.af=none∧ei (bC.take i.toNat) l=bC.take (i+1).toNat:=by
  have hlt:=O3 H hr.2
  have hnone:bU (bC.take i.toNat) l.af=none:=oM.2 fun n hn=>B7 (hlt n hn)
  refine⟨⟨?_,?_⟩,hnone,?_⟩
  · intro j D hj u
    rcases nP j i.toNat with h|h
    · exact H.1 j D h u
    · obtain rfl:j=i.toNat:=by omega
      rw[hl] at u
      cases u
      exact hr
  · rw[toNat_succ h0,fP hl]
    refine CF.2 ⟨H.2,CE _ _,fun a ha b hb=>?_⟩
    rw[iA] at hb
    subst hb
    exact hlt a ha
  · unfold ei
    rw[w9 hnone,HX hlt,toNat_succ h0,fP hl]
theorem O4 (hi:¬0<i) (h0:0≤i) (h:j6 (bC.take i.toNat) l=true):rT bC i.toNat l:=
  ⟨h,fun x hx=>by
    have:i.toNat=0:=by omega
    rw[this] at hx
    simp at hx⟩
theorem O5 (hi:0<i) (h:j6 (bC.take i.toNat) l=true) (hx:bC[(i-1).toNat]?=some x) (hlt:Go.Op.bytesLess x.af l.af=true):rT bC i.toNat l:=
  ⟨h,fun y hy=>by
    rw[HV hi hx] at hy
    cases hy
    exact hlt⟩
theorem HY (hl:bC[i.toNat]?=some l) (h:j6 (bC.take i.toNat) l=false):false=lN bC:=HU hl fun hr=>by have h9:=hr.1;rw[h] at h9;cases h9
theorem O6 (H:u_ bC i) (hi:¬i<bC.length) (h1:¬(bC.length:Int)=0) (h2:¬(bC.length:Int)>32):true=lN bC∧bC.take i.toNat=bC:=
  ⟨(C1.2 ⟨by omega,fun j l hl=>H.1 j l (by have:=(fO.1 hl).1;omega) hl⟩).symm,fF (by omega)⟩
end
theorem mT (B:World) (h:ay) (g:GH) (hg:bu g h) (aw:bz g) (I:Value) (s:aj) (J:an g 5 a_ I s) (h1:s.length≤1000000000):
  aG prog B 13 #[I] h g [] (fun X g' L'=>∃v0 O,X=v0∧aH 5 a_ g' v0 s O∧g'=g∧L'=[O]):=by
 obtain⟨Y,Z,rfl⟩:=J.ak
 refine aG.aq func13 fun R hR=>At.go 1 1 []<|At.rg 2<|Op.ls 4 0 5 #[] (St.init hg) fun u a0 U=>Op.pg 2 [(3,vL (some ⟨u,0,none⟩) 0 0)] ?_
 refine At.rp 4 2 [(5,vL (some ⟨u,0,none⟩) 0 0),(6,vL Y s.length Z)] ?_
 have ab:aH 5 a_ g (vL (some ⟨u,0,none⟩) 0 0) ([]:aj) [(u,Obj.cells #[] 5 (0,0))]:=aH.lit (by kernel_rfl) (by unfold maxLen;decide) (by kernel_rfl) Reads.nil
 obtain⟨a1,ad,ae⟩:=cT.slice (P:=prog) (J.toH U.sub)
 refine Op.ap 5 6 22 22 7 5 1 a_ (ys:=s) ab U 0 ae (by(simp only[b_,bJ,cF,dZ,eT];omega)) (fun _ _ _=>trivial) ad fun a3 am a4 V ar a5=>?_
 obtain⟨D,G,rfl⟩:=V.ak
 exact Op.pg 3 [(3,vL D ((([]:aj)++s).length) G)]<|At.gr 4 2 2 (vL D ((([]:aj)++s).length) G) (hR ar ⟨(vL D ((([]:aj)++s).length) G),am,rfl,dP V (by simp),rfl,rfl⟩)
theorem qK (B:World) (h:ay) (g:GH) (hg:bu g h) (bj:bz g) (Z:Value) (a:aj) (ab:an g 5 a_ Z a) (ad:Value) (b:aj) (ae:an g 5 a_ ad b) (h1:a.length≤1000000000):
  aG prog B 10 #[Z,ad] h g [] (fun a3 g' L'=>a3=.bool (decide (a=b))∧g'=g∧L'=[]):=by
 obtain⟨am,I,rfl⟩:=ab.ak
 obtain⟨ar,J,rfl⟩:=ae.ak
 refine aG.aq func10 fun R hR=>?_
 have aw:=St.init hg
 refine At.go 1 1 []<|At.go 2 5 [(10,.bool ((a.length:Int) != (b.length:Int)))]<|At.fn ((a.length:Int)=(b.length:Int)) 10 3 5 (fun bk=>?_) fun bm=>?_
 ·exact At.gr 4 1 4 vF (hR aw ⟨(bn (by exact yL ‹_›)),rfl,rfl⟩)
 refine At.go 6 1 [(5,vI 0)] ?_
 have a4:∀(m:Nat) (i:Int) (O:ay) (hm:a.length-i.toNat<m) (h0:0≤i) (h2:i≤a.length) (ht:a.take i.toNat=b.take i.toNat) (u:St h g (aS []) g [] O),At (bP prog B 10 f10 R) [] 6 [(0,vL am a.length I),(1,vL ar b.length J),(5,vI i)] O:=by
  intro m;induction m with
  |zero=>intros;omega
  |succ m a5=>
   intro i O hm h0 h2 ht u
   refine At.go 7 4 [(14,.bool (decide (i<(a.length:Int))))]<|At.fd (i<(a.length:Int)) 14 8 13 (fun bo=>?_) fun a6=>?_
   ·refine At.dw (fun _=>False) [(0,true),(1,true),(2,true),(4,true),(5,true),(6,true),(3,true),(7,false),(8,true)]<|Op.px 2 [(17,vL am a.length I),(18,vI i)] ?_
    obtain⟨D,U⟩:=bW a i
    obtain⟨a7,a0,bs,bt,a8,a9,V⟩:=an.bB ab _ U
    cases a8
    refine Op.iq 22 5 1 1 a.length I 17 18 19 a7 a0 i ?_
    replace V:cut _ _ _=[.int .u8 (D.toNat:Int)]:=V
    refine Op.px 2 [(21,vL ar b.length J),(22,vI i)] ?_
    obtain⟨G,X⟩:=bW b i
    obtain⟨bb,a1,b3,b4,bc,bd,Y⟩:=an.bB ae _ X
    cases bc
    refine Op.iq 22 5 1 1 b.length J 21 22 23 bb a1 i ?_
    replace Y:cut _ _ _=[.int .u8 (G.toNat:Int)]:=Y
    refine Op.ez (T:=5) (x:=19) (o:=a0+i.toNat*1) (d:=20) (n:=1) (v:=.int .u8 (D.toNat:Int)) (by kernel_rfl) (by kernel_rfl) (by kernel_rfl) id (u.sub _ _ a9) (bN V 0 rfl)<|Op.l1 5 23 24 (a1+i.toNat*1) (.int .u8 (G.toNat:Int)) (u.sub _ _ bd) ?_ (hv:=bN Y 0 rfl)
    refine Op.pg 9 [(25,.bool ((D.toNat:Int) != (G.toNat:Int)))]<|At.fn ((D.toNat:Int)=(G.toNat:Int)) 25 10 12 (fun be=>?_) fun bi=>?_
    ·exact At.gr 11 1 4 vF (hR u ⟨(bn (by exact yM U X (HS be))),rfl,rfl⟩)
    exact At.rp 3 1 [(15,vI i)]<|Op.vq 16 (i+1)<|Op.pg 6 [(5,vI (i+1))] (At.ke (a5 (i+1) _ (by omega) (by omega) (by omega) (by exact yO ht h0 U X (HR bi)) u))
   exact At.gr 14 1 4 vT (hR u ⟨(bn (by exact yN ‹_› a6 ht)),rfl,rfl⟩)
 exact At.ke (a4 _ 0 _ (bG _) (by omega) (by omega) (by rfl) aw)
set_option linter.unusedSectionVars false
@[irreducible] def fm (v:Int):aj×Int:=if gi v=true then (eP v,0) else ([],10)
def gj (b:aj):aj:=if (bf b).2.2=0 then b.drop (bf b).2.1.toNat else []
section
variable {o b:aj} {v v0 i:Int} {n:Nat} {x c:UInt8}
theorem HZ (H:rN o v0 v n) (hx:o[((o.length:Int)-1).toNat]?=some x):(x.toNat:Int)≤127:=by
  obtain⟨p,h0,h1,h2,h3,h4,h5⟩:=H
  subst h0
  have e:(((p++[UInt8.ofNat (v % 128:Int).toNat]).length:Int)-1).toNat=p.length:=by simp
  rw[e,G7 (gF _)] at hx
  have e2:x=UInt8.ofNat (v % 128:Int).toNat:=by simpa using hx.symm
  rw[e2,wD,pF (by omega)]
  omega
theorem zG (h:gi v=false):fm v=([],10):=by unfold fm;rw[h];rfl
theorem H6 (h:gi v0=true) (H:rN o v0 v n) (hv:¬v≥128):fm v0=(o,0):=by unfold fm;rw[aY h,Ot H hv]
theorem va (H:lQ b i v) (hc:b[i.toNat]?=some c) (n1:¬(i=8∧64≤(c.toNat:Int))):Value.int .i64 (IntKind.wrap .i64 (((c.toNat:Int) % 128)*2 ^ (min (7*i:Int).toNat (IntKind.bits .i64))))=.int .i64 ((c.toNat % 128*2 ^ (7*i.toNat):Nat):Int):=by
  have:((c.toNat:Int) % 128)=((c.toNat % 128:Nat):Int):=by omega
  rw[this]
  exact tC H hc n1
theorem rU (H:lQ b i v) (hc:b[i.toNat]?=some c) (n1:¬(i=8∧64≤(c.toNat:Int))):0≤v+((c.toNat % 128*2 ^ (7*i.toNat):Nat):Int)∧v+((c.toNat % 128*2 ^ (7*i.toNat):Nat):Int)≤4611686018427387903:=by
  have h:=(CO H hc n1).2
  have h0:=H.2.1
  have e:((c.toNat:Int) % 128)*2 ^ (7*i.toNat)=((c.toNat % 128*2 ^ (7*i.toNat):Nat):Int):=by simp
  rw[e] at h
  omega
theorem xu (h:bf b=(0,0,12)∨bf b=(0,0,11)):gj b=[]:=by
  unfold gj
  rcases h with h|h<;>rw[h]<;>rfl
theorem zH {z k:Int} (h:bf b=(z,k,0)):gj b=b.drop k.toNat:=by
  unfold gj
  rw[h];rfl
theorem kE {α u D:Type} {x:α×u×D} {a:α} {c:u} {d:D} (h:x=(a,c,d)):a=x.1∧c=x.2.1∧d=x.2.2:=by rw[h];exact⟨rfl,rfl,rfl⟩
theorem C3:(fm v).1.length≤10:=by
  unfold fm
  split
  · exact(tu v).2
  · exact eX _
theorem H7 (h:¬(fm v).2=0):gi v=false∧(fm v).2=10:=by
  unfold fm at *
  split at h
  · exact absurd rfl h
  · rename_i hn
    rw[aL hn]
    exact⟨by simpa using hn,rfl⟩
theorem H8 (h:(fm v).2=0):gi v=true∧(fm v).1=eP v:=by
  unfold fm at *
  split at h
  · rename_i hn
    rw[aY hn]
    exact⟨hn,rfl⟩
  · cases h
theorem O7 {fs:List aj} {f:aj} (H:oN fs o i) (h0:0≤i) (hf:fs[i.toNat]?=some f) (h:¬(f.length:Int)>65536):oN fs ((o++(fm (f.length:Int)).1)++f) (i+1):=by
  have e:(fm (f.length:Int)).1=eP (f.length:Int):=by unfold fm;rw[aY (jN (by omega) (by omega))]
  rw[e]
  exact Hq H h0 hf h
theorem O8 {l:List Int} (H:oO l o i) (h0:0≤i) (hv:l[i.toNat]?=some v) (h:(fm v).2=0):oO l (o++(fm v).1) (i+1):=by
  rw[(H8 h).2]
  exact Hs H h0 hv (H8 h).1
theorem H9 {l:List Int} (hv:l[i.toNat]?=some v) (h:¬(fm v).2=0):cr l=([],(fm v).2):=by
  rw[(H7 h).2]
  exact xp hv (H7 h).1
theorem zI (h:(bf b).2.2=0):gj b=b.drop (bf b).2.1.toNat:=by unfold gj;rw[aY h]
theorem zJ:(gj b).length≤b.length:=by
  unfold gj
  split
  · rw[eT];omega
  · exact eX _
theorem C4 (h:(bf b).2.2=0):(gj b).length<b.length:=by
  have:=iu h
  rw[zI h,eT]
  omega
section
variable {b0:aj} {out:List aj} {os:List Int}
theorem H_ (H:mS b0 b out) (hb:(b.length:Int)>0) (h:¬(out.length:Int)=1024) (he:(bf b).2.2=0) (hl:¬(bf b).1>65536) (hs:((gj b).length:Int)<(bf b).1):aJ b0=([],11):=by
  have h1:=iu he
  rw[zI he,eT] at hs
  exact CP H hb h he hl (by omega)
theorem O9 (H:mS b0 b out) (hb:(b.length:Int)>0) (h:¬(out.length:Int)=1024) (he:(bf b).2.2=0) (hl:¬(bf b).1>65536) (hs:¬((gj b).length:Int)<(bf b).1):
    mS b0 ((gj b).drop (bf b).1.toNat) (out++[(gj b).take (bf b).1.toNat]):=by
  have h1:=iu he
  rw[zI he] at hs ⊢
  rw[eT] at hs
  have:=Hv H hb h he hl (by omega) rfl
  rw[o7]
  rwa[show((bf b).2.1+(bf b).1).toNat=(bf b).2.1.toNat+(bf b).1.toNat by omega] at this
theorem O_ (H:pU b0 b os) (hb:(b.length:Int)>0) (he:(bf b).2.2=0):pU b0 (gj b) (os++[(bf b).1]):=by
  rw[zI he]
  exact Hx H hb he
end
end
theorem Ia (B:World) (h:ay) (g:GH) (hg:bu g h) (b6:bz g) (v:Int):
  aG prog B 68 #[vI v] h g [] (fun a4 g' L'=>∃v0,a4=.tuple #[v0,.int .i64 ((fm v).2)]∧an g' 5 a_ v0 ((fm v).1)∧L'=[]):=by
 refine aG.aq func68 fun R hR=>?_
 have X:=St.init hg
 refine At.go 1 2 []<|At.rp 6 3 [(7,.bool (decide (v<0)))]<|Op.wd (v<0) 7 (fun b8=>?_) fun ca=>?_
 ·exact Op.pg 2 [(10,vT)]<|At.bT 10 3<|At.go 4 2 [(2,vN),(3,vI 10)]<|At.rt (.tuple #[vN,vI 10]) (hR X ⟨vN,bA rfl (bg (by exact(dM (zG (rP (by omega)))).2)),bl (an.empty _ _ _ _ _) (by exact(dM (zG (rP (by omega)))).1),rfl⟩)
 refine Op.pg 2 [(10,.bool (decide (v≥4611686018427387904)))]<|At.fd (v≥4611686018427387904) 10 3 5 (fun cb=>?_) fun ce=>?_
 ·exact At.go 4 2 [(2,vN),(3,vI 10)]<|At.rt (.tuple #[vN,vI 10]) (hR X ⟨vN,bA rfl (bg (by exact(dM (zG (rP (by omega)))).2)),bl (an.empty _ _ _ _ _) (by exact(dM (zG (rP (by omega)))).1),rfl⟩)
 refine At.rp 5 1 [(11,vI v)]<|Op.vl 12 (.int .i64 (Int.tmod v (128:Int))) (.int .i64 (v % (128:Int))) (sP (by omega))<|Op.vl 13 (.int .u8 (IntKind.wrap .u8 (v % 128))) (.int .u8 (v % 128)) (Bs (by omega) (by omega))<|Op.ls 14 1 5 #[.int .u8 (v % 128)] X fun Y cf a5=>Op.pg 6 [(4,vL (some ⟨Y,0,none⟩) 1 1)] ?_
 have a6:∀(m:Nat) (o:aj) (v2:Int) (I:Option Addr) (D:Nat) (Z:az) (ab:ay) (hm:v2.toNat<m) (h0:0≤v2) (h9:v2<4611686018427387904) (hI:∃n,rN o v v2 n) (U:aH 5 a_ g (.slice I o.length D) o Z) (V:St h g (aS []) g [Z] ab),At (bP prog B 68 f68 R) [] 6 [(0,vI v2),(4,vL I o.length D)] ab:=by
  intro m;induction m with
  |zero=>intros;omega
  |succ m a7=>
   intro o v2 I D Z ab hm h0 h9 hI U V
   refine At.go 7 2 [(16,.bool (decide (v2≥128)))]<|At.fd (v2≥128) 16 8 11 (fun a8=>?_) fun ch=>?_
   ·refine At.rp 3 1 [(17,vI v2)]<|Op.vl 18 (.int .i64 (IntKind.wrap .i64 (Int.tdiv v2 (128:Int)))) (.int .i64 (v2 / (128:Int))) (wG (by omega) (by omega) (by omega))<|Op.pg 9 [(0,vI (v2 / 128))]<|At.rp 9 3 [(19,vL I o.length D),(21,vI (o.length:Int))]<|Op.cO 22 ((o.length:Int)-1) (by omega) (by(obtain⟨_,hn⟩:=hI;have:=xo hn;omega)) ?_
    obtain⟨u,J⟩:=jo (l:=o) (i:=(o.length:Int)-1) (by(obtain⟨_,hn⟩:=hI;have:=xo hn;omega))
    obtain⟨O,G,ci,ck,a9,bb,ad⟩:=h_.bB (U.toH V 0 rfl) _ J
    cases a9
    refine Op.ix 22 5 1 1 o.length D 19 22 23 O G ((o.length:Int)-1) (by(obtain⟨_,hn⟩:=hI;have:=xo hn;omega)) (by omega) ?_
    replace ad:cut _ _ _=[.int .u8 (u.toNat:Int)]:=ad
    refine Op.l1 5 23 24 (G+((o.length:Int)-1:Int).toNat*1) (.int .u8 (u.toNat:Int)) bb ?_ (hv:=bN ad 0 rfl)
    refine Op.vl 25 (.int .u8 (IntKind.wrap .u8 ((u.toNat:Int)+128))) (.int .u8 ((u.toNat:Int)+128)) (Bs (by omega) (by(obtain⟨_,hn⟩:=hI;have:=HZ hn J;omega))) ?_
    obtain⟨co,c3,c4,c5,bc,c6,ae⟩:=h_.bB (U.toH V 0 rfl) _ J
    cases bc
    refine Op.ix 22 5 1 1 o.length D 19 22 26 O G ((o.length:Int)-1) (by(obtain⟨_,hn⟩:=hI;have:=xo hn;omega)) (by omega) ?_
    replace ae:cut _ _ _=[.int .u8 (u.toNat:Int)]:=ae
    obtain⟨_,_,c8,am,c9,bd,be,ar,bi,aw,bj⟩:=U.cases (CG (eX _) (fO.1 J).1)
    cases bd;subst be
    have a0:=(fO.1 J).1
    have bk:=iB 1 (cH (Nat.succ_le_of_lt a0) (cH (Nat.le_add_right _ _) (CI ar)))
    refine Op.store (T:=5) (x:=26) (y:=25) (b:=O) (o:=G+((o.length:Int)-1:Int).toNat*1) (vs:=[.int .u8 ((u.toNat:Int)+128)]) (a?:=false) (n:=1) (by kernel_rfl) (by kernel_rfl) (by kernel_rfl) (by kernel_rfl) rfl (by simp[Value.oneCell']) V 0 rfl (by simp only[mP] at bk;simp only[show a_.sz=1 from rfl] at aw;omega) (cs:=am) (cs':=splice am (G+((o.length:Int)-1:Int).toNat*1) [.int .u8 ((u.toNat:Int)+128)]) rfl zt fun da bm=>?_
    have bo:=aH.put (T:=5) (b:=O) ar bi aw bj _ a0 (x:=(UInt8.ofNat ((u.toNat:Int)+128:Int).toNat)) (vs:=[.int .u8 ((u.toNat:Int)+128)]) (wF (by omega) (by(obtain⟨_,hn⟩:=hI;have:=HZ hn J;omega)))
    refine Op.kp [(0,vI (v2 / 128)),(4,vL (some ⟨O,G,none⟩) o.length D)]<|Op.cast (e':=[(0,vI (v2 / 128)),(4,vL (some ⟨O,G,none⟩) ((o.set ((o.length:Int)-1:Int).toNat (UInt8.ofNat ((u.toNat:Int)+128:Int).toNat)).length) D)]) (by simp only[zg])<|Op.gt 10<|At.rp 7 2 [(27,vL (some ⟨O,G,none⟩) ((o.set ((o.length:Int)-1:Int).toNat (UInt8.ofNat ((u.toNat:Int)+128:Int).toNat)).length) D),(28,vI (v2 / 128))]<|Op.vl 29 (.int .i64 (Int.tmod (v2 / 128) (128:Int))) (.int .i64 ((v2 / 128) % (128:Int))) (sP (by omega)) ?_
    refine Op.vl 30 (.int .u8 (IntKind.wrap .u8 ((v2 / 128) % 128))) (.int .u8 ((v2 / 128) % 128)) (Bs (by omega) (by omega))<|Op.ls 31 1 5 #[.int .u8 ((v2 / 128) % 128)] bm fun db dc a1=>Op.ap 27 31 22 22 32 5 1 a_ (ys:=[(UInt8.ofNat ((v2 / 128) % 128:Int).toNat)]) bo a1 1 (⟨_,_,rfl,(wF (by omega) (by omega)),Reads.nil⟩) (by(obtain⟨_,hn⟩:=hI;have:=xo hn;simp only[zg,bJ,cF];omega)) (fun _ _ _=>trivial) (cT.lit (m:=1) (sz:=1) (a1.ag 0 rfl) (news:=[.int .u8 ((v2 / 128) % 128)]) rfl rfl (by simp[Value.oneCell']) _) fun v70 dd df a3 bs dg=>?_
    obtain⟨a76,bt,rfl⟩:=a3.ak
    exact Op.pg 6 [(4,vL a76 (((o.set ((o.length:Int)-1:Int).toNat (UInt8.ofNat ((u.toNat:Int)+128:Int).toNat))++([(UInt8.ofNat ((v2 / 128) % 128:Int).toNat)])).length) bt)] (At.ke (a7 ((o.set ((o.length:Int)-1:Int).toNat (UInt8.ofNat ((u.toNat:Int)+128:Int).toNat))++([(UInt8.ofNat ((v2 / 128) % 128:Int).toNat)])) (v2 / 128) _ _ _ _ (by omega) (by omega) (by omega) (by(obtain⟨n,hn⟩:=hI;obtain⟨m,_,h⟩:=Oq hn a8 J;exact⟨m,h⟩)) a3 ((bs).drop)))
   refine At.go 12 3 [(2,vL I o.length D),(3,vI 0)] ?_
   obtain⟨dj,b3,dk,b4⟩:=aH.freeze U (V)
   exact At.rt (.tuple #[vL I o.length D,vI 0]) (hR b3 ⟨(vL I o.length D),bA rfl (bg (by(obtain⟨n,hn⟩:=hI;exact(dM (H6 (jN (by omega) (by omega)) hn ‹_›)).2))),bl b4 (by(obtain⟨n,hn⟩:=hI;exact(dM (H6 (jN (by omega) (by omega)) hn ‹_›)).1)),rfl⟩)
 have b5:aH 5 a_ g (vL (some ⟨Y,0,none⟩) 1 1) [(UInt8.ofNat (v % 128:Int).toNat)] [(Y,Obj.cells #[.int .u8 (v % 128)] 5 (0,0))]:=aH.lit (by kernel_rfl) (by unfold maxLen;decide) (by kernel_rfl) ⟨_,_,rfl,(wF (by omega) (by omega)),Reads.nil⟩
 exact At.ke (a6 _ ([(UInt8.ofNat (v % 128:Int).toNat)]) v _ _ _ _ (bG _) (by omega) (by omega) (by exact⟨_,Oo (jN (by omega) (by omega))⟩) b5 a5)
theorem Ib (B:World) (h:ay) (g:GH) (hg:bu g h) (V:bz g) (a8:Value) (b:aj) (U:an g 5 a_ a8 b) (hl:b.length≤1000000000):
  aG prog B 71 #[a8] h g [] (fun b3 g' L'=>∃v0,b3=.tuple #[.int .i64 ((bf b).1),v0,.int .i64 ((bf b).2.2)]∧an g' 5 a_ v0 (gj b)∧L'=[]):=by
 obtain⟨a9,I,rfl⟩:=U.ak
 refine aG.aq func71 fun R hR=>At.go 1 3 []<|At.go 2 1 [(5,vI 0)]<|At.go 3 1 [(6,vI 0)] ?_
 have b4:∀(m:Nat) (v:Int) (i:Int) (X:ay) (hm:b.length-i.toNat<m) (h0:0≤i) (h1:i≤b.length) (hI:lQ b i v) (G:St h g (aS []) g [] X),At (bP prog B 71 f71 R) [] 3 [(0,vL a9 b.length I),(5,vI v),(6,vI i)] X:=by
  intro m;induction m with
  |zero=>intros;omega
  |succ m bb=>
   intro v i X hm h0 h1 hI G
   refine At.go 4 4 [(12,.bool (decide (i<(b.length:Int))))]<|At.fd (i<(b.length:Int)) 12 5 17 (fun dk=>?_) fun dl=>?_
   ·refine At.rp 7 2 [(15,vL a9 b.length I),(16,vI i)] ?_
    obtain⟨u,D⟩:=bW b i
    obtain⟨O,J,dp,dq,b5,b6,Y⟩:=an.bB U _ D
    cases b5
    refine Op.iq 22 5 1 1 b.length I 15 16 17 O J i ?_
    replace Y:cut _ _ _=[.int .u8 (u.toNat:Int)]:=Y
    refine Op.l1 5 17 18 (J+i.toNat*1) (.int .u8 (u.toNat:Int)) (G.sub _ _ b6) ?_ (hv:=bN Y 0 rfl)
    refine Op.vl 19 (.int .i64 (IntKind.wrap .i64 (u.toNat:Int))) (.int .i64 (u.toNat:Int)) (nS (by omega) (by(have:=UInt8.toNat_lt u;omega)))<|Op.vl 20 (.int .i64 (Int.tmod (u.toNat:Int) (128:Int))) (.int .i64 ((u.toNat:Int) % (128:Int))) (sP (by omega))<|Op.pg 6 [(7,vI ((u.toNat:Int) % 128))]<|At.rp 6 2 [(21,vL (some ⟨O,J,none⟩) b.length I),(22,vI i)] ?_
    obtain⟨du,dv,dC,dE,b8,ca,Z⟩:=an.bB U _ D
    cases b8
    refine Op.iq 22 5 1 1 b.length I 21 22 23 O J i ?_
    replace Z:cut _ _ _=[.int .u8 (u.toNat:Int)]:=Z
    refine Op.l1 5 23 24 (J+i.toNat*1) (.int .u8 (u.toNat:Int)) (G.sub _ _ ca) ?_ (hv:=bN Z 0 rfl)
    refine Op.pg 7 [(8,.bool (decide ((u.toNat:Int)<128)))]<|At.rp 21 3 [(28,.bool (i==8))]<|Op.wd (i=8) 28 (fun dT=>?_) fun d0=>?_
    ·refine Op.px 3 [(31,.bool (!(decide ((u.toNat:Int)<128))))]<|Op.wb (!(decide ((u.toNat:Int)<128))) 31 (fun bc=>?_) fun bd=>?_
     ·replace bc:=kW (dn bc)
      exact Op.pg 8 [(46,vT)]<|At.bT 46 9<|At.go 10 3 [(2,vI 0),(3,vN),(4,vI 12)]<|At.rt zz (hR G ⟨vN,gG (bg (by exact(kE (mj hI D (by omega) (by omega))).1)) rfl (bg (by exact(kE (mj hI D (by omega) (by omega))).2.2)),bl (an.empty _ _ _ _ _) (by exact(xu (.inl (mj hI D (by omega) (by omega)))).symm),rfl⟩)
     replace bd:=iX (dr bd)
     refine Op.px 5 [(36,.bool (decide (((u.toNat:Int) % 128)>63)))]<|Op.wd (((u.toNat:Int) % 128)>63) 36 (fun d1=>?_) fun d2=>?_
     ·exact Op.pg 8 [(46,vT)]<|At.bT 46 9<|At.go 10 3 [(2,vI 0),(3,vN),(4,vI 12)]<|At.rt zz (hR G ⟨vN,gG (bg (by exact(kE (mj hI D (by omega) (by omega))).1)) rfl (bg (by exact(kE (mj hI D (by omega) (by omega))).2.2)),bl (an.empty _ _ _ _ _) (by exact(xu (.inl (mj hI D (by omega) (by omega)))).symm),rfl⟩)
     refine Op.px 2 [(38,.bool (decide ((u.toNat:Int)<128)))]<|Op.wb (decide ((u.toNat:Int)<128)) 38 (fun ab=>?_) fun ad=>?_
     ·refine Op.sb 8 ab ?_
      replace ab:=iX ab
      refine Op.px 4 [(42,.bool (((u.toNat:Int) % 128)==0))]<|Op.wd (((u.toNat:Int) % 128)=0) 42 (fun d3=>?_) fun d4=>?_
      ·refine Op.pg 8 [(46,.bool (decide (i>0)))]<|At.fd (i>0) 46 9 11 (fun d5=>?_) fun d6=>?_
       ·exact At.go 10 3 [(2,vI 0),(3,vN),(4,vI 12)]<|At.rt zz (hR G ⟨vN,gG (bg (by exact(kE (mm hI D (by omega) (by omega))).1)) rfl (bg (by exact(kE (mm hI D (by omega) (by omega))).2.2)),bl (an.empty _ _ _ _ _) (by exact(xu (.inl (mm hI D (by omega) (by omega)))).symm),rfl⟩)
       refine At.rp 8 3 [(47,vI v),(48,vI ((u.toNat:Int) % 128)),(49,vI i)]<|Op.vq 50 ((7:Int)*i)<|Op.vl 51 (.int .u64 (IntKind.wrap .u64 ((7:Int)*i))) (.int .u64 ((7:Int)*i)) (sR (by omega) (by omega))<|Op.sv (ky:=.u64) 3 158 48 51 52 ((u.toNat:Int) % 128) ((7:Int)*i) (((u.toNat % 128*2 ^ (7*i.toNat):Nat):Int)) (by omega) (va hI D (by omega))<|Op.vq 53 (v+((u.toNat % 128*2 ^ (7*i.toNat):Nat):Int)) ?_
       refine Op.pg 12 [(5,vI (v+((u.toNat % 128*2 ^ (7*i.toNat):Nat):Int)))]<|At.go 13 1 [(54,vT)]<|At.bT 54 14<|At.rp 9 3 [(55,vI (v+((u.toNat % 128*2 ^ (7*i.toNat):Nat):Int))),(56,vL (some ⟨O,J,none⟩) b.length I),(57,vI i)]<|Op.vq 58 (i+1) ?_
       refine Op.pJ (T:=22) (E:=5) (cK:=1) (x:=56) (ao:=(some ⟨O,J,none⟩)) (n:=b.length) (c:=I) (dst:=59) (d:=a_) (lo:=58) (k:=.i64) (m:=i+1) (by kernel_rfl) (by kernel_rfl) (by kernel_rfl) (by kernel_rfl) U (by omega) (by omega) fun d7 be=>?_
       obtain⟨d8,d9,rfl⟩:=be.ak
       refine Op.c0 (some 60) (mT _ _ _ G.sub V _ _ be (by(try dsimp only)<;>omega)) G ?_
       rintro _ cb _ ea ce cf ⟨eb,ed,rfl,bi,ae,rfl⟩;subst cb;clear ce
       obtain⟨am,ar,rfl⟩:=bi.ak
       refine Op.pg 15 [(2,vI (v+((u.toNat % 128*2 ^ (7*i.toNat):Nat):Int))),(3,vL am (((b.drop (i+1:Int).toNat)).length) ar),(4,vI 0)] ?_
       obtain⟨ee,ch,ef,ci⟩:=aH.freeze bi (cf)
       exact At.rt (.tuple #[vI (v+((u.toNat % 128*2 ^ (7*i.toNat):Nat):Int)),vL am (((b.drop (i+1:Int).toNat)).length) ar,vI 0]) (hR ch ⟨(vL am (((b.drop (i+1:Int).toNat)).length) ar),gG (bg (by exact(kE (iG hI D (by omega) (by omega) (by omega))).1)) rfl (bg (by exact(kE (iG hI D (by omega) (by omega) (by omega))).2.2)),bl ci (by exact(zH (iG hI D (by omega) (by omega) (by omega))).symm),rfl⟩)
      refine Op.pg 8 [(46,vF)]<|At.cQ 46 11<|At.rp 8 3 [(47,vI v),(48,vI ((u.toNat:Int) % 128)),(49,vI i)]<|Op.vq 50 ((7:Int)*i)<|Op.vl 51 (.int .u64 (IntKind.wrap .u64 ((7:Int)*i))) (.int .u64 ((7:Int)*i)) (sR (by omega) (by omega)) ?_
      refine Op.sv (ky:=.u64) 3 158 48 51 52 ((u.toNat:Int) % 128) ((7:Int)*i) (((u.toNat % 128*2 ^ (7*i.toNat):Nat):Int)) (by omega) (va hI D (by omega))<|Op.cO 53 (v+((u.toNat % 128*2 ^ (7*i.toNat):Nat):Int)) (by(have h9:=rU hI D (by omega);omega)) (by(have h9:=rU hI D (by omega);omega))<|Op.pg 12 [(5,vI (v+((u.toNat % 128*2 ^ (7*i.toNat):Nat):Int)))]<|At.go 13 1 [(54,vT)]<|At.bT 54 14 ?_
      refine At.rp 9 3 [(55,vI (v+((u.toNat % 128*2 ^ (7*i.toNat):Nat):Int))),(56,vL (some ⟨O,J,none⟩) b.length I),(57,vI i)]<|Op.vq 58 (i+1)<|Op.pJ (T:=22) (E:=5) (cK:=1) (x:=56) (ao:=(some ⟨O,J,none⟩)) (n:=b.length) (c:=I) (dst:=59) (d:=a_) (lo:=58) (k:=.i64) (m:=i+1) (by kernel_rfl) (by kernel_rfl) (by kernel_rfl) (by kernel_rfl) U (by omega) (by omega) fun eh bj=>?_
      obtain⟨ej,em,rfl⟩:=bj.ak
      refine Op.c0 (some 60) (mT _ _ _ G.sub V _ _ bj (by((try dsimp only)<;>((simp only[eT];omega))))) G ?_
      rintro _ ck _ en co c3 ⟨ep,er,rfl,bk,ae,rfl⟩;subst ck;clear co
      obtain⟨aw,a0,rfl⟩:=bk.ak
      refine Op.pg 15 [(2,vI (v+((u.toNat % 128*2 ^ (7*i.toNat):Nat):Int))),(3,vL aw (((b.drop (i+1:Int).toNat)).length) a0),(4,vI 0)] ?_
      obtain⟨et,c4,ex,c5⟩:=aH.freeze bk (c3)
      exact At.rt (.tuple #[vI (v+((u.toNat % 128*2 ^ (7*i.toNat):Nat):Int)),vL aw (((b.drop (i+1:Int).toNat)).length) a0,vI 0]) (hR c4 ⟨(vL aw (((b.drop (i+1:Int).toNat)).length) a0),gG (bg (by exact(kE (iG hI D (by omega) (by omega) (by omega))).1)) rfl (bg (by exact(kE (iG hI D (by omega) (by omega) (by omega))).2.2)),bl c5 (by exact(zH (iG hI D (by omega) (by omega) (by omega))).symm),rfl⟩)
     refine Op.sb 8 ad ?_
     replace ad:=kW ad
     refine Op.pg 8 [(46,vF)]<|At.cQ 46 11<|At.rp 8 3 [(47,vI v),(48,vI ((u.toNat:Int) % 128)),(49,vI i)]<|Op.vq 50 ((7:Int)*i)<|Op.vl 51 (.int .u64 (IntKind.wrap .u64 ((7:Int)*i))) (.int .u64 ((7:Int)*i)) (sR (by omega) (by omega)) ?_
     refine Op.sv (ky:=.u64) 3 158 48 51 52 ((u.toNat:Int) % 128) ((7:Int)*i) (((u.toNat % 128*2 ^ (7*i.toNat):Nat):Int)) (by omega) (va hI D (by omega))<|Op.vq 53 (v+((u.toNat % 128*2 ^ (7*i.toNat):Nat):Int))<|Op.pg 12 [(5,vI (v+((u.toNat % 128*2 ^ (7*i.toNat):Nat):Int)))]<|At.go 13 1 [(54,vF)]<|At.cQ 54 16 ?_
     exact At.rp 3 1 [(13,vI i)]<|Op.vq 14 (i+1)<|Op.pg 3 [(6,vI (i+1))] (At.ke (bb (v+((u.toNat % 128*2 ^ (7*i.toNat):Nat):Int)) (i+1) _ (by omega) (by omega) (by omega) (by exact zj hI D (by omega) (by omega) (by omega)) G))
    refine Op.px 10 [(36,vF),(38,.bool (decide ((u.toNat:Int)<128)))]<|Op.wb (decide ((u.toNat:Int)<128)) 38 (fun a1=>?_) fun a3=>?_
    ·refine Op.sb 8 a1 ?_
     replace a1:=iX a1
     refine Op.px 4 [(42,.bool (((u.toNat:Int) % 128)==0))]<|Op.wd (((u.toNat:Int) % 128)=0) 42 (fun eA=>?_) fun eB=>?_
     ·refine Op.pg 8 [(46,.bool (decide (i>0)))]<|At.fd (i>0) 46 9 11 (fun eI=>?_) fun eJ=>?_
      ·exact At.go 10 3 [(2,vI 0),(3,vN),(4,vI 12)]<|At.rt zz (hR G ⟨vN,gG (bg (by exact(kE (mm hI D (by omega) (by omega))).1)) rfl (bg (by exact(kE (mm hI D (by omega) (by omega))).2.2)),bl (an.empty _ _ _ _ _) (by exact(xu (.inl (mm hI D (by omega) (by omega)))).symm),rfl⟩)
      refine At.rp 8 3 [(47,vI v),(48,vI ((u.toNat:Int) % 128)),(49,vI i)]<|Op.vq 50 ((7:Int)*i)<|Op.vl 51 (.int .u64 (IntKind.wrap .u64 ((7:Int)*i))) (.int .u64 ((7:Int)*i)) (sR (by omega) (by omega))<|Op.sv (ky:=.u64) 3 158 48 51 52 ((u.toNat:Int) % 128) ((7:Int)*i) (((u.toNat % 128*2 ^ (7*i.toNat):Nat):Int)) (by omega) (va hI D (by omega))<|Op.cO 53 (v+((u.toNat % 128*2 ^ (7*i.toNat):Nat):Int)) (by(have h9:=rU hI D (by omega);omega)) (by(have h9:=rU hI D (by omega);omega)) ?_
      refine Op.pg 12 [(5,vI (v+((u.toNat % 128*2 ^ (7*i.toNat):Nat):Int)))]<|At.go 13 1 [(54,vT)]<|At.bT 54 14<|At.rp 9 3 [(55,vI (v+((u.toNat % 128*2 ^ (7*i.toNat):Nat):Int))),(56,vL (some ⟨O,J,none⟩) b.length I),(57,vI i)]<|Op.vq 58 (i+1) ?_
      refine Op.pJ (T:=22) (E:=5) (cK:=1) (x:=56) (ao:=(some ⟨O,J,none⟩)) (n:=b.length) (c:=I) (dst:=59) (d:=a_) (lo:=58) (k:=.i64) (m:=i+1) (by kernel_rfl) (by kernel_rfl) (by kernel_rfl) (by kernel_rfl) U (by omega) (by omega) fun eK bm=>?_
      obtain⟨eL,eQ,rfl⟩:=bm.ak
      refine Op.c0 (some 60) (mT _ _ _ G.sub V _ _ bm (by((try dsimp only)<;>((simp only[eT];omega))))) G ?_
      rintro _ c6 _ e1 c8 c9 ⟨e2,e3,rfl,bo,ae,rfl⟩;subst c6;clear c8
      obtain⟨a4,a5,rfl⟩:=bo.ak
      refine Op.pg 15 [(2,vI (v+((u.toNat % 128*2 ^ (7*i.toNat):Nat):Int))),(3,vL a4 (((b.drop (i+1:Int).toNat)).length) a5),(4,vI 0)] ?_
      obtain⟨e4,da,e5,db⟩:=aH.freeze bo (c9)
      exact At.rt (.tuple #[vI (v+((u.toNat % 128*2 ^ (7*i.toNat):Nat):Int)),vL a4 (((b.drop (i+1:Int).toNat)).length) a5,vI 0]) (hR da ⟨(vL a4 (((b.drop (i+1:Int).toNat)).length) a5),gG (bg (by exact(kE (iG hI D (by omega) (by omega) (by omega))).1)) rfl (bg (by exact(kE (iG hI D (by omega) (by omega) (by omega))).2.2)),bl db (by exact(zH (iG hI D (by omega) (by omega) (by omega))).symm),rfl⟩)
     refine Op.pg 8 [(46,vF)]<|At.cQ 46 11<|At.rp 8 3 [(47,vI v),(48,vI ((u.toNat:Int) % 128)),(49,vI i)]<|Op.vq 50 ((7:Int)*i)<|Op.vl 51 (.int .u64 (IntKind.wrap .u64 ((7:Int)*i))) (.int .u64 ((7:Int)*i)) (sR (by omega) (by omega)) ?_
     refine Op.sv (ky:=.u64) 3 158 48 51 52 ((u.toNat:Int) % 128) ((7:Int)*i) (((u.toNat % 128*2 ^ (7*i.toNat):Nat):Int)) (by omega) (va hI D (by omega))<|Op.cO 53 (v+((u.toNat % 128*2 ^ (7*i.toNat):Nat):Int)) (by(have h9:=rU hI D (by omega);omega)) (by(have h9:=rU hI D (by omega);omega))<|Op.pg 12 [(5,vI (v+((u.toNat % 128*2 ^ (7*i.toNat):Nat):Int)))]<|At.go 13 1 [(54,vT)]<|At.bT 54 14 ?_
     refine At.rp 9 3 [(55,vI (v+((u.toNat % 128*2 ^ (7*i.toNat):Nat):Int))),(56,vL (some ⟨O,J,none⟩) b.length I),(57,vI i)]<|Op.vq 58 (i+1)<|Op.pJ (T:=22) (E:=5) (cK:=1) (x:=56) (ao:=(some ⟨O,J,none⟩)) (n:=b.length) (c:=I) (dst:=59) (d:=a_) (lo:=58) (k:=.i64) (m:=i+1) (by kernel_rfl) (by kernel_rfl) (by kernel_rfl) (by kernel_rfl) U (by omega) (by omega) fun e6 bs=>?_
     obtain⟨e7,e8,rfl⟩:=bs.ak
     refine Op.c0 (some 60) (mT _ _ _ G.sub V _ _ bs (by((try dsimp only)<;>((simp only[eT];omega))))) G ?_
     rintro _ dc _ e9 dd df ⟨v117,fa,rfl,bt,ae,rfl⟩;subst dc;clear dd
     obtain⟨a6,a7,rfl⟩:=bt.ak
     refine Op.pg 15 [(2,vI (v+((u.toNat % 128*2 ^ (7*i.toNat):Nat):Int))),(3,vL a6 (((b.drop (i+1:Int).toNat)).length) a7),(4,vI 0)] ?_
     obtain⟨fg,dg,fi,dj⟩:=aH.freeze bt (df)
     exact At.rt (.tuple #[vI (v+((u.toNat % 128*2 ^ (7*i.toNat):Nat):Int)),vL a6 (((b.drop (i+1:Int).toNat)).length) a7,vI 0]) (hR dg ⟨(vL a6 (((b.drop (i+1:Int).toNat)).length) a7),gG (bg (by exact(kE (iG hI D (by omega) (by omega) (by omega))).1)) rfl (bg (by exact(kE (iG hI D (by omega) (by omega) (by omega))).2.2)),bl dj (by exact(zH (iG hI D (by omega) (by omega) (by omega))).symm),rfl⟩)
    refine Op.sb 8 a3 ?_
    replace a3:=kW a3
    refine Op.pg 8 [(46,vF)]<|At.cQ 46 11<|At.rp 8 3 [(47,vI v),(48,vI ((u.toNat:Int) % 128)),(49,vI i)]<|Op.vq 50 ((7:Int)*i)<|Op.vl 51 (.int .u64 (IntKind.wrap .u64 ((7:Int)*i))) (.int .u64 ((7:Int)*i)) (sR (by omega) (by omega)) ?_
    refine Op.sv (ky:=.u64) 3 158 48 51 52 ((u.toNat:Int) % 128) ((7:Int)*i) (((u.toNat % 128*2 ^ (7*i.toNat):Nat):Int)) (by omega) (va hI D (by omega))<|Op.cO 53 (v+((u.toNat % 128*2 ^ (7*i.toNat):Nat):Int)) (by(have h9:=rU hI D (by omega);omega)) (by(have h9:=rU hI D (by omega);omega))<|Op.pg 12 [(5,vI (v+((u.toNat % 128*2 ^ (7*i.toNat):Nat):Int)))]<|At.go 13 1 [(54,vF)]<|At.cQ 54 16 ?_
    exact At.rp 3 1 [(13,vI i)]<|Op.vq 14 (i+1)<|Op.pg 3 [(6,vI (i+1))] (At.ke (bb (v+((u.toNat % 128*2 ^ (7*i.toNat):Nat):Int)) (i+1) _ (by omega) (by omega) (by omega) (by exact zj hI D (by omega) (by omega) (by omega)) G))
   exact At.go 18 3 [(2,vI 0),(3,vN),(4,vI 11)]<|At.rt (.tuple #[vI 0,vN,vI 11]) (hR G ⟨vN,gG (bg (by exact(kE (u0 hI (by omega))).1)) rfl (bg (by exact(kE (u0 hI (by omega))).2.2)),bl (an.empty _ _ _ _ _) (by exact(xu (.inr (u0 hI (by omega)))).symm),rfl⟩)
 exact At.ke (b4 _ 0 0 _ (bG _) (by omega) (by omega) (by exact Hh _) (St.init hg))
theorem zL (B:World) (h:ay) (g:GH) (hg:bu g h) (ad:bz g) (a4:Value) (fs:List aj) (D:an g 22 (fI 5 a_) a4 fs) (hl:fs.length≤1000000000):
  aG prog B 38 #[a4] h g [] (fun bm g' L'=>∃v0,bm=.tuple #[v0,.int .i64 ((b7 fs).2)]∧an g' 5 a_ v0 ((b7 fs).1)∧L'=[]):=by
 obtain⟨a5,I,rfl⟩:=D.ak
 refine aG.aq func38 fun R hR=>?_
 have a6:=St.init hg
 refine At.go 1 2 []<|At.go 2 3 [(10,.bool (decide ((fs.length:Int)>1024)))]<|At.fd ((fs.length:Int)>1024) 10 3 5 (fun dg=>?_) fun dj=>?_
 ·exact At.go 4 2 [(2,vN),(3,vI 13)]<|At.rt rQ (hR a6 ⟨vN,bA rfl (bg (by exact(dM (zm ‹_›)).2)),bl (an.empty _ _ _ _ _) (by exact(dM (zm ‹_›)).1),rfl⟩)
 refine At.rg 2<|Op.ls 11 0 5 #[] a6 fun ae dk bo=>Op.pg 6 [(4,vL (some ⟨ae,0,none⟩) 0 0)]<|At.go 7 1 [(5,vI 0)] ?_
 have bs:∀(m:Nat) (Z:GH) (ab:aM g Z) (o:aj) (i:Int) (J:Option Addr) (O:Nat) (am:az) (ar:ay) (hm:fs.length-i.toNat<m) (h0:0≤i) (h1:i≤fs.length) (hI:oN fs o i) (X:aH 5 a_ Z (.slice J o.length O) o am) (U:St h g (aS []) Z [am] ar),At (bP prog B 38 f38 R) [] 7 [(0,vL a5 fs.length I),(4,vL J o.length O),(5,vI i)] ar:=by
  intro m;induction m with
  |zero=>intros;omega
  |succ m bt=>
   intro Z ab o i J O am ar hm h0 h1 hI X U
   replace ad:=ad.mono ab
   replace D:=D.mono ab
   refine At.go 8 4 [(15,.bool (decide (i<(fs.length:Int))))]<|At.fd (i<(fs.length:Int)) 15 9 17 (fun dl=>?_) fun dp=>?_
   ·refine At.rp 6 2 [(18,vL a5 fs.length I),(19,vI i)] ?_
    obtain⟨u,V⟩:=bW fs i
    obtain⟨Y,G,dq,du,b3,b4,aw⟩:=an.bB D _ V
    cases b3
    refine Op.iq 76 22 1 24 fs.length I 18 19 20 Y G i ?_
    obtain⟨dv,aw,b5⟩:=aw
    obtain⟨b6,b8,rfl⟩:=b5.ak
    refine Op.l1 22 20 21 (G+i.toNat*1) (vL b6 u.length b8) (U.sub _ _ b4) ?_ (hv:=bN aw 0 rfl)
    refine Op.pg 10 [(23,.bool (decide ((u.length:Int)>65536)))]<|At.fd ((u.length:Int)>65536) 23 11 13 (fun dC=>?_) fun dE=>?_
    ·exact At.go 12 2 [(2,vN),(3,vI 13)]<|At.rt rQ (hR U.drop ⟨vN,bA rfl (bg (by exact(dM (zn V ‹_›)).2)),bl (an.empty _ _ _ _ _) (by exact(dM (zn V ‹_›)).1),rfl⟩)
    refine At.rp 11 2 [(25,vL (some ⟨Y,G,none⟩) fs.length I),(26,vI i)] ?_
    obtain⟨dT,d0,d1,d2,ca,cb,a0⟩:=an.bB D _ V
    cases ca
    refine Op.iq 76 22 1 24 fs.length I 25 26 27 Y G i ?_
    obtain⟨d3,a0,ce⟩:=a0
    obtain⟨cf,ch,rfl⟩:=ce.ak
    refine Op.l1 22 27 28 (G+i.toNat*1) (vL cf u.length ch) (U.sub _ _ cb) ?_ (hv:=bN a0 0 rfl)
    refine Op.px 1 [(29,vI (u.length:Int))]<|Op.c0 (some 30) (Ia _ _ _ U.sub ad (u.length:Int)) U ?_
    rintro _ d4 _ d5 a7 a8 ⟨cO,rfl,a9,rfl⟩
    obtain⟨bb,bc,rfl⟩:=a9.ak
    replace X:=X.mono a7
    replace D:=D.mono a7
    refine Op.pg 14 [(6,vL bb (((fm (u.length:Int)).1).length) bc)]<|At.rp 4 2 [(33,vL J o.length O),(34,vL bb (((fm (u.length:Int)).1).length) bc)] ?_
    obtain⟨d6,ci,ck⟩:=cT.slice (P:=prog) (a9.toH a8.sub)
    refine Op.ap 33 34 22 22 35 5 1 a_ (ys:=(fm (u.length:Int)).1) X a8 0 ck (by(have h8:=zk hI;have h9:=C3 (v:=(u.length:Int));generalize (fm (u.length:Int)).1.length=z at h9 ⊢;omega)) (fun _ _ _=>trivial) ci fun d7 d8 d9 bd a1 ea=>?_
    obtain⟨be,bi,rfl⟩:=bd.ak
    refine Op.pg 15 [(4,vL be ((o++((fm (u.length:Int)).1)).length) bi)]<|At.rp 7 3 [(36,vL be ((o++((fm (u.length:Int)).1)).length) bi),(37,vL (some ⟨Y,G,none⟩) fs.length I),(38,vI i)] ?_
    obtain⟨eb,ed,ee,ef,co,c3,a3⟩:=an.bB D _ V
    cases co
    refine Op.iq 76 22 1 24 fs.length I 37 38 39 Y G i ?_
    obtain⟨eh,a3,bj⟩:=a3
    obtain⟨c4,c5,rfl⟩:=bj.ak
    refine Op.l1 22 39 40 (G+i.toNat*1) (vL c4 u.length c5) (a1.sub _ _ c3) ?_ (hv:=bN a3 0 rfl)
    obtain⟨ej,c6,c8⟩:=cT.slice (P:=prog) (bj.toH a1.sub)
    refine Op.ap 36 40 22 22 41 5 1 a_ (ys:=u) bd a1 0 c8 (by(have h8:=zk hI;have h9:=C3 (v:=(u.length:Int));rw[b_];generalize (fm (u.length:Int)).1.length=z at h9 ⊢;omega)) (fun _ _ _=>trivial) c6 fun em en ep bk c9 er=>?_
    obtain⟨da,db,rfl⟩:=bk.ak
    exact Op.pg 16 [(4,vL da (((o++((fm (u.length:Int)).1))++u).length) db)]<|At.rp 3 1 [(16,vI i)]<|Op.vq 17 (i+1)<|Op.pg 7 [(5,vI (i+1))] (At.ke (bt _ (aM.trans ab (by repeat (first|assumption|apply aM.trans))) ((o++((fm (u.length:Int)).1))++u) (i+1) _ _ _ _ (by omega) (by omega) (by omega) (by exact O7 hI h0 V ‹_›) bk c9))
   refine At.go 18 3 [(2,vL J o.length O),(3,vI 0)] ?_
   obtain⟨et,dc,ex,dd⟩:=aH.freeze X (U)
   exact At.rt (.tuple #[vL J o.length O,vI 0]) (hR dc ⟨(vL J o.length O),bA rfl (bg (by exact(dM (zl hI ‹_› ‹_›)).2)),bl dd (by exact(dM (zl hI ‹_› ‹_›)).1),rfl⟩)
 have df:aH 5 a_ g (vL (some ⟨ae,0,none⟩) 0 0) ([]:aj) [(ae,Obj.cells #[] 5 (0,0))]:=aH.lit (by kernel_rfl) (by unfold maxLen;decide) (by kernel_rfl) Reads.nil
 exact At.ke (bs _ _ (aM.refl _) ([]:aj) 0 _ _ _ _ (bG _) (by omega) (by omega) (by exact Ho _) df bo)
theorem C5 (B:World) (h:ay) (g:GH) (hg:bu g h) (Y:bz g) (a0:Value) (bC:List Int) (O:an g 3 (dK .i64) a0 bC) (hl:bC.length≤10000000):
  aG prog B 37 #[a0] h g [] (fun a9 g' L'=>∃v0,a9=.tuple #[v0,.int .i64 ((cr bC).2)]∧an g' 5 a_ v0 ((cr bC).1)∧L'=[]):=by
 obtain⟨a1,Z,rfl⟩:=O.ak
 refine aG.aq func37 fun R hR=>At.go 1 2 []<|At.rg 2<|Op.ls 8 0 5 #[] (St.init hg) fun ab b5 bb=>Op.pg 2 [(4,vL (some ⟨ab,0,none⟩) 0 0)] ?_
 refine At.go 3 1 [(5,vI 0)] ?_
 have bc:∀(m:Nat) (U:GH) (V:aM g U) (o:aj) (i:Int) (D:Option Addr) (G:Nat) (ad:az) (ae:ay) (hm:bC.length-i.toNat<m) (h0:0≤i) (h1:i≤bC.length) (hI:oO bC o i) (I:aH 5 a_ U (.slice D o.length G) o ad) (J:St h g (aS []) U [ad] ae),At (bP prog B 37 f37 R) [] 3 [(0,vL a1 bC.length Z),(4,vL D o.length G),(5,vI i)] ae:=by
  intro m;induction m with
  |zero=>intros;omega
  |succ m bd=>
   intro U V o i D G ad ae hm h0 h1 hI I J
   replace Y:=Y.mono V
   replace O:=O.mono V
   refine At.go 4 4 [(12,.bool (decide (i<(bC.length:Int))))]<|At.fd (i<(bC.length:Int)) 12 5 12 (fun b6=>?_) fun b8=>?_
   ·refine At.rp 10 2 [(16,vL a1 bC.length Z),(17,vI i)] ?_
    obtain⟨u,X⟩:=bW bC i
    obtain⟨be,a3,ca,cb,bi,am,ar⟩:=an.bB O _ X
    cases bi
    refine Op.iq 78 3 1 8 bC.length Z 16 17 18 be a3 i ?_
    replace ar:cut _ _ _=[vI u]:=ar
    refine Op.l1 3 18 19 (a3+i.toNat*1) (vI u) (J.sub _ _ am) ?_ (hv:=bN ar 0 rfl)
    refine Op.c0 (some 20) (Ia _ _ _ J.sub Y u) J ?_
    rintro _ ce _ cf a4 aw ⟨ch,rfl,a5,rfl⟩
    obtain⟨a6,a7,rfl⟩:=a5.ak
    replace am:=a4 _ _ am
    replace I:=I.mono a4
    refine Op.pg 6 [(6,vL a6 (((fm u).1).length) a7),(7,vI ((fm u).2))]<|At.go 7 2 [(24,.bool (((fm u).2) != 0))]<|At.fn (((fm u).2)=0) 24 8 10 (fun ci=>?_) fun ck=>?_
    ·exact At.go 9 3 [(2,vN),(3,vI ((fm u).2))]<|At.rt (.tuple #[vN,vI ((fm u).2)]) (hR aw.drop ⟨vN,bA rfl (bg (by exact(dM (H9 X ‹_›)).2)),bl (an.empty _ _ _ _ _) (by exact(dM (H9 X ‹_›)).1),rfl⟩)
    refine At.rp 4 2 [(26,vL D o.length G),(27,vL a6 (((fm u).1).length) a7)] ?_
    obtain⟨co,bj,bk⟩:=cT.slice (P:=prog) (a5.toH aw.sub)
    refine Op.ap 26 27 22 22 28 5 1 a_ (ys:=(fm u).1) I aw 0 bk (by(have:=Ht hI;have:=C3 (v:=u);omega)) (fun _ _ _=>trivial) bj fun c3 c4 c5 a8 bm c6=>?_
    obtain⟨bo,bs,rfl⟩:=a8.ak
    exact Op.pg 11 [(4,vL bo ((o++((fm u).1)).length) bs)]<|At.rp 3 1 [(13,vI i)]<|Op.vq 14 (i+1)<|Op.pg 3 [(5,vI (i+1))] (At.ke (bd _ (aM.trans V (by repeat (first|assumption|apply aM.trans))) (o++((fm u).1)) (i+1) _ _ _ _ (by omega) (by omega) (by omega) (by exact O8 hI h0 X ‹_›) a8 bm))
   refine At.go 13 3 [(2,vL D o.length G),(3,vI 0)] ?_
   obtain⟨c8,bt,c9,b3⟩:=aH.freeze I (J)
   exact At.rt (.tuple #[vL D o.length G,vI 0]) (hR bt ⟨(vL D o.length G),bA rfl (bg (by exact(dM (zo hI ‹_›)).2)),bl b3 (by exact(dM (zo hI ‹_›)).1),rfl⟩)
 have b4:aH 5 a_ g (vL (some ⟨ab,0,none⟩) 0 0) ([]:aj) [(ab,Obj.cells #[] 5 (0,0))]:=aH.lit (by kernel_rfl) (by unfold maxLen;decide) (by kernel_rfl) Reads.nil
 exact At.ke (bc _ _ (aM.refl _) ([]:aj) 0 _ _ _ _ (bG _) (by omega) (by omega) (by exact Hp _) b4 bb)
theorem zM (B:World) (h:ay) (g:GH) (hg:bu g h) (I:bz g) (aw:Value) (b:aj) (a0:an g 5 a_ aw b) (hl:b.length≤1000000000):
  aG prog B 45 #[aw] h g [] (fun bd g' L'=>∃v0,bd=.tuple #[v0,.int .i64 ((aJ b).2)]∧an g' 22 (fI 5 a_) v0 ((aJ b).1)∧L'=[]):=by
 obtain⟨ch,ci,rfl⟩:=a0.ak
 refine aG.aq func45 fun R hR=>At.go 1 2 []<|At.rg 2<|Op.ls 8 0 22 #[] (St.init hg) fun ad ck be=>Op.pg 2 [(4,vL (some ⟨ad,0,none⟩) 0 0)] ?_
 have bi:∀(m:Nat) (J:GH) (ae:aM g J) (fs:List aj) (b2:aj) (u:Option Addr) (D:Nat) (am:az) (Z:Option Addr) (ab:Nat) (ar:ay) (hm:b2.length<m) (hI:mS b b2 fs) (bj:b2.length≤b.length) (hf:fs.length≤1024) (G:aH 22 (fI 5 a_) J (.slice u fs.length D) fs am) (a1:an J 5 a_ (vL Z b2.length ab) b2) (O:St h g (aS []) J [am] ar),At (bP prog B 45 f45 R) [] 2 [(0,vL Z b2.length ab),(4,vL u fs.length D)] ar:=by
  intro m;induction m with
  |zero=>intros;omega
  |succ m bk=>
   intro J ae fs b2 u D am Z ab ar hm hI bj hf G a1 O
   replace I:=I.mono ae
   refine At.go 3 3 [(11,.bool (decide ((b2.length:Int)>0)))]<|At.fd ((b2.length:Int)>0) 11 4 23 (fun co=>?_) fun c3=>?_
   ·refine At.go 5 3 [(14,.bool ((fs.length:Int)==1024))]<|At.fd ((fs.length:Int)=1024) 14 6 8 (fun c4=>?_) fun c5=>?_
    ·exact At.go 7 2 [(2,vN),(3,vI 13)]<|At.rt rQ (hR O.drop ⟨vN,bA rfl (bg (by exact(dM (zp hI ‹_› ‹_›)).2)),bl (an.empty _ _ _ _ _) (by exact(dM (zp hI ‹_› ‹_›)).1),rfl⟩)
    refine At.rp 9 1 [(16,vL Z b2.length ab)]<|Op.c0 (some 17) (Ib _ _ _ O.sub I _ _ a1 (by(try dsimp only)<;>omega)) O ?_
    rintro _ c6 _ c8 a3 U ⟨c9,rfl,V,rfl⟩
    obtain⟨X,Y,rfl⟩:=V.ak
    replace G:=G.mono a3
    replace I:=I.mono a3
    refine Op.pg 9 [(5,vI ((bf b2).1)),(6,vL X ((gj b2).length) Y),(7,vI ((bf b2).2.2))]<|At.go 10 2 [(22,.bool (((bf b2).2.2) != 0))]<|At.fn (((bf b2).2.2)=0) 22 11 13 (fun da=>?_) fun db=>?_
    ·exact At.go 12 3 [(2,vN),(3,vI ((bf b2).2.2))]<|At.rt (.tuple #[vN,vI ((bf b2).2.2)]) (hR U.drop ⟨vN,bA rfl (bg (by exact(dM (zq hI ‹_› ‹_› ‹_›)).2)),bl (an.empty _ _ _ _ _) (by exact(dM (zq hI ‹_› ‹_› ‹_›)).1),rfl⟩)
    refine At.go 14 2 [(25,.bool (decide (((bf b2).1)>65536)))]<|At.fd (((bf b2).1)>65536) 25 15 17 (fun dc=>?_) fun dd=>?_
    ·exact At.go 16 2 [(2,vN),(3,vI 13)]<|At.rt rQ (hR U.drop ⟨vN,bA rfl (bg (by exact(dM (zu hI ‹_› ‹_› ‹_› ‹_›)).2)),bl (an.empty _ _ _ _ _) (by exact(dM (zu hI ‹_› ‹_› ‹_› ‹_›)).1),rfl⟩)
    refine At.go 18 4 [(29,.bool (decide (((gj b2).length:Int)<((bf b2).1))))]<|At.fd (((gj b2).length:Int)<((bf b2).1)) 29 19 21 (fun df=>?_) fun dg=>?_
    ·exact At.go 20 2 [(2,vN),(3,vI 11)]<|At.rt (.tuple #[vN,vI 11]) (hR U.drop ⟨vN,bA rfl (bg (by exact(dM (H_ hI ‹_› ‹_› ‹_› ‹_› ‹_›)).2)),bl (an.empty _ _ _ _ _) (by exact(dM (H_ hI ‹_› ‹_› ‹_› ‹_› ‹_›)).1),rfl⟩)
    refine At.rp 8 3 [(30,vL u fs.length D),(31,vL X ((gj b2).length) Y),(32,vI ((bf b2).1))]<|Op.Ft (T:=22) (E:=5) (cK:=1) (x:=31) (ao:=X) (n:=((gj b2).length)) (c:=Y) (dst:=33) (d:=a_) (hi:=32) (k:=.i64) (m:=(bf b2).1) (by kernel_rfl) (by kernel_rfl) (by kernel_rfl) (by kernel_rfl) V (by(have hb:=iu (b:=b2) ‹_›;have:=zJ (b:=b2);omega)) (by omega) fun v51 a4=>?_
    obtain⟨a53,dj,rfl⟩:=a4.ak
    refine Op.c0 (some 34) (mT _ _ _ U.sub I _ _ a4 (by((try dsimp only)<;>((rw[dZ];have:=zJ (b:=b2);omega))))) U ?_
    rintro _ bm _ dk bo bs ⟨dl,dp,rfl,a5,dq,rfl⟩;subst bm;clear bo
    obtain⟨a6,a7,rfl⟩:=a5.ak
    obtain⟨du,bt,a8,b3⟩:=aH.freeze a5 (bs)
    replace G:=G.mono a8
    replace V:=V.mono a8
    refine Op.ls 35 1 22 #[vL a6 ((((gj b2).take ((bf b2).1:Int).toNat)).length) a7] bt fun dv dC a9=>Op.ap 30 35 76 76 36 22 24 (fI 5 a_) (ys:=[((gj b2).take ((bf b2).1:Int).toNat)]) G a9 1 (⟨_,_,rfl,⟨_,rfl,b3⟩,Reads.nil⟩) (by(simp only[bJ,cF];omega)) (fun _ _ _=>trivial) (cT.lit (m:=1) (sz:=1) (a9.ag 0 rfl) (news:=[vL a6 ((((gj b2).take ((bf b2).1:Int).toNat)).length) a7]) rfl rfl (by simp[Value.oneCell']) _) fun dE dT d0 bb b4 d1=>?_
    obtain⟨b5,b6,rfl⟩:=bb.ak
    refine Op.pg 22 [(4,vL b5 ((fs++([((gj b2).take ((bf b2).1:Int).toNat)])).length) b6)]<|At.rp 4 2 [(37,vL X ((gj b2).length) Y),(38,vI ((bf b2).1))]<|Op.pJ (T:=22) (E:=5) (cK:=1) (x:=37) (ao:=X) (n:=((gj b2).length)) (c:=Y) (dst:=39) (d:=a_) (lo:=38) (k:=.i64) (m:=(bf b2).1) (by kernel_rfl) (by kernel_rfl) (by kernel_rfl) (by kernel_rfl) V (by(have hb:=iu (b:=b2) ‹_›;have:=zJ (b:=b2);omega)) (by omega) fun d2 bc=>?_
    obtain⟨b8,ca,rfl⟩:=bc.ak
    exact Op.pg 2 [(0,vL b8 (((gj b2).drop ((bf b2).1:Int).toNat).length) ca)] (At.ke (bk _ (aM.trans ae (by repeat (first|assumption|apply aM.trans))) (fs++([((gj b2).take ((bf b2).1:Int).toNat)])) ((gj b2).drop ((bf b2).1:Int).toNat) _ _ _ _ _ _ (by(rw[eT];have:=C4 (b:=b2) ‹_›;omega)) (by exact O9 hI ‹_› ‹_› ‹_› ‹_› ‹_›) (by(rw[eT];have:=zJ (b:=b2);omega)) (by(simp only[b_,bJ,cF];omega)) bb bc ((b4).drop)))
   refine At.go 24 3 [(2,vL u fs.length D),(3,vI 0)] ?_
   obtain⟨d3,cb,d4,ce⟩:=aH.freeze G (O)
   exact At.rt (.tuple #[vL u fs.length D,vI 0]) (hR cb ⟨(vL u fs.length D),bA rfl (bg (by exact(dM (zw hI ‹_›)).2)),bl ce (by exact(dM (zw hI ‹_›)).1),rfl⟩)
 have cf:aH 22 (fI 5 a_) g (vL (some ⟨ad,0,none⟩) 0 0) ([]:List aj) [(ad,Obj.cells #[] 22 (0,0))]:=aH.lit (by kernel_rfl) (by unfold maxLen;decide) (by kernel_rfl) Reads.nil
 exact At.ke (bi _ _ (aM.refl _) ([]:List aj) b _ _ _ _ _ _ (bG _) (by exact Hu _) (by exact gF _) (by exact eX _) cf a0 be)
theorem C6 (B:World) (h:ay) (g:GH) (hg:bu g h) (V:bz g) (ad:Value) (b:aj) (ae:an g 5 a_ ad b) (hl:b.length≤1000000000):
  aG prog B 46 #[ad] h g [] (fun a5 g' L'=>∃v0,a5=.tuple #[v0,.int .i64 ((bh b).2)]∧an g' 3 (dK .i64) v0 ((bh b).1)∧L'=[]):=by
 obtain⟨bm,bo,rfl⟩:=ae.ak
 refine aG.aq func46 fun R hR=>At.go 1 2 []<|At.rg 2<|Op.ls 8 0 3 #[] (St.init hg) fun X bs a6=>Op.pg 2 [(4,vL (some ⟨X,0,none⟩) 0 0)] ?_
 have a7:∀(m:Nat) (G:GH) (Y:aM g G) (os:List Int) (b2:aj) (u:Option Addr) (D:Nat) (Z:az) (J:Option Addr) (O:Nat) (ab:ay) (hm:b2.length<m) (hI:pU b b2 os) (a8:b2.length+os.length≤b.length) (I:aH 3 (dK .i64) G (.slice u os.length D) os Z) (am:an G 5 a_ (vL J b2.length O) b2) (U:St h g (aS []) G [Z] ab),At (bP prog B 46 f46 R) [] 2 [(0,vL J b2.length O),(4,vL u os.length D)] ab:=by
  intro m;induction m with
  |zero=>intros;omega
  |succ m a9=>
   intro G Y os b2 u D Z J O ab hm hI a8 I am U
   replace V:=V.mono Y
   refine At.go 3 3 [(11,.bool (decide ((b2.length:Int)>0)))]<|At.fd ((b2.length:Int)>0) 11 4 11 (fun bt=>?_) fun b3=>?_
   ·refine At.rp 9 1 [(13,vL J b2.length O)]<|Op.c0 (some 14) (Ib _ _ _ U.sub V _ _ am (by(try dsimp only)<;>omega)) U ?_
    rintro _ b4 _ b5 bb ar ⟨v37,rfl,aw,rfl⟩
    obtain⟨a0,a1,rfl⟩:=aw.ak
    replace I:=I.mono bb
    refine Op.pg 5 [(5,vI ((bf b2).1)),(6,vL a0 ((gj b2).length) a1),(7,vI ((bf b2).2.2))]<|At.go 6 2 [(19,.bool (((bf b2).2.2) != 0))]<|At.fn (((bf b2).2.2)=0) 19 7 9 (fun b6=>?_) fun b8=>?_
    ·exact At.go 8 3 [(2,vN),(3,vI ((bf b2).2.2))]<|At.rt (.tuple #[vN,vI ((bf b2).2.2)]) (hR ar.drop ⟨vN,bA rfl (bg (by exact(dM (zx hI ‹_› ‹_›)).2)),bl (an.empty _ _ _ _ _) (by exact(dM (zx hI ‹_› ‹_›)).1),rfl⟩)
    refine At.rp 5 2 [(21,vL u os.length D),(22,vI ((bf b2).1))]<|Op.ls 23 1 3 #[vI ((bf b2).1)] ar fun ca cb a3=>Op.ap 21 23 78 78 24 3 8 (dK .i64) (ys:=[(bf b2).1]) I a3 1 (⟨_,_,rfl,rfl,Reads.nil⟩) (by(simp only[bJ,cF];omega)) (fun _ _ _=>trivial) (cT.lit (m:=1) (sz:=1) (a3.ag 0 rfl) (news:=[vI ((bf b2).1)]) rfl rfl (by simp[Value.oneCell']) _) fun ce cf ch a4 bc ci=>?_
    obtain⟨bd,be,rfl⟩:=a4.ak
    exact Op.pg 10 [(4,vL bd ((os++([(bf b2).1])).length) be)]<|At.go 2 2 [(0,vL a0 ((gj b2).length) a1)] (At.ke (a9 _ (aM.trans Y (by repeat (first|assumption|apply aM.trans))) (os++([(bf b2).1])) (gj b2) _ _ _ _ _ _ (by(have:=C4 (b:=b2) ‹_›;omega)) (by exact O_ hI ‹_› ‹_›) (by(have:=C4 (b:=b2) ‹_›;rw[b_,oI];omega)) a4 aw ((bc).drop)))
   refine At.go 12 3 [(2,vL u os.length D),(3,vI 0)] ?_
   obtain⟨ck,bi,co,bj⟩:=aH.freeze I (U)
   exact At.rt (.tuple #[vL u os.length D,vI 0]) (hR bi ⟨(vL u os.length D),bA rfl (bg (by exact(dM (zy hI ‹_›)).2)),bl bj (by exact(dM (zy hI ‹_›)).1),rfl⟩)
 have bk:aH 3 (dK .i64) g (vL (some ⟨X,0,none⟩) 0 0) ([]:List Int) [(X,Obj.cells #[] 3 (0,0))]:=aH.lit (by kernel_rfl) (by unfold maxLen;decide) (by kernel_rfl) Reads.nil
 exact At.ke (a7 _ _ (aM.refl _) ([]:List Int) b _ _ _ _ _ _ (bG _) (by exact Hw _) (by(simp;done)) bk ae a6)
structure aR where
  ah:Int
  af:aj
  Data:aj
  ai:Int
  aI:Int
  aV:Bool
  aK:Bool
  au:Bool
  aB:List aR
def C7 (x:aR) (u D:Value):List Value:=[.int .i64 x.ah,.string (br x.af),u,.int .i64 x.ai,.int .i64 x.aI,.bool x.aV,.bool x.aK,.bool x.au,D]
mutual
def tE (g:GH):aR→List Value→Prop
  |⟨k,p,u,I,sp,b,J,w,ops⟩,cs=>∃D G,an g 5 a_ D u∧
     (∃ao c,G=.slice ao ops.length c∧ops.length≤c∧(ops≠[]→∃(b:Nat) (o:Nat) (cur:Array Value) (fz:TypeId×Nat×Nat),ao=some ⟨b,o,none⟩∧g b=some (.cells cur fz.1 fz.2)∧pV g ops (cut cur o (ops.length*9))))∧
     cs=C7 ⟨k,p,u,I,sp,b,J,w,ops⟩ D G
def pV (g:GH):List aR→List Value→Prop
  |[],cs=>cs=[]
  |x::xs,cs=>∃c cs',cs=c++cs'∧tE g x c∧pV g xs cs'
end
def C8 (g:GH) (u:Value) (ops:List aR):Prop:=∃ao c,u=.slice ao ops.length c∧ops.length≤c∧(ops≠[]→∃(b:Nat) (o:Nat) (cur:Array Value) (fz:TypeId×Nat×Nat),ao=some ⟨b,o,none⟩∧g b=some (.cells cur fz.1 fz.2)∧pV g ops (cut cur o (ops.length*9)))
theorem zN (g:GH) (x:aR) (cs:List Value):tE g x cs↔∃u D,an g 5 a_ u x.Data∧C8 g D x.aB∧cs=C7 x u D:=by
  obtain⟨k,p,G,I,sp,b,J,w,ops⟩:=x
  rw[tE]
  rfl
mutual
theorem Ic {g g':GH} (hg:aM g g'):∀(x:aR) (cs:List Value),tE g x cs→tE g' x cs
  |⟨k,p,G,I,sp,b,J,w,ops⟩,cs,h=>by
   rw[tE] at h ⊢
   obtain⟨u,D,h1,⟨ao,c,h2,h3,h4⟩,h5⟩:=h
   exact⟨u,D,h1.mono hg,⟨ao,c,h2,h3,fun hn=>by
     obtain⟨b,o,cur,fz,e1,e2,e3⟩:=h4 hn
     exact⟨b,o,cur,fz,e1,hg _ _ e2,Ie hg ops _ e3⟩⟩,h5⟩
theorem Ie {g g':GH} (hg:aM g g'):∀(xs:List aR) (cs:List Value),pV g xs cs→pV g' xs cs
  |[],cs,h=>by rw[pV] at h ⊢;exact h
  |x::xs,cs,h=>by
   rw[pV] at h ⊢
   obtain⟨c,cs',h1,h2,h3⟩:=h
   exact⟨c,cs',h1,Ic hg x c h2,Ie hg xs cs' h3⟩
end
def j8:aR:=⟨0,[],[],0,0,false,false,false,[]⟩
def dy:Kd aR where
  sz:=9
  K:=tE
  len h:=by obtain⟨u,D,_,_,rfl⟩:=(zN _ _ _).1 h;rfl
  one h:=by
    obtain⟨u,D,h1,⟨ao,c,rfl,_⟩,rfl⟩:=(zN _ _ _).1 h
    obtain⟨_,_,rfl⟩:=h1.ak
    simp[Value.oneCell',C7]
  mono hg h:=Ic hg _ _ h
  zv:=j8
  zc:=[.int .i64 0,.string (br []),.slice none 0 0,.int .i64 0,.int .i64 0,.bool false,.bool false,.bool false,.slice none 0 0]
  zK _:=(zN _ _ _).2 ⟨_,_,an.nil _ _ _,⟨none,0,rfl,gF _,fun h=>absurd rfl h⟩,rfl⟩
theorem zO (g:GH):∀(xs:List aR) (cs:List Value),pV g xs cs↔Reads dy g xs cs
  |[],cs=>by rw[pV,Reads]
  |x::xs,cs=>by
   rw[pV,Reads]
   constructor
   · rintro⟨c,cs',h1,h2,h3⟩
     exact⟨c,cs',h1,h2,(zO g xs cs').1 h3⟩
   · rintro⟨c,cs',h1,h2,h3⟩
     exact⟨c,cs',h1,h2,(zO g xs cs').2 h3⟩
theorem Ig (g:GH) (u:Value) (ops:List aR):C8 g u ops↔an g 25 dy u ops:=by
  unfold C8 an
  constructor
  · rintro⟨ao,c,h1,h2,h3⟩
    refine⟨ao,c,h1,h2,fun hn=>?_⟩
    obtain⟨b,o,cur,fz,e1,e2,e3⟩:=h3 hn
    exact⟨b,o,cur,fz,e1,e2,(zO g _ _).1 e3⟩
  · rintro⟨ao,c,h1,h2,h3⟩
    refine⟨ao,c,h1,h2,fun hn=>?_⟩
    obtain⟨b,o,cur,fz,e1,e2,e3⟩:=h3 hn
    exact⟨b,o,cur,fz,e1,e2,(zO g _ _).2 e3⟩
theorem k9 {g:GH} {x:aR} {cs:List Value}:dy.K g x cs↔∃v0 v1,an g 5 a_ v0 x.Data∧an g 25 dy v1 x.aB∧
    cs=[.int .i64 x.ah,.string (br x.af),v0,.int .i64 x.ai,.int .i64 x.aI,.bool x.aV,.bool x.aK,.bool x.au,v1]:=by
  refine(zN g x cs).trans ?_
  constructor
  · rintro⟨v0,v1,h1,h2,h3⟩
    exact⟨v0,v1,h1,(Ig _ _ _).1 h2,h3⟩
  · rintro⟨v0,v1,h1,h2,h3⟩
    exact⟨v0,v1,h1,(Ig _ _ _).2 h2,h3⟩
def fR {α:Type} (x:List (Int×α)):Prop:=x.Pairwise fun a b=>a.1<b.1
def cy {α:Type} (x:List (Int×α)) (k:Int):Option α:=(x.find? fun p=>decide (p.1=k)).map (·.2)
def eR {α:Type} (x:List (Int×α)) (k:Int):List (Int×α):=x.filter fun p=>!decide (p.1=k)
def dz {α:Type}:List (Int×α)→Int→α→List (Int×α)
  |[],k,a=>[(k,a)]
  |p::x,k,a=>if p.1<k then p::dz x k a else if p.1=k then (k,a)::x else (k,a)::p::x
section
variable {α:Type} {x:List (Int×α)} {k j:Int} {a:α}
theorem kF (p:Int×α) (x:List (Int×α)) (k:Int):cy (p::x) k=if p.1=k then some p.2 else cy x k:=by
  unfold cy
  rw[wJ]
  by_cases h:p.1=k<;>simp[h]
theorem C9:cy x k=none↔∀p∈x,p.1≠k:=by
  induction x with
  |nil=>simp[cy]
  |cons p x ih=>
   rw[kF]
   by_cases h:p.1=k
   · simp[h]
   · rw[aL h,ih];simp[h]
theorem mo (hs:fR x):cy x k=some a↔(k,a)∈x:=by
  induction x with
  |nil=>simp[cy]
  |cons p x ih=>
   obtain⟨h1,h2⟩:=jF.1 hs
   rw[kF,eO]
   by_cases h:p.1=k
   · rw[aY h]
     subst h
     constructor
     · intro e;left;rw[←gI e]
     · rintro(e|e)
       · rw[←e]
       · exact absurd (h1 _ e) (Int.lt_irrefl _)
   · rw[aL h,ih h2]
     constructor
     · exact .inr
     · rintro(e|e)
       · rw[←e] at h;exact absurd rfl h
       · exact e
theorem Pa (hs:fR x) (k:Int):fR (eR x k):=s7 oL hs
theorem rV:∀{x:List (Int×α)} {q:Int×α},q∈dz x k a→q=(k,a)∨q∈x
  |[],q,h=>by simp[dz] at h;exact .inl h
  |p::x,q,h=>by
   rw[dz] at h
   repeat' split at h
   · rcases eO.1 h with rfl|h
     · exact .inr (by simp)
     · rcases rV h with h|h
       · exact .inl h
       · exact .inr (by simp[h])
   · rcases eO.1 h with rfl|h
     · exact .inl rfl
     · exact .inr (by simp[h])
   · rcases eO.1 h with rfl|h
     · exact .inl rfl
     · exact .inr h
theorem xw:∀{x:List (Int×α)},fR x→fR (dz x k a)
  |[],_=>by simp[dz,fR]
  |p::x,hs=>by
   obtain⟨h1,h2⟩:=jF.1 hs
   rw[dz]
   by_cases h:p.1<k
   · rw[aY h]
     refine jF.2 ⟨fun q hq=>?_,xw h2⟩
     rcases rV hq with rfl|hq
     · exact h
     · exact h1 q hq
   · rw[aL h]
     by_cases e:p.1=k
     · rw[aY e]
       subst e
       exact jF.2 ⟨fun q hq=>h1 q hq,h2⟩
     · rw[aL e]
       refine jF.2 ⟨fun q hq=>?_,hs⟩
       rcases eO.1 hq with rfl|hq
       · show k<q.1;omega
       · have:=h1 q hq;show k<q.1;omega
theorem C_:∀{x:List (Int×α)},cy (dz x k a) j=if k=j then some a else cy x j
  |[]=>by rw[dz,kF]
  |p::x=>by
   rw[dz]
   by_cases h1:p.1<k
   · rw[aY h1,kF,C_,kF]
     by_cases h:p.1=j
     · rw[aY h,aL (by omega),aY h]
     · rw[aL h,aL h]
   · rw[aL h1]
     by_cases h2:p.1=k
     · rw[aY h2,kF,kF]
       by_cases h3:k=j
       · rw[aY h3,aY h3]
       · rw[aL h3,aL h3,aL (by omega)]
     · rw[aL h2,kF]
theorem Ih:cy (eR x k) j=if k=j then none else cy x j:=by
  induction x with
  |nil=>simp[eR,cy]
  |cons p x ih=>
   unfold eR at *
   rw[iW]
   by_cases h:p.1=k
   · subst h
     simp only[sZ,nW,fW,dI]
     rw[ih,kF]
     split<;>simp_all
   · simp only[h,uE,rj,gX]
     rw[kF,ih,kF]
     by_cases hj:p.1=j
     · rw[aY hj,aL (by omega),aY hj]
     · rw[aL hj,aL hj]
end
def fu {α:Type} (R:α→Value→Prop) (ks:List (Int×Value)) (x:List (Int×α)):Prop:=
  fR x∧(ks.map (·.1)).Nodup∧(ks.map (·.1)).Perm (x.map (·.1))∧∀k v a,(k,v)∈ks→(k,a)∈x→R a v
section
variable {α:Type} {R R':α→Value→Prop} {ks:List (Int×Value)} {x:List (Int×α)} {k:Int} {v:Value} {a:α}
theorem fu.mono (H:fu R ks x) (h:∀a v,R a v→R' a v):fu R' ks x:=⟨H.1,H.2.1,H.2.2.1,fun k v a h1 h2=>h _ _ (H.2.2.2 k v a h1 h2)⟩
theorem fu.nil:fu R [] ([]:List (Int×α)):=⟨List.Pairwise.nil,List.Pairwise.nil,ga _,fun _ _ _ h=>by cases h⟩
theorem Da (hn:(ks.map (·.1)).Nodup):fq ks k=some v↔(k,v)∈ks:=by
  constructor
  · intro h
    unfold fq at h
    obtain⟨p,hp,rfl⟩:=q5.1 h
    have h1:=vY hp
    have h2:=vZ hp
    simp only[cN] at h2
    rw[←h2];exact h1
  · intro h
    obtain⟨i,hi⟩:=pO.1 h
    exact BP hn hi
theorem Pb:fq ks k=none↔∀p∈ks,p.1≠k:=by
  constructor
  · intro h p hp e
    unfold fq at h
    rw[Option.map_eq_none_iff,List.find?_eq_none] at h
    exact absurd e (by simpa using h p hp)
  · exact BO
theorem fu.Ii (H:fu R ks x):fq ks k=none↔cy x k=none:=by
  rw[Pb,C9]
  have hm:∀j,(∃p∈ks,p.1=j)↔∃p∈x,p.1=j:=fun j=>by
    have:=H.2.2.1.mem_iff (a:=j)
    simpa using this
  have:=hm k
  constructor
  · intro h p hp e
    obtain⟨q,hq,e2⟩:=(hm k).2 ⟨p,hp,e⟩
    exact h q hq e2
  · intro h p hp e
    obtain⟨q,hq,e2⟩:=(hm k).1 ⟨p,hp,e⟩
    exact h q hq e2
theorem fu.Db (H:fu R ks x) (h:fq ks k=some v):∃a,cy x k=some a∧R a v:=by
  cases hf:cy x k with
  |none=>rw[H.Ii.2 hf] at h;cases h
  |some a=>exact⟨a,rfl,H.2.2.2 k v a ((Da H.2.1).1 h) ((mo H.1).1 hf)⟩
theorem fu.gS (H:fu R ks x) (k:Int):(fq ks k=none∧cy x k=none)∨∃v a,fq ks k=some v∧cy x k=some a∧R a v:=by
  cases h:fq ks k with
  |none=>exact .inl ⟨rfl,H.Ii.1 h⟩
  |some v=>obtain⟨a,h1,h2⟩:=H.Db h;exact .inr ⟨v,a,rfl,h1,h2⟩
theorem Pc {q:Int×Value} (hn:(ks.map (·.1)).Nodup) (h:q∈gR ks k v):q=(k,v)∨(q∈ks∧q.1≠k):=by
  unfold gR at h
  split at h
  · obtain⟨p,hp,e⟩:=cY.1 h
    by_cases hk:p.1=k
    · rw[aY hk] at e;left;rw[←e,hk]
    · rw[aL hk] at e;right;rw[←e];exact⟨hp,hk⟩
  · rename_i hne
    rcases eo.1 h with h|h
    · right
      refine⟨h,fun e=>hne (qC.2 ⟨q,h,by simpa using e⟩)⟩
    · left;exact iA.1 h
theorem Ij:(gR ks k v).map (·.1)=if ks.any (fun p=>decide (p.1=k)) then ks.map (·.1) else ks.map (·.1)++[k]:=by
  unfold gR
  split
  · rw[jA]
    apply wA
    intro p _
    simp only[Function.comp_apply]
    split<;>rfl
  · simp
theorem Pd:∀{x:List (Int×α)},fR x→(dz x k a).map (·.1)=if x.any (fun p=>decide (p.1=k)) then x.map (·.1) else (dz x k a).map (·.1)
  |x,hs=>by
   split
   · rename_i h
     induction x with
     |nil=>simp at h
     |cons p x ih=>
      obtain⟨h1,h2⟩:=jF.1 hs
      rw[dz]
      repeat' split
      · rename_i hlt
        rw[eS,eS]
        rw[BK] at h
        have:decide (p.1=k)=false:=gQ (by omega)
        rw[this,s6] at h
        rw[ih h2 h]
      · rename_i _ e
        simp[e]
      · rename_i n1 n2
        exfalso
        rw[BK] at h
        have:decide (p.1=k)=false:=gQ (by omega)
        rw[this,s6] at h
        obtain⟨q,hq,e⟩:=qC.1 h
        have:=h1 q hq
        simp only[cN] at e
        omega
   · rfl
theorem Dc:∀{x:List (Int×α)},(∀p∈x,p.1≠k)→(dz x k a).Perm ((k,a)::x)
  |[],_=>ga _
  |p::x,h=>by
   rw[dz]
   repeat' split
   · exact((Dc fun q hq=>h q (by simp[hq])).cons p).trans (List.Perm.swap _ _ _)
   · rename_i e;exact absurd e (h p (by simp))
   · exact ga _
theorem fu.pz (H:fu R ks x) (hv:R a v):fu R (gR ks k v) (dz x k a):=by
  have hs:=xw (k:=k) (a:=a) H.1
  have hm:(∃p∈ks,p.1=k)↔∃p∈x,p.1=k:=by
    have:=H.2.2.1.mem_iff (a:=k)
    simpa using this
  refine⟨hs,?_,?_,fun j u b h1 h2=>?_⟩
  · rw[Ij]
    split
    · exact H.2.1
    · rename_i hne
      rw[mM]
      refine⟨H.2.1,by simp,fun y hy z hz e=>?_⟩
      rw[iA.1 hz] at e
      obtain⟨p,hp,e2⟩:=cY.1 hy
      exact hne (qC.2 ⟨p,hp,by rw[e2,e];simp⟩)
  · rw[Ij]
    by_cases hk:∃p∈ks,p.1=k
    · obtain⟨p,hp,e⟩:=hk
      rw[aY (qC.2 ⟨p,hp,by simpa using e⟩),Pd H.1]
      obtain⟨q,hq,e2⟩:=hm.1 ⟨p,hp,e⟩
      rw[aY (qC.2 ⟨q,hq,by simpa using e2⟩)]
      exact H.2.2.1
    · rw[aL (by simp only[qC,cN];exact hk)]
      have hx:∀p∈x,p.1≠k:=fun p hp e=>hk (hm.2 ⟨p,hp,e⟩)
      refine List.Perm.trans ?_ ((Dc (a:=a) hx).map (·.1)).symm
      exact List.perm_append_comm.trans (H.2.2.1.cons k)
  · have hf:=(mo hs).2 h2
    rw[C_] at hf
    rcases Pc H.2.1 h1 with e|⟨h1,hne⟩
    · obtain⟨rfl,rfl⟩:=Prod.mk.inj e
      rw[aY rfl] at hf
      rw[←gI hf];exact hv
    · rw[aL (fun e=>hne e.symm)] at hf
      exact H.2.2.2 j u b h1 ((mo H.1).1 hf)
theorem fu.n7 (H:fu R ks x) (k:Int):fu R (jm ks k) (eR x k):=by
  refine⟨Pa H.1 k,uH (List.filter_sublist.map _) H.2.1,?_,fun j u b h1 h2=>H.2.2.2 j u b (ic.1 h1).1 (ic.1 h2).1⟩
  have e1:(jm ks k).map (·.1)=(ks.map (·.1)).filter fun j=>!decide (j=k):=by unfold jm;rw[s9];rfl
  have e2:(eR x k).map (·.1)=(x.map (·.1)).filter fun j=>!decide (j=k):=by unfold eR;rw[s9];rfl
  rw[e1,e2]
  exact H.2.2.1.filter _
end
def n8 {α:Type} (R:GH→α→Value→Prop) (g:GH) (b:Nat) (x:List (Int×α)) (c:az):Prop:=∃es aZ ks,c=[(b,.map es aZ)]∧cG encI es aZ ks∧fu (R g) ks x
def pW {α:Type} (R:GH→α→Value→Prop) (g:GH) (b:Nat) (x:List (Int×α)):Prop:=∃es aZ ks,g b=some (.map es aZ)∧cG encI es aZ ks∧fu (R g) ks x
section
variable {α:Type} {R:GH→α→Value→Prop} {g g':GH} {b:Nat} {x y:List (Int×α)} {c:az}
theorem n8.mono (hm:∀a v,R g a v→R g' a v) (H:n8 R g b x c):n8 R g' b x c:=by
  obtain⟨es,aZ,ks,h1,h2,h3⟩:=H
  exact⟨es,aZ,ks,h1,h2,h3.mono hm⟩
theorem pW.mono (hg:aM g g') (hm:∀a v,R g a v→R g' a v) (H:pW R g b x):pW R g' b x:=by
  obtain⟨es,aZ,ks,h1,h2,h3⟩:=H
  exact⟨es,aZ,ks,hg _ _ h1,h2,h3.mono hm⟩
theorem n8.fK {h0:ay} {g0:GH} {S0:Nat→Prop} {L:List az} {h:ay} {C:az} (hm:∀a v,R g a v→R (cS g C) a v) (H:n8 R g b x c) (s:St h0 g0 S0 g (C::L) h) (hc:∀p∈c,p∈C):pW R (cS g C) b x:=by
  obtain⟨es,aZ,ks,rfl,h2,h3⟩:=H
  exact⟨es,aZ,ks,nV s.oJ (hc _ (.head _)),h2,h3.mono hm⟩
end
open Go Go.Sort Go.Proofs
def pX (_:GH) (x:Int) (a:Array Value):Prop:=a=#[.int .i64 x]
def dJ (u:List Int):List Int:=u.mergeSort fun x y=>decide (x≤y)
theorem k_ (u:List Int):(dJ u).length=u.length:=by simp[dJ]
theorem Ik {l u:List Int} (h:l.Perm u):dJ l=dJ u:=by
  have tr:∀a b c:Int,decide (a≤b)=true→decide (b≤c)=true→decide (a≤c)=true:=fun a b c h1 h2=>by simp only[cN] at *;omega
  have tot:∀a b:Int,(decide (a≤b)||decide (b≤a))=true:=fun a b=>by simp only[ji,cN];omega
  refine yE (le:=fun a b=>decide (a≤b)=true) (fun a b _ _ h1 h2=>?_) (uF tr tot l) (uF tr tot u) (((uG l _).trans h).trans (uG u _).symm)
  simp only[cN] at h1 h2
  omega
theorem Dd {l:List Int} (h:l.Pairwise fun a b=>a<b):dJ l=l:=by
  have tr:∀a b c:Int,decide (a≤b)=true→decide (b≤c)=true→decide (a≤c)=true:=fun a b c h1 h2=>by simp only[cN] at *;omega
  have tot:∀a b:Int,(decide (a≤b)||decide (b≤a))=true:=fun a b=>by simp only[ji,cN];omega
  refine yE (le:=fun a b=>decide (a≤b)=true) (fun a b _ _ h1 h2=>?_) (uF tr tot l) (h.imp fun hl=>?_) (uG l _)
  · simp only[cN] at h1 h2
    omega
  · simp only[cN]
    omega
theorem Pe {l u:List Int} (h:l.Perm u) (hs:u.Pairwise fun a b=>a<b):dJ l=u:=(Ik h).trans (Dd hs)
theorem Il {g:GH}:∀{xs:List Int} {cs:List Value},Reads (dK .i64) g xs cs→cs=xs.map encI
  |[],cs,h=>by simpa[Reads] using h
  |x::xs,cs,⟨c,cs',e,hk,hr⟩=>by
   have hk:c=[.int .i64 x]:=hk
   have:=Il hr
   subst hk this
   rw[e]
   rfl
theorem Im (g:GH):∀xs:List Int,Reads (dK .i64) g xs (xs.map encI)
  |[]=>Reads.nil
  |x::xs=>⟨[.int .i64 x],xs.map encI,rfl,rfl,Im g xs⟩
theorem Pf (cur:Array Value) (o:Nat) (ts:List Int) (h:o+ts.length≤cur.size):putCells encI o ts.toArray cur=splice cur o (ts.map encI):=by
  apply BN
  intro k
  have hc:cur.toList.length=cur.size:=q6
  unfold putCells splice
  rw[F0]
  simp only[ew,qx]
  rw[wT,b_,dZ,ew,wT,dZ,hc,jB (by omega)]
  by_cases h1:k<o
  · rw[aY (by omega),aY h1,yF h1,q4]
    cases cur[k]? with
    |none=>rfl
    |some x=>simp;omega
  · by_cases h2:k<o+ts.length
    · rw[aY (by omega),aL h1,jC]
      have hk:k<cur.size:=by omega
      have hj:k-o<ts.length:=by omega
      rw[yD hk,rq hj]
      simp only[lI]
      rw[aY ⟨by omega,by simpa using h2⟩]
      simp[hj]
    · rw[aL (by omega),rE,q4,show o+ts.length+(k-(o+ts.length))=k from by omega]
      cases cur[k]? with
      |none=>rfl
      |some x=>simp;omega
theorem Io (B:World) (h:ay) (g:GH) (hg:bu g h) (v:Value) (u:List Int) (c:az) (hr:aH 3 (dK .i64) g v u c) (hl:u.length≤1000000000) (hs:St h g (aS [c]) g [c] h):
    aG prog B 80 #[v] h g [c] fun G g' L'=>G=.tuple #[]∧g'=g∧∃c',aH 3 (dK .i64) g v (dJ u) c'∧L'=[c']:=by
  rcases hr with ⟨ao,rfl,rfl,rfl⟩|⟨b,o,cap,cur,rest,rfl,rfl,h1,h2,h3,h4⟩
  · intro w is
    exact(slices_Sort_int_none ao 0 w).mono fun e w' ⟨he,hw⟩=>⟨.tuple #[],he,hw▸is.again,g,[[]],by rw[hw,is.heap];exact hs,rfl,rfl,[],.inl ⟨ao,rfl,by simp[dJ],rfl⟩,rfl⟩
  · intro w is
    have hb:=hs.ag 0 (b:=b) rfl
    have D:w.heap[b]?=some (.cells cur 3 (0,0)):=by rw[is.heap];exact hb
    have hz:(dK .i64).sz=1:=rfl
    rw[hz,nU] at h3 h4
    have I:=Il h4
    have hcell:∀j,j<u.length→cur[o+j]?=some (encI u[j]!):=by
      intro j hj
      have e:(cut cur o cap)[j]?=some (encI u[j]!):=by
        rw[I,jC,F1 hj]
        simp[hj]
      unfold cut at e
      rw[yF (by omega),rE,q4] at e
      exact e
    have hH:Holds (Value.int .i64) w b o u.toArray:=by
      intro j hj
      have hj:j<u.length:=by simpa using hj
      refine⟨?_,by simp[World.frozen?,D]⟩
      simp only[World.cell?,D]
      simp only[Option.isSome_none,fW,dI]
      rw[hcell j hj]
      simp[hj]
      rfl
    have hlt:b<w.heap.size:=(lF.1 D).1
    refine(slices_Sort_int b o cap u w hH hlt (by omega)).mono fun e w' ⟨he,n,os,hw⟩=>⟨.tuple #[],he,?_,?_⟩
    · subst hw
      exact⟨rfl,is.os,is.tape,is.output⟩
    · have hu:iC h b (.cells (putCells encI o (dJ u).toArray cur) 3 (0,0)) (h.modify b (onCells (putCells encI o (dJ u).toArray))):=iC.modify (onCells (putCells encI o (dJ u).toArray)) hb
      have s1:=(hs.uw 0 (b:=b) rfl hu).grow os
      have hh:w'.heap=h.modify b (onCells (putCells encI o (dJ u).toArray))++os:=by
        rw[hw,←is.heap]
        rfl
      rw[hh]
      have hts:o+(dJ u).length≤cur.size:=by rw[k_];omega
      have hput:putAt u 0 (dJ u)=dJ u:=by
        unfold putAt
        rw[uB,dS,qw,mO (by rw[k_];omega),dm]
      have hrow:=aH.yq (T:=3) (d:=(dK .i64)) (b:=b) (o:=o) (cap:=cap) (xs:=u) h1 h2 (by rw[hz,nU];exact h3) (by rw[hz,nU];exact h4) 0 (ys:=dJ u) (news:=(dJ u).map encI) (by rw[k_];omega) (Im g _)
      rw[hput,yG,nq,k_,←Pf cur o _ hts] at hrow
      exact⟨g,_,s1,rfl,rfl,_,hrow,rfl⟩
abbrev f_:=List (Int×dQ)
def gW (s:dQ):Bool:=decide (0≤s.ax)&&(decide (s.ax<8)&&(decide (1≤s.aI)&&(decide (s.aI≤1000000)&&(decide (0≤s.dx)&&decide (s.dx<1099511627776)))))
theorem xx {s:dQ} (h:gW s=true):(0≤s.ax∧s.ax<8)∧(1≤s.aI∧s.aI≤1000000)∧0≤s.dx∧s.dx<1099511627776:=by
  unfold gW at h
  simp only[bZ,cN] at h
  omega
def gC (x:f_):Prop:=fR x∧∀p∈x,p.1=p.2.ax∧gW p.2=true
def jO (x:f_) (c dF cc:Int):Int:=if gW ⟨c,dF,cc⟩=false then 120 else if (cy x c).isSome then 101 else 0
def mU (x:f_) (c dF cc:Int):f_:=if jO x c dF cc=0 then dz x c ⟨c,dF,cc⟩ else x
def touchE (x:f_) (c cc:Int):Int:=if (cy x c).isSome=false∨cc<0∨cc≥1099511627776 then 120 else 0
def touchB (x:f_) (c cc:Int):f_:=match cy x c with
  |none=>x
  |some s=>if cc<0∨cc≥1099511627776 then x else dz x c ⟨s.ax,s.aI,max s.dx cc⟩
def jP (bS:dQ→Bool) (x:f_):List Int:=(x.filter fun p=>bS p.2).map (·.1)
def mq (bS:dQ→Bool) (x:f_):f_:=x.filter fun p=>!bS p.2
def mu (cc:Int) (s:dQ):Bool:=decide (s.dx+s.aI≤cc)
def pY (cs:List Int) (s:dQ):Bool:=cs.any fun z=>decide (s.ax=z)
section
variable {x:f_} {c dF cc:Int} {bC:List dQ} {i:Int} {s:dQ}
theorem gC.nil:gC []:=⟨List.Pairwise.nil,fun p hp=>by cases hp⟩
theorem gC.len (H:gC x):x.length≤8:=by
  obtain⟨h1,h2⟩:=H
  have key:∀(x:f_) (n:Nat),x.Pairwise (fun a b=>a.1<b.1)→(∀p∈x,(n:Int)≤p.1∧p.1<8)→n≤8→x.length+n≤8:=by
    intro x
    induction x with
    |nil=>intro n _ _ h;simpa using h
    |cons p x ih=>
     intro n hs hb h8
     obtain⟨g1,g2⟩:=jF.1 hs
     have hp:=hb p (by simp)
     have:=ih (p.1.toNat+1) g2 (fun q hq=>by have:=g1 q hq;have:=hb q (by simp[hq]);omega) (by omega)
     rw[bJ]
     omega
  have:=key x 0 h1 (fun p hp=>by have:=xx (h2 p hp).2;have:=(h2 p hp).1;omega) (by omega)
  omega
theorem gC.put (H:gC x) (hs:gW s=true):gC (dz x s.ax s):=by
  refine⟨xw H.1,fun p hp=>?_⟩
  rcases rV hp with rfl|hp
  · exact⟨rfl,hs⟩
  · exact H.2 p hp
theorem gC.find (H:gC x) (h:cy x c=some s):s.ax=c∧gW s=true:=by
  have:=H.2 _ ((mo H.1).1 h)
  exact⟨this.1.symm,this.2⟩
theorem gC.kD (H:gC x):gC (mU x c dF cc):=by
  unfold mU
  split
  · rename_i h
    refine H.put (s:=⟨c,dF,cc⟩) ?_
    unfold jO at h
    split at h
    · simp at h
    · rename_i hr;simpa using hr
  · exact H
theorem gC.touch (H:gC x):gC (touchB x c cc):=by
  unfold touchB
  split
  · exact H
  · rename_i s hf
    split
    · exact H
    · rename_i hn
      obtain⟨rfl,hr⟩:=H.find hf
      have:=xx hr
      refine H.put (s:=⟨s.ax,s.aI,max s.dx cc⟩) ?_
      unfold gW
      simp only[bZ,cN]
      omega
theorem gC.left (H:gC x) (bS:dQ→Bool):gC (mq bS x):=
  ⟨s7 oL H.1,fun p hp=>H.2 p (ic.1 hp).1⟩
end
def jQ (rs:List (Int×Value)) (k:Int):Bool:=rs.any fun q=>decide (q.1=k)
theorem tF {rs:List (Int×Value)} {k:Int}:jQ rs k=true↔∃p∈rs,p.1=k:=by unfold jQ;simp
def mV (x0:f_) (bS:dQ→Bool) (x1:f_) (rs gf:List (Int×Value)) (o:List Int):Prop:=
  (∀p∈rs,p∈gf)∧(rs.map (·.1)).Nodup∧x1=x0.filter (fun p=>jQ rs p.1||!bS p.2)∧o.Perm ((x0.filter fun p=>!jQ rs p.1&&bS p.2).map (·.1))
theorem Ip {α:Type} {f f':Int×α→Bool} {k:Int} {s:α}:∀{l:List (Int×α)},fR l→(k,s)∈l→(∀p∈l,p.1≠k→f' p=f p)→f (k,s)=false→f' (k,s)=true→(l.filter f').Perm (l.filter f++[(k,s)])
  |[],_,h,_,_,_=>by cases h
  |q::l,hs,hm,hf,h0,h1=>by
   obtain⟨g1,g2⟩:=jF.1 hs
   rw[iW,iW]
   rcases eO.1 hm with rfl|hm
   · rw[aY h1,aL (by rw[h0];simp)]
     have:l.filter f'=l.filter f:=wS fun p hp=>hf p (by simp[hp]) (by have:=g1 p hp;simp only at this;omega)
     rw[this]
     exact CC (l₁:=[(k,s)])
   · have hq:q.1≠k:=by have:=g1 _ hm;simp only at this;omega
     have ih:=Ip g2 hm (fun p hp=>hf p (by simp[hp])) h0 h1
     rw[hf q (by simp) hq]
     split
     · exact ih.cons q
     · exact ih
section
variable {x0 x1:f_} {bS:dQ→Bool} {rs gf a b:List (Int×Value)} {o:List Int} {k:Int} {v:Value} {s:dQ} {R:dQ→Value→Prop}
theorem Pg (hK:fu R gf x0):mV x0 bS x0 gf gf []:=by
  have hm:∀p∈x0,jQ gf p.1=true:=fun p hp=>by
    have:=hK.2.2.1.mem_iff.2 (cY.2 ⟨p,hp,rfl⟩)
    obtain⟨q,hq,e⟩:=cY.1 this
    exact tF.2 ⟨q,hq,e⟩
  refine⟨fun p hp=>hp,hK.2.1,?_,?_⟩
  · rw[eq_comm,pN]
    intro p hp
    rw[hm p hp];rfl
  · have:(x0.filter fun p=>!jQ gf p.1&&bS p.2)=[]:=by
      rw[List.filter_eq_nil_iff]
      intro p hp
      rw[hm p hp];simp
    rw[this]
    exact ga _
theorem mV.mem (H:mV x0 bS x1 rs gf o) (e:rs=a++(k,v)::b):(k,v)∈gf:=H.1 _ (by rw[e];simp)
theorem mV.De (H:mV x0 bS x1 rs gf o) (hs:fR x0) (hf:cy x1 k=some s):(k,s)∈x0:=by
  have h1:fR x1:=by rw[H.2.2.1];exact s7 oL hs
  have:=(mo h1).1 hf
  rw[H.2.2.1] at this
  exact(ic.1 this).1
theorem qL {k j:Int} (e:rs=a++(k,v)::b) (hn:(rs.map (·.1)).Nodup):jQ (a++b) j=(jQ rs j&&!decide (j=k)):=by
  subst e
  rw[gA,eS] at hn
  have h1:=List.perm_middle.nodup_iff.1 hn
  rw[←gA] at h1
  have hk:=(pL.1 h1).1
  rw[iN,bZ,tF,tF]
  simp only[gz,jE]
  constructor
  · rintro⟨p,hp,rfl⟩
    refine⟨⟨p,?_,rfl⟩,fun e=>hk (e▸cY.2 ⟨p,hp,rfl⟩)⟩
    rcases eo.1 hp with hp|hp<;>simp[hp]
  · rintro⟨⟨p,hp,rfl⟩,hne⟩
    refine⟨p,?_,rfl⟩
    rcases eo.1 hp with hp|hp
    · simp[hp]
    · rcases eO.1 hp with rfl|hp
      · exact absurd rfl hne
      · simp[hp]
theorem mV.gO (H:mV x0 bS x1 rs gf o) (hs:fR x0) (e:rs=a++(k,v)::b) (hf:cy x1 k=some s) (hr:bS s=false):mV x0 bS x1 (a++b) gf o:=by
  have h0:=H.De hs hf
  have u:∀p∈x0,p.1=k→p.2=s:=fun p hp e=>by
    have h1:=(mo hs).2 (show(k,p.2)∈x0 by rw[←e];exact hp)
    rw[(mo hs).2 h0] at h1
    exact(gI h1).symm
  obtain⟨h1,h2,h3,h4⟩:=H
  have D:∀p∈a++b,p∈rs:=fun p hp=>by rw[e];rcases eo.1 hp with hp|hp<;>simp[hp]
  refine⟨fun p hp=>h1 p (D p hp),?_,?_,?_⟩
  · rw[e] at h2
    refine uH (CJ _ ?_) h2
    exact(CK a).append (CL _ _)
  · rw[h3]
    apply wS
    intro p hp
    rw[qL e h2]
    by_cases hk:p.1=k
    · rw[u p hp hk,hr];simp
    · simp[hk]
  · refine h4.trans ?_
    have:(x0.filter fun p=>!jQ rs p.1&&bS p.2)=x0.filter fun p=>!jQ (a++b) p.1&&bS p.2:=by
      apply wS
      intro p hp
      rw[qL e h2]
      by_cases hk:p.1=k
      · rw[u p hp hk,hr];simp
      · simp[hk]
    rw[this]
theorem mV.hit (H:mV x0 bS x1 rs gf o) (hs:fR x0) (e:rs=a++(k,v)::b) (hf:cy x1 k=some s) (hr:bS s=true):mV x0 bS (eR x1 k) (a++b) (jm gf k) (o++[k]):=by
  have h0:=H.De hs hf
  have u:∀p∈x0,p.1=k→p.2=s:=fun p hp e=>by
    have h1:=(mo hs).2 (show(k,p.2)∈x0 by rw[←e];exact hp)
    rw[(mo hs).2 h0] at h1
    exact(gI h1).symm
  obtain⟨h1,h2,h3,h4⟩:=H
  have D:jQ rs k=true:=tF.2 ⟨(k,v),by rw[e];simp,rfl⟩
  refine⟨fun p hp=>?_,?_,?_,?_⟩
  · unfold jm
    rw[ic]
    refine⟨h1 p (by rw[e];rcases eo.1 hp with hp|hp<;>simp[hp]),?_⟩
    have:jQ (a++b) p.1=true:=tF.2 ⟨p,hp,rfl⟩
    rw[qL e h2] at this
    simp only[bZ] at this
    exact this.2
  · rw[e] at h2
    refine uH (CJ _ ?_) h2
    exact(CK a).append (CL _ _)
  · rw[h3]
    unfold eR
    rw[List.filter_filter]
    apply wS
    intro p hp
    rw[qL e h2]
    by_cases hk:p.1=k
    · rw[u p hp hk,hr];simp[hk]
    · simp[hk]
  · have hp:=(Ip (f:=fun p=>!jQ rs p.1&&bS p.2) (f':=fun p=>!jQ (a++b) p.1&&bS p.2) hs h0 (fun p hp hk=>by simp only[qL e h2];simp[hk]) (by simp[D]) (by simp only[qL e h2];simp[hr])).map (·.1)
    rw[gA] at hp
    exact(h4.append_right _).trans hp.symm
theorem mV.iU (H:mV x0 bS x1 rs gf o) (e:rs=[]):x1=mq bS x0∧o.Perm (jP bS x0):=by
  obtain⟨_,_,h3,h4⟩:=H
  subst e
  exact⟨by rw[h3];rfl,by simpa[jP,jQ] using h4⟩
theorem Ph (hs:fR x0):(jP bS x0).Pairwise fun a b=>a<b:=by
  unfold jP
  rw[sY]
  exact s7 oL hs
end
section
variable {x:f_} {c dF cc k:Int} {s:dQ} {bC:List dQ} {out:List dQ} {i:Int}
theorem Iq (h:gW ⟨c,dF,cc⟩=false):jO x c dF cc=120∧mU x c dF cc=x:=by
  have:jO x c dF cc=120:=by unfold jO;rw[aY h]
  unfold mU
  rw[this];exact⟨rfl,rfl⟩
theorem Ir (h:gW ⟨c,dF,cc⟩=true) (h2:(cy x c).isSome=true):jO x c dF cc=101∧mU x c dF cc=x:=by
  have:jO x c dF cc=101:=by unfold jO;rw[h,aL (by simp),aY h2]
  unfold mU
  rw[this];exact⟨rfl,rfl⟩
theorem It (h:gW ⟨c,dF,cc⟩=true) (h2:(cy x c).isSome=false):jO x c dF cc=0∧mU x c dF cc=dz x c ⟨c,dF,cc⟩:=by
  have:jO x c dF cc=0:=by unfold jO;rw[h,aL (by simp),aL (by simp[h2])]
  unfold mU
  rw[this];exact⟨rfl,rfl⟩
theorem touch_1 (h:cy x c=none):touchE x c cc=120∧touchB x c cc=x:=by unfold touchE touchB;rw[h];exact⟨aY (.inl rfl),rfl⟩
theorem touch_2 (h:cy x c=some s) (h2:cc<0∨cc≥1099511627776):touchE x c cc=120∧touchB x c cc=x:=by unfold touchE touchB;rw[h];exact⟨aY (.inr h2),aY h2⟩
theorem touch_3 (h:cy x c=some s) (h1:¬cc<0) (h2:¬cc≥1099511627776):touchE x c cc=0∧touchB x c cc=dz x c ⟨s.ax,s.aI,max s.dx cc⟩:=by
  unfold touchE touchB
  rw[h]
  exact⟨aL (by rintro(h|h|h);simp at h;exact h1 h;exact h2 h),aL (by rintro(h|h);exact h1 h;exact h2 h)⟩
theorem Pj (h:cy x c=some s):true=(cy x c).isSome:=by rw[h];rfl
theorem Pk (h:cy x c=none):false=(cy x c).isSome:=by rw[h];rfl
theorem Pm (hs:fR x):dJ (x.map (·.1))=x.map (·.1):=Dd (by rw[sY];exact hs)
theorem Iu (hs:fR x) (hx:(dJ (x.map (·.1)))[i.toNat]?=some k):∃s,x[i.toNat]?=some (k,s)∧cy x k=some s:=by
  rw[Pm hs,jC] at hx
  cases h:x[i.toNat]? with
  |none=>rw[h] at hx;cases hx
  |some p=>
   rw[h] at hx
   obtain⟨D,u⟩:=p
   simp only[lI,ey] at hx
   subst hx
   exact⟨u,rfl,(mo hs).2 (bY h)⟩
theorem Pn (hs:fR x) (hx:(dJ (x.map (·.1)))[i.toNat]?=some k) (hf:cy x k=none):False:=by
  obtain⟨s,_,h⟩:=Iu hs hx
  rw[hf] at h;cases h
theorem Po (hs:fR x) (h0:0≤i) (hx:(dJ (x.map (·.1)))[i.toNat]?=some k) (hf:cy x k=some s) (ho:out=(x.map (·.2)).take i.toNat):out++[s]=(x.map (·.2)).take (i+1).toNat:=by
  obtain⟨u,h1,h2⟩:=Iu hs hx
  rw[hf] at h2
  obtain rfl:=gI h2
  rw[toNat_succ h0,fP (x:=s) (by rw[jC,h1];rfl),ho]
theorem Pp (h:¬i<((dJ (x.map (·.1))).length:Int)) (ho:out=(x.map (·.2)).take i.toNat):out=x.map (·.2):=by
  rw[k_,ew] at h
  rw[ho,fF (by rw[ew];omega)]
end
end Go.Proofs.YtdinkjbfgcfccaaGreatDoor.Sw
