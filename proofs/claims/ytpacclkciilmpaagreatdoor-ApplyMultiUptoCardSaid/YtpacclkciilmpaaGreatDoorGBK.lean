/- Lemmas for laws of this seat. -/
import Derived.Test.YtpacclkciilmpaaGreatDoorGBJ
set_option maxHeartbeats 4000000
namespace Go.Proofs.YtpacclkciilmpaaGreatDoor.Sw
open Go.Proofs.Tryz
set_option linter.unusedVariables false
set_option linter.unusedSimpArgs false
set_option linter.deprecated false
open Go
set_option linter.defProp false
def Cq:=@Nat.mul_succ
def Cr:=@Nat.mul_comm
def G0:=@Nat.pow_le_pow_right
def G1:=@List.drop_of_length_le
def Cs:=@Int.natCast_nonneg
def xp:=@Decidable.byContradiction
def G2:=@List.flatMap_append
def zq:=@List.all_append
def nq:=@List.all_nil
def lB:=@Bool.and_true
def uX:=@List.flatMap_cons
def uY:=@Bool.and_false
def qF:=@List.pairwise_append
def uZ:=@List.getElem_take
def Ct:=@List.perm_append_comm
def G3:=@List.filter_eq_nil_iff
def zu:=@List.Sublist.map
def zw:=@List.Sublist.refl
def zx:=@List.sublist_cons_self
def Cu:=@List.perm_middle
def G4:=@List.not_any_eq_all_not
def Cv:=@List.getD_eq_getElem?_getD
def G5:=@List.mem_of_mem_drop
def kL:Nat→Nat→aj
  |0,v=>[UInt8.ofNat v]
  |n+1,v=>if v<128 then [UInt8.ofNat v] else UInt8.ofNat (v % 128+128)::kL n (v / 128)
def gI (v:Int):aj:=kL 9 v.toNat
def iV (v:Int):Bool:=decide (0≤v)&&decide (v<4611686018427387904)
theorem G6:∀(n v:Nat),1≤(kL n v).length∧(kL n v).length≤n+1
  |0,v=>⟨by simp[kL],by simp[kL]⟩
  |n+1,v=>by
   have ih:=G6 n (v / 128)
   rw[kL]
   split
   · simp
   · rw[bL];omega
theorem u0 (v:Int):1≤(gI v).length∧(gI v).length≤10:=G6 9 _
def tj (o0 o:aj) (v0 v:Int) (n:Nat):Prop:=o0++gI v0=o++kL n v.toNat∧v<128 ^ (n+1)∧n≤9∧0≤v
section
variable {o0 o:aj} {v0 v:Int} {n:Nat}
theorem OK (h:iV v=true):tj o0 o0 v v 9:=by
  unfold iV at h
  simp only[bO,cB] at h
  refine⟨rfl,?_,by omega,h.1⟩
  have:(128:Int) ^ (9+1)=1180591620717411303424:=by decide
  omega
theorem OL (n:Nat):(128:Int) ^ (n+1)=128 ^ n*128:=Int.pow_succ _ _
theorem OM (H:tj o0 o v0 v n) (h:v≥128):∃m,n=m+1∧tj o0 (o++[UInt8.ofNat (v % 128+128:Int).toNat]) v0 (v / 128) m:=by
  obtain⟨h1,h2,h3,h4⟩:=H
  rcases n with _|m
  · simp at h2;omega
  · refine⟨m,rfl,?_,?_,by omega,by omega⟩
    · rw[h1,kL,aB (by omega),cI]
      have e1:v.toNat % 128+128=(v % 128+128:Int).toNat:=by omega
      have e2:v.toNat / 128=(v / 128:Int).toNat:=by omega
      rw[e1,e2]
      rfl
    · rw[OL] at h2
      have:(0:Int)<128 ^ (m+1):=by have:=Int.pow_pos (n:=128) (m:=m+1) (by decide);exact this
      omega
theorem ON (H:tj o0 o v0 v n) (h:¬v≥128):o++[UInt8.ofNat v.toNat]=o0++gI v0:=by
  obtain⟨h1,_,_,h4⟩:=H
  rw[h1]
  rcases n with _|m
  · rfl
  · rw[kL,aL (by omega)]
end
def jG:aj→Nat→Int→Int×Int×Int
  |[],_,_=>(0,0,11)
  |c::r,i,v=>
   if (i=8∧64≤c.toNat)∨(c.toNat=0∧0<i) then (0,0,12)
   else if c.toNat<128 then (v+((c.toNat % 128*2 ^ (7*i):Nat):Int),(i:Int)+1,0)
   else jG r (i+1) (v+((c.toNat % 128*2 ^ (7*i):Nat):Int))
def bq (b:aj):Int×Int×Int:=jG b 0 0
theorem Cw (i:Nat):2 ^ (7*(i+1))=128*2 ^ (7*i):=by rw[Cq,Nat.pow_add,Cr]
theorem G7:∀(b:aj) (i:Nat) (v:Int),i≤8→0≤v→v<((2 ^ (7*i):Nat):Int)→(jG b i v).2.2=0→0≤(jG b i v).1∧(jG b i v).1<4611686018427387904∧(i:Int)+1≤(jG b i v).2.1∧(jG b i v).2.1≤i+b.length∧(jG b i v).2.1≤9
  |[],i,v,_,_,_,h=>by simp[jG] at h
  |c::r,i,v,hi,h0,hv,h=>by
   rw[jG] at h ⊢
   split at h
   · simp at h
   · rename_i hn
     rw[aB hn]
     have hp:0<2 ^ (7*i):=BG (by decide)
     split at h
     · rename_i hl
       rw[aL hl]
       have hc:c.toNat % 128=c.toNat:=sU hl
       have hm:c.toNat % 128*2 ^ (7*i)+2 ^ (7*i)≤4611686018427387904:=by
         by_cases h8:i=8
         · subst h8
           have:c.toNat<64:=by
             rcases oo c.toNat 64 with h|h
             · exact h
             · exact absurd (.inl ⟨rfl,h⟩) hn
           rw[hc]
           have:2 ^ (7*8)=72057594037927936:=by decide
           omega
         · have h7:i≤7:=by omega
           have h1:2 ^ (7*i)≤2 ^ (7*7):=G0 (by decide) (by omega)
           have h2:2 ^ (7*7)=562949953421312:=by decide
           have h3:c.toNat % 128*2 ^ (7*i)≤127*2 ^ (7*i):=iC _ (by omega)
           omega
       refine⟨by show 0≤v+_;omega,by show v+_<_;omega,Int.le_refl _,by show(i:Int)+1≤i+((c::r).length:Int);rw[bL];omega,by show(i:Int)+1≤9;omega⟩
     · rename_i hl
       rw[aB hl]
       have h8:i≠8:=fun e=>hn (.inl ⟨e,by omega⟩)
       have e:=Cw i
       have hm:c.toNat % 128*2 ^ (7*i)+2 ^ (7*i)≤128*2 ^ (7*i):=by
         have:(c.toNat % 128+1)*2 ^ (7*i)≤128*2 ^ (7*i):=iC _ (by omega)
         rw[kZ] at this
         exact this
       have ih:=G7 r (i+1) (v+((c.toNat % 128*2 ^ (7*i):Nat):Int)) (by omega) (by omega) (by rw[e];omega) h
       rw[bL]
       omega
theorem kg {b:aj} (h:(bq b).2.2=0):0≤(bq b).1∧(bq b).1<4611686018427387904∧1≤(bq b).2.1∧(bq b).2.1≤b.length∧(bq b).2.1≤9:=by
  have:=G7 b 0 0 (by decide) (by decide) (by decide) h
  unfold bq at *
  omega
def nr (b:aj) (i v:Int):Prop:=bq b=jG (b.drop i.toNat) i.toNat v∧0≤v∧v<((2 ^ (7*i.toNat):Nat):Int)∧i≤8+(if b.length≤i.toNat then 1 else 0)∧0≤i
theorem OO (b:aj):nr b 0 0:=⟨rfl,by decide,by decide,by split<;>omega,by decide⟩
section
variable {b:aj} {i v:Int} {c:UInt8}
theorem Cx (H:nr b i v) (hc:b[i.toNat]?=some c):i≤8:=by
  have:=(dL.1 hc).1
  have h:=H.2.2.2.1
  rw[aB (by omega)] at h
  omega
theorem zy (H:nr b i v) (hc:b[i.toNat]?=some c):bq b=jG (c::b.drop (i.toNat+1)) i.toNat v:=by rw[H.1,drop_at hc]
theorem qG (H:nr b i v) (hc:b[i.toNat]?=some c) (h8:i=8) (h:64≤(c.toNat:Int)):bq b=(0,0,12):=by
  rw[zy H hc,jG,aL (.inl ⟨by omega,by omega⟩)]
theorem qH (H:nr b i v) (hc:b[i.toNat]?=some c) (h0:(c.toNat:Int)=0) (h:0<i):bq b=(0,0,12):=by
  rw[zy H hc,jG,aL (.inr ⟨by omega,by omega⟩)]
theorem nP (H:nr b i v) (hc:b[i.toNat]?=some c) (n1:¬(i=8∧64≤(c.toNat:Int))) (n2:¬((c.toNat:Int)=0∧0<i)) (h:(c.toNat:Int)<128):
    bq b=(v+((c.toNat % 128*2 ^ (7*i.toNat):Nat):Int),i+1,0):=by
  have hi:=H.2.2.2.2
  rw[zy H hc,jG,aB (by rintro(h|h);exact n1 ⟨by omega,by omega⟩;exact n2 ⟨by omega,by omega⟩),aL (by omega)]
  rw[show((i.toNat:Nat):Int)=i by omega]
theorem G8 (H:nr b i v) (hc:b[i.toNat]?=some c) (n1:¬(i=8∧64≤(c.toNat:Int))) (n2:¬((c.toNat:Int)=0∧0<i)) (h:¬(c.toNat:Int)<128):
    nr b (i+1) (v+((c.toNat % 128*2 ^ (7*i.toNat):Nat):Int)):=by
  have hi:=H.2.2.2.2
  have h8:=Cx H hc
  have hv:=H.2.2.1
  have h0:=H.2.1
  refine⟨?_,by omega,?_,?_,by omega⟩
  · rw[zy H hc,jG,aB (by rintro(h|h);exact n1 ⟨by omega,by omega⟩;exact n2 ⟨by omega,by omega⟩),aB (by omega),toNat_succ hi]
  · rw[toNat_succ hi,Cw]
    have hm:c.toNat % 128*2 ^ (7*i.toNat)+2 ^ (7*i.toNat)≤128*2 ^ (7*i.toNat):=by
      have:(c.toNat % 128+1)*2 ^ (7*i.toNat)≤128*2 ^ (7*i.toNat):=iC _ (by omega)
      rw[kZ] at this
      exact this
    omega
  · have:i≠8:=fun e=>n1 ⟨e,by omega⟩
    split<;>omega
theorem Cy (H:nr b i v) (h:¬i<(b.length:Int)):bq b=(0,0,11):=by
  rw[H.1,G1 (by omega),jG]
theorem G9 (H:nr b i v) (hc:b[i.toNat]?=some c) (n1:¬(i=8∧64≤(c.toNat:Int))):0≤((c.toNat:Int) % 128)*2 ^ (7*i.toNat)∧v+((c.toNat:Int) % 128)*2 ^ (7*i.toNat)<4611686018427387904:=by
  have hi:=H.2.2.2.2
  have h8:=Cx H hc
  have hv:=H.2.2.1
  have h0:=H.2.1
  have key:v+((c.toNat % 128*2 ^ (7*i.toNat):Nat):Int)<4611686018427387904:=by
    by_cases u:i=8
    · subst u
      have hlt:c.toNat<64:=by
        rcases oo c.toNat 64 with h|h
        · exact h
        · exact absurd ⟨rfl,by omega⟩ n1
      have e1:c.toNat % 128=c.toNat:=sU (by omega)
      have e2:2 ^ (7*(8:Int).toNat)=72057594037927936:=by decide
      have D:v<72057594037927936:=by have:=hv;rw[e2] at this;exact this
      rw[e1,e2]
      omega
    · have h1:2 ^ (7*i.toNat)≤2 ^ (7*7):=G0 (by decide) (by omega)
      have h2:2 ^ (7*7)=562949953421312:=by decide
      have h3:c.toNat % 128*2 ^ (7*i.toNat)≤127*2 ^ (7*i.toNat):=iC _ (by omega)
      omega
  have e:((c.toNat:Int) % 128)*2 ^ (7*i.toNat)=((c.toNat % 128*2 ^ (7*i.toNat):Nat):Int):=by simp
  rw[e]
  exact⟨Cs _,key⟩
end
def rL (f:aj):aj:=gI f.length++f
def lC (fs:List aj):Bool:=decide (fs.length≤1024)&&fs.all fun f=>decide (f.length≤65536)
def fI (fs:List aj):aj:=fs.flatMap rL
def dx (fs:List aj):aj×Int:=if lC fs then (fI fs,0) else ([],13)
def gC (l:List Int):aj:=l.flatMap gI
def eD (l:List Int):aj×Int:=if l.all iV then (gC l,0) else ([],10)
def lS:Nat→aj→List aj→List aj×Int
  |_,[],out=>(out,0)
  |0,_::_,out=>([],13)
  |n+1,b,out=>
   if out.length=1024 then ([],13)
   else if (bq b).2.2≠0 then ([],(bq b).2.2)
   else if 65536<(bq b).1 then ([],13)
   else if (b.length:Int)-(bq b).2.1<(bq b).1 then ([],11)
   else lS n (b.drop ((bq b).2.1+(bq b).1).toNat) (out++[(b.drop (bq b).2.1.toNat).take (bq b).1.toNat])
def aT (b:aj):List aj×Int:=lS b.length b []
def mL:Nat→aj→List Int→List Int×Int
  |_,[],out=>(out,0)
  |0,_::_,out=>([],13)
  |n+1,b,out=>if (bq b).2.2≠0 then ([],(bq b).2.2) else mL n (b.drop (bq b).2.1.toNat) (out++[(bq b).1])
def bH (b:aj):List Int×Int:=mL b.length b []
theorem G_:∀(n m:Nat) (b:aj) (out:List aj),b.length≤n→b.length≤m→lS n b out=lS m b out
  |n,m,[],out,_,_=>by cases n<;>cases m<;>rfl
  |0,_,_::_,_,h,_=>by simp at h
  |_,0,_::_,_,_,h=>by simp at h
  |n+1,m+1,c::r,out,h1,h2=>by
   rw[lS,lS]
   · repeat' split
     all_goals first|rfl|skip
     rename_i he _ _
     have he:(bq (c::r)).2.2=0:=xp he
     have hb:=kg he
     have hl:((c::r).drop ((bq (c::r)).2.1+(bq (c::r)).1).toNat).length≤r.length:=by rw[gx,bL];omega
     exact G_ n m _ _ (by simp at h1;omega) (by simp at h2;omega)
   · simp
   · simp
theorem He:∀(n m:Nat) (b:aj) (out:List Int),b.length≤n→b.length≤m→mL n b out=mL m b out
  |n,m,[],out,_,_=>by cases n<;>cases m<;>rfl
  |0,_,_::_,_,h,_=>by simp at h
  |_,0,_::_,_,_,h=>by simp at h
  |n+1,m+1,c::r,out,h1,h2=>by
   rw[mL,mL]
   · split
     · rfl
     · rename_i he
       have he:(bq (c::r)).2.2=0:=xp he
       have hb:=kg he
       have hl:((c::r).drop (bq (c::r)).2.1.toNat).length≤r.length:=by rw[gx,bL];omega
       exact He n m _ _ (by simp at h1;omega) (by simp at h2;omega)
   · simp
   · simp
def rM (fs:List aj) (o:aj) (i:Int):Prop:=o=fI (fs.take i.toNat)∧(fs.take i.toNat).all (fun f=>decide (f.length≤65536))=true
theorem OP (fs:List aj):rM fs [] 0:=⟨rfl,rfl⟩
def rN (l:List Int) (o:aj) (i:Int):Prop:=o=gC (l.take i.toNat)∧(l.take i.toNat).all iV=true
theorem OQ (l:List Int):rN l [] 0:=⟨rfl,rfl⟩
section
variable {fs:List aj} {l:List Int} {o b0 b f:aj} {i v:Int} {out:List aj} {os:List Int}
theorem OR (H:rM fs o i) (h0:0≤i) (hf:fs[i.toNat]?=some f) (h:¬(f.length:Int)>65536):rM fs ((o++gI (f.length:Int))++f) (i+1):=by
  unfold rM fI at *
  rw[toNat_succ h0,fu hf,H.1,G2,zq,H.2]
  refine⟨by simp[rL],?_⟩
  simp only[j5,nq,lB,lP,cB]
  omega
theorem Hf:∀fs:List aj,(fs.all fun f=>decide (f.length≤65536))=true→(fI fs).length≤65546*fs.length
  |[],_=>by simp[fI]
  |f::fs,h=>by
   rw[j5,bO,cB] at h
   have ih:=Hf fs h.2
   have h1:=u0 (f.length:Int)
   unfold fI at *
   rw[uX,b_,rL,b_,bL]
   omega
theorem Hg (H:rM fs o i):o.length≤65546*fs.length:=by
  have:=Hf _ H.2
  rw[H.1]
  rw[dD] at this
  omega
theorem Hh (H:rM fs o i) (h:¬i<(fs.length:Int)) (hl:¬(fs.length:Int)>1024):dx fs=(o,0):=by
  unfold rM at H
  rw[eR (by omega)] at H
  unfold dx lC
  rw[H.2,aL (by simp;omega),H.1]
theorem Hj (h:(fs.length:Int)>1024):dx fs=([],13):=by
  unfold dx lC
  rw[aB (by simp;omega)]
theorem Hl (hf:fs[i.toNat]?=some f) (h:(f.length:Int)>65536):dx fs=([],13):=by
  unfold dx lC
  rw[aB]
  intro hh
  simp only[bO,gR,cB] at hh
  have:=hh.2 f (cL hf)
  omega
theorem OS (H:rN l o i) (h0:0≤i) (hv:l[i.toNat]?=some v) (h:iV v=true):rN l (o++gI v) (i+1):=by
  unfold rN gC at *
  rw[toNat_succ h0,fu hv,H.1,G2,zq,H.2]
  simp[h]
theorem zz:∀l:List Int,(gC l).length≤10*l.length
  |[]=>by simp[gC]
  |v::l=>by
   have ih:=zz l
   have h1:=u0 v
   unfold gC at *
   rw[uX,b_,bL]
   omega
theorem OT (H:rN l o i):o.length≤10*l.length:=by
  have:=zz (l.take i.toNat)
  rw[H.1]
  rw[dD] at this
  omega
theorem Ho (H:rN l o i) (h:¬i<(l.length:Int)):eD l=(o,0):=by
  unfold rN at H
  rw[eR (by omega)] at H
  unfold eD
  rw[aL H.2,H.1]
theorem zA (hv:l[i.toNat]?=some v) (h:iV v=false):eD l=([],10):=by
  unfold eD
  rw[aB]
  intro hh
  rw[gR] at hh
  rw[hh v (cL hv)] at h
  cases h
theorem lT (h1:¬v<0) (h2:¬v≥4611686018427387904):iV v=true:=by unfold iV;rw[eW (by omega),eW (by omega)];rfl
theorem zC (h:v<0∨v≥4611686018427387904):iV v=false:=by
  unfold iV
  rcases h with h|h
  · rw[fU (by omega)];rfl
  · rw[fU (p:=v<4611686018427387904) (by omega),uY]
theorem iw {α u:Type} {x:α×u} {a:α} {c:u} (h:x=(a,c)):a=x.1∧c=x.2:=by rw[h];exact⟨rfl,rfl⟩
def pP (b0 b:aj) (out:List aj):Prop:=aT b0=lS b.length b out
theorem OU (b:aj):pP b b []:=rfl
theorem u5 (hb:(b.length:Int)>0) (out:List aj):lS b.length b out=if out.length=1024 then ([],13)
    else if (bq b).2.2≠0 then ([],(bq b).2.2)
    else if 65536<(bq b).1 then ([],13)
    else if (b.length:Int)-(bq b).2.1<(bq b).1 then ([],11)
    else lS (b.drop ((bq b).2.1+(bq b).1).toNat).length (b.drop ((bq b).2.1+(bq b).1).toNat) (out++[(b.drop (bq b).2.1.toNat).take (bq b).1.toNat]):=by
  rcases b with _|⟨c,r⟩
  · simp at hb
  · rw[show(c::r).length=r.length+1 from rfl,lS]
    · by_cases h0:out.length=1024
      · rw[aL h0,aL h0]
      · rw[aB h0,aB h0]
        by_cases he:(bq (c::r)).2.2≠0
        · rw[aL he,aL he]
        · rw[aB he,aB he]
          by_cases h1:65536<(bq (c::r)).1
          · rw[aL h1,aL h1]
          · rw[aB h1,aB h1]
            have u:(c::r).length=r.length+1:=rfl
            rw[u]
            by_cases h2:((r.length+1:Nat):Int)-(bq (c::r)).2.1<(bq (c::r)).1
            · rw[aL h2,aL h2]
            · rw[aB h2,aB h2]
              have he:(bq (c::r)).2.2=0:=xp he
              have hb:=kg he
              have hl:((c::r).drop ((bq (c::r)).2.1+(bq (c::r)).1).toNat).length≤r.length:=by rw[gx,bL];omega
              exact G_ _ _ _ _ hl (iO _)
    · simp
theorem Hp (H:pP b0 b out) (hb:(b.length:Int)>0) (h:(out.length:Int)=1024):aT b0=([],13):=by rw[H,u5 hb,aL (by omega)]
theorem Hq (H:pP b0 b out) (hb:(b.length:Int)>0) (h:¬(out.length:Int)=1024) (he:¬(bq b).2.2=0):aT b0=([],(bq b).2.2):=by rw[H,u5 hb,aB (by omega),aL he]
theorem Hr (H:pP b0 b out) (hb:(b.length:Int)>0) (h:¬(out.length:Int)=1024) (he:(bq b).2.2=0) (hl:(bq b).1>65536):aT b0=([],13):=by rw[H,u5 hb,aB (by omega),aB (by omega),aL hl]
theorem Hs (H:pP b0 b out) (hb:(b.length:Int)>0) (h:¬(out.length:Int)=1024) (he:(bq b).2.2=0) (hl:¬(bq b).1>65536) (hs:(b.length:Int)-(bq b).2.1<(bq b).1):aT b0=([],11):=by rw[H,u5 hb,aB (by omega),aB (by omega),aB (by omega),aL hs]
theorem OV (H:pP b0 b out) (hb:(b.length:Int)>0) (h:¬(out.length:Int)=1024) (he:(bq b).2.2=0) (hl:¬(bq b).1>65536) (hs:¬(b.length:Int)-(bq b).2.1<(bq b).1) {x:aj} (hx:x=(b.drop (bq b).2.1.toNat).take (bq b).1.toNat):
    pP b0 (b.drop ((bq b).2.1+(bq b).1).toNat) (out++[x]):=by unfold pP;rw[H,u5 hb,aB (by omega),aB (by omega),aB (by omega),aB hs,hx]
theorem Ht (H:pP b0 b out) (hb:¬(b.length:Int)>0):aT b0=(out,0):=by
  obtain rfl:b=[]:=lg (by omega)
  rw[H];rfl
def tn (b0 b:aj) (os:List Int):Prop:=bH b0=mL b.length b os
theorem OW (b:aj):tn b b []:=rfl
theorem Cz (hb:(b.length:Int)>0) (os:List Int):mL b.length b os=if (bq b).2.2≠0 then ([],(bq b).2.2) else mL (b.drop (bq b).2.1.toNat).length (b.drop (bq b).2.1.toNat) (os++[(bq b).1]):=by
  rcases b with _|⟨c,r⟩
  · simp at hb
  · rw[show(c::r).length=r.length+1 from rfl,mL]
    · split
      · rfl
      · rename_i he
        have he:(bq (c::r)).2.2=0:=xp he
        have hb:=kg he
        have hl:((c::r).drop (bq (c::r)).2.1.toNat).length≤r.length:=by rw[gx,bL];omega
        exact He _ _ _ _ hl (iO _)
    · simp
theorem Hu (H:tn b0 b os) (hb:(b.length:Int)>0) (he:¬(bq b).2.2=0):bH b0=([],(bq b).2.2):=by rw[H,Cz hb,aL he]
theorem OX (H:tn b0 b os) (hb:(b.length:Int)>0) (he:(bq b).2.2=0):tn b0 (b.drop (bq b).2.1.toNat) (os++[(bq b).1]):=by unfold tn;rw[H,Cz hb,aB (by omega)]
theorem Hv (H:tn b0 b os) (hb:¬(b.length:Int)>0):bH b0=(os,0):=by
  obtain rfl:b=[]:=lg (by omega)
  rw[H];rfl
end
theorem OY {a b:Int} {s m:Nat} (ha:0≤a) (hs:a<((2 ^ s:Nat):Int)) (hb:b=((m*2 ^ s:Nat):Int)) (hl:a+b<4611686018427387904):
    Value.int .i64 (IntKind.wrap .i64 (((BitVec.ofInt (IntKind.bits .i64) a ||| BitVec.ofInt (IntKind.bits .i64) b).toNat:Nat):Int))=.int .i64 (a+b):=by
  have u:IntKind.bits .i64=64:=rfl
  obtain⟨x,rfl⟩:∃x:Nat,a=(x:Int):=⟨a.toNat,by omega⟩
  subst hb
  have hx:x<2 ^ s:=by omega
  have key:x ||| m*2 ^ s=x+m*2 ^ s:=by
    have:=Nat.two_pow_add_eq_or_of_lt hx m
    rw[Nat.or_comm,Cr m,←this,wv]
  have h1:(BitVec.ofInt 64 (x:Int)).toNat=x:=by
    rw[BitVec.toNat_ofInt]
    omega
  have h2:(BitVec.ofInt 64 ((m*2 ^ s:Nat):Int)).toNat=m*2 ^ s:=by
    rw[BitVec.toNat_ofInt]
    omega
  have h3:(BitVec.ofInt (IntKind.bits .i64) (x:Int) ||| BitVec.ofInt (IntKind.bits .i64) ((m*2 ^ s:Nat):Int)).toNat=x+m*2 ^ s:=by
    show(BitVec.ofInt 64 (x:Int) ||| BitVec.ofInt 64 ((m*2 ^ s:Nat):Int)).toNat=_
    rw[BitVec.toNat_or,h1,h2,key]
  rw[h3,Int.natCast_add]
  exact oA (by omega) (by omega)
theorem u6 (c:UInt8):Value.int .u8 (IntKind.wrap .u8 (((BitVec.ofInt (IntKind.bits .u8) (c.toNat:Int) &&& ~~~ BitVec.ofInt (IntKind.bits .u8) (128:Int)).toNat:Nat):Int))=.int .u8 ((c.toNat % 128:Nat):Int):=by
  have h:∀n:Fin 256,IntKind.wrap .u8 (((BitVec.ofInt (IntKind.bits .u8) ((n.val:Nat):Int) &&& ~~~ BitVec.ofInt (IntKind.bits .u8) (128:Int)).toNat:Nat):Int)=((n.val % 128:Nat):Int):=by decide+kernel
  exact congrArg _ (h ⟨c.toNat,c.toNat_lt⟩)
theorem Hw {v:Int} (h:0≤v):Value.int .u8 (IntKind.wrap .u8 v)=.int .u8 (v % 256):=by
  congr 1
theorem OZ {v:Int} (h:0≤v):Value.int .u8 (IntKind.wrap .u8 (((BitVec.ofInt (IntKind.bits .u8) (v % 256) ||| BitVec.ofInt (IntKind.bits .u8) (128:Int)).toNat:Nat):Int))=.int .u8 (v % 128+128):=by
  have h1:∀n:Fin 256,IntKind.wrap .u8 (((BitVec.ofInt (IntKind.bits .u8) ((n.val:Nat):Int) ||| BitVec.ofInt (IntKind.bits .u8) (128:Int)).toNat:Nat):Int)=((n.val:Nat):Int) % 128+128:=by decide+kernel
  have:=h1 ⟨(v % 256).toNat,by omega⟩
  simp only[show(((v % 256).toNat:Nat):Int)=v % 256 by omega] at this
  rw[this]
  congr 1
  omega
theorem O0 {a n:Int} {k:Nat} (ha:a=(k:Int)) (h0:0≤n) (h1:n≤63) (hf:((k*2 ^ n.toNat:Nat):Int)<4611686018427387904):Value.int .i64 (IntKind.wrap .i64 (a*2 ^ (min n.toNat (IntKind.bits .i64))))=.int .i64 ((k*2 ^ n.toNat:Nat):Int):=by
  have e:min n.toNat (IntKind.bits .i64)=n.toNat:=by show min n.toNat 64=_;omega
  have e2:a*2 ^ n.toNat=((k*2 ^ n.toNat:Nat):Int):=by subst ha;simp
  rw[e,e2]
  have:=Cs (k*2 ^ n.toNat)
  exact oA (by omega) (by omega)
theorem CA {v:Int} (h:iV v=true):0≤v∧v<4611686018427387904:=by
  unfold iV at h
  simpa using h
theorem Hx {o0 o:aj} {v0 v:Int} {n:Nat} (H:tj o0 o v0 v n):o.length≤o0.length+10:=by
  have h:=congrArg List.length H.1
  rw[b_,b_] at h
  have:=(u0 v0).2
  omega
theorem O1 {o0 o:aj} {v0 v:Int} {n:Nat} (H:tj o0 o v0 v n) (h:¬v≥128):o++[UInt8.ofNat (v % 256:Int).toNat]=o0++gI v0:=by
  rw[←ON H h]
  have:=H.2.2.2
  rw[show(v % 256:Int)=v by omega]
theorem O2 {a n:Int} {m k:Nat} (ha:a=((m:Nat):Int)) (hk:n=((k:Nat):Int)) (h1:k≤63) (hf:((m*2 ^ k:Nat):Int)<4611686018427387904):Value.int .i64 (IntKind.wrap .i64 (a*2 ^ (min n.toNat (IntKind.bits .i64))))=.int .i64 ((m*2 ^ k:Nat):Int):=by
  subst hk
  exact O0 ha (Cs k) (by omega) hf
section
variable {b:aj} {i v:Int} {c:UInt8}
theorem u7 (H:nr b i v) (hc:b[i.toNat]?=some c) (n1:¬(i=8∧64≤(c.toNat:Int))):Value.int .i64 (IntKind.wrap .i64 (((c.toNat % 128:Nat):Int)*2 ^ (min (7*i:Int).toNat (IntKind.bits .i64))))=.int .i64 ((c.toNat % 128*2 ^ (7*i.toNat):Nat):Int):=by
  have hi:=H.2.2.2.2
  have h8:=Cx H hc
  have hv:=H.2.1
  have hf:=(G9 H hc n1).2
  have e:((c.toNat:Int) % 128)*2 ^ (7*i.toNat)=((c.toNat % 128*2 ^ (7*i.toNat):Nat):Int):=by simp
  rw[e] at hf
  exact O2 rfl (by omega) (by omega) (by omega)
theorem u9 (H:nr b i v) (hc:b[i.toNat]?=some c) (n1:¬(i=8∧64≤(c.toNat:Int))):Value.int .i64 (IntKind.wrap .i64 (((BitVec.ofInt (IntKind.bits .i64) v ||| BitVec.ofInt (IntKind.bits .i64) ((c.toNat % 128*2 ^ (7*i.toNat):Nat):Int)).toNat:Nat):Int))=.int .i64 (v+((c.toNat % 128*2 ^ (7*i.toNat):Nat):Int)):=by
  have hf:=(G9 H hc n1).2
  have e:((c.toNat:Int) % 128)*2 ^ (7*i.toNat)=((c.toNat % 128*2 ^ (7*i.toNat):Nat):Int):=by simp
  rw[e] at hf
  exact OY H.2.1 H.2.2.1 rfl hf
end
theorem O3 {α:Type} {b:List α} {n z:Int} (h0:0≤n) (h1:0≤z):(b.take (n+z).toNat).drop n.toNat=(b.drop n.toNat).take z.toNat:=by
  rw[q8]
  congr 1
  omega
set_option maxRecDepth 100000
def nt (g:GH) (b:Nat) (x:aj) (c:au):Prop:=∃v0 c0,c=(b,.cells #[v0] 191 (0,0))::c0∧aF 5 bn g v0 x c0
theorem nt.eq {g:GH} {b:Nat} {x y:aj} {c:au} (h:nt g b x c) (e:x=y):nt g b y c:=e▸h
theorem Hy (B:World) (h:av) (g:GH) (hg:bf g h) (b8:bh g) (u:Nat) (o:aj) (D:au) (a3:nt g u o D) (v:Int) (hv:iV v=true) (h1:o.length≤1000000000) (hs:St h g (aM [D]) g [D] h):
  aA prog B 110 #[vP u,vI v] h g [D] (fun a4 g' L'=>∃U,a4=.tuple #[]∧nt g' u (o++gI v) U∧g'=g∧L'=[U]):=by
 refine aA.aq func110 fun R hR=>?_
 have a5:∀(m:Nat) (o2:aj) (v2:Int) (G:au) (I:av) (hm:v2.toNat<m) (h0:0≤v2) (h9:v2<4611686018427387904) (hI:∃n,tj o o2 v v2 n) (J:nt g u o2 G) (O:St h g (aM [D]) g [G] I),At (bS prog B 110 f110 R) [] 0 [(0,vP u),(1,vI v2)] I:=by
  intro m;induction m with
  |zero=>intros;omega
  |succ m a6=>
   intro o2 v2 G I hm h0 h9 hI J O
   refine At.go 1 2 [(5,.bool (decide (v2≥128)))]<|At.fd (v2≥128) 5 2 4 (fun a7=>?_) fun ca=>?_
   ·refine At.rp 11 3 [(8,vP u),(10,vP u)] ?_
    obtain⟨cb,a8,a9,V⟩:=J
    obtain⟨bb,bc,rfl⟩:=V.ai
    have X:=St.un [a8] a9 O
    refine Op.l1 191 10 11 0 (vL bb o2.length bc) (X.ag 0 rfl)<|Op.px 1 [(12,vI v2)]<|Op.vl 13 (.int .u8 (IntKind.wrap .u8 v2)) (.int .u8 (v2 % 256)) (Hw (by omega))<|Op.vl 14 (.int .u8 (IntKind.wrap .u8 (((BitVec.ofInt (IntKind.bits .u8) (v2 % 256) ||| BitVec.ofInt (IntKind.bits .u8) (128:Int)).toNat:Nat):Int))) (.int .u8 (v2 % 128+128)) (OZ (by omega))<|Op.ls 15 1 5 #[.int .u8 (v2 % 128+128)] X fun ce cf Y=>?_
    refine Op.ap 11 15 191 191 16 5 1 bn (ys:=[(UInt8.ofNat (v2 % 128+128:Int).toNat)]) V Y 2 (⟨_,_,rfl,(Fi (by omega) (by omega)),Reads.nil⟩) (by(simp only[bL,cS];obtain⟨_,hn⟩:=hI;have:=Hx hn;omega)) (fun _ _ _=>trivial) (di.lit (m:=1) (sz:=1) (Y.ag 0 rfl) (news:=[.int .u8 (v2 % 128+128)]) rfl rfl (by simp[Value.oneCell']) _) fun ch ci ck Z bd co=>?_
    obtain⟨ab,ad,rfl⟩:=Z.ai
    refine Op.px 1 [(17,vP u)]<|Op.s1 191 17 16 0 (vL ab ((o2++([(UInt8.ofNat (v2 % 128+128:Int).toNat)])).length) ad) 0 #[vL ab ((o2++([(UInt8.ofNat (v2 % 128+128:Int).toNat)])).length) ad] ((bd).drop) zt fun c3 be=>Op.gt 3<|At.rp 3 1 [(6,vI v2)]<|Op.vl 7 (.int .i64 (Int.fdiv v2 (2 ^ 7))) (.int .i64 (v2 / 128)) (FC _ _ _ rfl (by decide)) ?_
    refine Op.pg 0 [(1,vI (v2 / 128))] ?_
    obtain⟨c4,bi,bj⟩:=St.bl (Q:=nt g u (o2++([(UInt8.ofNat (v2 % 128+128:Int).toNat)]))) 2 be ⟨_,_,rfl,Z⟩
    exact At.ke (a6 (o2++([(UInt8.ofNat (v2 % 128+128:Int).toNat)])) (v2 / 128) _ _ (by omega) (by omega) (by omega) (by(obtain⟨n,hn⟩:=hI;obtain⟨m,_,h⟩:=OM hn a7;exact⟨m,h⟩)) bi bj)
   refine At.rp 10 3 [(18,vP u),(20,vP u)] ?_
   obtain⟨c5,bk,bm,ae⟩:=J
   obtain⟨bo,bs,rfl⟩:=ae.ai
   have am:=St.un [bk] bm O
   refine Op.l1 191 20 21 0 (vL bo o2.length bs) (am.ag 0 rfl)<|Op.px 1 [(22,vI v2)]<|Op.vl 23 (.int .u8 (IntKind.wrap .u8 v2)) (.int .u8 (v2 % 256)) (Hw (by omega))<|Op.ls 24 1 5 #[.int .u8 (v2 % 256)] am fun c6 c8 ar=>Op.ap 21 24 191 191 25 5 1 bn (ys:=[(UInt8.ofNat (v2 % 256:Int).toNat)]) ae ar 2 (⟨_,_,rfl,(Fi (by omega) (by omega)),Reads.nil⟩) (by(simp only[bL,cS];obtain⟨_,hn⟩:=hI;have:=Hx hn;omega)) (fun _ _ _=>trivial) (di.lit (m:=1) (sz:=1) (ar.ag 0 rfl) (news:=[.int .u8 (v2 % 256)]) rfl rfl (by simp[Value.oneCell']) _) fun c9 da db aw bt dc=>?_
   obtain⟨a0,a1,rfl⟩:=aw.ai
   refine Op.px 1 [(26,vP u)]<|Op.s1 191 26 25 0 (vL a0 ((o2++([(UInt8.ofNat (v2 % 256:Int).toNat)])).length) a1) 0 #[vL a0 ((o2++([(UInt8.ofNat (v2 % 256:Int).toNat)])).length) a1] ((bt).drop) zt fun dd b3=>Op.gt 5 ?_
   obtain⟨b4,b5,b6⟩:=St.bl (Q:=nt g u (o2++([(UInt8.ofNat (v2 % 256:Int).toNat)]))) 2 b3 ⟨_,_,rfl,aw⟩
   exact At.rt dr (hR b6 ⟨b4,rfl,b5.eq (by(obtain⟨n,hn⟩:=hI;exact O1 hn ‹_›)),rfl,rfl⟩)
 exact At.ke (a5 _ o v _ _ (bK _) (by exact(CA hv).1) (by exact(CA hv).2) (by exact⟨_,OK hv⟩) a3 hs)
theorem CB (B:World) (h:av) (g:GH) (hg:bf g h) (a0:bh g) (Z:Value) (list:List Int) (ab:ay g 3 (eF .i64) Z list) (hl:list.length≤10000000):
  aA prog B 67 #[Z] h g [] (fun a1 g' L'=>∃v0,a1=.tuple #[v0,.int .i64 ((eD list).2)]∧ay g' 5 bn v0 ((eD list).1)∧L'=[]):=by
 obtain⟨ad,O,rfl⟩:=ab.ai
 refine aA.aq func67 fun R hR=>At.go 1 2 []<|At.rg 1<|Op.al 4 191 #[vN] (St.init hg) fun G bt a3=>Op.gt 2 ?_
 refine At.go 3 3 [(7,vL ad list.length O),(8,vI (list.length:Int)),(9,vI 0)] ?_
 have a4:=aF.nil 5 bn g
 obtain⟨b3,a5,a6⟩:=St.bl (Q:=nt g G ([]:aj)) 2 (a3.nl.fs [1] rfl) ⟨_,_,rfl,a4⟩
 have a7:∀(m:Nat) (o:aj) (i:Int) (U:au) (V:av) (hm:list.length-i.toNat<m) (h0:0≤i) (h1:i≤list.length) (hI:rN list o i) (X:nt g G o U) (D:St h g (aM []) g [U] V),At (bS prog B 67 f67 R) [] 3 [(4,vP G),(7,vL ad list.length O),(8,vI (list.length:Int)),(9,vI i)] V:=by
  intro m;induction m with
  |zero=>intros;omega
  |succ m a8=>
   intro o i U V hm h0 h1 hI X D
   refine At.go 4 1 [(10,.bool (decide (i<(list.length:Int))))]<|At.fd (i<(list.length:Int)) 10 5 12 (fun b4=>?_) fun b5=>?_
   ·refine At.rg 3 ?_
    obtain⟨u,ae⟩:=cD list i
    obtain⟨a9,am,b6,b8,bb,bc,Y⟩:=ay.br ab _ ae
    cases bb
    refine Op.iq 81 3 1 8 list.length O 7 9 11 a9 am i ?_
    replace Y:cut _ _ _=[vI u]:=Y
    refine Op.l1 3 11 12 (am+i.toNat*1) (vI u) (D.sub _ _ bc) ?_ (hv:=cT Y 0 rfl)
    refine Op.pg 6 [(6,vI u)]<|At.rp 6 3 [(15,.bool (decide (u<0)))]<|Op.wd (u<0) 15 (fun ca=>?_) fun cb=>?_
    ·exact Op.pg 7 [(18,vT)]<|At.bX 18 8<|At.go 9 2 [(2,vN),(3,vI 10)]<|At.rt (.tuple #[vN,vI 10]) (hR D.drop ⟨vN,bM rfl (bp (by exact(iw (zA ‹_› (zC (by omega)))).2)),bP (ay.empty _ _ _ _ _) (by exact(iw (zA ‹_› (zC (by omega)))).1),rfl⟩)
    refine Op.pg 7 [(18,.bool (decide (u≥4611686018427387904)))]<|At.fd (u≥4611686018427387904) 18 8 10 (fun ce=>?_) fun cf=>?_
    ·exact At.go 9 2 [(2,vN),(3,vI 10)]<|At.rt (.tuple #[vN,vI 10]) (hR D.drop ⟨vN,bM rfl (bp (by exact(iw (zA ‹_› (zC (by omega)))).2)),bP (ay.empty _ _ _ _ _) (by exact(iw (zA ‹_› (zC (by omega)))).1),rfl⟩)
    refine At.rp 2 1 [(19,vI u)]<|Op.cl (some 20) 1 D (Hy _ _ _ D.sub a0 G o _ X u (by((try dsimp only)<;>(exact lT (by omega) (by omega)))) (by((try dsimp only)<;>((have:=OT hI;omega)))) (St.pt 1 D)) ?_
    rintro _ bd _ ch be bi ⟨ci,rfl,bj,ck,rfl⟩;subst bd;clear be
    exact Op.gt 11<|At.rg 2<|Op.vq 21 (i+1)<|Op.pg 3 [(9,vI (i+1))] (At.ke (a8 (o++gI u) (i+1) _ _ (by omega) (by omega) (by omega) (by exact OS hI h0 ae (lT (by omega) (by omega))) bj bi))
   refine At.rg 3 ?_
   obtain⟨co,bk,bm,ar⟩:=X
   obtain⟨I,J,rfl⟩:=ar.ai
   have aw:=St.un [bk] bm D
   refine Op.l1 191 4 22 0 (vL I o.length J) (aw.ag 0 rfl)<|Op.pg 13 [(2,vL I o.length J),(3,vI 0)] ?_
   obtain⟨c3,bo,c4,bs⟩:=aF.freeze ar (aw.fs [1] rfl)
   exact At.rt (.tuple #[vL I o.length J,vI 0]) (hR bo.drop ⟨(vL I o.length J),bM rfl (bp (by exact(iw (Ho hI ‹_›)).2)),bP bs (by exact(iw (Ho hI ‹_›)).1),rfl⟩)
 exact At.ke (a7 _ ([]:aj) 0 _ _ (bK _) (by omega) (by omega) (by exact OQ _) a5 a6)
theorem zD (B:World) (h:av) (g:GH) (hg:bf g h) (bb:bh g) (ae:Value) (fs:List aj) (am:ay g 28 (jC 5 bn) ae fs) (hl:fs.length≤1000000000):
  aA prog B 68 #[ae] h g [] (fun bc g' L'=>∃v0,bc=.tuple #[v0,.int .i64 ((dx fs).2)]∧ay g' 5 bn v0 ((dx fs).1)∧L'=[]):=by
 obtain⟨ar,O,rfl⟩:=am.ai
 refine aA.aq func68 fun R hR=>?_
 have aw:=St.init hg
 refine At.go 1 2 []<|At.go 2 3 [(9,.bool (decide ((fs.length:Int)>1024)))]<|At.fd ((fs.length:Int)>1024) 9 3 5 (fun c9=>?_) fun da=>?_
 ·exact At.go 4 2 [(2,vN),(3,vI 13)]<|At.rt (.tuple #[vN,vI 13]) (hR aw ⟨vN,bM rfl (bp (by exact(iw (Hj ‹_›)).2)),bP (ay.empty _ _ _ _ _) (by exact(iw (Hj ‹_›)).1),rfl⟩)
 refine At.rg 1<|Op.al 4 191 #[vN] aw fun G db bd=>Op.gt 6<|At.go 7 3 [(10,vL ar fs.length O),(11,vI (fs.length:Int)),(12,vI 0)] ?_
 have be:=aF.nil 5 bn g
 obtain⟨dc,bi,bj⟩:=St.bl (Q:=nt g G ([]:aj)) 2 (bd.nl.fs [1] rfl) ⟨_,_,rfl,be⟩
 have bk:∀(m:Nat) (o:aj) (i:Int) (U:au) (V:av) (hm:fs.length-i.toNat<m) (h0:0≤i) (h1:i≤fs.length) (hI:rM fs o i) (X:nt g G o U) (D:St h g (aM []) g [U] V),At (bS prog B 68 f68 R) [] 7 [(4,vP G),(10,vL ar fs.length O),(11,vI (fs.length:Int)),(12,vI i)] V:=by
  intro m;induction m with
  |zero=>intros;omega
  |succ m bm=>
   intro o i U V hm h0 h1 hI X D
   refine At.go 8 1 [(13,.bool (decide (i<(fs.length:Int))))]<|At.fd (i<(fs.length:Int)) 13 9 17 (fun dd=>?_) fun df=>?_
   ·refine At.rg 3 ?_
    obtain⟨u,a0⟩:=cD fs i
    obtain⟨bo,a1,dg,dj,bs,bt,Y⟩:=ay.br am _ a0
    cases bs
    refine Op.iq 107 28 1 24 fs.length O 10 12 14 bo a1 i ?_
    obtain⟨v46,Y,a3⟩:=Y
    obtain⟨Z,ab,rfl⟩:=a3.ai
    refine Op.l1 28 14 15 (a1+i.toNat*1) (vL Z u.length ab) (D.sub _ _ bt) ?_ (hv:=cT Y 0 rfl)
    refine Op.pg 10 [(6,vL Z u.length ab)]<|At.go 11 3 [(18,.bool (decide ((u.length:Int)>65536)))]<|At.fd ((u.length:Int)>65536) 18 12 14 (fun dk=>?_) fun dl=>?_
    ·exact At.go 13 2 [(2,vN),(3,vI 13)]<|At.rt (.tuple #[vN,vI 13]) (hR D.drop ⟨vN,bM rfl (bp (by exact(iw (Hl ‹_› ‹_›)).2)),bP (ay.empty _ _ _ _ _) (by exact(iw (Hl ‹_› ‹_›)).1),rfl⟩)
    refine At.rp 3 2 [(20,vI (u.length:Int))]<|Op.cl (some 21) 1 D (Hy _ _ _ D.sub bb G o _ X (u.length:Int) (by((try dsimp only)<;>(exact lT (by omega) (by omega)))) (by((try dsimp only)<;>((have:=Hg hI;omega)))) (St.pt 1 D)) ?_
    rintro _ b3 _ dp b4 b5 ⟨dq,rfl,b6,du,rfl⟩;subst b3;clear b4
    refine Op.gt 15<|At.rg 4 ?_
    obtain⟨dv,b8,ca,a4⟩:=b6
    obtain⟨cb,ce,rfl⟩:=a4.ai
    have ad:=St.un [b8] ca b5
    refine Op.l1 191 4 22 0 (vL cb ((o++gI (u.length:Int)).length) ce) (ad.ag 0 rfl)<|Op.px 1 [(23,vL Z u.length ab)] ?_
    obtain⟨dC,cf,ch⟩:=di.slice (P:=prog) (a3.toH ad.sub)
    refine Op.ap 22 23 191 28 24 5 1 bn (ys:=u) a4 ad 1 ch (by(have:=Hg hI;simp only[b_];have:=(u0 (u.length:Int)).2;omega)) (fun _ _ _=>trivial) cf fun dE dT d0 a5 ci d1=>?_
    obtain⟨a6,a7,rfl⟩:=a5.ai
    refine Op.s1 191 4 24 0 (vL a6 (((o++gI (u.length:Int))++u).length) a7) 0 #[vL a6 (((o++gI (u.length:Int))++u).length) a7] ci zt fun d2 ck=>Op.gt 16<|At.rg 2<|Op.vq 25 (i+1)<|Op.pg 7 [(12,vI (i+1))] ?_
    obtain⟨d3,co,c3⟩:=St.bl (Q:=nt g G ((o++gI (u.length:Int))++u)) 2 ck ⟨_,_,rfl,a5⟩
    exact At.ke (bm ((o++gI (u.length:Int))++u) (i+1) _ _ (by omega) (by omega) (by omega) (by exact OR hI h0 a0 ‹_›) co c3)
   refine At.rg 3 ?_
   obtain⟨d4,c4,c5,a8⟩:=X
   obtain⟨I,J,rfl⟩:=a8.ai
   have a9:=St.un [c4] c5 D
   refine Op.l1 191 4 26 0 (vL I o.length J) (a9.ag 0 rfl)<|Op.pg 18 [(2,vL I o.length J),(3,vI 0)] ?_
   obtain⟨d5,c6,d6,c8⟩:=aF.freeze a8 (a9.fs [1] rfl)
   exact At.rt (.tuple #[vL I o.length J,vI 0]) (hR c6.drop ⟨(vL I o.length J),bM rfl (bp (by exact(iw (Hh hI ‹_› ‹_›)).2)),bP c8 (by exact(iw (Hh hI ‹_› ‹_›)).1),rfl⟩)
 exact At.ke (bk _ ([]:aj) 0 _ _ (bK _) (by omega) (by omega) (by exact OP _) bi bj)
theorem Hz (B:World) (h:av) (g:GH) (hg:bf g h) (a5:bh g) (Z:Value) (b:aj) (ab:ay g 5 bn Z b) (hl:b.length≤1000000000):
  aA prog B 88 #[Z] h g [] (fun ar g' L'=>ar=.tuple #[.int .i64 ((bq b).1),.int .i64 ((bq b).2.1),.int .i64 ((bq b).2.2)]∧g'=g∧L'=[]):=by
 obtain⟨ad,I,rfl⟩:=ab.ai
 refine aA.aq func88 fun R hR=>At.go 1 3 [(2,vI 0)]<|At.go 2 3 [(8,vL ad b.length I),(9,vI (b.length:Int)),(10,vI 0)] ?_
 have aw:∀(m:Nat) (i:Int) (v:Int) (J:av) (hm:b.length-i.toNat<m) (h0:0≤i) (h1:i≤b.length) (hI:nr b i v) (G:St h g (aM []) g [] J),At (bS prog B 88 f88 R) [] 2 [(2,vI v),(8,vL ad b.length I),(9,vI (b.length:Int)),(10,vI i)] J:=by
  intro m;induction m with
  |zero=>intros;omega
  |succ m ae=>
   intro i v J hm h0 h1 hI G
   refine At.go 3 1 [(11,.bool (decide (i<(b.length:Int))))]<|At.fd (i<(b.length:Int)) 11 4 18 (fun a6=>?_) fun a7=>?_
   ·refine At.rp 5 1 [(12,vI i)] ?_
    obtain⟨u,D⟩:=cD b i
    obtain⟨a0,am,a8,a9,a1,a3,O⟩:=ay.br ab _ D
    cases a1
    refine Op.iq 28 5 1 1 b.length I 8 10 13 a0 am i ?_
    replace O:cut _ _ _=[.int .u8 (u.toNat:Int)]:=O
    refine Op.l1 5 13 14 (am+i.toNat*1) (.int .u8 (u.toNat:Int)) (G.sub _ _ a3) ?_ (hv:=cT O 0 rfl)
    refine Op.pg 5 [(5,vI i),(6,.int .u8 (u.toNat:Int))]<|At.go 6 3 [(7,.bool (decide ((u.toNat:Int)<128)))]<|At.rp 7 3 [(20,.bool (i==8))]<|Op.wd (i=8) 20 (fun bb=>?_) fun bc=>?_
    ·refine Op.pg 7 [(17,.bool (decide ((u.toNat:Int)≥64)))]<|At.fd ((u.toNat:Int)≥64) 17 9 8 (fun a4=>?_) fun bd=>?_
     ·exact At.kT 17 a4<|At.bX 17 10<|At.go 11 3 [(2,vI 0),(3,vI 0),(4,vI 12)]<|At.rt (.tuple #[vI 0,vI 0,vI 12]) (hR G ⟨j4 (bp (by(first|rw[qG hI D (by omega) (by omega)]|rw[qH hI D (by omega) (by omega)]))) (bp (by(first|rw[qG hI D (by omega) (by omega)]|rw[qH hI D (by omega) (by omega)]))) (bp (by(first|rw[qG hI D (by omega) (by omega)]|rw[qH hI D (by omega) (by omega)]))),rfl,rfl⟩)
     refine At.rp 10 2 [(25,.bool (decide ((u.toNat:Int)<128)))]<|Op.wb (decide ((u.toNat:Int)<128)) 25 (fun U=>?_) fun V=>?_
     ·refine Op.sb 7 U ?_
      replace U:=iR U
      refine Op.px 4 [(29,.bool ((u.toNat:Int)==0))]<|Op.wd ((u.toNat:Int)=0) 29 (fun be=>?_) fun bi=>?_
      ·refine Op.pg 9 [(17,.bool (decide (i>0)))]<|At.fd (i>0) 17 10 12 (fun bj=>?_) fun bk=>?_
       ·exact At.go 11 3 [(2,vI 0),(3,vI 0),(4,vI 12)]<|At.rt (.tuple #[vI 0,vI 0,vI 12]) (hR G ⟨j4 (bp (by(first|rw[qG hI D (by omega) (by omega)]|rw[qH hI D (by omega) (by omega)]))) (bp (by(first|rw[qG hI D (by omega) (by omega)]|rw[qH hI D (by omega) (by omega)]))) (bp (by(first|rw[qG hI D (by omega) (by omega)]|rw[qH hI D (by omega) (by omega)]))),rfl,rfl⟩)
       refine At.rp 9 2 [(33,vI v),(34,.int .u8 (u.toNat:Int))]<|Op.vl 35 (.int .u8 (IntKind.wrap .u8 (((BitVec.ofInt (IntKind.bits .u8) (u.toNat:Int) &&& ~~~ BitVec.ofInt (IntKind.bits .u8) (128:Int)).toNat:Nat):Int))) (.int .u8 (((u.toNat % 128:Nat):Int))) (u6 _)<|Op.vl 36 (.int .i64 (IntKind.wrap .i64 ((u.toNat % 128:Nat):Int))) (.int .i64 ((u.toNat % 128:Nat):Int)) (oA (by omega) (by omega))<|Op.px 1 [(37,vI i)]<|Op.vq 38 ((7:Int)*i) ?_
       refine Op.sv (ky:=.i64) 3 3 36 38 39 ((u.toNat % 128:Nat):Int) ((7:Int)*i) (((u.toNat % 128*2 ^ (7*i.toNat):Nat):Int)) (by omega) (u7 hI D (by omega))<|Op.vl 40 (.int .i64 (IntKind.wrap .i64 (((BitVec.ofInt (IntKind.bits .i64) v ||| BitVec.ofInt (IntKind.bits .i64) ((u.toNat % 128*2 ^ (7*i.toNat):Nat):Int)).toNat:Nat):Int))) (.int .i64 (v+((u.toNat % 128*2 ^ (7*i.toNat):Nat):Int))) (u9 hI D (by omega))<|Op.pg 13 [(2,vI (v+((u.toNat % 128*2 ^ (7*i.toNat):Nat):Int)))]<|At.go 14 1 [(41,vT)]<|At.bX 41 15 ?_
       exact At.rp 6 2 [(42,vI (v+((u.toNat % 128*2 ^ (7*i.toNat):Nat):Int))),(43,vI i)]<|Op.vq 44 (i+1)<|Op.pg 16 [(2,vI (v+((u.toNat % 128*2 ^ (7*i.toNat):Nat):Int))),(3,vI (i+1)),(4,vI 0)]<|At.rt (.tuple #[vI (v+((u.toNat % 128*2 ^ (7*i.toNat):Nat):Int)),vI (i+1),vI 0]) (hR G ⟨j4 (bp (by rw[nP hI D (by omega) (by omega) (by omega)])) (bp (by rw[nP hI D (by omega) (by omega) (by omega)])) (bp (by rw[nP hI D (by omega) (by omega) (by omega)])),rfl,rfl⟩)
      refine Op.pg 9 [(17,vF)]<|At.dP 17 12<|At.rp 9 2 [(33,vI v),(34,.int .u8 (u.toNat:Int))]<|Op.vl 35 (.int .u8 (IntKind.wrap .u8 (((BitVec.ofInt (IntKind.bits .u8) (u.toNat:Int) &&& ~~~ BitVec.ofInt (IntKind.bits .u8) (128:Int)).toNat:Nat):Int))) (.int .u8 (((u.toNat % 128:Nat):Int))) (u6 _)<|Op.vl 36 (.int .i64 (IntKind.wrap .i64 ((u.toNat % 128:Nat):Int))) (.int .i64 ((u.toNat % 128:Nat):Int)) (oA (by omega) (by omega)) ?_
      refine Op.px 1 [(37,vI i)]<|Op.vq 38 ((7:Int)*i)<|Op.sv (ky:=.i64) 3 3 36 38 39 ((u.toNat % 128:Nat):Int) ((7:Int)*i) (((u.toNat % 128*2 ^ (7*i.toNat):Nat):Int)) (by omega) (u7 hI D (by omega))<|Op.vl 40 (.int .i64 (IntKind.wrap .i64 (((BitVec.ofInt (IntKind.bits .i64) v ||| BitVec.ofInt (IntKind.bits .i64) ((u.toNat % 128*2 ^ (7*i.toNat):Nat):Int)).toNat:Nat):Int))) (.int .i64 (v+((u.toNat % 128*2 ^ (7*i.toNat):Nat):Int))) (u9 hI D (by omega))<|Op.pg 13 [(2,vI (v+((u.toNat % 128*2 ^ (7*i.toNat):Nat):Int)))] ?_
      refine At.go 14 1 [(41,vT)]<|At.bX 41 15<|At.rp 6 2 [(42,vI (v+((u.toNat % 128*2 ^ (7*i.toNat):Nat):Int))),(43,vI i)]<|Op.vq 44 (i+1)<|Op.pg 16 [(2,vI (v+((u.toNat % 128*2 ^ (7*i.toNat):Nat):Int))),(3,vI (i+1)),(4,vI 0)] ?_
      exact At.rt (.tuple #[vI (v+((u.toNat % 128*2 ^ (7*i.toNat):Nat):Int)),vI (i+1),vI 0]) (hR G ⟨j4 (bp (by rw[nP hI D (by omega) (by omega) (by omega)])) (bp (by rw[nP hI D (by omega) (by omega) (by omega)])) (bp (by rw[nP hI D (by omega) (by omega) (by omega)])),rfl,rfl⟩)
     refine Op.sb 7 V ?_
     replace V:=kF V
     refine Op.pg 9 [(17,vF)]<|At.dP 17 12<|At.rp 9 2 [(33,vI v),(34,.int .u8 (u.toNat:Int))]<|Op.vl 35 (.int .u8 (IntKind.wrap .u8 (((BitVec.ofInt (IntKind.bits .u8) (u.toNat:Int) &&& ~~~ BitVec.ofInt (IntKind.bits .u8) (128:Int)).toNat:Nat):Int))) (.int .u8 (((u.toNat % 128:Nat):Int))) (u6 _)<|Op.vl 36 (.int .i64 (IntKind.wrap .i64 ((u.toNat % 128:Nat):Int))) (.int .i64 ((u.toNat % 128:Nat):Int)) (oA (by omega) (by omega)) ?_
     refine Op.px 1 [(37,vI i)]<|Op.vq 38 ((7:Int)*i)<|Op.sv (ky:=.i64) 3 3 36 38 39 ((u.toNat % 128:Nat):Int) ((7:Int)*i) (((u.toNat % 128*2 ^ (7*i.toNat):Nat):Int)) (by omega) (u7 hI D (by omega))<|Op.vl 40 (.int .i64 (IntKind.wrap .i64 (((BitVec.ofInt (IntKind.bits .i64) v ||| BitVec.ofInt (IntKind.bits .i64) ((u.toNat % 128*2 ^ (7*i.toNat):Nat):Int)).toNat:Nat):Int))) (.int .i64 (v+((u.toNat % 128*2 ^ (7*i.toNat):Nat):Int))) (u9 hI D (by omega))<|Op.pg 13 [(2,vI (v+((u.toNat % 128*2 ^ (7*i.toNat):Nat):Int)))] ?_
     exact At.go 14 1 [(41,vF)]<|At.dP 41 17<|At.rg 2<|Op.vq 45 (i+1)<|Op.pg 2 [(10,vI (i+1))] (At.ke (ae (i+1) (v+((u.toNat % 128*2 ^ (7*i.toNat):Nat):Int)) _ (by omega) (by omega) (by omega) (by exact G8 hI D (by omega) (by omega) (by omega)) G))
    refine Op.pg 7 [(17,vF)]<|At.dP 17 8<|At.rp 10 2 [(25,.bool (decide ((u.toNat:Int)<128)))]<|Op.wb (decide ((u.toNat:Int)<128)) 25 (fun X=>?_) fun Y=>?_
    ·refine Op.sb 7 X ?_
     replace X:=iR X
     refine Op.px 4 [(29,.bool ((u.toNat:Int)==0))]<|Op.wd ((u.toNat:Int)=0) 29 (fun bm=>?_) fun bo=>?_
     ·refine Op.pg 9 [(17,.bool (decide (i>0)))]<|At.fd (i>0) 17 10 12 (fun bs=>?_) fun bt=>?_
      ·exact At.go 11 3 [(2,vI 0),(3,vI 0),(4,vI 12)]<|At.rt (.tuple #[vI 0,vI 0,vI 12]) (hR G ⟨j4 (bp (by(first|rw[qG hI D (by omega) (by omega)]|rw[qH hI D (by omega) (by omega)]))) (bp (by(first|rw[qG hI D (by omega) (by omega)]|rw[qH hI D (by omega) (by omega)]))) (bp (by(first|rw[qG hI D (by omega) (by omega)]|rw[qH hI D (by omega) (by omega)]))),rfl,rfl⟩)
      refine At.rp 9 2 [(33,vI v),(34,.int .u8 (u.toNat:Int))]<|Op.vl 35 (.int .u8 (IntKind.wrap .u8 (((BitVec.ofInt (IntKind.bits .u8) (u.toNat:Int) &&& ~~~ BitVec.ofInt (IntKind.bits .u8) (128:Int)).toNat:Nat):Int))) (.int .u8 (((u.toNat % 128:Nat):Int))) (u6 _)<|Op.vl 36 (.int .i64 (IntKind.wrap .i64 ((u.toNat % 128:Nat):Int))) (.int .i64 ((u.toNat % 128:Nat):Int)) (oA (by omega) (by omega))<|Op.px 1 [(37,vI i)]<|Op.vq 38 ((7:Int)*i) ?_
      refine Op.sv (ky:=.i64) 3 3 36 38 39 ((u.toNat % 128:Nat):Int) ((7:Int)*i) (((u.toNat % 128*2 ^ (7*i.toNat):Nat):Int)) (by omega) (u7 hI D (by omega))<|Op.vl 40 (.int .i64 (IntKind.wrap .i64 (((BitVec.ofInt (IntKind.bits .i64) v ||| BitVec.ofInt (IntKind.bits .i64) ((u.toNat % 128*2 ^ (7*i.toNat):Nat):Int)).toNat:Nat):Int))) (.int .i64 (v+((u.toNat % 128*2 ^ (7*i.toNat):Nat):Int))) (u9 hI D (by omega))<|Op.pg 13 [(2,vI (v+((u.toNat % 128*2 ^ (7*i.toNat):Nat):Int)))]<|At.go 14 1 [(41,vT)]<|At.bX 41 15 ?_
      exact At.rp 6 2 [(42,vI (v+((u.toNat % 128*2 ^ (7*i.toNat):Nat):Int))),(43,vI i)]<|Op.vq 44 (i+1)<|Op.pg 16 [(2,vI (v+((u.toNat % 128*2 ^ (7*i.toNat):Nat):Int))),(3,vI (i+1)),(4,vI 0)]<|At.rt (.tuple #[vI (v+((u.toNat % 128*2 ^ (7*i.toNat):Nat):Int)),vI (i+1),vI 0]) (hR G ⟨j4 (bp (by rw[nP hI D (by omega) (by omega) (by omega)])) (bp (by rw[nP hI D (by omega) (by omega) (by omega)])) (bp (by rw[nP hI D (by omega) (by omega) (by omega)])),rfl,rfl⟩)
     refine Op.pg 9 [(17,vF)]<|At.dP 17 12<|At.rp 9 2 [(33,vI v),(34,.int .u8 (u.toNat:Int))]<|Op.vl 35 (.int .u8 (IntKind.wrap .u8 (((BitVec.ofInt (IntKind.bits .u8) (u.toNat:Int) &&& ~~~ BitVec.ofInt (IntKind.bits .u8) (128:Int)).toNat:Nat):Int))) (.int .u8 (((u.toNat % 128:Nat):Int))) (u6 _)<|Op.vl 36 (.int .i64 (IntKind.wrap .i64 ((u.toNat % 128:Nat):Int))) (.int .i64 ((u.toNat % 128:Nat):Int)) (oA (by omega) (by omega)) ?_
     refine Op.px 1 [(37,vI i)]<|Op.vq 38 ((7:Int)*i)<|Op.sv (ky:=.i64) 3 3 36 38 39 ((u.toNat % 128:Nat):Int) ((7:Int)*i) (((u.toNat % 128*2 ^ (7*i.toNat):Nat):Int)) (by omega) (u7 hI D (by omega))<|Op.vl 40 (.int .i64 (IntKind.wrap .i64 (((BitVec.ofInt (IntKind.bits .i64) v ||| BitVec.ofInt (IntKind.bits .i64) ((u.toNat % 128*2 ^ (7*i.toNat):Nat):Int)).toNat:Nat):Int))) (.int .i64 (v+((u.toNat % 128*2 ^ (7*i.toNat):Nat):Int))) (u9 hI D (by omega))<|Op.pg 13 [(2,vI (v+((u.toNat % 128*2 ^ (7*i.toNat):Nat):Int)))] ?_
     refine At.go 14 1 [(41,vT)]<|At.bX 41 15<|At.rp 6 2 [(42,vI (v+((u.toNat % 128*2 ^ (7*i.toNat):Nat):Int))),(43,vI i)]<|Op.vq 44 (i+1)<|Op.pg 16 [(2,vI (v+((u.toNat % 128*2 ^ (7*i.toNat):Nat):Int))),(3,vI (i+1)),(4,vI 0)] ?_
     exact At.rt (.tuple #[vI (v+((u.toNat % 128*2 ^ (7*i.toNat):Nat):Int)),vI (i+1),vI 0]) (hR G ⟨j4 (bp (by rw[nP hI D (by omega) (by omega) (by omega)])) (bp (by rw[nP hI D (by omega) (by omega) (by omega)])) (bp (by rw[nP hI D (by omega) (by omega) (by omega)])),rfl,rfl⟩)
    refine Op.sb 7 Y ?_
    replace Y:=kF Y
    refine Op.pg 9 [(17,vF)]<|At.dP 17 12<|At.rp 9 2 [(33,vI v),(34,.int .u8 (u.toNat:Int))]<|Op.vl 35 (.int .u8 (IntKind.wrap .u8 (((BitVec.ofInt (IntKind.bits .u8) (u.toNat:Int) &&& ~~~ BitVec.ofInt (IntKind.bits .u8) (128:Int)).toNat:Nat):Int))) (.int .u8 (((u.toNat % 128:Nat):Int))) (u6 _)<|Op.vl 36 (.int .i64 (IntKind.wrap .i64 ((u.toNat % 128:Nat):Int))) (.int .i64 ((u.toNat % 128:Nat):Int)) (oA (by omega) (by omega)) ?_
    refine Op.px 1 [(37,vI i)]<|Op.vq 38 ((7:Int)*i)<|Op.sv (ky:=.i64) 3 3 36 38 39 ((u.toNat % 128:Nat):Int) ((7:Int)*i) (((u.toNat % 128*2 ^ (7*i.toNat):Nat):Int)) (by omega) (u7 hI D (by omega))<|Op.vl 40 (.int .i64 (IntKind.wrap .i64 (((BitVec.ofInt (IntKind.bits .i64) v ||| BitVec.ofInt (IntKind.bits .i64) ((u.toNat % 128*2 ^ (7*i.toNat):Nat):Int)).toNat:Nat):Int))) (.int .i64 (v+((u.toNat % 128*2 ^ (7*i.toNat):Nat):Int))) (u9 hI D (by omega))<|Op.pg 13 [(2,vI (v+((u.toNat % 128*2 ^ (7*i.toNat):Nat):Int)))] ?_
    exact At.go 14 1 [(41,vF)]<|At.dP 41 17<|At.rg 2<|Op.vq 45 (i+1)<|Op.pg 2 [(10,vI (i+1))] (At.ke (ae (i+1) (v+((u.toNat % 128*2 ^ (7*i.toNat):Nat):Int)) _ (by omega) (by omega) (by omega) (by exact G8 hI D (by omega) (by omega) (by omega)) G))
   exact At.go 19 3 [(2,vI 0),(3,vI 0),(4,vI 11)]<|At.rt (.tuple #[vI 0,vI 0,vI 11]) (hR G ⟨j4 (bp (by rw[Cy hI (by omega)])) (bp (by rw[Cy hI (by omega)])) (bp (by rw[Cy hI (by omega)])),rfl,rfl⟩)
 exact At.ke (aw _ 0 0 _ (bK _) (by omega) (by omega) (by exact OO _) (St.init hg))
theorem zE (B:World) (h:av) (g:GH) (hg:bf g h) (X:bh g) (ad:Value) (b:aj) (ae:ay g 5 bn ad b) (hl:b.length≤1000000000):
  aA prog B 48 #[ad] h g [] (fun a5 g' L'=>∃v0,a5=.tuple #[v0,.int .i64 ((aT b).2)]∧ay g' 28 (jC 5 bn) v0 ((aT b).1)∧L'=[]):=by
 obtain⟨bt,b3,rfl⟩:=ae.ai
 refine aA.aq func48 fun R hR=>At.go 1 2 []<|At.go 2 1 [(4,vN)] ?_
 have a6:∀(m:Nat) (J:GH) (Y:aG g J) (fs:List aj) (b2:aj) (a20:Option Addr) (G:Nat) (Z:au) (u:Option Addr) (D:Nat) (ab:av) (hm:b2.length<m) (hI:pP b b2 fs) (a7:b2.length≤b.length) (hf:fs.length≤1024) (O:aF 28 (jC 5 bn) J (.slice a20 fs.length G) fs Z) (I:ay J 5 bn (vL u b2.length D) b2) (U:St h g (aM []) J [Z] ab),At (bS prog B 48 f48 R) [] 2 [(0,vL u b2.length D),(4,vL a20 fs.length G)] ab:=by
  intro m;induction m with
  |zero=>intros;omega
  |succ m a8=>
   intro J Y fs b2 a20 G Z u D ab hm hI a7 hf O I U
   replace X:=X.mono Y
   refine At.go 3 3 [(10,.bool (decide ((b2.length:Int)>0)))]<|At.fd ((b2.length:Int)>0) 10 4 23 (fun b4=>?_) fun b5=>?_
   ·refine At.go 5 3 [(13,.bool ((fs.length:Int)==1024))]<|At.fd ((fs.length:Int)=1024) 13 6 8 (fun b6=>?_) fun b8=>?_
    ·exact At.go 7 2 [(2,vN),(3,vI 13)]<|At.rt (.tuple #[vN,vI 13]) (hR U.drop ⟨vN,bM rfl (bp (by exact(iw (Hp hI ‹_› ‹_›)).2)),bP (ay.empty _ _ _ _ _) (by exact(iw (Hp hI ‹_› ‹_›)).1),rfl⟩)
    refine At.rp 9 1 [(15,vL u b2.length D)]<|Op.c1 16 (Hz _ _ _ U.sub X _ _ I (by(try dsimp only)<;>omega)) U fun ca V=>Op.pg 9 [(5,vI ((bq b2).1)),(6,vI ((bq b2).2.1)),(7,vI ((bq b2).2.2))]<|At.go 10 3 [(20,.bool (((bq b2).2.2) != 0))]<|At.fn (((bq b2).2.2)=0) 20 11 13 (fun cb=>?_) fun ce=>?_
    ·exact At.go 12 3 [(2,vN),(3,vI ((bq b2).2.2))]<|At.rt (.tuple #[vN,vI ((bq b2).2.2)]) (hR V.drop ⟨vN,bM rfl (bp (by exact(iw (Hq hI ‹_› ‹_› ‹_›)).2)),bP (ay.empty _ _ _ _ _) (by exact(iw (Hq hI ‹_› ‹_› ‹_›)).1),rfl⟩)
    refine At.go 14 3 [(24,.bool (decide (((bq b2).1)>65536)))]<|At.fd (((bq b2).1)>65536) 24 15 17 (fun cf=>?_) fun ch=>?_
    ·exact At.go 12 2 [(2,vN),(3,vI 13)]<|At.rt (.tuple #[vN,vI 13]) (hR V.drop ⟨vN,bM rfl (bp (by exact(iw (Hr hI ‹_› ‹_› ‹_› ‹_›)).2)),bP (ay.empty _ _ _ _ _) (by exact(iw (Hr hI ‹_› ‹_› ‹_› ‹_›)).1),rfl⟩)
    refine At.rp 7 3 [(29,vI (b2.length:Int)),(30,vI ((bq b2).2.1))]<|Op.dQ 31 ((b2.length:Int)-((bq b2).2.1)) (by(have hb:=kg (b:=b2) ‹_›;omega)) (by(have hb:=kg (b:=b2) ‹_›;omega))<|Op.pg 18 [(27,.bool (decide (((b2.length:Int)-((bq b2).2.1))<((bq b2).1))))]<|At.fd (((b2.length:Int)-((bq b2).2.1))<((bq b2).1)) 27 19 21 (fun ci=>?_) fun ck=>?_
    ·exact At.go 12 2 [(2,vN),(3,vI 11)]<|At.rt (.tuple #[vN,vI 11]) (hR V.drop ⟨vN,bM rfl (bp (by exact(iw (Hs hI ‹_› ‹_› ‹_› ‹_› ‹_›)).2)),bP (ay.empty _ _ _ _ _) (by exact(iw (Hs hI ‹_› ‹_› ‹_› ‹_› ‹_›)).1),rfl⟩)
    refine At.rp 11 5 [(34,vL a20 fs.length G),(35,vL u b2.length D),(36,vI ((bq b2).2.1)),(37,vI ((bq b2).2.1)),(38,vI ((bq b2).1))]<|Op.dQ 39 (((bq b2).2.1)+((bq b2).1)) (by(have hb:=kg (b:=b2) ‹_›;omega)) (by omega)<|Op.ML (T:=28) (E:=5) (cR:=1) (x:=35) (ao:=u) (n:=b2.length) (c:=D) (dst:=40) (d:=bn) (lo:=36) (hi:=39) (k:=.i64) (k':=.i64) (m:=(bq b2).2.1) (m':=((bq b2).2.1)+((bq b2).1)) (by kernel_rfl) (by kernel_rfl) (by kernel_rfl) (by kernel_rfl) (by kernel_rfl) I (by(have hb:=kg (b:=b2) ‹_›;omega)) (by(have hb:=kg (b:=b2) ‹_›;omega)) (by omega) fun co am=>?_
    obtain⟨a46,c3,rfl⟩:=am.ai
    refine Op.c0 (some 41) (mc _ _ _ V.sub X _ _ am (by((try dsimp only)<;>((rw[gx,dD];have hb:=kg (b:=b2) ‹_›;omega))))) V ?_
    rintro _ a9 _ c4 bb bc ⟨c5,c6,rfl,ar,c8,rfl⟩;subst a9;clear bb
    obtain⟨a53,aw,rfl⟩:=ar.ai
    obtain⟨c9,bd,a0,be⟩:=aF.freeze ar (bc)
    replace O:=O.mono a0
    replace I:=I.mono a0
    refine Op.ls 42 1 28 #[vL a53 ((((b2.take (((bq b2).2.1)+((bq b2).1):Int).toNat).drop ((bq b2).2.1:Int).toNat)).length) aw] bd fun da db a1=>Op.ap 34 42 107 107 43 28 24 (jC 5 bn) (ys:=[((b2.take (((bq b2).2.1)+((bq b2).1):Int).toNat).drop ((bq b2).2.1:Int).toNat)]) O a1 1 (⟨_,_,rfl,⟨_,rfl,be⟩,Reads.nil⟩) (by(simp only[bL,cS];omega)) (fun _ _ _=>trivial) (di.lit (m:=1) (sz:=1) (a1.ag 0 rfl) (news:=[vL a53 ((((b2.take (((bq b2).2.1)+((bq b2).1):Int).toNat).drop ((bq b2).2.1:Int).toNat)).length) aw]) rfl rfl (by simp[Value.oneCell']) _) fun dQ dc dd a3 bi df=>?_
    obtain⟨a70,bj,rfl⟩:=a3.ai
    refine Op.pg 22 [(4,vL a70 ((fs++([((b2.take (((bq b2).2.1)+((bq b2).1):Int).toNat).drop ((bq b2).2.1:Int).toNat)])).length) bj)]<|At.rp 6 3 [(44,vL u b2.length D),(45,vI ((bq b2).2.1)),(46,vI ((bq b2).1))]<|Op.dQ 47 (((bq b2).2.1)+((bq b2).1)) (by(have hb:=kg (b:=b2) ‹_›;omega)) (by omega)<|Op.wE (T:=28) (E:=5) (cR:=1) (x:=44) (ao:=u) (n:=b2.length) (c:=D) (dst:=48) (d:=bn) (lo:=47) (k:=.i64) (m:=((bq b2).2.1)+((bq b2).1)) (by kernel_rfl) (by kernel_rfl) (by kernel_rfl) (by kernel_rfl) I (by(have hb:=kg (b:=b2) ‹_›;omega)) (by omega) fun dg a4=>?_
    obtain⟨a75,bk,rfl⟩:=a4.ai
    exact Op.pg 2 [(0,vL a75 ((b2.drop (((bq b2).2.1)+((bq b2).1):Int).toNat).length) bk)] (At.ke (a8 _ (aG.trans Y (by repeat (first|assumption|apply aG.trans))) (fs++([((b2.take (((bq b2).2.1)+((bq b2).1):Int).toNat).drop ((bq b2).2.1:Int).toNat)])) (b2.drop (((bq b2).2.1)+((bq b2).1):Int).toNat) _ _ _ _ _ _ (by(have hb:=kg (b:=b2) ‹_›;rw[gx];omega)) (by(have hb:=kg (b:=b2) ‹_›;exact OV hI ‹_› ‹_› ‹_› ‹_› ‹_› (O3 (by omega) (by omega)))) (by(rw[gx];omega)) (by(simp only[b_,bL,cS];omega)) a3 a4 ((bi).drop)))
   refine At.go 24 3 [(2,vL a20 fs.length G),(3,vI 0)] ?_
   obtain⟨dj,bm,dk,bo⟩:=aF.freeze O (U)
   exact At.rt (.tuple #[vL a20 fs.length G,vI 0]) (hR bm ⟨(vL a20 fs.length G),bM rfl (bp (by exact(iw (Ht hI ‹_›)).2)),bP bo (by exact(iw (Ht hI ‹_›)).1),rfl⟩)
 have bs:=aF.zero 28 (jC 5 bn) g none
 exact At.ke (a6 _ _ (aG.refl _) [] b _ _ _ _ _ _ (bK _) (by exact OU _) (by exact iO _) (by exact gO _) bs ae ((St.init hg).nl))
theorem O4 (B:World) (h:av) (g:GH) (hg:bf g h) (O:bh g) (ab:Value) (b:aj) (ad:ay g 5 bn ab b) (hl:b.length≤1000000000):
  aA prog B 89 #[ab] h g [] (fun a0 g' L'=>∃v0,a0=.tuple #[v0,.int .i64 ((bH b).2)]∧ay g' 3 (eF .i64) v0 ((bH b).1)∧L'=[]):=by
 obtain⟨be,bi,rfl⟩:=ad.ai
 refine aA.aq func89 fun R hR=>At.go 1 2 []<|At.go 2 1 [(4,vN)] ?_
 have a1:∀(m:Nat) (I:GH) (U:aG g I) (os:List Int) (b2:aj) (a20:Option Addr) (u:Nat) (V:au) (D:Option Addr) (G:Nat) (X:av) (hm:b2.length<m) (hI:tn b b2 os) (a3:b2.length+os.length≤b.length) (Y:aF 3 (eF .i64) I (.slice a20 os.length u) os V) (Z:ay I 5 bn (vL D b2.length G) b2) (J:St h g (aM []) I [V] X),At (bS prog B 89 f89 R) [] 2 [(0,vL D b2.length G),(4,vL a20 os.length u)] X:=by
  intro m;induction m with
  |zero=>intros;omega
  |succ m a4=>
   intro I U os b2 a20 u V D G X hm hI a3 Y Z J
   replace O:=O.mono U
   refine At.go 3 3 [(10,.bool (decide ((b2.length:Int)>0)))]<|At.fd ((b2.length:Int)>0) 10 4 11 (fun bj=>?_) fun bk=>?_
   ·refine At.rp 9 1 [(12,vL D b2.length G)]<|Op.c1 13 (Hz _ _ _ J.sub O _ _ Z (by(try dsimp only)<;>omega)) J fun bm ae=>Op.pg 5 [(5,vI ((bq b2).1)),(6,vI ((bq b2).2.1)),(7,vI ((bq b2).2.2))]<|At.go 6 2 [(18,.bool (((bq b2).2.2) != 0))]<|At.fn (((bq b2).2.2)=0) 18 7 9 (fun bo=>?_) fun bs=>?_
    ·exact At.go 8 3 [(2,vN),(3,vI ((bq b2).2.2))]<|At.rt (.tuple #[vN,vI ((bq b2).2.2)]) (hR ae.drop ⟨vN,bM rfl (bp (by exact(iw (Hu hI ‹_› ‹_›)).2)),bP (ay.empty _ _ _ _ _) (by exact(iw (Hu hI ‹_› ‹_›)).1),rfl⟩)
    refine At.rp 5 2 [(20,vL a20 os.length u),(21,vI ((bq b2).1))]<|Op.ls 22 1 3 #[vI ((bq b2).1)] ae fun bt b3 am=>Op.ap 20 22 81 81 23 3 8 (eF .i64) (ys:=[(bq b2).1]) Y am 1 (⟨_,_,rfl,rfl,Reads.nil⟩) (by(simp only[bL,cS];omega)) (fun _ _ _=>trivial) (di.lit (m:=1) (sz:=1) (am.ag 0 rfl) (news:=[vI ((bq b2).1)]) rfl rfl (by simp[Value.oneCell']) _) fun b4 b5 b6 ar a5 b8=>?_
    obtain⟨a6,a7,rfl⟩:=ar.ai
    refine Op.pg 10 [(4,vL a6 ((os++([(bq b2).1])).length) a7)]<|At.rp 4 2 [(24,vL D b2.length G),(25,vI ((bq b2).2.1))]<|Op.wE (T:=28) (E:=5) (cR:=1) (x:=24) (ao:=D) (n:=b2.length) (c:=G) (dst:=26) (d:=bn) (lo:=25) (k:=.i64) (m:=(bq b2).2.1) (by kernel_rfl) (by kernel_rfl) (by kernel_rfl) (by kernel_rfl) Z (by(have hb:=kg (b:=b2) ‹_›;omega)) (by(have hb:=kg (b:=b2) ‹_›;omega)) fun ca aw=>?_
    obtain⟨a8,a9,rfl⟩:=aw.ai
    exact Op.pg 2 [(0,vL a8 ((b2.drop ((bq b2).2.1:Int).toNat).length) a9)] (At.ke (a4 _ U (os++([(bq b2).1])) (b2.drop ((bq b2).2.1:Int).toNat) _ _ _ _ _ _ (by(have hb:=kg (b:=b2) ‹_›;rw[gx];omega)) (by exact OX hI ‹_› ‹_›) (by(have hb:=kg (b:=b2) ‹_›;rw[gx,b_,qz];omega)) ar aw ((a5).drop)))
   refine At.go 12 3 [(2,vL a20 os.length u),(3,vI 0)] ?_
   obtain⟨cb,bb,ce,bc⟩:=aF.freeze Y (J)
   exact At.rt (.tuple #[vL a20 os.length u,vI 0]) (hR bb ⟨(vL a20 os.length u),bM rfl (bp (by exact(iw (Hv hI ‹_›)).2)),bP bc (by exact(iw (Hv hI ‹_›)).1),rfl⟩)
 have bd:=aF.zero 3 (eF .i64) g none
 exact At.ke (a1 _ _ (aG.refl _) [] b _ _ _ _ _ _ (bK _) (by exact OW _) (by(simp;done)) bd ad ((St.init hg).nl))
def fJ {α:Type} (x:List (Int×α)):Prop:=x.Pairwise fun a b=>a.1<b.1
def bW {α:Type} (x:List (Int×α)) (k:Int):Option α:=(x.find? fun p=>decide (p.1=k)).map (·.2)
def fh {α:Type} (x:List (Int×α)) (k:Int):List (Int×α):=x.filter fun p=>!decide (p.1=k)
def b7 {α:Type}:List (Int×α)→Int→α→List (Int×α)
  |[],k,a=>[(k,a)]
  |p::x,k,a=>if p.1<k then p::b7 x k a else if p.1=k then (k,a)::x else (k,a)::p::x
section
variable {α:Type} {x:List (Int×α)} {k j:Int} {a:α}
theorem jU (p:Int×α) (x:List (Int×α)) (k:Int):bW (p::x) k=if p.1=k then some p.2 else bW x k:=by
  unfold bW
  rw[wH]
  by_cases h:p.1=k<;>simp[h]
theorem zF:bW x k=none↔∀p∈x,p.1≠k:=by
  induction x with
  |nil=>simp[bW]
  |cons p x ih=>
   rw[jU]
   by_cases h:p.1=k
   · simp[h]
   · rw[aB h,ih];simp[h]
theorem ki (hs:fJ x):bW x k=some a↔(k,a)∈x:=by
  induction x with
  |nil=>simp[bW]
  |cons p x ih=>
   obtain⟨h1,h2⟩:=jE.1 hs
   rw[jU,fe]
   by_cases h:p.1=k
   · rw[aL h]
     subst h
     constructor
     · intro e;left;rw[←fT e]
     · rintro(e|e)
       · rw[←e]
       · exact absurd (h1 _ e) (Int.lt_irrefl _)
   · rw[aB h,ih h2]
     constructor
     · exact .inr
     · rintro(e|e)
       · rw[←e] at h;exact absurd rfl h
       · exact e
theorem O5 (hs:fJ x) (k:Int):fJ (fh x k):=s7 oJ hs
theorem rO:∀{x:List (Int×α)} {q:Int×α},q∈b7 x k a→q=(k,a)∨q∈x
  |[],q,h=>by simp[b7] at h;exact .inl h
  |p::x,q,h=>by
   rw[b7] at h
   repeat' split at h
   · rcases fe.1 h with rfl|h
     · exact .inr (by simp)
     · rcases rO h with h|h
       · exact .inl h
       · exact .inr (by simp[h])
   · rcases fe.1 h with rfl|h
     · exact .inl rfl
     · exact .inr (by simp[h])
   · rcases fe.1 h with rfl|h
     · exact .inl rfl
     · exact .inr h
theorem xq:∀{x:List (Int×α)},fJ x→fJ (b7 x k a)
  |[],_=>by simp[b7,fJ]
  |p::x,hs=>by
   obtain⟨h1,h2⟩:=jE.1 hs
   rw[b7]
   by_cases h:p.1<k
   · rw[aL h]
     refine jE.2 ⟨fun q hq=>?_,xq h2⟩
     rcases rO hq with rfl|hq
     · exact h
     · exact h1 q hq
   · rw[aB h]
     by_cases e:p.1=k
     · rw[aL e]
       subst e
       exact jE.2 ⟨fun q hq=>h1 q hq,h2⟩
     · rw[aB e]
       refine jE.2 ⟨fun q hq=>?_,hs⟩
       rcases fe.1 hq with rfl|hq
       · show k<q.1;omega
       · have:=h1 q hq;show k<q.1;omega
theorem u_:∀{x:List (Int×α)},bW (b7 x k a) j=if k=j then some a else bW x j
  |[]=>by rw[b7,jU]
  |p::x=>by
   rw[b7]
   by_cases h1:p.1<k
   · rw[aL h1,jU,u_,jU]
     by_cases h:p.1=j
     · rw[aL h,aB (by omega),aL h]
     · rw[aB h,aB h]
   · rw[aB h1]
     by_cases h2:p.1=k
     · rw[aL h2,jU,jU]
       by_cases h3:k=j
       · rw[aL h3,aL h3]
       · rw[aB h3,aB h3,aB (by omega)]
     · rw[aB h2,jU]
theorem HC:bW (fh x k) j=if k=j then none else bW x j:=by
  induction x with
  |nil=>simp[fh,bW]
  |cons p x ih=>
   unfold fh at *
   rw[ju]
   by_cases h:p.1=k
   · subst h
     simp only[ry,ng,fZ,de]
     rw[ih,jU]
     split<;>simp_all
   · simp only[h,s5,qw,iA]
     rw[jU,ih,jU]
     by_cases hj:p.1=j
     · rw[aL hj,aB (by omega),aL hj]
     · rw[aB hj,aB hj]
end
def eS {α:Type} (R:α→Value→Prop) (ks:List (Int×Value)) (x:List (Int×α)):Prop:=
  fJ x∧(ks.map (·.1)).Nodup∧(ks.map (·.1)).Perm (x.map (·.1))∧∀k v a,(k,v)∈ks→(k,a)∈x→R a v
section
variable {α:Type} {R R':α→Value→Prop} {ks:List (Int×Value)} {x:List (Int×α)} {k:Int} {v:Value} {a:α}
theorem eS.mono (H:eS R ks x) (h:∀a v,R a v→R' a v):eS R' ks x:=⟨H.1,H.2.1,H.2.2.1,fun k v a h1 h2=>h _ _ (H.2.2.2 k v a h1 h2)⟩
theorem eS.nil:eS R [] ([]:List (Int×α)):=⟨List.Pairwise.nil,List.Pairwise.nil,gj _,fun _ _ _ h=>by cases h⟩
theorem zG (hn:(ks.map (·.1)).Nodup):fH ks k=some v↔(k,v)∈ks:=by
  constructor
  · intro h
    unfold fH at h
    obtain⟨p,hp,rfl⟩:=q6.1 h
    have h1:=v_ hp
    have h2:=we hp
    simp only[cB] at h2
    rw[←h2];exact h1
  · intro h
    obtain⟨i,hi⟩:=nh.1 h
    exact BJ hn hi
theorem O6:fH ks k=none↔∀p∈ks,p.1≠k:=by
  constructor
  · intro h p hp e
    unfold fH at h
    rw[Option.map_eq_none_iff,List.find?_eq_none] at h
    exact absurd e (by simpa using h p hp)
  · exact BI
theorem eS.HD (H:eS R ks x):fH ks k=none↔bW x k=none:=by
  rw[O6,zF]
  have hm:∀j,(∃p∈ks,p.1=j)↔∃p∈x,p.1=j:=fun j=>by
    have:=H.2.2.1.mem_iff (a:=j)
    simpa using this
  have:=hm k
  constructor
  · intro h p hp e
    obtain⟨q,hq,e2⟩:=(hm k).2 ⟨p,hp,e⟩
    exact h q hq e2
  · intro h p hp e
    obtain⟨q,hq,e2⟩:=(hm k).1 ⟨p,hp,e⟩
    exact h q hq e2
theorem eS.zH (H:eS R ks x) (h:fH ks k=some v):∃a,bW x k=some a∧R a v:=by
  cases hf:bW x k with
  |none=>rw[H.HD.2 hf] at h;cases h
  |some a=>exact⟨a,rfl,H.2.2.2 k v a ((zG H.2.1).1 h) ((ki H.1).1 hf)⟩
theorem eS.gy (H:eS R ks x) (k:Int):(fH ks k=none∧bW x k=none)∨∃v a,fH ks k=some v∧bW x k=some a∧R a v:=by
  cases h:fH ks k with
  |none=>exact .inl ⟨rfl,H.HD.1 h⟩
  |some v=>obtain⟨a,h1,h2⟩:=H.zH h;exact .inr ⟨v,a,rfl,h1,h2⟩
theorem O7 {q:Int×Value} (hn:(ks.map (·.1)).Nodup) (h:q∈h_ ks k v):q=(k,v)∨(q∈ks∧q.1≠k):=by
  unfold h_ at h
  split at h
  · obtain⟨p,hp,e⟩:=cF.1 h
    by_cases hk:p.1=k
    · rw[aL hk] at e;left;rw[←e,hk]
    · rw[aB hk] at e;right;rw[←e];exact⟨hp,hk⟩
  · rename_i hne
    rcases cU.1 h with h|h
    · right
      refine⟨h,fun e=>hne (oG.2 ⟨q,h,by simpa using e⟩)⟩
    · left;exact gv.1 h
theorem HE:(h_ ks k v).map (·.1)=if ks.any (fun p=>decide (p.1=k)) then ks.map (·.1) else ks.map (·.1)++[k]:=by
  unfold h_
  split
  · rw[jr]
    apply uy
    intro p _
    simp only[Function.comp_apply]
    split<;>rfl
  · simp
theorem O8:∀{x:List (Int×α)},fJ x→(b7 x k a).map (·.1)=if x.any (fun p=>decide (p.1=k)) then x.map (·.1) else (b7 x k a).map (·.1)
  |x,hs=>by
   split
   · rename_i h
     induction x with
     |nil=>simp at h
     |cons p x ih=>
      obtain⟨h1,h2⟩:=jE.1 hs
      rw[b7]
      repeat' split
      · rename_i hlt
        rw[e_,e_]
        rw[wP] at h
        have:decide (p.1=k)=false:=fU (by omega)
        rw[this,qA] at h
        rw[ih h2 h]
      · rename_i _ e
        simp[e]
      · rename_i n1 n2
        exfalso
        rw[wP] at h
        have:decide (p.1=k)=false:=fU (by omega)
        rw[this,qA] at h
        obtain⟨q,hq,e⟩:=oG.1 h
        have:=h1 q hq
        simp only[cB] at e
        omega
   · rfl
theorem CC:∀{x:List (Int×α)},(∀p∈x,p.1≠k)→(b7 x k a).Perm ((k,a)::x)
  |[],_=>gj _
  |p::x,h=>by
   rw[b7]
   repeat' split
   · exact((CC fun q hq=>h q (by simp[hq])).cons p).trans (List.Perm.swap _ _ _)
   · rename_i e;exact absurd e (h p (by simp))
   · exact gj _
theorem eS.mI (H:eS R ks x) (hv:R a v):eS R (h_ ks k v) (b7 x k a):=by
  have hs:=xq (k:=k) (a:=a) H.1
  have hm:(∃p∈ks,p.1=k)↔∃p∈x,p.1=k:=by
    have:=H.2.2.1.mem_iff (a:=k)
    simpa using this
  refine⟨hs,?_,?_,fun j u b h1 h2=>?_⟩
  · rw[HE]
    split
    · exact H.2.1
    · rename_i hne
      rw[mF]
      refine⟨H.2.1,by simp,fun y hy z hz e=>?_⟩
      rw[gv.1 hz] at e
      obtain⟨p,hp,e2⟩:=cF.1 hy
      exact hne (oG.2 ⟨p,hp,by rw[e2,e];simp⟩)
  · rw[HE]
    by_cases hk:∃p∈ks,p.1=k
    · obtain⟨p,hp,e⟩:=hk
      rw[aL (oG.2 ⟨p,hp,by simpa using e⟩),O8 H.1]
      obtain⟨q,hq,e2⟩:=hm.1 ⟨p,hp,e⟩
      rw[aL (oG.2 ⟨q,hq,by simpa using e2⟩)]
      exact H.2.2.1
    · rw[aB (by simp only[oG,cB];exact hk)]
      have hx:∀p∈x,p.1≠k:=fun p hp e=>hk (hm.2 ⟨p,hp,e⟩)
      refine List.Perm.trans ?_ ((CC (a:=a) hx).map (·.1)).symm
      exact List.perm_append_comm.trans (H.2.2.1.cons k)
  · have hf:=(ki hs).2 h2
    rw[u_] at hf
    rcases O7 H.2.1 h1 with e|⟨h1,hne⟩
    · obtain⟨rfl,rfl⟩:=Prod.mk.inj e
      rw[aL rfl] at hf
      rw[←fT hf];exact hv
    · rw[aB (fun e=>hne e.symm)] at hf
      exact H.2.2.2 j u b h1 ((ki H.1).1 hf)
theorem eS.nQ (H:eS R ks x) (k:Int):eS R (jF ks k) (fh x k):=by
  refine⟨O5 H.1 k,s_ (List.filter_sublist.map _) H.2.1,?_,fun j u b h1 h2=>H.2.2.2 j u b (iH.1 h1).1 (iH.1 h2).1⟩
  have e1:(jF ks k).map (·.1)=(ks.map (·.1)).filter fun j=>!decide (j=k):=by unfold jF;rw[qC];rfl
  have e2:(fh x k).map (·.1)=(x.map (·.1)).filter fun j=>!decide (j=k):=by unfold fh;rw[qC];rfl
  rw[e1,e2]
  exact H.2.2.1.filter _
end
def nR {α:Type} (R:GH→α→Value→Prop) (g:GH) (b:Nat) (x:List (Int×α)) (c:au):Prop:=∃es aP ks,c=[(b,.map es aP)]∧cC encI es aP ks∧eS (R g) ks x
def pQ {α:Type} (R:GH→α→Value→Prop) (g:GH) (b:Nat) (x:List (Int×α)):Prop:=∃es aP ks,g b=some (.map es aP)∧cC encI es aP ks∧eS (R g) ks x
section
variable {α:Type} {R:GH→α→Value→Prop} {g g':GH} {b:Nat} {x y:List (Int×α)} {c:au}
theorem nR.mono (hm:∀a v,R g a v→R g' a v) (H:nR R g b x c):nR R g' b x c:=by
  obtain⟨es,aP,ks,h1,h2,h3⟩:=H
  exact⟨es,aP,ks,h1,h2,h3.mono hm⟩
theorem pQ.mono (hg:aG g g') (hm:∀a v,R g a v→R g' a v) (H:pQ R g b x):pQ R g' b x:=by
  obtain⟨es,aP,ks,h1,h2,h3⟩:=H
  exact⟨es,aP,ks,hg _ _ h1,h2,h3.mono hm⟩
theorem nR.fK {h0:av} {g0:GH} {S0:Nat→Prop} {L:List au} {h:av} {C:au} (hm:∀a v,R g a v→R (cQ g C) a v) (H:nR R g b x c) (s:St h0 g0 S0 g (C::L) h) (hc:∀p∈c,p∈C):pQ R (cQ g C) b x:=by
  obtain⟨es,aP,ks,rfl,h2,h3⟩:=H
  exact⟨es,aP,ks,nJ s.oC (hc _ (.head _)),h2,h3.mono hm⟩
end
open Go Go.Sort Go.Proofs
def pR (_:GH) (x:Int) (a:Array Value):Prop:=a=#[.int .i64 x]
def dR (u:List Int):List Int:=u.mergeSort fun x y=>decide (x≤y)
theorem lD (u:List Int):(dR u).length=u.length:=by simp[dR]
theorem HF {l u:List Int} (h:l.Perm u):dR l=dR u:=by
  have tr:∀a b c:Int,decide (a≤b)=true→decide (b≤c)=true→decide (a≤c)=true:=fun a b c h1 h2=>by simp only[cB] at *;omega
  have tot:∀a b:Int,(decide (a≤b)||decide (b≤a))=true:=fun a b=>by simp only[ie,cB];omega
  refine yT (le:=fun a b=>decide (a≤b)=true) (fun a b _ _ h1 h2=>?_) (uE tr tot l) (uE tr tot u) (((uF l _).trans h).trans (uF u _).symm)
  simp only[cB] at h1 h2
  omega
theorem CD {l:List Int} (h:l.Pairwise fun a b=>a<b):dR l=l:=by
  have tr:∀a b c:Int,decide (a≤b)=true→decide (b≤c)=true→decide (a≤c)=true:=fun a b c h1 h2=>by simp only[cB] at *;omega
  have tot:∀a b:Int,(decide (a≤b)||decide (b≤a))=true:=fun a b=>by simp only[ie,cB];omega
  refine yT (le:=fun a b=>decide (a≤b)=true) (fun a b _ _ h1 h2=>?_) (uE tr tot l) (h.imp fun hl=>?_) (uF l _)
  · simp only[cB] at h1 h2
    omega
  · simp only[cB]
    omega
theorem O9 {l u:List Int} (h:l.Perm u) (hs:u.Pairwise fun a b=>a<b):dR l=u:=(HF h).trans (CD hs)
theorem HG {g:GH}:∀{xs:List Int} {cs:List Value},Reads (eF .i64) g xs cs→cs=xs.map encI
  |[],cs,h=>by simpa[Reads] using h
  |x::xs,cs,⟨c,cs',e,hk,hr⟩=>by
   have hk:c=[.int .i64 x]:=hk
   have:=HG hr
   subst hk this
   rw[e]
   rfl
theorem HH (g:GH):∀xs:List Int,Reads (eF .i64) g xs (xs.map encI)
  |[]=>Reads.nil
  |x::xs=>⟨[.int .i64 x],xs.map encI,rfl,rfl,HH g xs⟩
theorem O_ (cur:Array Value) (o:Nat) (ts:List Int) (h:o+ts.length≤cur.size):putCells encI o ts.toArray cur=splice cur o (ts.map encI):=by
  apply BH
  intro k
  have hc:cur.toList.length=cur.size:=qn
  unfold putCells splice
  rw[FR]
  simp only[eu,qv]
  rw[wR,b_,dD,eu,wR,dD,hc,jB (by omega)]
  by_cases h1:k<o
  · rw[aL (by omega),aL h1,yU h1,q5]
    cases cur[k]? with
    |none=>rfl
    |some x=>simp;omega
  · by_cases h2:k<o+ts.length
    · rw[aL (by omega),aB h1,jM]
      have hk:k<cur.size:=by omega
      have hj:k-o<ts.length:=by omega
      rw[yS hk,kE hj]
      simp only[j3]
      rw[aL ⟨by omega,by simpa using h2⟩]
      simp[hj]
    · rw[aB (by omega),s9,q5,show o+ts.length+(k-(o+ts.length))=k from by omega]
      cases cur[k]? with
      |none=>rfl
      |some x=>simp;omega
theorem HJ (B:World) (h:av) (g:GH) (hg:bf g h) (v:Value) (u:List Int) (c:au) (hr:aF 3 (eF .i64) g v u c) (hl:u.length≤1000000000) (hs:St h g (aM [c]) g [c] h):
    aA prog B 81 #[v] h g [c] fun G g' L'=>G=.tuple #[]∧g'=g∧∃c',aF 3 (eF .i64) g v (dR u) c'∧L'=[c']:=by
  rcases hr with ⟨ao,rfl,rfl,rfl⟩|⟨b,o,cap,cur,rest,rfl,rfl,h1,h2,h3,h4⟩
  · intro w is
    exact(slices_Sort_int_none ao 0 w).mono fun e w' ⟨he,hw⟩=>⟨.tuple #[],he,hw▸is.again,g,[[]],by rw[hw,is.heap];exact hs,rfl,rfl,[],.inl ⟨ao,rfl,by simp[dR],rfl⟩,rfl⟩
  · intro w is
    have hb:=hs.ag 0 (b:=b) rfl
    have D:w.heap[b]?=some (.cells cur 3 (0,0)):=by rw[is.heap];exact hb
    have hz:(eF .i64).sz=1:=rfl
    rw[hz,nI] at h3 h4
    have I:=HG h4
    have hcell:∀j,j<u.length→cur[o+j]?=some (encI u[j]!):=by
      intro j hj
      have e:(cut cur o cap)[j]?=some (encI u[j]!):=by
        rw[I,jM,FT hj]
        simp[hj]
      unfold cut at e
      rw[yU (by omega),s9,q5] at e
      exact e
    have hH:Holds (Value.int .i64) w b o u.toArray:=by
      intro j hj
      have hj:j<u.length:=by simpa using hj
      refine⟨?_,by simp[World.frozen?,D]⟩
      simp only[World.cell?,D]
      simp only[Option.isSome_none,fZ,de]
      rw[hcell j hj]
      simp[hj]
      rfl
    have hlt:b<w.heap.size:=(lK.1 D).1
    refine(slices_Sort_int b o cap u w hH hlt (by omega)).mono fun e w' ⟨he,n,os,hw⟩=>⟨.tuple #[],he,?_,?_⟩
    · subst hw
      exact⟨rfl,is.os,is.tape,is.output⟩
    · have hu:iP h b (.cells (putCells encI o (dR u).toArray cur) 3 (0,0)) (h.modify b (onCells (putCells encI o (dR u).toArray))):=iP.modify (onCells (putCells encI o (dR u).toArray)) hb
      have s1:=(hs.uv 0 (b:=b) rfl hu).grow os
      have hh:w'.heap=h.modify b (onCells (putCells encI o (dR u).toArray))++os:=by
        rw[hw,←is.heap]
        rfl
      rw[hh]
      have hts:o+(dR u).length≤cur.size:=by rw[lD];omega
      have hput:putAt u 0 (dR u)=dR u:=by
        unfold putAt
        rw[uB,dY,qu,mH (by rw[lD];omega),dh]
      have hrow:=aF.yH (T:=3) (d:=(eF .i64)) (b:=b) (o:=o) (cap:=cap) (xs:=u) h1 h2 (by rw[hz,nI];exact h3) (by rw[hz,nI];exact h4) 0 (ys:=dR u) (news:=(dR u).map encI) (by rw[lD];omega) (HH g _)
      rw[hput,yV,m_,lD,←O_ cur o _ hts] at hrow
      exact⟨g,_,s1,rfl,rfl,_,hrow,rfl⟩
abbrev fm:=List (Int×cM)
def gh (s:cM):Bool:=decide (0≤s.Client)&&(decide (s.Client<8)&&(decide (1≤s.aJ)&&(decide (s.aJ≤1000000)&&(decide (0≤s.cA)&&decide (s.cA<1099511627776)))))
theorem xu {s:cM} (h:gh s=true):(0≤s.Client∧s.Client<8)∧(1≤s.aJ∧s.aJ≤1000000)∧0≤s.cA∧s.cA<1099511627776:=by
  unfold gh at h
  simp only[bO,cB] at h
  omega
def gJ (x:fm):Prop:=fJ x∧∀p∈x,p.1=p.2.Client∧gh p.2=true
def jV (x:fm) (c dO bZ:Int):Int:=if gh ⟨c,dO,bZ⟩=false then 120 else if (bW x c).isSome then 101 else 0
def mM (x:fm) (c dO bZ:Int):fm:=if jV x c dO bZ=0 then b7 x c ⟨c,dO,bZ⟩ else x
def touchE (x:fm) (c bZ:Int):Int:=if (bW x c).isSome=false∨bZ<0∨bZ≥1099511627776 then 120 else 0
def touchB (x:fm) (c bZ:Int):fm:=match bW x c with
  |none=>x
  |some s=>if bZ<0∨bZ≥1099511627776 then x else b7 x c ⟨s.Client,s.aJ,max s.cA bZ⟩
def jl (bQ:cM→Bool) (x:fm):List Int:=(x.filter fun p=>bQ p.2).map (·.1)
def kM (bQ:cM→Bool) (x:fm):fm:=x.filter fun p=>!bQ p.2
def jH (bZ:Int) (s:cM):Bool:=decide (s.cA+s.aJ≤bZ)
def pS (cs:List Int) (s:cM):Bool:=cs.any fun z=>decide (s.Client=z)
def me (list:List cM) (i:Int):Prop:=(∀s∈list.take i.toNat,gh s=true)∧(list.take i.toNat).Pairwise fun a b=>a.Client<b.Client
def nv (list:List cM):Prop:=(∀s∈list,gh s=true)∧list.Pairwise fun a b=>a.Client<b.Client
instance (list:List cM):Decidable (nv list):=by unfold nv;infer_instance
def nS (list:List cM):fm:=list.map fun s=>(s.Client,s)
section
variable {x:fm} {c dO bZ:Int} {list:List cM} {i:Int} {s:cM}
theorem gJ.nil:gJ []:=⟨List.Pairwise.nil,fun p hp=>by cases hp⟩
theorem gJ.len (H:gJ x):x.length≤8:=by
  obtain⟨h1,h2⟩:=H
  have key:∀(x:fm) (n:Nat),x.Pairwise (fun a b=>a.1<b.1)→(∀p∈x,(n:Int)≤p.1∧p.1<8)→n≤8→x.length+n≤8:=by
    intro x
    induction x with
    |nil=>intro n _ _ h;simpa using h
    |cons p x ih=>
     intro n hs hb h8
     obtain⟨g1,g2⟩:=jE.1 hs
     have hp:=hb p (by simp)
     have:=ih (p.1.toNat+1) g2 (fun q hq=>by have:=g1 q hq;have:=hb q (by simp[hq]);omega) (by omega)
     rw[bL]
     omega
  have:=key x 0 h1 (fun p hp=>by have:=xu (h2 p hp).2;have:=(h2 p hp).1;omega) (by omega)
  omega
theorem gJ.put (H:gJ x) (hs:gh s=true):gJ (b7 x s.Client s):=by
  refine⟨xq H.1,fun p hp=>?_⟩
  rcases rO hp with rfl|hp
  · exact⟨rfl,hs⟩
  · exact H.2 p hp
theorem gJ.find (H:gJ x) (h:bW x c=some s):s.Client=c∧gh s=true:=by
  have:=H.2 _ ((ki H.1).1 h)
  exact⟨this.1.symm,this.2⟩
theorem gJ.kK (H:gJ x):gJ (mM x c dO bZ):=by
  unfold mM
  split
  · rename_i h
    refine H.put (s:=⟨c,dO,bZ⟩) ?_
    unfold jV at h
    split at h
    · simp at h
    · rename_i hr;simpa using hr
  · exact H
theorem gJ.touch (H:gJ x):gJ (touchB x c bZ):=by
  unfold touchB
  split
  · exact H
  · rename_i s hf
    split
    · exact H
    · rename_i hn
      obtain⟨rfl,hr⟩:=H.find hf
      have:=xu hr
      refine H.put (s:=⟨s.Client,s.aJ,max s.cA bZ⟩) ?_
      unfold gh
      simp only[bO,cB]
      omega
theorem gJ.left (H:gJ x) (bQ:cM→Bool):gJ (kM bQ x):=
  ⟨s7 oJ H.1,fun p hp=>H.2 p (iH.1 hp).1⟩
theorem Pa (list:List cM):me list 0:=⟨fun s h=>by simp at h,by simp⟩
theorem HK (H:me list i) (h0:0≤i) (hs:list[i.toNat]?=some s) (hr:gh s=true) (hp:∀p,0<i→list[(i-1).toNat]?=some p→p.Client<s.Client):me list (i+1):=by
  unfold me at *
  rw[toNat_succ h0,fu hs]
  refine⟨fun q hq=>?_,?_⟩
  · rcases cU.1 hq with hq|hq
    · exact H.1 q hq
    · rw[gv.1 hq];exact hr
  · rw[qF]
    refine⟨H.2,by simp,fun a ha b hb=>?_⟩
    rw[gv.1 hb]
    obtain⟨j,hj⟩:=nh.1 ha
    rw[o7] at hj
    split at hj
    · rename_i hlt
      have G:=(dL.1 hs).1
      obtain⟨p,hp1⟩:∃p,list[(i-1).toNat]?=some p:=⟨_,kE (by omega)⟩
      have hps:=hp p (by omega) hp1
      by_cases he:j=(i-1).toNat
      · subst he;rw[hj] at hp1;rw[fT hp1];exact hps
      · have u:=H.2
        rw[oB] at u
        have l1:j<(list.take i.toNat).length:=by rw[dD];omega
        have D:(i-1).toNat<(list.take i.toNat).length:=by rw[dD];omega
        have:=u j (i-1).toNat l1 D (by omega)
        rw[uZ,uZ] at this
        have e1:=(dL.1 hj).2
        have e2:=(dL.1 hp1).2
        rw[e1,e2] at this
        omega
    · cases hj
theorem HL (H:me list i) (h:¬i<(list.length:Int)):nv list:=by
  unfold me at H
  rw[eR (by omega)] at H
  exact H
theorem HM (hs:list[i.toNat]?=some s) (h:gh s=false):¬nv list:=fun H=>by
  rw[H.1 s (cL hs)] at h;cases h
theorem HN {p:cM} (h0:0<i) (hs:list[i.toNat]?=some s) (hp:list[(i-1).toNat]?=some p) (h:p.Client≥s.Client):¬nv list:=fun H=>by
  have u:=H.2
  rw[oB] at u
  obtain⟨l1,e1⟩:=dL.1 hp
  obtain⟨D,e2⟩:=dL.1 hs
  have:=u _ _ l1 D (by omega)
  rw[e1,e2] at this
  omega
theorem zI {α:Type} {k:Int} {a:α}:∀{x:List (Int×α)},(∀p∈x,p.1<k)→b7 x k a=x++[(k,a)]
  |[],_=>rfl
  |p::x,h=>by
   rw[b7,aL (h p (by simp)),zI fun q hq=>h q (by simp[hq])]
   rfl
theorem Pb (H:me list (i+1)) (h0:0≤i) (hs:list[i.toNat]?=some s):b7 (nS (list.take i.toNat)) s.Client s=nS (list.take (i+1).toNat):=by
  have h2:=H.2
  rw[toNat_succ h0,fu hs] at h2 ⊢
  rw[qF] at h2
  unfold nS
  rw[zI,gp]
  · rfl
  · intro p hp
    obtain⟨q,hq,rfl⟩:=cF.1 hp
    exact h2.2.2 q hq s (by simp)
end
def jI (rs:List (Int×Value)) (k:Int):Bool:=rs.any fun q=>decide (q.1=k)
theorem rP {rs:List (Int×Value)} {k:Int}:jI rs k=true↔∃p∈rs,p.1=k:=by unfold jI;simp
def mN (x0:fm) (bQ:cM→Bool) (x1:fm) (rs gl:List (Int×Value)) (o:List Int):Prop:=
  (∀p∈rs,p∈gl)∧(rs.map (·.1)).Nodup∧x1=x0.filter (fun p=>jI rs p.1||!bQ p.2)∧o.Perm ((x0.filter fun p=>!jI rs p.1&&bQ p.2).map (·.1))
theorem HO {α:Type} {f f':Int×α→Bool} {k:Int} {s:α}:∀{l:List (Int×α)},fJ l→(k,s)∈l→(∀p∈l,p.1≠k→f' p=f p)→f (k,s)=false→f' (k,s)=true→(l.filter f').Perm (l.filter f++[(k,s)])
  |[],_,h,_,_,_=>by cases h
  |q::l,hs,hm,hf,h0,h1=>by
   obtain⟨g1,g2⟩:=jE.1 hs
   rw[ju,ju]
   rcases fe.1 hm with rfl|hm
   · rw[aL h1,aB (by rw[h0];simp)]
     have:l.filter f'=l.filter f:=wQ fun p hp=>hf p (by simp[hp]) (by have:=g1 p hp;simp only at this;omega)
     rw[this]
     exact Ct (l₁:=[(k,s)])
   · have hq:q.1≠k:=by have:=g1 _ hm;simp only at this;omega
     have ih:=HO g2 hm (fun p hp=>hf p (by simp[hp])) h0 h1
     rw[hf q (by simp) hq]
     split
     · exact ih.cons q
     · exact ih
section
variable {x0 x1:fm} {bQ:cM→Bool} {rs gl a b:List (Int×Value)} {o:List Int} {k:Int} {v:Value} {s:cM} {R:cM→Value→Prop}
theorem Pc (hK:eS R gl x0):mN x0 bQ x0 gl gl []:=by
  have hm:∀p∈x0,jI gl p.1=true:=fun p hp=>by
    have:=hK.2.2.1.mem_iff.2 (cF.2 ⟨p,hp,rfl⟩)
    obtain⟨q,hq,e⟩:=cF.1 this
    exact rP.2 ⟨q,hq,e⟩
  refine⟨fun p hp=>hp,hK.2.1,?_,?_⟩
  · rw[eq_comm,oH]
    intro p hp
    rw[hm p hp];rfl
  · have:(x0.filter fun p=>!jI gl p.1&&bQ p.2)=[]:=by
      rw[G3]
      intro p hp
      rw[hm p hp];simp
    rw[this]
    exact gj _
theorem mN.mem (H:mN x0 bQ x1 rs gl o) (e:rs=a++(k,v)::b):(k,v)∈gl:=H.1 _ (by rw[e];simp)
theorem mN.CE (H:mN x0 bQ x1 rs gl o) (hs:fJ x0) (hf:bW x1 k=some s):(k,s)∈x0:=by
  have h1:fJ x1:=by rw[H.2.2.1];exact s7 oJ hs
  have:=(ki h1).1 hf
  rw[H.2.2.1] at this
  exact(iH.1 this).1
theorem pT {k j:Int} (e:rs=a++(k,v)::b) (hn:(rs.map (·.1)).Nodup):jI (a++b) j=(jI rs j&&!decide (j=k)):=by
  subst e
  rw[gp,e_] at hn
  have h1:=List.perm_middle.nodup_iff.1 hn
  rw[←gp] at h1
  have hk:=(pH.1 h1).1
  rw[oI,bO,rP,rP]
  simp only[gZ,jP]
  constructor
  · rintro⟨p,hp,rfl⟩
    refine⟨⟨p,?_,rfl⟩,fun e=>hk (e▸cF.2 ⟨p,hp,rfl⟩)⟩
    rcases cU.1 hp with hp|hp<;>simp[hp]
  · rintro⟨⟨p,hp,rfl⟩,hne⟩
    refine⟨p,?_,rfl⟩
    rcases cU.1 hp with hp|hp
    · simp[hp]
    · rcases fe.1 hp with rfl|hp
      · exact absurd rfl hne
      · simp[hp]
theorem mN.jd (H:mN x0 bQ x1 rs gl o) (hs:fJ x0) (e:rs=a++(k,v)::b) (hf:bW x1 k=some s) (hr:bQ s=false):mN x0 bQ x1 (a++b) gl o:=by
  have h0:=H.CE hs hf
  have u:∀p∈x0,p.1=k→p.2=s:=fun p hp e=>by
    have h1:=(ki hs).2 (show(k,p.2)∈x0 by rw[←e];exact hp)
    rw[(ki hs).2 h0] at h1
    exact(fT h1).symm
  obtain⟨h1,h2,h3,h4⟩:=H
  have D:∀p∈a++b,p∈rs:=fun p hp=>by rw[e];rcases cU.1 hp with hp|hp<;>simp[hp]
  refine⟨fun p hp=>h1 p (D p hp),?_,?_,?_⟩
  · rw[e] at h2
    refine s_ (zu _ ?_) h2
    exact(zw a).append (zx _ _)
  · rw[h3]
    apply wQ
    intro p hp
    rw[pT e h2]
    by_cases hk:p.1=k
    · rw[u p hp hk,hr];simp
    · simp[hk]
  · refine h4.trans ?_
    have:(x0.filter fun p=>!jI rs p.1&&bQ p.2)=x0.filter fun p=>!jI (a++b) p.1&&bQ p.2:=by
      apply wQ
      intro p hp
      rw[pT e h2]
      by_cases hk:p.1=k
      · rw[u p hp hk,hr];simp
      · simp[hk]
    rw[this]
theorem mN.hit (H:mN x0 bQ x1 rs gl o) (hs:fJ x0) (e:rs=a++(k,v)::b) (hf:bW x1 k=some s) (hr:bQ s=true):mN x0 bQ (fh x1 k) (a++b) (jF gl k) (o++[k]):=by
  have h0:=H.CE hs hf
  have u:∀p∈x0,p.1=k→p.2=s:=fun p hp e=>by
    have h1:=(ki hs).2 (show(k,p.2)∈x0 by rw[←e];exact hp)
    rw[(ki hs).2 h0] at h1
    exact(fT h1).symm
  obtain⟨h1,h2,h3,h4⟩:=H
  have D:jI rs k=true:=rP.2 ⟨(k,v),by rw[e];simp,rfl⟩
  refine⟨fun p hp=>?_,?_,?_,?_⟩
  · unfold jF
    rw[iH]
    refine⟨h1 p (by rw[e];rcases cU.1 hp with hp|hp<;>simp[hp]),?_⟩
    have:jI (a++b) p.1=true:=rP.2 ⟨p,hp,rfl⟩
    rw[pT e h2] at this
    simp only[bO] at this
    exact this.2
  · rw[e] at h2
    refine s_ (zu _ ?_) h2
    exact(zw a).append (zx _ _)
  · rw[h3]
    unfold fh
    rw[List.filter_filter]
    apply wQ
    intro p hp
    rw[pT e h2]
    by_cases hk:p.1=k
    · rw[u p hp hk,hr];simp[hk]
    · simp[hk]
  · have hp:=(HO (f:=fun p=>!jI rs p.1&&bQ p.2) (f':=fun p=>!jI (a++b) p.1&&bQ p.2) hs h0 (fun p hp hk=>by simp only[pT e h2];simp[hk]) (by simp[D]) (by simp only[pT e h2];simp[hr])).map (·.1)
    rw[gp] at hp
    exact(h4.append_right _).trans hp.symm
theorem mN.iN (H:mN x0 bQ x1 rs gl o) (e:rs=[]):x1=kM bQ x0∧o.Perm (jl bQ x0):=by
  obtain⟨_,_,h3,h4⟩:=H
  subst e
  exact⟨by rw[h3];rfl,by simpa[jl,jI] using h4⟩
theorem Pd (hs:fJ x0):(jl bQ x0).Pairwise fun a b=>a<b:=by
  unfold jl
  rw[pJ]
  exact s7 oJ hs
end
section
variable {x:fm} {c dO bZ k:Int} {s:cM} {list:List cM} {out:List cM} {i:Int}
theorem HP (h:gh ⟨c,dO,bZ⟩=false):jV x c dO bZ=120∧mM x c dO bZ=x:=by
  have:jV x c dO bZ=120:=by unfold jV;rw[aL h]
  unfold mM
  rw[this];exact⟨rfl,rfl⟩
theorem HQ (h:gh ⟨c,dO,bZ⟩=true) (h2:(bW x c).isSome=true):jV x c dO bZ=101∧mM x c dO bZ=x:=by
  have:jV x c dO bZ=101:=by unfold jV;rw[h,aB (by simp),aL h2]
  unfold mM
  rw[this];exact⟨rfl,rfl⟩
theorem HR (h:gh ⟨c,dO,bZ⟩=true) (h2:(bW x c).isSome=false):jV x c dO bZ=0∧mM x c dO bZ=b7 x c ⟨c,dO,bZ⟩:=by
  have:jV x c dO bZ=0:=by unfold jV;rw[h,aB (by simp),aB (by simp[h2])]
  unfold mM
  rw[this];exact⟨rfl,rfl⟩
theorem touch_1 (h:bW x c=none):touchE x c bZ=120∧touchB x c bZ=x:=by unfold touchE touchB;rw[h];exact⟨aL (.inl rfl),rfl⟩
theorem touch_2 (h:bW x c=some s) (h2:bZ<0∨bZ≥1099511627776):touchE x c bZ=120∧touchB x c bZ=x:=by unfold touchE touchB;rw[h];exact⟨aL (.inr h2),aL h2⟩
theorem touch_3 (h:bW x c=some s) (h1:¬bZ<0) (h2:¬bZ≥1099511627776):touchE x c bZ=0∧touchB x c bZ=b7 x c ⟨s.Client,s.aJ,max s.cA bZ⟩:=by
  unfold touchE touchB
  rw[h]
  exact⟨aB (by rintro(h|h|h);simp at h;exact h1 h;exact h2 h),aB (by rintro(h|h);exact h1 h;exact h2 h)⟩
theorem Pe (h:bW x c=some s):true=(bW x c).isSome:=by rw[h];rfl
theorem Pf (h:bW x c=none):false=(bW x c).isSome:=by rw[h];rfl
theorem Pg (hs:fJ x):dR (x.map (·.1))=x.map (·.1):=CD (by rw[pJ];exact hs)
theorem HS (hs:fJ x) (hx:(dR (x.map (·.1)))[i.toNat]?=some k):∃s,x[i.toNat]?=some (k,s)∧bW x k=some s:=by
  rw[Pg hs,jM] at hx
  cases h:x[i.toNat]? with
  |none=>rw[h] at hx;cases hx
  |some p=>
   rw[h] at hx
   obtain⟨D,u⟩:=p
   simp only[j3,eN] at hx
   subst hx
   exact⟨u,rfl,(ki hs).2 (cL h)⟩
theorem Ph (hs:fJ x) (hx:(dR (x.map (·.1)))[i.toNat]?=some k) (hf:bW x k=none):False:=by
  obtain⟨s,_,h⟩:=HS hs hx
  rw[hf] at h;cases h
theorem Pj (hs:fJ x) (h0:0≤i) (hx:(dR (x.map (·.1)))[i.toNat]?=some k) (hf:bW x k=some s) (ho:out=(x.map (·.2)).take i.toNat):out++[s]=(x.map (·.2)).take (i+1).toNat:=by
  obtain⟨u,h1,h2⟩:=HS hs hx
  rw[hf] at h2
  obtain rfl:=fT h2
  rw[toNat_succ h0,fu (x:=s) (by rw[jM,h1];rfl),ho]
theorem Pk (h:¬i<((dR (x.map (·.1))).length:Int)) (ho:out=(x.map (·.2)).take i.toNat):out=x.map (·.2):=by
  rw[lD,eu] at h
  rw[ho,eR (by rw[eu];omega)]
def mO (list:List cM):Bool:=decide (nv list)
def nw (x:fm) (list:List cM):fm:=if mO list then nS list else x
theorem HT (h:¬nv list):mO list=false∧nw x list=x:=by
  have:mO list=false:=fU h
  unfold nw;rw[this];exact⟨rfl,rfl⟩
theorem HU (h:nv list):mO list=true∧nw x list=nS list:=by
  have:mO list=true:=eW h
  unfold nw;rw[this];exact⟨rfl,rfl⟩
theorem HV (h:¬nv list):false=mO list:=(HT (x:=[]) h).1.symm
theorem HW (h:¬nv list):x=nw x list:=(HT h).2.symm
theorem Pm (h:nv list):true=mO list:=(HU (x:=[]) h).1.symm
theorem Pn {z:fm} (h:me list i) (hi:¬i<(list.length:Int)) (hz:z=nS (list.take i.toNat)):z=nw x list:=by
  rw[(HU (HL h hi)).2,hz,eR (by omega)]
theorem HX {z:fm} (H:me list i) (u:me list (i+1)) (h0:0≤i) (hs:list[i.toNat]?=some s) (hz:z=nS (list.take i.toNat)):b7 z s.Client s=nS (list.take (i+1).toNat):=by rw[hz];exact Pb u h0 hs
theorem zJ (H:me list i) (h0:0≤i) (hs:list[i.toNat]?=some s) (hr:gh s=true) (hn:¬i>0):me list (i+1):=HK H h0 hs hr fun p hp=>by omega
theorem zL {p:cM} (H:me list i) (h0:0≤i) (hs:list[i.toNat]?=some s) (hr:gh s=true) (hp:list[(i-1).toNat]?=some p) (hc:¬p.Client≥s.Client):me list (i+1):=HK H h0 hs hr fun q _ hq=>by
  rw[hp] at hq
  obtain rfl:=fT hq
  omega
end
set_option linter.unusedSectionVars false
open Go Go.MapKept
def kj (es:Array MapEntry) (sb:Array Nat):Array MapEntry:=es.filter fun e=>!sb.contains e.born
def jw {κ:Type} (enc:κ→Value) (es:Array MapEntry) (aP m:Nat) (rs:List (κ×Value)) (cur:Option (κ×Value)) (o:Obj):Prop:=
  ∃sb,o=.mapIter (some m) aP sb aP∧(kj es sb).toList.map (fun e=>(e.key,e.val))=rs.map (fun p=>(enc p.1,p.2))∧∀p,cur=some p→∃y∈es.toList,y.key=enc p.1∧y.val=p.2∧sb.back?=some y.born
section
variable {κ:Type} {enc:κ→Value} {es:Array MapEntry} {aP m:Nat} {rs ks:List (κ×Value)} {cur:Option (κ×Value)} {o:Obj}
theorem jw.start (hR:cC enc es aP ks):jw enc es aP m ks none (.mapIter (some m) aP #[] aP):=by
  refine⟨#[],rfl,?_,fun p h=>by cases h⟩
  have:kj es #[]=es:=by unfold kj;rw[BD];intro x _;simp
  rw[this];exact hR.1
theorem lz.toD (H:lz enc es aP m [] ks o) (hR:cC enc es aP ks):jw enc es aP m ks none o:=by
  obtain⟨u,rest,rfl,_,h2,_⟩:=H
  obtain rfl:u=[]:=by simpa using h2
  exact jw.start hR
theorem jw.xw (H:jw enc es aP m rs cur o):jw enc es aP m rs none o:=by
  obtain⟨sb,h1,h2,_⟩:=H
  exact⟨sb,h1,h2,fun p h=>by cases h⟩
theorem HY {P:Program} {w:World} {it ty:Nat} (hst:Stamped es aP) (hI:jw enc es aP m rs cur o) (hb:w.heap[m]?=some (.map es aP)) (hit:w.heap[it]?=some o):
    (rs=[]∧∃w',(Instr.next (.pointer (some ⟨it,0,none⟩)) false ty).run P w=.ok (.tuple #[.bool false]) w'∧w'.heap=w.heap∧w'.os=w.os∧w'.tape=w.tape∧w'.output=w.output)∨
    (∃a k v b o' w',rs=a++(k,v)::b∧(Instr.next (.pointer (some ⟨it,0,none⟩)) false ty).run P w=.ok (.tuple #[.bool true,enc k,v]) w'∧w'.heap=w.heap.setIfInBounds it o'∧w'.os=w.os∧w'.tape=w.tape∧w'.output=w.output∧
      jw enc es aP m (a++b) (some (k,v)) o'):=by
  obtain⟨sb,rfl,hr,_⟩:=hI
  obtain⟨hlt,X,_⟩:=hst
  have I:∀n:Nat,1≤n→∃fS w',(choose (.mapNext n)).run P w=.ok fS w'∧fS<n∧w'.heap=w.heap∧w'.os=w.os∧w'.tape=w.tape∧w'.output=w.output:=by
    intro n hn
    rw[run_choose_drew]
    by_cases h1:n≤1
    · exact⟨0,w,by simp[Question.forced,h1],by omega,rfl,rfl,rfl,rfl⟩
    · exact⟨w.tape w.drawn (.mapNext n) % n,w.drew,by simp[Question.forced,h1,Question.cut],uj _ (by omega),rfl,rfl,rfl,rfl⟩
  have J:∀x∈kj es sb,x.born<aP:=fun x hx=>hlt x (by unfold kj at hx;rw[Array.mem_filter] at hx;simpa using hx.1)
  have hl:es.filter (fun e=>!sb.contains e.born)=kj es sb:=rfl
  have hold:(kj es sb).filter (fun e=>decide (e.born<aP))=kj es sb:=by
    rw[BD];exact fun x hx=>by simpa using J x hx
  have hnew:(kj es sb).filter (fun e=>decide (e.born≥aP))=#[]:=by
    rw[FL];exact fun x hx=>by have:=J x hx;simp;omega
  have O:(!sb.isEmpty&&!es.isEmpty&&es.all fun e=>decide (e.born≥aP))=false:=by
    cases he:es.isEmpty with
    |true=>simp
    |false=>
     have hne:es≠#[]:=by intro h;subst h;simp at he
     have u:0<es.size:=yR.2 hne
     have:es.all (fun e=>decide (e.born≥aP))=false:=by
       rw[Array.all_eq_false]
       exact⟨0,u,by have:=hlt es[0] (by simp);simp;omega⟩
     simp[this]
  generalize hlf:kj es sb=left at *
  have hg:(getObj it).run P w=.ok (.mapIter (some m) aP sb aP) w:=by simp[getObj,Sem.run,hit]
  by_cases D:left=#[]
  · subst D
    have G:rs=[]:=by cases rs with
      |nil=>rfl
      |cons p rs=>simp at hr
    refine .inl ⟨G,?_⟩
    obtain⟨fS,w',hc,hi,hw⟩:=I 1 (iO _)
    have Y:fS=0:=by omega
    subst Y
    refine⟨w',?_,hw⟩
    unfold Instr.next
    simp only[Sem.run_bind,hg,Result.andThen_ok,MapKept.run_getObj_map hb,O,fZ,de,Sem.run_pure,hl,hold,hnew]
    have hcs:((if (#[]:Array MapEntry).isEmpty=true then (#[none]:Array (Option MapEntry)) else #[])++((#[]:Array MapEntry)++#[]).map some)=#[none]:=by simp
    simp only[hcs]
    rw[show(#[none]:Array (Option MapEntry)).size=1 from rfl,hc]
    rfl
  · have u:0<left.size:=yR.2 D
    obtain⟨fS,w',hc,hi,hw⟩:=I left.size u
    have hsplit:left.toList=left.toList.take fS++left[fS]::left.toList.drop (fS+1):=by
      have hi2:fS<left.toList.length:=by simpa using hi
      have:=mJ fS left.toList
      rw[uo hi2] at this
      simpa using this.symm
    obtain⟨Z,p,b',G,h1,h2,h3⟩:=BM hr hsplit
    simp only[iB] at h2
    have hy:left[fS]∈es.toList:=by
      have:left[fS]∈kj es sb:=by rw[hlf];exact Array.getElem_mem hi
      unfold kj at this
      rw[Array.mem_filter] at this
      simpa using this.1
    refine .inr ⟨Z,p.1,p.2,b',.mapIter (some m) aP (sb.push left[fS].born) aP,{w' with heap:=w'.heap.setIfInBounds it (.mapIter (some m) aP (sb.push left[fS].born) aP)},G,?_,by simp[hw.1],hw.2.1,hw.2.2.1,hw.2.2.2,?_⟩
    · unfold Instr.next
      have ab:w'.heap[it]?=some (.mapIter (some m) aP sb aP):=by rw[hw.1];exact hit
      have hem:left.isEmpty=false:=by simpa using D
      have hs:(setObj it (.mapIter (some m) aP (sb.push left[fS].born) aP)).run P w'=.ok () {w' with heap:=w'.heap.setIfInBounds it (.mapIter (some m) aP (sb.push left[fS].born) aP)}:=by simp[setObj,Sem.run,ab]
      simp only[Sem.run_bind,hg,Result.andThen_ok,MapKept.run_getObj_map hb,O,fZ,de,Sem.run_pure,hl,hold,hnew,hem]
      have hcs:((#[]:Array (Option MapEntry))++(left++#[]).map some)=left.map some:=by simp
      simp only[hcs,BE,hc,Result.andThen_ok,Array.getElem?_map,yS hi,j3,Sem.run_bind,hs,Sem.run_pure]
      rw[h2.1,h2.2]
    · refine⟨sb.push left[fS].born,rfl,?_,fun q hq=>?_⟩
      · have e:(kj es (sb.push left[fS].born)).toList=left.toList.take fS++left.toList.drop (fS+1):=by
          have e1:∀n,kj es (sb.push n)=left.filter fun x=>!(x.born==n):=by
            intro n
            rw[←hlf]
            unfold kj
            rw[Array.filter_filter]
            congr 1
            funext x
            rw[Array.contains_push]
            cases sb.contains x.born<;>cases(x.born==n)<;>rfl
          rw[e1,wN]
          conv=>lhs;rw[hsplit]
          rw[nK,ju]
          have U:(left.toList.map (·.born)).Nodup:=by
            rw[←hlf]
            unfold kj
            rw[wN]
            exact s_ (List.filter_sublist.map _) X
          rw[hsplit,gp,e_] at U
          have V:=mF.1 U
          have ad:=pH.1 V.2.1
          rw[aB (by simp)]
          congr 1
          · rw[oH]
            intro x hx
            simp only[gZ,qB,ne_eq]
            exact V.2.2 _ (cF.2 ⟨x,hx,rfl⟩) _ (by simp)
          · rw[oH]
            intro x hx
            simp only[gZ,qB,ne_eq]
            intro e
            exact ad.1 (e▸cF.2 ⟨x,hx,rfl⟩)
        rw[e,gp,gp,h1,h3]
      · obtain rfl:=fT hq
        exact⟨_,hy,h2.1,h2.2,by simp⟩
end
section
variable {C:fC} {ds:List Deferred} {i j:Nat} {r:av} {M:Nat→Prop} {Ls:List (Nat×Bool)} {e:Env} {h:av}
variable {h0:av} {g0:GH} {S0:Nat→Prop} {g:GH} {L:List au}
variable {κ:Type} [DecidableEq κ] {d:TypeDesc} {z:Value} {enc:κ→Value} {es:Array MapEntry} {aP m mt:Nat} {ks:List (κ×Value)}
theorem Op.CF {dst:Nat} {x:Operand} {it:Nat} {o1:Obj} {rs:List (κ×Value)} {cur:Option (κ×Value)} (ho:c7 C i j e=some (some dst,.next x false)) (hx:e.ev x=.pointer (some ⟨it,0,none⟩)) (hb:h[m]?=some (.map es aP)) (hR:cC enc es aP ks) (hI:jw enc es aP m rs cur o1)
    (s:St h0 g0 S0 g L h) (n:Nat) (hL:L[n]?=some [(it,o1)]) (hM:it<r.size→M it)
    (K:(rs=[]→Op C ds i r M Ls ((dst,.tuple #[.bool false])::e) h)∧∀a k v b o2 h',rs=a++(k,v)::b→jw enc es aP m (a++b) (some (k,v)) o2→St h0 g0 S0 g (L.set n [(it,o2)]) h'→Op C ds i r M Ls ((dst,.tuple #[.bool true,enc k,v])::e) h'):Op C ds i r M ((j,false)::Ls) e h:=by
  obtain⟨o,h1,h2,h3⟩:=gw ho
  have hit:=s.ag n hL
  by_cases U:rs=[]
  · subst U
    refine Op.run h1 (R:=fun D h'=>D=.value (.tuple #[.bool false])∧h'=h) ?_ ?_
    · intro w is
      rcases HY (P:=C.P) (w:=w) (it:=it) (ty:=o.type) hR.2 hI (by rw[is.heap];exact hb) (by rw[is.heap];exact hit) with ⟨_,w',hrun,hw1,G,I,J⟩|⟨a,k,v,b,o',w',u,_⟩
      · refine⟨_,w',?_,⟨rfl,G.trans is.os,I.trans is.tape,J.trans is.output⟩,rfl,hw1.trans is.heap⟩
        unfold fc execOp
        simp only[h3,hx,Sem.run_bind,hrun,Result.andThen_ok,Sem.run_pure]
      · simp at u
    · rintro _ _ ⟨rfl,rfl⟩
      refine⟨_,rfl,fun hk=>hk,?_⟩
      rw[h2]
      exact K.1 rfl
  · refine Op.run h1 (R:=fun D h'=>∃a k v b o2,D=.value (.tuple #[.bool true,enc k,v])∧rs=a++(k,v)::b∧h'=h.setIfInBounds it o2∧jw enc es aP m (a++b) (some (k,v)) o2) ?_ ?_
    · intro w is
      rcases HY (P:=C.P) (w:=w) (it:=it) (ty:=o.type) hR.2 hI (by rw[is.heap];exact hb) (by rw[is.heap];exact hit) with ⟨h,_⟩|⟨a,k,v,b,o',w',u,hrun,hw1,G,I,J,O⟩
      · exact absurd h U
      · refine⟨_,w',?_,⟨rfl,G.trans is.os,I.trans is.tape,J.trans is.output⟩,a,k,v,b,o',rfl,u,by rw[hw1,is.heap],O⟩
        unfold fc execOp
        simp only[h3,hx,Sem.run_bind,hrun,Result.andThen_ok,Sem.run_pure]
    · rintro _ _ ⟨a,k,v,b,o2,rfl,u,rfl,O⟩
      refine⟨_,rfl,fun hk=>(iP.set o2 hit).jd hM hk,?_⟩
      rw[h2]
      exact K.2 a k v b o2 _ u O (s.lq n hL o2)
theorem Op.CG {dst:Nat} {x:Operand} {it:Nat} {o1:Obj} {rs:List (κ×Value)} {k:κ} {v:Value} (ho:c7 C i j e=some (some dst,.entry x)) (hx:e.ev x=.pointer (some ⟨it,0,none⟩)) (hb:h[m]?=some (.map es aP)) (hR:cC enc es aP ks) (hI:jw enc es aP m rs (some (k,v)) o1)
    (hit:h[it]?=some o1) (K:Op C ds i r M Ls ((dst,.tuple #[enc k,v])::e) h):Op C ds i r M ((j,false)::Ls) e h:=by
  obtain⟨o,h1,h2,h3⟩:=gw ho
  refine Op.run h1 (R:=fun G h'=>G=.value (.tuple #[enc k,v])∧h'=h) ?_ ?_
  · intro w is
    refine⟨_,w,?_,is.again,rfl,is.heap⟩
    obtain⟨sb,rfl,hr,hc⟩:=hI
    obtain⟨y,u,e3,I,J⟩:=hc (k,v) rfl
    have O:w.heap[m]?=some (.map es aP):=by rw[is.heap];exact hb
    have hfind:es.find? (fun x=>x.born==y.born)=some y:=by
      cases hf:es.find? (fun x=>x.born==y.born) with
      |none=>
       rw[FN] at hf
       have:=hf y (by simpa using u)
       simp at this
      |some z=>
       have h5:=Array.find?_some hf
       have h6:z∈es.toList:=by simpa using FO hf
       have h7:z.born=y.born:=by simpa using h5
       have U:=hR.2.2.1
       obtain⟨V,hi1⟩:=nh.1 h6
       obtain⟨i2,hi2⟩:=nh.1 u
       have D:(es.toList.map (·.born))[V]?=some y.born:=by rw[jM,hi1];simp[h7]
       have X:(es.toList.map (·.born))[i2]?=some y.born:=by rw[jM,hi2];rfl
       have hlt:=(dL.1 D).1
       have:=(BC hlt U).1 (D.trans X.symm)
       subst this
       rw[hi1] at hi2
       exact congrArg some (fT hi2)
    have hg:(getObj it).run C.P w=.ok (.mapIter (some m) aP sb aP) w:=by simp[getObj,Sem.run,is.heap,hit]
    unfold fc execOp
    have hrun:(Instr.entry (e.ev x)).run C.P w=.ok (.tuple #[enc k,v]) w:=by
      unfold Instr.entry
      simp only[hx,Sem.run_bind,hg,Result.andThen_ok,J,MapKept.run_getObj_map O,hfind,bne_self_eq_false,fZ,de,Sem.run_pure]
      rw[e3,I]
    simp only[h3,Sem.run_bind,hrun,Result.andThen_ok,Sem.run_pure]
  · rintro _ _ ⟨rfl,rfl⟩
    refine⟨_,rfl,fun hk=>hk,?_⟩
    rw[h2]
    exact K
end
theorem HZ {α:Type} {p:α→Bool}:∀{l:List α} {j:Nat} {y:α},l[j]?=some y→p y=false→(l.eraseIdx j).filter p=l.filter p
  |[],_,_,h,_=>by simp at h
  |x::l,0,y,h,hp=>by
   simp at h
   subst h
   rw[FJ,ju,aB (by simp[hp])]
  |x::l,j+1,y,h,hp=>by
   rw[FK,ju,ju,HZ (by simpa using h) hp]
section
variable {P:Program} {w:World} {κ:Type} [DecidableEq κ] {d:TypeDesc} {z:Value} {enc:κ→Value} {es:Array MapEntry} {aP m mt:Nat} {ks:List (κ×Value)}
theorem Po {wS:TypeId} {ty:TypeId} (hT:lu P mt=some (d,z)) (hK:kH d enc) (hR:cC enc es aP ks) (hb:w.heap[m]?=some (.map es aP)) (k:κ):
    ∃u,(Builtin.delete_ #[mt,wS] ty #[.map (some m),enc k]).run P w=.ok dr {w with heap:=w.heap.setIfInBounds m (.map u aP)}∧cC enc u aP (jF ks k)∧(u=es∨∃j y,es[j]?=some y∧y.key=enc k∧u=es.eraseIdxIfInBounds j):=by
  obtain⟨kt,et,D,hu,hd,hi,hz⟩:=uH hT
  rcases hR.find hK k with ⟨h1,h2,h3⟩|⟨j,e,h1,h2,h3,h4⟩
  · refine⟨es,?_,by rw[BK h3];exact hR,.inl rfl⟩
    simp[Builtin.delete_,run_underlying hu,MapKept.run_getObj_map hb,run_checkKey hd (hK.ok k),run_findKey hd h1,MapKept.run_setObj_map _ hb,Result.andThen]
  · refine⟨_,?_,hR.FV hK h2 h4,.inr ⟨j,e,h2,h3,rfl⟩⟩
    simp[Builtin.delete_,run_underlying hu,MapKept.run_getObj_map hb,run_checkKey hd (hK.ok k),run_findKey hd h1,MapKept.run_setObj_map _ hb,Result.andThen]
theorem jw.nQ {rs:List (κ×Value)} {k:κ} {v:Value} {o:Obj} {u:Array MapEntry} (hR:cC enc es aP ks) (H:jw enc es aP m rs (some (k,v)) o) (he:u=es∨∃j y,es[j]?=some y∧y.key=enc k∧u=es.eraseIdxIfInBounds j):jw enc u aP m rs none o:=by
  rcases he with rfl|⟨j,y,hj,hy,rfl⟩
  · exact H.xw
  · obtain⟨sb,rfl,hr,hc⟩:=H
    refine⟨sb,rfl,?_,fun p h=>by cases h⟩
    obtain⟨x,hx,e1,_,e3⟩:=hc (k,v) rfl
    have U:=(lK.1 hj).1
    have O:x=y:=by
      have D:=hR.2.2.2
      obtain⟨G,hi1⟩:=nh.1 hx
      have I:es.toList[j]?=some y:=by simpa using hj
      rw[List.Nodup,oB] at D
      obtain⟨l1,g1⟩:=dL.1 hi1
      obtain⟨J,g2⟩:=dL.1 I
      rcases Nat.lt_trichotomy G j with hlt|rfl|hlt
      · exfalso
        have:=D G j (by simpa using l1) (by simpa using J) hlt
        simp only[wI,g1,g2] at this
        exact this (e1.trans hy.symm)
      · rw[hi1] at I;exact fT I
      · exfalso
        have:=D j G (by simpa using J) (by simpa using l1) hlt
        simp only[wI,g1,g2] at this
        exact this (hy.trans e1.symm)
    subst O
    have hs:sb.contains x.born=true:=by
      rw[Array.contains_iff_mem]
      exact Array.mem_of_back? e3
    have e:(kj (es.eraseIdxIfInBounds j) sb).toList=(kj es sb).toList:=by
      unfold kj
      rw[wN,wN,Array.toList_eraseIdxIfInBounds]
      exact HZ (by simpa using hj) (by rw[hs];rfl)
    rw[e];exact hr
end
section
variable {C:fC} {ds:List Deferred} {i j:Nat} {r:av} {M:Nat→Prop} {Ls:List (Nat×Bool)} {e:Env} {h:av}
variable {h0:av} {g0:GH} {S0:Nat→Prop} {g:GH} {L:List au}
variable {κ:Type} [DecidableEq κ] {d:TypeDesc} {z:Value} {enc:κ→Value} {es:Array MapEntry} {aP m mt:Nat} {ks:List (κ×Value)}
theorem Op.Pp {dst:Option Tmp} {x ix:Operand} {kt:TypeId} {k:κ} {v:Value} {rs:List (κ×Value)} {o1:Obj} (ho:c7 C i j e=some (dst,.call {callee:=.builtin .delete,args:=#[x,ix],argTypes:=#[mt,kt]})) (hT:lu C.P mt=some (d,z)) (hK:kH d enc) (hx:e.ev x=.map (some m)) (G:e.ev ix=enc k)
    (s:St h0 g0 S0 g L h) (n:Nat) (hL:L[n]?=some [(m,.map es aP)]) (hR:cC enc es aP ks) (hI:jw enc es aP m rs (some (k,v)) o1) (hM:m<r.size→M m)
    (K:∀u h',cC enc u aP (jF ks k)→jw enc u aP m rs none o1→St h0 g0 S0 g (L.set n [(m,.map u aP)]) h'→Op C ds i r M Ls (e.gd dst dr) h'):Op C ds i r M ((j,false)::Ls) e h:=by
  obtain⟨o,h1,h2,h3⟩:=gw ho
  have hb:=s.ag n hL
  refine Op.run h1 (R:=fun I h'=>I=.value dr∧∃u,cC enc u aP (jF ks k)∧jw enc u aP m rs none o1∧h'=h.setIfInBounds m (.map u aP)) ?_ ?_
  · intro w is
    obtain⟨u,hrun,D,he⟩:=Po (P:=C.P) (w:=w) (wS:=kt) (ty:=o.type) hT hK hR (by rw[is.heap];exact hb) k
    refine⟨.value dr,_,?_,(is.lq m (.map u aP)).again,rfl,u,D,hI.nQ hR he,by simp[is.heap]⟩
    refine pF h3 (.inr (.inr (.inr (.inr (.inr (.inl rfl)))))) ?_
    simp only[pE,e_,l5,hx,G]
    exact hrun
  · rintro _ _ ⟨rfl,u,D,J,rfl⟩
    refine⟨_,rfl,fun hk=>(iP.set (.map u aP) hb).jd hM hk,?_⟩
    rw[h2]
    exact K u _ D J (s.lq n hL (.map u aP))
end
def oL (g:GH) (a:cM) (v:Value):Prop:=v=.agg #[.int .i64 a.Client,.int .i64 a.aJ,.int .i64 a.cA]
theorem oL.mono {g g':GH} {a:cM} {v:Value} (hg:aG g g') (h:oL g a v):oL g' a v:=h
def gP (g:GH) (b:Nat) (x:List (Int×cM)) (c:au):Prop:=nR oL g b x c
theorem gP.mono {g g':GH} {b:Nat} {x:List (Int×cM)} {c:au} (h:gP g b x c) (hg:aG g g'):gP g' b x c:=nR.mono (fun _ _=>oL.mono hg) h
theorem gP.aX {g g':GH} {b:Nat} {x:List (Int×cM)} {c:au} (h:gP g b x c):gP g' b x c:=nR.mono (fun _ _ h=>h) h
theorem gP.eq {g:GH} {b:Nat} {x y:List (Int×cM)} {c:au} (h:gP g b x c) (e:x=y):gP g b y c:=e▸h
def tq (g:GH) (b:Nat) (x:List (Int×cM)):Prop:=pQ oL g b x
theorem tq.mono {g g':GH} {b:Nat} {x:List (Int×cM)} (h:tq g b x) (hg:aG g g'):tq g' b x:=pQ.mono hg (fun _ _=>oL.mono hg) h
theorem gP.fK {h0:av} {g0:GH} {S0:Nat→Prop} {g:GH} {L:List au} {h:av} {C c:au} {b:Nat} {x:List (Int×cM)} (H:gP g b x c) (s:St h0 g0 S0 g (C::L) h) (hc:∀p∈c,p∈C):tq (cQ g C) b x:=nR.fK (fun _ _=>oL.mono s.gi) H s hc
def fN (g:GH) (b:Nat) (x:fm) (c:au):Prop:=∃b0 c0,c=(b,.cells #[.map (some b0)] 123 (0,0))::c0∧gP g b0 x c0
theorem fN.mono {g g':GH} {b:Nat} {x:fm} {c:au} (h:fN g b x c) (hg:aG g g'):fN g' b x c:=by
 obtain⟨b0,c0,e,h0⟩:=h
 exact⟨b0,c0,e,h0.mono hg⟩
theorem fN.eq {g:GH} {b:Nat} {x y:fm} {c:au} (h:fN g b x c) (e:x=y):fN g b y c:=e▸h
theorem fN.aX {g g':GH} {b:Nat} {x:fm} {c:au} (h:fN g b x c):fN g' b x c:=by
 obtain⟨b0,c0,e,h0⟩:=h
 exact⟨b0,c0,e,h0.aX⟩
def pU (g:GH) (b:Nat) (x:List Int) (c:au):Prop:=∃v0 c0,c=(b,.cells #[v0] 81 (0,0))::c0∧aF 3 (eF .i64) g v0 x c0
theorem pU.eq {g:GH} {b:Nat} {x y:List Int} {c:au} (h:pU g b x c) (e:x=y):pU g b y c:=e▸h
abbrev kN:Array Value:=#[vI 0,vI 0,vI 0]
abbrev xx:Value:=(.agg #[vI 0,vI 0,vI 0])
theorem Pq (g0:GH) (bd D:Nat) (x:List (Int×cM)) (J:g0 bd=some (.cells #[.map (some D)] 121 (0,0))) (ab:tq g0 D x):jD prog g0 118 #[vP bd] pR (fun b5=>b5.Perm (x.map (·.1))):=by
 intro B h g l I go c be hg a3 a4 b6 b8 hs
 replace J:=be _ _ J
 replace ab:=ab.mono be
 refine aA.aq func118 fun R hR=>At.rg 2<|Op.l1 121 1 4 0 (.map (some D)) (hs.sub _ _ J) ?_
 obtain⟨bi,bj,a5,G,ad,ae⟩:=ab
 have ab:tq g D x:=⟨bi,bj,a5,G,ad,ae⟩
 refine Op.rD (d:=.int .i64) (z:=.agg kN) (mt:=121) (x:=4) (dst:=5) (m:=D) (by kernel_rfl) (by kernel_rfl) (by kernel_rfl) (hs.sub _ _ G) ad hs fun O ca ci cb ce=>Op.gt 1 ?_
 have cf:∀(m:Nat) (am:GH) (U:aG g am) (vs:List (Int×Value)) (rs:List (Int×Value)) (c1:au) (o1:Obj) (a6:av) (hm:rs.length<m) (ar:go (vs.map (·.1))=true) (aw:qE go (vs.map (·.1))) (X:(vs++rs).Perm a5) (a7:I (vs.map (·.1)) am c1) (bk:lz encI bi bj D vs rs o1) (a0:St h g (aM [c]) am [[(O,o1)],c1] a6),At (bS prog B 118 f118 R) [] 1 [(0,.func (.yield l) #[] #[]),(5,vP O)] a6:=by
  intro m;induction m with
  |zero=>intros;omega
  |succ m ch=>
   intro am U vs rs c1 o1 a6 hm ar aw X a7 bk a0
   replace a3:=a3.mono U
   replace a4:=a4.mono U
   replace J:=U _ _ J
   replace G:=U _ _ G
   refine At.rg 2<|Op.wT (x:=5) (dst:=6) (it:=O) (m:=D) (by kernel_rfl) (by kernel_rfl) (a0.sub _ _ G) ad bk a0 0 rfl zt ⟨fun V=>?_,fun Y u a1 Z a8 ck V bm a9=>?_⟩
   ·exact Op.pg 2 [(7,vF)]<|At.dP 7 7<|At.rt dr<|hR a0.drop ⟨(vs.map (·.1)),vs.map (·.1),c1,rfl,by exact xl X V (ae.2.2.1),by exact rB _,by exact fun _=>rfl,by exact aw,rfl,a7⟩
   refine Op.pg 2 [(7,vT)]<|At.bX 7 3<|At.rg 3<|Op.wU (x:=5) (dst:=8) (it:=O) (m:=D) (vs:=vs) (k:=u) (v:=a1) (by kernel_rfl) (by kernel_rfl) (a9.sub _ _ G) ad bm (a9.ag 0 rfl)<|Op.pg 4 [(3,vI u)] ?_
   refine At.rp 4 2 [(10,.func (.yield l) #[] #[]),(11,vI u)] ?_
   have bo:=a9.fs [1] rfl
   refine Op.yield (dst:=some 12) (x:=10) (ops:=#[11]) (ts:=#[3]) (l:=l) (args:=#[vI u]) (Lc:=[c1]) (L:=[[(O,a8)]]) (by kernel_rfl) (by kernel_rfl) (by kernel_rfl) bo (a4 _ _ (vs.map (·.1)) u _ _ (by repeat (first|assumption|exact aG.refl _|apply aG.trans)) a3 (by exact ar) (by rfl) ⟨((vs++[(u,a1)])++(Y++Z)).map (·.1),by exact pO X V (ae.2.2.1),by exact⟨(Y++Z).map (·.1),by simp⟩⟩ a7 (St.part (Lc:=[c1]) (L:=[[(O,a8)]]) bo)) (fun _ _ _=>trivial) ?_
   rintro _ co _ c3 bs bt ⟨b3,rfl,rfl,b4⟩
   replace J:=bs _ _ J
   replace G:=bs _ _ G
   refine Op.pg 5 [(13,.bool (!(go (vs.map (·.1)++[u]))))]<|At.c_ (!(go (vs.map (·.1)++[u]))) 13 6 1 (fun bb=>?_) fun bc=>?_
   ·replace bb:=(dm bb)
    exact At.rt dr<|hR ((bt.fs [1] rfl).drop) ⟨((vs++[(u,a1)])++(Y++Z)).map (·.1),vs.map (·.1)++[u],b3,rfl,by exact pO X V (ae.2.2.1),by exact⟨(Y++Z).map (·.1),by simp⟩,by exact fun h=>absurd h (jc.1 bb),by exact nO aw ar,rfl,b4⟩
   replace bc:=(dn bc)
   exact At.ke (ch _ (aG.trans U (by repeat (first|assumption|apply aG.trans))) (vs++[(u,a1)]) (Y++Z) b3 a8 _ (by have hz:=congrArg List.length V;simp only[b_,bL] at hz ⊢;omega) (by simpa using bc) (by simpa using nO (x:=u) aw ar) (by exact rK X V) (by simpa using b4) bm (bt.fs [1] rfl))
 exact At.ke (cf _ _ (aG.refl _) [] a5 c ca _ (bK _) (by exact b6) (by exact uW go) (by exact gj _) (by exact b8) cb ce)
theorem Pr (B:World) (h:av) (g:GH) (hg:bf g h) (ab:bh g) (u:Nat) (x:List (Int×cM)) (G:tq g u x):
  aA prog B 79 #[.map (some u)] h g [] (fun V g' L'=>∃f0 I,V=.func (.func f0) #[] I∧ei prog f0∧jD prog g' f0 I pR (fun X=>X.Perm (x.map (·.1)))∧L'=[]):=by
 refine aA.aq func79 fun R hR=>At.rg 2<|Op.bx 1 121 0 #[.map (some u)] (St.init hg) fun D ad Y=>Op.pg 1 []<|At.go 2 2 [(2,.func (.func 118) #[] #[vP D])] ?_
 obtain⟨J,O⟩:=St.freeze (Y)
 have U:=iQ (g:=g) D (.cells #[.map (some u)] 121 (0,0))
 generalize Z:cQ g _=ae at J O U;clear Z
 replace G:=G.mono O
 exact At.rt (.func (.func 118) #[] #[vP D]) (hR J ⟨118,#[vP D],rfl,ei.of (by kernel_rfl),Pq _ D u x U G,rfl⟩)
theorem Pt (B:World) (h:av) (g:GH) (hg:bf g h) (b6:bh g) (V:Nat) (X:Array Value) (q:List Int) (b8:ei prog V) (ca:jD prog g V X pR (fun am=>am.Perm q)) (hq:q.length≤1000000000):
  aA prog B 119 #[vN,.func (.func V) #[] X] h g [] (fun cb g' L'=>∃a9 v0 bb,cb=v0∧a9.Perm q∧aF 3 (eF .i64) g' v0 a9 bb∧g'=g∧L'=[bb]):=by
 refine aA.aq func119 fun R hR=>At.rg 2<|Op.bx 2 81 0 #[vN] (St.init hg) fun D dv ce=>Op.pg 1 [(4,vN)]<|At.go 2 1 [(6,.func (.func V) #[] X)] ?_
 refine At.kp [(2,vP D),(4,vN),(6,.func (.func V) #[] X)] ?_
 have cf:=aF.zero 3 (eF .i64) g none
 refine At.rangeFunc (x:=6) (f:=V) (cp:=X) (by kernel_rfl) rfl (by kernel_rfl) (by kernel_rfl) b8 ce.nl fun u G J bc ch ci=>?_
 have ck:St h g (aM []) g [[(G,.loop (cW (dN 119 J (pt (cJ f119) 2) u) none))],[(D,Obj.cells #[vL none (([]:List Int).length) 0] 81 (0,0))],[],[(u,.deferred (some []))]] bc:=(ci.fs [1,2,3,3] rfl)
 have a3:St h g (aM []) g [(([(G,.loop (cW (dN 119 J (pt (cJ f119) 2) u) none))]:au)++([(D,Obj.cells #[vL none (([]:List Int).length) 0] 81 (0,0))]:au)++([]:au):au),[(u,.deferred (some []))]] bc:=St.aX (L:=[[(G,.loop (cW (dN 119 J (pt (cJ f119) 2) u) none))],[(D,Obj.cells #[vL none (([]:List Int).length) 0] 81 (0,0))],[],[(u,.deferred (some []))]]) (by simp only[cg,List.flatten_nil,cI,dM,dY,dh]) ck
 obtain⟨bd,ar⟩:∃I:List Int→GH→au→Prop,I=(fun xs g2 c2=>∃(out:List Int) (be:Option Addr) (bi:Nat) (bj:au),c2=(([(G,.loop (cW (dN 119 J (pt (cJ f119) 2) u) none))]:au)++([(D,Obj.cells #[.slice be out.length bi] 81 (0,0))]:au)++(bj:au):au)∧aF 3 (eF .i64) g2 (.slice be out.length bi) out bj∧out=xs):=⟨_,rfl⟩
 have co:ru prog B G pR (fun am=>am.Perm q) (fun _=>true) bd g:=by
  intro a4 aw dC O dE dT d0 d1 d2 c3 c4 bk c5
  rw[ar] at bk
  obtain⟨U,a0,a1,a5,rfl,c6,bm⟩:=bk
  obtain rfl:=c3
  have hlen:U.length+1≤q.length:=by(obtain⟨am,h1,h2⟩:=c4;have h3:=h2.length_le;have h4:=h1.length_eq;rw[bm];simp only[b_,bL,cS] at h3;omega)
  have bo:St a4 aw (aM [(([(G,.loop (cW (dN 119 J (pt (cJ f119) 2) u) none))]:au)++([(D,Obj.cells #[vL a0 U.length a1] 81 (0,0))]:au)++(a5:au):au)]) aw [[(G,.loop (cW (dN 119 J (pt (cJ f119) 2) u) none))],[(D,Obj.cells #[vL a0 U.length a1] 81 (0,0))],a5] a4:=St.aX (by simp only[cg,List.flatten_nil,cI,dM,dY,dh]) c5
  refine rq.ri (n:=f119.ntmps) (e0:=[(2,vP D),(4,vN),(6,.func (.func V) #[] X)]) (e:=[(7,vI O),(2,vP D),(4,vN),(6,.func (.func V) #[] X)]) (bo.ag 0 rfl) ch (by kernel_rfl) (by kernel_rfl) (by kernel_rfl) (by kernel_rfl) fun d3 c8=>At.go 1 1 [(5,vI O)]<|At.beginRound rfl (by kernel_rfl) bo 0 rfl 2 (by kernel_rfl) fun d4 bs=>At.rg 5<|Op.l1 81 2 8 0 (vL a0 U.length a1) (bs.ag 1 rfl) ?_
  refine Op.px 1 [(9,vI O)]<|Op.ls 10 1 3 #[vI O] bs fun d5 d6 bt=>Op.ap 8 10 81 81 11 3 8 (eF .i64) (ys:=[O]) c6 bt 3 (⟨_,_,rfl,rfl,Reads.nil⟩) (by(simp only[bL,cS];omega)) (fun _ _ _=>trivial) (di.lit (m:=1) (sz:=1) (bt.ag 0 rfl) (news:=[vI O]) rfl rfl (by simp[Value.oneCell']) _) fun d7 a6 d8 b3 c9 d9=>?_
  obtain⟨ad,ae,rfl⟩:=b3.ai
  refine Op.s1 81 2 11 0 (vL ad ((U++([O])).length) ae) 1 #[vL ad ((U++([O])).length) ae] ((c9).drop) zt fun ea da=>Op.gt 3<|At.wK (j:=none) (by kernel_rfl) da 0 rfl fun db dc=>?_
  have dd:St a4 aw (aM [(([(G,.loop (cW (dN 119 J (pt (cJ f119) 2) u) none))]:au)++([(D,Obj.cells #[vL a0 U.length a1] 81 (0,0))]:au)++(a5:au):au)]) aw [(([(G,.loop (cW (dN 119 J (pt (cJ f119) 2) u) none))]:au)++([(D,Obj.cells #[vL ad ((U++([O])).length) ae] 81 (0,0))]:au)++(a6:au):au)] db:=St.aX (L:=[[(G,.loop (cW (dN 119 J (pt (cJ f119) 2) u) none))],[(D,Obj.cells #[vL ad ((U++([O])).length) ae] 81 (0,0))],a6]) (by simp only[cg,List.flatten_nil,cI,dM,dY,dh]) dc
  refine c8 _ _ _ _ dd ⟨_,by rfl,rfl,?_⟩
  rw[ar];exact⟨(U++([O])),ad,ae,a6,rfl,b3,(by rw[bm])⟩
 refine sY.call (Lc:=[(([(G,.loop (cW (dN 119 J (pt (cJ f119) 2) u) none))]:au)++([(D,Obj.cells #[vL none (([]:List Int).length) 0] 81 (0,0))]:au)++([]:au):au)]) (L:=[[(u,.deferred (some []))]]) a3 (ca B _ _ _ bd (fun _=>true) _ (aG.refl _) a3.sub b6 co rfl (by rw[ar];exact⟨([]:List Int),none,0,[],rfl,cf,(by rfl)⟩) (St.part (Lc:=[(([(G,.loop (cW (dN 119 J (pt (cJ f119) 2) u) none))]:au)++([(D,Obj.cells #[vL none (([]:List Int).length) 0] 81 (0,0))]:au)++([]:au):au)]) (L:=[[(u,.deferred (some []))]]) a3)) ?_
 rintro _ df _ dg eb dj ⟨ed,ee,ef,rfl,eh,ej,dk,em,rfl,b4⟩
 have hx:=dk rfl;subst hx
 rw[ar] at b4
 obtain⟨Y,Z,ab,a7,rfl,a8,dl⟩:=b4
 have dp:St h g (aM []) df [[(G,.loop (cW (dN 119 J (pt (cJ f119) 2) u) none))],[(D,Obj.cells #[vL Z Y.length ab] 81 (0,0))],a7,[(u,.deferred (some []))]] dg:=St.aX (by simp only[cg,List.flatten_nil,cI,dM,dY,dh]) dj
 refine iG.wL (j:=none) dp 0 rfl fun en dq=>?_
 have b5:=dq.drop
 refine iG.br 3 (by kernel_rfl)<|At.rg 2<|Op.l1 81 2 12 0 (vL Z Y.length ab) (b5.ag 0 rfl)<|Op.pg 4 [(4,vL Z Y.length ab)]<|At.yQ (iG.BA (L:=[[(D,Obj.cells #[vL Z Y.length ab] 81 (0,0))],a7]) (f:=f119) (v:=vL Z Y.length ab) [u] (by kernel_rfl) (by kernel_rfl) (b5.fs [1,1,2] rfl) ?_)
 intro eo du
 replace a8:=a8.aX (fun _ _ _ _ h=>h) (g':=g)
 exact hR du.drop.ji ⟨Y,(vL Z Y.length ab),a7,rfl,(by rw[dl];assumption),a8,rfl,rfl⟩
theorem Pu (B:World) (h:av) (g:GH) (hg:bf g h) (Y:bh g) (u:Nat) (D:Array Value) (q:List Int) (Z:ei prog u) (ab:jD prog g u D pR (fun ad=>ad.Perm q)) (hq:q.length≤1000000000):
  aA prog B 80 #[.func (.func u) #[] D] h g [] (fun ae g' L'=>∃I v0 J,ae=v0∧I.Perm q∧aF 3 (eF .i64) g' v0 I J∧g'=g∧L'=[J]):=by
 refine aA.aq func80 fun R hR=>?_
 have O:=St.init hg
 refine At.go 1 1 []<|At.rp 3 1 [(3,.func (.func u) #[] D)]<|Op.c0 (some 4) (Pt _ _ _ O.sub Y u D q Z ab (by(try dsimp only)<;>assumption)) O ?_
 rintro _ am _ a1 ar aw ⟨G,a3,a0,rfl,a4,U,a5,rfl⟩;subst am;clear ar
 obtain⟨V,X,rfl⟩:=U.ai
 exact Op.pr 2 2 (vL V G.length X) (hR aw ⟨G,(vL V G.length X),a0,rfl,‹_›,U,rfl,rfl⟩)
theorem CI (B:World) (h:av) (g:GH) (hg:bf g h) (Z:bh g) (u:Nat) (G:Array Value) (q:List Int) (ab:ei prog u) (ad:jD prog g u G pR (fun ae=>ae.Perm q)) (hq:q.length≤1000000000):
  aA prog B 41 #[.func (.func u) #[] G] h g [] (fun am g' L'=>∃v0 U,am=v0∧aF 3 (eF .i64) g' v0 (dR q) U∧g'=g∧L'=[U]):=by
 refine aA.aq func41 fun R hR=>?_
 have V:=St.init hg
 refine At.go 1 1 []<|At.rp 3 1 [(4,.func (.func u) #[] G)]<|Op.c0 (some 5) (Pu _ _ _ V.sub Z u G q ab ad (by(try dsimp only)<;>assumption)) V ?_
 rintro _ ar _ a6 aw O ⟨D,a7,a8,rfl,X,Y,a9,rfl⟩;subst ar;clear aw
 obtain⟨I,J,rfl⟩:=Y.ai
 refine Op.pg 2 [(3,vL I D.length J)]<|At.rp 2 1 [(6,vL I D.length J)]<|Op.cl (some 7) 1 O (HJ _ _ _ O.sub _ D _ Y (by(have:=yX X;omega)) (St.pt 1 O)) ?_
 rintro _ a0 _ bb a1 a3 ⟨rfl,bc,a4,a5,rfl⟩;subst a0;clear a1
 exact Op.gt 3<|At.gr 4 2 2 (vL I D.length J) (hR a3 ⟨(vL I D.length J),a4,rfl,dZ a5 (by exact HF X),rfl,rfl⟩)
def gD (ks:List (aQ×Value)) (F:au) (ns:List af):Prop:=∃ms:List nN,ks=jS ms∧F.Perm (lR ms)∧GG ms∧(ms.map (·.l)).Perm ns∧fW ns∧∀n∈ns,n.aa.length≤64
theorem St.xy {h0:av} {g0:GH} {S0:Nat→Prop} {g g1:GH} {L:List au} {h:av} (s:St h0 g0 S0 g L h) (h1:aG g0 g1) (h2:aG g1 g):St h0 g0 S0 g1 L h:=
  ⟨s.size,s.frame,h1,fun b hb=>s.new b (by obtain⟨x,hx⟩:=EY.1 hb;rw[h2 _ _ hx];simp),fun b o hb=>s.sub b o (h2 _ _ hb),s.k9,s.nodup,
    fun p hp=>(by cases hg:g1 p.1 with
      |none=>rfl
      |some x=>have:=h2 _ _ hg;rw[s.sep p hp] at this;cases this),s.own⟩
section
variable {g:GH} {mb:Nat} {ns:List af} {c F:au} {es:Array MapEntry} {aP:Nat} {ks:List (aQ×Value)}
theorem gB.kK (h:gB g mb ns c):∃es aP ks F,c.Perm ((mb,.map es aP)::F)∧cC encS es aP ks∧gD ks F ns:=by
  obtain⟨es,aP,ms,hp,⟨h1,h2,h3,h4⟩,hr⟩:=h
  exact⟨es,aP,jS ms,lR ms,hp,h1,ms,rfl,gj _,hr,h2,h3,h4⟩
theorem gD.close (h:gD ks F ns) (hR:cC encS es aP ks) (hc:c.Perm ((mb,.map es aP)::F)):gB g mb ns c:=by
  obtain⟨ms,rfl,u,hr,h2,h3,h4⟩:=h
  exact⟨es,aP,ms,hc.trans (u.cons _),⟨hR,h2,h3,h4⟩,hr⟩
theorem gD.nil:gD [] [] []:=⟨[],rfl,gj _,fun m hm=>absurd hm (by simp),gj _,List.Pairwise.nil,fun n hn=>absurd hn (by simp)⟩
theorem gD.sort (h:gD ks F ns):fW ns:=by obtain⟨_,_,_,_,_,h3,_⟩:=h;exact h3
theorem gD.len (h:gD ks F ns):ks.length=ns.length:=by
  obtain⟨ms,rfl,_,_,h2,_⟩:=h
  have:=h2.length_eq
  simpa[jS] using this
theorem gD.gy (h:gD ks F ns) (p:aQ):(fH ks p).isSome=(bN ns p).isSome:=by
  obtain⟨ms,rfl,u,hr,h2,h3,h4⟩:=h
  have hn:(ms.map (·.l.aa)).Nodup:=by
    have:=(h2.map (·.aa)).nodup_iff.2 h3.nodup
    simpa[jr,Function.comp_def] using this
  rcases GI hn p with ⟨h5,h6⟩|⟨m,_,h5,h6⟩
  · rw[h6,←ze h2 h3.nodup,h5];rfl
  · rw[h6,←ze h2 h3.nodup,h5];rfl
theorem H6 (a b:List nN):lR (a++b)=lR a++lR b:=by simp[lR]
theorem CJ {a b:List nN} (h:a.Perm b):(lR a).Perm (lR b):=(h.map zm).flatten
theorem gD.zM (h:gD ks F ns) {l:af} {v:Value} {b:Nat} {u:au} (hf:bN ns l.aa=none) (hr:aF 5 bn g v l.Data u) (hl:l.aa.length≤64):
    gD (h_ ks l.aa (.pointer (some ⟨b,0,none⟩))) ((b,.cells (pN l v) TL (0,0))::u++F) (d_ ns l):=by
  obtain⟨ms,rfl,D,G,h2,h3,h4⟩:=h
  have hno:∀p∈jS ms,p.1≠l.aa:=by
    intro p hp
    obtain⟨m,hm,rfl⟩:=cF.1 hp
    exact oK.1 hf m.l (h2.mem_iff.1 (cF.2 ⟨m,hm,rfl⟩))
  have hd:fD ns l.aa=ns:=w_ hf
  have hw:(d_ ns l).Perm (l::ns):=by have:=pL ns l;rwa[hd] at this
  refine⟨ms++[⟨b,l,v,u⟩],?_,?_,?_,?_,w9 h3 l,?_⟩
  · unfold h_
    rw[aB (by
      rw[oG]
      rintro⟨p,hp,e⟩
      exact hno p hp (by simpa using e))]
    simp[jS]
  · rw[H6]
    have:lR [⟨b,l,v,u⟩]=(b,.cells (pN l v) TL (0,0))::u:=by simp[lR,zm]
    rw[this]
    exact(Ct).trans (D.append_right _)
  · intro m hm
    rcases cU.1 hm with hm|hm
    · exact G m hm
    · rw[gv] at hm
      subst hm
      exact hr.aX (fun _ _ _ _ h=>h)
  · rw[gp]
    exact((Ct).trans (h2.cons l)).trans hw.symm
  · intro n hn
    rcases fe.1 (hw.mem_iff.1 hn) with rfl|hn
    · exact hl
    · exact h4 n hn
theorem gD.nQ (h:gD ks F ns) (p:aQ):∃F' u,F.Perm (F'++u)∧gD (jF ks p) F' (fD ns p):=by
  obtain⟨ms,rfl,D,G,h2,h3,h4⟩:=h
  refine⟨lR (ms.filter fun m=>!decide (m.l.aa=p)),lR (ms.filter fun m=>!(!decide (m.l.aa=p))),?_,ms.filter fun m=>!decide (m.l.aa=p),?_,gj _,fun m hm=>G m (iH.1 hm).1,?_,B2 h3 p,fun n hn=>h4 n (iH.1 hn).1⟩
  · refine D.trans ?_
    rw[←H6]
    exact CJ (List.filter_append_perm _ _).symm
  · unfold jF jS
    rw[qC]
    rfl
  · have:=h2.filter fun n=>!decide (n.aa=p)
    rw[qC] at this
    exact this
theorem gD.br (h:gD ks F ns) {l:af} {b:Nat} (hR:cC encS es aP ks) (hf:bN ns l.aa=some l) (he:∃e∈es.toList,e.key=encS l.aa∧e.val=.pointer (some ⟨b,0,none⟩)):
    ∃v c1 F',F.Perm ((b,.cells (pN l v) TL (0,0))::c1++F')∧aF 5 bn g v l.Data c1∧
     ∀(u:af) (D:Value) (G:au),u.aa=l.aa→aF 5 bn g D u.Data G→gD ks ((b,.cells (pN u D) TL (0,0))::G++F') (d_ ns u):=by
  obtain⟨ms,rfl,V,O,h2,h3,h4⟩:=h
  have hn:(ms.map (·.l.aa)).Nodup:=by
    have:=(h2.map (·.aa)).nodup_iff.2 h3.nodup
    simpa[jr,Function.comp_def] using this
  obtain⟨e,X,Y,Z⟩:=he
  obtain⟨m,hm,ab,ad⟩:∃m∈ms,m.l=l∧m.b=b:=by
    have:(e.key,e.val)∈es.toList.map (fun e=>(e.key,e.val)):=cF.2 ⟨e,X,rfl⟩
    rw[hR.1] at this
    obtain⟨q,hq,eq⟩:=cF.1 this
    obtain⟨m,hm,rfl⟩:=cF.1 hq
    simp only[iB,Y,Z,Value.pointer.injEq,eN,Addr.mk.injEq] at eq
    have hp:m.l.aa=l.aa:=kI.inj _ _ eq.1
    have h6:bN (ms.map (·.l)) m.l.aa=some m.l:=rH (by simpa[jr,Function.comp_def] using hn) (cF.2 ⟨m,hm,rfl⟩)
    rw[ze h2 h3.nodup,hp,hf] at h6
    exact⟨m,hm,(fT h6).symm,eq.2.1⟩
  subst ab ad
  obtain⟨a,d,rfl⟩:=List.append_of_mem hm
  refine⟨m.v,m.c,lR (a++d),?_,(O m hm).aX (fun _ _ _ _ h=>h),?_⟩
  · refine V.trans ((CJ (Cu)).trans ?_)
    exact gj _
  · intro u D G hp ae
    refine⟨a++⟨m.b,u,D,G⟩::d,?_,?_,?_,?_,w9 h3 u,?_⟩
    · simp[jS,hp]
    · exact(CJ (Cu (a:=(⟨m.b,u,D,G⟩:nN)) (l₁:=a) (l₂:=d)).symm)
    · intro q hq
      rcases cU.1 hq with hq|hq
      · exact O q (by simp[hq])
      · rcases fe.1 hq with rfl|hq
        · exact ae.aX (fun _ _ _ _ h=>h)
        · exact O q (by simp[hq])
    · rw[gp,e_] at h2 ⊢
      have h7:(m.l::((a.map (·.l))++d.map (·.l))).Perm ns:=(List.perm_middle.symm).trans h2
      have h8:fD ns u.aa=fD ns m.l.aa:=by rw[hp]
      have h9:((a.map (·.l))++d.map (·.l)).Perm (fD ns m.l.aa):=by
        have J:=h7.filter fun n=>!decide (n.aa=m.l.aa)
        rw[ju] at J
        simp only[ry,ng,fZ,de] at J
        have h11:(((a.map (·.l))++d.map (·.l)).filter fun n=>!decide (n.aa=m.l.aa))=(a.map (·.l))++d.map (·.l):=by
          rw[oH]
          intro n I
          have U:((m.l::((a.map (·.l))++d.map (·.l))).map (fun n:af=>n.aa)).Nodup:=(h7.map (fun n:af=>n.aa)).nodup_iff.2 h3.nodup
          rw[e_] at U
          have:=(pH.1 U).1
          simp only[gZ,jP]
          exact fun e=>this (e▸cF.2 ⟨n,I,rfl⟩)
        rw[h11] at J
        exact J
      refine(Cu).trans (((h9.cons u).trans ?_))
      have:=(pL ns u).symm
      rwa[h8] at this
    · intro n I
      rcases fe.1 ((pL ns u).mem_iff.1 I) with rfl|I
      · rw[hp];exact h4 m.l (h2.mem_iff.1 (by simp))
      · exact h4 n (iH.1 I).1
theorem H7 {h0:av} {g0:GH} {S0:Nat→Prop} {L:List au} {h:av} {C:au} {u b0 D b:Nat} {l:af} {T:TypeId} (s:St h0 g0 S0 g (C::L) h) (h1:(u,Obj.cells #[.map (some b0)] T (0,0))∈C) (h2:(b0,Obj.map es aP)∈C)
    (h3:cQ g C u=some (.cells #[.map (some D)] T (0,0))) (h4:xk (cQ g C) D l b):∃e∈es.toList,e.key=encS l.aa∧e.val=.pointer (some ⟨b,0,none⟩):=by
  have h5:=nJ (g:=g) s.oC h1
  rw[h3] at h5
  simp only[eN,Obj.cells.injEq,and_true,Array.mk.injEq,uk,Value.map.injEq] at h5
  subst h5
  obtain⟨G,I,h6,h7⟩:=h4
  have h8:=nJ (g:=g) s.oC h2
  rw[h6] at h8
  simp only[eN,Obj.map.injEq] at h8
  obtain⟨rfl,_⟩:=h8
  exact h7
end
theorem Pv (B:World) (h:av) (g:GH) (hg:bf g h) (ad:bh g):
  aA prog B 25 #[] h g [] (fun I g' L'=>∃b0 G,I=vP b0∧fN g' b0 ([]:fm) G∧g'=g∧L'=[G]):=by
 refine aA.aq func25 fun R hR=>At.go 1 1 []<|At.rg 4<|Op.makeMap (mt:=121) (dst:=1) (by kernel_rfl) (St.init hg) fun u ae J=>?_
 have O:cC encI #[] 0 ([]:List (Int×Value)):=cC.empty _ _
 have U:eS (oL g) [] ([]:List (Int×cM)):=eS.nil
 refine Op.px 1 [(2,.agg #[.map (some u)])]<|Op.bx 3 123 2 #[.map (some u)] J fun D am V=>Op.pg 2 [(0,vP D)] ?_
 have X:gP g u ([]:List (Int×cM)) [(u,.map #[] 0)]:=⟨_,_,_,rfl,O,U⟩
 obtain⟨Y,Z,ab⟩:=St.bl (Q:=fN g D ([]:List (Int×cM))) 2 V ⟨_,_,rfl,X⟩
 exact At.rt (vP D) (hR ab ⟨D,Y,rfl,Z.eq (by rfl),rfl,rfl⟩)
theorem H8 (B:World) (h:av) (g:GH) (hg:bf g h) (I:bh g) (s:cM):
  aA prog B 77 #[.agg #[vI s.Client,vI s.aJ,vI s.cA]] h g [] (fun G g' L'=>G=.bool (gh s)∧g'=g∧L'=[]):=by
 refine aA.aq func77 fun R hR=>At.rg 2<|Op.bx 1 130 0 #[vI s.Client,vI s.aJ,vI s.cA] (St.init hg) fun D J u=>Op.pg 1 []<|At.rp 29 1 [(3,vP D)] ?_
 refine Op.l1 3 3 4 0 (vI s.Client) (u.ag 0 rfl)<|Op.px 2 [(6,.bool (decide (s.Client≥0)))]<|Op.wd (s.Client≥0) 6 (fun O=>?_) fun U=>?_
 ·refine Op.px 1 [(7,vP D)]<|Op.l1 3 7 8 0 (vI s.Client) (u.ag 0 rfl)<|Op.px 3 [(11,.bool (decide (s.Client<8)))]<|Op.wd (s.Client<8) 11 (fun V=>?_) fun X=>?_
  ·refine Op.px 1 [(12,vQ D 1)]<|Op.l1 3 12 13 1 (vI s.aJ) (u.ag 0 rfl)<|Op.px 3 [(16,.bool (decide (s.aJ≥1)))]<|Op.wd (s.aJ≥1) 16 (fun Y=>?_) fun Z=>?_
   ·refine Op.px 1 [(17,vQ D 1)]<|Op.l1 3 17 18 1 (vI s.aJ) (u.ag 0 rfl)<|Op.px 3 [(21,.bool (decide (s.aJ≤1000000)))]<|Op.wd (s.aJ≤1000000) 21 (fun ab=>?_) fun ad=>?_
    ·refine Op.px 1 [(22,vQ D 2)]<|Op.l1 3 22 23 2 (vI s.cA) (u.ag 0 rfl)<|Op.px 3 [(26,.bool (decide (s.cA≥0)))]<|Op.wd (s.cA≥0) 26 (fun ae=>?_) fun am=>?_
     ·exact Op.px 1 [(27,vQ D 2)]<|Op.l1 3 27 28 2 (vI s.cA) (u.ag 0 rfl)<|Op.pr 2 2 (.bool (decide (s.cA<1099511627776))) (hR u.drop ⟨(aS (by(simp[gh, *];done))),rfl,rfl⟩)
     exact Op.pr 2 2 vF (hR u.drop ⟨(aS (by(simp[gh, *];done))),rfl,rfl⟩)
    exact Op.pr 2 2 vF (hR u.drop ⟨(aS (by(simp[gh, *];done))),rfl,rfl⟩)
   exact Op.pr 2 2 vF (hR u.drop ⟨(aS (by(simp[gh, *];done))),rfl,rfl⟩)
  exact Op.pr 2 2 vF (hR u.drop ⟨(aS (by(simp[gh, *];done))),rfl,rfl⟩)
 exact Op.pr 2 2 vF (hR u.drop ⟨(aS (by(simp[gh, *];done))),rfl,rfl⟩)
theorem Pw (B:World) (h:av) (g:GH) (hg:bf g h) (be:bh g) (D:Nat) (b:fm) (I:au) (Z:fN g D b I) (client:Int) (hs:St h g (aM [I]) g [I] h):
  aA prog B 102 #[vP D,vI client] h g [I] (fun ab g' L'=>∃V,ab=.bool ((bW b client).isSome)∧fN g' D b V∧g'=g∧L'=[V]):=by
 refine aA.aq func102 fun R hR=>At.go 1 1 []<|At.rp 12 3 [(10,vP D)] ?_
 obtain⟨u,ad,ae,am⟩:=Z
 have G:=St.un [ad] ae hs
 refine Op.l1 121 10 11 0 (.map (some u)) (G.ag 0 rfl)<|Op.px 1 [(12,vI client)] ?_
 obtain⟨X,Y,bi,rfl,J,O⟩:=am
 rcases O.gy client with ⟨U,ar⟩|⟨bj,a31,U,ar,aw⟩
 ·refine Op.rE (ok:=true) (d:=.int .i64) (mt:=121) (x:=11) (ix:=12) (dst:=13) (k:=client) (m:=u) (z:=.agg kN) (by kernel_rfl) (by kernel_rfl) iu (by kernel_rfl) (by kernel_rfl) (G.ag 1 rfl) J U<|Op.px 3 [(14,.agg kN),(15,vF)]<|Op.al 5 130 kN G fun bk bm a0=>Op.sg 130 5 14 0 0 kN a0 zt fun bo a1=>Op.pg 2 [(6,vF)] ?_
  refine At.go 3 2 [(4,vF)] ?_
  have a3:gP g u b [(u,.map X Y)]:=⟨_,_,_,rfl,J,O⟩
  obtain⟨a4,a5,a6⟩:=St.bl (Q:=fN g D b) 2 (a1.fs [2,2] rfl) ⟨_,_,rfl,a3⟩
  exact At.rt vF<|hR (a6.fs [1] rfl).drop ⟨a4,(aS (by exact Pf ‹_›)),a5.eq (by rfl),rfl,rfl⟩
 obtain rfl:=aw
 refine Op.pK (ok:=true) (d:=.int .i64) (mt:=121) (x:=11) (ix:=12) (dst:=13) (k:=client) (m:=u) (v:=.agg #[vI a31.Client,vI a31.aJ,vI a31.cA]) (z:=.agg kN) (by kernel_rfl) (by kernel_rfl) iu (by kernel_rfl) (by kernel_rfl) (G.ag 1 rfl) J U<|Op.px 3 [(14,.agg #[vI a31.Client,vI a31.aJ,vI a31.cA]),(15,vT)]<|Op.al 5 130 kN G fun bs bt a7=>Op.sg 130 5 14 0 0 #[vI a31.Client,vI a31.aJ,vI a31.cA] a7 zt fun b3 a8=>Op.pg 2 [(6,vT)] ?_
 refine At.go 3 2 [(4,vT)] ?_
 have a9:gP g u b [(u,.map X Y)]:=⟨_,_,_,rfl,J,O⟩
 obtain⟨bb,bc,bd⟩:=St.bl (Q:=fN g D b) 2 (a8.fs [2,2] rfl) ⟨_,_,rfl,a9⟩
 exact At.rt vT<|hR (bd.fs [1] rfl).drop ⟨bb,(aS (by exact Pe ‹_›)),bc.eq (by rfl),rfl,rfl⟩
theorem Px (B:World) (h:av) (g:GH) (hg:bf g h) (U:bh g) (u:Nat) (b:fm) (D:au) (V:fN g u b D) (client:Int) (dO:Int) (bZ:Int) (hs:St h g (aM [D]) g [D] h):
  aA prog B 61 #[vP u,vI client,vI dO,vI bZ] h g [D] (fun am g' L'=>∃X,am=.int .i64 (jV b client dO bZ)∧fN g' u (mM b client dO bZ) X∧g'=g∧L'=[X]):=by
 refine aA.aq func61 fun R hR=>At.go 1 1 []<|At.rp 6 4 [(13,.agg #[vI client,vI dO,vI bZ])]<|Op.al 9 130 kN hs fun bm bo ar=>Op.sg 130 9 13 0 0 #[vI client,vI dO,vI bZ] ar zt fun bs G=>?_
 refine Op.gt 2<|At.rg 4<|Op.la 130 9 15 0 3 [vI client,vI dO,vI bZ] (G.ag 0 rfl)<|Op.c1 16 (H8 _ _ _ G.sub U (⟨client,dO,bZ⟩:cM)) G fun bt Y=>Op.pg 3 [(14,.bool (!(gh (⟨client,dO,bZ⟩:cM))))] ?_
 refine At.c_ (!(gh (⟨client,dO,bZ⟩:cM))) 14 4 6 (fun Z=>?_) fun ab=>?_
 ·replace Z:=(dm Z)
  exact At.gr 5 1 8 (vI 120) (hR Y.drop ⟨D,(bp (by exact(HP ‹_›).1.symm)),V.eq (by exact(HP ‹_›).2.symm),rfl,rfl⟩)
 replace ab:=(dn ab)
 refine At.rp 4 2 [(19,vP u),(20,vI client)] ?_
 have I:=Y.fs [1] rfl
 refine Op.cl (some 21) 1 I (Pw _ _ _ I.sub U u b _ V client (St.pt 1 I)) ?_
 rintro _ aw _ b3 a0 ad ⟨a1,rfl,ae,b4,rfl⟩;subst aw;clear a0
 refine Op.pg 7 [(18,.bool ((bW b client).isSome))]<|At.c_ ((bW b client).isSome) 18 8 10 (fun b5=>?_) fun b6=>?_
 ·exact At.go 5 1 [(8,vI 101)]<|At.rt (vI 101)<|hR (ad.fs [1] rfl).drop ⟨a1,(bp (by exact(HQ ‹_› ‹_›).1.symm)),ae.eq (by exact(HQ ‹_› ‹_›).2.symm),rfl,rfl⟩
 obtain⟨J,a3,a4,a5⟩:=ae
 have O:=St.un [a3] a4 ad
 refine At.dw (fun _=>False) [(0,true),(1,true),(2,true),(4,true),(3,true),(5,false),(1006,false),(6,false)]<|Op.px 4 [(24,vP u),(26,vI client)]<|Op.lf 121 24 0 25 1 (.map (some J)) id (O.ag 0 rfl)<|Op.la 130 9 27 0 3 [vI client,vI dO,vI bZ] (O.ag 2 rfl)<|Op.ba ?_
 obtain⟨b8,ca,cb,rfl,a6,a7⟩:=a5
 refine Op.ms xx 121 25 26 27 client (.agg #[vI client,vI dO,vI bZ]) O 1 a6 fun a8 a9 ce bb bc=>?_
 have bd:=eS.mI (k:=client) (a:=(⟨client,dO,bZ⟩:cM)) (v:=.agg #[vI client,vI dO,vI bZ]) a7 rfl
 refine Op.gt 11<|At.go 12 1 [(8,vI 0)] ?_
 have be:gP g J (b7 b client (⟨client,dO,bZ⟩:cM)) [(J,.map a8 a9)]:=⟨_,_,_,rfl,bb,bd⟩
 obtain⟨bi,bj,bk⟩:=St.bl (Q:=fN g u (b7 b client (⟨client,dO,bZ⟩:cM))) 2 bc ⟨_,_,rfl,be⟩
 exact At.rt (vI 0)<|hR (bk.fs [1] rfl).drop ⟨bi,(bp (by exact(HR ‹_› ‹_›).1.symm)),bj.eq (by exact(HR ‹_› ‹_›).2.symm),rfl,rfl⟩
theorem touchF (B:World) (h:av) (g:GH) (hg:bf g h) (ce:bh g) (D:Nat) (b:fm) (O:au) (ae:fN g D b O) (client:Int) (bZ:Int) (hs:St h g (aM [O]) g [O] h):
  aA prog B 62 #[vP D,vI client,vI bZ] h g [O] (fun am g' L'=>∃ab,am=.int .i64 (touchE b client bZ)∧fN g' D (touchB b client bZ) ab∧g'=g∧L'=[ab]):=by
 refine aA.aq func62 fun R hR=>At.go 1 1 []<|At.rp 12 3 [(12,vP D)] ?_
 obtain⟨u,ar,aw,a0⟩:=ae
 have I:=St.un [ar] aw hs
 refine Op.l1 121 12 13 0 (.map (some u)) (I.ag 0 rfl)<|Op.px 1 [(14,vI client)] ?_
 obtain⟨V,X,cf,rfl,G,J⟩:=a0
 rcases J.gy client with ⟨Y,a1⟩|⟨ch,a31,Y,a1,a3⟩
 ·refine Op.rE (ok:=true) (d:=.int .i64) (mt:=121) (x:=13) (ix:=14) (dst:=15) (k:=client) (m:=u) (z:=.agg kN) (by kernel_rfl) (by kernel_rfl) iu (by kernel_rfl) (by kernel_rfl) (I.ag 1 rfl) G Y<|Op.px 3 [(16,.agg kN),(17,vF)]<|Op.al 7 130 kN I fun ci ck a4=>Op.sg 130 7 16 0 0 kN a4 zt fun co a5=>Op.pg 2 [(8,vF)] ?_
  refine At.go 3 10 [(27,vT)]<|At.bX 27 4<|At.go 5 1 [(6,vI 120)] ?_
  have a6:gP g u b [(u,.map V X)]:=⟨_,_,_,rfl,G,J⟩
  obtain⟨a7,a8,a9⟩:=St.bl (Q:=fN g D b) 2 (a5.fs [2,2] rfl) ⟨_,_,rfl,a6⟩
  exact At.rt (vI 120)<|hR (a9.fs [1] rfl).drop ⟨a7,(bp (by exact(touch_1 ‹_›).1.symm)),a8.eq (by exact(touch_1 ‹_›).2.symm),rfl,rfl⟩
 obtain rfl:=a3
 refine Op.pK (ok:=true) (d:=.int .i64) (mt:=121) (x:=13) (ix:=14) (dst:=15) (k:=client) (m:=u) (v:=.agg #[vI a31.Client,vI a31.aJ,vI a31.cA]) (z:=.agg kN) (by kernel_rfl) (by kernel_rfl) iu (by kernel_rfl) (by kernel_rfl) (I.ag 1 rfl) G Y<|Op.px 3 [(16,.agg #[vI a31.Client,vI a31.aJ,vI a31.cA]),(17,vT)]<|Op.al 7 130 kN I fun ad c3 bb=>Op.sg 130 7 16 0 0 #[vI a31.Client,vI a31.aJ,vI a31.cA] bb zt fun c4 U=>Op.pg 2 [(8,vT)] ?_
 refine At.rp 10 7 [(24,.bool (decide (bZ<0)))]<|Op.wd (bZ<0) 24 (fun c5=>?_) fun c6=>?_
 ·refine Op.pg 3 [(27,vT)]<|At.bX 27 4<|At.go 5 1 [(6,vI 120)] ?_
  have bc:gP g u b [(u,.map V X)]:=⟨_,_,_,rfl,G,J⟩
  obtain⟨bd,be,bi⟩:=St.bl (Q:=fN g D b) 2 (U.fs [2,2] rfl) ⟨_,_,rfl,bc⟩
  exact At.rt (vI 120)<|hR (bi.fs [1] rfl).drop ⟨bd,(bp (by exact(touch_2 ‹_› (by omega)).1.symm)),be.eq (by exact(touch_2 ‹_› (by omega)).2.symm),rfl,rfl⟩
 refine Op.pg 3 [(27,.bool (decide (bZ≥1099511627776)))]<|At.fd (bZ≥1099511627776) 27 4 6 (fun c8=>?_) fun c9=>?_
 ·refine At.go 5 1 [(6,vI 120)] ?_
  have bj:gP g u b [(u,.map V X)]:=⟨_,_,_,rfl,G,J⟩
  obtain⟨bk,bm,bo⟩:=St.bl (Q:=fN g D b) 2 (U.fs [2,2] rfl) ⟨_,_,rfl,bj⟩
  exact At.rt (vI 120)<|hR (bo.fs [1] rfl).drop ⟨bk,(bp (by exact(touch_2 ‹_› (by omega)).1.symm)),bm.eq (by exact(touch_2 ‹_› (by omega)).2.symm),rfl,rfl⟩
 refine At.rp 6 1 [(28,vQ ad 2)]<|Op.l1 3 28 29 2 (vI a31.cA) (U.ag 0 rfl)<|Op.px 1 [(30,vI bZ)]<|Op.vl 31 (.int .i64 (if bZ>a31.cA then bZ else a31.cA)) (.int .i64 (max a31.cA bZ)) (uV _ _)<|Op.px 1 [(32,vQ ad 2)] ?_
 refine Op.s1 3 32 31 2 (vI (max a31.cA bZ)) 0 #[vI a31.Client,vI a31.aJ,vI (max a31.cA bZ)] U zt fun da Z=>Op.gt 7<|At.dw (fun _=>False) [(0,true),(1,true),(2,true),(4,true),(3,true),(5,false),(1006,false),(6,false)]<|Op.px 4 [(35,vP D),(37,vI client)]<|Op.lf 121 35 0 36 1 (.map (some u)) id (Z.ag 1 rfl) ?_
 refine Op.la 130 7 38 0 3 [vI a31.Client,vI a31.aJ,vI (max a31.cA bZ)] (Z.ag 0 rfl)<|Op.ba<|Op.ms xx 121 36 37 38 client (.agg #[vI a31.Client,vI a31.aJ,vI (max a31.cA bZ)]) Z 2 G fun bs bt db b3 b4=>?_
 have b5:=eS.mI (k:=client) (a:=(⟨a31.Client,a31.aJ,(max a31.cA bZ)⟩:cM)) (v:=.agg #[vI a31.Client,vI a31.aJ,vI (max a31.cA bZ)]) J rfl
 refine Op.gt 8<|At.go 9 1 [(6,vI 0)] ?_
 have b6:gP g u (b7 b client (⟨a31.Client,a31.aJ,(max a31.cA bZ)⟩:cM)) [(u,.map bs bt)]:=⟨_,_,_,rfl,b3,b5⟩
 obtain⟨b8,ca,cb⟩:=St.bl (Q:=fN g D (b7 b client (⟨a31.Client,a31.aJ,(max a31.cA bZ)⟩:cM))) 2 (b4.fs [2,2] rfl) ⟨_,_,rfl,b6⟩
 exact At.rt (vI 0)<|hR (cb.fs [1] rfl).drop ⟨b8,(bp (by exact(touch_3 ‹_› ‹_› ‹_›).1.symm)),ca.eq (by exact(touch_3 ‹_› ‹_› ‹_›).2.symm),rfl,rfl⟩
theorem Py (B:World) (h:av) (g:GH) (hg:bf g h) (am:bh g) (client:Int) (s:cM) (D:Nat) (G:Array Value) (bQ:cM→Bool) (ar:ei prog D) (aw:pI prog g D G (fun x:cM=>.agg #[.int .i64 x.Client,.int .i64 x.aJ,.int .i64 x.cA]) (fun s=>gh s=true) bQ) (O:Nat) (a0:g O=some (.cells #[.func (.func D) #[] G] 131 (0,0))) (I:Nat) (out:List Int) (u:au) (U:pU g I out u) (h1:out.length≤1000000) (hok:gh s=true) (hs:St h g (aM [u]) g [u] h):
  aA prog B 100 #[vI client,.agg #[vI s.Client,vI s.aJ,vI s.cA],vP O,vP I] h g [u] (fun a1 g' L'=>∃V,a1=.bool (bQ s)∧pU g' I (if bQ s=true then out++[client] else out) V∧g'=g∧L'=[V]):=by
 refine aA.aq func100 fun R hR=>At.rg 2<|Op.bx 5 130 1 #[vI s.Client,vI s.aJ,vI s.cA] hs fun a3 bj J=>Op.pg 1 []<|At.rg 4 ?_
 refine Op.l1 131 2 8 0 (.func (.func D) #[] G) (J.sub _ _ a0)<|Op.la 130 5 9 0 3 [vI s.Client,vI s.aJ,vI s.cA] (J.ag 0 rfl)<|Op.cv (some 10) 8 #[9] #[130] D #[] G [] [[(a3,Obj.cells #[vI s.Client,vI s.aJ,vI s.cA] 130 (0,0))],u] ((#[.agg #[vI s.Client,vI s.aJ,vI s.cA]]:Array Value)++G) ar (FD (by kernel_rfl)) J (aw _ _ _ (aG.refl _) J.sub am s (by(try dsimp only)<;>omega)) (fun _ _ h=>absurd h (gq _)) ?_
 rintro _ a4 _ bk a5 X ⟨rfl,bm,rfl⟩;subst a4;clear a5
 refine Op.pg 2 [(7,.bool (bQ s))]<|At.go 3 1 [(11,.bool (bQ s))]<|At.c_ (bQ s) 11 4 5 (fun bo=>?_) fun bs=>?_
 ·refine At.rg 5 ?_
  obtain⟨bt,a6,a7,Y⟩:=U
  obtain⟨a8,a9,rfl⟩:=Y.ai
  have Z:=St.un [a6] a7 (X.fs [1] rfl)
  refine Op.l1 81 3 12 0 (vL a8 out.length a9) (Z.ag 0 rfl)<|Op.px 1 [(13,vI client)]<|Op.ls 14 1 3 #[vI client] Z fun b3 b4 ab=>Op.ap 12 14 81 81 15 3 8 (eF .i64) (ys:=[client]) Y ab 2 (⟨_,_,rfl,rfl,Reads.nil⟩) (by(simp only[bL,cS];omega)) (fun _ _ _=>trivial) (di.lit (m:=1) (sz:=1) (ab.ag 0 rfl) (news:=[vI client]) rfl rfl (by simp[Value.oneCell']) _) fun b5 b6 b8 ad bb ca=>?_
  obtain⟨a46,ae,rfl⟩:=ad.ai
  refine Op.s1 81 3 15 0 (vL a46 ((out++([client])).length) ae) 0 #[vL a46 ((out++([client])).length) ae] ((bb).drop) zt fun cb bc=>Op.gt 5<|At.go 6 2 [(6,.bool (bQ s))] ?_
  obtain⟨bd,be,bi⟩:=St.bl (Q:=pU g I (out++([client]))) 2 bc ⟨_,_,rfl,ad⟩
  exact At.rt (.bool (bQ s))<|hR (bi.fs [1] rfl).drop ⟨bd,(aS (by rfl)),be.eq (by(rw[aL ‹_›];done)),rfl,rfl⟩
 exact At.gr 6 2 6 (.bool (bQ s)) (hR X.drop ⟨u,(aS (by rfl)),U.eq (by(rw[aB (jc.1 ‹_›)];done)),rfl,rfl⟩)
theorem Pz (B:World) (h:av) (g:GH) (hg:bf g h) (b8:bh g) (D:Nat) (mp:List (Int×cM)) (ad:au) (ca:gP g D mp ad) (a0:Nat) (a3:Array Value) (bQ:cM→Bool) (cb:ei prog a0) (ce:pI prog g a0 a3 (fun x:cM=>.agg #[.int .i64 x.Client,.int .i64 x.aJ,.int .i64 x.cA]) (fun s=>gh s=true) bQ) (V:Nat) (cf:g V=some (.cells #[.func (.func a0) #[] a3] 131 (0,0))) (I:Nat) (out:List Int) (ae:au) (ch:pU g I out ae) (hB:gJ mp) (h0:out=[]) (hs:St h g (aM [ad,ae]) g [ad,ae] h):
  aA prog B 99 #[.map (some D),.func (.func 100) #[] #[vP V,vP I]] h g [ad,ae] (fun ci g' L'=>∃be bi bj,ci=.tuple #[]∧gP g' D (kM bQ mp) be∧bi.Perm (jl bQ mp)∧pU g' I bi bj∧g'=g∧L'=[be,bj]):=by
 refine aA.aq func99 fun R hR=>At.rp 2 1 [(6,.map (some D))] ?_
 obtain⟨ck,Y,bk,co,a4,c3⟩:=ca
 have bm:=St.un [] co hs
 refine Op.rD (d:=.int .i64) (z:=.agg kN) (mt:=121) (x:=6) (dst:=7) (m:=D) (by kernel_rfl) (by kernel_rfl) (by kernel_rfl) (bm.ag 0 rfl) a4 bm fun am c4 dq a5 c5=>?_
 replace a5:=a5.toD a4
 refine Op.gt 1 ?_
 have c6:∀(m:Nat) (x1:fm) (o2:List Int) (J:Array MapEntry) (X:List (Int×Value)) (ar:List (Int×Value)) (a6:Obj) (aw:au) (a7:av) (hm:ar.length<m) (O:mN mp bQ x1 ar X o2) (a8:pU g I o2 aw) (Z:cC encI J Y X) (ab:eS (oL g) X x1) (bo:jw encI J Y D ar none a6) (a1:St h g (aM [ad,ae]) g [[(am,a6)],[(D,.map J Y)],aw] a7),At (bS prog B 99 f99 R) [] 1 [(0,.map (some D)),(1,.func (.func 100) #[] #[vP V,vP I]),(7,vP am)] a7:=by
  intro m;induction m with
  |zero=>intros;omega
  |succ m bs=>
   intro x1 o2 J X ar a6 aw a7 hm O a8 Z ab bo a1
   refine At.rg 2<|Op.CF (x:=7) (dst:=8) (it:=am) (m:=D) (by kernel_rfl) (by kernel_rfl) (a1.ag 1 rfl) Z bo a1 0 rfl zt ⟨fun U=>?_,fun bt G c8 b3 a9 du U bb bc=>?_⟩
   ·refine Op.pg 2 [(9,vF)]<|At.dP 9 7 ?_
    have c9:gP g D x1 [(D,.map J Y)]:=⟨_,_,_,rfl,Z,ab⟩
    exact At.rt dr (hR a1.drop ⟨([(D,.map J Y)]:au),o2,aw,rfl,c9.eq (by exact(O.iN U).1),(by exact(O.iN U).2),a8,rfl,rfl⟩)
   have da:(G,c8)∈X:=by exact O.mem U
   obtain⟨u,dv,rfl⟩:=ab.zH ((zG ab.2.1).2 da)
   refine Op.pg 2 [(9,vT)]<|At.bX 9 3<|At.rg 6<|Op.CG (x:=7) (dst:=10) (it:=am) (m:=D) (k:=G) (v:=.agg #[vI u.Client,vI u.aJ,vI u.cA]) (by kernel_rfl) (by kernel_rfl) (bc.ag 1 rfl) Z bb (bc.ag 0 rfl)<|Op.px 2 [(11,vI G),(12,.agg #[vI u.Client,vI u.aJ,vI u.cA])] ?_
   refine Op.al 5 130 kN bc fun db dC dc=>Op.px 1 [(4,vI G)]<|Op.sg 130 5 12 0 0 #[vI u.Client,vI u.aJ,vI u.cA] dc zt fun dE b4=>Op.gt 4<|At.rp 4 2 [(13,.func (.func 100) #[] #[vP V,vP I]),(14,vI G)] ?_
   refine Op.la 130 5 15 0 3 [vI u.Client,vI u.aJ,vI u.cA] (b4.ag 0 rfl) ?_
   have bd:=b4.fs [2,2,2,3] rfl
   refine Op.cv (some 16) 13 #[14,15] #[3,130] 100 #[] #[vP V,vP I] [aw] [[(db,Obj.cells #[vI u.Client,vI u.aJ,vI u.cA] 130 (0,0))],[(am,a9)],[(D,.map J Y)]] #[vI G,.agg #[vI u.Client,vI u.aJ,vI u.cA],vP V,vP I] (ei.of (by kernel_rfl)) (by kernel_rfl) bd (Py _ _ _ bd.sub b8 G u a0 a3 bQ cb ce V cf I o2 _ a8 (by((try dsimp only)<;>((have h1:=O.2.2.2.length_eq;have h2:=hB.len;have h3:=kG (fun p=>!jI ar p.1&&bQ p.2) mp;rw[eu] at h1;omega)))) (by((try dsimp only)<;>(exact(hB.find ((ki hB.1).2 (O.CE hB.1 ‹_›))).2))) (St.pt 1 bd)) (fun _ _ _=>trivial) ?_
   rintro _ dd _ dT df b5 ⟨d0,rfl,b6,d1,rfl⟩;subst dd;clear df
   refine Op.gt 5<|At.c_ (bQ u) 16 6 1 (fun d2=>?_) fun d3=>?_
   ·refine At.rp 3 2 [(17,.map (some D)),(18,vI G)]<|Op.Pp (d:=.int .i64) (z:=.agg kN) (mt:=121) (kt:=3) (x:=17) (ix:=18) (dst:=none) (k:=G) (v:=.agg #[vI u.Client,vI u.aJ,vI u.cA]) (by kernel_rfl) (by kernel_rfl) iu (by kernel_rfl) (by kernel_rfl) b5 3 rfl Z bb zt fun dg d4 dj dk dl=>?_
    have dp:=ab.nQ G
    exact Op.gt 1<|At.ke (bs (fh x1 G) (if bQ u=true then o2++[G] else o2) dg (jF X G) (bt++b3) a9 _ _ (by(have hz:=congrArg List.length U;simp only[b_,bL] at hz ⊢;omega)) (by(rw[aL ‹_›];exact O.hit hB.1 U ‹_› ‹_›)) b6 dj dp dk ((dl.fs [3,3,3] rfl).drop))
   exact At.ke (bs x1 (if bQ u=true then o2++[G] else o2) J X (bt++b3) a9 _ _ (by(have hz:=congrArg List.length U;simp only[b_,bL] at hz ⊢;omega)) (by(rw[aB (jc.1 ‹_›)];exact O.jd hB.1 U ‹_› ‹_›)) b6 Z ab bb.xw ((b5.fs [3,3,3] rfl).drop))
 exact At.ke (c6 _ mp out ck bk bk c4 _ _ (bK _) (by(subst h0;exact Pc ‹_›)) ch a4 c3 a5 c5)
theorem H9 (B:World) (h:av) (g:GH) (hg:bf g h) (X:bh g) (G:Nat) (b:fm) (U:au) (bc:fN g G b U) (u:Nat) (I:Array Value) (bQ:cM→Bool) (bd:ei prog u) (Y:pI prog g u I (fun x:cM=>.agg #[.int .i64 x.Client,.int .i64 x.aJ,.int .i64 x.cA]) (fun s=>gh s=true) bQ) (hB:gJ b) (hs:St h g (aM [U]) g [U] h):
  aA prog B 58 #[vP G,.func (.func u) #[] I] h g [U] (fun be g' L'=>∃v0 a1 a3,be=v0∧aF 3 (eF .i64) g' v0 (jl bQ b) a1∧fN g' G (kM bQ b) a3∧g'=g∧L'=[a3,a1]):=by
 refine aA.aq func58 fun R hR=>At.rg 2<|Op.bx 3 131 1 #[.func (.func u) #[] I] hs fun Z c3 bi=>Op.pg 1 []<|At.rg 1 ?_
 refine Op.al 5 81 #[vN] bi fun ab c4 bj=>Op.gt 2<|At.rp 6 3 [(8,vP G)] ?_
 obtain⟨a4,bk,bm,ad⟩:=bc
 have a5:=St.un [bk] bm (bj.fs [1,1,2] rfl)
 refine Op.l1 121 8 9 0 (.map (some a4)) (a5.ag 0 rfl)<|Op.px 1 [(10,.func (.func 100) #[] #[vP Z,vP ab])] ?_
 obtain⟨a6,V⟩:=St.freeze (a5.fs [3] rfl)
 have a7:=iQ (g:=g) Z (.cells #[.func (.func u) #[] I] 131 (0,0))
 generalize bo:cQ g _=ae at a6 V a7;clear bo
 replace ad:=ad.mono V
 replace X:=X.mono V
 replace Y:=Y.mono V
 have bs:=aF.nil 3 (eF .i64) ae
 obtain⟨c5,bt,b3⟩:=St.bl (Q:=pU ae ab ([]:List Int)) 2 (a6.nl.fs [2,2,2,3] rfl) ⟨_,_,rfl,bs⟩
 have am:=b3.fs [1,1,2] rfl
 refine Op.cl (some 11) 2 am (Pz _ _ _ am.sub X a4 b _ ad u I bQ bd Y Z a7 ab ([]:List Int) _ bt (by(try dsimp only)<;>omega) (by((try dsimp only)<;>(first|omega|assumption|rfl|(have h1:=yX ‹_›;have h2:=hB.len;have h3:=kG (fun p=>bQ p.2) b;unfold jl at h1;rw[eu] at h1;omega)))) (St.pt 2 am)) ?_
 rintro _ b4 _ c6 b5 b6 ⟨c8,D,c9,rfl,b8,da,ca,db,rfl⟩;subst b4;clear b5
 refine Op.gt 3<|At.rg 2 ?_
 obtain⟨v53,cb,ce,a8⟩:=ca
 obtain⟨J,O,rfl⟩:=a8.ai
 have a9:=St.un [cb] ce (b6.fs [1] rfl)
 refine Op.l1 81 5 12 0 (vL J D.length O) (a9.ag 0 rfl) ?_
 have ar:=a9.fs [1] rfl
 refine Op.cl (some 13) 1 ar (HJ _ _ _ ar.sub _ D _ a8 (by(have h1:=yX ‹_›;have h2:=hB.len;have h3:=kG (fun p=>bQ p.2) b;unfold jl at h1;rw[eu] at h1;omega)) (St.pt 1 ar)) ?_
 rintro _ cf _ dc ch bb ⟨rfl,dd,ci,aw,rfl⟩;subst cf;clear ch
 refine Op.gt 4<|At.rg 2<|Op.l1 81 5 14 0 (vL J D.length O) (bb.ag 1 rfl)<|Op.pg 5 [(4,vL J D.length O)] ?_
 obtain⟨ck,a0,co⟩:=St.bl (Q:=fN ae G (kM bQ b)) 2 (bb.fs [1,1,2,3] rfl) ⟨_,_,rfl,b8⟩
 refine At.rt (vL J D.length O) ?_
 replace a0:=a0.aX (g':=g)
 replace aw:=aw.aX (fun _ _ _ _ h=>h) (g':=g)
 exact hR (co.fs [1,1,2] rfl).drop.ji ⟨(vL J D.length O),ci,ck,rfl,dZ aw (by exact O9 ‹_› (Pd hB.1)),a0.eq (by rfl),rfl,rfl⟩
theorem PA (B:World) (h:av) (g:GH) (hg:bf g h) (O:bh g) (s:cM) (bZ:Int) (D:Nat) (I:g D=some (.cells #[vI bZ] 3 (0,0))) (hok:gh s=true):
  aA prog B 59 #[.agg #[vI s.Client,vI s.aJ,vI s.cA],vP D] h g [] (fun J g' L'=>J=.bool (jH bZ s)∧g'=g∧L'=[]):=by
 refine aA.aq func59 fun R hR=>At.rg 2<|Op.bx 2 130 0 #[vI s.Client,vI s.aJ,vI s.cA] (St.init hg) fun G U u=>Op.pg 1 []<|At.rp 8 1 [(4,vQ G 2)] ?_
 refine Op.l1 3 4 5 2 (vI s.cA) (u.ag 0 rfl)<|Op.px 1 [(6,vQ G 1)]<|Op.l1 3 6 7 1 (vI s.aJ) (u.ag 0 rfl)<|Op.dQ 8 (s.cA+s.aJ) (by(have:=xu hok;omega)) (by(have:=xu hok;omega))<|Op.l1 3 1 9 0 (vI bZ) (u.sub _ _ I) ?_
 exact Op.pr 2 3 (.bool (decide ((s.cA+s.aJ)≤bZ))) (hR u.drop ⟨(aS (by rfl)),rfl,rfl⟩)
theorem PB (B:World) (h:av) (g:GH) (hg:bf g h) (O:bh g) (u:Nat) (b:fm) (D:au) (U:fN g u b D) (bZ:Int) (hB:gJ b) (hs:St h g (aM [D]) g [D] h):
  aA prog B 27 #[vP u,vI bZ] h g [D] (fun am g' L'=>∃v0 ab ad,am=v0∧aF 3 (eF .i64) g' v0 (jl (jH bZ) b) ab∧fN g' u (kM (jH bZ) b) ad∧g'=g∧L'=[ad,ab]):=by
 refine aA.aq func27 fun R hR=>At.rg 2<|Op.bx 3 3 1 #[vI bZ] hs fun G a7 ar=>Op.pg 1 []<|At.rp 4 2 [(5,vP u),(6,.func (.func 59) #[] #[vP G])] ?_
 obtain⟨I,V⟩:=St.freeze (ar)
 have ae:=iQ (g:=g) G (.cells #[vI bZ] 3 (0,0))
 generalize aw:cQ g _=a8 at I V ae;clear aw
 replace O:=O.mono V
 replace U:=U.mono V
 refine Op.cl (some 7) 1 I (H9 _ _ _ I.sub O u b _ U 59 #[vP G] (fun x=>jH bZ x) (ei.of (by kernel_rfl)) (fun B h g2 hle hs a0 x hok=>aA.args (by rfl) (PA B h g2 hs a0 x bZ G (hle _ _ ae) hok)) (by(try dsimp only)<;>omega) (St.pt 1 I)) ?_
 rintro _ a1 _ a9 a3 a4 ⟨bb,a5,a6,rfl,J,X,bc,rfl⟩;subst a1;clear a3
 obtain⟨Y,Z,rfl⟩:=J.ai
 refine Op.pg 2 [(4,vL Y (((jl (fun x=>jH bZ x) b)).length) Z)]<|At.rt (vL Y (((jl (fun x=>jH bZ x) b)).length) Z) ?_
 replace X:=X.aX (g':=g)
 replace J:=J.aX (fun _ _ _ _ h=>h) (g':=g)
 exact hR a4.ji ⟨(vL Y (((jl (fun x=>jH bZ x) b)).length) Z),a5,a6,rfl,dZ J (by rfl),X.eq (by rfl),rfl,rfl⟩
theorem PC (B:World) (h:av) (g:GH) (hg:bf g h) (O:bh g) (s:cM) (G:Value) (u:List Int) (I:ay g 3 (eF .i64) G u) (J:Nat) (U:g J=some (.cells #[G] 81 (0,0))) (hok:gh s=true) (hp:u.length≤1000000000):
  aA prog B 93 #[.agg #[vI s.Client,vI s.aJ,vI s.cA],vP J] h g [] (fun V g' L'=>V=.bool (pS u s)∧g'=g∧L'=[]):=by
 obtain⟨X,Y,rfl⟩:=I.ai
 refine aA.aq func93 fun R hR=>At.rg 2<|Op.bx 2 130 0 #[vI s.Client,vI s.aJ,vI s.cA] (St.init hg) fun Z ad D=>Op.pg 1 []<|At.rg 5 ?_
 exact Op.l1 81 1 4 0 (vL X u.length Y) (D.sub _ _ U)<|Op.px 1 [(5,vP Z)]<|Op.l1 3 5 6 0 (vI s.Client) (D.ag 0 rfl)<|Op.c1 7 (Cp _ _ _ D.sub O _ _ I s.Client (by(try dsimp only)<;>omega)) D fun ae ab=>Op.pr 2 3 (.bool (u.any (fun z=>decide (s.Client=z)))) (hR ab.drop ⟨(aS (by rfl)),rfl,rfl⟩)
theorem PD (B:World) (h:av) (g:GH) (hg:bf g h) (X:bh g) (D:Nat) (b:fm) (G:au) (Y:fN g D b G) (ae:Value) (u:List Int) (I:ay g 3 (eF .i64) ae u) (hB:gJ b) (hp:u.length≤1000000000) (hs:St h g (aM [G]) g [G] h):
  aA prog B 54 #[vP D,ae] h g [G] (fun a3 g' L'=>∃v0 am ar,a3=v0∧aF 3 (eF .i64) g' v0 (jl (pS u) b) am∧fN g' D (kM (pS u) b) ar∧g'=g∧L'=[ar,am]):=by
 obtain⟨aw,a0,rfl⟩:=I.ai
 refine aA.aq func54 fun R hR=>At.rg 2<|Op.bx 3 81 1 #[vL aw u.length a0] hs fun J bd a4=>Op.pg 1 []<|At.rp 4 2 [(5,vP D),(6,.func (.func 93) #[] #[vP J])] ?_
 obtain⟨O,U⟩:=St.freeze (a4)
 have a1:=iQ (g:=g) J (.cells #[vL aw u.length a0] 81 (0,0))
 generalize a5:cQ g _=be at O U a1;clear a5
 replace X:=X.mono U
 replace I:=I.mono U
 replace Y:=Y.mono U
 refine Op.cl (some 7) 1 O (H9 _ _ _ O.sub X D b _ Y 93 #[vP J] (fun x=>pS u x) (ei.of (by kernel_rfl)) (fun B h g2 hle hs a6 x hok=>aA.args (by rfl) (PC B h g2 hs a6 x _ _ (I.mono hle) J (hle _ _ a1) hok (by omega))) (by(try dsimp only)<;>omega) (St.pt 1 O)) ?_
 rintro _ a7 _ bi a8 a9 ⟨bj,bb,bc,rfl,V,Z,bk,rfl⟩;subst a7;clear a8
 obtain⟨ab,ad,rfl⟩:=V.ai
 refine Op.pg 2 [(4,vL ab (((jl (fun x=>pS u x) b)).length) ad)]<|At.rt (vL ab (((jl (fun x=>pS u x) b)).length) ad) ?_
 replace Z:=Z.aX (g':=g)
 replace V:=V.aX (fun _ _ _ _ h=>h) (g':=g)
 exact hR a9.ji ⟨(vL ab (((jl (fun x=>pS u x) b)).length) ad),bb,bc,rfl,dZ V (by rfl),Z.eq (by rfl),rfl,rfl⟩
theorem zN (B:World) (h:av) (g:GH) (hg:bf g h) (bk:bh g) (D:Nat) (b:fm) (U:au) (bm:fN g D b U) (hB:gJ b) (hs:St h g (aM [U]) g [U] h):
  aA prog B 40 #[vP D] h g [U] (fun bo g' L'=>∃v0 ar aw,bo=v0∧aF 130 nL g' v0 (b.map (·.2)) ar∧fN g' D b aw∧g'=g∧L'=[aw,ar]):=by
 refine aA.aq func40 fun R hR=>At.go 1 1 []<|At.go 2 1 [(3,vN)]<|At.rp 8 3 [(8,vP D)] ?_
 obtain⟨G,bs,bt,a0⟩:=bm
 have a1:=St.un [bs] bt hs
 refine Op.l1 121 8 9 0 (.map (some G)) (a1.ag 0 rfl) ?_
 have V:=a1.fs [1] rfl
 have b3:=gP.fK a0 V (fun p hp=>hp)
 have a3:=V.freeze.1
 have a4:=V.freeze.2
 have X:=bk.mono a4
 refine Op.c0 (some 10) (Pr _ _ _ a3.sub X G b b3) a3 ?_
 rintro _ dj _ dk b4 a5 ⟨f32,b5,rfl,b6,b8,rfl⟩
 replace X:=X.mono b4
 refine Op.c0 (some 11) (CI _ _ _ a5.sub X f32 b5 (b.map (·.1)) b6 b8 (by((try dsimp only)<;>((have:=hB.len;simp only[eu];omega))))) a5 ?_
 rintro _ ca _ dl cb ce ⟨dp,cf,rfl,Y,dq,rfl⟩;subst ca;clear cb
 obtain⟨ch,a6,rfl⟩:=Y.ai
 have ci:=V.uC (ce.xy (aG.trans V.le a4) (by repeat (first|assumption|exact aG.refl _|apply aG.trans)))
 replace Y:=Y.aX (fun _ _ _ _ h=>h) (g':=g)
 refine Op.pg 3 [(12,vI ((dR (b.map (·.1))).length:Int)),(13,vI 0)] ?_
 obtain⟨a7,a8,du,rfl,a9,bb⟩:=a0
 have ck:∀(m:Nat) (out:List cM) (i:Int) (a53:Option Addr) (I:Nat) (Z:au) (ab:av) (hm:(dR (b.map (·.1))).length-i.toNat<m) (h0:0≤i) (h1:i≤(dR (b.map (·.1))).length) (ho:out=(b.map (·.2)).take i.toNat) (ad:aF 130 nL g (.slice a53 out.length I) out Z) (J:St h g (aM [U]) g [Z,[(G,.map a7 a8)],cf,[(D,Obj.cells #[.map (some G)] 123 (0,0))]] ab),At (bS prog B 40 f40 R) [] 3 [(0,vP D),(3,vL a53 out.length I),(11,vL ch ((dR (b.map (·.1))).length) a6),(12,vI ((dR (b.map (·.1))).length:Int)),(13,vI i)] ab:=by
  intro m;induction m with
  |zero=>intros;omega
  |succ m co=>
   intro out i a53 I Z ab hm h0 h1 ho ad J
   refine At.go 4 1 [(14,.bool (decide (i<((dR (b.map (·.1))).length:Int))))]<|At.fd (i<((dR (b.map (·.1))).length:Int)) 14 5 8 (fun dv=>?_) fun dC=>?_
   ·refine At.rg 3 ?_
    obtain⟨O,ae⟩:=cD (dR (b.map (·.1))) i
    obtain⟨c3,bc,dE,dT,c4,c5,am⟩:=ig.br (Y.toH J 2 rfl) _ ae
    cases c4
    refine Op.iq 81 3 1 8 ((dR (b.map (·.1))).length) a6 11 13 15 c3 bc i ?_
    replace am:cut _ _ _=[vI O]:=am
    refine Op.l1 3 15 16 (bc+i.toNat*1) (vI O) c5 ?_ (hv:=cT am 0 rfl)
    refine Op.pg 6 [(5,vI O)]<|At.rp 10 4 [(17,vL a53 out.length I),(20,vP D)]<|Op.l1 121 20 21 0 (.map (some G)) (J.ag 3 rfl)<|Op.px 1 [(22,vI O)] ?_
    rcases bb.gy O with ⟨bd,be⟩|⟨v70,u,bd,be,c6⟩
    ·exfalso;exact Ph hB.1 ae be
    obtain rfl:=c6
    refine Op.mk xx 121 21 22 23 O (.agg #[vI u.Client,vI u.aJ,vI u.cA]) (J.ag 1 rfl) a9 bd<|Op.ls 24 1 130 #[vI u.Client,vI u.aJ,vI u.cA] J fun d0 d1 bi=>Op.ap 17 24 43 43 25 130 24 nL (ys:=[u]) ad bi 1 (⟨_,_,rfl,rfl,Reads.nil⟩) (by(have h1:=congrArg List.length ho;have h2:=hB.len;simp only[dD,eu,bL,cS] at *;omega)) (fun _ _ _=>trivial) (di.lit (m:=1) (sz:=3) (bi.ag 0 rfl) (news:=[vI u.Client,vI u.aJ,vI u.cA]) rfl rfl (by simp[Value.oneCell']) _) fun d2 d3 d4 bj c8 d5=>?_
    obtain⟨c9,da,rfl⟩:=bj.ai
    exact Op.pg 7 [(3,vL c9 ((out++([u])).length) da)]<|At.rg 2<|Op.dQ 26 (i+1) (by omega) (by(have h2:=hB.len;rw[lD,eu] at *;omega))<|Op.pg 3 [(13,vI (i+1))] (At.ke (co (out++([u])) (i+1) _ _ _ _ (by omega) (by omega) (by omega) (by exact Pj hB.1 h0 ae ‹_› ho) bj ((c8).drop)))
   refine At.go 9 2 [(2,vL a53 out.length I)] ?_
   have db:gP g G b [(G,.map a7 a8)]:=⟨_,_,_,rfl,a9,bb⟩
   obtain⟨dc,dd,df⟩:=St.bl (Q:=fN g D b) 2 (J.fs [2,1,2,3] rfl) ⟨_,_,rfl,db⟩
   exact At.rt (vL a53 out.length I)<|hR (df.fs [1,1,2] rfl).drop ⟨(vL a53 out.length I),Z,dc,rfl,dZ ad (by exact Pk ‹_› ho),dd.eq (by rfl),rfl,rfl⟩
 have dg:=aF.zero 130 nL g none
 exact At.ke (ck _ [] 0 _ _ _ _ (bK _) (by omega) (by omega) (by rfl) dg ci.nl)
theorem PE (B:World) (h:av) (g:GH) (hg:bf g h) (bc:bh g) (O:Nat) (b:fm) (J:au) (ae:fN g O b J) (a6:Value) (list:List cM) (am:ay g 130 nL a6 list) (hl:list.length≤1000000) (hs:St h g (aM [J]) g [J] h):
  aA prog B 35 #[vP O,a6] h g [J] (fun bd g' L'=>∃a7,bd=.bool (mO list)∧fN g' O (nw b list) a7∧g'=g∧L'=[a7]):=by
 obtain⟨ar,U,rfl⟩:=am.ai
 refine aA.aq func35 fun R hR=>At.go 1 1 []<|At.rg 2<|Op.makeMap (mt:=121) (dst:=8) (by kernel_rfl) hs fun G dg be=>?_
 have bi:cC encI #[] 0 ([]:List (Int×Value)):=cC.empty _ _
 have bj:eS (oL g) [] ([]:List (Int×cM)):=eS.nil
 refine Op.pg 2 [(5,.map (some G))]<|At.go 3 3 [(9,vL ar list.length U),(10,vI (list.length:Int)),(11,vI 0)] ?_
 have bk:gP g G ([]:List (Int×cM)) [(G,.map #[] 0)]:=⟨_,_,_,rfl,bi,bj⟩
 have bm:∀(m:Nat) (z:fm) (i:Int) (aw:au) (a0:av) (hm:list.length-i.toNat<m) (h0:0≤i) (h1:i≤list.length) (hI:me list i) (hz:z=nS (list.take i.toNat)) (Y:gP g G z aw) (Z:St h g (aM [J]) g [aw,J] a0),At (bS prog B 35 f35 R) [] 3 [(0,vP O),(1,vL ar list.length U),(5,.map (some G)),(9,vL ar list.length U),(10,vI (list.length:Int)),(11,vI i)] a0:=by
  intro m;induction m with
  |zero=>intros;omega
  |succ m a8=>
   intro z i aw a0 hm h0 h1 hI hz Y Z
   refine At.go 4 1 [(12,.bool (decide (i<(list.length:Int))))]<|At.fd (i<(list.length:Int)) 12 5 12 (fun dj=>?_) fun dk=>?_
   ·refine At.rp 6 1 [(13,vI i)] ?_
    obtain⟨u,D⟩:=cD list i
    obtain⟨ab,V,dl,dp,bo,bs,a1⟩:=ay.br am _ D
    cases bo
    refine Op.iq 43 130 3 24 list.length U 9 11 14 ab V i ?_
    replace a1:cut _ _ _=[vI u.Client,vI u.aJ,vI u.cA]:=a1
    refine Op.la 130 14 15 (V+i.toNat*3) 3 [vI u.Client,vI u.aJ,vI u.cA] (Z.sub _ _ bs) ?_ (hv:=a1)
    refine Op.al 7 130 kN Z fun a3 dq bt=>Op.px 1 [(6,vI i)]<|Op.sg 130 7 15 0 0 #[vI u.Client,vI u.aJ,vI u.cA] bt zt fun du ad=>Op.gt 6<|At.dw (fun _=>False) [(0,false),(1,false),(2,true),(3,true),(4,true),(5,true),(6,true),(7,true),(8,true),(9,true),(10,true),(11,true),(13,true),(12,true),(14,false),(15,true),(16,true),(17,true)] ?_
    refine Op.la 130 7 16 0 3 [vI u.Client,vI u.aJ,vI u.cA] (ad.ag 0 rfl)<|Op.c1 17 (H8 _ _ _ ad.sub bc u) ad fun dv I=>Op.px 2 [(19,.bool (!(gh u)))]<|Op.wb (!(gh u)) 19 (fun a9=>?_) fun bb=>?_
    ·replace a9:=(dm a9)
     exact Op.pg 7 [(33,vT)]<|At.bX 33 8<|At.gr 9 1 4 vF (hR I.drop.drop ⟨J,(aS (by exact HV (HM D ‹_›))),ae.eq (by exact HW (HM D ‹_›)),rfl,rfl⟩)
    replace bb:=(dn bb)
    refine Op.px 3 [(22,.bool (decide (i>0)))]<|Op.wd (i>0) 22 (fun dC=>?_) fun dE=>?_
    ·refine Op.px 2 [(23,vL (some ⟨ab,V,none⟩) list.length U),(24,vI i)]<|Op.vq 25 (i-1) ?_
     obtain⟨X,a4⟩:=cD list (i-1)
     obtain⟨dT,d0,d1,d2,b3,b4,a5⟩:=ay.br am _ a4
     cases b3
     refine Op.iq 43 130 3 24 list.length U 23 25 26 ab V (i-1) ?_
     replace a5:cut _ _ _=[vI X.Client,vI X.aJ,vI X.cA]:=a5
     refine Op.px 2 [(27,vQ ab (V+(i-1:Int).toNat*3)),(29,vP a3)]<|Op.fQ (T:=3) (x:=27) (o:=V+(i-1:Int).toNat*3) (d:=28) (n:=1) (v:=vI X.Client) (by kernel_rfl) (by kernel_rfl) (by kernel_rfl) id (ad.sub _ _ b4) (cT a5 0 rfl)<|Op.l1 3 29 30 0 (vI u.Client) (I.ag 0 rfl)<|Op.pg 7 [(33,.bool (decide (X.Client≥u.Client)))]<|At.fd (X.Client≥u.Client) 33 8 10 (fun d3=>?_) fun d4=>?_
     ·exact At.gr 9 1 4 vF (hR I.drop.drop ⟨J,(aS (by exact HV (HN (by omega) D a4 ‹_›))),ae.eq (by exact HW (HN (by omega) D a4 ‹_›)),rfl,rfl⟩)
     refine At.rp 5 2 [(34,.map (some G)),(35,vP a3)]<|Op.l1 3 35 36 0 (vI u.Client) (I.ag 0 rfl)<|Op.la 130 7 37 0 3 [vI u.Client,vI u.aJ,vI u.cA] (I.ag 0 rfl) ?_
     obtain⟨d5,d6,d7,rfl,b5,b6⟩:=Y
     refine Op.ms xx 121 34 36 37 u.Client (.agg #[vI u.Client,vI u.aJ,vI u.cA]) I 1 b5 fun b8 ca d8 cb ce=>?_
     have cf:=eS.mI (k:=u.Client) (a:=u) (v:=.agg #[vI u.Client,vI u.aJ,vI u.cA]) b6 rfl
     refine Op.gt 11<|At.rg 2<|Op.vq 38 (i+1)<|Op.pg 3 [(11,vI (i+1))] ?_
     have ch:gP g G (b7 z u.Client u) [(G,.map b8 ca)]:=⟨_,_,_,rfl,cb,cf⟩
     exact At.ke (a8 (b7 z u.Client u) (i+1) _ _ (by omega) (by omega) (by omega) (by(first|exact zJ hI h0 D ‹_› ‹_›|exact zL hI h0 D ‹_› ‹_› ‹_›)) (by exact HX hI (by(first|exact zJ hI h0 D ‹_› ‹_›|exact zL hI h0 D ‹_› ‹_› ‹_›)) h0 D hz) ch ce.drop)
    refine Op.pg 7 [(33,vF)]<|At.dP 33 10<|At.rp 5 2 [(34,.map (some G)),(35,vP a3)]<|Op.l1 3 35 36 0 (vI u.Client) (I.ag 0 rfl)<|Op.la 130 7 37 0 3 [vI u.Client,vI u.aJ,vI u.cA] (I.ag 0 rfl) ?_
    obtain⟨d9,ea,eb,rfl,ci,ck⟩:=Y
    refine Op.ms xx 121 34 36 37 u.Client (.agg #[vI u.Client,vI u.aJ,vI u.cA]) I 1 ci fun co c3 ed c4 c5=>?_
    have c6:=eS.mI (k:=u.Client) (a:=u) (v:=.agg #[vI u.Client,vI u.aJ,vI u.cA]) ck rfl
    refine Op.gt 11<|At.rg 2<|Op.vq 38 (i+1)<|Op.pg 3 [(11,vI (i+1))] ?_
    have c8:gP g G (b7 z u.Client u) [(G,.map co c3)]:=⟨_,_,_,rfl,c4,c6⟩
    exact At.ke (a8 (b7 z u.Client u) (i+1) _ _ (by omega) (by omega) (by omega) (by(first|exact zJ hI h0 D ‹_› ‹_›|exact zL hI h0 D ‹_› ‹_› ‹_›)) (by exact HX hI (by(first|exact zJ hI h0 D ‹_› ‹_›|exact zL hI h0 D ‹_› ‹_› ‹_›)) h0 D hz) c8 c5.drop)
   refine At.rp 5 4 [(40,.map (some G)),(42,vP O)] ?_
   obtain⟨ee,c9,da,ef⟩:=ae
   refine Op.s1 121 42 40 0 (.map (some G)) 0 #[.map (some G)] (St.un [c9] da (Z.fs [1] rfl)) zt fun eh db=>Op.gt 13<|At.go 14 1 [(4,vT)] ?_
   obtain⟨dc,dd,df⟩:=St.bl (Q:=fN g O z) 2 (db.fs [1,2,2] rfl) ⟨_,_,rfl,Y⟩
   exact At.rt vT<|hR (df.fs [1] rfl).drop ⟨dc,(aS (by exact Pm (HL hI ‹_›))),dd.eq (by exact Pn hI ‹_› hz),rfl,rfl⟩
 exact At.ke (bm _ ([]:List (Int×cM)) 0 _ _ (bK _) (by omega) (by omega) (by exact Pa _) (by rfl) bk be)
structure aC where
  Kind:Int
  aa:aj
  Data:aj
  ak:Int
  aJ:Int
  aZ:Bool
  aN:Bool
  ah:Bool
  aH:List aC
def CK (x:aC) (u D:Value):List Value:=[.int .i64 x.Kind,.string (a_ x.aa),u,.int .i64 x.ak,.int .i64 x.aJ,.bool x.aZ,.bool x.aN,.bool x.ah,D]
mutual
def tu (g:GH):aC→List Value→Prop
  |⟨k,p,u,I,sp,b,J,w,ops⟩,cs=>∃D G,ay g 5 bn D u∧
     (∃ao c,G=.slice ao ops.length c∧ops.length≤c∧(ops≠[]→∃(b:Nat) (o:Nat) (cur:Array Value) (fz:TypeId×Nat×Nat),ao=some ⟨b,o,none⟩∧g b=some (.cells cur fz.1 fz.2)∧pV g ops (cut cur o (ops.length*9))))∧
     cs=CK ⟨k,p,u,I,sp,b,J,w,ops⟩ D G
def pV (g:GH):List aC→List Value→Prop
  |[],cs=>cs=[]
  |x::xs,cs=>∃c cs',cs=c++cs'∧tu g x c∧pV g xs cs'
end
def CL (g:GH) (u:Value) (ops:List aC):Prop:=∃ao c,u=.slice ao ops.length c∧ops.length≤c∧(ops≠[]→∃(b:Nat) (o:Nat) (cur:Array Value) (fz:TypeId×Nat×Nat),ao=some ⟨b,o,none⟩∧g b=some (.cells cur fz.1 fz.2)∧pV g ops (cut cur o (ops.length*9)))
theorem zO (g:GH) (x:aC) (cs:List Value):tu g x cs↔∃u D,ay g 5 bn u x.Data∧CL g D x.aH∧cs=CK x u D:=by
  obtain⟨k,p,G,I,sp,b,J,w,ops⟩:=x
  rw[tu]
  rfl
mutual
theorem H_ {g g':GH} (hg:aG g g'):∀(x:aC) (cs:List Value),tu g x cs→tu g' x cs
  |⟨k,p,G,I,sp,b,J,w,ops⟩,cs,h=>by
   rw[tu] at h ⊢
   obtain⟨u,D,h1,⟨ao,c,h2,h3,h4⟩,h5⟩:=h
   exact⟨u,D,h1.mono hg,⟨ao,c,h2,h3,fun hn=>by
     obtain⟨b,o,cur,fz,e1,e2,e3⟩:=h4 hn
     exact⟨b,o,cur,fz,e1,hg _ _ e2,Ia hg ops _ e3⟩⟩,h5⟩
theorem Ia {g g':GH} (hg:aG g g'):∀(xs:List aC) (cs:List Value),pV g xs cs→pV g' xs cs
  |[],cs,h=>by rw[pV] at h ⊢;exact h
  |x::xs,cs,h=>by
   rw[pV] at h ⊢
   obtain⟨c,cs',h1,h2,h3⟩:=h
   exact⟨c,cs',h1,H_ hg x c h2,Ia hg xs cs' h3⟩
end
def nU:aC:=⟨0,[],[],0,0,false,false,false,[]⟩
def eY:Kd aC where
  sz:=9
  K:=tu
  len h:=by obtain⟨u,D,_,_,rfl⟩:=(zO _ _ _).1 h;rfl
  one h:=by
    obtain⟨u,D,h1,⟨ao,c,rfl,_⟩,rfl⟩:=(zO _ _ _).1 h
    obtain⟨_,_,rfl⟩:=h1.ai
    simp[Value.oneCell',CK]
  mono hg h:=H_ hg _ _ h
  zv:=nU
  zc:=[.int .i64 0,.string (a_ []),.slice none 0 0,.int .i64 0,.int .i64 0,.bool false,.bool false,.bool false,.slice none 0 0]
  zK _:=(zO _ _ _).2 ⟨_,_,ay.nil _ _ _,⟨none,0,rfl,iO _,fun h=>absurd rfl h⟩,rfl⟩
theorem zP (g:GH):∀(xs:List aC) (cs:List Value),pV g xs cs↔Reads eY g xs cs
  |[],cs=>by rw[pV,Reads]
  |x::xs,cs=>by
   rw[pV,Reads]
   constructor
   · rintro⟨c,cs',h1,h2,h3⟩
     exact⟨c,cs',h1,h2,(zP g xs cs').1 h3⟩
   · rintro⟨c,cs',h1,h2,h3⟩
     exact⟨c,cs',h1,h2,(zP g xs cs').2 h3⟩
theorem Ib (g:GH) (u:Value) (ops:List aC):CL g u ops↔ay g 36 eY u ops:=by
  unfold CL ay
  constructor
  · rintro⟨ao,c,h1,h2,h3⟩
    refine⟨ao,c,h1,h2,fun hn=>?_⟩
    obtain⟨b,o,cur,fz,e1,e2,e3⟩:=h3 hn
    exact⟨b,o,cur,fz,e1,e2,(zP g _ _).1 e3⟩
  · rintro⟨ao,c,h1,h2,h3⟩
    refine⟨ao,c,h1,h2,fun hn=>?_⟩
    obtain⟨b,o,cur,fz,e1,e2,e3⟩:=h3 hn
    exact⟨b,o,cur,fz,e1,e2,(zP g _ _).2 e3⟩
theorem mP {g:GH} {x:aC} {cs:List Value}:eY.K g x cs↔∃v0 v1,ay g 5 bn v0 x.Data∧ay g 36 eY v1 x.aH∧
    cs=[.int .i64 x.Kind,.string (a_ x.aa),v0,.int .i64 x.ak,.int .i64 x.aJ,.bool x.aZ,.bool x.aN,.bool x.ah,v1]:=by
  refine(zO g x cs).trans ?_
  constructor
  · rintro⟨v0,v1,h1,h2,h3⟩
    exact⟨v0,v1,h1,(Ib _ _ _).1 h2,h3⟩
  · rintro⟨v0,v1,h1,h2,h3⟩
    exact⟨v0,v1,h1,(Ib _ _ _).2 h2,h3⟩
mutual
def qI:aC→Nat
  |⟨_,_,_,_,_,_,_,_,ops⟩=>mh ops+1
def mh:List aC→Nat
  |[]=>0
  |x::xs=>max (qI x) (mh xs)
end
theorem CN (x:aC):qI x=mh x.aH+1:=by
  obtain⟨k,p,u,D,sp,b,G,w,ops⟩:=x
  rw[qI]
def bJ (k:Int):F2:=⟨decide (3≤k)&&decide (k≤7),decide (k=3)||decide (k=5),decide (k=4)||decide (k=5),decide (k=1),decide (k=3),decide (k=6)||decide (k=7),decide (k=8)⟩
def oM (k:Int):Bool:=decide (1≤k)&&decide (k≤9)
theorem PF {k:Int} (h:oM k=false):bJ k=⟨false,false,false,false,false,false,false⟩:=by
  unfold oM at h
  unfold bJ
  simp only[s6,jP] at h
  simp only[F2.mk.injEq,s6,FQ,jP]
  omega
theorem Ic {k:Int} (h1:¬k=1) (h2:¬k=2) (h3:¬k=3) (h4:¬k=4) (h5:¬k=5) (h6:¬k=6) (h7:¬k=7) (h8:¬k=8) (h9:¬k=9):oM k=false:=by
  unfold oM
  simp only[s6,jP]
  omega
def rA (o:aC) (bU:Bool):Bool:=oM o.Kind&&(!bU||((bJ o.Kind).make||(bJ o.Kind).j7))
def tv (o:aC):Bool:=(bJ o.Kind).ey||o.aa==[]
def tC (o:aC):Bool:=(bJ o.Kind).data||(o.Data.length:Int)==0
def tD (o:aC):Bool:=(bJ o.Kind).j7||o.ak==0
def tE (o:aC):Bool:=(bJ o.Kind).dO||o.aJ==0
def rQ (o:aC):Bool:=(bJ o.Kind).make||(!o.aZ&&!o.aN)
def tF (o:aC):Bool:=(bJ o.Kind).watch||!o.ah
def rR (o:aC):Bool:=(bJ o.Kind).ops||(o.aH.length:Int)==0
def rC (o:aC):Bool:=decide (-1≤o.ak)&&(decide (o.ak<1099511627776)&&(decide (0≤o.aJ)&&(decide (o.aJ<1099511627776)&&decide ((o.aH.length:Int)≤4))))
def lU (o:aC) (bU:Bool):Bool:=rA o bU&&(tv o&&(tC o&&(tD o&&(tE o&&(rQ o&&(tF o&&(rR o&&rC o)))))))
mutual
def dV (bU:Bool):aC→Bool
  |⟨k,p,u,D,sp,b,G,w,ops⟩=>lU ⟨k,p,u,D,sp,b,G,w,ops⟩ bU&&xz ops
def xz:List aC→Bool
  |[]=>true
  |x::xs=>dV true x&&xz xs
end
theorem Ie:∀xs:List aC,xz xs=xs.all (dV true)
  |[]=>by rw[xz,nq]
  |x::xs=>by rw[xz,j5,Ie xs]
theorem mQ (bU:Bool) (o:aC):dV bU o=(lU o bU&&o.aH.all (dV true)):=by
  obtain⟨k,p,u,D,sp,b,G,w,ops⟩:=o
  rw[dV,Ie]
section
variable {o:aC} {bU:Bool}
theorem Ig (h:rA o bU=false):dV bU o=false:=by rw[mQ,lU,h];rfl
theorem PG (h:tv o=false):dV bU o=false:=by rw[mQ,lU,h];simp
theorem PI (h:tC o=false):dV bU o=false:=by rw[mQ,lU,h];simp
theorem PJ (h:tD o=false):dV bU o=false:=by rw[mQ,lU,h];simp
theorem PK (h:tE o=false):dV bU o=false:=by rw[mQ,lU,h];simp
theorem Ih (h:rQ o=false):dV bU o=false:=by rw[mQ,lU,h];simp
theorem PL (h:tF o=false):dV bU o=false:=by rw[mQ,lU,h];simp
theorem PM (h:rR o=false):dV bU o=false:=by rw[mQ,lU,h];simp
theorem xA (h:rC o=false):dV bU o=false:=by rw[mQ,lU,h];simp
theorem PN (hA:rA o bU=true) (h1:tv o=true) (h2:tC o=true) (h3:tD o=true) (h4:tE o=true) (h5:rQ o=true) (h6:tF o=true) (h7:rR o=true) (hC:rC o=true):
    (!o.aH.any fun x=>!dV true x)=dV bU o:=by
  rw[mQ,lU,hA,h1,h2,h3,h4,h5,h6,h7,hC]
  simp only[lP]
  rw[G4]
  simp
theorem xB (h:o.ak< -1∨o.ak≥1099511627776∨o.aJ<0∨o.aJ≥1099511627776∨(o.aH.length:Int)>4):rC o=false:=by
  unfold rC
  simp only[s6,jP]
  omega
theorem PO (h1:¬o.ak< -1) (h2:¬o.ak≥1099511627776) (h3:¬o.aJ<0) (h4:¬o.aJ≥1099511627776) (h5:¬(o.aH.length:Int)>4):rC o=true:=by
  unfold rC
  simp only[bO,cB]
  omega
theorem oN (h:dV bU o=true):(1≤o.Kind∧o.Kind≤9)∧(-1≤o.ak∧o.ak<1099511627776)∧(0≤o.aJ∧o.aJ<1099511627776)∧o.aH.length≤4∧∀x∈o.aH,dV true x=true:=by
  rw[mQ,lU] at h
  simp only[bO,gR] at h
  obtain⟨⟨hA,_,_,_,_,_,_,_,hC⟩,u⟩:=h
  unfold rA oM at hA
  unfold rC at hC
  simp only[bO,cB] at hA hC
  exact⟨hA.1,⟨hC.1,hC.2.1⟩,⟨hC.2.2.1,hC.2.2.2.1⟩,by omega,u⟩
end
def iy (o:aC):Int:=(if o.aZ then 1 else 0)+(if o.aN then 2 else 0)+(if o.ah then 4 else 0)
def mj (o:aC):List Int:=[o.Kind,o.ak+1,o.aJ,iy o]
mutual
def cN:aC→aj×Int
  |⟨k,p,u,D,sp,b,G,w,ops⟩=>if (kO ops).2≠0 then ([],(kO ops).2) else dx ((eD (mj ⟨k,p,u,D,sp,b,G,w,ops⟩)).1::p::u::(kO ops).1)
def kO:List aC→List aj×Int
  |[]=>([],0)
  |x::xs=>if (cN x).2≠0 then ([],(cN x).2) else ((cN x).1::(kO xs).1,(kO xs).2)
end
theorem CO (o:aC):cN o=if (kO o.aH).2≠0 then ([],(kO o.aH).2) else dx ((eD (mj o)).1::o.aa::o.Data::(kO o.aH).1):=by
  obtain⟨k,p,u,D,sp,b,G,w,ops⟩:=o
  rw[cN]
theorem zQ (x:aC) (xs:List aC):kO (x::xs)=if (cN x).2≠0 then ([],(cN x).2) else ((cN x).1::(kO xs).1,(kO xs).2):=by rw[kO]
def aU (o:aC):aj×Int:=if dV false o=false then ([],130) else if (cN o).2≠0∨1024<(cN o).1.length then ([],130) else ((cN o).1,0)
mutual
def cY:aC→Nat
  |⟨_,p,u,_,_,_,_,_,ops⟩=>1+p.length+u.length+gm ops
def gm:List aC→Nat
  |[]=>0
  |x::xs=>cY x+gm xs
end
theorem rS (x:aC):cY x=1+x.aa.length+x.Data.length+gm x.aH:=by
  obtain⟨k,p,u,D,sp,b,G,w,ops⟩:=x
  rw[cY]
theorem CP:∀{xs:List aC} {x:aC},x∈xs→cY x≤gm xs
  |y::xs,x,h=>by
   rw[gm]
   rcases fe.1 h with rfl|h
   · omega
   · have:=CP h;omega
theorem Ii:∀xs:List aC,xs.length≤gm xs
  |[]=>gO _
  |x::xs=>by
   rw[gm,bL]
   have:=Ii xs
   have:=rS x
   omega
theorem mm {x y:aC} (h:y∈x.aH):cY y<cY x:=by
  have:=CP h
  rw[rS x]
  omega
theorem gu (x:aC):x.aa.length<cY x∧x.Data.length<cY x∧x.aH.length<cY x:=by
  have:=rS x
  have:=Ii x.aH
  omega
section
variable {o x:aC} {bU:Bool} {i:Int} {cq:List aj}
theorem Ij (h:dV bU o=true):eD (mj o)=(gC (mj o),0):=by
  obtain⟨h1,h2,h3,_,_⟩:=oN h
  unfold eD
  rw[aL]
  unfold mj iy
  simp only[j5,nq,lB,bO]
  refine⟨lT (by omega) (by omega),lT (by omega) (by omega),lT (by omega) (by omega),lT ?_ ?_⟩<;>(split<;>split<;>split<;>decide)
def rT (o:aC) (cq:List aj) (i:Int):Prop:=(∀x∈o.aH.take i.toNat,(cN x).2=0)∧cq=(eD (mj o)).1::o.aa::o.Data::(o.aH.take i.toNat).map fun x=>(cN x).1
theorem PR (o:aC):rT o [(eD (mj o)).1,o.aa,o.Data] 0:=⟨fun x h=>by simp at h,by simp⟩
theorem Ik:∀{xs:List aC},(∀x∈xs,(cN x).2=0)→kO xs=(xs.map fun x=>(cN x).1,0)
  |[],_=>by rw[kO];rfl
  |x::xs,h=>by
   rw[zQ,aB (by simpa using h x (by simp)),Ik fun y hy=>h y (by simp[hy])]
   rfl
theorem Il:∀{xs:List aC} {n:Nat} {x:aC},(∀y∈xs.take n,(cN y).2=0)→xs[n]?=some x→(cN x).2≠0→(kO xs).2=(cN x).2
  |[],_,_,_,h,_=>by simp at h
  |y::xs,0,x,_,h,hx=>by
   simp only[List.getElem?_cons_zero,eN] at h
   subst h
   rw[zQ,aL hx]
  |y::xs,n+1,x,hp,h,hx=>by
   rw[zQ,aB (by simpa using hp y (by simp))]
   exact Il (n:=n) (fun z hz=>hp z (by simp[hz])) (by simpa using h) hx
theorem PS (H:rT o cq i) (h0:0≤i) (hx:o.aH[i.toNat]?=some x) (he:(cN x).2=0):rT o (cq++[(cN x).1]) (i+1):=by
  obtain⟨h1,h2⟩:=H
  unfold rT
  rw[toNat_succ h0,fu hx]
  refine⟨fun y hy=>?_,by rw[h2];simp⟩
  rcases cU.1 hy with hy|hy
  · exact h1 y hy
  · rw[gv.1 hy];exact he
theorem Im (H:rT o cq i) (hx:o.aH[i.toNat]?=some x) (he:¬(cN x).2=0):cN o=([],(cN x).2):=by
  have:=Il H.1 hx he
  rw[CO,this,aL he]
theorem Io (H:rT o cq i) (h:¬i<(o.aH.length:Int)):cN o=dx cq:=by
  obtain⟨h1,h2⟩:=H
  rw[eR (by omega)] at h1 h2
  rw[CO,Ik h1,aB (by simp),h2]
theorem Ip (H:rT o cq i) (h:o.aH.length≤4):cq.length≤7:=by
  rw[H.2]
  simp only[bL,eu,dD]
  omega
theorem Iq (h:dV false o=false):aU o=([],130):=by unfold aU;rw[aL h]
theorem zR (h:dV false o=true) (h2:(cN o).2≠0∨((cN o).1.length:Int)>1024):aU o=([],130):=by unfold aU;rw[h,aB (by simp),aL (by omega)]
theorem Ir (h:dV false o=true) (h2:(cN o).2=0) (h3:¬((cN o).1.length:Int)>1024):aU o=((cN o).1,0):=by unfold aU;rw[h,aB (by simp),aB (by omega)]
end
def zS (v:List Int) (s:List aj) (ops:List aC):aC:=⟨v.getD 0 0,s.getD 1 [],s.getD 2 [],v.getD 1 0-1,v.getD 2 0,v.getD 3 0 % 2 != (0:Int),v.getD 3 0 / 2 % 2*2 != (0:Int),v.getD 3 0 / 4 % 2*4 != (0:Int),ops⟩
def gK (b:aj) (n:Int):Bool:=(bH b).2==0&&((bH b).1.length:Int)==n
def iI (bU:Bool) (b:aj):Bool:=((aT b).2==0&&(decide (3≤((aT b).1.length:Int))&&(!bU||decide (((aT b).1.length:Int)≤3))))&&(gK ((aT b).1.getD 0 []) 4&&decide ((bH ((aT b).1.getD 0 [])).1.getD 3 0≤7))
def pW (b:aj) (ops:List aC):aC:=zS (bH ((aT b).1.getD 0 [])).1 (aT b).1 ops
def mo (b:aj):aC×Bool:=if iI true b then (pW b [],true) else (nU,false)
def aR (bU:Bool) (b:aj):aC×Bool:=
  if iI bU b then (if ((aT b).1.drop 3).all fun x=>(mo x).2 then (pW b (((aT b).1.drop 3).map fun x=>(mo x).1),true) else (nU,false)) else (nU,false)
theorem CQ (b:aj):aR true b=mo b:=by
  unfold aR mo
  cases h:iI true b with
  |false=>rfl
  |true=>
   have:(aT b).1.length≤3:=by
     unfold iI at h
     simp only[ng,qA,bO,cB] at h
     omega
   rw[mH this]
   rfl
def aK (b:aj):aC×Int:=if 1024<b.length then (nU,130) else if (aR false b).2=false∨dV false (aR false b).1=false then (nU,130) else ((aR false b).1,0)
def tG (B:Bool) (rs:List (Int×Value)) (k:Int):Int:=if (B&&!jI rs k)=true then k else 0
def jx (o:aC) (x1:List (Int×Bool)) (rs gl:List (Int×Value)) (n:Int):Prop:=
  x1=[(1,o.aZ),(2,o.aN),(4,o.ah)]∧(∀p∈rs,p∈gl)∧(rs.map (·.1)).Nodup∧n=tG o.aZ rs 1+tG o.aN rs 2+tG o.ah rs 4
section
variable {o:aC} {x1:List (Int×Bool)} {rs gl a b:List (Int×Value)} {n k:Int} {v:Value} {c:Bool} {R:Bool→Value→Prop}
theorem PT (hK:eS R gl x1) (hx:x1=[(1,o.aZ),(2,o.aN),(4,o.ah)]):jx o x1 gl gl 0:=by
  have hm:∀k∈([1,2,4]:List Int),jI gl k=true:=fun k hk=>by
    have h1:=hK.2.2.1
    rw[hx] at h1
    obtain⟨p,hp,e⟩:=cF.1 (h1.mem_iff.2 (show k∈_ from hk))
    exact rP.2 ⟨p,hp,e⟩
  refine⟨hx,fun p hp=>hp,hK.2.1,?_⟩
  unfold tG
  rw[hm 1 (by simp),hm 2 (by simp),hm 4 (by simp)]
  simp
theorem jx.key (H:jx o x1 rs gl n) (hf:bW x1 k=some c):(k=1∧o.aZ=c)∨(k=2∧o.aN=c)∨(k=4∧o.ah=c):=by
  rw[H.1,jU,jU,jU] at hf
  simp only at hf
  split at hf
  · rename_i e;exact .inl ⟨e.symm,fT hf⟩
  · split at hf
    · rename_i e;exact .inr (.inl ⟨e.symm,fT hf⟩)
    · split at hf
      · rename_i e;exact .inr (.inr ⟨e.symm,fT hf⟩)
      · cases hf
theorem jx.mem (H:jx o x1 rs gl n) (e:rs=a++(k,v)::b):(k,v)∈gl:=H.2.1 _ (by rw[e];simp)
theorem jx.any (e:rs=a++(k,v)::b):jI rs k=true:=rP.2 ⟨(k,v),by rw[e];simp,rfl⟩
theorem jx.step (H:jx o x1 rs gl n) (e:rs=a++(k,v)::b) (hf:bW x1 k=some c):jx o x1 (a++b) gl (if c then n+k else n):=by
  have hk:=H.key hf
  have ha:=jx.any e
  obtain⟨h1,h2,h3,h4⟩:=H
  refine⟨h1,fun p hp=>h2 p (by rw[e];rcases cU.1 hp with hp|hp<;>simp[hp]),?_,?_⟩
  · rw[e] at h3
    refine s_ (zu _ ?_) h3
    exact(zw a).append (zx _ _)
  · rw[h4]
    unfold tG
    rw[pT e h3,pT e h3,pT e h3]
    rcases hk with ⟨rfl,hc⟩|⟨rfl,hc⟩|⟨rfl,hc⟩<;>(subst hc;rw[ha];simp)<;>(split<;>(try simp)<;>(try omega))
theorem jx.hit (H:jx o x1 rs gl n) (e:rs=a++(k,v)::b) (hf:bW x1 k=some c) (hc:c=true):jx o x1 (a++b) gl (n+k):=by
  have:=H.step e hf
  rwa[aL hc] at this
theorem jx.jd (H:jx o x1 rs gl n) (e:rs=a++(k,v)::b) (hf:bW x1 k=some c) (hc:c=false):jx o x1 (a++b) gl n:=by
  have:=H.step e hf
  rwa[aB (by simp[hc])] at this
theorem jx.PU (H:jx o x1 rs gl n) (e:rs=a++(k,v)::b) (hf:bW x1 k=some c):
    Value.int .i64 (IntKind.wrap .i64 (((BitVec.ofInt (IntKind.bits .i64) n ||| BitVec.ofInt (IntKind.bits .i64) k).toNat:Nat):Int))=.int .i64 (n+k):=by
  have hk:=H.key hf
  have ha:=jx.any e
  obtain⟨h1,h2,h3,h4⟩:=H
  rw[h4]
  unfold tG
  rcases hk with ⟨rfl,hc⟩|⟨rfl,hc⟩|⟨rfl,hc⟩<;>rw[ha]<;>simp only[ng,uY,fZ,de]<;>(split<;>split<;>(try split)<;>rfl)
theorem jx.iN (H:jx o x1 rs gl n) (e:rs=[]):n=iy o:=by
  obtain⟨_,_,_,h4⟩:=H
  subst e
  rw[h4]
  unfold tG iy jI
  simp
end
theorem It {x:Int} (h0:0≤x) (h7:x≤7):Value.int .i64 (IntKind.wrap .i64 (((BitVec.ofInt (IntKind.bits .i64) x &&& BitVec.ofInt (IntKind.bits .i64) (1:Int)).toNat:Nat):Int))=.int .i64 (x % 2):=by
  have:x=0∨x=1∨x=2∨x=3∨x=4∨x=5∨x=6∨x=7:=by omega
  rcases this with rfl|rfl|rfl|rfl|rfl|rfl|rfl|rfl<;>rfl
theorem Iu {x:Int} (h0:0≤x) (h7:x≤7):Value.int .i64 (IntKind.wrap .i64 (((BitVec.ofInt (IntKind.bits .i64) x &&& BitVec.ofInt (IntKind.bits .i64) (2:Int)).toNat:Nat):Int))=.int .i64 (x / 2 % 2*2):=by
  have:x=0∨x=1∨x=2∨x=3∨x=4∨x=5∨x=6∨x=7:=by omega
  rcases this with rfl|rfl|rfl|rfl|rfl|rfl|rfl|rfl<;>rfl
theorem Iv {x:Int} (h0:0≤x) (h7:x≤7):Value.int .i64 (IntKind.wrap .i64 (((BitVec.ofInt (IntKind.bits .i64) x &&& BitVec.ofInt (IntKind.bits .i64) (4:Int)).toNat:Nat):Int))=.int .i64 (x / 4 % 2*4):=by
  have:x=0∨x=1∨x=2∨x=3∨x=4∨x=5∨x=6∨x=7:=by omega
  rcases this with rfl|rfl|rfl|rfl|rfl|rfl|rfl|rfl<;>rfl
theorem tH {o:aC} (h:dV false o=true∨dV true o=true):eD (mj o)=(gC (mj o),0)∧(-1≤o.ak∧o.ak<1099511627776)∧o.aH.length≤4∧∀x∈o.aH,dV true x=true:=by
  rcases h with h|h
  · obtain⟨_,h1,_,h2,h3⟩:=oN h;exact⟨Ij h,h1,h2,h3⟩
  · obtain⟨_,h1,_,h2,h3⟩:=oN h;exact⟨Ij h,h1,h2,h3⟩
theorem getD_at {α:Type} {l:List α} {k:Nat} {x d:α} (h:l[k]?=some x):l.getD k d=x:=by rw[Cv,h];rfl
theorem Iw:∀(n:Nat) (b:aj) (os:List Int),(∀x∈os,0≤x∧x<4611686018427387904)→∀x∈(mL n b os).1,0≤x∧x<4611686018427387904
  |n,[],os,h=>by cases n<;>exact h
  |0,_::_,os,h=>fun x hx=>by cases hx
  |n+1,c::r,os,h=>by
   rw[mL]
   · split
     · intro x hx;cases hx
     · rename_i he
       refine Iw n _ _ fun x hx=>?_
       rcases cU.1 hx with hx|hx
       · exact h x hx
       · have hb:=kg (b:=c::r) (xp he)
         rw[gv.1 hx]
         exact⟨hb.1,hb.2.1⟩
   · simp
theorem PV {b:aj} {x:Int} (h:x∈(bH b).1):0≤x∧x<4611686018427387904:=Iw _ _ _ (fun x hx=>by cases hx) x h
theorem Ix:∀(n:Nat) (b:aj) (os:List aj),(os.length≤1024∧∀x∈os,x.length≤65536)→(lS n b os).1.length≤1024∧∀x∈(lS n b os).1,x.length≤65536
  |n,[],os,h=>by cases n<;>exact h
  |0,_::_,os,h=>⟨by simp[lS],fun x hx=>by cases hx⟩
  |n+1,c::r,os,h=>by
   rw[lS]
   · split
     · exact⟨by simp,fun x hx=>by cases hx⟩
     · rename_i h1
       split
       · exact⟨by simp,fun x hx=>by cases hx⟩
       · split
         · exact⟨by simp,fun x hx=>by cases hx⟩
         · rename_i h2
           split
           · exact⟨by simp,fun x hx=>by cases hx⟩
           · refine Ix n _ _ ⟨?_,fun x hx=>?_⟩
             · rw[b_,qz];omega
             · rcases cU.1 hx with hx|hx
               · exact h.2 x hx
               · rw[gv.1 hx,dD];omega
   · simp
theorem mR (b:aj):(aT b).1.length≤1024∧∀x∈(aT b).1,x.length≤65536:=Ix _ _ _ ⟨by simp,fun x hx=>by cases hx⟩
theorem xC {b x:aj} {k:Nat} (h:(aT b).1[k]?=some x):x.length≤65536:=(mR b).2 _ (cL h)
theorem CR {b x:aj} {n k:Nat} (h:((aT b).1.drop n)[k]?=some x):x.length≤65536:=(mR b).2 _ (G5 (cL h))
theorem nV {b:aj} {k:Nat} {y:Int} (h:(bH b).1[k]?=some y):0≤y∧y<4611686018427387904:=PV (cL h)
section
variable {b x0 x1 x2 x:aj} {bU:Bool} {y0 y1 y2 y3 i:Int} {ops:List aC} {ob one:aC} {n mr:Nat}
theorem Iy (u:(aT b).1[(0:Int).toNat]?=some x0) (s1:(aT b).1[(1:Int).toNat]?=some x1) (s2:(aT b).1[(2:Int).toNat]?=some x2) (v0:(bH x0).1[(0:Int).toNat]?=some y0) (v1:(bH x0).1[(1:Int).toNat]?=some y1)
    (v2:(bH x0).1[(2:Int).toNat]?=some y2) (v3:(bH x0).1[(3:Int).toNat]?=some y3):(⟨y0,x1,x2,y1-1,y2,y3 % 2 != (0:Int),y3 / 2 % 2*2 != (0:Int),y3 / 4 % 2*4 != (0:Int),ops⟩:aC)=pW b ops:=by
  unfold pW zS
  rw[getD_at (k:=0) u,getD_at (k:=1) s1,getD_at (k:=2) s2,getD_at (k:=0) v0,getD_at (k:=1) v1,getD_at (k:=2) v2,getD_at (k:=3) v3]
theorem zT (h:¬(aT b).2=0):iI bU b=false:=by unfold iI;simp[h]
theorem zU (h:((aT b).1.length:Int)<3):iI bU b=false:=by
  unfold iI
  rw[fU (p:=(3:Int)≤_) (by omega)];simp
theorem zV (hi:bU=true) (h:((aT b).1.length:Int)>3):iI bU b=false:=by
  unfold iI
  rw[fU (p:=((aT b).1.length:Int)≤3) (by omega),hi];simp
theorem rU (u:(aT b).1[(0:Int).toNat]?=some x0) (h:gK x0 4=false):iI bU b=false:=by
  unfold iI
  rw[getD_at (k:=0) u,h];simp
theorem rV (u:(aT b).1[(0:Int).toNat]?=some x0) (v3:(bH x0).1[(3:Int).toNat]?=some y3) (h:y3>7):iI bU b=false:=by
  unfold iI
  rw[getD_at (k:=0) u,getD_at (k:=3) v3,fU (p:=y3≤7) (by omega)];simp
theorem Iz (h1:(aT b).2=0) (h2:¬((aT b).1.length:Int)<3) (h3:bU=false∨¬((aT b).1.length:Int)>3) (u:(aT b).1[(0:Int).toNat]?=some x0) (h4:gK x0 4=true) (v3:(bH x0).1[(3:Int).toNat]?=some y3) (h5:¬y3>7):iI bU b=true:=by
  unfold iI
  rw[getD_at (k:=0) u,getD_at (k:=3) v3,h4,h1,eW (p:=(3:Int)≤_) (by omega),eW (p:=y3≤7) (by omega)]
  rcases h3 with h3|h3
  · rw[h3];rfl
  · rw[eW (p:=((aT b).1.length:Int)≤3) (by omega)];simp
theorem gT (h:iI bU b=false):aR bU b=(nU,false):=by unfold aR;rw[h];rfl
def tI (b:aj) (ob:aC) (i:Int):Prop:=ob=pW b ((((aT b).1.drop 3).take i.toNat).map fun x=>(aR true x).1)∧∀x∈((aT b).1.drop 3).take i.toNat,(aR true x).2=true
theorem IA (h:ob=pW b []):tI b ob 0:=⟨by rw[h];rfl,fun x hx=>by simp at hx⟩
theorem IB (H:tI b ob i) (h0:0≤i) (hx:((aT b).1.drop 3)[i.toNat]?=some x) (hok:(aR true x).2=true):tI b ⟨ob.Kind,ob.aa,ob.Data,ob.ak,ob.aJ,ob.aZ,ob.aN,ob.ah,ob.aH++[(aR true x).1]⟩ (i+1):=by
  obtain⟨h1,h2⟩:=H
  unfold tI
  rw[toNat_succ h0,fu hx]
  refine⟨by rw[h1];simp[pW,zS],fun y hy=>?_⟩
  rcases cU.1 hy with hy|hy
  · exact h2 y hy
  · rw[gv.1 hy];exact hok
theorem rW (hB:iI bU b=true) (hx:((aT b).1.drop 3)[i.toNat]?=some x) (hok:(aR true x).2=false):aR bU b=(nU,false):=by
  unfold aR
  rw[aL hB,aB]
  intro h
  rw[gR] at h
  have:=h x (cL hx)
  rw[←CQ,hok] at this
  cases this
theorem rX (hB:iI bU b=true) (H:tI b ob i) (h:¬i<(((aT b).1.drop 3).length:Int)):aR bU b=(ob,true):=by
  obtain⟨h1,h2⟩:=H
  rw[eR (by omega)] at h1 h2
  unfold aR
  rw[aL hB,aL]
  · rw[h1]
    simp only[CQ]
  · rw[gR]
    intro x hx
    rw[←CQ]
    exact h2 x hx
theorem IC (hB:iI bU b=true) (h0:0≤i) (h:i<(((aT b).1.drop 3).length:Int)) (hm:(if bU=true then 0 else 1)<mr+1):(if true=true then 0 else 1)<mr:=by
  cases bU with
  |false=>simp at hm ⊢;omega
  |true=>
   exfalso
   unfold iI at hB
   simp only[ng,qA,bO,cB] at hB
   rw[gx] at h
   omega
theorem zW (h:i<(((aT b).1.drop (3:Int).toNat).length:Int)) (u:(ob.aH.length:Int)=i):ob.aH.length≤1024:=by
  have:=(mR b).1
  rw[gx] at h
  omega
theorem PW (h1:(bH b).2=0):(((bH b).1.length:Int)==i)=gK b i:=by unfold gK;simp[h1]
theorem PX (h1:¬(bH b).2=0):false=gK b i:=by unfold gK;simp[h1]
theorem fE (h:gK b i=true):((bH b).1.length:Int)=i:=by unfold gK at h;simp at h;exact h.2
theorem zX (h:(b.length:Int)>1024):aK b=(nU,130):=by unfold aK;rw[aL (by omega)]
theorem rY (h:¬(b.length:Int)>1024) (h2:(aR false b).2=false∨dV false (aR false b).1=false):aK b=(nU,130):=by unfold aK;rw[aB (by omega),aL h2]
theorem zY (h:¬(b.length:Int)>1024) (h2:(aR false b).2=true) (h3:dV false (aR false b).1=true):aK b=((aR false b).1,0):=by unfold aK;rw[aB (by omega),aB (by simp[h2,h3])]
end
theorem zZ {l:List aj} {n k:Nat} (h:∀x∈l,x.length≤n):(l.getD k []).length≤n:=by
  rw[Cv]
  cases hk:l[k]? with
  |none=>exact gO _
  |some x=>exact h x (cL hk)
theorem CS (b:aj) (ops:List aC):cY (pW b ops)≤131073+gm ops:=by
  rw[rS]
  have h1:=zZ (k:=1) (mR b).2
  have h2:=zZ (k:=2) (mR b).2
  show 1+((aT b).1.getD 1 []).length+((aT b).1.getD 2 []).length+gm ops≤_
  omega
theorem xD:cY nU=1:=by unfold nU;rw[rS];rfl
theorem ID (b:aj):cY (mo b).1≤131073:=by
  unfold mo
  split
  · have:=CS b [];rw[gm] at this;exact this
  · rw[xD];omega
theorem z_ {n:Nat}:∀{l:List aC},(∀x∈l,cY x≤n)→gm l≤n*l.length
  |[],_=>by rw[gm];exact gO _
  |x::l,h=>by
   rw[gm,bL,Cq]
   have:=z_ (l:=l) fun y hy=>h y (by simp[hy])
   have:=h x (by simp)
   omega
theorem PY (b:aj):cY (aR false b).1≤1000000000:=by
  unfold aR
  split
  · split
    · refine cr (CS _ _) ?_
      have h1:=z_ (n:=131073) (l:=((aT b).1.drop 3).map fun x=>(mo x).1) (fun x hx=>by obtain⟨y,_,rfl⟩:=cF.1 hx;exact ID y)
      rw[eu,gx] at h1
      have:=(mR b).1
      have h2:131073*((aT b).1.length-3)≤131073*1024:=sS _ (by omega)
      omega
    · rw[xD];omega
  · rw[xD];omega
section
variable {C:fC} {ds:List Deferred} {i j:Nat} {r:av} {M:Nat→Prop} {Ls:List (Nat×Bool)} {e:Env} {h:av}
variable {h0:av} {g0:GH} {S0:Nat→Prop} {g:GH} {L:List au}
end
theorem Deep.row {h0:av} {g0:GH} {S0:Nat→Prop} {g:GH} {L:List au} {h:av} {α:Type} {T:TypeId} {d:Kd α} {v:Value} {xs:List α} {c u:au} (hr:aF T d (cQ gE u) v xs c) (s:St h0 g0 S0 g (c::u::L) h):
    ∃g',St h0 g0 S0 g' (c::L) h∧aG g g'∧aF T d g' v xs c:=by
  have s1:=s.pq (L':=u::c::L) (List.Perm.swap _ _ _)
  obtain⟨s2,D⟩:=St.freeze s1
  exact⟨_,s2,D,hr.mono (GR fun p hp=>s1.sep p (by simp[hp]))⟩
end Go.Proofs.YtpacclkciilmpaaGreatDoor.Sw
