/- Lemmas for laws of this seat. -/
import Derived.Test.YtdinkjbfgcfccaaGreatDoorPBF
import Derived.Lib.SplitLaws
set_option maxHeartbeats 4000000
namespace Go.Proofs.YtdinkjbfgcfccaaGreatDoor.Sw
open Go.Proofs.Tryz
set_option linter.unusedVariables false
set_option linter.unusedSimpArgs false
set_option linter.deprecated false
open Go Go.RowKit
set_option linter.defProp false
def uB:=@List.take_zero
def oI:=@List.length_singleton
def ew:=@List.length_map
structure bz (g:GH):Prop where
  maxLen:∃m cs T fz,g 0=some (.cells cs T fz)∧cs[0]?=some (.int .i64 m)
theorem bz.mono {g g':GH} (H:bz g) (hg:aM g g'):bz g':=⟨let ⟨m,cs,T,fz,h,h2⟩:=H.maxLen;⟨m,cs,T,fz,hg _ _ h,h2⟩⟩
def l_ (g:GH):Prop:=∃T fz,g 1=some (.cells (Lib.pow10Tab.map fun z=>Value.int .u64 z).toArray T fz)
theorem l_.mono {g g':GH} (H:l_ g) (hg:aM g g'):l_ g':=let ⟨T,fz,h⟩:=H;⟨T,fz,hg _ _ h⟩
theorem St.below {g:GH} {h:ay} (hg:bu g h) {B w w':World} (is:Is B h w) (hb:Below w.heap.size w w'):St h g (aS []) g [] w'.heap:=
  ⟨by rw[←is.heap];exact hb.size,fun b hb' _=>by rw[hb.block b (by rw[is.heap];exact hb'),is.heap],aM.refl _,fun _ hx=>.inl hx,
    fun b o hb'=>by rw[hb.block b (by rw[is.heap];exact hg.lt hb'),is.heap];exact hg b o hb',
    fun _ hp=>by simp at hp,by simp,fun _ hp=>by simp at hp,fun _ hp=>by simp at hp⟩
theorem Is.below {B:World} {h:ay} {w w':World} (is:Is B h w) (hb:Below w.heap.size w w'):Is B w'.heap w':=
  ⟨rfl,hb.os.trans is.os,hb.tape.trans is.tape,hb.output.trans is.output⟩
theorem aG.yy {P:Program} {B:World} {f:FuncId} {args:Array Value} {h:ay} {g:GH} {res:Value} (hg:bu g h)
    (H:∀w,Is B h w→Calls P f args w fun e w'=>e=.returned res∧Below w.heap.size w w'):aG P B f args h g [] fun v g' L'=>v=res∧g'=g∧L'=[]:=
  fun w is=>(H w is).mono fun _ _ ⟨he,hb⟩=>⟨res,he,is.below hb,g,[],St.below hg is hb,rfl,rfl,rfl⟩
theorem MG (w:World) (k:Nat) (os:Array Obj):Below w.heap.size w (Go.Sort.grow (w.drewN k) os):=by
  refine⟨rfl,rfl,rfl,?_,fun b hb=>?_⟩
  · simp[Go.Sort.grow,World.drewN]
  · show(w.heap++os)[b]?=_
    rw[A6,aY hb]
theorem MH (B:World) (h:ay) (g:GH) (hg:bu g h) (u:bz g) (n:Int) (hP:l_ g) (h0: -9223372036854775808≤n) (h1:n≤9223372036854775807):
    aG prog B 164 #[.int .i64 n] h g [] fun v g' L'=>v=.string (br (Lib.itoa n))∧g'=g∧L'=[]:=by
  refine aG.yy hg fun w is=>?_
  refine(strconv_Itoa n h0 h1 w ?_).mono fun e w' ⟨he,k,os,hw⟩=>⟨he,hw▸MG w k os⟩
  obtain⟨T,fz,ht⟩:=hP
  have hn:prog.globalNamed "internal/strconv.uint64pow10"=some 1:=by kernel_rfl
  unfold Lib.TabIs World.var?
  rw[hn]
  simp only[Option.bind_some,is.heap,hg _ _ ht]
theorem FI (c:UInt8):∀l:aj,Lib.splitK [c] 0 (Lib.count l [c]) l=splitOn c l
  |[]=>by rw[Lib.count_one];rfl
  |b::l=>by
   have ih:=FI c l
   by_cases hb:b=c
   · subst hb
     rw[Lib.count_cons_eq,wz,splitOn,aY rfl,Lib.splitK]
     have hi:Lib.index (b::l) [b]=0:=by rw[Lib.index];simp[List.isPrefixOf]
     rw[hi,aL (by decide)]
     simp only[Int.toNat_zero,nq,uB,qw,oI,List.drop_one,List.tail_cons,ih]
   · rw[Lib.count_cons_ne b c l hb,splitOn,aL hb,←ih]
     have hp:([c]:aj).isPrefixOf (b::l)=false:=by simp[List.isPrefixOf,Ne.symm hb]
     have u:Lib.index (b::l) [c]=if Lib.index l [c]== -1 then -1 else Lib.index l [c]+1:=by rw[Lib.index,hp];simp
     cases hk:Lib.count l [c] with
     |zero=>rfl
     |succ k=>
      simp only[Lib.splitK,u]
      by_cases hm:Lib.index l [c]= -1
      · simp[hm]
      · have G:=Lib.index_ge l [c]
        have hm2:(Lib.index l [c]== -1)=false:=by simpa using hm
        have D:¬(Lib.index l [c]+1= -1):=by omega
        have e:(Lib.index l [c]+1).toNat=(Lib.index l [c]).toNat+1:=by omega
        simp[hm2,D,e]
theorem MI (s sep:ByteArray) (u k:Nat):(Lib.splitB sep u k s)=(Lib.splitK sep.data.toList u k s.data.toList).map br:=by
  rw[←Lib.splitB_data,jA]
  have:(br ∘ fun x:ByteArray=>x.data.toList)=id:=by funext x;exact Bg x
  rw[this,uq]
theorem Bw (g:GH):∀l:List aj,Reads cV g l (l.map fun x=>.string (br x))
  |[]=>rfl
  |x::l=>⟨[.string (br x)],_,rfl,rfl,Bw g l⟩
theorem MJ (B:World) (h:ay) (g:GH) (hg:bu g h) (D:bz g) (s:aj) (c:UInt8) (hs:s.length<4294967281):
    aG prog B 183 #[.string (br s),.string (br [c])] h g [] fun v g' L'=>∃v0,v=v0∧an g' 9 cV v0 (splitOn c s)∧L'=[]:=by
  obtain⟨m,I,T,fz,ht,G⟩:=D.maxLen
  intro w is
  have hcell:w.cell? ⟨0,0,none⟩=some (.int .i64 m):=by rw[cell_of is.heap,oG (hg _ _ ht)];exact G
  refine(strings_Split (br s) (br [c]) m w (by rw[pE];exact hs) hcell (by simp[pE])).mono fun e w' ⟨he,hw⟩=>?_
  have u:Lib.countB (br s) (br [c])=Lib.count s [c]:=rfl
  have hrow:(Lib.splitB (br [c]) 0 (Lib.countB (br s) (br [c])) (br s)).map Value.string=(splitOn c s).map fun x=>.string (br x):=by
    rw[MI,u]
    show((Lib.splitK [c] 0 (Lib.count s [c]) s).map br).map Value.string=_
    rw[FI,jA];rfl
  have hlen:Lib.countB (br s) (br [c])+1=(splitOn c s).length:=by rw[Bv,u,Lib.count_one]
  rw[hrow] at hw
  rw[hlen] at he
  have hh:w'.heap=h.push (.cells ((splitOn c s).map fun x=>Value.string (br x)).toArray 9 (0,0)):=by rw[hw,←is.heap];rfl
  have s1:=(St.init hg).alloc (.cells ((splitOn c s).map fun x=>Value.string (br x)).toArray 9 (0,0))
  obtain⟨s2,hle⟩:=s1.freeze
  refine⟨_,he,⟨rfl,?_,?_,?_⟩,cS g [(h.size,.cells ((splitOn c s).map fun x=>Value.string (br x)).toArray 9 (0,0))],[],?_,_,rfl,
    ⟨_,_,rfl,gF _,fun _=>⟨_,_,((splitOn c s).map fun x=>Value.string (br x)).toArray,(9,0,0),rfl,?_,?_⟩⟩,rfl⟩
  · rw[hw];exact is.os
  · rw[hw];exact is.tape
  · rw[hw];exact is.output
  · rw[hh];exact s2
  · rw[is.heap];exact iK _ _
  · exact wC (cs:=(splitOn c s).map fun x=>Value.string (br x)) (pre:=[]) (post:=[]) (o:=0) (Bw _ _) rfl _ (by simp)
theorem dropWhile_nil {α:Type} (p:α→Bool):∀l:List α,(l.dropWhile p=[]↔∀x∈l,p x=true)
  |[]=>by simp
  |x::l=>by
   rw[List.dropWhile_cons]
   by_cases hx:p x=true
   · simp[hx,dropWhile_nil p l]
   · simp[hx]
theorem MK (l cs:aj):Lib.trimS l cs=[]↔∀b∈l,cs.contains b=true:=by
  unfold Lib.trimS Lib.trimLeftS Lib.trimRightS
  rw[dropWhile_nil]
  constructor
  · intro H b hb
    by_cases hall:∀x∈l,cs.contains x=true
    · exact hall b hb
    · exfalso
      have hne:l.reverse.dropWhile (cs.contains ·)≠[]:=by rw[Ne,dropWhile_nil];simpa using hall
      obtain⟨y,ys,e⟩:=List.exists_cons_of_ne_nil hne
      have h1:=H y (by rw[e];simp)
      have h2:=List.head_dropWhile_not (p:=(cs.contains ·)) (l:=l.reverse) hne
      simp only[e,List.head_cons] at h2
      rw[h1] at h2;cases h2
  · intro H b hb
    have:=List.dropWhile_sublist (cs.contains ·) (l:=l.reverse)
    exact H b (by simpa using this.mem (by simpa using hb))
theorem ML (B:World) (h:ay) (g:GH) (hg:bu g h) (u:bz g) (s cs:aj) (hs:s.length≤9223372036854775807) (hc:cs.length<4294967281) (ha:∀(j:Nat) b,cs[j]?=some b→b.toNat<128):
    aG prog B 207 #[.string (br s),.string (br cs)] h g [] fun v g' L'=>v=.string (br (Lib.trimS s cs))∧g'=g∧L'=[]:=by
  refine aG.yy hg fun w is=>?_
  exact(Any.strings_Trim_laid Mx (by kernel_rfl) (br s) (br cs) w (by rw[pE];exact hs) (by rw[pE];exact hc) ha)
theorem MM (B:World) (h:ay) (g:GH) (hg:bu g h) (u:bz g) (s:aj) (c:Int) (h0:0≤c) (hc:c≤1000000000) (hs:s.length*c.toNat≤140737488355328):
    aG prog B 166 #[.string (br s),.int .i64 c] h g [] fun v g' L'=>v=.string (br (Lib.repeatL s c.toNat))∧g'=g∧L'=[]:=by
  refine aG.yy hg fun w is=>?_
  have:=strings_Repeat (br s) c.toNat w (by omega) (by rw[pE];exact hs)
  rw[show((c.toNat:Nat):Int)=c from by omega] at this
  exact this
theorem MN (B:World) (h:ay) (g:GH) (hg:bu g h) (G:bz g) (u:Value) (l:List aj) (D:an g 9 cV u l) (sep:aj) (hN:l.length≤140737488355328) (hL:(Lib.join l sep).length≤140737488355328):
    aG prog B 160 #[u,.string (br sep)] h g [] fun v g' L'=>v=.string (br (Lib.join l sep))∧g'=g∧L'=[]:=by
  refine aG.yy hg fun w is=>?_
  obtain⟨ao,c,rfl,hc,H⟩:=D
  by_cases hl:l=[]
  · subst hl
    exact(strings_Join_none ao c (br sep) w).mono fun e w' ⟨he,hw⟩=>⟨he,hw▸Below.refl _ _⟩
  · obtain⟨b,o,cur,fz,rfl,hb,hr⟩:=H hl
    have hmap:(l.map br).map (fun x:ByteArray=>x.data.toList)=l:=by
      rw[jA]
      have:((fun x:ByteArray=>x.data.toList) ∘ br)=id:=by funext x;rfl
      rw[this,uq]
    have hlen:(l.map br).length=l.length:=ew ..
    have:=strings_Join b o c (l.map br) (br sep) w (fun j x hj=>?_) (by rw[is.heap];exact hg.lt hb) (by rw[hlen];exact hN) (by rw[hlen];exact hc) (by rw[hmap];exact hL)
    · rw[hlen,hmap] at this
      exact this
    · rw[jC] at hj
      obtain⟨y,hy,rfl⟩:=q5.1 hj
      have h2:=hr.bB j hy
      rw[ux _ _ _ _ _ (by
        have hlt:=(fO.1 hy).1
        have:(j+1)*cV.sz≤l.length*cV.sz:=iB _ hlt
        rw[mP] at this
        exact this)] at h2
      rw[cell_of is.heap,oG (hg _ _ hb)]
      have h3:cut cur (o+j*1) 1=[.string (br y)]:=h2
      have:=bN h3 0 rfl
      simpa using this
end Go.Proofs.YtdinkjbfgcfccaaGreatDoor.Sw
