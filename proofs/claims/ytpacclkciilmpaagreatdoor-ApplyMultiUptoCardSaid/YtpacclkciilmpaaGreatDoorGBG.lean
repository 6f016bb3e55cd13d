/- Lemmas for laws of this seat. -/
import Derived.Test.YtpacclkciilmpaaGreatDoorGBF
import Derived.Lib.SplitLaws
set_option maxHeartbeats 4000000
namespace Go.Proofs.YtpacclkciilmpaaGreatDoor.Sw
open Go.Proofs.Tryz
set_option linter.unusedVariables false
set_option linter.unusedSimpArgs false
set_option linter.deprecated false
open Go Go.RowKit
set_option linter.defProp false
def yN:=@Int.toNat_zero
def uB:=@List.take_zero
def qz:=@List.length_singleton
def eu:=@List.length_map
structure bh (g:GH):Prop where
  maxLen:∃m cs T fz,g 0=some (.cells cs T fz)∧cs[0]?=some (.int .i64 m)
theorem bh.mono {g g':GH} (H:bh g) (hg:aG g g'):bh g':=⟨let ⟨m,cs,T,fz,h,h2⟩:=H.maxLen;⟨m,cs,T,fz,hg _ _ h,h2⟩⟩
def l7 (g:GH):Prop:=∃T fz,g 1=some (.cells (Lib.pow10Tab.map fun z=>Value.int .u64 z).toArray T fz)
theorem l7.mono {g g':GH} (H:l7 g) (hg:aG g g'):l7 g':=let ⟨T,fz,h⟩:=H;⟨T,fz,hg _ _ h⟩
theorem St.below {g:GH} {h:av} (hg:bf g h) {B w w':World} (is:Is B h w) (hb:Below w.heap.size w w'):St h g (aM []) g [] w'.heap:=
  ⟨by rw[←is.heap];exact hb.size,fun b hb' _=>by rw[hb.block b (by rw[is.heap];exact hb'),is.heap],aG.refl _,fun _ hx=>.inl hx,
    fun b o hb'=>by rw[hb.block b (by rw[is.heap];exact hg.lt hb'),is.heap];exact hg b o hb',
    fun _ hp=>by simp at hp,by simp,fun _ hp=>by simp at hp,fun _ hp=>by simp at hp⟩
theorem Is.below {B:World} {h:av} {w w':World} (is:Is B h w) (hb:Below w.heap.size w w'):Is B w'.heap w':=
  ⟨rfl,hb.os.trans is.os,hb.tape.trans is.tape,hb.output.trans is.output⟩
theorem aA.yO {P:Program} {B:World} {f:FuncId} {args:Array Value} {h:av} {g:GH} {res:Value} (hg:bf g h)
    (H:∀w,Is B h w→Calls P f args w fun e w'=>e=.returned res∧Below w.heap.size w w'):aA P B f args h g [] fun v g' L'=>v=res∧g'=g∧L'=[]:=
  fun w is=>(H w is).mono fun _ _ ⟨he,hb⟩=>⟨res,he,is.below hb,g,[],St.below hg is hb,rfl,rfl,rfl⟩
theorem M0 (w:World) (k:Nat) (os:Array Obj):Below w.heap.size w (Go.Sort.grow (w.drewN k) os):=by
  refine⟨rfl,rfl,rfl,?_,fun b hb=>?_⟩
  · simp[Go.Sort.grow,World.drewN]
  · show(w.heap++os)[b]?=_
    rw[A2,aL hb]
theorem M1 (B:World) (h:av) (g:GH) (hg:bf g h) (u:bh g) (n:Int) (hP:l7 g) (h0: -9223372036854775808≤n) (h1:n≤9223372036854775807):
    aA prog B 156 #[.int .i64 n] h g [] fun v g' L'=>v=.string (a_ (Lib.itoa n))∧g'=g∧L'=[]:=by
  refine aA.yO hg fun w is=>?_
  refine(strconv_Itoa n h0 h1 w ?_).mono fun e w' ⟨he,k,os,hw⟩=>⟨he,hw▸M0 w k os⟩
  obtain⟨T,fz,ht⟩:=hP
  have hn:prog.globalNamed "internal/strconv.uint64pow10"=some 1:=by kernel_rfl
  unfold Lib.TabIs World.var?
  rw[hn]
  simp only[Option.bind_some,is.heap,hg _ _ ht]
theorem FA (c:UInt8):∀l:aj,Lib.splitK [c] 0 (Lib.count l [c]) l=splitOn c l
  |[]=>by rw[Lib.count_one];rfl
  |b::l=>by
   have ih:=FA c l
   by_cases hb:b=c
   · subst hb
     rw[Lib.count_cons_eq,wv,splitOn,aL rfl,Lib.splitK]
     have hi:Lib.index (b::l) [b]=0:=by rw[Lib.index];simp[List.isPrefixOf]
     rw[hi,aB (by decide)]
     simp only[yN,m_,uB,qu,qz,List.drop_one,List.tail_cons,ih]
   · rw[Lib.count_cons_ne b c l hb,splitOn,aB hb,←ih]
     have hp:([c]:aj).isPrefixOf (b::l)=false:=by simp[List.isPrefixOf,Ne.symm hb]
     have u:Lib.index (b::l) [c]=if Lib.index l [c]== -1 then -1 else Lib.index l [c]+1:=by rw[Lib.index,hp];simp
     cases hk:Lib.count l [c] with
     |zero=>rfl
     |succ k=>
      simp only[Lib.splitK,u]
      by_cases hm:Lib.index l [c]= -1
      · simp[hm]
      · have G:=Lib.index_ge l [c]
        have hm2:(Lib.index l [c]== -1)=false:=by simpa using hm
        have D:¬(Lib.index l [c]+1= -1):=by omega
        have e:(Lib.index l [c]+1).toNat=(Lib.index l [c]).toNat+1:=by omega
        simp[hm2,D,e]
theorem M3 (s sep:ByteArray) (u k:Nat):(Lib.splitB sep u k s)=(Lib.splitK sep.data.toList u k s.data.toList).map a_:=by
  rw[←Lib.splitB_data,jr]
  have:(a_ ∘ fun x:ByteArray=>x.data.toList)=id:=by funext x;exact E3 x
  rw[this,sL]
theorem Br (g:GH):∀l:List aj,Reads ew g l (l.map fun x=>.string (a_ x))
  |[]=>rfl
  |x::l=>⟨[.string (a_ x)],_,rfl,rfl,Br g l⟩
theorem M4 (B:World) (h:av) (g:GH) (hg:bf g h) (D:bh g) (s:aj) (c:UInt8) (hs:s.length<4294967281):
    aA prog B 162 #[.string (a_ s),.string (a_ [c])] h g [] fun v g' L'=>∃v0,v=v0∧ay g' 9 ew v0 (splitOn c s)∧L'=[]:=by
  obtain⟨m,I,T,fz,ht,G⟩:=D.maxLen
  intro w is
  have hcell:w.cell? ⟨0,0,none⟩=some (.int .i64 m):=by rw[cell_of is.heap,oy (hg _ _ ht)];exact G
  refine(strings_Split (a_ s) (a_ [c]) m w (by rw[pz];exact hs) hcell (by simp[pz])).mono fun e w' ⟨he,hw⟩=>?_
  have u:Lib.countB (a_ s) (a_ [c])=Lib.count s [c]:=rfl
  have hrow:(Lib.splitB (a_ [c]) 0 (Lib.countB (a_ s) (a_ [c])) (a_ s)).map Value.string=(splitOn c s).map fun x=>.string (a_ x):=by
    rw[M3,u]
    show((Lib.splitK [c] 0 (Lib.count s [c]) s).map a_).map Value.string=_
    rw[FA,jr];rfl
  have hlen:Lib.countB (a_ s) (a_ [c])+1=(splitOn c s).length:=by rw[Bq,u,Lib.count_one]
  rw[hrow] at hw
  rw[hlen] at he
  have hh:w'.heap=h.push (.cells ((splitOn c s).map fun x=>Value.string (a_ x)).toArray 9 (0,0)):=by rw[hw,←is.heap];rfl
  have s1:=(St.init hg).alloc (.cells ((splitOn c s).map fun x=>Value.string (a_ x)).toArray 9 (0,0))
  obtain⟨s2,hle⟩:=s1.freeze
  refine⟨_,he,⟨rfl,?_,?_,?_⟩,cQ g [(h.size,.cells ((splitOn c s).map fun x=>Value.string (a_ x)).toArray 9 (0,0))],[],?_,_,rfl,
    ⟨_,_,rfl,iO _,fun _=>⟨_,_,((splitOn c s).map fun x=>Value.string (a_ x)).toArray,(9,0,0),rfl,?_,?_⟩⟩,rfl⟩
  · rw[hw];exact is.os
  · rw[hw];exact is.tape
  · rw[hw];exact is.output
  · rw[hh];exact s2
  · rw[is.heap];exact iQ _ _
  · exact wB (cs:=(splitOn c s).map fun x=>Value.string (a_ x)) (pre:=[]) (post:=[]) (o:=0) (Br _ _) rfl _ (by simp)
theorem dropWhile_nil {α:Type} (p:α→Bool):∀l:List α,(l.dropWhile p=[]↔∀x∈l,p x=true)
  |[]=>by simp
  |x::l=>by
   rw[List.dropWhile_cons]
   by_cases hx:p x=true
   · simp[hx,dropWhile_nil p l]
   · simp[hx]
theorem M5 (l cs:aj):Lib.trimS l cs=[]↔∀b∈l,cs.contains b=true:=by
  unfold Lib.trimS Lib.trimLeftS Lib.trimRightS
  rw[dropWhile_nil]
  constructor
  · intro H b hb
    by_cases hall:∀x∈l,cs.contains x=true
    · exact hall b hb
    · exfalso
      have hne:l.reverse.dropWhile (cs.contains ·)≠[]:=by rw[Ne,dropWhile_nil];simpa using hall
      obtain⟨y,ys,e⟩:=List.exists_cons_of_ne_nil hne
      have h1:=H y (by rw[e];simp)
      have h2:=List.head_dropWhile_not (p:=(cs.contains ·)) (l:=l.reverse) hne
      simp only[e,List.head_cons] at h2
      rw[h1] at h2;cases h2
  · intro H b hb
    have:=List.dropWhile_sublist (cs.contains ·) (l:=l.reverse)
    exact H b (by simpa using this.mem (by simpa using hb))
theorem M6 (B:World) (h:av) (g:GH) (hg:bf g h) (u:bh g) (s cs:aj) (hs:s.length≤9223372036854775807) (hc:cs.length<4294967281) (ha:∀(j:Nat) b,cs[j]?=some b→b.toNat<128):
    aA prog B 186 #[.string (a_ s),.string (a_ cs)] h g [] fun v g' L'=>v=.string (a_ (Lib.trimS s cs))∧g'=g∧L'=[]:=by
  refine aA.yO hg fun w is=>?_
  exact(Any.strings_Trim_laid MR (by kernel_rfl) (a_ s) (a_ cs) w (by rw[pz];exact hs) (by rw[pz];exact hc) ha)
theorem M7 (B:World) (h:av) (g:GH) (hg:bf g h) (u:bh g) (s:aj) (c:Int) (h0:0≤c) (hc:c≤1000000000) (hs:s.length*c.toNat≤140737488355328):
    aA prog B 158 #[.string (a_ s),.int .i64 c] h g [] fun v g' L'=>v=.string (a_ (Lib.repeatL s c.toNat))∧g'=g∧L'=[]:=by
  refine aA.yO hg fun w is=>?_
  have:=strings_Repeat (a_ s) c.toNat w (by omega) (by rw[pz];exact hs)
  rw[show((c.toNat:Nat):Int)=c from by omega] at this
  exact this
theorem M8 (B:World) (h:av) (g:GH) (hg:bf g h) (G:bh g) (u:Value) (l:List aj) (D:ay g 9 ew u l) (sep:aj) (hN:l.length≤140737488355328) (hL:(Lib.join l sep).length≤140737488355328):
    aA prog B 153 #[u,.string (a_ sep)] h g [] fun v g' L'=>v=.string (a_ (Lib.join l sep))∧g'=g∧L'=[]:=by
  refine aA.yO hg fun w is=>?_
  obtain⟨ao,c,rfl,hc,H⟩:=D
  by_cases hl:l=[]
  · subst hl
    exact(strings_Join_none ao c (a_ sep) w).mono fun e w' ⟨he,hw⟩=>⟨he,hw▸Below.refl _ _⟩
  · obtain⟨b,o,cur,fz,rfl,hb,hr⟩:=H hl
    have hmap:(l.map a_).map (fun x:ByteArray=>x.data.toList)=l:=by
      rw[jr]
      have:((fun x:ByteArray=>x.data.toList) ∘ a_)=id:=by funext x;rfl
      rw[this,sL]
    have hlen:(l.map a_).length=l.length:=eu ..
    have:=strings_Join b o c (l.map a_) (a_ sep) w (fun j x hj=>?_) (by rw[is.heap];exact hg.lt hb) (by rw[hlen];exact hN) (by rw[hlen];exact hc) (by rw[hmap];exact hL)
    · rw[hlen,hmap] at this
      exact this
    · rw[jM] at hj
      obtain⟨y,hy,rfl⟩:=q6.1 hj
      have h2:=hr.br j hy
      rw[sR _ _ _ _ _ (by
        have hlt:=(dL.1 hy).1
        have:(j+1)*ew.sz≤l.length*ew.sz:=iC _ hlt
        rw[kZ] at this
        exact this)] at h2
      rw[cell_of is.heap,oy (hg _ _ hb)]
      have h3:cut cur (o+j*1) 1=[.string (a_ y)]:=h2
      have:=cT h3 0 rfl
      simpa using this
end Go.Proofs.YtpacclkciilmpaaGreatDoor.Sw
