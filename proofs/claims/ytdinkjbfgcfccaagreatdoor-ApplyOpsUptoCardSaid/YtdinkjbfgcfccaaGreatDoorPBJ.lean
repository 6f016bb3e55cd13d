/- Lemmas for laws of this seat. -/
import Derived.Test.YtdinkjbfgcfccaaGreatDoorPBI
import Derived.MapKept
set_option maxHeartbeats 4000000
namespace Go.Proofs.YtdinkjbfgcfccaaGreatDoor.Sw
open Go.Proofs.Tryz
set_option linter.unusedVariables false
set_option linter.unusedSimpArgs false
set_option linter.deprecated false
set_option linter.unusedSectionVars false
open Go Go.MapKept
set_option linter.defProp false
def sY:=@List.pairwise_map
def uE:=@decide_false
def wO:=@Prod.ext
def qC:=@List.any_eq_true
def FR:=@List.getElem?_modify
def BG:=@List.getElem?_inj
def pN:=@List.filter_eq_self
def iW:=@List.filter_cons
def sZ:=@decide_true
def nW:=@Bool.not_true
def FT:=@List.eraseIdx_cons_zero
def FU:=@List.eraseIdx_cons_succ
def ga:=@List.Perm.refl
def wP:=@Array.toList_filter
def ic:=@List.mem_filter
def jE:=@decide_eq_false_iff_not
def BH:=@Array.filter_eq_self
def FV:=@Array.filter_eq_empty_iff
def yC:=@Array.size_pos_iff
def BI:=@Array.size_map
def yD:=@Array.getElem?_eq_getElem
def FW:=@List.Perm.append_left
def FX:=@Array.find?_eq_none
def FY:=@Array.mem_of_find?_eq_some
def pO:=@List.mem_iff_getElem?
def gI:=@Option.some.inj
def iX:=@of_decide_eq_true
def kW:=@of_decide_eq_false
def gb:=@decide_eq_true
def gx:=@List.all_eq_true
def BJ:=@List.mem_map_of_mem
def iN:=@Bool.eq_iff_iff
def rz:=@List.isPrefixOf_iff_prefix
def wQ:=@Bool.not_eq_true
def lK:=@Bool.true_and
def gQ:=@decide_eq_false
def BK:=@List.any_cons
def s6:=@Bool.false_or
def cN:=@decide_eq_true_eq
def nt:=@true_or
def nv:=@or_true
def rB:=@List.prefix_refl
def BL:=@List.prefix_append
def BM:=@Nat.pow_pos
def FZ:=@List.dropLast_subset
def wR:=@Bool.or_eq_false_iff
def rD:=@Bool.and_eq_false_iff
def qD:=@beq_eq_false_iff_ne
def jF:=@List.pairwise_cons
def s7:=@List.Pairwise.sublist
def oL:=@List.filter_sublist
def kX:=@List.length_filter_le
def nX:=@List.filter_append
def s9:=@List.filter_map
def wS:=@List.filter_congr
def yE:=@List.Perm.eq_of_pairwise
def uF:=@List.pairwise_mergeSort
def uG:=@List.mergeSort_perm
def BN:=@Array.ext_getElem?
def F0:=@Array.getElem?_mapIdx
def wT:=@List.getElem?_append
def yF:=@List.getElem?_take_of_lt
def rE:=@List.getElem?_drop
def F1:=@List.getElem?_append_left
def yG:=@Nat.zero_mul
def uH:=@List.Nodup.sublist
def bG:=@Nat.lt_succ_self
def yH:=@Nat.one_mul
def yI:=@List.Perm.length_eq
def uI:=@bne_iff_ne
def F2:=@List.length_reverse
structure ku {κ:Type} (d:TypeDesc) (enc:κ→Value):Prop where
  ok:∀k,IsKey d (enc k)
  inj:∀a b,enc a=enc b→a=b
def encS (p:aj):Value:=.string (br p)
def encI (n:Int):Value:=.int .i64 n
theorem kz:ku .string encS:=⟨fun _=>trivial,fun a b h=>Mb (by simpa[encS] using h)⟩
theorem kC:ku (.int .i64) encI:=⟨fun _=>rfl,fun a b h=>by simpa[encI] using h⟩
def cG {κ:Type} (enc:κ→Value) (es:Array MapEntry) (aZ:Nat) (ks:List (κ×Value)):Prop:=
  es.toList.map (fun e=>(e.key,e.val))=ks.map (fun p=>(enc p.1,p.2))∧Stamped es aZ
def fq {κ:Type} [DecidableEq κ] (ks:List (κ×Value)) (k:κ):Option Value:=(ks.find? fun p=>decide (p.1=k)).map (·.2)
def gR {κ:Type} [DecidableEq κ] (ks:List (κ×Value)) (k:κ) (v:Value):List (κ×Value):=
  if ks.any (fun p=>decide (p.1=k)) then ks.map (fun p=>if p.1=k then (p.1,v) else p) else ks++[(k,v)]
def jm {κ:Type} [DecidableEq κ] (ks:List (κ×Value)) (k:κ):List (κ×Value):=ks.filter fun p=>!decide (p.1=k)
theorem cG.empty {κ:Type} (enc:κ→Value) (aZ:Nat):cG enc #[] aZ ([]:List (κ×Value)):=⟨rfl,stamped_empty aZ⟩
section
variable {κ:Type} [DecidableEq κ] {d:TypeDesc} {enc:κ→Value} {es:Array MapEntry} {aZ:Nat} {ks:List (κ×Value)}
theorem cG.get (hR:cG enc es aZ ks) (i:Nat):(es[i]?).map (fun e=>(e.key,e.val))=(ks[i]?).map fun p=>(enc p.1,p.2):=by
  have:=congrArg (fun l=>l[i]?) hR.1
  simpa using this
theorem cG.oJ (hK:ku d enc) (hR:cG enc es aZ ks):∀x∈es.toList,IsKey d x.key:=by
  intro x hx
  have:(x.key,x.val)∈es.toList.map (fun e=>(e.key,e.val)):=cY.2 ⟨x,hx,rfl⟩
  rw[hR.1] at this
  obtain⟨p,hp,e⟩:=cY.1 this
  simp only[gY] at e
  rw[←e.1]
  exact hK.ok _
theorem cG.nodup (hK:ku d enc) (hR:cG enc es aZ ks):(ks.map (·.1)).Nodup:=by
  have h:=hR.2.2.2
  have e:es.toList.map (·.key)=ks.map (fun p=>enc p.1):=by
    have:=congrArg (fun l=>l.map Prod.fst) hR.1
    simpa[jA,Function.comp_def] using this
  rw[e] at h
  rw[List.Nodup,sY] at h ⊢
  exact h.imp fun hne he=>hne (by rw[he])
theorem cG.size (hR:cG enc es aZ ks):es.size=ks.length:=by
  have:=congrArg List.length hR.1
  simpa using this
theorem BO {k:κ} (h:∀p∈ks,p.1≠k):fq ks k=none:=by
  unfold fq
  rw[List.find?_eq_none.2 (fun p hp=>by simpa using h p hp)]
  rfl
theorem BP (hn:(ks.map (·.1)).Nodup) {j:Nat} {p:κ×Value} (hp:ks[j]?=some p):fq ks p.1=some p.2:=by
  induction ks generalizing j with
  |nil=>simp at hp
  |cons q ks ih=>
   rw[eS,pL] at hn
   unfold fq
   rw[wJ]
   cases j with
   |zero=>simp at hp;subst hp;simp
   |succ j=>
    have u:ks[j]?=some p:=by simpa using hp
    have hne:q.1≠p.1:=fun e=>hn.1 (e▸cY.2 ⟨p,bY u,rfl⟩)
    simp only[hne,uE]
    exact ih hn.2 u
theorem cG.find (hK:ku d enc) (hR:cG enc es aZ ks) (k:κ):
    (Instr.findNow d (enc k) es.toList 0=some none∧(∀x∈es.toList,x.key≠enc k)∧(∀p∈ks,p.1≠k))∨
    ∃j e,Instr.findNow d (enc k) es.toList 0=some (some (j,e.val))∧es[j]?=some e∧e.key=enc k∧ks[j]?=some (k,e.val):=by
  rcases findNow_spec (hK.ok k) es.toList 0 (hR.oJ hK) with ⟨h1,h2⟩|⟨j,e,h1,h2,h3⟩
  · refine .inl ⟨h1,h2,fun p hp e=>?_⟩
    have:(enc p.1,p.2)∈ks.map (fun p=>(enc p.1,p.2)):=cY.2 ⟨p,hp,rfl⟩
    rw[←hR.1] at this
    obtain⟨x,hx,ex⟩:=cY.1 this
    simp only[gY] at ex
    exact h2 x hx (by rw[ex.1,e])
  · have hj:es[j]?=some e:=by simpa using h2
    have:=hR.get j
    rw[hj] at this
    cases hk:ks[j]? with
    |none=>rw[hk] at this;cases this
    |some p=>
     rw[hk] at this
     simp only[lI,ey,gY] at this
     have:p=(k,e.val):=wO (hK.inj _ _ (this.1.symm.trans h3)) this.2.symm
     exact .inr ⟨j,e,by simpa using h1,hj,h3,by rw[hk,this]⟩
theorem cG.gS (hK:ku d enc) (hR:cG enc es aZ ks) (k:κ):
    (Instr.findNow d (enc k) es.toList 0=some none∧fq ks k=none)∨∃j v,Instr.findNow d (enc k) es.toList 0=some (some (j,v))∧fq ks k=some v:=by
  rcases hR.find hK k with ⟨h1,_,h2⟩|⟨j,e,h1,_,_,h2⟩
  · exact .inl ⟨h1,BO h2⟩
  · exact .inr ⟨j,e.val,h1,BP (hR.nodup hK) h2⟩
theorem cG.MY (hR:cG enc es aZ ks) {k:κ} (h:∀x∈es.toList,x.key≠enc k) (h2:∀p∈ks,p.1≠k) (v:Value):cG enc (es.push {key:=enc k,val:=v,born:=aZ}) (aZ+1) (gR ks k v):=by
  have:ks.any (fun p=>decide (p.1=k))=false:=by
    rw[List.any_eq_false]
    exact fun p hp=>by simpa using h2 p hp
  unfold gR
  rw[aL (by simp[this])]
  refine⟨?_,stamped_push hR.2 h⟩
  rw[Array.toList_push,gA,gA,hR.1]
  rfl
theorem MZ (hn:(ks.map (·.1)).Nodup) {j:Nat} {k:κ} {u v:Value} (hp:ks[j]?=some (k,u)):gR ks k v=ks.modify j fun p=>(p.1,v):=by
  have hm:=bY hp
  unfold gR
  rw[aY (qC.2 ⟨_,hm,by simp⟩)]
  apply ym
  intro i
  rw[jC,FR]
  cases hi:ks[i]? with
  |none=>by_cases hj:j=i<;>simp[hj]
  |some p=>
   by_cases hj:j=i
   · subst hj
     rw[hp] at hi
     cases hi
     simp
   · have:p.1≠k:=fun e=>by
       have hlt:=(fO.1 hi).1
       have D:=(fO.1 hp).1
       have e1:(ks.map (·.1))[i]?=some k:=by rw[jC,hi];simp[e]
       have e2:(ks.map (·.1))[j]?=some k:=by rw[jC,hp];rfl
       exact hj ((BG (by simpa using D) hn).1 (e2.trans e1.symm))
     simp[this,hj]
theorem cG.M0 (hK:ku d enc) (hR:cG enc es aZ ks) {j:Nat} {e:MapEntry} {k:κ} (he:es[j]?=some e) (hk:e.key=enc k) (hks:ks[j]?=some (k,e.val)) (v:Value):
    cG enc (es.modify j fun e=>{e with key:=enc k,val:=v}) aZ (gR ks k v):=by
  rw[MZ (hR.nodup hK) hks]
  refine⟨?_,stamped_modify hR.2 _ _ (fun _ _=>rfl) fun e' _ u=>by rw[he] at u;cases u;exact hk.symm⟩
  apply ym
  intro i
  have:=hR.get i
  rw[jC,jC,FR,q4,yd]
  by_cases hj:j=i
  · subst hj
    simp[he,hks]
  · simp[hj] at this ⊢
    exact this
theorem BQ {k:κ} (h:∀p∈ks,p.1≠k):jm ks k=ks:=by
  unfold jm
  rw[pN.2]
  intro p hp
  simpa using h p hp
theorem M1 (hn:(ks.map (·.1)).Nodup) {j:Nat} {k:κ} {u:Value} (hp:ks[j]?=some (k,u)):jm ks k=ks.eraseIdx j:=by
  induction ks generalizing j with
  |nil=>simp at hp
  |cons q ks ih=>
   rw[eS,pL] at hn
   unfold jm
   cases j with
   |zero=>
    simp at hp
    subst hp
    simp only[iW,sZ,nW,fW,dI,FT]
    exact BQ fun p hp e=>hn.1 (e▸cY.2 ⟨p,hp,rfl⟩)
   |succ j=>
    have D:ks[j]?=some (k,u):=by simpa using hp
    have hne:q.1≠k:=fun e=>hn.1 (e▸cY.2 ⟨_,bY D,rfl⟩)
    simp only[iW,hne,uE,rj,gX,FU]
    exact congrArg _ (ih hn.2 D)
theorem BR {α u:Type} (f:α→u):∀(l:List α) (j:Nat),(l.eraseIdx j).map f=(l.map f).eraseIdx j
  |[],_=>by simp
  |x::l,0=>by simp
  |x::l,j+1=>by simp[BR f l j]
theorem cG.F3 (hK:ku d enc) (hR:cG enc es aZ ks) {j:Nat} {e:MapEntry} {k:κ} (he:es[j]?=some e) (hks:ks[j]?=some (k,e.val)):cG enc (es.eraseIdxIfInBounds j) aZ (jm ks k):=by
  rw[M1 (hR.nodup hK) hks]
  refine⟨?_,stamped_erase hR.2 _⟩
  have hlt:=(lF.1 he).1
  unfold Array.eraseIdxIfInBounds
  rw[dif_pos hlt,Array.toList_eraseIdx,BR,hR.1,←BR]
end
def kY (P:Program) (mt:TypeId):Option (TypeDesc×Value):=match P.underlying mt with
  |some (.map kt et)=>match P.underlying kt,(P.info? et).bind (·.zero) with
   |some d,some z=>some (d,z)
   |_,_=>none
  |_=>none
theorem uJ {P:Program} {mt:TypeId} {d:TypeDesc} {z:Value} (h:kY P mt=some (d,z)):∃kt et u,P.underlying mt=some (.map kt et)∧P.underlying kt=some d∧P.info? et=some u∧u.zero=some z:=by
  unfold kY at h
  split at h
  · rename_i kt et hu
    split at h
    · rename_i D G hd hz
      simp only[ey,gY] at h
      obtain⟨rfl,rfl⟩:=h
      obtain⟨u,hi,hz⟩:=Fh.1 hz
      exact⟨kt,et,u,hu,hd,hi,hz⟩
    · cases h
  · cases h
section
variable {P:Program} {w:World} {κ:Type} [DecidableEq κ] {d:TypeDesc} {enc:κ→Value} {es:Array MapEntry} {aZ:Nat} {ks:List (κ×Value)} {mt:TypeId} {z:Value} {m:Nat}
theorem M3 {et:TypeId} {u:TypeInfo} (hi:P.info? et=some u) (hz:u.zero=some z):(zeroValue et).run P w=.ok z w:=by
  simp only[zeroValue,typeInfo,Sem.run_bind,run_program,Result.andThen_ok,hi,Sem.run_pure]
  rw[hz]
  rfl
theorem M4 (hT:kY P mt=some (d,z)) (hK:ku d enc) (hR:cG enc es aZ ks) (hb:w.heap[m]?=some (.map es aZ)) (k:κ) (ok:Bool):
    (Instr.lookup mt (.map (some m)) (enc k) ok).run P w=.ok (if ok then .tuple #[(fq ks k).getD z,.bool (fq ks k).isSome] else (fq ks k).getD z) w:=by
  obtain⟨kt,et,u,hu,hd,hi,hz⟩:=uJ hT
  unfold Instr.lookup
  rcases hR.gS hK k with ⟨h1,h2⟩|⟨j,v,h1,h2⟩
  · simp only[Sem.run_bind,run_underlying hu,MapKept.run_getObj_map hb,run_checkKey hd (hK.ok k),run_findKey hd h1,M3 hi hz,Result.andThen_ok,Sem.run_pure,h2]
    simp
  · simp only[Sem.run_bind,run_underlying hu,MapKept.run_getObj_map hb,run_checkKey hd (hK.ok k),run_findKey hd h1,Result.andThen_ok,Sem.run_pure,h2]
    simp
theorem M5 (hT:kY P mt=some (d,z)) (hK:ku d enc) (hR:cG enc es aZ ks) (hb:w.heap[m]?=some (.map es aZ)) (k:κ) (v:Value):
    ∃u D,(Instr.mapUpdate mt (.map (some m)) (enc k) v).run P w=.ok () {w with heap:=w.heap.setIfInBounds m (.map u D)}∧cG enc u D (gR ks k v):=by
  obtain⟨kt,et,G,hu,hd,hi,hz⟩:=uJ hT
  unfold Instr.mapUpdate
  rcases hR.find hK k with ⟨h1,h2,h3⟩|⟨j,e,h1,h2,h3,h4⟩
  · refine⟨_,_,?_,hR.MY h2 h3 v⟩
    simp only[Sem.run_bind,run_underlying hu,MapKept.run_getObj_map hb,run_checkKey hd (hK.ok k),run_findKey hd h1,Result.andThen_ok,MapKept.run_setObj_map _ hb]
  · refine⟨_,_,?_,hR.M0 hK h2 h3 h4 v⟩
    simp only[Sem.run_bind,run_underlying hu,MapKept.run_getObj_map hb,run_checkKey hd (hK.ok k),run_findKey hd h1,h2,lI,Option.getD_some,h3,run_keyThatStays (hK.ok k),Result.andThen_ok,MapKept.run_setObj_map _ hb]
theorem M6 {wU:TypeId} {ty:TypeId} (hT:kY P mt=some (d,z)) (hK:ku d enc) (hR:cG enc es aZ ks) (hb:w.heap[m]?=some (.map es aZ)) (k:κ):
    ∃u,(Builtin.delete_ #[mt,wU] ty #[.map (some m),enc k]).run P w=.ok eY {w with heap:=w.heap.setIfInBounds m (.map u aZ)}∧cG enc u aZ (jm ks k):=by
  obtain⟨kt,et,D,hu,hd,hi,hz⟩:=uJ hT
  rcases hR.find hK k with ⟨h1,h2,h3⟩|⟨j,e,h1,h2,h3,h4⟩
  · refine⟨es,?_,by rw[BQ h3];exact hR⟩
    simp[Builtin.delete_,run_underlying hu,MapKept.run_getObj_map hb,run_checkKey hd (hK.ok k),run_findKey hd h1,MapKept.run_setObj_map _ hb,Result.andThen]
  · refine⟨_,?_,hR.F3 hK h2 h4⟩
    simp[Builtin.delete_,run_underlying hu,MapKept.run_getObj_map hb,run_checkKey hd (hK.ok k),run_findKey hd h1,MapKept.run_setObj_map _ hb,Result.andThen]
end
def kZ {κ:Type} (enc:κ→Value) (es:Array MapEntry) (aZ m:Nat) (vs rs:List (κ×Value)) (o:Obj):Prop:=
  ∃u rest:List MapEntry,o=.mapIter (some m) aZ (u.map (·.born)).toArray aZ∧(u++rest).Perm es.toList∧u.map (fun e=>(e.key,e.val))=vs.map (fun p=>(enc p.1,p.2))∧rest.map (fun e=>(e.key,e.val))=rs.map (fun p=>(enc p.1,p.2))
theorem kZ.start {κ:Type} {enc:κ→Value} {es:Array MapEntry} {aZ m:Nat} {ks:List (κ×Value)} (hR:cG enc es aZ ks):kZ enc es aZ m [] ks (.mapIter (some m) aZ #[] aZ):=
  ⟨[],es.toList,rfl,ga _,rfl,hR.1⟩
theorem BS {α D:Type} {f:α→D} {G:Type} {g:G→D}:∀{l:List α} {r:List G},l.map f=r.map g→∀{a b:List α} {x:α},l=a++x::b→∃u y b',r=u++y::b'∧a.map f=u.map g∧f x=g y∧b.map f=b'.map g:=by
  intro l r h a b x e
  subst e
  induction a generalizing r with
  |nil=>
   cases r with
   |nil=>simp at h
   |cons y r=>simp only[dS,eS,um] at h;exact⟨[],y,r,rfl,rfl,h.1,h.2⟩
  |cons q a ih=>
   cases r with
   |nil=>simp at h
   |cons y r=>
    simp only[dL,eS,um] at h
    obtain⟨u,I,b',rfl,h1,h2,h3⟩:=ih h.2
    exact⟨y::u,I,b',rfl,by simp[h.1,h1],h2,h3⟩
theorem F4 {P:Program} {w:World} {κ:Type} {enc:κ→Value} {es:Array MapEntry} {aZ m it ty:Nat} {vs rs:List (κ×Value)} {o:Obj} (hst:Stamped es aZ) (hI:kZ enc es aZ m vs rs o)
    (hb:w.heap[m]?=some (.map es aZ)) (hit:w.heap[it]?=some o):
    (rs=[]∧∃w',(Instr.next (.pointer (some ⟨it,0,none⟩)) false ty).run P w=.ok (.tuple #[.bool false]) w'∧w'.heap=w.heap∧w'.os=w.os∧w'.tape=w.tape∧w'.output=w.output)∨
    (∃a k v b o' w',rs=a++(k,v)::b∧(Instr.next (.pointer (some ⟨it,0,none⟩)) false ty).run P w=.ok (.tuple #[.bool true,enc k,v]) w'∧w'.heap=w.heap.setIfInBounds it o'∧w'.os=w.os∧w'.tape=w.tape∧w'.output=w.output∧
      kZ enc es aZ m (vs++[(k,v)]) (a++b) o'):=by
  obtain⟨u,rest,rfl,hp,hv,hr⟩:=hI
  obtain⟨hlt,Z,_⟩:=hst
  have J:∀x,x∈es.toList↔x∈u∨x∈rest:=fun x=>by rw[←hp.mem_iff,eo]
  have O:((u++rest).map (·.born)).Nodup:=(hp.map _).nodup_iff.2 Z
  have D:∀x,x∈(es.filter fun e=>!((u.map (·.born)).toArray).contains e.born).toList↔x∈rest:=by
    intro x
    rw[wP,ic,J]
    simp only[List.contains_toArray,gz,List.contains_eq_mem,jE]
    constructor
    · rintro⟨h|h,h2⟩
      · exact absurd (cY.2 ⟨x,h,rfl⟩) h2
      · exact h
    · intro h
      refine⟨.inr h,fun h2=>?_⟩
      rw[gA,mM] at O
      exact O.2.2 _ h2 _ (cY.2 ⟨x,h,rfl⟩) rfl
  have U:∀n:Nat,1≤n→∃fJ w',(choose (.mapNext n)).run P w=.ok fJ w'∧fJ<n∧w'.heap=w.heap∧w'.os=w.os∧w'.tape=w.tape∧w'.output=w.output:=by
    intro n hn
    rw[run_choose_drew]
    by_cases h1:n≤1
    · exact⟨0,w,by simp[Question.forced,h1],by omega,rfl,rfl,rfl,rfl⟩
    · exact⟨w.tape w.drawn (.mapNext n) % n,w.drew,by simp[Question.forced,h1,Question.cut],uk _ (by omega),rfl,rfl,rfl,rfl⟩
  have V:∀x∈es.filter (fun e=>!((u.map (·.born)).toArray).contains e.born),x.born<aZ:=fun x hx=>hlt x (by
    have:=(D x).1 (by simpa using hx)
    exact(J x).2 (.inr this))
  generalize hl:es.filter (fun e=>!((u.map (·.born)).toArray).contains e.born)=left at *
  have hold:left.filter (fun e=>decide (e.born<aZ))=left:=by
    rw[BH];exact fun x hx=>by simpa using V x hx
  have hnew:left.filter (fun e=>decide (e.born≥aZ))=#[]:=by
    rw[FV];exact fun x hx=>by have:=V x hx;simp;omega
  have X:(!((u.map (·.born)).toArray).isEmpty&&!es.isEmpty&&es.all fun e=>decide (e.born≥aZ))=false:=by
    cases he:es.isEmpty with
    |true=>simp
    |false=>
     have hne:es≠#[]:=by intro h;subst h;simp at he
     have G:0<es.size:=yC.2 hne
     have:es.all (fun e=>decide (e.born≥aZ))=false:=by
       rw[Array.all_eq_false]
       exact⟨0,G,by have:=hlt es[0] (by simp);simp;omega⟩
     simp[this]
  by_cases Y:rest=[]
  · subst Y
    have hle:left=#[]:=by
      rw[←Array.toList_eq_nil_iff]
      exact List.eq_nil_iff_forall_not_mem.2 fun x hx=>by have:=(D x).1 hx;cases this
    have I:rs=[]:=by cases rs with
      |nil=>rfl
      |cons p rs=>simp at hr
    refine .inl ⟨I,?_⟩
    obtain⟨fJ,w',hc,hi,hw⟩:=U 1 (gF _)
    have ab:fJ=0:=by omega
    subst ab
    refine⟨w',?_,hw⟩
    subst hle
    unfold Instr.next
    have hg:(getObj it).run P w=.ok (.mapIter (some m) aZ (u.map (·.born)).toArray aZ) w:=by simp[getObj,Sem.run,hit]
    simp only[Sem.run_bind,hg,Result.andThen_ok,MapKept.run_getObj_map hb,X,fW,dI,Sem.run_pure,hl,hold,hnew]
    have hcs:((if (#[]:Array MapEntry).isEmpty=true then (#[none]:Array (Option MapEntry)) else #[])++((#[]:Array MapEntry)++#[]).map some)=#[none]:=by simp
    simp only[hcs]
    rw[show(#[none]:Array (Option MapEntry)).size=1 from rfl,hc]
    rfl
  · have hne:left≠#[]:=by
      intro h
      obtain⟨x,t,rfl⟩:∃x t,rest=x::t:=by
        cases rest with
        |nil=>exact absurd rfl Y
        |cons x t=>exact⟨x,t,rfl⟩
      have:=(D x).2 (.head _)
      rw[h] at this
      simp at this
    have G:0<left.size:=yC.2 hne
    obtain⟨fJ,w',hc,hi,hw⟩:=U left.size G
    have ad:left[fJ]∈rest:=(D _).1 (by simp)
    obtain⟨a,b,hsplit⟩:=List.append_of_mem ad
    obtain⟨ae,p,b',I,h1,h2,h3⟩:=BS hr hsplit
    simp only[gY] at h2
    refine .inr ⟨ae,p.1,p.2,b',.mapIter (some m) aZ ((u.map (·.born)).toArray.push left[fJ].born) aZ,{w' with heap:=w'.heap.setIfInBounds it (.mapIter (some m) aZ ((u.map (·.born)).toArray.push left[fJ].born) aZ)},I,?_,by simp[hw.1],hw.2.1,hw.2.2.1,hw.2.2.2,?_⟩
    · unfold Instr.next
      have hg:(getObj it).run P w=.ok (.mapIter (some m) aZ (u.map (·.born)).toArray aZ) w:=by simp[getObj,Sem.run,hit]
      have am:w'.heap[it]?=some (.mapIter (some m) aZ (u.map (·.born)).toArray aZ):=by rw[hw.1];exact hit
      have hem:left.isEmpty=false:=by simpa using hne
      have hs:(setObj it (.mapIter (some m) aZ ((u.map (·.born)).toArray.push left[fJ].born) aZ)).run P w'=.ok () {w' with heap:=w'.heap.setIfInBounds it (.mapIter (some m) aZ ((u.map (·.born)).toArray.push left[fJ].born) aZ)}:=by simp[setObj,Sem.run,am]
      simp only[Sem.run_bind,hg,Result.andThen_ok,MapKept.run_getObj_map hb,X,fW,dI,Sem.run_pure,hl,hold,hnew,hem]
      have hcs:((#[]:Array (Option MapEntry))++(left++#[]).map some)=left.map some:=by simp
      simp only[hcs,BI,hc,Result.andThen_ok,Array.getElem?_map,yD hi,lI,Sem.run_bind,hs,Sem.run_pure]
      rw[h2.1,h2.2]
    · refine⟨u++[left[fJ]],a++b,by simp,?_,by simp[hv,h2.1,h2.2],by simp[h1,h3]⟩
      refine List.Perm.trans ?_ hp
      rw[hsplit,cJ]
      refine FW _ ?_
      exact(List.perm_middle.symm:(left[fJ]::(a++b)).Perm (a++left[fJ]::b))
section
variable {C:ff} {ds:List Deferred} {i j:Nat} {r:ay} {M:Nat→Prop} {Ls:List (Nat×Bool)} {e:Env} {h:ay}
variable {h0:ay} {g0:GH} {S0:Nat→Prop} {g:GH} {L L':List az}
variable {κ:Type} [DecidableEq κ] {d:TypeDesc} {enc:κ→Value} {es:Array MapEntry} {aZ:Nat} {ks:List (κ×Value)} {mt:TypeId} {z:Value} {m:Nat}
theorem Op.F5 {dst:Nat} {x ix:Operand} {ok:Bool} {k:κ} (ho:c_ C i j e=some (some dst,.lookup mt x ix ok)) (hT:kY C.P mt=some (d,z)) (hK:ku d enc) (hx:e.ev x=.map (some m)) (u:e.ev ix=enc k)
    (hb:h[m]?=some (.map es aZ)) (hR:cG enc es aZ ks) (K:Op C ds i r M Ls ((dst,if ok then .tuple #[(fq ks k).getD z,.bool (fq ks k).isSome] else (fq ks k).getD z)::e) h):Op C ds i r M ((j,false)::Ls) e h:=by
  obtain⟨o,h1,h2,h3⟩:=gm ho
  refine Op.run h1 (R:=fun D h'=>D=.value (if ok then .tuple #[(fq ks k).getD z,.bool (fq ks k).isSome] else (fq ks k).getD z)∧h'=h) ?_ ?_
  · intro w is
    refine⟨_,w,?_,is.again,rfl,is.heap⟩
    unfold eN execOp
    simp only[h3,Sem.run_bind,hx,u,M4 hT hK hR (w:=w) (by rw[is.heap];exact hb),Result.andThen_ok,Sem.run_pure]
  · rintro _ _ ⟨rfl,rfl⟩
    refine⟨_,rfl,fun hk=>hk,?_⟩
    rw[h2]
    exact K
theorem Op.nY {x ix y:Operand} {k:κ} {v:Value} (ho:(c_ C i j e=some (none,.mapUpdate mt x ix y))∨(c_ C i j e=some (none,.insert mt x ix y))) (hT:kY C.P mt=some (d,z)) (hK:ku d enc) (hx:e.ev x=.map (some m)) (I:e.ev ix=enc k) (hy:e.ev y=v)
    (s:St h0 g0 S0 g L h) (n:Nat) (hL:L[n]?=some [(m,.map es aZ)]) (hR:cG enc es aZ ks) (hM:m<r.size→M m)
    (K:∀u D h',cG enc u D (gR ks k v)→St h0 g0 S0 g (L.set n [(m,.map u D)]) h'→Op C ds i r M Ls e h'):Op C ds i r M ((j,false)::Ls) e h:=by
  obtain⟨o,h1,h2,h3⟩:∃o,lG C i j e=some o∧o.dst=none∧(o.op=.mapUpdate mt x ix y∨o.op=.insert mt x ix y):=by
    rcases ho with ho|ho
    · obtain⟨o,h1,h2,h3⟩:=gm ho;exact⟨o,h1,h2,.inl h3⟩
    · obtain⟨o,h1,h2,h3⟩:=gm ho;exact⟨o,h1,h2,.inr h3⟩
  have hb:=s.ag n hL
  refine Op.skip h1 (R:=fun J h'=>J=.skip∧∃u D,cG enc u D (gR ks k v)∧h'=h.setIfInBounds m (.map u D)) ?_ ?_
  · intro w is
    obtain⟨u,D,hrun,G⟩:=M5 (P:=C.P) (w:=w) hT hK hR (by rw[is.heap];exact hb) k v
    refine⟨.skip,_,?_,(is.kV m (.map u D)).again,rfl,u,D,G,by simp[is.heap]⟩
    unfold eN execOp
    rcases h3 with h3|h3<;>simp only[h3,Sem.run_bind,hx,I,hy,hrun,Result.andThen_ok,Sem.run_pure]
  · rintro _ _ ⟨rfl,u,D,G,rfl⟩
    refine⟨rfl,fun hk=>(iC.set (.map u D) hb).gO hM hk,?_⟩
    rw[h2]
    exact K u D _ G (s.kV n hL (.map u D))
theorem Op.yJ {dst:Option Tmp} {x ix:Operand} {kt:TypeId} {k:κ} (ho:c_ C i j e=some (dst,.call {callee:=.builtin .delete,args:=#[x,ix],argTypes:=#[mt,kt]})) (hT:kY C.P mt=some (d,z)) (hK:ku d enc) (hx:e.ev x=.map (some m)) (G:e.ev ix=enc k)
    (s:St h0 g0 S0 g L h) (n:Nat) (hL:L[n]?=some [(m,.map es aZ)]) (hR:cG enc es aZ ks) (hM:m<r.size→M m)
    (K:∀u h',cG enc u aZ (jm ks k)→St h0 g0 S0 g (L.set n [(m,.map u aZ)]) h'→Op C ds i r M Ls (e.fX dst eY) h'):Op C ds i r M ((j,false)::Ls) e h:=by
  obtain⟨o,h1,h2,h3⟩:=gm ho
  have hb:=s.ag n hL
  refine Op.run h1 (R:=fun I h'=>I=.value eY∧∃u,cG enc u aZ (jm ks k)∧h'=h.setIfInBounds m (.map u aZ)) ?_ ?_
  · intro w is
    obtain⟨u,hrun,D⟩:=M6 (P:=C.P) (w:=w) (wU:=kt) (ty:=o.type) hT hK hR (by rw[is.heap];exact hb) k
    refine⟨.value eY,_,?_,(is.kV m (.map u aZ)).again,rfl,u,D,by simp[is.heap]⟩
    refine pH h3 (.inr (.inr (.inr (.inr (.inr (.inl rfl)))))) ?_
    simp only[pG,eS,kQ,hx,G]
    exact hrun
  · rintro _ _ ⟨rfl,u,D,rfl⟩
    refine⟨_,rfl,fun hk=>(iC.set (.map u aZ) hb).gO hM hk,?_⟩
    rw[h2]
    exact K u _ D (s.kV n hL (.map u aZ))
theorem Op.BT {dst:Nat} {x:Operand} {b:Bool} {n:Nat} (ho:c_ C i j e=some (some dst,.call {callee:=.builtin .len,args:=#[x],argTypes:=#[mt]})) (hT:kY C.P mt=some (d,z)) (hx:e.ev x=.map (some m)) (hb0:b=false)
    (hb:h[m]?=some (.map es aZ)) (hR:cG enc es aZ ks) (hn:ks.length=n) (K:Op C ds i r M Ls ((dst,.int .i64 (n:Int))::e) h):Op C ds i r M ((j,b)::Ls) e h:=by
  subst hb0
  subst hn
  obtain⟨o,h1,h2,h3⟩:=gm ho
  obtain⟨kt,et,G,hu,hd,hi,hz⟩:=uJ hT
  refine Op.run h1 (R:=fun u h'=>u=.value (.int .i64 (ks.length:Int))∧h'=h) ?_ ?_
  · intro w is
    refine⟨_,w,?_,is.again,rfl,is.heap⟩
    refine pH h3 (.inr (.inr (.inl rfl))) ?_
    simp only[pG,eS,kQ,hx]
    have D:w.heap[m]?=some (.map es aZ):=by rw[is.heap];exact hb
    simp[Builtin.len_,run_underlying hu,MapKept.run_getObj_map D,Result.andThen,hR.size,goInt]
  · rintro _ _ ⟨rfl,rfl⟩
    refine⟨_,rfl,fun hk=>hk,?_⟩
    rw[h2]
    exact K
theorem Op.makeMap {dst:Nat} (ho:c_ C i j e=some (some dst,.makeMap mt none)) (s:St h0 g0 S0 g L h)
    (K:∀m h',St h0 g0 S0 g ([(m,.map #[] 0)]::L) h'→Op C ds i r M Ls ((dst,.map (some m))::e) h'):Op C ds i r M ((j,false)::Ls) e h:=by
  obtain⟨o,h1,h2,h3⟩:=gm ho
  refine Op.run h1 (R:=fun u h'=>u=.value (.map (some h.size))∧h'=h.push (.map #[] 0)) ?_ ?_
  · intro w is
    refine⟨.value (.map (some h.size)),{w with heap:=w.heap.push (.map #[] 0)},?_,⟨rfl,is.os,is.tape,is.output⟩,rfl,by rw[←is.heap]⟩
    unfold eN execOp
    simp only[h3,Instr.makeMap,Option.map_none,Sem.run_bind,run_newObj,Result.andThen_ok,Sem.run_pure,is.heap]
  · rintro _ _ ⟨rfl,rfl⟩
    refine⟨_,rfl,dB.push _,?_⟩
    rw[h2]
    exact K _ _ (s.alloc _)
theorem Op.s_ {dst:Nat} {x:Operand} (ho:c_ C i j e=some (some dst,.range mt x)) (hT:kY C.P mt=some (d,z)) (hx:e.ev x=.map (some m)) (hb:h[m]?=some (.map es aZ)) (hR:cG enc es aZ ks) (s:St h0 g0 S0 g L h)
    (K:∀it o h',kZ enc es aZ m [] ks o→St h0 g0 S0 g ([(it,o)]::L) h'→Op C ds i r M Ls ((dst,.pointer (some ⟨it,0,none⟩))::e) h'):Op C ds i r M ((j,false)::Ls) e h:=by
  obtain⟨o,h1,h2,h3⟩:=gm ho
  obtain⟨kt,et,G,hu,hd,hi,hz⟩:=uJ hT
  refine Op.run h1 (R:=fun u h'=>u=.value (.pointer (some ⟨h.size,0,none⟩))∧h'=h.push (.mapIter (some m) aZ #[] aZ)) ?_ ?_
  · intro w is
    have D:w.heap[m]?=some (.map es aZ):=by rw[is.heap];exact hb
    refine⟨_,{w with heap:=w.heap.push (.mapIter (some m) aZ #[] aZ)},?_,⟨rfl,is.os,is.tape,is.output⟩,rfl,by rw[←is.heap]⟩
    unfold eN execOp
    simp only[h3,hx,Instr.range,Sem.run_bind,run_underlying hu,MapKept.run_getObj_map D,run_newObj,Result.andThen_ok,Sem.run_pure,is.heap]
  · rintro _ _ ⟨rfl,rfl⟩
    refine⟨_,rfl,dB.push _,?_⟩
    rw[h2]
    exact K _ _ _ (kZ.start hR) (s.alloc _)
theorem Op.wV {dst:Nat} {x:Operand} {it:Nat} {o1:Obj} {vs rs:List (κ×Value)} (ho:c_ C i j e=some (some dst,.next x false)) (hx:e.ev x=.pointer (some ⟨it,0,none⟩)) (hb:h[m]?=some (.map es aZ)) (hR:cG enc es aZ ks) (hI:kZ enc es aZ m vs rs o1)
    (s:St h0 g0 S0 g L h) (n:Nat) (hL:L[n]?=some [(it,o1)]) (hM:it<r.size→M it)
    (K:(rs=[]→Op C ds i r M Ls ((dst,.tuple #[.bool false])::e) h)∧∀a k v b o2 h',rs=a++(k,v)::b→kZ enc es aZ m (vs++[(k,v)]) (a++b) o2→St h0 g0 S0 g (L.set n [(it,o2)]) h'→Op C ds i r M Ls ((dst,.tuple #[.bool true,enc k,v])::e) h'):Op C ds i r M ((j,false)::Ls) e h:=by
  obtain⟨o,h1,h2,h3⟩:=gm ho
  have hit:=s.ag n hL
  by_cases U:rs=[]
  · subst U
    refine Op.run h1 (R:=fun D h'=>D=.value (.tuple #[.bool false])∧h'=h) ?_ ?_
    · intro w is
      rcases F4 (P:=C.P) (w:=w) (it:=it) (ty:=o.type) hR.2 hI (by rw[is.heap];exact hb) (by rw[is.heap];exact hit) with ⟨_,w',hrun,hw1,G,I,J⟩|⟨a,k,v,b,o',w',u,_⟩
      · refine⟨_,w',?_,⟨rfl,G.trans is.os,I.trans is.tape,J.trans is.output⟩,rfl,hw1.trans is.heap⟩
        unfold eN execOp
        simp only[h3,hx,Sem.run_bind,hrun,Result.andThen_ok,Sem.run_pure]
      · simp at u
    · rintro _ _ ⟨rfl,rfl⟩
      refine⟨_,rfl,fun hk=>hk,?_⟩
      rw[h2]
      exact K.1 rfl
  · refine Op.run h1 (R:=fun D h'=>∃a k v b o2,D=.value (.tuple #[.bool true,enc k,v])∧rs=a++(k,v)::b∧h'=h.setIfInBounds it o2∧kZ enc es aZ m (vs++[(k,v)]) (a++b) o2) ?_ ?_
    · intro w is
      rcases F4 (P:=C.P) (w:=w) (it:=it) (ty:=o.type) hR.2 hI (by rw[is.heap];exact hb) (by rw[is.heap];exact hit) with ⟨h,_⟩|⟨a,k,v,b,o',w',u,hrun,hw1,G,I,J,O⟩
      · exact absurd h U
      · refine⟨_,w',?_,⟨rfl,G.trans is.os,I.trans is.tape,J.trans is.output⟩,a,k,v,b,o',rfl,u,by rw[hw1,is.heap],O⟩
        unfold eN execOp
        simp only[h3,hx,Sem.run_bind,hrun,Result.andThen_ok,Sem.run_pure]
    · rintro _ _ ⟨a,k,v,b,o2,rfl,u,rfl,O⟩
      refine⟨_,rfl,fun hk=>(iC.set o2 hit).gO hM hk,?_⟩
      rw[h2]
      exact K.2 a k v b o2 _ u O (s.kV n hL o2)
theorem Op.wW {dst:Nat} {x:Operand} {it:Nat} {o1:Obj} {vs rs:List (κ×Value)} {k:κ} {v:Value} (ho:c_ C i j e=some (some dst,.entry x)) (hx:e.ev x=.pointer (some ⟨it,0,none⟩)) (hb:h[m]?=some (.map es aZ)) (hR:cG enc es aZ ks) (hI:kZ enc es aZ m (vs++[(k,v)]) rs o1)
    (hit:h[it]?=some o1) (K:Op C ds i r M Ls ((dst,.tuple #[enc k,v])::e) h):Op C ds i r M ((j,false)::Ls) e h:=by
  obtain⟨o,h1,h2,h3⟩:=gm ho
  refine Op.run h1 (R:=fun I h'=>I=.value (.tuple #[enc k,v])∧h'=h) ?_ ?_
  · intro w is
    refine⟨_,w,?_,is.again,rfl,is.heap⟩
    obtain⟨u,rest,rfl,hp,hv,hr⟩:=hI
    obtain⟨Z,y,b',e1,e2,e3,J⟩:=BS (f:=fun p:κ×Value=>(enc p.1,p.2)) (g:=fun e:MapEntry=>(e.key,e.val)) hv.symm (a:=vs) (x:=(k,v)) (b:=[]) rfl
    have hb':b'=[]:=by cases b' with
      |nil=>rfl
      |cons q b'=>simp at J
    subst hb'
    simp only[gY] at e3
    have D:y∈es.toList:=hp.mem_iff.1 (by rw[e1];simp)
    have O:w.heap[m]?=some (.map es aZ):=by rw[is.heap];exact hb
    have U:((u.map (·.born)).toArray).back?=some y.born:=by rw[e1];simp
    have hfind:es.find? (fun x=>x.born==y.born)=some y:=by
      cases hf:es.find? (fun x=>x.born==y.born) with
      |none=>
       rw[FX] at hf
       have:=hf y (by simpa using D)
       simp at this
      |some z=>
       have h5:=Array.find?_some hf
       have h6:z∈es.toList:=by simpa using FY hf
       have h7:z.born=y.born:=by simpa using h5
       have V:=hR.2.2.1
       obtain⟨X,hi1⟩:=pO.1 h6
       obtain⟨i2,hi2⟩:=pO.1 D
       have G:(es.toList.map (·.born))[X]?=some y.born:=by rw[jC,hi1];simp[h7]
       have Y:(es.toList.map (·.born))[i2]?=some y.born:=by rw[jC,hi2];rfl
       have hlt:=(fO.1 G).1
       have:=(BG hlt V).1 (G.trans Y.symm)
       subst this
       rw[hi1] at hi2
       exact congrArg some (gI hi2)
    have hg:(getObj it).run C.P w=.ok (.mapIter (some m) aZ (u.map (·.born)).toArray aZ) w:=by simp[getObj,Sem.run,is.heap,hit]
    unfold eN execOp
    have hrun:(Instr.entry (e.ev x)).run C.P w=.ok (.tuple #[enc k,v]) w:=by
      unfold Instr.entry
      simp only[hx,Sem.run_bind,hg,Result.andThen_ok,U,MapKept.run_getObj_map O,hfind,bne_self_eq_false,fW,dI,Sem.run_pure]
      rw[←e3.1,←e3.2]
    simp only[h3,Sem.run_bind,hrun,Result.andThen_ok,Sem.run_pure]
  · rintro _ _ ⟨rfl,rfl⟩
    refine⟨_,rfl,fun hk=>hk,?_⟩
    rw[h2]
    exact K
theorem Op.pP {dst:Nat} {x ix:Operand} {ok:Bool} {k:κ} {v:Value} (ho:c_ C i j e=some (some dst,.lookup mt x ix ok)) (hT:kY C.P mt=some (d,z)) (hK:ku d enc) (hx:e.ev x=.map (some m)) (u:e.ev ix=enc k)
    (hb:h[m]?=some (.map es aZ)) (hR:cG enc es aZ ks) (hv:fq ks k=some v) (K:Op C ds i r M Ls ((dst,if ok then .tuple #[v,.bool true] else v)::e) h):Op C ds i r M ((j,false)::Ls) e h:=
  Op.F5 ho hT hK hx u hb hR (by rw[hv];exact K)
theorem Op.rF {dst:Nat} {x ix:Operand} {ok:Bool} {k:κ} (ho:c_ C i j e=some (some dst,.lookup mt x ix ok)) (hT:kY C.P mt=some (d,z)) (hK:ku d enc) (hx:e.ev x=.map (some m)) (u:e.ev ix=enc k)
    (hb:h[m]?=some (.map es aZ)) (hR:cG enc es aZ ks) (hv:fq ks k=none) (K:Op C ds i r M Ls ((dst,if ok then .tuple #[z,.bool false] else z)::e) h):Op C ds i r M ((j,false)::Ls) e h:=
  Op.F5 ho hT hK hx u hb hR (by rw[hv];exact K)
end
section
variable {C:ff} {ds:List Deferred} {i j:Nat} {r:ay} {M:Nat→Prop} {L Ls:List (Nat×Bool)} {e e':Env} {h:ay}
variable {h0:ay} {g0:GH} {S0:Nat→Prop} {g:GH} {Lk:List az}
theorem Op.ms (z:Value) (mt:TypeId) (x ix y:Operand) (k:Int) (v:Value) {es:Array MapEntry} {aZ:Nat} {ks:List (Int×Value)} {m:Nat} (s:St h0 g0 S0 g Lk h) (n:Nat) (hR:cG encI es aZ ks)
    (K:∀u D h',cG encI u D (gR ks k v)→St h0 g0 S0 g (Lk.set n [(m,.map u D)]) h'→Op C ds i r M Ls e h')
    (hL:Lk[n]?=some [(m,.map es aZ)]:=by rfl) (ho:c_ C i j e=some (none,.mapUpdate mt x ix y):=by kernel_rfl) (hT:kY C.P mt=some (.int .i64,z):=by kernel_rfl) (hx:e.ev x=.map (some m):=by kernel_rfl) (G:e.ev ix=encI k:=by kernel_rfl) (hy:e.ev y=v:=by kernel_rfl) (hM:m<r.size→M m:=by exact fun _=>trivial):Op C ds i r M ((j,false)::Ls) e h:=Op.nY (.inl ho) hT kC hx G hy s n hL hR hM K
theorem Op.mk (z:Value) (mt:TypeId) (x ix:Operand) (dst:Nat) (k:Int) (v:Value) {es:Array MapEntry} {aZ:Nat} {ks:List (Int×Value)} {m:Nat} (hb:h[m]?=some (.map es aZ)) (hR:cG encI es aZ ks) (hv:fq ks k=some v) (K:Op C ds i r M Ls ((dst,v)::e) h)
    (ho:c_ C i j e=some (some dst,.lookup mt x ix false):=by kernel_rfl) (hT:kY C.P mt=some (.int .i64,z):=by kernel_rfl) (hx:e.ev x=.map (some m):=by kernel_rfl) (u:e.ev ix=encI k:=by kernel_rfl):Op C ds i r M ((j,false)::Ls) e h:=Op.pP (ok:=false) ho hT kC hx u hb hR hv K
theorem Op.mn (z:Value) (mt:TypeId) (x ix:Operand) (dst:Nat) (k:Int) {es:Array MapEntry} {aZ:Nat} {ks:List (Int×Value)} {m:Nat} (hb:h[m]?=some (.map es aZ)) (hR:cG encI es aZ ks) (hv:fq ks k=none) (K:Op C ds i r M Ls ((dst,z)::e) h)
    (ho:c_ C i j e=some (some dst,.lookup mt x ix false):=by kernel_rfl) (hT:kY C.P mt=some (.int .i64,z):=by kernel_rfl) (hx:e.ev x=.map (some m):=by kernel_rfl) (u:e.ev ix=encI k:=by kernel_rfl):Op C ds i r M ((j,false)::Ls) e h:=Op.rF (ok:=false) ho hT kC hx u hb hR hv K
end
open Go
def rl:Nat→Nat→List (Nat×Bool)
  |0,_=>[]
  |n+1,k=>(k,false)::rl n (k+1)
namespace Env
theorem F6 (a b:Env) (t:Nat):get (a++b) t=(match get a t with|some v=>some v|none=>get b t):=by
  induction a with
  |nil=>rfl
  |cons p a ih=>
   obtain⟨k,v⟩:=p
   simp only[dL,get]
   cases Nat.beq k t with
   |true=>rfl
   |false=>exact ih
theorem M7 {a:Env} {q:Nat×Value→Bool} (h:a.all q=true) {t:Nat} {v:Value} (hv:get a t=some v):q (t,v)=true:=by
  induction a with
  |nil=>cases hv
  |cons p a ih=>
   obtain⟨k,u⟩:=p
   rw[jD,bZ] at h
   by_cases hk:k=t
   · subst hk
     simp[get] at hv
     rw[←hv];exact h.1
   · rw[get,o8 hk] at hv
     exact ih h.2 hv
theorem F7 {q:Env}:∀{N:Env},N.map (fun p=>q.get p.1)=N.map (fun p=>some p.2)→∀{t:Nat} {v:Value},N.get t=some v→q.get t=some v
  |[],_,t,v,hn=>by cases hn
  |(k,w)::N,h1,t,v,hn=>by
   simp only[eS,um] at h1
   by_cases hk:k=t
   · subst hk;simp[get] at hn;rw[h1.1,hn]
   · rw[get,o8 hk] at hn;exact F7 h1.2 hn
def news (u e N:Env):List (Option Value)×Bool:=(N.map fun p=>u.get p.1,(u.take (u.length-e.length)).all fun p=>(N.get p.1).isSome||!(e.get p.1).isSome)
theorem M8 {e D N:Env} (h:news (D++e) e N=(N.map (fun p=>some p.2),true)) (t:Nat) (v:Value) (hv:(N++e).get t=some v):(D++e).get t=some v:=by
  unfold news at h
  simp only[gY,b_,Nat.add_sub_cancel,List.take_left] at h
  obtain⟨h1,h2⟩:=h
  rw[F6] at hv
  cases hn:N.get t with
  |some u=>
   rw[hn] at hv
   simp only[ey] at hv
   subst hv
   clear h2
   exact F7 h1 hn
  |none=>
   rw[hn] at hv
   simp only at hv
   rw[F6]
   cases hd:D.get t with
   |none=>exact hv
   |some u=>
    have:=M7 h2 hd
    simp only[hn,hv,Option.isSome_none,Option.isSome_some,nW,Bool.or_self,fW] at this
end Env
theorem gZ.sub {e e':Env} {n:Nat} {ds:List Deferred} {a:Act} (f:gZ e n ds a) (h:∀t v,e'.get t=some v→e.get t=some v):gZ e' n ds a:=⟨f.defers,f.size,fun t v hv=>f.get t v (h t v hv)⟩
theorem BU {P:Program} {n:Nat} {ops:Array Oper}:∀(m:Nat) (L:List (Nat×Bool)) (e:Env) {G:List (Nat×Bool)} {D:Env},lH P n ops m L e=some (G,D)→G=L.drop m∧∃u,D=u++e
  |0,L,e,_,_,h=>by simp only[lH,ey,gY] at h;obtain⟨rfl,rfl⟩:=h;exact⟨rfl,[],rfl⟩
  |_+1,[],e,_,_,h=>by simp[lH] at h
  |m+1,(j,b)::L,e,_,_,h=>by
   have put:∀(d:Option Tmp) (v:Value) {u:Env} {D:Env},D=u++e.fX d v→∃I,D=I++e:=fun d v u D h=>by
     cases d with
     |none=>exact⟨u,h⟩
     |some t=>exact⟨u++[(t,v)],by rw[h];simp[Env.fX]⟩
   simp only[lH] at h
   split at h
   · cases h
   · split at h
     · split at h
       · cases h
       · obtain⟨h1,u,h2⟩:=BU m L _ h;exact⟨h1,put _ _ h2⟩
       · split at h
         · split at h
           · obtain⟨h1,u,h2⟩:=BU m L _ h;exact⟨h1,put _ _ h2⟩
           · cases h
         · cases h
     · cases h
section
variable {C:ff} {ds:List Deferred} {i:Nat} {r:ay} {M:Nat→Prop} {L:List (Nat×Bool)} {e:Env} {h:ay}
theorem Op.sub {e':Env} (hs:∀t v,e'.get t=some v→e.get t=some v) (K:Op C ds i r M L e' h):Op C ds i r M L e h:=fun a w f is hk=>K a w (f.sub hs) is hk
theorem Op.px (m:Nat) (N:Env) (K:Op C ds i r M (L.drop m) (N++e) h)
    (hp:(lH C.P C.n (g_ (pt C.code i)) m L e).map (fun x=>Env.news x.2 e N)=some (N.map (fun p=>some p.2),true):=by kernel_rfl):Op C ds i r M L e h:=by
  obtain⟨⟨u,D⟩,h1,h2⟩:=q5.1 hp
  obtain⟨rfl,G,rfl⟩:=BU m L e h1
  exact Op.run_pure h1 (Op.sub (fun t v hv=>Env.M8 h2 t v hv) K)
theorem Op.pg (j:Nat) (N:Env) (K:At C ds j (N++e) h)
    (hp:(lH C.P C.n (g_ (pt C.code i)) L.length L e).map (fun x=>Env.news x.2 e N)=some (N.map (fun p=>some p.2),true):=by kernel_rfl) (hj:norm 1000 (pt C.code i).tail=pt C.code j:=by kernel_rfl):Op C ds i r M L e h:=by
  refine Op.px L.length N ?_ hp
  rw[List.drop_length]
  exact Op.goto j hj K
theorem Op.gt (j:Nat) (K:At C ds j e h) (hj:norm 1000 (pt C.code i).tail=pt C.code j:=by kernel_rfl):Op C ds i r M [] e h:=Op.goto j hj K
theorem At.rg (n:Nat) (K:Op C ds i #[] (fun _=>True) (rl n 0) e h) (hL:uv (pt C.code i)=some (rl n 0):=by kernel_rfl):At C ds i e h:=At.A_ hL K
theorem At.rp (n m:Nat) (N:Env) (K:Op C ds i #[] (fun _=>True) ((rl n 0).drop m) (N++e) h) (hL:uv (pt C.code i)=some (rl n 0):=by kernel_rfl)
    (hp:(lH C.P C.n (g_ (pt C.code i)) m (rl n 0) e).map (fun x=>Env.news x.2 e N)=some (N.map (fun p=>some p.2),true):=by kernel_rfl):At C ds i e h:=At.A_ hL (Op.px m N K hp)
theorem At.go (j n:Nat) (N:Env) (K:At C ds j (N++e) h) (hL:uv (pt C.code i)=some (rl n 0):=by kernel_rfl)
    (hp:(lH C.P C.n (g_ (pt C.code i)) (rl n 0).length (rl n 0) e).map (fun x=>Env.news x.2 e N)=some (N.map (fun p=>some p.2),true):=by kernel_rfl) (hj:norm 1000 (pt C.code i).tail=pt C.code j:=by kernel_rfl):At C ds i e h:=
  At.A_ hL (Op.pg j N K hp hj)
theorem BV {e:Env} {t:Nat} {v:Value} (h:e.get t=some v):e.qs (.tmp t)=true:=by simp[Env.qs,h]
theorem BW {e:Env} {t:Nat} {v:Value} (h:e.get t=some v):e.ev (.tmp t)=v:=by simp[Env.ev,h]
theorem At.cW (b:Bool) (t u D:Nat) (ht:b=true→At C ds u e h) (hf:b=false→At C ds D e h) (hc:oE (pt C.code i)=some (.tmp t):=by kernel_rfl) (hv:e.get t=some (.bool b):=by kernel_rfl)
    (h1:norm 1000 (Sw.o_ (pt C.code i))=pt C.code u:=by kernel_rfl) (h2:norm 1000 (Sw.pe (pt C.code i))=pt C.code D:=by kernel_rfl):At C ds i e h:=At.cond hc (BV hv) (BW hv) u D h1 h2 ht hf
theorem At.bT (t u:Nat) (K:At C ds u e h) (hc:oE (pt C.code i)=some (.tmp t):=by kernel_rfl) (hv:e.get t=some (.bool true):=by kernel_rfl) (h1:norm 1000 (Sw.o_ (pt C.code i))=pt C.code u:=by kernel_rfl):At C ds i e h:=
  At.o_ hc (BV hv) (BW hv) u h1 K
theorem At.cQ (t u:Nat) (K:At C ds u e h) (hc:oE (pt C.code i)=some (.tmp t):=by kernel_rfl) (hv:e.get t=some (.bool false):=by kernel_rfl) (h1:norm 1000 (Sw.pe (pt C.code i))=pt C.code u:=by kernel_rfl):At C ds i e h:=
  At.pe hc (BV hv) (BW hv) u h1 K
theorem Op.sb (k:Nat) {b v:Bool} (hb:b=v) (K:Op C ds i r M L ((k,.bool v)::e) h) (hv:e.get k=some (.bool b):=by kernel_rfl):Op C ds i r M L e h:=by
  subst hb
  refine Op.sub (fun t u hu=>?_) K
  by_cases hk:k=t
  · subst hk;simp[Env.get] at hu;rw[hv,hu]
  · rw[Env.get,o8 hk] at hu;exact hu
theorem Op.wb (b:Bool) (k:Nat) (ht:b=true→Op C ds i r M L ((k,.bool true)::e) h) (hf:b=false→Op C ds i r M L ((k,.bool false)::e) h) (hv:e.get k=some (.bool b):=by kernel_rfl):Op C ds i r M L e h:=by
  cases b with
  |true=>exact Op.sb k rfl (ht rfl) hv
  |false=>exact Op.sb k rfl (hf rfl) hv
theorem BX {e e':Env} (hp:e'.map (fun p=>e.get p.1)=e'.map (fun p=>some p.2)) (t:Nat) (v:Value) (hv:e'.get t=some v):e.get t=some v:=by
  induction e' with
  |nil=>cases hv
  |cons p e' ih=>
   obtain⟨k,w⟩:=p
   simp only[eS,um] at hp
   by_cases hk:k=t
   · subst hk;simp[Env.get] at hv;rw[hp.1,hv]
   · rw[Env.get,o8 hk] at hv;exact ih hp.2 hv
theorem At.kp (e':Env) (K:At C ds i e' h) (hp:e'.map (fun p=>e.get p.1)=e'.map (fun p=>some p.2):=by kernel_rfl):At C ds i e h:=fun a w f is=>K a w (f.sub (BX hp)) is
theorem Op.kp (e':Env) (K:Op C ds i r M L e' h) (hp:e'.map (fun p=>e.get p.1)=e'.map (fun p=>some p.2):=by kernel_rfl):Op C ds i r M L e h:=Op.sub (BX hp) K
variable {j:Nat} {Ls:List (Nat×Bool)} {h0:ay} {g0:GH} {S0:Nat→Prop} {g:GH} {Lk:List az}
theorem Op.c1 (d:Nat) {f:FuncId} {args:Array Value} {u:Value} (H:aG C.P C.B f args h g [] (fun D g' L'=>D=u∧g'=g∧L'=[])) (s:St h0 g0 S0 g Lk h)
    (K:∀h',St h0 g0 S0 g Lk h'→Op C ds i r M Ls ((d,u)::e) h') (ho:qz C i j e=some (some d,f,args):=by kernel_rfl):Op C ds i r M ((j,false)::Ls) e h:=by
  refine Op.Fm ho s H ?_
  rintro _ g' _ h' hle G ⟨rfl,rfl,rfl⟩
  exact K h' G
theorem Op.c0 (d:Option Nat) {f:FuncId} {args:Array Value} {u:Value→GH→List az→Prop} (H:aG C.P C.B f args h g [] u) (s:St h0 g0 S0 g Lk h)
    (K:∀v g' D h',aM g g'→St h0 g0 S0 g' (D++Lk) h'→u v g' D→Op C ds i r M Ls (e.fX d v) h') (ho:qz C i j e=some (d,f,args):=by kernel_rfl):Op C ds i r M ((j,false)::Ls) e h:=Op.Fm ho s H K
theorem Op.ld {n:Nat} (T:TypeId) (x:Operand) (d o:Nat) (v:Value) {b:Nat} {cs:Array Value} {u:TypeId} {fz:Nat×Nat} (hb:h[b]?=some (.cells cs u fz))
    (K:Op C ds i r M Ls ((d,v)::e) h) (hv:cs[o]?=some v:=by kernel_rfl) (ho:c_ C i j e=some (some d,.load T x):=by kernel_rfl) (hx:e.ev x=.pointer (some ⟨b,o,none⟩):=by kernel_rfl)
    (hT:kq C.P T=some (false,1):=by kernel_rfl):Op C ds i r M ((j,false)::Ls) e h:=Op.load ho hx hT hb hv K
theorem Op.la (T:TypeId) (x:Operand) (d o n:Nat) (vs:List Value) {b:Nat} {cs:Array Value} {u:TypeId} {fz:Nat×Nat} (hb:h[b]?=some (.cells cs u fz))
    (K:Op C ds i r M Ls ((d,.agg vs.toArray)::e) h) (hv:cut cs o n=vs:=by kernel_rfl) (ho:c_ C i j e=some (some d,.load T x):=by kernel_rfl) (hx:e.ev x=.pointer (some ⟨b,o,none⟩):=by kernel_rfl)
    (hT:kq C.P T=some (true,n):=by kernel_rfl) (hl:vs.length=n:=by rfl):Op C ds i r M ((j,false)::Ls) e h:=Op.L_ ho hx hT hb hv hl K
theorem Op.s1 (T:TypeId) (x y:Operand) (o:Nat) (v:Value) (k:Nat) (cs':Array Value) {b:Nat} {cs:Array Value} {D:TypeId} (s:St h0 g0 S0 g Lk h) (hM:b<r.size→M b)
    (K:∀h',St h0 g0 S0 g (Lk.set k [(b,.cells cs' D (0,0))]) h'→Op C ds i r M Ls e h') (hk:Lk[k]?=some [(b,.cells cs D (0,0))]:=by rfl) (hv:v.oneCell'=true:=by rfl)
    (ho:c_ C i j e=some (none,.store T x y):=by kernel_rfl) (hx:e.ev x=.pointer (some ⟨b,o,none⟩):=by kernel_rfl) (hy:(e.ev y).cells.toList=[v]:=by kernel_rfl)
    (hT:kq C.P T=some (false,1):=by kernel_rfl) (G:Nat.ble (o+1) cs.size=true:=by kernel_rfl) (hcs:splice cs o [v]=cs':=by kernel_rfl):Op C ds i r M ((j,false)::Ls) e h:=
  Op.store ho hx hy hT rfl (fun u hu=>by rw[iA.1 hu];exact hv) s k hk (jz G) hcs hM K
theorem Op.al (d:Nat) (T:TypeId) (cs:Array Value) (s:St h0 g0 S0 g Lk h) (K:∀b h',St h0 g0 S0 g ([(b,.cells cs T (0,0))]::Lk) h'→Op C ds i r M Ls ((d,.pointer (some ⟨b,0,none⟩))::e) h')
    (ho:c_ C i j e=some (some d,.alloc T):=by kernel_rfl) (hz:(C.P.info? T).bind (fun t=>t.zero.map Value.cells)=some cs:=by kernel_rfl):Op C ds i r M ((j,false)::Ls) e h:=Op.alloc ho hz s K
theorem Op.vl (d:Nat) (v u:Value) {b:Bool} (hv:v=u) (K:Op C ds i r M Ls ((d,u)::e) h) (ho:valOf C i j e=some (some d,v):=by kernel_rfl):Op C ds i r M ((j,b)::Ls) e h:=Op.val ho hv K
theorem Op.cO (d:Nat) (n:Int) {b:Bool} (h0: -9223372036854775808≤n) (h1:n≤9223372036854775807) (K:Op C ds i r M Ls ((d,.int .i64 n)::e) h) (ho:valOf C i j e=some (some d,.int .i64 (IntKind.wrap .i64 n)):=by kernel_rfl):
    Op C ds i r M ((j,b)::Ls) e h:=Op.val ho (nS h0 h1) K
theorem Op.ix (T E:TypeId) (sz cK:Nat) (n c:Nat) (x ix:Operand) (d u o:Nat) (m:Int) {b:Bool} (h0:0≤m) (h1:m<n) (K:Op C ds i r M Ls ((d,.pointer (some ⟨u,o+m.toNat*sz,none⟩))::e) h)
    (ho:c_ C i j e=some (some d,.indexAddr T x ix):=by kernel_rfl) (hE:kr C.P T=some (E,sz,cK):=by kernel_rfl) (hx:e.ev x=.slice (some ⟨u,o,none⟩) n c:=by kernel_rfl) (D:e.ev ix=.int .i64 m:=by kernel_rfl):
    Op C ds i r M ((j,b)::Ls) e h:=Op.fJ ho hE hx D h0 h1 K
theorem Op.sa (T T':TypeId) (x y:Operand) (d:Nat) (l m:aj) {b:Bool} (hl:l.length+m.length≤9223372036854775807) (K:Op C ds i r M Ls ((d,.string (br (l++m)))::e) h)
    (ho:c_ C i j e=some (some d,.binOp .add T x y T'):=by kernel_rfl) (hx:e.ev x=.string (br l):=by kernel_rfl) (hy:e.ev y=.string (br m):=by kernel_rfl):Op C ds i r M ((j,b)::Ls) e h:=Op.Ml ho hx hy hl K
theorem Op.sv {ky:IntKind} (T T':TypeId) (x y:Operand) (d:Nat) (a n v:Int) {b:Bool} (h0:0≤n) (hv:Value.int .i64 (IntKind.wrap .i64 (a*2 ^ (min n.toNat (IntKind.bits .i64))))=.int .i64 v) (K:Op C ds i r M Ls ((d,.int .i64 v)::e) h)
    (ho:c_ C i j e=some (some d,.binOp .shl T x y T'):=by kernel_rfl) (hx:e.ev x=.int .i64 a:=by kernel_rfl) (hy:e.ev y=.int ky n:=by kernel_rfl):Op C ds i r M ((j,b)::Ls) e h:=by
  refine Op.free ho (fun o ho w=>?_) (by rw[←hv] at K;exact K)
  simp only[execOp,ho,hx,hy,eqGuard,Sem.run_bind,Sem.run_pure]
  have hn:¬n<0:=by omega
  simp only[binOp,Op.shift,hn,dI,Sem.run_pure,rj,gX,Result.andThen_ok]
end
theorem At.rt {P:Program} {B:World} {fn:FuncId} {f:Func} {R:Value→ay→Prop} {i:Nat} {e:Env} {h:ay} (v:Value) (H:R v h) (hi:nj (pt (cL f) i)=true:=by kernel_rfl)
    (hv:sN f e=some v:=by kernel_rfl):At (bP P B fn f R) [] i e h:=At.ret hi hv H
theorem aG.M9 {P:Program} {B:World} {fn:FuncId} {f:Func} {args:Array Value} {h:ay} {g:GH} {Lc:List az} {u:Value→GH→List az→Prop} (hf:P.funcs[fn]?=some f)
    (H:∀R:Value→ay→Prop,(∀v h' g' D,St h g (aS Lc) g' D h'→u v g' D→R v h')→At (bP P B fn f R) [] 0 (qu args.toList 0) h) (hb:f.body.isSome=true:=by kernel_rfl) (hn:Nat.ble args.size f.ntmps=true:=by kernel_rfl)
    (h0:norm 1000 [.code (qt f)]=pt (cL f) 0:=by kernel_rfl):aG P B fn args h g Lc u:=aG.ri hf hb (jz hn) rfl h0 H
def cat:List az→az
  |[]=>[]
  |[c]=>c
  |c::L=>c++cat L
theorem tc:∀L:List az,cat L=L.flatten
  |[]=>rfl
  |[c]=>by simp[cat]
  |c::d::L=>by show c++cat (d::L)=_;rw[tc (d::L),cm,cm];rfl
def pk:List az→az
  |[p]::L=>p::cat L
  |L=>cat L
theorem M_ (L:List az):pk L=L.flatten:=by
  rcases L with _|⟨c,L⟩
  · rfl
  · rcases c with _|⟨p,c⟩
    · exact tc _
    · rcases c with _|⟨q,c⟩
      · show p::cat L=_;rw[tc,cm];rfl
      · exact tc _
section
variable {h0:ay} {g0:GH} {S0:Nat→Prop} {g:GH} {L:List az} {h:ay}
theorem St.nl (s:St h0 g0 S0 g L h):St h0 g0 S0 g ([]::L) h:=St.bw (L:=L) rfl s
theorem St.bF {Q:az→Prop} (n:Nat) (s:St h0 g0 S0 g L h) (hx:Q (pk (L.take n))):∃c,Q c∧St h0 g0 S0 g (c::L.drop n) h:=
  ⟨_,hx,St.bw (by rw[cm,M_,←mN,lJ]) s⟩
end
theorem jo {α:Type} {l:List α} {i:Int} (h:i.toNat<l.length):∃c,l[i.toNat]?=some c:=⟨_,rq h⟩
abbrev vI (n:Int):Value:=.int .i64 n
abbrev vS (l:aj):Value:=.string (br l)
abbrev vP (b:Nat):Value:=.pointer (some ⟨b,0,none⟩)
abbrev vL (a:Option Addr) (n c:Nat):Value:=.slice a n c
section
variable {C:ff} {ds:List Deferred} {i j:Nat} {r:ay} {M:Nat→Prop} {L Ls:List (Nat×Bool)} {e e':Env} {h:ay}
variable {h0:ay} {g0:GH} {S0:Nat→Prop} {g:GH} {Lk:List az}
theorem At.ke (K:At C ds i e' h) (hp:e'.map (fun p=>e.get p.1)=e'.map (fun p=>some p.2):=by kernel_rfl):At C ds i e h:=At.kp e' K hp
theorem At.fd (p:Prop) [Decidable p] (t u D:Nat) (ht:p→At C ds u e h) (hf:¬p→At C ds D e h) (hc:oE (pt C.code i)=some (.tmp t):=by kernel_rfl) (hv:e.get t=some (.bool (decide p)):=by kernel_rfl)
    (h1:norm 1000 (Sw.o_ (pt C.code i))=pt C.code u:=by kernel_rfl) (h2:norm 1000 (Sw.pe (pt C.code i))=pt C.code D:=by kernel_rfl):At C ds i e h:=
  At.cW (decide p) t u D (fun h=>ht (iX h)) (fun h=>hf (kW h)) hc hv h1 h2
theorem At.fn (p:Prop) [Decidable p] (t u D:Nat) (ht:¬p→At C ds u e h) (hf:p→At C ds D e h) (hc:oE (pt C.code i)=some (.tmp t):=by kernel_rfl) (hv:e.get t=some (.bool (!decide p)):=by kernel_rfl)
    (h1:norm 1000 (Sw.o_ (pt C.code i))=pt C.code u:=by kernel_rfl) (h2:norm 1000 (Sw.pe (pt C.code i))=pt C.code D:=by kernel_rfl):At C ds i e h:=
  At.cW (!decide p) t u D (fun h=>ht (by simpa using h)) (fun h=>hf (by simpa using h)) hc hv h1 h2
theorem Op.wd (p:Prop) [Decidable p] (k:Nat) (ht:p→Op C ds i r M L ((k,.bool true)::e) h) (hf:¬p→Op C ds i r M L ((k,.bool false)::e) h) (hv:e.get k=some (.bool (decide p)):=by kernel_rfl):Op C ds i r M L e h:=
  Op.wb (decide p) k (fun h=>ht (iX h)) (fun h=>hf (kW h)) hv
theorem At.kB (k:Nat) {b v:Bool} (hb:b=v) (K:At C ds i ((k,.bool v)::e) h) (hv:e.get k=some (.bool b):=by kernel_rfl):At C ds i e h:=by
  subst hb
  refine fun a w f is=>K a w (f.sub fun t u hu=>?_) is
  by_cases hk:k=t
  · subst hk;simp[Env.get] at hu;rw[hv,hu]
  · rw[Env.get,o8 hk] at hu;exact hu
theorem At.kT (k:Nat) {p:Prop} [Decidable p] (hp:p) (K:At C ds i ((k,.bool true)::e) h) (hv:e.get k=some (.bool (decide p)):=by kernel_rfl):At C ds i e h:=At.kB k (gb hp) K hv
theorem At.nT (k:Nat) {p:Prop} [Decidable p] (hp:¬p) (K:At C ds i ((k,.bool true)::e) h) (hv:e.get k=some (.bool (!decide p)):=by kernel_rfl):At C ds i e h:=At.kB k (by simp[hp]) K hv
theorem Op.sg (T:TypeId) (x y:Operand) (o k:Nat) (cs':Array Value) {b:Nat} {cs:Array Value} {u:TypeId} (s:St h0 g0 S0 g Lk h) (hM:b<r.size→M b)
    (K:∀h',St h0 g0 S0 g (Lk.set k [(b,.cells cs' u (0,0))]) h'→Op C ds i r M Ls e h') (hk:Lk[k]?=some [(b,.cells cs u (0,0))]:=by rfl)
    (ho:c_ C i j e=some (none,.store T x y):=by kernel_rfl) (hx:e.ev x=.pointer (some ⟨b,o,none⟩):=by kernel_rfl) (hT:kq C.P T=some (true,(e.ev y).cells.toList.length):=by kernel_rfl)
    (h1:(e.ev y).cells.toList.all (·.oneCell')=true:=by kernel_rfl) (D:Nat.ble (o+(e.ev y).cells.toList.length) cs.size=true:=by kernel_rfl) (hcs:splice cs o (e.ev y).cells.toList=cs':=by kernel_rfl):Op C ds i r M ((j,false)::Ls) e h:=
  Op.store ho hx rfl hT rfl (gx.1 h1) s k hk (jz D) hcs hM K
theorem Op.bx (d:Nat) (T:TypeId) (x:Operand) (cs:Array Value) (s:St h0 g0 S0 g Lk h) (K:∀b h',St h0 g0 S0 g ([(b,.cells cs T (0,0))]::Lk) h'→Op C ds i r M Ls ((d,.pointer (some ⟨b,0,none⟩))::e) h')
    (ho:c_ C i j e=some (some d,.box T x):=by kernel_rfl) (hc:(e.ev x).cells=cs:=by kernel_rfl):Op C ds i r M ((j,false)::Ls) e h:=Op.box ho hc s K
def F8 (C:ff) (i j:Nat) (e:Env):Option (Nat×Nat×TypeId×Array Value):=
  match c_ C i j e with
  |some (some d,.buildSlice T len hU)=>(Br C.P T len (hU.map fun(k,x)=>(k,e.ev x)).toList).map fun q=>(d,len,q.1,q.2)
  |_=>none
theorem Op.ls (d len:Nat) (E:TypeId) (cs:Array Value) (s:St h0 g0 S0 g Lk h) (K:∀b h',St h0 g0 S0 g ([(b,.cells cs E (0,0))]::Lk) h'→Op C ds i r M Ls ((d,.slice (some ⟨b,0,none⟩) len len)::e) h')
    (ho:F8 C i j e=some (d,len,E,cs):=by kernel_rfl):Op C ds i r M ((j,false)::Ls) e h:=by
  unfold F8 at ho
  split at ho
  · rename_i u T D hU hq
    obtain⟨q,h1,h2⟩:=q5.1 ho
    obtain⟨G,I⟩:=q
    simp only[gY] at h2
    obtain⟨rfl,rfl,rfl,rfl⟩:=h2
    exact Op.lit hq rfl h1 s K
  · cases ho
theorem Op.cl (d:Option Nat) (n:Nat) {f:FuncId} {args:Array Value} {u:Value→GH→List az→Prop} (s:St h0 g0 S0 g Lk h) (H:aG C.P C.B f args h g (Lk.take n) u)
    (K:∀v g' D h',aM g g'→St h0 g0 S0 g' (D++Lk.drop n) h'→u v g' D→Op C ds i r M Ls (e.fX d v) h') (hM:∀b,b<r.size→aS (Lk.take n) b→M b:=by intros;trivial) (ho:qz C i j e=some (d,f,args):=by kernel_rfl):Op C ds i r M ((j,false)::Ls) e h:=
  Op.call (L:=Lk.drop n) ho (by rwa[lJ]) H hM K
theorem Op.le (d:Option Nat) (n:Nat) {u:az} {f:FuncId} {args:Array Value} {D:Value→GH→List az→Prop} (s:St h0 g0 S0 g (u::Lk) h) (H:aG C.P C.B f args h (cS g u) (Lk.take n) D) (hq:∀v g' L',D v g' L'→g'=cS g u)
    (K:∀v G h',St h0 g0 S0 g (u::(G++Lk.drop n)) h'→D v (cS g u) G→Op C ds i r M Ls (e.fX d v) h') (hM:∀b,b<r.size→aS (Lk.take n) b→M b:=by intros;trivial) (ho:qz C i j e=some (d,f,args):=by kernel_rfl):Op C ds i r M ((j,false)::Ls) e h:=
  Op.MP (L:=Lk.drop n) ho (by rwa[lJ]) H hq hM K
end
section
variable {h0:ay} {g0:GH} {S0:Nat→Prop} {g:GH} {L:List az} {h:ay}
theorem St.mg (n:Nat) (s:St h0 g0 S0 g L h):St h0 g0 S0 g (cat (L.take n)::L.drop n) h:=St.bw (by rw[cm,tc,←mN,lJ]) s
theorem St.sp (cs:List az) (s:St h0 g0 S0 g (cat cs::L) h):St h0 g0 S0 g (cs++L) h:=St.bw (by rw[cm,tc,←mN]) s
theorem St.un (cs:List az) {c:az} {p:Nat×Obj} (e:c=p::cat cs) (s:St h0 g0 S0 g (c::L) h):St h0 g0 S0 g ([p]::(cs++L)) h:=
  St.bw (by rw[e,tc,cm,cm,mN];simp only[dL,dS]) s
theorem St.pt (n:Nat) (s:St h0 g0 S0 g L h):St h g (aS (L.take n)) g (L.take n) h:=St.part (L:=L.drop n) (by rwa[lJ])
end
section
variable {C:ff} {ds:List Deferred} {i j:Nat} {r:ay} {M:Nat→Prop} {L Ls:List (Nat×Bool)} {e e':Env} {h:ay}
variable {h0:ay} {g0:GH} {S0:Nat→Prop} {g:GH} {Lk:List az}
theorem Op.lf (T:TypeId) (x:Operand) (o d n:Nat) (v:Value) {b:Nat} {cs:Array Value} {u:TypeId} {fz:Nat×Nat} (hM:¬M b) (hb:r[b]?=some (.cells cs u fz)) (K:Op C ds i r M Ls ((d,v)::e) h)
    (ho:c_ C i j e=some (some d,.load T x):=by kernel_rfl) (hx:e.ev x=.pointer (some ⟨b,o,none⟩):=by kernel_rfl) (hT:kq C.P T=some (false,n):=by kernel_rfl) (hv:cs[o]?=some v:=by kernel_rfl):Op C ds i r M ((j,true)::Ls) e h:=Op.ez ho hx hT hM hb hv K
theorem Op.ap {α:Type} (x y:Operand) (t t':TypeId) (dst:Nat) (E:TypeId) (cK:Nat) (d:Kd α) {v:Value} {xs ys:List α} {c:az} {m:Nat} {news:List Value} {g1:GH}
    (hv:aH E d g1 v xs c) (s:St h0 g0 S0 g Lk h) (k:Nat) (hys:Reads d g1 ys news) (hlen:(xs.length+ys.length)*cK≤140737488355328) (hM:∀p∈c,p.1<r.size→M p.1) (hy:cT C.P h d.sz (e.ev y) m news)
    (K:∀u c' h',aH E d g1 u (xs++ys) c'→St h0 g0 S0 g (Lk.set k c') h'→(u=.slice none 0 0→xs++ys=[])→Op C ds i r M Ls ((dst,u)::e) h')
    (ho:c_ C i j e=some (some dst,.call {callee:=.builtin .append,args:=#[x,y],argTypes:=#[t,t']}):=by kernel_rfl) (hI:kr C.P t=some (E,d.sz,cK):=by kernel_rfl) (ht':uz C.P t'=true:=by kernel_rfl) (hz:((C.P.info? E).bind (·.zero)).map (·.cells.toList)=some d.zc:=by kernel_rfl)
    (hx:e.ev x=v:=by rfl) (hk:Lk[k]?=some c:=by rfl) (hm:ys.length=m:=by rfl):Op C ds i r M ((j,false)::Ls) e h:=Op.append ho hI ht' hz hx hv s k hk hy hys hm hlen hM K
theorem At.dw (M:Nat→Prop) (L:List (Nat×Bool)) (H:Op C ds i h M L e h) (hm:C.P.follows .mixedOrders=true:=by kernel_rfl) (hL:Ba (pt C.code i) L=true:=by kernel_rfl):At C ds i e h:=At.nQ hm M L hL H
theorem Op.ba {k:Nat} (H:Op C ds i #[] (fun _=>True) L e h) (hk:(Nat.ble 1000 k&&!(Nat.ble 2000 k))=true:=by kernel_rfl):Op C ds i r M ((k,false)::L) e h:=Op.L4 hk H
theorem At.rm {P:Program} {B:World} {fn:FuncId} {R:Value→ay→Prop} (f:Func) (vs:List Value) (rl:List ResultVar) (v:Value) (hv:pK P e h rl vs) (H:R v h)
    (hi:nj (pt (cL f) i)=true:=by kernel_rfl) (hr:f.results.toList=rl:=by kernel_rfl) (u:(if hs:vs.toArray.size=1 then vs.toArray[0] else .tuple vs.toArray)=v:=by rfl):At (bP P B fn f R) [] i e h:=At.Fz hi hr hv u H
theorem Op.cv (dst:Option Tmp) (x:Operand) (ops:Array Operand) (ts:Array TypeId) (f:FuncId) (first cap:Array Value) (Lc L:List az) (args:Array Value) {u:Value→GH→List az→Prop} (hf:eg C.P f) (ha:first++ops.map e.ev++cap=args)
    (s:St h0 g0 S0 g (Lc++L) h) (H:aG C.P C.B f args h g Lc u) (hM:∀b,b<r.size→aS Lc b→M b)
    (K:∀v g' D h',aM g g'→St h0 g0 S0 g' (D++L) h'→u v g' D→Op C ds i r M Ls (e.fX dst v) h')
    (ho:c_ C i j e=some (dst,.call {callee:=.value x,args:=ops,argTypes:=ts}):=by kernel_rfl) (hx:e.ev x=.func (.func f) first cap:=by kernel_rfl):Op C ds i r M ((j,false)::Ls) e h:=Op.Mi ho hx hf ha s H hM K
theorem Op.sq (T E:TypeId) (sz cK:Nat) (x lo:Operand) (ao:Option Addr) (n c dst:Nat) (k:IntKind) (m:Int) {b:Bool} (h0:0≤m) (h1:m≤n) (K:Op C ds i r M Ls ((dst,.slice (d_ ao m.toNat c sz) (n-m.toNat) (c-m.toNat))::e) h)
    (ho:c_ C i j e=some (some dst,.slice T x (some lo) none none):=by kernel_rfl) (hE:kr C.P T=some (E,sz,cK):=by kernel_rfl) (hx:e.ev x=.slice ao n c:=by kernel_rfl) (hlo:e.ev lo=.int k m:=by kernel_rfl):Op C ds i r M ((j,b)::Ls) e h:=Op.Fo ho hE hx hlo h0 h1 K
instance {n:Nat}:OfNat Operand n:=⟨.tmp n⟩
abbrev vQ (b o:Nat):Value:=.pointer (some ⟨b,o,none⟩)
abbrev vN:Value:=vL none 0 0
theorem Op.vq (d:Nat) (n:Int) {b:Bool} (K:Op C ds i r M Ls ((d,.int .i64 n)::e) h) (h0: -9223372036854775808≤n:=by omega) (h1:n≤9223372036854775807:=by omega) (ho:valOf C i j e=some (some d,.int .i64 (IntKind.wrap .i64 n)):=by kernel_rfl):
    Op C ds i r M ((j,b)::Ls) e h:=Op.cO d n h0 h1 K ho
theorem Op.iq (T E:TypeId) (sz cK:Nat) (n c:Nat) (x ix:Operand) (d u o:Nat) (m:Int) {b:Bool} (K:Op C ds i r M Ls ((d,.pointer (some ⟨u,o+m.toNat*sz,none⟩))::e) h) (h0:0≤m:=by omega) (h1:m<n:=by omega)
    (ho:c_ C i j e=some (some d,.indexAddr T x ix):=by kernel_rfl) (hE:kr C.P T=some (E,sz,cK):=by kernel_rfl) (hx:e.ev x=.slice (some ⟨u,o,none⟩) n c:=by kernel_rfl) (D:e.ev ix=.int .i64 m:=by kernel_rfl):
    Op C ds i r M ((j,b)::Ls) e h:=Op.ix T E sz cK n c x ix d u o m h0 h1 K ho hE hx D
theorem bW {α:Type} (l:List α) (i:Int) (h:i.toNat<l.length:=by omega):∃c,l[i.toNat]?=some c:=jo h
theorem Op.l1 (T:TypeId) (x:Operand) (d o:Nat) (v:Value) {b:Nat} {cs:Array Value} {u:TypeId} {fz:Nat×Nat} (hb:h[b]?=some (.cells cs u fz))
    (K:Op C ds i r M Ls ((d,v)::e) h) (hv:cs[o]?=some v:=by kernel_rfl) (ho:c_ C i j e=some (some d,.load T x):=by kernel_rfl) (hx:e.ev x=.pointer (some ⟨b,o,none⟩):=by kernel_rfl)
    (hT:kq C.P T=some (false,1):=by kernel_rfl):Op C ds i r M ((j,false)::Ls) e h:=Op.ld (n:=1) T x d o v hb K hv ho hx hT
theorem Op.pr {P:Program} {B:World} {fn:FuncId} {f:Func} {R:Value→ay→Prop} (k t:Nat) (v:Value) (H:R v h) (hp:(lH P (bP P B fn f R).n (g_ (pt (cL f) i)) L.length L e).map (fun x=>Env.news x.2 e [(t,v)])=some ([some v],true):=by kernel_rfl)
    (hj:norm 1000 (pt (cL f) i).tail=pt (cL f) k:=by kernel_rfl) (hi:nj (pt (cL f) k)=true:=by kernel_rfl) (hv:sN f ((t,v)::e)=some v:=by kernel_rfl):Op (bP P B fn f R) [] i r M L e h:=Op.pg k [(t,v)] (At.rt v H hi hv) hp hj
theorem At.gr {P:Program} {B:World} {fn:FuncId} {f:Func} {R:Value→ay→Prop} (k n t:Nat) (v:Value) (H:R v h) (hL:uv (pt (cL f) i)=some (rl n 0):=by kernel_rfl)
    (hp:(lH P (bP P B fn f R).n (g_ (pt (cL f) i)) (rl n 0).length (rl n 0) e).map (fun x=>Env.news x.2 e [(t,v)])=some ([some v],true):=by kernel_rfl)
    (hj:norm 1000 (pt (cL f) i).tail=pt (cL f) k:=by kernel_rfl) (hi:nj (pt (cL f) k)=true:=by kernel_rfl) (hv:sN f ((t,v)::e)=some v:=by kernel_rfl):At (bP P B fn f R) [] i e h:=At.go k n [(t,v)] (At.rt v H hi hv) hL hp hj
theorem aG.aq {P:Program} {B:World} {fn:FuncId} {f:Func} {args:Array Value} {h:ay} {g:GH} {Lc:List az} {D:Value→GH→List az→Prop} (hf:P.funcs[fn]?=some f)
    (H:∀R:Value→ay→Prop,(∀{v h' g' u},St h g (aS Lc) g' u h'→D v g' u→R v h')→At (bP P B fn f R) [] 0 (qu args.toList 0) h) (hb:f.body.isSome=true:=by kernel_rfl) (hn:Nat.ble args.size f.ntmps=true:=by kernel_rfl)
    (h0:norm 1000 [.code (qt f)]=pt (cL f) 0:=by kernel_rfl):aG P B fn args h g Lc D:=aG.M9 hf (fun R hR=>H R fun{v h' g' u} a b=>hR v h' g' u a b) hb hn h0
theorem zt {p:Prop} (_:p):True:=trivial
theorem zs {α:Type} {a b:α} (h:a=b:=by kernel_rfl):some a=some b:=congrArg some h
abbrev zr (vs:List Value):Value:=match vs with
  |[a]=>a
  |l=>.tuple l.toArray
theorem Na (vs:List Value):(if hs:vs.toArray.size=1 then vs.toArray[0] else .tuple vs.toArray)=zr vs:=by
  match vs with
  |[]=>rfl
  |[a]=>rfl
  |a::b::l=>
   rw[dif_neg (by simp)]
theorem At.rn {P:Program} {B:World} {fn:FuncId} {R:Value→ay→Prop} (f:Func) (vs:List Value) (rl:List ResultVar) (hv:pK P e h rl vs) (H:R (zr vs) h)
    (hi:nj (pt (cL f) i)=true:=by kernel_rfl) (hr:f.results.toList=rl:=by kernel_rfl):At (bP P B fn f R) [] i e h:=At.Fz hi hr hv (Na vs) H
end
section
variable {h0:ay} {g0:GH} {S0:Nat→Prop} {g:GH} {h:ay}
abbrev vF:Value:=.bool false
abbrev vT:Value:=.bool true
def BY:List Nat→List az→Option (List az)
  |[],L=>some L
  |k::ks,L=>match L[k]? with
   |some c=>BY ks (c::L.eraseIdx k)
   |none=>none
theorem St.fs:∀{L:List az} (_:St h0 g0 S0 g L h) (ks:List Nat) {L':List az},BY ks L=some L'→St h0 g0 S0 g L' h
  |L,s,[],L',e=>by cases e;exact s
  |L,s,k::ks,L',e=>by
   unfold BY at e
   split at e
   · exact St.fs (s.sO k ‹_›) ks e
   · cases e
theorem Nb {A:List az} {b:Nat} (hi:aS A b):∃c∈A,aS [c] b:=by
  obtain⟨p,hp,e⟩:=hi
  obtain⟨c,hc,hp⟩:=ur.1 hp
  exact⟨c,hc,p,by simpa using hp,e⟩
theorem St.fy {L:List az} (s:St h0 g0 S0 g L h) (i:Nat) (u:List Nat) {b:Nat} {o:Obj} {A:List az} (D:u.all (fun j=>!Nat.beq i j)=true) (h1:L[i]?=some [(b,o)]) (hA:u.map (fun j=>L[j]?)=A.map some):¬aS A b:=by
  intro h
  obtain⟨c,hc,hi⟩:=Nb h
  have:some c∈u.map (fun j=>L[j]?):=hA▸BJ hc
  obtain⟨j,hj,e⟩:=cY.1 this
  have hb:=gx.1 D j hj
  exact s.apart i j (by simpa using hb) h1 e hi
end
structure aa where
  af:aj
  Data:aj
  ai:Int
  aC:Int
  Next:Int
  aF:Int
  deriving DecidableEq
def rG:Kd aa where
  sz:=6
  K g x cs:=∃v0,an g 5 a_ v0 x.Data∧cs=[.string (br x.af),v0,.int .i64 x.ai,.int .i64 x.aC,.int .i64 x.Next,.int .i64 x.aF]
  len h:=by obtain⟨v0,h0,rfl⟩:=h;rfl
  one h:=by
    obtain⟨v0,h0,rfl⟩:=h
    obtain⟨_,_,rfl⟩:=h0.ak
    simp[Value.oneCell']
  mono hg h:=by obtain⟨v0,h0,rfl⟩:=h;exact⟨v0,h0.mono hg,rfl⟩
  zv:=⟨[],[],0,0,0,0⟩
  zc:=[.string (br []),.slice none 0 0,.int .i64 0,.int .i64 0,.int .i64 0,.int .i64 0]
  zK _:=⟨_,an.nil _ _ _,rfl⟩
structure au where
  ax:Int
  ah:Int
  af:aj
  deriving DecidableEq
def cA:Kd au where
  sz:=3
  K _ x cs:=cs=[.int .i64 x.ax,.int .i64 x.ah,.string (br x.af)]
  len h:=by subst h;rfl
  one h:=by subst h;simp[Value.oneCell']
  mono _ h:=h
  zv:=⟨0,0,[]⟩
  zc:=[.int .i64 0,.int .i64 0,.string (br [])]
  zK _:=rfl
structure dQ where
  ax:Int
  aI:Int
  dx:Int
  deriving DecidableEq
def uK:Kd dQ where
  sz:=3
  K _ x cs:=cs=[.int .i64 x.ax,.int .i64 x.aI,.int .i64 x.dx]
  len h:=by subst h;rfl
  one h:=by subst h;simp[Value.oneCell']
  mono _ h:=h
  zv:=⟨0,0,0⟩
  zc:=[.int .i64 0,.int .i64 0,.int .i64 0]
  zK _:=rfl
structure gV where
  ax:Int
  cw:Int
  Data:aj
  deriving DecidableEq
def qE:Kd gV where
  sz:=3
  K g x cs:=∃v0,an g 5 a_ v0 x.Data∧cs=[.int .i64 x.ax,.int .i64 x.cw,v0]
  len h:=by obtain⟨v0,h0,rfl⟩:=h;rfl
  one h:=by
    obtain⟨v0,h0,rfl⟩:=h
    obtain⟨_,_,rfl⟩:=h0.ak
    simp[Value.oneCell']
  mono hg h:=by obtain⟨v0,h0,rfl⟩:=h;exact⟨v0,h0.mono hg,rfl⟩
  zv:=⟨0,0,[]⟩
  zc:=[.int .i64 0,.int .i64 0,.slice none 0 0]
  zK _:=⟨_,an.nil _ _ _,rfl⟩
structure j0 where
  ax:Int
  cw:Int
  cx:Int
  uL:aj
  deriving DecidableEq
structure iO where
  cX:Int
  data:aj
  deriving DecidableEq
structure Result where
  Code:Int
  aU:Int
  At:Int
  aa:aa
  aX:List aj
  aP:List au
  deriving DecidableEq
structure ie where
  cx:Int
  aU:Int
  jq:List aa
  jG:List au
  jH:List dQ
  aP:List au
  ig:List gV
  deriving DecidableEq
structure F9 where
  ec:Bool
  data:Bool
  jI:Bool
  dF:Bool
  make:Bool
  watch:Bool
  ops:Bool
  deriving DecidableEq
theorem F_ (a b:au):((a.ax==b.ax)&&((a.ah==b.ah)&&((br a.af==br b.af)&&true)))=decide (a=b):=by
  obtain⟨a0,a1,a2⟩:=a;obtain⟨b0,b1,b2⟩:=b
  rw[iN];simp[Mt,bZ,au.mk.injEq]
theorem Nc {s p:aj}:(s.take p.length==p)=p.isPrefixOf s:=by
  rw[iN,jZ,rz,List.prefix_iff_eq_take]
  exact eq_comm
theorem Nd {s p:aj} (h:s.length<p.length):p.isPrefixOf s=false:=by
  rw[←wQ,rz]
  intro hp
  have:=hp.length_le
  omega
theorem Ga {s p:aj} (h:p.isPrefixOf s=true):p.length≤s.length:=(rz.1 h).length_le
theorem Nf {l:aj} (h:l.all (fun b=>decide (b.toNat<128))=true):∀(j:Nat) b,l[j]?=some b→b.toNat<128:=
  fun _ b hb=>iX (gx.1 h b (bY hb))
def yK:aj:=[97,98,99,100,101,102,103,104,105,106,107,108,109,110,111,112,113,114,115,116,117,118,119,120,121,122,48,49,50,51,52,53,54,55,56,57,45,95]
def wX (c:UInt8):Bool:=(decide (97≤c.toNat)&&decide (c.toNat≤122))||((decide (48≤c.toNat)&&decide (c.toNat≤57))||(decide (c.toNat=45)||decide (c.toNat=95)))
theorem Gb (c:UInt8):yK.contains c=wX c:=by
  revert c
  have:∀n:Fin 256,yK.contains (UInt8.ofNat n.1)=wX (UInt8.ofNat n.1):=by decide+kernel
  intro c
  have h:=this ⟨c.toNat,c.toNat_lt⟩
  simpa using h
def gp (s:aj):Bool:=decide (s≠[])&&(decide (s.length≤16)&&s.all wX)
theorem Ng (s:aj):(Lib.trimS s yK==[])=s.all wX:=by
  rw[iN,jZ,MK,gx]
  constructor
  · intro h b hb;rw[←Gb];exact h b hb
  · intro h b hb;rw[Gb];exact h b hb
theorem Nh {s:aj} (h0:¬(s=[])) (h1:(s.length:Int)≤16):(Lib.trimS s yK==[])=gp s:=by
  rw[Ng,gp,gb h0,gb (by omega),lK,lK]
theorem Ni {s:aj} (h:¬((s.length:Int)≤16)):false=gp s:=by
  rw[gp,gQ (show ¬s.length≤16 by omega)];simp
theorem Nj:false=gp []:=by simp[gp]
def ek {α:Type} (q:α→Bool):List α→Int
  |[]=> -1
  |x::xs=>if q x=true then 0 else if ek q xs<0 then -1 else ek q xs+1
theorem wY {α:Type} (q:α→Bool):∀l, -1≤ek q l
  |[]=>by simp[ek]
  |x::xs=>by unfold ek;have:=wY q xs;split<;>(try split)<;>omega
theorem uM {α:Type} (q:α→Bool):∀l,decide (0≤ek q l)=l.any q
  |[]=>by simp[ek]
  |x::xs=>by
   have ih:=uM q xs
   unfold ek
   rw[BK,←ih]
   by_cases h:q x=true
   · simp[h]
   · by_cases h2:ek q xs<0
     · simp[h,h2]
     · simp[h,h2];omega
def findAt {α:Type} (q:α→Bool) (l:List α) (i:Int):Prop:=ek q l=if ek q (l.drop i.toNat)<0 then -1 else i+ek q (l.drop i.toNat)
theorem uN {α:Type} (q:α→Bool) (l:List α):findAt q l 0:=by
  unfold findAt
  have:=wY q l
  simp only[Int.toNat_zero,wu,Int.zero_add]
  split<;>omega
theorem td {α:Type} {q:α→Bool} {l:List α} {i:Int} {x:α} (H:findAt q l i) (hx:l[i.toNat]?=some x) (hq:q x=true):i=ek q l:=by
  unfold findAt at H
  rw[H,drop_at hx]
  simp[ek,hq]
theorem uO {α:Type} {q:α→Bool} {l:List α} {i:Int} {x:α} (H:findAt q l i) (h0:0≤i) (hx:l[i.toNat]?=some x) (hq:q x=false):findAt q l (i+1):=by
  unfold findAt at H ⊢
  have hg:=wY q (l.drop (i.toNat+1))
  rw[H,drop_at hx,toNat_succ h0]
  simp only[ek,hq,fW,dI]
  split<;>split<;>(try split)<;>omega
theorem tf {α:Type} {q:α→Bool} {l:List α} {i:Int} (H:findAt q l i) (h:¬(i<(l.length:Int))): -1=ek q l:=by
  unfold findAt at H
  rw[H,mO (by omega)]
  simp[ek]
def eH (p:aj):Bool:=decide (p.head?=some 47)&&(decide (p.length≤64)&&(decide (p=[47])||(splitOn 47 (p.drop 1)).all gp))
def bX (p:aj):List aj:=if eH p=true then (if p=[47] then [] else splitOn 47 (p.drop 1)) else []
def cR (p:aj):Int:=if eH p=true then 0 else 90
theorem Gc (p:aj):([47]:aj).isPrefixOf p=decide (p.head?=some 47):=by
  cases p with
  |nil=>simp[List.isPrefixOf]
  |cons b l=>
   by_cases h:b=47
   · simp[List.isPrefixOf,h]
   · simp[List.isPrefixOf,h];exact fun e=>h e.symm
theorem Gd {p:aj} (h:([47]:aj).isPrefixOf p=false):eH p=false:=by
  rw[Gc] at h;simp[eH,h]
theorem BZ {p:aj} (h:64<p.length):eH p=false:=by
  simp[eH];intro _ h2;omega
theorem Ge {p:aj} (h:([47]:aj).isPrefixOf p=true) (hl:p.length≤64):eH p=(decide (p=[47])||(splitOn 47 (p.drop 1)).all gp):=by
  rw[Gc] at h;simp[eH,h,hl]
theorem B0 {p:aj} (h:([47]:aj).isPrefixOf p=true):p.drop 1=[]↔p=[47]:=by
  cases p with
  |nil=>simp[List.isPrefixOf] at h
  |cons b l=>
   simp[List.isPrefixOf] at h
   subst h
   simp
theorem Gf (c:UInt8) (l:aj):(splitOn c l).length≤l.length+1:=by
  rw[Bv];have:=List.count_le_length (a:=c) (l:=l);omega
theorem nZ (p:aj):(bX p).length≤64:=by
  unfold bX
  split
  · rename_i h
    split
    · simp
    · have h2:=Gf 47 (p.drop 1)
      simp[eH] at h
      rw[eT] at h2
      have:p.length≠0:=by intro e;have:=kU e;subst this;simp at h
      omega
  · simp
def cj (p:aj):Int:=if bX p=[] then 90 else 0
def mR (l:List aj):aj:=l.getLast?.getD []
def joined (l:List aj):aj:=47::eZ 47 l
def parentOf (p:aj):aj:=if bX p=[] then [] else joined (bX p).dropLast
def nameOf (p:aj):aj:=mR (bX p)
def mc (p:aj):aj:=if eH p=true then p else []
def Gg (parent:aj) (hU:List aj):aj:=if eH parent&&hU.all gp then mc (joined (bX parent++hU)) else []
def Gh (parent:aj) (hU:List aj):Int:=if eH parent&&hU.all gp then cR (joined (bX parent++hU)) else 90
def wZ (n:Int):aj:=Lib.repeatL [48] (5-(Lib.itoa n).length)++Lib.itoa n
def lM (p:aj) (n:Int):Bool:=decide (bX p≠[])&&(decide (0≤n)&&decide (n≤99999))
def eu (p:aj) (n:Int):aj:=if lM p n then mc (p++wZ n) else []
def j3 (p:aj) (n:Int):Int:=if lM p n then cR (p++wZ n) else 90
def rH (p top:aj):Bool:=(eH p&&eH top)&&(p==top||(top==[47]||(top++[47]).isPrefixOf p))
theorem B1 (l:List aj):Lib.join l [47]=eZ 47 l:=by
  induction l with
  |nil=>rfl
  |cons x xs ih=>
   cases xs with
   |nil=>simp[Lib.join,List.intercalate,eZ]
   |cons y ys=>
    rw[eZ,←ih]
    simp[Lib.join,List.intercalate]
theorem j4 {p:aj}:cR p=0↔eH p=true:=by unfold cR;split<;>simp_all
theorem B2 {p:aj} (h:¬(cR p=0)):bX p=[]:=by
  rw[j4] at h;simp[bX,h]
theorem Nk {l:List aj} {x:aj} {n:Nat} (h:l[n]?=some x) (hn:n+1=l.length):x=mR l:=by
  unfold mR
  rw[List.getLast?_eq_getElem?,show l.length-1=n from by omega,h];rfl
theorem Gi {p:aj} (h:¬((bX p).length=0)):cj p=0:=by
  unfold cj;rw[aL];intro e;rw[e] at h;simp at h
theorem uP {p:aj} (h:eH p=false):([]:List aj)=bX p∧(90:Int)=cR p:=by simp[bX,cR,h]
theorem Gj (c:UInt8):∀(l:aj),∀x∈splitOn c l,x.length≤l.length
  |[],x,hx=>by simp[splitOn] at hx;subst hx;simp
  |b::l,x,hx=>by
   have ih:=Gj c l
   unfold splitOn at hx
   split at hx
   · rcases eO.1 hx with rfl|hx
     · simp
     · have:=ih x hx;simp;omega
   · split at hx
     · rename_i y ys hy
       rw[hy] at ih
       rcases eO.1 hx with rfl|hx
       · have:=ih y (by simp);simp;omega
       · have:=ih x (by simp[hx]);simp;omega
     · rename_i hy;exact absurd hy (yu c l)
def nw (p:aj):aj:=if ([47]:aj).isPrefixOf p=true then p.drop ([47]:aj).length else p
theorem B3 (p:aj):(nw p).length≤p.length:=by unfold nw;split<;>simp
theorem w4 {p:aj} (h:([47]:aj).isPrefixOf p=true):nw p=p.drop 1:=by simp[nw,h]
theorem Gk {p:aj} (h:([47]:aj).isPrefixOf p=true) (hl:¬(p.length:Int)>64) (hr:nw p=[]):([]:List aj)=bX p∧(0:Int)=cR p:=by
  rw[w4 h,B0 h] at hr
  subst hr
  exact⟨by decide,by decide⟩
theorem Gl {p:aj} (h:([47]:aj).isPrefixOf p=true) (hl:¬(p.length:Int)>64) (hr:¬(nw p=[])) (ha:(splitOn 47 (nw p)).any (fun s=>!gp s)=true):eH p=false:=by
  rw[w4 h,B0 h] at hr
  rw[w4 h] at ha
  rw[Ge h (by omega),gQ hr,s6]
  rw[←wQ]
  intro hall
  rw[qC] at ha
  obtain⟨x,hx,hb⟩:=ha
  rw[gx] at hall
  rw[hall x hx] at hb
  cases hb
theorem Gm {p:aj} (h:([47]:aj).isPrefixOf p=true) (hl:¬(p.length:Int)>64) (hr:¬(nw p=[])) (ha:(splitOn 47 (nw p)).any (fun s=>!gp s)=false):splitOn 47 (nw p)=bX p∧(0:Int)=cR p:=by
  rw[w4 h,B0 h] at hr
  rw[w4 h] at ha ⊢
  have hok:eH p=true:=by
    rw[Ge h (by omega),gQ hr,s6,gx]
    intro x hx
    rw[List.any_eq_false] at ha
    have:=ha x hx
    simpa using this
  simp[bX,cR,hok,hr]
theorem uQ {p:aj} (h:bX p=[]):([]:List aj)=(bX p).dropLast∧([]:aj)=mR (bX p)∧(90:Int)=cj p:=by
  simp[h,mR,cj]
theorem Nl {l:List aj} {n:Int} (h:n=(l.length:Int)-1) (h0:¬((l.length:Int)=0)):l.take n.toNat=l.dropLast:=by
  rw[List.dropLast_eq_take]
  congr 1
  omega
theorem B4 (c:UInt8) (x:aj) (l:List aj):(eZ c (x::l)).length=x.length+(if l=[] then 0 else 1+(eZ c l).length):=by
  cases l with
  |nil=>simp[eZ]
  |cons y ys=>simp[eZ];omega
theorem B5 (c:UInt8):∀l:List aj,(eZ c l.dropLast).length≤(eZ c l).length
  |[]=>by simp
  |[x]=>by simp[eZ]
  |x::y::l=>by
   have ih:=B5 c (y::l)
   rw[List.dropLast_cons_cons,B4,B4]
   split<;>simp<;>omega
theorem rI {p:aj} (h:eH p=true):joined (bX p)=p:=by
  unfold bX
  rw[aY h]
  have hh:p.head?=some 47:=by simp[eH] at h;exact h.1
  split
  · rename_i e;subst e;rfl
  · unfold joined
    rw[FB]
    cases p with
    |nil=>simp at hh
    |cons b l=>simp at hh;subst hh;simp
theorem Nn (p:aj):(eZ 47 (bX p)).length≤p.length:=by
  by_cases h:eH p=true
  · have:=congrArg List.length (rI h)
    simp[joined] at this
    omega
  · simp[bX,h,eZ]
theorem No (p:aj):(eZ 47 (bX p).dropLast).length≤p.length:=cH (B5 _ _) (Nn p)
theorem Np (p:aj):(bX p).dropLast.length≤64:=by have:=nZ p;simp;omega
theorem Gn {p:aj} (h:cj p=0):bX p≠[]:=by intro e;simp[cj,e] at h
theorem Gp {p:aj} (h:¬(cj p=0)):bX p=[]:=by
  unfold cj at h;split at h
  · assumption
  · simp at h
theorem Nq {p:aj} (h:¬(cj p=0)):[]=parentOf p:=by simp[parentOf,Gp h]
theorem Nr {p:aj} (h:cj p=0):joined (bX p).dropLast=parentOf p:=by simp[parentOf,Gn h]
theorem Ns {p:aj} (h:¬(cR p=0)):[]=mc p:=by rw[j4] at h;simp[mc,h]
theorem Gq {p:aj} (h:cR p=0):p=mc p∧0=cR p:=by rw[h];rw[j4] at h;simp[mc,h]
theorem uR {n:Int} (h0:0≤n) (h1:n≤99999):1≤(Lib.itoa n).length∧(Lib.itoa n).length≤5:=by
  rw[Lib.itoa,aL (by omega),Lib.decDigits_length]
  refine⟨Lib.nDigits_pos _,?_⟩
  have hu:n.toNat≤99999:=by omega
  generalize n.toNat=u at hu
  by_cases a1:u<10
  · rw[Lib.nDigits_small a1];omega
  by_cases a2:u<100
  · rw[Lib.nDigits_unique 1 u (by omega) (by omega)];omega
  by_cases a3:u<1000
  · rw[Lib.nDigits_unique 2 u (by omega) (by omega)];omega
  by_cases a4:u<10000
  · rw[Lib.nDigits_unique 3 u (by omega) (by omega)];omega
  · rw[Lib.nDigits_unique 4 u (by omega) (by omega)];omega
theorem tg {p:aj} {n:Int} (h:lM p n=false):[]=eu p n∧(90:Int)=j3 p n:=by simp[eu,j3,h]
theorem Gr {p:aj} {n:Int} (h:¬(cj p=0)):lM p n=false:=by simp[lM,Gp h]
theorem Gs {p:aj} {n:Int} (h:n<0):lM p n=false:=by simp[lM];intros;omega
theorem Gt {p:aj} {n:Int} (h:n>99999):lM p n=false:=by simp[lM];intros;omega
theorem Gu {p:aj} {n:Int} (h:cj p=0) (h0:¬n<0) (h1:¬n>99999):lM p n=true:=by simp[lM,Gn h];omega
theorem Gv {p:aj} {n:Int} (h:lM p n=true) {k:Nat} (hk:k=5-(Lib.itoa n).length):mc ((p++Lib.repeatL [48] k)++Lib.itoa n)=eu p n∧cR ((p++Lib.repeatL [48] k)++Lib.itoa n)=j3 p n:=by
  subst hk
  simp[eu,j3,h,wZ,cJ]
section
variable {α:Type} [DecidableEq α]
theorem yL {a b:List α} (h:¬((a.length:Int)=b.length)):false=decide (a=b):=by
  symm;rw[jE];intro e;subst e;exact h rfl
theorem yM {a b:List α} {i:Nat} {x y:α} (hx:a[i]?=some x) (hy:b[i]?=some y) (h:¬(x=y)):false=decide (a=b):=by
  symm;rw[jE];intro e;subst e;rw[hx] at hy;exact h (gI hy)
theorem yN {a b:List α} {i:Int} (hl:(a.length:Int)=b.length) (h:¬(i<(a.length:Int))) (ht:a.take i.toNat=b.take i.toNat):true=decide (a=b):=by
  symm;rw[decide_eq_true_iff];rwa[fF (by omega),fF (by omega)] at ht
end
theorem yO {α:Type} {a b:List α} {i:Int} {x y:α} (ht:a.take i.toNat=b.take i.toNat) (h0:0≤i) (hx:a[i.toNat]?=some x) (hy:b[i.toNat]?=some y) (e:x=y):a.take (i+1).toNat=b.take (i+1).toNat:=by
  rw[toNat_succ h0,fP hx,fP hy,ht,e]
def wh (l:List aj):aj:=(l.map fun x=>47::x).flatten
theorem yP:∀l:List aj,l≠[]→wh l=joined l
  |[],h=>absurd rfl h
  |[x],_=>by simp[wh,joined,eZ]
  |x::y::l,_=>by
   have ih:=yP (y::l) (by simp)
   simp only[wh,eS,cm] at ih ⊢
   rw[ih];simp[joined,eZ]
def yQ (p t:aj):Bool:=(eH p&&eH t)&&(bX t).isPrefixOf (bX p)
def low:Nat→Nat→aj
  |0,_=>[]
  |k+1,n=>UInt8.ofNat (48+n / 10 ^ k % 10)::low k n
theorem Nt {n:Int} (h0:0≤n) (h1:n≤99999):low 5 n.toNat=wZ n:=by
  unfold wZ
  have hi:Lib.itoa n=Lib.decDigits n.toNat:=by rw[Lib.itoa,aL (by omega)]
  rw[hi]
  have hu:n.toNat≤99999:=by omega
  generalize n.toNat=u at hu
  have z:(UInt8.ofNat (48+0))=48:=rfl
  have one:∀v,v<10→Lib.decDigits v=[UInt8.ofNat (48+v)]:=fun v h=>by rw[Lib.decDigits,dif_pos h]
  have more:∀v,¬v<10→Lib.decDigits v=Lib.decDigits (v / 10)++[UInt8.ofNat (48+v % 10)]:=fun v h=>by rw[Lib.decDigits,dif_neg h]
  have d2:u / 10 / 10=u / 100:=by omega
  have d3:u / 100 / 10=u / 1000:=by omega
  have d4:u / 1000 / 10=u / 10000:=by omega
  simp only[low,Nat.pow_zero,Nat.div_one,show(10:Nat) ^ 4=10000 from rfl,show(10:Nat) ^ 3=1000 from rfl,show(10:Nat) ^ 2=100 from rfl,show(10:Nat) ^ 1=10 from rfl]
  by_cases a1:u<10
  · rw[one u a1]
    simp[Lib.repeatL,show u / 10000=0 by omega,show u / 1000=0 by omega,show u / 100=0 by omega,show u / 10=0 by omega,show u % 10=u by omega]
  by_cases a2:u<100
  · rw[more u a1,one _ (by omega)]
    simp[Lib.repeatL,show u / 10000=0 by omega,show u / 1000=0 by omega,show u / 100=0 by omega,show u / 10 % 10=u / 10 by omega]
  by_cases a3:u<1000
  · rw[more u a1,more (u / 10) (by omega),one _ (by omega)]
    simp[Lib.repeatL,show u / 10000=0 by omega,show u / 1000=0 by omega,d2,show u / 100 % 10=u / 100 by omega]
  by_cases a4:u<10000
  · rw[more u a1,more (u / 10) (by omega),more (u / 10 / 10) (by omega),one _ (by omega)]
    simp[Lib.repeatL,show u / 10000=0 by omega,d2,d3,show u / 1000 % 10=u / 1000 by omega]
  · rw[more u a1,more (u / 10) (by omega),more (u / 10 / 10) (by omega),more (u / 10 / 10 / 10) (by omega),one _ (by omega)]
    simp[Lib.repeatL,d2,d3,d4,show u / 10000 % 10=u / 10000 by omega]
theorem Gw {p:aj} (h:bX p=[]):¬(cj p=0):=by simp[cj,h]
theorem Nu {s:aj} (h:gp s=true):s.length≤16∧1≤s.length:=by
  simp only[gp,bZ,cN] at h
  refine⟨h.2.1,?_⟩
  cases s with
  |nil=>exact absurd rfl h.1
  |cons=>simp
theorem uS (p:aj):∀x∈bX p,gp x=true:=by
  intro x hx
  unfold bX at hx
  split at hx
  · rename_i h
    split at hx
    · simp at hx
    · rename_i hne
      simp only[eH,bZ,ji,gx,cN] at h
      rcases h.2.2 with e|e
      · exact absurd e hne
      · exact e x hx
  · simp at hx
theorem w5 {s:aj} (h:gp s=true):47 ∉ s:=by
  simp only[gp,bZ,gx] at h
  intro hm
  have:=h.2.2 47 hm
  simp[wX] at this
theorem Nv {a b:List aj} (ha:a≠[]) (hb:b≠[]):joined (a++b)=joined a++joined b:=by
  rw[←yP _ ha,←yP _ hb,←yP _ (by simp[ha])]
  simp[wh]
theorem Nw {a b:List aj} (ha:∀x∈a,gp x=true) (hb:∀x∈b,gp x=true) (h:joined a=joined b):a=b:=by
  have h2:eZ 47 a=eZ 47 b:=by simpa[joined] using h
  have key:∀l:List aj,(∀x∈l,gp x=true)→l≠[]→splitOn 47 (eZ 47 l)=l:=fun l hl hne=>yx 47 l hne fun x hx=>w5 (hl x hx)
  have u:∀l:List aj,(∀x∈l,gp x=true)→l≠[]→eZ 47 l≠[]:=by
    intro l hl hne e
    cases l with
    |nil=>exact hne rfl
    |cons x xs=>
     have h1:=B4 47 x xs
     rw[e] at h1
     have:=(Nu (hl x (by simp))).2
     simp at h1
     omega
  by_cases e1:a=[]
  · by_cases e2:b=[]
    · rw[e1,e2]
    · subst e1;exact absurd h2.symm (u b hb e2)
  · by_cases e2:b=[]
    · subst e2;exact absurd h2 (u a ha e1)
    · rw[←key a ha e1,←key b hb e2,h2]
theorem B6 {p:aj} (h:eH p=true):p=[47]↔bX p=[]:=by
  constructor
  · intro e;subst e;decide
  · intro e;have:=rI h;rw[e] at this;exact this.symm
theorem Gx (p t:aj):rH p t=yQ p t:=by
  unfold rH yQ
  by_cases h:(eH p&&eH t)=true
  · rw[h,lK,lK]
    simp only[bZ] at h
    obtain⟨hp,ht⟩:=h
    have u:=rI hp
    have et:=rI ht
    rw[iN,rz]
    simp only[ji,jZ,rz]
    by_cases h1:t=[47]
    · simp only[h1,nt,nv,true_iff]
      rw[(B6 (p:=[47]) (by decide)).1 rfl]
      exact List.nil_prefix
    have D:bX t≠[]:=fun e=>h1 ((B6 ht).2 e)
    constructor
    · rintro(e|e|⟨c,e⟩)
      · subst e;exact rB _
      · exact absurd e h1
      ·
        have hs:splitOn 47 (p.drop 1)=bX t++splitOn 47 c:=by
          have hd:p.drop 1=eZ 47 (bX t)++47::c:=by
            rw[←e]
            conv=>lhs;rw[show t=47::eZ 47 (bX t) from et.symm]
            simp
          rw[hd]
          have gen:∀l:List aj,l≠[]→(∀x∈l,47 ∉ x)→splitOn 47 (eZ 47 l++47::c)=l++splitOn 47 c:=by
            intro l
            induction l with
            |nil=>intro h;exact absurd rfl h
            |cons x xs ih=>
             intro _ hx
             cases xs with
             |nil=>rw[eZ,yw 47 x c (hx x (by simp))];rfl
             |cons y ys=>
              rw[eZ,cJ,dL,yw 47 x _ (hx x (by simp)),ih (by simp) (fun z hz=>hx z (by simp[hz]))];rfl
          exact gen _ D fun x hx=>w5 (uS t x hx)
        have G:¬(p=[47]):=by
          intro e2
          rw[e2] at e
          have hlen:=congrArg List.length e
          simp only[b_,bJ,cF] at hlen
          have I:t=[]:=kU (by omega)
          rw[I] at ht
          exact absurd ht (by decide)
        have hpl:bX p=splitOn 47 (p.drop 1):=by simp[bX,hp,G]
        rw[hpl,hs]
        exact BL _ _
    · rintro⟨c,e⟩
      by_cases hc:c=[]
      · left
        rw[hc,dm] at e
        rw[←u,←et,e]
      · right;right
        rw[←u,←e,Nv D hc,et,joined]
        exact⟨eZ 47 c,by simp⟩
  · rw[wQ] at h;rw[h];rfl
theorem Nx {p:aj} (h:cR p=0):p.length≤64:=by
  rw[j4] at h
  simp only[eH,bZ,cN] at h
  exact h.2.1
theorem Ny (c d:UInt8) (a b:aj):Go.Op.bytesLess (c::a) (d::b)=(decide (c<d)||(c==d&&Go.Op.bytesLess a b)):=by simp[Go.Op.bytesLess]
theorem Nz (c:aj) (a b:aj):Go.Op.bytesLess (c++a) (c++b)=Go.Op.bytesLess a b:=by
  induction c with
  |nil=>rfl
  |cons x c ih=>
   rw[dL,dL,Ny,ih]
   have:¬(x<x):=by rw[UInt8.lt_iff_toNat_lt];omega
   simp[this]
theorem Gy:∀(k n:Nat),low k n=low k (n % 10 ^ k)
  |0,_=>rfl
  |k+1,n=>by
   have h1:n % 10 ^ (k+1) / 10 ^ k % 10=n / 10 ^ k % 10:=by
     rw[Nat.pow_succ,Nat.mod_mul,Nat.add_mul_div_left _ _ (BM (by decide)),Nat.div_eq_of_lt (uk _ (BM (by decide))),qw,Nat.mod_mod]
   have h2:n % 10 ^ (k+1) % 10 ^ k=n % 10 ^ k:=by rw[Nat.pow_succ,Nat.mod_mul_right_mod]
   rw[low,low,h1,Gy k (n % 10 ^ (k+1)),h2,←Gy k n]
theorem Gz:∀k n,(low k n).length=k
  |0,_=>rfl
  |k+1,n=>by rw[low,bJ,Gz k n]
theorem GA {p:aj} {n:Int} (h:j3 p n=0):0≤n∧n≤99999∧eu p n=p++low 5 n.toNat:=by
  unfold j3 at h
  split at h
  · rename_i hk
    have hk2:=hk
    simp only[lM,bZ,cN] at hk
    refine⟨hk.2.1,hk.2.2,?_⟩
    rw[j4] at h
    simp[eu,hk2,mc,h,Nt hk.2.1 hk.2.2]
  · simp at h
theorem NA {p:aj} {n:Int} (h:j3 p n=0):((eu p n).length:Int)=(p.length:Int)+5:=by
  obtain⟨a1,a2,a3⟩:=GA h
  rw[a3,b_,Gz];omega
theorem NB {p t:aj} (h:rH p t=true):cR p=0∧cR t=0∧bX t <+: bX p:=by
  rw[Gx,yQ] at h
  simp only[bZ,rz] at h
  exact⟨j4.2 h.1.1,j4.2 h.1.2,h.2⟩
theorem GB {p t:aj} (h1:cR p=0) (h2:cR t=0) (h:bX t <+: bX p):rH p t=true:=by
  rw[Gx,yQ,j4.1 h1,j4.1 h2,lK,lK]
  exact rz.2 h
theorem NC {p:aj} (h:cR p=0):rH p p=true:=GB h h (rB _)
theorem ND {l:List aj} (h:∀x∈l,gp x=true) (hl:(joined l).length≤64):eH (joined l)=true:=by
  simp only[eH,bZ,ji,cN,gx]
  refine⟨rfl,hl,?_⟩
  by_cases e:l=[]
  · left;rw[e];rfl
  · right
    have:(joined l).drop 1=eZ 47 l:=rfl
    rw[this,yx 47 l e fun x hx=>w5 (h x hx)]
    exact h
theorem NF {l:List aj} (h:∀x∈l,gp x=true) (hk:eH (joined l)=true):bX (joined l)=l:=
  Nw (uS _) h (rI hk)
theorem GC {l:List aj} (h:l≠[]):l.dropLast++[mR l]=l:=by
  have:=List.dropLast_concat_getLast h
  rw[mR,List.getLast?_eq_some_getLast h]
  exact this
theorem NG {p:aj} (h:cR p=0) (hne:¬(p=[47])):cj p=0∧cR (parentOf p)=0∧bX (parentOf p)=(bX p).dropLast∧Gh (parentOf p) [nameOf p]=0∧Gg (parentOf p) [nameOf p]=p∧rH p (parentOf p)=true∧rH (parentOf p) p=false:=by
  have hk:=j4.1 h
  have hl:bX p≠[]:=fun e=>hne ((B6 hk).2 e)
  have hpar:parentOf p=joined (bX p).dropLast:=by simp[parentOf,hl]
  have u:∀x∈(bX p).dropLast,gp x=true:=fun x hx=>uS p x (FZ _ hx)
  have hlen:(joined (bX p).dropLast).length≤64:=by
    have h1:=B5 47 (bX p)
    have h2:=congrArg List.length (rI hk)
    have h3:=Nx h
    simp only[joined,bJ] at h2 ⊢
    omega
  have hok:=ND u hlen
  have hpl:=NF u hok
  have D:=GC hl
  have G:mR (bX p)∈(bX p).dropLast++[mR (bX p)]:=by simp
  rw[D] at G
  have hname:gp (nameOf p)=true:=uS p _ G
  have e1:cR (parentOf p)=0:=by rw[hpar];exact j4.2 hok
  have hj:joined (bX (parentOf p)++[nameOf p])=p:=by rw[hpar,hpl,nameOf,D];exact rI hk
  have hall:[nameOf p].all gp=true:=by simp[hname]
  refine⟨by simp[cj,hl],e1,by rw[hpar];exact hpl,?_,?_,GB h e1 (by rw[hpar,hpl];exact List.dropLast_prefix _),?_⟩
  · simp only[Gh,j4.1 e1,hall,hj,h,Bool.and_self,gX]
  · simp only[Gg,j4.1 e1,hall,hj,mc,hk,Bool.and_self,gX]
  · rw[←wQ]
    intro hw
    have:=(NB hw).2.2.length_le
    rw[hpar,hpl,List.length_dropLast] at this
    have:(bX p).length≠0:=fun e=>hl (kU e)
    omega
theorem uT:∀a:aj,Go.Op.bytesLess a a=false
  |[]=>rfl
  |c::a=>by simp[Go.Op.bytesLess,uT a]
theorem w6:∀{a b c:aj},Go.Op.bytesLess a b=true→Go.Op.bytesLess b c=true→Go.Op.bytesLess a c=true
  |_,_,[],_,h=>by simp[Go.Op.bytesLess] at h
  |_,[],_::_,h,_=>by simp[Go.Op.bytesLess] at h
  |[],_::_,_::_,_,_=>rfl
  |x::a,y::b,z::c,h,k=>by
   simp only[Go.Op.bytesLess,ji,cN,bZ,jZ] at *
   rcases h with h|⟨rfl,h⟩
   · rcases k with k|⟨rfl,k⟩
     · exact .inl (UInt8.lt_trans h k)
     · exact .inl h
   · rcases k with k|⟨rfl,k⟩
     · exact .inl k
     · exact .inr ⟨rfl,w6 h k⟩
theorem yR:∀{a b:aj},Go.Op.bytesLess a b=false→Go.Op.bytesLess b a=false→a=b
  |[],[],_,_=>rfl
  |[],_::_,h,_=>by simp[Go.Op.bytesLess] at h
  |_::_,[],_,h=>by simp[Go.Op.bytesLess] at h
  |x::a,y::b,h,k=>by
   simp only[Go.Op.bytesLess,wR,jE,rD,qD] at *
   obtain⟨h1,h2⟩:=h
   obtain⟨k1,k2⟩:=k
   have u:x=y:=UInt8.le_antisymm (UInt8.not_lt.1 k1) (UInt8.not_lt.1 h1)
   subst u
   rw[yR (h2.resolve_left (fun h=>h rfl)) (k2.resolve_left (fun h=>h rfl))]
theorem yS {a b:aj} (h:Go.Op.bytesLess a b=true):Go.Op.bytesLess b a=false:=by
  cases hk:Go.Op.bytesLess b a with
  |false=>rfl
  |true=>have:=w6 h hk;rw[uT] at this;cases this
theorem B7 {a b:aj} (h:Go.Op.bytesLess a b=true):a≠b:=fun e=>by rw[e,uT] at h;cases h
abbrev bp:=List UInt8
def iY (a b:bp):Bool:=Go.Op.bytesLess a b
def bU (ns:List aa) (p:bp):Option aa:=ns.find? fun n=>decide (n.af=p)
def fL (ns:List aa):Prop:=ns.Pairwise fun a b=>iY a.af b.af=true
def qF (l:aa):List aa→List aa
  |[]=>[l]
  |n::ns=>if iY l.af n.af=true then l::n::ns else n::qF l ns
def fG (ns:List aa) (p:bp):List aa:=ns.filter fun n=>!decide (n.af=p)
def ei (ns:List aa) (l:aa):List aa:=qF l (fG ns l.af)
def GD (p:bp) (n:aa):Bool:=decide (cj n.af=0)&&decide (parentOf n.af=p)
def gJ (ns:List aa) (p:bp):List bp:=(ns.filter (GD p)).map (·.af)
def j5 (ns:List aa) (u:List Int):List bp:=((ns.filter fun n=>u.any fun o=>decide (n.aC=o)).map (·.af)).reverse
def B8:aa:=⟨[],[],0,0,0,0⟩
def bV (ns:List aa) (p:bp):aa×Int:=
  if cR p=0 then match bU ns p with
    |none=>(B8,100)
    |some l=>(l,0)
  else (B8,cR p)
def fh (up:aa) (p:bp) (num:Bool):bp:=if num then eu p up.Next else p
def gd (up:aa) (p:bp) (num:Bool):Int:=if num then j3 p up.Next else 0
def n4 (ns:List aa) (up:aa) (q data:bp) (cC born:Int) (num:Bool):List aa:=
  ei (ei ns (if num then {up with Next:=IntKind.wrap .i64 (up.Next+1)} else up)) ⟨q,data,0,max cC (-1),0,max born 0⟩
def cg (ns:List aa) (p data:bp) (cC born:Int) (num:Bool):List aa×bp×Int:=
  if cj p≠0 then (ns,[],cj p)
  else if data.length>128 then (ns,[],104)
  else match bU ns (parentOf p) with
    |none=>(ns,[],100)
    |some up=>if up.aC≠ -1 then (ns,[],105)
     else if gd up p num≠0 then (ns,[],gd up p num)
     else match bU ns (fh up p num) with
       |some _=>(ns,[],101)
       |none=>if ns.length≥32 then (ns,[],104) else (n4 ns up (fh up p num) data cC born num,fh up p num,0)
def fZ (ns:List aa) (p:bp) (bK:Int):List aa×Int:=
  if cj p≠0 then (ns,cj p)
  else match bU ns p with
    |none=>(ns,100)
    |some l=>if bK≥0∧l.ai≠bK then (ns,102) else if gJ ns p≠[] then (ns,103) else (fG ns p,0)
def eU (ns:List aa) (p data:bp) (bK:Int):List aa×Int×Int:=
  if cR p≠0 then (ns,0,cR p)
  else match bU ns p with
    |none=>(ns,0,100)
    |some l=>if bK≥0∧l.ai≠bK then (ns,0,102) else if data.length>128 then (ns,0,104)
     else (ei ns {l with Data:=data,ai:=IntKind.wrap .i64 (l.ai+1)},IntKind.wrap .i64 (l.ai+1),0)
def iD (ns:List aa) (p:bp):List bp×Int:=
  if cR p≠0 then ([],cR p) else match bU ns p with
    |none=>([],100)
    |some _=>(gJ ns p,0)
def j6 (seen:List aa) (l:aa):Bool:=
  decide (-1≤l.aC)&&decide (0≤l.ai)&&decide (0≤l.Next)&&decide (0≤l.aF)&&decide (l.Data.length≤128)&&
    (if seen=[] then decide (l.af=[47])&&decide (l.aC= -1)&&decide (l.aF=0)
     else decide (cj l.af=0)&&(match bU seen (parentOf l.af) with|some x=>decide (x.aC= -1)|none=>false))
def th:List aa→List aa→Bool
  |_,[]=>true
  |seen,l::ls=>j6 seen l&&(match seen.getLast? with|some x=>iY x.af l.af|none=>true)&&th (seen++[l]) ls
def lN (bC:List aa):Bool:=th [] bC&&decide (1≤bC.length)&&decide (bC.length≤32)
theorem fL.nodup {ns:List aa} (h:fL ns):(ns.map (·.af)).Nodup:=by
  rw[List.Nodup,sY]
  exact h.imp fun hl=>B7 hl
theorem jJ {ns:List aa} {p:bp} {l:aa} (h:bU ns p=some l):l∈ns∧l.af=p:=
  ⟨vY h,by simpa using vZ h⟩
theorem oM {ns:List aa} {p:bp}:bU ns p=none↔∀n∈ns,n.af≠p:=by
  unfold bU;simp
theorem rJ {ns:List aa} (hn:(ns.map (·.af)).Nodup) {l:aa} (h:l∈ns):bU ns l.af=some l:=by
  induction ns with
  |nil=>cases h
  |cons n ns ih=>
   rw[eS,pL] at hn
   unfold bU
   rw[wJ]
   rcases eO.1 h with rfl|h
   · simp
   · have:n.af≠l.af:=fun e=>hn.1 (e▸cY.2 ⟨l,h,rfl⟩)
     simp only[this,uE]
     exact ih hn.2 h
theorem yT {ms ns:List aa} (hp:ms.Perm ns) (hn:(ns.map (·.af)).Nodup) (p:bp):bU ms p=bU ns p:=by
  have hm:(ms.map (·.af)).Nodup:=(hp.map _).nodup_iff.2 hn
  cases h:bU ns p with
  |none=>exact oM.2 fun n u=>oM.1 h n (hp.mem_iff.1 u)
  |some l=>
   obtain⟨h1,rfl⟩:=jJ h
   exact rJ hm (hp.mem_iff.2 h1)
theorem B9 (l:aa):∀ns:List aa,(qF l ns).Perm (l::ns)
  |[]=>ga _
  |n::ns=>by
   unfold qF
   split
   · exact ga _
   · exact((B9 l ns).cons n).trans (List.Perm.swap _ _ _)
theorem GF {l:aa}:∀{ns:List aa},fL ns→(∀n∈ns,n.af≠l.af)→fL (qF l ns)
  |[],_,_=>by simp[qF,fL]
  |n::ns,h,hne=>by
   have h':=jF.1 h
   unfold qF
   split
   · rename_i hlt
     refine jF.2 ⟨fun x hx=>?_,h⟩
     rcases eO.1 hx with rfl|hx
     · exact hlt
     · exact w6 hlt (h'.1 x hx)
   · rename_i hlt
     have hlt:iY n.af l.af=true:=by
       cases hk:iY n.af l.af with
       |true=>rfl
       |false=>exact absurd (yR hk (iT.2 hlt)) (hne n (.head _))
     refine jF.2 ⟨fun x hx=>?_,GF h'.2 fun m hm=>hne m (.tail _ hm)⟩
     have:=(B9 l ns).mem_iff.1 hx
     rcases eO.1 this with rfl|hx
     · exact hlt
     · exact h'.1 x hx
theorem B_ {ns:List aa} (h:fL ns) (p:bp):fL (fG ns p):=s7 oL h
theorem NH {ns:List aa} {p:bp}:∀n∈fG ns p,n.af≠p:=fun n hn=>by
  unfold fG at hn
  rw[ic] at hn
  simpa using hn.2
theorem w8 {ns:List aa} (h:fL ns) (l:aa):fL (ei ns l):=GF (B_ h _) NH
theorem pQ (ns:List aa) (l:aa):(ei ns l).Perm (l::fG ns l.af):=B9 l _
theorem w9 {ns:List aa} {p:bp} (h:bU ns p=none):fG ns p=ns:=by
  unfold fG
  rw[pN]
  intro n hn
  simpa using oM.1 h n hn
theorem GG:∀{a b:List aa},fL a→fL b→a.Perm b→a=b
  |[],b,_,_,h=>by rw[List.nil_perm] at h;exact h.symm
  |x::a,[],_,_,h=>by rw[List.perm_nil] at h;cases h
  |x::a,y::b,ha,hb,h=>by
   have u:=jF.1 ha
   have hb':=jF.1 hb
   have hx:x=y:=by
     rcases eO.1 (h.mem_iff.1 (.head _:x∈x::a)) with e|hx
     · exact e
     · rcases eO.1 (h.mem_iff.2 (.head _:y∈y::b)) with e|hy
       · exact e.symm
       · have h1:=hb'.1 x hx
         have h2:=u.1 y hy
         have:=yS h1
         unfold iY at h2
         rw[this] at h2
         cases h2
   subst hx
   rw[GG u.2 hb'.2 (List.perm_cons _ |>.1 h)]
theorem yU {ns:List aa} (h:fL ns) {l:aa} (hl:bU ns l.af=some l):ei ns l=ns:=by
  refine GG (w8 h l) h ((pQ ns l).trans ?_)
  have hm:=(jJ hl).1
  clear hl
  have hn:=h.nodup
  clear h
  induction ns with
  |nil=>cases hm
  |cons n ns ih=>
   rw[eS,pL] at hn
   rcases eO.1 hm with rfl|hm
   · have:fG (l::ns) l.af=ns:=by
       unfold fG
       rw[iW]
       simp only[sZ,nW,fW,dI]
       exact w9 (oM.2 fun x hx e=>hn.1 (e▸cY.2 ⟨x,hx,rfl⟩))
     rw[this]
   · have hne:n.af≠l.af:=fun e=>hn.1 (e▸cY.2 ⟨l,hm,rfl⟩)
     have:fG (n::ns) l.af=n::fG ns l.af:=by
       unfold fG
       rw[iW]
       simp[hne]
     rw[this]
     exact(List.Perm.swap _ _ _).trans ((ih hm hn.2).cons n)
def dR (ns:List aa) (p:bp):Int:=if cR p≠0 then cR p else match bU ns p with
  |none=>100
  |some _=>0
def eV (ns:List aa) (p:bp) (bK:Int):Int:=if dR ns p≠0 then dR ns p else match bU ns p with
  |none=>100
  |some l=>if bK≥0∧l.ai≠bK then 102 else 0
def fQ (ns:List aa) (p data:bp):Int:=if cj p≠0 then cj p else if data.length>128 then 104 else match bU ns (parentOf p) with
  |none=>100
  |some l=>if l.aC≠ -1 then 105 else 0
theorem Ca {ns:List aa} {p:bp} (h:¬cR p=0):dR ns p=cR p:=by unfold dR;rw[aY h]
theorem Cb {ns:List aa} {p:bp} (h:cR p=0) (h2:bU ns p=none):dR ns p=100:=by unfold dR;rw[aL (by simpa using h),h2]
theorem Cc {ns:List aa} {p:bp} {l:aa} (h:cR p=0) (h2:bU ns p=some l):dR ns p=0:=by unfold dR;rw[aL (by simpa using h),h2]
theorem yV {ns:List aa} {p:bp} {bK:Int} (h:dR ns p≠0):eV ns p bK=dR ns p:=by unfold eV;rw[aY h]
theorem yW {ns:List aa} {p:bp} {bK:Int} {l:aa} (h:dR ns p=0) (h2:bU ns p=some l) (h3:bK≥0) (h4:l.ai≠bK):eV ns p bK=102:=by
  unfold eV;rw[aL (by simpa using h),h2];exact aY ⟨h3,h4⟩
theorem yX {ns:List aa} {p:bp} {bK:Int} {l:aa} (h:dR ns p=0) (h2:bU ns p=some l) (h3:¬bK≥0):eV ns p bK=0:=by
  unfold eV;rw[aL (by simpa using h),h2];exact aL fun hh=>h3 hh.1
theorem yY {ns:List aa} {p:bp} {bK:Int} {l:aa} (h:dR ns p=0) (h2:bU ns p=some l) (h3:l.ai=bK):eV ns p bK=0:=by
  unfold eV;rw[aL (by simpa using h),h2];exact aL fun hh=>hh.2 h3
theorem w_ {ns:List aa} {p data:bp} (h:¬cj p=0):fQ ns p data=cj p:=by unfold fQ;rw[aY h]
theorem xb {ns:List aa} {p data:bp} (h:cj p=0) (h2:(data.length:Int)>128):fQ ns p data=104:=by unfold fQ;rw[aL (by simpa using h),aY (by omega)]
theorem xd {ns:List aa} {p data:bp} (h:cj p=0) (h2:¬(data.length:Int)>128) (h3:bU ns (parentOf p)=none):fQ ns p data=100:=by unfold fQ;rw[aL (by simpa using h),aL (by omega),h3]
theorem xe {ns:List aa} {p data:bp} {l:aa} (h:cj p=0) (h2:¬(data.length:Int)>128) (h3:bU ns (parentOf p)=some l) (h4:¬l.aC= -1):fQ ns p data=105:=by
  unfold fQ;rw[aL (by simpa using h),aL (by omega),h3];exact aY h4
theorem xg {ns:List aa} {p data:bp} {l:aa} (h:cj p=0) (h2:¬(data.length:Int)>128) (h3:bU ns (parentOf p)=some l) (h4:l.aC= -1):fQ ns p data=0:=by
  unfold fQ;rw[aL (by simpa using h),aL (by omega),h3];exact aL (by simpa using h4)
theorem Ce {ns:List aa} {p:bp} (h:dR ns p≠0):bV ns p=(B8,dR ns p):=by
  unfold dR at *;unfold bV
  by_cases hp:cR p=0
  · rw[aY hp]
    rw[aL (by simpa using hp)] at h ⊢
    cases hf:bU ns p with
    |none=>rfl
    |some l=>rw[hf] at h;exact absurd rfl h
  · rw[aL hp,aY hp]
theorem Cf {ns:List aa} {p:bp} {l:aa} (h:dR ns p=0) (h2:bU ns p=some l):bV ns p=(l,0):=by
  unfold dR at *;unfold bV
  by_cases hp:cR p=0
  · rw[aY hp,h2]
  · rw[aY hp] at h;exact absurd h hp
theorem GI {ns:List aa} {p:bp} (h:dR ns p≠0):iD ns p=([],dR ns p):=by
  unfold dR at *;unfold iD
  by_cases hp:cR p=0
  · rw[aL (by simpa using hp)] at h ⊢
    rw[aL (by simpa using hp)]
    cases hf:bU ns p with
    |none=>rfl
    |some l=>rw[hf] at h;exact absurd rfl h
  · rw[aY hp,aY hp]
theorem GJ {ns:List aa} {p:bp} {l:aa} (h:dR ns p=0) (h2:bU ns p=some l):iD ns p=(gJ ns p,0):=by
  unfold dR at *;unfold iD
  by_cases hp:cR p=0
  · rw[aL (by simpa using hp),h2]
  · rw[aY hp] at h;exact absurd h hp
theorem GK {ns:List aa} (hs:fL ns) {i:Nat} {p:bp} (h:(ns.map (·.af))[i]?=some p):∃l,ns[i]?=some l∧bU ns p=some l:=by
  rw[jC] at h
  cases hl:ns[i]? with
  |none=>rw[hl] at h;cases h
  |some l=>
   rw[hl] at h
   simp only[lI,ey] at h
   subst h
   exact⟨l,rfl,rJ hs.nodup (bY hl)⟩
theorem NI {ns out:List aa} (hs:fL ns) {i:Int} {p:bp} {l:aa} (h0:0≤i) (hx:(ns.map (·.af))[i.toNat]?=some p) (hf:bU ns p=some l) (ho:out=ns.take i.toNat):out++[l]=ns.take (i+1).toNat:=by
  obtain⟨u,h1,h2⟩:=GK hs hx
  rw[hf] at h2
  cases h2
  rw[toNat_succ h0,fP h1,ho]
theorem NJ {ns:List aa} (hs:fL ns) {i:Nat} {p:bp} (hx:(ns.map (·.af))[i]?=some p) (hf:bU ns p=none):False:=by
  obtain⟨u,h1,h2⟩:=GK hs hx
  rw[hf] at h2
  cases h2
def fB (ns:List aa):Prop:=ns.length≤1000∧∀n∈ns,n.af.length≤64∧n.Data.length≤128∧ -9223372036854775808≤n.Next∧n.Next≤9223372036854775807
theorem fB.data {ns:List aa} (h:fB ns) {p:bp} {l:aa} (hf:bU ns p=some l):l.Data.length≤128:=(h.2 l (jJ hf).1).2.1
theorem fB.next {ns:List aa} (h:fB ns) {p:bp} {l:aa} (hf:bU ns p=some l): -9223372036854775808≤l.Next∧l.Next≤9223372036854775807:=(h.2 l (jJ hf).1).2.2
theorem NK (ns:List aa) (p:bp):(gJ ns p).length≤ns.length:=by
  unfold gJ;rw[ew];exact kX _ _
theorem GL {ns:List aa} (hs:fL ns) {u:List Int} {xs:List bp} {p:bp} {l:aa} {out:List bp} (hp:xs++[p] <+: (ns.map (·.af)).reverse) (hf:bU ns p=some l)
    (ho:out=xs.filter fun q=>match bU ns q with|some n=>u.any (fun o=>decide (n.aC=o))|none=>false):
    (if u.any (fun o=>decide (l.aC=o))=true then out++[p] else out)=(xs++[p]).filter fun q=>match bU ns q with|some n=>u.any (fun o=>decide (n.aC=o))|none=>false:=by
  rw[nX,ho]
  simp only[iW,hf,List.filter_nil]
  split<;>simp
theorem NL {ns:List aa} (hs:fL ns) {u:List Int}:
    ((ns.map (·.af)).reverse.filter fun q=>match bU ns q with|some n=>u.any (fun o=>decide (n.aC=o))|none=>false)=j5 ns u:=by
  unfold j5
  rw[List.filter_reverse,s9]
  congr 2
  apply wS
  intro n hn
  simp only[Function.comp,rJ hs.nodup hn]
theorem NM {ns:List aa} (hs:fL ns) {xs:List bp} {p:bp} (hp:xs++[p] <+: (ns.map (·.af)).reverse) (hf:bU ns p=none):False:=by
  have h1:p∈(ns.map (·.af)).reverse:=hp.subset (by simp)
  rw[List.mem_reverse] at h1
  obtain⟨n,hn,rfl⟩:=cY.1 h1
  rw[rJ hs.nodup hn] at hf
  cases hf
theorem xh {x:List aa} {l:aa} (h:l.aC< -1∨l.ai<0∨l.Next<0∨l.aF<0∨(l.Data.length:Int)>128):j6 x l=false:=by
  unfold j6
  rw[rD]
  refine .inl ?_
  simp only[rD,jE]
  omega
theorem GM {x:List aa} {l:aa} (h1:¬l.aC< -1) (h2:¬l.ai<0) (h3:¬l.Next<0) (h4:¬l.aF<0) (h5:¬(l.Data.length:Int)>128):
    j6 x l=(if x=[] then decide (l.af=[47])&&decide (l.aC= -1)&&decide (l.aF=0) else decide (cj l.af=0)&&(match bU x (parentOf l.af) with|some x=>decide (x.aC= -1)|none=>false)):=by
  unfold j6
  have:(decide (-1≤l.aC)&&decide (0≤l.ai)&&decide (0≤l.Next)&&decide (0≤l.aF)&&decide (l.Data.length≤128))=true:=by
    simp only[bZ,cN];omega
  rw[this,lK]
theorem Cg {x:List aa} {l:aa} (h1:¬l.aC< -1) (h2:¬l.ai<0) (h3:¬l.Next<0) (h4:¬l.aF<0) (h5:¬(l.Data.length:Int)>128) (h:(x.length:Int)=0):
    j6 x l=(decide (l.af=[47])&&decide (l.aC= -1)&&decide (l.aF=0)):=by
  rw[GM h1 h2 h3 h4 h5,aY (kU (by omega))]
theorem yZ {x:List aa} {l:aa} (h1:¬l.aC< -1) (h2:¬l.ai<0) (h3:¬l.Next<0) (h4:¬l.aF<0) (h5:¬(l.Data.length:Int)>128) (h:¬(x.length:Int)=0):
    j6 x l=(decide (cj l.af=0)&&(match bU x (parentOf l.af) with|some x=>decide (x.aC= -1)|none=>false)):=by
  rw[GM h1 h2 h3 h4 h5,aL (fun e=>h (by rw[e];rfl))]
theorem Ch {ns:List aa} {p data:bp} {bK:Int} (h:eV ns p bK≠0):eU ns p data bK=(ns,0,eV ns p bK):=by
  unfold eV dR at *;unfold eU
  by_cases hp:cR p=0
  · simp only[hp,ne_eq,mQ,dI] at *
    cases hf:bU ns p with
    |none=>simp[hf]
    |some l=>simp only[hf] at *;split at h<;>simp_all
  · simp[hp]
theorem Ci {ns:List aa} {p:bp} {bK:Int} {l:aa} (h:eV ns p bK=0) (hf:bU ns p=some l):cR p=0∧¬(bK≥0∧l.ai≠bK):=by
  unfold eV dR at h
  by_cases hp:cR p=0
  · simp only[hp,hf,ne_eq,mQ,dI] at h
    refine⟨hp,fun hh=>?_⟩
    rw[aY hh] at h
    cases h
  · simp[hp] at h
theorem Cj {ns:List aa} {p data:bp} {bK:Int} {l:aa} (h:eV ns p bK=0) (hf:bU ns p=some l) (hd:(data.length:Int)>128):eU ns p data bK=(ns,0,104):=by
  obtain⟨h1,h2⟩:=Ci h hf
  unfold eU
  rw[aL (by simpa using h1),hf]
  simp only[]
  rw[aL h2,aY (by omega)]
theorem Ck {ns:List aa} {p data:bp} {bK:Int} {l:aa} (h:eV ns p bK=0) (hf:bU ns p=some l) (hd:¬(data.length:Int)>128):
    eU ns p data bK=(ei ns {l with Data:=data,ai:=IntKind.wrap .i64 (l.ai+1)},IntKind.wrap .i64 (l.ai+1),0):=by
  obtain⟨h1,h2⟩:=Ci h hf
  unfold eU
  rw[aL (by simpa using h1),hf]
  simp only[]
  rw[aL h2,aL (by omega)]
section
variable {ns:List aa} {p data q:bp} {cC born:Int} {num:Bool} {up:aa}
theorem Cl (h:fQ ns p data≠0):cg ns p data cC born num=(ns,[],fQ ns p data):=by
  unfold fQ at *;unfold cg
  by_cases h1:cj p=0
  · simp only[h1,ne_eq,mQ,dI] at *
    by_cases h2:data.length>128
    · simp only[h2,gX]
    · simp only[h2,dI] at *
      cases hf:bU ns (parentOf p) with
      |none=>simp
      |some l=>
       simp only[hf] at *
       by_cases h3:l.aC= -1
       · simp[h3] at h
       · simp[h3]
  · simp[h1]
theorem GN (h:fQ ns p data=0) (hf:bU ns (parentOf p)=some up):cj p=0∧¬data.length>128∧up.aC= -1:=by
  unfold fQ at h
  by_cases h1:cj p=0
  · simp only[h1,ne_eq,mQ,dI] at h
    by_cases h2:data.length>128
    · simp[h2] at h
    · simp only[h2,dI,hf] at h
      by_cases h3:up.aC= -1
      · exact⟨h1,h2,h3⟩
      · simp[h3] at h
  · simp[h1] at h
theorem y9 (h:fQ ns p data=0) (hf:bU ns (parentOf p)=some up):cg ns p data cC born num=if gd up p num≠0 then (ns,[],gd up p num) else match bU ns (fh up p num) with
    |some _=>(ns,[],101)
    |none=>if ns.length≥32 then (ns,[],104) else (n4 ns up (fh up p num) data cC born num,fh up p num,0):=by
  obtain⟨h1,h2,h3⟩:=GN h hf
  unfold cg
  simp only[h1,h2,h3,hf,ne_eq,mQ,dI]
theorem Cm (h:fQ ns p data=0) (hf:bU ns (parentOf p)=some up) (hn:num=true) (he:¬j3 p up.Next=0):cg ns p data cC born num=(ns,[],j3 p up.Next):=by
  rw[y9 h hf];simp[gd,hn,he]
theorem uU (h:fQ ns p data=0) (hf:bU ns (parentOf p)=some up) (he:gd up p num=0) (hq:fh up p num=q) (hs:(bU ns q).isSome=true):cg ns p data cC born num=(ns,[],101):=by
  rw[y9 h hf,aL (by simpa using he),hq]
  cases hx:bU ns q with
  |none=>rw[hx] at hs;cases hs
  |some _=>rfl
theorem uV (h:fQ ns p data=0) (hf:bU ns (parentOf p)=some up) (he:gd up p num=0) (hq:fh up p num=q) (hs:bU ns q=none) (hl:(ns.length:Int)≥32):cg ns p data cC born num=(ns,[],104):=by
  rw[y9 h hf,aL (by simpa using he),hq,hs]
  simp only[]
  rw[aY (by omega)]
theorem uW (h:fQ ns p data=0) (hf:bU ns (parentOf p)=some up) (he:gd up p num=0) (hq:fh up p num=q) (hs:bU ns q=none) (hl:¬(ns.length:Int)≥32):
    cg ns p data cC born num=(n4 ns up q data cC born num,q,0):=by
  rw[y9 h hf,aL (by simpa using he),hq,hs]
  simp only[]
  rw[aL (by omega)]
end
theorem rK {p:bp} (h:eH p=true):p.length≤64:=by
  rcases nP 64 p.length with hl|hl
  · rw[BZ hl] at h;cases h
  · exact hl
theorem NN (p:bp):(mc p).length≤64:=by
  unfold mc
  split
  · rename_i h;exact rK h
  · exact eX _
theorem Cn (p:bp) (n:Int):(eu p n).length≤64:=by
  unfold eu
  split
  · exact NN _
  · exact eX _
theorem Co {p:bp} (h:cj p=0):p.length≤64:=by
  cases hp:eH p with
  |true=>exact rK hp
  |false=>
   have:bX p=[]:=by unfold bX;rw[hp];rfl
   exact absurd h (Gw this)
theorem NO {ns:List aa} {p q:bp} {up l:aa} (hf:bU ns p=some up) (hq:bU ns q=none) (hl:l.af=up.af):bU (ei ns l) q=none:=by
  rw[oM] at hq ⊢
  intro n hn
  rcases eO.1 ((pQ ns l).mem_iff.1 hn) with rfl|hn
  · rw[hl];exact hq up (jJ hf).1
  · exact hq n (ic.1 hn).1
theorem NP {ns:List aa} {p q data:bp} {cC born:Int} {num:Bool} {up:aa} (hn:num=false) (hs:fL ns) (hf:bU ns p=some up):n4 ns up q data cC born num=ei ns ⟨q,data,0,max cC (-1),0,max born 0⟩:=by
  subst hn
  unfold n4
  simp only[fW,dI]
  rw[yU hs (by rw[(jJ hf).2];exact hf)]
theorem NQ {ns:List aa} {q data:bp} {cC born:Int} {num:Bool} {up:aa} (hn:num=true):n4 ns up q data cC born num=ei (ei ns {up with Next:=IntKind.wrap .i64 (up.Next+1)}) ⟨q,data,0,max cC (-1),0,max born 0⟩:=by
  subst hn;rfl
section
variable {h0:ay} {g0:GH} {S0:Nat→Prop} {g:GH} {L L':List az} {h:ay}
theorem St.pR (hf:L.flatten.Perm L'.flatten) (s:St h0 g0 S0 g L h):St h0 g0 S0 g L' h:=
  ⟨s.size,s.frame,s.le,s.new,s.sub,fun p hm=>s.kR p (hf.mem_iff.2 hm),(hf.map _).nodup_iff.1 s.nodup,fun p hm=>s.sep p (hf.mem_iff.2 hm),fun p hm=>s.own p (hf.mem_iff.2 hm)⟩
end
abbrev pS (l:aa) (v:Value):Array Value:=#[.string (br l.af),v,.int .i64 l.ai,.int .i64 l.aC,.int .i64 l.Next,.int .i64 l.aF]
abbrev TL:TypeId:=39
abbrev TT:TypeId:=138
structure n5 where
  b:Nat
  l:aa
  v:Value
  c:az
def jK (ms:List n5):List (bp×Value):=ms.map fun m=>(m.l.af,.pointer (some ⟨m.b,0,none⟩))
def y_ (m:n5):az:=(m.b,.cells (pS m.l m.v) TL (0,0))::m.c
def lP (ms:List n5):az:=(ms.map y_).flatten
def GO (ms:List n5):Prop:=∀m∈ms,aH 5 a_ (fun _=>none) m.v m.l.Data m.c
def rL (es:Array MapEntry) (aZ:Nat) (ms:List n5) (ns:List aa):Prop:=cG encS es aZ (jK ms)∧(ms.map (·.l)).Perm ns∧fL ns∧∀n∈ns,n.af.length≤64
def gq (g:GH) (mb:Nat) (ns:List aa) (c:az):Prop:=∃es aZ ms,c.Perm ((mb,.map es aZ)::lP ms)∧rL es aZ ms ns∧GO ms
theorem gq.bw {g g':GH} {mb:Nat} {ns:List aa} {c:az} (h:gq g mb ns c):gq g' mb ns c:=h
theorem gq.mono {g g':GH} {mb:Nat} {ns:List aa} {c:az} (h:gq g mb ns c) (hg:aM g g'):gq g' mb ns c:=h
def jL (g:GH) (mb:Nat) (ns:List aa):Prop:=∃es aZ ms,g mb=some (.map es aZ)∧rL es aZ ms ns∧∀m∈ms,g m.b=some (.cells (pS m.l m.v) TL (0,0))∧an g 5 a_ m.v m.l.Data
theorem jL.mono {g g':GH} {mb:Nat} {ns:List aa} (h:jL g mb ns) (hg:aM g g'):jL g' mb ns:=by
  obtain⟨es,aZ,ms,h1,h2,h3⟩:=h
  exact⟨es,aZ,ms,hg _ _ h1,h2,fun m hm=>⟨hg _ _ (h3 m hm).1,(h3 m hm).2.mono hg⟩⟩
def iZ (g:GH) (b:Nat) (ns:List aa):Prop:=∃mb,g b=some (.cells #[.map (some mb)] TT (0,0))∧jL g mb ns
theorem iZ.mono {g g':GH} {b:Nat} {ns:List aa} (h:iZ g b ns) (hg:aM g g'):iZ g' b ns:=by
  obtain⟨mb,h1,h2⟩:=h
  exact⟨mb,hg _ _ h1,h2.mono hg⟩
def xj (g:GH) (mb:Nat) (l:aa) (b:Nat):Prop:=∃es aZ,g mb=some (.map es aZ)∧∃e∈es.toList,e.key=encS l.af∧e.val=.pointer (some ⟨b,0,none⟩)
section
variable {g:GH} {mb:Nat} {ns:List aa} {es:Array MapEntry} {aZ:Nat} {ms:List n5}
theorem GP (hn:(ms.map (·.l.af)).Nodup) (p:bp):(bU (ms.map (·.l)) p=none∧fq (jK ms) p=none)∨∃m∈ms,bU (ms.map (·.l)) p=some m.l∧fq (jK ms) p=some (.pointer (some ⟨m.b,0,none⟩)):=by
  cases h:bU (ms.map (·.l)) p with
  |none=>
   refine .inl ⟨rfl,BO fun q hq=>?_⟩
   obtain⟨m,hm,rfl⟩:=cY.1 hq
   exact oM.1 h m.l (cY.2 ⟨m,hm,rfl⟩)
  |some l=>
   obtain⟨h1,rfl⟩:=jJ h
   obtain⟨m,hm,rfl⟩:=cY.1 h1
   refine .inr ⟨m,hm,rfl,?_⟩
   obtain⟨j,hj⟩:=pO.1 hm
   have hk:(jK ms)[j]?=some (m.l.af,.pointer (some ⟨m.b,0,none⟩)):=by simp[jK,hj]
   have u:((jK ms).map (·.1)).Nodup:=by simpa[jK,jA,Function.comp_def] using hn
   exact BP u hk
theorem rL.nodup (h:rL es aZ ms ns):(ms.map (·.l.af)).Nodup:=by
  have:=(h.2.1.map (·.af)).nodup_iff.2 h.2.2.1.nodup
  simpa[jA,Function.comp_def] using this
theorem rL.gS (h:rL es aZ ms ns) (p:bp):(bU ns p=none∧fq (jK ms) p=none)∨∃m∈ms,bU ns p=some m.l∧fq (jK ms) p=some (.pointer (some ⟨m.b,0,none⟩)):=by
  rw[←yT h.2.1 h.2.2.1.nodup p]
  exact GP h.nodup p
theorem rL.len (h:rL es aZ ms ns):(jK ms).length=ns.length:=by
  have:=h.2.1.length_eq
  simpa[jK] using this
theorem jL.kD (h:jL g mb ns):∃es aZ ks,g mb=some (.map es aZ)∧cG encS es aZ ks∧ks.length=ns.length∧(ks.map (·.1)).Perm (ns.map (·.af))∧(∀p∈ks,p.1.length≤64)∧
    ∀p,(bU ns p=none∧fq ks p=none)∨∃b l v,bU ns p=some l∧fq ks p=some (.pointer (some ⟨b,0,none⟩))∧g b=some (.cells (pS l v) TL (0,0))∧an g 5 a_ v l.Data∧xj g mb l b:=by
  obtain⟨es,aZ,ms,h1,h2,h3⟩:=h
  refine⟨es,aZ,jK ms,h1,h2.1,h2.len,?_,?_,fun p=>?_⟩
  · have:=h2.2.1.map (·.af)
    simpa[jK,jA,Function.comp_def] using this
  · intro q hq
    obtain⟨m,hm,rfl⟩:=cY.1 hq
    exact h2.2.2.2 m.l (h2.2.1.mem_iff.1 (cY.2 ⟨m,hm,rfl⟩))
  · rcases h2.gS p with h|⟨m,hm,h4,h5⟩
    · exact .inl h
    · refine .inr ⟨m.b,m.l,m.v,h4,h5,(h3 m hm).1,(h3 m hm).2,es,aZ,h1,?_⟩
      have:(encS m.l.af,(.pointer (some ⟨m.b,0,none⟩):Value))∈es.toList.map (fun e=>(e.key,e.val)):=by
        rw[h2.1.1]
        exact cY.2 ⟨(m.l.af,.pointer (some ⟨m.b,0,none⟩)),cY.2 ⟨m,hm,rfl⟩,rfl⟩
      obtain⟨e,he,u⟩:=cY.1 this
      simp only[gY] at u
      exact⟨e,he,u.1,u.2⟩
end
section
variable {h0:ay} {g0:GH} {S0:Nat→Prop} {g:GH} {L:List az} {h:ay} {C c:az} {mb:Nat} {ns:List aa}
theorem GQ {ms:List n5} {m:n5} (hm:m∈ms) {p:Nat×Obj} (hp:p∈y_ m):p∈lP ms:=ur.2 ⟨_,cY.2 ⟨m,hm,rfl⟩,hp⟩
theorem gq.fK (H:gq g mb ns c) (s:St h0 g0 S0 g (C::L) h) (hc:∀p∈c,p∈C):jL (cS g C) mb ns:=by
  obtain⟨es,aZ,ms,hp,hok,hr⟩:=H
  have u:∀p∈(mb,.map es aZ)::lP ms,p∈C:=fun p D=>hc p (hp.mem_iff.2 D)
  refine⟨es,aZ,ms,nV s.oJ (u _ (.head _)),hok,fun m hm=>⟨nV s.oJ (u _ (.tail _ (GQ hm (.head _)))),?_⟩⟩
  have hrow:aH 5 a_ g m.v m.l.Data m.c:=(hr m hm).bw (fun _ _ _ _ h=>h)
  exact hrow.Bx s fun p D=>u p (.tail _ (GQ hm (.tail _ D)))
end
open Go Go.Sort Go.Proofs
def iE (u:List aj):List aj:=u.mergeSort fun x y=>decide (x≤y)
theorem za (u:List aj):(iE u).length=u.length:=by simp[iE]
theorem GR:∀{a b:aj},Go.Op.bytesLess a b=true↔a<b
  |[],[]=>by simp[Go.Op.bytesLess]
  |[],_::_=>by simp[Go.Op.bytesLess]
  |_::_,[]=>by simp[Go.Op.bytesLess]
  |x::a,y::b=>by
   simp only[Go.Op.bytesLess,ji,cN,bZ,jZ,List.cons_lt_cons_iff,GR (a:=a) (b:=b)]
theorem GS {l u:List aj} (h:l.Perm u):iE l=iE u:=by
  have tr:∀a b c:aj,decide (a≤b)=true→decide (b≤c)=true→decide (a≤c)=true:=fun a b c h1 h2=>by simp only[cN] at *;exact List.le_trans h1 h2
  have tot:∀a b:aj,(decide (a≤b)||decide (b≤a))=true:=fun a b=>by simp only[ji,cN];exact List.le_total a b
  refine yE (le:=fun a b=>decide (a≤b)=true) (fun a b _ _ h1 h2=>?_) (uF tr tot l) (uF tr tot u) (((uG l _).trans h).trans (uG u _).symm)
  simp only[cN] at h1 h2
  exact List.le_antisymm h1 h2
theorem GU {l:List aj} (h:l.Pairwise fun a b=>Go.Op.bytesLess a b=true):iE l=l:=by
  have tr:∀a b c:aj,decide (a≤b)=true→decide (b≤c)=true→decide (a≤c)=true:=fun a b c h1 h2=>by simp only[cN] at *;exact List.le_trans h1 h2
  have tot:∀a b:aj,(decide (a≤b)||decide (b≤a))=true:=fun a b=>by simp only[ji,cN];exact List.le_total a b
  refine yE (le:=fun a b=>decide (a≤b)=true) (fun a b _ _ h1 h2=>?_) (uF tr tot l) (h.imp fun hl=>?_) (uG l _)
  · simp only[cN] at h1 h2
    exact List.le_antisymm h1 h2
  · simp only[cN]
    exact List.le_of_lt (GR.1 hl)
theorem GV {g:GH}:∀{xs:List aj} {cs:List Value},Reads cV g xs cs→cs=xs.map encStr
  |[],cs,h=>by simpa[Reads] using h
  |x::xs,cs,⟨c,cs',e,hk,hr⟩=>by
   have hk:c=[.string (br x)]:=hk
   have:=GV hr
   subst hk this
   rw[e]
   rfl
theorem St.grow {h0:ay} {g0:GH} {S0:Nat→Prop} {g:GH} {L:List az} {h:ay} (s:St h0 g0 S0 g L h) (os:Array Obj):St h0 g0 S0 g L (h++os):=by
  have old:∀b,b<h.size→(h++os)[b]?=h[b]?:=fun b hb=>by rw[A6,aY hb]
  exact⟨by have:=s.size;simp;omega,fun b hb hs=>(old b (nR hb s.size)).trans (s.frame b hb hs),s.le,s.new,
    fun b x hb=>(old b (s.sub.lt hb)).trans (s.sub b x hb),fun p hp=>(old _ (s.lt hp)).trans (s.kR p hp),s.nodup,s.sep,s.own⟩
theorem NR (cur:Array Value) (o:Nat) (ts:List aj) (h:o+ts.length≤cur.size):putCells encStr o ts.toArray cur=splice cur o (ts.map encStr):=by
  apply BN
  intro k
  have hc:cur.toList.length=cur.size:=q6
  unfold putCells splice
  rw[F0]
  simp only[ew,qx]
  rw[wT,b_,dZ,ew,wT,dZ,hc,jB (by omega)]
  by_cases h1:k<o
  · rw[aY (by omega),aY h1,yF h1,q4]
    cases cur[k]? with
    |none=>rfl
    |some x=>simp;omega
  · by_cases h2:k<o+ts.length
    · rw[aY (by omega),aL h1,jC]
      have hk:k<cur.size:=by omega
      have hj:k-o<ts.length:=by omega
      rw[yD hk,rq hj]
      simp only[lI]
      rw[aY ⟨by omega,by simpa using h2⟩]
      simp[hj]
    · rw[aL (by omega),rE,q4,show o+ts.length+(k-(o+ts.length))=k from by omega]
      cases cur[k]? with
      |none=>rfl
      |some x=>simp;omega
theorem NS (B:World) (h:ay) (g:GH) (hg:bu g h) (v:Value) (u:List aj) (c:az) (hr:aH 9 cV g v u c) (hl:u.length≤1000000000) (hs:St h g (aS [c]) g [c] h):
    aG prog B 124 #[v] h g [c] fun G g' L'=>G=.tuple #[]∧g'=g∧∃c',aH 9 cV g v (iE u) c'∧L'=[c']:=by
  rcases hr with ⟨ao,rfl,rfl,rfl⟩|⟨b,o,cap,cur,rest,rfl,rfl,h1,h2,h3,h4⟩
  · intro w is
    exact(slices_Sort_string_none ao 0 w).mono fun e w' ⟨he,hw⟩=>⟨.tuple #[],he,hw▸is.again,g,[[]],by rw[hw,is.heap];exact hs,rfl,rfl,[],.inl ⟨ao,rfl,by simp[iE],rfl⟩,rfl⟩
  · intro w is
    have hb:=hs.ag 0 (b:=b) rfl
    have D:w.heap[b]?=some (.cells cur 9 (0,0)):=by rw[is.heap];exact hb
    have hz:cV.sz=1:=rfl
    rw[hz,nU] at h3 h4
    have I:=GV h4
    have hcell:∀j,j<u.length→cur[o+j]?=some (encStr u[j]!):=by
      intro j hj
      have e:(cut cur o cap)[j]?=some (encStr u[j]!):=by
        rw[I,jC,F1 hj]
        simp[hj]
      unfold cut at e
      rw[yF (by omega),rE,q4] at e
      exact e
    have hH:Holds encStr w b o u.toArray:=by
      intro j hj
      have hj:j<u.length:=by simpa using hj
      refine⟨?_,by simp[World.frozen?,D]⟩
      simp only[World.cell?,D]
      simp only[Option.isSome_none,fW,dI]
      rw[hcell j hj]
      simp[hj]
    have hlt:b<w.heap.size:=(lF.1 D).1
    refine(slices_Sort_string b o cap u w hH hlt (by omega)).mono fun e w' ⟨he,n,os,hw⟩=>⟨.tuple #[],he,?_,?_⟩
    · subst hw
      exact⟨rfl,is.os,is.tape,is.output⟩
    · have hu:iC h b (.cells (putCells encStr o (iE u).toArray cur) 9 (0,0)) (h.modify b (onCells (putCells encStr o (iE u).toArray))):=iC.modify (onCells (putCells encStr o (iE u).toArray)) hb
      have s1:=(hs.uw 0 (b:=b) rfl hu).grow os
      have hh:w'.heap=h.modify b (onCells (putCells encStr o (iE u).toArray))++os:=by
        rw[hw,←is.heap]
        rfl
      rw[hh]
      have hts:o+(iE u).length≤cur.size:=by rw[za];omega
      have hput:putAt u 0 (iE u)=iE u:=by
        unfold putAt
        rw[uB,dS,qw,mO (by rw[za];omega),dm]
      have hrow:=aH.yq (T:=9) (d:=cV) (b:=b) (o:=o) (cap:=cap) (xs:=u) h1 h2 (by rw[hz,nU];exact h3) (by rw[hz,nU];exact h4) 0 (ys:=iE u) (news:=(iE u).map encStr) (by rw[za];omega) (Bw g _)
      rw[hput,yG,nq,za,←NR cur o _ hts] at hrow
      exact⟨g,_,s1,rfl,rfl,_,hrow,rfl⟩
theorem uX {k:IntKind} (x y:Int):Value.int k (if y>x then y else x)=Value.int k (max x y):=by
  congr 1
  split<;>omega
theorem NT {k:IntKind} (x y:Int):Value.int k (if y<x then y else x)=Value.int k (min x y):=by
  congr 1
  split<;>omega
def qG (_:GH) (x:bp) (a:Array Value):Prop:=a=#[.string (br x)]
def Cp (_:GH) (x:bp) (a:Array Value):Prop:=∃i:Int,a=#[.int .i64 i,.string (br x)]
def qH {α:Type} (go:List α→Bool) (xs:List α):Prop:=∀ys,ys <+: xs→ys≠xs→go ys=true
theorem uY {α:Type} (go:List α→Bool):qH go []:=fun ys h hn=>absurd (List.prefix_nil.1 h) hn
theorem n6 {α:Type} {go:List α→Bool} {xs:List α} {x:α} (h:qH go xs) (hg:go xs=true):qH go (xs++[x]):=by
  intro ys hy hn
  rcases List.prefix_concat_iff.1 hy with e|hy
  · exact absurd e hn
  · by_cases hx:ys=xs
    · rw[hx];exact hg
    · exact h ys hy hx
theorem rM {α:Type} {vs rs a b ks:List α} {x:α} (h:(vs++rs).Perm ks) (e:rs=a++x::b):((vs++[x])++(a++b)).Perm ks:=by
  refine List.Perm.trans ?_ h
  rw[e,cJ]
  exact FW _ (List.perm_middle.symm:(x::(a++b)).Perm (a++x::b))
theorem xk {α u:Type} {f:α→u} {vs rs ks:List α} {P:List u} (h:(vs++rs).Perm ks) (e:rs=[]) (hp:(ks.map f).Perm P):(vs.map f).Perm P:=by
  subst e
  rw[dm] at h
  exact(h.map f).trans hp
theorem pT {α u:Type} {f:α→u} {vs rs a b ks:List α} {x:α} {P:List u} (h:(vs++rs).Perm ks) (e:rs=a++x::b) (hp:(ks.map f).Perm P):(((vs++[x])++(a++b)).map f).Perm P:=
  ((rM h e).map f).trans hp
def iF (p q:bp):Bool:=decide (cj q=0)&&decide (parentOf q=p)
theorem NU (ns:List aa) (p:bp):(ns.map (·.af)).filter (iF p)=gJ ns p:=by
  unfold gJ
  rw[s9]
  rfl
theorem Cq {xs:List bp} {ns:List aa} {p:bp} (h:xs.Perm (ns.map (·.af))):(xs.filter (iF p)).Perm (gJ ns p):=by
  rw[←NU]
  exact h.filter _
theorem NV {vs rs a b ks:List (bp×Value)} {k:bp} {v:Value} (hs:∀p∈ks,p.1.length≤64) (h:(vs++rs).Perm ks) (e:rs=a++(k,v)::b):k.length≤64:=
  hs (k,v) (h.mem_iff.1 (by rw[e];simp))
theorem zb {vs:List (bp×Value)} {k p:bp} {v:Value} (h1:cj k=0) (h2:parentOf k=p):((vs++[(k,v)]).map (·.1)).filter (iF p)=(vs.map (·.1)).filter (iF p)++[k]:=by
  rw[gA,nX]
  simp[iF,h1,h2]
theorem Cr {vs:List (bp×Value)} {k p:bp} {v:Value} (h1:¬cj k=0):((vs++[(k,v)]).map (·.1)).filter (iF p)=(vs.map (·.1)).filter (iF p):=by
  rw[gA,nX]
  simp[iF,h1]
theorem Cs {vs:List (bp×Value)} {k p:bp} {v:Value} (h2:¬parentOf k=p):((vs++[(k,v)]).map (·.1)).filter (iF p)=(vs.map (·.1)).filter (iF p):=by
  rw[gA,nX]
  simp[iF,h2]
theorem GW {vs r:List (bp×Value)} {k p:bp} {v:Value} (h1:cj k=0) (h2:parentOf k=p):(vs.map (·.1)).filter (iF p)++[k] <+: (((vs++[(k,v)])++r).map (·.1)).filter (iF p):=by
  rw[gA,nX,zb h1 h2]
  exact BL _ _
theorem Ct {α:Type} (s:List α):(s.drop ((s.length:Int)-1+1).toNat).reverse=[]:=by
  rw[show((s.length:Int)-1+1).toNat=s.length by omega];simp
theorem xl {α:Type} {s:List α} {i:Int} {x:α} (h:0≤i) (hx:s[i.toNat]?=some x):(s.drop (i-1+1).toNat).reverse=(s.drop (i+1).toNat).reverse++[x]:=by
  rw[show(i-1+1).toNat=i.toNat by omega,show(i+1).toNat=i.toNat+1 by omega,drop_at hx,List.reverse_cons]
theorem NW {α:Type} {s:List α} {i:Int} (h: -1≤i) (h2:i<0):(s.drop (i+1).toNat).reverse=s.reverse:=by
  rw[show(i+1).toNat=0 by omega];rfl
theorem GX {α:Type} (s:List α) (n:Nat):(s.drop n).reverse <+: s.reverse:=by
  refine⟨(s.take n).reverse,?_⟩
  rw[←List.reverse_append,lJ]
theorem GY {ns:List aa} (h:fL ns):(ns.map (·.af)).Pairwise fun a b=>Go.Op.bytesLess a b=true:=sY.2 h
theorem NX {r:List bp} {ns:List aa} {p:bp} (hp:r.Perm (gJ ns p)) (h:fL ns):iE r=gJ ns p:=
  (GS hp).trans (GU (GY (s7 oL h)))
theorem jL.sort {g:GH} {mb:Nat} {ns:List aa} (h:jL g mb ns):fL ns:=by
  obtain⟨_,_,_,_,h2,_⟩:=h
  exact h2.2.2.1
theorem iZ.sort {g:GH} {b:Nat} {ns:List aa} (h:iZ g b ns):fL ns:=by
  obtain⟨_,_,h2⟩:=h
  exact h2.sort
abbrev gE:GH:=fun _=>none
theorem NY {c c':az}:aM (cS gE c) (cS gE (c++c')):=by
  intro b o h
  unfold cS at *
  rw[List.find?_append]
  cases hf:c.find? (fun p=>Nat.beq p.1 b) with
  |none=>rw[hf] at h;cases h
  |some p=>rw[hf] at h;exact h
theorem NZ {v:Value} {xs:aj} {c C:az} (h:aH 5 a_ gE v xs c) (hn:(C.map (·.1)).Nodup) (hc:∀p∈c,p∈C):an (cS gE C) 5 a_ v xs:=by
  rcases h.old with ⟨ao,rfl,rfl,_⟩|⟨b,o,cap,cur,rfl,rfl,h1,h2,h3,h4⟩
  · exact an.empty _ _ _ _ _
  · exact⟨_,cap,rfl,h1,fun _=>⟨b,o,cur,(5,0,0),rfl,nV hn (hc _ (iA.2 rfl)),By (fun _ _ _ _ h=>h) h4⟩⟩
theorem St.N0 {h0:ay} {g0:GH} {S0:Nat→Prop} {g:GH} {L:List az} {h:ay} (s:St h0 g0 S0 g L h) {A:az} (hs:A.Sublist L.flatten):(A.map (·.1)).Nodup:=uH (hs.map _) s.nodup
theorem GZ {g:GH} {d:az} (hs:∀p∈d,g p.1=none):aM (cS gE d) (cS g d):=by
  intro b o h
  unfold cS at *
  cases hf:d.find? (fun p=>Nat.beq p.1 b) with
  |none=>rw[hf] at h;cases h
  |some p=>rw[hf] at h;exact h
theorem Deep.freeze {h0:ay} {g0:GH} {S0:Nat→Prop} {g:GH} {L:List az} {h:ay} {α:Type} {T:TypeId} {d:Kd α} {v:Value} {xs:List α} {c u:az} (hr:aH T d (cS gE u) v xs c) (s:St h0 g0 S0 g (c::u::L) h):
    ∃g',St h0 g0 S0 g' L h∧aM g g'∧an g' T d v xs:=by
  have s1:=s.pq (L':=u::c::L) (List.Perm.swap _ _ _)
  obtain⟨s2,D⟩:=St.freeze s1
  have G:aH T d (cS g u) v xs c:=hr.mono (GZ fun p hp=>s1.sep p (by simp[hp]))
  obtain⟨g',s3,I,hs⟩:=aH.freeze G s2
  exact⟨g',s3,D.trans I,hs⟩
set_option maxRecDepth 100000
theorem N1 (B:World) (h:ay) (g:GH) (hg:bu g h) (G:bz g) (s:aj) (p:aj):
  aG prog B 213 #[vS s,vS p] h g [] (fun D g' L'=>D=.bool (p.isPrefixOf s)∧g'=g∧L'=[]):=by
 refine aG.aq func213 fun R hR=>?_
 have u:=St.init hg
 refine At.go 1 1 []<|At.rp 14 6 [(10,.bool (decide ((s.length:Int)≥(p.length:Int))))]<|Op.wd ((s.length:Int)≥(p.length:Int)) 10 (fun I=>?_) fun J=>?_
 ·exact Op.px 3 [(11,vS s),(13,vI (p.length:Int))]<|Op.Mk (T:=9) (k:=.i64) (x:=11) (hi:=13) (dst:=14) (l:=s) (n:=(p.length:Int)) (by kernel_rfl) (by kernel_rfl) (by kernel_rfl) (by kernel_rfl) (by omega) (by omega)<|Op.px 1 [(15,vS p)]<|Op.vl 16 (.bool ((br (s.take ((p.length:Int):Int).toNat)).toList==(br p).toList)) (.bool ((s.take ((p.length:Int):Int).toNat)==p)) (by rw[toList_mkS,toList_mkS])<|Op.pr 2 4 (.bool ((s.take ((p.length:Int):Int).toNat)==p)) (hR u ⟨(bn (by exact Nc)),rfl,rfl⟩)
 exact Op.pr 2 4 vF (hR u ⟨(bn (by exact(Nd (by omega)).symm)),rfl,rfl⟩)
theorem N2 (B:World) (h:ay) (g:GH) (hg:bu g h) (J:bz g) (s:aj) (p:aj):
  aG prog B 204 #[vS s,vS p] h g [] (fun O g' L'=>O=.tuple #[.string (br (if p.isPrefixOf s=true then s.drop p.length else s)),.bool (p.isPrefixOf s)]∧g'=g∧L'=[]):=by
 refine aG.aq func204 fun R hR=>?_
 have D:=St.init hg
 refine At.go 1 2 []<|At.rp 4 2 [(6,vS s),(7,vS p)]<|Op.c1 8 (N1 _ _ _ D.sub J s p) D fun U G=>Op.pg 2 [(9,.bool (!(p.isPrefixOf s)))]<|At.cW (!(p.isPrefixOf s)) 9 3 5 (fun I=>?_) fun u=>?_
 ·replace I:=(dn I)
  exact At.go 4 3 [(4,vS s),(5,vF)]<|At.rt (.tuple #[vS s,vF]) (hR G ⟨bA (iL (by simp_all)) (bn (by simp_all)),rfl,rfl⟩)
 replace u:=(dr u)
 exact At.rp 6 3 [(11,vS s),(13,vI (p.length:Int))]<|Op.Mj (T:=9) (k:=.i64) (x:=11) (lo:=13) (dst:=14) (l:=s) (n:=(p.length:Int)) (by kernel_rfl) (by kernel_rfl) (by kernel_rfl) (by kernel_rfl) (by have:=Ga u;omega) (by have:=Ga u;omega)<|Op.pg 6 [(4,vS (s.drop ((p.length:Int):Int).toNat)),(5,vT)]<|At.rt (.tuple #[vS (s.drop ((p.length:Int):Int).toNat),vT]) (hR G ⟨bA (iL (by simp_all)) (bn (by simp_all)),rfl,rfl⟩)
theorem N3 (B:World) (h:ay) (g:GH) (hg:bu g h) (D:bz g) (s:aj) (p:aj):
  aG prog B 182 #[vS s,vS p] h g [] (fun G g' L'=>G=.tuple #[.string (br (if p.isPrefixOf s=true then s.drop p.length else s)),.bool (p.isPrefixOf s)]∧g'=g∧L'=[]):=by
 refine aG.aq func182 fun R hR=>?_
 have u:=St.init hg
 exact At.go 1 2 []<|At.rp 7 2 [(6,vS s),(7,vS p)]<|Op.c1 8 (N2 _ _ _ u.sub D s p) u fun J I=>Op.pg 2 [(4,vS (if p.isPrefixOf s=true then s.drop p.length else s)),(5,.bool (p.isPrefixOf s))]<|At.rt (.tuple #[vS (if p.isPrefixOf s=true then s.drop p.length else s),.bool (p.isPrefixOf s)]) (hR I ⟨bA (iL (by rfl)) (bn (by rfl)),rfl,rfl⟩)
theorem N4 (B:World) (h:ay) (g:GH) (hg:bu g h) (I:bz g) (s:aj) (hlen:s.length≤1000000000):
  aG prog B 186 #[vS s] h g [] (fun J g' L'=>J=.bool (gp s)∧g'=g∧L'=[]):=by
 refine aG.aq func186 fun R hR=>?_
 have u:=St.init hg
 refine At.go 1 1 []<|At.rp 13 1 [(3,vS s)]<|Op.vl 4 (.bool (!((br s).toList==(br []).toList))) (.bool (!(s==([]:aj)))) (by rw[toList_mkS,toList_mkS])<|Op.px 1 [(5,.bool (!(s==([]:aj))))]<|Op.wb (!(s==([]:aj))) 5 (fun D=>?_) fun G=>?_
 ·replace D:=pI (dn D)
  refine Op.px 5 [(10,.bool (decide ((s.length:Int)≤16)))]<|Op.wd ((s.length:Int)≤16) 10 (fun O=>?_) fun U=>?_
  ·exact Op.px 1 [(11,vS s)]<|Op.c1 12 (ML _ _ _ u.sub I s ([97,98,99,100,101,102,103,104,105,106,107,108,109,110,111,112,113,114,115,116,117,118,119,120,121,122,48,49,50,51,52,53,54,55,56,57,45,95]) (by(try dsimp only)<;>omega) (by((try dsimp only)<;>decide)) (by((try dsimp only)<;>(exact Nf (by decide))))) u fun X V=>Op.vl 13 (.bool ((br (Lib.trimS s ([97,98,99,100,101,102,103,104,105,106,107,108,109,110,111,112,113,114,115,116,117,118,119,120,121,122,48,49,50,51,52,53,54,55,56,57,45,95]))).toList==(br []).toList)) (.bool ((Lib.trimS s ([97,98,99,100,101,102,103,104,105,106,107,108,109,110,111,112,113,114,115,116,117,118,119,120,121,122,48,49,50,51,52,53,54,55,56,57,45,95]))==([]:aj))) (by rw[toList_mkS,toList_mkS])<|Op.pr 2 2 (.bool ((Lib.trimS s ([97,98,99,100,101,102,103,104,105,106,107,108,109,110,111,112,113,114,115,116,117,118,119,120,121,122,48,49,50,51,52,53,54,55,56,57,45,95]))==([]:aj))) (hR V ⟨(bn (by exact Nh D O)),rfl,rfl⟩)
  exact Op.pr 2 2 vF (hR u ⟨(bn (by exact Ni U)),rfl,rfl⟩)
 replace G:=eq_of_beq (dr G)
 exact Op.pr 2 2 vF (hR u ⟨(bn (by(subst G;exact Nj))),rfl,rfl⟩)
theorem N5 (B:World) (h:ay) (g:GH) (hg:bu g h) (D:bz g) (s:aj) (hlen:s.length≤1000000000):
  aG prog B 185 #[vS s] h g [] (fun G g' L'=>G=.bool (!gp s)∧g'=g∧L'=[]):=by
 refine aG.aq func185 fun R hR=>?_
 have u:=St.init hg
 exact At.go 1 1 []<|At.rp 4 1 [(3,vS s)]<|Op.c1 4 (N4 _ _ _ u.sub D s (by(try dsimp only)<;>omega)) u fun J I=>Op.pr 2 2 (.bool (!(gp s))) (hR I ⟨(bn (by rfl)),rfl,rfl⟩)
theorem N6 (B:World) (h:ay) (g:GH) (hg:bu g h) (ad:bz g) (V:Value) (l:List aj) (X:an g 9 cV V l) (f:Nat) (q:aj→Bool) (hf:eg prog f) (hq:∀(B:World) (h:ay) (g:GH),bu g h→bz g→∀(x:aj),x.length≤1000000000→aG prog B f #[.string (br x)] h g [] (fun v g' L'=>v=.bool (q x)∧g'=g∧L'=[])) (hall:∀x∈l,x.length≤1000000000) (hlen:l.length≤1000000000):
  aG prog B 206 #[V,.func (.func f) #[] #[]] h g [] (fun ae g' L'=>ae=.int .i64 (ek q l)∧g'=g∧L'=[]):=by
 obtain⟨Y,J,rfl⟩:=X.ak
 refine aG.aq func206 fun R hR=>At.go 1 1 []<|At.go 2 3 [(7,vI (l.length:Int)),(8,vI 0)] ?_
 have am:∀(m:Nat) (i:Int) (O:ay) (hm:l.length-i.toNat<m) (h0:0≤i) (h1:i≤l.length) (G:findAt q l i) (u:St h g (aS []) g [] O),At (bP prog B 206 f206 R) [] 2 [(0,vL Y l.length J),(1,.func (.func f) #[] #[]),(7,vI (l.length:Int)),(8,vI i)] O:=by
  intro m;induction m with
  |zero=>intros;omega
  |succ m ar=>
   intro i O hm h0 h1 G u
   refine At.go 3 1 [(9,.bool (decide (i<(l.length:Int))))]<|At.fd (i<(l.length:Int)) 9 4 10 (fun a8=>?_) fun aw=>?_
   ·refine At.go 5 2 [(5,vI i)]<|At.rp 6 3 [(11,.func (.func f) #[] #[]),(12,vL Y l.length J),(13,vI i)] ?_
    obtain⟨D,I⟩:=bW l i
    obtain⟨a0,Z,a9,bb,a1,a3,U⟩:=an.bB X _ I
    cases a1
    refine Op.iq 40 9 1 16 l.length J 12 13 14 a0 Z i ?_
    replace U:cut _ _ _=[vS D]:=U
    refine Op.l1 9 14 15 (Z+i.toNat*1) (vS D) (u.sub _ _ a3) ?_ (hv:=bN U 0 rfl)
    refine Op.cv (some 16) 11 #[15] #[9] f #[] #[] [] [] #[vS D] hf (by kernel_rfl) u (hq _ _ _ u.sub ad D (by((try dsimp only)<;>(exact hall _ (bY I))))) (fun _ _ h=>absurd h (gP _)) ?_
    rintro _ a4 _ bc a5 ab ⟨rfl,bd,rfl⟩;subst a4;clear a5
    refine Op.gt 6<|At.cW (q D) 16 7 9 (fun a6=>?_) fun a7=>?_
    ·exact At.gr 8 2 4 (vI i) (hR ab ⟨(bg (by exact td G I a6)),rfl,rfl⟩)
    exact At.rg 2<|Op.vq 18 (i+1)<|Op.pg 2 [(8,vI (i+1))] (At.ke (ar (i+1) _ (by omega) (by omega) (by omega) (by exact uO G h0 I a7) ab))
   exact At.gr 11 1 4 (vI (-1)) (hR u ⟨(bg (by exact tf G aw)),rfl,rfl⟩)
 exact At.ke (am _ 0 _ (bG _) (by omega) (by omega) (by exact uN _ _) (St.init hg))
theorem N7 (B:World) (h:ay) (g:GH) (hg:bu g h) (u:bz g) (D:Value) (l:List aj) (G:an g 9 cV D l) (f:Nat) (q:aj→Bool) (hf:eg prog f) (hq:∀(B:World) (h:ay) (g:GH),bu g h→bz g→∀(x:aj),x.length≤1000000000→aG prog B f #[.string (br x)] h g [] (fun v g' L'=>v=.bool (q x)∧g'=g∧L'=[])) (hall:∀x∈l,x.length≤1000000000) (hlen:l.length≤1000000000):
  aG prog B 184 #[D,.func (.func f) #[] #[]] h g [] (fun J g' L'=>J=.bool (l.any q)∧g'=g∧L'=[]):=by
 obtain⟨O,U,rfl⟩:=G.ak
 refine aG.aq func184 fun R hR=>?_
 have I:=St.init hg
 exact At.go 1 1 []<|At.rp 5 2 [(5,vL O l.length U),(6,.func (.func f) #[] #[])]<|Op.c1 7 (N6 _ _ _ I.sub u _ _ G f (fun x=>q x) hf (fun B h g hg u x=>hq B h g hg u x) (by(try dsimp only)<;>assumption) (by(try dsimp only)<;>assumption)) I fun X V=>Op.pr 2 4 (.bool (decide ((ek (fun x=>q x) l)≥0))) (hR V ⟨(bn (by exact uM _ _)),rfl,rfl⟩)
theorem G0 (B:World) (h:ay) (g:GH) (hg:bu g h) (D:bz g) (p:aj) (hlen:p.length≤1000000000):
  aG prog B 159 #[vS p] h g [] (fun ar g' L'=>∃v0,ar=.tuple #[v0,.int .i64 (cR p)]∧an g' 9 cV v0 (bX p)∧L'=[]):=by
 refine aG.aq func159 fun R hR=>?_
 have Z:=St.init hg
 refine At.go 1 2 []<|At.rp 7 1 [(8,vS p)]<|Op.c1 9 (N3 _ _ _ Z.sub D p ([47])) Z fun a0 J=>Op.pg 2 [(4,vS (if ([47]).isPrefixOf p=true then p.drop ([47]).length else p)),(5,.bool (([47]).isPrefixOf p))]<|At.rp 7 3 [(14,.bool (!(([47]).isPrefixOf p)))] ?_
 refine Op.wb (!(([47]).isPrefixOf p)) 14 (fun V=>?_) fun u=>?_
 ·replace V:=(dn V)
  exact Op.pg 3 [(18,vT)]<|At.bT 18 4<|At.go 5 2 [(2,vN),(3,vI 90)]<|At.rt (.tuple #[vN,vI 90]) (hR J ⟨vN,bA rfl (bg (by exact(uP (Gd V)).2)),bl (an.empty _ _ _ _ _) (by exact(uP (Gd V)).1),rfl⟩)
 replace u:=(dr u)
 refine Op.pg 3 [(18,.bool (decide ((p.length:Int)>64)))]<|At.fd ((p.length:Int)>64) 18 4 6 (fun a1=>?_) fun G=>?_
 ·exact At.go 5 2 [(2,vN),(3,vI 90)]<|At.rt (.tuple #[vN,vI 90]) (hR J ⟨vN,bA rfl (bg (by exact(uP (BZ (by omega))).2)),bl (an.empty _ _ _ _ _) (by exact(uP (BZ (by omega))).1),rfl⟩)
 refine At.rp 2 1 [(19,vS (if ([47]).isPrefixOf p=true then p.drop ([47]).length else p))]<|Op.vl 20 (.bool ((br (if ([47]).isPrefixOf p=true then p.drop ([47]).length else p)).toList==(br []).toList)) (.bool ((if ([47]).isPrefixOf p=true then p.drop ([47]).length else p)==([]:aj))) (by rw[toList_mkS,toList_mkS])<|Op.gt 7<|At.cW ((if ([47]).isPrefixOf p=true then p.drop ([47]).length else p)==([]:aj)) 20 8 10 (fun X=>?_) fun I=>?_
 ·replace X:=eq_of_beq X
  exact At.go 9 2 [(2,vN),(3,vI 0)]<|At.rt (.tuple #[vN,vI 0]) (hR J ⟨vN,bA rfl (bg (by exact(Gk u G X).2)),bl (an.empty _ _ _ _ _) (by exact(Gk u G X).1),rfl⟩)
 replace I:=pI I
 refine At.rp 3 1 [(21,vS (if ([47]).isPrefixOf p=true then p.drop ([47]).length else p))]<|Op.c0 (some 22) (MJ _ _ _ J.sub D (if ([47]).isPrefixOf p=true then p.drop ([47]).length else p) 47 (by((try dsimp only)<;>(have:=B3 p;unfold nw at this;omega)))) J ?_
 rintro _ a3 _ a4 aw ab ⟨a5,rfl,Y,rfl⟩
 obtain⟨O,U,rfl⟩:=Y.ak
 replace D:=D.mono aw
 refine Op.pg 11 [(6,vL O ((splitOn 47 (if ([47]).isPrefixOf p=true then p.drop ([47]).length else p)).length) U)]<|At.rp 2 1 [(23,vL O ((splitOn 47 (if ([47]).isPrefixOf p=true then p.drop ([47]).length else p)).length) U)]<|Op.c1 24 (N7 _ _ _ ab.sub D _ _ Y 185 (fun s=>!gp s) (eg.of (by kernel_rfl)) (fun B h g hg D s=>N5 B h g hg D s) (by((try dsimp only)<;>(exact fun x hx=>cH (Gj 47 _ x hx) (cH (B3 p) hlen)))) (by((try dsimp only)<;>((have h1:=Gf 47 (nw p);have h2:=B3 p;unfold nw at h1 h2;unfold cR at *;omega))))) ab fun a6 ad=>Op.gt 12<|At.cW ((splitOn 47 (if ([47]).isPrefixOf p=true then p.drop ([47]).length else p)).any (fun s=>!gp s)) 24 13 15 (fun ae=>?_) fun am=>?_
 ·exact At.go 14 2 [(2,vN),(3,vI 90)]<|At.rt (.tuple #[vN,vI 90]) (hR ad ⟨vN,bA rfl (bg (by exact(uP (Gl u G I ae)).2)),bl (an.empty _ _ _ _ _) (by exact(uP (Gl u G I ae)).1),rfl⟩)
 exact At.go 16 3 [(2,vL O ((splitOn 47 (if ([47]).isPrefixOf p=true then p.drop ([47]).length else p)).length) U),(3,vI 0)]<|At.rt (.tuple #[vL O ((splitOn 47 (if ([47]).isPrefixOf p=true then p.drop ([47]).length else p)).length) U,vI 0]) (hR ad ⟨(vL O ((splitOn 47 (if ([47]).isPrefixOf p=true then p.drop ([47]).length else p)).length) U),bA rfl (bg (by exact(Gm u G I am).2)),bl Y (by exact(Gm u G I am).1),rfl⟩)
theorem zd (B:World) (h:ay) (g:GH) (hg:bu g h) (D:bz g) (p:aj) (hlen:p.length≤1000000000):
  aG prog B 161 #[vS p] h g [] (fun G g' L'=>G=.int .i64 (cR p)∧g'=g∧L'=[]):=by
 refine aG.aq func161 fun R hR=>?_
 have u:=St.init hg
 refine At.go 1 1 []<|At.rp 7 1 [(6,vS p)]<|Op.c0 (some 7) (G0 _ _ _ u.sub D p (by(try dsimp only)<;>omega)) u ?_
 rintro _ O _ U V I ⟨X,rfl,J,rfl⟩
 obtain⟨Y,Z,rfl⟩:=J.ak
 exact Op.pg 2 [(4,vI (cR p))]<|At.gr 3 2 2 (vI (cR p)) (hR I.iM ⟨(bg (by rfl)),rfl,rfl⟩)
theorem G1 (B:World) (h:ay) (g:GH) (hg:bu g h) (am:bz g) (p:aj) (hlen:p.length≤1000000000):
  aG prog B 141 #[vS p] h g [] (fun ar g' L'=>∃v0,ar=.tuple #[v0,.string (br (mR (bX p))),.int .i64 (cj p)]∧an g' 9 cV v0 ((bX p).dropLast)∧L'=[]):=by
 refine aG.aq func141 fun R hR=>?_
 have Y:=St.init hg
 refine At.go 1 3 []<|At.rp 7 1 [(8,vS p)]<|Op.c0 (some 9) (G0 _ _ _ Y.sub am p (by((try dsimp only)<;>((have:=nZ p;omega))))) Y ?_
 rintro _ a4 _ a5 a6 G ⟨a7,rfl,O,rfl⟩
 obtain⟨I,u,rfl⟩:=O.ak
 refine Op.pg 2 [(5,vL I ((bX p).length) u),(6,vI (cR p))]<|At.rp 7 3 [(14,.bool ((cR p) != 0))]<|Op.wb ((cR p) != 0) 14 (fun D=>?_) fun Z=>?_
 ·replace D:=fY D
  exact Op.pg 3 [(18,vT)]<|At.bT 18 4<|At.go 5 3 [(2,vN),(3,vS []),(4,vI 90)]<|At.rt (.tuple #[vN,vS [],vI 90]) (hR G ⟨vN,gG rfl (iL (by exact(uQ (B2 D)).2.1)) (bg (by exact(uQ (B2 D)).2.2)),bl (an.empty _ _ _ _ _) (by exact(uQ (B2 D)).1),rfl⟩)
 replace Z:=gB Z
 refine Op.pg 3 [(18,.bool (((bX p).length:Int)==0))]<|At.fd (((bX p).length:Int)=0) 18 4 6 (fun a8=>?_) fun aw=>?_
 ·exact At.go 5 3 [(2,vN),(3,vS []),(4,vI 90)]<|At.rt (.tuple #[vN,vS [],vI 90]) (hR G ⟨vN,gG rfl (iL (by exact(uQ (kU (by omega))).2.1)) (bg (by exact(uQ (kU (by omega))).2.2)),bl (an.empty _ _ _ _ _) (by exact(uQ (kU (by omega))).1),rfl⟩)
 refine At.dw (fun _=>False) [(0,true),(1,true),(2,true),(3,true),(4,true),(5,true),(6,true),(7,true),(8,true),(9,true),(11,true),(10,false),(12,true),(13,true)]<|Op.px 3 [(19,vL I ((bX p).length) u),(21,vI ((bX p).length:Int))]<|Op.cO 22 (((bX p).length:Int)-1) (by(have:=nZ p;omega)) (by(have:=nZ p;omega))<|Op.Ft (T:=40) (E:=9) (cK:=16) (x:=19) (ao:=I) (n:=((bX p).length)) (c:=u) (dst:=23) (d:=cV) (hi:=22) (k:=.i64) (m:=((bX p).length:Int)-1) (by kernel_rfl) (by kernel_rfl) (by kernel_rfl) (by kernel_rfl) O (by(have:=nZ p;omega)) (by(have:=nZ p;omega)) fun a9 ab=>?_
 obtain⟨U,V,rfl⟩:=ab.ak
 refine Op.px 3 [(24,vL I ((bX p).length) u),(26,vI ((bX p).length:Int))]<|Op.cO 27 (((bX p).length:Int)-1) (by(have:=nZ p;omega)) (by(have:=nZ p;omega)) ?_
 obtain⟨J,ad⟩:=jo (l:=bX p) (i:=((bX p).length:Int)-1) (by(have:=nZ p;omega))
 obtain⟨a0,ae,bb,bc,a1,a3,X⟩:=an.bB O _ ad
 cases a1
 refine Op.ix 40 9 1 16 ((bX p).length) u 24 27 28 a0 ae (((bX p).length:Int)-1) (by(have:=nZ p;omega)) (by(have:=nZ p;omega)) ?_
 replace X:cut _ _ _=[vS J]:=X
 refine Op.px 1 [(2,vL U (((bX p).take (((bX p).length:Int)-1:Int).toNat).length) V)]<|Op.l1 9 28 29 (ae+(((bX p).length:Int)-1:Int).toNat*1) (vS J) (G.sub _ _ a3) ?_ (hv:=bN X 0 rfl)
 exact Op.pg 7 [(3,vS J),(4,vI 0)]<|At.rt (.tuple #[vL U (((bX p).take (((bX p).length:Int)-1:Int).toNat).length) V,vS J,vI 0]) (hR G ⟨(vL U (((bX p).take (((bX p).length:Int)-1:Int).toNat).length) V),gG rfl (iL (by exact Nk ad (by have:=nZ p;omega))) (bg (by exact(Gi (by omega)).symm)),bl ab (by exact Nl rfl aw),rfl⟩)
theorem N8 (B:World) (h:ay) (g:GH) (hg:bu g h) (I:bz g) (u:Value) (l:List aj) (D:an g 9 cV u l) (X:l.length≤1000000000) (hL:(eZ 47 l).length≤1000000000):
  aG prog B 142 #[u] h g [] (fun J g' L'=>J=.string (br (joined l))∧g'=g∧L'=[]):=by
 obtain⟨O,U,rfl⟩:=D.ak
 refine aG.aq func142 fun R hR=>?_
 have G:=St.init hg
 exact At.go 1 1 []<|At.rp 4 1 [(3,vL O l.length U)]<|Op.c1 4 (MN _ _ _ G.sub I _ _ D ([47]) (by(try dsimp only)<;>omega) (by((try dsimp only)<;>((rw[B1];omega))))) G fun Y V=>Op.sa 9 9 (.const (vS ([47]))) 4 5 ([47]) (Lib.join l ([47])) (by rw[B1];simp;omega)<|Op.pr 2 2 (vS (([47])++(Lib.join l ([47])))) (hR V ⟨(iL (by rw[B1];rfl)),rfl,rfl⟩)
theorem xm (B:World) (h:ay) (g:GH) (hg:bu g h) (u:bz g) (p:aj) (hlen:p.length≤1000000000):
  aG prog B 108 #[vS p] h g [] (fun V g' L'=>V=.tuple #[.string (br (parentOf p)),.int .i64 (cj p)]∧g'=g∧L'=[]):=by
 refine aG.aq func108 fun R hR=>?_
 have G:=St.init hg
 refine At.go 1 2 []<|At.rp 9 1 [(8,vS p)]<|Op.c0 (some 9) (G1 _ _ _ G.sub u p (by(try dsimp only)<;>omega)) G ?_
 rintro _ ab _ ad X D ⟨ae,rfl,I,rfl⟩
 obtain⟨J,O,rfl⟩:=I.ak
 replace u:=u.mono X
 refine Op.pg 2 [(4,vL J (((bX p).dropLast).length) O),(6,vI (cj p))]<|At.go 3 2 [(14,.bool ((cj p) != 0))]<|At.fn ((cj p)=0) 14 4 6 (fun Y=>?_) fun U=>?_
 ·exact At.go 5 3 [(2,vS []),(3,vI (cj p))]<|At.rt (.tuple #[vS [],vI (cj p)]) (hR D.iM ⟨bA (iL (by exact Nq Y)) (bg (by rfl)),rfl,rfl⟩)
 exact At.rp 4 1 [(16,vL J (((bX p).dropLast).length) O)]<|Op.c1 17 (N8 _ _ _ D.sub u _ _ I (by((try dsimp only)<;>(exact cH (Np p) (by omega)))) (by(try dsimp only)<;>exact cH (No p) hlen)) D fun am Z=>Op.pg 7 [(2,vS (joined ((bX p).dropLast))),(3,vI 0)]<|At.rt (.tuple #[vS (joined ((bX p).dropLast)),vI 0]) (hR Z.iM ⟨bA (iL (by exact Nr U)) (bg (by exact U.symm)),rfl,rfl⟩)
theorem N9 (B:World) (h:ay) (g:GH) (hg:bu g h) (I:bz g) (p:aj) (hlen:p.length≤1000000000):
  aG prog B 165 #[vS p] h g [] (fun J g' L'=>J=.tuple #[.string (br (mc p)),.int .i64 (cR p)]∧g'=g∧L'=[]):=by
 refine aG.aq func165 fun R hR=>?_
 have u:=St.init hg
 refine At.go 1 2 []<|At.rp 3 1 [(5,vS p)]<|Op.c1 6 (zd _ _ _ u.sub I p (by(try dsimp only)<;>omega)) u fun U D=>Op.pg 2 [(4,vI (cR p))]<|At.go 3 2 [(8,.bool ((cR p) != 0))] ?_
 refine At.fn ((cR p)=0) 8 4 6 (fun O=>?_) fun G=>?_
 ·exact At.go 5 3 [(2,vS []),(3,vI (cR p))]<|At.rt (.tuple #[vS [],vI (cR p)]) (hR D ⟨bA (iL (by exact Ns O)) (bg (by rfl)),rfl,rfl⟩)
 exact At.go 7 3 [(2,vS p),(3,vI 0)]<|At.rt (.tuple #[vS p,vI 0]) (hR D ⟨bA (iL (by exact(Gq G).1)) (bg (by exact(Gq G).2)),rfl,rfl⟩)
theorem N_ (B:World) (h:ay) (g:GH) (hg:bu g h) (u:bz g) (p:aj) (n:Int) (hP:l_ g) (hlen:p.length≤100000000) (hn0: -9223372036854775808≤n) (ab:n≤9223372036854775807):
  aG prog B 147 #[vS p,vI n] h g [] (fun X g' L'=>X=.tuple #[.string (br (eu p n)),.int .i64 (j3 p n)]∧g'=g∧L'=[]):=by
 refine aG.aq func147 fun R hR=>?_
 have G:=St.init hg
 refine At.go 1 2 []<|At.rp 9 1 [(11,vS p)]<|Op.c0 (some 12) (G1 _ _ _ G.sub u p (by(try dsimp only)<;>omega)) G ?_
 rintro _ ad _ ae I D ⟨am,rfl,Y,rfl⟩
 obtain⟨ar,aw,rfl⟩:=Y.ak
 replace u:=u.mono I
 replace hP:=hP.mono I
 refine Op.pg 2 [(8,vI (cj p))]<|At.rp 10 3 [(18,.bool ((cj p) != 0))]<|Op.wb ((cj p) != 0) 18 (fun J=>?_) fun O=>?_
 ·replace J:=fY J
  exact Op.pg 3 [(25,vT)]<|At.bT 25 4<|At.go 5 2 [(4,vS []),(5,vI 90)]<|At.rt (.tuple #[vS [],vI 90]) (hR D.iM ⟨bA (iL (by exact(tg (Gr ‹_›)).1)) (bg (by exact(tg (Gr ‹_›)).2)),rfl,rfl⟩)
 replace O:=gB O
 refine Op.px 4 [(22,.bool (decide (n<0)))]<|Op.wd (n<0) 22 (fun a0=>?_) fun a1=>?_
 ·exact Op.pg 3 [(25,vT)]<|At.bT 25 4<|At.go 5 2 [(4,vS []),(5,vI 90)]<|At.rt (.tuple #[vS [],vI 90]) (hR D.iM ⟨bA (iL (by exact(tg (Gs ‹_›)).1)) (bg (by exact(tg (Gs ‹_›)).2)),rfl,rfl⟩)
 refine Op.pg 3 [(25,.bool (decide (n>99999)))]<|At.fd (n>99999) 25 4 6 (fun a3=>?_) fun a4=>?_
 ·exact At.go 5 2 [(4,vS []),(5,vI 90)]<|At.rt (.tuple #[vS [],vI 90]) (hR D.iM ⟨bA (iL (by exact(tg (Gt ‹_›)).1)) (bg (by exact(tg (Gt ‹_›)).2)),rfl,rfl⟩)
 refine At.rp 3 1 [(26,vI n)]<|Op.c1 27 (MH _ _ _ D.sub u n hP (by(try dsimp only)<;>omega) (by(try dsimp only)<;>omega)) D fun a5 U=>Op.pg 7 [(9,vS (Lib.itoa n))]<|At.rp 13 3 [(28,vS p),(30,vI ((Lib.itoa n).length:Int))]<|Op.cO 31 ((5:Int)-((Lib.itoa n).length:Int)) (by(have hi:=uR (n:=n) (by omega) (by omega);omega)) (by omega) ?_
 refine Op.c1 32 (MM _ _ _ U.sub u ([48]) ((5:Int)-((Lib.itoa n).length:Int)) (by((try dsimp only)<;>((have hi:=uR (n:=n) (by omega) (by omega);omega)))) (by(try dsimp only)<;>omega) (by((try dsimp only)<;>((have hi:=uR (n:=n) (by omega) (by omega);simp only[b_,Lib.repeatL_length,oI,nU,yH];omega))))) U fun a6 V=>Op.sa 9 9 28 32 33 p (Lib.repeatL ([48]) (((5:Int)-((Lib.itoa n).length:Int):Int).toNat)) (by(have hi:=uR (n:=n) (by omega) (by omega);simp only[b_,Lib.repeatL_length,oI,nU,yH];omega))<|Op.px 1 [(34,vS (Lib.itoa n))]<|Op.sa 9 9 33 34 35 (p++(Lib.repeatL ([48]) (((5:Int)-((Lib.itoa n).length:Int):Int).toNat))) (Lib.itoa n) (by(have hi:=uR (n:=n) (by omega) (by omega);simp only[b_,Lib.repeatL_length,oI,nU,yH];omega))<|Op.c1 36 (N9 _ _ _ V.sub u ((p++(Lib.repeatL ([48]) (((5:Int)-((Lib.itoa n).length:Int):Int).toNat)))++(Lib.itoa n)) (by((try dsimp only)<;>((have hi:=uR (n:=n) (by omega) (by omega);simp only[b_,Lib.repeatL_length,oI,nU,yH];omega))))) V fun a7 Z=>?_
 exact Op.pg 8 [(4,vS (mc ((p++(Lib.repeatL ([48]) (((5:Int)-((Lib.itoa n).length:Int):Int).toNat)))++(Lib.itoa n)))),(5,vI (cR ((p++(Lib.repeatL ([48]) (((5:Int)-((Lib.itoa n).length:Int):Int).toNat)))++(Lib.itoa n))))]<|At.rt (.tuple #[vS (mc ((p++(Lib.repeatL ([48]) (((5:Int)-((Lib.itoa n).length:Int):Int).toNat)))++(Lib.itoa n))),vI (cR ((p++(Lib.repeatL ([48]) (((5:Int)-((Lib.itoa n).length:Int):Int).toNat)))++(Lib.itoa n)))]) (hR Z.iM ⟨bA (iL (by exact(Gv (Gu ‹_› ‹_› ‹_›) (by omega)).1)) (bg (by exact(Gv (Gu ‹_› ‹_› ‹_›) (by omega)).2)),rfl,rfl⟩)
theorem Oa (g0:GH) (bc D:Nat) (x:List aa) (G:g0 bc=some (.cells #[.map (some D)] 136 (0,0))) (aw:jL g0 D x):jl prog g0 125 #[vP bc] qG (fun b3=>b3.Perm (x.map (·.af))):=by
 intro B h g l I go c bd hg a0 a1 b4 b5 hs
 replace G:=bd _ _ G
 replace aw:=aw.mono bd
 refine aG.aq func125 fun R hR=>At.rg 2<|Op.l1 136 1 4 0 (.map (some D)) (hs.sub _ _ G) ?_
 obtain⟨b6,b8,be,J,a3,ci,a4,ck,co⟩:=jL.kD aw
 refine Op.s_ (d:=.string) (z:=.pointer none) (mt:=136) (x:=4) (dst:=5) (m:=D) (by kernel_rfl) (by kernel_rfl) (by kernel_rfl) (hs.sub _ _ J) a3 hs fun O ca c3 cb ce=>Op.gt 1 ?_
 have cf:∀(m:Nat) (ab:GH) (U:aM g ab) (vs:List (bp×Value)) (rs:List (bp×Value)) (c1:az) (o1:Obj) (a5:ay) (hm:rs.length<m) (ad:go (vs.map (·.1))=true) (ae:qH go (vs.map (·.1))) (X:(vs++rs).Perm be) (a6:I (vs.map (·.1)) ab c1) (bi:kZ encS b6 b8 D vs rs o1) (am:St h g (aS [c]) ab [[(O,o1)],c1] a5),At (bP prog B 125 f125 R) [] 1 [(0,.func (.yield l) #[] #[]),(5,vP O)] a5:=by
  intro m;induction m with
  |zero=>intros;omega
  |succ m ch=>
   intro ab U vs rs c1 o1 a5 hm ad ae X a6 bi am
   replace a0:=a0.mono U
   replace a1:=a1.mono U
   replace G:=U _ _ G
   replace J:=U _ _ J
   refine At.rg 2<|Op.wV (x:=5) (dst:=6) (it:=O) (m:=D) (by kernel_rfl) (by kernel_rfl) (am.sub _ _ J) a3 bi am 0 rfl zt ⟨fun V=>?_,fun Y u ar Z a7 c4 V bj a8=>?_⟩
   ·exact Op.pg 2 [(7,vF)]<|At.cQ 7 7<|At.rt (.tuple #[])<|hR am.drop ⟨(vs.map (·.1)),vs.map (·.1),c1,rfl,by exact xk X V a4,by exact rB _,by exact fun _=>rfl,by exact ae,rfl,a6⟩
   refine Op.pg 2 [(7,vT)]<|At.bT 7 3<|At.rg 3<|Op.wW (x:=5) (dst:=8) (it:=O) (m:=D) (vs:=vs) (k:=u) (v:=ar) (by kernel_rfl) (by kernel_rfl) (a8.sub _ _ J) a3 bj (a8.ag 0 rfl)<|Op.pg 4 [(3,vS u)] ?_
   refine At.rp 4 2 [(10,.func (.yield l) #[] #[]),(11,vS u)] ?_
   have bk:=a8.fs [1] rfl
   refine Op.yield (dst:=some 12) (x:=10) (ops:=#[11]) (ts:=#[9]) (l:=l) (args:=#[vS u]) (Lc:=[c1]) (L:=[[(O,a7)]]) (by kernel_rfl) (by kernel_rfl) (by kernel_rfl) bk (a1 _ _ (vs.map (·.1)) u _ _ (by repeat (first|assumption|exact aM.refl _|apply aM.trans)) a0 (by exact ad) (by rfl) ⟨((vs++[(u,ar)])++(Y++Z)).map (·.1),by exact pT X V a4,by exact⟨(Y++Z).map (·.1),by simp⟩⟩ a6 (St.part (Lc:=[c1]) (L:=[[(O,a7)]]) bk)) (fun _ _ _=>trivial) ?_
   rintro _ c5 _ c6 bm bo ⟨bs,rfl,rfl,bt⟩
   replace G:=bm _ _ G
   replace J:=bm _ _ J
   refine Op.pg 5 [(13,.bool (!(go (vs.map (·.1)++[u]))))]<|At.cW (!(go (vs.map (·.1)++[u]))) 13 6 1 (fun a9=>?_) fun bb=>?_
   ·replace a9:=(dn a9)
    exact At.rt (.tuple #[])<|hR ((bo.fs [1] rfl).drop) ⟨((vs++[(u,ar)])++(Y++Z)).map (·.1),vs.map (·.1)++[u],bs,rfl,by exact pT X V a4,by exact⟨(Y++Z).map (·.1),by simp⟩,by exact fun h=>absurd h (iT.1 a9),by exact n6 ae ad,rfl,bt⟩
   replace bb:=(dr bb)
   exact At.ke (ch _ (aM.trans U (by repeat (first|assumption|apply aM.trans))) (vs++[(u,ar)]) (Y++Z) bs a7 _ (by have hz:=congrArg List.length V;simp only[b_,bJ] at hz ⊢;omega) (by simpa using bb) (by simpa using n6 (x:=u) ae ad) (by exact rM X V) (by simpa using bt) bj (bo.fs [1] rfl))
 exact At.ke (cf _ _ (aM.refl _) [] be c ca _ (bG _) (by exact b4) (by exact uY go) (by exact ga _) (by exact b5) cb ce)
theorem Ob (g0:GH) (bo ae:Nat) (t:List aa) (O:g0 bo=some (.cells #[vP ae] 91 (0,0))) (a1:iZ g0 ae t) (bc:Nat) (p:bp) (U:g0 bc=some (.cells #[.string (br p)] 9 (0,0))):jl prog g0 144 #[vP bo,vP bc] qG (fun ch=>ch.Perm (gJ t p)):=by
 intro B h g l I go c bd hg a3 be ci ck hs
 replace O:=bd _ _ O
 replace a1:=a1.mono bd
 replace U:=bd _ _ U
 refine aG.aq func144 fun R hR=>At.rg 5<|Op.l1 91 1 7 0 (vP ae) (hs.sub _ _ O)<|Op.px 2 [(9,vP ae)] ?_
 obtain⟨X,Y,bs⟩:=a1
 have a1:iZ g ae t:=⟨X,Y,bs⟩
 refine Op.l1 136 9 10 0 (.map (some X)) (hs.sub _ _ Y) ?_
 obtain⟨co,c3,bt,V,bi,da,bj,c4,db⟩:=jL.kD bs
 refine Op.s_ (d:=.string) (z:=.pointer none) (mt:=136) (x:=10) (dst:=11) (m:=X) (by kernel_rfl) (by kernel_rfl) (by kernel_rfl) (hs.sub _ _ V) bi hs fun Z c5 dc c6 c8=>Op.gt 1 ?_
 have c9:∀(m:Nat) (a4:GH) (G:aM g a4) (vs:List (bp×Value)) (rs:List (bp×Value)) (c1:az) (o1:Obj) (bk:ay) (hm:rs.length<m) (a5:go ((vs.map (·.1)).filter (iF p))=true) (ab:qH go ((vs.map (·.1)).filter (iF p))) (J:(vs++rs).Perm bt) (am:I ((vs.map (·.1)).filter (iF p)) a4 c1) (b3:kZ encS co c3 X vs rs o1) (a6:St h g (aS [c]) a4 [[(Z,o1)],c1] bk),At (bP prog B 144 f144 R) [] 1 [(0,.func (.yield l) #[] #[]),(2,vP bc),(11,vP Z)] bk:=by
  intro m;induction m with
  |zero=>intros;omega
  |succ m bm=>
   intro a4 G vs rs c1 o1 bk hm a5 ab J am b3 a6
   replace a3:=a3.mono G
   replace be:=be.mono G
   replace O:=G _ _ O
   replace U:=G _ _ U
   replace Y:=G _ _ Y
   replace V:=G _ _ V
   refine At.rg 2<|Op.wV (x:=11) (dst:=12) (it:=Z) (m:=X) (by kernel_rfl) (by kernel_rfl) (a6.sub _ _ V) bi b3 a6 0 rfl zt ⟨fun D=>?_,fun ar u ad aw a0 dd D a7 a8=>?_⟩
   ·exact Op.pg 2 [(13,vF)]<|At.cQ 13 8<|At.rt (.tuple #[])<|hR a6.drop ⟨((vs.map (·.1)).filter (iF p)),(vs.map (·.1)).filter (iF p),c1,rfl,by exact Cq (xk J D bj),by exact rB _,by exact fun _=>rfl,by exact ab,rfl,am⟩
   refine Op.pg 2 [(13,vT)]<|At.bT 13 3<|At.rg 3<|Op.wW (x:=11) (dst:=14) (it:=Z) (m:=X) (vs:=vs) (k:=u) (v:=ad) (by kernel_rfl) (by kernel_rfl) (a8.sub _ _ V) bi a7 (a8.ag 0 rfl)<|Op.pg 4 [(4,vS u)] ?_
   refine At.rp 7 1 [(17,vS u)]<|Op.c1 18 (xm _ _ _ a8.sub a3 u (by((try dsimp only)<;>((have:=NV c4 J D;omega))))) a8 fun df a9=>Op.pg 5 [(5,vS (parentOf u)),(6,vI (cj u))]<|At.rp 13 3 [(23,.bool ((cj u)==0))]<|Op.wd ((cj u)=0) 23 (fun dg=>?_) fun dj=>?_
   ·refine Op.px 1 [(24,vS (parentOf u))]<|Op.l1 9 2 25 0 (vS p) (a9.sub _ _ U)<|Op.vl 26 (.bool ((br (parentOf u)).toList==(br p).toList)) (.bool ((parentOf u)==p)) (by rw[toList_mkS,toList_mkS])<|Op.px 2 [(28,.bool ((parentOf u)==p))]<|Op.wb ((parentOf u)==p) 28 (fun b4=>?_) fun b5=>?_
    ·replace b4:=eq_of_beq b4
     refine Op.px 2 [(29,.func (.yield l) #[] #[]),(30,vS u)] ?_
     have b6:=a9.fs [1] rfl
     refine Op.yield (dst:=some 31) (x:=29) (ops:=#[30]) (ts:=#[9]) (l:=l) (args:=#[vS u]) (Lc:=[c1]) (L:=[[(Z,a0)]]) (by kernel_rfl) (by kernel_rfl) (by kernel_rfl) b6 (be _ _ ((vs.map (·.1)).filter (iF p)) u _ _ (by repeat (first|assumption|exact aM.refl _|apply aM.trans)) a3 (by exact a5) (by rfl) ⟨(((vs++[(u,ad)])++(ar++aw)).map (·.1)).filter (iF p),by exact Cq (pT J D bj),by exact GW ‹_› ‹_›⟩ am (St.part (Lc:=[c1]) (L:=[[(Z,a0)]]) b6)) (fun _ _ _=>trivial) ?_
     rintro _ dk _ dl bb b8 ⟨ca,rfl,rfl,cb⟩
     replace O:=bb _ _ O
     replace U:=bb _ _ U
     replace Y:=bb _ _ Y
     replace V:=bb _ _ V
     refine Op.pg 6 [(33,.bool (!(go ((vs.map (·.1)).filter (iF p)++[u]))))]<|At.cW (!(go ((vs.map (·.1)).filter (iF p)++[u]))) 33 7 1 (fun ce=>?_) fun cf=>?_
     ·replace ce:=(dn ce)
      exact At.rt (.tuple #[])<|hR ((b8.fs [1] rfl).drop) ⟨(((vs++[(u,ad)])++(ar++aw)).map (·.1)).filter (iF p),(vs.map (·.1)).filter (iF p)++[u],ca,rfl,by exact Cq (pT J D bj),by exact GW ‹_› ‹_›,by exact fun h=>absurd h (iT.1 ‹_›),by exact n6 ab a5,rfl,cb⟩
     replace cf:=(dr cf)
     exact At.ke (bm _ (aM.trans G (by repeat (first|assumption|apply aM.trans))) (vs++[(u,ad)]) (ar++aw) ca a0 _ (by have hz:=congrArg List.length D;simp only[b_,bJ] at hz ⊢;omega) (by(rw[zb ‹_› ‹_›];assumption)) (by(rw[zb ‹_› ‹_›];exact n6 ab a5)) (by exact rM J D) (by(rw[zb ‹_› ‹_›];exact cb)) a7 (b8.fs [1] rfl))
    replace b5:=pI b5
    exact Op.pg 6 [(33,vF)]<|At.cQ 33 1 (At.ke (bm _ G (vs++[(u,ad)]) (ar++aw) c1 a0 _ (by have hz:=congrArg List.length D;simp only[b_,bJ] at hz ⊢;omega) (by(rw[Cs ‹_›];assumption)) (by(rw[Cs ‹_›];exact ab)) (by exact rM J D) (by(rw[Cs ‹_›];exact am)) a7 a9))
   exact Op.pg 6 [(33,vF)]<|At.cQ 33 1 (At.ke (bm _ G (vs++[(u,ad)]) (ar++aw) c1 a0 _ (by have hz:=congrArg List.length D;simp only[b_,bJ] at hz ⊢;omega) (by(rw[Cr ‹_›];assumption)) (by(rw[Cr ‹_›];exact ab)) (by exact rM J D) (by(rw[Cr ‹_›];exact am)) a7 a9))
 exact At.ke (c9 _ _ (aM.refl _) [] bt c c5 _ (bG _) (by exact ci) (by exact uY go) (by exact ga _) (by exact ck) c6 c8)
theorem Oc (g0:GH) (Z:Nat) (a1:Value) (s:List aj) (u:g0 Z=some (.cells #[a1] 40 (0,0))) (G:an g0 9 cV a1 s) (hlen:s.length≤1000000000):jl prog g0 140 #[vP Z] Cp (fun bd=>bd=s.reverse):=by
 intro B h g l I go c a3 hg ab ad be bi hs
 obtain⟨a4,ae,rfl⟩:=G.ak
 replace u:=a3 _ _ u
 replace G:=G.mono a3
 refine aG.aq func140 fun R hR=>At.rg 4<|Op.l1 40 1 4 0 (vL a4 s.length ae) (hs.sub _ _ u)<|Op.px 1 [(5,vI (s.length:Int))]<|Op.vq 6 ((s.length:Int)-1) ?_
 refine Op.pg 1 [(3,vI ((s.length:Int)-1))] ?_
 have bj:∀(m:Nat) (V:GH) (J:aM g V) (i:Int) (c1:az) (am:ay) (hm:(i+1).toNat<m) (h0: -1≤i) (h1:i<s.length) (X:go (s.drop (i+1).toNat).reverse=true) (Y:qH go (s.drop (i+1).toNat).reverse) (ar:I ((s.drop (i+1).toNat).reverse) V c1) (O:St h g (aS [c]) V [c1] am),At (bP prog B 140 f140 R) [] 1 [(0,.func (.yield l) #[] #[]),(1,vP Z),(3,vI i)] am:=by
  intro m;induction m with
  |zero=>intros;omega
  |succ m bk=>
   intro V J i c1 am hm h0 h1 X Y ar O
   replace ab:=ab.mono J
   replace ad:=ad.mono J
   replace G:=G.mono J
   replace u:=J _ _ u
   refine At.go 2 2 [(8,.bool (decide (i≥0)))]<|At.fd (i≥0) 8 3 7 (fun bs=>?_) fun bt=>?_
   ·refine At.rp 8 2 [(11,.func (.yield l) #[] #[]),(12,vI i)]<|Op.l1 40 1 13 0 (vL a4 s.length ae) (O.sub _ _ u)<|Op.px 1 [(14,vI i)] ?_
    obtain⟨D,U⟩:=bW s i
    obtain⟨bm,a5,b3,b4,bo,aw,a0⟩:=an.bB G _ U
    cases bo
    refine Op.iq 40 9 1 16 s.length ae 13 14 15 bm a5 i ?_
    replace a0:cut _ _ _=[vS D]:=a0
    refine Op.l1 9 15 16 (a5+i.toNat*1) (vS D) (O.sub _ _ aw) ?_ (hv:=bN a0 0 rfl)
    refine Op.yield (dst:=some 17) (x:=11) (ops:=#[12,16]) (ts:=#[3,9]) (l:=l) (args:=#[vI i,vS D]) (Lc:=[c1]) (L:=[]) (by kernel_rfl) (by kernel_rfl) (by kernel_rfl) O (ad _ _ ((s.drop (i+1).toNat).reverse) D _ _ (by repeat (first|assumption|exact aM.refl _|apply aM.trans)) ab (by exact X) (by exact⟨_,rfl⟩) ⟨s.reverse,by rfl,by(rw[←xl (by omega) U];exact GX _ _)⟩ ar (St.part (Lc:=[c1]) (L:=[]) O)) (fun _ _ _=>trivial) ?_
    rintro _ b5 _ b6 a6 a7 ⟨a8,rfl,rfl,a9⟩
    replace aw:=a6 _ _ aw
    replace u:=a6 _ _ u
    refine Op.pg 4 [(18,.bool (!(go ((s.drop (i+1).toNat).reverse++[D]))))]<|At.cW (!(go ((s.drop (i+1).toNat).reverse++[D]))) 18 5 6 (fun bb=>?_) fun bc=>?_
    ·replace bb:=(dn bb)
     exact At.rt (.tuple #[])<|hR a7 ⟨s.reverse,(s.drop (i+1).toNat).reverse++[D],a8,rfl,by rfl,by(rw[←xl (by omega) U];exact GX _ _),by exact fun h=>absurd h (iT.1 ‹_›),by exact n6 Y X,rfl,a9⟩
    replace bc:=(dr bc)
    exact At.rp 3 1 [(9,vI i)]<|Op.vq 10 (i-1)<|Op.pg 1 [(3,vI (i-1))] (At.ke (bk _ (aM.trans J (by repeat (first|assumption|apply aM.trans))) (i-1) a8 _ (by omega) (by omega) (by omega) (by rw[xl (by omega) U];assumption) (by rw[xl (by omega) U];exact n6 Y X) (by rw[xl (by omega) U];exact a9) a7))
   exact At.rt (.tuple #[])<|hR O ⟨((s.drop (i+1).toNat).reverse),(s.drop (i+1).toNat).reverse,c1,rfl,by exact NW (by omega) (by omega),by exact rB _,by exact fun _=>rfl,by exact Y,rfl,ar⟩
 exact At.ke (bj _ _ (aM.refl _) ((s.length:Int)-1) c _ (bG _) (by omega) (by omega) (by rw[Ct];exact be) (by rw[Ct];exact uY go) (by rw[Ct];exact bi) hs)
theorem Od (B:World) (h:ay) (g:GH) (hg:bu g h) (ab:bz g) (u:Nat) (x:List aa) (G:jL g u x):
  aG prog B 98 #[.map (some u)] h g [] (fun V g' L'=>∃f0 I,V=.func (.func f0) #[] I∧eg prog f0∧jl prog g' f0 I qG (fun X=>X.Perm (x.map (·.af)))∧L'=[]):=by
 refine aG.aq func98 fun R hR=>At.rg 2<|Op.bx 1 136 0 #[.map (some u)] (St.init hg) fun D ad Y=>Op.pg 1 []<|At.go 2 2 [(2,.func (.func 125) #[] #[vP D])] ?_
 obtain⟨J,O⟩:=St.freeze (Y)
 have U:=iK (g:=g) D (.cells #[.map (some u)] 136 (0,0))
 generalize Z:cS g _=ae at J O U;clear Z
 replace G:=G.mono O
 exact At.rt (.func (.func 125) #[] #[vP D]) (hR J ⟨125,#[vP D],rfl,eg.of (by kernel_rfl),Oa _ D u x U G,rfl⟩)
theorem G2 (B:World) (h:ay) (g:GH) (hg:bu g h) (a1:bz g) (u:Nat) (t:List aa) (D:iZ g u t) (p:aj):
  aG prog B 110 #[vP u,vS p] h g [] (fun ad g' L'=>∃f0 U,ad=.func (.func f0) #[] U∧eg prog f0∧jl prog g' f0 U qG (fun ae=>ae.Perm (gJ t p))∧L'=[]):=by
 refine aG.aq func110 fun R hR=>At.rg 3<|Op.bx 2 91 0 #[vP u] (St.init hg) fun G a3 am=>Op.bx 3 9 1 #[vS p] am fun I a4 ar=>Op.pg 1 [] ?_
 refine At.go 2 2 [(4,.func (.func 144) #[] #[vP G,vP I])] ?_
 obtain⟨V,X⟩:=St.freeze (ar.fs [1] rfl)
 have J:=iK (g:=g) G (.cells #[vP u] 91 (0,0))
 generalize aw:cS g _=Y at V X J;clear aw
 replace D:=D.mono X
 obtain⟨Z,O⟩:=St.freeze (V)
 have ab:=iK (g:=Y) I (.cells #[vS p] 9 (0,0))
 generalize a0:cS Y _=a5 at Z O ab;clear a0
 replace D:=D.mono O
 replace J:=O _ _ J
 exact At.rt (.func (.func 144) #[] #[vP G,vP I]) (hR Z ⟨144,#[vP G,vP I],rfl,eg.of (by kernel_rfl),Ob _ G u t J D I p ab,rfl⟩)
theorem Oe (B:World) (h:ay) (g:GH) (hg:bu g h) (ae:bz g) (G:Value) (s:List aj) (D:an g 9 cV G s) (hlen:s.length≤1000000000):
  aG prog B 107 #[G] h g [] (fun Y g' L'=>∃f0 I,Y=.func (.func f0) #[] I∧eg prog f0∧jl prog g' f0 I Cp (fun Z=>Z=s.reverse)∧L'=[]):=by
 obtain⟨J,O,rfl⟩:=D.ak
 refine aG.aq func107 fun R hR=>At.rg 2<|Op.bx 1 40 0 #[vL J s.length O] (St.init hg) fun u am ab=>Op.pg 1 []<|At.go 2 2 [(2,.func (.func 140) #[] #[vP u])] ?_
 obtain⟨U,V⟩:=St.freeze (ab)
 have X:=iK (g:=g) u (.cells #[vL J s.length O] 40 (0,0))
 generalize ad:cS g _=ar at U V X;clear ad
 replace D:=D.mono V
 exact At.rt (.func (.func 140) #[] #[vP u]) (hR U ⟨140,#[vP u],rfl,eg.of (by kernel_rfl),Oc _ u _ s X D ‹_›,rfl⟩)
theorem Of (B:World) (h:ay) (g:GH) (hg:bu g h) (b6:bz g) (V:Nat) (X:Array Value) (q:List bp) (b8:eg prog V) (ca:jl prog g V X qG (fun am=>am.Perm q)) (hq:q.length≤1000000000):
  aG prog B 150 #[vN,.func (.func V) #[] X] h g [] (fun cb g' L'=>∃a9 v0 bb,cb=v0∧a9.Perm q∧aH 9 cV g' v0 a9 bb∧g'=g∧L'=[bb]):=by
 refine aG.aq func150 fun R hR=>At.rg 2<|Op.bx 2 40 0 #[vN] (St.init hg) fun D dv ce=>Op.pg 1 [(4,vN)]<|At.go 2 1 [(6,.func (.func V) #[] X)] ?_
 refine At.kp [(2,vP D),(4,vN),(6,.func (.func V) #[] X)] ?_
 have cf:=aH.zero 9 cV g none
 refine At.rangeFunc (x:=6) (f:=V) (cp:=X) (by kernel_rfl) rfl (by kernel_rfl) (by kernel_rfl) b8 ce.nl fun u G J bc ch ci=>?_
 have ck:St h g (aS []) g [[(G,.loop (cZ (dD 150 J (pt (cL f150) 2) u) none))],[(D,Obj.cells #[vL none (([]:List aj).length) 0] 40 (0,0))],[],[(u,.deferred (some []))]] bc:=(ci.fs [1,2,3,3] rfl)
 have a3:St h g (aS []) g [(([(G,.loop (cZ (dD 150 J (pt (cL f150) 2) u) none))]:az)++([(D,Obj.cells #[vL none (([]:List aj).length) 0] 40 (0,0))]:az)++([]:az):az),[(u,.deferred (some []))]] bc:=St.bw (L:=[[(G,.loop (cZ (dD 150 J (pt (cL f150) 2) u) none))],[(D,Obj.cells #[vL none (([]:List aj).length) 0] 40 (0,0))],[],[(u,.deferred (some []))]]) (by simp only[cm,List.flatten_nil,cJ,dL,dS,dm]) ck
 obtain⟨bd,ar⟩:∃I:List bp→GH→az→Prop,I=(fun xs g2 c2=>∃(out:List bp) (be:Option Addr) (bi:Nat) (bj:az),c2=(([(G,.loop (cZ (dD 150 J (pt (cL f150) 2) u) none))]:az)++([(D,Obj.cells #[.slice be out.length bi] 40 (0,0))]:az)++(bj:az):az)∧aH 9 cV g2 (.slice be out.length bi) out bj∧out=xs):=⟨_,rfl⟩
 have co:ry prog B G qG (fun am=>am.Perm q) (fun _=>true) bd g:=by
  intro a4 aw dC O dE dT d0 d1 d2 c3 c4 bk c5
  rw[ar] at bk
  obtain⟨U,a0,a1,a5,rfl,c6,bm⟩:=bk
  obtain rfl:=c3
  have hlen:U.length+1≤q.length:=by(obtain⟨am,h1,h2⟩:=c4;have h3:=h2.length_le;have h4:=h1.length_eq;rw[bm];simp only[b_,bJ,cF] at h3;omega)
  have bo:St a4 aw (aS [(([(G,.loop (cZ (dD 150 J (pt (cL f150) 2) u) none))]:az)++([(D,Obj.cells #[vL a0 U.length a1] 40 (0,0))]:az)++(a5:az):az)]) aw [[(G,.loop (cZ (dD 150 J (pt (cL f150) 2) u) none))],[(D,Obj.cells #[vL a0 U.length a1] 40 (0,0))],a5] a4:=St.bw (by simp only[cm,List.flatten_nil,cJ,dL,dS,dm]) c5
  refine ru.ri (n:=f150.ntmps) (e0:=[(2,vP D),(4,vN),(6,.func (.func V) #[] X)]) (e:=[(7,vS O),(2,vP D),(4,vN),(6,.func (.func V) #[] X)]) (bo.ag 0 rfl) ch (by kernel_rfl) (by kernel_rfl) (by kernel_rfl) (by kernel_rfl) fun d3 c8=>At.go 1 1 [(5,vS O)]<|At.beginRound rfl (by kernel_rfl) bo 0 rfl 2 (by kernel_rfl) fun d4 bs=>At.rg 5<|Op.l1 40 2 8 0 (vL a0 U.length a1) (bs.ag 1 rfl) ?_
  refine Op.px 1 [(9,vS O)]<|Op.ls 10 1 9 #[vS O] bs fun d5 d6 bt=>Op.ap 8 10 40 40 11 9 16 cV (ys:=[O]) c6 bt 3 (⟨_,_,rfl,rfl,Reads.nil⟩) (by(simp only[bJ,cF];omega)) (fun _ _ _=>trivial) (cT.lit (m:=1) (sz:=1) (bt.ag 0 rfl) (news:=[vS O]) rfl rfl (by simp[Value.oneCell']) _) fun d7 a6 d8 b3 c9 d9=>?_
  obtain⟨ad,ae,rfl⟩:=b3.ak
  refine Op.s1 40 2 11 0 (vL ad ((U++([O])).length) ae) 1 #[vL ad ((U++([O])).length) ae] ((c9).drop) zt fun ea da=>Op.gt 3<|At.wM (j:=none) (by kernel_rfl) da 0 rfl fun db dc=>?_
  have dd:St a4 aw (aS [(([(G,.loop (cZ (dD 150 J (pt (cL f150) 2) u) none))]:az)++([(D,Obj.cells #[vL a0 U.length a1] 40 (0,0))]:az)++(a5:az):az)]) aw [(([(G,.loop (cZ (dD 150 J (pt (cL f150) 2) u) none))]:az)++([(D,Obj.cells #[vL ad ((U++([O])).length) ae] 40 (0,0))]:az)++(a6:az):az)] db:=St.bw (L:=[[(G,.loop (cZ (dD 150 J (pt (cL f150) 2) u) none))],[(D,Obj.cells #[vL ad ((U++([O])).length) ae] 40 (0,0))],a6]) (by simp only[cm,List.flatten_nil,cJ,dL,dS,dm]) dc
  refine c8 _ _ _ _ dd ⟨_,by rfl,rfl,?_⟩
  rw[ar];exact⟨(U++([O])),ad,ae,a6,rfl,b3,(by rw[bm])⟩
 refine sW.call (Lc:=[(([(G,.loop (cZ (dD 150 J (pt (cL f150) 2) u) none))]:az)++([(D,Obj.cells #[vL none (([]:List aj).length) 0] 40 (0,0))]:az)++([]:az):az)]) (L:=[[(u,.deferred (some []))]]) a3 (ca B _ _ _ bd (fun _=>true) _ (aM.refl _) a3.sub b6 co rfl (by rw[ar];exact⟨([]:List aj),none,0,[],rfl,cf,(by rfl)⟩) (St.part (Lc:=[(([(G,.loop (cZ (dD 150 J (pt (cL f150) 2) u) none))]:az)++([(D,Obj.cells #[vL none (([]:List aj).length) 0] 40 (0,0))]:az)++([]:az):az)]) (L:=[[(u,.deferred (some []))]]) a3)) ?_
 rintro _ df _ dg eb dj ⟨ed,ee,ef,rfl,eh,ej,dk,em,rfl,b4⟩
 have hx:=dk rfl;subst hx
 rw[ar] at b4
 obtain⟨Y,Z,ab,a7,rfl,a8,dl⟩:=b4
 have dp:St h g (aS []) df [[(G,.loop (cZ (dD 150 J (pt (cL f150) 2) u) none))],[(D,Obj.cells #[vL Z Y.length ab] 40 (0,0))],a7,[(u,.deferred (some []))]] dg:=St.bw (by simp only[cm,List.flatten_nil,cJ,dL,dS,dm]) dj
 refine ia.wN (j:=none) dp 0 rfl fun en dq=>?_
 have b5:=dq.drop
 refine ia.bB 3 (by kernel_rfl)<|At.rg 2<|Op.l1 40 2 12 0 (vL Z Y.length ab) (b5.ag 0 rfl)<|Op.pg 4 [(4,vL Z Y.length ab)]<|At.yB (ia.BF (L:=[[(D,Obj.cells #[vL Z Y.length ab] 40 (0,0))],a7]) (f:=f150) (v:=vL Z Y.length ab) [u] (by kernel_rfl) (by kernel_rfl) (b5.fs [1,1,2] rfl) ?_)
 intro ep du
 replace a8:=a8.bw (fun _ _ _ _ h=>h) (g':=g)
 exact hR du.drop.iM ⟨Y,(vL Z Y.length ab),a7,rfl,(by rw[dl];assumption),a8,rfl,rfl⟩
theorem Og (B:World) (h:ay) (g:GH) (hg:bu g h) (Y:bz g) (u:Nat) (D:Array Value) (q:List bp) (Z:eg prog u) (ab:jl prog g u D qG (fun ad=>ad.Perm q)) (hq:q.length≤1000000000):
  aG prog B 123 #[.func (.func u) #[] D] h g [] (fun ae g' L'=>∃I v0 J,ae=v0∧I.Perm q∧aH 9 cV g' v0 I J∧g'=g∧L'=[J]):=by
 refine aG.aq func123 fun R hR=>?_
 have O:=St.init hg
 refine At.go 1 1 []<|At.rp 3 1 [(3,.func (.func u) #[] D)]<|Op.c0 (some 4) (Of _ _ _ O.sub Y u D q Z ab (by(try dsimp only)<;>assumption)) O ?_
 rintro _ am _ a1 ar aw ⟨G,a3,a0,rfl,a4,U,a5,rfl⟩;subst am;clear ar
 obtain⟨V,X,rfl⟩:=U.ak
 exact Op.pr 2 2 (vL V G.length X) (hR aw ⟨G,(vL V G.length X),a0,rfl,‹_›,U,rfl,rfl⟩)
theorem G3 (B:World) (h:ay) (g:GH) (hg:bu g h) (ab:bz g) (D:Nat) (J:Array Value) (q:List bp) (ad:eg prog D) (ae:jl prog g D J qG (fun am=>am.Perm q)) (hq:q.length≤1000000000):
  aG prog B 97 #[.func (.func D) #[] J] h g [] (fun ar g' L'=>∃v0 U,ar=v0∧aH 9 cV g' v0 (iE q) U∧g'=g∧L'=[U]):=by
 refine aG.aq func97 fun R hR=>?_
 have V:=St.init hg
 refine At.go 1 1 []<|At.rp 3 1 [(4,.func (.func D) #[] J)]<|Op.c0 (some 5) (Og _ _ _ V.sub ab D J q ad ae (by(try dsimp only)<;>assumption)) V ?_
 rintro _ aw _ a7 a0 O ⟨u,a8,X,rfl,Y,Z,a9,rfl⟩;subst aw;clear a0
 obtain⟨G,I,rfl⟩:=Z.ak
 refine Op.pg 2 [(3,vL G u.length I)]<|At.rp 2 1 [(6,vL G u.length I)]<|Op.call (dst:=some 7) (f:=124) (args:=#[vL G u.length I]) (Lc:=[X]) (L:=[]) (by kernel_rfl) O (NS _ _ _ O.sub _ u _ Z (by(have:=yI Y;omega)) (St.part (Lc:=[X]) (L:=[]) O)) (fun _ _ _=>trivial) ?_
 rintro _ a1 _ bb a3 a4 ⟨rfl,bc,a5,a6,rfl⟩;subst a1;clear a3
 exact Op.gt 3<|At.gr 4 2 2 (vL G u.length I) (hR a4 ⟨(vL G u.length I),a5,rfl,dP a6 (by exact GS Y),rfl,rfl⟩)
theorem G4 (B:World) (h:ay) (g:GH) (hg:bu g h) (D:bz g) (G:Nat) (t:List aa) (u:iZ g G t) (hn:t.length≤1000000000):
  aG prog B 75 #[vP G] h g [] (fun ae g' L'=>∃v0 Z,ae=v0∧aH 9 cV g' v0 (t.map (·.af)) Z∧g'=g∧L'=[Z]):=by
 refine aG.aq func75 fun R hR=>?_
 have O:=St.init hg
 refine At.go 1 1 []<|At.rp 7 3 [(5,vP G)] ?_
 obtain⟨U,I,ab⟩:=u
 have u:iZ g G t:=⟨U,I,ab⟩
 refine Op.l1 136 5 6 0 (.map (some U)) (O.sub _ _ I)<|Op.c0 (some 7) (Od _ _ _ O.sub D U t ab) O ?_
 rintro _ a5 _ a6 V ad ⟨f25,am,rfl,ar,aw,rfl⟩
 replace D:=D.mono V
 replace u:=u.mono V
 replace I:=V _ _ I
 refine Op.c0 (some 8) (G3 _ _ _ ad.sub D f25 am (t.map (·.af)) ar aw (by((try dsimp only)<;>((simp only[ew];assumption))))) ad ?_
 rintro _ a0 _ a7 a1 a3 ⟨a8,a4,rfl,J,a9,rfl⟩;subst a0;clear a1
 obtain⟨X,Y,rfl⟩:=J.ak
 refine Op.pg 2 [(2,vL X ((iE (t.map (·.af))).length) Y)]<|At.rt (vL X ((iE (t.map (·.af))).length) Y) ?_
 replace J:=J.bw (fun _ _ _ _ h=>h) (g':=g)
 exact hR a3.iM ⟨(vL X ((iE (t.map (·.af))).length) Y),a4,rfl,dP J (by exact GU (GY u.sort)),rfl,rfl⟩
theorem Cu (B:World) (h:ay) (g:GH) (hg:bu g h) (ar:bz g) (D:Nat) (t:List aa) (U:iZ g D t) (p:aj) (hp:p.length≤1000000000):
  aG prog B 143 #[vP D,vS p] h g [] (fun V g' L'=>g'=g∧L'=[]∧((V=.tuple #[.pointer none,.int .i64 (dR t p)]∧(dR t p)≠0)∨∃b l v mb,V=.tuple #[vP b,.int .i64 0]∧(dR t p)=0∧bU t p=some l∧g D=some (.cells #[.map (some mb)] TT (0,0))∧g b=some (.cells (pS l v) TL (0,0))∧an g 5 a_ v l.Data∧xj g mb l b)):=by
 refine aG.aq func143 fun R hR=>?_
 have X:=St.init hg
 refine At.go 1 2 []<|At.rp 3 1 [(9,vS p)]<|Op.c1 10 (zd _ _ _ X.sub ar p (by(try dsimp only)<;>omega)) X fun a6 u=>Op.pg 2 [(6,vI (cR p))]<|At.go 3 2 [(12,.bool ((cR p) != 0))] ?_
 refine At.fn ((cR p)=0) 12 4 6 (fun a7=>?_) fun a8=>?_
 ·refine At.go 5 3 [(4,.pointer none),(5,vI (cR p))]<|At.rt (.tuple #[.pointer none,vI (cR p)]) ?_
  have Y:(dR t p)=(cR p):=by first|exact Ca ‹_›|exact Cb ‹_› ‹_›|exact Cc ‹_› ‹_›
  exact hR u ⟨rfl,rfl,.inl ⟨by rw[Y],by rw[Y];first|assumption|decide|omega⟩⟩
 refine At.rp 11 3 [(17,vP D)] ?_
 obtain⟨G,J,Z⟩:=U
 have U:iZ g D t:=⟨G,J,Z⟩
 refine Op.l1 136 17 18 0 (.map (some G)) (u.sub _ _ J)<|Op.px 1 [(19,vS p)] ?_
 obtain⟨a9,bb,bc,ab,ad,bd,be,bi,aw⟩:=jL.kD Z
 rcases aw p with ⟨a0,O⟩|⟨I,a1,bj,a0,O,a3,ae,a4⟩
 ·refine Op.rF (ok:=true) (d:=.string) (mt:=136) (x:=18) (ix:=19) (dst:=20) (k:=p) (m:=G) (z:=.pointer none) (by kernel_rfl) (by kernel_rfl) kz (by kernel_rfl) (by kernel_rfl) (u.sub _ _ ab) ad O<|Op.pg 7 [(7,.pointer none),(8,vF)]<|At.go 8 2 [(24,vT)]<|At.bT 24 9<|At.go 10 2 [(4,.pointer none),(5,vI 100)] ?_
  refine At.rt (.tuple #[.pointer none,vI 100]) ?_
  have am:(dR t p)=100:=by first|exact Ca ‹_›|exact Cb ‹_› ‹_›|exact Cc ‹_› ‹_›
  exact hR u ⟨rfl,rfl,.inl ⟨by rw[am],by rw[am];first|assumption|decide|omega⟩⟩
 obtain⟨bk,bm,rfl⟩:=ae.ak
 refine Op.pP (ok:=true) (d:=.string) (mt:=136) (x:=18) (ix:=19) (dst:=20) (k:=p) (m:=G) (v:=vP I) (z:=.pointer none) (by kernel_rfl) (by kernel_rfl) kz (by kernel_rfl) (by kernel_rfl) (u.sub _ _ ab) ad O<|Op.pg 7 [(7,vP I),(8,vT)]<|At.go 8 2 [(24,vF)]<|At.cQ 24 11<|At.go 12 3 [(4,vP I),(5,vI 0)] ?_
 refine At.rt (.tuple #[vP I,vI 0]) ?_
 have a5:(dR t p)=0:=by first|exact Ca ‹_›|exact Cb ‹_› ‹_›|exact Cc ‹_› ‹_›
 exact hR u ⟨rfl,rfl,.inr ⟨I,a1,_,G,rfl,a5,by assumption,J,a3,ae,a4⟩⟩
theorem G5 (B:World) (h:ay) (g:GH) (hg:bu g h) (ar:bz g) (D:Nat) (t:List aa) (aw:iZ g D t) (p:aj) (bK:Int) (hp:p.length≤1000000000):
  aG prog B 109 #[vP D,vS p,vI bK] h g [] (fun U g' L'=>g'=g∧L'=[]∧((U=.tuple #[.pointer none,.int .i64 (eV t p bK)]∧(eV t p bK)≠0)∨∃b l v mb,U=.tuple #[vP b,.int .i64 0]∧(eV t p bK)=0∧bU t p=some l∧g D=some (.cells #[.map (some mb)] TT (0,0))∧g b=some (.cells (pS l v) TL (0,0))∧an g 5 a_ v l.Data∧xj g mb l b)):=by
 refine aG.aq func109 fun R hR=>?_
 have V:=St.init hg
 refine At.go 1 2 []<|At.rp 8 2 [(11,vP D),(12,vS p)]<|Op.c0 (some 13) (Cu _ _ _ V.sub ar D t aw p (by(try dsimp only)<;>omega)) V ?_
 rintro a7 a0 _ a8 a1 G ⟨a9,rfl,a3⟩;subst a0;clear a1
 rcases a3 with ⟨rfl,X⟩|⟨u,I,bb,Y,rfl,bc,bd,Z,J,O,ab⟩
 ·have be:((dR t p) != 0)=true:=uI.2 X
  have a4:((dR t p)==0)=false:=qD.2 X
  refine Op.pg 2 [(8,.pointer none),(9,vI (dR t p))]<|At.rp 14 3 [(18,.bool ((dR t p)==0))]<|Op.wb ((dR t p)==0) 18 (fun hb=>?_) fun ad=>?_
  ·exact Bool.noConfusion (hb.symm.trans a4)
  replace ad:=pI ad
  refine Op.pg 3 [(29,vF)]<|At.cQ 29 6<|At.go 7 4 [(6,.pointer none),(7,vI (dR t p))]<|At.rt (.tuple #[.pointer none,vI (dR t p)]) ?_
  have ae:(eV t p bK)=(dR t p):=by first|exact yV ‹_›|exact yW ‹_› ‹_› ‹_› ‹_›|exact yX ‹_› ‹_› ‹_›|exact yY ‹_› ‹_› ‹_›
  exact hR G ⟨rfl,rfl,.inl ⟨by rw[ae],by rw[ae];first|assumption|decide|omega⟩⟩
 obtain⟨bi,bj,rfl⟩:=O.ak
 refine Op.pg 2 [(8,vP u),(9,vI 0)]<|At.rp 14 7 [(22,.bool (decide (bK≥0)))]<|Op.wd (bK≥0) 22 (fun bk=>?_) fun bm=>?_
 ·refine Op.px 3 [(25,vQ u 2)]<|Op.l1 3 25 26 2 (vI I.ai) (G.sub _ _ J)<|Op.pg 3 [(29,.bool (I.ai != bK))]<|At.fn (I.ai=bK) 29 4 6 (fun bo=>?_) fun bs=>?_
  ·refine At.go 5 2 [(6,.pointer none),(7,vI 102)]<|At.rt (.tuple #[.pointer none,vI 102]) ?_
   have am:(eV t p bK)=102:=by first|exact yV ‹_›|exact yW ‹_› ‹_› ‹_› ‹_›|exact yX ‹_› ‹_› ‹_›|exact yY ‹_› ‹_› ‹_›
   exact hR G ⟨rfl,rfl,.inl ⟨by rw[am],by rw[am];first|assumption|decide|omega⟩⟩
  refine At.go 7 4 [(6,vP u),(7,vI 0)]<|At.rt (.tuple #[vP u,vI 0]) ?_
  have a5:(eV t p bK)=0:=by first|exact yV ‹_›|exact yW ‹_› ‹_› ‹_› ‹_›|exact yX ‹_› ‹_› ‹_›|exact yY ‹_› ‹_› ‹_›
  exact hR G ⟨rfl,rfl,.inr ⟨u,I,_,Y,rfl,a5,by assumption,Z,J,O,ab⟩⟩
 refine Op.pg 3 [(29,vF)]<|At.cQ 29 6<|At.go 7 4 [(6,vP u),(7,vI 0)]<|At.rt (.tuple #[vP u,vI 0]) ?_
 have a6:(eV t p bK)=0:=by first|exact yV ‹_›|exact yW ‹_› ‹_› ‹_› ‹_›|exact yX ‹_› ‹_› ‹_›|exact yY ‹_› ‹_› ‹_›
 exact hR G ⟨rfl,rfl,.inr ⟨u,I,_,Y,rfl,a6,by assumption,Z,J,O,ab⟩⟩
theorem Oh (B:World) (h:ay) (g:GH) (hg:bu g h) (a4:bz g) (G:Nat) (t:List aa) (V:iZ g G t) (p:aj) (X:Value) (data:aj) (a5:an g 5 a_ X data) (hp:p.length≤1000000000):
  aG prog B 146 #[vP G,vS p,X] h g [] (fun Y g' L'=>g'=g∧L'=[]∧((Y=.tuple #[.pointer none,.int .i64 (fQ t p data)]∧(fQ t p data)≠0)∨∃b l v mb,Y=.tuple #[vP b,.int .i64 0]∧(fQ t p data)=0∧bU t (parentOf p)=some l∧g G=some (.cells #[.map (some mb)] TT (0,0))∧g b=some (.cells (pS l v) TL (0,0))∧an g 5 a_ v l.Data∧xj g mb l b)):=by
 obtain⟨bb,bc,rfl⟩:=a5.ak
 refine aG.aq func146 fun R hR=>?_
 have Z:=St.init hg
 refine At.go 1 2 []<|At.rp 7 1 [(13,vS p)]<|Op.c1 14 (xm _ _ _ Z.sub a4 p (by(try dsimp only)<;>omega)) Z fun bd u=>Op.pg 2 [(8,vS (parentOf p)),(9,vI (cj p))]<|At.go 3 3 [(17,.bool ((cj p) != 0))] ?_
 refine At.fn ((cj p)=0) 17 4 6 (fun be=>?_) fun bi=>?_
 ·refine At.go 5 3 [(6,.pointer none),(7,vI (cj p))]<|At.rt (.tuple #[.pointer none,vI (cj p)]) ?_
  have ab:(fQ t p data)=(cj p):=by first|exact w_ ‹_›|exact xb ‹_› ‹_›|exact xd ‹_› ‹_› ‹_›|exact xe ‹_› ‹_› ‹_› ‹_›|exact xg ‹_› ‹_› ‹_› ‹_›
  exact hR u ⟨rfl,rfl,.inl ⟨by rw[ab],by rw[ab];first|assumption|decide|omega⟩⟩
 refine At.go 7 4 [(21,.bool (decide ((data.length:Int)>128)))]<|At.fd ((data.length:Int)>128) 21 8 10 (fun bj=>?_) fun bk=>?_
 ·refine At.go 5 2 [(6,.pointer none),(7,vI 104)]<|At.rt (.tuple #[.pointer none,vI 104]) ?_
  have ad:(fQ t p data)=104:=by first|exact w_ ‹_›|exact xb ‹_› ‹_›|exact xd ‹_› ‹_› ‹_›|exact xe ‹_› ‹_› ‹_› ‹_›|exact xg ‹_› ‹_› ‹_› ‹_›
  exact hR u ⟨rfl,rfl,.inl ⟨by rw[ad],by rw[ad];first|assumption|decide|omega⟩⟩
 refine At.rp 11 3 [(28,vP G)] ?_
 obtain⟨I,O,ae⟩:=V
 have V:iZ g G t:=⟨I,O,ae⟩
 refine Op.l1 136 28 29 0 (.map (some I)) (u.sub _ _ O)<|Op.px 1 [(30,vS (parentOf p))] ?_
 obtain⟨bm,bo,bs,am,ar,bt,b3,b4,a6⟩:=jL.kD ae
 rcases a6 (parentOf p) with ⟨a7,U⟩|⟨D,J,b5,a7,U,aw,a0,a8⟩
 ·refine Op.rF (ok:=true) (d:=.string) (mt:=136) (x:=29) (ix:=30) (dst:=31) (k:=(parentOf p)) (m:=I) (z:=.pointer none) (by kernel_rfl) (by kernel_rfl) kz (by kernel_rfl) (by kernel_rfl) (u.sub _ _ am) ar U<|Op.pg 11 [(10,.pointer none),(11,vF)]<|At.go 12 3 [(34,vT)]<|At.bT 34 13<|At.go 14 2 [(6,.pointer none),(7,vI 100)] ?_
  refine At.rt (.tuple #[.pointer none,vI 100]) ?_
  have a1:(fQ t p data)=100:=by first|exact w_ ‹_›|exact xb ‹_› ‹_›|exact xd ‹_› ‹_› ‹_›|exact xe ‹_› ‹_› ‹_› ‹_›|exact xg ‹_› ‹_› ‹_› ‹_›
  exact hR u ⟨rfl,rfl,.inl ⟨by rw[a1],by rw[a1];first|assumption|decide|omega⟩⟩
 obtain⟨a51,b6,rfl⟩:=a0.ak
 refine Op.pP (ok:=true) (d:=.string) (mt:=136) (x:=29) (ix:=30) (dst:=31) (k:=(parentOf p)) (m:=I) (v:=vP D) (z:=.pointer none) (by kernel_rfl) (by kernel_rfl) kz (by kernel_rfl) (by kernel_rfl) (u.sub _ _ am) ar U<|Op.pg 11 [(10,vP D),(11,vT)]<|At.go 12 3 [(34,vF)]<|At.cQ 34 15<|At.rp 6 3 [(40,vQ D 3)] ?_
 refine Op.l1 3 40 41 3 (vI J.aC) (u.sub _ _ aw)<|Op.pg 16 [(37,.bool (J.aC != ((-1):Int)))]<|At.fn (J.aC=((-1):Int)) 37 17 19 (fun b8=>?_) fun ca=>?_
 ·refine At.go 14 2 [(6,.pointer none),(7,vI 105)]<|At.rt (.tuple #[.pointer none,vI 105]) ?_
  have a3:(fQ t p data)=105:=by first|exact w_ ‹_›|exact xb ‹_› ‹_›|exact xd ‹_› ‹_› ‹_›|exact xe ‹_› ‹_› ‹_› ‹_›|exact xg ‹_› ‹_› ‹_› ‹_›
  exact hR u ⟨rfl,rfl,.inl ⟨by rw[a3],by rw[a3];first|assumption|decide|omega⟩⟩
 refine At.go 20 3 [(6,vP D),(7,vI 0)]<|At.rt (.tuple #[vP D,vI 0]) ?_
 have a9:(fQ t p data)=0:=by first|exact w_ ‹_›|exact xb ‹_› ‹_›|exact xd ‹_› ‹_› ‹_›|exact xe ‹_› ‹_› ‹_› ‹_›|exact xg ‹_› ‹_› ‹_› ‹_›
 exact hR u ⟨rfl,rfl,.inr ⟨D,J,_,I,rfl,a9,by assumption,O,aw,a0,a8⟩⟩
theorem ny (B:World) (h:ay) (g:GH) (hg:bu g h) (a1:bz g) (D:Value) (s:aj) (u:an g 5 a_ D s) (hl:s.length≤1000000000):
  aG prog B 59 #[D] h g [] (fun ab g' L'=>∃v0 G,ab=v0∧aH 5 a_ g' v0 s G∧g'=g∧L'=[G]):=by
 obtain⟨I,J,rfl⟩:=u.ak
 refine aG.aq func59 fun R hR=>?_
 have O:=St.init hg
 refine At.go 1 1 []<|At.rp 2 1 [(3,vL I s.length J)] ?_
 rcases I with _|a20
 ·refine Op.vl 4 vT vT rfl<|Op.gt 2<|At.bT 4 3<|At.go 4 1 [(2,vN)] ?_
  have ad:=aH.zero 5 a_ g none
  exact At.rt vN (hR O.nl ⟨vN,[],rfl,dP ad (by exact(an.Fq u).symm),rfl,rfl⟩)
 refine Op.vl 4 vF vF rfl<|Op.gt 2<|At.cQ 4 5<|At.rg 4<|Op.ls 5 0 5 #[] O fun U a3 V=>?_
 refine Op.px 1 [(6,vL (some a20) s.length J)] ?_
 have ae:aH 5 a_ g (vL (some ⟨U,0,none⟩) 0 0) ([]:aj) [(U,Obj.cells #[] 5 (0,0))]:=aH.lit (by kernel_rfl) (by unfold maxLen;decide) (by kernel_rfl) Reads.nil
 obtain⟨a4,am,ar⟩:=cT.slice (P:=prog) (u.toH V.sub)
 refine Op.ap 5 6 22 22 7 5 1 a_ (ys:=s) ae V 0 ar (by(simp only[cF];omega)) (fun _ _ _=>trivial) am fun a5 aw a6 X a0 a7=>?_
 obtain⟨Y,Z,rfl⟩:=X.ak
 exact Op.pr 6 2 (vL Y ((([]:aj)++s).length) Z) (hR a0 ⟨(vL Y ((([]:aj)++s).length) Z),aw,rfl,dP X (by(simp;done)),rfl,rfl⟩)
theorem Cv (B:World) (h:ay) (g:GH) (hg:bu g h) (am:bz g) (l:aa) (U:Value) (V:an g 5 a_ U l.Data) (G:Nat) (X:g G=some (.cells #[vS l.af,U,vI l.ai,vI l.aC,vI l.Next,vI l.aF] 39 (0,0))) (hl:l.Data.length≤1000000000):
  aG prog B 76 #[vP G] h g [] (fun ar g' L'=>∃v0 Y,ar=.agg #[.string (br l.af),v0,.int .i64 l.ai,.int .i64 l.aC,.int .i64 l.Next,.int .i64 l.aF]∧aH 5 a_ g' v0 l.Data Y∧g'=g∧L'=[Y]):=by
 obtain⟨I,J,rfl⟩:=V.ak
 refine aG.aq func76 fun R hR=>At.rg 1<|Op.al 2 39 #[vS [],vN,vI 0,vI 0,vI 0,vI 0] (St.init hg) fun a6 a7 Z=>Op.gt 1<|At.rp 5 2 [(5,vP G)] ?_
 refine Op.la 39 5 6 0 6 [vS l.af,vL I l.Data.length J,vI l.ai,vI l.aC,vI l.Next,vI l.aF] (Z.sub _ _ X)<|Op.al 3 39 #[vS [],vN,vI 0,vI 0,vI 0,vI 0] Z fun aw a8 a0=>Op.sg 39 3 6 0 0 #[vS l.af,vL I l.Data.length J,vI l.ai,vI l.aC,vI l.Next,vI l.aF] a0 zt fun a9 O=>Op.gt 2<|At.rp 7 3 [(9,vQ G 1)] ?_
 refine Op.l1 22 9 10 1 (vL I l.Data.length J) (O.sub _ _ X)<|Op.c0 (some 11) (ny _ _ _ O.sub am _ _ V (by(try dsimp only)<;>omega)) O ?_
 rintro _ a1 _ bb a3 a4 ⟨bc,a5,rfl,ab,bd,rfl⟩;subst a1;clear a3
 obtain⟨u,D,rfl⟩:=ab.ak
 refine Op.px 1 [(12,vQ aw 1)]<|Op.s1 22 12 11 1 (vL u (l.Data.length) D) 1 #[vS l.af,vL u (l.Data.length) D,vI l.ai,vI l.aC,vI l.Next,vI l.aF] a4 zt fun be ad=>Op.gt 3<|At.rg 2<|Op.la 39 3 13 0 6 [vS l.af,vL u (l.Data.length) D,vI l.ai,vI l.aC,vI l.Next,vI l.aF] (ad.ag 1 rfl) ?_
 exact Op.sg 39 2 13 0 2 #[vS l.af,vL u (l.Data.length) D,vI l.ai,vI l.aC,vI l.Next,vI l.aF] ad zt fun bi ae=>Op.gt 4<|At.rn f76 [.agg #[vS l.af,vL u (l.Data.length) D,vI l.ai,vI l.aC,vI l.Next,vI l.aF]] [.cell 2 39] ⟨⟨_,_,rfl,cq (n:=6) (by kernel_rfl) (ae.ag 2 rfl) (by kernel_rfl) rfl⟩,trivial⟩<|hR (ae.fs [2,2] rfl).drop.drop ⟨(vL u (l.Data.length) D),a5,(by rfl),dP ab (by rfl),rfl,rfl⟩
theorem G6 (B:World) (h:ay) (g:GH) (hg:bu g h) (U:bz g) (D:Nat) (t:List aa) (ar:iZ g D t) (p:aj) (hB:fB t) (hp:p.length≤1000000000):
  aG prog B 121 #[vP D,vS p] h g [] (fun aw g' L'=>∃v0 V,aw=.tuple #[.agg #[.string (br (((bV t p).1).af)),v0,.int .i64 (((bV t p).1).ai),.int .i64 (((bV t p).1).aC),.int .i64 (((bV t p).1).Next),.int .i64 (((bV t p).1).aF)],.int .i64 ((bV t p).2)]∧aH 5 a_ g' v0 (((bV t p).1).Data) V∧g'=g∧L'=[V]):=by
 refine aG.aq func121 fun R hR=>At.rg 2<|Op.al 4 39 #[vS [],vN,vI 0,vI 0,vI 0,vI 0] (St.init hg) fun be bi X=>Op.pg 1 []<|At.rp 8 2 [(9,vP D),(10,vS p)] ?_
 refine Op.c0 (some 11) (Cu _ _ _ X.sub U D t ar p (by(try dsimp only)<;>omega)) X ?_
 rintro bj a0 _ bk a1 G ⟨a3,rfl,a4⟩;subst a0;clear a1
 rcases a4 with ⟨rfl,Y⟩|⟨I,u,bm,bo,rfl,bs,bt,b3,a5,Z,b4⟩
 ·have a6:((dR t p) != 0)=true:=uI.2 Y
  have b5:((dR t p)==0)=false:=qD.2 Y
  refine Op.pg 2 [(6,.pointer none),(7,vI (dR t p))]<|At.go 3 2 [(15,.bool ((dR t p) != 0))]<|At.cW ((dR t p) != 0) 15 4 6 (fun ab=>?_) fun hb=>?_
  ·replace ab:=fY ab
   refine At.rp 4 2 [(16,.agg #[vS [],vN,vI 0,vI 0,vI 0,vI 0]),(17,vI (dR t p))]<|Op.sg 39 4 16 0 0 #[vS [],vN,vI 0,vI 0,vI 0,vI 0] G zt fun b6 a7=>Op.pg 5 [(5,vI (dR t p))] ?_
   have a8:=aH.zero 5 a_ g none
   have ad:=a7.nl
   exact At.rn f121 [.agg #[vS [],vN,vI 0,vI 0,vI 0,vI 0],vI (dR t p)] [.cell 4 39,.tmp 5] ⟨⟨_,_,rfl,cq (n:=6) (by kernel_rfl) (ad.ag 1 rfl) (by kernel_rfl) rfl⟩,rfl,trivial⟩<|hR (ad.fs [1] rfl).drop ⟨vN,[],bA (by(rw[Ce ‹_›];rfl)) (bg (by(rw[Ce ‹_›];done))),dP a8 (by(rw[Ce ‹_›];rfl)),rfl,rfl⟩
  exact Bool.noConfusion (a6.symm.trans hb)
 obtain⟨b8,ca,rfl⟩:=Z.ak
 refine Op.pg 2 [(6,vP I),(7,vI 0)]<|At.go 3 2 [(15,vF)]<|At.cQ 15 6<|At.rp 4 1 [(18,vP I)]<|Op.c0 (some 19) (Cv _ _ _ G.sub U u _ Z I a5 (by((try dsimp only)<;>((have:=fB.data hB ‹_›;omega))))) G ?_
 rintro _ a9 _ cb bb bc ⟨ce,bd,rfl,ae,a3,rfl⟩;subst a9;clear bb
 obtain⟨J,O,rfl⟩:=ae.ak
 exact Op.sg 39 4 19 0 1 #[vS u.af,vL J (u.Data.length) O,vI u.ai,vI u.aC,vI u.Next,vI u.aF] bc zt fun cf am=>Op.pg 7 [(5,vI 0)]<|At.rn f121 [.agg #[vS u.af,vL J (u.Data.length) O,vI u.ai,vI u.aC,vI u.Next,vI u.aF],vI 0] [.cell 4 39,.tmp 5] ⟨⟨_,_,rfl,cq (n:=6) (by kernel_rfl) (am.ag 1 rfl) (by kernel_rfl) rfl⟩,rfl,trivial⟩<|hR (am.fs [1] rfl).drop ⟨(vL J (u.Data.length) O),bd,bA (by(rw[Cf ‹_› ‹_›];done)) (bg (by(rw[Cf ‹_› ‹_›];done))),dP ae (by(rw[Cf ‹_› ‹_›];done)),rfl,rfl⟩
theorem Oi (B:World) (h:ay) (g:GH) (hg:bu g h) (D:bz g) (u:Nat) (t:List aa) (G:iZ g u t) (p:aj) (hB:fB t) (hp:p.length≤1000000000):
  aG prog B 120 #[vP u,vS p] h g [] (fun ar g' L'=>∃v0 X,ar=.tuple #[v0,.int .i64 ((iD t p).2)]∧aH 9 cV g' v0 ((iD t p).1) X∧g'=g∧L'=[X]):=by
 refine aG.aq func120 fun R hR=>?_
 have Y:=St.init hg
 refine At.go 1 2 []<|At.rp 8 2 [(9,vP u),(10,vS p)]<|Op.c0 (some 11) (Cu _ _ _ Y.sub D u t G p (by(try dsimp only)<;>omega)) Y ?_
 rintro bi aw _ bj a0 O ⟨a1,rfl,a3⟩;subst aw;clear a0
 rcases a3 with ⟨rfl,Z⟩|⟨bk,bm,bo,bs,rfl,bt,b3,ab,ad,a4,b4⟩
 ·have a5:((dR t p) != 0)=true:=uI.2 Z
  have b5:((dR t p)==0)=false:=qD.2 Z
  refine Op.pg 2 [(7,vI (dR t p))]<|At.go 3 2 [(15,.bool ((dR t p) != 0))]<|At.cW ((dR t p) != 0) 15 4 6 (fun ae=>?_) fun hb=>?_
  ·replace ae:=fY ae
   refine At.go 5 3 [(4,vN),(5,vI (dR t p))] ?_
   have a6:=aH.zero 9 cV g none
   exact At.rt (.tuple #[vN,vI (dR t p)]) (hR O.nl ⟨vN,[],bA rfl (bg (by(rw[GI ‹_›];done))),dP a6 (by(rw[GI ‹_›];done)),rfl,rfl⟩)
  exact Bool.noConfusion (a5.symm.trans hb)
 obtain⟨b6,b8,rfl⟩:=a4.ak
 refine Op.pg 2 [(7,vI 0)]<|At.go 3 2 [(15,vF)]<|At.cQ 15 6<|At.rp 6 2 [(17,vP u),(18,vS p)]<|Op.c0 (some 19) (G2 _ _ _ O.sub D u t G p) O ?_
 rintro _ ca _ cb I am ⟨f46,a7,rfl,a8,a9,rfl⟩
 replace D:=D.mono I
 replace G:=G.mono I
 replace ad:=I _ _ ad
 replace ab:=I _ _ ab
 refine Op.c0 (some 20) (G3 _ _ _ am.sub D f46 a7 (gJ t p) a8 a9 (by((try dsimp only)<;>((have:=NK t p;have:=hB.1;omega))))) am ?_
 rintro _ bb _ ce bc bd ⟨cf,be,rfl,J,a1,rfl⟩;subst bb;clear bc
 obtain⟨U,V,rfl⟩:=J.ak
 refine Op.pg 7 [(4,vL U ((iE (gJ t p)).length) V),(5,vI 0)]<|At.rt (.tuple #[vL U ((iE (gJ t p)).length) V,vI 0]) ?_
 replace J:=J.bw (fun _ _ _ _ h=>h) (g':=g)
 exact hR bd.iM ⟨(vL U ((iE (gJ t p)).length) V),be,bA rfl (bg (by(rw[GJ ‹_› ‹_›];done))),dP J (by(rw[GJ ‹_› ‹_›];exact NX (ga _) G.sort)),rfl,rfl⟩
theorem Cw (B:World) (h:ay) (g:GH) (hg:bu g h) (a1:bz g) (G:Nat) (t:List aa) (Z:iZ g G t) (hB:fB t):
  aG prog B 53 #[vP G] h g [] (fun bs g' L'=>∃v0 a3 a4,bs=v0∧aH 39 rG (cS gE a4) v0 t a3∧g'=g∧L'=[a3,a4]):=by
 refine aG.aq func53 fun R hR=>?_
 have a5:=St.init hg
 refine At.go 1 1 []<|At.go 2 1 [(3,vN)]<|At.rp 4 1 [(6,vP G)]<|Op.c0 (some 7) (G4 _ _ _ a5.sub a1 G t Z (by((try dsimp only)<;>((have:=hB.1;omega))))) a5 ?_
 rintro _ bt _ b3 b4 b5 ⟨dl,V,rfl,a6,b6,rfl⟩;subst bt;clear b4
 obtain⟨b8,a7,rfl⟩:=a6.ak
 refine Op.pg 3 [(8,vI ((t.map (·.af)).length:Int)),(9,vI 0)] ?_
 have ca:=aH.zero 39 rG (cS gE []) none
 have cb:St h g (aS []) g ([]::[]::[V]) b3:=St.bw (L:=[V]) rfl b5
 have ce:∀(m:Nat) (out:List aa) (i:Int) (I:Option Addr) (J:Nat) (O:az) (D:az) (ad:ay) (hm:(t.map (·.af)).length-i.toNat<m) (h0:0≤i) (h1:i≤(t.map (·.af)).length) (ho:out=t.take i.toNat) (ae:aH 39 rG (cS gE D) (.slice I out.length J) out O) (U:St h g (aS []) g [O,D,V] ad),At (bP prog B 53 f53 R) [] 3 [(0,vP G),(3,vL I out.length J),(7,vL b8 ((t.map (·.af)).length) a7),(8,vI ((t.map (·.af)).length:Int)),(9,vI i)] ad:=by
  intro m;induction m with
  |zero=>intros;omega
  |succ m cf=>
   intro out i I J O D ad hm h0 h1 ho ae U
   refine At.go 4 1 [(10,.bool (decide (i<((t.map (·.af)).length:Int))))]<|At.fd (i<((t.map (·.af)).length:Int)) 10 5 8 (fun dp=>?_) fun dq=>?_
   ·refine At.rg 3 ?_
    obtain⟨X,am⟩:=bW (t.map (·.af)) i
    obtain⟨ch,a8,du,dv,ci,ck,ar⟩:=h_.bB (a6.toH U 2 rfl) _ am
    cases ci
    refine Op.iq 40 9 1 16 ((t.map (·.af)).length) a7 7 9 11 ch a8 i ?_
    replace ar:cut _ _ _=[vS X]:=ar
    refine Op.l1 9 11 12 (a8+i.toNat*1) (vS X) ck ?_ (hv:=bN ar 0 rfl)
    refine Op.pg 6 [(5,vS X)]<|At.rp 11 4 [(13,vL I out.length J),(16,vP G)] ?_
    obtain⟨aw,a9,bb⟩:=Z
    have Z:iZ g G t:=⟨aw,a9,bb⟩
    refine Op.l1 136 16 17 0 (.map (some aw)) (U.sub _ _ a9)<|Op.px 1 [(18,vS X)] ?_
    obtain⟨dC,dE,dT,co,c3,d0,d1,d2,c4⟩:=jL.kD bb
    rcases c4 X with ⟨c5,bc⟩|⟨bd,u,d3,c5,bc,c6,be,d4⟩
    ·exfalso;exact NJ Z.sort am ‹_›
    obtain⟨d5,d6,rfl⟩:=be.ak
    refine Op.pP (ok:=false) (d:=.string) (mt:=136) (x:=17) (ix:=18) (dst:=19) (k:=X) (m:=aw) (v:=vP bd) (z:=.pointer none) (by kernel_rfl) (by kernel_rfl) kz (by kernel_rfl) (by kernel_rfl) (U.sub _ _ co) c3 bc<|Op.c0 (some 20) (Cv _ _ _ U.sub a1 u _ be bd c6 (by((try dsimp only)<;>((have:=fB.data hB ‹_›;omega))))) U ?_
    rintro _ c8 _ d7 c9 da ⟨d8,Y,rfl,bi,b6,rfl⟩;subst c8;clear c9
    obtain⟨a76,ab,rfl⟩:=bi.ak
    refine Op.ls 21 1 39 #[vS u.af,vL a76 (u.Data.length) ab,vI u.ai,vI u.aC,vI u.Next,vI u.aF] da fun a0 bj db=>?_
    have bk:St h g (aS []) g [D,Y,O,[(a0,Obj.cells #[vS u.af,vL a76 (u.Data.length) ab,vI u.ai,vI u.aC,vI u.Next,vI u.aF] 39 (0,0))],V] bj:=(db.fs [2,2,3] rfl)
    have dc:=St.N0 (A:=(D++Y:az)) bk (by rw[cm,cm,←cJ];exact List.sublist_append_left _ _)
    have dd:=NZ (C:=(D++Y:az)) (bi.bw (fun _ _ _ _ h=>h)) dc (by intro p hp;simp[hp])
    have df:=ae.mono (NY (c:=D) (c':=Y))
    have bm:St h g (aS []) g [(D++Y:az),O,[(a0,Obj.cells #[vS u.af,vL a76 (u.Data.length) ab,vI u.ai,vI u.aC,vI u.Next,vI u.aF] 39 (0,0))],V] bj:=St.bw (L:=[D,Y,O,[(a0,Obj.cells #[vS u.af,vL a76 (u.Data.length) ab,vI u.ai,vI u.aC,vI u.Next,vI u.aF] 39 (0,0))],V]) (by simp only[cm,List.flatten_nil,cJ,dL,dS,dm]) bk
    refine Op.ap 13 21 60 60 22 39 72 rG (ys:=[u]) df bm 1 ⟨_,_,rfl,⟨_,dd,rfl⟩,Reads.nil⟩ (by(have h1:=congrArg List.length ho;have:=hB.1;simp only[dZ,ew,bJ,cF] at *;omega)) (fun _ _ _=>trivial) (cT.lit (m:=1) (sz:=6) (bm.ag 2 rfl) (news:=[vS u.af,vL a76 (u.Data.length) ab,vI u.ai,vI u.aC,vI u.Next,vI u.aF]) rfl rfl (by simp[Value.oneCell']) _) fun d9 ea eb bo dg ed=>?_
    obtain⟨dj,dk,rfl⟩:=bo.ak
    exact Op.pg 7 [(3,vL dj ((out++([u])).length) dk)]<|At.rg 2<|Op.cO 23 (i+1) (by omega) (by(simp only[ew] at *;have:=hB.1;omega))<|Op.pg 3 [(9,vI (i+1))]<|At.ke (cf (out++([u])) (i+1) _ _ _ _ _ (by omega) (by omega) (by omega) (by exact NI Z.sort h0 am ‹_› ho) bo (((dg.fs [2] rfl).drop).fs [1] rfl))
   exact At.go 9 2 [(2,vL I out.length J)]<|At.rt (vL I out.length J)<|hR (U.fs [1,1,2] rfl).drop ⟨(vL I out.length J),O,D,rfl,dP ae (by(rw[ho,fF];simp only[ew] at *;omega)),rfl,rfl⟩
 exact At.ke (ce _ ([]:List aa) 0 _ _ _ _ _ (bG _) (by omega) (by omega) (by rfl) ca cb)
theorem Oj (B:World) (h:ay) (g:GH) (hg:bu g h) (a5:bz g) (X:Value) (l:List Int) (Y:an g 3 (dK .i64) X l) (u:Int) (hlen:l.length≤1000000000):
  aG prog B 139 #[X,vI u] h g [] (fun ad g' L'=>ad=.int .i64 (ek (fun z=>decide (u=z)) l)∧g'=g∧L'=[]):=by
 obtain⟨Z,J,rfl⟩:=Y.ak
 refine aG.aq func139 fun R hR=>At.go 1 1 []<|At.go 2 3 [(7,vI (l.length:Int)),(8,vI 0)] ?_
 have ae:∀(m:Nat) (i:Int) (O:ay) (hm:l.length-i.toNat<m) (h0:0≤i) (h1:i≤l.length) (G:findAt (fun z=>decide (u=z)) l i) (D:St h g (aS []) g [] O),At (bP prog B 139 f139 R) [] 2 [(0,vL Z l.length J),(1,vI u),(7,vI (l.length:Int)),(8,vI i)] O:=by
  intro m;induction m with
  |zero=>intros;omega
  |succ m am=>
   intro i O hm h0 h1 G D
   refine At.go 3 1 [(9,.bool (decide (i<(l.length:Int))))]<|At.fd (i<(l.length:Int)) 9 4 10 (fun a6=>?_) fun ar=>?_
   ·refine At.go 5 2 [(5,vI i)]<|At.rp 6 3 [(11,vI u),(12,vL Z l.length J),(13,vI i)] ?_
    obtain⟨I,U⟩:=bW l i
    obtain⟨aw,ab,a7,a8,a0,a1,V⟩:=an.bB Y _ U
    cases a0
    refine Op.iq 78 3 1 8 l.length J 12 13 14 aw ab i ?_
    replace V:cut _ _ _=[vI I]:=V
    refine Op.l1 3 14 15 (ab+i.toNat*1) (vI I) (D.sub _ _ a1) ?_ (hv:=bN V 0 rfl)
    refine Op.pg 6 [(16,.bool (u==I))]<|At.fd (u=I) 16 7 9 (fun a3=>?_) fun a4=>?_
    ·exact At.gr 8 2 4 (vI i) (hR D ⟨(bg (by exact td G U (gb a3))),rfl,rfl⟩)
    exact At.rg 2<|Op.vq 18 (i+1)<|Op.pg 2 [(8,vI (i+1))] (At.ke (am (i+1) _ (by omega) (by omega) (by omega) (by exact uO G h0 U (gQ a4)) D))
   exact At.gr 11 1 4 (vI (-1)) (hR D ⟨(bg (by exact tf G ar)),rfl,rfl⟩)
 exact At.ke (ae _ 0 _ (bG _) (by omega) (by omega) (by exact uN _ _) (St.init hg))
theorem Cx (B:World) (h:ay) (g:GH) (hg:bu g h) (J:bz g) (D:Value) (l:List Int) (G:an g 3 (dK .i64) D l) (u:Int) (hlen:l.length≤1000000000):
  aG prog B 105 #[D,vI u] h g [] (fun O g' L'=>O=.bool (l.any (fun z=>decide (u=z)))∧g'=g∧L'=[]):=by
 obtain⟨U,V,rfl⟩:=G.ak
 refine aG.aq func105 fun R hR=>?_
 have I:=St.init hg
 exact At.go 1 1 []<|At.rp 5 2 [(5,vL U l.length V),(6,vI u)]<|Op.c1 7 (Oj _ _ _ I.sub J _ _ G u (by(try dsimp only)<;>omega)) I fun Y X=>Op.pr 2 4 (.bool (decide ((ek (fun z=>decide (u=z)) l)≥0))) (hR X ⟨(bn (by exact uM _ _)),rfl,rfl⟩)
theorem Ol (B:World) (h:ay) (g:GH) (hg:bu g h) (U:bz g) (Z:Nat) (t:List aa) (D:iZ g Z t) (co:Value) (ab:List Int) (Y:an g 3 (dK .i64) co ab) (hB:fB t) (fH:ab.length≤1000000000):
  aG prog B 87 #[vP Z,co] h g [] (fun d2 g' L'=>∃v0 c3,d2=v0∧aH 9 cV g' v0 (j5 t ab) c3∧g'=g∧L'=[c3]):=by
 obtain⟨bs,bt,rfl⟩:=Y.ak
 refine aG.aq func87 fun R hR=>At.rg 3<|Op.bx 2 91 0 #[vP Z] (St.init hg) fun be fv d3=>Op.bx 3 78 1 #[vL bs ab.length bt] d3 fun bi fw d4=>Op.pg 1 [(4,vN)] ?_
 refine At.rg 1<|Op.al 5 40 #[vN] d4 fun G fx b3=>Op.gt 2<|At.rg 3<|Op.l1 91 2 8 0 (vP Z) (b3.ag 2 rfl) ?_
 refine Op.c0 (some 9) (G4 _ _ _ b3.sub U Z t D (by((try dsimp only)<;>((have:=hB.1;omega))))) b3 ?_
 rintro _ d5 _ f0 d6 d7 ⟨v31,f1,rfl,c4,f2,rfl⟩;subst d5;clear d6
 obtain⟨f3,f4,rfl⟩:=c4.ak
 obtain⟨f5,c5,b4,d8⟩:=aH.freeze c4 (d7)
 replace U:=U.mono b4
 replace Y:=Y.mono b4
 replace D:=D.mono b4
 refine Op.c0 (some 10) (Oe _ _ _ c5.sub U _ _ d8 (by((try dsimp only)<;>((simp only[ew];have:=hB.1;omega))))) c5 ?_
 rintro _ c6 _ f6 b5 d9 ⟨f44,bj,rfl,ea,a7,rfl⟩
 replace U:=U.mono b5
 replace Y:=Y.mono b5
 replace D:=D.mono b5
 refine Op.gt 3<|At.kp [(2,vP be),(3,vP bi),(4,vN),(5,vP G),(10,.func (.func f44) #[] bj)] ?_
 obtain⟨c8,a8⟩:=St.freeze (d9.fs [2] rfl)
 have ad:=iK (g:=c6) be (.cells #[vP Z] 91 (0,0))
 generalize eb:cS c6 _=c9 at c8 a8 ad;clear eb
 replace U:=U.mono a8
 replace Y:=Y.mono a8
 replace a7:=a7.mono a8
 replace D:=D.mono a8
 obtain⟨da,a1⟩:=St.freeze (c8.fs [1] rfl)
 have a3:=iK (g:=c9) bi (.cells #[vL bs ab.length bt] 78 (0,0))
 generalize ed:cS c9 _=bk at da a1 a3;clear ed
 replace U:=U.mono a1
 replace Y:=Y.mono a1
 replace a7:=a7.mono a1
 replace D:=D.mono a1
 replace ad:=a1 _ _ ad
 have ee:=aH.zero 9 cV bk none
 refine At.rangeFunc (x:=10) (f:=f44) (cp:=bj) (by kernel_rfl) rfl (by kernel_rfl) (by kernel_rfl) ea da.nl fun u J O db ef eh=>?_
 have ej:St h g (aS []) bk [[(J,.loop (cZ (dD 87 O (pt (cL f87) 3) u) none))],[(G,Obj.cells #[vL none (([]:List aj).length) 0] 40 (0,0))],[],[(u,.deferred (some []))]] db:=(eh.fs [1,2,3,3] rfl)
 have b6:St h g (aS []) bk [(([(J,.loop (cZ (dD 87 O (pt (cL f87) 3) u) none))]:az)++([(G,Obj.cells #[vL none (([]:List aj).length) 0] 40 (0,0))]:az)++([]:az):az),[(u,.deferred (some []))]] db:=St.bw (L:=[[(J,.loop (cZ (dD 87 O (pt (cL f87) 3) u) none))],[(G,Obj.cells #[vL none (([]:List aj).length) 0] 40 (0,0))],[],[(u,.deferred (some []))]]) (by simp only[cm,List.flatten_nil,cJ,dL,dS,dm]) ej
 obtain⟨dc,a9⟩:∃I:List bp→GH→az→Prop,I=(fun xs g2 c2=>∃(out:List bp) (dd:Option Addr) (df:Nat) (dg:az),c2=(([(J,.loop (cZ (dD 87 O (pt (cL f87) 3) u) none))]:az)++([(G,Obj.cells #[.slice dd out.length df] 40 (0,0))]:az)++(dg:az):az)∧aH 9 cV g2 (.slice dd out.length df) out dg∧out=xs.filter fun q=>match bU t q with|some n=>ab.any (fun o=>decide (n.aC=o))|none=>false):=⟨_,rfl⟩
 have em:ry prog B J Cp (fun en=>en=(t.map (·.af)).reverse) (fun _=>true) dc bk:=by
  intro bm ar ep V f7 f8 bb f9 gc er et dj ex
  rw[a9] at dj
  obtain⟨X,ae,am,aw,rfl,dk,b8⟩:=dj
  obtain⟨eA,rfl⟩:=er
  obtain⟨_,rfl,bo⟩:=et
  have dl:St bm ar (aS [(([(J,.loop (cZ (dD 87 O (pt (cL f87) 3) u) none))]:az)++([(G,Obj.cells #[vL ae X.length am] 40 (0,0))]:az)++(aw:az):az)]) ar [[(J,.loop (cZ (dD 87 O (pt (cL f87) 3) u) none))],[(G,Obj.cells #[vL ae X.length am] 40 (0,0))],aw] bm:=St.bw (by simp only[cm,List.flatten_nil,cJ,dL,dS,dm]) ex
  replace U:=U.mono bb
  replace Y:=Y.mono bb
  replace D:=D.mono bb
  replace ad:=bb _ _ ad
  replace a3:=bb _ _ a3
  refine ru.ri (n:=f87.ntmps) (e0:=[(2,vP be),(3,vP bi),(4,vN),(5,vP G),(10,.func (.func f44) #[] bj)]) (e:=[(12,vS V),(11,vI eA),(2,vP be),(3,vP bi),(4,vN),(5,vP G),(10,.func (.func f44) #[] bj)]) (dl.ag 0 rfl) ef (by kernel_rfl) (by kernel_rfl) (by kernel_rfl) (by kernel_rfl) fun ge dp=>At.go 1 1 [(7,vS V)]<|At.beginRound rfl (by kernel_rfl) dl 0 rfl 2 (by kernel_rfl) fun gg a0=>At.dw (fun _=>False) [(5,true),(0,true),(1,false),(2,true),(3,true),(4,false),(6,false),(7,true),(8,true),(9,false),(10,false)]<|Op.px 1 [(18,vS V)] ?_
  refine Op.lf 78 3 0 13 1 (vL bs ab.length bt) id (a0.sub _ _ a3)<|Op.l1 91 2 14 0 (vP Z) (a0.sub _ _ ad)<|Op.px 2 [(16,vP Z)] ?_
  obtain⟨ca,dq,du⟩:=D
  have D:iZ ar Z t:=⟨ca,dq,du⟩
  refine Op.l1 136 16 17 0 (.map (some ca)) (a0.sub _ _ dq) ?_
  obtain⟨gk,gn,gs,eB,eI,g1,g3,g4,eJ⟩:=jL.kD du
  rcases eJ V with ⟨eK,dv⟩|⟨dC,cb,v109,eK,dv,eL,eQ,g5⟩
  ·exfalso;exact NM D.sort bo ‹_›
  obtain⟨g6,g7,rfl⟩:=eQ.ak
  refine Op.pP (ok:=false) (d:=.string) (mt:=136) (x:=17) (ix:=18) (dst:=19) (k:=V) (m:=ca) (v:=vP dC) (z:=.pointer none) (by kernel_rfl) (by kernel_rfl) kz (by kernel_rfl) (by kernel_rfl) (a0.sub _ _ eB) eI dv<|Op.px 2 [(21,vQ dC 3)]<|Op.l1 3 21 22 3 (vI cb.aC) (a0.sub _ _ eL)<|Op.c1 23 (Cx _ _ _ a0.sub U _ _ Y cb.aC (by(try dsimp only)<;>omega)) a0 fun g8 ce=>Op.gt 3 ?_
  refine At.cW (ab.any (fun z=>decide (cb.aC=z))) 23 4 5 (fun g9=>?_) fun ha=>?_
  ·refine At.rg 5<|Op.l1 40 5 24 0 (vL ae X.length am) (ce.ag 1 rfl)<|Op.px 1 [(25,vS V)]<|Op.ls 26 1 9 #[vS V] ce fun hb he dE=>Op.ap 24 26 40 40 27 9 16 cV (ys:=[V]) dk dE 3 (⟨_,_,rfl,rfl,Reads.nil⟩) (by(have h1:=congrArg List.length b8;have h2:=bo.length_le;have:=hB.1;simp only[F2,ew,b_,bJ,cF] at *;have h3:=kX (fun q=>match bU t q with|some n=>ab.any (fun o=>decide (n.aC=o))|none=>false) ep;omega)) (fun _ _ _=>trivial) (cT.lit (m:=1) (sz:=1) (dE.ag 0 rfl) (news:=[vS V]) rfl rfl (by simp[Value.oneCell']) _) fun hf cf hh dT e1 hj=>?_
   obtain⟨bc,bd,rfl⟩:=dT.ak
   refine Op.s1 40 5 27 0 (vL bc ((X++([V])).length) bd) 1 #[vL bc ((X++([V])).length) bd] ((e1).drop) zt fun hl e2=>Op.gt 5<|At.wM (j:=none) (by kernel_rfl) e2 0 rfl fun e3 e4=>?_
   have e5:St bm ar (aS [(([(J,.loop (cZ (dD 87 O (pt (cL f87) 3) u) none))]:az)++([(G,Obj.cells #[vL ae X.length am] 40 (0,0))]:az)++(aw:az):az)]) ar [(([(J,.loop (cZ (dD 87 O (pt (cL f87) 3) u) none))]:az)++([(G,Obj.cells #[vL bc ((X++([V])).length) bd] 40 (0,0))]:az)++(cf:az):az)] e3:=St.bw (L:=[[(J,.loop (cZ (dD 87 O (pt (cL f87) 3) u) none))],[(G,Obj.cells #[vL bc ((X++([V])).length) bd] 40 (0,0))],cf]) (by simp only[cm,List.flatten_nil,cJ,dL,dS,dm]) e4
   refine dp _ _ _ _ e5 ⟨_,by rfl,rfl,?_⟩
   rw[a9];exact⟨(X++([V])),bc,bd,cf,rfl,dT,(by(have h1:=GL D.sort bo ‹_› b8;rw[aY ‹_›] at h1;exact h1))⟩
  refine At.wM (j:=none) (by kernel_rfl) ce 0 rfl fun e6 e7=>?_
  have e8:St bm ar (aS [(([(J,.loop (cZ (dD 87 O (pt (cL f87) 3) u) none))]:az)++([(G,Obj.cells #[vL ae X.length am] 40 (0,0))]:az)++(aw:az):az)]) ar [(([(J,.loop (cZ (dD 87 O (pt (cL f87) 3) u) none))]:az)++([(G,Obj.cells #[vL ae X.length am] 40 (0,0))]:az)++(aw:az):az)] e6:=St.bw (L:=[[(J,.loop (cZ (dD 87 O (pt (cL f87) 3) u) none))],[(G,Obj.cells #[vL ae X.length am] 40 (0,0))],aw]) (by simp only[cm,List.flatten_nil,cJ,dL,dS,dm]) e7
  refine dp _ _ _ _ e8 ⟨_,by rfl,rfl,?_⟩
  rw[a9];exact⟨X,ae,am,aw,rfl,dk,(by(have h1:=GL D.sort bo ‹_› b8;rw[aL (iT.1 ‹_›)] at h1;exact h1))⟩
 refine sW.call (Lc:=[(([(J,.loop (cZ (dD 87 O (pt (cL f87) 3) u) none))]:az)++([(G,Obj.cells #[vL none (([]:List aj).length) 0] 40 (0,0))]:az)++([]:az):az)]) (L:=[[(u,.deferred (some []))]]) b6 (a7 B _ _ _ dc (fun _=>true) _ (aM.refl _) b6.sub U em rfl (by rw[a9];exact⟨([]:List aj),none,0,[],rfl,ee,(by rfl)⟩) (St.part (Lc:=[(([(J,.loop (cZ (dD 87 O (pt (cL f87) 3) u) none))]:az)++([(G,Obj.cells #[vL none (([]:List aj).length) 0] 40 (0,0))]:az)++([]:az):az)]) (L:=[[(u,.deferred (some []))]]) b6)) ?_
 rintro _ e9 _ fa ch fg ⟨hm,hn,ho,rfl,fi,hp,fj,hq,rfl,d0⟩
 replace D:=D.mono ch
 replace ad:=ch _ _ ad
 replace a3:=ch _ _ a3
 have hx:=fj rfl;subst hx
 rw[a9] at d0
 obtain⟨a4,a5,a6,ci,rfl,ck,fl⟩:=d0
 have fp:St h g (aS []) e9 [[(J,.loop (cZ (dD 87 O (pt (cL f87) 3) u) none))],[(G,Obj.cells #[vL a5 a4.length a6] 40 (0,0))],ci,[(u,.deferred (some []))]] fa:=St.bw (by simp only[cm,List.flatten_nil,cJ,dL,dS,dm]) fg
 refine ia.wN (j:=none) fp 0 rfl fun hr fr=>?_
 have d1:=fr.drop
 refine ia.bB 4 (by kernel_rfl)<|At.rg 2<|Op.l1 40 5 28 0 (vL a5 a4.length a6) (d1.ag 0 rfl)<|Op.pg 5 [(4,vL a5 a4.length a6)]<|At.yB (ia.BF (L:=[[(G,Obj.cells #[vL a5 a4.length a6] 40 (0,0))],ci]) (f:=f87) (v:=vL a5 a4.length a6) [u] (by kernel_rfl) (by kernel_rfl) (d1.fs [1,1,2] rfl) ?_)
 intro hs ft
 replace ck:=ck.bw (fun _ _ _ _ h=>h) (g':=g)
 exact hR ft.drop.iM ⟨(vL a5 a4.length a6),ci,rfl,dP ck (by rw[fl,fi];exact NL D.sort),rfl,rfl⟩
end Go.Proofs.YtdinkjbfgcfccaaGreatDoor.Sw
