/- Lemmas for laws of this seat. -/
import Derived.Test.YtceekbnihfckeaaGreatDoorQBI
import Derived.MapKept
namespace Go.Proofs.YtceekbnihfckeaaGreatDoor.Sw
open Tryz
set_option linter.unusedVariables false
set_option linter.unusedSimpArgs false
set_option linter.deprecated false
set_option linter.unusedSectionVars false
open Go Go.MapKept
set_option linter.defProp false
def wo:=@List.pairwise_map
def xG:=@decide_false
def n5:=@Prod.ext
def Dz:=@List.any_eq_false
def kF:=@List.any_eq_true
def GI:=@List.getElem?_modify
def Bx:=@List.getElem?_inj
def mJ:=@List.filter_eq_self
def jK:=@List.filter_cons
def wq:=@decide_true
def nk:=@Bool.not_true
def GJ:=@List.eraseIdx_cons_zero
def GK:=@List.eraseIdx_cons_succ
def gO:=@List.Perm.refl
def zI:=@Array.toList_filter
def fB:=@List.mem_filter
def jb:=@decide_eq_false_iff_not
def DA:=@Array.filter_eq_self
def GL:=@Array.filter_eq_empty_iff
def By:=@Array.size_pos_iff
def GM:=@List.eq_nil_iff_forall_not_mem
def DB:=@Array.size_map
def Bz:=@Array.getElem?_eq_getElem
def GN:=@List.Perm.append_left
def GO:=@Array.find?_eq_none
def GP:=@Array.mem_of_find?_eq_some
def qa:=@List.mem_iff_getElem?
def fK:=@Option.some.inj
def AU:=@List.take_left
def gp:=@of_decide_eq_true
def jq:=@of_decide_eq_false
def eu:=@decide_eq_true
def ic:=@List.all_eq_true
def kQ:=@Bool.eq_iff_iff
def uF:=@List.isPrefixOf_iff_prefix
def zJ:=@eq_comm
def zL:=@Bool.not_eq_true
def lp:=@Bool.true_and
def gb:=@decide_eq_false
def rJ:=@List.any_cons
def n8:=@Bool.false_or
def cQ:=@decide_eq_true_eq
def iF:=@true_or
def iG:=@or_true
def uG:=@List.prefix_refl
def DC:=@List.prefix_append
def DD:=@Nat.pow_pos
def GQ:=@List.dropLast_subset
def GR:=@Bool.or_eq_false_iff
def wu:=@Bool.and_eq_false_iff
def s7:=@beq_eq_false_iff_ne
def kX:=@List.pairwise_cons
def oD:=@List.Pairwise.sublist
def mM:=@List.filter_sublist
def l7:=@List.length_filter_le
def nP:=@List.filter_append
def wv:=@List.filter_map
def s9:=@List.filter_congr
def DE:=@List.mem_reverse
def BA:=@List.Perm.eq_of_pairwise
def xH:=@List.pairwise_mergeSort
def xI:=@List.mergeSort_perm
def DF:=@Array.ext_getElem?
def GS:=@Array.getElem?_mapIdx
def zM:=@List.getElem?_append
def BB:=@List.getElem?_take_of_lt
def xJ:=@List.getElem?_drop
def GU:=@List.getElem?_append_left
def vR:=@Nat.zero_mul
def xK:=@List.Nodup.sublist
def bM:=@Nat.lt_succ_self
def BC:=@Nat.one_mul
def BD:=@List.Perm.length_eq
def xL:=@bne_iff_ne
def GV:=@List.length_reverse
structure l9 {κ:Type} (d:TypeDesc) (enc:κ→Value):Prop where
  ok:∀k,IsKey d (enc k)
  inj:∀a b,enc a=enc b→a=b
def encS (p:an):Value:=.string (bp p)
def encI (n:Int):Value:=.int .i64 n
theorem l_:l9 .string encS:=⟨fun _=>trivial,fun a b h=>My (by simpa[encS] using h)⟩
theorem mc:l9 (.int .i64) encI:=⟨fun _=>rfl,fun a b h=>by simpa[encI] using h⟩
def cZ {κ:Type} (enc:κ→Value) (es:Array MapEntry) (bf:Nat) (ks:List (κ×Value)):Prop:=
  es.toList.map (fun e=>(e.key,e.val))=ks.map (fun p=>(enc p.1,p.2))∧Stamped es bf
def fZ {κ:Type} [DecidableEq κ] (ks:List (κ×Value)) (k:κ):Option Value:=(ks.find? fun p=>decide (p.1=k)).map (·.2)
def iZ {κ:Type} [DecidableEq κ] (ks:List (κ×Value)) (k:κ) (v:Value):List (κ×Value):=
  if ks.any (fun p=>decide (p.1=k)) then ks.map (fun p=>if p.1=k then (p.1,v) else p) else ks++[(k,v)]
def kJ {κ:Type} [DecidableEq κ] (ks:List (κ×Value)) (k:κ):List (κ×Value):=ks.filter fun p=>!decide (p.1=k)
theorem cZ.empty {κ:Type} (enc:κ→Value) (bf:Nat):cZ enc #[] bf ([]:List (κ×Value)):=⟨rfl,stamped_empty bf⟩
section
variable {κ:Type} [DecidableEq κ] {d:TypeDesc} {enc:κ→Value} {es:Array MapEntry} {bf:Nat} {ks:List (κ×Value)}
theorem cZ.get (hR:cZ enc es bf ks) (i:Nat):(es[i]?).map (fun e=>(e.key,e.val))=(ks[i]?).map fun p=>(enc p.1,p.2):=by
  have:=congrArg (fun l=>l[i]?) hR.1
  simpa using this
theorem cZ.p9 (hK:l9 d enc) (hR:cZ enc es bf ks):∀x∈es.toList,IsKey d x.key:=by
  intro x hx
  have:(x.key,x.val)∈es.toList.map (fun e=>(e.key,e.val)):=de.2 ⟨x,hx,rfl⟩
  rw[hR.1] at this
  obtain⟨p,hp,e⟩:=de.1 this
  simp only[iM] at e
  rw[←e.1]
  exact hK.ok _
theorem cZ.nodup (hK:l9 d enc) (hR:cZ enc es bf ks):(ks.map (·.1)).Nodup:=by
  have h:=hR.2.2.2
  have e:es.toList.map (·.key)=ks.map (fun p=>enc p.1):=by
    have:=congrArg (fun l=>l.map Prod.fst) hR.1
    simpa[jg,Function.comp_def] using this
  rw[e] at h
  rw[List.Nodup,wo] at h ⊢
  exact h.imp fun hne he=>hne (by rw[he])
theorem cZ.size (hR:cZ enc es bf ks):es.size=ks.length:=by
  have:=congrArg List.length hR.1
  simpa using this
theorem DG {k:κ} (h:∀p∈ks,p.1≠k):fZ ks k=none:=by
  unfold fZ
  rw[List.find?_eq_none.2 (fun p hp=>by simpa using h p hp)]
  rfl
theorem DH (hn:(ks.map (·.1)).Nodup) {j:Nat} {p:κ×Value} (hp:ks[j]?=some p):fZ ks p.1=some p.2:=by
  induction ks generalizing j with
  |nil=>simp at hp
  |cons q ks ih=>
   rw[eR,qK] at hn
   unfold fZ
   rw[zD]
   cases j with
   |zero=>simp at hp;subst hp;simp
   |succ j=>
    have u:ks[j]?=some p:=by simpa using hp
    have hne:q.1≠p.1:=fun e=>hn.1 (e▸de.2 ⟨p,cj u,rfl⟩)
    simp only[hne,xG]
    exact ih hn.2 u
theorem cZ.find (hK:l9 d enc) (hR:cZ enc es bf ks) (k:κ):
    (Instr.findNow d (enc k) es.toList 0=some none∧(∀x∈es.toList,x.key≠enc k)∧(∀p∈ks,p.1≠k))∨
    ∃j e,Instr.findNow d (enc k) es.toList 0=some (some (j,e.val))∧es[j]?=some e∧e.key=enc k∧ks[j]?=some (k,e.val):=by
  rcases findNow_spec (hK.ok k) es.toList 0 (hR.p9 hK) with ⟨h1,h2⟩|⟨j,e,h1,h2,h3⟩
  · refine .inl ⟨h1,h2,fun p hp e=>?_⟩
    have:(enc p.1,p.2)∈ks.map (fun p=>(enc p.1,p.2)):=de.2 ⟨p,hp,rfl⟩
    rw[←hR.1] at this
    obtain⟨x,hx,ex⟩:=de.1 this
    simp only[iM] at ex
    exact h2 x hx (by rw[ex.1,e])
  · have hj:es[j]?=some e:=by simpa using h2
    have:=hR.get j
    rw[hj] at this
    cases hk:ks[j]? with
    |none=>rw[hk] at this;cases this
    |some p=>
     rw[hk] at this
     simp only[mS,fu,iM] at this
     have:p=(k,e.val):=n5 (hK.inj _ _ (this.1.symm.trans h3)) this.2.symm
     exact .inr ⟨j,e,by simpa using h1,hj,h3,by rw[hk,this]⟩
theorem cZ.iB (hK:l9 d enc) (hR:cZ enc es bf ks) (k:κ):
    (Instr.findNow d (enc k) es.toList 0=some none∧fZ ks k=none)∨∃j v,Instr.findNow d (enc k) es.toList 0=some (some (j,v))∧fZ ks k=some v:=by
  rcases hR.find hK k with ⟨h1,_,h2⟩|⟨j,e,h1,_,_,h2⟩
  · exact .inl ⟨h1,DG h2⟩
  · exact .inr ⟨j,e.val,h1,DH (hR.nodup hK) h2⟩
theorem cZ.Nn (hR:cZ enc es bf ks) {k:κ} (h:∀x∈es.toList,x.key≠enc k) (h2:∀p∈ks,p.1≠k) (v:Value):cZ enc (es.push {key:=enc k,val:=v,born:=bf}) (bf+1) (iZ ks k v):=by
  have:ks.any (fun p=>decide (p.1=k))=false:=by
    rw[Dz]
    exact fun p hp=>by simpa using h2 p hp
  unfold iZ
  rw[aC (by simp[this])]
  refine⟨?_,stamped_push hR.2 h⟩
  rw[Array.toList_push,iH,iH,hR.1]
  rfl
theorem No (hn:(ks.map (·.1)).Nodup) {j:Nat} {k:κ} {u v:Value} (hp:ks[j]?=some (k,u)):iZ ks k v=ks.modify j fun p=>(p.1,v):=by
  have hm:=cj hp
  unfold iZ
  rw[aO (kF.2 ⟨_,hm,by simp⟩)]
  apply Bk
  intro i
  rw[jU,GI]
  cases hi:ks[i]? with
  |none=>by_cases hj:j=i<;>simp[hj]
  |some p=>
   by_cases hj:j=i
   · subst hj
     rw[hp] at hi
     cases hi
     simp
   · have:p.1≠k:=fun e=>by
       have hlt:=(fT.1 hi).1
       have D:=(fT.1 hp).1
       have e1:(ks.map (·.1))[i]?=some k:=by rw[jU,hi];simp[e]
       have e2:(ks.map (·.1))[j]?=some k:=by rw[jU,hp];rfl
       exact hj ((Bx (by simpa using D) hn).1 (e2.trans e1.symm))
     simp[this,hj]
theorem cZ.Np (hK:l9 d enc) (hR:cZ enc es bf ks) {j:Nat} {e:MapEntry} {k:κ} (he:es[j]?=some e) (hk:e.key=enc k) (hks:ks[j]?=some (k,e.val)) (v:Value):
    cZ enc (es.modify j fun e=>{e with key:=enc k,val:=v}) bf (iZ ks k v):=by
  rw[No (hR.nodup hK) hks]
  refine⟨?_,stamped_modify hR.2 _ _ (fun _ _=>rfl) fun e' _ u=>by rw[he] at u;cases u;exact hk.symm⟩
  apply Bk
  intro i
  have:=hR.get i
  rw[jU,jU,GI,uu,Bd]
  by_cases hj:j=i
  · subst hj
    simp[he,hks]
  · simp[hj] at this ⊢
    exact this
theorem DI {k:κ} (h:∀p∈ks,p.1≠k):kJ ks k=ks:=by
  unfold kJ
  rw[mJ.2]
  intro p hp
  simpa using h p hp
theorem Nq (hn:(ks.map (·.1)).Nodup) {j:Nat} {k:κ} {u:Value} (hp:ks[j]?=some (k,u)):kJ ks k=ks.eraseIdx j:=by
  induction ks generalizing j with
  |nil=>simp at hp
  |cons q ks ih=>
   rw[eR,qK] at hn
   unfold kJ
   cases j with
   |zero=>
    simp at hp
    subst hp
    simp only[jK,wq,nk,gA,dV,GJ]
    exact DI fun p hp e=>hn.1 (e▸de.2 ⟨p,hp,rfl⟩)
   |succ j=>
    have D:ks[j]?=some (k,u):=by simpa using hp
    have hne:q.1≠k:=fun e=>hn.1 (e▸de.2 ⟨_,cj D,rfl⟩)
    simp only[jK,hne,xG,uC,jl,GK]
    exact congrArg _ (ih hn.2 D)
theorem DJ {α u:Type} (f:α→u):∀(l:List α) (j:Nat),(l.eraseIdx j).map f=(l.map f).eraseIdx j
  |[],_=>by simp
  |x::l,0=>by simp
  |x::l,j+1=>by simp[DJ f l j]
theorem cZ.GW (hK:l9 d enc) (hR:cZ enc es bf ks) {j:Nat} {e:MapEntry} {k:κ} (he:es[j]?=some e) (hks:ks[j]?=some (k,e.val)):cZ enc (es.eraseIdxIfInBounds j) bf (kJ ks k):=by
  rw[Nq (hR.nodup hK) hks]
  refine⟨?_,stamped_erase hR.2 _⟩
  have hlt:=(mP.1 he).1
  unfold Array.eraseIdxIfInBounds
  rw[dif_pos hlt,Array.toList_eraseIdx,DJ,hR.1,←DJ]
end
def mE (P:Program) (mt:TypeId):Option (TypeDesc×Value):=match P.underlying mt with
  |some (.map kt et)=>match P.underlying kt,(P.info? et).bind (·.zero) with
   |some d,some z=>some (d,z)
   |_,_=>none
  |_=>none
theorem xM {P:Program} {mt:TypeId} {d:TypeDesc} {z:Value} (h:mE P mt=some (d,z)):∃kt et u,P.underlying mt=some (.map kt et)∧P.underlying kt=some d∧P.info? et=some u∧u.zero=some z:=by
  unfold mE at h
  split at h
  · rename_i kt et hu
    split at h
    · rename_i D G hd hz
      simp only[fu,iM] at h
      obtain⟨rfl,rfl⟩:=h
      obtain⟨u,hi,hz⟩:=F_.1 hz
      exact⟨kt,et,u,hu,hd,hi,hz⟩
    · cases h
  · cases h
section
variable {P:Program} {w:World} {κ:Type} [DecidableEq κ] {d:TypeDesc} {enc:κ→Value} {es:Array MapEntry} {bf:Nat} {ks:List (κ×Value)} {mt:TypeId} {z:Value} {m:Nat}
theorem Nr {et:TypeId} {u:TypeInfo} (hi:P.info? et=some u) (hz:u.zero=some z):(zeroValue et).run P w=.ok z w:=by
  simp only[zeroValue,typeInfo,Sem.run_bind,run_program,Result.andThen_ok,hi,Sem.run_pure]
  rw[hz]
  rfl
theorem Ns (hT:mE P mt=some (d,z)) (hK:l9 d enc) (hR:cZ enc es bf ks) (hb:w.heap[m]?=some (.map es bf)) (k:κ) (ok:Bool):
    (Instr.lookup mt (.map (some m)) (enc k) ok).run P w=.ok (if ok then .tuple #[(fZ ks k).getD z,.bool (fZ ks k).isSome] else (fZ ks k).getD z) w:=by
  obtain⟨kt,et,u,hu,hd,hi,hz⟩:=xM hT
  unfold Instr.lookup
  rcases hR.iB hK k with ⟨h1,h2⟩|⟨j,v,h1,h2⟩
  · simp only[Sem.run_bind,run_underlying hu,MapKept.run_getObj_map hb,run_checkKey hd (hK.ok k),run_findKey hd h1,Nr hi hz,Result.andThen_ok,Sem.run_pure,h2]
    simp
  · simp only[Sem.run_bind,run_underlying hu,MapKept.run_getObj_map hb,run_checkKey hd (hK.ok k),run_findKey hd h1,Result.andThen_ok,Sem.run_pure,h2]
    simp
theorem Nt (hT:mE P mt=some (d,z)) (hK:l9 d enc) (hR:cZ enc es bf ks) (hb:w.heap[m]?=some (.map es bf)) (k:κ) (v:Value):
    ∃u D,(Instr.mapUpdate mt (.map (some m)) (enc k) v).run P w=.ok () {w with heap:=w.heap.setIfInBounds m (.map u D)}∧cZ enc u D (iZ ks k v):=by
  obtain⟨kt,et,G,hu,hd,hi,hz⟩:=xM hT
  unfold Instr.mapUpdate
  rcases hR.find hK k with ⟨h1,h2,h3⟩|⟨j,e,h1,h2,h3,h4⟩
  · refine⟨_,_,?_,hR.Nn h2 h3 v⟩
    simp only[Sem.run_bind,run_underlying hu,MapKept.run_getObj_map hb,run_checkKey hd (hK.ok k),run_findKey hd h1,Result.andThen_ok,MapKept.run_setObj_map _ hb]
  · refine⟨_,_,?_,hR.Np hK h2 h3 h4 v⟩
    simp only[Sem.run_bind,run_underlying hu,MapKept.run_getObj_map hb,run_checkKey hd (hK.ok k),run_findKey hd h1,h2,mS,Option.getD_some,h3,run_keyThatStays (hK.ok k),Result.andThen_ok,MapKept.run_setObj_map _ hb]
theorem Nu {zN:TypeId} {ty:TypeId} (hT:mE P mt=some (d,z)) (hK:l9 d enc) (hR:cZ enc es bf ks) (hb:w.heap[m]?=some (.map es bf)) (k:κ):
    ∃u,(Builtin.delete_ #[mt,zN] ty #[.map (some m),enc k]).run P w=.ok (.tuple #[]) {w with heap:=w.heap.setIfInBounds m (.map u bf)}∧cZ enc u bf (kJ ks k):=by
  obtain⟨kt,et,D,hu,hd,hi,hz⟩:=xM hT
  rcases hR.find hK k with ⟨h1,h2,h3⟩|⟨j,e,h1,h2,h3,h4⟩
  · refine⟨es,?_,by rw[DI h3];exact hR⟩
    simp[Builtin.delete_,run_underlying hu,MapKept.run_getObj_map hb,run_checkKey hd (hK.ok k),run_findKey hd h1,MapKept.run_setObj_map _ hb,Result.andThen]
  · refine⟨_,?_,hR.GW hK h2 h4⟩
    simp[Builtin.delete_,run_underlying hu,MapKept.run_getObj_map hb,run_checkKey hd (hK.ok k),run_findKey hd h1,MapKept.run_setObj_map _ hb,Result.andThen]
end
def mF {κ:Type} (enc:κ→Value) (es:Array MapEntry) (bf m:Nat) (vs rs:List (κ×Value)) (o:Obj):Prop:=
  ∃u rest:List MapEntry,o=.mapIter (some m) bf (u.map (·.born)).toArray bf∧(u++rest).Perm es.toList∧u.map (fun e=>(e.key,e.val))=vs.map (fun p=>(enc p.1,p.2))∧rest.map (fun e=>(e.key,e.val))=rs.map (fun p=>(enc p.1,p.2))
theorem mF.start {κ:Type} {enc:κ→Value} {es:Array MapEntry} {bf m:Nat} {ks:List (κ×Value)} (hR:cZ enc es bf ks):mF enc es bf m [] ks (.mapIter (some m) bf #[] bf):=
  ⟨[],es.toList,rfl,gO _,rfl,hR.1⟩
theorem DK {α D:Type} {f:α→D} {G:Type} {g:G→D}:∀{l:List α} {r:List G},l.map f=r.map g→∀{a b:List α} {x:α},l=a++x::b→∃u y b',r=u++y::b'∧a.map f=u.map g∧f x=g y∧b.map f=b'.map g:=by
  intro l r h a b x e
  subst e
  induction a generalizing r with
  |nil=>
   cases r with
   |nil=>simp at h
   |cons y r=>simp only[eN,eR,xp] at h;exact⟨[],y,r,rfl,rfl,h.1,h.2⟩
  |cons q a ih=>
   cases r with
   |nil=>simp at h
   |cons y r=>
    simp only[dW,eR,xp] at h
    obtain⟨u,I,b',rfl,h1,h2,h3⟩:=ih h.2
    exact⟨y::u,I,b',rfl,by simp[h.1,h1],h2,h3⟩
theorem GX {P:Program} {w:World} {κ:Type} {enc:κ→Value} {es:Array MapEntry} {bf m it ty:Nat} {vs rs:List (κ×Value)} {o:Obj} (hst:Stamped es bf) (hI:mF enc es bf m vs rs o)
    (hb:w.heap[m]?=some (.map es bf)) (hit:w.heap[it]?=some o):
    (rs=[]∧∃w',(Instr.next (.pointer (some ⟨it,0,none⟩)) false ty).run P w=.ok (.tuple #[.bool false]) w'∧w'.heap=w.heap∧w'.os=w.os∧w'.tape=w.tape∧w'.output=w.output)∨
    (∃a k v b o' w',rs=a++(k,v)::b∧(Instr.next (.pointer (some ⟨it,0,none⟩)) false ty).run P w=.ok (.tuple #[.bool true,enc k,v]) w'∧w'.heap=w.heap.setIfInBounds it o'∧w'.os=w.os∧w'.tape=w.tape∧w'.output=w.output∧
      mF enc es bf m (vs++[(k,v)]) (a++b) o'):=by
  obtain⟨u,rest,rfl,hp,hv,hr⟩:=hI
  obtain⟨hlt,ab,_⟩:=hst
  have J:∀x,x∈es.toList↔x∈u∨x∈rest:=fun x=>by rw[←hp.mem_iff,dP]
  have O:((u++rest).map (·.born)).Nodup:=(hp.map _).nodup_iff.2 ab
  have D:∀x,x∈(es.filter fun e=>!((u.map (·.born)).toArray).contains e.born).toList↔x∈rest:=by
    intro x
    rw[zI,fB,J]
    simp only[List.contains_toArray,gN,List.contains_eq_mem,jb]
    constructor
    · rintro⟨h|h,h2⟩
      · exact absurd (de.2 ⟨x,h,rfl⟩) h2
      · exact h
    · intro h
      refine⟨.inr h,fun h2=>?_⟩
      rw[iH,nN] at O
      exact O.2.2 _ h2 _ (de.2 ⟨x,h,rfl⟩) rfl
  have U:∀n:Nat,1≤n→∃gv w',(choose (.mapNext n)).run P w=.ok gv w'∧gv<n∧w'.heap=w.heap∧w'.os=w.os∧w'.tape=w.tape∧w'.output=w.output:=by
    intro n hn
    rw[run_choose_drew]
    by_cases h1:n≤1
    · exact⟨0,w,by simp[Question.forced,h1],by omega,rfl,rfl,rfl,rfl⟩
    · exact⟨w.tape w.drawn (.mapNext n) % n,w.drew,by simp[Question.forced,h1,Question.cut],xo _ (by omega),rfl,rfl,rfl,rfl⟩
  have V:∀x∈es.filter (fun e=>!((u.map (·.born)).toArray).contains e.born),x.born<bf:=fun x hx=>hlt x (by
    have:=(D x).1 (by simpa using hx)
    exact(J x).2 (.inr this))
  generalize hl:es.filter (fun e=>!((u.map (·.born)).toArray).contains e.born)=left at *
  have hold:left.filter (fun e=>decide (e.born<bf))=left:=by
    rw[DA];exact fun x hx=>by simpa using V x hx
  have hnew:left.filter (fun e=>decide (e.born≥bf))=#[]:=by
    rw[GL];exact fun x hx=>by have:=V x hx;simp;omega
  have X:(!((u.map (·.born)).toArray).isEmpty&&!es.isEmpty&&es.all fun e=>decide (e.born≥bf))=false:=by
    cases he:es.isEmpty with
    |true=>simp
    |false=>
     have hne:es≠#[]:=by intro h;subst h;simp at he
     have G:0<es.size:=By.2 hne
     have:es.all (fun e=>decide (e.born≥bf))=false:=by
       rw[Array.all_eq_false]
       exact⟨0,G,by have:=hlt es[0] (by simp);simp;omega⟩
     simp[this]
  by_cases Y:rest=[]
  · subst Y
    have hle:left=#[]:=by
      rw[←Array.toList_eq_nil_iff]
      exact GM.2 fun x hx=>by have:=(D x).1 hx;cases this
    have I:rs=[]:=by cases rs with
      |nil=>rfl
      |cons p rs=>simp at hr
    refine .inl ⟨I,?_⟩
    obtain⟨gv,w',hc,hi,hw⟩:=U 1 (iE _)
    have ad:gv=0:=by omega
    subst ad
    refine⟨w',?_,hw⟩
    subst hle
    unfold Instr.next
    have hg:(getObj it).run P w=.ok (.mapIter (some m) bf (u.map (·.born)).toArray bf) w:=by simp[getObj,Sem.run,hit]
    simp only[Sem.run_bind,hg,Result.andThen_ok,MapKept.run_getObj_map hb,X,gA,dV,Sem.run_pure,hl,hold,hnew]
    have hcs:((if (#[]:Array MapEntry).isEmpty=true then (#[none]:Array (Option MapEntry)) else #[])++((#[]:Array MapEntry)++#[]).map some)=#[none]:=by simp
    simp only[hcs]
    rw[show(#[none]:Array (Option MapEntry)).size=1 from rfl,hc]
    rfl
  · have hne:left≠#[]:=by
      intro h
      obtain⟨x,t,rfl⟩:∃x t,rest=x::t:=by
        cases rest with
        |nil=>exact absurd rfl Y
        |cons x t=>exact⟨x,t,rfl⟩
      have:=(D x).2 (.head _)
      rw[h] at this
      simp at this
    have G:0<left.size:=By.2 hne
    obtain⟨gv,w',hc,hi,hw⟩:=U left.size G
    have ae:left[gv]∈rest:=(D _).1 (by simp)
    obtain⟨a,b,hsplit⟩:=List.append_of_mem ae
    obtain⟨am,p,b',I,h1,h2,h3⟩:=DK hr hsplit
    simp only[iM] at h2
    refine .inr ⟨am,p.1,p.2,b',.mapIter (some m) bf ((u.map (·.born)).toArray.push left[gv].born) bf,{w' with heap:=w'.heap.setIfInBounds it (.mapIter (some m) bf ((u.map (·.born)).toArray.push left[gv].born) bf)},I,?_,by simp[hw.1],hw.2.1,hw.2.2.1,hw.2.2.2,?_⟩
    · unfold Instr.next
      have hg:(getObj it).run P w=.ok (.mapIter (some m) bf (u.map (·.born)).toArray bf) w:=by simp[getObj,Sem.run,hit]
      have ar:w'.heap[it]?=some (.mapIter (some m) bf (u.map (·.born)).toArray bf):=by rw[hw.1];exact hit
      have hem:left.isEmpty=false:=by simpa using hne
      have hs:(setObj it (.mapIter (some m) bf ((u.map (·.born)).toArray.push left[gv].born) bf)).run P w'=.ok () {w' with heap:=w'.heap.setIfInBounds it (.mapIter (some m) bf ((u.map (·.born)).toArray.push left[gv].born) bf)}:=by simp[setObj,Sem.run,ar]
      simp only[Sem.run_bind,hg,Result.andThen_ok,MapKept.run_getObj_map hb,X,gA,dV,Sem.run_pure,hl,hold,hnew,hem]
      have hcs:((#[]:Array (Option MapEntry))++(left++#[]).map some)=left.map some:=by simp
      simp only[hcs,DB,hc,Result.andThen_ok,Array.getElem?_map,Bz hi,mS,Sem.run_bind,hs,Sem.run_pure]
      rw[h2.1,h2.2]
    · refine⟨u++[left[gv]],a++b,by simp,?_,by simp[hv,h2.1,h2.2],by simp[h1,h3]⟩
      refine List.Perm.trans ?_ hp
      rw[hsplit,dm]
      refine GN _ ?_
      exact(List.perm_middle.symm:(left[gv]::(a++b)).Perm (a++left[gv]::b))
section
variable {C:fP} {ds:List Deferred} {i j:Nat} {r:ax} {M:Nat→Prop} {Ls:List (Nat×Bool)} {e:Env} {h:ax}
variable {h0:ax} {g0:GH} {S0:Nat→Prop} {g:GH} {L L':List ay}
variable {κ:Type} [DecidableEq κ] {d:TypeDesc} {enc:κ→Value} {es:Array MapEntry} {bf:Nat} {ks:List (κ×Value)} {mt:TypeId} {z:Value} {m:Nat}
theorem Op.GY {dst:Nat} {x ix:Operand} {ok:Bool} {k:κ} (ho:dS C i j e=some (some dst,.lookup mt x ix ok)) (hT:mE C.P mt=some (d,z)) (hK:l9 d enc) (hx:e.ev x=.map (some m)) (u:e.ev ix=enc k)
    (hb:h[m]?=some (.map es bf)) (hR:cZ enc es bf ks) (K:Op C ds i r M Ls ((dst,if ok then .tuple #[(fZ ks k).getD z,.bool (fZ ks k).isSome] else (fZ ks k).getD z)::e) h):Op C ds i r M ((j,false)::Ls) e h:=by
  obtain⟨o,h1,h2,h3⟩:=gT ho
  refine Op.run h1 (R:=fun D h'=>D=.value (if ok then .tuple #[(fZ ks k).getD z,.bool (fZ ks k).isSome] else (fZ ks k).getD z)∧h'=h) ?_ ?_
  · intro w is
    refine⟨_,w,?_,is.again,rfl,is.heap⟩
    unfold fL execOp
    simp only[h3,Sem.run_bind,hx,u,Ns hT hK hR (w:=w) (by rw[is.heap];exact hb),Result.andThen_ok,Sem.run_pure]
  · rintro _ _ ⟨rfl,rfl⟩
    refine⟨_,rfl,fun hk=>hk,?_⟩
    rw[h2]
    exact K
theorem Op.oM {x ix y:Operand} {k:κ} {v:Value} (ho:(dS C i j e=some (none,.mapUpdate mt x ix y))∨(dS C i j e=some (none,.insert mt x ix y))) (hT:mE C.P mt=some (d,z)) (hK:l9 d enc) (hx:e.ev x=.map (some m)) (I:e.ev ix=enc k) (hy:e.ev y=v)
    (s:St h0 g0 S0 g L h) (n:Nat) (hL:L[n]?=some [(m,.map es bf)]) (hR:cZ enc es bf ks) (hM:m<r.size→M m)
    (K:∀u D h',cZ enc u D (iZ ks k v)→St h0 g0 S0 g (L.set n [(m,.map u D)]) h'→Op C ds i r M Ls e h'):Op C ds i r M ((j,false)::Ls) e h:=by
  obtain⟨o,h1,h2,h3⟩:∃o,mQ C i j e=some o∧o.dst=none∧(o.op=.mapUpdate mt x ix y∨o.op=.insert mt x ix y):=by
    rcases ho with ho|ho
    · obtain⟨o,h1,h2,h3⟩:=gT ho;exact⟨o,h1,h2,.inl h3⟩
    · obtain⟨o,h1,h2,h3⟩:=gT ho;exact⟨o,h1,h2,.inr h3⟩
  have hb:=s.ah n hL
  refine Op.skip h1 (R:=fun J h'=>J=.skip∧∃u D,cZ enc u D (iZ ks k v)∧h'=h.setIfInBounds m (.map u D)) ?_ ?_
  · intro w is
    obtain⟨u,D,hrun,G⟩:=Nt (P:=C.P) (w:=w) hT hK hR (by rw[is.heap];exact hb) k v
    refine⟨.skip,_,?_,(is.mD m (.map u D)).again,rfl,u,D,G,by simp[is.heap]⟩
    unfold fL execOp
    rcases h3 with h3|h3<;>simp only[h3,Sem.run_bind,hx,I,hy,hrun,Result.andThen_ok,Sem.run_pure]
  · rintro _ _ ⟨rfl,u,D,G,rfl⟩
    refine⟨rfl,fun hk=>(jm.set (.map u D) hb).jJ hM hk,?_⟩
    rw[h2]
    exact K u D _ G (s.mD n hL (.map u D))
theorem Op.BE {dst:Option Tmp} {x ix:Operand} {kt:TypeId} {k:κ} (ho:dS C i j e=some (dst,.call {callee:=.builtin .delete,args:=#[x,ix],argTypes:=#[mt,kt]})) (hT:mE C.P mt=some (d,z)) (hK:l9 d enc) (hx:e.ev x=.map (some m)) (G:e.ev ix=enc k)
    (s:St h0 g0 S0 g L h) (n:Nat) (hL:L[n]?=some [(m,.map es bf)]) (hR:cZ enc es bf ks) (hM:m<r.size→M m)
    (K:∀u h',cZ enc u bf (kJ ks k)→St h0 g0 S0 g (L.set n [(m,.map u bf)]) h'→Op C ds i r M Ls (e.gJ dst (.tuple #[])) h'):Op C ds i r M ((j,false)::Ls) e h:=by
  obtain⟨o,h1,h2,h3⟩:=gT ho
  have hb:=s.ah n hL
  refine Op.run h1 (R:=fun I h'=>I=.value (.tuple #[])∧∃u,cZ enc u bf (kJ ks k)∧h'=h.setIfInBounds m (.map u bf)) ?_ ?_
  · intro w is
    obtain⟨u,hrun,D⟩:=Nu (P:=C.P) (w:=w) (zN:=kt) (ty:=o.type) hT hK hR (by rw[is.heap];exact hb) k
    refine⟨.value (.tuple #[]),_,?_,(is.mD m (.map u bf)).again,rfl,u,D,by simp[is.heap]⟩
    refine qJ h3 (.inr (.inr (.inr (.inr (.inr (.inl rfl)))))) ?_
    simp only[qI,eR,kG,hx,G]
    exact hrun
  · rintro _ _ ⟨rfl,u,D,rfl⟩
    refine⟨_,rfl,fun hk=>(jm.set (.map u bf) hb).jJ hM hk,?_⟩
    rw[h2]
    exact K u _ D (s.mD n hL (.map u bf))
theorem Op.DL {dst:Nat} {x:Operand} {b:Bool} {n:Nat} (ho:dS C i j e=some (some dst,.call {callee:=.builtin .len,args:=#[x],argTypes:=#[mt]})) (hT:mE C.P mt=some (d,z)) (hx:e.ev x=.map (some m)) (hb0:b=false)
    (hb:h[m]?=some (.map es bf)) (hR:cZ enc es bf ks) (hn:ks.length=n) (K:Op C ds i r M Ls ((dst,.int .i64 (n:Int))::e) h):Op C ds i r M ((j,b)::Ls) e h:=by
  subst hb0
  subst hn
  obtain⟨o,h1,h2,h3⟩:=gT ho
  obtain⟨kt,et,G,hu,hd,hi,hz⟩:=xM hT
  refine Op.run h1 (R:=fun u h'=>u=.value (.int .i64 (ks.length:Int))∧h'=h) ?_ ?_
  · intro w is
    refine⟨_,w,?_,is.again,rfl,is.heap⟩
    refine qJ h3 (.inr (.inr (.inl rfl))) ?_
    simp only[qI,eR,kG,hx]
    have D:w.heap[m]?=some (.map es bf):=by rw[is.heap];exact hb
    simp[Builtin.len_,run_underlying hu,MapKept.run_getObj_map D,Result.andThen,hR.size,goInt]
  · rintro _ _ ⟨rfl,rfl⟩
    refine⟨_,rfl,fun hk=>hk,?_⟩
    rw[h2]
    exact K
theorem Op.makeMap {dst:Nat} (ho:dS C i j e=some (some dst,.makeMap mt none)) (s:St h0 g0 S0 g L h)
    (K:∀m h',St h0 g0 S0 g ([(m,.map #[] 0)]::L) h'→Op C ds i r M Ls ((dst,.map (some m))::e) h'):Op C ds i r M ((j,false)::Ls) e h:=by
  obtain⟨o,h1,h2,h3⟩:=gT ho
  refine Op.run h1 (R:=fun u h'=>u=.value (.map (some h.size))∧h'=h.push (.map #[] 0)) ?_ ?_
  · intro w is
    refine⟨.value (.map (some h.size)),{w with heap:=w.heap.push (.map #[] 0)},?_,⟨rfl,is.os,is.tape,is.output⟩,rfl,by rw[←is.heap]⟩
    unfold fL execOp
    simp only[h3,Instr.makeMap,Option.map_none,Sem.run_bind,run_newObj,Result.andThen_ok,Sem.run_pure,is.heap]
  · rintro _ _ ⟨rfl,rfl⟩
    refine⟨_,rfl,ez.push _,?_⟩
    rw[h2]
    exact K _ _ (s.alloc _)
theorem Op.wz {dst:Nat} {x:Operand} (ho:dS C i j e=some (some dst,.range mt x)) (hT:mE C.P mt=some (d,z)) (hx:e.ev x=.map (some m)) (hb:h[m]?=some (.map es bf)) (hR:cZ enc es bf ks) (s:St h0 g0 S0 g L h)
    (K:∀it o h',mF enc es bf m [] ks o→St h0 g0 S0 g ([(it,o)]::L) h'→Op C ds i r M Ls ((dst,.pointer (some ⟨it,0,none⟩))::e) h'):Op C ds i r M ((j,false)::Ls) e h:=by
  obtain⟨o,h1,h2,h3⟩:=gT ho
  obtain⟨kt,et,G,hu,hd,hi,hz⟩:=xM hT
  refine Op.run h1 (R:=fun u h'=>u=.value (.pointer (some ⟨h.size,0,none⟩))∧h'=h.push (.mapIter (some m) bf #[] bf)) ?_ ?_
  · intro w is
    have D:w.heap[m]?=some (.map es bf):=by rw[is.heap];exact hb
    refine⟨_,{w with heap:=w.heap.push (.mapIter (some m) bf #[] bf)},?_,⟨rfl,is.os,is.tape,is.output⟩,rfl,by rw[←is.heap]⟩
    unfold fL execOp
    simp only[h3,hx,Instr.range,Sem.run_bind,run_underlying hu,MapKept.run_getObj_map D,run_newObj,Result.andThen_ok,Sem.run_pure,is.heap]
  · rintro _ _ ⟨rfl,rfl⟩
    refine⟨_,rfl,ez.push _,?_⟩
    rw[h2]
    exact K _ _ _ (mF.start hR) (s.alloc _)
theorem Op.zO {dst:Nat} {x:Operand} {it:Nat} {o1:Obj} {vs rs:List (κ×Value)} (ho:dS C i j e=some (some dst,.next x false)) (hx:e.ev x=.pointer (some ⟨it,0,none⟩)) (hb:h[m]?=some (.map es bf)) (hR:cZ enc es bf ks) (hI:mF enc es bf m vs rs o1)
    (s:St h0 g0 S0 g L h) (n:Nat) (hL:L[n]?=some [(it,o1)]) (hM:it<r.size→M it)
    (K:(rs=[]→Op C ds i r M Ls ((dst,.tuple #[.bool false])::e) h)∧∀a k v b o2 h',rs=a++(k,v)::b→mF enc es bf m (vs++[(k,v)]) (a++b) o2→St h0 g0 S0 g (L.set n [(it,o2)]) h'→Op C ds i r M Ls ((dst,.tuple #[.bool true,enc k,v])::e) h'):Op C ds i r M ((j,false)::Ls) e h:=by
  obtain⟨o,h1,h2,h3⟩:=gT ho
  have hit:=s.ah n hL
  by_cases U:rs=[]
  · subst U
    refine Op.run h1 (R:=fun D h'=>D=.value (.tuple #[.bool false])∧h'=h) ?_ ?_
    · intro w is
      rcases GX (P:=C.P) (w:=w) (it:=it) (ty:=o.type) hR.2 hI (by rw[is.heap];exact hb) (by rw[is.heap];exact hit) with ⟨_,w',hrun,hw1,G,I,J⟩|⟨a,k,v,b,o',w',u,_⟩
      · refine⟨_,w',?_,⟨rfl,G.trans is.os,I.trans is.tape,J.trans is.output⟩,rfl,hw1.trans is.heap⟩
        unfold fL execOp
        simp only[h3,hx,Sem.run_bind,hrun,Result.andThen_ok,Sem.run_pure]
      · simp at u
    · rintro _ _ ⟨rfl,rfl⟩
      refine⟨_,rfl,fun hk=>hk,?_⟩
      rw[h2]
      exact K.1 rfl
  · refine Op.run h1 (R:=fun D h'=>∃a k v b o2,D=.value (.tuple #[.bool true,enc k,v])∧rs=a++(k,v)::b∧h'=h.setIfInBounds it o2∧mF enc es bf m (vs++[(k,v)]) (a++b) o2) ?_ ?_
    · intro w is
      rcases GX (P:=C.P) (w:=w) (it:=it) (ty:=o.type) hR.2 hI (by rw[is.heap];exact hb) (by rw[is.heap];exact hit) with ⟨h,_⟩|⟨a,k,v,b,o',w',u,hrun,hw1,G,I,J,O⟩
      · exact absurd h U
      · refine⟨_,w',?_,⟨rfl,G.trans is.os,I.trans is.tape,J.trans is.output⟩,a,k,v,b,o',rfl,u,by rw[hw1,is.heap],O⟩
        unfold fL execOp
        simp only[h3,hx,Sem.run_bind,hrun,Result.andThen_ok,Sem.run_pure]
    · rintro _ _ ⟨a,k,v,b,o2,rfl,u,rfl,O⟩
      refine⟨_,rfl,fun hk=>(jm.set o2 hit).jJ hM hk,?_⟩
      rw[h2]
      exact K.2 a k v b o2 _ u O (s.mD n hL o2)
theorem Op.zP {dst:Nat} {x:Operand} {it:Nat} {o1:Obj} {vs rs:List (κ×Value)} {k:κ} {v:Value} (ho:dS C i j e=some (some dst,.entry x)) (hx:e.ev x=.pointer (some ⟨it,0,none⟩)) (hb:h[m]?=some (.map es bf)) (hR:cZ enc es bf ks) (hI:mF enc es bf m (vs++[(k,v)]) rs o1)
    (hit:h[it]?=some o1) (K:Op C ds i r M Ls ((dst,.tuple #[enc k,v])::e) h):Op C ds i r M ((j,false)::Ls) e h:=by
  obtain⟨o,h1,h2,h3⟩:=gT ho
  refine Op.run h1 (R:=fun I h'=>I=.value (.tuple #[enc k,v])∧h'=h) ?_ ?_
  · intro w is
    refine⟨_,w,?_,is.again,rfl,is.heap⟩
    obtain⟨u,rest,rfl,hp,hv,hr⟩:=hI
    obtain⟨ab,y,b',e1,e2,e3,J⟩:=DK (f:=fun p:κ×Value=>(enc p.1,p.2)) (g:=fun e:MapEntry=>(e.key,e.val)) hv.symm (a:=vs) (x:=(k,v)) (b:=[]) rfl
    have hb':b'=[]:=by cases b' with
      |nil=>rfl
      |cons q b'=>simp at J
    subst hb'
    simp only[iM] at e3
    have D:y∈es.toList:=hp.mem_iff.1 (by rw[e1];simp)
    have O:w.heap[m]?=some (.map es bf):=by rw[is.heap];exact hb
    have U:((u.map (·.born)).toArray).back?=some y.born:=by rw[e1];simp
    have hfind:es.find? (fun x=>x.born==y.born)=some y:=by
      cases hf:es.find? (fun x=>x.born==y.born) with
      |none=>
       rw[GO] at hf
       have:=hf y (by simpa using D)
       simp at this
      |some z=>
       have h5:=Array.find?_some hf
       have h6:z∈es.toList:=by simpa using GP hf
       have h7:z.born=y.born:=by simpa using h5
       have V:=hR.2.2.1
       obtain⟨X,hi1⟩:=qa.1 h6
       obtain⟨i2,hi2⟩:=qa.1 D
       have G:(es.toList.map (·.born))[X]?=some y.born:=by rw[jU,hi1];simp[h7]
       have Y:(es.toList.map (·.born))[i2]?=some y.born:=by rw[jU,hi2];rfl
       have hlt:=(fT.1 G).1
       have:=(Bx hlt V).1 (G.trans Y.symm)
       subst this
       rw[hi1] at hi2
       exact congrArg some (fK hi2)
    have hg:(getObj it).run C.P w=.ok (.mapIter (some m) bf (u.map (·.born)).toArray bf) w:=by simp[getObj,Sem.run,is.heap,hit]
    unfold fL execOp
    have hrun:(Instr.entry (e.ev x)).run C.P w=.ok (.tuple #[enc k,v]) w:=by
      unfold Instr.entry
      simp only[hx,Sem.run_bind,hg,Result.andThen_ok,U,MapKept.run_getObj_map O,hfind,bne_self_eq_false,gA,dV,Sem.run_pure]
      rw[←e3.1,←e3.2]
    simp only[h3,Sem.run_bind,hrun,Result.andThen_ok,Sem.run_pure]
  · rintro _ _ ⟨rfl,rfl⟩
    refine⟨_,rfl,fun hk=>hk,?_⟩
    rw[h2]
    exact K
theorem Op.qM {dst:Nat} {x ix:Operand} {ok:Bool} {k:κ} {v:Value} (ho:dS C i j e=some (some dst,.lookup mt x ix ok)) (hT:mE C.P mt=some (d,z)) (hK:l9 d enc) (hx:e.ev x=.map (some m)) (u:e.ev ix=enc k)
    (hb:h[m]?=some (.map es bf)) (hR:cZ enc es bf ks) (hv:fZ ks k=some v) (K:Op C ds i r M Ls ((dst,if ok then .tuple #[v,.bool true] else v)::e) h):Op C ds i r M ((j,false)::Ls) e h:=
  Op.GY ho hT hK hx u hb hR (by rw[hv];exact K)
theorem Op.uH {dst:Nat} {x ix:Operand} {ok:Bool} {k:κ} (ho:dS C i j e=some (some dst,.lookup mt x ix ok)) (hT:mE C.P mt=some (d,z)) (hK:l9 d enc) (hx:e.ev x=.map (some m)) (u:e.ev ix=enc k)
    (hb:h[m]?=some (.map es bf)) (hR:cZ enc es bf ks) (hv:fZ ks k=none) (K:Op C ds i r M Ls ((dst,if ok then .tuple #[z,.bool false] else z)::e) h):Op C ds i r M ((j,false)::Ls) e h:=
  Op.GY ho hT hK hx u hb hR (by rw[hv];exact K)
end
section
variable {C:fP} {ds:List Deferred} {i j:Nat} {r:ax} {M:Nat→Prop} {L Ls:List (Nat×Bool)} {e e':Env} {h:ax}
variable {h0:ax} {g0:GH} {S0:Nat→Prop} {g:GH} {Lk:List ay}
theorem Op.ms (z:Value) (mt:TypeId) (x ix y:Operand) (k:Int) (v:Value) {es:Array MapEntry} {bf:Nat} {ks:List (Int×Value)} {m:Nat} (s:St h0 g0 S0 g Lk h) (n:Nat) (hR:cZ encI es bf ks)
    (K:∀u D h',cZ encI u D (iZ ks k v)→St h0 g0 S0 g (Lk.set n [(m,.map u D)]) h'→Op C ds i r M Ls e h')
    (hL:Lk[n]?=some [(m,.map es bf)]:=by rfl) (ho:dS C i j e=some (none,.mapUpdate mt x ix y):=by kernel_rfl) (hT:mE C.P mt=some (.int .i64,z):=by kernel_rfl) (hx:e.ev x=.map (some m):=by kernel_rfl) (G:e.ev ix=encI k:=by kernel_rfl) (hy:e.ev y=v:=by kernel_rfl) (hM:m<r.size→M m:=by exact fun _=>trivial):Op C ds i r M ((j,false)::Ls) e h:=Op.oM (.inl ho) hT mc hx G hy s n hL hR hM K
theorem Op.mk (z:Value) (mt:TypeId) (x ix:Operand) (dst:Nat) (k:Int) (v:Value) {es:Array MapEntry} {bf:Nat} {ks:List (Int×Value)} {m:Nat} (hb:h[m]?=some (.map es bf)) (hR:cZ encI es bf ks) (hv:fZ ks k=some v) (K:Op C ds i r M Ls ((dst,v)::e) h)
    (ho:dS C i j e=some (some dst,.lookup mt x ix false):=by kernel_rfl) (hT:mE C.P mt=some (.int .i64,z):=by kernel_rfl) (hx:e.ev x=.map (some m):=by kernel_rfl) (u:e.ev ix=encI k:=by kernel_rfl):Op C ds i r M ((j,false)::Ls) e h:=Op.qM (ok:=false) ho hT mc hx u hb hR hv K
theorem Op.mn (z:Value) (mt:TypeId) (x ix:Operand) (dst:Nat) (k:Int) {es:Array MapEntry} {bf:Nat} {ks:List (Int×Value)} {m:Nat} (hb:h[m]?=some (.map es bf)) (hR:cZ encI es bf ks) (hv:fZ ks k=none) (K:Op C ds i r M Ls ((dst,z)::e) h)
    (ho:dS C i j e=some (some dst,.lookup mt x ix false):=by kernel_rfl) (hT:mE C.P mt=some (.int .i64,z):=by kernel_rfl) (hx:e.ev x=.map (some m):=by kernel_rfl) (u:e.ev ix=encI k:=by kernel_rfl):Op C ds i r M ((j,false)::Ls) e h:=Op.uH (ok:=false) ho hT mc hx u hb hR hv K
end
open Go
def rl:Nat→Nat→List (Nat×Bool)
  |0,_=>[]
  |n+1,k=>(k,false)::rl n (k+1)
namespace Env
theorem GZ (a b:Env) (t:Nat):get (a++b) t=(match get a t with|some v=>some v|none=>get b t):=by
  induction a with
  |nil=>rfl
  |cons p a ih=>
   obtain⟨k,v⟩:=p
   simp only[dW,get]
   cases Nat.beq k t with
   |true=>rfl
   |false=>exact ih
theorem Nv {a:Env} {q:Nat×Value→Bool} (h:a.all q=true) {t:Nat} {v:Value} (hv:get a t=some v):q (t,v)=true:=by
  induction a with
  |nil=>cases hv
  |cons p a ih=>
   obtain⟨k,u⟩:=p
   rw[j5,b_] at h
   by_cases hk:k=t
   · subst hk
     simp[get] at hv
     rw[←hv];exact h.1
   · rw[get,sS hk] at hv
     exact ih h.2 hv
theorem G0 {q:Env}:∀{N:Env},N.map (fun p=>q.get p.1)=N.map (fun p=>some p.2)→∀{t:Nat} {v:Value},N.get t=some v→q.get t=some v
  |[],_,t,v,hn=>by cases hn
  |(k,w)::N,h1,t,v,hn=>by
   simp only[eR,xp] at h1
   by_cases hk:k=t
   · subst hk;simp[get] at hn;rw[h1.1,hn]
   · rw[get,sS hk] at hn;exact G0 h1.2 hn
def news (u e N:Env):List (Option Value)×Bool:=(N.map fun p=>u.get p.1,(u.take (u.length-e.length)).all fun p=>(N.get p.1).isSome||!(e.get p.1).isSome)
theorem Nw {e D N:Env} (h:news (D++e) e N=(N.map (fun p=>some p.2),true)) (t:Nat) (v:Value) (hv:(N++e).get t=some v):(D++e).get t=some v:=by
  unfold news at h
  simp only[iM,cA,Nat.add_sub_cancel,AU] at h
  obtain⟨h1,h2⟩:=h
  rw[GZ] at hv
  cases hn:N.get t with
  |some u=>
   rw[hn] at hv
   simp only[fu] at hv
   subst hv
   clear h2
   exact G0 h1 hn
  |none=>
   rw[hn] at hv
   simp only at hv
   rw[GZ]
   cases hd:D.get t with
   |none=>exact hv
   |some u=>
    have:=Nv h2 hd
    simp only[hn,hv,Option.isSome_none,Option.isSome_some,nk,Bool.or_self,gA] at this
end Env
theorem jw.sub {e e':Env} {n:Nat} {ds:List Deferred} {a:Act} (f:jw e n ds a) (h:∀t v,e'.get t=some v→e.get t=some v):jw e' n ds a:=⟨f.defers,f.size,fun t v hv=>f.get t v (h t v hv)⟩
theorem DM {P:Program} {n:Nat} {ops:Array Oper}:∀(m:Nat) (L:List (Nat×Bool)) (e:Env) {G:List (Nat×Bool)} {D:Env},mR P n ops m L e=some (G,D)→G=L.drop m∧∃u,D=u++e
  |0,L,e,_,_,h=>by simp only[mR,fu,iM] at h;obtain⟨rfl,rfl⟩:=h;exact⟨rfl,[],rfl⟩
  |_+1,[],e,_,_,h=>by simp[mR] at h
  |m+1,(j,b)::L,e,_,_,h=>by
   have put:∀(d:Option Tmp) (v:Value) {u:Env} {D:Env},D=u++e.gJ d v→∃I,D=I++e:=fun d v u D h=>by
     cases d with
     |none=>exact⟨u,h⟩
     |some t=>exact⟨u++[(t,v)],by rw[h];simp[Env.gJ]⟩
   simp only[mR] at h
   split at h
   · cases h
   · split at h
     · split at h
       · cases h
       · obtain⟨h1,u,h2⟩:=DM m L _ h;exact⟨h1,put _ _ h2⟩
       · split at h
         · split at h
           · obtain⟨h1,u,h2⟩:=DM m L _ h;exact⟨h1,put _ _ h2⟩
           · cases h
         · cases h
     · cases h
section
variable {C:fP} {ds:List Deferred} {i:Nat} {r:ax} {M:Nat→Prop} {L:List (Nat×Bool)} {e:Env} {h:ax}
theorem Op.sub {e':Env} (hs:∀t v,e'.get t=some v→e.get t=some v) (K:Op C ds i r M L e' h):Op C ds i r M L e h:=fun a w f is hk=>K a w (f.sub hs) is hk
theorem Op.px (m:Nat) (N:Env) (K:Op C ds i r M (L.drop m) (N++e) h)
    (hp:(mR C.P C.n (jx (pt C.code i)) m L e).map (fun x=>Env.news x.2 e N)=some (N.map (fun p=>some p.2),true):=by kernel_rfl):Op C ds i r M L e h:=by
  obtain⟨⟨u,D⟩,h1,h2⟩:=pN.1 hp
  obtain⟨rfl,G,rfl⟩:=DM m L e h1
  exact Op.run_pure h1 (Op.sub (fun t v hv=>Env.Nw h2 t v hv) K)
theorem Op.pg (j:Nat) (N:Env) (K:At C ds j (N++e) h)
    (hp:(mR C.P C.n (jx (pt C.code i)) L.length L e).map (fun x=>Env.news x.2 e N)=some (N.map (fun p=>some p.2),true):=by kernel_rfl) (hj:norm 1000 (pt C.code i).tail=pt C.code j:=by kernel_rfl):Op C ds i r M L e h:=by
  refine Op.px L.length N ?_ hp
  rw[List.drop_length]
  exact Op.goto j hj K
theorem Op.gt (j:Nat) (K:At C ds j e h) (hj:norm 1000 (pt C.code i).tail=pt C.code j:=by kernel_rfl):Op C ds i r M [] e h:=Op.goto j hj K
theorem At.rg (n:Nat) (K:Op C ds i #[] (fun _=>True) (rl n 0) e h) (hL:xx (pt C.code i)=some (rl n 0):=by kernel_rfl):At C ds i e h:=At.C6 hL K
theorem At.rp (n m:Nat) (N:Env) (K:Op C ds i #[] (fun _=>True) ((rl n 0).drop m) (N++e) h) (hL:xx (pt C.code i)=some (rl n 0):=by kernel_rfl)
    (hp:(mR C.P C.n (jx (pt C.code i)) m (rl n 0) e).map (fun x=>Env.news x.2 e N)=some (N.map (fun p=>some p.2),true):=by kernel_rfl):At C ds i e h:=At.C6 hL (Op.px m N K hp)
theorem At.go (j n:Nat) (N:Env) (K:At C ds j (N++e) h) (hL:xx (pt C.code i)=some (rl n 0):=by kernel_rfl)
    (hp:(mR C.P C.n (jx (pt C.code i)) (rl n 0).length (rl n 0) e).map (fun x=>Env.news x.2 e N)=some (N.map (fun p=>some p.2),true):=by kernel_rfl) (hj:norm 1000 (pt C.code i).tail=pt C.code j:=by kernel_rfl):At C ds i e h:=
  At.C6 hL (Op.pg j N K hp hj)
theorem DN {e:Env} {t:Nat} {v:Value} (h:e.get t=some v):e.sU (.tmp t)=true:=by simp[Env.sU,h]
theorem DO {e:Env} {t:Nat} {v:Value} (h:e.get t=some v):e.ev (.tmp t)=v:=by simp[Env.ev,h]
theorem At.di (b:Bool) (t u D:Nat) (ht:b=true→At C ds u e h) (hf:b=false→At C ds D e h) (hc:pZ (pt C.code i)=some (.tmp t):=by kernel_rfl) (hv:e.get t=some (.bool b):=by kernel_rfl)
    (h1:norm 1000 (Sw.qD (pt C.code i))=pt C.code u:=by kernel_rfl) (h2:norm 1000 (Sw.qE (pt C.code i))=pt C.code D:=by kernel_rfl):At C ds i e h:=At.cond hc (DN hv) (DO hv) u D h1 h2 ht hf
theorem At.bW (t u:Nat) (K:At C ds u e h) (hc:pZ (pt C.code i)=some (.tmp t):=by kernel_rfl) (hv:e.get t=some (.bool true):=by kernel_rfl) (h1:norm 1000 (Sw.qD (pt C.code i))=pt C.code u:=by kernel_rfl):At C ds i e h:=
  At.qD hc (DN hv) (DO hv) u h1 K
theorem At.dK (t u:Nat) (K:At C ds u e h) (hc:pZ (pt C.code i)=some (.tmp t):=by kernel_rfl) (hv:e.get t=some (.bool false):=by kernel_rfl) (h1:norm 1000 (Sw.qE (pt C.code i))=pt C.code u:=by kernel_rfl):At C ds i e h:=
  At.qE hc (DN hv) (DO hv) u h1 K
theorem Op.sb (k:Nat) {b v:Bool} (hb:b=v) (K:Op C ds i r M L ((k,.bool v)::e) h) (hv:e.get k=some (.bool b):=by kernel_rfl):Op C ds i r M L e h:=by
  subst hb
  refine Op.sub (fun t u hu=>?_) K
  by_cases hk:k=t
  · subst hk;simp[Env.get] at hu;rw[hv,hu]
  · rw[Env.get,sS hk] at hu;exact hu
theorem Op.wb (b:Bool) (k:Nat) (ht:b=true→Op C ds i r M L ((k,.bool true)::e) h) (hf:b=false→Op C ds i r M L ((k,.bool false)::e) h) (hv:e.get k=some (.bool b):=by kernel_rfl):Op C ds i r M L e h:=by
  cases b with
  |true=>exact Op.sb k rfl (ht rfl) hv
  |false=>exact Op.sb k rfl (hf rfl) hv
theorem G1 {e e':Env} (hp:e'.map (fun p=>e.get p.1)=e'.map (fun p=>some p.2)) (t:Nat) (v:Value) (hv:e'.get t=some v):e.get t=some v:=by
  induction e' with
  |nil=>cases hv
  |cons p e' ih=>
   obtain⟨k,w⟩:=p
   simp only[eR,xp] at hp
   by_cases hk:k=t
   · subst hk;simp[Env.get] at hv;rw[hp.1,hv]
   · rw[Env.get,sS hk] at hv;exact ih hp.2 hv
theorem At.kp (e':Env) (K:At C ds i e' h) (hp:e'.map (fun p=>e.get p.1)=e'.map (fun p=>some p.2):=by kernel_rfl):At C ds i e h:=fun a w f is=>K a w (f.sub (G1 hp)) is
theorem Op.kp (e':Env) (K:Op C ds i r M L e' h) (hp:e'.map (fun p=>e.get p.1)=e'.map (fun p=>some p.2):=by kernel_rfl):Op C ds i r M L e h:=Op.sub (G1 hp) K
variable {j:Nat} {Ls:List (Nat×Bool)} {h0:ax} {g0:GH} {S0:Nat→Prop} {g:GH} {Lk:List ay}
theorem Op.c1 (d:Nat) {f:FuncId} {args:Array Value} {u:Value} (H:aE C.P C.B f args h g [] (fun D g' L'=>D=u∧g'=g∧L'=[])) (s:St h0 g0 S0 g Lk h)
    (K:∀h',St h0 g0 S0 g Lk h'→Op C ds i r M Ls ((d,u)::e) h') (ho:s5 C i j e=some (some d,f,args):=by kernel_rfl):Op C ds i r M ((j,false)::Ls) e h:=by
  refine Op.Ge ho s H ?_
  rintro _ g' _ h' hle G ⟨rfl,rfl,rfl⟩
  exact K h' G
theorem Op.c0 (d:Option Nat) {f:FuncId} {args:Array Value} {u:Value→GH→List ay→Prop} (H:aE C.P C.B f args h g [] u) (s:St h0 g0 S0 g Lk h)
    (K:∀v g' D h',aM g g'→St h0 g0 S0 g' (D++Lk) h'→u v g' D→Op C ds i r M Ls (e.gJ d v) h') (ho:s5 C i j e=some (d,f,args):=by kernel_rfl):Op C ds i r M ((j,false)::Ls) e h:=Op.Ge ho s H K
theorem Op.ld {n:Nat} (T:TypeId) (x:Operand) (d o:Nat) (v:Value) {b:Nat} {cs:Array Value} {u:TypeId} {fz:Nat×Nat} (hb:h[b]?=some (.cells cs u fz))
    (K:Op C ds i r M Ls ((d,v)::e) h) (hv:cs[o]?=some v:=by kernel_rfl) (ho:dS C i j e=some (some d,.load T x):=by kernel_rfl) (hx:e.ev x=.pointer (some ⟨b,o,none⟩):=by kernel_rfl)
    (hT:l5 C.P T=some (false,1):=by kernel_rfl):Op C ds i r M ((j,false)::Ls) e h:=Op.load ho hx hT hb hv K
theorem Op.la (T:TypeId) (x:Operand) (d o n:Nat) (vs:List Value) {b:Nat} {cs:Array Value} {u:TypeId} {fz:Nat×Nat} (hb:h[b]?=some (.cells cs u fz))
    (K:Op C ds i r M Ls ((d,.agg vs.toArray)::e) h) (hv:cut cs o n=vs:=by kernel_rfl) (ho:dS C i j e=some (some d,.load T x):=by kernel_rfl) (hx:e.ev x=.pointer (some ⟨b,o,none⟩):=by kernel_rfl)
    (hT:l5 C.P T=some (true,n):=by kernel_rfl) (hl:vs.length=n:=by rfl):Op C ds i r M ((j,false)::Ls) e h:=Op.Mw ho hx hT hb hv hl K
theorem Op.s1 (T:TypeId) (x y:Operand) (o:Nat) (v:Value) (k:Nat) (cs':Array Value) {b:Nat} {cs:Array Value} {D:TypeId} (s:St h0 g0 S0 g Lk h) (hM:b<r.size→M b)
    (K:∀h',St h0 g0 S0 g (Lk.set k [(b,.cells cs' D (0,0))]) h'→Op C ds i r M Ls e h') (hk:Lk[k]?=some [(b,.cells cs D (0,0))]:=by rfl) (hv:v.oneCell'=true:=by rfl)
    (ho:dS C i j e=some (none,.store T x y):=by kernel_rfl) (hx:e.ev x=.pointer (some ⟨b,o,none⟩):=by kernel_rfl) (hy:(e.ev y).cells.toList=[v]:=by kernel_rfl)
    (hT:l5 C.P T=some (false,1):=by kernel_rfl) (G:Nat.ble (o+1) cs.size=true:=by kernel_rfl) (hcs:splice cs o [v]=cs':=by kernel_rfl):Op C ds i r M ((j,false)::Ls) e h:=
  Op.store ho hx hy hT rfl (fun u hu=>by rw[iw.1 hu];exact hv) s k hk (kV G) hcs hM K
theorem Op.al (d:Nat) (T:TypeId) (cs:Array Value) (s:St h0 g0 S0 g Lk h) (K:∀b h',St h0 g0 S0 g ([(b,.cells cs T (0,0))]::Lk) h'→Op C ds i r M Ls ((d,.pointer (some ⟨b,0,none⟩))::e) h')
    (ho:dS C i j e=some (some d,.alloc T):=by kernel_rfl) (hz:(C.P.info? T).bind (fun t=>t.zero.map Value.cells)=some cs:=by kernel_rfl):Op C ds i r M ((j,false)::Ls) e h:=Op.alloc ho hz s K
theorem Op.vl (d:Nat) (v u:Value) {b:Bool} (hv:v=u) (K:Op C ds i r M Ls ((d,u)::e) h) (ho:valOf C i j e=some (some d,v):=by kernel_rfl):Op C ds i r M ((j,b)::Ls) e h:=Op.val ho hv K
theorem Op.cE (d:Nat) (n:Int) {b:Bool} (h0: -9223372036854775808≤n) (h1:n≤9223372036854775807) (K:Op C ds i r M Ls ((d,.int .i64 n)::e) h) (ho:valOf C i j e=some (some d,.int .i64 (IntKind.wrap .i64 n)):=by kernel_rfl):
    Op C ds i r M ((j,b)::Ls) e h:=Op.val ho (oI h0 h1) K
theorem Op.ix (T E:TypeId) (sz dx:Nat) (n c:Nat) (x ix:Operand) (d u o:Nat) (m:Int) {b:Bool} (h0:0≤m) (h1:m<n) (K:Op C ds i r M Ls ((d,.pointer (some ⟨u,o+m.toNat*sz,none⟩))::e) h)
    (ho:dS C i j e=some (some d,.indexAddr T x ix):=by kernel_rfl) (hE:l6 C.P T=some (E,sz,dx):=by kernel_rfl) (hx:e.ev x=.slice (some ⟨u,o,none⟩) n c:=by kernel_rfl) (D:e.ev ix=.int .i64 m:=by kernel_rfl):
    Op C ds i r M ((j,b)::Ls) e h:=Op.gv ho hE hx D h0 h1 K
theorem Op.sa (T T':TypeId) (x y:Operand) (d:Nat) (l m:an) {b:Bool} (hl:l.length+m.length≤9223372036854775807) (K:Op C ds i r M Ls ((d,.string (bp (l++m)))::e) h)
    (ho:dS C i j e=some (some d,.binOp .add T x y T'):=by kernel_rfl) (hx:e.ev x=.string (bp l):=by kernel_rfl) (hy:e.ev y=.string (bp m):=by kernel_rfl):Op C ds i r M ((j,b)::Ls) e h:=Op.MI ho hx hy hl K
theorem Op.sv {ky:IntKind} (T T':TypeId) (x y:Operand) (d:Nat) (a n v:Int) {b:Bool} (h0:0≤n) (hv:Value.int .i64 (IntKind.wrap .i64 (a*2 ^ (min n.toNat (IntKind.bits .i64))))=.int .i64 v) (K:Op C ds i r M Ls ((d,.int .i64 v)::e) h)
    (ho:dS C i j e=some (some d,.binOp .shl T x y T'):=by kernel_rfl) (hx:e.ev x=.int .i64 a:=by kernel_rfl) (hy:e.ev y=.int ky n:=by kernel_rfl):Op C ds i r M ((j,b)::Ls) e h:=by
  refine Op.free ho (fun o ho w=>?_) (by rw[←hv] at K;exact K)
  simp only[execOp,ho,hx,hy,eqGuard,Sem.run_bind,Sem.run_pure]
  have hn:¬n<0:=by omega
  simp only[binOp,Op.shift,hn,dV,Sem.run_pure,uC,jl,Result.andThen_ok]
end
theorem At.rt {P:Program} {B:World} {fn:FuncId} {f:Func} {R:Value→ax→Prop} {i:Nat} {e:Env} {h:ax} (v:Value) (H:R v h) (hi:oH (pt (dz f) i)=true:=by kernel_rfl)
    (hv:v7 f e=some v:=by kernel_rfl):At (bX P B fn f R) [] i e h:=At.ret hi hv H
theorem aE.Nx {P:Program} {B:World} {fn:FuncId} {f:Func} {args:Array Value} {h:ax} {g:GH} {Lc:List ay} {u:Value→GH→List ay→Prop} (hf:P.funcs[fn]?=some f)
    (H:∀R:Value→ax→Prop,(∀v h' g' D,St h g (aV Lc) g' D h'→u v g' D→R v h')→At (bX P B fn f R) [] 0 (sW args.toList 0) h) (hb:f.body.isSome=true:=by kernel_rfl) (hn:Nat.ble args.size f.ntmps=true:=by kernel_rfl)
    (h0:norm 1000 [.code (sV f)]=pt (dz f) 0:=by kernel_rfl):aE P B fn args h g Lc u:=aE.uB hf hb (kV hn) rfl h0 H
def cat:List ay→ay
  |[]=>[]
  |[c]=>c
  |c::L=>c++cat L
theorem wA:∀L:List ay,cat L=L.flatten
  |[]=>rfl
  |[c]=>by simp[cat]
  |c::d::L=>by show c++cat (d::L)=_;rw[wA (d::L),cH,cH];rfl
def pk:List ay→ay
  |[p]::L=>p::cat L
  |L=>cat L
theorem Ny (L:List ay):pk L=L.flatten:=by
  rcases L with _|⟨c,L⟩
  · rfl
  · rcases c with _|⟨p,c⟩
    · exact wA _
    · rcases c with _|⟨q,c⟩
      · show p::cat L=_;rw[wA,cH];rfl
      · exact wA _
section
variable {h0:ax} {g0:GH} {S0:Nat→Prop} {g:GH} {L:List ay} {h:ax}
theorem St.nl (s:St h0 g0 S0 g L h):St h0 g0 S0 g ([]::L) h:=St.bu (L:=L) rfl s
theorem St.bJ {Q:ay→Prop} (n:Nat) (s:St h0 g0 S0 g L h) (hx:Q (pk (L.take n))):∃c,Q c∧St h0 g0 S0 g (c::L.drop n) h:=
  ⟨_,hx,St.bu (by rw[cH,Ny,←nO,od]) s⟩
end
theorem lK {α:Type} {l:List α} {i:Int} (h:i.toNat<l.length):∃c,l[i.toNat]?=some c:=⟨_,oG h⟩
abbrev vI (n:Int):Value:=.int .i64 n
abbrev vS (l:an):Value:=.string (bp l)
abbrev vP (b:Nat):Value:=.pointer (some ⟨b,0,none⟩)
abbrev vL (a:Option Addr) (n c:Nat):Value:=.slice a n c
section
variable {C:fP} {ds:List Deferred} {i j:Nat} {r:ax} {M:Nat→Prop} {L Ls:List (Nat×Bool)} {e e':Env} {h:ax}
variable {h0:ax} {g0:GH} {S0:Nat→Prop} {g:GH} {Lk:List ay}
theorem At.ke (K:At C ds i e' h) (hp:e'.map (fun p=>e.get p.1)=e'.map (fun p=>some p.2):=by kernel_rfl):At C ds i e h:=At.kp e' K hp
theorem At.fd (p:Prop) [Decidable p] (t u D:Nat) (ht:p→At C ds u e h) (hf:¬p→At C ds D e h) (hc:pZ (pt C.code i)=some (.tmp t):=by kernel_rfl) (hv:e.get t=some (.bool (decide p)):=by kernel_rfl)
    (h1:norm 1000 (Sw.qD (pt C.code i))=pt C.code u:=by kernel_rfl) (h2:norm 1000 (Sw.qE (pt C.code i))=pt C.code D:=by kernel_rfl):At C ds i e h:=
  At.di (decide p) t u D (fun h=>ht (gp h)) (fun h=>hf (jq h)) hc hv h1 h2
theorem At.fn (p:Prop) [Decidable p] (t u D:Nat) (ht:¬p→At C ds u e h) (hf:p→At C ds D e h) (hc:pZ (pt C.code i)=some (.tmp t):=by kernel_rfl) (hv:e.get t=some (.bool (!decide p)):=by kernel_rfl)
    (h1:norm 1000 (Sw.qD (pt C.code i))=pt C.code u:=by kernel_rfl) (h2:norm 1000 (Sw.qE (pt C.code i))=pt C.code D:=by kernel_rfl):At C ds i e h:=
  At.di (!decide p) t u D (fun h=>ht (by simpa using h)) (fun h=>hf (by simpa using h)) hc hv h1 h2
theorem Op.wd (p:Prop) [Decidable p] (k:Nat) (ht:p→Op C ds i r M L ((k,.bool true)::e) h) (hf:¬p→Op C ds i r M L ((k,.bool false)::e) h) (hv:e.get k=some (.bool (decide p)):=by kernel_rfl):Op C ds i r M L e h:=
  Op.wb (decide p) k (fun h=>ht (gp h)) (fun h=>hf (jq h)) hv
theorem At.kB (k:Nat) {b v:Bool} (hb:b=v) (K:At C ds i ((k,.bool v)::e) h) (hv:e.get k=some (.bool b):=by kernel_rfl):At C ds i e h:=by
  subst hb
  refine fun a w f is=>K a w (f.sub fun t u hu=>?_) is
  by_cases hk:k=t
  · subst hk;simp[Env.get] at hu;rw[hv,hu]
  · rw[Env.get,sS hk] at hu;exact hu
theorem At.kT (k:Nat) {p:Prop} [Decidable p] (hp:p) (K:At C ds i ((k,.bool true)::e) h) (hv:e.get k=some (.bool (decide p)):=by kernel_rfl):At C ds i e h:=At.kB k (eu hp) K hv
theorem At.nT (k:Nat) {p:Prop} [Decidable p] (hp:¬p) (K:At C ds i ((k,.bool true)::e) h) (hv:e.get k=some (.bool (!decide p)):=by kernel_rfl):At C ds i e h:=At.kB k (by simp[hp]) K hv
theorem Op.sg (T:TypeId) (x y:Operand) (o k:Nat) (cs':Array Value) {b:Nat} {cs:Array Value} {u:TypeId} (s:St h0 g0 S0 g Lk h) (hM:b<r.size→M b)
    (K:∀h',St h0 g0 S0 g (Lk.set k [(b,.cells cs' u (0,0))]) h'→Op C ds i r M Ls e h') (hk:Lk[k]?=some [(b,.cells cs u (0,0))]:=by rfl)
    (ho:dS C i j e=some (none,.store T x y):=by kernel_rfl) (hx:e.ev x=.pointer (some ⟨b,o,none⟩):=by kernel_rfl) (hT:l5 C.P T=some (true,(e.ev y).cells.toList.length):=by kernel_rfl)
    (h1:(e.ev y).cells.toList.all (·.oneCell')=true:=by kernel_rfl) (D:Nat.ble (o+(e.ev y).cells.toList.length) cs.size=true:=by kernel_rfl) (hcs:splice cs o (e.ev y).cells.toList=cs':=by kernel_rfl):Op C ds i r M ((j,false)::Ls) e h:=
  Op.store ho hx rfl hT rfl (ic.1 h1) s k hk (kV D) hcs hM K
theorem Op.bx (d:Nat) (T:TypeId) (x:Operand) (cs:Array Value) (s:St h0 g0 S0 g Lk h) (K:∀b h',St h0 g0 S0 g ([(b,.cells cs T (0,0))]::Lk) h'→Op C ds i r M Ls ((d,.pointer (some ⟨b,0,none⟩))::e) h')
    (ho:dS C i j e=some (some d,.box T x):=by kernel_rfl) (hc:(e.ev x).cells=cs:=by kernel_rfl):Op C ds i r M ((j,false)::Ls) e h:=Op.box ho hc s K
def G2 (C:fP) (i j:Nat) (e:Env):Option (Nat×Nat×TypeId×Array Value):=
  match dS C i j e with
  |some (some d,.buildSlice T len jy)=>(Dm C.P T len (jy.map fun(k,x)=>(k,e.ev x)).toList).map fun q=>(d,len,q.1,q.2)
  |_=>none
theorem Op.ls (d len:Nat) (E:TypeId) (cs:Array Value) (s:St h0 g0 S0 g Lk h) (K:∀b h',St h0 g0 S0 g ([(b,.cells cs E (0,0))]::Lk) h'→Op C ds i r M Ls ((d,.slice (some ⟨b,0,none⟩) len len)::e) h')
    (ho:G2 C i j e=some (d,len,E,cs):=by kernel_rfl):Op C ds i r M ((j,false)::Ls) e h:=by
  unfold G2 at ho
  split at ho
  · rename_i u T D jy hq
    obtain⟨q,h1,h2⟩:=pN.1 ho
    obtain⟨G,I⟩:=q
    simp only[iM] at h2
    obtain⟨rfl,rfl,rfl,rfl⟩:=h2
    exact Op.lit hq rfl h1 s K
  · cases ho
theorem Op.cl (d:Option Nat) (n:Nat) {f:FuncId} {args:Array Value} {u:Value→GH→List ay→Prop} (s:St h0 g0 S0 g Lk h) (H:aE C.P C.B f args h g (Lk.take n) u)
    (K:∀v g' D h',aM g g'→St h0 g0 S0 g' (D++Lk.drop n) h'→u v g' D→Op C ds i r M Ls (e.gJ d v) h') (hM:∀b,b<r.size→aV (Lk.take n) b→M b:=by intros;trivial) (ho:s5 C i j e=some (d,f,args):=by kernel_rfl):Op C ds i r M ((j,false)::Ls) e h:=
  Op.call (L:=Lk.drop n) ho (by rwa[od]) H hM K
theorem Op.le (d:Option Nat) (n:Nat) {u:ay} {f:FuncId} {args:Array Value} {D:Value→GH→List ay→Prop} (s:St h0 g0 S0 g (u::Lk) h) (H:aE C.P C.B f args h (dy g u) (Lk.take n) D) (hq:∀v g' L',D v g' L'→g'=dy g u)
    (K:∀v G h',St h0 g0 S0 g (u::(G++Lk.drop n)) h'→D v (dy g u) G→Op C ds i r M Ls (e.gJ d v) h') (hM:∀b,b<r.size→aV (Lk.take n) b→M b:=by intros;trivial) (ho:s5 C i j e=some (d,f,args):=by kernel_rfl):Op C ds i r M ((j,false)::Ls) e h:=
  Op.Nb (L:=Lk.drop n) ho (by rwa[od]) H hq hM K
end
section
variable {h0:ax} {g0:GH} {S0:Nat→Prop} {g:GH} {L:List ay} {h:ax}
theorem St.mg (n:Nat) (s:St h0 g0 S0 g L h):St h0 g0 S0 g (cat (L.take n)::L.drop n) h:=St.bu (by rw[cH,wA,←nO,od]) s
theorem St.sp (cs:List ay) (s:St h0 g0 S0 g (cat cs::L) h):St h0 g0 S0 g (cs++L) h:=St.bu (by rw[cH,wA,←nO]) s
theorem St.un (cs:List ay) {c:ay} {p:Nat×Obj} (e:c=p::cat cs) (s:St h0 g0 S0 g (c::L) h):St h0 g0 S0 g ([p]::(cs++L)) h:=
  St.bu (by rw[e,wA,cH,cH,nO];simp only[dW,eN]) s
theorem St.pt (n:Nat) (s:St h0 g0 S0 g L h):St h g (aV (L.take n)) g (L.take n) h:=St.part (L:=L.drop n) (by rwa[od])
end
section
variable {C:fP} {ds:List Deferred} {i j:Nat} {r:ax} {M:Nat→Prop} {L Ls:List (Nat×Bool)} {e e':Env} {h:ax}
variable {h0:ax} {g0:GH} {S0:Nat→Prop} {g:GH} {Lk:List ay}
theorem Op.lf (T:TypeId) (x:Operand) (o d n:Nat) (v:Value) {b:Nat} {cs:Array Value} {u:TypeId} {fz:Nat×Nat} (hM:¬M b) (hb:r[b]?=some (.cells cs u fz)) (K:Op C ds i r M Ls ((d,v)::e) h)
    (ho:dS C i j e=some (some d,.load T x):=by kernel_rfl) (hx:e.ev x=.pointer (some ⟨b,o,none⟩):=by kernel_rfl) (hT:l5 C.P T=some (false,n):=by kernel_rfl) (hv:cs[o]?=some v:=by kernel_rfl):Op C ds i r M ((j,true)::Ls) e h:=Op.gB ho hx hT hM hb hv K
theorem Op.ap {α:Type} (x y:Operand) (t t':TypeId) (dst:Nat) (E:TypeId) (dx:Nat) (d:Kd α) {v:Value} {xs ys:List α} {c:ay} {m:Nat} {news:List Value} {g1:GH}
    (hv:aJ E d g1 v xs c) (s:St h0 g0 S0 g Lk h) (k:Nat) (hys:Reads d g1 ys news) (hlen:(xs.length+ys.length)*dx≤140737488355328) (hM:∀p∈c,p.1<r.size→M p.1) (hy:eT C.P h d.sz (e.ev y) m news)
    (K:∀u c' h',aJ E d g1 u (xs++ys) c'→St h0 g0 S0 g (Lk.set k c') h'→(u=.slice none 0 0→xs++ys=[])→Op C ds i r M Ls ((dst,u)::e) h')
    (ho:dS C i j e=some (some dst,.call {callee:=.builtin .append,args:=#[x,y],argTypes:=#[t,t']}):=by kernel_rfl) (hI:l6 C.P t=some (E,d.sz,dx):=by kernel_rfl) (ht':xB C.P t'=true:=by kernel_rfl) (hz:((C.P.info? E).bind (·.zero)).map (·.cells.toList)=some d.zc:=by kernel_rfl)
    (hx:e.ev x=v:=by rfl) (hk:Lk[k]?=some c:=by rfl) (hm:ys.length=m:=by rfl):Op C ds i r M ((j,false)::Ls) e h:=Op.append ho hI ht' hz hx hv s k hk hy hys hm hlen hM K
theorem At.dw (M:Nat→Prop) (L:List (Nat×Bool)) (H:Op C ds i h M L e h) (hm:C.P.follows .mixedOrders=true:=by kernel_rfl) (hL:C7 (pt C.code i) L=true:=by kernel_rfl):At C ds i e h:=At.oa hm M L hL H
theorem Op.ba {k:Nat} (H:Op C ds i #[] (fun _=>True) L e h) (hk:(Nat.ble 1000 k&&!(Nat.ble 2000 k))=true:=by kernel_rfl):Op C ds i r M ((k,false)::L) e h:=Op.FV hk H
theorem At.rm {P:Program} {B:World} {fn:FuncId} {R:Value→ax→Prop} (f:Func) (vs:List Value) (rl:List ResultVar) (v:Value) (hv:s6 P e h rl vs) (H:R v h)
    (hi:oH (pt (dz f) i)=true:=by kernel_rfl) (hr:f.results.toList=rl:=by kernel_rfl) (u:(if hs:vs.toArray.size=1 then vs.toArray[0] else .tuple vs.toArray)=v:=by rfl):At (bX P B fn f R) [] i e h:=At.MR hi hr hv u H
theorem Op.cv (dst:Option Tmp) (x:Operand) (ops:Array Operand) (ts:Array TypeId) (f:FuncId) (first cap:Array Value) (Lc L:List ay) (args:Array Value) {u:Value→GH→List ay→Prop} (hf:fc C.P f) (ha:first++ops.map e.ev++cap=args)
    (s:St h0 g0 S0 g (Lc++L) h) (H:aE C.P C.B f args h g Lc u) (hM:∀b,b<r.size→aV Lc b→M b)
    (K:∀v g' D h',aM g g'→St h0 g0 S0 g' (D++L) h'→u v g' D→Op C ds i r M Ls (e.gJ dst v) h')
    (ho:dS C i j e=some (dst,.call {callee:=.value x,args:=ops,argTypes:=ts}):=by kernel_rfl) (hx:e.ev x=.func (.func f) first cap:=by kernel_rfl):Op C ds i r M ((j,false)::Ls) e h:=Op.MF ho hx hf ha s H hM K
theorem Op.sq (T E:TypeId) (sz dx:Nat) (x lo:Operand) (ao:Option Addr) (n c dst:Nat) (k:IntKind) (m:Int) {b:Bool} (h0:0≤m) (h1:m≤n) (K:Op C ds i r M Ls ((dst,.slice (eZ ao m.toNat c sz) (n-m.toNat) (c-m.toNat))::e) h)
    (ho:dS C i j e=some (some dst,.slice T x (some lo) none none):=by kernel_rfl) (hE:l6 C.P T=some (E,sz,dx):=by kernel_rfl) (hx:e.ev x=.slice ao n c:=by kernel_rfl) (hlo:e.ev lo=.int k m:=by kernel_rfl):Op C ds i r M ((j,b)::Ls) e h:=Op.Gf ho hE hx hlo h0 h1 K
instance {n:Nat}:OfNat Operand n:=⟨.tmp n⟩
abbrev vQ (b o:Nat):Value:=.pointer (some ⟨b,o,none⟩)
abbrev vN:Value:=vL none 0 0
theorem Op.vq (d:Nat) (n:Int) {b:Bool} (K:Op C ds i r M Ls ((d,.int .i64 n)::e) h) (h0: -9223372036854775808≤n:=by omega) (h1:n≤9223372036854775807:=by omega) (ho:valOf C i j e=some (some d,.int .i64 (IntKind.wrap .i64 n)):=by kernel_rfl):
    Op C ds i r M ((j,b)::Ls) e h:=Op.cE d n h0 h1 K ho
theorem Op.iq (T E:TypeId) (sz dx:Nat) (n c:Nat) (x ix:Operand) (d u o:Nat) (m:Int) {b:Bool} (K:Op C ds i r M Ls ((d,.pointer (some ⟨u,o+m.toNat*sz,none⟩))::e) h) (h0:0≤m:=by omega) (h1:m<n:=by omega)
    (ho:dS C i j e=some (some d,.indexAddr T x ix):=by kernel_rfl) (hE:l6 C.P T=some (E,sz,dx):=by kernel_rfl) (hx:e.ev x=.slice (some ⟨u,o,none⟩) n c:=by kernel_rfl) (D:e.ev ix=.int .i64 m:=by kernel_rfl):
    Op C ds i r M ((j,b)::Ls) e h:=Op.ix T E sz dx n c x ix d u o m h0 h1 K ho hE hx D
theorem cG {α:Type} (l:List α) (i:Int) (h:i.toNat<l.length:=by omega):∃c,l[i.toNat]?=some c:=lK h
theorem Op.l1 (T:TypeId) (x:Operand) (d o:Nat) (v:Value) {b:Nat} {cs:Array Value} {u:TypeId} {fz:Nat×Nat} (hb:h[b]?=some (.cells cs u fz))
    (K:Op C ds i r M Ls ((d,v)::e) h) (hv:cs[o]?=some v:=by kernel_rfl) (ho:dS C i j e=some (some d,.load T x):=by kernel_rfl) (hx:e.ev x=.pointer (some ⟨b,o,none⟩):=by kernel_rfl)
    (hT:l5 C.P T=some (false,1):=by kernel_rfl):Op C ds i r M ((j,false)::Ls) e h:=Op.ld (n:=1) T x d o v hb K hv ho hx hT
theorem Op.pr {P:Program} {B:World} {fn:FuncId} {f:Func} {R:Value→ax→Prop} (k t:Nat) (v:Value) (H:R v h) (hp:(mR P (bX P B fn f R).n (jx (pt (dz f) i)) L.length L e).map (fun x=>Env.news x.2 e [(t,v)])=some ([some v],true):=by kernel_rfl)
    (hj:norm 1000 (pt (dz f) i).tail=pt (dz f) k:=by kernel_rfl) (hi:oH (pt (dz f) k)=true:=by kernel_rfl) (hv:v7 f ((t,v)::e)=some v:=by kernel_rfl):Op (bX P B fn f R) [] i r M L e h:=Op.pg k [(t,v)] (At.rt v H hi hv) hp hj
theorem At.gr {P:Program} {B:World} {fn:FuncId} {f:Func} {R:Value→ax→Prop} (k n t:Nat) (v:Value) (H:R v h) (hL:xx (pt (dz f) i)=some (rl n 0):=by kernel_rfl)
    (hp:(mR P (bX P B fn f R).n (jx (pt (dz f) i)) (rl n 0).length (rl n 0) e).map (fun x=>Env.news x.2 e [(t,v)])=some ([some v],true):=by kernel_rfl)
    (hj:norm 1000 (pt (dz f) i).tail=pt (dz f) k:=by kernel_rfl) (hi:oH (pt (dz f) k)=true:=by kernel_rfl) (hv:v7 f ((t,v)::e)=some v:=by kernel_rfl):At (bX P B fn f R) [] i e h:=At.go k n [(t,v)] (At.rt v H hi hv) hL hp hj
theorem aE.aq {P:Program} {B:World} {fn:FuncId} {f:Func} {args:Array Value} {h:ax} {g:GH} {Lc:List ay} {D:Value→GH→List ay→Prop} (hf:P.funcs[fn]?=some f)
    (H:∀R:Value→ax→Prop,(∀{v h' g' u},St h g (aV Lc) g' u h'→D v g' u→R v h')→At (bX P B fn f R) [] 0 (sW args.toList 0) h) (hb:f.body.isSome=true:=by kernel_rfl) (hn:Nat.ble args.size f.ntmps=true:=by kernel_rfl)
    (h0:norm 1000 [.code (sV f)]=pt (dz f) 0:=by kernel_rfl):aE P B fn args h g Lc D:=aE.Nx hf (fun R hR=>H R fun{v h' g' u} a b=>hR v h' g' u a b) hb hn h0
end
structure ag where
  af:an
  Data:an
  ai:Int
  aD:Int
  Next:Int
  aL:Int
  deriving DecidableEq
def mu:Kd ag where
  sz:=6
  K g x cs:=∃v0,av g 5 br v0 x.Data∧cs=[.string (bp x.af),v0,.int .i64 x.ai,.int .i64 x.aD,.int .i64 x.Next,.int .i64 x.aL]
  len h:=by obtain⟨v0,h0,rfl⟩:=h;rfl
  one h:=by
    obtain⟨v0,h0,rfl⟩:=h
    obtain⟨_,_,rfl⟩:=h0.aj
    simp[Value.oneCell']
  mono hg h:=by obtain⟨v0,h0,rfl⟩:=h;exact⟨v0,h0.mono hg,rfl⟩
  zv:=⟨[],[],0,0,0,0⟩
  zc:=[.string (bp []),.slice none 0 0,.int .i64 0,.int .i64 0,.int .i64 0,.int .i64 0]
  zK _:=⟨_,av.nil _ _ _,rfl⟩
structure ak where
  Client:Int
  Kind:Int
  af:an
  deriving DecidableEq
def dh:Kd ak where
  sz:=3
  K _ x cs:=cs=[.int .i64 x.Client,.int .i64 x.Kind,.string (bp x.af)]
  len h:=by subst h;rfl
  one h:=by subst h;simp[Value.oneCell']
  mono _ h:=h
  zv:=⟨0,0,[]⟩
  zc:=[.int .i64 0,.int .i64 0,.string (bp [])]
  zK _:=rfl
structure dL where
  Client:Int
  aF:Int
  cC:Int
  deriving DecidableEq
def nI:Kd dL where
  sz:=3
  K _ x cs:=cs=[.int .i64 x.Client,.int .i64 x.aF,.int .i64 x.cC]
  len h:=by subst h;rfl
  one h:=by subst h;simp[Value.oneCell']
  mono _ h:=h
  zv:=⟨0,0,0⟩
  zc:=[.int .i64 0,.int .i64 0,.int .i64 0]
  zK _:=rfl
structure ig where
  Client:Int
  bn:Int
  Data:an
  deriving DecidableEq
def n_:Kd ig where
  sz:=3
  K g x cs:=∃v0,av g 5 br v0 x.Data∧cs=[.int .i64 x.Client,.int .i64 x.bn,v0]
  len h:=by obtain⟨v0,h0,rfl⟩:=h;rfl
  one h:=by
    obtain⟨v0,h0,rfl⟩:=h
    obtain⟨_,_,rfl⟩:=h0.aj
    simp[Value.oneCell']
  mono hg h:=by obtain⟨v0,h0,rfl⟩:=h;exact⟨v0,h0.mono hg,rfl⟩
  zv:=⟨0,0,[]⟩
  zc:=[.int .i64 0,.int .i64 0,.slice none 0 0]
  zK _:=⟨_,av.nil _ _ _,rfl⟩
structure bN where
  Client:Int
  bn:Int
  aX:Int
  kf:an
  deriving DecidableEq
structure jA where
  cW:Int
  data:an
  deriving DecidableEq
structure Result where
  Code:Int
  aZ:Int
  At:Int
  ag:ag
  bP:List an
  aT:List ak
  deriving DecidableEq
structure gu where
  aX:Int
  aZ:Int
  bZ:List ag
  cJ:List ak
  cr:List dL
  aT:List ak
  bL:List ig
  deriving DecidableEq
structure G3 where
  eX:Bool
  data:Bool
  lM:Bool
  dD:Bool
  make:Bool
  watch:Bool
  ops:Bool
  deriving DecidableEq
theorem G4 (a b:ak):((a.Client==b.Client)&&((a.Kind==b.Kind)&&((bp a.af==bp b.af)&&true)))=decide (a=b):=by
  obtain⟨a0,a1,a2⟩:=a;obtain⟨b0,b1,b2⟩:=b
  rw[kQ];simp[CL,b_,ak.mk.injEq]
theorem Nz {s p:an}:(s.take p.length==p)=p.isPrefixOf s:=by
  rw[kQ,j6,uF,List.prefix_iff_eq_take]
  exact zJ
theorem NA {s p:an} (h:s.length<p.length):p.isPrefixOf s=false:=by
  rw[←zL,uF]
  intro hp
  have:=hp.length_le
  omega
theorem G5 {s p:an} (h:p.isPrefixOf s=true):p.length≤s.length:=(uF.1 h).length_le
theorem NB {l:an} (h:l.all (fun b=>decide (b.toNat<128))=true):∀(j:Nat) b,l[j]?=some b→b.toNat<128:=
  fun _ b hb=>gp (ic.1 h b (cj hb))
def BF:an:=[97,98,99,100,101,102,103,104,105,106,107,108,109,110,111,112,113,114,115,116,117,118,119,120,121,122,48,49,50,51,52,53,54,55,56,57,45,95]
def zQ (c:UInt8):Bool:=(decide (97≤c.toNat)&&decide (c.toNat≤122))||((decide (48≤c.toNat)&&decide (c.toNat≤57))||(decide (c.toNat=45)||decide (c.toNat=95)))
theorem G6 (c:UInt8):BF.contains c=zQ c:=by
  revert c
  have:∀n:Fin 256,BF.contains (UInt8.ofNat n.1)=zQ (UInt8.ofNat n.1):=by decide+kernel
  intro c
  have h:=this ⟨c.toNat,c.toNat_lt⟩
  simpa using h
def g_ (s:an):Bool:=decide (s≠[])&&(decide (s.length≤16)&&s.all zQ)
theorem NC (s:an):(Lib.trimS s BF==[])=s.all zQ:=by
  rw[kQ,j6,M7,ic]
  constructor
  · intro h b hb;rw[←G6];exact h b hb
  · intro h b hb;rw[G6];exact h b hb
theorem ND {s:an} (h0:¬(s=[])) (h1:(s.length:Int)≤16):(Lib.trimS s BF==[])=g_ s:=by
  rw[NC,g_,eu h0,eu (by omega),lp,lp]
theorem NF {s:an} (h:¬((s.length:Int)≤16)):false=g_ s:=by
  rw[g_,gb (show ¬s.length≤16 by omega)];simp
theorem NG:false=g_ []:=by simp[g_]
def fm {α:Type} (q:α→Bool):List α→Int
  |[]=> -1
  |x::xs=>if q x=true then 0 else if fm q xs<0 then -1 else fm q xs+1
theorem zR {α:Type} (q:α→Bool):∀l, -1≤fm q l
  |[]=>by simp[fm]
  |x::xs=>by unfold fm;have:=zR q xs;split<;>(try split)<;>omega
theorem xN {α:Type} (q:α→Bool):∀l,decide (0≤fm q l)=l.any q
  |[]=>by simp[fm]
  |x::xs=>by
   have ih:=xN q xs
   unfold fm
   rw[rJ,←ih]
   by_cases h:q x=true
   · simp[h]
   · by_cases h2:fm q xs<0
     · simp[h,h2]
     · simp[h,h2];omega
def findAt {α:Type} (q:α→Bool) (l:List α) (i:Int):Prop:=fm q l=if fm q (l.drop i.toNat)<0 then -1 else i+fm q (l.drop i.toNat)
theorem xO {α:Type} (q:α→Bool) (l:List α):findAt q l 0:=by
  unfold findAt
  have:=zR q l
  simp only[Int.toNat_zero,zq,Int.zero_add]
  split<;>omega
theorem wB {α:Type} {q:α→Bool} {l:List α} {i:Int} {x:α} (H:findAt q l i) (hx:l[i.toNat]?=some x) (hq:q x=true):i=fm q l:=by
  unfold findAt at H
  rw[H,drop_at hx]
  simp[fm,hq]
theorem xP {α:Type} {q:α→Bool} {l:List α} {i:Int} {x:α} (H:findAt q l i) (h0:0≤i) (hx:l[i.toNat]?=some x) (hq:q x=false):findAt q l (i+1):=by
  unfold findAt at H ⊢
  have hg:=zR q (l.drop (i.toNat+1))
  rw[H,drop_at hx,toNat_succ h0]
  simp only[fm,hq,gA,dV]
  split<;>split<;>(try split)<;>omega
theorem wC {α:Type} {q:α→Bool} {l:List α} {i:Int} (H:findAt q l i) (h:¬(i<(l.length:Int))): -1=fm q l:=by
  unfold findAt at H
  rw[H,mz (by omega)]
  simp[fm]
def fF (p:an):Bool:=decide (p.head?=some 47)&&(decide (p.length≤64)&&(decide (p=[47])||(splitOn 47 (p.drop 1)).all g_))
def cx (p:an):List an:=if fF p=true then (if p=[47] then [] else splitOn 47 (p.drop 1)) else []
def cX (p:an):Int:=if fF p=true then 0 else 90
theorem G7 (p:an):([47]:an).isPrefixOf p=decide (p.head?=some 47):=by
  cases p with
  |nil=>simp[List.isPrefixOf]
  |cons b l=>
   by_cases h:b=47
   · simp[List.isPrefixOf,h]
   · simp[List.isPrefixOf,h];exact fun e=>h e.symm
theorem G8 {p:an} (h:([47]:an).isPrefixOf p=false):fF p=false:=by
  rw[G7] at h;simp[fF,h]
theorem DP {p:an} (h:64<p.length):fF p=false:=by
  simp[fF];intro _ h2;omega
theorem G9 {p:an} (h:([47]:an).isPrefixOf p=true) (hl:p.length≤64):fF p=(decide (p=[47])||(splitOn 47 (p.drop 1)).all g_):=by
  rw[G7] at h;simp[fF,h,hl]
theorem DQ {p:an} (h:([47]:an).isPrefixOf p=true):p.drop 1=[]↔p=[47]:=by
  cases p with
  |nil=>simp[List.isPrefixOf] at h
  |cons b l=>
   simp[List.isPrefixOf] at h
   subst h
   simp
theorem G_ (c:UInt8) (l:an):(splitOn c l).length≤l.length+1:=by
  rw[Dp];have:=List.count_le_length (a:=c) (l:=l);omega
theorem oN (p:an):(cx p).length≤64:=by
  unfold cx
  split
  · rename_i h
    split
    · simp
    · have h2:=G_ 47 (p.drop 1)
      simp[fF] at h
      rw[iP] at h2
      have:p.length≠0:=by intro e;have:=ju e;subst this;simp at h
      omega
  · simp
def cz (p:an):Int:=if cx p=[] then 90 else 0
def nQ (l:List an):an:=l.getLast?.getD []
def joined (l:List an):an:=47::fQ 47 l
def parentOf (p:an):an:=if cx p=[] then [] else joined (cx p).dropLast
def nameOf (p:an):an:=nQ (cx p)
def ny (p:an):an:=if fF p=true then p else []
def He (parent:an) (jy:List an):an:=if fF parent&&jy.all g_ then ny (joined (cx parent++jy)) else []
def Hf (parent:an) (jy:List an):Int:=if fF parent&&jy.all g_ then cX (joined (cx parent++jy)) else 90
def zS (n:Int):an:=Lib.repeatL [48] (5-(Lib.itoa n).length)++Lib.itoa n
def mT (p:an) (n:Int):Bool:=decide (cx p≠[])&&(decide (0≤n)&&decide (n≤99999))
def fy (p:an) (n:Int):an:=if mT p n then ny (p++zS n) else []
def lN (p:an) (n:Int):Int:=if mT p n then cX (p++zS n) else 90
def uI (p top:an):Bool:=(fF p&&fF top)&&(p==top||(top==[47]||(top++[47]).isPrefixOf p))
theorem DR (l:List an):Lib.join l [47]=fQ 47 l:=by
  induction l with
  |nil=>rfl
  |cons x xs ih=>
   cases xs with
   |nil=>simp[Lib.join,List.intercalate,fQ]
   |cons y ys=>
    rw[fQ,←ih]
    simp[Lib.join,List.intercalate]
theorem j0 {p:an}:cX p=0↔fF p=true:=by unfold cX;split<;>simp_all
theorem DS {p:an} (h:¬(cX p=0)):cx p=[]:=by
  rw[j0] at h;simp[cx,h]
theorem NH {l:List an} {x:an} {n:Nat} (h:l[n]?=some x) (hn:n+1=l.length):x=nQ l:=by
  unfold nQ
  rw[List.getLast?_eq_getElem?,show l.length-1=n from by omega,h];rfl
theorem Hg {p:an} (h:¬((cx p).length=0)):cz p=0:=by
  unfold cz;rw[aC];intro e;rw[e] at h;simp at h
theorem xQ {p:an} (h:fF p=false):([]:List an)=cx p∧(90:Int)=cX p:=by simp[cx,cX,h]
theorem Hh (c:UInt8):∀(l:an),∀x∈splitOn c l,x.length≤l.length
  |[],x,hx=>by simp[splitOn] at hx;subst hx;simp
  |b::l,x,hx=>by
   have ih:=Hh c l
   unfold splitOn at hx
   split at hx
   · rcases ei.1 hx with rfl|hx
     · simp
     · have:=ih x hx;simp;omega
   · split at hx
     · rename_i y ys hy
       rw[hy] at ih
       rcases ei.1 hx with rfl|hx
       · have:=ih y (by simp);simp;omega
       · have:=ih x (by simp[hx]);simp;omega
     · rename_i hy;exact absurd hy (Bq c l)
def og (p:an):an:=if ([47]:an).isPrefixOf p=true then p.drop ([47]:an).length else p
theorem DT (p:an):(og p).length≤p.length:=by unfold og;split<;>simp
theorem zT {p:an} (h:([47]:an).isPrefixOf p=true):og p=p.drop 1:=by simp[og,h]
theorem Hj {p:an} (h:([47]:an).isPrefixOf p=true) (hl:¬(p.length:Int)>64) (hr:og p=[]):([]:List an)=cx p∧(0:Int)=cX p:=by
  rw[zT h,DQ h] at hr
  subst hr
  exact⟨by decide,by decide⟩
theorem Hl {p:an} (h:([47]:an).isPrefixOf p=true) (hl:¬(p.length:Int)>64) (hr:¬(og p=[])) (ha:(splitOn 47 (og p)).any (fun s=>!g_ s)=true):fF p=false:=by
  rw[zT h,DQ h] at hr
  rw[zT h] at ha
  rw[G9 h (by omega),gb hr,n8]
  rw[←zL]
  intro hall
  rw[kF] at ha
  obtain⟨x,hx,hb⟩:=ha
  rw[ic] at hall
  rw[hall x hx] at hb
  cases hb
theorem Ho {p:an} (h:([47]:an).isPrefixOf p=true) (hl:¬(p.length:Int)>64) (hr:¬(og p=[])) (ha:(splitOn 47 (og p)).any (fun s=>!g_ s)=false):splitOn 47 (og p)=cx p∧(0:Int)=cX p:=by
  rw[zT h,DQ h] at hr
  rw[zT h] at ha ⊢
  have hok:fF p=true:=by
    rw[G9 h (by omega),gb hr,n8,ic]
    intro x hx
    rw[Dz] at ha
    have:=ha x hx
    simpa using this
  simp[cx,cX,hok,hr]
theorem xR {p:an} (h:cx p=[]):([]:List an)=(cx p).dropLast∧([]:an)=nQ (cx p)∧(90:Int)=cz p:=by
  simp[h,nQ,cz]
theorem NI {l:List an} {n:Int} (h:n=(l.length:Int)-1) (h0:¬((l.length:Int)=0)):l.take n.toNat=l.dropLast:=by
  rw[List.dropLast_eq_take]
  congr 1
  omega
theorem DU (c:UInt8) (x:an) (l:List an):(fQ c (x::l)).length=x.length+(if l=[] then 0 else 1+(fQ c l).length):=by
  cases l with
  |nil=>simp[fQ]
  |cons y ys=>simp[fQ];omega
theorem DV (c:UInt8):∀l:List an,(fQ c l.dropLast).length≤(fQ c l).length
  |[]=>by simp
  |[x]=>by simp[fQ]
  |x::y::l=>by
   have ih:=DV c (y::l)
   rw[List.dropLast_cons_cons,DU,DU]
   split<;>simp<;>omega
theorem uJ {p:an} (h:fF p=true):joined (cx p)=p:=by
  unfold cx
  rw[aO h]
  have hh:p.head?=some 47:=by simp[fF] at h;exact h.1
  split
  · rename_i e;subst e;rfl
  · unfold joined
    rw[Gq]
    cases p with
    |nil=>simp at hh
    |cons b l=>simp at hh;subst hh;simp
theorem NJ (p:an):(fQ 47 (cx p)).length≤p.length:=by
  by_cases h:fF p=true
  · have:=congrArg List.length (uJ h)
    simp[joined] at this
    omega
  · simp[cx,h,fQ]
theorem NK (p:an):(fQ 47 (cx p).dropLast).length≤p.length:=bQ (DV _ _) (NJ p)
theorem NL (p:an):(cx p).dropLast.length≤64:=by have:=oN p;simp;omega
theorem Hp {p:an} (h:cz p=0):cx p≠[]:=by intro e;simp[cz,e] at h
theorem Hq {p:an} (h:¬(cz p=0)):cx p=[]:=by
  unfold cz at h;split at h
  · assumption
  · simp at h
theorem NM {p:an} (h:¬(cz p=0)):[]=parentOf p:=by simp[parentOf,Hq h]
theorem NN {p:an} (h:cz p=0):joined (cx p).dropLast=parentOf p:=by simp[parentOf,Hp h]
theorem NO {p:an} (h:¬(cX p=0)):[]=ny p:=by rw[j0] at h;simp[ny,h]
theorem Hr {p:an} (h:cX p=0):p=ny p∧0=cX p:=by rw[h];rw[j0] at h;simp[ny,h]
theorem xS {n:Int} (h0:0≤n) (h1:n≤99999):1≤(Lib.itoa n).length∧(Lib.itoa n).length≤5:=by
  rw[Lib.itoa,aC (by omega),Lib.decDigits_length]
  refine⟨Lib.nDigits_pos _,?_⟩
  have hu:n.toNat≤99999:=by omega
  generalize n.toNat=u at hu
  by_cases a1:u<10
  · rw[Lib.nDigits_small a1];omega
  by_cases a2:u<100
  · rw[Lib.nDigits_unique 1 u (by omega) (by omega)];omega
  by_cases a3:u<1000
  · rw[Lib.nDigits_unique 2 u (by omega) (by omega)];omega
  by_cases a4:u<10000
  · rw[Lib.nDigits_unique 3 u (by omega) (by omega)];omega
  · rw[Lib.nDigits_unique 4 u (by omega) (by omega)];omega
theorem wD {p:an} {n:Int} (h:mT p n=false):[]=fy p n∧(90:Int)=lN p n:=by simp[fy,lN,h]
theorem Hs {p:an} {n:Int} (h:¬(cz p=0)):mT p n=false:=by simp[mT,Hq h]
theorem Ht {p:an} {n:Int} (h:n<0):mT p n=false:=by simp[mT];intros;omega
theorem Hu {p:an} {n:Int} (h:n>99999):mT p n=false:=by simp[mT];intros;omega
theorem Hv {p:an} {n:Int} (h:cz p=0) (h0:¬n<0) (h1:¬n>99999):mT p n=true:=by simp[mT,Hp h];omega
theorem Hw {p:an} {n:Int} (h:mT p n=true) {k:Nat} (hk:k=5-(Lib.itoa n).length):ny ((p++Lib.repeatL [48] k)++Lib.itoa n)=fy p n∧cX ((p++Lib.repeatL [48] k)++Lib.itoa n)=lN p n:=by
  subst hk
  simp[fy,lN,h,zS,dm]
section
variable {α:Type} [DecidableEq α]
theorem tN {a b:List α} (h:¬((a.length:Int)=b.length)):false=decide (a=b):=by
  symm;rw[jb];intro e;subst e;exact h rfl
theorem tO {a b:List α} {i:Nat} {x y:α} (hx:a[i]?=some x) (hy:b[i]?=some y) (h:¬(x=y)):false=decide (a=b):=by
  symm;rw[jb];intro e;subst e;rw[hx] at hy;exact h (fK hy)
theorem tP {a b:List α} {i:Int} (hl:(a.length:Int)=b.length) (h:¬(i<(a.length:Int))) (ht:a.take i.toNat=b.take i.toNat):true=decide (a=b):=by
  symm;rw[decide_eq_true_iff];rwa[fC (by omega),fC (by omega)] at ht
end
theorem qp {α:Type} {a b:List α} {i:Int} {x y:α} (ht:a.take i.toNat=b.take i.toNat) (h0:0≤i) (hx:a[i.toNat]?=some x) (hy:b[i.toNat]?=some y) (e:x=y):a.take (i+1).toNat=b.take (i+1).toNat:=by
  rw[toNat_succ h0,fG hx,fG hy,ht,e]
def wh (l:List an):an:=(l.map fun x=>47::x).flatten
theorem BG:∀l:List an,l≠[]→wh l=joined l
  |[],h=>absurd rfl h
  |[x],_=>by simp[wh,joined,fQ]
  |x::y::l,_=>by
   have ih:=BG (y::l) (by simp)
   simp only[wh,eR,cH] at ih ⊢
   rw[ih];simp[joined,fQ]
def BH (p t:an):Bool:=(fF p&&fF t)&&(cx t).isPrefixOf (cx p)
def low:Nat→Nat→an
  |0,_=>[]
  |k+1,n=>UInt8.ofNat (48+n / 10 ^ k % 10)::low k n
theorem NP {n:Int} (h0:0≤n) (h1:n≤99999):low 5 n.toNat=zS n:=by
  unfold zS
  have hi:Lib.itoa n=Lib.decDigits n.toNat:=by rw[Lib.itoa,aC (by omega)]
  rw[hi]
  have hu:n.toNat≤99999:=by omega
  generalize n.toNat=u at hu
  have z:(UInt8.ofNat (48+0))=48:=rfl
  have one:∀v,v<10→Lib.decDigits v=[UInt8.ofNat (48+v)]:=fun v h=>by rw[Lib.decDigits,dif_pos h]
  have more:∀v,¬v<10→Lib.decDigits v=Lib.decDigits (v / 10)++[UInt8.ofNat (48+v % 10)]:=fun v h=>by rw[Lib.decDigits,dif_neg h]
  have d2:u / 10 / 10=u / 100:=by omega
  have d3:u / 100 / 10=u / 1000:=by omega
  have d4:u / 1000 / 10=u / 10000:=by omega
  simp only[low,Nat.pow_zero,Nat.div_one,show(10:Nat) ^ 4=10000 from rfl,show(10:Nat) ^ 3=1000 from rfl,show(10:Nat) ^ 2=100 from rfl,show(10:Nat) ^ 1=10 from rfl]
  by_cases a1:u<10
  · rw[one u a1]
    simp[Lib.repeatL,show u / 10000=0 by omega,show u / 1000=0 by omega,show u / 100=0 by omega,show u / 10=0 by omega,show u % 10=u by omega]
  by_cases a2:u<100
  · rw[more u a1,one _ (by omega)]
    simp[Lib.repeatL,show u / 10000=0 by omega,show u / 1000=0 by omega,show u / 100=0 by omega,show u / 10 % 10=u / 10 by omega]
  by_cases a3:u<1000
  · rw[more u a1,more (u / 10) (by omega),one _ (by omega)]
    simp[Lib.repeatL,show u / 10000=0 by omega,show u / 1000=0 by omega,d2,show u / 100 % 10=u / 100 by omega]
  by_cases a4:u<10000
  · rw[more u a1,more (u / 10) (by omega),more (u / 10 / 10) (by omega),one _ (by omega)]
    simp[Lib.repeatL,show u / 10000=0 by omega,d2,d3,show u / 1000 % 10=u / 1000 by omega]
  · rw[more u a1,more (u / 10) (by omega),more (u / 10 / 10) (by omega),more (u / 10 / 10 / 10) (by omega),one _ (by omega)]
    simp[Lib.repeatL,d2,d3,d4,show u / 10000 % 10=u / 10000 by omega]
theorem Hx {p:an} (h:cx p=[]):¬(cz p=0):=by simp[cz,h]
theorem NQ {s:an} (h:g_ s=true):s.length≤16∧1≤s.length:=by
  simp only[g_,b_,cQ] at h
  refine⟨h.2.1,?_⟩
  cases s with
  |nil=>exact absurd rfl h.1
  |cons=>simp
theorem xT (p:an):∀x∈cx p,g_ x=true:=by
  intro x hx
  unfold cx at hx
  split at hx
  · rename_i h
    split at hx
    · simp at hx
    · rename_i hne
      simp only[fF,b_,jh,ic,cQ] at h
      rcases h.2.2 with e|e
      · exact absurd e hne
      · exact e x hx
  · simp at hx
theorem zU {s:an} (h:g_ s=true):47 ∉ s:=by
  simp only[g_,b_,ic] at h
  intro hm
  have:=h.2.2 47 hm
  simp[zQ] at this
theorem NR {a b:List an} (ha:a≠[]) (hb:b≠[]):joined (a++b)=joined a++joined b:=by
  rw[←BG _ ha,←BG _ hb,←BG _ (by simp[ha])]
  simp[wh]
theorem NS {a b:List an} (ha:∀x∈a,g_ x=true) (hb:∀x∈b,g_ x=true) (h:joined a=joined b):a=b:=by
  have h2:fQ 47 a=fQ 47 b:=by simpa[joined] using h
  have key:∀l:List an,(∀x∈l,g_ x=true)→l≠[]→splitOn 47 (fQ 47 l)=l:=fun l hl hne=>Bs 47 l hne fun x hx=>zU (hl x hx)
  have u:∀l:List an,(∀x∈l,g_ x=true)→l≠[]→fQ 47 l≠[]:=by
    intro l hl hne e
    cases l with
    |nil=>exact hne rfl
    |cons x xs=>
     have h1:=DU 47 x xs
     rw[e] at h1
     have:=(NQ (hl x (by simp))).2
     simp at h1
     omega
  by_cases e1:a=[]
  · by_cases e2:b=[]
    · rw[e1,e2]
    · subst e1;exact absurd h2.symm (u b hb e2)
  · by_cases e2:b=[]
    · subst e2;exact absurd h2 (u a ha e1)
    · rw[←key a ha e1,←key b hb e2,h2]
theorem DW {p:an} (h:fF p=true):p=[47]↔cx p=[]:=by
  constructor
  · intro e;subst e;decide
  · intro e;have:=uJ h;rw[e] at this;exact this.symm
theorem Hy (p t:an):uI p t=BH p t:=by
  unfold uI BH
  by_cases h:(fF p&&fF t)=true
  · rw[h,lp,lp]
    simp only[b_] at h
    obtain⟨hp,ht⟩:=h
    have u:=uJ hp
    have et:=uJ ht
    rw[kQ,uF]
    simp only[jh,j6,uF]
    by_cases h1:t=[47]
    · simp only[h1,iF,iG,true_iff]
      rw[(DW (p:=[47]) (by decide)).1 rfl]
      exact List.nil_prefix
    have D:cx t≠[]:=fun e=>h1 ((DW ht).2 e)
    constructor
    · rintro(e|e|⟨c,e⟩)
      · subst e;exact uG _
      · exact absurd e h1
      ·
        have hs:splitOn 47 (p.drop 1)=cx t++splitOn 47 c:=by
          have hd:p.drop 1=fQ 47 (cx t)++47::c:=by
            rw[←e]
            conv=>lhs;rw[show t=47::fQ 47 (cx t) from et.symm]
            simp
          rw[hd]
          have gen:∀l:List an,l≠[]→(∀x∈l,47 ∉ x)→splitOn 47 (fQ 47 l++47::c)=l++splitOn 47 c:=by
            intro l
            induction l with
            |nil=>intro h;exact absurd rfl h
            |cons x xs ih=>
             intro _ hx
             cases xs with
             |nil=>rw[fQ,Br 47 x c (hx x (by simp))];rfl
             |cons y ys=>
              rw[fQ,dm,dW,Br 47 x _ (hx x (by simp)),ih (by simp) (fun z hz=>hx z (by simp[hz]))];rfl
          exact gen _ D fun x hx=>zU (xT t x hx)
        have G:¬(p=[47]):=by
          intro e2
          rw[e2] at e
          have hlen:=congrArg List.length e
          simp only[cA,bY,dU] at hlen
          have I:t=[]:=ju (by omega)
          rw[I] at ht
          exact absurd ht (by decide)
        have hpl:cx p=splitOn 47 (p.drop 1):=by simp[cx,hp,G]
        rw[hpl,hs]
        exact DC _ _
    · rintro⟨c,e⟩
      by_cases hc:c=[]
      · left
        rw[hc,dX] at e
        rw[←u,←et,e]
      · right;right
        rw[←u,←e,NR D hc,et,joined]
        exact⟨fQ 47 c,by simp⟩
  · rw[zL] at h;rw[h];rfl
theorem NT {p:an} (h:cX p=0):p.length≤64:=by
  rw[j0] at h
  simp only[fF,b_,cQ] at h
  exact h.2.1
theorem NU (c d:UInt8) (a b:an):Go.Op.bytesLess (c::a) (d::b)=(decide (c<d)||(c==d&&Go.Op.bytesLess a b)):=by simp[Go.Op.bytesLess]
theorem NV (c:an) (a b:an):Go.Op.bytesLess (c++a) (c++b)=Go.Op.bytesLess a b:=by
  induction c with
  |nil=>rfl
  |cons x c ih=>
   rw[dW,dW,NU,ih]
   have:¬(x<x):=by rw[UInt8.lt_iff_toNat_lt];omega
   simp[this]
theorem Hz:∀(k n:Nat),low k n=low k (n % 10 ^ k)
  |0,_=>rfl
  |k+1,n=>by
   have h1:n % 10 ^ (k+1) / 10 ^ k % 10=n / 10 ^ k % 10:=by
     rw[Nat.pow_succ,Nat.mod_mul,Nat.add_mul_div_left _ _ (DD (by decide)),Nat.div_eq_of_lt (xo _ (DD (by decide))),sX,Nat.mod_mod]
   have h2:n % 10 ^ (k+1) % 10 ^ k=n % 10 ^ k:=by rw[Nat.pow_succ,Nat.mod_mul_right_mod]
   rw[low,low,h1,Hz k (n % 10 ^ (k+1)),h2,←Hz k n]
theorem HC:∀k n,(low k n).length=k
  |0,_=>rfl
  |k+1,n=>by rw[low,bY,HC k n]
theorem HD {p:an} {n:Int} (h:lN p n=0):0≤n∧n≤99999∧fy p n=p++low 5 n.toNat:=by
  unfold lN at h
  split at h
  · rename_i hk
    have hk2:=hk
    simp only[mT,b_,cQ] at hk
    refine⟨hk.2.1,hk.2.2,?_⟩
    rw[j0] at h
    simp[fy,hk2,ny,h,NP hk.2.1 hk.2.2]
  · simp at h
theorem NW {p:an} {n:Int} (h:lN p n=0):((fy p n).length:Int)=(p.length:Int)+5:=by
  obtain⟨a1,a2,a3⟩:=HD h
  rw[a3,cA,HC];omega
theorem NX {p t:an} (h:uI p t=true):cX p=0∧cX t=0∧cx t <+: cx p:=by
  rw[Hy,BH] at h
  simp only[b_,uF] at h
  exact⟨j0.2 h.1.1,j0.2 h.1.2,h.2⟩
theorem HE {p t:an} (h1:cX p=0) (h2:cX t=0) (h:cx t <+: cx p):uI p t=true:=by
  rw[Hy,BH,j0.1 h1,j0.1 h2,lp,lp]
  exact uF.2 h
theorem NY {p:an} (h:cX p=0):uI p p=true:=HE h h (uG _)
theorem NZ {l:List an} (h:∀x∈l,g_ x=true) (hl:(joined l).length≤64):fF (joined l)=true:=by
  simp only[fF,b_,jh,cQ,ic]
  refine⟨rfl,hl,?_⟩
  by_cases e:l=[]
  · left;rw[e];rfl
  · right
    have:(joined l).drop 1=fQ 47 l:=rfl
    rw[this,Bs 47 l e fun x hx=>zU (h x hx)]
    exact h
theorem N0 {l:List an} (h:∀x∈l,g_ x=true) (hk:fF (joined l)=true):cx (joined l)=l:=
  NS (xT _) h (uJ hk)
theorem HF {l:List an} (h:l≠[]):l.dropLast++[nQ l]=l:=by
  have:=List.dropLast_concat_getLast h
  rw[nQ,List.getLast?_eq_some_getLast h]
  exact this
theorem DX {p:an} (h:cX p=0) (hne:¬(p=[47])):cz p=0∧cX (parentOf p)=0∧cx (parentOf p)=(cx p).dropLast∧Hf (parentOf p) [nameOf p]=0∧He (parentOf p) [nameOf p]=p∧uI p (parentOf p)=true∧uI (parentOf p) p=false:=by
  have hk:=j0.1 h
  have hl:cx p≠[]:=fun e=>hne ((DW hk).2 e)
  have hpar:parentOf p=joined (cx p).dropLast:=by simp[parentOf,hl]
  have u:∀x∈(cx p).dropLast,g_ x=true:=fun x hx=>xT p x (GQ _ hx)
  have hlen:(joined (cx p).dropLast).length≤64:=by
    have h1:=DV 47 (cx p)
    have h2:=congrArg List.length (uJ hk)
    have h3:=NT h
    simp only[joined,bY] at h2 ⊢
    omega
  have hok:=NZ u hlen
  have hpl:=N0 u hok
  have D:=HF hl
  have G:nQ (cx p)∈(cx p).dropLast++[nQ (cx p)]:=by simp
  rw[D] at G
  have hname:g_ (nameOf p)=true:=xT p _ G
  have e1:cX (parentOf p)=0:=by rw[hpar];exact j0.2 hok
  have hj:joined (cx (parentOf p)++[nameOf p])=p:=by rw[hpar,hpl,nameOf,D];exact uJ hk
  have hall:[nameOf p].all g_=true:=by simp[hname]
  refine⟨by simp[cz,hl],e1,by rw[hpar];exact hpl,?_,?_,HE h e1 (by rw[hpar,hpl];exact List.dropLast_prefix _),?_⟩
  · simp only[Hf,j0.1 e1,hall,hj,h,Bool.and_self,jl]
  · simp only[He,j0.1 e1,hall,hj,ny,hk,Bool.and_self,jl]
  · rw[←zL]
    intro hw
    have:=(NX hw).2.2.length_le
    rw[hpar,hpl,List.length_dropLast] at this
    have:(cx p).length≠0:=fun e=>hl (ju e)
    omega
theorem xU:∀a:an,Go.Op.bytesLess a a=false
  |[]=>rfl
  |c::a=>by simp[Go.Op.bytesLess,xU a]
theorem zV:∀{a b c:an},Go.Op.bytesLess a b=true→Go.Op.bytesLess b c=true→Go.Op.bytesLess a c=true
  |_,_,[],_,h=>by simp[Go.Op.bytesLess] at h
  |_,[],_::_,h,_=>by simp[Go.Op.bytesLess] at h
  |[],_::_,_::_,_,_=>rfl
  |x::a,y::b,z::c,h,k=>by
   simp only[Go.Op.bytesLess,jh,cQ,b_,j6] at *
   rcases h with h|⟨rfl,h⟩
   · rcases k with k|⟨rfl,k⟩
     · exact .inl (UInt8.lt_trans h k)
     · exact .inl h
   · rcases k with k|⟨rfl,k⟩
     · exact .inl k
     · exact .inr ⟨rfl,zV h k⟩
theorem BI:∀{a b:an},Go.Op.bytesLess a b=false→Go.Op.bytesLess b a=false→a=b
  |[],[],_,_=>rfl
  |[],_::_,h,_=>by simp[Go.Op.bytesLess] at h
  |_::_,[],_,h=>by simp[Go.Op.bytesLess] at h
  |x::a,y::b,h,k=>by
   simp only[Go.Op.bytesLess,GR,jb,wu,s7] at *
   obtain⟨h1,h2⟩:=h
   obtain⟨k1,k2⟩:=k
   have u:x=y:=UInt8.le_antisymm (UInt8.not_lt.1 k1) (UInt8.not_lt.1 h1)
   subst u
   rw[BI (h2.resolve_left (fun h=>h rfl)) (k2.resolve_left (fun h=>h rfl))]
theorem BJ {a b:an} (h:Go.Op.bytesLess a b=true):Go.Op.bytesLess b a=false:=by
  cases hk:Go.Op.bytesLess b a with
  |false=>rfl
  |true=>have:=zV h hk;rw[xU] at this;cases this
theorem DY {a b:an} (h:Go.Op.bytesLess a b=true):a≠b:=fun e=>by rw[e,xU] at h;cases h
abbrev aQ:=List UInt8
def kg (a b:aQ):Bool:=Go.Op.bytesLess a b
def cc (ns:List ag) (p:aQ):Option ag:=ns.find? fun n=>decide (n.af=p)
def fU (ns:List ag):Prop:=ns.Pairwise fun a b=>kg a.af b.af=true
def s_ (l:ag):List ag→List ag
  |[]=>[l]
  |n::ns=>if kg l.af n.af=true then l::n::ns else n::s_ l ns
def gi (ns:List ag) (p:aQ):List ag:=ns.filter fun n=>!decide (n.af=p)
def eO (ns:List ag) (l:ag):List ag:=s_ l (gi ns l.af)
def HG (p:aQ) (n:ag):Bool:=decide (cz n.af=0)&&decide (parentOf n.af=p)
def gK (ns:List ag) (p:aQ):List aQ:=(ns.filter (HG p)).map (·.af)
def gw (ns:List ag) (u:List Int):List aQ:=((ns.filter fun n=>u.any fun o=>decide (n.aD=o)).map (·.af)).reverse
def DZ:ag:=⟨[],[],0,0,0,0⟩
def cg (ns:List ag) (p:aQ):ag×Int:=
  if cX p=0 then match cc ns p with
    |none=>(DZ,100)
    |some l=>(l,0)
  else (DZ,cX p)
def fR (up:ag) (p:aQ) (num:Bool):aQ:=if num then fy p up.Next else p
def gL (up:ag) (p:aQ) (num:Bool):Int:=if num then lN p up.Next else 0
def oO (ns:List ag) (up:ag) (q data:aQ) (cI born:Int) (num:Bool):List ag:=
  eO (eO ns (if num then {up with Next:=IntKind.wrap .i64 (up.Next+1)} else up)) ⟨q,data,0,max cI (-1),0,max born 0⟩
def cm (ns:List ag) (p data:aQ) (cI born:Int) (num:Bool):List ag×aQ×Int:=
  if cz p≠0 then (ns,[],cz p)
  else if data.length>128 then (ns,[],104)
  else match cc ns (parentOf p) with
    |none=>(ns,[],100)
    |some up=>if up.aD≠ -1 then (ns,[],105)
     else if gL up p num≠0 then (ns,[],gL up p num)
     else match cc ns (fR up p num) with
       |some _=>(ns,[],101)
       |none=>if ns.length≥32 then (ns,[],104) else (oO ns up (fR up p num) data cI born num,fR up p num,0)
def f_ (ns:List ag) (p:aQ) (bO:Int):List ag×Int:=
  if cz p≠0 then (ns,cz p)
  else match cc ns p with
    |none=>(ns,100)
    |some l=>if bO≥0∧l.ai≠bO then (ns,102) else if gK ns p≠[] then (ns,103) else (gi ns p,0)
def fe (ns:List ag) (p data:aQ) (bO:Int):List ag×Int×Int:=
  if cX p≠0 then (ns,0,cX p)
  else match cc ns p with
    |none=>(ns,0,100)
    |some l=>if bO≥0∧l.ai≠bO then (ns,0,102) else if data.length>128 then (ns,0,104)
     else (eO ns {l with Data:=data,ai:=IntKind.wrap .i64 (l.ai+1)},IntKind.wrap .i64 (l.ai+1),0)
def jL (ns:List ag) (p:aQ):List aQ×Int:=
  if cX p≠0 then ([],cX p) else match cc ns p with
    |none=>([],100)
    |some _=>(gK ns p,0)
def lP (seen:List ag) (l:ag):Bool:=
  decide (-1≤l.aD)&&decide (0≤l.ai)&&decide (0≤l.Next)&&decide (0≤l.aL)&&decide (l.Data.length≤128)&&
    (if seen=[] then decide (l.af=[47])&&decide (l.aD= -1)&&decide (l.aL=0)
     else decide (cz l.af=0)&&(match cc seen (parentOf l.af) with|some x=>decide (x.aD= -1)|none=>false))
def wE:List ag→List ag→Bool
  |_,[]=>true
  |seen,l::ls=>lP seen l&&(match seen.getLast? with|some x=>kg x.af l.af|none=>true)&&wE (seen++[l]) ls
def mU (list:List ag):Bool:=wE [] list&&decide (1≤list.length)&&decide (list.length≤32)
theorem fU.nodup {ns:List ag} (h:fU ns):(ns.map (·.af)).Nodup:=by
  rw[List.Nodup,wo]
  exact h.imp fun hl=>DY hl
theorem ki {ns:List ag} {p:aQ} {l:ag} (h:cc ns p=some l):l∈ns∧l.af=p:=
  ⟨zh h,by simpa using zi h⟩
theorem oh {ns:List ag} {p:aQ}:cc ns p=none↔∀n∈ns,n.af≠p:=by
  unfold cc;simp
theorem qb {ns:List ag} (hn:(ns.map (·.af)).Nodup) {l:ag} (h:l∈ns):cc ns l.af=some l:=by
  induction ns with
  |nil=>cases h
  |cons n ns ih=>
   rw[eR,qK] at hn
   unfold cc
   rw[zD]
   rcases ei.1 h with rfl|h
   · simp
   · have:n.af≠l.af:=fun e=>hn.1 (e▸de.2 ⟨l,h,rfl⟩)
     simp only[this,xG]
     exact ih hn.2 h
theorem BK {ms ns:List ag} (hp:ms.Perm ns) (hn:(ns.map (·.af)).Nodup) (p:aQ):cc ms p=cc ns p:=by
  have hm:(ms.map (·.af)).Nodup:=(hp.map _).nodup_iff.2 hn
  cases h:cc ns p with
  |none=>exact oh.2 fun n u=>oh.1 h n (hp.mem_iff.1 u)
  |some l=>
   obtain⟨h1,rfl⟩:=ki h
   exact qb hm (hp.mem_iff.2 h1)
theorem D0 (l:ag):∀ns:List ag,(s_ l ns).Perm (l::ns)
  |[]=>gO _
  |n::ns=>by
   unfold s_
   split
   · exact gO _
   · exact((D0 l ns).cons n).trans (List.Perm.swap _ _ _)
theorem HH {l:ag}:∀{ns:List ag},fU ns→(∀n∈ns,n.af≠l.af)→fU (s_ l ns)
  |[],_,_=>by simp[s_,fU]
  |n::ns,h,hne=>by
   have h':=kX.1 h
   unfold s_
   split
   · rename_i hlt
     refine kX.2 ⟨fun x hx=>?_,h⟩
     rcases ei.1 hx with rfl|hx
     · exact hlt
     · exact zV hlt (h'.1 x hx)
   · rename_i hlt
     have hlt:kg n.af l.af=true:=by
       cases hk:kg n.af l.af with
       |true=>rfl
       |false=>exact absurd (BI hk (kH.2 hlt)) (hne n (.head _))
     refine kX.2 ⟨fun x hx=>?_,HH h'.2 fun m hm=>hne m (.tail _ hm)⟩
     have:=(D0 l ns).mem_iff.1 hx
     rcases ei.1 this with rfl|hx
     · exact hlt
     · exact h'.1 x hx
theorem D1 {ns:List ag} (h:fU ns) (p:aQ):fU (gi ns p):=oD mM h
theorem N1 {ns:List ag} {p:aQ}:∀n∈gi ns p,n.af≠p:=fun n hn=>by
  unfold gi at hn
  rw[fB] at hn
  simpa using hn.2
theorem zW {ns:List ag} (h:fU ns) (l:ag):fU (eO ns l):=HH (D1 h _) N1
theorem qc (ns:List ag) (l:ag):(eO ns l).Perm (l::gi ns l.af):=D0 l _
theorem zX {ns:List ag} {p:aQ} (h:cc ns p=none):gi ns p=ns:=by
  unfold gi
  rw[mJ]
  intro n hn
  simpa using oh.1 h n hn
theorem HJ:∀{a b:List ag},fU a→fU b→a.Perm b→a=b
  |[],b,_,_,h=>by rw[List.nil_perm] at h;exact h.symm
  |x::a,[],_,_,h=>by rw[List.perm_nil] at h;cases h
  |x::a,y::b,ha,hb,h=>by
   have u:=kX.1 ha
   have hb':=kX.1 hb
   have hx:x=y:=by
     rcases ei.1 (h.mem_iff.1 (.head _:x∈x::a)) with e|hx
     · exact e
     · rcases ei.1 (h.mem_iff.2 (.head _:y∈y::b)) with e|hy
       · exact e.symm
       · have h1:=hb'.1 x hx
         have h2:=u.1 y hy
         have:=BJ h1
         unfold kg at h2
         rw[this] at h2
         cases h2
   subst hx
   rw[HJ u.2 hb'.2 (List.perm_cons _ |>.1 h)]
theorem BL {ns:List ag} (h:fU ns) {l:ag} (hl:cc ns l.af=some l):eO ns l=ns:=by
  refine HJ (zW h l) h ((qc ns l).trans ?_)
  have hm:=(ki hl).1
  clear hl
  have hn:=h.nodup
  clear h
  induction ns with
  |nil=>cases hm
  |cons n ns ih=>
   rw[eR,qK] at hn
   rcases ei.1 hm with rfl|hm
   · have:gi (l::ns) l.af=ns:=by
       unfold gi
       rw[jK]
       simp only[wq,nk,gA,dV]
       exact zX (oh.2 fun x hx e=>hn.1 (e▸de.2 ⟨x,hx,rfl⟩))
     rw[this]
   · have hne:n.af≠l.af:=fun e=>hn.1 (e▸de.2 ⟨l,hm,rfl⟩)
     have:gi (n::ns) l.af=n::gi ns l.af:=by
       unfold gi
       rw[jK]
       simp[hne]
     rw[this]
     exact(List.Perm.swap _ _ _).trans ((ih hm hn.2).cons n)
def eG (ns:List ag) (p:aQ):Int:=if cX p≠0 then cX p else match cc ns p with
  |none=>100
  |some _=>0
def fM (ns:List ag) (p:aQ) (bO:Int):Int:=if eG ns p≠0 then eG ns p else match cc ns p with
  |none=>100
  |some l=>if bO≥0∧l.ai≠bO then 102 else 0
def gC (ns:List ag) (p data:aQ):Int:=if cz p≠0 then cz p else if data.length>128 then 104 else match cc ns (parentOf p) with
  |none=>100
  |some l=>if l.aD≠ -1 then 105 else 0
theorem D2 {ns:List ag} {p:aQ} (h:¬cX p=0):eG ns p=cX p:=by unfold eG;rw[aO h]
theorem D3 {ns:List ag} {p:aQ} (h:cX p=0) (h2:cc ns p=none):eG ns p=100:=by unfold eG;rw[aC (by simpa using h),h2]
theorem BM {ns:List ag} {p:aQ} {l:ag} (h:cX p=0) (h2:cc ns p=some l):eG ns p=0:=by unfold eG;rw[aC (by simpa using h),h2]
theorem BN {ns:List ag} {p:aQ} {bO:Int} (h:eG ns p≠0):fM ns p bO=eG ns p:=by unfold fM;rw[aO h]
theorem BO {ns:List ag} {p:aQ} {bO:Int} {l:ag} (h:eG ns p=0) (h2:cc ns p=some l) (h3:bO≥0) (h4:l.ai≠bO):fM ns p bO=102:=by
  unfold fM;rw[aC (by simpa using h),h2];exact aO ⟨h3,h4⟩
theorem BP {ns:List ag} {p:aQ} {bO:Int} {l:ag} (h:eG ns p=0) (h2:cc ns p=some l) (h3:¬bO≥0):fM ns p bO=0:=by
  unfold fM;rw[aC (by simpa using h),h2];exact aC fun hh=>h3 hh.1
theorem BQ {ns:List ag} {p:aQ} {bO:Int} {l:ag} (h:eG ns p=0) (h2:cc ns p=some l) (h3:l.ai=bO):fM ns p bO=0:=by
  unfold fM;rw[aC (by simpa using h),h2];exact aC fun hh=>hh.2 h3
theorem zY {ns:List ag} {p data:aQ} (h:¬cz p=0):gC ns p data=cz p:=by unfold gC;rw[aO h]
theorem zZ {ns:List ag} {p data:aQ} (h:cz p=0) (h2:(data.length:Int)>128):gC ns p data=104:=by unfold gC;rw[aC (by simpa using h),aO (by omega)]
theorem z_ {ns:List ag} {p data:aQ} (h:cz p=0) (h2:¬(data.length:Int)>128) (h3:cc ns (parentOf p)=none):gC ns p data=100:=by unfold gC;rw[aC (by simpa using h),aC (by omega),h3]
theorem Aa {ns:List ag} {p data:aQ} {l:ag} (h:cz p=0) (h2:¬(data.length:Int)>128) (h3:cc ns (parentOf p)=some l) (h4:¬l.aD= -1):gC ns p data=105:=by
  unfold gC;rw[aC (by simpa using h),aC (by omega),h3];exact aO h4
theorem Ab {ns:List ag} {p data:aQ} {l:ag} (h:cz p=0) (h2:¬(data.length:Int)>128) (h3:cc ns (parentOf p)=some l) (h4:l.aD= -1):gC ns p data=0:=by
  unfold gC;rw[aC (by simpa using h),aC (by omega),h3];exact aC (by simpa using h4)
theorem D4 {ns:List ag} {p:aQ} (h:eG ns p≠0):cg ns p=(DZ,eG ns p):=by
  unfold eG at *;unfold cg
  by_cases hp:cX p=0
  · rw[aO hp]
    rw[aC (by simpa using hp)] at h ⊢
    cases hf:cc ns p with
    |none=>rfl
    |some l=>rw[hf] at h;exact absurd rfl h
  · rw[aC hp,aO hp]
theorem D5 {ns:List ag} {p:aQ} {l:ag} (h:eG ns p=0) (h2:cc ns p=some l):cg ns p=(l,0):=by
  unfold eG at *;unfold cg
  by_cases hp:cX p=0
  · rw[aO hp,h2]
  · rw[aO hp] at h;exact absurd h hp
theorem HK {ns:List ag} {p:aQ} (h:eG ns p≠0):jL ns p=([],eG ns p):=by
  unfold eG at *;unfold jL
  by_cases hp:cX p=0
  · rw[aC (by simpa using hp)] at h ⊢
    rw[aC (by simpa using hp)]
    cases hf:cc ns p with
    |none=>rfl
    |some l=>rw[hf] at h;exact absurd rfl h
  · rw[aO hp,aO hp]
theorem HL {ns:List ag} {p:aQ} {l:ag} (h:eG ns p=0) (h2:cc ns p=some l):jL ns p=(gK ns p,0):=by
  unfold eG at *;unfold jL
  by_cases hp:cX p=0
  · rw[aC (by simpa using hp),h2]
  · rw[aO hp] at h;exact absurd h hp
theorem HM {ns:List ag} (hs:fU ns) {i:Nat} {p:aQ} (h:(ns.map (·.af))[i]?=some p):∃l,ns[i]?=some l∧cc ns p=some l:=by
  rw[jU] at h
  cases hl:ns[i]? with
  |none=>rw[hl] at h;cases h
  |some l=>
   rw[hl] at h
   simp only[mS,fu] at h
   subst h
   exact⟨l,rfl,qb hs.nodup (cj hl)⟩
theorem N2 {ns out:List ag} (hs:fU ns) {i:Int} {p:aQ} {l:ag} (h0:0≤i) (hx:(ns.map (·.af))[i.toNat]?=some p) (hf:cc ns p=some l) (ho:out=ns.take i.toNat):out++[l]=ns.take (i+1).toNat:=by
  obtain⟨u,h1,h2⟩:=HM hs hx
  rw[hf] at h2
  cases h2
  rw[toNat_succ h0,fG h1,ho]
theorem N3 {ns:List ag} (hs:fU ns) {i:Nat} {p:aQ} (hx:(ns.map (·.af))[i]?=some p) (hf:cc ns p=none):False:=by
  obtain⟨u,h1,h2⟩:=HM hs hx
  rw[hf] at h2
  cases h2
def gj (ns:List ag):Prop:=ns.length≤1000∧∀n∈ns,n.af.length≤64∧n.Data.length≤128∧ -9223372036854775808≤n.Next∧n.Next≤9223372036854775807
theorem gj.data {ns:List ag} (h:gj ns) {p:aQ} {l:ag} (hf:cc ns p=some l):l.Data.length≤128:=(h.2 l (ki hf).1).2.1
theorem gj.next {ns:List ag} (h:gj ns) {p:aQ} {l:ag} (hf:cc ns p=some l): -9223372036854775808≤l.Next∧l.Next≤9223372036854775807:=(h.2 l (ki hf).1).2.2
theorem N4 (ns:List ag) (p:aQ):(gK ns p).length≤ns.length:=by
  unfold gK;rw[d_];exact l7 _ _
theorem HN {ns:List ag} (hs:fU ns) {ow:List Int} {xs:List aQ} {p:aQ} {l:ag} {out:List aQ} (hp:xs++[p] <+: (ns.map (·.af)).reverse) (hf:cc ns p=some l)
    (ho:out=xs.filter fun q=>match cc ns q with|some n=>ow.any (fun o=>decide (n.aD=o))|none=>false):
    (if ow.any (fun o=>decide (l.aD=o))=true then out++[p] else out)=(xs++[p]).filter fun q=>match cc ns q with|some n=>ow.any (fun o=>decide (n.aD=o))|none=>false:=by
  rw[nP,ho]
  simp only[jK,hf,List.filter_nil]
  split<;>simp
theorem N5 {ns:List ag} (hs:fU ns) {ow:List Int}:
    ((ns.map (·.af)).reverse.filter fun q=>match cc ns q with|some n=>ow.any (fun o=>decide (n.aD=o))|none=>false)=gw ns ow:=by
  unfold gw
  rw[List.filter_reverse,wv]
  congr 2
  apply s9
  intro n hn
  simp only[Function.comp,qb hs.nodup hn]
theorem N6 {ns:List ag} (hs:fU ns) {xs:List aQ} {p:aQ} (hp:xs++[p] <+: (ns.map (·.af)).reverse) (hf:cc ns p=none):False:=by
  have h1:p∈(ns.map (·.af)).reverse:=hp.subset (by simp)
  rw[DE] at h1
  obtain⟨n,hn,rfl⟩:=de.1 h1
  rw[qb hs.nodup hn] at hf
  cases hf
theorem Ac {x:List ag} {l:ag} (h:l.aD< -1∨l.ai<0∨l.Next<0∨l.aL<0∨(l.Data.length:Int)>128):lP x l=false:=by
  unfold lP
  rw[wu]
  refine .inl ?_
  simp only[wu,jb]
  omega
theorem HO {x:List ag} {l:ag} (h1:¬l.aD< -1) (h2:¬l.ai<0) (h3:¬l.Next<0) (h4:¬l.aL<0) (h5:¬(l.Data.length:Int)>128):
    lP x l=(if x=[] then decide (l.af=[47])&&decide (l.aD= -1)&&decide (l.aL=0) else decide (cz l.af=0)&&(match cc x (parentOf l.af) with|some x=>decide (x.aD= -1)|none=>false)):=by
  unfold lP
  have:(decide (-1≤l.aD)&&decide (0≤l.ai)&&decide (0≤l.Next)&&decide (0≤l.aL)&&decide (l.Data.length≤128))=true:=by
    simp only[b_,cQ];omega
  rw[this,lp]
theorem D6 {x:List ag} {l:ag} (h1:¬l.aD< -1) (h2:¬l.ai<0) (h3:¬l.Next<0) (h4:¬l.aL<0) (h5:¬(l.Data.length:Int)>128) (h:(x.length:Int)=0):
    lP x l=(decide (l.af=[47])&&decide (l.aD= -1)&&decide (l.aL=0)):=by
  rw[HO h1 h2 h3 h4 h5,aO (ju (by omega))]
theorem BR {x:List ag} {l:ag} (h1:¬l.aD< -1) (h2:¬l.ai<0) (h3:¬l.Next<0) (h4:¬l.aL<0) (h5:¬(l.Data.length:Int)>128) (h:¬(x.length:Int)=0):
    lP x l=(decide (cz l.af=0)&&(match cc x (parentOf l.af) with|some x=>decide (x.aD= -1)|none=>false)):=by
  rw[HO h1 h2 h3 h4 h5,aC (fun e=>h (by rw[e];rfl))]
theorem D7 {ns:List ag} {p data:aQ} {bO:Int} (h:fM ns p bO≠0):fe ns p data bO=(ns,0,fM ns p bO):=by
  unfold fM eG at *;unfold fe
  by_cases hp:cX p=0
  · simp only[hp,ne_eq,kE,dV] at *
    cases hf:cc ns p with
    |none=>simp[hf]
    |some l=>simp only[hf] at *;split at h<;>simp_all
  · simp[hp]
theorem D8 {ns:List ag} {p:aQ} {bO:Int} {l:ag} (h:fM ns p bO=0) (hf:cc ns p=some l):cX p=0∧¬(bO≥0∧l.ai≠bO):=by
  unfold fM eG at h
  by_cases hp:cX p=0
  · simp only[hp,hf,ne_eq,kE,dV] at h
    refine⟨hp,fun hh=>?_⟩
    rw[aO hh] at h
    cases h
  · simp[hp] at h
theorem D9 {ns:List ag} {p data:aQ} {bO:Int} {l:ag} (h:fM ns p bO=0) (hf:cc ns p=some l) (hd:(data.length:Int)>128):fe ns p data bO=(ns,0,104):=by
  obtain⟨h1,h2⟩:=D8 h hf
  unfold fe
  rw[aC (by simpa using h1),hf]
  simp only[]
  rw[aC h2,aO (by omega)]
theorem D_ {ns:List ag} {p data:aQ} {bO:Int} {l:ag} (h:fM ns p bO=0) (hf:cc ns p=some l) (hd:¬(data.length:Int)>128):
    fe ns p data bO=(eO ns {l with Data:=data,ai:=IntKind.wrap .i64 (l.ai+1)},IntKind.wrap .i64 (l.ai+1),0):=by
  obtain⟨h1,h2⟩:=D8 h hf
  unfold fe
  rw[aC (by simpa using h1),hf]
  simp only[]
  rw[aC h2,aC (by omega)]
section
variable {ns:List ag} {p data q:aQ} {cI born:Int} {num:Bool} {up:ag}
theorem Ea (h:gC ns p data≠0):cm ns p data cI born num=(ns,[],gC ns p data):=by
  unfold gC at *;unfold cm
  by_cases h1:cz p=0
  · simp only[h1,ne_eq,kE,dV] at *
    by_cases h2:data.length>128
    · simp only[h2,jl]
    · simp only[h2,dV] at *
      cases hf:cc ns (parentOf p) with
      |none=>simp
      |some l=>
       simp only[hf] at *
       by_cases h3:l.aD= -1
       · simp[h3] at h
       · simp[h3]
  · simp[h1]
theorem HP (h:gC ns p data=0) (hf:cc ns (parentOf p)=some up):cz p=0∧¬data.length>128∧up.aD= -1:=by
  unfold gC at h
  by_cases h1:cz p=0
  · simp only[h1,ne_eq,kE,dV] at h
    by_cases h2:data.length>128
    · simp[h2] at h
    · simp only[h2,dV,hf] at h
      by_cases h3:up.aD= -1
      · exact⟨h1,h2,h3⟩
      · simp[h3] at h
  · simp[h1] at h
theorem BS (h:gC ns p data=0) (hf:cc ns (parentOf p)=some up):cm ns p data cI born num=if gL up p num≠0 then (ns,[],gL up p num) else match cc ns (fR up p num) with
    |some _=>(ns,[],101)
    |none=>if ns.length≥32 then (ns,[],104) else (oO ns up (fR up p num) data cI born num,fR up p num,0):=by
  obtain⟨h1,h2,h3⟩:=HP h hf
  unfold cm
  simp only[h1,h2,h3,hf,ne_eq,kE,dV]
theorem Eb (h:gC ns p data=0) (hf:cc ns (parentOf p)=some up) (hn:num=true) (he:¬lN p up.Next=0):cm ns p data cI born num=(ns,[],lN p up.Next):=by
  rw[BS h hf];simp[gL,hn,he]
theorem xV (h:gC ns p data=0) (hf:cc ns (parentOf p)=some up) (he:gL up p num=0) (hq:fR up p num=q) (hs:(cc ns q).isSome=true):cm ns p data cI born num=(ns,[],101):=by
  rw[BS h hf,aC (by simpa using he),hq]
  cases hx:cc ns q with
  |none=>rw[hx] at hs;cases hs
  |some _=>rfl
theorem xW (h:gC ns p data=0) (hf:cc ns (parentOf p)=some up) (he:gL up p num=0) (hq:fR up p num=q) (hs:cc ns q=none) (hl:(ns.length:Int)≥32):cm ns p data cI born num=(ns,[],104):=by
  rw[BS h hf,aC (by simpa using he),hq,hs]
  simp only[]
  rw[aO (by omega)]
theorem xX (h:gC ns p data=0) (hf:cc ns (parentOf p)=some up) (he:gL up p num=0) (hq:fR up p num=q) (hs:cc ns q=none) (hl:¬(ns.length:Int)≥32):
    cm ns p data cI born num=(oO ns up q data cI born num,q,0):=by
  rw[BS h hf,aC (by simpa using he),hq,hs]
  simp only[]
  rw[aC (by omega)]
end
theorem uK {p:aQ} (h:fF p=true):p.length≤64:=by
  rcases pV 64 p.length with hl|hl
  · rw[DP hl] at h;cases h
  · exact hl
theorem N7 (p:aQ):(ny p).length≤64:=by
  unfold ny
  split
  · rename_i h;exact uK h
  · exact fH _
theorem Ec (p:aQ) (n:Int):(fy p n).length≤64:=by
  unfold fy
  split
  · exact N7 _
  · exact fH _
theorem Ed {p:aQ} (h:cz p=0):p.length≤64:=by
  cases hp:fF p with
  |true=>exact uK hp
  |false=>
   have:cx p=[]:=by unfold cx;rw[hp];rfl
   exact absurd h (Hx this)
theorem N8 {ns:List ag} {p q:aQ} {up l:ag} (hf:cc ns p=some up) (hq:cc ns q=none) (hl:l.af=up.af):cc (eO ns l) q=none:=by
  rw[oh] at hq ⊢
  intro n hn
  rcases ei.1 ((qc ns l).mem_iff.1 hn) with rfl|hn
  · rw[hl];exact hq up (ki hf).1
  · exact hq n (fB.1 hn).1
theorem N9 {ns:List ag} {p q data:aQ} {cI born:Int} {num:Bool} {up:ag} (hn:num=false) (hs:fU ns) (hf:cc ns p=some up):oO ns up q data cI born num=eO ns ⟨q,data,0,max cI (-1),0,max born 0⟩:=by
  subst hn
  unfold oO
  simp only[gA,dV]
  rw[BL hs (by rw[(ki hf).2];exact hf)]
theorem N_ {ns:List ag} {q data:aQ} {cI born:Int} {num:Bool} {up:ag} (hn:num=true):oO ns up q data cI born num=eO (eO ns {up with Next:=IntKind.wrap .i64 (up.Next+1)}) ⟨q,data,0,max cI (-1),0,max born 0⟩:=by
  subst hn;rfl
section
variable {h0:ax} {g0:GH} {S0:Nat→Prop} {g:GH} {L L':List ay} {h:ax}
theorem St.qN (hf:L.flatten.Perm L'.flatten) (s:St h0 g0 S0 g L h):St h0 g0 S0 g L' h:=
  ⟨s.size,s.frame,s.le,s.new,s.sub,fun p hm=>s.mC p (hf.mem_iff.2 hm),(hf.map _).nodup_iff.1 s.nodup,fun p hm=>s.sep p (hf.mem_iff.2 hm),fun p hm=>s.own p (hf.mem_iff.2 hm)⟩
end
abbrev qO (l:ag) (v:Value):Array Value:=#[.string (bp l.af),v,.int .i64 l.ai,.int .i64 l.aD,.int .i64 l.Next,.int .i64 l.aL]
abbrev TL:TypeId:=39
abbrev TT:TypeId:=197
structure oP where
  b:Nat
  l:ag
  v:Value
  c:ay
def kY (ms:List oP):List (aQ×Value):=ms.map fun m=>(m.l.af,.pointer (some ⟨m.b,0,none⟩))
def BT (m:oP):ay:=(m.b,.cells (qO m.l m.v) TL (0,0))::m.c
def mV (ms:List oP):ay:=(ms.map BT).flatten
def HQ (ms:List oP):Prop:=∀m∈ms,aJ 5 br (fun _=>none) m.v m.l.Data m.c
def uL (es:Array MapEntry) (bf:Nat) (ms:List oP) (ns:List ag):Prop:=cZ encS es bf (kY ms)∧(ms.map (·.l)).Perm ns∧fU ns∧∀n∈ns,n.af.length≤64
def hU (g:GH) (mb:Nat) (ns:List ag) (c:ay):Prop:=∃es bf ms,c.Perm ((mb,.map es bf)::mV ms)∧uL es bf ms ns∧HQ ms
theorem hU.bu {g g':GH} {mb:Nat} {ns:List ag} {c:ay} (h:hU g mb ns c):hU g' mb ns c:=h
theorem hU.mono {g g':GH} {mb:Nat} {ns:List ag} {c:ay} (h:hU g mb ns c) (hg:aM g g'):hU g' mb ns c:=h
def kZ (g:GH) (mb:Nat) (ns:List ag):Prop:=∃es bf ms,g mb=some (.map es bf)∧uL es bf ms ns∧∀m∈ms,g m.b=some (.cells (qO m.l m.v) TL (0,0))∧av g 5 br m.v m.l.Data
theorem kZ.mono {g g':GH} {mb:Nat} {ns:List ag} (h:kZ g mb ns) (hg:aM g g'):kZ g' mb ns:=by
  obtain⟨es,bf,ms,h1,h2,h3⟩:=h
  exact⟨es,bf,ms,hg _ _ h1,h2,fun m hm=>⟨hg _ _ (h3 m hm).1,(h3 m hm).2.mono hg⟩⟩
def kj (g:GH) (b:Nat) (ns:List ag):Prop:=∃mb,g b=some (.cells #[.map (some mb)] TT (0,0))∧kZ g mb ns
theorem kj.mono {g g':GH} {b:Nat} {ns:List ag} (h:kj g b ns) (hg:aM g g'):kj g' b ns:=by
  obtain⟨mb,h1,h2⟩:=h
  exact⟨mb,hg _ _ h1,h2.mono hg⟩
def Ad (g:GH) (mb:Nat) (l:ag) (b:Nat):Prop:=∃es bf,g mb=some (.map es bf)∧∃e∈es.toList,e.key=encS l.af∧e.val=.pointer (some ⟨b,0,none⟩)
section
variable {g:GH} {mb:Nat} {ns:List ag} {es:Array MapEntry} {bf:Nat} {ms:List oP}
theorem HR (hn:(ms.map (·.l.af)).Nodup) (p:aQ):(cc (ms.map (·.l)) p=none∧fZ (kY ms) p=none)∨∃m∈ms,cc (ms.map (·.l)) p=some m.l∧fZ (kY ms) p=some (.pointer (some ⟨m.b,0,none⟩)):=by
  cases h:cc (ms.map (·.l)) p with
  |none=>
   refine .inl ⟨rfl,DG fun q hq=>?_⟩
   obtain⟨m,hm,rfl⟩:=de.1 hq
   exact oh.1 h m.l (de.2 ⟨m,hm,rfl⟩)
  |some l=>
   obtain⟨h1,rfl⟩:=ki h
   obtain⟨m,hm,rfl⟩:=de.1 h1
   refine .inr ⟨m,hm,rfl,?_⟩
   obtain⟨j,hj⟩:=qa.1 hm
   have hk:(kY ms)[j]?=some (m.l.af,.pointer (some ⟨m.b,0,none⟩)):=by simp[kY,hj]
   have u:((kY ms).map (·.1)).Nodup:=by simpa[kY,jg,Function.comp_def] using hn
   exact DH u hk
theorem uL.nodup (h:uL es bf ms ns):(ms.map (·.l.af)).Nodup:=by
  have:=(h.2.1.map (·.af)).nodup_iff.2 h.2.2.1.nodup
  simpa[jg,Function.comp_def] using this
theorem uL.iB (h:uL es bf ms ns) (p:aQ):(cc ns p=none∧fZ (kY ms) p=none)∨∃m∈ms,cc ns p=some m.l∧fZ (kY ms) p=some (.pointer (some ⟨m.b,0,none⟩)):=by
  rw[←BK h.2.1 h.2.2.1.nodup p]
  exact HR h.nodup p
theorem uL.len (h:uL es bf ms ns):(kY ms).length=ns.length:=by
  have:=h.2.1.length_eq
  simpa[kY] using this
theorem kZ.me (h:kZ g mb ns):∃es bf ks,g mb=some (.map es bf)∧cZ encS es bf ks∧ks.length=ns.length∧(ks.map (·.1)).Perm (ns.map (·.af))∧(∀p∈ks,p.1.length≤64)∧
    ∀p,(cc ns p=none∧fZ ks p=none)∨∃b l v,cc ns p=some l∧fZ ks p=some (.pointer (some ⟨b,0,none⟩))∧g b=some (.cells (qO l v) TL (0,0))∧av g 5 br v l.Data∧Ad g mb l b:=by
  obtain⟨es,bf,ms,h1,h2,h3⟩:=h
  refine⟨es,bf,kY ms,h1,h2.1,h2.len,?_,?_,fun p=>?_⟩
  · have:=h2.2.1.map (·.af)
    simpa[kY,jg,Function.comp_def] using this
  · intro q hq
    obtain⟨m,hm,rfl⟩:=de.1 hq
    exact h2.2.2.2 m.l (h2.2.1.mem_iff.1 (de.2 ⟨m,hm,rfl⟩))
  · rcases h2.iB p with h|⟨m,hm,h4,h5⟩
    · exact .inl h
    · refine .inr ⟨m.b,m.l,m.v,h4,h5,(h3 m hm).1,(h3 m hm).2,es,bf,h1,?_⟩
      have:(encS m.l.af,(.pointer (some ⟨m.b,0,none⟩):Value))∈es.toList.map (fun e=>(e.key,e.val)):=by
        rw[h2.1.1]
        exact de.2 ⟨(m.l.af,.pointer (some ⟨m.b,0,none⟩)),de.2 ⟨m,hm,rfl⟩,rfl⟩
      obtain⟨e,he,u⟩:=de.1 this
      simp only[iM] at u
      exact⟨e,he,u.1,u.2⟩
end
section
variable {h0:ax} {g0:GH} {S0:Nat→Prop} {g:GH} {L:List ay} {h:ax} {C c:ay} {mb:Nat} {ns:List ag}
theorem HS {ms:List oP} {m:oP} (hm:m∈ms) {p:Nat×Obj} (hp:p∈BT m):p∈mV ms:=xu.2 ⟨_,de.2 ⟨m,hm,rfl⟩,hp⟩
theorem hU.fY (H:hU g mb ns c) (s:St h0 g0 S0 g (C::L) h) (hc:∀p∈c,p∈C):kZ (dy g C) mb ns:=by
  obtain⟨es,bf,ms,hp,hok,hr⟩:=H
  have u:∀p∈(mb,.map es bf)::mV ms,p∈C:=fun p D=>hc p (hp.mem_iff.2 D)
  refine⟨es,bf,ms,oK s.p9 (u _ (.head _)),hok,fun m hm=>⟨oK s.p9 (u _ (.tail _ (HS hm (.head _)))),?_⟩⟩
  have hrow:aJ 5 br g m.v m.l.Data m.c:=(hr m hm).bu (fun _ _ _ _ h=>h)
  exact hrow.lH s fun p D=>u p (.tail _ (HS hm (.tail _ D)))
end
open Go Go.Sort Go.Proofs
def jM (u:List an):List an:=u.mergeSort fun x y=>decide (x≤y)
theorem BU (u:List an):(jM u).length=u.length:=by simp[jM]
theorem HT:∀{a b:an},Go.Op.bytesLess a b=true↔a<b
  |[],[]=>by simp[Go.Op.bytesLess]
  |[],_::_=>by simp[Go.Op.bytesLess]
  |_::_,[]=>by simp[Go.Op.bytesLess]
  |x::a,y::b=>by
   simp only[Go.Op.bytesLess,jh,cQ,b_,j6,List.cons_lt_cons_iff,HT (a:=a) (b:=b)]
theorem HU {l u:List an} (h:l.Perm u):jM l=jM u:=by
  have tr:∀a b c:an,decide (a≤b)=true→decide (b≤c)=true→decide (a≤c)=true:=fun a b c h1 h2=>by simp only[cQ] at *;exact List.le_trans h1 h2
  have tot:∀a b:an,(decide (a≤b)||decide (b≤a))=true:=fun a b=>by simp only[jh,cQ];exact List.le_total a b
  refine BA (le:=fun a b=>decide (a≤b)=true) (fun a b _ _ h1 h2=>?_) (xH tr tot l) (xH tr tot u) (((xI l _).trans h).trans (xI u _).symm)
  simp only[cQ] at h1 h2
  exact List.le_antisymm h1 h2
theorem HV {l:List an} (h:l.Pairwise fun a b=>Go.Op.bytesLess a b=true):jM l=l:=by
  have tr:∀a b c:an,decide (a≤b)=true→decide (b≤c)=true→decide (a≤c)=true:=fun a b c h1 h2=>by simp only[cQ] at *;exact List.le_trans h1 h2
  have tot:∀a b:an,(decide (a≤b)||decide (b≤a))=true:=fun a b=>by simp only[jh,cQ];exact List.le_total a b
  refine BA (le:=fun a b=>decide (a≤b)=true) (fun a b _ _ h1 h2=>?_) (xH tr tot l) (h.imp fun hl=>?_) (xI l _)
  · simp only[cQ] at h1 h2
    exact List.le_antisymm h1 h2
  · simp only[cQ]
    exact List.le_of_lt (HT.1 hl)
theorem HW {g:GH}:∀{xs:List an} {cs:List Value},Reads eU g xs cs→cs=xs.map encStr
  |[],cs,h=>by simpa[Reads] using h
  |x::xs,cs,⟨c,cs',e,hk,hr⟩=>by
   have hk:c=[.string (bp x)]:=hk
   have:=HW hr
   subst hk this
   rw[e]
   rfl
theorem St.grow {h0:ax} {g0:GH} {S0:Nat→Prop} {g:GH} {L:List ay} {h:ax} (s:St h0 g0 S0 g L h) (os:Array Obj):St h0 g0 S0 g L (h++os):=by
  have old:∀b,b<h.size→(h++os)[b]?=h[b]?:=fun b hb=>by rw[C2,aO hb]
  exact⟨by have:=s.size;simp;omega,fun b hb hs=>(old b (nv hb s.size)).trans (s.frame b hb hs),s.le,s.new,
    fun b x hb=>(old b (s.sub.lt hb)).trans (s.sub b x hb),fun p hp=>(old _ (s.lt hp)).trans (s.mC p hp),s.nodup,s.sep,s.own⟩
theorem Oa (cur:Array Value) (o:Nat) (ts:List an) (h:o+ts.length≤cur.size):putCells encStr o ts.toArray cur=splice cur o (ts.map encStr):=by
  apply DF
  intro k
  have hc:cur.toList.length=cur.size:=uw
  unfold putCells splice
  rw[GS]
  simp only[d_,sY]
  rw[zM,cA,e_,d_,zM,e_,hc,kW (by omega)]
  by_cases h1:k<o
  · rw[aO (by omega),aO h1,BB h1,uu]
    cases cur[k]? with
    |none=>rfl
    |some x=>simp;omega
  · by_cases h2:k<o+ts.length
    · rw[aO (by omega),aC h1,jU]
      have hk:k<cur.size:=by omega
      have hj:k-o<ts.length:=by omega
      rw[Bz hk,oG hj]
      simp only[mS]
      rw[aO ⟨by omega,by simpa using h2⟩]
      simp[hj]
    · rw[aC (by omega),xJ,uu,show o+ts.length+(k-(o+ts.length))=k from by omega]
      cases cur[k]? with
      |none=>rfl
      |some x=>simp;omega
theorem Ob (B:World) (h:ax) (g:GH) (hg:bl g h) (v:Value) (u:List an) (c:ay) (hr:aJ 9 eU g v u c) (hl:u.length≤1000000000) (hs:St h g (aV [c]) g [c] h):
    aE prog B 217 #[v] h g [c] fun G g' L'=>G=.tuple #[]∧g'=g∧∃c',aJ 9 eU g v (jM u) c'∧L'=[c']:=by
  rcases hr with ⟨ao,rfl,rfl,rfl⟩|⟨b,o,cap,cur,rest,rfl,rfl,h1,h2,h3,h4⟩
  · intro w is
    exact(slices_Sort_string_none ao 0 w).mono fun e w' ⟨he,hw⟩=>⟨.tuple #[],he,hw▸is.again,g,[[]],by rw[hw,is.heap];exact hs,rfl,rfl,[],.inl ⟨ao,rfl,by simp[jM],rfl⟩,rfl⟩
  · intro w is
    have hb:=hs.ah 0 (b:=b) rfl
    have D:w.heap[b]?=some (.cells cur 9 (0,0)):=by rw[is.heap];exact hb
    have hz:eU.sz=1:=rfl
    rw[hz,oJ] at h3 h4
    have I:=HW h4
    have hcell:∀j,j<u.length→cur[o+j]?=some (encStr u[j]!):=by
      intro j hj
      have e:(cut cur o cap)[j]?=some (encStr u[j]!):=by
        rw[I,jU,GU hj]
        simp[hj]
      unfold cut at e
      rw[BB (by omega),xJ,uu] at e
      exact e
    have hH:Holds encStr w b o u.toArray:=by
      intro j hj
      have hj:j<u.length:=by simpa using hj
      refine⟨?_,by simp[World.frozen?,D]⟩
      simp only[World.cell?,D]
      simp only[Option.isSome_none,gA,dV]
      rw[hcell j hj]
      simp[hj]
    have hlt:b<w.heap.size:=(mP.1 D).1
    refine(slices_Sort_string b o cap u w hH hlt (by omega)).mono fun e w' ⟨he,n,os,hw⟩=>⟨.tuple #[],he,?_,?_⟩
    · subst hw
      exact⟨rfl,is.os,is.tape,is.output⟩
    · have hu:jm h b (.cells (putCells encStr o (jM u).toArray cur) 9 (0,0)) (h.modify b (onCells (putCells encStr o (jM u).toArray))):=jm.modify (onCells (putCells encStr o (jM u).toArray)) hb
      have s1:=(hs.xy 0 (b:=b) rfl hu).grow os
      have hh:w'.heap=h.modify b (onCells (putCells encStr o (jM u).toArray))++os:=by
        rw[hw,←is.heap]
        rfl
      rw[hh]
      have hts:o+(jM u).length≤cur.size:=by rw[BU];omega
      have hput:putAt u 0 (jM u)=jM u:=by
        unfold putAt
        rw[xD,eN,sX,mz (by rw[BU];omega),dX]
      have hrow:=aJ.Bn (T:=9) (d:=eU) (b:=b) (o:=o) (cap:=cap) (xs:=u) h1 h2 (by rw[hz,oJ];exact h3) (by rw[hz,oJ];exact h4) 0 (ys:=jM u) (news:=(jM u).map encStr) (by rw[BU];omega) (Dq g _)
      rw[hput,vR,lG,BU,←Oa cur o _ hts] at hrow
      exact⟨g,_,s1,rfl,rfl,_,hrow,rfl⟩
theorem xY {k:IntKind} (x y:Int):Value.int k (if y>x then y else x)=Value.int k (max x y):=by
  congr 1
  split<;>omega
theorem Oc {k:IntKind} (x y:Int):Value.int k (if y<x then y else x)=Value.int k (min x y):=by
  congr 1
  split<;>omega
def tc (_:GH) (x:aQ) (a:Array Value):Prop:=a=#[.string (bp x)]
def Ee (_:GH) (x:aQ) (a:Array Value):Prop:=∃i:Int,a=#[.int .i64 i,.string (bp x)]
def td {α:Type} (go:List α→Bool) (xs:List α):Prop:=∀ys,ys <+: xs→ys≠xs→go ys=true
theorem xZ {α:Type} (go:List α→Bool):td go []:=fun ys h hn=>absurd (List.prefix_nil.1 h) hn
theorem oQ {α:Type} {go:List α→Bool} {xs:List α} {x:α} (h:td go xs) (hg:go xs=true):td go (xs++[x]):=by
  intro ys hy hn
  rcases List.prefix_concat_iff.1 hy with e|hy
  · exact absurd e hn
  · by_cases hx:ys=xs
    · rw[hx];exact hg
    · exact h ys hy hx
theorem uM {α:Type} {vs rs a b ks:List α} {x:α} (h:(vs++rs).Perm ks) (e:rs=a++x::b):((vs++[x])++(a++b)).Perm ks:=by
  refine List.Perm.trans ?_ h
  rw[e,dm]
  exact GN _ (List.perm_middle.symm:(x::(a++b)).Perm (a++x::b))
theorem Ae {α u:Type} {f:α→u} {vs rs ks:List α} {P:List u} (h:(vs++rs).Perm ks) (e:rs=[]) (hp:(ks.map f).Perm P):(vs.map f).Perm P:=by
  subst e
  rw[dX] at h
  exact(h.map f).trans hp
theorem qP {α u:Type} {f:α→u} {vs rs a b ks:List α} {x:α} {P:List u} (h:(vs++rs).Perm ks) (e:rs=a++x::b) (hp:(ks.map f).Perm P):(((vs++[x])++(a++b)).map f).Perm P:=
  ((uM h e).map f).trans hp
def jN (p q:aQ):Bool:=decide (cz q=0)&&decide (parentOf q=p)
theorem Od (ns:List ag) (p:aQ):(ns.map (·.af)).filter (jN p)=gK ns p:=by
  unfold gK
  rw[wv]
  rfl
theorem Ef {xs:List aQ} {ns:List ag} {p:aQ} (h:xs.Perm (ns.map (·.af))):(xs.filter (jN p)).Perm (gK ns p):=by
  rw[←Od]
  exact h.filter _
theorem Oe {vs rs a b ks:List (aQ×Value)} {k:aQ} {v:Value} (hs:∀p∈ks,p.1.length≤64) (h:(vs++rs).Perm ks) (e:rs=a++(k,v)::b):k.length≤64:=
  hs (k,v) (h.mem_iff.1 (by rw[e];simp))
theorem BV {vs:List (aQ×Value)} {k p:aQ} {v:Value} (h1:cz k=0) (h2:parentOf k=p):((vs++[(k,v)]).map (·.1)).filter (jN p)=(vs.map (·.1)).filter (jN p)++[k]:=by
  rw[iH,nP]
  simp[jN,h1,h2]
theorem Eg {vs:List (aQ×Value)} {k p:aQ} {v:Value} (h1:¬cz k=0):((vs++[(k,v)]).map (·.1)).filter (jN p)=(vs.map (·.1)).filter (jN p):=by
  rw[iH,nP]
  simp[jN,h1]
theorem Eh {vs:List (aQ×Value)} {k p:aQ} {v:Value} (h2:¬parentOf k=p):((vs++[(k,v)]).map (·.1)).filter (jN p)=(vs.map (·.1)).filter (jN p):=by
  rw[iH,nP]
  simp[jN,h2]
theorem HX {vs r:List (aQ×Value)} {k p:aQ} {v:Value} (h1:cz k=0) (h2:parentOf k=p):(vs.map (·.1)).filter (jN p)++[k] <+: (((vs++[(k,v)])++r).map (·.1)).filter (jN p):=by
  rw[iH,nP,BV h1 h2]
  exact DC _ _
theorem Ei {α:Type} (s:List α):(s.drop ((s.length:Int)-1+1).toNat).reverse=[]:=by
  rw[show((s.length:Int)-1+1).toNat=s.length by omega];simp
theorem Af {α:Type} {s:List α} {i:Int} {x:α} (h:0≤i) (hx:s[i.toNat]?=some x):(s.drop (i-1+1).toNat).reverse=(s.drop (i+1).toNat).reverse++[x]:=by
  rw[show(i-1+1).toNat=i.toNat by omega,show(i+1).toNat=i.toNat+1 by omega,drop_at hx,List.reverse_cons]
theorem Of {α:Type} {s:List α} {i:Int} (h: -1≤i) (h2:i<0):(s.drop (i+1).toNat).reverse=s.reverse:=by
  rw[show(i+1).toNat=0 by omega];rfl
theorem HY {α:Type} (s:List α) (n:Nat):(s.drop n).reverse <+: s.reverse:=by
  refine⟨(s.take n).reverse,?_⟩
  rw[←List.reverse_append,od]
theorem HZ {ns:List ag} (h:fU ns):(ns.map (·.af)).Pairwise fun a b=>Go.Op.bytesLess a b=true:=wo.2 h
theorem Og {r:List aQ} {ns:List ag} {p:aQ} (hp:r.Perm (gK ns p)) (h:fU ns):jM r=gK ns p:=
  (HU hp).trans (HV (HZ (oD mM h)))
theorem kZ.sort {g:GH} {mb:Nat} {ns:List ag} (h:kZ g mb ns):fU ns:=by
  obtain⟨_,_,_,_,h2,_⟩:=h
  exact h2.2.2.1
theorem kj.sort {g:GH} {b:Nat} {ns:List ag} (h:kj g b ns):fU ns:=by
  obtain⟨_,_,h2⟩:=h
  exact h2.sort
abbrev gE:GH:=fun _=>none
theorem Oh {c c':ay}:aM (dy gE c) (dy gE (c++c')):=by
  intro b o h
  unfold dy at *
  rw[List.find?_append]
  cases hf:c.find? (fun p=>Nat.beq p.1 b) with
  |none=>rw[hf] at h;cases h
  |some p=>rw[hf] at h;exact h
theorem Oi {v:Value} {xs:an} {c C:ay} (h:aJ 5 br gE v xs c) (hn:(C.map (·.1)).Nodup) (hc:∀p∈c,p∈C):av (dy gE C) 5 br v xs:=by
  rcases h.old with ⟨ao,rfl,rfl,_⟩|⟨b,o,cap,cur,rfl,rfl,h1,h2,h3,h4⟩
  · exact av.empty _ _ _ _ _
  · exact⟨_,cap,rfl,h1,fun _=>⟨b,o,cur,(5,0,0),rfl,oK hn (hc _ (iw.2 rfl)),Dr (fun _ _ _ _ h=>h) h4⟩⟩
theorem St.Oj {h0:ax} {g0:GH} {S0:Nat→Prop} {g:GH} {L:List ay} {h:ax} (s:St h0 g0 S0 g L h) {A:ay} (hs:A.Sublist L.flatten):(A.map (·.1)).Nodup:=xK (hs.map _) s.nodup
theorem H6 {g:GH} {d:ay} (hs:∀p∈d,g p.1=none):aM (dy gE d) (dy g d):=by
  intro b o h
  unfold dy at *
  cases hf:d.find? (fun p=>Nat.beq p.1 b) with
  |none=>rw[hf] at h;cases h
  |some p=>rw[hf] at h;exact h
theorem Deep.freeze {h0:ax} {g0:GH} {S0:Nat→Prop} {g:GH} {L:List ay} {h:ax} {α:Type} {T:TypeId} {d:Kd α} {v:Value} {xs:List α} {c u:ay} (hr:aJ T d (dy gE u) v xs c) (s:St h0 g0 S0 g (c::u::L) h):
    ∃g',St h0 g0 S0 g' L h∧aM g g'∧av g' T d v xs:=by
  have s1:=s.qG (L':=u::c::L) (List.Perm.swap _ _ _)
  obtain⟨s2,D⟩:=St.freeze s1
  have G:aJ T d (dy g u) v xs c:=hr.mono (H6 fun p hp=>s1.sep p (by simp[hp]))
  obtain⟨g',s3,I,hs⟩:=aJ.freeze G s2
  exact⟨g',s3,D.trans I,hs⟩
set_option maxRecDepth 100000
theorem Ol (B:World) (h:ax) (g:GH) (hg:bl g h) (G:bq g) (s:an) (p:an):
  aE prog B 285 #[vS s,vS p] h g [] (fun D g' L'=>D=.bool (p.isPrefixOf s)∧g'=g∧L'=[]):=by
 refine aE.aq func285 fun R hR=>?_
 have u:=St.init hg
 refine At.go 1 1 [] ?_
 refine At.rp 14 6 [(10,.bool (decide ((s.length:Int)≥(p.length:Int))))] ?_
 refine Op.wd ((s.length:Int)≥(p.length:Int)) 10 (fun I=>?_) fun J=>?_
 ·refine Op.px 3 [(11,vS s),(13,vI (p.length:Int))] ?_
  refine Op.MH (T:=9) (k:=.i64) (x:=11) (hi:=13) (dst:=14) (l:=s) (n:=(p.length:Int)) (by kernel_rfl) (by kernel_rfl) (by kernel_rfl) (by kernel_rfl) (by omega) (by omega) ?_
  refine Op.px 1 [(15,vS p)] ?_
  refine Op.vl 16 (.bool ((bp (s.take ((p.length:Int):Int).toNat)).toList==(bp p).toList)) (.bool ((s.take ((p.length:Int):Int).toNat)==p)) (by rw[toList_mkS,toList_mkS]) ?_
  exact Op.pr 2 4 (.bool ((s.take ((p.length:Int):Int).toNat)==p)) (hR u ⟨(aS (by exact Nz)),rfl,rfl⟩)
 exact Op.pr 2 4 (.bool false) (hR u ⟨(aS (by exact(NA (by omega)).symm)),rfl,rfl⟩)
theorem Om (B:World) (h:ax) (g:GH) (hg:bl g h) (J:bq g) (s:an) (p:an):
  aE prog B 276 #[vS s,vS p] h g [] (fun O g' L'=>O=.tuple #[.string (bp (if p.isPrefixOf s=true then s.drop p.length else s)),.bool (p.isPrefixOf s)]∧g'=g∧L'=[]):=by
 refine aE.aq func276 fun R hR=>?_
 have D:=St.init hg
 refine At.go 1 2 [] ?_
 refine At.rp 4 2 [(6,vS s),(7,vS p)] ?_
 refine Op.c1 8 (Ol _ _ _ D.sub J s p) D fun U G=>?_
 refine Op.pg 2 [(9,.bool (!(p.isPrefixOf s)))] ?_
 refine At.di (!(p.isPrefixOf s)) 9 3 5 (fun I=>?_) fun u=>?_
 ·replace I:=(dG I)
  refine At.go 4 3 [(4,vS s),(5,.bool false)] ?_
  exact At.rt (.tuple #[vS s,.bool false]) (hR G ⟨b7 (jY (by simp_all)) (aS (by simp_all)),rfl,rfl⟩)
 replace u:=(dH u)
 refine At.rp 6 3 [(11,vS s),(13,vI (p.length:Int))] ?_
 refine Op.MG (T:=9) (k:=.i64) (x:=11) (lo:=13) (dst:=14) (l:=s) (n:=(p.length:Int)) (by kernel_rfl) (by kernel_rfl) (by kernel_rfl) (by kernel_rfl) (by have:=G5 u;omega) (by have:=G5 u;omega) ?_
 refine Op.pg 6 [(4,vS (s.drop ((p.length:Int):Int).toNat)),(5,.bool true)] ?_
 exact At.rt (.tuple #[vS (s.drop ((p.length:Int):Int).toNat),.bool true]) (hR G ⟨b7 (jY (by simp_all)) (aS (by simp_all)),rfl,rfl⟩)
theorem On (B:World) (h:ax) (g:GH) (hg:bl g h) (D:bq g) (s:an) (p:an):
  aE prog B 251 #[vS s,vS p] h g [] (fun G g' L'=>G=.tuple #[.string (bp (if p.isPrefixOf s=true then s.drop p.length else s)),.bool (p.isPrefixOf s)]∧g'=g∧L'=[]):=by
 refine aE.aq func251 fun R hR=>?_
 have u:=St.init hg
 refine At.go 1 2 [] ?_
 refine At.rp 7 2 [(6,vS s),(7,vS p)] ?_
 refine Op.c1 8 (Om _ _ _ u.sub D s p) u fun J I=>?_
 refine Op.pg 2 [(4,vS (if p.isPrefixOf s=true then s.drop p.length else s)),(5,.bool (p.isPrefixOf s))] ?_
 exact At.rt (.tuple #[vS (if p.isPrefixOf s=true then s.drop p.length else s),.bool (p.isPrefixOf s)]) (hR I ⟨b7 (jY (by rfl)) (aS (by rfl)),rfl,rfl⟩)
theorem Oo (B:World) (h:ax) (g:GH) (hg:bl g h) (I:bq g) (s:an) (hlen:s.length≤1000000000):
  aE prog B 255 #[vS s] h g [] (fun J g' L'=>J=.bool (g_ s)∧g'=g∧L'=[]):=by
 refine aE.aq func255 fun R hR=>?_
 have u:=St.init hg
 refine At.go 1 1 [] ?_
 refine At.rp 13 1 [(3,vS s)] ?_
 refine Op.vl 4 (.bool (!((bp s).toList==(bp []).toList))) (.bool (!(s==([]:an)))) (by rw[toList_mkS,toList_mkS]) ?_
 refine Op.px 1 [(5,.bool (!(s==([]:an))))] ?_
 refine Op.wb (!(s==([]:an))) 5 (fun D=>?_) fun G=>?_
 ·replace D:=n4 (dG D)
  refine Op.px 5 [(10,.bool (decide ((s.length:Int)≤16)))] ?_
  refine Op.wd ((s.length:Int)≤16) 10 (fun O=>?_) fun U=>?_
  ·refine Op.px 1 [(11,vS s)] ?_
   refine Op.c1 12 (M8 _ _ _ u.sub I s ([97,98,99,100,101,102,103,104,105,106,107,108,109,110,111,112,113,114,115,116,117,118,119,120,121,122,48,49,50,51,52,53,54,55,56,57,45,95]) (by(try dsimp only)<;>omega) (by((try dsimp only)<;>decide)) (by((try dsimp only)<;>(exact NB (by decide))))) u fun X V=>?_
   refine Op.vl 13 (.bool ((bp (Lib.trimS s ([97,98,99,100,101,102,103,104,105,106,107,108,109,110,111,112,113,114,115,116,117,118,119,120,121,122,48,49,50,51,52,53,54,55,56,57,45,95]))).toList==(bp []).toList)) (.bool ((Lib.trimS s ([97,98,99,100,101,102,103,104,105,106,107,108,109,110,111,112,113,114,115,116,117,118,119,120,121,122,48,49,50,51,52,53,54,55,56,57,45,95]))==([]:an))) (by rw[toList_mkS,toList_mkS]) ?_
   exact Op.pr 2 2 (.bool ((Lib.trimS s ([97,98,99,100,101,102,103,104,105,106,107,108,109,110,111,112,113,114,115,116,117,118,119,120,121,122,48,49,50,51,52,53,54,55,56,57,45,95]))==([]:an))) (hR V ⟨(aS (by exact ND D O)),rfl,rfl⟩)
  exact Op.pr 2 2 (.bool false) (hR u ⟨(aS (by exact NF U)),rfl,rfl⟩)
 replace G:=eq_of_beq (dH G)
 exact Op.pr 2 2 (.bool false) (hR u ⟨(aS (by(subst G;exact NG))),rfl,rfl⟩)
theorem Oq (B:World) (h:ax) (g:GH) (hg:bl g h) (D:bq g) (s:an) (hlen:s.length≤1000000000):
  aE prog B 254 #[vS s] h g [] (fun G g' L'=>G=.bool (!g_ s)∧g'=g∧L'=[]):=by
 refine aE.aq func254 fun R hR=>?_
 have u:=St.init hg
 refine At.go 1 1 [] ?_
 refine At.rp 4 1 [(3,vS s)] ?_
 refine Op.c1 4 (Oo _ _ _ u.sub D s (by(try dsimp only)<;>omega)) u fun J I=>?_
 exact Op.pr 2 2 (.bool (!(g_ s))) (hR I ⟨(aS (by rfl)),rfl,rfl⟩)
theorem Ot (B:World) (h:ax) (g:GH) (hg:bl g h) (ae:bq g) (V:Value) (l:List an) (X:av g 9 eU V l) (f:Nat) (q:an→Bool) (hf:fc prog f) (hq:∀(B:World) (h:ax) (g:GH),bl g h→bq g→∀(x:an),x.length≤1000000000→aE prog B f #[.string (bp x)] h g [] (fun v g' L'=>v=.bool (q x)∧g'=g∧L'=[])) (hall:∀x∈l,x.length≤1000000000) (hlen:l.length≤1000000000):
  aE prog B 278 #[V,.func (.func f) #[] #[]] h g [] (fun am g' L'=>am=.int .i64 (fm q l)∧g'=g∧L'=[]):=by
 obtain⟨Y,J,rfl⟩:=X.aj
 refine aE.aq func278 fun R hR=>?_
 have ar:=St.init hg
 refine At.go 1 1 [] ?_
 refine At.go 2 3 [(7,vI (l.length:Int)),(8,vI 0)] ?_
 have aw:∀(m:Nat) (i:Int) (O:ax) (hm:l.length-i.toNat<m) (h0:0≤i) (h1:i≤l.length) (G:findAt q l i) (u:St h g (aV []) g [] O),At (bX prog B 278 f278 R) [] 2 [(0,vL Y l.length J),(1,.func (.func f) #[] #[]),(7,vI (l.length:Int)),(8,vI i)] O:=by
  intro m;induction m with
  |zero=>intros;omega
  |succ m a0=>
   intro i O hm h0 h1 G u
   refine At.go 3 1 [(9,.bool (decide (i<(l.length:Int))))] ?_
   refine At.fd (i<(l.length:Int)) 9 4 10 (fun bc=>?_) fun a1=>?_
   ·refine At.go 5 2 [(5,vI i)] ?_
    refine At.rp 6 3 [(11,.func (.func f) #[] #[]),(12,vL Y l.length J),(13,vI i)] ?_
    obtain⟨D,I⟩:=cG l i
    obtain⟨a3,ab,bd,be,a4,a5,U⟩:=av.bF X _ I
    cases a4
    refine Op.iq 40 9 1 16 l.length J 12 13 14 a3 ab i ?_
    replace U:cut _ _ _=[vS D]:=U
    refine Op.l1 9 14 15 (ab+i.toNat*1) (vS D) (u.sub _ _ a5) ?_ (hv:=c_ U 0 rfl)
    refine Op.cv (some 16) 11 #[15] #[9] f #[] #[] [] [] #[vS D] hf (by kernel_rfl) u (hq _ _ _ u.sub ae D (by((try dsimp only)<;>(exact hall _ (cj I))))) (fun _ _ h=>absurd h (dB _)) ?_
    rintro _ a6 _ bi a7 ad ⟨rfl,bj,rfl⟩;subst a6;clear a7
    refine Op.gt 6 ?_
    refine At.di (q D) 16 7 9 (fun a8=>?_) fun a9=>?_
    ·exact At.gr 8 2 4 (vI i) (hR ad ⟨(bB (by exact wB G I a8)),rfl,rfl⟩)
    refine At.rg 2 ?_
    refine Op.vq 18 (i+1) ?_
    exact Op.pg 2 [(8,vI (i+1))] (At.ke (a0 (i+1) _ (by omega) (by omega) (by omega) (by exact xP G h0 I a9) ad))
   exact At.gr 11 1 4 (vI (-1)) (hR u ⟨(bB (by exact wC G a1)),rfl,rfl⟩)
 exact At.ke (aw _ 0 _ (bM _) (by omega) (by omega) (by exact xO _ _) ar)
theorem Ou (B:World) (h:ax) (g:GH) (hg:bl g h) (u:bq g) (D:Value) (l:List an) (G:av g 9 eU D l) (f:Nat) (q:an→Bool) (hf:fc prog f) (hq:∀(B:World) (h:ax) (g:GH),bl g h→bq g→∀(x:an),x.length≤1000000000→aE prog B f #[.string (bp x)] h g [] (fun v g' L'=>v=.bool (q x)∧g'=g∧L'=[])) (hall:∀x∈l,x.length≤1000000000) (hlen:l.length≤1000000000):
  aE prog B 253 #[D,.func (.func f) #[] #[]] h g [] (fun J g' L'=>J=.bool (l.any q)∧g'=g∧L'=[]):=by
 obtain⟨O,U,rfl⟩:=G.aj
 refine aE.aq func253 fun R hR=>?_
 have I:=St.init hg
 refine At.go 1 1 [] ?_
 refine At.rp 5 2 [(5,vL O l.length U),(6,.func (.func f) #[] #[])] ?_
 refine Op.c1 7 (Ot _ _ _ I.sub u _ _ G f (fun x=>q x) hf (fun B h g hg u x=>hq B h g hg u x) (by(try dsimp only)<;>assumption) (by(try dsimp only)<;>assumption)) I fun X V=>?_
 exact Op.pr 2 4 (.bool (decide ((fm (fun x=>q x) l)≥0))) (hR V ⟨(aS (by exact xN _ _)),rfl,rfl⟩)
theorem H7 (B:World) (h:ax) (g:GH) (hg:bl g h) (D:bq g) (p:an) (hlen:p.length≤1000000000):
  aE prog B 230 #[vS p] h g [] (fun aw g' L'=>∃v0,aw=.tuple #[v0,.int .i64 (cX p)]∧av g' 9 eU v0 (cx p)∧L'=[]):=by
 refine aE.aq func230 fun R hR=>?_
 have ab:=St.init hg
 refine At.go 1 2 [] ?_
 refine At.rp 7 1 [(8,vS p)] ?_
 refine Op.c1 9 (On _ _ _ ab.sub D p ([47])) ab fun a1 J=>?_
 refine Op.pg 2 [(4,vS (if ([47]).isPrefixOf p=true then p.drop ([47]).length else p)),(5,.bool (([47]).isPrefixOf p))] ?_
 refine At.rp 7 3 [(14,.bool (!(([47]).isPrefixOf p)))] ?_
 refine Op.wb (!(([47]).isPrefixOf p)) 14 (fun V=>?_) fun u=>?_
 ·replace V:=(dG V)
  refine Op.pg 3 [(18,.bool true)] ?_
  refine At.bW 18 4 ?_
  refine At.go 5 2 [(2,vN),(3,vI 90)] ?_
  exact At.rt (.tuple #[vN,vI 90]) (hR J ⟨vN,b7 rfl (bB (by exact(xQ (G8 V)).2)),b9 (av.empty _ _ _ _ _) (by exact(xQ (G8 V)).1),rfl⟩)
 replace u:=(dH u)
 refine Op.pg 3 [(18,.bool (decide ((p.length:Int)>64)))] ?_
 refine At.fd ((p.length:Int)>64) 18 4 6 (fun a3=>?_) fun G=>?_
 ·refine At.go 5 2 [(2,vN),(3,vI 90)] ?_
  exact At.rt (.tuple #[vN,vI 90]) (hR J ⟨vN,b7 rfl (bB (by exact(xQ (DP (by omega))).2)),b9 (av.empty _ _ _ _ _) (by exact(xQ (DP (by omega))).1),rfl⟩)
 refine At.rp 2 1 [(19,vS (if ([47]).isPrefixOf p=true then p.drop ([47]).length else p))] ?_
 refine Op.vl 20 (.bool ((bp (if ([47]).isPrefixOf p=true then p.drop ([47]).length else p)).toList==(bp []).toList)) (.bool ((if ([47]).isPrefixOf p=true then p.drop ([47]).length else p)==([]:an))) (by rw[toList_mkS,toList_mkS]) ?_
 refine Op.gt 7 ?_
 refine At.di ((if ([47]).isPrefixOf p=true then p.drop ([47]).length else p)==([]:an)) 20 8 10 (fun X=>?_) fun I=>?_
 ·replace X:=eq_of_beq X
  refine At.go 9 2 [(2,vN),(3,vI 0)] ?_
  exact At.rt (.tuple #[vN,vI 0]) (hR J ⟨vN,b7 rfl (bB (by exact(Hj u G X).2)),b9 (av.empty _ _ _ _ _) (by exact(Hj u G X).1),rfl⟩)
 replace I:=n4 I
 refine At.rp 3 1 [(21,vS (if ([47]).isPrefixOf p=true then p.drop ([47]).length else p))] ?_
 refine Op.c0 (some 22) (M6 _ _ _ J.sub D (if ([47]).isPrefixOf p=true then p.drop ([47]).length else p) 47 (by((try dsimp only)<;>(have:=DT p;unfold og at this;omega)))) J ?_
 rintro _ a4 _ a5 a0 ad ⟨a6,rfl,Y,rfl⟩
 obtain⟨O,U,rfl⟩:=Y.aj
 replace D:=D.mono a0
 refine Op.pg 11 [(6,vL O ((splitOn 47 (if ([47]).isPrefixOf p=true then p.drop ([47]).length else p)).length) U)] ?_
 refine At.rp 2 1 [(23,vL O ((splitOn 47 (if ([47]).isPrefixOf p=true then p.drop ([47]).length else p)).length) U)] ?_
 refine Op.c1 24 (Ou _ _ _ ad.sub D _ _ Y 254 (fun s=>!g_ s) (fc.of (by kernel_rfl)) (fun B h g hg D s=>Oq B h g hg D s) (by((try dsimp only)<;>(exact fun x hx=>bQ (Hh 47 _ x hx) (bQ (DT p) hlen)))) (by((try dsimp only)<;>((have h1:=G_ 47 (og p);have h2:=DT p;unfold og at h1 h2;unfold cX at *;omega))))) ad fun a7 ae=>?_
 refine Op.gt 12 ?_
 refine At.di ((splitOn 47 (if ([47]).isPrefixOf p=true then p.drop ([47]).length else p)).any (fun s=>!g_ s)) 24 13 15 (fun am=>?_) fun ar=>?_
 ·refine At.go 14 2 [(2,vN),(3,vI 90)] ?_
  exact At.rt (.tuple #[vN,vI 90]) (hR ae ⟨vN,b7 rfl (bB (by exact(xQ (Hl u G I am)).2)),b9 (av.empty _ _ _ _ _) (by exact(xQ (Hl u G I am)).1),rfl⟩)
 refine At.go 16 3 [(2,vL O ((splitOn 47 (if ([47]).isPrefixOf p=true then p.drop ([47]).length else p)).length) U),(3,vI 0)] ?_
 exact At.rt (.tuple #[vL O ((splitOn 47 (if ([47]).isPrefixOf p=true then p.drop ([47]).length else p)).length) U,vI 0]) (hR ae ⟨(vL O ((splitOn 47 (if ([47]).isPrefixOf p=true then p.drop ([47]).length else p)).length) U),b7 rfl (bB (by exact(Ho u G I ar).2)),b9 Y (by exact(Ho u G I ar).1),rfl⟩)
theorem BW (B:World) (h:ax) (g:GH) (hg:bl g h) (D:bq g) (p:an) (hlen:p.length≤1000000000):
  aE prog B 194 #[vS p] h g [] (fun G g' L'=>G=.int .i64 (cX p)∧g'=g∧L'=[]):=by
 refine aE.aq func194 fun R hR=>?_
 have u:=St.init hg
 refine At.go 1 1 [] ?_
 refine At.rp 7 1 [(6,vS p)] ?_
 refine Op.c0 (some 7) (H7 _ _ _ u.sub D p (by(try dsimp only)<;>omega)) u ?_
 rintro _ O _ U V I ⟨X,rfl,J,rfl⟩
 obtain⟨Y,ab,rfl⟩:=J.aj
 refine Op.pg 2 [(4,vI (cX p))] ?_
 exact At.gr 3 2 2 (vI (cX p)) (hR I.jZ ⟨(bB (by rfl)),rfl,rfl⟩)
theorem H8 (B:World) (h:ax) (g:GH) (hg:bl g h) (ar:bq g) (p:an) (hlen:p.length≤1000000000):
  aE prog B 204 #[vS p] h g [] (fun aw g' L'=>∃v0,aw=.tuple #[v0,.string (bp (nQ (cx p))),.int .i64 (cz p)]∧av g' 9 eU v0 ((cx p).dropLast)∧L'=[]):=by
 refine aE.aq func204 fun R hR=>?_
 have Y:=St.init hg
 refine At.go 1 3 [] ?_
 refine At.rp 7 1 [(8,vS p)] ?_
 refine Op.c0 (some 9) (H7 _ _ _ Y.sub ar p (by((try dsimp only)<;>((have:=oN p;omega))))) Y ?_
 rintro _ a5 _ a6 a7 G ⟨a8,rfl,O,rfl⟩
 obtain⟨I,u,rfl⟩:=O.aj
 refine Op.pg 2 [(5,vL I ((cx p).length) u),(6,vI (cX p))] ?_
 refine At.rp 7 3 [(14,.bool ((cX p) != 0))] ?_
 refine Op.wb ((cX p) != 0) 14 (fun D=>?_) fun ab=>?_
 ·replace D:=gY D
  refine Op.pg 3 [(18,.bool true)] ?_
  refine At.bW 18 4 ?_
  refine At.go 5 3 [(2,vN),(3,vS []),(4,vI 90)] ?_
  exact At.rt (.tuple #[vN,vS [],vI 90]) (hR G ⟨vN,lJ rfl (jY (by exact(xR (DS D)).2.1)) (bB (by exact(xR (DS D)).2.2)),b9 (av.empty _ _ _ _ _) (by exact(xR (DS D)).1),rfl⟩)
 replace ab:=jk ab
 refine Op.pg 3 [(18,.bool (((cx p).length:Int)==0))] ?_
 refine At.fd (((cx p).length:Int)=0) 18 4 6 (fun a9=>?_) fun a0=>?_
 ·refine At.go 5 3 [(2,vN),(3,vS []),(4,vI 90)] ?_
  exact At.rt (.tuple #[vN,vS [],vI 90]) (hR G ⟨vN,lJ rfl (jY (by exact(xR (ju (by omega))).2.1)) (bB (by exact(xR (ju (by omega))).2.2)),b9 (av.empty _ _ _ _ _) (by exact(xR (ju (by omega))).1),rfl⟩)
 refine At.dw (fun _=>False) [(0,true),(1,true),(2,true),(3,true),(4,true),(5,true),(6,true),(7,true),(8,true),(9,true),(11,true),(10,false),(12,true),(13,true)] ?_
 refine Op.px 3 [(19,vL I ((cx p).length) u),(21,vI ((cx p).length:Int))] ?_
 refine Op.cE 22 (((cx p).length:Int)-1) (by(have:=oN p;omega)) (by(have:=oN p;omega)) ?_
 refine Op.yS (T:=40) (E:=9) (dx:=16) (x:=19) (ao:=I) (n:=((cx p).length)) (c:=u) (dst:=23) (d:=eU) (hi:=22) (k:=.i64) (m:=((cx p).length:Int)-1) (by kernel_rfl) (by kernel_rfl) (by kernel_rfl) (by kernel_rfl) O (by(have:=oN p;omega)) (by(have:=oN p;omega)) fun bc ad=>?_
 obtain⟨U,V,rfl⟩:=ad.aj
 refine Op.px 3 [(24,vL I ((cx p).length) u),(26,vI ((cx p).length:Int))] ?_
 refine Op.cE 27 (((cx p).length:Int)-1) (by(have:=oN p;omega)) (by(have:=oN p;omega)) ?_
 obtain⟨J,ae⟩:=lK (l:=cx p) (i:=((cx p).length:Int)-1) (by(have:=oN p;omega))
 obtain⟨a1,am,bd,be,a3,a4,X⟩:=av.bF O _ ae
 cases a3
 refine Op.ix 40 9 1 16 ((cx p).length) u 24 27 28 a1 am (((cx p).length:Int)-1) (by(have:=oN p;omega)) (by(have:=oN p;omega)) ?_
 replace X:cut _ _ _=[vS J]:=X
 refine Op.px 1 [(2,vL U (((cx p).take (((cx p).length:Int)-1:Int).toNat).length) V)] ?_
 refine Op.l1 9 28 29 (am+(((cx p).length:Int)-1:Int).toNat*1) (vS J) (G.sub _ _ a4) ?_ (hv:=c_ X 0 rfl)
 refine Op.pg 7 [(3,vS J),(4,vI 0)] ?_
 exact At.rt (.tuple #[vL U (((cx p).take (((cx p).length:Int)-1:Int).toNat).length) V,vS J,vI 0]) (hR G ⟨(vL U (((cx p).take (((cx p).length:Int)-1:Int).toNat).length) V),lJ rfl (jY (by exact NH ae (by have:=oN p;omega))) (bB (by exact(Hg (by omega)).symm)),b9 ad (by exact NI rfl a0),rfl⟩)
theorem Ov (B:World) (h:ax) (g:GH) (hg:bl g h) (I:bq g) (u:Value) (l:List an) (D:av g 9 eU u l) (X:l.length≤1000000000) (hL:(fQ 47 l).length≤1000000000):
  aE prog B 205 #[u] h g [] (fun J g' L'=>J=.string (bp (joined l))∧g'=g∧L'=[]):=by
 obtain⟨O,U,rfl⟩:=D.aj
 refine aE.aq func205 fun R hR=>?_
 have G:=St.init hg
 refine At.go 1 1 [] ?_
 refine At.rp 4 1 [(3,vL O l.length U)] ?_
 refine Op.c1 4 (M_ _ _ _ G.sub I _ _ D ([47]) (by(try dsimp only)<;>omega) (by((try dsimp only)<;>((rw[DR];omega))))) G fun Y V=>?_
 refine Op.sa 9 9 (.const (vS ([47]))) 4 5 ([47]) (Lib.join l ([47])) (by rw[DR];simp;omega) ?_
 exact Op.pr 2 2 (vS (([47])++(Lib.join l ([47])))) (hR V ⟨(jY (by rw[DR];rfl)),rfl,rfl⟩)
theorem Ag (B:World) (h:ax) (g:GH) (hg:bl g h) (u:bq g) (p:an) (hlen:p.length≤1000000000):
  aE prog B 167 #[vS p] h g [] (fun V g' L'=>V=.tuple #[.string (bp (parentOf p)),.int .i64 (cz p)]∧g'=g∧L'=[]):=by
 refine aE.aq func167 fun R hR=>?_
 have G:=St.init hg
 refine At.go 1 2 [] ?_
 refine At.rp 9 1 [(8,vS p)] ?_
 refine Op.c0 (some 9) (H8 _ _ _ G.sub u p (by(try dsimp only)<;>omega)) G ?_
 rintro _ ad _ ae X D ⟨am,rfl,I,rfl⟩
 obtain⟨J,O,rfl⟩:=I.aj
 replace u:=u.mono X
 refine Op.pg 2 [(4,vL J (((cx p).dropLast).length) O),(6,vI (cz p))] ?_
 refine At.go 3 2 [(14,.bool ((cz p) != 0))] ?_
 refine At.fn ((cz p)=0) 14 4 6 (fun Y=>?_) fun U=>?_
 ·refine At.go 5 3 [(2,vS []),(3,vI (cz p))] ?_
  exact At.rt (.tuple #[vS [],vI (cz p)]) (hR D.jZ ⟨b7 (jY (by exact NM Y)) (bB (by rfl)),rfl,rfl⟩)
 refine At.rp 4 1 [(16,vL J (((cx p).dropLast).length) O)] ?_
 refine Op.c1 17 (Ov _ _ _ D.sub u _ _ I (by((try dsimp only)<;>(exact bQ (NL p) (by omega)))) (by(try dsimp only)<;>exact bQ (NK p) hlen)) D fun ar ab=>?_
 refine Op.pg 7 [(2,vS (joined ((cx p).dropLast))),(3,vI 0)] ?_
 exact At.rt (.tuple #[vS (joined ((cx p).dropLast)),vI 0]) (hR ab.jZ ⟨b7 (jY (by exact NN U)) (bB (by exact U.symm)),rfl,rfl⟩)
theorem Ow (B:World) (h:ax) (g:GH) (hg:bl g h) (I:bq g) (p:an) (hlen:p.length≤1000000000):
  aE prog B 239 #[vS p] h g [] (fun J g' L'=>J=.tuple #[.string (bp (ny p)),.int .i64 (cX p)]∧g'=g∧L'=[]):=by
 refine aE.aq func239 fun R hR=>?_
 have u:=St.init hg
 refine At.go 1 2 [] ?_
 refine At.rp 3 1 [(5,vS p)] ?_
 refine Op.c1 6 (BW _ _ _ u.sub I p (by(try dsimp only)<;>omega)) u fun U D=>?_
 refine Op.pg 2 [(4,vI (cX p))] ?_
 refine At.go 3 2 [(8,.bool ((cX p) != 0))] ?_
 refine At.fn ((cX p)=0) 8 4 6 (fun O=>?_) fun G=>?_
 ·refine At.go 5 3 [(2,vS []),(3,vI (cX p))] ?_
  exact At.rt (.tuple #[vS [],vI (cX p)]) (hR D ⟨b7 (jY (by exact NO O)) (bB (by rfl)),rfl,rfl⟩)
 refine At.go 7 3 [(2,vS p),(3,vI 0)] ?_
 exact At.rt (.tuple #[vS p,vI 0]) (hR D ⟨b7 (jY (by exact(Hr G).1)) (bB (by exact(Hr G).2)),rfl,rfl⟩)
theorem Ox (B:World) (h:ax) (g:GH) (hg:bl g h) (u:bq g) (p:an) (n:Int) (hP:lZ g) (hlen:p.length≤100000000) (hn0: -9223372036854775808≤n) (ad:n≤9223372036854775807):
  aE prog B 210 #[vS p,vI n] h g [] (fun X g' L'=>X=.tuple #[.string (bp (fy p n)),.int .i64 (lN p n)]∧g'=g∧L'=[]):=by
 refine aE.aq func210 fun R hR=>?_
 have G:=St.init hg
 refine At.go 1 2 [] ?_
 refine At.rp 9 1 [(11,vS p)] ?_
 refine Op.c0 (some 12) (H8 _ _ _ G.sub u p (by(try dsimp only)<;>omega)) G ?_
 rintro _ ae _ am I D ⟨ar,rfl,Y,rfl⟩
 obtain⟨aw,a0,rfl⟩:=Y.aj
 replace u:=u.mono I
 replace hP:=hP.mono I
 refine Op.pg 2 [(8,vI (cz p))] ?_
 refine At.rp 10 3 [(18,.bool ((cz p) != 0))] ?_
 refine Op.wb ((cz p) != 0) 18 (fun J=>?_) fun O=>?_
 ·replace J:=gY J
  refine Op.pg 3 [(25,.bool true)] ?_
  refine At.bW 25 4 ?_
  refine At.go 5 2 [(4,vS []),(5,vI 90)] ?_
  exact At.rt (.tuple #[vS [],vI 90]) (hR D.jZ ⟨b7 (jY (by exact(wD (Hs ‹_›)).1)) (bB (by exact(wD (Hs ‹_›)).2)),rfl,rfl⟩)
 replace O:=jk O
 refine Op.px 4 [(22,.bool (decide (n<0)))] ?_
 refine Op.wd (n<0) 22 (fun a1=>?_) fun a3=>?_
 ·refine Op.pg 3 [(25,.bool true)] ?_
  refine At.bW 25 4 ?_
  refine At.go 5 2 [(4,vS []),(5,vI 90)] ?_
  exact At.rt (.tuple #[vS [],vI 90]) (hR D.jZ ⟨b7 (jY (by exact(wD (Ht ‹_›)).1)) (bB (by exact(wD (Ht ‹_›)).2)),rfl,rfl⟩)
 refine Op.pg 3 [(25,.bool (decide (n>99999)))] ?_
 refine At.fd (n>99999) 25 4 6 (fun a4=>?_) fun a5=>?_
 ·refine At.go 5 2 [(4,vS []),(5,vI 90)] ?_
  exact At.rt (.tuple #[vS [],vI 90]) (hR D.jZ ⟨b7 (jY (by exact(wD (Hu ‹_›)).1)) (bB (by exact(wD (Hu ‹_›)).2)),rfl,rfl⟩)
 refine At.rp 3 1 [(26,vI n)] ?_
 refine Op.c1 27 (M4 _ _ _ D.sub u n hP (by(try dsimp only)<;>omega) (by(try dsimp only)<;>omega)) D fun a6 U=>?_
 refine Op.pg 7 [(9,vS (Lib.itoa n))] ?_
 refine At.rp 13 3 [(28,vS p),(30,vI ((Lib.itoa n).length:Int))] ?_
 refine Op.cE 31 ((5:Int)-((Lib.itoa n).length:Int)) (by(have hi:=xS (n:=n) (by omega) (by omega);omega)) (by omega) ?_
 refine Op.c1 32 (M9 _ _ _ U.sub u ([48]) ((5:Int)-((Lib.itoa n).length:Int)) (by((try dsimp only)<;>((have hi:=xS (n:=n) (by omega) (by omega);omega)))) (by(try dsimp only)<;>omega) (by((try dsimp only)<;>((have hi:=xS (n:=n) (by omega) (by omega);simp only[cA,Lib.repeatL_length,o9,oJ,BC];omega))))) U fun a7 V=>?_
 refine Op.sa 9 9 28 32 33 p (Lib.repeatL ([48]) (((5:Int)-((Lib.itoa n).length:Int):Int).toNat)) (by(have hi:=xS (n:=n) (by omega) (by omega);simp only[cA,Lib.repeatL_length,o9,oJ,BC];omega)) ?_
 refine Op.px 1 [(34,vS (Lib.itoa n))] ?_
 refine Op.sa 9 9 33 34 35 (p++(Lib.repeatL ([48]) (((5:Int)-((Lib.itoa n).length:Int):Int).toNat))) (Lib.itoa n) (by(have hi:=xS (n:=n) (by omega) (by omega);simp only[cA,Lib.repeatL_length,o9,oJ,BC];omega)) ?_
 refine Op.c1 36 (Ow _ _ _ V.sub u ((p++(Lib.repeatL ([48]) (((5:Int)-((Lib.itoa n).length:Int):Int).toNat)))++(Lib.itoa n)) (by((try dsimp only)<;>((have hi:=xS (n:=n) (by omega) (by omega);simp only[cA,Lib.repeatL_length,o9,oJ,BC];omega))))) V fun a8 ab=>?_
 refine Op.pg 8 [(4,vS (ny ((p++(Lib.repeatL ([48]) (((5:Int)-((Lib.itoa n).length:Int):Int).toNat)))++(Lib.itoa n)))),(5,vI (cX ((p++(Lib.repeatL ([48]) (((5:Int)-((Lib.itoa n).length:Int):Int).toNat)))++(Lib.itoa n))))] ?_
 exact At.rt (.tuple #[vS (ny ((p++(Lib.repeatL ([48]) (((5:Int)-((Lib.itoa n).length:Int):Int).toNat)))++(Lib.itoa n))),vI (cX ((p++(Lib.repeatL ([48]) (((5:Int)-((Lib.itoa n).length:Int):Int).toNat)))++(Lib.itoa n)))]) (hR ab.jZ ⟨b7 (jY (by exact(Hw (Hv ‹_› ‹_› ‹_›) (by omega)).1)) (bB (by exact(Hw (Hv ‹_› ‹_› ‹_›) (by omega)).2)),rfl,rfl⟩)
theorem Oy (g0:GH) (be D:Nat) (x:List ag) (G:g0 be=some (.cells #[.map (some D)] 195 (0,0))) (a0:kZ g0 D x):kI prog g0 218 #[vP be] tc (fun b6=>b6.Perm (x.map (·.af))):=by
 intro B h g l I go c bi hg a1 a3 b8 ca hs
 replace G:=bi _ _ G
 replace a0:=a0.mono bi
 refine aE.aq func218 fun R hR=>?_
 refine At.rg 2 ?_
 refine Op.l1 195 1 4 0 (.map (some D)) (hs.sub _ _ G) ?_
 obtain⟨cb,ce,bj,J,a4,c8,a5,c9,da⟩:=kZ.me a0
 refine Op.wz (d:=.string) (z:=.pointer none) (mt:=195) (x:=4) (dst:=5) (m:=D) (by kernel_rfl) (by kernel_rfl) (by kernel_rfl) (hs.sub _ _ J) a4 hs fun O cf db ch ci=>?_
 refine Op.gt 1 ?_
 have ck:∀(m:Nat) (ad:GH) (U:aM g ad) (vs:List (aQ×Value)) (rs:List (aQ×Value)) (c1:ay) (o1:Obj) (a6:ax) (hm:rs.length<m) (ae:go (vs.map (·.1))=true) (am:td go (vs.map (·.1))) (X:(vs++rs).Perm bj) (a7:I (vs.map (·.1)) ad c1) (bk:mF encS cb ce D vs rs o1) (ar:St h g (aV [c]) ad [[(O,o1)],c1] a6),At (bX prog B 218 f218 R) [] 1 [(0,.func (.yield l) #[] #[]),(5,vP O)] a6:=by
  intro m;induction m with
  |zero=>intros;omega
  |succ m co=>
   intro ad U vs rs c1 o1 a6 hm ae am X a7 bk ar
   replace a1:=a1.mono U
   replace a3:=a3.mono U
   replace G:=U _ _ G
   replace J:=U _ _ J
   refine At.rg 2 ?_
   refine Op.zO (x:=5) (dst:=6) (it:=O) (m:=D) (by kernel_rfl) (by kernel_rfl) (ar.sub _ _ J) a4 bk ar 0 rfl (fun _=>trivial) ⟨fun V=>?_,fun Y u aw ab a8 dc V bm a9=>?_⟩
   ·refine Op.pg 2 [(7,.bool false)] ?_
    refine At.dK 7 7 ?_
    refine At.rt (.tuple #[]) ?_
    have c3:=ar.drop
    refine hR c3 ⟨(vs.map (·.1)),vs.map (·.1),c1,rfl,by exact Ae X V a5,by exact uG _,by exact fun _=>rfl,by exact am,rfl,a7⟩
   refine Op.pg 2 [(7,.bool true)] ?_
   refine At.bW 7 3 ?_
   refine At.rg 3 ?_
   refine Op.zP (x:=5) (dst:=8) (it:=O) (m:=D) (vs:=vs) (k:=u) (v:=aw) (by kernel_rfl) (by kernel_rfl) (a9.sub _ _ J) a4 bm (a9.ah 0 rfl) ?_
   refine Op.pg 4 [(3,vS u)] ?_
   refine At.rp 4 2 [(10,.func (.yield l) #[] #[]),(11,vS u)] ?_
   have bo:=(a9.aa 0 rfl).aa 1 rfl
   refine Op.yield (dst:=some 12) (x:=10) (ops:=#[11]) (ts:=#[9]) (l:=l) (args:=#[vS u]) (Lc:=[c1]) (L:=[[(O,a8)]]) (by kernel_rfl) (by kernel_rfl) (by kernel_rfl) bo (a3 _ _ (vs.map (·.1)) u _ _ (by repeat (first|assumption|exact aM.refl _|apply aM.trans)) a1 (by exact ae) (by rfl) ⟨((vs++[(u,aw)])++(Y++ab)).map (·.1),by exact qP X V a5,by exact⟨(Y++ab).map (·.1),by simp⟩⟩ a7 (St.part (Lc:=[c1]) (L:=[[(O,a8)]]) bo)) (fun _ _ _=>trivial) ?_
   rintro _ dd _ df bt b3 ⟨b4,rfl,rfl,b5⟩
   replace G:=bt _ _ G
   replace J:=bt _ _ J
   refine Op.pg 5 [(13,.bool (!(go (vs.map (·.1)++[u]))))] ?_
   refine At.di (!(go (vs.map (·.1)++[u]))) 13 6 1 (fun bc=>?_) fun bd=>?_
   ·replace bc:=(dG bc)
    refine At.rt (.tuple #[]) ?_
    have c4:=(b3.aa 0 rfl).aa 1 rfl
    have c5:=c4.drop
    refine hR c5 ⟨((vs++[(u,aw)])++(Y++ab)).map (·.1),vs.map (·.1)++[u],b4,rfl,by exact qP X V a5,by exact⟨(Y++ab).map (·.1),by simp⟩,by exact fun h=>absurd h (kH.1 bc),by exact oQ am ae,rfl,b5⟩
   replace bd:=(dH bd)
   have c6:=(b3.aa 0 rfl).aa 1 rfl
   exact At.ke (co _ (aM.trans U (by repeat (first|assumption|apply aM.trans))) (vs++[(u,aw)]) (Y++ab) b4 a8 _ (by have hz:=congrArg List.length V;simp only[cA,bY] at hz ⊢;omega) (by simpa using bd) (by simpa using oQ (x:=u) am ae) (by exact uM X V) (by simpa using b5) bm c6)
 exact At.ke (ck _ _ (aM.refl _) [] bj c cf _ (bM _) (by exact b8) (by exact xZ go) (by exact gO _) (by exact ca) ch ci)
theorem Oz (g0:GH) (b3 am:Nat) (t:List ag) (O:g0 b3=some (.cells #[vP am] 129 (0,0))) (a3:kj g0 am t) (be:Nat) (p:aQ) (U:g0 be=some (.cells #[.string (bp p)] 9 (0,0))):kI prog g0 207 #[vP b3,vP be] tc (fun co=>co.Perm (gK t p)):=by
 intro B h g l I go c bi hg a4 bj c3 c4 hs
 replace O:=bi _ _ O
 replace a3:=a3.mono bi
 replace U:=bi _ _ U
 refine aE.aq func207 fun R hR=>?_
 refine At.rg 5 ?_
 refine Op.l1 129 1 7 0 (vP am) (hs.sub _ _ O) ?_
 refine Op.px 2 [(9,vP am)] ?_
 obtain⟨X,Y,b4⟩:=a3
 have a3:kj g am t:=⟨X,Y,b4⟩
 refine Op.l1 195 9 10 0 (.map (some X)) (hs.sub _ _ Y) ?_
 obtain⟨c5,c6,b5,V,bk,dk,bm,c8,dl⟩:=kZ.me b4
 refine Op.wz (d:=.string) (z:=.pointer none) (mt:=195) (x:=10) (dst:=11) (m:=X) (by kernel_rfl) (by kernel_rfl) (by kernel_rfl) (hs.sub _ _ V) bk hs fun ab c9 dp da db=>?_
 refine Op.gt 1 ?_
 have dc:∀(m:Nat) (a5:GH) (G:aM g a5) (vs:List (aQ×Value)) (rs:List (aQ×Value)) (c1:ay) (o1:Obj) (bo:ax) (hm:rs.length<m) (a6:go ((vs.map (·.1)).filter (jN p))=true) (ad:td go ((vs.map (·.1)).filter (jN p))) (J:(vs++rs).Perm b5) (ar:I ((vs.map (·.1)).filter (jN p)) a5 c1) (b6:mF encS c5 c6 X vs rs o1) (a7:St h g (aV [c]) a5 [[(ab,o1)],c1] bo),At (bX prog B 207 f207 R) [] 1 [(0,.func (.yield l) #[] #[]),(2,vP be),(11,vP ab)] bo:=by
  intro m;induction m with
  |zero=>intros;omega
  |succ m bt=>
   intro a5 G vs rs c1 o1 bo hm a6 ad J ar b6 a7
   replace a4:=a4.mono G
   replace bj:=bj.mono G
   replace O:=G _ _ O
   replace U:=G _ _ U
   replace Y:=G _ _ Y
   replace V:=G _ _ V
   refine At.rg 2 ?_
   refine Op.zO (x:=11) (dst:=12) (it:=ab) (m:=X) (by kernel_rfl) (by kernel_rfl) (a7.sub _ _ V) bk b6 a7 0 rfl (fun _=>trivial) ⟨fun D=>?_,fun aw u ae a0 a1 dq D a8 a9=>?_⟩
   ·refine Op.pg 2 [(13,.bool false)] ?_
    refine At.dK 13 8 ?_
    refine At.rt (.tuple #[]) ?_
    have dd:=a7.drop
    refine hR dd ⟨((vs.map (·.1)).filter (jN p)),(vs.map (·.1)).filter (jN p),c1,rfl,by exact Ef (Ae J D bm),by exact uG _,by exact fun _=>rfl,by exact ad,rfl,ar⟩
   refine Op.pg 2 [(13,.bool true)] ?_
   refine At.bW 13 3 ?_
   refine At.rg 3 ?_
   refine Op.zP (x:=11) (dst:=14) (it:=ab) (m:=X) (vs:=vs) (k:=u) (v:=ae) (by kernel_rfl) (by kernel_rfl) (a9.sub _ _ V) bk a8 (a9.ah 0 rfl) ?_
   refine Op.pg 4 [(4,vS u)] ?_
   refine At.rp 7 1 [(17,vS u)] ?_
   refine Op.c1 18 (Ag _ _ _ a9.sub a4 u (by((try dsimp only)<;>((have:=Oe c8 J D;omega))))) a9 fun du bc=>?_
   refine Op.pg 5 [(5,vS (parentOf u)),(6,vI (cz u))] ?_
   refine At.rp 13 3 [(23,.bool ((cz u)==0))] ?_
   refine Op.wd ((cz u)=0) 23 (fun dv=>?_) fun dC=>?_
   ·refine Op.px 1 [(24,vS (parentOf u))] ?_
    refine Op.l1 9 2 25 0 (vS p) (bc.sub _ _ U) ?_
    refine Op.vl 26 (.bool ((bp (parentOf u)).toList==(bp p).toList)) (.bool ((parentOf u)==p)) (by rw[toList_mkS,toList_mkS]) ?_
    refine Op.px 2 [(28,.bool ((parentOf u)==p))] ?_
    refine Op.wb ((parentOf u)==p) 28 (fun b8=>?_) fun ca=>?_
    ·replace b8:=eq_of_beq b8
     refine Op.px 2 [(29,.func (.yield l) #[] #[]),(30,vS u)] ?_
     have cb:=(bc.aa 0 rfl).aa 1 rfl
     refine Op.yield (dst:=some 31) (x:=29) (ops:=#[30]) (ts:=#[9]) (l:=l) (args:=#[vS u]) (Lc:=[c1]) (L:=[[(ab,a1)]]) (by kernel_rfl) (by kernel_rfl) (by kernel_rfl) cb (bj _ _ ((vs.map (·.1)).filter (jN p)) u _ _ (by repeat (first|assumption|exact aM.refl _|apply aM.trans)) a4 (by exact a6) (by rfl) ⟨(((vs++[(u,ae)])++(aw++a0)).map (·.1)).filter (jN p),by exact Ef (qP J D bm),by exact HX ‹_› ‹_›⟩ ar (St.part (Lc:=[c1]) (L:=[[(ab,a1)]]) cb)) (fun _ _ _=>trivial) ?_
     rintro _ dE _ dT bd ce ⟨cf,rfl,rfl,ch⟩
     replace O:=bd _ _ O
     replace U:=bd _ _ U
     replace Y:=bd _ _ Y
     replace V:=bd _ _ V
     refine Op.pg 6 [(33,.bool (!(go ((vs.map (·.1)).filter (jN p)++[u]))))] ?_
     refine At.di (!(go ((vs.map (·.1)).filter (jN p)++[u]))) 33 7 1 (fun ci=>?_) fun ck=>?_
     ·replace ci:=(dG ci)
      refine At.rt (.tuple #[]) ?_
      have df:=(ce.aa 0 rfl).aa 1 rfl
      have dg:=df.drop
      refine hR dg ⟨(((vs++[(u,ae)])++(aw++a0)).map (·.1)).filter (jN p),(vs.map (·.1)).filter (jN p)++[u],cf,rfl,by exact Ef (qP J D bm),by exact HX ‹_› ‹_›,by exact fun h=>absurd h (kH.1 ‹_›),by exact oQ ad a6,rfl,ch⟩
     replace ck:=(dH ck)
     have dj:=(ce.aa 0 rfl).aa 1 rfl
     exact At.ke (bt _ (aM.trans G (by repeat (first|assumption|apply aM.trans))) (vs++[(u,ae)]) (aw++a0) cf a1 _ (by have hz:=congrArg List.length D;simp only[cA,bY] at hz ⊢;omega) (by(rw[BV ‹_› ‹_›];assumption)) (by(rw[BV ‹_› ‹_›];exact oQ ad a6)) (by exact uM J D) (by(rw[BV ‹_› ‹_›];exact ch)) a8 dj)
    replace ca:=n4 ca
    refine Op.pg 6 [(33,.bool false)] ?_
    exact At.dK 33 1 (At.ke (bt _ G (vs++[(u,ae)]) (aw++a0) c1 a1 _ (by have hz:=congrArg List.length D;simp only[cA,bY] at hz ⊢;omega) (by(rw[Eh ‹_›];assumption)) (by(rw[Eh ‹_›];exact ad)) (by exact uM J D) (by(rw[Eh ‹_›];exact ar)) a8 bc))
   refine Op.pg 6 [(33,.bool false)] ?_
   exact At.dK 33 1 (At.ke (bt _ G (vs++[(u,ae)]) (aw++a0) c1 a1 _ (by have hz:=congrArg List.length D;simp only[cA,bY] at hz ⊢;omega) (by(rw[Eg ‹_›];assumption)) (by(rw[Eg ‹_›];exact ad)) (by exact uM J D) (by(rw[Eg ‹_›];exact ar)) a8 bc))
 exact At.ke (dc _ _ (aM.refl _) [] b5 c c9 _ (bM _) (by exact c3) (by exact xZ go) (by exact gO _) (by exact c4) da db)
theorem OA (g0:GH) (ab:Nat) (a3:Value) (s:List an) (u:g0 ab=some (.cells #[a3] 40 (0,0))) (G:av g0 9 eU a3 s) (hlen:s.length≤1000000000):kI prog g0 203 #[vP ab] Ee (fun bi=>bi=s.reverse):=by
 intro B h g l I go c a4 hg ad ae bj bk hs
 obtain⟨a5,am,rfl⟩:=G.aj
 replace u:=a4 _ _ u
 replace G:=G.mono a4
 refine aE.aq func203 fun R hR=>?_
 refine At.rg 4 ?_
 refine Op.l1 40 1 4 0 (vL a5 s.length am) (hs.sub _ _ u) ?_
 refine Op.px 1 [(5,vI (s.length:Int))] ?_
 refine Op.vq 6 ((s.length:Int)-1) ?_
 refine Op.pg 1 [(3,vI ((s.length:Int)-1))] ?_
 have bm:∀(m:Nat) (V:GH) (J:aM g V) (i:Int) (c1:ay) (ar:ax) (hm:(i+1).toNat<m) (h0: -1≤i) (h1:i<s.length) (X:go (s.drop (i+1).toNat).reverse=true) (Y:td go (s.drop (i+1).toNat).reverse) (aw:I ((s.drop (i+1).toNat).reverse) V c1) (O:St h g (aV [c]) V [c1] ar),At (bX prog B 203 f203 R) [] 1 [(0,.func (.yield l) #[] #[]),(1,vP ab),(3,vI i)] ar:=by
  intro m;induction m with
  |zero=>intros;omega
  |succ m bo=>
   intro V J i c1 ar hm h0 h1 X Y aw O
   replace ad:=ad.mono J
   replace ae:=ae.mono J
   replace G:=G.mono J
   replace u:=J _ _ u
   refine At.go 2 2 [(8,.bool (decide (i≥0)))] ?_
   refine At.fd (i≥0) 8 3 7 (fun b4=>?_) fun b5=>?_
   ·refine At.rp 8 2 [(11,.func (.yield l) #[] #[]),(12,vI i)] ?_
    refine Op.l1 40 1 13 0 (vL a5 s.length am) (O.sub _ _ u) ?_
    refine Op.px 1 [(14,vI i)] ?_
    obtain⟨D,U⟩:=cG s i
    obtain⟨bt,a6,b6,b8,b3,a0,a1⟩:=av.bF G _ U
    cases b3
    refine Op.iq 40 9 1 16 s.length am 13 14 15 bt a6 i ?_
    replace a1:cut _ _ _=[vS D]:=a1
    refine Op.l1 9 15 16 (a6+i.toNat*1) (vS D) (O.sub _ _ a0) ?_ (hv:=c_ a1 0 rfl)
    refine Op.yield (dst:=some 17) (x:=11) (ops:=#[12,16]) (ts:=#[3,9]) (l:=l) (args:=#[vI i,vS D]) (Lc:=[c1]) (L:=[]) (by kernel_rfl) (by kernel_rfl) (by kernel_rfl) O (ae _ _ ((s.drop (i+1).toNat).reverse) D _ _ (by repeat (first|assumption|exact aM.refl _|apply aM.trans)) ad (by exact X) (by exact⟨_,rfl⟩) ⟨s.reverse,by rfl,by(rw[←Af (by omega) U];exact HY _ _)⟩ aw (St.part (Lc:=[c1]) (L:=[]) O)) (fun _ _ _=>trivial) ?_
    rintro _ ca _ cb a7 a8 ⟨a9,rfl,rfl,bc⟩
    replace a0:=a7 _ _ a0
    replace u:=a7 _ _ u
    refine Op.pg 4 [(18,.bool (!(go ((s.drop (i+1).toNat).reverse++[D]))))] ?_
    refine At.di (!(go ((s.drop (i+1).toNat).reverse++[D]))) 18 5 6 (fun bd=>?_) fun be=>?_
    ·replace bd:=(dG bd)
     refine At.rt (.tuple #[]) ?_
     refine hR a8 ⟨s.reverse,(s.drop (i+1).toNat).reverse++[D],a9,rfl,by rfl,by(rw[←Af (by omega) U];exact HY _ _),by exact fun h=>absurd h (kH.1 ‹_›),by exact oQ Y X,rfl,bc⟩
    replace be:=(dH be)
    refine At.rp 3 1 [(9,vI i)] ?_
    refine Op.vq 10 (i-1) ?_
    exact Op.pg 1 [(3,vI (i-1))] (At.ke (bo _ (aM.trans J (by repeat (first|assumption|apply aM.trans))) (i-1) a9 _ (by omega) (by omega) (by omega) (by rw[Af (by omega) U];assumption) (by rw[Af (by omega) U];exact oQ Y X) (by rw[Af (by omega) U];exact bc) a8))
   refine At.rt (.tuple #[]) ?_
   refine hR O ⟨((s.drop (i+1).toNat).reverse),(s.drop (i+1).toNat).reverse,c1,rfl,by exact Of (by omega) (by omega),by exact uG _,by exact fun _=>rfl,by exact Y,rfl,aw⟩
 exact At.ke (bm _ _ (aM.refl _) ((s.length:Int)-1) c _ (bM _) (by omega) (by omega) (by rw[Ei];exact bj) (by rw[Ei];exact xZ go) (by rw[Ei];exact bk) hs)
theorem OB (B:World) (h:ax) (g:GH) (hg:bl g h) (ae:bq g) (u:Nat) (x:List ag) (G:kZ g u x):
  aE prog B 189 #[.map (some u)] h g [] (fun V g' L'=>∃f0 I,V=.func (.func f0) #[] I∧fc prog f0∧kI prog g' f0 I tc (fun X=>X.Perm (x.map (·.af)))∧L'=[]):=by
 refine aE.aq func189 fun R hR=>?_
 have Y:=St.init hg
 refine At.rg 2 ?_
 refine Op.bx 1 195 0 #[.map (some u)] Y fun D am ab=>?_
 refine Op.pg 1 [] ?_
 refine At.go 2 2 [(2,.func (.func 218) #[] #[vP D])] ?_
 obtain⟨J,O⟩:=St.freeze (ab.aa 0 rfl)
 have U:=iN (g:=g) D (.cells #[.map (some u)] 195 (0,0))
 generalize ad:dy g _=ar at J O U;clear ad
 replace G:=G.mono O
 exact At.rt (.func (.func 218) #[] #[vP D]) (hR J ⟨218,#[vP D],rfl,fc.of (by kernel_rfl),Oy _ D u x U G,rfl⟩)
theorem H9 (B:World) (h:ax) (g:GH) (hg:bl g h) (a4:bq g) (u:Nat) (t:List ag) (D:kj g u t) (p:an):
  aE prog B 169 #[vP u,vS p] h g [] (fun ae g' L'=>∃f0 U,ae=.func (.func f0) #[] U∧fc prog f0∧kI prog g' f0 U tc (fun am=>am.Perm (gK t p))∧L'=[]):=by
 refine aE.aq func169 fun R hR=>?_
 have ar:=St.init hg
 refine At.rg 3 ?_
 refine Op.bx 2 129 0 #[vP u] ar fun G a5 aw=>?_
 refine Op.bx 3 9 1 #[vS p] aw fun I a6 a0=>?_
 refine Op.pg 1 [] ?_
 refine At.go 2 2 [(4,.func (.func 207) #[] #[vP G,vP I])] ?_
 obtain⟨V,X⟩:=St.freeze (a0.aa 1 rfl)
 have J:=iN (g:=g) G (.cells #[vP u] 129 (0,0))
 generalize a1:dy g _=Y at V X J;clear a1
 replace D:=D.mono X
 obtain⟨ab,O⟩:=St.freeze (V.aa 0 rfl)
 have ad:=iN (g:=Y) I (.cells #[vS p] 9 (0,0))
 generalize a3:dy Y _=a7 at ab O ad;clear a3
 replace D:=D.mono O
 replace J:=O _ _ J
 exact At.rt (.func (.func 207) #[] #[vP G,vP I]) (hR ab ⟨207,#[vP G,vP I],rfl,fc.of (by kernel_rfl),Oz _ G u t J D I p ad,rfl⟩)
theorem OC (B:World) (h:ax) (g:GH) (hg:bl g h) (ar:bq g) (G:Value) (s:List an) (D:av g 9 eU G s) (hlen:s.length≤1000000000):
  aE prog B 166 #[G] h g [] (fun Y g' L'=>∃f0 I,Y=.func (.func f0) #[] I∧fc prog f0∧kI prog g' f0 I Ee (fun ab=>ab=s.reverse)∧L'=[]):=by
 obtain⟨J,O,rfl⟩:=D.aj
 refine aE.aq func166 fun R hR=>?_
 have ad:=St.init hg
 refine At.rg 2 ?_
 refine Op.bx 1 40 0 #[vL J s.length O] ad fun u aw ae=>?_
 refine Op.pg 1 [] ?_
 refine At.go 2 2 [(2,.func (.func 203) #[] #[vP u])] ?_
 obtain⟨U,V⟩:=St.freeze (ae.aa 0 rfl)
 have X:=iN (g:=g) u (.cells #[vL J s.length O] 40 (0,0))
 generalize am:dy g _=a0 at U V X;clear am
 replace D:=D.mono V
 exact At.rt (.func (.func 203) #[] #[vP u]) (hR U ⟨203,#[vP u],rfl,fc.of (by kernel_rfl),OA _ u _ s X D ‹_›,rfl⟩)
theorem OD (B:World) (h:ax) (g:GH) (hg:bl g h) (cb:bq g) (V:Nat) (X:Array Value) (q:List aQ) (ce:fc prog V) (cf:kI prog g V X tc (fun ar=>ar.Perm q)) (hq:q.length≤1000000000):
  aE prog B 244 #[vN,.func (.func V) #[] X] h g [] (fun ch g' L'=>∃bc v0 bd,ch=v0∧bc.Perm q∧aJ 9 eU g' v0 bc bd∧g'=g∧L'=[bd]):=by
 refine aE.aq func244 fun R hR=>?_
 have ci:=St.init hg
 refine At.rg 2 ?_
 refine Op.bx 2 40 0 #[vN] ci fun D d4 ck=>?_
 refine Op.pg 1 [(4,vN)] ?_
 refine At.go 2 1 [(6,.func (.func V) #[] X)] ?_
 refine At.kp [(2,vP D),(4,vN),(6,.func (.func V) #[] X)] ?_
 have co:=aJ.zero 9 eU g none
 have c3:=ck.nl
 refine At.rangeFunc (x:=6) (f:=V) (cp:=X) (by kernel_rfl) rfl (by kernel_rfl) (by kernel_rfl) ce c3 fun u G J be c4 c5=>?_
 have c6:=(((c5.aa 1 rfl).aa 2 rfl).aa 3 rfl).aa 3 rfl
 have c8:St h g (aV []) g [[(G,.loop (dR (eC 244 J (pt (dz f244) 2) u) none))],[(D,Obj.cells #[vL none (([]:List an).length) 0] 40 (0,0))],[],[(u,.deferred (some []))]] be:=c6
 have a4:St h g (aV []) g [(([(G,.loop (dR (eC 244 J (pt (dz f244) 2) u) none))]:ay)++([(D,Obj.cells #[vL none (([]:List an).length) 0] 40 (0,0))]:ay)++([]:ay):ay),[(u,.deferred (some []))]] be:=St.bu (L:=[[(G,.loop (dR (eC 244 J (pt (dz f244) 2) u) none))],[(D,Obj.cells #[vL none (([]:List an).length) 0] 40 (0,0))],[],[(u,.deferred (some []))]]) (by simp only[cH,List.flatten_nil,dm,dW,eN,dX]) c8
 obtain⟨bi,aw⟩:∃I:List aQ→GH→ay→Prop,I=(fun xs g2 c2=>∃(out:List aQ) (bj:Option Addr) (bk:Nat) (bm:ay),c2=(([(G,.loop (dR (eC 244 J (pt (dz f244) 2) u) none))]:ay)++([(D,Obj.cells #[.slice bj out.length bk] 40 (0,0))]:ay)++(bm:ay):ay)∧aJ 9 eU g2 (.slice bj out.length bk) out bm∧out=xs):=⟨_,rfl⟩
 have c9:uE prog B G tc (fun ar=>ar.Perm q) (fun _=>true) bi g:=by
  intro a5 a0 d5 O d6 d7 d8 d9 ed da db bo dc
  rw[aw] at bo
  obtain⟨U,a1,a3,a6,rfl,dd,bt⟩:=bo
  obtain rfl:=da
  have hlen:U.length+1≤q.length:=by(obtain⟨ar,h1,h2⟩:=db;have h3:=h2.length_le;have h4:=h1.length_eq;rw[bt];simp only[cA,bY,dU] at h3;omega)
  have b3:St a5 a0 (aV [(([(G,.loop (dR (eC 244 J (pt (dz f244) 2) u) none))]:ay)++([(D,Obj.cells #[vL a1 U.length a3] 40 (0,0))]:ay)++(a6:ay):ay)]) a0 [[(G,.loop (dR (eC 244 J (pt (dz f244) 2) u) none))],[(D,Obj.cells #[vL a1 U.length a3] 40 (0,0))],a6] a5:=St.bu (by simp only[cH,List.flatten_nil,dm,dW,eN,dX]) dc
  refine uD.uB (n:=f244.ntmps) (e0:=[(2,vP D),(4,vN),(6,.func (.func V) #[] X)]) (e:=[(7,vS O),(2,vP D),(4,vN),(6,.func (.func V) #[] X)]) (b3.ah 0 rfl) c4 (by kernel_rfl) (by kernel_rfl) (by kernel_rfl) (by kernel_rfl) fun ee df=>?_
  refine At.go 1 1 [(5,vS O)] ?_
  refine At.beginRound rfl (by kernel_rfl) b3 0 rfl 2 (by kernel_rfl) fun ef b4=>?_
  refine At.rg 5 ?_
  refine Op.l1 40 2 8 0 (vL a1 U.length a3) (b4.ah 1 rfl) ?_
  refine Op.px 1 [(9,vS O)] ?_
  refine Op.ls 10 1 9 #[vS O] b4 fun eh ej b5=>?_
  refine Op.ap 8 10 40 40 11 9 16 eU (ys:=[O]) dd b5 3 (⟨_,_,rfl,rfl,Reads.nil⟩) (by(simp only[bY,dU];omega)) (fun _ _ _=>trivial) (eT.lit (m:=1) (sz:=1) (b5.ah 0 rfl) (news:=[vS O]) rfl rfl (by simp[Value.oneCell']) _) fun em a7 en b6 dg ep=>?_
  obtain⟨ae,am,rfl⟩:=b6.aj
  have dj:=(dg.aa 0 rfl).drop
  refine Op.s1 40 2 11 0 (vL ae ((U++([O])).length) am) 1 #[vL ae ((U++([O])).length) am] dj (fun _=>trivial) fun er dk=>?_
  refine Op.gt 3 ?_
  refine At.zG (j:=none) (by kernel_rfl) dk 0 rfl fun dl dp=>?_
  have dq:St a5 a0 (aV [(([(G,.loop (dR (eC 244 J (pt (dz f244) 2) u) none))]:ay)++([(D,Obj.cells #[vL a1 U.length a3] 40 (0,0))]:ay)++(a6:ay):ay)]) a0 [(([(G,.loop (dR (eC 244 J (pt (dz f244) 2) u) none))]:ay)++([(D,Obj.cells #[vL ae ((U++([O])).length) am] 40 (0,0))]:ay)++(a7:ay):ay)] dl:=St.bu (L:=[[(G,.loop (dR (eC 244 J (pt (dz f244) 2) u) none))],[(D,Obj.cells #[vL ae ((U++([O])).length) am] 40 (0,0))],a7]) (by simp only[cH,List.flatten_nil,dm,dW,eN,dX]) dp
  refine df _ _ _ _ dq ⟨_,by rfl,rfl,?_⟩
  rw[aw];exact⟨(U++([O])),ae,am,a7,rfl,b6,(by rw[bt])⟩
 refine wj.call (Lc:=[(([(G,.loop (dR (eC 244 J (pt (dz f244) 2) u) none))]:ay)++([(D,Obj.cells #[vL none (([]:List an).length) 0] 40 (0,0))]:ay)++([]:ay):ay)]) (L:=[[(u,.deferred (some []))]]) a4 (cf B _ _ _ bi (fun _=>true) _ (aM.refl _) a4.sub cb c9 rfl (by rw[aw];exact⟨([]:List an),none,0,[],rfl,co,(by rfl)⟩) (St.part (Lc:=[(([(G,.loop (dR (eC 244 J (pt (dz f244) 2) u) none))]:ay)++([(D,Obj.cells #[vL none (([]:List an).length) 0] 40 (0,0))]:ay)++([]:ay):ay)]) (L:=[[(u,.deferred (some []))]]) a4)) ?_
 rintro _ du _ dv et dC ⟨ex,eA,eB,rfl,eE,eI,dE,eJ,rfl,b8⟩
 have hx:=dE rfl;subst hx
 rw[aw] at b8
 obtain⟨Y,ab,ad,a8,rfl,a9,dT⟩:=b8
 have d0:St h g (aV []) du [[(G,.loop (dR (eC 244 J (pt (dz f244) 2) u) none))],[(D,Obj.cells #[vL ab Y.length ad] 40 (0,0))],a8,[(u,.deferred (some []))]] dv:=St.bu (by simp only[cH,List.flatten_nil,dm,dW,eN,dX]) dC
 refine jz.zH (j:=none) d0 0 rfl fun eK d1=>?_
 have ca:=d1.drop
 refine jz.bF 3 (by kernel_rfl) ?_
 refine At.rg 2 ?_
 refine Op.l1 40 2 12 0 (vL ab Y.length ad) (ca.ah 0 rfl) ?_
 refine Op.pg 4 [(4,vL ab Y.length ad)] ?_
 have d2:=((ca.aa 1 rfl).aa 1 rfl).aa 2 rfl
 refine At.Bw (jz.Dy (L:=[[(D,Obj.cells #[vL ab Y.length ad] 40 (0,0))],a8]) (f:=f244) (v:=vL ab Y.length ad) [u] (by kernel_rfl) (by kernel_rfl) d2 ?_)
 intro eL d3
 replace a9:=a9.bu (fun _ _ _ _ h=>h) (g':=g)
 exact hR d3.drop.jZ ⟨Y,(vL ab Y.length ad),a8,rfl,(by rw[dT];assumption),a9,rfl,rfl⟩
theorem OE (B:World) (h:ax) (g:GH) (hg:bl g h) (Y:bq g) (u:Nat) (D:Array Value) (q:List aQ) (ab:fc prog u) (ad:kI prog g u D tc (fun ae=>ae.Perm q)) (hq:q.length≤1000000000):
  aE prog B 216 #[.func (.func u) #[] D] h g [] (fun am g' L'=>∃I v0 J,am=v0∧I.Perm q∧aJ 9 eU g' v0 I J∧g'=g∧L'=[J]):=by
 refine aE.aq func216 fun R hR=>?_
 have O:=St.init hg
 refine At.go 1 1 [] ?_
 refine At.rp 3 1 [(3,.func (.func u) #[] D)] ?_
 refine Op.c0 (some 4) (OD _ _ _ O.sub Y u D q ab ad (by(try dsimp only)<;>assumption)) O ?_
 rintro _ ar _ a3 aw a0 ⟨G,a4,a1,rfl,a5,U,a6,rfl⟩;subst ar;clear aw
 obtain⟨V,X,rfl⟩:=U.aj
 exact Op.pr 2 2 (vL V G.length X) (hR a0 ⟨G,(vL V G.length X),a1,rfl,‹_›,U,rfl,rfl⟩)
theorem H_ (B:World) (h:ax) (g:GH) (hg:bl g h) (ad:bq g) (D:Nat) (J:Array Value) (q:List aQ) (ae:fc prog D) (am:kI prog g D J tc (fun ar=>ar.Perm q)) (hq:q.length≤1000000000):
  aE prog B 188 #[.func (.func D) #[] J] h g [] (fun aw g' L'=>∃v0 U,aw=v0∧aJ 9 eU g' v0 (jM q) U∧g'=g∧L'=[U]):=by
 refine aE.aq func188 fun R hR=>?_
 have V:=St.init hg
 refine At.go 1 1 [] ?_
 refine At.rp 3 1 [(4,.func (.func D) #[] J)] ?_
 refine Op.c0 (some 5) (OE _ _ _ V.sub ad D J q ae am (by(try dsimp only)<;>assumption)) V ?_
 rintro _ a0 _ a8 a1 O ⟨u,a9,X,rfl,Y,ab,bc,rfl⟩;subst a0;clear a1
 obtain⟨G,I,rfl⟩:=ab.aj
 refine Op.pg 2 [(3,vL G u.length I)] ?_
 refine At.rp 2 1 [(6,vL G u.length I)] ?_
 refine Op.call (dst:=some 7) (f:=217) (args:=#[vL G u.length I]) (Lc:=[X]) (L:=[]) (by kernel_rfl) O (Ob _ _ _ O.sub _ u _ ab (by(have:=BD Y;omega)) (St.part (Lc:=[X]) (L:=[]) O)) (fun _ _ _=>trivial) ?_
 rintro _ a3 _ bd a4 a5 ⟨rfl,be,a6,a7,rfl⟩;subst a3;clear a4
 refine Op.gt 3 ?_
 exact At.gr 4 2 2 (vL G u.length I) (hR a5 ⟨(vL G u.length I),a6,rfl,eV a7 (by exact HU Y),rfl,rfl⟩)
theorem Ia (B:World) (h:ax) (g:GH) (hg:bl g h) (D:bq g) (G:Nat) (t:List ag) (u:kj g G t) (hn:t.length≤1000000000):
  aE prog B 140 #[vP G] h g [] (fun am g' L'=>∃v0 ab,am=v0∧aJ 9 eU g' v0 (t.map (·.af)) ab∧g'=g∧L'=[ab]):=by
 refine aE.aq func140 fun R hR=>?_
 have O:=St.init hg
 refine At.go 1 1 [] ?_
 refine At.rp 7 3 [(5,vP G)] ?_
 obtain⟨U,I,ad⟩:=u
 have u:kj g G t:=⟨U,I,ad⟩
 refine Op.l1 195 5 6 0 (.map (some U)) (O.sub _ _ I) ?_
 refine Op.c0 (some 7) (OB _ _ _ O.sub D U t ad) O ?_
 rintro _ a6 _ a7 V ae ⟨f25,ar,rfl,aw,a0,rfl⟩
 replace D:=D.mono V
 replace u:=u.mono V
 replace I:=V _ _ I
 refine Op.c0 (some 8) (H_ _ _ _ ae.sub D f25 ar (t.map (·.af)) aw a0 (by((try dsimp only)<;>((simp only[d_];assumption))))) ae ?_
 rintro _ a1 _ a8 a3 a4 ⟨a9,a5,rfl,J,bc,rfl⟩;subst a1;clear a3
 obtain⟨X,Y,rfl⟩:=J.aj
 refine Op.pg 2 [(2,vL X ((jM (t.map (·.af))).length) Y)] ?_
 refine At.rt (vL X ((jM (t.map (·.af))).length) Y) ?_
 replace J:=J.bu (fun _ _ _ _ h=>h) (g':=g)
 exact hR a4.jZ ⟨(vL X ((jM (t.map (·.af))).length) Y),a5,rfl,eV J (by exact HV (HZ u.sort)),rfl,rfl⟩
theorem Ej (B:World) (h:ax) (g:GH) (hg:bl g h) (aw:bq g) (D:Nat) (t:List ag) (U:kj g D t) (p:an) (hp:p.length≤1000000000):
  aE prog B 206 #[vP D,vS p] h g [] (fun V g' L'=>g'=g∧L'=[]∧((V=.tuple #[.pointer none,.int .i64 (eG t p)]∧(eG t p)≠0)∨∃b l v mb,V=.tuple #[vP b,.int .i64 0]∧(eG t p)=0∧cc t p=some l∧g D=some (.cells #[.map (some mb)] TT (0,0))∧g b=some (.cells (qO l v) TL (0,0))∧av g 5 br v l.Data∧Ad g mb l b)):=by
 refine aE.aq func206 fun R hR=>?_
 have X:=St.init hg
 refine At.go 1 2 [] ?_
 refine At.rp 3 1 [(9,vS p)] ?_
 refine Op.c1 10 (BW _ _ _ X.sub aw p (by(try dsimp only)<;>omega)) X fun a7 u=>?_
 refine Op.pg 2 [(6,vI (cX p))] ?_
 refine At.go 3 2 [(12,.bool ((cX p) != 0))] ?_
 refine At.fn ((cX p)=0) 12 4 6 (fun a8=>?_) fun a9=>?_
 ·refine At.go 5 3 [(4,.pointer none),(5,vI (cX p))] ?_
  refine At.rt (.tuple #[.pointer none,vI (cX p)]) ?_
  have Y:(eG t p)=(cX p):=by first|exact D2 ‹_›|exact D3 ‹_› ‹_›|exact BM ‹_› ‹_›
  exact hR u ⟨rfl,rfl,.inl ⟨by rw[Y],by rw[Y];first|assumption|decide|omega⟩⟩
 refine At.rp 11 3 [(17,vP D)] ?_
 obtain⟨G,J,ab⟩:=U
 have U:kj g D t:=⟨G,J,ab⟩
 refine Op.l1 195 17 18 0 (.map (some G)) (u.sub _ _ J) ?_
 refine Op.px 1 [(19,vS p)] ?_
 obtain⟨bc,bd,be,ad,ae,bi,bj,bk,a0⟩:=kZ.me ab
 rcases a0 p with ⟨a1,O⟩|⟨I,a3,bm,a1,O,a4,am,a5⟩
 ·refine Op.uH (ok:=true) (d:=.string) (mt:=195) (x:=18) (ix:=19) (dst:=20) (k:=p) (m:=G) (z:=.pointer none) (by kernel_rfl) (by kernel_rfl) l_ (by kernel_rfl) (by kernel_rfl) (u.sub _ _ ad) ae O ?_
  refine Op.pg 7 [(7,.pointer none),(8,.bool false)] ?_
  refine At.go 8 2 [(24,.bool true)] ?_
  refine At.bW 24 9 ?_
  refine At.go 10 2 [(4,.pointer none),(5,vI 100)] ?_
  refine At.rt (.tuple #[.pointer none,vI 100]) ?_
  have ar:(eG t p)=100:=by first|exact D2 ‹_›|exact D3 ‹_› ‹_›|exact BM ‹_› ‹_›
  exact hR u ⟨rfl,rfl,.inl ⟨by rw[ar],by rw[ar];first|assumption|decide|omega⟩⟩
 obtain⟨bo,bt,rfl⟩:=am.aj
 refine Op.qM (ok:=true) (d:=.string) (mt:=195) (x:=18) (ix:=19) (dst:=20) (k:=p) (m:=G) (v:=vP I) (z:=.pointer none) (by kernel_rfl) (by kernel_rfl) l_ (by kernel_rfl) (by kernel_rfl) (u.sub _ _ ad) ae O ?_
 refine Op.pg 7 [(7,vP I),(8,.bool true)] ?_
 refine At.go 8 2 [(24,.bool false)] ?_
 refine At.dK 24 11 ?_
 refine At.go 12 3 [(4,vP I),(5,vI 0)] ?_
 refine At.rt (.tuple #[vP I,vI 0]) ?_
 have a6:(eG t p)=0:=by first|exact D2 ‹_›|exact D3 ‹_› ‹_›|exact BM ‹_› ‹_›
 exact hR u ⟨rfl,rfl,.inr ⟨I,a3,_,G,rfl,a6,by assumption,J,a4,am,a5⟩⟩
theorem Ib (B:World) (h:ax) (g:GH) (hg:bl g h) (aw:bq g) (D:Nat) (t:List ag) (a0:kj g D t) (p:an) (bO:Int) (hp:p.length≤1000000000):
  aE prog B 168 #[vP D,vS p,vI bO] h g [] (fun U g' L'=>g'=g∧L'=[]∧((U=.tuple #[.pointer none,.int .i64 (fM t p bO)]∧(fM t p bO)≠0)∨∃b l v mb,U=.tuple #[vP b,.int .i64 0]∧(fM t p bO)=0∧cc t p=some l∧g D=some (.cells #[.map (some mb)] TT (0,0))∧g b=some (.cells (qO l v) TL (0,0))∧av g 5 br v l.Data∧Ad g mb l b)):=by
 refine aE.aq func168 fun R hR=>?_
 have V:=St.init hg
 refine At.go 1 2 [] ?_
 refine At.rp 8 2 [(11,vP D),(12,vS p)] ?_
 refine Op.c0 (some 13) (Ej _ _ _ V.sub aw D t a0 p (by(try dsimp only)<;>omega)) V ?_
 rintro a8 a1 _ a9 a3 G ⟨bc,rfl,a4⟩;subst a1;clear a3
 rcases a4 with ⟨rfl,X⟩|⟨u,I,bd,Y,rfl,be,bi,ab,J,O,ad⟩
 ·have bj:((eG t p) != 0)=true:=xL.2 X
  have a5:((eG t p)==0)=false:=s7.2 X
  refine Op.pg 2 [(8,.pointer none),(9,vI (eG t p))] ?_
  refine At.rp 14 3 [(18,.bool ((eG t p)==0))] ?_
  refine Op.wb ((eG t p)==0) 18 (fun hb=>?_) fun ae=>?_
  ·exact Bool.noConfusion (hb.symm.trans a5)
  replace ae:=n4 ae
  refine Op.pg 3 [(29,.bool false)] ?_
  refine At.dK 29 6 ?_
  refine At.go 7 4 [(6,.pointer none),(7,vI (eG t p))] ?_
  refine At.rt (.tuple #[.pointer none,vI (eG t p)]) ?_
  have am:(fM t p bO)=(eG t p):=by first|exact BN ‹_›|exact BO ‹_› ‹_› ‹_› ‹_›|exact BP ‹_› ‹_› ‹_›|exact BQ ‹_› ‹_› ‹_›
  exact hR G ⟨rfl,rfl,.inl ⟨by rw[am],by rw[am];first|assumption|decide|omega⟩⟩
 obtain⟨bk,bm,rfl⟩:=O.aj
 refine Op.pg 2 [(8,vP u),(9,vI 0)] ?_
 refine At.rp 14 7 [(22,.bool (decide (bO≥0)))] ?_
 refine Op.wd (bO≥0) 22 (fun bo=>?_) fun bt=>?_
 ·refine Op.px 3 [(25,vQ u 2)] ?_
  refine Op.l1 3 25 26 2 (vI I.ai) (G.sub _ _ J) ?_
  refine Op.pg 3 [(29,.bool (I.ai != bO))] ?_
  refine At.fn (I.ai=bO) 29 4 6 (fun b3=>?_) fun b4=>?_
  ·refine At.go 5 2 [(6,.pointer none),(7,vI 102)] ?_
   refine At.rt (.tuple #[.pointer none,vI 102]) ?_
   have ar:(fM t p bO)=102:=by first|exact BN ‹_›|exact BO ‹_› ‹_› ‹_› ‹_›|exact BP ‹_› ‹_› ‹_›|exact BQ ‹_› ‹_› ‹_›
   exact hR G ⟨rfl,rfl,.inl ⟨by rw[ar],by rw[ar];first|assumption|decide|omega⟩⟩
  refine At.go 7 4 [(6,vP u),(7,vI 0)] ?_
  refine At.rt (.tuple #[vP u,vI 0]) ?_
  have a6:(fM t p bO)=0:=by first|exact BN ‹_›|exact BO ‹_› ‹_› ‹_› ‹_›|exact BP ‹_› ‹_› ‹_›|exact BQ ‹_› ‹_› ‹_›
  exact hR G ⟨rfl,rfl,.inr ⟨u,I,_,Y,rfl,a6,by assumption,ab,J,O,ad⟩⟩
 refine Op.pg 3 [(29,.bool false)] ?_
 refine At.dK 29 6 ?_
 refine At.go 7 4 [(6,vP u),(7,vI 0)] ?_
 refine At.rt (.tuple #[vP u,vI 0]) ?_
 have a7:(fM t p bO)=0:=by first|exact BN ‹_›|exact BO ‹_› ‹_› ‹_› ‹_›|exact BP ‹_› ‹_› ‹_›|exact BQ ‹_› ‹_› ‹_›
 exact hR G ⟨rfl,rfl,.inr ⟨u,I,_,Y,rfl,a7,by assumption,ab,J,O,ad⟩⟩
theorem OF (B:World) (h:ax) (g:GH) (hg:bl g h) (a5:bq g) (G:Nat) (t:List ag) (V:kj g G t) (p:an) (X:Value) (data:an) (a6:av g 5 br X data) (hp:p.length≤1000000000):
  aE prog B 209 #[vP G,vS p,X] h g [] (fun Y g' L'=>g'=g∧L'=[]∧((Y=.tuple #[.pointer none,.int .i64 (gC t p data)]∧(gC t p data)≠0)∨∃b l v mb,Y=.tuple #[vP b,.int .i64 0]∧(gC t p data)=0∧cc t (parentOf p)=some l∧g G=some (.cells #[.map (some mb)] TT (0,0))∧g b=some (.cells (qO l v) TL (0,0))∧av g 5 br v l.Data∧Ad g mb l b)):=by
 obtain⟨bd,be,rfl⟩:=a6.aj
 refine aE.aq func209 fun R hR=>?_
 have ab:=St.init hg
 refine At.go 1 2 [] ?_
 refine At.rp 7 1 [(13,vS p)] ?_
 refine Op.c1 14 (Ag _ _ _ ab.sub a5 p (by(try dsimp only)<;>omega)) ab fun bi u=>?_
 refine Op.pg 2 [(8,vS (parentOf p)),(9,vI (cz p))] ?_
 refine At.go 3 3 [(17,.bool ((cz p) != 0))] ?_
 refine At.fn ((cz p)=0) 17 4 6 (fun bj=>?_) fun bk=>?_
 ·refine At.go 5 3 [(6,.pointer none),(7,vI (cz p))] ?_
  refine At.rt (.tuple #[.pointer none,vI (cz p)]) ?_
  have ad:(gC t p data)=(cz p):=by first|exact zY ‹_›|exact zZ ‹_› ‹_›|exact z_ ‹_› ‹_› ‹_›|exact Aa ‹_› ‹_› ‹_› ‹_›|exact Ab ‹_› ‹_› ‹_› ‹_›
  exact hR u ⟨rfl,rfl,.inl ⟨by rw[ad],by rw[ad];first|assumption|decide|omega⟩⟩
 refine At.go 7 4 [(21,.bool (decide ((data.length:Int)>128)))] ?_
 refine At.fd ((data.length:Int)>128) 21 8 10 (fun bm=>?_) fun bo=>?_
 ·refine At.go 5 2 [(6,.pointer none),(7,vI 104)] ?_
  refine At.rt (.tuple #[.pointer none,vI 104]) ?_
  have ae:(gC t p data)=104:=by first|exact zY ‹_›|exact zZ ‹_› ‹_›|exact z_ ‹_› ‹_› ‹_›|exact Aa ‹_› ‹_› ‹_› ‹_›|exact Ab ‹_› ‹_› ‹_› ‹_›
  exact hR u ⟨rfl,rfl,.inl ⟨by rw[ae],by rw[ae];first|assumption|decide|omega⟩⟩
 refine At.rp 11 3 [(28,vP G)] ?_
 obtain⟨I,O,am⟩:=V
 have V:kj g G t:=⟨I,O,am⟩
 refine Op.l1 195 28 29 0 (.map (some I)) (u.sub _ _ O) ?_
 refine Op.px 1 [(30,vS (parentOf p))] ?_
 obtain⟨bt,b3,b4,ar,aw,b5,b6,b8,a7⟩:=kZ.me am
 rcases a7 (parentOf p) with ⟨a8,U⟩|⟨D,J,ca,a8,U,a0,a1,a9⟩
 ·refine Op.uH (ok:=true) (d:=.string) (mt:=195) (x:=29) (ix:=30) (dst:=31) (k:=(parentOf p)) (m:=I) (z:=.pointer none) (by kernel_rfl) (by kernel_rfl) l_ (by kernel_rfl) (by kernel_rfl) (u.sub _ _ ar) aw U ?_
  refine Op.pg 11 [(10,.pointer none),(11,.bool false)] ?_
  refine At.go 12 3 [(34,.bool true)] ?_
  refine At.bW 34 13 ?_
  refine At.go 14 2 [(6,.pointer none),(7,vI 100)] ?_
  refine At.rt (.tuple #[.pointer none,vI 100]) ?_
  have a3:(gC t p data)=100:=by first|exact zY ‹_›|exact zZ ‹_› ‹_›|exact z_ ‹_› ‹_› ‹_›|exact Aa ‹_› ‹_› ‹_› ‹_›|exact Ab ‹_› ‹_› ‹_› ‹_›
  exact hR u ⟨rfl,rfl,.inl ⟨by rw[a3],by rw[a3];first|assumption|decide|omega⟩⟩
 obtain⟨a51,cb,rfl⟩:=a1.aj
 refine Op.qM (ok:=true) (d:=.string) (mt:=195) (x:=29) (ix:=30) (dst:=31) (k:=(parentOf p)) (m:=I) (v:=vP D) (z:=.pointer none) (by kernel_rfl) (by kernel_rfl) l_ (by kernel_rfl) (by kernel_rfl) (u.sub _ _ ar) aw U ?_
 refine Op.pg 11 [(10,vP D),(11,.bool true)] ?_
 refine At.go 12 3 [(34,.bool false)] ?_
 refine At.dK 34 15 ?_
 refine At.rp 6 3 [(40,vQ D 3)] ?_
 refine Op.l1 3 40 41 3 (vI J.aD) (u.sub _ _ a0) ?_
 refine Op.pg 16 [(37,.bool (J.aD != ((-1):Int)))] ?_
 refine At.fn (J.aD=((-1):Int)) 37 17 19 (fun ce=>?_) fun cf=>?_
 ·refine At.go 14 2 [(6,.pointer none),(7,vI 105)] ?_
  refine At.rt (.tuple #[.pointer none,vI 105]) ?_
  have a4:(gC t p data)=105:=by first|exact zY ‹_›|exact zZ ‹_› ‹_›|exact z_ ‹_› ‹_› ‹_›|exact Aa ‹_› ‹_› ‹_› ‹_›|exact Ab ‹_› ‹_› ‹_› ‹_›
  exact hR u ⟨rfl,rfl,.inl ⟨by rw[a4],by rw[a4];first|assumption|decide|omega⟩⟩
 refine At.go 20 3 [(6,vP D),(7,vI 0)] ?_
 refine At.rt (.tuple #[vP D,vI 0]) ?_
 have bc:(gC t p data)=0:=by first|exact zY ‹_›|exact zZ ‹_› ‹_›|exact z_ ‹_› ‹_› ‹_›|exact Aa ‹_› ‹_› ‹_› ‹_›|exact Ab ‹_› ‹_› ‹_› ‹_›
 exact hR u ⟨rfl,rfl,.inr ⟨D,J,_,I,rfl,bc,by assumption,O,a0,a1,a9⟩⟩
theorem om (B:World) (h:ax) (g:GH) (hg:bl g h) (a4:bq g) (D:Value) (s:an) (u:av g 5 br D s) (hl:s.length≤1000000000):
  aE prog B 77 #[D] h g [] (fun ad g' L'=>∃v0 G,ad=v0∧aJ 5 br g' v0 s G∧g'=g∧L'=[G]):=by
 obtain⟨I,J,rfl⟩:=u.aj
 refine aE.aq func77 fun R hR=>?_
 have O:=St.init hg
 refine At.go 1 1 [] ?_
 refine At.rp 2 1 [(3,vL I s.length J)] ?_
 rcases I with _|a20
 ·refine Op.vl 4 (.bool true) (.bool true) rfl ?_
  refine Op.gt 2 ?_
  refine At.bW 4 3 ?_
  refine At.go 4 1 [(2,vN)] ?_
  have ae:=aJ.zero 5 br g none
  have am:=O.nl
  exact At.rt vN (hR am ⟨vN,[],rfl,eV ae (by exact(av.Gh u).symm),rfl,rfl⟩)
 refine Op.vl 4 (.bool false) (.bool false) rfl ?_
 refine Op.gt 2 ?_
 refine At.dK 4 5 ?_
 refine At.rg 4 ?_
 refine Op.ls 5 0 5 #[] O fun U a5 V=>?_
 refine Op.px 1 [(6,vL (some a20) s.length J)] ?_
 have ar:aJ 5 br g (vL (some ⟨U,0,none⟩) 0 0) ([]:an) [(U,Obj.cells #[] 5 (0,0))]:=aJ.lit (by kernel_rfl) (by unfold maxLen;decide) (by kernel_rfl) Reads.nil
 obtain⟨a6,aw,a0⟩:=eT.slice (P:=prog) (u.toH V.sub)
 refine Op.ap 5 6 22 22 7 5 1 br (ys:=s) ar V 0 a0 (by(simp only[dU];omega)) (fun _ _ _=>trivial) aw fun a7 a1 a8 X a3 a9=>?_
 obtain⟨Y,ab,rfl⟩:=X.aj
 exact Op.pr 6 2 (vL Y ((([]:an)++s).length) ab) (hR a3 ⟨(vL Y ((([]:an)++s).length) ab),a1,rfl,eV X (by(simp;done)),rfl,rfl⟩)
theorem Ek (B:World) (h:ax) (g:GH) (hg:bl g h) (ar:bq g) (l:ag) (U:Value) (V:av g 5 br U l.Data) (G:Nat) (X:g G=some (.cells #[vS l.af,U,vI l.ai,vI l.aD,vI l.Next,vI l.aL] 39 (0,0))) (hl:l.Data.length≤1000000000):
  aE prog B 141 #[vP G] h g [] (fun aw g' L'=>∃v0 Y,aw=.agg #[.string (bp l.af),v0,.int .i64 l.ai,.int .i64 l.aD,.int .i64 l.Next,.int .i64 l.aL]∧aJ 5 br g' v0 l.Data Y∧g'=g∧L'=[Y]):=by
 obtain⟨I,J,rfl⟩:=V.aj
 refine aE.aq func141 fun R hR=>?_
 have a0:=St.init hg
 refine At.rg 1 ?_
 refine Op.al 2 39 #[vS [],vN,vI 0,vI 0,vI 0,vI 0] a0 fun a9 bc ab=>?_
 refine Op.gt 1 ?_
 refine At.rp 5 2 [(5,vP G)] ?_
 refine Op.la 39 5 6 0 6 [vS l.af,vL I l.Data.length J,vI l.ai,vI l.aD,vI l.Next,vI l.aL] (ab.sub _ _ X) ?_
 refine Op.al 3 39 #[vS [],vN,vI 0,vI 0,vI 0,vI 0] ab fun a1 bd a3=>?_
 refine Op.sg 39 3 6 0 0 #[vS l.af,vL I l.Data.length J,vI l.ai,vI l.aD,vI l.Next,vI l.aL] a3 (fun _=>trivial) fun be O=>?_
 refine Op.gt 2 ?_
 refine At.rp 7 3 [(9,vQ G 1)] ?_
 refine Op.l1 22 9 10 1 (vL I l.Data.length J) (O.sub _ _ X) ?_
 refine Op.c0 (some 11) (om _ _ _ O.sub ar _ _ V (by(try dsimp only)<;>omega)) O ?_
 rintro _ a4 _ bi a5 a6 ⟨bj,a7,rfl,ad,bk,rfl⟩;subst a4;clear a5
 obtain⟨u,D,rfl⟩:=ad.aj
 refine Op.px 1 [(12,vQ a1 1)] ?_
 refine Op.s1 22 12 11 1 (vL u (l.Data.length) D) 1 #[vS l.af,vL u (l.Data.length) D,vI l.ai,vI l.aD,vI l.Next,vI l.aL] a6 (fun _=>trivial) fun bm ae=>?_
 refine Op.gt 3 ?_
 refine At.rg 2 ?_
 refine Op.la 39 3 13 0 6 [vS l.af,vL u (l.Data.length) D,vI l.ai,vI l.aD,vI l.Next,vI l.aL] (ae.ah 1 rfl) ?_
 refine Op.sg 39 2 13 0 2 #[vS l.af,vL u (l.Data.length) D,vI l.ai,vI l.aD,vI l.Next,vI l.aL] ae (fun _=>trivial) fun bo am=>?_
 refine Op.gt 4 ?_
 refine At.rm f141 [.agg #[vS l.af,vL u (l.Data.length) D,vI l.ai,vI l.aD,vI l.Next,vI l.aL]] [.cell 2 39] (.agg #[vS l.af,vL u (l.Data.length) D,vI l.ai,vI l.aD,vI l.Next,vI l.aL]) ⟨⟨_,_,rfl,dY (n:=6) (by kernel_rfl) (am.ah 2 rfl) (by kernel_rfl) rfl⟩,trivial⟩ ?_
 have a8:=((am.aa 0 rfl).aa 2 rfl).aa 2 rfl
 exact hR a8.drop.drop ⟨(vL u (l.Data.length) D),a7,(by rfl),eV ad (by rfl),rfl,rfl⟩
theorem Ic (B:World) (h:ax) (g:GH) (hg:bl g h) (U:bq g) (D:Nat) (t:List ag) (aw:kj g D t) (p:an) (hB:gj t) (hp:p.length≤1000000000):
  aE prog B 179 #[vP D,vS p] h g [] (fun a0 g' L'=>∃v0 V,a0=.tuple #[.agg #[.string (bp (((cg t p).1).af)),v0,.int .i64 (((cg t p).1).ai),.int .i64 (((cg t p).1).aD),.int .i64 (((cg t p).1).Next),.int .i64 (((cg t p).1).aL)],.int .i64 ((cg t p).2)]∧aJ 5 br g' v0 (((cg t p).1).Data) V∧g'=g∧L'=[V]):=by
 refine aE.aq func179 fun R hR=>?_
 have a1:=St.init hg
 refine At.rg 2 ?_
 refine Op.al 4 39 #[vS [],vN,vI 0,vI 0,vI 0,vI 0] a1 fun bo bt X=>?_
 refine Op.pg 1 [] ?_
 refine At.rp 8 2 [(9,vP D),(10,vS p)] ?_
 refine Op.c0 (some 11) (Ej _ _ _ X.sub U D t aw p (by(try dsimp only)<;>omega)) X ?_
 rintro b3 a3 _ b4 a4 J ⟨a5,rfl,a6⟩;subst a3;clear a4
 rcases a6 with ⟨rfl,Y⟩|⟨O,u,b5,b6,rfl,b8,ca,cb,a7,ab,ce⟩
 ·have a8:((eG t p) != 0)=true:=xL.2 Y
  have cf:((eG t p)==0)=false:=s7.2 Y
  refine Op.pg 2 [(6,.pointer none),(7,vI (eG t p))] ?_
  refine At.go 3 2 [(15,.bool ((eG t p) != 0))] ?_
  refine At.di ((eG t p) != 0) 15 4 6 (fun ad=>?_) fun hb=>?_
  ·replace ad:=gY ad
   refine At.rp 4 2 [(16,.agg #[vS [],vN,vI 0,vI 0,vI 0,vI 0]),(17,vI (eG t p))] ?_
   refine Op.sg 39 4 16 0 0 #[vS [],vN,vI 0,vI 0,vI 0,vI 0] J (fun _=>trivial) fun ch a9=>?_
   refine Op.pg 5 [(5,vI (eG t p))] ?_
   have bc:=aJ.zero 5 br g none
   have ae:=a9.nl
   refine At.rm f179 [.agg #[vS [],vN,vI 0,vI 0,vI 0,vI 0],vI (eG t p)] [.cell 4 39,.tmp 5] (.tuple #[.agg #[vS [],vN,vI 0,vI 0,vI 0,vI 0],vI (eG t p)]) ⟨⟨_,_,rfl,dY (n:=6) (by kernel_rfl) (ae.ah 1 rfl) (by kernel_rfl) rfl⟩,rfl,trivial⟩ ?_
   have bd:=(ae.aa 0 rfl).aa 1 rfl
   exact hR bd.drop ⟨vN,[],b7 (by(rw[D4 ‹_›];rfl)) (bB (by(rw[D4 ‹_›];done))),eV bc (by(rw[D4 ‹_›];rfl)),rfl,rfl⟩
  exact Bool.noConfusion (a8.symm.trans hb)
 obtain⟨ci,ck,rfl⟩:=ab.aj
 refine Op.pg 2 [(6,vP O),(7,vI 0)] ?_
 refine At.go 3 2 [(15,.bool false)] ?_
 refine At.dK 15 6 ?_
 refine At.rp 4 1 [(18,vP O)] ?_
 refine Op.c0 (some 19) (Ek _ _ _ J.sub U u _ ab O a7 (by((try dsimp only)<;>((have:=gj.data hB ‹_›;omega))))) J ?_
 rintro _ be _ co bi bj ⟨c3,bk,rfl,am,a5,rfl⟩;subst be;clear bi
 obtain⟨G,I,rfl⟩:=am.aj
 refine Op.sg 39 4 19 0 1 #[vS u.af,vL G (u.Data.length) I,vI u.ai,vI u.aD,vI u.Next,vI u.aL] bj (fun _=>trivial) fun c4 ar=>?_
 refine Op.pg 7 [(5,vI 0)] ?_
 refine At.rm f179 [.agg #[vS u.af,vL G (u.Data.length) I,vI u.ai,vI u.aD,vI u.Next,vI u.aL],vI 0] [.cell 4 39,.tmp 5] (.tuple #[.agg #[vS u.af,vL G (u.Data.length) I,vI u.ai,vI u.aD,vI u.Next,vI u.aL],vI 0]) ⟨⟨_,_,rfl,dY (n:=6) (by kernel_rfl) (ar.ah 1 rfl) (by kernel_rfl) rfl⟩,rfl,trivial⟩ ?_
 have bm:=(ar.aa 0 rfl).aa 1 rfl
 exact hR bm.drop ⟨(vL G (u.Data.length) I),bk,b7 (by(rw[D5 ‹_› ‹_›];done)) (bB (by(rw[D5 ‹_› ‹_›];done))),eV am (by(rw[D5 ‹_› ‹_›];done)),rfl,rfl⟩
theorem OG (B:World) (h:ax) (g:GH) (hg:bl g h) (D:bq g) (u:Nat) (t:List ag) (G:kj g u t) (p:an) (hB:gj t) (hp:p.length≤1000000000):
  aE prog B 178 #[vP u,vS p] h g [] (fun aw g' L'=>∃v0 X,aw=.tuple #[v0,.int .i64 ((jL t p).2)]∧aJ 9 eU g' v0 ((jL t p).1) X∧g'=g∧L'=[X]):=by
 refine aE.aq func178 fun R hR=>?_
 have Y:=St.init hg
 refine At.go 1 2 [] ?_
 refine At.rp 8 2 [(9,vP u),(10,vS p)] ?_
 refine Op.c0 (some 11) (Ej _ _ _ Y.sub D u t G p (by(try dsimp only)<;>omega)) Y ?_
 rintro bm a0 _ bo a1 O ⟨a3,rfl,a4⟩;subst a0;clear a1
 rcases a4 with ⟨rfl,ab⟩|⟨bt,b3,b4,b5,rfl,b6,b8,ad,ae,a5,ca⟩
 ·have a6:((eG t p) != 0)=true:=xL.2 ab
  have cb:((eG t p)==0)=false:=s7.2 ab
  refine Op.pg 2 [(7,vI (eG t p))] ?_
  refine At.go 3 2 [(15,.bool ((eG t p) != 0))] ?_
  refine At.di ((eG t p) != 0) 15 4 6 (fun am=>?_) fun hb=>?_
  ·replace am:=gY am
   refine At.go 5 3 [(4,vN),(5,vI (eG t p))] ?_
   have a7:=aJ.zero 9 eU g none
   have a8:=O.nl
   exact At.rt (.tuple #[vN,vI (eG t p)]) (hR a8 ⟨vN,[],b7 rfl (bB (by(rw[HK ‹_›];done))),eV a7 (by(rw[HK ‹_›];done)),rfl,rfl⟩)
  exact Bool.noConfusion (a6.symm.trans hb)
 obtain⟨ce,cf,rfl⟩:=a5.aj
 refine Op.pg 2 [(7,vI 0)] ?_
 refine At.go 3 2 [(15,.bool false)] ?_
 refine At.dK 15 6 ?_
 refine At.rp 6 2 [(17,vP u),(18,vS p)] ?_
 refine Op.c0 (some 19) (H9 _ _ _ O.sub D u t G p) O ?_
 rintro _ ch _ ci I ar ⟨f46,a9,rfl,bc,bd,rfl⟩
 replace D:=D.mono I
 replace G:=G.mono I
 replace ae:=I _ _ ae
 replace ad:=I _ _ ad
 refine Op.c0 (some 20) (H_ _ _ _ ar.sub D f46 a9 (gK t p) bc bd (by((try dsimp only)<;>((have:=N4 t p;have:=hB.1;omega))))) ar ?_
 rintro _ be _ ck bi bj ⟨co,bk,rfl,J,a3,rfl⟩;subst be;clear bi
 obtain⟨U,V,rfl⟩:=J.aj
 refine Op.pg 7 [(4,vL U ((jM (gK t p)).length) V),(5,vI 0)] ?_
 refine At.rt (.tuple #[vL U ((jM (gK t p)).length) V,vI 0]) ?_
 replace J:=J.bu (fun _ _ _ _ h=>h) (g':=g)
 exact hR bj.jZ ⟨(vL U ((jM (gK t p)).length) V),bk,b7 rfl (bB (by(rw[HL ‹_› ‹_›];done))),eV J (by(rw[HL ‹_› ‹_›];exact Og (gO _) G.sort)),rfl,rfl⟩
theorem El (B:World) (h:ax) (g:GH) (hg:bl g h) (a3:bq g) (G:Nat) (t:List ag) (ab:kj g G t) (hB:gj t):
  aE prog B 86 #[vP G] h g [] (fun b4 g' L'=>∃v0 a4 a5,b4=v0∧aJ 39 mu (dy gE a5) v0 t a4∧g'=g∧L'=[a4,a5]):=by
 refine aE.aq func86 fun R hR=>?_
 have a6:=St.init hg
 refine At.go 1 1 [] ?_
 refine At.go 2 1 [(3,vN)] ?_
 refine At.rp 4 1 [(6,vP G)] ?_
 refine Op.c0 (some 7) (Ia _ _ _ a6.sub a3 G t ab (by((try dsimp only)<;>((have:=hB.1;omega))))) a6 ?_
 rintro _ b5 _ b6 b8 ca ⟨dT,V,rfl,a7,cb,rfl⟩;subst b5;clear b8
 obtain⟨ce,a8,rfl⟩:=a7.aj
 refine Op.pg 3 [(8,vI ((t.map (·.af)).length:Int)),(9,vI 0)] ?_
 have cf:=aJ.zero 39 mu (dy gE []) none
 have ch:St h g (aV []) g ([]::[]::[V]) b6:=St.bu (L:=[V]) rfl ca
 have ci:∀(m:Nat) (out:List ag) (i:Int) (I:Option Addr) (J:Nat) (O:ay) (D:ay) (ae:ax) (hm:(t.map (·.af)).length-i.toNat<m) (h0:0≤i) (h1:i≤(t.map (·.af)).length) (ho:out=t.take i.toNat) (am:aJ 39 mu (dy gE D) (.slice I out.length J) out O) (U:St h g (aV []) g [O,D,V] ae),At (bX prog B 86 f86 R) [] 3 [(0,vP G),(3,vL I out.length J),(7,vL ce ((t.map (·.af)).length) a8),(8,vI ((t.map (·.af)).length:Int)),(9,vI i)] ae:=by
  intro m;induction m with
  |zero=>intros;omega
  |succ m ck=>
   intro out i I J O D ae hm h0 h1 ho am U
   refine At.go 4 1 [(10,.bool (decide (i<((t.map (·.af)).length:Int))))] ?_
   refine At.fd (i<((t.map (·.af)).length:Int)) 10 5 8 (fun d0=>?_) fun d1=>?_
   ·refine At.rg 3 ?_
    obtain⟨X,ar⟩:=cG (t.map (·.af)) i
    obtain⟨co,a9,d2,d3,c3,c4,aw⟩:=jX.bF (a7.toH U 2 rfl) _ ar
    cases c3
    refine Op.iq 40 9 1 16 ((t.map (·.af)).length) a8 7 9 11 co a9 i ?_
    replace aw:cut _ _ _=[vS X]:=aw
    refine Op.l1 9 11 12 (a9+i.toNat*1) (vS X) c4 ?_ (hv:=c_ aw 0 rfl)
    refine Op.pg 6 [(5,vS X)] ?_
    refine At.rp 11 4 [(13,vL I out.length J),(16,vP G)] ?_
    obtain⟨a0,bc,bd⟩:=ab
    have ab:kj g G t:=⟨a0,bc,bd⟩
    refine Op.l1 195 16 17 0 (.map (some a0)) (U.sub _ _ bc) ?_
    refine Op.px 1 [(18,vS X)] ?_
    obtain⟨d4,d5,d6,c5,c6,d7,d8,d9,c8⟩:=kZ.me bd
    rcases c8 X with ⟨c9,be⟩|⟨bi,u,ed,c9,be,da,bj,ee⟩
    ·exfalso;exact N3 ab.sort ar ‹_›
    obtain⟨ef,eh,rfl⟩:=bj.aj
    refine Op.qM (ok:=false) (d:=.string) (mt:=195) (x:=17) (ix:=18) (dst:=19) (k:=X) (m:=a0) (v:=vP bi) (z:=.pointer none) (by kernel_rfl) (by kernel_rfl) l_ (by kernel_rfl) (by kernel_rfl) (U.sub _ _ c5) c6 be ?_
    refine Op.c0 (some 20) (Ek _ _ _ U.sub a3 u _ bj bi da (by((try dsimp only)<;>((have:=gj.data hB ‹_›;omega))))) U ?_
    rintro _ db _ ej dc dd ⟨em,Y,rfl,bk,cb,rfl⟩;subst db;clear dc
    obtain⟨a76,ad,rfl⟩:=bk.aj
    refine Op.ls 21 1 39 #[vS u.af,vL a76 (u.Data.length) ad,vI u.ai,vI u.aD,vI u.Next,vI u.aL] dd fun a1 bm df=>?_
    have dg:=(((df.aa 0 rfl).aa 2 rfl).aa 2 rfl).aa 3 rfl
    have bo:St h g (aV []) g [D,Y,O,[(a1,Obj.cells #[vS u.af,vL a76 (u.Data.length) ad,vI u.ai,vI u.aD,vI u.Next,vI u.aL] 39 (0,0))],V] bm:=dg
    have dj:=St.Oj (A:=(D++Y:ay)) bo (by rw[cH,cH,←dm];exact List.sublist_append_left _ _)
    have dk:=Oi (C:=(D++Y:ay)) (bk.bu (fun _ _ _ _ h=>h)) dj (by intro p hp;simp[hp])
    have dl:=am.mono (Oh (c:=D) (c':=Y))
    have bt:St h g (aV []) g [(D++Y:ay),O,[(a1,Obj.cells #[vS u.af,vL a76 (u.Data.length) ad,vI u.ai,vI u.aD,vI u.Next,vI u.aL] 39 (0,0))],V] bm:=St.bu (L:=[D,Y,O,[(a1,Obj.cells #[vS u.af,vL a76 (u.Data.length) ad,vI u.ai,vI u.aD,vI u.Next,vI u.aL] 39 (0,0))],V]) (by simp only[cH,List.flatten_nil,dm,dW,eN,dX]) bo
    refine Op.ap 13 21 57 57 22 39 72 mu (ys:=[u]) dl bt 1 ⟨_,_,rfl,⟨_,dk,rfl⟩,Reads.nil⟩ (by(have h1:=congrArg List.length ho;have:=hB.1;simp only[e_,d_,bY,dU] at *;omega)) (fun _ _ _=>trivial) (eT.lit (m:=1) (sz:=6) (bt.ah 2 rfl) (news:=[vS u.af,vL a76 (u.Data.length) ad,vI u.ai,vI u.aD,vI u.Next,vI u.aL]) rfl rfl (by simp[Value.oneCell']) _) fun en ep er b3 dp et=>?_
    obtain⟨dq,du,rfl⟩:=b3.aj
    have dv:=(dp.aa 2 rfl).drop
    refine Op.pg 7 [(3,vL dq ((out++([u])).length) du)] ?_
    refine At.rg 2 ?_
    refine Op.cE 23 (i+1) (by omega) (by(simp only[d_] at *;have:=hB.1;omega)) ?_
    refine Op.pg 3 [(9,vI (i+1))] ?_
    have dC:=(dv.aa 0 rfl).aa 1 rfl
    exact At.ke (ck (out++([u])) (i+1) _ _ _ _ _ (by omega) (by omega) (by omega) (by exact N2 ab.sort h0 ar ‹_› ho) b3 dC)
   refine At.go 9 2 [(2,vL I out.length J)] ?_
   refine At.rt (vL I out.length J) ?_
   have dE:=((U.aa 1 rfl).aa 1 rfl).aa 2 rfl
   exact hR dE.drop ⟨(vL I out.length J),O,D,rfl,eV am (by(rw[ho,fC];simp only[d_] at *;omega)),rfl,rfl⟩
 exact At.ke (ci _ ([]:List ag) 0 _ _ _ _ _ (bM _) (by omega) (by omega) (by rfl) cf ch)
theorem OH (B:World) (h:ax) (g:GH) (hg:bl g h) (a7:bq g) (X:Value) (l:List Int) (Y:av g 3 (fh .i64) X l) (u:Int) (hlen:l.length≤1000000000):
  aE prog B 202 #[X,vI u] h g [] (fun ae g' L'=>ae=.int .i64 (fm (fun z=>decide (u=z)) l)∧g'=g∧L'=[]):=by
 obtain⟨ab,J,rfl⟩:=Y.aj
 refine aE.aq func202 fun R hR=>?_
 have am:=St.init hg
 refine At.go 1 1 [] ?_
 refine At.go 2 3 [(7,vI (l.length:Int)),(8,vI 0)] ?_
 have ar:∀(m:Nat) (i:Int) (O:ax) (hm:l.length-i.toNat<m) (h0:0≤i) (h1:i≤l.length) (G:findAt (fun z=>decide (u=z)) l i) (D:St h g (aV []) g [] O),At (bX prog B 202 f202 R) [] 2 [(0,vL ab l.length J),(1,vI u),(7,vI (l.length:Int)),(8,vI i)] O:=by
  intro m;induction m with
  |zero=>intros;omega
  |succ m aw=>
   intro i O hm h0 h1 G D
   refine At.go 3 1 [(9,.bool (decide (i<(l.length:Int))))] ?_
   refine At.fd (i<(l.length:Int)) 9 4 10 (fun a8=>?_) fun a0=>?_
   ·refine At.go 5 2 [(5,vI i)] ?_
    refine At.rp 6 3 [(11,vI u),(12,vL ab l.length J),(13,vI i)] ?_
    obtain⟨I,U⟩:=cG l i
    obtain⟨a1,ad,a9,bc,a3,a4,V⟩:=av.bF Y _ U
    cases a3
    refine Op.iq 117 3 1 8 l.length J 12 13 14 a1 ad i ?_
    replace V:cut _ _ _=[vI I]:=V
    refine Op.l1 3 14 15 (ad+i.toNat*1) (vI I) (D.sub _ _ a4) ?_ (hv:=c_ V 0 rfl)
    refine Op.pg 6 [(16,.bool (u==I))] ?_
    refine At.fd (u=I) 16 7 9 (fun a5=>?_) fun a6=>?_
    ·exact At.gr 8 2 4 (vI i) (hR D ⟨(bB (by exact wB G U (eu a5))),rfl,rfl⟩)
    refine At.rg 2 ?_
    refine Op.vq 18 (i+1) ?_
    exact Op.pg 2 [(8,vI (i+1))] (At.ke (aw (i+1) _ (by omega) (by omega) (by omega) (by exact xP G h0 U (gb a6)) D))
   exact At.gr 11 1 4 (vI (-1)) (hR D ⟨(bB (by exact wC G a0)),rfl,rfl⟩)
 exact At.ke (ar _ 0 _ (bM _) (by omega) (by omega) (by exact xO _ _) am)
theorem Em (B:World) (h:ax) (g:GH) (hg:bl g h) (J:bq g) (D:Value) (l:List Int) (G:av g 3 (fh .i64) D l) (u:Int) (hlen:l.length≤1000000000):
  aE prog B 164 #[D,vI u] h g [] (fun O g' L'=>O=.bool (l.any (fun z=>decide (u=z)))∧g'=g∧L'=[]):=by
 obtain⟨U,V,rfl⟩:=G.aj
 refine aE.aq func164 fun R hR=>?_
 have I:=St.init hg
 refine At.go 1 1 [] ?_
 refine At.rp 5 2 [(5,vL U l.length V),(6,vI u)] ?_
 refine Op.c1 7 (OH _ _ _ I.sub J _ _ G u (by(try dsimp only)<;>omega)) I fun Y X=>?_
 exact Op.pr 2 4 (.bool (decide ((fm (fun z=>decide (u=z)) l)≥0))) (hR X ⟨(aS (by exact xN _ _)),rfl,rfl⟩)
theorem OI (B:World) (h:ax) (g:GH) (hg:bl g h) (U:bq g) (ab:Nat) (t:List ag) (D:kj g ab t) (c4:Value) (ow:List Int) (Y:av g 3 (fh .i64) c4 ow) (hB:gj t) (ff:ow.length≤1000000000):
  aE prog B 118 #[vP ab,c4] h g [] (fun d4 g' L'=>∃v0 c5,d4=v0∧aJ 9 eU g' v0 (gw t ow) c5∧g'=g∧L'=[c5]):=by
 obtain⟨b3,b4,rfl⟩:=Y.aj
 refine aE.aq func118 fun R hR=>?_
 have d5:=St.init hg
 refine At.rg 3 ?_
 refine Op.bx 2 129 0 #[vP ab] d5 fun bi f5 d6=>?_
 refine Op.bx 3 117 1 #[vL b3 ow.length b4] d6 fun bj f6 d7=>?_
 refine Op.pg 1 [(4,vN)] ?_
 refine At.rg 1 ?_
 refine Op.al 5 40 #[vN] d7 fun G f7 b5=>?_
 refine Op.gt 2 ?_
 refine At.rg 3 ?_
 refine Op.l1 129 2 8 0 (vP ab) (b5.ah 2 rfl) ?_
 refine Op.c0 (some 9) (Ia _ _ _ b5.sub U ab t D (by((try dsimp only)<;>((have:=hB.1;omega))))) b5 ?_
 rintro _ d8 _ f8 d9 ed ⟨v31,f9,rfl,c6,gc,rfl⟩;subst d8;clear d9
 obtain⟨ge,gg,rfl⟩:=c6.aj
 obtain⟨gk,c8,b6,ee⟩:=aJ.freeze c6 (ed.aa 0 rfl)
 replace U:=U.mono b6
 replace Y:=Y.mono b6
 replace D:=D.mono b6
 refine Op.c0 (some 10) (OC _ _ _ c8.sub U _ _ ee (by((try dsimp only)<;>((simp only[d_];have:=hB.1;omega))))) c8 ?_
 rintro _ c9 _ gn b8 ef ⟨f44,bk,rfl,eh,a7,rfl⟩
 replace U:=U.mono b8
 replace Y:=Y.mono b8
 replace D:=D.mono b8
 refine Op.gt 3 ?_
 refine At.kp [(2,vP bi),(3,vP bj),(4,vN),(5,vP G),(10,.func (.func f44) #[] bk)] ?_
 obtain⟨da,a8⟩:=St.freeze (ef.aa 2 rfl)
 have ad:=iN (g:=c9) bi (.cells #[vP ab] 129 (0,0))
 generalize ej:dy c9 _=db at da a8 ad;clear ej
 replace U:=U.mono a8
 replace Y:=Y.mono a8
 replace a7:=a7.mono a8
 replace D:=D.mono a8
 obtain⟨dc,a1⟩:=St.freeze (da.aa 1 rfl)
 have a3:=iN (g:=db) bj (.cells #[vL b3 ow.length b4] 117 (0,0))
 generalize em:dy db _=bm at dc a1 a3;clear em
 replace U:=U.mono a1
 replace Y:=Y.mono a1
 replace a7:=a7.mono a1
 replace D:=D.mono a1
 replace ad:=a1 _ _ ad
 have en:=aJ.zero 9 eU bm none
 have ep:=dc.nl
 refine At.rangeFunc (x:=10) (f:=f44) (cp:=bk) (by kernel_rfl) rfl (by kernel_rfl) (by kernel_rfl) eh ep fun u J O dd er et=>?_
 have ex:=(((et.aa 1 rfl).aa 2 rfl).aa 3 rfl).aa 3 rfl
 have eA:St h g (aV []) bm [[(J,.loop (dR (eC 118 O (pt (dz f118) 3) u) none))],[(G,Obj.cells #[vL none (([]:List an).length) 0] 40 (0,0))],[],[(u,.deferred (some []))]] dd:=ex
 have ca:St h g (aV []) bm [(([(J,.loop (dR (eC 118 O (pt (dz f118) 3) u) none))]:ay)++([(G,Obj.cells #[vL none (([]:List an).length) 0] 40 (0,0))]:ay)++([]:ay):ay),[(u,.deferred (some []))]] dd:=St.bu (L:=[[(J,.loop (dR (eC 118 O (pt (dz f118) 3) u) none))],[(G,Obj.cells #[vL none (([]:List an).length) 0] 40 (0,0))],[],[(u,.deferred (some []))]]) (by simp only[cH,List.flatten_nil,dm,dW,eN,dX]) eA
 obtain⟨df,a9⟩:∃I:List aQ→GH→ay→Prop,I=(fun xs g2 c2=>∃(out:List aQ) (dg:Option Addr) (dj:Nat) (dk:ay),c2=(([(J,.loop (dR (eC 118 O (pt (dz f118) 3) u) none))]:ay)++([(G,Obj.cells #[.slice dg out.length dj] 40 (0,0))]:ay)++(dk:ay):ay)∧aJ 9 eU g2 (.slice dg out.length dj) out dk∧out=xs.filter fun q=>match cc t q with|some n=>ow.any (fun o=>decide (n.aD=o))|none=>false):=⟨_,rfl⟩
 have eB:uE prog B J Ee (fun eE=>eE=(t.map (·.af)).reverse) (fun _=>true) df bm:=by
  intro bo ar eI V gs g1 bc g3 g4 eJ eK dl eL
  rw[a9] at dl
  obtain⟨X,ae,am,aw,rfl,dp,cb⟩:=dl
  obtain⟨eQ,rfl⟩:=eJ
  obtain⟨_,rfl,bt⟩:=eK
  have dq:St bo ar (aV [(([(J,.loop (dR (eC 118 O (pt (dz f118) 3) u) none))]:ay)++([(G,Obj.cells #[vL ae X.length am] 40 (0,0))]:ay)++(aw:ay):ay)]) ar [[(J,.loop (dR (eC 118 O (pt (dz f118) 3) u) none))],[(G,Obj.cells #[vL ae X.length am] 40 (0,0))],aw] bo:=St.bu (by simp only[cH,List.flatten_nil,dm,dW,eN,dX]) eL
  replace U:=U.mono bc
  replace Y:=Y.mono bc
  replace D:=D.mono bc
  replace ad:=bc _ _ ad
  replace a3:=bc _ _ a3
  refine uD.uB (n:=f118.ntmps) (e0:=[(2,vP bi),(3,vP bj),(4,vN),(5,vP G),(10,.func (.func f44) #[] bk)]) (e:=[(12,vS V),(11,vI eQ),(2,vP bi),(3,vP bj),(4,vN),(5,vP G),(10,.func (.func f44) #[] bk)]) (dq.ah 0 rfl) er (by kernel_rfl) (by kernel_rfl) (by kernel_rfl) (by kernel_rfl) fun g5 du=>?_
  refine At.go 1 1 [(7,vS V)] ?_
  refine At.beginRound rfl (by kernel_rfl) dq 0 rfl 2 (by kernel_rfl) fun g6 a0=>?_
  refine At.dw (fun _=>False) [(5,true),(0,true),(1,false),(2,true),(3,true),(4,false),(6,false),(7,true),(8,true),(9,false),(10,false)] ?_
  refine Op.px 1 [(18,vS V)] ?_
  refine Op.lf 117 3 0 13 1 (vL b3 ow.length b4) (fun h=>h) (a0.sub _ _ a3) ?_
  refine Op.l1 129 2 14 0 (vP ab) (a0.sub _ _ ad) ?_
  refine Op.px 2 [(16,vP ab)] ?_
  obtain⟨ce,dv,dC⟩:=D
  have D:kj ar ab t:=⟨ce,dv,dC⟩
  refine Op.l1 195 16 17 0 (.map (some ce)) (a0.sub _ _ dv) ?_
  obtain⟨g7,g8,g9,e1,e2,he,hf,hh,e3⟩:=kZ.me dC
  rcases e3 V with ⟨e4,dE⟩|⟨dT,cf,v109,e4,dE,e5,e6,hj⟩
  ·exfalso;exact N6 D.sort bt ‹_›
  obtain⟨hl,hm,rfl⟩:=e6.aj
  refine Op.qM (ok:=false) (d:=.string) (mt:=195) (x:=17) (ix:=18) (dst:=19) (k:=V) (m:=ce) (v:=vP dT) (z:=.pointer none) (by kernel_rfl) (by kernel_rfl) l_ (by kernel_rfl) (by kernel_rfl) (a0.sub _ _ e1) e2 dE ?_
  refine Op.px 2 [(21,vQ dT 3)] ?_
  refine Op.l1 3 21 22 3 (vI cf.aD) (a0.sub _ _ e5) ?_
  refine Op.c1 23 (Em _ _ _ a0.sub U _ _ Y cf.aD (by(try dsimp only)<;>omega)) a0 fun hn ch=>?_
  refine Op.gt 3 ?_
  refine At.di (ow.any (fun z=>decide (cf.aD=z))) 23 4 5 (fun ho=>?_) fun hp=>?_
  ·refine At.rg 5 ?_
   refine Op.l1 40 5 24 0 (vL ae X.length am) (ch.ah 1 rfl) ?_
   refine Op.px 1 [(25,vS V)] ?_
   refine Op.ls 26 1 9 #[vS V] ch fun hq hr d0=>?_
   refine Op.ap 24 26 40 40 27 9 16 eU (ys:=[V]) dp d0 3 (⟨_,_,rfl,rfl,Reads.nil⟩) (by(have h1:=congrArg List.length cb;have h2:=bt.length_le;have:=hB.1;simp only[GV,d_,cA,bY,dU] at *;have h3:=l7 (fun q=>match cc t q with|some n=>ow.any (fun o=>decide (n.aD=o))|none=>false) eI;omega)) (fun _ _ _=>trivial) (eT.lit (m:=1) (sz:=1) (d0.ah 0 rfl) (news:=[vS V]) rfl rfl (by simp[Value.oneCell']) _) fun hs ci hu d1 e7 hw=>?_
   obtain⟨bd,be,rfl⟩:=d1.aj
   have e8:=(e7.aa 0 rfl).drop
   refine Op.s1 40 5 27 0 (vL bd ((X++([V])).length) be) 1 #[vL bd ((X++([V])).length) be] e8 (fun _=>trivial) fun hy e9=>?_
   refine Op.gt 5 ?_
   refine At.zG (j:=none) (by kernel_rfl) e9 0 rfl fun fa fg=>?_
   have fi:St bo ar (aV [(([(J,.loop (dR (eC 118 O (pt (dz f118) 3) u) none))]:ay)++([(G,Obj.cells #[vL ae X.length am] 40 (0,0))]:ay)++(aw:ay):ay)]) ar [(([(J,.loop (dR (eC 118 O (pt (dz f118) 3) u) none))]:ay)++([(G,Obj.cells #[vL bd ((X++([V])).length) be] 40 (0,0))]:ay)++(ci:ay):ay)] fa:=St.bu (L:=[[(J,.loop (dR (eC 118 O (pt (dz f118) 3) u) none))],[(G,Obj.cells #[vL bd ((X++([V])).length) be] 40 (0,0))],ci]) (by simp only[cH,List.flatten_nil,dm,dW,eN,dX]) fg
   refine du _ _ _ _ fi ⟨_,by rfl,rfl,?_⟩
   rw[a9];exact⟨(X++([V])),bd,be,ci,rfl,d1,(by(have h1:=HN D.sort bt ‹_› cb;rw[aO ‹_›] at h1;exact h1))⟩
  refine At.zG (j:=none) (by kernel_rfl) ch 0 rfl fun fj fl=>?_
  have fp:St bo ar (aV [(([(J,.loop (dR (eC 118 O (pt (dz f118) 3) u) none))]:ay)++([(G,Obj.cells #[vL ae X.length am] 40 (0,0))]:ay)++(aw:ay):ay)]) ar [(([(J,.loop (dR (eC 118 O (pt (dz f118) 3) u) none))]:ay)++([(G,Obj.cells #[vL ae X.length am] 40 (0,0))]:ay)++(aw:ay):ay)] fj:=St.bu (L:=[[(J,.loop (dR (eC 118 O (pt (dz f118) 3) u) none))],[(G,Obj.cells #[vL ae X.length am] 40 (0,0))],aw]) (by simp only[cH,List.flatten_nil,dm,dW,eN,dX]) fl
  refine du _ _ _ _ fp ⟨_,by rfl,rfl,?_⟩
  rw[a9];exact⟨X,ae,am,aw,rfl,dp,(by(have h1:=HN D.sort bt ‹_› cb;rw[aC (kH.1 ‹_›)] at h1;exact h1))⟩
 refine wj.call (Lc:=[(([(J,.loop (dR (eC 118 O (pt (dz f118) 3) u) none))]:ay)++([(G,Obj.cells #[vL none (([]:List an).length) 0] 40 (0,0))]:ay)++([]:ay):ay)]) (L:=[[(u,.deferred (some []))]]) ca (a7 B _ _ _ df (fun _=>true) _ (aM.refl _) ca.sub U eB rfl (by rw[a9];exact⟨([]:List an),none,0,[],rfl,en,(by rfl)⟩) (St.part (Lc:=[(([(J,.loop (dR (eC 118 O (pt (dz f118) 3) u) none))]:ay)++([(G,Obj.cells #[vL none (([]:List an).length) 0] 40 (0,0))]:ay)++([]:ay):ay)]) (L:=[[(u,.deferred (some []))]]) ca)) ?_
 rintro _ fr _ ft ck fv ⟨hz,hA,hC,rfl,fw,hD,fx,hE,rfl,d2⟩
 replace D:=D.mono ck
 replace ad:=ck _ _ ad
 replace a3:=ck _ _ a3
 have hx:=fx rfl;subst hx
 rw[a9] at d2
 obtain⟨a4,a5,a6,co,rfl,c3,f0⟩:=d2
 have f1:St h g (aV []) fr [[(J,.loop (dR (eC 118 O (pt (dz f118) 3) u) none))],[(G,Obj.cells #[vL a5 a4.length a6] 40 (0,0))],co,[(u,.deferred (some []))]] ft:=St.bu (by simp only[cH,List.flatten_nil,dm,dW,eN,dX]) fv
 refine jz.zH (j:=none) f1 0 rfl fun hF f2=>?_
 have d3:=f2.drop
 refine jz.bF 4 (by kernel_rfl) ?_
 refine At.rg 2 ?_
 refine Op.l1 40 5 28 0 (vL a5 a4.length a6) (d3.ah 0 rfl) ?_
 refine Op.pg 5 [(4,vL a5 a4.length a6)] ?_
 have f3:=((d3.aa 1 rfl).aa 1 rfl).aa 2 rfl
 refine At.Bw (jz.Dy (L:=[[(G,Obj.cells #[vL a5 a4.length a6] 40 (0,0))],co]) (f:=f118) (v:=vL a5 a4.length a6) [u] (by kernel_rfl) (by kernel_rfl) f3 ?_)
 intro hG f4
 replace c3:=c3.bu (fun _ _ _ _ h=>h) (g':=g)
 exact hR f4.drop.jZ ⟨(vL a5 a4.length a6),co,rfl,eV c3 (by rw[f0,fw];exact N5 D.sort),rfl,rfl⟩
end Go.Proofs.YtceekbnihfckeaaGreatDoor.Sw
