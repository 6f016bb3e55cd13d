/- Lemmas for laws of this seat. -/
import Derived.Test.YtpacclkciilmpaaGreatDoorGBI
import Derived.MapKept
set_option maxHeartbeats 4000000
namespace Go.Proofs.YtpacclkciilmpaaGreatDoor.Sw
open Go.Proofs.Tryz
set_option linter.unusedVariables false
set_option linter.unusedSimpArgs false
set_option linter.deprecated false
set_option linter.unusedSectionVars false
open Go Go.MapKept
set_option linter.defProp false
def pJ:=@List.pairwise_map
def s5:=@decide_false
def wM:=@Prod.ext
def BB:=@List.any_eq_false
def oG:=@List.any_eq_true
def FI:=@List.getElem?_modify
def BC:=@List.getElem?_inj
def oH:=@List.filter_eq_self
def ju:=@List.filter_cons
def ry:=@decide_true
def ng:=@Bool.not_true
def FJ:=@List.eraseIdx_cons_zero
def FK:=@List.eraseIdx_cons_succ
def gj:=@List.Perm.refl
def wN:=@Array.toList_filter
def iH:=@List.mem_filter
def jP:=@decide_eq_false_iff_not
def BD:=@Array.filter_eq_self
def FL:=@Array.filter_eq_empty_iff
def yR:=@Array.size_pos_iff
def BE:=@Array.size_map
def yS:=@Array.getElem?_eq_getElem
def FM:=@List.Perm.append_left
def FN:=@Array.find?_eq_none
def FO:=@Array.mem_of_find?_eq_some
def nh:=@List.mem_iff_getElem?
def fT:=@Option.some.inj
def iR:=@of_decide_eq_true
def kF:=@of_decide_eq_false
def eW:=@decide_eq_true
def gR:=@List.all_eq_true
def oI:=@Bool.eq_iff_iff
def rz:=@List.isPrefixOf_iff_prefix
def wO:=@Bool.not_eq_true
def lP:=@Bool.true_and
def fU:=@decide_eq_false
def wP:=@List.any_cons
def qA:=@Bool.false_or
def cB:=@decide_eq_true_eq
def g_:=@true_or
def hU:=@or_true
def rB:=@List.prefix_refl
def BF:=@List.prefix_append
def BG:=@Nat.pow_pos
def FP:=@List.dropLast_subset
def FQ:=@Bool.or_eq_false_iff
def s6:=@Bool.and_eq_false_iff
def qB:=@beq_eq_false_iff_ne
def jE:=@List.pairwise_cons
def s7:=@List.Pairwise.sublist
def oJ:=@List.filter_sublist
def kG:=@List.length_filter_le
def nK:=@List.filter_append
def qC:=@List.filter_map
def wQ:=@List.filter_congr
def yT:=@List.Perm.eq_of_pairwise
def uE:=@List.pairwise_mergeSort
def uF:=@List.mergeSort_perm
def BH:=@Array.ext_getElem?
def FR:=@Array.getElem?_mapIdx
def wR:=@List.getElem?_append
def yU:=@List.getElem?_take_of_lt
def s9:=@List.getElem?_drop
def FT:=@List.getElem?_append_left
def yV:=@Nat.zero_mul
def s_:=@List.Nodup.sublist
def bK:=@Nat.lt_succ_self
def yW:=@Nat.one_mul
def yX:=@List.Perm.length_eq
def uG:=@bne_iff_ne
def FU:=@List.length_reverse
structure kH {κ:Type} (d:TypeDesc) (enc:κ→Value):Prop where
  ok:∀k,IsKey d (enc k)
  inj:∀a b,enc a=enc b→a=b
def encS (p:aj):Value:=.string (a_ p)
def encI (n:Int):Value:=.int .i64 n
theorem kI:kH .string encS:=⟨fun _=>trivial,fun a b h=>Mt (by simpa[encS] using h)⟩
theorem iu:kH (.int .i64) encI:=⟨fun _=>rfl,fun a b h=>by simpa[encI] using h⟩
def cC {κ:Type} (enc:κ→Value) (es:Array MapEntry) (aP:Nat) (ks:List (κ×Value)):Prop:=
  es.toList.map (fun e=>(e.key,e.val))=ks.map (fun p=>(enc p.1,p.2))∧Stamped es aP
def fH {κ:Type} [DecidableEq κ] (ks:List (κ×Value)) (k:κ):Option Value:=(ks.find? fun p=>decide (p.1=k)).map (·.2)
def h_ {κ:Type} [DecidableEq κ] (ks:List (κ×Value)) (k:κ) (v:Value):List (κ×Value):=
  if ks.any (fun p=>decide (p.1=k)) then ks.map (fun p=>if p.1=k then (p.1,v) else p) else ks++[(k,v)]
def jF {κ:Type} [DecidableEq κ] (ks:List (κ×Value)) (k:κ):List (κ×Value):=ks.filter fun p=>!decide (p.1=k)
theorem cC.empty {κ:Type} (enc:κ→Value) (aP:Nat):cC enc #[] aP ([]:List (κ×Value)):=⟨rfl,stamped_empty aP⟩
section
variable {κ:Type} [DecidableEq κ] {d:TypeDesc} {enc:κ→Value} {es:Array MapEntry} {aP:Nat} {ks:List (κ×Value)}
theorem cC.get (hR:cC enc es aP ks) (i:Nat):(es[i]?).map (fun e=>(e.key,e.val))=(ks[i]?).map fun p=>(enc p.1,p.2):=by
  have:=congrArg (fun l=>l[i]?) hR.1
  simpa using this
theorem cC.oC (hK:kH d enc) (hR:cC enc es aP ks):∀x∈es.toList,IsKey d x.key:=by
  intro x hx
  have:(x.key,x.val)∈es.toList.map (fun e=>(e.key,e.val)):=cF.2 ⟨x,hx,rfl⟩
  rw[hR.1] at this
  obtain⟨p,hp,e⟩:=cF.1 this
  simp only[iB] at e
  rw[←e.1]
  exact hK.ok _
theorem cC.nodup (hK:kH d enc) (hR:cC enc es aP ks):(ks.map (·.1)).Nodup:=by
  have h:=hR.2.2.2
  have e:es.toList.map (·.key)=ks.map (fun p=>enc p.1):=by
    have:=congrArg (fun l=>l.map Prod.fst) hR.1
    simpa[jr,Function.comp_def] using this
  rw[e] at h
  rw[List.Nodup,pJ] at h ⊢
  exact h.imp fun hne he=>hne (by rw[he])
theorem cC.size (hR:cC enc es aP ks):es.size=ks.length:=by
  have:=congrArg List.length hR.1
  simpa using this
theorem BI {k:κ} (h:∀p∈ks,p.1≠k):fH ks k=none:=by
  unfold fH
  rw[List.find?_eq_none.2 (fun p hp=>by simpa using h p hp)]
  rfl
theorem BJ (hn:(ks.map (·.1)).Nodup) {j:Nat} {p:κ×Value} (hp:ks[j]?=some p):fH ks p.1=some p.2:=by
  induction ks generalizing j with
  |nil=>simp at hp
  |cons q ks ih=>
   rw[e_,pH] at hn
   unfold fH
   rw[wH]
   cases j with
   |zero=>simp at hp;subst hp;simp
   |succ j=>
    have u:ks[j]?=some p:=by simpa using hp
    have hne:q.1≠p.1:=fun e=>hn.1 (e▸cF.2 ⟨p,cL u,rfl⟩)
    simp only[hne,s5]
    exact ih hn.2 u
theorem cC.find (hK:kH d enc) (hR:cC enc es aP ks) (k:κ):
    (Instr.findNow d (enc k) es.toList 0=some none∧(∀x∈es.toList,x.key≠enc k)∧(∀p∈ks,p.1≠k))∨
    ∃j e,Instr.findNow d (enc k) es.toList 0=some (some (j,e.val))∧es[j]?=some e∧e.key=enc k∧ks[j]?=some (k,e.val):=by
  rcases findNow_spec (hK.ok k) es.toList 0 (hR.oC hK) with ⟨h1,h2⟩|⟨j,e,h1,h2,h3⟩
  · refine .inl ⟨h1,h2,fun p hp e=>?_⟩
    have:(enc p.1,p.2)∈ks.map (fun p=>(enc p.1,p.2)):=cF.2 ⟨p,hp,rfl⟩
    rw[←hR.1] at this
    obtain⟨x,hx,ex⟩:=cF.1 this
    simp only[iB] at ex
    exact h2 x hx (by rw[ex.1,e])
  · have hj:es[j]?=some e:=by simpa using h2
    have:=hR.get j
    rw[hj] at this
    cases hk:ks[j]? with
    |none=>rw[hk] at this;cases this
    |some p=>
     rw[hk] at this
     simp only[j3,eN,iB] at this
     have:p=(k,e.val):=wM (hK.inj _ _ (this.1.symm.trans h3)) this.2.symm
     exact .inr ⟨j,e,by simpa using h1,hj,h3,by rw[hk,this]⟩
theorem cC.gy (hK:kH d enc) (hR:cC enc es aP ks) (k:κ):
    (Instr.findNow d (enc k) es.toList 0=some none∧fH ks k=none)∨∃j v,Instr.findNow d (enc k) es.toList 0=some (some (j,v))∧fH ks k=some v:=by
  rcases hR.find hK k with ⟨h1,_,h2⟩|⟨j,e,h1,_,_,h2⟩
  · exact .inl ⟨h1,BI h2⟩
  · exact .inr ⟨j,e.val,h1,BJ (hR.nodup hK) h2⟩
theorem cC.Nk (hR:cC enc es aP ks) {k:κ} (h:∀x∈es.toList,x.key≠enc k) (h2:∀p∈ks,p.1≠k) (v:Value):cC enc (es.push {key:=enc k,val:=v,born:=aP}) (aP+1) (h_ ks k v):=by
  have:ks.any (fun p=>decide (p.1=k))=false:=by
    rw[BB]
    exact fun p hp=>by simpa using h2 p hp
  unfold h_
  rw[aB (by simp[this])]
  refine⟨?_,stamped_push hR.2 h⟩
  rw[Array.toList_push,gp,gp,hR.1]
  rfl
theorem Nl (hn:(ks.map (·.1)).Nodup) {j:Nat} {k:κ} {u v:Value} (hp:ks[j]?=some (k,u)):h_ ks k v=ks.modify j fun p=>(p.1,v):=by
  have hm:=cL hp
  unfold h_
  rw[aL (oG.2 ⟨_,hm,by simp⟩)]
  apply yE
  intro i
  rw[jM,FI]
  cases hi:ks[i]? with
  |none=>by_cases hj:j=i<;>simp[hj]
  |some p=>
   by_cases hj:j=i
   · subst hj
     rw[hp] at hi
     cases hi
     simp
   · have:p.1≠k:=fun e=>by
       have hlt:=(dL.1 hi).1
       have D:=(dL.1 hp).1
       have e1:(ks.map (·.1))[i]?=some k:=by rw[jM,hi];simp[e]
       have e2:(ks.map (·.1))[j]?=some k:=by rw[jM,hp];rfl
       exact hj ((BC (by simpa using D) hn).1 (e2.trans e1.symm))
     simp[this,hj]
theorem cC.Nn (hK:kH d enc) (hR:cC enc es aP ks) {j:Nat} {e:MapEntry} {k:κ} (he:es[j]?=some e) (hk:e.key=enc k) (hks:ks[j]?=some (k,e.val)) (v:Value):
    cC enc (es.modify j fun e=>{e with key:=enc k,val:=v}) aP (h_ ks k v):=by
  rw[Nl (hR.nodup hK) hks]
  refine⟨?_,stamped_modify hR.2 _ _ (fun _ _=>rfl) fun e' _ u=>by rw[he] at u;cases u;exact hk.symm⟩
  apply yE
  intro i
  have:=hR.get i
  rw[jM,jM,FI,q5,yx]
  by_cases hj:j=i
  · subst hj
    simp[he,hks]
  · simp[hj] at this ⊢
    exact this
theorem BK {k:κ} (h:∀p∈ks,p.1≠k):jF ks k=ks:=by
  unfold jF
  rw[oH.2]
  intro p hp
  simpa using h p hp
theorem No (hn:(ks.map (·.1)).Nodup) {j:Nat} {k:κ} {u:Value} (hp:ks[j]?=some (k,u)):jF ks k=ks.eraseIdx j:=by
  induction ks generalizing j with
  |nil=>simp at hp
  |cons q ks ih=>
   rw[e_,pH] at hn
   unfold jF
   cases j with
   |zero=>
    simp at hp
    subst hp
    simp only[ju,ry,ng,fZ,de,FJ]
    exact BK fun p hp e=>hn.1 (e▸cF.2 ⟨p,hp,rfl⟩)
   |succ j=>
    have D:ks[j]?=some (k,u):=by simpa using hp
    have hne:q.1≠k:=fun e=>hn.1 (e▸cF.2 ⟨_,cL D,rfl⟩)
    simp only[ju,hne,s5,qw,iA,FK]
    exact congrArg _ (ih hn.2 D)
theorem BL {α u:Type} (f:α→u):∀(l:List α) (j:Nat),(l.eraseIdx j).map f=(l.map f).eraseIdx j
  |[],_=>by simp
  |x::l,0=>by simp
  |x::l,j+1=>by simp[BL f l j]
theorem cC.FV (hK:kH d enc) (hR:cC enc es aP ks) {j:Nat} {e:MapEntry} {k:κ} (he:es[j]?=some e) (hks:ks[j]?=some (k,e.val)):cC enc (es.eraseIdxIfInBounds j) aP (jF ks k):=by
  rw[No (hR.nodup hK) hks]
  refine⟨?_,stamped_erase hR.2 _⟩
  have hlt:=(lK.1 he).1
  unfold Array.eraseIdxIfInBounds
  rw[dif_pos hlt,Array.toList_eraseIdx,BL,hR.1,←BL]
end
def lu (P:Program) (mt:TypeId):Option (TypeDesc×Value):=match P.underlying mt with
  |some (.map kt et)=>match P.underlying kt,(P.info? et).bind (·.zero) with
   |some d,some z=>some (d,z)
   |_,_=>none
  |_=>none
theorem uH {P:Program} {mt:TypeId} {d:TypeDesc} {z:Value} (h:lu P mt=some (d,z)):∃kt et u,P.underlying mt=some (.map kt et)∧P.underlying kt=some d∧P.info? et=some u∧u.zero=some z:=by
  unfold lu at h
  split at h
  · rename_i kt et hu
    split at h
    · rename_i D G hd hz
      simp only[eN,iB] at h
      obtain⟨rfl,rfl⟩:=h
      obtain⟨u,hi,hz⟩:=E8.1 hz
      exact⟨kt,et,u,hu,hd,hi,hz⟩
    · cases h
  · cases h
section
variable {P:Program} {w:World} {κ:Type} [DecidableEq κ] {d:TypeDesc} {enc:κ→Value} {es:Array MapEntry} {aP:Nat} {ks:List (κ×Value)} {mt:TypeId} {z:Value} {m:Nat}
theorem Np {et:TypeId} {u:TypeInfo} (hi:P.info? et=some u) (hz:u.zero=some z):(zeroValue et).run P w=.ok z w:=by
  simp only[zeroValue,typeInfo,Sem.run_bind,run_program,Result.andThen_ok,hi,Sem.run_pure]
  rw[hz]
  rfl
theorem Nq (hT:lu P mt=some (d,z)) (hK:kH d enc) (hR:cC enc es aP ks) (hb:w.heap[m]?=some (.map es aP)) (k:κ) (ok:Bool):
    (Instr.lookup mt (.map (some m)) (enc k) ok).run P w=.ok (if ok then .tuple #[(fH ks k).getD z,.bool (fH ks k).isSome] else (fH ks k).getD z) w:=by
  obtain⟨kt,et,u,hu,hd,hi,hz⟩:=uH hT
  unfold Instr.lookup
  rcases hR.gy hK k with ⟨h1,h2⟩|⟨j,v,h1,h2⟩
  · simp only[Sem.run_bind,run_underlying hu,MapKept.run_getObj_map hb,run_checkKey hd (hK.ok k),run_findKey hd h1,Np hi hz,Result.andThen_ok,Sem.run_pure,h2]
    simp
  · simp only[Sem.run_bind,run_underlying hu,MapKept.run_getObj_map hb,run_checkKey hd (hK.ok k),run_findKey hd h1,Result.andThen_ok,Sem.run_pure,h2]
    simp
theorem Nr (hT:lu P mt=some (d,z)) (hK:kH d enc) (hR:cC enc es aP ks) (hb:w.heap[m]?=some (.map es aP)) (k:κ) (v:Value):
    ∃u D,(Instr.mapUpdate mt (.map (some m)) (enc k) v).run P w=.ok () {w with heap:=w.heap.setIfInBounds m (.map u D)}∧cC enc u D (h_ ks k v):=by
  obtain⟨kt,et,G,hu,hd,hi,hz⟩:=uH hT
  unfold Instr.mapUpdate
  rcases hR.find hK k with ⟨h1,h2,h3⟩|⟨j,e,h1,h2,h3,h4⟩
  · refine⟨_,_,?_,hR.Nk h2 h3 v⟩
    simp only[Sem.run_bind,run_underlying hu,MapKept.run_getObj_map hb,run_checkKey hd (hK.ok k),run_findKey hd h1,Result.andThen_ok,MapKept.run_setObj_map _ hb]
  · refine⟨_,_,?_,hR.Nn hK h2 h3 h4 v⟩
    simp only[Sem.run_bind,run_underlying hu,MapKept.run_getObj_map hb,run_checkKey hd (hK.ok k),run_findKey hd h1,h2,j3,Option.getD_some,h3,run_keyThatStays (hK.ok k),Result.andThen_ok,MapKept.run_setObj_map _ hb]
theorem Ns {wS:TypeId} {ty:TypeId} (hT:lu P mt=some (d,z)) (hK:kH d enc) (hR:cC enc es aP ks) (hb:w.heap[m]?=some (.map es aP)) (k:κ):
    ∃u,(Builtin.delete_ #[mt,wS] ty #[.map (some m),enc k]).run P w=.ok dr {w with heap:=w.heap.setIfInBounds m (.map u aP)}∧cC enc u aP (jF ks k):=by
  obtain⟨kt,et,D,hu,hd,hi,hz⟩:=uH hT
  rcases hR.find hK k with ⟨h1,h2,h3⟩|⟨j,e,h1,h2,h3,h4⟩
  · refine⟨es,?_,by rw[BK h3];exact hR⟩
    simp[Builtin.delete_,run_underlying hu,MapKept.run_getObj_map hb,run_checkKey hd (hK.ok k),run_findKey hd h1,MapKept.run_setObj_map _ hb,Result.andThen]
  · refine⟨_,?_,hR.FV hK h2 h4⟩
    simp[Builtin.delete_,run_underlying hu,MapKept.run_getObj_map hb,run_checkKey hd (hK.ok k),run_findKey hd h1,MapKept.run_setObj_map _ hb,Result.andThen]
end
def lz {κ:Type} (enc:κ→Value) (es:Array MapEntry) (aP m:Nat) (vs rs:List (κ×Value)) (o:Obj):Prop:=
  ∃u rest:List MapEntry,o=.mapIter (some m) aP (u.map (·.born)).toArray aP∧(u++rest).Perm es.toList∧u.map (fun e=>(e.key,e.val))=vs.map (fun p=>(enc p.1,p.2))∧rest.map (fun e=>(e.key,e.val))=rs.map (fun p=>(enc p.1,p.2))
theorem lz.start {κ:Type} {enc:κ→Value} {es:Array MapEntry} {aP m:Nat} {ks:List (κ×Value)} (hR:cC enc es aP ks):lz enc es aP m [] ks (.mapIter (some m) aP #[] aP):=
  ⟨[],es.toList,rfl,gj _,rfl,hR.1⟩
theorem BM {α D:Type} {f:α→D} {G:Type} {g:G→D}:∀{l:List α} {r:List G},l.map f=r.map g→∀{a b:List α} {x:α},l=a++x::b→∃u y b',r=u++y::b'∧a.map f=u.map g∧f x=g y∧b.map f=b'.map g:=by
  intro l r h a b x e
  subst e
  induction a generalizing r with
  |nil=>
   cases r with
   |nil=>simp at h
   |cons y r=>simp only[dY,e_,uk] at h;exact⟨[],y,r,rfl,rfl,h.1,h.2⟩
  |cons q a ih=>
   cases r with
   |nil=>simp at h
   |cons y r=>
    simp only[dM,e_,uk] at h
    obtain⟨u,I,b',rfl,h1,h2,h3⟩:=ih h.2
    exact⟨y::u,I,b',rfl,by simp[h.1,h1],h2,h3⟩
theorem FW {P:Program} {w:World} {κ:Type} {enc:κ→Value} {es:Array MapEntry} {aP m it ty:Nat} {vs rs:List (κ×Value)} {o:Obj} (hst:Stamped es aP) (hI:lz enc es aP m vs rs o)
    (hb:w.heap[m]?=some (.map es aP)) (hit:w.heap[it]?=some o):
    (rs=[]∧∃w',(Instr.next (.pointer (some ⟨it,0,none⟩)) false ty).run P w=.ok (.tuple #[.bool false]) w'∧w'.heap=w.heap∧w'.os=w.os∧w'.tape=w.tape∧w'.output=w.output)∨
    (∃a k v b o' w',rs=a++(k,v)::b∧(Instr.next (.pointer (some ⟨it,0,none⟩)) false ty).run P w=.ok (.tuple #[.bool true,enc k,v]) w'∧w'.heap=w.heap.setIfInBounds it o'∧w'.os=w.os∧w'.tape=w.tape∧w'.output=w.output∧
      lz enc es aP m (vs++[(k,v)]) (a++b) o'):=by
  obtain⟨u,rest,rfl,hp,hv,hr⟩:=hI
  obtain⟨hlt,Z,_⟩:=hst
  have J:∀x,x∈es.toList↔x∈u∨x∈rest:=fun x=>by rw[←hp.mem_iff,cU]
  have O:((u++rest).map (·.born)).Nodup:=(hp.map _).nodup_iff.2 Z
  have D:∀x,x∈(es.filter fun e=>!((u.map (·.born)).toArray).contains e.born).toList↔x∈rest:=by
    intro x
    rw[wN,iH,J]
    simp only[List.contains_toArray,gZ,List.contains_eq_mem,jP]
    constructor
    · rintro⟨h|h,h2⟩
      · exact absurd (cF.2 ⟨x,h,rfl⟩) h2
      · exact h
    · intro h
      refine⟨.inr h,fun h2=>?_⟩
      rw[gp,mF] at O
      exact O.2.2 _ h2 _ (cF.2 ⟨x,h,rfl⟩) rfl
  have U:∀n:Nat,1≤n→∃fS w',(choose (.mapNext n)).run P w=.ok fS w'∧fS<n∧w'.heap=w.heap∧w'.os=w.os∧w'.tape=w.tape∧w'.output=w.output:=by
    intro n hn
    rw[run_choose_drew]
    by_cases h1:n≤1
    · exact⟨0,w,by simp[Question.forced,h1],by omega,rfl,rfl,rfl,rfl⟩
    · exact⟨w.tape w.drawn (.mapNext n) % n,w.drew,by simp[Question.forced,h1,Question.cut],uj _ (by omega),rfl,rfl,rfl,rfl⟩
  have V:∀x∈es.filter (fun e=>!((u.map (·.born)).toArray).contains e.born),x.born<aP:=fun x hx=>hlt x (by
    have:=(D x).1 (by simpa using hx)
    exact(J x).2 (.inr this))
  generalize hl:es.filter (fun e=>!((u.map (·.born)).toArray).contains e.born)=left at *
  have hold:left.filter (fun e=>decide (e.born<aP))=left:=by
    rw[BD];exact fun x hx=>by simpa using V x hx
  have hnew:left.filter (fun e=>decide (e.born≥aP))=#[]:=by
    rw[FL];exact fun x hx=>by have:=V x hx;simp;omega
  have X:(!((u.map (·.born)).toArray).isEmpty&&!es.isEmpty&&es.all fun e=>decide (e.born≥aP))=false:=by
    cases he:es.isEmpty with
    |true=>simp
    |false=>
     have hne:es≠#[]:=by intro h;subst h;simp at he
     have G:0<es.size:=yR.2 hne
     have:es.all (fun e=>decide (e.born≥aP))=false:=by
       rw[Array.all_eq_false]
       exact⟨0,G,by have:=hlt es[0] (by simp);simp;omega⟩
     simp[this]
  by_cases Y:rest=[]
  · subst Y
    have hle:left=#[]:=by
      rw[←Array.toList_eq_nil_iff]
      exact List.eq_nil_iff_forall_not_mem.2 fun x hx=>by have:=(D x).1 hx;cases this
    have I:rs=[]:=by cases rs with
      |nil=>rfl
      |cons p rs=>simp at hr
    refine .inl ⟨I,?_⟩
    obtain⟨fS,w',hc,hi,hw⟩:=U 1 (iO _)
    have ab:fS=0:=by omega
    subst ab
    refine⟨w',?_,hw⟩
    subst hle
    unfold Instr.next
    have hg:(getObj it).run P w=.ok (.mapIter (some m) aP (u.map (·.born)).toArray aP) w:=by simp[getObj,Sem.run,hit]
    simp only[Sem.run_bind,hg,Result.andThen_ok,MapKept.run_getObj_map hb,X,fZ,de,Sem.run_pure,hl,hold,hnew]
    have hcs:((if (#[]:Array MapEntry).isEmpty=true then (#[none]:Array (Option MapEntry)) else #[])++((#[]:Array MapEntry)++#[]).map some)=#[none]:=by simp
    simp only[hcs]
    rw[show(#[none]:Array (Option MapEntry)).size=1 from rfl,hc]
    rfl
  · have hne:left≠#[]:=by
      intro h
      obtain⟨x,t,rfl⟩:∃x t,rest=x::t:=by
        cases rest with
        |nil=>exact absurd rfl Y
        |cons x t=>exact⟨x,t,rfl⟩
      have:=(D x).2 (.head _)
      rw[h] at this
      simp at this
    have G:0<left.size:=yR.2 hne
    obtain⟨fS,w',hc,hi,hw⟩:=U left.size G
    have ad:left[fS]∈rest:=(D _).1 (by simp)
    obtain⟨a,b,hsplit⟩:=List.append_of_mem ad
    obtain⟨ae,p,b',I,h1,h2,h3⟩:=BM hr hsplit
    simp only[iB] at h2
    refine .inr ⟨ae,p.1,p.2,b',.mapIter (some m) aP ((u.map (·.born)).toArray.push left[fS].born) aP,{w' with heap:=w'.heap.setIfInBounds it (.mapIter (some m) aP ((u.map (·.born)).toArray.push left[fS].born) aP)},I,?_,by simp[hw.1],hw.2.1,hw.2.2.1,hw.2.2.2,?_⟩
    · unfold Instr.next
      have hg:(getObj it).run P w=.ok (.mapIter (some m) aP (u.map (·.born)).toArray aP) w:=by simp[getObj,Sem.run,hit]
      have am:w'.heap[it]?=some (.mapIter (some m) aP (u.map (·.born)).toArray aP):=by rw[hw.1];exact hit
      have hem:left.isEmpty=false:=by simpa using hne
      have hs:(setObj it (.mapIter (some m) aP ((u.map (·.born)).toArray.push left[fS].born) aP)).run P w'=.ok () {w' with heap:=w'.heap.setIfInBounds it (.mapIter (some m) aP ((u.map (·.born)).toArray.push left[fS].born) aP)}:=by simp[setObj,Sem.run,am]
      simp only[Sem.run_bind,hg,Result.andThen_ok,MapKept.run_getObj_map hb,X,fZ,de,Sem.run_pure,hl,hold,hnew,hem]
      have hcs:((#[]:Array (Option MapEntry))++(left++#[]).map some)=left.map some:=by simp
      simp only[hcs,BE,hc,Result.andThen_ok,Array.getElem?_map,yS hi,j3,Sem.run_bind,hs,Sem.run_pure]
      rw[h2.1,h2.2]
    · refine⟨u++[left[fS]],a++b,by simp,?_,by simp[hv,h2.1,h2.2],by simp[h1,h3]⟩
      refine List.Perm.trans ?_ hp
      rw[hsplit,cI]
      refine FM _ ?_
      exact(List.perm_middle.symm:(left[fS]::(a++b)).Perm (a++left[fS]::b))
section
variable {C:fC} {ds:List Deferred} {i j:Nat} {r:av} {M:Nat→Prop} {Ls:List (Nat×Bool)} {e:Env} {h:av}
variable {h0:av} {g0:GH} {S0:Nat→Prop} {g:GH} {L L':List au}
variable {κ:Type} [DecidableEq κ] {d:TypeDesc} {enc:κ→Value} {es:Array MapEntry} {aP:Nat} {ks:List (κ×Value)} {mt:TypeId} {z:Value} {m:Nat}
theorem Op.FX {dst:Nat} {x ix:Operand} {ok:Bool} {k:κ} (ho:c7 C i j e=some (some dst,.lookup mt x ix ok)) (hT:lu C.P mt=some (d,z)) (hK:kH d enc) (hx:e.ev x=.map (some m)) (u:e.ev ix=enc k)
    (hb:h[m]?=some (.map es aP)) (hR:cC enc es aP ks) (K:Op C ds i r M Ls ((dst,if ok then .tuple #[(fH ks k).getD z,.bool (fH ks k).isSome] else (fH ks k).getD z)::e) h):Op C ds i r M ((j,false)::Ls) e h:=by
  obtain⟨o,h1,h2,h3⟩:=gw ho
  refine Op.run h1 (R:=fun D h'=>D=.value (if ok then .tuple #[(fH ks k).getD z,.bool (fH ks k).isSome] else (fH ks k).getD z)∧h'=h) ?_ ?_
  · intro w is
    refine⟨_,w,?_,is.again,rfl,is.heap⟩
    unfold fc execOp
    simp only[h3,Sem.run_bind,hx,u,Nq hT hK hR (w:=w) (by rw[is.heap];exact hb),Result.andThen_ok,Sem.run_pure]
  · rintro _ _ ⟨rfl,rfl⟩
    refine⟨_,rfl,fun hk=>hk,?_⟩
    rw[h2]
    exact K
theorem Op.jQ {x ix y:Operand} {k:κ} {v:Value} (ho:(c7 C i j e=some (none,.mapUpdate mt x ix y))∨(c7 C i j e=some (none,.insert mt x ix y))) (hT:lu C.P mt=some (d,z)) (hK:kH d enc) (hx:e.ev x=.map (some m)) (I:e.ev ix=enc k) (hy:e.ev y=v)
    (s:St h0 g0 S0 g L h) (n:Nat) (hL:L[n]?=some [(m,.map es aP)]) (hR:cC enc es aP ks) (hM:m<r.size→M m)
    (K:∀u D h',cC enc u D (h_ ks k v)→St h0 g0 S0 g (L.set n [(m,.map u D)]) h'→Op C ds i r M Ls e h'):Op C ds i r M ((j,false)::Ls) e h:=by
  obtain⟨o,h1,h2,h3⟩:∃o,lM C i j e=some o∧o.dst=none∧(o.op=.mapUpdate mt x ix y∨o.op=.insert mt x ix y):=by
    rcases ho with ho|ho
    · obtain⟨o,h1,h2,h3⟩:=gw ho;exact⟨o,h1,h2,.inl h3⟩
    · obtain⟨o,h1,h2,h3⟩:=gw ho;exact⟨o,h1,h2,.inr h3⟩
  have hb:=s.ag n hL
  refine Op.skip h1 (R:=fun J h'=>J=.skip∧∃u D,cC enc u D (h_ ks k v)∧h'=h.setIfInBounds m (.map u D)) ?_ ?_
  · intro w is
    obtain⟨u,D,hrun,G⟩:=Nr (P:=C.P) (w:=w) hT hK hR (by rw[is.heap];exact hb) k v
    refine⟨.skip,_,?_,(is.lq m (.map u D)).again,rfl,u,D,G,by simp[is.heap]⟩
    unfold fc execOp
    rcases h3 with h3|h3<;>simp only[h3,Sem.run_bind,hx,I,hy,hrun,Result.andThen_ok,Sem.run_pure]
  · rintro _ _ ⟨rfl,u,D,G,rfl⟩
    refine⟨rfl,fun hk=>(iP.set (.map u D) hb).jd hM hk,?_⟩
    rw[h2]
    exact K u D _ G (s.lq n hL (.map u D))
theorem Op.yY {dst:Option Tmp} {x ix:Operand} {kt:TypeId} {k:κ} (ho:c7 C i j e=some (dst,.call {callee:=.builtin .delete,args:=#[x,ix],argTypes:=#[mt,kt]})) (hT:lu C.P mt=some (d,z)) (hK:kH d enc) (hx:e.ev x=.map (some m)) (G:e.ev ix=enc k)
    (s:St h0 g0 S0 g L h) (n:Nat) (hL:L[n]?=some [(m,.map es aP)]) (hR:cC enc es aP ks) (hM:m<r.size→M m)
    (K:∀u h',cC enc u aP (jF ks k)→St h0 g0 S0 g (L.set n [(m,.map u aP)]) h'→Op C ds i r M Ls (e.gd dst dr) h'):Op C ds i r M ((j,false)::Ls) e h:=by
  obtain⟨o,h1,h2,h3⟩:=gw ho
  have hb:=s.ag n hL
  refine Op.run h1 (R:=fun I h'=>I=.value dr∧∃u,cC enc u aP (jF ks k)∧h'=h.setIfInBounds m (.map u aP)) ?_ ?_
  · intro w is
    obtain⟨u,hrun,D⟩:=Ns (P:=C.P) (w:=w) (wS:=kt) (ty:=o.type) hT hK hR (by rw[is.heap];exact hb) k
    refine⟨.value dr,_,?_,(is.lq m (.map u aP)).again,rfl,u,D,by simp[is.heap]⟩
    refine pF h3 (.inr (.inr (.inr (.inr (.inr (.inl rfl)))))) ?_
    simp only[pE,e_,l5,hx,G]
    exact hrun
  · rintro _ _ ⟨rfl,u,D,rfl⟩
    refine⟨_,rfl,fun hk=>(iP.set (.map u aP) hb).jd hM hk,?_⟩
    rw[h2]
    exact K u _ D (s.lq n hL (.map u aP))
theorem Op.BN {dst:Nat} {x:Operand} {b:Bool} {n:Nat} (ho:c7 C i j e=some (some dst,.call {callee:=.builtin .len,args:=#[x],argTypes:=#[mt]})) (hT:lu C.P mt=some (d,z)) (hx:e.ev x=.map (some m)) (hb0:b=false)
    (hb:h[m]?=some (.map es aP)) (hR:cC enc es aP ks) (hn:ks.length=n) (K:Op C ds i r M Ls ((dst,.int .i64 (n:Int))::e) h):Op C ds i r M ((j,b)::Ls) e h:=by
  subst hb0
  subst hn
  obtain⟨o,h1,h2,h3⟩:=gw ho
  obtain⟨kt,et,G,hu,hd,hi,hz⟩:=uH hT
  refine Op.run h1 (R:=fun u h'=>u=.value (.int .i64 (ks.length:Int))∧h'=h) ?_ ?_
  · intro w is
    refine⟨_,w,?_,is.again,rfl,is.heap⟩
    refine pF h3 (.inr (.inr (.inl rfl))) ?_
    simp only[pE,e_,l5,hx]
    have D:w.heap[m]?=some (.map es aP):=by rw[is.heap];exact hb
    simp[Builtin.len_,run_underlying hu,MapKept.run_getObj_map D,Result.andThen,hR.size,goInt]
  · rintro _ _ ⟨rfl,rfl⟩
    refine⟨_,rfl,fun hk=>hk,?_⟩
    rw[h2]
    exact K
theorem Op.makeMap {dst:Nat} (ho:c7 C i j e=some (some dst,.makeMap mt none)) (s:St h0 g0 S0 g L h)
    (K:∀m h',St h0 g0 S0 g ([(m,.map #[] 0)]::L) h'→Op C ds i r M Ls ((dst,.map (some m))::e) h'):Op C ds i r M ((j,false)::Ls) e h:=by
  obtain⟨o,h1,h2,h3⟩:=gw ho
  refine Op.run h1 (R:=fun u h'=>u=.value (.map (some h.size))∧h'=h.push (.map #[] 0)) ?_ ?_
  · intro w is
    refine⟨.value (.map (some h.size)),{w with heap:=w.heap.push (.map #[] 0)},?_,⟨rfl,is.os,is.tape,is.output⟩,rfl,by rw[←is.heap]⟩
    unfold fc execOp
    simp only[h3,Instr.makeMap,Option.map_none,Sem.run_bind,run_newObj,Result.andThen_ok,Sem.run_pure,is.heap]
  · rintro _ _ ⟨rfl,rfl⟩
    refine⟨_,rfl,dK.push _,?_⟩
    rw[h2]
    exact K _ _ (s.alloc _)
theorem Op.rD {dst:Nat} {x:Operand} (ho:c7 C i j e=some (some dst,.range mt x)) (hT:lu C.P mt=some (d,z)) (hx:e.ev x=.map (some m)) (hb:h[m]?=some (.map es aP)) (hR:cC enc es aP ks) (s:St h0 g0 S0 g L h)
    (K:∀it o h',lz enc es aP m [] ks o→St h0 g0 S0 g ([(it,o)]::L) h'→Op C ds i r M Ls ((dst,.pointer (some ⟨it,0,none⟩))::e) h'):Op C ds i r M ((j,false)::Ls) e h:=by
  obtain⟨o,h1,h2,h3⟩:=gw ho
  obtain⟨kt,et,G,hu,hd,hi,hz⟩:=uH hT
  refine Op.run h1 (R:=fun u h'=>u=.value (.pointer (some ⟨h.size,0,none⟩))∧h'=h.push (.mapIter (some m) aP #[] aP)) ?_ ?_
  · intro w is
    have D:w.heap[m]?=some (.map es aP):=by rw[is.heap];exact hb
    refine⟨_,{w with heap:=w.heap.push (.mapIter (some m) aP #[] aP)},?_,⟨rfl,is.os,is.tape,is.output⟩,rfl,by rw[←is.heap]⟩
    unfold fc execOp
    simp only[h3,hx,Instr.range,Sem.run_bind,run_underlying hu,MapKept.run_getObj_map D,run_newObj,Result.andThen_ok,Sem.run_pure,is.heap]
  · rintro _ _ ⟨rfl,rfl⟩
    refine⟨_,rfl,dK.push _,?_⟩
    rw[h2]
    exact K _ _ _ (lz.start hR) (s.alloc _)
theorem Op.wT {dst:Nat} {x:Operand} {it:Nat} {o1:Obj} {vs rs:List (κ×Value)} (ho:c7 C i j e=some (some dst,.next x false)) (hx:e.ev x=.pointer (some ⟨it,0,none⟩)) (hb:h[m]?=some (.map es aP)) (hR:cC enc es aP ks) (hI:lz enc es aP m vs rs o1)
    (s:St h0 g0 S0 g L h) (n:Nat) (hL:L[n]?=some [(it,o1)]) (hM:it<r.size→M it)
    (K:(rs=[]→Op C ds i r M Ls ((dst,.tuple #[.bool false])::e) h)∧∀a k v b o2 h',rs=a++(k,v)::b→lz enc es aP m (vs++[(k,v)]) (a++b) o2→St h0 g0 S0 g (L.set n [(it,o2)]) h'→Op C ds i r M Ls ((dst,.tuple #[.bool true,enc k,v])::e) h'):Op C ds i r M ((j,false)::Ls) e h:=by
  obtain⟨o,h1,h2,h3⟩:=gw ho
  have hit:=s.ag n hL
  by_cases U:rs=[]
  · subst U
    refine Op.run h1 (R:=fun D h'=>D=.value (.tuple #[.bool false])∧h'=h) ?_ ?_
    · intro w is
      rcases FW (P:=C.P) (w:=w) (it:=it) (ty:=o.type) hR.2 hI (by rw[is.heap];exact hb) (by rw[is.heap];exact hit) with ⟨_,w',hrun,hw1,G,I,J⟩|⟨a,k,v,b,o',w',u,_⟩
      · refine⟨_,w',?_,⟨rfl,G.trans is.os,I.trans is.tape,J.trans is.output⟩,rfl,hw1.trans is.heap⟩
        unfold fc execOp
        simp only[h3,hx,Sem.run_bind,hrun,Result.andThen_ok,Sem.run_pure]
      · simp at u
    · rintro _ _ ⟨rfl,rfl⟩
      refine⟨_,rfl,fun hk=>hk,?_⟩
      rw[h2]
      exact K.1 rfl
  · refine Op.run h1 (R:=fun D h'=>∃a k v b o2,D=.value (.tuple #[.bool true,enc k,v])∧rs=a++(k,v)::b∧h'=h.setIfInBounds it o2∧lz enc es aP m (vs++[(k,v)]) (a++b) o2) ?_ ?_
    · intro w is
      rcases FW (P:=C.P) (w:=w) (it:=it) (ty:=o.type) hR.2 hI (by rw[is.heap];exact hb) (by rw[is.heap];exact hit) with ⟨h,_⟩|⟨a,k,v,b,o',w',u,hrun,hw1,G,I,J,O⟩
      · exact absurd h U
      · refine⟨_,w',?_,⟨rfl,G.trans is.os,I.trans is.tape,J.trans is.output⟩,a,k,v,b,o',rfl,u,by rw[hw1,is.heap],O⟩
        unfold fc execOp
        simp only[h3,hx,Sem.run_bind,hrun,Result.andThen_ok,Sem.run_pure]
    · rintro _ _ ⟨a,k,v,b,o2,rfl,u,rfl,O⟩
      refine⟨_,rfl,fun hk=>(iP.set o2 hit).jd hM hk,?_⟩
      rw[h2]
      exact K.2 a k v b o2 _ u O (s.lq n hL o2)
theorem Op.wU {dst:Nat} {x:Operand} {it:Nat} {o1:Obj} {vs rs:List (κ×Value)} {k:κ} {v:Value} (ho:c7 C i j e=some (some dst,.entry x)) (hx:e.ev x=.pointer (some ⟨it,0,none⟩)) (hb:h[m]?=some (.map es aP)) (hR:cC enc es aP ks) (hI:lz enc es aP m (vs++[(k,v)]) rs o1)
    (hit:h[it]?=some o1) (K:Op C ds i r M Ls ((dst,.tuple #[enc k,v])::e) h):Op C ds i r M ((j,false)::Ls) e h:=by
  obtain⟨o,h1,h2,h3⟩:=gw ho
  refine Op.run h1 (R:=fun I h'=>I=.value (.tuple #[enc k,v])∧h'=h) ?_ ?_
  · intro w is
    refine⟨_,w,?_,is.again,rfl,is.heap⟩
    obtain⟨u,rest,rfl,hp,hv,hr⟩:=hI
    obtain⟨Z,y,b',e1,e2,e3,J⟩:=BM (f:=fun p:κ×Value=>(enc p.1,p.2)) (g:=fun e:MapEntry=>(e.key,e.val)) hv.symm (a:=vs) (x:=(k,v)) (b:=[]) rfl
    have hb':b'=[]:=by cases b' with
      |nil=>rfl
      |cons q b'=>simp at J
    subst hb'
    simp only[iB] at e3
    have D:y∈es.toList:=hp.mem_iff.1 (by rw[e1];simp)
    have O:w.heap[m]?=some (.map es aP):=by rw[is.heap];exact hb
    have U:((u.map (·.born)).toArray).back?=some y.born:=by rw[e1];simp
    have hfind:es.find? (fun x=>x.born==y.born)=some y:=by
      cases hf:es.find? (fun x=>x.born==y.born) with
      |none=>
       rw[FN] at hf
       have:=hf y (by simpa using D)
       simp at this
      |some z=>
       have h5:=Array.find?_some hf
       have h6:z∈es.toList:=by simpa using FO hf
       have h7:z.born=y.born:=by simpa using h5
       have V:=hR.2.2.1
       obtain⟨X,hi1⟩:=nh.1 h6
       obtain⟨i2,hi2⟩:=nh.1 D
       have G:(es.toList.map (·.born))[X]?=some y.born:=by rw[jM,hi1];simp[h7]
       have Y:(es.toList.map (·.born))[i2]?=some y.born:=by rw[jM,hi2];rfl
       have hlt:=(dL.1 G).1
       have:=(BC hlt V).1 (G.trans Y.symm)
       subst this
       rw[hi1] at hi2
       exact congrArg some (fT hi2)
    have hg:(getObj it).run C.P w=.ok (.mapIter (some m) aP (u.map (·.born)).toArray aP) w:=by simp[getObj,Sem.run,is.heap,hit]
    unfold fc execOp
    have hrun:(Instr.entry (e.ev x)).run C.P w=.ok (.tuple #[enc k,v]) w:=by
      unfold Instr.entry
      simp only[hx,Sem.run_bind,hg,Result.andThen_ok,U,MapKept.run_getObj_map O,hfind,bne_self_eq_false,fZ,de,Sem.run_pure]
      rw[←e3.1,←e3.2]
    simp only[h3,Sem.run_bind,hrun,Result.andThen_ok,Sem.run_pure]
  · rintro _ _ ⟨rfl,rfl⟩
    refine⟨_,rfl,fun hk=>hk,?_⟩
    rw[h2]
    exact K
theorem Op.pK {dst:Nat} {x ix:Operand} {ok:Bool} {k:κ} {v:Value} (ho:c7 C i j e=some (some dst,.lookup mt x ix ok)) (hT:lu C.P mt=some (d,z)) (hK:kH d enc) (hx:e.ev x=.map (some m)) (u:e.ev ix=enc k)
    (hb:h[m]?=some (.map es aP)) (hR:cC enc es aP ks) (hv:fH ks k=some v) (K:Op C ds i r M Ls ((dst,if ok then .tuple #[v,.bool true] else v)::e) h):Op C ds i r M ((j,false)::Ls) e h:=
  Op.FX ho hT hK hx u hb hR (by rw[hv];exact K)
theorem Op.rE {dst:Nat} {x ix:Operand} {ok:Bool} {k:κ} (ho:c7 C i j e=some (some dst,.lookup mt x ix ok)) (hT:lu C.P mt=some (d,z)) (hK:kH d enc) (hx:e.ev x=.map (some m)) (u:e.ev ix=enc k)
    (hb:h[m]?=some (.map es aP)) (hR:cC enc es aP ks) (hv:fH ks k=none) (K:Op C ds i r M Ls ((dst,if ok then .tuple #[z,.bool false] else z)::e) h):Op C ds i r M ((j,false)::Ls) e h:=
  Op.FX ho hT hK hx u hb hR (by rw[hv];exact K)
end
section
variable {C:fC} {ds:List Deferred} {i j:Nat} {r:av} {M:Nat→Prop} {L Ls:List (Nat×Bool)} {e e':Env} {h:av}
variable {h0:av} {g0:GH} {S0:Nat→Prop} {g:GH} {Lk:List au}
theorem Op.ms (z:Value) (mt:TypeId) (x ix y:Operand) (k:Int) (v:Value) {es:Array MapEntry} {aP:Nat} {ks:List (Int×Value)} {m:Nat} (s:St h0 g0 S0 g Lk h) (n:Nat) (hR:cC encI es aP ks)
    (K:∀u D h',cC encI u D (h_ ks k v)→St h0 g0 S0 g (Lk.set n [(m,.map u D)]) h'→Op C ds i r M Ls e h')
    (hL:Lk[n]?=some [(m,.map es aP)]:=by rfl) (ho:c7 C i j e=some (none,.mapUpdate mt x ix y):=by kernel_rfl) (hT:lu C.P mt=some (.int .i64,z):=by kernel_rfl) (hx:e.ev x=.map (some m):=by kernel_rfl) (G:e.ev ix=encI k:=by kernel_rfl) (hy:e.ev y=v:=by kernel_rfl) (hM:m<r.size→M m:=by exact fun _=>trivial):Op C ds i r M ((j,false)::Ls) e h:=Op.jQ (.inl ho) hT iu hx G hy s n hL hR hM K
theorem Op.mk (z:Value) (mt:TypeId) (x ix:Operand) (dst:Nat) (k:Int) (v:Value) {es:Array MapEntry} {aP:Nat} {ks:List (Int×Value)} {m:Nat} (hb:h[m]?=some (.map es aP)) (hR:cC encI es aP ks) (hv:fH ks k=some v) (K:Op C ds i r M Ls ((dst,v)::e) h)
    (ho:c7 C i j e=some (some dst,.lookup mt x ix false):=by kernel_rfl) (hT:lu C.P mt=some (.int .i64,z):=by kernel_rfl) (hx:e.ev x=.map (some m):=by kernel_rfl) (u:e.ev ix=encI k:=by kernel_rfl):Op C ds i r M ((j,false)::Ls) e h:=Op.pK (ok:=false) ho hT iu hx u hb hR hv K
theorem Op.mn (z:Value) (mt:TypeId) (x ix:Operand) (dst:Nat) (k:Int) {es:Array MapEntry} {aP:Nat} {ks:List (Int×Value)} {m:Nat} (hb:h[m]?=some (.map es aP)) (hR:cC encI es aP ks) (hv:fH ks k=none) (K:Op C ds i r M Ls ((dst,z)::e) h)
    (ho:c7 C i j e=some (some dst,.lookup mt x ix false):=by kernel_rfl) (hT:lu C.P mt=some (.int .i64,z):=by kernel_rfl) (hx:e.ev x=.map (some m):=by kernel_rfl) (u:e.ev ix=encI k:=by kernel_rfl):Op C ds i r M ((j,false)::Ls) e h:=Op.rE (ok:=false) ho hT iu hx u hb hR hv K
end
open Go
def rl:Nat→Nat→List (Nat×Bool)
  |0,_=>[]
  |n+1,k=>(k,false)::rl n (k+1)
namespace Env
theorem FY (a b:Env) (t:Nat):get (a++b) t=(match get a t with|some v=>some v|none=>get b t):=by
  induction a with
  |nil=>rfl
  |cons p a ih=>
   obtain⟨k,v⟩:=p
   simp only[dM,get]
   cases Nat.beq k t with
   |true=>rfl
   |false=>exact ih
theorem Nt {a:Env} {q:Nat×Value→Bool} (h:a.all q=true) {t:Nat} {v:Value} (hv:get a t=some v):q (t,v)=true:=by
  induction a with
  |nil=>cases hv
  |cons p a ih=>
   obtain⟨k,u⟩:=p
   rw[j5,bO] at h
   by_cases hk:k=t
   · subst hk
     simp[get] at hv
     rw[←hv];exact h.1
   · rw[get,qp hk] at hv
     exact ih h.2 hv
theorem FZ {q:Env}:∀{N:Env},N.map (fun p=>q.get p.1)=N.map (fun p=>some p.2)→∀{t:Nat} {v:Value},N.get t=some v→q.get t=some v
  |[],_,t,v,hn=>by cases hn
  |(k,w)::N,h1,t,v,hn=>by
   simp only[e_,uk] at h1
   by_cases hk:k=t
   · subst hk;simp[get] at hn;rw[h1.1,hn]
   · rw[get,qp hk] at hn;exact FZ h1.2 hn
def news (u e N:Env):List (Option Value)×Bool:=(N.map fun p=>u.get p.1,(u.take (u.length-e.length)).all fun p=>(N.get p.1).isSome||!(e.get p.1).isSome)
theorem Nu {e D N:Env} (h:news (D++e) e N=(N.map (fun p=>some p.2),true)) (t:Nat) (v:Value) (hv:(N++e).get t=some v):(D++e).get t=some v:=by
  unfold news at h
  simp only[iB,b_,Nat.add_sub_cancel,List.take_left] at h
  obtain⟨h1,h2⟩:=h
  rw[FY] at hv
  cases hn:N.get t with
  |some u=>
   rw[hn] at hv
   simp only[eN] at hv
   subst hv
   clear h2
   exact FZ h1 hn
  |none=>
   rw[hn] at hv
   simp only at hv
   rw[FY]
   cases hd:D.get t with
   |none=>exact hv
   |some u=>
    have:=Nt h2 hd
    simp only[hn,hv,Option.isSome_none,Option.isSome_some,ng,Bool.or_self,fZ] at this
end Env
theorem iD.sub {e e':Env} {n:Nat} {ds:List Deferred} {a:Act} (f:iD e n ds a) (h:∀t v,e'.get t=some v→e.get t=some v):iD e' n ds a:=⟨f.defers,f.size,fun t v hv=>f.get t v (h t v hv)⟩
theorem BO {P:Program} {n:Nat} {ops:Array Oper}:∀(m:Nat) (L:List (Nat×Bool)) (e:Env) {G:List (Nat×Bool)} {D:Env},lN P n ops m L e=some (G,D)→G=L.drop m∧∃u,D=u++e
  |0,L,e,_,_,h=>by simp only[lN,eN,iB] at h;obtain⟨rfl,rfl⟩:=h;exact⟨rfl,[],rfl⟩
  |_+1,[],e,_,_,h=>by simp[lN] at h
  |m+1,(j,b)::L,e,_,_,h=>by
   have put:∀(d:Option Tmp) (v:Value) {u:Env} {D:Env},D=u++e.gd d v→∃I,D=I++e:=fun d v u D h=>by
     cases d with
     |none=>exact⟨u,h⟩
     |some t=>exact⟨u++[(t,v)],by rw[h];simp[Env.gd]⟩
   simp only[lN] at h
   split at h
   · cases h
   · split at h
     · split at h
       · cases h
       · obtain⟨h1,u,h2⟩:=BO m L _ h;exact⟨h1,put _ _ h2⟩
       · split at h
         · split at h
           · obtain⟨h1,u,h2⟩:=BO m L _ h;exact⟨h1,put _ _ h2⟩
           · cases h
         · cases h
     · cases h
section
variable {C:fC} {ds:List Deferred} {i:Nat} {r:av} {M:Nat→Prop} {L:List (Nat×Bool)} {e:Env} {h:av}
theorem Op.sub {e':Env} (hs:∀t v,e'.get t=some v→e.get t=some v) (K:Op C ds i r M L e' h):Op C ds i r M L e h:=fun a w f is hk=>K a w (f.sub hs) is hk
theorem Op.px (m:Nat) (N:Env) (K:Op C ds i r M (L.drop m) (N++e) h)
    (hp:(lN C.P C.n (iE (pt C.code i)) m L e).map (fun x=>Env.news x.2 e N)=some (N.map (fun p=>some p.2),true):=by kernel_rfl):Op C ds i r M L e h:=by
  obtain⟨⟨u,D⟩,h1,h2⟩:=q6.1 hp
  obtain⟨rfl,G,rfl⟩:=BO m L e h1
  exact Op.run_pure h1 (Op.sub (fun t v hv=>Env.Nu h2 t v hv) K)
theorem Op.pg (j:Nat) (N:Env) (K:At C ds j (N++e) h)
    (hp:(lN C.P C.n (iE (pt C.code i)) L.length L e).map (fun x=>Env.news x.2 e N)=some (N.map (fun p=>some p.2),true):=by kernel_rfl) (hj:norm 1000 (pt C.code i).tail=pt C.code j:=by kernel_rfl):Op C ds i r M L e h:=by
  refine Op.px L.length N ?_ hp
  rw[List.drop_length]
  exact Op.goto j hj K
theorem Op.gt (j:Nat) (K:At C ds j e h) (hj:norm 1000 (pt C.code i).tail=pt C.code j:=by kernel_rfl):Op C ds i r M [] e h:=Op.goto j hj K
theorem At.rg (n:Nat) (K:Op C ds i #[] (fun _=>True) (rl n 0) e h) (hL:uu (pt C.code i)=some (rl n 0):=by kernel_rfl):At C ds i e h:=At.A6 hL K
theorem At.rp (n m:Nat) (N:Env) (K:Op C ds i #[] (fun _=>True) ((rl n 0).drop m) (N++e) h) (hL:uu (pt C.code i)=some (rl n 0):=by kernel_rfl)
    (hp:(lN C.P C.n (iE (pt C.code i)) m (rl n 0) e).map (fun x=>Env.news x.2 e N)=some (N.map (fun p=>some p.2),true):=by kernel_rfl):At C ds i e h:=At.A6 hL (Op.px m N K hp)
theorem At.go (j n:Nat) (N:Env) (K:At C ds j (N++e) h) (hL:uu (pt C.code i)=some (rl n 0):=by kernel_rfl)
    (hp:(lN C.P C.n (iE (pt C.code i)) (rl n 0).length (rl n 0) e).map (fun x=>Env.news x.2 e N)=some (N.map (fun p=>some p.2),true):=by kernel_rfl) (hj:norm 1000 (pt C.code i).tail=pt C.code j:=by kernel_rfl):At C ds i e h:=
  At.A6 hL (Op.pg j N K hp hj)
theorem BP {e:Env} {t:Nat} {v:Value} (h:e.get t=some v):e.qq (.tmp t)=true:=by simp[Env.qq,h]
theorem BQ {e:Env} {t:Nat} {v:Value} (h:e.get t=some v):e.ev (.tmp t)=v:=by simp[Env.ev,h]
theorem At.c_ (b:Bool) (t u D:Nat) (ht:b=true→At C ds u e h) (hf:b=false→At C ds D e h) (hc:ov (pt C.code i)=some (.tmp t):=by kernel_rfl) (hv:e.get t=some (.bool b):=by kernel_rfl)
    (h1:norm 1000 (Sw.o_ (pt C.code i))=pt C.code u:=by kernel_rfl) (h2:norm 1000 (Sw.pe (pt C.code i))=pt C.code D:=by kernel_rfl):At C ds i e h:=At.cond hc (BP hv) (BQ hv) u D h1 h2 ht hf
theorem At.bX (t u:Nat) (K:At C ds u e h) (hc:ov (pt C.code i)=some (.tmp t):=by kernel_rfl) (hv:e.get t=some (.bool true):=by kernel_rfl) (h1:norm 1000 (Sw.o_ (pt C.code i))=pt C.code u:=by kernel_rfl):At C ds i e h:=
  At.o_ hc (BP hv) (BQ hv) u h1 K
theorem At.dP (t u:Nat) (K:At C ds u e h) (hc:ov (pt C.code i)=some (.tmp t):=by kernel_rfl) (hv:e.get t=some (.bool false):=by kernel_rfl) (h1:norm 1000 (Sw.pe (pt C.code i))=pt C.code u:=by kernel_rfl):At C ds i e h:=
  At.pe hc (BP hv) (BQ hv) u h1 K
theorem Op.sb (k:Nat) {b v:Bool} (hb:b=v) (K:Op C ds i r M L ((k,.bool v)::e) h) (hv:e.get k=some (.bool b):=by kernel_rfl):Op C ds i r M L e h:=by
  subst hb
  refine Op.sub (fun t u hu=>?_) K
  by_cases hk:k=t
  · subst hk;simp[Env.get] at hu;rw[hv,hu]
  · rw[Env.get,qp hk] at hu;exact hu
theorem Op.wb (b:Bool) (k:Nat) (ht:b=true→Op C ds i r M L ((k,.bool true)::e) h) (hf:b=false→Op C ds i r M L ((k,.bool false)::e) h) (hv:e.get k=some (.bool b):=by kernel_rfl):Op C ds i r M L e h:=by
  cases b with
  |true=>exact Op.sb k rfl (ht rfl) hv
  |false=>exact Op.sb k rfl (hf rfl) hv
theorem F0 {e e':Env} (hp:e'.map (fun p=>e.get p.1)=e'.map (fun p=>some p.2)) (t:Nat) (v:Value) (hv:e'.get t=some v):e.get t=some v:=by
  induction e' with
  |nil=>cases hv
  |cons p e' ih=>
   obtain⟨k,w⟩:=p
   simp only[e_,uk] at hp
   by_cases hk:k=t
   · subst hk;simp[Env.get] at hv;rw[hp.1,hv]
   · rw[Env.get,qp hk] at hv;exact ih hp.2 hv
theorem At.kp (e':Env) (K:At C ds i e' h) (hp:e'.map (fun p=>e.get p.1)=e'.map (fun p=>some p.2):=by kernel_rfl):At C ds i e h:=fun a w f is=>K a w (f.sub (F0 hp)) is
theorem Op.kp (e':Env) (K:Op C ds i r M L e' h) (hp:e'.map (fun p=>e.get p.1)=e'.map (fun p=>some p.2):=by kernel_rfl):Op C ds i r M L e h:=Op.sub (F0 hp) K
variable {j:Nat} {Ls:List (Nat×Bool)} {h0:av} {g0:GH} {S0:Nat→Prop} {g:GH} {Lk:List au}
theorem Op.c1 (d:Nat) {f:FuncId} {args:Array Value} {u:Value} (H:aA C.P C.B f args h g [] (fun D g' L'=>D=u∧g'=g∧L'=[])) (s:St h0 g0 S0 g Lk h)
    (K:∀h',St h0 g0 S0 g Lk h'→Op C ds i r M Ls ((d,u)::e) h') (ho:qy C i j e=some (some d,f,args):=by kernel_rfl):Op C ds i r M ((j,false)::Ls) e h:=by
  refine Op.Fc ho s H ?_
  rintro _ g' _ h' hle G ⟨rfl,rfl,rfl⟩
  exact K h' G
theorem Op.c0 (d:Option Nat) {f:FuncId} {args:Array Value} {u:Value→GH→List au→Prop} (H:aA C.P C.B f args h g [] u) (s:St h0 g0 S0 g Lk h)
    (K:∀v g' D h',aG g g'→St h0 g0 S0 g' (D++Lk) h'→u v g' D→Op C ds i r M Ls (e.gd d v) h') (ho:qy C i j e=some (d,f,args):=by kernel_rfl):Op C ds i r M ((j,false)::Ls) e h:=Op.Fc ho s H K
theorem Op.ld {n:Nat} (T:TypeId) (x:Operand) (d o:Nat) (v:Value) {b:Nat} {cs:Array Value} {u:TypeId} {fz:Nat×Nat} (hb:h[b]?=some (.cells cs u fz))
    (K:Op C ds i r M Ls ((d,v)::e) h) (hv:cs[o]?=some v:=by kernel_rfl) (ho:c7 C i j e=some (some d,.load T x):=by kernel_rfl) (hx:e.ev x=.pointer (some ⟨b,o,none⟩):=by kernel_rfl)
    (hT:kC C.P T=some (false,1):=by kernel_rfl):Op C ds i r M ((j,false)::Ls) e h:=Op.load ho hx hT hb hv K
theorem Op.la (T:TypeId) (x:Operand) (d o n:Nat) (vs:List Value) {b:Nat} {cs:Array Value} {u:TypeId} {fz:Nat×Nat} (hb:h[b]?=some (.cells cs u fz))
    (K:Op C ds i r M Ls ((d,.agg vs.toArray)::e) h) (hv:cut cs o n=vs:=by kernel_rfl) (ho:c7 C i j e=some (some d,.load T x):=by kernel_rfl) (hx:e.ev x=.pointer (some ⟨b,o,none⟩):=by kernel_rfl)
    (hT:kC C.P T=some (true,n):=by kernel_rfl) (hl:vs.length=n:=by rfl):Op C ds i r M ((j,false)::Ls) e h:=Op.Mr ho hx hT hb hv hl K
theorem Op.s1 (T:TypeId) (x y:Operand) (o:Nat) (v:Value) (k:Nat) (cs':Array Value) {b:Nat} {cs:Array Value} {D:TypeId} (s:St h0 g0 S0 g Lk h) (hM:b<r.size→M b)
    (K:∀h',St h0 g0 S0 g (Lk.set k [(b,.cells cs' D (0,0))]) h'→Op C ds i r M Ls e h') (hk:Lk[k]?=some [(b,.cells cs D (0,0))]:=by rfl) (hv:v.oneCell'=true:=by rfl)
    (ho:c7 C i j e=some (none,.store T x y):=by kernel_rfl) (hx:e.ev x=.pointer (some ⟨b,o,none⟩):=by kernel_rfl) (hy:(e.ev y).cells.toList=[v]:=by kernel_rfl)
    (hT:kC C.P T=some (false,1):=by kernel_rfl) (G:Nat.ble (o+1) cs.size=true:=by kernel_rfl) (hcs:splice cs o [v]=cs':=by kernel_rfl):Op C ds i r M ((j,false)::Ls) e h:=
  Op.store ho hx hy hT rfl (fun u hu=>by rw[gv.1 hu];exact hv) s k hk (jb G) hcs hM K
theorem Op.al (d:Nat) (T:TypeId) (cs:Array Value) (s:St h0 g0 S0 g Lk h) (K:∀b h',St h0 g0 S0 g ([(b,.cells cs T (0,0))]::Lk) h'→Op C ds i r M Ls ((d,.pointer (some ⟨b,0,none⟩))::e) h')
    (ho:c7 C i j e=some (some d,.alloc T):=by kernel_rfl) (hz:(C.P.info? T).bind (fun t=>t.zero.map Value.cells)=some cs:=by kernel_rfl):Op C ds i r M ((j,false)::Ls) e h:=Op.alloc ho hz s K
theorem Op.vl (d:Nat) (v u:Value) {b:Bool} (hv:v=u) (K:Op C ds i r M Ls ((d,u)::e) h) (ho:valOf C i j e=some (some d,v):=by kernel_rfl):Op C ds i r M ((j,b)::Ls) e h:=Op.val ho hv K
theorem Op.dQ (d:Nat) (n:Int) {b:Bool} (h0: -9223372036854775808≤n) (h1:n≤9223372036854775807) (K:Op C ds i r M Ls ((d,.int .i64 n)::e) h) (ho:valOf C i j e=some (some d,.int .i64 (IntKind.wrap .i64 n)):=by kernel_rfl):
    Op C ds i r M ((j,b)::Ls) e h:=Op.val ho (oA h0 h1) K
theorem Op.ix (T E:TypeId) (sz cR:Nat) (n c:Nat) (x ix:Operand) (d u o:Nat) (m:Int) {b:Bool} (h0:0≤m) (h1:m<n) (K:Op C ds i r M Ls ((d,.pointer (some ⟨u,o+m.toNat*sz,none⟩))::e) h)
    (ho:c7 C i j e=some (some d,.indexAddr T x ix):=by kernel_rfl) (hE:kD C.P T=some (E,sz,cR):=by kernel_rfl) (hx:e.ev x=.slice (some ⟨u,o,none⟩) n c:=by kernel_rfl) (D:e.ev ix=.int .i64 m:=by kernel_rfl):
    Op C ds i r M ((j,b)::Ls) e h:=Op.fS ho hE hx D h0 h1 K
theorem Op.sa (T T':TypeId) (x y:Operand) (d:Nat) (l m:aj) {b:Bool} (hl:l.length+m.length≤9223372036854775807) (K:Op C ds i r M Ls ((d,.string (a_ (l++m)))::e) h)
    (ho:c7 C i j e=some (some d,.binOp .add T x y T'):=by kernel_rfl) (hx:e.ev x=.string (a_ l):=by kernel_rfl) (hy:e.ev y=.string (a_ m):=by kernel_rfl):Op C ds i r M ((j,b)::Ls) e h:=Op.MG ho hx hy hl K
theorem Op.sv {ky:IntKind} (T T':TypeId) (x y:Operand) (d:Nat) (a n v:Int) {b:Bool} (h0:0≤n) (hv:Value.int .i64 (IntKind.wrap .i64 (a*2 ^ (min n.toNat (IntKind.bits .i64))))=.int .i64 v) (K:Op C ds i r M Ls ((d,.int .i64 v)::e) h)
    (ho:c7 C i j e=some (some d,.binOp .shl T x y T'):=by kernel_rfl) (hx:e.ev x=.int .i64 a:=by kernel_rfl) (hy:e.ev y=.int ky n:=by kernel_rfl):Op C ds i r M ((j,b)::Ls) e h:=by
  refine Op.free ho (fun o ho w=>?_) (by rw[←hv] at K;exact K)
  simp only[execOp,ho,hx,hy,eqGuard,Sem.run_bind,Sem.run_pure]
  have hn:¬n<0:=by omega
  simp only[binOp,Op.shift,hn,de,Sem.run_pure,qw,iA,Result.andThen_ok]
end
theorem At.rt {P:Program} {B:World} {fn:FuncId} {f:Func} {R:Value→av→Prop} {i:Nat} {e:Env} {h:av} (v:Value) (H:R v h) (hi:mZ (pt (cJ f) i)=true:=by kernel_rfl)
    (hv:sP f e=some v:=by kernel_rfl):At (bS P B fn f R) [] i e h:=At.ret hi hv H
theorem aA.Nv {P:Program} {B:World} {fn:FuncId} {f:Func} {args:Array Value} {h:av} {g:GH} {Lc:List au} {u:Value→GH→List au→Prop} (hf:P.funcs[fn]?=some f)
    (H:∀R:Value→av→Prop,(∀v h' g' D,St h g (aM Lc) g' D h'→u v g' D→R v h')→At (bS P B fn f R) [] 0 (qt args.toList 0) h) (hb:f.body.isSome=true:=by kernel_rfl) (hn:Nat.ble args.size f.ntmps=true:=by kernel_rfl)
    (h0:norm 1000 [.code (qs f)]=pt (cJ f) 0:=by kernel_rfl):aA P B fn args h g Lc u:=aA.ri hf hb (jb hn) rfl h0 H
def cat:List au→au
  |[]=>[]
  |[c]=>c
  |c::L=>c++cat L
theorem tc:∀L:List au,cat L=L.flatten
  |[]=>rfl
  |[c]=>by simp[cat]
  |c::d::L=>by show c++cat (d::L)=_;rw[tc (d::L),cg,cg];rfl
def pk:List au→au
  |[p]::L=>p::cat L
  |L=>cat L
theorem Nw (L:List au):pk L=L.flatten:=by
  rcases L with _|⟨c,L⟩
  · rfl
  · rcases c with _|⟨p,c⟩
    · exact tc _
    · rcases c with _|⟨q,c⟩
      · show p::cat L=_;rw[tc,cg];rfl
      · exact tc _
section
variable {h0:av} {g0:GH} {S0:Nat→Prop} {g:GH} {L:List au} {h:av}
theorem St.nl (s:St h0 g0 S0 g L h):St h0 g0 S0 g ([]::L) h:=St.aX (L:=L) rfl s
theorem St.bl {Q:au→Prop} (n:Nat) (s:St h0 g0 S0 g L h) (hx:Q (pk (L.take n))):∃c,Q c∧St h0 g0 S0 g (c::L.drop n) h:=
  ⟨_,hx,St.aX (by rw[cg,Nw,←mG,mJ]) s⟩
end
theorem j6 {α:Type} {l:List α} {i:Int} (h:i.toNat<l.length):∃c,l[i.toNat]?=some c:=⟨_,kE h⟩
abbrev vI (n:Int):Value:=.int .i64 n
abbrev vS (l:aj):Value:=.string (a_ l)
abbrev vP (b:Nat):Value:=.pointer (some ⟨b,0,none⟩)
abbrev vL (a:Option Addr) (n c:Nat):Value:=.slice a n c
section
variable {C:fC} {ds:List Deferred} {i j:Nat} {r:av} {M:Nat→Prop} {L Ls:List (Nat×Bool)} {e e':Env} {h:av}
variable {h0:av} {g0:GH} {S0:Nat→Prop} {g:GH} {Lk:List au}
theorem At.ke (K:At C ds i e' h) (hp:e'.map (fun p=>e.get p.1)=e'.map (fun p=>some p.2):=by kernel_rfl):At C ds i e h:=At.kp e' K hp
theorem At.fd (p:Prop) [Decidable p] (t u D:Nat) (ht:p→At C ds u e h) (hf:¬p→At C ds D e h) (hc:ov (pt C.code i)=some (.tmp t):=by kernel_rfl) (hv:e.get t=some (.bool (decide p)):=by kernel_rfl)
    (h1:norm 1000 (Sw.o_ (pt C.code i))=pt C.code u:=by kernel_rfl) (h2:norm 1000 (Sw.pe (pt C.code i))=pt C.code D:=by kernel_rfl):At C ds i e h:=
  At.c_ (decide p) t u D (fun h=>ht (iR h)) (fun h=>hf (kF h)) hc hv h1 h2
theorem At.fn (p:Prop) [Decidable p] (t u D:Nat) (ht:¬p→At C ds u e h) (hf:p→At C ds D e h) (hc:ov (pt C.code i)=some (.tmp t):=by kernel_rfl) (hv:e.get t=some (.bool (!decide p)):=by kernel_rfl)
    (h1:norm 1000 (Sw.o_ (pt C.code i))=pt C.code u:=by kernel_rfl) (h2:norm 1000 (Sw.pe (pt C.code i))=pt C.code D:=by kernel_rfl):At C ds i e h:=
  At.c_ (!decide p) t u D (fun h=>ht (by simpa using h)) (fun h=>hf (by simpa using h)) hc hv h1 h2
theorem Op.wd (p:Prop) [Decidable p] (k:Nat) (ht:p→Op C ds i r M L ((k,.bool true)::e) h) (hf:¬p→Op C ds i r M L ((k,.bool false)::e) h) (hv:e.get k=some (.bool (decide p)):=by kernel_rfl):Op C ds i r M L e h:=
  Op.wb (decide p) k (fun h=>ht (iR h)) (fun h=>hf (kF h)) hv
theorem At.kB (k:Nat) {b v:Bool} (hb:b=v) (K:At C ds i ((k,.bool v)::e) h) (hv:e.get k=some (.bool b):=by kernel_rfl):At C ds i e h:=by
  subst hb
  refine fun a w f is=>K a w (f.sub fun t u hu=>?_) is
  by_cases hk:k=t
  · subst hk;simp[Env.get] at hu;rw[hv,hu]
  · rw[Env.get,qp hk] at hu;exact hu
theorem At.kT (k:Nat) {p:Prop} [Decidable p] (hp:p) (K:At C ds i ((k,.bool true)::e) h) (hv:e.get k=some (.bool (decide p)):=by kernel_rfl):At C ds i e h:=At.kB k (eW hp) K hv
theorem At.nT (k:Nat) {p:Prop} [Decidable p] (hp:¬p) (K:At C ds i ((k,.bool true)::e) h) (hv:e.get k=some (.bool (!decide p)):=by kernel_rfl):At C ds i e h:=At.kB k (by simp[hp]) K hv
theorem Op.sg (T:TypeId) (x y:Operand) (o k:Nat) (cs':Array Value) {b:Nat} {cs:Array Value} {u:TypeId} (s:St h0 g0 S0 g Lk h) (hM:b<r.size→M b)
    (K:∀h',St h0 g0 S0 g (Lk.set k [(b,.cells cs' u (0,0))]) h'→Op C ds i r M Ls e h') (hk:Lk[k]?=some [(b,.cells cs u (0,0))]:=by rfl)
    (ho:c7 C i j e=some (none,.store T x y):=by kernel_rfl) (hx:e.ev x=.pointer (some ⟨b,o,none⟩):=by kernel_rfl) (hT:kC C.P T=some (true,(e.ev y).cells.toList.length):=by kernel_rfl)
    (h1:(e.ev y).cells.toList.all (·.oneCell')=true:=by kernel_rfl) (D:Nat.ble (o+(e.ev y).cells.toList.length) cs.size=true:=by kernel_rfl) (hcs:splice cs o (e.ev y).cells.toList=cs':=by kernel_rfl):Op C ds i r M ((j,false)::Ls) e h:=
  Op.store ho hx rfl hT rfl (gR.1 h1) s k hk (jb D) hcs hM K
theorem Op.bx (d:Nat) (T:TypeId) (x:Operand) (cs:Array Value) (s:St h0 g0 S0 g Lk h) (K:∀b h',St h0 g0 S0 g ([(b,.cells cs T (0,0))]::Lk) h'→Op C ds i r M Ls ((d,.pointer (some ⟨b,0,none⟩))::e) h')
    (ho:c7 C i j e=some (some d,.box T x):=by kernel_rfl) (hc:(e.ev x).cells=cs:=by kernel_rfl):Op C ds i r M ((j,false)::Ls) e h:=Op.box ho hc s K
def F1 (C:fC) (i j:Nat) (e:Env):Option (Nat×Nat×TypeId×Array Value):=
  match c7 C i j e with
  |some (some d,.buildSlice T len iF)=>(Bm C.P T len (iF.map fun(k,x)=>(k,e.ev x)).toList).map fun q=>(d,len,q.1,q.2)
  |_=>none
theorem Op.ls (d len:Nat) (E:TypeId) (cs:Array Value) (s:St h0 g0 S0 g Lk h) (K:∀b h',St h0 g0 S0 g ([(b,.cells cs E (0,0))]::Lk) h'→Op C ds i r M Ls ((d,.slice (some ⟨b,0,none⟩) len len)::e) h')
    (ho:F1 C i j e=some (d,len,E,cs):=by kernel_rfl):Op C ds i r M ((j,false)::Ls) e h:=by
  unfold F1 at ho
  split at ho
  · rename_i u T D iF hq
    obtain⟨q,h1,h2⟩:=q6.1 ho
    obtain⟨G,I⟩:=q
    simp only[iB] at h2
    obtain⟨rfl,rfl,rfl,rfl⟩:=h2
    exact Op.lit hq rfl h1 s K
  · cases ho
theorem Op.cl (d:Option Nat) (n:Nat) {f:FuncId} {args:Array Value} {u:Value→GH→List au→Prop} (s:St h0 g0 S0 g Lk h) (H:aA C.P C.B f args h g (Lk.take n) u)
    (K:∀v g' D h',aG g g'→St h0 g0 S0 g' (D++Lk.drop n) h'→u v g' D→Op C ds i r M Ls (e.gd d v) h') (hM:∀b,b<r.size→aM (Lk.take n) b→M b:=by intros;trivial) (ho:qy C i j e=some (d,f,args):=by kernel_rfl):Op C ds i r M ((j,false)::Ls) e h:=
  Op.call (L:=Lk.drop n) ho (by rwa[mJ]) H hM K
theorem Op.le (d:Option Nat) (n:Nat) {u:au} {f:FuncId} {args:Array Value} {D:Value→GH→List au→Prop} (s:St h0 g0 S0 g (u::Lk) h) (H:aA C.P C.B f args h (cQ g u) (Lk.take n) D) (hq:∀v g' L',D v g' L'→g'=cQ g u)
    (K:∀v G h',St h0 g0 S0 g (u::(G++Lk.drop n)) h'→D v (cQ g u) G→Op C ds i r M Ls (e.gd d v) h') (hM:∀b,b<r.size→aM (Lk.take n) b→M b:=by intros;trivial) (ho:qy C i j e=some (d,f,args):=by kernel_rfl):Op C ds i r M ((j,false)::Ls) e h:=
  Op.M_ (L:=Lk.drop n) ho (by rwa[mJ]) H hq hM K
end
section
variable {h0:av} {g0:GH} {S0:Nat→Prop} {g:GH} {L:List au} {h:av}
theorem St.mg (n:Nat) (s:St h0 g0 S0 g L h):St h0 g0 S0 g (cat (L.take n)::L.drop n) h:=St.aX (by rw[cg,tc,←mG,mJ]) s
theorem St.sp (cs:List au) (s:St h0 g0 S0 g (cat cs::L) h):St h0 g0 S0 g (cs++L) h:=St.aX (by rw[cg,tc,←mG]) s
theorem St.un (cs:List au) {c:au} {p:Nat×Obj} (e:c=p::cat cs) (s:St h0 g0 S0 g (c::L) h):St h0 g0 S0 g ([p]::(cs++L)) h:=
  St.aX (by rw[e,tc,cg,cg,mG];simp only[dM,dY]) s
theorem St.pt (n:Nat) (s:St h0 g0 S0 g L h):St h g (aM (L.take n)) g (L.take n) h:=St.part (L:=L.drop n) (by rwa[mJ])
end
section
variable {C:fC} {ds:List Deferred} {i j:Nat} {r:av} {M:Nat→Prop} {L Ls:List (Nat×Bool)} {e e':Env} {h:av}
variable {h0:av} {g0:GH} {S0:Nat→Prop} {g:GH} {Lk:List au}
theorem Op.lf (T:TypeId) (x:Operand) (o d n:Nat) (v:Value) {b:Nat} {cs:Array Value} {u:TypeId} {fz:Nat×Nat} (hM:¬M b) (hb:r[b]?=some (.cells cs u fz)) (K:Op C ds i r M Ls ((d,v)::e) h)
    (ho:c7 C i j e=some (some d,.load T x):=by kernel_rfl) (hx:e.ev x=.pointer (some ⟨b,o,none⟩):=by kernel_rfl) (hT:kC C.P T=some (false,n):=by kernel_rfl) (hv:cs[o]?=some v:=by kernel_rfl):Op C ds i r M ((j,true)::Ls) e h:=Op.fQ ho hx hT hM hb hv K
theorem Op.ap {α:Type} (x y:Operand) (t t':TypeId) (dst:Nat) (E:TypeId) (cR:Nat) (d:Kd α) {v:Value} {xs ys:List α} {c:au} {m:Nat} {news:List Value} {g1:GH}
    (hv:aF E d g1 v xs c) (s:St h0 g0 S0 g Lk h) (k:Nat) (hys:Reads d g1 ys news) (hlen:(xs.length+ys.length)*cR≤140737488355328) (hM:∀p∈c,p.1<r.size→M p.1) (hy:di C.P h d.sz (e.ev y) m news)
    (K:∀u c' h',aF E d g1 u (xs++ys) c'→St h0 g0 S0 g (Lk.set k c') h'→(u=.slice none 0 0→xs++ys=[])→Op C ds i r M Ls ((dst,u)::e) h')
    (ho:c7 C i j e=some (some dst,.call {callee:=.builtin .append,args:=#[x,y],argTypes:=#[t,t']}):=by kernel_rfl) (hI:kD C.P t=some (E,d.sz,cR):=by kernel_rfl) (ht':uz C.P t'=true:=by kernel_rfl) (hz:((C.P.info? E).bind (·.zero)).map (·.cells.toList)=some d.zc:=by kernel_rfl)
    (hx:e.ev x=v:=by rfl) (hk:Lk[k]?=some c:=by rfl) (hm:ys.length=m:=by rfl):Op C ds i r M ((j,false)::Ls) e h:=Op.append ho hI ht' hz hx hv s k hk hy hys hm hlen hM K
theorem At.dw (M:Nat→Prop) (L:List (Nat×Bool)) (H:Op C ds i h M L e h) (hm:C.P.follows .mixedOrders=true:=by kernel_rfl) (hL:A7 (pt C.code i) L=true:=by kernel_rfl):At C ds i e h:=At.nG hm M L hL H
theorem Op.ba {k:Nat} (H:Op C ds i #[] (fun _=>True) L e h) (hk:(Nat.ble 1000 k&&!(Nat.ble 2000 k))=true:=by kernel_rfl):Op C ds i r M ((k,false)::L) e h:=Op.Ml hk H
theorem At.rm {P:Program} {B:World} {fn:FuncId} {R:Value→av→Prop} (f:Func) (vs:List Value) (rl:List ResultVar) (v:Value) (hv:pG P e h rl vs) (H:R v h)
    (hi:mZ (pt (cJ f) i)=true:=by kernel_rfl) (hr:f.results.toList=rl:=by kernel_rfl) (u:(if hs:vs.toArray.size=1 then vs.toArray[0] else .tuple vs.toArray)=v:=by rfl):At (bS P B fn f R) [] i e h:=At.Fq hi hr hv u H
theorem Op.cv (dst:Option Tmp) (x:Operand) (ops:Array Operand) (ts:Array TypeId) (f:FuncId) (first cap:Array Value) (Lc L:List au) (args:Array Value) {u:Value→GH→List au→Prop} (hf:ei C.P f) (ha:first++ops.map e.ev++cap=args)
    (s:St h0 g0 S0 g (Lc++L) h) (H:aA C.P C.B f args h g Lc u) (hM:∀b,b<r.size→aM Lc b→M b)
    (K:∀v g' D h',aG g g'→St h0 g0 S0 g' (D++L) h'→u v g' D→Op C ds i r M Ls (e.gd dst v) h')
    (ho:c7 C i j e=some (dst,.call {callee:=.value x,args:=ops,argTypes:=ts}):=by kernel_rfl) (hx:e.ev x=.func (.func f) first cap:=by kernel_rfl):Op C ds i r M ((j,false)::Ls) e h:=Op.MD ho hx hf ha s H hM K
theorem Op.sq (T E:TypeId) (sz cR:Nat) (x lo:Operand) (ao:Option Addr) (n c dst:Nat) (k:IntKind) (m:Int) {b:Bool} (h0:0≤m) (h1:m≤n) (K:Op C ds i r M Ls ((dst,.slice (ek ao m.toNat c sz) (n-m.toNat) (c-m.toNat))::e) h)
    (ho:c7 C i j e=some (some dst,.slice T x (some lo) none none):=by kernel_rfl) (hE:kD C.P T=some (E,sz,cR):=by kernel_rfl) (hx:e.ev x=.slice ao n c:=by kernel_rfl) (hlo:e.ev lo=.int k m:=by kernel_rfl):Op C ds i r M ((j,b)::Ls) e h:=Op.Fe ho hE hx hlo h0 h1 K
instance {n:Nat}:OfNat Operand n:=⟨.tmp n⟩
abbrev vQ (b o:Nat):Value:=.pointer (some ⟨b,o,none⟩)
abbrev vN:Value:=vL none 0 0
theorem Op.vq (d:Nat) (n:Int) {b:Bool} (K:Op C ds i r M Ls ((d,.int .i64 n)::e) h) (h0: -9223372036854775808≤n:=by omega) (h1:n≤9223372036854775807:=by omega) (ho:valOf C i j e=some (some d,.int .i64 (IntKind.wrap .i64 n)):=by kernel_rfl):
    Op C ds i r M ((j,b)::Ls) e h:=Op.dQ d n h0 h1 K ho
theorem Op.iq (T E:TypeId) (sz cR:Nat) (n c:Nat) (x ix:Operand) (d u o:Nat) (m:Int) {b:Bool} (K:Op C ds i r M Ls ((d,.pointer (some ⟨u,o+m.toNat*sz,none⟩))::e) h) (h0:0≤m:=by omega) (h1:m<n:=by omega)
    (ho:c7 C i j e=some (some d,.indexAddr T x ix):=by kernel_rfl) (hE:kD C.P T=some (E,sz,cR):=by kernel_rfl) (hx:e.ev x=.slice (some ⟨u,o,none⟩) n c:=by kernel_rfl) (D:e.ev ix=.int .i64 m:=by kernel_rfl):
    Op C ds i r M ((j,b)::Ls) e h:=Op.ix T E sz cR n c x ix d u o m h0 h1 K ho hE hx D
theorem cD {α:Type} (l:List α) (i:Int) (h:i.toNat<l.length:=by omega):∃c,l[i.toNat]?=some c:=j6 h
theorem Op.l1 (T:TypeId) (x:Operand) (d o:Nat) (v:Value) {b:Nat} {cs:Array Value} {u:TypeId} {fz:Nat×Nat} (hb:h[b]?=some (.cells cs u fz))
    (K:Op C ds i r M Ls ((d,v)::e) h) (hv:cs[o]?=some v:=by kernel_rfl) (ho:c7 C i j e=some (some d,.load T x):=by kernel_rfl) (hx:e.ev x=.pointer (some ⟨b,o,none⟩):=by kernel_rfl)
    (hT:kC C.P T=some (false,1):=by kernel_rfl):Op C ds i r M ((j,false)::Ls) e h:=Op.ld (n:=1) T x d o v hb K hv ho hx hT
theorem Op.pr {P:Program} {B:World} {fn:FuncId} {f:Func} {R:Value→av→Prop} (k t:Nat) (v:Value) (H:R v h) (hp:(lN P (bS P B fn f R).n (iE (pt (cJ f) i)) L.length L e).map (fun x=>Env.news x.2 e [(t,v)])=some ([some v],true):=by kernel_rfl)
    (hj:norm 1000 (pt (cJ f) i).tail=pt (cJ f) k:=by kernel_rfl) (hi:mZ (pt (cJ f) k)=true:=by kernel_rfl) (hv:sP f ((t,v)::e)=some v:=by kernel_rfl):Op (bS P B fn f R) [] i r M L e h:=Op.pg k [(t,v)] (At.rt v H hi hv) hp hj
theorem At.gr {P:Program} {B:World} {fn:FuncId} {f:Func} {R:Value→av→Prop} (k n t:Nat) (v:Value) (H:R v h) (hL:uu (pt (cJ f) i)=some (rl n 0):=by kernel_rfl)
    (hp:(lN P (bS P B fn f R).n (iE (pt (cJ f) i)) (rl n 0).length (rl n 0) e).map (fun x=>Env.news x.2 e [(t,v)])=some ([some v],true):=by kernel_rfl)
    (hj:norm 1000 (pt (cJ f) i).tail=pt (cJ f) k:=by kernel_rfl) (hi:mZ (pt (cJ f) k)=true:=by kernel_rfl) (hv:sP f ((t,v)::e)=some v:=by kernel_rfl):At (bS P B fn f R) [] i e h:=At.go k n [(t,v)] (At.rt v H hi hv) hL hp hj
theorem aA.aq {P:Program} {B:World} {fn:FuncId} {f:Func} {args:Array Value} {h:av} {g:GH} {Lc:List au} {D:Value→GH→List au→Prop} (hf:P.funcs[fn]?=some f)
    (H:∀R:Value→av→Prop,(∀{v h' g' u},St h g (aM Lc) g' u h'→D v g' u→R v h')→At (bS P B fn f R) [] 0 (qt args.toList 0) h) (hb:f.body.isSome=true:=by kernel_rfl) (hn:Nat.ble args.size f.ntmps=true:=by kernel_rfl)
    (h0:norm 1000 [.code (qs f)]=pt (cJ f) 0:=by kernel_rfl):aA P B fn args h g Lc D:=aA.Nv hf (fun R hR=>H R fun{v h' g' u} a b=>hR v h' g' u a b) hb hn h0
theorem zt {p:Prop} (_:p):True:=trivial
theorem zs {α:Type} {a b:α} (h:a=b:=by kernel_rfl):some a=some b:=congrArg some h
abbrev zr (vs:List Value):Value:=match vs with
  |[a]=>a
  |l=>.tuple l.toArray
theorem Nx (vs:List Value):(if hs:vs.toArray.size=1 then vs.toArray[0] else .tuple vs.toArray)=zr vs:=by
  match vs with
  |[]=>rfl
  |[a]=>rfl
  |a::b::l=>
   rw[dif_neg (by simp)]
theorem At.rn {P:Program} {B:World} {fn:FuncId} {R:Value→av→Prop} (f:Func) (vs:List Value) (rl:List ResultVar) (hv:pG P e h rl vs) (H:R (zr vs) h)
    (hi:mZ (pt (cJ f) i)=true:=by kernel_rfl) (hr:f.results.toList=rl:=by kernel_rfl):At (bS P B fn f R) [] i e h:=At.Fq hi hr hv (Nx vs) H
end
section
variable {h0:av} {g0:GH} {S0:Nat→Prop} {g:GH} {h:av}
abbrev vF:Value:=.bool false
abbrev vT:Value:=.bool true
def BR:List Nat→List au→Option (List au)
  |[],L=>some L
  |k::ks,L=>match L[k]? with
   |some c=>BR ks (c::L.eraseIdx k)
   |none=>none
theorem St.fs:∀{L:List au} (_:St h0 g0 S0 g L h) (ks:List Nat) {L':List au},BR ks L=some L'→St h0 g0 S0 g L' h
  |L,s,[],L',e=>by cases e;exact s
  |L,s,k::ks,L',e=>by
   unfold BR at e
   split at e
   · exact St.fs (s.sQ k ‹_›) ks e
   · cases e
theorem Ny {A:List au} {b:Nat} (hi:aM A b):∃c∈A,aM [c] b:=by
  obtain⟨p,hp,e⟩:=hi
  obtain⟨c,hc,hp⟩:=q7.1 hp
  exact⟨c,hc,p,by simpa using hp,e⟩
theorem St.dF {L:List au} (s:St h0 g0 S0 g L h) (i:Nat) (u:List Nat) {b:Nat} {o:Obj} {A:List au} (D:u.all (fun j=>!Nat.beq i j)=true) (h1:L[i]?=some [(b,o)]) (hA:u.map (fun j=>L[j]?)=A.map some):¬aM A b:=by
  intro h
  obtain⟨c,hc,hi⟩:=Ny h
  have:some c∈u.map (fun j=>L[j]?):=hA▸List.mem_map_of_mem hc
  obtain⟨j,hj,e⟩:=cF.1 this
  have hb:=gR.1 D j hj
  exact s.apart i j (by simpa using hb) h1 e hi
end
structure af where
  aa:aj
  Data:aj
  ak:Int
  aE:Int
  Next:Int
  aO:Int
  deriving DecidableEq
def kJ:Kd af where
  sz:=6
  K g x cs:=∃v0,ay g 5 bn v0 x.Data∧cs=[.string (a_ x.aa),v0,.int .i64 x.ak,.int .i64 x.aE,.int .i64 x.Next,.int .i64 x.aO]
  len h:=by obtain⟨v0,h0,rfl⟩:=h;rfl
  one h:=by
    obtain⟨v0,h0,rfl⟩:=h
    obtain⟨_,_,rfl⟩:=h0.ai
    simp[Value.oneCell']
  mono hg h:=by obtain⟨v0,h0,rfl⟩:=h;exact⟨v0,h0.mono hg,rfl⟩
  zv:=⟨[],[],0,0,0,0⟩
  zc:=[.string (a_ []),.slice none 0 0,.int .i64 0,.int .i64 0,.int .i64 0,.int .i64 0]
  zK _:=⟨_,ay.nil _ _ _,rfl⟩
structure ah where
  Client:Int
  Kind:Int
  aa:aj
  deriving DecidableEq
def cu:Kd ah where
  sz:=3
  K _ x cs:=cs=[.int .i64 x.Client,.int .i64 x.Kind,.string (a_ x.aa)]
  len h:=by subst h;rfl
  one h:=by subst h;simp[Value.oneCell']
  mono _ h:=h
  zv:=⟨0,0,[]⟩
  zc:=[.int .i64 0,.int .i64 0,.string (a_ [])]
  zK _:=rfl
structure cM where
  Client:Int
  aJ:Int
  cA:Int
  deriving DecidableEq
def nL:Kd cM where
  sz:=3
  K _ x cs:=cs=[.int .i64 x.Client,.int .i64 x.aJ,.int .i64 x.cA]
  len h:=by subst h;rfl
  one h:=by subst h;simp[Value.oneCell']
  mono _ h:=h
  zv:=⟨0,0,0⟩
  zc:=[.int .i64 0,.int .i64 0,.int .i64 0]
  zK _:=rfl
structure fV where
  Client:Int
  bz:Int
  Data:aj
  deriving DecidableEq
def ni:Kd fV where
  sz:=3
  K g x cs:=∃v0,ay g 5 bn v0 x.Data∧cs=[.int .i64 x.Client,.int .i64 x.bz,v0]
  len h:=by obtain⟨v0,h0,rfl⟩:=h;rfl
  one h:=by
    obtain⟨v0,h0,rfl⟩:=h
    obtain⟨_,_,rfl⟩:=h0.ai
    simp[Value.oneCell']
  mono hg h:=by obtain⟨v0,h0,rfl⟩:=h;exact⟨v0,h0.mono hg,rfl⟩
  zv:=⟨0,0,[]⟩
  zc:=[.int .i64 0,.int .i64 0,.slice none 0 0]
  zK _:=⟨_,ay.nil _ _ _,rfl⟩
structure bu where
  Client:Int
  bz:Int
  bw:Int
  uI:aj
  deriving DecidableEq
structure f_ where
  stamp:Int
  data:aj
  deriving DecidableEq
structure Result where
  Code:Int
  bg:Int
  At:Int
  af:af
  bF:List aj
  aW:List ah
  deriving DecidableEq
structure gf where
  bw:Int
  bg:Int
  cy:List af
  cX:List ah
  dG:List cM
  aW:List ah
  cw:List fV
  deriving DecidableEq
structure F2 where
  ey:Bool
  data:Bool
  j7:Bool
  dO:Bool
  make:Bool
  watch:Bool
  ops:Bool
  deriving DecidableEq
theorem F3 (a b:ah):((a.Client==b.Client)&&((a.Kind==b.Kind)&&((a_ a.aa==a_ b.aa)&&true)))=decide (a=b):=by
  obtain⟨a0,a1,a2⟩:=a;obtain⟨b0,b1,b2⟩:=b
  rw[oI];simp[Fo,bO,ah.mk.injEq]
theorem Nz {s p:aj}:(s.take p.length==p)=p.isPrefixOf s:=by
  rw[oI,kz,rz,List.prefix_iff_eq_take]
  exact eq_comm
theorem NA {s p:aj} (h:s.length<p.length):p.isPrefixOf s=false:=by
  rw[←wO,rz]
  intro hp
  have:=hp.length_le
  omega
theorem F4 {s p:aj} (h:p.isPrefixOf s=true):p.length≤s.length:=(rz.1 h).length_le
theorem NB {l:aj} (h:l.all (fun b=>decide (b.toNat<128))=true):∀(j:Nat) b,l[j]?=some b→b.toNat<128:=
  fun _ b hb=>iR (gR.1 h b (cL hb))
def yZ:aj:=[97,98,99,100,101,102,103,104,105,106,107,108,109,110,111,112,113,114,115,116,117,118,119,120,121,122,48,49,50,51,52,53,54,55,56,57,45,95]
def wV (c:UInt8):Bool:=(decide (97≤c.toNat)&&decide (c.toNat≤122))||((decide (48≤c.toNat)&&decide (c.toNat≤57))||(decide (c.toNat=45)||decide (c.toNat=95)))
theorem F5 (c:UInt8):yZ.contains c=wV c:=by
  revert c
  have:∀n:Fin 256,yZ.contains (UInt8.ofNat n.1)=wV (UInt8.ofNat n.1):=by decide+kernel
  intro c
  have h:=this ⟨c.toNat,c.toNat_lt⟩
  simpa using h
def gz (s:aj):Bool:=decide (s≠[])&&(decide (s.length≤16)&&s.all wV)
theorem NC (s:aj):(Lib.trimS s yZ==[])=s.all wV:=by
  rw[oI,kz,M5,gR]
  constructor
  · intro h b hb;rw[←F5];exact h b hb
  · intro h b hb;rw[F5];exact h b hb
theorem ND {s:aj} (h0:¬(s=[])) (h1:(s.length:Int)≤16):(Lib.trimS s yZ==[])=gz s:=by
  rw[NC,gz,eW h0,eW (by omega),lP,lP]
theorem NF {s:aj} (h:¬((s.length:Int)≤16)):false=gz s:=by
  rw[gz,fU (show ¬s.length≤16 by omega)];simp
theorem NG:false=gz []:=by simp[gz]
def eC {α:Type} (q:α→Bool):List α→Int
  |[]=> -1
  |x::xs=>if q x=true then 0 else if eC q xs<0 then -1 else eC q xs+1
theorem wW {α:Type} (q:α→Bool):∀l, -1≤eC q l
  |[]=>by simp[eC]
  |x::xs=>by unfold eC;have:=wW q xs;split<;>(try split)<;>omega
theorem uJ {α:Type} (q:α→Bool):∀l,decide (0≤eC q l)=l.any q
  |[]=>by simp[eC]
  |x::xs=>by
   have ih:=uJ q xs
   unfold eC
   rw[wP,←ih]
   by_cases h:q x=true
   · simp[h]
   · by_cases h2:eC q xs<0
     · simp[h,h2]
     · simp[h,h2];omega
def findAt {α:Type} (q:α→Bool) (l:List α) (i:Int):Prop:=eC q l=if eC q (l.drop i.toNat)<0 then -1 else i+eC q (l.drop i.toNat)
theorem uK {α:Type} (q:α→Bool) (l:List α):findAt q l 0:=by
  unfold findAt
  have:=wW q l
  simp only[yN,ux,Int.zero_add]
  split<;>omega
theorem td {α:Type} {q:α→Bool} {l:List α} {i:Int} {x:α} (H:findAt q l i) (hx:l[i.toNat]?=some x) (hq:q x=true):i=eC q l:=by
  unfold findAt at H
  rw[H,drop_at hx]
  simp[eC,hq]
theorem uL {α:Type} {q:α→Bool} {l:List α} {i:Int} {x:α} (H:findAt q l i) (h0:0≤i) (hx:l[i.toNat]?=some x) (hq:q x=false):findAt q l (i+1):=by
  unfold findAt at H ⊢
  have hg:=wW q (l.drop (i.toNat+1))
  rw[H,drop_at hx,toNat_succ h0]
  simp only[eC,hq,fZ,de]
  split<;>split<;>(try split)<;>omega
theorem tf {α:Type} {q:α→Bool} {l:List α} {i:Int} (H:findAt q l i) (h:¬(i<(l.length:Int))): -1=eC q l:=by
  unfold findAt at H
  rw[H,mH (by omega)]
  simp[eC]
def eX (p:aj):Bool:=decide (p.head?=some 47)&&(decide (p.length≤64)&&(decide (p=[47])||(splitOn 47 (p.drop 1)).all gz))
def bT (p:aj):List aj:=if eX p=true then (if p=[47] then [] else splitOn 47 (p.drop 1)) else []
def cP (p:aj):Int:=if eX p=true then 0 else 90
theorem F6 (p:aj):([47]:aj).isPrefixOf p=decide (p.head?=some 47):=by
  cases p with
  |nil=>simp[List.isPrefixOf]
  |cons b l=>
   by_cases h:b=47
   · simp[List.isPrefixOf,h]
   · simp[List.isPrefixOf,h];exact fun e=>h e.symm
theorem F7 {p:aj} (h:([47]:aj).isPrefixOf p=false):eX p=false:=by
  rw[F6] at h;simp[eX,h]
theorem y9 {p:aj} (h:64<p.length):eX p=false:=by
  simp[eX];intro _ h2;omega
theorem F8 {p:aj} (h:([47]:aj).isPrefixOf p=true) (hl:p.length≤64):eX p=(decide (p=[47])||(splitOn 47 (p.drop 1)).all gz):=by
  rw[F6] at h;simp[eX,h,hl]
theorem BS {p:aj} (h:([47]:aj).isPrefixOf p=true):p.drop 1=[]↔p=[47]:=by
  cases p with
  |nil=>simp[List.isPrefixOf] at h
  |cons b l=>
   simp[List.isPrefixOf] at h
   subst h
   simp
theorem F9 (c:UInt8) (l:aj):(splitOn c l).length≤l.length+1:=by
  rw[Bq];have:=List.count_le_length (a:=c) (l:=l);omega
theorem nM (p:aj):(bT p).length≤64:=by
  unfold bT
  split
  · rename_i h
    split
    · simp
    · have h2:=F9 47 (p.drop 1)
      simp[eX] at h
      rw[gx] at h2
      have:p.length≠0:=by intro e;have:=lg e;subst this;simp at h
      omega
  · simp
def b9 (p:aj):Int:=if bT p=[] then 90 else 0
def mK (l:List aj):aj:=l.getLast?.getD []
def joined (l:List aj):aj:=47::fy 47 l
def parentOf (p:aj):aj:=if bT p=[] then [] else joined (bT p).dropLast
def nameOf (p:aj):aj:=mK (bT p)
def l9 (p:aj):aj:=if eX p=true then p else []
def F_ (parent:aj) (iF:List aj):aj:=if eX parent&&iF.all gz then l9 (joined (bT parent++iF)) else []
def Ga (parent:aj) (iF:List aj):Int:=if eX parent&&iF.all gz then cP (joined (bT parent++iF)) else 90
def wX (n:Int):aj:=Lib.repeatL [48] (5-(Lib.itoa n).length)++Lib.itoa n
def lQ (p:aj) (n:Int):Bool:=decide (bT p≠[])&&(decide (0≤n)&&decide (n≤99999))
def eH (p:aj) (n:Int):aj:=if lQ p n then l9 (p++wX n) else []
def j8 (p:aj) (n:Int):Int:=if lQ p n then cP (p++wX n) else 90
def rF (p top:aj):Bool:=(eX p&&eX top)&&(p==top||(top==[47]||(top++[47]).isPrefixOf p))
theorem BT (l:List aj):Lib.join l [47]=fy 47 l:=by
  induction l with
  |nil=>rfl
  |cons x xs ih=>
   cases xs with
   |nil=>simp[Lib.join,List.intercalate,fy]
   |cons y ys=>
    rw[fy,←ih]
    simp[Lib.join,List.intercalate]
theorem j9 {p:aj}:cP p=0↔eX p=true:=by unfold cP;split<;>simp_all
theorem BU {p:aj} (h:¬(cP p=0)):bT p=[]:=by
  rw[j9] at h;simp[bT,h]
theorem NH {l:List aj} {x:aj} {n:Nat} (h:l[n]?=some x) (hn:n+1=l.length):x=mK l:=by
  unfold mK
  rw[List.getLast?_eq_getElem?,show l.length-1=n from by omega,h];rfl
theorem Gb {p:aj} (h:¬((bT p).length=0)):b9 p=0:=by
  unfold b9;rw[aB];intro e;rw[e] at h;simp at h
theorem uM {p:aj} (h:eX p=false):([]:List aj)=bT p∧(90:Int)=cP p:=by simp[bT,cP,h]
theorem Gc (c:UInt8):∀(l:aj),∀x∈splitOn c l,x.length≤l.length
  |[],x,hx=>by simp[splitOn] at hx;subst hx;simp
  |b::l,x,hx=>by
   have ih:=Gc c l
   unfold splitOn at hx
   split at hx
   · rcases fe.1 hx with rfl|hx
     · simp
     · have:=ih x hx;simp;omega
   · split at hx
     · rename_i y ys hy
       rw[hy] at ih
       rcases fe.1 hx with rfl|hx
       · have:=ih y (by simp);simp;omega
       · have:=ih x (by simp[hx]);simp;omega
     · rename_i hy;exact absurd hy (yK c l)
def nj (p:aj):aj:=if ([47]:aj).isPrefixOf p=true then p.drop ([47]:aj).length else p
theorem BV (p:aj):(nj p).length≤p.length:=by unfold nj;split<;>simp
theorem wY {p:aj} (h:([47]:aj).isPrefixOf p=true):nj p=p.drop 1:=by simp[nj,h]
theorem Gd {p:aj} (h:([47]:aj).isPrefixOf p=true) (hl:¬(p.length:Int)>64) (hr:nj p=[]):([]:List aj)=bT p∧(0:Int)=cP p:=by
  rw[wY h,BS h] at hr
  subst hr
  exact⟨by decide,by decide⟩
theorem Ge {p:aj} (h:([47]:aj).isPrefixOf p=true) (hl:¬(p.length:Int)>64) (hr:¬(nj p=[])) (ha:(splitOn 47 (nj p)).any (fun s=>!gz s)=true):eX p=false:=by
  rw[wY h,BS h] at hr
  rw[wY h] at ha
  rw[F8 h (by omega),fU hr,qA]
  rw[←wO]
  intro hall
  rw[oG] at ha
  obtain⟨x,hx,hb⟩:=ha
  rw[gR] at hall
  rw[hall x hx] at hb
  cases hb
theorem Gf {p:aj} (h:([47]:aj).isPrefixOf p=true) (hl:¬(p.length:Int)>64) (hr:¬(nj p=[])) (ha:(splitOn 47 (nj p)).any (fun s=>!gz s)=false):splitOn 47 (nj p)=bT p∧(0:Int)=cP p:=by
  rw[wY h,BS h] at hr
  rw[wY h] at ha ⊢
  have hok:eX p=true:=by
    rw[F8 h (by omega),fU hr,qA,gR]
    intro x hx
    rw[BB] at ha
    have:=ha x hx
    simpa using this
  simp[bT,cP,hok,hr]
theorem uN {p:aj} (h:bT p=[]):([]:List aj)=(bT p).dropLast∧([]:aj)=mK (bT p)∧(90:Int)=b9 p:=by
  simp[h,mK,b9]
theorem NI {l:List aj} {n:Int} (h:n=(l.length:Int)-1) (h0:¬((l.length:Int)=0)):l.take n.toNat=l.dropLast:=by
  rw[List.dropLast_eq_take]
  congr 1
  omega
theorem BW (c:UInt8) (x:aj) (l:List aj):(fy c (x::l)).length=x.length+(if l=[] then 0 else 1+(fy c l).length):=by
  cases l with
  |nil=>simp[fy]
  |cons y ys=>simp[fy];omega
theorem BX (c:UInt8):∀l:List aj,(fy c l.dropLast).length≤(fy c l).length
  |[]=>by simp
  |[x]=>by simp[fy]
  |x::y::l=>by
   have ih:=BX c (y::l)
   rw[List.dropLast_cons_cons,BW,BW]
   split<;>simp<;>omega
theorem rG {p:aj} (h:eX p=true):joined (bT p)=p:=by
  unfold bT
  rw[aL h]
  have hh:p.head?=some 47:=by simp[eX] at h;exact h.1
  split
  · rename_i e;subst e;rfl
  · unfold joined
    rw[Ft]
    cases p with
    |nil=>simp at hh
    |cons b l=>simp at hh;subst hh;simp
theorem NJ (p:aj):(fy 47 (bT p)).length≤p.length:=by
  by_cases h:eX p=true
  · have:=congrArg List.length (rG h)
    simp[joined] at this
    omega
  · simp[bT,h,fy]
theorem NK (p:aj):(fy 47 (bT p).dropLast).length≤p.length:=cr (BX _ _) (NJ p)
theorem NL (p:aj):(bT p).dropLast.length≤64:=by have:=nM p;simp;omega
theorem Gg {p:aj} (h:b9 p=0):bT p≠[]:=by intro e;simp[b9,e] at h
theorem Gh {p:aj} (h:¬(b9 p=0)):bT p=[]:=by
  unfold b9 at h;split at h
  · assumption
  · simp at h
theorem NM {p:aj} (h:¬(b9 p=0)):[]=parentOf p:=by simp[parentOf,Gh h]
theorem NN {p:aj} (h:b9 p=0):joined (bT p).dropLast=parentOf p:=by simp[parentOf,Gg h]
theorem NO {p:aj} (h:¬(cP p=0)):[]=l9 p:=by rw[j9] at h;simp[l9,h]
theorem Gi {p:aj} (h:cP p=0):p=l9 p∧0=cP p:=by rw[h];rw[j9] at h;simp[l9,h]
theorem uO {n:Int} (h0:0≤n) (h1:n≤99999):1≤(Lib.itoa n).length∧(Lib.itoa n).length≤5:=by
  rw[Lib.itoa,aB (by omega),Lib.decDigits_length]
  refine⟨Lib.nDigits_pos _,?_⟩
  have hu:n.toNat≤99999:=by omega
  generalize n.toNat=u at hu
  by_cases a1:u<10
  · rw[Lib.nDigits_small a1];omega
  by_cases a2:u<100
  · rw[Lib.nDigits_unique 1 u (by omega) (by omega)];omega
  by_cases a3:u<1000
  · rw[Lib.nDigits_unique 2 u (by omega) (by omega)];omega
  by_cases a4:u<10000
  · rw[Lib.nDigits_unique 3 u (by omega) (by omega)];omega
  · rw[Lib.nDigits_unique 4 u (by omega) (by omega)];omega
theorem tg {p:aj} {n:Int} (h:lQ p n=false):[]=eH p n∧(90:Int)=j8 p n:=by simp[eH,j8,h]
theorem Gj {p:aj} {n:Int} (h:¬(b9 p=0)):lQ p n=false:=by simp[lQ,Gh h]
theorem Gk {p:aj} {n:Int} (h:n<0):lQ p n=false:=by simp[lQ];intros;omega
theorem Gl {p:aj} {n:Int} (h:n>99999):lQ p n=false:=by simp[lQ];intros;omega
theorem Gm {p:aj} {n:Int} (h:b9 p=0) (h0:¬n<0) (h1:¬n>99999):lQ p n=true:=by simp[lQ,Gg h];omega
theorem Gn {p:aj} {n:Int} (h:lQ p n=true) {k:Nat} (hk:k=5-(Lib.itoa n).length):l9 ((p++Lib.repeatL [48] k)++Lib.itoa n)=eH p n∧cP ((p++Lib.repeatL [48] k)++Lib.itoa n)=j8 p n:=by
  subst hk
  simp[eH,j8,h,wX,cI]
section
variable {α:Type} [DecidableEq α]
theorem wZ {a b:List α} (h:¬((a.length:Int)=b.length)):false=decide (a=b):=by
  symm;rw[jP];intro e;subst e;exact h rfl
theorem w4 {a b:List α} {i:Nat} {x y:α} (hx:a[i]?=some x) (hy:b[i]?=some y) (h:¬(x=y)):false=decide (a=b):=by
  symm;rw[jP];intro e;subst e;rw[hx] at hy;exact h (fT hy)
theorem w5 {a b:List α} {i:Int} (hl:(a.length:Int)=b.length) (h:¬(i<(a.length:Int))) (ht:a.take i.toNat=b.take i.toNat):true=decide (a=b):=by
  symm;rw[decide_eq_true_iff];rwa[eR (by omega),eR (by omega)] at ht
end
theorem uP {α:Type} {a b:List α} {i:Int} {x y:α} (ht:a.take i.toNat=b.take i.toNat) (h0:0≤i) (hx:a[i.toNat]?=some x) (hy:b[i.toNat]?=some y) (e:x=y):a.take (i+1).toNat=b.take (i+1).toNat:=by
  rw[toNat_succ h0,fu hx,fu hy,ht,e]
def wh (l:List aj):aj:=(l.map fun x=>47::x).flatten
theorem y_:∀l:List aj,l≠[]→wh l=joined l
  |[],h=>absurd rfl h
  |[x],_=>by simp[wh,joined,fy]
  |x::y::l,_=>by
   have ih:=y_ (y::l) (by simp)
   simp only[wh,e_,cg] at ih ⊢
   rw[ih];simp[joined,fy]
def za (p t:aj):Bool:=(eX p&&eX t)&&(bT t).isPrefixOf (bT p)
def low:Nat→Nat→aj
  |0,_=>[]
  |k+1,n=>UInt8.ofNat (48+n / 10 ^ k % 10)::low k n
theorem NP {n:Int} (h0:0≤n) (h1:n≤99999):low 5 n.toNat=wX n:=by
  unfold wX
  have hi:Lib.itoa n=Lib.decDigits n.toNat:=by rw[Lib.itoa,aB (by omega)]
  rw[hi]
  have hu:n.toNat≤99999:=by omega
  generalize n.toNat=u at hu
  have z:(UInt8.ofNat (48+0))=48:=rfl
  have one:∀v,v<10→Lib.decDigits v=[UInt8.ofNat (48+v)]:=fun v h=>by rw[Lib.decDigits,dif_pos h]
  have more:∀v,¬v<10→Lib.decDigits v=Lib.decDigits (v / 10)++[UInt8.ofNat (48+v % 10)]:=fun v h=>by rw[Lib.decDigits,dif_neg h]
  have d2:u / 10 / 10=u / 100:=by omega
  have d3:u / 100 / 10=u / 1000:=by omega
  have d4:u / 1000 / 10=u / 10000:=by omega
  simp only[low,Nat.pow_zero,Nat.div_one,show(10:Nat) ^ 4=10000 from rfl,show(10:Nat) ^ 3=1000 from rfl,show(10:Nat) ^ 2=100 from rfl,show(10:Nat) ^ 1=10 from rfl]
  by_cases a1:u<10
  · rw[one u a1]
    simp[Lib.repeatL,show u / 10000=0 by omega,show u / 1000=0 by omega,show u / 100=0 by omega,show u / 10=0 by omega,show u % 10=u by omega]
  by_cases a2:u<100
  · rw[more u a1,one _ (by omega)]
    simp[Lib.repeatL,show u / 10000=0 by omega,show u / 1000=0 by omega,show u / 100=0 by omega,show u / 10 % 10=u / 10 by omega]
  by_cases a3:u<1000
  · rw[more u a1,more (u / 10) (by omega),one _ (by omega)]
    simp[Lib.repeatL,show u / 10000=0 by omega,show u / 1000=0 by omega,d2,show u / 100 % 10=u / 100 by omega]
  by_cases a4:u<10000
  · rw[more u a1,more (u / 10) (by omega),more (u / 10 / 10) (by omega),one _ (by omega)]
    simp[Lib.repeatL,show u / 10000=0 by omega,d2,d3,show u / 1000 % 10=u / 1000 by omega]
  · rw[more u a1,more (u / 10) (by omega),more (u / 10 / 10) (by omega),more (u / 10 / 10 / 10) (by omega),one _ (by omega)]
    simp[Lib.repeatL,d2,d3,d4,show u / 10000 % 10=u / 10000 by omega]
theorem Gp {p:aj} (h:bT p=[]):¬(b9 p=0):=by simp[b9,h]
theorem NQ {s:aj} (h:gz s=true):s.length≤16∧1≤s.length:=by
  simp only[gz,bO,cB] at h
  refine⟨h.2.1,?_⟩
  cases s with
  |nil=>exact absurd rfl h.1
  |cons=>simp
theorem uQ (p:aj):∀x∈bT p,gz x=true:=by
  intro x hx
  unfold bT at hx
  split at hx
  · rename_i h
    split at hx
    · simp at hx
    · rename_i hne
      simp only[eX,bO,ie,gR,cB] at h
      rcases h.2.2 with e|e
      · exact absurd e hne
      · exact e x hx
  · simp at hx
theorem w6 {s:aj} (h:gz s=true):47 ∉ s:=by
  simp only[gz,bO,gR] at h
  intro hm
  have:=h.2.2 47 hm
  simp[wV] at this
theorem NR {a b:List aj} (ha:a≠[]) (hb:b≠[]):joined (a++b)=joined a++joined b:=by
  rw[←y_ _ ha,←y_ _ hb,←y_ _ (by simp[ha])]
  simp[wh]
theorem NS {a b:List aj} (ha:∀x∈a,gz x=true) (hb:∀x∈b,gz x=true) (h:joined a=joined b):a=b:=by
  have h2:fy 47 a=fy 47 b:=by simpa[joined] using h
  have key:∀l:List aj,(∀x∈l,gz x=true)→l≠[]→splitOn 47 (fy 47 l)=l:=fun l hl hne=>yM 47 l hne fun x hx=>w6 (hl x hx)
  have u:∀l:List aj,(∀x∈l,gz x=true)→l≠[]→fy 47 l≠[]:=by
    intro l hl hne e
    cases l with
    |nil=>exact hne rfl
    |cons x xs=>
     have h1:=BW 47 x xs
     rw[e] at h1
     have:=(NQ (hl x (by simp))).2
     simp at h1
     omega
  by_cases e1:a=[]
  · by_cases e2:b=[]
    · rw[e1,e2]
    · subst e1;exact absurd h2.symm (u b hb e2)
  · by_cases e2:b=[]
    · subst e2;exact absurd h2 (u a ha e1)
    · rw[←key a ha e1,←key b hb e2,h2]
theorem BY {p:aj} (h:eX p=true):p=[47]↔bT p=[]:=by
  constructor
  · intro e;subst e;decide
  · intro e;have:=rG h;rw[e] at this;exact this.symm
theorem Gq (p t:aj):rF p t=za p t:=by
  unfold rF za
  by_cases h:(eX p&&eX t)=true
  · rw[h,lP,lP]
    simp only[bO] at h
    obtain⟨hp,ht⟩:=h
    have u:=rG hp
    have et:=rG ht
    rw[oI,rz]
    simp only[ie,kz,rz]
    by_cases h1:t=[47]
    · simp only[h1,g_,hU,true_iff]
      rw[(BY (p:=[47]) (by decide)).1 rfl]
      exact List.nil_prefix
    have D:bT t≠[]:=fun e=>h1 ((BY ht).2 e)
    constructor
    · rintro(e|e|⟨c,e⟩)
      · subst e;exact rB _
      · exact absurd e h1
      ·
        have hs:splitOn 47 (p.drop 1)=bT t++splitOn 47 c:=by
          have hd:p.drop 1=fy 47 (bT t)++47::c:=by
            rw[←e]
            conv=>lhs;rw[show t=47::fy 47 (bT t) from et.symm]
            simp
          rw[hd]
          have gen:∀l:List aj,l≠[]→(∀x∈l,47 ∉ x)→splitOn 47 (fy 47 l++47::c)=l++splitOn 47 c:=by
            intro l
            induction l with
            |nil=>intro h;exact absurd rfl h
            |cons x xs ih=>
             intro _ hx
             cases xs with
             |nil=>rw[fy,yL 47 x c (hx x (by simp))];rfl
             |cons y ys=>
              rw[fy,cI,dM,yL 47 x _ (hx x (by simp)),ih (by simp) (fun z hz=>hx z (by simp[hz]))];rfl
          exact gen _ D fun x hx=>w6 (uQ t x hx)
        have G:¬(p=[47]):=by
          intro e2
          rw[e2] at e
          have hlen:=congrArg List.length e
          simp only[b_,bL,cS] at hlen
          have I:t=[]:=lg (by omega)
          rw[I] at ht
          exact absurd ht (by decide)
        have hpl:bT p=splitOn 47 (p.drop 1):=by simp[bT,hp,G]
        rw[hpl,hs]
        exact BF _ _
    · rintro⟨c,e⟩
      by_cases hc:c=[]
      · left
        rw[hc,dh] at e
        rw[←u,←et,e]
      · right;right
        rw[←u,←e,NR D hc,et,joined]
        exact⟨fy 47 c,by simp⟩
  · rw[wO] at h;rw[h];rfl
theorem NT {p:aj} (h:cP p=0):p.length≤64:=by
  rw[j9] at h
  simp only[eX,bO,cB] at h
  exact h.2.1
theorem NU (c d:UInt8) (a b:aj):Go.Op.bytesLess (c::a) (d::b)=(decide (c<d)||(c==d&&Go.Op.bytesLess a b)):=by simp[Go.Op.bytesLess]
theorem NV (c:aj) (a b:aj):Go.Op.bytesLess (c++a) (c++b)=Go.Op.bytesLess a b:=by
  induction c with
  |nil=>rfl
  |cons x c ih=>
   rw[dM,dM,NU,ih]
   have:¬(x<x):=by rw[UInt8.lt_iff_toNat_lt];omega
   simp[this]
theorem Gr:∀(k n:Nat),low k n=low k (n % 10 ^ k)
  |0,_=>rfl
  |k+1,n=>by
   have h1:n % 10 ^ (k+1) / 10 ^ k % 10=n / 10 ^ k % 10:=by
     rw[Nat.pow_succ,Nat.mod_mul,Nat.add_mul_div_left _ _ (BG (by decide)),Nat.div_eq_of_lt (uj _ (BG (by decide))),qu,Nat.mod_mod]
   have h2:n % 10 ^ (k+1) % 10 ^ k=n % 10 ^ k:=by rw[Nat.pow_succ,Nat.mod_mul_right_mod]
   rw[low,low,h1,Gr k (n % 10 ^ (k+1)),h2,←Gr k n]
theorem Gs:∀k n,(low k n).length=k
  |0,_=>rfl
  |k+1,n=>by rw[low,bL,Gs k n]
theorem Gt {p:aj} {n:Int} (h:j8 p n=0):0≤n∧n≤99999∧eH p n=p++low 5 n.toNat:=by
  unfold j8 at h
  split at h
  · rename_i hk
    have hk2:=hk
    simp only[lQ,bO,cB] at hk
    refine⟨hk.2.1,hk.2.2,?_⟩
    rw[j9] at h
    simp[eH,hk2,l9,h,NP hk.2.1 hk.2.2]
  · simp at h
theorem NW {p:aj} {n:Int} (h:j8 p n=0):((eH p n).length:Int)=(p.length:Int)+5:=by
  obtain⟨a1,a2,a3⟩:=Gt h
  rw[a3,b_,Gs];omega
theorem NX {p t:aj} (h:rF p t=true):cP p=0∧cP t=0∧bT t <+: bT p:=by
  rw[Gq,za] at h
  simp only[bO,rz] at h
  exact⟨j9.2 h.1.1,j9.2 h.1.2,h.2⟩
theorem Gu {p t:aj} (h1:cP p=0) (h2:cP t=0) (h:bT t <+: bT p):rF p t=true:=by
  rw[Gq,za,j9.1 h1,j9.1 h2,lP,lP]
  exact rz.2 h
theorem NY {p:aj} (h:cP p=0):rF p p=true:=Gu h h (rB _)
theorem NZ {l:List aj} (h:∀x∈l,gz x=true) (hl:(joined l).length≤64):eX (joined l)=true:=by
  simp only[eX,bO,ie,cB,gR]
  refine⟨rfl,hl,?_⟩
  by_cases e:l=[]
  · left;rw[e];rfl
  · right
    have:(joined l).drop 1=fy 47 l:=rfl
    rw[this,yM 47 l e fun x hx=>w6 (h x hx)]
    exact h
theorem N0 {l:List aj} (h:∀x∈l,gz x=true) (hk:eX (joined l)=true):bT (joined l)=l:=
  NS (uQ _) h (rG hk)
theorem Gv {l:List aj} (h:l≠[]):l.dropLast++[mK l]=l:=by
  have:=List.dropLast_concat_getLast h
  rw[mK,List.getLast?_eq_some_getLast h]
  exact this
theorem N1 {p:aj} (h:cP p=0) (hne:¬(p=[47])):b9 p=0∧cP (parentOf p)=0∧bT (parentOf p)=(bT p).dropLast∧Ga (parentOf p) [nameOf p]=0∧F_ (parentOf p) [nameOf p]=p∧rF p (parentOf p)=true∧rF (parentOf p) p=false:=by
  have hk:=j9.1 h
  have hl:bT p≠[]:=fun e=>hne ((BY hk).2 e)
  have hpar:parentOf p=joined (bT p).dropLast:=by simp[parentOf,hl]
  have u:∀x∈(bT p).dropLast,gz x=true:=fun x hx=>uQ p x (FP _ hx)
  have hlen:(joined (bT p).dropLast).length≤64:=by
    have h1:=BX 47 (bT p)
    have h2:=congrArg List.length (rG hk)
    have h3:=NT h
    simp only[joined,bL] at h2 ⊢
    omega
  have hok:=NZ u hlen
  have hpl:=N0 u hok
  have D:=Gv hl
  have G:mK (bT p)∈(bT p).dropLast++[mK (bT p)]:=by simp
  rw[D] at G
  have hname:gz (nameOf p)=true:=uQ p _ G
  have e1:cP (parentOf p)=0:=by rw[hpar];exact j9.2 hok
  have hj:joined (bT (parentOf p)++[nameOf p])=p:=by rw[hpar,hpl,nameOf,D];exact rG hk
  have hall:[nameOf p].all gz=true:=by simp[hname]
  refine⟨by simp[b9,hl],e1,by rw[hpar];exact hpl,?_,?_,Gu h e1 (by rw[hpar,hpl];exact List.dropLast_prefix _),?_⟩
  · simp only[Ga,j9.1 e1,hall,hj,h,Bool.and_self,iA]
  · simp only[F_,j9.1 e1,hall,hj,l9,hk,Bool.and_self,iA]
  · rw[←wO]
    intro hw
    have:=(NX hw).2.2.length_le
    rw[hpar,hpl,List.length_dropLast] at this
    have:(bT p).length≠0:=fun e=>hl (lg e)
    omega
theorem uR:∀a:aj,Go.Op.bytesLess a a=false
  |[]=>rfl
  |c::a=>by simp[Go.Op.bytesLess,uR a]
theorem w8:∀{a b c:aj},Go.Op.bytesLess a b=true→Go.Op.bytesLess b c=true→Go.Op.bytesLess a c=true
  |_,_,[],_,h=>by simp[Go.Op.bytesLess] at h
  |_,[],_::_,h,_=>by simp[Go.Op.bytesLess] at h
  |[],_::_,_::_,_,_=>rfl
  |x::a,y::b,z::c,h,k=>by
   simp only[Go.Op.bytesLess,ie,cB,bO,kz] at *
   rcases h with h|⟨rfl,h⟩
   · rcases k with k|⟨rfl,k⟩
     · exact .inl (UInt8.lt_trans h k)
     · exact .inl h
   · rcases k with k|⟨rfl,k⟩
     · exact .inl k
     · exact .inr ⟨rfl,w8 h k⟩
theorem zb:∀{a b:aj},Go.Op.bytesLess a b=false→Go.Op.bytesLess b a=false→a=b
  |[],[],_,_=>rfl
  |[],_::_,h,_=>by simp[Go.Op.bytesLess] at h
  |_::_,[],_,h=>by simp[Go.Op.bytesLess] at h
  |x::a,y::b,h,k=>by
   simp only[Go.Op.bytesLess,FQ,jP,s6,qB] at *
   obtain⟨h1,h2⟩:=h
   obtain⟨k1,k2⟩:=k
   have u:x=y:=UInt8.le_antisymm (UInt8.not_lt.1 k1) (UInt8.not_lt.1 h1)
   subst u
   rw[zb (h2.resolve_left (fun h=>h rfl)) (k2.resolve_left (fun h=>h rfl))]
theorem zd {a b:aj} (h:Go.Op.bytesLess a b=true):Go.Op.bytesLess b a=false:=by
  cases hk:Go.Op.bytesLess b a with
  |false=>rfl
  |true=>have:=w8 h hk;rw[uR] at this;cases this
theorem BZ {a b:aj} (h:Go.Op.bytesLess a b=true):a≠b:=fun e=>by rw[e,uR] at h;cases h
abbrev aQ:=List UInt8
def jk (a b:aQ):Bool:=Go.Op.bytesLess a b
def bN (ns:List af) (p:aQ):Option af:=ns.find? fun n=>decide (n.aa=p)
def fW (ns:List af):Prop:=ns.Pairwise fun a b=>jk a.aa b.aa=true
def nk (l:af):List af→List af
  |[]=>[l]
  |n::ns=>if jk l.aa n.aa=true then l::n::ns else n::nk l ns
def fD (ns:List af) (p:aQ):List af:=ns.filter fun n=>!decide (n.aa=p)
def d_ (ns:List af) (l:af):List af:=nk l (fD ns l.aa)
def Gw (p:aQ) (n:af):Bool:=decide (b9 n.aa=0)&&decide (parentOf n.aa=p)
def gA (ns:List af) (p:aQ):List aQ:=(ns.filter (Gw p)).map (·.aa)
def j_ (ns:List af) (u:List Int):List aQ:=((ns.filter fun n=>u.any fun o=>decide (n.aE=o)).map (·.aa)).reverse
def B0:af:=⟨[],[],0,0,0,0⟩
def bR (ns:List af) (p:aQ):af×Int:=
  if cP p=0 then match bN ns p with
    |none=>(B0,100)
    |some l=>(l,0)
  else (B0,cP p)
def ff (up:af) (p:aQ) (num:Bool):aQ:=if num then eH p up.Next else p
def fX (up:af) (p:aQ) (num:Bool):Int:=if num then j8 p up.Next else 0
def l_ (ns:List af) (up:af) (q data:aQ) (cj born:Int) (num:Bool):List af:=
  d_ (d_ ns (if num then {up with Next:=IntKind.wrap .i64 (up.Next+1)} else up)) ⟨q,data,0,max cj (-1),0,max born 0⟩
def bY (ns:List af) (p data:aQ) (cj born:Int) (num:Bool):List af×aQ×Int:=
  if b9 p≠0 then (ns,[],b9 p)
  else if data.length>128 then (ns,[],104)
  else match bN ns (parentOf p) with
    |none=>(ns,[],100)
    |some up=>if up.aE≠ -1 then (ns,[],105)
     else if fX up p num≠0 then (ns,[],fX up p num)
     else match bN ns (ff up p num) with
       |some _=>(ns,[],101)
       |none=>if ns.length≥32 then (ns,[],104) else (l_ ns up (ff up p num) data cj born num,ff up p num,0)
def fL (ns:List af) (p:aQ) (bA:Int):List af×Int:=
  if b9 p≠0 then (ns,b9 p)
  else match bN ns p with
    |none=>(ns,100)
    |some l=>if bA≥0∧l.ak≠bA then (ns,102) else if gA ns p≠[] then (ns,103) else (fD ns p,0)
def eP (ns:List af) (p data:aQ) (bA:Int):List af×Int×Int:=
  if cP p≠0 then (ns,0,cP p)
  else match bN ns p with
    |none=>(ns,0,100)
    |some l=>if bA≥0∧l.ak≠bA then (ns,0,102) else if data.length>128 then (ns,0,104)
     else (d_ ns {l with Data:=data,ak:=IntKind.wrap .i64 (l.ak+1)},IntKind.wrap .i64 (l.ak+1),0)
def iS (ns:List af) (p:aQ):List aQ×Int:=
  if cP p≠0 then ([],cP p) else match bN ns p with
    |none=>([],100)
    |some _=>(gA ns p,0)
def kf (seen:List af) (l:af):Bool:=
  decide (-1≤l.aE)&&decide (0≤l.ak)&&decide (0≤l.Next)&&decide (0≤l.aO)&&decide (l.Data.length≤128)&&
    (if seen=[] then decide (l.aa=[47])&&decide (l.aE= -1)&&decide (l.aO=0)
     else decide (b9 l.aa=0)&&(match bN seen (parentOf l.aa) with|some x=>decide (x.aE= -1)|none=>false))
def th:List af→List af→Bool
  |_,[]=>true
  |seen,l::ls=>kf seen l&&(match seen.getLast? with|some x=>jk x.aa l.aa|none=>true)&&th (seen++[l]) ls
def gS (list:List af):Bool:=th [] list&&decide (1≤list.length)&&decide (list.length≤32)
theorem fW.nodup {ns:List af} (h:fW ns):(ns.map (·.aa)).Nodup:=by
  rw[List.Nodup,pJ]
  exact h.imp fun hl=>BZ hl
theorem jR {ns:List af} {p:aQ} {l:af} (h:bN ns p=some l):l∈ns∧l.aa=p:=
  ⟨v_ h,by simpa using we h⟩
theorem oK {ns:List af} {p:aQ}:bN ns p=none↔∀n∈ns,n.aa≠p:=by
  unfold bN;simp
theorem rH {ns:List af} (hn:(ns.map (·.aa)).Nodup) {l:af} (h:l∈ns):bN ns l.aa=some l:=by
  induction ns with
  |nil=>cases h
  |cons n ns ih=>
   rw[e_,pH] at hn
   unfold bN
   rw[wH]
   rcases fe.1 h with rfl|h
   · simp
   · have:n.aa≠l.aa:=fun e=>hn.1 (e▸cF.2 ⟨l,h,rfl⟩)
     simp only[this,s5]
     exact ih hn.2 h
theorem ze {ms ns:List af} (hp:ms.Perm ns) (hn:(ns.map (·.aa)).Nodup) (p:aQ):bN ms p=bN ns p:=by
  have hm:(ms.map (·.aa)).Nodup:=(hp.map _).nodup_iff.2 hn
  cases h:bN ns p with
  |none=>exact oK.2 fun n u=>oK.1 h n (hp.mem_iff.1 u)
  |some l=>
   obtain⟨h1,rfl⟩:=jR h
   exact rH hm (hp.mem_iff.2 h1)
theorem B1 (l:af):∀ns:List af,(nk l ns).Perm (l::ns)
  |[]=>gj _
  |n::ns=>by
   unfold nk
   split
   · exact gj _
   · exact((B1 l ns).cons n).trans (List.Perm.swap _ _ _)
theorem Gx {l:af}:∀{ns:List af},fW ns→(∀n∈ns,n.aa≠l.aa)→fW (nk l ns)
  |[],_,_=>by simp[nk,fW]
  |n::ns,h,hne=>by
   have h':=jE.1 h
   unfold nk
   split
   · rename_i hlt
     refine jE.2 ⟨fun x hx=>?_,h⟩
     rcases fe.1 hx with rfl|hx
     · exact hlt
     · exact w8 hlt (h'.1 x hx)
   · rename_i hlt
     have hlt:jk n.aa l.aa=true:=by
       cases hk:jk n.aa l.aa with
       |true=>rfl
       |false=>exact absurd (zb hk (jc.2 hlt)) (hne n (.head _))
     refine jE.2 ⟨fun x hx=>?_,Gx h'.2 fun m hm=>hne m (.tail _ hm)⟩
     have:=(B1 l ns).mem_iff.1 hx
     rcases fe.1 this with rfl|hx
     · exact hlt
     · exact h'.1 x hx
theorem B2 {ns:List af} (h:fW ns) (p:aQ):fW (fD ns p):=s7 oJ h
theorem N2 {ns:List af} {p:aQ}:∀n∈fD ns p,n.aa≠p:=fun n hn=>by
  unfold fD at hn
  rw[iH] at hn
  simpa using hn.2
theorem w9 {ns:List af} (h:fW ns) (l:af):fW (d_ ns l):=Gx (B2 h _) N2
theorem pL (ns:List af) (l:af):(d_ ns l).Perm (l::fD ns l.aa):=B1 l _
theorem w_ {ns:List af} {p:aQ} (h:bN ns p=none):fD ns p=ns:=by
  unfold fD
  rw[oH]
  intro n hn
  simpa using oK.1 h n hn
theorem Gy:∀{a b:List af},fW a→fW b→a.Perm b→a=b
  |[],b,_,_,h=>by rw[List.nil_perm] at h;exact h.symm
  |x::a,[],_,_,h=>by rw[List.perm_nil] at h;cases h
  |x::a,y::b,ha,hb,h=>by
   have u:=jE.1 ha
   have hb':=jE.1 hb
   have hx:x=y:=by
     rcases fe.1 (h.mem_iff.1 (.head _:x∈x::a)) with e|hx
     · exact e
     · rcases fe.1 (h.mem_iff.2 (.head _:y∈y::b)) with e|hy
       · exact e.symm
       · have h1:=hb'.1 x hx
         have h2:=u.1 y hy
         have:=zd h1
         unfold jk at h2
         rw[this] at h2
         cases h2
   subst hx
   rw[Gy u.2 hb'.2 (List.perm_cons _ |>.1 h)]
theorem zf {ns:List af} (h:fW ns) {l:af} (hl:bN ns l.aa=some l):d_ ns l=ns:=by
  refine Gy (w9 h l) h ((pL ns l).trans ?_)
  have hm:=(jR hl).1
  clear hl
  have hn:=h.nodup
  clear h
  induction ns with
  |nil=>cases hm
  |cons n ns ih=>
   rw[e_,pH] at hn
   rcases fe.1 hm with rfl|hm
   · have:fD (l::ns) l.aa=ns:=by
       unfold fD
       rw[ju]
       simp only[ry,ng,fZ,de]
       exact w_ (oK.2 fun x hx e=>hn.1 (e▸cF.2 ⟨x,hx,rfl⟩))
     rw[this]
   · have hne:n.aa≠l.aa:=fun e=>hn.1 (e▸cF.2 ⟨l,hm,rfl⟩)
     have:fD (n::ns) l.aa=n::fD ns l.aa:=by
       unfold fD
       rw[ju]
       simp[hne]
     rw[this]
     exact(List.Perm.swap _ _ _).trans ((ih hm hn.2).cons n)
def dX (ns:List af) (p:aQ):Int:=if cP p≠0 then cP p else match bN ns p with
  |none=>100
  |some _=>0
def fq (ns:List af) (p:aQ) (bA:Int):Int:=if dX ns p≠0 then dX ns p else match bN ns p with
  |none=>100
  |some l=>if bA≥0∧l.ak≠bA then 102 else 0
def ga (ns:List af) (p data:aQ):Int:=if b9 p≠0 then b9 p else if data.length>128 then 104 else match bN ns (parentOf p) with
  |none=>100
  |some l=>if l.aE≠ -1 then 105 else 0
theorem B3 {ns:List af} {p:aQ} (h:¬cP p=0):dX ns p=cP p:=by unfold dX;rw[aL h]
theorem B4 {ns:List af} {p:aQ} (h:cP p=0) (h2:bN ns p=none):dX ns p=100:=by unfold dX;rw[aB (by simpa using h),h2]
theorem B5 {ns:List af} {p:aQ} {l:af} (h:cP p=0) (h2:bN ns p=some l):dX ns p=0:=by unfold dX;rw[aB (by simpa using h),h2]
theorem zg {ns:List af} {p:aQ} {bA:Int} (h:dX ns p≠0):fq ns p bA=dX ns p:=by unfold fq;rw[aL h]
theorem zh {ns:List af} {p:aQ} {bA:Int} {l:af} (h:dX ns p=0) (h2:bN ns p=some l) (h3:bA≥0) (h4:l.ak≠bA):fq ns p bA=102:=by
  unfold fq;rw[aB (by simpa using h),h2];exact aL ⟨h3,h4⟩
theorem zi {ns:List af} {p:aQ} {bA:Int} {l:af} (h:dX ns p=0) (h2:bN ns p=some l) (h3:¬bA≥0):fq ns p bA=0:=by
  unfold fq;rw[aB (by simpa using h),h2];exact aB fun hh=>h3 hh.1
theorem zj {ns:List af} {p:aQ} {bA:Int} {l:af} (h:dX ns p=0) (h2:bN ns p=some l) (h3:l.ak=bA):fq ns p bA=0:=by
  unfold fq;rw[aB (by simpa using h),h2];exact aB fun hh=>hh.2 h3
theorem xb {ns:List af} {p data:aQ} (h:¬b9 p=0):ga ns p data=b9 p:=by unfold ga;rw[aL h]
theorem xd {ns:List af} {p data:aQ} (h:b9 p=0) (h2:(data.length:Int)>128):ga ns p data=104:=by unfold ga;rw[aB (by simpa using h),aL (by omega)]
theorem xe {ns:List af} {p data:aQ} (h:b9 p=0) (h2:¬(data.length:Int)>128) (h3:bN ns (parentOf p)=none):ga ns p data=100:=by unfold ga;rw[aB (by simpa using h),aB (by omega),h3]
theorem xg {ns:List af} {p data:aQ} {l:af} (h:b9 p=0) (h2:¬(data.length:Int)>128) (h3:bN ns (parentOf p)=some l) (h4:¬l.aE= -1):ga ns p data=105:=by
  unfold ga;rw[aB (by simpa using h),aB (by omega),h3];exact aL h4
theorem xh {ns:List af} {p data:aQ} {l:af} (h:b9 p=0) (h2:¬(data.length:Int)>128) (h3:bN ns (parentOf p)=some l) (h4:l.aE= -1):ga ns p data=0:=by
  unfold ga;rw[aB (by simpa using h),aB (by omega),h3];exact aB (by simpa using h4)
theorem B6 {ns:List af} {p:aQ} (h:dX ns p≠0):bR ns p=(B0,dX ns p):=by
  unfold dX at *;unfold bR
  by_cases hp:cP p=0
  · rw[aL hp]
    rw[aB (by simpa using hp)] at h ⊢
    cases hf:bN ns p with
    |none=>rfl
    |some l=>rw[hf] at h;exact absurd rfl h
  · rw[aB hp,aL hp]
theorem B7 {ns:List af} {p:aQ} {l:af} (h:dX ns p=0) (h2:bN ns p=some l):bR ns p=(l,0):=by
  unfold dX at *;unfold bR
  by_cases hp:cP p=0
  · rw[aL hp,h2]
  · rw[aL hp] at h;exact absurd h hp
theorem Gz {ns:List af} {p:aQ} (h:dX ns p≠0):iS ns p=([],dX ns p):=by
  unfold dX at *;unfold iS
  by_cases hp:cP p=0
  · rw[aB (by simpa using hp)] at h ⊢
    rw[aB (by simpa using hp)]
    cases hf:bN ns p with
    |none=>rfl
    |some l=>rw[hf] at h;exact absurd rfl h
  · rw[aL hp,aL hp]
theorem GA {ns:List af} {p:aQ} {l:af} (h:dX ns p=0) (h2:bN ns p=some l):iS ns p=(gA ns p,0):=by
  unfold dX at *;unfold iS
  by_cases hp:cP p=0
  · rw[aB (by simpa using hp),h2]
  · rw[aL hp] at h;exact absurd h hp
theorem GB {ns:List af} (hs:fW ns) {i:Nat} {p:aQ} (h:(ns.map (·.aa))[i]?=some p):∃l,ns[i]?=some l∧bN ns p=some l:=by
  rw[jM] at h
  cases hl:ns[i]? with
  |none=>rw[hl] at h;cases h
  |some l=>
   rw[hl] at h
   simp only[j3,eN] at h
   subst h
   exact⟨l,rfl,rH hs.nodup (cL hl)⟩
theorem N3 {ns out:List af} (hs:fW ns) {i:Int} {p:aQ} {l:af} (h0:0≤i) (hx:(ns.map (·.aa))[i.toNat]?=some p) (hf:bN ns p=some l) (ho:out=ns.take i.toNat):out++[l]=ns.take (i+1).toNat:=by
  obtain⟨u,h1,h2⟩:=GB hs hx
  rw[hf] at h2
  cases h2
  rw[toNat_succ h0,fu h1,ho]
theorem N4 {ns:List af} (hs:fW ns) {i:Nat} {p:aQ} (hx:(ns.map (·.aa))[i]?=some p) (hf:bN ns p=none):False:=by
  obtain⟨u,h1,h2⟩:=GB hs hx
  rw[hf] at h2
  cases h2
def fM (ns:List af):Prop:=ns.length≤1000∧∀n∈ns,n.aa.length≤64∧n.Data.length≤128∧ -9223372036854775808≤n.Next∧n.Next≤9223372036854775807
theorem fM.data {ns:List af} (h:fM ns) {p:aQ} {l:af} (hf:bN ns p=some l):l.Data.length≤128:=(h.2 l (jR hf).1).2.1
theorem fM.next {ns:List af} (h:fM ns) {p:aQ} {l:af} (hf:bN ns p=some l): -9223372036854775808≤l.Next∧l.Next≤9223372036854775807:=(h.2 l (jR hf).1).2.2
theorem N5 (ns:List af) (p:aQ):(gA ns p).length≤ns.length:=by
  unfold gA;rw[eu];exact kG _ _
theorem GC {ns:List af} (hs:fW ns) {u:List Int} {xs:List aQ} {p:aQ} {l:af} {out:List aQ} (hp:xs++[p] <+: (ns.map (·.aa)).reverse) (hf:bN ns p=some l)
    (ho:out=xs.filter fun q=>match bN ns q with|some n=>u.any (fun o=>decide (n.aE=o))|none=>false):
    (if u.any (fun o=>decide (l.aE=o))=true then out++[p] else out)=(xs++[p]).filter fun q=>match bN ns q with|some n=>u.any (fun o=>decide (n.aE=o))|none=>false:=by
  rw[nK,ho]
  simp only[ju,hf,List.filter_nil]
  split<;>simp
theorem N6 {ns:List af} (hs:fW ns) {u:List Int}:
    ((ns.map (·.aa)).reverse.filter fun q=>match bN ns q with|some n=>u.any (fun o=>decide (n.aE=o))|none=>false)=j_ ns u:=by
  unfold j_
  rw[List.filter_reverse,qC]
  congr 2
  apply wQ
  intro n hn
  simp only[Function.comp,rH hs.nodup hn]
theorem N7 {ns:List af} (hs:fW ns) {xs:List aQ} {p:aQ} (hp:xs++[p] <+: (ns.map (·.aa)).reverse) (hf:bN ns p=none):False:=by
  have h1:p∈(ns.map (·.aa)).reverse:=hp.subset (by simp)
  rw[List.mem_reverse] at h1
  obtain⟨n,hn,rfl⟩:=cF.1 h1
  rw[rH hs.nodup hn] at hf
  cases hf
theorem xj {x:List af} {l:af} (h:l.aE< -1∨l.ak<0∨l.Next<0∨l.aO<0∨(l.Data.length:Int)>128):kf x l=false:=by
  unfold kf
  rw[s6]
  refine .inl ?_
  simp only[s6,jP]
  omega
theorem GD {x:List af} {l:af} (h1:¬l.aE< -1) (h2:¬l.ak<0) (h3:¬l.Next<0) (h4:¬l.aO<0) (h5:¬(l.Data.length:Int)>128):
    kf x l=(if x=[] then decide (l.aa=[47])&&decide (l.aE= -1)&&decide (l.aO=0) else decide (b9 l.aa=0)&&(match bN x (parentOf l.aa) with|some x=>decide (x.aE= -1)|none=>false)):=by
  unfold kf
  have:(decide (-1≤l.aE)&&decide (0≤l.ak)&&decide (0≤l.Next)&&decide (0≤l.aO)&&decide (l.Data.length≤128))=true:=by
    simp only[bO,cB];omega
  rw[this,lP]
theorem B8 {x:List af} {l:af} (h1:¬l.aE< -1) (h2:¬l.ak<0) (h3:¬l.Next<0) (h4:¬l.aO<0) (h5:¬(l.Data.length:Int)>128) (h:(x.length:Int)=0):
    kf x l=(decide (l.aa=[47])&&decide (l.aE= -1)&&decide (l.aO=0)):=by
  rw[GD h1 h2 h3 h4 h5,aL (lg (by omega))]
theorem zk {x:List af} {l:af} (h1:¬l.aE< -1) (h2:¬l.ak<0) (h3:¬l.Next<0) (h4:¬l.aO<0) (h5:¬(l.Data.length:Int)>128) (h:¬(x.length:Int)=0):
    kf x l=(decide (b9 l.aa=0)&&(match bN x (parentOf l.aa) with|some x=>decide (x.aE= -1)|none=>false)):=by
  rw[GD h1 h2 h3 h4 h5,aB (fun e=>h (by rw[e];rfl))]
theorem B9 {ns:List af} {p data:aQ} {bA:Int} (h:fq ns p bA≠0):eP ns p data bA=(ns,0,fq ns p bA):=by
  unfold fq dX at *;unfold eP
  by_cases hp:cP p=0
  · simp only[hp,ne_eq,jN,de] at *
    cases hf:bN ns p with
    |none=>simp[hf]
    |some l=>simp only[hf] at *;split at h<;>simp_all
  · simp[hp]
theorem B_ {ns:List af} {p:aQ} {bA:Int} {l:af} (h:fq ns p bA=0) (hf:bN ns p=some l):cP p=0∧¬(bA≥0∧l.ak≠bA):=by
  unfold fq dX at h
  by_cases hp:cP p=0
  · simp only[hp,hf,ne_eq,jN,de] at h
    refine⟨hp,fun hh=>?_⟩
    rw[aL hh] at h
    cases h
  · simp[hp] at h
theorem Ca {ns:List af} {p data:aQ} {bA:Int} {l:af} (h:fq ns p bA=0) (hf:bN ns p=some l) (hd:(data.length:Int)>128):eP ns p data bA=(ns,0,104):=by
  obtain⟨h1,h2⟩:=B_ h hf
  unfold eP
  rw[aB (by simpa using h1),hf]
  simp only[]
  rw[aB h2,aL (by omega)]
theorem Cb {ns:List af} {p data:aQ} {bA:Int} {l:af} (h:fq ns p bA=0) (hf:bN ns p=some l) (hd:¬(data.length:Int)>128):
    eP ns p data bA=(d_ ns {l with Data:=data,ak:=IntKind.wrap .i64 (l.ak+1)},IntKind.wrap .i64 (l.ak+1),0):=by
  obtain⟨h1,h2⟩:=B_ h hf
  unfold eP
  rw[aB (by simpa using h1),hf]
  simp only[]
  rw[aB h2,aB (by omega)]
section
variable {ns:List af} {p data q:aQ} {cj born:Int} {num:Bool} {up:af}
theorem Cc (h:ga ns p data≠0):bY ns p data cj born num=(ns,[],ga ns p data):=by
  unfold ga at *;unfold bY
  by_cases h1:b9 p=0
  · simp only[h1,ne_eq,jN,de] at *
    by_cases h2:data.length>128
    · simp only[h2,iA]
    · simp only[h2,de] at *
      cases hf:bN ns (parentOf p) with
      |none=>simp
      |some l=>
       simp only[hf] at *
       by_cases h3:l.aE= -1
       · simp[h3] at h
       · simp[h3]
  · simp[h1]
theorem GF (h:ga ns p data=0) (hf:bN ns (parentOf p)=some up):b9 p=0∧¬data.length>128∧up.aE= -1:=by
  unfold ga at h
  by_cases h1:b9 p=0
  · simp only[h1,ne_eq,jN,de] at h
    by_cases h2:data.length>128
    · simp[h2] at h
    · simp only[h2,de,hf] at h
      by_cases h3:up.aE= -1
      · exact⟨h1,h2,h3⟩
      · simp[h3] at h
  · simp[h1] at h
theorem zl (h:ga ns p data=0) (hf:bN ns (parentOf p)=some up):bY ns p data cj born num=if fX up p num≠0 then (ns,[],fX up p num) else match bN ns (ff up p num) with
    |some _=>(ns,[],101)
    |none=>if ns.length≥32 then (ns,[],104) else (l_ ns up (ff up p num) data cj born num,ff up p num,0):=by
  obtain⟨h1,h2,h3⟩:=GF h hf
  unfold bY
  simp only[h1,h2,h3,hf,ne_eq,jN,de]
theorem Ce (h:ga ns p data=0) (hf:bN ns (parentOf p)=some up) (hn:num=true) (he:¬j8 p up.Next=0):bY ns p data cj born num=(ns,[],j8 p up.Next):=by
  rw[zl h hf];simp[fX,hn,he]
theorem uS (h:ga ns p data=0) (hf:bN ns (parentOf p)=some up) (he:fX up p num=0) (hq:ff up p num=q) (hs:(bN ns q).isSome=true):bY ns p data cj born num=(ns,[],101):=by
  rw[zl h hf,aB (by simpa using he),hq]
  cases hx:bN ns q with
  |none=>rw[hx] at hs;cases hs
  |some _=>rfl
theorem uT (h:ga ns p data=0) (hf:bN ns (parentOf p)=some up) (he:fX up p num=0) (hq:ff up p num=q) (hs:bN ns q=none) (hl:(ns.length:Int)≥32):bY ns p data cj born num=(ns,[],104):=by
  rw[zl h hf,aB (by simpa using he),hq,hs]
  simp only[]
  rw[aL (by omega)]
theorem uU (h:ga ns p data=0) (hf:bN ns (parentOf p)=some up) (he:fX up p num=0) (hq:ff up p num=q) (hs:bN ns q=none) (hl:¬(ns.length:Int)≥32):
    bY ns p data cj born num=(l_ ns up q data cj born num,q,0):=by
  rw[zl h hf,aB (by simpa using he),hq,hs]
  simp only[]
  rw[aB (by omega)]
end
theorem rI {p:aQ} (h:eX p=true):p.length≤64:=by
  rcases oo 64 p.length with hl|hl
  · rw[y9 hl] at h;cases h
  · exact hl
theorem N8 (p:aQ):(l9 p).length≤64:=by
  unfold l9
  split
  · rename_i h;exact rI h
  · exact gO _
theorem Cf (p:aQ) (n:Int):(eH p n).length≤64:=by
  unfold eH
  split
  · exact N8 _
  · exact gO _
theorem Cg {p:aQ} (h:b9 p=0):p.length≤64:=by
  cases hp:eX p with
  |true=>exact rI hp
  |false=>
   have:bT p=[]:=by unfold bT;rw[hp];rfl
   exact absurd h (Gp this)
theorem N9 {ns:List af} {p q:aQ} {up l:af} (hf:bN ns p=some up) (hq:bN ns q=none) (hl:l.aa=up.aa):bN (d_ ns l) q=none:=by
  rw[oK] at hq ⊢
  intro n hn
  rcases fe.1 ((pL ns l).mem_iff.1 hn) with rfl|hn
  · rw[hl];exact hq up (jR hf).1
  · exact hq n (iH.1 hn).1
theorem N_ {ns:List af} {p q data:aQ} {cj born:Int} {num:Bool} {up:af} (hn:num=false) (hs:fW ns) (hf:bN ns p=some up):l_ ns up q data cj born num=d_ ns ⟨q,data,0,max cj (-1),0,max born 0⟩:=by
  subst hn
  unfold l_
  simp only[fZ,de]
  rw[zf hs (by rw[(jR hf).2];exact hf)]
theorem Oa {ns:List af} {q data:aQ} {cj born:Int} {num:Bool} {up:af} (hn:num=true):l_ ns up q data cj born num=d_ (d_ ns {up with Next:=IntKind.wrap .i64 (up.Next+1)}) ⟨q,data,0,max cj (-1),0,max born 0⟩:=by
  subst hn;rfl
section
variable {h0:av} {g0:GH} {S0:Nat→Prop} {g:GH} {L L':List au} {h:av}
theorem St.pM (hf:L.flatten.Perm L'.flatten) (s:St h0 g0 S0 g L h):St h0 g0 S0 g L' h:=
  ⟨s.size,s.frame,s.le,s.new,s.sub,fun p hm=>s.k9 p (hf.mem_iff.2 hm),(hf.map _).nodup_iff.1 s.nodup,fun p hm=>s.sep p (hf.mem_iff.2 hm),fun p hm=>s.own p (hf.mem_iff.2 hm)⟩
end
abbrev pN (l:af) (v:Value):Array Value:=#[.string (a_ l.aa),v,.int .i64 l.ak,.int .i64 l.aE,.int .i64 l.Next,.int .i64 l.aO]
abbrev TL:TypeId:=56
abbrev TT:TypeId:=118
structure nN where
  b:Nat
  l:af
  v:Value
  c:au
def jS (ms:List nN):List (aQ×Value):=ms.map fun m=>(m.l.aa,.pointer (some ⟨m.b,0,none⟩))
def zm (m:nN):au:=(m.b,.cells (pN m.l m.v) TL (0,0))::m.c
def lR (ms:List nN):au:=(ms.map zm).flatten
def GG (ms:List nN):Prop:=∀m∈ms,aF 5 bn (fun _=>none) m.v m.l.Data m.c
def rJ (es:Array MapEntry) (aP:Nat) (ms:List nN) (ns:List af):Prop:=cC encS es aP (jS ms)∧(ms.map (·.l)).Perm ns∧fW ns∧∀n∈ns,n.aa.length≤64
def gB (g:GH) (mb:Nat) (ns:List af) (c:au):Prop:=∃es aP ms,c.Perm ((mb,.map es aP)::lR ms)∧rJ es aP ms ns∧GG ms
theorem gB.aX {g g':GH} {mb:Nat} {ns:List af} {c:au} (h:gB g mb ns c):gB g' mb ns c:=h
theorem gB.mono {g g':GH} {mb:Nat} {ns:List af} {c:au} (h:gB g mb ns c) (hg:aG g g'):gB g' mb ns c:=h
def jT (g:GH) (mb:Nat) (ns:List af):Prop:=∃es aP ms,g mb=some (.map es aP)∧rJ es aP ms ns∧∀m∈ms,g m.b=some (.cells (pN m.l m.v) TL (0,0))∧ay g 5 bn m.v m.l.Data
theorem jT.mono {g g':GH} {mb:Nat} {ns:List af} (h:jT g mb ns) (hg:aG g g'):jT g' mb ns:=by
  obtain⟨es,aP,ms,h1,h2,h3⟩:=h
  exact⟨es,aP,ms,hg _ _ h1,h2,fun m hm=>⟨hg _ _ (h3 m hm).1,(h3 m hm).2.mono hg⟩⟩
def jv (g:GH) (b:Nat) (ns:List af):Prop:=∃mb,g b=some (.cells #[.map (some mb)] TT (0,0))∧jT g mb ns
theorem jv.mono {g g':GH} {b:Nat} {ns:List af} (h:jv g b ns) (hg:aG g g'):jv g' b ns:=by
  obtain⟨mb,h1,h2⟩:=h
  exact⟨mb,hg _ _ h1,h2.mono hg⟩
def xk (g:GH) (mb:Nat) (l:af) (b:Nat):Prop:=∃es aP,g mb=some (.map es aP)∧∃e∈es.toList,e.key=encS l.aa∧e.val=.pointer (some ⟨b,0,none⟩)
section
variable {g:GH} {mb:Nat} {ns:List af} {es:Array MapEntry} {aP:Nat} {ms:List nN}
theorem GI (hn:(ms.map (·.l.aa)).Nodup) (p:aQ):(bN (ms.map (·.l)) p=none∧fH (jS ms) p=none)∨∃m∈ms,bN (ms.map (·.l)) p=some m.l∧fH (jS ms) p=some (.pointer (some ⟨m.b,0,none⟩)):=by
  cases h:bN (ms.map (·.l)) p with
  |none=>
   refine .inl ⟨rfl,BI fun q hq=>?_⟩
   obtain⟨m,hm,rfl⟩:=cF.1 hq
   exact oK.1 h m.l (cF.2 ⟨m,hm,rfl⟩)
  |some l=>
   obtain⟨h1,rfl⟩:=jR h
   obtain⟨m,hm,rfl⟩:=cF.1 h1
   refine .inr ⟨m,hm,rfl,?_⟩
   obtain⟨j,hj⟩:=nh.1 hm
   have hk:(jS ms)[j]?=some (m.l.aa,.pointer (some ⟨m.b,0,none⟩)):=by simp[jS,hj]
   have u:((jS ms).map (·.1)).Nodup:=by simpa[jS,jr,Function.comp_def] using hn
   exact BJ u hk
theorem rJ.nodup (h:rJ es aP ms ns):(ms.map (·.l.aa)).Nodup:=by
  have:=(h.2.1.map (·.aa)).nodup_iff.2 h.2.2.1.nodup
  simpa[jr,Function.comp_def] using this
theorem rJ.gy (h:rJ es aP ms ns) (p:aQ):(bN ns p=none∧fH (jS ms) p=none)∨∃m∈ms,bN ns p=some m.l∧fH (jS ms) p=some (.pointer (some ⟨m.b,0,none⟩)):=by
  rw[←ze h.2.1 h.2.2.1.nodup p]
  exact GI h.nodup p
theorem rJ.len (h:rJ es aP ms ns):(jS ms).length=ns.length:=by
  have:=h.2.1.length_eq
  simpa[jS] using this
theorem jT.kK (h:jT g mb ns):∃es aP ks,g mb=some (.map es aP)∧cC encS es aP ks∧ks.length=ns.length∧(ks.map (·.1)).Perm (ns.map (·.aa))∧(∀p∈ks,p.1.length≤64)∧
    ∀p,(bN ns p=none∧fH ks p=none)∨∃b l v,bN ns p=some l∧fH ks p=some (.pointer (some ⟨b,0,none⟩))∧g b=some (.cells (pN l v) TL (0,0))∧ay g 5 bn v l.Data∧xk g mb l b:=by
  obtain⟨es,aP,ms,h1,h2,h3⟩:=h
  refine⟨es,aP,jS ms,h1,h2.1,h2.len,?_,?_,fun p=>?_⟩
  · have:=h2.2.1.map (·.aa)
    simpa[jS,jr,Function.comp_def] using this
  · intro q hq
    obtain⟨m,hm,rfl⟩:=cF.1 hq
    exact h2.2.2.2 m.l (h2.2.1.mem_iff.1 (cF.2 ⟨m,hm,rfl⟩))
  · rcases h2.gy p with h|⟨m,hm,h4,h5⟩
    · exact .inl h
    · refine .inr ⟨m.b,m.l,m.v,h4,h5,(h3 m hm).1,(h3 m hm).2,es,aP,h1,?_⟩
      have:(encS m.l.aa,(.pointer (some ⟨m.b,0,none⟩):Value))∈es.toList.map (fun e=>(e.key,e.val)):=by
        rw[h2.1.1]
        exact cF.2 ⟨(m.l.aa,.pointer (some ⟨m.b,0,none⟩)),cF.2 ⟨m,hm,rfl⟩,rfl⟩
      obtain⟨e,he,u⟩:=cF.1 this
      simp only[iB] at u
      exact⟨e,he,u.1,u.2⟩
end
section
variable {h0:av} {g0:GH} {S0:Nat→Prop} {g:GH} {L:List au} {h:av} {C c:au} {mb:Nat} {ns:List af}
theorem GJ {ms:List nN} {m:nN} (hm:m∈ms) {p:Nat×Obj} (hp:p∈zm m):p∈lR ms:=q7.2 ⟨_,cF.2 ⟨m,hm,rfl⟩,hp⟩
theorem gB.fK (H:gB g mb ns c) (s:St h0 g0 S0 g (C::L) h) (hc:∀p∈c,p∈C):jT (cQ g C) mb ns:=by
  obtain⟨es,aP,ms,hp,hok,hr⟩:=H
  have u:∀p∈(mb,.map es aP)::lR ms,p∈C:=fun p D=>hc p (hp.mem_iff.2 D)
  refine⟨es,aP,ms,nJ s.oC (u _ (.head _)),hok,fun m hm=>⟨nJ s.oC (u _ (.tail _ (GJ hm (.head _)))),?_⟩⟩
  have hrow:aF 5 bn g m.v m.l.Data m.c:=(hr m hm).aX (fun _ _ _ _ h=>h)
  exact hrow.lp s fun p D=>u p (.tail _ (GJ hm (.tail _ D)))
end
open Go Go.Sort Go.Proofs
def iT (u:List aj):List aj:=u.mergeSort fun x y=>decide (x≤y)
theorem zn (u:List aj):(iT u).length=u.length:=by simp[iT]
theorem GK:∀{a b:aj},Go.Op.bytesLess a b=true↔a<b
  |[],[]=>by simp[Go.Op.bytesLess]
  |[],_::_=>by simp[Go.Op.bytesLess]
  |_::_,[]=>by simp[Go.Op.bytesLess]
  |x::a,y::b=>by
   simp only[Go.Op.bytesLess,ie,cB,bO,kz,List.cons_lt_cons_iff,GK (a:=a) (b:=b)]
theorem GL {l u:List aj} (h:l.Perm u):iT l=iT u:=by
  have tr:∀a b c:aj,decide (a≤b)=true→decide (b≤c)=true→decide (a≤c)=true:=fun a b c h1 h2=>by simp only[cB] at *;exact List.le_trans h1 h2
  have tot:∀a b:aj,(decide (a≤b)||decide (b≤a))=true:=fun a b=>by simp only[ie,cB];exact List.le_total a b
  refine yT (le:=fun a b=>decide (a≤b)=true) (fun a b _ _ h1 h2=>?_) (uE tr tot l) (uE tr tot u) (((uF l _).trans h).trans (uF u _).symm)
  simp only[cB] at h1 h2
  exact List.le_antisymm h1 h2
theorem GM {l:List aj} (h:l.Pairwise fun a b=>Go.Op.bytesLess a b=true):iT l=l:=by
  have tr:∀a b c:aj,decide (a≤b)=true→decide (b≤c)=true→decide (a≤c)=true:=fun a b c h1 h2=>by simp only[cB] at *;exact List.le_trans h1 h2
  have tot:∀a b:aj,(decide (a≤b)||decide (b≤a))=true:=fun a b=>by simp only[ie,cB];exact List.le_total a b
  refine yT (le:=fun a b=>decide (a≤b)=true) (fun a b _ _ h1 h2=>?_) (uE tr tot l) (h.imp fun hl=>?_) (uF l _)
  · simp only[cB] at h1 h2
    exact List.le_antisymm h1 h2
  · simp only[cB]
    exact List.le_of_lt (GK.1 hl)
theorem GN {g:GH}:∀{xs:List aj} {cs:List Value},Reads ew g xs cs→cs=xs.map encStr
  |[],cs,h=>by simpa[Reads] using h
  |x::xs,cs,⟨c,cs',e,hk,hr⟩=>by
   have hk:c=[.string (a_ x)]:=hk
   have:=GN hr
   subst hk this
   rw[e]
   rfl
theorem St.grow {h0:av} {g0:GH} {S0:Nat→Prop} {g:GH} {L:List au} {h:av} (s:St h0 g0 S0 g L h) (os:Array Obj):St h0 g0 S0 g L (h++os):=by
  have old:∀b,b<h.size→(h++os)[b]?=h[b]?:=fun b hb=>by rw[A2,aL hb]
  exact⟨by have:=s.size;simp;omega,fun b hb hs=>(old b (qm hb s.size)).trans (s.frame b hb hs),s.le,s.new,
    fun b x hb=>(old b (s.sub.lt hb)).trans (s.sub b x hb),fun p hp=>(old _ (s.lt hp)).trans (s.k9 p hp),s.nodup,s.sep,s.own⟩
theorem Ob (cur:Array Value) (o:Nat) (ts:List aj) (h:o+ts.length≤cur.size):putCells encStr o ts.toArray cur=splice cur o (ts.map encStr):=by
  apply BH
  intro k
  have hc:cur.toList.length=cur.size:=qn
  unfold putCells splice
  rw[FR]
  simp only[eu,qv]
  rw[wR,b_,dD,eu,wR,dD,hc,jB (by omega)]
  by_cases h1:k<o
  · rw[aL (by omega),aL h1,yU h1,q5]
    cases cur[k]? with
    |none=>rfl
    |some x=>simp;omega
  · by_cases h2:k<o+ts.length
    · rw[aL (by omega),aB h1,jM]
      have hk:k<cur.size:=by omega
      have hj:k-o<ts.length:=by omega
      rw[yS hk,kE hj]
      simp only[j3]
      rw[aL ⟨by omega,by simpa using h2⟩]
      simp[hj]
    · rw[aB (by omega),s9,q5,show o+ts.length+(k-(o+ts.length))=k from by omega]
      cases cur[k]? with
      |none=>rfl
      |some x=>simp;omega
theorem Oc (B:World) (h:av) (g:GH) (hg:bf g h) (v:Value) (u:List aj) (c:au) (hr:aF 9 ew g v u c) (hl:u.length≤1000000000) (hs:St h g (aM [c]) g [c] h):
    aA prog B 139 #[v] h g [c] fun G g' L'=>G=.tuple #[]∧g'=g∧∃c',aF 9 ew g v (iT u) c'∧L'=[c']:=by
  rcases hr with ⟨ao,rfl,rfl,rfl⟩|⟨b,o,cap,cur,rest,rfl,rfl,h1,h2,h3,h4⟩
  · intro w is
    exact(slices_Sort_string_none ao 0 w).mono fun e w' ⟨he,hw⟩=>⟨.tuple #[],he,hw▸is.again,g,[[]],by rw[hw,is.heap];exact hs,rfl,rfl,[],.inl ⟨ao,rfl,by simp[iT],rfl⟩,rfl⟩
  · intro w is
    have hb:=hs.ag 0 (b:=b) rfl
    have D:w.heap[b]?=some (.cells cur 9 (0,0)):=by rw[is.heap];exact hb
    have hz:ew.sz=1:=rfl
    rw[hz,nI] at h3 h4
    have I:=GN h4
    have hcell:∀j,j<u.length→cur[o+j]?=some (encStr u[j]!):=by
      intro j hj
      have e:(cut cur o cap)[j]?=some (encStr u[j]!):=by
        rw[I,jM,FT hj]
        simp[hj]
      unfold cut at e
      rw[yU (by omega),s9,q5] at e
      exact e
    have hH:Holds encStr w b o u.toArray:=by
      intro j hj
      have hj:j<u.length:=by simpa using hj
      refine⟨?_,by simp[World.frozen?,D]⟩
      simp only[World.cell?,D]
      simp only[Option.isSome_none,fZ,de]
      rw[hcell j hj]
      simp[hj]
    have hlt:b<w.heap.size:=(lK.1 D).1
    refine(slices_Sort_string b o cap u w hH hlt (by omega)).mono fun e w' ⟨he,n,os,hw⟩=>⟨.tuple #[],he,?_,?_⟩
    · subst hw
      exact⟨rfl,is.os,is.tape,is.output⟩
    · have hu:iP h b (.cells (putCells encStr o (iT u).toArray cur) 9 (0,0)) (h.modify b (onCells (putCells encStr o (iT u).toArray))):=iP.modify (onCells (putCells encStr o (iT u).toArray)) hb
      have s1:=(hs.uv 0 (b:=b) rfl hu).grow os
      have hh:w'.heap=h.modify b (onCells (putCells encStr o (iT u).toArray))++os:=by
        rw[hw,←is.heap]
        rfl
      rw[hh]
      have hts:o+(iT u).length≤cur.size:=by rw[zn];omega
      have hput:putAt u 0 (iT u)=iT u:=by
        unfold putAt
        rw[uB,dY,qu,mH (by rw[zn];omega),dh]
      have hrow:=aF.yH (T:=9) (d:=ew) (b:=b) (o:=o) (cap:=cap) (xs:=u) h1 h2 (by rw[hz,nI];exact h3) (by rw[hz,nI];exact h4) 0 (ys:=iT u) (news:=(iT u).map encStr) (by rw[zn];omega) (Br g _)
      rw[hput,yV,m_,zn,←Ob cur o _ hts] at hrow
      exact⟨g,_,s1,rfl,rfl,_,hrow,rfl⟩
theorem uV {k:IntKind} (x y:Int):Value.int k (if y>x then y else x)=Value.int k (max x y):=by
  congr 1
  split<;>omega
theorem Od {k:IntKind} (x y:Int):Value.int k (if y<x then y else x)=Value.int k (min x y):=by
  congr 1
  split<;>omega
def qD (_:GH) (x:aQ) (a:Array Value):Prop:=a=#[.string (a_ x)]
def Ch (_:GH) (x:aQ) (a:Array Value):Prop:=∃i:Int,a=#[.int .i64 i,.string (a_ x)]
def qE {α:Type} (go:List α→Bool) (xs:List α):Prop:=∀ys,ys <+: xs→ys≠xs→go ys=true
theorem uW {α:Type} (go:List α→Bool):qE go []:=fun ys h hn=>absurd (List.prefix_nil.1 h) hn
theorem nO {α:Type} {go:List α→Bool} {xs:List α} {x:α} (h:qE go xs) (hg:go xs=true):qE go (xs++[x]):=by
  intro ys hy hn
  rcases List.prefix_concat_iff.1 hy with e|hy
  · exact absurd e hn
  · by_cases hx:ys=xs
    · rw[hx];exact hg
    · exact h ys hy hx
theorem rK {α:Type} {vs rs a b ks:List α} {x:α} (h:(vs++rs).Perm ks) (e:rs=a++x::b):((vs++[x])++(a++b)).Perm ks:=by
  refine List.Perm.trans ?_ h
  rw[e,cI]
  exact FM _ (List.perm_middle.symm:(x::(a++b)).Perm (a++x::b))
theorem xl {α u:Type} {f:α→u} {vs rs ks:List α} {P:List u} (h:(vs++rs).Perm ks) (e:rs=[]) (hp:(ks.map f).Perm P):(vs.map f).Perm P:=by
  subst e
  rw[dh] at h
  exact(h.map f).trans hp
theorem pO {α u:Type} {f:α→u} {vs rs a b ks:List α} {x:α} {P:List u} (h:(vs++rs).Perm ks) (e:rs=a++x::b) (hp:(ks.map f).Perm P):(((vs++[x])++(a++b)).map f).Perm P:=
  ((rK h e).map f).trans hp
def iU (p q:aQ):Bool:=decide (b9 q=0)&&decide (parentOf q=p)
theorem Oe (ns:List af) (p:aQ):(ns.map (·.aa)).filter (iU p)=gA ns p:=by
  unfold gA
  rw[qC]
  rfl
theorem Ci {xs:List aQ} {ns:List af} {p:aQ} (h:xs.Perm (ns.map (·.aa))):(xs.filter (iU p)).Perm (gA ns p):=by
  rw[←Oe]
  exact h.filter _
theorem Of {vs rs a b ks:List (aQ×Value)} {k:aQ} {v:Value} (hs:∀p∈ks,p.1.length≤64) (h:(vs++rs).Perm ks) (e:rs=a++(k,v)::b):k.length≤64:=
  hs (k,v) (h.mem_iff.1 (by rw[e];simp))
theorem zo {vs:List (aQ×Value)} {k p:aQ} {v:Value} (h1:b9 k=0) (h2:parentOf k=p):((vs++[(k,v)]).map (·.1)).filter (iU p)=(vs.map (·.1)).filter (iU p)++[k]:=by
  rw[gp,nK]
  simp[iU,h1,h2]
theorem Cj {vs:List (aQ×Value)} {k p:aQ} {v:Value} (h1:¬b9 k=0):((vs++[(k,v)]).map (·.1)).filter (iU p)=(vs.map (·.1)).filter (iU p):=by
  rw[gp,nK]
  simp[iU,h1]
theorem Ck {vs:List (aQ×Value)} {k p:aQ} {v:Value} (h2:¬parentOf k=p):((vs++[(k,v)]).map (·.1)).filter (iU p)=(vs.map (·.1)).filter (iU p):=by
  rw[gp,nK]
  simp[iU,h2]
theorem GO {vs r:List (aQ×Value)} {k p:aQ} {v:Value} (h1:b9 k=0) (h2:parentOf k=p):(vs.map (·.1)).filter (iU p)++[k] <+: (((vs++[(k,v)])++r).map (·.1)).filter (iU p):=by
  rw[gp,nK,zo h1 h2]
  exact BF _ _
theorem Cl {α:Type} (s:List α):(s.drop ((s.length:Int)-1+1).toNat).reverse=[]:=by
  rw[show((s.length:Int)-1+1).toNat=s.length by omega];simp
theorem xm {α:Type} {s:List α} {i:Int} {x:α} (h:0≤i) (hx:s[i.toNat]?=some x):(s.drop (i-1+1).toNat).reverse=(s.drop (i+1).toNat).reverse++[x]:=by
  rw[show(i-1+1).toNat=i.toNat by omega,show(i+1).toNat=i.toNat+1 by omega,drop_at hx,List.reverse_cons]
theorem Og {α:Type} {s:List α} {i:Int} (h: -1≤i) (h2:i<0):(s.drop (i+1).toNat).reverse=s.reverse:=by
  rw[show(i+1).toNat=0 by omega];rfl
theorem GP {α:Type} (s:List α) (n:Nat):(s.drop n).reverse <+: s.reverse:=by
  refine⟨(s.take n).reverse,?_⟩
  rw[←List.reverse_append,mJ]
theorem GQ {ns:List af} (h:fW ns):(ns.map (·.aa)).Pairwise fun a b=>Go.Op.bytesLess a b=true:=pJ.2 h
theorem Oh {r:List aQ} {ns:List af} {p:aQ} (hp:r.Perm (gA ns p)) (h:fW ns):iT r=gA ns p:=
  (GL hp).trans (GM (GQ (s7 oJ h)))
theorem jT.sort {g:GH} {mb:Nat} {ns:List af} (h:jT g mb ns):fW ns:=by
  obtain⟨_,_,_,_,h2,_⟩:=h
  exact h2.2.2.1
theorem jv.sort {g:GH} {b:Nat} {ns:List af} (h:jv g b ns):fW ns:=by
  obtain⟨_,_,h2⟩:=h
  exact h2.sort
abbrev gE:GH:=fun _=>none
theorem Oi {c c':au}:aG (cQ gE c) (cQ gE (c++c')):=by
  intro b o h
  unfold cQ at *
  rw[List.find?_append]
  cases hf:c.find? (fun p=>Nat.beq p.1 b) with
  |none=>rw[hf] at h;cases h
  |some p=>rw[hf] at h;exact h
theorem Oj {v:Value} {xs:aj} {c C:au} (h:aF 5 bn gE v xs c) (hn:(C.map (·.1)).Nodup) (hc:∀p∈c,p∈C):ay (cQ gE C) 5 bn v xs:=by
  rcases h.old with ⟨ao,rfl,rfl,_⟩|⟨b,o,cap,cur,rfl,rfl,h1,h2,h3,h4⟩
  · exact ay.empty _ _ _ _ _
  · exact⟨_,cap,rfl,h1,fun _=>⟨b,o,cur,(5,0,0),rfl,nJ hn (hc _ (gv.2 rfl)),Bt (fun _ _ _ _ h=>h) h4⟩⟩
theorem St.Ol {h0:av} {g0:GH} {S0:Nat→Prop} {g:GH} {L:List au} {h:av} (s:St h0 g0 S0 g L h) {A:au} (hs:A.Sublist L.flatten):(A.map (·.1)).Nodup:=s_ (hs.map _) s.nodup
theorem GR {g:GH} {d:au} (hs:∀p∈d,g p.1=none):aG (cQ gE d) (cQ g d):=by
  intro b o h
  unfold cQ at *
  cases hf:d.find? (fun p=>Nat.beq p.1 b) with
  |none=>rw[hf] at h;cases h
  |some p=>rw[hf] at h;exact h
theorem Deep.freeze {h0:av} {g0:GH} {S0:Nat→Prop} {g:GH} {L:List au} {h:av} {α:Type} {T:TypeId} {d:Kd α} {v:Value} {xs:List α} {c u:au} (hr:aF T d (cQ gE u) v xs c) (s:St h0 g0 S0 g (c::u::L) h):
    ∃g',St h0 g0 S0 g' L h∧aG g g'∧ay g' T d v xs:=by
  have s1:=s.pq (L':=u::c::L) (List.Perm.swap _ _ _)
  obtain⟨s2,D⟩:=St.freeze s1
  have G:aF T d (cQ g u) v xs c:=hr.mono (GR fun p hp=>s1.sep p (by simp[hp]))
  obtain⟨g',s3,I,hs⟩:=aF.freeze G s2
  exact⟨g',s3,D.trans I,hs⟩
set_option maxRecDepth 100000
theorem Om (B:World) (h:av) (g:GH) (hg:bf g h) (G:bh g) (s:aj) (p:aj):
  aA prog B 202 #[vS s,vS p] h g [] (fun D g' L'=>D=.bool (p.isPrefixOf s)∧g'=g∧L'=[]):=by
 refine aA.aq func202 fun R hR=>?_
 have u:=St.init hg
 refine At.go 1 1 []<|At.rp 14 6 [(10,.bool (decide ((s.length:Int)≥(p.length:Int))))]<|Op.wd ((s.length:Int)≥(p.length:Int)) 10 (fun I=>?_) fun J=>?_
 ·exact Op.px 3 [(11,vS s),(13,vI (p.length:Int))]<|Op.MF (T:=9) (k:=.i64) (x:=11) (hi:=13) (dst:=14) (l:=s) (n:=(p.length:Int)) (by kernel_rfl) (by kernel_rfl) (by kernel_rfl) (by kernel_rfl) (by omega) (by omega)<|Op.px 1 [(15,vS p)]<|Op.vl 16 (.bool ((a_ (s.take ((p.length:Int):Int).toNat)).toList==(a_ p).toList)) (.bool ((s.take ((p.length:Int):Int).toNat)==p)) (by rw[toList_mkS,toList_mkS])<|Op.pr 2 4 (.bool ((s.take ((p.length:Int):Int).toNat)==p)) (hR u ⟨(aS (by exact Nz)),rfl,rfl⟩)
 exact Op.pr 2 4 vF (hR u ⟨(aS (by exact(NA (by omega)).symm)),rfl,rfl⟩)
theorem On (B:World) (h:av) (g:GH) (hg:bf g h) (J:bh g) (s:aj) (p:aj):
  aA prog B 183 #[vS s,vS p] h g [] (fun O g' L'=>O=.tuple #[.string (a_ (if p.isPrefixOf s=true then s.drop p.length else s)),.bool (p.isPrefixOf s)]∧g'=g∧L'=[]):=by
 refine aA.aq func183 fun R hR=>?_
 have D:=St.init hg
 refine At.go 1 2 []<|At.rp 4 2 [(6,vS s),(7,vS p)]<|Op.c1 8 (Om _ _ _ D.sub J s p) D fun U G=>Op.pg 2 [(9,.bool (!(p.isPrefixOf s)))]<|At.c_ (!(p.isPrefixOf s)) 9 3 5 (fun I=>?_) fun u=>?_
 ·replace I:=(dm I)
  exact At.go 4 3 [(4,vS s),(5,vF)]<|At.rt (.tuple #[vS s,vF]) (hR G ⟨bM (jh (by simp_all)) (aS (by simp_all)),rfl,rfl⟩)
 replace u:=(dn u)
 exact At.rp 6 3 [(11,vS s),(13,vI (p.length:Int))]<|Op.ME (T:=9) (k:=.i64) (x:=11) (lo:=13) (dst:=14) (l:=s) (n:=(p.length:Int)) (by kernel_rfl) (by kernel_rfl) (by kernel_rfl) (by kernel_rfl) (by have:=F4 u;omega) (by have:=F4 u;omega)<|Op.pg 6 [(4,vS (s.drop ((p.length:Int):Int).toNat)),(5,vT)]<|At.rt (.tuple #[vS (s.drop ((p.length:Int):Int).toNat),vT]) (hR G ⟨bM (jh (by simp_all)) (aS (by simp_all)),rfl,rfl⟩)
theorem Oo (B:World) (h:av) (g:GH) (hg:bf g h) (D:bh g) (s:aj) (p:aj):
  aA prog B 161 #[vS s,vS p] h g [] (fun G g' L'=>G=.tuple #[.string (a_ (if p.isPrefixOf s=true then s.drop p.length else s)),.bool (p.isPrefixOf s)]∧g'=g∧L'=[]):=by
 refine aA.aq func161 fun R hR=>?_
 have u:=St.init hg
 exact At.go 1 2 []<|At.rp 7 2 [(6,vS s),(7,vS p)]<|Op.c1 8 (On _ _ _ u.sub D s p) u fun J I=>Op.pg 2 [(4,vS (if p.isPrefixOf s=true then s.drop p.length else s)),(5,.bool (p.isPrefixOf s))]<|At.rt (.tuple #[vS (if p.isPrefixOf s=true then s.drop p.length else s),.bool (p.isPrefixOf s)]) (hR I ⟨bM (jh (by rfl)) (aS (by rfl)),rfl,rfl⟩)
theorem Oq (B:World) (h:av) (g:GH) (hg:bf g h) (I:bh g) (s:aj) (hlen:s.length≤1000000000):
  aA prog B 165 #[vS s] h g [] (fun J g' L'=>J=.bool (gz s)∧g'=g∧L'=[]):=by
 refine aA.aq func165 fun R hR=>?_
 have u:=St.init hg
 refine At.go 1 1 []<|At.rp 13 1 [(3,vS s)]<|Op.vl 4 (.bool (!((a_ s).toList==(a_ []).toList))) (.bool (!(s==([]:aj)))) (by rw[toList_mkS,toList_mkS])<|Op.px 1 [(5,.bool (!(s==([]:aj))))]<|Op.wb (!(s==([]:aj))) 5 (fun D=>?_) fun G=>?_
 ·replace D:=rj (dm D)
  refine Op.px 5 [(10,.bool (decide ((s.length:Int)≤16)))]<|Op.wd ((s.length:Int)≤16) 10 (fun O=>?_) fun U=>?_
  ·exact Op.px 1 [(11,vS s)]<|Op.c1 12 (M6 _ _ _ u.sub I s ([97,98,99,100,101,102,103,104,105,106,107,108,109,110,111,112,113,114,115,116,117,118,119,120,121,122,48,49,50,51,52,53,54,55,56,57,45,95]) (by(try dsimp only)<;>omega) (by((try dsimp only)<;>decide)) (by((try dsimp only)<;>(exact NB (by decide))))) u fun X V=>Op.vl 13 (.bool ((a_ (Lib.trimS s ([97,98,99,100,101,102,103,104,105,106,107,108,109,110,111,112,113,114,115,116,117,118,119,120,121,122,48,49,50,51,52,53,54,55,56,57,45,95]))).toList==(a_ []).toList)) (.bool ((Lib.trimS s ([97,98,99,100,101,102,103,104,105,106,107,108,109,110,111,112,113,114,115,116,117,118,119,120,121,122,48,49,50,51,52,53,54,55,56,57,45,95]))==([]:aj))) (by rw[toList_mkS,toList_mkS])<|Op.pr 2 2 (.bool ((Lib.trimS s ([97,98,99,100,101,102,103,104,105,106,107,108,109,110,111,112,113,114,115,116,117,118,119,120,121,122,48,49,50,51,52,53,54,55,56,57,45,95]))==([]:aj))) (hR V ⟨(aS (by exact ND D O)),rfl,rfl⟩)
  exact Op.pr 2 2 vF (hR u ⟨(aS (by exact NF U)),rfl,rfl⟩)
 replace G:=eq_of_beq (dn G)
 exact Op.pr 2 2 vF (hR u ⟨(aS (by(subst G;exact NG))),rfl,rfl⟩)
theorem Ot (B:World) (h:av) (g:GH) (hg:bf g h) (D:bh g) (s:aj) (hlen:s.length≤1000000000):
  aA prog B 164 #[vS s] h g [] (fun G g' L'=>G=.bool (!gz s)∧g'=g∧L'=[]):=by
 refine aA.aq func164 fun R hR=>?_
 have u:=St.init hg
 exact At.go 1 1 []<|At.rp 4 1 [(3,vS s)]<|Op.c1 4 (Oq _ _ _ u.sub D s (by(try dsimp only)<;>omega)) u fun J I=>Op.pr 2 2 (.bool (!(gz s))) (hR I ⟨(aS (by rfl)),rfl,rfl⟩)
theorem Ou (B:World) (h:av) (g:GH) (hg:bf g h) (ad:bh g) (V:Value) (l:List aj) (X:ay g 9 ew V l) (f:Nat) (q:aj→Bool) (hf:ei prog f) (hq:∀(B:World) (h:av) (g:GH),bf g h→bh g→∀(x:aj),x.length≤1000000000→aA prog B f #[.string (a_ x)] h g [] (fun v g' L'=>v=.bool (q x)∧g'=g∧L'=[])) (hall:∀x∈l,x.length≤1000000000) (hlen:l.length≤1000000000):
  aA prog B 185 #[V,.func (.func f) #[] #[]] h g [] (fun ae g' L'=>ae=.int .i64 (eC q l)∧g'=g∧L'=[]):=by
 obtain⟨Y,J,rfl⟩:=X.ai
 refine aA.aq func185 fun R hR=>At.go 1 1 []<|At.go 2 3 [(7,vI (l.length:Int)),(8,vI 0)] ?_
 have am:∀(m:Nat) (i:Int) (O:av) (hm:l.length-i.toNat<m) (h0:0≤i) (h1:i≤l.length) (G:findAt q l i) (u:St h g (aM []) g [] O),At (bS prog B 185 f185 R) [] 2 [(0,vL Y l.length J),(1,.func (.func f) #[] #[]),(7,vI (l.length:Int)),(8,vI i)] O:=by
  intro m;induction m with
  |zero=>intros;omega
  |succ m ar=>
   intro i O hm h0 h1 G u
   refine At.go 3 1 [(9,.bool (decide (i<(l.length:Int))))]<|At.fd (i<(l.length:Int)) 9 4 10 (fun a8=>?_) fun aw=>?_
   ·refine At.go 5 2 [(5,vI i)]<|At.rp 6 3 [(11,.func (.func f) #[] #[]),(12,vL Y l.length J),(13,vI i)] ?_
    obtain⟨D,I⟩:=cD l i
    obtain⟨a0,Z,a9,bb,a1,a3,U⟩:=ay.br X _ I
    cases a1
    refine Op.iq 57 9 1 16 l.length J 12 13 14 a0 Z i ?_
    replace U:cut _ _ _=[vS D]:=U
    refine Op.l1 9 14 15 (Z+i.toNat*1) (vS D) (u.sub _ _ a3) ?_ (hv:=cT U 0 rfl)
    refine Op.cv (some 16) 11 #[15] #[9] f #[] #[] [] [] #[vS D] hf (by kernel_rfl) u (hq _ _ _ u.sub ad D (by((try dsimp only)<;>(exact hall _ (cL I))))) (fun _ _ h=>absurd h (gq _)) ?_
    rintro _ a4 _ bc a5 ab ⟨rfl,bd,rfl⟩;subst a4;clear a5
    refine Op.gt 6<|At.c_ (q D) 16 7 9 (fun a6=>?_) fun a7=>?_
    ·exact At.gr 8 2 4 (vI i) (hR ab ⟨(bp (by exact td G I a6)),rfl,rfl⟩)
    exact At.rg 2<|Op.vq 18 (i+1)<|Op.pg 2 [(8,vI (i+1))] (At.ke (ar (i+1) _ (by omega) (by omega) (by omega) (by exact uL G h0 I a7) ab))
   exact At.gr 11 1 4 (vI (-1)) (hR u ⟨(bp (by exact tf G aw)),rfl,rfl⟩)
 exact At.ke (am _ 0 _ (bK _) (by omega) (by omega) (by exact uK _ _) (St.init hg))
theorem Ov (B:World) (h:av) (g:GH) (hg:bf g h) (u:bh g) (D:Value) (l:List aj) (G:ay g 9 ew D l) (f:Nat) (q:aj→Bool) (hf:ei prog f) (hq:∀(B:World) (h:av) (g:GH),bf g h→bh g→∀(x:aj),x.length≤1000000000→aA prog B f #[.string (a_ x)] h g [] (fun v g' L'=>v=.bool (q x)∧g'=g∧L'=[])) (hall:∀x∈l,x.length≤1000000000) (hlen:l.length≤1000000000):
  aA prog B 163 #[D,.func (.func f) #[] #[]] h g [] (fun J g' L'=>J=.bool (l.any q)∧g'=g∧L'=[]):=by
 obtain⟨O,U,rfl⟩:=G.ai
 refine aA.aq func163 fun R hR=>?_
 have I:=St.init hg
 exact At.go 1 1 []<|At.rp 5 2 [(5,vL O l.length U),(6,.func (.func f) #[] #[])]<|Op.c1 7 (Ou _ _ _ I.sub u _ _ G f (fun x=>q x) hf (fun B h g hg u x=>hq B h g hg u x) (by(try dsimp only)<;>assumption) (by(try dsimp only)<;>assumption)) I fun X V=>Op.pr 2 4 (.bool (decide ((eC (fun x=>q x) l)≥0))) (hR V ⟨(aS (by exact uJ _ _)),rfl,rfl⟩)
theorem GS (B:World) (h:av) (g:GH) (hg:bf g h) (D:bh g) (p:aj) (hlen:p.length≤1000000000):
  aA prog B 135 #[vS p] h g [] (fun ar g' L'=>∃v0,ar=.tuple #[v0,.int .i64 (cP p)]∧ay g' 9 ew v0 (bT p)∧L'=[]):=by
 refine aA.aq func135 fun R hR=>?_
 have Z:=St.init hg
 refine At.go 1 2 []<|At.rp 7 1 [(8,vS p)]<|Op.c1 9 (Oo _ _ _ Z.sub D p ([47])) Z fun a0 J=>Op.pg 2 [(4,vS (if ([47]).isPrefixOf p=true then p.drop ([47]).length else p)),(5,.bool (([47]).isPrefixOf p))]<|At.rp 7 3 [(14,.bool (!(([47]).isPrefixOf p)))] ?_
 refine Op.wb (!(([47]).isPrefixOf p)) 14 (fun V=>?_) fun u=>?_
 ·replace V:=(dm V)
  exact Op.pg 3 [(18,vT)]<|At.bX 18 4<|At.go 5 2 [(2,vN),(3,vI 90)]<|At.rt (.tuple #[vN,vI 90]) (hR J ⟨vN,bM rfl (bp (by exact(uM (F7 V)).2)),bP (ay.empty _ _ _ _ _) (by exact(uM (F7 V)).1),rfl⟩)
 replace u:=(dn u)
 refine Op.pg 3 [(18,.bool (decide ((p.length:Int)>64)))]<|At.fd ((p.length:Int)>64) 18 4 6 (fun a1=>?_) fun G=>?_
 ·exact At.go 5 2 [(2,vN),(3,vI 90)]<|At.rt (.tuple #[vN,vI 90]) (hR J ⟨vN,bM rfl (bp (by exact(uM (y9 (by omega))).2)),bP (ay.empty _ _ _ _ _) (by exact(uM (y9 (by omega))).1),rfl⟩)
 refine At.rp 2 1 [(19,vS (if ([47]).isPrefixOf p=true then p.drop ([47]).length else p))]<|Op.vl 20 (.bool ((a_ (if ([47]).isPrefixOf p=true then p.drop ([47]).length else p)).toList==(a_ []).toList)) (.bool ((if ([47]).isPrefixOf p=true then p.drop ([47]).length else p)==([]:aj))) (by rw[toList_mkS,toList_mkS])<|Op.gt 7<|At.c_ ((if ([47]).isPrefixOf p=true then p.drop ([47]).length else p)==([]:aj)) 20 8 10 (fun X=>?_) fun I=>?_
 ·replace X:=eq_of_beq X
  exact At.go 9 2 [(2,vN),(3,vI 0)]<|At.rt (.tuple #[vN,vI 0]) (hR J ⟨vN,bM rfl (bp (by exact(Gd u G X).2)),bP (ay.empty _ _ _ _ _) (by exact(Gd u G X).1),rfl⟩)
 replace I:=rj I
 refine At.rp 3 1 [(21,vS (if ([47]).isPrefixOf p=true then p.drop ([47]).length else p))]<|Op.c0 (some 22) (M4 _ _ _ J.sub D (if ([47]).isPrefixOf p=true then p.drop ([47]).length else p) 47 (by((try dsimp only)<;>(have:=BV p;unfold nj at this;omega)))) J ?_
 rintro _ a3 _ a4 aw ab ⟨a5,rfl,Y,rfl⟩
 obtain⟨O,U,rfl⟩:=Y.ai
 replace D:=D.mono aw
 refine Op.pg 11 [(6,vL O ((splitOn 47 (if ([47]).isPrefixOf p=true then p.drop ([47]).length else p)).length) U)]<|At.rp 2 1 [(23,vL O ((splitOn 47 (if ([47]).isPrefixOf p=true then p.drop ([47]).length else p)).length) U)]<|Op.c1 24 (Ov _ _ _ ab.sub D _ _ Y 164 (fun s=>!gz s) (ei.of (by kernel_rfl)) (fun B h g hg D s=>Ot B h g hg D s) (by((try dsimp only)<;>(exact fun x hx=>cr (Gc 47 _ x hx) (cr (BV p) hlen)))) (by((try dsimp only)<;>((have h1:=F9 47 (nj p);have h2:=BV p;unfold nj at h1 h2;unfold cP at *;omega))))) ab fun a6 ad=>Op.gt 12<|At.c_ ((splitOn 47 (if ([47]).isPrefixOf p=true then p.drop ([47]).length else p)).any (fun s=>!gz s)) 24 13 15 (fun ae=>?_) fun am=>?_
 ·exact At.go 14 2 [(2,vN),(3,vI 90)]<|At.rt (.tuple #[vN,vI 90]) (hR ad ⟨vN,bM rfl (bp (by exact(uM (Ge u G I ae)).2)),bP (ay.empty _ _ _ _ _) (by exact(uM (Ge u G I ae)).1),rfl⟩)
 exact At.go 16 3 [(2,vL O ((splitOn 47 (if ([47]).isPrefixOf p=true then p.drop ([47]).length else p)).length) U),(3,vI 0)]<|At.rt (.tuple #[vL O ((splitOn 47 (if ([47]).isPrefixOf p=true then p.drop ([47]).length else p)).length) U,vI 0]) (hR ad ⟨(vL O ((splitOn 47 (if ([47]).isPrefixOf p=true then p.drop ([47]).length else p)).length) U),bM rfl (bp (by exact(Gf u G I am).2)),bP Y (by exact(Gf u G I am).1),rfl⟩)
theorem zp (B:World) (h:av) (g:GH) (hg:bf g h) (D:bh g) (p:aj) (hlen:p.length≤1000000000):
  aA prog B 112 #[vS p] h g [] (fun G g' L'=>G=.int .i64 (cP p)∧g'=g∧L'=[]):=by
 refine aA.aq func112 fun R hR=>?_
 have u:=St.init hg
 refine At.go 1 1 []<|At.rp 7 1 [(6,vS p)]<|Op.c0 (some 7) (GS _ _ _ u.sub D p (by(try dsimp only)<;>omega)) u ?_
 rintro _ O _ U V I ⟨X,rfl,J,rfl⟩
 obtain⟨Y,Z,rfl⟩:=J.ai
 exact Op.pg 2 [(4,vI (cP p))]<|At.gr 3 2 2 (vI (cP p)) (hR I.ji ⟨(bp (by rfl)),rfl,rfl⟩)
theorem GU (B:World) (h:av) (g:GH) (hg:bf g h) (am:bh g) (p:aj) (hlen:p.length≤1000000000):
  aA prog B 127 #[vS p] h g [] (fun ar g' L'=>∃v0,ar=.tuple #[v0,.string (a_ (mK (bT p))),.int .i64 (b9 p)]∧ay g' 9 ew v0 ((bT p).dropLast)∧L'=[]):=by
 refine aA.aq func127 fun R hR=>?_
 have Y:=St.init hg
 refine At.go 1 3 []<|At.rp 7 1 [(8,vS p)]<|Op.c0 (some 9) (GS _ _ _ Y.sub am p (by((try dsimp only)<;>((have:=nM p;omega))))) Y ?_
 rintro _ a4 _ a5 a6 G ⟨a7,rfl,O,rfl⟩
 obtain⟨I,u,rfl⟩:=O.ai
 refine Op.pg 2 [(5,vL I ((bT p).length) u),(6,vI (cP p))]<|At.rp 7 3 [(14,.bool ((cP p) != 0))]<|Op.wb ((cP p) != 0) 14 (fun D=>?_) fun Z=>?_
 ·replace D:=jO D
  exact Op.pg 3 [(18,vT)]<|At.bX 18 4<|At.go 5 3 [(2,vN),(3,vS []),(4,vI 90)]<|At.rt (.tuple #[vN,vS [],vI 90]) (hR G ⟨vN,j4 rfl (jh (by exact(uN (BU D)).2.1)) (bp (by exact(uN (BU D)).2.2)),bP (ay.empty _ _ _ _ _) (by exact(uN (BU D)).1),rfl⟩)
 replace Z:=l6 Z
 refine Op.pg 3 [(18,.bool (((bT p).length:Int)==0))]<|At.fd (((bT p).length:Int)=0) 18 4 6 (fun a8=>?_) fun aw=>?_
 ·exact At.go 5 3 [(2,vN),(3,vS []),(4,vI 90)]<|At.rt (.tuple #[vN,vS [],vI 90]) (hR G ⟨vN,j4 rfl (jh (by exact(uN (lg (by omega))).2.1)) (bp (by exact(uN (lg (by omega))).2.2)),bP (ay.empty _ _ _ _ _) (by exact(uN (lg (by omega))).1),rfl⟩)
 refine At.dw (fun _=>False) [(0,true),(1,true),(2,true),(3,true),(4,true),(5,true),(6,true),(7,true),(8,true),(9,true),(11,true),(10,false),(12,true),(13,true)]<|Op.px 3 [(19,vL I ((bT p).length) u),(21,vI ((bT p).length:Int))]<|Op.dQ 22 (((bT p).length:Int)-1) (by(have:=nM p;omega)) (by(have:=nM p;omega))<|Op.Fj (T:=57) (E:=9) (cR:=16) (x:=19) (ao:=I) (n:=((bT p).length)) (c:=u) (dst:=23) (d:=ew) (hi:=22) (k:=.i64) (m:=((bT p).length:Int)-1) (by kernel_rfl) (by kernel_rfl) (by kernel_rfl) (by kernel_rfl) O (by(have:=nM p;omega)) (by(have:=nM p;omega)) fun a9 ab=>?_
 obtain⟨U,V,rfl⟩:=ab.ai
 refine Op.px 3 [(24,vL I ((bT p).length) u),(26,vI ((bT p).length:Int))]<|Op.dQ 27 (((bT p).length:Int)-1) (by(have:=nM p;omega)) (by(have:=nM p;omega)) ?_
 obtain⟨J,ad⟩:=j6 (l:=bT p) (i:=((bT p).length:Int)-1) (by(have:=nM p;omega))
 obtain⟨a0,ae,bb,bc,a1,a3,X⟩:=ay.br O _ ad
 cases a1
 refine Op.ix 57 9 1 16 ((bT p).length) u 24 27 28 a0 ae (((bT p).length:Int)-1) (by(have:=nM p;omega)) (by(have:=nM p;omega)) ?_
 replace X:cut _ _ _=[vS J]:=X
 refine Op.px 1 [(2,vL U (((bT p).take (((bT p).length:Int)-1:Int).toNat).length) V)]<|Op.l1 9 28 29 (ae+(((bT p).length:Int)-1:Int).toNat*1) (vS J) (G.sub _ _ a3) ?_ (hv:=cT X 0 rfl)
 exact Op.pg 7 [(3,vS J),(4,vI 0)]<|At.rt (.tuple #[vL U (((bT p).take (((bT p).length:Int)-1:Int).toNat).length) V,vS J,vI 0]) (hR G ⟨(vL U (((bT p).take (((bT p).length:Int)-1:Int).toNat).length) V),j4 rfl (jh (by exact NH ad (by have:=nM p;omega))) (bp (by exact(Gb (by omega)).symm)),bP ab (by exact NI rfl aw),rfl⟩)
theorem Ow (B:World) (h:av) (g:GH) (hg:bf g h) (I:bh g) (u:Value) (l:List aj) (D:ay g 9 ew u l) (X:l.length≤1000000000) (hL:(fy 47 l).length≤1000000000):
  aA prog B 128 #[u] h g [] (fun J g' L'=>J=.string (a_ (joined l))∧g'=g∧L'=[]):=by
 obtain⟨O,U,rfl⟩:=D.ai
 refine aA.aq func128 fun R hR=>?_
 have G:=St.init hg
 exact At.go 1 1 []<|At.rp 4 1 [(3,vL O l.length U)]<|Op.c1 4 (M8 _ _ _ G.sub I _ _ D ([47]) (by(try dsimp only)<;>omega) (by((try dsimp only)<;>((rw[BT];omega))))) G fun Y V=>Op.sa 9 9 (.const (vS ([47]))) 4 5 ([47]) (Lib.join l ([47])) (by rw[BT];simp;omega)<|Op.pr 2 2 (vS (([47])++(Lib.join l ([47])))) (hR V ⟨(jh (by rw[BT];rfl)),rfl,rfl⟩)
theorem xo (B:World) (h:av) (g:GH) (hg:bf g h) (u:bh g) (p:aj) (hlen:p.length≤1000000000):
  aA prog B 95 #[vS p] h g [] (fun V g' L'=>V=.tuple #[.string (a_ (parentOf p)),.int .i64 (b9 p)]∧g'=g∧L'=[]):=by
 refine aA.aq func95 fun R hR=>?_
 have G:=St.init hg
 refine At.go 1 2 []<|At.rp 9 1 [(8,vS p)]<|Op.c0 (some 9) (GU _ _ _ G.sub u p (by(try dsimp only)<;>omega)) G ?_
 rintro _ ab _ ad X D ⟨ae,rfl,I,rfl⟩
 obtain⟨J,O,rfl⟩:=I.ai
 replace u:=u.mono X
 refine Op.pg 2 [(4,vL J (((bT p).dropLast).length) O),(6,vI (b9 p))]<|At.go 3 2 [(14,.bool ((b9 p) != 0))]<|At.fn ((b9 p)=0) 14 4 6 (fun Y=>?_) fun U=>?_
 ·exact At.go 5 3 [(2,vS []),(3,vI (b9 p))]<|At.rt (.tuple #[vS [],vI (b9 p)]) (hR D.ji ⟨bM (jh (by exact NM Y)) (bp (by rfl)),rfl,rfl⟩)
 exact At.rp 4 1 [(16,vL J (((bT p).dropLast).length) O)]<|Op.c1 17 (Ow _ _ _ D.sub u _ _ I (by((try dsimp only)<;>(exact cr (NL p) (by omega)))) (by(try dsimp only)<;>exact cr (NK p) hlen)) D fun am Z=>Op.pg 7 [(2,vS (joined ((bT p).dropLast))),(3,vI 0)]<|At.rt (.tuple #[vS (joined ((bT p).dropLast)),vI 0]) (hR Z.ji ⟨bM (jh (by exact NN U)) (bp (by exact U.symm)),rfl,rfl⟩)
theorem Ox (B:World) (h:av) (g:GH) (hg:bf g h) (I:bh g) (p:aj) (hlen:p.length≤1000000000):
  aA prog B 157 #[vS p] h g [] (fun J g' L'=>J=.tuple #[.string (a_ (l9 p)),.int .i64 (cP p)]∧g'=g∧L'=[]):=by
 refine aA.aq func157 fun R hR=>?_
 have u:=St.init hg
 refine At.go 1 2 []<|At.rp 3 1 [(5,vS p)]<|Op.c1 6 (zp _ _ _ u.sub I p (by(try dsimp only)<;>omega)) u fun U D=>Op.pg 2 [(4,vI (cP p))]<|At.go 3 2 [(8,.bool ((cP p) != 0))] ?_
 refine At.fn ((cP p)=0) 8 4 6 (fun O=>?_) fun G=>?_
 ·exact At.go 5 3 [(2,vS []),(3,vI (cP p))]<|At.rt (.tuple #[vS [],vI (cP p)]) (hR D ⟨bM (jh (by exact NO O)) (bp (by rfl)),rfl,rfl⟩)
 exact At.go 7 3 [(2,vS p),(3,vI 0)]<|At.rt (.tuple #[vS p,vI 0]) (hR D ⟨bM (jh (by exact(Gi G).1)) (bp (by exact(Gi G).2)),rfl,rfl⟩)
theorem Oy (B:World) (h:av) (g:GH) (hg:bf g h) (u:bh g) (p:aj) (n:Int) (hP:l7 g) (hlen:p.length≤100000000) (hn0: -9223372036854775808≤n) (ab:n≤9223372036854775807):
  aA prog B 133 #[vS p,vI n] h g [] (fun X g' L'=>X=.tuple #[.string (a_ (eH p n)),.int .i64 (j8 p n)]∧g'=g∧L'=[]):=by
 refine aA.aq func133 fun R hR=>?_
 have G:=St.init hg
 refine At.go 1 2 []<|At.rp 9 1 [(11,vS p)]<|Op.c0 (some 12) (GU _ _ _ G.sub u p (by(try dsimp only)<;>omega)) G ?_
 rintro _ ad _ ae I D ⟨am,rfl,Y,rfl⟩
 obtain⟨ar,aw,rfl⟩:=Y.ai
 replace u:=u.mono I
 replace hP:=hP.mono I
 refine Op.pg 2 [(8,vI (b9 p))]<|At.rp 10 3 [(18,.bool ((b9 p) != 0))]<|Op.wb ((b9 p) != 0) 18 (fun J=>?_) fun O=>?_
 ·replace J:=jO J
  exact Op.pg 3 [(25,vT)]<|At.bX 25 4<|At.go 5 2 [(4,vS []),(5,vI 90)]<|At.rt (.tuple #[vS [],vI 90]) (hR D.ji ⟨bM (jh (by exact(tg (Gj ‹_›)).1)) (bp (by exact(tg (Gj ‹_›)).2)),rfl,rfl⟩)
 replace O:=l6 O
 refine Op.px 4 [(22,.bool (decide (n<0)))]<|Op.wd (n<0) 22 (fun a0=>?_) fun a1=>?_
 ·exact Op.pg 3 [(25,vT)]<|At.bX 25 4<|At.go 5 2 [(4,vS []),(5,vI 90)]<|At.rt (.tuple #[vS [],vI 90]) (hR D.ji ⟨bM (jh (by exact(tg (Gk ‹_›)).1)) (bp (by exact(tg (Gk ‹_›)).2)),rfl,rfl⟩)
 refine Op.pg 3 [(25,.bool (decide (n>99999)))]<|At.fd (n>99999) 25 4 6 (fun a3=>?_) fun a4=>?_
 ·exact At.go 5 2 [(4,vS []),(5,vI 90)]<|At.rt (.tuple #[vS [],vI 90]) (hR D.ji ⟨bM (jh (by exact(tg (Gl ‹_›)).1)) (bp (by exact(tg (Gl ‹_›)).2)),rfl,rfl⟩)
 refine At.rp 3 1 [(26,vI n)]<|Op.c1 27 (M1 _ _ _ D.sub u n hP (by(try dsimp only)<;>omega) (by(try dsimp only)<;>omega)) D fun a5 U=>Op.pg 7 [(9,vS (Lib.itoa n))]<|At.rp 13 3 [(28,vS p),(30,vI ((Lib.itoa n).length:Int))]<|Op.dQ 31 ((5:Int)-((Lib.itoa n).length:Int)) (by(have hi:=uO (n:=n) (by omega) (by omega);omega)) (by omega) ?_
 refine Op.c1 32 (M7 _ _ _ U.sub u ([48]) ((5:Int)-((Lib.itoa n).length:Int)) (by((try dsimp only)<;>((have hi:=uO (n:=n) (by omega) (by omega);omega)))) (by(try dsimp only)<;>omega) (by((try dsimp only)<;>((have hi:=uO (n:=n) (by omega) (by omega);simp only[b_,Lib.repeatL_length,qz,nI,yW];omega))))) U fun a6 V=>Op.sa 9 9 28 32 33 p (Lib.repeatL ([48]) (((5:Int)-((Lib.itoa n).length:Int):Int).toNat)) (by(have hi:=uO (n:=n) (by omega) (by omega);simp only[b_,Lib.repeatL_length,qz,nI,yW];omega))<|Op.px 1 [(34,vS (Lib.itoa n))]<|Op.sa 9 9 33 34 35 (p++(Lib.repeatL ([48]) (((5:Int)-((Lib.itoa n).length:Int):Int).toNat))) (Lib.itoa n) (by(have hi:=uO (n:=n) (by omega) (by omega);simp only[b_,Lib.repeatL_length,qz,nI,yW];omega))<|Op.c1 36 (Ox _ _ _ V.sub u ((p++(Lib.repeatL ([48]) (((5:Int)-((Lib.itoa n).length:Int):Int).toNat)))++(Lib.itoa n)) (by((try dsimp only)<;>((have hi:=uO (n:=n) (by omega) (by omega);simp only[b_,Lib.repeatL_length,qz,nI,yW];omega))))) V fun a7 Z=>?_
 exact Op.pg 8 [(4,vS (l9 ((p++(Lib.repeatL ([48]) (((5:Int)-((Lib.itoa n).length:Int):Int).toNat)))++(Lib.itoa n)))),(5,vI (cP ((p++(Lib.repeatL ([48]) (((5:Int)-((Lib.itoa n).length:Int):Int).toNat)))++(Lib.itoa n))))]<|At.rt (.tuple #[vS (l9 ((p++(Lib.repeatL ([48]) (((5:Int)-((Lib.itoa n).length:Int):Int).toNat)))++(Lib.itoa n))),vI (cP ((p++(Lib.repeatL ([48]) (((5:Int)-((Lib.itoa n).length:Int):Int).toNat)))++(Lib.itoa n)))]) (hR Z.ji ⟨bM (jh (by exact(Gn (Gm ‹_› ‹_› ‹_›) (by omega)).1)) (bp (by exact(Gn (Gm ‹_› ‹_› ‹_›) (by omega)).2)),rfl,rfl⟩)
theorem Oz (g0:GH) (bc D:Nat) (x:List af) (G:g0 bc=some (.cells #[.map (some D)] 116 (0,0))) (aw:jT g0 D x):jD prog g0 140 #[vP bc] qD (fun b3=>b3.Perm (x.map (·.aa))):=by
 intro B h g l I go c bd hg a0 a1 b4 b5 hs
 replace G:=bd _ _ G
 replace aw:=aw.mono bd
 refine aA.aq func140 fun R hR=>At.rg 2<|Op.l1 116 1 4 0 (.map (some D)) (hs.sub _ _ G) ?_
 obtain⟨b6,b8,be,J,a3,ci,a4,ck,co⟩:=jT.kK aw
 refine Op.rD (d:=.string) (z:=.pointer none) (mt:=116) (x:=4) (dst:=5) (m:=D) (by kernel_rfl) (by kernel_rfl) (by kernel_rfl) (hs.sub _ _ J) a3 hs fun O ca c3 cb ce=>Op.gt 1 ?_
 have cf:∀(m:Nat) (ab:GH) (U:aG g ab) (vs:List (aQ×Value)) (rs:List (aQ×Value)) (c1:au) (o1:Obj) (a5:av) (hm:rs.length<m) (ad:go (vs.map (·.1))=true) (ae:qE go (vs.map (·.1))) (X:(vs++rs).Perm be) (a6:I (vs.map (·.1)) ab c1) (bi:lz encS b6 b8 D vs rs o1) (am:St h g (aM [c]) ab [[(O,o1)],c1] a5),At (bS prog B 140 f140 R) [] 1 [(0,.func (.yield l) #[] #[]),(5,vP O)] a5:=by
  intro m;induction m with
  |zero=>intros;omega
  |succ m ch=>
   intro ab U vs rs c1 o1 a5 hm ad ae X a6 bi am
   replace a0:=a0.mono U
   replace a1:=a1.mono U
   replace G:=U _ _ G
   replace J:=U _ _ J
   refine At.rg 2<|Op.wT (x:=5) (dst:=6) (it:=O) (m:=D) (by kernel_rfl) (by kernel_rfl) (am.sub _ _ J) a3 bi am 0 rfl zt ⟨fun V=>?_,fun Y u ar Z a7 c4 V bj a8=>?_⟩
   ·exact Op.pg 2 [(7,vF)]<|At.dP 7 7<|At.rt (.tuple #[])<|hR am.drop ⟨(vs.map (·.1)),vs.map (·.1),c1,rfl,by exact xl X V a4,by exact rB _,by exact fun _=>rfl,by exact ae,rfl,a6⟩
   refine Op.pg 2 [(7,vT)]<|At.bX 7 3<|At.rg 3<|Op.wU (x:=5) (dst:=8) (it:=O) (m:=D) (vs:=vs) (k:=u) (v:=ar) (by kernel_rfl) (by kernel_rfl) (a8.sub _ _ J) a3 bj (a8.ag 0 rfl)<|Op.pg 4 [(3,vS u)] ?_
   refine At.rp 4 2 [(10,.func (.yield l) #[] #[]),(11,vS u)] ?_
   have bk:=a8.fs [1] rfl
   refine Op.yield (dst:=some 12) (x:=10) (ops:=#[11]) (ts:=#[9]) (l:=l) (args:=#[vS u]) (Lc:=[c1]) (L:=[[(O,a7)]]) (by kernel_rfl) (by kernel_rfl) (by kernel_rfl) bk (a1 _ _ (vs.map (·.1)) u _ _ (by repeat (first|assumption|exact aG.refl _|apply aG.trans)) a0 (by exact ad) (by rfl) ⟨((vs++[(u,ar)])++(Y++Z)).map (·.1),by exact pO X V a4,by exact⟨(Y++Z).map (·.1),by simp⟩⟩ a6 (St.part (Lc:=[c1]) (L:=[[(O,a7)]]) bk)) (fun _ _ _=>trivial) ?_
   rintro _ c5 _ c6 bm bo ⟨bs,rfl,rfl,bt⟩
   replace G:=bm _ _ G
   replace J:=bm _ _ J
   refine Op.pg 5 [(13,.bool (!(go (vs.map (·.1)++[u]))))]<|At.c_ (!(go (vs.map (·.1)++[u]))) 13 6 1 (fun a9=>?_) fun bb=>?_
   ·replace a9:=(dm a9)
    exact At.rt (.tuple #[])<|hR ((bo.fs [1] rfl).drop) ⟨((vs++[(u,ar)])++(Y++Z)).map (·.1),vs.map (·.1)++[u],bs,rfl,by exact pO X V a4,by exact⟨(Y++Z).map (·.1),by simp⟩,by exact fun h=>absurd h (jc.1 a9),by exact nO ae ad,rfl,bt⟩
   replace bb:=(dn bb)
   exact At.ke (ch _ (aG.trans U (by repeat (first|assumption|apply aG.trans))) (vs++[(u,ar)]) (Y++Z) bs a7 _ (by have hz:=congrArg List.length V;simp only[b_,bL] at hz ⊢;omega) (by simpa using bb) (by simpa using nO (x:=u) ae ad) (by exact rK X V) (by simpa using bt) bj (bo.fs [1] rfl))
 exact At.ke (cf _ _ (aG.refl _) [] be c ca _ (bK _) (by exact b4) (by exact uW go) (by exact gj _) (by exact b5) cb ce)
theorem OA (g0:GH) (bo ae:Nat) (t:List af) (O:g0 bo=some (.cells #[vP ae] 70 (0,0))) (a1:jv g0 ae t) (bc:Nat) (p:aQ) (U:g0 bc=some (.cells #[.string (a_ p)] 9 (0,0))):jD prog g0 130 #[vP bo,vP bc] qD (fun ch=>ch.Perm (gA t p)):=by
 intro B h g l I go c bd hg a3 be ci ck hs
 replace O:=bd _ _ O
 replace a1:=a1.mono bd
 replace U:=bd _ _ U
 refine aA.aq func130 fun R hR=>At.rg 5<|Op.l1 70 1 7 0 (vP ae) (hs.sub _ _ O)<|Op.px 2 [(9,vP ae)] ?_
 obtain⟨X,Y,bs⟩:=a1
 have a1:jv g ae t:=⟨X,Y,bs⟩
 refine Op.l1 116 9 10 0 (.map (some X)) (hs.sub _ _ Y) ?_
 obtain⟨co,c3,bt,V,bi,da,bj,c4,db⟩:=jT.kK bs
 refine Op.rD (d:=.string) (z:=.pointer none) (mt:=116) (x:=10) (dst:=11) (m:=X) (by kernel_rfl) (by kernel_rfl) (by kernel_rfl) (hs.sub _ _ V) bi hs fun Z c5 dc c6 c8=>Op.gt 1 ?_
 have c9:∀(m:Nat) (a4:GH) (G:aG g a4) (vs:List (aQ×Value)) (rs:List (aQ×Value)) (c1:au) (o1:Obj) (bk:av) (hm:rs.length<m) (a5:go ((vs.map (·.1)).filter (iU p))=true) (ab:qE go ((vs.map (·.1)).filter (iU p))) (J:(vs++rs).Perm bt) (am:I ((vs.map (·.1)).filter (iU p)) a4 c1) (b3:lz encS co c3 X vs rs o1) (a6:St h g (aM [c]) a4 [[(Z,o1)],c1] bk),At (bS prog B 130 f130 R) [] 1 [(0,.func (.yield l) #[] #[]),(2,vP bc),(11,vP Z)] bk:=by
  intro m;induction m with
  |zero=>intros;omega
  |succ m bm=>
   intro a4 G vs rs c1 o1 bk hm a5 ab J am b3 a6
   replace a3:=a3.mono G
   replace be:=be.mono G
   replace O:=G _ _ O
   replace U:=G _ _ U
   replace Y:=G _ _ Y
   replace V:=G _ _ V
   refine At.rg 2<|Op.wT (x:=11) (dst:=12) (it:=Z) (m:=X) (by kernel_rfl) (by kernel_rfl) (a6.sub _ _ V) bi b3 a6 0 rfl zt ⟨fun D=>?_,fun ar u ad aw a0 dd D a7 a8=>?_⟩
   ·exact Op.pg 2 [(13,vF)]<|At.dP 13 8<|At.rt (.tuple #[])<|hR a6.drop ⟨((vs.map (·.1)).filter (iU p)),(vs.map (·.1)).filter (iU p),c1,rfl,by exact Ci (xl J D bj),by exact rB _,by exact fun _=>rfl,by exact ab,rfl,am⟩
   refine Op.pg 2 [(13,vT)]<|At.bX 13 3<|At.rg 3<|Op.wU (x:=11) (dst:=14) (it:=Z) (m:=X) (vs:=vs) (k:=u) (v:=ad) (by kernel_rfl) (by kernel_rfl) (a8.sub _ _ V) bi a7 (a8.ag 0 rfl)<|Op.pg 4 [(4,vS u)] ?_
   refine At.rp 7 1 [(17,vS u)]<|Op.c1 18 (xo _ _ _ a8.sub a3 u (by((try dsimp only)<;>((have:=Of c4 J D;omega))))) a8 fun df a9=>Op.pg 5 [(5,vS (parentOf u)),(6,vI (b9 u))]<|At.rp 13 3 [(23,.bool ((b9 u)==0))]<|Op.wd ((b9 u)=0) 23 (fun dg=>?_) fun dj=>?_
   ·refine Op.px 1 [(24,vS (parentOf u))]<|Op.l1 9 2 25 0 (vS p) (a9.sub _ _ U)<|Op.vl 26 (.bool ((a_ (parentOf u)).toList==(a_ p).toList)) (.bool ((parentOf u)==p)) (by rw[toList_mkS,toList_mkS])<|Op.px 2 [(28,.bool ((parentOf u)==p))]<|Op.wb ((parentOf u)==p) 28 (fun b4=>?_) fun b5=>?_
    ·replace b4:=eq_of_beq b4
     refine Op.px 2 [(29,.func (.yield l) #[] #[]),(30,vS u)] ?_
     have b6:=a9.fs [1] rfl
     refine Op.yield (dst:=some 31) (x:=29) (ops:=#[30]) (ts:=#[9]) (l:=l) (args:=#[vS u]) (Lc:=[c1]) (L:=[[(Z,a0)]]) (by kernel_rfl) (by kernel_rfl) (by kernel_rfl) b6 (be _ _ ((vs.map (·.1)).filter (iU p)) u _ _ (by repeat (first|assumption|exact aG.refl _|apply aG.trans)) a3 (by exact a5) (by rfl) ⟨(((vs++[(u,ad)])++(ar++aw)).map (·.1)).filter (iU p),by exact Ci (pO J D bj),by exact GO ‹_› ‹_›⟩ am (St.part (Lc:=[c1]) (L:=[[(Z,a0)]]) b6)) (fun _ _ _=>trivial) ?_
     rintro _ dk _ dl bb b8 ⟨ca,rfl,rfl,cb⟩
     replace O:=bb _ _ O
     replace U:=bb _ _ U
     replace Y:=bb _ _ Y
     replace V:=bb _ _ V
     refine Op.pg 6 [(33,.bool (!(go ((vs.map (·.1)).filter (iU p)++[u]))))]<|At.c_ (!(go ((vs.map (·.1)).filter (iU p)++[u]))) 33 7 1 (fun ce=>?_) fun cf=>?_
     ·replace ce:=(dm ce)
      exact At.rt (.tuple #[])<|hR ((b8.fs [1] rfl).drop) ⟨(((vs++[(u,ad)])++(ar++aw)).map (·.1)).filter (iU p),(vs.map (·.1)).filter (iU p)++[u],ca,rfl,by exact Ci (pO J D bj),by exact GO ‹_› ‹_›,by exact fun h=>absurd h (jc.1 ‹_›),by exact nO ab a5,rfl,cb⟩
     replace cf:=(dn cf)
     exact At.ke (bm _ (aG.trans G (by repeat (first|assumption|apply aG.trans))) (vs++[(u,ad)]) (ar++aw) ca a0 _ (by have hz:=congrArg List.length D;simp only[b_,bL] at hz ⊢;omega) (by(rw[zo ‹_› ‹_›];assumption)) (by(rw[zo ‹_› ‹_›];exact nO ab a5)) (by exact rK J D) (by(rw[zo ‹_› ‹_›];exact cb)) a7 (b8.fs [1] rfl))
    replace b5:=rj b5
    exact Op.pg 6 [(33,vF)]<|At.dP 33 1 (At.ke (bm _ G (vs++[(u,ad)]) (ar++aw) c1 a0 _ (by have hz:=congrArg List.length D;simp only[b_,bL] at hz ⊢;omega) (by(rw[Ck ‹_›];assumption)) (by(rw[Ck ‹_›];exact ab)) (by exact rK J D) (by(rw[Ck ‹_›];exact am)) a7 a9))
   exact Op.pg 6 [(33,vF)]<|At.dP 33 1 (At.ke (bm _ G (vs++[(u,ad)]) (ar++aw) c1 a0 _ (by have hz:=congrArg List.length D;simp only[b_,bL] at hz ⊢;omega) (by(rw[Cj ‹_›];assumption)) (by(rw[Cj ‹_›];exact ab)) (by exact rK J D) (by(rw[Cj ‹_›];exact am)) a7 a9))
 exact At.ke (c9 _ _ (aG.refl _) [] bt c c5 _ (bK _) (by exact ci) (by exact uW go) (by exact gj _) (by exact ck) c6 c8)
theorem OB (g0:GH) (Z:Nat) (a1:Value) (s:List aj) (u:g0 Z=some (.cells #[a1] 57 (0,0))) (G:ay g0 9 ew a1 s) (hlen:s.length≤1000000000):jD prog g0 126 #[vP Z] Ch (fun bd=>bd=s.reverse):=by
 intro B h g l I go c a3 hg ab ad be bi hs
 obtain⟨a4,ae,rfl⟩:=G.ai
 replace u:=a3 _ _ u
 replace G:=G.mono a3
 refine aA.aq func126 fun R hR=>At.rg 4<|Op.l1 57 1 4 0 (vL a4 s.length ae) (hs.sub _ _ u)<|Op.px 1 [(5,vI (s.length:Int))]<|Op.vq 6 ((s.length:Int)-1) ?_
 refine Op.pg 1 [(3,vI ((s.length:Int)-1))] ?_
 have bj:∀(m:Nat) (V:GH) (J:aG g V) (i:Int) (c1:au) (am:av) (hm:(i+1).toNat<m) (h0: -1≤i) (h1:i<s.length) (X:go (s.drop (i+1).toNat).reverse=true) (Y:qE go (s.drop (i+1).toNat).reverse) (ar:I ((s.drop (i+1).toNat).reverse) V c1) (O:St h g (aM [c]) V [c1] am),At (bS prog B 126 f126 R) [] 1 [(0,.func (.yield l) #[] #[]),(1,vP Z),(3,vI i)] am:=by
  intro m;induction m with
  |zero=>intros;omega
  |succ m bk=>
   intro V J i c1 am hm h0 h1 X Y ar O
   replace ab:=ab.mono J
   replace ad:=ad.mono J
   replace G:=G.mono J
   replace u:=J _ _ u
   refine At.go 2 2 [(8,.bool (decide (i≥0)))]<|At.fd (i≥0) 8 3 7 (fun bs=>?_) fun bt=>?_
   ·refine At.rp 8 2 [(11,.func (.yield l) #[] #[]),(12,vI i)]<|Op.l1 57 1 13 0 (vL a4 s.length ae) (O.sub _ _ u)<|Op.px 1 [(14,vI i)] ?_
    obtain⟨D,U⟩:=cD s i
    obtain⟨bm,a5,b3,b4,bo,aw,a0⟩:=ay.br G _ U
    cases bo
    refine Op.iq 57 9 1 16 s.length ae 13 14 15 bm a5 i ?_
    replace a0:cut _ _ _=[vS D]:=a0
    refine Op.l1 9 15 16 (a5+i.toNat*1) (vS D) (O.sub _ _ aw) ?_ (hv:=cT a0 0 rfl)
    refine Op.yield (dst:=some 17) (x:=11) (ops:=#[12,16]) (ts:=#[3,9]) (l:=l) (args:=#[vI i,vS D]) (Lc:=[c1]) (L:=[]) (by kernel_rfl) (by kernel_rfl) (by kernel_rfl) O (ad _ _ ((s.drop (i+1).toNat).reverse) D _ _ (by repeat (first|assumption|exact aG.refl _|apply aG.trans)) ab (by exact X) (by exact⟨_,rfl⟩) ⟨s.reverse,by rfl,by(rw[←xm (by omega) U];exact GP _ _)⟩ ar (St.part (Lc:=[c1]) (L:=[]) O)) (fun _ _ _=>trivial) ?_
    rintro _ b5 _ b6 a6 a7 ⟨a8,rfl,rfl,a9⟩
    replace aw:=a6 _ _ aw
    replace u:=a6 _ _ u
    refine Op.pg 4 [(18,.bool (!(go ((s.drop (i+1).toNat).reverse++[D]))))]<|At.c_ (!(go ((s.drop (i+1).toNat).reverse++[D]))) 18 5 6 (fun bb=>?_) fun bc=>?_
    ·replace bb:=(dm bb)
     exact At.rt (.tuple #[])<|hR a7 ⟨s.reverse,(s.drop (i+1).toNat).reverse++[D],a8,rfl,by rfl,by(rw[←xm (by omega) U];exact GP _ _),by exact fun h=>absurd h (jc.1 ‹_›),by exact nO Y X,rfl,a9⟩
    replace bc:=(dn bc)
    exact At.rp 3 1 [(9,vI i)]<|Op.vq 10 (i-1)<|Op.pg 1 [(3,vI (i-1))] (At.ke (bk _ (aG.trans J (by repeat (first|assumption|apply aG.trans))) (i-1) a8 _ (by omega) (by omega) (by omega) (by rw[xm (by omega) U];assumption) (by rw[xm (by omega) U];exact nO Y X) (by rw[xm (by omega) U];exact a9) a7))
   exact At.rt (.tuple #[])<|hR O ⟨((s.drop (i+1).toNat).reverse),(s.drop (i+1).toNat).reverse,c1,rfl,by exact Og (by omega) (by omega),by exact rB _,by exact fun _=>rfl,by exact Y,rfl,ar⟩
 exact At.ke (bj _ _ (aG.refl _) ((s.length:Int)-1) c _ (bK _) (by omega) (by omega) (by rw[Cl];exact be) (by rw[Cl];exact uW go) (by rw[Cl];exact bi) hs)
theorem OC (B:World) (h:av) (g:GH) (hg:bf g h) (ab:bh g) (u:Nat) (x:List af) (G:jT g u x):
  aA prog B 117 #[.map (some u)] h g [] (fun V g' L'=>∃f0 I,V=.func (.func f0) #[] I∧ei prog f0∧jD prog g' f0 I qD (fun X=>X.Perm (x.map (·.aa)))∧L'=[]):=by
 refine aA.aq func117 fun R hR=>At.rg 2<|Op.bx 1 116 0 #[.map (some u)] (St.init hg) fun D ad Y=>Op.pg 1 []<|At.go 2 2 [(2,.func (.func 140) #[] #[vP D])] ?_
 obtain⟨J,O⟩:=St.freeze (Y)
 have U:=iQ (g:=g) D (.cells #[.map (some u)] 116 (0,0))
 generalize Z:cQ g _=ae at J O U;clear Z
 replace G:=G.mono O
 exact At.rt (.func (.func 140) #[] #[vP D]) (hR J ⟨140,#[vP D],rfl,ei.of (by kernel_rfl),Oz _ D u x U G,rfl⟩)
theorem GV (B:World) (h:av) (g:GH) (hg:bf g h) (a1:bh g) (u:Nat) (t:List af) (D:jv g u t) (p:aj):
  aA prog B 97 #[vP u,vS p] h g [] (fun ad g' L'=>∃f0 U,ad=.func (.func f0) #[] U∧ei prog f0∧jD prog g' f0 U qD (fun ae=>ae.Perm (gA t p))∧L'=[]):=by
 refine aA.aq func97 fun R hR=>At.rg 3<|Op.bx 2 70 0 #[vP u] (St.init hg) fun G a3 am=>Op.bx 3 9 1 #[vS p] am fun I a4 ar=>Op.pg 1 [] ?_
 refine At.go 2 2 [(4,.func (.func 130) #[] #[vP G,vP I])] ?_
 obtain⟨V,X⟩:=St.freeze (ar.fs [1] rfl)
 have J:=iQ (g:=g) G (.cells #[vP u] 70 (0,0))
 generalize aw:cQ g _=Y at V X J;clear aw
 replace D:=D.mono X
 obtain⟨Z,O⟩:=St.freeze (V)
 have ab:=iQ (g:=Y) I (.cells #[vS p] 9 (0,0))
 generalize a0:cQ Y _=a5 at Z O ab;clear a0
 replace D:=D.mono O
 replace J:=O _ _ J
 exact At.rt (.func (.func 130) #[] #[vP G,vP I]) (hR Z ⟨130,#[vP G,vP I],rfl,ei.of (by kernel_rfl),OA _ G u t J D I p ab,rfl⟩)
theorem OD (B:World) (h:av) (g:GH) (hg:bf g h) (ae:bh g) (G:Value) (s:List aj) (D:ay g 9 ew G s) (hlen:s.length≤1000000000):
  aA prog B 94 #[G] h g [] (fun Y g' L'=>∃f0 I,Y=.func (.func f0) #[] I∧ei prog f0∧jD prog g' f0 I Ch (fun Z=>Z=s.reverse)∧L'=[]):=by
 obtain⟨J,O,rfl⟩:=D.ai
 refine aA.aq func94 fun R hR=>At.rg 2<|Op.bx 1 57 0 #[vL J s.length O] (St.init hg) fun u am ab=>Op.pg 1 []<|At.go 2 2 [(2,.func (.func 126) #[] #[vP u])] ?_
 obtain⟨U,V⟩:=St.freeze (ab)
 have X:=iQ (g:=g) u (.cells #[vL J s.length O] 57 (0,0))
 generalize ad:cQ g _=ar at U V X;clear ad
 replace D:=D.mono V
 exact At.rt (.func (.func 126) #[] #[vP u]) (hR U ⟨126,#[vP u],rfl,ei.of (by kernel_rfl),OB _ u _ s X D ‹_›,rfl⟩)
theorem OE (B:World) (h:av) (g:GH) (hg:bf g h) (b6:bh g) (V:Nat) (X:Array Value) (q:List aQ) (b8:ei prog V) (ca:jD prog g V X qD (fun am=>am.Perm q)) (hq:q.length≤1000000000):
  aA prog B 166 #[vN,.func (.func V) #[] X] h g [] (fun cb g' L'=>∃a9 v0 bb,cb=v0∧a9.Perm q∧aF 9 ew g' v0 a9 bb∧g'=g∧L'=[bb]):=by
 refine aA.aq func166 fun R hR=>At.rg 2<|Op.bx 2 57 0 #[vN] (St.init hg) fun D dv ce=>Op.pg 1 [(4,vN)]<|At.go 2 1 [(6,.func (.func V) #[] X)] ?_
 refine At.kp [(2,vP D),(4,vN),(6,.func (.func V) #[] X)] ?_
 have cf:=aF.zero 9 ew g none
 refine At.rangeFunc (x:=6) (f:=V) (cp:=X) (by kernel_rfl) rfl (by kernel_rfl) (by kernel_rfl) b8 ce.nl fun u G J bc ch ci=>?_
 have ck:St h g (aM []) g [[(G,.loop (cW (dN 166 J (pt (cJ f166) 2) u) none))],[(D,Obj.cells #[vL none (([]:List aj).length) 0] 57 (0,0))],[],[(u,.deferred (some []))]] bc:=(ci.fs [1,2,3,3] rfl)
 have a3:St h g (aM []) g [(([(G,.loop (cW (dN 166 J (pt (cJ f166) 2) u) none))]:au)++([(D,Obj.cells #[vL none (([]:List aj).length) 0] 57 (0,0))]:au)++([]:au):au),[(u,.deferred (some []))]] bc:=St.aX (L:=[[(G,.loop (cW (dN 166 J (pt (cJ f166) 2) u) none))],[(D,Obj.cells #[vL none (([]:List aj).length) 0] 57 (0,0))],[],[(u,.deferred (some []))]]) (by simp only[cg,List.flatten_nil,cI,dM,dY,dh]) ck
 obtain⟨bd,ar⟩:∃I:List aQ→GH→au→Prop,I=(fun xs g2 c2=>∃(out:List aQ) (be:Option Addr) (bi:Nat) (bj:au),c2=(([(G,.loop (cW (dN 166 J (pt (cJ f166) 2) u) none))]:au)++([(D,Obj.cells #[.slice be out.length bi] 57 (0,0))]:au)++(bj:au):au)∧aF 9 ew g2 (.slice be out.length bi) out bj∧out=xs):=⟨_,rfl⟩
 have co:ru prog B G qD (fun am=>am.Perm q) (fun _=>true) bd g:=by
  intro a4 aw dC O dE dT d0 d1 d2 c3 c4 bk c5
  rw[ar] at bk
  obtain⟨U,a0,a1,a5,rfl,c6,bm⟩:=bk
  obtain rfl:=c3
  have hlen:U.length+1≤q.length:=by(obtain⟨am,h1,h2⟩:=c4;have h3:=h2.length_le;have h4:=h1.length_eq;rw[bm];simp only[b_,bL,cS] at h3;omega)
  have bo:St a4 aw (aM [(([(G,.loop (cW (dN 166 J (pt (cJ f166) 2) u) none))]:au)++([(D,Obj.cells #[vL a0 U.length a1] 57 (0,0))]:au)++(a5:au):au)]) aw [[(G,.loop (cW (dN 166 J (pt (cJ f166) 2) u) none))],[(D,Obj.cells #[vL a0 U.length a1] 57 (0,0))],a5] a4:=St.aX (by simp only[cg,List.flatten_nil,cI,dM,dY,dh]) c5
  refine rq.ri (n:=f166.ntmps) (e0:=[(2,vP D),(4,vN),(6,.func (.func V) #[] X)]) (e:=[(7,vS O),(2,vP D),(4,vN),(6,.func (.func V) #[] X)]) (bo.ag 0 rfl) ch (by kernel_rfl) (by kernel_rfl) (by kernel_rfl) (by kernel_rfl) fun d3 c8=>At.go 1 1 [(5,vS O)]<|At.beginRound rfl (by kernel_rfl) bo 0 rfl 2 (by kernel_rfl) fun d4 bs=>At.rg 5<|Op.l1 57 2 8 0 (vL a0 U.length a1) (bs.ag 1 rfl) ?_
  refine Op.px 1 [(9,vS O)]<|Op.ls 10 1 9 #[vS O] bs fun d5 d6 bt=>Op.ap 8 10 57 57 11 9 16 ew (ys:=[O]) c6 bt 3 (⟨_,_,rfl,rfl,Reads.nil⟩) (by(simp only[bL,cS];omega)) (fun _ _ _=>trivial) (di.lit (m:=1) (sz:=1) (bt.ag 0 rfl) (news:=[vS O]) rfl rfl (by simp[Value.oneCell']) _) fun d7 a6 d8 b3 c9 d9=>?_
  obtain⟨ad,ae,rfl⟩:=b3.ai
  refine Op.s1 57 2 11 0 (vL ad ((U++([O])).length) ae) 1 #[vL ad ((U++([O])).length) ae] ((c9).drop) zt fun ea da=>Op.gt 3<|At.wK (j:=none) (by kernel_rfl) da 0 rfl fun db dc=>?_
  have dd:St a4 aw (aM [(([(G,.loop (cW (dN 166 J (pt (cJ f166) 2) u) none))]:au)++([(D,Obj.cells #[vL a0 U.length a1] 57 (0,0))]:au)++(a5:au):au)]) aw [(([(G,.loop (cW (dN 166 J (pt (cJ f166) 2) u) none))]:au)++([(D,Obj.cells #[vL ad ((U++([O])).length) ae] 57 (0,0))]:au)++(a6:au):au)] db:=St.aX (L:=[[(G,.loop (cW (dN 166 J (pt (cJ f166) 2) u) none))],[(D,Obj.cells #[vL ad ((U++([O])).length) ae] 57 (0,0))],a6]) (by simp only[cg,List.flatten_nil,cI,dM,dY,dh]) dc
  refine c8 _ _ _ _ dd ⟨_,by rfl,rfl,?_⟩
  rw[ar];exact⟨(U++([O])),ad,ae,a6,rfl,b3,(by rw[bm])⟩
 refine sY.call (Lc:=[(([(G,.loop (cW (dN 166 J (pt (cJ f166) 2) u) none))]:au)++([(D,Obj.cells #[vL none (([]:List aj).length) 0] 57 (0,0))]:au)++([]:au):au)]) (L:=[[(u,.deferred (some []))]]) a3 (ca B _ _ _ bd (fun _=>true) _ (aG.refl _) a3.sub b6 co rfl (by rw[ar];exact⟨([]:List aj),none,0,[],rfl,cf,(by rfl)⟩) (St.part (Lc:=[(([(G,.loop (cW (dN 166 J (pt (cJ f166) 2) u) none))]:au)++([(D,Obj.cells #[vL none (([]:List aj).length) 0] 57 (0,0))]:au)++([]:au):au)]) (L:=[[(u,.deferred (some []))]]) a3)) ?_
 rintro _ df _ dg eb dj ⟨ed,ee,ef,rfl,eh,ej,dk,em,rfl,b4⟩
 have hx:=dk rfl;subst hx
 rw[ar] at b4
 obtain⟨Y,Z,ab,a7,rfl,a8,dl⟩:=b4
 have dp:St h g (aM []) df [[(G,.loop (cW (dN 166 J (pt (cJ f166) 2) u) none))],[(D,Obj.cells #[vL Z Y.length ab] 57 (0,0))],a7,[(u,.deferred (some []))]] dg:=St.aX (by simp only[cg,List.flatten_nil,cI,dM,dY,dh]) dj
 refine iG.wL (j:=none) dp 0 rfl fun en dq=>?_
 have b5:=dq.drop
 refine iG.br 3 (by kernel_rfl)<|At.rg 2<|Op.l1 57 2 12 0 (vL Z Y.length ab) (b5.ag 0 rfl)<|Op.pg 4 [(4,vL Z Y.length ab)]<|At.yQ (iG.BA (L:=[[(D,Obj.cells #[vL Z Y.length ab] 57 (0,0))],a7]) (f:=f166) (v:=vL Z Y.length ab) [u] (by kernel_rfl) (by kernel_rfl) (b5.fs [1,1,2] rfl) ?_)
 intro eo du
 replace a8:=a8.aX (fun _ _ _ _ h=>h) (g':=g)
 exact hR du.drop.ji ⟨Y,(vL Z Y.length ab),a7,rfl,(by rw[dl];assumption),a8,rfl,rfl⟩
theorem OF (B:World) (h:av) (g:GH) (hg:bf g h) (Y:bh g) (u:Nat) (D:Array Value) (q:List aQ) (Z:ei prog u) (ab:jD prog g u D qD (fun ad=>ad.Perm q)) (hq:q.length≤1000000000):
  aA prog B 138 #[.func (.func u) #[] D] h g [] (fun ae g' L'=>∃I v0 J,ae=v0∧I.Perm q∧aF 9 ew g' v0 I J∧g'=g∧L'=[J]):=by
 refine aA.aq func138 fun R hR=>?_
 have O:=St.init hg
 refine At.go 1 1 []<|At.rp 3 1 [(3,.func (.func u) #[] D)]<|Op.c0 (some 4) (OE _ _ _ O.sub Y u D q Z ab (by(try dsimp only)<;>assumption)) O ?_
 rintro _ am _ a1 ar aw ⟨G,a3,a0,rfl,a4,U,a5,rfl⟩;subst am;clear ar
 obtain⟨V,X,rfl⟩:=U.ai
 exact Op.pr 2 2 (vL V G.length X) (hR aw ⟨G,(vL V G.length X),a0,rfl,‹_›,U,rfl,rfl⟩)
theorem GW (B:World) (h:av) (g:GH) (hg:bf g h) (ab:bh g) (D:Nat) (J:Array Value) (q:List aQ) (ad:ei prog D) (ae:jD prog g D J qD (fun am=>am.Perm q)) (hq:q.length≤1000000000):
  aA prog B 116 #[.func (.func D) #[] J] h g [] (fun ar g' L'=>∃v0 U,ar=v0∧aF 9 ew g' v0 (iT q) U∧g'=g∧L'=[U]):=by
 refine aA.aq func116 fun R hR=>?_
 have V:=St.init hg
 refine At.go 1 1 []<|At.rp 3 1 [(4,.func (.func D) #[] J)]<|Op.c0 (some 5) (OF _ _ _ V.sub ab D J q ad ae (by(try dsimp only)<;>assumption)) V ?_
 rintro _ aw _ a7 a0 O ⟨u,a8,X,rfl,Y,Z,a9,rfl⟩;subst aw;clear a0
 obtain⟨G,I,rfl⟩:=Z.ai
 refine Op.pg 2 [(3,vL G u.length I)]<|At.rp 2 1 [(6,vL G u.length I)]<|Op.call (dst:=some 7) (f:=139) (args:=#[vL G u.length I]) (Lc:=[X]) (L:=[]) (by kernel_rfl) O (Oc _ _ _ O.sub _ u _ Z (by(have:=yX Y;omega)) (St.part (Lc:=[X]) (L:=[]) O)) (fun _ _ _=>trivial) ?_
 rintro _ a1 _ bb a3 a4 ⟨rfl,bc,a5,a6,rfl⟩;subst a1;clear a3
 exact Op.gt 3<|At.gr 4 2 2 (vL G u.length I) (hR a4 ⟨(vL G u.length I),a5,rfl,dZ a6 (by exact GL Y),rfl,rfl⟩)
theorem GX (B:World) (h:av) (g:GH) (hg:bf g h) (D:bh g) (G:Nat) (t:List af) (u:jv g G t) (hn:t.length≤1000000000):
  aA prog B 78 #[vP G] h g [] (fun ae g' L'=>∃v0 Z,ae=v0∧aF 9 ew g' v0 (t.map (·.aa)) Z∧g'=g∧L'=[Z]):=by
 refine aA.aq func78 fun R hR=>?_
 have O:=St.init hg
 refine At.go 1 1 []<|At.rp 7 3 [(5,vP G)] ?_
 obtain⟨U,I,ab⟩:=u
 have u:jv g G t:=⟨U,I,ab⟩
 refine Op.l1 116 5 6 0 (.map (some U)) (O.sub _ _ I)<|Op.c0 (some 7) (OC _ _ _ O.sub D U t ab) O ?_
 rintro _ a5 _ a6 V ad ⟨f25,am,rfl,ar,aw,rfl⟩
 replace D:=D.mono V
 replace u:=u.mono V
 replace I:=V _ _ I
 refine Op.c0 (some 8) (GW _ _ _ ad.sub D f25 am (t.map (·.aa)) ar aw (by((try dsimp only)<;>((simp only[eu];assumption))))) ad ?_
 rintro _ a0 _ a7 a1 a3 ⟨a8,a4,rfl,J,a9,rfl⟩;subst a0;clear a1
 obtain⟨X,Y,rfl⟩:=J.ai
 refine Op.pg 2 [(2,vL X ((iT (t.map (·.aa))).length) Y)]<|At.rt (vL X ((iT (t.map (·.aa))).length) Y) ?_
 replace J:=J.aX (fun _ _ _ _ h=>h) (g':=g)
 exact hR a3.ji ⟨(vL X ((iT (t.map (·.aa))).length) Y),a4,rfl,dZ J (by exact GM (GQ u.sort)),rfl,rfl⟩
theorem Cm (B:World) (h:av) (g:GH) (hg:bf g h) (ar:bh g) (D:Nat) (t:List af) (U:jv g D t) (p:aj) (hp:p.length≤1000000000):
  aA prog B 129 #[vP D,vS p] h g [] (fun V g' L'=>g'=g∧L'=[]∧((V=.tuple #[.pointer none,.int .i64 (dX t p)]∧(dX t p)≠0)∨∃b l v mb,V=.tuple #[vP b,.int .i64 0]∧(dX t p)=0∧bN t p=some l∧g D=some (.cells #[.map (some mb)] TT (0,0))∧g b=some (.cells (pN l v) TL (0,0))∧ay g 5 bn v l.Data∧xk g mb l b)):=by
 refine aA.aq func129 fun R hR=>?_
 have X:=St.init hg
 refine At.go 1 2 []<|At.rp 3 1 [(9,vS p)]<|Op.c1 10 (zp _ _ _ X.sub ar p (by(try dsimp only)<;>omega)) X fun a6 u=>Op.pg 2 [(6,vI (cP p))]<|At.go 3 2 [(12,.bool ((cP p) != 0))] ?_
 refine At.fn ((cP p)=0) 12 4 6 (fun a7=>?_) fun a8=>?_
 ·refine At.go 5 3 [(4,.pointer none),(5,vI (cP p))]<|At.rt (.tuple #[.pointer none,vI (cP p)]) ?_
  have Y:(dX t p)=(cP p):=by first|exact B3 ‹_›|exact B4 ‹_› ‹_›|exact B5 ‹_› ‹_›
  exact hR u ⟨rfl,rfl,.inl ⟨by rw[Y],by rw[Y];first|assumption|decide|omega⟩⟩
 refine At.rp 11 3 [(17,vP D)] ?_
 obtain⟨G,J,Z⟩:=U
 have U:jv g D t:=⟨G,J,Z⟩
 refine Op.l1 116 17 18 0 (.map (some G)) (u.sub _ _ J)<|Op.px 1 [(19,vS p)] ?_
 obtain⟨a9,bb,bc,ab,ad,bd,be,bi,aw⟩:=jT.kK Z
 rcases aw p with ⟨a0,O⟩|⟨I,a1,bj,a0,O,a3,ae,a4⟩
 ·refine Op.rE (ok:=true) (d:=.string) (mt:=116) (x:=18) (ix:=19) (dst:=20) (k:=p) (m:=G) (z:=.pointer none) (by kernel_rfl) (by kernel_rfl) kI (by kernel_rfl) (by kernel_rfl) (u.sub _ _ ab) ad O<|Op.pg 7 [(7,.pointer none),(8,vF)]<|At.go 8 2 [(24,vT)]<|At.bX 24 9<|At.go 10 2 [(4,.pointer none),(5,vI 100)] ?_
  refine At.rt (.tuple #[.pointer none,vI 100]) ?_
  have am:(dX t p)=100:=by first|exact B3 ‹_›|exact B4 ‹_› ‹_›|exact B5 ‹_› ‹_›
  exact hR u ⟨rfl,rfl,.inl ⟨by rw[am],by rw[am];first|assumption|decide|omega⟩⟩
 obtain⟨bk,bm,rfl⟩:=ae.ai
 refine Op.pK (ok:=true) (d:=.string) (mt:=116) (x:=18) (ix:=19) (dst:=20) (k:=p) (m:=G) (v:=vP I) (z:=.pointer none) (by kernel_rfl) (by kernel_rfl) kI (by kernel_rfl) (by kernel_rfl) (u.sub _ _ ab) ad O<|Op.pg 7 [(7,vP I),(8,vT)]<|At.go 8 2 [(24,vF)]<|At.dP 24 11<|At.go 12 3 [(4,vP I),(5,vI 0)] ?_
 refine At.rt (.tuple #[vP I,vI 0]) ?_
 have a5:(dX t p)=0:=by first|exact B3 ‹_›|exact B4 ‹_› ‹_›|exact B5 ‹_› ‹_›
 exact hR u ⟨rfl,rfl,.inr ⟨I,a1,_,G,rfl,a5,by assumption,J,a3,ae,a4⟩⟩
theorem GY (B:World) (h:av) (g:GH) (hg:bf g h) (ar:bh g) (D:Nat) (t:List af) (aw:jv g D t) (p:aj) (bA:Int) (hp:p.length≤1000000000):
  aA prog B 96 #[vP D,vS p,vI bA] h g [] (fun U g' L'=>g'=g∧L'=[]∧((U=.tuple #[.pointer none,.int .i64 (fq t p bA)]∧(fq t p bA)≠0)∨∃b l v mb,U=.tuple #[vP b,.int .i64 0]∧(fq t p bA)=0∧bN t p=some l∧g D=some (.cells #[.map (some mb)] TT (0,0))∧g b=some (.cells (pN l v) TL (0,0))∧ay g 5 bn v l.Data∧xk g mb l b)):=by
 refine aA.aq func96 fun R hR=>?_
 have V:=St.init hg
 refine At.go 1 2 []<|At.rp 8 2 [(11,vP D),(12,vS p)]<|Op.c0 (some 13) (Cm _ _ _ V.sub ar D t aw p (by(try dsimp only)<;>omega)) V ?_
 rintro a7 a0 _ a8 a1 G ⟨a9,rfl,a3⟩;subst a0;clear a1
 rcases a3 with ⟨rfl,X⟩|⟨u,I,bb,Y,rfl,bc,bd,Z,J,O,ab⟩
 ·have be:((dX t p) != 0)=true:=uG.2 X
  have a4:((dX t p)==0)=false:=qB.2 X
  refine Op.pg 2 [(8,.pointer none),(9,vI (dX t p))]<|At.rp 14 3 [(18,.bool ((dX t p)==0))]<|Op.wb ((dX t p)==0) 18 (fun hb=>?_) fun ad=>?_
  ·exact Bool.noConfusion (hb.symm.trans a4)
  replace ad:=rj ad
  refine Op.pg 3 [(29,vF)]<|At.dP 29 6<|At.go 7 4 [(6,.pointer none),(7,vI (dX t p))]<|At.rt (.tuple #[.pointer none,vI (dX t p)]) ?_
  have ae:(fq t p bA)=(dX t p):=by first|exact zg ‹_›|exact zh ‹_› ‹_› ‹_› ‹_›|exact zi ‹_› ‹_› ‹_›|exact zj ‹_› ‹_› ‹_›
  exact hR G ⟨rfl,rfl,.inl ⟨by rw[ae],by rw[ae];first|assumption|decide|omega⟩⟩
 obtain⟨bi,bj,rfl⟩:=O.ai
 refine Op.pg 2 [(8,vP u),(9,vI 0)]<|At.rp 14 7 [(22,.bool (decide (bA≥0)))]<|Op.wd (bA≥0) 22 (fun bk=>?_) fun bm=>?_
 ·refine Op.px 3 [(25,vQ u 2)]<|Op.l1 3 25 26 2 (vI I.ak) (G.sub _ _ J)<|Op.pg 3 [(29,.bool (I.ak != bA))]<|At.fn (I.ak=bA) 29 4 6 (fun bo=>?_) fun bs=>?_
  ·refine At.go 5 2 [(6,.pointer none),(7,vI 102)]<|At.rt (.tuple #[.pointer none,vI 102]) ?_
   have am:(fq t p bA)=102:=by first|exact zg ‹_›|exact zh ‹_› ‹_› ‹_› ‹_›|exact zi ‹_› ‹_› ‹_›|exact zj ‹_› ‹_› ‹_›
   exact hR G ⟨rfl,rfl,.inl ⟨by rw[am],by rw[am];first|assumption|decide|omega⟩⟩
  refine At.go 7 4 [(6,vP u),(7,vI 0)]<|At.rt (.tuple #[vP u,vI 0]) ?_
  have a5:(fq t p bA)=0:=by first|exact zg ‹_›|exact zh ‹_› ‹_› ‹_› ‹_›|exact zi ‹_› ‹_› ‹_›|exact zj ‹_› ‹_› ‹_›
  exact hR G ⟨rfl,rfl,.inr ⟨u,I,_,Y,rfl,a5,by assumption,Z,J,O,ab⟩⟩
 refine Op.pg 3 [(29,vF)]<|At.dP 29 6<|At.go 7 4 [(6,vP u),(7,vI 0)]<|At.rt (.tuple #[vP u,vI 0]) ?_
 have a6:(fq t p bA)=0:=by first|exact zg ‹_›|exact zh ‹_› ‹_› ‹_› ‹_›|exact zi ‹_› ‹_› ‹_›|exact zj ‹_› ‹_› ‹_›
 exact hR G ⟨rfl,rfl,.inr ⟨u,I,_,Y,rfl,a6,by assumption,Z,J,O,ab⟩⟩
theorem OG (B:World) (h:av) (g:GH) (hg:bf g h) (a4:bh g) (G:Nat) (t:List af) (V:jv g G t) (p:aj) (X:Value) (data:aj) (a5:ay g 5 bn X data) (hp:p.length≤1000000000):
  aA prog B 132 #[vP G,vS p,X] h g [] (fun Y g' L'=>g'=g∧L'=[]∧((Y=.tuple #[.pointer none,.int .i64 (ga t p data)]∧(ga t p data)≠0)∨∃b l v mb,Y=.tuple #[vP b,.int .i64 0]∧(ga t p data)=0∧bN t (parentOf p)=some l∧g G=some (.cells #[.map (some mb)] TT (0,0))∧g b=some (.cells (pN l v) TL (0,0))∧ay g 5 bn v l.Data∧xk g mb l b)):=by
 obtain⟨bb,bc,rfl⟩:=a5.ai
 refine aA.aq func132 fun R hR=>?_
 have Z:=St.init hg
 refine At.go 1 2 []<|At.rp 7 1 [(13,vS p)]<|Op.c1 14 (xo _ _ _ Z.sub a4 p (by(try dsimp only)<;>omega)) Z fun bd u=>Op.pg 2 [(8,vS (parentOf p)),(9,vI (b9 p))]<|At.go 3 3 [(17,.bool ((b9 p) != 0))] ?_
 refine At.fn ((b9 p)=0) 17 4 6 (fun be=>?_) fun bi=>?_
 ·refine At.go 5 3 [(6,.pointer none),(7,vI (b9 p))]<|At.rt (.tuple #[.pointer none,vI (b9 p)]) ?_
  have ab:(ga t p data)=(b9 p):=by first|exact xb ‹_›|exact xd ‹_› ‹_›|exact xe ‹_› ‹_› ‹_›|exact xg ‹_› ‹_› ‹_› ‹_›|exact xh ‹_› ‹_› ‹_› ‹_›
  exact hR u ⟨rfl,rfl,.inl ⟨by rw[ab],by rw[ab];first|assumption|decide|omega⟩⟩
 refine At.go 7 4 [(21,.bool (decide ((data.length:Int)>128)))]<|At.fd ((data.length:Int)>128) 21 8 10 (fun bj=>?_) fun bk=>?_
 ·refine At.go 5 2 [(6,.pointer none),(7,vI 104)]<|At.rt (.tuple #[.pointer none,vI 104]) ?_
  have ad:(ga t p data)=104:=by first|exact xb ‹_›|exact xd ‹_› ‹_›|exact xe ‹_› ‹_› ‹_›|exact xg ‹_› ‹_› ‹_› ‹_›|exact xh ‹_› ‹_› ‹_› ‹_›
  exact hR u ⟨rfl,rfl,.inl ⟨by rw[ad],by rw[ad];first|assumption|decide|omega⟩⟩
 refine At.rp 11 3 [(28,vP G)] ?_
 obtain⟨I,O,ae⟩:=V
 have V:jv g G t:=⟨I,O,ae⟩
 refine Op.l1 116 28 29 0 (.map (some I)) (u.sub _ _ O)<|Op.px 1 [(30,vS (parentOf p))] ?_
 obtain⟨bm,bo,bs,am,ar,bt,b3,b4,a6⟩:=jT.kK ae
 rcases a6 (parentOf p) with ⟨a7,U⟩|⟨D,J,b5,a7,U,aw,a0,a8⟩
 ·refine Op.rE (ok:=true) (d:=.string) (mt:=116) (x:=29) (ix:=30) (dst:=31) (k:=(parentOf p)) (m:=I) (z:=.pointer none) (by kernel_rfl) (by kernel_rfl) kI (by kernel_rfl) (by kernel_rfl) (u.sub _ _ am) ar U<|Op.pg 11 [(10,.pointer none),(11,vF)]<|At.go 12 3 [(34,vT)]<|At.bX 34 13<|At.go 14 2 [(6,.pointer none),(7,vI 100)] ?_
  refine At.rt (.tuple #[.pointer none,vI 100]) ?_
  have a1:(ga t p data)=100:=by first|exact xb ‹_›|exact xd ‹_› ‹_›|exact xe ‹_› ‹_› ‹_›|exact xg ‹_› ‹_› ‹_› ‹_›|exact xh ‹_› ‹_› ‹_› ‹_›
  exact hR u ⟨rfl,rfl,.inl ⟨by rw[a1],by rw[a1];first|assumption|decide|omega⟩⟩
 obtain⟨a51,b6,rfl⟩:=a0.ai
 refine Op.pK (ok:=true) (d:=.string) (mt:=116) (x:=29) (ix:=30) (dst:=31) (k:=(parentOf p)) (m:=I) (v:=vP D) (z:=.pointer none) (by kernel_rfl) (by kernel_rfl) kI (by kernel_rfl) (by kernel_rfl) (u.sub _ _ am) ar U<|Op.pg 11 [(10,vP D),(11,vT)]<|At.go 12 3 [(34,vF)]<|At.dP 34 15<|At.rp 6 3 [(40,vQ D 3)] ?_
 refine Op.l1 3 40 41 3 (vI J.aE) (u.sub _ _ aw)<|Op.pg 16 [(37,.bool (J.aE != ((-1):Int)))]<|At.fn (J.aE=((-1):Int)) 37 17 19 (fun b8=>?_) fun ca=>?_
 ·refine At.go 14 2 [(6,.pointer none),(7,vI 105)]<|At.rt (.tuple #[.pointer none,vI 105]) ?_
  have a3:(ga t p data)=105:=by first|exact xb ‹_›|exact xd ‹_› ‹_›|exact xe ‹_› ‹_› ‹_›|exact xg ‹_› ‹_› ‹_› ‹_›|exact xh ‹_› ‹_› ‹_› ‹_›
  exact hR u ⟨rfl,rfl,.inl ⟨by rw[a3],by rw[a3];first|assumption|decide|omega⟩⟩
 refine At.go 20 3 [(6,vP D),(7,vI 0)]<|At.rt (.tuple #[vP D,vI 0]) ?_
 have a9:(ga t p data)=0:=by first|exact xb ‹_›|exact xd ‹_› ‹_›|exact xe ‹_› ‹_› ‹_›|exact xg ‹_› ‹_› ‹_› ‹_›|exact xh ‹_› ‹_› ‹_› ‹_›
 exact hR u ⟨rfl,rfl,.inr ⟨D,J,_,I,rfl,a9,by assumption,O,aw,a0,a8⟩⟩
theorem mc (B:World) (h:av) (g:GH) (hg:bf g h) (a1:bh g) (D:Value) (s:aj) (u:ay g 5 bn D s) (hl:s.length≤1000000000):
  aA prog B 28 #[D] h g [] (fun ab g' L'=>∃v0 G,ab=v0∧aF 5 bn g' v0 s G∧g'=g∧L'=[G]):=by
 obtain⟨I,J,rfl⟩:=u.ai
 refine aA.aq func28 fun R hR=>?_
 have O:=St.init hg
 refine At.go 1 1 []<|At.rp 2 1 [(3,vL I s.length J)] ?_
 rcases I with _|a20
 ·refine Op.vl 4 vT vT rfl<|Op.gt 2<|At.bX 4 3<|At.go 4 1 [(2,vN)] ?_
  have ad:=aF.zero 5 bn g none
  exact At.rt vN (hR O.nl ⟨vN,[],rfl,dZ ad (by exact(ay.Fg u).symm),rfl,rfl⟩)
 refine Op.vl 4 vF vF rfl<|Op.gt 2<|At.dP 4 5<|At.rg 4<|Op.ls 5 0 5 #[] O fun U a3 V=>?_
 refine Op.px 1 [(6,vL (some a20) s.length J)] ?_
 have ae:aF 5 bn g (vL (some ⟨U,0,none⟩) 0 0) ([]:aj) [(U,Obj.cells #[] 5 (0,0))]:=aF.lit (by kernel_rfl) (by unfold maxLen;decide) (by kernel_rfl) Reads.nil
 obtain⟨a4,am,ar⟩:=di.slice (P:=prog) (u.toH V.sub)
 refine Op.ap 5 6 28 28 7 5 1 bn (ys:=s) ae V 0 ar (by(simp only[cS];omega)) (fun _ _ _=>trivial) am fun a5 aw a6 X a0 a7=>?_
 obtain⟨Y,Z,rfl⟩:=X.ai
 exact Op.pr 6 2 (vL Y ((([]:aj)++s).length) Z) (hR a0 ⟨(vL Y ((([]:aj)++s).length) Z),aw,rfl,dZ X (by(simp;done)),rfl,rfl⟩)
theorem Cn (B:World) (h:av) (g:GH) (hg:bf g h) (am:bh g) (l:af) (U:Value) (V:ay g 5 bn U l.Data) (G:Nat) (X:g G=some (.cells #[vS l.aa,U,vI l.ak,vI l.aE,vI l.Next,vI l.aO] 56 (0,0))) (hl:l.Data.length≤1000000000):
  aA prog B 72 #[vP G] h g [] (fun ar g' L'=>∃v0 Y,ar=.agg #[.string (a_ l.aa),v0,.int .i64 l.ak,.int .i64 l.aE,.int .i64 l.Next,.int .i64 l.aO]∧aF 5 bn g' v0 l.Data Y∧g'=g∧L'=[Y]):=by
 obtain⟨I,J,rfl⟩:=V.ai
 refine aA.aq func72 fun R hR=>At.rg 1<|Op.al 2 56 #[vS [],vN,vI 0,vI 0,vI 0,vI 0] (St.init hg) fun a6 a7 Z=>Op.gt 1<|At.rp 5 2 [(5,vP G)] ?_
 refine Op.la 56 5 6 0 6 [vS l.aa,vL I l.Data.length J,vI l.ak,vI l.aE,vI l.Next,vI l.aO] (Z.sub _ _ X)<|Op.al 3 56 #[vS [],vN,vI 0,vI 0,vI 0,vI 0] Z fun aw a8 a0=>Op.sg 56 3 6 0 0 #[vS l.aa,vL I l.Data.length J,vI l.ak,vI l.aE,vI l.Next,vI l.aO] a0 zt fun a9 O=>Op.gt 2<|At.rp 7 3 [(9,vQ G 1)] ?_
 refine Op.l1 28 9 10 1 (vL I l.Data.length J) (O.sub _ _ X)<|Op.c0 (some 11) (mc _ _ _ O.sub am _ _ V (by(try dsimp only)<;>omega)) O ?_
 rintro _ a1 _ bb a3 a4 ⟨bc,a5,rfl,ab,bd,rfl⟩;subst a1;clear a3
 obtain⟨u,D,rfl⟩:=ab.ai
 refine Op.px 1 [(12,vQ aw 1)]<|Op.s1 28 12 11 1 (vL u (l.Data.length) D) 1 #[vS l.aa,vL u (l.Data.length) D,vI l.ak,vI l.aE,vI l.Next,vI l.aO] a4 zt fun be ad=>Op.gt 3<|At.rg 2<|Op.la 56 3 13 0 6 [vS l.aa,vL u (l.Data.length) D,vI l.ak,vI l.aE,vI l.Next,vI l.aO] (ad.ag 1 rfl) ?_
 exact Op.sg 56 2 13 0 2 #[vS l.aa,vL u (l.Data.length) D,vI l.ak,vI l.aE,vI l.Next,vI l.aO] ad zt fun bi ae=>Op.gt 4<|At.rn f72 [.agg #[vS l.aa,vL u (l.Data.length) D,vI l.ak,vI l.aE,vI l.Next,vI l.aO]] [.cell 2 56] ⟨⟨_,_,rfl,dB (n:=6) (by kernel_rfl) (ae.ag 2 rfl) (by kernel_rfl) rfl⟩,trivial⟩<|hR (ae.fs [2,2] rfl).drop.drop ⟨(vL u (l.Data.length) D),a5,(by rfl),dZ ab (by rfl),rfl,rfl⟩
theorem GZ (B:World) (h:av) (g:GH) (hg:bf g h) (U:bh g) (D:Nat) (t:List af) (ar:jv g D t) (p:aj) (hB:fM t) (hp:p.length≤1000000000):
  aA prog B 108 #[vP D,vS p] h g [] (fun aw g' L'=>∃v0 V,aw=.tuple #[.agg #[.string (a_ (((bR t p).1).aa)),v0,.int .i64 (((bR t p).1).ak),.int .i64 (((bR t p).1).aE),.int .i64 (((bR t p).1).Next),.int .i64 (((bR t p).1).aO)],.int .i64 ((bR t p).2)]∧aF 5 bn g' v0 (((bR t p).1).Data) V∧g'=g∧L'=[V]):=by
 refine aA.aq func108 fun R hR=>At.rg 2<|Op.al 4 56 #[vS [],vN,vI 0,vI 0,vI 0,vI 0] (St.init hg) fun be bi X=>Op.pg 1 []<|At.rp 8 2 [(9,vP D),(10,vS p)] ?_
 refine Op.c0 (some 11) (Cm _ _ _ X.sub U D t ar p (by(try dsimp only)<;>omega)) X ?_
 rintro bj a0 _ bk a1 G ⟨a3,rfl,a4⟩;subst a0;clear a1
 rcases a4 with ⟨rfl,Y⟩|⟨I,u,bm,bo,rfl,bs,bt,b3,a5,Z,b4⟩
 ·have a6:((dX t p) != 0)=true:=uG.2 Y
  have b5:((dX t p)==0)=false:=qB.2 Y
  refine Op.pg 2 [(6,.pointer none),(7,vI (dX t p))]<|At.go 3 2 [(15,.bool ((dX t p) != 0))]<|At.c_ ((dX t p) != 0) 15 4 6 (fun ab=>?_) fun hb=>?_
  ·replace ab:=jO ab
   refine At.rp 4 2 [(16,.agg #[vS [],vN,vI 0,vI 0,vI 0,vI 0]),(17,vI (dX t p))]<|Op.sg 56 4 16 0 0 #[vS [],vN,vI 0,vI 0,vI 0,vI 0] G zt fun b6 a7=>Op.pg 5 [(5,vI (dX t p))] ?_
   have a8:=aF.zero 5 bn g none
   have ad:=a7.nl
   exact At.rn f108 [.agg #[vS [],vN,vI 0,vI 0,vI 0,vI 0],vI (dX t p)] [.cell 4 56,.tmp 5] ⟨⟨_,_,rfl,dB (n:=6) (by kernel_rfl) (ad.ag 1 rfl) (by kernel_rfl) rfl⟩,rfl,trivial⟩<|hR (ad.fs [1] rfl).drop ⟨vN,[],bM (by(rw[B6 ‹_›];rfl)) (bp (by(rw[B6 ‹_›];done))),dZ a8 (by(rw[B6 ‹_›];rfl)),rfl,rfl⟩
  exact Bool.noConfusion (a6.symm.trans hb)
 obtain⟨b8,ca,rfl⟩:=Z.ai
 refine Op.pg 2 [(6,vP I),(7,vI 0)]<|At.go 3 2 [(15,vF)]<|At.dP 15 6<|At.rp 4 1 [(18,vP I)]<|Op.c0 (some 19) (Cn _ _ _ G.sub U u _ Z I a5 (by((try dsimp only)<;>((have:=fM.data hB ‹_›;omega))))) G ?_
 rintro _ a9 _ cb bb bc ⟨ce,bd,rfl,ae,a3,rfl⟩;subst a9;clear bb
 obtain⟨J,O,rfl⟩:=ae.ai
 exact Op.sg 56 4 19 0 1 #[vS u.aa,vL J (u.Data.length) O,vI u.ak,vI u.aE,vI u.Next,vI u.aO] bc zt fun cf am=>Op.pg 7 [(5,vI 0)]<|At.rn f108 [.agg #[vS u.aa,vL J (u.Data.length) O,vI u.ak,vI u.aE,vI u.Next,vI u.aO],vI 0] [.cell 4 56,.tmp 5] ⟨⟨_,_,rfl,dB (n:=6) (by kernel_rfl) (am.ag 1 rfl) (by kernel_rfl) rfl⟩,rfl,trivial⟩<|hR (am.fs [1] rfl).drop ⟨(vL J (u.Data.length) O),bd,bM (by(rw[B7 ‹_› ‹_›];done)) (bp (by(rw[B7 ‹_› ‹_›];done))),dZ ae (by(rw[B7 ‹_› ‹_›];done)),rfl,rfl⟩
theorem OH (B:World) (h:av) (g:GH) (hg:bf g h) (D:bh g) (u:Nat) (t:List af) (G:jv g u t) (p:aj) (hB:fM t) (hp:p.length≤1000000000):
  aA prog B 107 #[vP u,vS p] h g [] (fun ar g' L'=>∃v0 X,ar=.tuple #[v0,.int .i64 ((iS t p).2)]∧aF 9 ew g' v0 ((iS t p).1) X∧g'=g∧L'=[X]):=by
 refine aA.aq func107 fun R hR=>?_
 have Y:=St.init hg
 refine At.go 1 2 []<|At.rp 8 2 [(9,vP u),(10,vS p)]<|Op.c0 (some 11) (Cm _ _ _ Y.sub D u t G p (by(try dsimp only)<;>omega)) Y ?_
 rintro bi aw _ bj a0 O ⟨a1,rfl,a3⟩;subst aw;clear a0
 rcases a3 with ⟨rfl,Z⟩|⟨bk,bm,bo,bs,rfl,bt,b3,ab,ad,a4,b4⟩
 ·have a5:((dX t p) != 0)=true:=uG.2 Z
  have b5:((dX t p)==0)=false:=qB.2 Z
  refine Op.pg 2 [(7,vI (dX t p))]<|At.go 3 2 [(15,.bool ((dX t p) != 0))]<|At.c_ ((dX t p) != 0) 15 4 6 (fun ae=>?_) fun hb=>?_
  ·replace ae:=jO ae
   refine At.go 5 3 [(4,vN),(5,vI (dX t p))] ?_
   have a6:=aF.zero 9 ew g none
   exact At.rt (.tuple #[vN,vI (dX t p)]) (hR O.nl ⟨vN,[],bM rfl (bp (by(rw[Gz ‹_›];done))),dZ a6 (by(rw[Gz ‹_›];done)),rfl,rfl⟩)
  exact Bool.noConfusion (a5.symm.trans hb)
 obtain⟨b6,b8,rfl⟩:=a4.ai
 refine Op.pg 2 [(7,vI 0)]<|At.go 3 2 [(15,vF)]<|At.dP 15 6<|At.rp 6 2 [(17,vP u),(18,vS p)]<|Op.c0 (some 19) (GV _ _ _ O.sub D u t G p) O ?_
 rintro _ ca _ cb I am ⟨f46,a7,rfl,a8,a9,rfl⟩
 replace D:=D.mono I
 replace G:=G.mono I
 replace ad:=I _ _ ad
 replace ab:=I _ _ ab
 refine Op.c0 (some 20) (GW _ _ _ am.sub D f46 a7 (gA t p) a8 a9 (by((try dsimp only)<;>((have:=N5 t p;have:=hB.1;omega))))) am ?_
 rintro _ bb _ ce bc bd ⟨cf,be,rfl,J,a1,rfl⟩;subst bb;clear bc
 obtain⟨U,V,rfl⟩:=J.ai
 refine Op.pg 7 [(4,vL U ((iT (gA t p)).length) V),(5,vI 0)]<|At.rt (.tuple #[vL U ((iT (gA t p)).length) V,vI 0]) ?_
 replace J:=J.aX (fun _ _ _ _ h=>h) (g':=g)
 exact hR bd.ji ⟨(vL U ((iT (gA t p)).length) V),be,bM rfl (bp (by(rw[GA ‹_› ‹_›];done))),dZ J (by(rw[GA ‹_› ‹_›];exact Oh (gj _) G.sort)),rfl,rfl⟩
theorem Co (B:World) (h:av) (g:GH) (hg:bf g h) (a1:bh g) (G:Nat) (t:List af) (Z:jv g G t) (hB:fM t):
  aA prog B 38 #[vP G] h g [] (fun bs g' L'=>∃v0 a3 a4,bs=v0∧aF 56 kJ (cQ gE a4) v0 t a3∧g'=g∧L'=[a3,a4]):=by
 refine aA.aq func38 fun R hR=>?_
 have a5:=St.init hg
 refine At.go 1 1 []<|At.go 2 1 [(3,vN)]<|At.rp 4 1 [(6,vP G)]<|Op.c0 (some 7) (GX _ _ _ a5.sub a1 G t Z (by((try dsimp only)<;>((have:=hB.1;omega))))) a5 ?_
 rintro _ bt _ b3 b4 b5 ⟨dl,V,rfl,a6,b6,rfl⟩;subst bt;clear b4
 obtain⟨b8,a7,rfl⟩:=a6.ai
 refine Op.pg 3 [(8,vI ((t.map (·.aa)).length:Int)),(9,vI 0)] ?_
 have ca:=aF.zero 56 kJ (cQ gE []) none
 have cb:St h g (aM []) g ([]::[]::[V]) b3:=St.aX (L:=[V]) rfl b5
 have ce:∀(m:Nat) (out:List af) (i:Int) (I:Option Addr) (J:Nat) (O:au) (D:au) (ad:av) (hm:(t.map (·.aa)).length-i.toNat<m) (h0:0≤i) (h1:i≤(t.map (·.aa)).length) (ho:out=t.take i.toNat) (ae:aF 56 kJ (cQ gE D) (.slice I out.length J) out O) (U:St h g (aM []) g [O,D,V] ad),At (bS prog B 38 f38 R) [] 3 [(0,vP G),(3,vL I out.length J),(7,vL b8 ((t.map (·.aa)).length) a7),(8,vI ((t.map (·.aa)).length:Int)),(9,vI i)] ad:=by
  intro m;induction m with
  |zero=>intros;omega
  |succ m cf=>
   intro out i I J O D ad hm h0 h1 ho ae U
   refine At.go 4 1 [(10,.bool (decide (i<((t.map (·.aa)).length:Int))))]<|At.fd (i<((t.map (·.aa)).length:Int)) 10 5 8 (fun dp=>?_) fun dq=>?_
   ·refine At.rg 3 ?_
    obtain⟨X,am⟩:=cD (t.map (·.aa)) i
    obtain⟨ch,a8,du,dv,ci,ck,ar⟩:=ig.br (a6.toH U 2 rfl) _ am
    cases ci
    refine Op.iq 57 9 1 16 ((t.map (·.aa)).length) a7 7 9 11 ch a8 i ?_
    replace ar:cut _ _ _=[vS X]:=ar
    refine Op.l1 9 11 12 (a8+i.toNat*1) (vS X) ck ?_ (hv:=cT ar 0 rfl)
    refine Op.pg 6 [(5,vS X)]<|At.rp 11 4 [(13,vL I out.length J),(16,vP G)] ?_
    obtain⟨aw,a9,bb⟩:=Z
    have Z:jv g G t:=⟨aw,a9,bb⟩
    refine Op.l1 116 16 17 0 (.map (some aw)) (U.sub _ _ a9)<|Op.px 1 [(18,vS X)] ?_
    obtain⟨dC,dE,dT,co,c3,d0,d1,d2,c4⟩:=jT.kK bb
    rcases c4 X with ⟨c5,bc⟩|⟨bd,u,d3,c5,bc,c6,be,d4⟩
    ·exfalso;exact N4 Z.sort am ‹_›
    obtain⟨d5,d6,rfl⟩:=be.ai
    refine Op.pK (ok:=false) (d:=.string) (mt:=116) (x:=17) (ix:=18) (dst:=19) (k:=X) (m:=aw) (v:=vP bd) (z:=.pointer none) (by kernel_rfl) (by kernel_rfl) kI (by kernel_rfl) (by kernel_rfl) (U.sub _ _ co) c3 bc<|Op.c0 (some 20) (Cn _ _ _ U.sub a1 u _ be bd c6 (by((try dsimp only)<;>((have:=fM.data hB ‹_›;omega))))) U ?_
    rintro _ c8 _ d7 c9 da ⟨d8,Y,rfl,bi,b6,rfl⟩;subst c8;clear c9
    obtain⟨a76,ab,rfl⟩:=bi.ai
    refine Op.ls 21 1 56 #[vS u.aa,vL a76 (u.Data.length) ab,vI u.ak,vI u.aE,vI u.Next,vI u.aO] da fun a0 bj db=>?_
    have bk:St h g (aM []) g [D,Y,O,[(a0,Obj.cells #[vS u.aa,vL a76 (u.Data.length) ab,vI u.ak,vI u.aE,vI u.Next,vI u.aO] 56 (0,0))],V] bj:=(db.fs [2,2,3] rfl)
    have dc:=St.Ol (A:=(D++Y:au)) bk (by rw[cg,cg,←cI];exact List.sublist_append_left _ _)
    have dd:=Oj (C:=(D++Y:au)) (bi.aX (fun _ _ _ _ h=>h)) dc (by intro p hp;simp[hp])
    have df:=ae.mono (Oi (c:=D) (c':=Y))
    have bm:St h g (aM []) g [(D++Y:au),O,[(a0,Obj.cells #[vS u.aa,vL a76 (u.Data.length) ab,vI u.ak,vI u.aE,vI u.Next,vI u.aO] 56 (0,0))],V] bj:=St.aX (L:=[D,Y,O,[(a0,Obj.cells #[vS u.aa,vL a76 (u.Data.length) ab,vI u.ak,vI u.aE,vI u.Next,vI u.aO] 56 (0,0))],V]) (by simp only[cg,List.flatten_nil,cI,dM,dY,dh]) bk
    refine Op.ap 13 21 41 41 22 56 72 kJ (ys:=[u]) df bm 1 ⟨_,_,rfl,⟨_,dd,rfl⟩,Reads.nil⟩ (by(have h1:=congrArg List.length ho;have:=hB.1;simp only[dD,eu,bL,cS] at *;omega)) (fun _ _ _=>trivial) (di.lit (m:=1) (sz:=6) (bm.ag 2 rfl) (news:=[vS u.aa,vL a76 (u.Data.length) ab,vI u.ak,vI u.aE,vI u.Next,vI u.aO]) rfl rfl (by simp[Value.oneCell']) _) fun d9 ea eb bo dg ed=>?_
    obtain⟨dj,dk,rfl⟩:=bo.ai
    exact Op.pg 7 [(3,vL dj ((out++([u])).length) dk)]<|At.rg 2<|Op.dQ 23 (i+1) (by omega) (by(simp only[eu] at *;have:=hB.1;omega))<|Op.pg 3 [(9,vI (i+1))]<|At.ke (cf (out++([u])) (i+1) _ _ _ _ _ (by omega) (by omega) (by omega) (by exact N3 Z.sort h0 am ‹_› ho) bo (((dg.fs [2] rfl).drop).fs [1] rfl))
   exact At.go 9 2 [(2,vL I out.length J)]<|At.rt (vL I out.length J)<|hR (U.fs [1,1,2] rfl).drop ⟨(vL I out.length J),O,D,rfl,dZ ae (by(rw[ho,eR];simp only[eu] at *;omega)),rfl,rfl⟩
 exact At.ke (ce _ ([]:List af) 0 _ _ _ _ _ (bK _) (by omega) (by omega) (by rfl) ca cb)
theorem OI (B:World) (h:av) (g:GH) (hg:bf g h) (a5:bh g) (X:Value) (l:List Int) (Y:ay g 3 (eF .i64) X l) (u:Int) (hlen:l.length≤1000000000):
  aA prog B 125 #[X,vI u] h g [] (fun ad g' L'=>ad=.int .i64 (eC (fun z=>decide (u=z)) l)∧g'=g∧L'=[]):=by
 obtain⟨Z,J,rfl⟩:=Y.ai
 refine aA.aq func125 fun R hR=>At.go 1 1 []<|At.go 2 3 [(7,vI (l.length:Int)),(8,vI 0)] ?_
 have ae:∀(m:Nat) (i:Int) (O:av) (hm:l.length-i.toNat<m) (h0:0≤i) (h1:i≤l.length) (G:findAt (fun z=>decide (u=z)) l i) (D:St h g (aM []) g [] O),At (bS prog B 125 f125 R) [] 2 [(0,vL Z l.length J),(1,vI u),(7,vI (l.length:Int)),(8,vI i)] O:=by
  intro m;induction m with
  |zero=>intros;omega
  |succ m am=>
   intro i O hm h0 h1 G D
   refine At.go 3 1 [(9,.bool (decide (i<(l.length:Int))))]<|At.fd (i<(l.length:Int)) 9 4 10 (fun a6=>?_) fun ar=>?_
   ·refine At.go 5 2 [(5,vI i)]<|At.rp 6 3 [(11,vI u),(12,vL Z l.length J),(13,vI i)] ?_
    obtain⟨I,U⟩:=cD l i
    obtain⟨aw,ab,a7,a8,a0,a1,V⟩:=ay.br Y _ U
    cases a0
    refine Op.iq 81 3 1 8 l.length J 12 13 14 aw ab i ?_
    replace V:cut _ _ _=[vI I]:=V
    refine Op.l1 3 14 15 (ab+i.toNat*1) (vI I) (D.sub _ _ a1) ?_ (hv:=cT V 0 rfl)
    refine Op.pg 6 [(16,.bool (u==I))]<|At.fd (u=I) 16 7 9 (fun a3=>?_) fun a4=>?_
    ·exact At.gr 8 2 4 (vI i) (hR D ⟨(bp (by exact td G U (eW a3))),rfl,rfl⟩)
    exact At.rg 2<|Op.vq 18 (i+1)<|Op.pg 2 [(8,vI (i+1))] (At.ke (am (i+1) _ (by omega) (by omega) (by omega) (by exact uL G h0 U (fU a4)) D))
   exact At.gr 11 1 4 (vI (-1)) (hR D ⟨(bp (by exact tf G ar)),rfl,rfl⟩)
 exact At.ke (ae _ 0 _ (bK _) (by omega) (by omega) (by exact uK _ _) (St.init hg))
theorem Cp (B:World) (h:av) (g:GH) (hg:bf g h) (J:bh g) (D:Value) (l:List Int) (G:ay g 3 (eF .i64) D l) (u:Int) (hlen:l.length≤1000000000):
  aA prog B 92 #[D,vI u] h g [] (fun O g' L'=>O=.bool (l.any (fun z=>decide (u=z)))∧g'=g∧L'=[]):=by
 obtain⟨U,V,rfl⟩:=G.ai
 refine aA.aq func92 fun R hR=>?_
 have I:=St.init hg
 exact At.go 1 1 []<|At.rp 5 2 [(5,vL U l.length V),(6,vI u)]<|Op.c1 7 (OI _ _ _ I.sub J _ _ G u (by(try dsimp only)<;>omega)) I fun Y X=>Op.pr 2 4 (.bool (decide ((eC (fun z=>decide (u=z)) l)≥0))) (hR X ⟨(aS (by exact uJ _ _)),rfl,rfl⟩)
theorem OJ (B:World) (h:av) (g:GH) (hg:bf g h) (U:bh g) (Z:Nat) (t:List af) (D:jv g Z t) (co:Value) (ab:List Int) (Y:ay g 3 (eF .i64) co ab) (hB:fM t) (fA:ab.length≤1000000000):
  aA prog B 55 #[vP Z,co] h g [] (fun d2 g' L'=>∃v0 c3,d2=v0∧aF 9 ew g' v0 (j_ t ab) c3∧g'=g∧L'=[c3]):=by
 obtain⟨bs,bt,rfl⟩:=Y.ai
 refine aA.aq func55 fun R hR=>At.rg 3<|Op.bx 2 70 0 #[vP Z] (St.init hg) fun be fr d3=>Op.bx 3 81 1 #[vL bs ab.length bt] d3 fun bi ft d4=>Op.pg 1 [(4,vN)] ?_
 refine At.rg 1<|Op.al 5 57 #[vN] d4 fun G fv b3=>Op.gt 2<|At.rg 3<|Op.l1 70 2 8 0 (vP Z) (b3.ag 2 rfl) ?_
 refine Op.c0 (some 9) (GX _ _ _ b3.sub U Z t D (by((try dsimp only)<;>((have:=hB.1;omega))))) b3 ?_
 rintro _ d5 _ fw d6 d7 ⟨v31,fx,rfl,c4,f0,rfl⟩;subst d5;clear d6
 obtain⟨f1,f2,rfl⟩:=c4.ai
 obtain⟨f3,c5,b4,d8⟩:=aF.freeze c4 (d7)
 replace U:=U.mono b4
 replace Y:=Y.mono b4
 replace D:=D.mono b4
 refine Op.c0 (some 10) (OD _ _ _ c5.sub U _ _ d8 (by((try dsimp only)<;>((simp only[eu];have:=hB.1;omega))))) c5 ?_
 rintro _ c6 _ f4 b5 d9 ⟨f44,bj,rfl,ea,a7,rfl⟩
 replace U:=U.mono b5
 replace Y:=Y.mono b5
 replace D:=D.mono b5
 refine Op.gt 3<|At.kp [(2,vP be),(3,vP bi),(4,vN),(5,vP G),(10,.func (.func f44) #[] bj)] ?_
 obtain⟨c8,a8⟩:=St.freeze (d9.fs [2] rfl)
 have ad:=iQ (g:=c6) be (.cells #[vP Z] 70 (0,0))
 generalize eb:cQ c6 _=c9 at c8 a8 ad;clear eb
 replace U:=U.mono a8
 replace Y:=Y.mono a8
 replace a7:=a7.mono a8
 replace D:=D.mono a8
 obtain⟨da,a1⟩:=St.freeze (c8.fs [1] rfl)
 have a3:=iQ (g:=c9) bi (.cells #[vL bs ab.length bt] 81 (0,0))
 generalize ed:cQ c9 _=bk at da a1 a3;clear ed
 replace U:=U.mono a1
 replace Y:=Y.mono a1
 replace a7:=a7.mono a1
 replace D:=D.mono a1
 replace ad:=a1 _ _ ad
 have ee:=aF.zero 9 ew bk none
 refine At.rangeFunc (x:=10) (f:=f44) (cp:=bj) (by kernel_rfl) rfl (by kernel_rfl) (by kernel_rfl) ea da.nl fun u J O db ef eh=>?_
 have ej:St h g (aM []) bk [[(J,.loop (cW (dN 55 O (pt (cJ f55) 3) u) none))],[(G,Obj.cells #[vL none (([]:List aj).length) 0] 57 (0,0))],[],[(u,.deferred (some []))]] db:=(eh.fs [1,2,3,3] rfl)
 have b6:St h g (aM []) bk [(([(J,.loop (cW (dN 55 O (pt (cJ f55) 3) u) none))]:au)++([(G,Obj.cells #[vL none (([]:List aj).length) 0] 57 (0,0))]:au)++([]:au):au),[(u,.deferred (some []))]] db:=St.aX (L:=[[(J,.loop (cW (dN 55 O (pt (cJ f55) 3) u) none))],[(G,Obj.cells #[vL none (([]:List aj).length) 0] 57 (0,0))],[],[(u,.deferred (some []))]]) (by simp only[cg,List.flatten_nil,cI,dM,dY,dh]) ej
 obtain⟨dc,a9⟩:∃I:List aQ→GH→au→Prop,I=(fun xs g2 c2=>∃(out:List aQ) (dd:Option Addr) (df:Nat) (dg:au),c2=(([(J,.loop (cW (dN 55 O (pt (cJ f55) 3) u) none))]:au)++([(G,Obj.cells #[.slice dd out.length df] 57 (0,0))]:au)++(dg:au):au)∧aF 9 ew g2 (.slice dd out.length df) out dg∧out=xs.filter fun q=>match bN t q with|some n=>ab.any (fun o=>decide (n.aE=o))|none=>false):=⟨_,rfl⟩
 have em:ru prog B J Ch (fun en=>en=(t.map (·.aa)).reverse) (fun _=>true) dc bk:=by
  intro bm ar eo V f5 f6 bb f7 f8 ep er dj et
  rw[a9] at dj
  obtain⟨X,ae,am,aw,rfl,dk,b8⟩:=dj
  obtain⟨ex,rfl⟩:=ep
  obtain⟨_,rfl,bo⟩:=er
  have dl:St bm ar (aM [(([(J,.loop (cW (dN 55 O (pt (cJ f55) 3) u) none))]:au)++([(G,Obj.cells #[vL ae X.length am] 57 (0,0))]:au)++(aw:au):au)]) ar [[(J,.loop (cW (dN 55 O (pt (cJ f55) 3) u) none))],[(G,Obj.cells #[vL ae X.length am] 57 (0,0))],aw] bm:=St.aX (by simp only[cg,List.flatten_nil,cI,dM,dY,dh]) et
  replace U:=U.mono bb
  replace Y:=Y.mono bb
  replace D:=D.mono bb
  replace ad:=bb _ _ ad
  replace a3:=bb _ _ a3
  refine rq.ri (n:=f55.ntmps) (e0:=[(2,vP be),(3,vP bi),(4,vN),(5,vP G),(10,.func (.func f44) #[] bj)]) (e:=[(12,vS V),(11,vI ex),(2,vP be),(3,vP bi),(4,vN),(5,vP G),(10,.func (.func f44) #[] bj)]) (dl.ag 0 rfl) ef (by kernel_rfl) (by kernel_rfl) (by kernel_rfl) (by kernel_rfl) fun f9 dp=>At.go 1 1 [(7,vS V)]<|At.beginRound rfl (by kernel_rfl) dl 0 rfl 2 (by kernel_rfl) fun gc a0=>At.dw (fun _=>False) [(5,true),(0,true),(1,false),(2,true),(3,true),(4,false),(6,false),(7,true),(8,true),(9,false),(10,false)]<|Op.px 1 [(18,vS V)] ?_
  refine Op.lf 81 3 0 13 1 (vL bs ab.length bt) id (a0.sub _ _ a3)<|Op.l1 70 2 14 0 (vP Z) (a0.sub _ _ ad)<|Op.px 2 [(16,vP Z)] ?_
  obtain⟨ca,dq,du⟩:=D
  have D:jv ar Z t:=⟨ca,dq,du⟩
  refine Op.l1 116 16 17 0 (.map (some ca)) (a0.sub _ _ dq) ?_
  obtain⟨ge,gg,gk,eA,eB,gn,gs,g1,eI⟩:=jT.kK du
  rcases eI V with ⟨eJ,dv⟩|⟨dC,cb,v109,eJ,dv,eK,eL,g3⟩
  ·exfalso;exact N7 D.sort bo ‹_›
  obtain⟨g4,g5,rfl⟩:=eL.ai
  refine Op.pK (ok:=false) (d:=.string) (mt:=116) (x:=17) (ix:=18) (dst:=19) (k:=V) (m:=ca) (v:=vP dC) (z:=.pointer none) (by kernel_rfl) (by kernel_rfl) kI (by kernel_rfl) (by kernel_rfl) (a0.sub _ _ eA) eB dv<|Op.px 2 [(21,vQ dC 3)]<|Op.l1 3 21 22 3 (vI cb.aE) (a0.sub _ _ eK)<|Op.c1 23 (Cp _ _ _ a0.sub U _ _ Y cb.aE (by(try dsimp only)<;>omega)) a0 fun g6 ce=>Op.gt 3 ?_
  refine At.c_ (ab.any (fun z=>decide (cb.aE=z))) 23 4 5 (fun g7=>?_) fun g8=>?_
  ·refine At.rg 5<|Op.l1 57 5 24 0 (vL ae X.length am) (ce.ag 1 rfl)<|Op.px 1 [(25,vS V)]<|Op.ls 26 1 9 #[vS V] ce fun g9 ha dE=>Op.ap 24 26 57 57 27 9 16 ew (ys:=[V]) dk dE 3 (⟨_,_,rfl,rfl,Reads.nil⟩) (by(have h1:=congrArg List.length b8;have h2:=bo.length_le;have:=hB.1;simp only[FU,eu,b_,bL,cS] at *;have h3:=kG (fun q=>match bN t q with|some n=>ab.any (fun o=>decide (n.aE=o))|none=>false) eo;omega)) (fun _ _ _=>trivial) (di.lit (m:=1) (sz:=1) (dE.ag 0 rfl) (news:=[vS V]) rfl rfl (by simp[Value.oneCell']) _) fun hb cf he dT eQ hf=>?_
   obtain⟨bc,bd,rfl⟩:=dT.ai
   refine Op.s1 57 5 27 0 (vL bc ((X++([V])).length) bd) 1 #[vL bc ((X++([V])).length) bd] ((eQ).drop) zt fun hh eT=>Op.gt 5<|At.wK (j:=none) (by kernel_rfl) eT 0 rfl fun e1 e2=>?_
   have e3:St bm ar (aM [(([(J,.loop (cW (dN 55 O (pt (cJ f55) 3) u) none))]:au)++([(G,Obj.cells #[vL ae X.length am] 57 (0,0))]:au)++(aw:au):au)]) ar [(([(J,.loop (cW (dN 55 O (pt (cJ f55) 3) u) none))]:au)++([(G,Obj.cells #[vL bc ((X++([V])).length) bd] 57 (0,0))]:au)++(cf:au):au)] e1:=St.aX (L:=[[(J,.loop (cW (dN 55 O (pt (cJ f55) 3) u) none))],[(G,Obj.cells #[vL bc ((X++([V])).length) bd] 57 (0,0))],cf]) (by simp only[cg,List.flatten_nil,cI,dM,dY,dh]) e2
   refine dp _ _ _ _ e3 ⟨_,by rfl,rfl,?_⟩
   rw[a9];exact⟨(X++([V])),bc,bd,cf,rfl,dT,(by(have h1:=GC D.sort bo ‹_› b8;rw[aL ‹_›] at h1;exact h1))⟩
  refine At.wK (j:=none) (by kernel_rfl) ce 0 rfl fun e4 e5=>?_
  have e6:St bm ar (aM [(([(J,.loop (cW (dN 55 O (pt (cJ f55) 3) u) none))]:au)++([(G,Obj.cells #[vL ae X.length am] 57 (0,0))]:au)++(aw:au):au)]) ar [(([(J,.loop (cW (dN 55 O (pt (cJ f55) 3) u) none))]:au)++([(G,Obj.cells #[vL ae X.length am] 57 (0,0))]:au)++(aw:au):au)] e4:=St.aX (L:=[[(J,.loop (cW (dN 55 O (pt (cJ f55) 3) u) none))],[(G,Obj.cells #[vL ae X.length am] 57 (0,0))],aw]) (by simp only[cg,List.flatten_nil,cI,dM,dY,dh]) e5
  refine dp _ _ _ _ e6 ⟨_,by rfl,rfl,?_⟩
  rw[a9];exact⟨X,ae,am,aw,rfl,dk,(by(have h1:=GC D.sort bo ‹_› b8;rw[aB (jc.1 ‹_›)] at h1;exact h1))⟩
 refine sY.call (Lc:=[(([(J,.loop (cW (dN 55 O (pt (cJ f55) 3) u) none))]:au)++([(G,Obj.cells #[vL none (([]:List aj).length) 0] 57 (0,0))]:au)++([]:au):au)]) (L:=[[(u,.deferred (some []))]]) b6 (a7 B _ _ _ dc (fun _=>true) _ (aG.refl _) b6.sub U em rfl (by rw[a9];exact⟨([]:List aj),none,0,[],rfl,ee,(by rfl)⟩) (St.part (Lc:=[(([(J,.loop (cW (dN 55 O (pt (cJ f55) 3) u) none))]:au)++([(G,Obj.cells #[vL none (([]:List aj).length) 0] 57 (0,0))]:au)++([]:au):au)]) (L:=[[(u,.deferred (some []))]]) b6)) ?_
 rintro _ e7 _ e8 ch e9 ⟨hj,hl,hm,rfl,fa,hn,fg,ho,rfl,d0⟩
 replace D:=D.mono ch
 replace ad:=ch _ _ ad
 replace a3:=ch _ _ a3
 have hx:=fg rfl;subst hx
 rw[a9] at d0
 obtain⟨a4,a5,a6,ci,rfl,ck,fi⟩:=d0
 have fj:St h g (aM []) e7 [[(J,.loop (cW (dN 55 O (pt (cJ f55) 3) u) none))],[(G,Obj.cells #[vL a5 a4.length a6] 57 (0,0))],ci,[(u,.deferred (some []))]] e8:=St.aX (by simp only[cg,List.flatten_nil,cI,dM,dY,dh]) e9
 refine iG.wL (j:=none) fj 0 rfl fun hp fl=>?_
 have d1:=fl.drop
 refine iG.br 4 (by kernel_rfl)<|At.rg 2<|Op.l1 57 5 28 0 (vL a5 a4.length a6) (d1.ag 0 rfl)<|Op.pg 5 [(4,vL a5 a4.length a6)]<|At.yQ (iG.BA (L:=[[(G,Obj.cells #[vL a5 a4.length a6] 57 (0,0))],ci]) (f:=f55) (v:=vL a5 a4.length a6) [u] (by kernel_rfl) (by kernel_rfl) (d1.fs [1,1,2] rfl) ?_)
 intro hq fp
 replace ck:=ck.aX (fun _ _ _ _ h=>h) (g':=g)
 exact hR fp.drop.ji ⟨(vL a5 a4.length a6),ci,rfl,dZ ck (by rw[fi,fa];exact N6 D.sort),rfl,rfl⟩
end Go.Proofs.YtpacclkciilmpaaGreatDoor.Sw
