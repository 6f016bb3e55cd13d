/- Lemmas for laws of this seat. -/
import Derived.Test.YtpacclkciilmpaaGreatDoorGBA
import Derived.RangeFuncLeaves
set_option maxHeartbeats 4000000
namespace Go.Proofs.YtpacclkciilmpaaGreatDoor.Sw
set_option linter.unusedVariables false
set_option linter.unusedSimpArgs false
set_option linter.deprecated false
open Go
set_option linter.defProp false
def EW:=@Option.isSome_iff_exists
def AZ:=@Array.getElem?_setIfInBounds_ne
def eN:=@Option.some.injEq
def iO:=@Nat.le_refl
def gO:=@Nat.zero_le
def qm:=@Nat.lt_of_lt_of_le
def cF:=@List.mem_map
def q4:=@List.mem_range
def jr:=@List.map_map
def sL:=@List.map_id
def lK:=@Array.getElem?_eq_some_iff
def yt:=@Array.getD_eq_getD_getElem?
def yu:=@Array.getElem?_replicate
def fZ:=@Bool.false_eq_true
def de:=@if_false
def q5:=@Array.getElem?_toList
def A2:=@Array.getElem?_append
def A3:=@List.mapM_cons
def EX:=@Array.mapM_eq_mapM_toList
def v7:=@List.size_toArray
def cg:=@List.flatten_cons
def gp:=@List.map_append
def mF:=@List.nodup_append
def yw:=@Array.getElem?_push
def cU:=@List.mem_append
def e_:=@List.map_cons
def l5:=@List.map_nil
def gv:=@List.mem_singleton
def yx:=@Array.getElem?_modify
def v_:=@List.mem_of_find?_eq_some
def we:=@List.find?_some
def EY:=@Option.ne_none_iff_exists'
def mG:=@List.flatten_append
def yy:=@List.mem_append_left
def A4:=@List.mem_append_right
def bL:=@List.length_cons
def q6:=@Option.map_eq_some_iff
def q7:=@List.mem_flatten
def o7:=@List.getElem?_take
def qn:=@Array.length_toList
def mH:=@List.drop_eq_nil_of_le
def uo:=@List.drop_eq_getElem_cons
def q8:=@List.drop_take
def b_:=@List.length_append
def kZ:=@Nat.succ_mul
def cI:=@List.append_assoc
def eR:=@List.take_of_length_le
def A5:=@Nat.add_sub_cancel_left
def uq:=@List.drop_append
def dY:=@List.nil_append
def dL:=@List.getElem?_eq_some_iff
def wg:=@List.take_left'
def qo:=@List.take_take
def o8:=@List.drop_drop
def jB:=@Nat.min_eq_left
def iC:=@Nat.mul_le_mul_right
def dh:=@List.append_nil
abbrev av:=Array Obj
structure Is (B:World) (h:av) (w:World):Prop where
  heap:w.heap=h
  os:w.os=B.os
  tape:w.tape=B.tape
  output:w.output=B.output
theorem Is.self (w:World):Is w w.heap w:=⟨rfl,rfl,rfl,rfl⟩
theorem Is.again {B:World} {h:av} {w:World} (i:Is B h w):Is B w.heap w:=⟨rfl,i.os,i.tape,i.output⟩
theorem Is.nG {B:World} {h:av} {w:World} (i:Is B h w):Is B h {w with drawn:=w.drawn+1}:=⟨i.heap,i.os,i.tape,i.output⟩
def yz (P:Program) (B:World) (f:FuncId) (args:Array Value) (h:av) (R:Value→av→Prop):Prop:=
  ∀w,Is B h w→Calls P f args w fun e w'=>∃v,e=.returned v∧Is B w'.heap w'∧R v w'.heap
def EZ (P:Program) (B:World) {α:Type} (s:Sem α) (h:av) (R:α→av→Prop):Prop:=
  ∀w,Is B h w→∃x w',s.run P w=.ok x w'∧Is B w'.heap w'∧R x w'.heap
abbrev Env:=List (Nat×Value)
theorem qp {a b:Nat} (h:a≠b):Nat.beq a b=false:=by
  cases hb:Nat.beq a b with
  |false=>rfl
  |true=>exact absurd (qi hb) h
namespace Env
def get:Env→Nat→Option Value
  |[],_=>none
  |(k,v)::e,t=>bif Nat.beq k t then some v else get e t
def ev (e:Env):Operand→Value
  |.tmp t=>(get e t).getD undef
  |.const v=>v
  |.global g=>.pointer (some ⟨g,0,none⟩)
  |.func f=>.func (.func f) #[] #[]
def qq (e:Env):Operand→Bool
  |.tmp t=>(get e t).isSome
  |_=>true
def gd (e:Env) (d:Option Tmp) (v:Value):Env:=match d with
  |some t=>(t,v)::e
  |none=>e
end Env
structure iD (e:Env) (n:Nat) (ds:List Deferred) (a:Act):Prop where
  defers:a.defers=ds
  size:a.tmps.size=n
  get:∀t v,e.get t=some v→a.tmps[t]?=some v
theorem iD.eval {e:Env} {n:Nat} {ds:List Deferred} {a:Act} (f:iD e n ds a) {x:Operand} (h:e.qq x=true):a.eval x=e.ev x:=by
  cases x with
  |tmp t=>
   simp only[Env.qq,EW] at h
   obtain⟨v,hv⟩:=h
   have:=f.get t v hv
   simp[Act.eval,Env.ev,hv,this]
  |_=>rfl
theorem iD.put {e:Env} {n:Nat} {ds:List Deferred} {a:Act} (f:iD e n ds a) {d:Nat} (hd:d<n) (v:Value):iD ((d,v)::e) n ds (a.put (some d) v):=by
  refine⟨f.defers,by simp[Act.put,f.size],fun t u h=>?_⟩
  by_cases hdt:d=t
  · subst hdt
    simp[Env.get] at h
    subst h
    simp[Act.put,f.size,hd]
  · have hb:Nat.beq d t=false:=qp hdt
    simp only[Env.get,hb,cond_false] at h
    simp only[Act.put,AZ hdt]
    exact f.get t u h
theorem iD.gd {e:Env} {n:Nat} {ds:List Deferred} {a:Act} (f:iD e n ds a) {d:Option Tmp} (hd:∀t,d=some t→t<n) (v:Value):iD (e.gd d v) n ds (a.put d v):=by
  cases d with
  |none=>exact f
  |some t=>exact f.put (hd t rfl) v
def ou (P:Program) {α:Type}:Sem α→Option α
  |.pure a=>some a
  |.program k=>ou P (k P)
  |.mark _ k=>ou P k
  |_=>none
theorem ur {P:Program} {α:Type} (s:Sem α) {x:α} (h:ou P s=some x) (w:World):s.run P w=.ok x w:=by
  induction s with
  |pure a=>simp only[ou,eN] at h;subst h;rfl
  |program k ih=>exact ih P h
  |mark m k ih=>exact ih h
  |_=>simp[ou] at h
def wj (ops:Array Oper) (e:Env) (o:Oper):Option Bool:=
  match o.guard with
  |none=>some true
  |some (g,u)=>match (ops[g]?).bind (·.dst) with
   |some t=>match e.get t with
    |some (.bool b)=>some (b==u)
    |some (.tuple _)=>some false
    |_=>none
   |none=>none
theorem sM {ops:Array Oper} {e:Env} {o:Oper} {b:Bool} {n:Nat} {ds:List Deferred} {a:Act} (f:iD e n ds a) (h:wj ops e o=some b):
    Region.wanted o (yielded ops a.tmps)=b:=by
  unfold wj at h
  unfold Region.wanted
  split at h
  · rename_i hg;simp only[hg];simpa using h
  · rename_i g u hg
    simp only[hg]
    split at h
    · rename_i t ht
      split at h
      · rename_i c hc
        have h1:=f.get t _ hc
        have h2:yielded ops a.tmps g=some c:=by simp[yielded,ht,h1]
        rw[h2]
        simp only[eN] at h
        rw[←h]
        cases c<;>cases u<;>rfl
      · rename_i c hc
        have h1:=f.get t _ hc
        have h2:yielded ops a.tmps g=none:=by simp[yielded,ht,h1]
        rw[h2]
        simp only[eN] at h
        rw[←h]
        rfl
      · cases h
    · cases h
def yA (n:Nat) (o:Oper):Bool:=match o.dst with
  |some d=>Nat.blt d n
  |none=>true
theorem E0 {n:Nat} {o:Oper} (h:yA n o=true) (t:Nat) (ht:o.dst=some t):t<n:=by
  unfold yA at h
  rw[ht] at h
  exact jb h
def fc (e:Env) (o:Oper):Sem Next:=execOp e.ev o
def yB (e:Env) (o:Oper):Bool:=o.op.operands.all e.qq
theorem wm {e:Env} {n:Nat} {ds:List Deferred} {a:Act} (f:iD e n ds a) {o:Oper} (hd:o5 o=true) (hc:yB e o=true):
    execOp a.eval o=fc e o:=
  execOp_congr o (ym hd).2 fun x hx=>f.eval (by
    have:=Array.all_eq_true_iff_forall_mem.1 hc x hx
    exact this)
def o9:Code→List Item→List (List Item)
  |.seq a b,k=>o9 a (.code b::k)++o9 b k
  |.block id c,k=>o9 c (.inBlock id::k)
  |.loop c,k=>o9 c (.inLoop c::k)
  |.scope c,k=>o9 c (.inScope c::k)
  |.cond c x y,k=>(.code (.cond c x y)::k)::(o9 x k++o9 y k)
  |.region id ops d,k=>[.code (.region id ops d)::k]
  |.ret,k=>[.code .ret::k]
  |.rangeFunc f ps as body,k=>[.code (.rangeFunc f ps as body)::k]
  |.exit id,k=>match exitTo id k with
   |some _=>[]
   |none=>[.code (.exit id)::k]
  |_,_=>[]
inductive yC where
  |fn (c:Code)
  |round (assign body:Code)
def Mk:yC→List (List Item)
  |.fn c=>o9 c []
  |.round a b=>o9 a [.beginRound,.code b]++[.beginRound,.code b]::o9 b []
def pt (c:yC) (i:Nat):List Item:=(Mk c).getD i []
def iE:List Item→Array Oper
  |.code (.region _ ops _)::_=>ops
  |_=>#[]
def uu:List Item→Option (List (Nat×Bool))
  |.code (.region _ ops false)::_=>if Nat.ble ops.size 1000=true then some ((List.range ops.size).map fun i=>(i,false)) else none
  |_=>none
def q9:List Item→Option (Array Oper)
  |.code (.region _ ops true)::_=>some ops
  |_=>none
def ov:List Item→Option Operand
  |.code (.cond c _ _)::_=>some c
  |_=>none
def o_:List Item→List Item
  |.code (.cond _ x _)::k=>.code x::k
  |k=>k
def pe:List Item→List Item
  |.code (.cond _ _ y)::k=>.code y::k
  |k=>k
def mZ:List Item→Bool
  |[]=>true
  |.code .ret::_=>true
  |_=>false
def qs (f:Func):Code:=f.body.getD .skip
def cJ (f:Func):yC:=.fn (qs f)
structure fC where
  P:Program
  B:World
  fn:FuncId
  n:Nat
  code:yC
  ro:Option Nat
  Q:Option Code→Act→World→Prop
def At (C:fC) (ds:List Deferred) (i:Nat) (e:Env) (h:av):Prop:=
  ∀a w,iD e C.n ds a→Is C.B h w→eg C.P C.ro C.fn C.Q (pt C.code i) a w
structure dK (r:av) (M:Nat→Prop) (h:av):Prop where
  size:r.size≤h.size
  same:∀b,b<r.size→¬M b→h[b]?=r[b]?
theorem dK.refl (r:av) (M:Nat→Prop):dK r M r:=⟨iO _,fun _ _ _=>rfl⟩
theorem dK.any (h:av):dK #[] (fun _=>True) h:=⟨gO _,fun _ hb=>absurd hb (Nat.not_lt_zero _)⟩
theorem dK.trans {r:av} {M N:Nat→Prop} {h k:av} (H:dK r M h) (K:dK h N k) (hn:∀b,b<r.size→N b→M b):dK r M k:=
  ⟨cr H.size K.size,fun b hb hm=>(K.same b (qm hb H.size) fun hb'=>hm (hn b hb hb')).trans (H.same b hb hm)⟩
def holds (C:fC) (r:av) (M:Nat→Prop) (w:World):Prop:=dK r M w.heap∧Is C.B w.heap w
def Op (C:fC) (ds:List Deferred) (i:Nat) (r:av) (M:Nat→Prop) (L:List (Nat×Bool)) (e:Env) (h:av):Prop:=
  ∀a w,iD e C.n ds a→Is C.B h w→dK r M h→
   kY C.P (iE (pt C.code i)) (holds C #[] fun _=>True) (holds C r M) L (fun a w=>eg C.P C.ro C.fn C.Q (pt C.code i).tail a w) a w
section
variable {C:fC} {ds:List Deferred} {i:Nat} {r:av} {M:Nat→Prop} {L:List (Nat×Bool)} {e:Env} {h:av}
theorem At.A6 (hL:uu (pt C.code i)=some L) (H:Op C ds i #[] (fun _=>True) L e h):At C ds i e h:=by
  intro a w f is
  have H:=H a w f is (dK.any _)
  generalize pt C.code i=k at *
  unfold uu at hL
  split at hL
  · rename_i id ops k'
    split at hL
    · rename_i hsz
      simp only[eN] at hL
      subst hL
      have hsz:=jb hsz
      have:=Mj _ _ _ _ (fun p hp=>by
        obtain⟨q,hq,rfl⟩:=cF.1 hp
        have:=q4.1 hq
        exact jc.2 fun hc=>by have:=jb hc;omega) (fun _ _=>trivial) H
      rw[jr] at this
      simp only[iE,List.tail] at this
      have e:List.map ((fun x:Nat×Bool=>x.1) ∘ fun i=>(i,false)) (List.range ops.size)=List.range ops.size:=by
        rw[show((fun x:Nat×Bool=>x.1) ∘ fun i:Nat=>(i,false))=_root_.id from rfl,sL]
      rw[e] at this
      exact eg.region this
    · cases hL
  · cases hL
def A7 (k:List Item) (L:List (Nat×Bool)):Bool:=match q9 k with
  |some ops=>Nat.ble (gH L) ops.size&&(mE ops (o6 L) false L (Array.replicate ops.size false)&&(Nat.blt (o6 L) 1000000||Nat.ble ops.size 1000000))
  |none=>false
theorem At.nG (hm:C.P.follows .mixedOrders=true) (M:Nat→Prop) (L:List (Nat×Bool)) (hL:A7 (pt C.code i) L=true) (H:Op C ds i h M L e h):At C ds i e h:=by
  intro a w f is
  have H:=H a {w with drawn:=w.drawn+1} f is.nG (dK.refl _ _)
  generalize pt C.code i=k at *
  unfold A7 at hL
  split at hL
  · rename_i ops hd
    unfold q9 at hd
    split at hd
    · rename_i id u k'
      simp only[eN] at hd
      subst hd
      simp only[bO] at hL
      have h1:=jb hL.1
      refine eg.nG hm fun t=>yo (kb:=o6 L) (S:=holds C h M) _ _ _ _ _ (yp L _ _ false _ _ _ _ _ h1 ?_ hL.2.1 (fun _=>⟨rfl,?_⟩) (fun hz=>by cases hz) H)
      · intro k o ho hk
        have hlt:k<u.size:=(lK.1 ho).1
        simp[hlt] at hk
      · simp only[yt,yu];split<;>rfl
    · cases hd
  · cases hL
theorem Op.sN {k:Nat} (u:(Nat.ble 2000 k&&!(Nat.ble 3000 k))=true) (H:Op C ds i h M L e h):Op C ds i r (fun _=>True) ((k,false)::L) e h:=by
  intro a w f is _
  have:=H a w f is (dK.refl _ _)
  simp only[bO,gZ] at u
  obtain⟨hk,u⟩:=u
  have hk2:Nat.ble 1000 k=true:=ET (cr (by decide) (jb hk))
  rw[vY u,aL hk2,aL hk]
  exact⟨_,this⟩
theorem Op.Ml {k:Nat} (hk:(Nat.ble 1000 k&&!(Nat.ble 2000 k))=true) (H:Op C ds i #[] (fun _=>True) L e h):Op C ds i r M ((k,false)::L) e h:=by
  intro a w f is _
  have:=H a w f is (dK.any _)
  simp only[bO,gZ] at hk
  rw[vY (AY hk.2 (by decide)),aL hk.1,aB (by rw[hk.2];simp)]
  exact this
theorem Op.goto (j:Nat) (hj:norm 1000 (pt C.code i).tail=pt C.code j) (H:At C ds j e h):Op C ds i r M [] e h:=by
  intro a w f is _
  exact .norm 1000 (by rw[hj];exact H a w f is)
theorem At.cond {b:Bool} {c:Operand} (hc:ov (pt C.code i)=some c) (hv:e.qq c=true) (hb:e.ev c=.bool b) (u D:Nat)
    (h1:norm 1000 (o_ (pt C.code i))=pt C.code u) (h2:norm 1000 (pe (pt C.code i))=pt C.code D)
    (ht:b=true→At C ds u e h) (hf:b=false→At C ds D e h):At C ds i e h:=by
  intro a w f is
  generalize pt C.code i=k at *
  unfold ov at hc
  split at hc
  · rename_i c' x y k'
    simp only[eN] at hc
    subst hc
    refine eg.cond (t:=b) (by rw[f.eval hv,hb]) ?_
    cases b with
    |true=>exact .norm 1000 (by simp only[o_] at h1;simp only[iA];rw[h1];exact ht rfl a w f is)
    |false=>exact .norm 1000 (by simp only[pe] at h2;simp only[fZ,de];rw[h2];exact hf rfl a w f is)
  · cases hc
theorem At.o_ {c:Operand} (hc:ov (pt C.code i)=some c) (hv:e.qq c=true) (hb:e.ev c=.bool true) (u:Nat)
    (h1:norm 1000 (Sw.o_ (pt C.code i))=pt C.code u) (ht:At C ds u e h):At C ds i e h:=by
  intro a w f is
  generalize pt C.code i=k at *
  unfold ov at hc
  split at hc
  · rename_i c' x y k'
    simp only[eN] at hc
    subst hc
    refine eg.cond (t:=true) (by rw[f.eval hv,hb]) ?_
    exact .norm 1000 (by simp only[Sw.o_] at h1;simp only[iA];rw[h1];exact ht a w f is)
  · cases hc
theorem At.pe {c:Operand} (hc:ov (pt C.code i)=some c) (hv:e.qq c=true) (hb:e.ev c=.bool false) (u:Nat)
    (h1:norm 1000 (Sw.pe (pt C.code i))=pt C.code u) (ht:At C ds u e h):At C ds i e h:=by
  intro a w f is
  generalize pt C.code i=k at *
  unfold ov at hc
  split at hc
  · rename_i c' x y k'
    simp only[eN] at hc
    subst hc
    refine eg.cond (t:=false) (by rw[f.eval hv,hb]) ?_
    exact .norm 1000 (by simp only[Sw.pe] at h1;simp only[fZ,de];rw[h1];exact ht a w f is)
  · cases hc
def lM (C:fC) (i j:Nat) (e:Env):Option Oper:=
  match (iE (pt C.code i))[j]? with
  |some o=>if o5 o&&yB e o&&yA C.n o&&!(Nat.ble 1000 j) then
      match wj (iE (pt C.code i)) e o with
      |some true=>some o
      |_=>none
   else none
  |none=>none
theorem q_ {j:Nat} {o:Oper} (h:lM C i j e=some o):(iE (pt C.code i))[j]?=some o∧o5 o=true∧yB e o=true∧(∀t,o.dst=some t→t<C.n)∧
    wj (iE (pt C.code i)) e o=some true∧Nat.ble 1000 j=false:=by
  unfold lM at h
  split at h
  · rename_i o' ho
    split at h
    · rename_i hc
      simp only[bO] at hc
      split at h
      · rename_i hw
        simp only[eN] at h
        subst h
        exact⟨ho,hc.1.1.1,hc.1.1.2,E0 hc.1.2,hw,by simpa using hc.2⟩
      · cases h
    · cases h
  · cases h
theorem Op.wo {j:Nat} {o:Oper} (ho:lM C i j e=some o)
    (H:∀w,Is C.B h w→dK r M h→∀a,iD e C.n ds a→Sw.Oper.res C.P o a (fun u w'=>holds C r M w'∧∃e',iD e' C.n ds u∧Op C ds i r M L e' w'.heap) ((fc e o).run C.P w)):
    Op C ds i r M ((j,false)::L) e h:=by
  intro a w f is hk
  obtain⟨h1,h2,h3,h4,h5,h6⟩:=q_ ho
  refine yq h6 ⟨o,h1,h2,?_⟩
  rw[sM f h5,aL rfl,wm f h2 h3]
  exact EU (fun u w' ⟨hh,e',f',D⟩=>⟨hh,D u w' f' hh.2 hh.1⟩) (H w is hk a f)
theorem Op.run {j:Nat} {o:Oper} (ho:lM C i j e=some o) {R:Next→av→Prop} (H:EZ C.P C.B (fc e o) h R)
    (K:∀x h',R x h'→∃v,x=.value v∧(dK r M h→dK r M h')∧Op C ds i r M L (e.gd o.dst v) h'):Op C ds i r M ((j,false)::L) e h:=by
  refine Op.wo ho fun w is hk a f=>?_
  obtain⟨x,w',hrun,u,hr⟩:=H w is
  obtain⟨v,rfl,D,G⟩:=K x _ hr
  rw[hrun]
  exact⟨⟨D hk,u⟩,_,f.gd (q_ ho).2.2.2.1 v,G⟩
theorem Op.skip {j:Nat} {o:Oper} (ho:lM C i j e=some o) {R:Next→av→Prop} (H:EZ C.P C.B (fc e o) h R)
    (K:∀x h',R x h'→x=.skip∧(dK r M h→dK r M h')∧Op C ds i r M L (e.gd o.dst undef) h'):Op C ds i r M ((j,false)::L) e h:=by
  refine Op.wo ho fun w is hk a f=>?_
  obtain⟨x,w',hrun,u,hr⟩:=H w is
  obtain⟨rfl,D,G⟩:=K x _ hr
  rw[hrun]
  exact⟨⟨D hk,u⟩,_,f.gd (q_ ho).2.2.2.1 undef,G⟩
theorem Op.take {j:Nat} {o:Oper} {b:Bool} (ho:lM C i j e=some o) {v:Value} (hn:b=true→mD o=true)
    (H:∀w,Is C.B w.heap w→dK r M w.heap→(b=false→w.heap=h)→(fc e o).run C.P w=.ok (.value v) w)
    (K:Op C ds i r M L (e.gd o.dst v) h):Op C ds i r M ((j,b)::L) e h:=by
  intro a w f is hk
  obtain⟨h1,h2,h3,h4,h5,h6⟩:=q_ ho
  have u:dK r M w.heap:=by rw[is.heap];exact hk
  cases b with
  |false=>
   refine yq h6 ⟨o,h1,h2,?_⟩
   rw[sM f h5,aL rfl,wm f h2 h3,H w is.again u fun _=>is.heap]
   exact⟨⟨u,is.again⟩,K _ _ (f.gd h4 v) is hk⟩
  |true=>
   refine⟨o,v,h1,h2,?_,⟨u,is.again⟩,K _ _ (f.gd h4 v) is hk⟩
   rw[aL (hn rfl)]
   refine .inl ⟨sM f h5,fun w' ⟨k',D⟩=>?_⟩
   rw[wm f h2 h3]
   exact H w' D k' (by simp)
theorem Op.A8 {j:Nat} {o:Oper} {b:Bool} (ho:lM C i j e=some o) {v:Value}
    (H:∀w,(fc e o).run C.P w=.ok (.value v) w)
    (K:Op C ds i r M L (e.gd o.dst v) h):Op C ds i r M ((j,b)::L) e h:=by
  intro a w f is hk
  obtain⟨h1,h2,h3,h4,h5,h6⟩:=q_ ho
  have u:dK r M w.heap:=by rw[is.heap];exact hk
  cases b with
  |false=>
   refine yq h6 ⟨o,h1,h2,?_⟩
   rw[sM f h5,aL rfl,wm f h2 h3,H w]
   exact⟨⟨u,is.again⟩,K _ _ (f.gd h4 v) is hk⟩
  |true=>
   refine⟨o,v,h1,h2,.inl ⟨sM f h5,fun w' _=>?_⟩,⟨u,is.again⟩,K _ _ (f.gd h4 v) is hk⟩
   rw[wm f h2 h3]
   exact H w'
def lN (P:Program) (n:Nat) (ops:Array Oper):Nat→List (Nat×Bool)→Env→Option (List (Nat×Bool)×Env)
  |0,L,e=>some (L,e)
  |_+1,[],_=>none
  |m+1,(j,_)::L,e=>match ops[j]? with
   |none=>none
   |some o=>
    if o5 o&&yA n o&&!(Nat.ble 1000 j) then
      match wj ops e o with
      |none=>none
      |some false=>lN P n ops m L (e.gd o.dst undef)
      |some true=>if yB e o then
          match ou P (fc e o) with
          |some (.value v)=>lN P n ops m L (e.gd o.dst v)
          |_=>none
       else none
    else none
theorem Op.run_pure {m:Nat} {u:List (Nat×Bool)} {D:Env} (h1:lN C.P C.n (iE (pt C.code i)) m L e=some (u,D)) (K:Op C ds i r M u D h):Op C ds i r M L e h:=by
  induction m generalizing L e with
  |zero=>
   simp only[lN,eN,iB] at h1
   obtain⟨rfl,rfl⟩:=h1
   exact K
  |succ m ih=>
   cases L with
   |nil=>simp[lN] at h1
   |cons p L=>
    obtain⟨j,b⟩:=p
    simp only[lN] at h1
    split at h1
    · cases h1
    · rename_i o ho
      split at h1
      · rename_i hc
        simp only[bO] at hc
        have hd:∀t,o.dst=some t→t<C.n:=E0 hc.1.2
        have h6:Nat.ble 1000 j=false:=by simpa using hc.2
        split at h1
        · cases h1
        · rename_i hw
          have K':=ih h1
          intro a w f is hk
          have G:dK r M w.heap:=by rw[is.heap];exact hk
          have I:=K' _ w (f.gd hd undef) is hk
          cases b with
          |false=>
           refine yq h6 ⟨o,ho,hc.1.1,?_⟩
           rw[sM f hw,aB (by simp)]
           exact⟨⟨G,is.again⟩,I⟩
          |true=>exact⟨o,undef,ho,hc.1.1,.inr ⟨sM f hw,rfl⟩,⟨G,is.again⟩,I⟩
        · rename_i hw
          split at h1
          · rename_i J
            split at h1
            · rename_i v hv
              have K':=ih h1
              refine Op.A8 (o:=o) ?_ (fun w=>ur _ hv w) K'
              unfold lM
              simp only[ho,hw]
              rw[aL]
              simp only[bO]
              exact⟨⟨⟨hc.1.1,J⟩,hc.1.2⟩,hc.2⟩
            · cases h1
          · cases h1
      · cases h1
end
inductive ox (P:Program):List Deferred→World→World→Prop
  |nil (w:World):ox P [] w w
  |cons {d:Deferred} {r:Nat} {ds:List Deferred} {w w₁ w₂:World} (ht:d.target=.collected r) (hk:(Instr.takeDeferred r).run P w=.ok [] w₁) (h:ox P ds w₁ w₂):ox P (d::ds) w w₂
theorem ox.Mm {P:Program} {ds:List Deferred} {w w₂:World} (h:ox P ds w w₂):∀(u:Frame) (cs:List Frame),u.mode=.returning→u.defers=ds→
    Steps P (lone u cs w) (lone {u with defers:=[]} cs w₂):=by
  induction h with
  |nil w=>intro u cs hm hd;have:{u with defers:=[]}=u:=by cases u;simp_all
          rw[this];exact .refl _ _
  |cons ht hk _ ih=>
   intro u cs hm hd
   exact .head (step_collected (by rw[hm];simp) hd ht hk) (ih _ cs hm (by simp))
def pn (P:Program) (B:World) (f:Func) (R:Value→av→Prop) (j:Option Code) (a:Act) (w:World):Prop:=
  (j=none∨j=some .ret)∧∃w₂ v,ox P a.defers w w₂∧(results f a.tmps).run P w₂=.ok v w₂∧Is B w₂.heap w₂∧R v w₂.heap
def qt (args:List Value):Nat→Env:=fun k=>match args with
  |[]=>[]
  |v::vs=>(k,v)::qt vs (k+1)
theorem Mn (args:List Value):∀(k t:Nat) (v:Value),(qt args k).get t=some v→k≤t∧args[t-k]?=some v:=by
  induction args with
  |nil=>intro k t v h;simp[qt,Env.get] at h
  |cons u G ih=>
   intro k t v h
   by_cases D:k=t
   · subst D
     simp[qt,Env.get] at h
     simp[h]
   · have hb:Nat.beq k t=false:=qp D
     simp only[qt,Env.get,hb,cond_false] at h
     obtain⟨h1,h2⟩:=ih _ _ _ h
     refine⟨by omega,?_⟩
     rw[show t-k=(t-(k+1))+1 from by omega]
     simpa using h2
def bS (P:Program) (B:World) (fn:FuncId) (f:Func) (R:Value→av→Prop):fC:=
  {P,B,fn,n:=f.ntmps,code:=cJ f,ro:=none,Q:=pn P B f R}
theorem yz.ri {P:Program} {B:World} {fn:FuncId} {f:Func} {args:Array Value} {h:av} {R:Value→av→Prop} {e:Env}
    (hf:P.funcs[fn]?=some f) (hb:f.body.isSome=true) (hn:args.size≤f.ntmps) (he:qt args.toList 0=e)
    (h0:norm 1000 [.code (qs f)]=pt (cJ f) 0) (H:At (bS P B fn f R) [] 0 e h):yz P B fn args h R:=by
  intro w is cs
  obtain⟨c,hc⟩:=EW.1 hb
  have D:qs f=c:=by simp[qs,hc]
  let b:Frame:={(default:Frame) with fn:=fn,kind:=.normal}
  have G:Frame.enter P fn args .normal=b.atR {tmps:=args++Array.replicate (f.ntmps-args.size) undef,defers:=[]} [.code (qs f)]:=by
    have hro:b.roundOf=none:=rfl
    simp[Frame.enter,Frame.atR,hf,hc,D,b]
    rfl
  have I:iD e f.ntmps [] {tmps:=args++Array.replicate (f.ntmps-args.size) undef,defers:=[]}:=by
    refine⟨rfl,by simp;omega,fun t v ht=>?_⟩
    subst he
    obtain⟨_,h2⟩:=Mn _ _ _ _ ht
    simp only[Nat.sub_zero,q5] at h2
    have hlt:t<args.size:=(lK.1 h2).1
    simp only[A2,hlt,iA]
    exact h2
  have H:=H _ w I is
  have H:eg P none fn (pn P B f R) [.code (qs f)] {tmps:=args++Array.replicate (f.ntmps-args.size) undef,defers:=[]} w:=.norm 1000 (by rw[h0];exact H)
  obtain⟨j,k',u,w',⟨hj,w₂,v,J,hres,O,hR⟩,hl,st⟩:=H b cs rfl rfl rfl
  rw[←G] at st
  have U:∃todo,Steps P (lone (b.atR u k') cs w') (lone {b.atR u todo with mode:=.returning} cs w'):=by
    rcases hj with rfl|rfl
    · cases hl;exact⟨[],.one (stepR_end rfl)⟩
    · cases hl with
      |ret k=>exact⟨_,.one (stepR_ret rfl)⟩
  obtain⟨todo,V⟩:=U
  have X:=J.Mm {b.atR u todo with mode:=.returning} cs rfl rfl
  refine⟨.returned v,w₂,_,⟨v,rfl,O,hR⟩,Steps.trans st (Steps.trans V X),rfl,rfl,rfl,rfl,f,?_,?_⟩
  · exact hf
  · exact hres
def sO (e:Env):ResultVar→Option Value
  |.tmp t=>e.get t
  |.cell _ _=>none
def sP (f:Func) (e:Env):Option Value:=
  match f.results.toList.mapM (sO e) with
  |some [v]=>some v
  |some vs=>some (.tuple vs.toArray)
  |none=>none
theorem E1 {P:Program} {f:Func} {a:Act} {e:Env} {n:Nat} {ds:List Deferred} (ft:iD e n ds a) {v:Value} (hv:sP f e=some v) (w:World):
    (results f a.tmps).run P w=.ok v w:=by
  have key:∀(g:ResultVar→Sem Value),(∀t,g (.tmp t)=pure (a.tmps.getD t undef))→∀(l:List ResultVar) (vs:List Value),l.mapM (sO e)=some vs→(l.mapM g).run P w=.ok vs w:=by
    intro g hg l
    induction l with
    |nil=>intro vs h;simp at h;subst h;rfl
    |cons x l ih=>
     intro vs h
     rw[A3] at h
     cases x with
     |cell c t=>simp[sO] at h
     |tmp t=>
      cases ht:e.get t with
      |none=>simp[sO,ht] at h
      |some u=>
       cases hm:l.mapM (sO e) with
       |none=>simp[sO,ht,hm] at h
       |some G=>
        simp[sO,ht,hm] at h
        subst h
        have h1:=ft.get t u ht
        have h2:=ih G hm
        rw[A3]
        simp only[Sem.run_bind,hg,Sem.run_pure,Result.andThen_ok,h2]
        simp[h1]
  have D:∀(g:ResultVar→Sem Value) (vs:List Value),(f.results.toList.mapM g).run P w=.ok vs w→(f.results.mapM g).run P w=.ok vs.toArray w:=by
    intro g vs h
    rw[EX]
    simp only[Sem.run_map,h,Result.andThen_ok]
  unfold sP at hv
  unfold results
  rw[Sem.run_bind]
  split at hv
  · rename_i u hl
    simp only[eN] at hv
    subst hv
    exact(congrArg (fun r=>Result.andThen r _) (D _ _ (key _ (fun _=>rfl) _ _ hl))).trans rfl
  · rename_i vs hne hl
    simp only[eN] at hv
    subst hv
    have hsz:¬vs.toArray.size=1:=by
      intro h
      simp only[v7] at h
      obtain⟨x,hx⟩:=List.length_eq_one_iff.1 h
      exact hne x hx
    refine(congrArg (fun r=>Result.andThen r _) (D _ _ (key _ (fun _=>rfl) _ _ hl))).trans ?_
    simp only[Result.andThen_ok,hsz,dite_false]
    rfl
  · cases hv
theorem At.ret {P:Program} {B:World} {fn:FuncId} {f:Func} {R:Value→av→Prop} {i:Nat} {e:Env} {h:av} {v:Value}
    (hi:mZ (pt (cJ f) i)=true) (hv:sP f e=some v) (H:R v h):At (bS P B fn f R) [] i e h:=by
  intro a w ft is
  show eg P none fn (pn P B f R) (pt (cJ f) i) a w
  have hq:∀j,(j=none∨j=some .ret)→pn P B f R j a w:=fun j hj=>
    ⟨hj,w,v,by rw[ft.defers];exact .nil w,E1 ft hv w,is.again,by rw[is.heap];exact H⟩
  generalize pt (cJ f) i=k at *
  unfold mZ at hi
  split at hi
  · exact .qj .iN (hq _ (.inl rfl))
  · exact .qj (.ret _) (hq _ (.inr rfl))
  · cases hi
abbrev GH:=Nat→Option Obj
abbrev au:=List (Nat×Obj)
def bf (g:GH) (h:av):Prop:=∀b o,g b=some o→h[b]?=some o
def aG (g g':GH):Prop:=∀b o,g b=some o→g' b=some o
theorem aG.refl (g:GH):aG g g:=fun _ _ h=>h
theorem aG.trans {a b c:GH} (h:aG a b) (k:aG b c):aG a c:=fun x o hx=>k x o (h x o hx)
theorem bf.lt {g:GH} {h:av} (s:bf g h) {b:Nat} {o:Obj} (hb:g b=some o):b<h.size:=(lK.1 (s b o hb)).1
def aM (L:List au) (b:Nat):Prop:=∃p∈L.flatten,p.1=b
structure St (h0:av) (g0:GH) (S0:Nat→Prop) (g:GH) (L:List au) (h:av):Prop where
  size:h0.size≤h.size
  frame:∀b,b<h0.size→¬S0 b→h[b]?=h0[b]?
  le:aG g0 g
  new:∀b,g b≠none→g0 b≠none∨h0.size≤b∨S0 b
  sub:bf g h
  k9:∀p∈L.flatten,h[p.1]?=some p.2
  nodup:(L.flatten.map (·.1)).Nodup
  sep:∀p∈L.flatten,g p.1=none
  own:∀p∈L.flatten,h0.size≤p.1∨S0 p.1
section
variable {h0:av} {g0:GH} {S0:Nat→Prop} {g:GH} {L L':List au} {c:au} {h:av}
theorem St.init {g:GH} {h:av} (s:bf g h):St h g (aM []) g [] h:=
  ⟨iO _,fun _ _ _=>rfl,aG.refl _,fun _ hb=>.inl hb,s,fun _ hp=>by simp at hp,by simp,fun _ hp=>by simp at hp,fun _ hp=>by simp at hp⟩
theorem St.pq (hp:L.Perm L') (s:St h0 g0 S0 g L h):St h0 g0 S0 g L' h:=
  have hf:=hp.flatten
  ⟨s.size,s.frame,s.le,s.new,s.sub,fun p hm=>s.k9 p (hf.mem_iff.2 hm),(hf.map _).nodup_iff.1 s.nodup,fun p hm=>s.sep p (hf.mem_iff.2 hm),fun p hm=>s.own p (hf.mem_iff.2 hm)⟩
theorem St.aX (hf:L.flatten=L'.flatten) (s:St h0 g0 S0 g L h):St h0 g0 S0 g L' h:=
  ⟨s.size,s.frame,s.le,s.new,s.sub,fun p hm=>s.k9 p (hf▸hm),hf▸s.nodup,fun p hm=>s.sep p (hf▸hm),fun p hm=>s.own p (hf▸hm)⟩
theorem St.lt {p:Nat×Obj} (s:St h0 g0 S0 g L h) (hp:p∈L.flatten):p.1<h.size:=(lK.1 (s.k9 p hp)).1
theorem St.drop (s:St h0 g0 S0 g (c::L) h):St h0 g0 S0 g L h:=by
  refine⟨s.size,s.frame,s.le,s.new,s.sub,fun p hp=>s.k9 p ?_,?_,fun p hp=>s.sep p ?_,fun p hp=>s.own p ?_⟩
  · simp[cg];exact .inr (by simpa using hp)
  · have:=s.nodup
    rw[cg,gp,mF] at this
    exact this.2.1
  · simp[cg];exact .inr (by simpa using hp)
  · simp[cg];exact .inr (by simpa using hp)
theorem St.alloc (s:St h0 g0 S0 g L h) (o:Obj):St h0 g0 S0 g ([(h.size,o)]::L) (h.push o):=by
  have old:∀b,b<h.size→(h.push o)[b]?=h[b]?:=fun b hb=>by rw[yw,aB (by omega)]
  refine⟨by have:=s.size;simp;omega,fun b hb hs=>(old b (qm hb s.size)).trans (s.frame b hb hs),s.le,s.new,
    fun b x hb=>(old b (s.sub.lt hb)).trans (s.sub b x hb),?_,?_,?_,?_⟩
  · intro p hp
    rw[cg,cU] at hp
    rcases hp with hp|hp
    · simp at hp;subst hp;simp
    · rw[old _ (s.lt hp)];exact s.k9 p hp
  · rw[cg,gp,mF]
    refine⟨by simp,s.nodup,?_⟩
    intro x hx y hy
    simp only[e_,l5,gv] at hx
    obtain⟨p,hp,rfl⟩:=cF.1 hy
    have:=s.lt hp
    omega
  · intro p hp
    rw[cg,cU] at hp
    rcases hp with hp|hp
    · simp at hp;subst hp
      cases hg:g h.size with
      |none=>rfl
      |some x=>exact absurd (s.sub.lt hg) (by omega)
    · exact s.sep p hp
  · intro p hp
    rw[cg,cU] at hp
    rcases hp with hp|hp
    · simp at hp;subst hp;exact .inl s.size
    · exact s.own p hp
structure iP (h:av) (b:Nat) (o:Obj) (h':av):Prop where
  size:h'.size=h.size
  br:h'[b]?=some o
  other:∀k,k≠b→h'[k]?=h[k]?
theorem iP.modify {h:av} {b:Nat} {o:Obj} (f:Obj→Obj) (hb:h[b]?=some o):iP h b (f o) (h.modify b f):=
  ⟨by simp,by rw[yx,aL rfl,hb];rfl,fun k hk=>by rw[yx,aB (fun e=>hk e.symm)]⟩
theorem iP.set {h:av} {b:Nat} {o:Obj} (o':Obj) (hb:h[b]?=some o):iP h b o' (h.setIfInBounds b o'):=by
  have hlt:=(lK.1 hb).1
  exact⟨by simp,by simp[hlt],fun k hk=>by rw[AZ (fun e=>hk e.symm)]⟩
theorem iP.jd {h h':av} {b:Nat} {o:Obj} (u:iP h b o h') {r:av} {M:Nat→Prop} (hM:b<r.size→M b) (k:dK r M h):dK r M h':=
  ⟨by rw[u.size];exact k.size,fun x hx hm=>(u.other x fun e=>hm (e▸hM (e▸hx))).trans (k.same x hx hm)⟩
theorem St.mI {b:Nat} {o o':Obj} {h':av} (s:St h0 g0 S0 g ([(b,o)]::L) h) (u:iP h b o' h'):St h0 g0 S0 g ([(b,o')]::L) h':=by
  have D:((b,o):Nat×Obj)∈([(b,o)]::L).flatten:=by simp
  have hnot:∀p∈L.flatten,p.1≠b:=by
    have:=s.nodup
    rw[cg,gp,mF] at this
    intro p hp he
    exact this.2.2 b (by simp) p.1 (cF.2 ⟨p,hp,rfl⟩) he.symm
  refine⟨by rw[u.size];exact s.size,?_,s.le,s.new,?_,?_,by simpa[cg] using s.nodup,?_,?_⟩
  · intro x hx hs
    rcases s.own _ D with h1|h1
    · rw[u.other x (by have h2:h0.size≤b:=h1;omega)];exact s.frame x hx hs
    · rw[u.other x (fun e=>hs (e▸h1))];exact s.frame x hx hs
  · intro x y hx
    have hne:x≠b:=fun e=>by have:=s.sep _ D;simp only at this;rw[e,this] at hx;cases hx
    rw[u.other x hne];exact s.sub x y hx
  · intro p hp
    rw[cg,cU] at hp
    rcases hp with hp|hp
    · simp at hp;subst hp;exact u.br
    · rw[u.other _ (hnot p hp)];exact s.k9 p (by simp[cg];exact .inr (by simpa using hp))
  · intro p hp
    rw[cg,cU] at hp
    rcases hp with hp|hp
    · simp at hp;subst hp;exact s.sep (b,o) D
    · exact s.sep p (by simp[cg];exact .inr (by simpa using hp))
  · intro p hp
    rw[cg,cU] at hp
    rcases hp with hp|hp
    · simp at hp;subst hp;exact s.own (b,o) D
    · exact s.own p (by simp[cg];exact .inr (by simpa using hp))
def cQ (g:GH) (c:au):GH:=fun b=>match c.find? (fun p=>Nat.beq p.1 b) with
  |some p=>some p.2
  |none=>g b
theorem Mo {c:au} (hs:∀p∈c,g p.1=none):aG g (cQ g c):=by
  intro b o hb
  unfold cQ
  split
  · rename_i p hp
    have h1:=v_ hp
    have h2:=we hp
    have:p.1=b:=qi h2
    have h3:=hs p h1
    rw[this,hb] at h3
    cases h3
  · exact hb
theorem Mp {c:au} {b:Nat} (h1:∀p∈c,p.1≠b):cQ g c b=g b:=by
  unfold cQ
  split
  · rename_i p hp
    have h2:=we hp
    exact absurd (qi h2) (h1 p (v_ hp))
  · rfl
theorem iQ (b:Nat) (o:Obj):cQ g [(b,o)] b=some o:=by
  simp[cQ]
theorem St.freeze (s:St h0 g0 S0 g (c::L) h):St h0 g0 S0 (cQ g c) L h∧aG g (cQ g c):=by
  have hc:∀p∈c,p∈(c::L).flatten:=fun p hp=>by simp[cg,hp]
  have hle:aG g (cQ g c):=Mo fun p hp=>s.sep p (hc p hp)
  have hfind:∀b x,cQ g c b=some x→(∃p∈c,p.1=b∧p.2=x)∨g b=some x:=by
    intro b x hb
    unfold cQ at hb
    split at hb
    · rename_i p hp
      have h2:=we hp
      exact .inl ⟨p,v_ hp,qi h2,by simpa using hb⟩
    · exact .inr hb
  have u:∀p∈c,∀q∈L.flatten,p.1≠q.1:=by
    have:=s.nodup
    rw[cg,gp,mF] at this
    exact fun p hp q hq=>this.2.2 p.1 (cF.2 ⟨p,hp,rfl⟩) q.1 (cF.2 ⟨q,hq,rfl⟩)
  have d:=s.drop
  refine⟨⟨s.size,s.frame,s.le.trans hle,?_,?_,d.k9,d.nodup,?_,d.own⟩,hle⟩
  · intro b hb
    obtain⟨x,hx⟩:=EY.1 hb
    rcases hfind b x hx with ⟨p,hp,rfl,_⟩|h1
    · exact .inr (s.own p (hc p hp))
    · exact s.new b (by rw[h1];simp)
  · intro b x hx
    rcases hfind b x hx with ⟨p,hp,rfl,rfl⟩|h1
    · exact s.k9 p (hc p hp)
    · exact s.sub b x h1
  · intro q hq
    rw[Mp fun p hp=>u p hp q hq]
    exact d.sep q hq
theorem St.part {Lc:List au} (s:St h0 g0 S0 g (Lc++L) h):St h g (aM Lc) g Lc h:=by
  have hm:∀p∈Lc.flatten,p∈(Lc++L).flatten:=fun p hp=>by rw[mG];exact yy _ hp
  refine⟨iO _,fun _ _ _=>rfl,aG.refl _,fun _ hb=>.inl hb,s.sub,fun p hp=>s.k9 p (hm p hp),?_,fun p hp=>s.sep p (hm p hp),fun p hp=>.inr ⟨p,hp,rfl⟩⟩
  have:=s.nodup
  rw[mG,gp,mF] at this
  exact this.1
theorem St.join {Lc D:List au} {g':GH} {h':av} (s:St h0 g0 S0 g (Lc++L) h) (t:St h g (aM Lc) g' D h'):St h0 g0 S0 g' (D++L) h':=by
  have u:∀q∈L.flatten,¬aM Lc q.1:=by
    have:=s.nodup
    rw[mG,gp,mF] at this
    rintro q hq ⟨p,hp,he⟩
    exact this.2.2 p.1 (cF.2 ⟨p,hp,rfl⟩) q.1 (cF.2 ⟨q,hq,rfl⟩) he
  have hL:∀q∈L.flatten,q∈(Lc++L).flatten:=fun q hq=>by rw[mG];exact A4 _ hq
  have G:∀b,aM Lc b→h0.size≤b∨S0 b:=by
    rintro b ⟨p,hp,rfl⟩
    exact s.own p (by rw[mG];exact yy _ hp)
  have hold:∀q∈L.flatten,h'[q.1]?=h[q.1]?:=fun q hq=>t.frame q.1 (s.lt (hL q hq)) (u q hq)
  have I:∀b,h.size≤b∨aM Lc b→h0.size≤b∨S0 b:=fun b hb=>hb.elim (fun x=>.inl (cr s.size x)) (G b)
  refine⟨cr s.size t.size,?_,s.le.trans t.le,?_,t.sub,?_,?_,?_,?_⟩
  · intro b hb hs
    refine(t.frame b (qm hb s.size) fun hi=>?_).trans (s.frame b hb hs)
    rcases G b hi with h1|h1
    · omega
    · exact hs h1
  · intro b hb
    rcases t.new b hb with h1|h1
    · exact s.new b h1
    · exact .inr (I b h1)
  · intro p hp
    rw[mG,cU] at hp
    rcases hp with hp|hp
    · exact t.k9 p hp
    · rw[hold p hp];exact s.k9 p (hL p hp)
  · rw[mG,gp,mF]
    have hn:=s.nodup
    rw[mG,gp,mF] at hn
    refine⟨t.nodup,hn.2.1,?_⟩
    intro x hx y hy he
    obtain⟨p,hp,rfl⟩:=cF.1 hx
    obtain⟨q,hq,rfl⟩:=cF.1 hy
    rcases t.own p hp with h1|h1
    · have:=s.lt (hL q hq);omega
    · exact u q hq (he▸h1)
  · intro p hp
    rw[mG,cU] at hp
    rcases hp with hp|hp
    · exact t.sep p hp
    · cases hg:g' p.1 with
      |none=>rfl
      |some x=>
       exfalso
       rcases t.new p.1 (by rw[hg];simp) with h1|h1|h1
       · exact h1 (s.sep p (hL p hp))
       · have:=s.lt (hL p hp);omega
       · exact u p hp h1
  · intro p hp
    rw[mG,cU] at hp
    rcases hp with hp|hp
    · exact I _ (t.own p hp)
    · exact s.own p (hL p hp)
theorem St.jd {r:av} {M:Nat→Prop} (t:St h0 g0 S0 g L h) (hM:∀b,b<r.size→S0 b→M b) (k:dK r M h0):dK r M h:=
  k.trans ⟨t.size,t.frame⟩ hM
theorem gq (b:Nat):¬aM [] b:=fun⟨_,hp,_⟩=>by simp at hp
end
def hcell (h:av) (a:Addr):Option Value:=
  match h[a.block]? with
  |some (.cells c _ _)=>if a.spot.isSome then none else c[a.off]?
  |_=>none
theorem cell_of {w:World} {h:av} (hh:w.heap=h) (a:Addr):w.cell? a=hcell h a:=by subst hh;rfl
theorem oy {h:av} {b:Nat} {cs:Array Value} {T:TypeId} {fz:Nat×Nat} (hb:h[b]?=some (.cells cs T fz)) (o:Nat):hcell h ⟨b,o,none⟩=cs[o]?:=by
  simp[hcell,hb]
theorem k_ (b o n:Nat):(⟨b,o,none⟩:Addr).add n=⟨b,o+n,none⟩:=by unfold Addr.add;split<;>simp_all
section
variable {P:Program} {B:World} {h:av}
theorem Mq {w:World} {a:Addr} {v:Value} (hc:w.cell? a=some v):(load a).run P w=.ok v w:=by simp[hc]
theorem A9 {w:World} (a:Addr):∀(vs:List Value) (i:Nat) (acc:Array Value),(∀j v,vs[j]?=some v→w.cell? (a.add (i+j))=some v)→
    (loadCellsFrom a i vs.length acc).run P w=.ok (acc++vs.toArray) w:=by
  intro vs
  induction vs with
  |nil=>intro i acc _;simp[loadCellsFrom]
  |cons v vs ih=>
   intro i acc hc
   simp only[bL,loadCellsFrom,Sem.run_bind]
   rw[Mq (by simpa using hc 0 v rfl)]
   simp only[Result.andThen_ok]
   rw[ih (i+1) (acc.push v) fun j u hj=>by have:=hc (j+1) u (by simpa using hj);rwa[show i+1+j=i+(j+1) from by omega]]
   simp
def kC (P:Program) (T:TypeId):Option (Bool×Nat):=
  match P.underlying T,P.info? T with
  |some d,some i=>some (match d with|.struct _|.array _ _=>true|_=>false,i.size)
  |_,_=>none
theorem A_ {w:World} {T:TypeId} {n:Nat} (hT:kC P T=some (false,n)) {a:Addr} {v:Value} (hc:w.cell? a=some v):(loadVar T a).run P w=.ok v w:=by
  unfold kC at hT
  cases hu:P.underlying T with
  |none=>simp[hu] at hT
  |some d=>
   cases hi:P.info? T with
   |none=>simp[hu,hi] at hT
   |some i=>
    simp only[hu,hi,eN,iB] at hT
    unfold loadVar isAgg underlying
    simp only[Sem.run_bind,run_program,Result.andThen_ok,hu,Sem.run_pure]
    cases d<;>simp_all
theorem Ba {w:World} {T:TypeId} {n:Nat} (hT:kC P T=some (true,n)) {a:Addr} {vs:List Value} (hl:vs.length=n) (hc:∀j v,vs[j]?=some v→w.cell? (a.add j)=some v):
    (loadVar T a).run P w=.ok (.agg vs.toArray) w:=by
  unfold kC at hT
  cases hu:P.underlying T with
  |none=>simp[hu] at hT
  |some d=>
   cases hi:P.info? T with
   |none=>simp[hu,hi] at hT
   |some i=>
    simp only[hu,hi,eN,iB] at hT
    obtain⟨hd,hn⟩:=hT
    have u:=A9 (P:=P) a vs 0 #[] (fun j v hj=>by simpa using hc j v hj)
    rw[hl,←hn] at u
    unfold loadVar isAgg underlying sizeOf typeInfo loadCells
    cases d<;>simp_all
end
def c7 (C:fC) (i j:Nat) (e:Env):Option (Option Tmp×Go.Op):=(lM C i j e).map fun o=>(o.dst,o.op)
theorem gw {C:fC} {i j:Nat} {e:Env} {d:Option Tmp} {op:Go.Op} (h:c7 C i j e=some (d,op)):∃o,lM C i j e=some o∧o.dst=d∧o.op=op:=by
  obtain⟨o,h1,h2⟩:=q6.1 h
  simp only[iB] at h2
  exact⟨o,h1,h2.1,h2.2⟩
section
variable {h0:av} {g0:GH} {S0:Nat→Prop} {g:GH} {L L':List au} {h:av}
theorem E2:∀(k:Nat) (L:List au) (c:au),L[k]?=some c→(c::L.eraseIdx k).Perm L
  |0,x::L,c,h=>by simp at h;subst h;exact .refl _
  |k+1,x::L,c,h=>by
   simp only[List.getElem?_cons_succ] at h
   exact((List.Perm.swap x c (L.eraseIdx k))).trans ((E2 k L c h).cons x)
  |_,[],c,h=>by simp at h
theorem wq:∀(k:Nat) (L:List au) (c c':au),L[k]?=some c→(c'::L.eraseIdx k).Perm (L.set k c')
  |0,x::L,c,c',h=>by simp
  |k+1,x::L,c,c',h=>by
   simp only[List.getElem?_cons_succ] at h
   exact((List.Perm.swap x c' (L.eraseIdx k))).trans ((wq k L c c' h).cons x)
  |_,[],c,c',h=>by simp at h
theorem St.ag (s:St h0 g0 S0 g L h) (k:Nat) {b:Nat} {o:Obj} (hk:L[k]?=some [(b,o)]):h[b]?=some o:=
  s.k9 (b,o) (q7.2 ⟨_,cL hk,by simp⟩)
theorem St.sQ (s:St h0 g0 S0 g L h) (k:Nat) {c:au} (hk:L[k]?=some c):St h0 g0 S0 g (c::L.eraseIdx k) h:=s.pq (E2 k L c hk).symm
theorem St.uv (s:St h0 g0 S0 g L h) (k:Nat) {b:Nat} {o o':Obj} (hk:L[k]?=some [(b,o)]) {h':av} (u:iP h b o' h'):St h0 g0 S0 g (L.set k [(b,o')]) h':=
  ((s.sQ k hk).mI u).pq (wq k L _ _ hk)
end
section
variable {C:fC} {ds:List Deferred} {i j:Nat} {r:av} {M:Nat→Prop} {Ls:List (Nat×Bool)} {e:Env} {h:av}
variable {h0:av} {g0:GH} {S0:Nat→Prop} {g:GH} {L L':List au}
theorem dK.push {r:av} {M:Nat→Prop} {h:av} (o:Obj) (k:dK r M h):dK r M (h.push o):=
  ⟨by have:=k.size;simp;omega,fun b hb hm=>by rw[yw,aB (by have:=k.size;omega)];exact k.same b hb hm⟩
theorem Op.box {d:Nat} {T:TypeId} {x:Operand} {cs:Array Value} (ho:c7 C i j e=some (some d,.box T x)) (hc:(e.ev x).cells=cs) (s:St h0 g0 S0 g L h)
    (K:∀b h',St h0 g0 S0 g ([(b,.cells cs T (0,0))]::L) h'→Op C ds i r M Ls ((d,.pointer (some ⟨b,0,none⟩))::e) h'):Op C ds i r M ((j,false)::Ls) e h:=by
  obtain⟨o,h1,h2,h3⟩:=gw ho
  refine Op.run h1 (R:=fun u h'=>u=.value (.pointer (some ⟨h.size,0,none⟩))∧h'=h.push (.cells cs T (0,0))) ?_ ?_
  · intro w is
    refine⟨.value (.pointer (some ⟨h.size,0,none⟩)),{w with heap:=w.heap.push (.cells cs T (0,0))},?_,⟨rfl,is.os,is.tape,is.output⟩,rfl,by rw[←is.heap]⟩
    unfold fc execOp
    simp only[h3,Instr.box,newVar,newRow,Sem.run_bind,run_newObj,Result.andThen_ok,Sem.run_pure,hc,is.heap]
  · rintro _ _ ⟨rfl,rfl⟩
    refine⟨_,rfl,dK.push _,?_⟩
    rw[h2]
    exact K _ _ (s.alloc _)
theorem Op.load {d:Nat} {T:TypeId} {x:Operand} {b o n:Nat} {v:Value} (ho:c7 C i j e=some (some d,.load T x)) (hx:e.ev x=.pointer (some ⟨b,o,none⟩))
    (hT:kC C.P T=some (false,n)) {cs:Array Value} {u:TypeId} {fz:Nat×Nat} (hb:h[b]?=some (.cells cs u fz)) (hv:cs[o]?=some v)
    (K:Op C ds i r M Ls ((d,v)::e) h):Op C ds i r M ((j,false)::Ls) e h:=by
  obtain⟨o',h1,h2,h3⟩:=gw ho
  refine Op.take h1 (v:=v) (fun _=>by simp[mD,h3]) (fun w is hk hw=>?_) (by rw[h2];exact K)
  unfold fc execOp
  have hc:w.cell? ⟨b,o,none⟩=some v:=by rw[cell_of (hw rfl),oy hb,hv]
  simp only[h3,hx,Instr.loadAt,Instr.sureAddr,Sem.run_bind,Sem.run_pure,Result.andThen_ok,A_ hT hc]
theorem Op.fQ {d:Nat} {T:TypeId} {x:Operand} {b o n:Nat} {v:Value} (ho:c7 C i j e=some (some d,.load T x)) (hx:e.ev x=.pointer (some ⟨b,o,none⟩))
    (hT:kC C.P T=some (false,n)) {cs:Array Value} {u:TypeId} {fz:Nat×Nat} (hM:¬M b) (hb:r[b]?=some (.cells cs u fz)) (hv:cs[o]?=some v)
    (K:Op C ds i r M Ls ((d,v)::e) h):Op C ds i r M ((j,true)::Ls) e h:=by
  obtain⟨o',h1,h2,h3⟩:=gw ho
  refine Op.take h1 (v:=v) (fun _=>by simp[mD,h3]) (fun w is hk hw=>?_) (by rw[h2];exact K)
  unfold fc execOp
  have hb':=(hk.same b (lK.1 hb).1 hM).trans hb
  have hc:w.cell? ⟨b,o,none⟩=some v:=by rw[cell_of rfl,oy hb',hv]
  simp only[h3,hx,Instr.loadAt,Instr.sureAddr,Sem.run_bind,Sem.run_pure,Result.andThen_ok,A_ hT hc]
def cut (cs:Array Value) (o n:Nat):List Value:=(cs.toList.drop o).take n
theorem Bb {cs:Array Value} {o n:Nat} {vs:List Value} (hv:cut cs o n=vs) {h:av} {b:Nat} {u:TypeId} {fz:Nat×Nat} (hb:h[b]?=some (.cells cs u fz)) (k:Nat) (v:Value) (hk:vs[k]?=some v):
    hcell h (Addr.add ⟨b,o,none⟩ k)=some v:=by
  rw[k_,oy hb]
  subst hv
  unfold cut at hk
  rw[o7] at hk
  split at hk
  · simpa using hk
  · cases hk
theorem Op.Mr {d:Nat} {T:TypeId} {x:Operand} {b o n:Nat} {vs:List Value} (ho:c7 C i j e=some (some d,.load T x)) (hx:e.ev x=.pointer (some ⟨b,o,none⟩))
    (hT:kC C.P T=some (true,n)) {cs:Array Value} {u:TypeId} {fz:Nat×Nat} (hb:h[b]?=some (.cells cs u fz)) (hv:cut cs o n=vs) (hl:vs.length=n)
    (K:Op C ds i r M Ls ((d,.agg vs.toArray)::e) h):Op C ds i r M ((j,false)::Ls) e h:=by
  obtain⟨o',h1,h2,h3⟩:=gw ho
  refine Op.take h1 (v:=.agg vs.toArray) (fun _=>by simp[mD,h3]) (fun w is hk hw=>?_) (by rw[h2];exact K)
  unfold fc execOp
  simp only[h3,hx,Instr.loadAt,Instr.sureAddr,Sem.run_bind,Sem.run_pure,Result.andThen_ok,Ba hT hl fun k v hk=>by rw[cell_of (hw rfl)];exact Bb hv hb k v hk]
theorem Op.jg {d:Nat} {T:TypeId} {x:Operand} {b o n:Nat} {vs:List Value} (ho:c7 C i j e=some (some d,.load T x)) (hx:e.ev x=.pointer (some ⟨b,o,none⟩))
    (hT:kC C.P T=some (true,n)) {cs:Array Value} {u:TypeId} {fz:Nat×Nat} (hM:¬M b) (hb:r[b]?=some (.cells cs u fz)) (hv:cut cs o n=vs) (hl:vs.length=n)
    (K:Op C ds i r M Ls ((d,.agg vs.toArray)::e) h):Op C ds i r M ((j,true)::Ls) e h:=by
  obtain⟨o',h1,h2,h3⟩:=gw ho
  refine Op.take h1 (v:=.agg vs.toArray) (fun _=>by simp[mD,h3]) (fun w is hk hw=>?_) (by rw[h2];exact K)
  unfold fc execOp
  have hb':=(hk.same b (lK.1 hb).1 hM).trans hb
  simp only[h3,hx,Instr.loadAt,Instr.sureAddr,Sem.run_bind,Sem.run_pure,Result.andThen_ok,Ba hT hl fun k v hk=>by rw[cell_of rfl];exact Bb hv hb' k v hk]
end
def a_ (l:aj):ByteArray:=⟨l.toArray⟩
theorem toList_loop (s:ByteArray):∀(d i:Nat) (r:aj),s.size-i=d→ByteArray.toList.loop s i r=r.reverse++s.data.toList.drop i:=by
  have hsz:s.data.toList.length=s.size:=qn
  intro d
  induction d with
  |zero=>
   intro i r h
   unfold ByteArray.toList.loop
   rw[aB (by omega),mH (by omega)]
   simp
  |succ d ih=>
   intro i r h
   unfold ByteArray.toList.loop
   have hi:i<s.size:=by omega
   rw[aL hi,ih (i+1) _ (by omega)]
   have hi':i<s.data.toList.length:=by omega
   rw[uo hi']
   have:s.get! i=s.data.toList[i]:=by
     have hi2:i<s.data.size:=hi
     show s.data[i]! =_
     rw[getElem!_pos s.data i hi2]
     simp
   rw[this]
   simp
theorem toList_data (s:ByteArray):s.toList=s.data.toList:=by
  unfold ByteArray.toList
  rw[toList_loop s _ 0 [] rfl]
  simp
theorem toList_mkS (l:aj):(a_ l).toList=l:=by rw[toList_data];rfl
theorem E3 (s:ByteArray):a_ s.data.toList=s:=by cases s;rfl
theorem pz (l:aj):(a_ l).size=l.length:=by simp[a_,ByteArray.size]
theorem Ms (a b:aj):a_ a++a_ b=a_ (a++b):=by
  apply ByteArray.ext
  rw[ByteArray.data_append]
  simp[a_]
theorem E4 (l:aj) (a b:Nat):(a_ l).extract a b=a_ ((l.take b).drop a):=by
  apply ByteArray.ext
  rw[ByteArray.data_extract]
  simp[a_,q8]
theorem Mt {a b:aj} (h:a_ a=a_ b):a=b:=by
  have:=congrArg ByteArray.toList h
  rwa[toList_mkS,toList_mkS] at this
structure Kd (α:Type) where
  sz:Nat
  K:GH→α→List Value→Prop
  len:∀{g x cs},K g x cs→cs.length=sz
  one:∀{g x cs},K g x cs→∀v∈cs,v.oneCell'=true
  mono:∀{g g' x cs},aG g g'→K g x cs→K g' x cs
  zv:α
  zc:List Value
  zK:∀g,K g zv zc
def eF (k:IntKind):Kd Int where
  sz:=1
  K _ x cs:=cs=[.int k x]
  len h:=by subst h;rfl
  one h:=by subst h;simp[Value.oneCell']
  mono _ h:=h
  zv:=0
  zc:=[.int k 0]
  zK _:=rfl
def bn:Kd UInt8 where
  sz:=1
  K _ x cs:=cs=[.int .u8 x.toNat]
  len h:=by subst h;rfl
  one h:=by subst h;simp[Value.oneCell']
  mono _ h:=h
  zv:=0
  zc:=[.int .u8 0]
  zK _:=rfl
def Mw:Kd Bool where
  sz:=1
  K _ x cs:=cs=[.bool x]
  len h:=by subst h;rfl
  one h:=by subst h;simp[Value.oneCell']
  mono _ h:=h
  zv:=false
  zc:=[.bool false]
  zK _:=rfl
def ew:Kd aj where
  sz:=1
  K _ x cs:=cs=[.string (a_ x)]
  len h:=by subst h;rfl
  one h:=by subst h;simp[Value.oneCell']
  mono _ h:=h
  zv:=[]
  zc:=[.string (a_ [])]
  zK _:=rfl
def Reads {α:Type} (d:Kd α) (g:GH):List α→List Value→Prop
  |[],cs=>cs=[]
  |x::xs,cs=>∃c cs',cs=c++cs'∧d.K g x c∧Reads d g xs cs'
section
variable {α:Type} {d:Kd α} {g g':GH}
theorem Reads.len:∀{xs:List α} {cs:List Value},Reads d g xs cs→cs.length=xs.length*d.sz
  |[],_,h=>by simp only[Reads] at h;subst h;simp
  |_::xs,_,h=>by
   obtain⟨c,cs',rfl,hk,h⟩:=h
   rw[b_,d.len hk,h.len,bL,kZ]
   omega
theorem Reads.one:∀{xs:List α} {cs:List Value},Reads d g xs cs→∀v∈cs,v.oneCell'=true
  |[],_,h,v,hv=>by simp only[Reads] at h;subst h;simp at hv
  |_::xs,_,h,v,hv=>by
   obtain⟨c,cs',rfl,hk,h⟩:=h
   rcases cU.1 hv with hv|hv
   · exact d.one hk v hv
   · exact h.one v hv
theorem Reads.mono (hg:aG g g'):∀{xs:List α} {cs:List Value},Reads d g xs cs→Reads d g' xs cs
  |[],_,h=>h
  |_::_,_,⟨c,cs',e,hk,h⟩=>⟨c,cs',e,d.mono hg hk,h.mono hg⟩
theorem Reads.append:∀{xs ys:List α} {cs cs':List Value},Reads d g xs cs→Reads d g ys cs'→Reads d g (xs++ys) (cs++cs')
  |[],_,_,_,h,k=>by simp only[Reads] at h;subst h;exact k
  |_::_,_,_,_,⟨c,u,e,hk,h⟩,k=>⟨c,u++_,by rw[e,cI],hk,h.append k⟩
theorem Reads.Mx {x:α} {c:List Value} (hk:d.K g x c):Reads d g [x] c:=⟨c,[],by simp,hk,rfl⟩
theorem Reads.nil:Reads d g [] []:=rfl
theorem My {c cs':List Value} {n:Nat}:(c++cs').take (c.length+n)=c++cs'.take n:=by rw[List.take_append,eR (by omega),A5]
theorem Mz {c cs':List Value} {n:Nat}:(c++cs').drop (c.length+n)=cs'.drop n:=by rw[uq,mH (by omega),A5,dY]
theorem Reads.iF:∀(k:Nat) {xs:List α} {cs:List Value},Reads d g xs cs→k≤xs.length→Reads d g (xs.take k) (cs.take (k*d.sz))∧Reads d g (xs.drop k) (cs.drop (k*d.sz))
  |0,_,_,h,_=>by simpa[Reads] using h
  |k+1,[],_,_,hk=>by simp at hk
  |k+1,x::xs,cs,h,hk=>by
   obtain⟨c,cs',rfl,hx,h⟩:=h
   have hl:=d.len hx
   obtain⟨h1,h2⟩:=h.iF k (by simpa using hk)
   rw[show(k+1)*d.sz=c.length+k*d.sz from by rw[hl,kZ];omega]
   rw[My,Mz]
   exact⟨⟨c,_,rfl,hx,h1⟩,h2⟩
theorem Reads.br {xs:List α} {cs:List Value} (h:Reads d g xs cs) (i:Nat) {x:α} (hi:xs[i]?=some x):d.K g x ((cs.drop (i*d.sz)).take d.sz):=by
  have hlt:i<xs.length:=(dL.1 hi).1
  have h2:=(h.iF i (by omega)).2
  have hd:xs.drop i=x::xs.drop (i+1):=by
    rw[uo hlt]
    have:=(dL.1 hi).2
    rw[this]
  rw[hd] at h2
  obtain⟨c,cs',e,hk,_⟩:=h2
  rw[e,wg (d.len hk)]
  exact hk
end
def ig {α:Type} (h:av) (g:GH) (T:TypeId) (d:Kd α) (v:Value) (xs:List α):Prop:=
  ∃ao c,v=.slice ao xs.length c∧xs.length≤c∧(xs≠[]→∃(b o:Nat) (cur:Array Value) (fz:TypeId×Nat×Nat),ao=some ⟨b,o,none⟩∧h[b]?=some (.cells cur fz.1 fz.2)∧Reads d g xs (cut cur o (xs.length*d.sz)))
def ay {α:Type} (g:GH) (T:TypeId) (d:Kd α) (v:Value) (xs:List α):Prop:=
  ∃ao c,v=.slice ao xs.length c∧xs.length≤c∧(xs≠[]→∃(b o:Nat) (cur:Array Value) (fz:TypeId×Nat×Nat),ao=some ⟨b,o,none⟩∧g b=some (.cells cur fz.1 fz.2)∧Reads d g xs (cut cur o (xs.length*d.sz)))
def jC {α:Type} (T:TypeId) (d:Kd α):Kd (List α) where
  sz:=1
  K g xs cs:=∃v,cs=[v]∧ay g T d v xs
  len h:=by obtain⟨v,rfl,_⟩:=h;rfl
  one h:=by obtain⟨v,rfl,ao,c,rfl,_⟩:=h;simp[Value.oneCell']
  mono hg h:=by
    obtain⟨v,e,ao,c,e2,hc,h⟩:=h
    exact⟨v,e,ao,c,e2,hc,fun hx=>let ⟨b,o,cur,fz,e3,hb,hr⟩:=h hx;⟨b,o,cur,fz,e3,hg _ _ hb,hr.mono hg⟩⟩
  zv:=[]
  zc:=[.slice none 0 0]
  zK _:=⟨_,rfl,none,0,rfl,gO _,fun h=>absurd rfl h⟩
section
variable {α:Type} {d:Kd α} {g g':GH} {h h':av} {T:TypeId} {v:Value} {xs:List α}
theorem ay.mono (hs:ay g T d v xs) (hg:aG g g'):ay g' T d v xs:=by
  obtain⟨ao,c,e2,hc,h⟩:=hs
  exact⟨ao,c,e2,hc,fun hx=>let ⟨b,o,cur,fz,e3,hb,hr⟩:=h hx;⟨b,o,cur,fz,e3,hg _ _ hb,hr.mono hg⟩⟩
theorem ay.toH (hs:ay g T d v xs) (sub:bf g h):ig h g T d v xs:=by
  obtain⟨ao,c,e2,hc,H⟩:=hs
  exact⟨ao,c,e2,hc,fun hx=>let ⟨b,o,cur,fz,e3,hb,hr⟩:=H hx;⟨b,o,cur,fz,e3,sub _ _ hb,hr⟩⟩
theorem ay.ai (hs:ay g T d v xs):∃ao c,v=.slice ao xs.length c:=let ⟨ao,c,e,_⟩:=hs;⟨ao,c,e⟩
theorem ay.nil (g:GH) (T:TypeId) (d:Kd α):ay g T d (.slice none 0 0) []:=⟨none,0,rfl,gO _,fun h=>absurd rfl h⟩
theorem ay.empty (g:GH) (T:TypeId) (d:Kd α) (ao:Option Addr) (c:Nat):ay g T d (.slice ao 0 c) []:=⟨ao,c,rfl,gO _,fun h=>absurd rfl h⟩
theorem sR (cur:Array Value) (o n k m:Nat) (h:k+m≤n):((cut cur o n).drop k).take m=cut cur (o+k) m:=by
  unfold cut
  rw[q8,qo,o8,jB (by omega)]
theorem ig.br {ao:Option Addr} {n c:Nat} (hs:ig h g T d (.slice ao n c) xs) (i:Nat) {x:α} (hi:xs[i]?=some x):
    ∃(b o:Nat) (cur:Array Value) (fz:TypeId×Nat×Nat),ao=some ⟨b,o,none⟩∧h[b]?=some (.cells cur fz.1 fz.2)∧d.K g x (cut cur (o+i*d.sz) d.sz):=by
  obtain⟨u,c',e,hc,H⟩:=hs
  simp only[Value.slice.injEq] at e
  obtain⟨rfl,rfl,rfl⟩:=e
  have hlt:i<xs.length:=(dL.1 hi).1
  obtain⟨b,o,cur,fz,e,hb,hr⟩:=H (by intro hx;subst hx;simp at hlt)
  refine⟨b,o,cur,fz,e,hb,?_⟩
  have:=hr.br i hi
  rwa[sR] at this
  have:(i+1)*d.sz≤xs.length*d.sz:=iC _ hlt
  rw[kZ] at this
  exact this
end
def aF {α:Type} (T:TypeId) (d:Kd α) (g:GH) (v:Value) (xs:List α) (c:au):Prop:=
  (∃ao,v=.slice ao 0 0∧xs=[]∧c=[])∨
  ∃(b o cap:Nat) (cur:Array Value) (rest:List α),v=.slice (some ⟨b,o,none⟩) xs.length cap∧c=[(b,.cells cur T (0,0))]∧xs.length+rest.length=cap∧cap≤maxLen∧o+cap*d.sz≤cur.size∧Reads d g (xs++rest) (cut cur o (cap*d.sz))
section
variable {α:Type} {d:Kd α} {g g':GH} {h h':av} {T:TypeId} {v:Value} {xs:List α} {c:au}
theorem aF.nil (T:TypeId) (d:Kd α) (g:GH):aF T d g (.slice none 0 0) [] []:=.inl ⟨none,rfl,rfl,rfl⟩
theorem aF.zero (T:TypeId) (d:Kd α) (g:GH) (ao:Option Addr):aF T d g (.slice ao 0 0) [] []:=.inl ⟨ao,rfl,rfl,rfl⟩
theorem yD {rest:List α} {cur:Array Value} {o cap:Nat} (hl:xs.length+rest.length=cap) (h:Reads d g (xs++rest) (cut cur o (cap*d.sz))):Reads d g xs (cut cur o (xs.length*d.sz)):=by
  have h1:=(h.iF xs.length (by simp)).1
  rw[wg rfl] at h1
  have:(cut cur o (cap*d.sz)).take (xs.length*d.sz)=cut cur o (xs.length*d.sz):=by
    unfold cut
    rw[qo,jB (iC _ (by omega))]
  rwa[this] at h1
theorem aF.old (hr:aF T d g v xs c):(∃ao,v=.slice ao 0 0∧xs=[]∧c=[])∨
    ∃(b o cap:Nat) (cur:Array Value),v=.slice (some ⟨b,o,none⟩) xs.length cap∧c=[(b,.cells cur T (0,0))]∧xs.length≤cap∧cap≤maxLen∧o+cap*d.sz≤cur.size∧Reads d g xs (cut cur o (xs.length*d.sz)):=by
  rcases hr with h|⟨b,o,cap,cur,rest,e1,e2,h1,h2,h3,h4⟩
  · exact .inl h
  · exact .inr ⟨b,o,cap,cur,e1,e2,by omega,h2,h3,yD h1 h4⟩
theorem aF.lit {b o cap:Nat} {cur:Array Value} (hl:Nat.beq xs.length cap=true) (h2:cap≤maxLen) (h3:Nat.ble (o+cap*d.sz) cur.size=true) (h4:Reads d g xs (cut cur o (cap*d.sz))):
    aF T d g (.slice (some ⟨b,o,none⟩) cap cap) xs [(b,.cells cur T (0,0))]:=by
  have hl:=qi hl
  exact .inr ⟨b,o,cap,cur,[],by rw[hl],rfl,by simpa using hl,h2,jb h3,by rw[dh];exact h4⟩
theorem aF.mono (hr:aF T d g v xs c) (hg:aG g g'):aF T d g' v xs c:=by
  rcases hr with h|⟨b,o,cap,cur,rest,e1,e2,h1,h2,h3,h4⟩
  · exact .inl h
  · exact .inr ⟨b,o,cap,cur,rest,e1,e2,h1,h2,h3,h4.mono hg⟩
theorem aF.ai (hr:aF T d g v xs c):∃ao cap,v=.slice ao xs.length cap:=by
  rcases hr with ⟨ao,rfl,rfl,_⟩|⟨b,o,cap,cur,rest,e1,_⟩
  · exact⟨ao,0,rfl⟩
  · exact⟨_,_,e1⟩
theorem aF.toH {h0:av} {g0:GH} {S0:Nat→Prop} {L:List au} (hr:aF T d g v xs c) (s:St h0 g0 S0 g L h) (k:Nat) (hk:L[k]?=some c):ig h g T d v xs:=by
  rcases hr.old with ⟨ao,rfl,rfl,_⟩|⟨b,o,cap,cur,rfl,rfl,h1,h2,h3,h4⟩
  · exact⟨ao,0,rfl,gO _,fun h=>absurd rfl h⟩
  · exact⟨_,cap,rfl,h1,fun _=>⟨b,o,cur,(T,0,0),rfl,s.ag k hk,h4⟩⟩
theorem aF.freeze {h0:av} {g0:GH} {S0:Nat→Prop} {L:List au} (hr:aF T d g v xs c) (s:St h0 g0 S0 g (c::L) h):
    ∃g',St h0 g0 S0 g' L h∧aG g g'∧ay g' T d v xs:=by
  obtain⟨u,hle⟩:=s.freeze
  refine⟨_,u,hle,?_⟩
  rcases hr.old with ⟨ao,rfl,rfl,_⟩|⟨b,o,cap,cur,rfl,rfl,h1,h2,h3,h4⟩
  · exact ay.empty _ _ _ _ _
  · exact⟨_,cap,rfl,h1,fun _=>⟨b,o,cur,(T,0,0),rfl,iQ _ _,h4.mono hle⟩⟩
end
end Go.Proofs.YtpacclkciilmpaaGreatDoor.Sw
