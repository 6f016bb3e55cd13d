/- Lemmas for laws of this seat. -/
import Derived.RangeFuncIn
import Derived.OrdersHeld
import Derived.KernelRfl
set_option maxHeartbeats 4000000
namespace Go.Proofs.YtpacclkciilmpaaGreatDoor.Sw
set_option linter.unusedVariables false
set_option linter.unusedSimpArgs false
set_option linter.deprecated false
open Go
set_option linter.defProp false
abbrev aj:=List UInt8
def aL:=@if_pos
def aB:=@if_neg
def iA:=@if_true
def bO:=@Bool.and_eq_true
def ie:=@Bool.or_eq_true
def qi:=@Nat.eq_of_beq_eq_true
def uj:=@Nat.mod_lt
def cL:=@List.mem_of_getElem?
def oo:=@Nat.lt_or_ge
def ER:=@Array.getElem?_eq_none
def ES:=@Array.setIfInBounds_comm
def ET:=@Nat.ble_eq_true_of_le
def cr:=@Nat.le_trans
def jb:=@Nat.le_of_ble_eq_true
def gZ:=@Bool.not_eq_true'
def AW:=@Bool.true_eq_false
def jc:=@Bool.eq_false_iff
def kz:=@beq_iff_eq
def uk:=@List.cons.injEq
def iB:=@Prod.mk.injEq
inductive sK:Option Code→List Item→Prop
  |iN:sK none []
  |ret (k:List Item):sK (some .ret) (.code .ret::k)
  |exit (id:Nat) (k:List Item) (h:exitTo id k=none):sK (some (.exit id)) (.code (.exit id)::k)
def eg (P:Program) (ro:Option Nat) (fn:FuncId) (Q:Option Code→Act→World→Prop) (k:List Item) (a:Act) (w:World):Prop:=
  ∀(b:Frame) (cs:List Frame),b.fn=fn→b.roundOf=ro→b.kind=.normal→
   ∃j k' u w',Q j u w'∧sK j k'∧Steps P (lone (b.atR a k) cs w) (lone (b.atR u k') cs w')
section
variable {P:Program} {ro:Option Nat} {fn:FuncId} {Q:Option Code→Act→World→Prop} {k:List Item} {a:Act} {w:World}
theorem eg.step {k₁:List Item} {u:Act} {w₁:World}
    (hs:∀(b:Frame) (cs:List Frame),b.fn=fn→b.roundOf=ro→step P (lone (b.atR a k) cs w)=.next (lone (b.atR u k₁) cs w₁))
    (h:eg P ro fn Q k₁ u w₁):eg P ro fn Q k a w:=by
  intro b cs hf hr hk
  obtain⟨j,k',D,w',hq,hl,st⟩:=h b cs hf hr hk
  exact⟨j,k',D,w',hq,hl,.head (hs b cs hf hr) st⟩
theorem eg.qj {j:Option Code} (hl:sK j k) (hq:Q j a w):eg P ro fn Q k a w:=
  fun _ _ _ _ _=>⟨j,k,a,w,hq,hl,.refl _ _⟩
def norm:Nat→List Item→List Item
  |0,k=>k
  |n+1,.code .skip::k=>norm n k
  |n+1,.code (.label _)::k=>norm n k
  |n+1,.inBlock _::k=>norm n k
  |n+1,.inScope _::k=>norm n k
  |n+1,.code (.scope body)::k=>norm n (.code body::.inScope body::k)
  |n+1,.code (.seq a b)::k=>norm n (.code a::.code b::k)
  |n+1,.code (.block id body)::k=>norm n (.code body::.inBlock id::k)
  |n+1,.code (.loop body)::k=>norm n (.code body::.inLoop body::k)
  |n+1,.inLoop body::k=>norm n (.code body::.inLoop body::k)
  |n+1,.code (.exit id)::k=>match exitTo id k with
   |some k'=>norm n k'
   |none=>.code (.exit id)::k
  |_+1,k=>k
theorem Md {b:Frame} {c:Code} {cs:List Frame}:step P (lone (b.atR a (.code (.scope c)::k)) cs w)=.next (lone (b.atR a (.code c::.inScope c::k)) cs w):=
  step_lone_go (by simp[stepG,stepG.exec,Frame.atR])
theorem Me {b:Frame} {c:Code} {cs:List Frame}:step P (lone (b.atR a (.inScope c::k)) cs w)=.next (lone (b.atR a k) cs w):=
  step_lone_go (by simp[stepG,stepG.exec,Frame.atR])
theorem eg.norm (n:Nat):∀{k:List Item},eg P ro fn Q (norm n k) a w→eg P ro fn Q k a w:=by
  induction n with
  |zero=>exact fun h=>h
  |succ n ih=>
   intro k h
   cases k with
   |nil=>exact h
   |cons x k=>
    cases x with
    |code c=>
     cases c with
     |skip=>exact .step (fun _ _ _ _=>stepR_skip) (ih (k:=k) h)
     |label l=>exact .step (fun _ _ _ _=>stepR_label) (ih (k:=k) h)
     |seq x y=>exact .step (fun _ _ _ _=>stepR_seq) (ih (k:=.code x::.code y::k) h)
     |block id c=>exact .step (fun _ _ _ _=>stepR_block) (ih (k:=.code c::.inBlock id::k) h)
     |scope c=>exact .step (fun _ _ _ _=>Md) (ih (k:=.code c::.inScope c::k) h)
     |loop c=>exact .step (fun _ _ _ _=>stepR_loop) (ih (k:=.code c::.inLoop c::k) h)
     |exit id=>
      cases hx:exitTo id k with
      |none=>simp only[Sw.norm,hx] at h;exact h
      |some k'=>simp only[Sw.norm,hx] at h;exact .step (fun _ _ _ _=>stepR_exit hx) (ih h)
     |_=>exact h
    |inBlock id=>exact .step (fun _ _ _ _=>stepR_inBlock) (ih (k:=k) h)
    |inScope c=>exact .step (fun _ _ _ _=>Me) (ih (k:=k) h)
    |inLoop c=>exact .step (fun _ _ _ _=>stepR_inLoop) (ih (k:=.code c::.inLoop c::k) h)
    |_=>exact h
theorem eg.cond {c:Operand} {x y:Code} {t:Bool} (hc:a.eval c=.bool t) (h:eg P ro fn Q (.code (if t then x else y)::k) a w):
    eg P ro fn Q (.code (.cond c x y)::k) a w:=.step (fun _ _ _ _=>stepR_cond hc) h
end
def oq (P:Program) (l:Nat) (f:FuncId) (tmps:Array Value) (assign body:Code) (w:World) (R:Value→World→Prop):Prop:=
  ∀(c:Frame) (cs:List Frame),∃v w',R v w'∧Steps P (lone (Frame.round l f tmps assign body .normal) (c::cs) w) (lone (c.finish v) cs w')
theorem oq.mono {P:Program} {l:Nat} {f:FuncId} {tmps:Array Value} {assign body:Code} {w:World} {R R':Value→World→Prop}
    (h:oq P l f tmps assign body w R) (hr:∀v w',R v w'→R' v w'):oq P l f tmps assign body w R':=
  fun c cs=>let ⟨v,w',r,s⟩:=h c cs;⟨v,w',hr _ _ r,s⟩
def Oper.res (P:Program) (o:Oper) (a:Act) (K:Act→World→Prop):Result Next→Prop
  |.ok (.value v) w'=>K (a.put o.dst v) w'
  |.ok .skip w'=>K (a.put o.dst undef) w'
  |.ok (.enter f args) w'=>Calls P f args w' fun e u=>∃v,e=.returned v∧K (a.put o.dst v) u
  |.ok (.row row args) w'=>Rows P row args w' fun v u=>K (a.put o.dst v) u
  |.ok (.round l f tmps assign body) w'=>oq P l f tmps assign body w' fun v u=>K (a.put o.dst v) u
  |_=>False
def o5 (o:Oper):Bool:=match o.op with|.defer _=>false|.select ..=>false|_=>true
theorem ym {o:Oper} (h:o5 o=true):(∀c,o.op≠.defer c)∧∀cs b,o.op≠.select cs b:=by
  refine⟨fun c hc=>?_,fun c b hc=>?_⟩<;>simp[o5,hc] at h
def jq (P:Program) (ops:Array Oper) (i:Nat) (K:Act→World→Prop) (a:Act) (w:World):Prop:=
  ∃o,ops[i]?=some o∧o5 o=true∧
   if Region.wanted o (yielded ops a.tmps)=true then Oper.res P o a K ((execOp a.eval o).run P w) else K (a.put o.dst undef) w
section
variable {P:Program} {ops:Array Oper} {i:Nat} {K K':Act→World→Prop} {a:Act} {w:World}
theorem EU {o:Oper} (h:∀a w,K a w→K' a w) {r:Result Next} (hh:Oper.res P o a K r):Oper.res P o a K' r:=by
  cases r with
  |ok n w'=>
   cases n<;>simp only[Oper.res] at hh ⊢<;>
     first
       |exact h _ _ hh
       |exact Calls.mono hh (fun e u ⟨v,he,hk⟩=>⟨v,he,h _ _ hk⟩)
       |exact Rows.mono hh (fun _ _ he=>h _ _ he)
       |exact oq.mono hh (fun _ _ he=>h _ _ he)
  |halt x w'=>simp only[Oper.res] at hh
theorem mC (h:∀a w,K a w→K' a w) (hh:jq P ops i K a w):jq P ops i K' a w:=by
  obtain⟨o,ho,hd,hh⟩:=hh
  refine⟨o,ho,hd,?_⟩
  split
  · rename_i hw;rw[aL hw] at hh;exact EU h hh
  · rename_i hw;rw[aB hw] at hh;exact h _ _ hh
theorem eg.op {ro:Option Nat} {fn:FuncId} {Q:Option Code→Act→World→Prop} {k:List Item} {rest:List Nat}
    (h:jq P ops i (fun a w=>eg P ro fn Q (.inRegion ops rest::k) a w) a w):eg P ro fn Q (.inRegion ops (i::rest)::k) a w:=by
  intro b cs hf hr hk
  obtain⟨o,ho,hd,hh⟩:=h
  by_cases hw:Region.wanted o (yielded ops a.tmps)=true
  · rw[aL hw] at hh
    have hg:=stepGR_op (P:=P) (b:=b) (k:=k) (cs:=cs) (w:=w) (rest:=rest) ho hw
    rw[hr,Oper.semAt_eq ro a.eval o (ym hd).1] at hg
    have G:∀v,(b.atR a (.inRegion ops (i::rest)::k)).finish v=b.atR (a.put o.dst v) (.inRegion ops rest::k):=by
      intro v;rw[Frame.finish_atR,ho];rfl
    generalize hres:(execOp a.eval o).run P w=r at hh
    cases r with
    |halt x w'=>exact hh.elim
    |ok n w'=>
     cases n with
     |value v=>
      obtain⟨j,k',u,D,hq,hl,st⟩:=hh b cs hf hr hk
      refine⟨j,k',u,D,hq,hl,.head (step_lone_go ?_) st⟩
      rw[hg,←G];simp[stepG.apply,hres]
     |skip=>
      obtain⟨j,k',u,D,hq,hl,st⟩:=hh b cs hf hr hk
      refine⟨j,k',u,D,hq,hl,.head (step_lone_go ?_) st⟩
      rw[hg,←G];simp[stepG.apply,hres]
     |enter f args=>
      obtain⟨e,D,U,⟨v,rfl,hK⟩,I,_,O⟩:=hh (b.atR a (.inRegion ops (i::rest)::k)::cs)
      obtain⟨j,k',u,J,hq,hl,st⟩:=hK b cs hf hr hk
      refine⟨j,k',u,J,hq,hl,.head ?_ (Steps.trans I (.head ?_ st))⟩
      · refine step_lone_go ?_
        rw[hg];simp[stepG.apply,hres,Frame.atR]
      · rw[←G];exact step_leave_returned O
     |row row args=>
      obtain⟨v,D,hK,I⟩:=hh (b.atR a (.inRegion ops (i::rest)::k)) cs
      obtain⟨j,k',u,J,hq,hl,st⟩:=hK b cs hf hr hk
      refine⟨j,k',u,J,hq,hl,.head ?_ (Steps.trans I (by rw[G];exact st))⟩
      · refine step_lone_go ?_
        rw[hg];simp[stepG.apply,hres,Frame.atR]
     |round l f tmps assign body=>
      obtain⟨v,D,hK,I⟩:=hh (b.atR a (.inRegion ops (i::rest)::k)) cs
      obtain⟨j,k',u,J,hq,hl,st⟩:=hK b cs hf hr hk
      refine⟨j,k',u,J,hq,hl,.head ?_ (Steps.trans I (by rw[G];exact st))⟩
      · refine step_lone_go ?_
        rw[hg];simp[stepG.apply,hres,Frame.atR]
     |_=>exact hh.elim
  · rw[aB hw] at hh
    obtain⟨j,k',u,D,hq,hl,st⟩:=hh b cs hf hr hk
    have hs:=stepR_op_skip (P:=P) (b:=b) (a:=a) (k:=k) (cs:=cs) (w:=w) (ops:=ops) (i:=i) (rest:=rest)
      (by simp[ho];simpa using hw)
    simp only[ho,Option.bind_some] at hs
    exact⟨j,k',u,D,hq,hl,.head hs st⟩
def qk (P:Program) (ops:Array Oper):List Nat→(Act→World→Prop)→Act→World→Prop
  |[],K,a,w=>K a w
  |i::rest,K,a,w=>jq P ops i (qk P ops rest K) a w
theorem eg.AX {ro:Option Nat} {fn:FuncId} {Q:Option Code→Act→World→Prop} {k:List Item}:∀{l:List Nat} {a:Act} {w:World},
    qk P ops l (fun a w=>eg P ro fn Q k a w) a w→eg P ro fn Q (.inRegion ops l::k) a w
  |[],_,_,h=>.step (fun _ _ _ _=>stepR_region_end) h
  |_::_,_,_,h=>.op (mC (fun _ _ h'=>eg.AX h') h)
theorem eg.region {ro:Option Nat} {fn:FuncId} {Q:Option Code→Act→World→Prop} {k:List Item} {id:Nat}
    (h:qk P ops (List.range ops.size) (fun a w=>eg P ro fn Q k a w) a w):eg P ro fn Q (.code (.region id ops false)::k) a w:=
  .step (fun _ _ _ _=>stepR_region) (.AX h)
theorem eg.nG {ro:Option Nat} {fn:FuncId} {Q:Option Code→Act→World→Prop} {k:List Item} {id:Nat} (hm:P.follows .mixedOrders=true)
    (h:∀t,qk P ops (Region.linearise .any ops t) (fun a w=>eg P ro fn Q k a w) a {w with drawn:=w.drawn+1}):eg P ro fn Q (.code (.region id ops true)::k) a w:=by
  intro b cs hf hr hk
  have h1:=eg.AX (h (w.tape w.drawn (.order b.fn id)))
  obtain⟨j,k',u,D,hq,hl,st⟩:=h1 b cs hf hr hk
  refine⟨j,k',u,D,hq,hl,.head stepR_region_draw ?_⟩
  simp only[Region.schedule,hm,Bool.true_or,iA]
  exact st
end
def mD (o:Oper):Bool:=match o.op with|.load ..=>true|.lookup ..=>true|.convert ..=>true|_=>false
def depOn (ops:Array Oper):Nat→Nat→Nat→Bool
  |0,_,_=>false
  |n+1,k,i=>match ops[k]? with
   |some o=>o.after.any fun e=>Region.binds .any e&&(Nat.beq e.on i||depOn ops n e.on i)
   |none=>false
def qY (ops:Array Oper) (listed:Array Bool):Prop:=∀k o,ops[k]?=some o→listed.getD k false=true→∀e∈o.after,Region.binds .any e=true→listed.getD e.on false=true
theorem lZ {ops:Array Oper} {listed:Array Bool} {j:Nat} (hc:qY ops listed) (hj:j∈Region.ready .any ops listed):qY ops (listed.setIfInBounds j true):=by
  intro k o ho hk e he hb
  by_cases hjk:j=k
  · subst hjk
    obtain⟨_,o',u,hall⟩:=mem_ready.1 hj
    rw[ho] at u
    cases u
    exact getD_set_true (hall e he hb)
  · rw[getD_set_ne false hjk] at hk
    exact getD_set_true (hc k o ho hk e he hb)
theorem Mf {ops:Array Oper} {listed:Array Bool} (hc:qY ops listed) {i:Nat}:∀(n k:Nat) (o:Oper),ops[k]?=some o→(∀e∈o.after,Region.binds .any e=true→listed.getD e.on false=true)→depOn ops n k i=true→
    listed.getD i false=true:=by
  intro n
  induction n with
  |zero=>intro k o _ _ h;simp[depOn] at h
  |succ n ih=>
   intro k o ho hall h
   simp only[depOn,ho] at h
   rw[Array.any_eq_true'] at h
   obtain⟨e,he,h⟩:=h
   simp only[bO,ie] at h
   obtain⟨hb,h⟩:=h
   have h1:=hall e he hb
   rcases h with h|h
   · rw[←qi h];exact h1
   · cases hk:ops[e.on]? with
     |none=>cases n<;>simp[depOn,hk] at h
     |some o'=>exact ih e.on o' hk (fun e' u hb'=>hc e.on o' hk h1 e' u hb') h
section
variable {P:Program} {ops:Array Oper} {S S2:World→Prop} {K:Act→World→Prop} {kb:Nat}
def ot (P:Program) (ops:Array Oper) (kb:Nat) (S:World→Prop) (K:Act→World→Prop):Nat→Array Bool→Act→World→Prop
  |0,listed,a,w=>Region.ready .any ops listed=[]∧K a w
  |bD+1,listed,a,w=>
   (Region.ready .any ops listed=[]→K a w)∧
   ∀i∈Region.ready .any ops listed,jq P ops i (fun u w'=>((listed.setIfInBounds i true).getD kb false=false→S w')∧ot P ops kb S K bD (listed.setIfInBounds i true) u w') a w
theorem yo:∀(bD t:Nat) (listed:Array Bool) (a:Act) (w:World),ot P ops kb S K bD listed a w→
    qk P ops (Region.linearise.go .any ops bD t listed []) K a w:=by
  intro bD
  induction bD with
  |zero=>intro t listed a w h;simpa[Region.linearise.go,qk] using h.2
  |succ bD ih=>
   intro t listed a w h
   obtain⟨u,D⟩:=h
   simp only[Region.linearise.go]
   change qk P ops (match (Region.ready .any ops listed)[t % (Region.ready .any ops listed).length]? with
     |some i=>Region.linearise.go .any ops bD (t / (Region.ready .any ops listed).length) (listed.setIfInBounds i true) [i]
     |none=>[].reverse) K a w
   cases hi:(Region.ready .any ops listed)[t % (Region.ready .any ops listed).length]? with
   |none=>
    have G:Region.ready .any ops listed=[]:=by
      cases hr:Region.ready .any ops listed with
      |nil=>rfl
      |cons x xs=>
       rw[hr] at hi
       have hlt:t % (x::xs).length<(x::xs).length:=uj _ (by simp)
       simp at hi
       simp at hlt
       omega
    simpa[qk] using u G
   |some i=>
    simp only[]
    rw[linearise_go_acc,List.reverse_singleton,List.singleton_append]
    exact mC (fun a w h'=>ih _ _ a w h'.2) (D i (cL hi))
theorem Mg {oi oj:Oper} {v:Value} (h2:∀d,oi.dst=some d→oj.dst≠some d) {a:Act} {r:Result Next} {I:Act→Prop}
    (jd:∀u,I (a.put oj.dst u))
    (h:Oper.res P oj (a.put oi.dst v) K r):Oper.res P oj a (fun D w'=>I D∧K (D.put oi.dst v) w') r:=by
  cases r with
  |ok n w'=>
   cases n<;>simp only[Oper.res] at h ⊢
   case value u=>exact⟨jd u,by rw[←Act.put_comm a v u h2];exact h⟩
   case skip=>exact⟨jd _,by rw[←Act.put_comm a v undef h2];exact h⟩
   case enter f args=>exact Calls.mono h fun e G ⟨u,he,hk⟩=>⟨u,he,jd u,by rw[←Act.put_comm a v u h2];exact hk⟩
   case row row args=>exact Rows.mono h fun u G hk=>⟨jd u,by rw[←Act.put_comm a v u h2];exact hk⟩
   case round l f tmps assign body=>exact oq.mono h fun u G hk=>⟨jd u,by rw[←Act.put_comm a v u h2];exact hk⟩
  |halt x w'=>simp only[Oper.res] at h
theorem Mh {j:Nat} {oi oj:Oper} {v:Value} (hj:ops[j]?=some oj) (G:oi.apart ops oj=true)
    (I:∀cs b,oi.op≠.select cs b) {a:Act} {w:World}
    (hy:YieldsIf P ops S oi v a) (h:jq P ops j K (a.put oi.dst v) w):
    jq P ops j (fun D w'=>YieldsIf P ops S oi v D∧K (D.put oi.dst v) w') a w:=by
  obtain⟨h1,h2,h3⟩:=Oper.apart_spec G
  obtain⟨o,ho,hd,h⟩:=h
  rw[hj] at ho
  cases ho
  have hsj:=(ym hd).2
  have jd:∀u,YieldsIf P ops S oi v (a.put oj.dst u):=fun u=>
    hy.of_same (execOp_put oi I a oj.dst u h3) (wanted_put oi a oj.dst u h3)
  refine⟨oj,hj,hd,?_⟩
  rw[wanted_put oj a oi.dst v h1] at h
  split
  · rename_i hw
    rw[aL hw,execOp_put oj hsj a oi.dst v h1] at h
    exact Mg h2 jd h
  · rename_i hw
    rw[aB hw] at h
    exact⟨jd _,by rw[←Act.put_comm a v undef h2];exact h⟩
theorem YieldsIf.jq {i:Nat} {o:Oper} {v:Value} {a:Act} (hi:ops[i]?=some o) (hd:o5 o=true) (hy:YieldsIf P ops S o v a)
    {w:World} (hS:S w) (h:K (a.put o.dst v) w):jq P ops i K a w:=by
  refine⟨o,hi,hd,?_⟩
  rcases hy with ⟨hw,hv⟩|⟨hw,rfl⟩
  · rw[aL hw,hv w hS];exact h
  · rw[aB (by simp[hw])];exact h
theorem qZ {S':World→Prop} {i:Nat} {oi:Oper} {v:Value} (hi:ops[i]?=some oi) (D:o5 oi=true) (hik:i≠kb)
    (X:(∀w,S' w)∨((∀w,S w→S' w)∧∀ok,ops[kb]?=some ok→∃n,depOn ops n kb i=true)):
    ∀(bD:Nat) (listed:Array Bool) (a:Act) (w:World),qY ops listed→((∀w,S' w)∨listed.getD kb false=false)→
     (∀j oj,ops[j]?=some oj→j≠i→listed.getD j true=false→(∀e∈oj.after,Region.binds .any e=true→e.on≠i)→oi.apart ops oj=true)→
     i∈Region.ready .any ops listed→YieldsIf P ops S' oi v a→S' w→(listed.getD kb false=false→S w)→
     ot P ops kb S K bD (listed.setIfInBounds i true) (a.put oi.dst v) w→ot P ops kb S K (bD+1) listed a w:=by
  intro bD
  induction bD with
  |zero=>
   intro listed a w hcl I _ hr hy hS G H
   refine⟨fun h=>(by rw[h] at hr;cases hr),fun j hj=>?_⟩
   by_cases hji:j=i
   · subst hji;exact YieldsIf.jq hi D hy hS ⟨fun hb=>G (by rw[←getD_set_ne false hik];exact hb),H⟩
   · have:=ready_mono hj hji
     rw[H.1] at this
     cases this
  |succ bD ih=>
   intro listed a w hcl I J hr hy hS G H
   refine⟨fun h=>(by rw[h] at hr;cases hr),fun j hj=>?_⟩
   by_cases hji:j=i
   · subst hji;exact YieldsIf.jq hi D hy hS ⟨fun hb=>G (by rw[←getD_set_ne false hik];exact hb),H⟩
   · have h1:=H.2 j (ready_mono hj hji)
     obtain⟨O,oj,u,hall⟩:=mem_ready.1 hj
     have U:listed.getD i false=false:=by
       have h0:=(mem_ready.1 hr).1
       rcases oo i listed.size with h'|h'
       · simp[h'] at h0 ⊢;exact h0
       · simp[ER h']
     have hnot:∀e∈oj.after,Region.binds .any e=true→e.on≠i:=fun e he hb heq=>by
       have h1:=hall e he hb
       rw[heq,U] at h1
       cases h1
     have h2:=Mh u (J j oj u hji O hnot) (ym D).2 hy h1
     have Y:∀k ok,ops[k]?=some ok→k≠i→(listed.setIfInBounds j true).getD k true=false→
         (∀e∈ok.after,Region.binds .any e=true→e.on≠i)→oi.apart ops ok=true:=fun k ok hk Z V hno=>by
       refine J k ok hk Z ?_ hno
       by_cases hjk:j=k
       · subst hjk;exact O
       · rw[getD_set_ne true hjk] at V;exact V
     have ab:((listed.setIfInBounds i true).setIfInBounds j true).getD kb false=(listed.setIfInBounds j true).getD kb false:=by
       rw[ES _ _ (Ne.symm hji),getD_set_ne false hik]
     refine mC (fun ad w' h3=>?_) h2
     obtain⟨ae,h3,h4⟩:=h3
     rw[ab] at h3
     have hno:(∀w,S' w)∨((listed.setIfInBounds j true).getD kb false=false∧∀w,S w→S' w):=by
       rcases I with h|h
       · exact .inl h
       · rcases X with h'|⟨h',am⟩
         · exact .inl h'
         · by_cases hjk:j=kb
           · exfalso
             subst hjk
             obtain⟨n,hn⟩:=am oj u
             have:=Mf hcl n j oj u hall hn
             rw[U] at this
             cases this
           · exact .inr ⟨by rw[getD_set_ne false hjk];exact h,h'⟩
     have ar:S' w':=by
       rcases hno with h|⟨h,h'⟩
       · exact h w'
       · exact h' w' (h3 h)
     refine⟨h3,ih (listed.setIfInBounds j true) ad w' (lZ hcl hj) (hno.imp id (·.1)) Y (ready_mono hr (Ne.symm hji)) ae ar h3 ?_⟩
     rw[ES _ _ hji]
     exact h4
def Mv:=(World→Prop)→Act→World→Prop
def Mv.top:List Mv→Mv
  |[]=>fun _ _ _=>False
  |x::_=>x
def Mv.je:List Mv→List Mv
  |[]=>[]
  |_::l=>l
def gG (P:Program) (ops:Array Oper) (S2:World→Prop) (i:Nat) (u:Mv):Mv:=fun S a w=>
  if Nat.ble 1000 i=true then (if Nat.ble 2000 i=true then ∃S',u S' a w else u S2 a w) else jq P ops i (fun D w'=>S w'∧u S D w') a w
def um (P:Program) (ops:Array Oper) (i:Nat) (u:Mv):Mv:=fun S a w=>
  ∃o v,ops[i]?=some o∧o5 o=true∧YieldsIf P ops (if mD o=true then S else fun _=>True) o v a∧S w∧u S (a.put o.dst v) w
def dW (P:Program) (ops:Array Oper) (S2:World→Prop) (K:Act→World→Prop):List (Nat×Bool)→List Mv
  |[]=>[fun _=>K]
  |(i,true)::L=>um P ops i (Mv.top (dW P ops S2 K L))::Mv.je (dW P ops S2 K L)
  |(i,false)::L=>bif Nat.ble 3000 i then (bif Nat.ble 4000 i then (fun _=>K)::dW P ops S2 K L else
     (fun S a w=>Mv.top (dW P ops S2 K L) S a w∧Mv.top (Mv.je (dW P ops S2 K L)) S a w)::Mv.je (Mv.je (dW P ops S2 K L)))
   else gG P ops S2 i (Mv.top (dW P ops S2 K L))::Mv.je (dW P ops S2 K L)
def kY (P:Program) (ops:Array Oper) (S2:World→Prop) (S:World→Prop) (L:List (Nat×Bool)) (K:Act→World→Prop) (a:Act) (w:World):Prop:=Mv.top (dW P ops S2 K L) S a w
theorem vY {P:Program} {ops:Array Oper} {S2 S:World→Prop} {i:Nat} {L:List (Nat×Bool)} {K:Act→World→Prop} {a:Act} {w:World} (h:Nat.ble 3000 i=false):
    kY P ops S2 S ((i,false)::L) K a w=if Nat.ble 1000 i=true then (if Nat.ble 2000 i=true then ∃S',kY P ops S2 S' L K a w else kY P ops S2 S2 L K a w) else jq P ops i (fun u w'=>S w'∧kY P ops S2 S L K u w') a w:=by
  show Mv.top (bif Nat.ble 3000 i then _ else _) S a w=_
  rw[h]
  rfl
theorem AY {i m n:Nat} (h:Nat.ble m i=false) (hmn:m≤n):Nat.ble n i=false:=by
  cases hb:Nat.ble n i with
  |false=>rfl
  |true=>rw[ET (cr hmn (jb hb))] at h;cases h
theorem vZ {P:Program} {ops:Array Oper} {S2 S:World→Prop} {i:Nat} {L:List (Nat×Bool)} {K:Act→World→Prop} {a:Act} {w:World} (h:Nat.ble 1000 i=false):
    kY P ops S2 S ((i,false)::L) K a w=jq P ops i (fun u w'=>S w'∧kY P ops S2 S L K u w') a w:=by
  rw[vY (AY h (by decide)),h]
  rfl
def o6:List (Nat×Bool)→Nat
  |[]=>1000000
  |(i,false)::L=>bif Nat.ble 1000 i then (bif Nat.ble 2000 i then 1000000 else i-1000) else o6 L
  |(_,true)::L=>o6 L
def ql (ops:Array Oper) (i:Nat):Bool:=match ops[i]? with
  |some o=>mD o
  |none=>true
def mE (ops:Array Oper):Nat→Bool→List (Nat×Bool)→Array Bool→Bool
  |_,_,[],listed=>(Region.ready .any ops listed).isEmpty
  |kb,z,(i,true)::L,listed=>Region.free .any ops listed i&&(Region.ready .any ops listed).contains i&&!(Nat.beq i kb)&&(!(ql ops i)||(!z&&((ops[kb]?).isNone||depOn ops 10 kb i)))&&mE ops kb z L (listed.setIfInBounds i true)
  |kb,z,(i,false)::L,listed=>bif Nat.ble 1000 i then (bif Nat.ble 2000 i then !(Nat.ble 3000 i)&&(z&&(listed.getD kb false&&(!(listed.getD (o6 L) false)&&mE ops (o6 L) false L listed))) else !z&&(Nat.beq i (1000+kb)&&(match L with|(k,false)::_=>Nat.beq k kb&&!(Nat.ble 1000 k)|_=>false)&&mE ops kb true L listed))
   else ((Region.ready .any ops listed==[i])&&(z||!(Nat.beq i kb))&&mE ops kb z L (listed.setIfInBounds i true))
def gH:List (Nat×Bool)→Nat
  |[]=>0
  |(i,true)::L=>gH L+1
  |(i,false)::L=>bif Nat.ble 1000 i then gH L else gH L+1
theorem EV {listed:Array Bool} {a:Act} {w:World} (hr:Region.ready .any ops listed=[]) (h:K a w):∀bD,ot P ops kb S K bD listed a w
  |0=>⟨hr,h⟩
  |_+1=>⟨fun _=>h,by rw[hr];simp⟩
theorem Mi {u:Nat} {S':World→Prop}:∀(bD:Nat) (listed:Array Bool) (a:Act) (w:World),listed.getD kb false=true→ot P ops u S' K bD listed a w→ot P ops kb S K bD listed a w:=by
  intro bD
  induction bD with
  |zero=>exact fun _ _ _ _ h=>h
  |succ bD ih=>
   intro listed a w hk h
   exact⟨h.1,fun i hi=>mC (fun D w' h'=>⟨fun hc=>(by rw[getD_set_true hk] at hc;cases hc),ih _ D w' (getD_set_true hk) h'.2⟩) (h.2 i hi)⟩
theorem yp:∀(L:List (Nat×Bool)) (kb:Nat) (S:World→Prop) (z:Bool) (T:World→Prop) (listed:Array Bool) (a:Act) (w:World) (bD:Nat),gH L≤bD→qY ops listed→mE ops kb z L listed=true→
    (z=false→T=S∧listed.getD kb false=false)→(z=true→listed.getD kb false=true∨∃L',L=(kb,false)::L'∧Nat.ble 1000 kb=false)→
    kY P ops S2 T L K a w→ot P ops kb S K bD listed a w:=by
  intro L
  induction L with
  |nil=>
   intro kb S z T listed a w bD _ _ hok _ _ h
   exact EV (by simpa[mE,List.isEmpty_iff] using hok) h bD
  |cons p L ih=>
   obtain⟨i,b⟩:=p
   intro kb S z T listed a w bD hf hcl hok hz1 J h
   cases b with
   |true=>
    obtain⟨bD,rfl⟩:∃m,bD=m+1:=⟨bD-1,by simp[gH] at hf;omega⟩
    have u:gH L≤bD:=by simp[gH] at hf;omega
    obtain⟨o,v,hi,hd,hy,hS,h⟩:=h
    simp only[mE,bO,gZ,ie] at hok
    obtain⟨⟨⟨⟨h1,h2⟩,h3⟩,h4⟩,h5⟩:=hok
    have hik:i≠kb:=fun e=>by subst e;simp at h3
    have h2:i∈Region.ready .any ops listed:=by simpa using h2
    have O:z=true→listed.getD kb false=true:=fun hz=>by
      rcases J hz with h|⟨L',h,_⟩
      · exact h
      · simp at h
    have U:=ih kb S z T (listed.setIfInBounds i true) (a.put o.dst v) w bD u (lZ hcl h2) h5
      (fun hz=>⟨(hz1 hz).1,by rw[getD_set_ne false hik];exact(hz1 hz).2⟩) (fun hz=>.inl (by rw[getD_set_ne false hik];exact O hz)) h
    have V:listed.getD kb false=false→S w:=fun hk=>by
      cases z with
      |true=>rw[O rfl] at hk;cases hk
      |false=>rw[←(hz1 rfl).1];exact hS
    cases hn:mD o with
    |false=>
     rw[hn] at hy
     exact qZ (S':=fun _=>True) hi hd hik (.inl fun _=>trivial) bD listed a w hcl (.inl fun _=>trivial) (Region.free_spec hi h1) h2 (by simpa using hy) trivial V U
    |true=>
     rw[hn,aL rfl] at hy
     have hne:ql ops i=true:=by simp[ql,hi,hn]
     rw[hne] at h4
     simp only[AW,false_or] at h4
     obtain⟨hz,h4⟩:=h4
     subst hz
     obtain⟨rfl,D⟩:=hz1 rfl
     refine qZ (S':=T) hi hd hik (.inr ⟨fun _ h=>h,fun ok hok=>?_⟩) bD listed a w hcl (.inr D) (Region.free_spec hi h1) h2 hy hS V U
     rcases h4 with h4|h4
     · rw[hok] at h4;simp at h4
     · exact⟨10,h4⟩
   |false=>
    by_cases hb:Nat.ble 1000 i=true
    · by_cases G:Nat.ble 2000 i=true
      · simp only[mE,hb,G,cond_true,bO,gZ] at hok
        obtain⟨Z,hz,h1,h2,h3⟩:=hok
        rw[vY Z,aL hb,aL G] at h
        obtain⟨S',h⟩:=h
        have u:gH L≤bD:=by simpa[gH,hb] using hf
        exact Mi bD listed a w h1 (ih (o6 L) S' false S' listed a w bD u hcl h3 (fun _=>⟨rfl,h2⟩) (fun hz=>by cases hz) h)
      have X:Nat.ble 2000 i=false:=jc.2 G
      rw[vY (AY X (by decide)),aL hb,aB G] at h
      simp only[mE,hb,X,cond_true,cond_false,bO,gZ] at hok
      obtain⟨hz,⟨h1,h2⟩,h3⟩:=hok
      subst hz
      obtain⟨rfl,D⟩:=hz1 rfl
      have u:gH L≤bD:=by simpa[gH,hb] using hf
      refine ih kb _ true S2 listed a w bD u hcl h3 (fun hz=>by cases hz) (fun _=>.inr ?_) h
      have hi:=qi h1
      cases L with
      |nil=>cases h2
      |cons p L'=>
       obtain⟨k,b⟩:=p
       cases b with
       |true=>cases h2
       |false=>
        simp only[bO,gZ] at h2
        obtain rfl:=qi h2.1
        exact⟨L',rfl,h2.2⟩
    · have hb':Nat.ble 1000 i=false:=jc.2 hb
      rw[vZ hb'] at h
      obtain⟨bD,rfl⟩:∃m,bD=m+1:=⟨bD-1,by simp[gH,hb'] at hf;omega⟩
      have u:gH L≤bD:=by simp[gH,hb'] at hf;omega
      simp only[mE,hb',cond_false,bO,kz] at hok
      obtain⟨⟨h1,h2⟩,h3⟩:=hok
      refine⟨fun h0=>(by rw[h0] at h1;cases h1),?_⟩
      have I:i∈Region.ready .any ops listed:=by rw[h1];simp
      rw[h1]
      intro j hj
      obtain rfl:j=i:=by simpa using hj
      have hlt:j<listed.size:=by
        have h0:=(mem_ready.1 I).1
        rcases oo j listed.size with h'|h'
        · exact h'
        · simp[ER h'] at h0
      have ab:(listed.setIfInBounds j true).getD j false=true:=by simp[hlt]
      refine mC (fun Y w' h'=>?_) h
      cases z with
      |false=>
       obtain⟨rfl,D⟩:=hz1 rfl
       have hjk:j≠kb:=fun e=>by subst e;simp at h2
       exact⟨fun _=>h'.1,ih kb _ false T _ Y w' bD u (lZ hcl I) h3 (fun _=>⟨rfl,by rw[getD_set_ne false hjk];exact D⟩) (fun hz=>by cases hz) h'.2⟩
      |true=>
       have hp:(listed.setIfInBounds j true).getD kb false=true:=by
         rcases J rfl with h|⟨L',h,_⟩
         · exact getD_set_true h
         · simp only[uk,iB] at h
           obtain rfl:=h.1.1
           exact ab
       exact⟨fun hc=>(by rw[hp] at hc;cases hc),ih kb S true T _ Y w' bD u (lZ hcl I) h3 (fun hz=>by cases hz) (fun _=>.inl hp) h'.2⟩
theorem yq {i:Nat} {L:List (Nat×Bool)} {a:Act} {w:World} (hj:Nat.ble 1000 i=false) (h:jq P ops i (fun u w'=>S w'∧kY P ops S2 S L K u w') a w):kY P ops S2 S ((i,false)::L) K a w:=by
  rw[vZ hj]
  exact h
theorem Mj:∀(L:List (Nat×Bool)) (S:World→Prop) (a:Act) (w:World),(∀p∈L,Nat.ble 1000 p.1=false)→(∀w,S w→True)→kY P ops S2 S L K a w→qk P ops (L.map (·.1)) K a w:=by
  intro L
  induction L with
  |nil=>exact fun _ _ _ _ _ h=>h
  |cons p L ih=>
   obtain⟨i,b⟩:=p
   intro S a w hp hs h
   have u:∀p∈L,Nat.ble 1000 p.1=false:=fun p hm=>hp p (List.mem_cons_of_mem _ hm)
   cases b with
   |true=>
    obtain⟨o,v,hi,hd,hy,hS,h⟩:=h
    refine YieldsIf.jq (S:=fun w=>S w) hi hd ?_ hS (ih S _ _ u hs h)
    cases hn:mD o with
    |false=>rw[hn] at hy;exact hy.imp (fun⟨h1,h2⟩=>⟨h1,fun w _=>h2 w trivial⟩) (fun x=>x)
    |true=>rw[hn,aL rfl] at hy;exact hy
   |false=>
    have hb:Nat.ble 1000 i=false:=hp (i,false) (by simp)
    rw[vZ hb] at h
    exact mC (fun D w' h'=>ih S _ _ u hs h'.2) h
end
end Go.Proofs.YtpacclkciilmpaaGreatDoor.Sw
