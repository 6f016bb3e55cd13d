/- Lemmas for laws of this seat. -/
import Derived.Test.YtceekbnihfckeaaGreatDoorQBH
import Derived.RangeFuncRecord
namespace Go.Proofs.YtceekbnihfckeaaGreatDoor.Sw
set_option linter.unusedVariables false
set_option linter.unusedSimpArgs false
set_option linter.deprecated false
open Go
set_option linter.defProp false
def j5:=@List.all_cons
def nr:=@List.foldl_cons
structure p_ (e:Env) (n:Nat) (tmps:Array Value):Prop where
  size:tmps.size=n
  get:∀t v,e.get t=some v→tmps[t]?=some v
theorem jw.toT {e:Env} {n:Nat} {ds:List Deferred} {a:Act} (f:jw e n ds a):p_ e n a.tmps:=⟨f.size,f.get⟩
theorem p_.put {e:Env} {n:Nat} {tmps:Array Value} (f:p_ e n tmps) {d:Nat} (hd:d<n) (v:Value):p_ ((d,v)::e) n (tmps.setIfInBounds d v):=by
  refine⟨by simp[f.size],fun t u h=>?_⟩
  by_cases hdt:d=t
  · subst hdt
    simp[Env.get] at h
    subst h
    simp[f.size,hd]
  · have hb:Nat.beq d t=false:=sS hdt
    simp only[Env.get,hb,cond_false] at h
    simp only[C1 hdt]
    exact f.get t u h
def xF:List Nat→List Value→Env→Env
  |t::ts,v::vs,e=>xF ts vs ((t,v)::e)
  |_,_,e=>e
theorem p_.zip {n:Nat}:∀(ps:List Nat) (vs:List Value) {e:Env} {tmps:Array Value},p_ e n tmps→ps.all (fun t=>Nat.blt t n)=true→
    p_ (xF ps vs e) n ((ps.zip vs).foldl (fun tmps (p:Nat×Value)=>tmps.setIfInBounds p.1 p.2) tmps)
  |[],_,_,_,f,_=>by simpa[xF] using f
  |_::_,[],_,_,f,_=>by simpa[xF] using f
  |t::ts,v::vs,_,_,f,h=>by
   simp only[j5,b_] at h
   simp only[xF,List.zip_cons_cons,nr]
   exact p_.zip ts vs (f.put (kV h.1) v) h.2
def dR (q:Loop) (j:Option Code):Loop:={q with state:=if j.isNone then .ready else .done,pending:=j}
def zF (q:Loop):Loop:={q with state:=.busy,pending:=none}
def Dt (q:Loop) (j:Option Code):Loop:={q with state:=.exhausted,pending:=j}
def Du:List Item→Option Operand
  |.code (.rangeFunc x _ _ _)::_=>some x
  |_=>none
def v_:List Item→Array Tmp
  |.code (.rangeFunc _ ps _ _)::_=>ps
  |_=>#[]
def we:List Item→Code
  |.code (.rangeFunc _ _ c _)::_=>c
  |_=>.skip
def wg:List Item→Code
  |.code (.rangeFunc _ _ _ u)::_=>u
  |_=>.skip
def eC (fn:FuncId) (tmps:Array Value) (k:List Item) (r:Nat):Loop:=
  {state:=.ready,pending:=none,fn,tmps,params:=v_ k,assign:=we k,body:=wg k,defers:=r}
def Ni (P:Program) (B:World) (l:Nat) (args:Array Value) (h:ax) (R:Value→ax→Prop):Prop:=
  ∀w,Is B h w→∃f tmps D G w',(Instr.yield l args).run P w=.ok (.round l f tmps D G) w'∧pW P l f tmps D G w' (fun v u=>Is B u.heap u∧R v u.heap)
def uD (P:Program) (B:World) (l:Nat) (args:Array Value) (h:ax) (g:GH) (Lc:List ay) (D:Value→GH→List ay→Prop):Prop:=
  Ni P B l args h fun v h'=>∃g' u,St h g (aV Lc) g' u h'∧D v g' u
def Dv (P:Program) (B:World) (l:Nat) (R:Value→ax→Prop) (j:Option Code) (a:Act) (w:World):Prop:=
  ∃v w',(Instr.endRound l j).run P w=.ok v w'∧Is B w'.heap w'∧R v w'.heap
def GD (P:Program) (B:World) (fn:FuncId) (n l:Nat) (k:List Item) (R:Value→ax→Prop):fP:=
  {P,B,fn,n,code:=.round (we k) (wg k),ro:=some l,Q:=Dv P B l R}
theorem pW.Nj {P:Program} {B:World} {l:Nat} {fn:FuncId} {tmps:Array Value} {u D:Code} {w:World} {R:Value→ax→Prop}
    (H:eY P (some l) fn (Dv P B l R) [.code u,.beginRound,.code D] {tmps:=tmps,defers:=[]} w):pW P l fn tmps u D w (fun v w'=>Is B w'.heap w'∧R v w'.heap):=by
  intro c cs
  let b:Frame:={(default:Frame) with fn:=fn,kind:=.normal,roundOf:=some l}
  have hb0:Frame.round l fn tmps u D .normal=b.atR {tmps:=tmps,defers:=[]} [.code u,.beginRound,.code D]:=by
    simp[Frame.round,Frame.atR,b]
  obtain⟨j,k',J,w',⟨v,G,I,is,hR⟩,hl,st⟩:=H b (c::cs) rfl rfl rfl
  rw[←hb0] at st
  cases hl with
  |j9=>exact⟨v,G,⟨is,hR⟩,Steps.trans st (.one (stepR_round_end rfl rfl I))⟩
  |ret k=>exact⟨v,G,⟨is,hR⟩,Steps.trans st (.one (stepR_round_ret rfl rfl I))⟩
  |exit id k hx=>exact⟨v,G,⟨is,hR⟩,Steps.trans st (.one (stepR_round_exit rfl rfl hx I))⟩
theorem uD.uB {P:Program} {B:World} {l n:Nat} {k:List Item} {fn:FuncId} {tmps:Array Value} {r:Nat} {args:Array Value} {h:ax} {g:GH} {Lc:List ay} {D:Value→GH→List ay→Prop} {e0 e:Env}
    (hl:h[l]?=some (.loop (dR (eC fn tmps k r) none))) (G:p_ e0 n tmps) (hn:(v_ k).toList.all (fun t=>Nat.blt t n)=true) (hs:args.size=(v_ k).size) (he:xF (v_ k).toList args.toList e0=e)
    (h0:norm 1000 [.code (we k),.beginRound,.code (wg k)]=pt (.round (we k) (wg k)) 0)
    (H:∀R:Value→ax→Prop,(∀v h' g' u,St h g (aV Lc) g' u h'→D v g' u→R v h')→At (GD P B fn n l k R) [] 0 e h):uD P B l args h g Lc D:=by
  intro w is
  have H:=H (fun v h'=>∃g' u,St h g (aV Lc) g' u h'∧D v g' u) fun v h' g' u s p=>⟨g',u,s,p⟩
  have I:jw e n [] {tmps:=((v_ k).toList.zip args.toList).foldl (fun tmps (p:Nat×Value)=>tmps.setIfInBounds p.1 p.2) tmps,defers:=[]}:=by
    have:=p_.zip (v_ k).toList args.toList G hn
    rw[he] at this
    exact⟨rfl,this.size,this.get⟩
  have H:eY P (some l) fn (Dv P B l fun v h'=>∃g' u,St h g (aV Lc) g' u h'∧D v g' u) (pt (.round (we k) (wg k)) 0) {tmps:=((v_ k).toList.zip args.toList).foldl (fun tmps (p:Nat×Value)=>tmps.setIfInBounds p.1 p.2) tmps,defers:=[]} w:=H _ w I is
  rw[←h0] at H
  refine⟨fn,_,we k,wg k,w,?_,pW.Nj (.norm 1000 H)⟩
  · have h1:=run_yield (P:=P) (w:=w) (l:=l) (r:=dR (eC fn tmps k r) none) (args:=args) (by rw[is.heap];exact hl) hs
    rw[h1]
    simp only[dR,eC]
    rw[←Array.foldl_toList,Array.toList_zip]
section
variable {h0:ax} {g0:GH} {S0:Nat→Prop} {g:GH} {L:List ay} {h:ax}
theorem St.mD (s:St h0 g0 S0 g L h) (k:Nat) {b:Nat} {o:Obj} (hk:L[k]?=some [(b,o)]) (o':Obj):St h0 g0 S0 g (L.set k [(b,o')]) (h.setIfInBounds b o'):=
  s.xy k hk (jm.set o' (s.ah k hk))
end
theorem Is.mD {B:World} {h:ax} {w:World} (i:Is B h w) (l:Nat) (o:Obj):Is B (h.setIfInBounds l o) {w with heap:=w.heap.setIfInBounds l o}:=
  ⟨by simp[i.heap],i.os,i.tape,i.output⟩
section
variable {C:fP} {ds:List Deferred} {i:Nat} {e:Env} {h:ax} {h0:ax} {g0:GH} {S0:Nat→Prop} {g:GH} {L:List ay}
def GF:List Item→Bool
  |.beginRound::_=>true
  |_=>false
theorem At.beginRound {l:Nat} {q:Loop} (hro:C.ro=some l) (hk:GF (pt C.code i)=true) (s:St h0 g0 S0 g L h) (k:Nat) (hL:L[k]?=some [(l,.loop (dR q none))]) (j:Nat) (hj:norm 1000 (pt C.code i).tail=pt C.code j)
    (K:∀h',St h0 g0 S0 g (L.set k [(l,.loop (zF q))]) h'→At C ds j e h'):At C ds i e h:=by
  intro a w f is
  have K:=K _ (s.mD k hL (.loop (zF q))) a {w with heap:=w.heap.setIfInBounds l (.loop (zF q))} f (is.mD l _)
  have hq:=s.ah k hL
  rw[←hj] at K
  generalize pt C.code i=u at *
  unfold GF at hk
  split at hk
  · rename_i k'
    refine eY.step (k₁:=k') (fun b cs hf hr=>stepR_beginRound (hr.trans hro) ?_) (.norm 1000 K)
    exact run_beginRound (P:=C.P) (w:=w) (l:=l) (r:=dR q none) (by rw[is.heap];exact hq) rfl
  · cases hk
def Dw:List Item→Option (Option Code)
  |[]=>some none
  |.code .ret::_=>some (some .ret)
  |.code (.exit id)::k=>match exitTo id k with
   |none=>some (some (.exit id))
   |some _=>none
  |_=>none
theorem Nk {k:List Item} {j:Option Code} (h:Dw k=some j):vX j k:=by
  unfold Dw at h
  split at h
  · simp only[fu] at h;subst h;exact .j9
  · simp only[fu] at h;subst h;exact .ret _
  · split at h
    · rename_i hx;simp only[fu] at h;subst h;exact .exit _ _ hx
    · cases h
  · cases h
theorem At.zG {P:Program} {B:World} {fn:FuncId} {n l:Nat} {u:List Item} {R:Value→ax→Prop} {q:Loop} {j:Option Code} (hl:Dw (pt (.round (we u) (wg u)) i)=some j) (s:St h0 g0 S0 g L h) (k:Nat) (hL:L[k]?=some [(l,.loop (zF q))])
    (K:∀h',St h0 g0 S0 g (L.set k [(l,.loop (dR q j))]) h'→R (.bool j.isNone) h'):At (GD P B fn n l u R) ds i e h:=by
  intro a w f is
  have hq:=s.ah k hL
  refine eY.sP (Nk hl) ⟨.bool j.isNone,{w with heap:=w.heap.setIfInBounds l (.loop (dR q j))},?_,?_,?_⟩
  · exact run_endRound (P:=P) (w:=w) (l:=l) (r:=zF q) j (by rw[is.heap];exact hq)
  · exact(is.mD l _).again
  · have:=K _ (s.mD k hL (.loop (dR q j)))
    rw[←is.heap] at this
    exact this
def mark (r:Nat):Deferred:={target:=.collected r,args:=#[]}
def jz (C:fP) (ds:List Deferred) (k:List Item) (e:Env) (h:ax):Prop:=
  ∀a w,jw e C.n ds a→Is C.B h w→eY C.P C.ro C.fn C.Q k a w
theorem At.Bw (H:jz C ds (pt C.code i) e h):At C ds i e h:=H
theorem jz.bF {k:List Item} (j:Nat) (hj:norm 1000 k=pt C.code j) (H:At C ds j e h):jz C ds k e h:=
  fun a w f is=>.norm 1000 (by rw[hj];exact H a w f is)
def wj (C:fP) (ds:List Deferred) (k:List Item) (l:Nat) (e:Env) (h:ax) (f:FuncId) (args:Array Value):Prop:=
  ∀a w,jw e C.n ds a→Is C.B h w→∀(b:Frame) (cs:List Frame),b.fn=C.fn→b.roundOf=C.ro→b.kind=.normal→
   ∃j k' u w',C.Q j u w'∧vX j k'∧Steps C.P (lone (Frame.enter C.P f args .normal) (b.atR a (.inRangeFunc l::k)::cs) w) (lone (b.atR u k') cs w')
theorem Nl {k:List Item} {x:Operand} (h:Du k=some x):∃ps u D k',k=.code (.rangeFunc x ps u D)::k':=by
  unfold Du at h
  split at h
  · simp only[fu] at h;subst h;exact⟨_,_,_,_,rfl⟩
  · cases h
theorem At.rangeFunc {x:Operand} {f:FuncId} {cp:Array Value} (hk:Du (pt C.code i)=some x) (hro:C.ro=none) (hc:e.sU x=true) (hx:e.ev x=.func (.func f) #[] cp) (hf:fc C.P f) (s:St h0 g0 S0 g L h)
    (K:∀r l tmps h1,p_ e C.n tmps→St h0 g0 S0 g ([(l,.loop (dR (eC C.fn tmps (pt C.code i) r) none))]::[(r,.deferred (some []))]::L) h1→
      wj C (mark r::ds) (pt C.code i).tail l e h1 f (#[.func (.yield l) #[] #[]]++cp)):At C ds i e h:=by
  intro a w ft is b cs u D O
  have hsz:w.heap.size+1=(h.push (.deferred (some []))).size:=by rw[is.heap];simp
  have s1:=s.alloc (.deferred (some []))
  have s2:=s1.alloc (.loop (dR (eC C.fn a.tmps (pt C.code i) h.size) none))
  have K:=K h.size (h.push (.deferred (some []))).size a.tmps _ ft.toT s2 {a with defers:=mark h.size::ds}
    ((w.alloc (.deferred (some []))).alloc (.loop (dR (eC C.fn a.tmps (pt C.code i) h.size) none))) ⟨rfl,ft.size,ft.get⟩ ⟨by simp[World.alloc,is.heap],is.os,is.tape,is.output⟩ b cs u D O
  have G:=ft.eval hc
  rw[hx] at G
  obtain⟨ps,I,J,k',hkk⟩:=Nl hk
  rw[hkk] at K ⊢
  · obtain⟨fn,hfn,hname,X⟩:=hf.out
    have hb:fn.body.isNone=false:=by cases hb:fn.body<;>simp_all
    obtain⟨j,U,V,w₂,hq,hl,st⟩:=K
    have he:=run_enterLoop_outer (P:=C.P) (w:=w) b.fn a.tmps ps I J
    rw[is.heap] at he
    let W:World:=(w.alloc (.deferred (some []))).alloc (.loop {state:=.ready,pending:=none,fn:=b.fn,tmps:=a.tmps,params:=ps,assign:=I,body:=J,defers:=h.size})
    refine⟨j,U,V,w₂,hq,hl,.head (stepR_rangeFunc (w₁:=W) (w₁':=W) (w₂:=W) (l:=(h.push (.deferred (some []))).size) (mark:=[mark h.size]) (f:=f) (d:={target:=.fn (.func f) cp,args:=#[]++#[.func (.yield (h.push (.deferred (some []))).size) #[] #[]]})
      (args:=#[.func (.yield (h.push (.deferred (some []))).size) #[] #[]]++cp) (by rw[D,hro];simpa[mark] using he) ?_ ?_) ?_⟩
    · simp only[rangeCall,resolve,G,Deferred.ofValue,Sem.run_pure]
      simp[Act.eval]
    · simp only[invoke,callFunc,Sem.run_bind,run_program,Result.andThen_ok,hfn,hname,hb,gA,dV]
      rfl
    · have hd:mark h.size::ds=[mark h.size]++a.defers:=by rw[ft.defers];rfl
      rw[←hd]
      rw[←u] at st
      exact st
theorem wj.call {k:List Item} {l:Nat} {f:FuncId} {args:Array Value} {Lc:List ay} {D:Value→GH→List ay→Prop} (s:St h0 g0 S0 g (Lc++L) h) (H:aE C.P C.B f args h g Lc D)
    (K:∀v g' u h',aM g g'→St h0 g0 S0 g' (u++L) h'→D v g' u→jz C ds (.endRangeFunc l::k) e h'):wj C ds k l e h f args:=by
  intro a w ft is b cs G I J
  obtain⟨ab,w',ad,⟨v,rfl,O,g',u,t,U⟩,V,_,X⟩:=H w is (b.atR a (.inRangeFunc l::k)::cs)
  obtain⟨j,k',Y,w₂,hq,hl,st⟩:=K v g' u _ t.le (s.join t) U a w' ft O b cs G I J
  refine⟨j,k',Y,w₂,hq,hl,Steps.trans V (.head ?_ st)⟩
  rw[←finish_atR_inRangeFunc l v];exact step_leave_returned X
theorem jz.zH {k:List Item} {l:Nat} {q:Loop} {j:Option Code} (s:St h0 g0 S0 g L h) (n:Nat) (hL:L[n]?=some [(l,.loop (dR q j))])
    (K:∀h',St h0 g0 S0 g (L.set n [(l,.loop (Dt q j))]) h'→jz C ds ((j.map Item.code).toList++k) e h'):jz C ds (.endRangeFunc l::k) e h:=by
  intro a w f is
  have K:=K _ (s.mD n hL (.loop (Dt q j))) a {w with heap:=w.heap.setIfInBounds l (.loop (Dt q j))} f (is.mD l _)
  have hq:=s.ah n hL
  refine eY.step (fun b cs hf hr=>stepR_endRangeFunc (jump:=j) ?_) K
  exact run_endLoop (P:=C.P) (w:=w) (l:=l) (r:=dR q j) (by rw[is.heap];exact hq) (by cases j<;>simp[dR])
end
def wm (rs:List Nat):List Deferred:=rs.map mark
def Dx (rs:List Nat):List ay:=rs.map fun r=>[(r,.deferred (some []))]
theorem p4.wm {P:Program} {B:World} {h0:ax} {g0:GH} {S0:Nat→Prop} {g:GH} {L:List ay}:∀(rs:List Nat) {h:ax},St h0 g0 S0 g (Dx rs++L) h→∀w,Is B h w→∃w',p4 P (wm rs) w w'∧Is B w'.heap w'∧St h0 g0 S0 g L w'.heap
  |[],h,s,w,is=>⟨w,.nil w,is.again,by rw[is.heap];exact s⟩
  |r::rs,h,s,w,is=>by
   have hb:=s.ah 0 (b:=r) rfl
   have s1:=(s.mD 0 (b:=r) rfl (.deferred none)).drop
   obtain⟨w',hd,u,D⟩:=p4.wm rs (L:=L) s1 {w with heap:=w.heap.setIfInBounds r (.deferred none)} (is.mD r _)
   exact⟨w',.cons rfl (run_takeDeferred (P:=P) (w:=w) (b:=r) (ds:=[]) (by rw[is.heap];exact hb)) hd,u,D⟩
section
variable {P:Program} {B:World} {fn:FuncId} {f:Func} {R:Value→ax→Prop} {k:List Item} {e:Env} {h:ax} {h0:ax} {g0:GH} {S0:Nat→Prop} {g:GH} {L:List ay}
theorem jz.Dy {v:Value} (rs:List Nat) (hi:oH k=true) (hv:v7 f e=some v) (s:St h0 g0 S0 g (Dx rs++L) h) (K:∀h',St h0 g0 S0 g L h'→R v h'):jz (bX P B fn f R) (wm rs) k e h:=by
  intro a w ft is
  show eY P none fn (qF P B f R) k a w
  have hq:∀j,(j=none∨j=some .ret)→qF P B f R j a w:=fun j hj=>by
    obtain⟨w₂,hd,u,D⟩:=p4.wm (P:=P) rs s w is
    exact⟨hj,w₂,v,by rw[ft.defers];exact hd,F5 ft hv w₂,u,K _ D⟩
  unfold oH at hi
  split at hi
  · exact .sP .j9 (hq _ (.inl rfl))
  · exact .sP (.ret _) (hq _ (.inr rfl))
  · cases hi
theorem jz.GG {v:Value} {vs:List Value} {rl:List ResultVar} (rs:List Nat) (hi:oH k=true) (hr:f.results.toList=rl) (u:(if hs:vs.toArray.size=1 then vs.toArray[0] else .tuple vs.toArray)=v) (s:St h0 g0 S0 g (Dx rs++L) h)
    (K:∀h',St h0 g0 S0 g L h'→s6 P e h' rl vs∧R v h'):jz (bX P B fn f R) (wm rs) k e h:=by
  intro a w ft is
  subst u
  subst hr
  show eY P none fn (qF P B f R) k a w
  have hq:∀j,(j=none∨j=some .ret)→qF P B f R j a w:=fun j hj=>by
    obtain⟨w₂,hd,D,G⟩:=p4.wm (P:=P) rs s w is
    obtain⟨hv,hR⟩:=K _ G
    exact⟨hj,w₂,_,by rw[ft.defers];exact hd,Gn ft hv w₂ rfl,D,hR⟩
  unfold oH at hi
  split at hi
  · exact .sP .j9 (hq _ (.inl rfl))
  · exact .sP (.ret _) (hq _ (.inr rfl))
  · cases hi
end
section
variable {C:fP} {ds:List Deferred} {i j:Nat} {r:ax} {M:Nat→Prop} {Ls:List (Nat×Bool)} {e:Env} {h:ax}
variable {h0:ax} {g0:GH} {S0:Nat→Prop} {g:GH} {L L':List ay}
theorem Op.yield {dst:Option Tmp} {x:Operand} {ops:Array Operand} {ts:Array TypeId} {l:Nat} {args:Array Value} {Lc:List ay} {D:Value→GH→List ay→Prop}
    (ho:dS C i j e=some (dst,.call {callee:=.value x,args:=ops,argTypes:=ts})) (hx:e.ev x=.func (.yield l) #[] #[]) (ha:ops.map e.ev=args)
    (s:St h0 g0 S0 g (Lc++L) h) (H:uD C.P C.B l args h g Lc D) (hM:∀b,b<r.size→aV Lc b→M b)
    (K:∀v g' u h',aM g g'→St h0 g0 S0 g' (u++L) h'→D v g' u→Op C ds i r M Ls (e.gJ dst v) h'):Op C ds i r M ((j,false)::Ls) e h:=by
  obtain⟨o,h1,rfl,h3⟩:=gT ho
  refine Op.zo h1 fun w is hk a ft=>?_
  obtain⟨f,tmps,G,I,w',hy,hR⟩:=H w is
  have hrun:(fL e o).run C.P w=.ok (.round l f tmps G I) w':=by
    subst ha
    unfold fL execOp
    simp only[h3,resolve,hx,Deferred.ofValue,Sem.run_bind,Sem.run_pure,Result.andThen_ok,invoke]
    rw[show(#[]++ops.map e.ev:Array Value)=ops.map e.ev from by simp]
    exact hy
  rw[hrun]
  refine pW.mono hR fun v U ⟨J,g',u,t,O⟩=>?_
  exact⟨⟨t.jJ hM hk,J⟩,_,ft.gJ (uA h1).2.2.2.1 v,K v g' u _ t.le (s.join t) O⟩
end
def uE {α:Type} (P:Program) (B:World) (l:Nat) (D:GH→α→Array Value→Prop) (ord:List α→Prop) (go:List α→Bool) (I:List α→GH→ay→Prop) (g0:GH):Prop:=
  ∀(h:ax) (g:GH) (xs:List α) (x:α) (args:Array Value) (c:ay),aM g0 g→bq g→go xs=true→D g x args→(∃u,ord u∧xs++[x] <+: u)→I xs g c→St h g (aV [c]) g [c] h→
   uD P B l args h g [c] fun v g' L'=>∃c',v=.bool (go (xs++[x]))∧L'=[c']∧I (xs++[x]) g' c'
def kI {α:Type} (P:Program) (g:GH) (f:FuncId) (cp:Array Value) (D:GH→α→Array Value→Prop) (ord:List α→Prop):Prop:=
  ∀(B:World) (h:ax) (g':GH) (l:Nat) (I:List α→GH→ay→Prop) (go:List α→Bool) (c:ay),aM g g'→bl g' h→bq g'→uE P B l D ord go I g'→go []=true→I [] g' c→St h g' (aV [c]) g' [c] h→
   aE P B f (#[.func (.yield l) #[] #[]]++cp) h g' [c] fun v G L'=>∃u xs c',v=.tuple #[]∧ord u∧xs <+: u∧(go xs=true→xs=u)∧(∀ys,ys <+: xs→ys≠xs→go ys=true)∧L'=[c']∧I xs G c'
theorem kI.mono {α:Type} {P:Program} {g g':GH} {f:FuncId} {cp:Array Value} {u:GH→α→Array Value→Prop} {ord:List α→Prop} (H:kI P g f cp u ord) (hg:aM g g'):kI P g' f cp u ord:=
  fun B h k l I go c hk=>H B h k l I go c (aM.trans hg hk)
theorem uE.mono {α:Type} {P:Program} {B:World} {l:Nat} {u:GH→α→Array Value→Prop} {ord:List α→Prop} {go:List α→Bool} {I:List α→GH→ay→Prop} {g g':GH} (H:uE P B l u ord go I g) (hg:aM g g'):uE P B l u ord go I g':=
  fun h k xs x args c hk=>H h k xs x args c (aM.trans hg hk)
end Go.Proofs.YtceekbnihfckeaaGreatDoor.Sw
