/- Lemmas for laws of this seat. -/
import Derived.Test.YtdinkjbfgcfccaaGreatDoorPBH
import Derived.RangeFuncRecord
set_option maxHeartbeats 4000000
namespace Go.Proofs.YtdinkjbfgcfccaaGreatDoor.Sw
set_option linter.unusedVariables false
set_option linter.unusedSimpArgs false
set_option linter.deprecated false
open Go
set_option linter.defProp false
def jD:=@List.all_cons
def qB:=@List.foldl_cons
structure oK (e:Env) (n:Nat) (tmps:Array Value):Prop where
  size:tmps.size=n
  get:∀t v,e.get t=some v→tmps[t]?=some v
theorem gZ.toT {e:Env} {n:Nat} {ds:List Deferred} {a:Act} (f:gZ e n ds a):oK e n a.tmps:=⟨f.size,f.get⟩
theorem oK.put {e:Env} {n:Nat} {tmps:Array Value} (f:oK e n tmps) {d:Nat} (hd:d<n) (v:Value):oK ((d,v)::e) n (tmps.setIfInBounds d v):=by
  refine⟨by simp[f.size],fun t u h=>?_⟩
  by_cases hdt:d=t
  · subst hdt
    simp[Env.get] at h
    subst h
    simp[f.size,hd]
  · have hb:Nat.beq d t=false:=o8 hdt
    simp only[Env.get,hb,cond_false] at h
    simp only[A4 hdt]
    exact f.get t u h
def uD:List Nat→List Value→Env→Env
  |t::ts,v::vs,e=>uD ts vs ((t,v)::e)
  |_,_,e=>e
theorem oK.zip {n:Nat}:∀(ps:List Nat) (vs:List Value) {e:Env} {tmps:Array Value},oK e n tmps→ps.all (fun t=>Nat.blt t n)=true→
    oK (uD ps vs e) n ((ps.zip vs).foldl (fun tmps (p:Nat×Value)=>tmps.setIfInBounds p.1 p.2) tmps)
  |[],_,_,_,f,_=>by simpa[uD] using f
  |_::_,[],_,_,f,_=>by simpa[uD] using f
  |t::ts,v::vs,_,_,f,h=>by
   simp only[jD,bZ] at h
   simp only[uD,List.zip_cons_cons,qB]
   exact oK.zip ts vs (f.put (jz h.1) v) h.2
def cZ (q:Loop) (j:Option Code):Loop:={q with state:=if j.isNone then .ready else .done,pending:=j}
def wL (q:Loop):Loop:={q with state:=.busy,pending:=none}
def BA (q:Loop) (j:Option Code):Loop:={q with state:=.exhausted,pending:=j}
def BB:List Item→Option Operand
  |.code (.rangeFunc x _ _ _)::_=>some x
  |_=>none
def sS:List Item→Array Tmp
  |.code (.rangeFunc _ ps _ _)::_=>ps
  |_=>#[]
def sU:List Item→Code
  |.code (.rangeFunc _ _ c _)::_=>c
  |_=>.skip
def sV:List Item→Code
  |.code (.rangeFunc _ _ _ u)::_=>u
  |_=>.skip
def dD (fn:FuncId) (tmps:Array Value) (k:List Item) (r:Nat):Loop:=
  {state:=.ready,pending:=none,fn,tmps,params:=sS k,assign:=sU k,body:=sV k,defers:=r}
def MU (P:Program) (B:World) (l:Nat) (args:Array Value) (h:ay) (R:Value→ay→Prop):Prop:=
  ∀w,Is B h w→∃f tmps D G w',(Instr.yield l args).run P w=.ok (.round l f tmps D G) w'∧oB P l f tmps D G w' (fun v u=>Is B u.heap u∧R v u.heap)
def ru (P:Program) (B:World) (l:Nat) (args:Array Value) (h:ay) (g:GH) (Lc:List az) (D:Value→GH→List az→Prop):Prop:=
  MU P B l args h fun v h'=>∃g' u,St h g (aS Lc) g' u h'∧D v g' u
def BC (P:Program) (B:World) (l:Nat) (R:Value→ay→Prop) (j:Option Code) (a:Act) (w:World):Prop:=
  ∃v w',(Instr.endRound l j).run P w=.ok v w'∧Is B w'.heap w'∧R v w'.heap
def FO (P:Program) (B:World) (fn:FuncId) (n l:Nat) (k:List Item) (R:Value→ay→Prop):ff:=
  {P,B,fn,n,code:=.round (sU k) (sV k),ro:=some l,Q:=BC P B l R}
theorem oB.MV {P:Program} {B:World} {l:Nat} {fn:FuncId} {tmps:Array Value} {u D:Code} {w:World} {R:Value→ay→Prop}
    (H:dY P (some l) fn (BC P B l R) [.code u,.beginRound,.code D] {tmps:=tmps,defers:=[]} w):oB P l fn tmps u D w (fun v w'=>Is B w'.heap w'∧R v w'.heap):=by
  intro c cs
  let b:Frame:={(default:Frame) with fn:=fn,kind:=.normal,roundOf:=some l}
  have hb0:Frame.round l fn tmps u D .normal=b.atR {tmps:=tmps,defers:=[]} [.code u,.beginRound,.code D]:=by
    simp[Frame.round,Frame.atR,b]
  obtain⟨j,k',O,w',⟨v,I,J,is,hR⟩,hl,G⟩:=H b (c::cs) rfl rfl rfl
  rw[←hb0] at G
  cases hl with
  |iU=>exact⟨v,I,⟨is,hR⟩,Steps.trans G (.one (stepR_round_end rfl rfl J))⟩
  |ret k=>exact⟨v,I,⟨is,hR⟩,Steps.trans G (.one (stepR_round_ret rfl rfl J))⟩
  |exit id k hx=>exact⟨v,I,⟨is,hR⟩,Steps.trans G (.one (stepR_round_exit rfl rfl hx J))⟩
theorem ru.ri {P:Program} {B:World} {l n:Nat} {k:List Item} {fn:FuncId} {tmps:Array Value} {r:Nat} {args:Array Value} {h:ay} {g:GH} {Lc:List az} {D:Value→GH→List az→Prop} {e0 e:Env}
    (hl:h[l]?=some (.loop (cZ (dD fn tmps k r) none))) (G:oK e0 n tmps) (hn:(sS k).toList.all (fun t=>Nat.blt t n)=true) (hs:args.size=(sS k).size) (he:uD (sS k).toList args.toList e0=e)
    (h0:norm 1000 [.code (sU k),.beginRound,.code (sV k)]=pt (.round (sU k) (sV k)) 0)
    (H:∀R:Value→ay→Prop,(∀v h' g' u,St h g (aS Lc) g' u h'→D v g' u→R v h')→At (FO P B fn n l k R) [] 0 e h):ru P B l args h g Lc D:=by
  intro w is
  have H:=H (fun v h'=>∃g' u,St h g (aS Lc) g' u h'∧D v g' u) fun v h' g' u s p=>⟨g',u,s,p⟩
  have I:gZ e n [] {tmps:=((sS k).toList.zip args.toList).foldl (fun tmps (p:Nat×Value)=>tmps.setIfInBounds p.1 p.2) tmps,defers:=[]}:=by
    have:=oK.zip (sS k).toList args.toList G hn
    rw[he] at this
    exact⟨rfl,this.size,this.get⟩
  have H:dY P (some l) fn (BC P B l fun v h'=>∃g' u,St h g (aS Lc) g' u h'∧D v g' u) (pt (.round (sU k) (sV k)) 0) {tmps:=((sS k).toList.zip args.toList).foldl (fun tmps (p:Nat×Value)=>tmps.setIfInBounds p.1 p.2) tmps,defers:=[]} w:=H _ w I is
  rw[←h0] at H
  refine⟨fn,_,sU k,sV k,w,?_,oB.MV (.norm 1000 H)⟩
  · have h1:=run_yield (P:=P) (w:=w) (l:=l) (r:=cZ (dD fn tmps k r) none) (args:=args) (by rw[is.heap];exact hl) hs
    rw[h1]
    simp only[cZ,dD]
    rw[←Array.foldl_toList,Array.toList_zip]
section
variable {h0:ay} {g0:GH} {S0:Nat→Prop} {g:GH} {L:List az} {h:ay}
theorem St.kV (s:St h0 g0 S0 g L h) (k:Nat) {b:Nat} {o:Obj} (hk:L[k]?=some [(b,o)]) (o':Obj):St h0 g0 S0 g (L.set k [(b,o')]) (h.setIfInBounds b o'):=
  s.uw k hk (iC.set o' (s.ag k hk))
end
theorem Is.kV {B:World} {h:ay} {w:World} (i:Is B h w) (l:Nat) (o:Obj):Is B (h.setIfInBounds l o) {w with heap:=w.heap.setIfInBounds l o}:=
  ⟨by simp[i.heap],i.os,i.tape,i.output⟩
section
variable {C:ff} {ds:List Deferred} {i:Nat} {e:Env} {h:ay} {h0:ay} {g0:GH} {S0:Nat→Prop} {g:GH} {L:List az}
def FP:List Item→Bool
  |.beginRound::_=>true
  |_=>false
theorem At.beginRound {l:Nat} {q:Loop} (hro:C.ro=some l) (hk:FP (pt C.code i)=true) (s:St h0 g0 S0 g L h) (k:Nat) (hL:L[k]?=some [(l,.loop (cZ q none))]) (j:Nat) (hj:norm 1000 (pt C.code i).tail=pt C.code j)
    (K:∀h',St h0 g0 S0 g (L.set k [(l,.loop (wL q))]) h'→At C ds j e h'):At C ds i e h:=by
  intro a w f is
  have K:=K _ (s.kV k hL (.loop (wL q))) a {w with heap:=w.heap.setIfInBounds l (.loop (wL q))} f (is.kV l _)
  have hq:=s.ag k hL
  rw[←hj] at K
  generalize pt C.code i=u at *
  unfold FP at hk
  split at hk
  · rename_i k'
    refine dY.step (k₁:=k') (fun b cs hf hr=>stepR_beginRound (hr.trans hro) ?_) (.norm 1000 K)
    exact run_beginRound (P:=C.P) (w:=w) (l:=l) (r:=cZ q none) (by rw[is.heap];exact hq) rfl
  · cases hk
def BD:List Item→Option (Option Code)
  |[]=>some none
  |.code .ret::_=>some (some .ret)
  |.code (.exit id)::k=>match exitTo id k with
   |none=>some (some (.exit id))
   |some _=>none
  |_=>none
theorem MW {k:List Item} {j:Option Code} (h:BD k=some j):sJ j k:=by
  unfold BD at h
  split at h
  · simp only[ey] at h;subst h;exact .iU
  · simp only[ey] at h;subst h;exact .ret _
  · split at h
    · rename_i hx;simp only[ey] at h;subst h;exact .exit _ _ hx
    · cases h
  · cases h
theorem At.wM {P:Program} {B:World} {fn:FuncId} {n l:Nat} {u:List Item} {R:Value→ay→Prop} {q:Loop} {j:Option Code} (hl:BD (pt (.round (sU u) (sV u)) i)=some j) (s:St h0 g0 S0 g L h) (k:Nat) (hL:L[k]?=some [(l,.loop (wL q))])
    (K:∀h',St h0 g0 S0 g (L.set k [(l,.loop (cZ q j))]) h'→R (.bool j.isNone) h'):At (FO P B fn n l u R) ds i e h:=by
  intro a w f is
  have hq:=s.ag k hL
  refine dY.qo (MW hl) ⟨.bool j.isNone,{w with heap:=w.heap.setIfInBounds l (.loop (cZ q j))},?_,?_,?_⟩
  · exact run_endRound (P:=P) (w:=w) (l:=l) (r:=wL q) j (by rw[is.heap];exact hq)
  · exact(is.kV l _).again
  · have:=K _ (s.kV k hL (.loop (cZ q j)))
    rw[←is.heap] at this
    exact this
def mark (r:Nat):Deferred:={target:=.collected r,args:=#[]}
def ia (C:ff) (ds:List Deferred) (k:List Item) (e:Env) (h:ay):Prop:=
  ∀a w,gZ e C.n ds a→Is C.B h w→dY C.P C.ro C.fn C.Q k a w
theorem At.yB (H:ia C ds (pt C.code i) e h):At C ds i e h:=H
theorem ia.bB {k:List Item} (j:Nat) (hj:norm 1000 k=pt C.code j) (H:At C ds j e h):ia C ds k e h:=
  fun a w f is=>.norm 1000 (by rw[hj];exact H a w f is)
def sW (C:ff) (ds:List Deferred) (k:List Item) (l:Nat) (e:Env) (h:ay) (f:FuncId) (args:Array Value):Prop:=
  ∀a w,gZ e C.n ds a→Is C.B h w→∀(b:Frame) (cs:List Frame),b.fn=C.fn→b.roundOf=C.ro→b.kind=.normal→
   ∃j k' u w',C.Q j u w'∧sJ j k'∧Steps C.P (lone (Frame.enter C.P f args .normal) (b.atR a (.inRangeFunc l::k)::cs) w) (lone (b.atR u k') cs w')
theorem MX {k:List Item} {x:Operand} (h:BB k=some x):∃ps u D k',k=.code (.rangeFunc x ps u D)::k':=by
  unfold BB at h
  split at h
  · simp only[ey] at h;subst h;exact⟨_,_,_,_,rfl⟩
  · cases h
theorem At.rangeFunc {x:Operand} {f:FuncId} {cp:Array Value} (hk:BB (pt C.code i)=some x) (hro:C.ro=none) (hc:e.qs x=true) (hx:e.ev x=.func (.func f) #[] cp) (hf:eg C.P f) (s:St h0 g0 S0 g L h)
    (K:∀r l tmps h1,oK e C.n tmps→St h0 g0 S0 g ([(l,.loop (cZ (dD C.fn tmps (pt C.code i) r) none))]::[(r,.deferred (some []))]::L) h1→
      sW C (mark r::ds) (pt C.code i).tail l e h1 f (#[.func (.yield l) #[] #[]]++cp)):At C ds i e h:=by
  intro a w ft is b cs u D U
  have hsz:w.heap.size+1=(h.push (.deferred (some []))).size:=by rw[is.heap];simp
  have s1:=s.alloc (.deferred (some []))
  have s2:=s1.alloc (.loop (cZ (dD C.fn a.tmps (pt C.code i) h.size) none))
  have K:=K h.size (h.push (.deferred (some []))).size a.tmps _ ft.toT s2 {a with defers:=mark h.size::ds}
    ((w.alloc (.deferred (some []))).alloc (.loop (cZ (dD C.fn a.tmps (pt C.code i) h.size) none))) ⟨rfl,ft.size,ft.get⟩ ⟨by simp[World.alloc,is.heap],is.os,is.tape,is.output⟩ b cs u D U
  have G:=ft.eval hc
  rw[hx] at G
  obtain⟨ps,I,J,k',hkk⟩:=MX hk
  rw[hkk] at K ⊢
  · obtain⟨fn,hfn,hname,Y⟩:=hf.out
    have hb:fn.body.isNone=false:=by cases hb:fn.body<;>simp_all
    obtain⟨j,V,X,w₂,hq,hl,O⟩:=K
    have he:=run_enterLoop_outer (P:=C.P) (w:=w) b.fn a.tmps ps I J
    rw[is.heap] at he
    let W:World:=(w.alloc (.deferred (some []))).alloc (.loop {state:=.ready,pending:=none,fn:=b.fn,tmps:=a.tmps,params:=ps,assign:=I,body:=J,defers:=h.size})
    refine⟨j,V,X,w₂,hq,hl,.head (stepR_rangeFunc (w₁:=W) (w₁':=W) (w₂:=W) (l:=(h.push (.deferred (some []))).size) (mark:=[mark h.size]) (f:=f) (d:={target:=.fn (.func f) cp,args:=#[]++#[.func (.yield (h.push (.deferred (some []))).size) #[] #[]]})
      (args:=#[.func (.yield (h.push (.deferred (some []))).size) #[] #[]]++cp) (by rw[D,hro];simpa[mark] using he) ?_ ?_) ?_⟩
    · simp only[rangeCall,resolve,G,Deferred.ofValue,Sem.run_pure]
      simp[Act.eval]
    · simp only[invoke,callFunc,Sem.run_bind,run_program,Result.andThen_ok,hfn,hname,hb,fW,dI]
      rfl
    · have hd:mark h.size::ds=[mark h.size]++a.defers:=by rw[ft.defers];rfl
      rw[←hd]
      rw[←u] at O
      exact O
theorem sW.call {k:List Item} {l:Nat} {f:FuncId} {args:Array Value} {Lc:List az} {D:Value→GH→List az→Prop} (s:St h0 g0 S0 g (Lc++L) h) (H:aG C.P C.B f args h g Lc D)
    (K:∀v g' u h',aM g g'→St h0 g0 S0 g' (u++L) h'→D v g' u→ia C ds (.endRangeFunc l::k) e h'):sW C ds k l e h f args:=by
  intro a w ft is b cs G I J
  obtain⟨ab,w',ad,⟨v,rfl,O,g',u,t,U⟩,V,_,X⟩:=H w is (b.atR a (.inRangeFunc l::k)::cs)
  obtain⟨j,k',Y,w₂,hq,hl,Z⟩:=K v g' u _ t.le (s.join t) U a w' ft O b cs G I J
  refine⟨j,k',Y,w₂,hq,hl,Steps.trans V (.head ?_ Z)⟩
  rw[←finish_atR_inRangeFunc l v];exact step_leave_returned X
theorem ia.wN {k:List Item} {l:Nat} {q:Loop} {j:Option Code} (s:St h0 g0 S0 g L h) (n:Nat) (hL:L[n]?=some [(l,.loop (cZ q j))])
    (K:∀h',St h0 g0 S0 g (L.set n [(l,.loop (BA q j))]) h'→ia C ds ((j.map Item.code).toList++k) e h'):ia C ds (.endRangeFunc l::k) e h:=by
  intro a w f is
  have K:=K _ (s.kV n hL (.loop (BA q j))) a {w with heap:=w.heap.setIfInBounds l (.loop (BA q j))} f (is.kV l _)
  have hq:=s.ag n hL
  refine dY.step (fun b cs hf hr=>stepR_endRangeFunc (jump:=j) ?_) K
  exact run_endLoop (P:=C.P) (w:=w) (l:=l) (r:=cZ q j) (by rw[is.heap];exact hq) (by cases j<;>simp[cZ])
end
def sX (rs:List Nat):List Deferred:=rs.map mark
def BE (rs:List Nat):List az:=rs.map fun r=>[(r,.deferred (some []))]
theorem oF.sX {P:Program} {B:World} {h0:ay} {g0:GH} {S0:Nat→Prop} {g:GH} {L:List az}:∀(rs:List Nat) {h:ay},St h0 g0 S0 g (BE rs++L) h→∀w,Is B h w→∃w',oF P (sX rs) w w'∧Is B w'.heap w'∧St h0 g0 S0 g L w'.heap
  |[],h,s,w,is=>⟨w,.nil w,is.again,by rw[is.heap];exact s⟩
  |r::rs,h,s,w,is=>by
   have hb:=s.ag 0 (b:=r) rfl
   have s1:=(s.kV 0 (b:=r) rfl (.deferred none)).drop
   obtain⟨w',hd,u,D⟩:=oF.sX rs (L:=L) s1 {w with heap:=w.heap.setIfInBounds r (.deferred none)} (is.kV r _)
   exact⟨w',.cons rfl (run_takeDeferred (P:=P) (w:=w) (b:=r) (ds:=[]) (by rw[is.heap];exact hb)) hd,u,D⟩
section
variable {P:Program} {B:World} {fn:FuncId} {f:Func} {R:Value→ay→Prop} {k:List Item} {e:Env} {h:ay} {h0:ay} {g0:GH} {S0:Nat→Prop} {g:GH} {L:List az}
theorem ia.BF {v:Value} (rs:List Nat) (hi:nj k=true) (hv:sN f e=some v) (s:St h0 g0 S0 g (BE rs++L) h) (K:∀h',St h0 g0 S0 g L h'→R v h'):ia (bP P B fn f R) (sX rs) k e h:=by
  intro a w ft is
  show dY P none fn (pn P B f R) k a w
  have hq:∀j,(j=none∨j=some .ret)→pn P B f R j a w:=fun j hj=>by
    obtain⟨w₂,hd,u,D⟩:=oF.sX (P:=P) rs s w is
    exact⟨hj,w₂,v,by rw[ft.defers];exact hd,Fa ft hv w₂,u,K _ D⟩
  unfold nj at hi
  split at hi
  · exact .qo .iU (hq _ (.inl rfl))
  · exact .qo (.ret _) (hq _ (.inr rfl))
  · cases hi
theorem ia.FQ {v:Value} {vs:List Value} {rl:List ResultVar} (rs:List Nat) (hi:nj k=true) (hr:f.results.toList=rl) (u:(if hs:vs.toArray.size=1 then vs.toArray[0] else .tuple vs.toArray)=v) (s:St h0 g0 S0 g (BE rs++L) h)
    (K:∀h',St h0 g0 S0 g L h'→pK P e h' rl vs∧R v h'):ia (bP P B fn f R) (sX rs) k e h:=by
  intro a w ft is
  subst u
  subst hr
  show dY P none fn (pn P B f R) k a w
  have hq:∀j,(j=none∨j=some .ret)→pn P B f R j a w:=fun j hj=>by
    obtain⟨w₂,hd,D,G⟩:=oF.sX (P:=P) rs s w is
    obtain⟨hv,hR⟩:=K _ G
    exact⟨hj,w₂,_,by rw[ft.defers];exact hd,Fy ft hv w₂ rfl,D,hR⟩
  unfold nj at hi
  split at hi
  · exact .qo .iU (hq _ (.inl rfl))
  · exact .qo (.ret _) (hq _ (.inr rfl))
  · cases hi
end
section
variable {C:ff} {ds:List Deferred} {i j:Nat} {r:ay} {M:Nat→Prop} {Ls:List (Nat×Bool)} {e:Env} {h:ay}
variable {h0:ay} {g0:GH} {S0:Nat→Prop} {g:GH} {L L':List az}
theorem Op.yield {dst:Option Tmp} {x:Operand} {ops:Array Operand} {ts:Array TypeId} {l:Nat} {args:Array Value} {Lc:List az} {D:Value→GH→List az→Prop}
    (ho:c_ C i j e=some (dst,.call {callee:=.value x,args:=ops,argTypes:=ts})) (hx:e.ev x=.func (.yield l) #[] #[]) (ha:ops.map e.ev=args)
    (s:St h0 g0 S0 g (Lc++L) h) (H:ru C.P C.B l args h g Lc D) (hM:∀b,b<r.size→aS Lc b→M b)
    (K:∀v g' u h',aM g g'→St h0 g0 S0 g' (u++L) h'→D v g' u→Op C ds i r M Ls (e.fX dst v) h'):Op C ds i r M ((j,false)::Ls) e h:=by
  obtain⟨o,h1,rfl,h3⟩:=gm ho
  refine Op.wm h1 fun w is hk a ft=>?_
  obtain⟨f,tmps,G,I,w',hy,hR⟩:=H w is
  have hrun:(eN e o).run C.P w=.ok (.round l f tmps G I) w':=by
    subst ha
    unfold eN execOp
    simp only[h3,resolve,hx,Deferred.ofValue,Sem.run_bind,Sem.run_pure,Result.andThen_ok,invoke]
    rw[show(#[]++ops.map e.ev:Array Value)=ops.map e.ev from by simp]
    exact hy
  rw[hrun]
  refine oB.mono hR fun v U ⟨J,g',u,t,O⟩=>?_
  exact⟨⟨t.gO hM hk,J⟩,_,ft.fX (q_ h1).2.2.2.1 v,K v g' u _ t.le (s.join t) O⟩
end
def ry {α:Type} (P:Program) (B:World) (l:Nat) (D:GH→α→Array Value→Prop) (ord:List α→Prop) (go:List α→Bool) (I:List α→GH→az→Prop) (g0:GH):Prop:=
  ∀(h:ay) (g:GH) (xs:List α) (x:α) (args:Array Value) (c:az),aM g0 g→bz g→go xs=true→D g x args→(∃u,ord u∧xs++[x] <+: u)→I xs g c→St h g (aS [c]) g [c] h→
   ru P B l args h g [c] fun v g' L'=>∃c',v=.bool (go (xs++[x]))∧L'=[c']∧I (xs++[x]) g' c'
def jl {α:Type} (P:Program) (g:GH) (f:FuncId) (cp:Array Value) (D:GH→α→Array Value→Prop) (ord:List α→Prop):Prop:=
  ∀(B:World) (h:ay) (g':GH) (l:Nat) (I:List α→GH→az→Prop) (go:List α→Bool) (c:az),aM g g'→bu g' h→bz g'→ry P B l D ord go I g'→go []=true→I [] g' c→St h g' (aS [c]) g' [c] h→
   aG P B f (#[.func (.yield l) #[] #[]]++cp) h g' [c] fun v G L'=>∃u xs c',v=.tuple #[]∧ord u∧xs <+: u∧(go xs=true→xs=u)∧(∀ys,ys <+: xs→ys≠xs→go ys=true)∧L'=[c']∧I xs G c'
theorem jl.mono {α:Type} {P:Program} {g g':GH} {f:FuncId} {cp:Array Value} {u:GH→α→Array Value→Prop} {ord:List α→Prop} (H:jl P g f cp u ord) (hg:aM g g'):jl P g' f cp u ord:=
  fun B h k l I go c hk=>H B h k l I go c (aM.trans hg hk)
theorem ry.mono {α:Type} {P:Program} {B:World} {l:Nat} {u:GH→α→Array Value→Prop} {ord:List α→Prop} {go:List α→Bool} {I:List α→GH→az→Prop} {g g':GH} (H:ry P B l u ord go I g) (hg:aM g g'):ry P B l u ord go I g':=
  fun h k xs x args c hk=>H h k xs x args c (aM.trans hg hk)
end Go.Proofs.YtdinkjbfgcfccaaGreatDoor.Sw
