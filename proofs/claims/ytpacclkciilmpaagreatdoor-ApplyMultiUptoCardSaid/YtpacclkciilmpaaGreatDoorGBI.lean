/- Lemmas for laws of this seat. -/
import Derived.Test.YtpacclkciilmpaaGreatDoorGBH
import Derived.RangeFuncRecord
set_option maxHeartbeats 4000000
namespace Go.Proofs.YtpacclkciilmpaaGreatDoor.Sw
set_option linter.unusedVariables false
set_option linter.unusedSimpArgs false
set_option linter.deprecated false
open Go
set_option linter.defProp false
def j5:=@List.all_cons
def oE:=@List.foldl_cons
structure oF (e:Env) (n:Nat) (tmps:Array Value):Prop where
  size:tmps.size=n
  get:∀t v,e.get t=some v→tmps[t]?=some v
theorem iD.toT {e:Env} {n:Nat} {ds:List Deferred} {a:Act} (f:iD e n ds a):oF e n a.tmps:=⟨f.size,f.get⟩
theorem oF.put {e:Env} {n:Nat} {tmps:Array Value} (f:oF e n tmps) {d:Nat} (hd:d<n) (v:Value):oF ((d,v)::e) n (tmps.setIfInBounds d v):=by
  refine⟨by simp[f.size],fun t u h=>?_⟩
  by_cases hdt:d=t
  · subst hdt
    simp[Env.get] at h
    subst h
    simp[f.size,hd]
  · have hb:Nat.beq d t=false:=qp hdt
    simp only[Env.get,hb,cond_false] at h
    simp only[AZ hdt]
    exact f.get t u h
def uD:List Nat→List Value→Env→Env
  |t::ts,v::vs,e=>uD ts vs ((t,v)::e)
  |_,_,e=>e
theorem oF.zip {n:Nat}:∀(ps:List Nat) (vs:List Value) {e:Env} {tmps:Array Value},oF e n tmps→ps.all (fun t=>Nat.blt t n)=true→
    oF (uD ps vs e) n ((ps.zip vs).foldl (fun tmps (p:Nat×Value)=>tmps.setIfInBounds p.1 p.2) tmps)
  |[],_,_,_,f,_=>by simpa[uD] using f
  |_::_,[],_,_,f,_=>by simpa[uD] using f
  |t::ts,v::vs,_,_,f,h=>by
   simp only[j5,bO] at h
   simp only[uD,List.zip_cons_cons,oE]
   exact oF.zip ts vs (f.put (jb h.1) v) h.2
def cW (q:Loop) (j:Option Code):Loop:={q with state:=if j.isNone then .ready else .done,pending:=j}
def wJ (q:Loop):Loop:={q with state:=.busy,pending:=none}
def Bv (q:Loop) (j:Option Code):Loop:={q with state:=.exhausted,pending:=j}
def Bw:List Item→Option Operand
  |.code (.rangeFunc x _ _ _)::_=>some x
  |_=>none
def sV:List Item→Array Tmp
  |.code (.rangeFunc _ ps _ _)::_=>ps
  |_=>#[]
def sW:List Item→Code
  |.code (.rangeFunc _ _ c _)::_=>c
  |_=>.skip
def sX:List Item→Code
  |.code (.rangeFunc _ _ _ u)::_=>u
  |_=>.skip
def dN (fn:FuncId) (tmps:Array Value) (k:List Item) (r:Nat):Loop:=
  {state:=.ready,pending:=none,fn,tmps,params:=sV k,assign:=sW k,body:=sX k,defers:=r}
def Ng (P:Program) (B:World) (l:Nat) (args:Array Value) (h:av) (R:Value→av→Prop):Prop:=
  ∀w,Is B h w→∃f tmps D G w',(Instr.yield l args).run P w=.ok (.round l f tmps D G) w'∧oq P l f tmps D G w' (fun v u=>Is B u.heap u∧R v u.heap)
def rq (P:Program) (B:World) (l:Nat) (args:Array Value) (h:av) (g:GH) (Lc:List au) (D:Value→GH→List au→Prop):Prop:=
  Ng P B l args h fun v h'=>∃g' u,St h g (aM Lc) g' u h'∧D v g' u
def Bx (P:Program) (B:World) (l:Nat) (R:Value→av→Prop) (j:Option Code) (a:Act) (w:World):Prop:=
  ∃v w',(Instr.endRound l j).run P w=.ok v w'∧Is B w'.heap w'∧R v w'.heap
def FF (P:Program) (B:World) (fn:FuncId) (n l:Nat) (k:List Item) (R:Value→av→Prop):fC:=
  {P,B,fn,n,code:=.round (sW k) (sX k),ro:=some l,Q:=Bx P B l R}
theorem oq.Nh {P:Program} {B:World} {l:Nat} {fn:FuncId} {tmps:Array Value} {u D:Code} {w:World} {R:Value→av→Prop}
    (H:eg P (some l) fn (Bx P B l R) [.code u,.beginRound,.code D] {tmps:=tmps,defers:=[]} w):oq P l fn tmps u D w (fun v w'=>Is B w'.heap w'∧R v w'.heap):=by
  intro c cs
  let b:Frame:={(default:Frame) with fn:=fn,kind:=.normal,roundOf:=some l}
  have hb0:Frame.round l fn tmps u D .normal=b.atR {tmps:=tmps,defers:=[]} [.code u,.beginRound,.code D]:=by
    simp[Frame.round,Frame.atR,b]
  obtain⟨j,k',J,w',⟨v,G,I,is,hR⟩,hl,st⟩:=H b (c::cs) rfl rfl rfl
  rw[←hb0] at st
  cases hl with
  |iN=>exact⟨v,G,⟨is,hR⟩,Steps.trans st (.one (stepR_round_end rfl rfl I))⟩
  |ret k=>exact⟨v,G,⟨is,hR⟩,Steps.trans st (.one (stepR_round_ret rfl rfl I))⟩
  |exit id k hx=>exact⟨v,G,⟨is,hR⟩,Steps.trans st (.one (stepR_round_exit rfl rfl hx I))⟩
theorem rq.ri {P:Program} {B:World} {l n:Nat} {k:List Item} {fn:FuncId} {tmps:Array Value} {r:Nat} {args:Array Value} {h:av} {g:GH} {Lc:List au} {D:Value→GH→List au→Prop} {e0 e:Env}
    (hl:h[l]?=some (.loop (cW (dN fn tmps k r) none))) (G:oF e0 n tmps) (hn:(sV k).toList.all (fun t=>Nat.blt t n)=true) (hs:args.size=(sV k).size) (he:uD (sV k).toList args.toList e0=e)
    (h0:norm 1000 [.code (sW k),.beginRound,.code (sX k)]=pt (.round (sW k) (sX k)) 0)
    (H:∀R:Value→av→Prop,(∀v h' g' u,St h g (aM Lc) g' u h'→D v g' u→R v h')→At (FF P B fn n l k R) [] 0 e h):rq P B l args h g Lc D:=by
  intro w is
  have H:=H (fun v h'=>∃g' u,St h g (aM Lc) g' u h'∧D v g' u) fun v h' g' u s p=>⟨g',u,s,p⟩
  have I:iD e n [] {tmps:=((sV k).toList.zip args.toList).foldl (fun tmps (p:Nat×Value)=>tmps.setIfInBounds p.1 p.2) tmps,defers:=[]}:=by
    have:=oF.zip (sV k).toList args.toList G hn
    rw[he] at this
    exact⟨rfl,this.size,this.get⟩
  have H:eg P (some l) fn (Bx P B l fun v h'=>∃g' u,St h g (aM Lc) g' u h'∧D v g' u) (pt (.round (sW k) (sX k)) 0) {tmps:=((sV k).toList.zip args.toList).foldl (fun tmps (p:Nat×Value)=>tmps.setIfInBounds p.1 p.2) tmps,defers:=[]} w:=H _ w I is
  rw[←h0] at H
  refine⟨fn,_,sW k,sX k,w,?_,oq.Nh (.norm 1000 H)⟩
  · have h1:=run_yield (P:=P) (w:=w) (l:=l) (r:=cW (dN fn tmps k r) none) (args:=args) (by rw[is.heap];exact hl) hs
    rw[h1]
    simp only[cW,dN]
    rw[←Array.foldl_toList,Array.toList_zip]
section
variable {h0:av} {g0:GH} {S0:Nat→Prop} {g:GH} {L:List au} {h:av}
theorem St.lq (s:St h0 g0 S0 g L h) (k:Nat) {b:Nat} {o:Obj} (hk:L[k]?=some [(b,o)]) (o':Obj):St h0 g0 S0 g (L.set k [(b,o')]) (h.setIfInBounds b o'):=
  s.uv k hk (iP.set o' (s.ag k hk))
end
theorem Is.lq {B:World} {h:av} {w:World} (i:Is B h w) (l:Nat) (o:Obj):Is B (h.setIfInBounds l o) {w with heap:=w.heap.setIfInBounds l o}:=
  ⟨by simp[i.heap],i.os,i.tape,i.output⟩
section
variable {C:fC} {ds:List Deferred} {i:Nat} {e:Env} {h:av} {h0:av} {g0:GH} {S0:Nat→Prop} {g:GH} {L:List au}
def FG:List Item→Bool
  |.beginRound::_=>true
  |_=>false
theorem At.beginRound {l:Nat} {q:Loop} (hro:C.ro=some l) (hk:FG (pt C.code i)=true) (s:St h0 g0 S0 g L h) (k:Nat) (hL:L[k]?=some [(l,.loop (cW q none))]) (j:Nat) (hj:norm 1000 (pt C.code i).tail=pt C.code j)
    (K:∀h',St h0 g0 S0 g (L.set k [(l,.loop (wJ q))]) h'→At C ds j e h'):At C ds i e h:=by
  intro a w f is
  have K:=K _ (s.lq k hL (.loop (wJ q))) a {w with heap:=w.heap.setIfInBounds l (.loop (wJ q))} f (is.lq l _)
  have hq:=s.ag k hL
  rw[←hj] at K
  generalize pt C.code i=u at *
  unfold FG at hk
  split at hk
  · rename_i k'
    refine eg.step (k₁:=k') (fun b cs hf hr=>stepR_beginRound (hr.trans hro) ?_) (.norm 1000 K)
    exact run_beginRound (P:=C.P) (w:=w) (l:=l) (r:=cW q none) (by rw[is.heap];exact hq) rfl
  · cases hk
def By:List Item→Option (Option Code)
  |[]=>some none
  |.code .ret::_=>some (some .ret)
  |.code (.exit id)::k=>match exitTo id k with
   |none=>some (some (.exit id))
   |some _=>none
  |_=>none
theorem Ni {k:List Item} {j:Option Code} (h:By k=some j):sK j k:=by
  unfold By at h
  split at h
  · simp only[eN] at h;subst h;exact .iN
  · simp only[eN] at h;subst h;exact .ret _
  · split at h
    · rename_i hx;simp only[eN] at h;subst h;exact .exit _ _ hx
    · cases h
  · cases h
theorem At.wK {P:Program} {B:World} {fn:FuncId} {n l:Nat} {u:List Item} {R:Value→av→Prop} {q:Loop} {j:Option Code} (hl:By (pt (.round (sW u) (sX u)) i)=some j) (s:St h0 g0 S0 g L h) (k:Nat) (hL:L[k]?=some [(l,.loop (wJ q))])
    (K:∀h',St h0 g0 S0 g (L.set k [(l,.loop (cW q j))]) h'→R (.bool j.isNone) h'):At (FF P B fn n l u R) ds i e h:=by
  intro a w f is
  have hq:=s.ag k hL
  refine eg.qj (Ni hl) ⟨.bool j.isNone,{w with heap:=w.heap.setIfInBounds l (.loop (cW q j))},?_,?_,?_⟩
  · exact run_endRound (P:=P) (w:=w) (l:=l) (r:=wJ q) j (by rw[is.heap];exact hq)
  · exact(is.lq l _).again
  · have:=K _ (s.lq k hL (.loop (cW q j)))
    rw[←is.heap] at this
    exact this
def mark (r:Nat):Deferred:={target:=.collected r,args:=#[]}
def iG (C:fC) (ds:List Deferred) (k:List Item) (e:Env) (h:av):Prop:=
  ∀a w,iD e C.n ds a→Is C.B h w→eg C.P C.ro C.fn C.Q k a w
theorem At.yQ (H:iG C ds (pt C.code i) e h):At C ds i e h:=H
theorem iG.br {k:List Item} (j:Nat) (hj:norm 1000 k=pt C.code j) (H:At C ds j e h):iG C ds k e h:=
  fun a w f is=>.norm 1000 (by rw[hj];exact H a w f is)
def sY (C:fC) (ds:List Deferred) (k:List Item) (l:Nat) (e:Env) (h:av) (f:FuncId) (args:Array Value):Prop:=
  ∀a w,iD e C.n ds a→Is C.B h w→∀(b:Frame) (cs:List Frame),b.fn=C.fn→b.roundOf=C.ro→b.kind=.normal→
   ∃j k' u w',C.Q j u w'∧sK j k'∧Steps C.P (lone (Frame.enter C.P f args .normal) (b.atR a (.inRangeFunc l::k)::cs) w) (lone (b.atR u k') cs w')
theorem Nj {k:List Item} {x:Operand} (h:Bw k=some x):∃ps u D k',k=.code (.rangeFunc x ps u D)::k':=by
  unfold Bw at h
  split at h
  · simp only[eN] at h;subst h;exact⟨_,_,_,_,rfl⟩
  · cases h
theorem At.rangeFunc {x:Operand} {f:FuncId} {cp:Array Value} (hk:Bw (pt C.code i)=some x) (hro:C.ro=none) (hc:e.qq x=true) (hx:e.ev x=.func (.func f) #[] cp) (hf:ei C.P f) (s:St h0 g0 S0 g L h)
    (K:∀r l tmps h1,oF e C.n tmps→St h0 g0 S0 g ([(l,.loop (cW (dN C.fn tmps (pt C.code i) r) none))]::[(r,.deferred (some []))]::L) h1→
      sY C (mark r::ds) (pt C.code i).tail l e h1 f (#[.func (.yield l) #[] #[]]++cp)):At C ds i e h:=by
  intro a w ft is b cs u D O
  have hsz:w.heap.size+1=(h.push (.deferred (some []))).size:=by rw[is.heap];simp
  have s1:=s.alloc (.deferred (some []))
  have s2:=s1.alloc (.loop (cW (dN C.fn a.tmps (pt C.code i) h.size) none))
  have K:=K h.size (h.push (.deferred (some []))).size a.tmps _ ft.toT s2 {a with defers:=mark h.size::ds}
    ((w.alloc (.deferred (some []))).alloc (.loop (cW (dN C.fn a.tmps (pt C.code i) h.size) none))) ⟨rfl,ft.size,ft.get⟩ ⟨by simp[World.alloc,is.heap],is.os,is.tape,is.output⟩ b cs u D O
  have G:=ft.eval hc
  rw[hx] at G
  obtain⟨ps,I,J,k',hkk⟩:=Nj hk
  rw[hkk] at K ⊢
  · obtain⟨fn,hfn,hname,X⟩:=hf.out
    have hb:fn.body.isNone=false:=by cases hb:fn.body<;>simp_all
    obtain⟨j,U,V,w₂,hq,hl,st⟩:=K
    have he:=run_enterLoop_outer (P:=C.P) (w:=w) b.fn a.tmps ps I J
    rw[is.heap] at he
    let W:World:=(w.alloc (.deferred (some []))).alloc (.loop {state:=.ready,pending:=none,fn:=b.fn,tmps:=a.tmps,params:=ps,assign:=I,body:=J,defers:=h.size})
    refine⟨j,U,V,w₂,hq,hl,.head (stepR_rangeFunc (w₁:=W) (w₁':=W) (w₂:=W) (l:=(h.push (.deferred (some []))).size) (mark:=[mark h.size]) (f:=f) (d:={target:=.fn (.func f) cp,args:=#[]++#[.func (.yield (h.push (.deferred (some []))).size) #[] #[]]})
      (args:=#[.func (.yield (h.push (.deferred (some []))).size) #[] #[]]++cp) (by rw[D,hro];simpa[mark] using he) ?_ ?_) ?_⟩
    · simp only[rangeCall,resolve,G,Deferred.ofValue,Sem.run_pure]
      simp[Act.eval]
    · simp only[invoke,callFunc,Sem.run_bind,run_program,Result.andThen_ok,hfn,hname,hb,fZ,de]
      rfl
    · have hd:mark h.size::ds=[mark h.size]++a.defers:=by rw[ft.defers];rfl
      rw[←hd]
      rw[←u] at st
      exact st
theorem sY.call {k:List Item} {l:Nat} {f:FuncId} {args:Array Value} {Lc:List au} {D:Value→GH→List au→Prop} (s:St h0 g0 S0 g (Lc++L) h) (H:aA C.P C.B f args h g Lc D)
    (K:∀v g' u h',aG g g'→St h0 g0 S0 g' (u++L) h'→D v g' u→iG C ds (.endRangeFunc l::k) e h'):sY C ds k l e h f args:=by
  intro a w ft is b cs G I J
  obtain⟨Z,w',ab,⟨v,rfl,O,g',u,t,U⟩,V,_,X⟩:=H w is (b.atR a (.inRangeFunc l::k)::cs)
  obtain⟨j,k',Y,w₂,hq,hl,st⟩:=K v g' u _ t.le (s.join t) U a w' ft O b cs G I J
  refine⟨j,k',Y,w₂,hq,hl,Steps.trans V (.head ?_ st)⟩
  rw[←finish_atR_inRangeFunc l v];exact step_leave_returned X
theorem iG.wL {k:List Item} {l:Nat} {q:Loop} {j:Option Code} (s:St h0 g0 S0 g L h) (n:Nat) (hL:L[n]?=some [(l,.loop (cW q j))])
    (K:∀h',St h0 g0 S0 g (L.set n [(l,.loop (Bv q j))]) h'→iG C ds ((j.map Item.code).toList++k) e h'):iG C ds (.endRangeFunc l::k) e h:=by
  intro a w f is
  have K:=K _ (s.lq n hL (.loop (Bv q j))) a {w with heap:=w.heap.setIfInBounds l (.loop (Bv q j))} f (is.lq l _)
  have hq:=s.ag n hL
  refine eg.step (fun b cs hf hr=>stepR_endRangeFunc (jump:=j) ?_) K
  exact run_endLoop (P:=C.P) (w:=w) (l:=l) (r:=cW q j) (by rw[is.heap];exact hq) (by cases j<;>simp[cW])
end
def sZ (rs:List Nat):List Deferred:=rs.map mark
def Bz (rs:List Nat):List au:=rs.map fun r=>[(r,.deferred (some []))]
theorem ox.sZ {P:Program} {B:World} {h0:av} {g0:GH} {S0:Nat→Prop} {g:GH} {L:List au}:∀(rs:List Nat) {h:av},St h0 g0 S0 g (Bz rs++L) h→∀w,Is B h w→∃w',ox P (sZ rs) w w'∧Is B w'.heap w'∧St h0 g0 S0 g L w'.heap
  |[],h,s,w,is=>⟨w,.nil w,is.again,by rw[is.heap];exact s⟩
  |r::rs,h,s,w,is=>by
   have hb:=s.ag 0 (b:=r) rfl
   have s1:=(s.lq 0 (b:=r) rfl (.deferred none)).drop
   obtain⟨w',hd,u,D⟩:=ox.sZ rs (L:=L) s1 {w with heap:=w.heap.setIfInBounds r (.deferred none)} (is.lq r _)
   exact⟨w',.cons rfl (run_takeDeferred (P:=P) (w:=w) (b:=r) (ds:=[]) (by rw[is.heap];exact hb)) hd,u,D⟩
section
variable {P:Program} {B:World} {fn:FuncId} {f:Func} {R:Value→av→Prop} {k:List Item} {e:Env} {h:av} {h0:av} {g0:GH} {S0:Nat→Prop} {g:GH} {L:List au}
theorem iG.BA {v:Value} (rs:List Nat) (hi:mZ k=true) (hv:sP f e=some v) (s:St h0 g0 S0 g (Bz rs++L) h) (K:∀h',St h0 g0 S0 g L h'→R v h'):iG (bS P B fn f R) (sZ rs) k e h:=by
  intro a w ft is
  show eg P none fn (pn P B f R) k a w
  have hq:∀j,(j=none∨j=some .ret)→pn P B f R j a w:=fun j hj=>by
    obtain⟨w₂,hd,u,D⟩:=ox.sZ (P:=P) rs s w is
    exact⟨hj,w₂,v,by rw[ft.defers];exact hd,E1 ft hv w₂,u,K _ D⟩
  unfold mZ at hi
  split at hi
  · exact .qj .iN (hq _ (.inl rfl))
  · exact .qj (.ret _) (hq _ (.inr rfl))
  · cases hi
theorem iG.FH {v:Value} {vs:List Value} {rl:List ResultVar} (rs:List Nat) (hi:mZ k=true) (hr:f.results.toList=rl) (u:(if hs:vs.toArray.size=1 then vs.toArray[0] else .tuple vs.toArray)=v) (s:St h0 g0 S0 g (Bz rs++L) h)
    (K:∀h',St h0 g0 S0 g L h'→pG P e h' rl vs∧R v h'):iG (bS P B fn f R) (sZ rs) k e h:=by
  intro a w ft is
  subst u
  subst hr
  show eg P none fn (pn P B f R) k a w
  have hq:∀j,(j=none∨j=some .ret)→pn P B f R j a w:=fun j hj=>by
    obtain⟨w₂,hd,D,G⟩:=ox.sZ (P:=P) rs s w is
    obtain⟨hv,hR⟩:=K _ G
    exact⟨hj,w₂,_,by rw[ft.defers];exact hd,Fp ft hv w₂ rfl,D,hR⟩
  unfold mZ at hi
  split at hi
  · exact .qj .iN (hq _ (.inl rfl))
  · exact .qj (.ret _) (hq _ (.inr rfl))
  · cases hi
end
section
variable {C:fC} {ds:List Deferred} {i j:Nat} {r:av} {M:Nat→Prop} {Ls:List (Nat×Bool)} {e:Env} {h:av}
variable {h0:av} {g0:GH} {S0:Nat→Prop} {g:GH} {L L':List au}
theorem Op.yield {dst:Option Tmp} {x:Operand} {ops:Array Operand} {ts:Array TypeId} {l:Nat} {args:Array Value} {Lc:List au} {D:Value→GH→List au→Prop}
    (ho:c7 C i j e=some (dst,.call {callee:=.value x,args:=ops,argTypes:=ts})) (hx:e.ev x=.func (.yield l) #[] #[]) (ha:ops.map e.ev=args)
    (s:St h0 g0 S0 g (Lc++L) h) (H:rq C.P C.B l args h g Lc D) (hM:∀b,b<r.size→aM Lc b→M b)
    (K:∀v g' u h',aG g g'→St h0 g0 S0 g' (u++L) h'→D v g' u→Op C ds i r M Ls (e.gd dst v) h'):Op C ds i r M ((j,false)::Ls) e h:=by
  obtain⟨o,h1,rfl,h3⟩:=gw ho
  refine Op.wo h1 fun w is hk a ft=>?_
  obtain⟨f,tmps,G,I,w',hy,hR⟩:=H w is
  have hrun:(fc e o).run C.P w=.ok (.round l f tmps G I) w':=by
    subst ha
    unfold fc execOp
    simp only[h3,resolve,hx,Deferred.ofValue,Sem.run_bind,Sem.run_pure,Result.andThen_ok,invoke]
    rw[show(#[]++ops.map e.ev:Array Value)=ops.map e.ev from by simp]
    exact hy
  rw[hrun]
  refine oq.mono hR fun v U ⟨J,g',u,t,O⟩=>?_
  exact⟨⟨t.jd hM hk,J⟩,_,ft.gd (q_ h1).2.2.2.1 v,K v g' u _ t.le (s.join t) O⟩
end
def ru {α:Type} (P:Program) (B:World) (l:Nat) (D:GH→α→Array Value→Prop) (ord:List α→Prop) (go:List α→Bool) (I:List α→GH→au→Prop) (g0:GH):Prop:=
  ∀(h:av) (g:GH) (xs:List α) (x:α) (args:Array Value) (c:au),aG g0 g→bh g→go xs=true→D g x args→(∃u,ord u∧xs++[x] <+: u)→I xs g c→St h g (aM [c]) g [c] h→
   rq P B l args h g [c] fun v g' L'=>∃c',v=.bool (go (xs++[x]))∧L'=[c']∧I (xs++[x]) g' c'
def jD {α:Type} (P:Program) (g:GH) (f:FuncId) (cp:Array Value) (D:GH→α→Array Value→Prop) (ord:List α→Prop):Prop:=
  ∀(B:World) (h:av) (g':GH) (l:Nat) (I:List α→GH→au→Prop) (go:List α→Bool) (c:au),aG g g'→bf g' h→bh g'→ru P B l D ord go I g'→go []=true→I [] g' c→St h g' (aM [c]) g' [c] h→
   aA P B f (#[.func (.yield l) #[] #[]]++cp) h g' [c] fun v G L'=>∃u xs c',v=.tuple #[]∧ord u∧xs <+: u∧(go xs=true→xs=u)∧(∀ys,ys <+: xs→ys≠xs→go ys=true)∧L'=[c']∧I xs G c'
theorem jD.mono {α:Type} {P:Program} {g g':GH} {f:FuncId} {cp:Array Value} {u:GH→α→Array Value→Prop} {ord:List α→Prop} (H:jD P g f cp u ord) (hg:aG g g'):jD P g' f cp u ord:=
  fun B h k l I go c hk=>H B h k l I go c (aG.trans hg hk)
theorem ru.mono {α:Type} {P:Program} {B:World} {l:Nat} {u:GH→α→Array Value→Prop} {ord:List α→Prop} {go:List α→Bool} {I:List α→GH→au→Prop} {g g':GH} (H:ru P B l u ord go I g) (hg:aG g g'):ru P B l u ord go I g':=
  fun h k xs x args c hk=>H h k xs x args c (aG.trans hg hk)
end Go.Proofs.YtpacclkciilmpaaGreatDoor.Sw
