/- Lemmas for laws of this seat. -/
import Derived.Test.YtpacclkciilmpaaGreatDoorGBG
import Derived.Lib.Overlaps
set_option maxHeartbeats 4000000
namespace Go.Proofs.YtpacclkciilmpaaGreatDoor.Sw
set_option linter.unusedVariables false
set_option linter.unusedSimpArgs false
set_option linter.deprecated false
open Go
set_option linter.defProp false
def wH:=@List.find?_cons
def fe:=@List.mem_cons
def pH:=@List.nodup_cons
def Bs:=@List.pairwise_flatten
def oB:=@List.pairwise_iff_getElem
def wI:=@List.getElem_map
theorem nJ {g:GH} {p:Nat×Obj}:∀{c:au},(c.map (·.1)).Nodup→p∈c→cQ g c p.1=some p.2
  |[],_,h=>by cases h
  |q::c,hn,h=>by
   unfold cQ
   rw[wH]
   by_cases hq:q.1=p.1
   · have:Nat.beq q.1 p.1=true:=by rw[hq];simp
     simp only[this]
     rcases fe.1 h with rfl|h
     · rfl
     · rw[e_,pH] at hn
       exact absurd (cF.2 ⟨p,h,hq.symm⟩) hn.1
   · have:Nat.beq q.1 p.1=false:=qp hq
     simp only[this]
     rcases fe.1 h with rfl|h
     · exact absurd rfl hq
     · rw[e_,pH] at hn
       exact nJ hn.2 h
section
variable {h0:av} {g0:GH} {S0:Nat→Prop} {g:GH} {L L':List au} {c:au} {h h':av}
theorem St.oC (s:St h0 g0 S0 g (c::L) h):(c.map (·.1)).Nodup:=by
  have:=s.nodup
  rw[cg,gp,mF] at this
  exact this.1
theorem St.gi (s:St h0 g0 S0 g (c::L) h):aG g (cQ g c):=s.freeze.2
theorem St.ij (s:St h0 g0 S0 g (c::L) h):bf (cQ g c) h:=s.freeze.1.sub
theorem aF.fK {α:Type} {T:TypeId} {d:Kd α} {v:Value} {xs:List α} (hr:aF T d g v xs c) (s:St h0 g0 S0 g (c::L) h):ay (cQ g c) T d v xs:=by
  rcases hr.old with ⟨ao,rfl,rfl,_⟩|⟨b,o,cap,cur,rfl,rfl,h1,h2,h3,h4⟩
  · exact ay.empty _ _ _ _ _
  · exact⟨_,cap,rfl,h1,fun _=>⟨b,o,cur,(T,0,0),rfl,iQ _ _,h4.mono s.gi⟩⟩
theorem aF.lp {α:Type} {T:TypeId} {d:Kd α} {v:Value} {xs:List α} {c':au} (hr:aF T d g v xs c') (s:St h0 g0 S0 g (c::L) h) (hc:∀p∈c',p∈c):ay (cQ g c) T d v xs:=by
  rcases hr.old with ⟨ao,rfl,rfl,_⟩|⟨b,o,cap,cur,rfl,rfl,h1,h2,h3,h4⟩
  · exact ay.empty _ _ _ _ _
  · exact⟨_,cap,rfl,h1,fun _=>⟨b,o,cur,(T,0,0),rfl,nJ s.oC (hc _ (gv.2 rfl)),h4.mono s.gi⟩⟩
theorem St.uC (s:St h0 g0 S0 g (c::L) h) (t:St h0 g0 S0 (cQ g c) L' h'):St h0 g0 S0 g (c::L') h':=by
  have hc:∀p∈c,p∈(c::L).flatten:=fun p hp=>by simp[cg,hp]
  have hk:=s.oC
  have hle:=s.gi
  refine⟨t.size,t.frame,s.le,s.new,fun b o hb=>t.sub b o (hle b o hb),?_,?_,?_,?_⟩
  · intro p hp
    rw[cg,cU] at hp
    rcases hp with hp|hp
    · exact t.sub _ _ (nJ hk hp)
    · exact t.k9 p hp
  · rw[cg,gp,mF]
    refine⟨hk,t.nodup,?_⟩
    intro x hx y hy he
    obtain⟨p,hp,rfl⟩:=cF.1 hx
    obtain⟨q,hq,rfl⟩:=cF.1 hy
    have h1:=nJ (g:=g) hk hp
    have h2:=t.sep q hq
    rw[←he,h1] at h2
    cases h2
  · intro p hp
    rw[cg,cU] at hp
    rcases hp with hp|hp
    · exact s.sep p (hc p hp)
    · cases hg:g p.1 with
      |none=>rfl
      |some x=>have:=hle _ _ hg;rw[t.sep p hp] at this;cases this
  · intro p hp
    rw[cg,cU] at hp
    rcases hp with hp|hp
    · exact s.own p (hc p hp)
    · exact t.own p hp
theorem St.ji (s:St h0 g0 S0 g L h):St h0 g0 S0 g0 L h:=
  ⟨s.size,s.frame,aG.refl _,fun _ hb=>.inl hb,fun b o hb=>s.sub b o (s.le b o hb),s.k9,s.nodup,fun p hp=>(by
    cases hg:g0 p.1 with
    |none=>rfl
    |some x=>have:=s.le _ _ hg;rw[s.sep p hp] at this;cases this),s.own⟩
theorem ay.br {α:Type} {T:TypeId} {d:Kd α} {ao:Option Addr} {n c:Nat} {xs:List α} (hs:ay g T d (.slice ao n c) xs) (i:Nat) {x:α} (hi:xs[i]?=some x):
    ∃(b o:Nat) (cur:Array Value) (fz:TypeId×Nat×Nat),ao=some ⟨b,o,none⟩∧g b=some (.cells cur fz.1 fz.2)∧d.K g x (cut cur (o+i*d.sz) d.sz):=by
  obtain⟨u,c',e,hc,H⟩:=hs
  simp only[Value.slice.injEq] at e
  obtain⟨rfl,rfl,rfl⟩:=e
  have hlt:i<xs.length:=(dL.1 hi).1
  obtain⟨b,o,cur,fz,e,hb,hr⟩:=H (by intro hx;subst hx;simp at hlt)
  refine⟨b,o,cur,fz,e,hb,?_⟩
  have:=hr.br i hi
  rwa[sR] at this
  have:(i+1)*d.sz≤xs.length*d.sz:=iC _ hlt
  rw[kZ] at this
  exact this
def Kd.FB {α:Type} (d:Kd α):Prop:=∀g g' x cs,d.K g x cs→d.K g' x cs
theorem Bt {α:Type} {d:Kd α} (hd:d.FB) {g g':GH}:∀{xs:List α} {cs:List Value},Reads d g xs cs→Reads d g' xs cs
  |[],_,h=>h
  |_::_,_,⟨c,cs',e,hk,h⟩=>⟨c,cs',e,hd _ _ _ _ hk,Bt hd h⟩
theorem aF.aX {α:Type} {T:TypeId} {d:Kd α} (hd:d.FB) {g g':GH} {v:Value} {xs:List α} (hr:aF T d g v xs c):aF T d g' v xs c:=by
  rcases hr with h|⟨b,o,cap,cur,rest,e1,e2,h1,h2,h3,h4⟩
  · exact .inl h
  · exact .inr ⟨b,o,cap,cur,rest,e1,e2,h1,h2,h3,Bt hd h4⟩
end
section
variable {C:fC} {ds:List Deferred} {i j:Nat} {r:av} {M:Nat→Prop} {Ls:List (Nat×Bool)} {e:Env} {h:av}
variable {h0:av} {g0:GH} {S0:Nat→Prop} {g:GH} {L L':List au}
theorem Op.M9 {o:Oper} {f:FuncId} {args:Array Value} {u:au} {Lc:List au} {G:Value→GH→List au→Prop} (h1:lM C i j e=some o)
    (hp:∀w,(fc e o).run C.P w=.ok (.enter f args) w)
    (s:St h0 g0 S0 g (u::(Lc++L)) h) (H:aA C.P C.B f args h (cQ g u) Lc G) (hq:∀v g' L',G v g' L'→g'=cQ g u) (hM:∀b,b<r.size→aM Lc b→M b)
    (K:∀v D h',St h0 g0 S0 g (u::(D++L)) h'→G v (cQ g u) D→Op C ds i r M Ls (e.gd o.dst v) h'):Op C ds i r M ((j,false)::Ls) e h:=by
  refine Op.wo h1 fun w is hk a ft=>?_
  rw[hp w]
  refine Calls.mono (H w is) fun O w' ⟨v,he,J,g',D,t,I⟩=>?_
  obtain rfl:=hq _ _ _ I
  exact⟨v,he,⟨t.jd hM hk,J⟩,_,ft.gd (q_ h1).2.2.2.1 v,K v D _ (s.uC (s.freeze.1.join t)) I⟩
theorem Op.M_ {dst:Option Tmp} {f:FuncId} {args:Array Value} {u:au} {Lc:List au} {D:Value→GH→List au→Prop} (ho:qy C i j e=some (dst,f,args))
    (s:St h0 g0 S0 g (u::(Lc++L)) h) (H:aA C.P C.B f args h (cQ g u) Lc D) (hq:∀v g' L',D v g' L'→g'=cQ g u) (hM:∀b,b<r.size→aM Lc b→M b)
    (K:∀v G h',St h0 g0 S0 g (u::(G++L)) h'→D v (cQ g u) G→Op C ds i r M Ls (e.gd dst v) h'):Op C ds i r M ((j,false)::Ls) e h:=by
  obtain⟨o,h1,rfl,hp⟩:=E_ ho
  exact Op.M9 h1 (ur _ hp) s H hq hM K
end
def pI {α:Type} (P:Program) (g:GH) (f:Nat) (cp:Array Value) (enc:α→Value) (ok:α→Prop) (q:α→Bool):Prop:=
  ∀(B:World) (h:av) (g':GH),aG g g'→bf g' h→bh g'→∀x,ok x→aA P B f (#[enc x]++cp) h g' [] (fun v u L'=>v=.bool (q x)∧u=g'∧L'=[])
theorem pI.mono {α:Type} {P:Program} {g g':GH} {f:Nat} {cp:Array Value} {enc:α→Value} {ok:α→Prop} {q:α→Bool} (H:pI P g f cp enc ok q) (hg:aG g g'):pI P g' f cp enc ok q:=
  fun B h k hk=>H B h k (aG.trans hg hk)
theorem aA.args {P:Program} {B:World} {f:FuncId} {args u:Array Value} {h:av} {g:GH} {Lc:List au} {D:Value→GH→List au→Prop} (e:args=u) (H:aA P B f args h g Lc D):aA P B f u h g Lc D:=e▸H
theorem FC {k:IntKind} (x:Int) (m:Nat) (q:Int) (hq:(2:Int) ^ m=q) (h:0≤q):Value.int k (Int.fdiv x (2 ^ m))=.int k (x / q):=by
  subst hq;rw[Int.fdiv_eq_ediv_of_nonneg _ h]
theorem Na {n:Int} (h0:0≤n) (h1:n≤18446744073709551615):Value.int .u64 (IntKind.wrap .u64 n)=Value.int .u64 n:=by
  rw[show IntKind.wrap .u64 n=n from by rw[IntKind.wrap_u64];omega]
theorem St.ne {h0:av} {g0:GH} {S0:Nat→Prop} {g:GH} {L:List au} {h:av} (s:St h0 g0 S0 g L h) (i j:Nat) (u:Nat.blt i j=true) {b1 b2:Nat} {o1 o2:Obj} (h1:L[i]?=some [(b1,o1)]) (h2:L[j]?=some [(b2,o2)]):b1≠b2:=by
  have u:i<j:=jb u
  intro e
  have hn:=s.nodup
  rw[List.Nodup,List.map_flatten,Bs] at hn
  obtain⟨hi,e1⟩:=dL.1 h1
  obtain⟨hj,e2⟩:=dL.1 h2
  have:=oB.1 hn.2 i j (by simpa using hi) (by simpa using hj) u
  simp only[wI,e1,e2,e_,l5,e] at this
  exact this b2 (by simp) b2 (by simp) rfl
theorem Nb {b o:Nat} (lo c sz:Nat):∃o',ek (some ⟨b,o,none⟩) lo c sz=some ⟨b,o',none⟩:=by
  unfold ek
  split
  · exact⟨o,rfl⟩
  · exact⟨o+lo*sz,by simp[k_]⟩
theorem Nc {x:Option Addr} {b o:Nat} (h:x=some ⟨b,o,none⟩) (lo c sz:Nat):∃o',ek x lo c sz=some ⟨b,o',none⟩:=by rw[h];exact Nb lo c sz
theorem FD {e:Env} {x:Operand} {v:Value} {cp:Array Value} (h:e.ev x=v):#[]++#[x].map e.ev++cp=#[v]++cp:=by subst h;simp
theorem aF.FE {α:Type} {T:TypeId} {d:Kd α} {g:GH} {ao:Option Addr} {n c:Nat} {xs:List α} {D:au} (hs:aF T d g (.slice ao n c) xs D):n=xs.length∧xs.length≤c:=by
  rcases hs.old with ⟨_,u,rfl,_⟩|⟨b,o,cap,cur,u,_,hc,_⟩
  · simp only[Value.slice.injEq] at u
    exact⟨u.2.1,by simp⟩
  · simp only[Value.slice.injEq] at u
    obtain⟨_,rfl,rfl⟩:=u
    exact⟨rfl,hc⟩
theorem yP {α:Type} {xs ys:List α} {lo:Nat} (h:lo≤xs.length):(putAt xs lo (ys.take (xs.length-lo))).length=xs.length:=wD (by rw[dD];omega)
theorem Nd {α:Type} {xs:List α} {z:α} {lo:Nat} (h:lo≤xs.length):(putAt xs lo (List.replicate (xs.length-lo) z)).length=xs.length:=wD (by rw[oz];omega)
theorem oD {A B:List au} (h:∀c∈A,c∈B) {b:Nat} (hi:aM A b):aM B b:=by
  obtain⟨p,hp,e⟩:=hi
  obtain⟨c,hc,hp⟩:=q7.1 hp
  exact⟨p,q7.2 ⟨c,h c hc,hp⟩,e⟩
theorem U5 {c:au} {A:List au} {b:Nat} (hi:aM (c::A) b):aM [c] b∨aM A b:=by
  obtain⟨p,hp,e⟩:=hi
  rw[cg,cU] at hp
  rcases hp with hp|hp
  · exact .inl ⟨p,by simpa using hp,e⟩
  · exact .inr ⟨p,hp,e⟩
theorem St.apart {h0:av} {g0:GH} {S0:Nat→Prop} {g:GH} {L:List au} {h:av} (s:St h0 g0 S0 g L h) (i j:Nat) (u:Nat.beq i j=false) {b:Nat} {o:Obj} {c:au} (h1:L[i]?=some [(b,o)]) (h2:L[j]?=some c):¬aM [c] b:=by
  rintro⟨p,hp,e⟩
  simp only[cg,List.flatten_nil,dh] at hp
  have hn:=s.nodup
  rw[List.Nodup,List.map_flatten,Bs] at hn
  obtain⟨hi,e1⟩:=dL.1 h1
  obtain⟨hj,e2⟩:=dL.1 h2
  have hne:i≠j:=fun e=>by subst e;simp at u
  have key:=oB.1 hn.2
  rcases Nat.lt_or_gt_of_ne hne with hl|hl
  · have:=key i j (by simpa using hi) (by simpa using hj) hl
    simp only[wI,e1,e2] at this
    exact this b (by simp) p.1 (cF.2 ⟨p,hp,rfl⟩) e.symm
  · have:=key j i (by simpa using hj) (by simpa using hi) hl
    simp only[wI,e1,e2] at this
    exact this p.1 (cF.2 ⟨p,hp,rfl⟩) b (by simp) e
def Bu (P:Program) (f:FuncId):Option (Array Value→Sem Value):=match P.funcs[f]? with
  |some fn=>if (fn.name=="runtime.NumGoroutine")=true then none else if fn.body.isNone=true then (match Extern.findNext fn with|some _=>none|none=>Extern.find fn) else none
  |none=>none
theorem Nf {P:Program} {f:FuncId} {g:Array Value→Sem Value} (h:Bu P f=some g) {args:Array Value} {w w':World} {v:Value} (hg:(g args).run P w=.ok v w'):(callFunc f args).run P w=.ok (.value v) w':=by
  unfold Bu at h
  unfold callFunc
  simp only[Sem.run_bind,run_program,Result.andThen_ok]
  split at h
  · rename_i fn hf
    rw[hf]
    split at h
    · cases h
    · rename_i hn
      split at h
      · rename_i hb
        split at h
        · cases h
        · rename_i u
          simp only[hn,fZ,de,hb,iA,u,h]
          simp[hg]
      · cases h
  · cases h
section
variable {C:fC} {ds:List Deferred} {i j:Nat} {r:av} {M:Nat→Prop} {Ls:List (Nat×Bool)} {e:Env} {h:av}
theorem Op.overlaps {dst:Nat} {f:FuncId} {x y:Operand} {t E tb:TypeId} {sz cR:Nat} {ts:Array TypeId} {b1 o1 n1 c1 b2 n2 c2:Nat} {a2:Option Addr} {G u:Array Value} {J O:TypeId}
    (ho:c7 C i j e=some (some dst,.call {callee:=.value (.func f),args:=#[x,y],argTypes:=ts}))
    (he:Bu C.P f=some (Extern.SlicesOverlaps.overlaps #[t,t] #[tb])) (hE:kD C.P t=some (E,sz,cR))
    (hx:e.ev x=.slice (some ⟨b1,o1,none⟩) n1 c1) (hy:e.ev y=.slice a2 n2 c2) (ha:∃o2,a2=some ⟨b2,o2,none⟩) (D:h[b1]?=some (.cells G J (0,0))) (U:h[b2]?=some (.cells u O (0,0))) (hne:b1≠b2) (hs:u.size≠0)
    (K:Op C ds i r M Ls ((dst,.bool false)::e) h):Op C ds i r M ((j,false)::Ls) e h:=by
  obtain⟨o',h1,h2,h3⟩:=gw ho
  obtain⟨X,z,I⟩:=qx hE
  refine Op.run h1 (R:=fun V h'=>V=.value (.bool false)∧h'=h) ?_ ?_
  · intro w is
    refine⟨_,w,?_,is.again,rfl,is.heap⟩
    unfold fc execOp
    simp only[h3,resolve,Sem.run_bind,Sem.run_pure,Result.andThen_ok,invoke]
    have hq:#[x,y].map e.ev=#[.slice (some ⟨b1,o1,none⟩) n1 c1,.slice a2 n2 c2]:=by simp[hx,hy]
    simp only[hq,Env.ev,Deferred.ofValue,Sem.run_bind,Sem.run_pure,Result.andThen_ok]
    rw[show(#[]++#[Value.slice (some ⟨b1,o1,none⟩) n1 c1,.slice a2 n2 c2]++#[]:Array Value)=#[.slice (some ⟨b1,o1,none⟩) n1 c1,.slice a2 n2 c2] from rfl]
    refine Nf he ?_
    obtain⟨o2,rfl⟩:=ha
    · refine Lib.run_overlaps_apart w t tb E I.under sz (fun w'=>by simp[sizeOf,typeInfo,I.info,I.size]) _ _ _ _ _ _ (by simpa using hne) J O G.size u.size ?_ ?_ hs ?_ ?_
      · simp[World.shape?,is.heap,D]
      · simp[World.shape?,is.heap,U]
      · simp[World.frozen?,is.heap,D]
      · simp[World.frozen?,is.heap,D]
  · rintro _ _ ⟨rfl,rfl⟩
    refine⟨_,rfl,fun hk=>hk,?_⟩
    rw[h2]
    exact K
end
end Go.Proofs.YtpacclkciilmpaaGreatDoor.Sw
