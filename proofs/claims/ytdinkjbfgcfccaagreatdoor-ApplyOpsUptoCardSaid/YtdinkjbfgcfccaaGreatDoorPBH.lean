/- Lemmas for laws of this seat. -/
import Derived.Test.YtdinkjbfgcfccaaGreatDoorPBG
import Derived.Lib.Overlaps
set_option maxHeartbeats 4000000
namespace Go.Proofs.YtdinkjbfgcfccaaGreatDoor.Sw
set_option linter.unusedVariables false
set_option linter.unusedSimpArgs false
set_option linter.deprecated false
open Go
set_option linter.defProp false
def wJ:=@List.find?_cons
def eO:=@List.mem_cons
def pL:=@List.nodup_cons
def FJ:=@List.pairwise_flatten
def yz:=@List.pairwise_iff_getElem
def wK:=@List.getElem_map
theorem nV {g:GH} {p:Nat×Obj}:∀{c:az},(c.map (·.1)).Nodup→p∈c→cS g c p.1=some p.2
  |[],_,h=>by cases h
  |q::c,hn,h=>by
   unfold cS
   rw[wJ]
   by_cases hq:q.1=p.1
   · have:Nat.beq q.1 p.1=true:=by rw[hq];simp
     simp only[this]
     rcases eO.1 h with rfl|h
     · rfl
     · rw[eS,pL] at hn
       exact absurd (cY.2 ⟨p,h,hq.symm⟩) hn.1
   · have:Nat.beq q.1 p.1=false:=o8 hq
     simp only[this]
     rcases eO.1 h with rfl|h
     · exact absurd rfl hq
     · rw[eS,pL] at hn
       exact nV hn.2 h
section
variable {h0:ay} {g0:GH} {S0:Nat→Prop} {g:GH} {L L':List az} {c:az} {h h':ay}
theorem St.oJ (s:St h0 g0 S0 g (c::L) h):(c.map (·.1)).Nodup:=by
  have:=s.nodup
  rw[cm,gA,mM] at this
  exact this.1
theorem St.gH (s:St h0 g0 S0 g (c::L) h):aM g (cS g c):=s.freeze.2
theorem St.jk (s:St h0 g0 S0 g (c::L) h):bu (cS g c) h:=s.freeze.1.sub
theorem aH.fK {α:Type} {T:TypeId} {d:Kd α} {v:Value} {xs:List α} (hr:aH T d g v xs c) (s:St h0 g0 S0 g (c::L) h):an (cS g c) T d v xs:=by
  rcases hr.old with ⟨ao,rfl,rfl,_⟩|⟨b,o,cap,cur,rfl,rfl,h1,h2,h3,h4⟩
  · exact an.empty _ _ _ _ _
  · exact⟨_,cap,rfl,h1,fun _=>⟨b,o,cur,(T,0,0),rfl,iK _ _,h4.mono s.gH⟩⟩
theorem aH.Bx {α:Type} {T:TypeId} {d:Kd α} {v:Value} {xs:List α} {c':az} (hr:aH T d g v xs c') (s:St h0 g0 S0 g (c::L) h) (hc:∀p∈c',p∈c):an (cS g c) T d v xs:=by
  rcases hr.old with ⟨ao,rfl,rfl,_⟩|⟨b,o,cap,cur,rfl,rfl,h1,h2,h3,h4⟩
  · exact an.empty _ _ _ _ _
  · exact⟨_,cap,rfl,h1,fun _=>⟨b,o,cur,(T,0,0),rfl,nV s.oJ (hc _ (iA.2 rfl)),h4.mono s.gH⟩⟩
theorem St.uC (s:St h0 g0 S0 g (c::L) h) (t:St h0 g0 S0 (cS g c) L' h'):St h0 g0 S0 g (c::L') h':=by
  have hc:∀p∈c,p∈(c::L).flatten:=fun p hp=>by simp[cm,hp]
  have hk:=s.oJ
  have hle:=s.gH
  refine⟨t.size,t.frame,s.le,s.new,fun b o hb=>t.sub b o (hle b o hb),?_,?_,?_,?_⟩
  · intro p hp
    rw[cm,eo] at hp
    rcases hp with hp|hp
    · exact t.sub _ _ (nV hk hp)
    · exact t.kR p hp
  · rw[cm,gA,mM]
    refine⟨hk,t.nodup,?_⟩
    intro x hx y hy he
    obtain⟨p,hp,rfl⟩:=cY.1 hx
    obtain⟨q,hq,rfl⟩:=cY.1 hy
    have h1:=nV (g:=g) hk hp
    have h2:=t.sep q hq
    rw[←he,h1] at h2
    cases h2
  · intro p hp
    rw[cm,eo] at hp
    rcases hp with hp|hp
    · exact s.sep p (hc p hp)
    · cases hg:g p.1 with
      |none=>rfl
      |some x=>have:=hle _ _ hg;rw[t.sep p hp] at this;cases this
  · intro p hp
    rw[cm,eo] at hp
    rcases hp with hp|hp
    · exact s.own p (hc p hp)
    · exact t.own p hp
theorem St.iM (s:St h0 g0 S0 g L h):St h0 g0 S0 g0 L h:=
  ⟨s.size,s.frame,aM.refl _,fun _ hb=>.inl hb,fun b o hb=>s.sub b o (s.le b o hb),s.kR,s.nodup,fun p hp=>(by
    cases hg:g0 p.1 with
    |none=>rfl
    |some x=>have:=s.le _ _ hg;rw[s.sep p hp] at this;cases this),s.own⟩
theorem an.bB {α:Type} {T:TypeId} {d:Kd α} {ao:Option Addr} {n c:Nat} {xs:List α} (hs:an g T d (.slice ao n c) xs) (i:Nat) {x:α} (hi:xs[i]?=some x):
    ∃(b o:Nat) (cur:Array Value) (fz:TypeId×Nat×Nat),ao=some ⟨b,o,none⟩∧g b=some (.cells cur fz.1 fz.2)∧d.K g x (cut cur (o+i*d.sz) d.sz):=by
  obtain⟨u,c',e,hc,H⟩:=hs
  simp only[Value.slice.injEq] at e
  obtain⟨rfl,rfl,rfl⟩:=e
  have hlt:i<xs.length:=(fO.1 hi).1
  obtain⟨b,o,cur,fz,e,hb,hr⟩:=H (by intro hx;subst hx;simp at hlt)
  refine⟨b,o,cur,fz,e,hb,?_⟩
  have:=hr.bB i hi
  rwa[ux] at this
  have:(i+1)*d.sz≤xs.length*d.sz:=iB _ hlt
  rw[mP] at this
  exact this
def Kd.FK {α:Type} (d:Kd α):Prop:=∀g g' x cs,d.K g x cs→d.K g' x cs
theorem By {α:Type} {d:Kd α} (hd:d.FK) {g g':GH}:∀{xs:List α} {cs:List Value},Reads d g xs cs→Reads d g' xs cs
  |[],_,h=>h
  |_::_,_,⟨c,cs',e,hk,h⟩=>⟨c,cs',e,hd _ _ _ _ hk,By hd h⟩
theorem aH.bw {α:Type} {T:TypeId} {d:Kd α} (hd:d.FK) {g g':GH} {v:Value} {xs:List α} (hr:aH T d g v xs c):aH T d g' v xs c:=by
  rcases hr with h|⟨b,o,cap,cur,rest,e1,e2,h1,h2,h3,h4⟩
  · exact .inl h
  · exact .inr ⟨b,o,cap,cur,rest,e1,e2,h1,h2,h3,By hd h4⟩
end
section
variable {C:ff} {ds:List Deferred} {i j:Nat} {r:ay} {M:Nat→Prop} {Ls:List (Nat×Bool)} {e:Env} {h:ay}
variable {h0:ay} {g0:GH} {S0:Nat→Prop} {g:GH} {L L':List az}
theorem Op.MO {o:Oper} {f:FuncId} {args:Array Value} {u:az} {Lc:List az} {G:Value→GH→List az→Prop} (h1:lG C i j e=some o)
    (hp:∀w,(eN e o).run C.P w=.ok (.enter f args) w)
    (s:St h0 g0 S0 g (u::(Lc++L)) h) (H:aG C.P C.B f args h (cS g u) Lc G) (hq:∀v g' L',G v g' L'→g'=cS g u) (hM:∀b,b<r.size→aS Lc b→M b)
    (K:∀v D h',St h0 g0 S0 g (u::(D++L)) h'→G v (cS g u) D→Op C ds i r M Ls (e.fX o.dst v) h'):Op C ds i r M ((j,false)::Ls) e h:=by
  refine Op.wm h1 fun w is hk a ft=>?_
  rw[hp w]
  refine Calls.mono (H w is) fun O w' ⟨v,he,J,g',D,t,I⟩=>?_
  obtain rfl:=hq _ _ _ I
  exact⟨v,he,⟨t.gO hM hk,J⟩,_,ft.fX (q_ h1).2.2.2.1 v,K v D _ (s.uC (s.freeze.1.join t)) I⟩
theorem Op.MP {dst:Option Tmp} {f:FuncId} {args:Array Value} {u:az} {Lc:List az} {D:Value→GH→List az→Prop} (ho:qz C i j e=some (dst,f,args))
    (s:St h0 g0 S0 g (u::(Lc++L)) h) (H:aG C.P C.B f args h (cS g u) Lc D) (hq:∀v g' L',D v g' L'→g'=cS g u) (hM:∀b,b<r.size→aS Lc b→M b)
    (K:∀v G h',St h0 g0 S0 g (u::(G++L)) h'→D v (cS g u) G→Op C ds i r M Ls (e.fX dst v) h'):Op C ds i r M ((j,false)::Ls) e h:=by
  obtain⟨o,h1,rfl,hp⟩:=Fj ho
  exact Op.MO h1 (uu _ hp) s H hq hM K
end
def pM {α:Type} (P:Program) (g:GH) (f:Nat) (cp:Array Value) (enc:α→Value) (ok:α→Prop) (q:α→Bool):Prop:=
  ∀(B:World) (h:ay) (g':GH),aM g g'→bu g' h→bz g'→∀x,ok x→aG P B f (#[enc x]++cp) h g' [] (fun v u L'=>v=.bool (q x)∧u=g'∧L'=[])
theorem pM.mono {α:Type} {P:Program} {g g':GH} {f:Nat} {cp:Array Value} {enc:α→Value} {ok:α→Prop} {q:α→Bool} (H:pM P g f cp enc ok q) (hg:aM g g'):pM P g' f cp enc ok q:=
  fun B h k hk=>H B h k (aM.trans hg hk)
theorem aG.args {P:Program} {B:World} {f:FuncId} {args u:Array Value} {h:ay} {g:GH} {Lc:List az} {D:Value→GH→List az→Prop} (e:args=u) (H:aG P B f args h g Lc D):aG P B f u h g Lc D:=e▸H
theorem FL {k:IntKind} (x:Int) (m:Nat) (q:Int) (hq:(2:Int) ^ m=q) (h:0≤q):Value.int k (Int.fdiv x (2 ^ m))=.int k (x / q):=by
  subst hq;rw[Int.fdiv_eq_ediv_of_nonneg _ h]
theorem sR {n:Int} (h0:0≤n) (h1:n≤18446744073709551615):Value.int .u64 (IntKind.wrap .u64 n)=Value.int .u64 n:=by
  rw[show IntKind.wrap .u64 n=n from by rw[IntKind.wrap_u64];omega]
theorem St.ne {h0:ay} {g0:GH} {S0:Nat→Prop} {g:GH} {L:List az} {h:ay} (s:St h0 g0 S0 g L h) (i j:Nat) (u:Nat.blt i j=true) {b1 b2:Nat} {o1 o2:Obj} (h1:L[i]?=some [(b1,o1)]) (h2:L[j]?=some [(b2,o2)]):b1≠b2:=by
  have u:i<j:=jz u
  intro e
  have hn:=s.nodup
  rw[List.Nodup,List.map_flatten,FJ] at hn
  obtain⟨hi,e1⟩:=fO.1 h1
  obtain⟨hj,e2⟩:=fO.1 h2
  have:=yz.1 hn.2 i j (by simpa using hi) (by simpa using hj) u
  simp only[wK,e1,e2,eS,kQ,e] at this
  exact this b2 (by simp) b2 (by simp) rfl
theorem MQ {b o:Nat} (lo c sz:Nat):∃o',d_ (some ⟨b,o,none⟩) lo c sz=some ⟨b,o',none⟩:=by
  unfold d_
  split
  · exact⟨o,rfl⟩
  · exact⟨o+lo*sz,by simp[kS]⟩
theorem MR {x:Option Addr} {b o:Nat} (h:x=some ⟨b,o,none⟩) (lo c sz:Nat):∃o',d_ x lo c sz=some ⟨b,o',none⟩:=by rw[h];exact MQ lo c sz
theorem FM {e:Env} {x:Operand} {v:Value} {cp:Array Value} (h:e.ev x=v):#[]++#[x].map e.ev++cp=#[v]++cp:=by subst h;simp
theorem aH.FN {α:Type} {T:TypeId} {d:Kd α} {g:GH} {ao:Option Addr} {n c:Nat} {xs:List α} {D:az} (hs:aH T d g (.slice ao n c) xs D):n=xs.length∧xs.length≤c:=by
  rcases hs.old with ⟨_,u,rfl,_⟩|⟨b,o,cap,cur,u,_,hc,_⟩
  · simp only[Value.slice.injEq] at u
    exact⟨u.2.1,by simp⟩
  · simp only[Value.slice.injEq] at u
    obtain⟨_,rfl,rfl⟩:=u
    exact⟨rfl,hc⟩
theorem yA {α:Type} {xs ys:List α} {lo:Nat} (h:lo≤xs.length):(putAt xs lo (ys.take (xs.length-lo))).length=xs.length:=wE (by rw[dZ];omega)
theorem MS {α:Type} {xs:List α} {z:α} {lo:Nat} (h:lo≤xs.length):(putAt xs lo (List.replicate (xs.length-lo) z)).length=xs.length:=wE (by rw[oH];omega)
theorem qA {A B:List az} (h:∀c∈A,c∈B) {b:Nat} (hi:aS A b):aS B b:=by
  obtain⟨p,hp,e⟩:=hi
  obtain⟨c,hc,hp⟩:=ur.1 hp
  exact⟨p,ur.2 ⟨c,h c hc,hp⟩,e⟩
theorem Ue {c:az} {A:List az} {b:Nat} (hi:aS (c::A) b):aS [c] b∨aS A b:=by
  obtain⟨p,hp,e⟩:=hi
  rw[cm,eo] at hp
  rcases hp with hp|hp
  · exact .inl ⟨p,by simpa using hp,e⟩
  · exact .inr ⟨p,hp,e⟩
theorem St.apart {h0:ay} {g0:GH} {S0:Nat→Prop} {g:GH} {L:List az} {h:ay} (s:St h0 g0 S0 g L h) (i j:Nat) (u:Nat.beq i j=false) {b:Nat} {o:Obj} {c:az} (h1:L[i]?=some [(b,o)]) (h2:L[j]?=some c):¬aS [c] b:=by
  rintro⟨p,hp,e⟩
  simp only[cm,List.flatten_nil,dm] at hp
  have hn:=s.nodup
  rw[List.Nodup,List.map_flatten,FJ] at hn
  obtain⟨hi,e1⟩:=fO.1 h1
  obtain⟨hj,e2⟩:=fO.1 h2
  have hne:i≠j:=fun e=>by subst e;simp at u
  have key:=yz.1 hn.2
  rcases Nat.lt_or_gt_of_ne hne with hl|hl
  · have:=key i j (by simpa using hi) (by simpa using hj) hl
    simp only[wK,e1,e2] at this
    exact this b (by simp) p.1 (cY.2 ⟨p,hp,rfl⟩) e.symm
  · have:=key j i (by simpa using hj) (by simpa using hi) hl
    simp only[wK,e1,e2] at this
    exact this p.1 (cY.2 ⟨p,hp,rfl⟩) b (by simp) e
def Bz (P:Program) (f:FuncId):Option (Array Value→Sem Value):=match P.funcs[f]? with
  |some fn=>if (fn.name=="runtime.NumGoroutine")=true then none else if fn.body.isNone=true then (match Extern.findNext fn with|some _=>none|none=>Extern.find fn) else none
  |none=>none
theorem MT {P:Program} {f:FuncId} {g:Array Value→Sem Value} (h:Bz P f=some g) {args:Array Value} {w w':World} {v:Value} (hg:(g args).run P w=.ok v w'):(callFunc f args).run P w=.ok (.value v) w':=by
  unfold Bz at h
  unfold callFunc
  simp only[Sem.run_bind,run_program,Result.andThen_ok]
  split at h
  · rename_i fn hf
    rw[hf]
    split at h
    · cases h
    · rename_i hn
      split at h
      · rename_i hb
        split at h
        · cases h
        · rename_i u
          simp only[hn,fW,dI,hb,gX,u,h]
          simp[hg]
      · cases h
  · cases h
section
variable {C:ff} {ds:List Deferred} {i j:Nat} {r:ay} {M:Nat→Prop} {Ls:List (Nat×Bool)} {e:Env} {h:ay}
theorem Op.overlaps {dst:Nat} {f:FuncId} {x y:Operand} {t E tb:TypeId} {sz cK:Nat} {ts:Array TypeId} {b1 o1 n1 c1 b2 n2 c2:Nat} {a2:Option Addr} {G u:Array Value} {J O:TypeId}
    (ho:c_ C i j e=some (some dst,.call {callee:=.value (.func f),args:=#[x,y],argTypes:=ts}))
    (he:Bz C.P f=some (Extern.SlicesOverlaps.overlaps #[t,t] #[tb])) (hE:kr C.P t=some (E,sz,cK))
    (hx:e.ev x=.slice (some ⟨b1,o1,none⟩) n1 c1) (hy:e.ev y=.slice a2 n2 c2) (ha:∃o2,a2=some ⟨b2,o2,none⟩) (D:h[b1]?=some (.cells G J (0,0))) (U:h[b2]?=some (.cells u O (0,0))) (hne:b1≠b2) (hs:u.size≠0)
    (K:Op C ds i r M Ls ((dst,.bool false)::e) h):Op C ds i r M ((j,false)::Ls) e h:=by
  obtain⟨o',h1,h2,h3⟩:=gm ho
  obtain⟨X,z,I⟩:=qy hE
  refine Op.run h1 (R:=fun V h'=>V=.value (.bool false)∧h'=h) ?_ ?_
  · intro w is
    refine⟨_,w,?_,is.again,rfl,is.heap⟩
    unfold eN execOp
    simp only[h3,resolve,Sem.run_bind,Sem.run_pure,Result.andThen_ok,invoke]
    have hq:#[x,y].map e.ev=#[.slice (some ⟨b1,o1,none⟩) n1 c1,.slice a2 n2 c2]:=by simp[hx,hy]
    simp only[hq,Env.ev,Deferred.ofValue,Sem.run_bind,Sem.run_pure,Result.andThen_ok]
    rw[show(#[]++#[Value.slice (some ⟨b1,o1,none⟩) n1 c1,.slice a2 n2 c2]++#[]:Array Value)=#[.slice (some ⟨b1,o1,none⟩) n1 c1,.slice a2 n2 c2] from rfl]
    refine MT he ?_
    obtain⟨o2,rfl⟩:=ha
    · refine Lib.run_overlaps_apart w t tb E I.under sz (fun w'=>by simp[sizeOf,typeInfo,I.info,I.size]) _ _ _ _ _ _ (by simpa using hne) J O G.size u.size ?_ ?_ hs ?_ ?_
      · simp[World.shape?,is.heap,D]
      · simp[World.shape?,is.heap,U]
      · simp[World.frozen?,is.heap,D]
      · simp[World.frozen?,is.heap,D]
  · rintro _ _ ⟨rfl,rfl⟩
    refine⟨_,rfl,fun hk=>hk,?_⟩
    rw[h2]
    exact K
end
end Go.Proofs.YtdinkjbfgcfccaaGreatDoor.Sw
