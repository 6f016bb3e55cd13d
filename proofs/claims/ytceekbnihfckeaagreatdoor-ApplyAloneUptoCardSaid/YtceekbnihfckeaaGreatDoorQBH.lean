/- Lemmas for laws of this seat. -/
import Derived.Test.YtceekbnihfckeaaGreatDoorQBG
import Derived.Lib.Overlaps
namespace Go.Proofs.YtceekbnihfckeaaGreatDoor.Sw
set_option linter.unusedVariables false
set_option linter.unusedSimpArgs false
set_option linter.deprecated false
open Go
set_option linter.defProp false
def zD:=@List.find?_cons
def ei:=@List.mem_cons
def qK:=@List.nodup_cons
def Gy:=@List.pairwise_flatten
def Bu:=@List.pairwise_iff_getElem
def zE:=@List.getElem_map
theorem oK {g:GH} {p:Nat×Obj}:∀{c:ay},(c.map (·.1)).Nodup→p∈c→dy g c p.1=some p.2
  |[],_,h=>by cases h
  |q::c,hn,h=>by
   unfold dy
   rw[zD]
   by_cases hq:q.1=p.1
   · have:Nat.beq q.1 p.1=true:=by rw[hq];simp
     simp only[this]
     rcases ei.1 h with rfl|h
     · rfl
     · rw[eR,qK] at hn
       exact absurd (de.2 ⟨p,h,hq.symm⟩) hn.1
   · have:Nat.beq q.1 p.1=false:=sS hq
     simp only[this]
     rcases ei.1 h with rfl|h
     · exact absurd rfl hq
     · rw[eR,qK] at hn
       exact oK hn.2 h
section
variable {h0:ax} {g0:GH} {S0:Nat→Prop} {g:GH} {L L':List ay} {c:ay} {h h':ax}
theorem St.p9 (s:St h0 g0 S0 g (c::L) h):(c.map (·.1)).Nodup:=by
  have:=s.nodup
  rw[cH,iH,nN] at this
  exact this.1
theorem St.gz (s:St h0 g0 S0 g (c::L) h):aM g (dy g c):=s.freeze.2
theorem St.iO (s:St h0 g0 S0 g (c::L) h):bl (dy g c) h:=s.freeze.1.sub
theorem aJ.fY {α:Type} {T:TypeId} {d:Kd α} {v:Value} {xs:List α} (hr:aJ T d g v xs c) (s:St h0 g0 S0 g (c::L) h):av (dy g c) T d v xs:=by
  rcases hr.old with ⟨ao,rfl,rfl,_⟩|⟨b,o,cap,cur,rfl,rfl,h1,h2,h3,h4⟩
  · exact av.empty _ _ _ _ _
  · exact⟨_,cap,rfl,h1,fun _=>⟨b,o,cur,(T,0,0),rfl,iN _ _,h4.mono s.gz⟩⟩
theorem aJ.lH {α:Type} {T:TypeId} {d:Kd α} {v:Value} {xs:List α} {c':ay} (hr:aJ T d g v xs c') (s:St h0 g0 S0 g (c::L) h) (hc:∀p∈c',p∈c):av (dy g c) T d v xs:=by
  rcases hr.old with ⟨ao,rfl,rfl,_⟩|⟨b,o,cap,cur,rfl,rfl,h1,h2,h3,h4⟩
  · exact av.empty _ _ _ _ _
  · exact⟨_,cap,rfl,h1,fun _=>⟨b,o,cur,(T,0,0),rfl,oK s.p9 (hc _ (iw.2 rfl)),h4.mono s.gz⟩⟩
theorem St.xE (s:St h0 g0 S0 g (c::L) h) (t:St h0 g0 S0 (dy g c) L' h'):St h0 g0 S0 g (c::L') h':=by
  have hc:∀p∈c,p∈(c::L).flatten:=fun p hp=>by simp[cH,hp]
  have hk:=s.p9
  have hle:=s.gz
  refine⟨t.size,t.frame,s.le,s.new,fun b o hb=>t.sub b o (hle b o hb),?_,?_,?_,?_⟩
  · intro p hp
    rw[cH,dP] at hp
    rcases hp with hp|hp
    · exact t.sub _ _ (oK hk hp)
    · exact t.mC p hp
  · rw[cH,iH,nN]
    refine⟨hk,t.nodup,?_⟩
    intro x hx y hy he
    obtain⟨p,hp,rfl⟩:=de.1 hx
    obtain⟨q,hq,rfl⟩:=de.1 hy
    have h1:=oK (g:=g) hk hp
    have h2:=t.sep q hq
    rw[←he,h1] at h2
    cases h2
  · intro p hp
    rw[cH,dP] at hp
    rcases hp with hp|hp
    · exact s.sep p (hc p hp)
    · cases hg:g p.1 with
      |none=>rfl
      |some x=>have:=hle _ _ hg;rw[t.sep p hp] at this;cases this
  · intro p hp
    rw[cH,dP] at hp
    rcases hp with hp|hp
    · exact s.own p (hc p hp)
    · exact t.own p hp
theorem St.jZ (s:St h0 g0 S0 g L h):St h0 g0 S0 g0 L h:=
  ⟨s.size,s.frame,aM.refl _,fun _ hb=>.inl hb,fun b o hb=>s.sub b o (s.le b o hb),s.mC,s.nodup,fun p hp=>(by
    cases hg:g0 p.1 with
    |none=>rfl
    |some x=>have:=s.le _ _ hg;rw[s.sep p hp] at this;cases this),s.own⟩
theorem av.bF {α:Type} {T:TypeId} {d:Kd α} {ao:Option Addr} {n c:Nat} {xs:List α} (hs:av g T d (.slice ao n c) xs) (i:Nat) {x:α} (hi:xs[i]?=some x):
    ∃(b o:Nat) (cur:Array Value) (fz:TypeId×Nat×Nat),ao=some ⟨b,o,none⟩∧g b=some (.cells cur fz.1 fz.2)∧d.K g x (cut cur (o+i*d.sz) d.sz):=by
  obtain⟨u,c',e,hc,H⟩:=hs
  simp only[Value.slice.injEq] at e
  obtain⟨rfl,rfl,rfl⟩:=e
  have hlt:i<xs.length:=(fT.1 hi).1
  obtain⟨b,o,cur,fz,e,hb,hr⟩:=H (by intro hx;subst hx;simp at hlt)
  refine⟨b,o,cur,fz,e,hb,?_⟩
  have:=hr.bF i hi
  rwa[qo] at this
  have:(i+1)*d.sz≤xs.length*d.sz:=jW _ hlt
  rw[oc] at this
  exact this
def Kd.Gz {α:Type} (d:Kd α):Prop:=∀g g' x cs,d.K g x cs→d.K g' x cs
theorem Dr {α:Type} {d:Kd α} (hd:d.Gz) {g g':GH}:∀{xs:List α} {cs:List Value},Reads d g xs cs→Reads d g' xs cs
  |[],_,h=>h
  |_::_,_,⟨c,cs',e,hk,h⟩=>⟨c,cs',e,hd _ _ _ _ hk,Dr hd h⟩
theorem aJ.bu {α:Type} {T:TypeId} {d:Kd α} (hd:d.Gz) {g g':GH} {v:Value} {xs:List α} (hr:aJ T d g v xs c):aJ T d g' v xs c:=by
  rcases hr with h|⟨b,o,cap,cur,rest,e1,e2,h1,h2,h3,h4⟩
  · exact .inl h
  · exact .inr ⟨b,o,cap,cur,rest,e1,e2,h1,h2,h3,Dr hd h4⟩
end
section
variable {C:fP} {ds:List Deferred} {i j:Nat} {r:ax} {M:Nat→Prop} {Ls:List (Nat×Bool)} {e:Env} {h:ax}
variable {h0:ax} {g0:GH} {S0:Nat→Prop} {g:GH} {L L':List ay}
theorem Op.Na {o:Oper} {f:FuncId} {args:Array Value} {u:ay} {Lc:List ay} {G:Value→GH→List ay→Prop} (h1:mQ C i j e=some o)
    (hp:∀w,(fL e o).run C.P w=.ok (.enter f args) w)
    (s:St h0 g0 S0 g (u::(Lc++L)) h) (H:aE C.P C.B f args h (dy g u) Lc G) (hq:∀v g' L',G v g' L'→g'=dy g u) (hM:∀b,b<r.size→aV Lc b→M b)
    (K:∀v D h',St h0 g0 S0 g (u::(D++L)) h'→G v (dy g u) D→Op C ds i r M Ls (e.gJ o.dst v) h'):Op C ds i r M ((j,false)::Ls) e h:=by
  refine Op.zo h1 fun w is hk a ft=>?_
  rw[hp w]
  refine Calls.mono (H w is) fun O w' ⟨v,he,J,g',D,t,I⟩=>?_
  obtain rfl:=hq _ _ _ I
  exact⟨v,he,⟨t.jJ hM hk,J⟩,_,ft.gJ (uA h1).2.2.2.1 v,K v D _ (s.xE (s.freeze.1.join t)) I⟩
theorem Op.Nb {dst:Option Tmp} {f:FuncId} {args:Array Value} {u:ay} {Lc:List ay} {D:Value→GH→List ay→Prop} (ho:s5 C i j e=some (dst,f,args))
    (s:St h0 g0 S0 g (u::(Lc++L)) h) (H:aE C.P C.B f args h (dy g u) Lc D) (hq:∀v g' L',D v g' L'→g'=dy g u) (hM:∀b,b<r.size→aV Lc b→M b)
    (K:∀v G h',St h0 g0 S0 g (u::(G++L)) h'→D v (dy g u) G→Op C ds i r M Ls (e.gJ dst v) h'):Op C ds i r M ((j,false)::Ls) e h:=by
  obtain⟨o,h1,rfl,hp⟩:=Gb ho
  exact Op.Na h1 (xw _ hp) s H hq hM K
end
def qL {α:Type} (P:Program) (g:GH) (f:Nat) (cp:Array Value) (enc:α→Value) (ok:α→Prop) (q:α→Bool):Prop:=
  ∀(B:World) (h:ax) (g':GH),aM g g'→bl g' h→bq g'→∀x,ok x→aE P B f (#[enc x]++cp) h g' [] (fun v u L'=>v=.bool (q x)∧u=g'∧L'=[])
theorem qL.mono {α:Type} {P:Program} {g g':GH} {f:Nat} {cp:Array Value} {enc:α→Value} {ok:α→Prop} {q:α→Bool} (H:qL P g f cp enc ok q) (hg:aM g g'):qL P g' f cp enc ok q:=
  fun B h k hk=>H B h k (aM.trans hg hk)
theorem aE.args {P:Program} {B:World} {f:FuncId} {args u:Array Value} {h:ax} {g:GH} {Lc:List ay} {D:Value→GH→List ay→Prop} (e:args=u) (H:aE P B f args h g Lc D):aE P B f u h g Lc D:=e▸H
theorem GA {k:IntKind} (x:Int) (m:Nat) (q:Int) (hq:(2:Int) ^ m=q) (h:0≤q):Value.int k (Int.fdiv x (2 ^ m))=.int k (x / q):=by
  subst hq;rw[Int.fdiv_eq_ediv_of_nonneg _ h]
theorem Nc {n:Int} (h0:0≤n) (h1:n≤18446744073709551615):Value.int .u64 (IntKind.wrap .u64 n)=Value.int .u64 n:=by
  rw[show IntKind.wrap .u64 n=n from by rw[IntKind.wrap_u64];omega]
theorem St.ne {h0:ax} {g0:GH} {S0:Nat→Prop} {g:GH} {L:List ay} {h:ax} (s:St h0 g0 S0 g L h) (i j:Nat) (u:Nat.blt i j=true) {b1 b2:Nat} {o1 o2:Obj} (h1:L[i]?=some [(b1,o1)]) (h2:L[j]?=some [(b2,o2)]):b1≠b2:=by
  have u:i<j:=kV u
  intro e
  have hn:=s.nodup
  rw[List.Nodup,List.map_flatten,Gy] at hn
  obtain⟨hi,e1⟩:=fT.1 h1
  obtain⟨hj,e2⟩:=fT.1 h2
  have:=Bu.1 hn.2 i j (by simpa using hi) (by simpa using hj) u
  simp only[zE,e1,e2,eR,kG,e] at this
  exact this b2 (by simp) b2 (by simp) rfl
theorem Nd {b o:Nat} (lo c sz:Nat):∃o',eZ (some ⟨b,o,none⟩) lo c sz=some ⟨b,o',none⟩:=by
  unfold eZ
  split
  · exact⟨o,rfl⟩
  · exact⟨o+lo*sz,by simp[jT]⟩
theorem Nf {x:Option Addr} {b o:Nat} (h:x=some ⟨b,o,none⟩) (lo c sz:Nat):∃o',eZ x lo c sz=some ⟨b,o',none⟩:=by rw[h];exact Nd lo c sz
theorem GB {e:Env} {x:Operand} {v:Value} {cp:Array Value} (h:e.ev x=v):#[]++#[x].map e.ev++cp=#[v]++cp:=by subst h;simp
theorem aJ.GC {α:Type} {T:TypeId} {d:Kd α} {g:GH} {ao:Option Addr} {n c:Nat} {xs:List α} {D:ay} (hs:aJ T d g (.slice ao n c) xs D):n=xs.length∧xs.length≤c:=by
  rcases hs.old with ⟨_,u,rfl,_⟩|⟨b,o,cap,cur,u,_,hc,_⟩
  · simp only[Value.slice.injEq] at u
    exact⟨u.2.1,by simp⟩
  · simp only[Value.slice.injEq] at u
    obtain⟨_,rfl,rfl⟩:=u
    exact⟨rfl,hc⟩
theorem Bv {α:Type} {xs ys:List α} {lo:Nat} (h:lo≤xs.length):(putAt xs lo (ys.take (xs.length-lo))).length=xs.length:=zz (by rw[e_];omega)
theorem Ng {α:Type} {xs:List α} {z:α} {lo:Nat} (h:lo≤xs.length):(putAt xs lo (List.replicate (xs.length-lo) z)).length=xs.length:=zz (by rw[p7];omega)
theorem oL {A B:List ay} (h:∀c∈A,c∈B) {b:Nat} (hi:aV A b):aV B b:=by
  obtain⟨p,hp,e⟩:=hi
  obtain⟨c,hc,hp⟩:=xu.1 hp
  exact⟨p,xu.2 ⟨c,h c hc,hp⟩,e⟩
theorem bz {c:ay} {A:List ay} {b:Nat} (hi:aV (c::A) b):aV [c] b∨aV A b:=by
  obtain⟨p,hp,e⟩:=hi
  rw[cH,dP] at hp
  rcases hp with hp|hp
  · exact .inl ⟨p,by simpa using hp,e⟩
  · exact .inr ⟨p,hp,e⟩
theorem St.apart {h0:ax} {g0:GH} {S0:Nat→Prop} {g:GH} {L:List ay} {h:ax} (s:St h0 g0 S0 g L h) (i j:Nat) (u:Nat.beq i j=false) {b:Nat} {o:Obj} {c:ay} (h1:L[i]?=some [(b,o)]) (h2:L[j]?=some c):¬aV [c] b:=by
  rintro⟨p,hp,e⟩
  simp only[cH,List.flatten_nil,dX] at hp
  have hn:=s.nodup
  rw[List.Nodup,List.map_flatten,Gy] at hn
  obtain⟨hi,e1⟩:=fT.1 h1
  obtain⟨hj,e2⟩:=fT.1 h2
  have hne:i≠j:=fun e=>by subst e;simp at u
  have key:=Bu.1 hn.2
  rcases Nat.lt_or_gt_of_ne hne with hl|hl
  · have:=key i j (by simpa using hi) (by simpa using hj) hl
    simp only[zE,e1,e2] at this
    exact this b (by simp) p.1 (de.2 ⟨p,hp,rfl⟩) e.symm
  · have:=key j i (by simpa using hj) (by simpa using hi) hl
    simp only[zE,e1,e2] at this
    exact this p.1 (de.2 ⟨p,hp,rfl⟩) b (by simp) e
def Ds (P:Program) (f:FuncId):Option (Array Value→Sem Value):=match P.funcs[f]? with
  |some fn=>if (fn.name=="runtime.NumGoroutine")=true then none else if fn.body.isNone=true then (match Extern.findNext fn with|some _=>none|none=>Extern.find fn) else none
  |none=>none
theorem Nh {P:Program} {f:FuncId} {g:Array Value→Sem Value} (h:Ds P f=some g) {args:Array Value} {w w':World} {v:Value} (hg:(g args).run P w=.ok v w'):(callFunc f args).run P w=.ok (.value v) w':=by
  unfold Ds at h
  unfold callFunc
  simp only[Sem.run_bind,run_program,Result.andThen_ok]
  split at h
  · rename_i fn hf
    rw[hf]
    split at h
    · cases h
    · rename_i hn
      split at h
      · rename_i hb
        split at h
        · cases h
        · rename_i u
          simp only[hn,gA,dV,hb,jl,u,h]
          simp[hg]
      · cases h
  · cases h
section
variable {C:fP} {ds:List Deferred} {i j:Nat} {r:ax} {M:Nat→Prop} {Ls:List (Nat×Bool)} {e:Env} {h:ax}
theorem Op.overlaps {dst:Nat} {f:FuncId} {x y:Operand} {t E tb:TypeId} {sz dx:Nat} {ts:Array TypeId} {b1 o1 n1 c1 b2 n2 c2:Nat} {a2:Option Addr} {G u:Array Value} {J O:TypeId}
    (ho:dS C i j e=some (some dst,.call {callee:=.value (.func f),args:=#[x,y],argTypes:=ts}))
    (he:Ds C.P f=some (Extern.SlicesOverlaps.overlaps #[t,t] #[tb])) (hE:l6 C.P t=some (E,sz,dx))
    (hx:e.ev x=.slice (some ⟨b1,o1,none⟩) n1 c1) (hy:e.ev y=.slice a2 n2 c2) (ha:∃o2,a2=some ⟨b2,o2,none⟩) (D:h[b1]?=some (.cells G J (0,0))) (U:h[b2]?=some (.cells u O (0,0))) (hne:b1≠b2) (hs:u.size≠0)
    (K:Op C ds i r M Ls ((dst,.bool false)::e) h):Op C ds i r M ((j,false)::Ls) e h:=by
  obtain⟨o',h1,h2,h3⟩:=gT ho
  obtain⟨X,z,I⟩:=sZ hE
  refine Op.run h1 (R:=fun V h'=>V=.value (.bool false)∧h'=h) ?_ ?_
  · intro w is
    refine⟨_,w,?_,is.again,rfl,is.heap⟩
    unfold fL execOp
    simp only[h3,resolve,Sem.run_bind,Sem.run_pure,Result.andThen_ok,invoke]
    have hq:#[x,y].map e.ev=#[.slice (some ⟨b1,o1,none⟩) n1 c1,.slice a2 n2 c2]:=by simp[hx,hy]
    simp only[hq,Env.ev,Deferred.ofValue,Sem.run_bind,Sem.run_pure,Result.andThen_ok]
    rw[show(#[]++#[Value.slice (some ⟨b1,o1,none⟩) n1 c1,.slice a2 n2 c2]++#[]:Array Value)=#[.slice (some ⟨b1,o1,none⟩) n1 c1,.slice a2 n2 c2] from rfl]
    refine Nh he ?_
    obtain⟨o2,rfl⟩:=ha
    · refine Lib.run_overlaps_apart w t tb E I.under sz (fun w'=>by simp[sizeOf,typeInfo,I.info,I.size]) _ _ _ _ _ _ (by simpa using hne) J O G.size u.size ?_ ?_ hs ?_ ?_
      · simp[World.shape?,is.heap,D]
      · simp[World.shape?,is.heap,U]
      · simp[World.frozen?,is.heap,D]
      · simp[World.frozen?,is.heap,D]
  · rintro _ _ ⟨rfl,rfl⟩
    refine⟨_,rfl,fun hk=>hk,?_⟩
    rw[h2]
    exact K
end
end Go.Proofs.YtceekbnihfckeaaGreatDoor.Sw
