/- Lemmas for laws of this seat. -/
import Derived.Test.YtdinkjbfgcfccaaGreatDoorPBD
import Derived.Laws.BytesArg
set_option maxHeartbeats 4000000
namespace Go.Proofs.YtdinkjbfgcfccaaGreatDoor.Sw
set_option linter.unusedVariables false
set_option linter.unusedSimpArgs false
set_option linter.deprecated false
open Go
set_option linter.defProp false
def wD:=@UInt8.toNat_ofNat'
def Bt:=@Int.toNat_of_nonneg
def cF:=@List.length_nil
def rq:=@List.getElem?_eq_getElem
def nU:=@Nat.mul_one
def dL:=@List.cons_append
section
variable {α:Type} {d:Kd α} {g g':GH} {h h':ay} {T:TypeId} {xs:List α}
theorem an.sub {ao:Option Addr} {n c:Nat} (hs:an g T d (.slice ao n c) xs) (lo hi:Nat) (h1:lo≤hi) (h2:hi≤xs.length):
    an g T d (.slice (d_ ao lo c d.sz) (hi-lo) (c-lo)) ((xs.take hi).drop lo):=by
  obtain⟨u,c',e,hc,H⟩:=hs
  simp only[Value.slice.injEq] at e
  obtain⟨rfl,rfl,rfl⟩:=e
  have hl:((xs.take hi).drop lo).length=hi-lo:=by rw[eT,dZ,jB h2]
  refine⟨_,_,by rw[hl],by rw[hl];omega,fun hne=>?_⟩
  have hlt:lo<hi:=by
    rcases nP lo hi with h|h
    · exact h
    · exact absurd (kU (by rw[hl];omega)) hne
  obtain⟨b,o,cur,fz,rfl,hb,hr⟩:=H (by intro hx;subst hx;simp at h2;omega)
  refine⟨b,o+lo*d.sz,cur,fz,?_,hb,?_⟩
  · unfold d_
    rw[aL (by omega)]
    simp[kS]
  · have h3:=((hr.hU hi h2).1.hU lo (by rw[dZ,jB h2];exact h1)).2
    have D:hi*d.sz≤xs.length*d.sz:=iB _ h2
    have G:lo*d.sz≤hi*d.sz:=iB _ h1
    have e:((cut cur o (xs.length*d.sz)).take (hi*d.sz)).drop (lo*d.sz)=cut cur (o+lo*d.sz) ((hi-lo)*d.sz):=by
      rw[q7,Nat.sub_mul,ux]
      omega
    rw[e] at h3
    rw[hl]
    exact h3
theorem an.Fq {n c:Nat} (hs:an g T d (.slice none n c) xs):xs=[]:=by
  obtain⟨u,c',e,hc,H⟩:=hs
  simp only[Value.slice.injEq] at e
  obtain⟨rfl,_,_⟩:=e
  by_cases h:xs=[]
  · exact h
  · obtain⟨b,o,cur,fz,e,_⟩:=H h;cases e
theorem h_.Fs {ao:Option Addr} {n c:Nat} (hs:h_ h g T d (.slice ao n c) xs) (lo:Nat) (h1:lo≤xs.length):h_ h g T d (.slice (d_ ao lo c d.sz) (n-lo) (c-lo)) (xs.drop lo):=by
  obtain⟨u,c',e,hc,H⟩:=hs
  simp only[Value.slice.injEq] at e
  obtain⟨rfl,rfl,rfl⟩:=e
  have hl:(xs.drop lo).length=xs.length-lo:=eT
  refine⟨_,_,by rw[hl],by rw[hl];omega,fun hne=>?_⟩
  have hlt:lo<xs.length:=by
    rcases nP lo xs.length with h|h
    · exact h
    · exact absurd (kU (by rw[hl];omega)) hne
  obtain⟨b,o,cur,fz,rfl,hb,hr⟩:=H (by intro hx;subst hx;simp at hlt)
  refine⟨b,o+lo*d.sz,cur,fz,?_,hb,?_⟩
  · unfold d_
    rw[aL (by omega)]
    simp[kS]
  · have h3:=(hr.hU lo h1).2
    have D:lo*d.sz≤xs.length*d.sz:=iB _ h1
    have e:(cut cur o (xs.length*d.sz)).drop (lo*d.sz)=cut cur (o+lo*d.sz) ((xs.length-lo)*d.sz):=by
      unfold cut
      rw[q7,o7,Nat.sub_mul]
    rw[e] at h3
    rw[hl];exact h3
theorem aH.take {ao:Option Addr} {n c:Nat} {u:az} (hr:aH T d g (.slice ao n c) xs u) (m:Nat) (hm:m≤xs.length):aH T d g (.slice (d_ ao 0 c d.sz) m c) (xs.take m) u:=by
  rcases hr with ⟨a0,e,rfl,rfl⟩|⟨b,o,cap,cur,rest,e,rfl,h1,h2,h3,h4⟩
  · simp only[Value.slice.injEq] at e
    obtain⟨rfl,rfl,rfl⟩:=e
    obtain rfl:m=0:=by simpa using hm
    exact .inl ⟨_,rfl,rfl,rfl⟩
  · simp only[Value.slice.injEq] at e
    obtain⟨rfl,rfl,rfl⟩:=e
    have hl:(xs.take m).length=m:=by rw[dZ,jB hm]
    refine .inr ⟨b,o,c,cur,xs.drop m++rest,?_,rfl,by rw[hl,b_,eT];omega,h2,h3,?_⟩
    · unfold d_
      rw[hl]
      split
      · rfl
      · simp[kS]
    · rw[←cJ,lJ];exact h4
theorem aH.Mn {ao:Option Addr} {n c:Nat} {u:az} (hr:aH T d g (.slice ao n c) xs u) (m:Nat) (hm:m≤c):∃zs,aH T d g (.slice (d_ ao 0 c d.sz) m c) zs u∧zs.length=m∧zs.take xs.length=xs.take m:=by
  rcases hr with ⟨a0,e,rfl,rfl⟩|⟨b,o,cap,cur,rest,e,rfl,h1,h2,h3,h4⟩
  · simp only[Value.slice.injEq] at e
    obtain⟨rfl,rfl,rfl⟩:=e
    obtain rfl:m=0:=by omega
    exact⟨[],.inl ⟨_,rfl,rfl,rfl⟩,rfl,rfl⟩
  · simp only[Value.slice.injEq] at e
    obtain⟨rfl,rfl,rfl⟩:=e
    have hl:((xs++rest).take m).length=m:=by rw[dZ,b_,jB (by omega)]
    refine⟨(xs++rest).take m,.inr ⟨b,o,c,cur,(xs++rest).drop m,?_,rfl,by rw[hl,eT,b_];omega,h2,h3,by rw[lJ];exact h4⟩,hl,?_⟩
    · unfold d_
      rw[hl]
      split
      · rfl
      · simp[kS]
    · rw[q8,Nat.min_comm,←q8,we rfl]
theorem aH.cases {v:Value} {u:az} (hr:aH T d g v xs u) (hx:0<xs.length):
    ∃(b o cap:Nat) (cur:Array Value) (rest:List α),v=.slice (some ⟨b,o,none⟩) xs.length cap∧u=[(b,.cells cur T (0,0))]∧xs.length+rest.length=cap∧cap≤maxLen∧o+cap*d.sz≤cur.size∧Reads d g (xs++rest) (cut cur o (cap*d.sz)):=by
  rcases hr with ⟨_,_,rfl,_⟩|h
  · simp at hx
  · exact h
theorem Mo {cs:Array Value} {o:Nat} {vs:List Value} (h:o+vs.length≤cs.size):(splice cs o vs).size=cs.size:=by
  unfold splice
  rw[vX,b_,b_,dZ,eT,q6,jB (by omega)]
  omega
def putAt {α:Type} (xs:List α) (lo:Nat) (ys:List α):List α:=xs.take lo++ys++xs.drop (lo+ys.length)
theorem wE {ys:List α} {lo:Nat} (h:lo+ys.length≤xs.length):(putAt xs lo ys).length=xs.length:=by
  unfold putAt
  rw[b_,b_,dZ,eT,jB (by omega)]
  omega
theorem aH.yq {b o cap:Nat} {cur:Array Value} {rest:List α} (h1:xs.length+rest.length=cap) (h2:cap≤maxLen) (h3:o+cap*d.sz≤cur.size) (h4:Reads d g (xs++rest) (cut cur o (cap*d.sz)))
    (lo:Nat) {ys:List α} {news:List Value} (hlo:lo+ys.length≤xs.length) (hk:Reads d g ys news):
    aH T d g (.slice (some ⟨b,o,none⟩) (putAt xs lo ys).length cap) (putAt xs lo ys) [(b,.cells (splice cur (o+lo*d.sz) news) T (0,0))]:=by
  have hn:=hk.len
  have G:(lo+ys.length)*d.sz≤cap*d.sz:=iB _ (by omega)
  rw[nk] at G
  have hcl:cur.toList.length=cur.size:=q6
  refine .inr ⟨b,o,cap,_,rest,rfl,rfl,by rw[wE hlo];exact h1,h2,by rw[Mo (by rw[hn];omega)];exact h3,?_⟩
  have r1:=(h4.hU lo (by rw[b_];omega)).1
  have u:=(h4.hU (lo+ys.length) (by rw[b_];omega)).2
  rw[List.take_append_of_le_length (by omega)] at r1
  rw[List.drop_append_of_le_length (by omega)] at u
  have D:putAt xs lo ys++rest=xs.take lo++ys++(xs.drop (lo+ys.length)++rest):=by simp[putAt,cJ]
  rw[D]
  have hlen:(xs.take lo++ys++(xs.drop (lo+ys.length)++rest)).length=cap:=by
    rw[←D,b_,wE hlo];exact h1
  have:=wC (pre:=cur.toList.take o) (post:=cur.toList.drop (o+cap*d.sz)) (o:=o) ((r1.append hk).append u) (by rw[dZ,hcl];exact jB (by omega)) (splice cur (o+lo*d.sz) news) (by
    unfold splice cut
    rw[Fg,yo,hn,q8,jB (by omega)]
    have e2:cur.toList.drop (o+cap*d.sz)=(cur.toList.drop (o+(lo+ys.length)*d.sz)).drop (cap*d.sz-(lo+ys.length)*d.sz):=by
      rw[o7];congr 1;rw[nk];omega
    have e1:((cur.toList.drop o).take (cap*d.sz)).drop ((lo+ys.length)*d.sz)++cur.toList.drop (o+cap*d.sz)=cur.toList.drop (o+lo*d.sz+ys.length*d.sz):=by
      rw[q7,o7,e2,lJ,nk,Bk]
    simp only[cJ]
    rw[e1])
  rwa[hlen] at this
theorem aH.put {b o cap:Nat} {cur:Array Value} {rest:List α} (h1:xs.length+rest.length=cap) (h2:cap≤maxLen) (h3:o+cap*d.sz≤cur.size) (h4:Reads d g (xs++rest) (cut cur o (cap*d.sz))) (i:Nat) (hi:i<xs.length) {x:α} {vs:List Value} (hk:d.K g x vs):
    aH T d g (.slice (some ⟨b,o,none⟩) (xs.set i x).length cap) (xs.set i x) [(b,.cells (splice cur (o+i*d.sz) vs) T (0,0))]:=by
  have e:putAt xs i [x]=xs.set i x:=by rw[List.set_eq_take_append_cons_drop,aY hi];simp[putAt]
  have:=aH.yq (T:=T) (b:=b) h1 h2 h3 h4 i (ys:=[x]) (by simp;omega) (Reads.Mc hk)
  rwa[e] at this
theorem wF {g:GH} {n:Int} (h0:0≤n) (h1:n≤255):a_.K g (UInt8.ofNat n.toNat) [.int .u8 n]:=by
  show[Value.int .u8 n]=[Value.int .u8 (UInt8.ofNat n.toNat).toNat]
  rw[wD,pF (by omega),Bt h0]
theorem dP {v:Value} {ys:List α} {c:az} (h:aH T d g v xs c) (e:xs=ys):aH T d g v ys c:=e▸h
end
section
variable {C:ff} {ds:List Deferred} {i j:Nat} {r:ay} {M:Nat→Prop} {Ls:List (Nat×Bool)} {e:Env} {h:ay}
variable {h0:ay} {g0:GH} {S0:Nat→Prop} {g:GH} {L L':List az} {α:Type} {d:Kd α}
theorem Op.Ft {dst:Nat} {T E:TypeId} {cK:Nat} {x hi:Operand} {ao:Option Addr} {n c:Nat} {k:IntKind} {m:Int} {b:Bool} {xs:List α} (ho:c_ C i j e=some (some dst,.slice T x none (some hi) none)) (hE:kr C.P T=some (E,d.sz,cK))
    (hx:e.ev x=.slice ao n c) (hhi:e.ev hi=.int k m) (hs:an g E d (.slice ao n c) xs) (h0:0≤m) (h1:m≤xs.length)
    (K:∀u,an g E d u (xs.take m.toNat)→Op C ds i r M Ls ((dst,u)::e) h):Op C ds i r M ((j,b)::Ls) e h:=by
  have G:=hs
  obtain⟨I,c',D,hc,_⟩:=G
  simp only[Value.slice.injEq] at D
  obtain⟨rfl,rfl,rfl⟩:=D
  refine Op.yp ho hE hx hhi h0 (by omega) (K _ ?_)
  have:=hs.sub 0 m.toNat (eX _) (by omega)
  simpa using this
theorem Op.pJ {dst:Nat} {T E:TypeId} {cK:Nat} {x lo:Operand} {ao:Option Addr} {n c:Nat} {k:IntKind} {m:Int} {b:Bool} {xs:List α} (ho:c_ C i j e=some (some dst,.slice T x (some lo) none none)) (hE:kr C.P T=some (E,d.sz,cK))
    (hx:e.ev x=.slice ao n c) (hlo:e.ev lo=.int k m) (hs:an g E d (.slice ao n c) xs) (h0:0≤m) (h1:m≤xs.length)
    (K:∀u,an g E d u (xs.drop m.toNat)→Op C ds i r M Ls ((dst,u)::e) h):Op C ds i r M ((j,b)::Ls) e h:=by
  have G:=hs
  obtain⟨I,c',D,hc,_⟩:=G
  simp only[Value.slice.injEq] at D
  obtain⟨rfl,rfl,rfl⟩:=D
  refine Op.Fo ho hE hx hlo h0 (by omega) (K _ ?_)
  have:=hs.sub m.toNat xs.length (by omega) (gF _)
  simpa using this
theorem Op.Mp {dst:Nat} {T E:TypeId} {cK:Nat} {x lo hi:Operand} {ao:Option Addr} {n c:Nat} {k k':IntKind} {m m':Int} {b:Bool} {xs:List α} (ho:c_ C i j e=some (some dst,.slice T x (some lo) (some hi) none)) (hE:kr C.P T=some (E,d.sz,cK))
    (hx:e.ev x=.slice ao n c) (hlo:e.ev lo=.int k m) (hhi:e.ev hi=.int k' m') (hs:an g E d (.slice ao n c) xs) (h0:0≤m) (h1:m≤m') (h2:m'≤xs.length)
    (K:∀u,an g E d u ((xs.take m'.toNat).drop m.toNat)→Op C ds i r M Ls ((dst,u)::e) h):Op C ds i r M ((j,b)::Ls) e h:=by
  have G:=hs
  obtain⟨I,c',D,hc,_⟩:=G
  simp only[Value.slice.injEq] at D
  obtain⟨rfl,rfl,rfl⟩:=D
  exact Op.Mm ho hE hx hlo hhi h0 h1 (by omega) (K _ (hs.sub m.toNat m'.toNat (by omega) (by omega)))
theorem wG {n m:Int} (h0:0≤n) (h1:n≤9223372036854775807) (h2:1≤m):Value.int .i64 (IntKind.wrap .i64 (n.tdiv m))=.int .i64 (n / m):=by rw[IntWalk.i64_quo n m ⟨h0,h1,h2⟩]
theorem sP {n m:Int} (h0:0≤n):Value.int .i64 (n.tmod m)=.int .i64 (n % m):=by rw[IntWalk.rem_in n m h0]
theorem Op.Mq {dst:Nat} {x y:Operand} {t t' E:TypeId} {cK:Nat} {ao:Option Addr} {n cap:Nat} {xs:List α} {m:Int}
    (ho:c_ C i j e=some (some dst,.call {callee:=.builtin .append,args:=#[x,y],argTypes:=#[t,t']})) (hI:kr C.P t=some (E,d.sz,cK)) (ht':C.P.underlying t'=some (.int .i64))
    (hz:((C.P.info? E).bind (·.zero)).map (·.cells.toList)=some d.zc)
    (hx:e.ev x=.slice ao n cap) (hs:h_ h g E d (.slice ao n cap) xs) (hy:e.ev y=.int .i64 m) (h0':0≤m) (hg:(cap:Int)<xs.length+m) (hlen:(xs.length+m.toNat)*cK≤140737488355328) (s:St h0 g0 S0 g L h)
    (K:∀b h' c' u cur,aH E d g (.slice (some ⟨b,0,none⟩) (xs.length+m.toNat) u) (xs++List.replicate m.toNat d.zv) c'→c'=[(b,.cells cur E (0,0))]→St h0 g0 S0 g (c'::L) h'→Op C ds i r M Ls ((dst,.slice (some ⟨b,0,none⟩) (xs.length+m.toNat) u)::e) h'):
    Op C ds i r M ((j,false)::Ls) e h:=by
  obtain⟨o',h1,h2,h3⟩:=gm ho
  obtain⟨J,zv,I⟩:=qy hI
  obtain⟨news,hsrc,hro⟩:=cT.slice (P:=C.P) hs
  obtain⟨aw,c',O,hc,_⟩:=hs
  simp only[Value.slice.injEq] at O
  obtain⟨rfl,rfl,rfl⟩:=O
  have Z:zv.cells.toList=d.zc:=by simpa[I.info,I.zero] using hz
  have U:=fun q=>Bq d g zv.cells Z q
  have ab:cap<xs.length+m.toNat:=by omega
  have a0:=growslice_fits (old:=cap) ab hlen
  have a1:xs.length+m.toNat≤140737488355328:=by
    have:(xs.length+m.toNat)*1≤(xs.length+m.toNat)*cK:=uy _ I.Bm
    omega
  have a3:m.toNat*cK≤(xs.length+m.toNat)*cK:=iB _ (by omega)
  refine Op.run h1 (R:=fun ad h'=>∃u,ad=.value (.slice (some ⟨h.size,0,none⟩) (xs.length+m.toNat) u)∧xs.length+m.toNat≤u∧u≤maxLen∧
    h'=h.push (.cells (news.toArray++Builtin.zeroCells zv.cells m.toNat++Builtin.zeroCells zv.cells (u-(xs.length+m.toNat))) E (0,0))) ?_ ?_
  · intro w is
    have hh:=is.heap
    have D:=hsrc.cells w.drew hh xs.length (gF _)
    rw[←hsrc.size,wq] at D
    have hno:¬(xs.length+m.toNat≤cap):=by omega
    have hlim:¬(281474976710656<Builtin.nextslicecap (xs.length+m.toNat) cap*J.bytes):=by rw[I.bytes];omega
    have hneg:¬(m<0):=by omega
    have hbig:¬(281474976710656<m*(J.bytes:Int)):=by
      rw[I.bytes]
      have:m*(cK:Int)=((m.toNat*cK:Nat):Int):=by rw[Int.natCast_mul,Bt h0']
      omega
    have hsmall:¬(9223372036854775807<(xs.length:Int)+(m.toNat:Int)):=by omega
    have V:¬(9223372036854775807<(xs.length:Int)+max m 0):=by omega
    have X:¬(9223372036854775807<(xs.length:Int)+m):=by omega
    have hwr:IntKind.wrap .i64 m=m:=by rw[IntKind.wrap_i64];omega
    have hi:=I.info
    have Y:=I.zero
    have hai:∀w',(asInt (.int .i64 m)).run C.P w'=.ok m w':=fun w'=>by simp[asInt,asIntOf]
    refine⟨.value (.slice (some ⟨w.heap.size,0,none⟩) (xs.length+m.toNat) (grownCap w (xs.length+m.toNat) cap E)),
      w.drew.alloc (.cells (news.toArray++Builtin.zeroCells zv.cells m.toNat++Builtin.zeroCells zv.cells (grownCap w (xs.length+m.toNat) cap E-(xs.length+m.toNat))) E),?_,⟨rfl,is.os,is.tape,is.output⟩,_,by rw[←hh],wB w _ _ _,Bp w _ _ _ (by unfold maxLen;omega),by rw[←hh];rfl⟩
    refine pH (P:=C.P) h3 (.inl rfl) ?_
    simp only[pG,eS,kQ,hx,hy]
    simp only[Builtin.append_,sizeOf,typeInfo,zeroValue]
    simp only[qx,List.getElem?_cons_zero,List.getElem?_cons_succ,Sem.run_bind,run_program,Result.andThen_ok,run_underlying I.under,run_underlying ht',hi,Sem.run_pure,I.size]
    by_cases G:m.toNat*d.sz=0
    · have ae:Builtin.zeroCells zv.cells m.toNat=#[]:=by
        apply Array.eq_empty_of_size_eq_zero
        rw[Bo,I.cells];exact G
      simp[hai,hwr,hneg,hbig,hno,hsmall,X,V,hlim,D,Question.forced,newRow,grownCap,hi,Y,ae,G]
    · simp[hai,hwr,hneg,hbig,hno,hsmall,X,V,hlim,D,Question.forced,newRow,grownCap,hi,Y,G]
  · rintro _ _ ⟨u,rfl,hc1,am,rfl⟩
    refine⟨_,rfl,dB.push _,?_⟩
    rw[h2]
    refine K h.size _ _ u _ (.inr ⟨h.size,0,u,_,List.replicate (u-(xs.length+m.toNat)) d.zv,by rw[b_,oH],rfl,by rw[b_,oH,oH];omega,am,?_,?_⟩) rfl (s.alloc _)
    · simp only[Bi,vX,Bo,I.cells,hro.len]
      rw[qw,←nk,←nk,Ff hc1]
      exact gF _
    · have ar:(xs++List.replicate m.toNat d.zv++List.replicate (u-(xs.length+m.toNat)) d.zv).length=u:=by simp;omega
      have:=wC (pre:=[]) (post:=[]) (o:=0) ((hro.append (U m.toNat)).append (U (u-(xs.length+m.toNat)))) rfl (news.toArray++Builtin.zeroCells zv.cells m.toNat++Builtin.zeroCells zv.cells (u-(xs.length+m.toNat))) (by simp[Bj])
      rwa[ar] at this
theorem Op.Bu {dst:Nat} {T S E:TypeId} {x:Operand} {v:Value} {l:aj} (ho:c_ C i j e=some (some dst,.convert T S x)) (hT:C.P.underlying T=some (.slice E)) (hE:C.P.underlying E=some (.int .u8)) (hS:C.P.underlying S=some .string)
    (hx:e.ev x=v) (hs:h_ h g E a_ v l) (K:Op C ds i r M Ls ((dst,.string (br l))::e) h):Op C ds i r M ((j,false)::Ls) e h:=by
  obtain⟨o',h1,h2,h3⟩:=gm ho
  obtain⟨ao,c,rfl,hc,H⟩:=hs
  refine Op.take h1 (v:=.string (br l)) (fun h=>by cases h) (fun w is hk hw=>?_) (by rw[h2];exact K)
  have hw:=hw rfl
  unfold eN execOp
  simp only[h3,hx,Sem.run_bind]
  by_cases hl:l=[]
  · subst hl
    cases ao with
    |none=>rw[run_convert_bytes_nil w T E hT hE _ _ S hS];rfl
    |some a=>
     rw[cF,run_convert_bytes_string w T S E _ _ _ hT hE hS,run_bytesToString w a 0 c [] (by simp[loadCells,loadCellsFrom])]
     rfl
  · obtain⟨b,o,cur,fz,rfl,hb,hr⟩:=H hl
    rw[run_convert_bytes_arg w T E hT hE b o l.length c (l.map fun x=>(x.toNat:Int)) (by simp) (fun q hq=>?_) S hS]
    · simp only[Result.andThen_ok,Sem.run_pure]
      congr 3
      unfold strOfNums br
      congr 1
      simp[jA,Function.comp_def]
    · have u:l[q]?=some l[q]:=rq hq
      have h4:=hr.bB q u
      rw[ux _ _ _ _ _ (by
        have:(q+1)*a_.sz≤l.length*a_.sz:=iB _ hq
        rw[mP] at this
        exact this)] at h4
      have h5:cut cur (o+q*1) 1=[.int .u8 l[q].toNat]:=h4
      have h6:=bN h5 0 rfl
      rw[cell_of hw,oG hb]
      simp only[nU,nq] at h6
      rw[h6]
      simp[List.getD,u]
theorem Op.sQ {dst:Nat} {T S E:TypeId} {x:Operand} {v:Value} {l:aj} (ho:c_ C i j e=some (some dst,.convert T S x)) (hT:C.P.underlying T=some (.slice E)) (hE:C.P.underlying E=some (.int .u8)) (hS:C.P.underlying S=some .string)
    (hx:e.ev x=v) (hs:an g E a_ v l) (hg:bu g r) (hM:∀b o,g b=some o→¬M b) (K:Op C ds i r M Ls ((dst,.string (br l))::e) h):Op C ds i r M ((j,true)::Ls) e h:=by
  obtain⟨o',h1,h2,h3⟩:=gm ho
  obtain⟨ao,c,rfl,hc,H⟩:=hs
  refine Op.take h1 (v:=.string (br l)) (fun _=>by simp[mK,h3]) (fun w is hk hw=>?_) (by rw[h2];exact K)
  unfold eN execOp
  simp only[h3,hx,Sem.run_bind]
  by_cases hl:l=[]
  · subst hl
    cases ao with
    |none=>rw[run_convert_bytes_nil w T E hT hE _ _ S hS];rfl
    |some a=>
     rw[cF,run_convert_bytes_string w T S E _ _ _ hT hE hS,run_bytesToString w a 0 c [] (by simp[loadCells,loadCellsFrom])]
     rfl
  · obtain⟨b,o,cur,fz,rfl,hb,hr⟩:=H hl
    rw[run_convert_bytes_arg w T E hT hE b o l.length c (l.map fun x=>(x.toNat:Int)) (by simp) (fun q hq=>?_) S hS]
    · simp only[Result.andThen_ok,Sem.run_pure]
      congr 3
      unfold strOfNums br
      congr 1
      simp[jA,Function.comp_def]
    · have u:l[q]?=some l[q]:=rq hq
      have h4:=hr.bB q u
      rw[ux _ _ _ _ _ (by
        have:(q+1)*a_.sz≤l.length*a_.sz:=iB _ hq
        rw[mP] at this
        exact this)] at h4
      have h5:cut cur (o+q*1) 1=[.int .u8 l[q].toNat]:=h4
      have h6:=bN h5 0 rfl
      rw[cell_of rfl,oG ((hk.same b (lF.1 (hg _ _ hb)).1 (hM _ _ hb)).trans (hg _ _ hb))]
      simp only[nU,nq] at h6
      rw[h6]
      simp[List.getD,u]
end
section
variable {C:ff} {ds:List Deferred} {i j:Nat} {r:ay} {M:Nat→Prop} {Ls:List (Nat×Bool)} {e:Env} {h:ay}
variable {h0:ay} {g0:GH} {S0:Nat→Prop} {g:GH} {L L':List az} {α:Type} {d:Kd α}
theorem Fu {w:World} {B:World} (is:Is B h w) {E:TypeId} {xs ys:List α} {news:List Value} {b o cap:Nat} {cur:Array Value} {rest:List α} (h1:xs.length+rest.length=cap) (h2:cap≤maxLen) (h3:o+cap*d.sz≤cur.size) (h4:Reads d g (xs++rest) (cut cur o (cap*d.sz)))
    (s:St h0 g0 S0 g L h) (k:Nat) (hk:L[k]?=some [(b,.cells cur E (0,0))]) (lo:Nat) (hlo:lo+ys.length≤xs.length) (hr:Reads d g ys news) (D:∀v∈news,v.oneCell'=true) (hM:b<r.size→M b) (P:Program):
    ∃w',(storeCells ⟨b,o+lo*d.sz,none⟩ news).run P w=.ok () w'∧Is B w'.heap w'∧aH E d g (.slice (some ⟨b,o,none⟩) xs.length cap) (putAt xs lo ys) [(b,.cells (splice cur (o+lo*d.sz) news) E (0,0))]∧
     St h0 g0 S0 g (L.set k [(b,.cells (splice cur (o+lo*d.sz) news) E (0,0))]) w'.heap∧(dB r M h→dB r M w'.heap):=by
  have hb:w.heap[b]?=some (.cells cur E (0,0)):=by rw[is.heap];exact s.ag k hk
  have hn:=hr.len
  have G:(lo+ys.length)*d.sz≤cap*d.sz:=iB _ (by omega)
  rw[nk] at G
  have hst:=run_storeCells_at P b (o+lo*d.sz) E news 0 cur w hb (by rw[hn];omega) D
  simp only[nq] at hst
  refine⟨w.setRow b (splice cur (o+lo*d.sz) news),hst,⟨rfl,is.os,is.tape,is.output⟩,?_,?_,?_⟩
  · have:=aH.yq (T:=E) (b:=b) h1 h2 h3 h4 lo hlo hr
    rwa[wE hlo] at this
  · exact s.uw k hk (by have:=iC.row (cs:=splice cur (o+lo*d.sz) news) hb;rwa[is.heap] at this)
  · intro u
    rw[←is.heap] at u
    exact dB.row hM u
theorem Fv (xs:List α) (lo:Nat):putAt xs lo []=xs:=by simp[putAt]
theorem Op.bD {dst:Nat} {x y:Operand} {t t' E:TypeId} {cK:Nat} {ao:Option Addr} {n c lo m:Nat} {xs ys:List α} {news:List Value} {G:az}
    (ho:c_ C i j e=some (some dst,.call {callee:=.builtin .copy,args:=#[x,y],argTypes:=#[t,t']})) (hI:kr C.P t=some (E,d.sz,cK))
    (hx:e.ev x=.slice (d_ ao lo c d.sz) (n-lo) (c-lo)) (hR:aH E d g (.slice ao n c) xs G) (hlo:lo≤xs.length) (s:St h0 g0 S0 g L h) (k:Nat) (hk:L[k]?=some G)
    (hy:cT C.P h d.sz (e.ev y) m news) (hys:Reads d g ys news) (hm:ys.length=m) (hM:∀p∈G,p.1<r.size→M p.1)
    (K:∀u h',aH E d g (.slice ao n c) (putAt xs lo (ys.take (xs.length-lo))) u→St h0 g0 S0 g (L.set k u) h'→Op C ds i r M Ls ((dst,.int .i64 ((min ys.length (xs.length-lo):Nat):Int))::e) h'):Op C ds i r M ((j,false)::Ls) e h:=by
  obtain⟨o',h1,h2,h3⟩:=gm ho
  obtain⟨ar,zv,I⟩:=qy hI
  subst hm
  obtain⟨aw,c',U⟩:=hR.ak
  simp only[Value.slice.injEq] at U
  obtain⟨rfl,rfl,rfl⟩:=U
  refine Op.run h1 (R:=fun ad h'=>∃u,ad=.value (.int .i64 ((min ys.length (xs.length-lo):Nat):Int))∧aH E d g (.slice ao xs.length c) (putAt xs lo (ys.take (xs.length-lo))) u∧St h0 g0 S0 g (L.set k u) h'∧(dB r M h→dB r M h')) ?_ ?_
  · intro w is
    have hh:=is.heap
    have hl:=hy.len w hh
    have hcs:=hy.cells w hh (min ys.length (xs.length-lo)) (Nat.min_le_left _ _)
    have hi:=I.info
    have step:∀w',((match d_ ao lo c d.sz with|some a=>storeCells a (news.take (min ys.length (xs.length-lo)*d.sz))|none=>pure ()):Sem Unit).run C.P w=.ok () w'→
        (eN e o').run C.P w=.ok (.value (.int .i64 ((min ys.length (xs.length-lo):Nat):Int))) w':=by
      intro w' hw
      refine pH (P:=C.P) h3 (.inr (.inl rfl)) ?_
      simp only[pG,eS,kQ,hx]
      simp only[Builtin.copy_,sizeOf,typeInfo]
      simp only[qx,List.getElem?_cons_zero,List.getElem?_cons_succ,Sem.run_bind,run_program,Result.andThen_ok,run_underlying I.under,hi,Sem.run_pure,I.size,hl,hcs]
      cases hsa:d_ ao lo c d.sz with
      |none=>rw[hsa] at hw;simp only[Sem.run_pure] at hw;simpa[goInt] using hw
      |some a=>rw[hsa] at hw;simp[hw,goInt]
    have V:=wo k L G
    rcases hR with ⟨a0,D,rfl,rfl⟩|⟨b,o,cap,cur,rest,D,rfl,X,Y,Z,ab⟩
    · simp only[Value.slice.injEq] at D
      obtain⟨rfl,_,rfl⟩:=D
      refine⟨_,_,step w (by cases d_ ao lo 0 d.sz<;>simp[storeCells]),is.again,[],rfl,.inl ⟨ao,rfl,?_,rfl⟩,?_,fun J=>by rw[hh];exact J⟩
      · simp[putAt]
      · rw[hh];exact St.pq (V _ hk) (s.sO k hk)
    · simp only[Value.slice.injEq] at D
      obtain⟨rfl,_,rfl⟩:=D
      have hr:Reads d g (ys.take (xs.length-lo)) (news.take (min ys.length (xs.length-lo)*d.sz)):=by
        have:=(hys.hU (min ys.length (xs.length-lo)) (Nat.min_le_left _ _)).1
        rwa[show ys.take (min ys.length (xs.length-lo))=ys.take (xs.length-lo) from by
          rcases Nat.le_total ys.length (xs.length-lo) with hle|hle
          · rw[jB hle,fF (gF _),fF hle]
          · rw[Nat.min_eq_right hle]] at this
      have hlt:lo+(ys.take (xs.length-lo)).length≤xs.length:=by rw[dZ];omega
      obtain⟨w',hw,ae,hrow,hst,O⟩:=Fu (r:=r) (M:=M) is X Y Z ab s k hk lo hlt hr (fun v hv=>hy.one v (List.mem_of_mem_take hv)) (hM (b,.cells cur E (0,0)) (iA.2 rfl)) C.P
      by_cases hcl:lo=c
      ·
        have hz:min ys.length (xs.length-lo)=0:=by omega
        have am:ys.take (xs.length-lo)=[]:=by rw[show xs.length-lo=0 by omega];simp
        refine⟨_,w,step w ?_,is.again,[(b,.cells cur E (0,0))],rfl,?_,?_,fun J=>by rw[hh];exact J⟩
        · rw[hz]
          unfold d_
          rw[aY hcl.symm]
          simp[storeCells]
        · rw[am,Fv];exact .inr ⟨b,o,c,cur,rest,rfl,rfl,X,Y,Z,ab⟩
        · rw[hh];exact St.pq (V _ hk) (s.sO k hk)
      · refine⟨_,w',step w' ?_,ae,_,rfl,hrow,hst,O⟩
        unfold d_
        rw[aL (fun e=>hcl e.symm)]
        simp only[lI,kS]
        exact hw
  · rintro _ _ ⟨u,rfl,hrow,hst,O⟩
    refine⟨_,rfl,O,?_⟩
    rw[h2]
    exact K u _ hrow hst
abbrev eY:Value:=(.tuple #[])
theorem Op.Mr {x:Operand} {t E:TypeId} {cK:Nat} {ao:Option Addr} {n c lo:Nat} {xs:List α} {G:az}
    (ho:c_ C i j e=some (none,.call {callee:=.builtin .clear,args:=#[x],argTypes:=#[t]})) (hI:kr C.P t=some (E,d.sz,cK)) (hz:((C.P.info? E).bind (·.zero)).map (·.cells.toList)=some d.zc)
    (hx:e.ev x=.slice (d_ ao lo c d.sz) (n-lo) (c-lo)) (hR:aH E d g (.slice ao n c) xs G) (hlo:lo≤xs.length) (s:St h0 g0 S0 g L h) (k:Nat) (hk:L[k]?=some G) (hM:∀p∈G,p.1<r.size→M p.1)
    (K:∀u h',aH E d g (.slice ao n c) (putAt xs lo (List.replicate (xs.length-lo) d.zv)) u→St h0 g0 S0 g (L.set k u) h'→Op C ds i r M Ls e h'):Op C ds i r M ((j,false)::Ls) e h:=by
  obtain⟨o',h1,h2,h3⟩:=gm ho
  obtain⟨a3,zv,I⟩:=qy hI
  obtain⟨a4,c',U⟩:=hR.ak
  simp only[Value.slice.injEq] at U
  obtain⟨rfl,rfl,rfl⟩:=U
  have ae:zv.cells.toList=d.zc:=by simpa[I.info,I.zero] using hz
  refine Op.run h1 (R:=fun am h'=>∃u,am=.value eY∧aH E d g (.slice ao xs.length c) (putAt xs lo (List.replicate (xs.length-lo) d.zv)) u∧St h0 g0 S0 g (L.set k u) h'∧(dB r M h→dB r M h')) ?_ ?_
  · intro w is
    have hh:=is.heap
    have hi:=I.info
    have ar:=I.zero
    have V:=wo k L G
    have X:xs.length-lo=0∨d_ ao lo c d.sz=none→(eN e o').run C.P w=.ok (.value eY) w:=by
      intro h0
      refine pH (P:=C.P) h3 (by simp) ?_
      simp only[pG,eS,kQ,hx]
      simp only[Builtin.clear_]
      simp only[qx,List.getElem?_cons_zero,Sem.run_bind,run_underlying I.under,Result.andThen_ok]
      rcases h0 with h0|h0
      · rw[h0];cases d_ ao lo c d.sz<;>simp
      · rw[h0];simp
    have go:∀a w',d_ ao lo c d.sz=some a→xs.length-lo≠0→(storeCells a (Builtin.zeroCells zv.cells (xs.length-lo)).toList).run C.P w=.ok () w'→(eN e o').run C.P w=.ok (.value eY) w':=by
      intro a w' ha hn hw
      refine pH (P:=C.P) h3 (by simp) ?_
      simp only[pG,eS,kQ,hx,ha]
      obtain⟨m,hm⟩:∃m,xs.length-lo=m+1:=⟨xs.length-lo-1,by omega⟩
      rw[hm] at hw ⊢
      simp only[Builtin.clear_,zeroValue,typeInfo]
      simp only[qx,List.getElem?_cons_zero,Sem.run_bind,run_underlying I.under,Result.andThen_ok,run_program,hi,ar,Sem.run_pure,hw]
    rcases hR with ⟨a0,D,rfl,rfl⟩|⟨b,o,cap,cur,rest,D,rfl,Y,Z,ab,ad⟩
    · simp only[Value.slice.injEq] at D
      obtain⟨rfl,_,rfl⟩:=D
      refine⟨_,_,X (.inl (by simp)),is.again,[],rfl,.inl ⟨ao,rfl,by simp[putAt],rfl⟩,?_,fun J=>by rw[hh];exact J⟩
      rw[hh];exact St.pq (V _ hk) (s.sO k hk)
    · simp only[Value.slice.injEq] at D
      obtain⟨rfl,_,rfl⟩:=D
      by_cases hn:xs.length-lo=0
      · have aw:List.replicate (xs.length-lo) d.zv=[]:=by rw[hn];rfl
        refine⟨_,w,X (.inl hn),is.again,[(b,.cells cur E (0,0))],rfl,?_,?_,fun J=>by rw[hh];exact J⟩
        · rw[aw,Fv];exact .inr ⟨b,o,c,cur,rest,rfl,rfl,Y,Z,ab,ad⟩
        · rw[hh];exact St.pq (V _ hk) (s.sO k hk)
      · have hr:Reads d g (List.replicate (xs.length-lo) d.zv) (Builtin.zeroCells zv.cells (xs.length-lo)).toList:=Bq d g zv.cells ae _
        obtain⟨w',hw,a1,hrow,hst,O⟩:=Fu (r:=r) (M:=M) is Y Z ab ad s k hk lo (by rw[oH];omega) hr hr.one (hM (b,.cells cur E (0,0)) (iA.2 rfl)) C.P
        have hsa:d_ (some ⟨b,o,none⟩) lo c d.sz=some ⟨b,o+lo*d.sz,none⟩:=by
          unfold d_
          rw[aL (by omega)]
          simp[kS]
        exact⟨_,w',go _ w' hsa hn hw,a1,_,rfl,hrow,hst,O⟩
  · rintro _ _ ⟨u,rfl,hrow,hst,O⟩
    refine⟨_,rfl,O,?_⟩
    rw[h2]
    exact K u _ hrow hst
end
def wH (f:Field→Option Bool):List Field→Option Bool
  |[]=>some true
  |x::r=>match f x,wH f r with
   |some a,some b=>some (a&&b)
   |_,_=>none
def wI (P:Program):Nat→TypeId→Value→Value→Option Bool
  |0,_,_,_=>none
  |n+1,T,x,y=>match P.underlying T,x,y with
   |some .bool,.bool a,.bool b=>some (a==b)
   |some (.int _),.int k a,.int k' b=>if k=k' then some (a==b) else none
   |some .string,.string a,.string b=>some (a==b)
   |some (.struct fs),.agg xs,.agg ys=>if P.stoodInHeld T=true then none else
       wH (fun f=>if f.name="_" then none else match oD P (part f.type xs f.offset),oD P (part f.type ys f.offset) with
         |some a,some b=>wI P n f.type a b
         |_,_=>none) fs.toList
   |_,_,_=>none
theorem Fw {P:Program} {w:World} {f:Field→Option Bool} (F:Field→Option Bool×Unit→Sem (ForInStep (Option Bool×Unit))):∀(l:List Field) (r:Bool),wH f l=some r→
    (∀x b,f x=some b→∀s,(F x s).run P w=.ok (if b=true then .yield (none,()) else .done (some false,())) w)→(forIn l (none,()) F).run P w=.ok (if r=true then (none,()) else (some false,())) w
  |[],r,h,H=>by
   simp only[wH,ey] at h
   subst h
   simp
  |x::l,r,h,H=>by
   unfold wH at h
   split at h
   · rename_i a b ha hb
     simp only[ey] at h
     subst h
     have ih:=Fw F l b hb H
     have hx:=H x a ha (none,())
     rw[List.forIn_cons,Sem.run_bind,hx]
     cases a with
     |true=>simpa using ih
     |false=>simp
   · cases h
theorem Ms {P:Program} {w:World}:∀(n m:Nat) (T:TypeId) (x y:Value) (r:Bool),n≤m→wI P n T x y=some r→(Go.Op.equalIn m T x y).run P w=.ok r w:=by
  intro n
  induction n with
  |zero=>intro m T x y r _ h;simp[wI] at h
  |succ n ih=>
   intro m T x y r hm h
   obtain⟨m,rfl⟩:∃q,m=q+1:=⟨m-1,by omega⟩
   unfold wI at h
   split at h
   · rename_i hu;simp only[ey] at h;subst h
     simp[Go.Op.equalIn,run_underlying hu]
   · rename_i hu
     split at h
     · rename_i hk;simp only[ey] at h;subst h;subst hk
       simp[Go.Op.equalIn,run_underlying hu]
     · cases h
   · rename_i hu;simp only[ey] at h;subst h
     simp[Go.Op.equalIn,run_underlying hu]
   · rename_i fs xs ys hu
     split at h
     · cases h
     · rename_i hs
       simp only[Go.Op.equalIn,Sem.run_bind,run_underlying hu,Result.andThen_ok,run_program,hs,dI,fW]
       rw[←Array.forIn_toList,Fw (P:=P) (w:=w) _ fs.toList r h (fun fl b hb u=>?_)]
       · cases r<;>rfl
       · split at hb
         · cases hb
         · rename_i hname
           split at hb
           · rename_i a b' ha hb'
             have h1:=uu _ ha w
             have h2:=uu _ hb' w
             have h3:=ih m fl.type a b' b (by omega) hb
             simp only[hname,ne_eq,not_false_eq_true,gX,Sem.run_bind,h1,h2,h3,Result.andThen_ok]
             cases b<;>rfl
           · cases hb
   · cases h
section
variable {C:ff} {ds:List Deferred} {i j:Nat} {r:ay} {M:Nat→Prop} {Ls:List (Nat×Bool)} {e:Env} {h:ay}
theorem Op.Fx {dst:Nat} {T T':TypeId} {x y:Operand} {neq:Bool} {xs ys:Array Value} {q q':Bool} {b:Bool} (ho:c_ C i j e=some (some dst,.binOp (bif neq then .neq else .eql) T x y T'))
    (hx:e.ev x=.agg xs) (hy:e.ev y=.agg ys) (hg:C.P.eqGuardType C.P.depth T=false) (hq:wI C.P 30 T (.agg xs) (.agg ys)=some q) (hv:(bif neq then !q else q)=q')
    (K:Op C ds i r M Ls ((dst,.bool q')::e) h):Op C ds i r M ((j,b)::Ls) e h:=by
  refine Op.free ho (fun o' ho w=>?_) K
  have h1:(Go.Op.equal T (.agg xs) (.agg ys)).run C.P w=.ok q w:=Ms 30 _ T _ _ q (by decide) hq
  subst hv
  cases neq<;>simp only[cond_true,cond_false] at ho ⊢<;>
    simp[execOp,ho,hx,hy,eqGuard,binOp,hg,h1]
end
theorem Mt (a b:aj):(br a==br b)=(a==b):=by
  show(a.toArray==b.toArray)=_
  simp
def pK (P:Program) (e:Env) (h:ay):List ResultVar→List Value→Prop
  |[],[]=>True
  |.tmp t::l,v::vs=>e.get t=some v∧pK P e h l vs
  |.cell c T::l,v::vs=>(∃b o,e.get c=some (.pointer (some ⟨b,o,none⟩))∧∀w:World,w.heap=h→(loadVar T ⟨b,o,none⟩).run P w=.ok v w)∧pK P e h l vs
  |_,_=>False
theorem cq {P:Program} {h:ay} {T:TypeId} {b o n:Nat} {vs:List Value} {cs:Array Value} {u:TypeId} {fz:Nat×Nat} (hT:kq P T=some (true,n)) (hb:h[b]?=some (.cells cs u fz)) (hv:cut cs o n=vs) (hl:vs.length=n):
    ∀w:World,w.heap=h→(loadVar T ⟨b,o,none⟩).run P w=.ok (.agg vs.toArray) w:=
  fun w hw=>Be hT hl fun k v hk=>by rw[cell_of hw];exact Bf hv hb k v hk
theorem yt {P:Program} {h:ay} {T:TypeId} {b o n:Nat} {v:Value} {cs:Array Value} {u:TypeId} {fz:Nat×Nat} (hT:kq P T=some (false,n)) (hb:h[b]?=some (.cells cs u fz)) (hv:cs[o]?=some v):
    ∀w:World,w.heap=h→(loadVar T ⟨b,o,none⟩).run P w=.ok v w:=
  fun w hw=>Bd hT (by rw[cell_of hw,oG hb,hv])
theorem Fy {P:Program} {f:Func} {a:Act} {e:Env} {n:Nat} {ds:List Deferred} {h:ay} (ft:gZ e n ds a) {vs:List Value} (hv:pK P e h f.results.toList vs) (w:World) (hw:w.heap=h):
    (results f a.tmps).run P w=.ok (if hs:vs.toArray.size=1 then vs.toArray[0] else .tuple vs.toArray) w:=by
  have key:∀(g:ResultVar→Sem Value),(∀t,g (.tmp t)=pure (a.tmps.getD t undef))→(∀c t,g (.cell c t)=do loadVar t (←asAddr (a.tmps.getD c undef)))→∀(l:List ResultVar) (vs:List Value),pK P e h l vs→(l.mapM g).run P w=.ok vs w:=by
    intro g hg u l
    induction l with
    |nil=>
     intro vs h
     cases vs with
     |nil=>rfl
     |cons=>simp[pK] at h
    |cons x l ih=>
     intro vs hh
     rw[A7]
     cases vs with
     |nil=>cases x<;>simp[pK] at hh
     |cons v vs=>
      cases x with
      |tmp t=>
       have h1:=ft.get t v hh.1
       simp only[Sem.run_bind,hg,Sem.run_pure,Result.andThen_ok,ih vs hh.2]
       simp[h1]
      |cell c t=>
       obtain⟨⟨b,o,h1,h2⟩,h3⟩:=hh
       have h4:=ft.get c _ h1
       have h5:a.tmps.getD c undef=.pointer (some ⟨b,o,none⟩):=by simp[h4]
       simp only[Sem.run_bind,u,h5,asAddr,Sem.run_pure,Result.andThen_ok,h2 w hw,ih vs h3]
  have D:∀(g:ResultVar→Sem Value) (vs:List Value),(f.results.toList.mapM g).run P w=.ok vs w→(f.results.mapM g).run P w=.ok vs.toArray w:=by
    intro g vs h
    rw[E7]
    simp only[Sem.run_map,h,Result.andThen_ok]
  unfold results
  rw[Sem.run_bind]
  exact(congrArg (fun r=>Result.andThen r _) (D _ _ (key _ (fun _=>rfl) (fun _ _=>rfl) _ _ hv))).trans rfl
theorem At.Fz {P:Program} {B:World} {fn:FuncId} {f:Func} {R:Value→ay→Prop} {i:Nat} {e:Env} {h:ay} {v:Value} {vs:List Value} {rl:List ResultVar}
    (hi:nj (pt (cL f) i)=true) (hr:f.results.toList=rl) (hv:pK P e h rl vs) (u:(if hs:vs.toArray.size=1 then vs.toArray[0] else .tuple vs.toArray)=v) (H:R v h):At (bP P B fn f R) [] i e h:=by
  intro a w ft is
  subst u
  subst hr
  show dY P none fn (pn P B f R) (pt (cL f) i) a w
  have hq:∀j,(j=none∨j=some .ret)→pn P B f R j a w:=fun j hj=>
    ⟨hj,w,_,by rw[ft.defers];exact .nil w,Fy ft hv w is.heap,is.again,by rw[is.heap];exact H⟩
  generalize pt (cL f) i=k at *
  unfold nj at hi
  split at hi
  · exact .qo .iU (hq _ (.inl rfl))
  · exact .qo (.ret _) (hq _ (.inr rfl))
  · cases hi
def splitOn (c:UInt8):aj→List aj
  |[]=>[[]]
  |b::l=>if b=c then []::splitOn c l else match splitOn c l with
   |x::xs=>(b::x)::xs
   |[]=>[[b]]
theorem yu (c:UInt8) (l:aj):splitOn c l≠[]:=by
  cases l with
  |nil=>simp[splitOn]
  |cons b l=>unfold splitOn;split<;>(try split)<;>simp
theorem FA (c:UInt8):∀(l:aj),c ∉ l→splitOn c l=[l]
  |[],_=>rfl
  |b::l,h=>by
   have hb:¬b=c:=fun e=>h (by simp[e])
   rw[splitOn,aL hb,FA c l (fun hm=>h (by simp[hm]))]
theorem yw (c:UInt8):∀(a l:aj),c ∉ a→splitOn c (a++c::l)=a::splitOn c l
  |[],l,_=>by simp[splitOn]
  |b::a,l,h=>by
   have hb:¬b=c:=fun e=>h (by simp[e])
   rw[dL,splitOn,aL hb,yw c a l (fun hm=>h (by simp[hm]))]
theorem Bv (c:UInt8):∀(l:aj),(splitOn c l).length=l.count c+1
  |[]=>rfl
  |b::l=>by
   have ih:=Bv c l
   unfold splitOn
   split
   · rename_i h;subst h;simp[ih]
   · rename_i h
     have:(b==c)=false:=by simpa using h
     rw[List.count_cons,this]
     split
     · rename_i x xs hx;rw[hx] at ih;simpa using ih
     · rename_i hx;exact absurd hx (yu c l)
def eZ (c:UInt8):List aj→aj
  |[]=>[]
  |[x]=>x
  |x::y::xs=>x++c::eZ c (y::xs)
theorem FB (c:UInt8):∀(l:aj),eZ c (splitOn c l)=l
  |[]=>rfl
  |b::l=>by
   have ih:=FB c l
   unfold splitOn
   split
   · rename_i h
     subst h
     cases hs:splitOn b l with
     |nil=>exact absurd hs (yu b l)
     |cons x xs=>rw[hs] at ih;simp[eZ,ih]
   · split
     · rename_i x xs hx
       rw[hx] at ih
       cases xs with
       |nil=>simp only[eZ] at ih ⊢;rw[ih]
       |cons y ys=>simp only[eZ] at ih ⊢;rw[←ih];simp
     · rename_i hx;exact absurd hx (yu c l)
theorem yx (c:UInt8):∀(xs:List aj),xs≠[]→(∀x∈xs,c ∉ x)→splitOn c (eZ c xs)=xs
  |[],h,_=>absurd rfl h
  |[x],_,h=>FA c x (h x (by simp))
  |x::y::xs,_,h=>by
   rw[eZ,yw c x _ (h x (by simp)),yx c (y::xs) (by simp) (fun z hz=>h z (by simp[hz]))]
end Go.Proofs.YtdinkjbfgcfccaaGreatDoor.Sw
