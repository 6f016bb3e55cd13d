/- Lemmas for laws of this seat. -/
import Derived.Test.YtpacclkciilmpaaGreatDoorGBD
import Derived.Laws.BytesArg
set_option maxHeartbeats 4000000
namespace Go.Proofs.YtpacclkciilmpaaGreatDoor.Sw
set_option linter.unusedVariables false
set_option linter.unusedSimpArgs false
set_option linter.deprecated false
open Go
set_option linter.defProp false
def Bn:=@UInt8.toNat_ofNat'
def Bo:=@Int.toNat_of_nonneg
def cS:=@List.length_nil
def kE:=@List.getElem?_eq_getElem
def nI:=@Nat.mul_one
def wC:=@List.mem_of_mem_take
def dM:=@List.cons_append
section
variable {α:Type} {d:Kd α} {g g':GH} {h h':av} {T:TypeId} {xs:List α}
theorem ay.sub {ao:Option Addr} {n c:Nat} (hs:ay g T d (.slice ao n c) xs) (lo hi:Nat) (h1:lo≤hi) (h2:hi≤xs.length):
    ay g T d (.slice (ek ao lo c d.sz) (hi-lo) (c-lo)) ((xs.take hi).drop lo):=by
  obtain⟨u,c',e,hc,H⟩:=hs
  simp only[Value.slice.injEq] at e
  obtain⟨rfl,rfl,rfl⟩:=e
  have hl:((xs.take hi).drop lo).length=hi-lo:=by rw[gx,dD,jB h2]
  refine⟨_,_,by rw[hl],by rw[hl];omega,fun hne=>?_⟩
  have hlt:lo<hi:=by
    rcases oo lo hi with h|h
    · exact h
    · exact absurd (lg (by rw[hl];omega)) hne
  obtain⟨b,o,cur,fz,rfl,hb,hr⟩:=H (by intro hx;subst hx;simp at h2;omega)
  refine⟨b,o+lo*d.sz,cur,fz,?_,hb,?_⟩
  · unfold ek
    rw[aB (by omega)]
    simp[k_]
  · have h3:=((hr.iF hi h2).1.iF lo (by rw[dD,jB h2];exact h1)).2
    have D:hi*d.sz≤xs.length*d.sz:=iC _ h2
    have G:lo*d.sz≤hi*d.sz:=iC _ h1
    have e:((cut cur o (xs.length*d.sz)).take (hi*d.sz)).drop (lo*d.sz)=cut cur (o+lo*d.sz) ((hi-lo)*d.sz):=by
      rw[q8,Nat.sub_mul,sR]
      omega
    rw[e] at h3
    rw[hl]
    exact h3
theorem ay.Fg {n c:Nat} (hs:ay g T d (.slice none n c) xs):xs=[]:=by
  obtain⟨u,c',e,hc,H⟩:=hs
  simp only[Value.slice.injEq] at e
  obtain⟨rfl,_,_⟩:=e
  by_cases h:xs=[]
  · exact h
  · obtain⟨b,o,cur,fz,e,_⟩:=H h;cases e
theorem ig.Fh {ao:Option Addr} {n c:Nat} (hs:ig h g T d (.slice ao n c) xs) (lo:Nat) (h1:lo≤xs.length):ig h g T d (.slice (ek ao lo c d.sz) (n-lo) (c-lo)) (xs.drop lo):=by
  obtain⟨u,c',e,hc,H⟩:=hs
  simp only[Value.slice.injEq] at e
  obtain⟨rfl,rfl,rfl⟩:=e
  have hl:(xs.drop lo).length=xs.length-lo:=gx
  refine⟨_,_,by rw[hl],by rw[hl];omega,fun hne=>?_⟩
  have hlt:lo<xs.length:=by
    rcases oo lo xs.length with h|h
    · exact h
    · exact absurd (lg (by rw[hl];omega)) hne
  obtain⟨b,o,cur,fz,rfl,hb,hr⟩:=H (by intro hx;subst hx;simp at hlt)
  refine⟨b,o+lo*d.sz,cur,fz,?_,hb,?_⟩
  · unfold ek
    rw[aB (by omega)]
    simp[k_]
  · have h3:=(hr.iF lo h1).2
    have D:lo*d.sz≤xs.length*d.sz:=iC _ h1
    have e:(cut cur o (xs.length*d.sz)).drop (lo*d.sz)=cut cur (o+lo*d.sz) ((xs.length-lo)*d.sz):=by
      unfold cut
      rw[q8,o8,Nat.sub_mul]
    rw[e] at h3
    rw[hl];exact h3
theorem aF.take {ao:Option Addr} {n c:Nat} {u:au} (hr:aF T d g (.slice ao n c) xs u) (m:Nat) (hm:m≤xs.length):aF T d g (.slice (ek ao 0 c d.sz) m c) (xs.take m) u:=by
  rcases hr with ⟨a0,e,rfl,rfl⟩|⟨b,o,cap,cur,rest,e,rfl,h1,h2,h3,h4⟩
  · simp only[Value.slice.injEq] at e
    obtain⟨rfl,rfl,rfl⟩:=e
    obtain rfl:m=0:=by simpa using hm
    exact .inl ⟨_,rfl,rfl,rfl⟩
  · simp only[Value.slice.injEq] at e
    obtain⟨rfl,rfl,rfl⟩:=e
    have hl:(xs.take m).length=m:=by rw[dD,jB hm]
    refine .inr ⟨b,o,c,cur,xs.drop m++rest,?_,rfl,by rw[hl,b_,gx];omega,h2,h3,?_⟩
    · unfold ek
      rw[hl]
      split
      · rfl
      · simp[k_]
    · rw[←cI,mJ];exact h4
theorem aF.MJ {ao:Option Addr} {n c:Nat} {u:au} (hr:aF T d g (.slice ao n c) xs u) (m:Nat) (hm:m≤c):∃zs,aF T d g (.slice (ek ao 0 c d.sz) m c) zs u∧zs.length=m∧zs.take xs.length=xs.take m:=by
  rcases hr with ⟨a0,e,rfl,rfl⟩|⟨b,o,cap,cur,rest,e,rfl,h1,h2,h3,h4⟩
  · simp only[Value.slice.injEq] at e
    obtain⟨rfl,rfl,rfl⟩:=e
    obtain rfl:m=0:=by omega
    exact⟨[],.inl ⟨_,rfl,rfl,rfl⟩,rfl,rfl⟩
  · simp only[Value.slice.injEq] at e
    obtain⟨rfl,rfl,rfl⟩:=e
    have hl:((xs++rest).take m).length=m:=by rw[dD,b_,jB (by omega)]
    refine⟨(xs++rest).take m,.inr ⟨b,o,c,cur,(xs++rest).drop m,?_,rfl,by rw[hl,gx,b_];omega,h2,h3,by rw[mJ];exact h4⟩,hl,?_⟩
    · unfold ek
      rw[hl]
      split
      · rfl
      · simp[k_]
    · rw[qo,Nat.min_comm,←qo,wg rfl]
theorem aF.cases {v:Value} {u:au} (hr:aF T d g v xs u) (hx:0<xs.length):
    ∃(b o cap:Nat) (cur:Array Value) (rest:List α),v=.slice (some ⟨b,o,none⟩) xs.length cap∧u=[(b,.cells cur T (0,0))]∧xs.length+rest.length=cap∧cap≤maxLen∧o+cap*d.sz≤cur.size∧Reads d g (xs++rest) (cut cur o (cap*d.sz)):=by
  rcases hr with ⟨_,_,rfl,_⟩|h
  · simp at hx
  · exact h
theorem MK {cs:Array Value} {o:Nat} {vs:List Value} (h:o+vs.length≤cs.size):(splice cs o vs).size=cs.size:=by
  unfold splice
  rw[v7,b_,b_,dD,gx,qn,jB (by omega)]
  omega
def putAt {α:Type} (xs:List α) (lo:Nat) (ys:List α):List α:=xs.take lo++ys++xs.drop (lo+ys.length)
theorem wD {ys:List α} {lo:Nat} (h:lo+ys.length≤xs.length):(putAt xs lo ys).length=xs.length:=by
  unfold putAt
  rw[b_,b_,dD,gx,jB (by omega)]
  omega
theorem aF.yH {b o cap:Nat} {cur:Array Value} {rest:List α} (h1:xs.length+rest.length=cap) (h2:cap≤maxLen) (h3:o+cap*d.sz≤cur.size) (h4:Reads d g (xs++rest) (cut cur o (cap*d.sz)))
    (lo:Nat) {ys:List α} {news:List Value} (hlo:lo+ys.length≤xs.length) (hk:Reads d g ys news):
    aF T d g (.slice (some ⟨b,o,none⟩) (putAt xs lo ys).length cap) (putAt xs lo ys) [(b,.cells (splice cur (o+lo*d.sz) news) T (0,0))]:=by
  have hn:=hk.len
  have G:(lo+ys.length)*d.sz≤cap*d.sz:=iC _ (by omega)
  rw[nH] at G
  have hcl:cur.toList.length=cur.size:=qn
  refine .inr ⟨b,o,cap,_,rest,rfl,rfl,by rw[wD hlo];exact h1,h2,by rw[MK (by rw[hn];omega)];exact h3,?_⟩
  have r1:=(h4.iF lo (by rw[b_];omega)).1
  have u:=(h4.iF (lo+ys.length) (by rw[b_];omega)).2
  rw[List.take_append_of_le_length (by omega)] at r1
  rw[List.drop_append_of_le_length (by omega)] at u
  have D:putAt xs lo ys++rest=xs.take lo++ys++(xs.drop (lo+ys.length)++rest):=by simp[putAt,cI]
  rw[D]
  have hlen:(xs.take lo++ys++(xs.drop (lo+ys.length)++rest)).length=cap:=by
    rw[←D,b_,wD hlo];exact h1
  have:=wB (pre:=cur.toList.take o) (post:=cur.toList.drop (o+cap*d.sz)) (o:=o) ((r1.append hk).append u) (by rw[dD,hcl];exact jB (by omega)) (splice cur (o+lo*d.sz) news) (by
    unfold splice cut
    rw[E7,wz,hn,qo,jB (by omega)]
    have e2:cur.toList.drop (o+cap*d.sz)=(cur.toList.drop (o+(lo+ys.length)*d.sz)).drop (cap*d.sz-(lo+ys.length)*d.sz):=by
      rw[o8];congr 1;rw[nH];omega
    have e1:((cur.toList.drop o).take (cap*d.sz)).drop ((lo+ys.length)*d.sz)++cur.toList.drop (o+cap*d.sz)=cur.toList.drop (o+lo*d.sz+ys.length*d.sz):=by
      rw[q8,o8,e2,mJ,nH,yF]
    simp only[cI]
    rw[e1])
  rwa[hlen] at this
theorem aF.put {b o cap:Nat} {cur:Array Value} {rest:List α} (h1:xs.length+rest.length=cap) (h2:cap≤maxLen) (h3:o+cap*d.sz≤cur.size) (h4:Reads d g (xs++rest) (cut cur o (cap*d.sz))) (i:Nat) (hi:i<xs.length) {x:α} {vs:List Value} (hk:d.K g x vs):
    aF T d g (.slice (some ⟨b,o,none⟩) (xs.set i x).length cap) (xs.set i x) [(b,.cells (splice cur (o+i*d.sz) vs) T (0,0))]:=by
  have e:putAt xs i [x]=xs.set i x:=by rw[List.set_eq_take_append_cons_drop,aL hi];simp[putAt]
  have:=aF.yH (T:=T) (b:=b) h1 h2 h3 h4 i (ys:=[x]) (by simp;omega) (Reads.Mx hk)
  rwa[e] at this
theorem Fi {g:GH} {n:Int} (h0:0≤n) (h1:n≤255):bn.K g (UInt8.ofNat n.toNat) [.int .u8 n]:=by
  show[Value.int .u8 n]=[Value.int .u8 (UInt8.ofNat n.toNat).toNat]
  rw[Bn,sU (by omega),Bo h0]
theorem dZ {v:Value} {ys:List α} {c:au} (h:aF T d g v xs c) (e:xs=ys):aF T d g v ys c:=e▸h
end
section
variable {C:fC} {ds:List Deferred} {i j:Nat} {r:av} {M:Nat→Prop} {Ls:List (Nat×Bool)} {e:Env} {h:av}
variable {h0:av} {g0:GH} {S0:Nat→Prop} {g:GH} {L L':List au} {α:Type} {d:Kd α}
theorem Op.Fj {dst:Nat} {T E:TypeId} {cR:Nat} {x hi:Operand} {ao:Option Addr} {n c:Nat} {k:IntKind} {m:Int} {b:Bool} {xs:List α} (ho:c7 C i j e=some (some dst,.slice T x none (some hi) none)) (hE:kD C.P T=some (E,d.sz,cR))
    (hx:e.ev x=.slice ao n c) (hhi:e.ev hi=.int k m) (hs:ay g E d (.slice ao n c) xs) (h0:0≤m) (h1:m≤xs.length)
    (K:∀u,ay g E d u (xs.take m.toNat)→Op C ds i r M Ls ((dst,u)::e) h):Op C ds i r M ((j,b)::Ls) e h:=by
  have G:=hs
  obtain⟨I,c',D,hc,_⟩:=G
  simp only[Value.slice.injEq] at D
  obtain⟨rfl,rfl,rfl⟩:=D
  refine Op.yG ho hE hx hhi h0 (by omega) (K _ ?_)
  have:=hs.sub 0 m.toNat (gO _) (by omega)
  simpa using this
theorem Op.wE {dst:Nat} {T E:TypeId} {cR:Nat} {x lo:Operand} {ao:Option Addr} {n c:Nat} {k:IntKind} {m:Int} {b:Bool} {xs:List α} (ho:c7 C i j e=some (some dst,.slice T x (some lo) none none)) (hE:kD C.P T=some (E,d.sz,cR))
    (hx:e.ev x=.slice ao n c) (hlo:e.ev lo=.int k m) (hs:ay g E d (.slice ao n c) xs) (h0:0≤m) (h1:m≤xs.length)
    (K:∀u,ay g E d u (xs.drop m.toNat)→Op C ds i r M Ls ((dst,u)::e) h):Op C ds i r M ((j,b)::Ls) e h:=by
  have G:=hs
  obtain⟨I,c',D,hc,_⟩:=G
  simp only[Value.slice.injEq] at D
  obtain⟨rfl,rfl,rfl⟩:=D
  refine Op.Fe ho hE hx hlo h0 (by omega) (K _ ?_)
  have:=hs.sub m.toNat xs.length (by omega) (iO _)
  simpa using this
theorem Op.ML {dst:Nat} {T E:TypeId} {cR:Nat} {x lo hi:Operand} {ao:Option Addr} {n c:Nat} {k k':IntKind} {m m':Int} {b:Bool} {xs:List α} (ho:c7 C i j e=some (some dst,.slice T x (some lo) (some hi) none)) (hE:kD C.P T=some (E,d.sz,cR))
    (hx:e.ev x=.slice ao n c) (hlo:e.ev lo=.int k m) (hhi:e.ev hi=.int k' m') (hs:ay g E d (.slice ao n c) xs) (h0:0≤m) (h1:m≤m') (h2:m'≤xs.length)
    (K:∀u,ay g E d u ((xs.take m'.toNat).drop m.toNat)→Op C ds i r M Ls ((dst,u)::e) h):Op C ds i r M ((j,b)::Ls) e h:=by
  have G:=hs
  obtain⟨I,c',D,hc,_⟩:=G
  simp only[Value.slice.injEq] at D
  obtain⟨rfl,rfl,rfl⟩:=D
  exact Op.MH ho hE hx hlo hhi h0 h1 (by omega) (K _ (hs.sub m.toNat m'.toNat (by omega) (by omega)))
theorem Op.MM {dst:Nat} {x y:Operand} {t t' E:TypeId} {cR:Nat} {ao:Option Addr} {n cap:Nat} {xs:List α} {m:Int}
    (ho:c7 C i j e=some (some dst,.call {callee:=.builtin .append,args:=#[x,y],argTypes:=#[t,t']})) (hI:kD C.P t=some (E,d.sz,cR)) (ht':C.P.underlying t'=some (.int .i64))
    (hz:((C.P.info? E).bind (·.zero)).map (·.cells.toList)=some d.zc)
    (hx:e.ev x=.slice ao n cap) (hs:ig h g E d (.slice ao n cap) xs) (hy:e.ev y=.int .i64 m) (h0':0≤m) (hg:(cap:Int)<xs.length+m) (hlen:(xs.length+m.toNat)*cR≤140737488355328) (s:St h0 g0 S0 g L h)
    (K:∀b h' c' u cur,aF E d g (.slice (some ⟨b,0,none⟩) (xs.length+m.toNat) u) (xs++List.replicate m.toNat d.zv) c'→c'=[(b,.cells cur E (0,0))]→St h0 g0 S0 g (c'::L) h'→Op C ds i r M Ls ((dst,.slice (some ⟨b,0,none⟩) (xs.length+m.toNat) u)::e) h'):
    Op C ds i r M ((j,false)::Ls) e h:=by
  obtain⟨o',h1,h2,h3⟩:=gw ho
  obtain⟨J,zv,I⟩:=qx hI
  obtain⟨news,hsrc,hro⟩:=di.slice (P:=C.P) hs
  obtain⟨aw,c',O,hc,_⟩:=hs
  simp only[Value.slice.injEq] at O
  obtain⟨rfl,rfl,rfl⟩:=O
  have Z:zv.cells.toList=d.zc:=by simpa[I.info,I.zero] using hz
  have U:=fun q=>Bl d g zv.cells Z q
  have ab:cap<xs.length+m.toNat:=by omega
  have a0:=growslice_fits (old:=cap) ab hlen
  have a1:xs.length+m.toNat≤140737488355328:=by
    have:(xs.length+m.toNat)*1≤(xs.length+m.toNat)*cR:=sS _ I.Bh
    omega
  have a3:m.toNat*cR≤(xs.length+m.toNat)*cR:=iC _ (by omega)
  refine Op.run h1 (R:=fun ad h'=>∃u,ad=.value (.slice (some ⟨h.size,0,none⟩) (xs.length+m.toNat) u)∧xs.length+m.toNat≤u∧u≤maxLen∧
    h'=h.push (.cells (news.toArray++Builtin.zeroCells zv.cells m.toNat++Builtin.zeroCells zv.cells (u-(xs.length+m.toNat))) E (0,0))) ?_ ?_
  · intro w is
    have hh:=is.heap
    have D:=hsrc.cells w.drew hh xs.length (iO _)
    rw[←hsrc.size,uw] at D
    have hno:¬(xs.length+m.toNat≤cap):=by omega
    have hlim:¬(281474976710656<Builtin.nextslicecap (xs.length+m.toNat) cap*J.bytes):=by rw[I.bytes];omega
    have hneg:¬(m<0):=by omega
    have hbig:¬(281474976710656<m*(J.bytes:Int)):=by
      rw[I.bytes]
      have:m*(cR:Int)=((m.toNat*cR:Nat):Int):=by rw[Int.natCast_mul,Bo h0']
      omega
    have hsmall:¬(9223372036854775807<(xs.length:Int)+(m.toNat:Int)):=by omega
    have V:¬(9223372036854775807<(xs.length:Int)+max m 0):=by omega
    have X:¬(9223372036854775807<(xs.length:Int)+m):=by omega
    have hwr:IntKind.wrap .i64 m=m:=by rw[IntKind.wrap_i64];omega
    have hi:=I.info
    have Y:=I.zero
    have hai:∀w',(asInt (.int .i64 m)).run C.P w'=.ok m w':=fun w'=>by simp[asInt,asIntOf]
    refine⟨.value (.slice (some ⟨w.heap.size,0,none⟩) (xs.length+m.toNat) (grownCap w (xs.length+m.toNat) cap E)),
      w.drew.alloc (.cells (news.toArray++Builtin.zeroCells zv.cells m.toNat++Builtin.zeroCells zv.cells (grownCap w (xs.length+m.toNat) cap E-(xs.length+m.toNat))) E),?_,⟨rfl,is.os,is.tape,is.output⟩,_,by rw[←hh],wA w _ _ _,Bk w _ _ _ (by unfold maxLen;omega),by rw[←hh];rfl⟩
    refine pF (P:=C.P) h3 (.inl rfl) ?_
    simp only[pE,e_,l5,hx,hy]
    simp only[Builtin.append_,sizeOf,typeInfo,zeroValue]
    simp only[qv,List.getElem?_cons_zero,List.getElem?_cons_succ,Sem.run_bind,run_program,Result.andThen_ok,run_underlying I.under,run_underlying ht',hi,Sem.run_pure,I.size]
    by_cases G:m.toNat*d.sz=0
    · have ae:Builtin.zeroCells zv.cells m.toNat=#[]:=by
        apply Array.eq_empty_of_size_eq_zero
        rw[Bj,I.cells];exact G
      simp[hai,hwr,hneg,hbig,hno,hsmall,X,V,hlim,D,Question.forced,newRow,grownCap,hi,Y,ae,G]
    · simp[hai,hwr,hneg,hbig,hno,hsmall,X,V,hlim,D,Question.forced,newRow,grownCap,hi,Y,G]
  · rintro _ _ ⟨u,rfl,hc1,am,rfl⟩
    refine⟨_,rfl,dK.push _,?_⟩
    rw[h2]
    refine K h.size _ _ u _ (.inr ⟨h.size,0,u,_,List.replicate (u-(xs.length+m.toNat)) d.zv,by rw[b_,oz],rfl,by rw[b_,oz,oz];omega,am,?_,?_⟩) rfl (s.alloc _)
    · simp only[Be,v7,Bj,I.cells,hro.len]
      rw[qu,←nH,←nH,E6 hc1]
      exact iO _
    · have ar:(xs++List.replicate m.toNat d.zv++List.replicate (u-(xs.length+m.toNat)) d.zv).length=u:=by simp;omega
      have:=wB (pre:=[]) (post:=[]) (o:=0) ((hro.append (U m.toNat)).append (U (u-(xs.length+m.toNat)))) rfl (news.toArray++Builtin.zeroCells zv.cells m.toNat++Builtin.zeroCells zv.cells (u-(xs.length+m.toNat))) (by simp[Bf])
      rwa[ar] at this
theorem Op.MN {dst:Nat} {T S E:TypeId} {x:Operand} {v:Value} {l:aj} (ho:c7 C i j e=some (some dst,.convert T S x)) (hT:C.P.underlying T=some (.slice E)) (hE:C.P.underlying E=some (.int .u8)) (hS:C.P.underlying S=some .string)
    (hx:e.ev x=v) (hs:ig h g E bn v l) (K:Op C ds i r M Ls ((dst,.string (a_ l))::e) h):Op C ds i r M ((j,false)::Ls) e h:=by
  obtain⟨o',h1,h2,h3⟩:=gw ho
  obtain⟨ao,c,rfl,hc,H⟩:=hs
  refine Op.take h1 (v:=.string (a_ l)) (fun h=>by cases h) (fun w is hk hw=>?_) (by rw[h2];exact K)
  have hw:=hw rfl
  unfold fc execOp
  simp only[h3,hx,Sem.run_bind]
  by_cases hl:l=[]
  · subst hl
    cases ao with
    |none=>rw[run_convert_bytes_nil w T E hT hE _ _ S hS];rfl
    |some a=>
     rw[cS,run_convert_bytes_string w T S E _ _ _ hT hE hS,run_bytesToString w a 0 c [] (by simp[loadCells,loadCellsFrom])]
     rfl
  · obtain⟨b,o,cur,fz,rfl,hb,hr⟩:=H hl
    rw[run_convert_bytes_arg w T E hT hE b o l.length c (l.map fun x=>(x.toNat:Int)) (by simp) (fun q hq=>?_) S hS]
    · simp only[Result.andThen_ok,Sem.run_pure]
      congr 3
      unfold strOfNums a_
      congr 1
      simp[jr,Function.comp_def]
    · have u:l[q]?=some l[q]:=kE hq
      have h4:=hr.br q u
      rw[sR _ _ _ _ _ (by
        have:(q+1)*bn.sz≤l.length*bn.sz:=iC _ hq
        rw[kZ] at this
        exact this)] at h4
      have h5:cut cur (o+q*1) 1=[.int .u8 l[q].toNat]:=h4
      have h6:=cT h5 0 rfl
      rw[cell_of hw,oy hb]
      simp only[nI,m_] at h6
      rw[h6]
      simp[List.getD,u]
theorem Op.yI {dst:Nat} {T S E:TypeId} {x:Operand} {v:Value} {l:aj} (ho:c7 C i j e=some (some dst,.convert T S x)) (hT:C.P.underlying T=some (.slice E)) (hE:C.P.underlying E=some (.int .u8)) (hS:C.P.underlying S=some .string)
    (hx:e.ev x=v) (hs:ay g E bn v l) (hg:bf g r) (hM:∀b o,g b=some o→¬M b) (K:Op C ds i r M Ls ((dst,.string (a_ l))::e) h):Op C ds i r M ((j,true)::Ls) e h:=by
  obtain⟨o',h1,h2,h3⟩:=gw ho
  obtain⟨ao,c,rfl,hc,H⟩:=hs
  refine Op.take h1 (v:=.string (a_ l)) (fun _=>by simp[mD,h3]) (fun w is hk hw=>?_) (by rw[h2];exact K)
  unfold fc execOp
  simp only[h3,hx,Sem.run_bind]
  by_cases hl:l=[]
  · subst hl
    cases ao with
    |none=>rw[run_convert_bytes_nil w T E hT hE _ _ S hS];rfl
    |some a=>
     rw[cS,run_convert_bytes_string w T S E _ _ _ hT hE hS,run_bytesToString w a 0 c [] (by simp[loadCells,loadCellsFrom])]
     rfl
  · obtain⟨b,o,cur,fz,rfl,hb,hr⟩:=H hl
    rw[run_convert_bytes_arg w T E hT hE b o l.length c (l.map fun x=>(x.toNat:Int)) (by simp) (fun q hq=>?_) S hS]
    · simp only[Result.andThen_ok,Sem.run_pure]
      congr 3
      unfold strOfNums a_
      congr 1
      simp[jr,Function.comp_def]
    · have u:l[q]?=some l[q]:=kE hq
      have h4:=hr.br q u
      rw[sR _ _ _ _ _ (by
        have:(q+1)*bn.sz≤l.length*bn.sz:=iC _ hq
        rw[kZ] at this
        exact this)] at h4
      have h5:cut cur (o+q*1) 1=[.int .u8 l[q].toNat]:=h4
      have h6:=cT h5 0 rfl
      rw[cell_of rfl,oy ((hk.same b (lK.1 (hg _ _ hb)).1 (hM _ _ hb)).trans (hg _ _ hb))]
      simp only[nI,m_] at h6
      rw[h6]
      simp[List.getD,u]
end
section
variable {C:fC} {ds:List Deferred} {i j:Nat} {r:av} {M:Nat→Prop} {Ls:List (Nat×Bool)} {e:Env} {h:av}
variable {h0:av} {g0:GH} {S0:Nat→Prop} {g:GH} {L L':List au} {α:Type} {d:Kd α}
theorem Fk {w:World} {B:World} (is:Is B h w) {E:TypeId} {xs ys:List α} {news:List Value} {b o cap:Nat} {cur:Array Value} {rest:List α} (h1:xs.length+rest.length=cap) (h2:cap≤maxLen) (h3:o+cap*d.sz≤cur.size) (h4:Reads d g (xs++rest) (cut cur o (cap*d.sz)))
    (s:St h0 g0 S0 g L h) (k:Nat) (hk:L[k]?=some [(b,.cells cur E (0,0))]) (lo:Nat) (hlo:lo+ys.length≤xs.length) (hr:Reads d g ys news) (D:∀v∈news,v.oneCell'=true) (hM:b<r.size→M b) (P:Program):
    ∃w',(storeCells ⟨b,o+lo*d.sz,none⟩ news).run P w=.ok () w'∧Is B w'.heap w'∧aF E d g (.slice (some ⟨b,o,none⟩) xs.length cap) (putAt xs lo ys) [(b,.cells (splice cur (o+lo*d.sz) news) E (0,0))]∧
     St h0 g0 S0 g (L.set k [(b,.cells (splice cur (o+lo*d.sz) news) E (0,0))]) w'.heap∧(dK r M h→dK r M w'.heap):=by
  have hb:w.heap[b]?=some (.cells cur E (0,0)):=by rw[is.heap];exact s.ag k hk
  have hn:=hr.len
  have G:(lo+ys.length)*d.sz≤cap*d.sz:=iC _ (by omega)
  rw[nH] at G
  have hst:=run_storeCells_at P b (o+lo*d.sz) E news 0 cur w hb (by rw[hn];omega) D
  simp only[m_] at hst
  refine⟨w.setRow b (splice cur (o+lo*d.sz) news),hst,⟨rfl,is.os,is.tape,is.output⟩,?_,?_,?_⟩
  · have:=aF.yH (T:=E) (b:=b) h1 h2 h3 h4 lo hlo hr
    rwa[wD hlo] at this
  · exact s.uv k hk (by have:=iP.row (cs:=splice cur (o+lo*d.sz) news) hb;rwa[is.heap] at this)
  · intro u
    rw[←is.heap] at u
    exact dK.row hM u
theorem Fl (xs:List α) (lo:Nat):putAt xs lo []=xs:=by simp[putAt]
theorem Op.bG {dst:Nat} {x y:Operand} {t t' E:TypeId} {cR:Nat} {ao:Option Addr} {n c lo m:Nat} {xs ys:List α} {news:List Value} {G:au}
    (ho:c7 C i j e=some (some dst,.call {callee:=.builtin .copy,args:=#[x,y],argTypes:=#[t,t']})) (hI:kD C.P t=some (E,d.sz,cR))
    (hx:e.ev x=.slice (ek ao lo c d.sz) (n-lo) (c-lo)) (hR:aF E d g (.slice ao n c) xs G) (hlo:lo≤xs.length) (s:St h0 g0 S0 g L h) (k:Nat) (hk:L[k]?=some G)
    (hy:di C.P h d.sz (e.ev y) m news) (hys:Reads d g ys news) (hm:ys.length=m) (hM:∀p∈G,p.1<r.size→M p.1)
    (K:∀u h',aF E d g (.slice ao n c) (putAt xs lo (ys.take (xs.length-lo))) u→St h0 g0 S0 g (L.set k u) h'→Op C ds i r M Ls ((dst,.int .i64 ((min ys.length (xs.length-lo):Nat):Int))::e) h'):Op C ds i r M ((j,false)::Ls) e h:=by
  obtain⟨o',h1,h2,h3⟩:=gw ho
  obtain⟨ar,zv,I⟩:=qx hI
  subst hm
  obtain⟨aw,c',U⟩:=hR.ai
  simp only[Value.slice.injEq] at U
  obtain⟨rfl,rfl,rfl⟩:=U
  refine Op.run h1 (R:=fun ad h'=>∃u,ad=.value (.int .i64 ((min ys.length (xs.length-lo):Nat):Int))∧aF E d g (.slice ao xs.length c) (putAt xs lo (ys.take (xs.length-lo))) u∧St h0 g0 S0 g (L.set k u) h'∧(dK r M h→dK r M h')) ?_ ?_
  · intro w is
    have hh:=is.heap
    have hl:=hy.len w hh
    have hcs:=hy.cells w hh (min ys.length (xs.length-lo)) (Nat.min_le_left _ _)
    have hi:=I.info
    have step:∀w',((match ek ao lo c d.sz with|some a=>storeCells a (news.take (min ys.length (xs.length-lo)*d.sz))|none=>pure ()):Sem Unit).run C.P w=.ok () w'→
        (fc e o').run C.P w=.ok (.value (.int .i64 ((min ys.length (xs.length-lo):Nat):Int))) w':=by
      intro w' hw
      refine pF (P:=C.P) h3 (.inr (.inl rfl)) ?_
      simp only[pE,e_,l5,hx]
      simp only[Builtin.copy_,sizeOf,typeInfo]
      simp only[qv,List.getElem?_cons_zero,List.getElem?_cons_succ,Sem.run_bind,run_program,Result.andThen_ok,run_underlying I.under,hi,Sem.run_pure,I.size,hl,hcs]
      cases hsa:ek ao lo c d.sz with
      |none=>rw[hsa] at hw;simp only[Sem.run_pure] at hw;simpa[goInt] using hw
      |some a=>rw[hsa] at hw;simp[hw,goInt]
    have V:=wq k L G
    rcases hR with ⟨a0,D,rfl,rfl⟩|⟨b,o,cap,cur,rest,D,rfl,X,Y,Z,ab⟩
    · simp only[Value.slice.injEq] at D
      obtain⟨rfl,_,rfl⟩:=D
      refine⟨_,_,step w (by cases ek ao lo 0 d.sz<;>simp[storeCells]),is.again,[],rfl,.inl ⟨ao,rfl,?_,rfl⟩,?_,fun J=>by rw[hh];exact J⟩
      · simp[putAt]
      · rw[hh];exact St.pq (V _ hk) (s.sQ k hk)
    · simp only[Value.slice.injEq] at D
      obtain⟨rfl,_,rfl⟩:=D
      have hr:Reads d g (ys.take (xs.length-lo)) (news.take (min ys.length (xs.length-lo)*d.sz)):=by
        have:=(hys.iF (min ys.length (xs.length-lo)) (Nat.min_le_left _ _)).1
        rwa[show ys.take (min ys.length (xs.length-lo))=ys.take (xs.length-lo) from by
          rcases Nat.le_total ys.length (xs.length-lo) with hle|hle
          · rw[jB hle,eR (iO _),eR hle]
          · rw[Nat.min_eq_right hle]] at this
      have hlt:lo+(ys.take (xs.length-lo)).length≤xs.length:=by rw[dD];omega
      obtain⟨w',hw,ae,hrow,hst,O⟩:=Fk (r:=r) (M:=M) is X Y Z ab s k hk lo hlt hr (fun v hv=>hy.one v (wC hv)) (hM (b,.cells cur E (0,0)) (gv.2 rfl)) C.P
      by_cases hcl:lo=c
      ·
        have hz:min ys.length (xs.length-lo)=0:=by omega
        have am:ys.take (xs.length-lo)=[]:=by rw[show xs.length-lo=0 by omega];simp
        refine⟨_,w,step w ?_,is.again,[(b,.cells cur E (0,0))],rfl,?_,?_,fun J=>by rw[hh];exact J⟩
        · rw[hz]
          unfold ek
          rw[aL hcl.symm]
          simp[storeCells]
        · rw[am,Fl];exact .inr ⟨b,o,c,cur,rest,rfl,rfl,X,Y,Z,ab⟩
        · rw[hh];exact St.pq (V _ hk) (s.sQ k hk)
      · refine⟨_,w',step w' ?_,ae,_,rfl,hrow,hst,O⟩
        unfold ek
        rw[aB (fun e=>hcl e.symm)]
        simp only[j3,k_]
        exact hw
  · rintro _ _ ⟨u,rfl,hrow,hst,O⟩
    refine⟨_,rfl,O,?_⟩
    rw[h2]
    exact K u _ hrow hst
abbrev dr:Value:=(.tuple #[])
theorem Op.MO {x:Operand} {t E:TypeId} {cR:Nat} {ao:Option Addr} {n c lo:Nat} {xs:List α} {G:au}
    (ho:c7 C i j e=some (none,.call {callee:=.builtin .clear,args:=#[x],argTypes:=#[t]})) (hI:kD C.P t=some (E,d.sz,cR)) (hz:((C.P.info? E).bind (·.zero)).map (·.cells.toList)=some d.zc)
    (hx:e.ev x=.slice (ek ao lo c d.sz) (n-lo) (c-lo)) (hR:aF E d g (.slice ao n c) xs G) (hlo:lo≤xs.length) (s:St h0 g0 S0 g L h) (k:Nat) (hk:L[k]?=some G) (hM:∀p∈G,p.1<r.size→M p.1)
    (K:∀u h',aF E d g (.slice ao n c) (putAt xs lo (List.replicate (xs.length-lo) d.zv)) u→St h0 g0 S0 g (L.set k u) h'→Op C ds i r M Ls e h'):Op C ds i r M ((j,false)::Ls) e h:=by
  obtain⟨o',h1,h2,h3⟩:=gw ho
  obtain⟨a3,zv,I⟩:=qx hI
  obtain⟨a4,c',U⟩:=hR.ai
  simp only[Value.slice.injEq] at U
  obtain⟨rfl,rfl,rfl⟩:=U
  have ae:zv.cells.toList=d.zc:=by simpa[I.info,I.zero] using hz
  refine Op.run h1 (R:=fun am h'=>∃u,am=.value dr∧aF E d g (.slice ao xs.length c) (putAt xs lo (List.replicate (xs.length-lo) d.zv)) u∧St h0 g0 S0 g (L.set k u) h'∧(dK r M h→dK r M h')) ?_ ?_
  · intro w is
    have hh:=is.heap
    have hi:=I.info
    have ar:=I.zero
    have V:=wq k L G
    have X:xs.length-lo=0∨ek ao lo c d.sz=none→(fc e o').run C.P w=.ok (.value dr) w:=by
      intro h0
      refine pF (P:=C.P) h3 (by simp) ?_
      simp only[pE,e_,l5,hx]
      simp only[Builtin.clear_]
      simp only[qv,List.getElem?_cons_zero,Sem.run_bind,run_underlying I.under,Result.andThen_ok]
      rcases h0 with h0|h0
      · rw[h0];cases ek ao lo c d.sz<;>simp
      · rw[h0];simp
    have go:∀a w',ek ao lo c d.sz=some a→xs.length-lo≠0→(storeCells a (Builtin.zeroCells zv.cells (xs.length-lo)).toList).run C.P w=.ok () w'→(fc e o').run C.P w=.ok (.value dr) w':=by
      intro a w' ha hn hw
      refine pF (P:=C.P) h3 (by simp) ?_
      simp only[pE,e_,l5,hx,ha]
      obtain⟨m,hm⟩:∃m,xs.length-lo=m+1:=⟨xs.length-lo-1,by omega⟩
      rw[hm] at hw ⊢
      simp only[Builtin.clear_,zeroValue,typeInfo]
      simp only[qv,List.getElem?_cons_zero,Sem.run_bind,run_underlying I.under,Result.andThen_ok,run_program,hi,ar,Sem.run_pure,hw]
    rcases hR with ⟨a0,D,rfl,rfl⟩|⟨b,o,cap,cur,rest,D,rfl,Y,Z,ab,ad⟩
    · simp only[Value.slice.injEq] at D
      obtain⟨rfl,_,rfl⟩:=D
      refine⟨_,_,X (.inl (by simp)),is.again,[],rfl,.inl ⟨ao,rfl,by simp[putAt],rfl⟩,?_,fun J=>by rw[hh];exact J⟩
      rw[hh];exact St.pq (V _ hk) (s.sQ k hk)
    · simp only[Value.slice.injEq] at D
      obtain⟨rfl,_,rfl⟩:=D
      by_cases hn:xs.length-lo=0
      · have aw:List.replicate (xs.length-lo) d.zv=[]:=by rw[hn];rfl
        refine⟨_,w,X (.inl hn),is.again,[(b,.cells cur E (0,0))],rfl,?_,?_,fun J=>by rw[hh];exact J⟩
        · rw[aw,Fl];exact .inr ⟨b,o,c,cur,rest,rfl,rfl,Y,Z,ab,ad⟩
        · rw[hh];exact St.pq (V _ hk) (s.sQ k hk)
      · have hr:Reads d g (List.replicate (xs.length-lo) d.zv) (Builtin.zeroCells zv.cells (xs.length-lo)).toList:=Bl d g zv.cells ae _
        obtain⟨w',hw,a1,hrow,hst,O⟩:=Fk (r:=r) (M:=M) is Y Z ab ad s k hk lo (by rw[oz];omega) hr hr.one (hM (b,.cells cur E (0,0)) (gv.2 rfl)) C.P
        have hsa:ek (some ⟨b,o,none⟩) lo c d.sz=some ⟨b,o+lo*d.sz,none⟩:=by
          unfold ek
          rw[aB (by omega)]
          simp[k_]
        exact⟨_,w',go _ w' hsa hn hw,a1,_,rfl,hrow,hst,O⟩
  · rintro _ _ ⟨u,rfl,hrow,hst,O⟩
    refine⟨_,rfl,O,?_⟩
    rw[h2]
    exact K u _ hrow hst
end
def wF (f:Field→Option Bool):List Field→Option Bool
  |[]=>some true
  |x::r=>match f x,wF f r with
   |some a,some b=>some (a&&b)
   |_,_=>none
def wG (P:Program):Nat→TypeId→Value→Value→Option Bool
  |0,_,_,_=>none
  |n+1,T,x,y=>match P.underlying T,x,y with
   |some .bool,.bool a,.bool b=>some (a==b)
   |some (.int _),.int k a,.int k' b=>if k=k' then some (a==b) else none
   |some .string,.string a,.string b=>some (a==b)
   |some (.struct fs),.agg xs,.agg ys=>if P.stoodInHeld T=true then none else
       wF (fun f=>if f.name="_" then none else match ou P (part f.type xs f.offset),ou P (part f.type ys f.offset) with
         |some a,some b=>wG P n f.type a b
         |_,_=>none) fs.toList
   |_,_,_=>none
theorem Fm {P:Program} {w:World} {f:Field→Option Bool} (F:Field→Option Bool×Unit→Sem (ForInStep (Option Bool×Unit))):∀(l:List Field) (r:Bool),wF f l=some r→
    (∀x b,f x=some b→∀s,(F x s).run P w=.ok (if b=true then .yield (none,()) else .done (some false,())) w)→(forIn l (none,()) F).run P w=.ok (if r=true then (none,()) else (some false,())) w
  |[],r,h,H=>by
   simp only[wF,eN] at h
   subst h
   simp
  |x::l,r,h,H=>by
   unfold wF at h
   split at h
   · rename_i a b ha hb
     simp only[eN] at h
     subst h
     have ih:=Fm F l b hb H
     have hx:=H x a ha (none,())
     rw[List.forIn_cons,Sem.run_bind,hx]
     cases a with
     |true=>simpa using ih
     |false=>simp
   · cases h
theorem MP {P:Program} {w:World}:∀(n m:Nat) (T:TypeId) (x y:Value) (r:Bool),n≤m→wG P n T x y=some r→(Go.Op.equalIn m T x y).run P w=.ok r w:=by
  intro n
  induction n with
  |zero=>intro m T x y r _ h;simp[wG] at h
  |succ n ih=>
   intro m T x y r hm h
   obtain⟨m,rfl⟩:∃q,m=q+1:=⟨m-1,by omega⟩
   unfold wG at h
   split at h
   · rename_i hu;simp only[eN] at h;subst h
     simp[Go.Op.equalIn,run_underlying hu]
   · rename_i hu
     split at h
     · rename_i hk;simp only[eN] at h;subst h;subst hk
       simp[Go.Op.equalIn,run_underlying hu]
     · cases h
   · rename_i hu;simp only[eN] at h;subst h
     simp[Go.Op.equalIn,run_underlying hu]
   · rename_i fs xs ys hu
     split at h
     · cases h
     · rename_i hs
       simp only[Go.Op.equalIn,Sem.run_bind,run_underlying hu,Result.andThen_ok,run_program,hs,de,fZ]
       rw[←Array.forIn_toList,Fm (P:=P) (w:=w) _ fs.toList r h (fun fl b hb u=>?_)]
       · cases r<;>rfl
       · split at hb
         · cases hb
         · rename_i hname
           split at hb
           · rename_i a b' ha hb'
             have h1:=ur _ ha w
             have h2:=ur _ hb' w
             have h3:=ih m fl.type a b' b (by omega) hb
             simp only[hname,ne_eq,not_false_eq_true,iA,Sem.run_bind,h1,h2,h3,Result.andThen_ok]
             cases b<;>rfl
           · cases hb
   · cases h
section
variable {C:fC} {ds:List Deferred} {i j:Nat} {r:av} {M:Nat→Prop} {Ls:List (Nat×Bool)} {e:Env} {h:av}
theorem Op.Bp {dst:Nat} {T T':TypeId} {x y:Operand} {neq:Bool} {xs ys:Array Value} {q q':Bool} {b:Bool} (ho:c7 C i j e=some (some dst,.binOp (bif neq then .neq else .eql) T x y T'))
    (hx:e.ev x=.agg xs) (hy:e.ev y=.agg ys) (hg:C.P.eqGuardType C.P.depth T=false) (hq:wG C.P 30 T (.agg xs) (.agg ys)=some q) (hv:(bif neq then !q else q)=q')
    (K:Op C ds i r M Ls ((dst,.bool q')::e) h):Op C ds i r M ((j,b)::Ls) e h:=by
  refine Op.free ho (fun o' ho w=>?_) K
  have h1:(Go.Op.equal T (.agg xs) (.agg ys)).run C.P w=.ok q w:=MP 30 _ T _ _ q (by decide) hq
  subst hv
  cases neq<;>simp only[cond_true,cond_false] at ho ⊢<;>
    simp[execOp,ho,hx,hy,eqGuard,binOp,hg,h1]
end
theorem Fo (a b:aj):(a_ a==a_ b)=(a==b):=by
  show(a.toArray==b.toArray)=_
  simp
def pG (P:Program) (e:Env) (h:av):List ResultVar→List Value→Prop
  |[],[]=>True
  |.tmp t::l,v::vs=>e.get t=some v∧pG P e h l vs
  |.cell c T::l,v::vs=>(∃b o,e.get c=some (.pointer (some ⟨b,o,none⟩))∧∀w:World,w.heap=h→(loadVar T ⟨b,o,none⟩).run P w=.ok v w)∧pG P e h l vs
  |_,_=>False
theorem dB {P:Program} {h:av} {T:TypeId} {b o n:Nat} {vs:List Value} {cs:Array Value} {u:TypeId} {fz:Nat×Nat} (hT:kC P T=some (true,n)) (hb:h[b]?=some (.cells cs u fz)) (hv:cut cs o n=vs) (hl:vs.length=n):
    ∀w:World,w.heap=h→(loadVar T ⟨b,o,none⟩).run P w=.ok (.agg vs.toArray) w:=
  fun w hw=>Ba hT hl fun k v hk=>by rw[cell_of hw];exact Bb hv hb k v hk
theorem yJ {P:Program} {h:av} {T:TypeId} {b o n:Nat} {v:Value} {cs:Array Value} {u:TypeId} {fz:Nat×Nat} (hT:kC P T=some (false,n)) (hb:h[b]?=some (.cells cs u fz)) (hv:cs[o]?=some v):
    ∀w:World,w.heap=h→(loadVar T ⟨b,o,none⟩).run P w=.ok v w:=
  fun w hw=>A_ hT (by rw[cell_of hw,oy hb,hv])
theorem Fp {P:Program} {f:Func} {a:Act} {e:Env} {n:Nat} {ds:List Deferred} {h:av} (ft:iD e n ds a) {vs:List Value} (hv:pG P e h f.results.toList vs) (w:World) (hw:w.heap=h):
    (results f a.tmps).run P w=.ok (if hs:vs.toArray.size=1 then vs.toArray[0] else .tuple vs.toArray) w:=by
  have key:∀(g:ResultVar→Sem Value),(∀t,g (.tmp t)=pure (a.tmps.getD t undef))→(∀c t,g (.cell c t)=do loadVar t (←asAddr (a.tmps.getD c undef)))→∀(l:List ResultVar) (vs:List Value),pG P e h l vs→(l.mapM g).run P w=.ok vs w:=by
    intro g hg u l
    induction l with
    |nil=>
     intro vs h
     cases vs with
     |nil=>rfl
     |cons=>simp[pG] at h
    |cons x l ih=>
     intro vs hh
     rw[A3]
     cases vs with
     |nil=>cases x<;>simp[pG] at hh
     |cons v vs=>
      cases x with
      |tmp t=>
       have h1:=ft.get t v hh.1
       simp only[Sem.run_bind,hg,Sem.run_pure,Result.andThen_ok,ih vs hh.2]
       simp[h1]
      |cell c t=>
       obtain⟨⟨b,o,h1,h2⟩,h3⟩:=hh
       have h4:=ft.get c _ h1
       have h5:a.tmps.getD c undef=.pointer (some ⟨b,o,none⟩):=by simp[h4]
       simp only[Sem.run_bind,u,h5,asAddr,Sem.run_pure,Result.andThen_ok,h2 w hw,ih vs h3]
  have D:∀(g:ResultVar→Sem Value) (vs:List Value),(f.results.toList.mapM g).run P w=.ok vs w→(f.results.mapM g).run P w=.ok vs.toArray w:=by
    intro g vs h
    rw[EX]
    simp only[Sem.run_map,h,Result.andThen_ok]
  unfold results
  rw[Sem.run_bind]
  exact(congrArg (fun r=>Result.andThen r _) (D _ _ (key _ (fun _=>rfl) (fun _ _=>rfl) _ _ hv))).trans rfl
theorem At.Fq {P:Program} {B:World} {fn:FuncId} {f:Func} {R:Value→av→Prop} {i:Nat} {e:Env} {h:av} {v:Value} {vs:List Value} {rl:List ResultVar}
    (hi:mZ (pt (cJ f) i)=true) (hr:f.results.toList=rl) (hv:pG P e h rl vs) (u:(if hs:vs.toArray.size=1 then vs.toArray[0] else .tuple vs.toArray)=v) (H:R v h):At (bS P B fn f R) [] i e h:=by
  intro a w ft is
  subst u
  subst hr
  show eg P none fn (pn P B f R) (pt (cJ f) i) a w
  have hq:∀j,(j=none∨j=some .ret)→pn P B f R j a w:=fun j hj=>
    ⟨hj,w,_,by rw[ft.defers];exact .nil w,Fp ft hv w is.heap,is.again,by rw[is.heap];exact H⟩
  generalize pt (cJ f) i=k at *
  unfold mZ at hi
  split at hi
  · exact .qj .iN (hq _ (.inl rfl))
  · exact .qj (.ret _) (hq _ (.inr rfl))
  · cases hi
def splitOn (c:UInt8):aj→List aj
  |[]=>[[]]
  |b::l=>if b=c then []::splitOn c l else match splitOn c l with
   |x::xs=>(b::x)::xs
   |[]=>[[b]]
theorem yK (c:UInt8) (l:aj):splitOn c l≠[]:=by
  cases l with
  |nil=>simp[splitOn]
  |cons b l=>unfold splitOn;split<;>(try split)<;>simp
theorem Fs (c:UInt8):∀(l:aj),c ∉ l→splitOn c l=[l]
  |[],_=>rfl
  |b::l,h=>by
   have hb:¬b=c:=fun e=>h (by simp[e])
   rw[splitOn,aB hb,Fs c l (fun hm=>h (by simp[hm]))]
theorem yL (c:UInt8):∀(a l:aj),c ∉ a→splitOn c (a++c::l)=a::splitOn c l
  |[],l,_=>by simp[splitOn]
  |b::a,l,h=>by
   have hb:¬b=c:=fun e=>h (by simp[e])
   rw[dM,splitOn,aB hb,yL c a l (fun hm=>h (by simp[hm]))]
theorem Bq (c:UInt8):∀(l:aj),(splitOn c l).length=l.count c+1
  |[]=>rfl
  |b::l=>by
   have ih:=Bq c l
   unfold splitOn
   split
   · rename_i h;subst h;simp[ih]
   · rename_i h
     have:(b==c)=false:=by simpa using h
     rw[List.count_cons,this]
     split
     · rename_i x xs hx;rw[hx] at ih;simpa using ih
     · rename_i hx;exact absurd hx (yK c l)
def fy (c:UInt8):List aj→aj
  |[]=>[]
  |[x]=>x
  |x::y::xs=>x++c::fy c (y::xs)
theorem Ft (c:UInt8):∀(l:aj),fy c (splitOn c l)=l
  |[]=>rfl
  |b::l=>by
   have ih:=Ft c l
   unfold splitOn
   split
   · rename_i h
     subst h
     cases hs:splitOn b l with
     |nil=>exact absurd hs (yK b l)
     |cons x xs=>rw[hs] at ih;simp[fy,ih]
   · split
     · rename_i x xs hx
       rw[hx] at ih
       cases xs with
       |nil=>simp only[fy] at ih ⊢;rw[ih]
       |cons y ys=>simp only[fy] at ih ⊢;rw[←ih];simp
     · rename_i hx;exact absurd hx (yK c l)
theorem yM (c:UInt8):∀(xs:List aj),xs≠[]→(∀x∈xs,c ∉ x)→splitOn c (fy c xs)=xs
  |[],h,_=>absurd rfl h
  |[x],_,h=>Fs c x (h x (by simp))
  |x::y::xs,_,h=>by
   rw[fy,yL c x _ (h x (by simp)),yM c (y::xs) (by simp) (fun z hz=>h z (by simp[hz]))]
end Go.Proofs.YtpacclkciilmpaaGreatDoor.Sw
