/- Lemmas for laws of this seat. -/
import Derived.Test.YtceekbnihfckeaaGreatDoorQBD
import Derived.Laws.BytesArg
namespace Go.Proofs.YtceekbnihfckeaaGreatDoor.Sw
set_option linter.unusedVariables false
set_option linter.unusedSimpArgs false
set_option linter.deprecated false
open Go
set_option linter.defProp false
def yD:=@UInt8.toNat_ofNat'
def Dn:=@Int.toNat_of_nonneg
def dU:=@List.length_nil
def oG:=@List.getElem?_eq_getElem
def oJ:=@Nat.mul_one
def yZ:=@List.mem_of_mem_take
def dW:=@List.cons_append
section
variable {α:Type} {d:Kd α} {g g':GH} {h h':ax} {T:TypeId} {xs:List α}
theorem av.sub {ao:Option Addr} {n c:Nat} (hs:av g T d (.slice ao n c) xs) (lo hi:Nat) (h1:lo≤hi) (h2:hi≤xs.length):
    av g T d (.slice (eZ ao lo c d.sz) (hi-lo) (c-lo)) ((xs.take hi).drop lo):=by
  obtain⟨u,c',e,hc,H⟩:=hs
  simp only[Value.slice.injEq] at e
  obtain⟨rfl,rfl,rfl⟩:=e
  have hl:((xs.take hi).drop lo).length=hi-lo:=by rw[iP,e_,kW h2]
  refine⟨_,_,by rw[hl],by rw[hl];omega,fun hne=>?_⟩
  have hlt:lo<hi:=by
    rcases pV lo hi with h|h
    · exact h
    · exact absurd (ju (by rw[hl];omega)) hne
  obtain⟨b,o,cur,fz,rfl,hb,hr⟩:=H (by intro hx;subst hx;simp at h2;omega)
  refine⟨b,o+lo*d.sz,cur,fz,?_,hb,?_⟩
  · unfold eZ
    rw[aC (by omega)]
    simp[jT]
  · have h3:=((hr.jy hi h2).1.jy lo (by rw[e_,kW h2];exact h1)).2
    have D:hi*d.sz≤xs.length*d.sz:=jW _ h2
    have G:lo*d.sz≤hi*d.sz:=jW _ h1
    have e:((cut cur o (xs.length*d.sz)).take (hi*d.sz)).drop (lo*d.sz)=cut cur (o+lo*d.sz) ((hi-lo)*d.sz):=by
      rw[ux,Nat.sub_mul,qo]
      omega
    rw[e] at h3
    rw[hl]
    exact h3
theorem av.Gh {n c:Nat} (hs:av g T d (.slice none n c) xs):xs=[]:=by
  obtain⟨u,c',e,hc,H⟩:=hs
  simp only[Value.slice.injEq] at e
  obtain⟨rfl,_,_⟩:=e
  by_cases h:xs=[]
  · exact h
  · obtain⟨b,o,cur,fz,e,_⟩:=H h;cases e
theorem jX.Gi {ao:Option Addr} {n c:Nat} (hs:jX h g T d (.slice ao n c) xs) (lo:Nat) (h1:lo≤xs.length):jX h g T d (.slice (eZ ao lo c d.sz) (n-lo) (c-lo)) (xs.drop lo):=by
  obtain⟨u,c',e,hc,H⟩:=hs
  simp only[Value.slice.injEq] at e
  obtain⟨rfl,rfl,rfl⟩:=e
  have hl:(xs.drop lo).length=xs.length-lo:=iP
  refine⟨_,_,by rw[hl],by rw[hl];omega,fun hne=>?_⟩
  have hlt:lo<xs.length:=by
    rcases pV lo xs.length with h|h
    · exact h
    · exact absurd (ju (by rw[hl];omega)) hne
  obtain⟨b,o,cur,fz,rfl,hb,hr⟩:=H (by intro hx;subst hx;simp at hlt)
  refine⟨b,o+lo*d.sz,cur,fz,?_,hb,?_⟩
  · unfold eZ
    rw[aC (by omega)]
    simp[jT]
  · have h3:=(hr.jy lo h1).2
    have D:lo*d.sz≤xs.length*d.sz:=jW _ h1
    have e:(cut cur o (xs.length*d.sz)).drop (lo*d.sz)=cut cur (o+lo*d.sz) ((xs.length-lo)*d.sz):=by
      unfold cut
      rw[ux,qs,Nat.sub_mul]
    rw[e] at h3
    rw[hl];exact h3
theorem aJ.take {ao:Option Addr} {n c:Nat} {u:ay} (hr:aJ T d g (.slice ao n c) xs u) (m:Nat) (hm:m≤xs.length):aJ T d g (.slice (eZ ao 0 c d.sz) m c) (xs.take m) u:=by
  rcases hr with ⟨a0,e,rfl,rfl⟩|⟨b,o,cap,cur,rest,e,rfl,h1,h2,h3,h4⟩
  · simp only[Value.slice.injEq] at e
    obtain⟨rfl,rfl,rfl⟩:=e
    obtain rfl:m=0:=by simpa using hm
    exact .inl ⟨_,rfl,rfl,rfl⟩
  · simp only[Value.slice.injEq] at e
    obtain⟨rfl,rfl,rfl⟩:=e
    have hl:(xs.take m).length=m:=by rw[e_,kW hm]
    refine .inr ⟨b,o,c,cur,xs.drop m++rest,?_,rfl,by rw[hl,cA,iP];omega,h2,h3,?_⟩
    · unfold eZ
      rw[hl]
      split
      · rfl
      · simp[jT]
    · rw[←dm,od];exact h4
theorem aJ.MK {ao:Option Addr} {n c:Nat} {D:ay} (hr:aJ T d g (.slice ao n c) xs D) (m:Nat) (hm:m≤c):∃u,aJ T d g (.slice (eZ ao 0 c d.sz) m c) u D∧u.length=m∧u.take xs.length=xs.take m:=by
  rcases hr with ⟨a0,e,rfl,rfl⟩|⟨b,o,cap,cur,rest,e,rfl,h1,h2,h3,h4⟩
  · simp only[Value.slice.injEq] at e
    obtain⟨rfl,rfl,rfl⟩:=e
    obtain rfl:m=0:=by omega
    exact⟨[],.inl ⟨_,rfl,rfl,rfl⟩,rfl,rfl⟩
  · simp only[Value.slice.injEq] at e
    obtain⟨rfl,rfl,rfl⟩:=e
    have hl:((xs++rest).take m).length=m:=by rw[e_,cA,kW (by omega)]
    refine⟨(xs++rest).take m,.inr ⟨b,o,c,cur,(xs++rest).drop m,?_,rfl,by rw[hl,iP,cA];omega,h2,h3,by rw[od];exact h4⟩,hl,?_⟩
    · unfold eZ
      rw[hl]
      split
      · rfl
      · simp[jT]
    · rw[uy,Nat.min_comm,←uy,zl rfl]
theorem aJ.cases {v:Value} {u:ay} (hr:aJ T d g v xs u) (hx:0<xs.length):
    ∃(b o cap:Nat) (cur:Array Value) (rest:List α),v=.slice (some ⟨b,o,none⟩) xs.length cap∧u=[(b,.cells cur T (0,0))]∧xs.length+rest.length=cap∧cap≤maxLen∧o+cap*d.sz≤cur.size∧Reads d g (xs++rest) (cut cur o (cap*d.sz)):=by
  rcases hr with ⟨_,_,rfl,_⟩|h
  · simp at hx
  · exact h
theorem ML {cs:Array Value} {o:Nat} {vs:List Value} (h:o+vs.length≤cs.size):(splice cs o vs).size=cs.size:=by
  unfold splice
  rw[zg,cA,cA,e_,iP,uw,kW (by omega)]
  omega
def putAt {α:Type} (xs:List α) (lo:Nat) (ys:List α):List α:=xs.take lo++ys++xs.drop (lo+ys.length)
theorem zz {ys:List α} {lo:Nat} (h:lo+ys.length≤xs.length):(putAt xs lo ys).length=xs.length:=by
  unfold putAt
  rw[cA,cA,e_,iP,kW (by omega)]
  omega
theorem aJ.Bn {b o cap:Nat} {cur:Array Value} {rest:List α} (h1:xs.length+rest.length=cap) (h2:cap≤maxLen) (h3:o+cap*d.sz≤cur.size) (h4:Reads d g (xs++rest) (cut cur o (cap*d.sz)))
    (lo:Nat) {ys:List α} {news:List Value} (hlo:lo+ys.length≤xs.length) (hk:Reads d g ys news):
    aJ T d g (.slice (some ⟨b,o,none⟩) (putAt xs lo ys).length cap) (putAt xs lo ys) [(b,.cells (splice cur (o+lo*d.sz) news) T (0,0))]:=by
  have hn:=hk.len
  have D:(lo+ys.length)*d.sz≤cap*d.sz:=jW _ (by omega)
  rw[nD] at D
  have hcl:cur.toList.length=cur.size:=uw
  refine .inr ⟨b,o,cap,_,rest,rfl,rfl,by rw[zz hlo];exact h1,h2,by rw[ML (by rw[hn];omega)];exact h3,?_⟩
  have r1:=(h4.jy lo (by rw[cA];omega)).1
  have r2:=(h4.jy (lo+ys.length) (by rw[cA];omega)).2
  rw[List.take_append_of_le_length (by omega)] at r1
  rw[List.drop_append_of_le_length (by omega)] at r2
  have u:putAt xs lo ys++rest=xs.take lo++ys++(xs.drop (lo+ys.length)++rest):=by simp[putAt,dm]
  rw[u]
  have hlen:(xs.take lo++ys++(xs.drop (lo+ys.length)++rest)).length=cap:=by
    rw[←u,cA,zz hlo];exact h1
  have:=zy (pre:=cur.toList.take o) (post:=cur.toList.drop (o+cap*d.sz)) (o:=o) ((r1.append hk).append r2) (by rw[e_,hcl];exact kW (by omega)) (splice cur (o+lo*d.sz) news) (by
    unfold splice cut
    rw[F9,Bl,hn,uy,kW (by omega)]
    have e2:cur.toList.drop (o+cap*d.sz)=(cur.toList.drop (o+(lo+ys.length)*d.sz)).drop (cap*d.sz-(lo+ys.length)*d.sz):=by
      rw[qs];congr 1;rw[nD];omega
    have e1:((cur.toList.drop o).take (cap*d.sz)).drop ((lo+ys.length)*d.sz)++cur.toList.drop (o+cap*d.sz)=cur.toList.drop (o+lo*d.sz+ys.length*d.sz):=by
      rw[ux,qs,e2,od,nD,Df]
    simp only[dm]
    rw[e1])
  rwa[hlen] at this
theorem aJ.put {b o cap:Nat} {cur:Array Value} {rest:List α} (h1:xs.length+rest.length=cap) (h2:cap≤maxLen) (h3:o+cap*d.sz≤cur.size) (h4:Reads d g (xs++rest) (cut cur o (cap*d.sz))) (i:Nat) (hi:i<xs.length) {x:α} {vs:List Value} (hk:d.K g x vs):
    aJ T d g (.slice (some ⟨b,o,none⟩) (xs.set i x).length cap) (xs.set i x) [(b,.cells (splice cur (o+i*d.sz) vs) T (0,0))]:=by
  have e:putAt xs i [x]=xs.set i x:=by rw[List.set_eq_take_append_cons_drop,aO hi];simp[putAt]
  have:=aJ.Bn (T:=T) (b:=b) h1 h2 h3 h4 i (ys:=[x]) (by simp;omega) (Reads.Mz hk)
  rwa[e] at this
theorem Gj {g:GH} {n:Int} (h0:0≤n) (h1:n≤255):br.K g (UInt8.ofNat n.toNat) [.int .u8 n]:=by
  show[Value.int .u8 n]=[Value.int .u8 (UInt8.ofNat n.toNat).toNat]
  rw[yD,o8 (by omega),Dn h0]
theorem eV {v:Value} {ys:List α} {c:ay} (h:aJ T d g v xs c) (e:xs=ys):aJ T d g v ys c:=e▸h
end
section
variable {C:fP} {ds:List Deferred} {i j:Nat} {r:ax} {M:Nat→Prop} {Ls:List (Nat×Bool)} {e:Env} {h:ax}
variable {h0:ax} {g0:GH} {S0:Nat→Prop} {g:GH} {L L':List ay} {α:Type} {d:Kd α}
theorem Op.yS {dst:Nat} {T E:TypeId} {dx:Nat} {x hi:Operand} {ao:Option Addr} {n c:Nat} {k:IntKind} {m:Int} {b:Bool} {xs:List α} (ho:dS C i j e=some (some dst,.slice T x none (some hi) none)) (hE:l6 C.P T=some (E,d.sz,dx))
    (hx:e.ev x=.slice ao n c) (hhi:e.ev hi=.int k m) (hs:av g E d (.slice ao n c) xs) (h0:0≤m) (h1:m≤xs.length)
    (K:∀u,av g E d u (xs.take m.toNat)→Op C ds i r M Ls ((dst,u)::e) h):Op C ds i r M ((j,b)::Ls) e h:=by
  have G:=hs
  obtain⟨I,c',D,hc,_⟩:=G
  simp only[Value.slice.injEq] at D
  obtain⟨rfl,rfl,rfl⟩:=D
  refine Op.Bm ho hE hx hhi h0 (by omega) (K _ ?_)
  have:=hs.sub 0 m.toNat (fH _) (by omega)
  simpa using this
theorem Op.zA {dst:Nat} {T E:TypeId} {dx:Nat} {x lo:Operand} {ao:Option Addr} {n c:Nat} {k:IntKind} {m:Int} {b:Bool} {xs:List α} (ho:dS C i j e=some (some dst,.slice T x (some lo) none none)) (hE:l6 C.P T=some (E,d.sz,dx))
    (hx:e.ev x=.slice ao n c) (hlo:e.ev lo=.int k m) (hs:av g E d (.slice ao n c) xs) (h0:0≤m) (h1:m≤xs.length)
    (K:∀u,av g E d u (xs.drop m.toNat)→Op C ds i r M Ls ((dst,u)::e) h):Op C ds i r M ((j,b)::Ls) e h:=by
  have G:=hs
  obtain⟨I,c',D,hc,_⟩:=G
  simp only[Value.slice.injEq] at D
  obtain⟨rfl,rfl,rfl⟩:=D
  refine Op.Gf ho hE hx hlo h0 (by omega) (K _ ?_)
  have:=hs.sub m.toNat xs.length (by omega) (iE _)
  simpa using this
theorem Op.MM {dst:Nat} {T E:TypeId} {dx:Nat} {x lo hi:Operand} {ao:Option Addr} {n c:Nat} {k k':IntKind} {m m':Int} {b:Bool} {xs:List α} (ho:dS C i j e=some (some dst,.slice T x (some lo) (some hi) none)) (hE:l6 C.P T=some (E,d.sz,dx))
    (hx:e.ev x=.slice ao n c) (hlo:e.ev lo=.int k m) (hhi:e.ev hi=.int k' m') (hs:av g E d (.slice ao n c) xs) (h0:0≤m) (h1:m≤m') (h2:m'≤xs.length)
    (K:∀u,av g E d u ((xs.take m'.toNat).drop m.toNat)→Op C ds i r M Ls ((dst,u)::e) h):Op C ds i r M ((j,b)::Ls) e h:=by
  have G:=hs
  obtain⟨I,c',D,hc,_⟩:=G
  simp only[Value.slice.injEq] at D
  obtain⟨rfl,rfl,rfl⟩:=D
  exact Op.MJ ho hE hx hlo hhi h0 h1 (by omega) (K _ (hs.sub m.toNat m'.toNat (by omega) (by omega)))
theorem Op.MN {dst:Nat} {x y:Operand} {t t' E:TypeId} {dx:Nat} {ao:Option Addr} {n cap:Nat} {xs:List α} {m:Int}
    (ho:dS C i j e=some (some dst,.call {callee:=.builtin .append,args:=#[x,y],argTypes:=#[t,t']})) (hI:l6 C.P t=some (E,d.sz,dx)) (ht':C.P.underlying t'=some (.int .i64))
    (hz:((C.P.info? E).bind (·.zero)).map (·.cells.toList)=some d.zc)
    (hx:e.ev x=.slice ao n cap) (hs:jX h g E d (.slice ao n cap) xs) (hy:e.ev y=.int .i64 m) (h0':0≤m) (hg:(cap:Int)<xs.length+m) (hlen:(xs.length+m.toNat)*dx≤140737488355328) (s:St h0 g0 S0 g L h)
    (K:∀b h' c' u cur,aJ E d g (.slice (some ⟨b,0,none⟩) (xs.length+m.toNat) u) (xs++List.replicate m.toNat d.zv) c'→c'=[(b,.cells cur E (0,0))]→St h0 g0 S0 g (c'::L) h'→Op C ds i r M Ls ((dst,.slice (some ⟨b,0,none⟩) (xs.length+m.toNat) u)::e) h'):
    Op C ds i r M ((j,false)::Ls) e h:=by
  obtain⟨o',h1,h2,h3⟩:=gT ho
  obtain⟨J,zv,I⟩:=sZ hI
  obtain⟨news,hsrc,hro⟩:=eT.slice (P:=C.P) hs
  obtain⟨a0,c',O,hc,_⟩:=hs
  simp only[Value.slice.injEq] at O
  obtain⟨rfl,rfl,rfl⟩:=O
  have ab:zv.cells.toList=d.zc:=by simpa[I.info,I.zero] using hz
  have U:=fun q=>Dl d g zv.cells ab q
  have ad:cap<xs.length+m.toNat:=by omega
  have a1:=growslice_fits (old:=cap) ad hlen
  have a3:xs.length+m.toNat≤140737488355328:=by
    have:(xs.length+m.toNat)*1≤(xs.length+m.toNat)*dx:=xA _ I.Dh
    omega
  have a4:m.toNat*dx≤(xs.length+m.toNat)*dx:=jW _ (by omega)
  refine Op.run h1 (R:=fun ae h'=>∃u,ae=.value (.slice (some ⟨h.size,0,none⟩) (xs.length+m.toNat) u)∧xs.length+m.toNat≤u∧u≤maxLen∧
    h'=h.push (.cells (news.toArray++Builtin.zeroCells zv.cells m.toNat++Builtin.zeroCells zv.cells (u-(xs.length+m.toNat))) E (0,0))) ?_ ?_
  · intro w is
    have hh:=is.heap
    have D:=hsrc.cells w.drew hh xs.length (iE _)
    rw[←hsrc.size,xz] at D
    have hno:¬(xs.length+m.toNat≤cap):=by omega
    have hlim:¬(281474976710656<Builtin.nextslicecap (xs.length+m.toNat) cap*J.bytes):=by rw[I.bytes];omega
    have hneg:¬(m<0):=by omega
    have hbig:¬(281474976710656<m*(J.bytes:Int)):=by
      rw[I.bytes]
      have:m*(dx:Int)=((m.toNat*dx:Nat):Int):=by rw[Int.natCast_mul,Dn h0']
      omega
    have hsmall:¬(9223372036854775807<(xs.length:Int)+(m.toNat:Int)):=by omega
    have V:¬(9223372036854775807<(xs.length:Int)+max m 0):=by omega
    have X:¬(9223372036854775807<(xs.length:Int)+m):=by omega
    have hwr:IntKind.wrap .i64 m=m:=by rw[IntKind.wrap_i64];omega
    have hi:=I.info
    have Y:=I.zero
    have hai:∀w',(asInt (.int .i64 m)).run C.P w'=.ok m w':=fun w'=>by simp[asInt,asIntOf]
    refine⟨.value (.slice (some ⟨w.heap.size,0,none⟩) (xs.length+m.toNat) (grownCap w (xs.length+m.toNat) cap E)),
      w.drew.alloc (.cells (news.toArray++Builtin.zeroCells zv.cells m.toNat++Builtin.zeroCells zv.cells (grownCap w (xs.length+m.toNat) cap E-(xs.length+m.toNat))) E),?_,⟨rfl,is.os,is.tape,is.output⟩,_,by rw[←hh],zx w _ _ _,Dk w _ _ _ (by unfold maxLen;omega),by rw[←hh];rfl⟩
    refine qJ (P:=C.P) h3 (.inl rfl) ?_
    simp only[qI,eR,kG,hx,hy]
    simp only[Builtin.append_,sizeOf,typeInfo,zeroValue]
    simp only[sY,List.getElem?_cons_zero,List.getElem?_cons_succ,Sem.run_bind,run_program,Result.andThen_ok,run_underlying I.under,run_underlying ht',hi,Sem.run_pure,I.size]
    by_cases G:m.toNat*d.sz=0
    · have am:Builtin.zeroCells zv.cells m.toNat=#[]:=by
        apply Array.eq_empty_of_size_eq_zero
        rw[Dj,I.cells];exact G
      simp[hai,hwr,hneg,hbig,hno,hsmall,X,V,hlim,D,Question.forced,newRow,grownCap,hi,Y,am,G]
    · simp[hai,hwr,hneg,hbig,hno,hsmall,X,V,hlim,D,Question.forced,newRow,grownCap,hi,Y,G]
  · rintro _ _ ⟨u,rfl,hc1,ar,rfl⟩
    refine⟨_,rfl,ez.push _,?_⟩
    rw[h2]
    refine K h.size _ _ u _ (.inr ⟨h.size,0,u,_,List.replicate (u-(xs.length+m.toNat)) d.zv,by rw[cA,p7],rfl,by rw[cA,p7,p7];omega,ar,?_,?_⟩) rfl (s.alloc _)
    · simp only[Dd,zg,Dj,I.cells,hro.len]
      rw[sX,←nD,←nD,F8 hc1]
      exact iE _
    · have aw:(xs++List.replicate m.toNat d.zv++List.replicate (u-(xs.length+m.toNat)) d.zv).length=u:=by simp;omega
      have:=zy (pre:=[]) (post:=[]) (o:=0) ((hro.append (U m.toNat)).append (U (u-(xs.length+m.toNat)))) rfl (news.toArray++Builtin.zeroCells zv.cells m.toNat++Builtin.zeroCells zv.cells (u-(xs.length+m.toNat))) (by simp[De])
      rwa[aw] at this
theorem Op.MO {dst:Nat} {T S E:TypeId} {x:Operand} {v:Value} {l:an} (ho:dS C i j e=some (some dst,.convert T S x)) (hT:C.P.underlying T=some (.slice E)) (hE:C.P.underlying E=some (.int .u8)) (hS:C.P.underlying S=some .string)
    (hx:e.ev x=v) (hs:jX h g E br v l) (K:Op C ds i r M Ls ((dst,.string (bp l))::e) h):Op C ds i r M ((j,false)::Ls) e h:=by
  obtain⟨o',h1,h2,h3⟩:=gT ho
  obtain⟨ao,c,rfl,hc,H⟩:=hs
  refine Op.take h1 (v:=.string (bp l)) (fun h=>by cases h) (fun w is hk hw=>?_) (by rw[h2];exact K)
  have hw:=hw rfl
  unfold fL execOp
  simp only[h3,hx,Sem.run_bind]
  by_cases hl:l=[]
  · subst hl
    cases ao with
    |none=>rw[run_convert_bytes_nil w T E hT hE _ _ S hS];rfl
    |some a=>
     rw[dU,run_convert_bytes_string w T S E _ _ _ hT hE hS,run_bytesToString w a 0 c [] (by simp[loadCells,loadCellsFrom])]
     rfl
  · obtain⟨b,o,cur,fz,rfl,hb,hr⟩:=H hl
    rw[run_convert_bytes_arg w T E hT hE b o l.length c (l.map fun x=>(x.toNat:Int)) (by simp) (fun q hq=>?_) S hS]
    · simp only[Result.andThen_ok,Sem.run_pure]
      congr 3
      unfold strOfNums bp
      congr 1
      simp[jg,Function.comp_def]
    · have u:l[q]?=some l[q]:=oG hq
      have h4:=hr.bF q u
      rw[qo _ _ _ _ _ (by
        have:(q+1)*br.sz≤l.length*br.sz:=jW _ hq
        rw[oc] at this
        exact this)] at h4
      have h5:cut cur (o+q*1) 1=[.int .u8 l[q].toNat]:=h4
      have h6:=c_ h5 0 rfl
      rw[cell_of hw,p6 hb]
      simp only[oJ,lG] at h6
      rw[h6]
      simp[List.getD,u]
theorem Op.Bo {dst:Nat} {T S E:TypeId} {x:Operand} {v:Value} {l:an} (ho:dS C i j e=some (some dst,.convert T S x)) (hT:C.P.underlying T=some (.slice E)) (hE:C.P.underlying E=some (.int .u8)) (hS:C.P.underlying S=some .string)
    (hx:e.ev x=v) (hs:av g E br v l) (hg:bl g r) (hM:∀b o,g b=some o→¬M b) (K:Op C ds i r M Ls ((dst,.string (bp l))::e) h):Op C ds i r M ((j,true)::Ls) e h:=by
  obtain⟨o',h1,h2,h3⟩:=gT ho
  obtain⟨ao,c,rfl,hc,H⟩:=hs
  refine Op.take h1 (v:=.string (bp l)) (fun _=>by simp[nL,h3]) (fun w is hk hw=>?_) (by rw[h2];exact K)
  unfold fL execOp
  simp only[h3,hx,Sem.run_bind]
  by_cases hl:l=[]
  · subst hl
    cases ao with
    |none=>rw[run_convert_bytes_nil w T E hT hE _ _ S hS];rfl
    |some a=>
     rw[dU,run_convert_bytes_string w T S E _ _ _ hT hE hS,run_bytesToString w a 0 c [] (by simp[loadCells,loadCellsFrom])]
     rfl
  · obtain⟨b,o,cur,fz,rfl,hb,hr⟩:=H hl
    rw[run_convert_bytes_arg w T E hT hE b o l.length c (l.map fun x=>(x.toNat:Int)) (by simp) (fun q hq=>?_) S hS]
    · simp only[Result.andThen_ok,Sem.run_pure]
      congr 3
      unfold strOfNums bp
      congr 1
      simp[jg,Function.comp_def]
    · have u:l[q]?=some l[q]:=oG hq
      have h4:=hr.bF q u
      rw[qo _ _ _ _ _ (by
        have:(q+1)*br.sz≤l.length*br.sz:=jW _ hq
        rw[oc] at this
        exact this)] at h4
      have h5:cut cur (o+q*1) 1=[.int .u8 l[q].toNat]:=h4
      have h6:=c_ h5 0 rfl
      rw[cell_of rfl,p6 ((hk.same b (mP.1 (hg _ _ hb)).1 (hM _ _ hb)).trans (hg _ _ hb))]
      simp only[oJ,lG] at h6
      rw[h6]
      simp[List.getD,u]
end
section
variable {C:fP} {ds:List Deferred} {i j:Nat} {r:ax} {M:Nat→Prop} {Ls:List (Nat×Bool)} {e:Env} {h:ax}
variable {h0:ax} {g0:GH} {S0:Nat→Prop} {g:GH} {L L':List ay} {α:Type} {d:Kd α}
theorem Gk {w:World} {B:World} (is:Is B h w) {E:TypeId} {xs ys:List α} {news:List Value} {b o cap:Nat} {cur:Array Value} {rest:List α} (h1:xs.length+rest.length=cap) (h2:cap≤maxLen) (h3:o+cap*d.sz≤cur.size) (h4:Reads d g (xs++rest) (cut cur o (cap*d.sz)))
    (s:St h0 g0 S0 g L h) (k:Nat) (hk:L[k]?=some [(b,.cells cur E (0,0))]) (lo:Nat) (hlo:lo+ys.length≤xs.length) (hr:Reads d g ys news) (D:∀v∈news,v.oneCell'=true) (hM:b<r.size→M b) (P:Program):
    ∃w',(storeCells ⟨b,o+lo*d.sz,none⟩ news).run P w=.ok () w'∧Is B w'.heap w'∧aJ E d g (.slice (some ⟨b,o,none⟩) xs.length cap) (putAt xs lo ys) [(b,.cells (splice cur (o+lo*d.sz) news) E (0,0))]∧
     St h0 g0 S0 g (L.set k [(b,.cells (splice cur (o+lo*d.sz) news) E (0,0))]) w'.heap∧(ez r M h→ez r M w'.heap):=by
  have hb:w.heap[b]?=some (.cells cur E (0,0)):=by rw[is.heap];exact s.ah k hk
  have hn:=hr.len
  have G:(lo+ys.length)*d.sz≤cap*d.sz:=jW _ (by omega)
  rw[nD] at G
  have hst:=run_storeCells_at P b (o+lo*d.sz) E news 0 cur w hb (by rw[hn];omega) D
  simp only[lG] at hst
  refine⟨w.setRow b (splice cur (o+lo*d.sz) news),hst,⟨rfl,is.os,is.tape,is.output⟩,?_,?_,?_⟩
  · have:=aJ.Bn (T:=E) (b:=b) h1 h2 h3 h4 lo hlo hr
    rwa[zz hlo] at this
  · exact s.xy k hk (by have:=jm.row (cs:=splice cur (o+lo*d.sz) news) hb;rwa[is.heap] at this)
  · intro u
    rw[←is.heap] at u
    exact ez.row hM u
theorem Gl (xs:List α) (lo:Nat):putAt xs lo []=xs:=by simp[putAt]
theorem Op.bE {dst:Nat} {x y:Operand} {t t' E:TypeId} {dx:Nat} {ao:Option Addr} {n c lo m:Nat} {xs ys:List α} {news:List Value} {G:ay}
    (ho:dS C i j e=some (some dst,.call {callee:=.builtin .copy,args:=#[x,y],argTypes:=#[t,t']})) (hI:l6 C.P t=some (E,d.sz,dx))
    (hx:e.ev x=.slice (eZ ao lo c d.sz) (n-lo) (c-lo)) (hR:aJ E d g (.slice ao n c) xs G) (hlo:lo≤xs.length) (s:St h0 g0 S0 g L h) (k:Nat) (hk:L[k]?=some G)
    (hy:eT C.P h d.sz (e.ev y) m news) (hys:Reads d g ys news) (hm:ys.length=m) (hM:∀p∈G,p.1<r.size→M p.1)
    (K:∀u h',aJ E d g (.slice ao n c) (putAt xs lo (ys.take (xs.length-lo))) u→St h0 g0 S0 g (L.set k u) h'→Op C ds i r M Ls ((dst,.int .i64 ((min ys.length (xs.length-lo):Nat):Int))::e) h'):Op C ds i r M ((j,false)::Ls) e h:=by
  obtain⟨o',h1,h2,h3⟩:=gT ho
  obtain⟨ar,zv,I⟩:=sZ hI
  subst hm
  obtain⟨aw,c',U⟩:=hR.aj
  simp only[Value.slice.injEq] at U
  obtain⟨rfl,rfl,rfl⟩:=U
  refine Op.run h1 (R:=fun ad h'=>∃u,ad=.value (.int .i64 ((min ys.length (xs.length-lo):Nat):Int))∧aJ E d g (.slice ao xs.length c) (putAt xs lo (ys.take (xs.length-lo))) u∧St h0 g0 S0 g (L.set k u) h'∧(ez r M h→ez r M h')) ?_ ?_
  · intro w is
    have hh:=is.heap
    have hl:=hy.len w hh
    have hcs:=hy.cells w hh (min ys.length (xs.length-lo)) (Nat.min_le_left _ _)
    have hi:=I.info
    have step:∀w',((match eZ ao lo c d.sz with|some a=>storeCells a (news.take (min ys.length (xs.length-lo)*d.sz))|none=>pure ()):Sem Unit).run C.P w=.ok () w'→
        (fL e o').run C.P w=.ok (.value (.int .i64 ((min ys.length (xs.length-lo):Nat):Int))) w':=by
      intro w' hw
      refine qJ (P:=C.P) h3 (.inr (.inl rfl)) ?_
      simp only[qI,eR,kG,hx]
      simp only[Builtin.copy_,sizeOf,typeInfo]
      simp only[sY,List.getElem?_cons_zero,List.getElem?_cons_succ,Sem.run_bind,run_program,Result.andThen_ok,run_underlying I.under,hi,Sem.run_pure,I.size,hl,hcs]
      cases hsa:eZ ao lo c d.sz with
      |none=>rw[hsa] at hw;simp only[Sem.run_pure] at hw;simpa[goInt] using hw
      |some a=>rw[hsa] at hw;simp[hw,goInt]
    have hset:=zp k L G
    rcases hR with ⟨a0,D,rfl,rfl⟩|⟨b,o,cap,cur,rest,D,rfl,V,X,Y,ab⟩
    · simp only[Value.slice.injEq] at D
      obtain⟨rfl,_,rfl⟩:=D
      refine⟨_,_,step w (by cases eZ ao lo 0 d.sz<;>simp[storeCells]),is.again,[],rfl,.inl ⟨ao,rfl,?_,rfl⟩,?_,fun J=>by rw[hh];exact J⟩
      · simp[putAt]
      · rw[hh];exact St.qG (hset _ hk) (s.aa k hk)
    · simp only[Value.slice.injEq] at D
      obtain⟨rfl,_,rfl⟩:=D
      have hr:Reads d g (ys.take (xs.length-lo)) (news.take (min ys.length (xs.length-lo)*d.sz)):=by
        have:=(hys.jy (min ys.length (xs.length-lo)) (Nat.min_le_left _ _)).1
        rwa[show ys.take (min ys.length (xs.length-lo))=ys.take (xs.length-lo) from by
          rcases Nat.le_total ys.length (xs.length-lo) with hle|hle
          · rw[kW hle,fC (iE _),fC hle]
          · rw[Nat.min_eq_right hle]] at this
      have hlt:lo+(ys.take (xs.length-lo)).length≤xs.length:=by rw[e_];omega
      obtain⟨w',hw,ae,hrow,hst,O⟩:=Gk (r:=r) (M:=M) is V X Y ab s k hk lo hlt hr (fun v hv=>hy.one v (yZ hv)) (hM (b,.cells cur E (0,0)) (iw.2 rfl)) C.P
      by_cases hcl:lo=c
      ·
        have hz:min ys.length (xs.length-lo)=0:=by omega
        have am:ys.take (xs.length-lo)=[]:=by rw[show xs.length-lo=0 by omega];simp
        refine⟨_,w,step w ?_,is.again,[(b,.cells cur E (0,0))],rfl,?_,?_,fun J=>by rw[hh];exact J⟩
        · rw[hz]
          unfold eZ
          rw[aO hcl.symm]
          simp[storeCells]
        · rw[am,Gl];exact .inr ⟨b,o,c,cur,rest,rfl,rfl,V,X,Y,ab⟩
        · rw[hh];exact St.qG (hset _ hk) (s.aa k hk)
      · refine⟨_,w',step w' ?_,ae,_,rfl,hrow,hst,O⟩
        unfold eZ
        rw[aC (fun e=>hcl e.symm)]
        simp only[mS,jT]
        exact hw
  · rintro _ _ ⟨u,rfl,hrow,hst,O⟩
    refine⟨_,rfl,O,?_⟩
    rw[h2]
    exact K u _ hrow hst
theorem Op.MP {x:Operand} {t E:TypeId} {dx:Nat} {ao:Option Addr} {n c lo:Nat} {xs:List α} {G:ay}
    (ho:dS C i j e=some (none,.call {callee:=.builtin .clear,args:=#[x],argTypes:=#[t]})) (hI:l6 C.P t=some (E,d.sz,dx)) (hz:((C.P.info? E).bind (·.zero)).map (·.cells.toList)=some d.zc)
    (hx:e.ev x=.slice (eZ ao lo c d.sz) (n-lo) (c-lo)) (hR:aJ E d g (.slice ao n c) xs G) (hlo:lo≤xs.length) (s:St h0 g0 S0 g L h) (k:Nat) (hk:L[k]?=some G) (hM:∀p∈G,p.1<r.size→M p.1)
    (K:∀u h',aJ E d g (.slice ao n c) (putAt xs lo (List.replicate (xs.length-lo) d.zv)) u→St h0 g0 S0 g (L.set k u) h'→Op C ds i r M Ls e h'):Op C ds i r M ((j,false)::Ls) e h:=by
  obtain⟨o',h1,h2,h3⟩:=gT ho
  obtain⟨a1,zv,I⟩:=sZ hI
  obtain⟨a3,c',U⟩:=hR.aj
  simp only[Value.slice.injEq] at U
  obtain⟨rfl,rfl,rfl⟩:=U
  have ad:zv.cells.toList=d.zc:=by simpa[I.info,I.zero] using hz
  refine Op.run h1 (R:=fun ae h'=>∃u,ae=.value (.tuple #[])∧aJ E d g (.slice ao xs.length c) (putAt xs lo (List.replicate (xs.length-lo) d.zv)) u∧St h0 g0 S0 g (L.set k u) h'∧(ez r M h→ez r M h')) ?_ ?_
  · intro w is
    have hh:=is.heap
    have hi:=I.info
    have am:=I.zero
    have hset:=zp k L G
    have A2:xs.length-lo=0∨eZ ao lo c d.sz=none→(fL e o').run C.P w=.ok (.value (.tuple #[])) w:=by
      intro h0
      refine qJ (P:=C.P) h3 (by simp) ?_
      simp only[qI,eR,kG,hx]
      simp only[Builtin.clear_]
      simp only[sY,List.getElem?_cons_zero,Sem.run_bind,run_underlying I.under,Result.andThen_ok]
      rcases h0 with h0|h0
      · rw[h0];cases eZ ao lo c d.sz<;>simp
      · rw[h0];simp
    have go:∀a w',eZ ao lo c d.sz=some a→xs.length-lo≠0→(storeCells a (Builtin.zeroCells zv.cells (xs.length-lo)).toList).run C.P w=.ok () w'→(fL e o').run C.P w=.ok (.value (.tuple #[])) w':=by
      intro a w' ha hn hw
      refine qJ (P:=C.P) h3 (by simp) ?_
      simp only[qI,eR,kG,hx,ha]
      obtain⟨m,hm⟩:∃m,xs.length-lo=m+1:=⟨xs.length-lo-1,by omega⟩
      rw[hm] at hw ⊢
      simp only[Builtin.clear_,zeroValue,typeInfo]
      simp only[sY,List.getElem?_cons_zero,Sem.run_bind,run_underlying I.under,Result.andThen_ok,run_program,hi,am,Sem.run_pure,hw]
    rcases hR with ⟨a0,D,rfl,rfl⟩|⟨b,o,cap,cur,rest,D,rfl,V,X,Y,ab⟩
    · simp only[Value.slice.injEq] at D
      obtain⟨rfl,_,rfl⟩:=D
      refine⟨_,_,A2 (.inl (by simp)),is.again,[],rfl,.inl ⟨ao,rfl,by simp[putAt],rfl⟩,?_,fun J=>by rw[hh];exact J⟩
      rw[hh];exact St.qG (hset _ hk) (s.aa k hk)
    · simp only[Value.slice.injEq] at D
      obtain⟨rfl,_,rfl⟩:=D
      by_cases hn:xs.length-lo=0
      · have ar:List.replicate (xs.length-lo) d.zv=[]:=by rw[hn];rfl
        refine⟨_,w,A2 (.inl hn),is.again,[(b,.cells cur E (0,0))],rfl,?_,?_,fun J=>by rw[hh];exact J⟩
        · rw[ar,Gl];exact .inr ⟨b,o,c,cur,rest,rfl,rfl,V,X,Y,ab⟩
        · rw[hh];exact St.qG (hset _ hk) (s.aa k hk)
      · have hr:Reads d g (List.replicate (xs.length-lo) d.zv) (Builtin.zeroCells zv.cells (xs.length-lo)).toList:=Dl d g zv.cells ad _
        obtain⟨w',hw,aw,hrow,hst,O⟩:=Gk (r:=r) (M:=M) is V X Y ab s k hk lo (by rw[p7];omega) hr hr.one (hM (b,.cells cur E (0,0)) (iw.2 rfl)) C.P
        have hsa:eZ (some ⟨b,o,none⟩) lo c d.sz=some ⟨b,o+lo*d.sz,none⟩:=by
          unfold eZ
          rw[aC (by omega)]
          simp[jT]
        exact⟨_,w',go _ w' hsa hn hw,aw,_,rfl,hrow,hst,O⟩
  · rintro _ _ ⟨u,rfl,hrow,hst,O⟩
    refine⟨_,rfl,O,?_⟩
    rw[h2]
    exact K u _ hrow hst
end
def zB (f:Field→Option Bool):List Field→Option Bool
  |[]=>some true
  |x::r=>match f x,zB f r with
   |some a,some b=>some (a&&b)
   |_,_=>none
def zC (P:Program):Nat→TypeId→Value→Value→Option Bool
  |0,_,_,_=>none
  |n+1,T,x,y=>match P.underlying T,x,y with
   |some .bool,.bool a,.bool b=>some (a==b)
   |some (.int _),.int k a,.int k' b=>if k=k' then some (a==b) else none
   |some .string,.string a,.string b=>some (a==b)
   |some (.struct fs),.agg xs,.agg ys=>if P.stoodInHeld T=true then none else
       zB (fun f=>if f.name="_" then none else match pY P (part f.type xs f.offset),pY P (part f.type ys f.offset) with
         |some a,some b=>zC P n f.type a b
         |_,_=>none) fs.toList
   |_,_,_=>none
theorem Gm {P:Program} {w:World} {f:Field→Option Bool} (F:Field→Option Bool×Unit→Sem (ForInStep (Option Bool×Unit))):∀(l:List Field) (r:Bool),zB f l=some r→
    (∀x b,f x=some b→∀s,(F x s).run P w=.ok (if b=true then .yield (none,()) else .done (some false,())) w)→(forIn l (none,()) F).run P w=.ok (if r=true then (none,()) else (some false,())) w
  |[],r,h,H=>by
   simp only[zB,fu] at h
   subst h
   simp
  |x::l,r,h,H=>by
   unfold zB at h
   split at h
   · rename_i a b ha hb
     simp only[fu] at h
     subst h
     have ih:=Gm F l b hb H
     have hx:=H x a ha (none,())
     rw[List.forIn_cons,Sem.run_bind,hx]
     cases a with
     |true=>simpa using ih
     |false=>simp
   · cases h
theorem MQ {P:Program} {w:World}:∀(n m:Nat) (T:TypeId) (x y:Value) (r:Bool),n≤m→zC P n T x y=some r→(Go.Op.equalIn m T x y).run P w=.ok r w:=by
  intro n
  induction n with
  |zero=>intro m T x y r _ h;simp[zC] at h
  |succ n ih=>
   intro m T x y r hm h
   obtain⟨m,rfl⟩:∃q,m=q+1:=⟨m-1,by omega⟩
   unfold zC at h
   split at h
   · rename_i hu;simp only[fu] at h;subst h
     simp[Go.Op.equalIn,run_underlying hu]
   · rename_i hu
     split at h
     · rename_i hk;simp only[fu] at h;subst h;subst hk
       simp[Go.Op.equalIn,run_underlying hu]
     · cases h
   · rename_i hu;simp only[fu] at h;subst h
     simp[Go.Op.equalIn,run_underlying hu]
   · rename_i fs xs ys hu
     split at h
     · cases h
     · rename_i hs
       simp only[Go.Op.equalIn,Sem.run_bind,run_underlying hu,Result.andThen_ok,run_program,hs,dV,gA]
       rw[←Array.forIn_toList,Gm (P:=P) (w:=w) _ fs.toList r h (fun fl b hb u=>?_)]
       · cases r<;>rfl
       · split at hb
         · cases hb
         · rename_i hname
           split at hb
           · rename_i a b' ha hb'
             have h1:=xw _ ha w
             have h2:=xw _ hb' w
             have h3:=ih m fl.type a b' b (by omega) hb
             simp only[hname,ne_eq,not_false_eq_true,jl,Sem.run_bind,h1,h2,h3,Result.andThen_ok]
             cases b<;>rfl
           · cases hb
   · cases h
section
variable {C:fP} {ds:List Deferred} {i j:Nat} {r:ax} {M:Nat→Prop} {Ls:List (Nat×Bool)} {e:Env} {h:ax}
theorem Op.A3 {dst:Nat} {T T':TypeId} {x y:Operand} {neq:Bool} {xs ys:Array Value} {q q':Bool} {b:Bool} (ho:dS C i j e=some (some dst,.binOp (bif neq then .neq else .eql) T x y T'))
    (hx:e.ev x=.agg xs) (hy:e.ev y=.agg ys) (hg:C.P.eqGuardType C.P.depth T=false) (hq:zC C.P 30 T (.agg xs) (.agg ys)=some q) (hv:(bif neq then !q else q)=q')
    (K:Op C ds i r M Ls ((dst,.bool q')::e) h):Op C ds i r M ((j,b)::Ls) e h:=by
  refine Op.free ho (fun o' ho w=>?_) K
  have h1:(Go.Op.equal T (.agg xs) (.agg ys)).run C.P w=.ok q w:=MQ 30 _ T _ _ q (by decide) hq
  subst hv
  cases neq<;>simp only[cond_true,cond_false] at ho ⊢<;>
    simp[execOp,ho,hx,hy,eqGuard,binOp,hg,h1]
end
theorem CL (a b:an):(bp a==bp b)=(a==b):=by
  show(a.toArray==b.toArray)=_
  simp
def s6 (P:Program) (e:Env) (h:ax):List ResultVar→List Value→Prop
  |[],[]=>True
  |.tmp t::l,v::vs=>e.get t=some v∧s6 P e h l vs
  |.cell c T::l,v::vs=>(∃b o,e.get c=some (.pointer (some ⟨b,o,none⟩))∧∀w:World,w.heap=h→(loadVar T ⟨b,o,none⟩).run P w=.ok v w)∧s6 P e h l vs
  |_,_=>False
theorem dY {P:Program} {h:ax} {T:TypeId} {b o n:Nat} {vs:List Value} {cs:Array Value} {u:TypeId} {fz:Nat×Nat} (hT:l5 P T=some (true,n)) (hb:h[b]?=some (.cells cs u fz)) (hv:cut cs o n=vs) (hl:vs.length=n):
    ∀w:World,w.heap=h→(loadVar T ⟨b,o,none⟩).run P w=.ok (.agg vs.toArray) w:=
  fun w hw=>Da hT hl fun k v hk=>by rw[cell_of hw];exact Db hv hb k v hk
theorem Bp {P:Program} {h:ax} {T:TypeId} {b o n:Nat} {v:Value} {cs:Array Value} {u:TypeId} {fz:Nat×Nat} (hT:l5 P T=some (false,n)) (hb:h[b]?=some (.cells cs u fz)) (hv:cs[o]?=some v):
    ∀w:World,w.heap=h→(loadVar T ⟨b,o,none⟩).run P w=.ok v w:=
  fun w hw=>C_ hT (by rw[cell_of hw,p6 hb,hv])
theorem Gn {P:Program} {f:Func} {a:Act} {e:Env} {n:Nat} {ds:List Deferred} {h:ax} (ft:jw e n ds a) {vs:List Value} (hv:s6 P e h f.results.toList vs) (w:World) (hw:w.heap=h):
    (results f a.tmps).run P w=.ok (if hs:vs.toArray.size=1 then vs.toArray[0] else .tuple vs.toArray) w:=by
  have key:∀(g:ResultVar→Sem Value),(∀t,g (.tmp t)=pure (a.tmps.getD t undef))→(∀c t,g (.cell c t)=do loadVar t (←asAddr (a.tmps.getD c undef)))→∀(l:List ResultVar) (vs:List Value),s6 P e h l vs→(l.mapM g).run P w=.ok vs w:=by
    intro g hg u l
    induction l with
    |nil=>
     intro vs h
     cases vs with
     |nil=>rfl
     |cons=>simp[s6] at h
    |cons x l ih=>
     intro vs hh
     rw[C3]
     cases vs with
     |nil=>cases x<;>simp[s6] at hh
     |cons v vs=>
      cases x with
      |tmp t=>
       have h1:=ft.get t v hh.1
       simp only[Sem.run_bind,hg,Sem.run_pure,Result.andThen_ok,ih vs hh.2]
       simp[h1]
      |cell c t=>
       obtain⟨⟨b,o,h1,h2⟩,h3⟩:=hh
       have h4:=ft.get c _ h1
       have h5:a.tmps.getD c undef=.pointer (some ⟨b,o,none⟩):=by simp[h4]
       simp only[Sem.run_bind,u,h5,asAddr,Sem.run_pure,Result.andThen_ok,h2 w hw,ih vs h3]
  have D:∀(g:ResultVar→Sem Value) (vs:List Value),(f.results.toList.mapM g).run P w=.ok vs w→(f.results.mapM g).run P w=.ok vs.toArray w:=by
    intro g vs h
    rw[F1]
    simp only[Sem.run_map,h,Result.andThen_ok]
  unfold results
  rw[Sem.run_bind]
  exact(congrArg (fun r=>Result.andThen r _) (D _ _ (key _ (fun _=>rfl) (fun _ _=>rfl) _ _ hv))).trans rfl
theorem At.MR {P:Program} {B:World} {fn:FuncId} {f:Func} {R:Value→ax→Prop} {i:Nat} {e:Env} {h:ax} {v:Value} {vs:List Value} {rl:List ResultVar}
    (hi:oH (pt (dz f) i)=true) (hr:f.results.toList=rl) (hv:s6 P e h rl vs) (u:(if hs:vs.toArray.size=1 then vs.toArray[0] else .tuple vs.toArray)=v) (H:R v h):At (bX P B fn f R) [] i e h:=by
  intro a w ft is
  subst u
  subst hr
  show eY P none fn (qF P B f R) (pt (dz f) i) a w
  have hq:∀j,(j=none∨j=some .ret)→qF P B f R j a w:=fun j hj=>
    ⟨hj,w,_,by rw[ft.defers];exact .nil w,Gn ft hv w is.heap,is.again,by rw[is.heap];exact H⟩
  generalize pt (dz f) i=k at *
  unfold oH at hi
  split at hi
  · exact .sP .j9 (hq _ (.inl rfl))
  · exact .sP (.ret _) (hq _ (.inr rfl))
  · cases hi
def splitOn (c:UInt8):an→List an
  |[]=>[[]]
  |b::l=>if b=c then []::splitOn c l else match splitOn c l with
   |x::xs=>(b::x)::xs
   |[]=>[[b]]
theorem Bq (c:UInt8) (l:an):splitOn c l≠[]:=by
  cases l with
  |nil=>simp[splitOn]
  |cons b l=>unfold splitOn;split<;>(try split)<;>simp
theorem Gp (c:UInt8):∀(l:an),c ∉ l→splitOn c l=[l]
  |[],_=>rfl
  |b::l,h=>by
   have hb:¬b=c:=fun e=>h (by simp[e])
   rw[splitOn,aC hb,Gp c l (fun hm=>h (by simp[hm]))]
theorem Br (c:UInt8):∀(a l:an),c ∉ a→splitOn c (a++c::l)=a::splitOn c l
  |[],l,_=>by simp[splitOn]
  |b::a,l,h=>by
   have hb:¬b=c:=fun e=>h (by simp[e])
   rw[dW,splitOn,aC hb,Br c a l (fun hm=>h (by simp[hm]))]
theorem Dp (c:UInt8):∀(l:an),(splitOn c l).length=l.count c+1
  |[]=>rfl
  |b::l=>by
   have ih:=Dp c l
   unfold splitOn
   split
   · rename_i h;subst h;simp[ih]
   · rename_i h
     have:(b==c)=false:=by simpa using h
     rw[List.count_cons,this]
     split
     · rename_i x xs hx;rw[hx] at ih;simpa using ih
     · rename_i hx;exact absurd hx (Bq c l)
def fQ (c:UInt8):List an→an
  |[]=>[]
  |[x]=>x
  |x::y::xs=>x++c::fQ c (y::xs)
theorem Gq (c:UInt8):∀(l:an),fQ c (splitOn c l)=l
  |[]=>rfl
  |b::l=>by
   have ih:=Gq c l
   unfold splitOn
   split
   · rename_i h
     subst h
     cases hs:splitOn b l with
     |nil=>exact absurd hs (Bq b l)
     |cons x xs=>rw[hs] at ih;simp[fQ,ih]
   · split
     · rename_i x xs hx
       rw[hx] at ih
       cases xs with
       |nil=>simp only[fQ] at ih ⊢;rw[ih]
       |cons y ys=>simp only[fQ] at ih ⊢;rw[←ih];simp
     · rename_i hx;exact absurd hx (Bq c l)
theorem Bs (c:UInt8):∀(xs:List an),xs≠[]→(∀x∈xs,c ∉ x)→splitOn c (fQ c xs)=xs
  |[],h,_=>absurd rfl h
  |[x],_,h=>Gp c x (h x (by simp))
  |x::y::xs,_,h=>by
   rw[fQ,Br c x _ (h x (by simp)),Bs c (y::xs) (by simp) (fun z hz=>h z (by simp[hz]))]
end Go.Proofs.YtceekbnihfckeaaGreatDoor.Sw
