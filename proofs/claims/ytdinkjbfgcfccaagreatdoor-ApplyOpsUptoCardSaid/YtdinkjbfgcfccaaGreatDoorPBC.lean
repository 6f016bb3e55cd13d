/- Lemmas for laws of this seat. -/
import Derived.Test.YtdinkjbfgcfccaaGreatDoorPBB
import Derived.Laws.CopyRow
import Derived.Laws.Append
set_option maxHeartbeats 4000000
namespace Go.Proofs.YtdinkjbfgcfccaaGreatDoor.Sw
set_option linter.unusedVariables false
set_option linter.unusedSimpArgs false
set_option linter.deprecated false
open Go
set_option linter.defProp false
def dZ:=@List.length_take
def qw:=@Nat.zero_add
def wq:=@List.take_length
def nk:=@Nat.add_mul
def nq:=@Nat.add_zero
def qx:=@List.getElem?_toArray
def rj:=@Bool.not_false
def uy:=@Nat.mul_le_mul_left
def wu:=@List.drop_zero
def wv:=@List.replicate_succ
def wz:=@Nat.add_comm
def ym:=@List.ext_getElem?
def jC:=@List.getElem?_map
def Fe:=@List.getElem?_range
def lI:=@Option.map_some
def pF:=@Nat.mod_eq_of_lt
def Bh:=@List.getElem?_eq_none
def wA:=@List.map_congr_left
def pG:=@List.map_toArray
def oH:=@List.length_replicate
def Bi:=@Array.size_append
def Ff:=@Nat.add_sub_cancel'
def Bj:=@Array.toList_append
def kU:=@List.eq_nil_of_length_eq_zero
def eT:=@List.length_drop
def Fg:=@List.toList_toArray
def yo:=@List.take_add
def lJ:=@List.take_append_drop
def Bk:=@Nat.add_assoc
def Fh:=@Option.bind_eq_some_iff
def mQ:=@not_true_eq_false
def kr (P:Program) (T:TypeId):Option (TypeId×Nat×Nat):=
  match P.underlying T with
  |some (.slice E)=>match P.info? E with
   |some i=>match i.zero with
    |some z=>if Nat.beq z.cells.size i.size&&(Nat.blt 0 i.size&&Nat.blt 0 i.bytes) then some (E,i.size,i.bytes) else none
    |none=>none
   |none=>none
  |_=>none
structure Bl (P:Program) (T E:TypeId) (sz cK:Nat) (i:TypeInfo) (z:Value):Prop where
  under:P.underlying T=some (.slice E)
  info:P.info? E=some i
  zero:i.zero=some z
  cells:z.cells.size=sz
  size:i.size=sz
  bytes:i.bytes=cK
  pos:0<sz
  Bm:0<cK
theorem qy {P:Program} {T E:TypeId} {sz cK:Nat} (h:kr P T=some (E,sz,cK)):∃i z,Bl P T E sz cK i z:=by
  unfold kr at h
  split at h
  · rename_i u hu
    split at h
    · rename_i i hi
      split at h
      · rename_i z hz
        split at h
        · rename_i hc
          simp only[bZ] at hc
          simp only[ey,gY] at h
          obtain⟨rfl,rfl,rfl⟩:=h
          exact⟨i,z,hu,hi,hz,qn hc.1,rfl,rfl,jz hc.2.1,jz hc.2.2⟩
        · cases h
      · cases h
    · cases h
  · cases h
def uz (P:Program) (t:TypeId):Bool:=match P.underlying t with
  |some (.int _)=>false
  |some _=>true
  |none=>false
theorem Bn {P:Program} {t:TypeId} (h:uz P t=true):∃d,P.underlying t=some d∧∀k,d≠.int k:=by
  unfold uz at h
  split at h
  · cases h
  · rename_i d hd hne;exact⟨d,hne,hd⟩
  · cases h
structure cT (P:Program) (h:ay) (sz:Nat) (x:Value) (m:Nat) (news:List Value):Prop where
  len:∀w,w.heap=h→(Builtin.lenOf x).run P w=.ok m w
  cells:∀w,w.heap=h→∀k,k≤m→(Builtin.firstCells sz k x).run P w=.ok (news.take (k*sz)).toArray w
  size:news.length=m*sz
  one:∀v∈news,v.oneCell'=true
theorem cT.slice {α:Type} {P:Program} {h:ay} {g:GH} {E:TypeId} {d:Kd α} {v:Value} {ys:List α} (hs:h_ h g E d v ys):∃news,cT P h d.sz v ys.length news∧Reads d g ys news:=by
  obtain⟨ao,c,rfl,hc,H⟩:=hs
  by_cases hy:ys=[]
  · subst hy
    refine⟨[],⟨fun w _=>rfl,fun w _ k hk=>?_,by simp,by simp⟩,rfl⟩
    obtain rfl:k=0:=by simpa using hk
    cases ao with
    |none=>simp[Builtin.firstCells]
    |some a=>simp[Builtin.firstCells,loadCells,loadCellsFrom]
  · obtain⟨b,o,cur,fz,rfl,hb,hr⟩:=H hy
    refine⟨_,⟨fun w _=>rfl,fun w hw k hk=>?_,hr.len,hr.one⟩,hr⟩
    have u:((cut cur o (ys.length*d.sz)).take (k*d.sz)).length=k*d.sz:=by
      have:=hr.len
      rw[dZ,this,jB (iB _ hk)]
    have:=Bc (P:=P) (w:=w) ⟨b,o,none⟩ ((cut cur o (ys.length*d.sz)).take (k*d.sz)) 0 #[] (fun j v hj=>by
      rw[qw,kS,cell_of hw,oG hb]
      unfold cut at hj
      rw[q8,sK] at hj
      split at hj
      · simpa using hj
      · cases hj)
    rw[u] at this
    simpa[Builtin.firstCells,loadCells] using this
theorem Fi (g:GH):∀(l:aj),Reads a_ g l (l.map fun b=>.int .u8 b.toNat)
  |[]=>rfl
  |b::l=>⟨[.int .u8 b.toNat],_,rfl,rfl,Fi g l⟩
theorem Bo (z:Array Value) (n:Nat):(Builtin.zeroCells z n).size=n*z.size:=by simp[Builtin.zeroCells]
theorem wB (w:World) (u old:Nat) (e:TypeId):u≤grownCap w u old e:=by simp[grownCap,Question.cut]
theorem Bp (w:World) (u old:Nat) (e:TypeId) (h:u≤maxLen):grownCap w u old e≤maxLen:=by
  have hlt:=uk (w.tape w.drawn (.appendCap u old e)) (show 0<2 ^ 63-u by simp only[maxLen] at h;omega)
  simp only[grownCap,Question.cut,maxLen] at h ⊢
  omega
section
variable {P:Program} {w:World} {t t' ty E:TypeId} {sz cK:Nat} {i:TypeInfo} {z:Value}
theorem Mf (I:Bl P t E sz cK i z) (ht':uz P t'=true) {b o n cap m:Nat} {x:Value} {news:List Value} (hx:cT P w.heap sz x m news)
    {cur:Array Value} {u:TypeId} (hb:w.heap[b]?=some (.cells cur u (0,0))) (hroom:n+m≤cap) (G:o+cap*sz≤cur.size):
    (Builtin.append_ #[t,t'] ty #[.slice (some ⟨b,o,none⟩) n cap,x]).run P w=
      .ok (.slice (some ⟨b,o,none⟩) (n+m) cap) (w.setRow b (cur.toList.take (o+n*sz)++news++cur.toList.drop (o+n*sz+news.length)).toArray):=by
  obtain⟨d,hd,D⟩:=Bn ht'
  have hc:=hx.cells w rfl m (gF _)
  rw[←hx.size,wq] at hc
  have h2:(n+m)*sz≤cap*sz:=iB _ hroom
  rw[nk] at h2
  have hst:=run_storeCells_at P b (o+n*sz) u news 0 cur w hb (by rw[hx.size];omega) hx.one
  simp only[nq] at hst
  have hl:=hx.len w rfl
  simp only[Builtin.append_,sizeOf,typeInfo]
  simp only[qx,List.getElem?_cons_zero,List.getElem?_cons_succ,Sem.run_bind,run_program,Result.andThen_ok,run_underlying I.under,run_underlying hd,I.info,Sem.run_pure,I.size]
  cases d<;>first|exact absurd rfl (D _)|(simp only[fW,dI,hl,Result.andThen_ok,hroom,gX,Sem.run_bind,rj,hc,kS,hst,Sem.run_pure])
theorem Mg (I:Bl P t E sz cK i z) (ht':uz P t'=true) {ao:Option Addr} {n cap m:Nat} {x:Value} {nr news:List Value} (ho:cT P w.heap sz (.slice ao n cap) n nr) (hx:cT P w.heap sz x m news)
    (hg:cap<n+m) (D:(n+m)*cK≤140737488355328):
    (Builtin.append_ #[t,t'] ty #[.slice ao n cap,x]).run P w=
      .ok (.slice (some ⟨w.heap.size,0,none⟩) (n+m) (grownCap w (n+m) cap E)) (w.drew.alloc (.cells ((nr++news).toArray++Builtin.zeroCells z.cells (grownCap w (n+m) cap E-(n+m))) E)):=by
  obtain⟨d,hd,G⟩:=Bn ht'
  have hc:=hx.cells w.drew rfl m (gF _)
  rw[←hx.size,wq] at hc
  have u:=ho.cells w.drew rfl n (gF _)
  rw[←ho.size,wq] at u
  have J:=growslice_fits (old:=cap) hg D
  have hl:=hx.len w rfl
  have hno:¬(n+m≤cap):=by omega
  have hlim:¬(281474976710656<Builtin.nextslicecap (n+m) cap*i.bytes):=by rw[I.bytes];omega
  have hsmall:¬(9223372036854775807<(n:Int)+(m:Int)):=by
    have:(n+m)*1≤(n+m)*cK:=uy _ I.Bm
    omega
  have hi:=I.info
  have hz:=I.zero
  simp only[Builtin.append_,sizeOf,typeInfo,zeroValue]
  simp only[qx,List.getElem?_cons_zero,List.getElem?_cons_succ,Sem.run_bind,run_program,Result.andThen_ok,run_underlying I.under,run_underlying hd,hi,Sem.run_pure,I.size]
  cases d<;>first|exact absurd rfl (G _)|(simp[hl,hno,hsmall,hlim,hc,u,Question.forced,newRow,grownCap,hi,hz];congr 2;apply Array.ext';simp[cJ])
end
theorem dB.row {r:ay} {M:Nat→Prop} {w:World} {b:Nat} {cs:Array Value} (hM:b<r.size→M b) (k:dB r M w.heap):dB r M (w.setRow b cs).heap:=
  ⟨by rw[setRow_size];exact k.size,fun x hx hm=>(setRow_other w b x cs (fun e=>hm (e▸hM (e▸hx)))).trans (k.same x hx hm)⟩
theorem iC.row {w:World} {b:Nat} {cur cs:Array Value} {u:TypeId} {fz:Nat×Nat} (hb:w.heap[b]?=some (.cells cur u fz)):iC w.heap b (.cells cs u fz) (w.setRow b cs).heap:=
  ⟨setRow_size w b cs,setRow_heap w b cur cs u fz hb,fun k hk=>setRow_other w b k cs hk⟩
section
variable {C:ff} {ds:List Deferred} {i j:Nat} {r:ay} {M:Nat→Prop} {Ls:List (Nat×Bool)} {e:Env} {h:ay}
variable {h0:ay} {g0:GH} {S0:Nat→Prop} {g:GH} {L L':List az}
theorem pH {e:Env} {o:Oper} {b:Builtin} {args:Array Operand} {ts:Array TypeId} (h3:o.op=.call {callee:=.builtin b,args:=args,argTypes:=ts}) {w:World} {P:Program} {v:Value} {w':World}
    (hb:b=.append∨b=.copy∨b=.len∨b=.cap∨b=.clear∨b=.delete∨b=.max∨b=.min)
    (hr:(match b with
      |.append=>Builtin.append_ ts o.type (args.map e.ev)
      |.copy=>Builtin.copy_ ts o.type (args.map e.ev)
      |.len=>Builtin.len_ ts o.type (args.map e.ev)
      |.cap=>Builtin.cap_ ts o.type (args.map e.ev)
      |.clear=>Builtin.clear_ ts o.type (args.map e.ev)
      |.delete=>Builtin.delete_ ts o.type (args.map e.ev)
      |.max=>Builtin.max_ ts o.type (args.map e.ev)
      |_=>Builtin.min_ ts o.type (args.map e.ev)).run P w=.ok v w'):(eN e o).run P w=.ok (.value v) w':=by
  unfold eN execOp
  simp only[h3,resolve,Sem.run_bind,Sem.run_pure,Result.andThen_ok,invoke,builtin]
  rcases hb with rfl|rfl|rfl|rfl|rfl|rfl|rfl|rfl<;>simp_all
theorem wC {α:Type} {d:Kd α} {g:GH} {xs:List α} {cs:List Value} (hr:Reads d g xs cs) {pre post:List Value} {o:Nat} (ho:pre.length=o) (u:Array Value) (ha:u.toList=pre++cs++post):
    Reads d g xs (cut u o (xs.length*d.sz)):=by
  unfold cut
  rw[ha,cJ,v_,mO (by omega),←ho,Nat.sub_self,dS,wu,we hr.len]
  exact hr
theorem Mh (z:Array Value):∀q,(Builtin.zeroCells z q).toList=(List.replicate q z.toList).flatten:=by
  have h0:∀q,(Builtin.zeroCells z q).toList=(List.range (q*z.size)).map fun i=>z[i % z.size]!:=by
    intro q
    unfold Builtin.zeroCells
    rw[Array.toList_map,Array.toList_range]
  intro q
  rw[h0]
  induction q with
  |zero=>simp
  |succ q ih=>
   rw[wv,cm,←ih,mP,wz,List.range_add,gA]
   congr 1
   · apply ym
     intro k
     rw[jC]
     by_cases hk:k<z.size
     · rw[Fe hk,lI,pF hk,getElem!_pos z k hk]
       simp[hk]
     · rw[Bh (by simpa using hk),Bh (by simpa using hk)];rfl
   · rw[jA]
     apply wA
     intro k _
     simp
theorem Bq {α:Type} (d:Kd α) (g:GH) (z:Array Value) (hz:z.toList=d.zc) (q:Nat):Reads d g (List.replicate q d.zv) (Builtin.zeroCells z q).toList:=by
  rw[Mh,hz]
  induction q with
  |zero=>rfl
  |succ q ih=>rw[wv,wv,cm];exact⟨d.zc,_,rfl,d.zK g,ih⟩
theorem Op.append {α:Type} {dst:Nat} {x y:Operand} {t t' E:TypeId} {cK:Nat} {d:Kd α} {v:Value} {xs ys:List α} {c:az} {m:Nat} {news:List Value} {g1:GH}
    (ho:c_ C i j e=some (some dst,.call {callee:=.builtin .append,args:=#[x,y],argTypes:=#[t,t']})) (hI:kr C.P t=some (E,d.sz,cK)) (ht':uz C.P t'=true) (hz:((C.P.info? E).bind (·.zero)).map (·.cells.toList)=some d.zc)
    (hx:e.ev x=v) (hv:aH E d g1 v xs c) (s:St h0 g0 S0 g L h) (k:Nat) (hk:L[k]?=some c)
    (hy:cT C.P h d.sz (e.ev y) m news) (hys:Reads d g1 ys news) (hm:ys.length=m) (hlen:(xs.length+ys.length)*cK≤140737488355328)
    (hM:∀p∈c,p.1<r.size→M p.1)
    (K:∀u c' h',aH E d g1 u (xs++ys) c'→St h0 g0 S0 g (L.set k c') h'→(u=.slice none 0 0→xs++ys=[])→Op C ds i r M Ls ((dst,u)::e) h'):Op C ds i r M ((j,false)::Ls) e h:=by
  obtain⟨o',h1,h2,h3⟩:=gm ho
  obtain⟨a7,z,I⟩:=qy hI
  subst hm
  have ab:z.cells.toList=d.zc:=by simpa[I.info,I.zero] using hz
  have a8:xs.length+ys.length≤140737488355328:=by
    have:(xs.length+ys.length)*1≤(xs.length+ys.length)*cK:=uy _ I.Bm
    omega
  have O:=s.sO k hk
  have U:=wo k L c
  refine Op.run h1 (R:=fun ad h'=>∃u c',ad=.value u∧aH E d g1 u (xs++ys) c'∧St h0 g0 S0 g (L.set k c') h'∧(u=.slice none 0 0→xs++ys=[])∧(dB r M h→dB r M h')) ?_ ?_
  · intro w is
    have hh:=is.heap
    have grow:∀(ao:Option Addr) (cap:Nat) (nr:List Value),v=.slice ao xs.length cap→cT C.P h d.sz v xs.length nr→Reads d g1 xs nr→cap<xs.length+ys.length→
        ∃x w',(eN e o').run C.P w=.ok x w'∧Is C.B w'.heap w'∧∃u c',x=.value u∧aH E d g1 u (xs++ys) c'∧St h0 g0 S0 g (L.set k c') w'.heap∧(u=.slice none 0 0→xs++ys=[])∧(dB r M h→dB r M w'.heap):=by
      intro ao cap nr ev ho hro hg
      have hrun:=Mg (P:=C.P) (w:=w) (ty:=o'.type) I ht' (ao:=ao) (n:=xs.length) (cap:=cap) (m:=ys.length) (x:=e.ev y) (nr:=nr) (news:=news)
        (by rw[hh,←ev];exact ho) (by rw[hh];exact hy) hg hlen
      have G:=pH (P:=C.P) (w:=w) (e:=e) (v:=.slice (some ⟨w.heap.size,0,none⟩) (xs.length+ys.length) (grownCap w (xs.length+ys.length) cap E)) h3 (.inl rfl) (by
        simp only[pG,eS,kQ,hx,ev]
        exact hrun)
      refine⟨_,_,G,⟨rfl,is.os,is.tape,is.output⟩,_,[(w.heap.size,_)],rfl,.inr ⟨w.heap.size,0,grownCap w (xs.length+ys.length) cap E,((nr++news).toArray++Builtin.zeroCells z.cells (grownCap w (xs.length+ys.length) cap E-(xs.length+ys.length))),List.replicate (grownCap w (xs.length+ys.length) cap E-(xs.length+ys.length)) d.zv,?_,rfl,?_,?_,?_,?_⟩,?_,?_,?_⟩
      · rw[b_]
      · have ae:=wB w (xs.length+ys.length) cap E
        rw[b_,oH];omega
      · exact Bp w _ _ _ (by unfold maxLen;omega)
      · have h1:=wB w (xs.length+ys.length) cap E
        simp only[Bi,vX,b_,hro.len,hys.len,Bo,I.cells]
        rw[qw,←nk,←nk,Ff h1]
        exact gF _
      · have ae:=wB w (xs.length+ys.length) cap E
        have J:(xs++ys++List.replicate (grownCap w (xs.length+ys.length) cap E-(xs.length+ys.length)) d.zv).length=grownCap w (xs.length+ys.length) cap E:=by simp;omega
        have:=wC (pre:=[]) (post:=[]) (o:=0) ((hro.append hys).append (Bq d g1 z.cells ab (grownCap w (xs.length+ys.length) cap E-(xs.length+ys.length)))) rfl ((nr++news).toArray++Builtin.zeroCells z.cells (grownCap w (xs.length+ys.length) cap E-(xs.length+ys.length))) (by simp[Bj])
        rwa[J] at this
      · refine St.pq (U _ hk) ?_
        have s1:=O.drop.alloc (.cells ((nr++news).toArray++Builtin.zeroCells z.cells (grownCap w (xs.length+ys.length) cap E-(xs.length+ys.length))) E (0,0))
        rw[←hh] at s1
        exact s1
      · intro hc;simp at hc
      · intro D;rw[←hh] at D;exact dB.push _ D
    rcases hv with ⟨ao,rfl,rfl,rfl⟩|⟨b,o,cap,cur,rest,rfl,rfl,am,ar,aw,V⟩
    · by_cases a0:ys.length=0
      · have hn:ys=[]:=kU a0
        subst hn
        have G:=pH (P:=C.P) (w:=w) (w':=w) (e:=e) (v:=.slice ao 0 0) h3 (.inl rfl) (by
          simp only[pG,eS,kQ,hx]
          obtain⟨a1,hd,a3⟩:=Bn ht'
          have hl:=hy.len w hh
          have hcs:=hy.cells w hh 0 (gF _)
          simp only[Builtin.append_,sizeOf,typeInfo]
          simp only[qx,List.getElem?_cons_zero,List.getElem?_cons_succ,Sem.run_bind,run_program,Result.andThen_ok,run_underlying I.under,run_underlying hd,I.info,Sem.run_pure,I.size]
          cases a1<;>first|exact absurd rfl (a3 _)|(simp[hl];simp at hcs;cases ao<;>simp[hcs,storeCells]))
        refine⟨_,_,G,is.again,.slice ao 0 0,[],rfl,.inl ⟨ao,rfl,by simp,rfl⟩,?_,fun _=>by simp,fun D=>by rw[hh];exact D⟩
        rw[hh]
        exact St.pq (U _ hk) O
      · refine grow ao 0 [] rfl ⟨fun w _=>rfl,fun w _ k hk=>?_,by simp,by simp⟩ rfl (by simp;omega)
        obtain rfl:k=0:=by simpa using hk
        cases ao<;>simp[Builtin.firstCells,loadCells,loadCellsFrom]
    · have hc1:xs.length≤cap:=by omega
      have X:=yl am V
      have hb:w.heap[b]?=some (.cells cur E (0,0)):=by rw[hh];exact s.ag k hk
      by_cases hroom:xs.length+ys.length≤cap
      · have hrun:=Mf (P:=C.P) (w:=w) (ty:=o'.type) I ht' (o:=o) (n:=xs.length) (cap:=cap) (m:=ys.length) (x:=e.ev y) (news:=news) (by rw[hh];exact hy) hb hroom aw
        have G:=pH (P:=C.P) (w:=w) (e:=e) h3 (.inl rfl) (by
          simp only[pG,eS,kQ,hx]
          exact hrun)
        have a9:o+xs.length*d.sz+ys.length*d.sz≤cur.size:=by
          have h2:(xs.length+ys.length)*d.sz≤cap*d.sz:=iB _ hroom
          rw[nk] at h2
          omega
        have Y:cur.toList.length=cur.size:=q6
        refine⟨_,_,G,⟨rfl,is.os,is.tape,is.output⟩,_,[(b,_)],rfl,.inr ⟨b,o,cap,(cur.toList.take (o+xs.length*d.sz)++news++cur.toList.drop (o+xs.length*d.sz+news.length)).toArray,rest.drop ys.length,?_,rfl,?_,ar,?_,?_⟩,?_,?_,?_⟩
        · rw[b_]
        · rw[b_,eT];omega
        · rw[vX,b_,b_,dZ,eT,hys.len,Y,jB (by omega)]
          omega
        · have Z:=(V.hU (xs.length+ys.length) (by rw[b_];omega)).2
          have a4:(xs++rest).drop (xs.length+ys.length)=rest.drop ys.length:=by
            rw[v_,mO (by omega),dS,A9]
          rw[a4] at Z
          have J:(xs++ys++rest.drop ys.length).length=cap:=by simp;omega
          have bb:(xs.length+ys.length)*d.sz≤cap*d.sz:=iB _ hroom
          have:=wC (pre:=cur.toList.take o) (post:=cur.toList.drop (o+cap*d.sz)) (o:=o) ((X.append hys).append Z) (by rw[dZ,Y];exact jB (by omega))
            ((cur.toList.take (o+xs.length*d.sz)++news++cur.toList.drop (o+xs.length*d.sz+news.length)).toArray) (by
              unfold cut
              rw[Fg,yo,hys.len]
              have e1:((cur.toList.drop o).take (cap*d.sz)).drop ((xs.length+ys.length)*d.sz)++cur.toList.drop (o+cap*d.sz)=cur.toList.drop (o+xs.length*d.sz+ys.length*d.sz):=by
                have e2:cur.toList.drop (o+cap*d.sz)=(cur.toList.drop (o+(xs.length+ys.length)*d.sz)).drop (cap*d.sz-(xs.length+ys.length)*d.sz):=by
                  rw[o7];congr 1;omega
                rw[q7,o7,e2,lJ,nk,Bk]
              simp only[cJ]
              rw[e1])
          rwa[J] at this
        · exact s.uw k hk (by have:=iC.row (cs:=(cur.toList.take (o+xs.length*d.sz)++news++cur.toList.drop (o+xs.length*d.sz+news.length)).toArray) hb;rwa[hh] at this)
        · intro hc;simp at hc
        · intro D;rw[←hh] at D;exact dB.row (hM (b,.cells cur E (0,0)) (iA.2 rfl)) D
      · obtain⟨nr,hsrc,hro⟩:=cT.slice (P:=C.P) (h:=h) (g:=g1) (E:=E) (d:=d) (v:=.slice (some ⟨b,o,none⟩) xs.length cap) (ys:=xs)
          ⟨_,cap,rfl,hc1,fun _=>⟨b,o,cur,(E,0,0),rfl,s.ag k hk,X⟩⟩
        exact grow _ cap nr rfl hsrc hro (by omega)
  · rintro _ _ ⟨u,c',rfl,hrow,hst,a5,a6⟩
    refine⟨u,rfl,a6,?_⟩
    rw[h2]
    exact K u c' _ hrow hst a5
end
def aG (P:Program) (B:World) (f:FuncId) (args:Array Value) (h:ay) (g:GH) (Lc:List az) (D:Value→GH→List az→Prop):Prop:=
  yf P B f args h fun v h'=>∃g' u,St h g (aS Lc) g' u h'∧D v g' u
def qz (C:ff) (i j:Nat) (e:Env):Option (Option Tmp×FuncId×Array Value):=
  match lG C i j e with
  |some o=>match oD C.P (eN e o) with
   |some (.enter f args)=>some (o.dst,f,args)
   |_=>none
  |none=>none
theorem Fj {C:ff} {i j:Nat} {e:Env} {d:Option Tmp} {f:FuncId} {args:Array Value} (h:qz C i j e=some (d,f,args)):
    ∃o,lG C i j e=some o∧o.dst=d∧oD C.P (eN e o)=some (.enter f args):=by
  unfold qz at h
  split at h
  · rename_i o ho
    split at h
    · rename_i f' u hp
      simp only[ey,gY] at h
      obtain⟨rfl,rfl,rfl⟩:=h
      exact⟨o,ho,rfl,hp⟩
    · cases h
  · cases h
structure eg (P:Program) (f:FuncId):Prop where
  out:∃fn,P.funcs[f]?=some fn∧(fn.name=="runtime.NumGoroutine")=false∧fn.body.isSome=true
def Fk (P:Program) (f:FuncId):Bool:=match P.funcs[f]? with
  |some fn=>!(fn.name=="runtime.NumGoroutine")&&fn.body.isSome
  |none=>false
theorem eg.of {P:Program} {f:FuncId} (h:Fk P f=true):eg P f:=by
  unfold Fk at h
  split at h
  · rename_i fn hf
    simp only[bZ,gz] at h
    exact⟨fn,hf,h.1,h.2⟩
  · cases h
section
variable {C:ff} {ds:List Deferred} {i j:Nat} {r:ay} {M:Nat→Prop} {Ls:List (Nat×Bool)} {e:Env} {h:ay}
variable {h0:ay} {g0:GH} {S0:Nat→Prop} {g:GH} {L L':List az}
theorem Op.Fl {o:Oper} {f:FuncId} {args:Array Value} {Lc:List az} {D:Value→GH→List az→Prop} (h1:lG C i j e=some o)
    (hp:∀w,(eN e o).run C.P w=.ok (.enter f args) w)
    (s:St h0 g0 S0 g (Lc++L) h) (H:aG C.P C.B f args h g Lc D) (hM:∀b,b<r.size→aS Lc b→M b)
    (K:∀v g' u h',aM g g'→St h0 g0 S0 g' (u++L) h'→D v g' u→Op C ds i r M Ls (e.fX o.dst v) h'):Op C ds i r M ((j,false)::Ls) e h:=by
  refine Op.wm h1 fun w is hk a ft=>?_
  rw[hp w]
  refine Calls.mono (H w is) fun J w' ⟨v,he,G,g',u,t,I⟩=>?_
  exact⟨v,he,⟨t.gO hM hk,G⟩,_,ft.fX (q_ h1).2.2.2.1 v,K v g' u _ t.le (s.join t) I⟩
theorem Op.call {dst:Option Tmp} {f:FuncId} {args:Array Value} {Lc:List az} {u:Value→GH→List az→Prop} (ho:qz C i j e=some (dst,f,args))
    (s:St h0 g0 S0 g (Lc++L) h) (H:aG C.P C.B f args h g Lc u) (hM:∀b,b<r.size→aS Lc b→M b)
    (K:∀v g' D h',aM g g'→St h0 g0 S0 g' (D++L) h'→u v g' D→Op C ds i r M Ls (e.fX dst v) h'):Op C ds i r M ((j,false)::Ls) e h:=by
  obtain⟨o,h1,rfl,hp⟩:=Fj ho
  exact Op.Fl h1 (uu _ hp) s H hM K
theorem Op.Fm {dst:Option Tmp} {f:FuncId} {args:Array Value} {u:Value→GH→List az→Prop} (ho:qz C i j e=some (dst,f,args))
    (s:St h0 g0 S0 g L h) (H:aG C.P C.B f args h g [] u)
    (K:∀v g' D h',aM g g'→St h0 g0 S0 g' (D++L) h'→u v g' D→Op C ds i r M Ls (e.fX dst v) h'):Op C ds i r M ((j,false)::Ls) e h:=
  Op.call (Lc:=[]) ho s H (fun _ _ h=>absurd h (gP _)) K
theorem Op.Mi {dst:Option Tmp} {x:Operand} {ops:Array Operand} {ts:Array TypeId} {f:FuncId} {first cap:Array Value} {Lc:List az} {u:Value→GH→List az→Prop}
    (ho:c_ C i j e=some (dst,.call {callee:=.value x,args:=ops,argTypes:=ts})) (hx:e.ev x=.func (.func f) first cap) (hf:eg C.P f) {args:Array Value} (ha:first++ops.map e.ev++cap=args)
    (s:St h0 g0 S0 g (Lc++L) h) (H:aG C.P C.B f args h g Lc u) (hM:∀b,b<r.size→aS Lc b→M b)
    (K:∀v g' D h',aM g g'→St h0 g0 S0 g' (D++L) h'→u v g' D→Op C ds i r M Ls (e.fX dst v) h'):Op C ds i r M ((j,false)::Ls) e h:=by
  obtain⟨o,h1,rfl,h3⟩:=gm ho
  obtain⟨fn,hfn,hname,G⟩:=hf.out
  refine Op.Fl h1 (fun w=>?_) s H hM K
  unfold eN execOp
  have hb:fn.body.isNone=false:=by cases hb:fn.body<;>simp_all
  simp only[h3,resolve,hx,Deferred.ofValue,Sem.run_bind,Sem.run_pure,Result.andThen_ok,invoke,callFunc,run_program,hfn,hname,hb,fW,dI,ha]
def valOf (C:ff) (i j:Nat) (e:Env):Option (Option Tmp×Value):=
  match lG C i j e with
  |some o=>match oD C.P (eN e o) with
   |some (.value v)=>some (o.dst,v)
   |_=>none
  |none=>none
theorem Op.val {dst:Option Tmp} {v D:Value} {b:Bool} (ho:valOf C i j e=some (dst,v)) (hv:v=D) (K:Op C ds i r M Ls (e.fX dst D) h):Op C ds i r M ((j,b)::Ls) e h:=by
  unfold valOf at ho
  split at ho
  · rename_i o h1
    split at ho
    · rename_i u hp
      simp only[ey,gY] at ho
      obtain⟨rfl,rfl⟩:=ho
      subst hv
      exact Op.Bb h1 (fun w=>uu _ hp w) K
    · cases ho
  · cases ho
theorem Op.free {dst:Nat} {op:Go.Op} {v:Value} {b:Bool} (ho:c_ C i j e=some (some dst,op)) (H:∀o:Oper,o.op=op→∀w,(execOp e.ev o).run C.P w=.ok (.value v) w)
    (K:Op C ds i r M Ls ((dst,v)::e) h):Op C ds i r M ((j,b)::Ls) e h:=by
  obtain⟨o,h1,h2,h3⟩:=gm ho
  exact Op.Bb h1 (v:=v) (fun w=>H o h3 w) (by rw[h2];exact K)
theorem uA {w:World} {P:Program} {k:IntKind} {n:Int} {y:Nat} {code:BoundsCode} (h0:0≤n) (h1:n≤y):(Instr.sliceBound (.int k n) y code).run P w=.ok n.toNat w:=by
  simp only[Instr.sliceBound,asIntOf,Sem.run_bind,Sem.run_pure,Result.andThen_ok,h0,h1,and_self,gX]
theorem Op.Mj {dst:Nat} {T:TypeId} {x lo:Operand} {l:aj} {k:IntKind} {n:Int} {b:Bool} (ho:c_ C i j e=some (some dst,.slice T x (some lo) none none)) (hT:C.P.underlying T=some .string)
    (hx:e.ev x=.string (br l)) (hlo:e.ev lo=.int k n) (h0:0≤n) (h1:n≤l.length)
    (K:Op C ds i r M Ls ((dst,.string (br (l.drop n.toNat)))::e) h):Op C ds i r M ((j,b)::Ls) e h:=by
  refine Op.free ho (fun o ho w=>?_) K
  simp only[execOp,ho,lI,Option.map_none,Instr.sliceAt,Instr.slice,hx,hlo,Sem.run_bind,Sem.run_pure,Result.andThen_ok,run_underlying hT,Instr.sliceBounds,Option.isSome_none,fW,dI,pE,uA h0 h1,Fc,wq]
theorem Op.Mk {dst:Nat} {T:TypeId} {x hi:Operand} {l:aj} {k:IntKind} {n:Int} {b:Bool} (ho:c_ C i j e=some (some dst,.slice T x none (some hi) none)) (hT:C.P.underlying T=some .string)
    (hx:e.ev x=.string (br l)) (hhi:e.ev hi=.int k n) (h0:0≤n) (h1:n≤l.length)
    (K:Op C ds i r M Ls ((dst,.string (br (l.take n.toNat)))::e) h):Op C ds i r M ((j,b)::Ls) e h:=by
  refine Op.free ho (fun o ho w=>?_) K
  simp only[execOp,ho,lI,Option.map_none,Instr.sliceAt,Instr.slice,hx,hhi,Sem.run_bind,Sem.run_pure,Result.andThen_ok,run_underlying hT,Instr.sliceBounds,Option.isSome_none,fW,dI,pE,uA h0 h1,Fc,wu]
theorem Op.Ml {dst:Nat} {T T':TypeId} {x y:Operand} {l m:aj} {b:Bool} (ho:c_ C i j e=some (some dst,.binOp .add T x y T'))
    (hx:e.ev x=.string (br l)) (hy:e.ev y=.string (br m)) (hl:l.length+m.length≤9223372036854775807)
    (K:Op C ds i r M Ls ((dst,.string (br (l++m)))::e) h):Op C ds i r M ((j,b)::Ls) e h:=by
  refine Op.free ho (fun o ho w=>?_) K
  have h1:¬(((br l).size+(br m).size:Nat):Int)>IntKind.i64.max:=by rw[pE,pE];show ¬_>(9223372036854775807:Int);omega
  simp only[execOp,ho,hx,hy,eqGuard,Sem.run_bind,Sem.run_pure]
  simp only[binOp,Op.stringOp,h1,dI,Sem.run_pure,Ma,rj,gX,Result.andThen_ok]
theorem Op.fJ {dst:Nat} {T E:TypeId} {sz cK:Nat} {x ix:Operand} {u o n c:Nat} {k:IntKind} {m:Int} {b:Bool} (ho:c_ C i j e=some (some dst,.indexAddr T x ix)) (hE:kr C.P T=some (E,sz,cK))
    (hx:e.ev x=.slice (some ⟨u,o,none⟩) n c) (D:e.ev ix=.int k m) (h0:0≤m) (h1:m<n)
    (K:Op C ds i r M Ls ((dst,.pointer (some ⟨u,o+m.toNat*sz,none⟩))::e) h):Op C ds i r M ((j,b)::Ls) e h:=by
  obtain⟨G,z,I⟩:=qy hE
  refine Op.free ho (fun o' ho w=>?_) K
  have hi:=I.info
  simp only[execOp,ho,Instr.indexAt,hx,D,asIntOf,Sem.run_bind,Sem.run_pure,Result.andThen_ok,run_underlying I.under,h0,h1,and_self,gX,sizeOf,typeInfo,run_program,hi,I.size,kS]
def d_ (ao:Option Addr) (l m sz:Nat):Option Addr:=if m=l then ao else ao.map (·.add (l*sz))
theorem Op.Fo {dst:Nat} {T E:TypeId} {sz cK:Nat} {x lo:Operand} {ao:Option Addr} {n c:Nat} {k:IntKind} {m:Int} {b:Bool} (ho:c_ C i j e=some (some dst,.slice T x (some lo) none none)) (hE:kr C.P T=some (E,sz,cK))
    (hx:e.ev x=.slice ao n c) (hlo:e.ev lo=.int k m) (h0:0≤m) (h1:m≤n)
    (K:Op C ds i r M Ls ((dst,.slice (d_ ao m.toNat c sz) (n-m.toNat) (c-m.toNat))::e) h):Op C ds i r M ((j,b)::Ls) e h:=by
  obtain⟨u,z,I⟩:=qy hE
  refine Op.free ho (fun o' ho w=>?_) K
  have hi:=I.info
  simp only[execOp,ho,lI,Option.map_none,Instr.sliceAt,Instr.slice,hx,hlo,Sem.run_bind,Sem.run_pure,Result.andThen_ok,run_underlying I.under,Instr.sliceBounds,Option.isSome_none,fW,dI,uA h0 h1,sizeOf,typeInfo,run_program,hi,I.size,d_]
theorem Op.yp {dst:Nat} {T E:TypeId} {sz cK:Nat} {x hi:Operand} {ao:Option Addr} {n c:Nat} {k:IntKind} {m:Int} {b:Bool} (ho:c_ C i j e=some (some dst,.slice T x none (some hi) none)) (hE:kr C.P T=some (E,sz,cK))
    (hx:e.ev x=.slice ao n c) (hhi:e.ev hi=.int k m) (h0:0≤m) (h1:m≤c)
    (K:Op C ds i r M Ls ((dst,.slice (d_ ao 0 c sz) m.toNat c)::e) h):Op C ds i r M ((j,b)::Ls) e h:=by
  obtain⟨u,z,I⟩:=qy hE
  refine Op.free ho (fun o' ho w=>?_) K
  have hi:=I.info
  simp only[execOp,ho,lI,Option.map_none,Instr.sliceAt,Instr.slice,hx,hhi,Sem.run_bind,Sem.run_pure,Result.andThen_ok,run_underlying I.under,Instr.sliceBounds,Option.isSome_none,fW,dI,uA h0 h1,sizeOf,typeInfo,run_program,hi,I.size,d_,Nat.sub_zero]
theorem Op.Mm {dst:Nat} {T E:TypeId} {sz cK:Nat} {x lo hi:Operand} {ao:Option Addr} {n c:Nat} {k k':IntKind} {m m':Int} {b:Bool} (ho:c_ C i j e=some (some dst,.slice T x (some lo) (some hi) none)) (hE:kr C.P T=some (E,sz,cK))
    (hx:e.ev x=.slice ao n c) (hlo:e.ev lo=.int k m) (hhi:e.ev hi=.int k' m') (h0:0≤m) (h1:m≤m') (h2:m'≤c)
    (K:Op C ds i r M Ls ((dst,.slice (d_ ao m.toNat c sz) (m'.toNat-m.toNat) (c-m.toNat))::e) h):Op C ds i r M ((j,b)::Ls) e h:=by
  obtain⟨u,z,I⟩:=qy hE
  refine Op.free ho (fun o' ho w=>?_) K
  have hi:=I.info
  have h3:0≤m':=by omega
  have h4:m≤(m'.toNat:Int):=by omega
  simp only[execOp,ho,lI,Option.map_none,Instr.sliceAt,Instr.slice,hx,hlo,hhi,Sem.run_bind,Sem.run_pure,Result.andThen_ok,run_underlying I.under,Instr.sliceBounds,Option.isSome_none,fW,dI,uA h3 h2,uA h0 h4,sizeOf,typeInfo,run_program,hi,I.size,d_]
def Fp (z:Array Value) (n:Nat):Array Value:=(Array.range n).map (z[· % z.size]!)
def Br (P:Program) (T:TypeId) (len:Nat) (hU:List (Nat×Value)):Option (TypeId×Array Value):=
  match P.underlying T with
  |some (.slice E)=>match P.info? E with
   |some i=>match i.zero with
    |some z=>if Nat.ble (len*i.size) 1000 then (Instr.fill (fun k=>some (k*i.size,i.size)) (if len*i.size=0 then #[] else Fp z.cells (len*i.size)) hU).map fun c=>(E,c) else none
    |none=>none
   |none=>none
  |_=>none
theorem Op.lit {dst:Nat} {T E:TypeId} {len:Nat} {hU:Array (Nat×Operand)} {cs:Array Value} (ho:c_ C i j e=some (some dst,.buildSlice T len hU))
    {ps:List (Nat×Value)} (hps:(hU.map fun(k,x)=>(k,e.ev x)).toList=ps) (hc:Br C.P T len ps=some (E,cs)) (s:St h0 g0 S0 g L h)
    (K:∀b h',St h0 g0 S0 g ([(b,.cells cs E (0,0))]::L) h'→Op C ds i r M Ls ((dst,.slice (some ⟨b,0,none⟩) len len)::e) h'):Op C ds i r M ((j,false)::Ls) e h:=by
  obtain⟨o,h1,h2,h3⟩:=gm ho
  refine Op.run h1 (R:=fun G h'=>G=.value (.slice (some ⟨h.size,0,none⟩) len len)∧h'=h.push (.cells cs E (0,0))) ?_ ?_
  · intro w is
    refine⟨.value (.slice (some ⟨h.size,0,none⟩) len len),{w with heap:=w.heap.push (.cells cs E (0,0))},?_,⟨rfl,is.os,is.tape,is.output⟩,rfl,by rw[←is.heap]⟩
    unfold Br at hc
    split at hc
    · rename_i J hu
      split at hc
      · rename_i u hi
        split at hc
        · rename_i z hz
          split at hc
          · rename_i hle
            obtain⟨cs',hf,he⟩:=q5.1 hc
            simp only[gY] at he
            obtain⟨rfl,rfl⟩:=he
            have hle:¬len*u.size>2 ^ 24:=by have:=jz hle;omega
            have D:List.map (fun x=>(x.fst,e.ev x.snd)) hU.toList=ps:=by rw[←hps];simp
            unfold eN execOp
            by_cases h0:len*u.size=0
            · simp only[h0,gX] at hf
              have I:(Array.range 0).map (fun _=>(default:Value))=#[]:=by simp
              simp[h3,Instr.buildSlice,run_underlying hu,sizeOf,typeInfo,hi,h0,D,I,hf,newRow,is.heap]
            · simp only[h0,dI] at hf
              unfold Fp at hf
              simp only[gt_iff_lt] at hle
              simp[h3,Instr.buildSlice,run_underlying hu,sizeOf,typeInfo,hi,hle,h0,hz,zeroValue,D,hf,newRow,is.heap]
          · cases hc
        · cases hc
      · cases hc
    · cases hc
  · rintro _ _ ⟨rfl,rfl⟩
    refine⟨_,rfl,dB.push _,?_⟩
    rw[h2]
    exact K _ _ (s.alloc _)
theorem cT.lit {P:Program} {h:ay} {b sz m:Nat} {cs:Array Value} {u:TypeId} {fz:Nat×Nat} (hb:h[b]?=some (.cells cs u fz)) {news:List Value} (hn:cs.toList=news) (hm:news.length=m*sz) (h1:∀v∈news,v.oneCell'=true) (c:Nat):
    cT P h sz (.slice (some ⟨b,0,none⟩) m c) m news:=by
  refine⟨fun _ _=>rfl,fun w hw k hk=>?_,hm,h1⟩
  have hl:(news.take (k*sz)).length=k*sz:=by rw[dZ,hm,jB (iB _ hk)]
  have:=Bc (P:=P) (w:=w) ⟨b,0,none⟩ (news.take (k*sz)) 0 #[] (fun j v hj=>by
    rw[qw,kS,cell_of hw,oG hb,qw]
    subst hn
    rw[sK] at hj
    split at hj
    · simpa using hj
    · cases hj)
  rw[hl] at this
  simpa[Builtin.firstCells,loadCells] using this
theorem Op.alloc {dst:Nat} {T:TypeId} {cs:Array Value} (ho:c_ C i j e=some (some dst,.alloc T)) (hz:(C.P.info? T).bind (fun t=>t.zero.map Value.cells)=some cs) (s:St h0 g0 S0 g L h)
    (K:∀b h',St h0 g0 S0 g ([(b,.cells cs T (0,0))]::L) h'→Op C ds i r M Ls ((dst,.pointer (some ⟨b,0,none⟩))::e) h'):Op C ds i r M ((j,false)::Ls) e h:=by
  obtain⟨o,h1,h2,h3⟩:=gm ho
  obtain⟨I,hi,hz⟩:=Fh.1 hz
  obtain⟨z,u,rfl⟩:=q5.1 hz
  refine Op.run h1 (R:=fun D h'=>D=.value (.pointer (some ⟨h.size,0,none⟩))∧h'=h.push (.cells z.cells T (0,0))) ?_ ?_
  · intro w is
    refine⟨.value (.pointer (some ⟨h.size,0,none⟩)),{w with heap:=w.heap.push (.cells z.cells T (0,0))},?_,⟨rfl,is.os,is.tape,is.output⟩,rfl,by rw[←is.heap]⟩
    unfold eN execOp
    have G:(zeroValue T).run C.P w=.ok z w:=by
      simp only[zeroValue,typeInfo,Sem.run_bind,run_program,Result.andThen_ok,hi,Sem.run_pure]
      rw[u]
      rfl
    simp only[h3,Instr.alloc,Sem.run_bind,G,newVar,newRow,run_newObj,Result.andThen_ok,Sem.run_pure,is.heap]
  · rintro _ _ ⟨rfl,rfl⟩
    refine⟨_,rfl,dB.push _,?_⟩
    rw[h2]
    exact K _ _ (s.alloc _)
def splice (cs:Array Value) (o:Nat) (vs:List Value):Array Value:=(cs.toList.take o++vs++cs.toList.drop (o+vs.length)).toArray
theorem Op.store {T:TypeId} {x y:Operand} {b o n:Nat} {a?:Bool} {vs:List Value} (ho:c_ C i j e=some (none,.store T x y)) (hx:e.ev x=.pointer (some ⟨b,o,none⟩)) (hy:(e.ev y).cells.toList=vs)
    (hT:kq C.P T=some (a?,n)) (hn:vs.length=n) (h1:∀v∈vs,v.oneCell'=true) {cs cs':Array Value} {D:TypeId} (s:St h0 g0 S0 g L h) (k:Nat) (hk:L[k]?=some [(b,.cells cs D (0,0))])
    (O:o+n≤cs.size) (hcs:splice cs o vs=cs') (hM:b<r.size→M b)
    (K:∀h',St h0 g0 S0 g (L.set k [(b,.cells cs' D (0,0))]) h'→Op C ds i r M Ls e h'):Op C ds i r M ((j,false)::Ls) e h:=by
  obtain⟨o',I,h2,h3⟩:=gm ho
  subst hcs
  have hsz:∃G,C.P.info? T=some G∧G.size=n:=by
    unfold kq at hT
    split at hT
    · rename_i d G hd hi
      simp only[ey,gY] at hT
      exact⟨G,hi,hT.2⟩
    · cases hT
  obtain⟨G,hi,hs⟩:=hsz
  refine Op.skip I (R:=fun J h'=>J=.skip∧iC h b (.cells (splice cs o vs) D (0,0)) h') ?_ ?_
  · intro w is
    have hb:w.heap[b]?=some (.cells cs D (0,0)):=by rw[is.heap];exact s.ag k hk
    have hst:=run_storeCells_at C.P b o D vs 0 cs w hb (by omega) h1
    simp only[nq] at hst
    refine⟨_,w.setRow b (splice cs o vs),?_,⟨rfl,is.os,is.tape,is.output⟩,rfl,?_⟩
    · have hc:(e.ev y).cells.size=n:=by rw[←hn,←hy,q6]
      unfold eN execOp
      simp only[h3,hx,Instr.storeAt,Instr.sureAddr,storeVar,sizeOf,typeInfo,Sem.run_bind,Sem.run_pure,Result.andThen_ok,run_program,hi,hs,hc,ne_eq,mQ,dI,hy,hst]
      rfl
    · have:=iC.row (cs:=splice cs o vs) hb
      rwa[is.heap] at this
  · rintro _ h' ⟨rfl,u⟩
    refine⟨rfl,u.gO hM,?_⟩
    rw[h2]
    exact K h' (s.uw k hk u)
end
end Go.Proofs.YtdinkjbfgcfccaaGreatDoor.Sw
