/- Lemmas for laws of this seat. -/
import Derived.Test.YtpacclkciilmpaaGreatDoorGBB
import Derived.Laws.CopyRow
import Derived.Laws.Append
set_option maxHeartbeats 4000000
namespace Go.Proofs.YtpacclkciilmpaaGreatDoor.Sw
set_option linter.unusedVariables false
set_option linter.unusedSimpArgs false
set_option linter.deprecated false
open Go
set_option linter.defProp false
def dD:=@List.length_take
def qu:=@Nat.zero_add
def uw:=@List.take_length
def nH:=@Nat.add_mul
def m_:=@Nat.add_zero
def qv:=@List.getElem?_toArray
def qw:=@Bool.not_false
def sS:=@Nat.mul_le_mul_left
def Bc:=@Nat.sub_self
def ux:=@List.drop_zero
def wu:=@List.replicate_succ
def wv:=@Nat.add_comm
def yE:=@List.ext_getElem?
def jM:=@List.getElem?_map
def E5:=@List.getElem?_range
def j3:=@Option.map_some
def sU:=@Nat.mod_eq_of_lt
def Bd:=@List.getElem?_eq_none
def uy:=@List.map_congr_left
def pE:=@List.map_toArray
def oz:=@List.length_replicate
def Be:=@Array.size_append
def E6:=@Nat.add_sub_cancel'
def Bf:=@Array.toList_append
def lg:=@List.eq_nil_of_length_eq_zero
def gx:=@List.length_drop
def E7:=@List.toList_toArray
def wz:=@List.take_add
def mJ:=@List.take_append_drop
def yF:=@Nat.add_assoc
def E8:=@Option.bind_eq_some_iff
def jN:=@not_true_eq_false
def kD (P:Program) (T:TypeId):Option (TypeId×Nat×Nat):=
  match P.underlying T with
  |some (.slice E)=>match P.info? E with
   |some i=>match i.zero with
    |some z=>if Nat.beq z.cells.size i.size&&(Nat.blt 0 i.size&&Nat.blt 0 i.bytes) then some (E,i.size,i.bytes) else none
    |none=>none
   |none=>none
  |_=>none
structure Bg (P:Program) (T E:TypeId) (sz cR:Nat) (i:TypeInfo) (z:Value):Prop where
  under:P.underlying T=some (.slice E)
  info:P.info? E=some i
  zero:i.zero=some z
  cells:z.cells.size=sz
  size:i.size=sz
  bytes:i.bytes=cR
  pos:0<sz
  Bh:0<cR
theorem qx {P:Program} {T E:TypeId} {sz cR:Nat} (h:kD P T=some (E,sz,cR)):∃i z,Bg P T E sz cR i z:=by
  unfold kD at h
  split at h
  · rename_i u hu
    split at h
    · rename_i i hi
      split at h
      · rename_i z hz
        split at h
        · rename_i hc
          simp only[bO] at hc
          simp only[eN,iB] at h
          obtain⟨rfl,rfl,rfl⟩:=h
          exact⟨i,z,hu,hi,hz,qi hc.1,rfl,rfl,jb hc.2.1,jb hc.2.2⟩
        · cases h
      · cases h
    · cases h
  · cases h
def uz (P:Program) (t:TypeId):Bool:=match P.underlying t with
  |some (.int _)=>false
  |some _=>true
  |none=>false
theorem Bi {P:Program} {t:TypeId} (h:uz P t=true):∃d,P.underlying t=some d∧∀k,d≠.int k:=by
  unfold uz at h
  split at h
  · cases h
  · rename_i d hd hne;exact⟨d,hne,hd⟩
  · cases h
structure di (P:Program) (h:av) (sz:Nat) (x:Value) (m:Nat) (news:List Value):Prop where
  len:∀w,w.heap=h→(Builtin.lenOf x).run P w=.ok m w
  cells:∀w,w.heap=h→∀k,k≤m→(Builtin.firstCells sz k x).run P w=.ok (news.take (k*sz)).toArray w
  size:news.length=m*sz
  one:∀v∈news,v.oneCell'=true
theorem di.slice {α:Type} {P:Program} {h:av} {g:GH} {E:TypeId} {d:Kd α} {v:Value} {ys:List α} (hs:ig h g E d v ys):∃news,di P h d.sz v ys.length news∧Reads d g ys news:=by
  obtain⟨ao,c,rfl,hc,H⟩:=hs
  by_cases hy:ys=[]
  · subst hy
    refine⟨[],⟨fun w _=>rfl,fun w _ k hk=>?_,by simp,by simp⟩,rfl⟩
    obtain rfl:k=0:=by simpa using hk
    cases ao with
    |none=>simp[Builtin.firstCells]
    |some a=>simp[Builtin.firstCells,loadCells,loadCellsFrom]
  · obtain⟨b,o,cur,fz,rfl,hb,hr⟩:=H hy
    refine⟨_,⟨fun w _=>rfl,fun w hw k hk=>?_,hr.len,hr.one⟩,hr⟩
    have u:((cut cur o (ys.length*d.sz)).take (k*d.sz)).length=k*d.sz:=by
      have:=hr.len
      rw[dD,this,jB (iC _ hk)]
    have:=A9 (P:=P) (w:=w) ⟨b,o,none⟩ ((cut cur o (ys.length*d.sz)).take (k*d.sz)) 0 #[] (fun j v hj=>by
      rw[qu,k_,cell_of hw,oy hb]
      unfold cut at hj
      rw[qo,o7] at hj
      split at hj
      · simpa using hj
      · cases hj)
    rw[u] at this
    simpa[Builtin.firstCells,loadCells] using this
theorem E9 (g:GH):∀(l:aj),Reads bn g l (l.map fun b=>.int .u8 b.toNat)
  |[]=>rfl
  |b::l=>⟨[.int .u8 b.toNat],_,rfl,rfl,E9 g l⟩
theorem Bj (z:Array Value) (n:Nat):(Builtin.zeroCells z n).size=n*z.size:=by simp[Builtin.zeroCells]
theorem wA (w:World) (u old:Nat) (e:TypeId):u≤grownCap w u old e:=by simp[grownCap,Question.cut]
theorem Bk (w:World) (u old:Nat) (e:TypeId) (h:u≤maxLen):grownCap w u old e≤maxLen:=by
  have hlt:=uj (w.tape w.drawn (.appendCap u old e)) (show 0<2 ^ 63-u by simp only[maxLen] at h;omega)
  simp only[grownCap,Question.cut,maxLen] at h ⊢
  omega
section
variable {P:Program} {w:World} {t t' ty E:TypeId} {sz cR:Nat} {i:TypeInfo} {z:Value}
theorem MA (I:Bg P t E sz cR i z) (ht':uz P t'=true) {b o n cap m:Nat} {x:Value} {news:List Value} (hx:di P w.heap sz x m news)
    {cur:Array Value} {u:TypeId} (hb:w.heap[b]?=some (.cells cur u (0,0))) (hroom:n+m≤cap) (G:o+cap*sz≤cur.size):
    (Builtin.append_ #[t,t'] ty #[.slice (some ⟨b,o,none⟩) n cap,x]).run P w=
      .ok (.slice (some ⟨b,o,none⟩) (n+m) cap) (w.setRow b (cur.toList.take (o+n*sz)++news++cur.toList.drop (o+n*sz+news.length)).toArray):=by
  obtain⟨d,hd,D⟩:=Bi ht'
  have hc:=hx.cells w rfl m (iO _)
  rw[←hx.size,uw] at hc
  have h2:(n+m)*sz≤cap*sz:=iC _ hroom
  rw[nH] at h2
  have hst:=run_storeCells_at P b (o+n*sz) u news 0 cur w hb (by rw[hx.size];omega) hx.one
  simp only[m_] at hst
  have hl:=hx.len w rfl
  simp only[Builtin.append_,sizeOf,typeInfo]
  simp only[qv,List.getElem?_cons_zero,List.getElem?_cons_succ,Sem.run_bind,run_program,Result.andThen_ok,run_underlying I.under,run_underlying hd,I.info,Sem.run_pure,I.size]
  cases d<;>first|exact absurd rfl (D _)|(simp only[fZ,de,hl,Result.andThen_ok,hroom,iA,Sem.run_bind,qw,hc,k_,hst,Sem.run_pure])
theorem MB (I:Bg P t E sz cR i z) (ht':uz P t'=true) {ao:Option Addr} {n cap m:Nat} {x:Value} {nc news:List Value} (ho:di P w.heap sz (.slice ao n cap) n nc) (hx:di P w.heap sz x m news)
    (hg:cap<n+m) (D:(n+m)*cR≤140737488355328):
    (Builtin.append_ #[t,t'] ty #[.slice ao n cap,x]).run P w=
      .ok (.slice (some ⟨w.heap.size,0,none⟩) (n+m) (grownCap w (n+m) cap E)) (w.drew.alloc (.cells ((nc++news).toArray++Builtin.zeroCells z.cells (grownCap w (n+m) cap E-(n+m))) E)):=by
  obtain⟨d,hd,G⟩:=Bi ht'
  have hc:=hx.cells w.drew rfl m (iO _)
  rw[←hx.size,uw] at hc
  have u:=ho.cells w.drew rfl n (iO _)
  rw[←ho.size,uw] at u
  have J:=growslice_fits (old:=cap) hg D
  have hl:=hx.len w rfl
  have hno:¬(n+m≤cap):=by omega
  have hlim:¬(281474976710656<Builtin.nextslicecap (n+m) cap*i.bytes):=by rw[I.bytes];omega
  have hsmall:¬(9223372036854775807<(n:Int)+(m:Int)):=by
    have:(n+m)*1≤(n+m)*cR:=sS _ I.Bh
    omega
  have hi:=I.info
  have hz:=I.zero
  simp only[Builtin.append_,sizeOf,typeInfo,zeroValue]
  simp only[qv,List.getElem?_cons_zero,List.getElem?_cons_succ,Sem.run_bind,run_program,Result.andThen_ok,run_underlying I.under,run_underlying hd,hi,Sem.run_pure,I.size]
  cases d<;>first|exact absurd rfl (G _)|(simp[hl,hno,hsmall,hlim,hc,u,Question.forced,newRow,grownCap,hi,hz];congr 2;apply Array.ext';simp[cI])
end
theorem dK.row {r:av} {M:Nat→Prop} {w:World} {b:Nat} {cs:Array Value} (hM:b<r.size→M b) (k:dK r M w.heap):dK r M (w.setRow b cs).heap:=
  ⟨by rw[setRow_size];exact k.size,fun x hx hm=>(setRow_other w b x cs (fun e=>hm (e▸hM (e▸hx)))).trans (k.same x hx hm)⟩
theorem iP.row {w:World} {b:Nat} {cur cs:Array Value} {u:TypeId} {fz:Nat×Nat} (hb:w.heap[b]?=some (.cells cur u fz)):iP w.heap b (.cells cs u fz) (w.setRow b cs).heap:=
  ⟨setRow_size w b cs,setRow_heap w b cur cs u fz hb,fun k hk=>setRow_other w b k cs hk⟩
section
variable {C:fC} {ds:List Deferred} {i j:Nat} {r:av} {M:Nat→Prop} {Ls:List (Nat×Bool)} {e:Env} {h:av}
variable {h0:av} {g0:GH} {S0:Nat→Prop} {g:GH} {L L':List au}
theorem pF {e:Env} {o:Oper} {b:Builtin} {args:Array Operand} {ts:Array TypeId} (h3:o.op=.call {callee:=.builtin b,args:=args,argTypes:=ts}) {w:World} {P:Program} {v:Value} {w':World}
    (hb:b=.append∨b=.copy∨b=.len∨b=.cap∨b=.clear∨b=.delete∨b=.max∨b=.min)
    (hr:(match b with
      |.append=>Builtin.append_ ts o.type (args.map e.ev)
      |.copy=>Builtin.copy_ ts o.type (args.map e.ev)
      |.len=>Builtin.len_ ts o.type (args.map e.ev)
      |.cap=>Builtin.cap_ ts o.type (args.map e.ev)
      |.clear=>Builtin.clear_ ts o.type (args.map e.ev)
      |.delete=>Builtin.delete_ ts o.type (args.map e.ev)
      |.max=>Builtin.max_ ts o.type (args.map e.ev)
      |_=>Builtin.min_ ts o.type (args.map e.ev)).run P w=.ok v w'):(fc e o).run P w=.ok (.value v) w':=by
  unfold fc execOp
  simp only[h3,resolve,Sem.run_bind,Sem.run_pure,Result.andThen_ok,invoke,builtin]
  rcases hb with rfl|rfl|rfl|rfl|rfl|rfl|rfl|rfl<;>simp_all
theorem wB {α:Type} {d:Kd α} {g:GH} {xs:List α} {cs:List Value} (hr:Reads d g xs cs) {pre post:List Value} {o:Nat} (ho:pre.length=o) (u:Array Value) (ha:u.toList=pre++cs++post):
    Reads d g xs (cut u o (xs.length*d.sz)):=by
  unfold cut
  rw[ha,cI,uq,mH (by omega),←ho,Bc,dY,ux,wg hr.len]
  exact hr
theorem MC (z:Array Value):∀q,(Builtin.zeroCells z q).toList=(List.replicate q z.toList).flatten:=by
  have h0:∀q,(Builtin.zeroCells z q).toList=(List.range (q*z.size)).map fun i=>z[i % z.size]!:=by
    intro q
    unfold Builtin.zeroCells
    rw[Array.toList_map,Array.toList_range]
  intro q
  rw[h0]
  induction q with
  |zero=>simp
  |succ q ih=>
   rw[wu,cg,←ih,kZ,wv,List.range_add,gp]
   congr 1
   · apply yE
     intro k
     rw[jM]
     by_cases hk:k<z.size
     · rw[E5 hk,j3,sU hk,getElem!_pos z k hk]
       simp[hk]
     · rw[Bd (by simpa using hk),Bd (by simpa using hk)];rfl
   · rw[jr]
     apply uy
     intro k _
     simp
theorem Bl {α:Type} (d:Kd α) (g:GH) (z:Array Value) (hz:z.toList=d.zc) (q:Nat):Reads d g (List.replicate q d.zv) (Builtin.zeroCells z q).toList:=by
  rw[MC,hz]
  induction q with
  |zero=>rfl
  |succ q ih=>rw[wu,wu,cg];exact⟨d.zc,_,rfl,d.zK g,ih⟩
theorem Op.append {α:Type} {dst:Nat} {x y:Operand} {t t' E:TypeId} {cR:Nat} {d:Kd α} {v:Value} {xs ys:List α} {c:au} {m:Nat} {news:List Value} {g1:GH}
    (ho:c7 C i j e=some (some dst,.call {callee:=.builtin .append,args:=#[x,y],argTypes:=#[t,t']})) (hI:kD C.P t=some (E,d.sz,cR)) (ht':uz C.P t'=true) (hz:((C.P.info? E).bind (·.zero)).map (·.cells.toList)=some d.zc)
    (hx:e.ev x=v) (hv:aF E d g1 v xs c) (s:St h0 g0 S0 g L h) (k:Nat) (hk:L[k]?=some c)
    (hy:di C.P h d.sz (e.ev y) m news) (hys:Reads d g1 ys news) (hm:ys.length=m) (hlen:(xs.length+ys.length)*cR≤140737488355328)
    (hM:∀p∈c,p.1<r.size→M p.1)
    (K:∀u c' h',aF E d g1 u (xs++ys) c'→St h0 g0 S0 g (L.set k c') h'→(u=.slice none 0 0→xs++ys=[])→Op C ds i r M Ls ((dst,u)::e) h'):Op C ds i r M ((j,false)::Ls) e h:=by
  obtain⟨o',h1,h2,h3⟩:=gw ho
  obtain⟨a7,z,I⟩:=qx hI
  subst hm
  have ab:z.cells.toList=d.zc:=by simpa[I.info,I.zero] using hz
  have a8:xs.length+ys.length≤140737488355328:=by
    have:(xs.length+ys.length)*1≤(xs.length+ys.length)*cR:=sS _ I.Bh
    omega
  have O:=s.sQ k hk
  have U:=wq k L c
  refine Op.run h1 (R:=fun ad h'=>∃u c',ad=.value u∧aF E d g1 u (xs++ys) c'∧St h0 g0 S0 g (L.set k c') h'∧(u=.slice none 0 0→xs++ys=[])∧(dK r M h→dK r M h')) ?_ ?_
  · intro w is
    have hh:=is.heap
    have grow:∀(ao:Option Addr) (cap:Nat) (nc:List Value),v=.slice ao xs.length cap→di C.P h d.sz v xs.length nc→Reads d g1 xs nc→cap<xs.length+ys.length→
        ∃x w',(fc e o').run C.P w=.ok x w'∧Is C.B w'.heap w'∧∃u c',x=.value u∧aF E d g1 u (xs++ys) c'∧St h0 g0 S0 g (L.set k c') w'.heap∧(u=.slice none 0 0→xs++ys=[])∧(dK r M h→dK r M w'.heap):=by
      intro ao cap nc ev ho hro hg
      have hrun:=MB (P:=C.P) (w:=w) (ty:=o'.type) I ht' (ao:=ao) (n:=xs.length) (cap:=cap) (m:=ys.length) (x:=e.ev y) (nc:=nc) (news:=news)
        (by rw[hh,←ev];exact ho) (by rw[hh];exact hy) hg hlen
      have G:=pF (P:=C.P) (w:=w) (e:=e) (v:=.slice (some ⟨w.heap.size,0,none⟩) (xs.length+ys.length) (grownCap w (xs.length+ys.length) cap E)) h3 (.inl rfl) (by
        simp only[pE,e_,l5,hx,ev]
        exact hrun)
      refine⟨_,_,G,⟨rfl,is.os,is.tape,is.output⟩,_,[(w.heap.size,_)],rfl,.inr ⟨w.heap.size,0,grownCap w (xs.length+ys.length) cap E,((nc++news).toArray++Builtin.zeroCells z.cells (grownCap w (xs.length+ys.length) cap E-(xs.length+ys.length))),List.replicate (grownCap w (xs.length+ys.length) cap E-(xs.length+ys.length)) d.zv,?_,rfl,?_,?_,?_,?_⟩,?_,?_,?_⟩
      · rw[b_]
      · have ae:=wA w (xs.length+ys.length) cap E
        rw[b_,oz];omega
      · exact Bk w _ _ _ (by unfold maxLen;omega)
      · have h1:=wA w (xs.length+ys.length) cap E
        simp only[Be,v7,b_,hro.len,hys.len,Bj,I.cells]
        rw[qu,←nH,←nH,E6 h1]
        exact iO _
      · have ae:=wA w (xs.length+ys.length) cap E
        have J:(xs++ys++List.replicate (grownCap w (xs.length+ys.length) cap E-(xs.length+ys.length)) d.zv).length=grownCap w (xs.length+ys.length) cap E:=by simp;omega
        have:=wB (pre:=[]) (post:=[]) (o:=0) ((hro.append hys).append (Bl d g1 z.cells ab (grownCap w (xs.length+ys.length) cap E-(xs.length+ys.length)))) rfl ((nc++news).toArray++Builtin.zeroCells z.cells (grownCap w (xs.length+ys.length) cap E-(xs.length+ys.length))) (by simp[Bf])
        rwa[J] at this
      · refine St.pq (U _ hk) ?_
        have s1:=O.drop.alloc (.cells ((nc++news).toArray++Builtin.zeroCells z.cells (grownCap w (xs.length+ys.length) cap E-(xs.length+ys.length))) E (0,0))
        rw[←hh] at s1
        exact s1
      · intro hc;simp at hc
      · intro D;rw[←hh] at D;exact dK.push _ D
    rcases hv with ⟨ao,rfl,rfl,rfl⟩|⟨b,o,cap,cur,rest,rfl,rfl,am,ar,aw,V⟩
    · by_cases a0:ys.length=0
      · have hn:ys=[]:=lg a0
        subst hn
        have G:=pF (P:=C.P) (w:=w) (w':=w) (e:=e) (v:=.slice ao 0 0) h3 (.inl rfl) (by
          simp only[pE,e_,l5,hx]
          obtain⟨a1,hd,a3⟩:=Bi ht'
          have hl:=hy.len w hh
          have hcs:=hy.cells w hh 0 (iO _)
          simp only[Builtin.append_,sizeOf,typeInfo]
          simp only[qv,List.getElem?_cons_zero,List.getElem?_cons_succ,Sem.run_bind,run_program,Result.andThen_ok,run_underlying I.under,run_underlying hd,I.info,Sem.run_pure,I.size]
          cases a1<;>first|exact absurd rfl (a3 _)|(simp[hl];simp at hcs;cases ao<;>simp[hcs,storeCells]))
        refine⟨_,_,G,is.again,.slice ao 0 0,[],rfl,.inl ⟨ao,rfl,by simp,rfl⟩,?_,fun _=>by simp,fun D=>by rw[hh];exact D⟩
        rw[hh]
        exact St.pq (U _ hk) O
      · refine grow ao 0 [] rfl ⟨fun w _=>rfl,fun w _ k hk=>?_,by simp,by simp⟩ rfl (by simp;omega)
        obtain rfl:k=0:=by simpa using hk
        cases ao<;>simp[Builtin.firstCells,loadCells,loadCellsFrom]
    · have hc1:xs.length≤cap:=by omega
      have X:=yD am V
      have hb:w.heap[b]?=some (.cells cur E (0,0)):=by rw[hh];exact s.ag k hk
      by_cases hroom:xs.length+ys.length≤cap
      · have hrun:=MA (P:=C.P) (w:=w) (ty:=o'.type) I ht' (o:=o) (n:=xs.length) (cap:=cap) (m:=ys.length) (x:=e.ev y) (news:=news) (by rw[hh];exact hy) hb hroom aw
        have G:=pF (P:=C.P) (w:=w) (e:=e) h3 (.inl rfl) (by
          simp only[pE,e_,l5,hx]
          exact hrun)
        have a9:o+xs.length*d.sz+ys.length*d.sz≤cur.size:=by
          have h2:(xs.length+ys.length)*d.sz≤cap*d.sz:=iC _ hroom
          rw[nH] at h2
          omega
        have Y:cur.toList.length=cur.size:=qn
        refine⟨_,_,G,⟨rfl,is.os,is.tape,is.output⟩,_,[(b,_)],rfl,.inr ⟨b,o,cap,(cur.toList.take (o+xs.length*d.sz)++news++cur.toList.drop (o+xs.length*d.sz+news.length)).toArray,rest.drop ys.length,?_,rfl,?_,ar,?_,?_⟩,?_,?_,?_⟩
        · rw[b_]
        · rw[b_,gx];omega
        · rw[v7,b_,b_,dD,gx,hys.len,Y,jB (by omega)]
          omega
        · have Z:=(V.iF (xs.length+ys.length) (by rw[b_];omega)).2
          have a4:(xs++rest).drop (xs.length+ys.length)=rest.drop ys.length:=by
            rw[uq,mH (by omega),dY,A5]
          rw[a4] at Z
          have J:(xs++ys++rest.drop ys.length).length=cap:=by simp;omega
          have bb:(xs.length+ys.length)*d.sz≤cap*d.sz:=iC _ hroom
          have:=wB (pre:=cur.toList.take o) (post:=cur.toList.drop (o+cap*d.sz)) (o:=o) ((X.append hys).append Z) (by rw[dD,Y];exact jB (by omega))
            ((cur.toList.take (o+xs.length*d.sz)++news++cur.toList.drop (o+xs.length*d.sz+news.length)).toArray) (by
              unfold cut
              rw[E7,wz,hys.len]
              have e1:((cur.toList.drop o).take (cap*d.sz)).drop ((xs.length+ys.length)*d.sz)++cur.toList.drop (o+cap*d.sz)=cur.toList.drop (o+xs.length*d.sz+ys.length*d.sz):=by
                have e2:cur.toList.drop (o+cap*d.sz)=(cur.toList.drop (o+(xs.length+ys.length)*d.sz)).drop (cap*d.sz-(xs.length+ys.length)*d.sz):=by
                  rw[o8];congr 1;omega
                rw[q8,o8,e2,mJ,nH,yF]
              simp only[cI]
              rw[e1])
          rwa[J] at this
        · exact s.uv k hk (by have:=iP.row (cs:=(cur.toList.take (o+xs.length*d.sz)++news++cur.toList.drop (o+xs.length*d.sz+news.length)).toArray) hb;rwa[hh] at this)
        · intro hc;simp at hc
        · intro D;rw[←hh] at D;exact dK.row (hM (b,.cells cur E (0,0)) (gv.2 rfl)) D
      · obtain⟨nc,hsrc,hro⟩:=di.slice (P:=C.P) (h:=h) (g:=g1) (E:=E) (d:=d) (v:=.slice (some ⟨b,o,none⟩) xs.length cap) (ys:=xs)
          ⟨_,cap,rfl,hc1,fun _=>⟨b,o,cur,(E,0,0),rfl,s.ag k hk,X⟩⟩
        exact grow _ cap nc rfl hsrc hro (by omega)
  · rintro _ _ ⟨u,c',rfl,hrow,hst,a5,a6⟩
    refine⟨u,rfl,a6,?_⟩
    rw[h2]
    exact K u c' _ hrow hst a5
end
def aA (P:Program) (B:World) (f:FuncId) (args:Array Value) (h:av) (g:GH) (Lc:List au) (D:Value→GH→List au→Prop):Prop:=
  yz P B f args h fun v h'=>∃g' u,St h g (aM Lc) g' u h'∧D v g' u
def qy (C:fC) (i j:Nat) (e:Env):Option (Option Tmp×FuncId×Array Value):=
  match lM C i j e with
  |some o=>match ou C.P (fc e o) with
   |some (.enter f args)=>some (o.dst,f,args)
   |_=>none
  |none=>none
theorem E_ {C:fC} {i j:Nat} {e:Env} {d:Option Tmp} {f:FuncId} {args:Array Value} (h:qy C i j e=some (d,f,args)):
    ∃o,lM C i j e=some o∧o.dst=d∧ou C.P (fc e o)=some (.enter f args):=by
  unfold qy at h
  split at h
  · rename_i o ho
    split at h
    · rename_i f' u hp
      simp only[eN,iB] at h
      obtain⟨rfl,rfl,rfl⟩:=h
      exact⟨o,ho,rfl,hp⟩
    · cases h
  · cases h
structure ei (P:Program) (f:FuncId):Prop where
  out:∃fn,P.funcs[f]?=some fn∧(fn.name=="runtime.NumGoroutine")=false∧fn.body.isSome=true
def Fa (P:Program) (f:FuncId):Bool:=match P.funcs[f]? with
  |some fn=>!(fn.name=="runtime.NumGoroutine")&&fn.body.isSome
  |none=>false
theorem ei.of {P:Program} {f:FuncId} (h:Fa P f=true):ei P f:=by
  unfold Fa at h
  split at h
  · rename_i fn hf
    simp only[bO,gZ] at h
    exact⟨fn,hf,h.1,h.2⟩
  · cases h
section
variable {C:fC} {ds:List Deferred} {i j:Nat} {r:av} {M:Nat→Prop} {Ls:List (Nat×Bool)} {e:Env} {h:av}
variable {h0:av} {g0:GH} {S0:Nat→Prop} {g:GH} {L L':List au}
theorem Op.Fb {o:Oper} {f:FuncId} {args:Array Value} {Lc:List au} {D:Value→GH→List au→Prop} (h1:lM C i j e=some o)
    (hp:∀w,(fc e o).run C.P w=.ok (.enter f args) w)
    (s:St h0 g0 S0 g (Lc++L) h) (H:aA C.P C.B f args h g Lc D) (hM:∀b,b<r.size→aM Lc b→M b)
    (K:∀v g' u h',aG g g'→St h0 g0 S0 g' (u++L) h'→D v g' u→Op C ds i r M Ls (e.gd o.dst v) h'):Op C ds i r M ((j,false)::Ls) e h:=by
  refine Op.wo h1 fun w is hk a ft=>?_
  rw[hp w]
  refine Calls.mono (H w is) fun J w' ⟨v,he,G,g',u,t,I⟩=>?_
  exact⟨v,he,⟨t.jd hM hk,G⟩,_,ft.gd (q_ h1).2.2.2.1 v,K v g' u _ t.le (s.join t) I⟩
theorem Op.call {dst:Option Tmp} {f:FuncId} {args:Array Value} {Lc:List au} {u:Value→GH→List au→Prop} (ho:qy C i j e=some (dst,f,args))
    (s:St h0 g0 S0 g (Lc++L) h) (H:aA C.P C.B f args h g Lc u) (hM:∀b,b<r.size→aM Lc b→M b)
    (K:∀v g' D h',aG g g'→St h0 g0 S0 g' (D++L) h'→u v g' D→Op C ds i r M Ls (e.gd dst v) h'):Op C ds i r M ((j,false)::Ls) e h:=by
  obtain⟨o,h1,rfl,hp⟩:=E_ ho
  exact Op.Fb h1 (ur _ hp) s H hM K
theorem Op.Fc {dst:Option Tmp} {f:FuncId} {args:Array Value} {u:Value→GH→List au→Prop} (ho:qy C i j e=some (dst,f,args))
    (s:St h0 g0 S0 g L h) (H:aA C.P C.B f args h g [] u)
    (K:∀v g' D h',aG g g'→St h0 g0 S0 g' (D++L) h'→u v g' D→Op C ds i r M Ls (e.gd dst v) h'):Op C ds i r M ((j,false)::Ls) e h:=
  Op.call (Lc:=[]) ho s H (fun _ _ h=>absurd h (gq _)) K
theorem Op.MD {dst:Option Tmp} {x:Operand} {ops:Array Operand} {ts:Array TypeId} {f:FuncId} {first cap:Array Value} {Lc:List au} {u:Value→GH→List au→Prop}
    (ho:c7 C i j e=some (dst,.call {callee:=.value x,args:=ops,argTypes:=ts})) (hx:e.ev x=.func (.func f) first cap) (hf:ei C.P f) {args:Array Value} (ha:first++ops.map e.ev++cap=args)
    (s:St h0 g0 S0 g (Lc++L) h) (H:aA C.P C.B f args h g Lc u) (hM:∀b,b<r.size→aM Lc b→M b)
    (K:∀v g' D h',aG g g'→St h0 g0 S0 g' (D++L) h'→u v g' D→Op C ds i r M Ls (e.gd dst v) h'):Op C ds i r M ((j,false)::Ls) e h:=by
  obtain⟨o,h1,rfl,h3⟩:=gw ho
  obtain⟨fn,hfn,hname,G⟩:=hf.out
  refine Op.Fb h1 (fun w=>?_) s H hM K
  unfold fc execOp
  have hb:fn.body.isNone=false:=by cases hb:fn.body<;>simp_all
  simp only[h3,resolve,hx,Deferred.ofValue,Sem.run_bind,Sem.run_pure,Result.andThen_ok,invoke,callFunc,run_program,hfn,hname,hb,fZ,de,ha]
def valOf (C:fC) (i j:Nat) (e:Env):Option (Option Tmp×Value):=
  match lM C i j e with
  |some o=>match ou C.P (fc e o) with
   |some (.value v)=>some (o.dst,v)
   |_=>none
  |none=>none
theorem Op.val {dst:Option Tmp} {v D:Value} {b:Bool} (ho:valOf C i j e=some (dst,v)) (hv:v=D) (K:Op C ds i r M Ls (e.gd dst D) h):Op C ds i r M ((j,b)::Ls) e h:=by
  unfold valOf at ho
  split at ho
  · rename_i o h1
    split at ho
    · rename_i u hp
      simp only[eN,iB] at ho
      obtain⟨rfl,rfl⟩:=ho
      subst hv
      exact Op.A8 h1 (fun w=>ur _ hp w) K
    · cases ho
  · cases ho
theorem Op.free {dst:Nat} {op:Go.Op} {v:Value} {b:Bool} (ho:c7 C i j e=some (some dst,op)) (H:∀o:Oper,o.op=op→∀w,(execOp e.ev o).run C.P w=.ok (.value v) w)
    (K:Op C ds i r M Ls ((dst,v)::e) h):Op C ds i r M ((j,b)::Ls) e h:=by
  obtain⟨o,h1,h2,h3⟩:=gw ho
  exact Op.A8 h1 (v:=v) (fun w=>H o h3 w) (by rw[h2];exact K)
theorem uA {w:World} {P:Program} {k:IntKind} {n:Int} {y:Nat} {code:BoundsCode} (h0:0≤n) (h1:n≤y):(Instr.sliceBound (.int k n) y code).run P w=.ok n.toNat w:=by
  simp only[Instr.sliceBound,asIntOf,Sem.run_bind,Sem.run_pure,Result.andThen_ok,h0,h1,and_self,iA]
theorem Op.ME {dst:Nat} {T:TypeId} {x lo:Operand} {l:aj} {k:IntKind} {n:Int} {b:Bool} (ho:c7 C i j e=some (some dst,.slice T x (some lo) none none)) (hT:C.P.underlying T=some .string)
    (hx:e.ev x=.string (a_ l)) (hlo:e.ev lo=.int k n) (h0:0≤n) (h1:n≤l.length)
    (K:Op C ds i r M Ls ((dst,.string (a_ (l.drop n.toNat)))::e) h):Op C ds i r M ((j,b)::Ls) e h:=by
  refine Op.free ho (fun o ho w=>?_) K
  simp only[execOp,ho,j3,Option.map_none,Instr.sliceAt,Instr.slice,hx,hlo,Sem.run_bind,Sem.run_pure,Result.andThen_ok,run_underlying hT,Instr.sliceBounds,Option.isSome_none,fZ,de,pz,uA h0 h1,E4,uw]
theorem Op.MF {dst:Nat} {T:TypeId} {x hi:Operand} {l:aj} {k:IntKind} {n:Int} {b:Bool} (ho:c7 C i j e=some (some dst,.slice T x none (some hi) none)) (hT:C.P.underlying T=some .string)
    (hx:e.ev x=.string (a_ l)) (hhi:e.ev hi=.int k n) (h0:0≤n) (h1:n≤l.length)
    (K:Op C ds i r M Ls ((dst,.string (a_ (l.take n.toNat)))::e) h):Op C ds i r M ((j,b)::Ls) e h:=by
  refine Op.free ho (fun o ho w=>?_) K
  simp only[execOp,ho,j3,Option.map_none,Instr.sliceAt,Instr.slice,hx,hhi,Sem.run_bind,Sem.run_pure,Result.andThen_ok,run_underlying hT,Instr.sliceBounds,Option.isSome_none,fZ,de,pz,uA h0 h1,E4,ux]
theorem Op.MG {dst:Nat} {T T':TypeId} {x y:Operand} {l m:aj} {b:Bool} (ho:c7 C i j e=some (some dst,.binOp .add T x y T'))
    (hx:e.ev x=.string (a_ l)) (hy:e.ev y=.string (a_ m)) (hl:l.length+m.length≤9223372036854775807)
    (K:Op C ds i r M Ls ((dst,.string (a_ (l++m)))::e) h):Op C ds i r M ((j,b)::Ls) e h:=by
  refine Op.free ho (fun o ho w=>?_) K
  have h1:¬(((a_ l).size+(a_ m).size:Nat):Int)>IntKind.i64.max:=by rw[pz,pz];show ¬_>(9223372036854775807:Int);omega
  simp only[execOp,ho,hx,hy,eqGuard,Sem.run_bind,Sem.run_pure]
  simp only[binOp,Op.stringOp,h1,de,Sem.run_pure,Ms,qw,iA,Result.andThen_ok]
theorem Op.fS {dst:Nat} {T E:TypeId} {sz cR:Nat} {x ix:Operand} {u o n c:Nat} {k:IntKind} {m:Int} {b:Bool} (ho:c7 C i j e=some (some dst,.indexAddr T x ix)) (hE:kD C.P T=some (E,sz,cR))
    (hx:e.ev x=.slice (some ⟨u,o,none⟩) n c) (D:e.ev ix=.int k m) (h0:0≤m) (h1:m<n)
    (K:Op C ds i r M Ls ((dst,.pointer (some ⟨u,o+m.toNat*sz,none⟩))::e) h):Op C ds i r M ((j,b)::Ls) e h:=by
  obtain⟨G,z,I⟩:=qx hE
  refine Op.free ho (fun o' ho w=>?_) K
  have hi:=I.info
  simp only[execOp,ho,Instr.indexAt,hx,D,asIntOf,Sem.run_bind,Sem.run_pure,Result.andThen_ok,run_underlying I.under,h0,h1,and_self,iA,sizeOf,typeInfo,run_program,hi,I.size,k_]
def ek (ao:Option Addr) (l m sz:Nat):Option Addr:=if m=l then ao else ao.map (·.add (l*sz))
theorem Op.Fe {dst:Nat} {T E:TypeId} {sz cR:Nat} {x lo:Operand} {ao:Option Addr} {n c:Nat} {k:IntKind} {m:Int} {b:Bool} (ho:c7 C i j e=some (some dst,.slice T x (some lo) none none)) (hE:kD C.P T=some (E,sz,cR))
    (hx:e.ev x=.slice ao n c) (hlo:e.ev lo=.int k m) (h0:0≤m) (h1:m≤n)
    (K:Op C ds i r M Ls ((dst,.slice (ek ao m.toNat c sz) (n-m.toNat) (c-m.toNat))::e) h):Op C ds i r M ((j,b)::Ls) e h:=by
  obtain⟨u,z,I⟩:=qx hE
  refine Op.free ho (fun o' ho w=>?_) K
  have hi:=I.info
  simp only[execOp,ho,j3,Option.map_none,Instr.sliceAt,Instr.slice,hx,hlo,Sem.run_bind,Sem.run_pure,Result.andThen_ok,run_underlying I.under,Instr.sliceBounds,Option.isSome_none,fZ,de,uA h0 h1,sizeOf,typeInfo,run_program,hi,I.size,ek]
theorem Op.yG {dst:Nat} {T E:TypeId} {sz cR:Nat} {x hi:Operand} {ao:Option Addr} {n c:Nat} {k:IntKind} {m:Int} {b:Bool} (ho:c7 C i j e=some (some dst,.slice T x none (some hi) none)) (hE:kD C.P T=some (E,sz,cR))
    (hx:e.ev x=.slice ao n c) (hhi:e.ev hi=.int k m) (h0:0≤m) (h1:m≤c)
    (K:Op C ds i r M Ls ((dst,.slice (ek ao 0 c sz) m.toNat c)::e) h):Op C ds i r M ((j,b)::Ls) e h:=by
  obtain⟨u,z,I⟩:=qx hE
  refine Op.free ho (fun o' ho w=>?_) K
  have hi:=I.info
  simp only[execOp,ho,j3,Option.map_none,Instr.sliceAt,Instr.slice,hx,hhi,Sem.run_bind,Sem.run_pure,Result.andThen_ok,run_underlying I.under,Instr.sliceBounds,Option.isSome_none,fZ,de,uA h0 h1,sizeOf,typeInfo,run_program,hi,I.size,ek,Nat.sub_zero]
theorem Op.MH {dst:Nat} {T E:TypeId} {sz cR:Nat} {x lo hi:Operand} {ao:Option Addr} {n c:Nat} {k k':IntKind} {m m':Int} {b:Bool} (ho:c7 C i j e=some (some dst,.slice T x (some lo) (some hi) none)) (hE:kD C.P T=some (E,sz,cR))
    (hx:e.ev x=.slice ao n c) (hlo:e.ev lo=.int k m) (hhi:e.ev hi=.int k' m') (h0:0≤m) (h1:m≤m') (h2:m'≤c)
    (K:Op C ds i r M Ls ((dst,.slice (ek ao m.toNat c sz) (m'.toNat-m.toNat) (c-m.toNat))::e) h):Op C ds i r M ((j,b)::Ls) e h:=by
  obtain⟨u,z,I⟩:=qx hE
  refine Op.free ho (fun o' ho w=>?_) K
  have hi:=I.info
  have h3:0≤m':=by omega
  have h4:m≤(m'.toNat:Int):=by omega
  simp only[execOp,ho,j3,Option.map_none,Instr.sliceAt,Instr.slice,hx,hlo,hhi,Sem.run_bind,Sem.run_pure,Result.andThen_ok,run_underlying I.under,Instr.sliceBounds,Option.isSome_none,fZ,de,uA h3 h2,uA h0 h4,sizeOf,typeInfo,run_program,hi,I.size,ek]
def Ff (z:Array Value) (n:Nat):Array Value:=(Array.range n).map (z[· % z.size]!)
def Bm (P:Program) (T:TypeId) (len:Nat) (iF:List (Nat×Value)):Option (TypeId×Array Value):=
  match P.underlying T with
  |some (.slice E)=>match P.info? E with
   |some i=>match i.zero with
    |some z=>if Nat.ble (len*i.size) 1000 then (Instr.fill (fun k=>some (k*i.size,i.size)) (if len*i.size=0 then #[] else Ff z.cells (len*i.size)) iF).map fun c=>(E,c) else none
    |none=>none
   |none=>none
  |_=>none
theorem Op.lit {dst:Nat} {T E:TypeId} {len:Nat} {iF:Array (Nat×Operand)} {cs:Array Value} (ho:c7 C i j e=some (some dst,.buildSlice T len iF))
    {ps:List (Nat×Value)} (hps:(iF.map fun(k,x)=>(k,e.ev x)).toList=ps) (hc:Bm C.P T len ps=some (E,cs)) (s:St h0 g0 S0 g L h)
    (K:∀b h',St h0 g0 S0 g ([(b,.cells cs E (0,0))]::L) h'→Op C ds i r M Ls ((dst,.slice (some ⟨b,0,none⟩) len len)::e) h'):Op C ds i r M ((j,false)::Ls) e h:=by
  obtain⟨o,h1,h2,h3⟩:=gw ho
  refine Op.run h1 (R:=fun G h'=>G=.value (.slice (some ⟨h.size,0,none⟩) len len)∧h'=h.push (.cells cs E (0,0))) ?_ ?_
  · intro w is
    refine⟨.value (.slice (some ⟨h.size,0,none⟩) len len),{w with heap:=w.heap.push (.cells cs E (0,0))},?_,⟨rfl,is.os,is.tape,is.output⟩,rfl,by rw[←is.heap]⟩
    unfold Bm at hc
    split at hc
    · rename_i J hu
      split at hc
      · rename_i u hi
        split at hc
        · rename_i z hz
          split at hc
          · rename_i hle
            obtain⟨cs',hf,he⟩:=q6.1 hc
            simp only[iB] at he
            obtain⟨rfl,rfl⟩:=he
            have hle:¬len*u.size>2 ^ 24:=by have:=jb hle;omega
            have D:List.map (fun x=>(x.fst,e.ev x.snd)) iF.toList=ps:=by rw[←hps];simp
            unfold fc execOp
            by_cases h0:len*u.size=0
            · simp only[h0,iA] at hf
              have I:(Array.range 0).map (fun _=>(default:Value))=#[]:=by simp
              simp[h3,Instr.buildSlice,run_underlying hu,sizeOf,typeInfo,hi,h0,D,I,hf,newRow,is.heap]
            · simp only[h0,de] at hf
              unfold Ff at hf
              simp only[gt_iff_lt] at hle
              simp[h3,Instr.buildSlice,run_underlying hu,sizeOf,typeInfo,hi,hle,h0,hz,zeroValue,D,hf,newRow,is.heap]
          · cases hc
        · cases hc
      · cases hc
    · cases hc
  · rintro _ _ ⟨rfl,rfl⟩
    refine⟨_,rfl,dK.push _,?_⟩
    rw[h2]
    exact K _ _ (s.alloc _)
theorem di.lit {P:Program} {h:av} {b sz m:Nat} {cs:Array Value} {u:TypeId} {fz:Nat×Nat} (hb:h[b]?=some (.cells cs u fz)) {news:List Value} (hn:cs.toList=news) (hm:news.length=m*sz) (h1:∀v∈news,v.oneCell'=true) (c:Nat):
    di P h sz (.slice (some ⟨b,0,none⟩) m c) m news:=by
  refine⟨fun _ _=>rfl,fun w hw k hk=>?_,hm,h1⟩
  have hl:(news.take (k*sz)).length=k*sz:=by rw[dD,hm,jB (iC _ hk)]
  have:=A9 (P:=P) (w:=w) ⟨b,0,none⟩ (news.take (k*sz)) 0 #[] (fun j v hj=>by
    rw[qu,k_,cell_of hw,oy hb,qu]
    subst hn
    rw[o7] at hj
    split at hj
    · simpa using hj
    · cases hj)
  rw[hl] at this
  simpa[Builtin.firstCells,loadCells] using this
theorem Op.alloc {dst:Nat} {T:TypeId} {cs:Array Value} (ho:c7 C i j e=some (some dst,.alloc T)) (hz:(C.P.info? T).bind (fun t=>t.zero.map Value.cells)=some cs) (s:St h0 g0 S0 g L h)
    (K:∀b h',St h0 g0 S0 g ([(b,.cells cs T (0,0))]::L) h'→Op C ds i r M Ls ((dst,.pointer (some ⟨b,0,none⟩))::e) h'):Op C ds i r M ((j,false)::Ls) e h:=by
  obtain⟨o,h1,h2,h3⟩:=gw ho
  obtain⟨I,hi,hz⟩:=E8.1 hz
  obtain⟨z,u,rfl⟩:=q6.1 hz
  refine Op.run h1 (R:=fun D h'=>D=.value (.pointer (some ⟨h.size,0,none⟩))∧h'=h.push (.cells z.cells T (0,0))) ?_ ?_
  · intro w is
    refine⟨.value (.pointer (some ⟨h.size,0,none⟩)),{w with heap:=w.heap.push (.cells z.cells T (0,0))},?_,⟨rfl,is.os,is.tape,is.output⟩,rfl,by rw[←is.heap]⟩
    unfold fc execOp
    have G:(zeroValue T).run C.P w=.ok z w:=by
      simp only[zeroValue,typeInfo,Sem.run_bind,run_program,Result.andThen_ok,hi,Sem.run_pure]
      rw[u]
      rfl
    simp only[h3,Instr.alloc,Sem.run_bind,G,newVar,newRow,run_newObj,Result.andThen_ok,Sem.run_pure,is.heap]
  · rintro _ _ ⟨rfl,rfl⟩
    refine⟨_,rfl,dK.push _,?_⟩
    rw[h2]
    exact K _ _ (s.alloc _)
def splice (cs:Array Value) (o:Nat) (vs:List Value):Array Value:=(cs.toList.take o++vs++cs.toList.drop (o+vs.length)).toArray
theorem Op.store {T:TypeId} {x y:Operand} {b o n:Nat} {a?:Bool} {vs:List Value} (ho:c7 C i j e=some (none,.store T x y)) (hx:e.ev x=.pointer (some ⟨b,o,none⟩)) (hy:(e.ev y).cells.toList=vs)
    (hT:kC C.P T=some (a?,n)) (hn:vs.length=n) (h1:∀v∈vs,v.oneCell'=true) {cs cs':Array Value} {D:TypeId} (s:St h0 g0 S0 g L h) (k:Nat) (hk:L[k]?=some [(b,.cells cs D (0,0))])
    (O:o+n≤cs.size) (hcs:splice cs o vs=cs') (hM:b<r.size→M b)
    (K:∀h',St h0 g0 S0 g (L.set k [(b,.cells cs' D (0,0))]) h'→Op C ds i r M Ls e h'):Op C ds i r M ((j,false)::Ls) e h:=by
  obtain⟨o',I,h2,h3⟩:=gw ho
  subst hcs
  have hsz:∃G,C.P.info? T=some G∧G.size=n:=by
    unfold kC at hT
    split at hT
    · rename_i d G hd hi
      simp only[eN,iB] at hT
      exact⟨G,hi,hT.2⟩
    · cases hT
  obtain⟨G,hi,hs⟩:=hsz
  refine Op.skip I (R:=fun J h'=>J=.skip∧iP h b (.cells (splice cs o vs) D (0,0)) h') ?_ ?_
  · intro w is
    have hb:w.heap[b]?=some (.cells cs D (0,0)):=by rw[is.heap];exact s.ag k hk
    have hst:=run_storeCells_at C.P b o D vs 0 cs w hb (by omega) h1
    simp only[m_] at hst
    refine⟨_,w.setRow b (splice cs o vs),?_,⟨rfl,is.os,is.tape,is.output⟩,rfl,?_⟩
    · have hc:(e.ev y).cells.size=n:=by rw[←hn,←hy,qn]
      unfold fc execOp
      simp only[h3,hx,Instr.storeAt,Instr.sureAddr,storeVar,sizeOf,typeInfo,Sem.run_bind,Sem.run_pure,Result.andThen_ok,run_program,hi,hs,hc,ne_eq,jN,de,hy,hst]
      rfl
    · have:=iP.row (cs:=splice cs o vs) hb
      rwa[is.heap] at this
  · rintro _ h' ⟨rfl,u⟩
    refine⟨rfl,u.jd hM,?_⟩
    rw[h2]
    exact K h' (s.uv k hk u)
end
end Go.Proofs.YtpacclkciilmpaaGreatDoor.Sw
