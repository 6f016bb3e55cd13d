/- Lemmas for laws of this seat. -/
import Derived.Test.YtceekbnihfckeaaGreatDoorQBB
import Derived.Laws.CopyRow
import Derived.Laws.Append
namespace Go.Proofs.YtceekbnihfckeaaGreatDoor.Sw
set_option linter.unusedVariables false
set_option linter.unusedSimpArgs false
set_option linter.deprecated false
open Go
set_option linter.defProp false
def e_:=@List.length_take
def sX:=@Nat.zero_add
def xz:=@List.take_length
def nD:=@Nat.add_mul
def lG:=@Nat.add_zero
def sY:=@List.getElem?_toArray
def uC:=@Bool.not_false
def xA:=@Nat.mul_le_mul_left
def zq:=@List.drop_zero
def zu:=@List.replicate_succ
def zw:=@Nat.add_comm
def Bk:=@List.ext_getElem?
def jU:=@List.getElem?_map
def yV:=@List.getElem?_range
def mS:=@Option.map_some
def o8:=@Nat.mod_eq_of_lt
def Dc:=@List.getElem?_eq_none
def tZ:=@List.map_congr_left
def qI:=@List.map_toArray
def p7:=@List.length_replicate
def Dd:=@Array.size_append
def F8:=@Nat.add_sub_cancel'
def De:=@Array.toList_append
def ju:=@List.eq_nil_of_length_eq_zero
def iP:=@List.length_drop
def F9:=@List.toList_toArray
def Bl:=@List.take_add
def od:=@List.take_append_drop
def Df:=@Nat.add_assoc
def F_:=@Option.bind_eq_some_iff
def kE:=@not_true_eq_false
def l6 (P:Program) (T:TypeId):Option (TypeId×Nat×Nat):=
  match P.underlying T with
  |some (.slice E)=>match P.info? E with
   |some i=>match i.zero with
    |some z=>if Nat.beq z.cells.size i.size&&(Nat.blt 0 i.size&&Nat.blt 0 i.bytes) then some (E,i.size,i.bytes) else none
    |none=>none
   |none=>none
  |_=>none
structure Dg (P:Program) (T E:TypeId) (sz dx:Nat) (i:TypeInfo) (z:Value):Prop where
  under:P.underlying T=some (.slice E)
  info:P.info? E=some i
  zero:i.zero=some z
  cells:z.cells.size=sz
  size:i.size=sz
  bytes:i.bytes=dx
  pos:0<sz
  Dh:0<dx
theorem sZ {P:Program} {T E:TypeId} {sz dx:Nat} (h:l6 P T=some (E,sz,dx)):∃i z,Dg P T E sz dx i z:=by
  unfold l6 at h
  split at h
  · rename_i u hu
    split at h
    · rename_i i hi
      split at h
      · rename_i z hz
        split at h
        · rename_i hc
          simp only[b_] at hc
          simp only[fu,iM] at h
          obtain⟨rfl,rfl,rfl⟩:=h
          exact⟨i,z,hu,hi,hz,sO hc.1,rfl,rfl,kV hc.2.1,kV hc.2.2⟩
        · cases h
      · cases h
    · cases h
  · cases h
def xB (P:Program) (t:TypeId):Bool:=match P.underlying t with
  |some (.int _)=>false
  |some _=>true
  |none=>false
theorem Di {P:Program} {t:TypeId} (h:xB P t=true):∃d,P.underlying t=some d∧∀k,d≠.int k:=by
  unfold xB at h
  split at h
  · cases h
  · rename_i d hd hne;exact⟨d,hne,hd⟩
  · cases h
structure eT (P:Program) (h:ax) (sz:Nat) (x:Value) (m:Nat) (news:List Value):Prop where
  len:∀w,w.heap=h→(Builtin.lenOf x).run P w=.ok m w
  cells:∀w,w.heap=h→∀k,k≤m→(Builtin.firstCells sz k x).run P w=.ok (news.take (k*sz)).toArray w
  size:news.length=m*sz
  one:∀v∈news,v.oneCell'=true
theorem eT.slice {α:Type} {P:Program} {h:ax} {g:GH} {E:TypeId} {d:Kd α} {v:Value} {ys:List α} (hs:jX h g E d v ys):∃news,eT P h d.sz v ys.length news∧Reads d g ys news:=by
  obtain⟨ao,c,rfl,hc,H⟩:=hs
  by_cases hy:ys=[]
  · subst hy
    refine⟨[],⟨fun w _=>rfl,fun w _ k hk=>?_,by simp,by simp⟩,rfl⟩
    obtain rfl:k=0:=by simpa using hk
    cases ao with
    |none=>simp[Builtin.firstCells]
    |some a=>simp[Builtin.firstCells,loadCells,loadCellsFrom]
  · obtain⟨b,o,cur,fz,rfl,hb,hr⟩:=H hy
    refine⟨_,⟨fun w _=>rfl,fun w hw k hk=>?_,hr.len,hr.one⟩,hr⟩
    have u:((cut cur o (ys.length*d.sz)).take (k*d.sz)).length=k*d.sz:=by
      have:=hr.len
      rw[e_,this,kW (jW _ hk)]
    have:=C9 (P:=P) (w:=w) ⟨b,o,none⟩ ((cut cur o (ys.length*d.sz)).take (k*d.sz)) 0 #[] (fun j v hj=>by
      rw[sX,jT,cell_of hw,p6 hb]
      unfold cut at hj
      rw[uy,uv] at hj
      split at hj
      · simpa using hj
      · cases hj)
    rw[u] at this
    simpa[Builtin.firstCells,loadCells] using this
theorem Ga (g:GH):∀(l:an),Reads br g l (l.map fun b=>.int .u8 b.toNat)
  |[]=>rfl
  |b::l=>⟨[.int .u8 b.toNat],_,rfl,rfl,Ga g l⟩
theorem Dj (z:Array Value) (n:Nat):(Builtin.zeroCells z n).size=n*z.size:=by simp[Builtin.zeroCells]
theorem zx (w:World) (u old:Nat) (e:TypeId):u≤grownCap w u old e:=by simp[grownCap,Question.cut]
theorem Dk (w:World) (u old:Nat) (e:TypeId) (h:u≤maxLen):grownCap w u old e≤maxLen:=by
  have hlt:=xo (w.tape w.drawn (.appendCap u old e)) (show 0<2 ^ 63-u by simp only[maxLen] at h;omega)
  simp only[grownCap,Question.cut,maxLen] at h ⊢
  omega
section
variable {P:Program} {w:World} {t t' ty E:TypeId} {sz dx:Nat} {i:TypeInfo} {z:Value}
theorem MC (I:Dg P t E sz dx i z) (ht':xB P t'=true) {b o n cap m:Nat} {x:Value} {news:List Value} (hx:eT P w.heap sz x m news)
    {cur:Array Value} {u:TypeId} (hb:w.heap[b]?=some (.cells cur u (0,0))) (hroom:n+m≤cap) (G:o+cap*sz≤cur.size):
    (Builtin.append_ #[t,t'] ty #[.slice (some ⟨b,o,none⟩) n cap,x]).run P w=
      .ok (.slice (some ⟨b,o,none⟩) (n+m) cap) (w.setRow b (cur.toList.take (o+n*sz)++news++cur.toList.drop (o+n*sz+news.length)).toArray):=by
  obtain⟨d,hd,D⟩:=Di ht'
  have hc:=hx.cells w rfl m (iE _)
  rw[←hx.size,xz] at hc
  have h2:(n+m)*sz≤cap*sz:=jW _ hroom
  rw[nD] at h2
  have hst:=run_storeCells_at P b (o+n*sz) u news 0 cur w hb (by rw[hx.size];omega) hx.one
  simp only[lG] at hst
  have hl:=hx.len w rfl
  simp only[Builtin.append_,sizeOf,typeInfo]
  simp only[sY,List.getElem?_cons_zero,List.getElem?_cons_succ,Sem.run_bind,run_program,Result.andThen_ok,run_underlying I.under,run_underlying hd,I.info,Sem.run_pure,I.size]
  cases d<;>first|exact absurd rfl (D _)|(simp only[gA,dV,hl,Result.andThen_ok,hroom,jl,Sem.run_bind,uC,hc,jT,hst,Sem.run_pure])
theorem MD (I:Dg P t E sz dx i z) (ht':xB P t'=true) {ao:Option Addr} {n cap m:Nat} {x:Value} {oe news:List Value} (ho:eT P w.heap sz (.slice ao n cap) n oe) (hx:eT P w.heap sz x m news)
    (hg:cap<n+m) (D:(n+m)*dx≤140737488355328):
    (Builtin.append_ #[t,t'] ty #[.slice ao n cap,x]).run P w=
      .ok (.slice (some ⟨w.heap.size,0,none⟩) (n+m) (grownCap w (n+m) cap E)) (w.drew.alloc (.cells ((oe++news).toArray++Builtin.zeroCells z.cells (grownCap w (n+m) cap E-(n+m))) E)):=by
  obtain⟨d,hd,G⟩:=Di ht'
  have hc:=hx.cells w.drew rfl m (iE _)
  rw[←hx.size,xz] at hc
  have u:=ho.cells w.drew rfl n (iE _)
  rw[←ho.size,xz] at u
  have J:=growslice_fits (old:=cap) hg D
  have hl:=hx.len w rfl
  have hno:¬(n+m≤cap):=by omega
  have hlim:¬(281474976710656<Builtin.nextslicecap (n+m) cap*i.bytes):=by rw[I.bytes];omega
  have hsmall:¬(9223372036854775807<(n:Int)+(m:Int)):=by
    have:(n+m)*1≤(n+m)*dx:=xA _ I.Dh
    omega
  have hi:=I.info
  have hz:=I.zero
  simp only[Builtin.append_,sizeOf,typeInfo,zeroValue]
  simp only[sY,List.getElem?_cons_zero,List.getElem?_cons_succ,Sem.run_bind,run_program,Result.andThen_ok,run_underlying I.under,run_underlying hd,hi,Sem.run_pure,I.size]
  cases d<;>first|exact absurd rfl (G _)|(simp[hl,hno,hsmall,hlim,hc,u,Question.forced,newRow,grownCap,hi,hz];congr 2;apply Array.ext';simp[dm])
end
theorem ez.row {r:ax} {M:Nat→Prop} {w:World} {b:Nat} {cs:Array Value} (hM:b<r.size→M b) (k:ez r M w.heap):ez r M (w.setRow b cs).heap:=
  ⟨by rw[setRow_size];exact k.size,fun x hx hm=>(setRow_other w b x cs (fun e=>hm (e▸hM (e▸hx)))).trans (k.same x hx hm)⟩
theorem jm.row {w:World} {b:Nat} {cur cs:Array Value} {u:TypeId} {fz:Nat×Nat} (hb:w.heap[b]?=some (.cells cur u fz)):jm w.heap b (.cells cs u fz) (w.setRow b cs).heap:=
  ⟨setRow_size w b cs,setRow_heap w b cur cs u fz hb,fun k hk=>setRow_other w b k cs hk⟩
section
variable {C:fP} {ds:List Deferred} {i j:Nat} {r:ax} {M:Nat→Prop} {Ls:List (Nat×Bool)} {e:Env} {h:ax}
variable {h0:ax} {g0:GH} {S0:Nat→Prop} {g:GH} {L L':List ay}
theorem qJ {e:Env} {o:Oper} {b:Builtin} {args:Array Operand} {ts:Array TypeId} (h3:o.op=.call {callee:=.builtin b,args:=args,argTypes:=ts}) {w:World} {P:Program} {v:Value} {w':World}
    (hb:b=.append∨b=.copy∨b=.len∨b=.cap∨b=.clear∨b=.delete∨b=.max∨b=.min)
    (hr:(match b with
      |.append=>Builtin.append_ ts o.type (args.map e.ev)
      |.copy=>Builtin.copy_ ts o.type (args.map e.ev)
      |.len=>Builtin.len_ ts o.type (args.map e.ev)
      |.cap=>Builtin.cap_ ts o.type (args.map e.ev)
      |.clear=>Builtin.clear_ ts o.type (args.map e.ev)
      |.delete=>Builtin.delete_ ts o.type (args.map e.ev)
      |.max=>Builtin.max_ ts o.type (args.map e.ev)
      |_=>Builtin.min_ ts o.type (args.map e.ev)).run P w=.ok v w'):(fL e o).run P w=.ok (.value v) w':=by
  unfold fL execOp
  simp only[h3,resolve,Sem.run_bind,Sem.run_pure,Result.andThen_ok,invoke,builtin]
  rcases hb with rfl|rfl|rfl|rfl|rfl|rfl|rfl|rfl<;>simp_all
theorem zy {α:Type} {d:Kd α} {g:GH} {xs:List α} {cs:List Value} (hr:Reads d g xs cs) {pre post:List Value} {o:Nat} (ho:pre.length=o) (u:Array Value) (ha:u.toList=pre++cs++post):
    Reads d g xs (cut u o (xs.length*d.sz)):=by
  unfold cut
  rw[ha,dm,zk,mz (by omega),←ho,Nat.sub_self,eN,zq,zl hr.len]
  exact hr
theorem ME (z:Array Value):∀q,(Builtin.zeroCells z q).toList=(List.replicate q z.toList).flatten:=by
  have h0:∀q,(Builtin.zeroCells z q).toList=(List.range (q*z.size)).map fun i=>z[i % z.size]!:=by
    intro q
    unfold Builtin.zeroCells
    rw[Array.toList_map,Array.toList_range]
  intro q
  rw[h0]
  induction q with
  |zero=>simp
  |succ q ih=>
   rw[zu,cH,←ih,oc,zw,List.range_add,iH]
   congr 1
   · apply Bk
     intro k
     rw[jU]
     by_cases hk:k<z.size
     · rw[yV hk,mS,o8 hk,getElem!_pos z k hk]
       simp[hk]
     · rw[Dc (by simpa using hk),Dc (by simpa using hk)];rfl
   · rw[jg]
     apply tZ
     intro k _
     simp
theorem Dl {α:Type} (d:Kd α) (g:GH) (z:Array Value) (hz:z.toList=d.zc) (q:Nat):Reads d g (List.replicate q d.zv) (Builtin.zeroCells z q).toList:=by
  rw[ME,hz]
  induction q with
  |zero=>rfl
  |succ q ih=>rw[zu,zu,cH];exact⟨d.zc,_,rfl,d.zK g,ih⟩
theorem Op.append {α:Type} {dst:Nat} {x y:Operand} {t t' E:TypeId} {dx:Nat} {d:Kd α} {v:Value} {xs ys:List α} {c:ay} {m:Nat} {news:List Value} {g1:GH}
    (ho:dS C i j e=some (some dst,.call {callee:=.builtin .append,args:=#[x,y],argTypes:=#[t,t']})) (hI:l6 C.P t=some (E,d.sz,dx)) (ht':xB C.P t'=true) (hz:((C.P.info? E).bind (·.zero)).map (·.cells.toList)=some d.zc)
    (hx:e.ev x=v) (hv:aJ E d g1 v xs c) (s:St h0 g0 S0 g L h) (k:Nat) (hk:L[k]?=some c)
    (hy:eT C.P h d.sz (e.ev y) m news) (hys:Reads d g1 ys news) (hm:ys.length=m) (hlen:(xs.length+ys.length)*dx≤140737488355328)
    (hM:∀p∈c,p.1<r.size→M p.1)
    (K:∀u c' h',aJ E d g1 u (xs++ys) c'→St h0 g0 S0 g (L.set k c') h'→(u=.slice none 0 0→xs++ys=[])→Op C ds i r M Ls ((dst,u)::e) h'):Op C ds i r M ((j,false)::Ls) e h:=by
  obtain⟨o',h1,h2,h3⟩:=gT ho
  obtain⟨a7,z,I⟩:=sZ hI
  subst hm
  have ab:z.cells.toList=d.zc:=by simpa[I.info,I.zero] using hz
  have a8:xs.length+ys.length≤140737488355328:=by
    have:(xs.length+ys.length)*1≤(xs.length+ys.length)*dx:=xA _ I.Dh
    omega
  have O:=s.aa k hk
  have hset:=zp k L c
  refine Op.run h1 (R:=fun ad h'=>∃u c',ad=.value u∧aJ E d g1 u (xs++ys) c'∧St h0 g0 S0 g (L.set k c') h'∧(u=.slice none 0 0→xs++ys=[])∧(ez r M h→ez r M h')) ?_ ?_
  · intro w is
    have hh:=is.heap
    have grow:∀(ao:Option Addr) (cap:Nat) (oe:List Value),v=.slice ao xs.length cap→eT C.P h d.sz v xs.length oe→Reads d g1 xs oe→cap<xs.length+ys.length→
        ∃x w',(fL e o').run C.P w=.ok x w'∧Is C.B w'.heap w'∧∃u c',x=.value u∧aJ E d g1 u (xs++ys) c'∧St h0 g0 S0 g (L.set k c') w'.heap∧(u=.slice none 0 0→xs++ys=[])∧(ez r M h→ez r M w'.heap):=by
      intro ao cap oe ev ho hro hg
      have hrun:=MD (P:=C.P) (w:=w) (ty:=o'.type) I ht' (ao:=ao) (n:=xs.length) (cap:=cap) (m:=ys.length) (x:=e.ev y) (oe:=oe) (news:=news)
        (by rw[hh,←ev];exact ho) (by rw[hh];exact hy) hg hlen
      have G:=qJ (P:=C.P) (w:=w) (e:=e) (v:=.slice (some ⟨w.heap.size,0,none⟩) (xs.length+ys.length) (grownCap w (xs.length+ys.length) cap E)) h3 (.inl rfl) (by
        simp only[qI,eR,kG,hx,ev]
        exact hrun)
      refine⟨_,_,G,⟨rfl,is.os,is.tape,is.output⟩,_,[(w.heap.size,_)],rfl,.inr ⟨w.heap.size,0,grownCap w (xs.length+ys.length) cap E,((oe++news).toArray++Builtin.zeroCells z.cells (grownCap w (xs.length+ys.length) cap E-(xs.length+ys.length))),List.replicate (grownCap w (xs.length+ys.length) cap E-(xs.length+ys.length)) d.zv,?_,rfl,?_,?_,?_,?_⟩,?_,?_,?_⟩
      · rw[cA]
      · have ae:=zx w (xs.length+ys.length) cap E
        rw[cA,p7];omega
      · exact Dk w _ _ _ (by unfold maxLen;omega)
      · have h1:=zx w (xs.length+ys.length) cap E
        simp only[Dd,zg,cA,hro.len,hys.len,Dj,I.cells]
        rw[sX,←nD,←nD,F8 h1]
        exact iE _
      · have ae:=zx w (xs.length+ys.length) cap E
        have J:(xs++ys++List.replicate (grownCap w (xs.length+ys.length) cap E-(xs.length+ys.length)) d.zv).length=grownCap w (xs.length+ys.length) cap E:=by simp;omega
        have:=zy (pre:=[]) (post:=[]) (o:=0) ((hro.append hys).append (Dl d g1 z.cells ab (grownCap w (xs.length+ys.length) cap E-(xs.length+ys.length)))) rfl ((oe++news).toArray++Builtin.zeroCells z.cells (grownCap w (xs.length+ys.length) cap E-(xs.length+ys.length))) (by simp[De])
        rwa[J] at this
      · refine St.qG (hset _ hk) ?_
        have s1:=O.drop.alloc (.cells ((oe++news).toArray++Builtin.zeroCells z.cells (grownCap w (xs.length+ys.length) cap E-(xs.length+ys.length))) E (0,0))
        rw[←hh] at s1
        exact s1
      · intro hc;simp at hc
      · intro D;rw[←hh] at D;exact ez.push _ D
    rcases hv with ⟨ao,rfl,rfl,rfl⟩|⟨b,o,cap,cur,rest,rfl,rfl,am,ar,aw,U⟩
    · by_cases a0:ys.length=0
      · have hn:ys=[]:=ju a0
        subst hn
        have G:=qJ (P:=C.P) (w:=w) (w':=w) (e:=e) (v:=.slice ao 0 0) h3 (.inl rfl) (by
          simp only[qI,eR,kG,hx]
          obtain⟨a1,hd,a3⟩:=Di ht'
          have hl:=hy.len w hh
          have hcs:=hy.cells w hh 0 (iE _)
          simp only[Builtin.append_,sizeOf,typeInfo]
          simp only[sY,List.getElem?_cons_zero,List.getElem?_cons_succ,Sem.run_bind,run_program,Result.andThen_ok,run_underlying I.under,run_underlying hd,I.info,Sem.run_pure,I.size]
          cases a1<;>first|exact absurd rfl (a3 _)|(simp[hl];simp at hcs;cases ao<;>simp[hcs,storeCells]))
        refine⟨_,_,G,is.again,.slice ao 0 0,[],rfl,.inl ⟨ao,rfl,by simp,rfl⟩,?_,fun _=>by simp,fun D=>by rw[hh];exact D⟩
        rw[hh]
        exact St.qG (hset _ hk) O
      · refine grow ao 0 [] rfl ⟨fun w _=>rfl,fun w _ k hk=>?_,by simp,by simp⟩ rfl (by simp;omega)
        obtain rfl:k=0:=by simpa using hk
        cases ao<;>simp[Builtin.firstCells,loadCells,loadCellsFrom]
    · have hc1:xs.length≤cap:=by omega
      have V:=Bj am U
      have hb:w.heap[b]?=some (.cells cur E (0,0)):=by rw[hh];exact s.ah k hk
      by_cases hroom:xs.length+ys.length≤cap
      · have hrun:=MC (P:=C.P) (w:=w) (ty:=o'.type) I ht' (o:=o) (n:=xs.length) (cap:=cap) (m:=ys.length) (x:=e.ev y) (news:=news) (by rw[hh];exact hy) hb hroom aw
        have G:=qJ (P:=C.P) (w:=w) (e:=e) h3 (.inl rfl) (by
          simp only[qI,eR,kG,hx]
          exact hrun)
        have a9:o+xs.length*d.sz+ys.length*d.sz≤cur.size:=by
          have h2:(xs.length+ys.length)*d.sz≤cap*d.sz:=jW _ hroom
          rw[nD] at h2
          omega
        have X:cur.toList.length=cur.size:=uw
        refine⟨_,_,G,⟨rfl,is.os,is.tape,is.output⟩,_,[(b,_)],rfl,.inr ⟨b,o,cap,(cur.toList.take (o+xs.length*d.sz)++news++cur.toList.drop (o+xs.length*d.sz+news.length)).toArray,rest.drop ys.length,?_,rfl,?_,ar,?_,?_⟩,?_,?_,?_⟩
        · rw[cA]
        · rw[cA,iP];omega
        · rw[zg,cA,cA,e_,iP,hys.len,X,kW (by omega)]
          omega
        · have Y:=(U.jy (xs.length+ys.length) (by rw[cA];omega)).2
          have a4:(xs++rest).drop (xs.length+ys.length)=rest.drop ys.length:=by
            rw[zk,mz (by omega),eN,C5]
          rw[a4] at Y
          have J:(xs++ys++rest.drop ys.length).length=cap:=by simp;omega
          have bc:(xs.length+ys.length)*d.sz≤cap*d.sz:=jW _ hroom
          have:=zy (pre:=cur.toList.take o) (post:=cur.toList.drop (o+cap*d.sz)) (o:=o) ((V.append hys).append Y) (by rw[e_,X];exact kW (by omega))
            ((cur.toList.take (o+xs.length*d.sz)++news++cur.toList.drop (o+xs.length*d.sz+news.length)).toArray) (by
              unfold cut
              rw[F9,Bl,hys.len]
              have e1:((cur.toList.drop o).take (cap*d.sz)).drop ((xs.length+ys.length)*d.sz)++cur.toList.drop (o+cap*d.sz)=cur.toList.drop (o+xs.length*d.sz+ys.length*d.sz):=by
                have e2:cur.toList.drop (o+cap*d.sz)=(cur.toList.drop (o+(xs.length+ys.length)*d.sz)).drop (cap*d.sz-(xs.length+ys.length)*d.sz):=by
                  rw[qs];congr 1;omega
                rw[ux,qs,e2,od,nD,Df]
              simp only[dm]
              rw[e1])
          rwa[J] at this
        · exact s.xy k hk (by have:=jm.row (cs:=(cur.toList.take (o+xs.length*d.sz)++news++cur.toList.drop (o+xs.length*d.sz+news.length)).toArray) hb;rwa[hh] at this)
        · intro hc;simp at hc
        · intro D;rw[←hh] at D;exact ez.row (hM (b,.cells cur E (0,0)) (iw.2 rfl)) D
      · obtain⟨oe,hsrc,hro⟩:=eT.slice (P:=C.P) (h:=h) (g:=g1) (E:=E) (d:=d) (v:=.slice (some ⟨b,o,none⟩) xs.length cap) (ys:=xs)
          ⟨_,cap,rfl,hc1,fun _=>⟨b,o,cur,(E,0,0),rfl,s.ah k hk,V⟩⟩
        exact grow _ cap oe rfl hsrc hro (by omega)
  · rintro _ _ ⟨u,c',rfl,hrow,hst,a5,a6⟩
    refine⟨u,rfl,a6,?_⟩
    rw[h2]
    exact K u c' _ hrow hst a5
end
def aE (P:Program) (B:World) (f:FuncId) (args:Array Value) (h:ax) (g:GH) (Lc:List ay) (D:Value→GH→List ay→Prop):Prop:=
  Bf P B f args h fun v h'=>∃g' u,St h g (aV Lc) g' u h'∧D v g' u
def s5 (C:fP) (i j:Nat) (e:Env):Option (Option Tmp×FuncId×Array Value):=
  match mQ C i j e with
  |some o=>match pY C.P (fL e o) with
   |some (.enter f args)=>some (o.dst,f,args)
   |_=>none
  |none=>none
theorem Gb {C:fP} {i j:Nat} {e:Env} {d:Option Tmp} {f:FuncId} {args:Array Value} (h:s5 C i j e=some (d,f,args)):
    ∃o,mQ C i j e=some o∧o.dst=d∧pY C.P (fL e o)=some (.enter f args):=by
  unfold s5 at h
  split at h
  · rename_i o ho
    split at h
    · rename_i f' u hp
      simp only[fu,iM] at h
      obtain⟨rfl,rfl,rfl⟩:=h
      exact⟨o,ho,rfl,hp⟩
    · cases h
  · cases h
structure fc (P:Program) (f:FuncId):Prop where
  out:∃fn,P.funcs[f]?=some fn∧(fn.name=="runtime.NumGoroutine")=false∧fn.body.isSome=true
def Gc (P:Program) (f:FuncId):Bool:=match P.funcs[f]? with
  |some fn=>!(fn.name=="runtime.NumGoroutine")&&fn.body.isSome
  |none=>false
theorem fc.of {P:Program} {f:FuncId} (h:Gc P f=true):fc P f:=by
  unfold Gc at h
  split at h
  · rename_i fn hf
    simp only[b_,gN] at h
    exact⟨fn,hf,h.1,h.2⟩
  · cases h
section
variable {C:fP} {ds:List Deferred} {i j:Nat} {r:ax} {M:Nat→Prop} {Ls:List (Nat×Bool)} {e:Env} {h:ax}
variable {h0:ax} {g0:GH} {S0:Nat→Prop} {g:GH} {L L':List ay}
theorem Op.Gd {o:Oper} {f:FuncId} {args:Array Value} {Lc:List ay} {D:Value→GH→List ay→Prop} (h1:mQ C i j e=some o)
    (hp:∀w,(fL e o).run C.P w=.ok (.enter f args) w)
    (s:St h0 g0 S0 g (Lc++L) h) (H:aE C.P C.B f args h g Lc D) (hM:∀b,b<r.size→aV Lc b→M b)
    (K:∀v g' u h',aM g g'→St h0 g0 S0 g' (u++L) h'→D v g' u→Op C ds i r M Ls (e.gJ o.dst v) h'):Op C ds i r M ((j,false)::Ls) e h:=by
  refine Op.zo h1 fun w is hk a ft=>?_
  rw[hp w]
  refine Calls.mono (H w is) fun J w' ⟨v,he,G,g',u,t,I⟩=>?_
  exact⟨v,he,⟨t.jJ hM hk,G⟩,_,ft.gJ (uA h1).2.2.2.1 v,K v g' u _ t.le (s.join t) I⟩
theorem Op.call {dst:Option Tmp} {f:FuncId} {args:Array Value} {Lc:List ay} {u:Value→GH→List ay→Prop} (ho:s5 C i j e=some (dst,f,args))
    (s:St h0 g0 S0 g (Lc++L) h) (H:aE C.P C.B f args h g Lc u) (hM:∀b,b<r.size→aV Lc b→M b)
    (K:∀v g' D h',aM g g'→St h0 g0 S0 g' (D++L) h'→u v g' D→Op C ds i r M Ls (e.gJ dst v) h'):Op C ds i r M ((j,false)::Ls) e h:=by
  obtain⟨o,h1,rfl,hp⟩:=Gb ho
  exact Op.Gd h1 (xw _ hp) s H hM K
theorem Op.Ge {dst:Option Tmp} {f:FuncId} {args:Array Value} {u:Value→GH→List ay→Prop} (ho:s5 C i j e=some (dst,f,args))
    (s:St h0 g0 S0 g L h) (H:aE C.P C.B f args h g [] u)
    (K:∀v g' D h',aM g g'→St h0 g0 S0 g' (D++L) h'→u v g' D→Op C ds i r M Ls (e.gJ dst v) h'):Op C ds i r M ((j,false)::Ls) e h:=
  Op.call (Lc:=[]) ho s H (fun _ _ h=>absurd h (dB _)) K
theorem Op.MF {dst:Option Tmp} {x:Operand} {ops:Array Operand} {ts:Array TypeId} {f:FuncId} {first cap:Array Value} {Lc:List ay} {u:Value→GH→List ay→Prop}
    (ho:dS C i j e=some (dst,.call {callee:=.value x,args:=ops,argTypes:=ts})) (hx:e.ev x=.func (.func f) first cap) (hf:fc C.P f) {args:Array Value} (ha:first++ops.map e.ev++cap=args)
    (s:St h0 g0 S0 g (Lc++L) h) (H:aE C.P C.B f args h g Lc u) (hM:∀b,b<r.size→aV Lc b→M b)
    (K:∀v g' D h',aM g g'→St h0 g0 S0 g' (D++L) h'→u v g' D→Op C ds i r M Ls (e.gJ dst v) h'):Op C ds i r M ((j,false)::Ls) e h:=by
  obtain⟨o,h1,rfl,h3⟩:=gT ho
  obtain⟨fn,hfn,hname,G⟩:=hf.out
  refine Op.Gd h1 (fun w=>?_) s H hM K
  unfold fL execOp
  have hb:fn.body.isNone=false:=by cases hb:fn.body<;>simp_all
  simp only[h3,resolve,hx,Deferred.ofValue,Sem.run_bind,Sem.run_pure,Result.andThen_ok,invoke,callFunc,run_program,hfn,hname,hb,gA,dV,ha]
def valOf (C:fP) (i j:Nat) (e:Env):Option (Option Tmp×Value):=
  match mQ C i j e with
  |some o=>match pY C.P (fL e o) with
   |some (.value v)=>some (o.dst,v)
   |_=>none
  |none=>none
theorem Op.val {dst:Option Tmp} {v D:Value} {b:Bool} (ho:valOf C i j e=some (dst,v)) (hv:v=D) (K:Op C ds i r M Ls (e.gJ dst D) h):Op C ds i r M ((j,b)::Ls) e h:=by
  unfold valOf at ho
  split at ho
  · rename_i o h1
    split at ho
    · rename_i u hp
      simp only[fu,iM] at ho
      obtain⟨rfl,rfl⟩:=ho
      subst hv
      exact Op.C8 h1 (fun w=>xw _ hp w) K
    · cases ho
  · cases ho
theorem Op.free {dst:Nat} {op:Go.Op} {v:Value} {b:Bool} (ho:dS C i j e=some (some dst,op)) (H:∀o:Oper,o.op=op→∀w,(execOp e.ev o).run C.P w=.ok (.value v) w)
    (K:Op C ds i r M Ls ((dst,v)::e) h):Op C ds i r M ((j,b)::Ls) e h:=by
  obtain⟨o,h1,h2,h3⟩:=gT ho
  exact Op.C8 h1 (v:=v) (fun w=>H o h3 w) (by rw[h2];exact K)
theorem xC {w:World} {P:Program} {k:IntKind} {n:Int} {y:Nat} {code:BoundsCode} (h0:0≤n) (h1:n≤y):(Instr.sliceBound (.int k n) y code).run P w=.ok n.toNat w:=by
  simp only[Instr.sliceBound,asIntOf,Sem.run_bind,Sem.run_pure,Result.andThen_ok,h0,h1,and_self,jl]
theorem Op.MG {dst:Nat} {T:TypeId} {x lo:Operand} {l:an} {k:IntKind} {n:Int} {b:Bool} (ho:dS C i j e=some (some dst,.slice T x (some lo) none none)) (hT:C.P.underlying T=some .string)
    (hx:e.ev x=.string (bp l)) (hlo:e.ev lo=.int k n) (h0:0≤n) (h1:n≤l.length)
    (K:Op C ds i r M Ls ((dst,.string (bp (l.drop n.toNat)))::e) h):Op C ds i r M ((j,b)::Ls) e h:=by
  refine Op.free ho (fun o ho w=>?_) K
  simp only[execOp,ho,mS,Option.map_none,Instr.sliceAt,Instr.slice,hx,hlo,Sem.run_bind,Sem.run_pure,Result.andThen_ok,run_underlying hT,Instr.sliceBounds,Option.isSome_none,gA,dV,qH,xC h0 h1,F7,xz]
theorem Op.MH {dst:Nat} {T:TypeId} {x hi:Operand} {l:an} {k:IntKind} {n:Int} {b:Bool} (ho:dS C i j e=some (some dst,.slice T x none (some hi) none)) (hT:C.P.underlying T=some .string)
    (hx:e.ev x=.string (bp l)) (hhi:e.ev hi=.int k n) (h0:0≤n) (h1:n≤l.length)
    (K:Op C ds i r M Ls ((dst,.string (bp (l.take n.toNat)))::e) h):Op C ds i r M ((j,b)::Ls) e h:=by
  refine Op.free ho (fun o ho w=>?_) K
  simp only[execOp,ho,mS,Option.map_none,Instr.sliceAt,Instr.slice,hx,hhi,Sem.run_bind,Sem.run_pure,Result.andThen_ok,run_underlying hT,Instr.sliceBounds,Option.isSome_none,gA,dV,qH,xC h0 h1,F7,zq]
theorem Op.MI {dst:Nat} {T T':TypeId} {x y:Operand} {l m:an} {b:Bool} (ho:dS C i j e=some (some dst,.binOp .add T x y T'))
    (hx:e.ev x=.string (bp l)) (hy:e.ev y=.string (bp m)) (hl:l.length+m.length≤9223372036854775807)
    (K:Op C ds i r M Ls ((dst,.string (bp (l++m)))::e) h):Op C ds i r M ((j,b)::Ls) e h:=by
  refine Op.free ho (fun o ho w=>?_) K
  have h1:¬(((bp l).size+(bp m).size:Nat):Int)>IntKind.i64.max:=by rw[qH,qH];show ¬_>(9223372036854775807:Int);omega
  simp only[execOp,ho,hx,hy,eqGuard,Sem.run_bind,Sem.run_pure]
  simp only[binOp,Op.stringOp,h1,dV,Sem.run_pure,Mx,uC,jl,Result.andThen_ok]
theorem Op.gv {dst:Nat} {T E:TypeId} {sz dx:Nat} {x ix:Operand} {u o n c:Nat} {k:IntKind} {m:Int} {b:Bool} (ho:dS C i j e=some (some dst,.indexAddr T x ix)) (hE:l6 C.P T=some (E,sz,dx))
    (hx:e.ev x=.slice (some ⟨u,o,none⟩) n c) (D:e.ev ix=.int k m) (h0:0≤m) (h1:m<n)
    (K:Op C ds i r M Ls ((dst,.pointer (some ⟨u,o+m.toNat*sz,none⟩))::e) h):Op C ds i r M ((j,b)::Ls) e h:=by
  obtain⟨G,z,I⟩:=sZ hE
  refine Op.free ho (fun o' ho w=>?_) K
  have hi:=I.info
  simp only[execOp,ho,Instr.indexAt,hx,D,asIntOf,Sem.run_bind,Sem.run_pure,Result.andThen_ok,run_underlying I.under,h0,h1,and_self,jl,sizeOf,typeInfo,run_program,hi,I.size,jT]
def eZ (ao:Option Addr) (l m sz:Nat):Option Addr:=if m=l then ao else ao.map (·.add (l*sz))
theorem Op.Gf {dst:Nat} {T E:TypeId} {sz dx:Nat} {x lo:Operand} {ao:Option Addr} {n c:Nat} {k:IntKind} {m:Int} {b:Bool} (ho:dS C i j e=some (some dst,.slice T x (some lo) none none)) (hE:l6 C.P T=some (E,sz,dx))
    (hx:e.ev x=.slice ao n c) (hlo:e.ev lo=.int k m) (h0:0≤m) (h1:m≤n)
    (K:Op C ds i r M Ls ((dst,.slice (eZ ao m.toNat c sz) (n-m.toNat) (c-m.toNat))::e) h):Op C ds i r M ((j,b)::Ls) e h:=by
  obtain⟨u,z,I⟩:=sZ hE
  refine Op.free ho (fun o' ho w=>?_) K
  have hi:=I.info
  simp only[execOp,ho,mS,Option.map_none,Instr.sliceAt,Instr.slice,hx,hlo,Sem.run_bind,Sem.run_pure,Result.andThen_ok,run_underlying I.under,Instr.sliceBounds,Option.isSome_none,gA,dV,xC h0 h1,sizeOf,typeInfo,run_program,hi,I.size,eZ]
theorem Op.Bm {dst:Nat} {T E:TypeId} {sz dx:Nat} {x hi:Operand} {ao:Option Addr} {n c:Nat} {k:IntKind} {m:Int} {b:Bool} (ho:dS C i j e=some (some dst,.slice T x none (some hi) none)) (hE:l6 C.P T=some (E,sz,dx))
    (hx:e.ev x=.slice ao n c) (hhi:e.ev hi=.int k m) (h0:0≤m) (h1:m≤c)
    (K:Op C ds i r M Ls ((dst,.slice (eZ ao 0 c sz) m.toNat c)::e) h):Op C ds i r M ((j,b)::Ls) e h:=by
  obtain⟨u,z,I⟩:=sZ hE
  refine Op.free ho (fun o' ho w=>?_) K
  have hi:=I.info
  simp only[execOp,ho,mS,Option.map_none,Instr.sliceAt,Instr.slice,hx,hhi,Sem.run_bind,Sem.run_pure,Result.andThen_ok,run_underlying I.under,Instr.sliceBounds,Option.isSome_none,gA,dV,xC h0 h1,sizeOf,typeInfo,run_program,hi,I.size,eZ,Nat.sub_zero]
theorem Op.MJ {dst:Nat} {T E:TypeId} {sz dx:Nat} {x lo hi:Operand} {ao:Option Addr} {n c:Nat} {k k':IntKind} {m m':Int} {b:Bool} (ho:dS C i j e=some (some dst,.slice T x (some lo) (some hi) none)) (hE:l6 C.P T=some (E,sz,dx))
    (hx:e.ev x=.slice ao n c) (hlo:e.ev lo=.int k m) (hhi:e.ev hi=.int k' m') (h0:0≤m) (h1:m≤m') (h2:m'≤c)
    (K:Op C ds i r M Ls ((dst,.slice (eZ ao m.toNat c sz) (m'.toNat-m.toNat) (c-m.toNat))::e) h):Op C ds i r M ((j,b)::Ls) e h:=by
  obtain⟨u,z,I⟩:=sZ hE
  refine Op.free ho (fun o' ho w=>?_) K
  have hi:=I.info
  have h3:0≤m':=by omega
  have h4:m≤(m'.toNat:Int):=by omega
  simp only[execOp,ho,mS,Option.map_none,Instr.sliceAt,Instr.slice,hx,hlo,hhi,Sem.run_bind,Sem.run_pure,Result.andThen_ok,run_underlying I.under,Instr.sliceBounds,Option.isSome_none,gA,dV,xC h3 h2,xC h0 h4,sizeOf,typeInfo,run_program,hi,I.size,eZ]
def Gg (z:Array Value) (n:Nat):Array Value:=(Array.range n).map (z[· % z.size]!)
def Dm (P:Program) (T:TypeId) (len:Nat) (jy:List (Nat×Value)):Option (TypeId×Array Value):=
  match P.underlying T with
  |some (.slice E)=>match P.info? E with
   |some i=>match i.zero with
    |some z=>if Nat.ble (len*i.size) 1000 then (Instr.fill (fun k=>some (k*i.size,i.size)) (if len*i.size=0 then #[] else Gg z.cells (len*i.size)) jy).map fun c=>(E,c) else none
    |none=>none
   |none=>none
  |_=>none
theorem Op.lit {dst:Nat} {T E:TypeId} {len:Nat} {jy:Array (Nat×Operand)} {cs:Array Value} (ho:dS C i j e=some (some dst,.buildSlice T len jy))
    {ps:List (Nat×Value)} (hps:(jy.map fun(k,x)=>(k,e.ev x)).toList=ps) (hc:Dm C.P T len ps=some (E,cs)) (s:St h0 g0 S0 g L h)
    (K:∀b h',St h0 g0 S0 g ([(b,.cells cs E (0,0))]::L) h'→Op C ds i r M Ls ((dst,.slice (some ⟨b,0,none⟩) len len)::e) h'):Op C ds i r M ((j,false)::Ls) e h:=by
  obtain⟨o,h1,h2,h3⟩:=gT ho
  refine Op.run h1 (R:=fun G h'=>G=.value (.slice (some ⟨h.size,0,none⟩) len len)∧h'=h.push (.cells cs E (0,0))) ?_ ?_
  · intro w is
    refine⟨.value (.slice (some ⟨h.size,0,none⟩) len len),{w with heap:=w.heap.push (.cells cs E (0,0))},?_,⟨rfl,is.os,is.tape,is.output⟩,rfl,by rw[←is.heap]⟩
    unfold Dm at hc
    split at hc
    · rename_i J hu
      split at hc
      · rename_i u hi
        split at hc
        · rename_i z hz
          split at hc
          · rename_i hle
            obtain⟨cs',hf,he⟩:=pN.1 hc
            simp only[iM] at he
            obtain⟨rfl,rfl⟩:=he
            have hle:¬len*u.size>2 ^ 24:=by have:=kV hle;omega
            have D:List.map (fun x=>(x.fst,e.ev x.snd)) jy.toList=ps:=by rw[←hps];simp
            unfold fL execOp
            by_cases h0:len*u.size=0
            · simp only[h0,jl] at hf
              have I:(Array.range 0).map (fun _=>(default:Value))=#[]:=by simp
              simp[h3,Instr.buildSlice,run_underlying hu,sizeOf,typeInfo,hi,h0,D,I,hf,newRow,is.heap]
            · simp only[h0,dV] at hf
              unfold Gg at hf
              simp only[gt_iff_lt] at hle
              simp[h3,Instr.buildSlice,run_underlying hu,sizeOf,typeInfo,hi,hle,h0,hz,zeroValue,D,hf,newRow,is.heap]
          · cases hc
        · cases hc
      · cases hc
    · cases hc
  · rintro _ _ ⟨rfl,rfl⟩
    refine⟨_,rfl,ez.push _,?_⟩
    rw[h2]
    exact K _ _ (s.alloc _)
theorem eT.lit {P:Program} {h:ax} {b sz m:Nat} {cs:Array Value} {u:TypeId} {fz:Nat×Nat} (hb:h[b]?=some (.cells cs u fz)) {news:List Value} (hn:cs.toList=news) (hm:news.length=m*sz) (h1:∀v∈news,v.oneCell'=true) (c:Nat):
    eT P h sz (.slice (some ⟨b,0,none⟩) m c) m news:=by
  refine⟨fun _ _=>rfl,fun w hw k hk=>?_,hm,h1⟩
  have hl:(news.take (k*sz)).length=k*sz:=by rw[e_,hm,kW (jW _ hk)]
  have:=C9 (P:=P) (w:=w) ⟨b,0,none⟩ (news.take (k*sz)) 0 #[] (fun j v hj=>by
    rw[sX,jT,cell_of hw,p6 hb,sX]
    subst hn
    rw[uv] at hj
    split at hj
    · simpa using hj
    · cases hj)
  rw[hl] at this
  simpa[Builtin.firstCells,loadCells] using this
theorem Op.alloc {dst:Nat} {T:TypeId} {cs:Array Value} (ho:dS C i j e=some (some dst,.alloc T)) (hz:(C.P.info? T).bind (fun t=>t.zero.map Value.cells)=some cs) (s:St h0 g0 S0 g L h)
    (K:∀b h',St h0 g0 S0 g ([(b,.cells cs T (0,0))]::L) h'→Op C ds i r M Ls ((dst,.pointer (some ⟨b,0,none⟩))::e) h'):Op C ds i r M ((j,false)::Ls) e h:=by
  obtain⟨o,h1,h2,h3⟩:=gT ho
  obtain⟨I,hi,hz⟩:=F_.1 hz
  obtain⟨z,u,rfl⟩:=pN.1 hz
  refine Op.run h1 (R:=fun D h'=>D=.value (.pointer (some ⟨h.size,0,none⟩))∧h'=h.push (.cells z.cells T (0,0))) ?_ ?_
  · intro w is
    refine⟨.value (.pointer (some ⟨h.size,0,none⟩)),{w with heap:=w.heap.push (.cells z.cells T (0,0))},?_,⟨rfl,is.os,is.tape,is.output⟩,rfl,by rw[←is.heap]⟩
    unfold fL execOp
    have G:(zeroValue T).run C.P w=.ok z w:=by
      simp only[zeroValue,typeInfo,Sem.run_bind,run_program,Result.andThen_ok,hi,Sem.run_pure]
      rw[u]
      rfl
    simp only[h3,Instr.alloc,Sem.run_bind,G,newVar,newRow,run_newObj,Result.andThen_ok,Sem.run_pure,is.heap]
  · rintro _ _ ⟨rfl,rfl⟩
    refine⟨_,rfl,ez.push _,?_⟩
    rw[h2]
    exact K _ _ (s.alloc _)
def splice (cs:Array Value) (o:Nat) (vs:List Value):Array Value:=(cs.toList.take o++vs++cs.toList.drop (o+vs.length)).toArray
theorem Op.store {T:TypeId} {x y:Operand} {b o n:Nat} {a?:Bool} {vs:List Value} (ho:dS C i j e=some (none,.store T x y)) (hx:e.ev x=.pointer (some ⟨b,o,none⟩)) (hy:(e.ev y).cells.toList=vs)
    (hT:l5 C.P T=some (a?,n)) (hn:vs.length=n) (h1:∀v∈vs,v.oneCell'=true) {cs cs':Array Value} {D:TypeId} (s:St h0 g0 S0 g L h) (k:Nat) (hk:L[k]?=some [(b,.cells cs D (0,0))])
    (O:o+n≤cs.size) (hcs:splice cs o vs=cs') (hM:b<r.size→M b)
    (K:∀h',St h0 g0 S0 g (L.set k [(b,.cells cs' D (0,0))]) h'→Op C ds i r M Ls e h'):Op C ds i r M ((j,false)::Ls) e h:=by
  obtain⟨o',I,h2,h3⟩:=gT ho
  subst hcs
  have hsz:∃G,C.P.info? T=some G∧G.size=n:=by
    unfold l5 at hT
    split at hT
    · rename_i d G hd hi
      simp only[fu,iM] at hT
      exact⟨G,hi,hT.2⟩
    · cases hT
  obtain⟨G,hi,hs⟩:=hsz
  refine Op.skip I (R:=fun J h'=>J=.skip∧jm h b (.cells (splice cs o vs) D (0,0)) h') ?_ ?_
  · intro w is
    have hb:w.heap[b]?=some (.cells cs D (0,0)):=by rw[is.heap];exact s.ah k hk
    have hst:=run_storeCells_at C.P b o D vs 0 cs w hb (by omega) h1
    simp only[lG] at hst
    refine⟨_,w.setRow b (splice cs o vs),?_,⟨rfl,is.os,is.tape,is.output⟩,rfl,?_⟩
    · have hc:(e.ev y).cells.size=n:=by rw[←hn,←hy,uw]
      unfold fL execOp
      simp only[h3,hx,Instr.storeAt,Instr.sureAddr,storeVar,sizeOf,typeInfo,Sem.run_bind,Sem.run_pure,Result.andThen_ok,run_program,hi,hs,hc,ne_eq,kE,dV,hy,hst]
      rfl
    · have:=jm.row (cs:=splice cs o vs) hb
      rwa[is.heap] at this
  · rintro _ h' ⟨rfl,u⟩
    refine⟨rfl,u.jJ hM,?_⟩
    rw[h2]
    exact K h' (s.xy k hk u)
end
end Go.Proofs.YtceekbnihfckeaaGreatDoor.Sw
