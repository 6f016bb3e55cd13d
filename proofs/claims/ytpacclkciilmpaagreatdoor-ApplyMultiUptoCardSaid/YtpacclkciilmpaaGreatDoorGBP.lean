/- Lemmas for laws of this seat. -/
import Derived.Test.YtpacclkciilmpaaGreatDoorGBO
import Derived.Test.YtpacclkciilmpaaGreatDoorCards
import Derived.Test.YtpacclkciilmpaaGreatDoorTie
import Derived.WalkKit
import Derived.ProofKit
import Derived.OpenShut
import Derived.ReadAgain
import Derived.Shelf.Vars
import Derived.Deep.Slices
import Derived.ChangeMaps5
import Derived.Deep.DeepHandedRow
import Derived.Lib.LaidTab
set_option maxHeartbeats 4000000
namespace Go.Proofs.YtpacclkciilmpaaGreatDoor.Sw
open Go.Proofs.Tryz
set_option linter.unusedVariables false
set_option linter.unusedSimpArgs false
set_option linter.deprecated false
open Go Go.ChangeShapes Go.WideShapes Go.ChangeAt Go.RowKit Go.Deep Go.ChangeMaps
set_option linter.defProp false
def AN:=@List.length_range
def DW:=@List.sum_cons
def oY (w:World):GH:=fun b=>w.heap[b]?
theorem Lv (w:World):bf (oY w) w.heap:=fun _ _ h=>h
section
variable {H:Type} {enc:TypeId×Value→H} {P:Program} {w w':World} {oZ:Nat} {sp:Nat→Bool} {hd:Bool}
theorem Ug (hold:∀b,b<w.heap.size→w'.heap[b]?=w.heap[b]?) {p:MemPlace} (hp:p.block<w.heap.size):w.sameAt w' p:=by
  cases p with
  |cell b off=>
   have hb:=hold b hp
   show w'.cell? _=w.cell? _
   simp only[World.cell?,hb]
  |map b=>exact hold b hp
theorem Lw:∀{ts:List TypeId} {vs:List Value} {ds:List (DataW H)} {ps:List MemPlace},DataW.TrodAll enc P w oZ sp hd ts vs ds ps→(∀p∈ps,w.sameAt w' p)→DataW.TrodAll enc P w' oZ sp hd ts vs ds ps
  |[],[],[],_,h,_=>h
  |_::_,_::_,_::_,_,⟨p,q,⟨n,h1⟩,h2,e⟩,u=>
   ⟨p,q,⟨n,DataW.trod_carry n _ _ _ h1 (fun x hx=>u x (by rw[e];exact yy _ hx))⟩,Lw h2 (fun x hx=>u x (by rw[e];exact A4 _ hx)),e⟩
theorem Uh (u:w'.os=w.os) (D:w'.output=w.output) (hold:∀b,b<w.heap.size→w'.heap[b]?=w.heap[b]?) (G:MemPlace→Prop):w.keptBut w' G:=by
  refine⟨u,D,fun i hi=>?_⟩
  rw[hold i hi]
  cases w.heap[i]? with
  |none=>rfl
  |some o=>cases o<;>simp
theorem Lx {W u:World} {f:Func} {s:ChangeSpec} {apart fresh handsOn:Bool} {args:Array Value} {ds gs:List (DataW H)} {D:List MemPlace} {tb:TypeId}
    (hl:laidOutB P=true) (hm:mapsRowed P=true) (hz:((List.range P.types.size).all fun t=>match P.underlying t with|some (.slice e)=>decide (0<P.cellsOf e)|_=>true)=true)
    (hts:∀t∈f.params.toList,t<P.types.size) (hv:s.vars=[]) (hr:f.resultTypes=#[tb]) (hb:P.underlying tb=some .bool)
    (hs:gs=[]→s.fn H (ds++gs)={results:=[.lit (.bool true)],args:=ds})
    (G:DataW.Whole enc P f.params.toList s.vars apart W args.toList ds gs D) (J:u.os=W.os) (O:u.output=W.output) (hold:∀b,b<W.heap.size→u.heap[b]?=W.heap[b]?):
    s.post enc P f apart fresh handsOn false W args (.bool true) u:=by
  have hlt:=G.lt
  have U:=G
  obtain⟨p,q,hA,I,e,ab,ad⟩:=G
  rw[hv] at I
  obtain⟨rfl,rfl⟩:=trodVars_none I
  rw[dh] at e
  subst e
  have V:∀sp:Nat→Bool,(∀p∈D,sp p.block=true)→DataW.TrodAll enc P u 0 sp true f.params.toList args.toList ds D:=fun sp X=>
    DataW.TrodAll.respare (kids_rows hl hm) (fun t e ht=>slices_full_of P hz t e ht) hts (Lw hA fun p hp=>Ug hold (hlt p hp)) X
  have Y:∀(b:Nat) (sp:Nat→Bool) (hd:Bool),DataW.TrodAll enc P u b sp hd f.resultTypes.toList ((Value.bool true).resultList f.resultTypes.size) [.lit (.bool true)] []:=fun b sp hd=>by
    rw[hr];exact trodAll_cons_mk (shut_bool hb true) trodAll_mk0
  have Z:∀p∈D,(fun b=>decide (b<W.heap.size)) p.block=true:=fun p hp=>by simpa using hlt p hp
  refine⟨ds,[],D,[],D,[],U,?_,?_,?_,World.keptBut_mono (fun _ h=>h) (Uh J O hold _),fun h=>by cases h⟩
  · rw[hs rfl];exact Y _ _ _
  · rw[hs rfl];exact V _ Z
  · rw[hs rfl,hv];rfl
end
structure gY (P:Program) (T:TypeId) {α:Type} (d:Kd α) (ok:α→Prop):Prop where
  out:∀{H:Type} {enc:TypeId×Value→H} {w:World} {bD:Nat} {cs:List Value} {x:DataW H×List MemPlace},
    DataW.trod enc P w 0 (fun _=>true) true bD T cs=some x→Rows.uptoBulk x.1≤1048576→∃y,d.K (oY w) y cs∧ok y
section
variable {P:Program} {T E:TypeId}
theorem gY.int {k:IntKind} (ht:P.underlying T=some (.int k)):gY P T (eF k) (fun y=>k.min≤y∧y≤k.max):=⟨fun h hb=>by
  obtain⟨n,rfl,rfl,hw⟩:=DataW.trod_int ht h
  refine⟨n,rfl,?_⟩
  simpa[Lit.wf] using hw⟩
theorem gY.u8 (ht:P.underlying T=some (.int .u8)):gY P T bn (fun _=>True):=⟨fun h hb=>by
  obtain⟨n,rfl,rfl,hw⟩:=DataW.trod_int ht h
  have hw:IntKind.min .u8≤n∧n≤IntKind.max .u8:=by simpa[Lit.wf] using hw
  have hw:0≤n∧n≤255:=hw
  refine⟨UInt8.ofNat n.toNat,?_,trivial⟩
  show[Value.int .u8 n]=[Value.int .u8 ((UInt8.ofNat n.toNat).toNat:Int)]
  rw[Bn,sU (by omega),Bo hw.1]⟩
theorem gY.bool (ht:P.underlying T=some .bool):gY P T Mw (fun _=>True):=⟨fun h hb=>by
  obtain⟨n,rfl,rfl⟩:=DataW.trod_bool ht h
  exact⟨n,rfl,trivial⟩⟩
theorem DX {H:Type} (d:DataW H):1≤Rows.uptoBulk d:=by
  cases d with
  |lit l=>cases l<;>simp[Rows.uptoBulk]
  |nil=>simp[Rows.uptoBulk]
  |ptr _=>simp[Rows.uptoBulk]
  |slice _ _=>simp[Rows.uptoBulk]
  |agg _=>simp[Rows.uptoBulk]
  |iface _ _=>simp[Rows.uptoBulk]
  |map _=>simp[Rows.uptoBulk]
  |held _=>simp[Rows.uptoBulk]
theorem mW {H:Type} {d:DataW H}:∀{ds:List (DataW H)},d∈ds→Rows.uptoBulk d≤Rows.uptoBulkAll ds
  |_::r,h=>by
   rw[Rows.uptoBulkAll]
   rcases fe.1 h with rfl|h
   · omega
   · have:=mW h;omega
theorem DY {H:Type}:∀ds:List (DataW H),ds.length≤Rows.uptoBulkAll ds
  |[]=>by simp
  |d::r=>by have:=DX d;have:=DY r;rw[Rows.uptoBulkAll,bL];omega
theorem DZ {α:Type} {p:Nat→α→Prop}:∀(n:Nat),(∀i,i<n→∃y,p i y)→∃ys:List α,ys.length=n∧∀i y,ys[i]?=some y→p i y
  |0,_=>⟨[],rfl,fun i y h=>by simp at h⟩
  |n+1,h=>by
   obtain⟨ys,hl,hp⟩:=DZ n fun i hi=>h i (by omega)
   obtain⟨y,hy⟩:=h n (by omega)
   refine⟨ys++[y],by simp[hl],fun i z hz=>?_⟩
   rw[wR] at hz
   split at hz
   · exact hp i z hz
   · rename_i u
     rw[List.getElem?_singleton] at hz
     split at hz
     · have:i=n:=by omega
       subst this
       have:=fT hz
       subst this;exact hy
     · cases hz
theorem D0 {α:Type} {d:Kd α} {g:GH} {cur:Array Value}:∀(ys:List α) (o:Nat),(∀i y,ys[i]?=some y→d.K g y (cut cur (o+i*d.sz) d.sz))→Reads d g ys (cut cur o (ys.length*d.sz))
  |[],o,_=>by simp[Reads,cut]
  |y::ys,o,h=>by
   have ih:=D0 ys (o+d.sz) fun i z hz=>by
     have:=h (i+1) z (by simpa using hz)
     rwa[kZ,wv (i*d.sz),←yF] at this
   refine⟨cut cur o d.sz,cut cur (o+d.sz) (ys.length*d.sz),?_,by simpa using h 0 y rfl,ih⟩
   unfold cut
   rw[bL,kZ,wv,wz,o8]
theorem AO {w:World} {b o n:Nat} {cs:List Value} (h:w.cells? 0 ⟨b,o,none⟩ n=some cs) (hn:0<n):∃cur u fz,w.heap[b]?=some (.cells cur u fz)∧cs=cut cur o n:=by
  unfold World.cells? at h
  rw[aL (gO _)] at h
  have hl:=Lib.mapM_length h
  rw[AN] at hl
  have D:∀i,i<n→w.cell? ⟨b,o+i,none⟩=cs[i]?:=fun i hi=>by
    obtain⟨v,hv,hf⟩:=Lib.mapM_at h i i (by simp[hi])
    rw[k_] at hf
    rw[hv,hf]
  have h0:=D 0 hn
  rw[kE (by omega)] at h0
  unfold World.cell? at h0
  simp only[m_] at h0
  split at h0
  · rename_i cur u fz hb
    refine⟨cur,u,fz,hb,?_⟩
    apply yE
    intro k
    unfold cut
    rw[o7]
    by_cases hk:k<n
    · rw[aL hk,←D k hk,cell_of rfl,oy hb,s9]
      simp
    · rw[aB hk,Bd (by omega)]
  · cases h0
theorem gY.sl {α:Type} {d:Kd α} {ok:α→Prop} (I:gY P E d ok) (ht:P.underlying T=some (.slice E)) (hc:P.cellsOf E=d.sz) (hp:0<d.sz):
    gY P T (jC E d) (fun ys=>ys.length≤1048576∧∀y∈ys,ok y):=⟨fun{H enc w bD cs x} h hb=>by
  rcases open_slice ht h with ⟨rfl,rfl⟩|⟨a,len,cap,m,n,u,X,rfl,_,hl,hm,J,rfl,hx⟩
  · exact⟨[],⟨_,rfl,ay.nil _ _ _⟩,by simp,by simp⟩
  · rw[aL rfl] at J
    subst J
    simp only[Rows.uptoBulk] at hb
    have hlen:=DY ((List.range len).map u)
    rw[eu,AN] at hlen
    have D:∀i,i<len→∃y,∃cs',w.cells? 0 (a.add (i*d.sz)) d.sz=some cs'∧d.K (oY w) y cs'∧ok y:=fun i hi=>by
      obtain⟨cs',h1,h2⟩:=hx i (by omega)
      have h3:Rows.uptoBulk (u i)≤Rows.uptoBulkAll ((List.range len).map u):=mW (cF.2 ⟨i,q4.2 hi,rfl⟩)
      obtain⟨y,h4,h5⟩:=I.out h2 (by show Rows.uptoBulk (u i)≤_;omega)
      rw[hc] at h1
      exact⟨y,cs',h1,h4,h5⟩
    obtain⟨ys,O,hy⟩:=DZ len D
    refine⟨ys,⟨_,rfl,_,m,by rw[O],by omega,fun hne=>?_⟩,by omega,fun y hm=>?_⟩
    · obtain⟨b,o,spot⟩:=a
      have h0:0<len:=by
        rcases Nat.eq_zero_or_pos len with h|h
        · exact absurd (lg (by omega)) hne
        · exact h
      have U:spot=none:=by
        obtain⟨_,cs',h1,_⟩:=D 0 h0
        unfold World.cells? at h1
        rw[aL (gO _)] at h1
        obtain⟨v,_,hf⟩:=Lib.mapM_at h1 0 0 (by simp[hp])
        simpa[Addr.add] using World.cell?_spot hf
      subst U
      obtain⟨_,Y,h1,_⟩:=D 0 h0
      rw[yV,k_,m_] at h1
      obtain⟨cur,V,fz,hb',_⟩:=AO h1 hp
      refine⟨b,o,cur,(V,fz),rfl,hb',D0 ys o fun i y hi=>?_⟩
      obtain⟨cs',h2,h3,_⟩:=hy i y hi
      rw[k_] at h2
      obtain⟨Z,ab,ad,G,e⟩:=AO h2 hp
      rw[hb'] at G
      simp only[eN,Obj.cells.injEq] at G
      obtain⟨rfl,_,_⟩:=G
      rw[←e];exact h3
    · obtain⟨i,hi⟩:=nh.1 hm
      obtain⟨_,_,_,hok⟩:=hy i y hi
      exact hok⟩
end
section
variable {P:Program} {w:World} {T:TypeId} {H:Type} {enc:TypeId×Value→H} {v:Value} {dt:DataW H} {ps:List MemPlace} {b0:Nat} {r:Reach}
theorem AP {α:Type} {E:TypeId} {d:Kd α} {ok:List α→Prop} (I:gY P T (jC E d) ok) (ht:P.underlying T=some (.slice E)) (u:Value.okWide P w r b0 T v) (h:DataW.Trod enc P w 0 (fun _=>true) true T v dt ps) (hb:Rows.uptoBulk dt≤1048576):
    ∃ys:List α,ay (oY w) E d v ys∧ok ys:=by
  obtain⟨a0,len,cap,rfl⟩:=okWide_slice ht u
  obtain⟨bD,hf⟩:=h
  obtain⟨ys,⟨D,e,hs⟩,hk⟩:=I.out hf hb
  have e2:D=.slice a0 len cap:=by simpa[Value.cells] using e.symm
  exact⟨ys,e2▸hs,hk⟩
end
theorem mX {P:Program} {w:World} {H:Type} {enc:TypeId×Value→H} {n:Nat} {fs:Array Field} {cs:List Value} {xs:List (DataW H×List MemPlace)}
    (hf:∀(i:Nat) (f:Field),fs[i]?=some f→DataW.trod enc P w 0 (fun _=>true) true n f.type ((cs.drop f.offset).take (P.cellsOf f.type))=xs[i]?)
    (i t o m:Nat) (hi:(fs[i]?).map (fun f=>(f.type,f.offset))=some (t,o)) (hm:P.cellsOf t=m):DataW.trod enc P w 0 (fun _=>true) true n t ((cs.drop o).take m)=xs[i]?:=by
  obtain⟨f,h1,h2⟩:=q6.1 hi
  simp only[iB] at h2
  obtain⟨rfl,rfl⟩:=h2
  subst hm
  exact hf i f h1
theorem Lz {W:World} (h:W.ShapedOpen prog):bh (oY W):=by
  obtain⟨m,hm⟩:=cell_of_shapedOpen_int (g:=0) (zero:=#[.int .i64 0]) (t:=3) (k:=.i64) h (jb (by kernel_rfl)) (by kernel_rfl) rfl (by kernel_rfl) (by kernel_rfl) underlying3
  unfold World.cell? at hm
  split at hm
  · rename_i cur u fz hb
    exact⟨m,cur,u,fz,hb,by simpa using hm⟩
  · cases hm
theorem AQ {P:Program} {W:World} {x:String×DataW Unit} {l:List (String×DataW Unit)} (h:laidMet P (x::l) W):laidMet P l W:=by
  obtain⟨n,d⟩:=x
  obtain⟨ps,⟨g,t,cs,bD,p,q,_,_,_,_,hr,rfl⟩,hn,hc⟩:=h
  refine⟨q,hr,?_,fun b off hm=>hc b off (A4 _ hm)⟩
  exact(mF.1 hn).2.1
theorem LA {W:World} {rest:List (String×DataW Unit)} (h:laidMet prog (("internal/strconv.uint64pow10",Lib.tabData .u64 Lib.pow10Tab)::rest) W):l7 (oY W):=by
  have ht:=Lib.tabIs_of_head (g:=1) (t:=311) (e:=233) (n:=20) (by kernel_rfl) (by kernel_rfl) (by kernel_rfl) (by kernel_rfl) (by kernel_rfl) (by kernel_rfl) h
  unfold Lib.TabIs World.var? at ht
  rw[show prog.globalNamed "internal/strconv.uint64pow10"=some 1 by kernel_rfl] at ht
  simp only[Option.bind_some] at ht
  split at ht
  · rename_i cur u fz hb
    have:=fT ht
    subst this
    exact⟨u,fz,hb⟩
  · cases ht
set_option maxRecDepth 100000
structure ug (N:Nat) (P:Program) (T:TypeId) {α:Type} (d:Kd α) (ok:Nat→α→Prop):Prop where
  out:∀{H:Type} {enc:TypeId×Value→H} {w:World} {bD:Nat} {cs:List Value} {x:DataW H×List MemPlace},
    DataW.trod enc P w 0 (fun _=>true) true bD T cs=some x→Rows.uptoBulk x.1≤N→N≤1048576→∃y,d.K (oY w) y cs∧ok (Rows.uptoBulk x.1) y
theorem LB {H:Type}:∀l:List (DataW H),Rows.uptoBulkAll l=(l.map Rows.uptoBulk).sum
  |[]=>rfl
  |d::r=>by rw[Rows.uptoBulkAll,e_,DW,LB r]
theorem ug.sl {N:Nat} {P:Program} {T E:TypeId} {α:Type} {d:Kd α} {ok:Nat→α→Prop} (I:ug N P E d ok) (ht:P.underlying T=some (.slice E)) (hc:P.cellsOf E=d.sz) (hp:0<d.sz):
    ug (N+1) P T (jC E d) (fun b ys=>∃ds:List Nat,ds.length=ys.length∧ds.sum+1≤b∧∀(i:Nat) y n,ys[i]?=some y→ds[i]?=some n→ok n y):=⟨fun{H enc w bD cs x} h hb hN=>by
  rcases open_slice ht h with ⟨rfl,rfl⟩|⟨a,len,cap,m,n,u,X,rfl,_,hl,hm,J,rfl,hx⟩
  · exact⟨[],⟨_,rfl,ay.nil _ _ _⟩,[],rfl,by simp[Rows.uptoBulk],fun i y n h=>by simp at h⟩
  · rw[aL rfl] at J
    subst J
    simp only[Rows.uptoBulk] at hb
    have hlen:=DY ((List.range len).map u)
    rw[eu,AN] at hlen
    have D:∀i,i<len→∃y,∃cs',w.cells? 0 (a.add (i*d.sz)) d.sz=some cs'∧d.K (oY w) y cs'∧ok (Rows.uptoBulk (u i)) y:=fun i hi=>by
      obtain⟨cs',h1,h2⟩:=hx i (by omega)
      have h3:Rows.uptoBulk (u i)≤Rows.uptoBulkAll ((List.range len).map u):=mW (cF.2 ⟨i,q4.2 hi,rfl⟩)
      obtain⟨y,h4,h5⟩:=I.out h2 (by show Rows.uptoBulk (u i)≤_;omega) (by omega)
      rw[hc] at h1
      exact⟨y,cs',h1,h4,h5⟩
    obtain⟨ys,O,hy⟩:=DZ len D
    refine⟨ys,⟨_,rfl,_,m,by rw[O],by omega,fun hne=>?_⟩,(List.range len).map (fun i=>Rows.uptoBulk (u i)),by rw[eu,AN,O],?_,fun i y n hi hn=>?_⟩
    · obtain⟨b,o,spot⟩:=a
      have h0:0<len:=by
        rcases Nat.eq_zero_or_pos len with h|h
        · exact absurd (lg (by omega)) hne
        · exact h
      have U:spot=none:=by
        obtain⟨_,cs',h1,_⟩:=D 0 h0
        unfold World.cells? at h1
        rw[aL (gO _)] at h1
        obtain⟨v,_,hf⟩:=Lib.mapM_at h1 0 0 (by simp[hp])
        simpa[Addr.add] using World.cell?_spot hf
      subst U
      obtain⟨_,Y,h1,_⟩:=D 0 h0
      rw[yV,k_,m_] at h1
      obtain⟨cur,V,fz,hb',_⟩:=AO h1 hp
      refine⟨b,o,cur,(V,fz),rfl,hb',D0 ys o fun i y hi=>?_⟩
      obtain⟨cs',h2,h3,_⟩:=hy i y hi
      rw[k_] at h2
      obtain⟨Z,ab,ad,G,e⟩:=AO h2 hp
      rw[hb'] at G
      simp only[eN,Obj.cells.injEq] at G
      obtain⟨rfl,_,_⟩:=G
      rw[←e];exact h3
    · have:=LB ((List.range len).map u)
      rw[jr] at this
      show((List.range len).map (Rows.uptoBulk ∘ u)).sum+1≤Rows.uptoBulk (.slice ((List.range len).map u) _)
      simp only[Rows.uptoBulk]
      omega
    · obtain⟨cs',_,_,hok⟩:=hy i y hi
      rw[jM] at hn
      have hlt:=(dL.1 hi).1
      rw[E5 (by omega)] at hn
      obtain rfl:=fT hn
      exact hok⟩
def qV (n:Int):Prop:= -9223372036854775808≤n∧n≤9223372036854775807
def LC (b:Nat) (o:aC):Prop:=cY o≤b∧qV o.Kind∧qV o.ak∧qV o.aJ
theorem LD:∀(ys:List aC) (ds:List Nat),ds.length=ys.length→(∀(i:Nat) y n,ys[i]?=some y→ds[i]?=some n→LC n y)→gm ys≤ds.sum
  |[],[],_,_=>by rw[gm];exact gO _
  |[],_::_,h,_=>by simp at h
  |_::_,[],h,_=>by simp at h
  |y::ys,n::ds,h,hk=>by
   have h1:=(hk 0 y n rfl rfl).1
   have h2:=LD ys ds (by simpa using h) fun i u D hy hn=>hk (i+1) u D (by simpa using hy) (by simpa using hn)
   rw[gm,DW]
   omega
theorem D1:∀N:Nat,ug N prog 36 eY LC
  |0=>⟨fun{H enc w bD cs x} h hb hN=>by have:=DX x.1;omega⟩
  |N+1=>⟨fun{H enc w bD cs x} h hb hN=>by
   obtain⟨xs,n,_,rfl,hl,hlen,hf⟩:=DataW.trod_struct underlying36 h
   have hl:cs.length=9:=hl.trans (by kernel_rfl)
   have hlen:xs.length=9:=hlen
   obtain⟨a0,a1,a2,a3,a4,a5,J,O,U,rfl⟩:∃a0 a1 a2 a3 a4 a5 J O U,cs=[a0,a1,a2,a3,a4,a5,J,O,U]:=by match cs,hl with|[a0,a1,a2,a3,a4,a5,J,O,U],_=>exact⟨a0,a1,a2,a3,a4,a5,J,O,U,rfl⟩
   obtain⟨z0,u,z2,z3,z4,z5,D,G,I,rfl⟩:∃z0 u z2 z3 z4 z5 D G I,xs=[z0,u,z2,z3,z4,z5,D,G,I]:=by match xs,hlen with|[z0,u,z2,z3,z4,z5,D,G,I],_=>exact⟨z0,u,z2,z3,z4,z5,D,G,I,rfl⟩
   have hB:Rows.uptoBulk (DataW.agg (List.map (·.1) [z0,u,z2,z3,z4,z5,D,G,I]))=Rows.uptoBulk z0.1+(Rows.uptoBulk u.1+(Rows.uptoBulk z2.1+(Rows.uptoBulk z3.1+(Rows.uptoBulk z4.1+(Rows.uptoBulk z5.1+(Rows.uptoBulk D.1+(Rows.uptoBulk G.1+Rows.uptoBulk I.1)))))))+1:=by
     simp only[e_,l5,Rows.uptoBulk,Rows.uptoBulkAll,m_]
   simp only[] at hb ⊢
   rw[hB] at hb ⊢
   have g0:=mX hf 0 3 0 1 (by kernel_rfl) (by kernel_rfl)
   replace g0:DataW.trod enc prog w 0 (fun _=>true) true n 3 [a0]=some z0:=g0
   obtain⟨y0,V,o0⟩:=(gY.int underlying3).out g0 (by omega)
   have V:[a0]=_:=V;cases V
   have g1:=mX hf 1 9 1 1 (by kernel_rfl) (by kernel_rfl)
   replace g1:DataW.trod enc prog w 0 (fun _=>true) true n 9 [a1]=some u:=g1
   obtain⟨s1,e1,r1,_⟩:=DataW.trod_string underlying9 g1
   cases e1
   have b1:s1.data.toList.length+1=Rows.uptoBulk u.1:=by rw[r1];rfl
   have g2:=mX hf 2 28 2 1 (by kernel_rfl) (by kernel_rfl)
   replace g2:DataW.trod enc prog w 0 (fun _=>true) true n 28 [a2]=some z2:=g2
   have a7:ug 1048575 prog 5 bn (fun b _=>1≤b):=⟨fun{H enc w bD cs x} h hb hN=>by
     obtain⟨y,hy,_⟩:=(gY.u8 underlying5).out h (by omega)
     exact⟨y,hy,DX _⟩⟩
   obtain⟨y2,⟨v2,e2,s2⟩,d2,bm,bo,a8⟩:=(ug.sl a7 underlying28 (by kernel_rfl) (by decide)).out g2 (by omega) (by decide)
   cases e2
   have b2:y2.length+1≤Rows.uptoBulk z2.1:=by
     have key:∀ds:List Nat,(∀(i n:Nat),ds[i]?=some n→1≤n)→ds.length≤ds.sum:=by
       intro ds
       induction ds with
       |nil=>intro _;exact iO _
       |cons n ds ih=>
        intro h
        have:=h 0 n rfl
        have:=ih fun i m hm=>h (i+1) m (by simpa using hm)
        rw[bL,DW]
        omega
     have:=key d2 fun i n hn=>by
       have hlt:=(dL.1 hn).1
       exact a8 i (y2[i]'(by omega)) n (kE (by omega)) hn
     omega
   have g3:=mX hf 3 3 3 1 (by kernel_rfl) (by kernel_rfl)
   replace g3:DataW.trod enc prog w 0 (fun _=>true) true n 3 [a3]=some z3:=g3
   obtain⟨y3,X,a9⟩:=(gY.int underlying3).out g3 (by omega)
   have X:[a3]=_:=X;cases X
   have g4:=mX hf 4 3 4 1 (by kernel_rfl) (by kernel_rfl)
   replace g4:DataW.trod enc prog w 0 (fun _=>true) true n 3 [a4]=some z4:=g4
   obtain⟨y4,Y,bb⟩:=(gY.int underlying3).out g4 (by omega)
   have Y:[a4]=_:=Y;cases Y
   have Z:=mX hf 5 4 5 1 (by kernel_rfl) (by kernel_rfl)
   replace Z:DataW.trod enc prog w 0 (fun _=>true) true n 4 [a5]=some z5:=Z
   obtain⟨y5,ab,_⟩:=(gY.bool underlying4).out Z (by omega)
   have ab:[a5]=_:=ab;cases ab
   have ad:=mX hf 6 4 6 1 (by kernel_rfl) (by kernel_rfl)
   replace ad:DataW.trod enc prog w 0 (fun _=>true) true n 4 [J]=some D:=ad
   obtain⟨y6,ae,_⟩:=(gY.bool underlying4).out ad (by omega)
   have ae:[J]=_:=ae;cases ae
   have am:=mX hf 7 4 7 1 (by kernel_rfl) (by kernel_rfl)
   replace am:DataW.trod enc prog w 0 (fun _=>true) true n 4 [O]=some G:=am
   obtain⟨bc,ar,_⟩:=(gY.bool underlying4).out am (by omega)
   have ar:[O]=_:=ar;cases ar
   have aw:=mX hf 8 34 8 1 (by kernel_rfl) (by kernel_rfl)
   replace aw:DataW.trod enc prog w 0 (fun _=>true) true n 34 [U]=some I:=aw
   obtain⟨a6,⟨bs,bd,be⟩,bi,bj,bt,bk⟩:=(ug.sl (D1 N) underlying34 (by kernel_rfl) (by decide)).out aw (by omega) hN
   cases bd
   have b3:=LD a6 bi bj bk
   refine⟨⟨y0,s1.data.toList,y2,y3,y4,y5,y6,bc,a6⟩,mP.2 ⟨_,_,s2,be,?_⟩,?_,o0,a9,bb⟩
   · rw[E3]
   · rw[rS]
     simp only
     omega⟩
def Ui (x:cz):Prop:=cY x.Op≤1048576∧x.eG.length≤1048576∧qV x.Client∧qV x.bz∧qV x.bw∧qV x.Op.Kind∧qV x.Op.ak∧qV x.Op.aJ
theorem D2:gY prog 38 qd Ui:=⟨fun{H enc w bD cs x} h hb=>by
  obtain⟨xs,n,_,rfl,hl,hlen,hf⟩:=DataW.trod_struct underlying38 h
  have hl:cs.length=13:=hl.trans (by kernel_rfl)
  have hlen:xs.length=5:=hlen
  obtain⟨a0,a1,a2,a3,a4,a5,D,G,I,a9,J,O,U,rfl⟩:∃a0 a1 a2 a3 a4 a5 D G I a9 J O U,cs=[a0,a1,a2,a3,a4,a5,D,G,I,a9,J,O,U]:=by match cs,hl with|[a0,a1,a2,a3,a4,a5,D,G,I,a9,J,O,U],_=>exact⟨a0,a1,a2,a3,a4,a5,D,G,I,a9,J,O,U,rfl⟩
  obtain⟨z0,u,z2,z3,z4,rfl⟩:∃z0 u z2 z3 z4,xs=[z0,u,z2,z3,z4]:=by match xs,hlen with|[z0,u,z2,z3,z4],_=>exact⟨z0,u,z2,z3,z4,rfl⟩
  have hb:Rows.uptoBulkAll [z0.1,u.1,z2.1,z3.1,z4.1]≤1048576:=by simp only[Rows.uptoBulk,e_,l5] at hb;omega
  have g0:=mX hf 0 3 0 1 (by kernel_rfl) (by kernel_rfl)
  replace g0:DataW.trod enc prog w 0 (fun _=>true) true n 3 [a0]=some z0:=g0
  obtain⟨y0,V,o0⟩:=(gY.int underlying3).out g0 (cr (mW (by simp)) hb)
  have V:[a0]=_:=V;cases V
  have g1:=mX hf 1 3 1 1 (by kernel_rfl) (by kernel_rfl)
  replace g1:DataW.trod enc prog w 0 (fun _=>true) true n 3 [a1]=some u:=g1
  obtain⟨y1,k1,o1⟩:=(gY.int underlying3).out g1 (cr (mW (by simp)) hb)
  have k1:[a1]=_:=k1;cases k1
  have g2:=mX hf 2 3 2 1 (by kernel_rfl) (by kernel_rfl)
  replace g2:DataW.trod enc prog w 0 (fun _=>true) true n 3 [a2]=some z2:=g2
  obtain⟨y2,k2,o2⟩:=(gY.int underlying3).out g2 (cr (mW (by simp)) hb)
  have k2:[a2]=_:=k2;cases k2
  have g3:=mX hf 3 36 3 9 (by kernel_rfl) (by kernel_rfl)
  replace g3:DataW.trod enc prog w 0 (fun _=>true) true n 36 [a3,a4,a5,D,G,I,a9,J,O]=some z3:=g3
  obtain⟨y3,Y,X⟩:=(D1 1048576).out g3 (cr (mW (by simp)) hb) (by decide)
  obtain⟨v0,v1,Z,s1,e3⟩:=mP.1 Y
  cases e3
  have ab:Rows.uptoBulk z3.1≤1048576:=cr (mW (by simp)) hb
  have g4:=mX hf 4 28 12 1 (by kernel_rfl) (by kernel_rfl)
  replace g4:DataW.trod enc prog w 0 (fun _=>true) true n 28 [U]=some z4:=g4
  obtain⟨y4,⟨v4,ad,ae⟩,am⟩:=(gY.sl (gY.u8 underlying5) underlying28 (by kernel_rfl) (by decide)).out g4 (cr (mW (by simp)) hb)
  cases ad
  exact⟨⟨y0,y1,y2,y3,y4⟩,⟨_,_,_,Z,s1,ae,rfl⟩,cr X.1 ab,am.1,o0,o1,o2,X.2⟩⟩
theorem LF {fn:FuncId} {args:Array Value} {W:World} {Q:Ending→World→Prop} (H:aA prog W fn args W.heap (oY W) [] fun v g' L'=>v=.bool true∧L'=[])
    (hq:∀u:World,u.os=W.os→u.output=W.output→(∀b,b<W.heap.size→u.heap[b]?=W.heap[b]?)→Q (.returned (.bool true)) u):Calls prog fn args W Q:=by
  refine(H W (Is.self W)).mono fun e w' ⟨v,he,is,g',L',st,hv,_⟩=>?_
  subst he;subst hv
  exact hq w' is.os is.output fun b hb=>st.frame b hb (gq b)
end Go.Proofs.YtpacclkciilmpaaGreatDoor.Sw
