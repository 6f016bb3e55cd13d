/- Lemmas for laws of this seat. -/
import Derived.Test.YtdinkjbfgcfccaaGreatDoorPBO
import Derived.Test.YtdinkjbfgcfccaaGreatDoorCards
import Derived.Test.YtdinkjbfgcfccaaGreatDoorTie
import Derived.WalkKit
import Derived.ProofKit
import Derived.OpenShut
import Derived.ReadAgain
import Derived.Shelf.Vars
import Derived.Deep.Slices
import Derived.ChangeMaps5
import Derived.Deep.DeepHandedRow
import Derived.Lib.LaidTab
set_option maxHeartbeats 4000000
namespace Go.Proofs.YtdinkjbfgcfccaaGreatDoor.Sw
open Go.Proofs.Tryz
set_option linter.unusedVariables false
set_option linter.unusedSimpArgs false
set_option linter.deprecated false
open Go Go.ChangeShapes Go.WideShapes Go.ChangeAt Go.RowKit Go.Deep Go.ChangeMaps
set_option linter.defProp false
def AB:=@List.length_range
def ov (w:World):GH:=fun b=>w.heap[b]?
theorem KW (w:World):bu (ov w) w.heap:=fun _ _ h=>h
section
variable {H:Type} {enc:TypeId×Value→H} {P:Program} {w w':World} {ox:Nat} {sp:Nat→Bool} {hd:Bool}
theorem S4 (hold:∀b,b<w.heap.size→w'.heap[b]?=w.heap[b]?) {p:MemPlace} (hp:p.block<w.heap.size):w.sameAt w' p:=by
  cases p with
  |cell b off=>
   have hb:=hold b hp
   show w'.cell? _=w.cell? _
   simp only[World.cell?,hb]
  |map b=>exact hold b hp
theorem KX:∀{ts:List TypeId} {vs:List Value} {ds:List (DataW H)} {ps:List MemPlace},DataW.TrodAll enc P w ox sp hd ts vs ds ps→(∀p∈ps,w.sameAt w' p)→DataW.TrodAll enc P w' ox sp hd ts vs ds ps
  |[],[],[],_,h,_=>h
  |_::_,_::_,_::_,_,⟨p,q,⟨n,h1⟩,h2,e⟩,u=>
   ⟨p,q,⟨n,DataW.trod_carry n _ _ _ h1 (fun x hx=>u x (by rw[e];exact ye _ hx))⟩,KX h2 (fun x hx=>u x (by rw[e];exact A8 _ hx)),e⟩
theorem S5 (u:w'.os=w.os) (D:w'.output=w.output) (hold:∀b,b<w.heap.size→w'.heap[b]?=w.heap[b]?) (G:MemPlace→Prop):w.keptBut w' G:=by
  refine⟨u,D,fun i hi=>?_⟩
  rw[hold i hi]
  cases w.heap[i]? with
  |none=>rfl
  |some o=>cases o<;>simp
theorem KY {W u:World} {f:Func} {s:ChangeSpec} {apart fresh handsOn:Bool} {args:Array Value} {ds gs:List (DataW H)} {D:List MemPlace} {tb:TypeId}
    (hl:laidOutB P=true) (hm:mapsRowed P=true) (hz:((List.range P.types.size).all fun t=>match P.underlying t with|some (.slice e)=>decide (0<P.cellsOf e)|_=>true)=true)
    (hts:∀t∈f.params.toList,t<P.types.size) (hv:s.vars=[]) (hr:f.resultTypes=#[tb]) (hb:P.underlying tb=some .bool)
    (hs:gs=[]→s.fn H (ds++gs)={results:=[.lit (.bool true)],args:=ds})
    (G:DataW.Whole enc P f.params.toList s.vars apart W args.toList ds gs D) (J:u.os=W.os) (O:u.output=W.output) (hold:∀b,b<W.heap.size→u.heap[b]?=W.heap[b]?):
    s.post enc P f apart fresh handsOn false W args (.bool true) u:=by
  have hlt:=G.lt
  have U:=G
  obtain⟨p,q,hA,I,e,ab,ad⟩:=G
  rw[hv] at I
  obtain⟨rfl,rfl⟩:=trodVars_none I
  rw[dm] at e
  subst e
  have V:∀sp:Nat→Bool,(∀p∈D,sp p.block=true)→DataW.TrodAll enc P u 0 sp true f.params.toList args.toList ds D:=fun sp X=>
    DataW.TrodAll.respare (kids_rows hl hm) (fun t e ht=>slices_full_of P hz t e ht) hts (KX hA fun p hp=>S4 hold (hlt p hp)) X
  have Y:∀(b:Nat) (sp:Nat→Bool) (hd:Bool),DataW.TrodAll enc P u b sp hd f.resultTypes.toList ((Value.bool true).resultList f.resultTypes.size) [.lit (.bool true)] []:=fun b sp hd=>by
    rw[hr];exact trodAll_cons_mk (shut_bool hb true) trodAll_mk0
  have Z:∀p∈D,(fun b=>decide (b<W.heap.size)) p.block=true:=fun p hp=>by simpa using hlt p hp
  refine⟨ds,[],D,[],D,[],U,?_,?_,?_,World.keptBut_mono (fun _ h=>h) (S5 J O hold _),fun h=>by cases h⟩
  · rw[hs rfl];exact Y _ _ _
  · rw[hs rfl];exact V _ Z
  · rw[hs rfl,hv];rfl
end
structure eM (P:Program) (T:TypeId) {α:Type} (d:Kd α) (ok:α→Prop):Prop where
  out:∀{H:Type} {enc:TypeId×Value→H} {w:World} {bH:Nat} {cs:List Value} {x:DataW H×List MemPlace},
    DataW.trod enc P w 0 (fun _=>true) true bH T cs=some x→Rows.uptoBulk x.1≤1048576→∃y,d.K (ov w) y cs∧ok y
section
variable {P:Program} {T E:TypeId}
theorem eM.int {k:IntKind} (ht:P.underlying T=some (.int k)):eM P T (dK k) (fun y=>k.min≤y∧y≤k.max):=⟨fun h hb=>by
  obtain⟨n,rfl,rfl,hw⟩:=DataW.trod_int ht h
  refine⟨n,rfl,?_⟩
  simpa[Lit.wf] using hw⟩
theorem eM.u8 (ht:P.underlying T=some (.int .u8)):eM P T a_ (fun _=>True):=⟨fun h hb=>by
  obtain⟨n,rfl,rfl,hw⟩:=DataW.trod_int ht h
  have hw:IntKind.min .u8≤n∧n≤IntKind.max .u8:=by simpa[Lit.wf] using hw
  have hw:0≤n∧n≤255:=hw
  refine⟨UInt8.ofNat n.toNat,?_,trivial⟩
  show[Value.int .u8 n]=[Value.int .u8 ((UInt8.ofNat n.toNat).toNat:Int)]
  rw[wD,pF (by omega),Bt hw.1]⟩
theorem D8 {H:Type} (d:DataW H):1≤Rows.uptoBulk d:=by
  cases d with
  |lit l=>cases l<;>simp[Rows.uptoBulk]
  |nil=>simp[Rows.uptoBulk]
  |ptr _=>simp[Rows.uptoBulk]
  |slice _ _=>simp[Rows.uptoBulk]
  |agg _=>simp[Rows.uptoBulk]
  |iface _ _=>simp[Rows.uptoBulk]
  |map _=>simp[Rows.uptoBulk]
  |held _=>simp[Rows.uptoBulk]
theorem jh {H:Type} {d:DataW H}:∀{ds:List (DataW H)},d∈ds→Rows.uptoBulk d≤Rows.uptoBulkAll ds
  |_::r,h=>by
   rw[Rows.uptoBulkAll]
   rcases eO.1 h with rfl|h
   · omega
   · have:=jh h;omega
theorem D9 {H:Type}:∀ds:List (DataW H),ds.length≤Rows.uptoBulkAll ds
  |[]=>by simp
  |d::r=>by have:=D8 d;have:=D9 r;rw[Rows.uptoBulkAll,bJ];omega
theorem D_ {α:Type} {p:Nat→α→Prop}:∀(n:Nat),(∀i,i<n→∃y,p i y)→∃ys:List α,ys.length=n∧∀i y,ys[i]?=some y→p i y
  |0,_=>⟨[],rfl,fun i y h=>by simp at h⟩
  |n+1,h=>by
   obtain⟨ys,hl,hp⟩:=D_ n fun i hi=>h i (by omega)
   obtain⟨y,hy⟩:=h n (by omega)
   refine⟨ys++[y],by simp[hl],fun i z hz=>?_⟩
   rw[wT] at hz
   split at hz
   · exact hp i z hz
   · rename_i u
     rw[List.getElem?_singleton] at hz
     split at hz
     · have:i=n:=by omega
       subst this
       have:=gI hz
       subst this;exact hy
     · cases hz
theorem Ea {α:Type} {d:Kd α} {g:GH} {cur:Array Value}:∀(ys:List α) (o:Nat),(∀i y,ys[i]?=some y→d.K g y (cut cur (o+i*d.sz) d.sz))→Reads d g ys (cut cur o (ys.length*d.sz))
  |[],o,_=>by simp[Reads,cut]
  |y::ys,o,h=>by
   have ih:=Ea ys (o+d.sz) fun i z hz=>by
     have:=h (i+1) z (by simpa using hz)
     rwa[mP,wz (i*d.sz),←Bk] at this
   refine⟨cut cur o d.sz,cut cur (o+d.sz) (ys.length*d.sz),?_,by simpa using h 0 y rfl,ih⟩
   unfold cut
   rw[bJ,mP,wz,yo,o7]
theorem AD {w:World} {b o n:Nat} {cs:List Value} (h:w.cells? 0 ⟨b,o,none⟩ n=some cs) (hn:0<n):∃cur u fz,w.heap[b]?=some (.cells cur u fz)∧cs=cut cur o n:=by
  unfold World.cells? at h
  rw[aY (eX _)] at h
  have hl:=Lib.mapM_length h
  rw[AB] at hl
  have D:∀i,i<n→w.cell? ⟨b,o+i,none⟩=cs[i]?:=fun i hi=>by
    obtain⟨v,hv,hf⟩:=Lib.mapM_at h i i (by simp[hi])
    rw[kS] at hf
    rw[hv,hf]
  have h0:=D 0 hn
  rw[rq (by omega)] at h0
  unfold World.cell? at h0
  simp only[nq] at h0
  split at h0
  · rename_i cur u fz hb
    refine⟨cur,u,fz,hb,?_⟩
    apply ym
    intro k
    unfold cut
    rw[sK]
    by_cases hk:k<n
    · rw[aY hk,←D k hk,cell_of rfl,oG hb,rE]
      simp
    · rw[aL hk,Bh (by omega)]
  · cases h0
theorem eM.sl {α:Type} {d:Kd α} {ok:α→Prop} (I:eM P E d ok) (ht:P.underlying T=some (.slice E)) (hc:P.cellsOf E=d.sz) (hp:0<d.sz):
    eM P T (fI E d) (fun ys=>ys.length≤1048576∧∀y∈ys,ok y):=⟨fun{H enc w bH cs x} h hb=>by
  rcases open_slice ht h with ⟨rfl,rfl⟩|⟨a,len,cap,m,n,u,X,rfl,_,hl,hm,J,rfl,hx⟩
  · exact⟨[],⟨_,rfl,an.nil _ _ _⟩,by simp,by simp⟩
  · rw[aY rfl] at J
    subst J
    simp only[Rows.uptoBulk] at hb
    have hlen:=D9 ((List.range len).map u)
    rw[ew,AB] at hlen
    have D:∀i,i<len→∃y,∃cs',w.cells? 0 (a.add (i*d.sz)) d.sz=some cs'∧d.K (ov w) y cs'∧ok y:=fun i hi=>by
      obtain⟨cs',h1,h2⟩:=hx i (by omega)
      have h3:Rows.uptoBulk (u i)≤Rows.uptoBulkAll ((List.range len).map u):=jh (cY.2 ⟨i,A5.2 hi,rfl⟩)
      obtain⟨y,h4,h5⟩:=I.out h2 (by show Rows.uptoBulk (u i)≤_;omega)
      rw[hc] at h1
      exact⟨y,cs',h1,h4,h5⟩
    obtain⟨ys,O,hy⟩:=D_ len D
    refine⟨ys,⟨_,rfl,_,m,by rw[O],by omega,fun hne=>?_⟩,by omega,fun y hm=>?_⟩
    · obtain⟨b,o,spot⟩:=a
      have h0:0<len:=by
        rcases Nat.eq_zero_or_pos len with h|h
        · exact absurd (kU (by omega)) hne
        · exact h
      have U:spot=none:=by
        obtain⟨_,cs',h1,_⟩:=D 0 h0
        unfold World.cells? at h1
        rw[aY (eX _)] at h1
        obtain⟨v,_,hf⟩:=Lib.mapM_at h1 0 0 (by simp[hp])
        simpa[Addr.add] using World.cell?_spot hf
      subst U
      obtain⟨_,Y,h1,_⟩:=D 0 h0
      rw[yG,kS,nq] at h1
      obtain⟨cur,V,fz,hb',_⟩:=AD h1 hp
      refine⟨b,o,cur,(V,fz),rfl,hb',Ea ys o fun i y hi=>?_⟩
      obtain⟨cs',h2,h3,_⟩:=hy i y hi
      rw[kS] at h2
      obtain⟨Z,ab,ad,G,e⟩:=AD h2 hp
      rw[hb'] at G
      simp only[ey,Obj.cells.injEq] at G
      obtain⟨rfl,_,_⟩:=G
      rw[←e];exact h3
    · obtain⟨i,hi⟩:=pO.1 hm
      obtain⟨_,_,_,hok⟩:=hy i y hi
      exact hok⟩
end
section
variable {P:Program} {w:World} {T:TypeId} {H:Type} {enc:TypeId×Value→H} {v:Value} {dt:DataW H} {ps:List MemPlace} {b0:Nat} {r:Reach}
theorem KZ {α:Type} {E:TypeId} {d:Kd α} {ok:List α→Prop} (I:eM P T (fI E d) ok) (ht:P.underlying T=some (.slice E)) (u:Value.okWide P w r b0 T v) (h:DataW.Trod enc P w 0 (fun _=>true) true T v dt ps) (hb:Rows.uptoBulk dt≤1048576):
    ∃ys:List α,an (ov w) E d v ys∧ok ys:=by
  obtain⟨a0,len,cap,rfl⟩:=okWide_slice ht u
  obtain⟨bH,hf⟩:=h
  obtain⟨ys,⟨D,e,hs⟩,hk⟩:=I.out hf hb
  have e2:D=.slice a0 len cap:=by simpa[Value.cells] using e.symm
  exact⟨ys,e2▸hs,hk⟩
theorem K0 {α:Type} {d:Kd α} {ok:α→Prop} {fs:Array Field} (I:eM P T d ok) (ht:P.underlying T=some (.struct fs)) (u:Value.okWide P w r b0 T v) (h:DataW.Trod enc P w 0 (fun _=>true) true T v dt ps) (hb:Rows.uptoBulk dt≤1048576):
    ∃(y:α) (cs:Array Value),v=.agg cs∧d.K (ov w) y cs.toList∧ok y:=by
  obtain⟨cs,rfl,_⟩:=okWide_struct ht u
  obtain⟨bH,hf⟩:=h
  obtain⟨y,hk,ho⟩:=I.out hf hb
  exact⟨y,cs,rfl,hk,ho⟩
end
theorem iI {P:Program} {w:World} {H:Type} {enc:TypeId×Value→H} {n:Nat} {fs:Array Field} {cs:List Value} {xs:List (DataW H×List MemPlace)}
    (hf:∀(i:Nat) (f:Field),fs[i]?=some f→DataW.trod enc P w 0 (fun _=>true) true n f.type ((cs.drop f.offset).take (P.cellsOf f.type))=xs[i]?)
    (i t o m:Nat) (hi:(fs[i]?).map (fun f=>(f.type,f.offset))=some (t,o)) (hm:P.cellsOf t=m):DataW.trod enc P w 0 (fun _=>true) true n t ((cs.drop o).take m)=xs[i]?:=by
  obtain⟨f,h1,h2⟩:=q5.1 hi
  simp only[gY] at h2
  obtain⟨rfl,rfl⟩:=h2
  subst hm
  exact hf i f h1
theorem K1 {W:World} (h:W.ShapedOpen prog):bz (ov W):=by
  obtain⟨m,hm⟩:=cell_of_shapedOpen_int (g:=0) (zero:=#[.int .i64 0]) (t:=3) (k:=.i64) h (jz (by kernel_rfl)) (by kernel_rfl) rfl (by kernel_rfl) (by kernel_rfl) underlying3
  unfold World.cell? at hm
  split at hm
  · rename_i cur u fz hb
    exact⟨m,cur,u,fz,hb,by simpa using hm⟩
  · cases hm
theorem AE {P:Program} {W:World} {x:String×DataW Unit} {l:List (String×DataW Unit)} (h:laidMet P (x::l) W):laidMet P l W:=by
  obtain⟨n,d⟩:=x
  obtain⟨ps,⟨g,t,cs,bH,p,q,_,_,_,_,hr,rfl⟩,hn,hc⟩:=h
  refine⟨q,hr,?_,fun b off hm=>hc b off (A8 _ hm)⟩
  exact(mM.1 hn).2.1
theorem K2 {W:World} {rest:List (String×DataW Unit)} (h:laidMet prog (("internal/strconv.uint64pow10",Lib.tabData .u64 Lib.pow10Tab)::rest) W):l_ (ov W):=by
  have ht:=Lib.tabIs_of_head (g:=1) (t:=314) (e:=218) (n:=20) (by kernel_rfl) (by kernel_rfl) (by kernel_rfl) (by kernel_rfl) (by kernel_rfl) (by kernel_rfl) h
  unfold Lib.TabIs World.var? at ht
  rw[show prog.globalNamed "internal/strconv.uint64pow10"=some 1 by kernel_rfl] at ht
  simp only[Option.bind_some] at ht
  split at ht
  · rename_i cur u fz hb
    have:=gI ht
    subst this
    exact⟨u,fz,hb⟩
  · cases ht
set_option maxRecDepth 100000
theorem K3 {fn:FuncId} {args:Array Value} {W:World} {Q:Ending→World→Prop} (H:aG prog W fn args W.heap (ov W) [] fun v g' L'=>v=.bool true∧L'=[])
    (hq:∀u:World,u.os=W.os→u.output=W.output→(∀b,b<W.heap.size→u.heap[b]?=W.heap[b]?)→Q (.returned (.bool true)) u):Calls prog fn args W Q:=by
  refine(H W (Is.self W)).mono fun e w' ⟨v,he,is,g',L',D,hv,_⟩=>?_
  subst he;subst hv
  exact hq w' is.os is.output fun b hb=>D.frame b hb (gP b)
end Go.Proofs.YtdinkjbfgcfccaaGreatDoor.Sw
