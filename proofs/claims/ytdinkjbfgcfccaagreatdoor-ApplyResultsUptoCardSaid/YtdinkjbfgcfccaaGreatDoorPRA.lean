/- Lemmas for laws of this seat. -/
import Derived.Test.YtdinkjbfgcfccaaGreatDoorPBP
set_option maxHeartbeats 4000000
namespace Go.Proofs.YtdinkjbfgcfccaaGreatDoor.Sw
open Go.Proofs.Tryz
open Go
set_option linter.defProp false
def uc:=@List.getD_cons_zero
def ud:=@List.getD_cons_succ
def TI:Kd Result where
  sz:=11
  K g x cs:=∃v0 v1 v2,an g 5 a_ v0 x.aa.Data∧an g 9 cV v1 x.aX∧an g 45 cA v2 x.aP∧cs=[.int .i64 x.Code,.int .i64 x.aU,.int .i64 x.At,.string (br x.aa.af),v0,.int .i64 x.aa.ai,.int .i64 x.aa.aC,.int .i64 x.aa.Next,.int .i64 x.aa.aF,v1,v2]
  len h:=by obtain⟨v0,v1,v2,h0,h1,h2,rfl⟩:=h;rfl
  one h:=by
    obtain⟨v0,v1,v2,h0,h1,h2,rfl⟩:=h
    obtain⟨_,_,rfl⟩:=h0.ak
    obtain⟨_,_,rfl⟩:=h1.ak
    obtain⟨_,_,rfl⟩:=h2.ak
    simp[Value.oneCell']
  mono hg h:=by obtain⟨v0,v1,v2,h0,h1,h2,rfl⟩:=h;exact⟨v0,v1,v2,h0.mono hg,h1.mono hg,h2.mono hg,rfl⟩
  zv:=⟨0,0,0,⟨[],[],0,0,0,0⟩,[],[]⟩
  zc:=[.int .i64 0,.int .i64 0,.int .i64 0,.string (br []),.slice none 0 0,.int .i64 0,.int .i64 0,.int .i64 0,.int .i64 0,.slice none 0 0,.slice none 0 0]
  zK _:=⟨_,_,_,an.nil _ _ _,an.nil _ _ _,an.nil _ _ _,rfl⟩
set_option maxRecDepth 100000
set_option linter.unusedVariables false
set_option linter.unusedSimpArgs false
set_option linter.deprecated false
theorem TJ (B:World) (h:ay) (g:GH) (hg:bu g h) (bj:bz g) (ad:Value) (a:List aj) (ae:an g 9 cV ad a) (am:Value) (b:List aj) (ar:an g 9 cV am b) (h1:a.length≤1000000000):
  aG prog B 40 #[ad,am] h g [] (fun a5 g' L'=>a5=.bool (decide (a=b))∧g'=g∧L'=[]):=by
 obtain⟨aw,I,rfl⟩:=ae.ak
 obtain⟨a0,J,rfl⟩:=ar.ak
 refine aG.aq func40 fun R hR=>?_
 have a1:=St.init hg
 refine At.go 1 1 []<|At.go 2 5 [(10,.bool ((a.length:Int) != (b.length:Int)))]<|At.fn ((a.length:Int)=(b.length:Int)) 10 3 5 (fun bk=>?_) fun bm=>?_
 ·exact At.gr 4 1 4 vF (hR a1 ⟨(bn (by exact yL ‹_›)),rfl,rfl⟩)
 refine At.go 6 1 [(5,vI 0)] ?_
 have a6:∀(m:Nat) (i:Int) (O:ay) (hm:a.length-i.toNat<m) (h0:0≤i) (h2:i≤a.length) (ht:a.take i.toNat=b.take i.toNat) (u:St h g (aS []) g [] O),At (bP prog B 40 f40 R) [] 6 [(0,vL aw a.length I),(1,vL a0 b.length J),(5,vI i)] O:=by
  intro m;induction m with
  |zero=>intros;omega
  |succ m a7=>
   intro i O hm h0 h2 ht u
   refine At.go 7 4 [(14,.bool (decide (i<(a.length:Int))))]<|At.fd (i<(a.length:Int)) 14 8 13 (fun bo=>?_) fun a8=>?_
   ·refine At.dw (fun _=>False) [(0,true),(1,true),(2,true),(4,true),(5,true),(6,true),(3,true),(7,false),(8,true)]<|Op.px 2 [(17,vL aw a.length I),(18,vI i)] ?_
    obtain⟨D,U⟩:=bW a i
    obtain⟨a9,a3,bs,bt,bb,bc,V⟩:=an.bB ae _ U
    cases bb
    refine Op.iq 40 9 1 16 a.length I 17 18 19 a9 a3 i ?_
    replace V:cut _ _ _=[vS D]:=V
    refine Op.px 2 [(21,vL a0 b.length J),(22,vI i)] ?_
    obtain⟨G,X⟩:=bW b i
    obtain⟨bd,a4,b3,b4,be,bi,Y⟩:=an.bB ar _ X
    cases be
    refine Op.iq 40 9 1 16 b.length J 21 22 23 bd a4 i ?_
    replace Y:cut _ _ _=[vS G]:=Y
    refine Op.ez (T:=9) (x:=19) (o:=a3+i.toNat*1) (d:=20) (n:=1) (v:=vS D) (by kernel_rfl) (by kernel_rfl) (by kernel_rfl) id (u.sub _ _ bc) (bN V 0 rfl)<|Op.l1 9 23 24 (a4+i.toNat*1) (vS G) (u.sub _ _ bi) ?_ (hv:=bN Y 0 rfl)
    refine Op.vl 25 (.bool (!((br D).toList==(br G).toList))) (.bool (!(D==G))) (by rw[toList_mkS,toList_mkS])<|Op.gt 9<|At.cW (!(D==G)) 25 10 12 (fun Z=>?_) fun ab=>?_
    ·replace Z:=pI (dn Z)
     exact At.gr 11 1 4 vF (hR u ⟨(bn (by exact yM U X Z)),rfl,rfl⟩)
    replace ab:=eq_of_beq (dr ab)
    exact At.rp 3 1 [(15,vI i)]<|Op.vq 16 (i+1)<|Op.pg 6 [(5,vI (i+1))] (At.ke (a7 (i+1) _ (by omega) (by omega) (by omega) (by exact yO ht h0 U X ab) u))
   exact At.gr 14 1 4 vT (hR u ⟨(bn (by exact yN ‹_› a8 ht)),rfl,rfl⟩)
 exact At.ke (a6 _ 0 _ (bG _) (by omega) (by omega) (by rfl) a1)
theorem TK (B:World) (h:ay) (g:GH) (hg:bu g h) (aw:bz g) (I:Value) (s:List aj) (J:an g 9 cV I s) (h1:s.length≤1000000000):
  aG prog B 32 #[I] h g [] (fun V g' L'=>∃v0,V=v0∧an g' 9 cV v0 s∧L'=[]):=by
 obtain⟨X,Y,rfl⟩:=J.ak
 refine aG.aq func32 fun R hR=>At.go 1 1 []<|At.rg 2<|Op.ls 4 0 9 #[] (St.init hg) fun u a0 O=>Op.pg 2 [(3,vL (some ⟨u,0,none⟩) 0 0)] ?_
 refine At.rp 4 2 [(5,vL (some ⟨u,0,none⟩) 0 0),(6,vL X s.length Y)] ?_
 have Z:aH 9 cV g (vL (some ⟨u,0,none⟩) 0 0) ([]:List aj) [(u,Obj.cells #[] 9 (0,0))]:=aH.lit (by kernel_rfl) (by unfold maxLen;decide) (by kernel_rfl) Reads.nil
 obtain⟨a1,ab,ad⟩:=cT.slice (P:=prog) (J.toH O.sub)
 refine Op.ap 5 6 40 40 7 9 16 cV (ys:=s) Z O 0 ad (by(simp only[b_,bJ,cF,dZ,eT];omega)) (fun _ _ _=>trivial) ab fun a3 a4 a5 U ae a6=>?_
 obtain⟨D,G,rfl⟩:=U.ak
 refine Op.pg 3 [(3,vL D ((([]:List aj)++s).length) G)]<|At.go 4 2 [(2,vL D ((([]:List aj)++s).length) G)] ?_
 obtain⟨a7,am,a8,ar⟩:=aH.freeze U (ae)
 exact At.rt (vL D ((([]:List aj)++s).length) G) (hR am ⟨(vL D ((([]:List aj)++s).length) G),rfl,bl ar (by simp),rfl⟩)
section
variable {ns out:List aa} {l x:aa} {i:Int} {put:Bool}
end
section
variable {ns:List aa} {p data q:bp} {cC born bK o' b':Int} {num:Bool} {up x:aa} {k:Int}
theorem TM (a b:aa):decide (a=b)=(decide (a.af=b.af)&&(decide (a.Data=b.Data)&&(decide (a.ai=b.ai)&&(decide (a.aC=b.aC)&&(decide (a.Next=b.Next)&&decide (a.aF=b.aF)))))):=by
  obtain⟨a1,a2,a3,a4,a5,u⟩:=a
  obtain⟨b1,b2,D,G,I,J⟩:=b
  rw[iN]
  simp[aa.mk.injEq]
theorem x4 {a b:aa} (h:¬a.af=b.af∨¬a.Data=b.Data∨¬a.ai=b.ai∨¬a.aC=b.aC∨¬a.Next=b.Next):false=decide (a=b):=by
  refine(gQ fun e=>?_).symm
  subst e
  rcases h with h|h|h|h|h
  all_goals exact h rfl
theorem TN {a b:aa} (h1:a.af=b.af) (h2:a.Data=b.Data) (h3:a.ai=b.ai) (h4:a.aC=b.aC) (h5:a.Next=b.Next):(a.aF==b.aF)=decide (a=b):=by
  rw[TM,gb h2,gb h1,gb h3,gb h4,gb h5]
  simp only[lK]
  rw[iN]
  simp
end
section
variable {bC:List aa} {i:Int} {l x:aa}
end
section
variable {bC:List aa} {i:Int} {l x:aa}
end
theorem TO (B:World) (h:ay) (g:GH) (hg:bu g h) (am:bz g) (a:aa) (J:Value) (O:an g 5 a_ J a.Data) (b:aa) (U:Value) (V:an g 5 a_ U b.Data) (h1:a.Data.length≤1000000000):
  aG prog B 39 #[.agg #[vS a.af,J,vI a.ai,vI a.aC,vI a.Next,vI a.aF],.agg #[vS b.af,U,vI b.ai,vI b.aC,vI b.Next,vI b.aF]] h g [] (fun ar g' L'=>ar=.bool (decide (a=b))∧g'=g∧L'=[]):=by
 obtain⟨X,Y,rfl⟩:=O.ak
 obtain⟨Z,ab,rfl⟩:=V.ak
 refine aG.aq func39 fun R hR=>At.rg 3<|Op.bx 2 39 0 #[vS a.af,vL X a.Data.length Y,vI a.ai,vI a.aC,vI a.Next,vI a.aF] (St.init hg) fun G a0 aw=>Op.bx 3 39 1 #[vS b.af,vL Z b.Data.length ab,vI b.ai,vI b.aC,vI b.Next,vI b.aF] aw fun I a1 D=>Op.pg 1 [] ?_
 refine At.rp 41 1 [(5,vP G)]<|Op.l1 9 5 6 0 (vS a.af) (D.ag 1 rfl)<|Op.px 1 [(7,vP I)]<|Op.l1 9 7 8 0 (vS b.af) (D.ag 0 rfl)<|Op.vl 9 (.bool ((br a.af).toList==(br b.af).toList)) (.bool (a.af==b.af)) (by rw[toList_mkS,toList_mkS]) ?_
 refine Op.px 1 [(10,.bool (a.af==b.af))]<|Op.wb (a.af==b.af) 10 (fun ad=>?_) fun ae=>?_
 ·replace ad:=eq_of_beq ad
  refine Op.px 1 [(11,vQ G 1)]<|Op.l1 22 11 12 1 (vL X a.Data.length Y) (D.ag 1 rfl)<|Op.px 1 [(13,vQ I 1)]<|Op.l1 22 13 14 1 (vL Z b.Data.length ab) (D.ag 0 rfl)<|Op.c1 15 (qK _ _ _ D.sub am _ _ O _ _ V (by(try dsimp only)<;>omega)) D fun a3 u=>?_
  refine Op.px 2 [(17,.bool (decide (a.Data=b.Data)))]<|Op.wd (a.Data=b.Data) 17 (fun a4=>?_) fun a5=>?_
  ·refine Op.px 1 [(18,vQ G 2)]<|Op.l1 3 18 19 2 (vI a.ai) (u.ag 1 rfl)<|Op.px 1 [(20,vQ I 2)]<|Op.l1 3 20 21 2 (vI b.ai) (u.ag 0 rfl)<|Op.px 3 [(24,.bool (a.ai==b.ai))] ?_
   refine Op.wd (a.ai=b.ai) 24 (fun a6=>?_) fun a7=>?_
   ·refine Op.px 1 [(25,vQ G 3)]<|Op.l1 3 25 26 3 (vI a.aC) (u.ag 1 rfl)<|Op.px 1 [(27,vQ I 3)]<|Op.l1 3 27 28 3 (vI b.aC) (u.ag 0 rfl)<|Op.px 3 [(31,.bool (a.aC==b.aC))] ?_
    refine Op.wd (a.aC=b.aC) 31 (fun a8=>?_) fun a9=>?_
    ·refine Op.px 1 [(32,vQ G 4)]<|Op.l1 3 32 33 4 (vI a.Next) (u.ag 1 rfl)<|Op.px 1 [(34,vQ I 4)]<|Op.l1 3 34 35 4 (vI b.Next) (u.ag 0 rfl)<|Op.px 3 [(38,.bool (a.Next==b.Next))] ?_
     refine Op.wd (a.Next=b.Next) 38 (fun bb=>?_) fun bc=>?_
     ·exact Op.px 1 [(39,vQ G 5)]<|Op.l1 3 39 40 5 (vI a.aF) (u.ag 1 rfl)<|Op.px 1 [(41,vQ I 5)]<|Op.l1 3 41 42 5 (vI b.aF) (u.ag 0 rfl)<|Op.pr 2 4 (.bool (a.aF==b.aF)) (hR u.drop.drop ⟨(bn (by exact TN ‹_› ‹_› ‹_› ‹_› ‹_›)),rfl,rfl⟩)
     exact Op.pr 2 4 vF (hR u.drop.drop ⟨(bn (by exact x4 (.inr (.inr (.inr (.inr ‹_›)))))),rfl,rfl⟩)
    exact Op.pr 2 4 vF (hR u.drop.drop ⟨(bn (by exact x4 (.inr (.inr (.inr (.inl ‹_›)))))),rfl,rfl⟩)
   exact Op.pr 2 4 vF (hR u.drop.drop ⟨(bn (by exact x4 (.inr (.inr (.inl ‹_›))))),rfl,rfl⟩)
  exact Op.pr 2 4 vF (hR u.drop.drop ⟨(bn (by exact x4 (.inr (.inl ‹_›)))),rfl,rfl⟩)
 replace ae:=pI ae
 exact Op.pr 2 4 vF (hR D.drop.drop ⟨(bn (by exact x4 (.inl ‹_›))),rfl,rfl⟩)
theorem TP {v:Int} (h1:¬v<0) (h2:¬v>4611686018427387902):false=!eW v:=by unfold eW;rw[gb (by omega),gb (by omega)];rfl
theorem TQ {v:Int} (h1:v>4611686018427387902):true=!eW v:=by unfold eW;rw[gQ (p:=v≤_) (by omega),zf];rfl
section
variable {x:Result} {bL:List aj} {i:Int} {w:au}
end
section
variable {b x0 x1 x2 x3 e:aj} {y0 y1 y2 y3 y4 y5 y6 i:Int} {ns:List aj} {eE:List au} {ob:Result}
end
theorem LL {w:au} (h:kG w=true):dX (mA w).1=(w,true):=by
  unfold kG at h
  simp only[bZ,jZ] at h
  obtain⟨h1,h2⟩:=h
  have hn:[w.ax,w.ah].all gi=true:=by
    simp only[jD,me,bZ,mh] at h1 ⊢
    exact⟨(r8 h1.1).1,(r8 h1.2).1⟩
  unfold mA at *
  obtain⟨h3,h4⟩:=xG h2
  rw[h4]
  have hs:=vj h3
  rw[r7 hn] at hs ⊢
  have hI:=xF hn
  unfold dX tK
  rw[hs]
  simp only[uc,ud]
  rw[hI,Dy hn 2 rfl]
  simp
theorem TR {x:Result} (h:(aO x).2=0):jw x=true∧(b7 x.aX).2=0∧x.aP.all kG=true∧(b7 (lU x)).2=0∧(aO x).1=(b7 (lU x)).1:=by
  unfold aO at *
  repeat' split at h
  all_goals first|(simp at h;done)|skip
  rename_i h1 h2 h3 h4
  refine⟨by simpa using h1,by simpa using h2,by simpa using h3,by simpa using h4,?_⟩
  rw[aL h1,aL h2,aL h3,aL h4]
theorem LM {x:Result} (h:(aO x).2=0):av (aO x).1=(x,0):=by
  obtain⟨h1,h2,h3,h4,h5⟩:=TR h
  obtain⟨h6,h7⟩:=xG h4
  obtain⟨h8,h9⟩:=xG h2
  have hn:=Ja h1
  have hb:(aO x).1=dW (lU x):=by rw[h5,h7]
  have hs:=vj h6
  rw[←hb] at hs
  have hI:=xF hn
  have hrow:lU x=(eC (tJ x))::x.aa.af::x.aa.Data::dW x.aX::x.aP.map (fun w=>(mA w).1):=by
    unfold lU xE
    rw[r7 hn,h9]
    rfl
  rw[hrow] at hs
  have hNs:=vj h8
  have hE:(x.aP.map fun w=>(mA w).1).map (fun e=>(dX e).1)=x.aP:=by
    rw[jA]
    conv=>rhs;rw[←uq x.aP]
    apply wA
    intro w hw
    rw[gx] at h3
    simp only[Function.comp,LL (h3 w hw),id]
  have hA:(x.aP.map fun w=>(mA w).1).all (fun e=>(dX e).2)=true:=by
    rw[List.all_map,gx]
    intro w hw
    rw[gx] at h3
    simp only[Function.comp,LL (h3 w hw)]
  have hd:jT (aO x).1=true:=by
    unfold jT
    rw[hs]
    simp only[uc,ud,Dy hn 7 rfl,hNs]
    simp
    omega
  have u:r5 (aO x).1=x.aP:=by
    unfold r5
    rw[hs]
    exact hE
  have hN:tL (aO x).1 (r5 (aO x).1)=x:=by
    rw[u]
    unfold tL vg
    rw[hs]
    simp only[uc,ud,hI,hNs]
    unfold tJ
    simp only[uc,ud]
    simp
  unfold av
  rw[hd,aY rfl,hN]
  have:(List.drop (4:Int).toNat (aJ (aO x).1).1).all (fun e=>(dX e).2)=true:=by
    rw[hs]
    exact hA
  rw[this,aY rfl,aY ⟨h,rfl⟩]
theorem TS (B:World) (h:ay) (g:GH) (hg:bu g h) (aw:bz g) (I:Value) (s:List au) (J:an g 45 cA I s) (h1:s.length≤1000000000):
  aG prog B 33 #[I] h g [] (fun X g' L'=>∃v0 O,X=v0∧aH 45 cA g' v0 s O∧g'=g∧L'=[O]):=by
 obtain⟨Y,Z,rfl⟩:=J.ak
 refine aG.aq func33 fun R hR=>At.go 1 1 []<|At.rg 2<|Op.ls 4 0 45 #[] (St.init hg) fun u a0 U=>Op.pg 2 [(3,vL (some ⟨u,0,none⟩) 0 0)] ?_
 refine At.rp 4 2 [(5,vL (some ⟨u,0,none⟩) 0 0),(6,vL Y s.length Z)] ?_
 have ab:aH 45 cA g (vL (some ⟨u,0,none⟩) 0 0) ([]:List au) [(u,Obj.cells #[] 45 (0,0))]:=aH.lit (by kernel_rfl) (by unfold maxLen;decide) (by kernel_rfl) Reads.nil
 obtain⟨a1,ad,ae⟩:=cT.slice (P:=prog) (J.toH U.sub)
 refine Op.ap 5 6 41 41 7 45 32 cA (ys:=s) ab U 0 ae (by(simp only[b_,bJ,cF,dZ,eT];omega)) (fun _ _ _=>trivial) ad fun a3 am a4 V ar a5=>?_
 obtain⟨D,G,rfl⟩:=V.ak
 exact Op.pg 3 [(3,vL D ((([]:List au)++s).length) G)]<|At.gr 4 2 2 (vL D ((([]:List au)++s).length) G) (hR ar ⟨(vL D ((([]:List au)++s).length) G),am,rfl,dP V (by simp),rfl,rfl⟩)
set_option linter.unusedSectionVars false
section
variable {o x:aR} {inner b:Bool} {i:Int}
end
section
variable {b x:aj} {inner:Bool} {i deep y:Int} {ob:aR}
end
section
variable {l:List Int} {q i v c k n:Int} {b x0 x3 e:aj} {ob:Result} {w:au}
theorem TU (h:(l.take q.toNat).all eW=true) (h0:0≤q) (hx:l[q.toNat]?=some v) (c1:¬v<0) (c2:¬v>4611686018427387902):(l.take (q+1).toNat).all eW=true:=by
  rw[toNat_succ h0,fP hx,uZ,h]
  have:=TP c1 c2
  simp[show eW v=true by simpa using this.symm]
theorem AS (hx:l[q.toNat]?=some v) (h:v<0∨v>4611686018427387902):l.all eW=false:=by
  rw[iT]
  intro hc
  have:=gx.1 hc v (bY hx)
  rcases h with h|h
  · have h2:=IU h;rw[this] at h2;cases h2
  · have h2:=TQ h;rw[this] at h2;cases h2
theorem TV (h:(l.take q.toNat).all eW=true) (hq:¬q<(l.length:Int)):l.all eW=true:=by rwa[fF (by omega)] at h
theorem TW (h1:¬c>4611686018427387902) (h2:¬k>4611686018427387902) (h3:(cr [c,k]).2=0):[c,k].all eW=true:=by
  unfold cr at h3
  split at h3
  · rename_i h
    unfold gi at h
    unfold eW
    simp only[jD,me,mh,bZ,cN] at h ⊢
    omega
  · cases h3
theorem AT (h:c>4611686018427387902∨k>4611686018427387902):[c,k].all eW=false:=by
  unfold eW
  simp only[jD,me,mh,rD,jE]
  omega
theorem LN (h:¬(cr [c,k]).2=0):[c,k].all eW=false:=by
  rw[iT]
  intro hc
  apply h
  unfold cr
  rw[aY]
  unfold eW at hc
  unfold gi
  simp only[jD,me,mh,bZ,cN] at hc ⊢
  omega
theorem ql (h:¬((bh b).1.length:Int)=n):fc b n=false:=by unfold fc;simp;intro _;omega
theorem qm (h:¬(bh b).2=0):fc b n=false:=(Dm h).symm
theorem LP (h1:(bh b).2=0) (h2:((bh b).1.length:Int)=n):fc b n=true:=by unfold fc;rw[h1,h2];simp
theorem LQ {l:List aj} (h0:4≤i) (h:l[i.toNat]?=some e):(l.drop (4:Int).toNat)[(i-4).toNat]?=some e:=by
  rw[rE,show(4:Int).toNat+(i-4).toNat=i.toNat by omega]
  exact h
theorem TX (H:nE b x0 x3 ob (i-4)) (h0:4≤i) (he:(aJ b).1[i.toNat]?=some e) (hok:dX e=(w,true)):
    nE b x0 x3 ⟨ob.Code,ob.aU,ob.At,⟨ob.aa.af,ob.aa.Data,ob.aa.ai,ob.aa.aC,ob.aa.Next,ob.aa.aF⟩,ob.aX,ob.aP++[w]⟩ (i+1-4):=by
  have e1:i+1-4=(i-4)+1:=by omega
  have:=I3 H (by omega) (LQ h0 he) (by rw[hok])
  rw[hok] at this
  rw[e1]
  exact this
theorem jY (hH:jT b=true) (h0:4≤i) (he:(aJ b).1[i.toNat]?=some e) (hok:dX e=(w,false)):av b=(p5,130):=vh hH (LQ h0 he) (by rw[hok])
theorem AU {x:Result} {ns:List aj} (hN:ns=x.aX.take i.toNat) (hi:¬i<(x.aX.length:Int)):ns=x.aX:=by rw[hN,fF (by omega)]
theorem LR (x:Result):([x.Code,x.aU,x.At,x.aa.ai,x.aa.Next,x.aa.aF].length:Int)=6:=rfl
theorem TY (fs:List aj):(b7 fs).1.length≤1000000000:=by
  unfold b7
  split
  · rename_i h
    unfold jM at h
    simp only[bZ,cN,gx] at h
    refine cH (sy (m:=65536) fs fun f hf=>?_) ?_
    · have:=h.2 f hf;omega
    · have:=h.1;omega
  · exact eX _
theorem lE (x:Result):(aO x).1.length≤1000000000:=by
  unfold aO
  repeat' split
  all_goals first|exact eX _|exact TY _
theorem mI (h0:4≤i) (h:¬i<((aJ b).1.length:Int)):¬(i-4)<(((aJ b).1.drop (4:Int).toNat).length:Int):=by rw[eT];omega
end
theorem x5 (B:World) (h:ay) (g:GH) (hg:bu g h) (D:bz g) (x:Result) (dC:Value) (O:an g 5 a_ dC x.aa.Data) (dE:Value) (ab:an g 9 cV dE x.aX) (dT:Value) (G:an g 45 cA dT x.aP) (hL:m_ x):
  aG prog B 17 #[.agg #[vI x.Code,vI x.aU,vI x.At,vS x.aa.af,dC,vI x.aa.ai,vI x.aa.aC,vI x.aa.Next,vI x.aa.aF,dE,dT]] h g [] (fun e9 g' L'=>∃v0,e9=.tuple #[v0,.int .i64 ((aO x).2)]∧an g' 5 a_ v0 ((aO x).1)∧L'=[]):=by
 obtain⟨X,Y,rfl⟩:=O.ak
 obtain⟨a6,aw,rfl⟩:=ab.ak
 obtain⟨a7,a0,rfl⟩:=G.ak
 refine aG.aq func17 fun R hR=>At.rg 3<|Op.bx 1 43 0 #[vI x.Code,vI x.aU,vI x.At,vS x.aa.af,vL X x.aa.Data.length Y,vI x.aa.ai,vI x.aa.aC,vI x.aa.Next,vI x.aa.aF,vL a6 x.aX.length aw,vL a7 x.aP.length a0] (St.init hg) fun J hC d0=>Op.pg 1 []<|At.rp 4 1 [(20,vQ J 3)] ?_
 refine Op.la 39 20 21 3 6 [vS x.aa.af,vL X x.aa.Data.length Y,vI x.aa.ai,vI x.aa.aC,vI x.aa.Next,vI x.aa.aF] (d0.ag 0 rfl)<|Op.al 4 39 qQ d0 fun U hD fa=>Op.sg 39 4 21 0 0 #[vS x.aa.af,vL X x.aa.Data.length Y,vI x.aa.ai,vI x.aa.aC,vI x.aa.Next,vI x.aa.aF] fa zt fun hE a1=>Op.gt 2<|At.rp 14 1 [(22,vP J)] ?_
 refine Op.l1 29 22 23 0 (vI x.Code) (a1.ag 1 rfl)<|Op.px 1 [(24,vQ J 1)]<|Op.l1 3 24 25 1 (vI x.aU) (a1.ag 1 rfl)<|Op.px 1 [(26,vQ J 2)]<|Op.l1 3 26 27 2 (vI x.At) (a1.ag 1 rfl) ?_
 refine Op.px 1 [(28,vQ U 2)]<|Op.l1 3 28 29 2 (vI x.aa.ai) (a1.ag 0 rfl)<|Op.px 1 [(30,vQ U 4)]<|Op.l1 3 30 31 4 (vI x.aa.Next) (a1.ag 0 rfl)<|Op.px 1 [(32,vQ U 5)] ?_
 refine Op.l1 3 32 33 5 (vI x.aa.aF) (a1.ag 0 rfl)<|Op.ls 34 6 3 #[vI x.Code,vI x.aU,vI x.At,vI x.aa.ai,vI x.aa.Next,vI x.aa.aF] a1 fun ae hF fg=>Op.pg 3 [(5,vL (some ⟨ae,0,none⟩) 6 6)] ?_
 have fi:aH 3 (dK .i64) g (vL (some ⟨ae,0,none⟩) 6 6) [x.Code,x.aU,x.At,x.aa.ai,x.aa.Next,x.aa.aF] [(ae,Obj.cells #[vI x.Code,vI x.aU,vI x.At,vI x.aa.ai,vI x.aa.Next,vI x.aa.aF] 3 (0,0))]:=aH.lit (by kernel_rfl) (by unfold maxLen;decide) (by kernel_rfl) ⟨_,_,rfl,rfl,⟨_,_,rfl,rfl,⟨_,_,rfl,rfl,⟨_,_,rfl,rfl,⟨_,_,rfl,rfl,⟨_,_,rfl,rfl,Reads.nil⟩⟩⟩⟩⟩⟩
 obtain⟨d1,fj,bt,d2⟩:=aH.freeze fi (fg)
 replace D:=D.mono bt
 replace G:=G.mono bt
 replace O:=O.mono bt
 replace ab:=ab.mono bt
 refine At.go 4 1 [(6,vI 0)] ?_
 have fl:∀(m:Nat) (q:Int) (c5:ay) (hm:6-q.toNat<m) (d3:0≤q) (fp:q≤6) (c6:([x.Code,x.aU,x.At,x.aa.ai,x.aa.Next,x.aa.aF].take q.toNat).all eW=true) (I:St h g (aS []) d1 [[(U,Obj.cells #[vS x.aa.af,vL X x.aa.Data.length Y,vI x.aa.ai,vI x.aa.aC,vI x.aa.Next,vI x.aa.aF] 39 (0,0))],[(J,Obj.cells #[vI x.Code,vI x.aU,vI x.At,vS x.aa.af,vL X x.aa.Data.length Y,vI x.aa.ai,vI x.aa.aC,vI x.aa.Next,vI x.aa.aF,vL a6 x.aX.length aw,vL a7 x.aP.length a0] 43 (0,0))]] c5),At (bP prog B 17 f17 R) [] 4 [(1,vP J),(4,vP U),(5,vL (some ⟨ae,0,none⟩) 6 6),(6,vI q)] c5:=by
  intro m;induction m with
  |zero=>intros;omega
  |succ m fr=>
   intro q c5 hm d3 fp c6 I
   refine At.go 5 4 [(38,.bool (decide (q<6)))]<|At.fd (q<6) 38 6 11 (fun hG=>?_) fun hH=>?_
   ·refine At.rp 12 2 [(41,vL (some ⟨ae,0,none⟩) 6 6),(42,vI q)] ?_
    obtain⟨am,a3⟩:=jo (l:=[x.Code,x.aU,x.At,x.aa.ai,x.aa.Next,x.aa.aF]) (i:=q) (by(simp only[bJ,cF];omega))
    obtain⟨hJ,hK,hO,hP,ft,fv,c8⟩:=an.bB d2 _ a3
    cases ft
    refine Op.iq 78 3 1 8 6 6 41 42 43 ae 0 q ?_
    replace c8:cut _ _ _=[vI am]:=c8
    refine Op.l1 3 43 44 (0+q.toNat*1) (vI am) (I.sub _ _ fv) ?_ (hv:=bN c8 0 rfl)
    refine Op.px 2 [(46,.bool (decide (am<0)))]<|Op.wd (am<0) 46 (fun hQ=>?_) fun hS=>?_
    ·exact Op.pg 7 [(52,vT)]<|At.bT 52 8<|At.go 9 2 [(2,vN),(3,vI 130)]<|At.rt jW (hR I.drop.drop ⟨vN,bA rfl (bg (by(rw[nc (vf (AS a3 (.inl ‹_›)))]))),bl (an.empty _ _ _ _ _) (by(rw[nc (vf (AS a3 (.inl ‹_›)))])),rfl⟩)
    refine Op.px 2 [(47,vL (some ⟨ae,0,none⟩) 6 6),(48,vI q)] ?_
    obtain⟨hT,hV,hW,hX,fw,fx,c9⟩:=an.bB d2 _ a3
    cases fw
    refine Op.iq 78 3 1 8 6 6 47 48 49 ae 0 q ?_
    replace c9:cut _ _ _=[vI am]:=c9
    refine Op.l1 3 49 50 (0+q.toNat*1) (vI am) (I.sub _ _ fx) ?_ (hv:=bN c9 0 rfl)
    refine Op.pg 7 [(52,.bool (decide (am>4611686018427387902)))]<|At.fd (am>4611686018427387902) 52 8 10 (fun hY=>?_) fun hZ=>?_
    ·exact At.go 9 2 [(2,vN),(3,vI 130)]<|At.rt jW (hR I.drop.drop ⟨vN,bA rfl (bg (by(rw[nc (vf (AS a3 (.inr ‹_›)))]))),bl (an.empty _ _ _ _ _) (by(rw[nc (vf (AS a3 (.inr ‹_›)))])),rfl⟩)
    exact At.rp 3 1 [(39,vI q)]<|Op.vq 40 (q+1)<|Op.pg 4 [(6,vI (q+1))] (At.ke (fr (q+1) _ (by(have h9:=LR x;omega)) (by omega) (by(have h9:=LR x;omega)) (by exact TU c6 d3 a3 ‹_› ‹_›) I))
   refine At.rp 8 1 [(53,vQ U 3)]<|Op.l1 3 53 54 3 (vI x.aa.aC) (I.ag 0 rfl)<|Op.px 2 [(56,.bool (decide (x.aa.aC<((-1):Int))))]<|Op.wd (x.aa.aC<((-1):Int)) 56 (fun h3=>?_) fun h4=>?_
   ·exact Op.pg 12 [(60,vT)]<|At.bT 60 13<|At.go 14 2 [(2,vN),(3,vI 130)]<|At.rt jW (hR I.drop.drop ⟨vN,bA rfl (bg (by(rw[nc (r4 (.inl ‹_›))]))),bl (an.empty _ _ _ _ _) (by(rw[nc (r4 (.inl ‹_›))])),rfl⟩)
   refine Op.px 1 [(57,vQ U 3)]<|Op.l1 3 57 58 3 (vI x.aa.aC) (I.ag 0 rfl)<|Op.pg 12 [(60,.bool (decide (x.aa.aC>4611686018427387902)))]<|At.fd (x.aa.aC>4611686018427387902) 60 13 15 (fun h5=>?_) fun h6=>?_
   ·exact At.go 14 2 [(2,vN),(3,vI 130)]<|At.rt jW (hR I.drop.drop ⟨vN,bA rfl (bg (by(rw[nc (r4 (.inr ‹_›))]))),bl (an.empty _ _ _ _ _) (by(rw[nc (r4 (.inr ‹_›))])),rfl⟩)
   refine At.rp 22 1 [(62,vP J)]<|Op.l1 29 62 63 0 (vI x.Code) (I.ag 1 rfl)<|Op.px 1 [(64,vQ J 1)]<|Op.l1 3 64 65 1 (vI x.aU) (I.ag 1 rfl)<|Op.px 1 [(66,vQ J 2)] ?_
   refine Op.l1 3 66 67 2 (vI x.At) (I.ag 1 rfl)<|Op.px 1 [(68,vQ U 2)]<|Op.l1 3 68 69 2 (vI x.aa.ai) (I.ag 0 rfl)<|Op.px 1 [(70,vQ U 3)]<|Op.l1 3 70 71 3 (vI x.aa.aC) (I.ag 0 rfl) ?_
   refine Op.vq 72 (x.aa.aC+1)<|Op.px 1 [(73,vQ U 4)]<|Op.l1 3 73 74 4 (vI x.aa.Next) (I.ag 0 rfl)<|Op.px 1 [(75,vQ U 5)]<|Op.l1 3 75 76 5 (vI x.aa.aF) (I.ag 0 rfl) ?_
   refine Op.ls 77 7 3 #[vI x.Code,vI x.aU,vI x.At,vI x.aa.ai,vI (x.aa.aC+1),vI x.aa.Next,vI x.aa.aF] I fun d4 h7 f0=>?_
   have f1:aH 3 (dK .i64) d1 (vL (some ⟨d4,0,none⟩) 7 7) [x.Code,x.aU,x.At,x.aa.ai,x.aa.aC+1,x.aa.Next,x.aa.aF] [(d4,Obj.cells #[vI x.Code,vI x.aU,vI x.At,vI x.aa.ai,vI (x.aa.aC+1),vI x.aa.Next,vI x.aa.aF] 3 (0,0))]:=aH.lit (by kernel_rfl) (by unfold maxLen;decide) (by kernel_rfl) ⟨_,_,rfl,rfl,⟨_,_,rfl,rfl,⟨_,_,rfl,rfl,⟨_,_,rfl,rfl,⟨_,_,rfl,rfl,⟨_,_,rfl,rfl,⟨_,_,rfl,rfl,Reads.nil⟩⟩⟩⟩⟩⟩⟩
   obtain⟨ib,d5,b3,f2⟩:=aH.freeze f1 (f0)
   replace D:=D.mono b3
   replace G:=G.mono b3
   replace O:=O.mono b3
   replace ab:=ab.mono b3
   refine Op.c0 (some 78) (C5 _ _ _ d5.sub D _ _ f2 (by((try dsimp only)<;>((simp;done))))) d5 ?_
   rintro _ d6 _ ih b4 f3 ⟨v76,rfl,ad,rfl⟩
   obtain⟨bb,bc,rfl⟩:=ad.ak
   replace D:=D.mono b4
   replace G:=G.mono b4
   replace O:=O.mono b4
   replace ab:=ab.mono b4
   refine Op.pg 16 [(7,vL bb (((cr ([x.Code,x.aU,x.At,x.aa.ai,x.aa.aC+1,x.aa.Next,x.aa.aF])).1).length) bc)]<|At.rg 2<|Op.ls 81 0 22 #[] f3 fun da ii f4=>Op.pg 17 [(9,vL (some ⟨da,0,none⟩) 0 0)]<|At.go 18 1 [(10,vI 0)] ?_
   have f5:∀(m:Nat) (b5:GH) (a4:aM d6 b5) (ns:List aj) (i:Int) (bd:Option Addr) (be:Nat) (db:az) (dc:ay) (hm:x.aX.length-i.toNat<m) (h0:0≤i) (h1:i≤x.aX.length) (hB:jw x=true) (hN:ns=x.aX.take i.toNat) (bi:aH 22 (fI 5 a_) b5 (.slice bd ns.length be) ns db) (a8:St h g (aS []) b5 [db,[(U,Obj.cells #[vS x.aa.af,vL X x.aa.Data.length Y,vI x.aa.ai,vI x.aa.aC,vI x.aa.Next,vI x.aa.aF] 39 (0,0))],[(J,Obj.cells #[vI x.Code,vI x.aU,vI x.At,vS x.aa.af,vL X x.aa.Data.length Y,vI x.aa.ai,vI x.aa.aC,vI x.aa.Next,vI x.aa.aF,vL a6 x.aX.length aw,vL a7 x.aP.length a0] 43 (0,0))]] dc),At (bP prog B 17 f17 R) [] 18 [(1,vP J),(4,vP U),(7,vL bb (((cr ([x.Code,x.aU,x.At,x.aa.ai,x.aa.aC+1,x.aa.Next,x.aa.aF])).1).length) bc),(9,vL bd ns.length be),(10,vI i)] dc:=by
    intro m;induction m with
    |zero=>intros;omega
    |succ m f6=>
     intro b5 a4 ns i bd be db dc hm h0 h1 hB hN bi a8
     replace D:=D.mono a4
     replace G:=G.mono a4
     replace O:=O.mono a4
     replace ab:=ab.mono a4
     replace ad:=ad.mono a4
     refine At.rp 5 2 [(82,vI i),(83,vQ J 9)]<|Op.l1 40 83 84 9 (vL a6 x.aX.length aw) (a8.ag 2 rfl)<|Op.pg 19 [(86,.bool (decide (i<(x.aX.length:Int))))]<|At.fd (i<(x.aX.length:Int)) 86 20 22 (fun ik=>?_) fun il=>?_
     ·refine At.rp 10 2 [(89,vL bd ns.length be),(90,vQ J 9)]<|Op.l1 40 90 91 9 (vL a6 x.aX.length aw) (a8.ag 2 rfl)<|Op.px 1 [(92,vI i)] ?_
      obtain⟨ar,dd⟩:=bW x.aX i
      obtain⟨f7,d7,io,ip,f8,df,dg⟩:=an.bB ab _ dd
      cases f8
      refine Op.iq 40 9 1 16 x.aX.length aw 91 92 93 f7 d7 i ?_
      replace dg:cut _ _ _=[vS ar]:=dg
      refine Op.l1 9 93 94 (d7+i.toNat*1) (vS ar) (a8.sub _ _ df) ?_ (hv:=bN dg 0 rfl)
      refine Op.toBytes (S:=9) (T:=22) (E:=5) (x:=94) (dst:=95) (l:=ar) (by kernel_rfl) (by kernel_rfl) (by kernel_rfl) (by kernel_rfl) (by kernel_rfl) (by(have:=hL.2.1.2 _ (bY dd);omega)) a8 fun is iv i0 d8 f9=>?_
      obtain⟨d9,ea,rfl⟩:=d8.ak
      obtain⟨i1,gc,eb,ge⟩:=p_.freeze d8 (f9)
      replace df:=eb _ _ df
      replace bi:=bi.mono eb
      refine Op.ls 96 1 22 #[vL d9 ar.length ea] gc fun i3 i4 ed=>Op.ap 89 96 76 76 97 22 24 (fI 5 a_) (ys:=[ar]) bi ed 1 (⟨_,_,rfl,⟨_,rfl,ge⟩,Reads.nil⟩) (by(have h1:=congrArg List.length hN;have h2:=hL.2.1.1;simp only[dZ,bJ,cF] at *;omega)) (fun _ _ _=>trivial) (cT.lit (m:=1) (sz:=1) (ed.ag 0 rfl) (news:=[vL d9 ar.length ea]) rfl rfl (by simp[Value.oneCell']) _) fun v117 i5 i6 ee gg i7=>?_
      obtain⟨gk,gn,rfl⟩:=ee.ak
      exact Op.pg 21 [(9,vL gk ((ns++([ar])).length) gn)]<|At.rp 3 1 [(87,vI i)]<|Op.cO 88 (i+1) (by omega) (by(have:=hL.2.1.1;omega))<|Op.pg 18 [(10,vI (i+1))] (At.ke (f6 _ (aM.trans a4 (by repeat (first|assumption|apply aM.trans))) (ns++([ar])) (i+1) _ _ _ _ (by omega) (by omega) (by omega) (by omega) (by rw[toNat_succ h0,fP dd,hN]) ee ((gg).drop)))
     refine At.rp 7 1 [(99,vL bd ns.length be)] ?_
     obtain⟨i8,ef,b6,gs⟩:=aH.freeze bi (a8)
     replace D:=D.mono b6
     replace G:=G.mono b6
     replace O:=O.mono b6
     replace ad:=ad.mono b6
     refine Op.c0 (some 100) (zL _ _ _ ef.sub D _ _ gs (by((try dsimp only)<;>((have h1:=congrArg List.length hN;have h2:=hL.2.1.1;simp only[dZ,bJ,cF] at *;omega))))) ef ?_
     rintro _ i9 _ jf b8 dj ⟨jj,rfl,ca,rfl⟩
     obtain⟨cb,ce,rfl⟩:=ca.ak
     replace D:=D.mono b8
     replace G:=G.mono b8
     replace O:=O.mono b8
     replace ad:=ad.mono b8
     refine Op.pg 23 [(11,vL cb (((b7 ns).1).length) ce),(12,vI ((b7 ns).2))]<|At.go 24 2 [(104,.bool (((b7 ns).2) != 0))]<|At.fn (((b7 ns).2)=0) 104 25 27 (fun js=>?_) fun jt=>?_
     ·exact At.go 26 2 [(2,vN),(3,vI 130)]<|At.rt jW (hR dj.drop.drop ⟨vN,bA rfl (bg (by(have h8:=AU hN ‹_›;subst h8;rw[zZ hB ‹_›]))),bl (an.empty _ _ _ _ _) (by(have h8:=AU hN ‹_›;subst h8;rw[zZ hB ‹_›])),rfl⟩)
     refine At.rp 9 2 [(105,vL bb (((cr ([x.Code,x.aU,x.At,x.aa.ai,x.aa.aC+1,x.aa.Next,x.aa.aF])).1).length) bc),(106,vP U)]<|Op.l1 9 106 107 0 (vS x.aa.af) (dj.ag 0 rfl)<|Op.toBytes (S:=9) (T:=22) (E:=5) (x:=107) (dst:=108) (l:=x.aa.af) (by kernel_rfl) (by kernel_rfl) (by kernel_rfl) (by kernel_rfl) (by kernel_rfl) (by(have:=hL.1;omega)) dj fun j1 j2 kc eh ej=>?_
     obtain⟨em,n146,rfl⟩:=eh.ak
     refine Op.px 1 [(109,vQ U 1)]<|Op.l1 22 109 110 1 (vL X x.aa.Data.length Y) (ej.ag 1 rfl)<|Op.px 1 [(111,vL cb (((b7 ns).1).length) ce)] ?_
     obtain⟨en,g1,bj,g2⟩:=p_.freeze eh (ej)
     replace D:=D.mono bj
     replace G:=G.mono bj
     replace O:=O.mono bj
     replace ca:=ca.mono bj
     replace ad:=ad.mono bj
     refine Op.ls 112 4 22 #[vL bb (((cr ([x.Code,x.aU,x.At,x.aa.ai,x.aa.aC+1,x.aa.Next,x.aa.aF])).1).length) bc,vL em x.aa.af.length n146,vL X x.aa.Data.length Y,vL cb (((b7 ns).1).length) ce] g1 fun dk kd g3=>Op.pg 28 [(13,vL (some ⟨dk,0,none⟩) 4 4)]<|At.go 29 1 [(14,vI 0)] ?_
     have g4:∀(m:Nat) (bk:GH) (cf:aM en bk) (bL:List aj) (p:Int) (bm:Option Addr) (bo:Nat) (dl:az) (dp:ay) (hm:x.aP.length-p.toNat<m) (ep:0≤p) (g5:p≤x.aP.length) (hB:jw x=true) (hn0:(b7 x.aX).2=0) (hI:p4 x bL p) (V:aH 22 (fI 5 a_) bk (.slice bm bL.length bo) bL dl) (a9:St h g (aS []) bk [dl,[(U,Obj.cells #[vS x.aa.af,vL X x.aa.Data.length Y,vI x.aa.ai,vI x.aa.aC,vI x.aa.Next,vI x.aa.aF] 39 (0,0))],[(J,Obj.cells #[vI x.Code,vI x.aU,vI x.At,vS x.aa.af,vL X x.aa.Data.length Y,vI x.aa.ai,vI x.aa.aC,vI x.aa.Next,vI x.aa.aF,vL a6 x.aX.length aw,vL a7 x.aP.length a0] 43 (0,0))]] dp),At (bP prog B 17 f17 R) [] 29 [(1,vP J),(13,vL bm bL.length bo),(14,vI p)] dp:=by
      intro m;induction m with
      |zero=>intros;omega
      |succ m g6=>
       intro bk cf bL p bm bo dl dp hm ep g5 hB hn0 hI V a9
       replace D:=D.mono cf
       replace G:=G.mono cf
       refine At.rp 5 2 [(113,vI p),(114,vQ J 10)]<|Op.l1 41 114 115 10 (vL a7 x.aP.length a0) (a9.ag 2 rfl)<|Op.pg 30 [(117,.bool (decide (p<(x.aP.length:Int))))]<|At.fd (p<(x.aP.length:Int)) 117 31 48 (fun kh=>?_) fun kk=>?_
       ·refine At.rp 7 1 [(120,vQ J 10)]<|Op.l1 41 120 121 10 (vL a7 x.aP.length a0) (a9.ag 2 rfl)<|Op.px 1 [(122,vI p)] ?_
        obtain⟨u,Z⟩:=bW x.aP p
        obtain⟨g7,er,kl,km,g8,g9,dq⟩:=an.bB G _ Z
        cases g8
        refine Op.iq 41 45 3 32 x.aP.length a0 121 122 123 g7 er p ?_
        replace dq:cut _ _ _=[vI u.ax,vI u.ah,vS u.af]:=dq
        refine Op.la 45 123 124 (er+p.toNat*3) 3 [vI u.ax,vI u.ah,vS u.af] (a9.sub _ _ g9) ?_ (hv:=dq)
        refine Op.al 15 45 lp a9 fun bs kv ha=>Op.sg 45 15 124 0 0 #[vI u.ax,vI u.ah,vS u.af] ha zt fun kw a5=>Op.gt 32<|At.rp 8 1 [(125,vP bs)]<|Op.l1 3 125 126 0 (vI u.ax) (a5.ag 0 rfl) ?_
        refine Op.px 2 [(128,.bool (decide (u.ax>4611686018427387902)))]<|Op.wd (u.ax>4611686018427387902) 128 (fun kx=>?_) fun kA=>?_
        ·exact Op.pg 33 [(132,vT)]<|At.bT 132 34<|At.go 35 2 [(2,vN),(3,vI 130)]<|At.rt jW (hR a5.drop.drop.drop.drop ⟨vN,bA rfl (bg (by(rw[n_ hB hn0 Z (rZ (AT (.inl ‹_›)))]))),bl (an.empty _ _ _ _ _) (by(rw[n_ hB hn0 Z (rZ (AT (.inl ‹_›)))])),rfl⟩)
        refine Op.px 1 [(129,vQ bs 1)]<|Op.l1 3 129 130 1 (vI u.ah) (a5.ag 0 rfl)<|Op.pg 33 [(132,.bool (decide (u.ah>4611686018427387902)))]<|At.fd (u.ah>4611686018427387902) 132 34 36 (fun k0=>?_) fun k1=>?_
        ·exact At.go 35 2 [(2,vN),(3,vI 130)]<|At.rt jW (hR a5.drop.drop.drop.drop ⟨vN,bA rfl (bg (by(rw[n_ hB hn0 Z (rZ (AT (.inr ‹_›)))]))),bl (an.empty _ _ _ _ _) (by(rw[n_ hB hn0 Z (rZ (AT (.inr ‹_›)))])),rfl⟩)
        refine At.rp 11 1 [(134,vP bs)]<|Op.l1 3 134 135 0 (vI u.ax) (a5.ag 0 rfl)<|Op.px 1 [(136,vQ bs 1)]<|Op.l1 3 136 137 1 (vI u.ah) (a5.ag 0 rfl)<|Op.ls 138 2 3 #[vI u.ax,vI u.ah] a5 fun et k2 hb=>?_
        have he:aH 3 (dK .i64) bk (vL (some ⟨et,0,none⟩) 2 2) [u.ax,u.ah] [(et,Obj.cells #[vI u.ax,vI u.ah] 3 (0,0))]:=aH.lit (by kernel_rfl) (by unfold maxLen;decide) (by kernel_rfl) ⟨_,_,rfl,rfl,⟨_,_,rfl,rfl,Reads.nil⟩⟩
        obtain⟨k3,ex,eA,hf⟩:=aH.freeze he (hb)
        replace V:=V.mono eA
        replace D:=D.mono eA
        refine Op.c0 (some 139) (C5 _ _ _ ex.sub D _ _ hf (by((try dsimp only)<;>((simp;done))))) ex ?_
        rintro _ k4 _ k5 eB du ⟨k6,rfl,ch,rfl⟩
        obtain⟨ci,ck,rfl⟩:=ch.ak
        replace V:=V.mono eB
        replace D:=D.mono eB
        refine Op.pg 37 [(16,vL ci (((cr ([u.ax,u.ah])).1).length) ck),(17,vI ((cr ([u.ax,u.ah])).2))]<|At.go 38 2 [(143,.bool (((cr ([u.ax,u.ah])).2) != 0))]<|At.fn (((cr ([u.ax,u.ah])).2)=0) 143 39 41 (fun k7=>?_) fun k8=>?_
        ·exact At.go 40 2 [(2,vN),(3,vI 130)]<|At.rt jW (hR du.drop.drop.drop.drop ⟨vN,bA rfl (bg (by(rw[n_ hB hn0 Z (rZ (LN ‹_›))]))),bl (an.empty _ _ _ _ _) (by(rw[n_ hB hn0 Z (rZ (LN ‹_›))])),rfl⟩)
        refine At.rp 11 2 [(145,vL ci (((cr ([u.ax,u.ah])).1).length) ck),(146,vQ bs 2)]<|Op.l1 9 146 147 2 (vS u.af) (du.ag 0 rfl)<|Op.toBytes (S:=9) (T:=22) (E:=5) (x:=147) (dst:=148) (l:=u.af) (by kernel_rfl) (by kernel_rfl) (by kernel_rfl) (by kernel_rfl) (by kernel_rfl) (by(have:=hL.2.2.2 _ (bY Z);omega)) du fun lb lc lh eI hh=>?_
        obtain⟨eJ,eK,rfl⟩:=eI.ak
        obtain⟨hj,hl,dv,hn⟩:=p_.freeze eI (hh)
        replace V:=V.mono dv
        replace D:=D.mono dv
        replace ch:=ch.mono dv
        refine Op.ls 149 2 22 #[vL ci (((cr ([u.ax,u.ah])).1).length) ck,vL eJ u.af.length eK] hl fun eL li ho=>?_
        have hp:aH 22 (fI 5 a_) hj (vL (some ⟨eL,0,none⟩) 2 2) [(cr ([u.ax,u.ah])).1,u.af] [(eL,Obj.cells #[vL ci (((cr ([u.ax,u.ah])).1).length) ck,vL eJ u.af.length eK] 22 (0,0))]:=aH.lit (by kernel_rfl) (by unfold maxLen;decide) (by kernel_rfl) ⟨_,_,rfl,⟨_,rfl,ch⟩,⟨_,_,rfl,⟨_,rfl,hn⟩,Reads.nil⟩⟩
        obtain⟨lj,eQ,e1,hq⟩:=aH.freeze hp (ho)
        replace V:=V.mono e1
        replace D:=D.mono e1
        refine Op.c0 (some 150) (zL _ _ _ eQ.sub D _ _ hq (by((try dsimp only)<;>((simp;done))))) eQ ?_
        rintro _ lk _ ll hr e2 ⟨lm,rfl,e3,rfl⟩
        obtain⟨a222,co,rfl⟩:=e3.ak
        replace V:=V.mono hr
        refine Op.pg 42 [(17,vI ((b7 ([(cr ([u.ax,u.ah])).1,u.af])).2)),(18,vL a222 (((b7 ([(cr ([u.ax,u.ah])).1,u.af])).1).length) co)]<|At.go 43 2 [(154,.bool (((b7 ([(cr ([u.ax,u.ah])).1,u.af])).2) != 0))]<|At.fn (((b7 ([(cr ([u.ax,u.ah])).1,u.af])).2)=0) 154 44 46 (fun ln=>?_) fun lr=>?_
        ·exact At.go 45 2 [(2,vN),(3,vI 130)]<|At.rt jW (hR e2.drop.drop.drop.drop ⟨vN,bA rfl (bg (by(rw[n_ hB hn0 Z (z_ ‹_›)]))),bl (an.empty _ _ _ _ _) (by(rw[n_ hB hn0 Z (z_ ‹_›)])),rfl⟩)
        refine At.rp 5 2 [(155,vL bm bL.length bo),(156,vL a222 (((b7 ([(cr ([u.ax,u.ah])).1,u.af])).1).length) co)]<|Op.ls 157 1 22 #[vL a222 (((b7 ([(cr ([u.ax,u.ah])).1,u.af])).1).length) co] e2 fun lv lw e4=>Op.ap 155 157 76 76 158 22 24 (fI 5 a_) (ys:=[(b7 ([(cr ([u.ax,u.ah])).1,u.af])).1]) V e4 2 (⟨_,_,rfl,⟨_,rfl,e3⟩,Reads.nil⟩) (by(have h1:=zY hI hL.2.2.1;simp only[bJ,cF];omega)) (fun _ _ _=>trivial) (cT.lit (m:=1) (sz:=1) (e4.ag 0 rfl) (news:=[vL a222 (((b7 ([(cr ([u.ax,u.ah])).1,u.af])).1).length) co]) rfl rfl (by simp[Value.oneCell']) _) fun lx ly lA e5 hs lL=>?_
        obtain⟨hu,hw,rfl⟩:=e5.ak
        exact Op.pg 47 [(13,vL hu ((bL++([(b7 ([(cr ([u.ax,u.ah])).1,u.af])).1])).length) hw)]<|At.rp 3 1 [(118,vI p)]<|Op.cO 119 (p+1) (by omega) (by(have:=hL.2.2.1;omega))<|Op.pg 29 [(14,vI (p+1))]<|At.ke (g6 _ (aM.trans cf (by repeat (first|assumption|apply aM.trans))) (bL++([(b7 ([(cr ([u.ax,u.ah])).1,u.af])).1])) (p+1) _ _ _ _ (by omega) (by omega) (by omega) (by omega) (by omega) (by exact IW hI ep Z (TW ‹_› ‹_› ‹_›) ‹_›) e5 (((hs).drop).drop))
       refine At.rp 7 1 [(160,vL bm bL.length bo)] ?_
       obtain⟨lO,e6,hx,hy⟩:=aH.freeze V (a9)
       replace D:=D.mono hx
       refine Op.c0 (some 161) (zL _ _ _ e6.sub D _ _ hy (by((try dsimp only)<;>((have h1:=zY hI hL.2.2.1;omega))))) e6 ?_
       rintro _ l0 _ l2 l3 e7 ⟨l4,rfl,e8,rfl⟩
       obtain⟨c3,c4,rfl⟩:=e8.ak
       refine Op.pg 49 [(12,vI ((b7 bL).2)),(19,vL c3 (((b7 bL).1).length) c4)]<|At.go 50 2 [(165,.bool (((b7 bL).2) != 0))]<|At.fn (((b7 bL).2)=0) 165 51 53 (fun l8=>?_) fun ma=>?_
       ·exact At.go 52 2 [(2,vN),(3,vI 130)]<|At.rt jW (hR e7.drop.drop ⟨vN,bA rfl (bg (by(rw[Aa hB hn0 hI (by omega) ‹_›]))),bl (an.empty _ _ _ _ _) (by(rw[Aa hB hn0 hI (by omega) ‹_›])),rfl⟩)
       exact At.go 54 3 [(2,vL c3 (((b7 bL).1).length) c4),(3,vI 0)]<|At.rt (.tuple #[vL c3 (((b7 bL).1).length) c4,vI 0]) (hR e7.drop.drop ⟨(vL c3 (((b7 bL).1).length) c4),bA rfl (bg (by(rw[Ab hB hn0 hI (by omega) ‹_›]))),bl e8 (by(rw[Ab hB hn0 hI (by omega) ‹_›])),rfl⟩)
     have hz:aH 22 (fI 5 a_) en (vL (some ⟨dk,0,none⟩) 4 4) [(cr ([x.Code,x.aU,x.At,x.aa.ai,x.aa.aC+1,x.aa.Next,x.aa.aF])).1,x.aa.af,x.aa.Data,(b7 ns).1] [(dk,Obj.cells #[vL bb (((cr ([x.Code,x.aU,x.At,x.aa.ai,x.aa.aC+1,x.aa.Next,x.aa.aF])).1).length) bc,vL em x.aa.af.length n146,vL X x.aa.Data.length Y,vL cb (((b7 ns).1).length) ce] 22 (0,0))]:=aH.lit (by kernel_rfl) (by unfold maxLen;decide) (by kernel_rfl) ⟨_,_,rfl,⟨_,rfl,ad⟩,⟨_,_,rfl,⟨_,rfl,g2⟩,⟨_,_,rfl,⟨_,rfl,O⟩,⟨_,_,rfl,⟨_,rfl,ca⟩,Reads.nil⟩⟩⟩⟩
     exact At.ke (g4 _ _ (aM.refl _) ([(cr ([x.Code,x.aU,x.At,x.aa.ai,x.aa.aC+1,x.aa.Next,x.aa.aF])).1,x.aa.af,x.aa.Data,(b7 ns).1]) 0 _ _ _ _ (bG _) (by omega) (by omega) (by omega) (by(have h8:=AU hN ‹_›;subst h8;assumption)) (by(have h8:=AU hN ‹_›;subst h8;exact IV x)) hz g3)
   have hA:aH 22 (fI 5 a_) d6 (vL (some ⟨da,0,none⟩) 0 0) ([]:List aj) [(da,Obj.cells #[] 22 (0,0))]:=aH.lit (by kernel_rfl) (by unfold maxLen;decide) (by kernel_rfl) Reads.nil
   exact At.ke (f5 _ _ (aM.refl _) ([]:List aj) 0 _ _ _ _ (bG _) (by omega) (by omega) (by exact Dr (TV c6 ‹_›) ‹_› ‹_›) (by rfl) hA f4)
 exact At.ke (fl _ 0 _ (bG _) (by omega) (by omega) (by rfl) fj)
abbrev oY:List Value:=[vI 0,vI 0,vI 0,vS [],vN,vI 0,vI 0,vI 0,vI 0,vN,vN]
theorem AV (B:World) (h:ay) (g:GH) (hg:bu g h) (J:bz g) (fa:Value) (b:aj) (X:an g 5 a_ fa b) (hl:b.length≤1000000000):
  aG prog B 20 #[fa] h g [] (fun h2 g' L'=>∃v0 v1 v2,h2=.tuple #[.agg #[.int .i64 (((av b).1).Code),.int .i64 (((av b).1).aU),.int .i64 (((av b).1).At),.string (br (((av b).1).aa.af)),v0,.int .i64 (((av b).1).aa.ai),.int .i64 (((av b).1).aa.aC),.int .i64 (((av b).1).aa.Next),.int .i64 (((av b).1).aa.aF),v1,v2],.int .i64 ((av b).2)]∧an g' 5 a_ v0 (((av b).1).aa.Data)∧an g' 9 cV v1 (((av b).1).aX)∧an g' 45 cA v2 (((av b).1).aP)∧L'=[]):=by
 obtain⟨dc,dd,rfl⟩:=X.ak
 refine aG.aq func20 fun R hR=>At.rg 2<|Op.al 2 43 dG (St.init hg) fun df my h3=>Op.pg 1 []<|At.rp 3 1 [(17,.agg dG)] ?_
 refine Op.al 4 43 dG h3 fun dg m0 h4=>Op.sg 43 4 17 0 0 dG h4 zt fun m1 fg=>Op.gt 2<|At.rp 7 1 [(19,vL dc b.length dd)]<|Op.c0 (some 20) (zM _ _ _ fg.sub J _ _ X (by(try dsimp only)<;>omega)) fg ?_
 rintro _ m2 _ m3 fi bc ⟨m4,rfl,ae,rfl⟩
 obtain⟨fj,am,rfl⟩:=ae.ak
 replace J:=J.mono fi
 replace X:=X.mono fi
 refine Op.pg 3 [(5,vL fj (((aJ b).1).length) am),(6,vI ((aJ b).2))]<|At.rp 7 3 [(25,.bool (((aJ b).2) != 0))]<|Op.wb (((aJ b).2) != 0) 25 (fun fl=>?_) fun fp=>?_
 ·replace fl:=fY fl
  refine Op.pg 4 [(29,vT)]<|At.bT 29 5<|At.rg 3<|Op.la 43 4 30 0 11 oY (bc.ag 0 rfl)<|Op.sg 43 2 30 0 1 dG bc zt fun m5 fr=>?_
  exact Op.pg 6 [(3,vI 130)]<|At.rn f20 kH [.cell 2 43,.tmp 3] ⟨⟨_,_,rfl,cq (n:=11) (by kernel_rfl) (fr.ag 1 rfl) (by kernel_rfl) rfl⟩,rfl,trivial⟩ (hR fr.drop.drop ⟨vN,vN,vN,bA (by(rw[eF (hr_1 ‹_›)];rfl)) (bg (by(rw[eF (hr_1 ‹_›)];done))),bl (an.empty _ _ _ _ _) (by(rw[eF (hr_1 ‹_›)];rfl)),bl (an.empty _ _ _ _ _) (by(rw[eF (hr_1 ‹_›)];rfl)),bl (an.empty _ _ _ _ _) (by(rw[eF (hr_1 ‹_›)];rfl)),rfl⟩)
 replace fp:=gB fp
 refine Op.pg 4 [(29,.bool (decide ((((aJ b).1).length:Int)<4)))]<|At.fd ((((aJ b).1).length:Int)<4) 29 5 7 (fun m6=>?_) fun m7=>?_
 ·exact At.rg 3<|Op.la 43 4 30 0 11 oY (bc.ag 0 rfl)<|Op.sg 43 2 30 0 1 dG bc zt fun m8 ft=>Op.pg 6 [(3,vI 130)]<|At.rn f20 kH [.cell 2 43,.tmp 3] ⟨⟨_,_,rfl,cq (n:=11) (by kernel_rfl) (ft.ag 1 rfl) (by kernel_rfl) rfl⟩,rfl,trivial⟩ (hR ft.drop.drop ⟨vN,vN,vN,bA (by(rw[eF (hr_2 ‹_›)];rfl)) (bg (by(rw[eF (hr_2 ‹_›)];done))),bl (an.empty _ _ _ _ _) (by(rw[eF (hr_2 ‹_›)];rfl)),bl (an.empty _ _ _ _ _) (by(rw[eF (hr_2 ‹_›)];rfl)),bl (an.empty _ _ _ _ _) (by(rw[eF (hr_2 ‹_›)];rfl)),rfl⟩)
 refine At.rp 9 1 [(32,vL fj (((aJ b).1).length) am)] ?_
 obtain⟨G,I⟩:=bW ((aJ b).1) 0
 obtain⟨a3,Z,m9,na,h5,d3,d4⟩:=an.bB ae _ I
 cases h5
 refine Op.iq 76 22 1 24 (((aJ b).1).length) am 32 (.const (vI 0)) 33 a3 Z 0 ?_
 obtain⟨v53,d4,fv⟩:=d4
 obtain⟨h6,h7,rfl⟩:=fv.ak
 refine Op.l1 22 33 34 (Z+(0:Int).toNat*1) (vL h6 G.length h7) (bc.sub _ _ d3) ?_ (hv:=bN d4 0 rfl)
 refine Op.c0 (some 35) (C6 _ _ _ bc.sub J _ _ fv (by((try dsimp only)<;>((have:=oP I;omega))))) bc ?_
 rintro _ nb _ nd dj d5 ⟨nf,rfl,a5,rfl⟩
 obtain⟨fw,ad,rfl⟩:=a5.ak
 replace d3:=dj _ _ d3
 replace J:=J.mono dj
 replace X:=X.mono dj
 replace ae:=ae.mono dj
 refine Op.pg 8 [(6,vI ((bh G).2)),(7,vL fw (((bh G).1).length) ad)]<|At.rp 9 1 [(39,vL (some ⟨a3,Z,none⟩) (((aJ b).1).length) am)] ?_
 obtain⟨ab,O⟩:=bW ((aJ b).1) 3
 obtain⟨nm,nn,no,np,h8,d6,d7⟩:=an.bB ae _ O
 cases h8
 refine Op.iq 76 22 1 24 (((aJ b).1).length) am 39 (.const (vI 3)) 40 a3 Z 3 ?_
 obtain⟨nu,d7,fx⟩:=d7
 obtain⟨a76,h9,rfl⟩:=fx.ak
 refine Op.l1 22 40 41 (Z+(3:Int).toNat*1) (vL a76 ab.length h9) (d5.sub _ _ d6) ?_ (hv:=bN d7 0 rfl)
 refine Op.c0 (some 42) (zM _ _ _ d5.sub J _ _ fx (by((try dsimp only)<;>((have:=oP O;omega))))) d5 ?_
 rintro _ dk _ nx ca Y ⟨nz,rfl,dl,rfl⟩
 obtain⟨d8,dp,rfl⟩:=dl.ak
 replace d6:=ca _ _ d6
 replace J:=J.mono ca
 replace X:=X.mono ca
 replace ae:=ae.mono ca
 replace a5:=a5.mono ca
 refine Op.pg 9 [(8,vL d8 (((aJ ab).1).length) dp),(9,vI ((aJ ab).2))]<|At.rp 11 3 [(47,.bool (((bh G).2) != 0))]<|Op.wb (((bh G).2) != 0) 47 (fun f0=>?_) fun f1=>?_
 ·replace f0:=fY f0
  refine Op.pg 10 [(55,vT)]<|At.bT 55 11<|At.rg 3<|Op.la 43 4 56 0 11 oY (Y.ag 0 rfl)<|Op.sg 43 2 56 0 1 dG Y zt fun n0 f2=>?_
  exact Op.pg 12 [(3,vI 130)]<|At.rn f20 kH [.cell 2 43,.tmp 3] ⟨⟨_,_,rfl,cq (n:=11) (by kernel_rfl) (f2.ag 1 rfl) (by kernel_rfl) rfl⟩,rfl,trivial⟩ (hR f2.drop.drop ⟨vN,vN,vN,bA (by(rw[eF (mB I (qm ‹_›))];rfl)) (bg (by(rw[eF (mB I (qm ‹_›))];done))),bl (an.empty _ _ _ _ _) (by(rw[eF (mB I (qm ‹_›))];rfl)),bl (an.empty _ _ _ _ _) (by(rw[eF (mB I (qm ‹_›))];rfl)),bl (an.empty _ _ _ _ _) (by(rw[eF (mB I (qm ‹_›))];rfl)),rfl⟩)
 replace f1:=gB f1
 refine Op.px 4 [(51,.bool (((aJ ab).2) != 0))]<|Op.wb (((aJ ab).2) != 0) 51 (fun f3=>?_) fun f4=>?_
 ·replace f3:=fY f3
  refine Op.pg 10 [(55,vT)]<|At.bT 55 11<|At.rg 3<|Op.la 43 4 56 0 11 oY (Y.ag 0 rfl)<|Op.sg 43 2 56 0 1 dG Y zt fun n3 f5=>?_
  exact Op.pg 12 [(3,vI 130)]<|At.rn f20 kH [.cell 2 43,.tmp 3] ⟨⟨_,_,rfl,cq (n:=11) (by kernel_rfl) (f5.ag 1 rfl) (by kernel_rfl) rfl⟩,rfl,trivial⟩ (hR f5.drop.drop ⟨vN,vN,vN,bA (by(rw[eF (hr_4 O ‹_›)];rfl)) (bg (by(rw[eF (hr_4 O ‹_›)];done))),bl (an.empty _ _ _ _ _) (by(rw[eF (hr_4 O ‹_›)];rfl)),bl (an.empty _ _ _ _ _) (by(rw[eF (hr_4 O ‹_›)];rfl)),bl (an.empty _ _ _ _ _) (by(rw[eF (hr_4 O ‹_›)];rfl)),rfl⟩)
 replace f4:=gB f4
 refine Op.pg 10 [(55,.bool ((((bh G).1).length:Int) != 7))]<|At.fn ((((bh G).1).length:Int)=7) 55 11 13 (fun oi=>?_) fun oj=>?_
 ·exact At.rg 3<|Op.la 43 4 56 0 11 oY (Y.ag 0 rfl)<|Op.sg 43 2 56 0 1 dG Y zt fun ol f6=>Op.pg 12 [(3,vI 130)]<|At.rn f20 kH [.cell 2 43,.tmp 3] ⟨⟨_,_,rfl,cq (n:=11) (by kernel_rfl) (f6.ag 1 rfl) (by kernel_rfl) rfl⟩,rfl,trivial⟩ (hR f6.drop.drop ⟨vN,vN,vN,bA (by(rw[eF (mB I (ql ‹_›))];rfl)) (bg (by(rw[eF (mB I (ql ‹_›))];done))),bl (an.empty _ _ _ _ _) (by(rw[eF (mB I (ql ‹_›))];rfl)),bl (an.empty _ _ _ _ _) (by(rw[eF (mB I (ql ‹_›))];rfl)),bl (an.empty _ _ _ _ _) (by(rw[eF (mB I (ql ‹_›))];rfl)),rfl⟩)
 refine At.dw (fun _=>False) [(0,true),(1,true),(3,true),(4,true),(6,true),(7,true),(9,true),(10,true),(12,true),(13,true),(16,true),(17,true),(19,true),(20,true),(22,true),(23,true),(26,true),(27,true),(2,true),(5,true),(8,true),(11,true),(14,true),(15,true),(18,true),(21,true),(24,true),(25,true),(28,true),(29,true),(30,true),(31,false),(1032,false),(32,false)]<|Op.px 1 [(57,vL fw (((bh G).1).length) ad)] ?_
 obtain⟨bj,f7⟩:=bW ((bh G).1) 0
 obtain⟨ar,V,or,ow,ib,ih,d9⟩:=an.bB a5 _ f7
 cases ib
 refine Op.iq 78 3 1 8 (((bh G).1).length) ad 57 (.const (vI 0)) 58 ar V 0 ?_
 replace d9:cut _ _ _=[vI bj]:=d9
 refine Op.px 1 [(60,vL (some ⟨ar,V,none⟩) (((bh G).1).length) ad)] ?_
 obtain⟨bk,f8⟩:=bW ((bh G).1) 1
 obtain⟨o3,o4,o5,pa,ii,ik,ea⟩:=an.bB a5 _ f8
 cases ii
 refine Op.iq 78 3 1 8 (((bh G).1).length) ad 60 (.const (vI 1)) 61 ar V 1 ?_
 replace ea:cut _ _ _=[vI bk]:=ea
 refine Op.px 1 [(63,vL (some ⟨ar,V,none⟩) (((bh G).1).length) ad)] ?_
 obtain⟨bm,f9⟩:=bW ((bh G).1) 2
 obtain⟨pb,pc,pd,pf,il,io,eb⟩:=an.bB a5 _ f9
 cases il
 refine Op.iq 78 3 1 8 (((bh G).1).length) ad 63 (.const (vI 2)) 64 ar V 2 ?_
 replace eb:cut _ _ _=[vI bm]:=eb
 refine Op.px 1 [(66,vL (some ⟨ar,V,none⟩) (((bh G).1).length) ad)] ?_
 obtain⟨bo,gc⟩:=bW ((bh G).1) 3
 obtain⟨ph,pj,pl,pm,ip,is,ed⟩:=an.bB a5 _ gc
 cases ip
 refine Op.iq 78 3 1 8 (((bh G).1).length) ad 66 (.const (vI 3)) 67 ar V 3 ?_
 replace ed:cut _ _ _=[vI bo]:=ed
 refine Op.px 1 [(69,vL (some ⟨ar,V,none⟩) (((bh G).1).length) ad)] ?_
 obtain⟨bd,dq⟩:=bW ((bh G).1) 4
 obtain⟨po,pu,pv,pw,iv,i0,ee⟩:=an.bB a5 _ dq
 cases iv
 refine Op.iq 78 3 1 8 (((bh G).1).length) ad 69 (.const (vI 4)) 70 ar V 4 ?_
 replace ee:cut _ _ _=[vI bd]:=ee
 refine Op.px 1 [(73,vL (some ⟨ar,V,none⟩) (((bh G).1).length) ad)] ?_
 obtain⟨bs,ge⟩:=bW ((bh G).1) 5
 obtain⟨py,pA,pB,pC,i1,i3,ef⟩:=an.bB a5 _ ge
 cases i1
 refine Op.iq 78 3 1 8 (((bh G).1).length) ad 73 (.const (vI 5)) 74 ar V 5 ?_
 replace ef:cut _ _ _=[vI bs]:=ef
 refine Op.px 1 [(76,vL (some ⟨ar,V,none⟩) (((bh G).1).length) ad)] ?_
 obtain⟨bt,gg⟩:=bW ((bh G).1) 6
 obtain⟨pD,p0,p1,p2,i4,i5,eh⟩:=an.bB a5 _ gg
 cases i4
 refine Op.iq 78 3 1 8 (((bh G).1).length) ad 76 (.const (vI 6)) 77 ar V 6 ?_
 replace eh:cut _ _ _=[vI bt]:=eh
 refine Op.px 1 [(79,vL (some ⟨a3,Z,none⟩) (((aJ b).1).length) am)] ?_
 obtain⟨b3,gk⟩:=bW ((aJ b).1) 1
 obtain⟨p3,p8,qr,q0,i6,i7,ej⟩:=an.bB ae _ gk
 cases i6
 refine Op.iq 76 22 1 24 (((aJ b).1).length) am 79 (.const (vI 1)) 80 a3 Z 1 ?_
 obtain⟨q1,ej,gn⟩:=ej
 obtain⟨i8,i9,rfl⟩:=gn.ak
 refine Op.px 1 [(83,vL (some ⟨a3,Z,none⟩) (((aJ b).1).length) am)] ?_
 obtain⟨cb,gs⟩:=bW ((aJ b).1) 2
 obtain⟨q2,q3,ra,rb,jf,jj,em⟩:=an.bB ae _ gs
 cases jf
 refine Op.iq 76 22 1 24 (((aJ b).1).length) am 83 (.const (vI 2)) 84 a3 Z 2 ?_
 obtain⟨v183,em,g1⟩:=em
 obtain⟨en,ep,rfl⟩:=g1.ak
 refine Op.ez (T:=3) (x:=58) (o:=V+(0:Int).toNat*1) (d:=59) (n:=1) (v:=vI bj) (by kernel_rfl) (by kernel_rfl) (by kernel_rfl) id (Y.sub _ _ ih) (bN d9 0 rfl)<|Op.ez (T:=3) (x:=61) (o:=V+(1:Int).toNat*1) (d:=62) (n:=1) (v:=vI bk) (by kernel_rfl) (by kernel_rfl) (by kernel_rfl) id (Y.sub _ _ ik) (bN ea 0 rfl)<|Op.ez (T:=3) (x:=64) (o:=V+(2:Int).toNat*1) (d:=65) (n:=1) (v:=vI bm) (by kernel_rfl) (by kernel_rfl) (by kernel_rfl) id (Y.sub _ _ io) (bN eb 0 rfl)<|Op.ez (T:=3) (x:=67) (o:=V+(3:Int).toNat*1) (d:=68) (n:=1) (v:=vI bo) (by kernel_rfl) (by kernel_rfl) (by kernel_rfl) id (Y.sub _ _ is) (bN ed 0 rfl)<|Op.ez (T:=3) (x:=70) (o:=V+(4:Int).toNat*1) (d:=71) (n:=1) (v:=vI bd) (by kernel_rfl) (by kernel_rfl) (by kernel_rfl) id (Y.sub _ _ i0) (bN ee 0 rfl) ?_
 refine Op.cO 72 (bd-1) (by(have:=gT dq;omega)) (by(have:=gT dq;omega))<|Op.ez (T:=3) (x:=74) (o:=V+(5:Int).toNat*1) (d:=75) (n:=1) (v:=vI bs) (by kernel_rfl) (by kernel_rfl) (by kernel_rfl) id (Y.sub _ _ i3) (bN ef 0 rfl)<|Op.ez (T:=3) (x:=77) (o:=V+(6:Int).toNat*1) (d:=78) (n:=1) (v:=vI bt) (by kernel_rfl) (by kernel_rfl) (by kernel_rfl) id (Y.sub _ _ i5) (bN eh 0 rfl)<|Op.ez (T:=22) (x:=80) (o:=Z+(1:Int).toNat*1) (d:=81) (n:=1) (v:=vL i8 b3.length i9) (by kernel_rfl) (by kernel_rfl) (by kernel_rfl) id (Y.sub _ _ i7) (bN ej 0 rfl)<|Op.sQ (T:=22) (S:=9) (E:=5) (x:=81) (dst:=82) (l:=b3) (by kernel_rfl) (by kernel_rfl) (by kernel_rfl) (by kernel_rfl) (by kernel_rfl) gn Y.sub (fun _ _ _ h=>h) ?_
 refine Op.ez (T:=22) (x:=84) (o:=Z+(2:Int).toNat*1) (d:=85) (n:=1) (v:=vL en cb.length ep) (by kernel_rfl) (by kernel_rfl) (by kernel_rfl) id (Y.sub _ _ jj) (bN em 0 rfl)<|Op.px 2 [(87,.agg #[vI bj,vI bk,vI bm,vS b3,vL en cb.length ep,vI bo,vI (bd-1),vI bs,vI bt,vN,vN])]<|Op.al 10 43 dG Y fun a4 rc js=>Op.ba<|Op.sg 43 10 87 0 0 #[vI bj,vI bk,vI bm,vS b3,vL en cb.length ep,vI bo,vI (bd-1),vI bs,vI bt,vN,vN] js zt fun rd jt=>?_
 refine Op.gt 14<|At.go 15 1 [(11,vI 0)] ?_
 have j1:=aH.nil 9 cV dk
 have j2:=aH.nil 45 cA dk
 obtain⟨re,kc,kd⟩:=St.bF (Q:=eG dk a4 (⟨bj,bk,bm,⟨b3,cb,bo,bd-1,bs,bt⟩,([]:List aj),([]:List au)⟩:Result)) 3 (jt.nl.nl.fs [1,2] rfl) ⟨_,_,_,_,_,rfl,g1,j1,j2⟩
 have kh:∀(m:Nat) (b4:GH) (b5:aM dk b4) (ob:Result) (i:Int) (er:az) (et:ay) (hm:(aJ ab).1.length-i.toNat<m) (h0:0≤i) (h1:i≤(aJ ab).1.length) (hH:jT b=true) (hN:r6 b G ab ob i) (ex:eG b4 a4 ob er) (eA:St h g (aS []) b4 [er,[(dg,Obj.cells dG 43 (0,0))],[(df,Obj.cells dG 43 (0,0))]] et),At (bP prog B 20 f20 R) [] 15 [(0,vL dc b.length dd),(2,vP df),(4,vP dg),(5,vL (some ⟨a3,Z,none⟩) (((aJ b).1).length) am),(8,vL d8 (((aJ ab).1).length) dp),(10,vP a4),(11,vI i)] et:=by
  intro m;induction m with
  |zero=>intros;omega
  |succ m kk=>
   intro b4 b5 ob i er et hm h0 h1 hH hN ex eA
   replace J:=J.mono b5
   replace X:=X.mono b5
   replace ae:=ae.mono b5
   replace dl:=dl.mono b5
   refine At.go 16 4 [(91,.bool (decide (i<(((aJ ab).1).length:Int))))]<|At.fd (i<(((aJ ab).1).length:Int)) 91 17 19 (fun rf=>?_) fun rh=>?_
   ·obtain⟨rk,rr,kl,rv,km,kv,g2,g3,g4⟩:=ex
    obtain⟨kw,n217,rfl⟩:=g2.ak
    obtain⟨a218,n219,rfl⟩:=g3.ak
    obtain⟨kx,n221,rfl⟩:=g4.ak
    have du:=St.un [kl,km] kv eA
    refine At.dw (fun _=>False) [(0,true),(2,true),(3,true),(4,true),(1,true),(5,false),(6,true),(7,false),(1008,false),(8,false),(9,true),(10,false)]<|Op.px 3 [(94,vQ a4 9),(96,vL d8 (((aJ ab).1).length) dp),(97,vI i)] ?_
    obtain⟨a9,g5⟩:=bW ((aJ ab).1) i
    obtain⟨kA,g6,rx,r0,k0,k1,eB⟩:=an.bB dl _ g5
    cases k0
    refine Op.iq 76 22 1 24 (((aJ ab).1).length) dp 96 97 98 kA g6 i ?_
    obtain⟨v232,eB,g7⟩:=eB
    obtain⟨k2,n235,rfl⟩:=g7.ak
    refine Op.lf 40 94 9 95 1 (vL a218 ob.aX.length n219) id (du.ag 0 rfl)<|Op.l1 22 98 99 (g6+i.toNat*1) (vL k2 a9.length n235) (du.sub _ _ k1) ?_ (hv:=bN eB 0 rfl)
    refine Op.sQ (T:=22) (S:=9) (E:=5) (x:=99) (dst:=100) (l:=a9) (by kernel_rfl) (by kernel_rfl) (by kernel_rfl) (by kernel_rfl) (by kernel_rfl) g7 du.sub (fun _ _ _ h=>h)<|Op.ls 101 1 9 #[vS a9] du fun r1 r2 g8=>Op.ba<|Op.ap 95 101 40 40 102 9 16 cV (ys:=[a9]) g3 g8 2 (⟨_,_,rfl,rfl,Reads.nil⟩) (by(have:=(I1 hN).1;simp only[bJ,cF];omega)) (fun _ _ _=>trivial) (cT.lit (m:=1) (sz:=1) (g8.ag 0 rfl) (news:=[vS a9]) rfl rfl (by simp[Value.oneCell']) _) fun r3 sc sd g9 k3 sf=>?_
    obtain⟨ha,n246,rfl⟩:=g9.ak
    refine Op.px 1 [(103,vQ a4 9)]<|Op.s1 40 103 102 9 (vL ha ((ob.aX++([a9])).length) n246) 0 #[vI ob.Code,vI ob.aU,vI ob.At,vS ob.aa.af,vL kw ob.aa.Data.length n217,vI ob.aa.ai,vI ob.aa.aC,vI ob.aa.Next,vI ob.aa.aF,vL ha ((ob.aX++([a9])).length) n246,vL kx ob.aP.length n221] ((k3).drop) zt fun sh k4=>Op.gt 18<|At.rp 3 1 [(92,vI i)]<|Op.cO 93 (i+1) (by omega) (by(have:=(jv ab).1;omega)) ?_
    refine Op.pg 15 [(11,vI (i+1))] ?_
    obtain⟨sk,k5,k6⟩:=St.bF (Q:=eG b4 a4 (⟨ob.Code,ob.aU,ob.At,⟨ob.aa.af,ob.aa.Data,ob.aa.ai,ob.aa.aC,ob.aa.Next,ob.aa.aF⟩,ob.aX++([a9]),ob.aP⟩:Result)) 3 k4 ⟨_,_,_,_,_,rfl,g2,g9,g4⟩
    exact At.ke (kk _ b5 (⟨ob.Code,ob.aU,ob.At,⟨ob.aa.af,ob.aa.Data,ob.aa.ai,ob.aa.aC,ob.aa.Next,ob.aa.aF⟩,ob.aX++([a9]),ob.aP⟩:Result) (i+1) _ _ (by omega) (by omega) (by omega) (by omega) (by exact I0 hN h0 g5) k5 k6)
   refine At.go 20 1 [(12,vI 4)] ?_
   have k7:∀(m:Nat) (dv:GH) (ce:aM b4 dv) (u:Result) (q:Int) (eI:az) (eJ:ay) (hm:(aJ b).1.length-q.toNat<m) (D:4≤q) (k8:q≤(aJ b).1.length) (hE:nE b G ab u (q-4)) (be:eG dv a4 u eI) (cf:St h g (aS []) dv [eI,[(dg,Obj.cells dG 43 (0,0))],[(df,Obj.cells dG 43 (0,0))]] eJ),At (bP prog B 20 f20 R) [] 20 [(0,vL dc b.length dd),(2,vP df),(4,vP dg),(5,vL (some ⟨a3,Z,none⟩) (((aJ b).1).length) am),(10,vP a4),(12,vI q)] eJ:=by
    intro m;induction m with
    |zero=>intros;omega
    |succ m lb=>
     intro dv ce u q eI eJ hm D k8 hE be cf
     replace J:=J.mono ce
     replace X:=X.mono ce
     replace ae:=ae.mono ce
     refine At.go 21 4 [(107,.bool (decide (q<(((aJ b).1).length:Int))))]<|At.fd (q<(((aJ b).1).length:Int)) 107 22 34 (fun sm=>?_) fun so=>?_
     ·refine At.rp 10 2 [(111,vL (some ⟨a3,Z,none⟩) (((aJ b).1).length) am),(112,vI q)] ?_
      obtain⟨aw,U⟩:=bW ((aJ b).1) q
      obtain⟨ss,st,sA,sB,lc,eK,eL⟩:=an.bB ae _ U
      cases lc
      refine Op.iq 76 22 1 24 (((aJ b).1).length) am 111 112 113 a3 Z q ?_
      obtain⟨sT,eL,hb⟩:=eL
      obtain⟨lh,li,rfl⟩:=hb.ak
      refine Op.l1 22 113 114 (Z+q.toNat*1) (vL lh aw.length li) (cf.sub _ _ eK) ?_ (hv:=bN eL 0 rfl)
      refine Op.c0 (some 115) (zM _ _ _ cf.sub J _ _ hb (by((try dsimp only)<;>((have:=oP U;omega))))) cf ?_
      rintro _ s0 _ s2 eQ bi ⟨s3,rfl,ch,rfl⟩
      obtain⟨he,ci,rfl⟩:=ch.ak
      replace eK:=eQ _ _ eK
      replace J:=J.mono eQ
      replace be:=be.mono eQ
      refine Op.pg 23 [(13,vL he (((aJ aw).1).length) ci),(14,vI ((aJ aw).2))]<|At.rp 7 3 [(120,.bool (((aJ aw).2) != 0))]<|Op.wb (((aJ aw).2) != 0) 120 (fun hf=>?_) fun hh=>?_
      ·replace hf:=fY hf
       refine Op.pg 24 [(124,vT)]<|At.bT 124 25<|At.rg 3<|Op.la 43 4 125 0 11 oY (bi.ag 1 rfl)<|Op.sg 43 2 125 0 2 dG bi zt fun s4 hj=>?_
       exact Op.pg 26 [(3,vI 130)]<|At.rn f20 kH [.cell 2 43,.tmp 3] ⟨⟨_,_,rfl,cq (n:=11) (by kernel_rfl) (hj.ag 2 rfl) (by kernel_rfl) rfl⟩,rfl,trivial⟩ (hR hj.drop.drop.drop ⟨vN,vN,vN,bA (by(rw[jY hH D U (tM ‹_›)];rfl)) (bg (by(rw[jY hH D U (tM ‹_›)];done))),bl (an.empty _ _ _ _ _) (by(rw[jY hH D U (tM ‹_›)];rfl)),bl (an.empty _ _ _ _ _) (by(rw[jY hH D U (tM ‹_›)];rfl)),bl (an.empty _ _ _ _ _) (by(rw[jY hH D U (tM ‹_›)];rfl)),rfl⟩)
      replace hh:=gB hh
      refine Op.pg 24 [(124,.bool ((((aJ aw).1).length:Int) != 2))]<|At.fn ((((aJ aw).1).length:Int)=2) 124 25 27 (fun s5=>?_) fun s8=>?_
      ·exact At.rg 3<|Op.la 43 4 125 0 11 oY (bi.ag 1 rfl)<|Op.sg 43 2 125 0 2 dG bi zt fun ta hn=>Op.pg 26 [(3,vI 130)]<|At.rn f20 kH [.cell 2 43,.tmp 3] ⟨⟨_,_,rfl,cq (n:=11) (by kernel_rfl) (hn.ag 2 rfl) (by kernel_rfl) rfl⟩,rfl,trivial⟩ (hR hn.drop.drop.drop ⟨vN,vN,vN,bA (by(rw[jY hH D U (tN ‹_›)];rfl)) (bg (by(rw[jY hH D U (tN ‹_›)];done))),bl (an.empty _ _ _ _ _) (by(rw[jY hH D U (tN ‹_›)];rfl)),bl (an.empty _ _ _ _ _) (by(rw[jY hH D U (tN ‹_›)];rfl)),bl (an.empty _ _ _ _ _) (by(rw[jY hH D U (tN ‹_›)];rfl)),rfl⟩)
      refine At.rp 9 1 [(127,vL he (((aJ aw).1).length) ci)] ?_
      obtain⟨a0,a1⟩:=bW ((aJ aw).1) 0
      obtain⟨e1,ck,te,ti,lj,e2,e3⟩:=an.bB ch _ a1
      cases lj
      refine Op.iq 76 22 1 24 (((aJ aw).1).length) ci 127 (.const (vI 0)) 128 e1 ck 0 ?_
      obtain⟨tk,e3,ho⟩:=e3
      obtain⟨lk,n301,rfl⟩:=ho.ak
      refine Op.l1 22 128 129 (ck+(0:Int).toNat*1) (vL lk a0.length n301) (bi.sub _ _ e2) ?_ (hv:=bN e3 0 rfl)
      refine Op.c0 (some 130) (C6 _ _ _ bi.sub J _ _ ho (by((try dsimp only)<;>((have:=oP a1;omega))))) bi ?_
      rintro _ ll _ tl e4 co ⟨tm,rfl,e5,rfl⟩
      obtain⟨hp,n307,rfl⟩:=e5.ak
      replace e2:=e4 _ _ e2
      replace ch:=ch.mono e4
      replace be:=be.mono e4
      refine Op.pg 28 [(14,vI ((bh a0).2)),(15,vL hp (((bh a0).1).length) n307)]<|At.rp 7 3 [(135,.bool (((bh a0).2) != 0))]<|Op.wb (((bh a0).2) != 0) 135 (fun hq=>?_) fun hr=>?_
      ·replace hq:=fY hq
       refine Op.pg 29 [(139,vT)]<|At.bT 139 30<|At.rg 3<|Op.la 43 4 140 0 11 oY (co.ag 1 rfl)<|Op.sg 43 2 140 0 2 dG co zt fun tp hs=>?_
       exact Op.pg 31 [(3,vI 130)]<|At.rn f20 kH [.cell 2 43,.tmp 3] ⟨⟨_,_,rfl,cq (n:=11) (by kernel_rfl) (hs.ag 2 rfl) (by kernel_rfl) rfl⟩,rfl,trivial⟩ (hR hs.drop.drop.drop ⟨vN,vN,vN,bA (by(rw[jY hH D U (oa a1 (qm ‹_›))];rfl)) (bg (by(rw[jY hH D U (oa a1 (qm ‹_›))];done))),bl (an.empty _ _ _ _ _) (by(rw[jY hH D U (oa a1 (qm ‹_›))];rfl)),bl (an.empty _ _ _ _ _) (by(rw[jY hH D U (oa a1 (qm ‹_›))];rfl)),bl (an.empty _ _ _ _ _) (by(rw[jY hH D U (oa a1 (qm ‹_›))];rfl)),rfl⟩)
      replace hr:=gB hr
      refine Op.pg 29 [(139,.bool ((((bh a0).1).length:Int) != 2))]<|At.fn ((((bh a0).1).length:Int)=2) 139 30 32 (fun tt=>?_) fun tx=>?_
      ·exact At.rg 3<|Op.la 43 4 140 0 11 oY (co.ag 1 rfl)<|Op.sg 43 2 140 0 2 dG co zt fun tz hu=>Op.pg 31 [(3,vI 130)]<|At.rn f20 kH [.cell 2 43,.tmp 3] ⟨⟨_,_,rfl,cq (n:=11) (by kernel_rfl) (hu.ag 2 rfl) (by kernel_rfl) rfl⟩,rfl,trivial⟩ (hR hu.drop.drop.drop ⟨vN,vN,vN,bA (by(rw[jY hH D U (oa a1 (ql ‹_›))];rfl)) (bg (by(rw[jY hH D U (oa a1 (ql ‹_›))];done))),bl (an.empty _ _ _ _ _) (by(rw[jY hH D U (oa a1 (ql ‹_›))];rfl)),bl (an.empty _ _ _ _ _) (by(rw[jY hH D U (oa a1 (ql ‹_›))];rfl)),bl (an.empty _ _ _ _ _) (by(rw[jY hH D U (oa a1 (ql ‹_›))];rfl)),rfl⟩)
      obtain⟨tA,tB,lm,tR,ln,lr,hw,hx,hy⟩:=be
      obtain⟨lv,n328,rfl⟩:=hw.ak
      obtain⟨lw,n330,rfl⟩:=hx.ak
      obtain⟨lx,n332,rfl⟩:=hy.ak
      have b6:=St.un [lm,ln] lr co
      refine At.dw (fun _=>False) [(0,true),(2,true),(3,true),(5,true),(6,true),(8,true),(9,true),(1,true),(4,true),(7,true),(10,false),(11,true),(12,true),(13,false),(1014,false),(14,false),(15,true),(16,false)]<|Op.px 2 [(141,vQ a4 10),(143,vL hp (((bh a0).1).length) n307)] ?_
      obtain⟨a6,hz⟩:=bW ((bh a0).1) 0
      obtain⟨e6,c3,tS,t0,ly,lA,e7⟩:=an.bB e5 _ hz
      cases ly
      refine Op.iq 78 3 1 8 (((bh a0).1).length) n307 143 (.const (vI 0)) 144 e6 c3 0 ?_
      replace e7:cut _ _ _=[vI a6]:=e7
      refine Op.px 1 [(146,vL (some ⟨e6,c3,none⟩) (((bh a0).1).length) n307)] ?_
      obtain⟨a7,hA⟩:=bW ((bh a0).1) 1
      obtain⟨t1,t2,t3,t4,lL,lO,e8⟩:=an.bB e5 _ hA
      cases lL
      refine Op.iq 78 3 1 8 (((bh a0).1).length) n307 146 (.const (vI 1)) 147 e6 c3 1 ?_
      replace e8:cut _ _ _=[vI a7]:=e8
      refine Op.px 1 [(149,vL (some ⟨e1,ck,none⟩) (((aJ aw).1).length) ci)] ?_
      obtain⟨a8,hB⟩:=bW ((aJ aw).1) 1
      obtain⟨t5,t6,t7,t8,l0,l2,e9⟩:=an.bB ch _ hB
      cases l0
      refine Op.iq 76 22 1 24 (((aJ aw).1).length) ci 149 (.const (vI 1)) 150 e1 ck 1 ?_
      obtain⟨t9,e9,hC⟩:=e9
      obtain⟨l3,l4,rfl⟩:=hC.ak
      refine Op.lf 41 141 10 142 1 (vL lx u.aP.length n332) id (b6.ag 0 rfl)<|Op.ez (T:=3) (x:=144) (o:=c3+(0:Int).toNat*1) (d:=145) (n:=1) (v:=vI a6) (by kernel_rfl) (by kernel_rfl) (by kernel_rfl) id (b6.sub _ _ lA) (bN e7 0 rfl)<|Op.ez (T:=3) (x:=147) (o:=c3+(1:Int).toNat*1) (d:=148) (n:=1) (v:=vI a7) (by kernel_rfl) (by kernel_rfl) (by kernel_rfl) id (b6.sub _ _ lO) (bN e8 0 rfl)<|Op.l1 22 150 151 (ck+(1:Int).toNat*1) (vL l3 a8.length l4) (b6.sub _ _ l2) ?_ (hv:=bN e9 0 rfl)
      refine Op.sQ (T:=22) (S:=9) (E:=5) (x:=151) (dst:=152) (l:=a8) (by kernel_rfl) (by kernel_rfl) (by kernel_rfl) (by kernel_rfl) (by kernel_rfl) hC b6.sub (fun _ _ _ h=>h)<|Op.px 1 [(153,.agg #[vI a6,vI a7,vS a8])]<|Op.ls 154 1 45 #[vI a6,vI a7,vS a8] b6 fun ub ui hD=>Op.ba<|Op.ap 142 154 41 41 155 45 32 cA (ys:=[(⟨a6,a7,a8⟩:au)]) hy hD 3 (⟨_,_,rfl,rfl,Reads.nil⟩) (by(have:=Du hE;simp only[bJ,cF];omega)) (fun _ _ _=>trivial) (cT.lit (m:=1) (sz:=3) (hD.ag 0 rfl) (news:=[vI a6,vI a7,vS a8]) rfl rfl (by simp[Value.oneCell']) _) fun ul us ut hF l8 u1=>?_
      obtain⟨hG,hI,rfl⟩:=hF.ak
      refine Op.px 1 [(156,vQ a4 10)]<|Op.s1 41 156 155 10 (vL hG ((u.aP++([(⟨a6,a7,a8⟩:au)])).length) hI) 0 #[vI u.Code,vI u.aU,vI u.At,vS u.aa.af,vL lv u.aa.Data.length n328,vI u.aa.ai,vI u.aa.aC,vI u.aa.Next,vI u.aa.aF,vL lw u.aX.length n330,vL hG ((u.aP++([(⟨a6,a7,a8⟩:au)])).length) hI] ((l8).drop) zt fun u2 ma=>Op.gt 33<|At.rp 3 1 [(108,vI q)]<|Op.cO 109 (q+1) (by omega) (by(have:=(jv b).1;omega)) ?_
      refine Op.pg 20 [(12,vI (q+1))] ?_
      obtain⟨u3,md,mf⟩:=St.bF (Q:=eG ll a4 (⟨u.Code,u.aU,u.At,⟨u.aa.af,u.aa.Data,u.aa.ai,u.aa.aC,u.aa.Next,u.aa.aF⟩,u.aX,u.aP++([(⟨a6,a7,a8⟩:au)])⟩:Result)) 3 ma ⟨_,_,_,_,_,rfl,hw,hx,hF⟩
      exact At.ke (lb _ (aM.trans ce (by repeat (first|assumption|apply aM.trans))) (⟨u.Code,u.aU,u.At,⟨u.aa.af,u.aa.Data,u.aa.ai,u.aa.aC,u.aa.Next,u.aa.aF⟩,u.aX,u.aP++([(⟨a6,a7,a8⟩:au)])⟩:Result) (q+1) _ _ (by omega) (by omega) (by omega) (by exact TX hE D U (Dt ‹_› ‹_› a1 (LP ‹_› ‹_›) hz hA hB)) md mf)
     refine At.rg 7 ?_
     obtain⟨u4,vd,mi,ve,ml,mp,bb,hJ,dC⟩:=be
     obtain⟨c4,c5,rfl⟩:=bb.ak
     obtain⟨c6,c8,rfl⟩:=hJ.ak
     obtain⟨c9,da,rfl⟩:=dC.ak
     have hK:=St.un [mi,ml] mp cf
     refine Op.la 43 10 158 0 11 [vI u.Code,vI u.aU,vI u.At,vS u.aa.af,vL c4 u.aa.Data.length c5,vI u.aa.ai,vI u.aa.aC,vI u.aa.Next,vI u.aa.aF,vL c6 u.aX.length c8,vL c9 u.aP.length da] (hK.ag 0 rfl) ?_
     obtain⟨vo,mx,dE,b8⟩:=aH.freeze hJ (hK.fs [1] rfl)
     replace bb:=bb.mono dE
     replace dC:=dC.mono dE
     replace J:=J.mono dE
     replace X:=X.mono dE
     obtain⟨vx,hL,dT,d0⟩:=aH.freeze dC (mx.fs [1] rfl)
     replace bb:=bb.mono dT
     replace J:=J.mono dT
     replace X:=X.mono dT
     replace b8:=b8.mono dT
     refine Op.c0 (some 159) (x5 _ _ _ hL.sub J u _ bb _ b8 _ d0 (by(try dsimp only)<;>exact Dv hE)) hL ?_
     rintro _ vy _ v3 db d1 ⟨v4,rfl,hO,rfl⟩
     obtain⟨hP,hQ,rfl⟩:=hO.ak
     replace bb:=bb.mono db
     replace J:=J.mono db
     replace X:=X.mono db
     replace b8:=b8.mono db
     replace d0:=d0.mono db
     refine Op.pg 35 [(6,vI ((aO u).2)),(16,vL hP (((aO u).1).length) hQ)]<|At.rp 8 3 [(164,.bool (((aO u).2) != 0))]<|Op.wb (((aO u).2) != 0) 164 (fun hS=>?_) fun hT=>?_
     ·replace hS:=fY hS
      refine Op.pg 36 [(169,vT)]<|At.bT 169 37<|At.rg 3<|Op.la 43 4 170 0 11 oY (d1.ag 1 rfl)<|Op.sg 43 2 170 0 2 dG d1 zt fun v5 hV=>?_
      exact Op.pg 38 [(3,vI 130)]<|At.rn f20 kH [.cell 2 43,.tmp 3] ⟨⟨_,_,rfl,cq (n:=11) (by kernel_rfl) (hV.ag 2 rfl) (by kernel_rfl) rfl⟩,rfl,trivial⟩ (hR hV.drop.drop.drop ⟨vN,vN,vN,bA (by(rw[jU hH I O hE (mI D ‹_›) (.inl ‹_›)];rfl)) (bg (by(rw[jU hH I O hE (mI D ‹_›) (.inl ‹_›)];done))),bl (an.empty _ _ _ _ _) (by(rw[jU hH I O hE (mI D ‹_›) (.inl ‹_›)];rfl)),bl (an.empty _ _ _ _ _) (by(rw[jU hH I O hE (mI D ‹_›) (.inl ‹_›)];rfl)),bl (an.empty _ _ _ _ _) (by(rw[jU hH I O hE (mI D ‹_›) (.inl ‹_›)];rfl)),rfl⟩)
     replace hT:=gB hT
     refine Op.px 2 [(165,vL hP (((aO u).1).length) hQ),(166,vL dc b.length dd)]<|Op.c1 167 (qK _ _ _ d1.sub J _ _ hO _ _ X (by(try dsimp only)<;>exact lE _)) d1 fun v6 d2=>Op.pg 36 [(169,.bool (!(decide (((aO u).1)=b))))]<|At.cW (!(decide (((aO u).1)=b))) 169 37 39 (fun hW=>?_) fun hX=>?_
     ·replace hW:=kW (dn hW)
      exact At.rg 3<|Op.la 43 4 170 0 11 oY (d2.ag 1 rfl)<|Op.sg 43 2 170 0 2 dG d2 zt fun v8 hY=>Op.pg 38 [(3,vI 130)]<|At.rn f20 kH [.cell 2 43,.tmp 3] ⟨⟨_,_,rfl,cq (n:=11) (by kernel_rfl) (hY.ag 2 rfl) (by kernel_rfl) rfl⟩,rfl,trivial⟩ (hR hY.drop.drop.drop ⟨vN,vN,vN,bA (by(rw[jU hH I O hE (mI D ‹_›) (.inr ‹_›)];rfl)) (bg (by(rw[jU hH I O hE (mI D ‹_›) (.inr ‹_›)];done))),bl (an.empty _ _ _ _ _) (by(rw[jU hH I O hE (mI D ‹_›) (.inr ‹_›)];rfl)),bl (an.empty _ _ _ _ _) (by(rw[jU hH I O hE (mI D ‹_›) (.inr ‹_›)];rfl)),bl (an.empty _ _ _ _ _) (by(rw[jU hH I O hE (mI D ‹_›) (.inr ‹_›)];rfl)),rfl⟩)
     replace hX:=iX (dr hX)
     exact At.rg 3<|Op.la 43 10 171 0 11 [vI u.Code,vI u.aU,vI u.At,vS u.aa.af,vL c4 u.aa.Data.length c5,vI u.aa.ai,vI u.aa.aC,vI u.aa.Next,vI u.aa.aF,vL c6 u.aX.length c8,vL c9 u.aP.length da] (d2.ag 0 rfl)<|Op.sg 43 2 171 0 2 #[vI u.Code,vI u.aU,vI u.At,vS u.aa.af,vL c4 u.aa.Data.length c5,vI u.aa.ai,vI u.aa.aC,vI u.aa.Next,vI u.aa.aF,vL c6 u.aX.length c8,vL c9 u.aP.length da] d2 zt fun v9 hZ=>Op.pg 40 [(3,vI 0)]<|At.rn f20 [.agg #[vI u.Code,vI u.aU,vI u.At,vS u.aa.af,vL c4 u.aa.Data.length c5,vI u.aa.ai,vI u.aa.aC,vI u.aa.Next,vI u.aa.aF,vL c6 u.aX.length c8,vL c9 u.aP.length da],vI 0] [.cell 2 43,.tmp 3] ⟨⟨_,_,rfl,cq (n:=11) (by kernel_rfl) (hZ.ag 2 rfl) (by kernel_rfl) rfl⟩,rfl,trivial⟩ (hR hZ.drop.drop.drop ⟨(vL c4 u.aa.Data.length c5),(vL c6 u.aX.length c8),(vL c9 u.aP.length da),bA (by(rw[p6 hH I O hE (mI D ‹_›) ‹_› ‹_›];done)) (bg (by(rw[p6 hH I O hE (mI D ‹_›) ‹_› ‹_›];done))),bl bb (by(rw[p6 hH I O hE (mI D ‹_›) ‹_› ‹_›];done)),bl b8 (by(rw[p6 hH I O hE (mI D ‹_›) ‹_› ‹_›];done)),bl d0 (by(rw[p6 hH I O hE (mI D ‹_›) ‹_› ‹_›];done)),rfl⟩)
   exact At.ke (k7 _ _ (aM.refl _) ob 4 _ _ (bG _) (by omega) (by omega) (by exact I2 hN ‹_›) ex eA)
 exact At.ke (kh _ _ (aM.refl _) (⟨bj,bk,bm,⟨b3,cb,bo,bd-1,bs,bt⟩,([]:List aj),([]:List au)⟩:Result) 0 _ _ (bG _) (by omega) (by omega) (by exact IY ‹_› ‹_› I (LP ‹_› ‹_›) O ‹_›) (by exact IZ gk gs f7 f8 f9 gc dq ge gg) kc kd)
section
variable {o:aR} {r:Result} {b:aj}
theorem gN (h:(aO r).2=0):(av (aO r).1).1=r:=by rw[LM h]
theorem AW (h:(aO r).2=0):(av (aO r).1).2=0:=by rw[LM h]
def TZ (x:Result):Prop:=x.aa.af.length≤1000000000∧(x.aX.length≤1048576∧∀n∈x.aX,n.length≤1000000000)∧(x.aP.length≤1048576∧∀w∈x.aP,w.af.length≤1000000000)
theorem l6 (b:aj):(av b).1.aa.Data.length≤1000000000:=by
  unfold av
  split
  · split
    · split
      · show((aJ b).1.getD 2 []).length≤_
        have:=(jv b).2
        rw[Df]
        cases h:(aJ b).1[2]? with
        |none=>exact eX _
        |some x=>have:=this x (bY h);show x.length≤_;omega
      · exact eX _
    · exact eX _
  · exact eX _
theorem E1:m_ p5:=⟨eX _,⟨eX _,fun n h=>by cases h⟩,eX _,fun w h=>by cases h⟩
theorem l7 (b:aj):m_ (av b).1:=by
  unfold av
  split
  · split
    · rename_i h1 h2
      split
      · refine Dv (b:=b) (x0:=(aJ b).1.getD 0 []) (x3:=(aJ b).1.getD 3 []) (i:=(((aJ b).1.drop (4:Int).toNat).length:Int)) ⟨?_,?_⟩
        · rw[fF (by omega)];rfl
        · rw[fF (by omega)];exact h2
      · exact E1
    · exact E1
  · exact E1
end
theorem AX (B:World) (h:ay) (g:GH) (hg:bu g h) (V:bz g) (x:Result) (a4:Value) (a5:an g 5 a_ a4 x.aa.Data) (a6:Value) (a7:an g 9 cV a6 x.aX) (a8:Value) (X:an g 45 cA a8 x.aP) (hL:m_ x) (ce:x.aa.Data.length≤1000000000):
  aG prog B 15 #[.agg #[vI x.Code,vI x.aU,vI x.At,vS x.aa.af,a4,vI x.aa.ai,vI x.aa.aC,vI x.aa.Next,vI x.aa.aF,a6,a8]] h g [] (fun bj g' L'=>∃v0 v1 v2,bj=.agg #[.int .i64 x.Code,.int .i64 x.aU,.int .i64 x.At,.string (br x.aa.af),v0,.int .i64 x.aa.ai,.int .i64 x.aa.aC,.int .i64 x.aa.Next,.int .i64 x.aa.aF,v1,v2]∧an g' 5 a_ v0 x.aa.Data∧an g' 9 cV v1 x.aX∧an g' 45 cA v2 x.aP∧L'=[]):=by
 obtain⟨a9,bb,rfl⟩:=a5.ak
 obtain⟨ae,am,rfl⟩:=a7.ak
 obtain⟨Y,Z,rfl⟩:=X.ak
 refine aG.aq func15 fun R hR=>At.rg 2<|Op.bx 1 43 0 #[vI x.Code,vI x.aU,vI x.At,vS x.aa.af,vL a9 x.aa.Data.length bb,vI x.aa.ai,vI x.aa.aC,vI x.aa.Next,vI x.aa.aF,vL ae x.aX.length am,vL Y x.aP.length Z] (St.init hg) fun I cf bk=>Op.al 2 43 dG bk fun ch ci ar=>Op.gt 1 ?_
 refine At.rp 7 2 [(4,vQ I 4)]<|Op.l1 22 4 5 4 (vL a9 x.aa.Data.length bb) (ar.ag 1 rfl)<|Op.c0 (some 6) (mT _ _ _ ar.sub V _ _ a5 (by(try dsimp only)<;>omega)) ar ?_
 rintro _ bm _ ck bo bs ⟨v28,co,rfl,ab,bt,rfl⟩;subst bm;clear bo
 obtain⟨a31,u,rfl⟩:=ab.ak
 refine Op.px 2 [(8,vQ I 4)]<|Op.s1 22 8 6 4 (vL a31 (x.aa.Data.length) u) 2 #[vI x.Code,vI x.aU,vI x.At,vS x.aa.af,vL a31 (x.aa.Data.length) u,vI x.aa.ai,vI x.aa.aC,vI x.aa.Next,vI x.aa.aF,vL ae x.aX.length am,vL Y x.aP.length Z] bs zt fun c3 aw=>Op.gt 2<|At.rp 5 1 [(9,vQ I 9)]<|Op.l1 40 9 10 9 (vL ae x.aX.length am) (aw.ag 2 rfl) ?_
 refine Op.c0 (some 11) (TK _ _ _ aw.sub V _ _ a7 (by((try dsimp only)<;>((have:=hL.2.1.1;omega))))) aw ?_
 rintro _ c4 _ c5 a0 b3 ⟨c6,rfl,J,rfl⟩
 obtain⟨D,G,rfl⟩:=J.ak
 replace ab:=ab.mono a0
 replace V:=V.mono a0
 replace X:=X.mono a0
 refine Op.px 1 [(12,vQ I 9)]<|Op.s1 40 12 11 9 (vL D (x.aX.length) G) 2 #[vI x.Code,vI x.aU,vI x.At,vS x.aa.af,vL a31 (x.aa.Data.length) u,vI x.aa.ai,vI x.aa.aC,vI x.aa.Next,vI x.aa.aF,vL D (x.aX.length) G,vL Y x.aP.length Z] b3 zt fun c8 a1=>Op.gt 3<|At.rp 5 1 [(13,vQ I 10)]<|Op.l1 41 13 14 10 (vL Y x.aP.length Z) (a1.ag 2 rfl) ?_
 refine Op.c0 (some 15) (TS _ _ _ a1.sub V _ _ X (by((try dsimp only)<;>((have:=hL.2.2.1;omega))))) a1 ?_
 rintro _ b4 _ c9 b5 b6 ⟨da,db,rfl,ad,bt,rfl⟩;subst b4;clear b5
 obtain⟨O,U,rfl⟩:=ad.ak
 refine Op.px 1 [(16,vQ I 10)]<|Op.s1 41 16 15 10 (vL O (x.aP.length) U) 3 #[vI x.Code,vI x.aU,vI x.At,vS x.aa.af,vL a31 (x.aa.Data.length) u,vI x.aa.ai,vI x.aa.aC,vI x.aa.Next,vI x.aa.aF,vL D (x.aX.length) G,vL O (x.aP.length) U] b6 zt fun dc bc=>Op.gt 4<|At.rg 2<|Op.la 43 1 17 0 11 [vI x.Code,vI x.aU,vI x.At,vS x.aa.af,vL a31 (x.aa.Data.length) u,vI x.aa.ai,vI x.aa.aC,vI x.aa.Next,vI x.aa.aF,vL D (x.aX.length) G,vL O (x.aP.length) U] (bc.ag 3 rfl) ?_
 refine Op.sg 43 2 17 0 2 #[vI x.Code,vI x.aU,vI x.At,vS x.aa.af,vL a31 (x.aa.Data.length) u,vI x.aa.ai,vI x.aa.aC,vI x.aa.Next,vI x.aa.aF,vL D (x.aX.length) G,vL O (x.aP.length) U] bc zt fun dd b8=>Op.gt 5 ?_
 obtain⟨df,ca,bd,a3⟩:=aH.freeze ab (b8.fs [1] rfl)
 replace ad:=ad.mono bd
 replace J:=J.mono bd
 obtain⟨dg,be,bi,cb⟩:=aH.freeze ad (ca)
 replace a3:=a3.mono bi
 replace J:=J.mono bi
 exact At.rn f15 [.agg #[vI x.Code,vI x.aU,vI x.At,vS x.aa.af,vL a31 (x.aa.Data.length) u,vI x.aa.ai,vI x.aa.aC,vI x.aa.Next,vI x.aa.aF,vL D (x.aX.length) G,vL O (x.aP.length) U]] [.cell 2 43] ⟨⟨_,_,rfl,cq (n:=11) (by kernel_rfl) (be.ag 0 rfl) (by kernel_rfl) rfl⟩,trivial⟩ (hR be.drop.drop ⟨(vL a31 (x.aa.Data.length) u),(vL D (x.aX.length) G),(vL O (x.aP.length) U),(by rfl),bl a3 (by rfl),bl J (by rfl),bl cb (by rfl),rfl⟩)
theorem oA (B:World) (h:ay) (g:GH) (hg:bu g h) (U:bz g) (a:Result) (V:Value) (X:an g 5 a_ V a.aa.Data) (Y:Value) (Z:an g 9 cV Y a.aX) (ab:Value) (ad:an g 45 cA ab a.aP) (b:Result) (ae:Value) (am:an g 5 a_ ae b.aa.Data) (ar:Value) (aw:an g 9 cV ar b.aX) (a0:Value) (a1:an g 45 cA a0 b.aP) (D:a=b) (hL:m_ a) (bo:a.aa.Data.length≤1000000000):
  aG prog B 18 #[.agg #[vI a.Code,vI a.aU,vI a.At,vS a.aa.af,V,vI a.aa.ai,vI a.aa.aC,vI a.aa.Next,vI a.aa.aF,Y,ab],.agg #[vI b.Code,vI b.aU,vI b.At,vS b.aa.af,ae,vI b.aa.ai,vI b.aa.aC,vI b.aa.Next,vI b.aa.aF,ar,a0]] h g [] (fun bj g' L'=>bj=vT∧g'=g∧L'=[]):=by
 obtain⟨a3,a4,rfl⟩:=X.ak
 obtain⟨a5,a6,rfl⟩:=Z.ak
 obtain⟨a7,a8,rfl⟩:=ad.ak
 obtain⟨a9,bb,rfl⟩:=am.ak
 obtain⟨bc,bd,rfl⟩:=aw.ak
 obtain⟨be,bi,rfl⟩:=a1.ak
 refine aG.aq func18 fun R hR=>At.rg 3<|Op.bx 2 43 0 #[vI a.Code,vI a.aU,vI a.At,vS a.aa.af,vL a3 a.aa.Data.length a4,vI a.aa.ai,vI a.aa.aC,vI a.aa.Next,vI a.aa.aF,vL a5 a.aX.length a6,vL a7 a.aP.length a8] (St.init hg) fun G bs bk=>Op.bx 3 43 1 #[vI b.Code,vI b.aU,vI b.At,vS b.aa.af,vL a9 b.aa.Data.length bb,vI b.aa.ai,vI b.aa.aC,vI b.aa.Next,vI b.aa.aF,vL bc b.aX.length bd,vL be b.aP.length bi] bk fun I bt u=>Op.pg 1 [] ?_
 refine At.rp 41 1 [(5,vP G)]<|Op.l1 29 5 6 0 (vI a.Code) (u.ag 1 rfl)<|Op.px 1 [(7,vP I)]<|Op.l1 29 7 8 0 (vI b.Code) (u.ag 0 rfl)<|Op.px 2 [(10,.bool (a.Code==b.Code))] ?_
 refine Op.wd (a.Code=b.Code) 10 (fun b3=>?_) fun b4=>?_
 ·refine Op.px 1 [(11,vQ G 1)]<|Op.l1 3 11 12 1 (vI a.aU) (u.ag 1 rfl)<|Op.px 1 [(13,vQ I 1)]<|Op.l1 3 13 14 1 (vI b.aU) (u.ag 0 rfl)<|Op.px 3 [(17,.bool (a.aU==b.aU))] ?_
  refine Op.wd (a.aU=b.aU) 17 (fun b5=>?_) fun b6=>?_
  ·refine Op.px 1 [(18,vQ G 2)]<|Op.l1 3 18 19 2 (vI a.At) (u.ag 1 rfl)<|Op.px 1 [(20,vQ I 2)]<|Op.l1 3 20 21 2 (vI b.At) (u.ag 0 rfl)<|Op.px 3 [(24,.bool (a.At==b.At))] ?_
   refine Op.wd (a.At=b.At) 24 (fun b8=>?_) fun ca=>?_
   ·refine Op.px 1 [(25,vQ G 3)]<|Op.la 39 25 26 3 6 [vS a.aa.af,vL a3 a.aa.Data.length a4,vI a.aa.ai,vI a.aa.aC,vI a.aa.Next,vI a.aa.aF] (u.ag 1 rfl)<|Op.px 1 [(27,vQ I 3)]<|Op.la 39 27 28 3 6 [vS b.aa.af,vL a9 b.aa.Data.length bb,vI b.aa.ai,vI b.aa.aC,vI b.aa.Next,vI b.aa.aF] (u.ag 0 rfl)<|Op.c1 29 (TO _ _ _ u.sub U a.aa _ X b.aa _ am (by(try dsimp only)<;>omega)) u fun cb J=>?_
    refine Op.px 2 [(31,.bool (decide (a.aa=b.aa)))]<|Op.wd (a.aa=b.aa) 31 (fun ce=>?_) fun cf=>?_
    ·refine Op.px 1 [(32,vQ G 9)]<|Op.l1 40 32 33 9 (vL a5 a.aX.length a6) (J.ag 1 rfl)<|Op.px 1 [(34,vQ I 9)]<|Op.l1 40 34 35 9 (vL bc b.aX.length bd) (J.ag 0 rfl)<|Op.c1 36 (TJ _ _ _ J.sub U _ _ Z _ _ aw (by((try dsimp only)<;>((have:=hL.2.1.1;omega))))) J fun ch O=>?_
     refine Op.px 2 [(38,.bool (decide (a.aX=b.aX)))]<|Op.wd (a.aX=b.aX) 38 (fun ci=>?_) fun ck=>?_
     ·refine Op.px 1 [(39,vQ G 10)]<|Op.l1 41 39 40 10 (vL a7 a.aP.length a8) (O.ag 1 rfl)<|Op.px 1 [(41,vQ I 10)]<|Op.l1 41 41 42 10 (vL be b.aP.length bi) (O.ag 0 rfl)<|Op.c1 43 (JN _ _ _ O.sub U _ _ ad _ _ a1 (by((try dsimp only)<;>((have:=hL.2.2.1;omega))))) O fun co bm=>?_
      exact Op.pr 2 4 (.bool (decide (a.aP=b.aP))) (hR bm.drop.drop ⟨(bn (by(subst D;simp_all;done))),rfl,rfl⟩)
     exact Op.pr 2 4 vF (hR O.drop.drop ⟨(bn (by(subst D;exact absurd rfl ‹_›))),rfl,rfl⟩)
    exact Op.pr 2 4 vF (hR J.drop.drop ⟨(bn (by(subst D;exact absurd rfl ‹_›))),rfl,rfl⟩)
   exact Op.pr 2 4 vF (hR u.drop.drop ⟨(bn (by(subst D;exact absurd rfl ‹_›))),rfl,rfl⟩)
  exact Op.pr 2 4 vF (hR u.drop.drop ⟨(bn (by(subst D;exact absurd rfl ‹_›))),rfl,rfl⟩)
 exact Op.pr 2 4 vF (hR u.drop.drop ⟨(bn (by(subst D;exact absurd rfl ‹_›))),rfl,rfl⟩)
theorem T0 (B:World) (h:ay) (g:GH) (hg:bu g h) (u:bz g) (r:Result) (kA:Value) (I:an g 5 a_ kA r.aa.Data) (k0:Value) (G:an g 9 cV k0 r.aX) (k1:Value) (D:an g 45 cA k1 r.aP) (k2:Value) (b:aj) (J:an g 5 a_ k2 b) (hP:l_ g) (hr:TZ r) (s4:r.aa.Data.length≤1048576) (hb:b.length≤1048576):
  aG prog B 4 #[.agg #[vI r.Code,vI r.aU,vI r.At,vS r.aa.af,kA,vI r.aa.ai,vI r.aa.aC,vI r.aa.Next,vI r.aa.aF,k0,k1],k2] h g [] (fun pa g' L'=>pa=vT∧L'=[]):=by
 obtain⟨Z,ab,rfl⟩:=I.ak
 obtain⟨Y,X,rfl⟩:=G.ak
 obtain⟨V,U,rfl⟩:=D.ak
 obtain⟨ae,am,rfl⟩:=J.ak
 refine aG.aq func4 fun R hR=>At.rg 2<|Op.bx 2 43 0 #[vI r.Code,vI r.aU,vI r.At,vS r.aa.af,vL Z r.aa.Data.length ab,vI r.aa.ai,vI r.aa.aC,vI r.aa.Next,vI r.aa.aF,vL Y r.aX.length X,vL V r.aP.length U] (St.init hg) fun ad s5 k3=>Op.pg 1 []<|At.rg 2 ?_
 refine Op.c0 (some 17) (KV _ _ _ k3.sub u hP) k3 ?_
 rintro _ bs _ s8 dd eK ⟨rfl,rfl⟩
 replace u:=u.mono dd
 replace hP:=hP.mono dd
 replace J:=J.mono dd
 replace D:=D.mono dd
 replace I:=I.mono dd
 replace G:=G.mono dd
 refine Op.pg 2 [(18,vF)]<|At.cQ 18 5<|At.rp 10 2 [(20,vQ ad 3)]<|Op.l1 9 20 21 3 (vS r.aa.af) (eK.ag 0 rfl)<|Op.px 3 [(22,vI (r.aa.af.length:Int)),(24,vQ ad 4)] ?_
 refine Op.l1 22 24 25 4 (vL Z r.aa.Data.length ab) (eK.ag 0 rfl)<|Op.px 1 [(26,vI (r.aa.Data.length:Int))]<|Op.cO 27 ((r.aa.af.length:Int)+(r.aa.Data.length:Int)) (by omega) (by(have:=hr.1;omega))<|Op.pg 6 [(5,vI ((r.aa.af.length:Int)+(r.aa.Data.length:Int)))]<|At.go 7 1 [(6,vI 0)] ?_
 have pb:∀(m:Nat) (n:Int) (i:Int) (eL:ay) (hm:r.aX.length-i.toNat<m) (h0:0≤i) (h1:i≤r.aX.length) (hn:0≤n∧i≤n∧n≤3000000000) (bt:St h g (aS []) bs [[(ad,Obj.cells #[vI r.Code,vI r.aU,vI r.At,vS r.aa.af,vL Z r.aa.Data.length ab,vI r.aa.ai,vI r.aa.aC,vI r.aa.Next,vI r.aa.aF,vL Y r.aX.length X,vL V r.aP.length U] 43 (0,0))]] eL),At (bP prog B 4 f4 R) [] 7 [(1,vL ae b.length am),(2,vP ad),(5,vI n),(6,vI i)] eL:=by
  intro m;induction m with
  |zero=>intros;omega
  |succ m pc=>
   intro n i eL hm h0 h1 hn bt
   refine At.rp 9 2 [(28,vI i),(29,vQ ad 9)]<|Op.l1 40 29 30 9 (vL Y r.aX.length X) (bt.ag 0 rfl)<|Op.px 3 [(33,.bool (decide (i<(r.aX.length:Int))))]<|Op.wd (i<(r.aX.length:Int)) 33 (fun ta=>?_) fun te=>?_
   ·refine Op.pg 8 [(36,.bool (decide (n<6000)))]<|At.fd (n<6000) 36 9 11 (fun ti=>?_) fun tk=>?_
    ·refine At.rp 10 2 [(39,vI n),(40,vQ ad 9)]<|Op.l1 40 40 41 9 (vL Y r.aX.length X) (bt.ag 0 rfl)<|Op.px 1 [(42,vI i)] ?_
     obtain⟨b3,d4⟩:=bW r.aX i
     obtain⟨pd,k4,tl,tm,pf,ph,eQ⟩:=an.bB G _ d4
     cases pf
     refine Op.iq 40 9 1 16 r.aX.length X 41 42 43 pd k4 i ?_
     replace eQ:cut _ _ _=[vS b3]:=eQ
     refine Op.l1 9 43 44 (k4+i.toNat*1) (vS b3) (bt.sub _ _ ph) ?_ (hv:=bN eQ 0 rfl)
     refine Op.px 1 [(45,vI (b3.length:Int))]<|Op.cO 46 ((1:Int)+(b3.length:Int)) (by omega) (by(have:=hr.2.1.2 _ (bY d4);omega))<|Op.cO 47 (n+((1:Int)+(b3.length:Int))) (by omega) (by(have:=hr.2.1.2 _ (bY d4);omega))<|Op.pg 10 [(5,vI (n+((1:Int)+(b3.length:Int))))]<|At.rp 3 1 [(37,vI i)] ?_
     exact Op.vq 38 (i+1)<|Op.pg 7 [(6,vI (i+1))] (At.ke (pc (n+((1:Int)+(b3.length:Int))) (i+1) _ (by omega) (by omega) (by omega) (by(have:=hr.2.1.2 _ (bY d4);omega)) bt))
    refine At.go 12 1 [(7,vI 0)] ?_
    have e1:∀(m:Nat) (n2:Int) (q:Int) (e2:ay) (hm:r.aP.length-q.toNat<m) (e3:0≤q) (e4:q≤r.aP.length) (e5:0≤n2∧q≤n2∧n2≤6000000000∧(r.aX.length≤n2∨6000≤n2)) (ar:St h g (aS []) bs [[(ad,Obj.cells #[vI r.Code,vI r.aU,vI r.At,vS r.aa.af,vL Z r.aa.Data.length ab,vI r.aa.ai,vI r.aa.aC,vI r.aa.Next,vI r.aa.aF,vL Y r.aX.length X,vL V r.aP.length U] 43 (0,0))]] e2),At (bP prog B 4 f4 R) [] 12 [(1,vL ae b.length am),(2,vP ad),(5,vI n2),(7,vI q)] e2:=by
     intro m;induction m with
     |zero=>intros;omega
     |succ m e6=>
      intro n2 q e2 hm e3 e4 e5 ar
      refine At.rp 9 2 [(48,vI q),(49,vQ ad 10)]<|Op.l1 41 49 50 10 (vL V r.aP.length U) (ar.ag 0 rfl)<|Op.px 3 [(53,.bool (decide (q<(r.aP.length:Int))))]<|Op.wd (q<(r.aP.length:Int)) 53 (fun tp=>?_) fun tt=>?_
      ·refine Op.pg 13 [(56,.bool (decide (n2<6000)))]<|At.fd (n2<6000) 56 14 16 (fun tx=>?_) fun tz=>?_
       ·refine At.rp 11 2 [(59,vI n2),(60,vQ ad 10)]<|Op.l1 41 60 61 10 (vL V r.aP.length U) (ar.ag 0 rfl)<|Op.px 1 [(62,vI q)] ?_
        obtain⟨a9,d5⟩:=bW r.aP q
        obtain⟨k5,e7,tA,tB,pj,pl,e8⟩:=an.bB D _ d5
        cases pj
        refine Op.iq 41 45 3 32 r.aP.length U 61 62 63 k5 e7 q ?_
        replace e8:cut _ _ _=[vI a9.ax,vI a9.ah,vS a9.af]:=e8
        refine Op.px 1 [(64,vQ k5 (e7+q.toNat*3+2))]<|Op.l1 9 64 65 (e7+q.toNat*3+2) (vS a9.af) (ar.sub _ _ pl) ?_ (hv:=bN e8 2 rfl)
        refine Op.px 1 [(66,vI (a9.af.length:Int))]<|Op.cO 67 ((1:Int)+(a9.af.length:Int)) (by omega) (by(have:=hr.2.2.2 _ (bY d5);omega))<|Op.cO 68 (n2+((1:Int)+(a9.af.length:Int))) (by omega) (by(have:=hr.2.2.2 _ (bY d5);omega))<|Op.pg 15 [(5,vI (n2+((1:Int)+(a9.af.length:Int))))]<|At.rp 3 1 [(57,vI q)] ?_
        exact Op.vq 58 (q+1)<|Op.pg 12 [(7,vI (q+1))] (At.ke (e6 (n2+((1:Int)+(a9.af.length:Int))) (q+1) _ (by omega) (by omega) (by omega) (by(have:=hr.2.2.2 _ (bY d5);omega)) ar))
       have b4:∀(m:Nat) (e9:ay) (hm:0<m) (hL:m_ r) (d6:St h g (aS []) bs [[(ad,Obj.cells #[vI r.Code,vI r.aU,vI r.At,vS r.aa.af,vL Z r.aa.Data.length ab,vI r.aa.ai,vI r.aa.aC,vI r.aa.Next,vI r.aa.aF,vL Y r.aX.length X,vL V r.aP.length U] 43 (0,0))]] e9),At (bP prog B 4 f4 R) [] 20 [(1,vL ae b.length am),(2,vP ad)] e9:=by
        intro m;induction m with
        |zero=>intros;omega
        |succ m fa=>
         intro e9 hm hL d6
         refine At.rg 4<|Op.la 43 2 76 0 11 [vI r.Code,vI r.aU,vI r.At,vS r.aa.af,vL Z r.aa.Data.length ab,vI r.aa.ai,vI r.aa.aC,vI r.aa.Next,vI r.aa.aF,vL Y r.aX.length X,vL V r.aP.length U] (d6.ag 0 rfl)<|Op.c0 (some 77) (AX _ _ _ d6.sub u r _ I _ G _ D (by(try dsimp only)<;>omega) (by(try dsimp only)<;>omega)) d6 ?_
         rintro _ tR _ tS df pm ⟨t0,t1,t2,rfl,b5,b6,b8,rfl⟩
         obtain⟨fg,fi,rfl⟩:=b5.ak
         obtain⟨fj,fl,rfl⟩:=b6.ak
         obtain⟨fp,fr,rfl⟩:=b8.ak
         replace u:=u.mono df
         replace hP:=hP.mono df
         replace J:=J.mono df
         replace D:=D.mono df
         replace I:=I.mono df
         replace G:=G.mono df
         refine Op.al 8 43 dG pm fun t3 t4 po=>Op.sg 43 8 77 0 0 #[vI r.Code,vI r.aU,vI r.At,vS r.aa.af,vL fg (r.aa.Data.length) fi,vI r.aa.ai,vI r.aa.aC,vI r.aa.Next,vI r.aa.aF,vL fj (r.aX.length) fl,vL fp (r.aP.length) fr] po zt fun t5 ft=>Op.gt 21<|At.rg 7<|Op.la 43 8 79 0 11 [vI r.Code,vI r.aU,vI r.At,vS r.aa.af,vL fg (r.aa.Data.length) fi,vI r.aa.ai,vI r.aa.aC,vI r.aa.Next,vI r.aa.aF,vL fj (r.aX.length) fl,vL fp (r.aP.length) fr] (ft.ag 0 rfl) ?_
         refine Op.c0 (some 80) (vn _ _ _ ft.sub u r _ b5 _ b6 _ b8 (by(try dsimp only)<;>omega)) ft ?_
         rintro _ t6 _ t7 bb fv ⟨t8,rfl,aw,rfl⟩
         obtain⟨fw,fx,rfl⟩:=aw.ak
         replace u:=u.mono bb
         replace hP:=hP.mono bb
         replace J:=J.mono bb
         replace D:=D.mono bb
         replace I:=I.mono bb
         replace G:=G.mono bb
         replace b5:=b5.mono bb
         replace b6:=b6.mono bb
         replace b8:=b8.mono bb
         refine Op.pg 22 [(9,vL fw (((aO r).1).length) fx),(10,vI ((aO r).2))]<|At.rg 7<|Op.la 43 2 84 0 11 [vI r.Code,vI r.aU,vI r.At,vS r.aa.af,vL Z r.aa.Data.length ab,vI r.aa.ai,vI r.aa.aC,vI r.aa.Next,vI r.aa.aF,vL Y r.aX.length X,vL V r.aP.length U] (fv.ag 1 rfl)<|Op.c0 (some 85) (x5 _ _ _ fv.sub u r _ I _ G _ D (by(try dsimp only)<;>omega)) fv ?_
         rintro _ t9 _ ub a5 k6 ⟨ui,rfl,k7,rfl⟩
         obtain⟨k8,lb,rfl⟩:=k7.ak
         replace u:=u.mono a5
         replace hP:=hP.mono a5
         replace J:=J.mono a5
         replace D:=D.mono a5
         replace I:=I.mono a5
         replace G:=G.mono a5
         replace b5:=b5.mono a5
         replace b6:=b6.mono a5
         replace b8:=b8.mono a5
         replace aw:=aw.mono a5
         refine Op.pg 23 [(11,vL k8 (((aO r).1).length) lb),(12,vI ((aO r).2))]<|At.rp 15 2 [(88,vL fw (((aO r).1).length) fx),(89,vL k8 (((aO r).1).length) lb)]<|Op.c1 90 (qK _ _ _ k6.sub u _ _ aw _ _ k7 (by(try dsimp only)<;>exact lE _)) k6 fun ul dl=>Op.px 2 [(92,.bool (!(decide (((aO r).1)=((aO r).1)))))]<|Op.wb (!(decide (((aO r).1)=((aO r).1)))) 92 (fun lc=>?_) fun lh=>?_
         ·replace lc:=kW (dn lc)
          exact Op.pg 24 [(102,vT)]<|At.bT 102 25<|At.gr 26 1 4 vF (hR dl.drop.drop ⟨(bn (by exact absurd rfl ‹_›)),rfl⟩)
         replace lh:=iX (dr lh)
         refine Op.px 2 [(93,vI ((aO r).2)),(94,vI ((aO r).2))]<|Op.vl 95 (.bool (((aO r).2) != ((aO r).2))) vF (by simp)<|Op.px 2 [(97,vF)]<|Op.la 43 8 98 0 11 [vI r.Code,vI r.aU,vI r.At,vS r.aa.af,vL fg (r.aa.Data.length) fi,vI r.aa.ai,vI r.aa.aC,vI r.aa.Next,vI r.aa.aF,vL fj (r.aX.length) fl,vL fp (r.aP.length) fr] (dl.ag 0 rfl)<|Op.la 43 2 99 0 11 [vI r.Code,vI r.aU,vI r.At,vS r.aa.af,vL Z r.aa.Data.length ab,vI r.aa.ai,vI r.aa.aC,vI r.aa.Next,vI r.aa.aF,vL Y r.aX.length X,vL V r.aP.length U] (dl.ag 1 rfl) ?_
         refine Op.c1 100 (oA _ _ _ dl.sub u r _ b5 _ b6 _ b8 r _ I _ G _ D (by((try dsimp only)<;>(first|omega|exact hP|exact hL|(have:=hr.1;omega)|(have:=hr.2.1.1;omega)|(have:=hr.2.2.1;omega)|(have:=hr.2.1.2 _ (bY {O});omega)|(have:=hr.2.2.2 _ (bY {O});omega)|(have:=hr.2.1.2 _ (bY {O});exact⟨by omega,by omega,by omega⟩)|(have:=hr.2.2.2 _ (bY {O});exact⟨by omega,by omega,by omega,by omega⟩)|exact lE _|rfl|exact l7 _|exact l6 _|(rw[gN ‹_›];omega)|exact gN ‹_›|(rw[gN ‹_›];exact hL)))) (by(try dsimp only)<;>omega) (by(try dsimp only)<;>omega)) dl fun us li=>Op.pg 24 [(102,vF)]<|At.cQ 102 27<|At.rp 9 1 [(104,vL ae b.length am)]<|Op.c0 (some 105) (mT _ _ _ li.sub u _ _ J (by(try dsimp only)<;>omega)) li ?_
         rintro _ pu _ ut pv pw ⟨u1,u2,rfl,lj,f0,rfl⟩;subst pu;clear pv
         obtain⟨u3,u4,rfl⟩:=lj.ak
         obtain⟨vd,lk,ca,py⟩:=aH.freeze lj (pw)
         replace u:=u.mono ca
         replace hP:=hP.mono ca
         replace J:=J.mono ca
         replace D:=D.mono ca
         replace I:=I.mono ca
         replace G:=G.mono ca
         replace aw:=aw.mono ca
         refine Op.c0 (some 106) (qR _ _ _ lk.sub u _ _ py (by(try dsimp only)<;>omega)) lk ?_
         rintro _ ve _ vo cb pA ⟨vx,vy,v1,rfl,d7,d8,d9,rfl⟩
         obtain⟨f1,f2,rfl⟩:=d7.ak
         obtain⟨a127,n128,rfl⟩:=d8.ak
         obtain⟨a131,f3,rfl⟩:=d9.ak
         replace u:=u.mono cb
         replace hP:=hP.mono cb
         replace J:=J.mono cb
         replace D:=D.mono cb
         replace I:=I.mono cb
         replace G:=G.mono cb
         replace aw:=aw.mono cb
         refine Op.px 3 [(107,.agg #[vI (((av b).1).Code),vI (((av b).1).aU),vI (((av b).1).At),vS (((av b).1).aa.af),vL f1 ((((av b).1).aa.Data).length) f2,vI (((av b).1).aa.ai),vI (((av b).1).aa.aC),vI (((av b).1).aa.Next),vI (((av b).1).aa.aF),vL a127 ((((av b).1).aX).length) n128,vL a131 ((((av b).1).aP).length) f3]),(108,vI ((av b).2))]<|Op.al 13 43 dG pA fun v2 v3 pB=>Op.sg 43 13 107 0 0 #[vI (((av b).1).Code),vI (((av b).1).aU),vI (((av b).1).At),vS (((av b).1).aa.af),vL f1 ((((av b).1).aa.Data).length) f2,vI (((av b).1).aa.ai),vI (((av b).1).aa.aC),vI (((av b).1).aa.Next),vI (((av b).1).aa.aF),vL a127 ((((av b).1).aX).length) n128,vL a131 ((((av b).1).aP).length) f3] pB zt fun v4 ll=>Op.pg 28 [(14,vI ((av b).2))]<|At.rp 8 1 [(110,vL ae b.length am)] ?_
         refine Op.c0 (some 111) (AV _ _ _ ll.sub u _ _ J (by(try dsimp only)<;>omega)) ll ?_
         rintro _ v5 _ v6 bc pC ⟨v8,v146,v9,rfl,lm,ln,lr,rfl⟩
         obtain⟨f5,f6,rfl⟩:=lm.ak
         obtain⟨a148,f7,rfl⟩:=ln.ak
         obtain⟨f8,f9,rfl⟩:=lr.ak
         replace u:=u.mono bc
         replace hP:=hP.mono bc
         replace D:=D.mono bc
         replace I:=I.mono bc
         replace G:=G.mono bc
         replace d7:=d7.mono bc
         replace d8:=d8.mono bc
         replace d9:=d9.mono bc
         replace aw:=aw.mono bc
         refine Op.px 3 [(112,.agg #[vI (((av b).1).Code),vI (((av b).1).aU),vI (((av b).1).At),vS (((av b).1).aa.af),vL f5 ((((av b).1).aa.Data).length) f6,vI (((av b).1).aa.ai),vI (((av b).1).aa.aC),vI (((av b).1).aa.Next),vI (((av b).1).aa.aF),vL a148 ((((av b).1).aX).length) f7,vL f8 ((((av b).1).aP).length) f9]),(113,vI ((av b).2))]<|Op.al 15 43 dG pC fun wa wc pD=>Op.sg 43 15 112 0 0 #[vI (((av b).1).Code),vI (((av b).1).aU),vI (((av b).1).At),vS (((av b).1).aa.af),vL f5 ((((av b).1).aa.Data).length) f6,vI (((av b).1).aa.ai),vI (((av b).1).aa.aC),vI (((av b).1).aa.Next),vI (((av b).1).aa.aF),vL a148 ((((av b).1).aX).length) f7,vL f8 ((((av b).1).aP).length) f9] pD zt fun wi ea=>Op.pg 29 [(16,vI ((av b).2))]<|At.rg 9 ?_
         refine Op.la 43 13 114 0 11 [vI (((av b).1).Code),vI (((av b).1).aU),vI (((av b).1).At),vS (((av b).1).aa.af),vL f1 ((((av b).1).aa.Data).length) f2,vI (((av b).1).aa.ai),vI (((av b).1).aa.aC),vI (((av b).1).aa.Next),vI (((av b).1).aa.aF),vL a127 ((((av b).1).aX).length) n128,vL a131 ((((av b).1).aP).length) f3] (ea.ag 1 rfl)<|Op.la 43 15 115 0 11 [vI (((av b).1).Code),vI (((av b).1).aU),vI (((av b).1).At),vS (((av b).1).aa.af),vL f5 ((((av b).1).aa.Data).length) f6,vI (((av b).1).aa.ai),vI (((av b).1).aa.aC),vI (((av b).1).aa.Next),vI (((av b).1).aa.aF),vL a148 ((((av b).1).aX).length) f7,vL f8 ((((av b).1).aP).length) f9] (ea.ag 0 rfl)<|Op.c1 116 (oA _ _ _ ea.sub u ((av b).1) _ d7 _ d8 _ d9 ((av b).1) _ lm _ ln _ lr (by((try dsimp only)<;>(first|omega|exact hP|exact hL|(have:=hr.1;omega)|(have:=hr.2.1.1;omega)|(have:=hr.2.2.1;omega)|(have:=hr.2.1.2 _ (bY {O});omega)|(have:=hr.2.2.2 _ (bY {O});omega)|(have:=hr.2.1.2 _ (bY {O});exact⟨by omega,by omega,by omega⟩)|(have:=hr.2.2.2 _ (bY {O});exact⟨by omega,by omega,by omega,by omega⟩)|exact lE _|rfl|exact l7 _|exact l6 _|(rw[gN ‹_›];omega)|exact gN ‹_›|(rw[gN ‹_›];exact hL)))) (by(try dsimp only)<;>exact l7 _) (by(try dsimp only)<;>exact l6 _)) ea fun wn gc=>Op.px 4 [(118,vF),(119,vI ((av b).2)),(120,vI ((av b).2))]<|Op.vl 121 (.bool (((av b).2) != ((av b).2))) vF (by simp) ?_
         refine Op.pg 30 [(122,vF)]<|At.cQ 122 33<|At.go 34 2 [(124,.bool (((aO r).2)==0))]<|At.fd (((aO r).2)=0) 124 35 38 (fun wp=>?_) fun wr=>?_
         ·refine At.rp 7 1 [(126,vL fw (((aO r).1).length) fx)]<|Op.c0 (some 127) (qR _ _ _ gc.sub u _ _ aw (by(try dsimp only)<;>exact lE _)) gc ?_
          rintro _ wt _ ww dp p0 ⟨wx,v173,wy,rfl,lv,lw,lx,rfl⟩
          obtain⟨a171,ge,rfl⟩:=lv.ak
          obtain⟨gg,gk,rfl⟩:=lw.ak
          obtain⟨gn,gs,rfl⟩:=lx.ak
          replace u:=u.mono dp
          replace hP:=hP.mono dp
          replace D:=D.mono dp
          replace I:=I.mono dp
          replace G:=G.mono dp
          refine Op.px 3 [(128,.agg #[vI (((av ((aO r).1)).1).Code),vI (((av ((aO r).1)).1).aU),vI (((av ((aO r).1)).1).At),vS (((av ((aO r).1)).1).aa.af),vL a171 ((((av ((aO r).1)).1).aa.Data).length) ge,vI (((av ((aO r).1)).1).aa.ai),vI (((av ((aO r).1)).1).aa.aC),vI (((av ((aO r).1)).1).aa.Next),vI (((av ((aO r).1)).1).aa.aF),vL gg ((((av ((aO r).1)).1).aX).length) gk,vL gn ((((av ((aO r).1)).1).aP).length) gs]),(129,vI ((av ((aO r).1)).2))]<|Op.sg 43 13 128 0 1 #[vI (((av ((aO r).1)).1).Code),vI (((av ((aO r).1)).1).aU),vI (((av ((aO r).1)).1).At),vS (((av ((aO r).1)).1).aa.af),vL a171 ((((av ((aO r).1)).1).aa.Data).length) ge,vI (((av ((aO r).1)).1).aa.ai),vI (((av ((aO r).1)).1).aa.aC),vI (((av ((aO r).1)).1).aa.Next),vI (((av ((aO r).1)).1).aa.aF),vL gg ((((av ((aO r).1)).1).aX).length) gk,vL gn ((((av ((aO r).1)).1).aP).length) gs] p0 zt fun w0 dq=>Op.pg 36 [(14,vI ((av ((aO r).1)).2))]<|At.rp 8 3 [(132,.bool (((av ((aO r).1)).2)==0))]<|Op.wd (((av ((aO r).1)).2)=0) 132 (fun w1=>?_) fun w2=>?_
          ·exact Op.la 43 13 133 0 11 [vI (((av ((aO r).1)).1).Code),vI (((av ((aO r).1)).1).aU),vI (((av ((aO r).1)).1).At),vS (((av ((aO r).1)).1).aa.af),vL a171 ((((av ((aO r).1)).1).aa.Data).length) ge,vI (((av ((aO r).1)).1).aa.ai),vI (((av ((aO r).1)).1).aa.aC),vI (((av ((aO r).1)).1).aa.Next),vI (((av ((aO r).1)).1).aa.aF),vL gg ((((av ((aO r).1)).1).aX).length) gk,vL gn ((((av ((aO r).1)).1).aP).length) gs] (dq.ag 1 rfl)<|Op.la 43 2 134 0 11 [vI r.Code,vI r.aU,vI r.At,vS r.aa.af,vL Z r.aa.Data.length ab,vI r.aa.ai,vI r.aa.aC,vI r.aa.Next,vI r.aa.aF,vL Y r.aX.length X,vL V r.aP.length U] (dq.ag 3 rfl)<|Op.c1 135 (oA _ _ _ dq.sub u ((av ((aO r).1)).1) _ lv _ lw _ lx r _ I _ G _ D (by((try dsimp only)<;>(exact gN ‹_›))) (by(try dsimp only)<;>exact l7 _) (by(try dsimp only)<;>exact l6 _)) dq fun w3 p1=>Op.pr 37 4 vT (hR p1.drop.drop.drop.drop ⟨(bn (by rfl)),rfl⟩)
          exact Op.pr 37 4 vF (hR dq.drop.drop.drop.drop ⟨(bn (by exact absurd (AW ‹_›) ‹_›)),rfl⟩)
         exact At.gr 39 1 4 vT (hR gc.drop.drop.drop.drop ⟨(bn (by rfl)),rfl⟩)
       refine At.rp 7 3 [(71,.bool (decide (n2>5000)))]<|Op.wd (n2>5000) 71 (fun w7=>?_) fun xa=>?_
       ·exact Op.pg 17 [(75,vT)]<|At.bT 75 18<|At.gr 19 1 4 vT (hR ar.drop ⟨(bn (by rfl)),rfl⟩)
       refine Op.pg 17 [(75,.bool (decide ((b.length:Int)>5000)))]<|At.fd ((b.length:Int)>5000) 75 18 20 (fun xc=>?_) fun xf=>?_
       ·exact At.gr 19 1 4 vT (hR ar.drop ⟨(bn (by rfl)),rfl⟩)
       exact At.ke (b4 _ _ (bG _) (by exact⟨hr.1,⟨by omega,hr.2.1.2⟩,by omega,hr.2.2.2⟩) ar)
      refine Op.pg 13 [(56,vF)]<|At.cQ 56 16 ?_
      have b4:∀(m:Nat) (g1:ay) (hm:0<m) (hL:m_ r) (eb:St h g (aS []) bs [[(ad,Obj.cells #[vI r.Code,vI r.aU,vI r.At,vS r.aa.af,vL Z r.aa.Data.length ab,vI r.aa.ai,vI r.aa.aC,vI r.aa.Next,vI r.aa.aF,vL Y r.aX.length X,vL V r.aP.length U] 43 (0,0))]] g1),At (bP prog B 4 f4 R) [] 20 [(1,vL ae b.length am),(2,vP ad)] g1:=by
       intro m;induction m with
       |zero=>intros;omega
       |succ m fa=>
        intro g1 hm hL eb
        refine At.rg 4<|Op.la 43 2 76 0 11 [vI r.Code,vI r.aU,vI r.At,vS r.aa.af,vL Z r.aa.Data.length ab,vI r.aa.ai,vI r.aa.aC,vI r.aa.Next,vI r.aa.aF,vL Y r.aX.length X,vL V r.aP.length U] (eb.ag 0 rfl)<|Op.c0 (some 77) (AX _ _ _ eb.sub u r _ I _ G _ D (by(try dsimp only)<;>omega) (by(try dsimp only)<;>omega)) eb ?_
        rintro _ xi _ xn dg p2 ⟨xr,xt,xv,rfl,ce,cf,ch,rfl⟩
        obtain⟨g2,g3,rfl⟩:=ce.ak
        obtain⟨g4,n206,rfl⟩:=cf.ak
        obtain⟨g5,g6,rfl⟩:=ch.ak
        replace u:=u.mono dg
        replace hP:=hP.mono dg
        replace J:=J.mono dg
        replace D:=D.mono dg
        replace I:=I.mono dg
        replace G:=G.mono dg
        refine Op.al 8 43 dG p2 fun yi yk p3=>Op.sg 43 8 77 0 0 #[vI r.Code,vI r.aU,vI r.At,vS r.aa.af,vL g2 (r.aa.Data.length) g3,vI r.aa.ai,vI r.aa.aC,vI r.aa.Next,vI r.aa.aF,vL g4 (r.aX.length) n206,vL g5 (r.aP.length) g6] p3 zt fun yn g7=>Op.gt 21<|At.rg 7<|Op.la 43 8 79 0 11 [vI r.Code,vI r.aU,vI r.At,vS r.aa.af,vL g2 (r.aa.Data.length) g3,vI r.aa.ai,vI r.aa.aC,vI r.aa.Next,vI r.aa.aF,vL g4 (r.aX.length) n206,vL g5 (r.aP.length) g6] (g7.ag 0 rfl) ?_
        refine Op.c0 (some 80) (vn _ _ _ g7.sub u r _ ce _ cf _ ch (by(try dsimp only)<;>omega)) g7 ?_
        rintro _ yr _ yv bd g8 ⟨y7,rfl,a0,rfl⟩
        obtain⟨a222,g9,rfl⟩:=a0.ak
        replace u:=u.mono bd
        replace hP:=hP.mono bd
        replace J:=J.mono bd
        replace D:=D.mono bd
        replace I:=I.mono bd
        replace G:=G.mono bd
        replace ce:=ce.mono bd
        replace cf:=cf.mono bd
        replace ch:=ch.mono bd
        refine Op.pg 22 [(9,vL a222 (((aO r).1).length) g9),(10,vI ((aO r).2))]<|At.rg 7<|Op.la 43 2 84 0 11 [vI r.Code,vI r.aU,vI r.At,vS r.aa.af,vL Z r.aa.Data.length ab,vI r.aa.ai,vI r.aa.aC,vI r.aa.Next,vI r.aa.aF,vL Y r.aX.length X,vL V r.aP.length U] (g8.ag 1 rfl)<|Op.c0 (some 85) (x5 _ _ _ g8.sub u r _ I _ G _ D (by(try dsimp only)<;>omega)) g8 ?_
        rintro _ y8 _ z0 a6 ly ⟨v228,rfl,lA,rfl⟩
        obtain⟨lL,n231,rfl⟩:=lA.ak
        replace u:=u.mono a6
        replace hP:=hP.mono a6
        replace J:=J.mono a6
        replace D:=D.mono a6
        replace I:=I.mono a6
        replace G:=G.mono a6
        replace ce:=ce.mono a6
        replace cf:=cf.mono a6
        replace ch:=ch.mono a6
        replace a0:=a0.mono a6
        refine Op.pg 23 [(11,vL lL (((aO r).1).length) n231),(12,vI ((aO r).2))]<|At.rp 15 2 [(88,vL a222 (((aO r).1).length) g9),(89,vL lL (((aO r).1).length) n231)]<|Op.c1 90 (qK _ _ _ ly.sub u _ _ a0 _ _ lA (by(try dsimp only)<;>exact lE _)) ly fun z1 du=>Op.px 2 [(92,.bool (!(decide (((aO r).1)=((aO r).1)))))]<|Op.wb (!(decide (((aO r).1)=((aO r).1)))) 92 (fun lO=>?_) fun l0=>?_
        ·replace lO:=kW (dn lO)
         exact Op.pg 24 [(102,vT)]<|At.bT 102 25<|At.gr 26 1 4 vF (hR du.drop.drop ⟨(bn (by exact absurd rfl ‹_›)),rfl⟩)
        replace l0:=iX (dr l0)
        refine Op.px 2 [(93,vI ((aO r).2)),(94,vI ((aO r).2))]<|Op.vl 95 (.bool (((aO r).2) != ((aO r).2))) vF (by simp)<|Op.px 2 [(97,vF)]<|Op.la 43 8 98 0 11 [vI r.Code,vI r.aU,vI r.At,vS r.aa.af,vL g2 (r.aa.Data.length) g3,vI r.aa.ai,vI r.aa.aC,vI r.aa.Next,vI r.aa.aF,vL g4 (r.aX.length) n206,vL g5 (r.aP.length) g6] (du.ag 0 rfl)<|Op.la 43 2 99 0 11 [vI r.Code,vI r.aU,vI r.At,vS r.aa.af,vL Z r.aa.Data.length ab,vI r.aa.ai,vI r.aa.aC,vI r.aa.Next,vI r.aa.aF,vL Y r.aX.length X,vL V r.aP.length U] (du.ag 1 rfl) ?_
        refine Op.c1 100 (oA _ _ _ du.sub u r _ ce _ cf _ ch r _ I _ G _ D (by((try dsimp only)<;>(first|omega|exact hP|exact hL|(have:=hr.1;omega)|(have:=hr.2.1.1;omega)|(have:=hr.2.2.1;omega)|(have:=hr.2.1.2 _ (bY {O});omega)|(have:=hr.2.2.2 _ (bY {O});omega)|(have:=hr.2.1.2 _ (bY {O});exact⟨by omega,by omega,by omega⟩)|(have:=hr.2.2.2 _ (bY {O});exact⟨by omega,by omega,by omega,by omega⟩)|exact lE _|rfl|exact l7 _|exact l6 _|(rw[gN ‹_›];omega)|exact gN ‹_›|(rw[gN ‹_›];exact hL)))) (by(try dsimp only)<;>omega) (by(try dsimp only)<;>omega)) du fun z2 l2=>Op.pg 24 [(102,vF)]<|At.cQ 102 27<|At.rp 9 1 [(104,vL ae b.length am)]<|Op.c0 (some 105) (mT _ _ _ l2.sub u _ _ J (by(try dsimp only)<;>omega)) l2 ?_
        rintro _ p8 _ z3 qr q0 ⟨z4,z5,rfl,l3,f0,rfl⟩;subst p8;clear qr
        obtain⟨z6,z7,rfl⟩:=l3.ak
        obtain⟨z8,l4,ci,q1⟩:=aH.freeze l3 (q0)
        replace u:=u.mono ci
        replace hP:=hP.mono ci
        replace J:=J.mono ci
        replace D:=D.mono ci
        replace I:=I.mono ci
        replace G:=G.mono ci
        replace a0:=a0.mono ci
        refine Op.c0 (some 106) (qR _ _ _ l4.sub u _ _ q1 (by(try dsimp only)<;>omega)) l4 ?_
        rintro _ z9 _ A0 ck q2 ⟨A1,CH,CM,rfl,ed,ee,ef,rfl⟩
        obtain⟨ha,he,rfl⟩:=ed.ak
        obtain⟨hf,n266,rfl⟩:=ee.ak
        obtain⟨hh,hj,rfl⟩:=ef.ak
        replace u:=u.mono ck
        replace hP:=hP.mono ck
        replace J:=J.mono ck
        replace D:=D.mono ck
        replace I:=I.mono ck
        replace G:=G.mono ck
        replace a0:=a0.mono ck
        refine Op.px 3 [(107,.agg #[vI (((av b).1).Code),vI (((av b).1).aU),vI (((av b).1).At),vS (((av b).1).aa.af),vL ha ((((av b).1).aa.Data).length) he,vI (((av b).1).aa.ai),vI (((av b).1).aa.aC),vI (((av b).1).aa.Next),vI (((av b).1).aa.aF),vL hf ((((av b).1).aX).length) n266,vL hh ((((av b).1).aP).length) hj]),(108,vI ((av b).2))]<|Op.al 13 43 dG q2 fun Eq EQ q3=>Op.sg 43 13 107 0 0 #[vI (((av b).1).Code),vI (((av b).1).aU),vI (((av b).1).At),vS (((av b).1).aa.af),vL ha ((((av b).1).aa.Data).length) he,vI (((av b).1).aa.ai),vI (((av b).1).aa.aC),vI (((av b).1).aa.Next),vI (((av b).1).aa.aF),vL hf ((((av b).1).aX).length) n266,vL hh ((((av b).1).aP).length) hj] q3 zt fun Fd l8=>Op.pg 28 [(14,vI ((av b).2))]<|At.rp 8 1 [(110,vL ae b.length am)] ?_
        refine Op.c0 (some 111) (AV _ _ _ l8.sub u _ _ J (by(try dsimp only)<;>omega)) l8 ?_
        rintro _ Fn _ Fr be ra ⟨FS,GE,GT,rfl,ma,md,mf,rfl⟩
        obtain⟨hl,n283,rfl⟩:=ma.ak
        obtain⟨ho,hp,rfl⟩:=md.ak
        obtain⟨hq,hs,rfl⟩:=mf.ak
        replace u:=u.mono be
        replace hP:=hP.mono be
        replace D:=D.mono be
        replace I:=I.mono be
        replace G:=G.mono be
        replace a0:=a0.mono be
        replace ed:=ed.mono be
        replace ee:=ee.mono be
        replace ef:=ef.mono be
        refine Op.px 3 [(112,.agg #[vI (((av b).1).Code),vI (((av b).1).aU),vI (((av b).1).At),vS (((av b).1).aa.af),vL hl ((((av b).1).aa.Data).length) n283,vI (((av b).1).aa.ai),vI (((av b).1).aa.aC),vI (((av b).1).aa.Next),vI (((av b).1).aa.aF),vL ho ((((av b).1).aX).length) hp,vL hq ((((av b).1).aP).length) hs]),(113,vI ((av b).2))]<|Op.al 15 43 dG ra fun Ha Hb rb=>Op.sg 43 15 112 0 0 #[vI (((av b).1).Code),vI (((av b).1).aU),vI (((av b).1).At),vS (((av b).1).aa.af),vL hl ((((av b).1).aa.Data).length) n283,vI (((av b).1).aa.ai),vI (((av b).1).aa.aC),vI (((av b).1).aa.Next),vI (((av b).1).aa.aF),vL ho ((((av b).1).aX).length) hp,vL hq ((((av b).1).aP).length) hs] rb zt fun Hc eh=>Op.pg 29 [(16,vI ((av b).2))]<|At.rg 9 ?_
        refine Op.la 43 13 114 0 11 [vI (((av b).1).Code),vI (((av b).1).aU),vI (((av b).1).At),vS (((av b).1).aa.af),vL ha ((((av b).1).aa.Data).length) he,vI (((av b).1).aa.ai),vI (((av b).1).aa.aC),vI (((av b).1).aa.Next),vI (((av b).1).aa.aF),vL hf ((((av b).1).aX).length) n266,vL hh ((((av b).1).aP).length) hj] (eh.ag 1 rfl)<|Op.la 43 15 115 0 11 [vI (((av b).1).Code),vI (((av b).1).aU),vI (((av b).1).At),vS (((av b).1).aa.af),vL hl ((((av b).1).aa.Data).length) n283,vI (((av b).1).aa.ai),vI (((av b).1).aa.aC),vI (((av b).1).aa.Next),vI (((av b).1).aa.aF),vL ho ((((av b).1).aX).length) hp,vL hq ((((av b).1).aP).length) hs] (eh.ag 0 rfl)<|Op.c1 116 (oA _ _ _ eh.sub u ((av b).1) _ ed _ ee _ ef ((av b).1) _ ma _ md _ mf (by((try dsimp only)<;>(first|omega|exact hP|exact hL|(have:=hr.1;omega)|(have:=hr.2.1.1;omega)|(have:=hr.2.2.1;omega)|(have:=hr.2.1.2 _ (bY {O});omega)|(have:=hr.2.2.2 _ (bY {O});omega)|(have:=hr.2.1.2 _ (bY {O});exact⟨by omega,by omega,by omega⟩)|(have:=hr.2.2.2 _ (bY {O});exact⟨by omega,by omega,by omega,by omega⟩)|exact lE _|rfl|exact l7 _|exact l6 _|(rw[gN ‹_›];omega)|exact gN ‹_›|(rw[gN ‹_›];exact hL)))) (by(try dsimp only)<;>exact l7 _) (by(try dsimp only)<;>exact l6 _)) eh fun Hd hu=>Op.px 4 [(118,vF),(119,vI ((av b).2)),(120,vI ((av b).2))]<|Op.vl 121 (.bool (((av b).2) != ((av b).2))) vF (by simp) ?_
        refine Op.pg 30 [(122,vF)]<|At.cQ 122 33<|At.go 34 2 [(124,.bool (((aO r).2)==0))]<|At.fd (((aO r).2)=0) 124 35 38 (fun Hk=>?_) fun Hm=>?_
        ·refine At.rp 7 1 [(126,vL a222 (((aO r).1).length) g9)]<|Op.c0 (some 127) (qR _ _ _ hu.sub u _ _ a0 (by(try dsimp only)<;>exact lE _)) hu ?_
         rintro _ Hn _ HA dv rc ⟨HB,HI,H0,rfl,mi,ml,mp,rfl⟩
         obtain⟨hw,n310,rfl⟩:=mi.ak
         obtain⟨hx,n314,rfl⟩:=ml.ak
         obtain⟨hy,n318,rfl⟩:=mp.ak
         replace u:=u.mono dv
         replace hP:=hP.mono dv
         replace D:=D.mono dv
         replace I:=I.mono dv
         replace G:=G.mono dv
         refine Op.px 3 [(128,.agg #[vI (((av ((aO r).1)).1).Code),vI (((av ((aO r).1)).1).aU),vI (((av ((aO r).1)).1).At),vS (((av ((aO r).1)).1).aa.af),vL hw ((((av ((aO r).1)).1).aa.Data).length) n310,vI (((av ((aO r).1)).1).aa.ai),vI (((av ((aO r).1)).1).aa.aC),vI (((av ((aO r).1)).1).aa.Next),vI (((av ((aO r).1)).1).aa.aF),vL hx ((((av ((aO r).1)).1).aX).length) n314,vL hy ((((av ((aO r).1)).1).aP).length) n318]),(129,vI ((av ((aO r).1)).2))]<|Op.sg 43 13 128 0 1 #[vI (((av ((aO r).1)).1).Code),vI (((av ((aO r).1)).1).aU),vI (((av ((aO r).1)).1).At),vS (((av ((aO r).1)).1).aa.af),vL hw ((((av ((aO r).1)).1).aa.Data).length) n310,vI (((av ((aO r).1)).1).aa.ai),vI (((av ((aO r).1)).1).aa.aC),vI (((av ((aO r).1)).1).aa.Next),vI (((av ((aO r).1)).1).aa.aF),vL hx ((((av ((aO r).1)).1).aX).length) n314,vL hy ((((av ((aO r).1)).1).aP).length) n318] rc zt fun H1 dC=>Op.pg 36 [(14,vI ((av ((aO r).1)).2))]<|At.rp 8 3 [(132,.bool (((av ((aO r).1)).2)==0))]<|Op.wd (((av ((aO r).1)).2)=0) 132 (fun H2=>?_) fun H3=>?_
         ·exact Op.la 43 13 133 0 11 [vI (((av ((aO r).1)).1).Code),vI (((av ((aO r).1)).1).aU),vI (((av ((aO r).1)).1).At),vS (((av ((aO r).1)).1).aa.af),vL hw ((((av ((aO r).1)).1).aa.Data).length) n310,vI (((av ((aO r).1)).1).aa.ai),vI (((av ((aO r).1)).1).aa.aC),vI (((av ((aO r).1)).1).aa.Next),vI (((av ((aO r).1)).1).aa.aF),vL hx ((((av ((aO r).1)).1).aX).length) n314,vL hy ((((av ((aO r).1)).1).aP).length) n318] (dC.ag 1 rfl)<|Op.la 43 2 134 0 11 [vI r.Code,vI r.aU,vI r.At,vS r.aa.af,vL Z r.aa.Data.length ab,vI r.aa.ai,vI r.aa.aC,vI r.aa.Next,vI r.aa.aF,vL Y r.aX.length X,vL V r.aP.length U] (dC.ag 3 rfl)<|Op.c1 135 (oA _ _ _ dC.sub u ((av ((aO r).1)).1) _ mi _ ml _ mp r _ I _ G _ D (by((try dsimp only)<;>(exact gN ‹_›))) (by(try dsimp only)<;>exact l7 _) (by(try dsimp only)<;>exact l6 _)) dC fun H4 rd=>Op.pr 37 4 vT (hR rd.drop.drop.drop.drop ⟨(bn (by rfl)),rfl⟩)
         exact Op.pr 37 4 vF (hR dC.drop.drop.drop.drop ⟨(bn (by exact absurd (AW ‹_›) ‹_›)),rfl⟩)
        exact At.gr 39 1 4 vT (hR hu.drop.drop.drop.drop ⟨(bn (by rfl)),rfl⟩)
      refine At.rp 7 3 [(71,.bool (decide (n2>5000)))]<|Op.wd (n2>5000) 71 (fun H5=>?_) fun Id=>?_
      ·exact Op.pg 17 [(75,vT)]<|At.bT 75 18<|At.gr 19 1 4 vT (hR ar.drop ⟨(bn (by rfl)),rfl⟩)
      refine Op.pg 17 [(75,.bool (decide ((b.length:Int)>5000)))]<|At.fd ((b.length:Int)>5000) 75 18 20 (fun If=>?_) fun IH=>?_
      ·exact At.gr 19 1 4 vT (hR ar.drop ⟨(bn (by rfl)),rfl⟩)
      exact At.ke (b4 _ _ (bG _) (by exact⟨hr.1,⟨by omega,hr.2.1.2⟩,by omega,hr.2.2.2⟩) ar)
    exact At.ke (e1 _ n 0 _ (bG _) (by omega) (by omega) (by exact⟨by omega,by omega,by omega,by omega⟩) bt)
   refine Op.pg 8 [(36,vF)]<|At.cQ 36 11<|At.go 12 1 [(7,vI 0)] ?_
   have e1:∀(m:Nat) (n2:Int) (q:Int) (hz:ay) (hm:r.aP.length-q.toNat<m) (e3:0≤q) (e4:q≤r.aP.length) (e5:0≤n2∧q≤n2∧n2≤6000000000∧(r.aX.length≤n2∨6000≤n2)) (a1:St h g (aS []) bs [[(ad,Obj.cells #[vI r.Code,vI r.aU,vI r.At,vS r.aa.af,vL Z r.aa.Data.length ab,vI r.aa.ai,vI r.aa.aC,vI r.aa.Next,vI r.aa.aF,vL Y r.aX.length X,vL V r.aP.length U] 43 (0,0))]] hz),At (bP prog B 4 f4 R) [] 12 [(1,vL ae b.length am),(2,vP ad),(5,vI n2),(7,vI q)] hz:=by
    intro m;induction m with
    |zero=>intros;omega
    |succ m e6=>
     intro n2 q hz hm e3 e4 e5 a1
     refine At.rp 9 2 [(48,vI q),(49,vQ ad 10)]<|Op.l1 41 49 50 10 (vL V r.aP.length U) (a1.ag 0 rfl)<|Op.px 3 [(53,.bool (decide (q<(r.aP.length:Int))))]<|Op.wd (q<(r.aP.length:Int)) 53 (fun IO=>?_) fun IR=>?_
     ·refine Op.pg 13 [(56,.bool (decide (n2<6000)))]<|At.fd (n2<6000) 56 14 16 (fun I8=>?_) fun Ly=>?_
      ·refine At.rp 11 2 [(59,vI n2),(60,vQ ad 10)]<|Op.l1 41 60 61 10 (vL V r.aP.length U) (a1.ag 0 rfl)<|Op.px 1 [(62,vI q)] ?_
       obtain⟨bi,ej⟩:=bW r.aP q
       obtain⟨mx,hA,LE,LO,re,rf,hB⟩:=an.bB D _ ej
       cases re
       refine Op.iq 41 45 3 32 r.aP.length U 61 62 63 mx hA q ?_
       replace hB:cut _ _ _=[vI bi.ax,vI bi.ah,vS bi.af]:=hB
       refine Op.px 1 [(64,vQ mx (hA+q.toNat*3+2))]<|Op.l1 9 64 65 (hA+q.toNat*3+2) (vS bi.af) (a1.sub _ _ rf) ?_ (hv:=bN hB 2 rfl)
       refine Op.px 1 [(66,vI (bi.af.length:Int))]<|Op.cO 67 ((1:Int)+(bi.af.length:Int)) (by omega) (by(have:=hr.2.2.2 _ (bY ej);omega))<|Op.cO 68 (n2+((1:Int)+(bi.af.length:Int))) (by omega) (by(have:=hr.2.2.2 _ (bY ej);omega))<|Op.pg 15 [(5,vI (n2+((1:Int)+(bi.af.length:Int))))]<|At.rp 3 1 [(57,vI q)] ?_
       exact Op.vq 58 (q+1)<|Op.pg 12 [(7,vI (q+1))] (At.ke (e6 (n2+((1:Int)+(bi.af.length:Int))) (q+1) _ (by omega) (by omega) (by omega) (by(have:=hr.2.2.2 _ (bY ej);omega)) a1))
      have b4:∀(m:Nat) (hC:ay) (hm:0<m) (hL:m_ r) (em:St h g (aS []) bs [[(ad,Obj.cells #[vI r.Code,vI r.aU,vI r.At,vS r.aa.af,vL Z r.aa.Data.length ab,vI r.aa.ai,vI r.aa.aC,vI r.aa.Next,vI r.aa.aF,vL Y r.aX.length X,vL V r.aP.length U] 43 (0,0))]] hC),At (bP prog B 4 f4 R) [] 20 [(1,vL ae b.length am),(2,vP ad)] hC:=by
       intro m;induction m with
       |zero=>intros;omega
       |succ m fa=>
        intro hC hm hL em
        refine At.rg 4<|Op.la 43 2 76 0 11 [vI r.Code,vI r.aU,vI r.At,vS r.aa.af,vL Z r.aa.Data.length ab,vI r.aa.ai,vI r.aa.aC,vI r.aa.Next,vI r.aa.aF,vL Y r.aX.length X,vL V r.aP.length U] (em.ag 0 rfl)<|Op.c0 (some 77) (AX _ _ _ em.sub u r _ I _ G _ D (by(try dsimp only)<;>omega) (by(try dsimp only)<;>omega)) em ?_
        rintro _ M2 _ Ne dj rh ⟨Nm,NE,Ok,rfl,co,c3,c4,rfl⟩
        obtain⟨hD,hE,rfl⟩:=co.ak
        obtain⟨hF,hG,rfl⟩:=c3.ak
        obtain⟨hH,hI,rfl⟩:=c4.ak
        replace u:=u.mono dj
        replace hP:=hP.mono dj
        replace J:=J.mono dj
        replace D:=D.mono dj
        replace I:=I.mono dj
        replace G:=G.mono dj
        refine Op.al 8 43 dG rh fun Or Os rk=>Op.sg 43 8 77 0 0 #[vI r.Code,vI r.aU,vI r.At,vS r.aa.af,vL hD (r.aa.Data.length) hE,vI r.aa.ai,vI r.aa.aC,vI r.aa.Next,vI r.aa.aF,vL hF (r.aX.length) hG,vL hH (r.aP.length) hI] rk zt fun Pi hJ=>Op.gt 21<|At.rg 7<|Op.la 43 8 79 0 11 [vI r.Code,vI r.aU,vI r.At,vS r.aa.af,vL hD (r.aa.Data.length) hE,vI r.aa.ai,vI r.aa.aC,vI r.aa.Next,vI r.aa.aF,vL hF (r.aX.length) hG,vL hH (r.aP.length) hI] (hJ.ag 0 rfl) ?_
        refine Op.c0 (some 80) (vn _ _ _ hJ.sub u r _ co _ c3 _ c4 (by(try dsimp only)<;>omega)) hJ ?_
        rintro _ Pl _ Ps bj hK ⟨PH,rfl,a3,rfl⟩
        obtain⟨hN,hO,rfl⟩:=a3.ak
        replace u:=u.mono bj
        replace hP:=hP.mono bj
        replace J:=J.mono bj
        replace D:=D.mono bj
        replace I:=I.mono bj
        replace G:=G.mono bj
        replace co:=co.mono bj
        replace c3:=c3.mono bj
        replace c4:=c4.mono bj
        refine Op.pg 22 [(9,vL hN (((aO r).1).length) hO),(10,vI ((aO r).2))]<|At.rg 7<|Op.la 43 2 84 0 11 [vI r.Code,vI r.aU,vI r.At,vS r.aa.af,vL Z r.aa.Data.length ab,vI r.aa.ai,vI r.aa.aC,vI r.aa.Next,vI r.aa.aF,vL Y r.aX.length X,vL V r.aP.length U] (hK.ag 1 rfl)<|Op.c0 (some 85) (x5 _ _ _ hK.sub u r _ I _ G _ D (by(try dsimp only)<;>omega)) hK ?_
        rintro _ PP _ PQ a7 my ⟨P1,rfl,m0,rfl⟩
        obtain⟨m1,m2,rfl⟩:=m0.ak
        replace u:=u.mono a7
        replace hP:=hP.mono a7
        replace J:=J.mono a7
        replace D:=D.mono a7
        replace I:=I.mono a7
        replace G:=G.mono a7
        replace co:=co.mono a7
        replace c3:=c3.mono a7
        replace c4:=c4.mono a7
        replace a3:=a3.mono a7
        refine Op.pg 23 [(11,vL m1 (((aO r).1).length) m2),(12,vI ((aO r).2))]<|At.rp 15 2 [(88,vL hN (((aO r).1).length) hO),(89,vL m1 (((aO r).1).length) m2)]<|Op.c1 90 (qK _ _ _ my.sub u _ _ a3 _ _ m0 (by(try dsimp only)<;>exact lE _)) my fun P2 dE=>Op.px 2 [(92,.bool (!(decide (((aO r).1)=((aO r).1)))))]<|Op.wb (!(decide (((aO r).1)=((aO r).1)))) 92 (fun m3=>?_) fun m4=>?_
        ·replace m3:=kW (dn m3)
         exact Op.pg 24 [(102,vT)]<|At.bT 102 25<|At.gr 26 1 4 vF (hR dE.drop.drop ⟨(bn (by exact absurd rfl ‹_›)),rfl⟩)
        replace m4:=iX (dr m4)
        refine Op.px 2 [(93,vI ((aO r).2)),(94,vI ((aO r).2))]<|Op.vl 95 (.bool (((aO r).2) != ((aO r).2))) vF (by simp)<|Op.px 2 [(97,vF)]<|Op.la 43 8 98 0 11 [vI r.Code,vI r.aU,vI r.At,vS r.aa.af,vL hD (r.aa.Data.length) hE,vI r.aa.ai,vI r.aa.aC,vI r.aa.Next,vI r.aa.aF,vL hF (r.aX.length) hG,vL hH (r.aP.length) hI] (dE.ag 0 rfl)<|Op.la 43 2 99 0 11 [vI r.Code,vI r.aU,vI r.At,vS r.aa.af,vL Z r.aa.Data.length ab,vI r.aa.ai,vI r.aa.aC,vI r.aa.Next,vI r.aa.aF,vL Y r.aX.length X,vL V r.aP.length U] (dE.ag 1 rfl) ?_
        refine Op.c1 100 (oA _ _ _ dE.sub u r _ co _ c3 _ c4 r _ I _ G _ D (by((try dsimp only)<;>(first|omega|exact hP|exact hL|(have:=hr.1;omega)|(have:=hr.2.1.1;omega)|(have:=hr.2.2.1;omega)|(have:=hr.2.1.2 _ (bY {O});omega)|(have:=hr.2.2.2 _ (bY {O});omega)|(have:=hr.2.1.2 _ (bY {O});exact⟨by omega,by omega,by omega⟩)|(have:=hr.2.2.2 _ (bY {O});exact⟨by omega,by omega,by omega,by omega⟩)|exact lE _|rfl|exact l7 _|exact l6 _|(rw[gN ‹_›];omega)|exact gN ‹_›|(rw[gN ‹_›];exact hL)))) (by(try dsimp only)<;>omega) (by(try dsimp only)<;>omega)) dE fun QP m5=>Op.pg 24 [(102,vF)]<|At.cQ 102 27<|At.rp 9 1 [(104,vL ae b.length am)]<|Op.c0 (some 105) (mT _ _ _ m5.sub u _ _ J (by(try dsimp only)<;>omega)) m5 ?_
        rintro _ rr _ QQ rv rx ⟨QR,Rd,rfl,m6,f0,rfl⟩;subst rr;clear rv
        obtain⟨RK,R2,rfl⟩:=m6.ak
        obtain⟨So,m7,c5,r0⟩:=aH.freeze m6 (rx)
        replace u:=u.mono c5
        replace hP:=hP.mono c5
        replace J:=J.mono c5
        replace D:=D.mono c5
        replace I:=I.mono c5
        replace G:=G.mono c5
        replace a3:=a3.mono c5
        refine Op.c0 (some 106) (qR _ _ _ m7.sub u _ _ r0 (by(try dsimp only)<;>omega)) m7 ?_
        rintro _ ST _ T1 c6 r1 ⟨T2,Uu,Uv,rfl,en,ep,er,rfl⟩
        obtain⟨hQ,hS,rfl⟩:=en.ak
        obtain⟨hT,hV,rfl⟩:=ep.ak
        obtain⟨hW,hX,rfl⟩:=er.ak
        replace u:=u.mono c6
        replace hP:=hP.mono c6
        replace J:=J.mono c6
        replace D:=D.mono c6
        replace I:=I.mono c6
        replace G:=G.mono c6
        replace a3:=a3.mono c6
        refine Op.px 3 [(107,.agg #[vI (((av b).1).Code),vI (((av b).1).aU),vI (((av b).1).At),vS (((av b).1).aa.af),vL hQ ((((av b).1).aa.Data).length) hS,vI (((av b).1).aa.ai),vI (((av b).1).aa.aC),vI (((av b).1).aa.Next),vI (((av b).1).aa.aF),vL hT ((((av b).1).aX).length) hV,vL hW ((((av b).1).aP).length) hX]),(108,vI ((av b).2))]<|Op.al 13 43 dG r1 fun Uw Ux r2=>Op.sg 43 13 107 0 0 #[vI (((av b).1).Code),vI (((av b).1).aU),vI (((av b).1).At),vS (((av b).1).aa.af),vL hQ ((((av b).1).aa.Data).length) hS,vI (((av b).1).aa.ai),vI (((av b).1).aa.aC),vI (((av b).1).aa.Next),vI (((av b).1).aa.aF),vL hT ((((av b).1).aX).length) hV,vL hW ((((av b).1).aP).length) hX] r2 zt fun Uy m8=>Op.pg 28 [(14,vI ((av b).2))]<|At.rp 8 1 [(110,vL ae b.length am)] ?_
        refine Op.c0 (some 111) (AV _ _ _ m8.sub u _ _ J (by(try dsimp only)<;>omega)) m8 ?_
        rintro _ Uz _ UA bk r3 ⟨UB,UC,UD,rfl,m9,na,nb,rfl⟩
        obtain⟨hY,hZ,rfl⟩:=m9.ak
        obtain⟨h2,h3,rfl⟩:=na.ak
        obtain⟨h4,h5,rfl⟩:=nb.ak
        replace u:=u.mono bk
        replace hP:=hP.mono bk
        replace D:=D.mono bk
        replace I:=I.mono bk
        replace G:=G.mono bk
        replace a3:=a3.mono bk
        replace en:=en.mono bk
        replace ep:=ep.mono bk
        replace er:=er.mono bk
        refine Op.px 3 [(112,.agg #[vI (((av b).1).Code),vI (((av b).1).aU),vI (((av b).1).At),vS (((av b).1).aa.af),vL hY ((((av b).1).aa.Data).length) hZ,vI (((av b).1).aa.ai),vI (((av b).1).aa.aC),vI (((av b).1).aa.Next),vI (((av b).1).aa.aF),vL h2 ((((av b).1).aX).length) h3,vL h4 ((((av b).1).aP).length) h5]),(113,vI ((av b).2))]<|Op.al 15 43 dG r3 fun UE UF sc=>Op.sg 43 15 112 0 0 #[vI (((av b).1).Code),vI (((av b).1).aU),vI (((av b).1).At),vS (((av b).1).aa.af),vL hY ((((av b).1).aa.Data).length) hZ,vI (((av b).1).aa.ai),vI (((av b).1).aa.aC),vI (((av b).1).aa.Next),vI (((av b).1).aa.aF),vL h2 ((((av b).1).aX).length) h3,vL h4 ((((av b).1).aP).length) h5] sc zt fun UG et=>Op.pg 29 [(16,vI ((av b).2))]<|At.rg 9 ?_
        refine Op.la 43 13 114 0 11 [vI (((av b).1).Code),vI (((av b).1).aU),vI (((av b).1).At),vS (((av b).1).aa.af),vL hQ ((((av b).1).aa.Data).length) hS,vI (((av b).1).aa.ai),vI (((av b).1).aa.aC),vI (((av b).1).aa.Next),vI (((av b).1).aa.aF),vL hT ((((av b).1).aX).length) hV,vL hW ((((av b).1).aP).length) hX] (et.ag 1 rfl)<|Op.la 43 15 115 0 11 [vI (((av b).1).Code),vI (((av b).1).aU),vI (((av b).1).At),vS (((av b).1).aa.af),vL hY ((((av b).1).aa.Data).length) hZ,vI (((av b).1).aa.ai),vI (((av b).1).aa.aC),vI (((av b).1).aa.Next),vI (((av b).1).aa.aF),vL h2 ((((av b).1).aX).length) h3,vL h4 ((((av b).1).aP).length) h5] (et.ag 0 rfl)<|Op.c1 116 (oA _ _ _ et.sub u ((av b).1) _ en _ ep _ er ((av b).1) _ m9 _ na _ nb (by((try dsimp only)<;>(first|omega|exact hP|exact hL|(have:=hr.1;omega)|(have:=hr.2.1.1;omega)|(have:=hr.2.2.1;omega)|(have:=hr.2.1.2 _ (bY {O});omega)|(have:=hr.2.2.2 _ (bY {O});omega)|(have:=hr.2.1.2 _ (bY {O});exact⟨by omega,by omega,by omega⟩)|(have:=hr.2.2.2 _ (bY {O});exact⟨by omega,by omega,by omega,by omega⟩)|exact lE _|rfl|exact l7 _|exact l6 _|(rw[gN ‹_›];omega)|exact gN ‹_›|(rw[gN ‹_›];exact hL)))) (by(try dsimp only)<;>exact l7 _) (by(try dsimp only)<;>exact l6 _)) et fun UH h6=>Op.px 4 [(118,vF),(119,vI ((av b).2)),(120,vI ((av b).2))]<|Op.vl 121 (.bool (((av b).2) != ((av b).2))) vF (by simp) ?_
        refine Op.pg 30 [(122,vF)]<|At.cQ 122 33<|At.go 34 2 [(124,.bool (((aO r).2)==0))]<|At.fd (((aO r).2)=0) 124 35 38 (fun UI=>?_) fun UJ=>?_
        ·refine At.rp 7 1 [(126,vL hN (((aO r).1).length) hO)]<|Op.c0 (some 127) (qR _ _ _ h6.sub u _ _ a3 (by(try dsimp only)<;>exact lE _)) h6 ?_
         rintro _ UK _ UL dT sd ⟨UM,UN,UO,rfl,nd,nf,nm,rfl⟩
         obtain⟨h7,h8,rfl⟩:=nd.ak
         obtain⟨h9,ib,rfl⟩:=nf.ak
         obtain⟨ih,ii,rfl⟩:=nm.ak
         replace u:=u.mono dT
         replace hP:=hP.mono dT
         replace D:=D.mono dT
         replace I:=I.mono dT
         replace G:=G.mono dT
         refine Op.px 3 [(128,.agg #[vI (((av ((aO r).1)).1).Code),vI (((av ((aO r).1)).1).aU),vI (((av ((aO r).1)).1).At),vS (((av ((aO r).1)).1).aa.af),vL h7 ((((av ((aO r).1)).1).aa.Data).length) h8,vI (((av ((aO r).1)).1).aa.ai),vI (((av ((aO r).1)).1).aa.aC),vI (((av ((aO r).1)).1).aa.Next),vI (((av ((aO r).1)).1).aa.aF),vL h9 ((((av ((aO r).1)).1).aX).length) ib,vL ih ((((av ((aO r).1)).1).aP).length) ii]),(129,vI ((av ((aO r).1)).2))]<|Op.sg 43 13 128 0 1 #[vI (((av ((aO r).1)).1).Code),vI (((av ((aO r).1)).1).aU),vI (((av ((aO r).1)).1).At),vS (((av ((aO r).1)).1).aa.af),vL h7 ((((av ((aO r).1)).1).aa.Data).length) h8,vI (((av ((aO r).1)).1).aa.ai),vI (((av ((aO r).1)).1).aa.aC),vI (((av ((aO r).1)).1).aa.Next),vI (((av ((aO r).1)).1).aa.aF),vL h9 ((((av ((aO r).1)).1).aX).length) ib,vL ih ((((av ((aO r).1)).1).aP).length) ii] sd zt fun UP d0=>Op.pg 36 [(14,vI ((av ((aO r).1)).2))]<|At.rp 8 3 [(132,.bool (((av ((aO r).1)).2)==0))]<|Op.wd (((av ((aO r).1)).2)=0) 132 (fun UQ=>?_) fun UR=>?_
         ·exact Op.la 43 13 133 0 11 [vI (((av ((aO r).1)).1).Code),vI (((av ((aO r).1)).1).aU),vI (((av ((aO r).1)).1).At),vS (((av ((aO r).1)).1).aa.af),vL h7 ((((av ((aO r).1)).1).aa.Data).length) h8,vI (((av ((aO r).1)).1).aa.ai),vI (((av ((aO r).1)).1).aa.aC),vI (((av ((aO r).1)).1).aa.Next),vI (((av ((aO r).1)).1).aa.aF),vL h9 ((((av ((aO r).1)).1).aX).length) ib,vL ih ((((av ((aO r).1)).1).aP).length) ii] (d0.ag 1 rfl)<|Op.la 43 2 134 0 11 [vI r.Code,vI r.aU,vI r.At,vS r.aa.af,vL Z r.aa.Data.length ab,vI r.aa.ai,vI r.aa.aC,vI r.aa.Next,vI r.aa.aF,vL Y r.aX.length X,vL V r.aP.length U] (d0.ag 3 rfl)<|Op.c1 135 (oA _ _ _ d0.sub u ((av ((aO r).1)).1) _ nd _ nf _ nm r _ I _ G _ D (by((try dsimp only)<;>(exact gN ‹_›))) (by(try dsimp only)<;>exact l7 _) (by(try dsimp only)<;>exact l6 _)) d0 fun US sf=>Op.pr 37 4 vT (hR sf.drop.drop.drop.drop ⟨(bn (by rfl)),rfl⟩)
         exact Op.pr 37 4 vF (hR d0.drop.drop.drop.drop ⟨(bn (by exact absurd (AW ‹_›) ‹_›)),rfl⟩)
        exact At.gr 39 1 4 vT (hR h6.drop.drop.drop.drop ⟨(bn (by rfl)),rfl⟩)
      refine At.rp 7 3 [(71,.bool (decide (n2>5000)))]<|Op.wd (n2>5000) 71 (fun UT=>?_) fun UU=>?_
      ·exact Op.pg 17 [(75,vT)]<|At.bT 75 18<|At.gr 19 1 4 vT (hR a1.drop ⟨(bn (by rfl)),rfl⟩)
      refine Op.pg 17 [(75,.bool (decide ((b.length:Int)>5000)))]<|At.fd ((b.length:Int)>5000) 75 18 20 (fun UV=>?_) fun UW=>?_
      ·exact At.gr 19 1 4 vT (hR a1.drop ⟨(bn (by rfl)),rfl⟩)
      exact At.ke (b4 _ _ (bG _) (by exact⟨hr.1,⟨by omega,hr.2.1.2⟩,by omega,hr.2.2.2⟩) a1)
     refine Op.pg 13 [(56,vF)]<|At.cQ 56 16 ?_
     have b4:∀(m:Nat) (ik:ay) (hm:0<m) (hL:m_ r) (ex:St h g (aS []) bs [[(ad,Obj.cells #[vI r.Code,vI r.aU,vI r.At,vS r.aa.af,vL Z r.aa.Data.length ab,vI r.aa.ai,vI r.aa.aC,vI r.aa.Next,vI r.aa.aF,vL Y r.aX.length X,vL V r.aP.length U] 43 (0,0))]] ik),At (bP prog B 4 f4 R) [] 20 [(1,vL ae b.length am),(2,vP ad)] ik:=by
      intro m;induction m with
      |zero=>intros;omega
      |succ m fa=>
       intro ik hm hL ex
       refine At.rg 4<|Op.la 43 2 76 0 11 [vI r.Code,vI r.aU,vI r.At,vS r.aa.af,vL Z r.aa.Data.length ab,vI r.aa.ai,vI r.aa.aC,vI r.aa.Next,vI r.aa.aF,vL Y r.aX.length X,vL V r.aP.length U] (ex.ag 0 rfl)<|Op.c0 (some 77) (AX _ _ _ ex.sub u r _ I _ G _ D (by(try dsimp only)<;>omega) (by(try dsimp only)<;>omega)) ex ?_
       rintro _ UX _ UY dk sh ⟨UZ,U0,U1,rfl,c8,c9,da,rfl⟩
       obtain⟨il,io,rfl⟩:=c8.ak
       obtain⟨ip,is,rfl⟩:=c9.ak
       obtain⟨iv,i0,rfl⟩:=da.ak
       replace u:=u.mono dk
       replace hP:=hP.mono dk
       replace J:=J.mono dk
       replace D:=D.mono dk
       replace I:=I.mono dk
       replace G:=G.mono dk
       refine Op.al 8 43 dG sh fun U2 U3 sk=>Op.sg 43 8 77 0 0 #[vI r.Code,vI r.aU,vI r.At,vS r.aa.af,vL il (r.aa.Data.length) io,vI r.aa.ai,vI r.aa.aC,vI r.aa.Next,vI r.aa.aF,vL ip (r.aX.length) is,vL iv (r.aP.length) i0] sk zt fun U4 i1=>Op.gt 21<|At.rg 7<|Op.la 43 8 79 0 11 [vI r.Code,vI r.aU,vI r.At,vS r.aa.af,vL il (r.aa.Data.length) io,vI r.aa.ai,vI r.aa.aC,vI r.aa.Next,vI r.aa.aF,vL ip (r.aX.length) is,vL iv (r.aP.length) i0] (i1.ag 0 rfl) ?_
       refine Op.c0 (some 80) (vn _ _ _ i1.sub u r _ c8 _ c9 _ da (by(try dsimp only)<;>omega)) i1 ?_
       rintro _ U5 _ U6 bm i3 ⟨U7,rfl,a4,rfl⟩
       obtain⟨i4,i5,rfl⟩:=a4.ak
       replace u:=u.mono bm
       replace hP:=hP.mono bm
       replace J:=J.mono bm
       replace D:=D.mono bm
       replace I:=I.mono bm
       replace G:=G.mono bm
       replace c8:=c8.mono bm
       replace c9:=c9.mono bm
       replace da:=da.mono bm
       refine Op.pg 22 [(9,vL i4 (((aO r).1).length) i5),(10,vI ((aO r).2))]<|At.rg 7<|Op.la 43 2 84 0 11 [vI r.Code,vI r.aU,vI r.At,vS r.aa.af,vL Z r.aa.Data.length ab,vI r.aa.ai,vI r.aa.aC,vI r.aa.Next,vI r.aa.aF,vL Y r.aX.length X,vL V r.aP.length U] (i3.ag 1 rfl)<|Op.c0 (some 85) (x5 _ _ _ i3.sub u r _ I _ G _ D (by(try dsimp only)<;>omega)) i3 ?_
       rintro _ U8 _ U9 a8 nn ⟨U_,rfl,no,rfl⟩
       obtain⟨np,nu,rfl⟩:=no.ak
       replace u:=u.mono a8
       replace hP:=hP.mono a8
       replace J:=J.mono a8
       replace D:=D.mono a8
       replace I:=I.mono a8
       replace G:=G.mono a8
       replace c8:=c8.mono a8
       replace c9:=c9.mono a8
       replace da:=da.mono a8
       replace a4:=a4.mono a8
       refine Op.pg 23 [(11,vL np (((aO r).1).length) nu),(12,vI ((aO r).2))]<|At.rp 15 2 [(88,vL i4 (((aO r).1).length) i5),(89,vL np (((aO r).1).length) nu)]<|Op.c1 90 (qK _ _ _ nn.sub u _ _ a4 _ _ no (by(try dsimp only)<;>exact lE _)) nn fun Va d1=>Op.px 2 [(92,.bool (!(decide (((aO r).1)=((aO r).1)))))]<|Op.wb (!(decide (((aO r).1)=((aO r).1)))) 92 (fun nx=>?_) fun nz=>?_
       ·replace nx:=kW (dn nx)
        exact Op.pg 24 [(102,vT)]<|At.bT 102 25<|At.gr 26 1 4 vF (hR d1.drop.drop ⟨(bn (by exact absurd rfl ‹_›)),rfl⟩)
       replace nz:=iX (dr nz)
       refine Op.px 2 [(93,vI ((aO r).2)),(94,vI ((aO r).2))]<|Op.vl 95 (.bool (((aO r).2) != ((aO r).2))) vF (by simp)<|Op.px 2 [(97,vF)]<|Op.la 43 8 98 0 11 [vI r.Code,vI r.aU,vI r.At,vS r.aa.af,vL il (r.aa.Data.length) io,vI r.aa.ai,vI r.aa.aC,vI r.aa.Next,vI r.aa.aF,vL ip (r.aX.length) is,vL iv (r.aP.length) i0] (d1.ag 0 rfl)<|Op.la 43 2 99 0 11 [vI r.Code,vI r.aU,vI r.At,vS r.aa.af,vL Z r.aa.Data.length ab,vI r.aa.ai,vI r.aa.aC,vI r.aa.Next,vI r.aa.aF,vL Y r.aX.length X,vL V r.aP.length U] (d1.ag 1 rfl) ?_
       refine Op.c1 100 (oA _ _ _ d1.sub u r _ c8 _ c9 _ da r _ I _ G _ D (by((try dsimp only)<;>(first|omega|exact hP|exact hL|(have:=hr.1;omega)|(have:=hr.2.1.1;omega)|(have:=hr.2.2.1;omega)|(have:=hr.2.1.2 _ (bY {O});omega)|(have:=hr.2.2.2 _ (bY {O});omega)|(have:=hr.2.1.2 _ (bY {O});exact⟨by omega,by omega,by omega⟩)|(have:=hr.2.2.2 _ (bY {O});exact⟨by omega,by omega,by omega,by omega⟩)|exact lE _|rfl|exact l7 _|exact l6 _|(rw[gN ‹_›];omega)|exact gN ‹_›|(rw[gN ‹_›];exact hL)))) (by(try dsimp only)<;>omega) (by(try dsimp only)<;>omega)) d1 fun Vb n0=>Op.pg 24 [(102,vF)]<|At.cQ 102 27<|At.rp 9 1 [(104,vL ae b.length am)]<|Op.c0 (some 105) (mT _ _ _ n0.sub u _ _ J (by(try dsimp only)<;>omega)) n0 ?_
       rintro _ sm _ Vc so ss ⟨Vd,Ve,rfl,n3,f0,rfl⟩;subst sm;clear so
       obtain⟨Vf,Vg,rfl⟩:=n3.ak
       obtain⟨Vh,oi,db,st⟩:=aH.freeze n3 (ss)
       replace u:=u.mono db
       replace hP:=hP.mono db
       replace J:=J.mono db
       replace D:=D.mono db
       replace I:=I.mono db
       replace G:=G.mono db
       replace a4:=a4.mono db
       refine Op.c0 (some 106) (qR _ _ _ oi.sub u _ _ st (by(try dsimp only)<;>omega)) oi ?_
       rintro _ Vi _ Vj dc sA ⟨Vk,Vl,Vm,rfl,eA,eB,eI,rfl⟩
       obtain⟨i6,i7,rfl⟩:=eA.ak
       obtain⟨i8,i9,rfl⟩:=eB.ak
       obtain⟨jf,jj,rfl⟩:=eI.ak
       replace u:=u.mono dc
       replace hP:=hP.mono dc
       replace J:=J.mono dc
       replace D:=D.mono dc
       replace I:=I.mono dc
       replace G:=G.mono dc
       replace a4:=a4.mono dc
       refine Op.px 3 [(107,.agg #[vI (((av b).1).Code),vI (((av b).1).aU),vI (((av b).1).At),vS (((av b).1).aa.af),vL i6 ((((av b).1).aa.Data).length) i7,vI (((av b).1).aa.ai),vI (((av b).1).aa.aC),vI (((av b).1).aa.Next),vI (((av b).1).aa.aF),vL i8 ((((av b).1).aX).length) i9,vL jf ((((av b).1).aP).length) jj]),(108,vI ((av b).2))]<|Op.al 13 43 dG sA fun Vn Vo sB=>Op.sg 43 13 107 0 0 #[vI (((av b).1).Code),vI (((av b).1).aU),vI (((av b).1).At),vS (((av b).1).aa.af),vL i6 ((((av b).1).aa.Data).length) i7,vI (((av b).1).aa.ai),vI (((av b).1).aa.aC),vI (((av b).1).aa.Next),vI (((av b).1).aa.aF),vL i8 ((((av b).1).aX).length) i9,vL jf ((((av b).1).aP).length) jj] sB zt fun Vp oj=>Op.pg 28 [(14,vI ((av b).2))]<|At.rp 8 1 [(110,vL ae b.length am)] ?_
       refine Op.c0 (some 111) (AV _ _ _ oj.sub u _ _ J (by(try dsimp only)<;>omega)) oj ?_
       rintro _ Vq _ Vr bo sT ⟨Vs,Vt,Vu,rfl,ol,or,ow,rfl⟩
       obtain⟨js,jt,rfl⟩:=ol.ak
       obtain⟨j1,j2,rfl⟩:=or.ak
       obtain⟨kc,kd,rfl⟩:=ow.ak
       replace u:=u.mono bo
       replace hP:=hP.mono bo
       replace D:=D.mono bo
       replace I:=I.mono bo
       replace G:=G.mono bo
       replace a4:=a4.mono bo
       replace eA:=eA.mono bo
       replace eB:=eB.mono bo
       replace eI:=eI.mono bo
       refine Op.px 3 [(112,.agg #[vI (((av b).1).Code),vI (((av b).1).aU),vI (((av b).1).At),vS (((av b).1).aa.af),vL js ((((av b).1).aa.Data).length) jt,vI (((av b).1).aa.ai),vI (((av b).1).aa.aC),vI (((av b).1).aa.Next),vI (((av b).1).aa.aF),vL j1 ((((av b).1).aX).length) j2,vL kc ((((av b).1).aP).length) kd]),(113,vI ((av b).2))]<|Op.al 15 43 dG sT fun Vv Vw s0=>Op.sg 43 15 112 0 0 #[vI (((av b).1).Code),vI (((av b).1).aU),vI (((av b).1).At),vS (((av b).1).aa.af),vL js ((((av b).1).aa.Data).length) jt,vI (((av b).1).aa.ai),vI (((av b).1).aa.aC),vI (((av b).1).aa.Next),vI (((av b).1).aa.aF),vL j1 ((((av b).1).aX).length) j2,vL kc ((((av b).1).aP).length) kd] s0 zt fun Vx eJ=>Op.pg 29 [(16,vI ((av b).2))]<|At.rg 9 ?_
       refine Op.la 43 13 114 0 11 [vI (((av b).1).Code),vI (((av b).1).aU),vI (((av b).1).At),vS (((av b).1).aa.af),vL i6 ((((av b).1).aa.Data).length) i7,vI (((av b).1).aa.ai),vI (((av b).1).aa.aC),vI (((av b).1).aa.Next),vI (((av b).1).aa.aF),vL i8 ((((av b).1).aX).length) i9,vL jf ((((av b).1).aP).length) jj] (eJ.ag 1 rfl)<|Op.la 43 15 115 0 11 [vI (((av b).1).Code),vI (((av b).1).aU),vI (((av b).1).At),vS (((av b).1).aa.af),vL js ((((av b).1).aa.Data).length) jt,vI (((av b).1).aa.ai),vI (((av b).1).aa.aC),vI (((av b).1).aa.Next),vI (((av b).1).aa.aF),vL j1 ((((av b).1).aX).length) j2,vL kc ((((av b).1).aP).length) kd] (eJ.ag 0 rfl)<|Op.c1 116 (oA _ _ _ eJ.sub u ((av b).1) _ eA _ eB _ eI ((av b).1) _ ol _ or _ ow (by((try dsimp only)<;>(first|omega|exact hP|exact hL|(have:=hr.1;omega)|(have:=hr.2.1.1;omega)|(have:=hr.2.2.1;omega)|(have:=hr.2.1.2 _ (bY {O});omega)|(have:=hr.2.2.2 _ (bY {O});omega)|(have:=hr.2.1.2 _ (bY {O});exact⟨by omega,by omega,by omega⟩)|(have:=hr.2.2.2 _ (bY {O});exact⟨by omega,by omega,by omega,by omega⟩)|exact lE _|rfl|exact l7 _|exact l6 _|(rw[gN ‹_›];omega)|exact gN ‹_›|(rw[gN ‹_›];exact hL)))) (by(try dsimp only)<;>exact l7 _) (by(try dsimp only)<;>exact l6 _)) eJ fun Vy kh=>Op.px 4 [(118,vF),(119,vI ((av b).2)),(120,vI ((av b).2))]<|Op.vl 121 (.bool (((av b).2) != ((av b).2))) vF (by simp) ?_
       refine Op.pg 30 [(122,vF)]<|At.cQ 122 33<|At.go 34 2 [(124,.bool (((aO r).2)==0))]<|At.fd (((aO r).2)=0) 124 35 38 (fun Vz=>?_) fun VA=>?_
       ·refine At.rp 7 1 [(126,vL i4 (((aO r).1).length) i5)]<|Op.c0 (some 127) (qR _ _ _ kh.sub u _ _ a4 (by(try dsimp only)<;>exact lE _)) kh ?_
        rintro _ VB _ VC d2 s2 ⟨VD,VE,VF,rfl,o3,o4,o5,rfl⟩
        obtain⟨kk,kl,rfl⟩:=o3.ak
        obtain⟨km,kv,rfl⟩:=o4.ak
        obtain⟨kw,kx,rfl⟩:=o5.ak
        replace u:=u.mono d2
        replace hP:=hP.mono d2
        replace D:=D.mono d2
        replace I:=I.mono d2
        replace G:=G.mono d2
        refine Op.px 3 [(128,.agg #[vI (((av ((aO r).1)).1).Code),vI (((av ((aO r).1)).1).aU),vI (((av ((aO r).1)).1).At),vS (((av ((aO r).1)).1).aa.af),vL kk ((((av ((aO r).1)).1).aa.Data).length) kl,vI (((av ((aO r).1)).1).aa.ai),vI (((av ((aO r).1)).1).aa.aC),vI (((av ((aO r).1)).1).aa.Next),vI (((av ((aO r).1)).1).aa.aF),vL km ((((av ((aO r).1)).1).aX).length) kv,vL kw ((((av ((aO r).1)).1).aP).length) kx]),(129,vI ((av ((aO r).1)).2))]<|Op.sg 43 13 128 0 1 #[vI (((av ((aO r).1)).1).Code),vI (((av ((aO r).1)).1).aU),vI (((av ((aO r).1)).1).At),vS (((av ((aO r).1)).1).aa.af),vL kk ((((av ((aO r).1)).1).aa.Data).length) kl,vI (((av ((aO r).1)).1).aa.ai),vI (((av ((aO r).1)).1).aa.aC),vI (((av ((aO r).1)).1).aa.Next),vI (((av ((aO r).1)).1).aa.aF),vL km ((((av ((aO r).1)).1).aX).length) kv,vL kw ((((av ((aO r).1)).1).aP).length) kx] s2 zt fun VG d3=>Op.pg 36 [(14,vI ((av ((aO r).1)).2))]<|At.rp 8 3 [(132,.bool (((av ((aO r).1)).2)==0))]<|Op.wd (((av ((aO r).1)).2)=0) 132 (fun VH=>?_) fun VI=>?_
        ·exact Op.la 43 13 133 0 11 [vI (((av ((aO r).1)).1).Code),vI (((av ((aO r).1)).1).aU),vI (((av ((aO r).1)).1).At),vS (((av ((aO r).1)).1).aa.af),vL kk ((((av ((aO r).1)).1).aa.Data).length) kl,vI (((av ((aO r).1)).1).aa.ai),vI (((av ((aO r).1)).1).aa.aC),vI (((av ((aO r).1)).1).aa.Next),vI (((av ((aO r).1)).1).aa.aF),vL km ((((av ((aO r).1)).1).aX).length) kv,vL kw ((((av ((aO r).1)).1).aP).length) kx] (d3.ag 1 rfl)<|Op.la 43 2 134 0 11 [vI r.Code,vI r.aU,vI r.At,vS r.aa.af,vL Z r.aa.Data.length ab,vI r.aa.ai,vI r.aa.aC,vI r.aa.Next,vI r.aa.aF,vL Y r.aX.length X,vL V r.aP.length U] (d3.ag 3 rfl)<|Op.c1 135 (oA _ _ _ d3.sub u ((av ((aO r).1)).1) _ o3 _ o4 _ o5 r _ I _ G _ D (by((try dsimp only)<;>(exact gN ‹_›))) (by(try dsimp only)<;>exact l7 _) (by(try dsimp only)<;>exact l6 _)) d3 fun VJ s3=>Op.pr 37 4 vT (hR s3.drop.drop.drop.drop ⟨(bn (by rfl)),rfl⟩)
        exact Op.pr 37 4 vF (hR d3.drop.drop.drop.drop ⟨(bn (by exact absurd (AW ‹_›) ‹_›)),rfl⟩)
       exact At.gr 39 1 4 vT (hR kh.drop.drop.drop.drop ⟨(bn (by rfl)),rfl⟩)
     refine At.rp 7 3 [(71,.bool (decide (n2>5000)))]<|Op.wd (n2>5000) 71 (fun VK=>?_) fun VL=>?_
     ·exact Op.pg 17 [(75,vT)]<|At.bT 75 18<|At.gr 19 1 4 vT (hR a1.drop ⟨(bn (by rfl)),rfl⟩)
     refine Op.pg 17 [(75,.bool (decide ((b.length:Int)>5000)))]<|At.fd ((b.length:Int)>5000) 75 18 20 (fun VM=>?_) fun VN=>?_
     ·exact At.gr 19 1 4 vT (hR a1.drop ⟨(bn (by rfl)),rfl⟩)
     exact At.ke (b4 _ _ (bG _) (by exact⟨hr.1,⟨by omega,hr.2.1.2⟩,by omega,hr.2.2.2⟩) a1)
   exact At.ke (e1 _ n 0 _ (bG _) (by omega) (by omega) (by exact⟨by omega,by omega,by omega,by omega⟩) bt)
 exact At.ke (pb _ ((r.aa.af.length:Int)+(r.aa.Data.length:Int)) 0 _ (bG _) (by omega) (by omega) (by(have:=hr.1;exact⟨by omega,by omega,by omega⟩)) eK)
open Go Go.ChangeShapes Go.WideShapes Go.ChangeAt Go.RowKit Go.Deep Go.ChangeMaps
section
variable {H:Type} {enc:TypeId×Value→H} {P:Program} {w w':World} {ox:Nat} {sp:Nat→Bool} {hd:Bool}
end
section
variable {P:Program} {T E:TypeId}
theorem eM.str (ht:P.underlying T=some .string):eM P T cV (fun y=>y.length≤1048576):=⟨fun h hb=>by
  obtain⟨s,rfl,rfl,_⟩:=DataW.trod_string ht h
  simp only[Rows.uptoBulk] at hb
  exact⟨s.data.toList,by show[Value.string s]=_;rw[Bg],by omega⟩⟩
end
section
variable {P:Program} {w:World} {T:TypeId} {H:Type} {enc:TypeId×Value→H} {v:Value} {dt:DataW H} {ps:List MemPlace} {b0:Nat} {r:Reach}
end
def LS (x:au):Prop:=(IntKind.min .i64≤x.ax∧x.ax≤IntKind.max .i64)∧(IntKind.min .i64≤x.ah∧x.ah≤IntKind.max .i64)∧(x.af.length≤1048576)
theorem T3:eM prog 45 cA LS:=⟨fun{H enc w bH cs x} h hb=>by
  obtain⟨xs,n,_,rfl,hl,hlen,hf⟩:=DataW.trod_struct underlying45 h
  have hl:cs.length=3:=hl.trans (by kernel_rfl)
  have hlen:xs.length=3:=hlen
  obtain⟨a0,a1,a2,rfl⟩:∃a0 a1 a2,cs=[a0,a1,a2]:=by match cs,hl with|[a0,a1,a2],_=>exact⟨a0,a1,a2,rfl⟩
  obtain⟨z0,u,z2,rfl⟩:∃z0 u z2,xs=[z0,u,z2]:=by match xs,hlen with|[z0,u,z2],_=>exact⟨z0,u,z2,rfl⟩
  have hb:Rows.uptoBulkAll [z0.1,u.1,z2.1]≤1048576:=by simp only[Rows.uptoBulk,eS,kQ] at hb;omega
  have g0:=iI hf 0 3 0 1 (by kernel_rfl) (by kernel_rfl)
  replace g0:DataW.trod enc prog w 0 (fun _=>true) true n 3 [a0]=some z0:=g0
  obtain⟨y0,D,o0⟩:=(eM.int underlying3).out g0 (cH (jh (by simp)) hb)
  have D:[a0]=_:=D;cases D
  have g1:=iI hf 1 3 1 1 (by kernel_rfl) (by kernel_rfl)
  replace g1:DataW.trod enc prog w 0 (fun _=>true) true n 3 [a1]=some u:=g1
  obtain⟨y1,k1,o1⟩:=(eM.int underlying3).out g1 (cH (jh (by simp)) hb)
  have k1:[a1]=_:=k1;cases k1
  have g2:=iI hf 2 9 2 1 (by kernel_rfl) (by kernel_rfl)
  replace g2:DataW.trod enc prog w 0 (fun _=>true) true n 9 [a2]=some z2:=g2
  obtain⟨y2,k2,o2⟩:=(eM.str underlying9).out g2 (cH (jh (by simp)) hb)
  have k2:[a2]=_:=k2;cases k2
  exact⟨⟨y0,y1,y2⟩,rfl,⟨o0,o1,o2⟩⟩⟩
def LV (x:aa):Prop:=(x.af.length≤1048576)∧(x.Data.length≤1048576∧∀y∈x.Data,(True))∧(IntKind.min .i64≤x.ai∧x.ai≤IntKind.max .i64)∧(IntKind.min .i64≤x.aC∧x.aC≤IntKind.max .i64)∧(IntKind.min .i64≤x.Next∧x.Next≤IntKind.max .i64)∧(IntKind.min .i64≤x.aF∧x.aF≤IntKind.max .i64)
theorem T4:eM prog 39 rG LV:=⟨fun{H enc w bH cs x} h hb=>by
  obtain⟨xs,n,_,rfl,hl,hlen,hf⟩:=DataW.trod_struct underlying39 h
  have hl:cs.length=6:=hl.trans (by kernel_rfl)
  have hlen:xs.length=6:=hlen
  obtain⟨a0,a1,a2,a3,a4,a5,rfl⟩:∃a0 a1 a2 a3 a4 a5,cs=[a0,a1,a2,a3,a4,a5]:=by match cs,hl with|[a0,a1,a2,a3,a4,a5],_=>exact⟨a0,a1,a2,a3,a4,a5,rfl⟩
  obtain⟨z0,u,z2,z3,z4,z5,rfl⟩:∃z0 u z2 z3 z4 z5,xs=[z0,u,z2,z3,z4,z5]:=by match xs,hlen with|[z0,u,z2,z3,z4,z5],_=>exact⟨z0,u,z2,z3,z4,z5,rfl⟩
  have hb:Rows.uptoBulkAll [z0.1,u.1,z2.1,z3.1,z4.1,z5.1]≤1048576:=by simp only[Rows.uptoBulk,eS,kQ] at hb;omega
  have g0:=iI hf 0 9 0 1 (by kernel_rfl) (by kernel_rfl)
  replace g0:DataW.trod enc prog w 0 (fun _=>true) true n 9 [a0]=some z0:=g0
  obtain⟨y0,D,o0⟩:=(eM.str underlying9).out g0 (cH (jh (by simp)) hb)
  have D:[a0]=_:=D;cases D
  have g1:=iI hf 1 22 1 1 (by kernel_rfl) (by kernel_rfl)
  replace g1:DataW.trod enc prog w 0 (fun _=>true) true n 22 [a1]=some u:=g1
  obtain⟨y1,k1,o1⟩:=(eM.sl (eM.u8 underlying5) underlying22 (by kernel_rfl) (by decide)).out g1 (cH (jh (by simp)) hb)
  obtain⟨v1,e1,s1⟩:=k1;cases e1
  have g2:=iI hf 2 3 2 1 (by kernel_rfl) (by kernel_rfl)
  replace g2:DataW.trod enc prog w 0 (fun _=>true) true n 3 [a2]=some z2:=g2
  obtain⟨y2,k2,o2⟩:=(eM.int underlying3).out g2 (cH (jh (by simp)) hb)
  have k2:[a2]=_:=k2;cases k2
  have g3:=iI hf 3 3 3 1 (by kernel_rfl) (by kernel_rfl)
  replace g3:DataW.trod enc prog w 0 (fun _=>true) true n 3 [a3]=some z3:=g3
  obtain⟨y3,G,U⟩:=(eM.int underlying3).out g3 (cH (jh (by simp)) hb)
  have G:[a3]=_:=G;cases G
  have g4:=iI hf 4 3 4 1 (by kernel_rfl) (by kernel_rfl)
  replace g4:DataW.trod enc prog w 0 (fun _=>true) true n 3 [a4]=some z4:=g4
  obtain⟨y4,I,V⟩:=(eM.int underlying3).out g4 (cH (jh (by simp)) hb)
  have I:[a4]=_:=I;cases I
  have J:=iI hf 5 3 5 1 (by kernel_rfl) (by kernel_rfl)
  replace J:DataW.trod enc prog w 0 (fun _=>true) true n 3 [a5]=some z5:=J
  obtain⟨y5,O,X⟩:=(eM.int underlying3).out J (cH (jh (by simp)) hb)
  have O:[a5]=_:=O;cases O
  exact⟨⟨y0,y1,y2,y3,y4,y5⟩,⟨_,s1,rfl⟩,⟨o0,o1,o2,U,V,X⟩⟩⟩
def T5 (x:Result):Prop:=(IntKind.min .i64≤x.Code∧x.Code≤IntKind.max .i64)∧(IntKind.min .i64≤x.aU∧x.aU≤IntKind.max .i64)∧(IntKind.min .i64≤x.At∧x.At≤IntKind.max .i64)∧(LV x.aa)∧(x.aX.length≤1048576∧∀y∈x.aX,(y.length≤1048576))∧(x.aP.length≤1048576∧∀y∈x.aP,(LS y))
theorem T6:eM prog 43 TI T5:=⟨fun{H enc w bH cs x} h hb=>by
  obtain⟨xs,n,_,rfl,hl,hlen,hf⟩:=DataW.trod_struct underlying43 h
  have hl:cs.length=11:=hl.trans (by kernel_rfl)
  have hlen:xs.length=6:=hlen
  obtain⟨a0,a1,a2,a3,a4,a5,D,G,I,a9,J,rfl⟩:∃a0 a1 a2 a3 a4 a5 D G I a9 J,cs=[a0,a1,a2,a3,a4,a5,D,G,I,a9,J]:=by match cs,hl with|[a0,a1,a2,a3,a4,a5,D,G,I,a9,J],_=>exact⟨a0,a1,a2,a3,a4,a5,D,G,I,a9,J,rfl⟩
  obtain⟨z0,u,z2,z3,z4,z5,rfl⟩:∃z0 u z2 z3 z4 z5,xs=[z0,u,z2,z3,z4,z5]:=by match xs,hlen with|[z0,u,z2,z3,z4,z5],_=>exact⟨z0,u,z2,z3,z4,z5,rfl⟩
  have hb:Rows.uptoBulkAll [z0.1,u.1,z2.1,z3.1,z4.1,z5.1]≤1048576:=by simp only[Rows.uptoBulk,eS,kQ] at hb;omega
  have g0:=iI hf 0 29 0 1 (by kernel_rfl) (by kernel_rfl)
  replace g0:DataW.trod enc prog w 0 (fun _=>true) true n 29 [a0]=some z0:=g0
  obtain⟨y0,O,o0⟩:=(eM.int underlying29).out g0 (cH (jh (by simp)) hb)
  have O:[a0]=_:=O;cases O
  have g1:=iI hf 1 3 1 1 (by kernel_rfl) (by kernel_rfl)
  replace g1:DataW.trod enc prog w 0 (fun _=>true) true n 3 [a1]=some u:=g1
  obtain⟨y1,k1,o1⟩:=(eM.int underlying3).out g1 (cH (jh (by simp)) hb)
  have k1:[a1]=_:=k1;cases k1
  have g2:=iI hf 2 3 2 1 (by kernel_rfl) (by kernel_rfl)
  replace g2:DataW.trod enc prog w 0 (fun _=>true) true n 3 [a2]=some z2:=g2
  obtain⟨y2,k2,o2⟩:=(eM.int underlying3).out g2 (cH (jh (by simp)) hb)
  have k2:[a2]=_:=k2;cases k2
  have g3:=iI hf 3 39 3 6 (by kernel_rfl) (by kernel_rfl)
  replace g3:DataW.trod enc prog w 0 (fun _=>true) true n 39 [a3,a4,a5,D,G,I]=some z3:=g3
  obtain⟨y3,V,X⟩:=T4.out g3 (cH (jh (by simp)) hb)
  obtain⟨a7,Y,e3⟩:=V;cases e3
  have g4:=iI hf 4 40 9 1 (by kernel_rfl) (by kernel_rfl)
  replace g4:DataW.trod enc prog w 0 (fun _=>true) true n 40 [a9]=some z4:=g4
  obtain⟨y4,Z,ab⟩:=(eM.sl (eM.str underlying9) underlying40 (by kernel_rfl) (by decide)).out g4 (cH (jh (by simp)) hb)
  obtain⟨v4,ad,ae⟩:=Z;cases ad
  have U:=iI hf 5 41 10 1 (by kernel_rfl) (by kernel_rfl)
  replace U:DataW.trod enc prog w 0 (fun _=>true) true n 41 [J]=some z5:=U
  obtain⟨y5,am,ar⟩:=(eM.sl T3 underlying41 (by kernel_rfl) (by decide)).out U (cH (jh (by simp)) hb)
  obtain⟨v5,aw,a6⟩:=am;cases aw
  exact⟨⟨y0,y1,y2,y3,y4,y5⟩,⟨_,_,_,Y,ae,a6,rfl⟩,⟨o0,o1,o2,X,ab,ar⟩⟩⟩
end Go.Proofs.YtdinkjbfgcfccaaGreatDoor.Sw
