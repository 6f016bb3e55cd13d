/- Lemmas for laws of this seat. -/
import Derived.Test.YtpacclkciilmpaaGreatDoorGBN
set_option maxHeartbeats 4000000
namespace Go.Proofs.YtpacclkciilmpaaGreatDoor.Sw
open Go.Proofs.Tryz
set_option linter.unusedVariables false
set_option linter.unusedSimpArgs false
set_option linter.deprecated false
open Go
set_option linter.defProp false
def KI:=@List.Pairwise.imp_of_mem
def t_:=@And.left
def vB:=@And.right
theorem dH.tZ {s:Sp} (H:dH s) (t:Int):dH (fR s t):=by
  unfold fR xX
  exact dH.xQ (s:={s with ax:=max s.ax (min t 1099511627775),az:=kM (jH (max s.ax (min t 1099511627775))) s.az}) ⟨H.tree,H.wl,H.ws,H.az.left _,H.quo⟩ _
theorem gJ.Tx {x:fm} (H:gJ x) {bQ:cM→Bool}:(jl bQ x).length≤8:=by
  unfold jl
  rw[eu]
  exact cr (kG _ _) H.len
theorem dH.more {s:Sp} (H:dH s):dH (eO s):=⟨H.tree,H.wl,H.ws,H.az,H.quo⟩
theorem KJ (x:Result):(dy x).1.length≤1000000000:=by
  have h0:([]:aj).length≤1000000000:=gO _
  unfold dy
  repeat' split
  all_goals first|exact h0|skip
  rename_i h1 h2 h3 h4
  obtain⟨h5,h6⟩:=x4 (fs:=lV x) (by simpa using h4)
  simp only[h6]
  refine cr (x6 _ (DE h5).2) ?_
  have:=(DE h5).1
  have:(10+65536)*(lV x).length≤(10+65536)*1024:=sS _ this
  omega
theorem DJ {α:Type} {c:Int} {x:α}:∀{l:List (Int×α)},bW l c=some x→∃p∈l,p.2=x
  |[],h=>by simp[bW] at h
  |q::l,h=>by
   rw[jU] at h
   split at h
   · exact⟨q,by simp,fT h⟩
   · obtain⟨r,hr,e⟩:=DJ h
     exact⟨r,by simp[hr],e⟩
theorem KK {s y:Sp} {c:Int} {r:f_} (h:∀p∈s.aI,p.2.data.length≤1000000000) (e:y.aI=s.aI) (hf:bW y.aI c=some r):r.data.length≤1000000000:=by
  rw[e] at hf
  obtain⟨p,hp,rfl⟩:=DJ hf
  exact h p hp
theorem gW {e:bu} (h1:¬e.Client<0) (h2:¬e.Client≥8) (h3:¬e.bz<1) (h4:¬e.bz≥1099511627776):ic e=true:=by
  unfold ic
  simp only[bO,cB]
  omega
theorem od {e:bu} (h:e.Client<0∨e.Client≥8∨e.bz<1∨e.bz≥1099511627776):¬ic e=true:=by
  unfold ic
  simp only[bO,cB]
  omega
section
variable {s y w:Sp} {e:bu} {b:aQ} {r:f_} {x:Result}
theorem AB {c:Int} (h:bW s.aI c=none):iM s c=⟨0,[]⟩:=by unfold iM;rw[h];rfl
theorem AD {c:Int} (h:bW s.aI c=some r):iM s c=r:=by unfold iM;rw[h];rfl
theorem KL {c st:Int} (h:bW s.aI c=none) (h1:¬st<0) (h2:¬st=0):(iM s c).stamp<st:=by rw[AB h];show(0:Int)<st;omega
theorem KM {c st:Int} (h:bW s.aI c=some r) (h1:¬st<r.stamp) (h2:¬st=r.stamp):(iM s c).stamp<st:=by rw[AD h];omega
theorem oe (hy:y=fR s e.bw) (h:¬ic e=true):[]=aV s e b∧false=fG s e∧y=eZ s e b:=by
  subst hy
  exact⟨by unfold aV;rw[aB h],by unfold fG;simp[h],by unfold eZ;rw[aB (fun h'=>h h'.1)]⟩
theorem KN (hy:y=fR s e.bw) (hE:ic e=true) (h:e.bz<(iM y e.Client).stamp):[]=aV s e b∧false=fG s e∧y=eZ s e b:=by
  subst hy
  refine⟨?_,?_,?_⟩
  · unfold aV;rw[aL hE,aB (by omega),aB (by omega)]
  · unfold fG;rw[hE,fU (by omega)];rfl
  · unfold eZ;rw[aB (by rintro⟨_,h'⟩;omega)]
theorem vC (hy:y=fR s e.bw) (hE:ic e=true) (hf:bW y.aI e.Client=none) (h:e.bz<0):[]=aV s e b∧false=fG s e∧y=eZ s e b:=KN hy hE (by rw[AB hf];exact h)
theorem vD (hy:y=fR s e.bw) (hE:ic e=true) (hf:bW y.aI e.Client=some r) (h:e.bz<r.stamp):[]=aV s e b∧false=fG s e∧y=eZ s e b:=KN hy hE (by rw[AD hf];exact h)
theorem KO (hy:y=fR s e.bw) (hE:ic e=true) (h:e.bz=(iM y e.Client).stamp):(iM y e.Client).data=aV s e b∧false=fG s e∧y=eZ s e b:=by
  subst hy
  refine⟨?_,?_,?_⟩
  · unfold aV;rw[aL hE,aB (by omega),aL h]
  · unfold fG;rw[hE,fU (by omega)];rfl
  · unfold eZ;rw[aB (by rintro⟨_,h'⟩;omega)]
theorem vE (hy:y=fR s e.bw) (hE:ic e=true) (hf:bW y.aI e.Client=none) (h:e.bz=0):[]=aV s e b∧false=fG s e∧y=eZ s e b:=by
  have:=KO (b:=b) hy hE (by rw[AB hf];exact h)
  rwa[AB hf] at this
theorem vG (hy:y=fR s e.bw) (hE:ic e=true) (hf:bW y.aI e.Client=some r) (h:e.bz=r.stamp):r.data=aV s e b∧false=fG s e∧y=eZ s e b:=by
  have:=KO (b:=b) hy hE (by rw[AD hf];exact h)
  rwa[AD hf] at this
theorem Ty {c:Int} (h:bW (cV (eO y) c b).events c=none):{cx (eO y) c b ⟨0,y.count+1,0,ec,[],[]⟩ with aW:=[]}=iZ y c b:=by
  unfold iZ eE
  rw[h];rfl
theorem Tz {c:Int} {xs:List ah} (h:bW (cV (eO y) c b).events c=some xs):{cx (eO y) c b ⟨0,y.count+1,0,ec,[],[]⟩ with aW:=xs}=iZ y c b:=by
  unfold iZ eE
  rw[h];rfl
def KP (y:Sp) (c:Int) (b:aQ):Sp:={cV (eO y) c b with events:=fh (cV (eO y) c b).events c}
theorem DK (hy:y=fR s e.bw) (hE:ic e=true) (hlt:(iM y e.Client).stamp<e.bz) (hw:w=KP y e.Client b) (hr:x=iZ y e.Client b):
    (dy x).1=aV s e b∧true=fG s e∧{w with aI:=b7 w.aI e.Client ⟨e.bz,(dy x).1⟩}=eZ s e b:=by
  subst hy hw hr
  refine⟨?_,?_,?_⟩
  · unfold aV;rw[aL hE,aL hlt]
  · unfold fG;rw[hE,eW hlt];rfl
  · unfold eZ;rw[aL ⟨hE,hlt⟩];rfl
end
set_option maxRecDepth 100000
abbrev sG:Value:=(.tuple #[vN,vF])
abbrev qS:Array Value:=#[vI 0,vI 0,vN,vN,vN,vN,vN]
theorem ua (B:World) (h:av) (g:GH) (hg:bf g h) (J:bh g) (u:Nat) (s:Sp) (a8:au) (g7:bB g u s a8) (e:bu) (e2:Value) (g8:ay g 5 bn e2 e.uI) (e3:Value) (op:aj) (bd:ay g 5 bn e3 op) (hP:l7 g) (a1:dH s) (hl:op.length≤1000000000) (s2:0≤s.count∧s.count≤1000000000000000) (e4:∀p∈s.aI,p.2.data.length≤1000000000) (hx:ic e=true→vc (iZ (fR s e.bw) e.Client op)) (hs:St h g (aM [a8]) g [a8] h):
  aA prog B 9 #[vP u,.agg #[vI e.Client,vI e.bz,vI e.bw,e2],e3] h g [a8] (fun g9 g' L'=>∃v0 e5 e6,g9=.tuple #[v0,.bool (fG s e)]∧aF 5 bn g' v0 (aV s e op) e5∧bB g' u (eZ s e op) e6∧L'=[e6,e5]):=by
 obtain⟨cf,ch,rfl⟩:=g8.ai
 obtain⟨da,db,rfl⟩:=bd.ai
 refine aA.aq func9 fun R hR=>At.rg 3<|Op.bx 4 32 1 #[vI e.Client,vI e.bz,vI e.bw,vL cf e.uI.length ch] hs fun G s3 ha=>Op.pg 1 [] ?_
 have hb:∀(m:Nat) (D:GH) (ci:aG g D) (y:Sp) (a9:au) (dc:av) (hm:0<m) (hy:y=fR s e.bw) (b5:dH y) (b6:y.count=s.count) (dd:y.aI=s.aI) (be:bB D u y a9) (ad:St h g (aM [a8]) D [[(G,Obj.cells #[vI e.Client,vI e.bz,vI e.bw,vL cf e.uI.length ch] 32 (0,0))],a9] dc),At (bS prog B 9 f9 R) [] 3 [(0,vP u),(2,vL da op.length db),(4,vP G)] dc:=by
  intro m;induction m with
  |zero=>intros;omega
  |succ m s4=>
   intro D ci y a9 dc hm hy b5 b6 dd be ad
   replace J:=J.mono ci
   replace hP:=hP.mono ci
   replace bd:=bd.mono ci
   refine At.rp 18 1 [(34,vP G)]<|Op.l1 3 34 35 0 (vI e.Client) (ad.ag 0 rfl)<|Op.px 2 [(37,.bool (decide (e.Client<0)))]<|Op.wd (e.Client<0) 37 (fun s8=>?_) fun ta=>?_
   ·refine Op.pg 4 [(51,vT)]<|At.bX 51 5<|At.go 6 2 [(6,vN),(7,vF)] ?_
    have he:=aF.zero 5 bn D none
    exact At.rt sG<|hR (ad.nl.fs [2,2] rfl).drop ⟨vN,[],a9,bM rfl (aS (by exact(oe (b:=op) hy (od (by omega))).2.1)),dZ he (by exact(oe (b:=op) hy (od (by omega))).1),be.eq (by exact(oe (b:=op) hy (od (by omega))).2.2),rfl⟩
   refine Op.px 1 [(38,vP G)]<|Op.l1 3 38 39 0 (vI e.Client) (ad.ag 0 rfl)<|Op.px 3 [(42,.bool (decide (e.Client≥8)))]<|Op.wd (e.Client≥8) 42 (fun te=>?_) fun ti=>?_
   ·refine Op.pg 4 [(51,vT)]<|At.bX 51 5<|At.go 6 2 [(6,vN),(7,vF)] ?_
    have hf:=aF.zero 5 bn D none
    exact At.rt sG<|hR (ad.nl.fs [2,2] rfl).drop ⟨vN,[],a9,bM rfl (aS (by exact(oe (b:=op) hy (od (by omega))).2.1)),dZ hf (by exact(oe (b:=op) hy (od (by omega))).1),be.eq (by exact(oe (b:=op) hy (od (by omega))).2.2),rfl⟩
   refine Op.px 1 [(43,vQ G 1)]<|Op.l1 3 43 44 1 (vI e.bz) (ad.ag 0 rfl)<|Op.px 3 [(47,.bool (decide (e.bz<1)))]<|Op.wd (e.bz<1) 47 (fun tk=>?_) fun tl=>?_
   ·refine Op.pg 4 [(51,vT)]<|At.bX 51 5<|At.go 6 2 [(6,vN),(7,vF)] ?_
    have hh:=aF.zero 5 bn D none
    exact At.rt sG<|hR (ad.nl.fs [2,2] rfl).drop ⟨vN,[],a9,bM rfl (aS (by exact(oe (b:=op) hy (od (by omega))).2.1)),dZ hh (by exact(oe (b:=op) hy (od (by omega))).1),be.eq (by exact(oe (b:=op) hy (od (by omega))).2.2),rfl⟩
   refine Op.px 1 [(48,vQ G 1)]<|Op.l1 3 48 49 1 (vI e.bz) (ad.ag 0 rfl)<|Op.pg 4 [(51,.bool (decide (e.bz≥1099511627776)))]<|At.fd (e.bz≥1099511627776) 51 5 7 (fun tm=>?_) fun tp=>?_
   ·refine At.go 6 2 [(6,vN),(7,vF)] ?_
    have hj:=aF.zero 5 bn D none
    exact At.rt sG<|hR (ad.nl.fs [2,2] rfl).drop ⟨vN,[],a9,bM rfl (aS (by exact(oe (b:=op) hy (od (by omega))).2.1)),dZ hj (by exact(oe (b:=op) hy (od (by omega))).1),be.eq (by exact(oe (b:=op) hy (od (by omega))).2.2),rfl⟩
   have ck:∀(m:Nat) (a3:GH) (co:aG D a3) (z:Sp) (df:au) (dg:av) (hm:0<m) (hz:z=fR s e.bw) (e7:dH z) (hn:z.count=s.count) (hE:ic e=true) (hlt:(iM z e.Client).stamp<e.bz) (e8:bB a3 u z df) (e9:St h g (aM [a8]) a3 [[(G,Obj.cells #[vI e.Client,vI e.bz,vI e.bw,vL cf e.uI.length ch] 32 (0,0))],df] dg),At (bS prog B 9 f9 R) [] 16 [(0,vP u),(2,vL da op.length db),(4,vP G)] dg:=by
    intro m;induction m with
    |zero=>intros;omega
    |succ m tt=>
     intro a3 co z df dg hm hz e7 hn hE hlt e8 e9
     replace J:=J.mono co
     replace hP:=hP.mono co
     replace bd:=bd.mono co
     refine At.rp 8 3 [(74,vP u),(76,vQ u 4)] ?_
     obtain⟨ho,hp,hq,hu,hA,hB,hC,hD,hF,hG,hH,hI,hJ,hK,hL,hN⟩:=e8
     have fa:=St.un [hp,hu,hB,hD,hG] hH (e9.fs [1] rfl)
     refine Op.l1 3 76 77 4 (vI z.count) (fa.ag 0 rfl)<|Op.vq 78 (z.count+1)<|Op.px 2 [(80,vQ u 4)]<|Op.s1 3 80 78 4 (vI (z.count+1)) 0 #[vP ho,vP hq,vP hA,vI z.ax,vI (z.count+1),.map (some hC),.map (some hF)] fa zt fun tx fg=>Op.gt 17 ?_
     refine At.rp 8 3 [(83,vQ u 4)]<|Op.l1 3 83 84 4 (vI (z.count+1)) (fg.ag 0 rfl)<|Op.px 2 [(86,.agg #[vI 0,vI (z.count+1),vI 0,vS [],vN,vI 0,vI (-1),vI 0,vI 0,vN,vN])]<|Op.bx 87 59 86 #[vI 0,vI (z.count+1),vI 0,vS [],vN,vI 0,vI (-1),vI 0,vI 0,vN,vN] fg fun V tz fi=>Op.pg 18 [(9,vP V)] ?_
     refine At.rp 6 2 [(88,vP u),(89,vP G)]<|Op.l1 3 89 90 0 (vI e.Client) (fi.ag 7 rfl)<|Op.px 2 [(91,vL da op.length db),(92,vP V)] ?_
     obtain⟨tA,hO,hQ⟩:=St.bl (Q:=bB a3 u (⟨z.an,z.aD,z.az,z.ax,z.count+1,z.events,z.aI⟩:Sp)) 6 (fi.fs [6,6,6,6,6,6] rfl) ⟨_,_,_,_,_,_,_,_,_,_,rfl,hI,hJ,hK,hL,hN⟩
     have hS:=aF.nil 9 ew a3
     have hT:=aF.nil 69 cu a3
     obtain⟨tB,hV,hW⟩:=St.bl (Q:=fF a3 V (⟨0,z.count+1,0,⟨[],([]:aj),0,(-1),0,0⟩,([]:List aj),([]:List ah)⟩:Result)) 3 (hQ.nl.nl.fs [2,1,2,3] rfl) ⟨_,_,_,_,_,rfl,(ay.nil _ _ _),hS,hT⟩
     have dj:=hW.fs [1] rfl
     refine Op.cl (some 93) 2 dj (S4 _ _ _ dj.sub J u (⟨z.an,z.aD,z.az,z.ax,z.count+1,z.events,z.aI⟩:Sp) _ hO e.Client _ _ bd V (⟨0,z.count+1,0,⟨[],([]:aj),0,(-1),0,0⟩,([]:List aj),([]:List ah)⟩:Result) _ hV hP (by(try dsimp only)<;>exact e7.more) (by(try dsimp only)<;>omega) (St.pt 2 dj)) ?_
     rintro _ a4 _ tR hX hY ⟨tS,t0,rfl,hZ,h1,rfl⟩
     replace J:=J.mono hX
     refine Op.gt 19 ?_
     have fj:∀(m:Nat) (b8:GH) (fl:aG a4 b8) (w:Sp) (r:Result) (dk:au) (dl:au) (dp:av) (hm:0<m) (hw:w=KP z e.Client op) (hr:r=iZ z e.Client op) (a5:bB b8 u w dk) (fp:fF b8 V r dl) (fr:St h g (aM [a8]) b8 [dk,dl,[(G,Obj.cells #[vI e.Client,vI e.bz,vI e.bw,vL cf e.uI.length ch] 32 (0,0))]] dp),At (bS prog B 9 f9 R) [] 21 [(0,vP u),(4,vP G),(9,vP V)] dp:=by
      intro m;induction m with
      |zero=>intros;omega
      |succ m t1=>
       intro b8 fl w r dk dl dp hm hw hr a5 fp fr
       replace J:=J.mono fl
       refine At.rp 9 2 [(112,vP V)] ?_
       obtain⟨t2,v105,h2,t3,h3,h4,bi,ft,c3⟩:=fp
       obtain⟨h5,h6,rfl⟩:=bi.ai
       obtain⟨h7,h8,rfl⟩:=ft.ai
       obtain⟨a117,h9,rfl⟩:=c3.ai
       have fv:=St.un [h2,h3] h4 (fr.fs [1] rfl)
       refine Op.la 59 112 113 0 11 [vI r.Code,vI r.bg,vI r.At,vS r.af.aa,vL h5 r.af.Data.length h6,vI r.af.ak,vI r.af.aE,vI r.af.Next,vI r.af.aO,vL h7 r.bF.length h8,vL a117 r.aW.length h9] (fv.ag 0 rfl) ?_
       obtain⟨t4,ib,c4,dq⟩:=aF.freeze ft (fv.fs [1] rfl)
       replace bi:=bi.mono c4
       replace c3:=c3.mono c4
       replace J:=J.mono c4
       replace a5:=a5.mono c4
       obtain⟨t5,fw,c5,ih⟩:=aF.freeze c3 (ib.fs [1] rfl)
       replace bi:=bi.mono c5
       replace J:=J.mono c5
       replace dq:=dq.mono c5
       replace a5:=a5.mono c5
       refine Op.c0 (some 114) (Jj _ _ _ fw.sub J r _ bi _ dq _ ih (by((try dsimp only)<;>((rw[hr,hz];exact hx hE))))) fw ?_
       rintro _ fx _ t6 f0 ii ⟨v131,rfl,du,rfl⟩
       obtain⟨bj,bk,rfl⟩:=du.ai
       replace J:=J.mono f0
       replace a5:=a5.mono f0
       refine Op.pg 22 [(10,vL bj (((dy r).1).length) bk)] ?_
       obtain⟨t7,ik,t8,il,t9,io,ub,ip,dv,is,iv,i0,i1,i2,i3,i4⟩:=a5
       have c6:=St.un [ik,il,io,ip,is] iv (ii.fs [1] rfl)
       refine At.dw (fun _=>False) [(0,true),(1,true),(2,true),(4,true),(6,true),(8,true),(3,true),(5,true),(7,false),(9,true),(1010,false),(10,false)]<|Op.px 6 [(119,vQ u 6),(121,vP G),(123,vQ G 1),(125,vL bj (((dy r).1).length) bk)]<|Op.lf 77 119 6 120 1 (.map (some dv)) id (c6.ag 0 rfl)<|Op.lf 3 121 0 122 1 (vI e.Client) id (c6.ag 7 rfl)<|Op.l1 3 123 124 1 (vI e.bz) (c6.ag 7 rfl) ?_
       refine Op.px 1 [(126,.agg #[vI e.bz,vL bj (((dy r).1).length) bk])]<|Op.ba ?_
       obtain⟨ui,ul,us,rfl,i5,i6⟩:=i4
       refine Op.ms n9 77 120 122 126 e.Client (.agg #[vI e.bz,vL bj (((dy r).1).length) bk]) c6 5 i5 fun i7 i8 ut i9 f1=>?_
       have jf:=eS.mI (k:=e.Client) (a:=(⟨e.bz,(dy r).1⟩:f_)) (v:=.agg #[vI e.bz,vL bj (((dy r).1).length) bk]) i6 ⟨_,rfl,du⟩
       refine Op.gt 23<|At.rp 4 1 [(127,vL bj (((dy r).1).length) bk)]<|Op.c0 (some 128) (mc _ _ _ f1.sub J _ _ du (by(try dsimp only)<;>exact KJ _)) f1 ?_
       rintro _ jj _ u1 jn js ⟨u2,jt,rfl,f2,ca,rfl⟩;subst jj;clear jn
       obtain⟨a171,dC,rfl⟩:=f2.ai
       refine Op.pg 24 [(6,vL a171 ((((dy r).1)).length) dC),(7,vT)] ?_
       have j1:iK fx dv (b7 w.aI e.Client (⟨e.bz,(dy r).1⟩:f_)) [(dv,.map i7 i8)]:=⟨_,_,_,rfl,i9,jf⟩
       obtain⟨j2,kc,kd⟩:=St.bl (Q:=bB fx u (⟨w.an,w.aD,w.az,w.ax,w.count,w.events,(b7 w.aI e.Client (⟨e.bz,(dy r).1⟩:f_))⟩:Sp)) 6 (js.fs [6,6,6,6,6,6] rfl) ⟨_,_,_,_,_,_,_,_,_,_,rfl,i0,i1,i2,i3,j1⟩
       exact At.rt (.tuple #[vL a171 ((((dy r).1)).length) dC,vT])<|hR (kd.fs [1,1,3,3] rfl).drop.drop ⟨(vL a171 ((((dy r).1)).length) dC),jt,j2,bM rfl (aS (by exact(DK (b:=op) hz hE hlt hw hr).2.1)),dZ f2 (by exact(DK (b:=op) hz hE hlt hw hr).1),kc.eq (by exact(DK (b:=op) hz hE hlt hw hr).2.2),rfl⟩
     obtain⟨u3,kh,u4,kk,vd,kl,cb,km,ve,kv,kw,f3,f4,f5,kx,f6⟩:=hZ
     obtain⟨vo,vx,kA,vy,k0,k1,dE,dT,k2⟩:=h1
     obtain⟨f7,f8,rfl⟩:=dE.ai
     obtain⟨gc,ge,rfl⟩:=dT.ai
     obtain⟨v1,n212,rfl⟩:=k2.ai
     have d0:=St.un [kA,k0] k1 ((St.un [kh,kk,kl,km,kv] kw hY).fs [5,5,5,5,5,5,6] rfl)
     refine At.dw (fun _=>False) [(0,true),(1,true),(2,true),(3,true),(5,true),(4,true),(6,false),(7,false),(8,true),(9,true),(1010,false),(10,false)]<|Op.px 5 [(94,vP V),(97,vQ u 5),(99,vP G)]<|Op.lf 76 97 5 98 1 (.map (some cb)) id (d0.ag 3 rfl)<|Op.l1 3 99 100 0 (vI e.Client) (d0.ag 9 rfl) ?_
     obtain⟨v2,v3,v4,k3,k4,c8,k5⟩:=kx
     have d1:=St.un [k3] k4 (d0.fs [6,6,6,6,6,6,6,7] rfl)
     rcases k5.gy e.Client with ⟨d2,k6,d3⟩|⟨v5,ce,v6,v8,d2,k6,gg,k7,d3⟩
     ·refine Op.mn (.slice none 0 0) 76 98 100 101 e.Client (d1.ag 0 rfl) c8 d2<|Op.px 2 [(103,vQ V 10)]<|Op.ba<|Op.s1 42 103 101 10 vN 2 #[vI ((cx (⟨z.an,z.aD,z.az,z.ax,z.count+1,z.events,z.aI⟩:Sp) e.Client op (⟨0,z.count+1,0,⟨[],([]:aj),0,(-1),0,0⟩,([]:List aj),([]:List ah)⟩:Result)).Code),vI ((cx (⟨z.an,z.aD,z.az,z.ax,z.count+1,z.events,z.aI⟩:Sp) e.Client op (⟨0,z.count+1,0,⟨[],([]:aj),0,(-1),0,0⟩,([]:List aj),([]:List ah)⟩:Result)).bg),vI ((cx (⟨z.an,z.aD,z.az,z.ax,z.count+1,z.events,z.aI⟩:Sp) e.Client op (⟨0,z.count+1,0,⟨[],([]:aj),0,(-1),0,0⟩,([]:List aj),([]:List ah)⟩:Result)).At),vS ((cx (⟨z.an,z.aD,z.az,z.ax,z.count+1,z.events,z.aI⟩:Sp) e.Client op (⟨0,z.count+1,0,⟨[],([]:aj),0,(-1),0,0⟩,([]:List aj),([]:List ah)⟩:Result)).af.aa),vL f7 (((cx (⟨z.an,z.aD,z.az,z.ax,z.count+1,z.events,z.aI⟩:Sp) e.Client op (⟨0,z.count+1,0,⟨[],([]:aj),0,(-1),0,0⟩,([]:List aj),([]:List ah)⟩:Result)).af.Data).length) f8,vI ((cx (⟨z.an,z.aD,z.az,z.ax,z.count+1,z.events,z.aI⟩:Sp) e.Client op (⟨0,z.count+1,0,⟨[],([]:aj),0,(-1),0,0⟩,([]:List aj),([]:List ah)⟩:Result)).af.ak),vI ((cx (⟨z.an,z.aD,z.az,z.ax,z.count+1,z.events,z.aI⟩:Sp) e.Client op (⟨0,z.count+1,0,⟨[],([]:aj),0,(-1),0,0⟩,([]:List aj),([]:List ah)⟩:Result)).af.aE),vI ((cx (⟨z.an,z.aD,z.az,z.ax,z.count+1,z.events,z.aI⟩:Sp) e.Client op (⟨0,z.count+1,0,⟨[],([]:aj),0,(-1),0,0⟩,([]:List aj),([]:List ah)⟩:Result)).af.Next),vI ((cx (⟨z.an,z.aD,z.az,z.ax,z.count+1,z.events,z.aI⟩:Sp) e.Client op (⟨0,z.count+1,0,⟨[],([]:aj),0,(-1),0,0⟩,([]:List aj),([]:List ah)⟩:Result)).af.aO),vL gc (((cx (⟨z.an,z.aD,z.az,z.ax,z.count+1,z.events,z.aI⟩:Sp) e.Client op (⟨0,z.count+1,0,⟨[],([]:aj),0,(-1),0,0⟩,([]:List aj),([]:List ah)⟩:Result)).bF).length) ge,vN] d1 zt fun v9 d4=>Op.gt 20 ?_
      refine At.dw (fun _=>False) [(0,true),(1,true),(2,true),(4,true),(3,true),(5,false),(1006,false),(6,false)]<|Op.px 4 [(106,vQ u 5),(108,vP G)]<|Op.lf 76 106 5 107 1 (.map (some cb)) id (d4.ag 5 rfl)<|Op.l1 3 108 109 0 (vI e.Client) (d4.ag 10 rfl)<|Op.ba ?_
      refine Op.yY (d:=.int .i64) (z:=.slice none 0 0) (mt:=76) (kt:=3) (x:=107) (ix:=109) (dst:=none) (k:=e.Client) (by kernel_rfl) (by kernel_rfl) iu (by kernel_rfl) (by kernel_rfl) d4 0 rfl c8 zt fun wa wc k8 lb=>?_
      have lc:=d3.2 _ (aG.refl _)
      refine Op.gt 21 ?_
      obtain⟨wi,lh,li⟩:=St.bl (Q:=gM a4 cb (fh ((cV (⟨z.an,z.aD,z.az,z.ax,z.count+1,z.events,z.aI⟩:Sp) e.Client op).events) e.Client)) 2 lb ⟨_,_,_,_,rfl,k8,lc⟩
      obtain⟨wn,lj,lk⟩:=St.bl (Q:=bB a4 u (⟨(cV (⟨z.an,z.aD,z.az,z.ax,z.count+1,z.events,z.aI⟩:Sp) e.Client op).an,(cV (⟨z.an,z.aD,z.az,z.ax,z.count+1,z.events,z.aI⟩:Sp) e.Client op).aD,(cV (⟨z.an,z.aD,z.az,z.ax,z.count+1,z.events,z.aI⟩:Sp) e.Client op).az,(cV (⟨z.an,z.aD,z.az,z.ax,z.count+1,z.events,z.aI⟩:Sp) e.Client op).ax,(cV (⟨z.an,z.aD,z.az,z.ax,z.count+1,z.events,z.aI⟩:Sp) e.Client op).count,(fh ((cV (⟨z.an,z.aD,z.az,z.ax,z.count+1,z.events,z.aI⟩:Sp) e.Client op).events) e.Client),(cV (⟨z.an,z.aD,z.az,z.ax,z.count+1,z.events,z.aI⟩:Sp) e.Client op).aI⟩:Sp)) 6 (li.fs [3,3,3,8,4,8,8,8,8] rfl) ⟨_,_,_,_,_,_,_,_,_,_,rfl,f3,f4,f5,lh,f6⟩
      have ll:=aF.nil 69 cu a4
      obtain⟨wp,lm,ln⟩:=St.bl (Q:=fF a4 V (⟨(cx (⟨z.an,z.aD,z.az,z.ax,z.count+1,z.events,z.aI⟩:Sp) e.Client op (⟨0,z.count+1,0,⟨[],([]:aj),0,(-1),0,0⟩,([]:List aj),([]:List ah)⟩:Result)).Code,(cx (⟨z.an,z.aD,z.az,z.ax,z.count+1,z.events,z.aI⟩:Sp) e.Client op (⟨0,z.count+1,0,⟨[],([]:aj),0,(-1),0,0⟩,([]:List aj),([]:List ah)⟩:Result)).bg,(cx (⟨z.an,z.aD,z.az,z.ax,z.count+1,z.events,z.aI⟩:Sp) e.Client op (⟨0,z.count+1,0,⟨[],([]:aj),0,(-1),0,0⟩,([]:List aj),([]:List ah)⟩:Result)).At,⟨(cx (⟨z.an,z.aD,z.az,z.ax,z.count+1,z.events,z.aI⟩:Sp) e.Client op (⟨0,z.count+1,0,⟨[],([]:aj),0,(-1),0,0⟩,([]:List aj),([]:List ah)⟩:Result)).af.aa,(cx (⟨z.an,z.aD,z.az,z.ax,z.count+1,z.events,z.aI⟩:Sp) e.Client op (⟨0,z.count+1,0,⟨[],([]:aj),0,(-1),0,0⟩,([]:List aj),([]:List ah)⟩:Result)).af.Data,(cx (⟨z.an,z.aD,z.az,z.ax,z.count+1,z.events,z.aI⟩:Sp) e.Client op (⟨0,z.count+1,0,⟨[],([]:aj),0,(-1),0,0⟩,([]:List aj),([]:List ah)⟩:Result)).af.ak,(cx (⟨z.an,z.aD,z.az,z.ax,z.count+1,z.events,z.aI⟩:Sp) e.Client op (⟨0,z.count+1,0,⟨[],([]:aj),0,(-1),0,0⟩,([]:List aj),([]:List ah)⟩:Result)).af.aE,(cx (⟨z.an,z.aD,z.az,z.ax,z.count+1,z.events,z.aI⟩:Sp) e.Client op (⟨0,z.count+1,0,⟨[],([]:aj),0,(-1),0,0⟩,([]:List aj),([]:List ah)⟩:Result)).af.Next,(cx (⟨z.an,z.aD,z.az,z.ax,z.count+1,z.events,z.aI⟩:Sp) e.Client op (⟨0,z.count+1,0,⟨[],([]:aj),0,(-1),0,0⟩,([]:List aj),([]:List ah)⟩:Result)).af.aO⟩,(cx (⟨z.an,z.aD,z.az,z.ax,z.count+1,z.events,z.aI⟩:Sp) e.Client op (⟨0,z.count+1,0,⟨[],([]:aj),0,(-1),0,0⟩,([]:List aj),([]:List ah)⟩:Result)).bF,([]:List ah)⟩:Result)) 3 (lk.nl.fs [1,1,3,3] rfl) ⟨_,_,_,_,_,rfl,dE,dT,ll⟩
      exact At.ke (fj _ _ (by repeat (first|assumption|exact aG.refl _|apply aG.trans)) (⟨(cV (⟨z.an,z.aD,z.az,z.ax,z.count+1,z.events,z.aI⟩:Sp) e.Client op).an,(cV (⟨z.an,z.aD,z.az,z.ax,z.count+1,z.events,z.aI⟩:Sp) e.Client op).aD,(cV (⟨z.an,z.aD,z.az,z.ax,z.count+1,z.events,z.aI⟩:Sp) e.Client op).az,(cV (⟨z.an,z.aD,z.az,z.ax,z.count+1,z.events,z.aI⟩:Sp) e.Client op).ax,(cV (⟨z.an,z.aD,z.az,z.ax,z.count+1,z.events,z.aI⟩:Sp) e.Client op).count,(fh ((cV (⟨z.an,z.aD,z.az,z.ax,z.count+1,z.events,z.aI⟩:Sp) e.Client op).events) e.Client),(cV (⟨z.an,z.aD,z.az,z.ax,z.count+1,z.events,z.aI⟩:Sp) e.Client op).aI⟩:Sp) (⟨(cx (⟨z.an,z.aD,z.az,z.ax,z.count+1,z.events,z.aI⟩:Sp) e.Client op (⟨0,z.count+1,0,⟨[],([]:aj),0,(-1),0,0⟩,([]:List aj),([]:List ah)⟩:Result)).Code,(cx (⟨z.an,z.aD,z.az,z.ax,z.count+1,z.events,z.aI⟩:Sp) e.Client op (⟨0,z.count+1,0,⟨[],([]:aj),0,(-1),0,0⟩,([]:List aj),([]:List ah)⟩:Result)).bg,(cx (⟨z.an,z.aD,z.az,z.ax,z.count+1,z.events,z.aI⟩:Sp) e.Client op (⟨0,z.count+1,0,⟨[],([]:aj),0,(-1),0,0⟩,([]:List aj),([]:List ah)⟩:Result)).At,⟨(cx (⟨z.an,z.aD,z.az,z.ax,z.count+1,z.events,z.aI⟩:Sp) e.Client op (⟨0,z.count+1,0,⟨[],([]:aj),0,(-1),0,0⟩,([]:List aj),([]:List ah)⟩:Result)).af.aa,(cx (⟨z.an,z.aD,z.az,z.ax,z.count+1,z.events,z.aI⟩:Sp) e.Client op (⟨0,z.count+1,0,⟨[],([]:aj),0,(-1),0,0⟩,([]:List aj),([]:List ah)⟩:Result)).af.Data,(cx (⟨z.an,z.aD,z.az,z.ax,z.count+1,z.events,z.aI⟩:Sp) e.Client op (⟨0,z.count+1,0,⟨[],([]:aj),0,(-1),0,0⟩,([]:List aj),([]:List ah)⟩:Result)).af.ak,(cx (⟨z.an,z.aD,z.az,z.ax,z.count+1,z.events,z.aI⟩:Sp) e.Client op (⟨0,z.count+1,0,⟨[],([]:aj),0,(-1),0,0⟩,([]:List aj),([]:List ah)⟩:Result)).af.aE,(cx (⟨z.an,z.aD,z.az,z.ax,z.count+1,z.events,z.aI⟩:Sp) e.Client op (⟨0,z.count+1,0,⟨[],([]:aj),0,(-1),0,0⟩,([]:List aj),([]:List ah)⟩:Result)).af.Next,(cx (⟨z.an,z.aD,z.az,z.ax,z.count+1,z.events,z.aI⟩:Sp) e.Client op (⟨0,z.count+1,0,⟨[],([]:aj),0,(-1),0,0⟩,([]:List aj),([]:List ah)⟩:Result)).af.aO⟩,(cx (⟨z.an,z.aD,z.az,z.ax,z.count+1,z.events,z.aI⟩:Sp) e.Client op (⟨0,z.count+1,0,⟨[],([]:aj),0,(-1),0,0⟩,([]:List aj),([]:List ah)⟩:Result)).bF,([]:List ah)⟩:Result) _ _ _ (bK _) (by rfl) (by exact Ty ‹_›) lj lm ((ln.fs [1,2] rfl).drop))
     obtain⟨d5,d6,rfl⟩:=gg.ai
     have gk:=St.nW k7 (d1.fs [1] rfl)
     refine Op.mk (.slice none 0 0) 76 98 100 101 e.Client (vL d5 ce.length d6) (gk.ag 2 rfl) c8 d2<|Op.px 2 [(103,vQ V 10)]<|Op.ba<|Op.s1 42 103 101 10 (vL d5 ce.length d6) 3 #[vI ((cx (⟨z.an,z.aD,z.az,z.ax,z.count+1,z.events,z.aI⟩:Sp) e.Client op (⟨0,z.count+1,0,⟨[],([]:aj),0,(-1),0,0⟩,([]:List aj),([]:List ah)⟩:Result)).Code),vI ((cx (⟨z.an,z.aD,z.az,z.ax,z.count+1,z.events,z.aI⟩:Sp) e.Client op (⟨0,z.count+1,0,⟨[],([]:aj),0,(-1),0,0⟩,([]:List aj),([]:List ah)⟩:Result)).bg),vI ((cx (⟨z.an,z.aD,z.az,z.ax,z.count+1,z.events,z.aI⟩:Sp) e.Client op (⟨0,z.count+1,0,⟨[],([]:aj),0,(-1),0,0⟩,([]:List aj),([]:List ah)⟩:Result)).At),vS ((cx (⟨z.an,z.aD,z.az,z.ax,z.count+1,z.events,z.aI⟩:Sp) e.Client op (⟨0,z.count+1,0,⟨[],([]:aj),0,(-1),0,0⟩,([]:List aj),([]:List ah)⟩:Result)).af.aa),vL f7 (((cx (⟨z.an,z.aD,z.az,z.ax,z.count+1,z.events,z.aI⟩:Sp) e.Client op (⟨0,z.count+1,0,⟨[],([]:aj),0,(-1),0,0⟩,([]:List aj),([]:List ah)⟩:Result)).af.Data).length) f8,vI ((cx (⟨z.an,z.aD,z.az,z.ax,z.count+1,z.events,z.aI⟩:Sp) e.Client op (⟨0,z.count+1,0,⟨[],([]:aj),0,(-1),0,0⟩,([]:List aj),([]:List ah)⟩:Result)).af.ak),vI ((cx (⟨z.an,z.aD,z.az,z.ax,z.count+1,z.events,z.aI⟩:Sp) e.Client op (⟨0,z.count+1,0,⟨[],([]:aj),0,(-1),0,0⟩,([]:List aj),([]:List ah)⟩:Result)).af.aE),vI ((cx (⟨z.an,z.aD,z.az,z.ax,z.count+1,z.events,z.aI⟩:Sp) e.Client op (⟨0,z.count+1,0,⟨[],([]:aj),0,(-1),0,0⟩,([]:List aj),([]:List ah)⟩:Result)).af.Next),vI ((cx (⟨z.an,z.aD,z.az,z.ax,z.count+1,z.events,z.aI⟩:Sp) e.Client op (⟨0,z.count+1,0,⟨[],([]:aj),0,(-1),0,0⟩,([]:List aj),([]:List ah)⟩:Result)).af.aO),vL gc (((cx (⟨z.an,z.aD,z.az,z.ax,z.count+1,z.events,z.aI⟩:Sp) e.Client op (⟨0,z.count+1,0,⟨[],([]:aj),0,(-1),0,0⟩,([]:List aj),([]:List ah)⟩:Result)).bF).length) ge,vL d5 ce.length d6] gk zt fun wr d7=>Op.gt 20 ?_
     refine At.dw (fun _=>False) [(0,true),(1,true),(2,true),(4,true),(3,true),(5,false),(1006,false),(6,false)]<|Op.px 4 [(106,vQ u 5),(108,vP G)]<|Op.lf 76 106 5 107 1 (.map (some cb)) id (d7.ag 6 rfl)<|Op.l1 3 108 109 0 (vI e.Client) (d7.ag 11 rfl)<|Op.ba ?_
     refine Op.yY (d:=.int .i64) (z:=.slice none 0 0) (mt:=76) (kt:=3) (x:=107) (ix:=109) (dst:=none) (k:=e.Client) (by kernel_rfl) (by kernel_rfl) iu (by kernel_rfl) (by kernel_rfl) d7 2 rfl c8 zt fun wt ww lr lv=>?_
     have lw:=d3.2 _ (aG.refl _)
     refine Op.gt 21 ?_
     obtain⟨wx,lx,ly⟩:=St.bl (Q:=gM a4 cb (fh ((cV (⟨z.an,z.aD,z.az,z.ax,z.count+1,z.events,z.aI⟩:Sp) e.Client op).events) e.Client)) 2 (lv.fs [1,2] rfl) ⟨_,_,_,_,rfl,lr,lw⟩
     obtain⟨wy,lA,lL⟩:=St.bl (Q:=bB a4 u (⟨(cV (⟨z.an,z.aD,z.az,z.ax,z.count+1,z.events,z.aI⟩:Sp) e.Client op).an,(cV (⟨z.an,z.aD,z.az,z.ax,z.count+1,z.events,z.aI⟩:Sp) e.Client op).aD,(cV (⟨z.an,z.aD,z.az,z.ax,z.count+1,z.events,z.aI⟩:Sp) e.Client op).az,(cV (⟨z.an,z.aD,z.az,z.ax,z.count+1,z.events,z.aI⟩:Sp) e.Client op).ax,(cV (⟨z.an,z.aD,z.az,z.ax,z.count+1,z.events,z.aI⟩:Sp) e.Client op).count,(fh ((cV (⟨z.an,z.aD,z.az,z.ax,z.count+1,z.events,z.aI⟩:Sp) e.Client op).events) e.Client),(cV (⟨z.an,z.aD,z.az,z.ax,z.count+1,z.events,z.aI⟩:Sp) e.Client op).aI⟩:Sp)) 6 (ly.fs [4,4,4,4,9,5,9,9,9,9] rfl) ⟨_,_,_,_,_,_,_,_,_,_,rfl,f3,f4,f5,lx,f6⟩
     obtain⟨w0,lO,l0⟩:=St.bl (Q:=fF a4 V (⟨(cx (⟨z.an,z.aD,z.az,z.ax,z.count+1,z.events,z.aI⟩:Sp) e.Client op (⟨0,z.count+1,0,⟨[],([]:aj),0,(-1),0,0⟩,([]:List aj),([]:List ah)⟩:Result)).Code,(cx (⟨z.an,z.aD,z.az,z.ax,z.count+1,z.events,z.aI⟩:Sp) e.Client op (⟨0,z.count+1,0,⟨[],([]:aj),0,(-1),0,0⟩,([]:List aj),([]:List ah)⟩:Result)).bg,(cx (⟨z.an,z.aD,z.az,z.ax,z.count+1,z.events,z.aI⟩:Sp) e.Client op (⟨0,z.count+1,0,⟨[],([]:aj),0,(-1),0,0⟩,([]:List aj),([]:List ah)⟩:Result)).At,⟨(cx (⟨z.an,z.aD,z.az,z.ax,z.count+1,z.events,z.aI⟩:Sp) e.Client op (⟨0,z.count+1,0,⟨[],([]:aj),0,(-1),0,0⟩,([]:List aj),([]:List ah)⟩:Result)).af.aa,(cx (⟨z.an,z.aD,z.az,z.ax,z.count+1,z.events,z.aI⟩:Sp) e.Client op (⟨0,z.count+1,0,⟨[],([]:aj),0,(-1),0,0⟩,([]:List aj),([]:List ah)⟩:Result)).af.Data,(cx (⟨z.an,z.aD,z.az,z.ax,z.count+1,z.events,z.aI⟩:Sp) e.Client op (⟨0,z.count+1,0,⟨[],([]:aj),0,(-1),0,0⟩,([]:List aj),([]:List ah)⟩:Result)).af.ak,(cx (⟨z.an,z.aD,z.az,z.ax,z.count+1,z.events,z.aI⟩:Sp) e.Client op (⟨0,z.count+1,0,⟨[],([]:aj),0,(-1),0,0⟩,([]:List aj),([]:List ah)⟩:Result)).af.aE,(cx (⟨z.an,z.aD,z.az,z.ax,z.count+1,z.events,z.aI⟩:Sp) e.Client op (⟨0,z.count+1,0,⟨[],([]:aj),0,(-1),0,0⟩,([]:List aj),([]:List ah)⟩:Result)).af.Next,(cx (⟨z.an,z.aD,z.az,z.ax,z.count+1,z.events,z.aI⟩:Sp) e.Client op (⟨0,z.count+1,0,⟨[],([]:aj),0,(-1),0,0⟩,([]:List aj),([]:List ah)⟩:Result)).af.aO⟩,(cx (⟨z.an,z.aD,z.az,z.ax,z.count+1,z.events,z.aI⟩:Sp) e.Client op (⟨0,z.count+1,0,⟨[],([]:aj),0,(-1),0,0⟩,([]:List aj),([]:List ah)⟩:Result)).bF,ce⟩:Result)) 3 (lL.fs [1,3,3] rfl) ⟨_,_,_,_,_,rfl,dE,dT,gg⟩
     exact At.ke (fj _ _ (by repeat (first|assumption|exact aG.refl _|apply aG.trans)) (⟨(cV (⟨z.an,z.aD,z.az,z.ax,z.count+1,z.events,z.aI⟩:Sp) e.Client op).an,(cV (⟨z.an,z.aD,z.az,z.ax,z.count+1,z.events,z.aI⟩:Sp) e.Client op).aD,(cV (⟨z.an,z.aD,z.az,z.ax,z.count+1,z.events,z.aI⟩:Sp) e.Client op).az,(cV (⟨z.an,z.aD,z.az,z.ax,z.count+1,z.events,z.aI⟩:Sp) e.Client op).ax,(cV (⟨z.an,z.aD,z.az,z.ax,z.count+1,z.events,z.aI⟩:Sp) e.Client op).count,(fh ((cV (⟨z.an,z.aD,z.az,z.ax,z.count+1,z.events,z.aI⟩:Sp) e.Client op).events) e.Client),(cV (⟨z.an,z.aD,z.az,z.ax,z.count+1,z.events,z.aI⟩:Sp) e.Client op).aI⟩:Sp) (⟨(cx (⟨z.an,z.aD,z.az,z.ax,z.count+1,z.events,z.aI⟩:Sp) e.Client op (⟨0,z.count+1,0,⟨[],([]:aj),0,(-1),0,0⟩,([]:List aj),([]:List ah)⟩:Result)).Code,(cx (⟨z.an,z.aD,z.az,z.ax,z.count+1,z.events,z.aI⟩:Sp) e.Client op (⟨0,z.count+1,0,⟨[],([]:aj),0,(-1),0,0⟩,([]:List aj),([]:List ah)⟩:Result)).bg,(cx (⟨z.an,z.aD,z.az,z.ax,z.count+1,z.events,z.aI⟩:Sp) e.Client op (⟨0,z.count+1,0,⟨[],([]:aj),0,(-1),0,0⟩,([]:List aj),([]:List ah)⟩:Result)).At,⟨(cx (⟨z.an,z.aD,z.az,z.ax,z.count+1,z.events,z.aI⟩:Sp) e.Client op (⟨0,z.count+1,0,⟨[],([]:aj),0,(-1),0,0⟩,([]:List aj),([]:List ah)⟩:Result)).af.aa,(cx (⟨z.an,z.aD,z.az,z.ax,z.count+1,z.events,z.aI⟩:Sp) e.Client op (⟨0,z.count+1,0,⟨[],([]:aj),0,(-1),0,0⟩,([]:List aj),([]:List ah)⟩:Result)).af.Data,(cx (⟨z.an,z.aD,z.az,z.ax,z.count+1,z.events,z.aI⟩:Sp) e.Client op (⟨0,z.count+1,0,⟨[],([]:aj),0,(-1),0,0⟩,([]:List aj),([]:List ah)⟩:Result)).af.ak,(cx (⟨z.an,z.aD,z.az,z.ax,z.count+1,z.events,z.aI⟩:Sp) e.Client op (⟨0,z.count+1,0,⟨[],([]:aj),0,(-1),0,0⟩,([]:List aj),([]:List ah)⟩:Result)).af.aE,(cx (⟨z.an,z.aD,z.az,z.ax,z.count+1,z.events,z.aI⟩:Sp) e.Client op (⟨0,z.count+1,0,⟨[],([]:aj),0,(-1),0,0⟩,([]:List aj),([]:List ah)⟩:Result)).af.Next,(cx (⟨z.an,z.aD,z.az,z.ax,z.count+1,z.events,z.aI⟩:Sp) e.Client op (⟨0,z.count+1,0,⟨[],([]:aj),0,(-1),0,0⟩,([]:List aj),([]:List ah)⟩:Result)).af.aO⟩,(cx (⟨z.an,z.aD,z.az,z.ax,z.count+1,z.events,z.aI⟩:Sp) e.Client op (⟨0,z.count+1,0,⟨[],([]:aj),0,(-1),0,0⟩,([]:List aj),([]:List ah)⟩:Result)).bF,ce⟩:Result) _ _ _ (bK _) (by rfl) (by exact Tz ‹_›) lA lO ((l0.fs [1,2] rfl).drop))
   obtain⟨w1,l2,w2,l3,w3,l4,w7,l8,I,ma,md,X,Y,Z,ab,gn⟩:=be
   have ae:=St.un [l2,l3,l4,l8,ma] md (ad.fs [1] rfl)
   refine At.gb (by kernel_rfl) (fun _=>False) [(0,true),(1,true),(2,true),(4,true),(3,true),(5,true)] [(6,false),(7,false),(1008,false),(8,false)] [(7,false),(6,false),(1008,false),(8,false)] (by kernel_rfl) ?_ ?_
   ·show Op _ _ _ _ _ [(0,true),(1,true),(2,true),(4,true),(3,true),(5,true),(6,false),(7,false),(1008,false),(8,false)] _ _
    refine Op.px 4 [(54,vQ u 6),(56,vP G)]<|Op.lf 77 54 6 55 1 (.map (some I)) id (ae.ag 0 rfl)<|Op.lf 3 56 0 57 1 (vI e.Client) id (ae.ag 6 rfl) ?_
    obtain⟨bm,bo,xa,rfl,a6,bb⟩:=gn
    rcases bb.gy e.Client with ⟨d8,mf⟩|⟨xc,O,d8,mf,mi⟩
    ·refine Op.mn n9 77 55 57 58 e.Client (ae.ag 5 rfl) a6 d8<|Op.al 8 84 #[vI 0,vN] ae fun d9 xf ml=>Op.ba<|Op.sg 84 8 58 0 0 #[vI 0,vN] ml zt fun xi am=>Op.gt 8 ?_
     refine At.rp 6 1 [(60,vQ G 1)]<|Op.l1 3 60 61 1 (vI e.bz) (am.ag 7 rfl)<|Op.px 1 [(62,vP d9)]<|Op.l1 3 62 63 0 (vI 0) (am.ag 0 rfl)<|Op.pg 9 [(59,.bool (decide (e.bz<0)))] ?_
     refine At.fd (e.bz<0) 59 10 12 (fun xn=>?_) fun xr=>?_
     ·refine At.go 11 2 [(6,vN),(7,vF)] ?_
      have mp:=aF.zero 5 bn D none
      have mx:iK D I y.aI [(I,.map bm bo)]:=⟨_,_,_,rfl,a6,bb⟩
      obtain⟨my,m0,m1⟩:=St.bl (Q:=bB D u y) 6 (am.nl.fs [1,1,7,7,7,7,7,7] rfl) ⟨_,_,_,_,_,_,_,_,_,_,rfl,X,Y,Z,ab,mx⟩
      exact At.rt sG<|hR (m1.fs [1,1,3,3] rfl).drop.drop ⟨vN,[],my,bM rfl (aS (by exact(vC (b:=op) hy (gW ‹_› ‹_› ‹_› ‹_›) ‹_› ‹_›).2.1)),dZ mp (by exact(vC (b:=op) hy (gW ‹_› ‹_› ‹_› ‹_›) ‹_› ‹_›).1),m0.eq (by exact(vC (b:=op) hy (gW ‹_› ‹_› ‹_› ‹_›) ‹_› ‹_›).2.2),rfl⟩
     refine At.rp 6 1 [(66,vQ G 1)]<|Op.l1 3 66 67 1 (vI e.bz) (am.ag 7 rfl)<|Op.px 1 [(68,vP d9)]<|Op.l1 3 68 69 0 (vI 0) (am.ag 0 rfl)<|Op.pg 13 [(65,.bool (e.bz==0))] ?_
     refine At.fd (e.bz=0) 65 14 16 (fun xt=>?_) fun xv=>?_
     ·refine At.rp 5 1 [(71,vQ d9 1)]<|Op.l1 28 71 72 1 vN (am.ag 0 rfl)<|Op.c0 (some 73) (mc _ _ _ am.sub J _ _ (ay.nil _ _ _) (by(try dsimp only)<;>omega)) am ?_
      rintro _ m2 _ yi m3 m4 ⟨yk,m5,rfl,gs,ca,rfl⟩;subst m2;clear m3
      obtain⟨ea,n331,rfl⟩:=gs.ai
      refine Op.pg 11 [(6,vL ea ((([]:aj)).length) n331),(7,vF)] ?_
      have m6:iK D I y.aI [(I,.map bm bo)]:=⟨_,_,_,rfl,a6,bb⟩
      obtain⟨m7,m8,m9⟩:=St.bl (Q:=bB D u y) 6 (m4.fs [1,1,7,7,7,7,7,7] rfl) ⟨_,_,_,_,_,_,_,_,_,_,rfl,X,Y,Z,ab,m6⟩
      exact At.rt (.tuple #[vL ea ((([]:aj)).length) n331,vF])<|hR (m9.fs [1,1,3,3] rfl).drop.drop ⟨(vL ea ((([]:aj)).length) n331),m5,m7,bM rfl (aS (by exact(vE (b:=op) hy (gW ‹_› ‹_› ‹_› ‹_›) ‹_› ‹_›).2.1)),dZ gs (by exact(vE (b:=op) hy (gW ‹_› ‹_› ‹_› ‹_›) ‹_› ‹_›).1),m8.eq (by exact(vE (b:=op) hy (gW ‹_› ‹_› ‹_› ‹_›) ‹_› ‹_›).2.2),rfl⟩
     have na:iK D I y.aI [(I,.map bm bo)]:=⟨_,_,_,rfl,a6,bb⟩
     obtain⟨yn,nb,nd⟩:=St.bl (Q:=bB D u y) 6 (am.fs [6,6,6,6,6,6] rfl) ⟨_,_,_,_,_,_,_,_,_,_,rfl,X,Y,Z,ab,na⟩
     exact At.ke (ck _ _ (by repeat (first|assumption|exact aG.refl _|apply aG.trans)) y _ _ (bK _) (by exact hy) (by exact b5) (by exact b6) (by exact(gW ‹_› ‹_› ‹_› ‹_›)) (by exact KL ‹_› ‹_› ‹_›) nb ((nd.fs [2,2] rfl).drop))
    obtain⟨yr,rfl,g1⟩:=mi
    obtain⟨eb,ed,rfl⟩:=g1.ai
    refine Op.mk n9 77 55 57 58 e.Client (.agg #[vI O.stamp,vL eb (O.data.length) ed]) (ae.ag 5 rfl) a6 d8<|Op.al 8 84 #[vI 0,vN] ae fun ee yv nf=>Op.ba<|Op.sg 84 8 58 0 0 #[vI O.stamp,vL eb (O.data.length) ed] nf zt fun y7 ar=>Op.gt 8 ?_
    refine At.rp 6 1 [(60,vQ G 1)]<|Op.l1 3 60 61 1 (vI e.bz) (ar.ag 7 rfl)<|Op.px 1 [(62,vP ee)]<|Op.l1 3 62 63 0 (vI O.stamp) (ar.ag 0 rfl)<|Op.pg 9 [(59,.bool (decide (e.bz<O.stamp)))] ?_
    refine At.fd (e.bz<O.stamp) 59 10 12 (fun y8=>?_) fun z1=>?_
    ·refine At.go 11 2 [(6,vN),(7,vF)] ?_
     have nm:=aF.zero 5 bn D none
     have nn:iK D I y.aI [(I,.map bm bo)]:=⟨_,_,_,rfl,a6,bb⟩
     obtain⟨no,np,nu⟩:=St.bl (Q:=bB D u y) 6 (ar.nl.fs [1,1,7,7,7,7,7,7] rfl) ⟨_,_,_,_,_,_,_,_,_,_,rfl,X,Y,Z,ab,nn⟩
     exact At.rt sG<|hR (nu.fs [1,1,3,3] rfl).drop.drop ⟨vN,[],no,bM rfl (aS (by exact(vD (b:=op) hy (gW ‹_› ‹_› ‹_› ‹_›) ‹_› ‹_›).2.1)),dZ nm (by exact(vD (b:=op) hy (gW ‹_› ‹_› ‹_› ‹_›) ‹_› ‹_›).1),np.eq (by exact(vD (b:=op) hy (gW ‹_› ‹_› ‹_› ‹_›) ‹_› ‹_›).2.2),rfl⟩
    refine At.rp 6 1 [(66,vQ G 1)]<|Op.l1 3 66 67 1 (vI e.bz) (ar.ag 7 rfl)<|Op.px 1 [(68,vP ee)]<|Op.l1 3 68 69 0 (vI O.stamp) (ar.ag 0 rfl)<|Op.pg 13 [(65,.bool (e.bz==O.stamp))] ?_
    refine At.fd (e.bz=O.stamp) 65 14 16 (fun z2=>?_) fun z3=>?_
    ·refine At.rp 5 1 [(71,vQ ee 1)]<|Op.l1 28 71 72 1 (vL eb (O.data.length) ed) (ar.ag 0 rfl)<|Op.c0 (some 73) (mc _ _ _ ar.sub J _ _ g1 (by((try dsimp only)<;>(exact KK e4 dd ‹_›)))) ar ?_
     rintro _ nx _ z4 nz n0 ⟨z5,n3,rfl,g2,ca,rfl⟩;subst nx;clear nz
     obtain⟨ef,eh,rfl⟩:=g2.ai
     refine Op.pg 11 [(6,vL ef (O.data.length) eh),(7,vF)] ?_
     have oi:iK D I y.aI [(I,.map bm bo)]:=⟨_,_,_,rfl,a6,bb⟩
     obtain⟨oj,ol,or⟩:=St.bl (Q:=bB D u y) 6 (n0.fs [1,1,7,7,7,7,7,7] rfl) ⟨_,_,_,_,_,_,_,_,_,_,rfl,X,Y,Z,ab,oi⟩
     exact At.rt (.tuple #[vL ef (O.data.length) eh,vF])<|hR (or.fs [1,1,3,3] rfl).drop.drop ⟨(vL ef (O.data.length) eh),n3,oj,bM rfl (aS (by exact(vG (b:=op) hy (gW ‹_› ‹_› ‹_› ‹_›) ‹_› ‹_›).2.1)),dZ g2 (by exact(vG (b:=op) hy (gW ‹_› ‹_› ‹_› ‹_›) ‹_› ‹_›).1),ol.eq (by exact(vG (b:=op) hy (gW ‹_› ‹_› ‹_› ‹_›) ‹_› ‹_›).2.2),rfl⟩
    have ow:iK D I y.aI [(I,.map bm bo)]:=⟨_,_,_,rfl,a6,bb⟩
    obtain⟨z6,o3,o4⟩:=St.bl (Q:=bB D u y) 6 (ar.fs [6,6,6,6,6,6] rfl) ⟨_,_,_,_,_,_,_,_,_,_,rfl,X,Y,Z,ab,ow⟩
    exact At.ke (ck _ _ (by repeat (first|assumption|exact aG.refl _|apply aG.trans)) y _ _ (bK _) (by exact hy) (by exact b5) (by exact b6) (by exact(gW ‹_› ‹_› ‹_› ‹_›)) (by exact KM ‹_› ‹_› ‹_›) o3 ((o4.fs [2,2] rfl).drop))
   show Op _ _ _ _ _ [(0,true),(1,true),(2,true),(4,true),(3,true),(5,true),(7,false),(6,false),(1008,false),(8,false)] _ _
   refine Op.px 4 [(54,vQ u 6),(56,vP G)]<|Op.lf 77 54 6 55 1 (.map (some I)) id (ae.ag 0 rfl)<|Op.lf 3 56 0 57 1 (vI e.Client) id (ae.ag 6 rfl)<|Op.al 8 84 #[vI 0,vN] ae fun bs z7 c9=>?_
   obtain⟨bt,b3,z8,rfl,a7,bc⟩:=gn
   rcases bc.gy e.Client with ⟨ej,pa⟩|⟨z9,U,ej,pa,pb⟩
   ·refine Op.mn n9 77 55 57 58 e.Client (c9.ag 6 rfl) a7 ej<|Op.ba<|Op.sg 84 8 58 0 0 #[vI 0,vN] c9 zt fun A0 aw=>Op.gt 8<|At.rp 6 1 [(60,vQ G 1)] ?_
    refine Op.l1 3 60 61 1 (vI e.bz) (aw.ag 7 rfl)<|Op.px 1 [(62,vP bs)]<|Op.l1 3 62 63 0 (vI 0) (aw.ag 0 rfl)<|Op.pg 9 [(59,.bool (decide (e.bz<0)))]<|At.fd (e.bz<0) 59 10 12 (fun A1=>?_) fun CH=>?_
    ·refine At.go 11 2 [(6,vN),(7,vF)] ?_
     have pc:=aF.zero 5 bn D none
     have pd:iK D I y.aI [(I,.map bt b3)]:=⟨_,_,_,rfl,a7,bc⟩
     obtain⟨pf,ph,pj⟩:=St.bl (Q:=bB D u y) 6 (aw.nl.fs [1,1,7,7,7,7,7,7] rfl) ⟨_,_,_,_,_,_,_,_,_,_,rfl,X,Y,Z,ab,pd⟩
     exact At.rt sG<|hR (pj.fs [1,1,3,3] rfl).drop.drop ⟨vN,[],pf,bM rfl (aS (by exact(vC (b:=op) hy (gW ‹_› ‹_› ‹_› ‹_›) ‹_› ‹_›).2.1)),dZ pc (by exact(vC (b:=op) hy (gW ‹_› ‹_› ‹_› ‹_›) ‹_› ‹_›).1),ph.eq (by exact(vC (b:=op) hy (gW ‹_› ‹_› ‹_› ‹_›) ‹_› ‹_›).2.2),rfl⟩
    refine At.rp 6 1 [(66,vQ G 1)]<|Op.l1 3 66 67 1 (vI e.bz) (aw.ag 7 rfl)<|Op.px 1 [(68,vP bs)]<|Op.l1 3 68 69 0 (vI 0) (aw.ag 0 rfl)<|Op.pg 13 [(65,.bool (e.bz==0))] ?_
    refine At.fd (e.bz=0) 65 14 16 (fun CM=>?_) fun Eq=>?_
    ·refine At.rp 5 1 [(71,vQ bs 1)]<|Op.l1 28 71 72 1 vN (aw.ag 0 rfl)<|Op.c0 (some 73) (mc _ _ _ aw.sub J _ _ (ay.nil _ _ _) (by(try dsimp only)<;>omega)) aw ?_
     rintro _ pl _ EQ pm po ⟨Fd,pu,rfl,g3,ca,rfl⟩;subst pl;clear pm
     obtain⟨em,en,rfl⟩:=g3.ai
     refine Op.pg 11 [(6,vL em ((([]:aj)).length) en),(7,vF)] ?_
     have pv:iK D I y.aI [(I,.map bt b3)]:=⟨_,_,_,rfl,a7,bc⟩
     obtain⟨pw,py,pA⟩:=St.bl (Q:=bB D u y) 6 (po.fs [1,1,7,7,7,7,7,7] rfl) ⟨_,_,_,_,_,_,_,_,_,_,rfl,X,Y,Z,ab,pv⟩
     exact At.rt (.tuple #[vL em ((([]:aj)).length) en,vF])<|hR (pA.fs [1,1,3,3] rfl).drop.drop ⟨(vL em ((([]:aj)).length) en),pu,pw,bM rfl (aS (by exact(vE (b:=op) hy (gW ‹_› ‹_› ‹_› ‹_›) ‹_› ‹_›).2.1)),dZ g3 (by exact(vE (b:=op) hy (gW ‹_› ‹_› ‹_› ‹_›) ‹_› ‹_›).1),py.eq (by exact(vE (b:=op) hy (gW ‹_› ‹_› ‹_› ‹_›) ‹_› ‹_›).2.2),rfl⟩
    have pB:iK D I y.aI [(I,.map bt b3)]:=⟨_,_,_,rfl,a7,bc⟩
    obtain⟨Fn,pC,pD⟩:=St.bl (Q:=bB D u y) 6 (aw.fs [6,6,6,6,6,6] rfl) ⟨_,_,_,_,_,_,_,_,_,_,rfl,X,Y,Z,ab,pB⟩
    exact At.ke (ck _ _ (by repeat (first|assumption|exact aG.refl _|apply aG.trans)) y _ _ (bK _) (by exact hy) (by exact b5) (by exact b6) (by exact(gW ‹_› ‹_› ‹_› ‹_›)) (by exact KL ‹_› ‹_› ‹_›) pC ((pD.fs [2,2] rfl).drop))
   obtain⟨Fr,rfl,g4⟩:=pb
   obtain⟨eo,ep,rfl⟩:=g4.ai
   refine Op.mk n9 77 55 57 58 e.Client (.agg #[vI U.stamp,vL eo (U.data.length) ep]) (c9.ag 6 rfl) a7 ej<|Op.ba<|Op.sg 84 8 58 0 0 #[vI U.stamp,vL eo (U.data.length) ep] c9 zt fun FS a0=>Op.gt 8<|At.rp 6 1 [(60,vQ G 1)] ?_
   refine Op.l1 3 60 61 1 (vI e.bz) (a0.ag 7 rfl)<|Op.px 1 [(62,vP bs)]<|Op.l1 3 62 63 0 (vI U.stamp) (a0.ag 0 rfl)<|Op.pg 9 [(59,.bool (decide (e.bz<U.stamp)))]<|At.fd (e.bz<U.stamp) 59 10 12 (fun GE=>?_) fun GT=>?_
   ·refine At.go 11 2 [(6,vN),(7,vF)] ?_
    have p0:=aF.zero 5 bn D none
    have p1:iK D I y.aI [(I,.map bt b3)]:=⟨_,_,_,rfl,a7,bc⟩
    obtain⟨p2,p3,p8⟩:=St.bl (Q:=bB D u y) 6 (a0.nl.fs [1,1,7,7,7,7,7,7] rfl) ⟨_,_,_,_,_,_,_,_,_,_,rfl,X,Y,Z,ab,p1⟩
    exact At.rt sG<|hR (p8.fs [1,1,3,3] rfl).drop.drop ⟨vN,[],p2,bM rfl (aS (by exact(vD (b:=op) hy (gW ‹_› ‹_› ‹_› ‹_›) ‹_› ‹_›).2.1)),dZ p0 (by exact(vD (b:=op) hy (gW ‹_› ‹_› ‹_› ‹_›) ‹_› ‹_›).1),p3.eq (by exact(vD (b:=op) hy (gW ‹_› ‹_› ‹_› ‹_›) ‹_› ‹_›).2.2),rfl⟩
   refine At.rp 6 1 [(66,vQ G 1)]<|Op.l1 3 66 67 1 (vI e.bz) (a0.ag 7 rfl)<|Op.px 1 [(68,vP bs)]<|Op.l1 3 68 69 0 (vI U.stamp) (a0.ag 0 rfl)<|Op.pg 13 [(65,.bool (e.bz==U.stamp))] ?_
   refine At.fd (e.bz=U.stamp) 65 14 16 (fun Ha=>?_) fun Hb=>?_
   ·refine At.rp 5 1 [(71,vQ bs 1)]<|Op.l1 28 71 72 1 (vL eo (U.data.length) ep) (a0.ag 0 rfl)<|Op.c0 (some 73) (mc _ _ _ a0.sub J _ _ g4 (by((try dsimp only)<;>(exact KK e4 dd ‹_›)))) a0 ?_
    rintro _ qr _ Hc q0 q1 ⟨Hd,q2,rfl,g5,ca,rfl⟩;subst qr;clear q0
    obtain⟨er,et,rfl⟩:=g5.ai
    refine Op.pg 11 [(6,vL er (U.data.length) et),(7,vF)] ?_
    have q3:iK D I y.aI [(I,.map bt b3)]:=⟨_,_,_,rfl,a7,bc⟩
    obtain⟨rb,rc,rd⟩:=St.bl (Q:=bB D u y) 6 (q1.fs [1,1,7,7,7,7,7,7] rfl) ⟨_,_,_,_,_,_,_,_,_,_,rfl,X,Y,Z,ab,q3⟩
    exact At.rt (.tuple #[vL er (U.data.length) et,vF])<|hR (rd.fs [1,1,3,3] rfl).drop.drop ⟨(vL er (U.data.length) et),q2,rb,bM rfl (aS (by exact(vG (b:=op) hy (gW ‹_› ‹_› ‹_› ‹_›) ‹_› ‹_›).2.1)),dZ g5 (by exact(vG (b:=op) hy (gW ‹_› ‹_› ‹_› ‹_›) ‹_› ‹_›).1),rc.eq (by exact(vG (b:=op) hy (gW ‹_› ‹_› ‹_› ‹_›) ‹_› ‹_›).2.2),rfl⟩
   have re:iK D I y.aI [(I,.map bt b3)]:=⟨_,_,_,rfl,a7,bc⟩
   obtain⟨Hk,rf,rh⟩:=St.bl (Q:=bB D u y) 6 (a0.fs [6,6,6,6,6,6] rfl) ⟨_,_,_,_,_,_,_,_,_,_,rfl,X,Y,Z,ab,re⟩
   exact At.ke (ck _ _ (by repeat (first|assumption|exact aG.refl _|apply aG.trans)) y _ _ (bK _) (by exact hy) (by exact b5) (by exact b6) (by exact(gW ‹_› ‹_› ‹_› ‹_›)) (by exact KM ‹_› ‹_› ‹_›) rf ((rh.fs [2,2] rfl).drop))
 obtain⟨rk,rr,rv,rx,ex,r0,r1,r2,r3,sc,sd,eA,eB,sf,eI,eJ⟩:=g7
 have eK:=St.un [rr,rx,r0,r2,sc] sd (ha.fs [1] rfl)
 refine At.dw (fun _=>False) [(0,true),(1,true),(2,true),(3,true),(5,true),(4,true),(6,false),(7,true),(8,true),(9,true),(10,true),(1011,false),(11,false)]<|Op.px 5 [(12,vP u),(15,vQ u 3),(17,vQ G 2)]<|Op.lf 3 15 3 16 1 (vI s.ax) id (eK.ag 0 rfl)<|Op.l1 3 17 18 2 (vI e.bw) (eK.ag 6 rfl)<|Op.vl 19 (.int .i64 (if (1099511627775:Int)<e.bw then (1099511627775:Int) else e.bw)) (.int .i64 (min e.bw (1099511627775:Int))) (Od _ _) ?_
 refine Op.vl 20 (.int .i64 (if (min e.bw (1099511627775:Int))>s.ax then (min e.bw (1099511627775:Int)) else s.ax)) (.int .i64 (max s.ax (min e.bw (1099511627775:Int)))) (uV _ _)<|Op.px 2 [(22,vQ u 3)]<|Op.ba<|Op.s1 3 22 20 3 (vI (max s.ax (min e.bw (1099511627775:Int)))) 0 #[vP rk,vP rv,vP ex,vI (max s.ax (min e.bw (1099511627775:Int))),vI s.count,.map (some r1),.map (some r3)] eK zt fun Hm eL=>Op.gt 2 ?_
 refine At.dw (fun _=>False) [(0,true),(1,true),(2,true),(3,true),(5,true),(6,true),(7,true),(4,true),(8,false),(1009,false),(9,false),(10,false)]<|Op.px 7 [(23,vP u),(26,vQ u 2),(30,vQ u 3)]<|Op.lf 74 26 2 27 1 (vP ex) id (eL.ag 0 rfl)<|Op.l1 3 30 31 3 (vI (max s.ax (min e.bw (1099511627775:Int)))) (eL.ag 0 rfl)<|Op.ba ?_
 have eQ:=eL.fs [2,2,2,3] rfl
 refine Op.cl (some 32) 1 eQ (PB _ _ _ eQ.sub J ex s.az _ sf (max s.ax (min e.bw (1099511627775:Int))) (by(try dsimp only)<;>exact a1.az) (St.pt 1 eQ)) ?_
 rintro _ sh _ Hn sk sm ⟨HA,HB,HI,rfl,g6,eT,ca,rfl⟩;subst sh;clear sk
 obtain⟨H0,H1,rfl⟩:=g6.ai
 obtain⟨so,ss,b4,sA⟩:=aF.freeze g6 (sm.fs [1] rfl)
 replace eA:=eA.mono b4
 replace eB:=eB.mono b4
 replace eI:=eI.mono b4
 replace eJ:=eJ.mono b4
 replace J:=J.mono b4
 replace eT:=eT.mono b4
 obtain⟨H2,sB,e1⟩:=St.bl (Q:=bB so u (⟨s.an,s.aD,(kM (jH (max s.ax (min e.bw (1099511627775:Int)))) s.az),(max s.ax (min e.bw (1099511627775:Int))),s.count,s.events,s.aI⟩:Sp)) 6 (ss.fs [3,3,3] rfl) ⟨_,_,_,_,_,_,_,_,_,_,rfl,eA,eB,eT,eI,eJ⟩
 refine Op.cl (some 33) 1 e1 (JX _ _ _ e1.sub J u (⟨s.an,s.aD,(kM (jH (max s.ax (min e.bw (1099511627775:Int)))) s.az),(max s.ax (min e.bw (1099511627775:Int))),s.count,s.events,s.aI⟩:Sp) _ sB _ _ sA (by(try dsimp only)<;>exact dH.mk a1.tree a1.wl a1.ws (a1.az.left _) a1.quo) (by((try dsimp only)<;>(exact cr a1.az.Tx (by decide)))) (St.pt 1 e1)) ?_
 rintro _ H3 _ H4 H5 sT ⟨Id,rfl,s0,rfl⟩
 exact Op.gt 3<|At.ke (hb _ _ (by repeat (first|assumption|exact aG.refl _|apply aG.trans)) (lF (⟨s.an,s.aD,(kM (jH (max s.ax (min e.bw (1099511627775:Int)))) s.az),(max s.ax (min e.bw (1099511627775:Int))),s.count,s.events,s.aI⟩:Sp) (jl (jH (max s.ax (min e.bw (1099511627775:Int)))) s.az)) _ _ (bK _) (by rfl) (by exact a1.tZ _) (by exact sF) (by exact AA) s0 (sT.fs [1] rfl))
set_option linter.unusedSectionVars false
def cO (s:Sp):gf:=⟨s.ax,s.count,s.an,s.aD,s.az.map (·.2),(s.events.map (·.2)).flatten,s.aI.map fun p=>⟨p.1,p.2.stamp,p.2.data⟩⟩
section
variable {k c c':Int} {s:Sp} {e:bu} {b:aQ} {o:aC}
end
def vH (v:Int):Prop:=0≤v∧v<1099511627776
def jL (m:gf):Prop:=(vH m.bw∧vH m.bg)∧gS m.cy=true∧jZ m.cX=true∧nv m.dG∧jo m.cX m.aW∧kr m.cw
instance (v:Int):Decidable (vH v):=by unfold vH;infer_instance
instance (m:gf):Decidable (jL m):=by unfold jL;infer_instance
def x7 (m:gf):Sp:=⟨m.cy,m.cX,nS m.dG,m.bw,m.bg,eV [] m.aW,qP m.cw⟩
def oV (s:Sp) (m:gf):Sp:=if jL m then x7 m else s
section
variable {k:Int} {s:Sp} {e acc:gL} {c:Int} {ys ws:List ah}
theorem KQ {α:Type} {a b:α}:∀{x:List (Int×α)},(∀p∈x,p.1<c)→b7 (x++[(c,a)]) c b=x++[(c,b)]
  |[],_=>by
   show b7 [(c,a)] c b=[(c,b)]
   rw[b7,aB (by simp),aL rfl]
  |p::x,h=>by
   have hp:=h p (by simp)
   rw[dM,b7,aL hp,KQ fun q hq=>h q (by simp[hq])]
   rfl
theorem KR {α:Type} {a:α}:∀{x:List (Int×α)},(∀p∈x,p.1<c)→bW (x++[(c,a)]) c=some a
  |[],_=>by
   show bW [(c,a)] c=some a
   rw[jU,aL rfl]
  |p::x,h=>by
   have hp:=h p (by simp)
   rw[dM,jU,aB (by omega),KR fun q hq=>h q (by simp[hq])]
theorem KS:∀(ws ys:List ah) (acc:gL),(∀p∈acc,p.1<c)→(∀w∈ws,w.Client=c)→eV (acc++[(c,ys)]) ws=acc++[(c,ys++ws)]
  |[],ys,acc,_,_=>by simp[eV]
  |w::ws,ys,acc,h,hw=>by
   have h1:=hw w (by simp)
   have:nX (acc++[(c,ys)]) w=acc++[(c,ys++[w])]:=by
     unfold nX
     rw[h1,KR h]
     exact KQ h
   show eV (nX (acc++[(c,ys)]) w) ws=_
   rw[this,KS ws (ys++[w]) acc h fun v hv=>hw v (by simp[hv]),cI]
   rfl
theorem TA {ws:List ah} (hne:ws≠[]) (h:∀p∈acc,p.1<c) (hw:∀w∈ws,w.Client=c):eV acc ws=acc++[(c,ws)]:=by
  cases ws with
  |nil=>exact absurd rfl hne
  |cons w ws=>
   have h1:=hw w (by simp)
   have:nX acc w=acc++[(c,[w])]:=by
     unfold nX
     have hf:bW acc c=none:=zF.2 fun p hp=>by have:=h p hp;omega
     rw[h1,hf]
     exact zI h
   show eV (nX acc w) ws=_
   rw[this,KS ws [w] acc h fun v hv=>hw v (by simp[hv])]
   rfl
theorem TB:∀(xs ys:List ah) (e:gL),eV e (xs++ys)=eV (eV e xs) ys:=fun xs ys e=>by unfold eV;rw[r_]
theorem KT:∀(ev acc:gL),(acc++ev).Pairwise (fun a b=>a.1<b.1)→(∀p∈ev,p.2≠[])→(∀p∈ev,∀w∈p.2,w.Client=p.1)→eV acc (ev.map (·.2)).flatten=acc++ev
  |[],acc,_,_,_=>by simp[eV]
  |p::ev,acc,hs,hn,hc=>by
   have h1:∀q∈acc,q.1<p.1:=fun q hq=>(qF.1 hs).2.2 q hq p (by simp)
   rw[e_,cg,TB,TA (hn p (by simp)) h1 (hc p (by simp))]
   rw[KT ev (acc++[(p.1,p.2)]) (by rw[cI];exact hs) (fun q hq=>hn q (by simp[hq])) (fun q hq=>hc q (by simp[hq])),cI]
   rfl
theorem jA.TC (H:jA e):eV [] (e.map (·.2)).flatten=e:=KT e [] H.sort H.ne fun p hp w hw=>(H.own p hp w hw).1
theorem jA.aX (H:jA e):tX (e.map (·.2)).flatten:=by
  refine⟨fun w hw=>?_,?_⟩
  · obtain⟨xs,hx,hw⟩:=q7.1 hw
    obtain⟨p,hp,rfl⟩:=cF.1 hx
    exact(H.own p hp w hw).2
  · rw[Bs]
    refine⟨fun xs hx=>?_,?_⟩
    · obtain⟨p,hp,rfl⟩:=cF.1 hx
      have key:∀l:List ah,(∀w∈l,w.Client=p.1)→l.Pairwise fun a b=>a.Client≤b.Client:=by
        intro l
        induction l with
        |nil=>intro _;exact List.Pairwise.nil
        |cons w l ih=>
         intro h
         refine jE.2 ⟨fun v hv=>?_,ih fun v hv=>h v (by simp[hv])⟩
         have h1:=h w (by simp)
         have h2:=h v (by simp[hv])
         omega
      exact key p.2 fun w hw=>(H.own p hp w hw).1
    · rw[pJ]
      refine KI (fun{a b} ha hb u=>?_) H.sort
      intro x hx y hy
      have h1:=(H.own a ha x hx).1
      have h2:=(H.own b hb y hy).1
      omega
theorem TD {x:fm} (H:gJ x):nv (x.map (·.2))∧nS (x.map (·.2))=x:=by
  refine⟨⟨fun s hs=>?_,?_⟩,?_⟩
  · obtain⟨p,hp,rfl⟩:=cF.1 hs
    exact(H.2 p hp).2
  · rw[pJ]
    refine KI (fun{a b} ha hb u=>?_) H.1
    rw[←(H.2 a ha).1,←(H.2 b hb).1]
    exact u
  · unfold nS
    rw[jr]
    conv=>rhs;rw[←sL x]
    apply uy
    intro p hp
    simp only[Function.comp,id,←(H.2 p hp).1]
theorem TE {x:List (Int×f_)} (H:qR x):kr (x.map fun p=>⟨p.1,p.2.stamp,p.2.data⟩)∧qP (x.map fun p=>⟨p.1,p.2.stamp,p.2.data⟩)=x:=by
  refine⟨⟨fun s hs=>?_,?_⟩,?_⟩
  · obtain⟨p,hp,rfl⟩:=cF.1 hs
    have:=H.ok p hp
    exact xT (by simp only;omega) (by simp only;omega) (by simp only;omega) (by simp only;omega) (by simp only;omega)
  · rw[pJ]
    exact H.sort
  · unfold qP
    rw[jr]
    conv=>rhs;rw[←sL x]
    apply uy
    intro p hp
    rfl
theorem KU (H:bC k s) (hc:s.count<1099511627776):jL (cO s)∧x7 (cO s)=s:=by
  obtain⟨h1,h2⟩:=TD H.az
  obtain⟨h3,h4⟩:=TE H.gN
  have h5:=H.ev.TC
  refine⟨⟨⟨H.ax,H.cn,hc⟩,H.tree.C3,H.kW.load,h1,⟨H.ev.aX,?_⟩,h3⟩,?_⟩
  · show vw s.aD (eV [] (s.events.map (·.2)).flatten)
    rw[h5]
    intro p hp
    have hq:=H.quo p.1
    have he:eE s.events p.1=p.2:=by
      unfold eE
      rw[(ki H.ev.sort).2 (show(p.1,p.2)∈s.events from hp)]
      rfl
    rw[←Dk,he] at hq
    omega
  · unfold x7 cO
    simp only[]
    rw[h2,h4,h5]
theorem DL {α:Type} {x:List (Int×α)} (hs:fJ x) (hb:∀p∈x,0≤p.1∧p.1<8):x.length≤8:=by
  have key:∀(x:List (Int×α)) (n:Nat),x.Pairwise (fun a b=>a.1<b.1)→(∀p∈x,(n:Int)≤p.1∧p.1<8)→n≤8→x.length+n≤8:=by
    intro x
    induction x with
    |nil=>intro n _ _ h;simpa using h
    |cons p x ih=>
     intro n hs hb h8
     obtain⟨g1,g2⟩:=jE.1 hs
     have hp:=hb p (by simp)
     have:=ih (p.1.toNat+1) g2 (fun q hq=>by have:=g1 q hq;have:=hb q (by simp[hq]);omega) (by omega)
     rw[bL]
     omega
  have:=key x 0 hs (fun p hp=>by have:=hb p hp;omega) (by omega)
  omega
theorem bC.KV (H:bC k s):s.events.length≤8:=DL H.ev.sort fun p hp=>by
  cases h:p.2 with
  |nil=>exact absurd h (H.ev.ne p hp)
  |cons w ws=>
   have:=H.ev.own p hp w (by rw[h];simp)
   have h2:=tY this.2
   omega
theorem TF (H:bC k s) (hc:s.count<1099511627776) (t:Sp):oV t (cO s)=s:=by
  obtain⟨h1,h2⟩:=KU H hc
  unfold oV
  rw[aL h1,h2]
end
theorem TG {α:Type} {x:List (Int×α)} (hs:fJ x):dR (x.map (·.1))=x.map (·.1):=CD (by rw[pJ];exact hs)
theorem DM {α:Type} {x:List (Int×α)} {i k:Int} (hs:fJ x) (hx:(dR (x.map (·.1)))[i.toNat]?=some k):∃a,x[i.toNat]?=some (k,a)∧bW x k=some a:=by
  rw[TG hs,jM] at hx
  cases h:x[i.toNat]? with
  |none=>rw[h] at hx;cases hx
  |some p=>
   rw[h] at hx
   obtain⟨D,u⟩:=p
   simp only[j3,eN] at hx
   subst hx
   exact⟨u,rfl,(ki hs).2 (cL h)⟩
theorem vJ {α:Type} {x:List (Int×α)} {i k:Int} (hs:fJ x) (hx:(dR (x.map (·.1)))[i.toNat]?=some k) (hf:bW x k=none):False:=by
  obtain⟨s,_,h⟩:=DM hs hx
  rw[hf] at h;cases h
structure DN (s:Sp):Prop where
  W:dH s
  se:fJ s.events
  sr:fJ s.aI
  el:s.events.length≤1000
  rl:s.aI.length≤1000
  rp:∀p∈s.aI,p.2.data.length≤1000000000
theorem bC.qT {k:Int} {s:Sp} (H:bC k s) (hk:k≤1000000):DN s:=
  ⟨H.wk hk,H.ev.sort,H.gN.sort,cr H.KV (by decide),cr (DL H.gN.sort fun p hp=>(H.gN.ok p hp).1) (by decide),fun p hp=>cr (H.gN.ok p hp).2.2 (by decide)⟩
section
variable {s:Sp} {im:gf} {i k:Int} {xs:List ah} {a a2:f_}
def sH (s:Sp) (im:gf) (i:Int):Prop:=im=⟨s.ax,s.count,s.an,s.aD,s.az.map (·.2),((s.events.take i.toNat).map (·.2)).flatten,[]⟩
def sI (s:Sp) (im:gf) (i:Int):Prop:=im=⟨s.ax,s.count,s.an,s.aD,s.az.map (·.2),(s.events.map (·.2)).flatten,(s.aI.take i.toNat).map fun p=>⟨p.1,p.2.stamp,p.2.data⟩⟩
theorem AE:sH s ⟨s.ax,s.count,s.an,s.aD,s.az.map (·.2),[],[]⟩ 0:=rfl
theorem TH (hs:fJ s.events) (H:sH s im i) (h0:0≤i) (hx:(dR (s.events.map (·.1)))[i.toNat]?=some k) (hf:bW s.events k=some xs):sH s ⟨im.bw,im.bg,im.cy,im.cX,im.dG,im.aW++xs,im.cw⟩ (i+1):=by
  obtain⟨a,h1,h2⟩:=DM hs hx
  rw[hf] at h2
  obtain rfl:=fT h2
  unfold sH at *
  subst H
  rw[toNat_succ h0,fu h1]
  simp
theorem TI (H:sH s im i) (h:¬i<((dR (s.events.map (·.1))).length:Int)):sI s im 0:=by
  unfold sH sI at *
  rw[lD,eu] at h
  rw[eR (by omega)] at H
  exact H
theorem DO (hs:fJ s.aI) (H:sI s im i) (h0:0≤i) (hx:(dR (s.aI.map (·.1)))[i.toNat]?=some k) (hf:bW s.aI k=some a) (u:bW s.aI k=some a2):
    sI s ⟨im.bw,im.bg,im.cy,im.cX,im.dG,im.aW,im.cw++[⟨k,a.stamp,a2.data⟩]⟩ (i+1):=by
  obtain⟨D,h1,h2⟩:=DM hs hx
  rw[hf] at u
  obtain rfl:=fT u
  rw[hf] at h2
  obtain rfl:=fT h2
  unfold sI at *
  subst H
  rw[toNat_succ h0,fu h1]
  simp
theorem vK (H:sI s im i) (h:¬i<((dR (s.aI.map (·.1))).length:Int)):im=cO s:=by
  unfold sI at H
  rw[lD,eu] at h
  rw[eR (by omega)] at H
  exact H
theorem DP (hd:∀p∈s.aI,p.2.data.length≤1000000000) (hs:fJ s.aI) (hf:bW s.aI k=some a):a.data.length≤1000000000:=hd (k,a) ((ki hs).1 hf)
theorem DQ (h:p_ s.aD s.events) (hf:bW s.events k=some xs):xs.length≤8:=by
  have:=h k
  unfold eE at this
  rw[hf] at this
  show xs.length≤8
  have h2:(Option.getD (some xs) []).length≤8:=by omega
  exact h2
end
inductive LU where
  |seq (L:List (Nat×Bool))
  |mv (i:Nat) (b:Bool) (t:LU)
  |gb (i j:Nat) (A B:LU)
def LU.aX:LU→List (Nat×Bool)
  |.seq L=>L
  |.mv i b t=>(i,b)::t.aX
  |.gb i j A B=>(3000,false)::(i,false)::(A.aX++(4000,false)::(j,false)::B.aX)
def LU.gQ (P:Program) (ops:Array Oper) (S2:World→Prop) (K:Act→World→Prop):LU→Mv
  |.seq L=>fun S a w=>kY P ops S2 S L K a w
  |.mv i true t=>um P ops i (t.gQ P ops S2 K)
  |.mv i false t=>gG P ops S2 i (t.gQ P ops S2 K)
  |.gb i j A B=>fun S a w=>gG P ops S2 i (A.gQ P ops S2 K) S a w∧gG P ops S2 j (B.gQ P ops S2 K) S a w
def LU.low:LU→Bool
  |.seq L=>L.all fun p=>!(Nat.ble 3000 p.1)
  |.mv i b t=>(b||!(Nat.ble 3000 i))&&t.low
  |.gb i j A B=>!(Nat.ble 3000 i)&&(!(Nat.ble 3000 j)&&(A.low&&B.low))
def LU.size:LU→Nat
  |.seq L=>gH L
  |.mv _ _ t=>t.size+1
  |.gb _ _ A B=>max A.size B.size+1
def LU.ok (ops:Array Oper) (kb:Nat):LU→Array Bool→Bool
  |.seq L,listed=>mE ops kb false L listed
  |.mv i true t,listed=>Region.free .any ops listed i&&(Region.ready .any ops listed).contains i&&(!(Nat.beq i kb)&&((!(ql ops i)||((ops[kb]?).isNone||depOn ops 10 kb i))&&t.ok ops kb (listed.setIfInBounds i true)))
  |.mv i false t,listed=>!(Nat.ble 1000 i)&&(!(Nat.beq i kb)&&((Region.ready .any ops listed==[i])&&t.ok ops kb (listed.setIfInBounds i true)))
  |.gb i j A B,listed=>!(Nat.ble 1000 i)&&(!(Nat.ble 1000 j)&&(!(Nat.beq i kb)&&(!(Nat.beq j kb)&&(((Region.ready .any ops listed==[i,j])||(Region.ready .any ops listed==[j,i]))&&(A.ok ops kb (listed.setIfInBounds i true)&&B.ok ops kb (listed.setIfInBounds j true))))))
section
variable {P:Program} {ops:Array Oper} {S2:World→Prop} {K:Act→World→Prop} {kb:Nat}
theorem KW:∀(L M:List (Nat×Bool)) (st:List Mv),(L.all fun p=>!(Nat.ble 3000 p.1))=true→dW P ops S2 K M=(fun _=>K)::st→dW P ops S2 K (L++M)=(fun S a w=>kY P ops S2 S L K a w)::st
  |[],M,st,_,h=>h
  |(i,b)::L,M,st,hl,h=>by
   rw[j5,bO] at hl
   have ih:=KW L M st hl.2 h
   have h3:Nat.ble 3000 i=false:=by simpa using hl.1
   cases b with
   |true=>
    show um P ops i (Mv.top (dW P ops S2 K (L++M)))::Mv.je (dW P ops S2 K (L++M))=_
    rw[ih];rfl
   |false=>
    show(bif Nat.ble 3000 i then _ else gG P ops S2 i (Mv.top (dW P ops S2 K (L++M)))::Mv.je (dW P ops S2 K (L++M)))=_
    rw[h3,ih]
    refine congrArg (·::st) ?_
    funext S a w
    show _=Mv.top (bif Nat.ble 3000 i then _ else _) S a w
    rw[h3];rfl
theorem uc:∀(t:LU) (L:List (Nat×Bool)) (st:List Mv),t.low=true→dW P ops S2 K L=(fun _=>K)::st→dW P ops S2 K (t.aX++L)=t.gQ P ops S2 K::st
  |.seq M,L,st,hl,h=>KW M L st hl h
  |.mv i b t,L,st,hl,h=>by
   simp only[LU.low,bO] at hl
   have ih:=uc t L st hl.2 h
   cases b with
   |true=>
    show um P ops i (Mv.top (dW P ops S2 K (t.aX++L)))::Mv.je (dW P ops S2 K (t.aX++L))=_
    rw[ih];rfl
   |false=>
    have h3:Nat.ble 3000 i=false:=by simpa using hl.1
    show(bif Nat.ble 3000 i then _ else gG P ops S2 i (Mv.top (dW P ops S2 K (t.aX++L)))::Mv.je (dW P ops S2 K (t.aX++L)))=_
    rw[h3,ih];rfl
  |.gb i j A B,L,st,hl,h=>by
   simp only[LU.low,bO,gZ] at hl
   obtain⟨h1,h2,hA,hB⟩:=hl
   have u:=uc B L st hB h
   have D:dW P ops S2 K ((j,false)::(B.aX++L))=gG P ops S2 j (B.gQ P ops S2 K)::st:=by
     show(bif Nat.ble 3000 j then _ else gG P ops S2 j (Mv.top (dW P ops S2 K (B.aX++L)))::Mv.je (dW P ops S2 K (B.aX++L)))=_
     rw[h2,u];rfl
   have G:=uc A ((4000,false)::(j,false)::(B.aX++L)) (gG P ops S2 j (B.gQ P ops S2 K)::st) hA (by
     show(fun _=>K)::dW P ops S2 K ((j,false)::(B.aX++L))=_
     rw[D])
   have I:dW P ops S2 K ((i,false)::(A.aX++(4000,false)::(j,false)::(B.aX++L)))=gG P ops S2 i (A.gQ P ops S2 K)::gG P ops S2 j (B.gQ P ops S2 K)::st:=by
     show(bif Nat.ble 3000 i then _ else gG P ops S2 i (Mv.top (dW P ops S2 K (A.aX++(4000,false)::(j,false)::(B.aX++L))))::Mv.je (dW P ops S2 K (A.aX++(4000,false)::(j,false)::(B.aX++L))))=_
     rw[h1,G];rfl
   have e:(LU.gb i j A B).aX++L=(3000,false)::(i,false)::(A.aX++(4000,false)::(j,false)::(B.aX++L)):=by
     show(3000,false)::(i,false)::((A.aX++(4000,false)::(j,false)::B.aX)++L)=_
     rw[cI];rfl
   rw[e]
   show(fun S a w=>Mv.top (dW P ops S2 K ((i,false)::(A.aX++(4000,false)::(j,false)::(B.aX++L)))) S a w∧Mv.top (Mv.je (dW P ops S2 K ((i,false)::(A.aX++(4000,false)::(j,false)::(B.aX++L))))) S a w)::
     Mv.je (Mv.je (dW P ops S2 K ((i,false)::(A.aX++(4000,false)::(j,false)::(B.aX++L)))))=_
   rw[I];rfl
theorem TJ:∀(t:LU) (T:World→Prop) (listed:Array Bool) (a:Act) (w:World) (bD:Nat),t.size≤bD→qY ops listed→t.ok ops kb listed=true→listed.getD kb false=false→
    t.gQ P ops S2 K T a w→ot P ops kb T K bD listed a w:=by
  intro t
  induction t with
  |seq L=>exact fun T listed a w bD hf hcl hok D h=>yp L kb T false T listed a w bD hf hcl hok (fun _=>⟨rfl,D⟩) (fun hz=>by cases hz) h
  |mv i b t ih=>
   intro T listed a w bD hf hcl hok D h
   obtain⟨bD,rfl⟩:∃m,bD=m+1:=⟨bD-1,by simp[LU.size] at hf;omega⟩
   have I:t.size≤bD:=by simp[LU.size] at hf;omega
   cases b with
   |true=>
    obtain⟨o,v,hi,hd,hy,hS,h⟩:=h
    simp only[LU.ok,bO,gZ,ie] at hok
    obtain⟨⟨h1,h2⟩,h3,h4,h5⟩:=hok
    have hik:i≠kb:=fun e=>by subst e;simp at h3
    have h2:i∈Region.ready .any ops listed:=by simpa using h2
    have J:=ih T (listed.setIfInBounds i true) (a.put o.dst v) w bD I (lZ hcl h2) h5 (by rw[getD_set_ne false hik];exact D) h
    cases hn:mD o with
    |false=>
     rw[hn] at hy
     exact qZ (S':=fun _=>True) hi hd hik (.inl fun _=>trivial) bD listed a w hcl (.inl fun _=>trivial) (Region.free_spec hi h1) h2 (by simpa using hy) trivial (fun _=>hS) J
    |true=>
     rw[hn,aL rfl] at hy
     have hne:ql ops i=true:=by simp[ql,hi,hn]
     rw[hne] at h4
     simp only[AW,false_or] at h4
     refine qZ (S':=T) hi hd hik (.inr ⟨fun _ h=>h,fun ok hok=>?_⟩) bD listed a w hcl (.inr D) (Region.free_spec hi h1) h2 hy hS (fun _=>hS) J
     rcases h4 with h4|h4
     · rw[hok] at h4;simp at h4
     · exact⟨10,h4⟩
   |false=>
    simp only[LU.ok,bO,gZ,kz] at hok
    obtain⟨h1,h4,h2,h3⟩:=hok
    have hik:i≠kb:=fun e=>by subst e;simp at h4
    have G:i∈Region.ready .any ops listed:=by rw[h2];simp
    have h:jq P ops i (fun u w'=>T w'∧t.gQ P ops S2 K T u w') a w:=by
      have h':gG P ops S2 i (t.gQ P ops S2 K) T a w:=h
      unfold gG at h'
      rwa[aB (by rw[h1];simp)] at h'
    refine⟨fun h0=>(by rw[h0] at G;cases G),fun k hk=>?_⟩
    rw[h2] at hk
    obtain rfl:k=i:=by simpa using hk
    exact mC (fun u w' h'=>⟨fun _=>h'.1,ih T _ u w' bD I (lZ hcl G) h3 (by rw[getD_set_ne false hik];exact D) h'.2⟩) h
  |gb i j A B O U=>
   intro T listed a w bD hf hcl hok D h
   obtain⟨bD,rfl⟩:∃m,bD=m+1:=⟨bD-1,by simp[LU.size] at hf;omega⟩
   have V:A.size≤bD:=by simp[LU.size] at hf;omega
   have X:B.size≤bD:=by simp[LU.size] at hf;omega
   simp only[LU.ok,bO,gZ,ie,kz] at hok
   obtain⟨h1,h2,h4,h5,h3,hA,hB⟩:=hok
   have hik:i≠kb:=fun e=>by subst e;simp at h4
   have hjk:j≠kb:=fun e=>by subst e;simp at h5
   have G:i∈Region.ready .any ops listed:=by rcases h3 with h3|h3<;>rw[h3]<;>simp
   have Y:j∈Region.ready .any ops listed:=by rcases h3 with h3|h3<;>rw[h3]<;>simp
   obtain⟨g1,g2⟩:=h
   have g1:jq P ops i (fun u w'=>T w'∧A.gQ P ops S2 K T u w') a w:=by unfold gG at g1;rwa[aB (by rw[h1];simp)] at g1
   have g2:jq P ops j (fun u w'=>T w'∧B.gQ P ops S2 K T u w') a w:=by unfold gG at g2;rwa[aB (by rw[h2];simp)] at g2
   refine⟨fun h0=>(by rw[h0] at G;cases G),fun k hk=>?_⟩
   have hkk:k=i∨k=j:=by rcases h3 with h3|h3<;>rw[h3] at hk<;>simp at hk<;>omega
   rcases hkk with rfl|rfl
   · exact mC (fun u w' h'=>⟨fun _=>h'.1,O T _ u w' bD V (lZ hcl G) hA (by rw[getD_set_ne false hik];exact D) h'.2⟩) g1
   · exact mC (fun u w' h'=>⟨fun _=>h'.1,U T _ u w' bD X (lZ hcl Y) hB (by rw[getD_set_ne false hjk];exact D) h'.2⟩) g2
end
section
variable {C:fC} {ds:List Deferred} {i:Nat} {e:Env} {h r:av} {M:Nat→Prop}
def KX (k:List Item) (kb:Nat) (t:LU):Bool:=match q9 k with
  |some ops=>Nat.ble t.size ops.size&&(t.low&&t.ok ops kb (Array.replicate ops.size false))
  |none=>false
theorem At.KY (hm:C.P.follows .mixedOrders=true) (M:Nat→Prop) (kb:Nat) (t:LU) (hL:KX (pt C.code i) kb t=true) (H:Op C ds i h M t.aX e h):At C ds i e h:=by
  intro a w f is
  have H:=H a {w with drawn:=w.drawn+1} f is.nG (dK.refl _ _)
  generalize pt C.code i=k at *
  unfold KX at hL
  split at hL
  · rename_i ops hd
    unfold q9 at hd
    split at hd
    · rename_i id u k'
      simp only[eN] at hd
      subst hd
      simp only[bO] at hL
      have h1:=jb hL.1
      have hs:=uc (P:=C.P) (ops:=u) (S2:=holds C #[] fun _=>True) (K:=fun a w=>eg C.P C.ro C.fn C.Q k' a w) t [] [] hL.2.1 rfl
      rw[dh] at hs
      refine eg.nG hm fun D=>yo (kb:=kb) (S:=holds C h M) _ _ _ _ _ (TJ (S2:=holds C #[] fun _=>True) t _ _ _ _ _ h1 ?_ hL.2.2 ?_ ?_)
      · intro k o ho hk
        have hlt:k<u.size:=(lK.1 ho).1
        simp[hlt] at hk
      · simp only[yt,yu];split<;>rfl
      · have H:Mv.top (dW C.P u (holds C #[] fun _=>True) (fun a w=>eg C.P C.ro C.fn C.Q k' a w) t.aX) (holds C h M) a {w with drawn:=w.drawn+1}:=H
        rw[hs] at H
        exact H
    · cases hd
  · cases hL
theorem Op.TK (D u:LU) {A B L:List (Nat×Bool)} (hA:D.low=true) (hB:u.low=true) (U:D.aX=A) (V:u.aX=B) (X:A++(4000,false)::B=L) (G:Op C ds i r M A e h) (I:Op C ds i r M B e h):Op C ds i r M ((3000,false)::L) e h:=by
  intro a w f is hk
  have G:=G a w f is hk
  have I:=I a w f is hk
  subst U V X
  unfold kY at *
  generalize (fun a w=>eg C.P C.ro C.fn C.Q (pt C.code i).tail a w)=K at *
  have J:=uc (P:=C.P) (ops:=iE (pt C.code i)) (S2:=holds C #[] fun _=>True) (K:=K) D [] [] hA rfl
  have O:=uc (P:=C.P) (ops:=iE (pt C.code i)) (S2:=holds C #[] fun _=>True) (K:=K) u [] [] hB rfl
  rw[dh] at J O
  have s2:=uc (P:=C.P) (ops:=iE (pt C.code i)) (S2:=holds C #[] fun _=>True) (K:=K) D ((4000,false)::u.aX) (dW C.P (iE (pt C.code i)) (holds C #[] fun _=>True) K u.aX) hA rfl
  rw[J] at G
  rw[O] at I s2
  show Mv.top (dW C.P (iE (pt C.code i)) (holds C #[] fun _=>True) K (D.aX++(4000,false)::u.aX)) _ a w∧Mv.top (Mv.je (dW C.P (iE (pt C.code i)) (holds C #[] fun _=>True) K (D.aX++(4000,false)::u.aX))) _ a w
  rw[s2]
  exact⟨G,I⟩
theorem Op.x8 {j k:Nat} {A B:LU} (u:Op C ds i r M ((j,false)::A.aX) e h) (D:Op C ds i r M ((k,false)::B.aX) e h) (hA:A.low=true:=by rfl) (hB:B.low=true:=by rfl) (hj:Nat.ble 3000 j=false:=by rfl) (hk:Nat.ble 3000 k=false:=by rfl):Op C ds i r M (LU.gb j k A B).aX e h:=
  Op.TK (.mv j false A) (.mv k false B) (by simp[LU.low,hj,hA]) (by simp[LU.low,hk,hB]) rfl rfl rfl u D
end
def oW (g:GH) (b:Nat) (x:gf) (c:au):Prop:=∃v2 c2 v3 u v4 D v5 G v6 I,c=(b,.cells #[.int .i64 x.bw,.int .i64 x.bg,v2,v3,v4,v5,v6] 46 (0,0))::(c2++(u++(D++(G++I))))∧aF 56 kJ g v2 x.cy c2∧aF 69 cu g v3 x.cX u∧aF 130 nL g v4 x.dG D∧aF 69 cu g v5 x.aW G∧aF 103 ni g v6 x.cw I
theorem TM (g0:GH) (bd D:Nat) (x:List (Int×(List ah))) (J:g0 bd=some (.cells #[.map (some D)] 76 (0,0))) (ab:tV g0 D x):jD prog g0 82 #[vP bd] pR (fun b5=>b5.Perm (x.map (·.1))):=by
 intro B h g l I go c be hg a3 a4 b6 b8 hs
 replace J:=be _ _ J
 replace ab:=ab.mono be
 refine aA.aq func82 fun R hR=>At.rg 2<|Op.l1 76 1 4 0 (.map (some D)) (hs.sub _ _ J) ?_
 obtain⟨bi,bj,a5,G,ad,ae⟩:=ab
 have ab:tV g D x:=⟨bi,bj,a5,G,ad,ae⟩
 refine Op.rD (d:=.int .i64) (z:=vN) (mt:=76) (x:=4) (dst:=5) (m:=D) (by kernel_rfl) (by kernel_rfl) (by kernel_rfl) (hs.sub _ _ G) ad hs fun O ca ci cb ce=>Op.gt 1 ?_
 have cf:∀(m:Nat) (am:GH) (U:aG g am) (vs:List (Int×Value)) (rs:List (Int×Value)) (c1:au) (o1:Obj) (a6:av) (hm:rs.length<m) (ar:go (vs.map (·.1))=true) (aw:qE go (vs.map (·.1))) (X:(vs++rs).Perm a5) (a7:I (vs.map (·.1)) am c1) (bk:lz encI bi bj D vs rs o1) (a0:St h g (aM [c]) am [[(O,o1)],c1] a6),At (bS prog B 82 f82 R) [] 1 [(0,.func (.yield l) #[] #[]),(5,vP O)] a6:=by
  intro m;induction m with
  |zero=>intros;omega
  |succ m ch=>
   intro am U vs rs c1 o1 a6 hm ar aw X a7 bk a0
   replace a3:=a3.mono U
   replace a4:=a4.mono U
   replace J:=U _ _ J
   replace G:=U _ _ G
   refine At.rg 2<|Op.wT (x:=5) (dst:=6) (it:=O) (m:=D) (by kernel_rfl) (by kernel_rfl) (a0.sub _ _ G) ad bk a0 0 rfl zt ⟨fun V=>?_,fun Y u a1 Z a8 ck V bm a9=>?_⟩
   ·exact Op.pg 2 [(7,vF)]<|At.dP 7 7<|At.rt dr<|hR a0.drop ⟨(vs.map (·.1)),vs.map (·.1),c1,rfl,by exact xl X V (ae.2.2.1),by exact rB _,by exact fun _=>rfl,by exact aw,rfl,a7⟩
   refine Op.pg 2 [(7,vT)]<|At.bX 7 3<|At.rg 3<|Op.wU (x:=5) (dst:=8) (it:=O) (m:=D) (vs:=vs) (k:=u) (v:=a1) (by kernel_rfl) (by kernel_rfl) (a9.sub _ _ G) ad bm (a9.ag 0 rfl)<|Op.pg 4 [(3,vI u)] ?_
   refine At.rp 4 2 [(10,.func (.yield l) #[] #[]),(11,vI u)] ?_
   have bo:=a9.fs [1] rfl
   refine Op.yield (dst:=some 12) (x:=10) (ops:=#[11]) (ts:=#[3]) (l:=l) (args:=#[vI u]) (Lc:=[c1]) (L:=[[(O,a8)]]) (by kernel_rfl) (by kernel_rfl) (by kernel_rfl) bo (a4 _ _ (vs.map (·.1)) u _ _ (by repeat (first|assumption|exact aG.refl _|apply aG.trans)) a3 (by exact ar) (by rfl) ⟨((vs++[(u,a1)])++(Y++Z)).map (·.1),by exact pO X V (ae.2.2.1),by exact⟨(Y++Z).map (·.1),by simp⟩⟩ a7 (St.part (Lc:=[c1]) (L:=[[(O,a8)]]) bo)) (fun _ _ _=>trivial) ?_
   rintro _ co _ c3 bs bt ⟨b3,rfl,rfl,b4⟩
   replace J:=bs _ _ J
   replace G:=bs _ _ G
   refine Op.pg 5 [(13,.bool (!(go (vs.map (·.1)++[u]))))]<|At.c_ (!(go (vs.map (·.1)++[u]))) 13 6 1 (fun bb=>?_) fun bc=>?_
   ·replace bb:=(dm bb)
    exact At.rt dr<|hR ((bt.fs [1] rfl).drop) ⟨((vs++[(u,a1)])++(Y++Z)).map (·.1),vs.map (·.1)++[u],b3,rfl,by exact pO X V (ae.2.2.1),by exact⟨(Y++Z).map (·.1),by simp⟩,by exact fun h=>absurd h (jc.1 bb),by exact nO aw ar,rfl,b4⟩
   replace bc:=(dn bc)
   exact At.ke (ch _ (aG.trans U (by repeat (first|assumption|apply aG.trans))) (vs++[(u,a1)]) (Y++Z) b3 a8 _ (by have hz:=congrArg List.length V;simp only[b_,bL] at hz ⊢;omega) (by simpa using bc) (by simpa using nO (x:=u) aw ar) (by exact rK X V) (by simpa using b4) bm (bt.fs [1] rfl))
 exact At.ke (cf _ _ (aG.refl _) [] a5 c ca _ (bK _) (by exact b6) (by exact uW go) (by exact gj _) (by exact b8) cb ce)
theorem TN (B:World) (h:av) (g:GH) (hg:bf g h) (ab:bh g) (u:Nat) (x:List (Int×(List ah))) (G:tV g u x):
  aA prog B 42 #[.map (some u)] h g [] (fun V g' L'=>∃f0 I,V=.func (.func f0) #[] I∧ei prog f0∧jD prog g' f0 I pR (fun X=>X.Perm (x.map (·.1)))∧L'=[]):=by
 refine aA.aq func42 fun R hR=>At.rg 2<|Op.bx 1 76 0 #[.map (some u)] (St.init hg) fun D ad Y=>Op.pg 1 []<|At.go 2 2 [(2,.func (.func 82) #[] #[vP D])] ?_
 obtain⟨J,O⟩:=St.freeze (Y)
 have U:=iQ (g:=g) D (.cells #[.map (some u)] 76 (0,0))
 generalize Z:cQ g _=ae at J O U;clear Z
 replace G:=G.mono O
 exact At.rt (.func (.func 82) #[] #[vP D]) (hR J ⟨82,#[vP D],rfl,ei.of (by kernel_rfl),TM _ D u x U G,rfl⟩)
theorem TO (g0:GH) (bd D:Nat) (x:List (Int×f_)) (J:g0 bd=some (.cells #[.map (some D)] 77 (0,0))) (ab:tW g0 D x):jD prog g0 83 #[vP bd] pR (fun b5=>b5.Perm (x.map (·.1))):=by
 intro B h g l I go c be hg a3 a4 b6 b8 hs
 replace J:=be _ _ J
 replace ab:=ab.mono be
 refine aA.aq func83 fun R hR=>At.rg 2<|Op.l1 77 1 4 0 (.map (some D)) (hs.sub _ _ J) ?_
 obtain⟨bi,bj,a5,G,ad,ae⟩:=ab
 have ab:tW g D x:=⟨bi,bj,a5,G,ad,ae⟩
 refine Op.rD (d:=.int .i64) (z:=.agg #[vI 0,vN]) (mt:=77) (x:=4) (dst:=5) (m:=D) (by kernel_rfl) (by kernel_rfl) (by kernel_rfl) (hs.sub _ _ G) ad hs fun O ca ci cb ce=>Op.gt 1 ?_
 have cf:∀(m:Nat) (am:GH) (U:aG g am) (vs:List (Int×Value)) (rs:List (Int×Value)) (c1:au) (o1:Obj) (a6:av) (hm:rs.length<m) (ar:go (vs.map (·.1))=true) (aw:qE go (vs.map (·.1))) (X:(vs++rs).Perm a5) (a7:I (vs.map (·.1)) am c1) (bk:lz encI bi bj D vs rs o1) (a0:St h g (aM [c]) am [[(O,o1)],c1] a6),At (bS prog B 83 f83 R) [] 1 [(0,.func (.yield l) #[] #[]),(5,vP O)] a6:=by
  intro m;induction m with
  |zero=>intros;omega
  |succ m ch=>
   intro am U vs rs c1 o1 a6 hm ar aw X a7 bk a0
   replace a3:=a3.mono U
   replace a4:=a4.mono U
   replace J:=U _ _ J
   replace G:=U _ _ G
   refine At.rg 2<|Op.wT (x:=5) (dst:=6) (it:=O) (m:=D) (by kernel_rfl) (by kernel_rfl) (a0.sub _ _ G) ad bk a0 0 rfl zt ⟨fun V=>?_,fun Y u a1 Z a8 ck V bm a9=>?_⟩
   ·exact Op.pg 2 [(7,vF)]<|At.dP 7 7<|At.rt dr<|hR a0.drop ⟨(vs.map (·.1)),vs.map (·.1),c1,rfl,by exact xl X V (ae.2.2.1),by exact rB _,by exact fun _=>rfl,by exact aw,rfl,a7⟩
   refine Op.pg 2 [(7,vT)]<|At.bX 7 3<|At.rg 3<|Op.wU (x:=5) (dst:=8) (it:=O) (m:=D) (vs:=vs) (k:=u) (v:=a1) (by kernel_rfl) (by kernel_rfl) (a9.sub _ _ G) ad bm (a9.ag 0 rfl)<|Op.pg 4 [(3,vI u)] ?_
   refine At.rp 4 2 [(10,.func (.yield l) #[] #[]),(11,vI u)] ?_
   have bo:=a9.fs [1] rfl
   refine Op.yield (dst:=some 12) (x:=10) (ops:=#[11]) (ts:=#[3]) (l:=l) (args:=#[vI u]) (Lc:=[c1]) (L:=[[(O,a8)]]) (by kernel_rfl) (by kernel_rfl) (by kernel_rfl) bo (a4 _ _ (vs.map (·.1)) u _ _ (by repeat (first|assumption|exact aG.refl _|apply aG.trans)) a3 (by exact ar) (by rfl) ⟨((vs++[(u,a1)])++(Y++Z)).map (·.1),by exact pO X V (ae.2.2.1),by exact⟨(Y++Z).map (·.1),by simp⟩⟩ a7 (St.part (Lc:=[c1]) (L:=[[(O,a8)]]) bo)) (fun _ _ _=>trivial) ?_
   rintro _ co _ c3 bs bt ⟨b3,rfl,rfl,b4⟩
   replace J:=bs _ _ J
   replace G:=bs _ _ G
   refine Op.pg 5 [(13,.bool (!(go (vs.map (·.1)++[u]))))]<|At.c_ (!(go (vs.map (·.1)++[u]))) 13 6 1 (fun bb=>?_) fun bc=>?_
   ·replace bb:=(dm bb)
    exact At.rt dr<|hR ((bt.fs [1] rfl).drop) ⟨((vs++[(u,a1)])++(Y++Z)).map (·.1),vs.map (·.1)++[u],b3,rfl,by exact pO X V (ae.2.2.1),by exact⟨(Y++Z).map (·.1),by simp⟩,by exact fun h=>absurd h (jc.1 bb),by exact nO aw ar,rfl,b4⟩
   replace bc:=(dn bc)
   exact At.ke (ch _ (aG.trans U (by repeat (first|assumption|apply aG.trans))) (vs++[(u,a1)]) (Y++Z) b3 a8 _ (by have hz:=congrArg List.length V;simp only[b_,bL] at hz ⊢;omega) (by simpa using bc) (by simpa using nO (x:=u) aw ar) (by exact rK X V) (by simpa using b4) bm (bt.fs [1] rfl))
 exact At.ke (cf _ _ (aG.refl _) [] a5 c ca _ (bK _) (by exact b6) (by exact uW go) (by exact gj _) (by exact b8) cb ce)
theorem TP (B:World) (h:av) (g:GH) (hg:bf g h) (ab:bh g) (u:Nat) (x:List (Int×f_)) (G:tW g u x):
  aA prog B 43 #[.map (some u)] h g [] (fun V g' L'=>∃f0 I,V=.func (.func f0) #[] I∧ei prog f0∧jD prog g' f0 I pR (fun X=>X.Perm (x.map (·.1)))∧L'=[]):=by
 refine aA.aq func43 fun R hR=>At.rg 2<|Op.bx 1 77 0 #[.map (some u)] (St.init hg) fun D ad Y=>Op.pg 1 []<|At.go 2 2 [(2,.func (.func 83) #[] #[vP D])] ?_
 obtain⟨J,O⟩:=St.freeze (Y)
 have U:=iQ (g:=g) D (.cells #[.map (some u)] 77 (0,0))
 generalize Z:cQ g _=ae at J O U;clear Z
 replace G:=G.mono O
 exact At.rt (.func (.func 83) #[] #[vP D]) (hR J ⟨83,#[vP D],rfl,ei.of (by kernel_rfl),TO _ D u x U G,rfl⟩)
set_option maxHeartbeats 12000000 in
theorem qU (B:World) (h:av) (g:GH) (hg:bf g h) (G:bh g) (I:Nat) (s:Sp) (bd:au) (lh:bB g I s bd) (hp:DN s) (hs:St h g (aM [bd]) g [bd] h):
  aA prog B 13 #[vP I] h g [bd] (fun li g' L'=>∃v0 fl v1 fp v2 fr v3 ft v4 fv fw,li=.agg #[.int .i64 ((cO s).bw),.int .i64 ((cO s).bg),v0,v1,v2,v3,v4]∧aF 56 kJ g' v0 ((cO s).cy) fl∧aF 69 cu g' v1 ((cO s).cX) fp∧aF 130 nL g' v2 ((cO s).dG) fr∧aF 69 cu g' v3 ((cO s).aW) ft∧aF 103 ni g' v4 ((cO s).cw) fv∧bB g' I s fw∧L'=[fw,fl,fp,fr,ft,fv]):=by
 refine aA.aq func13 fun R hR=>At.rg 1<|Op.al 2 46 qS hs fun bm xr lj=>Op.gt 1 ?_
 have c9:∀(m:Nat) (be:GH) (fx:aG g be) (y:Sp) (da:gf) (ea:au) (U:Nat) (eb:au) (ed:av) (hm:0<m) (hy:y=s) (hq:DN y) (ee:sH y da 0) (f0:bB be I y ea) (f1:oW be U da eb) (f2:St h g (aM [bd]) be [[(bm,Obj.cells qS 46 (0,0))],ea,eb] ed),At (bS prog B 13 f13 R) [] 2 [(0,vP I),(2,vP bm),(3,vP U)] ed:=by
  intro m;induction m with
  |zero=>intros;omega
  |succ m xt=>
   intro be fx y da ea U eb ed hm hy hq ee f0 f1 f2
   replace G:=G.mono fx
   refine At.rp 8 3 [(34,vQ I 5)] ?_
   obtain⟨f3,db,f4,dc,f5,dd,a7,lk,a5,f6,ll,cf,ch,ci,f7,df⟩:=f0
   have f8:=St.un [db,dc,dd,lk,f6] ll (f2.fs [1] rfl)
   refine Op.l1 76 34 35 5 (.map (some a7)) (f8.ag 0 rfl) ?_
   have ck:=f8.fs [3,3,3,3,4] rfl
   have lm:=gM.fK f7 ck (fun p hp=>hp)
   have f9:=ck.freeze.1
   have gc:=ck.freeze.2
   have dg:=G.mono gc
   refine Op.c0 (some 36) (TN _ _ _ f9.sub dg a7 y.events lm) f9 ?_
   rintro _ xv _ yi ln ge ⟨f55,lr,rfl,lv,lw,rfl⟩
   replace dg:=dg.mono ln
   refine Op.c0 (some 37) (CI _ _ _ ge.sub dg f55 lr (y.events.map (·.1)) lv lw (by((try dsimp only)<;>((have:=hq.el;have:=hq.rl;rw[eu];omega))))) ge ?_
   rintro _ lx _ yk ly lA ⟨yn,ef,rfl,bo,J,rfl⟩;subst lx;clear ly
   obtain⟨lL,gg,rfl⟩:=bo.ai
   have lO:=ck.uC (lA.xy (aG.trans ck.le gc) (by repeat (first|assumption|exact aG.refl _|apply aG.trans)))
   replace bo:=bo.aX (fun _ _ _ _ h=>h) (g':=be)
   refine Op.pg 3 [(38,vI ((dR (y.events.map (·.1))).length:Int)),(39,vI 0)] ?_
   obtain⟨gk,gn,yr,eh,l0,gs,bs⟩:=f7
   have l2:∀(m:Nat) (bi:GH) (a6:aG be bi) (im:gf) (i:Int) (ej:au) (em:av) (hm:(dR (y.events.map (·.1))).length-i.toNat<m) (h0:0≤i) (h1:i≤(dR (y.events.map (·.1))).length) (hI:sH y im i) (hn:(im.aW.length:Int)≤8*i) (en:oW bi U im ej) (co:St h g (aM [bd]) bi [[(a7,.map gk gn)],eh,ef,[(I,Obj.cells #[vP f3,vP f4,vP f5,vI y.ax,vI y.count,.map (some a7),.map (some a5)] 79 (0,0))],db,dc,dd,f6,[(bm,Obj.cells qS 46 (0,0))],ej] em),At (bS prog B 13 f13 R) [] 3 [(0,vP I),(2,vP bm),(3,vP U),(37,vL lL ((dR (y.events.map (·.1))).length) gg),(38,vI ((dR (y.events.map (·.1))).length:Int)),(39,vI i)] em:=by
    intro m;induction m with
    |zero=>intros;omega
    |succ m l3=>
     intro bi a6 im i ej em hm h0 h1 hI hn en co
     replace cf:=cf.mono a6
     replace ch:=ch.mono a6
     replace ci:=ci.mono a6
     replace df:=df.mono a6
     replace bo:=bo.mono a6
     replace G:=G.mono a6
     replace bs:=bs.mono a6
     refine At.go 4 1 [(40,.bool (decide (i<((dR (y.events.map (·.1))).length:Int))))]<|At.fd (i<((dR (y.events.map (·.1))).length:Int)) 40 5 8 (fun yv=>?_) fun y7=>?_
     ·refine At.rg 3 ?_
      obtain⟨bt,eo⟩:=cD (dR (y.events.map (·.1))) i
      obtain⟨l4,g1,y8,z1,l8,ma,ep⟩:=ig.br (bo.toH co 2 rfl) _ eo
      cases l8
      refine Op.iq 81 3 1 8 ((dR (y.events.map (·.1))).length) gg 37 39 41 l4 g1 i ?_
      replace ep:cut _ _ _=[vI bt]:=ep
      refine Op.l1 3 41 42 (g1+i.toNat*1) (vI bt) ma ?_ (hv:=cT ep 0 rfl)
      refine Op.pg 6 [(5,vI bt)] ?_
      obtain⟨z2,md,z3,mf,z4,mi,z5,ml,z6,mp,mx,g2,g3,g4,g5,g6⟩:=en
      obtain⟨my,m0,rfl⟩:=g2.ai
      obtain⟨m1,m2,rfl⟩:=g3.ai
      obtain⟨m3,m4,rfl⟩:=g4.ai
      obtain⟨a117,m5,rfl⟩:=g5.ai
      obtain⟨a119,n120,rfl⟩:=g6.ai
      have er:=St.un [md,mf,mi,ml,mp] mx (co.fs [8,8,8,8,8,8,8,8,8,9] rfl)
      refine At.dw (fun _=>False) [(0,true),(2,true),(3,true),(4,true),(6,true),(1,true),(5,false),(7,false),(1008,false),(8,false),(9,true),(10,false)]<|Op.px 5 [(43,vQ U 5),(47,vQ I 5),(49,vI bt)]<|Op.lf 42 43 5 44 1 (vL a117 im.aW.length m5) id (er.ag 0 rfl)<|Op.l1 76 47 48 5 (.map (some a7)) (er.ag 9 rfl) ?_
      rcases bs.gy bt with ⟨g7,dj,m6⟩|⟨z7,b3,z8,z9,g7,dj,g8,g9,m6⟩
      ·exfalso;exact vJ hq.se eo dj
      obtain⟨m7,m8,rfl⟩:=g8.ai
      have et:=St.nW g9 (er.fs [6,6,6,6,6,6,6,7] rfl)
      refine Op.mk (.slice none 0 0) 76 48 49 50 bt (vL m7 b3.length m8) (et.ag 8 rfl) gs g7<|Op.ba ?_
      obtain⟨A0,m9,na⟩:=di.slice (P:=prog) (g8.toH et 0 rfl)
      refine Op.ap 44 50 42 42 51 69 32 cu (ys:=b3) g5 et 6 na (by(have h7:=DQ hq.W.quo ‹_›;have h8:=hq.el;have h9:=h1;rw[lD,eu] at h9;omega)) (fun _ _ _=>trivial) m9 fun v139 A1 CH ha nb CM=>?_
      obtain⟨hb,n146,rfl⟩:=ha.ai
      refine Op.px 1 [(52,vQ U 5)]<|Op.s1 42 52 51 5 (vL hb ((im.aW++b3).length) n146) 2 #[vI im.bw,vI im.bg,vL my im.cy.length m0,vL m1 im.cX.length m2,vL m3 im.dG.length m4,vL hb ((im.aW++b3).length) n146,vL a119 im.cw.length n120] nb zt fun Eq nd=>Op.gt 7<|At.rg 2<|Op.dQ 53 (i+1) (by omega) (by(have h7:=DQ hq.W.quo ‹_›;have h8:=hq.el;have h9:=h1;rw[lD,eu] at h9;omega)) ?_
      refine Op.pg 3 [(39,vI (i+1))] ?_
      obtain⟨EQ,nf,nm⟩:=St.bl (Q:=oW bi U (⟨im.bw,im.bg,im.cy,im.cX,im.dG,im.aW++b3,im.cw⟩:gf)) 6 (nd.fs [1,1,7,7,7,7,7,7] rfl) ⟨_,_,_,_,_,_,_,_,_,_,rfl,g2,g3,g4,ha,g6⟩
      exact At.ke (l3 _ a6 (⟨im.bw,im.bg,im.cy,im.cX,im.dG,im.aW++b3,im.cw⟩:gf) (i+1) _ _ (by omega) (by omega) (by omega) (by exact TH hq.se hI h0 eo dj) (by(have h7:=DQ hq.W.quo dj;simp only[b_];omega)) nf ((St.tw g9 (nm.fs [2,2] rfl)).fs [1,9,9,9,9,9,9,9,8,9] rfl))
     refine At.rp 8 3 [(56,vQ I 6)]<|Op.l1 77 56 57 6 (.map (some a5)) (co.ag 3 rfl) ?_
     have c3:=co.fs [6,6,6,6,6,6,6,7] rfl
     have nn:=iK.fK df c3 (fun p hp=>hp)
     have he:=c3.freeze.1
     have hf:=c3.freeze.2
     have dk:=G.mono hf
     refine Op.c0 (some 58) (TP _ _ _ he.sub dk a5 y.aI nn) he ?_
     rintro _ Fd _ Fn no hh ⟨f163,np,rfl,nu,nx,rfl⟩
     replace dk:=dk.mono no
     refine Op.c0 (some 59) (CI _ _ _ hh.sub dk f163 np (y.aI.map (·.1)) nu nx (by((try dsimp only)<;>((have:=hq.el;have:=hq.rl;rw[lD,eu] at *;omega))))) hh ?_
     rintro _ nz _ Fr n0 n3 ⟨v171,hj,rfl,b4,J,rfl⟩;subst nz;clear n0
     obtain⟨oi,hl,rfl⟩:=b4.ai
     have oj:=c3.uC (n3.xy (aG.trans c3.le hf) (by repeat (first|assumption|exact aG.refl _|apply aG.trans)))
     replace b4:=b4.aX (fun _ _ _ _ h=>h) (g':=bi)
     refine Op.pg 9 [(60,vI ((dR (y.aI.map (·.1))).length:Int)),(61,vI 0)] ?_
     obtain⟨ho,hr,FS,rfl,b5,a8⟩:=df
     have ol:∀(m:Nat) (bj:GH) (Z:aG bi bj) (u:gf) (j:Int) (ex:au) (eA:av) (hm:(dR (y.aI.map (·.1))).length-j.toNat<m) (h4:0≤j) (h5:j≤(dR (y.aI.map (·.1))).length) (ae:sI y u j) (hm:(u.cw.length:Int)≤j) (eB:oW bj U u ex) (dl:St h g (aM [bd]) bj [[(a5,.map ho hr)],hj,[(a7,.map gk gn)],eh,ef,[(I,Obj.cells #[vP f3,vP f4,vP f5,vI y.ax,vI y.count,.map (some a7),.map (some a5)] 79 (0,0))],db,dc,dd,[(bm,Obj.cells qS 46 (0,0))],ex] eA),At (bS prog B 13 f13 R) [] 9 [(0,vP I),(2,vP bm),(3,vP U),(59,vL oi ((dR (y.aI.map (·.1))).length) hl),(60,vI ((dR (y.aI.map (·.1))).length:Int)),(61,vI j)] eA:=by
      intro m;induction m with
      |zero=>intros;omega
      |succ m eI=>
       intro bj Z u j ex eA hm h4 h5 ae hm eB dl
       replace b4:=b4.mono Z
       replace cf:=cf.mono Z
       replace ch:=ch.mono Z
       replace ci:=ci.mono Z
       replace G:=G.mono Z
       replace bs:=bs.mono Z
       replace a8:=a8.mono (fun _ _=>qa.mono Z)
       refine At.go 10 1 [(62,.bool (decide (j<((dR (y.aI.map (·.1))).length:Int))))]<|At.fd (j<((dR (y.aI.map (·.1))).length:Int)) 62 11 14 (fun GE=>?_) fun GT=>?_
       ·refine At.rg 3 ?_
        obtain⟨D,b6⟩:=cD (dR (y.aI.map (·.1))) j
        obtain⟨or,hu,Ha,Hb,ow,o3,eJ⟩:=ig.br (b4.toH dl 1 rfl) _ b6
        cases ow
        refine Op.iq 81 3 1 8 ((dR (y.aI.map (·.1))).length) hl 59 61 63 or hu j ?_
        replace eJ:cut _ _ _=[vI D]:=eJ
        refine Op.l1 3 63 64 (hu+j.toNat*1) (vI D) o3 ?_ (hv:=cT eJ 0 rfl)
        refine Op.pg 12 [(7,vI D)] ?_
        obtain⟨Hc,hw,Hd,hx,Hk,hz,Hm,hA,Hn,hB,o4,am,ar,aw,a0,a1⟩:=eB
        obtain⟨eK,n217,rfl⟩:=am.ai
        obtain⟨a218,n219,rfl⟩:=ar.ai
        obtain⟨eL,n221,rfl⟩:=aw.ai
        obtain⟨a222,eQ,rfl⟩:=a0.ai
        obtain⟨pa,n225,rfl⟩:=a1.ai
        have V:=St.un [hw,hx,hz,hA,hB] o4 (dl.fs [9,9,9,9,9,9,9,9,9,9,10] rfl)
        refine At.KY (by kernel_rfl) (aM [hw,hx,hz,hA,hB,hj,ef,db,dc,dd]) 22 (.mv 0 true (.mv 2 true (.mv 3 true (.mv 4 true (.mv 5 true (.mv 7 true (.mv 10 true (.mv 11 true (.mv 12 true (.mv 14 true (.mv 1 true (.mv 6 true (.mv 13 true (.gb 8 15 (.seq [(9,true),(15,false),(16,true),(17,false),(18,true),(19,false),(20,false),(21,true),(1022,false),(22,false)]) (.mv 16 true (.gb 8 17 (.seq [(9,true),(17,false),(18,true),(19,false),(20,false),(21,true),(1022,false),(22,false)]) (.seq [(8,false),(9,true),(18,true),(19,false),(20,false),(21,true),(1022,false),(22,false)]))))))))))))))))) (by kernel_rfl)<|Op.px 10 [(65,vQ U 6),(67,vI D),(70,vQ I 6),(72,vI D),(77,vQ I 6),(79,vI D)]<|Op.lf 44 65 6 66 1 (vL pa u.cw.length n225) (V.dF 0 [1,2,3,4,5,7,10,12,13,14] rfl rfl rfl) (V.ag 0 rfl)<|Op.lf 77 70 6 71 1 (.map (some a5)) (V.dF 11 [1,2,3,4,5,7,10,12,13,14] rfl rfl rfl) (V.ag 11 rfl)<|Op.lf 77 77 6 78 1 (.map (some a5)) (V.dF 11 [1,2,3,4,5,7,10,12,13,14] rfl rfl rfl) (V.ag 11 rfl) ?_
        refine Op.x8 ?_ ?_
        ·rcases a8.gy D with ⟨hC,hD⟩|⟨v228,a229,hC,hD,pb⟩
         ·exfalso;exact vJ hq.sr b6 hD
         obtain⟨HA,rfl,pc⟩:=pb
         obtain⟨pd,n236,rfl⟩:=pc.ai
         refine Op.mk n9 77 71 72 73 D (.agg #[vI a229.stamp,vL pd (a229.data.length) n236]) (V.ag 6 rfl) b5 hC<|Op.px 1 [(74,vI a229.stamp)] ?_
         rcases a8.gy D with ⟨hE,hF⟩|⟨HB,ab,hE,hF,pf⟩
         ·exfalso;exact vJ hq.sr b6 hF
         obtain⟨HI,rfl,hG⟩:=pf
         obtain⟨hH,hJ,rfl⟩:=hG.ai
         refine Op.mk n9 77 78 79 80 D (.agg #[vI ab.stamp,vL hH (ab.data.length) hJ]) (V.ag 6 rfl) b5 hE<|Op.px 1 [(81,vL hH (ab.data.length) hJ)]<|Op.c0 (some 82) (mc _ _ _ V.sub G _ _ hG (by((try dsimp only)<;>(exact DP hq.rp hq.sr ‹_›)))) V ?_
         rintro _ ph _ H0 pj pl ⟨H1,H2,rfl,hK,J,rfl⟩;subst ph;clear pj
         obtain⟨eT,e1,rfl⟩:=hK.ai
         refine Op.px 1 [(83,.agg #[vI D,vI a229.stamp,vL eT (ab.data.length) e1])] ?_
         obtain⟨pm,po,c4,pu⟩:=aF.freeze hK (pl)
         replace am:=am.mono c4
         replace ar:=ar.mono c4
         replace aw:=aw.mono c4
         replace a0:=a0.mono c4
         replace a1:=a1.mono c4
         refine Op.ls 84 1 103 #[vI D,vI a229.stamp,vL eT (ab.data.length) e1] po fun H3 H4 hL=>Op.ap 66 84 44 44 85 103 40 ni (ys:=[(⟨D,a229.stamp,ab.data⟩:fV)]) a1 hL 6 (⟨_,_,rfl,⟨_,pu,rfl⟩,Reads.nil⟩) (by(have:=hq.el;have:=hq.rl;rw[lD,eu] at *;simp only[bL,cS];omega)) (fun p hq _=>⟨p,by simp[hq],rfl⟩) (di.lit (m:=1) (sz:=3) (hL.ag 0 rfl) (news:=[vI D,vI a229.stamp,vL eT (ab.data.length) e1]) rfl rfl (by simp[Value.oneCell']) _) fun H5 Id If hN pv IH=>?_
         obtain⟨hO,hP,rfl⟩:=hN.ai
         refine Op.px 1 [(86,vQ U 6)]<|Op.ba<|Op.s1 44 86 85 6 (vL hO ((u.cw++([(⟨D,a229.stamp,ab.data⟩:fV)])).length) hP) 0 #[vI u.bw,vI u.bg,vL eK u.cy.length n217,vL a218 u.cX.length n219,vL eL u.dG.length n221,vL a222 u.aW.length eQ,vL hO ((u.cw++([(⟨D,a229.stamp,ab.data⟩:fV)])).length) hP] ((pv).drop) zt fun IO pw=>Op.gt 13<|At.rg 2 ?_
         refine Op.dQ 87 (j+1) (by omega) (by(have:=hq.el;have:=hq.rl;rw[lD,eu] at *;omega))<|Op.pg 9 [(61,vI (j+1))] ?_
         obtain⟨IR,py,pA⟩:=St.bl (Q:=oW pm U (⟨u.bw,u.bg,u.cy,u.cX,u.dG,u.aW,u.cw++([(⟨D,a229.stamp,ab.data⟩:fV)])⟩:gf)) 6 pw ⟨_,_,_,_,_,_,_,_,_,_,rfl,am,ar,aw,a0,hN⟩
         exact At.ke (eI _ (aG.trans Z (by repeat (first|assumption|apply aG.trans))) (⟨u.bw,u.bg,u.cy,u.cX,u.dG,u.aW,u.cw++([(⟨D,a229.stamp,ab.data⟩:fV)])⟩:gf) (j+1) _ _ (by omega) (by omega) (by omega) (by exact DO hq.sr ae h4 ‹_› ‹_› ‹_›) (by(simp only[b_,bL,cS];omega)) py (pA.fs [10,10,10,10,10,10,10,10,10,10] rfl))
        rcases a8.gy D with ⟨hQ,hS⟩|⟨I8,O,hQ,hS,pB⟩
        ·exfalso;exact vJ hq.sr b6 hS
        obtain⟨Ly,rfl,e2⟩:=pB
        obtain⟨hT,n285,rfl⟩:=e2.ai
        refine Op.mk n9 77 78 79 80 D (.agg #[vI O.stamp,vL hT (O.data.length) n285]) (V.ag 6 rfl) b5 hQ<|Op.px 1 [(81,vL hT (O.data.length) n285)]<|Op.x8 ?_ ?_
        ·rcases a8.gy D with ⟨hV,hW⟩|⟨LE,ad,hV,hW,pC⟩
         ·exfalso;exact vJ hq.sr b6 hW
         obtain⟨LO,rfl,pD⟩:=pC
         obtain⟨p0,n294,rfl⟩:=pD.ai
         refine Op.mk n9 77 71 72 73 D (.agg #[vI ad.stamp,vL p0 (ad.data.length) n294]) (V.ag 6 rfl) b5 hV<|Op.px 1 [(74,vI ad.stamp)]<|Op.c0 (some 82) (mc _ _ _ V.sub G _ _ e2 (by((try dsimp only)<;>(exact DP hq.rp hq.sr ‹_›)))) V ?_
         rintro _ p1 _ M2 p2 p3 ⟨Ne,Nm,rfl,hX,J,rfl⟩;subst p1;clear p2
         obtain⟨e3,n301,rfl⟩:=hX.ai
         refine Op.px 1 [(83,.agg #[vI D,vI ad.stamp,vL e3 (O.data.length) n301])] ?_
         obtain⟨p8,qr,c5,q0⟩:=aF.freeze hX (p3)
         replace am:=am.mono c5
         replace ar:=ar.mono c5
         replace aw:=aw.mono c5
         replace a0:=a0.mono c5
         replace a1:=a1.mono c5
         refine Op.ls 84 1 103 #[vI D,vI ad.stamp,vL e3 (O.data.length) n301] qr fun NE Ok hY=>Op.ap 66 84 44 44 85 103 40 ni (ys:=[(⟨D,ad.stamp,O.data⟩:fV)]) a1 hY 6 (⟨_,_,rfl,⟨_,q0,rfl⟩,Reads.nil⟩) (by(have:=hq.el;have:=hq.rl;rw[lD,eu] at *;simp only[bL,cS];omega)) (fun p hq _=>⟨p,by simp[hq],rfl⟩) (di.lit (m:=1) (sz:=3) (hY.ag 0 rfl) (news:=[vI D,vI ad.stamp,vL e3 (O.data.length) n301]) rfl rfl (by simp[Value.oneCell']) _) fun Or Os Pi hZ q1 Pl=>?_
         obtain⟨h2,n318,rfl⟩:=hZ.ai
         refine Op.px 1 [(86,vQ U 6)]<|Op.ba<|Op.s1 44 86 85 6 (vL h2 ((u.cw++([(⟨D,ad.stamp,O.data⟩:fV)])).length) n318) 0 #[vI u.bw,vI u.bg,vL eK u.cy.length n217,vL a218 u.cX.length n219,vL eL u.dG.length n221,vL a222 u.aW.length eQ,vL h2 ((u.cw++([(⟨D,ad.stamp,O.data⟩:fV)])).length) n318] ((q1).drop) zt fun Ps q2=>Op.gt 13<|At.rg 2 ?_
         refine Op.dQ 87 (j+1) (by omega) (by(have:=hq.el;have:=hq.rl;rw[lD,eu] at *;omega))<|Op.pg 9 [(61,vI (j+1))] ?_
         obtain⟨PH,q3,rb⟩:=St.bl (Q:=oW p8 U (⟨u.bw,u.bg,u.cy,u.cX,u.dG,u.aW,u.cw++([(⟨D,ad.stamp,O.data⟩:fV)])⟩:gf)) 6 q2 ⟨_,_,_,_,_,_,_,_,_,_,rfl,am,ar,aw,a0,hZ⟩
         exact At.ke (eI _ (aG.trans Z (by repeat (first|assumption|apply aG.trans))) (⟨u.bw,u.bg,u.cy,u.cX,u.dG,u.aW,u.cw++([(⟨D,ad.stamp,O.data⟩:fV)])⟩:gf) (j+1) _ _ (by omega) (by omega) (by omega) (by exact DO hq.sr ae h4 ‹_› ‹_› ‹_›) (by(simp only[b_,bL,cS];omega)) q3 (rb.fs [10,10,10,10,10,10,10,10,10,10] rfl))
        refine Op.c0 (some 82) (mc _ _ _ V.sub G _ _ e2 (by((try dsimp only)<;>(exact DP hq.rp hq.sr ‹_›)))) V ?_
        rintro _ rc _ PP rd h3 ⟨PQ,P1,rfl,h6,J,rfl⟩;subst rc;clear rd
        obtain⟨e4,n332,rfl⟩:=h6.ai
        rcases a8.gy D with ⟨ib,ih⟩|⟨P2,a3,ib,ih,re⟩
        ·exfalso;exact vJ hq.sr b6 ih
        obtain⟨QP,rfl,rf⟩:=re
        obtain⟨rh,n343,rfl⟩:=rf.ai
        refine Op.mk n9 77 71 72 73 D (.agg #[vI a3.stamp,vL rh (a3.data.length) n343]) (h3.ag 7 rfl) b5 ib<|Op.px 2 [(83,.agg #[vI D,vI a3.stamp,vL e4 (O.data.length) n332])] ?_
        obtain⟨rk,rr,c6,rv⟩:=aF.freeze h6 (h3)
        replace am:=am.mono c6
        replace ar:=ar.mono c6
        replace aw:=aw.mono c6
        replace a0:=a0.mono c6
        replace a1:=a1.mono c6
        refine Op.ls 84 1 103 #[vI D,vI a3.stamp,vL e4 (O.data.length) n332] rr fun QQ QR ii=>Op.ap 66 84 44 44 85 103 40 ni (ys:=[(⟨D,a3.stamp,O.data⟩:fV)]) a1 ii 6 (⟨_,_,rfl,⟨_,rv,rfl⟩,Reads.nil⟩) (by(have:=hq.el;have:=hq.rl;rw[lD,eu] at *;simp only[bL,cS];omega)) (fun p hq _=>⟨p,by simp[hq],rfl⟩) (di.lit (m:=1) (sz:=3) (ii.ag 0 rfl) (news:=[vI D,vI a3.stamp,vL e4 (O.data.length) n332]) rfl rfl (by simp[Value.oneCell']) _) fun Rd RK R2 ik rx So=>?_
        obtain⟨il,io,rfl⟩:=ik.ai
        refine Op.px 1 [(86,vQ U 6)]<|Op.ba<|Op.s1 44 86 85 6 (vL il ((u.cw++([(⟨D,a3.stamp,O.data⟩:fV)])).length) io) 0 #[vI u.bw,vI u.bg,vL eK u.cy.length n217,vL a218 u.cX.length n219,vL eL u.dG.length n221,vL a222 u.aW.length eQ,vL il ((u.cw++([(⟨D,a3.stamp,O.data⟩:fV)])).length) io] ((rx).drop) zt fun ST r0=>Op.gt 13<|At.rg 2 ?_
        refine Op.dQ 87 (j+1) (by omega) (by(have:=hq.el;have:=hq.rl;rw[lD,eu] at *;omega))<|Op.pg 9 [(61,vI (j+1))] ?_
        obtain⟨T1,r1,r2⟩:=St.bl (Q:=oW rk U (⟨u.bw,u.bg,u.cy,u.cX,u.dG,u.aW,u.cw++([(⟨D,a3.stamp,O.data⟩:fV)])⟩:gf)) 6 r0 ⟨_,_,_,_,_,_,_,_,_,_,rfl,am,ar,aw,a0,ik⟩
        exact At.ke (eI _ (aG.trans Z (by repeat (first|assumption|apply aG.trans))) (⟨u.bw,u.bg,u.cy,u.cX,u.dG,u.aW,u.cw++([(⟨D,a3.stamp,O.data⟩:fV)])⟩:gf) (j+1) _ _ (by omega) (by omega) (by omega) (by exact DO hq.sr ae h4 ‹_› ‹_› ‹_›) (by(simp only[b_,bL,cS];omega)) r1 (r2.fs [10,10,10,10,10,10,10,10,10,10] rfl))
       refine At.rg 2 ?_
       obtain⟨T2,ip,UV,is,U2,iv,Vk,i0,Vl,i1,r3,i2,i3,i4,i5,i6⟩:=eB
       obtain⟨dp,dq,rfl⟩:=i2.ai
       obtain⟨du,dv,rfl⟩:=i3.ai
       obtain⟨dC,dE,rfl⟩:=i4.ai
       obtain⟨dT,d0,rfl⟩:=i5.ai
       obtain⟨d1,d2,rfl⟩:=i6.ai
       have i7:=St.un [ip,is,iv,i0,i1] r3 (dl.fs [9,9,9,9,9,9,9,9,9,9,10] rfl)
       refine Op.la 46 3 88 0 7 [vI u.bw,vI u.bg,vL dp u.cy.length dq,vL du u.cX.length dv,vL dC u.dG.length dE,vL dT u.aW.length d0,vL d1 u.cw.length d2] (i7.ag 0 rfl)<|Op.sg 46 2 88 0 15 #[vI u.bw,vI u.bg,vL dp u.cy.length dq,vL du u.cX.length dv,vL dC u.dG.length dE,vL dT u.aW.length d0,vL d1 u.cw.length d2] i7 zt fun Vm sc=>Op.gt 15 ?_
       obtain⟨Vn,sd,sf⟩:=St.bl (Q:=gM bj a7 y.events) 2 (sc.fs [7,7,7,7,7,7,7,7,9,9] rfl) ⟨_,_,_,_,rfl,gs,bs⟩
       have sh:iK bj a5 y.aI [(a5,.map ho hr)]:=⟨_,_,_,rfl,b5,a8⟩
       obtain⟨sk,sm,i8⟩:=St.bl (Q:=bB bj I y) 6 (sf.fs [9,9,8,8,8,8,8,8,9,9,13,13,13,13] rfl) ⟨_,_,_,_,_,_,_,_,_,_,rfl,cf,ch,ci,sd,sh⟩
       exact At.rn f13 [.agg #[vI u.bw,vI u.bg,vL dp u.cy.length dq,vL du u.cX.length dv,vL dC u.dG.length dE,vL dT u.aW.length d0,vL d1 u.cw.length d2]] [.cell 2 46] ⟨⟨_,_,rfl,dB (n:=7) (by kernel_rfl) (i8.ag 9 rfl) (by kernel_rfl) rfl⟩,trivial⟩<|hR (i8.fs [6,6,6,6,6,5,9,9,9,9] rfl).drop.drop.drop.drop ⟨(vL dp u.cy.length dq),ip,(vL du u.cX.length dv),is,(vL dC u.dG.length dE),iv,(vL dT u.aW.length d0),i0,(vL d1 u.cw.length d2),i1,sk,(by(rw[vK ae ‹_›,hy])),dZ i2 (by(rw[vK ae ‹_›,hy])),dZ i3 (by(rw[vK ae ‹_›,hy])),dZ i4 (by(rw[vK ae ‹_›,hy])),dZ i5 (by(rw[vK ae ‹_›,hy])),dZ i6 (by(rw[vK ae ‹_›,hy])),sm.eq (by exact hy),rfl⟩
     exact At.ke (ol _ _ (aG.refl _) im 0 _ _ (bK _) (by omega) (by omega) (by exact TI hI ‹_›) (by(rw[hI];simp)) en oj)
   exact At.ke (l2 _ _ (aG.refl _) da 0 _ _ (bK _) (by omega) (by omega) (by exact ee) (by(rw[ee];simp)) f1 (St.un [eh] l0 lO))
 obtain⟨e5,i9,d3,jf,c8,jj,Vo,jn,Vp,js,so,a4,bk,a9,bb,bc⟩:=lh
 have X:=St.un [i9,jf,jj,jn,js] so (lj.fs [1] rfl)
 refine At.KY (by kernel_rfl) (aM [i9,jf,jj,jn,js]) 25 (.mv 0 true (.mv 1 true (.mv 2 true (.mv 4 true (.mv 5 true (.mv 6 true (.mv 8 true (.mv 9 true (.mv 10 true (.mv 13 true (.mv 14 true (.mv 15 true (.mv 18 true (.mv 19 true (.mv 20 true (.mv 3 true (.mv 7 true (.mv 11 true (.mv 16 true (.mv 21 true (.gb 12 24 (.gb 17 24 (.gb 22 24 (.seq [(23,true),(24,false),(1025,false),(25,false)]) (.seq [(22,false),(23,true),(1025,false),(25,false)])) (.seq [(17,false),(22,false),(23,true),(1025,false),(25,false)])) (.seq [(12,false),(17,false),(22,false),(23,true),(1025,false),(25,false)])))))))))))))))))))))) (by kernel_rfl)<|Op.px 15 [(10,vQ I 3),(14,vQ I 4),(18,vP I),(23,vQ I 1),(28,vQ I 2)]<|Op.lf 3 10 3 11 1 (vI s.ax) (X.dF 0 [1,2,3,4,5] rfl rfl rfl) (X.ag 0 rfl)<|Op.lf 3 14 4 15 1 (vI s.count) (X.dF 0 [1,2,3,4,5] rfl rfl rfl) (X.ag 0 rfl)<|Op.lf 70 18 0 19 1 (vP e5) (X.dF 0 [1,2,3,4,5] rfl rfl rfl) (X.ag 0 rfl) ?_
 refine Op.lf 72 23 1 24 1 (vP d3) (X.dF 0 [1,2,3,4,5] rfl rfl rfl) (X.ag 0 rfl)<|Op.lf 74 28 2 29 1 (vP c8) (X.dF 0 [1,2,3,4,5] rfl rfl rfl) (X.ag 0 rfl)<|Op.x8 ?_ ?_
 ·have d4:=X.fs [1] rfl
  have ss:=d4.gi
  have sA:=eU.fK a4 d4 (by intro p hp;simp only[cU,hp,g_,hU])
  refine Op.le (some 20) 0 d4 (Co _ _ _ d4.ij (G.mono ss) e5 s.an sA (by(try dsimp only)<;>exact hp.W.tree)) (fun _ _ _ hp=>by obtain⟨_,_,_,_,_,J,_⟩:=hp;exact J) ?_ (hM:=(fun _ _ h=>absurd h (gq _)))
  rintro _ _ Vq sB ⟨Vr,Vs,Vt,rfl,sT,J,rfl⟩;clear J
  obtain⟨Y,jt,b8,d5⟩:=Deep.row sT (sB.fs [2,2] rfl)
  replace a4:=a4.mono b8
  replace bk:=bk.mono b8
  replace a9:=a9.mono b8
  replace bb:=bb.mono b8
  replace bc:=bc.mono b8
  replace G:=G.mono b8
  obtain⟨ca,cb,rfl⟩:=d5.ai
  refine Op.x8 ?_ ?_
  ·have e6:=jt.fs [2,2,2,3] rfl
   refine Op.cl (some 25) 1 e6 (xS _ _ _ e6.sub G d3 s.aD _ bk (by((try dsimp only)<;>((have:=hp.W.wl;omega)))) (St.pt 1 e6)) ?_ (hM:=(fun _ _ h=>oD (by simp) h))
   rintro _ s0 _ Vu s2 j1 ⟨Vv,Vw,Vx,rfl,e7,j2,J,rfl⟩;subst s0;clear s2
   obtain⟨d6,d7,rfl⟩:=e7.ai
   refine Op.x8 ?_ ?_
   ·have e8:=j1.fs [4,4,4,4,4,5] rfl
    refine Op.cl (some 30) 1 e8 (zN _ _ _ e8.sub G c8 s.az _ a9 (by(try dsimp only)<;>exact hp.W.az) (St.pt 1 e8)) ?_ (hM:=(fun _ _ h=>oD (by simp) h))
    rintro _ s3 _ Vy s4 s8 ⟨Vz,VA,VB,rfl,kc,ta,J,rfl⟩;subst s3;clear s4
    obtain⟨kd,kh,rfl⟩:=kc.ai
    refine Op.px 1 [(31,.agg #[vI s.ax,vI s.count,vL ca (s.an.length) cb,vL d6 (s.aD.length) d7,vL kd ((s.az.map (·.2)).length) kh,vN,vN])]<|Op.al 3 46 qS s8 fun te VC ti=>Op.ba<|Op.sg 46 3 31 0 0 #[vI s.ax,vI s.count,vL ca (s.an.length) cb,vL d6 (s.aD.length) d7,vL kd ((s.az.map (·.2)).length) kh,vN,vN] ti zt fun VD tk=>Op.gt 2 ?_
    obtain⟨VE,tl,tm⟩:=St.bl (Q:=bB Y I s) 6 (tk.fs [5,5,4,3,9,9,6,7,8,9] rfl) ⟨_,_,_,_,_,_,_,_,_,_,rfl,a4,j2,ta,bb,bc⟩
    have tp:=aF.nil 69 cu Y
    have tt:=aF.nil 103 ni Y
    obtain⟨VF,tx,tz⟩:=St.bl (Q:=oW Y te (⟨s.ax,s.count,s.an,s.aD,s.az.map (·.2),([]:List ah),([]:List fV)⟩:gf)) 6 (tm.nl.nl.fs [2,1,2,4,5,6,6] rfl) ⟨_,_,_,_,_,_,_,_,_,_,rfl,d5,e7,kc,tp,tt⟩
    exact At.ke (c9 _ _ (by repeat (first|assumption|exact aG.refl _|apply aG.trans)) s (⟨s.ax,s.count,s.an,s.aD,s.az.map (·.2),([]:List ah),([]:List fV)⟩:gf) _ _ _ _ (bK _) (by rfl) (by exact hp) (by exact AE) tl tx (tz.fs [1,2] rfl))
   refine Op.al 3 46 qS j1 fun tA VG tB=>?_
   have e9:=tB.fs [5,5,5,5,5,5,6] rfl
   refine Op.cl (some 30) 1 e9 (zN _ _ _ e9.sub G c8 s.az _ a9 (by(try dsimp only)<;>exact hp.W.az) (St.pt 1 e9)) ?_ (hM:=(fun _ _ h=>oD (by simp) h))
   rintro _ tR _ VH tS t0 ⟨VI,VJ,VK,rfl,kk,t1,J,rfl⟩;subst tR;clear tS
   obtain⟨kl,km,rfl⟩:=kk.ai
   refine Op.px 1 [(31,.agg #[vI s.ax,vI s.count,vL ca (s.an.length) cb,vL d6 (s.aD.length) d7,vL kl ((s.az.map (·.2)).length) km,vN,vN])]<|Op.ba<|Op.sg 46 3 31 0 2 #[vI s.ax,vI s.count,vL ca (s.an.length) cb,vL d6 (s.aD.length) d7,vL kl ((s.az.map (·.2)).length) km,vN,vN] t0 zt fun VL t2=>Op.gt 2 ?_
   obtain⟨VM,t3,t4⟩:=St.bl (Q:=bB Y I s) 6 (t2.fs [5,5,4,4,9,9,6,7,8,9] rfl) ⟨_,_,_,_,_,_,_,_,_,_,rfl,a4,j2,t1,bb,bc⟩
   have t5:=aF.nil 69 cu Y
   have t6:=aF.nil 103 ni Y
   obtain⟨VN,t7,t8⟩:=St.bl (Q:=oW Y tA (⟨s.ax,s.count,s.an,s.aD,s.az.map (·.2),([]:List ah),([]:List fV)⟩:gf)) 6 (t4.nl.nl.fs [2,1,2,3,5,6,6] rfl) ⟨_,_,_,_,_,_,_,_,_,_,rfl,d5,e7,kk,t5,t6⟩
   exact At.ke (c9 _ _ (by repeat (first|assumption|exact aG.refl _|apply aG.trans)) s (⟨s.ax,s.count,s.an,s.aD,s.az.map (·.2),([]:List ah),([]:List fV)⟩:gf) _ _ _ _ (bK _) (by rfl) (by exact hp) (by exact AE) t3 t7 (t8.fs [1,2] rfl))
  refine Op.al 3 46 qS jt fun t9 VO ub=>?_
  have fa:=ub.fs [3,3,3,3,4] rfl
  refine Op.cl (some 25) 1 fa (xS _ _ _ fa.sub G d3 s.aD _ bk (by((try dsimp only)<;>((have:=hp.W.wl;omega)))) (St.pt 1 fa)) ?_ (hM:=(fun _ _ h=>oD (by simp) h))
  rintro _ ui _ VP ul us ⟨VQ,VR,VS,rfl,kv,ut,J,rfl⟩;subst ui;clear ul
  obtain⟨kw,kx,rfl⟩:=kv.ai
  have fg:=us.fs [5,5,5,5,5,5,6] rfl
  refine Op.cl (some 30) 1 fg (zN _ _ _ fg.sub G c8 s.az _ a9 (by(try dsimp only)<;>exact hp.W.az) (St.pt 1 fg)) ?_ (hM:=(fun _ _ h=>oD (by simp) h))
  rintro _ u1 _ VT u2 u3 ⟨VU,VV,VW,rfl,kA,u4,J,rfl⟩;subst u1;clear u2
  obtain⟨k0,k1,rfl⟩:=kA.ai
  refine Op.px 1 [(31,.agg #[vI s.ax,vI s.count,vL ca (s.an.length) cb,vL kw (s.aD.length) kx,vL k0 ((s.az.map (·.2)).length) k1,vN,vN])]<|Op.ba<|Op.sg 46 3 31 0 4 #[vI s.ax,vI s.count,vL ca (s.an.length) cb,vL kw (s.aD.length) kx,vL k0 ((s.az.map (·.2)).length) k1,vN,vN] u3 zt fun VX vd=>Op.gt 2 ?_
  obtain⟨VY,ve,vo⟩:=St.bl (Q:=bB Y I s) 6 (vd.fs [5,5,5,4,9,9,6,7,8,9] rfl) ⟨_,_,_,_,_,_,_,_,_,_,rfl,a4,ut,u4,bb,bc⟩
  have vx:=aF.nil 69 cu Y
  have vy:=aF.nil 103 ni Y
  obtain⟨VZ,v5,v6⟩:=St.bl (Q:=oW Y t9 (⟨s.ax,s.count,s.an,s.aD,s.az.map (·.2),([]:List ah),([]:List fV)⟩:gf)) 6 (vo.nl.nl.fs [2,1,2,3,4,6,6] rfl) ⟨_,_,_,_,_,_,_,_,_,_,rfl,d5,kv,kA,vx,vy⟩
  exact At.ke (c9 _ _ (by repeat (first|assumption|exact aG.refl _|apply aG.trans)) s (⟨s.ax,s.count,s.an,s.aD,s.az.map (·.2),([]:List ah),([]:List fV)⟩:gf) _ _ _ _ (bK _) (by rfl) (by exact hp) (by exact AE) ve v5 (v6.fs [1,2] rfl))
 refine Op.al 3 46 qS X fun v8 V0 v9=>?_
 have d8:=v9.fs [1,1,2] rfl
 have wa:=d8.gi
 have wc:=eU.fK a4 d8 (by intro p hp;simp only[cU,hp,g_,hU])
 refine Op.le (some 20) 0 d8 (Co _ _ _ d8.ij (G.mono wa) e5 s.an wc (by(try dsimp only)<;>exact hp.W.tree)) (fun _ _ _ hp=>by obtain⟨_,_,_,_,_,J,_⟩:=hp;exact J) ?_ (hM:=(fun _ _ h=>absurd h (gq _)))
 rintro _ _ V1 wi ⟨V2,V3,V4,rfl,wn,J,rfl⟩;clear J
 obtain⟨d9,wp,ce,k2⟩:=Deep.row wn (wi.fs [2,2] rfl)
 replace a4:=a4.mono ce
 replace bk:=bk.mono ce
 replace a9:=a9.mono ce
 replace bb:=bb.mono ce
 replace bc:=bc.mono ce
 replace G:=G.mono ce
 obtain⟨k3,k4,rfl⟩:=k2.ai
 have fi:=wp.fs [3,3,3,3,4] rfl
 refine Op.cl (some 25) 1 fi (xS _ _ _ fi.sub G d3 s.aD _ bk (by((try dsimp only)<;>((have:=hp.W.wl;omega)))) (St.pt 1 fi)) ?_ (hM:=(fun _ _ h=>oD (by simp) h))
 rintro _ wr _ V5 wt ww ⟨V6,V7,V8,rfl,k5,wx,J,rfl⟩;subst wr;clear wt
 obtain⟨k6,k7,rfl⟩:=k5.ai
 have fj:=ww.fs [5,5,5,5,5,5,6] rfl
 refine Op.cl (some 30) 1 fj (zN _ _ _ fj.sub G c8 s.az _ a9 (by(try dsimp only)<;>exact hp.W.az) (St.pt 1 fj)) ?_ (hM:=(fun _ _ h=>oD (by simp) h))
 rintro _ wy _ V9 w0 w1 ⟨V_,Wa,Wb,rfl,k8,w2,J,rfl⟩;subst wy;clear w0
 obtain⟨lb,lc,rfl⟩:=k8.ai
 refine Op.px 1 [(31,.agg #[vI s.ax,vI s.count,vL k3 (s.an.length) k4,vL k6 (s.aD.length) k7,vL lb ((s.az.map (·.2)).length) lc,vN,vN])]<|Op.ba<|Op.sg 46 3 31 0 6 #[vI s.ax,vI s.count,vL k3 (s.an.length) k4,vL k6 (s.aD.length) k7,vL lb ((s.az.map (·.2)).length) lc,vN,vN] w1 zt fun Wc w3=>Op.gt 2 ?_
 obtain⟨Wd,w7,xa⟩:=St.bl (Q:=bB d9 I s) 6 (w3.fs [6,5,5,4,9,9,6,7,8,9] rfl) ⟨_,_,_,_,_,_,_,_,_,_,rfl,a4,wx,w2,bb,bc⟩
 have xc:=aF.nil 69 cu d9
 have xf:=aF.nil 103 ni d9
 obtain⟨We,xi,xn⟩:=St.bl (Q:=oW d9 v8 (⟨s.ax,s.count,s.an,s.aD,s.az.map (·.2),([]:List ah),([]:List fV)⟩:gf)) 6 (xa.nl.nl.fs [2,1,2,3,4,5,6] rfl) ⟨_,_,_,_,_,_,_,_,_,_,rfl,k2,k5,k8,xc,xf⟩
 exact At.ke (c9 _ _ (by repeat (first|assumption|exact aG.refl _|apply aG.trans)) s (⟨s.ax,s.count,s.an,s.aD,s.az.map (·.2),([]:List ah),([]:List fV)⟩:gf) _ _ _ _ (bK _) (by rfl) (by exact hp) (by exact AE) w7 xi (xn.fs [1,2] rfl))
mutual
def i_:aC→Int→Int→Int
  |⟨_,p,u,_,_,_,_,_,ops⟩,bI,deep=>if deep=0∧ops≠[] then bI+1 else lW ops bI deep (1+p.length+u.length)
def lW:List aC→Int→Int→Int→Int
  |[],_,_,n=>n
  |x::xs,bI,deep,n=>if n≤bI then lW xs bI deep (n+i_ x (bI-n) (deep-1)) else n
end
mutual
def bG:aC→Int→aC
  |⟨k,p,u,D,sp,b,G,w,ops⟩,deep=>⟨k,p,u,D,sp,b,G,w,if deep>0 then mV ops (deep-1) else []⟩
def mV:List aC→Int→List aC
  |[],_=>[]
  |x::xs,deep=>bG x deep::mV xs deep
end
section
variable {bI deep n i:Int} {o x:aC} {ops:List aC}
theorem x9 (o:aC) (bI deep:Int):i_ o bI deep=if deep=0∧o.aH≠[] then bI+1 else lW o.aH bI deep (1+o.aa.length+o.Data.length):=by
  obtain⟨_,_,_,_,_,_,_,_,_⟩:=o
  rw[i_]
theorem AF (x:aC) (xs:List aC) (bI deep n:Int):lW (x::xs) bI deep n=if n≤bI then lW xs bI deep (n+i_ x (bI-n) (deep-1)) else n:=by rw[lW]
theorem DR (o:aC) (deep:Int):bG o deep={o with aH:=if deep>0 then mV o.aH (deep-1) else []}:=by
  obtain⟨_,_,_,_,_,_,_,_,_⟩:=o
  rw[bG]
theorem KZ:∀(xs:List aC) (deep:Int),mV xs deep=xs.map fun x=>bG x deep
  |[],_=>by rw[mV];rfl
  |x::xs,deep=>by rw[mV,KZ xs];rfl
theorem AG (o:aC):(cY o:Int)=1+o.aa.length+o.Data.length+gm o.aH:=by rw[rS];omega
mutual
theorem AH:∀(o:aC) (bI deep:Int),0≤bI→0≤i_ o bI deep∧i_ o bI deep≤bI+1+cY o
  |⟨k,p,u,D,sp,b,G,w,ops⟩,bI,deep,h=>by
   have e:=x9 ⟨k,p,u,D,sp,b,G,w,ops⟩ bI deep
   have hz:=AG ⟨k,p,u,D,sp,b,G,w,ops⟩
   simp only at e hz
   rw[e]
   split
   · omega
   · have:=K0 ops bI deep (1+p.length+u.length) h (by omega)
     omega
theorem K0:∀(xs:List aC) (bI deep n:Int),0≤bI→0≤n→0≤lW xs bI deep n∧lW xs bI deep n≤max n (bI+1+gm xs)
  |[],bI,deep,n,_,h=>by rw[lW];omega
  |x::xs,bI,deep,n,h,hn=>by
   rw[AF]
   have e:gm (x::xs)=cY x+gm xs:=by rw[gm]
   rw[e]
   split
   · have h1:=AH x (bI-n) (deep-1) (by omega)
     have h2:=K0 xs bI deep (n+i_ x (bI-n) (deep-1)) h (by omega)
     omega
   · omega
end
mutual
theorem DS:∀(o:aC) (bI deep:Int),0≤deep→i_ o bI deep≤bI→i_ o bI deep=cY o∧(qI o:Int)≤deep+1
  |⟨k,p,u,D,sp,b,G,w,ops⟩,bI,deep,hd,h=>by
   have e:=x9 ⟨k,p,u,D,sp,b,G,w,ops⟩ bI deep
   have hz:=AG ⟨k,p,u,D,sp,b,G,w,ops⟩
   have ed:=CN ⟨k,p,u,D,sp,b,G,w,ops⟩
   simp only at e hz ed
   rw[e] at h ⊢
   split at h
   · omega
   · rename_i hne
     rw[aB hne]
     have:=K1 ops bI deep (1+p.length+u.length) hd (by
       by_cases h0:ops=[]
       · exact .inr h0
       · exact .inl (by
           by_cases I:deep=0
           · exact absurd ⟨I,h0⟩ hne
           · omega)) h
     omega
theorem K1:∀(xs:List aC) (bI deep n:Int),0≤deep→(1≤deep∨xs=[])→lW xs bI deep n≤bI→lW xs bI deep n=n+gm xs∧(mh xs:Int)≤deep
  |[],bI,deep,n,hd,_,h=>by rw[lW,gm,mh];omega
  |x::xs,bI,deep,n,hd,h1,h=>by
   have h1:1≤deep:=by
     rcases h1 with h1|h1
     · exact h1
     · cases h1
   rw[AF] at h ⊢
   have e:gm (x::xs)=cY x+gm xs:=by rw[gm]
   have ed:mh (x::xs)=max (qI x) (mh xs):=by rw[mh]
   rw[e,ed]
   split at h
   · rename_i hn
     rw[aL hn]
     have h2:=K1 xs bI deep (n+i_ x (bI-n) (deep-1)) hd (.inl h1) h
     have h3:=DS x (bI-n) (deep-1) (by omega) (by omega)
     omega
   · omega
end
mutual
theorem K2:∀(o:aC) (deep:Int),cY (bG o deep)≤cY o
  |⟨k,p,u,D,sp,b,G,w,ops⟩,deep=>by
   rw[bG,cY,cY]
   split
   · have:=K3 ops (deep-1);omega
   · rw[gm];omega
theorem K3:∀(xs:List aC) (deep:Int),gm (mV xs deep)≤gm xs
  |[],_=>by rw[mV];exact iO _
  |x::xs,deep=>by
   rw[mV,gm,gm]
   have:=K2 x deep
   have:=K3 xs deep
   omega
end
theorem K4 {m:Nat} (h:cY o≤m):cY (bG o deep)≤m:=cr (K2 o deep) h
def ud (o:aC) (bI deep n i:Int):Prop:=lW o.aH bI deep (1+o.aa.length+o.Data.length)=lW (o.aH.drop i.toNat) bI deep n∧0≤n∧n≤bI+1+cY o
theorem K5 (o:aC) (h:0≤bI):ud o bI deep (1+o.aa.length+o.Data.length) 0:=⟨rfl,by omega,by have:=AG o;omega⟩
theorem K6 (H:ud o bI deep n i) (h0:0≤i) (hx:o.aH[i.toNat]?=some x) (h:n≤bI):ud o bI deep (n+i_ x (bI-n) (deep-1)) (i+1):=by
  obtain⟨h1,h2,h3⟩:=H
  have hb:=AH x (bI-n) (deep-1) (by omega)
  have hm:=CP (cL hx)
  have hz:=AG o
  refine⟨?_,by omega,by omega⟩
  rw[h1,drop_at hx,AF,aL h,show(i+1).toNat=i.toNat+1 by omega]
theorem K7 (H:ud o bI deep n i) (hi:¬i<(o.aH.length:Int)) (hn:¬(deep=0∧o.aH≠[])):n=i_ o bI deep:=by
  rw[x9,aB hn,H.1,mH (by omega),lW]
theorem K8 (H:ud o bI deep n i) (hi:¬n≤bI) (hn:¬(deep=0∧o.aH≠[])):n=i_ o bI deep:=by
  rw[x9,aB hn,H.1]
  cases o.aH.drop i.toNat with
  |nil=>rw[lW]
  |cons x xs=>rw[AF,aB hi]
theorem TQ (h1:deep=0) (h2:(o.aH.length:Int)>0):bI+1=i_ o bI deep:=by
  rw[x9,aL ⟨h1,fun e=>by rw[e] at h2;simp at h2⟩]
theorem TR (h:¬deep=0):¬(deep=0∧o.aH≠[]):=fun h'=>h h'.1
theorem TS (h:¬(o.aH.length:Int)>0):¬(deep=0∧o.aH≠[]):=fun h'=>h'.2 (lg (by omega))
def vM (o:aC) (deep:Int) (cq:List aC) (i:Int):Prop:=cq=(o.aH.take i.toNat).map (fun x=>bG x (deep-1))∧(0<i→deep>0)
theorem TU:vM o deep [] 0:=⟨rfl,fun h=>absurd h (by decide)⟩
theorem TV {cq:List aC} (H:vM o deep cq i) (h0:0≤i) (hx:o.aH[i.toNat]?=some x) (h:deep>0):vM o deep (cq++[bG x (deep-1)]) (i+1):=by
  unfold vM at *
  rw[toNat_succ h0,fu hx,gp,←H.1]
  exact⟨rfl,fun _=>h⟩
theorem K9 {cq:List aC} (H:vM o deep cq i) (h0:0≤i) (hi:¬i<(o.aH.length:Int)∨¬deep>0):cq=if deep>0 then mV o.aH (deep-1) else []:=by
  obtain⟨h1,h2⟩:=H
  by_cases h:deep>0
  · have hi:¬i<(o.aH.length:Int):=by
      rcases hi with hi|hi
      · exact hi
      · exact absurd h hi
    rw[aL h,h1,eR (by omega),KZ]
  · have:i=0:=by
      by_cases h3:0<i
      · exact absurd (h2 h3) h
      · omega
    subst this
    rw[aB h,h1]
    rfl
theorem AI (o:aC) (deep:Int):(bG o deep).Kind=o.Kind∧(bG o deep).aa=o.aa∧(bG o deep).Data=o.Data∧(bG o deep).ak=o.ak∧(bG o deep).aJ=o.aJ∧(bG o deep).aZ=o.aZ∧(bG o deep).aN=o.aN∧(bG o deep).ah=o.ah:=by
  rw[DR];exact⟨rfl,rfl,rfl,rfl,rfl,rfl,rfl,rfl⟩
end
structure cz where
  Client:Int
  bz:Int
  bw:Int
  Op:aC
  eG:aj
def qd:Kd cz where
  sz:=13
  K g x cs:=∃v0 v1 v2,ay g 5 bn v0 x.Op.Data∧ay g 36 eY v1 x.Op.aH∧ay g 5 bn v2 x.eG∧cs=[.int .i64 x.Client,.int .i64 x.bz,.int .i64 x.bw,.int .i64 x.Op.Kind,.string (a_ x.Op.aa),v0,.int .i64 x.Op.ak,.int .i64 x.Op.aJ,.bool x.Op.aZ,.bool x.Op.aN,.bool x.Op.ah,v1,v2]
  len h:=by obtain⟨v0,v1,v2,h0,h1,h2,rfl⟩:=h;rfl
  one h:=by
    obtain⟨v0,v1,v2,h0,h1,h2,rfl⟩:=h
    obtain⟨_,_,rfl⟩:=h0.ai
    obtain⟨_,_,rfl⟩:=h1.ai
    obtain⟨_,_,rfl⟩:=h2.ai
    simp[Value.oneCell']
  mono hg h:=by obtain⟨v0,v1,v2,h0,h1,h2,rfl⟩:=h;exact⟨v0,v1,v2,h0.mono hg,h1.mono hg,h2.mono hg,rfl⟩
  zv:=⟨0,0,0,⟨0,[],[],0,0,false,false,false,[]⟩,[]⟩
  zc:=[.int .i64 0,.int .i64 0,.int .i64 0,.int .i64 0,.string (a_ []),.slice none 0 0,.int .i64 0,.int .i64 0,.bool false,.bool false,.bool false,.slice none 0 0,.slice none 0 0]
  zK _:=⟨_,_,_,ay.nil _ _ _,ay.nil _ _ _,ay.nil _ _ _,rfl⟩
def lX (o:aC) (bI deep:Int):Bool:=decide (i_ o bI deep>bI)
def stepG (x:cz):Bool:=lX x.Op 3000 3||decide ((x.eG.length:Int)>2000)
def ja (l:List cz):Bool:=l.any stepG
def bV (x:cz):bu:=⟨x.Client,x.bz,x.bw,[]⟩
def cm (x:cz):aQ:=if (aU (bG x.Op 3)).2≠0 then x.eG else (aU (bG x.Op 3)).1
section
variable {l:List cz} {i:Int} {x:cz}
theorem TW (H:(l.take i.toNat).any stepG=false) (h0:0≤i) (hx:l[i.toNat]?=some x) (h1:lX x.Op 3000 3=false) (h2:¬(x.eG.length:Int)>2000):(l.take (i+1).toNat).any stepG=false:=by
  rw[toNat_succ h0,fu hx,List.any_append,H]
  simp only[wP,List.any_nil,Bool.or_false,qA,stepG,h1,fU h2]
theorem TX (hx:l[i.toNat]?=some x) (h:lX x.Op 3000 3=true):true=ja l:=(oG.2 ⟨x,cL hx,by unfold stepG;rw[h];rfl⟩).symm
theorem TY (hx:l[i.toNat]?=some x) (h:(x.eG.length:Int)>2000):true=ja l:=(oG.2 ⟨x,cL hx,by unfold stepG;rw[eW h,Bool.or_true]⟩).symm
theorem TZ (H:(l.take i.toNat).any stepG=false) (h:¬i<(l.length:Int)):false=ja l:=by
  rw[eR (by omega)] at H
  exact H.symm
theorem og (h:ja l=false):∀x∈l,cY x.Op≤3000∧(qI x.Op:Int)≤4∧x.eG.length≤2000:=fun x hx=>by
  unfold ja at h
  rw[BB] at h
  have:=h x hx
  unfold stepG lX at this
  simp only[ie,cB,rZ] at this
  have h2:=DS x.Op 3000 3 (by decide) (by omega)
  omega
theorem T0 (h:¬(aU (bG x.Op 3)).2=0):x.eG=cm x:=by unfold cm;rw[aL h]
theorem T3 (h:(aU (bG x.Op 3)).2=0):(aU (bG x.Op 3)).1=cm x:=by unfold cm;rw[aB (by simpa using h)]
theorem DT (o:aC):(aU o).1.length≤1024:=by
  unfold aU
  split
  · exact gO _
  · split
    · exact gO _
    · rename_i h
      simp only[rZ,Nat.not_lt] at h
      exact h.2
theorem x_ (h:x.eG.length≤2000):(cm x).length≤2000:=by
  unfold cm
  split
  · exact h
  · exact cr (DT _) (by decide)
end
theorem T4 (mr:Nat):∀(B:World) (h:av) (g:GH) (hg:bf g h) (ar:bh g) (o:aC) (aw:Value) (a8:ay g 5 bn aw o.Data) (a0:Value) (ad:ay g 36 eY a0 o.aH) (bI:Int) (deep:Int) (ho:cY o≤100000000) (hm:0≤bI∧bI≤1000000) (hd:0≤deep∧deep≤1000) (a1:cY o<mr),aA prog B 45 #[.agg #[vI o.Kind,vS o.aa,aw,vI o.ak,vI o.aJ,.bool o.aZ,.bool o.aN,.bool o.ah,a0],vI bI,vI deep] h g [] (fun bk g' L'=>bk=.int .i64 (i_ o bI deep)∧g'=g∧L'=[]):=by
 induction mr with
 |zero=>intros;omega
 |succ mr a9=>
 intro B h g hg ar o aw a8 a0 ad bI deep ho hm hd a1
 obtain⟨ae,am,rfl⟩:=a8.ai
 obtain⟨O,I,rfl⟩:=ad.ai
 refine aA.aq func45 fun R hR=>At.rg 2<|Op.bx 3 36 0 #[vI o.Kind,vS o.aa,vL ae o.Data.length am,vI o.ak,vI o.aJ,.bool o.aZ,.bool o.aN,.bool o.ah,vL O o.aH.length I] (St.init hg) fun G ci X=>Op.pg 1 []<|At.rp 9 1 [(9,vQ G 1)] ?_
 refine Op.l1 9 9 10 1 (vS o.aa) (X.ag 0 rfl)<|Op.px 1 [(11,vI (o.aa.length:Int))]<|Op.dQ 12 ((1:Int)+(o.aa.length:Int)) (by omega) (by(have:=gu o;omega))<|Op.px 1 [(13,vQ G 2)]<|Op.l1 28 13 14 2 (vL ae o.Data.length am) (X.ag 0 rfl) ?_
 refine Op.px 1 [(15,vI (o.Data.length:Int))]<|Op.dQ 16 (((1:Int)+(o.aa.length:Int))+(o.Data.length:Int)) (by omega) (by(have:=gu o;omega))<|Op.pg 2 [(7,vI (((1:Int)+(o.aa.length:Int))+(o.Data.length:Int)))]<|At.rp 8 3 [(19,.bool (deep==0))]<|Op.wd (deep=0) 19 (fun ck=>?_) fun co=>?_
 ·refine Op.px 1 [(20,vQ G 8)]<|Op.l1 34 20 21 8 (vL O o.aH.length I) (X.ag 0 rfl)<|Op.pg 3 [(24,.bool (decide ((o.aH.length:Int)>0)))]<|At.fd ((o.aH.length:Int)>0) 24 4 6 (fun c3=>?_) fun c4=>?_
  ·exact At.rp 3 1 [(25,vI bI)]<|Op.vq 26 (bI+1)<|Op.pr 5 6 (vI (bI+1)) (hR X.drop ⟨(bp (by exact TQ ‹_› ‹_›)),rfl,rfl⟩)
  refine At.go 7 1 [(8,vI 0)] ?_
  have a3:∀(m:Nat) (n:Int) (i:Int) (a4:av) (hm:o.aH.length-i.toNat<m) (h0:0≤i) (h1:i≤o.aH.length) (J:¬(deep=0∧o.aH≠[])) (hI:ud o bI deep n i) (U:St h g (aM []) g [[(G,Obj.cells #[vI o.Kind,vS o.aa,vL ae o.Data.length am,vI o.ak,vI o.aJ,.bool o.aZ,.bool o.aN,.bool o.ah,vL O o.aH.length I] 36 (0,0))]] a4),At (bS prog B 45 f45 R) [] 7 [(1,vI bI),(2,vI deep),(3,vP G),(7,vI n),(8,vI i)] a4:=by
   intro m;induction m with
   |zero=>intros;omega
   |succ m a5=>
    intro n i a4 hm h0 h1 J hI U
    refine At.rp 10 2 [(27,vI i),(28,vQ G 8)]<|Op.l1 34 28 29 8 (vL O o.aH.length I) (U.ag 0 rfl)<|Op.px 3 [(32,.bool (decide (i<(o.aH.length:Int))))]<|Op.wd (i<(o.aH.length:Int)) 32 (fun c5=>?_) fun c6=>?_
    ·refine Op.pg 8 [(36,.bool (decide (n≤bI)))]<|At.fd (n≤bI) 36 9 11 (fun c8=>?_) fun c9=>?_
     ·refine At.rp 14 2 [(39,vI n),(40,vQ G 8)]<|Op.l1 34 40 41 8 (vL O o.aH.length I) (U.ag 0 rfl)<|Op.px 1 [(42,vI i)] ?_
      obtain⟨D,a6⟩:=cD o.aH i
      obtain⟨bm,bb,da,db,bo,bs,Z⟩:=ay.br ad _ a6
      cases bo
      refine Op.iq 34 36 9 96 o.aH.length I 41 42 43 bm bb i ?_
      replace Z:=mP.1 Z
      obtain⟨dc,dd,bc,bd,Z⟩:=Z
      obtain⟨a46,bt,rfl⟩:=bc.ai
      obtain⟨b3,b4,rfl⟩:=bd.ai
      refine Op.la 36 43 44 (bb+i.toNat*9) 9 [vI D.Kind,vS D.aa,vL a46 D.Data.length bt,vI D.ak,vI D.aJ,.bool D.aZ,.bool D.aN,.bool D.ah,vL b3 D.aH.length b4] (U.sub _ _ bs) ?_ (hv:=Z)
      refine Op.px 2 [(45,vI bI),(46,vI n)]<|Op.vq 47 (bI-n)<|Op.px 1 [(48,vI deep)]<|Op.vq 49 (deep-1)<|Op.c1 50 (a9 _ _ _ U.sub ar D _ bc _ bd (bI-n) (deep-1) (by(try dsimp only)<;>omega) (by(try dsimp only)<;>omega) (by(try dsimp only)<;>omega) (by exact qm (mm (cL a6)) (xE a1))) U fun df b5=>?_
      exact Op.vq 51 (n+(i_ D (bI-n) (deep-1)))<|Op.pg 10 [(7,vI (n+(i_ D (bI-n) (deep-1))))]<|At.rp 3 1 [(37,vI i)]<|Op.vq 38 (i+1)<|Op.pg 7 [(8,vI (i+1))] (At.ke (a5 (n+(i_ D (bI-n) (deep-1))) (i+1) _ (by omega) (by omega) (by omega) (by exact J) (by exact K6 hI h0 a6 ‹_›) b5))
     exact At.gr 12 2 6 (vI n) (hR U.drop ⟨(bp (by exact K8 hI ‹_› J)),rfl,rfl⟩)
    exact Op.pg 8 [(36,vF)]<|At.dP 36 11<|At.gr 12 2 6 (vI n) (hR U.drop ⟨(bp (by exact K7 hI ‹_› J)),rfl,rfl⟩)
  exact At.ke (a3 _ (((1:Int)+(o.aa.length:Int))+(o.Data.length:Int)) 0 _ (bK _) (by omega) (by omega) (by exact TS ‹_›) (by exact K5 o hm.1) X)
 refine Op.pg 3 [(24,vF)]<|At.dP 24 6<|At.go 7 1 [(8,vI 0)] ?_
 have a3:∀(m:Nat) (n:Int) (i:Int) (a7:av) (hm:o.aH.length-i.toNat<m) (h0:0≤i) (h1:i≤o.aH.length) (J:¬(deep=0∧o.aH≠[])) (hI:ud o bI deep n i) (V:St h g (aM []) g [[(G,Obj.cells #[vI o.Kind,vS o.aa,vL ae o.Data.length am,vI o.ak,vI o.aJ,.bool o.aZ,.bool o.aN,.bool o.ah,vL O o.aH.length I] 36 (0,0))]] a7),At (bS prog B 45 f45 R) [] 7 [(1,vI bI),(2,vI deep),(3,vP G),(7,vI n),(8,vI i)] a7:=by
  intro m;induction m with
  |zero=>intros;omega
  |succ m a5=>
   intro n i a7 hm h0 h1 J hI V
   refine At.rp 10 2 [(27,vI i),(28,vQ G 8)]<|Op.l1 34 28 29 8 (vL O o.aH.length I) (V.ag 0 rfl)<|Op.px 3 [(32,.bool (decide (i<(o.aH.length:Int))))]<|Op.wd (i<(o.aH.length:Int)) 32 (fun dg=>?_) fun dj=>?_
   ·refine Op.pg 8 [(36,.bool (decide (n≤bI)))]<|At.fd (n≤bI) 36 9 11 (fun dk=>?_) fun dl=>?_
    ·refine At.rp 14 2 [(39,vI n),(40,vQ G 8)]<|Op.l1 34 40 41 8 (vL O o.aH.length I) (V.ag 0 rfl)<|Op.px 1 [(42,vI i)] ?_
     obtain⟨u,Y⟩:=cD o.aH i
     obtain⟨b6,be,dp,dq,b8,ca,ab⟩:=ay.br ad _ Y
     cases b8
     refine Op.iq 34 36 9 96 o.aH.length I 41 42 43 b6 be i ?_
     replace ab:=mP.1 ab
     obtain⟨du,dv,bi,bj,ab⟩:=ab
     obtain⟨cb,ce,rfl⟩:=bi.ai
     obtain⟨a75,cf,rfl⟩:=bj.ai
     refine Op.la 36 43 44 (be+i.toNat*9) 9 [vI u.Kind,vS u.aa,vL cb u.Data.length ce,vI u.ak,vI u.aJ,.bool u.aZ,.bool u.aN,.bool u.ah,vL a75 u.aH.length cf] (V.sub _ _ ca) ?_ (hv:=ab)
     refine Op.px 2 [(45,vI bI),(46,vI n)]<|Op.dQ 47 (bI-n) (by omega) (by(have:=hI.2.1;have:=hI.2.2;omega))<|Op.px 1 [(48,vI deep)]<|Op.vq 49 (deep-1)<|Op.c1 50 (a9 _ _ _ V.sub ar u _ bi _ bj (bI-n) (deep-1) (by((try dsimp only)<;>((have:=mm (cL Y);omega)))) (by((try dsimp only)<;>((have:=hI.2.1;have:=hI.2.2;omega)))) (by(try dsimp only)<;>omega) (by exact qm (mm (cL Y)) (xE a1))) V fun dC ch=>?_
     exact Op.dQ 51 (n+(i_ u (bI-n) (deep-1))) (by(have:=hI.2.1;have:=hI.2.2;have:=mm (cL Y);have h9:=AH u (bI-n) (deep-1) (by omega);omega)) (by(have:=hI.2.1;have:=hI.2.2;have:=mm (cL Y);have h9:=AH u (bI-n) (deep-1) (by omega);omega))<|Op.pg 10 [(7,vI (n+(i_ u (bI-n) (deep-1))))]<|At.rp 3 1 [(37,vI i)]<|Op.dQ 38 (i+1) (by omega) (by(have:=gu o;omega))<|Op.pg 7 [(8,vI (i+1))] (At.ke (a5 (n+(i_ u (bI-n) (deep-1))) (i+1) _ (by omega) (by omega) (by omega) (by exact J) (by exact K6 hI h0 Y ‹_›) ch))
    exact At.gr 12 2 6 (vI n) (hR V.drop ⟨(bp (by exact K8 hI ‹_› J)),rfl,rfl⟩)
   exact Op.pg 8 [(36,vF)]<|At.dP 36 11<|At.gr 12 2 6 (vI n) (hR V.drop ⟨(bp (by exact K7 hI ‹_› J)),rfl,rfl⟩)
 exact At.ke (a3 _ (((1:Int)+(o.aa.length:Int))+(o.Data.length:Int)) 0 _ (bK _) (by omega) (by omega) (by exact TR ‹_›) (by exact K5 o hm.1) X)
theorem T5 (B:World) (h:av) (g:GH) (hg:bf g h) (G:bh g) (o:aC) (u:Value) (I:ay g 5 bn u o.Data) (D:Value) (J:ay g 36 eY D o.aH) (bI:Int) (deep:Int) (ho:cY o≤100000000) (hm:0≤bI∧bI≤1000000) (hd:0≤deep∧deep≤1000):aA prog B 45 #[.agg #[vI o.Kind,vS o.aa,u,vI o.ak,vI o.aJ,.bool o.aZ,.bool o.aN,.bool o.ah,D],vI bI,vI deep] h g [] (fun O g' L'=>O=.int .i64 (i_ o bI deep)∧g'=g∧L'=[]):=T4 _ B h g hg G o u I D J bI deep ho hm hd (bK _)
theorem K_ (B:World) (h:av) (g:GH) (hg:bf g h) (Y:bh g) (o:aC) (D:Value) (G:ay g 5 bn D o.Data) (I:Value) (J:ay g 36 eY I o.aH) (bI:Int) (deep:Int) (ho:cY o≤100000000) (hm:0≤bI∧bI≤1000000) (hd:0≤deep∧deep≤1000):
  aA prog B 16 #[.agg #[vI o.Kind,vS o.aa,D,vI o.ak,vI o.aJ,.bool o.aZ,.bool o.aN,.bool o.ah,I],vI bI,vI deep] h g [] (fun Z g' L'=>Z=.bool (lX o bI deep)∧g'=g∧L'=[]):=by
 obtain⟨O,U,rfl⟩:=G.ai
 obtain⟨V,X,rfl⟩:=J.ai
 refine aA.aq func16 fun R hR=>At.rg 2<|Op.bx 3 36 0 #[vI o.Kind,vS o.aa,vL O o.Data.length U,vI o.ak,vI o.aJ,.bool o.aZ,.bool o.aN,.bool o.ah,vL V o.aH.length X] (St.init hg) fun ad ae u=>Op.pg 1 []<|At.rg 7 ?_
 exact Op.la 36 3 7 0 9 [vI o.Kind,vS o.aa,vL O o.Data.length U,vI o.ak,vI o.aJ,.bool o.aZ,.bool o.aN,.bool o.ah,vL V o.aH.length X] (u.ag 0 rfl)<|Op.px 2 [(8,vI bI),(9,vI deep)]<|Op.c1 10 (T5 _ _ _ u.sub Y o _ G _ J bI deep (by(try dsimp only)<;>omega) (by(try dsimp only)<;>omega) (by(try dsimp only)<;>omega)) u fun am ab=>Op.pr 2 6 (.bool (decide ((i_ o bI deep)>bI))) (hR ab.drop ⟨(aS (by rfl)),rfl,rfl⟩)
theorem T6 (mr:Nat):∀(B:World) (h:av) (g:GH) (hg:bf g h) (V:bh g) (o:aC) (a6:Value) (X:ay g 5 bn a6 o.Data) (a7:Value) (ar:ay g 36 eY a7 o.aH) (deep:Int) (ho:cY o≤100000000) (hd:0≤deep∧deep≤1000) (bj:cY o<mr),aA prog B 20 #[.agg #[vI o.Kind,vS o.aa,a6,vI o.ak,vI o.aJ,.bool o.aZ,.bool o.aN,.bool o.ah,a7],vI deep] h g [] (fun c3 g' L'=>∃v0 v1,c3=.agg #[.int .i64 ((bG o deep).Kind),.string (a_ ((bG o deep).aa)),v0,.int .i64 ((bG o deep).ak),.int .i64 ((bG o deep).aJ),.bool ((bG o deep).aZ),.bool ((bG o deep).aN),.bool ((bG o deep).ah),v1]∧ay g' 5 bn v0 ((bG o deep).Data)∧ay g' 36 eY v1 ((bG o deep).aH)∧L'=[]):=by
 induction mr with
 |zero=>intros;omega
 |succ mr c4=>
 intro B h g hg V o a6 X a7 ar deep ho hd bj
 obtain⟨Y,Z,rfl⟩:=X.ai
 obtain⟨a3,aw,rfl⟩:=ar.ai
 refine aA.aq func20 fun R hR=>At.rg 2<|Op.bx 2 36 0 #[vI o.Kind,vS o.aa,vL Y o.Data.length Z,vI o.ak,vI o.aJ,.bool o.aZ,.bool o.aN,.bool o.ah,vL a3 o.aH.length aw] (St.init hg) fun J ef c5=>Op.al 4 36 fO c5 fun bk eh c6=>Op.gt 1 ?_
 refine At.rg 2<|Op.ls 7 0 36 #[] c6 fun a8 ej c8=>Op.pg 2 [(5,vL (some ⟨a8,0,none⟩) 0 0)]<|At.go 3 1 [(6,vI 0)] ?_
 have c9:∀(m:Nat) (a4:GH) (a0:aG g a4) (cq:List aC) (i:Int) (D:Option Addr) (G:Nat) (a9:au) (bb:av) (hm:o.aH.length-i.toNat<m) (h0:0≤i) (h1:i≤o.aH.length) (hI:vM o deep cq i) (O:aF 36 eY a4 (.slice D cq.length G) cq a9) (U:St h g (aM []) a4 [a9,[(bk,Obj.cells fO 36 (0,0))],[(J,Obj.cells #[vI o.Kind,vS o.aa,vL Y o.Data.length Z,vI o.ak,vI o.aJ,.bool o.aZ,.bool o.aN,.bool o.ah,vL a3 o.aH.length aw] 36 (0,0))]] bb),At (bS prog B 20 f20 R) [] 3 [(1,vI deep),(2,vP J),(4,vP bk),(5,vL D cq.length G),(6,vI i)] bb:=by
  intro m;induction m with
  |zero=>intros;omega
  |succ m da=>
   intro a4 a0 cq i D G a9 bb hm h0 h1 hI O U
   replace V:=V.mono a0
   replace X:=X.mono a0
   replace ar:=ar.mono a0
   refine At.rp 9 2 [(8,vI i),(9,vQ J 8)]<|Op.l1 34 9 10 8 (vL a3 o.aH.length aw) (U.ag 2 rfl)<|Op.px 3 [(13,.bool (decide (i<(o.aH.length:Int))))]<|Op.wd (i<(o.aH.length:Int)) 13 (fun em=>?_) fun en=>?_
   ·refine Op.pg 4 [(16,.bool (decide (deep>0)))]<|At.fd (deep>0) 16 5 7 (fun eo=>?_) fun ep=>?_
    ·refine At.rp 12 2 [(19,vL D cq.length G),(20,vQ J 8)]<|Op.l1 34 20 21 8 (vL a3 o.aH.length aw) (U.ag 2 rfl)<|Op.px 1 [(22,vI i)] ?_
     obtain⟨u,a5⟩:=cD o.aH i
     obtain⟨db,bm,er,et,dc,dd,a1⟩:=ay.br ar _ a5
     cases dc
     refine Op.iq 34 36 9 96 o.aH.length aw 21 22 23 db bm i ?_
     replace a1:=mP.1 a1
     obtain⟨ex,v51,bo,bs,a1⟩:=a1
     obtain⟨a53,df,rfl⟩:=bo.ai
     obtain⟨dg,dj,rfl⟩:=bs.ai
     refine Op.la 36 23 24 (bm+i.toNat*9) 9 [vI u.Kind,vS u.aa,vL a53 u.Data.length df,vI u.ak,vI u.aJ,.bool u.aZ,.bool u.aN,.bool u.ah,vL dg u.aH.length dj] (U.sub _ _ dd) ?_ (hv:=a1)
     refine Op.px 1 [(25,vI deep)]<|Op.vq 26 (deep-1)<|Op.c0 (some 27) (c4 _ _ _ U.sub V u _ bo _ bs (deep-1) (by((try dsimp only)<;>((have:=mm (cL a5);omega)))) (by(try dsimp only)<;>omega) (by exact qm (mm (cL a5)) (xE bj))) U ?_
     rintro _ eA _ eB dk dl ⟨eI,eJ,rfl,bt,b3,rfl⟩
     obtain⟨b4,b5,rfl⟩:=bt.ai
     obtain⟨b6,b8,rfl⟩:=b3.ai
     replace O:=O.mono dk
     refine Op.ls 28 1 36 #[vI ((bG u (deep-1)).Kind),vS ((bG u (deep-1)).aa),vL b4 (((bG u (deep-1)).Data).length) b5,vI ((bG u (deep-1)).ak),vI ((bG u (deep-1)).aJ),.bool ((bG u (deep-1)).aZ),.bool ((bG u (deep-1)).aN),.bool ((bG u (deep-1)).ah),vL b6 (((bG u (deep-1)).aH).length) b8] dl fun eK eL ca=>Op.ap 19 28 34 34 29 36 96 eY (ys:=[(bG u (deep-1))]) O ca 1 (⟨_,_,rfl,(mP.2 ⟨_,_,bt,b3,rfl⟩),Reads.nil⟩) (by(have:=gu o;have h7:=congrArg List.length hI.1;simp only[eu,dD,bL,cS] at *;omega)) (fun _ _ _=>trivial) (di.lit (m:=1) (sz:=9) (ca.ag 0 rfl) (news:=[vI ((bG u (deep-1)).Kind),vS ((bG u (deep-1)).aa),vL b4 (((bG u (deep-1)).Data).length) b5,vI ((bG u (deep-1)).ak),vI ((bG u (deep-1)).aJ),.bool ((bG u (deep-1)).aZ),.bool ((bG u (deep-1)).aN),.bool ((bG u (deep-1)).ah),vL b6 (((bG u (deep-1)).aH).length) b8]) rfl rfl (by simp[Value.oneCell']) _) fun v72 eQ eT cb dp e1=>?_
     obtain⟨dq,du,rfl⟩:=cb.ai
     exact Op.pg 6 [(5,vL dq ((cq++([(bG u (deep-1))])).length) du)]<|At.rp 3 1 [(17,vI i)]<|Op.dQ 18 (i+1) (by omega) (by(have:=gu o;omega))<|Op.pg 3 [(6,vI (i+1))] (At.ke (da _ (aG.trans a0 (by repeat (first|assumption|apply aG.trans))) (cq++([(bG u (deep-1))])) (i+1) _ _ _ _ (by omega) (by omega) (by omega) (by exact TV hI h0 a5 ‹_›) cb ((dp).drop)))
    refine At.rp 3 2 [(30,vL D cq.length G),(31,vQ J 8)]<|Op.s1 34 31 30 8 (vL D cq.length G) 2 #[vI o.Kind,vS o.aa,vL Y o.Data.length Z,vI o.ak,vI o.aJ,.bool o.aZ,.bool o.aN,.bool o.ah,vL D cq.length G] U zt fun e2 bc=>Op.gt 8<|At.rp 5 1 [(32,vQ J 2)]<|Op.l1 28 32 33 2 (vL Y o.Data.length Z) (bc.ag 2 rfl) ?_
    refine Op.c0 (some 34) (C7 _ _ _ bc.sub V _ _ X (by((try dsimp only)<;>((have:=gu o;omega))))) bc ?_
    rintro _ dv _ e3 dC dE ⟨e4,e5,rfl,ce,dT,rfl⟩;subst dv;clear dC
    obtain⟨ab,ad,rfl⟩:=ce.ai
    refine Op.px 1 [(35,vQ J 2)]<|Op.s1 28 35 34 2 (vL ab (o.Data.length) ad) 3 #[vI o.Kind,vS o.aa,vL ab (o.Data.length) ad,vI o.ak,vI o.aJ,.bool o.aZ,.bool o.aN,.bool o.ah,vL D cq.length G] dE zt fun e6 cf=>Op.gt 9<|At.rg 2<|Op.la 36 2 36 0 9 [vI o.Kind,vS o.aa,vL ab (o.Data.length) ad,vI o.ak,vI o.aJ,.bool o.aZ,.bool o.aN,.bool o.ah,vL D cq.length G] (cf.ag 3 rfl) ?_
    refine Op.sg 36 4 36 0 2 #[vI o.Kind,vS o.aa,vL ab (o.Data.length) ad,vI o.ak,vI o.aJ,.bool o.aZ,.bool o.aN,.bool o.ah,vL D cq.length G] cf zt fun e7 d0=>Op.gt 10 ?_
    obtain⟨e8,d1,d2,bd⟩:=aF.freeze ce (d0)
    replace O:=O.mono d2
    obtain⟨e9,ch,d3,d4⟩:=aF.freeze O (d1)
    replace bd:=bd.mono d3
    exact At.rn f20 [.agg #[vI o.Kind,vS o.aa,vL ab (o.Data.length) ad,vI o.ak,vI o.aJ,.bool o.aZ,.bool o.aN,.bool o.ah,vL D cq.length G]] [.cell 4 36] ⟨⟨_,_,rfl,dB (n:=9) (by kernel_rfl) (ch.ag 0 rfl) (by kernel_rfl) rfl⟩,trivial⟩ (hR ch.drop.drop ⟨(vL ab (o.Data.length) ad),(vL D cq.length G),(by(have I:=AI o deep;simp only[I.1,I.2.1,I.2.2.2.1,I.2.2.2.2.1,I.2.2.2.2.2.1,I.2.2.2.2.2.2.1,I.2.2.2.2.2.2.2];done)),bP bd (by(rw[(AI o deep).2.2.1])),bP d4 (by(rw[DR,K9 hI h0 (.inr ‹_›)])),rfl⟩)
   refine Op.pg 4 [(16,vF)]<|At.dP 16 7<|At.rp 3 2 [(30,vL D cq.length G),(31,vQ J 8)]<|Op.s1 34 31 30 8 (vL D cq.length G) 2 #[vI o.Kind,vS o.aa,vL Y o.Data.length Z,vI o.ak,vI o.aJ,.bool o.aZ,.bool o.aN,.bool o.ah,vL D cq.length G] U zt fun fa be=>Op.gt 8 ?_
   refine At.rp 5 1 [(32,vQ J 2)]<|Op.l1 28 32 33 2 (vL Y o.Data.length Z) (be.ag 2 rfl)<|Op.c0 (some 34) (C7 _ _ _ be.sub V _ _ X (by((try dsimp only)<;>((have:=gu o;omega))))) be ?_
   rintro _ d5 _ fg d6 d7 ⟨fi,fj,rfl,ci,dT,rfl⟩;subst d5;clear d6
   obtain⟨ae,am,rfl⟩:=ci.ai
   refine Op.px 1 [(35,vQ J 2)]<|Op.s1 28 35 34 2 (vL ae (o.Data.length) am) 3 #[vI o.Kind,vS o.aa,vL ae (o.Data.length) am,vI o.ak,vI o.aJ,.bool o.aZ,.bool o.aN,.bool o.ah,vL D cq.length G] d7 zt fun fl ck=>Op.gt 9<|At.rg 2<|Op.la 36 2 36 0 9 [vI o.Kind,vS o.aa,vL ae (o.Data.length) am,vI o.ak,vI o.aJ,.bool o.aZ,.bool o.aN,.bool o.ah,vL D cq.length G] (ck.ag 3 rfl) ?_
   refine Op.sg 36 4 36 0 2 #[vI o.Kind,vS o.aa,vL ae (o.Data.length) am,vI o.ak,vI o.aJ,.bool o.aZ,.bool o.aN,.bool o.ah,vL D cq.length G] ck zt fun fp d8=>Op.gt 10 ?_
   obtain⟨fr,d9,ea,bi⟩:=aF.freeze ci (d8)
   replace O:=O.mono ea
   obtain⟨ft,co,eb,ed⟩:=aF.freeze O (d9)
   replace bi:=bi.mono eb
   exact At.rn f20 [.agg #[vI o.Kind,vS o.aa,vL ae (o.Data.length) am,vI o.ak,vI o.aJ,.bool o.aZ,.bool o.aN,.bool o.ah,vL D cq.length G]] [.cell 4 36] ⟨⟨_,_,rfl,dB (n:=9) (by kernel_rfl) (co.ag 0 rfl) (by kernel_rfl) rfl⟩,trivial⟩ (hR co.drop.drop ⟨(vL ae (o.Data.length) am),(vL D cq.length G),(by(have I:=AI o deep;simp only[I.1,I.2.1,I.2.2.2.1,I.2.2.2.2.1,I.2.2.2.2.2.1,I.2.2.2.2.2.2.1,I.2.2.2.2.2.2.2];done)),bP bi (by(rw[(AI o deep).2.2.1])),bP ed (by(rw[DR,K9 hI h0 (.inl ‹_›)])),rfl⟩)
 have ee:aF 36 eY g (vL (some ⟨a8,0,none⟩) 0 0) ([]:List aC) [(a8,Obj.cells #[] 36 (0,0))]:=aF.lit (by kernel_rfl) (by unfold maxLen;decide) (by kernel_rfl) Reads.nil
 exact At.ke (c9 _ _ (aG.refl _) ([]:List aC) 0 _ _ _ _ (bK _) (by omega) (by omega) (by exact TU) ee c8)
theorem La (B:World) (h:av) (g:GH) (hg:bf g h) (G:bh g) (o:aC) (u:Value) (I:ay g 5 bn u o.Data) (D:Value) (J:ay g 36 eY D o.aH) (deep:Int) (ho:cY o≤100000000) (hd:0≤deep∧deep≤1000):aA prog B 20 #[.agg #[vI o.Kind,vS o.aa,u,vI o.ak,vI o.aJ,.bool o.aZ,.bool o.aN,.bool o.ah,D],vI deep] h g [] (fun O g' L'=>∃v0 v1,O=.agg #[.int .i64 ((bG o deep).Kind),.string (a_ ((bG o deep).aa)),v0,.int .i64 ((bG o deep).ak),.int .i64 ((bG o deep).aJ),.bool ((bG o deep).aZ),.bool ((bG o deep).aN),.bool ((bG o deep).ah),v1]∧ay g' 5 bn v0 ((bG o deep).Data)∧ay g' 36 eY v1 ((bG o deep).aH)∧L'=[]):=T6 _ B h g hg G o u I D J deep ho hd (bK _)
theorem DU (B:World) (h:av) (g:GH) (hg:bf g h) (ar:bh g) (ab:Value) (list:List cz) (V:ay g 38 qd ab list) (hl:list.length≤1048576) (ho:∀x∈list,cY x.Op≤100000000):
  aA prog B 7 #[ab] h g [] (fun aw g' L'=>aw=.bool (ja list)∧g'=g∧L'=[]):=by
 obtain⟨ad,I,rfl⟩:=V.ai
 refine aA.aq func7 fun R hR=>At.go 1 1 []<|At.go 2 1 [(3,vI 0)] ?_
 have a0:∀(m:Nat) (i:Int) (X:av) (hm:list.length-i.toNat<m) (h0:0≤i) (h1:i≤list.length) (hI:(list.take i.toNat).any stepG=false) (J:St h g (aM []) g [] X),At (bS prog B 7 f7 R) [] 2 [(0,vL ad list.length I),(3,vI i)] X:=by
  intro m;induction m with
  |zero=>intros;omega
  |succ m a1=>
   intro i X hm h0 h1 hI J
   refine At.go 3 4 [(7,.bool (decide (i<(list.length:Int))))]<|At.fd (i<(list.length:Int)) 7 4 9 (fun bk=>?_) fun bm=>?_
   ·refine At.rp 15 2 [(10,vL ad list.length I),(11,vI i)] ?_
    obtain⟨u,G⟩:=cD list i
    obtain⟨O,D,bo,bs,a3,a4,Y⟩:=ay.br V _ G
    cases a3
    refine Op.iq 22 38 13 144 list.length I 10 11 12 O D i ?_
    obtain⟨bt,b3,v37,ae,am,a5,Y⟩:=Y
    obtain⟨a6,a7,rfl⟩:=ae.ai
    obtain⟨a8,a9,rfl⟩:=am.ai
    obtain⟨b4,b5,rfl⟩:=a5.ai
    refine Op.px 1 [(13,vQ O (D+i.toNat*13+3))]<|Op.la 36 13 14 (D+i.toNat*13+3) 9 [vI u.Op.Kind,vS u.Op.aa,vL a6 u.Op.Data.length a7,vI u.Op.ak,vI u.Op.aJ,.bool u.Op.aZ,.bool u.Op.aN,.bool u.Op.ah,vL a8 u.Op.aH.length a9] (J.sub _ _ a4) ?_ (hv:=(MI Y 3 9 rfl (by decide)))
    refine Op.c1 15 (K_ _ _ _ J.sub ar u.Op _ ae _ am 3000 3 (by((try dsimp only)<;>(exact ho _ (cL G)))) (by(try dsimp only)<;>omega) (by(try dsimp only)<;>omega)) J fun b6 U=>Op.px 1 [(16,.bool (lX u.Op (3000) (3)))]<|Op.wb (lX u.Op (3000) (3)) 16 (fun b8=>?_) fun ca=>?_
    ·exact Op.pg 5 [(24,vT)]<|At.bX 24 6<|At.gr 7 1 2 vT (hR U ⟨(aS (by exact TX G ‹_›)),rfl,rfl⟩)
    refine Op.px 2 [(17,vL (some ⟨O,D,none⟩) list.length I),(18,vI i)] ?_
    obtain⟨cb,ce,cf,ch,bb,bc,Z⟩:=ay.br V _ G
    cases bb
    refine Op.iq 22 38 13 144 list.length I 17 18 19 O D i ?_
    obtain⟨ci,ck,dQ,bd,be,bi,Z⟩:=Z
    obtain⟨co,c3,rfl⟩:=bd.ai
    obtain⟨c4,c5,rfl⟩:=be.ai
    obtain⟨a70,bj,rfl⟩:=bi.ai
    refine Op.px 1 [(20,vQ O (D+i.toNat*13+12))]<|Op.l1 28 20 21 (D+i.toNat*13+12) (vL a70 u.eG.length bj) (U.sub _ _ bc) ?_ (hv:=cT Z 12 rfl)
    refine Op.pg 5 [(24,.bool (decide ((u.eG.length:Int)>2000)))]<|At.fd ((u.eG.length:Int)>2000) 24 6 8 (fun c6=>?_) fun c8=>?_
    ·exact At.gr 7 1 2 vT (hR U ⟨(aS (by exact TY G ‹_›)),rfl,rfl⟩)
    exact At.rp 3 1 [(8,vI i)]<|Op.vq 9 (i+1)<|Op.pg 2 [(3,vI (i+1))] (At.ke (a1 (i+1) _ (by omega) (by omega) (by omega) (by exact TW hI h0 G ‹_› ‹_›) U))
   exact At.gr 10 1 2 vF (hR J ⟨(aS (by exact TZ hI ‹_›)),rfl,rfl⟩)
 exact At.ke (a0 _ 0 _ (bK _) (by omega) (by omega) (by rfl) (St.init hg))
theorem DV (B:World) (h:av) (g:GH) (hg:bf g h) (Y:bh g) (I:Value) (list:List cz) (G:ay g 38 qd I list) (hl:list.length≤1048576):
  aA prog B 6 #[I] h g [] (fun X g' L'=>∃v0,X=v0∧ay g' 38 qd v0 (list.take 60)∧L'=[]):=by
 obtain⟨u,D,rfl⟩:=G.ai
 refine aA.aq func6 fun R hR=>?_
 have J:=St.init hg
 refine At.go 1 1 []<|At.go 2 3 [(5,.bool (decide ((list.length:Int)>60)))]<|At.fd ((list.length:Int)>60) 5 3 5 (fun Z=>?_) fun ab=>?_
 ·refine At.rp 3 1 [(6,vL u list.length D)]<|Op.Fj (T:=22) (E:=38) (cR:=144) (x:=6) (ao:=u) (n:=list.length) (c:=D) (dst:=7) (d:=qd) (hi:=(.const (vI 60))) (k:=.i64) (m:=60) (by kernel_rfl) (by kernel_rfl) (by kernel_rfl) (by kernel_rfl) G (by omega) (by omega) fun ad O=>?_
  obtain⟨U,V,rfl⟩:=O.ai
  exact Op.pr 4 2 (vL U ((list.take (60:Int).toNat).length) V) (hR J ⟨(vL U ((list.take (60:Int).toNat).length) V),rfl,bP O (by rfl),rfl⟩)
 exact At.gr 6 2 2 (vL u list.length D) (hR J ⟨(vL u list.length D),rfl,bP G (by exact(eR (by omega)).symm),rfl⟩)
theorem ya (B:World) (h:av) (g:GH) (hg:bf g h) (a0:bh g) (x:cz) (G:Value) (U:ay g 5 bn G x.Op.Data) (I:Value) (V:ay g 36 eY I x.Op.aH) (J:Value) (X:ay g 5 bn J x.eG):
  aA prog B 10 #[.agg #[vI x.Client,vI x.bz,vI x.bw,vI x.Op.Kind,vS x.Op.aa,G,vI x.Op.ak,vI x.Op.aJ,.bool x.Op.aZ,.bool x.Op.aN,.bool x.Op.ah,I,J]] h g [] (fun Y g' L'=>∃v0,Y=.agg #[.int .i64 ((bV x).Client),.int .i64 ((bV x).bz),.int .i64 ((bV x).bw),v0]∧ay g' 5 bn v0 ((bV x).uI)∧L'=[]):=by
 obtain⟨Z,ab,rfl⟩:=U.ai
 obtain⟨ad,ae,rfl⟩:=V.ai
 obtain⟨am,ar,rfl⟩:=X.ai
 refine aA.aq func10 fun R hR=>At.rg 2<|Op.bx 1 38 0 #[vI x.Client,vI x.bz,vI x.bw,vI x.Op.Kind,vS x.Op.aa,vL Z x.Op.Data.length ab,vI x.Op.ak,vI x.Op.aJ,.bool x.Op.aZ,.bool x.Op.aN,.bool x.Op.ah,vL ad x.Op.aH.length ae,vL am x.eG.length ar] (St.init hg) fun D a1 aw=>Op.al 2 32 #[vI 0,vI 0,vI 0,vN] aw fun a3 a4 u=>Op.gt 1 ?_
 refine At.rp 8 1 [(3,vP D)]<|Op.l1 3 3 4 0 (vI x.Client) (u.ag 1 rfl)<|Op.px 1 [(5,vQ D 1)]<|Op.l1 3 5 6 1 (vI x.bz) (u.ag 1 rfl)<|Op.px 1 [(7,vQ D 2)] ?_
 exact Op.l1 3 7 8 2 (vI x.bw) (u.ag 1 rfl)<|Op.px 1 [(9,.agg #[vI x.Client,vI x.bz,vI x.bw,vN])]<|Op.sg 32 2 9 0 0 #[vI x.Client,vI x.bz,vI x.bw,vN] u zt fun a5 O=>Op.gt 2<|At.rn f10 [.agg #[vI x.Client,vI x.bz,vI x.bw,vN]] [.cell 2 32] ⟨⟨_,_,rfl,dB (n:=4) (by kernel_rfl) (O.ag 0 rfl) (by kernel_rfl) rfl⟩,trivial⟩ (hR O.drop.drop ⟨vN,(by rfl),bP (ay.empty _ _ _ _ _) (by rfl),rfl⟩)
theorem yb (B:World) (h:av) (g:GH) (hg:bf g h) (u:bh g) (x:cz) (X:Value) (Y:ay g 5 bn X x.Op.Data) (Z:Value) (ab:ay g 36 eY Z x.Op.aH) (ad:Value) (D:ay g 5 bn ad x.eG) (ho:cY x.Op≤100000000) (hr:x.eG.length≤1000000000):
  aA prog B 11 #[.agg #[vI x.Client,vI x.bz,vI x.bw,vI x.Op.Kind,vS x.Op.aa,X,vI x.Op.ak,vI x.Op.aJ,.bool x.Op.aZ,.bool x.Op.aN,.bool x.Op.ah,Z,ad]] h g [] (fun bc g' L'=>∃v0,bc=v0∧ay g' 5 bn v0 (cm x)∧L'=[]):=by
 obtain⟨ae,am,rfl⟩:=Y.ai
 obtain⟨ar,aw,rfl⟩:=ab.ai
 obtain⟨a0,a1,rfl⟩:=D.ai
 refine aA.aq func11 fun R hR=>At.rg 2<|Op.bx 1 38 0 #[vI x.Client,vI x.bz,vI x.bw,vI x.Op.Kind,vS x.Op.aa,vL ae x.Op.Data.length am,vI x.Op.ak,vI x.Op.aJ,.bool x.Op.aZ,.bool x.Op.aN,.bool x.Op.ah,vL ar x.Op.aH.length aw,vL a0 x.eG.length a1] (St.init hg) fun a3 bm I=>Op.pg 1 []<|At.rp 9 1 [(6,vQ a3 3)] ?_
 refine Op.la 36 6 7 3 9 [vI x.Op.Kind,vS x.Op.aa,vL ae x.Op.Data.length am,vI x.Op.ak,vI x.Op.aJ,.bool x.Op.aZ,.bool x.Op.aN,.bool x.Op.ah,vL ar x.Op.aH.length aw] (I.ag 0 rfl)<|Op.c0 (some 8) (La _ _ _ I.sub u x.Op _ Y _ ab 3 (by(try dsimp only)<;>omega) (by(try dsimp only)<;>omega)) I ?_
 rintro _ bo _ bs a4 a5 ⟨bt,b3,rfl,a6,a7,rfl⟩
 obtain⟨b4,b5,rfl⟩:=a6.ai
 obtain⟨a31,b6,rfl⟩:=a7.ai
 replace u:=u.mono a4
 replace D:=D.mono a4
 refine Op.c0 (some 9) (CV _ _ _ a5.sub u (bG x.Op (3)) _ a6 _ a7 (by((try dsimp only)<;>(exact K4 (by omega))))) a5 ?_
 rintro _ b8 _ ca a8 G ⟨v37,rfl,a9,rfl⟩
 obtain⟨J,O,rfl⟩:=a9.ai
 replace u:=u.mono a8
 replace D:=D.mono a8
 refine Op.pg 2 [(3,vL J (((aU (bG x.Op (3))).1).length) O),(4,vI ((aU (bG x.Op (3))).2))]<|At.go 3 2 [(13,.bool (((aU (bG x.Op (3))).2) != 0))]<|At.fn (((aU (bG x.Op (3))).2)=0) 13 4 6 (fun cb=>?_) fun ce=>?_
 ·refine At.rp 4 1 [(14,vQ a3 12)]<|Op.l1 28 14 15 12 (vL a0 x.eG.length a1) (G.ag 0 rfl)<|Op.c0 (some 16) (C7 _ _ _ G.sub u _ _ D (by(try dsimp only)<;>omega)) G ?_
  rintro _ bd _ cf be bi ⟨ch,ci,rfl,bb,ck,rfl⟩;subst bd;clear be
  obtain⟨U,V,rfl⟩:=bb.ai
  refine Op.pg 5 [(2,vL U (x.eG.length) V)] ?_
  obtain⟨co,bj,c3,bk⟩:=aF.freeze bb (bi)
  exact At.rt (vL U (x.eG.length) V) (hR bj.drop ⟨(vL U (x.eG.length) V),rfl,bP bk (by exact T0 ‹_›),rfl⟩)
 exact At.gr 7 2 2 (vL J (((aU (bG x.Op (3))).1).length) O) (hR G.drop ⟨(vL J (((aU (bG x.Op (3))).1).length) O),rfl,bP a9 (by exact T3 ‹_›),rfl⟩)
def AJ (s:Sp) (x:cz):Bool:=fG s (bV x)
def qe (s:Sp) (x:cz):Sp:=eZ s (bV x) (cm x)
def cE (s:Sp) (x:cz):Result:=if AJ s x=true then (aY (aV s (bV x) (cm x))).1 else r5
def lJ (s:Sp) (x:cz):Bool:=AJ s x&&(aY (aV s (bV x) (cm x))).2==0
def vO (kind:Int) (ey:aQ) (dO:Int) (u watch:Bool):aC:=⟨kind,ey,[],0,dO,u,false,watch,[]⟩
def ku:List cz:=[⟨1,1,0,vO 1 [] 9 false false,[]⟩,⟨2,1,0,vO 1 [] 9 false false,[]⟩,⟨1,2,0,vO 3 [47,97] 0 true false,[]⟩,⟨2,2,0,vO 6 [47,97] 0 false true,[]⟩,⟨1,3,0,vO 2 [] 0 false false,[]⟩]
def lY (i:Nat):Sp:=(ku.take i).foldl qe eM
def oX:cz:=⟨2,3,0,vO 9 [] 0 false false,[]⟩
def ue (i:Nat):Bool:=match ku[i]? with
  |none=>false
  |some x=>lJ (lY i) x&&((cE (lY i) x).Code==0&&(cE (lY i) x).bg==(i:Int)+1)
theorem T7:(ue 0&&(ue 1&&(ue 2&&(ue 3&&ue 4))))=true:=by decide+kernel
theorem T8:((lJ (lY 5) oX&&((cE (lY 5) oX).Code==0&&decide ((cE (lY 5) oX).aW=[⟨2,1,[47,97]⟩])))&&((qe (lY 5) oX).an.length==1))=true:=by decide+kernel
section
variable {i k:Int} {y s:Sp} {x:cz}
theorem AK (hy:y=lY i.toNat) (h0:0≤i) (hx:ku[i.toNat]?=some x):lJ y x=true∧(cE y x).Code=0∧(cE y x).bg=i+1∧qe y x=lY (i+1).toNat:=by
  subst hy
  have hlt:=(dL.1 hx).1
  have hlt:i.toNat<5:=hlt
  have hb:ue i.toNat=true:=by
    have h:=T7
    simp only[bO] at h
    obtain⟨h1,h2,h3,h4,h5⟩:=h
    have:i.toNat=0∨i.toNat=1∨i.toNat=2∨i.toNat=3∨i.toNat=4:=by omega
    rcases this with e|e|e|e|e
    · rw[e];exact h1
    · rw[e];exact h2
    · rw[e];exact h3
    · rw[e];exact h4
    · rw[e];exact h5
  unfold ue at hb
  rw[hx] at hb
  simp only[bO,kz] at hb
  refine⟨hb.1,hb.2.1,by rw[hb.2.2];omega,?_⟩
  unfold lY
  rw[toNat_succ h0,fu hx,r_]
  rfl
theorem T9 (hy:y=lY i.toNat) (h:¬i<(ku.length:Int)) (h1:i≤ku.length):y=lY 5:=by
  have e:(ku.length:Int)=5:=rfl
  have:i.toNat=5:=by omega
  rw[hy,this]
theorem yc {l:List cz} (hy:y=lY i.toNat) (hl:l=ku) (h:¬i<(l.length:Int)) (h1:i≤ku.length):y=lY 5:=T9 hy (hl▸h) h1
theorem yd (hy:y=lY 5):lJ y oX=true∧(cE y oX).Code=0∧(cE y oX).aW=[⟨2,1,[47,97]⟩]∧(qe y oX).an.length=1:=by
  subst hy
  have h:=T8
  simp only[bO,kz,cB] at h
  exact⟨h.1.1,h.1.2.1,h.1.2.2,h.2⟩
structure gX (i:Int) (s:Sp):Prop where
  ok:bC (4*i) s
  cnt:s.count≤i
theorem gX.new:gX 0 eM:=⟨bC.new,by decide⟩
theorem gX.mB {e:bu} {b:aQ} (H:gX i s) (h0:0≤i) (hi:i≤20000):gX (i+1) (eZ s e b):=by
  refine⟨(H.ok.mB (by omega) (by omega) (by have:=H.cnt;omega)).mono (by omega),?_⟩
  rw[Tw]
  have:=H.cnt
  split<;>omega
theorem gX.done (H:gX i s) (h0:0≤i) (hi:i≤20000):gX (i+1) (qe s x):=H.mB h0 hi
theorem AL {e:bu} {b:aQ} (H:bC k s):(aV s e b).length≤1000000000:=by
  unfold aV
  repeat' split
  · exact KJ _
  · unfold iM
    rw[AA]
    cases h:bW s.aI e.Client with
    |none=>exact gO _
    |some r=>
     obtain⟨p,hp,rfl⟩:=DJ h
     exact cr (H.gN.ok p hp).2.2 (by decide)
  · exact gO _
  · exact gO _
theorem vR {e:bu} {b:aQ} (H:gX i s) (h0:0≤i) (hi:i≤20000):ic e=true→vc (iZ (fR s e.bw) e.Client b):=fun hE=>
  Kz (H.ok.tZ e.bw) (Aw hE).1.2 (by omega) (by omega) (by rw[sF];have:=H.cnt;omega)
theorem gX.gN (H:gX i s):∀p∈s.aI,p.2.data.length≤1000000000:=fun p hp=>cr (H.ok.gN.ok p hp).2.2 (by decide)
theorem gX.ct (H:gX i s) (hi:i≤20000):0≤s.count∧s.count≤1000000000000000:=⟨H.ok.cn,by have:=H.cnt;omega⟩
theorem ye (h:AJ s x=true):(aY (aV s (bV x) (cm x))).1=cE s x∧((aY (aV s (bV x) (cm x))).2==0)=lJ s x:=by
  refine⟨by unfold cE;rw[aL h],?_⟩
  unfold lJ
  rw[h];rfl
theorem yf (h:AJ s x=false):r5=cE s x∧false=lJ s x:=by
  refine⟨by unfold cE;rw[h];rfl,?_⟩
  unfold lJ
  rw[h];rfl
end
theorem T_:∀x∈ku,cY x.Op≤100000000∧x.eG.length≤2000:=by decide+kernel
theorem Ua:cY oX.Op≤100000000∧oX.eG.length≤2000:=by decide+kernel
section
variable {i:Int} {s z:Sp} {x:cz} {l:List cz} {fb:aQ} {fn:Bool} {b':aQ}
theorem cG (l:List cz):(l.take 60).length≤60:=by rw[dD];omega
theorem uf (H:gX i s):((cO s).cy.length≤1000000∧∀n∈(cO s).cy,n.Data.length≤1000000000)∧(cO s).cX.length≤1000000∧(cO s).dG.length≤1000000∧(cO s).aW.length≤1000000∧(cO s).cw.length≤1000000∧∀x∈(cO s).cw,x.Data.length≤1000000000:=by
  have K:=H.ok
  refine⟨⟨cr K.tree.len (by decide),fun n hn=>cr (K.tree.node n hn).2.1 (by decide)⟩,cr K.kW.len (by decide),?_,?_,?_,?_⟩
  · show(s.az.map (·.2)).length≤_
    rw[eu]
    exact cr K.az.len (by decide)
  · show((s.events.map (·.2)).flatten).length≤_
    have h8:=K.KV
    have key:∀(l:gL),(∀p∈l,p.2.length≤8)→((l.map (·.2)).flatten).length≤8*l.length:=by
      intro l
      induction l with
      |nil=>intro _;exact gO _
      |cons p l ih=>
       intro h
       have h1:=h p (by simp)
       have h2:=ih fun q hq=>h q (by simp[hq])
       rw[e_,cg,b_,bL]
       omega
    have:=key s.events fun p hp=>by
      have hq:=K.quo p.1
      have he:eE s.events p.1=p.2:=by
        unfold eE
        rw[(ki K.ev.sort).2 (show(p.1,p.2)∈s.events from hp)]
        rfl
      rw[he] at hq
      omega
    omega
  · show(s.aI.map _).length≤_
    rw[eu]
    exact cr (DL K.gN.sort fun p hp=>(K.gN.ok p hp).1) (by decide)
  · intro x hx
    obtain⟨p,hp,rfl⟩:=cF.1 hx
    exact cr (K.gN.ok p hp).2.2 (by decide)
end
section
variable {a b:gf} {i:Int} {x y:fV}
end
theorem Lb {i0:Int} (B:World) (h:av) (g:GH) (hg:bf g h) (u:bh g) (X:Nat) (s:Sp) (ae:au) (Y:bB g X s ae) (x:cz) (a9:Value) (Z:ay g 5 bn a9 x.Op.Data) (bb:Value) (ab:ay g 36 eY bb x.Op.aH) (bc:Value) (ad:ay g 5 bn bc x.eG) (hP:l7 g) (hK:gX i0 s) (a0:0≤i0∧i0≤20000) (ho:cY x.Op≤100000000∧x.eG.length≤2000) (hs:St h g (aM [ae]) g [ae] h):
  aA prog B 21 #[vP X,.agg #[vI x.Client,vI x.bz,vI x.bw,vI x.Op.Kind,vS x.Op.aa,a9,vI x.Op.ak,vI x.Op.aJ,.bool x.Op.aZ,.bool x.Op.aN,.bool x.Op.ah,bb,bc]] h g [ae] (fun ch g' L'=>∃v0 v1 v2 bd,ch=.tuple #[.agg #[.int .i64 ((cE s x).Code),.int .i64 ((cE s x).bg),.int .i64 ((cE s x).At),.string (a_ ((cE s x).af.aa)),v0,.int .i64 ((cE s x).af.ak),.int .i64 ((cE s x).af.aE),.int .i64 ((cE s x).af.Next),.int .i64 ((cE s x).af.aO),v1,v2],.bool (lJ s x)]∧ay g' 5 bn v0 ((cE s x).af.Data)∧ay g' 9 ew v1 ((cE s x).bF)∧ay g' 69 cu v2 ((cE s x).aW)∧bB g' X (qe s x) bd∧L'=[bd]):=by
 obtain⟨a1,a3,rfl⟩:=Z.ai
 obtain⟨a4,a5,rfl⟩:=ab.ai
 obtain⟨a6,a7,rfl⟩:=ad.ai
 refine aA.aq func21 fun R hR=>At.rg 3<|Op.bx 3 38 1 #[vI x.Client,vI x.bz,vI x.bw,vI x.Op.Kind,vS x.Op.aa,vL a1 x.Op.Data.length a3,vI x.Op.ak,vI x.Op.aJ,.bool x.Op.aZ,.bool x.Op.aN,.bool x.Op.ah,vL a4 x.Op.aH.length a5,vL a6 x.eG.length a7] hs fun c8 c9 ci=>Op.al 4 59 ia ci fun da db am=>Op.pg 1 [] ?_
 refine At.dw (fun _=>False) [(0,true),(1,true),(3,true),(2,false),(4,false),(1005,false),(5,false),(6,true),(7,true),(8,true),(9,true),(10,true)]<|Op.px 1 [(11,vP X)]<|Op.jg (T:=38) (x:=3) (o:=0) (d:=12) (n:=13) (vs:=[vI x.Client,vI x.bz,vI x.bw,vI x.Op.Kind,vS x.Op.aa,vL a1 x.Op.Data.length a3,vI x.Op.ak,vI x.Op.aJ,.bool x.Op.aZ,.bool x.Op.aN,.bool x.Op.ah,vL a4 x.Op.aH.length a5,vL a6 x.eG.length a7]) (by kernel_rfl) (by kernel_rfl) (by kernel_rfl) id (am.ag 1 rfl) (by kernel_rfl) rfl<|Op.jg (T:=38) (x:=3) (o:=0) (d:=14) (n:=13) (vs:=[vI x.Client,vI x.bz,vI x.bw,vI x.Op.Kind,vS x.Op.aa,vL a1 x.Op.Data.length a3,vI x.Op.ak,vI x.Op.aJ,.bool x.Op.aZ,.bool x.Op.aN,.bool x.Op.ah,vL a4 x.Op.aH.length a5,vL a6 x.eG.length a7]) (by kernel_rfl) (by kernel_rfl) (by kernel_rfl) id (am.ag 1 rfl) (by kernel_rfl) rfl<|Op.c0 (some 13) (ya _ _ _ am.sub u x _ Z _ ab _ ad) am ?_
 rintro _ dc _ dd D be ⟨v28,rfl,ar,rfl⟩
 obtain⟨df,dg,rfl⟩:=ar.ai
 replace u:=u.mono D
 replace hP:=hP.mono D
 replace ab:=ab.mono D
 replace ad:=ad.mono D
 replace Z:=Z.mono D
 replace Y:=Y.mono D
 refine Op.c0 (some 15) (yb _ _ _ be.sub u x _ Z _ ab _ ad (by(try dsimp only)<;>omega) (by(try dsimp only)<;>omega)) be ?_
 rintro _ dj _ dk aw ck ⟨dl,rfl,bi,rfl⟩
 obtain⟨dp,dq,rfl⟩:=bi.ai
 replace u:=u.mono aw
 replace hP:=hP.mono aw
 replace ar:=ar.mono aw
 replace Y:=Y.mono aw
 refine Op.ba ?_
 have a8:=ck.fs [1,1,2] rfl
 refine Op.cl (some 16) 1 a8 (ua _ _ _ a8.sub u X s _ Y (bV x) _ ar _ _ bi hP (by((try dsimp only)<;>(exact hK.ok.wk (by omega)))) (by((try dsimp only)<;>(exact cr (x_ ho.2) (by decide)))) (by(try dsimp only)<;>exact hK.ct a0.2) (by(try dsimp only)<;>exact hK.gN) (by(try dsimp only)<;>exact vR hK a0.1 a0.2) (St.pt 1 a8)) ?_
 rintro _ du _ dv co bj ⟨dC,dE,bk,rfl,bm,G,rfl⟩
 obtain⟨bo,bs,rfl⟩:=bm.ai
 replace u:=u.mono co
 refine Op.pg 2 [(6,vL bo ((aV s (bV x) (cm x)).length) bs),(7,.bool (fG s (bV x)))]<|At.go 3 2 [(20,.bool (!(fG s (bV x))))]<|At.c_ (!(fG s (bV x))) 20 4 6 (fun bt=>?_) fun b3=>?_
 ·replace bt:=(dm bt)
  exact At.rp 3 1 [(21,.agg ia)]<|Op.sg 59 4 21 0 2 ia bj zt fun dT b4=>Op.pg 5 [(5,vF)]<|At.rn f21 [.agg ia,vF] [.cell 4 59,.tmp 5] ⟨⟨_,_,rfl,dB (n:=11) (by kernel_rfl) (b4.ag 2 rfl) (by kernel_rfl) rfl⟩,rfl,trivial⟩<|hR (b4.fs [3,3,3] rfl).drop.drop.drop ⟨vN,vN,vN,bk,bM (by(rw[←(yf ‹_›).1];rfl)) (aS (by exact(yf ‹_›).2)),bP (ay.empty _ _ _ _ _) (by(rw[←(yf ‹_›).1];rfl)),bP (ay.empty _ _ _ _ _) (by(rw[←(yf ‹_›).1];rfl)),bP (ay.empty _ _ _ _ _) (by(rw[←(yf ‹_›).1];rfl)),G.eq (by rfl),rfl⟩
 replace b3:=(dn b3)
 refine At.rp 8 1 [(23,vL bo ((aV s (bV x) (cm x)).length) bs)] ?_
 obtain⟨d0,b5,b6,c3⟩:=aF.freeze bm (bj.fs [1] rfl)
 replace u:=u.mono b6
 replace G:=G.mono b6
 refine Op.c0 (some 24) (Dc _ _ _ b5.sub u _ _ c3 (by(try dsimp only)<;>exact AL hK.ok)) b5 ?_
 rintro _ d1 _ d2 c4 c5 ⟨d3,d4,d5,rfl,b8,ca,cb,rfl⟩
 obtain⟨I,J,rfl⟩:=b8.ai
 obtain⟨O,U,rfl⟩:=ca.ai
 obtain⟨a75,V,rfl⟩:=cb.ai
 replace G:=G.mono c4
 refine Op.px 3 [(25,.agg #[vI (((aY (aV s (bV x) (cm x))).1).Code),vI (((aY (aV s (bV x) (cm x))).1).bg),vI (((aY (aV s (bV x) (cm x))).1).At),vS (((aY (aV s (bV x) (cm x))).1).af.aa),vL I ((((aY (aV s (bV x) (cm x))).1).af.Data).length) J,vI (((aY (aV s (bV x) (cm x))).1).af.ak),vI (((aY (aV s (bV x) (cm x))).1).af.aE),vI (((aY (aV s (bV x) (cm x))).1).af.Next),vI (((aY (aV s (bV x) (cm x))).1).af.aO),vL O ((((aY (aV s (bV x) (cm x))).1).bF).length) U,vL a75 ((((aY (aV s (bV x) (cm x))).1).aW).length) V]),(26,vI ((aY (aV s (bV x) (cm x))).2))]<|Op.al 8 59 ia c5 fun d6 d7 c6=>Op.sg 59 8 25 0 0 #[vI (((aY (aV s (bV x) (cm x))).1).Code),vI (((aY (aV s (bV x) (cm x))).1).bg),vI (((aY (aV s (bV x) (cm x))).1).At),vS (((aY (aV s (bV x) (cm x))).1).af.aa),vL I ((((aY (aV s (bV x) (cm x))).1).af.Data).length) J,vI (((aY (aV s (bV x) (cm x))).1).af.ak),vI (((aY (aV s (bV x) (cm x))).1).af.aE),vI (((aY (aV s (bV x) (cm x))).1).af.Next),vI (((aY (aV s (bV x) (cm x))).1).af.aO),vL O ((((aY (aV s (bV x) (cm x))).1).bF).length) U,vL a75 ((((aY (aV s (bV x) (cm x))).1).aW).length) V] c6 zt fun d8 ce=>Op.pg 7 [(9,vI ((aY (aV s (bV x) (cm x))).2))]<|At.rg 5 ?_
 refine Op.la 59 8 27 0 11 [vI (((aY (aV s (bV x) (cm x))).1).Code),vI (((aY (aV s (bV x) (cm x))).1).bg),vI (((aY (aV s (bV x) (cm x))).1).At),vS (((aY (aV s (bV x) (cm x))).1).af.aa),vL I ((((aY (aV s (bV x) (cm x))).1).af.Data).length) J,vI (((aY (aV s (bV x) (cm x))).1).af.ak),vI (((aY (aV s (bV x) (cm x))).1).af.aE),vI (((aY (aV s (bV x) (cm x))).1).af.Next),vI (((aY (aV s (bV x) (cm x))).1).af.aO),vL O ((((aY (aV s (bV x) (cm x))).1).bF).length) U,vL a75 ((((aY (aV s (bV x) (cm x))).1).aW).length) V] (ce.ag 0 rfl)<|Op.px 2 [(29,.bool (((aY (aV s (bV x) (cm x))).2)==0))]<|Op.sg 59 4 27 0 2 #[vI (((aY (aV s (bV x) (cm x))).1).Code),vI (((aY (aV s (bV x) (cm x))).1).bg),vI (((aY (aV s (bV x) (cm x))).1).At),vS (((aY (aV s (bV x) (cm x))).1).af.aa),vL I ((((aY (aV s (bV x) (cm x))).1).af.Data).length) J,vI (((aY (aV s (bV x) (cm x))).1).af.ak),vI (((aY (aV s (bV x) (cm x))).1).af.aE),vI (((aY (aV s (bV x) (cm x))).1).af.Next),vI (((aY (aV s (bV x) (cm x))).1).af.aO),vL O ((((aY (aV s (bV x) (cm x))).1).bF).length) U,vL a75 ((((aY (aV s (bV x) (cm x))).1).aW).length) V] ce zt fun d9 cf=>Op.pg 8 [(5,.bool (((aY (aV s (bV x) (cm x))).2)==0))]<|At.rn f21 [.agg #[vI (((aY (aV s (bV x) (cm x))).1).Code),vI (((aY (aV s (bV x) (cm x))).1).bg),vI (((aY (aV s (bV x) (cm x))).1).At),vS (((aY (aV s (bV x) (cm x))).1).af.aa),vL I ((((aY (aV s (bV x) (cm x))).1).af.Data).length) J,vI (((aY (aV s (bV x) (cm x))).1).af.ak),vI (((aY (aV s (bV x) (cm x))).1).af.aE),vI (((aY (aV s (bV x) (cm x))).1).af.Next),vI (((aY (aV s (bV x) (cm x))).1).af.aO),vL O ((((aY (aV s (bV x) (cm x))).1).bF).length) U,vL a75 ((((aY (aV s (bV x) (cm x))).1).aW).length) V],.bool (((aY (aV s (bV x) (cm x))).2)==0)] [.cell 4 59,.tmp 5] ⟨⟨_,_,rfl,dB (n:=11) (by kernel_rfl) (cf.ag 2 rfl) (by kernel_rfl) rfl⟩,rfl,trivial⟩ ?_
 exact hR (cf.fs [1,3,3,3] rfl).drop.drop.drop ⟨(vL I ((((aY (aV s (bV x) (cm x))).1).af.Data).length) J),(vL O ((((aY (aV s (bV x) (cm x))).1).bF).length) U),(vL a75 ((((aY (aV s (bV x) (cm x))).1).aW).length) V),bk,bM (by(rw[(ye ‹_›).1])) (aS (by exact(ye ‹_›).2)),bP b8 (by(rw[(ye ‹_›).1])),bP ca (by(rw[(ye ‹_›).1])),bP cb (by(rw[(ye ‹_›).1])),G.eq (by rfl),rfl⟩
theorem Ld (B:World) (h:av) (g:GH) (hg:bf g h) (D:bh g) (hP:l7 g):
  aA prog B 5 #[] h g [] (fun co g' L'=>co=vT∧L'=[]):=by
 refine aA.aq func5 fun R hR=>?_
 have a8:=St.init hg
 refine At.go 1 1 []<|At.rg 2<|Op.c0 (some 8) (vr _ _ _ a8.sub D) a8 ?_
 rintro _ c3 _ ej a9 c4 ⟨G,em,rfl,ad,rfl⟩
 replace D:=D.mono a9
 replace hP:=hP.mono a9
 refine Op.pg 2 [(1,vP G)]<|At.go 3 2 [(10,vF)]<|At.dP 10 6<|At.rp 12 10 [(12,.agg #[vI 1,vI 1,vI 0,vI 1,vS [],vN,vI 0,vI 9,vF,vF,vF,vN,vN]),(14,.agg #[vI 2,vI 1,vI 0,vI 1,vS [],vN,vI 0,vI 9,vF,vF,vF,vN,vN]),(16,.agg #[vI 1,vI 2,vI 0,vI 3,vS ([47,97]),vN,vI 0,vI 0,vT,vF,vF,vN,vN]),(18,.agg #[vI 2,vI 2,vI 0,vI 6,vS ([47,97]),vN,vI 0,vI 0,vF,vF,vT,vN,vN]),(20,.agg #[vI 1,vI 3,vI 0,vI 2,vS [],vN,vI 0,vI 0,vF,vF,vF,vN,vN])]<|Op.ls 21 5 38 #[vI 1,vI 1,vI 0,vI 1,vS [],vN,vI 0,vI 9,vF,vF,vF,vN,vN,vI 2,vI 1,vI 0,vI 1,vS [],vN,vI 0,vI 9,vF,vF,vF,vN,vN,vI 1,vI 2,vI 0,vI 3,vS ([47,97]),vN,vI 0,vI 0,vT,vF,vF,vN,vN,vI 2,vI 2,vI 0,vI 6,vS ([47,97]),vN,vI 0,vI 0,vF,vF,vT,vN,vN,vI 1,vI 3,vI 0,vI 2,vS [],vN,vI 0,vI 0,vF,vF,vF,vN,vN] c4 fun ae en c5=>?_
 refine Op.pg 7 [(2,vL (some ⟨ae,0,none⟩) 5 5)] ?_
 have c6:aF 38 qd c3 (vL (some ⟨ae,0,none⟩) 5 5) [(⟨1,1,0,⟨1,[],[],0,9,false,false,false,[]⟩,[]⟩:cz),(⟨2,1,0,⟨1,[],[],0,9,false,false,false,[]⟩,[]⟩:cz),(⟨1,2,0,⟨3,[47,97],[],0,0,true,false,false,[]⟩,[]⟩:cz),(⟨2,2,0,⟨6,[47,97],[],0,0,false,false,true,[]⟩,[]⟩:cz),(⟨1,3,0,⟨2,[],[],0,0,false,false,false,[]⟩,[]⟩:cz)] [(ae,Obj.cells #[vI 1,vI 1,vI 0,vI 1,vS [],vN,vI 0,vI 9,vF,vF,vF,vN,vN,vI 2,vI 1,vI 0,vI 1,vS [],vN,vI 0,vI 9,vF,vF,vF,vN,vN,vI 1,vI 2,vI 0,vI 3,vS ([47,97]),vN,vI 0,vI 0,vT,vF,vF,vN,vN,vI 2,vI 2,vI 0,vI 6,vS ([47,97]),vN,vI 0,vI 0,vF,vF,vT,vN,vN,vI 1,vI 3,vI 0,vI 2,vS [],vN,vI 0,vI 0,vF,vF,vF,vN,vN] 38 (0,0))]:=aF.lit (by kernel_rfl) (by unfold maxLen;decide) (by kernel_rfl) ⟨_,_,rfl,⟨_,_,_,(ay.nil _ _ _),(ay.nil _ _ _),(ay.nil _ _ _),rfl⟩,⟨_,_,rfl,⟨_,_,_,(ay.nil _ _ _),(ay.nil _ _ _),(ay.nil _ _ _),rfl⟩,⟨_,_,rfl,⟨_,_,_,(ay.nil _ _ _),(ay.nil _ _ _),(ay.nil _ _ _),rfl⟩,⟨_,_,rfl,⟨_,_,_,(ay.nil _ _ _),(ay.nil _ _ _),(ay.nil _ _ _),rfl⟩,⟨_,_,rfl,⟨_,_,_,(ay.nil _ _ _),(ay.nil _ _ _),(ay.nil _ _ _),rfl⟩,Reads.nil⟩⟩⟩⟩⟩
 obtain⟨c8,c9,am,da⟩:=aF.freeze c6 (c5)
 replace D:=D.mono am
 replace hP:=hP.mono am
 replace ad:=ad.mono am
 refine At.go 8 1 [(3,vI 0)] ?_
 have db:∀(m:Nat) (U:GH) (Z:aG c8 U) (y:Sp) (l:List cz) (i:Int) (ar:au) (a37:Option Addr) (V:Nat) (aw:av) (hm:ku.length-i.toNat<m) (h0:0≤i) (h1:i≤ku.length) (hl:l=ku) (hy:y=lY i.toNat) (hK:gX i y) (a0:bB U G y ar) (X:ay U 38 qd (vL a37 l.length V) l) (I:St h g (aM []) U [ar] aw),At (bS prog B 5 f5 R) [] 8 [(1,vP G),(2,vL a37 l.length V),(3,vI i)] aw:=by
  intro m;induction m with
  |zero=>intros;omega
  |succ m dc=>
   intro U Z y l i ar a37 V aw hm h0 h1 hl hy hK a0 X I
   replace D:=D.mono Z
   replace hP:=hP.mono Z
   refine At.go 9 4 [(25,.bool (decide (i<(l.length:Int))))]<|At.fd (i<(l.length:Int)) 25 10 16 (fun eo=>?_) fun ep=>?_
   ·refine At.rp 12 3 [(29,vP G),(30,vL a37 l.length V),(31,vI i)] ?_
    obtain⟨u,J⟩:=cD l i
    obtain⟨dd,bb,er,et,df,a1,a3⟩:=ay.br X _ J
    cases df
    refine Op.iq 22 38 13 144 l.length V 30 31 32 dd bb i ?_
    obtain⟨ex,eA,eB,bc,bd,be,a3⟩:=a3
    obtain⟨dg,dj,rfl⟩:=bc.ai
    obtain⟨dk,dl,rfl⟩:=bd.ai
    obtain⟨dp,dq,rfl⟩:=be.ai
    refine Op.la 38 32 33 (bb+i.toNat*13) 13 [vI u.Client,vI u.bz,vI u.bw,vI u.Op.Kind,vS u.Op.aa,vL dg u.Op.Data.length dj,vI u.Op.ak,vI u.Op.aJ,.bool u.Op.aZ,.bool u.Op.aN,.bool u.Op.ah,vL dk u.Op.aH.length dl,vL dp u.eG.length dq] (I.sub _ _ a1) ?_ (hv:=a3)
    refine Op.cl (some 34) 1 I (Lb _ _ _ I.sub D G y _ a0 u _ bc _ bd _ be hP (by(try dsimp only)<;>omega) (by((try dsimp only)<;>(exact⟨by omega,by have h9:(ku.length:Int)=5:=rfl;omega⟩))) (by((try dsimp only)<;>(exact T_ _ (hl▸cL J)))) (St.pt 1 I)) ?_
    rintro _ eI _ eJ bi du ⟨eK,v72,v76,eL,rfl,dv,dC,dE,dT,rfl⟩
    obtain⟨a70,bj,rfl⟩:=dv.ai
    obtain⟨bk,bm,rfl⟩:=dC.ai
    obtain⟨bo,bs,rfl⟩:=dE.ai
    replace a1:=bi _ _ a1
    replace X:=X.mono bi
    refine Op.px 3 [(35,.agg #[vI ((cE y u).Code),vI ((cE y u).bg),vI ((cE y u).At),vS ((cE y u).af.aa),vL a70 (((cE y u).af.Data).length) bj,vI ((cE y u).af.ak),vI ((cE y u).af.aE),vI ((cE y u).af.Next),vI ((cE y u).af.aO),vL bk (((cE y u).bF).length) bm,vL bo (((cE y u).aW).length) bs]),(36,.bool (lJ y u))]<|Op.al 4 59 ia du fun bt eQ d0=>Op.sg 59 4 35 0 0 #[vI ((cE y u).Code),vI ((cE y u).bg),vI ((cE y u).At),vS ((cE y u).af.aa),vL a70 (((cE y u).af.Data).length) bj,vI ((cE y u).af.ak),vI ((cE y u).af.aE),vI ((cE y u).af.Next),vI ((cE y u).af.aO),vL bk (((cE y u).bF).length) bm,vL bo (((cE y u).aW).length) bs] d0 zt fun eT O=>Op.pg 11 [(5,.bool (lJ y u))]<|At.rp 14 3 [(39,.bool (!(lJ y u)))] ?_
    refine Op.wb (!(lJ y u)) 39 (fun b3=>?_) fun b4=>?_
    ·replace b3:=(dm b3)
     exact Op.pg 12 [(50,vT)]<|At.bX 50 13<|At.gr 14 1 0 vF (hR O.drop.drop ⟨(aS (by exact Bool.noConfusion ((AK hy h0 (hl▸J)).1.symm.trans ‹_›))),rfl⟩)
    replace b4:=(dn b4)
    refine Op.px 1 [(40,vP bt)]<|Op.l1 52 40 41 0 (vI ((cE y u).Code)) (O.ag 0 rfl)<|Op.px 3 [(44,.bool (((cE y u).Code) != 0))]<|Op.wb (((cE y u).Code) != 0) 44 (fun b5=>?_) fun b6=>?_
    ·replace b5:=jO b5
     exact Op.pg 12 [(50,vT)]<|At.bX 50 13<|At.gr 14 1 0 vF (hR O.drop.drop ⟨(aS (by exact absurd (AK hy h0 (hl▸J)).2.1 ‹_›)),rfl⟩)
    replace b6:=l6 b6
    refine Op.px 1 [(45,vQ bt 1)]<|Op.l1 3 45 46 1 (vI ((cE y u).bg)) (O.ag 0 rfl)<|Op.px 1 [(47,vI i)]<|Op.dQ 48 (i+1) (by omega) (by(have h9:(ku.length:Int)=5:=rfl;omega))<|Op.pg 12 [(50,.bool (((cE y u).bg) != (i+1)))] ?_
    refine At.fn (((cE y u).bg)=(i+1)) 50 13 15 (fun e1=>?_) fun e2=>?_
    ·exact At.gr 14 1 0 vF (hR O.drop.drop ⟨(aS (by exact absurd (AK hy h0 (hl▸J)).2.2.1 ‹_›)),rfl⟩)
    exact At.rp 3 1 [(26,vI i)]<|Op.dQ 27 (i+1) (by omega) (by(have h9:(ku.length:Int)=5:=rfl;omega))<|Op.pg 8 [(3,vI (i+1))]<|At.ke (dc _ (aG.trans Z (by repeat (first|assumption|apply aG.trans))) (qe y u) l (i+1) _ _ _ _ (by(have h9:=congrArg List.length hl;omega)) (by omega) (by(have h9:=congrArg List.length hl;omega)) (by exact hl) (by exact(AK hy h0 (hl▸J)).2.2.2) (by exact hK.done h0 (by have h9:(ku.length:Int)=5:=rfl;omega)) dT X O.drop)
   refine At.rp 10 3 [(52,vP G),(54,.agg #[vI 2,vI 3,vI 0,vI 9,vS [],vN,vI 0,vI 0,vF,vF,vF,vN,vN])]<|Op.cl (some 55) 1 I (Lb _ _ _ I.sub D G y _ a0 (⟨2,3,0,⟨9,[],[],0,0,false,false,false,[]⟩,[]⟩:cz) _ (ay.nil _ _ _) _ (ay.nil _ _ _) _ (ay.nil _ _ _) hP (by(try dsimp only)<;>omega) (by((try dsimp only)<;>(exact⟨by omega,by have h9:(ku.length:Int)=5:=rfl;omega⟩))) (by(try dsimp only)<;>exact Ua) (St.pt 1 I)) ?_
   rintro _ d1 _ e3 d2 d3 ⟨e4,e5,e6,e7,rfl,d4,d5,b8,d6,rfl⟩
   obtain⟨ca,cb,rfl⟩:=d4.ai
   obtain⟨ce,n105,rfl⟩:=d5.ai
   obtain⟨a4,a5,rfl⟩:=b8.ai
   replace D:=D.mono d2
   refine Op.px 3 [(56,.agg #[vI ((cE y (⟨2,3,0,⟨9,[],[],0,0,false,false,false,[]⟩,[]⟩:cz)).Code),vI ((cE y (⟨2,3,0,⟨9,[],[],0,0,false,false,false,[]⟩,[]⟩:cz)).bg),vI ((cE y (⟨2,3,0,⟨9,[],[],0,0,false,false,false,[]⟩,[]⟩:cz)).At),vS ((cE y (⟨2,3,0,⟨9,[],[],0,0,false,false,false,[]⟩,[]⟩:cz)).af.aa),vL ca (((cE y (⟨2,3,0,⟨9,[],[],0,0,false,false,false,[]⟩,[]⟩:cz)).af.Data).length) cb,vI ((cE y (⟨2,3,0,⟨9,[],[],0,0,false,false,false,[]⟩,[]⟩:cz)).af.ak),vI ((cE y (⟨2,3,0,⟨9,[],[],0,0,false,false,false,[]⟩,[]⟩:cz)).af.aE),vI ((cE y (⟨2,3,0,⟨9,[],[],0,0,false,false,false,[]⟩,[]⟩:cz)).af.Next),vI ((cE y (⟨2,3,0,⟨9,[],[],0,0,false,false,false,[]⟩,[]⟩:cz)).af.aO),vL ce (((cE y (⟨2,3,0,⟨9,[],[],0,0,false,false,false,[]⟩,[]⟩:cz)).bF).length) n105,vL a4 (((cE y (⟨2,3,0,⟨9,[],[],0,0,false,false,false,[]⟩,[]⟩:cz)).aW).length) a5]),(57,.bool (lJ y (⟨2,3,0,⟨9,[],[],0,0,false,false,false,[]⟩,[]⟩:cz)))]<|Op.al 6 59 ia d3 fun cf e8 d7=>Op.sg 59 6 56 0 0 #[vI ((cE y (⟨2,3,0,⟨9,[],[],0,0,false,false,false,[]⟩,[]⟩:cz)).Code),vI ((cE y (⟨2,3,0,⟨9,[],[],0,0,false,false,false,[]⟩,[]⟩:cz)).bg),vI ((cE y (⟨2,3,0,⟨9,[],[],0,0,false,false,false,[]⟩,[]⟩:cz)).At),vS ((cE y (⟨2,3,0,⟨9,[],[],0,0,false,false,false,[]⟩,[]⟩:cz)).af.aa),vL ca (((cE y (⟨2,3,0,⟨9,[],[],0,0,false,false,false,[]⟩,[]⟩:cz)).af.Data).length) cb,vI ((cE y (⟨2,3,0,⟨9,[],[],0,0,false,false,false,[]⟩,[]⟩:cz)).af.ak),vI ((cE y (⟨2,3,0,⟨9,[],[],0,0,false,false,false,[]⟩,[]⟩:cz)).af.aE),vI ((cE y (⟨2,3,0,⟨9,[],[],0,0,false,false,false,[]⟩,[]⟩:cz)).af.Next),vI ((cE y (⟨2,3,0,⟨9,[],[],0,0,false,false,false,[]⟩,[]⟩:cz)).af.aO),vL ce (((cE y (⟨2,3,0,⟨9,[],[],0,0,false,false,false,[]⟩,[]⟩:cz)).bF).length) n105,vL a4 (((cE y (⟨2,3,0,⟨9,[],[],0,0,false,false,false,[]⟩,[]⟩:cz)).aW).length) a5] d7 zt fun e9 Y=>Op.pg 17 [(7,.bool (lJ y (⟨2,3,0,⟨9,[],[],0,0,false,false,false,[]⟩,[]⟩:cz)))]<|At.rp 21 2 [(59,.bool (lJ y (⟨2,3,0,⟨9,[],[],0,0,false,false,false,[]⟩,[]⟩:cz)))] ?_
   refine Op.wb (lJ y (⟨2,3,0,⟨9,[],[],0,0,false,false,false,[]⟩,[]⟩:cz)) 59 (fun fa=>?_) fun fg=>?_
   ·refine Op.px 1 [(60,vP cf)]<|Op.l1 52 60 61 0 (vI ((cE y (⟨2,3,0,⟨9,[],[],0,0,false,false,false,[]⟩,[]⟩:cz)).Code)) (Y.ag 0 rfl)<|Op.px 3 [(64,.bool (((cE y (⟨2,3,0,⟨9,[],[],0,0,false,false,false,[]⟩,[]⟩:cz)).Code)==0))]<|Op.wd (((cE y (⟨2,3,0,⟨9,[],[],0,0,false,false,false,[]⟩,[]⟩:cz)).Code)=0) 64 (fun fi=>?_) fun fj=>?_
    ·refine Op.px 1 [(65,vQ cf 10)]<|Op.l1 42 65 66 10 (vL a4 (((cE y (⟨2,3,0,⟨9,[],[],0,0,false,false,false,[]⟩,[]⟩:cz)).aW).length) a5) (Y.ag 0 rfl)<|Op.px 1 [(67,.agg #[vI 2,vI 1,vS ([47,97])])]<|Op.ls 68 1 69 #[vI 2,vI 1,vS ([47,97])] Y fun ch fl ab=>?_
     have d8:aF 69 cu d1 (vL (some ⟨ch,0,none⟩) 1 1) [(⟨2,1,[47,97]⟩:ah)] [(ch,Obj.cells #[vI 2,vI 1,vS ([47,97])] 69 (0,0))]:=aF.lit (by kernel_rfl) (by unfold maxLen;decide) (by kernel_rfl) ⟨_,_,rfl,rfl,Reads.nil⟩
     have ci:=ab.gi
     have d9:=d8.fK ab
     refine Op.le (some 69) 0 ab (Dn _ _ _ ab.ij (D.mono ci) _ _ (b8.mono ci) _ _ d9 (by((try dsimp only)<;>(exact cr (Ah (congrArg List.length (yd (yc hy hl ‹_› h1)).2.2.1)) (by decide))))) (fun _ _ _ hp=>by obtain⟨_,a6,_⟩:=hp;exact a6) ?_ (hM:=(fun _ _ h=>absurd h (gq _)))
     rintro _ _ fp ck ⟨rfl,a6,rfl⟩;clear a6
     refine Op.px 2 [(71,.bool (decide (((cE y (⟨2,3,0,⟨9,[],[],0,0,false,false,false,[]⟩,[]⟩:cz)).aW)=([(⟨2,1,[47,97]⟩:ah)]))))]<|Op.wd (((cE y (⟨2,3,0,⟨9,[],[],0,0,false,false,false,[]⟩,[]⟩:cz)).aW)=([(⟨2,1,[47,97]⟩:ah)])) 71 (fun fr=>?_) fun ft=>?_
     ·refine Op.px 1 [(72,vP G)] ?_
      have a7:=ck.fs [1,1,2] rfl
      refine Op.cl (some 73) 1 a7 (qU _ _ _ a7.sub D G (qe y (⟨2,3,0,⟨9,[],[],0,0,false,false,false,[]⟩,[]⟩:cz)) _ d6 (by((try dsimp only)<;>(exact(hK.done h0 (by have h9:(ku.length:Int)=5:=rfl;omega)).ok.qT (by have h9:(ku.length:Int)=5:=rfl;omega)))) (St.pt 1 a7)) ?_
      rintro _ fv _ fw fx ea ⟨v138,f0,f1,f2,v148,f3,f4,f6,f7,f8,f9,rfl,eb,ed,ee,ef,eh,gc,rfl⟩
      obtain⟨ge,gg,rfl⟩:=eb.ai
      obtain⟨a146,gk,rfl⟩:=ed.ai
      obtain⟨gn,n152,rfl⟩:=ee.ai
      obtain⟨gs,g1,rfl⟩:=ef.ai
      obtain⟨g2,g3,rfl⟩:=eh.ai
      exact Op.pr 18 0 (.bool ((((cO (qe y (⟨2,3,0,⟨9,[],[],0,0,false,false,false,[]⟩,[]⟩:cz))).cy).length:Int)==1)) (hR ea.drop.drop.drop.drop.drop.drop.drop.drop ⟨(aS (by exact kz.2 (by have h9:=(yd (yc hy hl ‹_› h1)).2.2.2;show(((qe y oX).an.length:Nat):Int)=1;omega))),rfl⟩)
     exact Op.pr 18 0 vF (hR ck.drop.drop.drop ⟨(aS (by exact absurd (yd (yc hy hl ‹_› h1)).2.2.1 ‹_›)),rfl⟩)
    exact Op.pr 18 0 vF (hR Y.drop.drop ⟨(aS (by exact absurd (yd (yc hy hl ‹_› h1)).2.1 ‹_›)),rfl⟩)
   exact Op.pr 18 0 vF (hR Y.drop.drop ⟨(aS (by exact Bool.noConfusion ((yd (yc hy hl ‹_› h1)).1.symm.trans ‹_›))),rfl⟩)
 exact At.ke (db _ _ (aG.refl _) eM ([(⟨1,1,0,⟨1,[],[],0,9,false,false,false,[]⟩,[]⟩:cz),(⟨2,1,0,⟨1,[],[],0,9,false,false,false,[]⟩,[]⟩:cz),(⟨1,2,0,⟨3,[47,97],[],0,0,true,false,false,[]⟩,[]⟩:cz),(⟨2,2,0,⟨6,[47,97],[],0,0,false,false,true,[]⟩,[]⟩:cz),(⟨1,3,0,⟨2,[],[],0,0,false,false,false,[]⟩,[]⟩:cz)]) 0 _ _ _ _ (bK _) (by omega) (by decide) (by rfl) (by rfl) (by exact gX.new) ad da c9)
section
variable {i j c n:Int} {s z:Sp} {o:aC} {x:cz} {e:bu} {b p:aQ}
theorem Le (K:gX i s) (hi:i≤20000):jL (cO s):=(KU K.ok (by have:=K.cnt;omega)).1
theorem qf (K:gX i s):((cO s).cy.length≤1000000∧∀n∈(cO s).cy,n.aa.length≤1000000∧n.Data.length≤1000000)∧((cO s).cX.length≤1000000∧∀w∈(cO s).cX,w.aa.length≤1000000000)∧(cO s).dG.length≤1000000∧((cO s).aW.length≤1000000∧∀w∈(cO s).aW,w.aa.length≤1000000000)∧(cO s).cw.length≤1000000∧∀x∈(cO s).cw,x.Data.length≤1000000000:=by
  have P:=uf K
  refine⟨⟨P.1.1,fun n hn=>?_⟩,⟨P.2.1,fun w hw=>?_⟩,P.2.2.1,⟨P.2.2.2.1,fun w hw=>?_⟩,P.2.2.2.2.1,P.2.2.2.2.2⟩
  · have h:=K.ok.tree.node n hn
    have h1:n.aa.length≤64:=Nat.le_of_not_lt fun hh=>by
      have h2:=h.1
      rw[y9 hh] at h2
      cases h2
    exact⟨cr h1 (by decide),cr h.2.1 (by decide)⟩
  · exact cr (tY (K.ok.kW.right w hw)).1 (by decide)
  · obtain⟨ws,h1,h2⟩:=q7.1 hw
    obtain⟨p,hp,rfl⟩:=cF.1 h1
    exact cr (tY (K.ok.ev.own p hp w h2).2).1 (by decide)
theorem Lf (K:gX i s) (hi:i≤20000) {t:Sp}:oV t (cO s)=s:=TF K.ok (by have:=K.cnt;omega) t
end
section
variable {s z:Sp} {m:gf} {r:List (Int×f_)} {e:gL}
theorem AM {v:Int}:jJ v=true↔vH v:=by
  unfold jJ vH
  simp only[bO,cB]
theorem Lg {ws:List ah} {w:ah} (h:jZ ws=true) (hw:w∈ws):fP w=true∧cnt w.Client ws≤8:=by
  obtain⟨k,hk,e⟩:=List.getElem_of_mem hw
  unfold jZ at h
  have:=gR.1 h k (q4.2 hk)
  unfold kS at this
  rw[kE hk,e] at this
  simp only[bO,cB] at this
  exact⟨this.1,by have:=this.2.2;omega⟩
theorem Lh {c:Int}:∀{ws:List ah},(∀w∈ws,w.Client≠c)→cnt c ws=0
  |[],_=>rfl
  |w::ws,h=>by
   rw[xY,aB (h w (by simp)),Lh fun v hv=>h v (by simp[hv])]
theorem Ub {ws:List ah} (h:jZ ws=true):ws.length≤64:=by
  have j0:∀c,cnt c ws≤8:=fun c=>by
    by_cases hc:∃w∈ws,w.Client=c
    · obtain⟨w,hw,rfl⟩:=hc;exact(Lg h hw).2
    · rw[Lh fun w hw e=>hc ⟨w,hw,e⟩];omega
  rw[DB ws fun w hw=>(tY (Lg h hw).1).2.imp id (·.1)]
  have:=j0 0;have:=j0 1;have:=j0 2;have:=j0 3;have:=j0 4;have:=j0 5;have:=j0 6;have:=j0 7
  omega
theorem Uc {l:List ah}:iX (jm eM.aD l):=Sg iX.nil
theorem Ud {l:List ah} (h:jZ l=true):(jm eM.aD l).length≤1000:=by
  unfold jm;rw[aL h];have:=Ub h;omega
theorem Li {l:List ah} {xs ev:List ah} (h:jZ l=true):jo (jm xs l) ev↔jo l ev:=by unfold jm;rw[aL h]
theorem oh (h:¬jL m):false=decide (jL m)∧s=oV s m:=⟨(fU h).symm,by unfold oV;rw[aB h]⟩
theorem Lj (h:jL m) (hw:[m.bw,m.bg].all jJ=false):False:=by
  have h1:=h.1
  simp only[j5,nq,lB] at hw
  rw[AM.2 h1.1,AM.2 h1.2] at hw
  cases hw
theorem Ll (h:jL m) (hw:gS m.cy=false):False:=by rw[h.2.1] at hw;cases hw
theorem Lm (h:jL m) (hw:jZ m.cX=false):False:=by rw[h.2.2.1] at hw;cases hw
theorem Ln (h:jL m) (hw:mO m.dG=false):False:=by
  have:mO m.dG=true:=eW h.2.2.2.1
  rw[this] at hw;cases hw
theorem Lp {xs:List ah} (h:jL m) (hw:¬jo (jm xs m.cX) m.aW):False:=hw ((Li h.2.2.1).2 h.2.2.2.2.1)
theorem Lq (h:jL m) (hw:¬kr m.cw):False:=hw h.2.2.2.2.2
theorem Lr (hw:[m.bw,m.bg].all jJ=true) (h2:gS m.cy=true) (h3:jZ m.cX=true) (h4:mO m.dG=true) {xs:List ah} (h5:jo (jm xs m.cX) m.aW) (h6:kr m.cw):jL m:=by
  simp only[j5,nq,lB,bO] at hw
  exact⟨⟨AM.1 hw.1,AM.1 hw.2⟩,h2,h3,iR h4,(Li h3).1 h5,h6⟩
theorem Lt (h:jL m):true=decide (jL m)∧x7 m=oV s m:=⟨(eW h).symm,by unfold oV;rw[aL h]⟩
theorem Ue {r1 u:Sp} (hw:[m.bw,m.bg].all jJ=true) (h2:gS m.cy=true) (h3:jZ m.cX=true) (h4:mO m.dG=true) {xs:List ah} (h5:jo (jm xs m.cX) m.aW) (h6:kr m.cw)
    (e1:jo (jm xs m.cX) m.aW→r1=⟨(if gS m.cy=true then m.cy else eM.an),jm xs m.cX,nw eM.az m.dG,m.bw,m.bg,eV [] m.aW,eM.aI⟩)
    (e2:kr m.cw→u={r1 with aI:=qP m.cw}):u=oV s m:=by
  rw[e2 h6,e1 h5,←(Lt (Lr hw h2 h3 h4 h5 h6)).2]
  unfold x7 jm nw
  rw[aL h2,aL h3,aL h4]
theorem Uf {r1 u:Sp} {l ev:List ah} {z:gL} (h5:jo l ev) (e1:jo l ev→r1={u with events:=z}) (h0:u.aI=[]):r1.aI=[]:=by rw[e1 h5];exact h0
end
set_option maxHeartbeats 12000000 in
theorem Lu (B:World) (h:av) (g:GH) (hg:bf g h) (G:bh g) (D:Nat) (s:Sp) (a7:au) (bk:bB g D s a7) (m:gf) (b5:Value) (a8:ay g 56 kJ b5 m.cy) (b6:Value) (a9:ay g 69 cu b6 m.cX) (b8:Value) (bb:ay g 130 nL b8 m.dG) (ca:Value) (bc:ay g 69 cu ca m.aW) (cb:Value) (ar:ay g 103 ni cb m.cw) (h1:m.cy.length≤1000000∧∀n∈m.cy,n.aa.length≤1000000∧n.Data.length≤1000000) (h2:m.cX.length≤1000000∧∀w∈m.cX,w.aa.length≤1000000000) (h3:m.dG.length≤1000000) (h4:m.aW.length≤1000000∧∀w∈m.aW,w.aa.length≤1000000000) (h5:m.cw.length≤1000000∧∀x∈m.cw,x.Data.length≤1000000000) (hs:St h g (aM [a7]) g [a7] h):
  aA prog B 12 #[vP D,.agg #[vI m.bw,vI m.bg,b5,b6,b8,ca,cb]] h g [a7] (fun d5 g' L'=>∃ce,d5=.bool (decide (jL m))∧bB g' D (oV s m) ce∧L'=[ce]):=by
 obtain⟨cf,ch,rfl⟩:=a8.ai
 obtain⟨ci,ck,rfl⟩:=a9.ai
 obtain⟨co,c3,rfl⟩:=bb.ai
 obtain⟨c4,c5,rfl⟩:=bc.ai
 obtain⟨c6,c8,rfl⟩:=ar.ai
 refine aA.aq func12 fun R hR=>At.rg 2<|Op.bx 3 46 1 #[vI m.bw,vI m.bg,vL cf m.cy.length ch,vL ci m.cX.length ck,vL co m.dG.length c3,vL c4 m.aW.length c5,vL c6 m.cw.length c8] hs fun Y g9 c9=>Op.pg 1 []<|At.rg 2 ?_
 refine Op.c0 (some 6) (vr _ _ _ c9.sub G) c9 ?_
 rintro _ aw _ ha Z d6 ⟨u,hb,rfl,d7,rfl⟩
 replace G:=G.mono Z
 replace a8:=a8.mono Z
 replace a9:=a9.mono Z
 replace bb:=bb.mono Z
 replace bc:=bc.mono Z
 replace ar:=ar.mono Z
 replace bk:=bk.mono Z
 refine Op.pg 2 [(5,vP u)] ?_
 obtain⟨ab,d8,ad,d9,ae,ea,a1,eb,a3,ed,ee,ef,eh,ej,em,en⟩:=d7
 obtain⟨he,eo,hf,ep,hh,er,hj,et,hl,ex,eA,J,O,U,V,X⟩:=bk
 have a4:=St.un [eo,ep,er,et,ex] eA ((St.un [d8,d9,ea,eb,ed] ee d6).fs [6,6,6,6,6,6,6,7] rfl)
 refine At.dw (aM [[(u,Obj.cells #[vP ab,vP ad,vP ae,vI eM.ax,vI eM.count,.map (some a1),.map (some a3)] 79 (0,0))]]) [(0,true),(1,true),(2,true),(4,true),(3,true),(6,true),(7,true),(5,true),(8,false),(9,true),(10,true),(11,false)]<|Op.px 4 [(7,vP u),(8,vP u),(9,vP Y),(11,vQ Y 1)]<|Op.lf 3 9 0 10 1 (vI m.bw) (a4.dF 12 [6] rfl rfl rfl) (a4.ag 12 rfl)<|Op.px 2 [(14,vQ u 3)]<|Op.lf 3 11 1 12 1 (vI m.bg) (a4.dF 12 [6] rfl rfl rfl) (a4.ag 12 rfl) ?_
 refine Op.s1 3 14 10 3 (vI m.bw) 6 #[vP ab,vP ad,vP ae,vI m.bw,vI eM.count,.map (some a1),.map (some a3)] a4 (fun _=>⟨(u,Obj.cells #[vP ab,vP ad,vP ae,vI eM.ax,vI eM.count,.map (some a1),.map (some a3)] 79 (0,0)),by simp,rfl⟩) fun hm eB=>Op.px 2 [(16,vQ u 4)]<|Op.s1 3 16 12 4 (vI m.bg) 6 #[vP ab,vP ad,vP ae,vI m.bw,vI m.bg,.map (some a1),.map (some a3)] eB (fun _=>⟨(u,Obj.cells #[vP ab,vP ad,vP ae,vI eM.ax,vI eM.count,.map (some a1),.map (some a3)] 79 (0,0)),by simp,rfl⟩) fun hn bd=>Op.gt 3<|At.dw (fun _=>False) [(0,true),(2,true),(1,true),(3,false),(4,false),(5,false),(6,true),(7,true),(8,true),(9,true),(10,true),(12,true),(11,true),(13,false),(1014,false),(14,false),(15,true),(16,true),(17,true),(18,true),(19,true),(20,true),(22,true),(2000,false),(21,true),(23,false),(1024,false),(24,false),(25,true),(26,true),(27,true),(28,true),(29,true),(30,true),(32,true),(2000,false),(31,true),(33,false),(1034,false),(34,false),(35,true),(36,true),(37,true),(38,true),(39,true),(40,false),(41,false),(42,true),(43,true),(44,true),(45,true),(46,true),(47,false),(48,false),(49,true),(50,true)] ?_
 refine Op.px 2 [(17,vP Y),(19,vQ Y 1)]<|Op.lf 3 17 0 18 1 (vI m.bw) id (bd.ag 12 rfl)<|Op.l1 3 19 20 1 (vI m.bg) (bd.ag 12 rfl)<|Op.ls 21 2 3 #[vI m.bw,vI m.bg] bd fun da ho be=>?_
 have eI:aF 3 (eF .i64) aw (vL (some ⟨da,0,none⟩) 2 2) [m.bw,m.bg] [(da,Obj.cells #[vI m.bw,vI m.bg] 3 (0,0))]:=aF.lit (by kernel_rfl) (by unfold maxLen;decide) (by kernel_rfl) ⟨_,_,rfl,rfl,⟨_,_,rfl,rfl,Reads.nil⟩⟩
 have eJ:=be.gi
 have eK:=eI.fK be
 refine Op.le (some 22) 0 be (SA _ _ _ be.ij (G.mono eJ) _ _ eK (by((try dsimp only)<;>((simp;done))))) (fun _ _ _ hp=>by obtain⟨_,a0,_⟩:=hp;exact a0) ?_ (hM:=(fun _ _ h=>absurd h (gq _)))
 rintro _ _ hq bm ⟨rfl,a0,rfl⟩;clear a0
 refine Op.px 2 [(24,.bool (!(([m.bw,m.bg]).all jJ)))]<|Op.wb (!(([m.bw,m.bg]).all jJ)) 24 (fun db=>?_) fun dc=>?_
 ·replace db:=(dm db)
  refine Op.px 6 [(28,dr),(30,dr)]<|Op.ba<|Op.px 8 [(34,vT),(37,dr),(39,dr)]<|Op.sN (M:=fun _=>False) (by kernel_rfl)<|Op.px 2 [(38,dr),(40,dr)] ?_
  refine Op.ba<|Op.px 8 [(44,vT),(47,dr),(49,dr)]<|Op.sN (M:=fun _=>False) (by kernel_rfl)<|Op.px 2 [(48,dr),(50,dr)]<|Op.ba ?_
  refine Op.pg 4 [(67,vT)]<|At.bX 67 5<|At.go 6 1 [(4,vF)] ?_
  obtain⟨eL,eQ,eT⟩:=St.bl (Q:=bB aw D s) 6 (bm.fs [6,6,6,6,6,6] rfl) ⟨_,_,_,_,_,_,_,_,_,_,rfl,J,O,U,V,X⟩
  exact At.rt vF<|hR (eT.fs [8,8,8,8,8,8,8,8] rfl).drop.drop.drop.drop.drop.drop.drop.drop ⟨eL,(aS (by exact t_ (oh (s:=s) (fun h=>Lj h ‹_›)))),eQ.eq (by exact vB (oh (s:=s) (fun h=>Lj h ‹_›))),rfl⟩
 replace dc:=(dn dc)
 refine Op.px 4 [(27,vP u),(29,vQ Y 2)]<|Op.lf 70 27 0 28 1 (vP ab) id (bd.ag 6 rfl)<|Op.l1 41 29 30 2 (vL cf m.cy.length ch) (bm.ag 13 rfl)<|Op.ba ?_
 have bo:=bm.fs [7,7,7,7,7,7,7,7,8] rfl
 refine Op.cl (some 31) 1 bo (fQ _ _ _ bo.sub G ab eM.an _ ef _ _ a8 (by(try dsimp only)<;>omega) (by(try dsimp only)<;>exact h1.2) (St.pt 1 bo)) ?_
 rintro _ e1 _ hr e2 bi ⟨hu,rfl,e3,a0,rfl⟩;subst e1;clear e2
 refine Op.px 3 [(34,.bool (!(gS m.cy)))]<|Op.wb (!(gS m.cy)) 34 (fun dd=>?_) fun df=>?_
 ·replace dd:=(dm dd)
  refine Op.px 4 [(37,dr),(39,dr)]<|Op.sN (M:=fun _=>False) (by kernel_rfl)<|Op.px 2 [(38,dr),(40,dr)]<|Op.ba<|Op.px 8 [(44,vT),(47,dr),(49,dr)] ?_
  refine Op.sN (M:=fun _=>False) (by kernel_rfl)<|Op.px 2 [(48,dr),(50,dr)]<|Op.ba<|Op.pg 4 [(67,vT)]<|At.bX 67 5 ?_
  refine At.go 6 1 [(4,vF)] ?_
  obtain⟨e4,e5,e6⟩:=St.bl (Q:=bB aw D s) 6 (bi.fs [1,1,7,7,7,7,7,7] rfl) ⟨_,_,_,_,_,_,_,_,_,_,rfl,J,O,U,V,X⟩
  exact At.rt vF<|hR (e6.fs [8,8,8,8,8,8,8,8] rfl).drop.drop.drop.drop.drop.drop.drop.drop ⟨e4,(aS (by exact t_ (oh (s:=s) (fun h=>Ll h ‹_›)))),e5.eq (by exact vB (oh (s:=s) (fun h=>Ll h ‹_›))),rfl⟩
 replace df:=(dn df)
 refine Op.px 4 [(37,vQ u 1),(39,vQ Y 3)]<|Op.sN (M:=fun _=>False) (by kernel_rfl)<|Op.lf 72 37 1 38 1 (vP ad) id (bi.ag 8 rfl)<|Op.l1 42 39 40 3 (vL ci m.cX.length ck) (bi.ag 13 rfl)<|Op.ba ?_
 have bs:=bi.fs [8,8,8,8,8,8,8,8,8,9] rfl
 refine Op.cl (some 41) 1 bs (Sf _ _ _ bs.sub G ad eM.aD _ eh _ _ a9 (by(try dsimp only)<;>omega) (by(try dsimp only)<;>exact h2.2) (St.pt 1 bs)) ?_
 rintro _ e7 _ hw e8 bj ⟨hx,rfl,e9,a0,rfl⟩;subst e7;clear e8
 refine Op.px 3 [(44,.bool (!(jZ m.cX)))]<|Op.wb (!(jZ m.cX)) 44 (fun dg=>?_) fun dj=>?_
 ·replace dg:=(dm dg)
  refine Op.px 4 [(47,dr),(49,dr)]<|Op.sN (M:=fun _=>False) (by kernel_rfl)<|Op.px 2 [(48,dr),(50,dr)]<|Op.ba<|Op.pg 4 [(67,vT)] ?_
  refine At.bX 67 5<|At.go 6 1 [(4,vF)] ?_
  obtain⟨fa,fg,fi⟩:=St.bl (Q:=bB aw D s) 6 (bj.fs [2,2,2,8,8,8,8,8,8] rfl) ⟨_,_,_,_,_,_,_,_,_,_,rfl,J,O,U,V,X⟩
  exact At.rt vF<|hR (fi.fs [8,8,8,8,8,8,8,8] rfl).drop.drop.drop.drop.drop.drop.drop.drop ⟨fa,(aS (by exact t_ (oh (s:=s) (fun h=>Lm h ‹_›)))),fg.eq (by exact vB (oh (s:=s) (fun h=>Lm h ‹_›))),rfl⟩
 replace dj:=(dn dj)
 refine Op.px 4 [(47,vQ u 2),(49,vQ Y 4)]<|Op.sN (M:=fun _=>False) (by kernel_rfl)<|Op.lf 74 47 2 48 1 (vP ae) id (bj.ag 9 rfl)<|Op.l1 43 49 50 4 (vL co m.dG.length c3) (bj.ag 13 rfl)<|Op.ba ?_
 have bt:=bj.fs [9,9,9,9,9,9,9,9,9,9,10] rfl
 refine Op.cl (some 51) 1 bt (PE _ _ _ bt.sub G ae eM.az _ ej _ _ bb (by(try dsimp only)<;>omega) (St.pt 1 bt)) ?_
 rintro _ fj _ hy fl b3 ⟨hz,rfl,fp,a0,rfl⟩;subst fj;clear fl
 refine Op.px 3 [(54,.bool (!(mO m.dG)))]<|Op.wb (!(mO m.dG)) 54 (fun dk=>?_) fun dl=>?_
 ·replace dk:=(dm dk)
  refine Op.pg 4 [(67,vT)]<|At.bX 67 5<|At.go 6 1 [(4,vF)] ?_
  obtain⟨fr,ft,fv⟩:=St.bl (Q:=bB aw D s) 6 (b3.fs [3,3,3,3,9,9,9,9,9,9] rfl) ⟨_,_,_,_,_,_,_,_,_,_,rfl,J,O,U,V,X⟩
  exact At.rt vF<|hR (fv.fs [8,8,8,8,8,8,8,8] rfl).drop.drop.drop.drop.drop.drop.drop.drop ⟨fr,(aS (by exact t_ (oh (s:=s) (fun h=>Ln h ‹_›)))),ft.eq (by exact vB (oh (s:=s) (fun h=>Ln h ‹_›))),rfl⟩
 replace dl:=(dn dl)
 refine Op.px 2 [(55,vP u),(56,vQ Y 5)]<|Op.l1 42 56 57 5 (vL c4 m.aW.length c5) (b3.ag 13 rfl) ?_
 obtain⟨hA,fw,b4⟩:=St.bl (Q:=bB aw u (⟨(if gS m.cy=true then m.cy else eM.an),(jm eM.aD m.cX),(nw eM.az m.dG),m.bw,m.bg,eM.events,eM.aI⟩:Sp)) 6 (b3.fs [9,9,9,9,9,9,9,12,12,9,10,11,12] rfl) ⟨_,_,_,_,_,_,_,_,_,_,rfl,e3,e9,fp,em,en⟩
 refine Op.cl (some 58) 1 b4 (SW _ _ _ b4.sub G u (⟨(if gS m.cy=true then m.cy else eM.an),(jm eM.aD m.cX),(nw eM.az m.dG),m.bw,m.bg,eM.events,eM.aI⟩:Sp) _ fw _ _ bc (by(try dsimp only)<;>rfl) (by(try dsimp only)<;>exact Uc) (by((try dsimp only)<;>(exact Ud ‹_›))) (by(try dsimp only)<;>omega) (by(try dsimp only)<;>exact h4.2) (St.pt 1 b4)) ?_
 rintro _ fx _ hB am a5 ⟨f0,hC,rfl,hD,f1,rfl⟩
 replace J:=J.mono am
 replace O:=O.mono am
 replace U:=U.mono am
 replace V:=V.mono am
 replace X:=X.mono am
 replace G:=G.mono am
 replace ar:=ar.mono am
 refine Op.px 3 [(61,.bool (!(decide (jo (⟨(if gS m.cy=true then m.cy else eM.an),(jm eM.aD m.cX),(nw eM.az m.dG),m.bw,m.bg,eM.events,eM.aI⟩:Sp).aD m.aW))))]<|Op.wb (!(decide (jo (⟨(if gS m.cy=true then m.cy else eM.an),(jm eM.aD m.cX),(nw eM.az m.dG),m.bw,m.bg,eM.events,eM.aI⟩:Sp).aD m.aW))) 61 (fun dp=>?_) fun dq=>?_
 ·replace dp:=kF (dm dp)
  refine Op.pg 4 [(67,vT)]<|At.bX 67 5<|At.go 6 1 [(4,vF)] ?_
  obtain⟨f2,f3,f4⟩:=St.bl (Q:=bB fx D s) 6 (a5.fs [1,1,7,7,7,7,7,7] rfl) ⟨_,_,_,_,_,_,_,_,_,_,rfl,J,O,U,V,X⟩
  exact At.rt vF<|hR (f4.fs [3,3,3] rfl).drop.drop.drop ⟨f2,(aS (by exact t_ (oh (s:=s) (fun h=>Lp h ‹_›)))),f3.eq (by exact vB (oh (s:=s) (fun h=>Lp h ‹_›))),rfl⟩
 replace dq:=iR (dn dq)
 refine Op.px 2 [(62,vP u),(63,vQ Y 6)]<|Op.l1 44 63 64 6 (vL c6 m.cw.length c8) (a5.ag 8 rfl)<|Op.cl (some 65) 1 a5 (SE _ _ _ a5.sub G u f0 _ f1 _ _ ar (by(try dsimp only)<;>exact Uf ‹_› ‹_› rfl) (by(try dsimp only)<;>omega) (by(try dsimp only)<;>exact h5.2) (St.pt 1 a5)) ?_
 rintro _ du _ hE a6 dv ⟨I,hF,rfl,hG,f5,rfl⟩
 replace J:=J.mono a6
 replace O:=O.mono a6
 replace U:=U.mono a6
 replace V:=V.mono a6
 replace X:=X.mono a6
 refine Op.pg 4 [(67,.bool (!(decide (kr m.cw))))]<|At.c_ (!(decide (kr m.cw))) 67 5 7 (fun dC=>?_) fun dE=>?_
 ·replace dC:=kF (dm dC)
  refine At.go 6 1 [(4,vF)] ?_
  obtain⟨f6,f7,f8⟩:=St.bl (Q:=bB du D s) 6 (dv.fs [1,1,7,7,7,7,7,7] rfl) ⟨_,_,_,_,_,_,_,_,_,_,rfl,J,O,U,V,X⟩
  exact At.rt vF<|hR (f8.fs [3,3,3] rfl).drop.drop.drop ⟨f6,(aS (by exact t_ (oh (s:=s) (fun h=>Lq h ‹_›)))),f7.eq (by exact vB (oh (s:=s) (fun h=>Lq h ‹_›))),rfl⟩
 replace dE:=iR (dn dE)
 refine At.rp 6 3 [(68,vP D),(70,vP u)] ?_
 obtain⟨dT,f9,d0,gc,d1,ge,d2,gg,d3,gk,gn,gs,g1,g2,g3,g4⟩:=f5
 have d4:=St.un [f9,gc,ge,gg,gk] gn dv
 refine Op.la 79 70 71 0 7 [vP dT,vP d0,vP d1,vI I.ax,vI I.count,.map (some d2),.map (some d3)] (d4.ag 0 rfl)<|Op.px 1 [(72,vP D)]<|Op.sg 79 72 71 0 7 #[vP dT,vP d0,vP d1,vI I.ax,vI I.count,.map (some d2),.map (some d3)] d4 zt fun hH g5=>Op.gt 8<|At.go 9 1 [(4,vT)] ?_
 obtain⟨g6,g7,g8⟩:=St.bl (Q:=bB du D (⟨I.an,I.aD,I.az,I.ax,I.count,I.events,I.aI⟩:Sp)) 6 (g5.fs [6,1,6,6,6,6,6,7] rfl) ⟨_,_,_,_,_,_,_,_,_,_,rfl,gs,g1,g2,g3,g4⟩
 exact At.rt vT<|hR (g8.fs [8,8,8,8,8,8,8,8] rfl).drop.drop.drop.drop.drop.drop.drop.drop ⟨g6,(aS (by exact t_ (Lt (s:=s) (Lr ‹_› ‹_› ‹_› ‹_› ‹_› ‹_›)))),g7.eq (by exact Ue ‹_› ‹_› ‹_› ‹_› ‹_› ‹_› ‹_› ‹_›),rfl⟩
end Go.Proofs.YtpacclkciilmpaaGreatDoor.Sw
