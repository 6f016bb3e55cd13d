/- Law ApplyOps: where what it reads is of bulk at most 1048576, the law returns true and its input reads as it did; the tables that the row lists hold what the row says. Own text. -/
import Derived.Test.YtdinkjbfgcfccaaGreatDoorPOA
set_option maxHeartbeats 4000000
namespace Go.Proofs.YtdinkjbfgcfccaaGreatDoor.LawApplyOps
open Go.Proofs.Tryz
open Go Go.ChangeShapes Go.WideShapes Go.ChangeAt Go.RowKit Go.Proofs.YtdinkjbfgcfccaaGreatDoor.Sw
set_option maxRecDepth 100000
set_option linter.unusedVariables false
set_option linter.unusedSimpArgs false
set_option linter.deprecated false
theorem own:ownKnob prog.godebug=none:=by kernel_rfl
theorem El (H:Type) (enc:TypeId×Value→H) (W:World) (ox:Nat) (args:Array Value) (ds gs:List (DataW H)) (O:List MemPlace)
    (u:∀(j:Nat) t v,f3.params[j]?=some t→args[j]?=some v→Value.okWide prog W .any ox t v)
    (D:DataW.Whole enc prog f3.params.toList Rows.applyOpsSpec.vars false W args.toList ds gs O) (U:∀k,(Rows.OpenSpec.upto Rows.applyOpsSpec).cond=some k→k H (ds++gs)=true)
    (hL:laidMetH prog Rows.applyOpsUptoRow.laid W) (V:W.ShapedOpen prog):
    Calls prog 3 args W fun e G=>∃v,e=.returned v∧Rows.applyOpsSpec.post enc prog f3 false true false false W args v G:=by
  have hb:Rows.uptoBulkAll (ds++gs)≤1048576:=iX (U _ rfl)
  have X:=D
  obtain⟨p,q,I,a6,rfl,a7,a8⟩:=D
  have hA:DataW.TrodAll enc prog W 0 (fun _=>true) true f3.params.toList args.toList ds p:=I
  clear I
  rw[params3] at hA u
  obtain⟨v0,a9,Y,bb,bc,bd,e0,rfl,rfl,h0,Z⟩:=trodAll_cons hA
  obtain⟨v1,be,ab,bi,bj,bk,e1,rfl,rfl,h1,r1⟩:=trodAll_cons Z
  obtain⟨rfl,rfl,rfl⟩:=trodAll_nil r1
  obtain rfl:args=#[v0,v1]:=by cases args;simp_all
  have ad:Rows.uptoBulk Y≤1048576:=cH (jh (by simp)) hb
  obtain⟨y0,bm,rfl,ae,am⟩:=K0 TH underlying25 (u 0 25 _ rfl rfl) h0 ad
  obtain⟨bo,bs,ar,aw,a0⟩:=k9.1 ae
  obtain rfl:=(Array.toArray_toList).symm.trans (congrArg List.toArray a0)
  have a1:Rows.uptoBulk ab≤1048576:=cH (jh (by simp)) hb
  obtain⟨y1,s1,k1,l1⟩:=KZ (eM.sl (eM.u8 underlying5) underlying22 (by kernel_rfl) (by decide)) underlying22 (u 1 22 _ rfl rfl) h1 a1
  have a3:laidMet prog Rows.applyOpsUptoRow.laid W:=hL
  have J:=AE (AE (a3))
  have hT:(Rows.laid_internal_strconv_uint64pow10:DataW Unit)=Lib.tabData .u64 Lib.pow10Tab:=by kernel_rfl
  rw[hT] at J
  have hP:=K2 J
  exact K3 (TF W W.heap (ov W) (KW W) (K1 V) y0 _ ar _ aw _ y1 s1 hP (by exact cH am (by decide)) (by omega)) fun G a4 a5 hold=>
    ⟨_,rfl,KY (tb:=4) (by kernel_rfl) (by kernel_rfl) (by kernel_rfl) (by rw[params3];decide) rfl (by kernel_rfl) underlying4 (fun h=>by subst h;rfl) X a4 a5 hold⟩
noncomputable def uj (os:Os):World:=
  let w:=World.holding prog os ⟨#[],#[],[]⟩
  let put (h:ay) (b:Nat) (cs:Array Value):ay:=h.modify b fun|.cells _ t fz=>.cells cs t fz|o=>o
  {w with heap:=(put (put (put (put (put w.heap 4 ((([0,1,28,2,29,14,24,3,30,22,20,15,25,17,4,8,31,27,13,23,21,19,16,7,26,12,18,6,11,5,10,9]:List Int)).map fun z=>Value.int .u8 z).toArray) 5 ((([0,1,56,2,57,49,28,3,61,58,42,50,38,29,17,4,62,47,59,36,45,43,51,22,53,39,33,30,24,18,12,5,63,55,48,27,60,41,37,16,46,35,44,21,52,32,23,11,54,26,40,15,34,20,31,10,25,14,19,9,13,8,7,6]:List Int)).map fun z=>Value.int .u8 z).toArray) 1 (Lib.pow10Tab.map fun z=>Value.int .u64 z).toArray) 3 ((([128,191,160,191,128,159,144,191,128,143,0,0,0,0,0,0,0,0,0,0,0,0,0,0,0,0,0,0,0,0,0,0]:List Int)).map fun z=>Value.int .u8 z).toArray) 2 (Go.Pinned.utf8FirstZ.map fun z=>Value.int .u8 (Int.ofNat z)).toArray)}
abbrev AR:Array Value:=#[.agg #[.int .i64 0,.string ⟨#[]⟩,.slice none 0 0,.int .i64 0,.int .i64 0,.bool false,.bool false,.bool false,.slice none 0 0],.slice none 0 0]
theorem Em (os:Os):laidMet prog Rows.applyOpsUptoRow.laid ((uj os).forCall (fun _ _=>0) ⟨#[],AR,[]⟩).memory:=
  laidMet_of_run' 8 (by kernel_rfl) (by kernel_rfl)
theorem En (os:Os) {H:Type} (enc:TypeId×Value→H):∃u,DataW.whole enc prog ((uj os).forCall (fun _ _=>0) ⟨#[],AR,[]⟩).memory f3.params.toList Rows.applyOpsSpec.vars false (AR:Array Value).toList 8=some ([.agg [.lit (.int .i64 0),.lit (.string []),.nil,.lit (.int .i64 0),.lit (.int .i64 0),.lit (.bool false),.lit (.bool false),.lit (.bool false),.nil],.nil],[],u):=
  ⟨[],by kernel_rfl⟩
theorem Eo (os:Os) (u:os.Started) (H:Type) (enc:TypeId×Value→H) (F:Stop.Interp):
    ReturnsInHanded {} checked os 3 .any ((Rows.OpenSpec.upto Rows.applyOpsSpec).preRow enc prog f3 Rows.applyOpsUptoRow.domain false Rows.applyOpsUptoRow.laid) (((Rows.OpenSpec.upto Rows.applyOpsSpec).at F).post enc prog f3 false true false false):=by
  obtain⟨U,hx⟩:=En os enc
  refine returnsInHanded_of_row (C:=checked) (s:=Rows.OpenSpec.upto Rows.applyOpsSpec) own u (by kernel_rfl) func3
    (witness_row_at (enc:=enc) (C:=checked) false (uj os) AR rfl (by kernel_rfl) (by kernel_rfl) (by kernel_rfl)
      (OpenSpec.preRow_of_cond 8 hx (by kernel_rfl) (fun k hk=>by cases hk;kernel_rfl) (by kernel_rfl) (Em os))) ?_
  intro W ox args ds gs D G I _ J _ hL O _
  exact El H enc W ox args ds gs D G I J hL O
theorem di {a b:Bool} (h:a=true) (k:b=true):(a&&b)=true:=by rw[h,k];rfl
theorem Ep:(Rows.applyOpsUptoRow.wf (OpenSpec.ofChange (Rows.OpenSpec.upto Rows.applyOpsSpec).bare))=true:=by kernel_rfl
theorem Er:(laidOutB Tryz.pinned.checked.prog)=true:=by kernel_rfl
theorem Es:(mapsRowed Tryz.pinned.checked.prog)=true:=by kernel_rfl
theorem Et:(f3.params.all (Tryz.pinned.checked.prog.readableRec ·))=true:=by kernel_rfl
theorem Eu:(namedTie Tryz.pinned.checked.prog Rows.applyOpsUptoRow.named (Rows.OpenSpec.upto Rows.applyOpsSpec).bare.vars)=true:=by kernel_rfl
theorem Ev:((Rows.applyOpsUptoRow.stops==[]))=true:=by kernel_rfl
theorem Ew:((Tryz.pinned.checked.prog.stops==[]))=true:=by kernel_rfl
theorem Ex:((Rows.applyOpsUptoRow.knobs==[]))=true:=by kernel_rfl
theorem Ey:((Tryz.pinned.checked.prog.stopKnobs==[]))=true:=by kernel_rfl
theorem Ez:((Rows.applyOpsUptoRow.inPlace==Tryz.pinned.checked.prog.inPlace 3))=true:=by kernel_rfl
theorem EA:((Rows.applyOpsUptoRow.unfollowed==Tryz.pinned.checked.prog.unfollowed 3))=true:=by kernel_rfl
theorem EB:((Rows.applyOpsUptoRow.recurses==Tryz.pinned.checked.prog.recurses 3))=true:=by kernel_rfl
theorem EC:((Rows.applyOpsUptoRow.named==Tryz.pinned.checked.prog.varsNamed 3))=true:=by kernel_rfl
theorem ED:((Rows.applyOpsUptoRow.maps==(f3.params.toList++(Rows.OpenSpec.upto Rows.applyOpsSpec).bare.plain.varTypes Tryz.pinned.checked.prog).any (Tryz.pinned.checked.prog.mapsRec ·)))=true:=by kernel_rfl
theorem EE:((Rows.applyOpsUptoRow.ifaces==(f3.params.toList++(Rows.OpenSpec.upto Rows.applyOpsSpec).bare.plain.varTypes Tryz.pinned.checked.prog).any (Tryz.pinned.checked.prog.ifacesRec ·)))=true:=by kernel_rfl
theorem EF:((Rows.applyOpsUptoRow.mapsOut==Tryz.pinned.checked.prog.mapsAmong f3.resultTypes.toList))=true:=by kernel_rfl
theorem EG:((Rows.applyOpsUptoRow.loops==(f3.params.toList++(Rows.OpenSpec.upto Rows.applyOpsSpec).bare.plain.varTypes Tryz.pinned.checked.prog).any (Tryz.pinned.checked.prog.loopsFrom ·)))=true:=by kernel_rfl
theorem EH:((Rows.applyOpsUptoRow.wideKeys==(f3.params.toList++(Rows.OpenSpec.upto Rows.applyOpsSpec).bare.plain.varTypes Tryz.pinned.checked.prog++f3.resultTypes.toList).any (Tryz.pinned.checked.prog.wideKeysFrom ·)))=true:=by kernel_rfl
theorem EI:((Rows.OpenSpec.upto Rows.applyOpsSpec).bare.vars.all (Tryz.pinned.checked.prog.varReadable ·))=true:=by kernel_rfl
theorem EJ:(f3.resultTypes.all (fun t=>Tryz.pinned.checked.prog.readableRec t&&decide (t<Tryz.pinned.checked.prog.types.size)))=true:=by kernel_rfl
theorem EK:((Rows.applyOpsUptoRow.ifacesOut==f3.resultTypes.toList.any (Tryz.pinned.checked.prog.ifacesRec ·)))=true:=by kernel_rfl
theorem EL:((Rows.applyOpsUptoRow.loopsOut==f3.resultTypes.toList.any (Tryz.pinned.checked.prog.loopsFrom ·)))=true:=by kernel_rfl
theorem EM:((Rows.applyOpsUptoRow.plainKeys==Tryz.pinned.checked.prog.plainKeys))=true:=by kernel_rfl
theorem EN:(Rows.applyOpsUptoRow.shortTexts.isNone)=true:=by kernel_rfl
theorem EO:(Tryz.pinned.checked.prog.stopsHeard)=true:=by kernel_rfl
theorem EP:(Tryz.pinned.checked.prog.mayEnter)=true:=by kernel_rfl
theorem ER:((Rows.applyOpsUptoRow.lifted==Tryz.pinned.checked.prog.liftsFinal))=true:=by kernel_rfl
theorem ES:((Tryz.pinned.checked.prog.make==some Rows.applyOpsUptoRow.make))=true:=by kernel_rfl
theorem ET:((Rows.applyOpsUptoRow.kinds==(if Rows.applyOpsUptoRow.domain.isEmpty then [] else f3.params.toList.map fun t=>match Tryz.pinned.checked.prog.underlying t with|some (.int k)=>some k|_=>none)))=true:=by kernel_rfl
theorem EU:((Rows.applyOpsUptoRow.pinned==Rows.applyOpsUptoRow.pinnedBy))=true:=by kernel_rfl
theorem EV:((Rows.applyOpsUptoRow.veiled==(f3.params.toList++(Rows.OpenSpec.upto Rows.applyOpsSpec).bare.plain.varTypes Tryz.pinned.checked.prog++f3.resultTypes.toList).any (Tryz.pinned.checked.prog.veiledRec ·)))=true:=by kernel_rfl
theorem EW:(Rows.applyOpsUptoRow.veiledFits Tryz.pinned.checked.prog f3.params.toList (f3.params.toList++(Rows.OpenSpec.upto Rows.applyOpsSpec).bare.plain.varTypes Tryz.pinned.checked.prog++f3.resultTypes.toList))=true:=by kernel_rfl
theorem EX:joinedFacts Tryz.pinned.checked.prog 3 f3 (Rows.OpenSpec.upto Rows.applyOpsSpec).bare Rows.applyOpsUptoRow=true:=(di (di (di (di (di (di (di (di (di (di (di (di (di (di (di (di (di (di (di (di (di (di (di (di (di (di (di (di (di (di (di Ep Er) Es) Et) Eu) Ev) Ew) Ex) Ey) Ez) EA) EB) EC) ED) EE) EF) EG) EH) EI) EJ) EK) EL) EM) EN) EO) EP) ER) ES) ET) EU) EV) EW)
theorem EY:false=Rows.applyOpsUptoRow.goesBy Tryz.pinned.checked.prog:=by kernel_rfl
theorem inst:f3.isInstance Tryz.pinned.checked.prog Rows.applyOpsUptoRow.origin Rows.applyOpsUptoRow.targs:=iX (by kernel_rfl)
theorem wrap:f3.isWrapper Tryz.pinned.checked.prog Rows.applyOpsUptoRow.wrapper Rows.applyOpsUptoRow.mainSum:=by
  unfold Func.isWrapper;first|(rw[aY (by decide+kernel)];kernel_rfl)|(rw[aL (by decide+kernel)];exact⟨rfl,rfl⟩)
theorem EZ:Tryz.pinned.checked.prog.funcNamed Rows.applyOpsUptoRow.func=some 3:=by kernel_rfl
theorem looks:false=Tryz.pinned.checked.prog.looks []:=by kernel_rfl
theorem E0:Rows.ApplyOpsUptoSaid:=
  OpenClaim.holds_of_cond 3 f3 rfl rfl rfl rfl rfl rfl rfl ⟨rfl,rfl,rfl,rfl,rfl⟩ rfl rfl rfl rfl rfl EZ func3 EX inst wrap
    (fun os u H enc _ F=>by rw[OpenClaim.pre_eq_preRow];exact Eo os u H enc F)
theorem plain (f:FuncId) (fn:Func) (hf:Tryz.pinned.checked.prog.funcNamed "stanchion/stanchionlaw13.ApplyOps"=some f) (hfn:Tryz.pinned.checked.prog.funcs[f]?=some fn):
    false=Tryz.pinned.checked.prog.looks []∧∀(j:Nat) t,fn.params[j]?=some t→Tryz.pinned.checked.prog.wantsStandIn t=false:=by
  obtain rfl:f=3:=gI ((show prog.funcNamed "stanchion/stanchionlaw13.ApplyOps"=some 3 by kernel_rfl).symm.trans hf) |>.symm
  obtain rfl:fn=f3:=(gI (func3.symm.trans hfn)).symm
  refine⟨looks,fun j t ht=>?_⟩
  rw[params3] at ht
  have hm:=Array.mem_of_getElem? ht
  have all:∀t∈(#[25,22]:Array TypeId),prog.wantsStandIn t=false:=by
    intro t ht
    have hl:t∈[25,22]:=by simpa using ht
    rcases eO.1 hl with rfl|hl;exact(show prog.wantsStandIn 25=false by kernel_rfl)
    rcases eO.1 hl with rfl|hl;exact(show prog.wantsStandIn 22=false by kernel_rfl)
    cases hl
  exact all t hm
theorem cardUpto:Rows.ApplyOpsUptoCardSaid:=
  Claim7.holds_tied_plain_at .later [] _ _ _ _ E0 (fun _ h=>by cases h) (by kernel_rfl) (fun _ h=>by cases h) applyOpsUpto_row_tie rfl ⟨rfl,rfl⟩ (by kernel_rfl) rfl plain EY
end Go.Proofs.YtdinkjbfgcfccaaGreatDoor.LawApplyOps
