/- Law ApplyResults: where what it reads is of bulk at most 1048576, the law returns true and its input reads as it did; the tables that the row lists hold what the row says. Own text. -/
import Derived.Test.YtdinkjbfgcfccaaGreatDoorPRA
set_option maxHeartbeats 4000000
namespace Go.Proofs.YtdinkjbfgcfccaaGreatDoor.LawApplyResults
open Go.Proofs.Tryz
open Go Go.ChangeShapes Go.WideShapes Go.ChangeAt Go.RowKit Go.Proofs.YtdinkjbfgcfccaaGreatDoor.Sw
set_option maxRecDepth 100000
set_option linter.unusedVariables false
set_option linter.unusedSimpArgs false
set_option linter.deprecated false
theorem own:ownKnob prog.godebug=none:=by kernel_rfl
theorem El (H:Type) (enc:TypeId×Value→H) (W:World) (ox:Nat) (args:Array Value) (ds gs:List (DataW H)) (U:List MemPlace)
    (D:∀(j:Nat) t v,f4.params[j]?=some t→args[j]?=some v→Value.okWide prog W .any ox t v)
    (G:DataW.Whole enc prog f4.params.toList Rows.applyResultsSpec.vars false W args.toList ds gs U) (V:∀k,(Rows.OpenSpec.upto Rows.applyResultsSpec).cond=some k→k H (ds++gs)=true)
    (hL:laidMetH prog Rows.applyResultsUptoRow.laid W) (X:W.ShapedOpen prog):
    Calls prog 4 args W fun e I=>∃v,e=.returned v∧Rows.applyResultsSpec.post enc prog f4 false true false false W args v I:=by
  have hb:Rows.uptoBulkAll (ds++gs)≤1048576:=iX (V _ rfl)
  have Y:=G
  obtain⟨p,q,J,a7,rfl,a8,a9⟩:=G
  have hA:DataW.TrodAll enc prog W 0 (fun _=>true) true f4.params.toList args.toList ds p:=J
  clear J
  rw[params4] at hA D
  obtain⟨v0,bb,Z,bc,bd,be,e0,rfl,rfl,h0,ab⟩:=trodAll_cons hA
  obtain⟨v1,bi,ad,bj,bk,bm,e1,rfl,rfl,h1,r1⟩:=trodAll_cons ab
  obtain⟨rfl,rfl,rfl⟩:=trodAll_nil r1
  obtain rfl:args=#[v0,v1]:=by cases args;simp_all
  have ae:Rows.uptoBulk Z≤1048576:=cH (jh (by simp)) hb
  obtain⟨y0,bo,rfl,am,u⟩:=K0 T6 underlying43 (D 0 43 _ rfl rfl) h0 ae
  obtain⟨bs,bt,b3,ar,aw,a0,a1⟩:=am
  obtain rfl:=(Array.toArray_toList).symm.trans (congrArg List.toArray a1)
  have a3:Rows.uptoBulk ad≤1048576:=cH (jh (by simp)) hb
  obtain⟨y1,s1,k1,l1⟩:=KZ (eM.sl (eM.u8 underlying5) underlying22 (by kernel_rfl) (by decide)) underlying22 (D 1 22 _ rfl rfl) h1 a3
  have a4:laidMet prog Rows.applyResultsUptoRow.laid W:=hL
  have O:=AE (AE (a4))
  have hT:(Rows.laid_internal_strconv_uint64pow10:DataW Unit)=Lib.tabData .u64 Lib.pow10Tab:=by kernel_rfl
  rw[hT] at O
  have hP:=K2 O
  exact K3 (T0 W W.heap (ov W) (KW W) (K1 X) y0 _ ar _ aw _ a0 _ y1 s1 hP (by exact⟨by have:=u.2.2.2.1.1;omega,⟨u.2.2.2.2.1.1,fun n hn=>(by have:=u.2.2.2.2.1.2 n hn;omega)⟩,u.2.2.2.2.2.1,fun w hw=>(by have:=(u.2.2.2.2.2.2 w hw).2.2;omega)⟩) (by exact u.2.2.2.1.2.1.1) (by omega)) fun I a5 a6 hold=>
    ⟨_,rfl,KY (tb:=4) (by kernel_rfl) (by kernel_rfl) (by kernel_rfl) (by rw[params4];decide) rfl (by kernel_rfl) underlying4 (fun h=>by subst h;rfl) Y a5 a6 hold⟩
noncomputable def uj (os:Os):World:=
  let w:=World.holding prog os ⟨#[],#[],[]⟩
  let put (h:ay) (b:Nat) (cs:Array Value):ay:=h.modify b fun|.cells _ t fz=>.cells cs t fz|o=>o
  {w with heap:=(put (put (put (put (put w.heap 4 ((([0,1,28,2,29,14,24,3,30,22,20,15,25,17,4,8,31,27,13,23,21,19,16,7,26,12,18,6,11,5,10,9]:List Int)).map fun z=>Value.int .u8 z).toArray) 5 ((([0,1,56,2,57,49,28,3,61,58,42,50,38,29,17,4,62,47,59,36,45,43,51,22,53,39,33,30,24,18,12,5,63,55,48,27,60,41,37,16,46,35,44,21,52,32,23,11,54,26,40,15,34,20,31,10,25,14,19,9,13,8,7,6]:List Int)).map fun z=>Value.int .u8 z).toArray) 1 (Lib.pow10Tab.map fun z=>Value.int .u64 z).toArray) 3 ((([128,191,160,191,128,159,144,191,128,143,0,0,0,0,0,0,0,0,0,0,0,0,0,0,0,0,0,0,0,0,0,0]:List Int)).map fun z=>Value.int .u8 z).toArray) 2 (Go.Pinned.utf8FirstZ.map fun z=>Value.int .u8 (Int.ofNat z)).toArray)}
abbrev AY:Array Value:=#[.agg #[.int .i64 0,.int .i64 0,.int .i64 0,.string ⟨#[]⟩,.slice none 0 0,.int .i64 0,.int .i64 0,.int .i64 0,.int .i64 0,.slice none 0 0,.slice none 0 0],.slice none 0 0]
theorem Em (os:Os):laidMet prog Rows.applyResultsUptoRow.laid ((uj os).forCall (fun _ _=>0) ⟨#[],AY,[]⟩).memory:=
  laidMet_of_run' 8 (by kernel_rfl) (by kernel_rfl)
theorem En (os:Os) {H:Type} (enc:TypeId×Value→H):∃u,DataW.whole enc prog ((uj os).forCall (fun _ _=>0) ⟨#[],AY,[]⟩).memory f4.params.toList Rows.applyResultsSpec.vars false (AY:Array Value).toList 8=some ([.agg [.lit (.int .i64 0),.lit (.int .i64 0),.lit (.int .i64 0),.agg [.lit (.string []),.nil,.lit (.int .i64 0),.lit (.int .i64 0),.lit (.int .i64 0),.lit (.int .i64 0)],.nil,.nil],.nil],[],u):=
  ⟨[],by kernel_rfl⟩
theorem Eo (os:Os) (u:os.Started) (H:Type) (enc:TypeId×Value→H) (F:Stop.Interp):
    ReturnsInHanded {} checked os 4 .any ((Rows.OpenSpec.upto Rows.applyResultsSpec).preRow enc prog f4 Rows.applyResultsUptoRow.domain false Rows.applyResultsUptoRow.laid) (((Rows.OpenSpec.upto Rows.applyResultsSpec).at F).post enc prog f4 false true false false):=by
  obtain⟨U,hx⟩:=En os enc
  refine returnsInHanded_of_row (C:=checked) (s:=Rows.OpenSpec.upto Rows.applyResultsSpec) own u (by kernel_rfl) func4
    (witness_row_at (enc:=enc) (C:=checked) false (uj os) AY rfl (by kernel_rfl) (by kernel_rfl) (by kernel_rfl)
      (OpenSpec.preRow_of_cond 8 hx (by kernel_rfl) (fun k hk=>by cases hk;kernel_rfl) (by kernel_rfl) (Em os))) ?_
  intro W ox args ds gs D G I _ J _ hL O _
  exact El H enc W ox args ds gs D G I J hL O
theorem di {a b:Bool} (h:a=true) (k:b=true):(a&&b)=true:=by rw[h,k];rfl
theorem Ep:(Rows.applyResultsUptoRow.wf (OpenSpec.ofChange (Rows.OpenSpec.upto Rows.applyResultsSpec).bare))=true:=by kernel_rfl
theorem Er:(laidOutB Tryz.pinned.checked.prog)=true:=by kernel_rfl
theorem Es:(mapsRowed Tryz.pinned.checked.prog)=true:=by kernel_rfl
theorem Et:(f4.params.all (Tryz.pinned.checked.prog.readableRec ·))=true:=by kernel_rfl
theorem Eu:(namedTie Tryz.pinned.checked.prog Rows.applyResultsUptoRow.named (Rows.OpenSpec.upto Rows.applyResultsSpec).bare.vars)=true:=by kernel_rfl
theorem Ev:((Rows.applyResultsUptoRow.stops==[]))=true:=by kernel_rfl
theorem Ew:((Tryz.pinned.checked.prog.stops==[]))=true:=by kernel_rfl
theorem Ex:((Rows.applyResultsUptoRow.knobs==[]))=true:=by kernel_rfl
theorem Ey:((Tryz.pinned.checked.prog.stopKnobs==[]))=true:=by kernel_rfl
theorem Ez:((Rows.applyResultsUptoRow.inPlace==Tryz.pinned.checked.prog.inPlace 4))=true:=by kernel_rfl
theorem EA:((Rows.applyResultsUptoRow.unfollowed==Tryz.pinned.checked.prog.unfollowed 4))=true:=by kernel_rfl
theorem EB:((Rows.applyResultsUptoRow.recurses==Tryz.pinned.checked.prog.recurses 4))=true:=by kernel_rfl
theorem EC:((Rows.applyResultsUptoRow.named==Tryz.pinned.checked.prog.varsNamed 4))=true:=by kernel_rfl
theorem ED:((Rows.applyResultsUptoRow.maps==(f4.params.toList++(Rows.OpenSpec.upto Rows.applyResultsSpec).bare.plain.varTypes Tryz.pinned.checked.prog).any (Tryz.pinned.checked.prog.mapsRec ·)))=true:=by kernel_rfl
theorem EE:((Rows.applyResultsUptoRow.ifaces==(f4.params.toList++(Rows.OpenSpec.upto Rows.applyResultsSpec).bare.plain.varTypes Tryz.pinned.checked.prog).any (Tryz.pinned.checked.prog.ifacesRec ·)))=true:=by kernel_rfl
theorem EF:((Rows.applyResultsUptoRow.mapsOut==Tryz.pinned.checked.prog.mapsAmong f4.resultTypes.toList))=true:=by kernel_rfl
theorem EG:((Rows.applyResultsUptoRow.loops==(f4.params.toList++(Rows.OpenSpec.upto Rows.applyResultsSpec).bare.plain.varTypes Tryz.pinned.checked.prog).any (Tryz.pinned.checked.prog.loopsFrom ·)))=true:=by kernel_rfl
theorem EH:((Rows.applyResultsUptoRow.wideKeys==(f4.params.toList++(Rows.OpenSpec.upto Rows.applyResultsSpec).bare.plain.varTypes Tryz.pinned.checked.prog++f4.resultTypes.toList).any (Tryz.pinned.checked.prog.wideKeysFrom ·)))=true:=by kernel_rfl
theorem EI:((Rows.OpenSpec.upto Rows.applyResultsSpec).bare.vars.all (Tryz.pinned.checked.prog.varReadable ·))=true:=by kernel_rfl
theorem EJ:(f4.resultTypes.all (fun t=>Tryz.pinned.checked.prog.readableRec t&&decide (t<Tryz.pinned.checked.prog.types.size)))=true:=by kernel_rfl
theorem EK:((Rows.applyResultsUptoRow.ifacesOut==f4.resultTypes.toList.any (Tryz.pinned.checked.prog.ifacesRec ·)))=true:=by kernel_rfl
theorem EL:((Rows.applyResultsUptoRow.loopsOut==f4.resultTypes.toList.any (Tryz.pinned.checked.prog.loopsFrom ·)))=true:=by kernel_rfl
theorem EM:((Rows.applyResultsUptoRow.plainKeys==Tryz.pinned.checked.prog.plainKeys))=true:=by kernel_rfl
theorem EN:(Rows.applyResultsUptoRow.shortTexts.isNone)=true:=by kernel_rfl
theorem EO:(Tryz.pinned.checked.prog.stopsHeard)=true:=by kernel_rfl
theorem EP:(Tryz.pinned.checked.prog.mayEnter)=true:=by kernel_rfl
theorem ER:((Rows.applyResultsUptoRow.lifted==Tryz.pinned.checked.prog.liftsFinal))=true:=by kernel_rfl
theorem ES:((Tryz.pinned.checked.prog.make==some Rows.applyResultsUptoRow.make))=true:=by kernel_rfl
theorem ET:((Rows.applyResultsUptoRow.kinds==(if Rows.applyResultsUptoRow.domain.isEmpty then [] else f4.params.toList.map fun t=>match Tryz.pinned.checked.prog.underlying t with|some (.int k)=>some k|_=>none)))=true:=by kernel_rfl
theorem EU:((Rows.applyResultsUptoRow.pinned==Rows.applyResultsUptoRow.pinnedBy))=true:=by kernel_rfl
theorem EV:((Rows.applyResultsUptoRow.veiled==(f4.params.toList++(Rows.OpenSpec.upto Rows.applyResultsSpec).bare.plain.varTypes Tryz.pinned.checked.prog++f4.resultTypes.toList).any (Tryz.pinned.checked.prog.veiledRec ·)))=true:=by kernel_rfl
theorem EW:(Rows.applyResultsUptoRow.veiledFits Tryz.pinned.checked.prog f4.params.toList (f4.params.toList++(Rows.OpenSpec.upto Rows.applyResultsSpec).bare.plain.varTypes Tryz.pinned.checked.prog++f4.resultTypes.toList))=true:=by kernel_rfl
theorem EX:joinedFacts Tryz.pinned.checked.prog 4 f4 (Rows.OpenSpec.upto Rows.applyResultsSpec).bare Rows.applyResultsUptoRow=true:=(di (di (di (di (di (di (di (di (di (di (di (di (di (di (di (di (di (di (di (di (di (di (di (di (di (di (di (di (di (di (di Ep Er) Es) Et) Eu) Ev) Ew) Ex) Ey) Ez) EA) EB) EC) ED) EE) EF) EG) EH) EI) EJ) EK) EL) EM) EN) EO) EP) ER) ES) ET) EU) EV) EW)
theorem EY:false=Rows.applyResultsUptoRow.goesBy Tryz.pinned.checked.prog:=by kernel_rfl
theorem inst:f4.isInstance Tryz.pinned.checked.prog Rows.applyResultsUptoRow.origin Rows.applyResultsUptoRow.targs:=iX (by kernel_rfl)
theorem wrap:f4.isWrapper Tryz.pinned.checked.prog Rows.applyResultsUptoRow.wrapper Rows.applyResultsUptoRow.mainSum:=by
  unfold Func.isWrapper;first|(rw[aY (by decide+kernel)];kernel_rfl)|(rw[aL (by decide+kernel)];exact⟨rfl,rfl⟩)
theorem EZ:Tryz.pinned.checked.prog.funcNamed Rows.applyResultsUptoRow.func=some 4:=by kernel_rfl
theorem looks:false=Tryz.pinned.checked.prog.looks []:=by kernel_rfl
theorem E0:Rows.ApplyResultsUptoSaid:=
  OpenClaim.holds_of_cond 4 f4 rfl rfl rfl rfl rfl rfl rfl ⟨rfl,rfl,rfl,rfl,rfl⟩ rfl rfl rfl rfl rfl EZ func4 EX inst wrap
    (fun os u H enc _ F=>by rw[OpenClaim.pre_eq_preRow];exact Eo os u H enc F)
theorem plain (f:FuncId) (fn:Func) (hf:Tryz.pinned.checked.prog.funcNamed "stanchion/stanchionlaw13.ApplyResults"=some f) (hfn:Tryz.pinned.checked.prog.funcs[f]?=some fn):
    false=Tryz.pinned.checked.prog.looks []∧∀(j:Nat) t,fn.params[j]?=some t→Tryz.pinned.checked.prog.wantsStandIn t=false:=by
  obtain rfl:f=4:=gI ((show prog.funcNamed "stanchion/stanchionlaw13.ApplyResults"=some 4 by kernel_rfl).symm.trans hf) |>.symm
  obtain rfl:fn=f4:=(gI (func4.symm.trans hfn)).symm
  refine⟨looks,fun j t ht=>?_⟩
  rw[params4] at ht
  have hm:=Array.mem_of_getElem? ht
  have all:∀t∈(#[43,22]:Array TypeId),prog.wantsStandIn t=false:=by
    intro t ht
    have hl:t∈[43,22]:=by simpa using ht
    rcases eO.1 hl with rfl|hl;exact(show prog.wantsStandIn 43=false by kernel_rfl)
    rcases eO.1 hl with rfl|hl;exact(show prog.wantsStandIn 22=false by kernel_rfl)
    cases hl
  exact all t hm
theorem cardUpto:Rows.ApplyResultsUptoCardSaid:=
  Claim7.holds_tied_plain_at .later [] _ _ _ _ E0 (fun _ h=>by cases h) (by kernel_rfl) (fun _ h=>by cases h) applyResultsUpto_row_tie rfl ⟨rfl,rfl⟩ (by kernel_rfl) rfl plain EY
end Go.Proofs.YtdinkjbfgcfccaaGreatDoor.LawApplyResults
