/- Law ApplyAlone: where what it reads is of bulk at most 1048576, the law returns true and its input reads as it did; the tables that the row lists hold what the row says. Own text. -/
import Derived.Test.YtceekbnihfckeaaGreatDoorQAA
namespace Go.Proofs.YtceekbnihfckeaaGreatDoor.LawApplyAlone
open Go.Proofs.Tryz
open Go Go.ChangeShapes Go.WideShapes Go.ChangeAt Go.RowKit Go.Proofs.YtceekbnihfckeaaGreatDoor.Sw
set_option maxRecDepth 100000
set_option linter.unusedVariables false
set_option linter.unusedSimpArgs false
set_option linter.deprecated false
theorem own:ownKnob prog.godebug=none:=by kernel_rfl
theorem rM (H:Type) (enc:TypeId×Value→H) (W:World) (iY:Nat) (args:Array Value) (ds gs:List (DataW H)) (O:List MemPlace)
    (u:∀(j:Nat) t v,f10.params[j]?=some t→args[j]?=some v→Value.okWide prog W .any iY t v)
    (D:DataW.Whole enc prog f10.params.toList Rows.applyAloneSpec.vars false W args.toList ds gs O) (U:∀k,(Rows.OpenSpec.upto Rows.applyAloneSpec).cond=some k→k H (ds++gs)=true)
    (hL:laidMetH prog Rows.applyAloneUptoRow.laid W) (hsh:W.ShapedOpen prog):
    Calls prog 10 args W fun e G=>∃v,e=.returned v∧Rows.applyAloneSpec.post enc prog f10 false true false false W args v G:=by
  have hb:Rows.uptoBulkAll (ds++gs)≤1048576:=gp (U _ rfl)
  have V:=D
  obtain⟨p,q,I,a8,rfl,a9,bc⟩:=D
  have hA:DataW.TrodAll enc prog W 0 (fun _=>true) true f10.params.toList args.toList ds p:=I
  clear I
  rw[params10] at hA u
  obtain⟨v0,bd,X,be,bi,bj,e0,rfl,rfl,h0,Y⟩:=trodAll_cons hA
  obtain⟨v1,bk,ab,bm,bo,bt,e1,rfl,rfl,h1,r1⟩:=trodAll_cons Y
  obtain⟨v2,b3,d2,b4,b5,b6,e2,rfl,rfl,h2,r2⟩:=trodAll_cons r1
  obtain⟨rfl,rfl,rfl⟩:=trodAll_nil r2
  obtain rfl:args=#[v0,v1,v2]:=by cases args;simp_all
  have ad:Rows.uptoBulk X≤1048576:=bQ (fE (by simp)) hb
  obtain⟨y0,ae,b8,am⟩:=y9 (cT.sl um underlying52 (by kernel_rfl) (by decide)) underlying52 (u 0 52 _ rfl rfl) h0 ad
  have ar:Rows.uptoBulk ab≤1048576:=bQ (fE (by simp)) hb
  obtain⟨y1,rfl,k1,l1⟩:=vW underlying3 (u 1 3 _ rfl rfl) h1 ar
  replace k1: -9223372036854775808≤y1:=k1
  replace l1:y1≤9223372036854775807:=l1
  have aw:Rows.uptoBulk d2≤1048576:=bQ (fE (by simp)) hb
  obtain⟨y2,ca,rfl,k2,a0⟩:=CU Md underlying25 (u 2 25 _ rfl rfl) h2 aw
  obtain⟨cb,ce,a1,a3,a4⟩:=iC.1 k2
  obtain rfl:=(Array.toArray_toList).symm.trans (congrArg List.toArray a4)
  have a5:laidMet prog Rows.applyAloneUptoRow.laid W:=hL
  have J:=qz (qz (a5))
  have hT:(Rows.laid_internal_strconv_uint64pow10:DataW Unit)=Lib.tabData .u64 Lib.pow10Tab:=by kernel_rfl
  rw[hT] at J
  have hP:=y_ J
  exact za (Mg W W.heap (j8 W) (zb W) (zd hsh) _ y0 ae y1 y2 _ a1 _ a3 hP (by omega) (by exact fun z hz=>(by have h9:=am z hz;exact⟨by have:=h9.1;omega,by have:=h9.2.1;omega⟩)) (by exact bQ a0 (by decide))) fun G a6 a7 hold=>
    ⟨_,rfl,ze (tb:=4) (by kernel_rfl) (by kernel_rfl) (by kernel_rfl) (by rw[params10];decide) rfl (by kernel_rfl) underlying4 (fun h=>by subst h;rfl) V a6 a7 hold⟩
noncomputable def lI (os:Os):World:=
  let w:=World.holding prog os ⟨#[],#[],[]⟩
  let put (h:ax) (b:Nat) (cs:Array Value):ax:=h.modify b fun|.cells _ t fz=>.cells cs t fz|o=>o
  {w with heap:=(put (put (put (put (put w.heap 4 ((([0,1,28,2,29,14,24,3,30,22,20,15,25,17,4,8,31,27,13,23,21,19,16,7,26,12,18,6,11,5,10,9]:List Int)).map fun z=>Value.int .u8 z).toArray) 5 ((([0,1,56,2,57,49,28,3,61,58,42,50,38,29,17,4,62,47,59,36,45,43,51,22,53,39,33,30,24,18,12,5,63,55,48,27,60,41,37,16,46,35,44,21,52,32,23,11,54,26,40,15,34,20,31,10,25,14,19,9,13,8,7,6]:List Int)).map fun z=>Value.int .u8 z).toArray) 1 (Lib.pow10Tab.map fun z=>Value.int .u64 z).toArray) 3 ((([128,191,160,191,128,159,144,191,128,143,0,0,0,0,0,0,0,0,0,0,0,0,0,0,0,0,0,0,0,0,0,0]:List Int)).map fun z=>Value.int .u8 z).toArray) 2 (Go.Pinned.utf8FirstZ.map fun z=>Value.int .u8 (Int.ofNat z)).toArray)}
theorem rN (os:Os):laidMet prog Rows.applyAloneUptoRow.laid ((lI os).forCall (fun _ _=>0) ⟨#[],#[.slice none 0 0,.int .i64 0,.agg #[.int .i64 0,.string ⟨#[]⟩,.slice none 0 0,.int .i64 0,.int .i64 0,.bool false,.bool false,.bool false,.slice none 0 0]],[]⟩).memory:=
  laidMet_of_run' 8 (by kernel_rfl) (by kernel_rfl)
theorem rO (os:Os) {H:Type} (enc:TypeId×Value→H):∃u,DataW.whole enc prog ((lI os).forCall (fun _ _=>0) ⟨#[],#[.slice none 0 0,.int .i64 0,.agg #[.int .i64 0,.string ⟨#[]⟩,.slice none 0 0,.int .i64 0,.int .i64 0,.bool false,.bool false,.bool false,.slice none 0 0]],[]⟩).memory f10.params.toList Rows.applyAloneSpec.vars false (#[.slice none 0 0,.int .i64 0,.agg #[.int .i64 0,.string ⟨#[]⟩,.slice none 0 0,.int .i64 0,.int .i64 0,.bool false,.bool false,.bool false,.slice none 0 0]]:Array Value).toList 8=some ([.nil,.lit (.int .i64 0),.agg [.lit (.int .i64 0),.lit (.string []),.nil,.lit (.int .i64 0),.lit (.int .i64 0),.lit (.bool false),.lit (.bool false),.lit (.bool false),.nil]],[],u):=
  ⟨[],by kernel_rfl⟩
theorem rP (os:Os) (u:os.Started) (H:Type) (enc:TypeId×Value→H) (F:Stop.Interp):
    ReturnsInHanded {} checked os 10 .any ((Rows.OpenSpec.upto Rows.applyAloneSpec).preRow enc prog f10 Rows.applyAloneUptoRow.domain false Rows.applyAloneUptoRow.laid) (((Rows.OpenSpec.upto Rows.applyAloneSpec).at F).post enc prog f10 false true false false):=by
  obtain⟨O,hx⟩:=rO os enc
  refine returnsInHanded_of_row (C:=checked) (s:=Rows.OpenSpec.upto Rows.applyAloneSpec) own u (by kernel_rfl) func10
    (witness_row_at (enc:=enc) (C:=checked) false (lI os) #[.slice none 0 0,.int .i64 0,.agg #[.int .i64 0,.string ⟨#[]⟩,.slice none 0 0,.int .i64 0,.int .i64 0,.bool false,.bool false,.bool false,.slice none 0 0]] rfl (by kernel_rfl) (by kernel_rfl) (by kernel_rfl)
      (OpenSpec.preRow_of_cond 8 hx (by kernel_rfl) (fun k hk=>by cases hk;kernel_rfl) (by kernel_rfl) (rN os))) ?_
  intro W iY args ds gs D G I _ J _ hL hsh _
  exact rM H enc W iY args ds gs D G I J hL hsh
theorem bG {a b:Bool} (h:a=true) (k:b=true):(a&&b)=true:=by rw[h,k];rfl
theorem rQ:(Rows.applyAloneUptoRow.wf (OpenSpec.ofChange (Rows.OpenSpec.upto Rows.applyAloneSpec).bare))=true:=by kernel_rfl
theorem rR:(laidOutB Tryz.pinned.checked.prog)=true:=by kernel_rfl
theorem rS:(mapsRowed Tryz.pinned.checked.prog)=true:=by kernel_rfl
theorem rT:(f10.params.all (Tryz.pinned.checked.prog.readableRec ·))=true:=by kernel_rfl
theorem rU:(namedTie Tryz.pinned.checked.prog Rows.applyAloneUptoRow.named (Rows.OpenSpec.upto Rows.applyAloneSpec).bare.vars)=true:=by kernel_rfl
theorem rV:((Rows.applyAloneUptoRow.stops==[]))=true:=by kernel_rfl
theorem rW:((Tryz.pinned.checked.prog.stops==[]))=true:=by kernel_rfl
theorem rX:((Rows.applyAloneUptoRow.knobs==[]))=true:=by kernel_rfl
theorem rY:((Tryz.pinned.checked.prog.stopKnobs==[]))=true:=by kernel_rfl
theorem rZ:((Rows.applyAloneUptoRow.inPlace==Tryz.pinned.checked.prog.inPlace 10))=true:=by kernel_rfl
theorem r4:((Rows.applyAloneUptoRow.unfollowed==Tryz.pinned.checked.prog.unfollowed 10))=true:=by kernel_rfl
theorem r5:((Rows.applyAloneUptoRow.recurses==Tryz.pinned.checked.prog.recurses 10))=true:=by kernel_rfl
theorem r6:((Rows.applyAloneUptoRow.named==Tryz.pinned.checked.prog.varsNamed 10))=true:=by kernel_rfl
theorem r7:((Rows.applyAloneUptoRow.maps==(f10.params.toList++(Rows.OpenSpec.upto Rows.applyAloneSpec).bare.plain.varTypes Tryz.pinned.checked.prog).any (Tryz.pinned.checked.prog.mapsRec ·)))=true:=by kernel_rfl
theorem r8:((Rows.applyAloneUptoRow.ifaces==(f10.params.toList++(Rows.OpenSpec.upto Rows.applyAloneSpec).bare.plain.varTypes Tryz.pinned.checked.prog).any (Tryz.pinned.checked.prog.ifacesRec ·)))=true:=by kernel_rfl
theorem r9:((Rows.applyAloneUptoRow.mapsOut==Tryz.pinned.checked.prog.mapsAmong f10.resultTypes.toList))=true:=by kernel_rfl
theorem r_:((Rows.applyAloneUptoRow.loops==(f10.params.toList++(Rows.OpenSpec.upto Rows.applyAloneSpec).bare.plain.varTypes Tryz.pinned.checked.prog).any (Tryz.pinned.checked.prog.loopsFrom ·)))=true:=by kernel_rfl
theorem si:((Rows.applyAloneUptoRow.wideKeys==(f10.params.toList++(Rows.OpenSpec.upto Rows.applyAloneSpec).bare.plain.varTypes Tryz.pinned.checked.prog++f10.resultTypes.toList).any (Tryz.pinned.checked.prog.wideKeysFrom ·)))=true:=by kernel_rfl
theorem sj:((Rows.OpenSpec.upto Rows.applyAloneSpec).bare.vars.all (Tryz.pinned.checked.prog.varReadable ·))=true:=by kernel_rfl
theorem sn:(f10.resultTypes.all (fun t=>Tryz.pinned.checked.prog.readableRec t&&decide (t<Tryz.pinned.checked.prog.types.size)))=true:=by kernel_rfl
theorem su:((Rows.applyAloneUptoRow.ifacesOut==f10.resultTypes.toList.any (Tryz.pinned.checked.prog.ifacesRec ·)))=true:=by kernel_rfl
theorem sw:((Rows.applyAloneUptoRow.loopsOut==f10.resultTypes.toList.any (Tryz.pinned.checked.prog.loopsFrom ·)))=true:=by kernel_rfl
theorem sx:((Rows.applyAloneUptoRow.plainKeys==Tryz.pinned.checked.prog.plainKeys))=true:=by kernel_rfl
theorem sy:(Rows.applyAloneUptoRow.shortTexts.isNone)=true:=by kernel_rfl
theorem sC:(Tryz.pinned.checked.prog.stopsHeard)=true:=by kernel_rfl
theorem sD:(Tryz.pinned.checked.prog.mayEnter)=true:=by kernel_rfl
theorem sE:((Rows.applyAloneUptoRow.lifted==Tryz.pinned.checked.prog.liftsFinal))=true:=by kernel_rfl
theorem sF:((Tryz.pinned.checked.prog.make==some Rows.applyAloneUptoRow.make))=true:=by kernel_rfl
theorem sG:((Rows.applyAloneUptoRow.kinds==(if Rows.applyAloneUptoRow.domain.isEmpty then [] else f10.params.toList.map fun t=>match Tryz.pinned.checked.prog.underlying t with|some (.int k)=>some k|_=>none)))=true:=by kernel_rfl
theorem sH:((Rows.applyAloneUptoRow.pinned==Rows.applyAloneUptoRow.pinnedBy))=true:=by kernel_rfl
theorem sI:((Rows.applyAloneUptoRow.veiled==(f10.params.toList++(Rows.OpenSpec.upto Rows.applyAloneSpec).bare.plain.varTypes Tryz.pinned.checked.prog++f10.resultTypes.toList).any (Tryz.pinned.checked.prog.veiledRec ·)))=true:=by kernel_rfl
theorem sJ:(Rows.applyAloneUptoRow.veiledFits Tryz.pinned.checked.prog f10.params.toList (f10.params.toList++(Rows.OpenSpec.upto Rows.applyAloneSpec).bare.plain.varTypes Tryz.pinned.checked.prog++f10.resultTypes.toList))=true:=by kernel_rfl
theorem sK:joinedFacts Tryz.pinned.checked.prog 10 f10 (Rows.OpenSpec.upto Rows.applyAloneSpec).bare Rows.applyAloneUptoRow=true:=(bG (bG (bG (bG (bG (bG (bG (bG (bG (bG (bG (bG (bG (bG (bG (bG (bG (bG (bG (bG (bG (bG (bG (bG (bG (bG (bG (bG (bG (bG (bG rQ rR) rS) rT) rU) rV) rW) rX) rY) rZ) r4) r5) r6) r7) r8) r9) r_) si) sj) sn) su) sw) sx) sy) sC) sD) sE) sF) sG) sH) sI) sJ)
theorem sL:false=Rows.applyAloneUptoRow.goesBy Tryz.pinned.checked.prog:=by kernel_rfl
theorem inst:f10.isInstance Tryz.pinned.checked.prog Rows.applyAloneUptoRow.origin Rows.applyAloneUptoRow.targs:=gp (by kernel_rfl)
theorem wrap:f10.isWrapper Tryz.pinned.checked.prog Rows.applyAloneUptoRow.wrapper Rows.applyAloneUptoRow.mainSum:=by
  unfold Func.isWrapper;first|(rw[aO (by decide+kernel)];kernel_rfl)|(rw[aC (by decide+kernel)];exact⟨rfl,rfl⟩)
theorem sM:Tryz.pinned.checked.prog.funcNamed Rows.applyAloneUptoRow.func=some 10:=by kernel_rfl
theorem looks:false=Tryz.pinned.checked.prog.looks []:=by kernel_rfl
theorem sN:Rows.ApplyAloneUptoSaid:=
  OpenClaim.holds_of_cond 10 f10 rfl rfl rfl rfl rfl rfl rfl ⟨rfl,rfl,rfl,rfl,rfl⟩ rfl rfl rfl rfl rfl sM func10 sK inst wrap
    (fun os u H enc _ F=>by rw[OpenClaim.pre_eq_preRow];exact rP os u H enc F)
theorem plain (f:FuncId) (fn:Func) (hf:Tryz.pinned.checked.prog.funcNamed "stanchion/stanchionlaw13.ApplyAlone"=some f) (hfn:Tryz.pinned.checked.prog.funcs[f]?=some fn):
    false=Tryz.pinned.checked.prog.looks []∧∀(j:Nat) t,fn.params[j]?=some t→Tryz.pinned.checked.prog.wantsStandIn t=false:=by
  obtain rfl:f=10:=fK ((show prog.funcNamed "stanchion/stanchionlaw13.ApplyAlone"=some 10 by kernel_rfl).symm.trans hf) |>.symm
  obtain rfl:fn=f10:=(fK (func10.symm.trans hfn)).symm
  refine⟨looks,fun j t ht=>?_⟩
  rw[params10] at ht
  have hm:=Array.mem_of_getElem? ht
  have all:∀t∈(#[52,3,25]:Array TypeId),prog.wantsStandIn t=false:=by
    intro t ht
    have hl:t∈[52,3,25]:=by simpa using ht
    rcases ei.1 hl with rfl|hl;exact(show prog.wantsStandIn 52=false by kernel_rfl)
    rcases ei.1 hl with rfl|hl;exact(show prog.wantsStandIn 3=false by kernel_rfl)
    rcases ei.1 hl with rfl|hl;exact(show prog.wantsStandIn 25=false by kernel_rfl)
    cases hl
  exact all t hm
theorem cardUpto:Rows.ApplyAloneUptoCardSaid:=
  Claim7.holds_tied_plain_at .later [] _ _ _ _ sN (fun _ h=>by cases h) (by kernel_rfl) (fun _ h=>by cases h) applyAloneUpto_row_tie rfl ⟨rfl,rfl⟩ (by kernel_rfl) rfl plain sL
end Go.Proofs.YtceekbnihfckeaaGreatDoor.LawApplyAlone
