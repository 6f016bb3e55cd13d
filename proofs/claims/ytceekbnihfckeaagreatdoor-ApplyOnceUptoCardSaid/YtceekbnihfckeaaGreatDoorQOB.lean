/- Law ApplyOnce: where what it reads is of bulk at most 1048576, the law returns true and its input reads as it did; the tables that the row lists hold what the row says. Own text. -/
import Derived.Test.YtceekbnihfckeaaGreatDoorQOA
namespace Go.Proofs.YtceekbnihfckeaaGreatDoor.LawApplyOnce
open Go.Proofs.Tryz
open Go Go.ChangeShapes Go.WideShapes Go.ChangeAt Go.RowKit Go.Proofs.YtceekbnihfckeaaGreatDoor.Sw
set_option maxRecDepth 100000
set_option linter.unusedVariables false
set_option linter.unusedSimpArgs false
set_option linter.deprecated false
theorem own:ownKnob prog.godebug=none:=by kernel_rfl
theorem rM (H:Type) (enc:TypeId×Value→H) (W:World) (iY:Nat) (args:Array Value) (ds gs:List (DataW H)) (U:List MemPlace)
    (u:∀(j:Nat) t v,f6.params[j]?=some t→args[j]?=some v→Value.okWide prog W .any iY t v)
    (D:DataW.Whole enc prog f6.params.toList Rows.applyOnceSpec.vars false W args.toList ds gs U) (V:∀k,(Rows.OpenSpec.upto Rows.applyOnceSpec).cond=some k→k H (ds++gs)=true)
    (hL:laidMetH prog Rows.applyOnceUptoRow.laid W) (hsh:W.ShapedOpen prog):
    Calls prog 6 args W fun e G=>∃v,e=.returned v∧Rows.applyOnceSpec.post enc prog f6 false true false false W args v G:=by
  have hb:Rows.uptoBulkAll (ds++gs)≤1048576:=gp (V _ rfl)
  have X:=D
  obtain⟨p,q,I,a9,rfl,bc,bd⟩:=D
  have hA:DataW.TrodAll enc prog W 0 (fun _=>true) true f6.params.toList args.toList ds p:=I
  clear I
  rw[params6] at hA u
  obtain⟨v0,be,Y,bi,bj,bk,e0,rfl,rfl,h0,ab⟩:=trodAll_cons hA
  obtain⟨v1,bm,ad,bo,bt,b3,e1,rfl,rfl,h1,r1⟩:=trodAll_cons ab
  obtain⟨v2,b4,d2,b5,b6,b8,e2,rfl,rfl,h2,r2⟩:=trodAll_cons r1
  obtain⟨rfl,rfl,rfl⟩:=trodAll_nil r2
  obtain rfl:args=#[v0,v1,v2]:=by cases args;simp_all
  have ae:Rows.uptoBulk Y≤1048576:=bQ (fE (by simp)) hb
  obtain⟨y0,am,ca,ar⟩:=y9 (cT.sl um underlying52 (by kernel_rfl) (by decide)) underlying52 (u 0 52 _ rfl rfl) h0 ae
  have aw:Rows.uptoBulk ad≤1048576:=bQ (fE (by simp)) hb
  obtain⟨y1,cb,rfl,k1,l1⟩:=CU um underlying71 (u 1 71 _ rfl rfl) h1 aw
  obtain⟨ce,cf,ch,a0,a1,a3,a4⟩:=k1
  obtain rfl:=(Array.toArray_toList).symm.trans (congrArg List.toArray a4)
  have a5:Rows.uptoBulk d2≤1048576:=bQ (fE (by simp)) hb
  obtain⟨y2,rfl,k2,J⟩:=vW underlying3 (u 2 3 _ rfl rfl) h2 a5
  replace k2: -9223372036854775808≤y2:=k2
  replace J:y2≤9223372036854775807:=J
  have a6:laidMet prog Rows.applyOnceUptoRow.laid W:=hL
  have O:=qz (qz (a6))
  have hT:(Rows.laid_internal_strconv_uint64pow10:DataW Unit)=Lib.tabData .u64 Lib.pow10Tab:=by kernel_rfl
  rw[hT] at O
  have hP:=y_ O
  exact za (TW W W.heap (j8 W) (zb W) (zd hsh) _ y0 am y1 _ a0 _ a1 _ a3 y2 hP (by omega) (by exact fun z hz=>(by have h9:=ar z hz;exact⟨by have:=h9.1;omega,by have:=h9.2.1;omega⟩)) (by exact⟨by have:=l1.1;omega,by have:=l1.2.1;omega⟩)) fun G a7 a8 hold=>
    ⟨_,rfl,ze (tb:=4) (by kernel_rfl) (by kernel_rfl) (by kernel_rfl) (by rw[params6];decide) rfl (by kernel_rfl) underlying4 (fun h=>by subst h;rfl) X a7 a8 hold⟩
noncomputable def lI (os:Os):World:=
  let w:=World.holding prog os ⟨#[],#[],[]⟩
  let put (h:ax) (b:Nat) (cs:Array Value):ax:=h.modify b fun|.cells _ t fz=>.cells cs t fz|o=>o
  {w with heap:=(put (put (put (put (put w.heap 4 ((([0,1,28,2,29,14,24,3,30,22,20,15,25,17,4,8,31,27,13,23,21,19,16,7,26,12,18,6,11,5,10,9]:List Int)).map fun z=>Value.int .u8 z).toArray) 5 ((([0,1,56,2,57,49,28,3,61,58,42,50,38,29,17,4,62,47,59,36,45,43,51,22,53,39,33,30,24,18,12,5,63,55,48,27,60,41,37,16,46,35,44,21,52,32,23,11,54,26,40,15,34,20,31,10,25,14,19,9,13,8,7,6]:List Int)).map fun z=>Value.int .u8 z).toArray) 1 (Lib.pow10Tab.map fun z=>Value.int .u64 z).toArray) 3 ((([128,191,160,191,128,159,144,191,128,143,0,0,0,0,0,0,0,0,0,0,0,0,0,0,0,0,0,0,0,0,0,0]:List Int)).map fun z=>Value.int .u8 z).toArray) 2 (Go.Pinned.utf8FirstZ.map fun z=>Value.int .u8 (Int.ofNat z)).toArray)}
theorem rN (os:Os):laidMet prog Rows.applyOnceUptoRow.laid ((lI os).forCall (fun _ _=>0) ⟨#[],#[.slice none 0 0,.agg #[.int .i64 0,.int .i64 0,.int .i64 0,.int .i64 0,.string ⟨#[]⟩,.slice none 0 0,.int .i64 0,.int .i64 0,.bool false,.bool false,.bool false,.slice none 0 0,.slice none 0 0],.int .i64 0],[]⟩).memory:=
  laidMet_of_run' 8 (by kernel_rfl) (by kernel_rfl)
theorem rO (os:Os) {H:Type} (enc:TypeId×Value→H):∃u,DataW.whole enc prog ((lI os).forCall (fun _ _=>0) ⟨#[],#[.slice none 0 0,.agg #[.int .i64 0,.int .i64 0,.int .i64 0,.int .i64 0,.string ⟨#[]⟩,.slice none 0 0,.int .i64 0,.int .i64 0,.bool false,.bool false,.bool false,.slice none 0 0,.slice none 0 0],.int .i64 0],[]⟩).memory f6.params.toList Rows.applyOnceSpec.vars false (#[.slice none 0 0,.agg #[.int .i64 0,.int .i64 0,.int .i64 0,.int .i64 0,.string ⟨#[]⟩,.slice none 0 0,.int .i64 0,.int .i64 0,.bool false,.bool false,.bool false,.slice none 0 0,.slice none 0 0],.int .i64 0]:Array Value).toList 8=some ([.nil,.agg [.lit (.int .i64 0),.lit (.int .i64 0),.lit (.int .i64 0),.agg [.lit (.int .i64 0),.lit (.string []),.nil,.lit (.int .i64 0),.lit (.int .i64 0),.lit (.bool false),.lit (.bool false),.lit (.bool false),.nil],.nil],.lit (.int .i64 0)],[],u):=
  ⟨[],by kernel_rfl⟩
theorem rP (os:Os) (u:os.Started) (H:Type) (enc:TypeId×Value→H) (F:Stop.Interp):
    ReturnsInHanded {} checked os 6 .any ((Rows.OpenSpec.upto Rows.applyOnceSpec).preRow enc prog f6 Rows.applyOnceUptoRow.domain false Rows.applyOnceUptoRow.laid) (((Rows.OpenSpec.upto Rows.applyOnceSpec).at F).post enc prog f6 false true false false):=by
  obtain⟨O,hx⟩:=rO os enc
  refine returnsInHanded_of_row (C:=checked) (s:=Rows.OpenSpec.upto Rows.applyOnceSpec) own u (by kernel_rfl) func6
    (witness_row_at (enc:=enc) (C:=checked) false (lI os) #[.slice none 0 0,.agg #[.int .i64 0,.int .i64 0,.int .i64 0,.int .i64 0,.string ⟨#[]⟩,.slice none 0 0,.int .i64 0,.int .i64 0,.bool false,.bool false,.bool false,.slice none 0 0,.slice none 0 0],.int .i64 0] rfl (by kernel_rfl) (by kernel_rfl) (by kernel_rfl)
      (OpenSpec.preRow_of_cond 8 hx (by kernel_rfl) (fun k hk=>by cases hk;kernel_rfl) (by kernel_rfl) (rN os))) ?_
  intro W iY args ds gs D G I _ J _ hL hsh _
  exact rM H enc W iY args ds gs D G I J hL hsh
theorem bG {a b:Bool} (h:a=true) (k:b=true):(a&&b)=true:=by rw[h,k];rfl
theorem rQ:(Rows.applyOnceUptoRow.wf (OpenSpec.ofChange (Rows.OpenSpec.upto Rows.applyOnceSpec).bare))=true:=by kernel_rfl
theorem rR:(laidOutB Tryz.pinned.checked.prog)=true:=by kernel_rfl
theorem rS:(mapsRowed Tryz.pinned.checked.prog)=true:=by kernel_rfl
theorem rT:(f6.params.all (Tryz.pinned.checked.prog.readableRec ·))=true:=by kernel_rfl
theorem rU:(namedTie Tryz.pinned.checked.prog Rows.applyOnceUptoRow.named (Rows.OpenSpec.upto Rows.applyOnceSpec).bare.vars)=true:=by kernel_rfl
theorem rV:((Rows.applyOnceUptoRow.stops==[]))=true:=by kernel_rfl
theorem rW:((Tryz.pinned.checked.prog.stops==[]))=true:=by kernel_rfl
theorem rX:((Rows.applyOnceUptoRow.knobs==[]))=true:=by kernel_rfl
theorem rY:((Tryz.pinned.checked.prog.stopKnobs==[]))=true:=by kernel_rfl
theorem rZ:((Rows.applyOnceUptoRow.inPlace==Tryz.pinned.checked.prog.inPlace 6))=true:=by kernel_rfl
theorem r4:((Rows.applyOnceUptoRow.unfollowed==Tryz.pinned.checked.prog.unfollowed 6))=true:=by kernel_rfl
theorem r5:((Rows.applyOnceUptoRow.recurses==Tryz.pinned.checked.prog.recurses 6))=true:=by kernel_rfl
theorem r6:((Rows.applyOnceUptoRow.named==Tryz.pinned.checked.prog.varsNamed 6))=true:=by kernel_rfl
theorem r7:((Rows.applyOnceUptoRow.maps==(f6.params.toList++(Rows.OpenSpec.upto Rows.applyOnceSpec).bare.plain.varTypes Tryz.pinned.checked.prog).any (Tryz.pinned.checked.prog.mapsRec ·)))=true:=by kernel_rfl
theorem r8:((Rows.applyOnceUptoRow.ifaces==(f6.params.toList++(Rows.OpenSpec.upto Rows.applyOnceSpec).bare.plain.varTypes Tryz.pinned.checked.prog).any (Tryz.pinned.checked.prog.ifacesRec ·)))=true:=by kernel_rfl
theorem r9:((Rows.applyOnceUptoRow.mapsOut==Tryz.pinned.checked.prog.mapsAmong f6.resultTypes.toList))=true:=by kernel_rfl
theorem r_:((Rows.applyOnceUptoRow.loops==(f6.params.toList++(Rows.OpenSpec.upto Rows.applyOnceSpec).bare.plain.varTypes Tryz.pinned.checked.prog).any (Tryz.pinned.checked.prog.loopsFrom ·)))=true:=by kernel_rfl
theorem si:((Rows.applyOnceUptoRow.wideKeys==(f6.params.toList++(Rows.OpenSpec.upto Rows.applyOnceSpec).bare.plain.varTypes Tryz.pinned.checked.prog++f6.resultTypes.toList).any (Tryz.pinned.checked.prog.wideKeysFrom ·)))=true:=by kernel_rfl
theorem sj:((Rows.OpenSpec.upto Rows.applyOnceSpec).bare.vars.all (Tryz.pinned.checked.prog.varReadable ·))=true:=by kernel_rfl
theorem sn:(f6.resultTypes.all (fun t=>Tryz.pinned.checked.prog.readableRec t&&decide (t<Tryz.pinned.checked.prog.types.size)))=true:=by kernel_rfl
theorem su:((Rows.applyOnceUptoRow.ifacesOut==f6.resultTypes.toList.any (Tryz.pinned.checked.prog.ifacesRec ·)))=true:=by kernel_rfl
theorem sw:((Rows.applyOnceUptoRow.loopsOut==f6.resultTypes.toList.any (Tryz.pinned.checked.prog.loopsFrom ·)))=true:=by kernel_rfl
theorem sx:((Rows.applyOnceUptoRow.plainKeys==Tryz.pinned.checked.prog.plainKeys))=true:=by kernel_rfl
theorem sy:(Rows.applyOnceUptoRow.shortTexts.isNone)=true:=by kernel_rfl
theorem sC:(Tryz.pinned.checked.prog.stopsHeard)=true:=by kernel_rfl
theorem sD:(Tryz.pinned.checked.prog.mayEnter)=true:=by kernel_rfl
theorem sE:((Rows.applyOnceUptoRow.lifted==Tryz.pinned.checked.prog.liftsFinal))=true:=by kernel_rfl
theorem sF:((Tryz.pinned.checked.prog.make==some Rows.applyOnceUptoRow.make))=true:=by kernel_rfl
theorem sG:((Rows.applyOnceUptoRow.kinds==(if Rows.applyOnceUptoRow.domain.isEmpty then [] else f6.params.toList.map fun t=>match Tryz.pinned.checked.prog.underlying t with|some (.int k)=>some k|_=>none)))=true:=by kernel_rfl
theorem sH:((Rows.applyOnceUptoRow.pinned==Rows.applyOnceUptoRow.pinnedBy))=true:=by kernel_rfl
theorem sI:((Rows.applyOnceUptoRow.veiled==(f6.params.toList++(Rows.OpenSpec.upto Rows.applyOnceSpec).bare.plain.varTypes Tryz.pinned.checked.prog++f6.resultTypes.toList).any (Tryz.pinned.checked.prog.veiledRec ·)))=true:=by kernel_rfl
theorem sJ:(Rows.applyOnceUptoRow.veiledFits Tryz.pinned.checked.prog f6.params.toList (f6.params.toList++(Rows.OpenSpec.upto Rows.applyOnceSpec).bare.plain.varTypes Tryz.pinned.checked.prog++f6.resultTypes.toList))=true:=by kernel_rfl
theorem sK:joinedFacts Tryz.pinned.checked.prog 6 f6 (Rows.OpenSpec.upto Rows.applyOnceSpec).bare Rows.applyOnceUptoRow=true:=(bG (bG (bG (bG (bG (bG (bG (bG (bG (bG (bG (bG (bG (bG (bG (bG (bG (bG (bG (bG (bG (bG (bG (bG (bG (bG (bG (bG (bG (bG (bG rQ rR) rS) rT) rU) rV) rW) rX) rY) rZ) r4) r5) r6) r7) r8) r9) r_) si) sj) sn) su) sw) sx) sy) sC) sD) sE) sF) sG) sH) sI) sJ)
theorem sL:false=Rows.applyOnceUptoRow.goesBy Tryz.pinned.checked.prog:=by kernel_rfl
theorem inst:f6.isInstance Tryz.pinned.checked.prog Rows.applyOnceUptoRow.origin Rows.applyOnceUptoRow.targs:=gp (by kernel_rfl)
theorem wrap:f6.isWrapper Tryz.pinned.checked.prog Rows.applyOnceUptoRow.wrapper Rows.applyOnceUptoRow.mainSum:=by
  unfold Func.isWrapper;first|(rw[aO (by decide+kernel)];kernel_rfl)|(rw[aC (by decide+kernel)];exact⟨rfl,rfl⟩)
theorem sM:Tryz.pinned.checked.prog.funcNamed Rows.applyOnceUptoRow.func=some 6:=by kernel_rfl
theorem looks:false=Tryz.pinned.checked.prog.looks []:=by kernel_rfl
theorem sN:Rows.ApplyOnceUptoSaid:=
  OpenClaim.holds_of_cond 6 f6 rfl rfl rfl rfl rfl rfl rfl ⟨rfl,rfl,rfl,rfl,rfl⟩ rfl rfl rfl rfl rfl sM func6 sK inst wrap
    (fun os u H enc _ F=>by rw[OpenClaim.pre_eq_preRow];exact rP os u H enc F)
theorem plain (f:FuncId) (fn:Func) (hf:Tryz.pinned.checked.prog.funcNamed "stanchion/stanchionlaw13.ApplyOnce"=some f) (hfn:Tryz.pinned.checked.prog.funcs[f]?=some fn):
    false=Tryz.pinned.checked.prog.looks []∧∀(j:Nat) t,fn.params[j]?=some t→Tryz.pinned.checked.prog.wantsStandIn t=false:=by
  obtain rfl:f=6:=fK ((show prog.funcNamed "stanchion/stanchionlaw13.ApplyOnce"=some 6 by kernel_rfl).symm.trans hf) |>.symm
  obtain rfl:fn=f6:=(fK (func6.symm.trans hfn)).symm
  refine⟨looks,fun j t ht=>?_⟩
  rw[params6] at ht
  have hm:=Array.mem_of_getElem? ht
  have all:∀t∈(#[52,71,3]:Array TypeId),prog.wantsStandIn t=false:=by
    intro t ht
    have hl:t∈[52,71,3]:=by simpa using ht
    rcases ei.1 hl with rfl|hl;exact(show prog.wantsStandIn 52=false by kernel_rfl)
    rcases ei.1 hl with rfl|hl;exact(show prog.wantsStandIn 71=false by kernel_rfl)
    rcases ei.1 hl with rfl|hl;exact(show prog.wantsStandIn 3=false by kernel_rfl)
    cases hl
  exact all t hm
theorem cardUpto:Rows.ApplyOnceUptoCardSaid:=
  Claim7.holds_tied_plain_at .later [] _ _ _ _ sN (fun _ h=>by cases h) (by kernel_rfl) (fun _ h=>by cases h) applyOnceUpto_row_tie rfl ⟨rfl,rfl⟩ (by kernel_rfl) rfl plain sL
end Go.Proofs.YtceekbnihfckeaaGreatDoor.LawApplyOnce
