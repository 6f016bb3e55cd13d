/- Law ApplyGoesOn: where what it reads is of bulk at most 1048576, the law returns true and its input reads as it did; the tables that the row lists hold what the row says. Own text. -/
import Derived.Test.YtpacclkciilmpaaGreatDoorGOA
set_option maxHeartbeats 4000000
namespace Go.Proofs.YtpacclkciilmpaaGreatDoor.LawApplyGoesOn
open Go.Proofs.Tryz
open Go Go.ChangeShapes Go.WideShapes Go.ChangeAt Go.RowKit Go.Proofs.YtpacclkciilmpaaGreatDoor.Sw
set_option maxRecDepth 100000
set_option linter.unusedVariables false
set_option linter.unusedSimpArgs false
set_option linter.deprecated false
theorem own:ownKnob prog.godebug=none:=by kernel_rfl
theorem D4 (H:Type) (enc:TypeId×Value→H) (W:World) (oZ:Nat) (args:Array Value) (ds gs:List (DataW H)) (O:List MemPlace)
    (u:∀(j:Nat) t v,f3.params[j]?=some t→args[j]?=some v→Value.okWide prog W .any oZ t v)
    (D:DataW.Whole enc prog f3.params.toList Rows.applyGoesOnSpec.vars false W args.toList ds gs O) (U:∀k,(Rows.OpenSpec.upto Rows.applyGoesOnSpec).cond=some k→k H (ds++gs)=true)
    (hL:laidMetH prog Rows.applyGoesOnUptoRow.laid W) (V:W.ShapedOpen prog):
    Calls prog 3 args W fun e G=>∃v,e=.returned v∧Rows.applyGoesOnSpec.post enc prog f3 false true false false W args v G:=by
  have hb:Rows.uptoBulkAll (ds++gs)≤1048576:=iR (U _ rfl)
  have X:=D
  obtain⟨p,q,I,a3,rfl,a4,a5⟩:=D
  have hA:DataW.TrodAll enc prog W 0 (fun _=>true) true f3.params.toList args.toList ds p:=I
  clear I
  rw[params3] at hA u
  obtain⟨v0,a6,Y,a7,a8,a9,e0,rfl,rfl,h0,Z⟩:=trodAll_cons hA
  obtain⟨v1,bb,ab,bc,bd,be,e1,rfl,rfl,h1,r1⟩:=trodAll_cons Z
  obtain⟨rfl,rfl,rfl⟩:=trodAll_nil r1
  obtain rfl:args=#[v0,v1]:=by cases args;simp_all
  have ad:Rows.uptoBulk Y≤1048576:=cr (mW (by simp)) hb
  obtain⟨y0,ae,bi,am⟩:=AP (gY.sl D2 underlying22 (by kernel_rfl) (by decide)) underlying22 (u 0 22 _ rfl rfl) h0 ad
  have ar:Rows.uptoBulk ab≤1048576:=cr (mW (by simp)) hb
  obtain⟨y1,s1,k1,l1⟩:=AP (gY.sl D2 underlying22 (by kernel_rfl) (by decide)) underlying22 (u 1 22 _ rfl rfl) h1 ar
  have aw:laidMet prog Rows.applyGoesOnUptoRow.laid W:=hL
  have J:=AQ (AQ (aw))
  have hT:(Rows.laid_internal_strconv_uint64pow10:DataW Unit)=Lib.tabData .u64 Lib.pow10Tab:=by kernel_rfl
  rw[hT] at J
  have hP:=LA J
  exact LF (Uq W W.heap (oY W) (Lv W) (Lz V) _ y0 ae _ y1 s1 hP (by omega) (by omega) (by exact fun z hz=>(by have h9:=am z hz;exact⟨by have:=h9.1;omega,by have:=h9.2.1;omega⟩)) (by exact fun z hz=>(by have h9:=l1 z hz;exact⟨by have:=h9.1;omega,by have:=h9.2.1;omega⟩))) fun G a0 a1 hold=>
    ⟨_,rfl,Lx (tb:=4) (by kernel_rfl) (by kernel_rfl) (by kernel_rfl) (by rw[params3];decide) rfl (by kernel_rfl) underlying4 (fun h=>by subst h;rfl) X a0 a1 hold⟩
noncomputable def uh (os:Os):World:=
  let w:=World.holding prog os ⟨#[],#[],[]⟩
  let put (h:av) (b:Nat) (cs:Array Value):av:=h.modify b fun|.cells _ t fz=>.cells cs t fz|o=>o
  {w with heap:=(put (put (put (put (put w.heap 4 ((([0,1,28,2,29,14,24,3,30,22,20,15,25,17,4,8,31,27,13,23,21,19,16,7,26,12,18,6,11,5,10,9]:List Int)).map fun z=>Value.int .u8 z).toArray) 5 ((([0,1,56,2,57,49,28,3,61,58,42,50,38,29,17,4,62,47,59,36,45,43,51,22,53,39,33,30,24,18,12,5,63,55,48,27,60,41,37,16,46,35,44,21,52,32,23,11,54,26,40,15,34,20,31,10,25,14,19,9,13,8,7,6]:List Int)).map fun z=>Value.int .u8 z).toArray) 1 (Lib.pow10Tab.map fun z=>Value.int .u64 z).toArray) 3 ((([128,191,160,191,128,159,144,191,128,143,0,0,0,0,0,0,0,0,0,0,0,0,0,0,0,0,0,0,0,0,0,0]:List Int)).map fun z=>Value.int .u8 z).toArray) 2 (Go.Pinned.utf8FirstZ.map fun z=>Value.int .u8 (Int.ofNat z)).toArray)}
theorem D5 (os:Os):laidMet prog Rows.applyGoesOnUptoRow.laid ((uh os).forCall (fun _ _=>0) ⟨#[],#[.slice none 0 0,.slice none 0 0],[]⟩).memory:=
  laidMet_of_run' 8 (by kernel_rfl) (by kernel_rfl)
theorem D6 (os:Os) {H:Type} (enc:TypeId×Value→H):∃u,DataW.whole enc prog ((uh os).forCall (fun _ _=>0) ⟨#[],#[.slice none 0 0,.slice none 0 0],[]⟩).memory f3.params.toList Rows.applyGoesOnSpec.vars false (#[.slice none 0 0,.slice none 0 0]:Array Value).toList 8=some ([.nil,.nil],[],u):=
  ⟨[],by kernel_rfl⟩
theorem D7 (os:Os) (u:os.Started) (H:Type) (enc:TypeId×Value→H) (F:Stop.Interp):
    ReturnsInHanded {} checked os 3 .any ((Rows.OpenSpec.upto Rows.applyGoesOnSpec).preRow enc prog f3 Rows.applyGoesOnUptoRow.domain false Rows.applyGoesOnUptoRow.laid) (((Rows.OpenSpec.upto Rows.applyGoesOnSpec).at F).post enc prog f3 false true false false):=by
  obtain⟨U,hx⟩:=D6 os enc
  refine returnsInHanded_of_row (C:=checked) (s:=Rows.OpenSpec.upto Rows.applyGoesOnSpec) own u (by kernel_rfl) func3
    (witness_row_at (enc:=enc) (C:=checked) false (uh os) #[.slice none 0 0,.slice none 0 0] rfl (by kernel_rfl) (by kernel_rfl) (by kernel_rfl)
      (OpenSpec.preRow_of_cond 8 hx (by kernel_rfl) (fun k hk=>by cases hk;kernel_rfl) (by kernel_rfl) (D5 os))) ?_
  intro W oZ args ds gs D G I _ J _ hL O _
  exact D4 H enc W oZ args ds gs D G I J hL O
theorem dz {a b:Bool} (h:a=true) (k:b=true):(a&&b)=true:=by rw[h,k];rfl
theorem D8:(Rows.applyGoesOnUptoRow.wf (OpenSpec.ofChange (Rows.OpenSpec.upto Rows.applyGoesOnSpec).bare))=true:=by kernel_rfl
theorem D9:(laidOutB Tryz.pinned.checked.prog)=true:=by kernel_rfl
theorem D_:(mapsRowed Tryz.pinned.checked.prog)=true:=by kernel_rfl
theorem Ea:(f3.params.all (Tryz.pinned.checked.prog.readableRec ·))=true:=by kernel_rfl
theorem Eb:(namedTie Tryz.pinned.checked.prog Rows.applyGoesOnUptoRow.named (Rows.OpenSpec.upto Rows.applyGoesOnSpec).bare.vars)=true:=by kernel_rfl
theorem Ec:((Rows.applyGoesOnUptoRow.stops==[]))=true:=by kernel_rfl
theorem Ed:((Tryz.pinned.checked.prog.stops==[]))=true:=by kernel_rfl
theorem Ee:((Rows.applyGoesOnUptoRow.knobs==[]))=true:=by kernel_rfl
theorem Ef:((Tryz.pinned.checked.prog.stopKnobs==[]))=true:=by kernel_rfl
theorem Eg:((Rows.applyGoesOnUptoRow.inPlace==Tryz.pinned.checked.prog.inPlace 3))=true:=by kernel_rfl
theorem Eh:((Rows.applyGoesOnUptoRow.unfollowed==Tryz.pinned.checked.prog.unfollowed 3))=true:=by kernel_rfl
theorem Ei:((Rows.applyGoesOnUptoRow.recurses==Tryz.pinned.checked.prog.recurses 3))=true:=by kernel_rfl
theorem Ej:((Rows.applyGoesOnUptoRow.named==Tryz.pinned.checked.prog.varsNamed 3))=true:=by kernel_rfl
theorem Ek:((Rows.applyGoesOnUptoRow.maps==(f3.params.toList++(Rows.OpenSpec.upto Rows.applyGoesOnSpec).bare.plain.varTypes Tryz.pinned.checked.prog).any (Tryz.pinned.checked.prog.mapsRec ·)))=true:=by kernel_rfl
theorem El:((Rows.applyGoesOnUptoRow.ifaces==(f3.params.toList++(Rows.OpenSpec.upto Rows.applyGoesOnSpec).bare.plain.varTypes Tryz.pinned.checked.prog).any (Tryz.pinned.checked.prog.ifacesRec ·)))=true:=by kernel_rfl
theorem Em:((Rows.applyGoesOnUptoRow.mapsOut==Tryz.pinned.checked.prog.mapsAmong f3.resultTypes.toList))=true:=by kernel_rfl
theorem En:((Rows.applyGoesOnUptoRow.loops==(f3.params.toList++(Rows.OpenSpec.upto Rows.applyGoesOnSpec).bare.plain.varTypes Tryz.pinned.checked.prog).any (Tryz.pinned.checked.prog.loopsFrom ·)))=true:=by kernel_rfl
theorem Eo:((Rows.applyGoesOnUptoRow.wideKeys==(f3.params.toList++(Rows.OpenSpec.upto Rows.applyGoesOnSpec).bare.plain.varTypes Tryz.pinned.checked.prog++f3.resultTypes.toList).any (Tryz.pinned.checked.prog.wideKeysFrom ·)))=true:=by kernel_rfl
theorem Ep:((Rows.OpenSpec.upto Rows.applyGoesOnSpec).bare.vars.all (Tryz.pinned.checked.prog.varReadable ·))=true:=by kernel_rfl
theorem Er:(f3.resultTypes.all (fun t=>Tryz.pinned.checked.prog.readableRec t&&decide (t<Tryz.pinned.checked.prog.types.size)))=true:=by kernel_rfl
theorem Es:((Rows.applyGoesOnUptoRow.ifacesOut==f3.resultTypes.toList.any (Tryz.pinned.checked.prog.ifacesRec ·)))=true:=by kernel_rfl
theorem Et:((Rows.applyGoesOnUptoRow.loopsOut==f3.resultTypes.toList.any (Tryz.pinned.checked.prog.loopsFrom ·)))=true:=by kernel_rfl
theorem Eu:((Rows.applyGoesOnUptoRow.plainKeys==Tryz.pinned.checked.prog.plainKeys))=true:=by kernel_rfl
theorem Ev:(Rows.applyGoesOnUptoRow.shortTexts.isNone)=true:=by kernel_rfl
theorem Ew:(Tryz.pinned.checked.prog.stopsHeard)=true:=by kernel_rfl
theorem Ex:(Tryz.pinned.checked.prog.mayEnter)=true:=by kernel_rfl
theorem Ey:((Rows.applyGoesOnUptoRow.lifted==Tryz.pinned.checked.prog.liftsFinal))=true:=by kernel_rfl
theorem Ez:((Tryz.pinned.checked.prog.make==some Rows.applyGoesOnUptoRow.make))=true:=by kernel_rfl
theorem EA:((Rows.applyGoesOnUptoRow.kinds==(if Rows.applyGoesOnUptoRow.domain.isEmpty then [] else f3.params.toList.map fun t=>match Tryz.pinned.checked.prog.underlying t with|some (.int k)=>some k|_=>none)))=true:=by kernel_rfl
theorem EB:((Rows.applyGoesOnUptoRow.pinned==Rows.applyGoesOnUptoRow.pinnedBy))=true:=by kernel_rfl
theorem EC:((Rows.applyGoesOnUptoRow.veiled==(f3.params.toList++(Rows.OpenSpec.upto Rows.applyGoesOnSpec).bare.plain.varTypes Tryz.pinned.checked.prog++f3.resultTypes.toList).any (Tryz.pinned.checked.prog.veiledRec ·)))=true:=by kernel_rfl
theorem ED:(Rows.applyGoesOnUptoRow.veiledFits Tryz.pinned.checked.prog f3.params.toList (f3.params.toList++(Rows.OpenSpec.upto Rows.applyGoesOnSpec).bare.plain.varTypes Tryz.pinned.checked.prog++f3.resultTypes.toList))=true:=by kernel_rfl
theorem EE:joinedFacts Tryz.pinned.checked.prog 3 f3 (Rows.OpenSpec.upto Rows.applyGoesOnSpec).bare Rows.applyGoesOnUptoRow=true:=(dz (dz (dz (dz (dz (dz (dz (dz (dz (dz (dz (dz (dz (dz (dz (dz (dz (dz (dz (dz (dz (dz (dz (dz (dz (dz (dz (dz (dz (dz (dz D8 D9) D_) Ea) Eb) Ec) Ed) Ee) Ef) Eg) Eh) Ei) Ej) Ek) El) Em) En) Eo) Ep) Er) Es) Et) Eu) Ev) Ew) Ex) Ey) Ez) EA) EB) EC) ED)
theorem EF:false=Rows.applyGoesOnUptoRow.goesBy Tryz.pinned.checked.prog:=by kernel_rfl
theorem inst:f3.isInstance Tryz.pinned.checked.prog Rows.applyGoesOnUptoRow.origin Rows.applyGoesOnUptoRow.targs:=iR (by kernel_rfl)
theorem wrap:f3.isWrapper Tryz.pinned.checked.prog Rows.applyGoesOnUptoRow.wrapper Rows.applyGoesOnUptoRow.mainSum:=by
  unfold Func.isWrapper;first|(rw[aL (by decide+kernel)];kernel_rfl)|(rw[aB (by decide+kernel)];exact⟨rfl,rfl⟩)
theorem EG:Tryz.pinned.checked.prog.funcNamed Rows.applyGoesOnUptoRow.func=some 3:=by kernel_rfl
theorem looks:false=Tryz.pinned.checked.prog.looks []:=by kernel_rfl
theorem EH:Rows.ApplyGoesOnUptoSaid:=
  OpenClaim.holds_of_cond 3 f3 rfl rfl rfl rfl rfl rfl rfl ⟨rfl,rfl,rfl,rfl,rfl⟩ rfl rfl rfl rfl rfl EG func3 EE inst wrap
    (fun os u H enc _ F=>by rw[OpenClaim.pre_eq_preRow];exact D7 os u H enc F)
theorem plain (f:FuncId) (fn:Func) (hf:Tryz.pinned.checked.prog.funcNamed "stanchion/stanchionlaw13.ApplyGoesOn"=some f) (hfn:Tryz.pinned.checked.prog.funcs[f]?=some fn):
    false=Tryz.pinned.checked.prog.looks []∧∀(j:Nat) t,fn.params[j]?=some t→Tryz.pinned.checked.prog.wantsStandIn t=false:=by
  obtain rfl:f=3:=fT ((show prog.funcNamed "stanchion/stanchionlaw13.ApplyGoesOn"=some 3 by kernel_rfl).symm.trans hf) |>.symm
  obtain rfl:fn=f3:=(fT (func3.symm.trans hfn)).symm
  refine⟨looks,fun j t ht=>?_⟩
  rw[params3] at ht
  have hm:=Array.mem_of_getElem? ht
  have all:∀t∈(#[22,22]:Array TypeId),prog.wantsStandIn t=false:=by
    intro t ht
    have hl:t∈[22,22]:=by simpa using ht
    rcases fe.1 hl with rfl|hl;exact(show prog.wantsStandIn 22=false by kernel_rfl)
    rcases fe.1 hl with rfl|hl;exact(show prog.wantsStandIn 22=false by kernel_rfl)
    cases hl
  exact all t hm
theorem cardUpto:Rows.ApplyGoesOnUptoCardSaid:=
  Claim7.holds_tied_plain_at .later [] _ _ _ _ EH (fun _ h=>by cases h) (by kernel_rfl) (fun _ h=>by cases h) applyGoesOnUpto_row_tie rfl ⟨rfl,rfl⟩ (by kernel_rfl) rfl plain EF
end Go.Proofs.YtpacclkciilmpaaGreatDoor.LawApplyGoesOn
