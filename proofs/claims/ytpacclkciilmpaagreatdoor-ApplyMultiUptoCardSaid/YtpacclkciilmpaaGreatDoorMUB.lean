/- Law ApplyMulti: where what it reads is of bulk at most 1048576, the law returns true and its input reads as it did; the tables that the row lists hold what the row says. Own text. -/
import Derived.Test.YtpacclkciilmpaaGreatDoorMUA
set_option maxHeartbeats 4000000
namespace Go.Proofs.YtpacclkciilmpaaGreatDoor.LawApplyMulti
open Go.Proofs.Tryz
open Go Go.ChangeShapes Go.WideShapes Go.ChangeAt Go.RowKit Go.Proofs.YtpacclkciilmpaaGreatDoor.Sw
set_option maxRecDepth 100000
set_option linter.unusedVariables false
set_option linter.unusedSimpArgs false
set_option linter.deprecated false
theorem own:ownKnob prog.godebug=none:=by kernel_rfl
theorem D4 (H:Type) (enc:TypeId×Value→H) (W:World) (oZ:Nat) (args:Array Value) (ds gs:List (DataW H)) (O:List MemPlace)
    (u:∀(j:Nat) t v,f4.params[j]?=some t→args[j]?=some v→Value.okWide prog W .any oZ t v)
    (D:DataW.Whole enc prog f4.params.toList Rows.applyMultiSpec.vars false W args.toList ds gs O) (U:∀k,(Rows.OpenSpec.upto Rows.applyMultiSpec).cond=some k→k H (ds++gs)=true)
    (hL:laidMetH prog Rows.applyMultiUptoRow.laid W) (V:W.ShapedOpen prog):
    Calls prog 4 args W fun e G=>∃v,e=.returned v∧Rows.applyMultiSpec.post enc prog f4 false true false false W args v G:=by
  have hb:Rows.uptoBulkAll (ds++gs)≤1048576:=iR (U _ rfl)
  have X:=D
  obtain⟨p,q,I,a6,rfl,a7,a8⟩:=D
  have hA:DataW.TrodAll enc prog W 0 (fun _=>true) true f4.params.toList args.toList ds p:=I
  clear I
  rw[params4] at hA u
  obtain⟨v0,a9,Y,bb,bc,bd,e0,rfl,rfl,h0,Z⟩:=trodAll_cons hA
  obtain⟨v1,be,ab,bi,bj,bk,e1,rfl,rfl,h1,r1⟩:=trodAll_cons Z
  obtain⟨v2,bm,d2,bo,bs,bt,e2,rfl,rfl,h2,ad⟩:=trodAll_cons r1
  obtain⟨rfl,rfl,rfl⟩:=trodAll_nil ad
  obtain rfl:args=#[v0,v1,v2]:=by cases args;simp_all
  have ae:Rows.uptoBulk Y≤1048576:=cr (mW (by simp)) hb
  obtain⟨y0,am,b3,ar⟩:=AP (gY.sl D2 underlying22 (by kernel_rfl) (by decide)) underlying22 (u 0 22 _ rfl rfl) h0 ae
  have aw:Rows.uptoBulk ab≤1048576:=cr (mW (by simp)) hb
  obtain⟨y1,rfl,k1,l1⟩:=UD underlying3 (u 1 3 _ rfl rfl) h1 aw
  replace k1: -9223372036854775808≤y1:=k1
  replace l1:y1≤9223372036854775807:=l1
  have a0:Rows.uptoBulk d2≤1048576:=cr (mW (by simp)) hb
  obtain⟨y2,s2,k2,a1⟩:=AP (gY.sl UF underlying34 (by kernel_rfl) (by decide)) underlying34 (u 2 34 _ rfl rfl) h2 a0
  have a3:laidMet prog Rows.applyMultiUptoRow.laid W:=hL
  have J:=AQ (AQ (a3))
  have hT:(Rows.laid_internal_strconv_uint64pow10:DataW Unit)=Lib.tabData .u64 Lib.pow10Tab:=by kernel_rfl
  rw[hT] at J
  have hP:=LA J
  exact LF (UU W W.heap (oY W) (Lv W) (Lz V) _ y0 am y1 _ y2 s2 hP (by omega) (by exact fun z hz=>(by have h9:=ar z hz;exact⟨by have:=h9.1;omega,by have:=h9.2.1;omega⟩)) (by omega) (by exact fun z hz=>cr (a1 z hz) (by decide))) fun G a4 a5 hold=>
    ⟨_,rfl,Lx (tb:=4) (by kernel_rfl) (by kernel_rfl) (by kernel_rfl) (by rw[params4];decide) rfl (by kernel_rfl) underlying4 (fun h=>by subst h;rfl) X a4 a5 hold⟩
noncomputable def uh (os:Os):World:=
  let w:=World.holding prog os ⟨#[],#[],[]⟩
  let put (h:av) (b:Nat) (cs:Array Value):av:=h.modify b fun|.cells _ t fz=>.cells cs t fz|o=>o
  {w with heap:=(put (put (put (put (put w.heap 4 ((([0,1,28,2,29,14,24,3,30,22,20,15,25,17,4,8,31,27,13,23,21,19,16,7,26,12,18,6,11,5,10,9]:List Int)).map fun z=>Value.int .u8 z).toArray) 5 ((([0,1,56,2,57,49,28,3,61,58,42,50,38,29,17,4,62,47,59,36,45,43,51,22,53,39,33,30,24,18,12,5,63,55,48,27,60,41,37,16,46,35,44,21,52,32,23,11,54,26,40,15,34,20,31,10,25,14,19,9,13,8,7,6]:List Int)).map fun z=>Value.int .u8 z).toArray) 1 (Lib.pow10Tab.map fun z=>Value.int .u64 z).toArray) 3 ((([128,191,160,191,128,159,144,191,128,143,0,0,0,0,0,0,0,0,0,0,0,0,0,0,0,0,0,0,0,0,0,0]:List Int)).map fun z=>Value.int .u8 z).toArray) 2 (Go.Pinned.utf8FirstZ.map fun z=>Value.int .u8 (Int.ofNat z)).toArray)}
theorem D5 (os:Os):laidMet prog Rows.applyMultiUptoRow.laid ((uh os).forCall (fun _ _=>0) ⟨#[],#[.slice none 0 0,.int .i64 0,.slice none 0 0],[]⟩).memory:=
  laidMet_of_run' 8 (by kernel_rfl) (by kernel_rfl)
theorem D6 (os:Os) {H:Type} (enc:TypeId×Value→H):∃u,DataW.whole enc prog ((uh os).forCall (fun _ _=>0) ⟨#[],#[.slice none 0 0,.int .i64 0,.slice none 0 0],[]⟩).memory f4.params.toList Rows.applyMultiSpec.vars false (#[.slice none 0 0,.int .i64 0,.slice none 0 0]:Array Value).toList 8=some ([.nil,.lit (.int .i64 0),.nil],[],u):=
  ⟨[],by kernel_rfl⟩
theorem D7 (os:Os) (u:os.Started) (H:Type) (enc:TypeId×Value→H) (F:Stop.Interp):
    ReturnsInHanded {} checked os 4 .any ((Rows.OpenSpec.upto Rows.applyMultiSpec).preRow enc prog f4 Rows.applyMultiUptoRow.domain false Rows.applyMultiUptoRow.laid) (((Rows.OpenSpec.upto Rows.applyMultiSpec).at F).post enc prog f4 false true false false):=by
  obtain⟨U,hx⟩:=D6 os enc
  refine returnsInHanded_of_row (C:=checked) (s:=Rows.OpenSpec.upto Rows.applyMultiSpec) own u (by kernel_rfl) func4
    (witness_row_at (enc:=enc) (C:=checked) false (uh os) #[.slice none 0 0,.int .i64 0,.slice none 0 0] rfl (by kernel_rfl) (by kernel_rfl) (by kernel_rfl)
      (OpenSpec.preRow_of_cond 8 hx (by kernel_rfl) (fun k hk=>by cases hk;kernel_rfl) (by kernel_rfl) (D5 os))) ?_
  intro W oZ args ds gs D G I _ J _ hL O _
  exact D4 H enc W oZ args ds gs D G I J hL O
theorem dz {a b:Bool} (h:a=true) (k:b=true):(a&&b)=true:=by rw[h,k];rfl
theorem D8:(Rows.applyMultiUptoRow.wf (OpenSpec.ofChange (Rows.OpenSpec.upto Rows.applyMultiSpec).bare))=true:=by kernel_rfl
theorem D9:(laidOutB Tryz.pinned.checked.prog)=true:=by kernel_rfl
theorem D_:(mapsRowed Tryz.pinned.checked.prog)=true:=by kernel_rfl
theorem Ea:(f4.params.all (Tryz.pinned.checked.prog.readableRec ·))=true:=by kernel_rfl
theorem Eb:(namedTie Tryz.pinned.checked.prog Rows.applyMultiUptoRow.named (Rows.OpenSpec.upto Rows.applyMultiSpec).bare.vars)=true:=by kernel_rfl
theorem Ec:((Rows.applyMultiUptoRow.stops==[]))=true:=by kernel_rfl
theorem Ed:((Tryz.pinned.checked.prog.stops==[]))=true:=by kernel_rfl
theorem Ee:((Rows.applyMultiUptoRow.knobs==[]))=true:=by kernel_rfl
theorem Ef:((Tryz.pinned.checked.prog.stopKnobs==[]))=true:=by kernel_rfl
theorem Eg:((Rows.applyMultiUptoRow.inPlace==Tryz.pinned.checked.prog.inPlace 4))=true:=by kernel_rfl
theorem Eh:((Rows.applyMultiUptoRow.unfollowed==Tryz.pinned.checked.prog.unfollowed 4))=true:=by kernel_rfl
theorem Ei:((Rows.applyMultiUptoRow.recurses==Tryz.pinned.checked.prog.recurses 4))=true:=by kernel_rfl
theorem Ej:((Rows.applyMultiUptoRow.named==Tryz.pinned.checked.prog.varsNamed 4))=true:=by kernel_rfl
theorem Ek:((Rows.applyMultiUptoRow.maps==(f4.params.toList++(Rows.OpenSpec.upto Rows.applyMultiSpec).bare.plain.varTypes Tryz.pinned.checked.prog).any (Tryz.pinned.checked.prog.mapsRec ·)))=true:=by kernel_rfl
theorem El:((Rows.applyMultiUptoRow.ifaces==(f4.params.toList++(Rows.OpenSpec.upto Rows.applyMultiSpec).bare.plain.varTypes Tryz.pinned.checked.prog).any (Tryz.pinned.checked.prog.ifacesRec ·)))=true:=by kernel_rfl
theorem Em:((Rows.applyMultiUptoRow.mapsOut==Tryz.pinned.checked.prog.mapsAmong f4.resultTypes.toList))=true:=by kernel_rfl
theorem En:((Rows.applyMultiUptoRow.loops==(f4.params.toList++(Rows.OpenSpec.upto Rows.applyMultiSpec).bare.plain.varTypes Tryz.pinned.checked.prog).any (Tryz.pinned.checked.prog.loopsFrom ·)))=true:=by kernel_rfl
theorem Eo:((Rows.applyMultiUptoRow.wideKeys==(f4.params.toList++(Rows.OpenSpec.upto Rows.applyMultiSpec).bare.plain.varTypes Tryz.pinned.checked.prog++f4.resultTypes.toList).any (Tryz.pinned.checked.prog.wideKeysFrom ·)))=true:=by kernel_rfl
theorem Ep:((Rows.OpenSpec.upto Rows.applyMultiSpec).bare.vars.all (Tryz.pinned.checked.prog.varReadable ·))=true:=by kernel_rfl
theorem Er:(f4.resultTypes.all (fun t=>Tryz.pinned.checked.prog.readableRec t&&decide (t<Tryz.pinned.checked.prog.types.size)))=true:=by kernel_rfl
theorem Es:((Rows.applyMultiUptoRow.ifacesOut==f4.resultTypes.toList.any (Tryz.pinned.checked.prog.ifacesRec ·)))=true:=by kernel_rfl
theorem Et:((Rows.applyMultiUptoRow.loopsOut==f4.resultTypes.toList.any (Tryz.pinned.checked.prog.loopsFrom ·)))=true:=by kernel_rfl
theorem Eu:((Rows.applyMultiUptoRow.plainKeys==Tryz.pinned.checked.prog.plainKeys))=true:=by kernel_rfl
theorem Ev:(Rows.applyMultiUptoRow.shortTexts.isNone)=true:=by kernel_rfl
theorem Ew:(Tryz.pinned.checked.prog.stopsHeard)=true:=by kernel_rfl
theorem Ex:(Tryz.pinned.checked.prog.mayEnter)=true:=by kernel_rfl
theorem Ey:((Rows.applyMultiUptoRow.lifted==Tryz.pinned.checked.prog.liftsFinal))=true:=by kernel_rfl
theorem Ez:((Tryz.pinned.checked.prog.make==some Rows.applyMultiUptoRow.make))=true:=by kernel_rfl
theorem EA:((Rows.applyMultiUptoRow.kinds==(if Rows.applyMultiUptoRow.domain.isEmpty then [] else f4.params.toList.map fun t=>match Tryz.pinned.checked.prog.underlying t with|some (.int k)=>some k|_=>none)))=true:=by kernel_rfl
theorem EB:((Rows.applyMultiUptoRow.pinned==Rows.applyMultiUptoRow.pinnedBy))=true:=by kernel_rfl
theorem EC:((Rows.applyMultiUptoRow.veiled==(f4.params.toList++(Rows.OpenSpec.upto Rows.applyMultiSpec).bare.plain.varTypes Tryz.pinned.checked.prog++f4.resultTypes.toList).any (Tryz.pinned.checked.prog.veiledRec ·)))=true:=by kernel_rfl
theorem ED:(Rows.applyMultiUptoRow.veiledFits Tryz.pinned.checked.prog f4.params.toList (f4.params.toList++(Rows.OpenSpec.upto Rows.applyMultiSpec).bare.plain.varTypes Tryz.pinned.checked.prog++f4.resultTypes.toList))=true:=by kernel_rfl
theorem EE:joinedFacts Tryz.pinned.checked.prog 4 f4 (Rows.OpenSpec.upto Rows.applyMultiSpec).bare Rows.applyMultiUptoRow=true:=(dz (dz (dz (dz (dz (dz (dz (dz (dz (dz (dz (dz (dz (dz (dz (dz (dz (dz (dz (dz (dz (dz (dz (dz (dz (dz (dz (dz (dz (dz (dz D8 D9) D_) Ea) Eb) Ec) Ed) Ee) Ef) Eg) Eh) Ei) Ej) Ek) El) Em) En) Eo) Ep) Er) Es) Et) Eu) Ev) Ew) Ex) Ey) Ez) EA) EB) EC) ED)
theorem EF:false=Rows.applyMultiUptoRow.goesBy Tryz.pinned.checked.prog:=by kernel_rfl
theorem inst:f4.isInstance Tryz.pinned.checked.prog Rows.applyMultiUptoRow.origin Rows.applyMultiUptoRow.targs:=iR (by kernel_rfl)
theorem wrap:f4.isWrapper Tryz.pinned.checked.prog Rows.applyMultiUptoRow.wrapper Rows.applyMultiUptoRow.mainSum:=by
  unfold Func.isWrapper;first|(rw[aL (by decide+kernel)];kernel_rfl)|(rw[aB (by decide+kernel)];exact⟨rfl,rfl⟩)
theorem EG:Tryz.pinned.checked.prog.funcNamed Rows.applyMultiUptoRow.func=some 4:=by kernel_rfl
theorem looks:false=Tryz.pinned.checked.prog.looks []:=by kernel_rfl
theorem EH:Rows.ApplyMultiUptoSaid:=
  OpenClaim.holds_of_cond 4 f4 rfl rfl rfl rfl rfl rfl rfl ⟨rfl,rfl,rfl,rfl,rfl⟩ rfl rfl rfl rfl rfl EG func4 EE inst wrap
    (fun os u H enc _ F=>by rw[OpenClaim.pre_eq_preRow];exact D7 os u H enc F)
theorem plain (f:FuncId) (fn:Func) (hf:Tryz.pinned.checked.prog.funcNamed "stanchion/stanchionlaw13.ApplyMulti"=some f) (hfn:Tryz.pinned.checked.prog.funcs[f]?=some fn):
    false=Tryz.pinned.checked.prog.looks []∧∀(j:Nat) t,fn.params[j]?=some t→Tryz.pinned.checked.prog.wantsStandIn t=false:=by
  obtain rfl:f=4:=fT ((show prog.funcNamed "stanchion/stanchionlaw13.ApplyMulti"=some 4 by kernel_rfl).symm.trans hf) |>.symm
  obtain rfl:fn=f4:=(fT (func4.symm.trans hfn)).symm
  refine⟨looks,fun j t ht=>?_⟩
  rw[params4] at ht
  have hm:=Array.mem_of_getElem? ht
  have all:∀t∈(#[22,3,34]:Array TypeId),prog.wantsStandIn t=false:=by
    intro t ht
    have hl:t∈[22,3,34]:=by simpa using ht
    rcases fe.1 hl with rfl|hl;exact(show prog.wantsStandIn 22=false by kernel_rfl)
    rcases fe.1 hl with rfl|hl;exact(show prog.wantsStandIn 3=false by kernel_rfl)
    rcases fe.1 hl with rfl|hl;exact(show prog.wantsStandIn 34=false by kernel_rfl)
    cases hl
  exact all t hm
theorem cardUpto:Rows.ApplyMultiUptoCardSaid:=
  Claim7.holds_tied_plain_at .later [] _ _ _ _ EH (fun _ h=>by cases h) (by kernel_rfl) (fun _ h=>by cases h) applyMultiUpto_row_tie rfl ⟨rfl,rfl⟩ (by kernel_rfl) rfl plain EF
end Go.Proofs.YtpacclkciilmpaaGreatDoor.LawApplyMulti
