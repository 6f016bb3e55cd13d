/- Law ScriptShows: where what it reads is of bulk at most 1048576, the law returns true and its input reads as it did; the tables that the row lists hold what the row says. Own text. -/
import Derived.Test.YtmjebehhpojihaaGreatDoorCShowsQ
namespace Go.Proofs.YtmjebehhpojihaaGreatDoor.LawScriptShows
open Go Go.ChangeShapes Go.WideShapes Go.ChangeAt Go.RowKit Go.Proofs.YtmjebehhpojihaaGreatDoor.Sw
set_option maxRecDepth 100000
set_option linter.unusedVariables false
set_option linter.unusedSimpArgs false
set_option linter.deprecated false
theorem own : ownKnob Tryz.prog.godebug = none := by kernel_rfl
theorem contract (H : Type) (enc : TypeId × Value → H) (W : World) (base : Nat) (args : Array Value) (ds gs : List (DataW H)) (before : List MemPlace)
    (hval : ∀ (j : Nat) t v, Tryz.f4.params[j]? = some t → args[j]? = some v → Value.okWide Tryz.prog W .any base t v)
    (hW : DataW.Whole enc Tryz.prog Tryz.f4.params.toList Rows.scriptShowsSpec.vars false W args.toList ds gs before) (hcond : ∀ k, (Rows.OpenSpec.upto Rows.scriptShowsSpec).cond = some k → k H (ds ++ gs) = true)
    (hL : laidMetH Tryz.prog Rows.scriptShowsUptoRow.laid W) (hsh : W.ShapedOpen Tryz.prog) :
    Calls Tryz.prog 4 args W fun e W' => ∃ v, e = .returned v ∧ Rows.scriptShowsSpec.post enc Tryz.prog Tryz.f4 false true false false W args v W' := by
  have hb : Rows.uptoBulkAll (ds ++ gs) ≤ 1048576 := of_decide_eq_true (hcond _ rfl)
  have hW0 := hW
  obtain ⟨p, q, hA0, hV, rfl, hfz, hnd⟩ := hW
  have hA : DataW.TrodAll enc Tryz.prog W 0 (fun _ => true) true Tryz.f4.params.toList args.toList ds p := hA0
  clear hA0
  rw [Tryz.params4] at hA hval
  obtain ⟨v0, vs0, d0, ds0, p0, q0, e0, rfl, rfl, h0, r0⟩ := trodAll_cons hA
  obtain ⟨v1, vs1, d1, ds1, p1, q1, e1, rfl, rfl, h1, r1⟩ := trodAll_cons r0
  obtain ⟨rfl, rfl, rfl⟩ := trodAll_nil r1
  obtain rfl : args = #[v0, v1] := by cases args; simp_all
  have m0 : Rows.uptoBulk d0 ≤ 1048576 := Nat.le_trans (bulk_mem (by simp)) hb
  obtain ⟨y0, s0, k0, l0⟩ := arg_sl (Opn.sl opnStep Tryz.underlying23 (by kernel_rfl) (by decide)) Tryz.underlying23 (hval 0 23 _ rfl rfl) h0 m0
  have m1 : Rows.uptoBulk d1 ≤ 1048576 := Nat.le_trans (bulk_mem (by simp)) hb
  obtain ⟨y1, cs1, rfl, k1, l1⟩ := arg_st opnEvent Tryz.underlying31 (hval 1 31 _ rfl rfl) h1 m1
  obtain ⟨w1_0, w1_1, t1_0, t1_1, e9_1⟩ := k1
  obtain rfl := (Array.toArray_toList).symm.trans (congrArg List.toArray e9_1)
  have hL1 : laidMet Tryz.prog Rows.scriptShowsUptoRow.laid W := hL
  have hL2 := laid_tail (laid_tail (hL1))
  have hT : (Rows.laid_internal_strconv_uint64pow10 : DataW Unit) = Lib.tabData .u64 Lib.pow10Tab := by kernel_rfl
  rw [hT] at hL2
  have hP := pow10_of hL2
  exact calls_of (lawShows24 W W.heap (gOf W) (sub_gOf W) (glob_of hsh) _ y0 s0 y1 _ t1_0 _ t1_1 hP (by omega) (by exact fun st hs => (by obtain ⟨a1, a2, a3, a4, ⟨a5, a6⟩, ⟨a7, _⟩, ⟨a8, a9⟩⟩ := l0 st hs; exact ⟨a1, a2, a3, a4, a5, a6, by omega, by omega, a9⟩)) (by obtain ⟨a1, a2, a3, a4, ⟨a5, _⟩, ⟨a6, _⟩⟩ := l1; exact ⟨a1, a2, a3, a4, by omega, by omega⟩)) fun W' hos hout hold =>
    ⟨_, rfl, post_true (tb := 4) (by kernel_rfl) (by kernel_rfl) (by kernel_rfl) (by rw [Tryz.params4]; decide) rfl (by kernel_rfl) Tryz.underlying4 (fun h => by subst h; rfl) hW0 hos hout hold⟩
noncomputable def low : Nat := (World.holding Tryz.prog default ⟨#[], #[], []⟩).heap.size
noncomputable def laidWorld (os : Os) : World :=
  let w := World.holding Tryz.prog os ⟨#[.cells #[.string ⟨#[118, 97, 108, 117, 101, 32, 111, 117, 116, 32, 111, 102, 32, 114, 97, 110, 103, 101]⟩] 266, .cells #[.string ⟨#[105, 110, 118, 97, 108, 105, 100, 32, 115, 121, 110, 116, 97, 120]⟩] 266], #[], []⟩
  let put (h : Heap) (b : Nat) (cs : Array Value) : Heap := h.modify b fun | .cells _ t fz => .cells cs t fz | o => o
  { w with heap := (put (put (put (put (put (put (put w.heap 6 ((([0, 1, 28, 2, 29, 14, 24, 3, 30, 22, 20, 15, 25, 17, 4, 8, 31, 27, 13, 23, 21, 19, 16, 7, 26, 12, 18, 6, 11, 5, 10, 9] : List Int)).map fun z => Value.int .u8 z).toArray) 7 ((([0, 1, 56, 2, 57, 49, 28, 3, 61, 58, 42, 50, 38, 29, 17, 4, 62, 47, 59, 36, 45, 43, 51, 22, 53, 39, 33, 30, 24, 18, 12, 5, 63, 55, 48, 27, 60, 41, 37, 16, 46, 35, 44, 21, 52, 32, 23, 11, 54, 26, 40, 15, 34, 20, 31, 10, 25, 14, 19, 9, 13, 8, 7, 6] : List Int)).map fun z => Value.int .u8 z).toArray) 1 (Lib.pow10Tab.map fun z => Value.int .u64 z).toArray) 3 ((([128, 191, 160, 191, 128, 159, 144, 191, 128, 143, 0, 0, 0, 0, 0, 0, 0, 0, 0, 0, 0, 0, 0, 0, 0, 0, 0, 0, 0, 0, 0, 0] : List Int)).map fun z => Value.int .u8 z).toArray) 5 #[.iface 264 (.pointer (some ⟨low + 0, 0, none⟩))]) 4 #[.iface 264 (.pointer (some ⟨low + 1, 0, none⟩))]) 2 (Go.Pinned.utf8FirstZ.map fun z => Value.int .u8 (Int.ofNat z)).toArray) }
theorem laid_met (os : Os) : laidMet Tryz.prog Rows.scriptShowsUptoRow.laid ((laidWorld os).forCall (fun _ _ => 0) ⟨#[], #[.slice none 0 0, .agg #[.int .i64 0, .int .i64 0, .int .i64 0, .int .i64 0, .slice none 0 0, .slice none 0 0]], []⟩).memory :=
  laidMet_of_run' 8 (by kernel_rfl) (by kernel_rfl)
theorem reads (os : Os) {H : Type} (enc : TypeId × Value → H) : ∃ places, DataW.whole enc Tryz.prog ((laidWorld os).forCall (fun _ _ => 0) ⟨#[], #[.slice none 0 0, .agg #[.int .i64 0, .int .i64 0, .int .i64 0, .int .i64 0, .slice none 0 0, .slice none 0 0]], []⟩).memory Tryz.f4.params.toList Rows.scriptShowsSpec.vars false (#[.slice none 0 0, .agg #[.int .i64 0, .int .i64 0, .int .i64 0, .int .i64 0, .slice none 0 0, .slice none 0 0]] : Array Value).toList 8 = some ([.nil, .agg [.lit (.int .i64 0), .lit (.int .i64 0), .lit (.int .i64 0), .lit (.int .i64 0), .nil, .nil]], [], places) :=
  ⟨[], by kernel_rfl⟩
theorem liftedUpto (os : Os) (started : os.Started) (H : Type) (enc : TypeId × Value → H) (F : Stop.Interp) :
    ReturnsInHanded {} Tryz.checked os 4 .any ((Rows.OpenSpec.upto Rows.scriptShowsSpec).preRow enc Tryz.prog Tryz.f4 Rows.scriptShowsUptoRow.domain false Rows.scriptShowsUptoRow.laid) (((Rows.OpenSpec.upto Rows.scriptShowsSpec).at F).post enc Tryz.prog Tryz.f4 false true false false) := by
  obtain ⟨places, hx⟩ := reads os enc
  refine returnsInHanded_of_row (C := Tryz.checked) (s := Rows.OpenSpec.upto Rows.scriptShowsSpec) own started (by kernel_rfl) Tryz.func4
    (witness_row_at (enc := enc) (C := Tryz.checked) false (laidWorld os) #[.slice none 0 0, .agg #[.int .i64 0, .int .i64 0, .int .i64 0, .int .i64 0, .slice none 0 0, .slice none 0 0]] rfl (by kernel_rfl) (by kernel_rfl) (by kernel_rfl)
      (OpenSpec.preRow_of_cond 8 hx (by kernel_rfl) (fun k hk => by cases hk; kernel_rfl) (by kernel_rfl) (laid_met os))) ?_
  intro W base args ds gs before hval hW _ hcond _ hL hsh _
  exact contract H enc W base args ds gs before hval hW hcond hL hsh
theorem closed : joinedFacts Tryz.pinned.checked.prog 4 Tryz.f4 (Rows.OpenSpec.upto Rows.scriptShowsSpec).bare Rows.scriptShowsUptoRow = true := by kernel_rfl
theorem inst : Tryz.f4.isInstance Tryz.pinned.checked.prog Rows.scriptShowsUptoRow.origin Rows.scriptShowsUptoRow.targs := of_decide_eq_true (by kernel_rfl)
theorem wrap : Tryz.f4.isWrapper Tryz.pinned.checked.prog Rows.scriptShowsUptoRow.wrapper Rows.scriptShowsUptoRow.mainSum := by
  unfold Func.isWrapper; first | (rw [if_pos (by decide +kernel)]; kernel_rfl) | (rw [if_neg (by decide +kernel)]; exact ⟨rfl, rfl⟩)
theorem numbered : Tryz.pinned.checked.prog.funcNamed Rows.scriptShowsUptoRow.func = some 4 := by kernel_rfl
theorem looks : true = Tryz.pinned.checked.prog.looks [] := by kernel_rfl
theorem saidUpto : Rows.ScriptShowsUptoSaid :=
  OpenClaim.holds_of_cond 4 Tryz.f4 rfl rfl rfl rfl rfl rfl rfl ⟨rfl, rfl, rfl, rfl, rfl⟩ rfl rfl rfl rfl rfl numbered Tryz.func4 closed inst wrap
    (fun os started H enc _ F => by rw [OpenClaim.pre_eq_preRow]; exact liftedUpto os started H enc F)
theorem plain (f : FuncId) (fn : Func) (hf : Tryz.pinned.checked.prog.funcNamed "stanchion/stanchionlaw24.ScriptShows" = some f) (hfn : Tryz.pinned.checked.prog.funcs[f]? = some fn) :
    true = Tryz.pinned.checked.prog.looks [] ∧ ∀ (j : Nat) t, fn.params[j]? = some t → Tryz.pinned.checked.prog.wantsStandIn t = false := by
  obtain rfl : f = 4 := Option.some.inj ((show Tryz.prog.funcNamed "stanchion/stanchionlaw24.ScriptShows" = some 4 by kernel_rfl).symm.trans hf) |>.symm
  obtain rfl : fn = Tryz.f4 := (Option.some.inj (Tryz.func4.symm.trans hfn)).symm
  refine ⟨looks, fun j t ht => ?_⟩
  rw [Tryz.params4] at ht
  have hm := Array.mem_of_getElem? ht
  have all : ∀ t ∈ (#[23, 31] : Array TypeId), Tryz.prog.wantsStandIn t = false := by
    intro t ht
    have hl : t ∈ [23, 31] := by simpa using ht
    rcases List.mem_cons.1 hl with rfl | hl; exact (show Tryz.prog.wantsStandIn 23 = false by kernel_rfl)
    rcases List.mem_cons.1 hl with rfl | hl; exact (show Tryz.prog.wantsStandIn 31 = false by kernel_rfl)
    cases hl
  exact all t hm
theorem cardUpto : Rows.ScriptShowsUptoCardSaid :=
  Claim7.holds_tied_plain_at .later [] _ _ _ _ saidUpto (fun _ h => by cases h) (by kernel_rfl) (fun _ h => by cases h) scriptShowsUpto_row_tie rfl ⟨rfl, rfl⟩ (by kernel_rfl) rfl plain (by kernel_rfl)
end Go.Proofs.YtmjebehhpojihaaGreatDoor.LawScriptShows
