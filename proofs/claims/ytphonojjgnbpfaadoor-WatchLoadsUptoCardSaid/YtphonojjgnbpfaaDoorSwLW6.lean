/- Law WatchLoads: where what it reads is of bulk at most 1048576, the law returns true and its input reads as it did; the tables that the row lists hold what the row says. Own text. -/
import Derived.Test.YtphonojjgnbpfaaDoorSwWatch7
import Derived.Test.YtphonojjgnbpfaaDoorSwOpn
import Derived.Test.YtphonojjgnbpfaaDoorSwLaw
namespace Go.Proofs.YtphonojjgnbpfaaDoor.LawWatchLoads
open Go Go.ChangeShapes Go.WideShapes Go.ChangeAt Go.RowKit Go.Proofs.YtphonojjgnbpfaaDoor.Sw
set_option maxRecDepth 100000
set_option linter.unusedVariables false
set_option linter.unusedSimpArgs false
set_option linter.deprecated false
theorem own : ownKnob Tryd.prog.godebug = none := by kernel_rfl
theorem contract (H : Type) (enc : TypeId × Value → H) (W : World) (base : Nat) (args : Array Value) (ds gs : List (DataW H)) (before : List MemPlace)
    (hval : ∀ (j : Nat) t v, Tryd.f6.params[j]? = some t → args[j]? = some v → Value.okWide Tryd.prog W .any base t v)
    (hW : DataW.Whole enc Tryd.prog Tryd.f6.params.toList Rows.watchLoadsSpec.vars false W args.toList ds gs before) (hcond : ∀ k, (Rows.OpenSpec.upto Rows.watchLoadsSpec).cond = some k → k H (ds ++ gs) = true)
    (hL : laidMetH Tryd.prog Rows.watchLoadsUptoRow.laid W) (hsh : W.ShapedOpen Tryd.prog) :
    Calls Tryd.prog 6 args W fun e W' => ∃ v, e = .returned v ∧ Rows.watchLoadsSpec.post enc Tryd.prog Tryd.f6 false true false false W args v W' := by
  have hb : Rows.uptoBulkAll (ds ++ gs) ≤ 1048576 := of_decide_eq_true (hcond _ rfl)
  have hW0 := hW
  obtain ⟨p, q, hA0, hV, rfl, hfz, hnd⟩ := hW
  have hA : DataW.TrodAll enc Tryd.prog W 0 (fun _ => true) true Tryd.f6.params.toList args.toList ds p := hA0
  clear hA0
  rw [Tryd.params6] at hA hval
  obtain ⟨v0, vs0, d0, ds0, p0, q0, e0, rfl, rfl, h0, r0⟩ := trodAll_cons hA
  obtain ⟨v1, vs1, d1, ds1, p1, q1, e1, rfl, rfl, h1, r1⟩ := trodAll_cons r0
  obtain ⟨rfl, rfl, rfl⟩ := trodAll_nil r1
  obtain rfl : args = #[v0, v1] := by cases args; simp_all
  have m0 : Rows.uptoBulk d0 ≤ 1048576 := Nat.le_trans (bulk_mem (by simp)) hb
  obtain ⟨y0, s0, k0, l0⟩ := arg_sl (Opn.sl opnL11Op Tryd.underlying33 (by kernel_rfl) (by decide)) Tryd.underlying33 (hval 0 33 _ rfl rfl) h0 m0
  have m1 : Rows.uptoBulk d1 ≤ 1048576 := Nat.le_trans (bulk_mem (by simp)) hb
  obtain ⟨y1, s1, k1, l1⟩ := arg_sl (Opn.sl opnWatch Tryd.underlying22 (by kernel_rfl) (by decide)) Tryd.underlying22 (hval 1 22 _ rfl rfl) h1 m1
  exact calls_of (lawLoads11 W W.heap (gOf W) (sub_gOf W) (glob_of hsh) _ y0 s0 _ y1 s1  (by omega) (by exact fun o ho => (by obtain ⟨_, h2, ⟨h3, _⟩, h4, _⟩ := l0 o ho; exact ⟨by omega, by omega, by have := h2.2.2; omega⟩)) (by omega) (by exact fun w hw => (by have := (l1 w hw).2.2; omega))) fun W' hos hout hold =>
    ⟨_, rfl, post_true (tb := 4) (by kernel_rfl) (by kernel_rfl) (by kernel_rfl) (by rw [Tryd.params6]; decide) rfl (by kernel_rfl) Tryd.underlying4 (fun h => by subst h; rfl) hW0 hos hout hold⟩
/-- A world for the witness: the settled one, the tables holding what their initialisers lay. -/
noncomputable def laidWorld (os : Os) : World :=
  let w := World.holding Tryd.prog os ⟨#[], #[], []⟩
  let put (h : Heap) (b : Nat) (cs : Array Value) : Heap := h.modify b fun | .cells _ t fz => .cells cs t fz | o => o
  { w with heap := (put (put w.heap 3 ((([128, 191, 160, 191, 128, 159, 144, 191, 128, 143, 0, 0, 0, 0, 0, 0, 0, 0, 0, 0, 0, 0, 0, 0, 0, 0, 0, 0, 0, 0, 0, 0] : List Int)).map fun z => Value.int .u8 z).toArray) 2 (Go.Pinned.utf8FirstZ.map fun z => Value.int .u8 (Int.ofNat z)).toArray) }
theorem laid_met (os : Os) : laidMet Tryd.prog Rows.watchLoadsUptoRow.laid ((laidWorld os).forCall (fun _ _ => 0) ⟨#[], #[.slice none 0 0, .slice none 0 0], []⟩).memory :=
  laidMet_of_run' 8 (by kernel_rfl) (by kernel_rfl)
theorem reads (os : Os) {H : Type} (enc : TypeId × Value → H) : ∃ places, DataW.whole enc Tryd.prog ((laidWorld os).forCall (fun _ _ => 0) ⟨#[], #[.slice none 0 0, .slice none 0 0], []⟩).memory Tryd.f6.params.toList Rows.watchLoadsSpec.vars false (#[.slice none 0 0, .slice none 0 0] : Array Value).toList 8 = some ([.nil, .nil], [], places) :=
  ⟨[], by kernel_rfl⟩
theorem liftedUpto (os : Os) (started : os.Started) (H : Type) (enc : TypeId × Value → H) (F : Stop.Interp) :
    ReturnsInHanded {} Tryd.checked os 6 .any ((Rows.OpenSpec.upto Rows.watchLoadsSpec).preRow enc Tryd.prog Tryd.f6 Rows.watchLoadsUptoRow.domain false Rows.watchLoadsUptoRow.laid) (((Rows.OpenSpec.upto Rows.watchLoadsSpec).at F).post enc Tryd.prog Tryd.f6 false true false false) := by
  obtain ⟨places, hx⟩ := reads os enc
  refine returnsInHanded_of_row (C := Tryd.checked) (s := Rows.OpenSpec.upto Rows.watchLoadsSpec) own started (by kernel_rfl) Tryd.func6
    (witness_row_at (enc := enc) (C := Tryd.checked) false (laidWorld os) #[.slice none 0 0, .slice none 0 0] rfl (by kernel_rfl) (by kernel_rfl) (by kernel_rfl)
      (OpenSpec.preRow_of_cond 8 hx (by kernel_rfl) (fun k hk => by cases hk; kernel_rfl) (by kernel_rfl) (laid_met os))) ?_
  intro W base args ds gs before hval hW _ hcond _ hL hsh _
  exact contract H enc W base args ds gs before hval hW hcond hL hsh
theorem saidUpto : Rows.WatchLoadsUptoSaid :=
  OpenClaim.holds_of_cond 6 Tryd.f6 rfl rfl rfl rfl rfl rfl rfl ⟨rfl, rfl, rfl, rfl, rfl⟩ rfl rfl rfl rfl rfl (by kernel_rfl) Tryd.func6 (by kernel_rfl)
    (of_decide_eq_true (by kernel_rfl)) (by unfold Func.isWrapper; first | (rw [if_pos (by decide +kernel)]; kernel_rfl) | (rw [if_neg (by decide +kernel)]; exact ⟨rfl, rfl⟩))
    (fun os started H enc _ F => by rw [OpenClaim.pre_eq_preRow]; exact liftedUpto os started H enc F)
theorem plain (f : FuncId) (fn : Func) (hf : Tryd.pinned.checked.prog.funcNamed "stanchion/stanchionlaw11.WatchLoads" = some f) (hfn : Tryd.pinned.checked.prog.funcs[f]? = some fn) :
    false = Tryd.pinned.checked.prog.looks [] ∧ ∀ (j : Nat) t, fn.params[j]? = some t → Tryd.pinned.checked.prog.wantsStandIn t = false := by
  obtain rfl : f = 6 := Option.some.inj ((show Tryd.prog.funcNamed "stanchion/stanchionlaw11.WatchLoads" = some 6 by kernel_rfl).symm.trans hf) |>.symm
  obtain rfl : fn = Tryd.f6 := (Option.some.inj (Tryd.func6.symm.trans hfn)).symm
  refine ⟨by kernel_rfl, fun j t ht => ?_⟩
  rw [Tryd.params6] at ht
  have hm := Array.mem_of_getElem? ht
  have all : ∀ t ∈ (#[33, 22] : Array TypeId), Tryd.prog.wantsStandIn t = false := by
    intro t ht
    have hl : t ∈ [33, 22] := by simpa using ht
    rcases List.mem_cons.1 hl with rfl | hl; exact (show Tryd.prog.wantsStandIn 33 = false by kernel_rfl)
    rcases List.mem_cons.1 hl with rfl | hl; exact (show Tryd.prog.wantsStandIn 22 = false by kernel_rfl)
    cases hl
  exact all t hm
/-- The card. -/
theorem cardUpto : Rows.WatchLoadsUptoCardSaid :=
  Claim7.holds_tied_plain_at .later [] _ _ _ _ saidUpto (fun _ h => by cases h) (by kernel_rfl) (fun _ h => by cases h) watchLoadsUpto_row_tie rfl ⟨rfl, rfl⟩ (by kernel_rfl) rfl plain (by kernel_rfl)
end Go.Proofs.YtphonojjgnbpfaaDoor.LawWatchLoads
