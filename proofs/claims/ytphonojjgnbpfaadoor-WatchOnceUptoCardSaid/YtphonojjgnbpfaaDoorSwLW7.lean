/- Law WatchOnce: where what it reads is of bulk at most 1048576, the law returns true and its input reads as it did; the tables that the row lists hold what the row says. Own text. -/
import Derived.Test.YtphonojjgnbpfaaDoorSwWatch8
import Derived.Test.YtphonojjgnbpfaaDoorSwOpn
import Derived.Test.YtphonojjgnbpfaaDoorSwLaw
namespace Go.Proofs.YtphonojjgnbpfaaDoor.LawWatchOnce
open Go Go.ChangeShapes Go.WideShapes Go.ChangeAt Go.RowKit Go.Proofs.YtphonojjgnbpfaaDoor.Sw
set_option maxRecDepth 100000
set_option linter.unusedVariables false
set_option linter.unusedSimpArgs false
set_option linter.deprecated false
theorem own : ownKnob Tryd.prog.godebug = none := by kernel_rfl
theorem contract (H : Type) (enc : TypeId × Value → H) (W : World) (base : Nat) (args : Array Value) (ds gs : List (DataW H)) (before : List MemPlace)
    (hval : ∀ (j : Nat) t v, Tryd.f7.params[j]? = some t → args[j]? = some v → Value.okWide Tryd.prog W .any base t v)
    (hW : DataW.Whole enc Tryd.prog Tryd.f7.params.toList Rows.watchOnceSpec.vars false W args.toList ds gs before) (hcond : ∀ k, (Rows.OpenSpec.upto Rows.watchOnceSpec).cond = some k → k H (ds ++ gs) = true)
    (hL : laidMetH Tryd.prog Rows.watchOnceUptoRow.laid W) (hsh : W.ShapedOpen Tryd.prog) :
    Calls Tryd.prog 7 args W fun e W' => ∃ v, e = .returned v ∧ Rows.watchOnceSpec.post enc Tryd.prog Tryd.f7 false true false false W args v W' := by
  have hb : Rows.uptoBulkAll (ds ++ gs) ≤ 1048576 := of_decide_eq_true (hcond _ rfl)
  have hW0 := hW
  obtain ⟨p, q, hA0, hV, rfl, hfz, hnd⟩ := hW
  have hA : DataW.TrodAll enc Tryd.prog W 0 (fun _ => true) true Tryd.f7.params.toList args.toList ds p := hA0
  clear hA0
  rw [Tryd.params7] at hA hval
  obtain ⟨v0, vs0, d0, ds0, p0, q0, e0, rfl, rfl, h0, r0⟩ := trodAll_cons hA
  obtain ⟨v1, vs1, d1, ds1, p1, q1, e1, rfl, rfl, h1, r1⟩ := trodAll_cons r0
  obtain ⟨v2, vs2, d2, ds2, p2, q2, e2, rfl, rfl, h2, r2⟩ := trodAll_cons r1
  obtain ⟨rfl, rfl, rfl⟩ := trodAll_nil r2
  obtain rfl : args = #[v0, v1, v2] := by cases args; simp_all
  have m0 : Rows.uptoBulk d0 ≤ 1048576 := Nat.le_trans (bulk_mem (by simp)) hb
  obtain ⟨y0, s0, k0, l0⟩ := arg_sl (Opn.sl opnL11Op Tryd.underlying33 (by kernel_rfl) (by decide)) Tryd.underlying33 (hval 0 33 _ rfl rfl) h0 m0
  have m1 : Rows.uptoBulk d1 ≤ 1048576 := Nat.le_trans (bulk_mem (by simp)) hb
  obtain ⟨y1, rfl, k1, l1⟩ := arg_int Tryd.underlying3 (hval 1 3 _ rfl rfl) h1 m1
  replace k1 : -9223372036854775808 ≤ y1 := k1
  replace l1 : y1 ≤ 9223372036854775807 := l1
  have m2 : Rows.uptoBulk d2 ≤ 1048576 := Nat.le_trans (bulk_mem (by simp)) hb
  obtain ⟨y2, s2, k2, l2⟩ := arg_sl (Opn.sl (Opn.str Tryd.underlying9) Tryd.underlying37 (by kernel_rfl) (by decide)) Tryd.underlying37 (hval 2 37 _ rfl rfl) h2 m2
  exact calls_of (lawOnce11 W W.heap (gOf W) (sub_gOf W) (glob_of hsh) _ y0 s0 y1 _ y2 s2  (by omega) (by exact fun o ho => (by obtain ⟨_, h2, ⟨h3, _⟩, h4, _⟩ := l0 o ho; exact ⟨by omega, by omega, by have := h2.2.2; omega⟩)) (by omega)) fun W' hos hout hold =>
    ⟨_, rfl, post_true (tb := 4) (by kernel_rfl) (by kernel_rfl) (by kernel_rfl) (by rw [Tryd.params7]; decide) rfl (by kernel_rfl) Tryd.underlying4 (fun h => by subst h; rfl) hW0 hos hout hold⟩
/-- A world for the witness: the settled one, the tables holding what their initialisers lay. -/
noncomputable def laidWorld (os : Os) : World :=
  let w := World.holding Tryd.prog os ⟨#[], #[], []⟩
  let put (h : Heap) (b : Nat) (cs : Array Value) : Heap := h.modify b fun | .cells _ t fz => .cells cs t fz | o => o
  { w with heap := (put (put w.heap 3 ((([128, 191, 160, 191, 128, 159, 144, 191, 128, 143, 0, 0, 0, 0, 0, 0, 0, 0, 0, 0, 0, 0, 0, 0, 0, 0, 0, 0, 0, 0, 0, 0] : List Int)).map fun z => Value.int .u8 z).toArray) 2 (Go.Pinned.utf8FirstZ.map fun z => Value.int .u8 (Int.ofNat z)).toArray) }
theorem laid_met (os : Os) : laidMet Tryd.prog Rows.watchOnceUptoRow.laid ((laidWorld os).forCall (fun _ _ => 0) ⟨#[], #[.slice none 0 0, .int .i64 0, .slice none 0 0], []⟩).memory :=
  laidMet_of_run' 8 (by kernel_rfl) (by kernel_rfl)
theorem reads (os : Os) {H : Type} (enc : TypeId × Value → H) : ∃ places, DataW.whole enc Tryd.prog ((laidWorld os).forCall (fun _ _ => 0) ⟨#[], #[.slice none 0 0, .int .i64 0, .slice none 0 0], []⟩).memory Tryd.f7.params.toList Rows.watchOnceSpec.vars false (#[.slice none 0 0, .int .i64 0, .slice none 0 0] : Array Value).toList 8 = some ([.nil, .lit (.int .i64 0), .nil], [], places) :=
  ⟨[], by kernel_rfl⟩
theorem liftedUpto (os : Os) (started : os.Started) (H : Type) (enc : TypeId × Value → H) (F : Stop.Interp) :
    ReturnsInHanded {} Tryd.checked os 7 .any ((Rows.OpenSpec.upto Rows.watchOnceSpec).preRow enc Tryd.prog Tryd.f7 Rows.watchOnceUptoRow.domain false Rows.watchOnceUptoRow.laid) (((Rows.OpenSpec.upto Rows.watchOnceSpec).at F).post enc Tryd.prog Tryd.f7 false true false false) := by
  obtain ⟨places, hx⟩ := reads os enc
  refine returnsInHanded_of_row (C := Tryd.checked) (s := Rows.OpenSpec.upto Rows.watchOnceSpec) own started (by kernel_rfl) Tryd.func7
    (witness_row_at (enc := enc) (C := Tryd.checked) false (laidWorld os) #[.slice none 0 0, .int .i64 0, .slice none 0 0] rfl (by kernel_rfl) (by kernel_rfl) (by kernel_rfl)
      (OpenSpec.preRow_of_cond 8 hx (by kernel_rfl) (fun k hk => by cases hk; kernel_rfl) (by kernel_rfl) (laid_met os))) ?_
  intro W base args ds gs before hval hW _ hcond _ hL hsh _
  exact contract H enc W base args ds gs before hval hW hcond hL hsh
theorem saidUpto : Rows.WatchOnceUptoSaid :=
  OpenClaim.holds_of_cond 7 Tryd.f7 rfl rfl rfl rfl rfl rfl rfl ⟨rfl, rfl, rfl, rfl, rfl⟩ rfl rfl rfl rfl rfl (by kernel_rfl) Tryd.func7 (by kernel_rfl)
    (of_decide_eq_true (by kernel_rfl)) (by unfold Func.isWrapper; first | (rw [if_pos (by decide +kernel)]; kernel_rfl) | (rw [if_neg (by decide +kernel)]; exact ⟨rfl, rfl⟩))
    (fun os started H enc _ F => by rw [OpenClaim.pre_eq_preRow]; exact liftedUpto os started H enc F)
theorem plain (f : FuncId) (fn : Func) (hf : Tryd.pinned.checked.prog.funcNamed "stanchion/stanchionlaw11.WatchOnce" = some f) (hfn : Tryd.pinned.checked.prog.funcs[f]? = some fn) :
    false = Tryd.pinned.checked.prog.looks [] ∧ ∀ (j : Nat) t, fn.params[j]? = some t → Tryd.pinned.checked.prog.wantsStandIn t = false := by
  obtain rfl : f = 7 := Option.some.inj ((show Tryd.prog.funcNamed "stanchion/stanchionlaw11.WatchOnce" = some 7 by kernel_rfl).symm.trans hf) |>.symm
  obtain rfl : fn = Tryd.f7 := (Option.some.inj (Tryd.func7.symm.trans hfn)).symm
  refine ⟨by kernel_rfl, fun j t ht => ?_⟩
  rw [Tryd.params7] at ht
  have hm := Array.mem_of_getElem? ht
  have all : ∀ t ∈ (#[33, 3, 37] : Array TypeId), Tryd.prog.wantsStandIn t = false := by
    intro t ht
    have hl : t ∈ [33, 3, 37] := by simpa using ht
    rcases List.mem_cons.1 hl with rfl | hl; exact (show Tryd.prog.wantsStandIn 33 = false by kernel_rfl)
    rcases List.mem_cons.1 hl with rfl | hl; exact (show Tryd.prog.wantsStandIn 3 = false by kernel_rfl)
    rcases List.mem_cons.1 hl with rfl | hl; exact (show Tryd.prog.wantsStandIn 37 = false by kernel_rfl)
    cases hl
  exact all t hm
/-- The card. -/
theorem cardUpto : Rows.WatchOnceUptoCardSaid :=
  Claim7.holds_tied_plain_at .later [] _ _ _ _ saidUpto (fun _ h => by cases h) (by kernel_rfl) (fun _ h => by cases h) watchOnceUpto_row_tie rfl ⟨rfl, rfl⟩ (by kernel_rfl) rfl plain (by kernel_rfl)
end Go.Proofs.YtphonojjgnbpfaaDoor.LawWatchOnce
