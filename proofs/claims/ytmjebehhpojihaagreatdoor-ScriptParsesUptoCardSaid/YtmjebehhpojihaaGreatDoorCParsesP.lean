/- Lemmas for a law of this seat: what the functions compute, and plain facts of it. Own text. -/
import Derived.Test.YtmjebehhpojihaaGreatDoorCParsesO
import Derived.Test.YtmjebehhpojihaaGreatDoorCards
import Derived.Test.YtmjebehhpojihaaGreatDoorTie
import Derived.WalkKit
import Derived.ProofKit
import Derived.OpenShut
import Derived.ReadAgain
import Derived.Shelf.Vars
import Derived.Deep.Slices
import Derived.ChangeMaps5
import Derived.Deep.DeepHandedRow
import Derived.Lib.LaidTab
namespace Go.Proofs.YtmjebehhpojihaaGreatDoor.Sw
set_option linter.unusedVariables false
set_option linter.unusedSimpArgs false
set_option linter.deprecated false
open Go Go.ChangeShapes Go.WideShapes Go.ChangeAt Go.RowKit Go.Deep Go.ChangeMaps
def gOf (w : World) : GH := fun b => w.heap[b]?
theorem sub_gOf (w : World) : Sub (gOf w) w.heap := fun _ _ h => h
section
variable {H : Type} {enc : TypeId × Value → H} {P : Program} {w w' : World} {base : Nat} {sp : Nat → Bool} {hd : Bool}
theorem same_of_old (hold : ∀ b, b < w.heap.size → w'.heap[b]? = w.heap[b]?) {p : MemPlace} (hp : p.block < w.heap.size) : w.sameAt w' p := by
  cases p with
  | cell b off =>
    have hb := hold b hp
    show w'.cell? _ = w.cell? _
    simp only [World.cell?, hb]
  | map b => exact hold b hp
theorem carryAll : ∀ {ts : List TypeId} {vs : List Value} {ds : List (DataW H)} {ps : List MemPlace}, DataW.TrodAll enc P w base sp hd ts vs ds ps → (∀ p ∈ ps, w.sameAt w' p) → DataW.TrodAll enc P w' base sp hd ts vs ds ps
  | [], [], [], _, h, _ => h
  | _ :: _, _ :: _, _ :: _, _, ⟨p, q, ⟨n, h1⟩, h2, e⟩, hs' =>
    ⟨p, q, ⟨n, DataW.trod_carry n _ _ _ h1 (fun x hx => hs' x (by rw [e]; exact List.mem_append_left _ hx))⟩, carryAll h2 (fun x hx => hs' x (by rw [e]; exact List.mem_append_right _ hx)), e⟩
theorem kept_of_old (hos : w'.os = w.os) (hout : w'.output = w.output) (hold : ∀ b, b < w.heap.size → w'.heap[b]? = w.heap[b]?) (may : MemPlace → Prop) : w.keptBut w' may := by
  refine ⟨hos, hout, fun i hi => ?_⟩
  rw [hold i hi]
  cases w.heap[i]? with
  | none => rfl
  | some o => cases o <;> simp
theorem post_true {W W' : World} {f : Func} {s : ChangeSpec} {apart fresh handsOn : Bool} {args : Array Value} {ds gs : List (DataW H)} {before : List MemPlace} {tb : TypeId}
    (hl : laidOutB P = true) (hm : mapsRowed P = true) (hz : ((List.range P.types.size).all fun t => match P.underlying t with | some (.slice e) => decide (0 < P.cellsOf e) | _ => true) = true)
    (hts : ∀ t ∈ f.params.toList, t < P.types.size) (hv : s.vars = []) (hr : f.resultTypes = #[tb]) (hb : P.underlying tb = some .bool)
    (hs : gs = [] → s.fn H (ds ++ gs) = { results := [.lit (.bool true)], args := ds })
    (hW : DataW.Whole enc P f.params.toList s.vars apart W args.toList ds gs before) (hos : W'.os = W.os) (hout : W'.output = W.output) (hold : ∀ b, b < W.heap.size → W'.heap[b]? = W.heap[b]?) :
    s.post enc P f apart fresh handsOn false W args (.bool true) W' := by
  have hlt := hW.lt
  have hW0 := hW
  obtain ⟨p, q, hA, hV, e, hfz, hnd⟩ := hW
  rw [hv] at hV
  obtain ⟨rfl, rfl⟩ := trodVars_none hV
  rw [List.append_nil] at e
  subst e
  have hargs : ∀ sp : Nat → Bool, (∀ p ∈ before, sp p.block = true) → DataW.TrodAll enc P W' 0 sp true f.params.toList args.toList ds before := fun sp hsp =>
    DataW.TrodAll.respare (kids_rows hl hm) (fun t e ht => slices_full_of P hz t e ht) hts (carryAll hA fun p hp => same_of_old hold (hlt p hp)) hsp
  have hbool : ∀ (b : Nat) (sp : Nat → Bool) (hd : Bool), DataW.TrodAll enc P W' b sp hd f.resultTypes.toList ((Value.bool true).resultList f.resultTypes.size) [.lit (.bool true)] [] := fun b sp hd => by
    rw [hr]; exact trodAll_cons_mk (shut_bool hb true) trodAll_mk0
  have holdb : ∀ p ∈ before, (fun b => decide (b < W.heap.size)) p.block = true := fun p hp => by simpa using hlt p hp
  refine ⟨ds, [], before, [], before, [], hW0, ?_, ?_, ?_, World.keptBut_mono (fun _ h => h) (kept_of_old hos hout hold _), fun h => by cases h⟩
  · rw [hs rfl]; exact hbool _ _ _
  · rw [hs rfl]; exact hargs _ holdb
  · rw [hs rfl, hv]; rfl
end
structure Opn (P : Program) (T : TypeId) {α : Type} (d : Kd α) (ok : α → Prop) : Prop where
  out : ∀ {H : Type} {enc : TypeId × Value → H} {w : World} {fuel : Nat} {cs : List Value} {x : DataW H × List MemPlace},
    DataW.trod enc P w 0 (fun _ => true) true fuel T cs = some x → Rows.uptoBulk x.1 ≤ 1048576 → ∃ y, d.K (gOf w) y cs ∧ ok y
section
variable {P : Program} {T E : TypeId}
theorem Opn.str (ht : P.underlying T = some .string) : Opn P T kStr (fun y => y.length ≤ 1048576) := ⟨fun h hb => by
  obtain ⟨s, rfl, rfl, _⟩ := DataW.trod_string ht h
  simp only [Rows.uptoBulk] at hb
  exact ⟨s.data.toList, by show [Value.string s] = _; rw [mkS_data], by omega⟩⟩
theorem Opn.int {k : IntKind} (ht : P.underlying T = some (.int k)) : Opn P T (kInt k) (fun y => k.min ≤ y ∧ y ≤ k.max) := ⟨fun h hb => by
  obtain ⟨n, rfl, rfl, hw⟩ := DataW.trod_int ht h
  refine ⟨n, rfl, ?_⟩
  simpa [Lit.wf] using hw⟩
theorem Opn.u8 (ht : P.underlying T = some (.int .u8)) : Opn P T kU8 (fun _ => True) := ⟨fun h hb => by
  obtain ⟨n, rfl, rfl, hw⟩ := DataW.trod_int ht h
  have hw : IntKind.min .u8 ≤ n ∧ n ≤ IntKind.max .u8 := by simpa [Lit.wf] using hw
  have hw : 0 ≤ n ∧ n ≤ 255 := hw
  refine ⟨UInt8.ofNat n.toNat, ?_, trivial⟩
  show [Value.int .u8 n] = [Value.int .u8 ((UInt8.ofNat n.toNat).toNat : Int)]
  rw [UInt8.toNat_ofNat', Nat.mod_eq_of_lt (by omega), Int.toNat_of_nonneg hw.1]⟩
theorem Opn.bool (ht : P.underlying T = some .bool) : Opn P T kBool (fun _ => True) := ⟨fun h hb => by
  obtain ⟨n, rfl, rfl⟩ := DataW.trod_bool ht h
  exact ⟨n, rfl, trivial⟩⟩
theorem bulk_mem {H : Type} {d : DataW H} : ∀ {ds : List (DataW H)}, d ∈ ds → Rows.uptoBulk d ≤ Rows.uptoBulkAll ds
  | _ :: r, h => by
    rw [Rows.uptoBulkAll]
    rcases List.mem_cons.1 h with rfl | h
    · omega
    · have := bulk_mem h; omega
end
section
variable {P : Program} {w : World} {T : TypeId} {H : Type} {enc : TypeId × Value → H} {v : Value} {dt : DataW H} {ps : List MemPlace} {b0 : Nat} {r : Reach}
theorem arg_str (ht : P.underlying T = some .string) (hval : Value.okWide P w r b0 T v) (h : DataW.Trod enc P w 0 (fun _ => true) true T v dt ps) (hb : Rows.uptoBulk dt ≤ 1048576) : ∃ y : List UInt8, v = .string (mkS y) ∧ y.length ≤ 1048576 := by
  obtain ⟨s, rfl, rfl, _, _⟩ := open_string ht hval h
  simp only [Rows.uptoBulk] at hb
  exact ⟨s.data.toList, by rw [mkS_data], by omega⟩
end
theorem glob_of {W : World} (h : W.ShapedOpen Tryz.prog) : Glob (gOf W) := by
  obtain ⟨m, hm⟩ := cell_of_shapedOpen_int (g := 0) (zero := #[.int .i64 0]) (t := 3) (k := .i64) h (Nat.le_of_ble_eq_true (by kernel_rfl)) (by kernel_rfl) rfl (by kernel_rfl) (by kernel_rfl) Tryz.underlying3
  unfold World.cell? at hm
  split at hm
  · rename_i cur U fz hb
    exact ⟨m, cur, U, fz, hb, by simpa using hm⟩
  · cases hm
theorem laid_tail {P : Program} {W : World} {x : String × DataW Unit} {l : List (String × DataW Unit)} (h : laidMet P (x :: l) W) : laidMet P l W := by
  obtain ⟨n, d⟩ := x
  obtain ⟨ps, ⟨g, t, cs, fuel, p, q, _, _, _, _, hr, rfl⟩, hn, hc⟩ := h
  refine ⟨q, hr, ?_, fun b off hm => hc b off (List.mem_append_right _ hm)⟩
  exact (List.nodup_append.1 hn).2.1
theorem pow10_of {W : World} {rest : List (String × DataW Unit)} (h : laidMet Tryz.prog (("internal/strconv.uint64pow10", Lib.tabData .u64 Lib.pow10Tab) :: rest) W) : Pow10 (gOf W) := by
  have ht := Lib.tabIs_of_head (g := 1) (t := 239) (e := 209) (n := 20) (by kernel_rfl) (by kernel_rfl) (by kernel_rfl) (by kernel_rfl) (by kernel_rfl) (by kernel_rfl) h
  unfold Lib.TabIs World.var? at ht
  rw [show Tryz.prog.globalNamed "internal/strconv.uint64pow10" = some 1 by kernel_rfl] at ht
  simp only [Option.bind_some] at ht
  split at ht
  · rename_i cur U fz hb
    have := Option.some.inj ht
    subst this
    exact ⟨U, fz, hb⟩
  · cases ht
theorem calls_of {fn : FuncId} {args : Array Value} {W : World} {Q : Ending → World → Prop} (H : Spec Tryz.prog W fn args W.heap (gOf W) [] fun v g' L' => v = .bool true ∧ g' = gOf W ∧ L' = [])
    (hq : ∀ W' : World, W'.os = W.os → W'.output = W.output → (∀ b, b < W.heap.size → W'.heap[b]? = W.heap[b]?) → Q (.returned (.bool true)) W') : Calls Tryz.prog fn args W Q := by
  refine (H W (Is.self W)).mono fun e w' ⟨v, he, is, g', L', st, hv, _, _⟩ => ?_
  subst he; subst hv
  exact hq w' is.os is.output fun b hb => st.frame b hb (ids_nil b)
end Go.Proofs.YtmjebehhpojihaaGreatDoor.Sw
