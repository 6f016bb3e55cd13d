/- Lemmas for a law of this seat: what the functions compute, and plain facts of it. Own text. -/
import Derived.Test.YtmjebehhpojihaaGreatDoorCShowsP
import Derived.Test.YtmjebehhpojihaaGreatDoorCards
import Derived.Test.YtmjebehhpojihaaGreatDoorTie
import Derived.WalkKit
import Derived.ProofKit
import Derived.OpenShut
import Derived.ReadAgain
import Derived.Shelf.Vars
import Derived.Deep.Slices
import Derived.ChangeMaps5
import Derived.Deep.DeepHandedRow
import Derived.Lib.LaidTab
namespace Go.Proofs.YtmjebehhpojihaaGreatDoor.Sw
set_option linter.unusedVariables false
set_option linter.unusedSimpArgs false
set_option linter.deprecated false
open Go Go.ChangeShapes Go.WideShapes Go.ChangeAt Go.RowKit Go.Deep Go.ChangeMaps
def gOf (w : World) : GH := fun b => w.heap[b]?
theorem sub_gOf (w : World) : Sub (gOf w) w.heap := fun _ _ h => h
section
variable {H : Type} {enc : TypeId × Value → H} {P : Program} {w w' : World} {base : Nat} {sp : Nat → Bool} {hd : Bool}
theorem same_of_old (hold : ∀ b, b < w.heap.size → w'.heap[b]? = w.heap[b]?) {p : MemPlace} (hp : p.block < w.heap.size) : w.sameAt w' p := by
  cases p with
  | cell b off =>
    have hb := hold b hp
    show w'.cell? _ = w.cell? _
    simp only [World.cell?, hb]
  | map b => exact hold b hp
theorem carryAll : ∀ {ts : List TypeId} {vs : List Value} {ds : List (DataW H)} {ps : List MemPlace}, DataW.TrodAll enc P w base sp hd ts vs ds ps → (∀ p ∈ ps, w.sameAt w' p) → DataW.TrodAll enc P w' base sp hd ts vs ds ps
  | [], [], [], _, h, _ => h
  | _ :: _, _ :: _, _ :: _, _, ⟨p, q, ⟨n, h1⟩, h2, e⟩, hs' =>
    ⟨p, q, ⟨n, DataW.trod_carry n _ _ _ h1 (fun x hx => hs' x (by rw [e]; exact List.mem_append_left _ hx))⟩, carryAll h2 (fun x hx => hs' x (by rw [e]; exact List.mem_append_right _ hx)), e⟩
theorem kept_of_old (hos : w'.os = w.os) (hout : w'.output = w.output) (hold : ∀ b, b < w.heap.size → w'.heap[b]? = w.heap[b]?) (may : MemPlace → Prop) : w.keptBut w' may := by
  refine ⟨hos, hout, fun i hi => ?_⟩
  rw [hold i hi]
  cases w.heap[i]? with
  | none => rfl
  | some o => cases o <;> simp
theorem post_true {W W' : World} {f : Func} {s : ChangeSpec} {apart fresh handsOn : Bool} {args : Array Value} {ds gs : List (DataW H)} {before : List MemPlace} {tb : TypeId}
    (hl : laidOutB P = true) (hm : mapsRowed P = true) (hz : ((List.range P.types.size).all fun t => match P.underlying t with | some (.slice e) => decide (0 < P.cellsOf e) | _ => true) = true)
    (hts : ∀ t ∈ f.params.toList, t < P.types.size) (hv : s.vars = []) (hr : f.resultTypes = #[tb]) (hb : P.underlying tb = some .bool)
    (hs : gs = [] → s.fn H (ds ++ gs) = { results := [.lit (.bool true)], args := ds })
    (hW : DataW.Whole enc P f.params.toList s.vars apart W args.toList ds gs before) (hos : W'.os = W.os) (hout : W'.output = W.output) (hold : ∀ b, b < W.heap.size → W'.heap[b]? = W.heap[b]?) :
    s.post enc P f apart fresh handsOn false W args (.bool true) W' := by
  have hlt := hW.lt
  have hW0 := hW
  obtain ⟨p, q, hA, hV, e, hfz, hnd⟩ := hW
  rw [hv] at hV
  obtain ⟨rfl, rfl⟩ := trodVars_none hV
  rw [List.append_nil] at e
  subst e
  have hargs : ∀ sp : Nat → Bool, (∀ p ∈ before, sp p.block = true) → DataW.TrodAll enc P W' 0 sp true f.params.toList args.toList ds before := fun sp hsp =>
    DataW.TrodAll.respare (kids_rows hl hm) (fun t e ht => slices_full_of P hz t e ht) hts (carryAll hA fun p hp => same_of_old hold (hlt p hp)) hsp
  have hbool : ∀ (b : Nat) (sp : Nat → Bool) (hd : Bool), DataW.TrodAll enc P W' b sp hd f.resultTypes.toList ((Value.bool true).resultList f.resultTypes.size) [.lit (.bool true)] [] := fun b sp hd => by
    rw [hr]; exact trodAll_cons_mk (shut_bool hb true) trodAll_mk0
  have holdb : ∀ p ∈ before, (fun b => decide (b < W.heap.size)) p.block = true := fun p hp => by simpa using hlt p hp
  refine ⟨ds, [], before, [], before, [], hW0, ?_, ?_, ?_, World.keptBut_mono (fun _ h => h) (kept_of_old hos hout hold _), fun h => by cases h⟩
  · rw [hs rfl]; exact hbool _ _ _
  · rw [hs rfl]; exact hargs _ holdb
  · rw [hs rfl, hv]; rfl
end
structure Opn (P : Program) (T : TypeId) {α : Type} (d : Kd α) (ok : α → Prop) : Prop where
  out : ∀ {H : Type} {enc : TypeId × Value → H} {w : World} {fuel : Nat} {cs : List Value} {x : DataW H × List MemPlace},
    DataW.trod enc P w 0 (fun _ => true) true fuel T cs = some x → Rows.uptoBulk x.1 ≤ 1048576 → ∃ y, d.K (gOf w) y cs ∧ ok y
section
variable {P : Program} {T E : TypeId}
theorem Opn.str (ht : P.underlying T = some .string) : Opn P T kStr (fun y => y.length ≤ 1048576) := ⟨fun h hb => by
  obtain ⟨s, rfl, rfl, _⟩ := DataW.trod_string ht h
  simp only [Rows.uptoBulk] at hb
  exact ⟨s.data.toList, by show [Value.string s] = _; rw [mkS_data], by omega⟩⟩
theorem Opn.int {k : IntKind} (ht : P.underlying T = some (.int k)) : Opn P T (kInt k) (fun y => k.min ≤ y ∧ y ≤ k.max) := ⟨fun h hb => by
  obtain ⟨n, rfl, rfl, hw⟩ := DataW.trod_int ht h
  refine ⟨n, rfl, ?_⟩
  simpa [Lit.wf] using hw⟩
theorem Opn.u8 (ht : P.underlying T = some (.int .u8)) : Opn P T kU8 (fun _ => True) := ⟨fun h hb => by
  obtain ⟨n, rfl, rfl, hw⟩ := DataW.trod_int ht h
  have hw : IntKind.min .u8 ≤ n ∧ n ≤ IntKind.max .u8 := by simpa [Lit.wf] using hw
  have hw : 0 ≤ n ∧ n ≤ 255 := hw
  refine ⟨UInt8.ofNat n.toNat, ?_, trivial⟩
  show [Value.int .u8 n] = [Value.int .u8 ((UInt8.ofNat n.toNat).toNat : Int)]
  rw [UInt8.toNat_ofNat', Nat.mod_eq_of_lt (by omega), Int.toNat_of_nonneg hw.1]⟩
theorem Opn.bool (ht : P.underlying T = some .bool) : Opn P T kBool (fun _ => True) := ⟨fun h hb => by
  obtain ⟨n, rfl, rfl⟩ := DataW.trod_bool ht h
  exact ⟨n, rfl, trivial⟩⟩
theorem bulk_pos {H : Type} (d : DataW H) : 1 ≤ Rows.uptoBulk d := by
  cases d with
  | lit l => cases l <;> simp [Rows.uptoBulk]
  | nil => simp [Rows.uptoBulk]
  | ptr _ => simp [Rows.uptoBulk]
  | slice _ _ => simp [Rows.uptoBulk]
  | agg _ => simp [Rows.uptoBulk]
  | iface _ _ => simp [Rows.uptoBulk]
  | map _ => simp [Rows.uptoBulk]
  | held _ => simp [Rows.uptoBulk]
theorem bulk_mem {H : Type} {d : DataW H} : ∀ {ds : List (DataW H)}, d ∈ ds → Rows.uptoBulk d ≤ Rows.uptoBulkAll ds
  | _ :: r, h => by
    rw [Rows.uptoBulkAll]
    rcases List.mem_cons.1 h with rfl | h
    · omega
    · have := bulk_mem h; omega
theorem bulk_len {H : Type} : ∀ ds : List (DataW H), ds.length ≤ Rows.uptoBulkAll ds
  | [] => by simp
  | d :: r => by have := bulk_pos d; have := bulk_len r; rw [Rows.uptoBulkAll, List.length_cons]; omega
theorem choose_list {α : Type} {p : Nat → α → Prop} : ∀ (n : Nat), (∀ i, i < n → ∃ y, p i y) → ∃ ys : List α, ys.length = n ∧ ∀ i y, ys[i]? = some y → p i y
  | 0, _ => ⟨[], rfl, fun i y h => by simp at h⟩
  | n + 1, h => by
    obtain ⟨ys, hl, hp⟩ := choose_list n fun i hi => h i (by omega)
    obtain ⟨y, hy⟩ := h n (by omega)
    refine ⟨ys ++ [y], by simp [hl], fun i z hz => ?_⟩
    rw [List.getElem?_append] at hz
    split at hz
    · exact hp i z hz
    · rename_i hge
      rw [List.getElem?_singleton] at hz
      split at hz
      · have : i = n := by omega
        subst this
        have := Option.some.inj hz
        subst this; exact hy
      · cases hz
theorem reads_of_at {α : Type} {d : Kd α} {g : GH} {cur : Array Value} : ∀ (ys : List α) (o : Nat), (∀ i y, ys[i]? = some y → d.K g y (cut cur (o + i * d.sz) d.sz)) → Reads d g ys (cut cur o (ys.length * d.sz))
  | [], o, _ => by simp [Reads, cut]
  | y :: ys, o, h => by
    have ih := reads_of_at ys (o + d.sz) fun i z hz => by
      have := h (i + 1) z (by simpa using hz)
      rwa [Nat.succ_mul, Nat.add_comm (i * d.sz), ← Nat.add_assoc] at this
    refine ⟨cut cur o d.sz, cut cur (o + d.sz) (ys.length * d.sz), ?_, by simpa using h 0 y rfl, ih⟩
    unfold cut
    rw [List.length_cons, Nat.succ_mul, Nat.add_comm, List.take_add, List.drop_drop]
theorem cells_cut {w : World} {b o n : Nat} {cs : List Value} (h : w.cells? 0 ⟨b, o, none⟩ n = some cs) (hn : 0 < n) : ∃ cur U fz, w.heap[b]? = some (.cells cur U fz) ∧ cs = cut cur o n := by
  unfold World.cells? at h
  rw [if_pos (Nat.zero_le _)] at h
  have hl := Lib.mapM_length h
  rw [List.length_range] at hl
  have hat : ∀ i, i < n → w.cell? ⟨b, o + i, none⟩ = cs[i]? := fun i hi => by
    obtain ⟨v, hv, hf⟩ := Lib.mapM_at h i i (by simp [hi])
    rw [add_flat] at hf
    rw [hv, hf]
  have h0 := hat 0 hn
  rw [List.getElem?_eq_getElem (by omega)] at h0
  unfold World.cell? at h0
  simp only [Nat.add_zero] at h0
  split at h0
  · rename_i cur U fz hb
    refine ⟨cur, U, fz, hb, ?_⟩
    apply List.ext_getElem?
    intro k
    unfold cut
    rw [List.getElem?_take]
    by_cases hk : k < n
    · rw [if_pos hk, ← hat k hk, cell_of rfl, hcell_row hb, List.getElem?_drop]
      simp
    · rw [if_neg hk, List.getElem?_eq_none (by omega)]
  · cases h0
theorem Opn.sl {α : Type} {d : Kd α} {ok : α → Prop} (I : Opn P E d ok) (ht : P.underlying T = some (.slice E)) (hc : P.cellsOf E = d.sz) (hp : 0 < d.sz) :
    Opn P T (kSl E d) (fun ys => ys.length ≤ 1048576 ∧ ∀ y ∈ ys, ok y) := ⟨fun {H enc w fuel cs x} h hb => by
  rcases open_slice ht h with ⟨rfl, rfl⟩ | ⟨a, len, cap, m, n, D, Pl, rfl, _, hl, hm, hmm, rfl, hx⟩
  · exact ⟨[], ⟨_, rfl, SlR.nil _ _ _⟩, by simp, by simp⟩
  · rw [if_pos rfl] at hmm
    subst hmm
    simp only [Rows.uptoBulk] at hb
    have hlen := bulk_len ((List.range len).map D)
    rw [List.length_map, List.length_range] at hlen
    have each : ∀ i, i < len → ∃ y, ∃ cs', w.cells? 0 (a.add (i * d.sz)) d.sz = some cs' ∧ d.K (gOf w) y cs' ∧ ok y := fun i hi => by
      obtain ⟨cs', h1, h2⟩ := hx i (by omega)
      have h3 : Rows.uptoBulk (D i) ≤ Rows.uptoBulkAll ((List.range len).map D) := bulk_mem (List.mem_map.2 ⟨i, List.mem_range.2 hi, rfl⟩)
      obtain ⟨y, h4, h5⟩ := I.out h2 (by show Rows.uptoBulk (D i) ≤ _; omega)
      rw [hc] at h1
      exact ⟨y, cs', h1, h4, h5⟩
    obtain ⟨ys, hyl, hy⟩ := choose_list len each
    refine ⟨ys, ⟨_, rfl, _, m, by rw [hyl], by omega, fun hne => ?_⟩, by omega, fun y hm => ?_⟩
    · obtain ⟨b, o, spot⟩ := a
      have h0 : 0 < len := by
        rcases Nat.eq_zero_or_pos len with h | h
        · exact absurd (List.eq_nil_of_length_eq_zero (by omega)) hne
        · exact h
      have hspot : spot = none := by
        obtain ⟨_, cs', h1, _⟩ := each 0 h0
        unfold World.cells? at h1
        rw [if_pos (Nat.zero_le _)] at h1
        obtain ⟨v, _, hf⟩ := Lib.mapM_at h1 0 0 (by simp [hp])
        simpa [Addr.add] using World.cell?_spot hf
      subst hspot
      obtain ⟨_, cs0, h1, _⟩ := each 0 h0
      rw [Nat.zero_mul, add_flat, Nat.add_zero] at h1
      obtain ⟨cur, U, fz, hb', _⟩ := cells_cut h1 hp
      refine ⟨b, o, cur, (U, fz), rfl, hb', reads_of_at ys o fun i y hi => ?_⟩
      obtain ⟨cs', h2, h3, _⟩ := hy i y hi
      rw [add_flat] at h2
      obtain ⟨cur2, U2, fz2, hb2, e⟩ := cells_cut h2 hp
      rw [hb'] at hb2
      simp only [Option.some.injEq, Obj.cells.injEq] at hb2
      obtain ⟨rfl, _, _⟩ := hb2
      rw [← e]; exact h3
    · obtain ⟨i, hi⟩ := List.mem_iff_getElem?.1 hm
      obtain ⟨_, _, _, hok⟩ := hy i y hi
      exact hok⟩
end
section
variable {P : Program} {w : World} {T : TypeId} {H : Type} {enc : TypeId × Value → H} {v : Value} {dt : DataW H} {ps : List MemPlace} {b0 : Nat} {r : Reach}
theorem arg_sl {α : Type} {E : TypeId} {d : Kd α} {ok : List α → Prop} (I : Opn P T (kSl E d) ok) (ht : P.underlying T = some (.slice E)) (hval : Value.okWide P w r b0 T v) (h : DataW.Trod enc P w 0 (fun _ => true) true T v dt ps) (hb : Rows.uptoBulk dt ≤ 1048576) :
    ∃ ys : List α, SlR (gOf w) E d v ys ∧ ok ys := by
  obtain ⟨a0, len, cap, rfl⟩ := okWide_slice ht hval
  obtain ⟨fuel, hf⟩ := h
  obtain ⟨ys, ⟨v', e, hs⟩, hk⟩ := I.out hf hb
  have e2 : v' = .slice a0 len cap := by simpa [Value.cells] using e.symm
  exact ⟨ys, e2 ▸ hs, hk⟩
theorem arg_st {α : Type} {d : Kd α} {ok : α → Prop} {fs : Array Field} (I : Opn P T d ok) (ht : P.underlying T = some (.struct fs)) (hval : Value.okWide P w r b0 T v) (h : DataW.Trod enc P w 0 (fun _ => true) true T v dt ps) (hb : Rows.uptoBulk dt ≤ 1048576) :
    ∃ (y : α) (cs : Array Value), v = .agg cs ∧ d.K (gOf w) y cs.toList ∧ ok y := by
  obtain ⟨cs, rfl, _⟩ := okWide_struct ht hval
  obtain ⟨fuel, hf⟩ := h
  obtain ⟨y, hk, ho⟩ := I.out hf hb
  exact ⟨y, cs, rfl, hk, ho⟩
end
theorem trod_field {P : Program} {w : World} {H : Type} {enc : TypeId × Value → H} {n : Nat} {fs : Array Field} {cs : List Value} {xs : List (DataW H × List MemPlace)}
    (hf : ∀ (i : Nat) (f : Field), fs[i]? = some f → DataW.trod enc P w 0 (fun _ => true) true n f.type ((cs.drop f.offset).take (P.cellsOf f.type)) = xs[i]?)
    (i t o m : Nat) (hi : (fs[i]?).map (fun f => (f.type, f.offset)) = some (t, o)) (hm : P.cellsOf t = m) : DataW.trod enc P w 0 (fun _ => true) true n t ((cs.drop o).take m) = xs[i]? := by
  obtain ⟨f, h1, h2⟩ := Option.map_eq_some_iff.1 hi
  simp only [Prod.mk.injEq] at h2
  obtain ⟨rfl, rfl⟩ := h2
  subst hm
  exact hf i f h1
theorem glob_of {W : World} (h : W.ShapedOpen Tryz.prog) : Glob (gOf W) := by
  obtain ⟨m, hm⟩ := cell_of_shapedOpen_int (g := 0) (zero := #[.int .i64 0]) (t := 3) (k := .i64) h (Nat.le_of_ble_eq_true (by kernel_rfl)) (by kernel_rfl) rfl (by kernel_rfl) (by kernel_rfl) Tryz.underlying3
  unfold World.cell? at hm
  split at hm
  · rename_i cur U fz hb
    exact ⟨m, cur, U, fz, hb, by simpa using hm⟩
  · cases hm
theorem laid_tail {P : Program} {W : World} {x : String × DataW Unit} {l : List (String × DataW Unit)} (h : laidMet P (x :: l) W) : laidMet P l W := by
  obtain ⟨n, d⟩ := x
  obtain ⟨ps, ⟨g, t, cs, fuel, p, q, _, _, _, _, hr, rfl⟩, hn, hc⟩ := h
  refine ⟨q, hr, ?_, fun b off hm => hc b off (List.mem_append_right _ hm)⟩
  exact (List.nodup_append.1 hn).2.1
theorem pow10_of {W : World} {rest : List (String × DataW Unit)} (h : laidMet Tryz.prog (("internal/strconv.uint64pow10", Lib.tabData .u64 Lib.pow10Tab) :: rest) W) : Pow10 (gOf W) := by
  have ht := Lib.tabIs_of_head (g := 1) (t := 239) (e := 209) (n := 20) (by kernel_rfl) (by kernel_rfl) (by kernel_rfl) (by kernel_rfl) (by kernel_rfl) (by kernel_rfl) h
  unfold Lib.TabIs World.var? at ht
  rw [show Tryz.prog.globalNamed "internal/strconv.uint64pow10" = some 1 by kernel_rfl] at ht
  simp only [Option.bind_some] at ht
  split at ht
  · rename_i cur U fz hb
    have := Option.some.inj ht
    subst this
    exact ⟨U, fz, hb⟩
  · cases ht
theorem calls_of {fn : FuncId} {args : Array Value} {W : World} {Q : Ending → World → Prop} (H : Spec Tryz.prog W fn args W.heap (gOf W) [] fun v g' L' => v = .bool true ∧ g' = gOf W ∧ L' = [])
    (hq : ∀ W' : World, W'.os = W.os → W'.output = W.output → (∀ b, b < W.heap.size → W'.heap[b]? = W.heap[b]?) → Q (.returned (.bool true)) W') : Calls Tryz.prog fn args W Q := by
  refine (H W (Is.self W)).mono fun e w' ⟨v, he, is, g', L', st, hv, _, _⟩ => ?_
  subst he; subst hv
  exact hq w' is.os is.output fun b hb => st.frame b hb (ids_nil b)
end Go.Proofs.YtmjebehhpojihaaGreatDoor.Sw
namespace Go.Proofs.YtmjebehhpojihaaGreatDoor.Sw
open Go Go.ChangeShapes Go.WideShapes Go.ChangeAt Go.RowKit Go.Deep Go.ChangeMaps
set_option maxRecDepth 100000
set_option linter.unusedVariables false
set_option linter.unusedSimpArgs false
set_option linter.deprecated false
def okId (x : Id) : Prop := (IntKind.min .i64 ≤ x.Role ∧ x.Role ≤ IntKind.max .i64) ∧ (IntKind.min .i64 ≤ x.N ∧ x.N ≤ IntKind.max .i64)
theorem opnId : Opn Tryz.prog 92 kId okId := ⟨fun {H enc w fuel cs x} h hb => by
  obtain ⟨xs, n, _, rfl, hl, hlen, hf⟩ := DataW.trod_struct Tryz.underlying92 h
  have hl : cs.length = 2 := hl.trans (by kernel_rfl)
  have hlen : xs.length = 2 := hlen
  obtain ⟨a0, a1, rfl⟩ : ∃ a0 a1, cs = [a0, a1] := by match cs, hl with | [a0, a1], _ => exact ⟨a0, a1, rfl⟩
  obtain ⟨z0, z1, rfl⟩ : ∃ z0 z1, xs = [z0, z1] := by match xs, hlen with | [z0, z1], _ => exact ⟨z0, z1, rfl⟩
  have hb : Rows.uptoBulkAll [z0.1, z1.1] ≤ 1048576 := by simp only [Rows.uptoBulk, List.map_cons, List.map_nil] at hb; omega
  have g0 := trod_field hf 0 3 0 1 (by kernel_rfl) (by kernel_rfl)
  replace g0 : DataW.trod enc Tryz.prog w 0 (fun _ => true) true n 3 [a0] = some z0 := g0
  obtain ⟨y0, k0, o0⟩ := (Opn.int Tryz.underlying3).out g0 (Nat.le_trans (bulk_mem (by simp)) hb)
  have k0 : [a0] = _ := k0; cases k0
  have g1 := trod_field hf 1 3 1 1 (by kernel_rfl) (by kernel_rfl)
  replace g1 : DataW.trod enc Tryz.prog w 0 (fun _ => true) true n 3 [a1] = some z1 := g1
  obtain ⟨y1, k1, o1⟩ := (Opn.int Tryz.underlying3).out g1 (Nat.le_trans (bulk_mem (by simp)) hb)
  have k1 : [a1] = _ := k1; cases k1
  exact ⟨⟨y0, y1⟩, rfl, ⟨o0, o1⟩⟩⟩
def okStep (x : Step) : Prop := (IntKind.min .i64 ≤ x.Kind ∧ x.Kind ≤ IntKind.max .i64) ∧ (IntKind.min .i64 ≤ x.Role ∧ x.Role ≤ IntKind.max .i64) ∧ (IntKind.min .i64 ≤ x.K ∧ x.K ≤ IntKind.max .i64) ∧ (IntKind.min .i64 ≤ x.Power ∧ x.Power ≤ IntKind.max .i64) ∧ (okId x.Node) ∧ (x.Data.length ≤ 1048576 ∧ ∀ y ∈ x.Data, (True)) ∧ (x.Keeps.length ≤ 1048576 ∧ ∀ y ∈ x.Keeps, (IntKind.min .i64 ≤ y ∧ y ≤ IntKind.max .i64))
theorem opnStep : Opn Tryz.prog 94 kStep okStep := ⟨fun {H enc w fuel cs x} h hb => by
  obtain ⟨xs, n, _, rfl, hl, hlen, hf⟩ := DataW.trod_struct Tryz.underlying94 h
  have hl : cs.length = 8 := hl.trans (by kernel_rfl)
  have hlen : xs.length = 7 := hlen
  obtain ⟨a0, a1, a2, a3, a4, a5, a6, a7, rfl⟩ : ∃ a0 a1 a2 a3 a4 a5 a6 a7, cs = [a0, a1, a2, a3, a4, a5, a6, a7] := by match cs, hl with | [a0, a1, a2, a3, a4, a5, a6, a7], _ => exact ⟨a0, a1, a2, a3, a4, a5, a6, a7, rfl⟩
  obtain ⟨z0, z1, z2, z3, z4, z5, z6, rfl⟩ : ∃ z0 z1 z2 z3 z4 z5 z6, xs = [z0, z1, z2, z3, z4, z5, z6] := by match xs, hlen with | [z0, z1, z2, z3, z4, z5, z6], _ => exact ⟨z0, z1, z2, z3, z4, z5, z6, rfl⟩
  have hb : Rows.uptoBulkAll [z0.1, z1.1, z2.1, z3.1, z4.1, z5.1, z6.1] ≤ 1048576 := by simp only [Rows.uptoBulk, List.map_cons, List.map_nil] at hb; omega
  have g0 := trod_field hf 0 3 0 1 (by kernel_rfl) (by kernel_rfl)
  replace g0 : DataW.trod enc Tryz.prog w 0 (fun _ => true) true n 3 [a0] = some z0 := g0
  obtain ⟨y0, k0, o0⟩ := (Opn.int Tryz.underlying3).out g0 (Nat.le_trans (bulk_mem (by simp)) hb)
  have k0 : [a0] = _ := k0; cases k0
  have g1 := trod_field hf 1 3 1 1 (by kernel_rfl) (by kernel_rfl)
  replace g1 : DataW.trod enc Tryz.prog w 0 (fun _ => true) true n 3 [a1] = some z1 := g1
  obtain ⟨y1, k1, o1⟩ := (Opn.int Tryz.underlying3).out g1 (Nat.le_trans (bulk_mem (by simp)) hb)
  have k1 : [a1] = _ := k1; cases k1
  have g2 := trod_field hf 2 3 2 1 (by kernel_rfl) (by kernel_rfl)
  replace g2 : DataW.trod enc Tryz.prog w 0 (fun _ => true) true n 3 [a2] = some z2 := g2
  obtain ⟨y2, k2, o2⟩ := (Opn.int Tryz.underlying3).out g2 (Nat.le_trans (bulk_mem (by simp)) hb)
  have k2 : [a2] = _ := k2; cases k2
  have g3 := trod_field hf 3 3 3 1 (by kernel_rfl) (by kernel_rfl)
  replace g3 : DataW.trod enc Tryz.prog w 0 (fun _ => true) true n 3 [a3] = some z3 := g3
  obtain ⟨y3, k3, o3⟩ := (Opn.int Tryz.underlying3).out g3 (Nat.le_trans (bulk_mem (by simp)) hb)
  have k3 : [a3] = _ := k3; cases k3
  have g4 := trod_field hf 4 92 4 2 (by kernel_rfl) (by kernel_rfl)
  replace g4 : DataW.trod enc Tryz.prog w 0 (fun _ => true) true n 92 [a4, a5] = some z4 := g4
  obtain ⟨y4, k4, o4⟩ := opnId.out g4 (Nat.le_trans (bulk_mem (by simp)) hb)
  have k4 : [a4, a5] = _ := k4; cases k4
  have g5 := trod_field hf 5 29 6 1 (by kernel_rfl) (by kernel_rfl)
  replace g5 : DataW.trod enc Tryz.prog w 0 (fun _ => true) true n 29 [a6] = some z5 := g5
  obtain ⟨y5, k5, o5⟩ := (Opn.sl (Opn.u8 Tryz.underlying5) Tryz.underlying29 (by kernel_rfl) (by decide)).out g5 (Nat.le_trans (bulk_mem (by simp)) hb)
  obtain ⟨v5, e5, s5⟩ := k5; cases e5
  have g6 := trod_field hf 6 44 7 1 (by kernel_rfl) (by kernel_rfl)
  replace g6 : DataW.trod enc Tryz.prog w 0 (fun _ => true) true n 44 [a7] = some z6 := g6
  obtain ⟨y6, k6, o6⟩ := (Opn.sl (Opn.int Tryz.underlying3) Tryz.underlying44 (by kernel_rfl) (by decide)).out g6 (Nat.le_trans (bulk_mem (by simp)) hb)
  obtain ⟨v6, e6, s6⟩ := k6; cases e6
  exact ⟨⟨y0, y1, y2, y3, y4, y5, y6⟩, ⟨_, _, s5, s6, rfl⟩, ⟨o0, o1, o2, o3, o4, o5, o6⟩⟩⟩
def okEvent (x : Event) : Prop := (IntKind.min .i64 ≤ x.Client ∧ x.Client ≤ IntKind.max .i64) ∧ (IntKind.min .i64 ≤ x.Stamp ∧ x.Stamp ≤ IntKind.max .i64) ∧ (IntKind.min .i64 ≤ x.Asked ∧ x.Asked ≤ IntKind.max .i64) ∧ (IntKind.min .i64 ≤ x.Answered ∧ x.Answered ≤ IntKind.max .i64) ∧ (x.Op.length ≤ 1048576 ∧ ∀ y ∈ x.Op, (True)) ∧ (x.Answer.length ≤ 1048576 ∧ ∀ y ∈ x.Answer, (True))
theorem opnEvent : Opn Tryz.prog 31 kEvent okEvent := ⟨fun {H enc w fuel cs x} h hb => by
  obtain ⟨xs, n, _, rfl, hl, hlen, hf⟩ := DataW.trod_struct Tryz.underlying31 h
  have hl : cs.length = 6 := hl.trans (by kernel_rfl)
  have hlen : xs.length = 6 := hlen
  obtain ⟨a0, a1, a2, a3, a4, a5, rfl⟩ : ∃ a0 a1 a2 a3 a4 a5, cs = [a0, a1, a2, a3, a4, a5] := by match cs, hl with | [a0, a1, a2, a3, a4, a5], _ => exact ⟨a0, a1, a2, a3, a4, a5, rfl⟩
  obtain ⟨z0, z1, z2, z3, z4, z5, rfl⟩ : ∃ z0 z1 z2 z3 z4 z5, xs = [z0, z1, z2, z3, z4, z5] := by match xs, hlen with | [z0, z1, z2, z3, z4, z5], _ => exact ⟨z0, z1, z2, z3, z4, z5, rfl⟩
  have hb : Rows.uptoBulkAll [z0.1, z1.1, z2.1, z3.1, z4.1, z5.1] ≤ 1048576 := by simp only [Rows.uptoBulk, List.map_cons, List.map_nil] at hb; omega
  have g0 := trod_field hf 0 3 0 1 (by kernel_rfl) (by kernel_rfl)
  replace g0 : DataW.trod enc Tryz.prog w 0 (fun _ => true) true n 3 [a0] = some z0 := g0
  obtain ⟨y0, k0, o0⟩ := (Opn.int Tryz.underlying3).out g0 (Nat.le_trans (bulk_mem (by simp)) hb)
  have k0 : [a0] = _ := k0; cases k0
  have g1 := trod_field hf 1 3 1 1 (by kernel_rfl) (by kernel_rfl)
  replace g1 : DataW.trod enc Tryz.prog w 0 (fun _ => true) true n 3 [a1] = some z1 := g1
  obtain ⟨y1, k1, o1⟩ := (Opn.int Tryz.underlying3).out g1 (Nat.le_trans (bulk_mem (by simp)) hb)
  have k1 : [a1] = _ := k1; cases k1
  have g2 := trod_field hf 2 3 2 1 (by kernel_rfl) (by kernel_rfl)
  replace g2 : DataW.trod enc Tryz.prog w 0 (fun _ => true) true n 3 [a2] = some z2 := g2
  obtain ⟨y2, k2, o2⟩ := (Opn.int Tryz.underlying3).out g2 (Nat.le_trans (bulk_mem (by simp)) hb)
  have k2 : [a2] = _ := k2; cases k2
  have g3 := trod_field hf 3 3 3 1 (by kernel_rfl) (by kernel_rfl)
  replace g3 : DataW.trod enc Tryz.prog w 0 (fun _ => true) true n 3 [a3] = some z3 := g3
  obtain ⟨y3, k3, o3⟩ := (Opn.int Tryz.underlying3).out g3 (Nat.le_trans (bulk_mem (by simp)) hb)
  have k3 : [a3] = _ := k3; cases k3
  have g4 := trod_field hf 4 29 4 1 (by kernel_rfl) (by kernel_rfl)
  replace g4 : DataW.trod enc Tryz.prog w 0 (fun _ => true) true n 29 [a4] = some z4 := g4
  obtain ⟨y4, k4, o4⟩ := (Opn.sl (Opn.u8 Tryz.underlying5) Tryz.underlying29 (by kernel_rfl) (by decide)).out g4 (Nat.le_trans (bulk_mem (by simp)) hb)
  obtain ⟨v4, e4, s4⟩ := k4; cases e4
  have g5 := trod_field hf 5 29 5 1 (by kernel_rfl) (by kernel_rfl)
  replace g5 : DataW.trod enc Tryz.prog w 0 (fun _ => true) true n 29 [a5] = some z5 := g5
  obtain ⟨y5, k5, o5⟩ := (Opn.sl (Opn.u8 Tryz.underlying5) Tryz.underlying29 (by kernel_rfl) (by decide)).out g5 (Nat.le_trans (bulk_mem (by simp)) hb)
  obtain ⟨v5, e5, s5⟩ := k5; cases e5
  exact ⟨⟨y0, y1, y2, y3, y4, y5⟩, ⟨_, _, s4, s5, rfl⟩, ⟨o0, o1, o2, o3, o4, o5⟩⟩⟩
end Go.Proofs.YtmjebehhpojihaaGreatDoor.Sw
