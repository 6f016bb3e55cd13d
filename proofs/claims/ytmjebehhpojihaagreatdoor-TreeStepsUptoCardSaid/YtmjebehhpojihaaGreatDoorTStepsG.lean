/- Lemmas for a law of this seat: what the functions compute, and plain facts of it. Own text. -/
import Derived.Test.YtmjebehhpojihaaGreatDoorTStepsF
import Derived.Lib.SplitLaws
namespace Go.Proofs.YtmjebehhpojihaaGreatDoor.Sw
set_option linter.unusedVariables false
set_option linter.unusedSimpArgs false
set_option linter.deprecated false
open Go Go.RowKit
structure Glob (g : GH) : Prop where
  maxLen : ∃ m cs T fz, g 0 = some (.cells cs T fz) ∧ cs[0]? = some (.int .i64 m)
theorem Glob.mono {g g' : GH} (H : Glob g) (hg : gle g g') : Glob g' := ⟨let ⟨m, cs, T, fz, h, h2⟩ := H.maxLen; ⟨m, cs, T, fz, hg _ _ h, h2⟩⟩
def Pow10 (g : GH) : Prop := ∃ T fz, g 1 = some (.cells (Lib.pow10Tab.map fun z => Value.int .u64 z).toArray T fz)
theorem Pow10.mono {g g' : GH} (H : Pow10 g) (hg : gle g g') : Pow10 g' := let ⟨T, fz, h⟩ := H; ⟨T, fz, hg _ _ h⟩
theorem St.below {g : GH} {h : Heap} (hg : Sub g h) {B w w' : World} (is : Is B h w) (hb : Below w.heap.size w w') : St h g (ids []) g [] w'.heap :=
  ⟨by rw [← is.heap]; exact hb.size, fun b hb' _ => by rw [hb.block b (by rw [is.heap]; exact hb'), is.heap], gle.refl _, fun _ hx => .inl hx,
    fun b o hb' => by rw [hb.block b (by rw [is.heap]; exact hg.lt hb'), is.heap]; exact hg b o hb',
    fun _ hp => by simp at hp, by simp, fun _ hp => by simp at hp, fun _ hp => by simp at hp⟩
theorem Is.below {B : World} {h : Heap} {w w' : World} (is : Is B h w) (hb : Below w.heap.size w w') : Is B w'.heap w' :=
  ⟨rfl, hb.os.trans is.os, hb.tape.trans is.tape, hb.output.trans is.output⟩
theorem Spec.of_below {P : Program} {B : World} {f : FuncId} {args : Array Value} {h : Heap} {g : GH} {res : Value} (hg : Sub g h)
    (H : ∀ w, Is B h w → Calls P f args w fun e w' => e = .returned res ∧ Below w.heap.size w w') : Spec P B f args h g [] fun v g' L' => v = res ∧ g' = g ∧ L' = [] :=
  fun w is => (H w is).mono fun _ _ ⟨he, hb⟩ => ⟨res, he, is.below hb, g, [], St.below hg is hb, rfl, rfl, rfl⟩
theorem grow_below (w : World) (k : Nat) (os : Array Obj) : Below w.heap.size w (Go.Sort.grow (w.drewN k) os) := by
  refine ⟨rfl, rfl, rfl, ?_, fun b hb => ?_⟩
  · simp [Go.Sort.grow, World.drewN]
  · show (w.heap ++ os)[b]? = _
    rw [Array.getElem?_append, if_pos hb]
theorem itoa_spec (B : World) (h : Heap) (g : GH) (hg : Sub g h) (hG : Glob g) (n : Int) (hP : Pow10 g) (h0 : -9223372036854775808 ≤ n) (h1 : n ≤ 9223372036854775807) :
    Spec Tryz.prog B 67 #[.int .i64 n] h g [] fun v g' L' => v = .string (mkS (Lib.itoa n)) ∧ g' = g ∧ L' = [] := by
  refine Spec.of_below hg fun w is => ?_
  refine (Tryz.strconv_Itoa n h0 h1 w ?_).mono fun e w' ⟨he, k, os, hw⟩ => ⟨he, hw ▸ grow_below w k os⟩
  obtain ⟨T, fz, ht⟩ := hP
  have hn : Tryz.prog.globalNamed "internal/strconv.uint64pow10" = some 1 := by kernel_rfl
  unfold Lib.TabIs World.var?
  rw [hn]
  simp only [Option.bind_some, is.heap, hg _ _ ht]
theorem splitK_on (c : UInt8) : ∀ l : List UInt8, Lib.splitK [c] 0 (Lib.count l [c]) l = splitOn c l
  | [] => by rw [Lib.count_one]; rfl
  | b :: l => by
    have ih := splitK_on c l
    by_cases hb : b = c
    · subst hb
      rw [Lib.count_cons_eq, Nat.add_comm, splitOn, if_pos rfl, Lib.splitK]
      have hi : Lib.index (b :: l) [b] = 0 := by rw [Lib.index]; simp [List.isPrefixOf]
      rw [hi, if_neg (by decide)]
      simp only [Int.toNat_zero, Nat.add_zero, List.take_zero, Nat.zero_add, List.length_singleton, List.drop_one, List.tail_cons, ih]
    · rw [Lib.count_cons_ne b c l hb, splitOn, if_neg hb, ← ih]
      have hp : ([c] : List UInt8).isPrefixOf (b :: l) = false := by simp [List.isPrefixOf, Ne.symm hb]
      have hix : Lib.index (b :: l) [c] = if Lib.index l [c] == -1 then -1 else Lib.index l [c] + 1 := by rw [Lib.index, hp]; simp
      cases hk : Lib.count l [c] with
      | zero => rfl
      | succ k =>
        simp only [Lib.splitK, hix]
        by_cases hm : Lib.index l [c] = -1
        · simp [hm]
        · have hge := Lib.index_ge l [c]
          have hm2 : (Lib.index l [c] == -1) = false := by simpa using hm
          have hm3 : ¬ (Lib.index l [c] + 1 = -1) := by omega
          have e : (Lib.index l [c] + 1).toNat = (Lib.index l [c]).toNat + 1 := by omega
          simp [hm2, hm3, e]
theorem splitB_map (s sep : ByteArray) (save k : Nat) : (Lib.splitB sep save k s) = (Lib.splitK sep.data.toList save k s.data.toList).map mkS := by
  rw [← Lib.splitB_data, List.map_map]
  have : (mkS ∘ fun x : ByteArray => x.data.toList) = id := by funext x; exact mkS_data x
  rw [this, List.map_id]
theorem reads_strs (g : GH) : ∀ l : List (List UInt8), Reads kStr g l (l.map fun x => .string (mkS x))
  | [] => rfl
  | x :: l => ⟨[.string (mkS x)], _, rfl, rfl, reads_strs g l⟩
theorem split_spec (B : World) (h : Heap) (g : GH) (hg : Sub g h) (hG : Glob g) (s : List UInt8) (c : UInt8) (hs : s.length < 4294967281) :
    Spec Tryz.prog B 57 #[.string (mkS s), .string (mkS [c])] h g [] fun v g' L' => ∃ v0, v = v0 ∧ SlR g' 9 kStr v0 (splitOn c s) ∧ L' = [] := by
  obtain ⟨m, cs0, T, fz, ht, ht2⟩ := hG.maxLen
  intro w is
  have hcell : w.cell? ⟨0, 0, none⟩ = some (.int .i64 m) := by rw [cell_of is.heap, hcell_row (hg _ _ ht)]; exact ht2
  refine (Tryz.strings_Split (mkS s) (mkS [c]) m w (by rw [size_mkS]; exact hs) hcell (by simp [size_mkS])).mono fun e w' ⟨he, hw⟩ => ?_
  have hcnt : Lib.countB (mkS s) (mkS [c]) = Lib.count s [c] := rfl
  have hrow : (Lib.splitB (mkS [c]) 0 (Lib.countB (mkS s) (mkS [c])) (mkS s)).map Value.string = (splitOn c s).map fun x => .string (mkS x) := by
    rw [splitB_map, hcnt]
    show ((Lib.splitK [c] 0 (Lib.count s [c]) s).map mkS).map Value.string = _
    rw [splitK_on, List.map_map]; rfl
  have hlen : Lib.countB (mkS s) (mkS [c]) + 1 = (splitOn c s).length := by rw [splitOn_length, hcnt, Lib.count_one]
  rw [hrow] at hw
  rw [hlen] at he
  have hh : w'.heap = h.push (.cells ((splitOn c s).map fun x => Value.string (mkS x)).toArray 9 (0, 0)) := by rw [hw, ← is.heap]; rfl
  have s1 := (St.init hg).alloc (.cells ((splitOn c s).map fun x => Value.string (mkS x)).toArray 9 (0, 0))
  obtain ⟨s2, hle⟩ := s1.freeze
  refine ⟨_, he, ⟨rfl, ?_, ?_, ?_⟩, gadd g [(h.size, .cells ((splitOn c s).map fun x => Value.string (mkS x)).toArray 9 (0, 0))], [], ?_, _, rfl,
    ⟨_, _, rfl, Nat.le_refl _, fun _ => ⟨_, _, ((splitOn c s).map fun x => Value.string (mkS x)).toArray, (9, 0, 0), rfl, ?_, ?_⟩⟩, rfl⟩
  · rw [hw]; exact is.os
  · rw [hw]; exact is.tape
  · rw [hw]; exact is.output
  · rw [hh]; exact s2
  · rw [is.heap]; exact gadd_one _ _
  · exact reads_cut (cs := (splitOn c s).map fun x => Value.string (mkS x)) (pre := []) (post := []) (o := 0) (reads_strs _ _) rfl _ (by simp)
theorem dropWhile_nil {α : Type} (p : α → Bool) : ∀ l : List α, (l.dropWhile p = [] ↔ ∀ x ∈ l, p x = true)
  | [] => by simp
  | x :: l => by
    rw [List.dropWhile_cons]
    by_cases hx : p x = true
    · simp [hx, dropWhile_nil p l]
    · simp [hx]
theorem trimS_nil (l cs : List UInt8) : Lib.trimS l cs = [] ↔ ∀ b ∈ l, cs.contains b = true := by
  unfold Lib.trimS Lib.trimLeftS Lib.trimRightS
  rw [dropWhile_nil]
  constructor
  · intro H b hb
    by_cases hall : ∀ x ∈ l, cs.contains x = true
    · exact hall b hb
    · exfalso
      have hne : l.reverse.dropWhile (cs.contains ·) ≠ [] := by rw [Ne, dropWhile_nil]; simpa using hall
      obtain ⟨y, ys, e⟩ := List.exists_cons_of_ne_nil hne
      have h1 := H y (by rw [e]; simp)
      have h2 := List.head_dropWhile_not (p := (cs.contains ·)) (l := l.reverse) hne
      simp only [e, List.head_cons] at h2
      rw [h1] at h2; cases h2
  · intro H b hb
    have := List.dropWhile_sublist (cs.contains ·) (l := l.reverse)
    exact H b (by simpa using this.mem (by simpa using hb))
theorem trim_spec (B : World) (h : Heap) (g : GH) (hg : Sub g h) (hG : Glob g) (s cs : List UInt8) (hs : s.length ≤ 9223372036854775807) (hc : cs.length < 4294967281) (ha : ∀ (j : Nat) b, cs[j]? = some b → b.toNat < 128) :
    Spec Tryz.prog B 145 #[.string (mkS s), .string (mkS cs)] h g [] fun v g' L' => v = .string (mkS (Lib.trimS s cs)) ∧ g' = g ∧ L' = [] := by
  refine Spec.of_below hg fun w is => ?_
  exact (Any.strings_Trim_laid Tryz.lays160 (by kernel_rfl) (mkS s) (mkS cs) w (by rw [size_mkS]; exact hs) (by rw [size_mkS]; exact hc) ha)
theorem repeat_spec (B : World) (h : Heap) (g : GH) (hg : Sub g h) (hG : Glob g) (s : List UInt8) (c : Int) (h0 : 0 ≤ c) (hc : c ≤ 1000000000) (hs : s.length * c.toNat ≤ 140737488355328) :
    Spec Tryz.prog B 120 #[.string (mkS s), .int .i64 c] h g [] fun v g' L' => v = .string (mkS (Lib.repeatL s c.toNat)) ∧ g' = g ∧ L' = [] := by
  refine Spec.of_below hg fun w is => ?_
  have := Tryz.strings_Repeat (mkS s) c.toNat w (by omega) (by rw [size_mkS]; exact hs)
  rw [show ((c.toNat : Nat) : Int) = c from by omega] at this
  exact this
theorem join_spec (B : World) (h : Heap) (g : GH) (hg : Sub g h) (hG : Glob g) (v_l : Value) (l : List (List UInt8)) (h_l : SlR g 9 kStr v_l l) (sep : List UInt8) (hN : l.length ≤ 140737488355328) (hL : (Lib.join l sep).length ≤ 140737488355328) :
    Spec Tryz.prog B 68 #[v_l, .string (mkS sep)] h g [] fun v g' L' => v = .string (mkS (Lib.join l sep)) ∧ g' = g ∧ L' = [] := by
  refine Spec.of_below hg fun w is => ?_
  obtain ⟨ao, c, rfl, hc, H⟩ := h_l
  by_cases hl : l = []
  · subst hl
    exact (Tryz.strings_Join_none ao c (mkS sep) w).mono fun e w' ⟨he, hw⟩ => ⟨he, hw ▸ Below.refl _ _⟩
  · obtain ⟨b, o, cur, fz, rfl, hb, hr⟩ := H hl
    have hmap : (l.map mkS).map (fun x : ByteArray => x.data.toList) = l := by
      rw [List.map_map]
      have : ((fun x : ByteArray => x.data.toList) ∘ mkS) = id := by funext x; rfl
      rw [this, List.map_id]
    have hlen : (l.map mkS).length = l.length := List.length_map ..
    have := Tryz.strings_Join b o c (l.map mkS) (mkS sep) w (fun j x hj => ?_) (by rw [is.heap]; exact hg.lt hb) (by rw [hlen]; exact hN) (by rw [hlen]; exact hc) (by rw [hmap]; exact hL)
    · rw [hlen, hmap] at this
      exact this
    · rw [List.getElem?_map] at hj
      obtain ⟨y, hy, rfl⟩ := Option.map_eq_some_iff.1 hj
      have h2 := hr.at_ j hy
      rw [cut_cut _ _ _ _ _ (by
        have hlt := (List.getElem?_eq_some_iff.1 hy).1
        have : (j + 1) * kStr.sz ≤ l.length * kStr.sz := Nat.mul_le_mul_right _ hlt
        rw [Nat.succ_mul] at this
        exact this)] at h2
      rw [cell_of is.heap, hcell_row (hg _ _ hb)]
      have h3 : cut cur (o + j * 1) 1 = [.string (mkS y)] := h2
      have := cut_get h3 0 rfl
      simpa using this
end Go.Proofs.YtmjebehhpojihaaGreatDoor.Sw
