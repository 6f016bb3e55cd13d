/- Lemmas for a law of this seat: what the functions compute, and plain facts of it. Own text. -/
import Derived.Test.YtmjebehhpojihaaGreatDoorCShowsF
import Derived.Lib.SplitLaws
namespace Go.Proofs.YtmjebehhpojihaaGreatDoor.Sw
set_option linter.unusedVariables false
set_option linter.unusedSimpArgs false
set_option linter.deprecated false
open Go Go.RowKit
structure Glob (g : GH) : Prop where
  maxLen : ∃ m cs T fz, g 0 = some (.cells cs T fz) ∧ cs[0]? = some (.int .i64 m)
theorem Glob.mono {g g' : GH} (H : Glob g) (hg : gle g g') : Glob g' := ⟨let ⟨m, cs, T, fz, h, h2⟩ := H.maxLen; ⟨m, cs, T, fz, hg _ _ h, h2⟩⟩
def Pow10 (g : GH) : Prop := ∃ T fz, g 1 = some (.cells (Lib.pow10Tab.map fun z => Value.int .u64 z).toArray T fz)
theorem Pow10.mono {g g' : GH} (H : Pow10 g) (hg : gle g g') : Pow10 g' := let ⟨T, fz, h⟩ := H; ⟨T, fz, hg _ _ h⟩
theorem St.below {g : GH} {h : Heap} (hg : Sub g h) {B w w' : World} (is : Is B h w) (hb : Below w.heap.size w w') : St h g (ids []) g [] w'.heap :=
  ⟨by rw [← is.heap]; exact hb.size, fun b hb' _ => by rw [hb.block b (by rw [is.heap]; exact hb'), is.heap], gle.refl _, fun _ hx => .inl hx,
    fun b o hb' => by rw [hb.block b (by rw [is.heap]; exact hg.lt hb'), is.heap]; exact hg b o hb',
    fun _ hp => by simp at hp, by simp, fun _ hp => by simp at hp, fun _ hp => by simp at hp⟩
theorem Is.below {B : World} {h : Heap} {w w' : World} (is : Is B h w) (hb : Below w.heap.size w w') : Is B w'.heap w' :=
  ⟨rfl, hb.os.trans is.os, hb.tape.trans is.tape, hb.output.trans is.output⟩
theorem Spec.of_below {P : Program} {B : World} {f : FuncId} {args : Array Value} {h : Heap} {g : GH} {res : Value} (hg : Sub g h)
    (H : ∀ w, Is B h w → Calls P f args w fun e w' => e = .returned res ∧ Below w.heap.size w w') : Spec P B f args h g [] fun v g' L' => v = res ∧ g' = g ∧ L' = [] :=
  fun w is => (H w is).mono fun _ _ ⟨he, hb⟩ => ⟨res, he, is.below hb, g, [], St.below hg is hb, rfl, rfl, rfl⟩
theorem grow_below (w : World) (k : Nat) (os : Array Obj) : Below w.heap.size w (Go.Sort.grow (w.drewN k) os) := by
  refine ⟨rfl, rfl, rfl, ?_, fun b hb => ?_⟩
  · simp [Go.Sort.grow, World.drewN]
  · show (w.heap ++ os)[b]? = _
    rw [Array.getElem?_append, if_pos hb]
theorem itoa_spec (B : World) (h : Heap) (g : GH) (hg : Sub g h) (hG : Glob g) (n : Int) (hP : Pow10 g) (h0 : -9223372036854775808 ≤ n) (h1 : n ≤ 9223372036854775807) :
    Spec Tryz.prog B 67 #[.int .i64 n] h g [] fun v g' L' => v = .string (mkS (Lib.itoa n)) ∧ g' = g ∧ L' = [] := by
  refine Spec.of_below hg fun w is => ?_
  refine (Tryz.strconv_Itoa n h0 h1 w ?_).mono fun e w' ⟨he, k, os, hw⟩ => ⟨he, hw ▸ grow_below w k os⟩
  obtain ⟨T, fz, ht⟩ := hP
  have hn : Tryz.prog.globalNamed "internal/strconv.uint64pow10" = some 1 := by kernel_rfl
  unfold Lib.TabIs World.var?
  rw [hn]
  simp only [Option.bind_some, is.heap, hg _ _ ht]
theorem splitK_on (c : UInt8) : ∀ l : List UInt8, Lib.splitK [c] 0 (Lib.count l [c]) l = splitOn c l
  | [] => by rw [Lib.count_one]; rfl
  | b :: l => by
    have ih := splitK_on c l
    by_cases hb : b = c
    · subst hb
      rw [Lib.count_cons_eq, Nat.add_comm, splitOn, if_pos rfl, Lib.splitK]
      have hi : Lib.index (b :: l) [b] = 0 := by rw [Lib.index]; simp [List.isPrefixOf]
      rw [hi, if_neg (by decide)]
      simp only [Int.toNat_zero, Nat.add_zero, List.take_zero, Nat.zero_add, List.length_singleton, List.drop_one, List.tail_cons, ih]
    · rw [Lib.count_cons_ne b c l hb, splitOn, if_neg hb, ← ih]
      have hp : ([c] : List UInt8).isPrefixOf (b :: l) = false := by simp [List.isPrefixOf, Ne.symm hb]
      have hix : Lib.index (b :: l) [c] = if Lib.index l [c] == -1 then -1 else Lib.index l [c] + 1 := by rw [Lib.index, hp]; simp
      cases hk : Lib.count l [c] with
      | zero => rfl
      | succ k =>
        simp only [Lib.splitK, hix]
        by_cases hm : Lib.index l [c] = -1
        · simp [hm]
        · have hge := Lib.index_ge l [c]
          have hm2 : (Lib.index l [c] == -1) = false := by simpa using hm
          have hm3 : ¬ (Lib.index l [c] + 1 = -1) := by omega
          have e : (Lib.index l [c] + 1).toNat = (Lib.index l [c]).toNat + 1 := by omega
          simp [hm2, hm3, e]
theorem splitB_map (s sep : ByteArray) (save k : Nat) : (Lib.splitB sep save k s) = (Lib.splitK sep.data.toList save k s.data.toList).map mkS := by
  rw [← Lib.splitB_data, List.map_map]
  have : (mkS ∘ fun x : ByteArray => x.data.toList) = id := by funext x; exact mkS_data x
  rw [this, List.map_id]
theorem reads_strs (g : GH) : ∀ l : List (List UInt8), Reads kStr g l (l.map fun x => .string (mkS x))
  | [] => rfl
  | x :: l => ⟨[.string (mkS x)], _, rfl, rfl, reads_strs g l⟩
theorem split_spec (B : World) (h : Heap) (g : GH) (hg : Sub g h) (hG : Glob g) (s : List UInt8) (c : UInt8) (hs : s.length < 4294967281) :
    Spec Tryz.prog B 57 #[.string (mkS s), .string (mkS [c])] h g [] fun v g' L' => ∃ v0, v = v0 ∧ SlR g' 9 kStr v0 (splitOn c s) ∧ L' = [] := by
  obtain ⟨m, cs0, T, fz, ht, ht2⟩ := hG.maxLen
  intro w is
  have hcell : w.cell? ⟨0, 0, none⟩ = some (.int .i64 m) := by rw [cell_of is.heap, hcell_row (hg _ _ ht)]; exact ht2
  refine (Tryz.strings_Split (mkS s) (mkS [c]) m w (by rw [size_mkS]; exact hs) hcell (by simp [size_mkS])).mono fun e w' ⟨he, hw⟩ => ?_
  have hcnt : Lib.countB (mkS s) (mkS [c]) = Lib.count s [c] := rfl
  have hrow : (Lib.splitB (mkS [c]) 0 (Lib.countB (mkS s) (mkS [c])) (mkS s)).map Value.string = (splitOn c s).map fun x => .string (mkS x) := by
    rw [splitB_map, hcnt]
    show ((Lib.splitK [c] 0 (Lib.count s [c]) s).map mkS).map Value.string = _
    rw [splitK_on, List.map_map]; rfl
  have hlen : Lib.countB (mkS s) (mkS [c]) + 1 = (splitOn c s).length := by rw [splitOn_length, hcnt, Lib.count_one]
  rw [hrow] at hw
  rw [hlen] at he
  have hh : w'.heap = h.push (.cells ((splitOn c s).map fun x => Value.string (mkS x)).toArray 9 (0, 0)) := by rw [hw, ← is.heap]; rfl
  have s1 := (St.init hg).alloc (.cells ((splitOn c s).map fun x => Value.string (mkS x)).toArray 9 (0, 0))
  obtain ⟨s2, hle⟩ := s1.freeze
  refine ⟨_, he, ⟨rfl, ?_, ?_, ?_⟩, gadd g [(h.size, .cells ((splitOn c s).map fun x => Value.string (mkS x)).toArray 9 (0, 0))], [], ?_, _, rfl,
    ⟨_, _, rfl, Nat.le_refl _, fun _ => ⟨_, _, ((splitOn c s).map fun x => Value.string (mkS x)).toArray, (9, 0, 0), rfl, ?_, ?_⟩⟩, rfl⟩
  · rw [hw]; exact is.os
  · rw [hw]; exact is.tape
  · rw [hw]; exact is.output
  · rw [hh]; exact s2
  · rw [is.heap]; exact gadd_one _ _
  · exact reads_cut (cs := (splitOn c s).map fun x => Value.string (mkS x)) (pre := []) (post := []) (o := 0) (reads_strs _ _) rfl _ (by simp)
theorem dropWhile_nil {α : Type} (p : α → Bool) : ∀ l : List α, (l.dropWhile p = [] ↔ ∀ x ∈ l, p x = true)
  | [] => by simp
  | x :: l => by
    rw [List.dropWhile_cons]
    by_cases hx : p x = true
    · simp [hx, dropWhile_nil p l]
    · simp [hx]
theorem trimS_nil (l cs : List UInt8) : Lib.trimS l cs = [] ↔ ∀ b ∈ l, cs.contains b = true := by
  unfold Lib.trimS Lib.trimLeftS Lib.trimRightS
  rw [dropWhile_nil]
  constructor
  · intro H b hb
    by_cases hall : ∀ x ∈ l, cs.contains x = true
    · exact hall b hb
    · exfalso
      have hne : l.reverse.dropWhile (cs.contains ·) ≠ [] := by rw [Ne, dropWhile_nil]; simpa using hall
      obtain ⟨y, ys, e⟩ := List.exists_cons_of_ne_nil hne
      have h1 := H y (by rw [e]; simp)
      have h2 := List.head_dropWhile_not (p := (cs.contains ·)) (l := l.reverse) hne
      simp only [e, List.head_cons] at h2
      rw [h1] at h2; cases h2
  · intro H b hb
    have := List.dropWhile_sublist (cs.contains ·) (l := l.reverse)
    exact H b (by simpa using this.mem (by simpa using hb))
theorem trim_spec (B : World) (h : Heap) (g : GH) (hg : Sub g h) (hG : Glob g) (s cs : List UInt8) (hs : s.length ≤ 9223372036854775807) (hc : cs.length < 4294967281) (ha : ∀ (j : Nat) b, cs[j]? = some b → b.toNat < 128) :
    Spec Tryz.prog B 145 #[.string (mkS s), .string (mkS cs)] h g [] fun v g' L' => v = .string (mkS (Lib.trimS s cs)) ∧ g' = g ∧ L' = [] := by
  refine Spec.of_below hg fun w is => ?_
  exact (Any.strings_Trim_laid Tryz.lays160 (by kernel_rfl) (mkS s) (mkS cs) w (by rw [size_mkS]; exact hs) (by rw [size_mkS]; exact hc) ha)
theorem join_spec (B : World) (h : Heap) (g : GH) (hg : Sub g h) (hG : Glob g) (v_l : Value) (l : List (List UInt8)) (h_l : SlR g 9 kStr v_l l) (sep : List UInt8) (hN : l.length ≤ 140737488355328) (hL : (Lib.join l sep).length ≤ 140737488355328) :
    Spec Tryz.prog B 68 #[v_l, .string (mkS sep)] h g [] fun v g' L' => v = .string (mkS (Lib.join l sep)) ∧ g' = g ∧ L' = [] := by
  refine Spec.of_below hg fun w is => ?_
  obtain ⟨ao, c, rfl, hc, H⟩ := h_l
  by_cases hl : l = []
  · subst hl
    exact (Tryz.strings_Join_none ao c (mkS sep) w).mono fun e w' ⟨he, hw⟩ => ⟨he, hw ▸ Below.refl _ _⟩
  · obtain ⟨b, o, cur, fz, rfl, hb, hr⟩ := H hl
    have hmap : (l.map mkS).map (fun x : ByteArray => x.data.toList) = l := by
      rw [List.map_map]
      have : ((fun x : ByteArray => x.data.toList) ∘ mkS) = id := by funext x; rfl
      rw [this, List.map_id]
    have hlen : (l.map mkS).length = l.length := List.length_map ..
    have := Tryz.strings_Join b o c (l.map mkS) (mkS sep) w (fun j x hj => ?_) (by rw [is.heap]; exact hg.lt hb) (by rw [hlen]; exact hN) (by rw [hlen]; exact hc) (by rw [hmap]; exact hL)
    · rw [hlen, hmap] at this
      exact this
    · rw [List.getElem?_map] at hj
      obtain ⟨y, hy, rfl⟩ := Option.map_eq_some_iff.1 hj
      have h2 := hr.at_ j hy
      rw [cut_cut _ _ _ _ _ (by
        have hlt := (List.getElem?_eq_some_iff.1 hy).1
        have : (j + 1) * kStr.sz ≤ l.length * kStr.sz := Nat.mul_le_mul_right _ hlt
        rw [Nat.succ_mul] at this
        exact this)] at h2
      rw [cell_of is.heap, hcell_row (hg _ _ hb)]
      have h3 : cut cur (o + j * 1) 1 = [.string (mkS y)] := h2
      have := cut_get h3 0 rfl
      simpa using this
end Go.Proofs.YtmjebehhpojihaaGreatDoor.Sw
namespace Go.Proofs.YtmjebehhpojihaaGreatDoor.Sw
set_option linter.unusedVariables false
set_option linter.unusedSimpArgs false
set_option linter.deprecated false
open Go
def sgn (c : UInt8) : Bool := (decide (97 ≤ c.toNat) && decide (c.toNat ≤ 122)) || ((decide (48 ≤ c.toNat) && decide (c.toNat ≤ 57)) || (decide (c.toNat = 45) || decide (c.toNat = 95)))
def okPart (s : List UInt8) : Bool := decide (s ≠ []) && (decide (s.length ≤ 16) && s.all sgn)
def pOk (p : List UInt8) : Bool := decide (p.head? = some 47) && (decide (p.length ≤ 64) && (decide (p = [47]) || (splitOn 47 (p.drop 1)).all okPart))
def pList (p : List UInt8) : List (List UInt8) := if pOk p = true then (if p = [47] then [] else splitOn 47 (p.drop 1)) else []
def pErr (p : List UInt8) : Int := if pOk p = true then 0 else 90
theorem pOk_long {p : List UInt8} (h : 64 < p.length) : pOk p = false := by
  simp [pOk]; intro _ h2; omega
def cutErr (p : List UInt8) : Int := if pList p = [] then 90 else 0
def lastOf (l : List (List UInt8)) : List UInt8 := l.getLast?.getD []
def joined (l : List (List UInt8)) : List UInt8 := 47 :: joinC 47 l
def parentOf (p : List UInt8) : List UInt8 := if pList p = [] then [] else joined (pList p).dropLast
def nameOf (p : List UInt8) : List UInt8 := lastOf (pList p)
def checkedS (p : List UInt8) : List UInt8 := if pOk p = true then p else []
def joinS (parent : List UInt8) (parts : List (List UInt8)) : List UInt8 := if pOk parent && parts.all okPart then checkedS (joined (pList parent ++ parts)) else []
def joinE (parent : List UInt8) (parts : List (List UInt8)) : Int := if pOk parent && parts.all okPart then pErr (joined (pList parent ++ parts)) else 90
def withinB (p top : List UInt8) : Bool := (pOk p && pOk top) && (p == top || (top == [47] || (top ++ [47]).isPrefixOf p))
theorem pErr_ok {p : List UInt8} : pErr p = 0 ↔ pOk p = true := by unfold pErr; split <;> simp_all
theorem joinC_cons_len (c : UInt8) (x : List UInt8) (l : List (List UInt8)) : (joinC c (x :: l)).length = x.length + (if l = [] then 0 else 1 + (joinC c l).length) := by
  cases l with
  | nil => simp [joinC]
  | cons y ys => simp [joinC]; omega
theorem joinC_dropLast_len (c : UInt8) : ∀ l : List (List UInt8), (joinC c l.dropLast).length ≤ (joinC c l).length
  | [] => by simp
  | [x] => by simp [joinC]
  | x :: y :: l => by
    have ih := joinC_dropLast_len c (y :: l)
    rw [List.dropLast_cons_cons, joinC_cons_len, joinC_cons_len]
    split <;> simp <;> omega
theorem pJoined {p : List UInt8} (h : pOk p = true) : joined (pList p) = p := by
  unfold pList
  rw [if_pos h]
  have hh : p.head? = some 47 := by simp [pOk] at h; exact h.1
  split
  · rename_i e; subst e; rfl
  · unfold joined
    rw [joinC_splitOn]
    cases p with
    | nil => simp at hh
    | cons b l => simp at hh; subst hh; simp
end Go.Proofs.YtmjebehhpojihaaGreatDoor.Sw
namespace Go.Proofs.YtmjebehhpojihaaGreatDoor.Sw
set_option linter.unusedVariables false
set_option linter.unusedSimpArgs false
set_option linter.deprecated false
open Go
section
variable {α : Type} [DecidableEq α]
theorem sameE_len {a b : List α} (h : ¬ ((a.length : Int) = b.length)) : false = decide (a = b) := by
  symm; rw [decide_eq_false_iff_not]; intro e; subst e; exact h rfl
theorem sameE_ne {a b : List α} {i : Nat} {x y : α} (hx : a[i]? = some x) (hy : b[i]? = some y) (h : ¬ (x = y)) : false = decide (a = b) := by
  symm; rw [decide_eq_false_iff_not]; intro e; subst e; rw [hx] at hy; exact h (Option.some.inj hy)
theorem sameE_end {a b : List α} {i : Int} (hl : (a.length : Int) = b.length) (h : ¬ (i < (a.length : Int))) (ht : a.take i.toNat = b.take i.toNat) : true = decide (a = b) := by
  symm; rw [decide_eq_true_iff]; rwa [List.take_of_length_le (by omega), List.take_of_length_le (by omega)] at ht
end
theorem take_step {α : Type} {a b : List α} {i : Int} {x y : α} (ht : a.take i.toNat = b.take i.toNat) (h0 : 0 ≤ i) (hx : a[i.toNat]? = some x) (hy : b[i.toNat]? = some y) (e : x = y) : a.take (i + 1).toNat = b.take (i + 1).toNat := by
  rw [toNat_succ h0, take_at hx, take_at hy, ht, e]
def wh (l : List (List UInt8)) : List UInt8 := (l.map fun x => 47 :: x).flatten
theorem wh_joined : ∀ l : List (List UInt8), l ≠ [] → wh l = joined l
  | [], h => absurd rfl h
  | [x], _ => by simp [wh, joined, joinC]
  | x :: y :: l, _ => by
    have ih := wh_joined (y :: l) (by simp)
    simp only [wh, List.map_cons, List.flatten_cons] at ih ⊢
    rw [ih]; simp [joined, joinC]
def withinR (p t : List UInt8) : Bool := (pOk p && pOk t) && (pList t).isPrefixOf (pList p)
end Go.Proofs.YtmjebehhpojihaaGreatDoor.Sw
namespace Go.Proofs.YtmjebehhpojihaaGreatDoor.Sw
set_option linter.unusedVariables false
set_option linter.unusedSimpArgs false
set_option linter.deprecated false
open Go
def low : Nat → Nat → List UInt8
  | 0, _ => []
  | k + 1, n => UInt8.ofNat (48 + n / 10 ^ k % 10) :: low k n
theorem cutErr_90 {p : List UInt8} (h : pList p = []) : ¬ (cutErr p = 0) := by simp [cutErr, h]
theorem okPart_len {s : List UInt8} (h : okPart s = true) : s.length ≤ 16 ∧ 1 ≤ s.length := by
  simp only [okPart, Bool.and_eq_true, decide_eq_true_eq] at h
  refine ⟨h.2.1, ?_⟩
  cases s with
  | nil => exact absurd rfl h.1
  | cons => simp
theorem pList_ok (p : List UInt8) : ∀ x ∈ pList p, okPart x = true := by
  intro x hx
  unfold pList at hx
  split at hx
  · rename_i h
    split at hx
    · simp at hx
    · rename_i hne
      simp only [pOk, Bool.and_eq_true, Bool.or_eq_true, List.all_eq_true, decide_eq_true_eq] at h
      rcases h.2.2 with e | e
      · exact absurd e hne
      · exact e x hx
  · simp at hx
theorem okPart_no47 {s : List UInt8} (h : okPart s = true) : 47 ∉ s := by
  simp only [okPart, Bool.and_eq_true, List.all_eq_true] at h
  intro hm
  have := h.2.2 47 hm
  simp [sgn] at this
theorem joined_append {a b : List (List UInt8)} (ha : a ≠ []) (hb : b ≠ []) : joined (a ++ b) = joined a ++ joined b := by
  rw [← wh_joined _ ha, ← wh_joined _ hb, ← wh_joined _ (by simp [ha])]
  simp [wh]
theorem joined_inj {a b : List (List UInt8)} (ha : ∀ x ∈ a, okPart x = true) (hb : ∀ x ∈ b, okPart x = true) (h : joined a = joined b) : a = b := by
  have h2 : joinC 47 a = joinC 47 b := by simpa [joined] using h
  have key : ∀ l : List (List UInt8), (∀ x ∈ l, okPart x = true) → l ≠ [] → splitOn 47 (joinC 47 l) = l := fun l hl hne => splitOn_joinC 47 l hne fun x hx => okPart_no47 (hl x hx)
  have nz : ∀ l : List (List UInt8), (∀ x ∈ l, okPart x = true) → l ≠ [] → joinC 47 l ≠ [] := by
    intro l hl hne e
    cases l with
    | nil => exact hne rfl
    | cons x xs =>
      have h1 := joinC_cons_len 47 x xs
      rw [e] at h1
      have := (okPart_len (hl x (by simp))).2
      simp at h1
      omega
  by_cases e1 : a = []
  · by_cases e2 : b = []
    · rw [e1, e2]
    · subst e1; exact absurd h2.symm (nz b hb e2)
  · by_cases e2 : b = []
    · subst e2; exact absurd h2 (nz a ha e1)
    · rw [← key a ha e1, ← key b hb e2, h2]
theorem slash_list {p : List UInt8} (h : pOk p = true) : p = [47] ↔ pList p = [] := by
  constructor
  · intro e; subst e; decide
  · intro e; have := pJoined h; rw [e] at this; exact this.symm
theorem withinB_eq (p t : List UInt8) : withinB p t = withinR p t := by
  unfold withinB withinR
  by_cases h : (pOk p && pOk t) = true
  · rw [h, Bool.true_and, Bool.true_and]
    simp only [Bool.and_eq_true] at h
    obtain ⟨hp, ht⟩ := h
    have ep := pJoined hp
    have et := pJoined ht
    rw [Bool.eq_iff_iff, List.isPrefixOf_iff_prefix]
    simp only [Bool.or_eq_true, beq_iff_eq, List.isPrefixOf_iff_prefix]
    by_cases h1 : t = [47]
    · simp only [h1, true_or, or_true, true_iff]
      rw [(slash_list (p := [47]) (by decide)).1 rfl]
      exact List.nil_prefix
    have htn : pList t ≠ [] := fun e => h1 ((slash_list ht).2 e)
    constructor
    · rintro (e | e | ⟨c, e⟩)
      · subst e; exact List.prefix_refl _
      · exact absurd e h1
      · -- p = t ++ "/" ++ c
        have hs : splitOn 47 (p.drop 1) = pList t ++ splitOn 47 c := by
          have hd : p.drop 1 = joinC 47 (pList t) ++ 47 :: c := by
            rw [← e]
            conv => lhs; rw [show t = 47 :: joinC 47 (pList t) from et.symm]
            simp
          rw [hd]
          have gen : ∀ l : List (List UInt8), l ≠ [] → (∀ x ∈ l, 47 ∉ x) → splitOn 47 (joinC 47 l ++ 47 :: c) = l ++ splitOn 47 c := by
            intro l
            induction l with
            | nil => intro h; exact absurd rfl h
            | cons x xs ih =>
              intro _ hx
              cases xs with
              | nil => rw [joinC, splitOn_hit 47 x c (hx x (by simp))]; rfl
              | cons y ys =>
                rw [joinC, List.append_assoc, List.cons_append, splitOn_hit 47 x _ (hx x (by simp)), ih (by simp) (fun z hz => hx z (by simp [hz]))]; rfl
          exact gen _ htn fun x hx => okPart_no47 (pList_ok t x hx)
        have hp47 : ¬ (p = [47]) := by
          intro e2
          rw [e2] at e
          have hlen := congrArg List.length e
          simp only [List.length_append, List.length_cons, List.length_nil] at hlen
          have ht0 : t = [] := List.eq_nil_of_length_eq_zero (by omega)
          rw [ht0] at ht
          exact absurd ht (by decide)
        have hpl : pList p = splitOn 47 (p.drop 1) := by simp [pList, hp, hp47]
        rw [hpl, hs]
        exact List.prefix_append _ _
    · rintro ⟨c, e⟩
      by_cases hc : c = []
      · left
        rw [hc, List.append_nil] at e
        rw [← ep, ← et, e]
      · right; right
        rw [← ep, ← e, joined_append htn hc, et, joined]
        exact ⟨joinC 47 c, by simp⟩
  · rw [Bool.not_eq_true] at h; rw [h]; rfl
theorem p_len64 {p : List UInt8} (h : pErr p = 0) : p.length ≤ 64 := by
  rw [pErr_ok] at h
  simp only [pOk, Bool.and_eq_true, decide_eq_true_eq] at h
  exact h.2.1
end Go.Proofs.YtmjebehhpojihaaGreatDoor.Sw
namespace Go.Proofs.YtmjebehhpojihaaGreatDoor.Sw
set_option linter.unusedVariables false
set_option linter.unusedSimpArgs false
set_option linter.deprecated false
open Go
theorem w_ok {p t : List UInt8} (h : withinB p t = true) : pErr p = 0 ∧ pErr t = 0 ∧ pList t <+: pList p := by
  rw [withinB_eq, withinR] at h
  simp only [Bool.and_eq_true, List.isPrefixOf_iff_prefix] at h
  exact ⟨pErr_ok.2 h.1.1, pErr_ok.2 h.1.2, h.2⟩
theorem w_mk {p t : List UInt8} (h1 : pErr p = 0) (h2 : pErr t = 0) (h : pList t <+: pList p) : withinB p t = true := by
  rw [withinB_eq, withinR, pErr_ok.1 h1, pErr_ok.1 h2, Bool.true_and, Bool.true_and]
  exact List.isPrefixOf_iff_prefix.2 h
theorem pOk_joined {l : List (List UInt8)} (h : ∀ x ∈ l, okPart x = true) (hl : (joined l).length ≤ 64) : pOk (joined l) = true := by
  simp only [pOk, Bool.and_eq_true, Bool.or_eq_true, decide_eq_true_eq, List.all_eq_true]
  refine ⟨rfl, hl, ?_⟩
  by_cases e : l = []
  · left; rw [e]; rfl
  · right
    have : (joined l).drop 1 = joinC 47 l := rfl
    rw [this, splitOn_joinC 47 l e fun x hx => okPart_no47 (h x hx)]
    exact h
theorem pList_joined {l : List (List UInt8)} (h : ∀ x ∈ l, okPart x = true) (hk : pOk (joined l) = true) : pList (joined l) = l :=
  joined_inj (pList_ok _) h (pJoined hk)
theorem last_cat {l : List (List UInt8)} (h : l ≠ []) : l.dropLast ++ [lastOf l] = l := by
  have := List.dropLast_concat_getLast h
  rw [lastOf, List.getLast?_eq_some_getLast h]
  exact this
theorem round_p {p : List UInt8} (h : pErr p = 0) (hne : ¬ (p = [47])) : cutErr p = 0 ∧ pErr (parentOf p) = 0 ∧ pList (parentOf p) = (pList p).dropLast ∧ joinE (parentOf p) [nameOf p] = 0 ∧ joinS (parentOf p) [nameOf p] = p ∧ withinB p (parentOf p) = true ∧ withinB (parentOf p) p = false := by
  have hk := pErr_ok.1 h
  have hl : pList p ≠ [] := fun e => hne ((slash_list hk).2 e)
  have hpar : parentOf p = joined (pList p).dropLast := by simp [parentOf, hl]
  have hdok : ∀ x ∈ (pList p).dropLast, okPart x = true := fun x hx => pList_ok p x (List.dropLast_subset _ hx)
  have hlen : (joined (pList p).dropLast).length ≤ 64 := by
    have h1 := joinC_dropLast_len 47 (pList p)
    have h2 := congrArg List.length (pJoined hk)
    have h3 := p_len64 h
    simp only [joined, List.length_cons] at h2 ⊢
    omega
  have hok := pOk_joined hdok hlen
  have hpl := pList_joined hdok hok
  have hcat := last_cat hl
  have hmem : lastOf (pList p) ∈ (pList p).dropLast ++ [lastOf (pList p)] := by simp
  rw [hcat] at hmem
  have hname : okPart (nameOf p) = true := pList_ok p _ hmem
  have e1 : pErr (parentOf p) = 0 := by rw [hpar]; exact pErr_ok.2 hok
  have hj : joined (pList (parentOf p) ++ [nameOf p]) = p := by rw [hpar, hpl, nameOf, hcat]; exact pJoined hk
  have hall : [nameOf p].all okPart = true := by simp [hname]
  refine ⟨by simp [cutErr, hl], e1, by rw [hpar]; exact hpl, ?_, ?_, w_mk h e1 (by rw [hpar, hpl]; exact List.dropLast_prefix _), ?_⟩
  · simp only [joinE, pErr_ok.1 e1, hall, hj, h, Bool.and_self, if_true]
  · simp only [joinS, pErr_ok.1 e1, hall, hj, checkedS, hk, Bool.and_self, if_true]
  · rw [← Bool.not_eq_true]
    intro hw
    have := (w_ok hw).2.2.length_le
    rw [hpar, hpl, List.length_dropLast] at this
    have : (pList p).length ≠ 0 := fun e => hl (List.eq_nil_of_length_eq_zero e)
    omega
end Go.Proofs.YtmjebehhpojihaaGreatDoor.Sw
