/- Lemmas for a law of this seat: what the functions compute, and plain facts of it. Own text. -/
import Derived.Test.YtmjebehhpojihaaGreatDoorCShowsG
import Derived.Lib.Atoi
namespace Go.Proofs.YtmjebehhpojihaaGreatDoor.Sw
set_option linter.unusedVariables false
set_option linter.unusedSimpArgs false
set_option linter.deprecated false
open Go
def digI (n : Int) : Int := if 48 ≤ n ∧ n ≤ 57 then n - 48 else if 97 ≤ n ∧ n ≤ 102 then n - 87 else -1
abbrev digN (c : UInt8) : Int := digI (c.toNat : Int)
theorem digI_b (n : Int) : digI n < 16 ∧ -1 ≤ digI n := by
  unfold digI
  split
  · omega
  · split <;> omega
theorem digI_1 {n : Int} (h1 : n ≥ 48) (h2 : n ≤ 57) : n - 48 = digI n := by unfold digI; rw [if_pos (by omega)]
theorem digI_2 {n : Int} (h1 : n ≥ 97) (h2 : n ≤ 102) : n - 87 = digI n := by unfold digI; rw [if_neg (by omega), if_pos (by omega)]
theorem digI_3 {n : Int} (h1 : ¬ (48 ≤ n ∧ n ≤ 57)) (h2 : ¬ (97 ≤ n ∧ n ≤ 102)) : (-1 : Int) = digI n := by unfold digI; rw [if_neg h1, if_neg h2]
def hexB (a b : UInt8) : UInt8 := UInt8.ofNat (16 * digN a + digN b).toNat
def unhexL : List UInt8 → Option (List UInt8)
  | [] => some []
  | [_] => none
  | a :: b :: r => if digN a < 0 ∨ digN b < 0 then none else (unhexL r).map fun t => hexB a b :: t
def unhexW (w : List UInt8) : Option (List UInt8) := if w = [46] then some [] else if w.length < 2 ∨ w.length % 2 ≠ 0 then none else unhexL w
def uhI (w : List UInt8) (i : Int) (out : List UInt8) : Prop := unhexL w = (unhexL (w.drop i.toNat)).map fun t => out ++ t
theorem uhI_0 (w : List UInt8) : uhI w 0 [] := by unfold uhI; simp
section
variable {w out : List UInt8} {i : Int} {a b : UInt8}
theorem drop2 (h0 : 0 ≤ i) (ha : w[i.toNat]? = some a) (hb : w[(i + 1).toNat]? = some b) : w.drop i.toNat = a :: b :: w.drop (i + 2).toNat := by
  obtain ⟨h1, e1⟩ := List.getElem?_eq_some_iff.1 ha
  obtain ⟨h2, e2⟩ := List.getElem?_eq_some_iff.1 hb
  have e3 : (i + 1).toNat = i.toNat + 1 := by omega
  have e4 : (i + 2).toNat = i.toNat + 1 + 1 := by omega
  rw [List.drop_eq_getElem_cons h1, e1, e4]
  simp only [e3] at h2 e2
  rw [List.drop_eq_getElem_cons h2, e2]
theorem uhI_step (H : uhI w i out) (h0 : 0 ≤ i) (ha : w[i.toNat]? = some a) (hb : w[(i + 1).toNat]? = some b) (h1 : ¬ digN a < 0) (h2 : ¬ digN b < 0) : uhI w (i + 2) (out ++ [hexB a b]) := by
  unfold uhI at *
  rw [H, drop2 h0 ha hb]
  conv => lhs; unfold unhexL
  rw [if_neg (by omega), Option.map_map]
  congr 1
  funext t
  simp
theorem uhI_bad (H : uhI w i out) (h0 : 0 ≤ i) (ha : w[i.toNat]? = some a) (hb : w[(i + 1).toNat]? = some b) (h : digN a < 0 ∨ digN b < 0) : unhexL w = none := by
  unfold uhI at H
  rw [H, drop2 h0 ha hb]
  unfold unhexL
  rw [if_pos h]
  rfl
theorem uhI_end (H : uhI w i out) (hi : ¬ i < w.length) : unhexL w = some out := by
  unfold uhI at H
  rw [H, List.drop_eq_nil_of_le (by omega)]
  simp [unhexL]
theorem unhex_1 (h : w = [46]) : ([] : List UInt8) = (unhexW w).getD [] ∧ true = (unhexW w).isSome := by unfold unhexW; rw [if_pos h]; exact ⟨rfl, rfl⟩
theorem unhex_2 (h : ¬ w = [46]) (h2 : (w.length : Int) < 2 ∨ ¬ (w.length : Int) % 2 = 0) : ([] : List UInt8) = (unhexW w).getD [] ∧ false = (unhexW w).isSome := by
  unfold unhexW; rw [if_neg h, if_pos (by omega)]; exact ⟨rfl, rfl⟩
theorem unhex_3 (h : ¬ w = [46]) (h1 : ¬ (w.length : Int) < 2) (h2 : (w.length : Int) % 2 = 0) (h3 : unhexL w = none) : ([] : List UInt8) = (unhexW w).getD [] ∧ false = (unhexW w).isSome := by
  unfold unhexW; rw [if_neg h, if_neg (by omega), h3]; exact ⟨rfl, rfl⟩
theorem unhex_4 (h : ¬ w = [46]) (h1 : ¬ (w.length : Int) < 2) (h2 : (w.length : Int) % 2 = 0) (h3 : unhexL w = some out) : out = (unhexW w).getD [] ∧ true = (unhexW w).isSome := by
  unfold unhexW; rw [if_neg h, if_neg (by omega), h3]; exact ⟨rfl, rfl⟩
end
def hexS : List UInt8 := [48, 49, 50, 51, 52, 53, 54, 55, 56, 57, 97, 98, 99, 100, 101, 102]
def hexC (n : Nat) : UInt8 := hexS.getD n 0
def hexW (b : List UInt8) : List UInt8 := if b = [] then [46] else b.flatMap fun c => [hexC (c.toNat / 16), hexC (c.toNat % 16)]
theorem hexC_at {n : Int} {k : Nat} {c : UInt8} (hk : n = (k : Int)) (h : hexS[n.toNat]? = some c) : c = hexC k := by
  subst hk
  unfold hexC List.getD
  rw [show ((k : Int)).toNat = k by omega] at h
  rw [h]
  rfl
theorem and15 (c : UInt8) : IntKind.wrap .u8 (((BitVec.ofInt (IntKind.bits .u8) (c.toNat : Int) &&& BitVec.ofInt (IntKind.bits .u8) (15 : Int)).toNat : Nat) : Int) = ((c.toNat % 16 : Nat) : Int) := by
  have h : ∀ n : Nat, n < 256 → IntKind.wrap .u8 (((BitVec.ofInt (IntKind.bits .u8) (n : Int) &&& BitVec.ofInt (IntKind.bits .u8) (15 : Int)).toNat : Nat) : Int) = ((n % 16 : Nat) : Int) := by decide +kernel
  exact h _ c.toNat_lt
theorem hexI_step {b out : List UInt8} {i : Int} {c x y : UInt8} (h : out = (b.take i.toNat).flatMap fun c => [hexC (c.toNat / 16), hexC (c.toNat % 16)]) (h0 : 0 ≤ i) (hc : b[i.toNat]? = some c) (hx : x = hexC (c.toNat / 16)) (hy : y = hexC (c.toNat % 16)) :
    out ++ [x, y] = (b.take (i + 1).toNat).flatMap fun c => [hexC (c.toNat / 16), hexC (c.toNat % 16)] := by
  rw [toNat_succ h0, take_at hc, List.flatMap_append, h, hx, hy]
  simp
theorem hexI_len {b out : List UInt8} {i : Int} (h : out = (b.take i.toNat).flatMap fun c => [hexC (c.toNat / 16), hexC (c.toNat % 16)]) : out.length ≤ 2 * b.length := by
  rw [h, List.length_flatMap]
  have : ∀ l : List UInt8, (l.map fun c => ([hexC (c.toNat / 16), hexC (c.toNat % 16)] : List UInt8).length).sum = 2 * l.length := by
    intro l
    induction l with
    | nil => rfl
    | cons a l ih => rw [List.map_cons, List.sum_cons, ih, List.length_cons]; simp; omega
  rw [this, List.length_take]
  omega
theorem hexI_end {b out : List UInt8} {i : Int} (h : out = (b.take i.toNat).flatMap fun c => [hexC (c.toNat / 16), hexC (c.toNat % 16)]) (hi : ¬ i < b.length) (hb : ¬ (b.length : Int) = 0) : out = hexW b := by
  unfold hexW
  rw [if_neg (by intro e; rw [e] at hb; exact hb rfl), h, List.take_of_length_le (by omega)]
theorem hexW_0 {b : List UInt8} (hb : (b.length : Int) = 0) : [46] = hexW b := by
  unfold hexW
  rw [if_pos (List.eq_nil_of_length_eq_zero (by omega))]
def isDig (c : UInt8) : Bool := decide (48 ≤ c.toNat) && decide (c.toNat ≤ 57)
def valD (v : Int) (d : List UInt8) : Int := d.foldl (fun v c => v * 10 + (c.toNat : Int) - 48) v
def sgnW (w : List UInt8) : Int × List UInt8 := if w.head? = some 45 then (-1, w.drop 1) else (1, w)
def okD (d : List UInt8) : Bool := decide (1 ≤ d.length) && decide (d.length ≤ 9) && !decide (d.head? = some 48) && d.all isDig
def numW (w : List UInt8) : Option Int := if w = [48] then some 0 else if okD (sgnW w).2 = true then some ((sgnW w).1 * valD 0 (sgnW w).2) else none
theorem valD_snoc (v : Int) (d : List UInt8) (c : UInt8) : valD v (d ++ [c]) = valD v d * 10 + (c.toNat : Int) - 48 := by unfold valD; rw [List.foldl_append]; rfl
theorem valD_b : ∀ (d : List UInt8) (v : Int), d.all isDig = true → v * ((10 ^ d.length : Nat) : Int) ≤ valD v d ∧ valD v d < (v + 1) * ((10 ^ d.length : Nat) : Int)
  | [], v, _ => by simp [valD]; omega
  | c :: d, v, h => by
    rw [List.all_cons, Bool.and_eq_true] at h
    have h2 := h.1
    unfold isDig at h2
    simp only [Bool.and_eq_true, decide_eq_true_eq] at h2
    have ih := valD_b d (v * 10 + (c.toNat : Int) - 48) h.2
    have e : valD v (c :: d) = valD (v * 10 + (c.toNat : Int) - 48) d := rfl
    have hp : (0 : Int) ≤ ((10 ^ d.length : Nat) : Int) := Int.natCast_nonneg _
    have e2 : ((10 ^ (c :: d).length : Nat) : Int) = 10 * ((10 ^ d.length : Nat) : Int) := by rw [List.length_cons, Nat.pow_succ, Nat.mul_comm]; rfl
    have h3 := Int.mul_le_mul_of_nonneg_right (show v * 10 ≤ v * 10 + (c.toNat : Int) - 48 by omega) hp
    have h4 := Int.mul_le_mul_of_nonneg_right (show v * 10 + (c.toNat : Int) - 48 + 1 ≤ (v + 1) * 10 by omega) hp
    rw [e, e2, ← Int.mul_assoc, ← Int.mul_assoc]
    omega
theorem valD_le (d : List UInt8) (h : d.all isDig = true) : 0 ≤ valD 0 d ∧ valD 0 d < ((10 ^ d.length : Nat) : Int) := by
  have := valD_b d 0 h
  simp only [Int.zero_mul, Int.zero_add, Int.one_mul] at this
  exact this
def numI (d : List UInt8) (i v : Int) : Prop := v = valD 0 (d.take i.toNat) ∧ (d.take i.toNat).all isDig = true
theorem numI_0 (d : List UInt8) : numI d 0 0 := ⟨rfl, by simp⟩
section
variable {w d : List UInt8} {i v : Int} {c : UInt8}
theorem numI_step (H : numI d i v) (h0 : 0 ≤ i) (hc : d[i.toNat]? = some c) (h1 : ¬ (c.toNat : Int) < 48) (h2 : ¬ (c.toNat : Int) > 57) : numI d (i + 1) (v * 10 + (c.toNat : Int) - 48) := by
  unfold numI at *
  rw [toNat_succ h0, take_at hc, valD_snoc, ← H.1, List.all_append, H.2]
  refine ⟨rfl, ?_⟩
  simp [isDig]
  omega
theorem numI_le (H : numI d i v) (hd : d.length ≤ 9) : 0 ≤ v ∧ v < 1000000000 := by
  have h := valD_le _ H.2
  rw [← H.1] at h
  have hl : (d.take i.toNat).length ≤ 9 := by rw [List.length_take]; omega
  have hp : 10 ^ (d.take i.toNat).length ≤ 10 ^ 9 := Nat.pow_le_pow_right (by decide) hl
  have hq : ((10 ^ (d.take i.toNat).length : Nat) : Int) ≤ 1000000000 := by omega
  exact ⟨h.1, Int.lt_of_lt_of_le h.2 hq⟩
theorem num_bad (hw : ¬ w = [48]) (h : okD (sgnW w).2 = false) : (0 : Int) = (numW w).getD 0 ∧ false = (numW w).isSome := by
  unfold numW; rw [if_neg hw, if_neg (by simp [h])]; exact ⟨rfl, rfl⟩
theorem num_0 (hw : w = [48]) : (0 : Int) = (numW w).getD 0 ∧ true = (numW w).isSome := by unfold numW; rw [if_pos hw]; exact ⟨rfl, rfl⟩
theorem okD_1 (h : (d.length : Int) < 1) : okD d = false := by unfold okD; rw [decide_eq_false (by omega)]; rfl
theorem okD_2 (h : (d.length : Int) > 9) : okD d = false := by unfold okD; rw [decide_eq_false (p := d.length ≤ 9) (by omega)]; simp
theorem okD_3 (hc : d[(0 : Int).toNat]? = some c) (h : (c.toNat : Int) = 48) : okD d = false := by
  have : c = 48 := UInt8.toNat_inj.1 (by rw [show (48 : UInt8).toNat = 48 from rfl]; omega)
  unfold okD
  rw [List.head?_eq_getElem?, show d[0]? = some c from hc, this]
  simp
theorem okD_4 (hc : d[i.toNat]? = some c) (h : (c.toNat : Int) < 48 ∨ (c.toNat : Int) > 57) : okD d = false := by
  have : d.all isDig = false := by
    rw [List.all_eq_false]
    refine ⟨c, List.mem_of_getElem? hc, ?_⟩
    unfold isDig
    simp
    omega
  unfold okD
  rw [this]
  simp
theorem okD_y (H : numI d i v) (hi : ¬ i < d.length) (h1 : ¬ (d.length : Int) < 1) (h2 : ¬ (d.length : Int) > 9) (hc : d[(0 : Int).toNat]? = some c) (h3 : ¬ (c.toNat : Int) = 48) : okD d = true ∧ v = valD 0 d := by
  unfold numI at H
  rw [List.take_of_length_le (by omega)] at H
  refine ⟨?_, H.1⟩
  unfold okD
  rw [decide_eq_true (by omega), decide_eq_true (p := d.length ≤ 9) (by omega), H.2, List.head?_eq_getElem?, show d[0]? = some c from hc]
  simp only [Bool.true_and, Bool.and_true, Option.some.injEq]
  rw [decide_eq_false (by intro e; rw [e] at h3; exact h3 rfl)]
  rfl
theorem num_y {s : Int} (hw : ¬ w = [48]) (hs : sgnW w = (s, d)) (h : okD d = true ∧ v = valD 0 d) : s * v = (numW w).getD 0 ∧ true = (numW w).isSome := by
  unfold numW
  rw [if_neg hw, hs]
  simp only []
  rw [if_pos h.1, h.2]
  exact ⟨rfl, rfl⟩
theorem sgn_n (hc : w[(0 : Int).toNat]? = some c) (h : (c.toNat : Int) = 45) : sgnW w = (-1, w.drop (1 : Int).toNat) := by
  have : c = 45 := UInt8.toNat_inj.1 (by rw [show (45 : UInt8).toNat = 45 from rfl]; omega)
  unfold sgnW
  rw [List.head?_eq_getElem?, show w[0]? = some c from hc, this, if_pos rfl]
  rfl
theorem sgn_p (hc : w[(0 : Int).toNat]? = some c) (h : ¬ (c.toNat : Int) = 45) : sgnW w = (1, w) := by
  unfold sgnW
  rw [List.head?_eq_getElem?, show w[0]? = some c from hc, if_neg]
  intro e
  cases e
  exact h rfl
theorem sgn_e (h : ¬ (w.length : Int) > 0) : sgnW w = (1, w) := by
  have : w = [] := List.eq_nil_of_length_eq_zero (by omega)
  subst this
  rfl
end
def showI (n v : Int) (out : List UInt8) : Prop := Lib.decDigits n.natAbs = (if v = 0 then [] else Lib.decDigits v.natAbs) ++ out
theorem showI_0 {n : Int} (h : ¬ n = 0) : showI n n [] := by unfold showI; rw [if_neg h, List.append_nil]
section
variable {n v d : Int} {out : List UInt8}
theorem showI_step (H : showI n v out) (hv : ¬ v = 0) (hd : d.natAbs = v.natAbs % 10) (h0 : 0 ≤ d) : showI n (Int.tdiv v 10) ([UInt8.ofNat (48 + d).toNat] ++ out) := by
  unfold showI at *
  rw [if_neg hv] at H
  have e1 : (Int.tdiv v 10).natAbs = v.natAbs / 10 := by rw [Int.natAbs_tdiv]; rfl
  have e2 : (48 + d).toNat = 48 + v.natAbs % 10 := by omega
  rw [H, e2]
  conv => lhs; rw [Lib.decDigits]
  by_cases h : v.natAbs < 10
  · rw [dif_pos h]
    have : Int.tdiv v 10 = 0 := by
      apply Int.natAbs_eq_zero.1
      rw [e1]
      omega
    rw [this, if_pos rfl, Nat.mod_eq_of_lt h]
    rfl
  · rw [dif_neg h]
    have : ¬ Int.tdiv v 10 = 0 := by
      intro e
      have := congrArg Int.natAbs e
      rw [e1] at this
      simp at this
      omega
    rw [if_neg this, e1]
    simp
theorem tmod_abs : (Int.tmod v 10).natAbs = v.natAbs % 10 := by rw [Int.natAbs_tmod]; rfl
theorem tmod_b : -9 ≤ Int.tmod v 10 ∧ Int.tmod v 10 ≤ 9 := by
  have := tmod_abs (v := v)
  omega
theorem tdiv_b (h : -9223372036854775808 ≤ v ∧ v ≤ 9223372036854775807) : -9223372036854775808 ≤ Int.tdiv v 10 ∧ Int.tdiv v 10 ≤ 9223372036854775807 := by
  have e1 : (Int.tdiv v 10).natAbs = v.natAbs / 10 := by rw [Int.natAbs_tdiv]; rfl
  omega
theorem tdiv_m (h : ¬ v = 0) : (Int.tdiv v 10).natAbs < v.natAbs := by
  have e1 : (Int.tdiv v 10).natAbs = v.natAbs / 10 := by rw [Int.natAbs_tdiv]; rfl
  omega
theorem decDigits_len : ∀ (k n : Nat), n < 10 ^ (k + 1) → (Lib.decDigits n).length ≤ k + 1 := by
  intro k
  induction k with
  | zero => intro n h; rw [Lib.decDigits, dif_pos (by omega)]; simp
  | succ k ih =>
    intro n h
    rw [Lib.decDigits]
    by_cases h1 : n < 10
    · rw [dif_pos h1]; simp
    · rw [dif_neg h1, List.length_append]
      have := ih (n / 10) (by rw [Nat.pow_succ] at h; omega)
      simp only [List.length_cons, List.length_nil]
      omega
theorem showI_len (H : showI n v out) (hn : -9223372036854775808 ≤ n ∧ n ≤ 9223372036854775807) : out.length ≤ 19 := by
  have h1 := decDigits_len 18 n.natAbs (by rw [show (10 : Nat) ^ (18 + 1) = 10000000000000000000 from rfl]; omega)
  unfold showI at H
  rw [H, List.length_append] at h1
  omega
theorem show_0 (h : n = 0) : ([48] : List UInt8) = Lib.itoa n := by subst h; unfold Lib.itoa; rw [if_neg (by decide), Lib.decDigits]; rfl
theorem show_n (H : showI n v out) (hv : v = 0) (h : n < 0) : [45] ++ out = Lib.itoa n := by
  unfold showI at H
  rw [if_pos hv, List.nil_append] at H
  unfold Lib.itoa
  rw [if_pos h, H]
  rfl
theorem show_p (H : showI n v out) (hv : v = 0) (h : ¬ n < 0) : out = Lib.itoa n := by
  unfold showI at H
  rw [if_pos hv, List.nil_append] at H
  unfold Lib.itoa
  rw [if_neg h, ← H]
  congr 1
  omega
end
def wordI (s : List UInt8) (out : List (List UInt8)) (f i : Int) : Prop := splitOn 32 s = out ++ splitOn 32 (s.drop f.toNat) ∧ 32 ∉ (s.take i.toNat).drop f.toNat ∧ out.length ≤ f.toNat
theorem wordI_0 (s : List UInt8) : wordI s [] 0 0 := ⟨by simp, by simp, by simp⟩
section
variable {s : List UInt8} {out : List (List UInt8)} {f i : Int} {c : UInt8}
theorem wordI_miss (H : wordI s out f i) (h0 : 0 ≤ f) (hf : f ≤ i) (hc : s[i.toNat]? = some c) (h : ¬ (c.toNat : Int) = 32) : wordI s out f (i + 1) := by
  refine ⟨H.1, ?_, H.2.2⟩
  rw [toNat_succ (by omega), take_at hc, List.drop_append, List.mem_append, not_or]
  refine ⟨H.2.1, fun hm => ?_⟩
  have := List.mem_of_mem_drop hm
  rw [List.mem_singleton] at this
  rw [← this] at h
  exact h rfl
theorem wordI_next (H : wordI s out f i) (h0 : 0 ≤ f) (hf : f ≤ i) (hc : s[i.toNat]? = some c) (h : (c.toNat : Int) = 32) : wordI s (out ++ [(s.take i.toNat).drop f.toNat]) (i + 1) (i + 1) := by
  have e32 : c = 32 := UInt8.toNat_inj.1 (by rw [show (32 : UInt8).toNat = 32 from rfl]; omega)
  subst e32
  obtain ⟨hl, he⟩ := List.getElem?_eq_some_iff.1 hc
  have hd : s.drop f.toNat = (s.take i.toNat).drop f.toNat ++ 32 :: s.drop (i + 1).toNat := by
    rw [toNat_succ (by omega)]
    have h1 : s = s.take i.toNat ++ 32 :: s.drop (i.toNat + 1) := by
      conv => lhs; rw [← List.take_append_drop i.toNat s, List.drop_eq_getElem_cons hl, he]
    conv => lhs; rw [h1]
    rw [List.drop_append_of_le_length (by rw [List.length_take]; omega)]
  refine ⟨?_, ?_, ?_⟩
  · rw [H.1, hd, splitOn_hit 32 _ _ H.2.1]
    simp
  · have hz : (s.take (i + 1).toNat).drop (i + 1).toNat = [] := List.drop_eq_nil_of_le (by rw [List.length_take]; omega)
    rw [hz]
    simp
  · have := H.2.2
    rw [List.length_append, List.length_singleton]
    omega
theorem wordI_end (H : wordI s out f i) (hi : i = s.length) : splitOn 32 s = out ++ [(s.take i.toNat).drop f.toNat] := by
  have h2 := H.2.1
  rw [List.take_of_length_le (by omega)] at h2
  rw [H.1, List.take_of_length_le (by omega), splitOn_miss 32 _ h2]
end
section
variable {s : List UInt8} {out : List (List UInt8)} {f i : Int} {c : UInt8}
theorem words_a (H : (i ≤ s.length ∧ wordI s out f i) ∨ (i = s.length + 1 ∧ out = splitOn 32 s)) (hi : i ≤ s.length) (h0 : 0 ≤ f) (hf : f ≤ i) (hc : s[i.toNat]? = some c) (h : ¬ (c.toNat : Int) = 32) : (i + 1 ≤ s.length ∧ wordI s out f (i + 1)) ∨ (i + 1 = s.length + 1 ∧ out = splitOn 32 s) := by
  have hl := (List.getElem?_eq_some_iff.1 hc).1
  rcases H with ⟨_, H⟩ | ⟨h1, _⟩
  · exact .inl ⟨by omega, wordI_miss H h0 hf hc h⟩
  · omega
theorem words_b (H : (i ≤ s.length ∧ wordI s out f i) ∨ (i = s.length + 1 ∧ out = splitOn 32 s)) (hi : i ≤ s.length) (h : i = s.length) : (i + 1 ≤ s.length ∧ wordI s (out ++ [(s.take i.toNat).drop f.toNat]) (i + 1) (i + 1)) ∨ (i + 1 = s.length + 1 ∧ out ++ [(s.take i.toNat).drop f.toNat] = splitOn 32 s) := by
  rcases H with ⟨_, H⟩ | ⟨h1, _⟩
  · exact .inr ⟨by omega, (wordI_end H h).symm⟩
  · omega
theorem words_c (H : (i ≤ s.length ∧ wordI s out f i) ∨ (i = s.length + 1 ∧ out = splitOn 32 s)) (hi : i ≤ s.length) (h0 : 0 ≤ f) (hf : f ≤ i) (hc : s[i.toNat]? = some c) (h : (c.toNat : Int) = 32) : (i + 1 ≤ s.length ∧ wordI s (out ++ [(s.take i.toNat).drop f.toNat]) (i + 1) (i + 1)) ∨ (i + 1 = s.length + 1 ∧ out ++ [(s.take i.toNat).drop f.toNat] = splitOn 32 s) := by
  have hl := (List.getElem?_eq_some_iff.1 hc).1
  rcases H with ⟨_, H⟩ | ⟨h1, _⟩
  · exact .inl ⟨by omega, wordI_next H h0 hf hc h⟩
  · omega
theorem words_l (H : (i ≤ s.length ∧ wordI s out f i) ∨ (i = s.length + 1 ∧ out = splitOn 32 s)) (h0 : 0 ≤ f) (hi : i ≤ s.length) (hf : f ≤ i) : (out.length : Int) ≤ i := by
  rcases H with ⟨_, H⟩ | ⟨h1, _⟩
  · have := H.2.2; omega
  · omega
theorem words_e (H : (i ≤ s.length ∧ wordI s out f i) ∨ (i = s.length + 1 ∧ out = splitOn 32 s)) (hi : ¬ i ≤ s.length) : out = splitOn 32 s := by
  rcases H with ⟨h, _⟩ | ⟨_, h⟩
  · exact absurd h hi
  · exact h
end
end Go.Proofs.YtmjebehhpojihaaGreatDoor.Sw
