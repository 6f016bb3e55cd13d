/- Lemmas for a law of this seat: what the functions compute, and plain facts of it. Own text. -/
import Derived.Test.YtmjebehhpojihaaGreatDoorCBehindG
import Derived.Lib.Atoi
namespace Go.Proofs.YtmjebehhpojihaaGreatDoor.Sw
set_option linter.unusedVariables false
set_option linter.unusedSimpArgs false
set_option linter.deprecated false
open Go
def digI (n : Int) : Int := if 48 ≤ n ∧ n ≤ 57 then n - 48 else if 97 ≤ n ∧ n ≤ 102 then n - 87 else -1
abbrev digN (c : UInt8) : Int := digI (c.toNat : Int)
theorem digI_b (n : Int) : digI n < 16 ∧ -1 ≤ digI n := by
  unfold digI
  split
  · omega
  · split <;> omega
def hexB (a b : UInt8) : UInt8 := UInt8.ofNat (16 * digN a + digN b).toNat
def unhexL : List UInt8 → Option (List UInt8)
  | [] => some []
  | [_] => none
  | a :: b :: r => if digN a < 0 ∨ digN b < 0 then none else (unhexL r).map fun t => hexB a b :: t
def unhexW (w : List UInt8) : Option (List UInt8) := if w = [46] then some [] else if w.length < 2 ∨ w.length % 2 ≠ 0 then none else unhexL w
section
variable {w out : List UInt8} {i : Int} {a b : UInt8}
theorem unhex_1 (h : w = [46]) : ([] : List UInt8) = (unhexW w).getD [] ∧ true = (unhexW w).isSome := by unfold unhexW; rw [if_pos h]; exact ⟨rfl, rfl⟩
end
def hexS : List UInt8 := [48, 49, 50, 51, 52, 53, 54, 55, 56, 57, 97, 98, 99, 100, 101, 102]
def hexC (n : Nat) : UInt8 := hexS.getD n 0
def hexW (b : List UInt8) : List UInt8 := if b = [] then [46] else b.flatMap fun c => [hexC (c.toNat / 16), hexC (c.toNat % 16)]
theorem hexC_at {n : Int} {k : Nat} {c : UInt8} (hk : n = (k : Int)) (h : hexS[n.toNat]? = some c) : c = hexC k := by
  subst hk
  unfold hexC List.getD
  rw [show ((k : Int)).toNat = k by omega] at h
  rw [h]
  rfl
theorem and15 (c : UInt8) : IntKind.wrap .u8 (((BitVec.ofInt (IntKind.bits .u8) (c.toNat : Int) &&& BitVec.ofInt (IntKind.bits .u8) (15 : Int)).toNat : Nat) : Int) = ((c.toNat % 16 : Nat) : Int) := by
  have h : ∀ n : Nat, n < 256 → IntKind.wrap .u8 (((BitVec.ofInt (IntKind.bits .u8) (n : Int) &&& BitVec.ofInt (IntKind.bits .u8) (15 : Int)).toNat : Nat) : Int) = ((n % 16 : Nat) : Int) := by decide +kernel
  exact h _ c.toNat_lt
theorem hexI_step {b out : List UInt8} {i : Int} {c x y : UInt8} (h : out = (b.take i.toNat).flatMap fun c => [hexC (c.toNat / 16), hexC (c.toNat % 16)]) (h0 : 0 ≤ i) (hc : b[i.toNat]? = some c) (hx : x = hexC (c.toNat / 16)) (hy : y = hexC (c.toNat % 16)) :
    out ++ [x, y] = (b.take (i + 1).toNat).flatMap fun c => [hexC (c.toNat / 16), hexC (c.toNat % 16)] := by
  rw [toNat_succ h0, take_at hc, List.flatMap_append, h, hx, hy]
  simp
theorem hexI_len {b out : List UInt8} {i : Int} (h : out = (b.take i.toNat).flatMap fun c => [hexC (c.toNat / 16), hexC (c.toNat % 16)]) : out.length ≤ 2 * b.length := by
  rw [h, List.length_flatMap]
  have : ∀ l : List UInt8, (l.map fun c => ([hexC (c.toNat / 16), hexC (c.toNat % 16)] : List UInt8).length).sum = 2 * l.length := by
    intro l
    induction l with
    | nil => rfl
    | cons a l ih => rw [List.map_cons, List.sum_cons, ih, List.length_cons]; simp; omega
  rw [this, List.length_take]
  omega
theorem hexW_0 {b : List UInt8} (hb : (b.length : Int) = 0) : [46] = hexW b := by
  unfold hexW
  rw [if_pos (List.eq_nil_of_length_eq_zero (by omega))]
def isDig (c : UInt8) : Bool := decide (48 ≤ c.toNat) && decide (c.toNat ≤ 57)
def valD (v : Int) (d : List UInt8) : Int := d.foldl (fun v c => v * 10 + (c.toNat : Int) - 48) v
def sgnW (w : List UInt8) : Int × List UInt8 := if w.head? = some 45 then (-1, w.drop 1) else (1, w)
def okD (d : List UInt8) : Bool := decide (1 ≤ d.length) && decide (d.length ≤ 9) && !decide (d.head? = some 48) && d.all isDig
def numW (w : List UInt8) : Option Int := if w = [48] then some 0 else if okD (sgnW w).2 = true then some ((sgnW w).1 * valD 0 (sgnW w).2) else none
theorem valD_b : ∀ (d : List UInt8) (v : Int), d.all isDig = true → v * ((10 ^ d.length : Nat) : Int) ≤ valD v d ∧ valD v d < (v + 1) * ((10 ^ d.length : Nat) : Int)
  | [], v, _ => by simp [valD]; omega
  | c :: d, v, h => by
    rw [List.all_cons, Bool.and_eq_true] at h
    have h2 := h.1
    unfold isDig at h2
    simp only [Bool.and_eq_true, decide_eq_true_eq] at h2
    have ih := valD_b d (v * 10 + (c.toNat : Int) - 48) h.2
    have e : valD v (c :: d) = valD (v * 10 + (c.toNat : Int) - 48) d := rfl
    have hp : (0 : Int) ≤ ((10 ^ d.length : Nat) : Int) := Int.natCast_nonneg _
    have e2 : ((10 ^ (c :: d).length : Nat) : Int) = 10 * ((10 ^ d.length : Nat) : Int) := by rw [List.length_cons, Nat.pow_succ, Nat.mul_comm]; rfl
    have h3 := Int.mul_le_mul_of_nonneg_right (show v * 10 ≤ v * 10 + (c.toNat : Int) - 48 by omega) hp
    have h4 := Int.mul_le_mul_of_nonneg_right (show v * 10 + (c.toNat : Int) - 48 + 1 ≤ (v + 1) * 10 by omega) hp
    rw [e, e2, ← Int.mul_assoc, ← Int.mul_assoc]
    omega
theorem valD_le (d : List UInt8) (h : d.all isDig = true) : 0 ≤ valD 0 d ∧ valD 0 d < ((10 ^ d.length : Nat) : Int) := by
  have := valD_b d 0 h
  simp only [Int.zero_mul, Int.zero_add, Int.one_mul] at this
  exact this
section
variable {w d : List UInt8} {i v : Int} {c : UInt8}
theorem num_bad (hw : ¬ w = [48]) (h : okD (sgnW w).2 = false) : (0 : Int) = (numW w).getD 0 ∧ false = (numW w).isSome := by
  unfold numW; rw [if_neg hw, if_neg (by simp [h])]; exact ⟨rfl, rfl⟩
theorem num_0 (hw : w = [48]) : (0 : Int) = (numW w).getD 0 ∧ true = (numW w).isSome := by unfold numW; rw [if_pos hw]; exact ⟨rfl, rfl⟩
theorem okD_2 (h : (d.length : Int) > 9) : okD d = false := by unfold okD; rw [decide_eq_false (p := d.length ≤ 9) (by omega)]; simp
theorem okD_3 (hc : d[(0 : Int).toNat]? = some c) (h : (c.toNat : Int) = 48) : okD d = false := by
  have : c = 48 := UInt8.toNat_inj.1 (by rw [show (48 : UInt8).toNat = 48 from rfl]; omega)
  unfold okD
  rw [List.head?_eq_getElem?, show d[0]? = some c from hc, this]
  simp
end
section
variable {n v d : Int} {out : List UInt8}
theorem decDigits_len : ∀ (k n : Nat), n < 10 ^ (k + 1) → (Lib.decDigits n).length ≤ k + 1 := by
  intro k
  induction k with
  | zero => intro n h; rw [Lib.decDigits, dif_pos (by omega)]; simp
  | succ k ih =>
    intro n h
    rw [Lib.decDigits]
    by_cases h1 : n < 10
    · rw [dif_pos h1]; simp
    · rw [dif_neg h1, List.length_append]
      have := ih (n / 10) (by rw [Nat.pow_succ] at h; omega)
      simp only [List.length_cons, List.length_nil]
      omega
end
section
variable {s : List UInt8} {out : List (List UInt8)} {f i : Int} {c : UInt8}
end
section
variable {s : List UInt8} {out : List (List UInt8)} {f i : Int} {c : UInt8}
end
end Go.Proofs.YtmjebehhpojihaaGreatDoor.Sw
