/- Plain words on paths, fourth part: what the laws PathNumbers, PathWithin and PathRound say. No program in sight. Own text. -/
import Derived.Test.YtphonojjgnbpfaaDoorSwPathR
namespace Go.Proofs.YtphonojjgnbpfaaDoor.Sw
set_option linter.unusedVariables false
set_option linter.unusedSimpArgs false
set_option linter.deprecated false
open Go

/-! ### 1. Numbers -/
theorem less_cons (c d : UInt8) (a b : List UInt8) : Go.Op.bytesLess (c :: a) (d :: b) = (decide (c < d) || (c == d && Go.Op.bytesLess a b)) := by simp [Go.Op.bytesLess]
theorem less_same (c : List UInt8) (a b : List UInt8) : Go.Op.bytesLess (c ++ a) (c ++ b) = Go.Op.bytesLess a b := by
  induction c with
  | nil => rfl
  | cons x c ih =>
    rw [List.cons_append, List.cons_append, less_cons, ih]
    have : ¬ (x < x) := by rw [UInt8.lt_iff_toNat_lt]; omega
    simp [this]
theorem digit_nat {a : Nat} (h : a < 10) : (UInt8.ofNat (48 + a)).toNat = 48 + a := by rw [UInt8.toNat_ofNat', Nat.mod_eq_of_lt (by omega)]
theorem low_mod : ∀ (k n : Nat), low k n = low k (n % 10 ^ k)
  | 0, _ => rfl
  | k + 1, n => by
    have h1 : n % 10 ^ (k + 1) / 10 ^ k % 10 = n / 10 ^ k % 10 := by
      rw [Nat.pow_succ, Nat.mod_mul, Nat.add_mul_div_left _ _ (Nat.pow_pos (by decide)), Nat.div_eq_of_lt (Nat.mod_lt _ (Nat.pow_pos (by decide))), Nat.zero_add, Nat.mod_mod]
    have h2 : n % 10 ^ (k + 1) % 10 ^ k = n % 10 ^ k := by rw [Nat.pow_succ, Nat.mod_mul_right_mod]
    rw [low, low, h1, low_mod k (n % 10 ^ (k + 1)), h2, ← low_mod k n]
theorem low_less : ∀ (k a b : Nat), a < 10 ^ k → b < 10 ^ k → Go.Op.bytesLess (low k a) (low k b) = decide (a < b) ∧ (low k a = low k b ↔ a = b)
  | 0, a, b, ha, hb => by
    have : a = 0 := by simpa using ha
    have : b = 0 := by simpa using hb
    subst a; subst b
    simp [low, Go.Op.bytesLess]
  | k + 1, a, b, ha, hb => by
    rw [Nat.pow_succ] at ha hb
    have hp : 0 < 10 ^ k := Nat.pow_pos (by decide)
    have qa : a / 10 ^ k < 10 := by rw [Nat.div_lt_iff_lt_mul hp]; omega
    have qb : b / 10 ^ k < 10 := by rw [Nat.div_lt_iff_lt_mul hp]; omega
    have ra := Nat.mod_lt a hp
    have rb := Nat.mod_lt b hp
    have ea := Nat.div_add_mod a (10 ^ k)
    have eb := Nat.div_add_mod b (10 ^ k)
    obtain ⟨i1, i2⟩ := low_less k (a % 10 ^ k) (b % 10 ^ k) ra rb
    rw [← low_mod, ← low_mod] at i1 i2
    have da := digit_nat qa
    have db := digit_nat qb
    rw [low, low, less_cons, i1, Nat.mod_eq_of_lt qa, Nat.mod_eq_of_lt qb]
    have key : ∀ x y : Nat, x < y → 10 ^ k * x + 10 ^ k ≤ 10 ^ k * y := fun x y h => by rw [← Nat.mul_succ]; exact Nat.mul_le_mul_left _ h
    have hlt : (UInt8.ofNat (48 + a / 10 ^ k) < UInt8.ofNat (48 + b / 10 ^ k)) ↔ a / 10 ^ k < b / 10 ^ k := by rw [UInt8.lt_iff_toNat_lt, da, db]; omega
    have heq : (UInt8.ofNat (48 + a / 10 ^ k) = UInt8.ofNat (48 + b / 10 ^ k)) ↔ a / 10 ^ k = b / 10 ^ k := by rw [← UInt8.toNat_inj, da, db]; omega
    rcases Nat.lt_trichotomy (a / 10 ^ k) (b / 10 ^ k) with h | h | h
    · have := key _ _ h
      refine ⟨?_, ?_⟩
      · rw [decide_eq_true (hlt.2 h), Bool.true_or, decide_eq_true (by omega)]
      · constructor
        · intro e
          have := (List.cons.inj e).1
          rw [heq] at this; omega
        · intro e; subst e; omega
    · refine ⟨?_, ?_⟩
      · rw [h]
        have : ¬ (UInt8.ofNat (48 + b / 10 ^ k) < UInt8.ofNat (48 + b / 10 ^ k)) := by rw [UInt8.lt_iff_toNat_lt]; omega
        simp only [this, decide_false, Bool.false_or, beq_self_eq_true, Bool.true_and]
        apply decide_eq_decide.2
        rw [h] at ea
        omega
      · rw [h]
        constructor
        · intro e
          have := i2.1 (List.cons.inj e).2
          rw [h] at ea
          omega
        · intro e; subst e; rfl
    · have := key _ _ h
      refine ⟨?_, ?_⟩
      · have h1 : ¬ (UInt8.ofNat (48 + a / 10 ^ k) < UInt8.ofNat (48 + b / 10 ^ k)) := by rw [hlt]; omega
        have h2 : (UInt8.ofNat (48 + a / 10 ^ k) == UInt8.ofNat (48 + b / 10 ^ k)) = false := by rw [beq_eq_false_iff_ne, Ne, heq]; omega
        rw [decide_eq_false h1, h2, Bool.false_and, Bool.false_or, decide_eq_false (by omega)]
      · constructor
        · intro e
          have := (List.cons.inj e).1
          rw [heq] at this; omega
        · intro e; subst e; omega
theorem low_len : ∀ k n, (low k n).length = k
  | 0, _ => rfl
  | k + 1, n => by rw [low, List.length_cons, low_len k n]
theorem num_parts {p : List UInt8} {n : Int} (h : numE p n = 0) : 0 ≤ n ∧ n ≤ 99999 ∧ numS p n = p ++ low 5 n.toNat := by
  unfold numE at h
  split at h
  · rename_i hk
    have hk2 := hk
    simp only [numOk, Bool.and_eq_true, decide_eq_true_eq] at hk
    refine ⟨hk.2.1, hk.2.2, ?_⟩
    rw [pErr_ok] at h
    simp [numS, hk2, checkedS, h, low_dig hk.2.1 hk.2.2]
  · simp at h
theorem num_lt {p : List UInt8} {n m : Int} (h : numE p n = 0) (k : numE p m = 0) : Go.Op.bytesLess (numS p n) (numS p m) = decide (n < m) := by
  obtain ⟨a1, a2, a3⟩ := num_parts h
  obtain ⟨b1, b2, b3⟩ := num_parts k
  rw [a3, b3, less_same, (low_less 5 n.toNat m.toNat (by show _ < 100000; omega) (by show _ < 100000; omega)).1]
  apply decide_eq_decide.2
  omega
theorem num_eq {p : List UInt8} {n m : Int} (h : numE p n = 0) (k : numE p m = 0) : (numS p n == numS p m) = (n == m) := by
  obtain ⟨a1, a2, a3⟩ := num_parts h
  obtain ⟨b1, b2, b3⟩ := num_parts k
  rw [a3, b3, Bool.eq_iff_iff, beq_iff_eq, beq_iff_eq, List.append_cancel_left_eq, (low_less 5 n.toNat m.toNat (by show _ < 100000; omega) (by show _ < 100000; omega)).2]
  omega
theorem num_len {p : List UInt8} {n : Int} (h : numE p n = 0) : ((numS p n).length : Int) = (p.length : Int) + 5 := by
  obtain ⟨a1, a2, a3⟩ := num_parts h
  rw [a3, List.length_append, low_len]; omega
theorem numE_90 {p : List UInt8} {n : Int} (h : ¬ (numE p n = 0)) : numE p n = 90 ∧ numS p n = [] := by
  unfold numE numS at *
  split at h
  · rename_i hk
    rw [if_pos hk, if_pos hk]
    rw [pErr_ok] at h
    simp [pErr, checkedS, h]
  · rename_i hk
    rw [if_neg hk, if_neg hk]; exact ⟨rfl, rfl⟩
theorem numS_len (p : List UInt8) (n : Int) (h0 : p.length ≤ 100000000) : (numS p n).length ≤ 200000000 := by
  by_cases h : numE p n = 0
  · have := num_len h; omega
  · rw [(numE_90 h).2]; simp

/-! ### 2. Within -/
theorem w_ok {p t : List UInt8} (h : withinB p t = true) : pErr p = 0 ∧ pErr t = 0 ∧ pList t <+: pList p := by
  rw [withinB_eq, withinR] at h
  simp only [Bool.and_eq_true, List.isPrefixOf_iff_prefix] at h
  exact ⟨pErr_ok.2 h.1.1, pErr_ok.2 h.1.2, h.2⟩
theorem w_mk {p t : List UInt8} (h1 : pErr p = 0) (h2 : pErr t = 0) (h : pList t <+: pList p) : withinB p t = true := by
  rw [withinB_eq, withinR, pErr_ok.1 h1, pErr_ok.1 h2, Bool.true_and, Bool.true_and]
  exact List.isPrefixOf_iff_prefix.2 h
theorem w_trans {a b c : List UInt8} (h : withinB a b = true) (k : withinB b c = true) : withinB a c = true := by
  obtain ⟨h1, h2, h3⟩ := w_ok h
  obtain ⟨k1, k2, k3⟩ := w_ok k
  exact w_mk h1 k2 (k3.trans h3)
theorem w_anti {a b : List UInt8} (h : withinB a b = true) (k : withinB b a = true) : a = b := by
  obtain ⟨h1, h2, h3⟩ := w_ok h
  obtain ⟨k1, k2, k3⟩ := w_ok k
  have e : pList b = pList a := h3.eq_of_length (Nat.le_antisymm h3.length_le k3.length_le)
  rw [← pJoined (pErr_ok.1 h1), ← pJoined (pErr_ok.1 h2), e]
theorem w_len {a b : List UInt8} (h : withinB a b = true) : ((pList a).length : Int) ≥ (pList b).length := by
  have := (w_ok h).2.2.length_le; omega
theorem w_take {a b : List UInt8} (h : withinB a b = true) : (pList a).take ((pList b).length : Int).toNat = pList b := by
  have := (List.prefix_iff_eq_take.1 (w_ok h).2.2).symm
  simpa using this
theorem w_self {p : List UInt8} (h : pErr p = 0) : withinB p p = true := w_mk h h (List.prefix_refl _)
theorem w_top {p : List UInt8} (h : pErr p = 0) : withinB p [47] = true := w_mk h (by decide) (by rw [show pList [47] = [] by decide]; exact List.nil_prefix)

/-! ### 3. Round -/
theorem pOk_joined {l : List (List UInt8)} (h : ∀ x ∈ l, okPart x = true) (hl : (joined l).length ≤ 64) : pOk (joined l) = true := by
  simp only [pOk, Bool.and_eq_true, Bool.or_eq_true, decide_eq_true_eq, List.all_eq_true]
  refine ⟨rfl, hl, ?_⟩
  by_cases e : l = []
  · left; rw [e]; rfl
  · right
    have : (joined l).drop 1 = joinC 47 l := rfl
    rw [this, splitOn_joinC 47 l e fun x hx => okPart_no47 (h x hx)]
    exact h
theorem pList_joined {l : List (List UInt8)} (h : ∀ x ∈ l, okPart x = true) (hk : pOk (joined l) = true) : pList (joined l) = l :=
  joined_inj (pList_ok _) h (pJoined hk)
theorem round_1 {p : List UInt8} (h : pErr p = 0) : joinE [47] (pList p) = 0 ∧ joinS [47] (pList p) = p := by
  have hk := pErr_ok.1 h
  have h1 : pOk [47] = true := by decide
  have h2 : pList [47] = [] := by decide
  simp [joinE, joinS, h1, h2, okAll (pList_ok p), pJoined hk, h, checkedS, hk]
theorem join_ok {p : List UInt8} {parts : List (List UInt8)} (h : joinE p parts = 0) : pErr p = 0 ∧ (∀ x ∈ parts, okPart x = true) ∧ joinS p parts = joined (pList p ++ parts) ∧ pErr (joined (pList p ++ parts)) = 0 := by
  unfold joinE at h
  split at h
  · rename_i hk
    have hk2 := hk
    simp only [Bool.and_eq_true, List.all_eq_true] at hk
    refine ⟨pErr_ok.2 hk.1, hk.2, ?_, h⟩
    rw [pErr_ok] at h
    simp only [joinS, hk2, if_true, checkedS, h]
  · simp at h
theorem join_no {p : List UInt8} {parts : List (List UInt8)} (h : ¬ (joinE p parts = 0)) : joinS p parts = [] := by
  unfold joinE at h
  unfold joinS
  split at h
  · rename_i hk
    rw [pErr_ok] at h
    rw [if_pos hk]; simp [checkedS, h]
  · rename_i hk; rw [if_neg hk]
theorem round_j {p : List UInt8} {parts : List (List UInt8)} (h : joinE p parts = 0) : pList (joinS p parts) = pList p ++ parts ∧ pErr (joinS p parts) = 0 ∧ withinB (joinS p parts) p = true ∧ (joinS p parts).length ≤ 64 := by
  obtain ⟨h1, h2, h3, h4⟩ := join_ok h
  have hall : ∀ x ∈ pList p ++ parts, okPart x = true := fun x hx => by
    rcases List.mem_append.1 hx with hx | hx
    · exact pList_ok p x hx
    · exact h2 x hx
  have hp : pList (joinS p parts) = pList p ++ parts := by rw [h3]; exact pList_joined hall (pErr_ok.1 h4)
  refine ⟨hp, by rw [h3]; exact h4, w_mk (by rw [h3]; exact h4) h1 (by rw [hp]; exact List.prefix_append _ _), ?_⟩
  rw [h3]; exact p_len64 h4
theorem joinS_len (p : List UInt8) (parts : List (List UInt8)) : (joinS p parts).length ≤ 64 := by
  by_cases h : joinE p parts = 0
  · exact (round_j h).2.2.2
  · rw [join_no h]; simp
theorem joinE_90 {p : List UInt8} {parts : List (List UInt8)} (h : ¬ (pErr p = 0)) : joinE p parts = 90 := (joinP_n1 h).2.symm
theorem last_cat {l : List (List UInt8)} (h : l ≠ []) : l.dropLast ++ [lastOf l] = l := by
  have := List.dropLast_concat_getLast h
  rw [lastOf, List.getLast?_eq_some_getLast h]
  exact this
theorem round_p {p : List UInt8} (h : pErr p = 0) (hne : ¬ (p = [47])) : cutErr p = 0 ∧ pErr (parentOf p) = 0 ∧ pList (parentOf p) = (pList p).dropLast ∧ joinE (parentOf p) [nameOf p] = 0 ∧ joinS (parentOf p) [nameOf p] = p ∧ withinB p (parentOf p) = true ∧ withinB (parentOf p) p = false := by
  have hk := pErr_ok.1 h
  have hl : pList p ≠ [] := fun e => hne ((slash_list hk).2 e)
  have hpar : parentOf p = joined (pList p).dropLast := by simp [parentOf, hl]
  have hdok : ∀ x ∈ (pList p).dropLast, okPart x = true := fun x hx => pList_ok p x (List.dropLast_subset _ hx)
  have hlen : (joined (pList p).dropLast).length ≤ 64 := by
    have h1 := joinC_dropLast_len 47 (pList p)
    have h2 := congrArg List.length (pJoined hk)
    have h3 := p_len64 h
    simp only [joined, List.length_cons] at h2 ⊢
    omega
  have hok := pOk_joined hdok hlen
  have hpl := pList_joined hdok hok
  have hcat := last_cat hl
  have hmem : lastOf (pList p) ∈ (pList p).dropLast ++ [lastOf (pList p)] := by simp
  rw [hcat] at hmem
  have hname : okPart (nameOf p) = true := pList_ok p _ hmem
  have e1 : pErr (parentOf p) = 0 := by rw [hpar]; exact pErr_ok.2 hok
  have hj : joined (pList (parentOf p) ++ [nameOf p]) = p := by rw [hpar, hpl, nameOf, hcat]; exact pJoined hk
  have hall : [nameOf p].all okPart = true := by simp [hname]
  refine ⟨by simp [cutErr, hl], e1, by rw [hpar]; exact hpl, ?_, ?_, w_mk h e1 (by rw [hpar, hpl]; exact List.dropLast_prefix _), ?_⟩
  · simp only [joinE, pErr_ok.1 e1, hall, hj, h, Bool.and_self, if_true]
  · simp only [joinS, pErr_ok.1 e1, hall, hj, checkedS, hk, Bool.and_self, if_true]
  · rw [← Bool.not_eq_true]
    intro hw
    have := (w_ok hw).2.2.length_le
    rw [hpar, hpl, List.length_dropLast] at this
    have : (pList p).length ≠ 0 := fun e => hl (List.eq_nil_of_length_eq_zero e)
    omega
theorem round_len {p : List UInt8} {parts : List (List UInt8)} (h : joinE p parts = 0) : ((pList (joinS p parts)).length : Int) = ((pList p).length : Int) + (parts.length : Int) := by
  rw [(round_j h).1, List.length_append]; omega
theorem round_take {p : List UInt8} {parts : List (List UInt8)} (h : joinE p parts = 0) : (pList (joinS p parts)).take ((pList p).length : Int).toNat = pList p := by
  rw [(round_j h).1]; simp
theorem round_drop {p : List UInt8} {parts : List (List UInt8)} (h : joinE p parts = 0) : (pList (joinS p parts)).drop ((pList p).length : Int).toNat = parts := by
  rw [(round_j h).1]; simp
theorem parentOf_len (p : List UInt8) : (parentOf p).length ≤ p.length + 1 := by
  unfold parentOf
  split
  · simp
  · have := pDrop_len p; simp only [joined, List.length_cons]; omega
theorem nameOf_len (p : List UInt8) : (nameOf p).length ≤ 16 := by
  unfold nameOf lastOf
  cases h : (pList p).getLast? with
  | none => simp
  | some x => exact (okPart_len (pList_ok p x (List.mem_of_getLast? h))).1
theorem nil_lenI {l : List (List UInt8)} (h : l = []) : (l.length : Int) = 0 := by rw [h]; rfl
end Go.Proofs.YtphonojjgnbpfaaDoor.Sw
