/- Plain words on paths, third part: numbers, joining, and what the laws of paths say. No program in sight. Own text. -/
import Derived.Test.YtphonojjgnbpfaaDoorSwPathQ
namespace Go.Proofs.YtphonojjgnbpfaaDoor.Sw
set_option linter.unusedVariables false
set_option linter.unusedSimpArgs false
set_option linter.deprecated false
open Go

/-! ### 1. Numbers -/
def low : Nat → Nat → List UInt8
  | 0, _ => []
  | k + 1, n => UInt8.ofNat (48 + n / 10 ^ k % 10) :: low k n
def DInv (n : Int) (d : List UInt8) (q i : Int) : Prop := d = List.replicate (i + 1).toNat 0 ++ low (4 - i).toNat n.toNat ∧ q = ((n.toNat / 10 ^ (4 - i).toNat : Nat) : Int)
theorem DInv_0 {n : Int} (h : 0 ≤ n) : DInv n [0, 0, 0, 0, 0] n 4 := by
  refine ⟨rfl, ?_⟩
  simp; omega
theorem DInv_step {n : Int} {d : List UInt8} {q i : Int} (H : DInv n d q i) (h0 : 0 ≤ i) (h1 : i ≤ 4) : DInv n (d.set i.toNat (UInt8.ofNat (48 + q % 10).toNat)) (q / 10) (i - 1) := by
  obtain ⟨hd, hq⟩ := H
  have e1 : (i - 1 + 1).toNat = i.toNat := by omega
  have e2 : (4 - (i - 1)).toNat = (4 - i).toNat + 1 := by omega
  have e3 : (i + 1).toNat = i.toNat + 1 := by omega
  constructor
  · rw [e1, e2, low, hd, e3, List.replicate_succ', List.append_assoc, List.set_append]
    simp only [List.length_replicate, Nat.lt_irrefl, if_false, Nat.sub_self, List.singleton_append, List.set_cons_zero]
    congr 2
    rw [hq]
    congr 1
  · rw [e2, hq, Nat.pow_succ, ← Nat.div_div_eq_div_mul]
    omega
theorem DInv_end {n : Int} {d : List UInt8} {q i : Int} (H : DInv n d q i) (h0 : ¬ i ≥ 0) (h1 : -1 ≤ i) : d = low 5 n.toNat := by
  obtain ⟨hd, _⟩ := H
  have : i = -1 := by omega
  subst this
  exact hd
theorem low_dig {n : Int} (h0 : 0 ≤ n) (h1 : n ≤ 99999) : low 5 n.toNat = dig5 n := by
  unfold dig5
  have hi : Lib.itoa n = Lib.decDigits n.toNat := by rw [Lib.itoa, if_neg (by omega)]
  rw [hi]
  have hu : n.toNat ≤ 99999 := by omega
  generalize n.toNat = u at hu
  have z : (UInt8.ofNat (48 + 0)) = 48 := rfl
  have one : ∀ v, v < 10 → Lib.decDigits v = [UInt8.ofNat (48 + v)] := fun v h => by rw [Lib.decDigits, dif_pos h]
  have more : ∀ v, ¬ v < 10 → Lib.decDigits v = Lib.decDigits (v / 10) ++ [UInt8.ofNat (48 + v % 10)] := fun v h => by rw [Lib.decDigits, dif_neg h]
  have d2 : u / 10 / 10 = u / 100 := by omega
  have d3 : u / 100 / 10 = u / 1000 := by omega
  have d4 : u / 1000 / 10 = u / 10000 := by omega
  simp only [low, Nat.pow_zero, Nat.div_one, show (10 : Nat) ^ 4 = 10000 from rfl, show (10 : Nat) ^ 3 = 1000 from rfl, show (10 : Nat) ^ 2 = 100 from rfl, show (10 : Nat) ^ 1 = 10 from rfl]
  by_cases a1 : u < 10
  · rw [one u a1]
    simp [Lib.repeatL, show u / 10000 = 0 by omega, show u / 1000 = 0 by omega, show u / 100 = 0 by omega, show u / 10 = 0 by omega, show u % 10 = u by omega]
  by_cases a2 : u < 100
  · rw [more u a1, one _ (by omega)]
    simp [Lib.repeatL, show u / 10000 = 0 by omega, show u / 1000 = 0 by omega, show u / 100 = 0 by omega, show u / 10 % 10 = u / 10 by omega]
  by_cases a3 : u < 1000
  · rw [more u a1, more (u / 10) (by omega), one _ (by omega)]
    simp [Lib.repeatL, show u / 10000 = 0 by omega, show u / 1000 = 0 by omega, d2, show u / 100 % 10 = u / 100 by omega]
  by_cases a4 : u < 10000
  · rw [more u a1, more (u / 10) (by omega), more (u / 10 / 10) (by omega), one _ (by omega)]
    simp [Lib.repeatL, show u / 10000 = 0 by omega, d2, d3, show u / 1000 % 10 = u / 1000 by omega]
  · rw [more u a1, more (u / 10) (by omega), more (u / 10 / 10) (by omega), more (u / 10 / 10 / 10) (by omega), one _ (by omega)]
    simp [Lib.repeatL, d2, d3, d4, show u / 10000 % 10 = u / 10000 by omega]
theorem cutErr_90 {p : List UInt8} (h : pList p = []) : ¬ (cutErr p = 0) := by simp [cutErr, h]
theorem numR_1 {p : List UInt8} {n : Int} {d : List UInt8} (h : numOk p n = true) (hd : d = dig5 n) : numS p n = checkedS (p ++ d) ∧ numE p n = pErr (p ++ d) := by subst hd; simp [numS, numE, h]
theorem numR_bad {p : List UInt8} {n : Int} {d : List UInt8} (h : numOk p n = true) (hd : d = dig5 n) (hp : ¬ (pErr (p ++ d) = 0)) : ([] : List UInt8) = numS p n ∧ (90 : Int) = numE p n := by
  rw [(numR_1 h hd).1, (numR_1 h hd).2]
  rw [pErr_ok] at hp
  simp [checkedS, pErr, hp]
theorem numR_ok {p : List UInt8} {n : Int} {d : List UInt8} (h : numOk p n = true) (hd : d = dig5 n) (hp : pErr (p ++ d) = 0) : p ++ d = numS p n ∧ (0 : Int) = numE p n := by
  rw [(numR_1 h hd).1, (numR_1 h hd).2, hp]
  rw [pErr_ok] at hp
  simp [checkedS, hp]

/-! ### 2. Joining -/
theorem flat_step {α : Type} {l : List (List α)} {i : Int} {x out : List α} (h : out = (l.take i.toNat).flatten) (h0 : 0 ≤ i) (hx : l[i.toNat]? = some x) : out ++ x = (l.take (i + 1).toNat).flatten := by
  rw [toNat_succ h0, take_at hx, h]; simp
theorem flat_le {α : Type} (l : List (List α)) (k : Nat) : (l.take k).flatten.length ≤ l.flatten.length := by
  conv => rhs; rw [← List.take_append_drop k l]
  rw [List.flatten_append, List.length_append]; omega
theorem flat_bound {α : Type} {l : List (List α)} {i : Int} {x : List α} (h0 : 0 ≤ i) (hx : l[i.toNat]? = some x) : (l.take i.toNat).flatten.length + x.length ≤ l.flatten.length := by
  have h1 := flat_step (out := (l.take i.toNat).flatten) rfl h0 hx
  have h2 := flat_le l (i + 1).toNat
  rw [← h1, List.length_append] at h2
  exact h2
theorem flat_sum {α : Type} {l : List (List α)} {i s : Int} {x : List α} (h : s = ((l.take i.toNat).flatten.length : Int)) (h0 : 0 ≤ i) (hx : l[i.toNat]? = some x) : s + (x.length : Int) = ((l.take (i + 1).toNat).flatten.length : Int) := by
  rw [← flat_step rfl h0 hx, List.length_append, h]; omega
theorem flat_end {α : Type} {l : List (List α)} {i : Int} {out : List α} (h : out = (l.take i.toNat).flatten) (hi : ¬ (i < (l.length : Int))) : out = l.flatten := by
  rwa [List.take_of_length_le (by omega)] at h
theorem flat_endn {α : Type} {l : List (List α)} {i s : Int} (h : s = ((l.take i.toNat).flatten.length : Int)) (hi : ¬ (i < (l.length : Int))) : s = (l.flatten.length : Int) := by
  rwa [List.take_of_length_le (by omega)] at h

theorem okPart_len {s : List UInt8} (h : okPart s = true) : s.length ≤ 16 ∧ 1 ≤ s.length := by
  simp only [okPart, Bool.and_eq_true, decide_eq_true_eq] at h
  refine ⟨h.2.1, ?_⟩
  cases s with
  | nil => exact absurd rfl h.1
  | cons => simp
theorem joinC_ok_len (c : UInt8) : ∀ l : List (List UInt8), (∀ x ∈ l, okPart x = true) → (joinC c l).length ≤ 17 * l.length
  | [], _ => by simp [joinC]
  | x :: l, h => by
    have ih := joinC_ok_len c l (fun y hy => h y (by simp [hy]))
    have hx := (okPart_len (h x (by simp))).1
    rw [joinC_cons_len, List.length_cons]
    split <;> omega
theorem pList_ok (p : List UInt8) : ∀ x ∈ pList p, okPart x = true := by
  intro x hx
  unfold pList at hx
  split at hx
  · rename_i h
    split at hx
    · simp at hx
    · rename_i hne
      simp only [pOk, Bool.and_eq_true, Bool.or_eq_true, List.all_eq_true, decide_eq_true_eq] at h
      rcases h.2.2 with e | e
      · exact absurd e hne
      · exact e x hx
  · simp at hx
theorem joinAll_len (p : List UInt8) {parts : List (List UInt8)} (h : ∀ x ∈ parts, okPart x = true) (hl : parts.length ≤ 10000000) : (joined (pList p ++ parts)).length ≤ 1000000000 ∧ (joinC 47 (pList p ++ parts)).length ≤ 1000000000 := by
  have h2 := joinC_ok_len 47 (pList p ++ parts) (fun x hx => by
    rcases List.mem_append.1 hx with hx | hx
    · exact pList_ok p x hx
    · exact h x hx)
  have h3 := pList_len p
  simp only [joined, List.length_cons, List.length_append] at h2 ⊢
  omega
theorem noneBad {parts : List (List UInt8)} (h : parts.any (fun s => !okPart s) = false) : ∀ x ∈ parts, okPart x = true := by
  intro x hx
  rw [List.any_eq_false] at h
  simpa using h x hx
theorem okAll {parts : List (List UInt8)} (h : ∀ x ∈ parts, okPart x = true) : parts.all okPart = true := List.all_eq_true.2 h
theorem joinP_n1 {p : List UInt8} {parts : List (List UInt8)} (h : ¬ (pErr p = 0)) : [] = joinS p parts ∧ (90 : Int) = joinE p parts := by
  rw [pErr_ok] at h; simp [joinS, joinE, h]
theorem joinP_n2 {p : List UInt8} {parts : List (List UInt8)} (h : parts.all okPart = false) : [] = joinS p parts ∧ (90 : Int) = joinE p parts := by
  simp [joinS, joinE, h]
theorem anyBad {parts : List (List UInt8)} (h : parts.any (fun s => !okPart s) = true) : parts.all okPart = false := by
  rw [← Bool.not_eq_true, List.all_eq_true]
  intro hall
  rw [List.any_eq_true] at h
  obtain ⟨x, hx, hb⟩ := h
  rw [hall x hx] at hb; cases hb
theorem joinP_y {p : List UInt8} {parts : List (List UInt8)} (h : pErr p = 0) (h2 : parts.any (fun s => !okPart s) = false) : checkedS (joined ([pList p, parts].flatten)) = joinS p parts ∧ pErr (joined ([pList p, parts].flatten)) = joinE p parts := by
  rw [pErr_ok] at h
  have := okAll (noneBad h2)
  simp [joinS, joinE, h, this]
def okTo (l : List (List UInt8)) (i : Int) : Prop := ∀ x ∈ l.take i.toNat, okPart x = true
theorem okTo_0 (l : List (List UInt8)) : okTo l 0 := by intro x hx; simp at hx
theorem okTo_step {l : List (List UInt8)} {i : Int} {x : List UInt8} (h : okTo l i) (h0 : 0 ≤ i) (hx : l[i.toNat]? = some x) (hk : okPart x = true) : okTo l (i + 1) := by
  intro y hy
  rw [toNat_succ h0, take_at hx] at hy
  rcases List.mem_append.1 hy with hy | hy
  · exact h y hy
  · have : y = x := by simpa using hy
    subst this; exact hk
theorem okTo_end {l : List (List UInt8)} {i : Int} (h : okTo l i) (hi : ¬ (i < (l.length : Int))) : ∀ x ∈ l, okPart x = true := by
  unfold okTo at h
  rwa [List.take_of_length_le (by omega)] at h
theorem badAt {l : List (List UInt8)} {i : Nat} {x : List UInt8} (hx : l[i]? = some x) (hk : okPart x = false) : l.all okPart = false := by
  rw [← Bool.not_eq_true, List.all_eq_true]
  intro hall
  rw [hall x (List.mem_of_getElem? hx)] at hk; cases hk
theorem joinC_ge (c : UInt8) : ∀ l : List (List UInt8), l.length ≤ (joinC c l).length + 1
  | [] => by simp
  | x :: l => by
    have ih := joinC_ge c l
    rw [joinC_cons_len, List.length_cons]
    split
    · rename_i e; subst e; simp
    · omega
theorem joinR_n2 {p : List UInt8} {parts : List (List UInt8)} (h : (parts.length : Int) > 64) : [] = joinS p parts ∧ (90 : Int) = joinE p parts := by
  have hlong : pOk (joined (pList p ++ parts)) = false := by
    apply pOk_long
    have := joinC_ge 47 (pList p ++ parts)
    simp only [joined, List.length_cons, List.length_append] at this ⊢
    omega
  unfold joinS joinE
  split <;> simp [checkedS, pErr, hlong]
theorem joinR_n4 {p : List UInt8} {parts : List (List UInt8)} (h : pErr p = 0) (h2 : ∀ x ∈ parts, okPart x = true) (h3 : ¬ (pErr (joined (pList p ++ parts)) = 0)) : [] = joinS p parts ∧ (90 : Int) = joinE p parts := by
  rw [pErr_ok] at h h3
  simp [joinS, joinE, h, okAll h2, checkedS, pErr, h3]
theorem joinR_y {p : List UInt8} {parts : List (List UInt8)} (h : pErr p = 0) (h2 : ∀ x ∈ parts, okPart x = true) (h3 : pErr (joined (pList p ++ parts)) = 0) : joined (pList p ++ parts) = joinS p parts ∧ (0 : Int) = joinE p parts := by
  have h4 := h3
  rw [pErr_ok] at h h4
  simp [joinS, joinE, h, okAll h2, checkedS, h4, h3]

/-! ### 3. Within -/
theorem okPart_no47 {s : List UInt8} (h : okPart s = true) : 47 ∉ s := by
  simp only [okPart, Bool.and_eq_true, List.all_eq_true] at h
  intro hm
  have := h.2.2 47 hm
  simp [sgn] at this
theorem joined_append {a b : List (List UInt8)} (ha : a ≠ []) (hb : b ≠ []) : joined (a ++ b) = joined a ++ joined b := by
  rw [← wh_joined _ ha, ← wh_joined _ hb, ← wh_joined _ (by simp [ha])]
  simp [wh]
theorem joined_inj {a b : List (List UInt8)} (ha : ∀ x ∈ a, okPart x = true) (hb : ∀ x ∈ b, okPart x = true) (h : joined a = joined b) : a = b := by
  have h2 : joinC 47 a = joinC 47 b := by simpa [joined] using h
  have key : ∀ l : List (List UInt8), (∀ x ∈ l, okPart x = true) → l ≠ [] → splitOn 47 (joinC 47 l) = l := fun l hl hne => splitOn_joinC 47 l hne fun x hx => okPart_no47 (hl x hx)
  have nz : ∀ l : List (List UInt8), (∀ x ∈ l, okPart x = true) → l ≠ [] → joinC 47 l ≠ [] := by
    intro l hl hne e
    cases l with
    | nil => exact hne rfl
    | cons x xs =>
      have h1 := joinC_cons_len 47 x xs
      rw [e] at h1
      have := (okPart_len (hl x (by simp))).2
      simp at h1
      omega
  by_cases e1 : a = []
  · by_cases e2 : b = []
    · rw [e1, e2]
    · subst e1; exact absurd h2.symm (nz b hb e2)
  · by_cases e2 : b = []
    · subst e2; exact absurd h2 (nz a ha e1)
    · rw [← key a ha e1, ← key b hb e2, h2]
theorem slash_list {p : List UInt8} (h : pOk p = true) : p = [47] ↔ pList p = [] := by
  constructor
  · intro e; subst e; decide
  · intro e; have := pJoined h; rw [e] at this; exact this.symm
theorem withinB_eq (p t : List UInt8) : withinB p t = withinR p t := by
  unfold withinB withinR
  by_cases h : (pOk p && pOk t) = true
  · rw [h, Bool.true_and, Bool.true_and]
    simp only [Bool.and_eq_true] at h
    obtain ⟨hp, ht⟩ := h
    have ep := pJoined hp
    have et := pJoined ht
    rw [Bool.eq_iff_iff, List.isPrefixOf_iff_prefix]
    simp only [Bool.or_eq_true, beq_iff_eq, List.isPrefixOf_iff_prefix]
    by_cases h1 : t = [47]
    · simp only [h1, true_or, or_true, true_iff]
      rw [(slash_list (p := [47]) (by decide)).1 rfl]
      exact List.nil_prefix
    have htn : pList t ≠ [] := fun e => h1 ((slash_list ht).2 e)
    constructor
    · rintro (e | e | ⟨c, e⟩)
      · subst e; exact List.prefix_refl _
      · exact absurd e h1
      · -- p = t ++ "/" ++ c
        have hs : splitOn 47 (p.drop 1) = pList t ++ splitOn 47 c := by
          have hd : p.drop 1 = joinC 47 (pList t) ++ 47 :: c := by
            rw [← e]
            conv => lhs; rw [show t = 47 :: joinC 47 (pList t) from et.symm]
            simp
          rw [hd]
          have gen : ∀ l : List (List UInt8), l ≠ [] → (∀ x ∈ l, 47 ∉ x) → splitOn 47 (joinC 47 l ++ 47 :: c) = l ++ splitOn 47 c := by
            intro l
            induction l with
            | nil => intro h; exact absurd rfl h
            | cons x xs ih =>
              intro _ hx
              cases xs with
              | nil => rw [joinC, splitOn_hit 47 x c (hx x (by simp))]; rfl
              | cons y ys =>
                rw [joinC, List.append_assoc, List.cons_append, splitOn_hit 47 x _ (hx x (by simp)), ih (by simp) (fun z hz => hx z (by simp [hz]))]; rfl
          exact gen _ htn fun x hx => okPart_no47 (pList_ok t x hx)
        have hp47 : ¬ (p = [47]) := by
          intro e2
          rw [e2] at e
          have hlen := congrArg List.length e
          simp only [List.length_append, List.length_cons, List.length_nil] at hlen
          have ht0 : t = [] := List.eq_nil_of_length_eq_zero (by omega)
          rw [ht0] at ht
          exact absurd ht (by decide)
        have hpl : pList p = splitOn 47 (p.drop 1) := by simp [pList, hp, hp47]
        rw [hpl, hs]
        exact List.prefix_append _ _
    · rintro ⟨c, e⟩
      by_cases hc : c = []
      · left
        rw [hc, List.append_nil] at e
        rw [← ep, ← et, e]
      · right; right
        rw [← ep, ← e, joined_append htn hc, et, joined]
        exact ⟨joinC 47 c, by simp⟩
  · rw [Bool.not_eq_true] at h; rw [h]; rfl
theorem alive_num : numS [47, 113, 47, 116, 45] 7 = [47, 113, 47, 116, 45, 48, 48, 48, 48, 55] ∧ numE [47, 113, 47, 116, 45] 7 = 0 := by
  have h1 : dig5 7 = [48, 48, 48, 48, 55] := by rw [← low_dig (by decide) (by decide)]; decide
  have h2 : numOk [47, 113, 47, 116, 45] 7 = true := by decide
  have h3 : pOk [47, 113, 47, 116, 45, 48, 48, 48, 48, 55] = true := by decide
  simp only [numS, numE, h2, h1, if_true, checkedS, pErr, List.cons_append, List.nil_append, h3, and_self]
theorem pErr_90 {p : List UInt8} (h : ¬ (pErr p = 0)) : pErr p = 90 := by unfold pErr at *; split at h <;> simp_all
theorem pList_0 {p : List UInt8} (h : ¬ (pErr p = 0)) : (((pList p).length : Int) == 0) = true := by rw [pList_no h]; rfl
theorem pPart_1 {p : List UInt8} {i : Nat} {x : List UInt8} (hx : (pList p)[i]? = some x) : ¬ ((x.length : Int) < 1) := by
  have := (okPart_len (pList_ok p x (List.mem_of_getElem? hx))).2; omega
theorem pPart_16 {p : List UInt8} {i : Nat} {x : List UInt8} (hx : (pList p)[i]? = some x) : ¬ ((x.length : Int) > 16) := by
  have := (okPart_len (pList_ok p x (List.mem_of_getElem? hx))).1; omega
theorem wh_sum {l : List (List UInt8)} {i n : Int} {x : List UInt8} (h : n = ((wh (l.take i.toNat)).length : Int)) (h0 : 0 ≤ i) (hx : l[i.toNat]? = some x) : n + (1 + (x.length : Int)) = ((wh (l.take (i + 1).toNat)).length : Int) := by
  rw [← wh_step rfl h0 hx, h]; simp; omega
theorem p_len64 {p : List UInt8} (h : pErr p = 0) : p.length ≤ 64 := by
  rw [pErr_ok] at h
  simp only [pOk, Bool.and_eq_true, decide_eq_true_eq] at h
  exact h.2.1
theorem wh_le (p : List UInt8) (i : Nat) : (wh ((pList p).take i)).length ≤ 2000 := by
  have h1 := wh_len_take (pList p) i
  have h2 : (wh (pList p)).length ≤ 1 + 17 * 64 := by
    by_cases e : pList p = []
    · rw [e]; simp [wh]
    · rw [wh_joined _ e]
      have h3 := joinC_ok_len 47 (pList p) (pList_ok p)
      have h4 := pList_len p
      simp only [joined, List.length_cons]
      omega
  omega
theorem b_sum {p : List UInt8} {n i : Int} (hn : n = ((wh ((pList p).take i.toNat)).length : Int)) (he : ¬ (i < ((pList p).length : Int))) (h : pErr p = 0) (h2 : ¬ (((pList p).length : Int) = 0)) : n = (p.length : Int) := by
  rw [pErr_ok] at h
  rw [List.take_of_length_le (by omega), wh_joined _ (by intro e; rw [e] at h2; simp at h2), pJoined h] at hn
  exact hn
theorem b_one {p : List UInt8} (h : pErr p = 0) (h2 : ((pList p).length : Int) = 0) : (1 : Int) = (p.length : Int) := by
  rw [pErr_ok] at h
  have := (slash_list h).2 (List.eq_nil_of_length_eq_zero (by omega))
  rw [this]; rfl
end Go.Proofs.YtphonojjgnbpfaaDoor.Sw
