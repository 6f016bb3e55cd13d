/- Plain words on paths: what a path's parts are, and the lemmas that the walks of package path and of its reference need. No program in sight. Own text. -/
import Derived.Test.YtphonojjgnbpfaaDoorSwPure
import Derived.Test.YtphonojjgnbpfaaDoorSwLib
namespace Go.Proofs.YtphonojjgnbpfaaDoor.Sw
set_option linter.unusedVariables false
set_option linter.unusedSimpArgs false
set_option linter.deprecated false
open Go

theorem hasP1 {s p : List UInt8} : (s.take p.length == p) = p.isPrefixOf s := by
  rw [Bool.eq_iff_iff, beq_iff_eq, List.isPrefixOf_iff_prefix, List.prefix_iff_eq_take]
  exact eq_comm
theorem hasP2 {s p : List UInt8} (h : s.length < p.length) : p.isPrefixOf s = false := by
  rw [← Bool.not_eq_true, List.isPrefixOf_iff_prefix]
  intro hp
  have := hp.length_le
  omega
theorem hasP_len {s p : List UInt8} (h : p.isPrefixOf s = true) : p.length ≤ s.length := (List.isPrefixOf_iff_prefix.1 h).length_le
theorem asciiAll {l : List UInt8} (h : l.all (fun b => decide (b.toNat < 128)) = true) : ∀ (j : Nat) b, l[j]? = some b → b.toNat < 128 :=
  fun _ b hb => of_decide_eq_true (List.all_eq_true.1 h b (List.mem_of_getElem? hb))

def signs : List UInt8 := [97,98,99,100,101,102,103,104,105,106,107,108,109,110,111,112,113,114,115,116,117,118,119,120,121,122,48,49,50,51,52,53,54,55,56,57,45,95]
def sgn (c : UInt8) : Bool := (decide (97 ≤ c.toNat) && decide (c.toNat ≤ 122)) || ((decide (48 ≤ c.toNat) && decide (c.toNat ≤ 57)) || (decide (c.toNat = 45) || decide (c.toNat = 95)))
theorem sgn_signs (c : UInt8) : signs.contains c = sgn c := by
  revert c
  have : ∀ n : Fin 256, signs.contains (UInt8.ofNat n.1) = sgn (UInt8.ofNat n.1) := by decide +kernel
  intro c
  have h := this ⟨c.toNat, c.toNat_lt⟩
  simpa using h
def okPart (s : List UInt8) : Bool := decide (s ≠ []) && (decide (s.length ≤ 16) && s.all sgn)
theorem trimE (s : List UInt8) : (Lib.trimS s signs == []) = s.all sgn := by
  rw [Bool.eq_iff_iff, beq_iff_eq, trimS_nil, List.all_eq_true]
  constructor
  · intro h b hb; rw [← sgn_signs]; exact h b hb
  · intro h b hb; rw [sgn_signs]; exact h b hb

theorem part_t {s : List UInt8} (h0 : ¬ (s = [])) (h1 : (s.length : Int) ≤ 16) : (Lib.trimS s signs == []) = okPart s := by
  rw [trimE, okPart, decide_eq_true h0, decide_eq_true (by omega), Bool.true_and, Bool.true_and]

theorem part_l {s : List UInt8} (h : ¬ ((s.length : Int) ≤ 16)) : false = okPart s := by
  rw [okPart, decide_eq_false (show ¬ s.length ≤ 16 by omega)]; simp
theorem part_0 : false = okPart [] := by simp [okPart]

/-- The first place at which q holds; -1: none. -/
def findI {α : Type} (q : α → Bool) : List α → Int
  | [] => -1
  | x :: xs => if q x = true then 0 else if findI q xs < 0 then -1 else findI q xs + 1
theorem findI_ge {α : Type} (q : α → Bool) : ∀ l, -1 ≤ findI q l
  | [] => by simp [findI]
  | x :: xs => by unfold findI; have := findI_ge q xs; split <;> (try split) <;> omega
theorem findI_any {α : Type} (q : α → Bool) : ∀ l, decide (0 ≤ findI q l) = l.any q
  | [] => by simp [findI]
  | x :: xs => by
    have ih := findI_any q xs
    unfold findI
    rw [List.any_cons, ← ih]
    by_cases h : q x = true
    · simp [h]
    · by_cases h2 : findI q xs < 0
      · simp [h, h2]
      · simp [h, h2]; omega
/-- Where the loop stands. -/
def findAt {α : Type} (q : α → Bool) (l : List α) (i : Int) : Prop := findI q l = if findI q (l.drop i.toNat) < 0 then -1 else i + findI q (l.drop i.toNat)
theorem findAt_0 {α : Type} (q : α → Bool) (l : List α) : findAt q l 0 := by
  unfold findAt
  have := findI_ge q l
  simp only [Int.toNat_zero, List.drop_zero, Int.zero_add]
  split <;> omega
theorem findAt_hit {α : Type} {q : α → Bool} {l : List α} {i : Int} {x : α} (H : findAt q l i) (hx : l[i.toNat]? = some x) (hq : q x = true) : i = findI q l := by
  unfold findAt at H
  rw [H, drop_at hx]
  simp [findI, hq]
theorem findAt_miss {α : Type} {q : α → Bool} {l : List α} {i : Int} {x : α} (H : findAt q l i) (h0 : 0 ≤ i) (hx : l[i.toNat]? = some x) (hq : q x = false) : findAt q l (i + 1) := by
  unfold findAt at H ⊢
  have hg := findI_ge q (l.drop (i.toNat + 1))
  rw [H, drop_at hx, toNat_succ h0]
  simp only [findI, hq, Bool.false_eq_true, if_false]
  split <;> split <;> (try split) <;> omega
theorem findAt_end {α : Type} {q : α → Bool} {l : List α} {i : Int} (H : findAt q l i) (h : ¬ (i < (l.length : Int))) : -1 = findI q l := by
  unfold findAt at H
  rw [H, List.drop_eq_nil_of_le (by omega)]
  simp [findI]

def pOk (p : List UInt8) : Bool := decide (p.head? = some 47) && (decide (p.length ≤ 64) && (decide (p = [47]) || (splitOn 47 (p.drop 1)).all okPart))
def pList (p : List UInt8) : List (List UInt8) := if pOk p = true then (if p = [47] then [] else splitOn 47 (p.drop 1)) else []
def pErr (p : List UInt8) : Int := if pOk p = true then 0 else 90
theorem slashPre (p : List UInt8) : ([47] : List UInt8).isPrefixOf p = decide (p.head? = some 47) := by
  cases p with
  | nil => simp [List.isPrefixOf]
  | cons b l =>
    by_cases h : b = 47
    · simp [List.isPrefixOf, h]
    · simp [List.isPrefixOf, h]; exact fun e => h e.symm
theorem pOk_no {p : List UInt8} (h : ([47] : List UInt8).isPrefixOf p = false) : pOk p = false := by
  rw [slashPre] at h; simp [pOk, h]
theorem pOk_long {p : List UInt8} (h : 64 < p.length) : pOk p = false := by
  simp [pOk]; intro _ h2; omega
theorem pOk_iff {p : List UInt8} (h : ([47] : List UInt8).isPrefixOf p = true) (hl : p.length ≤ 64) : pOk p = (decide (p = [47]) || (splitOn 47 (p.drop 1)).all okPart) := by
  rw [slashPre] at h; simp [pOk, h, hl]
theorem drop1_nil {p : List UInt8} (h : ([47] : List UInt8).isPrefixOf p = true) : p.drop 1 = [] ↔ p = [47] := by
  cases p with
  | nil => simp [List.isPrefixOf] at h
  | cons b l =>
    simp [List.isPrefixOf] at h
    subst h
    simp
theorem splitOn_len (c : UInt8) (l : List UInt8) : (splitOn c l).length ≤ l.length + 1 := by
  rw [splitOn_length]; have := List.count_le_length (a := c) (l := l); omega
theorem pList_len (p : List UInt8) : (pList p).length ≤ 64 := by
  unfold pList
  split
  · rename_i h
    split
    · simp
    · have h2 := splitOn_len 47 (p.drop 1)
      simp [pOk] at h
      rw [List.length_drop] at h2
      have : p.length ≠ 0 := by intro e; have := List.eq_nil_of_length_eq_zero e; subst this; simp at h
      omega
  · simp

/-! ### What the functions come to -/
def slash : List UInt8 := [47]
def cutErr (p : List UInt8) : Int := if pList p = [] then 90 else 0
def lastOf (l : List (List UInt8)) : List UInt8 := l.getLast?.getD []
def joined (l : List (List UInt8)) : List UInt8 := 47 :: joinC 47 l
def parentOf (p : List UInt8) : List UInt8 := if pList p = [] then [] else joined (pList p).dropLast
def nameOf (p : List UInt8) : List UInt8 := lastOf (pList p)
def checkedS (p : List UInt8) : List UInt8 := if pOk p = true then p else []
def joinS (parent : List UInt8) (parts : List (List UInt8)) : List UInt8 := if pOk parent && parts.all okPart then checkedS (joined (pList parent ++ parts)) else []
def joinE (parent : List UInt8) (parts : List (List UInt8)) : Int := if pOk parent && parts.all okPart then pErr (joined (pList parent ++ parts)) else 90
def dig5 (n : Int) : List UInt8 := Lib.repeatL [48] (5 - (Lib.itoa n).length) ++ Lib.itoa n
def numOk (p : List UInt8) (n : Int) : Bool := decide (pList p ≠ []) && (decide (0 ≤ n) && decide (n ≤ 99999))
def numS (p : List UInt8) (n : Int) : List UInt8 := if numOk p n then checkedS (p ++ dig5 n) else []
def numE (p : List UInt8) (n : Int) : Int := if numOk p n then pErr (p ++ dig5 n) else 90
def withinB (p top : List UInt8) : Bool := (pOk p && pOk top) && (p == top || (top == [47] || (top ++ [47]).isPrefixOf p))

theorem joinE_L (l : List (List UInt8)) : Lib.join l [47] = joinC 47 l := by
  induction l with
  | nil => rfl
  | cons x xs ih =>
    cases xs with
    | nil => simp [Lib.join, List.intercalate, joinC]
    | cons y ys =>
      rw [joinC, ← ih]
      simp [Lib.join, List.intercalate]
theorem pErr_ok {p : List UInt8} : pErr p = 0 ↔ pOk p = true := by unfold pErr; split <;> simp_all
theorem pList_no {p : List UInt8} (h : ¬ (pErr p = 0)) : pList p = [] := by
  rw [pErr_ok] at h; simp [pList, h]
theorem getLast_of {l : List (List UInt8)} {x : List UInt8} {n : Nat} (h : l[n]? = some x) (hn : n + 1 = l.length) : x = lastOf l := by
  unfold lastOf
  rw [List.getLast?_eq_getElem?, show l.length - 1 = n from by omega, h]; rfl
theorem cutErr_0 {p : List UInt8} (h : ¬ ((pList p).length = 0)) : cutErr p = 0 := by
  unfold cutErr; rw [if_neg]; intro e; rw [e] at h; simp at h
theorem cutErr_1 {p : List UInt8} (h : pList p = []) : cutErr p = 90 := by unfold cutErr; rw [if_pos h]

theorem no_ok {p : List UInt8} (h : pOk p = false) : ([] : List (List UInt8)) = pList p ∧ (90 : Int) = pErr p := by simp [pList, pErr, h]
theorem splitOn_memlen (c : UInt8) : ∀ (l : List UInt8), ∀ x ∈ splitOn c l, x.length ≤ l.length
  | [], x, hx => by simp [splitOn] at hx; subst hx; simp
  | b :: l, x, hx => by
    have ih := splitOn_memlen c l
    unfold splitOn at hx
    split at hx
    · rcases List.mem_cons.1 hx with rfl | hx
      · simp
      · have := ih x hx; simp; omega
    · split at hx
      · rename_i y ys hy
        rw [hy] at ih
        rcases List.mem_cons.1 hx with rfl | hx
        · have := ih y (by simp); simp; omega
        · have := ih x (by simp [hx]); simp; omega
      · rename_i hy; exact absurd hy (splitOn_ne c l)
def restOf (p : List UInt8) : List UInt8 := if ([47] : List UInt8).isPrefixOf p = true then p.drop ([47] : List UInt8).length else p
theorem restOf_len (p : List UInt8) : (restOf p).length ≤ p.length := by unfold restOf; split <;> simp
theorem restOf_eq {p : List UInt8} (h : ([47] : List UInt8).isPrefixOf p = true) : restOf p = p.drop 1 := by simp [restOf, h]
theorem parts_0 {p : List UInt8} (h : ([47] : List UInt8).isPrefixOf p = true) (hl : ¬ (p.length : Int) > 64) (hr : restOf p = []) : ([] : List (List UInt8)) = pList p ∧ (0 : Int) = pErr p := by
  rw [restOf_eq h, drop1_nil h] at hr
  subst hr
  exact ⟨by decide, by decide⟩
theorem parts_1 {p : List UInt8} (h : ([47] : List UInt8).isPrefixOf p = true) (hl : ¬ (p.length : Int) > 64) (hr : ¬ (restOf p = [])) (ha : (splitOn 47 (restOf p)).any (fun s => !okPart s) = true) : pOk p = false := by
  rw [restOf_eq h, drop1_nil h] at hr
  rw [restOf_eq h] at ha
  rw [pOk_iff h (by omega), decide_eq_false hr, Bool.false_or]
  rw [← Bool.not_eq_true]
  intro hall
  rw [List.any_eq_true] at ha
  obtain ⟨x, hx, hb⟩ := ha
  rw [List.all_eq_true] at hall
  rw [hall x hx] at hb
  cases hb
theorem parts_2 {p : List UInt8} (h : ([47] : List UInt8).isPrefixOf p = true) (hl : ¬ (p.length : Int) > 64) (hr : ¬ (restOf p = [])) (ha : (splitOn 47 (restOf p)).any (fun s => !okPart s) = false) : splitOn 47 (restOf p) = pList p ∧ (0 : Int) = pErr p := by
  rw [restOf_eq h, drop1_nil h] at hr
  rw [restOf_eq h] at ha ⊢
  have hok : pOk p = true := by
    rw [pOk_iff h (by omega), decide_eq_false hr, Bool.false_or, List.all_eq_true]
    intro x hx
    rw [List.any_eq_false] at ha
    have := ha x hx
    simpa using this
  simp [pList, pErr, hok, hr]
theorem cut_no {p : List UInt8} (h : pList p = []) : ([] : List (List UInt8)) = (pList p).dropLast ∧ ([] : List UInt8) = lastOf (pList p) ∧ (90 : Int) = cutErr p := by
  simp [h, lastOf, cutErr]
theorem take_last {l : List (List UInt8)} {n : Int} (h : n = (l.length : Int) - 1) (h0 : ¬ ((l.length : Int) = 0)) : l.take n.toNat = l.dropLast := by
  rw [List.dropLast_eq_take]
  congr 1
  omega
theorem joinC_cons_len (c : UInt8) (x : List UInt8) (l : List (List UInt8)) : (joinC c (x :: l)).length = x.length + (if l = [] then 0 else 1 + (joinC c l).length) := by
  cases l with
  | nil => simp [joinC]
  | cons y ys => simp [joinC]; omega
theorem joinC_dropLast_len (c : UInt8) : ∀ l : List (List UInt8), (joinC c l.dropLast).length ≤ (joinC c l).length
  | [] => by simp
  | [x] => by simp [joinC]
  | x :: y :: l => by
    have ih := joinC_dropLast_len c (y :: l)
    rw [List.dropLast_cons_cons, joinC_cons_len, joinC_cons_len]
    split <;> simp <;> omega
theorem pJoined {p : List UInt8} (h : pOk p = true) : joined (pList p) = p := by
  unfold pList
  rw [if_pos h]
  have hh : p.head? = some 47 := by simp [pOk] at h; exact h.1
  split
  · rename_i e; subst e; rfl
  · unfold joined
    rw [joinC_splitOn]
    cases p with
    | nil => simp at hh
    | cons b l => simp at hh; subst hh; simp
theorem pJoin_len (p : List UInt8) : (joinC 47 (pList p)).length ≤ p.length := by
  by_cases h : pOk p = true
  · have := congrArg List.length (pJoined h)
    simp [joined] at this
    omega
  · simp [pList, h, joinC]
theorem pDrop_len (p : List UInt8) : (joinC 47 (pList p).dropLast).length ≤ p.length := Nat.le_trans (joinC_dropLast_len _ _) (pJoin_len p)
theorem pDropL_len (p : List UInt8) : (pList p).dropLast.length ≤ 64 := by have := pList_len p; simp; omega
theorem cut_eq {p : List UInt8} (h : cutErr p = 0) : pList p ≠ [] := by intro e; simp [cutErr, e] at h
theorem cut_ne {p : List UInt8} (h : ¬ (cutErr p = 0)) : pList p = [] := by
  unfold cutErr at h; split at h
  · assumption
  · simp at h
theorem parent_no {p : List UInt8} (h : ¬ (cutErr p = 0)) : [] = parentOf p := by simp [parentOf, cut_ne h]
theorem parent_ok {p : List UInt8} (h : cutErr p = 0) : joined (pList p).dropLast = parentOf p := by simp [parentOf, cut_eq h]
theorem checked_no {p : List UInt8} (h : ¬ (pErr p = 0)) : [] = checkedS p := by rw [pErr_ok] at h; simp [checkedS, h]
theorem checked_ok {p : List UInt8} (h : pErr p = 0) : p = checkedS p ∧ 0 = pErr p := by rw [h]; rw [pErr_ok] at h; simp [checkedS, h]
theorem within_n1 {p t : List UInt8} (h : ¬ (pErr p = 0)) : false = withinB p t := by rw [pErr_ok] at h; simp [withinB, h]
theorem within_n2 {p t : List UInt8} (h : ¬ (pErr t = 0)) : false = withinB p t := by rw [pErr_ok] at h; simp [withinB, h]
theorem within_y {p t : List UInt8} (h : pErr p = 0) (h2 : pErr t = 0) : (p == t || (t == [47] || (t ++ [47]).isPrefixOf p)) = withinB p t := by rw [pErr_ok] at h h2; simp [withinB, h, h2]
theorem within_a {p t : List UInt8} (h : pErr p = 0) (h2 : pErr t = 0) (e : p = t) : true = withinB p t := by rw [← within_y h h2, beq_iff_eq.2 e, Bool.true_or]
theorem within_b {p t : List UInt8} (h : pErr p = 0) (h2 : pErr t = 0) (e : t = [47]) : true = withinB p t := by rw [← within_y h h2, beq_iff_eq.2 e, Bool.true_or, Bool.or_true]
theorem within_c {p t : List UInt8} (h : pErr p = 0) (h2 : pErr t = 0) (e : ¬ p = t) (e2 : ¬ t = [47]) : (t ++ [47]).isPrefixOf p = withinB p t := by
  rw [← within_y h h2, beq_eq_false_iff_ne.2 e, beq_eq_false_iff_ne.2 e2, Bool.false_or, Bool.false_or]
theorem itoa_len {n : Int} (h0 : 0 ≤ n) (h1 : n ≤ 99999) : 1 ≤ (Lib.itoa n).length ∧ (Lib.itoa n).length ≤ 5 := by
  rw [Lib.itoa, if_neg (by omega), Lib.decDigits_length]
  refine ⟨Lib.nDigits_pos _, ?_⟩
  have hu : n.toNat ≤ 99999 := by omega
  generalize n.toNat = u at hu
  by_cases a1 : u < 10
  · rw [Lib.nDigits_small a1]; omega
  by_cases a2 : u < 100
  · rw [Lib.nDigits_unique 1 u (by omega) (by omega)]; omega
  by_cases a3 : u < 1000
  · rw [Lib.nDigits_unique 2 u (by omega) (by omega)]; omega
  by_cases a4 : u < 10000
  · rw [Lib.nDigits_unique 3 u (by omega) (by omega)]; omega
  · rw [Lib.nDigits_unique 4 u (by omega) (by omega)]; omega
theorem num_no {p : List UInt8} {n : Int} (h : numOk p n = false) : [] = numS p n ∧ (90 : Int) = numE p n := by simp [numS, numE, h]
theorem numOk_f1 {p : List UInt8} {n : Int} (h : ¬ (cutErr p = 0)) : numOk p n = false := by simp [numOk, cut_ne h]
theorem numOk_f2 {p : List UInt8} {n : Int} (h : n < 0) : numOk p n = false := by simp [numOk]; intros; omega
theorem numOk_f3 {p : List UInt8} {n : Int} (h : n > 99999) : numOk p n = false := by simp [numOk]; intros; omega
theorem numOk_t {p : List UInt8} {n : Int} (h : cutErr p = 0) (h0 : ¬ n < 0) (h1 : ¬ n > 99999) : numOk p n = true := by simp [numOk, cut_eq h]; omega
theorem num_yes {p : List UInt8} {n : Int} (h : numOk p n = true) {k : Nat} (hk : k = 5 - (Lib.itoa n).length) : checkedS ((p ++ Lib.repeatL [48] k) ++ Lib.itoa n) = numS p n ∧ pErr ((p ++ Lib.repeatL [48] k) ++ Lib.itoa n) = numE p n := by
  subst hk
  simp [numS, numE, h, dig5, List.append_assoc]
theorem dig_len {n : Int} (h0 : 0 ≤ n) (h1 : n ≤ 99999) {k : Nat} (hk : k ≤ 5) : (Lib.repeatL [48] k).length ≤ 5 := by rw [Lib.repeatL_length]; simpa using hk
end Go.Proofs.YtphonojjgnbpfaaDoor.Sw
