/- Plain words on rows of watches: their order, a place in it, adding, loading. No program in sight. Own text. -/
import Derived.Test.YtphonojjgnbpfaaDoorSwWatchP
import Derived.Test.YtphonojjgnbpfaaDoorSwOrd
namespace Go.Proofs.YtphonojjgnbpfaaDoor.Sw
set_option linter.unusedVariables false
set_option linter.unusedSimpArgs false
set_option linter.deprecated false
open Go
theorem lessW_irr (a : Watch) : lessW a a = false := by simp [lessW]
theorem less_p {a b : Watch} (h : a.Path ≠ b.Path) : lessW a b = Go.Op.bytesLess a.Path b.Path := by unfold lessW; rw [if_pos h]
theorem less_k {a b : Watch} (h : a.Path = b.Path) (k : a.Kind ≠ b.Kind) : lessW a b = decide (a.Kind < b.Kind) := by unfold lessW; rw [if_neg (fun n => n h), if_pos k]
theorem less_c {a b : Watch} (h : a.Path = b.Path) (k : a.Kind = b.Kind) : lessW a b = decide (a.Client < b.Client) := by unfold lessW; rw [if_neg (fun n => n h), if_neg (fun n => n k)]
theorem lessW_trans {a b c : Watch} (h : lessW a b = true) (k : lessW b c = true) : lessW a c = true := by
  by_cases h1 : a.Path = b.Path
  · by_cases k1 : b.Path = c.Path
    · by_cases h2 : a.Kind = b.Kind
      · by_cases k2 : b.Kind = c.Kind
        · rw [less_c h1 h2, decide_eq_true_eq] at h
          rw [less_c k1 k2, decide_eq_true_eq] at k
          rw [less_c (h1.trans k1) (h2.trans k2), decide_eq_true_eq]; omega
        · rw [less_k k1 k2, decide_eq_true_eq] at k
          rw [less_k (h1.trans k1) (by rw [h2]; exact k2), decide_eq_true_eq, h2]; exact k
      · rw [less_k h1 h2, decide_eq_true_eq] at h
        by_cases k2 : b.Kind = c.Kind
        · rw [less_k (h1.trans k1) (by rw [← k2]; exact h2), decide_eq_true_eq, ← k2]; exact h
        · rw [less_k k1 k2, decide_eq_true_eq] at k
          rw [less_k (h1.trans k1) (by omega), decide_eq_true_eq]; omega
    · rw [less_p k1] at k
      rw [less_p (by rw [h1]; exact k1), h1]; exact k
  · rw [less_p h1] at h
    by_cases k1 : b.Path = c.Path
    · rw [less_p (by rw [← k1]; exact h1), ← k1]; exact h
    · rw [less_p k1] at k
      have := bl_trans h k
      rw [less_p (bl_ne this)]; exact this
theorem watch_eq {a b : Watch} (h : a.Path = b.Path) (k : a.Kind = b.Kind) (c : a.Client = b.Client) : a = b := by
  obtain ⟨a0, a1, a2⟩ := a; obtain ⟨b0, b1, b2⟩ := b
  simp only at h k c
  rw [h, k, c]
theorem lessW_tri {a b : Watch} (h : lessW a b = false) (k : lessW b a = false) : a = b := by
  by_cases h1 : a.Path = b.Path
  · by_cases h2 : a.Kind = b.Kind
    · rw [less_c h1 h2, decide_eq_false_iff_not] at h
      rw [less_c h1.symm h2.symm, decide_eq_false_iff_not] at k
      exact watch_eq h1 h2 (by omega)
    · rw [less_k h1 h2, decide_eq_false_iff_not] at h
      rw [less_k h1.symm (fun e => h2 e.symm), decide_eq_false_iff_not] at k
      omega
  · rw [less_p h1] at h
    rw [less_p (fun e => h1 e.symm)] at k
    exact absurd (bl_tri h k) h1
theorem lessW_asym {a b : Watch} (h : lessW a b = true) : lessW b a = false := by
  cases hk : lessW b a with
  | false => rfl
  | true => have := lessW_trans h hk; rw [lessW_irr] at this; cases this
theorem ordW_cases (a b : Watch) : (lessW a b = true ∧ ordW a b = -1) ∨ (a = b ∧ ordW a b = 0) ∨ (lessW b a = true ∧ ordW a b = 1) := by
  unfold ordW
  by_cases h1 : a.Path = b.Path
  · have e1 : cmpS a.Path b.Path = 0 := by simp [cmpS, h1, bl_irr]
    by_cases h2 : a.Kind = b.Kind
    · have e2 : cmpI a.Kind b.Kind = 0 := by simp [cmpI, h2]
      rw [e1, e2, less_c h1 h2, less_c h1.symm h2.symm]
      simp only [orI, if_true]
      unfold cmpI
      by_cases h3 : a.Client < b.Client
      · left; simp [h3]
      · by_cases h4 : b.Client < a.Client
        · right; right; simp [h3, h4]
        · right; left
          exact ⟨watch_eq h1 h2 (by omega), by simp [h3, h4]⟩
    · rw [e1, less_k h1 h2, less_k h1.symm (fun e => h2 e.symm)]
      simp only [orI, if_true]
      unfold cmpI
      by_cases h3 : a.Kind < b.Kind
      · left; simp [h3]
      · right; right
        have h4 : b.Kind < a.Kind := by omega
        simp [h3, h4]
  · rw [less_p h1, less_p (fun e => h1 e.symm)]
    unfold cmpS
    cases h : Go.Op.bytesLess a.Path b.Path with
    | true => left; simp [orI]
    | false =>
      right; right
      have : Go.Op.bytesLess b.Path a.Path = true := by
        cases hk : Go.Op.bytesLess b.Path a.Path with
        | true => rfl
        | false => exact absurd (bl_tri h hk) h1
      have hne : (a.Path == b.Path) = false := by simpa using h1
      simp [this, hne, orI]
theorem ordW_neg {a b : Watch} : ordW a b < 0 ↔ lessW a b = true := by
  rcases ordW_cases a b with ⟨h, e⟩ | ⟨h, e⟩ | ⟨h, e⟩
  · simp [h, e]
  · subst h; simp [e, lessW_irr]
  · simp [e, lessW_asym h]
theorem ordW_zero {a b : Watch} : ordW a b = 0 ↔ a = b := by
  rcases ordW_cases a b with ⟨h, e⟩ | ⟨h, e⟩ | ⟨h, e⟩
  · rw [e]; simp; intro hab; subst hab; rw [lessW_irr] at h; cases h
  · rw [e]; simp [h]
  · rw [e]; simp; intro hab; subst hab; rw [lessW_irr] at h; cases h

/-! ### Rows in order -/
def SortW (xs : List Watch) : Prop := xs.Pairwise fun a b => lessW a b = true
theorem SortW.nil : SortW [] := List.Pairwise.nil
theorem SortW.filter {xs : List Watch} (h : SortW xs) (q : Watch → Bool) : SortW (xs.filter q) := List.Pairwise.filter q h
theorem SortW.at {xs : List Watch} (h : SortW xs) {i j : Nat} {x y : Watch} (hij : i < j) (hx : xs[i]? = some x) (hy : xs[j]? = some y) : lessW x y = true := by
  obtain ⟨hi, rfl⟩ := List.getElem?_eq_some_iff.1 hx
  obtain ⟨hj, rfl⟩ := List.getElem?_eq_some_iff.1 hy
  exact List.pairwise_iff_getElem.1 h i j hi hj hij
/-- below i all are less than w, from i on none is. -/
def Lo (xs : List Watch) (w : Watch) (i : Int) : Prop := ∀ (k : Nat) x, (k : Int) < i → xs[k]? = some x → lessW x w = true
def Hi (xs : List Watch) (w : Watch) (i : Int) : Prop := ∀ (k : Nat) x, i ≤ (k : Int) → xs[k]? = some x → lessW x w = false
theorem Lo_0 (xs : List Watch) (w : Watch) : Lo xs w 0 := fun k x h => by omega
theorem Hi_n (xs : List Watch) (w : Watch) : Hi xs w xs.length := fun k x h hx => by have := (List.getElem?_eq_some_iff.1 hx).1; omega
theorem Lo_step {xs : List Watch} {w : Watch} (hs : SortW xs) {i m : Int} {x : Watch} (h : Lo xs w i) (h0 : 0 ≤ m) (hx : xs[m.toNat]? = some x) (hc : ordW x w < 0) : Lo xs w (m + 1) := by
  intro k y hk hy
  rcases Nat.lt_or_ge k m.toNat with hl | hl
  · exact lessW_trans (hs.at hl hy hx) (ordW_neg.1 hc)
  · have : k = m.toNat := by omega
    subst this
    rw [hx] at hy; cases hy; exact ordW_neg.1 hc
theorem Hi_step {xs : List Watch} {w : Watch} (hs : SortW xs) {m : Int} {x : Watch} (h0 : 0 ≤ m) (hx : xs[m.toNat]? = some x) (hc : ¬ (ordW x w < 0)) : Hi xs w m := by
  intro k y hk hy
  have hxw : lessW x w = false := by cases h : lessW x w with | false => rfl | true => exact absurd (ordW_neg.2 h) hc
  rcases Nat.lt_or_ge m.toNat k with hl | hl
  · cases h : lessW y w with
    | false => rfl
    | true => have := lessW_trans (hs.at hl hx hy) h; rw [hxw] at this; cases this
  · have : k = m.toNat := by omega
    subst this
    rw [hx] at hy; cases hy; exact hxw
def posW (xs : List Watch) (w : Watch) : Nat := (xs.takeWhile fun x => lessW x w).length
def hasW (xs : List Watch) (w : Watch) : Bool := decide (w ∈ xs)
theorem posW_of {xs : List Watch} {w : Watch} {i : Int} (h0 : 0 ≤ i) (hn : i ≤ xs.length) (hl : Lo xs w i) (hh : Hi xs w i) : i = (posW xs w : Int) := by
  have h1 : ∀ x ∈ xs.take i.toNat, lessW x w = true := by
    intro x hx
    obtain ⟨k, hk⟩ := List.mem_iff_getElem?.1 hx
    rw [List.getElem?_take] at hk
    split at hk
    · exact hl k x (by omega) hk
    · cases hk
  unfold posW
  have h2 : (xs.takeWhile fun x => lessW x w) = xs.take i.toNat := by
    conv => lhs; rw [← List.take_append_drop i.toNat xs]
    rw [List.takeWhile_append_of_pos (by simpa using h1)]
    cases hd : xs.drop i.toNat with
    | nil => simp
    | cons y ys =>
      have : xs[i.toNat]? = some y := by
        have := congrArg (fun l => l[0]?) hd
        simpa using this
      rw [List.takeWhile_cons_of_neg (by simp [hh i.toNat y (by omega) this])]
      simp
  rw [h2, List.length_take, Nat.min_eq_left (by omega)]
  omega
theorem has_hit {xs : List Watch} {w x : Watch} {i : Int} (hx : xs[i.toNat]? = some x) (hc : ordW x w = 0) : hasW xs w = true := by
  rw [ordW_zero] at hc
  subst hc
  exact decide_eq_true (List.mem_of_getElem? hx)
theorem not_has {xs : List Watch} {w : Watch} {i : Int} (h0 : 0 ≤ i) (hs : SortW xs) (hl : Lo xs w i) (hh : Hi xs w i) (hi : ∀ x, xs[i.toNat]? = some x → x ≠ w) : hasW xs w = false := by
  refine decide_eq_false fun hm => ?_
  obtain ⟨k, hk⟩ := List.mem_iff_getElem?.1 hm
  rcases Int.lt_or_le k i with h | h
  · have := hl k w h hk; rw [lessW_irr] at this; cases this
  · rcases Nat.lt_or_ge i.toNat k with h' | h'
    · have hlt := (List.getElem?_eq_some_iff.1 hk).1
      have h1 : xs[i.toNat]? = some xs[i.toNat] := List.getElem?_eq_getElem (by omega)
      have h2 := hh i.toNat _ (by omega) h1
      rw [hs.at h' h1 hk] at h2; cases h2
    · have : k = i.toNat := by omega
      subst this
      exact hi w hk rfl
theorem bs_val {xs : List Watch} {w x : Watch} {i : Int} {b : Bool} (h0 : 0 ≤ i) (hs : SortW xs) (hl : Lo xs w i) (hh : Hi xs w i) (hx : xs[i.toNat]? = some x) (hb : b = (ordW x w == 0)) : b = hasW xs w := by
  subst hb
  by_cases hc : ordW x w = 0
  · rw [has_hit hx hc]; simpa using hc
  · rw [not_has h0 hs hl hh fun y hy => by rw [hx] at hy; cases hy; exact fun e => hc (ordW_zero.2 e)]; simpa using hc
theorem bs_out {xs : List Watch} {w : Watch} {i : Int} (h0 : 0 ≤ i) (hs : SortW xs) (hl : Lo xs w i) (hh : Hi xs w i) (hn : ¬ (i < (xs.length : Int))) : false = hasW xs w := by
  rw [not_has h0 hs hl hh fun y hy => by have := (List.getElem?_eq_some_iff.1 hy).1; omega]
/-! ### Insertion, deletion -/
def insAt {α : Type} (xs : List α) (i : Int) (ys : List α) : List α := xs.take i.toNat ++ ys ++ xs.drop i.toNat
theorem ins_nil {α : Type} {xs ys : List α} {i : Int} (h : (ys.length : Int) = 0) : xs = insAt xs i ys := by
  have : ys = [] := List.eq_nil_of_length_eq_zero (by omega)
  subst this; simp [insAt]
theorem ins_end {α : Type} {xs ys : List α} {i : Int} (h : i = xs.length) : xs ++ ys = insAt xs i ys := by
  subst h; simp [insAt]
theorem putAt_mid {α : Type} {a b c : List α} (h : c.length ≤ b.length) : putAt (a ++ b) a.length c = a ++ c ++ b.drop c.length := by
  simp [putAt, List.drop_append]
theorem take_min {α : Type} {ys : List α} {k : Nat} (h : ys.length ≤ k) : ys.take k = ys := List.take_of_length_le h
theorem ins_grow {α : Type} {xs ys : List α} {z : α} {i k m : Int} (h0 : 0 ≤ i) (hi : i ≤ xs.length) (hm : m = i + ys.length) (hk : k = xs.length + ys.length - i) :
    putAt (putAt (xs.take i.toNat ++ List.replicate k.toNat z) i.toNat (ys.take ((xs.take i.toNat ++ List.replicate k.toNat z).length - i.toNat))) m.toNat
      ((xs.drop i.toNat).take ((putAt (xs.take i.toNat ++ List.replicate k.toNat z) i.toNat (ys.take ((xs.take i.toNat ++ List.replicate k.toNat z).length - i.toNat))).length - m.toNat)) = insAt xs i ys := by
  subst hm
  subst hk
  have e1 : (xs.take i.toNat).length = i.toNat := by rw [List.length_take]; omega
  have e2 : (xs.take i.toNat ++ List.replicate (xs.length + ys.length - i : Int).toNat z).length - i.toNat = (xs.length + ys.length - i : Int).toNat := by rw [List.length_append, e1, List.length_replicate]; omega
  have e2' : ys.take ((xs.take i.toNat ++ List.replicate (xs.length + ys.length - i : Int).toNat z).length - i.toNat) = ys := by rw [e2]; exact take_min (ys := ys) (by omega)
  rw [e2']
  have e3 := putAt_mid (a := xs.take i.toNat) (b := List.replicate (xs.length + ys.length - i : Int).toNat z) (c := ys) (by simp; omega)
  rw [e1] at e3
  rw [e3, List.drop_replicate]
  have e4 : (xs.take i.toNat ++ ys).length = (i + ys.length : Int).toNat := by rw [List.length_append, e1]; omega
  have e5 : (xs.drop i.toNat).length = xs.length - i.toNat := List.length_drop
  have e6 : (xs.take i.toNat ++ ys ++ List.replicate ((xs.length + ys.length - i : Int).toNat - ys.length) z).length - (i + ys.length : Int).toNat = xs.length - i.toNat := by
    rw [List.length_append, e4, List.length_replicate]; omega
  rw [e6, take_min (ys := xs.drop i.toNat) (by omega)]
  have e7 := putAt_mid (a := xs.take i.toNat ++ ys) (b := List.replicate ((xs.length + ys.length - i : Int).toNat - ys.length) z) (c := xs.drop i.toNat) (by rw [e5, List.length_replicate]; omega)
  rw [e4] at e7
  have e8 : (List.replicate ((xs.length + ys.length - i : Int).toNat - ys.length) z).drop (xs.drop i.toNat).length = [] := List.drop_eq_nil_of_le (by rw [List.length_replicate, e5]; omega)
  rw [e7, e8, List.append_nil]
  rfl
theorem ins_place {α : Type} {xs ys zs : List α} {i m : Int} (h0 : 0 ≤ i) (hi : i ≤ xs.length) (hm : m = i + ys.length) (hz : zs.length = xs.length + ys.length) {k : Nat} (ht : zs.take xs.length = xs.take k) (hk : xs.length ≤ k) :
    putAt (putAt zs m.toNat ((zs.drop i.toNat).take (zs.length - m.toNat))) i.toNat (ys.take ((putAt zs m.toNat ((zs.drop i.toNat).take (zs.length - m.toNat))).length - i.toNat)) = insAt xs i ys := by
  subst hm
  rw [List.take_of_length_le hk] at ht
  have e1 : (zs.drop i.toNat).take (zs.length - (i + ys.length : Int).toNat) = xs.drop i.toNat := by
    rw [hz, show xs.length + ys.length - (i + ys.length : Int).toNat = xs.length - i.toNat from by omega, ← List.drop_take, ht]
  rw [e1]
  have e2 : putAt zs (i + ys.length : Int).toNat (xs.drop i.toNat) = zs.take (i + ys.length : Int).toNat ++ xs.drop i.toNat := by
    have : zs.drop ((i + ys.length : Int).toNat + (xs.drop i.toNat).length) = [] := List.drop_eq_nil_of_le (by rw [List.length_drop, hz]; omega)
    unfold putAt
    rw [this, List.append_nil]
  rw [e2]
  have e3 : zs.take (i + ys.length : Int).toNat = xs.take i.toNat ++ (zs.drop i.toNat).take ys.length := by
    rw [show (i + ys.length : Int).toNat = i.toNat + ys.length from by omega, List.take_add]
    congr 1
    rw [← ht, List.take_take, Nat.min_eq_left (by omega)]
  have e4 : (xs.take i.toNat).length = i.toNat := by rw [List.length_take]; omega
  have e5 : ((zs.drop i.toNat).take ys.length).length = ys.length := by rw [List.length_take, List.length_drop, hz]; omega
  rw [e3, List.append_assoc]
  have e6 : (xs.take i.toNat ++ ((zs.drop i.toNat).take ys.length ++ xs.drop i.toNat)).length - i.toNat = xs.length + ys.length - i.toNat := by
    rw [List.length_append, e4, List.length_append, e5, List.length_drop]; omega
  rw [e6, take_min (ys := ys) (by omega)]
  have e7 := putAt_mid (a := xs.take i.toNat) (b := (zs.drop i.toNat).take ys.length ++ xs.drop i.toNat) (c := ys) (by rw [List.length_append, e5]; omega)
  rw [e4] at e7
  rw [e7, List.drop_append, e5, Nat.sub_self, List.drop_eq_nil_of_le (by omega), List.nil_append, List.drop_zero]
  rfl
/-! ### what findI tells -/
theorem findI_hit {α : Type} {q : α → Bool} : ∀ {l : List α}, findI q l ≠ -1 → (l.take (findI q l).toNat).filter q = [] ∧ (∃ x, l[(findI q l).toNat]? = some x ∧ q x = true ∧ l.find? q = some x) ∧ 0 ≤ findI q l ∧ findI q l < l.length
  | [], h => by simp [findI] at h
  | x :: xs, h => by
    unfold findI at h ⊢
    by_cases hq : q x = true
    · simp only [hq, if_true]
      refine ⟨by simp, ⟨x, by simp, hq, by simp [hq]⟩, by omega, by simp⟩
    · simp only [hq, if_false] at h ⊢
      by_cases hn : findI q xs < 0
      · rw [if_pos hn] at h; exact absurd rfl h
      · rw [if_neg hn]
        have hg := findI_ge q xs
        obtain ⟨h1, ⟨y, h2, h3, h4⟩, h5, h6⟩ := findI_hit (q := q) (l := xs) (by omega)
        simp only [Bool.false_eq_true, if_false]
        rw [toNat_succ h5]
        refine ⟨by simp [hq, h1], ⟨y, by simpa using h2, h3, by simp [hq, h4]⟩, by omega, by simp; omega⟩
theorem findI_none {α : Type} {q : α → Bool} : ∀ {l : List α}, findI q l = -1 → l.filter q = [] ∧ l.find? q = none
  | [], _ => by simp
  | x :: xs, h => by
    unfold findI at h
    by_cases hq : q x = true
    · simp [hq] at h
    · simp only [hq, if_false] at h
      by_cases hn : findI q xs < 0
      · have hg := findI_ge q xs
        obtain ⟨h1, h2⟩ := findI_none (q := q) (l := xs) (by omega)
        simp only [Bool.not_eq_true] at hq
        simp only [List.filter_cons, List.find?_cons, hq, h1, h2, Bool.false_eq_true, if_false, and_self]
      · rw [if_neg hn] at h; omega
theorem filter_not {α : Type} {q : α → Bool} : ∀ {l : List α}, l.filter q = [] → l.filter (fun x => !q x) = l
  | [], _ => rfl
  | x :: xs, h => by
    cases hq : q x with
    | true => simp [hq] at h
    | false => simp only [List.filter_cons, hq, Bool.false_eq_true, if_false, Bool.not_false, if_true] at h ⊢; rw [filter_not h]
theorem find_hit {α : Type} {q : α → Bool} {l out : List α} {i : Int} {x : α} (H : findAt q l i) (hx : l[i.toNat]? = some x) (hq : q x = true) (h0 : 0 ≤ i) : out ++ [x] = out ++ (l.find? q).toList := by
  have hi := findAt_hit H hx hq
  obtain ⟨_, ⟨y, h2, _, h4⟩, _⟩ := findI_hit (q := q) (l := l) (by omega)
  rw [← hi, hx] at h2
  cases h2
  rw [h4]; rfl
theorem find_end {α : Type} {q : α → Bool} {l out : List α} {i : Int} (H : findAt q l i) (hi : ¬ (i < (l.length : Int))) : out = out ++ (l.find? q).toList := by
  rw [(findI_none (findAt_end H hi).symm).2]; simp
/-- Deleting from i on, j looked at. -/
structure DelI (xs ys o2 out : List Watch) (q : Watch → Bool) (i j : Int) : Prop where
  len : ys.length = xs.length
  low : ys.take i.toNat = (xs.take j.toNat).filter fun w => !q w
  high : ys.drop j.toNat = xs.drop j.toNat
  out : o2 = out ++ (xs.take j.toNat).filter q
theorem DelI_0 {xs out : List Watch} {q : Watch → Bool} (h : ¬ (findI q xs = -1)) : DelI xs xs (out ++ (xs.find? q).toList) out q (findI q xs) (findI q xs + 1) := by
  obtain ⟨h1, ⟨x, h2, h3, h4⟩, h5, h6⟩ := findI_hit h
  refine ⟨rfl, ?_, rfl, ?_⟩
  · rw [toNat_succ h5, take_at h2, List.filter_append, filter_not h1]; simp [h3]
  · rw [toNat_succ h5, take_at h2, List.filter_append, h1, h4]; simp [h3]
section
variable {xs ys o2 out : List Watch} {q : Watch → Bool} {i j : Int} {x y : Watch}
theorem DelI.at (H : DelI xs ys o2 out q i j) (hx : ys[j.toNat]? = some x) : xs[j.toNat]? = some x := by
  have := congrArg (fun l => l[0]?) H.high
  simp only [List.getElem?_drop, Nat.add_zero] at this
  rw [← this]; exact hx
theorem DelI_keep (H : DelI xs ys o2 out q i j) (h0 : 0 ≤ i) (hij : i < j) (hx : ys[j.toNat]? = some x) (hq : q x = false) : DelI xs (ys.set i.toNat x) o2 out q (i + 1) (j + 1) := by
  have hx' := H.at hx
  have hj := (List.getElem?_eq_some_iff.1 hx).1
  refine ⟨by rw [List.length_set]; exact H.len, ?_, ?_, ?_⟩
  · rw [toNat_succ h0, toNat_succ (by omega), take_at (x := x) (by rw [List.getElem?_set_self (by omega)]), List.take_set_of_le (Nat.le_refl _), H.low, take_at hx', List.filter_append]
    simp [hq]
  · rw [List.drop_set_of_lt (by omega), toNat_succ (by omega)]
    have := congrArg (List.drop 1) H.high
    simpa using this
  · rw [H.out, toNat_succ (by omega), take_at hx', List.filter_append]; simp [hq]
theorem DelI_drop (H : DelI xs ys o2 out q i j) (h0 : 0 ≤ j) (hx : ys[j.toNat]? = some x) (hq : q x = true) : DelI xs ys (o2 ++ [x]) out q i (j + 1) := by
  have hx' := H.at hx
  refine ⟨H.len, ?_, ?_, ?_⟩
  · rw [H.low, toNat_succ h0, take_at hx', List.filter_append]; simp [hq]
  · rw [toNat_succ h0]
    have := congrArg (List.drop 1) H.high
    simpa using this
  · rw [H.out, toNat_succ h0, take_at hx', List.filter_append]; simp [hq]
theorem DelI_end (H : DelI xs ys o2 out q i j) (hj : ¬ (j < (ys.length : Int))) (h0 : 0 ≤ i) (hi : i ≤ ys.length) (zs : List Watch) : (putAt ys i.toNat zs).take i.toNat = xs.filter (fun w => !q w) ∧ o2 = out ++ xs.filter q := by
  have e := H.len
  have hl := H.low
  have ho := H.out
  have ht : xs.take j.toNat = xs := List.take_of_length_le (by omega)
  rw [ht] at hl ho
  refine ⟨?_, ho⟩
  rw [← hl]
  unfold putAt
  rw [List.append_assoc, List.take_left' (by rw [List.length_take]; omega)]
end
theorem DelI_len {xs ys o2 out : List Watch} {q : Watch → Bool} {i j : Int} (H : DelI xs ys o2 out q i j) (h0 : 0 ≤ i) : o2.length ≤ out.length + xs.length := by
  rw [H.out, List.length_append]
  have := List.length_filter_le q (xs.take j.toNat)
  have := List.length_take_le' j.toNat xs
  omega
theorem putAt_len3 {α : Type} {xs ys : List α} {lo : Nat} : (putAt xs lo (ys.take (xs.length - lo))).length = if lo ≤ xs.length then xs.length else (putAt xs lo (ys.take (xs.length - lo))).length := by
  split
  · rename_i h; exact putAt_len (by rw [List.length_take]; omega)
  · rfl
theorem posW_le (xs : List Watch) (w : Watch) : posW xs w ≤ xs.length := (List.takeWhile_sublist _).length_le
theorem qDrop_eq (clients : List Int) (w : Watch) : (clients.any fun z => decide (w.Client = z)) = qDrop clients w := by
  unfold qDrop; congr 1; funext z; rw [Bool.eq_iff_iff]; simp [eq_comm]
theorem qFire_t {kind : Int} {paths : List (List UInt8)} {w : Watch} (h : w.Kind = kind) : (paths.any fun z => decide (w.Path = z)) = qFire kind paths w := by
  unfold qFire
  rw [decide_eq_true h, Bool.and_true]
  congr 1; funext z; rw [Bool.eq_iff_iff]; simp [eq_comm]
theorem qFire_f {kind : Int} {paths : List (List UInt8)} {w : Watch} (h : ¬ (w.Kind = kind)) : false = qFire kind paths w := by
  unfold qFire
  rw [decide_eq_false h, Bool.and_false]
/-! ### Adding, loading -/
def addE (xs : List Watch) (w : Watch) : Int := if rightW w = false then 90 else if hasW xs w = true then 0 else if (cnt w.Client xs : Int) ≥ 8 then 104 else 0
def addL (xs : List Watch) (w : Watch) : List Watch := if rightW w = false then xs else if hasW xs w = true then xs else if (cnt w.Client xs : Int) ≥ 8 then xs else insAt xs (posW xs w) [w]
def stepB (l : List Watch) (k : Nat) : Bool := match l[k]? with
  | none => true
  | some w => rightW w && ((decide (k = 0) || lessW (atW l ((k : Int) - 1)) w) && decide ((cnt w.Client l : Int) ≤ 8))
def loadB (l : List Watch) : Bool := (List.range l.length).all (stepB l)
def loadL (xs l : List Watch) : List Watch := if loadB l = true then l else xs
def okTo11 (l : List Watch) (i : Int) : Prop := ∀ k : Nat, (k : Int) < i → stepB l k = true
theorem okTo11_0 (l : List Watch) : okTo11 l 0 := fun k h => by omega
theorem okTo11_step {l : List Watch} {i : Int} (h : okTo11 l i) (h0 : 0 ≤ i) (hs : stepB l i.toNat = true) : okTo11 l (i + 1) := fun k hk => by
  by_cases he : (k : Int) < i
  · exact h k he
  · have : k = i.toNat := by omega
    rw [this]; exact hs
theorem loadB_t {l : List Watch} {i : Int} (h : okTo11 l i) (hi : ¬ (i < (l.length : Int))) : loadB l = true := by
  unfold loadB
  rw [List.all_eq_true]
  intro k hk
  exact h k (by have := List.mem_range.1 hk; omega)
theorem loadB_f {l : List Watch} {i : Int} {x : Watch} (h0 : 0 ≤ i) (hx : l[i.toNat]? = some x) (hs : stepB l i.toNat = false) : loadB l = false := by
  cases h : loadB l with
  | false => rfl
  | true =>
    unfold loadB at h
    rw [List.all_eq_true] at h
    have := h i.toNat (List.mem_range.2 (List.getElem?_eq_some_iff.1 hx).1)
    rw [hs] at this; cases this
section
variable {l : List Watch} {i : Int} {x y : Watch}
theorem stepB_1 (hx : l[i.toNat]? = some x) (h : rightW x = false) : stepB l i.toNat = false := by simp [stepB, hx, h]
theorem prev (h0 : 0 < i) (hy : l[(i - 1).toNat]? = some y) : atW l ((i.toNat : Int) - 1) = y := by
  rw [show (i.toNat : Int) - 1 = i - 1 from by omega]; exact atW_eq hy
theorem stepB_2 (h0 : 0 < i) (hx : l[i.toNat]? = some x) (hy : l[(i - 1).toNat]? = some y) (h : lessW y x = false) : stepB l i.toNat = false := by
  have : ¬ (i.toNat = 0) := by omega
  have hp := prev h0 hy
  unfold stepB
  rw [hx]
  simp only [hp, h, decide_eq_false this, Bool.false_or, Bool.false_and, Bool.and_false]
theorem stepB_3 (hx : l[i.toNat]? = some x) (h : ¬ ((cnt x.Client l : Int) ≤ 8)) : stepB l i.toNat = false := by unfold stepB; rw [hx]; simp only [decide_eq_false h, Bool.and_false]
theorem stepB_t0 (hx : l[i.toNat]? = some x) (h : rightW x = true) (h0 : i = 0) (hc : (cnt x.Client l : Int) ≤ 8) : stepB l i.toNat = true := by subst h0; simp only [Int.toNat_zero] at hx; unfold stepB; rw [Int.toNat_zero, hx]; simp only [h, decide_eq_true hc, decide_true, Bool.true_or, Bool.and_true]
theorem stepB_t1 (hx : l[i.toNat]? = some x) (h : rightW x = true) (h0 : 0 < i) (hy : l[(i - 1).toNat]? = some y) (h2 : lessW y x = true) (hc : (cnt x.Client l : Int) ≤ 8) : stepB l i.toNat = true := by
  have : ¬ (i.toNat = 0) := by omega
  have hp := prev h0 hy
  unfold stepB
  rw [hx]
  simp only [hp, h, h2, decide_eq_true hc, Bool.or_true, Bool.and_true]
theorem ord_ge {a b : Watch} (h : ordW a b ≥ 0) : lessW a b = false := by
  cases hl : lessW a b with
  | false => rfl
  | true => have := ordW_neg.2 hl; omega
theorem ord_lt {a b : Watch} (h : ¬ (ordW a b ≥ 0)) : lessW a b = true := ordW_neg.1 (by omega)
end
end Go.Proofs.YtphonojjgnbpfaaDoor.Sw
