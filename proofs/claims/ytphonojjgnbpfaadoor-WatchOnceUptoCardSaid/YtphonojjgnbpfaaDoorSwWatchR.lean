/- Plain words on rows of watches: the reference's way to add, and what the laws say. No program in sight. Own text. -/
import Derived.Test.YtphonojjgnbpfaaDoorSwWatchQ
namespace Go.Proofs.YtphonojjgnbpfaaDoor.Sw
set_option linter.unusedVariables false
set_option linter.unusedSimpArgs false
set_option linter.deprecated false
open Go
/-! ### 1. A place in the row, by recursion -/
def insR (w : Watch) : List Watch → List Watch
  | [] => [w]
  | x :: xs => if lessW x w = true then x :: insR w xs else w :: x :: xs
theorem insR_eq (w : Watch) : ∀ xs : List Watch, insAt xs (posW xs w) [w] = insR w xs
  | [] => rfl
  | x :: xs => by
    have ih := insR_eq w xs
    unfold insAt posW at *
    unfold insR
    by_cases h : lessW x w = true
    · rw [if_pos h, ← ih, List.takeWhile_cons_of_pos (by simpa using h), List.length_cons]
      rw [show ((((xs.takeWhile fun x => lessW x w).length + 1 : Nat) : Int)).toNat = (((xs.takeWhile fun x => lessW x w).length : Int)).toNat + 1 by omega]
      simp
    · rw [if_neg h, List.takeWhile_cons_of_neg (by simpa using h)]
      simp
theorem insR_mem {w y : Watch} : ∀ {xs : List Watch}, y ∈ insR w xs ↔ y = w ∨ y ∈ xs
  | [] => by simp [insR]
  | x :: xs => by
    have ih := insR_mem (w := w) (y := y) (xs := xs)
    unfold insR
    split
    · rw [List.mem_cons, ih, List.mem_cons]
      constructor
      · rintro (h | h | h)
        · exact .inr (.inl h)
        · exact .inl h
        · exact .inr (.inr h)
      · rintro (h | h | h)
        · exact .inr (.inl h)
        · exact .inl h
        · exact .inr (.inr h)
    · rw [List.mem_cons]
theorem insR_sort {w : Watch} : ∀ {xs : List Watch}, SortW xs → w ∉ xs → SortW (insR w xs)
  | [], _, _ => List.pairwise_singleton _ _
  | x :: xs, hs, hw => by
    obtain ⟨h1, h2⟩ := List.pairwise_cons.1 hs
    simp only [List.mem_cons, not_or] at hw
    unfold insR
    split
    · rename_i h
      refine List.pairwise_cons.2 ⟨fun y hy => ?_, insR_sort h2 hw.2⟩
      rcases insR_mem.1 hy with rfl | hy
      · exact h
      · exact h1 y hy
    · rename_i h
      have hwx : lessW w x = true := by
        cases hl : lessW w x with
        | true => rfl
        | false => exact absurd (lessW_tri hl (by simpa using h)) hw.1
      refine List.pairwise_cons.2 ⟨fun y hy => ?_, hs⟩
      rcases List.mem_cons.1 hy with rfl | hy
      · exact hwx
      · exact lessW_trans hwx (h1 y hy)
theorem insR_len {w : Watch} : ∀ {xs : List Watch}, (insR w xs).length = xs.length + 1
  | [] => rfl
  | x :: xs => by unfold insR; split <;> simp [insR_len (xs := xs)]
theorem insR_cnt {w : Watch} {c : Int} : ∀ {xs : List Watch}, cnt c (insR w xs) = cnt c xs + if w.Client = c then 1 else 0
  | [] => by simp [insR, cnt]
  | x :: xs => by
    have ih := insR_cnt (w := w) (c := c) (xs := xs)
    unfold insR
    split
    · rw [cnt, ih, cnt]; omega
    · rw [cnt, cnt]; omega
/-- two rows in order with the same elements are the same. -/
theorem sort_ext : ∀ {xs ys : List Watch}, SortW xs → SortW ys → (∀ y, y ∈ xs ↔ y ∈ ys) → xs = ys
  | [], [], _, _, _ => rfl
  | [], y :: ys, _, _, h => absurd ((h y).2 (by simp)) (by simp)
  | x :: xs, [], _, _, h => absurd ((h x).1 (by simp)) (by simp)
  | x :: xs, y :: ys, hx, hy, h => by
    obtain ⟨hx1, hx2⟩ := List.pairwise_cons.1 hx
    obtain ⟨hy1, hy2⟩ := List.pairwise_cons.1 hy
    have hxy : x = y := by
      have h1 := (h x).1 (by simp)
      have h2 := (h y).2 (by simp)
      rcases List.mem_cons.1 h1 with h1 | h1
      · exact h1
      · rcases List.mem_cons.1 h2 with h2 | h2
        · exact h2.symm
        · have := lessW_trans (hx1 y h2) (hy1 x h1); rw [lessW_irr] at this; cases this
    subst hxy
    rw [sort_ext hx2 hy2 fun z => ?_]
    constructor
    · intro hz
      rcases List.mem_cons.1 ((h z).1 (List.mem_cons_of_mem _ hz)) with rfl | h'
      · have := hx1 z hz; rw [lessW_irr] at this; cases this
      · exact h'
    · intro hz
      rcases List.mem_cons.1 ((h z).2 (List.mem_cons_of_mem _ hz)) with rfl | h'
      · have := hy1 z hz; rw [lessW_irr] at this; cases this
      · exact h'

/-! ### 2. Adding -/
theorem addL_cases (xs : List Watch) (w : Watch) : (addL xs w = xs ∧ ¬ (rightW w = true ∧ hasW xs w = false ∧ (cnt w.Client xs : Int) < 8)) ∨ (addL xs w = insR w xs ∧ addE xs w = 0 ∧ rightW w = true ∧ hasW xs w = false ∧ (cnt w.Client xs : Int) < 8) := by
  unfold addL addE
  by_cases h1 : rightW w = false
  · left; simp [h1]
  · rw [if_neg h1, if_neg h1]
    by_cases h2 : hasW xs w = true
    · left; simp [h2]
    · rw [if_neg h2, if_neg h2]
      by_cases h3 : (cnt w.Client xs : Int) ≥ 8
      · left; rw [if_pos h3]; exact ⟨rfl, fun h => by omega⟩
      · right; rw [if_neg h3, if_neg h3]; exact ⟨insR_eq w xs, rfl, by simpa using h1, by simpa using h2, by omega⟩
theorem addL_sort {xs : List Watch} {w : Watch} (h : SortW xs) : SortW (addL xs w) := by
  rcases addL_cases xs w with ⟨e, _⟩ | ⟨e, _, _, h2, _⟩
  · rw [e]; exact h
  · rw [e]; exact insR_sort h (of_decide_eq_false h2)
theorem addL_len (xs : List Watch) (w : Watch) : (addL xs w).length ≤ xs.length + 1 := by
  rcases addL_cases xs w with ⟨e, _⟩ | ⟨e, _⟩
  · rw [e]; omega
  · rw [e, insR_len]; omega
theorem loadL_sort {xs l : List Watch} (h : SortW xs) : SortW (loadL xs l) := by
  unfold loadL
  split
  · rename_i hb
    -- neighbours in order
    have step : ∀ k : Nat, k < l.length → stepB l k = true := fun k hk => List.all_eq_true.1 hb k (List.mem_range.2 hk)
    have hn : ∀ (k : Nat) x y, l[k]? = some x → l[k + 1]? = some y → lessW x y = true := by
      intro k x y hx hy
      have := step (k + 1) (List.getElem?_eq_some_iff.1 hy).1
      unfold stepB at this
      rw [hy] at this
      simp only [Bool.and_eq_true, Bool.or_eq_true, decide_eq_true_eq] at this
      rcases this.2.1 with h | h
      · omega
      · rwa [show ((k + 1 : Nat) : Int) - 1 = (k : Int) by omega, atW_eq (x := x) (by simpa using hx)] at h
    have go : ∀ (n i j : Nat) x y, j = i + 1 + n → l[i]? = some x → l[j]? = some y → lessW x y = true := by
      intro n
      induction n with
      | zero => intro i j x y hj hx hy; subst hj; exact hn i x y hx hy
      | succ n ih =>
        intro i j x y hj hx hy
        have hlt := (List.getElem?_eq_some_iff.1 hy).1
        have h1 : l[i + 1 + n]? = some l[i + 1 + n] := List.getElem?_eq_getElem (by omega)
        exact lessW_trans (ih i _ x _ rfl hx h1) (hn _ _ y h1 (by rw [show i + 1 + n + 1 = j by omega]; exact hy))
    exact List.pairwise_iff_getElem.2 fun i j hi hj hij => go (j - i - 1) i j _ _ (by omega) (List.getElem?_eq_getElem hi) (List.getElem?_eq_getElem hj)
  · exact h
/-! ### 3. The reference's way -/
def stepR (w : Watch) (s : List Watch × Bool) (x : Watch) : List Watch × Bool := if s.2 = false ∧ lessW w x = true then (s.1 ++ [w] ++ [x], true) else (s.1 ++ [x], s.2)
def finR (w : Watch) (s : List Watch × Bool) : List Watch := if s.2 = true then s.1 else s.1 ++ [w]
def foldR (w : Watch) (xs : List Watch) : List Watch × Bool := xs.foldl (stepR w) ([], false)
theorem fold_true (w : Watch) : ∀ (xs acc : List Watch), xs.foldl (stepR w) (acc, true) = (acc ++ xs, true)
  | [], acc => by simp
  | x :: xs, acc => by
    rw [List.foldl_cons, show stepR w (acc, true) x = (acc ++ [x], true) by simp [stepR], fold_true w xs]
    simp
theorem fin_fold (w : Watch) : ∀ (xs acc : List Watch), w ∉ xs → finR w (xs.foldl (stepR w) (acc, false)) = acc ++ insR w xs
  | [], acc, _ => by simp [finR, insR]
  | x :: xs, acc, h => by
    simp only [List.mem_cons, not_or] at h
    rw [List.foldl_cons]
    unfold insR
    by_cases hl : lessW x w = true
    · rw [if_pos hl, show stepR w (acc, false) x = (acc ++ [x], false) by simp [stepR, lessW_asym hl], fin_fold w xs _ h.2]
      simp
    · have hwx : lessW w x = true := by
        cases hl2 : lessW w x with
        | true => rfl
        | false => exact absurd (lessW_tri hl2 (by simpa using hl)) h.1
      rw [if_neg hl, show stepR w (acc, false) x = (acc ++ [w] ++ [x], true) by simp [stepR, hwx], fold_true]
      simp [finR]
section
variable {xs out : List Watch} {w x : Watch} {i : Int} {put b : Bool}
/-- at i: what was put together, and whether w is in it. -/
structure AddI (xs out : List Watch) (w : Watch) (put : Bool) (i : Int) : Prop where
  st : (out, put) = foldR w (xs.take i.toNat)
  no : w ∉ xs.take i.toNat
theorem AddI_0 : AddI xs [] w false 0 := ⟨rfl, by simp⟩
theorem AddI.len (H : AddI xs out w put i) (h0 : 0 ≤ i) (hi : i ≤ xs.length) : (out.length : Int) ≤ i + 1 := by
  have key : ∀ (l acc : List Watch) (p : Bool), ((l.foldl (stepR w) (acc, p)).1.length : Int) ≤ acc.length + l.length + (if p = true then 0 else 1) := by
    intro l
    induction l with
    | nil => intro acc p; simp; split <;> omega
    | cons y l ih =>
      intro acc p
      rw [List.foldl_cons]
      by_cases hc : p = false ∧ lessW w y = true
      · rw [show stepR w (acc, p) y = (acc ++ [w] ++ [y], true) from if_pos hc]
        have := ih (acc ++ [w] ++ [y]) true
        simp only [List.length_append, List.length_cons, List.length_nil] at this ⊢
        rw [hc.1]; simp at this ⊢; omega
      · rw [show stepR w (acc, p) y = (acc ++ [y], p) from if_neg hc]
        have := ih (acc ++ [y]) p
        simp only [List.length_append, List.length_cons, List.length_nil] at this ⊢
        omega
  have h1 := key (xs.take i.toNat) [] false
  have h2 : (foldR w (xs.take i.toNat)).1 = out := by rw [← H.st]
  unfold foldR at h2
  rw [h2] at h1
  simp at h1
  omega
theorem AddI_next (H : AddI xs out w put i) (h0 : 0 ≤ i) (hx : xs[i.toNat]? = some x) (hne : ¬ (x = w)) : AddI xs (stepR w (out, put) x).1 w (stepR w (out, put) x).2 (i + 1) := by
  refine ⟨?_, ?_⟩
  · rw [toNat_succ h0, take_at hx]
    unfold foldR
    rw [List.foldl_append]
    have := H.st
    unfold foldR at this
    rw [← this]; rfl
  · rw [toNat_succ h0, take_at hx]
    simp only [List.mem_append, List.mem_singleton, not_or]
    exact ⟨H.no, fun e => hne e.symm⟩
theorem AddI_put (H : AddI xs out w put i) (h0 : 0 ≤ i) (hx : xs[i.toNat]? = some x) (hne : ¬ (x = w)) (hp : put = false) (hl : lessW w x = true) : AddI xs (out ++ [w] ++ [x]) w true (i + 1) := by
  have := AddI_next H h0 hx hne
  rwa [show stepR w (out, put) x = (out ++ [w] ++ [x], true) by simp [stepR, hp, hl]] at this
theorem AddI_no (H : AddI xs out w put i) (h0 : 0 ≤ i) (hx : xs[i.toNat]? = some x) (hne : ¬ (x = w)) (hl : lessW w x = false) : AddI xs (out ++ [x]) w put (i + 1) := by
  have := AddI_next H h0 hx hne
  rwa [show stepR w (out, put) x = (out ++ [x], put) by simp [stepR, hl]] at this
theorem AddI_yes (H : AddI xs out w put i) (h0 : 0 ≤ i) (hx : xs[i.toNat]? = some x) (hne : ¬ (x = w)) (hp : put = true) : AddI xs (out ++ [x]) w put (i + 1) := by
  have := AddI_next H h0 hx hne
  rwa [show stepR w (out, put) x = (out ++ [x], put) by simp [stepR, hp]] at this
theorem AddI.has (H : AddI xs out w put i) (hi : ¬ (i < (xs.length : Int))) : hasW xs w = false := by
  have := H.no
  rw [List.take_of_length_le (by omega)] at this
  exact decide_eq_false this
theorem has_at (hx : xs[i.toNat]? = some x) (he : x = w) : hasW xs w = true := by subst he; exact decide_eq_true (List.mem_of_getElem? hx)
theorem add_90 (h : rightW w = false) : xs = addL xs w ∧ 90 = addE xs w := by unfold addL addE; rw [if_pos h, if_pos h]; exact ⟨rfl, rfl⟩
theorem add_has (h : rightW w = true) (hh : hasW xs w = true) : xs = addL xs w ∧ 0 = addE xs w := by unfold addL addE; rw [h, hh]; simp
theorem add_104 (h : rightW w = true) (hh : hasW xs w = false) (hc : (cnt w.Client xs : Int) ≥ 8) : xs = addL xs w ∧ 104 = addE xs w := by unfold addL addE; rw [h, hh, if_pos hc, if_pos hc]; simp
theorem add_ok (h : rightW w = true) (hh : hasW xs w = false) (hc : ¬ ((cnt w.Client xs : Int) ≥ 8)) : insR w xs = addL xs w ∧ 0 = addE xs w := by unfold addL addE; rw [h, hh, if_neg hc, if_neg hc, insR_eq]; simp
theorem AddI_end (H : AddI xs out w put i) (hi : ¬ (i < (xs.length : Int))) : (put = true → out = insR w xs) ∧ (put = false → out ++ [w] = insR w xs) := by
  have h1 := H.st
  have h2 := H.no
  rw [List.take_of_length_le (by omega)] at h1 h2
  have h3 := fin_fold w xs [] h2
  unfold foldR at h1
  rw [← h1] at h3
  simp only [finR, List.nil_append] at h3
  constructor
  · intro hp; rw [if_pos hp] at h3; exact h3
  · intro hp; rw [hp] at h3; simpa using h3
end
/-! ### 4. What is carried through the laws' loops -/
structure TabOk (xs : List Watch) (i : Int) : Prop where
  sort : SortW xs
  len : (xs.length : Int) ≤ i
theorem TabOk_0 : TabOk [] 0 := ⟨SortW.nil, by simp⟩
theorem TabOk.add {xs : List Watch} {i : Int} (h : TabOk xs i) (w : Watch) : TabOk (addL xs w) (i + 1) := ⟨addL_sort h.sort, by have := addL_len xs w; have := h.len; omega⟩
theorem TabOk.filter {xs : List Watch} {i : Int} (h : TabOk xs i) (q : Watch → Bool) : TabOk (xs.filter q) (i + 1) := ⟨h.sort.filter q, by have := List.length_filter_le q xs; have := h.len; omega⟩
theorem TabOk.stay {xs : List Watch} {i : Int} (h : TabOk xs i) : TabOk xs (i + 1) := ⟨h.sort, by have := h.len; omega⟩
theorem TabOk.addL {xs : List Watch} {i : Int} (h : TabOk xs i) (w : Watch) : SortW (addL xs w) := addL_sort h.sort
theorem wt_ge : ∀ l : List L11Op, (l.length : Int) ≤ wt l
  | [] => by simp [wt]
  | o :: r => by have := wt_ge r; unfold wt opW; simp; omega
theorem wt_mem {o : L11Op} : ∀ {l : List L11Op}, o ∈ l → opW o ≤ wt l
  | x :: r, h => by
    have h0 := wt_ge r
    have hx : 0 ≤ opW x := by unfold opW; omega
    unfold wt
    rcases List.mem_cons.1 h with rfl | h
    · omega
    · have := wt_mem h; omega
theorem notGreat {l : List L11Op} (h : ¬ (greatN l 0 > 5000)) : (l.length : Int) ≤ 5000 ∧ ∀ o ∈ l, (o.Paths.length : Int) ≤ 5000 ∧ (o.Clients.length : Int) ≤ 5000 ∧ (o.Watch.Path.length : Int) ≤ 5000 := by
  have h1 := great_no l 0 (by omega) (by omega)
  have h2 := wt_ge l
  refine ⟨by omega, fun o ho => ?_⟩
  have := wt_mem ho
  unfold opW at this
  omega
end Go.Proofs.YtphonojjgnbpfaaDoor.Sw
