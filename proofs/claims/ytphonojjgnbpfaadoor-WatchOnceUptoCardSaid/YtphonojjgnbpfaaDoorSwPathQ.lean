/- Plain words on paths, second part: what the reference's loops keep. No program in sight. Own text. -/
import Derived.Test.YtphonojjgnbpfaaDoorSwPathP
namespace Go.Proofs.YtphonojjgnbpfaaDoor.Sw
set_option linter.unusedVariables false
set_option linter.unusedSimpArgs false
set_option linter.deprecated false
open Go

section
variable {α : Type} [DecidableEq α]
theorem sameE_len {a b : List α} (h : ¬ ((a.length : Int) = b.length)) : false = decide (a = b) := by
  symm; rw [decide_eq_false_iff_not]; intro e; subst e; exact h rfl
theorem sameE_ne {a b : List α} {i : Nat} {x y : α} (hx : a[i]? = some x) (hy : b[i]? = some y) (h : ¬ (x = y)) : false = decide (a = b) := by
  symm; rw [decide_eq_false_iff_not]; intro e; subst e; rw [hx] at hy; exact h (Option.some.inj hy)
theorem sameE_end {a b : List α} {i : Int} (hl : (a.length : Int) = b.length) (h : ¬ (i < (a.length : Int))) (ht : a.take i.toNat = b.take i.toNat) : true = decide (a = b) := by
  symm; rw [decide_eq_true_iff]; rwa [List.take_of_length_le (by omega), List.take_of_length_le (by omega)] at ht
end
theorem take_step {α : Type} {a b : List α} {i : Int} {x y : α} (ht : a.take i.toNat = b.take i.toNat) (h0 : 0 ≤ i) (hx : a[i.toNat]? = some x) (hy : b[i.toNat]? = some y) (e : x = y) : a.take (i + 1).toNat = b.take (i + 1).toNat := by
  rw [toNat_succ h0, take_at hx, take_at hy, ht, e]

def allTo (s : List UInt8) (i : Int) : Prop := (s.take i.toNat).all sgn = true
theorem allTo_0 (s : List UInt8) : allTo s 0 := by simp [allTo]
theorem allTo_step {s : List UInt8} {i : Int} {x : UInt8} (h : allTo s i) (hx : s[i.toNat]? = some x) (hs : sgn x = true) (h0 : 0 ≤ i) : allTo s (i + 1) := by
  unfold allTo at *
  rw [toNat_succ h0, take_at hx, List.all_append, h]; simp [hs]
theorem part_bad {s : List UInt8} {i : Int} {x : UInt8} (hx : s[i.toNat]? = some x) (hs : sgn x = false) : false = okPart s := by
  symm
  rw [← Bool.not_eq_true]
  intro h
  simp only [okPart, Bool.and_eq_true, List.all_eq_true] at h
  rw [h.2.2 x (List.mem_of_getElem? hx)] at hs; cases hs
theorem part_end {s : List UInt8} {i : Int} (h : allTo s i) (hi : ¬ (i < (s.length : Int))) (h1 : (s.length : Int) ≥ 1) : decide ((s.length : Int) ≤ 16) = okPart s := by
  unfold allTo at h
  rw [List.take_of_length_le (by omega)] at h
  rw [okPart, h, decide_eq_true (show s ≠ [] by intro e; subst e; simp at h1), Bool.true_and, Bool.and_true]
  apply decide_eq_decide.2
  omega
theorem part_end0 {s : List UInt8} (h1 : ¬ (s.length : Int) ≥ 1) : false = okPart s := by
  have : s = [] := List.eq_nil_of_length_eq_zero (by omega)
  subst this; exact part_0

def wh (l : List (List UInt8)) : List UInt8 := (l.map fun x => 47 :: x).flatten
theorem wh_joined : ∀ l : List (List UInt8), l ≠ [] → wh l = joined l
  | [], h => absurd rfl h
  | [x], _ => by simp [wh, joined, joinC]
  | x :: y :: l, _ => by
    have ih := wh_joined (y :: l) (by simp)
    simp only [wh, List.map_cons, List.flatten_cons] at ih ⊢
    rw [ih]; simp [joined, joinC]
theorem wh_step {l : List (List UInt8)} {i : Int} {x out : List UInt8} (h : out = wh (l.take i.toNat)) (h0 : 0 ≤ i) (hx : l[i.toNat]? = some x) : out ++ ([47] ++ x) = wh (l.take (i + 1).toNat) := by
  rw [toNat_succ h0, take_at hx, h]; simp [wh]
theorem wh_len_take (l : List (List UInt8)) (k : Nat) : (wh (l.take k)).length ≤ (wh l).length := by
  have : wh l = wh (l.take k) ++ wh (l.drop k) := by unfold wh; rw [← List.flatten_append, ← List.map_append, List.take_append_drop]
  rw [this, List.length_append]; omega
theorem wh_bound {l : List (List UInt8)} {i : Int} {x out : List UInt8} (h : out = wh (l.take i.toNat)) (h0 : 0 ≤ i) (hx : l[i.toNat]? = some x) : out.length + x.length + 1 ≤ (joined l).length := by
  have h1 := wh_step h h0 hx
  have h2 := wh_len_take l (i + 1).toNat
  rw [← h1] at h2
  have hne : l ≠ [] := by intro e; subst e; simp at hx
  rw [wh_joined l hne] at h2
  simp at h2; omega
theorem wh_nil {l : List (List UInt8)} (h : wh l = []) : l = [] := by
  cases l with
  | nil => rfl
  | cons x xs => simp [wh] at h
theorem wh_end0 {l : List (List UInt8)} {i : Int} {out : List UInt8} (h : out = wh (l.take i.toNat)) (hi : ¬ (i < (l.length : Int))) (he : out = []) : [47] = joined l := by
  rw [List.take_of_length_le (by omega)] at h
  have hl : l = [] := wh_nil (by rw [← h]; exact he)
  rw [hl]; rfl
theorem wh_end1 {l : List (List UInt8)} {i : Int} {out : List UInt8} (h : out = wh (l.take i.toNat)) (hi : ¬ (i < (l.length : Int))) (he : ¬ (out = [])) : out = joined l := by
  rw [List.take_of_length_le (by omega)] at h
  rw [h, wh_joined l (by intro e; subst e; simp [wh] at h; exact he h)]

def PInv (p : List UInt8) (out : List (List UInt8)) (f i : Int) : Prop :=
  out.all okPart = true ∧ (i ≤ p.length → 1 ≤ f ∧ f ≤ i ∧ splitOn 47 (p.drop 1) = out ++ splitOn 47 (p.drop f.toNat) ∧ 47 ∉ ((p.take i.toNat).drop f.toNat)) ∧ (¬ i ≤ p.length → out = splitOn 47 (p.drop 1))
theorem PInv_0 {p : List UInt8} (h : 1 ≤ p.length) : PInv p [] 1 1 := by
  refine ⟨rfl, fun _ => ⟨by omega, by omega, by simp, ?_⟩, fun h => by omega⟩
  have : (p.take 1).drop 1 = [] := by apply List.drop_eq_nil_of_le; simp; omega
  intro hm
  rw [show ((1 : Int).toNat) = 1 from rfl, this] at hm
  simp at hm
theorem PInv_miss {p : List UInt8} {out : List (List UInt8)} {f i : Int} {x : UInt8} (H : PInv p out f i) (hi : i ≤ p.length) (hne : ¬ (i = (p.length : Int))) (hx : p[i.toNat]? = some x) (hx47 : ¬ ((x.toNat : Int) = 47)) : PInv p out f (i + 1) := by
  obtain ⟨h1, h2, _⟩ := H
  obtain ⟨h3, h4, h5, h6⟩ := h2 hi
  refine ⟨h1, fun _ => ⟨h3, by omega, h5, ?_⟩, fun h => by omega⟩
  rw [toNat_succ (by omega), take_at hx, List.drop_append_of_le_length (by simp; omega)]
  intro hm
  rcases List.mem_append.1 hm with h | h
  · exact h6 h
  · have : (47 : UInt8) = x := by simpa using h
    subst this; exact hx47 rfl
theorem PInv_part {p : List UInt8} {out : List (List UInt8)} {f i : Int} (H : PInv p out f i) (hi : i ≤ p.length) (hc : i = (p.length : Int) ∨ ∃ x : UInt8, p[i.toNat]? = some x ∧ (x.toNat : Int) = 47) :
    (i = (p.length : Int) → splitOn 47 (p.drop 1) = out ++ [(p.take i.toNat).drop f.toNat]) ∧ (¬ (i = (p.length : Int)) → splitOn 47 (p.drop 1) = out ++ (p.take i.toNat).drop f.toNat :: splitOn 47 (p.drop (i.toNat + 1))) := by
  obtain ⟨h1, h2, _⟩ := H
  obtain ⟨h3, h4, h5, h6⟩ := h2 hi
  constructor
  · intro e
    have e2 : (p.take i.toNat) = p := List.take_of_length_le (by omega)
    rw [e2] at h6 ⊢
    rw [h5, splitOn_miss 47 _ h6]
  · intro hne
    rcases hc with e | ⟨x, hx, e⟩
    · exact absurd e hne
    · have hx47 : x = 47 := by
        apply UInt8.toNat_inj.1
        have : (x.toNat : Int) = ((47 : UInt8).toNat : Int) := e
        omega
      subst hx47
      have : p.drop f.toNat = (p.take i.toNat).drop f.toNat ++ 47 :: p.drop (i.toNat + 1) := by
        conv => lhs; rw [← List.take_append_drop i.toNat p]
        rw [List.drop_append_of_le_length (by simp; omega), drop_at hx]
      rw [h5, this, splitOn_hit 47 _ _ h6]
theorem PInv_next {p : List UInt8} {out : List (List UInt8)} {f i : Int} (H : PInv p out f i) (hi : i ≤ p.length) (hc : i = (p.length : Int) ∨ ∃ x : UInt8, p[i.toNat]? = some x ∧ (x.toNat : Int) = 47)
    (hok : okPart ((p.take i.toNat).drop f.toNat) = true) : PInv p (out ++ [(p.take i.toNat).drop f.toNat]) (i + 1) (i + 1) := by
  have hp := PInv_part H hi hc
  have hf := H.2.1 hi
  refine ⟨by rw [List.all_append, H.1]; simp [hok], fun hle => ⟨by omega, by omega, ?_, ?_⟩, fun hgt => ?_⟩
  · rw [hp.2 (by omega), toNat_succ (by omega)]; simp
  · have : (p.take (i + 1).toNat).drop (i + 1).toNat = [] := by apply List.drop_eq_nil_of_le; simp; omega
    rw [this]; simp
  · rw [hp.1 (by omega)]
theorem PInv_bad {p : List UInt8} {out : List (List UInt8)} {f i : Int} (H : PInv p out f i) (hi : i ≤ p.length) (hc : i = (p.length : Int) ∨ ∃ x : UInt8, p[i.toNat]? = some x ∧ (x.toNat : Int) = 47)
    (h47 : ¬ (p = [47])) (hok : okPart ((p.take i.toNat).drop f.toNat) = false) : pOk p = false := by
  have hp := PInv_part H hi hc
  have hm : (p.take i.toNat).drop f.toNat ∈ splitOn 47 (p.drop 1) := by
    by_cases e : i = (p.length : Int)
    · rw [hp.1 e]; simp
    · rw [hp.2 e]; simp
  rw [← Bool.not_eq_true]
  intro h
  simp only [pOk, Bool.and_eq_true, Bool.or_eq_true, List.all_eq_true, decide_eq_true_eq] at h
  rcases h.2.2 with e | e
  · exact h47 e
  · rw [e _ hm] at hok; cases hok
theorem head_at {p : List UInt8} {x : UInt8} (hx : p[(0 : Int).toNat]? = some x) (h : (x.toNat : Int) = 47) : p.head? = some 47 := by
  have hx47 : x = 47 := by
    apply UInt8.toNat_inj.1
    have : (x.toNat : Int) = ((47 : UInt8).toNat : Int) := h
    omega
  subst hx47
  rw [List.head?_eq_getElem?]; exact hx
theorem PInv_end {p : List UInt8} {out : List (List UInt8)} {f i : Int} (H : PInv p out f i) (hi : ¬ (i ≤ (p.length : Int))) (h47 : ¬ (p = [47])) (hh : p.head? = some 47) (hl : ¬ (p.length : Int) > 64) : out = pList p ∧ (0 : Int) = pErr p := by
  have ho := H.2.2 hi
  have hok : pOk p = true := by
    simp only [pOk, hh, decide_true, Bool.true_and, Bool.and_eq_true, decide_eq_true_eq, Bool.or_eq_true]
    exact ⟨by omega, .inr (ho ▸ H.1)⟩
  simp [pList, pErr, hok, h47, ho]
theorem noR1 {p : List UInt8} (h : (p.length : Int) < 1) : pOk p = false := by
  have : p = [] := List.eq_nil_of_length_eq_zero (by omega)
  subst this; rfl
theorem noR3 {p : List UInt8} {x : UInt8} (hx : p[(0 : Int).toNat]? = some x) (h : ¬ ((x.toNat : Int) = 47)) : pOk p = false := by
  have hn : ¬ (p.head? = some 47) := by
    rw [List.head?_eq_getElem?]; intro e
    have e' : p[(0 : Int).toNat]? = some 47 := e
    rw [hx] at e'
    have := Option.some.inj e'
    subst this; exact h rfl
  simp [pOk, hn]
theorem parts_47 {p : List UInt8} (h : p = [47]) : ([] : List (List UInt8)) = pList p ∧ (0 : Int) = pErr p := by subst h; exact ⟨by decide, by decide⟩

theorem parentR_no {p : List UInt8} (h : pList p = []) : ([] : List UInt8) = parentOf p ∧ (90 : Int) = cutErr p ∧ ([] : List UInt8) = nameOf p := by simp [parentOf, cutErr, nameOf, lastOf, h]
theorem parentR_ok {p : List UInt8} (h : ¬ (((pList p).length : Int) = 0)) : joined ((pList p).take (((pList p).length : Int) - 1).toNat) = parentOf p ∧ (0 : Int) = cutErr p := by
  have hne : pList p ≠ [] := by intro e; rw [e] at h; simp at h
  rw [take_last rfl h]
  simp [parentOf, cutErr, hne]
theorem nil_len {l : List (List UInt8)} (h : (l.length : Int) = 0) : l = [] := List.eq_nil_of_length_eq_zero (by omega)

def withinR (p t : List UInt8) : Bool := (pOk p && pOk t) && (pList t).isPrefixOf (pList p)
theorem withinR_1 {p t : List UInt8} (h : ¬ (pErr p = 0)) : false = withinR p t := by rw [pErr_ok] at h; simp [withinR, h]
theorem withinR_2 {p t : List UInt8} (h : ¬ (pErr t = 0)) : false = withinR p t := by rw [pErr_ok] at h; simp [withinR, h]
theorem preF {a b : List (List UInt8)} (h : ¬ (b <+: a)) : b.isPrefixOf a = false := by
  rw [← Bool.not_eq_true, List.isPrefixOf_iff_prefix]; exact h
theorem withinR_3 {p t : List UInt8} (h : ((pList p).length : Int) < (pList t).length) : false = withinR p t := by
  rw [withinR, preF]
  · simp
  · intro hp; have := hp.length_le; omega
theorem withinR_4 {p t : List UInt8} {i : Nat} {x y : List UInt8} (hx : (pList p)[i]? = some x) (hy : (pList t)[i]? = some y) (h : ¬ (x = y)) : false = withinR p t := by
  rw [withinR, preF]
  · simp
  · rintro ⟨c, e⟩
    have hlt := (List.getElem?_eq_some_iff.1 hy).1
    rw [← e, List.getElem?_append, if_pos hlt, hy] at hx
    exact h (Option.some.inj hx).symm
theorem withinR_5 {p t : List UInt8} {i : Int} (h1 : pErr p = 0) (h2 : pErr t = 0) (hi : ¬ (i < ((pList t).length : Int))) (hl : ¬ (((pList p).length : Int) < (pList t).length)) (h3 : i ≤ (pList t).length) (ht : (pList p).take i.toNat = (pList t).take i.toNat) : true = withinR p t := by
  rw [pErr_ok] at h1 h2
  rw [withinR, h1, h2, Bool.true_and, Bool.true_and]
  symm
  rw [List.isPrefixOf_iff_prefix, List.prefix_iff_eq_take]
  have e : i.toNat = (pList t).length := by omega
  rw [e, List.take_of_length_le (Nat.le_refl _)] at ht
  exact ht.symm
end Go.Proofs.YtphonojjgnbpfaaDoor.Sw
