/- Plain words for the laws on watches. No program in sight. Own text. -/
import Derived.Test.YtphonojjgnbpfaaDoorSwWatchR
import Derived.Test.YtphonojjgnbpfaaDoorSwPathR
namespace Go.Proofs.YtphonojjgnbpfaaDoor.Sw
set_option linter.unusedVariables false
set_option linter.unusedSimpArgs false
set_option linter.deprecated false
open Go
theorem cnt_le (c : Int) : ∀ xs : List Watch, cnt c xs ≤ xs.length
  | [] => by simp [cnt]
  | x :: xs => by have := cnt_le c xs; unfold cnt; simp; split <;> omega
theorem cnt_filter (c : Int) (q : Watch → Bool) : ∀ xs : List Watch, cnt c (xs.filter q) ≤ cnt c xs
  | [] => by simp [cnt]
  | x :: xs => by
    have := cnt_filter c q xs
    rw [List.filter_cons]
    split
    · rw [cnt, cnt]; omega
    · rw [cnt]; omega
theorem loadL_len (xs l : List Watch) : (loadL xs l).length ≤ xs.length + l.length := by unfold loadL; split <;> omega
theorem right_len {w : Watch} (h : rightW w = true) : w.Path.length ≤ 64 := by
  unfold rightW at h
  simp only [Bool.and_eq_true, beq_iff_eq] at h
  exact p_len64 h.2.2.2
/-! ### 1. In whichever order -/
structure OrdI (list tl ul : List Watch) (i : Int) : Prop where
  t : TabOk tl i
  u : TabOk ul i
  tm : ∀ y, y ∈ tl ↔ y ∈ list.take i.toNat ∧ rightW y = true
  um : ∀ y, y ∈ ul ↔ y ∈ list.drop (list.length - i.toNat) ∧ rightW y = true
theorem OrdI_0 {list : List Watch} : OrdI list [] [] 0 := ⟨TabOk_0, TabOk_0, by simp, by simp⟩
theorem addL_mem {xs : List Watch} {w y : Watch} (hc : (cnt w.Client xs : Int) < 8) : y ∈ addL xs w ↔ y ∈ xs ∨ (y = w ∧ rightW w = true) := by
  rcases addL_cases xs w with ⟨e, h⟩ | ⟨e, _, h1, h2, _⟩
  · rw [e]
    constructor
    · exact .inl
    · rintro (h' | ⟨rfl, hr⟩)
      · exact h'
      · cases hh : hasW xs y with
        | true => exact of_decide_eq_true hh
        | false => exact absurd ⟨hr, hh, hc⟩ h
  · rw [e, insR_mem]
    constructor
    · rintro (rfl | h)
      · exact .inr ⟨rfl, h1⟩
      · exact .inl h
    · rintro (h | ⟨rfl, _⟩)
      · exact .inr h
      · exact .inl rfl
theorem OrdI_step {list tl ul : List Watch} {i : Int} {x z : Watch} (H : OrdI list tl ul i) (h0 : 0 ≤ i) (hl : (list.length : Int) ≤ 8) (hi : i < list.length) (hx : list[i.toNat]? = some x) (hz : list[((list.length : Int) - 1 - i).toNat]? = some z) : OrdI list (addL tl x) (addL ul z) (i + 1) := by
  have c1 := cnt_le x.Client tl
  have c2 := cnt_le z.Client ul
  have l1 := H.t.len
  have l2 := H.u.len
  refine ⟨H.t.add x, H.u.add z, fun y => ?_, fun y => ?_⟩
  · rw [addL_mem (by omega), H.tm y, toNat_succ h0, take_at hx, List.mem_append, List.mem_singleton]
    constructor
    · rintro (⟨h, r⟩ | ⟨rfl, r⟩)
      · exact ⟨.inl h, r⟩
      · exact ⟨.inr rfl, r⟩
    · rintro ⟨h | rfl, r⟩
      · exact .inl ⟨h, r⟩
      · exact .inr ⟨rfl, r⟩
  · have e : list.length - i.toNat = ((list.length : Int) - 1 - i).toNat + 1 := by omega
    have e2 : list.length - (i + 1).toNat = ((list.length : Int) - 1 - i).toNat := by omega
    rw [addL_mem (by omega), H.um y, e2, drop_at hz, ← e, List.mem_cons]
    constructor
    · rintro (⟨h, r⟩ | ⟨rfl, r⟩)
      · exact ⟨.inr h, r⟩
      · exact ⟨.inl rfl, r⟩
    · rintro ⟨rfl | h, r⟩
      · exact .inr ⟨rfl, r⟩
      · exact .inl ⟨h, r⟩
theorem OrdI_end {list tl ul : List Watch} {i : Int} (H : OrdI list tl ul i) (hi : ¬ (i < (list.length : Int))) : tl = ul := by
  refine sort_ext H.t.sort H.u.sort fun y => ?_
  rw [H.tm y, H.um y, List.take_of_length_le (by omega), show list.length - i.toNat = 0 by omega, List.drop_zero]
/-! ### 2. Room -/
theorem there_hit {tl : List Watch} {w x : Watch} {k : Int} {th : Bool} (h : th = decide (w ∈ tl.take k.toNat)) (h0 : 0 ≤ k) (hx : tl[k.toNat]? = some x) (ht : th = true) : true = decide (w ∈ tl.take (k + 1).toNat) := by
  rw [ht] at h
  have := of_decide_eq_true h.symm
  rw [toNat_succ h0, take_at hx]
  exact (decide_eq_true (List.mem_append_left _ this)).symm
theorem there_miss {tl : List Watch} {w x : Watch} {k : Int} {th : Bool} (h : th = decide (w ∈ tl.take k.toNat)) (h0 : 0 ≤ k) (hx : tl[k.toNat]? = some x) (ht : th = false) : decide (x = w) = decide (w ∈ tl.take (k + 1).toNat) := by
  rw [ht] at h
  have := of_decide_eq_false h.symm
  rw [toNat_succ h0, take_at hx]
  rw [Bool.eq_iff_iff]
  simp [this, eq_comm]
theorem there_end {tl : List Watch} {w : Watch} {k : Int} {th : Bool} (h : th = decide (w ∈ tl.take k.toNat)) (hk : ¬ (k < (tl.length : Int))) : th = hasW tl w := by
  rw [List.take_of_length_le (by omega)] at h
  exact h
theorem room_no {tl : List Watch} {w : Watch} (h : rightW w = false) : addE tl w = 90 ∧ addL tl w = tl := by unfold addE addL; rw [h]; simp
structure Room (tl : List Watch) (w : Watch) (th : Bool) (n : Int) : Prop where
  yes : th = true → addE tl w = 0 ∧ addL tl w = tl
  no : th = false → (addE tl w = 0 ↔ n < 8) ∧ (addE tl w = 0 → (addL tl w).length = tl.length + 1)
  codes : addE tl w = 0 ∨ addE tl w = 104
theorem room {tl : List Watch} {w : Watch} {th : Bool} {n : Int} (hr : rightW w = true) (ht : th = hasW tl w) (hn : n = (cnt w.Client tl : Int)) : Room tl w th n := by
  subst ht; subst hn
  refine ⟨fun h => ?_, fun h => ?_, ?_⟩
  · unfold addE addL; rw [hr, h]; simp
  · rcases addL_cases tl w with ⟨e, h'⟩ | ⟨e, h0, _, _, hc⟩
    · have hc : ¬ ((cnt w.Client tl : Int) < 8) := fun hc => h' ⟨hr, h, hc⟩
      have hc2 : (cnt w.Client tl : Int) ≥ 8 := by omega
      have : addE tl w = 104 := by unfold addE; rw [hr, h, if_pos hc2]; simp
      rw [this]
      exact ⟨⟨fun h => by omega, fun h => absurd h hc⟩, fun h => by omega⟩
    · exact ⟨⟨fun _ => hc, fun _ => h0⟩, fun _ => by rw [e, insR_len]⟩
  · unfold addE; rw [hr]; simp only [Bool.true_eq_false, if_false]
    split
    · exact .inl rfl
    · split
      · exact .inr rfl
      · exact .inl rfl
section
variable {tl : List Watch} {w : Watch} {th : Bool} {n : Int}
theorem room_a (H : Room tl w th n) (h : addE tl w = 0) (k : ¬ (th = (((addL tl w).length : Int) == (tl.length : Int)))) : False := by
  cases th with
  | true => rw [(H.yes rfl).2] at k; simp at k
  | false =>
    have := (H.no rfl).2 h
    apply k
    rw [this]
    symm
    simp
    omega
theorem room_b (H : Room tl w th n) (h : th = false) (k : ¬ ((addE tl w == 0) = decide (n < 8))) : False := by
  have := (H.no h).1
  apply k
  rw [Bool.eq_iff_iff]
  simpa using this
theorem room_c (H : Room tl w th n) (h : ¬ (addE tl w = 0)) (k : ¬ (addE tl w = 104)) : False := by rcases H.codes with h' | h' <;> contradiction
theorem room_d (H : Room tl w th n) (h : ¬ (addE tl w = 0)) (k : ¬ (th = false)) : False := by
  cases th with
  | true => exact h (H.yes rfl).1
  | false => exact k rfl
end
theorem drop_gone {tl : List Watch} {c : Int} {x : Watch} {i : Int} (hx : (tl.filter fun w => !qDrop [c] w)[i.toNat]? = some x) : ¬ (x.Client = c) := by
  intro e
  have := (List.mem_filter.1 (List.mem_of_getElem? hx)).2
  simp [qDrop, e] at this
/-! ### 3. What is fired is gone -/
structure TabR (xs : List Watch) (i : Int) : Prop where
  ok : TabOk xs i
  right : ∀ y ∈ xs, rightW y = true
  room : ∀ c, (cnt c xs : Int) ≤ 8
theorem TabR_0 : TabR [] 0 := ⟨TabOk_0, by simp, by simp [cnt]⟩
theorem TabR.add {xs : List Watch} {i : Int} (h : TabR xs i) (w : Watch) : TabR (addL xs w) (i + 1) := by
  refine ⟨h.ok.add w, fun y hy => ?_, fun c => ?_⟩
  · rcases addL_cases xs w with ⟨e, _⟩ | ⟨e, _, h1, _, _⟩
    · rw [e] at hy; exact h.right y hy
    · rw [e, insR_mem] at hy
      rcases hy with rfl | hy
      · exact h1
      · exact h.right y hy
  · rcases addL_cases xs w with ⟨e, _⟩ | ⟨e, _, _, _, h2⟩
    · rw [e]; exact h.room c
    · rw [e, insR_cnt]
      split
      · rename_i hc; subst hc; omega
      · have := h.room c; omega
theorem load_yes {xs : List Watch} {i : Int} (h : TabR xs i) (q : Watch → Bool) : loadB (xs.filter q) = true := by
  have hs := h.ok.sort.filter q
  unfold loadB
  rw [List.all_eq_true]
  intro k hk
  have hk := List.mem_range.1 hk
  have hx : (xs.filter q)[k]? = some (xs.filter q)[k] := List.getElem?_eq_getElem hk
  unfold stepB
  rw [hx]
  have hm := List.mem_of_getElem? hx
  have h1 := h.right _ (List.mem_filter.1 hm).1
  have h2 := cnt_filter (xs.filter q)[k].Client q xs
  have h3 := h.room (xs.filter q)[k].Client
  simp only [h1, Bool.true_and, Bool.and_eq_true, Bool.or_eq_true, decide_eq_true_eq]
  refine ⟨?_, by omega⟩
  rcases Nat.eq_zero_or_pos k with h0 | h0
  · exact .inl h0
  · right
    have hy : (xs.filter q)[((k : Int) - 1).toNat]? = some (xs.filter q)[k - 1] := by rw [show ((k : Int) - 1).toNat = k - 1 by omega]; exact List.getElem?_eq_getElem (by omega)
    rw [atW_eq hy]
    exact hs.at (by omega) (List.getElem?_eq_getElem (by omega)) hx
theorem load_same {xs : List Watch} (h : loadB xs = true) : loadL [] xs = xs := by unfold loadL; rw [if_pos h]
theorem two_len {xs : List Watch} (q : Watch → Bool) : (xs.filter q).length + (xs.filter fun w => !q w).length = xs.length := by
  induction xs with
  | nil => rfl
  | cons x xs ih => cases h : q x <;> simp [List.filter_cons, h] <;> omega
theorem twoI {xs : List Watch} (q : Watch → Bool) : ((xs.filter q).length : Int) + ((xs.filter fun w => !q w).length : Int) = (xs.length : Int) := by have := two_len (xs := xs) q; omega
theorem nilI {xs : List Watch} (h : xs = []) : (xs.length : Int) = 0 := by rw [h]; rfl
theorem againq {xs : List Watch} (q : Watch → Bool) : (xs.filter fun w => !q w).filter q = [] := by
  rw [List.filter_filter, List.filter_eq_nil_iff]
  intro x _; cases q x <;> simp
theorem again_nil {xs : List Watch} (q : Watch → Bool) : (xs.filter fun w => !q w).filter q = [] := by
  rw [List.filter_filter, List.filter_eq_nil_iff]
  intro x _; cases q x <;> simp
/-- a and b: how many of the first i are fired, and left. -/
structure OnceI (xs : List Watch) (q : Watch → Bool) (a b i : Int) : Prop where
  a : a = (((xs.take i.toNat).filter q).length : Int)
  b : b = (((xs.take i.toNat).filter fun w => !q w).length : Int)
theorem OnceI_0 {xs : List Watch} {q : Watch → Bool} : OnceI xs q 0 0 0 := ⟨rfl, rfl⟩
theorem filter_at {xs : List Watch} (q : Watch → Bool) {i : Int} {x : Watch} (hx : xs[i.toNat]? = some x) (hq : q x = true) : (xs.filter q)[((xs.take i.toNat).filter q).length]? = some x := by
  have : xs.filter q = (xs.take i.toNat).filter q ++ (x :: xs.drop (i.toNat + 1)).filter q := by rw [← List.filter_append, ← drop_at hx, List.take_append_drop]
  rw [this, List.getElem?_append_right (Nat.le_refl _), Nat.sub_self, List.filter_cons, if_pos hq]
  rfl
section
variable {xs : List Watch} {q : Watch → Bool} {a b i : Int} {x : Watch}
theorem OnceI.fired (H : OnceI xs q a b i) (hx : xs[i.toNat]? = some x) (hq : q x = true) : (xs.filter q)[a.toNat]? = some x := by rw [H.a]; exact filter_at q hx hq
theorem OnceI.left (H : OnceI xs q a b i) (hx : xs[i.toNat]? = some x) (hq : q x = false) : (xs.filter fun w => !q w)[b.toNat]? = some x := by rw [H.b]; exact filter_at (fun w => !q w) hx (by simp [hq])
theorem OnceI.t (H : OnceI xs q a b i) (h0 : 0 ≤ i) (hx : xs[i.toNat]? = some x) (hq : q x = true) : OnceI xs q (a + 1) b (i + 1) := by
  refine ⟨?_, ?_⟩ <;> rw [toNat_succ h0, take_at hx, List.filter_append]
  · rw [H.a]; simp [hq]
  · rw [H.b]; simp [hq]
theorem OnceI.f (H : OnceI xs q a b i) (h0 : 0 ≤ i) (hx : xs[i.toNat]? = some x) (hq : q x = false) : OnceI xs q a (b + 1) (i + 1) := by
  refine ⟨?_, ?_⟩ <;> rw [toNat_succ h0, take_at hx, List.filter_append]
  · rw [H.a]; simp [hq]
  · rw [H.b]; simp [hq]
theorem OnceI.bounds (H : OnceI xs q a b i) (h0 : 0 ≤ i) : 0 ≤ a ∧ 0 ≤ b ∧ a ≤ i ∧ b ≤ i := by
  have h1 := List.length_filter_le q (xs.take i.toNat)
  have h2 := List.length_filter_le (fun w => !q w) (xs.take i.toNat)
  have h3 := List.length_take_le i.toNat xs
  rw [H.a, H.b]; omega
end
/-- what the inner loop has found. -/
theorem hit_t {paths : List (List UInt8)} {p : List UInt8} {k : Int} {b : Bool} {z : List UInt8} (h : b = (paths.take k.toNat).any fun r => decide (r = p)) (h0 : 0 ≤ k) (hx : paths[k.toNat]? = some z) (hb : b = true) : true = (paths.take (k + 1).toNat).any fun r => decide (r = p) := any_t h h0 hb
theorem hit_f {paths : List (List UInt8)} {p : List UInt8} {k : Int} {b : Bool} {z : List UInt8} (h : b = (paths.take k.toNat).any fun r => decide (r = p)) (h0 : 0 ≤ k) (hx : paths[k.toNat]? = some z) (hb : b = false) : (z == p) = (paths.take (k + 1).toNat).any fun r => decide (r = p) := any_s h hb h0 hx (beq_decL z p)
theorem fire_is {kind : Int} {paths : List (List UInt8)} {x : Watch} {k : Int} {b : Bool} (h : b = (paths.take k.toNat).any fun r => decide (r = x.Path)) (hk : ¬ (k < (paths.length : Int))) : b = paths.any fun r => decide (r = x.Path) := by
  rwa [List.take_of_length_le (by omega)] at h
section
variable {l : List Watch} {kind : Int} {paths : List (List UInt8)} {x : Watch} {i k : Int} {b : Bool}
theorem q_yes (hx : l[i.toNat]? = some x) (h : b = (paths.take k.toNat).any fun r => decide (r = (atW l i).Path)) (hk : ¬ (k < (paths.length : Int))) (hb : b = true) (hd : x.Kind = kind) : qFire kind paths x = true := by
  rw [atW_eq hx] at h
  have := fire_is (kind := kind) h hk
  unfold qFire
  rw [← this, hb, decide_eq_true hd]; rfl
theorem q_no1 (hx : l[i.toNat]? = some x) (h : b = (paths.take k.toNat).any fun r => decide (r = (atW l i).Path)) (hk : ¬ (k < (paths.length : Int))) (hb : b = false) : qFire kind paths x = false := by
  rw [atW_eq hx] at h
  have := fire_is (kind := kind) h hk
  unfold qFire
  rw [← this, hb]; rfl
theorem at_f {z : List UInt8} (hx : l[i.toNat]? = some x) (h : b = (paths.take k.toNat).any fun r => decide (r = (atW l i).Path)) (h0 : 0 ≤ k) (hz : paths[k.toNat]? = some z) (hb : b = false) : (z == x.Path) = (paths.take (k + 1).toNat).any fun r => decide (r = (atW l i).Path) := by
  rw [atW_eq hx] at h ⊢
  exact hit_f h h0 hz hb
theorem once_a {xs : List Watch} {q : Watch → Bool} {a b i : Int} {x : Watch} (H : OnceI xs q a b i) (hx : xs[i.toNat]? = some x) (hq : q x = true) : ¬ (a ≥ ((xs.filter q).length : Int)) := by
  have := (List.getElem?_eq_some_iff.1 (H.fired hx hq)).1
  have h0 : 0 ≤ a := by rw [H.a]; omega
  omega
theorem once_b {xs : List Watch} {q : Watch → Bool} {a b i : Int} {x : Watch} (H : OnceI xs q a b i) (hx : xs[i.toNat]? = some x) (hq : q x = false) : ¬ (b ≥ ((xs.filter fun w => !q w).length : Int)) := by
  have := (List.getElem?_eq_some_iff.1 (H.left hx hq)).1
  have h0 : 0 ≤ b := by rw [H.b]; omega
  omega
theorem once_ax {xs : List Watch} {q : Watch → Bool} {a b i : Int} {x y : Watch} (H : OnceI xs q a b i) (hx : xs[i.toNat]? = some x) (hq : q x = true) (hy : (xs.filter q)[a.toNat]? = some y) : y = x := by
  have := H.fired hx hq
  rw [hy] at this; exact Option.some.inj this
theorem once_bx {xs : List Watch} {q : Watch → Bool} {a b i : Int} {x y : Watch} (H : OnceI xs q a b i) (hx : xs[i.toNat]? = some x) (hq : q x = false) (hy : (xs.filter fun w => !q w)[b.toNat]? = some y) : y = x := by
  have := H.left hx hq
  rw [hy] at this; exact Option.some.inj this
end
theorem once_b0 {l : List Watch} {kind : Int} {paths : List (List UInt8)} {i k a c : Int} {b : Bool} (H : OnceI l (qFire kind paths) a c i) (h0 : 0 ≤ i) (hi : i < (l.length : Int)) (h : b = (paths.take k.toNat).any fun r => decide (r = (atW l i).Path)) (hk : ¬ (k < (paths.length : Int))) (hb : b = false) : ¬ (c ≥ ((l.filter fun w => !qFire kind paths w).length : Int)) := by
  have hx : l[i.toNat]? = some l[i.toNat] := List.getElem?_eq_getElem (by omega)
  exact once_b H hx (q_no1 hx h hk hb)
theorem q_no2 {kind : Int} {paths : List (List UInt8)} {x : Watch} (hd : ¬ (x.Kind = kind)) : qFire kind paths x = false := by
  unfold qFire; rw [decide_eq_false hd, Bool.and_false]
end Go.Proofs.YtphonojjgnbpfaaDoor.Sw
