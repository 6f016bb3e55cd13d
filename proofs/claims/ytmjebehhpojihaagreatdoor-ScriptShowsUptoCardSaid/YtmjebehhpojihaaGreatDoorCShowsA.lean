/- Lemmas for a law of this seat: what the functions compute, and plain facts of it. Own text. -/

namespace Go.Proofs.YtmjebehhpojihaaGreatDoor.Sw
set_option linter.unusedVariables false
set_option linter.unusedSimpArgs false
set_option linter.deprecated false
def splitOn (c : UInt8) : List UInt8 → List (List UInt8)
  | [] => [[]]
  | b :: l => if b = c then [] :: splitOn c l else match splitOn c l with
    | x :: xs => (b :: x) :: xs
    | [] => [[b]]
theorem splitOn_ne (c : UInt8) (l : List UInt8) : splitOn c l ≠ [] := by
  cases l with
  | nil => simp [splitOn]
  | cons b l => unfold splitOn; split <;> (try split) <;> simp
theorem splitOn_miss (c : UInt8) : ∀ (l : List UInt8), c ∉ l → splitOn c l = [l]
  | [], _ => rfl
  | b :: l, h => by
    have hb : ¬ b = c := fun e => h (by simp [e])
    rw [splitOn, if_neg hb, splitOn_miss c l (fun hm => h (by simp [hm]))]
theorem splitOn_hit (c : UInt8) : ∀ (a l : List UInt8), c ∉ a → splitOn c (a ++ c :: l) = a :: splitOn c l
  | [], l, _ => by simp [splitOn]
  | b :: a, l, h => by
    have hb : ¬ b = c := fun e => h (by simp [e])
    rw [List.cons_append, splitOn, if_neg hb, splitOn_hit c a l (fun hm => h (by simp [hm]))]
theorem splitOn_length (c : UInt8) : ∀ (l : List UInt8), (splitOn c l).length = l.count c + 1
  | [] => rfl
  | b :: l => by
    have ih := splitOn_length c l
    unfold splitOn
    split
    · rename_i h; subst h; simp [ih]
    · rename_i h
      have : (b == c) = false := by simpa using h
      rw [List.count_cons, this]
      split
      · rename_i x xs hx; rw [hx] at ih; simpa using ih
      · rename_i hx; exact absurd hx (splitOn_ne c l)
def joinC (c : UInt8) : List (List UInt8) → List UInt8
  | [] => []
  | [x] => x
  | x :: y :: xs => x ++ c :: joinC c (y :: xs)
theorem joinC_splitOn (c : UInt8) : ∀ (l : List UInt8), joinC c (splitOn c l) = l
  | [] => rfl
  | b :: l => by
    have ih := joinC_splitOn c l
    unfold splitOn
    split
    · rename_i h
      subst h
      cases hs : splitOn b l with
      | nil => exact absurd hs (splitOn_ne b l)
      | cons x xs => rw [hs] at ih; simp [joinC, ih]
    · split
      · rename_i x xs hx
        rw [hx] at ih
        cases xs with
        | nil => simp only [joinC] at ih ⊢; rw [ih]
        | cons y ys => simp only [joinC] at ih ⊢; rw [← ih]; simp
      · rename_i hx; exact absurd hx (splitOn_ne c l)
theorem splitOn_joinC (c : UInt8) : ∀ (xs : List (List UInt8)), xs ≠ [] → (∀ x ∈ xs, c ∉ x) → splitOn c (joinC c xs) = xs
  | [], h, _ => absurd rfl h
  | [x], _, h => splitOn_miss c x (h x (by simp))
  | x :: y :: xs, _, h => by
    rw [joinC, splitOn_hit c x _ (h x (by simp)), splitOn_joinC c (y :: xs) (by simp) (fun z hz => h z (by simp [hz]))]
end Go.Proofs.YtmjebehhpojihaaGreatDoor.Sw
