/- Plain words: texts in their order. No program in sight. Own text. -/
import Derived.Test.YtphonojjgnbpfaaDoorSwPathQ
namespace Go.Proofs.YtphonojjgnbpfaaDoor.Sw
set_option linter.unusedVariables false
set_option linter.unusedSimpArgs false
set_option linter.deprecated false
open Go
theorem bl_irr : ∀ a : List UInt8, Go.Op.bytesLess a a = false
  | [] => rfl
  | c :: a => by simp [Go.Op.bytesLess, bl_irr a]
theorem bl_trans : ∀ {a b c : List UInt8}, Go.Op.bytesLess a b = true → Go.Op.bytesLess b c = true → Go.Op.bytesLess a c = true
  | _, _, [], _, h => by simp [Go.Op.bytesLess] at h
  | _, [], _ :: _, h, _ => by simp [Go.Op.bytesLess] at h
  | [], _ :: _, _ :: _, _, _ => rfl
  | x :: a, y :: b, z :: c, h, k => by
    simp only [Go.Op.bytesLess, Bool.or_eq_true, decide_eq_true_eq, Bool.and_eq_true, beq_iff_eq] at *
    rcases h with h | ⟨rfl, h⟩
    · rcases k with k | ⟨rfl, k⟩
      · exact .inl (UInt8.lt_trans h k)
      · exact .inl h
    · rcases k with k | ⟨rfl, k⟩
      · exact .inl k
      · exact .inr ⟨rfl, bl_trans h k⟩
theorem bl_tri : ∀ {a b : List UInt8}, Go.Op.bytesLess a b = false → Go.Op.bytesLess b a = false → a = b
  | [], [], _, _ => rfl
  | [], _ :: _, h, _ => by simp [Go.Op.bytesLess] at h
  | _ :: _, [], _, h => by simp [Go.Op.bytesLess] at h
  | x :: a, y :: b, h, k => by
    simp only [Go.Op.bytesLess, Bool.or_eq_false_iff, decide_eq_false_iff_not, Bool.and_eq_false_iff, beq_eq_false_iff_ne] at *
    obtain ⟨h1, h2⟩ := h
    obtain ⟨k1, k2⟩ := k
    have hxy : x = y := UInt8.le_antisymm (UInt8.not_lt.1 k1) (UInt8.not_lt.1 h1)
    subst hxy
    rw [bl_tri (h2.resolve_left (fun h => h rfl)) (k2.resolve_left (fun h => h rfl))]
theorem bl_asym {a b : List UInt8} (h : Go.Op.bytesLess a b = true) : Go.Op.bytesLess b a = false := by
  cases hk : Go.Op.bytesLess b a with
  | false => rfl
  | true => have := bl_trans h hk; rw [bl_irr] at this; cases this
theorem bl_ne {a b : List UInt8} (h : Go.Op.bytesLess a b = true) : a ≠ b := fun e => by rw [e, bl_irr] at h; cases h
end Go.Proofs.YtphonojjgnbpfaaDoor.Sw
