/- The symbolic walk, part 11: structs compared. Own text. -/
import Derived.Test.YtphonojjgnbpfaaDoorSwRow
namespace Go.Proofs.YtphonojjgnbpfaaDoor.Sw
set_option linter.unusedVariables false
set_option linter.unusedSimpArgs false
set_option linter.deprecated false
open Go

def eqFs (f : Field → Option Bool) : List Field → Option Bool
  | [] => some true
  | x :: r => match f x, eqFs f r with
    | some a, some b => some (a && b)
    | _, _ => none
def eqC (P : Program) : Nat → TypeId → Value → Value → Option Bool
  | 0, _, _, _ => none
  | n + 1, T, x, y => match P.underlying T, x, y with
    | some .bool, .bool a, .bool b => some (a == b)
    | some (.int _), .int k a, .int k' b => if k = k' then some (a == b) else none
    | some .string, .string a, .string b => some (a == b)
    | some (.struct fs), .agg xs, .agg ys => if P.stoodInHeld T = true then none else
        eqFs (fun f => if f.name = "_" then none else match pureVal P (part f.type xs f.offset), pureVal P (part f.type ys f.offset) with
          | some a, some b => eqC P n f.type a b
          | _, _ => none) fs.toList
    | _, _, _ => none
theorem eqFs_loop {P : Program} {w : World} {f : Field → Option Bool} (F : Field → Option Bool × Unit → Sem (ForInStep (Option Bool × Unit))) : ∀ (l : List Field) (r : Bool), eqFs f l = some r →
    (∀ x b, f x = some b → ∀ s, (F x s).run P w = .ok (if b = true then .yield (none, ()) else .done (some false, ())) w) → (forIn l (none, ()) F).run P w = .ok (if r = true then (none, ()) else (some false, ())) w
  | [], r, h, H => by
    simp only [eqFs, Option.some.injEq] at h
    subst h
    simp
  | x :: l, r, h, H => by
    unfold eqFs at h
    split at h
    · rename_i a b ha hb
      simp only [Option.some.injEq] at h
      subst h
      have ih := eqFs_loop F l b hb H
      have hx := H x a ha (none, ())
      rw [List.forIn_cons, Sem.run_bind, hx]
      cases a with
      | true => simpa using ih
      | false => simp
    · cases h
theorem eqC_run {P : Program} {w : World} : ∀ (n m : Nat) (T : TypeId) (x y : Value) (r : Bool), n ≤ m → eqC P n T x y = some r → (Go.Op.equalIn m T x y).run P w = .ok r w := by
  intro n
  induction n with
  | zero => intro m T x y r _ h; simp [eqC] at h
  | succ n ih =>
    intro m T x y r hm h
    obtain ⟨m, rfl⟩ : ∃ q, m = q + 1 := ⟨m - 1, by omega⟩
    unfold eqC at h
    split at h
    · rename_i hu; simp only [Option.some.injEq] at h; subst h
      simp [Go.Op.equalIn, run_underlying hu]
    · rename_i hu
      split at h
      · rename_i hk; simp only [Option.some.injEq] at h; subst h; subst hk
        simp [Go.Op.equalIn, run_underlying hu]
      · cases h
    · rename_i hu; simp only [Option.some.injEq] at h; subst h
      simp [Go.Op.equalIn, run_underlying hu]
    · rename_i fs xs ys hu
      split at h
      · cases h
      · rename_i hs
        simp only [Go.Op.equalIn, Sem.run_bind, run_underlying hu, Result.andThen_ok, run_program, hs, if_false, Bool.false_eq_true]
        rw [← Array.forIn_toList, eqFs_loop (P := P) (w := w) _ fs.toList r h (fun fl b hb s0 => ?_)]
        · cases r <;> rfl
        · split at hb
          · cases hb
          · rename_i hname
            split at hb
            · rename_i a b' ha hb'
              have h1 := pureVal_run _ ha w
              have h2 := pureVal_run _ hb' w
              have h3 := ih m fl.type a b' b (by omega) hb
              simp only [hname, ne_eq, not_false_eq_true, if_true, Sem.run_bind, h1, h2, h3, Result.andThen_ok]
              cases b <;> rfl
            · cases hb
    · cases h

section
variable {C : Ctx} {ds : List Deferred} {i j : Nat} {r : Heap} {M : Nat → Prop} {Ls : List (Nat × Bool)} {e : Env} {h : Heap}
/-- x == y, x != y, of structs whose parts are plain. -/
theorem Op.eqAgg {dst : Nat} {T T' : TypeId} {x y : Operand} {neq : Bool} {xs ys : Array Value} {q q' : Bool} {b : Bool} (ho : nextDO C i j e = some (some dst, .binOp (bif neq then .neq else .eql) T x y T'))
    (hx : e.ev x = .agg xs) (hy : e.ev y = .agg ys) (hg : C.P.eqGuardType C.P.depth T = false) (hq : eqC C.P 30 T (.agg xs) (.agg ys) = some q) (hv : (bif neq then !q else q) = q')
    (K : Op C ds i r M Ls ((dst, .bool q') :: e) h) : Op C ds i r M ((j, b) :: Ls) e h := by
  refine Op.free ho (fun o' ho w => ?_) K
  have h1 : (Go.Op.equal T (.agg xs) (.agg ys)).run C.P w = .ok q w := eqC_run 30 _ T _ _ q (by decide) hq
  subst hv
  cases neq <;> simp only [cond_true, cond_false] at ho ⊢ <;>
    simp [execOp, ho, hx, hy, eqGuard, binOp, hg, h1]
end
theorem mkS_beq (a b : List UInt8) : (mkS a == mkS b) = (a == b) := by
  show (a.toArray == b.toArray) = _
  simp
end Go.Proofs.YtphonojjgnbpfaaDoor.Sw
