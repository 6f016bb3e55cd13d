/- Lemmas for a law of this seat: what the functions compute, and plain facts of it. Own text. -/
import Derived.Test.YtmjebehhpojihaaGreatDoorCShowsD
import Derived.IntWalk
namespace Go.Proofs.YtmjebehhpojihaaGreatDoor.Sw
set_option linter.unusedVariables false
set_option linter.unusedSimpArgs false
set_option linter.deprecated false
open Go
theorem Spec.of_at {P : Program} {B : World} {fn : FuncId} {f : Func} {args : Array Value} {h : Heap} {g : GH} {Lc : List Chunk} {Post : Value → GH → List Chunk → Prop} {e : Env}
    (hf : P.funcs[fn]? = some f) (hb : f.body.isSome = true) (hn : args.size ≤ f.ntmps) (he : argEnv args.toList 0 = e) (h0 : norm 1000 [.code (codeR f)] = pt (codeOf f) 0)
    (H : ∀ R : Value → Heap → Prop, (∀ v h' g' Lc', St h g (ids Lc) g' Lc' h' → Post v g' Lc' → R v h') → At (fctx P B fn f R) [] 0 e h) : Spec P B fn args h g Lc Post :=
  HCalls.of_at hf hb hn he h0 (H _ fun _ _ g' Lc' s p => ⟨g', Lc', s, p⟩)
theorem notT {b : Bool} (h : (!b) = true) : b = false := by cases b <;> simp_all
theorem notF {b : Bool} (h : (!b) = false) : b = true := by cases b <;> simp_all
theorem neF {α : Type} [BEq α] [LawfulBEq α] {a b : α} (h : (a == b) = false) : ¬ (a = b) := by intro e; subst e; simp at h
theorem bneT {α : Type} [BEq α] [LawfulBEq α] {a b : α} (h : (a != b) = true) : ¬ (a = b) := by simpa using h
theorem bneF {α : Type} [BEq α] [LawfulBEq α] {a b : α} (h : (a != b) = false) : a = b := by simpa using h
theorem eqI {k : IntKind} {a b : Int} (h : a = b) : Value.int k a = Value.int k b := by rw [h]
theorem eqB {a b : Bool} (h : a = b) : Value.bool a = Value.bool b := by rw [h]
theorem eqS {a b : List UInt8} (h : a = b) : Value.string (mkS a) = Value.string (mkS b) := by rw [h]
theorem eqT2 {a b c d : Value} (h : a = c) (k : b = d) : Value.tuple #[a, b] = Value.tuple #[c, d] := by rw [h, k]
theorem eqT3 {a b c d e f : Value} (h : a = d) (k : b = e) (l : c = f) : Value.tuple #[a, b, c] = Value.tuple #[d, e, f] := by rw [h, k, l]
theorem wrapEq_i64 {n : Int} (h0 : -9223372036854775808 ≤ n) (h1 : n ≤ 9223372036854775807) : Value.int .i64 (IntKind.wrap .i64 n) = Value.int .i64 n := by
  rw [show IntKind.wrap .i64 n = n from by rw [IntKind.wrap_i64]; omega]
theorem wrapEq_u8 {n : Int} (h0 : 0 ≤ n) (h1 : n ≤ 255) : Value.int .u8 (IntKind.wrap .u8 n) = Value.int .u8 n := by
  rw [show IntKind.wrap .u8 n = n from by rw [IntKind.wrap_u8]; omega]
theorem St.fin {h0 : Heap} {g0 : GH} {S0 : Nat → Prop} {g : GH} {L : List Chunk} {h : Heap} (s : St h0 g0 S0 g L h) : St h0 g0 S0 g0 [] h :=
  ⟨s.size, s.frame, gle.refl _, fun _ hb => .inl hb, fun b o hb => s.sub b o (s.le b o hb), fun _ hp => by simp at hp, by simp, fun _ hp => by simp at hp, fun _ hp => by simp at hp⟩
theorem cut_get {cs : Array Value} {o n : Nat} {vs : List Value} (h : cut cs o n = vs) (k : Nat) {v : Value} (hv : vs[k]? = some v) : cs[o + k]? = some v := by
  subst h
  unfold cut at hv
  rw [List.getElem?_take] at hv
  split at hv
  · simpa using hv
  · cases hv
theorem cut_sub {cs : Array Value} {o n : Nat} {vs ws : List Value} (h : cut cs o n = vs) (k m : Nat) (hv : (vs.drop k).take m = ws) (hm : k + m ≤ n := by omega) : cut cs (o + k) m = ws := by
  rw [← cut_cut cs o n k m hm, h, hv]
theorem drop_at {α : Type} {xs : List α} {i : Nat} {x : α} (h : xs[i]? = some x) : xs.drop i = x :: xs.drop (i + 1) := by
  have hlt := (List.getElem?_eq_some_iff.1 h).1
  rw [List.drop_eq_getElem_cons hlt, (List.getElem?_eq_some_iff.1 h).2]
theorem take_at {α : Type} {xs : List α} {i : Nat} {x : α} (h : xs[i]? = some x) : xs.take (i + 1) = xs.take i ++ [x] := by
  rw [List.take_add_one, h]; rfl
theorem toNat_succ {n : Int} (h : 0 ≤ n) : (n + 1).toNat = n.toNat + 1 := by omega
end Go.Proofs.YtmjebehhpojihaaGreatDoor.Sw
