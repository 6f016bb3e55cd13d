/- The symbolic walk, part 7: calls, slices, strings, literals, stores. Own text. -/
import Derived.Test.YtphonojjgnbpfaaDoorSwApp
namespace Go.Proofs.YtphonojjgnbpfaaDoor.Sw
set_option linter.unusedVariables false
set_option linter.unusedSimpArgs false
set_option linter.deprecated false
open Go

/-! ### 1. Calls -/
/-- A contract: what a call is handed (Lc) and leaves (Lc'), what stays (g, g'). -/
def Spec (P : Program) (B : World) (f : FuncId) (args : Array Value) (h : Heap) (g : GH) (Lc : List Chunk) (Post : Value → GH → List Chunk → Prop) : Prop :=
  HCalls P B f args h fun v h' => ∃ g' Lc', St h g (ids Lc) g' Lc' h' ∧ Post v g' Lc'
theorem Spec.mono {P : Program} {B : World} {f : FuncId} {args : Array Value} {h : Heap} {g : GH} {Lc : List Chunk} {Post Post' : Value → GH → List Chunk → Prop}
    (H : Spec P B f args h g Lc Post) (hp : ∀ v g' Lc', gle g g' → Post v g' Lc' → Post' v g' Lc') : Spec P B f args h g Lc Post' :=
  HCalls.mono H fun v _ ⟨g', Lc', s, p⟩ => ⟨g', Lc', s, hp v g' Lc' s.le p⟩

def enterOf (C : Ctx) (i j : Nat) (e : Env) : Option (Option Tmp × FuncId × Array Value) :=
  match nextOp C i j e with
  | some o => match pureVal C.P (semOf e o) with
    | some (.enter f args) => some (o.dst, f, args)
    | _ => none
  | none => none
theorem enterOf_spec {C : Ctx} {i j : Nat} {e : Env} {d : Option Tmp} {f : FuncId} {args : Array Value} (h : enterOf C i j e = some (d, f, args)) :
    ∃ o, nextOp C i j e = some o ∧ o.dst = d ∧ pureVal C.P (semOf e o) = some (.enter f args) := by
  unfold enterOf at h
  split at h
  · rename_i o ho
    split at h
    · rename_i f' args' hp
      simp only [Option.some.injEq, Prod.mk.injEq] at h
      obtain ⟨rfl, rfl, rfl⟩ := h
      exact ⟨o, ho, rfl, hp⟩
    · cases h
  · cases h
/-- A function that can be entered. -/
structure Enterable (P : Program) (f : FuncId) : Prop where
  out : ∃ fn, P.funcs[f]? = some fn ∧ (fn.name == "runtime.NumGoroutine") = false ∧ fn.body.isSome = true
def enterable (P : Program) (f : FuncId) : Bool := match P.funcs[f]? with
  | some fn => !(fn.name == "runtime.NumGoroutine") && fn.body.isSome
  | none => false
theorem Enterable.of {P : Program} {f : FuncId} (h : enterable P f = true) : Enterable P f := by
  unfold enterable at h
  split at h
  · rename_i fn hf
    simp only [Bool.and_eq_true, Bool.not_eq_true'] at h
    exact ⟨fn, hf, h.1, h.2⟩
  · cases h

section
variable {C : Ctx} {ds : List Deferred} {i j : Nat} {r : Heap} {M : Nat → Prop} {Ls : List (Nat × Bool)} {e : Env} {h : Heap}
variable {h0 : Heap} {g0 : GH} {S0 : Nat → Prop} {g : GH} {L L' : List Chunk}

theorem St.zero (s : St h0 g0 S0 g L h) : St h g (ids []) g [] h := St.init s.sub

theorem Op.callAny {o : Oper} {f : FuncId} {args : Array Value} {Lc : List Chunk} {Post : Value → GH → List Chunk → Prop} (h1 : nextOp C i j e = some o)
    (hp : ∀ w, (semOf e o).run C.P w = .ok (.enter f args) w)
    (s : St h0 g0 S0 g (Lc ++ L) h) (H : Spec C.P C.B f args h g Lc Post) (hM : ∀ b, b < r.size → ids Lc b → M b)
    (K : ∀ v g' Lc' h', gle g g' → St h0 g0 S0 g' (Lc' ++ L) h' → Post v g' Lc' → Op C ds i r M Ls (e.putO o.dst v) h') : Op C ds i r M ((j, false) :: Ls) e h := by
  refine Op.act h1 fun w is hk a ft => ?_
  rw [hp w]
  refine Calls.mono (H w is) fun en w' ⟨v, he, is', g', Lc', t, hpost⟩ => ?_
  exact ⟨v, he, ⟨t.keep hM hk, is'⟩, _, ft.putO (nextOp_spec h1).2.2.2.1 v, K v g' Lc' _ t.le (s.join t) hpost⟩
theorem Op.call {dst : Option Tmp} {f : FuncId} {args : Array Value} {Lc : List Chunk} {Post : Value → GH → List Chunk → Prop} (ho : enterOf C i j e = some (dst, f, args))
    (s : St h0 g0 S0 g (Lc ++ L) h) (H : Spec C.P C.B f args h g Lc Post) (hM : ∀ b, b < r.size → ids Lc b → M b)
    (K : ∀ v g' Lc' h', gle g g' → St h0 g0 S0 g' (Lc' ++ L) h' → Post v g' Lc' → Op C ds i r M Ls (e.putO dst v) h') : Op C ds i r M ((j, false) :: Ls) e h := by
  obtain ⟨o, h1, rfl, hp⟩ := enterOf_spec ho
  exact Op.callAny h1 (pureVal_run _ hp) s H hM K
/-- A call that is handed nothing of one's own. -/
theorem Op.call0 {dst : Option Tmp} {f : FuncId} {args : Array Value} {Post : Value → GH → List Chunk → Prop} (ho : enterOf C i j e = some (dst, f, args))
    (s : St h0 g0 S0 g L h) (H : Spec C.P C.B f args h g [] Post)
    (K : ∀ v g' Lc' h', gle g g' → St h0 g0 S0 g' (Lc' ++ L) h' → Post v g' Lc' → Op C ds i r M Ls (e.putO dst v) h') : Op C ds i r M ((j, false) :: Ls) e h :=
  Op.call (Lc := []) ho s H (fun _ _ h => absurd h (ids_nil _)) K
/-- A call of a function value. -/
theorem Op.callV {dst : Option Tmp} {x : Operand} {ops : Array Operand} {ts : Array TypeId} {f : FuncId} {first cap : Array Value} {Lc : List Chunk} {Post : Value → GH → List Chunk → Prop}
    (ho : nextDO C i j e = some (dst, .call { callee := .value x, args := ops, argTypes := ts })) (hx : e.ev x = .func (.func f) first cap) (hf : Enterable C.P f) {args : Array Value} (ha : first ++ ops.map e.ev ++ cap = args)
    (s : St h0 g0 S0 g (Lc ++ L) h) (H : Spec C.P C.B f args h g Lc Post) (hM : ∀ b, b < r.size → ids Lc b → M b)
    (K : ∀ v g' Lc' h', gle g g' → St h0 g0 S0 g' (Lc' ++ L) h' → Post v g' Lc' → Op C ds i r M Ls (e.putO dst v) h') : Op C ds i r M ((j, false) :: Ls) e h := by
  obtain ⟨o, h1, rfl, h3⟩ := nextDO_spec ho
  obtain ⟨fn, hfn, hname, hbody⟩ := hf.out
  refine Op.callAny h1 (fun w => ?_) s H hM K
  unfold semOf execOp
  have hb : fn.body.isNone = false := by cases hb : fn.body <;> simp_all
  simp only [h3, resolve, hx, Deferred.ofValue, Sem.run_bind, Sem.run_pure, Result.andThen_ok, invoke, callFunc, run_program, hfn, hname, hb, Bool.false_eq_true, if_false, ha]

/-! ### 2. One value, up to an equation -/
def valOf (C : Ctx) (i j : Nat) (e : Env) : Option (Option Tmp × Value) :=
  match nextOp C i j e with
  | some o => match pureVal C.P (semOf e o) with
    | some (.value v) => some (o.dst, v)
    | _ => none
  | none => none
theorem Op.val {dst : Option Tmp} {v v' : Value} {b : Bool} (ho : valOf C i j e = some (dst, v)) (hv : v = v') (K : Op C ds i r M Ls (e.putO dst v') h) : Op C ds i r M ((j, b) :: Ls) e h := by
  unfold valOf at ho
  split at ho
  · rename_i o h1
    split at ho
    · rename_i u hp
      simp only [Option.some.injEq, Prod.mk.injEq] at ho
      obtain ⟨rfl, rfl⟩ := ho
      subst hv
      exact Op.takeP h1 (fun w => pureVal_run _ hp w) K
    · cases ho
  · cases ho
/-- One that needs no memory, by its run. -/
theorem Op.free {dst : Nat} {op : Go.Op} {v : Value} {b : Bool} (ho : nextDO C i j e = some (some dst, op)) (H : ∀ o : Oper, o.op = op → ∀ w, (execOp e.ev o).run C.P w = .ok (.value v) w)
    (K : Op C ds i r M Ls ((dst, v) :: e) h) : Op C ds i r M ((j, b) :: Ls) e h := by
  obtain ⟨o, h1, h2, h3⟩ := nextDO_spec ho
  exact Op.takeP h1 (v := v) (fun w => H o h3 w) (by rw [h2]; exact K)

/-! ### 3. Strings -/
theorem Op.strIdx {dst : Nat} {T : TypeId} {x ix : Operand} {l : List UInt8} {k : IntKind} {n : Int} {c : UInt8} {b : Bool} (ho : nextDO C i j e = some (some dst, .index T x ix)) (hT : C.P.underlying T = some .string)
    (hx : e.ev x = .string (mkS l)) (hix : e.ev ix = .int k n) (h0 : 0 ≤ n) (hc : l[n.toNat]? = some c)
    (K : Op C ds i r M Ls ((dst, .int .u8 c.toNat) :: e) h) : Op C ds i r M ((j, b) :: Ls) e h := by
  refine Op.free ho (fun o ho w => ?_) K
  simp only [execOp, ho, Instr.index, hx, hix, asIntOf, Sem.run_bind, Sem.run_pure, Result.andThen_ok, run_underlying hT, h0, if_true, get_mkS, hc]
theorem run_bound {w : World} {P : Program} {k : IntKind} {n : Int} {y : Nat} {code : BoundsCode} (h0 : 0 ≤ n) (h1 : n ≤ y) : (Instr.sliceBound (.int k n) y code).run P w = .ok n.toNat w := by
  simp only [Instr.sliceBound, asIntOf, Sem.run_bind, Sem.run_pure, Result.andThen_ok, h0, h1, and_self, if_true]
theorem Op.strLo {dst : Nat} {T : TypeId} {x lo : Operand} {l : List UInt8} {k : IntKind} {n : Int} {b : Bool} (ho : nextDO C i j e = some (some dst, .slice T x (some lo) none none)) (hT : C.P.underlying T = some .string)
    (hx : e.ev x = .string (mkS l)) (hlo : e.ev lo = .int k n) (h0 : 0 ≤ n) (h1 : n ≤ l.length)
    (K : Op C ds i r M Ls ((dst, .string (mkS (l.drop n.toNat))) :: e) h) : Op C ds i r M ((j, b) :: Ls) e h := by
  refine Op.free ho (fun o ho w => ?_) K
  simp only [execOp, ho, Option.map_some, Option.map_none, Instr.sliceAt, Instr.slice, hx, hlo, Sem.run_bind, Sem.run_pure, Result.andThen_ok, run_underlying hT, Instr.sliceBounds, Option.isSome_none, Bool.false_eq_true, if_false, size_mkS, run_bound h0 h1, extract_mkS, List.take_length]
theorem Op.strHi {dst : Nat} {T : TypeId} {x hi : Operand} {l : List UInt8} {k : IntKind} {n : Int} {b : Bool} (ho : nextDO C i j e = some (some dst, .slice T x none (some hi) none)) (hT : C.P.underlying T = some .string)
    (hx : e.ev x = .string (mkS l)) (hhi : e.ev hi = .int k n) (h0 : 0 ≤ n) (h1 : n ≤ l.length)
    (K : Op C ds i r M Ls ((dst, .string (mkS (l.take n.toNat))) :: e) h) : Op C ds i r M ((j, b) :: Ls) e h := by
  refine Op.free ho (fun o ho w => ?_) K
  simp only [execOp, ho, Option.map_some, Option.map_none, Instr.sliceAt, Instr.slice, hx, hhi, Sem.run_bind, Sem.run_pure, Result.andThen_ok, run_underlying hT, Instr.sliceBounds, Option.isSome_none, Bool.false_eq_true, if_false, size_mkS, run_bound h0 h1, extract_mkS, List.drop_zero]
theorem Op.strLoHi {dst : Nat} {T : TypeId} {x lo hi : Operand} {l : List UInt8} {k k' : IntKind} {n m : Int} {b : Bool} (ho : nextDO C i j e = some (some dst, .slice T x (some lo) (some hi) none)) (hT : C.P.underlying T = some .string)
    (hx : e.ev x = .string (mkS l)) (hlo : e.ev lo = .int k n) (hhi : e.ev hi = .int k' m) (h0 : 0 ≤ n) (h1 : n ≤ m) (h2 : m ≤ l.length)
    (K : Op C ds i r M Ls ((dst, .string (mkS ((l.take m.toNat).drop n.toNat))) :: e) h) : Op C ds i r M ((j, b) :: Ls) e h := by
  refine Op.free ho (fun o ho w => ?_) K
  have h3 : 0 ≤ m := by omega
  have h4 : n ≤ (m.toNat : Int) := by omega
  simp only [execOp, ho, Option.map_some, Option.map_none, Instr.sliceAt, Instr.slice, hx, hlo, hhi, Sem.run_bind, Sem.run_pure, Result.andThen_ok, run_underlying hT, Instr.sliceBounds, Option.isSome_none, Bool.false_eq_true, if_false, size_mkS, run_bound h3 h2, run_bound h0 h4, extract_mkS]
theorem Op.strAdd {dst : Nat} {T T' : TypeId} {x y : Operand} {l m : List UInt8} {b : Bool} (ho : nextDO C i j e = some (some dst, .binOp .add T x y T'))
    (hx : e.ev x = .string (mkS l)) (hy : e.ev y = .string (mkS m)) (hl : l.length + m.length ≤ 9223372036854775807)
    (K : Op C ds i r M Ls ((dst, .string (mkS (l ++ m))) :: e) h) : Op C ds i r M ((j, b) :: Ls) e h := by
  refine Op.free ho (fun o ho w => ?_) K
  have h1 : ¬ (((mkS l).size + (mkS m).size : Nat) : Int) > IntKind.i64.max := by rw [size_mkS, size_mkS]; show ¬ _ > (9223372036854775807 : Int); omega
  simp only [execOp, ho, hx, hy, eqGuard, Sem.run_bind, Sem.run_pure]
  simp only [binOp, Op.stringOp, h1, if_false, Sem.run_pure, append_mkS, Bool.not_false, if_true, Result.andThen_ok]

/-! ### 4. Slices -/
theorem Op.idx {dst : Nat} {T E : TypeId} {sz by_ : Nat} {x ix : Operand} {bk o n c : Nat} {k : IntKind} {m : Int} {b : Bool} (ho : nextDO C i j e = some (some dst, .indexAddr T x ix)) (hE : elemI C.P T = some (E, sz, by_))
    (hx : e.ev x = .slice (some ⟨bk, o, none⟩) n c) (hix : e.ev ix = .int k m) (h0 : 0 ≤ m) (h1 : m < n)
    (K : Op C ds i r M Ls ((dst, .pointer (some ⟨bk, o + m.toNat * sz, none⟩)) :: e) h) : Op C ds i r M ((j, b) :: Ls) e h := by
  obtain ⟨inf, z, I⟩ := elemI_spec hE
  refine Op.free ho (fun o' ho w => ?_) K
  have hi := I.info
  simp only [execOp, ho, Instr.indexAt, hx, hix, asIntOf, Sem.run_bind, Sem.run_pure, Result.andThen_ok, run_underlying I.under, h0, h1, and_self, if_true, sizeOf, typeInfo, run_program, hi, I.size, add_flat]
/-- 'x[lo:hi]' of a slice; the address as it comes. -/
def subAddr (ao : Option Addr) (l m sz : Nat) : Option Addr := if m = l then ao else ao.map (·.add (l * sz))
theorem Op.slLo {dst : Nat} {T E : TypeId} {sz by_ : Nat} {x lo : Operand} {ao : Option Addr} {n c : Nat} {k : IntKind} {m : Int} {b : Bool} (ho : nextDO C i j e = some (some dst, .slice T x (some lo) none none)) (hE : elemI C.P T = some (E, sz, by_))
    (hx : e.ev x = .slice ao n c) (hlo : e.ev lo = .int k m) (h0 : 0 ≤ m) (h1 : m ≤ n)
    (K : Op C ds i r M Ls ((dst, .slice (subAddr ao m.toNat c sz) (n - m.toNat) (c - m.toNat)) :: e) h) : Op C ds i r M ((j, b) :: Ls) e h := by
  obtain ⟨inf, z, I⟩ := elemI_spec hE
  refine Op.free ho (fun o' ho w => ?_) K
  have hi := I.info
  simp only [execOp, ho, Option.map_some, Option.map_none, Instr.sliceAt, Instr.slice, hx, hlo, Sem.run_bind, Sem.run_pure, Result.andThen_ok, run_underlying I.under, Instr.sliceBounds, Option.isSome_none, Bool.false_eq_true, if_false, run_bound h0 h1, sizeOf, typeInfo, run_program, hi, I.size, subAddr]
theorem Op.slHi {dst : Nat} {T E : TypeId} {sz by_ : Nat} {x hi : Operand} {ao : Option Addr} {n c : Nat} {k : IntKind} {m : Int} {b : Bool} (ho : nextDO C i j e = some (some dst, .slice T x none (some hi) none)) (hE : elemI C.P T = some (E, sz, by_))
    (hx : e.ev x = .slice ao n c) (hhi : e.ev hi = .int k m) (h0 : 0 ≤ m) (h1 : m ≤ c)
    (K : Op C ds i r M Ls ((dst, .slice (subAddr ao 0 c sz) m.toNat c) :: e) h) : Op C ds i r M ((j, b) :: Ls) e h := by
  obtain ⟨inf, z, I⟩ := elemI_spec hE
  refine Op.free ho (fun o' ho w => ?_) K
  have hi := I.info
  simp only [execOp, ho, Option.map_some, Option.map_none, Instr.sliceAt, Instr.slice, hx, hhi, Sem.run_bind, Sem.run_pure, Result.andThen_ok, run_underlying I.under, Instr.sliceBounds, Option.isSome_none, Bool.false_eq_true, if_false, run_bound h0 h1, sizeOf, typeInfo, run_program, hi, I.size, subAddr, Nat.sub_zero]
theorem Op.slLoHi {dst : Nat} {T E : TypeId} {sz by_ : Nat} {x lo hi : Operand} {ao : Option Addr} {n c : Nat} {k k' : IntKind} {m m' : Int} {b : Bool} (ho : nextDO C i j e = some (some dst, .slice T x (some lo) (some hi) none)) (hE : elemI C.P T = some (E, sz, by_))
    (hx : e.ev x = .slice ao n c) (hlo : e.ev lo = .int k m) (hhi : e.ev hi = .int k' m') (h0 : 0 ≤ m) (h1 : m ≤ m') (h2 : m' ≤ c)
    (K : Op C ds i r M Ls ((dst, .slice (subAddr ao m.toNat c sz) (m'.toNat - m.toNat) (c - m.toNat)) :: e) h) : Op C ds i r M ((j, b) :: Ls) e h := by
  obtain ⟨inf, z, I⟩ := elemI_spec hE
  refine Op.free ho (fun o' ho w => ?_) K
  have hi := I.info
  have h3 : 0 ≤ m' := by omega
  have h4 : m ≤ (m'.toNat : Int) := by omega
  simp only [execOp, ho, Option.map_some, Option.map_none, Instr.sliceAt, Instr.slice, hx, hlo, hhi, Sem.run_bind, Sem.run_pure, Result.andThen_ok, run_underlying I.under, Instr.sliceBounds, Option.isSome_none, Bool.false_eq_true, if_false, run_bound h3 h2, run_bound h0 h4, sizeOf, typeInfo, run_program, hi, I.size, subAddr]

/-! ### 5. Literals and zero values -/
def zerosN (z : Array Value) (n : Nat) : Array Value := (Array.range n).map (z[· % z.size]!)
def litCells (P : Program) (T : TypeId) (len : Nat) (parts : List (Nat × Value)) : Option (TypeId × Array Value) :=
  match P.underlying T with
  | some (.slice E) => match P.info? E with
    | some i => match i.zero with
      | some z => if Nat.ble (len * i.size) 1000 then (Instr.fill (fun k => some (k * i.size, i.size)) (if len * i.size = 0 then #[] else zerosN z.cells (len * i.size)) parts).map fun c => (E, c) else none
      | none => none
    | none => none
  | _ => none
theorem Op.lit {dst : Nat} {T E : TypeId} {len : Nat} {parts : Array (Nat × Operand)} {cs : Array Value} (ho : nextDO C i j e = some (some dst, .buildSlice T len parts))
    {ps : List (Nat × Value)} (hps : (parts.map fun (k, x) => (k, e.ev x)).toList = ps) (hc : litCells C.P T len ps = some (E, cs)) (s : St h0 g0 S0 g L h)
    (K : ∀ b h', St h0 g0 S0 g ([(b, .cells cs E (0, 0))] :: L) h' → Op C ds i r M Ls ((dst, .slice (some ⟨b, 0, none⟩) len len) :: e) h') : Op C ds i r M ((j, false) :: Ls) e h := by
  obtain ⟨o, h1, h2, h3⟩ := nextDO_spec ho
  refine Op.run h1 (R := fun nx h' => nx = .value (.slice (some ⟨h.size, 0, none⟩) len len) ∧ h' = h.push (.cells cs E (0, 0))) ?_ ?_
  · intro w is
    refine ⟨.value (.slice (some ⟨h.size, 0, none⟩) len len), { w with heap := w.heap.push (.cells cs E (0, 0)) }, ?_, ⟨rfl, is.os, is.tape, is.output⟩, rfl, by rw [← is.heap]⟩
    unfold litCells at hc
    split at hc
    · rename_i E' hu
      split at hc
      · rename_i inf hi
        split at hc
        · rename_i z hz
          split at hc
          · rename_i hle
            obtain ⟨cs', hf, he⟩ := Option.map_eq_some_iff.1 hc
            simp only [Prod.mk.injEq] at he
            obtain ⟨rfl, rfl⟩ := he
            have hle : ¬ len * inf.size > 2 ^ 24 := by have := Nat.le_of_ble_eq_true hle; omega
            have hps' : List.map (fun x => (x.fst, e.ev x.snd)) parts.toList = ps := by rw [← hps]; simp
            unfold semOf execOp
            by_cases h0 : len * inf.size = 0
            · simp only [h0, if_true] at hf
              have he0 : (Array.range 0).map (fun _ => (default : Value)) = #[] := by simp
              simp [h3, Instr.buildSlice, run_underlying hu, sizeOf, typeInfo, hi, h0, hps', he0, hf, newRow, is.heap]
            · simp only [h0, if_false] at hf
              unfold zerosN at hf
              simp only [gt_iff_lt] at hle
              simp [h3, Instr.buildSlice, run_underlying hu, sizeOf, typeInfo, hi, hle, h0, hz, zeroValue, hps', hf, newRow, is.heap]
          · cases hc
        · cases hc
      · cases hc
    · cases hc
  · rintro _ _ ⟨rfl, rfl⟩
    refine ⟨_, rfl, Keep.push _, ?_⟩
    rw [h2]
    exact K _ _ (s.alloc _)
theorem Src.lit {P : Program} {h : Heap} {b sz m : Nat} {cs : Array Value} {U : TypeId} {fz : Nat × Nat} (hb : h[b]? = some (.cells cs U fz)) {news : List Value} (hn : cs.toList = news) (hm : news.length = m * sz) (h1 : ∀ v ∈ news, v.oneCell' = true) (c : Nat) :
    Src P h sz (.slice (some ⟨b, 0, none⟩) m c) m news := by
  refine ⟨fun _ _ => rfl, fun w hw k hk => ?_, hm, h1⟩
  have hl : (news.take (k * sz)).length = k * sz := by rw [List.length_take, hm, Nat.min_eq_left (Nat.mul_le_mul_right _ hk)]
  have := run_loadCells (P := P) (w := w) ⟨b, 0, none⟩ (news.take (k * sz)) 0 #[] (fun j v hj => by
    rw [Nat.zero_add, add_flat, cell_of hw, hcell_row hb, Nat.zero_add]
    subst hn
    rw [List.getElem?_take] at hj
    split at hj
    · simpa using hj
    · cases hj)
  rw [hl] at this
  simpa [Builtin.firstCells, loadCells] using this
/-- 'new(T)', 'var x T' that lies in memory. -/
theorem Op.alloc {dst : Nat} {T : TypeId} {cs : Array Value} (ho : nextDO C i j e = some (some dst, .alloc T)) (hz : (C.P.info? T).bind (fun t => t.zero.map Value.cells) = some cs) (s : St h0 g0 S0 g L h)
    (K : ∀ b h', St h0 g0 S0 g ([(b, .cells cs T (0, 0))] :: L) h' → Op C ds i r M Ls ((dst, .pointer (some ⟨b, 0, none⟩)) :: e) h') : Op C ds i r M ((j, false) :: Ls) e h := by
  obtain ⟨o, h1, h2, h3⟩ := nextDO_spec ho
  obtain ⟨inf, hi, hz⟩ := Option.bind_eq_some_iff.1 hz
  obtain ⟨z, hz2, rfl⟩ := Option.map_eq_some_iff.1 hz
  refine Op.run h1 (R := fun nx h' => nx = .value (.pointer (some ⟨h.size, 0, none⟩)) ∧ h' = h.push (.cells z.cells T (0, 0))) ?_ ?_
  · intro w is
    refine ⟨.value (.pointer (some ⟨h.size, 0, none⟩)), { w with heap := w.heap.push (.cells z.cells T (0, 0)) }, ?_, ⟨rfl, is.os, is.tape, is.output⟩, rfl, by rw [← is.heap]⟩
    unfold semOf execOp
    have hz' : (zeroValue T).run C.P w = .ok z w := by
      simp only [zeroValue, typeInfo, Sem.run_bind, run_program, Result.andThen_ok, hi, Sem.run_pure]
      rw [hz2]
      rfl
    simp only [h3, Instr.alloc, Sem.run_bind, hz', newVar, newRow, run_newObj, Result.andThen_ok, Sem.run_pure, is.heap]
  · rintro _ _ ⟨rfl, rfl⟩
    refine ⟨_, rfl, Keep.push _, ?_⟩
    rw [h2]
    exact K _ _ (s.alloc _)

/-! ### 6. Stores -/
def splice (cs : Array Value) (o : Nat) (vs : List Value) : Array Value := (cs.toList.take o ++ vs ++ cs.toList.drop (o + vs.length)).toArray
theorem Op.store {T : TypeId} {x y : Operand} {b o n : Nat} {a? : Bool} {vs : List Value} (ho : nextDO C i j e = some (none, .store T x y)) (hx : e.ev x = .pointer (some ⟨b, o, none⟩)) (hy : (e.ev y).cells.toList = vs)
    (hT : shapeT C.P T = some (a?, n)) (hn : vs.length = n) (h1 : ∀ v ∈ vs, v.oneCell' = true) {cs cs' : Array Value} {U : TypeId} (s : St h0 g0 S0 g L h) (k : Nat) (hk : L[k]? = some [(b, .cells cs U (0, 0))])
    (hfit : o + n ≤ cs.size) (hcs : splice cs o vs = cs') (hM : b < r.size → M b)
    (K : ∀ h', St h0 g0 S0 g (L.set k [(b, .cells cs' U (0, 0))]) h' → Op C ds i r M Ls e h') : Op C ds i r M ((j, false) :: Ls) e h := by
  obtain ⟨o', hh1, h2, h3⟩ := nextDO_spec ho
  subst hcs
  have hsz : ∃ inf, C.P.info? T = some inf ∧ inf.size = n := by
    unfold shapeT at hT
    split at hT
    · rename_i d inf hd hi
      simp only [Option.some.injEq, Prod.mk.injEq] at hT
      exact ⟨inf, hi, hT.2⟩
    · cases hT
  obtain ⟨inf, hi, hs⟩ := hsz
  refine Op.skip hh1 (R := fun nx h' => nx = .skip ∧ Upd h b (.cells (splice cs o vs) U (0, 0)) h') ?_ ?_
  · intro w is
    have hb : w.heap[b]? = some (.cells cs U (0, 0)) := by rw [is.heap]; exact s.chunk k hk
    have hst := run_storeCells_at C.P b o U vs 0 cs w hb (by omega) h1
    simp only [Nat.add_zero] at hst
    refine ⟨_, w.setRow b (splice cs o vs), ?_, ⟨rfl, is.os, is.tape, is.output⟩, rfl, ?_⟩
    · have hc : (e.ev y).cells.size = n := by rw [← hn, ← hy, Array.length_toList]
      unfold semOf execOp
      simp only [h3, hx, Instr.storeAt, Instr.sureAddr, storeVar, sizeOf, typeInfo, Sem.run_bind, Sem.run_pure, Result.andThen_ok, run_program, hi, hs, hc, ne_eq, not_true_eq_false, if_false, hy, hst]
      rfl
    · have := Upd.row (cs := splice cs o vs) hb
      rwa [is.heap] at this
  · rintro _ h' ⟨rfl, u⟩
    refine ⟨rfl, u.keep hM, ?_⟩
    rw [h2]
    exact K h' (s.updAt k hk u)
end
end Go.Proofs.YtphonojjgnbpfaaDoor.Sw
