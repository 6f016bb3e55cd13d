/- The symbolic walk, part 2: environments, places in the code, calls by contract. Own text. -/
import Derived.Test.YtphonojjgnbpfaaDoorSwCore
import Derived.RangeFuncLeaves
namespace Go.Proofs.YtphonojjgnbpfaaDoor.Sw
set_option linter.unusedVariables false
set_option linter.unusedSimpArgs false
set_option linter.deprecated false
open Go

abbrev Heap := Array Obj

/-! ### 1. Worlds by their heaps -/
structure Is (B : World) (h : Heap) (w : World) : Prop where
  heap : w.heap = h
  os : w.os = B.os
  tape : w.tape = B.tape
  output : w.output = B.output
theorem Is.self (w : World) : Is w w.heap w := ⟨rfl, rfl, rfl, rfl⟩
theorem Is.again {B : World} {h : Heap} {w : World} (i : Is B h w) : Is B w.heap w := ⟨rfl, i.os, i.tape, i.output⟩
theorem Is.draw {B : World} {h : Heap} {w : World} (i : Is B h w) : Is B h { w with drawn := w.drawn + 1 } := ⟨i.heap, i.os, i.tape, i.output⟩

/-- A call, told of heaps alone. -/
def HCalls (P : Program) (B : World) (f : FuncId) (args : Array Value) (h : Heap) (R : Value → Heap → Prop) : Prop :=
  ∀ w, Is B h w → Calls P f args w fun e w' => ∃ v, e = .returned v ∧ Is B w'.heap w' ∧ R v w'.heap
theorem HCalls.mono {P : Program} {B : World} {f : FuncId} {args : Array Value} {h : Heap} {R R' : Value → Heap → Prop}
    (H : HCalls P B f args h R) (hr : ∀ v h', R v h' → R' v h') : HCalls P B f args h R' :=
  fun w i => (H w i).mono fun _ _ ⟨v, he, i', r⟩ => ⟨v, he, i', hr _ _ r⟩
/-- A computation, told of heaps alone. -/
def HRun (P : Program) (B : World) {α : Type} (s : Sem α) (h : Heap) (R : α → Heap → Prop) : Prop :=
  ∀ w, Is B h w → ∃ x w', s.run P w = .ok x w' ∧ Is B w'.heap w' ∧ R x w'.heap
theorem HRun.mono {P : Program} {B : World} {α : Type} {s : Sem α} {h : Heap} {R R' : α → Heap → Prop} (H : HRun P B s h R) (hr : ∀ x h', R x h' → R' x h') : HRun P B s h R' :=
  fun w i => let ⟨x, w', e, i', r⟩ := H w i; ⟨x, w', e, i', hr _ _ r⟩
theorem HRun.pure {P : Program} {B : World} {α : Type} {h : Heap} {R : α → Heap → Prop} {x : α} (r : R x h) : HRun P B (Pure.pure x : Sem α) h R :=
  fun w i => ⟨x, w, rfl, i.again, by rw [i.heap]; exact r⟩
theorem HRun.bind {P : Program} {B : World} {α β : Type} {s : Sem α} {f : α → Sem β} {h : Heap} {R : β → Heap → Prop}
    (H : HRun P B s h fun x h' => HRun P B (f x) h' R) : HRun P B (s >>= f) h R := by
  intro w i
  obtain ⟨x, w', e, i', r⟩ := H w i
  obtain ⟨y, w'', e', i'', r'⟩ := r w' i'
  exact ⟨y, w'', by rw [Sem.run_bind, e]; exact e', i'', r'⟩

/-! ### 2. Environments -/
abbrev Env := List (Nat × Value)
theorem beqF {a b : Nat} (h : a ≠ b) : Nat.beq a b = false := by
  cases hb : Nat.beq a b with
  | false => rfl
  | true => exact absurd (Nat.eq_of_beq_eq_true hb) h
namespace Env
def get : Env → Nat → Option Value
  | [], _ => none
  | (k, v) :: e, t => bif Nat.beq k t then some v else get e t
def ev (e : Env) : Operand → Value
  | .tmp t => (get e t).getD undef
  | .const v => v
  | .global g => .pointer (some ⟨g, 0, none⟩)
  | .func f => .func (.func f) #[] #[]
def covers (e : Env) : Operand → Bool
  | .tmp t => (get e t).isSome
  | _ => true
def keep (ks : List Nat) (e : Env) : Env := ks.filterMap fun t => (get e t).map fun v => (t, v)
def putO (e : Env) (d : Option Tmp) (v : Value) : Env := match d with
  | some t => (t, v) :: e
  | none => e
theorem get_keep (ks : List Nat) (e : Env) (t : Nat) (v : Value) (h : get (keep ks e) t = some v) : get e t = some v := by
  induction ks with
  | nil => simp [keep, get] at h
  | cons k ks ih =>
    unfold keep at h
    rw [List.filterMap_cons] at h
    cases hk : get e k with
    | none => rw [hk] at h; exact ih h
    | some u =>
      rw [hk] at h
      simp only [Option.map_some, get] at h
      by_cases hkt : k = t
      · subst hkt; simp at h; rw [← h]; exact hk
      · have : Nat.beq k t = false := beqF hkt
        rw [this] at h; exact ih h
end Env

structure Fits (e : Env) (n : Nat) (ds : List Deferred) (a : Act) : Prop where
  defers : a.defers = ds
  size : a.tmps.size = n
  get : ∀ t v, e.get t = some v → a.tmps[t]? = some v
theorem Fits.eval {e : Env} {n : Nat} {ds : List Deferred} {a : Act} (f : Fits e n ds a) {x : Operand} (h : e.covers x = true) : a.eval x = e.ev x := by
  cases x with
  | tmp t =>
    simp only [Env.covers, Option.isSome_iff_exists] at h
    obtain ⟨v, hv⟩ := h
    have := f.get t v hv
    simp [Act.eval, Env.ev, hv, this]
  | _ => rfl
theorem Fits.put {e : Env} {n : Nat} {ds : List Deferred} {a : Act} (f : Fits e n ds a) {d : Nat} (hd : d < n) (v : Value) : Fits ((d, v) :: e) n ds (a.put (some d) v) := by
  refine ⟨f.defers, by simp [Act.put, f.size], fun t u h => ?_⟩
  by_cases hdt : d = t
  · subst hdt
    simp [Env.get] at h
    subst h
    simp [Act.put, f.size, hd]
  · have hb : Nat.beq d t = false := beqF hdt
    simp only [Env.get, hb, cond_false] at h
    simp only [Act.put, Array.getElem?_setIfInBounds_ne hdt]
    exact f.get t u h
theorem Fits.putO {e : Env} {n : Nat} {ds : List Deferred} {a : Act} (f : Fits e n ds a) {d : Option Tmp} (hd : ∀ t, d = some t → t < n) (v : Value) : Fits (e.putO d v) n ds (a.put d v) := by
  cases d with
  | none => exact f
  | some t => exact f.put (hd t rfl) v
theorem Fits.keep {e : Env} {n : Nat} {ds : List Deferred} {a : Act} (f : Fits e n ds a) (ks : List Nat) : Fits (e.keep ks) n ds a :=
  ⟨f.defers, f.size, fun t v h => f.get t v (Env.get_keep ks e t v h)⟩

/-! ### 3. What is reckoned without any memory -/
def pureVal (P : Program) {α : Type} : Sem α → Option α
  | .pure a => some a
  | .program k => pureVal P (k P)
  | .mark _ k => pureVal P k
  | _ => none
theorem pureVal_run {P : Program} {α : Type} (s : Sem α) {x : α} (h : pureVal P s = some x) (w : World) : s.run P w = .ok x w := by
  induction s with
  | pure a => simp only [pureVal, Option.some.injEq] at h; subst h; rfl
  | program k ih => exact ih P h
  | mark m k ih => exact ih h
  | _ => simp [pureVal] at h

/-- Is the guard of an operation met? 'none': it isn't known. -/
def wantedE (ops : Array Oper) (e : Env) (o : Oper) : Option Bool :=
  match o.guard with
  | none => some true
  | some (g, want) => match (ops[g]?).bind (·.dst) with
    | some t => match e.get t with
      | some (.bool b) => some (b == want)
      | some (.tuple _) => some false
      | _ => none
    | none => none
theorem wantedE_spec {ops : Array Oper} {e : Env} {o : Oper} {b : Bool} {n : Nat} {ds : List Deferred} {a : Act} (f : Fits e n ds a) (h : wantedE ops e o = some b) :
    Region.wanted o (yielded ops a.tmps) = b := by
  unfold wantedE at h
  unfold Region.wanted
  split at h
  · rename_i hg; simp only [hg]; simpa using h
  · rename_i g want hg
    simp only [hg]
    split at h
    · rename_i t ht
      split at h
      · rename_i c hc
        have h1 := f.get t _ hc
        have h2 : yielded ops a.tmps g = some c := by simp [yielded, ht, h1]
        rw [h2]
        simp only [Option.some.injEq] at h
        rw [← h]
        cases c <;> cases want <;> rfl
      · rename_i c hc
        have h1 := f.get t _ hc
        have h2 : yielded ops a.tmps g = none := by simp [yielded, ht, h1]
        rw [h2]
        simp only [Option.some.injEq] at h
        rw [← h]
        rfl
      · cases h
    · cases h

def dstOk (n : Nat) (o : Oper) : Bool := match o.dst with
  | some d => Nat.blt d n
  | none => true
theorem dstOk_spec {n : Nat} {o : Oper} (h : dstOk n o = true) (t : Nat) (ht : o.dst = some t) : t < n := by
  unfold dstOk at h
  rw [ht] at h
  exact Nat.le_of_ble_eq_true h
/-- What an operation comes to, its operands known. -/
def semOf (e : Env) (o : Oper) : Sem Next := execOp e.ev o
def opCovers (e : Env) (o : Oper) : Bool := o.op.operands.all e.covers
theorem execOp_fits {e : Env} {n : Nat} {ds : List Deferred} {a : Act} (f : Fits e n ds a) {o : Oper} (hd : noDefer o = true) (hc : opCovers e o = true) :
    execOp a.eval o = semOf e o :=
  execOp_congr o (noDefer_spec hd).2 fun x hx => f.eval (by
    have := Array.all_eq_true_iff_forall_mem.1 hc x hx
    exact this)

/-! ### 4. Places in the code -/
def pts : Code → List Item → List (List Item)
  | .seq a b, k => pts a (.code b :: k) ++ pts b k
  | .block id c, k => pts c (.inBlock id :: k)
  | .loop c, k => pts c (.inLoop c :: k)
  | .cond c x y, k => (.code (.cond c x y) :: k) :: (pts x k ++ pts y k)
  | .region id ops d, k => [.code (.region id ops d) :: k]
  | .ret, k => [.code .ret :: k]
  | .rangeFunc f ps as body, k => [.code (.rangeFunc f ps as body) :: k]
  | .exit id, k => match exitTo id k with
    | some _ => []
    | none => [.code (.exit id) :: k]
  | _, _ => []
def pt (c : Code) (i : Nat) : List Item := (pts c []).getD i []
def regOps : List Item → Array Oper
  | .code (.region _ ops _) :: _ => ops
  | _ => #[]
def plainL : List Item → Option (List (Nat × Bool))
  | .code (.region _ ops false) :: _ => if Nat.ble ops.size 1000 = true then some ((List.range ops.size).map fun i => (i, false)) else none
  | _ => none
def drawOps : List Item → Option (Array Oper)
  | .code (.region _ ops true) :: _ => some ops
  | _ => none
def condOp : List Item → Option Operand
  | .code (.cond c _ _) :: _ => some c
  | _ => none
def condT : List Item → List Item
  | .code (.cond _ x _) :: k => .code x :: k
  | k => k
def condF : List Item → List Item
  | .code (.cond _ _ y) :: k => .code y :: k
  | k => k
def isEnd : List Item → Bool
  | [] => true
  | .code .ret :: _ => true
  | _ => false
def codeOf (f : Func) : Code := f.body.getD .skip

/-- What a walk is about: the program, what the world has beside the heap, the code, the frame's slots, whether it is a round, and what is to be shown where the code is left. -/
structure Ctx where
  P : Program
  B : World
  fn : FuncId
  n : Nat
  code : Code
  ro : Option Nat
  Q : Option Code → Act → World → Prop

def At (C : Ctx) (ds : List Deferred) (i : Nat) (e : Env) (h : Heap) : Prop :=
  ∀ a w, Fits e C.n ds a → Is C.B h w → RunK C.P C.ro C.fn C.Q (pt C.code i) a w

/-- The heap 'h' is as 'r' was, but for blocks of M and new ones. -/
structure Keep (r : Heap) (M : Nat → Prop) (h : Heap) : Prop where
  size : r.size ≤ h.size
  same : ∀ b, b < r.size → ¬ M b → h[b]? = r[b]?
theorem Keep.refl (r : Heap) (M : Nat → Prop) : Keep r M r := ⟨Nat.le_refl _, fun _ _ _ => rfl⟩
theorem Keep.any (h : Heap) : Keep #[] (fun _ => True) h := ⟨Nat.zero_le _, fun _ hb => absurd hb (Nat.not_lt_zero _)⟩
theorem Keep.trans {r : Heap} {M N : Nat → Prop} {h k : Heap} (H : Keep r M h) (K : Keep h N k) (hn : ∀ b, b < r.size → N b → M b) : Keep r M k :=
  ⟨Nat.le_trans H.size K.size, fun b hb hm => (K.same b (Nat.lt_of_lt_of_le hb H.size) fun hb' => hm (hn b hb hb')).trans (H.same b hb hm)⟩

def holds (C : Ctx) (r : Heap) (M : Nat → Prop) (w : World) : Prop := Keep r M w.heap ∧ Is C.B w.heap w

def Op (C : Ctx) (ds : List Deferred) (i : Nat) (r : Heap) (M : Nat → Prop) (L : List (Nat × Bool)) (e : Env) (h : Heap) : Prop :=
  ∀ a w, Fits e C.n ds a → Is C.B h w → Keep r M h →
    seqS C.P (regOps (pt C.code i)) (holds C #[] fun _ => True) (holds C r M) L (fun a w => RunK C.P C.ro C.fn C.Q (pt C.code i).tail a w) a w

section
variable {C : Ctx} {ds : List Deferred} {i : Nat} {r : Heap} {M : Nat → Prop} {L : List (Nat × Bool)} {e : Env} {h : Heap}

theorem At.reg (hL : plainL (pt C.code i) = some L) (H : Op C ds i #[] (fun _ => True) L e h) : At C ds i e h := by
  intro a w f is
  have H := H a w f is (Keep.any _)
  generalize pt C.code i = k at *
  unfold plainL at hL
  split at hL
  · rename_i id ops k'
    split at hL
    · rename_i hsz
      simp only [Option.some.injEq] at hL
      subst hL
      have hsz := Nat.le_of_ble_eq_true hsz
      have := seq_plain _ _ _ _ (fun p hp => by
        obtain ⟨q, hq, rfl⟩ := List.mem_map.1 hp
        have := List.mem_range.1 hq
        exact Bool.eq_false_iff.2 fun hc => by have := Nat.le_of_ble_eq_true hc; omega) (fun _ _ => trivial) H
      rw [List.map_map] at this
      simp only [regOps, List.tail] at this
      have e : List.map ((fun x : Nat × Bool => x.1) ∘ fun i => (i, false)) (List.range ops.size) = List.range ops.size := by
        rw [show ((fun x : Nat × Bool => x.1) ∘ fun i : Nat => (i, false)) = _root_.id from rfl, List.map_id]
      rw [e] at this
      exact RunK.region this
    · cases hL
  · cases hL
def drawOk (k : List Item) (L : List (Nat × Bool)) : Bool := match drawOps k with
  | some ops => Nat.ble (reals L) ops.size && (seqOk ops (barOf L) false L (Array.replicate ops.size false) && (Nat.blt (barOf L) 1000000 || Nat.ble ops.size 1000000))
  | none => false
theorem At.draw (hm : C.P.follows .mixedOrders = true) (M : Nat → Prop) (L : List (Nat × Bool)) (hL : drawOk (pt C.code i) L = true) (H : Op C ds i h M L e h) : At C ds i e h := by
  intro a w f is
  have H := H a { w with drawn := w.drawn + 1 } f is.draw (Keep.refl _ _)
  generalize pt C.code i = k at *
  unfold drawOk at hL
  split at hL
  · rename_i ops hd
    unfold drawOps at hd
    split at hd
    · rename_i id ops' k'
      simp only [Option.some.injEq] at hd
      subst hd
      simp only [Bool.and_eq_true] at hL
      have h1 := Nat.le_of_ble_eq_true hL.1
      refine RunK.draw hm fun t => any_sound (kb := barOf L) (S := holds C h M) _ _ _ _ _ (any_of_seq L _ _ false _ _ _ _ _ h1 ?_ hL.2.1 (fun _ => ⟨rfl, ?_⟩) (fun hz => by cases hz) H)
      · intro k o ho hk
        have hlt : k < ops'.size := (Array.getElem?_eq_some_iff.1 ho).1
        simp [hlt] at hk
      · simp only [Array.getD_eq_getD_getElem?, Array.getElem?_replicate]; split <;> rfl
    · cases hd
  · cases hL
theorem Op.phase {k : Nat} (hk : Nat.ble 2000 k = true) (H : Op C ds i h M L e h) : Op C ds i r (fun _ => True) ((k, false) :: L) e h := by
  intro a w f is _
  have := H a w f is (Keep.refl _ _)
  have hk2 : Nat.ble 1000 k = true := Nat.ble_eq_true_of_le (Nat.le_trans (by decide) (Nat.le_of_ble_eq_true hk))
  simp only [seqS, hk, hk2, if_true]
  exact ⟨_, this⟩
theorem Op.barrier {k : Nat} (hk : (Nat.ble 1000 k && !(Nat.ble 2000 k)) = true) (H : Op C ds i #[] (fun _ => True) L e h) : Op C ds i r M ((k, false) :: L) e h := by
  intro a w f is _
  have := H a w f is (Keep.any _)
  simp only [Bool.and_eq_true, Bool.not_eq_true'] at hk
  simp only [seqS, hk.1, hk.2, if_true, Bool.false_eq_true, if_false]
  exact this
theorem Op.goto (j : Nat) (hj : norm 1000 (pt C.code i).tail = pt C.code j) (H : At C ds j e h) : Op C ds i r M [] e h := by
  intro a w f is _
  exact .norm 1000 (by rw [hj]; exact H a w f is)
/-- From one place to the next, which isn't one behind a region. -/
theorem At.cond {b : Bool} {c : Operand} (hc : condOp (pt C.code i) = some c) (hv : e.covers c = true) (hb : e.ev c = .bool b) (jt jf : Nat)
    (h1 : norm 1000 (condT (pt C.code i)) = pt C.code jt) (h2 : norm 1000 (condF (pt C.code i)) = pt C.code jf)
    (ht : b = true → At C ds jt e h) (hf : b = false → At C ds jf e h) : At C ds i e h := by
  intro a w f is
  generalize pt C.code i = k at *
  unfold condOp at hc
  split at hc
  · rename_i c' x y k'
    simp only [Option.some.injEq] at hc
    subst hc
    refine RunK.cond (t := b) (by rw [f.eval hv, hb]) ?_
    cases b with
    | true => exact .norm 1000 (by simp only [condT] at h1; simp only [if_true]; rw [h1]; exact ht rfl a w f is)
    | false => exact .norm 1000 (by simp only [condF] at h2; simp only [Bool.false_eq_true, if_false]; rw [h2]; exact hf rfl a w f is)
  · cases hc
theorem At.condT {c : Operand} (hc : condOp (pt C.code i) = some c) (hv : e.covers c = true) (hb : e.ev c = .bool true) (jt : Nat)
    (h1 : norm 1000 (Sw.condT (pt C.code i)) = pt C.code jt) (ht : At C ds jt e h) : At C ds i e h := by
  intro a w f is
  generalize pt C.code i = k at *
  unfold condOp at hc
  split at hc
  · rename_i c' x y k'
    simp only [Option.some.injEq] at hc
    subst hc
    refine RunK.cond (t := true) (by rw [f.eval hv, hb]) ?_
    exact .norm 1000 (by simp only [Sw.condT] at h1; simp only [if_true]; rw [h1]; exact ht a w f is)
  · cases hc
theorem At.condF {c : Operand} (hc : condOp (pt C.code i) = some c) (hv : e.covers c = true) (hb : e.ev c = .bool false) (jf : Nat)
    (h1 : norm 1000 (Sw.condF (pt C.code i)) = pt C.code jf) (ht : At C ds jf e h) : At C ds i e h := by
  intro a w f is
  generalize pt C.code i = k at *
  unfold condOp at hc
  split at hc
  · rename_i c' x y k'
    simp only [Option.some.injEq] at hc
    subst hc
    refine RunK.cond (t := false) (by rw [f.eval hv, hb]) ?_
    exact .norm 1000 (by simp only [Sw.condF] at h1; simp only [Bool.false_eq_true, if_false]; rw [h1]; exact ht a w f is)
  · cases hc
theorem At.keep (ks : List Nat) (H : At C ds i (e.keep ks) h) : At C ds i e h := fun a w f is => H a w (f.keep ks) is
theorem Op.keep (ks : List Nat) (H : Op C ds i r M L (e.keep ks) h) : Op C ds i r M L e h := fun a w f is hk => H a w (f.keep ks) is hk

/-- The operation that comes next, if its guard is met, its operands are known, and it isn't a defer. -/
def nextOp (C : Ctx) (i j : Nat) (e : Env) : Option Oper :=
  match (regOps (pt C.code i))[j]? with
  | some o => if noDefer o && opCovers e o && dstOk C.n o && !(Nat.ble 1000 j) then
      match wantedE (regOps (pt C.code i)) e o with
      | some true => some o
      | _ => none
    else none
  | none => none
theorem nextOp_spec {j : Nat} {o : Oper} (h : nextOp C i j e = some o) : (regOps (pt C.code i))[j]? = some o ∧ noDefer o = true ∧ opCovers e o = true ∧ (∀ t, o.dst = some t → t < C.n) ∧
    wantedE (regOps (pt C.code i)) e o = some true ∧ Nat.ble 1000 j = false := by
  unfold nextOp at h
  split at h
  · rename_i o' ho
    split at h
    · rename_i hc
      simp only [Bool.and_eq_true] at hc
      split at h
      · rename_i hw
        simp only [Option.some.injEq] at h
        subst h
        exact ⟨ho, hc.1.1.1, hc.1.1.2, dstOk_spec hc.1.2, hw, by simpa using hc.2⟩
      · cases h
    · cases h
  · cases h

/-- An operation that is carried out in its turn. -/
theorem Op.act {j : Nat} {o : Oper} (ho : nextOp C i j e = some o)
    (H : ∀ w, Is C.B h w → Keep r M h → ∀ a, Fits e C.n ds a → Sw.Oper.res C.P o a (fun a' w' => holds C r M w' ∧ ∃ e', Fits e' C.n ds a' ∧ Op C ds i r M L e' w'.heap) ((semOf e o).run C.P w)) :
    Op C ds i r M ((j, false) :: L) e h := by
  intro a w f is hk
  obtain ⟨h1, h2, h3, h4, h5, h6⟩ := nextOp_spec ho
  refine seqS_turn h6 ⟨o, h1, h2, ?_⟩
  rw [wantedE_spec f h5, if_pos rfl, execOp_fits f h2 h3]
  exact res_mono (fun a' w' ⟨hh, e', f', H'⟩ => ⟨hh, H' a' w' f' hh.2 hh.1⟩) (H w is hk a f)
/-- A computation that ends in a value, in its turn. -/
theorem Op.run {j : Nat} {o : Oper} (ho : nextOp C i j e = some o) {R : Next → Heap → Prop} (H : HRun C.P C.B (semOf e o) h R)
    (K : ∀ x h', R x h' → ∃ v, x = .value v ∧ (Keep r M h → Keep r M h') ∧ Op C ds i r M L (e.putO o.dst v) h') : Op C ds i r M ((j, false) :: L) e h := by
  refine Op.act ho fun w is hk a f => ?_
  obtain ⟨x, w', hrun, is', hr⟩ := H w is
  obtain ⟨v, rfl, hk', H'⟩ := K x _ hr
  rw [hrun]
  exact ⟨⟨hk' hk, is'⟩, _, f.putO (nextOp_spec ho).2.2.2.1 v, H'⟩
theorem Op.skip {j : Nat} {o : Oper} (ho : nextOp C i j e = some o) {R : Next → Heap → Prop} (H : HRun C.P C.B (semOf e o) h R)
    (K : ∀ x h', R x h' → x = .skip ∧ (Keep r M h → Keep r M h') ∧ Op C ds i r M L (e.putO o.dst undef) h') : Op C ds i r M ((j, false) :: L) e h := by
  refine Op.act ho fun w is hk a f => ?_
  obtain ⟨x, w', hrun, is', hr⟩ := H w is
  obtain ⟨rfl, hk', H'⟩ := K x _ hr
  rw [hrun]
  exact ⟨⟨hk' hk, is'⟩, _, f.putO (nextOp_spec ho).2.2.2.1 undef, H'⟩
/-- A call of a Go function by its contract. -/
theorem Op.enter {j : Nat} {o : Oper} (ho : nextOp C i j e = some o) {f : FuncId} {args : Array Value} (hp : pureVal C.P (semOf e o) = some (.enter f args))
    {R : Value → Heap → Prop} (H : HCalls C.P C.B f args h R)
    (K : ∀ v h', R v h' → (Keep r M h → Keep r M h') ∧ Op C ds i r M L (e.putO o.dst v) h') : Op C ds i r M ((j, false) :: L) e h := by
  refine Op.act ho fun w is hk a ft => ?_
  rw [pureVal_run _ hp w]
  refine Calls.mono (H w is) fun en w' ⟨v, he, is', hr⟩ => ?_
  obtain ⟨hk', H'⟩ := K v _ hr
  exact ⟨v, he, ⟨hk' hk, is'⟩, _, ft.putO (nextOp_spec ho).2.2.2.1 v, H'⟩
/-- An operation that reads: taken first, or in its turn. -/
theorem Op.take {j : Nat} {o : Oper} {b : Bool} (ho : nextOp C i j e = some o) {v : Value} (hn : b = true → needs o = true)
    (H : ∀ w, Is C.B w.heap w → Keep r M w.heap → (b = false → w.heap = h) → (semOf e o).run C.P w = .ok (.value v) w)
    (K : Op C ds i r M L (e.putO o.dst v) h) : Op C ds i r M ((j, b) :: L) e h := by
  intro a w f is hk
  obtain ⟨h1, h2, h3, h4, h5, h6⟩ := nextOp_spec ho
  have hkw : Keep r M w.heap := by rw [is.heap]; exact hk
  cases b with
  | false =>
    refine seqS_turn h6 ⟨o, h1, h2, ?_⟩
    rw [wantedE_spec f h5, if_pos rfl, execOp_fits f h2 h3, H w is.again hkw fun _ => is.heap]
    exact ⟨⟨hkw, is.again⟩, K _ _ (f.putO h4 v) is hk⟩
  | true =>
    refine ⟨o, v, h1, h2, ?_, ⟨hkw, is.again⟩, K _ _ (f.putO h4 v) is hk⟩
    rw [if_pos (hn rfl)]
    refine .inl ⟨wantedE_spec f h5, fun w' ⟨k', is'⟩ => ?_⟩
    rw [execOp_fits f h2 h3]
    exact H w' is' k' (by simp)
/-- One that hangs on no world. -/
theorem Op.takeP {j : Nat} {o : Oper} {b : Bool} (ho : nextOp C i j e = some o) {v : Value}
    (H : ∀ w, (semOf e o).run C.P w = .ok (.value v) w)
    (K : Op C ds i r M L (e.putO o.dst v) h) : Op C ds i r M ((j, b) :: L) e h := by
  intro a w f is hk
  obtain ⟨h1, h2, h3, h4, h5, h6⟩ := nextOp_spec ho
  have hkw : Keep r M w.heap := by rw [is.heap]; exact hk
  cases b with
  | false =>
    refine seqS_turn h6 ⟨o, h1, h2, ?_⟩
    rw [wantedE_spec f h5, if_pos rfl, execOp_fits f h2 h3, H w]
    exact ⟨⟨hkw, is.again⟩, K _ _ (f.putO h4 v) is hk⟩
  | true =>
    refine ⟨o, v, h1, h2, .inl ⟨wantedE_spec f h5, fun w' _ => ?_⟩, ⟨hkw, is.again⟩, K _ _ (f.putO h4 v) is hk⟩
    rw [execOp_fits f h2 h3]
    exact H w'

/-! ### 5. Many operations that need no memory, at once -/
def pureN (P : Program) (n : Nat) (ops : Array Oper) : Nat → List (Nat × Bool) → Env → Option (List (Nat × Bool) × Env)
  | 0, L, e => some (L, e)
  | _ + 1, [], _ => none
  | m + 1, (j, _) :: L, e => match ops[j]? with
    | none => none
    | some o =>
      if noDefer o && dstOk n o && !(Nat.ble 1000 j) then
        match wantedE ops e o with
        | none => none
        | some false => pureN P n ops m L (e.putO o.dst undef)
        | some true => if opCovers e o then
            match pureVal P (semOf e o) with
            | some (.value v) => pureN P n ops m L (e.putO o.dst v)
            | _ => none
          else none
      else none
theorem Op.pures (m : Nat) (ks : List Nat) {L' : List (Nat × Bool)} {e' : Env} (hp : (pureN C.P C.n (regOps (pt C.code i)) m L e).map (fun x => (x.1, x.2.keep ks)) = some (L', e'))
    (K : Op C ds i r M L' e' h) : Op C ds i r M L e h := by
  obtain ⟨⟨L₁, e₁⟩, h1, h2⟩ := Option.map_eq_some_iff.1 hp
  simp only [Prod.mk.injEq] at h2
  obtain ⟨rfl, rfl⟩ := h2
  have K := K.keep
  clear hp
  induction m generalizing L e with
  | zero =>
    simp only [pureN, Option.some.injEq, Prod.mk.injEq] at h1
    obtain ⟨rfl, rfl⟩ := h1
    exact K
  | succ m ih =>
    cases L with
    | nil => simp [pureN] at h1
    | cons p L =>
      obtain ⟨j, b⟩ := p
      simp only [pureN] at h1
      split at h1
      · cases h1
      · rename_i o ho
        split at h1
        · rename_i hc
          simp only [Bool.and_eq_true] at hc
          have hd : ∀ t, o.dst = some t → t < C.n := dstOk_spec hc.1.2
          have h6 : Nat.ble 1000 j = false := by simpa using hc.2
          split at h1
          · cases h1
          · rename_i hw
            have K' := ih h1
            intro a w f is hk
            have hkw : Keep r M w.heap := by rw [is.heap]; exact hk
            have K'' := K' _ w (f.putO hd undef) is hk
            cases b with
            | false =>
              refine seqS_turn h6 ⟨o, ho, hc.1.1, ?_⟩
              rw [wantedE_spec f hw, if_neg (by simp)]
              exact ⟨⟨hkw, is.again⟩, K''⟩
            | true => exact ⟨o, undef, ho, hc.1.1, .inr ⟨wantedE_spec f hw, rfl⟩, ⟨hkw, is.again⟩, K''⟩
          · rename_i hw
            split at h1
            · rename_i hcov
              split at h1
              · rename_i v hv
                have K' := ih h1
                refine Op.takeP (o := o) ?_ (fun w => pureVal_run _ hv w) K'
                unfold nextOp
                simp only [ho, hw]
                rw [if_pos]
                simp only [Bool.and_eq_true]
                exact ⟨⟨⟨hc.1.1, hcov⟩, hc.1.2⟩, hc.2⟩
              · cases h1
            · cases h1
        · cases h1

/-- A guard that isn't known yet: both ways. -/
theorem Op.ways {b : Bool} (H : (b = true → Op C ds i r M L e h) ∧ (b = false → Op C ds i r M L e h)) : Op C ds i r M L e h := by
  cases b with
  | true => exact H.1 rfl
  | false => exact H.2 rfl
end

/-! ### 6. A function, from its entry to its return -/
inductive Drains (P : Program) : List Deferred → World → World → Prop
  | nil (w : World) : Drains P [] w w
  | cons {d : Deferred} {r : Nat} {ds : List Deferred} {w w₁ w₂ : World} (ht : d.target = .collected r) (hk : (Instr.takeDeferred r).run P w = .ok [] w₁) (h : Drains P ds w₁ w₂) : Drains P (d :: ds) w w₂
theorem Drains.steps {P : Program} {ds : List Deferred} {w w₂ : World} (h : Drains P ds w w₂) : ∀ (fr : Frame) (cs : List Frame), fr.mode = .returning → fr.defers = ds →
    Steps P (lone fr cs w) (lone { fr with defers := [] } cs w₂) := by
  induction h with
  | nil w => intro fr cs hm hd; have : { fr with defers := [] } = fr := by cases fr; simp_all
             rw [this]; exact .refl _ _
  | cons ht hk _ ih =>
    intro fr cs hm hd
    exact .head (step_collected (by rw [hm]; simp) hd ht hk) (ih _ cs hm (by simp))

def fnQ (P : Program) (B : World) (f : Func) (R : Value → Heap → Prop) (j : Option Code) (a : Act) (w : World) : Prop :=
  (j = none ∨ j = some .ret) ∧ ∃ w₂ v, Drains P a.defers w w₂ ∧ (results f a.tmps).run P w₂ = .ok v w₂ ∧ Is B w₂.heap w₂ ∧ R v w₂.heap

def argEnv (args : List Value) : Nat → Env := fun k => match args with
  | [] => []
  | v :: vs => (k, v) :: argEnv vs (k + 1)
theorem argEnv_get (args : List Value) : ∀ (k t : Nat) (v : Value), (argEnv args k).get t = some v → k ≤ t ∧ args[t - k]? = some v := by
  induction args with
  | nil => intro k t v h; simp [argEnv, Env.get] at h
  | cons u us ih =>
    intro k t v h
    by_cases hkt : k = t
    · subst hkt
      simp [argEnv, Env.get] at h
      simp [h]
    · have hb : Nat.beq k t = false := beqF hkt
      simp only [argEnv, Env.get, hb, cond_false] at h
      obtain ⟨h1, h2⟩ := ih _ _ _ h
      refine ⟨by omega, ?_⟩
      rw [show t - k = (t - (k + 1)) + 1 from by omega]
      simpa using h2

def fctx (P : Program) (B : World) (fn : FuncId) (f : Func) (R : Value → Heap → Prop) : Ctx :=
  { P, B, fn, n := f.ntmps, code := codeOf f, ro := none, Q := fnQ P B f R }

theorem HCalls.of_at {P : Program} {B : World} {fn : FuncId} {f : Func} {args : Array Value} {h : Heap} {R : Value → Heap → Prop} {e : Env}
    (hf : P.funcs[fn]? = some f) (hb : f.body.isSome = true) (hn : args.size ≤ f.ntmps) (he : argEnv args.toList 0 = e)
    (h0 : norm 1000 [.code (codeOf f)] = pt (codeOf f) 0) (H : At (fctx P B fn f R) [] 0 e h) : HCalls P B fn args h R := by
  intro w is cs
  obtain ⟨c, hc⟩ := Option.isSome_iff_exists.1 hb
  have hcode : codeOf f = c := by simp [codeOf, hc]
  let b : Frame := { (default : Frame) with fn := fn, kind := .normal }
  have henter : Frame.enter P fn args .normal = b.atR { tmps := args ++ Array.replicate (f.ntmps - args.size) undef, defers := [] } [.code (codeOf f)] := by
    have hro : b.roundOf = none := rfl
    simp [Frame.enter, Frame.atR, hf, hc, hcode, b]
    rfl
  have hfit : Fits e f.ntmps [] { tmps := args ++ Array.replicate (f.ntmps - args.size) undef, defers := [] } := by
    refine ⟨rfl, by simp; omega, fun t v ht => ?_⟩
    subst he
    obtain ⟨_, h2⟩ := argEnv_get _ _ _ _ ht
    simp only [Nat.sub_zero, Array.getElem?_toList] at h2
    have hlt : t < args.size := (Array.getElem?_eq_some_iff.1 h2).1
    simp only [Array.getElem?_append, hlt, if_true]
    exact h2
  have H := H _ w hfit is
  have H : RunK P none fn (fnQ P B f R) [.code (codeOf f)] { tmps := args ++ Array.replicate (f.ntmps - args.size) undef, defers := [] } w := .norm 1000 (by rw [h0]; exact H)
  obtain ⟨j, k', a', w', ⟨hj, w₂, v, hdr, hres, is₂, hR⟩, hl, st⟩ := H b cs rfl rfl rfl
  rw [← henter] at st
  have hret : ∃ todo, Steps P (lone (b.atR a' k') cs w') (lone { b.atR a' todo with mode := .returning } cs w') := by
    rcases hj with rfl | rfl
    · cases hl; exact ⟨[], .one (stepR_end rfl)⟩
    · cases hl with
      | ret k => exact ⟨_, .one (stepR_ret rfl)⟩
  obtain ⟨todo, st2⟩ := hret
  have st3 := hdr.steps { b.atR a' todo with mode := .returning } cs rfl rfl
  refine ⟨.returned v, w₂, _, ⟨v, rfl, is₂, hR⟩, Steps.trans st (Steps.trans st2 st3), rfl, rfl, rfl, rfl, f, ?_, ?_⟩
  · exact hf
  · exact hres

def resGet (e : Env) : ResultVar → Option Value
  | .tmp t => e.get t
  | .cell _ _ => none
/-- What a function hands back, if that lies in its slots. -/
def retVal (f : Func) (e : Env) : Option Value :=
  match f.results.toList.mapM (resGet e) with
  | some [v] => some v
  | some vs => some (.tuple vs.toArray)
  | none => none
theorem results_tmps {P : Program} {f : Func} {a : Act} {e : Env} {n : Nat} {ds : List Deferred} (ft : Fits e n ds a) {v : Value} (hv : retVal f e = some v) (w : World) :
    (results f a.tmps).run P w = .ok v w := by
  have key : ∀ (g : ResultVar → Sem Value), (∀ t, g (.tmp t) = pure (a.tmps.getD t undef)) → ∀ (l : List ResultVar) (vs : List Value), l.mapM (resGet e) = some vs → (l.mapM g).run P w = .ok vs w := by
    intro g hg l
    induction l with
    | nil => intro vs h; simp at h; subst h; rfl
    | cons x l ih =>
      intro vs h
      rw [List.mapM_cons] at h
      cases x with
      | cell c t => simp [resGet] at h
      | tmp t =>
        cases ht : e.get t with
        | none => simp [resGet, ht] at h
        | some u =>
          cases hm : l.mapM (resGet e) with
          | none => simp [resGet, ht, hm] at h
          | some us =>
            simp [resGet, ht, hm] at h
            subst h
            have h1 := ft.get t u ht
            have h2 := ih us hm
            rw [List.mapM_cons]
            simp only [Sem.run_bind, hg, Sem.run_pure, Result.andThen_ok, h2]
            simp [h1]
  have harr : ∀ (g : ResultVar → Sem Value) (vs : List Value), (f.results.toList.mapM g).run P w = .ok vs w → (f.results.mapM g).run P w = .ok vs.toArray w := by
    intro g vs h
    rw [Array.mapM_eq_mapM_toList]
    simp only [Sem.run_map, h, Result.andThen_ok]
  unfold retVal at hv
  unfold results
  rw [Sem.run_bind]
  split at hv
  · rename_i u hl
    simp only [Option.some.injEq] at hv
    subst hv
    exact (congrArg (fun r => Result.andThen r _) (harr _ _ (key _ (fun _ => rfl) _ _ hl))).trans rfl
  · rename_i vs hne hl
    simp only [Option.some.injEq] at hv
    subst hv
    have hsz : ¬ vs.toArray.size = 1 := by
      intro h
      simp only [List.size_toArray] at h
      obtain ⟨x, hx⟩ := List.length_eq_one_iff.1 h
      exact hne x hx
    refine (congrArg (fun r => Result.andThen r _) (harr _ _ (key _ (fun _ => rfl) _ _ hl))).trans ?_
    simp only [Result.andThen_ok, hsz, dite_false]
    rfl
  · cases hv
theorem At.ret {P : Program} {B : World} {fn : FuncId} {f : Func} {R : Value → Heap → Prop} {i : Nat} {e : Env} {h : Heap} {v : Value}
    (hi : isEnd (pt (codeOf f) i) = true) (hv : retVal f e = some v) (H : R v h) : At (fctx P B fn f R) [] i e h := by
  intro a w ft is
  show RunK P none fn (fnQ P B f R) (pt (codeOf f) i) a w
  have hq : ∀ j, (j = none ∨ j = some .ret) → fnQ P B f R j a w := fun j hj =>
    ⟨hj, w, v, by rw [ft.defers]; exact .nil w, results_tmps ft hv w, is.again, by rw [is.heap]; exact H⟩
  generalize pt (codeOf f) i = k at *
  unfold isEnd at hi
  split at hi
  · exact .leave .fin (hq _ (.inl rfl))
  · exact .leave (.ret _) (hq _ (.inr rfl))
  · cases hi
end Go.Proofs.YtphonojjgnbpfaaDoor.Sw
