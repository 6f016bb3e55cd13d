/- Lemmas for a law of this seat: what the functions compute, and plain facts of it. Own text. -/
import Derived.Test.YtmjebehhpojihaaGreatDoorCShowsB
import Derived.RangeFuncLeaves
namespace Go.Proofs.YtmjebehhpojihaaGreatDoor.Sw
set_option linter.unusedVariables false
set_option linter.unusedSimpArgs false
set_option linter.deprecated false
open Go
abbrev Heap := Array Obj
structure Is (B : World) (h : Heap) (w : World) : Prop where
  heap : w.heap = h
  os : w.os = B.os
  tape : w.tape = B.tape
  output : w.output = B.output
theorem Is.self (w : World) : Is w w.heap w := ⟨rfl, rfl, rfl, rfl⟩
theorem Is.again {B : World} {h : Heap} {w : World} (i : Is B h w) : Is B w.heap w := ⟨rfl, i.os, i.tape, i.output⟩
theorem Is.draw {B : World} {h : Heap} {w : World} (i : Is B h w) : Is B h { w with drawn := w.drawn + 1 } := ⟨i.heap, i.os, i.tape, i.output⟩
def HCalls (P : Program) (B : World) (f : FuncId) (args : Array Value) (h : Heap) (R : Value → Heap → Prop) : Prop :=
  ∀ w, Is B h w → Calls P f args w fun e w' => ∃ v, e = .returned v ∧ Is B w'.heap w' ∧ R v w'.heap
theorem HCalls.mono {P : Program} {B : World} {f : FuncId} {args : Array Value} {h : Heap} {R R' : Value → Heap → Prop}
    (H : HCalls P B f args h R) (hr : ∀ v h', R v h' → R' v h') : HCalls P B f args h R' :=
  fun w i => (H w i).mono fun _ _ ⟨v, he, i', r⟩ => ⟨v, he, i', hr _ _ r⟩
def HRun (P : Program) (B : World) {α : Type} (s : Sem α) (h : Heap) (R : α → Heap → Prop) : Prop :=
  ∀ w, Is B h w → ∃ x w', s.run P w = .ok x w' ∧ Is B w'.heap w' ∧ R x w'.heap
theorem HRun.mono {P : Program} {B : World} {α : Type} {s : Sem α} {h : Heap} {R R' : α → Heap → Prop} (H : HRun P B s h R) (hr : ∀ x h', R x h' → R' x h') : HRun P B s h R' :=
  fun w i => let ⟨x, w', e, i', r⟩ := H w i; ⟨x, w', e, i', hr _ _ r⟩
theorem HRun.pure {P : Program} {B : World} {α : Type} {h : Heap} {R : α → Heap → Prop} {x : α} (r : R x h) : HRun P B (Pure.pure x : Sem α) h R :=
  fun w i => ⟨x, w, rfl, i.again, by rw [i.heap]; exact r⟩
theorem HRun.bind {P : Program} {B : World} {α β : Type} {s : Sem α} {f : α → Sem β} {h : Heap} {R : β → Heap → Prop}
    (H : HRun P B s h fun x h' => HRun P B (f x) h' R) : HRun P B (s >>= f) h R := by
  intro w i
  obtain ⟨x, w', e, i', r⟩ := H w i
  obtain ⟨y, w'', e', i'', r'⟩ := r w' i'
  exact ⟨y, w'', by rw [Sem.run_bind, e]; exact e', i'', r'⟩
abbrev Env := List (Nat × Value)
theorem beqF {a b : Nat} (h : a ≠ b) : Nat.beq a b = false := by
  cases hb : Nat.beq a b with
  | false => rfl
  | true => exact absurd (Nat.eq_of_beq_eq_true hb) h
namespace Env
def get : Env → Nat → Option Value
  | [], _ => none
  | (k, v) :: e, t => bif Nat.beq k t then some v else get e t
def ev (e : Env) : Operand → Value
  | .tmp t => (get e t).getD undef
  | .const v => v
  | .global g => .pointer (some ⟨g, 0, none⟩)
  | .func f => .func (.func f) #[] #[]
def covers (e : Env) : Operand → Bool
  | .tmp t => (get e t).isSome
  | _ => true
def keep (ks : List Nat) (e : Env) : Env := ks.filterMap fun t => (get e t).map fun v => (t, v)
def putO (e : Env) (d : Option Tmp) (v : Value) : Env := match d with
  | some t => (t, v) :: e
  | none => e
theorem get_keep (ks : List Nat) (e : Env) (t : Nat) (v : Value) (h : get (keep ks e) t = some v) : get e t = some v := by
  induction ks with
  | nil => simp [keep, get] at h
  | cons k ks ih =>
    unfold keep at h
    rw [List.filterMap_cons] at h
    cases hk : get e k with
    | none => rw [hk] at h; exact ih h
    | some u =>
      rw [hk] at h
      simp only [Option.map_some, get] at h
      by_cases hkt : k = t
      · subst hkt; simp at h; rw [← h]; exact hk
      · have : Nat.beq k t = false := beqF hkt
        rw [this] at h; exact ih h
end Env
structure Fits (e : Env) (n : Nat) (ds : List Deferred) (a : Act) : Prop where
  defers : a.defers = ds
  size : a.tmps.size = n
  get : ∀ t v, e.get t = some v → a.tmps[t]? = some v
theorem Fits.eval {e : Env} {n : Nat} {ds : List Deferred} {a : Act} (f : Fits e n ds a) {x : Operand} (h : e.covers x = true) : a.eval x = e.ev x := by
  cases x with
  | tmp t =>
    simp only [Env.covers, Option.isSome_iff_exists] at h
    obtain ⟨v, hv⟩ := h
    have := f.get t v hv
    simp [Act.eval, Env.ev, hv, this]
  | _ => rfl
theorem Fits.put {e : Env} {n : Nat} {ds : List Deferred} {a : Act} (f : Fits e n ds a) {d : Nat} (hd : d < n) (v : Value) : Fits ((d, v) :: e) n ds (a.put (some d) v) := by
  refine ⟨f.defers, by simp [Act.put, f.size], fun t u h => ?_⟩
  by_cases hdt : d = t
  · subst hdt
    simp [Env.get] at h
    subst h
    simp [Act.put, f.size, hd]
  · have hb : Nat.beq d t = false := beqF hdt
    simp only [Env.get, hb, cond_false] at h
    simp only [Act.put, Array.getElem?_setIfInBounds_ne hdt]
    exact f.get t u h
theorem Fits.putO {e : Env} {n : Nat} {ds : List Deferred} {a : Act} (f : Fits e n ds a) {d : Option Tmp} (hd : ∀ t, d = some t → t < n) (v : Value) : Fits (e.putO d v) n ds (a.put d v) := by
  cases d with
  | none => exact f
  | some t => exact f.put (hd t rfl) v
theorem Fits.keep {e : Env} {n : Nat} {ds : List Deferred} {a : Act} (f : Fits e n ds a) (ks : List Nat) : Fits (e.keep ks) n ds a :=
  ⟨f.defers, f.size, fun t v h => f.get t v (Env.get_keep ks e t v h)⟩
def pureVal (P : Program) {α : Type} : Sem α → Option α
  | .pure a => some a
  | .program k => pureVal P (k P)
  | .mark _ k => pureVal P k
  | _ => none
theorem pureVal_run {P : Program} {α : Type} (s : Sem α) {x : α} (h : pureVal P s = some x) (w : World) : s.run P w = .ok x w := by
  induction s with
  | pure a => simp only [pureVal, Option.some.injEq] at h; subst h; rfl
  | program k ih => exact ih P h
  | mark m k ih => exact ih h
  | _ => simp [pureVal] at h
def wantedE (ops : Array Oper) (e : Env) (o : Oper) : Option Bool :=
  match o.guard with
  | none => some true
  | some (g, want) => match (ops[g]?).bind (·.dst) with
    | some t => match e.get t with
      | some (.bool b) => some (b == want)
      | some (.tuple _) => some false
      | _ => none
    | none => none
theorem wantedE_spec {ops : Array Oper} {e : Env} {o : Oper} {b : Bool} {n : Nat} {ds : List Deferred} {a : Act} (f : Fits e n ds a) (h : wantedE ops e o = some b) :
    Region.wanted o (yielded ops a.tmps) = b := by
  unfold wantedE at h
  unfold Region.wanted
  split at h
  · rename_i hg; simp only [hg]; simpa using h
  · rename_i g want hg
    simp only [hg]
    split at h
    · rename_i t ht
      split at h
      · rename_i c hc
        have h1 := f.get t _ hc
        have h2 : yielded ops a.tmps g = some c := by simp [yielded, ht, h1]
        rw [h2]
        simp only [Option.some.injEq] at h
        rw [← h]
        cases c <;> cases want <;> rfl
      · rename_i c hc
        have h1 := f.get t _ hc
        have h2 : yielded ops a.tmps g = none := by simp [yielded, ht, h1]
        rw [h2]
        simp only [Option.some.injEq] at h
        rw [← h]
        rfl
      · cases h
    · cases h
def dstOk (n : Nat) (o : Oper) : Bool := match o.dst with
  | some d => Nat.blt d n
  | none => true
theorem dstOk_spec {n : Nat} {o : Oper} (h : dstOk n o = true) (t : Nat) (ht : o.dst = some t) : t < n := by
  unfold dstOk at h
  rw [ht] at h
  exact Nat.le_of_ble_eq_true h
def semOf (e : Env) (o : Oper) : Sem Next := execOp e.ev o
def opCovers (e : Env) (o : Oper) : Bool := o.op.operands.all e.covers
theorem execOp_fits {e : Env} {n : Nat} {ds : List Deferred} {a : Act} (f : Fits e n ds a) {o : Oper} (hd : noDefer o = true) (hc : opCovers e o = true) :
    execOp a.eval o = semOf e o :=
  execOp_congr o (noDefer_spec hd).2 fun x hx => f.eval (by
    have := Array.all_eq_true_iff_forall_mem.1 hc x hx
    exact this)
def pts : Code → List Item → List (List Item)
  | .seq a b, k => pts a (.code b :: k) ++ pts b k
  | .block id c, k => pts c (.inBlock id :: k)
  | .loop c, k => pts c (.inLoop c :: k)
  | .scope c, k => pts c (.inScope c :: k)
  | .cond c x y, k => (.code (.cond c x y) :: k) :: (pts x k ++ pts y k)
  | .region id ops d, k => [.code (.region id ops d) :: k]
  | .ret, k => [.code .ret :: k]
  | .rangeFunc f ps as body, k => [.code (.rangeFunc f ps as body) :: k]
  | .exit id, k => match exitTo id k with
    | some _ => []
    | none => [.code (.exit id) :: k]
  | _, _ => []
inductive CodeX where
  | fn (c : Code)
  | round (assign body : Code)
def ptsX : CodeX → List (List Item)
  | .fn c => pts c []
  | .round a b => pts a [.beginRound, .code b] ++ [.beginRound, .code b] :: pts b []
def pt (c : CodeX) (i : Nat) : List Item := (ptsX c).getD i []
def regOps : List Item → Array Oper
  | .code (.region _ ops _) :: _ => ops
  | _ => #[]
def plainL : List Item → Option (List (Nat × Bool))
  | .code (.region _ ops false) :: _ => if Nat.ble ops.size 1000 = true then some ((List.range ops.size).map fun i => (i, false)) else none
  | _ => none
def drawOps : List Item → Option (Array Oper)
  | .code (.region _ ops true) :: _ => some ops
  | _ => none
def condOp : List Item → Option Operand
  | .code (.cond c _ _) :: _ => some c
  | _ => none
def condT : List Item → List Item
  | .code (.cond _ x _) :: k => .code x :: k
  | k => k
def condF : List Item → List Item
  | .code (.cond _ _ y) :: k => .code y :: k
  | k => k
def isEnd : List Item → Bool
  | [] => true
  | .code .ret :: _ => true
  | _ => false
def codeR (f : Func) : Code := f.body.getD .skip
def codeOf (f : Func) : CodeX := .fn (codeR f)
structure Ctx where
  P : Program
  B : World
  fn : FuncId
  n : Nat
  code : CodeX
  ro : Option Nat
  Q : Option Code → Act → World → Prop
def At (C : Ctx) (ds : List Deferred) (i : Nat) (e : Env) (h : Heap) : Prop :=
  ∀ a w, Fits e C.n ds a → Is C.B h w → RunK C.P C.ro C.fn C.Q (pt C.code i) a w
structure Keep (r : Heap) (M : Nat → Prop) (h : Heap) : Prop where
  size : r.size ≤ h.size
  same : ∀ b, b < r.size → ¬ M b → h[b]? = r[b]?
theorem Keep.refl (r : Heap) (M : Nat → Prop) : Keep r M r := ⟨Nat.le_refl _, fun _ _ _ => rfl⟩
theorem Keep.any (h : Heap) : Keep #[] (fun _ => True) h := ⟨Nat.zero_le _, fun _ hb => absurd hb (Nat.not_lt_zero _)⟩
theorem Keep.trans {r : Heap} {M N : Nat → Prop} {h k : Heap} (H : Keep r M h) (K : Keep h N k) (hn : ∀ b, b < r.size → N b → M b) : Keep r M k :=
  ⟨Nat.le_trans H.size K.size, fun b hb hm => (K.same b (Nat.lt_of_lt_of_le hb H.size) fun hb' => hm (hn b hb hb')).trans (H.same b hb hm)⟩
def holds (C : Ctx) (r : Heap) (M : Nat → Prop) (w : World) : Prop := Keep r M w.heap ∧ Is C.B w.heap w
def Op (C : Ctx) (ds : List Deferred) (i : Nat) (r : Heap) (M : Nat → Prop) (L : List (Nat × Bool)) (e : Env) (h : Heap) : Prop :=
  ∀ a w, Fits e C.n ds a → Is C.B h w → Keep r M h →
    seqS C.P (regOps (pt C.code i)) (holds C #[] fun _ => True) (holds C r M) L (fun a w => RunK C.P C.ro C.fn C.Q (pt C.code i).tail a w) a w
section
variable {C : Ctx} {ds : List Deferred} {i : Nat} {r : Heap} {M : Nat → Prop} {L : List (Nat × Bool)} {e : Env} {h : Heap}
theorem At.reg (hL : plainL (pt C.code i) = some L) (H : Op C ds i #[] (fun _ => True) L e h) : At C ds i e h := by
  intro a w f is
  have H := H a w f is (Keep.any _)
  generalize pt C.code i = k at *
  unfold plainL at hL
  split at hL
  · rename_i id ops k'
    split at hL
    · rename_i hsz
      simp only [Option.some.injEq] at hL
      subst hL
      have hsz := Nat.le_of_ble_eq_true hsz
      have := seq_plain _ _ _ _ (fun p hp => by
        obtain ⟨q, hq, rfl⟩ := List.mem_map.1 hp
        have := List.mem_range.1 hq
        exact Bool.eq_false_iff.2 fun hc => by have := Nat.le_of_ble_eq_true hc; omega) (fun _ _ => trivial) H
      rw [List.map_map] at this
      simp only [regOps, List.tail] at this
      have e : List.map ((fun x : Nat × Bool => x.1) ∘ fun i => (i, false)) (List.range ops.size) = List.range ops.size := by
        rw [show ((fun x : Nat × Bool => x.1) ∘ fun i : Nat => (i, false)) = _root_.id from rfl, List.map_id]
      rw [e] at this
      exact RunK.region this
    · cases hL
  · cases hL
def drawOk (k : List Item) (L : List (Nat × Bool)) : Bool := match drawOps k with
  | some ops => Nat.ble (reals L) ops.size && (seqOk ops (barOf L) false L (Array.replicate ops.size false) && (Nat.blt (barOf L) 1000000 || Nat.ble ops.size 1000000))
  | none => false
theorem At.draw (hm : C.P.follows .mixedOrders = true) (M : Nat → Prop) (L : List (Nat × Bool)) (hL : drawOk (pt C.code i) L = true) (H : Op C ds i h M L e h) : At C ds i e h := by
  intro a w f is
  have H := H a { w with drawn := w.drawn + 1 } f is.draw (Keep.refl _ _)
  generalize pt C.code i = k at *
  unfold drawOk at hL
  split at hL
  · rename_i ops hd
    unfold drawOps at hd
    split at hd
    · rename_i id ops' k'
      simp only [Option.some.injEq] at hd
      subst hd
      simp only [Bool.and_eq_true] at hL
      have h1 := Nat.le_of_ble_eq_true hL.1
      refine RunK.draw hm fun t => any_sound (kb := barOf L) (S := holds C h M) _ _ _ _ _ (any_of_seq L _ _ false _ _ _ _ _ h1 ?_ hL.2.1 (fun _ => ⟨rfl, ?_⟩) (fun hz => by cases hz) H)
      · intro k o ho hk
        have hlt : k < ops'.size := (Array.getElem?_eq_some_iff.1 ho).1
        simp [hlt] at hk
      · simp only [Array.getD_eq_getD_getElem?, Array.getElem?_replicate]; split <;> rfl
    · cases hd
  · cases hL
theorem Op.barrier {k : Nat} (hk : (Nat.ble 1000 k && !(Nat.ble 2000 k)) = true) (H : Op C ds i #[] (fun _ => True) L e h) : Op C ds i r M ((k, false) :: L) e h := by
  intro a w f is _
  have := H a w f is (Keep.any _)
  simp only [Bool.and_eq_true, Bool.not_eq_true'] at hk
  simp only [seqS, hk.1, hk.2, if_true, Bool.false_eq_true, if_false]
  exact this
theorem Op.goto (j : Nat) (hj : norm 1000 (pt C.code i).tail = pt C.code j) (H : At C ds j e h) : Op C ds i r M [] e h := by
  intro a w f is _
  exact .norm 1000 (by rw [hj]; exact H a w f is)
theorem At.cond {b : Bool} {c : Operand} (hc : condOp (pt C.code i) = some c) (hv : e.covers c = true) (hb : e.ev c = .bool b) (jt jf : Nat)
    (h1 : norm 1000 (condT (pt C.code i)) = pt C.code jt) (h2 : norm 1000 (condF (pt C.code i)) = pt C.code jf)
    (ht : b = true → At C ds jt e h) (hf : b = false → At C ds jf e h) : At C ds i e h := by
  intro a w f is
  generalize pt C.code i = k at *
  unfold condOp at hc
  split at hc
  · rename_i c' x y k'
    simp only [Option.some.injEq] at hc
    subst hc
    refine RunK.cond (t := b) (by rw [f.eval hv, hb]) ?_
    cases b with
    | true => exact .norm 1000 (by simp only [condT] at h1; simp only [if_true]; rw [h1]; exact ht rfl a w f is)
    | false => exact .norm 1000 (by simp only [condF] at h2; simp only [Bool.false_eq_true, if_false]; rw [h2]; exact hf rfl a w f is)
  · cases hc
theorem At.condT {c : Operand} (hc : condOp (pt C.code i) = some c) (hv : e.covers c = true) (hb : e.ev c = .bool true) (jt : Nat)
    (h1 : norm 1000 (Sw.condT (pt C.code i)) = pt C.code jt) (ht : At C ds jt e h) : At C ds i e h := by
  intro a w f is
  generalize pt C.code i = k at *
  unfold condOp at hc
  split at hc
  · rename_i c' x y k'
    simp only [Option.some.injEq] at hc
    subst hc
    refine RunK.cond (t := true) (by rw [f.eval hv, hb]) ?_
    exact .norm 1000 (by simp only [Sw.condT] at h1; simp only [if_true]; rw [h1]; exact ht a w f is)
  · cases hc
theorem At.condF {c : Operand} (hc : condOp (pt C.code i) = some c) (hv : e.covers c = true) (hb : e.ev c = .bool false) (jf : Nat)
    (h1 : norm 1000 (Sw.condF (pt C.code i)) = pt C.code jf) (ht : At C ds jf e h) : At C ds i e h := by
  intro a w f is
  generalize pt C.code i = k at *
  unfold condOp at hc
  split at hc
  · rename_i c' x y k'
    simp only [Option.some.injEq] at hc
    subst hc
    refine RunK.cond (t := false) (by rw [f.eval hv, hb]) ?_
    exact .norm 1000 (by simp only [Sw.condF] at h1; simp only [Bool.false_eq_true, if_false]; rw [h1]; exact ht a w f is)
  · cases hc
theorem At.keep (ks : List Nat) (H : At C ds i (e.keep ks) h) : At C ds i e h := fun a w f is => H a w (f.keep ks) is
theorem Op.keep (ks : List Nat) (H : Op C ds i r M L (e.keep ks) h) : Op C ds i r M L e h := fun a w f is hk => H a w (f.keep ks) is hk
def nextOp (C : Ctx) (i j : Nat) (e : Env) : Option Oper :=
  match (regOps (pt C.code i))[j]? with
  | some o => if noDefer o && opCovers e o && dstOk C.n o && !(Nat.ble 1000 j) then
      match wantedE (regOps (pt C.code i)) e o with
      | some true => some o
      | _ => none
    else none
  | none => none
theorem nextOp_spec {j : Nat} {o : Oper} (h : nextOp C i j e = some o) : (regOps (pt C.code i))[j]? = some o ∧ noDefer o = true ∧ opCovers e o = true ∧ (∀ t, o.dst = some t → t < C.n) ∧
    wantedE (regOps (pt C.code i)) e o = some true ∧ Nat.ble 1000 j = false := by
  unfold nextOp at h
  split at h
  · rename_i o' ho
    split at h
    · rename_i hc
      simp only [Bool.and_eq_true] at hc
      split at h
      · rename_i hw
        simp only [Option.some.injEq] at h
        subst h
        exact ⟨ho, hc.1.1.1, hc.1.1.2, dstOk_spec hc.1.2, hw, by simpa using hc.2⟩
      · cases h
    · cases h
  · cases h
theorem Op.act {j : Nat} {o : Oper} (ho : nextOp C i j e = some o)
    (H : ∀ w, Is C.B h w → Keep r M h → ∀ a, Fits e C.n ds a → Sw.Oper.res C.P o a (fun a' w' => holds C r M w' ∧ ∃ e', Fits e' C.n ds a' ∧ Op C ds i r M L e' w'.heap) ((semOf e o).run C.P w)) :
    Op C ds i r M ((j, false) :: L) e h := by
  intro a w f is hk
  obtain ⟨h1, h2, h3, h4, h5, h6⟩ := nextOp_spec ho
  refine seqS_turn h6 ⟨o, h1, h2, ?_⟩
  rw [wantedE_spec f h5, if_pos rfl, execOp_fits f h2 h3]
  exact res_mono (fun a' w' ⟨hh, e', f', H'⟩ => ⟨hh, H' a' w' f' hh.2 hh.1⟩) (H w is hk a f)
theorem Op.run {j : Nat} {o : Oper} (ho : nextOp C i j e = some o) {R : Next → Heap → Prop} (H : HRun C.P C.B (semOf e o) h R)
    (K : ∀ x h', R x h' → ∃ v, x = .value v ∧ (Keep r M h → Keep r M h') ∧ Op C ds i r M L (e.putO o.dst v) h') : Op C ds i r M ((j, false) :: L) e h := by
  refine Op.act ho fun w is hk a f => ?_
  obtain ⟨x, w', hrun, is', hr⟩ := H w is
  obtain ⟨v, rfl, hk', H'⟩ := K x _ hr
  rw [hrun]
  exact ⟨⟨hk' hk, is'⟩, _, f.putO (nextOp_spec ho).2.2.2.1 v, H'⟩
theorem Op.skip {j : Nat} {o : Oper} (ho : nextOp C i j e = some o) {R : Next → Heap → Prop} (H : HRun C.P C.B (semOf e o) h R)
    (K : ∀ x h', R x h' → x = .skip ∧ (Keep r M h → Keep r M h') ∧ Op C ds i r M L (e.putO o.dst undef) h') : Op C ds i r M ((j, false) :: L) e h := by
  refine Op.act ho fun w is hk a f => ?_
  obtain ⟨x, w', hrun, is', hr⟩ := H w is
  obtain ⟨rfl, hk', H'⟩ := K x _ hr
  rw [hrun]
  exact ⟨⟨hk' hk, is'⟩, _, f.putO (nextOp_spec ho).2.2.2.1 undef, H'⟩
theorem Op.enter {j : Nat} {o : Oper} (ho : nextOp C i j e = some o) {f : FuncId} {args : Array Value} (hp : pureVal C.P (semOf e o) = some (.enter f args))
    {R : Value → Heap → Prop} (H : HCalls C.P C.B f args h R)
    (K : ∀ v h', R v h' → (Keep r M h → Keep r M h') ∧ Op C ds i r M L (e.putO o.dst v) h') : Op C ds i r M ((j, false) :: L) e h := by
  refine Op.act ho fun w is hk a ft => ?_
  rw [pureVal_run _ hp w]
  refine Calls.mono (H w is) fun en w' ⟨v, he, is', hr⟩ => ?_
  obtain ⟨hk', H'⟩ := K v _ hr
  exact ⟨v, he, ⟨hk' hk, is'⟩, _, ft.putO (nextOp_spec ho).2.2.2.1 v, H'⟩
theorem Op.take {j : Nat} {o : Oper} {b : Bool} (ho : nextOp C i j e = some o) {v : Value} (hn : b = true → needs o = true)
    (H : ∀ w, Is C.B w.heap w → Keep r M w.heap → (b = false → w.heap = h) → (semOf e o).run C.P w = .ok (.value v) w)
    (K : Op C ds i r M L (e.putO o.dst v) h) : Op C ds i r M ((j, b) :: L) e h := by
  intro a w f is hk
  obtain ⟨h1, h2, h3, h4, h5, h6⟩ := nextOp_spec ho
  have hkw : Keep r M w.heap := by rw [is.heap]; exact hk
  cases b with
  | false =>
    refine seqS_turn h6 ⟨o, h1, h2, ?_⟩
    rw [wantedE_spec f h5, if_pos rfl, execOp_fits f h2 h3, H w is.again hkw fun _ => is.heap]
    exact ⟨⟨hkw, is.again⟩, K _ _ (f.putO h4 v) is hk⟩
  | true =>
    refine ⟨o, v, h1, h2, ?_, ⟨hkw, is.again⟩, K _ _ (f.putO h4 v) is hk⟩
    rw [if_pos (hn rfl)]
    refine .inl ⟨wantedE_spec f h5, fun w' ⟨k', is'⟩ => ?_⟩
    rw [execOp_fits f h2 h3]
    exact H w' is' k' (by simp)
theorem Op.takeP {j : Nat} {o : Oper} {b : Bool} (ho : nextOp C i j e = some o) {v : Value}
    (H : ∀ w, (semOf e o).run C.P w = .ok (.value v) w)
    (K : Op C ds i r M L (e.putO o.dst v) h) : Op C ds i r M ((j, b) :: L) e h := by
  intro a w f is hk
  obtain ⟨h1, h2, h3, h4, h5, h6⟩ := nextOp_spec ho
  have hkw : Keep r M w.heap := by rw [is.heap]; exact hk
  cases b with
  | false =>
    refine seqS_turn h6 ⟨o, h1, h2, ?_⟩
    rw [wantedE_spec f h5, if_pos rfl, execOp_fits f h2 h3, H w]
    exact ⟨⟨hkw, is.again⟩, K _ _ (f.putO h4 v) is hk⟩
  | true =>
    refine ⟨o, v, h1, h2, .inl ⟨wantedE_spec f h5, fun w' _ => ?_⟩, ⟨hkw, is.again⟩, K _ _ (f.putO h4 v) is hk⟩
    rw [execOp_fits f h2 h3]
    exact H w'
def pureN (P : Program) (n : Nat) (ops : Array Oper) : Nat → List (Nat × Bool) → Env → Option (List (Nat × Bool) × Env)
  | 0, L, e => some (L, e)
  | _ + 1, [], _ => none
  | m + 1, (j, _) :: L, e => match ops[j]? with
    | none => none
    | some o =>
      if noDefer o && dstOk n o && !(Nat.ble 1000 j) then
        match wantedE ops e o with
        | none => none
        | some false => pureN P n ops m L (e.putO o.dst undef)
        | some true => if opCovers e o then
            match pureVal P (semOf e o) with
            | some (.value v) => pureN P n ops m L (e.putO o.dst v)
            | _ => none
          else none
      else none
theorem Op.run_pure {m : Nat} {L₁ : List (Nat × Bool)} {e₁ : Env} (h1 : pureN C.P C.n (regOps (pt C.code i)) m L e = some (L₁, e₁)) (K : Op C ds i r M L₁ e₁ h) : Op C ds i r M L e h := by
  induction m generalizing L e with
  | zero =>
    simp only [pureN, Option.some.injEq, Prod.mk.injEq] at h1
    obtain ⟨rfl, rfl⟩ := h1
    exact K
  | succ m ih =>
    cases L with
    | nil => simp [pureN] at h1
    | cons p L =>
      obtain ⟨j, b⟩ := p
      simp only [pureN] at h1
      split at h1
      · cases h1
      · rename_i o ho
        split at h1
        · rename_i hc
          simp only [Bool.and_eq_true] at hc
          have hd : ∀ t, o.dst = some t → t < C.n := dstOk_spec hc.1.2
          have h6 : Nat.ble 1000 j = false := by simpa using hc.2
          split at h1
          · cases h1
          · rename_i hw
            have K' := ih h1
            intro a w f is hk
            have hkw : Keep r M w.heap := by rw [is.heap]; exact hk
            have K'' := K' _ w (f.putO hd undef) is hk
            cases b with
            | false =>
              refine seqS_turn h6 ⟨o, ho, hc.1.1, ?_⟩
              rw [wantedE_spec f hw, if_neg (by simp)]
              exact ⟨⟨hkw, is.again⟩, K''⟩
            | true => exact ⟨o, undef, ho, hc.1.1, .inr ⟨wantedE_spec f hw, rfl⟩, ⟨hkw, is.again⟩, K''⟩
          · rename_i hw
            split at h1
            · rename_i hcov
              split at h1
              · rename_i v hv
                have K' := ih h1
                refine Op.takeP (o := o) ?_ (fun w => pureVal_run _ hv w) K'
                unfold nextOp
                simp only [ho, hw]
                rw [if_pos]
                simp only [Bool.and_eq_true]
                exact ⟨⟨⟨hc.1.1, hcov⟩, hc.1.2⟩, hc.2⟩
              · cases h1
            · cases h1
        · cases h1
end
inductive Drains (P : Program) : List Deferred → World → World → Prop
  | nil (w : World) : Drains P [] w w
  | cons {d : Deferred} {r : Nat} {ds : List Deferred} {w w₁ w₂ : World} (ht : d.target = .collected r) (hk : (Instr.takeDeferred r).run P w = .ok [] w₁) (h : Drains P ds w₁ w₂) : Drains P (d :: ds) w w₂
theorem Drains.steps {P : Program} {ds : List Deferred} {w w₂ : World} (h : Drains P ds w w₂) : ∀ (fr : Frame) (cs : List Frame), fr.mode = .returning → fr.defers = ds →
    Steps P (lone fr cs w) (lone { fr with defers := [] } cs w₂) := by
  induction h with
  | nil w => intro fr cs hm hd; have : { fr with defers := [] } = fr := by cases fr; simp_all
             rw [this]; exact .refl _ _
  | cons ht hk _ ih =>
    intro fr cs hm hd
    exact .head (step_collected (by rw [hm]; simp) hd ht hk) (ih _ cs hm (by simp))
def fnQ (P : Program) (B : World) (f : Func) (R : Value → Heap → Prop) (j : Option Code) (a : Act) (w : World) : Prop :=
  (j = none ∨ j = some .ret) ∧ ∃ w₂ v, Drains P a.defers w w₂ ∧ (results f a.tmps).run P w₂ = .ok v w₂ ∧ Is B w₂.heap w₂ ∧ R v w₂.heap
def argEnv (args : List Value) : Nat → Env := fun k => match args with
  | [] => []
  | v :: vs => (k, v) :: argEnv vs (k + 1)
theorem argEnv_get (args : List Value) : ∀ (k t : Nat) (v : Value), (argEnv args k).get t = some v → k ≤ t ∧ args[t - k]? = some v := by
  induction args with
  | nil => intro k t v h; simp [argEnv, Env.get] at h
  | cons u us ih =>
    intro k t v h
    by_cases hkt : k = t
    · subst hkt
      simp [argEnv, Env.get] at h
      simp [h]
    · have hb : Nat.beq k t = false := beqF hkt
      simp only [argEnv, Env.get, hb, cond_false] at h
      obtain ⟨h1, h2⟩ := ih _ _ _ h
      refine ⟨by omega, ?_⟩
      rw [show t - k = (t - (k + 1)) + 1 from by omega]
      simpa using h2
def fctx (P : Program) (B : World) (fn : FuncId) (f : Func) (R : Value → Heap → Prop) : Ctx :=
  { P, B, fn, n := f.ntmps, code := codeOf f, ro := none, Q := fnQ P B f R }
theorem HCalls.of_at {P : Program} {B : World} {fn : FuncId} {f : Func} {args : Array Value} {h : Heap} {R : Value → Heap → Prop} {e : Env}
    (hf : P.funcs[fn]? = some f) (hb : f.body.isSome = true) (hn : args.size ≤ f.ntmps) (he : argEnv args.toList 0 = e)
    (h0 : norm 1000 [.code (codeR f)] = pt (codeOf f) 0) (H : At (fctx P B fn f R) [] 0 e h) : HCalls P B fn args h R := by
  intro w is cs
  obtain ⟨c, hc⟩ := Option.isSome_iff_exists.1 hb
  have hcode : codeR f = c := by simp [codeR, hc]
  let b : Frame := { (default : Frame) with fn := fn, kind := .normal }
  have henter : Frame.enter P fn args .normal = b.atR { tmps := args ++ Array.replicate (f.ntmps - args.size) undef, defers := [] } [.code (codeR f)] := by
    have hro : b.roundOf = none := rfl
    simp [Frame.enter, Frame.atR, hf, hc, hcode, b]
    rfl
  have hfit : Fits e f.ntmps [] { tmps := args ++ Array.replicate (f.ntmps - args.size) undef, defers := [] } := by
    refine ⟨rfl, by simp; omega, fun t v ht => ?_⟩
    subst he
    obtain ⟨_, h2⟩ := argEnv_get _ _ _ _ ht
    simp only [Nat.sub_zero, Array.getElem?_toList] at h2
    have hlt : t < args.size := (Array.getElem?_eq_some_iff.1 h2).1
    simp only [Array.getElem?_append, hlt, if_true]
    exact h2
  have H := H _ w hfit is
  have H : RunK P none fn (fnQ P B f R) [.code (codeR f)] { tmps := args ++ Array.replicate (f.ntmps - args.size) undef, defers := [] } w := .norm 1000 (by rw [h0]; exact H)
  obtain ⟨j, k', a', w', ⟨hj, w₂, v, hdr, hres, is₂, hR⟩, hl, st⟩ := H b cs rfl rfl rfl
  rw [← henter] at st
  have hret : ∃ todo, Steps P (lone (b.atR a' k') cs w') (lone { b.atR a' todo with mode := .returning } cs w') := by
    rcases hj with rfl | rfl
    · cases hl; exact ⟨[], .one (stepR_end rfl)⟩
    · cases hl with
      | ret k => exact ⟨_, .one (stepR_ret rfl)⟩
  obtain ⟨todo, st2⟩ := hret
  have st3 := hdr.steps { b.atR a' todo with mode := .returning } cs rfl rfl
  refine ⟨.returned v, w₂, _, ⟨v, rfl, is₂, hR⟩, Steps.trans st (Steps.trans st2 st3), rfl, rfl, rfl, rfl, f, ?_, ?_⟩
  · exact hf
  · exact hres
def resGet (e : Env) : ResultVar → Option Value
  | .tmp t => e.get t
  | .cell _ _ => none
def retVal (f : Func) (e : Env) : Option Value :=
  match f.results.toList.mapM (resGet e) with
  | some [v] => some v
  | some vs => some (.tuple vs.toArray)
  | none => none
theorem results_tmps {P : Program} {f : Func} {a : Act} {e : Env} {n : Nat} {ds : List Deferred} (ft : Fits e n ds a) {v : Value} (hv : retVal f e = some v) (w : World) :
    (results f a.tmps).run P w = .ok v w := by
  have key : ∀ (g : ResultVar → Sem Value), (∀ t, g (.tmp t) = pure (a.tmps.getD t undef)) → ∀ (l : List ResultVar) (vs : List Value), l.mapM (resGet e) = some vs → (l.mapM g).run P w = .ok vs w := by
    intro g hg l
    induction l with
    | nil => intro vs h; simp at h; subst h; rfl
    | cons x l ih =>
      intro vs h
      rw [List.mapM_cons] at h
      cases x with
      | cell c t => simp [resGet] at h
      | tmp t =>
        cases ht : e.get t with
        | none => simp [resGet, ht] at h
        | some u =>
          cases hm : l.mapM (resGet e) with
          | none => simp [resGet, ht, hm] at h
          | some us =>
            simp [resGet, ht, hm] at h
            subst h
            have h1 := ft.get t u ht
            have h2 := ih us hm
            rw [List.mapM_cons]
            simp only [Sem.run_bind, hg, Sem.run_pure, Result.andThen_ok, h2]
            simp [h1]
  have harr : ∀ (g : ResultVar → Sem Value) (vs : List Value), (f.results.toList.mapM g).run P w = .ok vs w → (f.results.mapM g).run P w = .ok vs.toArray w := by
    intro g vs h
    rw [Array.mapM_eq_mapM_toList]
    simp only [Sem.run_map, h, Result.andThen_ok]
  unfold retVal at hv
  unfold results
  rw [Sem.run_bind]
  split at hv
  · rename_i u hl
    simp only [Option.some.injEq] at hv
    subst hv
    exact (congrArg (fun r => Result.andThen r _) (harr _ _ (key _ (fun _ => rfl) _ _ hl))).trans rfl
  · rename_i vs hne hl
    simp only [Option.some.injEq] at hv
    subst hv
    have hsz : ¬ vs.toArray.size = 1 := by
      intro h
      simp only [List.size_toArray] at h
      obtain ⟨x, hx⟩ := List.length_eq_one_iff.1 h
      exact hne x hx
    refine (congrArg (fun r => Result.andThen r _) (harr _ _ (key _ (fun _ => rfl) _ _ hl))).trans ?_
    simp only [Result.andThen_ok, hsz, dite_false]
    rfl
  · cases hv
theorem At.ret {P : Program} {B : World} {fn : FuncId} {f : Func} {R : Value → Heap → Prop} {i : Nat} {e : Env} {h : Heap} {v : Value}
    (hi : isEnd (pt (codeOf f) i) = true) (hv : retVal f e = some v) (H : R v h) : At (fctx P B fn f R) [] i e h := by
  intro a w ft is
  show RunK P none fn (fnQ P B f R) (pt (codeOf f) i) a w
  have hq : ∀ j, (j = none ∨ j = some .ret) → fnQ P B f R j a w := fun j hj =>
    ⟨hj, w, v, by rw [ft.defers]; exact .nil w, results_tmps ft hv w, is.again, by rw [is.heap]; exact H⟩
  generalize pt (codeOf f) i = k at *
  unfold isEnd at hi
  split at hi
  · exact .leave .fin (hq _ (.inl rfl))
  · exact .leave (.ret _) (hq _ (.inr rfl))
  · cases hi
end Go.Proofs.YtmjebehhpojihaaGreatDoor.Sw
namespace Go.Proofs.YtmjebehhpojihaaGreatDoor.Sw
set_option linter.unusedVariables false
set_option linter.unusedSimpArgs false
set_option linter.deprecated false
open Go
abbrev GH := Nat → Option Obj
abbrev Chunk := List (Nat × Obj)
def Sub (g : GH) (h : Heap) : Prop := ∀ b o, g b = some o → h[b]? = some o
def gle (g g' : GH) : Prop := ∀ b o, g b = some o → g' b = some o
theorem gle.refl (g : GH) : gle g g := fun _ _ h => h
theorem gle.trans {a b c : GH} (h : gle a b) (k : gle b c) : gle a c := fun x o hx => k x o (h x o hx)
theorem Sub.lt {g : GH} {h : Heap} (s : Sub g h) {b : Nat} {o : Obj} (hb : g b = some o) : b < h.size := (Array.getElem?_eq_some_iff.1 (s b o hb)).1
def ids (L : List Chunk) (b : Nat) : Prop := ∃ p ∈ L.flatten, p.1 = b
structure St (h0 : Heap) (g0 : GH) (S0 : Nat → Prop) (g : GH) (L : List Chunk) (h : Heap) : Prop where
  size : h0.size ≤ h.size
  frame : ∀ b, b < h0.size → ¬ S0 b → h[b]? = h0[b]?
  le : gle g0 g
  new : ∀ b, g b ≠ none → g0 b ≠ none ∨ h0.size ≤ b ∨ S0 b
  sub : Sub g h
  has : ∀ p ∈ L.flatten, h[p.1]? = some p.2
  nodup : (L.flatten.map (·.1)).Nodup
  sep : ∀ p ∈ L.flatten, g p.1 = none
  own : ∀ p ∈ L.flatten, h0.size ≤ p.1 ∨ S0 p.1
section
variable {h0 : Heap} {g0 : GH} {S0 : Nat → Prop} {g : GH} {L L' : List Chunk} {c : Chunk} {h : Heap}
theorem St.init {g : GH} {h : Heap} (s : Sub g h) : St h g (ids []) g [] h :=
  ⟨Nat.le_refl _, fun _ _ _ => rfl, gle.refl _, fun _ hb => .inl hb, s, fun _ hp => by simp at hp, by simp, fun _ hp => by simp at hp, fun _ hp => by simp at hp⟩
theorem St.perm (hp : L.Perm L') (s : St h0 g0 S0 g L h) : St h0 g0 S0 g L' h :=
  have hf := hp.flatten
  ⟨s.size, s.frame, s.le, s.new, s.sub, fun p hm => s.has p (hf.mem_iff.2 hm), (hf.map _).nodup_iff.1 s.nodup, fun p hm => s.sep p (hf.mem_iff.2 hm), fun p hm => s.own p (hf.mem_iff.2 hm)⟩
theorem St.flat (hf : L.flatten = L'.flatten) (s : St h0 g0 S0 g L h) : St h0 g0 S0 g L' h :=
  ⟨s.size, s.frame, s.le, s.new, s.sub, fun p hm => s.has p (hf ▸ hm), hf ▸ s.nodup, fun p hm => s.sep p (hf ▸ hm), fun p hm => s.own p (hf ▸ hm)⟩
theorem St.lt {p : Nat × Obj} (s : St h0 g0 S0 g L h) (hp : p ∈ L.flatten) : p.1 < h.size := (Array.getElem?_eq_some_iff.1 (s.has p hp)).1
theorem St.drop (s : St h0 g0 S0 g (c :: L) h) : St h0 g0 S0 g L h := by
  refine ⟨s.size, s.frame, s.le, s.new, s.sub, fun p hp => s.has p ?_, ?_, fun p hp => s.sep p ?_, fun p hp => s.own p ?_⟩
  · simp [List.flatten_cons]; exact .inr (by simpa using hp)
  · have := s.nodup
    rw [List.flatten_cons, List.map_append, List.nodup_append] at this
    exact this.2.1
  · simp [List.flatten_cons]; exact .inr (by simpa using hp)
  · simp [List.flatten_cons]; exact .inr (by simpa using hp)
theorem St.clear (s : St h0 g0 S0 g L h) : St h0 g0 S0 g [] h :=
  ⟨s.size, s.frame, s.le, s.new, s.sub, fun _ hp => by simp at hp, by simp, fun _ hp => by simp at hp, fun _ hp => by simp at hp⟩
theorem St.alloc (s : St h0 g0 S0 g L h) (o : Obj) : St h0 g0 S0 g ([(h.size, o)] :: L) (h.push o) := by
  have old : ∀ b, b < h.size → (h.push o)[b]? = h[b]? := fun b hb => by rw [Array.getElem?_push, if_neg (by omega)]
  refine ⟨by have := s.size; simp; omega, fun b hb hs => (old b (Nat.lt_of_lt_of_le hb s.size)).trans (s.frame b hb hs), s.le, s.new,
    fun b x hb => (old b (s.sub.lt hb)).trans (s.sub b x hb), ?_, ?_, ?_, ?_⟩
  · intro p hp
    rw [List.flatten_cons, List.mem_append] at hp
    rcases hp with hp | hp
    · simp at hp; subst hp; simp
    · rw [old _ (s.lt hp)]; exact s.has p hp
  · rw [List.flatten_cons, List.map_append, List.nodup_append]
    refine ⟨by simp, s.nodup, ?_⟩
    intro x hx y hy
    simp only [List.map_cons, List.map_nil, List.mem_singleton] at hx
    obtain ⟨p, hp, rfl⟩ := List.mem_map.1 hy
    have := s.lt hp
    omega
  · intro p hp
    rw [List.flatten_cons, List.mem_append] at hp
    rcases hp with hp | hp
    · simp at hp; subst hp
      cases hg : g h.size with
      | none => rfl
      | some x => exact absurd (s.sub.lt hg) (by omega)
    · exact s.sep p hp
  · intro p hp
    rw [List.flatten_cons, List.mem_append] at hp
    rcases hp with hp | hp
    · simp at hp; subst hp; exact .inl s.size
    · exact s.own p hp
structure Upd (h : Heap) (b : Nat) (o : Obj) (h' : Heap) : Prop where
  size : h'.size = h.size
  at_ : h'[b]? = some o
  other : ∀ k, k ≠ b → h'[k]? = h[k]?
theorem Upd.refl {h : Heap} {b : Nat} {o : Obj} (hb : h[b]? = some o) : Upd h b o h := ⟨rfl, hb, fun _ _ => rfl⟩
theorem Upd.trans {h h' h'' : Heap} {b : Nat} {o o' : Obj} (u : Upd h b o h') (v : Upd h' b o' h'') : Upd h b o' h'' :=
  ⟨v.size.trans u.size, v.at_, fun k hk => (v.other k hk).trans (u.other k hk)⟩
theorem Upd.modify {h : Heap} {b : Nat} {o : Obj} (f : Obj → Obj) (hb : h[b]? = some o) : Upd h b (f o) (h.modify b f) :=
  ⟨by simp, by rw [Array.getElem?_modify, if_pos rfl, hb]; rfl, fun k hk => by rw [Array.getElem?_modify, if_neg (fun e => hk e.symm)]⟩
theorem Upd.set {h : Heap} {b : Nat} {o : Obj} (o' : Obj) (hb : h[b]? = some o) : Upd h b o' (h.setIfInBounds b o') := by
  have hlt := (Array.getElem?_eq_some_iff.1 hb).1
  exact ⟨by simp, by simp [hlt], fun k hk => by rw [Array.getElem?_setIfInBounds_ne (fun e => hk e.symm)]⟩
theorem Upd.keep {h h' : Heap} {b : Nat} {o : Obj} (u : Upd h b o h') {r : Heap} {M : Nat → Prop} (hM : b < r.size → M b) (k : Keep r M h) : Keep r M h' :=
  ⟨by rw [u.size]; exact k.size, fun x hx hm => (u.other x fun e => hm (e ▸ hM (e ▸ hx))).trans (k.same x hx hm)⟩
theorem St.upd {b : Nat} {o o' : Obj} {h' : Heap} (s : St h0 g0 S0 g ([(b, o)] :: L) h) (u : Upd h b o' h') : St h0 g0 S0 g ([(b, o')] :: L) h' := by
  have hmem : ((b, o) : Nat × Obj) ∈ ([(b, o)] :: L).flatten := by simp
  have hnot : ∀ p ∈ L.flatten, p.1 ≠ b := by
    have := s.nodup
    rw [List.flatten_cons, List.map_append, List.nodup_append] at this
    intro p hp he
    exact this.2.2 b (by simp) p.1 (List.mem_map.2 ⟨p, hp, rfl⟩) he.symm
  refine ⟨by rw [u.size]; exact s.size, ?_, s.le, s.new, ?_, ?_, by simpa [List.flatten_cons] using s.nodup, ?_, ?_⟩
  · intro x hx hs
    rcases s.own _ hmem with h1 | h1
    · rw [u.other x (by have h2 : h0.size ≤ b := h1; omega)]; exact s.frame x hx hs
    · rw [u.other x (fun e => hs (e ▸ h1))]; exact s.frame x hx hs
  · intro x y hx
    have hne : x ≠ b := fun e => by have := s.sep _ hmem; simp only at this; rw [e, this] at hx; cases hx
    rw [u.other x hne]; exact s.sub x y hx
  · intro p hp
    rw [List.flatten_cons, List.mem_append] at hp
    rcases hp with hp | hp
    · simp at hp; subst hp; exact u.at_
    · rw [u.other _ (hnot p hp)]; exact s.has p (by simp [List.flatten_cons]; exact .inr (by simpa using hp))
  · intro p hp
    rw [List.flatten_cons, List.mem_append] at hp
    rcases hp with hp | hp
    · simp at hp; subst hp; exact s.sep (b, o) hmem
    · exact s.sep p (by simp [List.flatten_cons]; exact .inr (by simpa using hp))
  · intro p hp
    rw [List.flatten_cons, List.mem_append] at hp
    rcases hp with hp | hp
    · simp at hp; subst hp; exact s.own (b, o) hmem
    · exact s.own p (by simp [List.flatten_cons]; exact .inr (by simpa using hp))
def gadd (g : GH) (c : Chunk) : GH := fun b => match c.find? (fun p => Nat.beq p.1 b) with
  | some p => some p.2
  | none => g b
theorem gadd_old {c : Chunk} (hs : ∀ p ∈ c, g p.1 = none) : gle g (gadd g c) := by
  intro b o hb
  unfold gadd
  split
  · rename_i p hp
    have h1 := List.mem_of_find?_eq_some hp
    have h2 := List.find?_some hp
    have : p.1 = b := Nat.eq_of_beq_eq_true h2
    have h3 := hs p h1
    rw [this, hb] at h3
    cases h3
  · exact hb
theorem gadd_none {c : Chunk} {b : Nat} (h1 : ∀ p ∈ c, p.1 ≠ b) : gadd g c b = g b := by
  unfold gadd
  split
  · rename_i p hp
    have h2 := List.find?_some hp
    exact absurd (Nat.eq_of_beq_eq_true h2) (h1 p (List.mem_of_find?_eq_some hp))
  · rfl
theorem gadd_one (b : Nat) (o : Obj) : gadd g [(b, o)] b = some o := by
  simp [gadd]
theorem St.freeze (s : St h0 g0 S0 g (c :: L) h) : St h0 g0 S0 (gadd g c) L h ∧ gle g (gadd g c) := by
  have hc : ∀ p ∈ c, p ∈ (c :: L).flatten := fun p hp => by simp [List.flatten_cons, hp]
  have hle : gle g (gadd g c) := gadd_old fun p hp => s.sep p (hc p hp)
  have hfind : ∀ b x, gadd g c b = some x → (∃ p ∈ c, p.1 = b ∧ p.2 = x) ∨ g b = some x := by
    intro b x hb
    unfold gadd at hb
    split at hb
    · rename_i p hp
      have h2 := List.find?_some hp
      exact .inl ⟨p, List.mem_of_find?_eq_some hp, Nat.eq_of_beq_eq_true h2, by simpa using hb⟩
    · exact .inr hb
  have hdisj : ∀ p ∈ c, ∀ q ∈ L.flatten, p.1 ≠ q.1 := by
    have := s.nodup
    rw [List.flatten_cons, List.map_append, List.nodup_append] at this
    exact fun p hp q hq => this.2.2 p.1 (List.mem_map.2 ⟨p, hp, rfl⟩) q.1 (List.mem_map.2 ⟨q, hq, rfl⟩)
  have d := s.drop
  refine ⟨⟨s.size, s.frame, s.le.trans hle, ?_, ?_, d.has, d.nodup, ?_, d.own⟩, hle⟩
  · intro b hb
    obtain ⟨x, hx⟩ := Option.ne_none_iff_exists'.1 hb
    rcases hfind b x hx with ⟨p, hp, rfl, _⟩ | h1
    · exact .inr (s.own p (hc p hp))
    · exact s.new b (by rw [h1]; simp)
  · intro b x hx
    rcases hfind b x hx with ⟨p, hp, rfl, rfl⟩ | h1
    · exact s.has p (hc p hp)
    · exact s.sub b x h1
  · intro q hq
    rw [gadd_none fun p hp => hdisj p hp q hq]
    exact d.sep q hq
theorem St.part {Lc : List Chunk} (s : St h0 g0 S0 g (Lc ++ L) h) : St h g (ids Lc) g Lc h := by
  have hm : ∀ p ∈ Lc.flatten, p ∈ (Lc ++ L).flatten := fun p hp => by rw [List.flatten_append]; exact List.mem_append_left _ hp
  refine ⟨Nat.le_refl _, fun _ _ _ => rfl, gle.refl _, fun _ hb => .inl hb, s.sub, fun p hp => s.has p (hm p hp), ?_, fun p hp => s.sep p (hm p hp), fun p hp => .inr ⟨p, hp, rfl⟩⟩
  have := s.nodup
  rw [List.flatten_append, List.map_append, List.nodup_append] at this
  exact this.1
theorem St.join {Lc Lc' : List Chunk} {g' : GH} {h' : Heap} (s : St h0 g0 S0 g (Lc ++ L) h) (t : St h g (ids Lc) g' Lc' h') : St h0 g0 S0 g' (Lc' ++ L) h' := by
  have hdisj : ∀ q ∈ L.flatten, ¬ ids Lc q.1 := by
    have := s.nodup
    rw [List.flatten_append, List.map_append, List.nodup_append] at this
    rintro q hq ⟨p, hp, he⟩
    exact this.2.2 p.1 (List.mem_map.2 ⟨p, hp, rfl⟩) q.1 (List.mem_map.2 ⟨q, hq, rfl⟩) he
  have hL : ∀ q ∈ L.flatten, q ∈ (Lc ++ L).flatten := fun q hq => by rw [List.flatten_append]; exact List.mem_append_right _ hq
  have hown : ∀ b, ids Lc b → h0.size ≤ b ∨ S0 b := by
    rintro b ⟨p, hp, rfl⟩
    exact s.own p (by rw [List.flatten_append]; exact List.mem_append_left _ hp)
  have hold : ∀ q ∈ L.flatten, h'[q.1]? = h[q.1]? := fun q hq => t.frame q.1 (s.lt (hL q hq)) (hdisj q hq)
  have hown' : ∀ b, h.size ≤ b ∨ ids Lc b → h0.size ≤ b ∨ S0 b := fun b hb => hb.elim (fun x => .inl (Nat.le_trans s.size x)) (hown b)
  refine ⟨Nat.le_trans s.size t.size, ?_, s.le.trans t.le, ?_, t.sub, ?_, ?_, ?_, ?_⟩
  · intro b hb hs
    refine (t.frame b (Nat.lt_of_lt_of_le hb s.size) fun hi => ?_).trans (s.frame b hb hs)
    rcases hown b hi with h1 | h1
    · omega
    · exact hs h1
  · intro b hb
    rcases t.new b hb with h1 | h1
    · exact s.new b h1
    · exact .inr (hown' b h1)
  · intro p hp
    rw [List.flatten_append, List.mem_append] at hp
    rcases hp with hp | hp
    · exact t.has p hp
    · rw [hold p hp]; exact s.has p (hL p hp)
  · rw [List.flatten_append, List.map_append, List.nodup_append]
    have hn := s.nodup
    rw [List.flatten_append, List.map_append, List.nodup_append] at hn
    refine ⟨t.nodup, hn.2.1, ?_⟩
    intro x hx y hy he
    obtain ⟨p, hp, rfl⟩ := List.mem_map.1 hx
    obtain ⟨q, hq, rfl⟩ := List.mem_map.1 hy
    rcases t.own p hp with h1 | h1
    · have := s.lt (hL q hq); omega
    · exact hdisj q hq (he ▸ h1)
  · intro p hp
    rw [List.flatten_append, List.mem_append] at hp
    rcases hp with hp | hp
    · exact t.sep p hp
    · cases hg : g' p.1 with
      | none => rfl
      | some x =>
        exfalso
        rcases t.new p.1 (by rw [hg]; simp) with h1 | h1 | h1
        · exact h1 (s.sep p (hL p hp))
        · have := s.lt (hL p hp); omega
        · exact hdisj p hp h1
  · intro p hp
    rw [List.flatten_append, List.mem_append] at hp
    rcases hp with hp | hp
    · exact hown' _ (t.own p hp)
    · exact s.own p (hL p hp)
theorem St.keep {r : Heap} {M : Nat → Prop} (t : St h0 g0 S0 g L h) (hM : ∀ b, b < r.size → S0 b → M b) (k : Keep r M h0) : Keep r M h :=
  k.trans ⟨t.size, t.frame⟩ hM
theorem St.call {g' : GH} {Lc' : List Chunk} {h' : Heap} (s : St h0 g0 S0 g L h) (t : St h g (ids []) g' Lc' h') : St h0 g0 S0 g' (Lc' ++ L) h' := St.join (Lc := []) s t
theorem ids_nil (b : Nat) : ¬ ids [] b := fun ⟨_, hp, _⟩ => by simp at hp
end
def hcell (h : Heap) (a : Addr) : Option Value :=
  match h[a.block]? with
  | some (.cells c _ _) => if a.spot.isSome then none else c[a.off]?
  | _ => none
theorem cell_of {w : World} {h : Heap} (hh : w.heap = h) (a : Addr) : w.cell? a = hcell h a := by subst hh; rfl
theorem hcell_row {h : Heap} {b : Nat} {cs : Array Value} {T : TypeId} {fz : Nat × Nat} (hb : h[b]? = some (.cells cs T fz)) (o : Nat) : hcell h ⟨b, o, none⟩ = cs[o]? := by
  simp [hcell, hb]
theorem add_flat (b o n : Nat) : (⟨b, o, none⟩ : Addr).add n = ⟨b, o + n, none⟩ := by unfold Addr.add; split <;> simp_all
section
variable {P : Program} {B : World} {h : Heap}
theorem run_load_cell {w : World} {a : Addr} {v : Value} (hc : w.cell? a = some v) : (load a).run P w = .ok v w := by simp [hc]
theorem run_loadCells {w : World} (a : Addr) : ∀ (vs : List Value) (i : Nat) (acc : Array Value), (∀ j v, vs[j]? = some v → w.cell? (a.add (i + j)) = some v) →
    (loadCellsFrom a i vs.length acc).run P w = .ok (acc ++ vs.toArray) w := by
  intro vs
  induction vs with
  | nil => intro i acc _; simp [loadCellsFrom]
  | cons v vs ih =>
    intro i acc hc
    simp only [List.length_cons, loadCellsFrom, Sem.run_bind]
    rw [run_load_cell (by simpa using hc 0 v rfl)]
    simp only [Result.andThen_ok]
    rw [ih (i + 1) (acc.push v) fun j u hj => by have := hc (j + 1) u (by simpa using hj); rwa [show i + 1 + j = i + (j + 1) from by omega]]
    simp
def shapeT (P : Program) (T : TypeId) : Option (Bool × Nat) :=
  match P.underlying T, P.info? T with
  | some d, some i => some (match d with | .struct _ | .array _ _ => true | _ => false, i.size)
  | _, _ => none
theorem run_loadVar_one {w : World} {T : TypeId} {n : Nat} (hT : shapeT P T = some (false, n)) {a : Addr} {v : Value} (hc : w.cell? a = some v) : (loadVar T a).run P w = .ok v w := by
  unfold shapeT at hT
  cases hu : P.underlying T with
  | none => simp [hu] at hT
  | some d =>
    cases hi : P.info? T with
    | none => simp [hu, hi] at hT
    | some i =>
      simp only [hu, hi, Option.some.injEq, Prod.mk.injEq] at hT
      unfold loadVar isAgg underlying
      simp only [Sem.run_bind, run_program, Result.andThen_ok, hu, Sem.run_pure]
      cases d <;> simp_all
theorem run_loadVar_agg {w : World} {T : TypeId} {n : Nat} (hT : shapeT P T = some (true, n)) {a : Addr} {vs : List Value} (hl : vs.length = n) (hc : ∀ j v, vs[j]? = some v → w.cell? (a.add j) = some v) :
    (loadVar T a).run P w = .ok (.agg vs.toArray) w := by
  unfold shapeT at hT
  cases hu : P.underlying T with
  | none => simp [hu] at hT
  | some d =>
    cases hi : P.info? T with
    | none => simp [hu, hi] at hT
    | some i =>
      simp only [hu, hi, Option.some.injEq, Prod.mk.injEq] at hT
      obtain ⟨hd, hn⟩ := hT
      have hload := run_loadCells (P := P) a vs 0 #[] (fun j v hj => by simpa using hc j v hj)
      rw [hl, ← hn] at hload
      unfold loadVar isAgg underlying sizeOf typeInfo loadCells
      cases d <;> simp_all
end
end Go.Proofs.YtmjebehhpojihaaGreatDoor.Sw
namespace Go.Proofs.YtmjebehhpojihaaGreatDoor.Sw
set_option linter.unusedVariables false
set_option linter.unusedSimpArgs false
set_option linter.deprecated false
open Go
def nextDO (C : Ctx) (i j : Nat) (e : Env) : Option (Option Tmp × Go.Op) := (nextOp C i j e).map fun o => (o.dst, o.op)
theorem nextDO_spec {C : Ctx} {i j : Nat} {e : Env} {d : Option Tmp} {op : Go.Op} (h : nextDO C i j e = some (d, op)) : ∃ o, nextOp C i j e = some o ∧ o.dst = d ∧ o.op = op := by
  obtain ⟨o, h1, h2⟩ := Option.map_eq_some_iff.1 h
  simp only [Prod.mk.injEq] at h2
  exact ⟨o, h1, h2.1, h2.2⟩
section
variable {h0 : Heap} {g0 : GH} {S0 : Nat → Prop} {g : GH} {L L' : List Chunk} {h : Heap}
theorem flatten_front : ∀ (k : Nat) (L : List Chunk) (c : Chunk), L[k]? = some c → (c :: L.eraseIdx k).Perm L
  | 0, x :: L, c, h => by simp at h; subst h; exact .refl _
  | k + 1, x :: L, c, h => by
    simp only [List.getElem?_cons_succ] at h
    exact ((List.Perm.swap x c (L.eraseIdx k))).trans ((flatten_front k L c h).cons x)
  | _, [], c, h => by simp at h
theorem set_front : ∀ (k : Nat) (L : List Chunk) (c c' : Chunk), L[k]? = some c → (c' :: L.eraseIdx k).Perm (L.set k c')
  | 0, x :: L, c, c', h => by simp
  | k + 1, x :: L, c, c', h => by
    simp only [List.getElem?_cons_succ] at h
    exact ((List.Perm.swap x c' (L.eraseIdx k))).trans ((set_front k L c c' h).cons x)
  | _, [], c, c', h => by simp at h
theorem St.chunk (s : St h0 g0 S0 g L h) (k : Nat) {b : Nat} {o : Obj} (hk : L[k]? = some [(b, o)]) : h[b]? = some o :=
  s.has (b, o) (List.mem_flatten.2 ⟨_, List.mem_of_getElem? hk, by simp⟩)
theorem St.front (s : St h0 g0 S0 g L h) (k : Nat) {c : Chunk} (hk : L[k]? = some c) : St h0 g0 S0 g (c :: L.eraseIdx k) h := s.perm (flatten_front k L c hk).symm
theorem St.updAt (s : St h0 g0 S0 g L h) (k : Nat) {b : Nat} {o o' : Obj} (hk : L[k]? = some [(b, o)]) {h' : Heap} (u : Upd h b o' h') : St h0 g0 S0 g (L.set k [(b, o')]) h' :=
  ((s.front k hk).upd u).perm (set_front k L _ _ hk)
end
section
variable {C : Ctx} {ds : List Deferred} {i j : Nat} {r : Heap} {M : Nat → Prop} {Ls : List (Nat × Bool)} {e : Env} {h : Heap}
variable {h0 : Heap} {g0 : GH} {S0 : Nat → Prop} {g : GH} {L L' : List Chunk}
theorem Keep.push {r : Heap} {M : Nat → Prop} {h : Heap} (o : Obj) (k : Keep r M h) : Keep r M (h.push o) :=
  ⟨by have := k.size; simp; omega, fun b hb hm => by rw [Array.getElem?_push, if_neg (by have := k.size; omega)]; exact k.same b hb hm⟩
theorem Op.box {d : Nat} {T : TypeId} {x : Operand} {cs : Array Value} (ho : nextDO C i j e = some (some d, .box T x)) (hc : (e.ev x).cells = cs) (s : St h0 g0 S0 g L h)
    (K : ∀ b h', St h0 g0 S0 g ([(b, .cells cs T (0, 0))] :: L) h' → Op C ds i r M Ls ((d, .pointer (some ⟨b, 0, none⟩)) :: e) h') : Op C ds i r M ((j, false) :: Ls) e h := by
  obtain ⟨o, h1, h2, h3⟩ := nextDO_spec ho
  refine Op.run h1 (R := fun nx h' => nx = .value (.pointer (some ⟨h.size, 0, none⟩)) ∧ h' = h.push (.cells cs T (0, 0))) ?_ ?_
  · intro w is
    refine ⟨.value (.pointer (some ⟨h.size, 0, none⟩)), { w with heap := w.heap.push (.cells cs T (0, 0)) }, ?_, ⟨rfl, is.os, is.tape, is.output⟩, rfl, by rw [← is.heap]⟩
    unfold semOf execOp
    simp only [h3, Instr.box, newVar, newRow, Sem.run_bind, run_newObj, Result.andThen_ok, Sem.run_pure, hc, is.heap]
  · rintro _ _ ⟨rfl, rfl⟩
    refine ⟨_, rfl, Keep.push _, ?_⟩
    rw [h2]
    exact K _ _ (s.alloc _)
theorem Op.load {d : Nat} {T : TypeId} {x : Operand} {b o n : Nat} {v : Value} (ho : nextDO C i j e = some (some d, .load T x)) (hx : e.ev x = .pointer (some ⟨b, o, none⟩))
    (hT : shapeT C.P T = some (false, n)) {cs : Array Value} {U : TypeId} {fz : Nat × Nat} (hb : h[b]? = some (.cells cs U fz)) (hv : cs[o]? = some v)
    (K : Op C ds i r M Ls ((d, v) :: e) h) : Op C ds i r M ((j, false) :: Ls) e h := by
  obtain ⟨o', h1, h2, h3⟩ := nextDO_spec ho
  refine Op.take h1 (v := v) (fun _ => by simp [needs, h3]) (fun w is hk hw => ?_) (by rw [h2]; exact K)
  unfold semOf execOp
  have hc : w.cell? ⟨b, o, none⟩ = some v := by rw [cell_of (hw rfl), hcell_row hb, hv]
  simp only [h3, hx, Instr.loadAt, Instr.sureAddr, Sem.run_bind, Sem.run_pure, Result.andThen_ok, run_loadVar_one hT hc]
theorem Op.loadF {d : Nat} {T : TypeId} {x : Operand} {b o n : Nat} {v : Value} (ho : nextDO C i j e = some (some d, .load T x)) (hx : e.ev x = .pointer (some ⟨b, o, none⟩))
    (hT : shapeT C.P T = some (false, n)) {cs : Array Value} {U : TypeId} {fz : Nat × Nat} (hM : ¬ M b) (hb : r[b]? = some (.cells cs U fz)) (hv : cs[o]? = some v)
    (K : Op C ds i r M Ls ((d, v) :: e) h) : Op C ds i r M ((j, true) :: Ls) e h := by
  obtain ⟨o', h1, h2, h3⟩ := nextDO_spec ho
  refine Op.take h1 (v := v) (fun _ => by simp [needs, h3]) (fun w is hk hw => ?_) (by rw [h2]; exact K)
  unfold semOf execOp
  have hb' := (hk.same b (Array.getElem?_eq_some_iff.1 hb).1 hM).trans hb
  have hc : w.cell? ⟨b, o, none⟩ = some v := by rw [cell_of rfl, hcell_row hb', hv]
  simp only [h3, hx, Instr.loadAt, Instr.sureAddr, Sem.run_bind, Sem.run_pure, Result.andThen_ok, run_loadVar_one hT hc]
def cut (cs : Array Value) (o n : Nat) : List Value := (cs.toList.drop o).take n
theorem cut_at {cs : Array Value} {o n : Nat} {vs : List Value} (hv : cut cs o n = vs) {h : Heap} {b : Nat} {U : TypeId} {fz : Nat × Nat} (hb : h[b]? = some (.cells cs U fz)) (k : Nat) (v : Value) (hk : vs[k]? = some v) :
    hcell h (Addr.add ⟨b, o, none⟩ k) = some v := by
  rw [add_flat, hcell_row hb]
  subst hv
  unfold cut at hk
  rw [List.getElem?_take] at hk
  split at hk
  · simpa using hk
  · cases hk
theorem Op.loadA {d : Nat} {T : TypeId} {x : Operand} {b o n : Nat} {vs : List Value} (ho : nextDO C i j e = some (some d, .load T x)) (hx : e.ev x = .pointer (some ⟨b, o, none⟩))
    (hT : shapeT C.P T = some (true, n)) {cs : Array Value} {U : TypeId} {fz : Nat × Nat} (hb : h[b]? = some (.cells cs U fz)) (hv : cut cs o n = vs) (hl : vs.length = n)
    (K : Op C ds i r M Ls ((d, .agg vs.toArray) :: e) h) : Op C ds i r M ((j, false) :: Ls) e h := by
  obtain ⟨o', h1, h2, h3⟩ := nextDO_spec ho
  refine Op.take h1 (v := .agg vs.toArray) (fun _ => by simp [needs, h3]) (fun w is hk hw => ?_) (by rw [h2]; exact K)
  unfold semOf execOp
  simp only [h3, hx, Instr.loadAt, Instr.sureAddr, Sem.run_bind, Sem.run_pure, Result.andThen_ok, run_loadVar_agg hT hl fun k v hk => by rw [cell_of (hw rfl)]; exact cut_at hv hb k v hk]
theorem Op.loadAF {d : Nat} {T : TypeId} {x : Operand} {b o n : Nat} {vs : List Value} (ho : nextDO C i j e = some (some d, .load T x)) (hx : e.ev x = .pointer (some ⟨b, o, none⟩))
    (hT : shapeT C.P T = some (true, n)) {cs : Array Value} {U : TypeId} {fz : Nat × Nat} (hM : ¬ M b) (hb : r[b]? = some (.cells cs U fz)) (hv : cut cs o n = vs) (hl : vs.length = n)
    (K : Op C ds i r M Ls ((d, .agg vs.toArray) :: e) h) : Op C ds i r M ((j, true) :: Ls) e h := by
  obtain ⟨o', h1, h2, h3⟩ := nextDO_spec ho
  refine Op.take h1 (v := .agg vs.toArray) (fun _ => by simp [needs, h3]) (fun w is hk hw => ?_) (by rw [h2]; exact K)
  unfold semOf execOp
  have hb' := (hk.same b (Array.getElem?_eq_some_iff.1 hb).1 hM).trans hb
  simp only [h3, hx, Instr.loadAt, Instr.sureAddr, Sem.run_bind, Sem.run_pure, Result.andThen_ok, run_loadVar_agg hT hl fun k v hk => by rw [cell_of rfl]; exact cut_at hv hb' k v hk]
end
end Go.Proofs.YtmjebehhpojihaaGreatDoor.Sw
namespace Go.Proofs.YtmjebehhpojihaaGreatDoor.Sw
set_option linter.unusedVariables false
set_option linter.unusedSimpArgs false
set_option linter.deprecated false
open Go
def mkS (l : List UInt8) : ByteArray := ⟨l.toArray⟩
theorem toList_loop (s : ByteArray) : ∀ (d i : Nat) (r : List UInt8), s.size - i = d → ByteArray.toList.loop s i r = r.reverse ++ s.data.toList.drop i := by
  have hsz : s.data.toList.length = s.size := Array.length_toList
  intro d
  induction d with
  | zero =>
    intro i r h
    unfold ByteArray.toList.loop
    rw [if_neg (by omega), List.drop_eq_nil_of_le (by omega)]
    simp
  | succ d ih =>
    intro i r h
    unfold ByteArray.toList.loop
    have hi : i < s.size := by omega
    rw [if_pos hi, ih (i + 1) _ (by omega)]
    have hi' : i < s.data.toList.length := by omega
    rw [List.drop_eq_getElem_cons hi']
    have : s.get! i = s.data.toList[i] := by
      have hi2 : i < s.data.size := hi
      show s.data[i]! = _
      rw [getElem!_pos s.data i hi2]
      simp
    rw [this]
    simp
theorem toList_data (s : ByteArray) : s.toList = s.data.toList := by
  unfold ByteArray.toList
  rw [toList_loop s _ 0 [] rfl]
  simp
theorem toList_mkS (l : List UInt8) : (mkS l).toList = l := by rw [toList_data]; rfl
theorem mkS_data (s : ByteArray) : mkS s.data.toList = s := by cases s; rfl
theorem size_mkS (l : List UInt8) : (mkS l).size = l.length := by simp [mkS, ByteArray.size]
theorem append_mkS (a b : List UInt8) : mkS a ++ mkS b = mkS (a ++ b) := by
  apply ByteArray.ext
  rw [ByteArray.data_append]
  simp [mkS]
theorem extract_mkS (l : List UInt8) (a b : Nat) : (mkS l).extract a b = mkS ((l.take b).drop a) := by
  apply ByteArray.ext
  rw [ByteArray.data_extract]
  simp [mkS, List.drop_take]
theorem get_mkS (l : List UInt8) (i : Nat) : (mkS l)[i]? = l[i]? := by
  have h1 : (mkS l)[i]? = (mkS l).data[i]? := by
    by_cases h : i < (mkS l).size
    · rw [getElem?_pos (mkS l) i h]
      have h2 : i < (mkS l).data.size := h
      rw [Array.getElem?_eq_getElem h2]
      rfl
    · rw [getElem?_neg (mkS l) i h]
      have h2 : ¬ i < (mkS l).data.size := h
      rw [Array.getElem?_eq_none (by omega)]
  rw [h1]
  simp [mkS]
theorem mkS_inj {a b : List UInt8} (h : mkS a = mkS b) : a = b := by
  have := congrArg ByteArray.toList h
  rwa [toList_mkS, toList_mkS] at this
structure Kd (α : Type) where
  sz : Nat
  K : GH → α → List Value → Prop
  len : ∀ {g x cs}, K g x cs → cs.length = sz
  one : ∀ {g x cs}, K g x cs → ∀ v ∈ cs, v.oneCell' = true
  mono : ∀ {g g' x cs}, gle g g' → K g x cs → K g' x cs
  zv : α
  zc : List Value
  zK : ∀ g, K g zv zc
def kInt (k : IntKind) : Kd Int where
  sz := 1
  K _ x cs := cs = [.int k x]
  len h := by subst h; rfl
  one h := by subst h; simp [Value.oneCell']
  mono _ h := h
  zv := 0
  zc := [.int k 0]
  zK _ := rfl
def kU8 : Kd UInt8 where
  sz := 1
  K _ x cs := cs = [.int .u8 x.toNat]
  len h := by subst h; rfl
  one h := by subst h; simp [Value.oneCell']
  mono _ h := h
  zv := 0
  zc := [.int .u8 0]
  zK _ := rfl
def kBool : Kd Bool where
  sz := 1
  K _ x cs := cs = [.bool x]
  len h := by subst h; rfl
  one h := by subst h; simp [Value.oneCell']
  mono _ h := h
  zv := false
  zc := [.bool false]
  zK _ := rfl
def kStr : Kd (List UInt8) where
  sz := 1
  K _ x cs := cs = [.string (mkS x)]
  len h := by subst h; rfl
  one h := by subst h; simp [Value.oneCell']
  mono _ h := h
  zv := []
  zc := [.string (mkS [])]
  zK _ := rfl
def Reads {α : Type} (d : Kd α) (g : GH) : List α → List Value → Prop
  | [], cs => cs = []
  | x :: xs, cs => ∃ c cs', cs = c ++ cs' ∧ d.K g x c ∧ Reads d g xs cs'
section
variable {α : Type} {d : Kd α} {g g' : GH}
theorem Reads.len : ∀ {xs : List α} {cs : List Value}, Reads d g xs cs → cs.length = xs.length * d.sz
  | [], _, h => by simp only [Reads] at h; subst h; simp
  | _ :: xs, _, h => by
    obtain ⟨c, cs', rfl, hk, h⟩ := h
    rw [List.length_append, d.len hk, h.len, List.length_cons, Nat.succ_mul]
    omega
theorem Reads.one : ∀ {xs : List α} {cs : List Value}, Reads d g xs cs → ∀ v ∈ cs, v.oneCell' = true
  | [], _, h, v, hv => by simp only [Reads] at h; subst h; simp at hv
  | _ :: xs, _, h, v, hv => by
    obtain ⟨c, cs', rfl, hk, h⟩ := h
    rcases List.mem_append.1 hv with hv | hv
    · exact d.one hk v hv
    · exact h.one v hv
theorem Reads.mono (hg : gle g g') : ∀ {xs : List α} {cs : List Value}, Reads d g xs cs → Reads d g' xs cs
  | [], _, h => h
  | _ :: _, _, ⟨c, cs', e, hk, h⟩ => ⟨c, cs', e, d.mono hg hk, h.mono hg⟩
theorem Reads.append : ∀ {xs ys : List α} {cs cs' : List Value}, Reads d g xs cs → Reads d g ys cs' → Reads d g (xs ++ ys) (cs ++ cs')
  | [], _, _, _, h, k => by simp only [Reads] at h; subst h; exact k
  | _ :: _, _, _, _, ⟨c, cs₁, e, hk, h⟩, k => ⟨c, cs₁ ++ _, by rw [e, List.append_assoc], hk, h.append k⟩
theorem Reads.single {x : α} {c : List Value} (hk : d.K g x c) : Reads d g [x] c := ⟨c, [], by simp, hk, rfl⟩
theorem Reads.nil : Reads d g [] [] := rfl
theorem take_add_or {c cs' : List Value} {n : Nat} : (c ++ cs').take (c.length + n) = c ++ cs'.take n := by rw [List.take_append, List.take_of_length_le (by omega), Nat.add_sub_cancel_left]
theorem drop_add_or {c cs' : List Value} {n : Nat} : (c ++ cs').drop (c.length + n) = cs'.drop n := by rw [List.drop_append, List.drop_eq_nil_of_le (by omega), Nat.add_sub_cancel_left, List.nil_append]
theorem Reads.parts : ∀ (k : Nat) {xs : List α} {cs : List Value}, Reads d g xs cs → k ≤ xs.length → Reads d g (xs.take k) (cs.take (k * d.sz)) ∧ Reads d g (xs.drop k) (cs.drop (k * d.sz))
  | 0, _, _, h, _ => by simpa [Reads] using h
  | k + 1, [], _, _, hk => by simp at hk
  | k + 1, x :: xs, cs, h, hk => by
    obtain ⟨c, cs', rfl, hx, h⟩ := h
    have hl := d.len hx
    obtain ⟨h1, h2⟩ := h.parts k (by simpa using hk)
    rw [show (k + 1) * d.sz = c.length + k * d.sz from by rw [hl, Nat.succ_mul]; omega]
    rw [take_add_or, drop_add_or]
    exact ⟨⟨c, _, rfl, hx, h1⟩, h2⟩
theorem Reads.at_ {xs : List α} {cs : List Value} (h : Reads d g xs cs) (i : Nat) {x : α} (hi : xs[i]? = some x) : d.K g x ((cs.drop (i * d.sz)).take d.sz) := by
  have hlt : i < xs.length := (List.getElem?_eq_some_iff.1 hi).1
  have h2 := (h.parts i (by omega)).2
  have hd : xs.drop i = x :: xs.drop (i + 1) := by
    rw [List.drop_eq_getElem_cons hlt]
    have := (List.getElem?_eq_some_iff.1 hi).2
    rw [this]
  rw [hd] at h2
  obtain ⟨c, cs', e, hk, _⟩ := h2
  rw [e, List.take_left' (d.len hk)]
  exact hk
theorem Reads.set {xs : List α} {cs : List Value} (h : Reads d g xs cs) (i : Nat) (hi : i < xs.length) {x : α} {c : List Value} (hk : d.K g x c) :
    Reads d g (xs.set i x) (cs.take (i * d.sz) ++ c ++ cs.drop (i * d.sz + d.sz)) := by
  have h1 := (h.parts i (by omega)).1
  have h2 := (h.parts (i + 1) (by omega)).2
  rw [Nat.succ_mul] at h2
  rw [List.set_eq_take_append_cons_drop, if_pos hi]
  rw [show cs.take (i * d.sz) ++ c ++ cs.drop (i * d.sz + d.sz) = cs.take (i * d.sz) ++ (c ++ cs.drop (i * d.sz + d.sz)) from by simp]
  exact h1.append ⟨c, _, rfl, hk, h2⟩
end
def SlH {α : Type} (h : Heap) (g : GH) (T : TypeId) (d : Kd α) (v : Value) (xs : List α) : Prop :=
  ∃ ao c, v = .slice ao xs.length c ∧ xs.length ≤ c ∧ (xs ≠ [] → ∃ (b o : Nat) (cur : Array Value) (fz : TypeId × Nat × Nat), ao = some ⟨b, o, none⟩ ∧ h[b]? = some (.cells cur fz.1 fz.2) ∧ Reads d g xs (cut cur o (xs.length * d.sz)))
def SlR {α : Type} (g : GH) (T : TypeId) (d : Kd α) (v : Value) (xs : List α) : Prop :=
  ∃ ao c, v = .slice ao xs.length c ∧ xs.length ≤ c ∧ (xs ≠ [] → ∃ (b o : Nat) (cur : Array Value) (fz : TypeId × Nat × Nat), ao = some ⟨b, o, none⟩ ∧ g b = some (.cells cur fz.1 fz.2) ∧ Reads d g xs (cut cur o (xs.length * d.sz)))
def kSl {α : Type} (T : TypeId) (d : Kd α) : Kd (List α) where
  sz := 1
  K g xs cs := ∃ v, cs = [v] ∧ SlR g T d v xs
  len h := by obtain ⟨v, rfl, _⟩ := h; rfl
  one h := by obtain ⟨v, rfl, ao, c, rfl, _⟩ := h; simp [Value.oneCell']
  mono hg h := by
    obtain ⟨v, e, ao, c, e2, hc, h⟩ := h
    exact ⟨v, e, ao, c, e2, hc, fun hx => let ⟨b, o, cur, fz, e3, hb, hr⟩ := h hx; ⟨b, o, cur, fz, e3, hg _ _ hb, hr.mono hg⟩⟩
  zv := []
  zc := [.slice none 0 0]
  zK _ := ⟨_, rfl, none, 0, rfl, Nat.zero_le _, fun h => absurd rfl h⟩
section
variable {α : Type} {d : Kd α} {g g' : GH} {h h' : Heap} {T : TypeId} {v : Value} {xs : List α}
theorem SlR.mono (hs : SlR g T d v xs) (hg : gle g g') : SlR g' T d v xs := by
  obtain ⟨ao, c, e2, hc, h⟩ := hs
  exact ⟨ao, c, e2, hc, fun hx => let ⟨b, o, cur, fz, e3, hb, hr⟩ := h hx; ⟨b, o, cur, fz, e3, hg _ _ hb, hr.mono hg⟩⟩
theorem SlR.toH (hs : SlR g T d v xs) (sub : Sub g h) : SlH h g T d v xs := by
  obtain ⟨ao, c, e2, hc, H⟩ := hs
  exact ⟨ao, c, e2, hc, fun hx => let ⟨b, o, cur, fz, e3, hb, hr⟩ := H hx; ⟨b, o, cur, fz, e3, sub _ _ hb, hr⟩⟩
theorem SlR.form (hs : SlR g T d v xs) : ∃ ao c, v = .slice ao xs.length c := let ⟨ao, c, e, _⟩ := hs; ⟨ao, c, e⟩
theorem SlH.form (hs : SlH h g T d v xs) : ∃ ao c, v = .slice ao xs.length c := let ⟨ao, c, e, _⟩ := hs; ⟨ao, c, e⟩
theorem SlR.nil (g : GH) (T : TypeId) (d : Kd α) : SlR g T d (.slice none 0 0) [] := ⟨none, 0, rfl, Nat.zero_le _, fun h => absurd rfl h⟩
theorem SlR.empty (g : GH) (T : TypeId) (d : Kd α) (ao : Option Addr) (c : Nat) : SlR g T d (.slice ao 0 c) [] := ⟨ao, c, rfl, Nat.zero_le _, fun h => absurd rfl h⟩
theorem cut_cut (cur : Array Value) (o n k m : Nat) (h : k + m ≤ n) : ((cut cur o n).drop k).take m = cut cur (o + k) m := by
  unfold cut
  rw [List.drop_take, List.take_take, List.drop_drop, Nat.min_eq_left (by omega)]
theorem SlH.at_ {ao : Option Addr} {n c : Nat} (hs : SlH h g T d (.slice ao n c) xs) (i : Nat) {x : α} (hi : xs[i]? = some x) :
    ∃ (b o : Nat) (cur : Array Value) (fz : TypeId × Nat × Nat), ao = some ⟨b, o, none⟩ ∧ h[b]? = some (.cells cur fz.1 fz.2) ∧ d.K g x (cut cur (o + i * d.sz) d.sz) := by
  obtain ⟨ao', c', e, hc, H⟩ := hs
  simp only [Value.slice.injEq] at e
  obtain ⟨rfl, rfl, rfl⟩ := e
  have hlt : i < xs.length := (List.getElem?_eq_some_iff.1 hi).1
  obtain ⟨b, o, cur, fz, e, hb, hr⟩ := H (by intro hx; subst hx; simp at hlt)
  refine ⟨b, o, cur, fz, e, hb, ?_⟩
  have := hr.at_ i hi
  rwa [cut_cut] at this
  have : (i + 1) * d.sz ≤ xs.length * d.sz := Nat.mul_le_mul_right _ hlt
  rw [Nat.succ_mul] at this
  exact this
end
def Row {α : Type} (T : TypeId) (d : Kd α) (g : GH) (v : Value) (xs : List α) (c : Chunk) : Prop :=
  (∃ ao, v = .slice ao 0 0 ∧ xs = [] ∧ c = []) ∨
  ∃ (b o cap : Nat) (cur : Array Value) (rest : List α), v = .slice (some ⟨b, o, none⟩) xs.length cap ∧ c = [(b, .cells cur T (0, 0))] ∧ xs.length + rest.length = cap ∧ cap ≤ maxLen ∧ o + cap * d.sz ≤ cur.size ∧ Reads d g (xs ++ rest) (cut cur o (cap * d.sz))
section
variable {α : Type} {d : Kd α} {g g' : GH} {h h' : Heap} {T : TypeId} {v : Value} {xs : List α} {c : Chunk}
theorem Row.nil (T : TypeId) (d : Kd α) (g : GH) : Row T d g (.slice none 0 0) [] [] := .inl ⟨none, rfl, rfl, rfl⟩
theorem Row.zero (T : TypeId) (d : Kd α) (g : GH) (ao : Option Addr) : Row T d g (.slice ao 0 0) [] [] := .inl ⟨ao, rfl, rfl, rfl⟩
theorem reads_left {rest : List α} {cur : Array Value} {o cap : Nat} (hl : xs.length + rest.length = cap) (h : Reads d g (xs ++ rest) (cut cur o (cap * d.sz))) : Reads d g xs (cut cur o (xs.length * d.sz)) := by
  have h1 := (h.parts xs.length (by simp)).1
  rw [List.take_left' rfl] at h1
  have : (cut cur o (cap * d.sz)).take (xs.length * d.sz) = cut cur o (xs.length * d.sz) := by
    unfold cut
    rw [List.take_take, Nat.min_eq_left (Nat.mul_le_mul_right _ (by omega))]
  rwa [this] at h1
theorem Row.old (hr : Row T d g v xs c) : (∃ ao, v = .slice ao 0 0 ∧ xs = [] ∧ c = []) ∨
    ∃ (b o cap : Nat) (cur : Array Value), v = .slice (some ⟨b, o, none⟩) xs.length cap ∧ c = [(b, .cells cur T (0, 0))] ∧ xs.length ≤ cap ∧ cap ≤ maxLen ∧ o + cap * d.sz ≤ cur.size ∧ Reads d g xs (cut cur o (xs.length * d.sz)) := by
  rcases hr with h | ⟨b, o, cap, cur, rest, e1, e2, h1, h2, h3, h4⟩
  · exact .inl h
  · exact .inr ⟨b, o, cap, cur, e1, e2, by omega, h2, h3, reads_left h1 h4⟩
theorem Row.lit {b o cap : Nat} {cur : Array Value} (hl : Nat.beq xs.length cap = true) (h2 : cap ≤ maxLen) (h3 : Nat.ble (o + cap * d.sz) cur.size = true) (h4 : Reads d g xs (cut cur o (cap * d.sz))) :
    Row T d g (.slice (some ⟨b, o, none⟩) cap cap) xs [(b, .cells cur T (0, 0))] := by
  have hl := Nat.eq_of_beq_eq_true hl
  exact .inr ⟨b, o, cap, cur, [], by rw [hl], rfl, by simpa using hl, h2, Nat.le_of_ble_eq_true h3, by rw [List.append_nil]; exact h4⟩
theorem Row.mono (hr : Row T d g v xs c) (hg : gle g g') : Row T d g' v xs c := by
  rcases hr with h | ⟨b, o, cap, cur, rest, e1, e2, h1, h2, h3, h4⟩
  · exact .inl h
  · exact .inr ⟨b, o, cap, cur, rest, e1, e2, h1, h2, h3, h4.mono hg⟩
theorem Row.form (hr : Row T d g v xs c) : ∃ ao cap, v = .slice ao xs.length cap := by
  rcases hr with ⟨ao, rfl, rfl, _⟩ | ⟨b, o, cap, cur, rest, e1, _⟩
  · exact ⟨ao, 0, rfl⟩
  · exact ⟨_, _, e1⟩
theorem Row.toH {h0 : Heap} {g0 : GH} {S0 : Nat → Prop} {L : List Chunk} (hr : Row T d g v xs c) (s : St h0 g0 S0 g L h) (k : Nat) (hk : L[k]? = some c) : SlH h g T d v xs := by
  rcases hr.old with ⟨ao, rfl, rfl, _⟩ | ⟨b, o, cap, cur, rfl, rfl, h1, h2, h3, h4⟩
  · exact ⟨ao, 0, rfl, Nat.zero_le _, fun h => absurd rfl h⟩
  · exact ⟨_, cap, rfl, h1, fun _ => ⟨b, o, cur, (T, 0, 0), rfl, s.chunk k hk, h4⟩⟩
theorem Row.freeze {h0 : Heap} {g0 : GH} {S0 : Nat → Prop} {L : List Chunk} (hr : Row T d g v xs c) (s : St h0 g0 S0 g (c :: L) h) :
    ∃ g', St h0 g0 S0 g' L h ∧ gle g g' ∧ SlR g' T d v xs := by
  obtain ⟨s', hle⟩ := s.freeze
  refine ⟨_, s', hle, ?_⟩
  rcases hr.old with ⟨ao, rfl, rfl, _⟩ | ⟨b, o, cap, cur, rfl, rfl, h1, h2, h3, h4⟩
  · exact SlR.empty _ _ _ _ _
  · exact ⟨_, cap, rfl, h1, fun _ => ⟨b, o, cur, (T, 0, 0), rfl, gadd_one _ _, h4.mono hle⟩⟩
end
end Go.Proofs.YtmjebehhpojihaaGreatDoor.Sw
