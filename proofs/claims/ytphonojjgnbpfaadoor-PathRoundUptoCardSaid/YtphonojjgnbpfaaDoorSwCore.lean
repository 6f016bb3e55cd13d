/- The symbolic walk, part 1: runs of one frame, region by region, over the kit's steps of the machine. Own text. -/
import Derived.RangeFuncIn
import Derived.OrdersHeld
import Derived.KernelRfl
namespace Go.Proofs.YtphonojjgnbpfaaDoor.Sw
set_option linter.unusedVariables false
set_option linter.unusedSimpArgs false
set_option linter.deprecated false
open Go

/-! ### 1. Runs of a frame -/
/-- How a frame's code is left: off its end, by ret, by an exit that nothing in the frame catches. -/
inductive Leave : Option Code → List Item → Prop
  | fin : Leave none []
  | ret (k : List Item) : Leave (some .ret) (.code .ret :: k)
  | exit (id : Nat) (k : List Item) (h : exitTo id k = none) : Leave (some (.exit id)) (.code (.exit id) :: k)

def RunK (P : Program) (ro : Option Nat) (fn : FuncId) (Q : Option Code → Act → World → Prop) (k : List Item) (a : Act) (w : World) : Prop :=
  ∀ (b : Frame) (cs : List Frame), b.fn = fn → b.roundOf = ro → b.kind = .normal →
    ∃ j k' a' w', Q j a' w' ∧ Leave j k' ∧ Steps P (lone (b.atR a k) cs w) (lone (b.atR a' k') cs w')

section
variable {P : Program} {ro : Option Nat} {fn : FuncId} {Q : Option Code → Act → World → Prop} {k : List Item} {a : Act} {w : World}

theorem RunK.step {k₁ : List Item} {a₁ : Act} {w₁ : World}
    (hs : ∀ (b : Frame) (cs : List Frame), b.fn = fn → b.roundOf = ro → step P (lone (b.atR a k) cs w) = .next (lone (b.atR a₁ k₁) cs w₁))
    (h : RunK P ro fn Q k₁ a₁ w₁) : RunK P ro fn Q k a w := by
  intro b cs hf hr hk
  obtain ⟨j, k', a', w', hq, hl, st⟩ := h b cs hf hr hk
  exact ⟨j, k', a', w', hq, hl, .head (hs b cs hf hr) st⟩
theorem RunK.leave {j : Option Code} (hl : Leave j k) (hq : Q j a w) : RunK P ro fn Q k a w :=
  fun _ _ _ _ _ => ⟨j, k, a, w, hq, hl, .refl _ _⟩
theorem RunK.mono {Q' : Option Code → Act → World → Prop} (hq : ∀ j a w, Q j a w → Q' j a w) (h : RunK P ro fn Q k a w) : RunK P ro fn Q' k a w := by
  intro b cs hf hr hk
  obtain ⟨j, k', a', w', hq', hl, st⟩ := h b cs hf hr hk
  exact ⟨j, k', a', w', hq _ _ _ hq', hl, st⟩

/-- The next stop of a todo list: whatever is mere control is gone. -/
def norm : Nat → List Item → List Item
  | 0, k => k
  | n + 1, .code .skip :: k => norm n k
  | n + 1, .code (.label _) :: k => norm n k
  | n + 1, .inBlock _ :: k => norm n k
  | n + 1, .code (.seq a b) :: k => norm n (.code a :: .code b :: k)
  | n + 1, .code (.block id body) :: k => norm n (.code body :: .inBlock id :: k)
  | n + 1, .code (.loop body) :: k => norm n (.code body :: .inLoop body :: k)
  | n + 1, .inLoop body :: k => norm n (.code body :: .inLoop body :: k)
  | n + 1, .code (.exit id) :: k => match exitTo id k with
    | some k' => norm n k'
    | none => .code (.exit id) :: k
  | _ + 1, k => k

theorem RunK.norm (n : Nat) : ∀ {k : List Item}, RunK P ro fn Q (norm n k) a w → RunK P ro fn Q k a w := by
  induction n with
  | zero => exact fun h => h
  | succ n ih =>
    intro k h
    cases k with
    | nil => exact h
    | cons x k =>
      cases x with
      | code c =>
        cases c with
        | skip => exact .step (fun _ _ _ _ => stepR_skip) (ih (k := k) h)
        | label l => exact .step (fun _ _ _ _ => stepR_label) (ih (k := k) h)
        | seq x y => exact .step (fun _ _ _ _ => stepR_seq) (ih (k := .code x :: .code y :: k) h)
        | block id c => exact .step (fun _ _ _ _ => stepR_block) (ih (k := .code c :: .inBlock id :: k) h)
        | loop c => exact .step (fun _ _ _ _ => stepR_loop) (ih (k := .code c :: .inLoop c :: k) h)
        | exit id =>
          cases hx : exitTo id k with
          | none => simp only [Sw.norm, hx] at h; exact h
          | some k' => simp only [Sw.norm, hx] at h; exact .step (fun _ _ _ _ => stepR_exit hx) (ih h)
        | _ => exact h
      | inBlock id => exact .step (fun _ _ _ _ => stepR_inBlock) (ih (k := k) h)
      | inLoop c => exact .step (fun _ _ _ _ => stepR_inLoop) (ih (k := .code c :: .inLoop c :: k) h)
      | _ => exact h

theorem RunK.cond {c : Operand} {x y : Code} {t : Bool} (hc : a.eval c = .bool t) (h : RunK P ro fn Q (.code (if t then x else y) :: k) a w) :
    RunK P ro fn Q (.code (.cond c x y) :: k) a w := .step (fun _ _ _ _ => stepR_cond hc) h
end

/-! ### 2. One operation -/
/-- A round of a range over a function, from its beginning to yield's return. -/
def Rnd (P : Program) (l : Nat) (f : FuncId) (tmps : Array Value) (assign body : Code) (w : World) (R : Value → World → Prop) : Prop :=
  ∀ (c : Frame) (cs : List Frame), ∃ v w', R v w' ∧ Steps P (lone (Frame.round l f tmps assign body .normal) (c :: cs) w) (lone (c.finish v) cs w')
theorem Rnd.mono {P : Program} {l : Nat} {f : FuncId} {tmps : Array Value} {assign body : Code} {w : World} {R R' : Value → World → Prop}
    (h : Rnd P l f tmps assign body w R) (hr : ∀ v w', R v w' → R' v w') : Rnd P l f tmps assign body w R' :=
  fun c cs => let ⟨v, w', r, s⟩ := h c cs; ⟨v, w', hr _ _ r, s⟩

def Oper.res (P : Program) (o : Oper) (a : Act) (K : Act → World → Prop) : Result Next → Prop
  | .ok (.value v) w' => K (a.put o.dst v) w'
  | .ok .skip w' => K (a.put o.dst undef) w'
  | .ok (.enter f args) w' => Calls P f args w' fun e w'' => ∃ v, e = .returned v ∧ K (a.put o.dst v) w''
  | .ok (.row row args) w' => Rows P row args w' fun v w'' => K (a.put o.dst v) w''
  | .ok (.round l f tmps assign body) w' => Rnd P l f tmps assign body w' fun v w'' => K (a.put o.dst v) w''
  | _ => False

def noDefer (o : Oper) : Bool := match o.op with | .defer _ => false | .select .. => false | _ => true
theorem noDefer_spec {o : Oper} (h : noDefer o = true) : (∀ c, o.op ≠ .defer c) ∧ ∀ cs b, o.op ≠ .select cs b := by
  refine ⟨fun c hc => ?_, fun c b hc => ?_⟩ <;> simp [noDefer, hc] at h

def opS (P : Program) (ops : Array Oper) (i : Nat) (K : Act → World → Prop) (a : Act) (w : World) : Prop :=
  ∃ o, ops[i]? = some o ∧ noDefer o = true ∧
    if Region.wanted o (yielded ops a.tmps) = true then Oper.res P o a K ((execOp a.eval o).run P w) else K (a.put o.dst undef) w

section
variable {P : Program} {ops : Array Oper} {i : Nat} {K K' : Act → World → Prop} {a : Act} {w : World}
theorem res_mono {o : Oper} (h : ∀ a w, K a w → K' a w) {r : Result Next} (hh : Oper.res P o a K r) : Oper.res P o a K' r := by
  cases r with
  | ok n w' =>
    cases n <;> simp only [Oper.res] at hh ⊢ <;>
      first
        | exact h _ _ hh
        | exact Calls.mono hh (fun e w'' ⟨v, he, hk⟩ => ⟨v, he, h _ _ hk⟩)
        | exact Rows.mono hh (fun _ _ he => h _ _ he)
        | exact Rnd.mono hh (fun _ _ he => h _ _ he)
  | halt x w' => simp only [Oper.res] at hh
theorem opS_mono (h : ∀ a w, K a w → K' a w) (hh : opS P ops i K a w) : opS P ops i K' a w := by
  obtain ⟨o, ho, hd, hh⟩ := hh
  refine ⟨o, ho, hd, ?_⟩
  split
  · rename_i hw; rw [if_pos hw] at hh; exact res_mono h hh
  · rename_i hw; rw [if_neg hw] at hh; exact h _ _ hh

/-- One operation of a region, at the machine. -/
theorem RunK.op {ro : Option Nat} {fn : FuncId} {Q : Option Code → Act → World → Prop} {k : List Item} {rest : List Nat}
    (h : opS P ops i (fun a w => RunK P ro fn Q (.inRegion ops rest :: k) a w) a w) : RunK P ro fn Q (.inRegion ops (i :: rest) :: k) a w := by
  intro b cs hf hr hk
  obtain ⟨o, ho, hd, hh⟩ := h
  by_cases hw : Region.wanted o (yielded ops a.tmps) = true
  · rw [if_pos hw] at hh
    have hg := stepGR_op (P := P) (b := b) (k := k) (cs := cs) (w := w) (rest := rest) ho hw
    rw [hr, Oper.semAt_eq ro a.eval o (noDefer_spec hd).1] at hg
    have hfin : ∀ v, (b.atR a (.inRegion ops (i :: rest) :: k)).finish v = b.atR (a.put o.dst v) (.inRegion ops rest :: k) := by
      intro v; rw [Frame.finish_atR, ho]; rfl
    generalize hres : (execOp a.eval o).run P w = r at hh
    cases r with
    | halt x w' => exact hh.elim
    | ok n w' =>
      cases n with
      | value v =>
        obtain ⟨j, k', a', w'', hq, hl, st⟩ := hh b cs hf hr hk
        refine ⟨j, k', a', w'', hq, hl, .head (step_lone_go ?_) st⟩
        rw [hg, ← hfin]; simp [stepG.apply, hres]
      | skip =>
        obtain ⟨j, k', a', w'', hq, hl, st⟩ := hh b cs hf hr hk
        refine ⟨j, k', a', w'', hq, hl, .head (step_lone_go ?_) st⟩
        rw [hg, ← hfin]; simp [stepG.apply, hres]
      | enter f args =>
        obtain ⟨e, w'', fr, ⟨v, rfl, hK⟩, hsteps, _, hleave⟩ := hh (b.atR a (.inRegion ops (i :: rest) :: k) :: cs)
        obtain ⟨j, k', a', w₃, hq, hl, st⟩ := hK b cs hf hr hk
        refine ⟨j, k', a', w₃, hq, hl, .head ?_ (Steps.trans hsteps (.head ?_ st))⟩
        · refine step_lone_go ?_
          rw [hg]; simp [stepG.apply, hres, Frame.atR]
        · rw [← hfin]; exact step_leave_returned hleave
      | row row args =>
        obtain ⟨v, w'', hK, hsteps⟩ := hh (b.atR a (.inRegion ops (i :: rest) :: k)) cs
        obtain ⟨j, k', a', w₃, hq, hl, st⟩ := hK b cs hf hr hk
        refine ⟨j, k', a', w₃, hq, hl, .head ?_ (Steps.trans hsteps (by rw [hfin]; exact st))⟩
        · refine step_lone_go ?_
          rw [hg]; simp [stepG.apply, hres, Frame.atR]
      | round l f tmps assign body =>
        obtain ⟨v, w'', hK, hsteps⟩ := hh (b.atR a (.inRegion ops (i :: rest) :: k)) cs
        obtain ⟨j, k', a', w₃, hq, hl, st⟩ := hK b cs hf hr hk
        refine ⟨j, k', a', w₃, hq, hl, .head ?_ (Steps.trans hsteps (by rw [hfin]; exact st))⟩
        · refine step_lone_go ?_
          rw [hg]; simp [stepG.apply, hres, Frame.atR]
      | _ => exact hh.elim
  · rw [if_neg hw] at hh
    obtain ⟨j, k', a', w'', hq, hl, st⟩ := hh b cs hf hr hk
    have hs := stepR_op_skip (P := P) (b := b) (a := a) (k := k) (cs := cs) (w := w) (ops := ops) (i := i) (rest := rest)
      (by simp [ho]; simpa using hw)
    simp only [ho, Option.bind_some] at hs
    exact ⟨j, k', a', w'', hq, hl, .head hs st⟩

/-- Operations one behind the other. -/
def opsS (P : Program) (ops : Array Oper) : List Nat → (Act → World → Prop) → Act → World → Prop
  | [], K, a, w => K a w
  | i :: rest, K, a, w => opS P ops i (opsS P ops rest K) a w
theorem RunK.opsL {ro : Option Nat} {fn : FuncId} {Q : Option Code → Act → World → Prop} {k : List Item} : ∀ {l : List Nat} {a : Act} {w : World},
    opsS P ops l (fun a w => RunK P ro fn Q k a w) a w → RunK P ro fn Q (.inRegion ops l :: k) a w
  | [], _, _, h => .step (fun _ _ _ _ => stepR_region_end) h
  | _ :: _, _, _, h => .op (opS_mono (fun _ _ h' => RunK.opsL h') h)
theorem RunK.region {ro : Option Nat} {fn : FuncId} {Q : Option Code → Act → World → Prop} {k : List Item} {id : Nat}
    (h : opsS P ops (List.range ops.size) (fun a w => RunK P ro fn Q k a w) a w) : RunK P ro fn Q (.code (.region id ops false) :: k) a w :=
  .step (fun _ _ _ _ => stepR_region) (.opsL h)
theorem RunK.draw {ro : Option Nat} {fn : FuncId} {Q : Option Code → Act → World → Prop} {k : List Item} {id : Nat} (hm : P.follows .mixedOrders = true)
    (h : ∀ t, opsS P ops (Region.linearise .any ops t) (fun a w => RunK P ro fn Q k a w) a { w with drawn := w.drawn + 1 }) : RunK P ro fn Q (.code (.region id ops true) :: k) a w := by
  intro b cs hf hr hk
  have h1 := RunK.opsL (h (w.tape w.drawn (.order b.fn id)))
  obtain ⟨j, k', a', w'', hq, hl, st⟩ := h1 b cs hf hr hk
  refine ⟨j, k', a', w'', hq, hl, .head stepR_region_draw ?_⟩
  simp only [Region.schedule, hm, Bool.true_or, if_true]
  exact st
end

/-! ### 3. Whatever order is drawn -/
section
variable {P : Program} {ops : Array Oper} {S : World → Prop} {K : Act → World → Prop}
def anyS (P : Program) (ops : Array Oper) (S : World → Prop) (K : Act → World → Prop) : Nat → Array Bool → Act → World → Prop
  | 0, listed, a, w => Region.ready .any ops listed = [] ∧ K a w
  | fuel + 1, listed, a, w =>
    (Region.ready .any ops listed = [] → K a w) ∧
    ∀ i ∈ Region.ready .any ops listed, opS P ops i (fun a' w' => S w' ∧ anyS P ops S K fuel (listed.setIfInBounds i true) a' w') a w

theorem any_sound : ∀ (fuel t : Nat) (listed : Array Bool) (a : Act) (w : World), anyS P ops S K fuel listed a w →
    opsS P ops (Region.linearise.go .any ops fuel t listed []) K a w := by
  intro fuel
  induction fuel with
  | zero => intro t listed a w h; simpa [Region.linearise.go, opsS] using h.2
  | succ fuel ih =>
    intro t listed a w h
    obtain ⟨h₀, h₁⟩ := h
    simp only [Region.linearise.go]
    change opsS P ops (match (Region.ready .any ops listed)[t % (Region.ready .any ops listed).length]? with
      | some i => Region.linearise.go .any ops fuel (t / (Region.ready .any ops listed).length) (listed.setIfInBounds i true) [i]
      | none => [].reverse) K a w
    cases hi : (Region.ready .any ops listed)[t % (Region.ready .any ops listed).length]? with
    | none =>
      have hnil : Region.ready .any ops listed = [] := by
        cases hr : Region.ready .any ops listed with
        | nil => rfl
        | cons x xs =>
          rw [hr] at hi
          have hlt : t % (x :: xs).length < (x :: xs).length := Nat.mod_lt _ (by simp)
          simp at hi
          simp at hlt
          omega
      simpa [opsS] using h₀ hnil
    | some i =>
      simp only []
      rw [linearise_go_acc, List.reverse_singleton, List.singleton_append]
      exact opS_mono (fun a w h' => ih _ _ a w h'.2) (h₁ i (List.mem_of_getElem? hi))

theorem res_put {oi oj : Oper} {v : Value} (h2 : ∀ d, oi.dst = some d → oj.dst ≠ some d) {a : Act} {r : Result Next} {I : Act → Prop}
    (keep : ∀ u, I (a.put oj.dst u))
    (h : Oper.res P oj (a.put oi.dst v) K r) : Oper.res P oj a (fun a' w' => I a' ∧ K (a'.put oi.dst v) w') r := by
  cases r with
  | ok n w' =>
    cases n <;> simp only [Oper.res] at h ⊢
    case value u => exact ⟨keep u, by rw [← Act.put_comm a v u h2]; exact h⟩
    case skip => exact ⟨keep _, by rw [← Act.put_comm a v undef h2]; exact h⟩
    case enter f args => exact Calls.mono h fun e w'' ⟨u, he, hk⟩ => ⟨u, he, keep u, by rw [← Act.put_comm a v u h2]; exact hk⟩
    case row row args => exact Rows.mono h fun u w'' hk => ⟨keep u, by rw [← Act.put_comm a v u h2]; exact hk⟩
    case round l f tmps assign body => exact Rnd.mono h fun u w'' hk => ⟨keep u, by rw [← Act.put_comm a v u h2]; exact hk⟩
  | halt x w' => simp only [Oper.res] at h

theorem opS_putIf {j : Nat} {oi oj : Oper} {v : Value} (hj : ops[j]? = some oj) (hap : oi.apart ops oj = true)
    (hsi : ∀ cs b, oi.op ≠ .select cs b) {a : Act} {w : World}
    (hy : YieldsIf P ops S oi v a) (h : opS P ops j K (a.put oi.dst v) w) :
    opS P ops j (fun a' w' => YieldsIf P ops S oi v a' ∧ K (a'.put oi.dst v) w') a w := by
  obtain ⟨h1, h2, h3⟩ := Oper.apart_spec hap
  obtain ⟨o, ho, hd, h⟩ := h
  rw [hj] at ho
  cases ho
  have hsj := (noDefer_spec hd).2
  have keep : ∀ u, YieldsIf P ops S oi v (a.put oj.dst u) := fun u =>
    hy.of_same (execOp_put oi hsi a oj.dst u h3) (wanted_put oi a oj.dst u h3)
  refine ⟨oj, hj, hd, ?_⟩
  rw [wanted_put oj a oi.dst v h1] at h
  split
  · rename_i hw
    rw [if_pos hw, execOp_put oj hsj a oi.dst v h1] at h
    exact res_put h2 keep h
  · rename_i hw
    rw [if_neg hw] at h
    exact ⟨keep _, by rw [← Act.put_comm a v undef h2]; exact h⟩

theorem YieldsIf.opS {i : Nat} {o : Oper} {v : Value} {a : Act} (hi : ops[i]? = some o) (hd : noDefer o = true) (hy : YieldsIf P ops S o v a)
    {w : World} (hS : S w) (h : K (a.put o.dst v) w) : opS P ops i K a w := by
  refine ⟨o, hi, hd, ?_⟩
  rcases hy with ⟨hw, hv⟩ | ⟨hw, rfl⟩
  · rw [if_pos hw, hv w hS]; exact h
  · rw [if_neg (by simp [hw])]; exact h

theorem any_first {i : Nat} {oi : Oper} {v : Value} (hi : ops[i]? = some oi) (hdi : noDefer oi = true) :
    ∀ (fuel : Nat) (listed : Array Bool) (a : Act) (w : World),
      (∀ j oj, ops[j]? = some oj → j ≠ i → listed.getD j true = false → (∀ e ∈ oj.after, Region.binds .any e = true → e.on ≠ i) → oi.apart ops oj = true) →
      i ∈ Region.ready .any ops listed → YieldsIf P ops S oi v a → S w →
      anyS P ops S K fuel (listed.setIfInBounds i true) (a.put oi.dst v) w → anyS P ops S K (fuel + 1) listed a w := by
  intro fuel
  induction fuel with
  | zero =>
    intro listed a w _ hr hy hS H
    refine ⟨fun h => (by rw [h] at hr; cases hr), fun j hj => ?_⟩
    by_cases hji : j = i
    · subst hji; exact YieldsIf.opS hi hdi hy hS ⟨hS, H⟩
    · have := ready_mono hj hji
      rw [H.1] at this
      cases this
  | succ fuel ih =>
    intro listed a w hfree hr hy hS H
    refine ⟨fun h => (by rw [h] at hr; cases hr), fun j hj => ?_⟩
    by_cases hji : j = i
    · subst hji; exact YieldsIf.opS hi hdi hy hS ⟨hS, H⟩
    · have h1 := H.2 j (ready_mono hj hji)
      obtain ⟨hjun, oj, hoj, hall⟩ := mem_ready.1 hj
      have hnot : ∀ e ∈ oj.after, Region.binds .any e = true → e.on ≠ i := fun e he hb heq => by
        have h1 := hall e he hb
        have h0 := (mem_ready.1 hr).1
        rw [heq] at h1
        rcases Nat.lt_or_ge i listed.size with h' | h'
        · simp [h'] at h0 h1; rw [h0] at h1; cases h1
        · simp [Array.getElem?_eq_none h'] at h1
      have h2 := opS_putIf hoj (hfree j oj hoj hji hjun hnot) (noDefer_spec hdi).2 hy h1
      have hfree' : ∀ k ok, ops[k]? = some ok → k ≠ i → (listed.setIfInBounds j true).getD k true = false →
          (∀ e ∈ ok.after, Region.binds .any e = true → e.on ≠ i) → oi.apart ops ok = true := fun k ok hk hki hun hno => by
        refine hfree k ok hk hki ?_ hno
        by_cases hjk : j = k
        · subst hjk; exact hjun
        · rw [getD_set_ne true hjk] at hun; exact hun
      refine opS_mono (fun a' w' h3 => ⟨h3.2.1, ih (listed.setIfInBounds j true) a' w' hfree' (ready_mono hr (Ne.symm hji)) h3.1 h3.2.1 ?_⟩) h2
      rw [Array.setIfInBounds_comm _ _ hji]
      exact h3.2.2

/-- A row of moves: 'true': the operation is taken first (it yields in every world that meets S); 'false': it is the one that comes up. -/
def seqS (P : Program) (ops : Array Oper) (S : World → Prop) : List (Nat × Bool) → (Act → World → Prop) → Act → World → Prop
  | [], K, a, w => K a w
  | (i, true) :: L, K, a, w => ∃ o v, ops[i]? = some o ∧ noDefer o = true ∧ YieldsIf P ops S o v a ∧ S w ∧ seqS P ops S L K (a.put o.dst v) w
  | (i, false) :: L, K, a, w => opS P ops i (fun a' w' => S w' ∧ seqS P ops S L K a' w') a w
def seqOk (ops : Array Oper) : List (Nat × Bool) → Array Bool → Bool
  | [], listed => (Region.ready .any ops listed).isEmpty
  | (i, true) :: L, listed => Region.free .any ops listed i && (Region.ready .any ops listed).contains i && seqOk ops L (listed.setIfInBounds i true)
  | (i, false) :: L, listed => (Region.ready .any ops listed == [i]) && seqOk ops L (listed.setIfInBounds i true)
theorem any_done {listed : Array Bool} {a : Act} {w : World} (hr : Region.ready .any ops listed = []) (h : K a w) : ∀ fuel, anyS P ops S K fuel listed a w
  | 0 => ⟨hr, h⟩
  | _ + 1 => ⟨fun _ => h, by rw [hr]; simp⟩
theorem any_of_seq : ∀ (L : List (Nat × Bool)) (listed : Array Bool) (a : Act) (w : World) (fuel : Nat), L.length ≤ fuel → seqOk ops L listed = true →
    seqS P ops S L K a w → anyS P ops S K fuel listed a w := by
  intro L
  induction L with
  | nil =>
    intro listed a w fuel _ hok h
    exact any_done (by simpa [seqOk, List.isEmpty_iff] using hok) h fuel
  | cons p L ih =>
    obtain ⟨i, b⟩ := p
    intro listed a w fuel hf hok h
    obtain ⟨fuel, rfl⟩ : ∃ m, fuel = m + 1 := ⟨fuel - 1, by simp at hf; omega⟩
    have hf' : L.length ≤ fuel := by simp at hf; omega
    cases b with
    | true =>
      obtain ⟨o, v, hi, hd, hy, hS, h⟩ := h
      simp only [seqOk, Bool.and_eq_true] at hok
      obtain ⟨⟨h1, h2⟩, h3⟩ := hok
      exact any_first hi hd fuel listed a w (Region.free_spec hi h1) (by simpa using h2) hy hS (ih _ _ _ fuel hf' h3 h)
    | false =>
      simp only [seqOk, Bool.and_eq_true, beq_iff_eq] at hok
      obtain ⟨h1, h3⟩ := hok
      refine ⟨fun h0 => (by rw [h0] at h1; cases h1), ?_⟩
      rw [h1]
      intro j hj
      obtain rfl : j = i := by simpa using hj
      exact opS_mono (fun a' w' h' => ⟨h'.1, ih _ _ _ fuel hf' h3 h'.2⟩) h
theorem seq_plain : ∀ (L : List (Nat × Bool)) (a : Act) (w : World), seqS P ops S L K a w → opsS P ops (L.map (·.1)) K a w := by
  intro L
  induction L with
  | nil => exact fun _ _ h => h
  | cons p L ih =>
    obtain ⟨i, b⟩ := p
    intro a w h
    cases b with
    | true =>
      obtain ⟨o, v, hi, hd, hy, hS, h⟩ := h
      exact YieldsIf.opS hi hd hy hS (ih _ _ h)
    | false => exact opS_mono (fun a' w' h' => ih _ _ h'.2) h
end
end Go.Proofs.YtphonojjgnbpfaaDoor.Sw
