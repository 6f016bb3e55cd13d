/- Lemmas for a law of this seat: what the functions compute, and plain facts of it. Own text. -/
import Derived.Test.YtmjebehhpojihaaGreatDoorCShowsA
import Derived.RangeFuncIn
import Derived.OrdersHeld
import Derived.KernelRfl
namespace Go.Proofs.YtmjebehhpojihaaGreatDoor.Sw
set_option linter.unusedVariables false
set_option linter.unusedSimpArgs false
set_option linter.deprecated false
open Go
inductive Leave : Option Code → List Item → Prop
  | fin : Leave none []
  | ret (k : List Item) : Leave (some .ret) (.code .ret :: k)
  | exit (id : Nat) (k : List Item) (h : exitTo id k = none) : Leave (some (.exit id)) (.code (.exit id) :: k)
def RunK (P : Program) (ro : Option Nat) (fn : FuncId) (Q : Option Code → Act → World → Prop) (k : List Item) (a : Act) (w : World) : Prop :=
  ∀ (b : Frame) (cs : List Frame), b.fn = fn → b.roundOf = ro → b.kind = .normal →
    ∃ j k' a' w', Q j a' w' ∧ Leave j k' ∧ Steps P (lone (b.atR a k) cs w) (lone (b.atR a' k') cs w')
section
variable {P : Program} {ro : Option Nat} {fn : FuncId} {Q : Option Code → Act → World → Prop} {k : List Item} {a : Act} {w : World}
theorem RunK.step {k₁ : List Item} {a₁ : Act} {w₁ : World}
    (hs : ∀ (b : Frame) (cs : List Frame), b.fn = fn → b.roundOf = ro → step P (lone (b.atR a k) cs w) = .next (lone (b.atR a₁ k₁) cs w₁))
    (h : RunK P ro fn Q k₁ a₁ w₁) : RunK P ro fn Q k a w := by
  intro b cs hf hr hk
  obtain ⟨j, k', a', w', hq, hl, st⟩ := h b cs hf hr hk
  exact ⟨j, k', a', w', hq, hl, .head (hs b cs hf hr) st⟩
theorem RunK.leave {j : Option Code} (hl : Leave j k) (hq : Q j a w) : RunK P ro fn Q k a w :=
  fun _ _ _ _ _ => ⟨j, k, a, w, hq, hl, .refl _ _⟩
theorem RunK.mono {Q' : Option Code → Act → World → Prop} (hq : ∀ j a w, Q j a w → Q' j a w) (h : RunK P ro fn Q k a w) : RunK P ro fn Q' k a w := by
  intro b cs hf hr hk
  obtain ⟨j, k', a', w', hq', hl, st⟩ := h b cs hf hr hk
  exact ⟨j, k', a', w', hq _ _ _ hq', hl, st⟩
def norm : Nat → List Item → List Item
  | 0, k => k
  | n + 1, .code .skip :: k => norm n k
  | n + 1, .code (.label _) :: k => norm n k
  | n + 1, .inBlock _ :: k => norm n k
  | n + 1, .inScope _ :: k => norm n k
  | n + 1, .code (.scope body) :: k => norm n (.code body :: .inScope body :: k)
  | n + 1, .code (.seq a b) :: k => norm n (.code a :: .code b :: k)
  | n + 1, .code (.block id body) :: k => norm n (.code body :: .inBlock id :: k)
  | n + 1, .code (.loop body) :: k => norm n (.code body :: .inLoop body :: k)
  | n + 1, .inLoop body :: k => norm n (.code body :: .inLoop body :: k)
  | n + 1, .code (.exit id) :: k => match exitTo id k with
    | some k' => norm n k'
    | none => .code (.exit id) :: k
  | _ + 1, k => k
theorem stepR_scope {b : Frame} {c : Code} {cs : List Frame} : step P (lone (b.atR a (.code (.scope c) :: k)) cs w) = .next (lone (b.atR a (.code c :: .inScope c :: k)) cs w) :=
  step_lone_go (by simp [stepG, stepG.exec, Frame.atR])
theorem stepR_inScope {b : Frame} {c : Code} {cs : List Frame} : step P (lone (b.atR a (.inScope c :: k)) cs w) = .next (lone (b.atR a k) cs w) :=
  step_lone_go (by simp [stepG, stepG.exec, Frame.atR])
theorem RunK.norm (n : Nat) : ∀ {k : List Item}, RunK P ro fn Q (norm n k) a w → RunK P ro fn Q k a w := by
  induction n with
  | zero => exact fun h => h
  | succ n ih =>
    intro k h
    cases k with
    | nil => exact h
    | cons x k =>
      cases x with
      | code c =>
        cases c with
        | skip => exact .step (fun _ _ _ _ => stepR_skip) (ih (k := k) h)
        | label l => exact .step (fun _ _ _ _ => stepR_label) (ih (k := k) h)
        | seq x y => exact .step (fun _ _ _ _ => stepR_seq) (ih (k := .code x :: .code y :: k) h)
        | block id c => exact .step (fun _ _ _ _ => stepR_block) (ih (k := .code c :: .inBlock id :: k) h)
        | scope c => exact .step (fun _ _ _ _ => stepR_scope) (ih (k := .code c :: .inScope c :: k) h)
        | loop c => exact .step (fun _ _ _ _ => stepR_loop) (ih (k := .code c :: .inLoop c :: k) h)
        | exit id =>
          cases hx : exitTo id k with
          | none => simp only [Sw.norm, hx] at h; exact h
          | some k' => simp only [Sw.norm, hx] at h; exact .step (fun _ _ _ _ => stepR_exit hx) (ih h)
        | _ => exact h
      | inBlock id => exact .step (fun _ _ _ _ => stepR_inBlock) (ih (k := k) h)
      | inScope c => exact .step (fun _ _ _ _ => stepR_inScope) (ih (k := k) h)
      | inLoop c => exact .step (fun _ _ _ _ => stepR_inLoop) (ih (k := .code c :: .inLoop c :: k) h)
      | _ => exact h
theorem RunK.cond {c : Operand} {x y : Code} {t : Bool} (hc : a.eval c = .bool t) (h : RunK P ro fn Q (.code (if t then x else y) :: k) a w) :
    RunK P ro fn Q (.code (.cond c x y) :: k) a w := .step (fun _ _ _ _ => stepR_cond hc) h
end
def Rnd (P : Program) (l : Nat) (f : FuncId) (tmps : Array Value) (assign body : Code) (w : World) (R : Value → World → Prop) : Prop :=
  ∀ (c : Frame) (cs : List Frame), ∃ v w', R v w' ∧ Steps P (lone (Frame.round l f tmps assign body .normal) (c :: cs) w) (lone (c.finish v) cs w')
theorem Rnd.mono {P : Program} {l : Nat} {f : FuncId} {tmps : Array Value} {assign body : Code} {w : World} {R R' : Value → World → Prop}
    (h : Rnd P l f tmps assign body w R) (hr : ∀ v w', R v w' → R' v w') : Rnd P l f tmps assign body w R' :=
  fun c cs => let ⟨v, w', r, s⟩ := h c cs; ⟨v, w', hr _ _ r, s⟩
def Oper.res (P : Program) (o : Oper) (a : Act) (K : Act → World → Prop) : Result Next → Prop
  | .ok (.value v) w' => K (a.put o.dst v) w'
  | .ok .skip w' => K (a.put o.dst undef) w'
  | .ok (.enter f args) w' => Calls P f args w' fun e w'' => ∃ v, e = .returned v ∧ K (a.put o.dst v) w''
  | .ok (.row row args) w' => Rows P row args w' fun v w'' => K (a.put o.dst v) w''
  | .ok (.round l f tmps assign body) w' => Rnd P l f tmps assign body w' fun v w'' => K (a.put o.dst v) w''
  | _ => False
def noDefer (o : Oper) : Bool := match o.op with | .defer _ => false | .select .. => false | _ => true
theorem noDefer_spec {o : Oper} (h : noDefer o = true) : (∀ c, o.op ≠ .defer c) ∧ ∀ cs b, o.op ≠ .select cs b := by
  refine ⟨fun c hc => ?_, fun c b hc => ?_⟩ <;> simp [noDefer, hc] at h
def opS (P : Program) (ops : Array Oper) (i : Nat) (K : Act → World → Prop) (a : Act) (w : World) : Prop :=
  ∃ o, ops[i]? = some o ∧ noDefer o = true ∧
    if Region.wanted o (yielded ops a.tmps) = true then Oper.res P o a K ((execOp a.eval o).run P w) else K (a.put o.dst undef) w
section
variable {P : Program} {ops : Array Oper} {i : Nat} {K K' : Act → World → Prop} {a : Act} {w : World}
theorem res_mono {o : Oper} (h : ∀ a w, K a w → K' a w) {r : Result Next} (hh : Oper.res P o a K r) : Oper.res P o a K' r := by
  cases r with
  | ok n w' =>
    cases n <;> simp only [Oper.res] at hh ⊢ <;>
      first
        | exact h _ _ hh
        | exact Calls.mono hh (fun e w'' ⟨v, he, hk⟩ => ⟨v, he, h _ _ hk⟩)
        | exact Rows.mono hh (fun _ _ he => h _ _ he)
        | exact Rnd.mono hh (fun _ _ he => h _ _ he)
  | halt x w' => simp only [Oper.res] at hh
theorem opS_mono (h : ∀ a w, K a w → K' a w) (hh : opS P ops i K a w) : opS P ops i K' a w := by
  obtain ⟨o, ho, hd, hh⟩ := hh
  refine ⟨o, ho, hd, ?_⟩
  split
  · rename_i hw; rw [if_pos hw] at hh; exact res_mono h hh
  · rename_i hw; rw [if_neg hw] at hh; exact h _ _ hh
theorem RunK.op {ro : Option Nat} {fn : FuncId} {Q : Option Code → Act → World → Prop} {k : List Item} {rest : List Nat}
    (h : opS P ops i (fun a w => RunK P ro fn Q (.inRegion ops rest :: k) a w) a w) : RunK P ro fn Q (.inRegion ops (i :: rest) :: k) a w := by
  intro b cs hf hr hk
  obtain ⟨o, ho, hd, hh⟩ := h
  by_cases hw : Region.wanted o (yielded ops a.tmps) = true
  · rw [if_pos hw] at hh
    have hg := stepGR_op (P := P) (b := b) (k := k) (cs := cs) (w := w) (rest := rest) ho hw
    rw [hr, Oper.semAt_eq ro a.eval o (noDefer_spec hd).1] at hg
    have hfin : ∀ v, (b.atR a (.inRegion ops (i :: rest) :: k)).finish v = b.atR (a.put o.dst v) (.inRegion ops rest :: k) := by
      intro v; rw [Frame.finish_atR, ho]; rfl
    generalize hres : (execOp a.eval o).run P w = r at hh
    cases r with
    | halt x w' => exact hh.elim
    | ok n w' =>
      cases n with
      | value v =>
        obtain ⟨j, k', a', w'', hq, hl, st⟩ := hh b cs hf hr hk
        refine ⟨j, k', a', w'', hq, hl, .head (step_lone_go ?_) st⟩
        rw [hg, ← hfin]; simp [stepG.apply, hres]
      | skip =>
        obtain ⟨j, k', a', w'', hq, hl, st⟩ := hh b cs hf hr hk
        refine ⟨j, k', a', w'', hq, hl, .head (step_lone_go ?_) st⟩
        rw [hg, ← hfin]; simp [stepG.apply, hres]
      | enter f args =>
        obtain ⟨e, w'', fr, ⟨v, rfl, hK⟩, hsteps, _, hleave⟩ := hh (b.atR a (.inRegion ops (i :: rest) :: k) :: cs)
        obtain ⟨j, k', a', w₃, hq, hl, st⟩ := hK b cs hf hr hk
        refine ⟨j, k', a', w₃, hq, hl, .head ?_ (Steps.trans hsteps (.head ?_ st))⟩
        · refine step_lone_go ?_
          rw [hg]; simp [stepG.apply, hres, Frame.atR]
        · rw [← hfin]; exact step_leave_returned hleave
      | row row args =>
        obtain ⟨v, w'', hK, hsteps⟩ := hh (b.atR a (.inRegion ops (i :: rest) :: k)) cs
        obtain ⟨j, k', a', w₃, hq, hl, st⟩ := hK b cs hf hr hk
        refine ⟨j, k', a', w₃, hq, hl, .head ?_ (Steps.trans hsteps (by rw [hfin]; exact st))⟩
        · refine step_lone_go ?_
          rw [hg]; simp [stepG.apply, hres, Frame.atR]
      | round l f tmps assign body =>
        obtain ⟨v, w'', hK, hsteps⟩ := hh (b.atR a (.inRegion ops (i :: rest) :: k)) cs
        obtain ⟨j, k', a', w₃, hq, hl, st⟩ := hK b cs hf hr hk
        refine ⟨j, k', a', w₃, hq, hl, .head ?_ (Steps.trans hsteps (by rw [hfin]; exact st))⟩
        · refine step_lone_go ?_
          rw [hg]; simp [stepG.apply, hres, Frame.atR]
      | _ => exact hh.elim
  · rw [if_neg hw] at hh
    obtain ⟨j, k', a', w'', hq, hl, st⟩ := hh b cs hf hr hk
    have hs := stepR_op_skip (P := P) (b := b) (a := a) (k := k) (cs := cs) (w := w) (ops := ops) (i := i) (rest := rest)
      (by simp [ho]; simpa using hw)
    simp only [ho, Option.bind_some] at hs
    exact ⟨j, k', a', w'', hq, hl, .head hs st⟩
def opsS (P : Program) (ops : Array Oper) : List Nat → (Act → World → Prop) → Act → World → Prop
  | [], K, a, w => K a w
  | i :: rest, K, a, w => opS P ops i (opsS P ops rest K) a w
theorem RunK.opsL {ro : Option Nat} {fn : FuncId} {Q : Option Code → Act → World → Prop} {k : List Item} : ∀ {l : List Nat} {a : Act} {w : World},
    opsS P ops l (fun a w => RunK P ro fn Q k a w) a w → RunK P ro fn Q (.inRegion ops l :: k) a w
  | [], _, _, h => .step (fun _ _ _ _ => stepR_region_end) h
  | _ :: _, _, _, h => .op (opS_mono (fun _ _ h' => RunK.opsL h') h)
theorem RunK.region {ro : Option Nat} {fn : FuncId} {Q : Option Code → Act → World → Prop} {k : List Item} {id : Nat}
    (h : opsS P ops (List.range ops.size) (fun a w => RunK P ro fn Q k a w) a w) : RunK P ro fn Q (.code (.region id ops false) :: k) a w :=
  .step (fun _ _ _ _ => stepR_region) (.opsL h)
theorem RunK.draw {ro : Option Nat} {fn : FuncId} {Q : Option Code → Act → World → Prop} {k : List Item} {id : Nat} (hm : P.follows .mixedOrders = true)
    (h : ∀ t, opsS P ops (Region.linearise .any ops t) (fun a w => RunK P ro fn Q k a w) a { w with drawn := w.drawn + 1 }) : RunK P ro fn Q (.code (.region id ops true) :: k) a w := by
  intro b cs hf hr hk
  have h1 := RunK.opsL (h (w.tape w.drawn (.order b.fn id)))
  obtain ⟨j, k', a', w'', hq, hl, st⟩ := h1 b cs hf hr hk
  refine ⟨j, k', a', w'', hq, hl, .head stepR_region_draw ?_⟩
  simp only [Region.schedule, hm, Bool.true_or, if_true]
  exact st
end
def needs (o : Oper) : Bool := match o.op with | .load .. => true | .lookup .. => true | _ => false
def depOn (ops : Array Oper) : Nat → Nat → Nat → Bool
  | 0, _, _ => false
  | n + 1, k, i => match ops[k]? with
    | some o => o.after.any fun e => Region.binds .any e && (Nat.beq e.on i || depOn ops n e.on i)
    | none => false
def Closed (ops : Array Oper) (listed : Array Bool) : Prop := ∀ k o, ops[k]? = some o → listed.getD k false = true → ∀ e ∈ o.after, Region.binds .any e = true → listed.getD e.on false = true
theorem closed_set {ops : Array Oper} {listed : Array Bool} {j : Nat} (hc : Closed ops listed) (hj : j ∈ Region.ready .any ops listed) : Closed ops (listed.setIfInBounds j true) := by
  intro k o ho hk e he hb
  by_cases hjk : j = k
  · subst hjk
    obtain ⟨_, o', ho', hall⟩ := mem_ready.1 hj
    rw [ho] at ho'
    cases ho'
    exact getD_set_true (hall e he hb)
  · rw [getD_set_ne false hjk] at hk
    exact getD_set_true (hc k o ho hk e he hb)
theorem dep_listed {ops : Array Oper} {listed : Array Bool} (hc : Closed ops listed) {i : Nat} : ∀ (n k : Nat) (o : Oper), ops[k]? = some o → (∀ e ∈ o.after, Region.binds .any e = true → listed.getD e.on false = true) → depOn ops n k i = true →
    listed.getD i false = true := by
  intro n
  induction n with
  | zero => intro k o _ _ h; simp [depOn] at h
  | succ n ih =>
    intro k o ho hall h
    simp only [depOn, ho] at h
    rw [Array.any_eq_true'] at h
    obtain ⟨e, he, h⟩ := h
    simp only [Bool.and_eq_true, Bool.or_eq_true] at h
    obtain ⟨hb, h⟩ := h
    have h1 := hall e he hb
    rcases h with h | h
    · rw [← Nat.eq_of_beq_eq_true h]; exact h1
    · cases hk : ops[e.on]? with
      | none => cases n <;> simp [depOn, hk] at h
      | some o' => exact ih e.on o' hk (fun e' he' hb' => hc e.on o' hk h1 e' he' hb') h
section
variable {P : Program} {ops : Array Oper} {S S2 : World → Prop} {K : Act → World → Prop} {kb : Nat}
def anyS (P : Program) (ops : Array Oper) (kb : Nat) (S : World → Prop) (K : Act → World → Prop) : Nat → Array Bool → Act → World → Prop
  | 0, listed, a, w => Region.ready .any ops listed = [] ∧ K a w
  | fuel + 1, listed, a, w =>
    (Region.ready .any ops listed = [] → K a w) ∧
    ∀ i ∈ Region.ready .any ops listed, opS P ops i (fun a' w' => ((listed.setIfInBounds i true).getD kb false = false → S w') ∧ anyS P ops kb S K fuel (listed.setIfInBounds i true) a' w') a w
theorem any_sound : ∀ (fuel t : Nat) (listed : Array Bool) (a : Act) (w : World), anyS P ops kb S K fuel listed a w →
    opsS P ops (Region.linearise.go .any ops fuel t listed []) K a w := by
  intro fuel
  induction fuel with
  | zero => intro t listed a w h; simpa [Region.linearise.go, opsS] using h.2
  | succ fuel ih =>
    intro t listed a w h
    obtain ⟨h₀, h₁⟩ := h
    simp only [Region.linearise.go]
    change opsS P ops (match (Region.ready .any ops listed)[t % (Region.ready .any ops listed).length]? with
      | some i => Region.linearise.go .any ops fuel (t / (Region.ready .any ops listed).length) (listed.setIfInBounds i true) [i]
      | none => [].reverse) K a w
    cases hi : (Region.ready .any ops listed)[t % (Region.ready .any ops listed).length]? with
    | none =>
      have hnil : Region.ready .any ops listed = [] := by
        cases hr : Region.ready .any ops listed with
        | nil => rfl
        | cons x xs =>
          rw [hr] at hi
          have hlt : t % (x :: xs).length < (x :: xs).length := Nat.mod_lt _ (by simp)
          simp at hi
          simp at hlt
          omega
      simpa [opsS] using h₀ hnil
    | some i =>
      simp only []
      rw [linearise_go_acc, List.reverse_singleton, List.singleton_append]
      exact opS_mono (fun a w h' => ih _ _ a w h'.2) (h₁ i (List.mem_of_getElem? hi))
theorem res_put {oi oj : Oper} {v : Value} (h2 : ∀ d, oi.dst = some d → oj.dst ≠ some d) {a : Act} {r : Result Next} {I : Act → Prop}
    (keep : ∀ u, I (a.put oj.dst u))
    (h : Oper.res P oj (a.put oi.dst v) K r) : Oper.res P oj a (fun a' w' => I a' ∧ K (a'.put oi.dst v) w') r := by
  cases r with
  | ok n w' =>
    cases n <;> simp only [Oper.res] at h ⊢
    case value u => exact ⟨keep u, by rw [← Act.put_comm a v u h2]; exact h⟩
    case skip => exact ⟨keep _, by rw [← Act.put_comm a v undef h2]; exact h⟩
    case enter f args => exact Calls.mono h fun e w'' ⟨u, he, hk⟩ => ⟨u, he, keep u, by rw [← Act.put_comm a v u h2]; exact hk⟩
    case row row args => exact Rows.mono h fun u w'' hk => ⟨keep u, by rw [← Act.put_comm a v u h2]; exact hk⟩
    case round l f tmps assign body => exact Rnd.mono h fun u w'' hk => ⟨keep u, by rw [← Act.put_comm a v u h2]; exact hk⟩
  | halt x w' => simp only [Oper.res] at h
theorem opS_putIf {j : Nat} {oi oj : Oper} {v : Value} (hj : ops[j]? = some oj) (hap : oi.apart ops oj = true)
    (hsi : ∀ cs b, oi.op ≠ .select cs b) {a : Act} {w : World}
    (hy : YieldsIf P ops S oi v a) (h : opS P ops j K (a.put oi.dst v) w) :
    opS P ops j (fun a' w' => YieldsIf P ops S oi v a' ∧ K (a'.put oi.dst v) w') a w := by
  obtain ⟨h1, h2, h3⟩ := Oper.apart_spec hap
  obtain ⟨o, ho, hd, h⟩ := h
  rw [hj] at ho
  cases ho
  have hsj := (noDefer_spec hd).2
  have keep : ∀ u, YieldsIf P ops S oi v (a.put oj.dst u) := fun u =>
    hy.of_same (execOp_put oi hsi a oj.dst u h3) (wanted_put oi a oj.dst u h3)
  refine ⟨oj, hj, hd, ?_⟩
  rw [wanted_put oj a oi.dst v h1] at h
  split
  · rename_i hw
    rw [if_pos hw, execOp_put oj hsj a oi.dst v h1] at h
    exact res_put h2 keep h
  · rename_i hw
    rw [if_neg hw] at h
    exact ⟨keep _, by rw [← Act.put_comm a v undef h2]; exact h⟩
theorem YieldsIf.opS {i : Nat} {o : Oper} {v : Value} {a : Act} (hi : ops[i]? = some o) (hd : noDefer o = true) (hy : YieldsIf P ops S o v a)
    {w : World} (hS : S w) (h : K (a.put o.dst v) w) : opS P ops i K a w := by
  refine ⟨o, hi, hd, ?_⟩
  rcases hy with ⟨hw, hv⟩ | ⟨hw, rfl⟩
  · rw [if_pos hw, hv w hS]; exact h
  · rw [if_neg (by simp [hw])]; exact h
theorem any_first {S' : World → Prop} {i : Nat} {oi : Oper} {v : Value} (hi : ops[i]? = some oi) (hdi : noDefer oi = true) (hik : i ≠ kb)
    (hS' : (∀ w, S' w) ∨ ((∀ w, S w → S' w) ∧ ∀ ok, ops[kb]? = some ok → ∃ n, depOn ops n kb i = true)) :
    ∀ (fuel : Nat) (listed : Array Bool) (a : Act) (w : World), Closed ops listed → ((∀ w, S' w) ∨ listed.getD kb false = false) →
      (∀ j oj, ops[j]? = some oj → j ≠ i → listed.getD j true = false → (∀ e ∈ oj.after, Region.binds .any e = true → e.on ≠ i) → oi.apart ops oj = true) →
      i ∈ Region.ready .any ops listed → YieldsIf P ops S' oi v a → S' w → (listed.getD kb false = false → S w) →
      anyS P ops kb S K fuel (listed.setIfInBounds i true) (a.put oi.dst v) w → anyS P ops kb S K (fuel + 1) listed a w := by
  intro fuel
  induction fuel with
  | zero =>
    intro listed a w hcl hkb _ hr hy hS hSS H
    refine ⟨fun h => (by rw [h] at hr; cases hr), fun j hj => ?_⟩
    by_cases hji : j = i
    · subst hji; exact YieldsIf.opS hi hdi hy hS ⟨fun hb => hSS (by rw [← getD_set_ne false hik]; exact hb), H⟩
    · have := ready_mono hj hji
      rw [H.1] at this
      cases this
  | succ fuel ih =>
    intro listed a w hcl hkb hfree hr hy hS hSS H
    refine ⟨fun h => (by rw [h] at hr; cases hr), fun j hj => ?_⟩
    by_cases hji : j = i
    · subst hji; exact YieldsIf.opS hi hdi hy hS ⟨fun hb => hSS (by rw [← getD_set_ne false hik]; exact hb), H⟩
    · have h1 := H.2 j (ready_mono hj hji)
      obtain ⟨hjun, oj, hoj, hall⟩ := mem_ready.1 hj
      have hiun : listed.getD i false = false := by
        have h0 := (mem_ready.1 hr).1
        rcases Nat.lt_or_ge i listed.size with h' | h'
        · simp [h'] at h0 ⊢; exact h0
        · simp [Array.getElem?_eq_none h']
      have hnot : ∀ e ∈ oj.after, Region.binds .any e = true → e.on ≠ i := fun e he hb heq => by
        have h1 := hall e he hb
        rw [heq, hiun] at h1
        cases h1
      have h2 := opS_putIf hoj (hfree j oj hoj hji hjun hnot) (noDefer_spec hdi).2 hy h1
      have hfree' : ∀ k ok, ops[k]? = some ok → k ≠ i → (listed.setIfInBounds j true).getD k true = false →
          (∀ e ∈ ok.after, Region.binds .any e = true → e.on ≠ i) → oi.apart ops ok = true := fun k ok hk hki hun hno => by
        refine hfree k ok hk hki ?_ hno
        by_cases hjk : j = k
        · subst hjk; exact hjun
        · rw [getD_set_ne true hjk] at hun; exact hun
      have hcomm : ((listed.setIfInBounds i true).setIfInBounds j true).getD kb false = (listed.setIfInBounds j true).getD kb false := by
        rw [Array.setIfInBounds_comm _ _ (Ne.symm hji), getD_set_ne false hik]
      refine opS_mono (fun a' w' h3 => ?_) h2
      obtain ⟨hy', h3, h4⟩ := h3
      rw [hcomm] at h3
      -- is the barrier passed?
      have hno : (∀ w, S' w) ∨ ((listed.setIfInBounds j true).getD kb false = false ∧ ∀ w, S w → S' w) := by
        rcases hkb with h | h
        · exact .inl h
        · rcases hS' with h' | ⟨h', hdep⟩
          · exact .inl h'
          · by_cases hjk : j = kb
            · exfalso
              subst hjk
              obtain ⟨n, hn⟩ := hdep oj hoj
              have := dep_listed hcl n j oj hoj hall hn
              rw [hiun] at this
              cases this
            · exact .inr ⟨by rw [getD_set_ne false hjk]; exact h, h'⟩
      have hS'' : S' w' := by
        rcases hno with h | ⟨h, h'⟩
        · exact h w'
        · exact h' w' (h3 h)
      refine ⟨h3, ih (listed.setIfInBounds j true) a' w' (closed_set hcl hj) (hno.imp id (·.1)) hfree' (ready_mono hr (Ne.symm hji)) hy' hS'' h3 ?_⟩
      rw [Array.setIfInBounds_comm _ _ hji]
      exact h4
def seqS (P : Program) (ops : Array Oper) (S2 : World → Prop) : (World → Prop) → List (Nat × Bool) → (Act → World → Prop) → Act → World → Prop
  | _, [], K, a, w => K a w
  | S, (i, true) :: L, K, a, w => ∃ o v, ops[i]? = some o ∧ noDefer o = true ∧ YieldsIf P ops (if needs o = true then S else fun _ => True) o v a ∧ S w ∧ seqS P ops S2 S L K (a.put o.dst v) w
  | S, (i, false) :: L, K, a, w => if Nat.ble 1000 i = true then (if Nat.ble 2000 i = true then ∃ S', seqS P ops S2 S' L K a w else seqS P ops S2 S2 L K a w)
    else opS P ops i (fun a' w' => S w' ∧ seqS P ops S2 S L K a' w') a w
def barOf : List (Nat × Bool) → Nat
  | [] => 1000000
  | (i, false) :: L => bif Nat.ble 1000 i then (bif Nat.ble 2000 i then 1000000 else i - 1000) else barOf L
  | (_, true) :: L => barOf L
def need? (ops : Array Oper) (i : Nat) : Bool := match ops[i]? with
  | some o => needs o
  | none => true
def seqOk (ops : Array Oper) : Nat → Bool → List (Nat × Bool) → Array Bool → Bool
  | _, _, [], listed => (Region.ready .any ops listed).isEmpty
  | kb, z, (i, true) :: L, listed => Region.free .any ops listed i && (Region.ready .any ops listed).contains i && !(Nat.beq i kb) && (!(need? ops i) || (!z && ((ops[kb]?).isNone || depOn ops 10 kb i))) && seqOk ops kb z L (listed.setIfInBounds i true)
  | kb, z, (i, false) :: L, listed => bif Nat.ble 1000 i then (bif Nat.ble 2000 i then z && (listed.getD kb false && (!(listed.getD (barOf L) false) && seqOk ops (barOf L) false L listed)) else !z && (Nat.beq i (1000 + kb) && (match L with | (k, false) :: _ => Nat.beq k kb && !(Nat.ble 1000 k) | _ => false) && seqOk ops kb true L listed))
    else ((Region.ready .any ops listed == [i]) && (z || !(Nat.beq i kb)) && seqOk ops kb z L (listed.setIfInBounds i true))
def reals : List (Nat × Bool) → Nat
  | [] => 0
  | (i, true) :: L => reals L + 1
  | (i, false) :: L => bif Nat.ble 1000 i then reals L else reals L + 1
theorem any_done {listed : Array Bool} {a : Act} {w : World} (hr : Region.ready .any ops listed = []) (h : K a w) : ∀ fuel, anyS P ops kb S K fuel listed a w
  | 0 => ⟨hr, h⟩
  | _ + 1 => ⟨fun _ => h, by rw [hr]; simp⟩
theorem any_switch {kb' : Nat} {S' : World → Prop} : ∀ (fuel : Nat) (listed : Array Bool) (a : Act) (w : World), listed.getD kb false = true → anyS P ops kb' S' K fuel listed a w → anyS P ops kb S K fuel listed a w := by
  intro fuel
  induction fuel with
  | zero => exact fun _ _ _ _ h => h
  | succ fuel ih =>
    intro listed a w hk h
    exact ⟨h.1, fun i hi => opS_mono (fun a' w' h' => ⟨fun hc => (by rw [getD_set_true hk] at hc; cases hc), ih _ a' w' (getD_set_true hk) h'.2⟩) (h.2 i hi)⟩
theorem any_of_seq : ∀ (L : List (Nat × Bool)) (kb : Nat) (S : World → Prop) (z : Bool) (T : World → Prop) (listed : Array Bool) (a : Act) (w : World) (fuel : Nat), reals L ≤ fuel → Closed ops listed → seqOk ops kb z L listed = true →
    (z = false → T = S ∧ listed.getD kb false = false) → (z = true → listed.getD kb false = true ∨ ∃ L', L = (kb, false) :: L' ∧ Nat.ble 1000 kb = false) →
    seqS P ops S2 T L K a w → anyS P ops kb S K fuel listed a w := by
  intro L
  induction L with
  | nil =>
    intro kb S z T listed a w fuel _ _ hok _ _ h
    exact any_done (by simpa [seqOk, List.isEmpty_iff] using hok) h fuel
  | cons p L ih =>
    obtain ⟨i, b⟩ := p
    intro kb S z T listed a w fuel hf hcl hok hz1 hz2 h
    cases b with
    | true =>
      obtain ⟨fuel, rfl⟩ : ∃ m, fuel = m + 1 := ⟨fuel - 1, by simp [reals] at hf; omega⟩
      have hf' : reals L ≤ fuel := by simp [reals] at hf; omega
      obtain ⟨o, v, hi, hd, hy, hS, h⟩ := h
      simp only [seqOk, Bool.and_eq_true, Bool.not_eq_true', Bool.or_eq_true] at hok
      obtain ⟨⟨⟨⟨h1, h2⟩, h3⟩, h4⟩, h5⟩ := hok
      have hik : i ≠ kb := fun e => by subst e; simp at h3
      have h2 : i ∈ Region.ready .any ops listed := by simpa using h2
      have hz2' : z = true → listed.getD kb false = true := fun hz => by
        rcases hz2 hz with h | ⟨L', h, _⟩
        · exact h
        · simp at h
      have hnext := ih kb S z T (listed.setIfInBounds i true) (a.put o.dst v) w fuel hf' (closed_set hcl h2) h5
        (fun hz => ⟨(hz1 hz).1, by rw [getD_set_ne false hik]; exact (hz1 hz).2⟩) (fun hz => .inl (by rw [getD_set_ne false hik]; exact hz2' hz)) h
      have hSS : listed.getD kb false = false → S w := fun hk => by
        cases z with
        | true => rw [hz2' rfl] at hk; cases hk
        | false => rw [← (hz1 rfl).1]; exact hS
      cases hn : needs o with
      | false =>
        rw [hn] at hy
        exact any_first (S' := fun _ => True) hi hd hik (.inl fun _ => trivial) fuel listed a w hcl (.inl fun _ => trivial) (Region.free_spec hi h1) h2 (by simpa using hy) trivial hSS hnext
      | true =>
        rw [hn, if_pos rfl] at hy
        have hne : need? ops i = true := by simp [need?, hi, hn]
        rw [hne] at h4
        simp only [Bool.true_eq_false, false_or] at h4
        obtain ⟨hz, h4⟩ := h4
        subst hz
        obtain ⟨rfl, hkb⟩ := hz1 rfl
        refine any_first (S' := T) hi hd hik (.inr ⟨fun _ h => h, fun ok hok => ?_⟩) fuel listed a w hcl (.inr hkb) (Region.free_spec hi h1) h2 hy hS hSS hnext
        rcases h4 with h4 | h4
        · rw [hok] at h4; simp at h4
        · exact ⟨10, h4⟩
    | false =>
      simp only [seqS] at h
      by_cases hb : Nat.ble 1000 i = true
      · rw [if_pos hb] at h
        by_cases hb2 : Nat.ble 2000 i = true
        · rw [if_pos hb2] at h
          simp only [seqOk, hb, hb2, cond_true, Bool.and_eq_true, Bool.not_eq_true'] at hok
          obtain ⟨hz, h1, h2, h3⟩ := hok
          obtain ⟨S', h⟩ := h
          have hf' : reals L ≤ fuel := by simpa [reals, hb] using hf
          exact any_switch fuel listed a w h1 (ih (barOf L) S' false S' listed a w fuel hf' hcl h3 (fun _ => ⟨rfl, h2⟩) (fun hz => by cases hz) h)
        rw [if_neg hb2] at h
        have hb2' : Nat.ble 2000 i = false := Bool.eq_false_iff.2 hb2
        simp only [seqOk, hb, hb2', cond_true, cond_false, Bool.and_eq_true, Bool.not_eq_true'] at hok
        obtain ⟨hz, ⟨h1, h2⟩, h3⟩ := hok
        subst hz
        obtain ⟨rfl, hkb⟩ := hz1 rfl
        have hf' : reals L ≤ fuel := by simpa [reals, hb] using hf
        refine ih kb _ true S2 listed a w fuel hf' hcl h3 (fun hz => by cases hz) (fun _ => .inr ?_) h
        have hi := Nat.eq_of_beq_eq_true h1
        cases L with
        | nil => cases h2
        | cons p L' =>
          obtain ⟨k, b⟩ := p
          cases b with
          | true => cases h2
          | false =>
            simp only [Bool.and_eq_true, Bool.not_eq_true'] at h2
            obtain rfl := Nat.eq_of_beq_eq_true h2.1
            exact ⟨L', rfl, h2.2⟩
      · have hb' : Nat.ble 1000 i = false := Bool.eq_false_iff.2 hb
        rw [if_neg hb] at h
        obtain ⟨fuel, rfl⟩ : ∃ m, fuel = m + 1 := ⟨fuel - 1, by simp [reals, hb'] at hf; omega⟩
        have hf' : reals L ≤ fuel := by simp [reals, hb'] at hf; omega
        simp only [seqOk, hb', cond_false, Bool.and_eq_true, beq_iff_eq] at hok
        obtain ⟨⟨h1, h2⟩, h3⟩ := hok
        refine ⟨fun h0 => (by rw [h0] at h1; cases h1), ?_⟩
        have hir : i ∈ Region.ready .any ops listed := by rw [h1]; simp
        rw [h1]
        intro j hj
        obtain rfl : j = i := by simpa using hj
        have hlt : j < listed.size := by
          have h0 := (mem_ready.1 hir).1
          rcases Nat.lt_or_ge j listed.size with h' | h'
          · exact h'
          · simp [Array.getElem?_eq_none h'] at h0
        have hset : (listed.setIfInBounds j true).getD j false = true := by simp [hlt]
        refine opS_mono (fun a' w' h' => ?_) h
        cases z with
        | false =>
          obtain ⟨rfl, hkb⟩ := hz1 rfl
          have hjk : j ≠ kb := fun e => by subst e; simp at h2
          exact ⟨fun _ => h'.1, ih kb _ false T _ a' w' fuel hf' (closed_set hcl hir) h3 (fun _ => ⟨rfl, by rw [getD_set_ne false hjk]; exact hkb⟩) (fun hz => by cases hz) h'.2⟩
        | true =>
          have hp : (listed.setIfInBounds j true).getD kb false = true := by
            rcases hz2 rfl with h | ⟨L', h, _⟩
            · exact getD_set_true h
            · simp only [List.cons.injEq, Prod.mk.injEq] at h
              obtain rfl := h.1.1
              exact hset
          exact ⟨fun hc => (by rw [hp] at hc; cases hc), ih kb S true T _ a' w' fuel hf' (closed_set hcl hir) h3 (fun hz => by cases hz) (fun _ => .inl hp) h'.2⟩
theorem seqS_turn {i : Nat} {L : List (Nat × Bool)} {a : Act} {w : World} (hj : Nat.ble 1000 i = false) (h : opS P ops i (fun a' w' => S w' ∧ seqS P ops S2 S L K a' w') a w) : seqS P ops S2 S ((i, false) :: L) K a w := by
  simp only [seqS, hj, Bool.false_eq_true, if_false]
  exact h
theorem seq_plain : ∀ (L : List (Nat × Bool)) (S : World → Prop) (a : Act) (w : World), (∀ p ∈ L, Nat.ble 1000 p.1 = false) → (∀ w, S w → True) → seqS P ops S2 S L K a w → opsS P ops (L.map (·.1)) K a w := by
  intro L
  induction L with
  | nil => exact fun _ _ _ _ _ h => h
  | cons p L ih =>
    obtain ⟨i, b⟩ := p
    intro S a w hp hs h
    have hp' : ∀ p ∈ L, Nat.ble 1000 p.1 = false := fun p hm => hp p (List.mem_cons_of_mem _ hm)
    cases b with
    | true =>
      obtain ⟨o, v, hi, hd, hy, hS, h⟩ := h
      refine YieldsIf.opS (S := fun w => S w) hi hd ?_ hS (ih S _ _ hp' hs h)
      cases hn : needs o with
      | false => rw [hn] at hy; exact hy.imp (fun ⟨h1, h2⟩ => ⟨h1, fun w _ => h2 w trivial⟩) (fun x => x)
      | true => rw [hn, if_pos rfl] at hy; exact hy
    | false =>
      have hb : Nat.ble 1000 i = false := hp (i, false) (by simp)
      simp only [seqS, hb, Bool.false_eq_true, if_false] at h
      exact opS_mono (fun a' w' h' => ih S _ _ hp' hs h'.2) h
end
end Go.Proofs.YtmjebehhpojihaaGreatDoor.Sw
