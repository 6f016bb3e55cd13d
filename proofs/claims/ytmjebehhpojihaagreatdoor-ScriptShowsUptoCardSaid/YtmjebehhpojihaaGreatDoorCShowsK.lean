/- Lemmas for a law of this seat: what the functions compute, and plain facts of it. Own text. -/
import Derived.Test.YtmjebehhpojihaaGreatDoorCShowsJ
import Derived.RangeFuncRecord
namespace Go.Proofs.YtmjebehhpojihaaGreatDoor.Sw
set_option linter.unusedVariables false
set_option linter.unusedSimpArgs false
set_option linter.deprecated false
open Go
structure FitsT (e : Env) (n : Nat) (tmps : Array Value) : Prop where
  size : tmps.size = n
  get : ∀ t v, e.get t = some v → tmps[t]? = some v
theorem Fits.toT {e : Env} {n : Nat} {ds : List Deferred} {a : Act} (f : Fits e n ds a) : FitsT e n a.tmps := ⟨f.size, f.get⟩
theorem FitsT.put {e : Env} {n : Nat} {tmps : Array Value} (f : FitsT e n tmps) {d : Nat} (hd : d < n) (v : Value) : FitsT ((d, v) :: e) n (tmps.setIfInBounds d v) := by
  refine ⟨by simp [f.size], fun t u h => ?_⟩
  by_cases hdt : d = t
  · subst hdt
    simp [Env.get] at h
    subst h
    simp [f.size, hd]
  · have hb : Nat.beq d t = false := beqF hdt
    simp only [Env.get, hb, cond_false] at h
    simp only [Array.getElem?_setIfInBounds_ne hdt]
    exact f.get t u h
theorem FitsT.keep {e : Env} {n : Nat} {tmps : Array Value} (f : FitsT e n tmps) (ks : List Nat) : FitsT (e.keep ks) n tmps :=
  ⟨f.size, fun t v h => f.get t v (Env.get_keep ks e t v h)⟩
def zipE : List Nat → List Value → Env → Env
  | t :: ts, v :: vs, e => zipE ts vs ((t, v) :: e)
  | _, _, e => e
theorem FitsT.zip {n : Nat} : ∀ (ps : List Nat) (vs : List Value) {e : Env} {tmps : Array Value}, FitsT e n tmps → ps.all (fun t => Nat.blt t n) = true →
    FitsT (zipE ps vs e) n ((ps.zip vs).foldl (fun tmps (p : Nat × Value) => tmps.setIfInBounds p.1 p.2) tmps)
  | [], _, _, _, f, _ => by simpa [zipE] using f
  | _ :: _, [], _, _, f, _ => by simpa [zipE] using f
  | t :: ts, v :: vs, _, _, f, h => by
    simp only [List.all_cons, Bool.and_eq_true] at h
    simp only [zipE, List.zip_cons_cons, List.foldl_cons]
    exact FitsT.zip ts vs (f.put (Nat.le_of_ble_eq_true h.1) v) h.2
def mkL (q : Loop) (j : Option Code) : Loop := { q with state := if j.isNone then .ready else .done, pending := j }
def bsyL (q : Loop) : Loop := { q with state := .busy, pending := none }
def exhL (q : Loop) (j : Option Code) : Loop := { q with state := .exhausted, pending := j }
def rfX : List Item → Option Operand
  | .code (.rangeFunc x _ _ _) :: _ => some x
  | _ => none
def rfP : List Item → Array Tmp
  | .code (.rangeFunc _ ps _ _) :: _ => ps
  | _ => #[]
def rfA : List Item → Code
  | .code (.rangeFunc _ _ c _) :: _ => c
  | _ => .skip
def rfB : List Item → Code
  | .code (.rangeFunc _ _ _ bd) :: _ => bd
  | _ => .skip
def mkQ (fn : FuncId) (tmps : Array Value) (k : List Item) (r : Nat) : Loop :=
  { state := .ready, pending := none, fn, tmps, params := rfP k, assign := rfA k, body := rfB k, defers := r }
def HYield (P : Program) (B : World) (l : Nat) (args : Array Value) (h : Heap) (R : Value → Heap → Prop) : Prop :=
  ∀ w, Is B h w → ∃ f tmps asg bd w', (Instr.yield l args).run P w = .ok (.round l f tmps asg bd) w' ∧ Rnd P l f tmps asg bd w' (fun v w'' => Is B w''.heap w'' ∧ R v w''.heap)
def YSpec (P : Program) (B : World) (l : Nat) (args : Array Value) (h : Heap) (g : GH) (Lc : List Chunk) (Post : Value → GH → List Chunk → Prop) : Prop :=
  HYield P B l args h fun v h' => ∃ g' Lc', St h g (ids Lc) g' Lc' h' ∧ Post v g' Lc'
def rndQ (P : Program) (B : World) (l : Nat) (R : Value → Heap → Prop) (j : Option Code) (a : Act) (w : World) : Prop :=
  ∃ v w', (Instr.endRound l j).run P w = .ok v w' ∧ Is B w'.heap w' ∧ R v w'.heap
def rctx (P : Program) (B : World) (fn : FuncId) (n l : Nat) (k : List Item) (R : Value → Heap → Prop) : Ctx :=
  { P, B, fn, n, code := .round (rfA k) (rfB k), ro := some l, Q := rndQ P B l R }
theorem Rnd.of_run {P : Program} {B : World} {l : Nat} {fn : FuncId} {tmps : Array Value} {asg bd : Code} {w : World} {R : Value → Heap → Prop}
    (H : RunK P (some l) fn (rndQ P B l R) [.code asg, .beginRound, .code bd] { tmps := tmps, defers := [] } w) : Rnd P l fn tmps asg bd w (fun v w' => Is B w'.heap w' ∧ R v w'.heap) := by
  intro c cs
  let b : Frame := { (default : Frame) with fn := fn, kind := .normal, roundOf := some l }
  have hb0 : Frame.round l fn tmps asg bd .normal = b.atR { tmps := tmps, defers := [] } [.code asg, .beginRound, .code bd] := by
    simp [Frame.round, Frame.atR, b]
  obtain ⟨j, k', a', w', ⟨v, w'', hend, is, hR⟩, hl, st⟩ := H b (c :: cs) rfl rfl rfl
  rw [← hb0] at st
  cases hl with
  | fin => exact ⟨v, w'', ⟨is, hR⟩, Steps.trans st (.one (stepR_round_end rfl rfl hend))⟩
  | ret k => exact ⟨v, w'', ⟨is, hR⟩, Steps.trans st (.one (stepR_round_ret rfl rfl hend))⟩
  | exit id k hx => exact ⟨v, w'', ⟨is, hR⟩, Steps.trans st (.one (stepR_round_exit rfl rfl hx hend))⟩
theorem YSpec.of_at {P : Program} {B : World} {l n : Nat} {k : List Item} {fn : FuncId} {tmps : Array Value} {r : Nat} {args : Array Value} {h : Heap} {g : GH} {Lc : List Chunk} {Post : Value → GH → List Chunk → Prop} {e0 e : Env}
    (hl : h[l]? = some (.loop (mkL (mkQ fn tmps k r) none))) (hft : FitsT e0 n tmps) (hn : (rfP k).toList.all (fun t => Nat.blt t n) = true) (hs : args.size = (rfP k).size) (he : zipE (rfP k).toList args.toList e0 = e)
    (h0 : norm 1000 [.code (rfA k), .beginRound, .code (rfB k)] = pt (.round (rfA k) (rfB k)) 0)
    (H : ∀ R : Value → Heap → Prop, (∀ v h' g' Lc', St h g (ids Lc) g' Lc' h' → Post v g' Lc' → R v h') → At (rctx P B fn n l k R) [] 0 e h) : YSpec P B l args h g Lc Post := by
  intro w is
  have H := H (fun v h' => ∃ g' Lc', St h g (ids Lc) g' Lc' h' ∧ Post v g' Lc') fun v h' g' Lc' s p => ⟨g', Lc', s, p⟩
  have hfit : Fits e n [] { tmps := ((rfP k).toList.zip args.toList).foldl (fun tmps (p : Nat × Value) => tmps.setIfInBounds p.1 p.2) tmps, defers := [] } := by
    have := FitsT.zip (rfP k).toList args.toList hft hn
    rw [he] at this
    exact ⟨rfl, this.size, this.get⟩
  have H : RunK P (some l) fn (rndQ P B l fun v h' => ∃ g' Lc', St h g (ids Lc) g' Lc' h' ∧ Post v g' Lc') (pt (.round (rfA k) (rfB k)) 0) { tmps := ((rfP k).toList.zip args.toList).foldl (fun tmps (p : Nat × Value) => tmps.setIfInBounds p.1 p.2) tmps, defers := [] } w := H _ w hfit is
  rw [← h0] at H
  refine ⟨fn, _, rfA k, rfB k, w, ?_, Rnd.of_run (.norm 1000 H)⟩
  · have h1 := run_yield (P := P) (w := w) (l := l) (r := mkL (mkQ fn tmps k r) none) (args := args) (by rw [is.heap]; exact hl) hs
    rw [h1]
    simp only [mkL, mkQ]
    rw [← Array.foldl_toList, Array.toList_zip]
section
variable {h0 : Heap} {g0 : GH} {S0 : Nat → Prop} {g : GH} {L : List Chunk} {h : Heap}
theorem St.setTo (s : St h0 g0 S0 g L h) (k : Nat) {b : Nat} {o : Obj} (hk : L[k]? = some [(b, o)]) (o' : Obj) : St h0 g0 S0 g (L.set k [(b, o')]) (h.setIfInBounds b o') :=
  s.updAt k hk (Upd.set o' (s.chunk k hk))
end
theorem Is.setTo {B : World} {h : Heap} {w : World} (i : Is B h w) (l : Nat) (o : Obj) : Is B (h.setIfInBounds l o) { w with heap := w.heap.setIfInBounds l o } :=
  ⟨by simp [i.heap], i.os, i.tape, i.output⟩
section
variable {C : Ctx} {ds : List Deferred} {i : Nat} {e : Env} {h : Heap} {h0 : Heap} {g0 : GH} {S0 : Nat → Prop} {g : GH} {L : List Chunk}
def isBR : List Item → Bool
  | .beginRound :: _ => true
  | _ => false
theorem At.beginRound {l : Nat} {q : Loop} (hro : C.ro = some l) (hk : isBR (pt C.code i) = true) (s : St h0 g0 S0 g L h) (k : Nat) (hL : L[k]? = some [(l, .loop (mkL q none))]) (j : Nat) (hj : norm 1000 (pt C.code i).tail = pt C.code j)
    (K : ∀ h', St h0 g0 S0 g (L.set k [(l, .loop (bsyL q))]) h' → At C ds j e h') : At C ds i e h := by
  intro a w f is
  have K := K _ (s.setTo k hL (.loop (bsyL q))) a { w with heap := w.heap.setIfInBounds l (.loop (bsyL q)) } f (is.setTo l _)
  have hq := s.chunk k hL
  rw [← hj] at K
  generalize pt C.code i = kk at *
  unfold isBR at hk
  split at hk
  · rename_i k'
    refine RunK.step (k₁ := k') (fun b cs hf hr => stepR_beginRound (hr.trans hro) ?_) (.norm 1000 K)
    exact run_beginRound (P := C.P) (w := w) (l := l) (r := mkL q none) (by rw [is.heap]; exact hq) rfl
  · cases hk
def leaveOf : List Item → Option (Option Code)
  | [] => some none
  | .code .ret :: _ => some (some .ret)
  | .code (.exit id) :: k => match exitTo id k with
    | none => some (some (.exit id))
    | some _ => none
  | _ => none
theorem leaveOf_spec {k : List Item} {j : Option Code} (h : leaveOf k = some j) : Leave j k := by
  unfold leaveOf at h
  split at h
  · simp only [Option.some.injEq] at h; subst h; exact .fin
  · simp only [Option.some.injEq] at h; subst h; exact .ret _
  · split at h
    · rename_i hx; simp only [Option.some.injEq] at h; subst h; exact .exit _ _ hx
    · cases h
  · cases h
theorem At.roundEnd {P : Program} {B : World} {fn : FuncId} {n l : Nat} {kk : List Item} {R : Value → Heap → Prop} {q : Loop} {j : Option Code} (hl : leaveOf (pt (.round (rfA kk) (rfB kk)) i) = some j) (s : St h0 g0 S0 g L h) (k : Nat) (hL : L[k]? = some [(l, .loop (bsyL q))])
    (K : ∀ h', St h0 g0 S0 g (L.set k [(l, .loop (mkL q j))]) h' → R (.bool j.isNone) h') : At (rctx P B fn n l kk R) ds i e h := by
  intro a w f is
  have hq := s.chunk k hL
  refine RunK.leave (leaveOf_spec hl) ⟨.bool j.isNone, { w with heap := w.heap.setIfInBounds l (.loop (mkL q j)) }, ?_, ?_, ?_⟩
  · exact run_endRound (P := P) (w := w) (l := l) (r := bsyL q) j (by rw [is.heap]; exact hq)
  · exact (is.setTo l _).again
  · have := K _ (s.setTo k hL (.loop (mkL q j)))
    rw [← is.heap] at this
    exact this
def mark (r : Nat) : Deferred := { target := .collected r, args := #[] }
def AtI (C : Ctx) (ds : List Deferred) (k : List Item) (e : Env) (h : Heap) : Prop :=
  ∀ a w, Fits e C.n ds a → Is C.B h w → RunK C.P C.ro C.fn C.Q k a w
theorem At.ofI (H : AtI C ds (pt C.code i) e h) : At C ds i e h := H
theorem AtI.at_ {k : List Item} (j : Nat) (hj : norm 1000 k = pt C.code j) (H : At C ds j e h) : AtI C ds k e h :=
  fun a w f is => .norm 1000 (by rw [hj]; exact H a w f is)
def AtIn (C : Ctx) (ds : List Deferred) (k : List Item) (l : Nat) (e : Env) (h : Heap) (f : FuncId) (args : Array Value) : Prop :=
  ∀ a w, Fits e C.n ds a → Is C.B h w → ∀ (b : Frame) (cs : List Frame), b.fn = C.fn → b.roundOf = C.ro → b.kind = .normal →
    ∃ j k' a' w', C.Q j a' w' ∧ Leave j k' ∧ Steps C.P (lone (Frame.enter C.P f args .normal) (b.atR a (.inRangeFunc l :: k) :: cs) w) (lone (b.atR a' k') cs w')
theorem rfX_spec {k : List Item} {x : Operand} (h : rfX k = some x) : ∃ ps asg bd k', k = .code (.rangeFunc x ps asg bd) :: k' := by
  unfold rfX at h
  split at h
  · simp only [Option.some.injEq] at h; subst h; exact ⟨_, _, _, _, rfl⟩
  · cases h
theorem At.rangeFunc {x : Operand} {f : FuncId} {cp : Array Value} (hk : rfX (pt C.code i) = some x) (hro : C.ro = none) (hc : e.covers x = true) (hx : e.ev x = .func (.func f) #[] cp) (hf : Enterable C.P f) (s : St h0 g0 S0 g L h)
    (K : ∀ r l tmps h1, FitsT e C.n tmps → St h0 g0 S0 g ([(l, .loop (mkL (mkQ C.fn tmps (pt C.code i) r) none))] :: [(r, .deferred (some []))] :: L) h1 →
      AtIn C (mark r :: ds) (pt C.code i).tail l e h1 f (#[.func (.yield l) #[] #[]] ++ cp)) : At C ds i e h := by
  intro a w ft is b cs hbf hbr hbk
  have hsz : w.heap.size + 1 = (h.push (.deferred (some []))).size := by rw [is.heap]; simp
  have s1 := s.alloc (.deferred (some []))
  have s2 := s1.alloc (.loop (mkL (mkQ C.fn a.tmps (pt C.code i) h.size) none))
  have K := K h.size (h.push (.deferred (some []))).size a.tmps _ ft.toT s2 { a with defers := mark h.size :: ds }
    ((w.alloc (.deferred (some []))).alloc (.loop (mkL (mkQ C.fn a.tmps (pt C.code i) h.size) none))) ⟨rfl, ft.size, ft.get⟩ ⟨by simp [World.alloc, is.heap], is.os, is.tape, is.output⟩ b cs hbf hbr hbk
  have hev := ft.eval hc
  rw [hx] at hev
  obtain ⟨ps, asg, bd, k', hkk⟩ := rfX_spec hk
  rw [hkk] at K ⊢
  · obtain ⟨fn, hfn, hname, hbody⟩ := hf.out
    have hb : fn.body.isNone = false := by cases hb : fn.body <;> simp_all
    obtain ⟨j, k₂, a₂, w₂, hq, hl, st⟩ := K
    have he := run_enterLoop_outer (P := C.P) (w := w) b.fn a.tmps ps asg bd
    rw [is.heap] at he
    let W : World := (w.alloc (.deferred (some []))).alloc (.loop { state := .ready, pending := none, fn := b.fn, tmps := a.tmps, params := ps, assign := asg, body := bd, defers := h.size })
    refine ⟨j, k₂, a₂, w₂, hq, hl, .head (stepR_rangeFunc (w₁ := W) (w₁' := W) (w₂ := W) (l := (h.push (.deferred (some []))).size) (mark := [mark h.size]) (f := f) (d := { target := .fn (.func f) cp, args := #[] ++ #[.func (.yield (h.push (.deferred (some []))).size) #[] #[]] })
      (args := #[.func (.yield (h.push (.deferred (some []))).size) #[] #[]] ++ cp) (by rw [hbr, hro]; simpa [mark] using he) ?_ ?_) ?_⟩
    · simp only [rangeCall, resolve, hev, Deferred.ofValue, Sem.run_pure]
      simp [Act.eval]
    · simp only [invoke, callFunc, Sem.run_bind, run_program, Result.andThen_ok, hfn, hname, hb, Bool.false_eq_true, if_false]
      rfl
    · have hd : mark h.size :: ds = [mark h.size] ++ a.defers := by rw [ft.defers]; rfl
      rw [← hd]
      rw [← hbf] at st
      exact st
theorem AtIn.call {k : List Item} {l : Nat} {f : FuncId} {args : Array Value} {Lc : List Chunk} {Post : Value → GH → List Chunk → Prop} (s : St h0 g0 S0 g (Lc ++ L) h) (H : Spec C.P C.B f args h g Lc Post)
    (K : ∀ v g' Lc' h', gle g g' → St h0 g0 S0 g' (Lc' ++ L) h' → Post v g' Lc' → AtI C ds (.endRangeFunc l :: k) e h') : AtIn C ds k l e h f args := by
  intro a w ft is b cs hbf hbr hbk
  obtain ⟨en, w', fr, ⟨v, rfl, is', g', Lc', t, hpost⟩, hsteps, _, hleave⟩ := H w is (b.atR a (.inRangeFunc l :: k) :: cs)
  obtain ⟨j, k', a', w₂, hq, hl, st⟩ := K v g' Lc' _ t.le (s.join t) hpost a w' ft is' b cs hbf hbr hbk
  refine ⟨j, k', a', w₂, hq, hl, Steps.trans hsteps (.head ?_ st)⟩
  rw [← finish_atR_inRangeFunc l v]; exact step_leave_returned hleave
theorem AtI.endLoop {k : List Item} {l : Nat} {q : Loop} {j : Option Code} (s : St h0 g0 S0 g L h) (n : Nat) (hL : L[n]? = some [(l, .loop (mkL q j))])
    (K : ∀ h', St h0 g0 S0 g (L.set n [(l, .loop (exhL q j))]) h' → AtI C ds ((j.map Item.code).toList ++ k) e h') : AtI C ds (.endRangeFunc l :: k) e h := by
  intro a w f is
  have K := K _ (s.setTo n hL (.loop (exhL q j))) a { w with heap := w.heap.setIfInBounds l (.loop (exhL q j)) } f (is.setTo l _)
  have hq := s.chunk n hL
  refine RunK.step (fun b cs hf hr => stepR_endRangeFunc (jump := j) ?_) K
  exact run_endLoop (P := C.P) (w := w) (l := l) (r := mkL q j) (by rw [is.heap]; exact hq) (by cases j <;> simp [mkL])
end
def marks (rs : List Nat) : List Deferred := rs.map mark
def deps (rs : List Nat) : List Chunk := rs.map fun r => [(r, .deferred (some []))]
theorem Drains.marks {P : Program} {B : World} {h0 : Heap} {g0 : GH} {S0 : Nat → Prop} {g : GH} {L : List Chunk} : ∀ (rs : List Nat) {h : Heap}, St h0 g0 S0 g (deps rs ++ L) h → ∀ w, Is B h w → ∃ w', Drains P (marks rs) w w' ∧ Is B w'.heap w' ∧ St h0 g0 S0 g L w'.heap
  | [], h, s, w, is => ⟨w, .nil w, is.again, by rw [is.heap]; exact s⟩
  | r :: rs, h, s, w, is => by
    have hb := s.chunk 0 (b := r) rfl
    have s1 := (s.setTo 0 (b := r) rfl (.deferred none)).drop
    obtain ⟨w', hd, is', s'⟩ := Drains.marks rs (L := L) s1 { w with heap := w.heap.setIfInBounds r (.deferred none) } (is.setTo r _)
    exact ⟨w', .cons rfl (run_takeDeferred (P := P) (w := w) (b := r) (ds := []) (by rw [is.heap]; exact hb)) hd, is', s'⟩
section
variable {P : Program} {B : World} {fn : FuncId} {f : Func} {R : Value → Heap → Prop} {k : List Item} {e : Env} {h : Heap} {h0 : Heap} {g0 : GH} {S0 : Nat → Prop} {g : GH} {L : List Chunk}
theorem AtI.retMD {v : Value} {vs : List Value} {rl : List ResultVar} (rs : List Nat) (hi : isEnd k = true) (hr : f.results.toList = rl) (hv2 : (if hs : vs.toArray.size = 1 then vs.toArray[0] else .tuple vs.toArray) = v) (s : St h0 g0 S0 g (deps rs ++ L) h)
    (K : ∀ h', St h0 g0 S0 g L h' → ResAll P e h' rl vs ∧ R v h') : AtI (fctx P B fn f R) (marks rs) k e h := by
  intro a w ft is
  subst hv2
  subst hr
  show RunK P none fn (fnQ P B f R) k a w
  have hq : ∀ j, (j = none ∨ j = some .ret) → fnQ P B f R j a w := fun j hj => by
    obtain ⟨w₂, hd, is₂, s₂⟩ := Drains.marks (P := P) rs s w is
    obtain ⟨hv, hR⟩ := K _ s₂
    exact ⟨hj, w₂, _, by rw [ft.defers]; exact hd, results_all ft hv w₂ rfl, is₂, hR⟩
  unfold isEnd at hi
  split at hi
  · exact .leave .fin (hq _ (.inl rfl))
  · exact .leave (.ret _) (hq _ (.inr rfl))
  · cases hi
end
section
variable {C : Ctx} {ds : List Deferred} {i j : Nat} {r : Heap} {M : Nat → Prop} {Ls : List (Nat × Bool)} {e : Env} {h : Heap}
variable {h0 : Heap} {g0 : GH} {S0 : Nat → Prop} {g : GH} {L L' : List Chunk}
theorem Op.yield {dst : Option Tmp} {x : Operand} {ops : Array Operand} {ts : Array TypeId} {l : Nat} {args : Array Value} {Lc : List Chunk} {Post : Value → GH → List Chunk → Prop}
    (ho : nextDO C i j e = some (dst, .call { callee := .value x, args := ops, argTypes := ts })) (hx : e.ev x = .func (.yield l) #[] #[]) (ha : ops.map e.ev = args)
    (s : St h0 g0 S0 g (Lc ++ L) h) (H : YSpec C.P C.B l args h g Lc Post) (hM : ∀ b, b < r.size → ids Lc b → M b)
    (K : ∀ v g' Lc' h', gle g g' → St h0 g0 S0 g' (Lc' ++ L) h' → Post v g' Lc' → Op C ds i r M Ls (e.putO dst v) h') : Op C ds i r M ((j, false) :: Ls) e h := by
  obtain ⟨o, h1, rfl, h3⟩ := nextDO_spec ho
  refine Op.act h1 fun w is hk a ft => ?_
  obtain ⟨f, tmps, asg, bd, w', hy, hR⟩ := H w is
  have hrun : (semOf e o).run C.P w = .ok (.round l f tmps asg bd) w' := by
    subst ha
    unfold semOf execOp
    simp only [h3, resolve, hx, Deferred.ofValue, Sem.run_bind, Sem.run_pure, Result.andThen_ok, invoke]
    rw [show (#[] ++ ops.map e.ev : Array Value) = ops.map e.ev from by simp]
    exact hy
  rw [hrun]
  refine Rnd.mono hR fun v w'' ⟨is', g', Lc', t, hpost⟩ => ?_
  exact ⟨⟨t.keep hM hk, is'⟩, _, ft.putO (nextOp_spec h1).2.2.2.1 v, K v g' Lc' _ t.le (s.join t) hpost⟩
end
def Yld {α : Type} (P : Program) (B : World) (l : Nat) (en : GH → α → Array Value → Prop) (ord : List α → Prop) (go : List α → Bool) (I : List α → GH → Chunk → Prop) (g0 : GH) : Prop :=
  ∀ (h : Heap) (g : GH) (xs : List α) (x : α) (args : Array Value) (c : Chunk), gle g0 g → Glob g → go xs = true → en g x args → (∃ full, ord full ∧ xs ++ [x] <+: full) → I xs g c → St h g (ids [c]) g [c] h →
    YSpec P B l args h g [c] fun v g' L' => ∃ c', v = .bool (go (xs ++ [x])) ∧ L' = [c'] ∧ I (xs ++ [x]) g' c'
def SeqOk {α : Type} (P : Program) (g : GH) (f : FuncId) (cp : Array Value) (en : GH → α → Array Value → Prop) (ord : List α → Prop) : Prop :=
  ∀ (B : World) (h : Heap) (g' : GH) (l : Nat) (I : List α → GH → Chunk → Prop) (go : List α → Bool) (c : Chunk), gle g g' → Sub g' h → Glob g' → Yld P B l en ord go I g' → go [] = true → I [] g' c → St h g' (ids [c]) g' [c] h →
    Spec P B f (#[.func (.yield l) #[] #[]] ++ cp) h g' [c] fun v g'' L' => ∃ full xs c', v = .tuple #[] ∧ ord full ∧ xs <+: full ∧ (go xs = true → xs = full) ∧ (∀ ys, ys <+: xs → ys ≠ xs → go ys = true) ∧ L' = [c'] ∧ I xs g'' c'
theorem SeqOk.mono {α : Type} {P : Program} {g g' : GH} {f : FuncId} {cp : Array Value} {en : GH → α → Array Value → Prop} {ord : List α → Prop} (H : SeqOk P g f cp en ord) (hg : gle g g') : SeqOk P g' f cp en ord :=
  fun B h k l I go c hk => H B h k l I go c (gle.trans hg hk)
theorem Yld.mono {α : Type} {P : Program} {B : World} {l : Nat} {en : GH → α → Array Value → Prop} {ord : List α → Prop} {go : List α → Bool} {I : List α → GH → Chunk → Prop} {g g' : GH} (H : Yld P B l en ord go I g) (hg : gle g g') : Yld P B l en ord go I g' :=
  fun h k xs x args c hk => H h k xs x args c (gle.trans hg hk)
end Go.Proofs.YtmjebehhpojihaaGreatDoor.Sw
