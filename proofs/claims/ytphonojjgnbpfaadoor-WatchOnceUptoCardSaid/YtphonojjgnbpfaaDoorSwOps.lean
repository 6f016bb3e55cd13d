/- The symbolic walk, part 4: the operations on memory, each a rule. Own text. -/
import Derived.Test.YtphonojjgnbpfaaDoorSwHeap
namespace Go.Proofs.YtphonojjgnbpfaaDoor.Sw
set_option linter.unusedVariables false
set_option linter.unusedSimpArgs false
set_option linter.deprecated false
open Go

def nextDO (C : Ctx) (i j : Nat) (e : Env) : Option (Option Tmp × Go.Op) := (nextOp C i j e).map fun o => (o.dst, o.op)
theorem nextDO_spec {C : Ctx} {i j : Nat} {e : Env} {d : Option Tmp} {op : Go.Op} (h : nextDO C i j e = some (d, op)) : ∃ o, nextOp C i j e = some o ∧ o.dst = d ∧ o.op = op := by
  obtain ⟨o, h1, h2⟩ := Option.map_eq_some_iff.1 h
  simp only [Prod.mk.injEq] at h2
  exact ⟨o, h1, h2.1, h2.2⟩

section
variable {h0 : Heap} {g0 : GH} {S0 : Nat → Prop} {g : GH} {L L' : List Chunk} {h : Heap}
theorem flatten_front : ∀ (k : Nat) (L : List Chunk) (c : Chunk), L[k]? = some c → (c :: L.eraseIdx k).Perm L
  | 0, x :: L, c, h => by simp at h; subst h; exact .refl _
  | k + 1, x :: L, c, h => by
    simp only [List.getElem?_cons_succ] at h
    exact ((List.Perm.swap x c (L.eraseIdx k))).trans ((flatten_front k L c h).cons x)
  | _, [], c, h => by simp at h
theorem set_front : ∀ (k : Nat) (L : List Chunk) (c c' : Chunk), L[k]? = some c → (c' :: L.eraseIdx k).Perm (L.set k c')
  | 0, x :: L, c, c', h => by simp
  | k + 1, x :: L, c, c', h => by
    simp only [List.getElem?_cons_succ] at h
    exact ((List.Perm.swap x c' (L.eraseIdx k))).trans ((set_front k L c c' h).cons x)
  | _, [], c, c', h => by simp at h
theorem St.chunk (s : St h0 g0 S0 g L h) (k : Nat) {b : Nat} {o : Obj} (hk : L[k]? = some [(b, o)]) : h[b]? = some o :=
  s.has (b, o) (List.mem_flatten.2 ⟨_, List.mem_of_getElem? hk, by simp⟩)
theorem St.front (s : St h0 g0 S0 g L h) (k : Nat) {c : Chunk} (hk : L[k]? = some c) : St h0 g0 S0 g (c :: L.eraseIdx k) h := s.perm (flatten_front k L c hk).symm
theorem St.updAt (s : St h0 g0 S0 g L h) (k : Nat) {b : Nat} {o o' : Obj} (hk : L[k]? = some [(b, o)]) {h' : Heap} (u : Upd h b o' h') : St h0 g0 S0 g (L.set k [(b, o')]) h' :=
  ((s.front k hk).upd u).perm (set_front k L _ _ hk)
end

/-! ### 1. New blocks -/
section
variable {C : Ctx} {ds : List Deferred} {i j : Nat} {r : Heap} {M : Nat → Prop} {Ls : List (Nat × Bool)} {e : Env} {h : Heap}
variable {h0 : Heap} {g0 : GH} {S0 : Nat → Prop} {g : GH} {L L' : List Chunk}

theorem Keep.push {r : Heap} {M : Nat → Prop} {h : Heap} (o : Obj) (k : Keep r M h) : Keep r M (h.push o) :=
  ⟨by have := k.size; simp; omega, fun b hb hm => by rw [Array.getElem?_push, if_neg (by have := k.size; omega)]; exact k.same b hb hm⟩

theorem Op.box {d : Nat} {T : TypeId} {x : Operand} {cs : Array Value} (ho : nextDO C i j e = some (some d, .box T x)) (hc : (e.ev x).cells = cs) (s : St h0 g0 S0 g L h)
    (K : ∀ b h', St h0 g0 S0 g ([(b, .cells cs T (0, 0))] :: L) h' → Op C ds i r M Ls ((d, .pointer (some ⟨b, 0, none⟩)) :: e) h') : Op C ds i r M ((j, false) :: Ls) e h := by
  obtain ⟨o, h1, h2, h3⟩ := nextDO_spec ho
  refine Op.run h1 (R := fun nx h' => nx = .value (.pointer (some ⟨h.size, 0, none⟩)) ∧ h' = h.push (.cells cs T (0, 0))) ?_ ?_
  · intro w is
    refine ⟨.value (.pointer (some ⟨h.size, 0, none⟩)), { w with heap := w.heap.push (.cells cs T (0, 0)) }, ?_, ⟨rfl, is.os, is.tape, is.output⟩, rfl, by rw [← is.heap]⟩
    unfold semOf execOp
    simp only [h3, Instr.box, newVar, newRow, Sem.run_bind, run_newObj, Result.andThen_ok, Sem.run_pure, hc, is.heap]
  · rintro _ _ ⟨rfl, rfl⟩
    refine ⟨_, rfl, Keep.push _, ?_⟩
    rw [h2]
    exact K _ _ (s.alloc _)

theorem Op.load {d : Nat} {T : TypeId} {x : Operand} {b o n : Nat} {v : Value} (ho : nextDO C i j e = some (some d, .load T x)) (hx : e.ev x = .pointer (some ⟨b, o, none⟩))
    (hT : shapeT C.P T = some (false, n)) {cs : Array Value} {U : TypeId} {fz : Nat × Nat} (hb : h[b]? = some (.cells cs U fz)) (hv : cs[o]? = some v)
    (K : Op C ds i r M Ls ((d, v) :: e) h) : Op C ds i r M ((j, false) :: Ls) e h := by
  obtain ⟨o', h1, h2, h3⟩ := nextDO_spec ho
  refine Op.take h1 (v := v) (fun _ => by simp [needs, h3]) (fun w is hk hw => ?_) (by rw [h2]; exact K)
  unfold semOf execOp
  have hc : w.cell? ⟨b, o, none⟩ = some v := by rw [cell_of (hw rfl), hcell_row hb, hv]
  simp only [h3, hx, Instr.loadAt, Instr.sureAddr, Sem.run_bind, Sem.run_pure, Result.andThen_ok, run_loadVar_one hT hc]
/-- taken first: the block was there when the region began, and nobody in it turns it -/
theorem Op.loadF {d : Nat} {T : TypeId} {x : Operand} {b o n : Nat} {v : Value} (ho : nextDO C i j e = some (some d, .load T x)) (hx : e.ev x = .pointer (some ⟨b, o, none⟩))
    (hT : shapeT C.P T = some (false, n)) {cs : Array Value} {U : TypeId} {fz : Nat × Nat} (hM : ¬ M b) (hb : r[b]? = some (.cells cs U fz)) (hv : cs[o]? = some v)
    (K : Op C ds i r M Ls ((d, v) :: e) h) : Op C ds i r M ((j, true) :: Ls) e h := by
  obtain ⟨o', h1, h2, h3⟩ := nextDO_spec ho
  refine Op.take h1 (v := v) (fun _ => by simp [needs, h3]) (fun w is hk hw => ?_) (by rw [h2]; exact K)
  unfold semOf execOp
  have hb' := (hk.same b (Array.getElem?_eq_some_iff.1 hb).1 hM).trans hb
  have hc : w.cell? ⟨b, o, none⟩ = some v := by rw [cell_of rfl, hcell_row hb', hv]
  simp only [h3, hx, Instr.loadAt, Instr.sureAddr, Sem.run_bind, Sem.run_pure, Result.andThen_ok, run_loadVar_one hT hc]
def cut (cs : Array Value) (o n : Nat) : List Value := (cs.toList.drop o).take n
theorem cut_at {cs : Array Value} {o n : Nat} {vs : List Value} (hv : cut cs o n = vs) {h : Heap} {b : Nat} {U : TypeId} {fz : Nat × Nat} (hb : h[b]? = some (.cells cs U fz)) (k : Nat) (v : Value) (hk : vs[k]? = some v) :
    hcell h (Addr.add ⟨b, o, none⟩ k) = some v := by
  rw [add_flat, hcell_row hb]
  subst hv
  unfold cut at hk
  rw [List.getElem?_take] at hk
  split at hk
  · simpa using hk
  · cases hk
theorem Op.loadA {d : Nat} {T : TypeId} {x : Operand} {b o n : Nat} {vs : List Value} (ho : nextDO C i j e = some (some d, .load T x)) (hx : e.ev x = .pointer (some ⟨b, o, none⟩))
    (hT : shapeT C.P T = some (true, n)) {cs : Array Value} {U : TypeId} {fz : Nat × Nat} (hb : h[b]? = some (.cells cs U fz)) (hv : cut cs o n = vs) (hl : vs.length = n)
    (K : Op C ds i r M Ls ((d, .agg vs.toArray) :: e) h) : Op C ds i r M ((j, false) :: Ls) e h := by
  obtain ⟨o', h1, h2, h3⟩ := nextDO_spec ho
  refine Op.take h1 (v := .agg vs.toArray) (fun _ => by simp [needs, h3]) (fun w is hk hw => ?_) (by rw [h2]; exact K)
  unfold semOf execOp
  simp only [h3, hx, Instr.loadAt, Instr.sureAddr, Sem.run_bind, Sem.run_pure, Result.andThen_ok, run_loadVar_agg hT hl fun k v hk => by rw [cell_of (hw rfl)]; exact cut_at hv hb k v hk]
theorem Op.loadAF {d : Nat} {T : TypeId} {x : Operand} {b o n : Nat} {vs : List Value} (ho : nextDO C i j e = some (some d, .load T x)) (hx : e.ev x = .pointer (some ⟨b, o, none⟩))
    (hT : shapeT C.P T = some (true, n)) {cs : Array Value} {U : TypeId} {fz : Nat × Nat} (hM : ¬ M b) (hb : r[b]? = some (.cells cs U fz)) (hv : cut cs o n = vs) (hl : vs.length = n)
    (K : Op C ds i r M Ls ((d, .agg vs.toArray) :: e) h) : Op C ds i r M ((j, true) :: Ls) e h := by
  obtain ⟨o', h1, h2, h3⟩ := nextDO_spec ho
  refine Op.take h1 (v := .agg vs.toArray) (fun _ => by simp [needs, h3]) (fun w is hk hw => ?_) (by rw [h2]; exact K)
  unfold semOf execOp
  have hb' := (hk.same b (Array.getElem?_eq_some_iff.1 hb).1 hM).trans hb
  simp only [h3, hx, Instr.loadAt, Instr.sureAddr, Sem.run_bind, Sem.run_pure, Result.andThen_ok, run_loadVar_agg hT hl fun k v hk => by rw [cell_of rfl]; exact cut_at hv hb' k v hk]
end
end Go.Proofs.YtphonojjgnbpfaaDoor.Sw
