/- The symbolic walk, part 10: copy and clear on a row of one's own. Own text. -/
import Derived.Test.YtphonojjgnbpfaaDoorSwMid
namespace Go.Proofs.YtphonojjgnbpfaaDoor.Sw
set_option linter.unusedVariables false
set_option linter.unusedSimpArgs false
set_option linter.deprecated false
open Go
section
variable {C : Ctx} {ds : List Deferred} {i j : Nat} {r : Heap} {M : Nat → Prop} {Ls : List (Nat × Bool)} {e : Env} {h : Heap}
variable {h0 : Heap} {g0 : GH} {S0 : Nat → Prop} {g : GH} {L L' : List Chunk} {α : Type} {d : Kd α}

/-- The cells of a part of a row of one's own are overwritten. -/
theorem store_row {w : World} {B : World} (is : Is B h w) {E : TypeId} {xs ys : List α} {news : List Value} {b o cap : Nat} {cur : Array Value} {rest : List α} (h1 : xs.length + rest.length = cap) (h2 : cap ≤ maxLen) (h3 : o + cap * d.sz ≤ cur.size) (h4 : Reads d g (xs ++ rest) (cut cur o (cap * d.sz)))
    (s : St h0 g0 S0 g L h) (k : Nat) (hk : L[k]? = some [(b, .cells cur E (0, 0))]) (lo : Nat) (hlo : lo + ys.length ≤ xs.length) (hr : Reads d g ys news) (h1' : ∀ v ∈ news, v.oneCell' = true) (hM : b < r.size → M b) (P : Program) :
    ∃ w', (storeCells ⟨b, o + lo * d.sz, none⟩ news).run P w = .ok () w' ∧ Is B w'.heap w' ∧ Row E d g (.slice (some ⟨b, o, none⟩) xs.length cap) (putAt xs lo ys) [(b, .cells (splice cur (o + lo * d.sz) news) E (0, 0))] ∧
      St h0 g0 S0 g (L.set k [(b, .cells (splice cur (o + lo * d.sz) news) E (0, 0))]) w'.heap ∧ (Keep r M h → Keep r M w'.heap) := by
  have hb : w.heap[b]? = some (.cells cur E (0, 0)) := by rw [is.heap]; exact s.chunk k hk
  have hn := hr.len
  have hl1 : (lo + ys.length) * d.sz ≤ cap * d.sz := Nat.mul_le_mul_right _ (by omega)
  rw [Nat.add_mul] at hl1
  have hst := run_storeCells_at P b (o + lo * d.sz) E news 0 cur w hb (by rw [hn]; omega) h1'
  simp only [Nat.add_zero] at hst
  refine ⟨w.setRow b (splice cur (o + lo * d.sz) news), hst, ⟨rfl, is.os, is.tape, is.output⟩, ?_, ?_, ?_⟩
  · have := Row.over (T := E) (b := b) h1 h2 h3 h4 lo hlo hr
    rwa [putAt_len hlo] at this
  · exact s.updAt k hk (by have := Upd.row (cs := splice cur (o + lo * d.sz) news) hb; rwa [is.heap] at this)
  · intro hk'
    rw [← is.heap] at hk'
    exact Keep.row hM hk'
theorem putAt_nil (xs : List α) (lo : Nat) : putAt xs lo [] = xs := by simp [putAt]

/-- copy(x[lo:], y). -/
theorem Op.copyO {dst : Nat} {x y : Operand} {t t' E : TypeId} {by_ : Nat} {ao : Option Addr} {n c lo m : Nat} {xs ys : List α} {news : List Value} {ch : Chunk}
    (ho : nextDO C i j e = some (some dst, .call { callee := .builtin .copy, args := #[x, y], argTypes := #[t, t'] })) (hI : elemI C.P t = some (E, d.sz, by_))
    (hx : e.ev x = .slice (subAddr ao lo c d.sz) (n - lo) (c - lo)) (hR : Row E d g (.slice ao n c) xs ch) (hlo : lo ≤ xs.length) (s : St h0 g0 S0 g L h) (k : Nat) (hk : L[k]? = some ch)
    (hy : Src C.P h d.sz (e.ev y) m news) (hys : Reads d g ys news) (hm : ys.length = m) (hM : ∀ p ∈ ch, p.1 < r.size → M p.1)
    (K : ∀ ch' h', Row E d g (.slice ao n c) (putAt xs lo (ys.take (xs.length - lo))) ch' → St h0 g0 S0 g (L.set k ch') h' → Op C ds i r M Ls ((dst, .int .i64 ((min ys.length (xs.length - lo) : Nat) : Int)) :: e) h') : Op C ds i r M ((j, false) :: Ls) e h := by
  obtain ⟨o', h1, h2, h3⟩ := nextDO_spec ho
  obtain ⟨inf, zv, I⟩ := elemI_spec hI
  subst hm
  obtain ⟨ao', c', ef⟩ := hR.form
  simp only [Value.slice.injEq] at ef
  obtain ⟨rfl, rfl, rfl⟩ := ef
  refine Op.run h1 (R := fun nx h' => ∃ ch', nx = .value (.int .i64 ((min ys.length (xs.length - lo) : Nat) : Int)) ∧ Row E d g (.slice ao xs.length c) (putAt xs lo (ys.take (xs.length - lo))) ch' ∧ St h0 g0 S0 g (L.set k ch') h' ∧ (Keep r M h → Keep r M h')) ?_ ?_
  · intro w is
    have hh := is.heap
    have hl := hy.len w hh
    have hcs := hy.cells w hh (min ys.length (xs.length - lo)) (Nat.min_le_left _ _)
    have hi := I.info
    have step : ∀ w', ((match subAddr ao lo c d.sz with | some a => storeCells a (news.take (min ys.length (xs.length - lo) * d.sz)) | none => pure ()) : Sem Unit).run C.P w = .ok () w' →
        (semOf e o').run C.P w = .ok (.value (.int .i64 ((min ys.length (xs.length - lo) : Nat) : Int))) w' := by
      intro w' hw
      refine semOf_call (P := C.P) h3 (.inr (.inl rfl)) ?_
      simp only [List.map_toArray, List.map_cons, List.map_nil, hx]
      simp only [Builtin.copy_, sizeOf, typeInfo]
      simp only [List.getElem?_toArray, List.getElem?_cons_zero, List.getElem?_cons_succ, Sem.run_bind, run_program, Result.andThen_ok, run_underlying I.under, hi, Sem.run_pure, I.size, hl, hcs]
      cases hsa : subAddr ao lo c d.sz with
      | none => rw [hsa] at hw; simp only [Sem.run_pure] at hw; simpa [goInt] using hw
      | some a => rw [hsa] at hw; simp [hw, goInt]
    have hset := set_front k L ch
    rcases hR with ⟨a0, ee, rfl, rfl⟩ | ⟨b, o, cap, cur, rest, ee, rfl, hc0, hc2, hc3, hc4⟩
    · simp only [Value.slice.injEq] at ee
      obtain ⟨rfl, _, rfl⟩ := ee
      refine ⟨_, _, step w (by cases subAddr ao lo 0 d.sz <;> simp [storeCells]), is.again, [], rfl, .inl ⟨ao, rfl, ?_, rfl⟩, ?_, fun hk' => by rw [hh]; exact hk'⟩
      · simp [putAt]
      · rw [hh]; exact St.perm (hset _ hk) (s.front k hk)
    · simp only [Value.slice.injEq] at ee
      obtain ⟨rfl, _, rfl⟩ := ee
      have hr : Reads d g (ys.take (xs.length - lo)) (news.take (min ys.length (xs.length - lo) * d.sz)) := by
        have := (hys.parts (min ys.length (xs.length - lo)) (Nat.min_le_left _ _)).1
        rwa [show ys.take (min ys.length (xs.length - lo)) = ys.take (xs.length - lo) from by
          rcases Nat.le_total ys.length (xs.length - lo) with hle | hle
          · rw [Nat.min_eq_left hle, List.take_of_length_le (Nat.le_refl _), List.take_of_length_le hle]
          · rw [Nat.min_eq_right hle]] at this
      have hlt : lo + (ys.take (xs.length - lo)).length ≤ xs.length := by rw [List.length_take]; omega
      obtain ⟨w', hw, is', hrow, hst, hkeep⟩ := store_row (r := r) (M := M) is hc0 hc2 hc3 hc4 s k hk lo hlt hr (fun v hv => hy.one v (List.mem_of_mem_take hv)) (hM (b, .cells cur E (0, 0)) (List.mem_singleton.2 rfl)) C.P
      by_cases hcl : lo = c
      · -- nothing is copied
        have hz : min ys.length (xs.length - lo) = 0 := by omega
        have hz2 : ys.take (xs.length - lo) = [] := by rw [show xs.length - lo = 0 by omega]; simp
        refine ⟨_, w, step w ?_, is.again, [(b, .cells cur E (0, 0))], rfl, ?_, ?_, fun hk' => by rw [hh]; exact hk'⟩
        · rw [hz]
          unfold subAddr
          rw [if_pos hcl.symm]
          simp [storeCells]
        · rw [hz2, putAt_nil]; exact .inr ⟨b, o, c, cur, rest, rfl, rfl, hc0, hc2, hc3, hc4⟩
        · rw [hh]; exact St.perm (hset _ hk) (s.front k hk)
      · refine ⟨_, w', step w' ?_, is', _, rfl, hrow, hst, hkeep⟩
        unfold subAddr
        rw [if_neg (fun e => hcl e.symm)]
        simp only [Option.map_some, add_flat]
        exact hw
  · rintro _ _ ⟨ch', rfl, hrow, hst, hkeep⟩
    refine ⟨_, rfl, hkeep, ?_⟩
    rw [h2]
    exact K ch' _ hrow hst
/-- clear(x[lo:]). -/
theorem Op.clearO {x : Operand} {t E : TypeId} {by_ : Nat} {ao : Option Addr} {n c lo : Nat} {xs : List α} {ch : Chunk}
    (ho : nextDO C i j e = some (none, .call { callee := .builtin .clear, args := #[x], argTypes := #[t] })) (hI : elemI C.P t = some (E, d.sz, by_)) (hz : ((C.P.info? E).bind (·.zero)).map (·.cells.toList) = some d.zc)
    (hx : e.ev x = .slice (subAddr ao lo c d.sz) (n - lo) (c - lo)) (hR : Row E d g (.slice ao n c) xs ch) (hlo : lo ≤ xs.length) (s : St h0 g0 S0 g L h) (k : Nat) (hk : L[k]? = some ch) (hM : ∀ p ∈ ch, p.1 < r.size → M p.1)
    (K : ∀ ch' h', Row E d g (.slice ao n c) (putAt xs lo (List.replicate (xs.length - lo) d.zv)) ch' → St h0 g0 S0 g (L.set k ch') h' → Op C ds i r M Ls e h') : Op C ds i r M ((j, false) :: Ls) e h := by
  obtain ⟨o', h1, h2, h3⟩ := nextDO_spec ho
  obtain ⟨inf, zv, I⟩ := elemI_spec hI
  obtain ⟨ao', c', ef⟩ := hR.form
  simp only [Value.slice.injEq] at ef
  obtain ⟨rfl, rfl, rfl⟩ := ef
  have hzc : zv.cells.toList = d.zc := by simpa [I.info, I.zero] using hz
  refine Op.run h1 (R := fun nx h' => ∃ ch', nx = .value (.tuple #[]) ∧ Row E d g (.slice ao xs.length c) (putAt xs lo (List.replicate (xs.length - lo) d.zv)) ch' ∧ St h0 g0 S0 g (L.set k ch') h' ∧ (Keep r M h → Keep r M h')) ?_ ?_
  · intro w is
    have hh := is.heap
    have hi := I.info
    have hzz := I.zero
    have hset := set_front k L ch
    have stay : xs.length - lo = 0 ∨ subAddr ao lo c d.sz = none → (semOf e o').run C.P w = .ok (.value (.tuple #[])) w := by
      intro h0
      refine semOf_call (P := C.P) h3 (by simp) ?_
      simp only [List.map_toArray, List.map_cons, List.map_nil, hx]
      simp only [Builtin.clear_]
      simp only [List.getElem?_toArray, List.getElem?_cons_zero, Sem.run_bind, run_underlying I.under, Result.andThen_ok]
      rcases h0 with h0 | h0
      · rw [h0]; cases subAddr ao lo c d.sz <;> simp
      · rw [h0]; simp
    have go : ∀ a w', subAddr ao lo c d.sz = some a → xs.length - lo ≠ 0 → (storeCells a (Builtin.zeroCells zv.cells (xs.length - lo)).toList).run C.P w = .ok () w' → (semOf e o').run C.P w = .ok (.value (.tuple #[])) w' := by
      intro a w' ha hn hw
      refine semOf_call (P := C.P) h3 (by simp) ?_
      simp only [List.map_toArray, List.map_cons, List.map_nil, hx, ha]
      obtain ⟨m, hm⟩ : ∃ m, xs.length - lo = m + 1 := ⟨xs.length - lo - 1, by omega⟩
      rw [hm] at hw ⊢
      simp only [Builtin.clear_, zeroValue, typeInfo]
      simp only [List.getElem?_toArray, List.getElem?_cons_zero, Sem.run_bind, run_underlying I.under, Result.andThen_ok, run_program, hi, hzz, Sem.run_pure, hw]
    rcases hR with ⟨a0, ee, rfl, rfl⟩ | ⟨b, o, cap, cur, rest, ee, rfl, hc0, hc2, hc3, hc4⟩
    · simp only [Value.slice.injEq] at ee
      obtain ⟨rfl, _, rfl⟩ := ee
      refine ⟨_, _, stay (.inl (by simp)), is.again, [], rfl, .inl ⟨ao, rfl, by simp [putAt], rfl⟩, ?_, fun hk' => by rw [hh]; exact hk'⟩
      rw [hh]; exact St.perm (hset _ hk) (s.front k hk)
    · simp only [Value.slice.injEq] at ee
      obtain ⟨rfl, _, rfl⟩ := ee
      by_cases hn : xs.length - lo = 0
      · have hz2 : List.replicate (xs.length - lo) d.zv = [] := by rw [hn]; rfl
        refine ⟨_, w, stay (.inl hn), is.again, [(b, .cells cur E (0, 0))], rfl, ?_, ?_, fun hk' => by rw [hh]; exact hk'⟩
        · rw [hz2, putAt_nil]; exact .inr ⟨b, o, c, cur, rest, rfl, rfl, hc0, hc2, hc3, hc4⟩
        · rw [hh]; exact St.perm (hset _ hk) (s.front k hk)
      · have hr : Reads d g (List.replicate (xs.length - lo) d.zv) (Builtin.zeroCells zv.cells (xs.length - lo)).toList := reads_zeros d g zv.cells hzc _
        obtain ⟨w', hw, is', hrow, hst, hkeep⟩ := store_row (r := r) (M := M) is hc0 hc2 hc3 hc4 s k hk lo (by rw [List.length_replicate]; omega) hr hr.one (hM (b, .cells cur E (0, 0)) (List.mem_singleton.2 rfl)) C.P
        have hsa : subAddr (some ⟨b, o, none⟩) lo c d.sz = some ⟨b, o + lo * d.sz, none⟩ := by
          unfold subAddr
          rw [if_neg (by omega)]
          simp [add_flat]
        exact ⟨_, w', go _ w' hsa hn hw, is', _, rfl, hrow, hst, hkeep⟩
  · rintro _ _ ⟨ch', rfl, hrow, hst, hkeep⟩
    refine ⟨_, rfl, hkeep, ?_⟩
    rw [h2]
    exact K ch' _ hrow hst
end
end Go.Proofs.YtphonojjgnbpfaaDoor.Sw
