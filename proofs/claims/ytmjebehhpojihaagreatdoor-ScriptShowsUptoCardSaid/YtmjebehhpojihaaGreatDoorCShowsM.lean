/- Lemmas for a law of this seat: what the functions compute, and plain facts of it. Own text. -/
import Derived.Test.YtmjebehhpojihaaGreatDoorCShowsL
import Derived.Lib.ConvBytes
import Derived.Laws.MakeOwn
namespace Go.Proofs.YtmjebehhpojihaaGreatDoor.Sw
set_option linter.unusedVariables false
set_option linter.unusedSimpArgs false
set_option linter.deprecated false
open Go
theorem push_modify (h : Heap) (o : Obj) (f : Obj → Obj) : (h.push o).modify h.size f = h.push (f o) := by
  apply Array.ext_getElem?
  intro k
  rw [Array.getElem?_modify, Array.getElem?_push, Array.getElem?_push]
  by_cases hk : h.size = k
  · subst hk; simp
  · rw [if_neg hk, if_neg (fun e => hk e.symm), if_neg (fun e => hk e.symm)]
theorem run_storeCells_lo (P : Program) (g o : Nat) (t : TypeId) (fz : Nat × Nat) : ∀ (vs : List Value) (i : Nat) (cur : Array Value) (w : World), w.heap[g]? = some (.cells cur t fz) → o + i + vs.length ≤ fz.1 → o + i + vs.length ≤ cur.size → (∀ v ∈ vs, v.oneCell' = true) →
    (storeCells ⟨g, o, none⟩ vs i).run P w = .ok () (w.setRow g (cur.toList.take (o + i) ++ vs ++ cur.toList.drop (o + i + vs.length)).toArray)
  | [], i, cur, w, hg, _, _, _ => by
    simp only [storeCells, List.append_nil, List.length_nil, Nat.add_zero, List.take_append_drop, Array.toArray_toList]
    rw [setRow_self w g cur t fz hg]
    rfl
  | v :: rest, i, cur, w, hg, hfz, hl, h1 => by
    have hi : o + i < cur.size := by simp at hl; omega
    have hadd : (⟨g, o, none⟩ : Addr).add i = ⟨g, o + i, none⟩ := by unfold Addr.add; split <;> simp_all
    have hcell : w.cell? ⟨g, o + i, none⟩ = some cur[o + i] := by simp [World.cell?, hg, hi]
    have hfro : w.frozen? ⟨g, o + i, none⟩ = false := by
      obtain ⟨lo, hi'⟩ := fz
      simp only [World.frozen?, hg, Bool.and_eq_false_iff, decide_eq_false_iff_not]
      left
      simp at hfz
      omega
    have hst : (store ((⟨g, o, none⟩ : Addr).add i) v).run P w = .ok () (w.setRow g (cur.setIfInBounds (o + i) v)) := by
      rw [hadd, run_store P w _ v _ (h1 v (by simp)), hcell]
      simp [hfro, setCell_eq_setRow w g (o + i) cur t fz v hg]
    have ih := run_storeCells_lo P g o t fz rest (i + 1) (cur.setIfInBounds (o + i) v) (w.setRow g (cur.setIfInBounds (o + i) v)) (setRow_heap w g cur _ t _ hg) (by simp at hfz ⊢; omega) (by simp at hl ⊢; omega) (fun x hx => h1 x (by simp [hx]))
    simp only [storeCells, Sem.run_bind, hst, Result.andThen_ok, ih, setRow_setRow]
    congr 3
    have e := list_seg_step cur.toList (o + i) v rest (by simp at hl ⊢; omega)
    simpa [Array.toList_setIfInBounds, Nat.add_assoc] using e
section
variable {P : Program} {w : World} {t t' ty E : TypeId} {sz by_ : Nat} {i : TypeInfo} {z : Value}
theorem run_app_roomS (I : ElemI P t E sz by_ i z) (ht' : notInt P t' = true) {b o n cap m q : Nat} {x : Value} {news : List Value} (hx : Src P w.heap sz x m news)
    {cur : Array Value} {U : TypeId} (hb : w.heap[b]? = some (.cells cur U (q, q + 1))) (hq : cur.size ≤ q) (hroom : n + m ≤ cap) (hfit : o + cap * sz ≤ cur.size) :
    (Builtin.append_ #[t, t'] ty #[.slice (some ⟨b, o, none⟩) n cap, x]).run P w =
      .ok (.slice (some ⟨b, o, none⟩) (n + m) cap) (w.setRow b (cur.toList.take (o + n * sz) ++ news ++ cur.toList.drop (o + n * sz + news.length)).toArray) := by
  obtain ⟨d, hd, hd2⟩ := notInt_spec ht'
  have hc := hx.cells w rfl m (Nat.le_refl _)
  rw [← hx.size, List.take_length] at hc
  have h2 : (n + m) * sz ≤ cap * sz := Nat.mul_le_mul_right _ hroom
  rw [Nat.add_mul] at h2
  have hst := run_storeCells_lo P b (o + n * sz) U _ news 0 cur w hb (by rw [hx.size]; simp; omega) (by rw [hx.size]; omega) hx.one
  simp only [Nat.add_zero] at hst
  have hl := hx.len w rfl
  simp only [Builtin.append_, sizeOf, typeInfo]
  simp only [List.getElem?_toArray, List.getElem?_cons_zero, List.getElem?_cons_succ, Sem.run_bind, run_program, Result.andThen_ok, run_underlying I.under, run_underlying hd, I.info, Sem.run_pure, I.size]
  cases d <;> first | exact absurd rfl (hd2 _) | (simp only [Bool.false_eq_true, if_false, hl, Result.andThen_ok, hroom, if_true, Sem.run_bind, Bool.not_false, hc, add_flat, hst, Sem.run_pure])
end
def RowS {α : Type} (T : TypeId) (d : Kd α) (g : GH) (v : Value) (xs : List α) (c : Chunk) : Prop :=
  ∃ (b o cap q : Nat) (cur : Array Value) (rest : List α), v = .slice (some ⟨b, o, none⟩) xs.length cap ∧ c = [(b, .cells cur T (q, q + 1))] ∧ cur.size ≤ q ∧ xs.length + rest.length = cap ∧ cap ≤ maxLen ∧ o + cap * d.sz ≤ cur.size ∧ Reads d g (xs ++ rest) (cut cur o (cap * d.sz))
def RowZ {α : Type} (T : TypeId) (d : Kd α) (g : GH) (v : Value) (xs : List α) (c : Chunk) : Prop := Row T d g v xs c ∨ RowS T d g v xs c
section
variable {α : Type} {d : Kd α} {g g' : GH} {h h' : Heap} {T : TypeId} {v : Value} {xs : List α} {c : Chunk}
theorem RowZ.mono (hr : RowZ T d g v xs c) (hg : gle g g') : RowZ T d g' v xs c := by
  rcases hr with h | ⟨b, o, cap, q, cur, rest, e1, e2, hq, h1, h2, h3, h4⟩
  · exact .inl (h.mono hg)
  · exact .inr ⟨b, o, cap, q, cur, rest, e1, e2, hq, h1, h2, h3, h4.mono hg⟩
theorem RowZ.form (hr : RowZ T d g v xs c) : ∃ ao cap, v = .slice ao xs.length cap := by
  rcases hr with h | ⟨b, o, cap, q, cur, rest, e1, _⟩
  · exact h.form
  · exact ⟨_, _, e1⟩
theorem RowZ.toH {h0 : Heap} {g0 : GH} {S0 : Nat → Prop} {L : List Chunk} (hr : RowZ T d g v xs c) (s : St h0 g0 S0 g L h) (k : Nat) (hk : L[k]? = some c) : SlH h g T d v xs := by
  rcases hr with hr | ⟨b, o, cap, q, cur, rest, rfl, rfl, hq, h1, h2, h3, h4⟩
  · exact hr.toH s k hk
  · exact ⟨_, cap, rfl, by omega, fun _ => ⟨b, o, cur, (T, _, _), rfl, s.chunk k hk, reads_left h1 h4⟩⟩
end
theorem RowS.freeze {α : Type} {d : Kd α} {g : GH} {h : Heap} {T : TypeId} {v : Value} {xs : List α} {c : Chunk} {h0 : Heap} {g0 : GH} {S0 : Nat → Prop} {L : List Chunk} (hr : RowZ T d g v xs c) (s : St h0 g0 S0 g (c :: L) h) :
    ∃ g', St h0 g0 S0 g' L h ∧ gle g g' ∧ SlR g' T d v xs := by
  rcases hr with hr | ⟨b, o, cap, q, cur, rest, rfl, rfl, hq, h1, h2, h3, h4⟩
  · exact hr.freeze s
  · obtain ⟨s', hle⟩ := s.freeze
    exact ⟨_, s', hle, _, cap, rfl, by omega, fun _ => ⟨b, o, cur, (T, _, _), rfl, gadd_one _ _, (reads_left h1 h4).mono hle⟩⟩
section
variable {C : Ctx} {ds : List Deferred} {i j : Nat} {r : Heap} {M : Nat → Prop} {Ls : List (Nat × Bool)} {e : Env} {h : Heap}
variable {h0 : Heap} {g0 : GH} {S0 : Nat → Prop} {g : GH} {L : List Chunk}
def enB (g : GH) (x : List UInt8) (a : Array Value) : Prop := ∃ v, a = #[v] ∧ SlR g 5 kU8 v x
theorem Op.toBytes {dst : Nat} {T S E : TypeId} {x : Operand} {l : List UInt8} (ho : nextDO C i j e = some (some dst, .convert S T x)) (hS : C.P.underlying S = some .string) (hT : C.P.underlying T = some (.slice E)) (hE : C.P.underlying E = some (.int .u8))
    (hx : e.ev x = .string (mkS l)) (hl : l.length ≤ 140737488355328) (s : St h0 g0 S0 g L h)
    (K : ∀ v c h', RowZ E kU8 g v l c → St h0 g0 S0 g (c :: L) h' → Op C ds i r M Ls ((dst, v) :: e) h') : Op C ds i r M ((j, false) :: Ls) e h := by
  obtain ⟨o', h1, h2, h3⟩ := nextDO_spec ho
  refine Op.run h1 (R := fun nx h' => ∃ v c, nx = .value v ∧ RowZ E kU8 g v l c ∧ St h0 g0 S0 g (c :: L) h' ∧ (Keep r M h → Keep r M h')) ?_ ?_
  · intro w is
    have hh := is.heap
    have hsz : (mkS l).size = l.length := size_mkS l
    have hrun := Lib.run_convert_string_bytes (P := C.P) w S T E (mkS l) hS hT hE
    have hheap : (Lib.bytesWorld w E (mkS l)).heap = w.heap.push (.cells (Lib.bytesCells w E (mkS l)) E ((Lib.bytesCells w E (mkS l)).size, (Lib.bytesCells w E (mkS l)).size + 1)) := by
      simp only [Lib.bytesWorld, World.freeze, World.alloc, World.drew]
      rw [if_neg (by decide)]
      dsimp only
      rw [push_modify]
      simp
    have hge := grownCap_ge' w l.length 0 E
    have hgm := grownCap_max w l.length 0 E (by unfold maxLen; omega)
    have hcz : (Lib.bytesCells w E (mkS l)).size = grownCap w l.length 0 E := by
      unfold Lib.bytesCells
      rw [Array.size_append, Array.size_map, Array.size_replicate, hsz]
      show (mkS l).size + _ = _
      omega
    refine ⟨_, Lib.bytesWorld w E (mkS l), ?_, ⟨rfl, ?_, ?_, ?_⟩, _, [(w.heap.size, .cells (Lib.bytesCells w E (mkS l)) E ((Lib.bytesCells w E (mkS l)).size, (Lib.bytesCells w E (mkS l)).size + 1))], rfl, .inr ⟨w.heap.size, 0, grownCap w l.length 0 E, _, _, List.replicate (grownCap w l.length 0 E - l.length) 0, rfl, rfl, Nat.le_refl _, by simp; omega, hgm, by rw [hcz]; simp [kU8], ?_⟩, ?_, ?_⟩
    · unfold semOf execOp
      simp only [h3, hx, Sem.run_bind, hrun, hsz, Result.andThen_ok, Sem.run_pure]
    · exact is.os
    · exact is.tape
    · exact is.output
    · have e1 : cut (Lib.bytesCells w E (mkS l)) 0 (grownCap w l.length 0 E * kU8.sz) = (l.map fun b => Value.int .u8 b.toNat) ++ List.replicate (grownCap w l.length 0 E - l.length) (.int .u8 0) := by
        unfold cut
        rw [List.drop_zero, List.take_of_length_le (by rw [Array.length_toList, hcz]; simp [kU8])]
        unfold Lib.bytesCells
        rw [hsz, Array.toList_append, Array.toList_map, Array.toList_replicate]
        rfl
      rw [e1]
      refine (reads_str g l).append ?_
      generalize grownCap w l.length 0 E - l.length = q
      induction q with
      | zero => rfl
      | succ q ih => rw [List.replicate_succ, List.replicate_succ]; exact ⟨[.int .u8 0], _, rfl, rfl, ih⟩
    · rw [hheap, hh]; exact s.alloc _
    · intro hk'; rw [hheap, hh]; exact Keep.push _ hk'
  · rintro _ _ ⟨v, c, rfl, hrow, hst, hkeep⟩
    refine ⟨v, rfl, hkeep, ?_⟩
    rw [h2]
    exact K v c _ hrow hst
theorem Op.slMax {dst : Nat} {T E : TypeId} {sz by_ : Nat} {x lo hi mx : Operand} {ao : Option Addr} {n c : Nat} {k k' k'' : IntKind} {m m' : Int} {b : Bool} (ho : nextDO C i j e = some (some dst, .slice T x (some lo) (some hi) (some mx))) (hE : elemI C.P T = some (E, sz, by_))
    (hx : e.ev x = .slice ao n c) (hlo : e.ev lo = .int k m) (hhi : e.ev hi = .int k' m') (hmx : e.ev mx = .int k'' m') (h0 : 0 ≤ m) (h1 : m ≤ m') (h2 : m' ≤ c)
    (K : Op C ds i r M Ls ((dst, .slice (subAddr ao m.toNat m'.toNat sz) (m'.toNat - m.toNat) (m'.toNat - m.toNat)) :: e) h) : Op C ds i r M ((j, b) :: Ls) e h := by
  obtain ⟨inf, z, I⟩ := elemI_spec hE
  refine Op.free ho (fun o' ho w => ?_) K
  have hi := I.info
  simp only [execOp, ho, Option.map_some, Option.map_none, Instr.sliceAt, Instr.slice, hx, hlo, hhi, hmx, Sem.run_bind, Sem.run_pure, Result.andThen_ok, run_underlying I.under, Instr.sliceBounds, Option.isSome_some, if_true, run_bound (show 0 ≤ m' by omega) h2, run_bound (show 0 ≤ m' by omega) (show m' ≤ (m'.toNat : Nat) by omega), run_bound h0 (show m ≤ (m'.toNat : Nat) by omega), sizeOf, typeInfo, run_program, hi, I.size, subAddr]
theorem Op.slMaxD {α : Type} {d : Kd α} {dst : Nat} {T E : TypeId} {by_ : Nat} {x lo hi mx : Operand} {ao : Option Addr} {n c : Nat} {k k' k'' : IntKind} {m m' : Int} {b : Bool} {xs : List α} (ho : nextDO C i j e = some (some dst, .slice T x (some lo) (some hi) (some mx))) (hE : elemI C.P T = some (E, d.sz, by_))
    (hx : e.ev x = .slice ao n c) (hlo : e.ev lo = .int k m) (hhi : e.ev hi = .int k' m') (hmx : e.ev mx = .int k'' m') (hs : SlR g E d (.slice ao n c) xs) (h0 : 0 ≤ m) (h1 : m ≤ m') (h2 : m' ≤ xs.length)
    (K : ∀ v', SlR g E d v' ((xs.take m'.toNat).drop m.toNat) → Op C ds i r M Ls ((dst, v') :: e) h) : Op C ds i r M ((j, b) :: Ls) e h := by
  have hs2 := hs
  obtain ⟨ao', c', ee, hc, _⟩ := hs2
  simp only [Value.slice.injEq] at ee
  obtain ⟨rfl, rfl, rfl⟩ := ee
  refine Op.slMax ho hE hx hlo hhi hmx h0 h1 (by omega) (K _ ?_)
  have hsub := hs.sub m.toNat m'.toNat (by omega) (by omega)
  have hlen : ((xs.take m'.toNat).drop m.toNat).length = m'.toNat - m.toNat := by rw [List.length_drop, List.length_take]; omega
  by_cases he : m'.toNat = m.toNat
  · have : (xs.take m'.toNat).drop m.toNat = [] := List.eq_nil_of_length_eq_zero (by omega)
    rw [this, show m'.toNat - m.toNat = 0 by omega]
    exact SlR.empty _ _ _ _ _
  · obtain ⟨ao2, c2, e2, hc2, H2⟩ := hsub
    have e3 : subAddr ao m.toNat m'.toNat d.sz = subAddr ao m.toNat c d.sz := by
      unfold subAddr
      rw [if_neg he, if_neg (by omega)]
    rw [e3]
    simp only [Value.slice.injEq] at e2
    obtain ⟨rfl, hl, rfl⟩ := e2
    exact ⟨_, _, by rw [hlen], by omega, H2⟩
theorem made_u8 (n : Nat) : (madeCells #[.int .u8 0] n).toList = List.replicate n (.int .u8 0) := by
  unfold madeCells
  apply List.ext_getElem
  · simp
  · intro i h1 h2; simp [Nat.mod_one]
theorem Op.makeB {dst : Nat} {T E : TypeId} {x y : Operand} {c : Int} (ho : nextDO C i j e = some (some dst, .makeSlice T x y)) (hI : elemI C.P T = some (E, kU8.sz, 1)) (hz : ((C.P.info? E).bind (·.zero)).map (·.cells) = some #[.int .u8 0])
    (hx : e.ev x = .int .i64 0) (hy : e.ev y = .int .i64 c) (h0' : 0 ≤ c) (hc : c ≤ 140737488355328) (s : St h0 g0 S0 g L h)
    (K : ∀ b c' h', Row E kU8 g (.slice (some ⟨b, 0, none⟩) 0 c.toNat) [] c' → St h0 g0 S0 g (c' :: L) h' → Op C ds i r M Ls ((dst, .slice (some ⟨b, 0, none⟩) 0 c.toNat) :: e) h') : Op C ds i r M ((j, false) :: Ls) e h := by
  obtain ⟨o', h1, h2, h3⟩ := nextDO_spec ho
  obtain ⟨inf, z, I⟩ := elemI_spec hI
  have hzc : z.cells = #[.int .u8 0] := by simpa [I.info, I.zero] using hz
  have hsz : inf.size = 1 := I.size
  have hby : inf.bytes = 1 := I.bytes
  refine Op.run h1 (R := fun nx h' => nx = .value (.slice (some ⟨h.size, 0, none⟩) 0 c.toNat) ∧ h' = h.push (.cells (madeCells #[.int .u8 0] c.toNat) E (0, 0))) ?_ ?_
  · intro w is
    have hrun := run_make (P := C.P) w T E inf z I.under I.info I.zero .i64 .i64 0 c (Int.le_refl _) h0' (by rw [hby]; omega) (by omega)
    rw [hzc, hsz, Nat.mul_one] at hrun
    refine ⟨_, w.alloc (.cells (madeCells #[.int .u8 0] c.toNat) E), ?_, ⟨rfl, is.os, is.tape, is.output⟩, by rw [← is.heap], by rw [← is.heap]; rfl⟩
    unfold semOf execOp
    simp only [h3, hx, hy, Sem.run_bind, hrun, Result.andThen_ok, Sem.run_pure]
    rfl
  · rintro _ _ ⟨rfl, rfl⟩
    refine ⟨_, rfl, Keep.push _, ?_⟩
    rw [h2]
    refine K h.size _ _ (.inr ⟨h.size, 0, c.toNat, _, List.replicate c.toNat 0, rfl, rfl, by simp, by unfold maxLen; omega, ?_, ?_⟩) (s.alloc _)
    · unfold madeCells; simp [kU8]
    · unfold cut
      rw [made_u8, List.drop_zero, List.take_of_length_le (by simp [kU8])]
      generalize c.toNat = q
      induction q with
      | zero => rfl
      | succ q ih => rw [List.replicate_succ, List.replicate_succ]; exact ⟨[.int .u8 0], _, rfl, rfl, ih⟩
theorem Op.appendS {α : Type} {dst : Nat} {x y : Operand} {t t' E : TypeId} {by_ : Nat} {d : Kd α} {v : Value} {xs ys : List α} {c : Chunk} {m : Nat} {news : List Value} {g1 : GH}
    (ho : nextDO C i j e = some (some dst, .call { callee := .builtin .append, args := #[x, y], argTypes := #[t, t'] })) (hI : elemI C.P t = some (E, d.sz, by_)) (ht' : notInt C.P t' = true) (hz : ((C.P.info? E).bind (·.zero)).map (·.cells.toList) = some d.zc)
    (hx : e.ev x = v) (hv : RowZ E d g1 v xs c) (s : St h0 g0 S0 g L h) (k : Nat) (hk : L[k]? = some c)
    (hy : Src C.P h d.sz (e.ev y) m news) (hys : Reads d g1 ys news) (hm : ys.length = m) (hlen : (xs.length + ys.length) * by_ ≤ 140737488355328)
    (hM : ∀ p ∈ c, p.1 < r.size → M p.1)
    (K : ∀ v' c' h', RowZ E d g1 v' (xs ++ ys) c' → St h0 g0 S0 g (L.set k c') h' → (v' = .slice none 0 0 → xs ++ ys = []) → Op C ds i r M Ls ((dst, v') :: e) h') : Op C ds i r M ((j, false) :: Ls) e h := by
  rcases hv with hv | hv
  · exact Op.append ho hI ht' hz hx hv s k hk hy hys hm hlen hM (fun v' c' h' hr => K v' c' h' (.inl hr))
  obtain ⟨o', h1, h2, h3⟩ := nextDO_spec ho
  obtain ⟨inf, z, I⟩ := elemI_spec hI
  subst hm
  have hzc : z.cells.toList = d.zc := by simpa [I.info, I.zero] using hz
  have hshort : xs.length + ys.length ≤ 140737488355328 := by
    have : (xs.length + ys.length) * 1 ≤ (xs.length + ys.length) * by_ := Nat.mul_le_mul_left _ I.bpos
    omega
  have sf := s.front k hk
  have hset := set_front k L c
  -- what is to be shown of the run
  refine Op.run h1 (R := fun nx h' => ∃ v' c', nx = .value v' ∧ RowZ E d g1 v' (xs ++ ys) c' ∧ St h0 g0 S0 g (L.set k c') h' ∧ (v' = .slice none 0 0 → xs ++ ys = []) ∧ (Keep r M h → Keep r M h')) ?_ ?_
  · intro w is
    have hh := is.heap
    have grow : ∀ (ao : Option Addr) (cap : Nat) (olds : List Value), v = .slice ao xs.length cap → Src C.P h d.sz v xs.length olds → Reads d g1 xs olds → cap < xs.length + ys.length →
        ∃ x w', (semOf e o').run C.P w = .ok x w' ∧ Is C.B w'.heap w' ∧ ∃ v' c', x = .value v' ∧ RowZ E d g1 v' (xs ++ ys) c' ∧ St h0 g0 S0 g (L.set k c') w'.heap ∧ (v' = .slice none 0 0 → xs ++ ys = []) ∧ (Keep r M h → Keep r M w'.heap) := by
      intro ao cap olds ev ho hro hg
      have hrun := run_app_grow (P := C.P) (w := w) (ty := o'.type) I ht' (ao := ao) (n := xs.length) (cap := cap) (m := ys.length) (x := e.ev y) (olds := olds) (news := news)
        (by rw [hh, ← ev]; exact ho) (by rw [hh]; exact hy) hg hlen
      have hsem := semOf_call (P := C.P) (w := w) (e := e) (v := .slice (some ⟨w.heap.size, 0, none⟩) (xs.length + ys.length) (grownCap w (xs.length + ys.length) cap E)) h3 (.inl rfl) (by
        simp only [List.map_toArray, List.map_cons, List.map_nil, hx, ev]
        exact hrun)
      refine ⟨_, _, hsem, ⟨rfl, is.os, is.tape, is.output⟩, _, [(w.heap.size, _)], rfl, .inl <| .inr ⟨w.heap.size, 0, grownCap w (xs.length + ys.length) cap E, ((olds ++ news).toArray ++ Builtin.zeroCells z.cells (grownCap w (xs.length + ys.length) cap E - (xs.length + ys.length))), List.replicate (grownCap w (xs.length + ys.length) cap E - (xs.length + ys.length)) d.zv, ?_, rfl, ?_, ?_, ?_, ?_⟩, ?_, ?_, ?_⟩
      · rw [List.length_append]
      · have hge := grownCap_ge' w (xs.length + ys.length) cap E
        rw [List.length_append, List.length_replicate]; omega
      · exact grownCap_max w _ _ _ (by unfold maxLen; omega)
      · have h1 := grownCap_ge' w (xs.length + ys.length) cap E
        simp only [Array.size_append, List.size_toArray, List.length_append, hro.len, hys.len, size_zeros, I.cells]
        rw [Nat.zero_add, ← Nat.add_mul, ← Nat.add_mul, Nat.add_sub_cancel' h1]
        exact Nat.le_refl _
      · have hge := grownCap_ge' w (xs.length + ys.length) cap E
        have hlen2 : (xs ++ ys ++ List.replicate (grownCap w (xs.length + ys.length) cap E - (xs.length + ys.length)) d.zv).length = grownCap w (xs.length + ys.length) cap E := by simp; omega
        have := reads_cut (pre := []) (post := []) (o := 0) ((hro.append hys).append (reads_zeros d g1 z.cells hzc (grownCap w (xs.length + ys.length) cap E - (xs.length + ys.length)))) rfl ((olds ++ news).toArray ++ Builtin.zeroCells z.cells (grownCap w (xs.length + ys.length) cap E - (xs.length + ys.length))) (by simp [Array.toList_append])
        rwa [hlen2] at this
      · refine St.perm (hset _ hk) ?_
        have s1 := sf.drop.alloc (.cells ((olds ++ news).toArray ++ Builtin.zeroCells z.cells (grownCap w (xs.length + ys.length) cap E - (xs.length + ys.length))) E (0, 0))
        rw [← hh] at s1
        exact s1
      · intro hc; simp at hc
      · intro hk'; rw [← hh] at hk'; exact Keep.push _ hk'
    obtain ⟨b, o, cap, q, cur, rest, rfl, rfl, hq, hc0, hc2, hc3, hc5⟩ := hv
    have hc1 : xs.length ≤ cap := by omega
    have hc4 := reads_left hc0 hc5
    have hb : w.heap[b]? = some (.cells cur E (q, q + 1)) := by rw [hh]; exact s.chunk k hk
    by_cases hroom : xs.length + ys.length ≤ cap
    · have hrun := run_app_roomS (P := C.P) (w := w) (ty := o'.type) I ht' (o := o) (n := xs.length) (cap := cap) (m := ys.length) (x := e.ev y) (news := news) (by rw [hh]; exact hy) hb hq hroom hc3
      have hsem := semOf_call (P := C.P) (w := w) (e := e) h3 (.inl rfl) (by
        simp only [List.map_toArray, List.map_cons, List.map_nil, hx]
        exact hrun)
      have hfit : o + xs.length * d.sz + ys.length * d.sz ≤ cur.size := by
        have h2 : (xs.length + ys.length) * d.sz ≤ cap * d.sz := Nat.mul_le_mul_right _ hroom
        rw [Nat.add_mul] at h2
        omega
      have hclen : cur.toList.length = cur.size := Array.length_toList
      refine ⟨_, _, hsem, ⟨rfl, is.os, is.tape, is.output⟩, _, [(b, _)], rfl, .inr ⟨b, o, cap, q, (cur.toList.take (o + xs.length * d.sz) ++ news ++ cur.toList.drop (o + xs.length * d.sz + news.length)).toArray, rest.drop ys.length, ?_, rfl, ?_, ?_, hc2, ?_, ?_⟩, ?_, ?_, ?_⟩
      · rw [List.length_append]
      · rw [List.size_toArray, List.length_append, List.length_append, List.length_take, List.length_drop, hys.len, hclen, Nat.min_eq_left (by omega)]
        omega
      · rw [List.length_append, List.length_drop]; omega
      · rw [List.size_toArray, List.length_append, List.length_append, List.length_take, List.length_drop, hys.len, hclen, Nat.min_eq_left (by omega)]
        omega
      · have hr2 := (hc5.parts (xs.length + ys.length) (by rw [List.length_append]; omega)).2
        have hdr : (xs ++ rest).drop (xs.length + ys.length) = rest.drop ys.length := by
          rw [List.drop_append, List.drop_eq_nil_of_le (by omega), List.nil_append, Nat.add_sub_cancel_left]
        rw [hdr] at hr2
        have hlen2 : (xs ++ ys ++ rest.drop ys.length).length = cap := by simp; omega
        have hcap2 : (xs.length + ys.length) * d.sz ≤ cap * d.sz := Nat.mul_le_mul_right _ hroom
        have := reads_cut (pre := cur.toList.take o) (post := cur.toList.drop (o + cap * d.sz)) (o := o) ((hc4.append hys).append hr2) (by rw [List.length_take, hclen]; exact Nat.min_eq_left (by omega))
          ((cur.toList.take (o + xs.length * d.sz) ++ news ++ cur.toList.drop (o + xs.length * d.sz + news.length)).toArray) (by
            unfold cut
            rw [List.toList_toArray, List.take_add, hys.len]
            have e1 : ((cur.toList.drop o).take (cap * d.sz)).drop ((xs.length + ys.length) * d.sz) ++ cur.toList.drop (o + cap * d.sz) = cur.toList.drop (o + xs.length * d.sz + ys.length * d.sz) := by
              have e2 : cur.toList.drop (o + cap * d.sz) = (cur.toList.drop (o + (xs.length + ys.length) * d.sz)).drop (cap * d.sz - (xs.length + ys.length) * d.sz) := by
                rw [List.drop_drop]; congr 1; omega
              rw [List.drop_take, List.drop_drop, e2, List.take_append_drop, Nat.add_mul, Nat.add_assoc]
            simp only [List.append_assoc]
            rw [e1])
        rwa [hlen2] at this
      · exact s.updAt k hk (by have := Upd.row (cs := (cur.toList.take (o + xs.length * d.sz) ++ news ++ cur.toList.drop (o + xs.length * d.sz + news.length)).toArray) hb; rwa [hh] at this)
      · intro hc; simp at hc
      · intro hk'; rw [← hh] at hk'; exact Keep.row (hM (b, .cells cur E (q, q + 1)) (List.mem_singleton.2 rfl)) hk'
    · obtain ⟨olds, hsrc, hro⟩ := Src.slice (P := C.P) (h := h) (g := g1) (E := E) (d := d) (v := .slice (some ⟨b, o, none⟩) xs.length cap) (ys := xs)
        ⟨_, cap, rfl, hc1, fun _ => ⟨b, o, cur, (E, q, q + 1), rfl, s.chunk k hk, hc4⟩⟩
      exact grow _ cap olds rfl hsrc hro (by omega)
  · rintro _ _ ⟨v', c', rfl, hrow, hst, hnil, hkeep⟩
    refine ⟨v', rfl, hkeep, ?_⟩
    rw [h2]
    exact K v' c' _ hrow hst hnil
end
end Go.Proofs.YtmjebehhpojihaaGreatDoor.Sw
namespace Go.Proofs.YtmjebehhpojihaaGreatDoor.Sw
open Go
set_option maxRecDepth 100000
set_option linter.unusedVariables false
set_option linter.unusedSimpArgs false
set_option linter.deprecated false
theorem digitR (B : World) (h : Heap) (g : GH) (hg : Sub g h) (hG : Glob g) (c : Int) (hc0 : 0 ≤ c) (hc1 : c ≤ 255) :
  Spec Tryz.prog B 147 #[.int .u8 c] h g [] (fun rv g' L' => rv = .int .i64 (digI c) ∧ g' = g ∧ L' = []) := by
 refine Spec.at' Tryz.func147 ?_
 intro R hR
 have s0 := St.init hg
 refine At.go 1 1 [] ?_
 refine At.rp 6 3 [(5, .bool (decide (c ≥ (48 : Int))))] ?_
 refine Op.wb (decide (c ≥ (48 : Int))) 5 (fun c20 => ?_) (fun c21 => ?_)
 ·replace c20 := of_decide_eq_true c20
  refine Op.pg 2 [(8, .bool (decide (c ≤ (57 : Int))))] ?_
  refine At.if' (decide (c ≤ (57 : Int))) 8 3 5 (fun c22 => ?_) (fun c23 => ?_)
  ·replace c22 := of_decide_eq_true c22
   refine At.rp 4 1 [(9, .int .u8 c)] ?_
   refine Op.vl 10 (.int .i64 (IntKind.wrap .i64 c)) (.int .i64 c) (wrapEq_i64 (by omega) (by omega)) ?_
   refine Op.v64 11 (c - 48) (by omega) (by omega) ?_
   refine Op.pg 4 [(2, .int .i64 (c - 48))] ?_
   refine At.rt (.int .i64 (c - 48)) ?_
   refine hR _ _ _ _ s0 ⟨?_, rfl, rfl⟩
   exact (eqI (by exact digI_1 (by omega) (by omega)))
  ·replace c23 := of_decide_eq_false c23
   refine At.rp 6 3 [(14, .bool (decide (c ≥ (97 : Int))))] ?_
   refine Op.wb (decide (c ≥ (97 : Int))) 14 (fun c24 => ?_) (fun c25 => ?_)
   ·replace c24 := of_decide_eq_true c24
    refine Op.pg 6 [(17, .bool (decide (c ≤ (102 : Int))))] ?_
    refine At.if' (decide (c ≤ (102 : Int))) 17 7 9 (fun c26 => ?_) (fun c27 => ?_)
    ·replace c26 := of_decide_eq_true c26
     refine At.rp 4 1 [(18, .int .u8 c)] ?_
     refine Op.vl 19 (.int .i64 (IntKind.wrap .i64 c)) (.int .i64 c) (wrapEq_i64 (by omega) (by omega)) ?_
     refine Op.v64 20 (c - 87) (by omega) (by omega) ?_
     refine Op.pg 8 [(2, .int .i64 (c - 87))] ?_
     refine At.rt (.int .i64 (c - 87)) ?_
     refine hR _ _ _ _ s0 ⟨?_, rfl, rfl⟩
     exact (eqI (by exact digI_2 (by omega) (by omega)))
    ·replace c27 := of_decide_eq_false c27
     refine At.go 10 1 [(2, .int .i64 (-1))] ?_
     refine At.rt (.int .i64 (-1)) ?_
     refine hR _ _ _ _ s0 ⟨?_, rfl, rfl⟩
     exact (eqI (by exact digI_3 (by omega) (by omega)))
   ·replace c25 := of_decide_eq_false c25
    refine Op.pg 6 [(17, .bool false)] ?_
    refine At.ifF 17 9 ?_
    refine At.go 10 1 [(2, .int .i64 (-1))] ?_
    refine At.rt (.int .i64 (-1)) ?_
    refine hR _ _ _ _ s0 ⟨?_, rfl, rfl⟩
    exact (eqI (by exact digI_3 (by omega) (by omega)))
 ·replace c21 := of_decide_eq_false c21
  refine Op.pg 2 [(8, .bool false)] ?_
  refine At.ifF 8 5 ?_
  refine At.rp 6 3 [(14, .bool (decide (c ≥ (97 : Int))))] ?_
  refine Op.wb (decide (c ≥ (97 : Int))) 14 (fun c28 => ?_) (fun c29 => ?_)
  ·replace c28 := of_decide_eq_true c28
   refine Op.pg 6 [(17, .bool (decide (c ≤ (102 : Int))))] ?_
   refine At.if' (decide (c ≤ (102 : Int))) 17 7 9 (fun c30 => ?_) (fun c31 => ?_)
   ·replace c30 := of_decide_eq_true c30
    refine At.rp 4 1 [(18, .int .u8 c)] ?_
    refine Op.vl 19 (.int .i64 (IntKind.wrap .i64 c)) (.int .i64 c) (wrapEq_i64 (by omega) (by omega)) ?_
    refine Op.v64 20 (c - 87) (by omega) (by omega) ?_
    refine Op.pg 8 [(2, .int .i64 (c - 87))] ?_
    refine At.rt (.int .i64 (c - 87)) ?_
    refine hR _ _ _ _ s0 ⟨?_, rfl, rfl⟩
    exact (eqI (by exact digI_2 (by omega) (by omega)))
   ·replace c31 := of_decide_eq_false c31
    refine At.go 10 1 [(2, .int .i64 (-1))] ?_
    refine At.rt (.int .i64 (-1)) ?_
    refine hR _ _ _ _ s0 ⟨?_, rfl, rfl⟩
    exact (eqI (by exact digI_3 (by omega) (by omega)))
  ·replace c29 := of_decide_eq_false c29
   refine Op.pg 6 [(17, .bool false)] ?_
   refine At.ifF 17 9 ?_
   refine At.go 10 1 [(2, .int .i64 (-1))] ?_
   refine At.rt (.int .i64 (-1)) ?_
   refine hR _ _ _ _ s0 ⟨?_, rfl, rfl⟩
   exact (eqI (by exact digI_3 (by omega) (by omega)))
theorem unhexR (B : World) (h : Heap) (g : GH) (hg : Sub g h) (hG : Glob g) (w : List UInt8) (hw : w.length ≤ 1000000000) :
  Spec Tryz.prog B 111 #[.string (mkS w)] h g [] (fun rv g' L' => ∃ v0 k0, rv = .tuple #[v0, .bool ((unhexW w).isSome)] ∧ Row 5 kU8 g' v0 ((unhexW w).getD []) k0 ∧ g' = g ∧ L' = [k0]) := by
 refine Spec.at' Tryz.func111 ?_
 intro R hR
 have s0 := St.init hg
 refine At.go 1 2 [] ?_
 refine At.rp 2 1 [(8, .string (mkS w))] ?_
 refine Op.vl 9 (.bool ((mkS w).toList == (mkS ([46])).toList)) (.bool (w == ([46]))) (by rw [toList_mkS, toList_mkS]) ?_
 refine Op.gt 2 ?_
 refine At.if' (w == ([46])) 9 3 5 (fun c20 => ?_) (fun c21 => ?_)
 ·replace c20 := eq_of_beq c20
  refine At.go 4 2 [(2, .slice none 0 0), (3, .bool true)] ?_
  have R22 := Row.zero 5 kU8 g none
  have s23 := s0.nl
  refine At.rt (.tuple #[.slice none 0 0, .bool true]) ?_
  refine hR _ _ _ _ s23 ⟨(.slice none 0 0), [], ?_, ?_, rfl, rfl⟩
  ·exact eqT2 rfl (eqB (by exact (unhex_1 (by assumption)).2))
  ·exact rowEq R22 (by exact (unhex_1 (by assumption)).1)
 ·replace c21 := neF c21
  refine At.rp 9 4 [(13, .bool (decide ((w.length : Int) < (2 : Int))))] ?_
  refine Op.wb (decide ((w.length : Int) < (2 : Int))) 13 (fun c24 => ?_) (fun c25 => ?_)
  ·replace c24 := of_decide_eq_true c24
   refine Op.pg 6 [(18, .bool true)] ?_
   refine At.ifT 18 7 ?_
   refine At.go 8 2 [(2, .slice none 0 0), (3, .bool false)] ?_
   have R26 := Row.zero 5 kU8 g none
   have s27 := s0.nl
   refine At.rt (.tuple #[.slice none 0 0, .bool false]) ?_
   refine hR _ _ _ _ s27 ⟨(.slice none 0 0), [], ?_, ?_, rfl, rfl⟩
   ·exact eqT2 rfl (eqB (by exact (unhex_2 (by assumption) (by first | exact .inl (by assumption) | exact .inr (by assumption))).2))
   ·exact rowEq R26 (by exact (unhex_2 (by assumption) (by first | exact .inl (by assumption) | exact .inr (by assumption))).1)
  ·replace c25 := of_decide_eq_false c25
   refine Op.px 2 [(15, .int .i64 (w.length : Int))] ?_
   refine Op.vl 16 (.int .i64 (Int.tmod (w.length : Int) (2 : Int))) (.int .i64 ((w.length : Int) % (2 : Int))) (remEq (by omega)) ?_
   refine Op.pg 6 [(18, .bool (((w.length : Int) % 2) != (0 : Int)))] ?_
   refine At.if' (((w.length : Int) % 2) != (0 : Int)) 18 7 9 (fun c28 => ?_) (fun c29 => ?_)
   ·replace c28 := bneT c28
    refine At.go 8 2 [(2, .slice none 0 0), (3, .bool false)] ?_
    have R30 := Row.zero 5 kU8 g none
    have s31 := s0.nl
    refine At.rt (.tuple #[.slice none 0 0, .bool false]) ?_
    refine hR _ _ _ _ s31 ⟨(.slice none 0 0), [], ?_, ?_, rfl, rfl⟩
    ·exact eqT2 rfl (eqB (by exact (unhex_2 (by assumption) (by first | exact .inl (by assumption) | exact .inr (by assumption))).2))
    ·exact rowEq R30 (by exact (unhex_2 (by assumption) (by first | exact .inl (by assumption) | exact .inr (by assumption))).1)
   ·replace c29 := bneF c29
    refine At.rg 2 ?_
    refine Op.lit (T := 29) (len := 0) (parts := #[]) (dst := 19) (E := 5) (ps := []) (cs := #[]) (by kernel_rfl) (by kernel_rfl) (by kernel_rfl) s0 ?_
    intro b32 h33 s34
    refine Op.pg 10 [(4, .slice (some ⟨b32, 0, none⟩) 0 0)] ?_
    refine At.go 11 1 [(5, .int .i64 0)] ?_
    have loop11 : ∀ (m : Nat) (out : List UInt8) (i : Int) (a35 : Option Addr) (n36 : Nat) (ch37 : Chunk) (h40 : Heap) (hm : w.length - i.toNat < m) (h0 : 0 ≤ i) (h2 : i ≤ w.length) (h3 : i % 2 = 0) (hol : out.length ≤ i) (hI : uhI w i out) (R38 : Row 5 kU8 g (.slice a35 out.length n36) out ch37)    (s39 : St h g (ids []) g [ch37] h40), At (fctx Tryz.prog B 111 Tryz.f111 R) [] 11 [(0, .string (mkS w)), (4, .slice a35 out.length n36), (5, .int .i64 i)] h40 := by
     intro m; induction m with
     | zero => intros; omega
     | succ m ih11 =>
      intro out i a35 n36 ch37 h40 hm h0 h2 h3 hol hI R38 s39
      refine At.go 12 4 [(23, .bool (decide (i < (w.length : Int))))] ?_
      refine At.if' (decide (i < (w.length : Int))) 23 13 21 (fun c41 => ?_) (fun c42 => ?_)
      ·replace c41 := of_decide_eq_true c41
       refine At.rp 5 2 [(26, .string (mkS w)), (27, .int .i64 i)] ?_
       obtain ⟨x43, hx44⟩ := getAt (l := w) (i := i) (by omega)
       refine Op.si 9 (.tmp 26) (.tmp 27) 28 w i (by omega) hx44 ?_
       refine Op.c1 29 (digitR _ _ _ s39.sub hG (x43.toNat : Int) (by ((try dsimp only) <;> (omega))) (by ((try dsimp only) <;> ((have := UInt8.toNat_lt x43; omega)))) ) s39 ?_
       intro h45 s46
       refine Op.pg 14 [(6, .int .i64 (digI (x43.toNat : Int)))] ?_
       refine At.rp 6 2 [(30, .string (mkS w)), (31, .int .i64 i)] ?_
       refine Op.v64 32 (i + 1) (by omega) (by omega) ?_
       obtain ⟨x49, hx50⟩ := getAt (l := w) (i := i + 1) (by omega)
       refine Op.si 9 (.tmp 30) (.tmp 32) 33 w (i + 1) (by omega) hx50 ?_
       refine Op.c1 34 (digitR _ _ _ s46.sub hG (x49.toNat : Int) (by ((try dsimp only) <;> (omega))) (by ((try dsimp only) <;> ((have := UInt8.toNat_lt x49; omega)))) ) s46 ?_
       intro h51 s52
       refine Op.pg 15 [(7, .int .i64 (digI (x49.toNat : Int)))] ?_
       refine At.rp 6 3 [(37, .bool (decide ((digI (x43.toNat : Int)) < (0 : Int))))] ?_
       refine Op.wb (decide ((digI (x43.toNat : Int)) < (0 : Int))) 37 (fun c55 => ?_) (fun c56 => ?_)
       ·replace c55 := of_decide_eq_true c55
        refine Op.pg 16 [(40, .bool true)] ?_
        refine At.ifT 40 17 ?_
        refine At.go 18 2 [(2, .slice none 0 0), (3, .bool false)] ?_
        have R57 := Row.zero 5 kU8 g none
        have s58 := s52.nl
        refine At.rt (.tuple #[.slice none 0 0, .bool false]) ?_
        have s59 := (s58.front 0 rfl).front 1 rfl
        have s60 := s59.drop
        refine hR _ _ _ _ s60 ⟨(.slice none 0 0), [], ?_, ?_, rfl, rfl⟩
        ·exact eqT2 rfl (eqB (by exact (unhex_3 (by assumption) (by omega) (by omega) (uhI_bad hI h0 hx44 hx50 (by first | exact .inl (by assumption) | exact .inr (by assumption)))).2))
        ·exact rowEq R57 (by exact (unhex_3 (by assumption) (by omega) (by omega) (uhI_bad hI h0 hx44 hx50 (by first | exact .inl (by assumption) | exact .inr (by assumption)))).1)
       ·replace c56 := of_decide_eq_false c56
        refine Op.pg 16 [(40, .bool (decide ((digI (x49.toNat : Int)) < (0 : Int))))] ?_
        refine At.if' (decide ((digI (x49.toNat : Int)) < (0 : Int))) 40 17 19 (fun c61 => ?_) (fun c62 => ?_)
        ·replace c61 := of_decide_eq_true c61
         refine At.go 18 2 [(2, .slice none 0 0), (3, .bool false)] ?_
         have R63 := Row.zero 5 kU8 g none
         have s64 := s52.nl
         refine At.rt (.tuple #[.slice none 0 0, .bool false]) ?_
         have s65 := (s64.front 0 rfl).front 1 rfl
         have s66 := s65.drop
         refine hR _ _ _ _ s66 ⟨(.slice none 0 0), [], ?_, ?_, rfl, rfl⟩
         ·exact eqT2 rfl (eqB (by exact (unhex_3 (by assumption) (by omega) (by omega) (uhI_bad hI h0 hx44 hx50 (by first | exact .inl (by assumption) | exact .inr (by assumption)))).2))
         ·exact rowEq R63 (by exact (unhex_3 (by assumption) (by omega) (by omega) (uhI_bad hI h0 hx44 hx50 (by first | exact .inl (by assumption) | exact .inr (by assumption)))).1)
        ·replace c62 := of_decide_eq_false c62
         refine At.rp 9 2 [(41, .slice a35 out.length n36), (42, .int .i64 (digI (x43.toNat : Int)))] ?_
         refine Op.v64 43 ((16 : Int) * (digI (x43.toNat : Int))) (by omega) (by (have h7 := digI_b x43.toNat; have h8 := digI_b x49.toNat; omega)) ?_
         refine Op.px 1 [(44, .int .i64 (digI (x49.toNat : Int)))] ?_
         refine Op.v64 45 (((16 : Int) * (digI (x43.toNat : Int))) + (digI (x49.toNat : Int))) (by omega) (by (have h7 := digI_b x43.toNat; have h8 := digI_b x49.toNat; omega)) ?_
         refine Op.vl 46 (.int .u8 (IntKind.wrap .u8 (((16 : Int) * (digI (x43.toNat : Int))) + (digI (x49.toNat : Int))))) (.int .u8 (((16 : Int) * (digI (x43.toNat : Int))) + (digI (x49.toNat : Int)))) (wrapEq_u8 (by omega) (by (have h7 := digI_b x43.toNat; have h8 := digI_b x49.toNat; omega))) ?_
         refine Op.lit (T := 29) (len := 1) (parts := #[(0, (.tmp 46))]) (dst := 47) (E := 5) (ps := [(0, .int .u8 (((16 : Int) * (digI (x43.toNat : Int))) + (digI (x49.toNat : Int))))]) (cs := #[.int .u8 (((16 : Int) * (digI (x43.toNat : Int))) + (digI (x49.toNat : Int)))]) (by kernel_rfl) (by kernel_rfl) (by kernel_rfl) s52 ?_
         intro b67 h68 s69
         refine Op.append (x := (.tmp 41)) (y := (.tmp 47)) (t := 29) (t' := 29) (dst := 48) (E := 5) (by_ := 1) (d := kU8) (by kernel_rfl) (by kernel_rfl) (by kernel_rfl) (by kernel_rfl) rfl R38 s69 1 rfl (Src.lit (m := 1) (sz := 1) (s69.chunk 0 rfl) (news := [.int .u8 (((16 : Int) * (digI (x43.toNat : Int))) + (digI (x49.toNat : Int)))]) rfl rfl (by simp [Value.oneCell']) _) (ys := [(UInt8.ofNat (((16 : Int) * (digI (x43.toNat : Int))) + (digI (x49.toNat : Int)) : Int).toNat)]) (⟨_, _, rfl, (u8K (by omega) (by (have h7 := digI_b x43.toNat; have h8 := digI_b x49.toNat; omega))), Reads.nil⟩) rfl (by (simp only [List.length_cons, List.length_nil]; omega)) (fun _ _ _ => trivial) ?_
         intro v70 ch71 h72 R73 s74 nn75
         obtain ⟨a76, n77, rfl⟩ := R73.form
         have s78 := (s74.front 0 rfl).drop
         refine Op.pg 20 [(4, .slice a76 ((out ++ ([(UInt8.ofNat (((16 : Int) * (digI (x43.toNat : Int))) + (digI (x49.toNat : Int)) : Int).toNat)])).length) n77)] ?_
         refine At.rp 3 1 [(24, .int .i64 i)] ?_
         refine Op.v64 25 (i + 2) (by omega) (by omega) ?_
         refine Op.pg 11 [(5, .int .i64 (i + 2))] ?_
         refine At.kp [(0, .string (mkS w)), (4, .slice a76 ((out ++ ([(UInt8.ofNat (((16 : Int) * (digI (x43.toNat : Int))) + (digI (x49.toNat : Int)) : Int).toNat)])).length) n77), (5, .int .i64 (i + 2))] ?_
         exact ih11  (out ++ ([(UInt8.ofNat (((16 : Int) * (digI (x43.toNat : Int))) + (digI (x49.toNat : Int)) : Int).toNat)])) (i + 2) _ _ _ _ (by omega) (by omega) (by omega) (by omega) (by (simp only [List.length_append, List.length_cons, List.length_nil]; omega)) (by exact uhI_step hI h0 hx44 hx50 (by assumption) (by assumption)) R73 s78
      ·replace c42 := of_decide_eq_false c42
       refine At.go 22 3 [(2, .slice a35 out.length n36), (3, .bool true)] ?_
       refine At.rt (.tuple #[.slice a35 out.length n36, .bool true]) ?_
       refine hR _ _ _ _ s39 ⟨(.slice a35 out.length n36), ch37, ?_, ?_, rfl, rfl⟩
       ·exact eqT2 rfl (eqB (by exact (unhex_4 (by assumption) (by omega) (by omega) (uhI_end hI (by assumption))).2))
       ·exact rowEq R38 (by exact (unhex_4 (by assumption) (by omega) (by omega) (uhI_end hI (by assumption))).1)
    refine At.kp [(0, .string (mkS w)), (4, .slice (some ⟨b32, 0, none⟩) 0 0), (5, .int .i64 0)] ?_
    have R79 : Row 5 kU8 g (.slice (some ⟨b32, 0, none⟩) 0 0) ([] : List UInt8) [(b32, Obj.cells #[] 5 (0, 0))] := Row.lit (by kernel_rfl) (by unfold maxLen; decide) (by kernel_rfl) Reads.nil
    exact loop11 _  ([] : List UInt8) 0 _ _ _ _ (Nat.lt_succ_self _) (by omega) (by omega) (by omega) (by (simp only [List.length_cons, List.length_nil]; omega)) (by exact uhI_0 _) R79 s34
theorem hexR (B : World) (h : Heap) (g : GH) (hg : Sub g h) (hG : Glob g) (v_b : Value) (b : List UInt8) (h_b : SlR g 5 kU8 v_b b) (hb : b.length ≤ 100000000) :
  Spec Tryz.prog B 71 #[v_b] h g [] (fun rv g' L' => rv = .string (mkS (hexW b)) ∧ g' = g ∧ L' = []) := by
 obtain ⟨a_b, n_b, rfl⟩ := h_b.form
 refine Spec.at' Tryz.func71 ?_
 intro R hR
 have s0 := St.init hg
 refine At.go 1 1 [] ?_
 refine At.go 2 3 [(8, .bool ((b.length : Int) == (0 : Int)))] ?_
 refine At.if' ((b.length : Int) == (0 : Int)) 8 3 5 (fun c20 => ?_) (fun c21 => ?_)
 ·replace c20 := eq_of_beq c20
  refine At.go 4 1 [(2, .string (mkS ([46])))] ?_
  refine At.rt (.string (mkS ([46]))) ?_
  refine hR _ _ _ _ s0 ⟨?_, rfl, rfl⟩
  exact (eqS (by exact hexW_0 (by assumption)))
 ·replace c21 := neF c21
  refine At.go 6 1 [(3, .string (mkS ([48, 49, 50, 51, 52, 53, 54, 55, 56, 57, 97, 98, 99, 100, 101, 102])))] ?_
  refine At.rg 2 ?_
  refine Op.lit (T := 29) (len := 0) (parts := #[]) (dst := 9) (E := 5) (ps := []) (cs := #[]) (by kernel_rfl) (by kernel_rfl) (by kernel_rfl) s0 ?_
  intro b22 h23 s24
  refine Op.pg 7 [(4, .slice (some ⟨b22, 0, none⟩) 0 0)] ?_
  refine At.go 8 1 [(5, .int .i64 0)] ?_
  have loop8 : ∀ (m : Nat) (out : List UInt8) (i : Int) (a25 : Option Addr) (n26 : Nat) (ch27 : Chunk) (h30 : Heap) (hm : b.length - i.toNat < m) (h0 : 0 ≤ i) (h2 : i ≤ b.length) (ho : out = (b.take i.toNat).flatMap fun c => [hexC (c.toNat / 16), hexC (c.toNat % 16)]) (R28 : Row 5 kU8 g (.slice a25 out.length n26) out ch27)    (s29 : St h g (ids []) g [ch27] h30), At (fctx Tryz.prog B 71 Tryz.f71 R) [] 8 [(0, .slice a_b b.length n_b), (3, .string (mkS ([48, 49, 50, 51, 52, 53, 54, 55, 56, 57, 97, 98, 99, 100, 101, 102]))), (4, .slice a25 out.length n26), (5, .int .i64 i)] h30 := by
   intro m; induction m with
   | zero => intros; omega
   | succ m ih8 =>
    intro out i a25 n26 ch27 h30 hm h0 h2 ho R28 s29
    refine At.go 9 4 [(13, .bool (decide (i < (b.length : Int))))] ?_
    refine At.if' (decide (i < (b.length : Int))) 13 10 12 (fun c31 => ?_) (fun c32 => ?_)
    ·replace c31 := of_decide_eq_true c31
     refine At.draw (by kernel_rfl) (fun _ => False) [(0, true), (1, true), (2, true), (3, true), (4, true), (8, true), (9, true), (10, true), (11, true), (5, true), (6, true), (7, true), (12, false), (13, true), (14, true), (15, false), (1016, false), (16, false), (17, true)] (by kernel_rfl) ?_
     refine Op.px 4 [(16, .slice a25 out.length n26), (17, .string (mkS ([48, 49, 50, 51, 52, 53, 54, 55, 56, 57, 97, 98, 99, 100, 101, 102]))), (18, .slice a_b b.length n_b), (19, .int .i64 i)] ?_
     obtain ⟨x33, hx34⟩ := getAt (l := b) (i := i) (by omega)
     obtain ⟨b35, o36, cu37, fz38, ha39, hb40, hk41⟩ := SlR.at_ h_b _ hx34
     cases ha39
     refine Op.ix 29 5 1 1 b.length n_b (.tmp 18) (.tmp 19) 20 b35 o36 i (by omega) (by omega) ?_
     replace hk41 : cut _ _ _ = [.int .u8 (x33.toNat : Int)] := hk41
     refine Op.px 3 [(24, .string (mkS ([48, 49, 50, 51, 52, 53, 54, 55, 56, 57, 97, 98, 99, 100, 101, 102]))), (25, .slice (some ⟨b35, o36, none⟩) b.length n_b), (26, .int .i64 i)] ?_
     obtain ⟨b44, o45, cu46, fz47, ha48, hb49, hk50⟩ := SlR.at_ h_b _ hx34
     cases ha48
     refine Op.ix 29 5 1 1 b.length n_b (.tmp 25) (.tmp 26) 27 b35 o36 i (by omega) (by omega) ?_
     replace hk50 : cut _ _ _ = [.int .u8 (x33.toNat : Int)] := hk50
     refine Op.loadF (T := 5) (x := (.tmp 20)) (o := o36 + (i : Int).toNat * 1) (d := 21) (n := 1) (v := .int .u8 (x33.toNat : Int)) (by kernel_rfl) (by kernel_rfl) (by kernel_rfl) (fun h => h) (s29.sub _ _ hb40) (cut_get hk41 0 rfl) ?_
     refine Op.vl 22 (.int .u8 (Int.fdiv (x33.toNat : Int) (2 ^ 4))) (.int .u8 ((x33.toNat : Int) / 16)) (shrEq _ _ _ rfl (by decide)) ?_
     obtain ⟨x51, hx52⟩ := getAt (l := ([48, 49, 50, 51, 52, 53, 54, 55, 56, 57, 97, 98, 99, 100, 101, 102] : List UInt8)) (i := (x33.toNat : Int) / 16) (by (have := UInt8.toNat_lt x33; simp only [List.length_cons, List.length_nil]; omega))
     refine Op.strIdx (T := 9) (k := .u8) (x := (.tmp 17)) (ix := (.tmp 22)) (dst := 23) (l := [48, 49, 50, 51, 52, 53, 54, 55, 56, 57, 97, 98, 99, 100, 101, 102]) (n := (x33.toNat : Int) / 16) (by kernel_rfl) (by kernel_rfl) (by kernel_rfl) (by kernel_rfl) (by omega) hx52 ?_
     refine Op.ld (n := 1) 5 (.tmp 27) 28 (o36 + (i : Int).toNat * 1) (.int .u8 (x33.toNat : Int)) (s29.sub _ _ hb49) ?_ (hv := (cut_get hk50 0 rfl))
     refine Op.vl 29 (.int .u8 (IntKind.wrap .u8 (((BitVec.ofInt (IntKind.bits .u8) (x33.toNat : Int) &&& BitVec.ofInt (IntKind.bits .u8) (15 : Int)).toNat : Nat) : Int))) (.int .u8 ((x33.toNat % 16 : Nat) : Int)) (by rw [and15]) ?_
     obtain ⟨x53, hx54⟩ := getAt (l := ([48, 49, 50, 51, 52, 53, 54, 55, 56, 57, 97, 98, 99, 100, 101, 102] : List UInt8)) (i := ((x33.toNat % 16 : Nat) : Int)) (by (have := UInt8.toNat_lt x33; simp only [List.length_cons, List.length_nil]; omega))
     refine Op.strIdx (T := 9) (k := .u8) (x := (.tmp 24)) (ix := (.tmp 29)) (dst := 30) (l := [48, 49, 50, 51, 52, 53, 54, 55, 56, 57, 97, 98, 99, 100, 101, 102]) (n := ((x33.toNat % 16 : Nat) : Int)) (by kernel_rfl) (by kernel_rfl) (by kernel_rfl) (by kernel_rfl) (by omega) hx54 ?_
     refine Op.lit (T := 29) (len := 2) (parts := #[(0, (.tmp 23)), (1, (.tmp 30))]) (dst := 31) (E := 5) (ps := [(0, .int .u8 (x51.toNat : Int)), (1, .int .u8 (x53.toNat : Int))]) (cs := #[.int .u8 (x51.toNat : Int), .int .u8 (x53.toNat : Int)]) (by kernel_rfl) (by kernel_rfl) (by kernel_rfl) s29 ?_
     intro b55 h56 s57
     refine Op.barrier (by kernel_rfl) ?_
     refine Op.append (x := (.tmp 16)) (y := (.tmp 31)) (t := 29) (t' := 29) (dst := 32) (E := 5) (by_ := 1) (d := kU8) (by kernel_rfl) (by kernel_rfl) (by kernel_rfl) (by kernel_rfl) rfl R28 s57 1 rfl (Src.lit (m := 2) (sz := 1) (s57.chunk 0 rfl) (news := [.int .u8 (x51.toNat : Int), .int .u8 (x53.toNat : Int)]) rfl rfl (by simp [Value.oneCell']) _) (ys := [x51, x53]) (⟨_, _, rfl, rfl, ⟨_, _, rfl, rfl, Reads.nil⟩⟩) rfl (by (have := hexI_len ho; simp only [List.length_cons, List.length_nil]; omega)) (fun _ _ _ => trivial) ?_
     intro v58 ch59 h60 R61 s62 nn63
     obtain ⟨a64, n65, rfl⟩ := R61.form
     have s66 := (s62.front 0 rfl).drop
     refine Op.pg 11 [(4, .slice a64 ((out ++ ([x51, x53])).length) n65)] ?_
     refine At.rp 3 1 [(14, .int .i64 i)] ?_
     refine Op.v64 15 (i + 1) (by omega) (by omega) ?_
     refine Op.pg 8 [(5, .int .i64 (i + 1))] ?_
     refine At.kp [(0, .slice (some ⟨b35, o36, none⟩) b.length n_b), (3, .string (mkS ([48, 49, 50, 51, 52, 53, 54, 55, 56, 57, 97, 98, 99, 100, 101, 102]))), (4, .slice a64 ((out ++ ([x51, x53])).length) n65), (5, .int .i64 (i + 1))] ?_
     exact ih8  (out ++ ([x51, x53])) (i + 1) _ _ _ _ (by omega) (by omega) (by omega) (by exact hexI_step ho h0 hx34 (hexC_at (by omega) hx52) (hexC_at rfl hx54)) R61 s66
    ·replace c32 := of_decide_eq_false c32
     refine At.rp 3 1 [(33, .slice a25 out.length n26)] ?_
     refine Op.ofBytes (T := 29) (S := 9) (E := 5) (x := (.tmp 33)) (dst := 34) (l := out) (by kernel_rfl) (by kernel_rfl) (by kernel_rfl) (by kernel_rfl) (by kernel_rfl) (R28.toH s29 0 rfl) ?_
     refine Op.pg 13 [(2, .string (mkS out))] ?_
     refine At.rt (.string (mkS out)) ?_
     have s67 := s29.drop
     refine hR _ _ _ _ s67 ⟨?_, rfl, rfl⟩
     exact (eqS (by exact hexI_end ho (by assumption) (by assumption)))
  refine At.kp [(0, .slice a_b b.length n_b), (3, .string (mkS ([48, 49, 50, 51, 52, 53, 54, 55, 56, 57, 97, 98, 99, 100, 101, 102]))), (4, .slice (some ⟨b22, 0, none⟩) 0 0), (5, .int .i64 0)] ?_
  have R68 : Row 5 kU8 g (.slice (some ⟨b22, 0, none⟩) 0 0) ([] : List UInt8) [(b22, Obj.cells #[] 5 (0, 0))] := Row.lit (by kernel_rfl) (by unfold maxLen; decide) (by kernel_rfl) Reads.nil
  exact loop8 _  ([] : List UInt8) 0 _ _ _ _ (Nat.lt_succ_self _) (by omega) (by omega) (by rfl) R68 s24
theorem showR (B : World) (h : Heap) (g : GH) (hg : Sub g h) (hG : Glob g) (n : Int) (h0 : -9223372036854775808 ≤ n) (h1 : n ≤ 9223372036854775807) :
  Spec Tryz.prog B 70 #[.int .i64 n] h g [] (fun rv g' L' => rv = .string (mkS (Lib.itoa n)) ∧ g' = g ∧ L' = []) := by
 refine Spec.at' Tryz.func70 ?_
 intro R hR
 have s0 := St.init hg
 refine At.go 1 1 [] ?_
 refine At.go 2 2 [(8, .bool (n == (0 : Int)))] ?_
 refine At.if' (n == (0 : Int)) 8 3 5 (fun c20 => ?_) (fun c21 => ?_)
 ·replace c20 := eq_of_beq c20
  refine At.go 4 1 [(2, .string (mkS ([48])))] ?_
  refine At.rt (.string (mkS ([48]))) ?_
  refine hR _ _ _ _ s0 ⟨?_, rfl, rfl⟩
  exact (eqS (by exact show_0 (by assumption)))
 ·replace c21 := neF c21
  refine At.rg 2 ?_
  refine Op.lit (T := 29) (len := 0) (parts := #[]) (dst := 9) (E := 5) (ps := []) (cs := #[]) (by kernel_rfl) (by kernel_rfl) (by kernel_rfl) s0 ?_
  intro b22 h23 s24
  refine Op.pg 6 [(3, .slice (some ⟨b22, 0, none⟩) 0 0)] ?_
  refine At.go 7 3 [(4, .bool (decide (n < (0 : Int))))] ?_
  have loop7 : ∀ (m : Nat) (v : Int) (out : List UInt8) (a25 : Option Addr) (n26 : Nat) (ch27 : Chunk) (h30 : Heap) (hm : v.natAbs < m) (hv0 : -9223372036854775808 ≤ v) (hv1 : v ≤ 9223372036854775807) (hS : showI n v out) (R28 : Row 5 kU8 g (.slice a25 out.length n26) out ch27)    (s29 : St h g (ids []) g [ch27] h30), At (fctx Tryz.prog B 70 Tryz.f70 R) [] 7 [(0, .int .i64 v), (3, .slice a25 out.length n26), (4, .bool (decide (n < (0 : Int))))] h30 := by
   intro m; induction m with
   | zero => intros; omega
   | succ m ih7 =>
    intro v out a25 n26 ch27 h30 hm hv0 hv1 hS R28 s29
    refine At.go 8 2 [(13, .bool (v != (0 : Int)))] ?_
    refine At.if' (v != (0 : Int)) 13 9 16 (fun c31 => ?_) (fun c32 => ?_)
    ·replace c31 := bneT c31
     refine At.rp 3 1 [(14, .int .i64 v)] ?_
     refine Op.vl 15 (.int .i64 (Int.tmod v (10 : Int))) (.int .i64 (Int.tmod v (10 : Int))) rfl ?_
     refine Op.pg 10 [(5, .int .i64 (Int.tmod v (10 : Int)))] ?_
     refine At.go 11 2 [(17, .bool (decide ((Int.tmod v (10 : Int)) < (0 : Int))))] ?_
     refine At.if' (decide ((Int.tmod v (10 : Int)) < (0 : Int))) 17 12 13 (fun c33 => ?_) (fun c34 => ?_)
     ·replace c33 := of_decide_eq_true c33
      refine At.rp 3 1 [(18, .int .i64 (Int.tmod v (10 : Int)))] ?_
      refine Op.vl 19 (.int .i64 (IntKind.wrap .i64 ((0 : Int) - (Int.tmod v (10 : Int))))) (.int .i64 (-(Int.tmod v (10 : Int)))) (by rw [Int.zero_sub]; exact wrapEq_i64 (by omega) (by (have := @tmod_b v; omega))) ?_
      refine Op.pg 13 [(5, .int .i64 (-(Int.tmod v (10 : Int))))] ?_
      refine At.rp 5 1 [(20, .int .i64 (-(Int.tmod v (10 : Int))))] ?_
      refine Op.v64 21 ((48 : Int) + (-(Int.tmod v (10 : Int)))) (by omega) (by (have := @tmod_b v; omega)) ?_
      refine Op.vl 22 (.int .u8 (IntKind.wrap .u8 ((48 : Int) + (-(Int.tmod v (10 : Int)))))) (.int .u8 ((48 : Int) + (-(Int.tmod v (10 : Int))))) (wrapEq_u8 (by omega) (by (have := @tmod_b v; omega))) ?_
      refine Op.lit (T := 29) (len := 1) (parts := #[(0, (.tmp 22))]) (dst := 23) (E := 5) (ps := [(0, .int .u8 ((48 : Int) + (-(Int.tmod v (10 : Int)))))]) (cs := #[.int .u8 ((48 : Int) + (-(Int.tmod v (10 : Int))))]) (by kernel_rfl) (by kernel_rfl) (by kernel_rfl) s29 ?_
      intro b35 h36 s37
      refine Op.pg 14 [(6, .slice (some ⟨b35, 0, none⟩) 1 1)] ?_
      refine At.rp 4 2 [(24, .slice (some ⟨b35, 0, none⟩) 1 1), (25, .slice a25 out.length n26)] ?_
      have R38 : Row 5 kU8 g (.slice (some ⟨b35, 0, none⟩) 1 1) [(UInt8.ofNat ((48 : Int) + (-(Int.tmod v (10 : Int))) : Int).toNat)] [(b35, Obj.cells #[.int .u8 ((48 : Int) + (-(Int.tmod v (10 : Int))))] 5 (0, 0))] := Row.lit (by kernel_rfl) (by unfold maxLen; decide) (by kernel_rfl) ⟨_, _, rfl, (u8K (by omega) (by (have := @tmod_b v; omega))), Reads.nil⟩
      obtain ⟨ns39, hs40, hr41⟩ := Src.slice (P := Tryz.prog) (R28.toH s37 1 rfl)
      refine Op.append (x := (.tmp 24)) (y := (.tmp 25)) (t := 29) (t' := 29) (dst := 26) (E := 5) (by_ := 1) (d := kU8) (by kernel_rfl) (by kernel_rfl) (by kernel_rfl) (by kernel_rfl) rfl R38 s37 0 rfl hs40 (ys := out) hr41 rfl (by (have := showI_len hS ⟨h0, h1⟩; simp only [List.length_cons, List.length_nil]; omega)) (fun _ _ _ => trivial) ?_
      intro v42 ch43 h44 R45 s46 nn47
      obtain ⟨a48, n49, rfl⟩ := R45.form
      refine Op.pg 15 [(3, .slice a48 ((([(UInt8.ofNat ((48 : Int) + (-(Int.tmod v (10 : Int))) : Int).toNat)]) ++ out).length) n49)] ?_
      refine At.rp 3 1 [(27, .int .i64 v)] ?_
      refine Op.vl 28 (.int .i64 (IntKind.wrap .i64 (Int.tdiv v (10 : Int)))) (.int .i64 (Int.tdiv v (10 : Int))) (wrapEq_i64 (by (have := tdiv_b (v := v) ⟨by omega, by omega⟩; omega)) (by (have := tdiv_b (v := v) ⟨by omega, by omega⟩; omega))) ?_
      refine Op.pg 7 [(0, .int .i64 (Int.tdiv v (10 : Int)))] ?_
      refine At.kp [(0, .int .i64 (Int.tdiv v (10 : Int))), (3, .slice a48 ((([(UInt8.ofNat ((48 : Int) + (-(Int.tmod v (10 : Int))) : Int).toNat)]) ++ out).length) n49), (4, .bool (decide (n < (0 : Int))))] ?_
      have s50 := (s46.front 0 rfl).front 1 rfl
      have s51 := s50.drop
      exact ih7  (Int.tdiv v (10 : Int)) (([(UInt8.ofNat ((48 : Int) + (-(Int.tmod v (10 : Int))) : Int).toNat)]) ++ out) _ _ _ _ (by (have := tdiv_m (v := v) (by assumption); omega)) (by exact (tdiv_b ⟨hv0, hv1⟩).1) (by exact (tdiv_b ⟨hv0, hv1⟩).2) (by exact showI_step hS (by assumption) (by rw [Int.natAbs_neg]; exact tmod_abs) (by omega)) R45 s51
     ·replace c34 := of_decide_eq_false c34
      refine At.rp 5 1 [(20, .int .i64 (Int.tmod v (10 : Int)))] ?_
      refine Op.v64 21 ((48 : Int) + (Int.tmod v (10 : Int))) (by omega) (by (have := @tmod_b v; omega)) ?_
      refine Op.vl 22 (.int .u8 (IntKind.wrap .u8 ((48 : Int) + (Int.tmod v (10 : Int))))) (.int .u8 ((48 : Int) + (Int.tmod v (10 : Int)))) (wrapEq_u8 (by omega) (by (have := @tmod_b v; omega))) ?_
      refine Op.lit (T := 29) (len := 1) (parts := #[(0, (.tmp 22))]) (dst := 23) (E := 5) (ps := [(0, .int .u8 ((48 : Int) + (Int.tmod v (10 : Int))))]) (cs := #[.int .u8 ((48 : Int) + (Int.tmod v (10 : Int)))]) (by kernel_rfl) (by kernel_rfl) (by kernel_rfl) s29 ?_
      intro b52 h53 s54
      refine Op.pg 14 [(6, .slice (some ⟨b52, 0, none⟩) 1 1)] ?_
      refine At.rp 4 2 [(24, .slice (some ⟨b52, 0, none⟩) 1 1), (25, .slice a25 out.length n26)] ?_
      have R55 : Row 5 kU8 g (.slice (some ⟨b52, 0, none⟩) 1 1) [(UInt8.ofNat ((48 : Int) + (Int.tmod v (10 : Int)) : Int).toNat)] [(b52, Obj.cells #[.int .u8 ((48 : Int) + (Int.tmod v (10 : Int)))] 5 (0, 0))] := Row.lit (by kernel_rfl) (by unfold maxLen; decide) (by kernel_rfl) ⟨_, _, rfl, (u8K (by omega) (by (have := @tmod_b v; omega))), Reads.nil⟩
      obtain ⟨ns56, hs57, hr58⟩ := Src.slice (P := Tryz.prog) (R28.toH s54 1 rfl)
      refine Op.append (x := (.tmp 24)) (y := (.tmp 25)) (t := 29) (t' := 29) (dst := 26) (E := 5) (by_ := 1) (d := kU8) (by kernel_rfl) (by kernel_rfl) (by kernel_rfl) (by kernel_rfl) rfl R55 s54 0 rfl hs57 (ys := out) hr58 rfl (by (have := showI_len hS ⟨h0, h1⟩; simp only [List.length_cons, List.length_nil]; omega)) (fun _ _ _ => trivial) ?_
      intro v59 ch60 h61 R62 s63 nn64
      obtain ⟨a65, n66, rfl⟩ := R62.form
      refine Op.pg 15 [(3, .slice a65 ((([(UInt8.ofNat ((48 : Int) + (Int.tmod v (10 : Int)) : Int).toNat)]) ++ out).length) n66)] ?_
      refine At.rp 3 1 [(27, .int .i64 v)] ?_
      refine Op.vl 28 (.int .i64 (IntKind.wrap .i64 (Int.tdiv v (10 : Int)))) (.int .i64 (Int.tdiv v (10 : Int))) (wrapEq_i64 (by (have := tdiv_b (v := v) ⟨by omega, by omega⟩; omega)) (by (have := tdiv_b (v := v) ⟨by omega, by omega⟩; omega))) ?_
      refine Op.pg 7 [(0, .int .i64 (Int.tdiv v (10 : Int)))] ?_
      refine At.kp [(0, .int .i64 (Int.tdiv v (10 : Int))), (3, .slice a65 ((([(UInt8.ofNat ((48 : Int) + (Int.tmod v (10 : Int)) : Int).toNat)]) ++ out).length) n66), (4, .bool (decide (n < (0 : Int))))] ?_
      have s67 := (s63.front 0 rfl).front 1 rfl
      have s68 := s67.drop
      exact ih7  (Int.tdiv v (10 : Int)) (([(UInt8.ofNat ((48 : Int) + (Int.tmod v (10 : Int)) : Int).toNat)]) ++ out) _ _ _ _ (by (have := tdiv_m (v := v) (by assumption); omega)) (by exact (tdiv_b ⟨hv0, hv1⟩).1) (by exact (tdiv_b ⟨hv0, hv1⟩).2) (by exact showI_step hS (by assumption) tmod_abs (by omega)) R62 s68
    ·replace c32 := bneF c32
     refine At.go 17 1 [(29, .bool (decide (n < (0 : Int))))] ?_
     refine At.if' (decide (n < (0 : Int))) 29 18 20 (fun c69 => ?_) (fun c70 => ?_)
     ·replace c69 := of_decide_eq_true c69
      refine At.rp 4 1 [(30, .slice a25 out.length n26)] ?_
      refine Op.ofBytes (T := 29) (S := 9) (E := 5) (x := (.tmp 30)) (dst := 31) (l := out) (by kernel_rfl) (by kernel_rfl) (by kernel_rfl) (by kernel_rfl) (by kernel_rfl) (R28.toH s29 0 rfl) ?_
      refine Op.sa 9 9 (.const (.string (mkS ([45])))) (.tmp 31) 32 ([45]) out (by (have := showI_len hS ⟨h0, h1⟩; simp only [List.length_cons, List.length_nil]; omega)) ?_
      refine Op.pg 19 [(2, .string (mkS (([45]) ++ out)))] ?_
      refine At.rt (.string (mkS (([45]) ++ out))) ?_
      have s71 := s29.drop
      refine hR _ _ _ _ s71 ⟨?_, rfl, rfl⟩
      exact (eqS (by exact show_n hS (by assumption) (by assumption)))
     ·replace c70 := of_decide_eq_false c70
      refine At.rp 3 1 [(33, .slice a25 out.length n26)] ?_
      refine Op.ofBytes (T := 29) (S := 9) (E := 5) (x := (.tmp 33)) (dst := 34) (l := out) (by kernel_rfl) (by kernel_rfl) (by kernel_rfl) (by kernel_rfl) (by kernel_rfl) (R28.toH s29 0 rfl) ?_
      refine Op.pg 21 [(2, .string (mkS out))] ?_
      refine At.rt (.string (mkS out)) ?_
      have s72 := s29.drop
      refine hR _ _ _ _ s72 ⟨?_, rfl, rfl⟩
      exact (eqS (by exact show_p hS (by assumption) (by assumption)))
  refine At.kp [(0, .int .i64 n), (3, .slice (some ⟨b22, 0, none⟩) 0 0), (4, .bool (decide (n < (0 : Int))))] ?_
  have R73 : Row 5 kU8 g (.slice (some ⟨b22, 0, none⟩) 0 0) ([] : List UInt8) [(b22, Obj.cells #[] 5 (0, 0))] := Row.lit (by kernel_rfl) (by unfold maxLen; decide) (by kernel_rfl) Reads.nil
  exact loop7 _  n ([] : List UInt8) _ _ _ _ (Nat.lt_succ_self _) (by omega) (by omega) (by exact showI_0 (by assumption)) R73 s24
theorem numberR (B : World) (h : Heap) (g : GH) (hg : Sub g h) (hG : Glob g) (w : List UInt8) (hw : w.length ≤ 1000000000) :
  Spec Tryz.prog B 109 #[.string (mkS w)] h g [] (fun rv g' L' => rv = .tuple #[.int .i64 ((numW w).getD 0), .bool ((numW w).isSome)] ∧ g' = g ∧ L' = []) := by
 refine Spec.at' Tryz.func109 ?_
 intro R hR
 have s0 := St.init hg
 refine At.go 1 2 [] ?_
 refine At.rp 2 1 [(7, .string (mkS w))] ?_
 refine Op.vl 8 (.bool ((mkS w).toList == (mkS ([48])).toList)) (.bool (w == ([48]))) (by rw [toList_mkS, toList_mkS]) ?_
 refine Op.gt 2 ?_
 refine At.if' (w == ([48])) 8 3 5 (fun c20 => ?_) (fun c21 => ?_)
 ·replace c20 := eq_of_beq c20
  refine At.go 4 2 [(2, .int .i64 0), (3, .bool true)] ?_
  refine At.rt (.tuple #[.int .i64 0, .bool true]) ?_
  refine hR _ _ _ _ s0 ⟨?_, rfl, rfl⟩
  exact eqT2 (eqI (by exact (num_0 (by assumption)).1)) (eqB (by exact (num_0 (by assumption)).2))
 ·replace c21 := neF c21
  refine At.go 6 1 [(4, .int .i64 1)] ?_
  have join10 : ∀ (m : Nat) (d : List UInt8) (sg : Int) (h23 : Heap) (hm : 0 < m) (hdw : d.length ≤ w.length) (hsg : sgnW w = (sg, d)) (hsg1 : sg = 1 ∨ sg = -1)     (s22 : St h g (ids []) g [] h23), At (fctx Tryz.prog B 109 Tryz.f109 R) [] 10 [(0, .string (mkS d)), (4, .int .i64 sg)] h23 := by
   intro m; induction m with
   | zero => intros; omega
   | succ m ih10 =>
    intro d sg h23 hm hdw hsg hsg1 s22
    refine At.rp 13 4 [(22, .bool (decide ((d.length : Int) < (1 : Int))))] ?_
    refine Op.wb (decide ((d.length : Int) < (1 : Int))) 22 (fun c24 => ?_) (fun c25 => ?_)
    ·replace c24 := of_decide_eq_true c24
     refine Op.pg 11 [(31, .bool true)] ?_
     refine At.ifT 31 12 ?_
     refine At.go 13 2 [(2, .int .i64 0), (3, .bool false)] ?_
     refine At.rt (.tuple #[.int .i64 0, .bool false]) ?_
     refine hR _ _ _ _ s22 ⟨?_, rfl, rfl⟩
     exact eqT2 (eqI (by exact (num_bad (by assumption) (by rw [hsg]; first | exact okD_1 (by assumption) | exact okD_2 (by assumption) | exact okD_3 {hx0} (by assumption))).1)) (eqB (by exact (num_bad (by assumption) (by rw [hsg]; first | exact okD_1 (by assumption) | exact okD_2 (by assumption) | exact okD_3 {hx0} (by assumption))).2))
    ·replace c25 := of_decide_eq_false c25
     refine Op.px 5 [(27, .bool (decide ((d.length : Int) > (9 : Int))))] ?_
     refine Op.wb (decide ((d.length : Int) > (9 : Int))) 27 (fun c26 => ?_) (fun c27 => ?_)
     ·replace c26 := of_decide_eq_true c26
      refine Op.pg 11 [(31, .bool true)] ?_
      refine At.ifT 31 12 ?_
      refine At.go 13 2 [(2, .int .i64 0), (3, .bool false)] ?_
      refine At.rt (.tuple #[.int .i64 0, .bool false]) ?_
      refine hR _ _ _ _ s22 ⟨?_, rfl, rfl⟩
      exact eqT2 (eqI (by exact (num_bad (by assumption) (by rw [hsg]; first | exact okD_1 (by assumption) | exact okD_2 (by assumption) | exact okD_3 {hx0} (by assumption))).1)) (eqB (by exact (num_bad (by assumption) (by rw [hsg]; first | exact okD_1 (by assumption) | exact okD_2 (by assumption) | exact okD_3 {hx0} (by assumption))).2))
     ·replace c27 := of_decide_eq_false c27
      refine Op.px 1 [(28, .string (mkS d))] ?_
      obtain ⟨x28, hx29⟩ := getAt (l := d) (i := 0) (by omega)
      refine Op.si 9 (.tmp 28) (.const (.int .i64 0)) 29 d 0 (by omega) hx29 ?_
      refine Op.pg 11 [(31, .bool ((x28.toNat : Int) == (48 : Int)))] ?_
      refine At.if' ((x28.toNat : Int) == (48 : Int)) 31 12 14 (fun c30 => ?_) (fun c31 => ?_)
      ·replace c30 := eq_of_beq c30
       refine At.go 13 2 [(2, .int .i64 0), (3, .bool false)] ?_
       refine At.rt (.tuple #[.int .i64 0, .bool false]) ?_
       refine hR _ _ _ _ s22 ⟨?_, rfl, rfl⟩
       exact eqT2 (eqI (by exact (num_bad (by assumption) (by rw [hsg]; first | exact okD_1 (by assumption) | exact okD_2 (by assumption) | exact okD_3 hx29 (by assumption))).1)) (eqB (by exact (num_bad (by assumption) (by rw [hsg]; first | exact okD_1 (by assumption) | exact okD_2 (by assumption) | exact okD_3 hx29 (by assumption))).2))
      ·replace c31 := neF c31
       have loop14 : ∀ (m : Nat)  (h33 : Heap) (hm : 0 < m) (hd1 : ¬ (d.length : Int) < 1) (hd9 : d.length ≤ 9) (hd48 : ∃ c : UInt8, d[(0 : Int).toNat]? = some c ∧ ¬ (c.toNat : Int) = 48)     (s32 : St h g (ids []) g [] h33), At (fctx Tryz.prog B 109 Tryz.f109 R) [] 14 [(0, .string (mkS d)), (4, .int .i64 sg)] h33 := by
        intro m; induction m with
        | zero => intros; omega
        | succ m ih14 =>
         intro h33 hm hd1 hd9 hd48 s32
         refine At.go 15 1 [(5, .int .i64 0)] ?_
         refine At.go 16 1 [(6, .int .i64 0)] ?_
         have loop16 : ∀ (m : Nat) (v : Int) (i : Int) (h35 : Heap) (hm : d.length - i.toNat < m) (h0 : 0 ≤ i) (h2 : i ≤ d.length) (hN : numI d i v)     (s34 : St h g (ids []) g [] h35), At (fctx Tryz.prog B 109 Tryz.f109 R) [] 16 [(0, .string (mkS d)), (4, .int .i64 sg), (5, .int .i64 v), (6, .int .i64 i)] h35 := by
          intro m; induction m with
          | zero => intros; omega
          | succ m ih16 =>
           intro v i h35 hm h0 h2 hN s34
           refine At.go 17 4 [(35, .bool (decide (i < (d.length : Int))))] ?_
           refine At.if' (decide (i < (d.length : Int))) 35 18 24 (fun c36 => ?_) (fun c37 => ?_)
           ·replace c36 := of_decide_eq_true c36
            refine At.rp 10 2 [(38, .string (mkS d)), (39, .int .i64 i)] ?_
            obtain ⟨x38, hx39⟩ := getAt (l := d) (i := i) (by omega)
            refine Op.si 9 (.tmp 38) (.tmp 39) 40 d i (by omega) hx39 ?_
            refine Op.px 2 [(42, .bool (decide ((x38.toNat : Int) < (48 : Int))))] ?_
            refine Op.wb (decide ((x38.toNat : Int) < (48 : Int))) 42 (fun c40 => ?_) (fun c41 => ?_)
            ·replace c40 := of_decide_eq_true c40
             refine Op.pg 19 [(47, .bool true)] ?_
             refine At.ifT 47 20 ?_
             refine At.go 21 2 [(2, .int .i64 0), (3, .bool false)] ?_
             refine At.rt (.tuple #[.int .i64 0, .bool false]) ?_
             refine hR _ _ _ _ s34 ⟨?_, rfl, rfl⟩
             exact eqT2 (eqI (by exact (num_bad (by assumption) (by rw [hsg]; exact okD_4 hx39 (by first | exact .inl (by assumption) | exact .inr (by assumption)))).1)) (eqB (by exact (num_bad (by assumption) (by rw [hsg]; exact okD_4 hx39 (by first | exact .inl (by assumption) | exact .inr (by assumption)))).2))
            ·replace c41 := of_decide_eq_false c41
             refine Op.px 2 [(43, .string (mkS d)), (44, .int .i64 i)] ?_
             refine Op.si 9 (.tmp 43) (.tmp 44) 45 d i (by omega) hx39 ?_
             refine Op.pg 19 [(47, .bool (decide ((x38.toNat : Int) > (57 : Int))))] ?_
             refine At.if' (decide ((x38.toNat : Int) > (57 : Int))) 47 20 22 (fun c44 => ?_) (fun c45 => ?_)
             ·replace c44 := of_decide_eq_true c44
              refine At.go 21 2 [(2, .int .i64 0), (3, .bool false)] ?_
              refine At.rt (.tuple #[.int .i64 0, .bool false]) ?_
              refine hR _ _ _ _ s34 ⟨?_, rfl, rfl⟩
              exact eqT2 (eqI (by exact (num_bad (by assumption) (by rw [hsg]; exact okD_4 hx39 (by first | exact .inl (by assumption) | exact .inr (by assumption)))).1)) (eqB (by exact (num_bad (by assumption) (by rw [hsg]; exact okD_4 hx39 (by first | exact .inl (by assumption) | exact .inr (by assumption)))).2))
             ·replace c45 := of_decide_eq_false c45
              refine At.rp 9 1 [(48, .int .i64 v)] ?_
              refine Op.v64 49 (v * 10) (by (have hq := numI_le hN hd9; have := UInt8.toNat_lt x38; omega)) (by (have hq := numI_le hN hd9; have := UInt8.toNat_lt x38; omega)) ?_
              refine Op.px 2 [(50, .string (mkS d)), (51, .int .i64 i)] ?_
              refine Op.si 9 (.tmp 50) (.tmp 51) 52 d i (by omega) hx39 ?_
              refine Op.vl 53 (.int .i64 (IntKind.wrap .i64 (x38.toNat : Int))) (.int .i64 (x38.toNat : Int)) (wrapEq_i64 (by omega) (by omega)) ?_
              refine Op.v64 54 ((v * 10) + (x38.toNat : Int)) (by (have hq := numI_le hN hd9; have := UInt8.toNat_lt x38; omega)) (by (have hq := numI_le hN hd9; have := UInt8.toNat_lt x38; omega)) ?_
              refine Op.v64 55 (((v * 10) + (x38.toNat : Int)) - 48) (by (have hq := numI_le hN hd9; have := UInt8.toNat_lt x38; omega)) (by (have hq := numI_le hN hd9; have := UInt8.toNat_lt x38; omega)) ?_
              refine Op.pg 23 [(5, .int .i64 (((v * 10) + (x38.toNat : Int)) - 48))] ?_
              refine At.rp 3 1 [(36, .int .i64 i)] ?_
              refine Op.v64 37 (i + 1) (by omega) (by omega) ?_
              refine Op.pg 16 [(6, .int .i64 (i + 1))] ?_
              refine At.kp [(0, .string (mkS d)), (4, .int .i64 sg), (5, .int .i64 (((v * 10) + (x38.toNat : Int)) - 48)), (6, .int .i64 (i + 1))] ?_
              exact ih16  (((v * 10) + (x38.toNat : Int)) - 48) (i + 1) _ (by omega) (by omega) (by omega) (by exact numI_step hN h0 hx39 (by assumption) (by assumption))  s34
           ·replace c37 := of_decide_eq_false c37
            refine At.rp 5 2 [(56, .int .i64 sg), (57, .int .i64 v)] ?_
            refine Op.v64 58 (sg * v) (by (rcases hsg1 with e | e <;> rw [e] <;> (have hq := numI_le hN hd9; omega))) (by (rcases hsg1 with e | e <;> rw [e] <;> (have hq := numI_le hN hd9; omega))) ?_
            refine Op.pg 25 [(2, .int .i64 (sg * v)), (3, .bool true)] ?_
            refine At.rt (.tuple #[.int .i64 (sg * v), .bool true]) ?_
            refine hR _ _ _ _ s34 ⟨?_, rfl, rfl⟩
            exact eqT2 (eqI (by (obtain ⟨c9, hc9, hn9⟩ := hd48; first | exact (num_y (by assumption) hsg (okD_y hN (by assumption) (by omega) (by omega) hc9 hn9)).1 | exact (num_y (by assumption) hsg (okD_y hN (by assumption) (by omega) (by omega) hc9 hn9)).2))) (eqB (by (obtain ⟨c9, hc9, hn9⟩ := hd48; first | exact (num_y (by assumption) hsg (okD_y hN (by assumption) (by omega) (by omega) hc9 hn9)).1 | exact (num_y (by assumption) hsg (okD_y hN (by assumption) (by omega) (by omega) hc9 hn9)).2)))
         refine At.kp [(0, .string (mkS d)), (4, .int .i64 sg), (5, .int .i64 0), (6, .int .i64 0)] ?_
         exact loop16 _  0 0 _ (Nat.lt_succ_self _) (by omega) (by omega) (by exact numI_0 _)  s32
       refine At.kp [(0, .string (mkS d)), (4, .int .i64 sg)] ?_
       exact loop14 _   _ (Nat.lt_succ_self _) (by omega) (by omega) (by exact ⟨_, hx29, by assumption⟩)  s22
  refine At.rp 8 4 [(12, .bool (decide ((w.length : Int) > (0 : Int))))] ?_
  refine Op.wb (decide ((w.length : Int) > (0 : Int))) 12 (fun c48 => ?_) (fun c49 => ?_)
  ·replace c48 := of_decide_eq_true c48
   refine Op.px 1 [(13, .string (mkS w))] ?_
   obtain ⟨x50, hx51⟩ := getAt (l := w) (i := 0) (by omega)
   refine Op.si 9 (.tmp 13) (.const (.int .i64 0)) 14 w 0 (by omega) hx51 ?_
   refine Op.pg 7 [(16, .bool ((x50.toNat : Int) == (45 : Int)))] ?_
   refine At.if' ((x50.toNat : Int) == (45 : Int)) 16 8 10 (fun c52 => ?_) (fun c53 => ?_)
   ·replace c52 := eq_of_beq c52
    refine At.go 9 1 [(4, .int .i64 (-1))] ?_
    refine At.rp 3 1 [(17, .string (mkS w))] ?_
    refine Op.strLo (T := 9) (k := .i64) (x := (.tmp 17)) (lo := (.const (.int .i64 1))) (dst := 18) (l := w) (n := 1) (by kernel_rfl) (by kernel_rfl) (by kernel_rfl) (by kernel_rfl) (by omega) (by omega) ?_
    refine Op.pg 10 [(0, .string (mkS (w.drop (1 : Int).toNat)))] ?_
    refine At.kp [(0, .string (mkS (w.drop (1 : Int).toNat))), (4, .int .i64 (-1))] ?_
    exact join10 _  (w.drop (1 : Int).toNat) (-1) _ (Nat.lt_succ_self _) (by (simp only [List.length_drop]; omega)) (by exact sgn_n hx51 (by assumption)) (by exact .inr rfl)  s0
   ·replace c53 := neF c53
    refine At.kp [(0, .string (mkS w)), (4, .int .i64 1)] ?_
    exact join10 _  w 1 _ (Nat.lt_succ_self _) (by omega) (by exact sgn_p hx51 (by assumption)) (by exact .inl rfl)  s0
  ·replace c49 := of_decide_eq_false c49
   refine Op.pg 7 [(16, .bool false)] ?_
   refine At.ifF 16 10 ?_
   refine At.kp [(0, .string (mkS w)), (4, .int .i64 1)] ?_
   exact join10 _  w 1 _ (Nat.lt_succ_self _) (by omega) (by exact sgn_e (by assumption)) (by exact .inl rfl)  s0
theorem wordsR (B : World) (h : Heap) (g : GH) (hg : Sub g h) (hG : Glob g) (s : List UInt8) (hs : s.length ≤ 1000000000) :
  Spec Tryz.prog B 107 #[.string (mkS s)] h g [] (fun rv g' L' => ∃ v0 k0, rv = v0 ∧ Row 9 kStr g' v0 (splitOn 32 s) k0 ∧ g' = g ∧ L' = [k0]) := by
 refine Spec.at' Tryz.func107 ?_
 intro R hR
 have s0 := St.init hg
 refine At.go 1 1 [] ?_
 refine At.rg 2 ?_
 refine Op.lit (T := 54) (len := 0) (parts := #[]) (dst := 6) (E := 9) (ps := []) (cs := #[]) (by kernel_rfl) (by kernel_rfl) (by kernel_rfl) s0 ?_
 intro b20 h21 s22
 refine Op.pg 2 [(3, .slice (some ⟨b20, 0, none⟩) 0 0)] ?_
 refine At.go 3 1 [(4, .int .i64 0)] ?_
 refine At.go 4 1 [(5, .int .i64 0)] ?_
 have loop4 : ∀ (m : Nat) (out : List (List UInt8)) (f : Int) (i : Int) (a23 : Option Addr) (n24 : Nat) (ch25 : Chunk) (h28 : Heap) (hm : s.length + 1 - i.toNat < m) (h0 : 0 ≤ f) (h2 : i ≤ s.length + 1) (hfi : f ≤ i) (hW : (i ≤ s.length ∧ wordI s out f i) ∨ (i = s.length + 1 ∧ out = splitOn 32 s)) (R26 : Row 9 kStr g (.slice a23 out.length n24) out ch25)    (s27 : St h g (ids []) g [ch25] h28), At (fctx Tryz.prog B 107 Tryz.f107 R) [] 4 [(0, .string (mkS s)), (3, .slice a23 out.length n24), (4, .int .i64 f), (5, .int .i64 i)] h28 := by
  intro m; induction m with
  | zero => intros; omega
  | succ m ih4 =>
   intro out f i a23 n24 ch25 h28 hm h0 h2 hfi hW R26 s27
   refine At.go 5 4 [(10, .bool (decide (i ≤ (s.length : Int))))] ?_
   refine At.if' (decide (i ≤ (s.length : Int))) 10 6 11 (fun c29 => ?_) (fun c30 => ?_)
   ·replace c29 := of_decide_eq_true c29
    refine At.rp 10 5 [(17, .bool (i == (s.length : Int)))] ?_
    refine Op.wb (i == (s.length : Int)) 17 (fun c31 => ?_) (fun c32 => ?_)
    ·replace c31 := eq_of_beq c31
     refine Op.pg 7 [(22, .bool true)] ?_
     refine At.ifT 22 8 ?_
     refine At.rp 8 4 [(23, .slice a23 out.length n24), (24, .string (mkS s)), (25, .int .i64 f), (26, .int .i64 i)] ?_
     refine Op.strLoHi (T := 9) (k := .i64) (k' := .i64) (x := (.tmp 24)) (lo := (.tmp 25)) (hi := (.tmp 26)) (dst := 27) (l := s) (n := f) (m := i) (by kernel_rfl) (by kernel_rfl) (by kernel_rfl) (by kernel_rfl) (by kernel_rfl) (by omega) (by omega) (by omega) ?_
     refine Op.lit (T := 54) (len := 1) (parts := #[(0, (.tmp 27))]) (dst := 28) (E := 9) (ps := [(0, .string (mkS ((s.take (i : Int).toNat).drop (f : Int).toNat)))]) (cs := #[.string (mkS ((s.take (i : Int).toNat).drop (f : Int).toNat))]) (by kernel_rfl) (by kernel_rfl) (by kernel_rfl) s27 ?_
     intro b33 h34 s35
     refine Op.append (x := (.tmp 23)) (y := (.tmp 28)) (t := 54) (t' := 54) (dst := 29) (E := 9) (by_ := 16) (d := kStr) (by kernel_rfl) (by kernel_rfl) (by kernel_rfl) (by kernel_rfl) rfl R26 s35 1 rfl (Src.lit (m := 1) (sz := 1) (s35.chunk 0 rfl) (news := [.string (mkS ((s.take (i : Int).toNat).drop (f : Int).toNat))]) rfl rfl (by simp [Value.oneCell']) _) (ys := [(s.take (i : Int).toNat).drop (f : Int).toNat]) (⟨_, _, rfl, rfl, Reads.nil⟩) rfl (by (have := words_l hW h0 (by assumption) hfi; simp only [List.length_cons, List.length_nil]; omega)) (fun _ _ _ => trivial) ?_
     intro v36 ch37 h38 R39 s40 nn41
     obtain ⟨a42, n43, rfl⟩ := R39.form
     have s44 := (s40.front 0 rfl).drop
     refine Op.pg 9 [(3, .slice a42 ((out ++ ([(s.take (i : Int).toNat).drop (f : Int).toNat])).length) n43)] ?_
     refine At.rp 3 1 [(30, .int .i64 i)] ?_
     refine Op.v64 31 (i + 1) (by omega) (by omega) ?_
     refine Op.pg 10 [(4, .int .i64 (i + 1))] ?_
     refine At.rp 3 1 [(11, .int .i64 i)] ?_
     refine Op.v64 12 (i + 1) (by omega) (by omega) ?_
     refine Op.pg 4 [(5, .int .i64 (i + 1))] ?_
     refine At.kp [(0, .string (mkS s)), (3, .slice a42 ((out ++ ([(s.take (i : Int).toNat).drop (f : Int).toNat])).length) n43), (4, .int .i64 (i + 1)), (5, .int .i64 (i + 1))] ?_
     exact ih4  (out ++ ([(s.take (i : Int).toNat).drop (f : Int).toNat])) (i + 1) (i + 1) _ _ _ _ (by omega) (by omega) (by omega) (by omega) (by exact words_b hW (by omega) (by omega)) R39 s44
    ·replace c32 := neF c32
     refine Op.px 2 [(18, .string (mkS s)), (19, .int .i64 i)] ?_
     obtain ⟨x45, hx46⟩ := getAt (l := s) (i := i) (by omega)
     refine Op.si 9 (.tmp 18) (.tmp 19) 20 s i (by omega) hx46 ?_
     refine Op.pg 7 [(22, .bool ((x45.toNat : Int) == (32 : Int)))] ?_
     refine At.if' ((x45.toNat : Int) == (32 : Int)) 22 8 10 (fun c47 => ?_) (fun c48 => ?_)
     ·replace c47 := eq_of_beq c47
      refine At.rp 8 4 [(23, .slice a23 out.length n24), (24, .string (mkS s)), (25, .int .i64 f), (26, .int .i64 i)] ?_
      refine Op.strLoHi (T := 9) (k := .i64) (k' := .i64) (x := (.tmp 24)) (lo := (.tmp 25)) (hi := (.tmp 26)) (dst := 27) (l := s) (n := f) (m := i) (by kernel_rfl) (by kernel_rfl) (by kernel_rfl) (by kernel_rfl) (by kernel_rfl) (by omega) (by omega) (by omega) ?_
      refine Op.lit (T := 54) (len := 1) (parts := #[(0, (.tmp 27))]) (dst := 28) (E := 9) (ps := [(0, .string (mkS ((s.take (i : Int).toNat).drop (f : Int).toNat)))]) (cs := #[.string (mkS ((s.take (i : Int).toNat).drop (f : Int).toNat))]) (by kernel_rfl) (by kernel_rfl) (by kernel_rfl) s27 ?_
      intro b49 h50 s51
      refine Op.append (x := (.tmp 23)) (y := (.tmp 28)) (t := 54) (t' := 54) (dst := 29) (E := 9) (by_ := 16) (d := kStr) (by kernel_rfl) (by kernel_rfl) (by kernel_rfl) (by kernel_rfl) rfl R26 s51 1 rfl (Src.lit (m := 1) (sz := 1) (s51.chunk 0 rfl) (news := [.string (mkS ((s.take (i : Int).toNat).drop (f : Int).toNat))]) rfl rfl (by simp [Value.oneCell']) _) (ys := [(s.take (i : Int).toNat).drop (f : Int).toNat]) (⟨_, _, rfl, rfl, Reads.nil⟩) rfl (by (have := words_l hW h0 (by assumption) hfi; simp only [List.length_cons, List.length_nil]; omega)) (fun _ _ _ => trivial) ?_
      intro v52 ch53 h54 R55 s56 nn57
      obtain ⟨a58, n59, rfl⟩ := R55.form
      have s60 := (s56.front 0 rfl).drop
      refine Op.pg 9 [(3, .slice a58 ((out ++ ([(s.take (i : Int).toNat).drop (f : Int).toNat])).length) n59)] ?_
      refine At.rp 3 1 [(30, .int .i64 i)] ?_
      refine Op.v64 31 (i + 1) (by omega) (by omega) ?_
      refine Op.pg 10 [(4, .int .i64 (i + 1))] ?_
      refine At.rp 3 1 [(11, .int .i64 i)] ?_
      refine Op.v64 12 (i + 1) (by omega) (by omega) ?_
      refine Op.pg 4 [(5, .int .i64 (i + 1))] ?_
      refine At.kp [(0, .string (mkS s)), (3, .slice a58 ((out ++ ([(s.take (i : Int).toNat).drop (f : Int).toNat])).length) n59), (4, .int .i64 (i + 1)), (5, .int .i64 (i + 1))] ?_
      exact ih4  (out ++ ([(s.take (i : Int).toNat).drop (f : Int).toNat])) (i + 1) (i + 1) _ _ _ _ (by omega) (by omega) (by omega) (by omega) (by exact words_c hW (by omega) h0 hfi hx46 (by assumption)) R55 s60
     ·replace c48 := neF c48
      refine At.rp 3 1 [(11, .int .i64 i)] ?_
      refine Op.v64 12 (i + 1) (by omega) (by omega) ?_
      refine Op.pg 4 [(5, .int .i64 (i + 1))] ?_
      refine At.kp [(0, .string (mkS s)), (3, .slice a23 out.length n24), (4, .int .i64 f), (5, .int .i64 (i + 1))] ?_
      exact ih4  out f (i + 1) _ _ _ _ (by omega) (by omega) (by omega) (by omega) (by exact words_a hW (by omega) h0 hfi hx46 (by assumption)) R26 s27
   ·replace c30 := of_decide_eq_false c30
    refine At.go 12 2 [(2, .slice a23 out.length n24)] ?_
    refine At.rt (.slice a23 out.length n24) ?_
    refine hR _ _ _ _ s27 ⟨(.slice a23 out.length n24), ch25, ?_, ?_, rfl, rfl⟩
    ·exact rfl
    ·exact rowEq R26 (by exact words_e hW (by assumption))
 refine At.kp [(0, .string (mkS s)), (3, .slice (some ⟨b20, 0, none⟩) 0 0), (4, .int .i64 0), (5, .int .i64 0)] ?_
 have R61 : Row 9 kStr g (.slice (some ⟨b20, 0, none⟩) 0 0) ([] : List (List UInt8)) [(b20, Obj.cells #[] 9 (0, 0))] := Row.lit (by kernel_rfl) (by unfold maxLen; decide) (by kernel_rfl) Reads.nil
 exact loop4 _  ([] : List (List UInt8)) 0 0 _ _ _ _ (Nat.lt_succ_self _) (by omega) (by omega) (by omega) (by exact .inl ⟨by omega, wordI_0 _⟩) R61 s22
end Go.Proofs.YtmjebehhpojihaaGreatDoor.Sw
namespace Go.Proofs.YtmjebehhpojihaaGreatDoor.Sw
open Go
set_option maxRecDepth 100000
set_option linter.unusedVariables false
set_option linter.unusedSimpArgs false
set_option linter.deprecated false
def IsStep (g : GH) (b : Nat) (x : Step) (c : Chunk) : Prop := ∃ v6 c6 v7 c7, c = (b, .cells #[.int .i64 x.Kind, .int .i64 x.Role, .int .i64 x.K, .int .i64 x.Power, .int .i64 x.Node.Role, .int .i64 x.Node.N, v6, v7] 94 (0, 0)) :: (c6 ++ (c7)) ∧ Row 5 kU8 g v6 x.Data c6 ∧ Row 3 (kInt .i64) g v7 x.Keeps c7
theorem IsStep.mono {g g' : GH} {b : Nat} {x : Step} {c : Chunk} (h : IsStep g b x c) (hg : gle g g') : IsStep g' b x c := by
 obtain ⟨v6, c6, v7, c7, e, h0, h1⟩ := h
 exact ⟨v6, c6, v7, c7, e, h0.mono hg, h1.mono hg⟩
theorem IsStep.eq {g : GH} {b : Nat} {x y : Step} {c : Chunk} (h : IsStep g b x c) (e : x = y) : IsStep g b y c := e ▸ h
theorem IsStep.flat {g g' : GH} {b : Nat} {x : Step} {c : Chunk} (h : IsStep g b x c) : IsStep g' b x c := by
 obtain ⟨v6, c6, v7, c7, e, h0, h1⟩ := h
 exact ⟨v6, c6, v7, c7, e, h0.flat (fun _ _ _ _ h => h), h1.flat (fun _ _ _ _ h => h)⟩
theorem rolesR (B : World) (h : Heap) (g : GH) (hg : Sub g h) (hG : Glob g)   :
  Spec Tryz.prog B 115 #[] h g [] (fun rv g' L' => rv = .agg #[.string (mkS []), .string (mkS ([107, 101, 101, 112, 101, 114])), .string (mkS ([111, 114, 100, 101, 114, 101, 114])), .string (mkS ([100, 111, 101, 114])), .string (mkS ([112, 101, 101, 114]))] ∧ g' = g ∧ L' = []) := by
 refine Spec.at' Tryz.func115 ?_
 intro R hR
 have s0 := St.init hg
 refine At.rg 1 ?_
 refine Op.al 0 168 #[.string (mkS []), .string (mkS []), .string (mkS []), .string (mkS []), .string (mkS [])] s0 ?_
 intro b20 h21 s22
 refine Op.gt 1 ?_
 refine At.rp 2 1 [(1, .agg #[.string (mkS []), .string (mkS ([107, 101, 101, 112, 101, 114])), .string (mkS ([111, 114, 100, 101, 114, 101, 114])), .string (mkS ([100, 111, 101, 114])), .string (mkS ([112, 101, 101, 114]))])] ?_
 refine Op.store (T := 168) (x := (.tmp 0)) (y := (.tmp 1)) (b := b20) (o := 0) (vs := [.string (mkS []), .string (mkS ([107, 101, 101, 112, 101, 114])), .string (mkS ([111, 114, 100, 101, 114, 101, 114])), .string (mkS ([100, 111, 101, 114])), .string (mkS ([112, 101, 101, 114]))]) (a? := true) (n := 5) (by kernel_rfl) (by kernel_rfl) (by kernel_rfl) (by kernel_rfl) rfl (by simp [Value.oneCell']) s22 0 rfl (Nat.le_of_ble_eq_true (by kernel_rfl)) (cs := #[.string (mkS []), .string (mkS []), .string (mkS []), .string (mkS []), .string (mkS [])]) (cs' := #[.string (mkS []), .string (mkS ([107, 101, 101, 112, 101, 114])), .string (mkS ([111, 114, 100, 101, 114, 101, 114])), .string (mkS ([100, 111, 101, 114])), .string (mkS ([112, 101, 101, 114]))]) (by kernel_rfl) (fun _ => trivial) ?_
 intro h23 s24
 refine Op.gt 2 ?_
 refine At.retM (f := Tryz.f115) (vs := [.agg #[.string (mkS []), .string (mkS ([107, 101, 101, 112, 101, 114])), .string (mkS ([111, 114, 100, 101, 114, 101, 114])), .string (mkS ([100, 111, 101, 114])), .string (mkS ([112, 101, 101, 114]))]]) (rl := [.cell 0 168]) (v := .agg #[.string (mkS []), .string (mkS ([107, 101, 101, 112, 101, 114])), .string (mkS ([111, 114, 100, 101, 114, 101, 114])), .string (mkS ([100, 111, 101, 114])), .string (mkS ([112, 101, 101, 114]))]) (by kernel_rfl) (by kernel_rfl) ⟨⟨_, _, rfl, resAgg (n := 5) (by kernel_rfl) (s24.chunk 0 rfl) (by kernel_rfl) rfl⟩, trivial⟩ rfl ?_
 have s25 := s24.drop
 refine hR _ _ _ _ s25 ⟨?_, rfl, rfl⟩
 exact (by rfl)
theorem formsR (B : World) (h : Heap) (g : GH) (hg : Sub g h) (hG : Glob g)   :
  Spec Tryz.prog B 108 #[] h g [] (fun rv g' L' => rv = .agg #[.string (mkS ([97, 115, 107])), .string (mkS ([110, 104])), .string (mkS ([100, 101, 108, 105, 118, 101, 114])), .string (mkS ([107])), .string (mkS ([108, 111, 115, 101])), .string (mkS ([107])), .string (mkS ([99, 111, 112, 121])), .string (mkS ([107])), .string (mkS ([116, 105, 99, 107])), .string (mkS ([114, 110])), .string (mkS ([99, 114, 97, 115, 104])), .string (mkS ([114, 110, 112, 42])), .string (mkS ([115, 97, 121])), .string (mkS ([114, 110, 116, 107, 104, 42])), .string (mkS ([102, 97, 107, 101])), .string (mkS ([110, 112, 107, 42])), .string (mkS ([114, 97, 119])), .string (mkS ([114, 110, 104]))] ∧ g' = g ∧ L' = []) := by
 refine Spec.at' Tryz.func108 ?_
 intro R hR
 have s0 := St.init hg
 refine At.rg 1 ?_
 refine Op.al 0 165 #[.string (mkS []), .string (mkS []), .string (mkS []), .string (mkS []), .string (mkS []), .string (mkS []), .string (mkS []), .string (mkS []), .string (mkS []), .string (mkS []), .string (mkS []), .string (mkS []), .string (mkS []), .string (mkS []), .string (mkS []), .string (mkS []), .string (mkS []), .string (mkS [])] s0 ?_
 intro b20 h21 s22
 refine Op.gt 1 ?_
 refine At.rp 11 10 [(10, .agg #[.string (mkS ([97, 115, 107])), .string (mkS ([110, 104])), .string (mkS ([100, 101, 108, 105, 118, 101, 114])), .string (mkS ([107])), .string (mkS ([108, 111, 115, 101])), .string (mkS ([107])), .string (mkS ([99, 111, 112, 121])), .string (mkS ([107])), .string (mkS ([116, 105, 99, 107])), .string (mkS ([114, 110])), .string (mkS ([99, 114, 97, 115, 104])), .string (mkS ([114, 110, 112, 42])), .string (mkS ([115, 97, 121])), .string (mkS ([114, 110, 116, 107, 104, 42])), .string (mkS ([102, 97, 107, 101])), .string (mkS ([110, 112, 107, 42])), .string (mkS ([114, 97, 119])), .string (mkS ([114, 110, 104]))])] ?_
 refine Op.store (T := 165) (x := (.tmp 0)) (y := (.tmp 10)) (b := b20) (o := 0) (vs := [.string (mkS ([97, 115, 107])), .string (mkS ([110, 104])), .string (mkS ([100, 101, 108, 105, 118, 101, 114])), .string (mkS ([107])), .string (mkS ([108, 111, 115, 101])), .string (mkS ([107])), .string (mkS ([99, 111, 112, 121])), .string (mkS ([107])), .string (mkS ([116, 105, 99, 107])), .string (mkS ([114, 110])), .string (mkS ([99, 114, 97, 115, 104])), .string (mkS ([114, 110, 112, 42])), .string (mkS ([115, 97, 121])), .string (mkS ([114, 110, 116, 107, 104, 42])), .string (mkS ([102, 97, 107, 101])), .string (mkS ([110, 112, 107, 42])), .string (mkS ([114, 97, 119])), .string (mkS ([114, 110, 104]))]) (a? := true) (n := 18) (by kernel_rfl) (by kernel_rfl) (by kernel_rfl) (by kernel_rfl) rfl (by simp [Value.oneCell']) s22 0 rfl (Nat.le_of_ble_eq_true (by kernel_rfl)) (cs := #[.string (mkS []), .string (mkS []), .string (mkS []), .string (mkS []), .string (mkS []), .string (mkS []), .string (mkS []), .string (mkS []), .string (mkS []), .string (mkS []), .string (mkS []), .string (mkS []), .string (mkS []), .string (mkS []), .string (mkS []), .string (mkS []), .string (mkS []), .string (mkS [])]) (cs' := #[.string (mkS ([97, 115, 107])), .string (mkS ([110, 104])), .string (mkS ([100, 101, 108, 105, 118, 101, 114])), .string (mkS ([107])), .string (mkS ([108, 111, 115, 101])), .string (mkS ([107])), .string (mkS ([99, 111, 112, 121])), .string (mkS ([107])), .string (mkS ([116, 105, 99, 107])), .string (mkS ([114, 110])), .string (mkS ([99, 114, 97, 115, 104])), .string (mkS ([114, 110, 112, 42])), .string (mkS ([115, 97, 121])), .string (mkS ([114, 110, 116, 107, 104, 42])), .string (mkS ([102, 97, 107, 101])), .string (mkS ([110, 112, 107, 42])), .string (mkS ([114, 97, 119])), .string (mkS ([114, 110, 104]))]) (by kernel_rfl) (fun _ => trivial) ?_
 intro h23 s24
 refine Op.gt 2 ?_
 refine At.retM (f := Tryz.f108) (vs := [.agg #[.string (mkS ([97, 115, 107])), .string (mkS ([110, 104])), .string (mkS ([100, 101, 108, 105, 118, 101, 114])), .string (mkS ([107])), .string (mkS ([108, 111, 115, 101])), .string (mkS ([107])), .string (mkS ([99, 111, 112, 121])), .string (mkS ([107])), .string (mkS ([116, 105, 99, 107])), .string (mkS ([114, 110])), .string (mkS ([99, 114, 97, 115, 104])), .string (mkS ([114, 110, 112, 42])), .string (mkS ([115, 97, 121])), .string (mkS ([114, 110, 116, 107, 104, 42])), .string (mkS ([102, 97, 107, 101])), .string (mkS ([110, 112, 107, 42])), .string (mkS ([114, 97, 119])), .string (mkS ([114, 110, 104]))]]) (rl := [.cell 0 165]) (v := .agg #[.string (mkS ([97, 115, 107])), .string (mkS ([110, 104])), .string (mkS ([100, 101, 108, 105, 118, 101, 114])), .string (mkS ([107])), .string (mkS ([108, 111, 115, 101])), .string (mkS ([107])), .string (mkS ([99, 111, 112, 121])), .string (mkS ([107])), .string (mkS ([116, 105, 99, 107])), .string (mkS ([114, 110])), .string (mkS ([99, 114, 97, 115, 104])), .string (mkS ([114, 110, 112, 42])), .string (mkS ([115, 97, 121])), .string (mkS ([114, 110, 116, 107, 104, 42])), .string (mkS ([102, 97, 107, 101])), .string (mkS ([110, 112, 107, 42])), .string (mkS ([114, 97, 119])), .string (mkS ([114, 110, 104]))]) (by kernel_rfl) (by kernel_rfl) ⟨⟨_, _, rfl, resAgg (n := 18) (by kernel_rfl) (s24.chunk 0 rfl) (by kernel_rfl) rfl⟩, trivial⟩ rfl ?_
 have s25 := s24.drop
 refine hR _ _ _ _ s25 ⟨?_, rfl, rfl⟩
 exact (by rfl)
theorem roleR (B : World) (h : Heap) (g : GH) (hg : Sub g h) (hG : Glob g) (w : List UInt8)  :
  Spec Tryz.prog B 110 #[.string (mkS w)] h g [] (fun rv g' L' => rv = .tuple #[.int .i64 ((roleW w).getD 0), .bool ((roleW w).isSome)] ∧ g' = g ∧ L' = []) := by
 refine Spec.at' Tryz.func110 ?_
 intro R hR
 have s0 := St.init hg
 refine At.go 1 2 [] ?_
 refine At.rg 3 ?_
 refine Op.c1 6 (rolesR _ _ _ s0.sub hG   ) s0 ?_
 intro h20 s21
 refine Op.al 4 168 #[.string (mkS []), .string (mkS []), .string (mkS []), .string (mkS []), .string (mkS [])] s21 ?_
 intro b24 h25 s26
 refine Op.store (T := 168) (x := (.tmp 4)) (y := (.tmp 6)) (b := b24) (o := 0) (vs := [.string (mkS []), .string (mkS ([107, 101, 101, 112, 101, 114])), .string (mkS ([111, 114, 100, 101, 114, 101, 114])), .string (mkS ([100, 111, 101, 114])), .string (mkS ([112, 101, 101, 114]))]) (a? := true) (n := 5) (by kernel_rfl) (by kernel_rfl) (by kernel_rfl) (by kernel_rfl) rfl (by simp [Value.oneCell']) s26 0 rfl (Nat.le_of_ble_eq_true (by kernel_rfl)) (cs := #[.string (mkS []), .string (mkS []), .string (mkS []), .string (mkS []), .string (mkS [])]) (cs' := #[.string (mkS []), .string (mkS ([107, 101, 101, 112, 101, 114])), .string (mkS ([111, 114, 100, 101, 114, 101, 114])), .string (mkS ([100, 111, 101, 114])), .string (mkS ([112, 101, 101, 114]))]) (by kernel_rfl) (fun _ => trivial) ?_
 intro h27 s28
 refine Op.gt 2 ?_
 refine At.go 3 1 [(5, .int .i64 1)] ?_
 have loop3 : ∀ (m : Nat) (i : Int) (h30 : Heap) (hm : 5 - i.toNat < m) (h0 : 1 ≤ i) (h5 : i ≤ 5) (hI : roleI w i)     (s29 : St h g (ids []) g [[(b24, Obj.cells #[.string (mkS []), .string (mkS ([107, 101, 101, 112, 101, 114])), .string (mkS ([111, 114, 100, 101, 114, 101, 114])), .string (mkS ([100, 111, 101, 114])), .string (mkS ([112, 101, 101, 114]))] 168 (0, 0))]] h30), At (fctx Tryz.prog B 110 Tryz.f110 R) [] 3 [(0, .string (mkS w)), (4, .pointer (some ⟨b24, 0, none⟩)), (5, .int .i64 i)] h30 := by
  intro m; induction m with
  | zero => intros; omega
  | succ m ih3 =>
   intro i h30 hm h0 h5 hI s29
   refine At.go 4 2 [(8, .bool (decide (i < (5 : Int))))] ?_
   refine At.if' (decide (i < (5 : Int))) 8 5 10 (fun c31 => ?_) (fun c32 => ?_)
   ·replace c31 := of_decide_eq_true c31
    refine At.rp 5 1 [(11, .int .i64 i)] ?_
    refine Op.idxA (T := 168) (E := 9) (len := 5) (sz := 1) (k := .i64) (x := (.tmp 4)) (ix := (.tmp 11)) (dst := 12) (bk := b24) (o := 0) (m := i) (by kernel_rfl) (by kernel_rfl) (by kernel_rfl) (by kernel_rfl) (by omega) (by omega) ?_
    refine Op.ld (n := 1) 9 (.tmp 12) 13 (0 + (i : Int).toNat * 1) (.string (mkS (rolesL.getD (0 + (i : Int).toNat * 1) []))) (s29.chunk 0 rfl) ?_ (hv := (by exact cellsS rolesL (show 0 + (i : Int).toNat * 1 < 5 by omega)))
    refine Op.px 1 [(14, .string (mkS w))] ?_
    refine Op.vl 15 (.bool ((mkS (rolesL.getD (0 + (i : Int).toNat * 1) [])).toList == (mkS w).toList)) (.bool ((rolesL.getD (0 + (i : Int).toNat * 1) []) == w)) (by rw [toList_mkS, toList_mkS]) ?_
    refine Op.gt 6 ?_
    refine At.if' ((rolesL.getD (0 + (i : Int).toNat * 1) []) == w) 15 7 9 (fun c33 => ?_) (fun c34 => ?_)
    ·replace c33 := eq_of_beq c33
     refine At.go 8 3 [(2, .int .i64 i), (3, .bool true)] ?_
     refine At.rt (.tuple #[.int .i64 i, .bool true]) ?_
     have s35 := s29.drop
     refine hR _ _ _ _ s35 ⟨?_, rfl, rfl⟩
     exact eqT2 (eqI (by exact (role_y (roleI_hit hI h0 (by omega) (by first | assumption | simpa using c33))).1)) (eqB (by exact (role_y (roleI_hit hI h0 (by omega) (by first | assumption | simpa using c33))).2))
    ·replace c34 := neF c34
     refine At.rp 3 1 [(9, .int .i64 i)] ?_
     refine Op.v64 10 (i + 1) (by omega) (by omega) ?_
     refine Op.pg 3 [(5, .int .i64 (i + 1))] ?_
     refine At.kp [(0, .string (mkS w)), (4, .pointer (some ⟨b24, 0, none⟩)), (5, .int .i64 (i + 1))] ?_
     exact ih3  (i + 1) _ (by omega) (by omega) (by omega) (by exact roleI_step hI h0 (by simpa using c34))  s29
   ·replace c32 := of_decide_eq_false c32
    refine At.go 11 2 [(2, .int .i64 0), (3, .bool false)] ?_
    refine At.rt (.tuple #[.int .i64 0, .bool false]) ?_
    have s36 := s29.drop
    refine hR _ _ _ _ s36 ⟨?_, rfl, rfl⟩
    exact eqT2 (eqI (by exact (role_n (roleI_end hI (by assumption))).1)) (eqB (by exact (role_n (roleI_end hI (by assumption))).2))
 refine At.kp [(0, .string (mkS w)), (4, .pointer (some ⟨b24, 0, none⟩)), (5, .int .i64 1)] ?_
 exact loop3 _  1 _ (Nat.lt_succ_self _) (by omega) (by omega) (by exact roleI_0 _)  s28
set_option maxHeartbeats 4000000 in
theorem lineR_ (B : World) (h : Heap) (g : GH) (hg : Sub g h) (hG : Glob g) (s : List UInt8) (hs : s.length ≤ 100000000) :
  Spec Tryz.prog B 59 #[.string (mkS s)] h g [] (fun rv g' L' => ∃ v0 k0_0 v1 k0_1, rv = .tuple #[.agg #[.int .i64 (((lineR s).1).Kind), .int .i64 (((lineR s).1).Role), .int .i64 (((lineR s).1).K), .int .i64 (((lineR s).1).Power), .int .i64 (((lineR s).1).Node.Role), .int .i64 (((lineR s).1).Node.N), v0, v1], .bool ((lineR s).2)] ∧ Row 5 kU8 g' v0 (((lineR s).1).Data) k0_0 ∧ Row 3 (kInt .i64) g' v1 (((lineR s).1).Keeps) k0_1 ∧ g' = g ∧ L' = [k0_0, k0_1]) := by
 refine Spec.at' Tryz.func59 ?_
 intro R hR
 have s0 := St.init hg
 refine At.rg 2 ?_
 refine Op.al 2 94 #[.int .i64 0, .int .i64 0, .int .i64 0, .int .i64 0, .int .i64 0, .int .i64 0, .slice none 0 0, .slice none 0 0] s0 ?_
 intro b20 h21 s22
 refine Op.pg 1 [] ?_
 refine At.rp 3 1 [(14, .string (mkS s))] ?_
 refine Op.c0 (some 15) (wordsR _ _ _ s22.sub hG s (by ((try dsimp only) <;> (omega))) ) s22 ?_
 rintro _ g30 _ h23 hle31 s24 ⟨v25, ch26, rfl, R27, hgg, rfl⟩; subst g30; clear hle31
 obtain ⟨a28, n29, rfl⟩ := R27.form
 refine Op.pg 2 [(4, .slice a28 ((splitOn 32 s).length) n29)] ?_
 refine At.rg 3 ?_
 refine Op.c1 16 (formsR _ _ _ s24.sub hG   ) s24 ?_
 intro h32 s33
 refine Op.al 5 165 #[.string (mkS []), .string (mkS []), .string (mkS []), .string (mkS []), .string (mkS []), .string (mkS []), .string (mkS []), .string (mkS []), .string (mkS []), .string (mkS []), .string (mkS []), .string (mkS []), .string (mkS []), .string (mkS []), .string (mkS []), .string (mkS []), .string (mkS []), .string (mkS [])] s33 ?_
 intro b36 h37 s38
 refine Op.store (T := 165) (x := (.tmp 5)) (y := (.tmp 16)) (b := b36) (o := 0) (vs := [.string (mkS ([97, 115, 107])), .string (mkS ([110, 104])), .string (mkS ([100, 101, 108, 105, 118, 101, 114])), .string (mkS ([107])), .string (mkS ([108, 111, 115, 101])), .string (mkS ([107])), .string (mkS ([99, 111, 112, 121])), .string (mkS ([107])), .string (mkS ([116, 105, 99, 107])), .string (mkS ([114, 110])), .string (mkS ([99, 114, 97, 115, 104])), .string (mkS ([114, 110, 112, 42])), .string (mkS ([115, 97, 121])), .string (mkS ([114, 110, 116, 107, 104, 42])), .string (mkS ([102, 97, 107, 101])), .string (mkS ([110, 112, 107, 42])), .string (mkS ([114, 97, 119])), .string (mkS ([114, 110, 104]))]) (a? := true) (n := 18) (by kernel_rfl) (by kernel_rfl) (by kernel_rfl) (by kernel_rfl) rfl (by simp [Value.oneCell']) s38 0 rfl (Nat.le_of_ble_eq_true (by kernel_rfl)) (cs := #[.string (mkS []), .string (mkS []), .string (mkS []), .string (mkS []), .string (mkS []), .string (mkS []), .string (mkS []), .string (mkS []), .string (mkS []), .string (mkS []), .string (mkS []), .string (mkS []), .string (mkS []), .string (mkS []), .string (mkS []), .string (mkS []), .string (mkS []), .string (mkS [])]) (cs' := #[.string (mkS ([97, 115, 107])), .string (mkS ([110, 104])), .string (mkS ([100, 101, 108, 105, 118, 101, 114])), .string (mkS ([107])), .string (mkS ([108, 111, 115, 101])), .string (mkS ([107])), .string (mkS ([99, 111, 112, 121])), .string (mkS ([107])), .string (mkS ([116, 105, 99, 107])), .string (mkS ([114, 110])), .string (mkS ([99, 114, 97, 115, 104])), .string (mkS ([114, 110, 112, 42])), .string (mkS ([115, 97, 121])), .string (mkS ([114, 110, 116, 107, 104, 42])), .string (mkS ([102, 97, 107, 101])), .string (mkS ([110, 112, 107, 42])), .string (mkS ([114, 97, 119])), .string (mkS ([114, 110, 104]))]) (by kernel_rfl) (fun _ => trivial) ?_
 intro h39 s40
 refine Op.gt 3 ?_
 refine At.go 4 1 [(6, .int .i64 0)] ?_
 have loop4 : ∀ (m : Nat) (k : Int) (h42 : Heap) (hm : 9 - k.toNat < m) (k0 : 0 ≤ k) (k9 : k ≤ 9) (hC : cmdL ((splitOn 32 s).headD []) k)     (s41 : St h g (ids []) g [[(b36, Obj.cells #[.string (mkS ([97, 115, 107])), .string (mkS ([110, 104])), .string (mkS ([100, 101, 108, 105, 118, 101, 114])), .string (mkS ([107])), .string (mkS ([108, 111, 115, 101])), .string (mkS ([107])), .string (mkS ([99, 111, 112, 121])), .string (mkS ([107])), .string (mkS ([116, 105, 99, 107])), .string (mkS ([114, 110])), .string (mkS ([99, 114, 97, 115, 104])), .string (mkS ([114, 110, 112, 42])), .string (mkS ([115, 97, 121])), .string (mkS ([114, 110, 116, 107, 104, 42])), .string (mkS ([102, 97, 107, 101])), .string (mkS ([110, 112, 107, 42])), .string (mkS ([114, 97, 119])), .string (mkS ([114, 110, 104]))] 165 (0, 0))], ch26, [(b20, Obj.cells #[.int .i64 0, .int .i64 0, .int .i64 0, .int .i64 0, .int .i64 0, .int .i64 0, .slice none 0 0, .slice none 0 0] 94 (0, 0))]] h42), At (fctx Tryz.prog B 59 Tryz.f59 R) [] 4 [(2, .pointer (some ⟨b20, 0, none⟩)), (4, .slice a28 ((splitOn 32 s).length) n29), (5, .pointer (some ⟨b36, 0, none⟩)), (6, .int .i64 k)] h42 := by
  intro m; induction m with
  | zero => intros; omega
  | succ m ih4 =>
   intro k h42 hm k0 k9 hC s41
   refine At.go 5 2 [(18, .bool (decide (k < (9 : Int))))] ?_
   refine At.if' (decide (k < (9 : Int))) 18 6 57 (fun c43 => ?_) (fun c44 => ?_)
   ·replace c43 := of_decide_eq_true c43
    refine At.draw (by kernel_rfl) (fun _ => False) [(0, true), (1, true), (2, true), (4, true), (5, true), (3, true), (6, false), (7, true)] (by kernel_rfl) ?_
    refine Op.px 1 [(21, .int .i64 k)] ?_
    refine Op.idxA (T := 165) (E := 164) (len := 9) (sz := 2) (k := .i64) (x := (.tmp 5)) (ix := (.tmp 21)) (dst := 22) (bk := b36) (o := 0) (m := k) (by kernel_rfl) (by kernel_rfl) (by kernel_rfl) (by kernel_rfl) (by omega) (by omega) ?_
    refine Op.px 2 [(23, .pointer (some ⟨b36, 0 + (k : Int).toNat * 2, none⟩)), (25, .slice a28 ((splitOn 32 s).length) n29)] ?_
    obtain ⟨x45, hx46⟩ := getAt (l := splitOn 32 s) (i := 0) (by (have := split_ne s; omega))
    obtain ⟨b47, o48, cu49, fz50, ha51, hb52, hk53⟩ := SlH.at_ (R27.toH s41 1 rfl) _ hx46
    cases ha51
    refine Op.ix 54 9 1 16 ((splitOn 32 s).length) n29 (.tmp 25) (.const (.int .i64 0)) 26 b47 o48 0 (by omega) (by (have := split_ne s; omega)) ?_
    replace hk53 : cut _ _ _ = [.string (mkS x45)] := hk53
    refine Op.loadF (T := 9) (x := (.tmp 23)) (o := 0 + (k : Int).toNat * 2) (d := 24) (n := 1) (v := .string (mkS (formsL.getD (0 + (k : Int).toNat * 2) []))) (by kernel_rfl) (by kernel_rfl) (by kernel_rfl) (fun h => h) (s41.chunk 0 rfl) (by exact cellsS formsL (show 0 + (k : Int).toNat * 2 < 18 by first | omega | (have := cmdF_len (k := k) ⟨k0, by omega⟩; omega) | (have := split_len s; omega) | (have := split_el hx46; omega) | (have := split_el {hx1}; omega) | (have := split_el {hx2}; omega) | (have := split_ne s; omega) | (rw [show formsL.length = 18 from rfl]; omega) | (rw [show formsL.length = 18 from rfl]; show _ < 18; omega) | (simp only [List.length_append, List.length_cons, List.length_nil]; have := split_len s; omega))) ?_
    refine Op.ld (n := 1) 9 (.tmp 26) 27 (o48 + (0 : Int).toNat * 1) (.string (mkS x45)) hb52 ?_ (hv := (cut_get hk53 0 rfl))
    refine Op.vl 28 (.bool (!((mkS (formsL.getD (0 + (k : Int).toNat * 2) [])).toList == (mkS x45).toList))) (.bool (!((formsL.getD (0 + (k : Int).toNat * 2) []) == x45))) (by rw [toList_mkS, toList_mkS]) ?_
    refine Op.gt 7 ?_
    refine At.if' (!((formsL.getD (0 + (k : Int).toNat * 2) []) == x45)) 28 56 8 (fun c54 => ?_) (fun c55 => ?_)
    ·replace c54 := neF (notT c54)
     refine At.rp 3 1 [(19, .int .i64 k)] ?_
     refine Op.v64 20 (k + 1) (by omega) (by omega) ?_
     refine Op.pg 4 [(6, .int .i64 (k + 1))] ?_
     refine At.kp [(2, .pointer (some ⟨b20, 0, none⟩)), (4, .slice (some ⟨b47, o48, none⟩) ((splitOn 32 s).length) n29), (5, .pointer (some ⟨b36, 0, none⟩)), (6, .int .i64 (k + 1))] ?_
     exact ih4  (k + 1) _ (by omega) (by omega) (by omega) (by exact cmdL_step hC k0 (by rw [(head_of hx46).1]; first | assumption | simpa using c54))  s41
    ·replace c55 := eq_of_beq (notF c55)
     refine At.rp 5 1 [(29, .int .i64 k)] ?_
     refine Op.v64 30 (k + 1) (by omega) (by omega) ?_
     refine Op.px 1 [(31, .agg #[.int .i64 (k + 1), .int .i64 0, .int .i64 0, .int .i64 0, .int .i64 0, .int .i64 0, .slice none 0 0, .slice none 0 0])] ?_
     refine Op.al 7 94 #[.int .i64 0, .int .i64 0, .int .i64 0, .int .i64 0, .int .i64 0, .int .i64 0, .slice none 0 0, .slice none 0 0] s41 ?_
     intro b56 h57 s58
     refine Op.store (T := 94) (x := (.tmp 7)) (y := (.tmp 31)) (b := b56) (o := 0) (vs := [.int .i64 (k + 1), .int .i64 0, .int .i64 0, .int .i64 0, .int .i64 0, .int .i64 0, .slice none 0 0, .slice none 0 0]) (a? := true) (n := 8) (by kernel_rfl) (by kernel_rfl) (by kernel_rfl) (by kernel_rfl) rfl (by simp [Value.oneCell']) s58 0 rfl (Nat.le_of_ble_eq_true (by kernel_rfl)) (cs := #[.int .i64 0, .int .i64 0, .int .i64 0, .int .i64 0, .int .i64 0, .int .i64 0, .slice none 0 0, .slice none 0 0]) (cs' := #[.int .i64 (k + 1), .int .i64 0, .int .i64 0, .int .i64 0, .int .i64 0, .int .i64 0, .slice none 0 0, .slice none 0 0]) (by kernel_rfl) (fun _ => trivial) ?_
     intro h59 s60
     refine Op.gt 9 ?_
     have R61 := Row.nil 5 kU8 g
     have s62 := s60.nl
     have R63 := Row.nil 3 (kInt .i64) g
     have s64 := s62.nl
     have s65 := ((s64.front 0 rfl).front 1 rfl).front 2 rfl
     obtain ⟨c66, o67, s68⟩ := St.pack (Q := IsStep g b56 (⟨k + 1, 0, 0, 0, ⟨0, 0⟩, ([] : List UInt8), ([] : List Int)⟩ : Step)) 3 s65 ⟨_, _, _, _, rfl, R61, R63⟩
     have join15 : ∀ (m : Nat) (st : Step) (c69 : Chunk) (h72 : Heap) (hm : 0 < m) (hst : st = initS k.toNat) (k8 : k < 9) (hw0 : ∃ w, (splitOn 32 s)[(0 : Int).toNat]? = some w ∧ cmdI w = some k.toNat)  (o70 : IsStep g b56 st c69)   (s71 : St h g (ids []) g [c69, [(b36, Obj.cells #[.string (mkS ([97, 115, 107])), .string (mkS ([110, 104])), .string (mkS ([100, 101, 108, 105, 118, 101, 114])), .string (mkS ([107])), .string (mkS ([108, 111, 115, 101])), .string (mkS ([107])), .string (mkS ([99, 111, 112, 121])), .string (mkS ([107])), .string (mkS ([116, 105, 99, 107])), .string (mkS ([114, 110])), .string (mkS ([99, 114, 97, 115, 104])), .string (mkS ([114, 110, 112, 42])), .string (mkS ([115, 97, 121])), .string (mkS ([114, 110, 116, 107, 104, 42])), .string (mkS ([102, 97, 107, 101])), .string (mkS ([110, 112, 107, 42])), .string (mkS ([114, 97, 119])), .string (mkS ([114, 110, 104]))] 165 (0, 0))], ch26, [(b20, Obj.cells #[.int .i64 0, .int .i64 0, .int .i64 0, .int .i64 0, .int .i64 0, .int .i64 0, .slice none 0 0, .slice none 0 0] 94 (0, 0))]] h72), At (fctx Tryz.prog B 59 Tryz.f59 R) [] 15 [(2, .pointer (some ⟨b20, 0, none⟩)), (4, .slice (some ⟨b47, o48, none⟩) ((splitOn 32 s).length) n29), (5, .pointer (some ⟨b36, 0, none⟩)), (6, .int .i64 k), (7, .pointer (some ⟨b56, 0, none⟩))] h72 := by
      intro m; induction m with
      | zero => intros; omega
      | succ m ih15 =>
       intro st c69 h72 hm hst k8 hw0 o70 s71
       refine At.rp 5 1 [(42, .int .i64 k)] ?_
       refine Op.idxA (T := 165) (E := 164) (len := 9) (sz := 2) (k := .i64) (x := (.tmp 5)) (ix := (.tmp 42)) (dst := 43) (bk := b36) (o := 0) (m := k) (by kernel_rfl) (by kernel_rfl) (by kernel_rfl) (by kernel_rfl) (by omega) (by omega) ?_
       refine Op.px 1 [(44, .pointer (some ⟨b36, 0 + (k : Int).toNat * 2 + 1, none⟩))] ?_
       refine Op.ld (n := 1) 9 (.tmp 44) 45 (0 + (k : Int).toNat * 2 + 1) (.string (mkS (formsL.getD (0 + (k : Int).toNat * 2 + 1) []))) (s71.chunk 1 rfl) ?_ (hv := (by exact cellsS formsL (show 0 + (k : Int).toNat * 2 + 1 < 18 by first | omega | (have := cmdF_len (k := k) ⟨k0, by omega⟩; omega) | (have := split_len s; omega) | (have := split_el hx46; omega) | (have := split_el {hx1}; omega) | (have := split_el {hx2}; omega) | (have := split_ne s; omega) | (rw [show formsL.length = 18 from rfl]; omega) | (rw [show formsL.length = 18 from rfl]; show _ < 18; omega) | (simp only [List.length_append, List.length_cons, List.length_nil]; have := split_len s; omega))))
       refine Op.pg 16 [(8, .string (mkS (formsL.getD (0 + (k : Int).toNat * 2 + 1) [])))] ?_
       refine At.go 17 1 [(9, .int .i64 1)] ?_
       refine At.go 18 1 [(10, .bool true)] ?_
       refine At.go 19 1 [(11, .int .i64 0)] ?_
       have loop19 : ∀ (m : Nat) (st : Step) (at_ : Int) (ok : Bool) (i : Int) (c73 : Chunk) (h76 : Heap) (hm : (formsL.getD (0 + (k : Int).toNat * 2 + 1) []).length - i.toNat < m) (h0 : 0 ≤ i) (a1 : 1 ≤ at_) (aL : at_ ≤ (splitOn 32 s).length) (hkl : st.Keeps.length ≤ at_) (hL : linI s (formsL.getD (0 + (k : Int).toNat * 2 + 1) []) i at_ st ok)  (o74 : IsStep g b56 st c73)   (s75 : St h g (ids []) g [c73, [(b36, Obj.cells #[.string (mkS ([97, 115, 107])), .string (mkS ([110, 104])), .string (mkS ([100, 101, 108, 105, 118, 101, 114])), .string (mkS ([107])), .string (mkS ([108, 111, 115, 101])), .string (mkS ([107])), .string (mkS ([99, 111, 112, 121])), .string (mkS ([107])), .string (mkS ([116, 105, 99, 107])), .string (mkS ([114, 110])), .string (mkS ([99, 114, 97, 115, 104])), .string (mkS ([114, 110, 112, 42])), .string (mkS ([115, 97, 121])), .string (mkS ([114, 110, 116, 107, 104, 42])), .string (mkS ([102, 97, 107, 101])), .string (mkS ([110, 112, 107, 42])), .string (mkS ([114, 97, 119])), .string (mkS ([114, 110, 104]))] 165 (0, 0))], ch26, [(b20, Obj.cells #[.int .i64 0, .int .i64 0, .int .i64 0, .int .i64 0, .int .i64 0, .int .i64 0, .slice none 0 0, .slice none 0 0] 94 (0, 0))]] h76), At (fctx Tryz.prog B 59 Tryz.f59 R) [] 19 [(2, .pointer (some ⟨b20, 0, none⟩)), (4, .slice (some ⟨b47, o48, none⟩) ((splitOn 32 s).length) n29), (7, .pointer (some ⟨b56, 0, none⟩)), (8, .string (mkS (formsL.getD (0 + (k : Int).toNat * 2 + 1) []))), (9, .int .i64 at_), (10, .bool ok), (11, .int .i64 i)] h76 := by
        intro m; induction m with
        | zero => intros; omega
        | succ m ih19 =>
         intro st at_ ok i c73 h76 hm h0 a1 aL hkl hL o74 s75
         refine At.rp 7 5 [(50, .bool (decide (i < ((formsL.getD (0 + (k : Int).toNat * 2 + 1) []).length : Int))))] ?_
         refine Op.wb (decide (i < ((formsL.getD (0 + (k : Int).toNat * 2 + 1) []).length : Int))) 50 (fun c77 => ?_) (fun c78 => ?_)
         ·replace c77 := of_decide_eq_true c77
          refine Op.pg 20 [(52, .bool ok)] ?_
          refine At.if' ok 52 21 54 (fun c79 => ?_) (fun c80 => ?_)
          ·refine At.rp 4 2 [(55, .string (mkS (formsL.getD (0 + (k : Int).toNat * 2 + 1) []))), (56, .int .i64 i)] ?_
           obtain ⟨x81, hx82⟩ := getAt (l := formsL.getD (0 + (k : Int).toNat * 2 + 1) []) (i := i) (by omega)
           refine Op.si 9 (.tmp 55) (.tmp 56) 57 (formsL.getD (0 + (k : Int).toNat * 2 + 1) []) i (by omega) hx82 ?_
           refine Op.pg 22 [(58, .bool ((x81.toNat : Int) == (42 : Int)))] ?_
           refine At.if' ((x81.toNat : Int) == (42 : Int)) 58 23 29 (fun c83 => ?_) (fun c84 => ?_)
           ·replace c83 := eq_of_beq c83
            have loop23 : ∀ (m : Nat) (st : Step) (at_ : Int) (ok2 : Bool) (c85 : Chunk) (h88 : Heap) (hm : (splitOn 32 s).length - at_.toNat < m) (a1 : 1 ≤ at_) (aL : at_ ≤ (splitOn 32 s).length) (hkl : st.Keeps.length ≤ at_) (hK : kepI s (formsL.getD (0 + (k : Int).toNat * 2 + 1) []) i at_ st ok2)  (o86 : IsStep g b56 st c85)   (s87 : St h g (ids []) g [c85, [(b36, Obj.cells #[.string (mkS ([97, 115, 107])), .string (mkS ([110, 104])), .string (mkS ([100, 101, 108, 105, 118, 101, 114])), .string (mkS ([107])), .string (mkS ([108, 111, 115, 101])), .string (mkS ([107])), .string (mkS ([99, 111, 112, 121])), .string (mkS ([107])), .string (mkS ([116, 105, 99, 107])), .string (mkS ([114, 110])), .string (mkS ([99, 114, 97, 115, 104])), .string (mkS ([114, 110, 112, 42])), .string (mkS ([115, 97, 121])), .string (mkS ([114, 110, 116, 107, 104, 42])), .string (mkS ([102, 97, 107, 101])), .string (mkS ([110, 112, 107, 42])), .string (mkS ([114, 97, 119])), .string (mkS ([114, 110, 104]))] 165 (0, 0))], ch26, [(b20, Obj.cells #[.int .i64 0, .int .i64 0, .int .i64 0, .int .i64 0, .int .i64 0, .int .i64 0, .slice none 0 0, .slice none 0 0] 94 (0, 0))]] h88), At (fctx Tryz.prog B 59 Tryz.f59 R) [] 23 [(2, .pointer (some ⟨b20, 0, none⟩)), (4, .slice (some ⟨b47, o48, none⟩) ((splitOn 32 s).length) n29), (7, .pointer (some ⟨b56, 0, none⟩)), (8, .string (mkS (formsL.getD (0 + (k : Int).toNat * 2 + 1) []))), (9, .int .i64 at_), (10, .bool ok2), (11, .int .i64 i)] h88 := by
             intro m; induction m with
             | zero => intros; omega
             | succ m ih23 =>
              intro st at_ ok2 c85 h88 hm a1 aL hkl hK o86 s87
              refine At.rp 7 5 [(63, .bool (decide (at_ < ((splitOn 32 s).length : Int))))] ?_
              refine Op.wb (decide (at_ < ((splitOn 32 s).length : Int))) 63 (fun c89 => ?_) (fun c90 => ?_)
              ·replace c89 := of_decide_eq_true c89
               refine Op.pg 24 [(65, .bool ok2)] ?_
               refine At.if' ok2 65 25 53 (fun c91 => ?_) (fun c92 => ?_)
               ·refine At.rp 10 2 [(67, .slice (some ⟨b47, o48, none⟩) ((splitOn 32 s).length) n29), (68, .int .i64 at_)] ?_
                obtain ⟨x93, hx94⟩ := getAt (l := splitOn 32 s) (i := at_) (by omega)
                obtain ⟨b95, o96, cu97, fz98, ha99, hb100, hk101⟩ := SlH.at_ (R27.toH s87 2 rfl) _ hx94
                cases ha99
                refine Op.ix 54 9 1 16 ((splitOn 32 s).length) n29 (.tmp 67) (.tmp 68) 69 b47 o48 at_ (by omega) (by omega) ?_
                replace hk101 : cut _ _ _ = [.string (mkS x93)] := hk101
                refine Op.ld (n := 1) 9 (.tmp 69) 70 (o48 + (at_ : Int).toNat * 1) (.string (mkS x93)) hb100 ?_ (hv := (cut_get hk101 0 rfl))
                refine Op.c1 71 (numberR _ _ _ s87.sub hG x93 (by ((try dsimp only) <;> ((have := split_el hx94; omega)))) ) s87 ?_
                intro h102 s103
                refine Op.pg 26 [(12, .int .i64 ((numW x93).getD 0)), (13, .bool ((numW x93).isSome))] ?_
                refine At.go 27 2 [(10, .bool ((numW x93).isSome))] ?_
                refine At.rp 7 1 [(75, .pointer (some ⟨b56, 7, none⟩))] ?_
                obtain ⟨v106, c107, v108, c109, e110, R111, R112⟩ := o86
                obtain ⟨a113, n114, rfl⟩ := R111.form
                obtain ⟨a115, n116, rfl⟩ := R112.form
                have s117 : St h g (ids []) g [[(b56, Obj.cells #[.int .i64 st.Kind, .int .i64 st.Role, .int .i64 st.K, .int .i64 st.Power, .int .i64 st.Node.Role, .int .i64 st.Node.N, .slice a113 st.Data.length n114, .slice a115 st.Keeps.length n116] 94 (0, 0))], c107, c109, [(b36, Obj.cells #[.string (mkS ([97, 115, 107])), .string (mkS ([110, 104])), .string (mkS ([100, 101, 108, 105, 118, 101, 114])), .string (mkS ([107])), .string (mkS ([108, 111, 115, 101])), .string (mkS ([107])), .string (mkS ([99, 111, 112, 121])), .string (mkS ([107])), .string (mkS ([116, 105, 99, 107])), .string (mkS ([114, 110])), .string (mkS ([99, 114, 97, 115, 104])), .string (mkS ([114, 110, 112, 42])), .string (mkS ([115, 97, 121])), .string (mkS ([114, 110, 116, 107, 104, 42])), .string (mkS ([102, 97, 107, 101])), .string (mkS ([110, 112, 107, 42])), .string (mkS ([114, 97, 119])), .string (mkS ([114, 110, 104]))] 165 (0, 0))], ch26, [(b20, Obj.cells #[.int .i64 0, .int .i64 0, .int .i64 0, .int .i64 0, .int .i64 0, .int .i64 0, .slice none 0 0, .slice none 0 0] 94 (0, 0))]] h102 := St.flat (L := [c85, [(b36, Obj.cells #[.string (mkS ([97, 115, 107])), .string (mkS ([110, 104])), .string (mkS ([100, 101, 108, 105, 118, 101, 114])), .string (mkS ([107])), .string (mkS ([108, 111, 115, 101])), .string (mkS ([107])), .string (mkS ([99, 111, 112, 121])), .string (mkS ([107])), .string (mkS ([116, 105, 99, 107])), .string (mkS ([114, 110])), .string (mkS ([99, 114, 97, 115, 104])), .string (mkS ([114, 110, 112, 42])), .string (mkS ([115, 97, 121])), .string (mkS ([114, 110, 116, 107, 104, 42])), .string (mkS ([102, 97, 107, 101])), .string (mkS ([110, 112, 107, 42])), .string (mkS ([114, 97, 119])), .string (mkS ([114, 110, 104]))] 165 (0, 0))], ch26, [(b20, Obj.cells #[.int .i64 0, .int .i64 0, .int .i64 0, .int .i64 0, .int .i64 0, .int .i64 0, .slice none 0 0, .slice none 0 0] 94 (0, 0))]]) (by rw [e110]; simp only [List.flatten_cons, List.append_assoc, List.cons_append, List.nil_append, List.append_nil]) s103
                refine Op.ld (n := 1) 44 (.tmp 75) 76 7 (.slice a115 st.Keeps.length n116) (s117.chunk 0 rfl) ?_
                refine Op.px 1 [(77, .int .i64 ((numW x93).getD 0))] ?_
                refine Op.lit (T := 44) (len := 1) (parts := #[(0, (.tmp 77))]) (dst := 78) (E := 3) (ps := [(0, .int .i64 ((numW x93).getD 0))]) (cs := #[.int .i64 ((numW x93).getD 0)]) (by kernel_rfl) (by kernel_rfl) (by kernel_rfl) s117 ?_
                intro b118 h119 s120
                refine Op.append (x := (.tmp 76)) (y := (.tmp 78)) (t := 44) (t' := 44) (dst := 79) (E := 3) (by_ := 8) (d := (kInt .i64)) (by kernel_rfl) (by kernel_rfl) (by kernel_rfl) (by kernel_rfl) rfl R112 s120 3 rfl (Src.lit (m := 1) (sz := 1) (s120.chunk 0 rfl) (news := [.int .i64 ((numW x93).getD 0)]) rfl rfl (by simp [Value.oneCell']) _) (ys := [(numW x93).getD 0]) (⟨_, _, rfl, rfl, Reads.nil⟩) rfl (by (simp only [List.length_append, List.length_cons, List.length_nil]; have := split_len s; omega)) (fun _ _ _ => trivial) ?_
                intro v121 ch122 h123 R124 s125 nn126
                obtain ⟨a127, n128, rfl⟩ := R124.form
                have s129 := (s125.front 0 rfl).drop
                refine Op.px 1 [(80, .pointer (some ⟨b56, 7, none⟩))] ?_
                refine Op.s1 44 (.tmp 80) (.tmp 79) 7 (.slice a127 ((st.Keeps ++ ([(numW x93).getD 0])).length) n128) 0 #[.int .i64 st.Kind, .int .i64 st.Role, .int .i64 st.K, .int .i64 st.Power, .int .i64 st.Node.Role, .int .i64 st.Node.N, .slice a113 st.Data.length n114, .slice a127 ((st.Keeps ++ ([(numW x93).getD 0])).length) n128] s129 (fun _ => trivial) ?_
                intro h130 s131
                refine Op.gt 28 ?_
                refine At.rp 3 1 [(81, .int .i64 at_)] ?_
                refine Op.v64 82 (at_ + 1) (by omega) (by (have := split_len s; omega)) ?_
                refine Op.pg 23 [(9, .int .i64 (at_ + 1))] ?_
                obtain ⟨c132, o133, s134⟩ := St.pack (Q := IsStep g b56 (⟨st.Kind, st.Role, st.K, st.Power, ⟨st.Node.Role, st.Node.N⟩, st.Data, st.Keeps ++ ([(numW x93).getD 0])⟩ : Step)) 3 s131 ⟨_, _, _, _, rfl, R111, R124⟩
                refine At.kp [(2, .pointer (some ⟨b20, 0, none⟩)), (4, .slice (some ⟨b47, o48, none⟩) ((splitOn 32 s).length) n29), (7, .pointer (some ⟨b56, 0, none⟩)), (8, .string (mkS (formsL.getD (0 + (k : Int).toNat * 2 + 1) []))), (9, .int .i64 (at_ + 1)), (10, .bool ((numW x93).isSome)), (11, .int .i64 i)] ?_
                exact ih23  (⟨st.Kind, st.Role, st.K, st.Power, ⟨st.Node.Role, st.Node.N⟩, st.Data, st.Keeps ++ ([(numW x93).getD 0])⟩ : Step) (at_ + 1) ((numW x93).isSome) _ _ (by omega) (by omega) (by omega) (by (simp only [List.length_append, List.length_cons, List.length_nil]; omega)) (by exact kepI_step hK (by assumption) (by omega) hx94) o133 s134
               ·refine At.rp 3 1 [(53, .int .i64 i)] ?_
                refine Op.v64 54 (i + 1) (by omega) (by (have := cmdF_len (k := k) ⟨k0, by omega⟩; omega)) ?_
                refine Op.pg 19 [(11, .int .i64 (i + 1))] ?_
                refine At.kp [(2, .pointer (some ⟨b20, 0, none⟩)), (4, .slice (some ⟨b47, o48, none⟩) ((splitOn 32 s).length) n29), (7, .pointer (some ⟨b56, 0, none⟩)), (8, .string (mkS (formsL.getD (0 + (k : Int).toNat * 2 + 1) []))), (9, .int .i64 at_), (10, .bool ok2), (11, .int .i64 (i + 1))] ?_
                exact ih19  st at_ ok2 (i + 1) _ _ (by omega) (by omega) (by omega) (by omega) (by omega) (by exact kepI_end hK (fun q => by have h9 := c92; rw [q.2] at h9; cases h9) (by omega)) o86 s87
              ·replace c90 := of_decide_eq_false c90
               refine Op.pg 24 [(65, .bool false)] ?_
               refine At.ifF 65 53 ?_
               refine At.rp 3 1 [(53, .int .i64 i)] ?_
               refine Op.v64 54 (i + 1) (by omega) (by (have := cmdF_len (k := k) ⟨k0, by omega⟩; omega)) ?_
               refine Op.pg 19 [(11, .int .i64 (i + 1))] ?_
               refine At.kp [(2, .pointer (some ⟨b20, 0, none⟩)), (4, .slice (some ⟨b47, o48, none⟩) ((splitOn 32 s).length) n29), (7, .pointer (some ⟨b56, 0, none⟩)), (8, .string (mkS (formsL.getD (0 + (k : Int).toNat * 2 + 1) []))), (9, .int .i64 at_), (10, .bool ok2), (11, .int .i64 (i + 1))] ?_
               exact ih19  st at_ ok2 (i + 1) _ _ (by omega) (by omega) (by omega) (by omega) (by omega) (by exact kepI_end hK (fun q => c90 q.1) (by omega)) o86 s87
            refine At.kp [(2, .pointer (some ⟨b20, 0, none⟩)), (4, .slice (some ⟨b47, o48, none⟩) ((splitOn 32 s).length) n29), (7, .pointer (some ⟨b56, 0, none⟩)), (8, .string (mkS (formsL.getD (0 + (k : Int).toNat * 2 + 1) []))), (9, .int .i64 at_), (10, .bool ok), (11, .int .i64 i)] ?_
            exact loop23 _  st at_ ok _ _ (Nat.lt_succ_self _) (by omega) (by omega) (by omega) (by exact kepI_0 hL h0 hx82 (by assumption)) o74 s75
           ·replace c84 := neF c84
            have join52 : ∀ (m : Nat) (st : Step) (ok : Bool) (c135 : Chunk) (h138 : Heap) (hm : 0 < m) (hkl : st.Keeps.length ≤ at_ + 1) (hL : linI s (formsL.getD (0 + (k : Int).toNat * 2 + 1) []) (i + 1) (at_ + 1) st ok) (hal : at_ < (splitOn 32 s).length)  (o136 : IsStep g b56 st c135)   (s137 : St h g (ids []) g [c135, [(b36, Obj.cells #[.string (mkS ([97, 115, 107])), .string (mkS ([110, 104])), .string (mkS ([100, 101, 108, 105, 118, 101, 114])), .string (mkS ([107])), .string (mkS ([108, 111, 115, 101])), .string (mkS ([107])), .string (mkS ([99, 111, 112, 121])), .string (mkS ([107])), .string (mkS ([116, 105, 99, 107])), .string (mkS ([114, 110])), .string (mkS ([99, 114, 97, 115, 104])), .string (mkS ([114, 110, 112, 42])), .string (mkS ([115, 97, 121])), .string (mkS ([114, 110, 116, 107, 104, 42])), .string (mkS ([102, 97, 107, 101])), .string (mkS ([110, 112, 107, 42])), .string (mkS ([114, 97, 119])), .string (mkS ([114, 110, 104]))] 165 (0, 0))], ch26, [(b20, Obj.cells #[.int .i64 0, .int .i64 0, .int .i64 0, .int .i64 0, .int .i64 0, .int .i64 0, .slice none 0 0, .slice none 0 0] 94 (0, 0))]] h138), At (fctx Tryz.prog B 59 Tryz.f59 R) [] 52 [(2, .pointer (some ⟨b20, 0, none⟩)), (4, .slice (some ⟨b47, o48, none⟩) ((splitOn 32 s).length) n29), (7, .pointer (some ⟨b56, 0, none⟩)), (8, .string (mkS (formsL.getD (0 + (k : Int).toNat * 2 + 1) []))), (9, .int .i64 at_), (10, .bool ok), (11, .int .i64 i)] h138 := by
             intro m; induction m with
             | zero => intros; omega
             | succ m ih52 =>
              intro st ok c135 h138 hm hkl hL hal o136 s137
              refine At.rp 3 1 [(159, .int .i64 at_)] ?_
              refine Op.v64 160 (at_ + 1) (by omega) (by (have := split_len s; omega)) ?_
              refine Op.pg 53 [(9, .int .i64 (at_ + 1))] ?_
              refine At.rp 3 1 [(53, .int .i64 i)] ?_
              refine Op.v64 54 (i + 1) (by omega) (by (have := cmdF_len (k := k) ⟨k0, by omega⟩; omega)) ?_
              refine Op.pg 19 [(11, .int .i64 (i + 1))] ?_
              refine At.kp [(2, .pointer (some ⟨b20, 0, none⟩)), (4, .slice (some ⟨b47, o48, none⟩) ((splitOn 32 s).length) n29), (7, .pointer (some ⟨b56, 0, none⟩)), (8, .string (mkS (formsL.getD (0 + (k : Int).toNat * 2 + 1) []))), (9, .int .i64 (at_ + 1)), (10, .bool ok), (11, .int .i64 (i + 1))] ?_
              exact ih19  st (at_ + 1) ok (i + 1) _ _ (by omega) (by omega) (by omega) (by omega) (by omega) (by exact hL) o136 s137
            refine At.go 30 4 [(86, .bool (decide (at_ ≥ ((splitOn 32 s).length : Int))))] ?_
            refine At.if' (decide (at_ ≥ ((splitOn 32 s).length : Int))) 86 31 33 (fun c139 => ?_) (fun c140 => ?_)
            ·replace c139 := of_decide_eq_true c139
             refine At.rp 3 1 [(87, .agg #[.int .i64 0, .int .i64 0, .int .i64 0, .int .i64 0, .int .i64 0, .int .i64 0, .slice none 0 0, .slice none 0 0])] ?_
             refine Op.store (T := 94) (x := (.tmp 2)) (y := (.tmp 87)) (b := b20) (o := 0) (vs := [.int .i64 0, .int .i64 0, .int .i64 0, .int .i64 0, .int .i64 0, .int .i64 0, .slice none 0 0, .slice none 0 0]) (a? := true) (n := 8) (by kernel_rfl) (by kernel_rfl) (by kernel_rfl) (by kernel_rfl) rfl (by simp [Value.oneCell']) s75 3 rfl (Nat.le_of_ble_eq_true (by kernel_rfl)) (cs := #[.int .i64 0, .int .i64 0, .int .i64 0, .int .i64 0, .int .i64 0, .int .i64 0, .slice none 0 0, .slice none 0 0]) (cs' := #[.int .i64 0, .int .i64 0, .int .i64 0, .int .i64 0, .int .i64 0, .int .i64 0, .slice none 0 0, .slice none 0 0]) (by kernel_rfl) (fun _ => trivial) ?_
             intro h141 s142
             refine Op.pg 32 [(3, .bool false)] ?_
             have R143 := Row.zero 5 kU8 g none
             have s144 := s142.nl
             have R145 := Row.zero 3 (kInt .i64) g none
             have s146 := s144.nl
             refine At.retM (f := Tryz.f59) (vs := [.agg #[.int .i64 0, .int .i64 0, .int .i64 0, .int .i64 0, .int .i64 0, .int .i64 0, .slice none 0 0, .slice none 0 0], .bool false]) (rl := [.cell 2 94, .tmp 3]) (v := .tuple #[.agg #[.int .i64 0, .int .i64 0, .int .i64 0, .int .i64 0, .int .i64 0, .int .i64 0, .slice none 0 0, .slice none 0 0], .bool false]) (by kernel_rfl) (by kernel_rfl) ⟨⟨_, _, rfl, resAgg (n := 8) (by kernel_rfl) (s146.chunk 5 rfl) (by kernel_rfl) rfl⟩, rfl, trivial⟩ rfl ?_
             have s147 := (((((s146.front 0 rfl).front 1 rfl).front 5 rfl).front 5 rfl).front 5 rfl).front 5 rfl
             have s148 := s147.drop.drop.drop.drop
             refine hR _ _ _ _ s148 ⟨(.slice none 0 0), [], (.slice none 0 0), [], ?_, ?_, ?_, rfl, rfl⟩
             ·exact eqT2 (by (rw [← (linI_nil hL (by assumption) h0 hx82 (by assumption) (by assumption)).1]; rfl)) (eqB (by exact (linI_nil hL (by assumption) h0 hx82 (by assumption) (by assumption)).2))
             ·exact rowEq R143 (by (rw [← (linI_nil hL (by assumption) h0 hx82 (by assumption) (by assumption)).1]; rfl))
             ·exact rowEq R145 (by (rw [← (linI_nil hL (by assumption) h0 hx82 (by assumption) (by assumption)).1]; rfl))
            ·replace c140 := of_decide_eq_false c140
             refine At.rp 3 2 [(88, .string (mkS (formsL.getD (0 + (k : Int).toNat * 2 + 1) []))), (89, .int .i64 i)] ?_
             refine Op.si 9 (.tmp 88) (.tmp 89) 90 (formsL.getD (0 + (k : Int).toNat * 2 + 1) []) i (by omega) hx82 ?_
             refine Op.gt 34 ?_
             refine At.go 35 2 [(91, .bool ((x81.toNat : Int) == (114 : Int)))] ?_
             refine At.if' ((x81.toNat : Int) == (114 : Int)) 91 36 37 (fun c151 => ?_) (fun c152 => ?_)
             ·replace c151 := eq_of_beq c151
              refine At.rp 12 2 [(94, .slice (some ⟨b47, o48, none⟩) ((splitOn 32 s).length) n29), (95, .int .i64 at_)] ?_
              obtain ⟨x153, hx154⟩ := getAt (l := splitOn 32 s) (i := at_) (by omega)
              obtain ⟨b155, o156, cu157, fz158, ha159, hb160, hk161⟩ := SlH.at_ (R27.toH s75 2 rfl) _ hx154
              cases ha159
              refine Op.ix 54 9 1 16 ((splitOn 32 s).length) n29 (.tmp 94) (.tmp 95) 96 b47 o48 at_ (by omega) (by omega) ?_
              replace hk161 : cut _ _ _ = [.string (mkS x153)] := hk161
              refine Op.ld (n := 1) 9 (.tmp 96) 97 (o48 + (at_ : Int).toNat * 1) (.string (mkS x153)) hb160 ?_ (hv := (cut_get hk161 0 rfl))
              refine Op.c1 98 (roleR _ _ _ s75.sub hG x153  ) s75 ?_
              intro h162 s163
              refine Op.px 5 [(99, .int .i64 ((roleW x153).getD 0)), (100, .bool ((roleW x153).isSome)), (102, .pointer (some ⟨b56, 4, none⟩))] ?_
              obtain ⟨v166, c167, v168, c169, e170, R171, R172⟩ := o74
              obtain ⟨a173, n174, rfl⟩ := R171.form
              obtain ⟨a175, n176, rfl⟩ := R172.form
              have s177 : St h g (ids []) g [[(b56, Obj.cells #[.int .i64 st.Kind, .int .i64 st.Role, .int .i64 st.K, .int .i64 st.Power, .int .i64 st.Node.Role, .int .i64 st.Node.N, .slice a173 st.Data.length n174, .slice a175 st.Keeps.length n176] 94 (0, 0))], c167, c169, [(b36, Obj.cells #[.string (mkS ([97, 115, 107])), .string (mkS ([110, 104])), .string (mkS ([100, 101, 108, 105, 118, 101, 114])), .string (mkS ([107])), .string (mkS ([108, 111, 115, 101])), .string (mkS ([107])), .string (mkS ([99, 111, 112, 121])), .string (mkS ([107])), .string (mkS ([116, 105, 99, 107])), .string (mkS ([114, 110])), .string (mkS ([99, 114, 97, 115, 104])), .string (mkS ([114, 110, 112, 42])), .string (mkS ([115, 97, 121])), .string (mkS ([114, 110, 116, 107, 104, 42])), .string (mkS ([102, 97, 107, 101])), .string (mkS ([110, 112, 107, 42])), .string (mkS ([114, 97, 119])), .string (mkS ([114, 110, 104]))] 165 (0, 0))], ch26, [(b20, Obj.cells #[.int .i64 0, .int .i64 0, .int .i64 0, .int .i64 0, .int .i64 0, .int .i64 0, .slice none 0 0, .slice none 0 0] 94 (0, 0))]] h162 := St.flat (L := [c73, [(b36, Obj.cells #[.string (mkS ([97, 115, 107])), .string (mkS ([110, 104])), .string (mkS ([100, 101, 108, 105, 118, 101, 114])), .string (mkS ([107])), .string (mkS ([108, 111, 115, 101])), .string (mkS ([107])), .string (mkS ([99, 111, 112, 121])), .string (mkS ([107])), .string (mkS ([116, 105, 99, 107])), .string (mkS ([114, 110])), .string (mkS ([99, 114, 97, 115, 104])), .string (mkS ([114, 110, 112, 42])), .string (mkS ([115, 97, 121])), .string (mkS ([114, 110, 116, 107, 104, 42])), .string (mkS ([102, 97, 107, 101])), .string (mkS ([110, 112, 107, 42])), .string (mkS ([114, 97, 119])), .string (mkS ([114, 110, 104]))] 165 (0, 0))], ch26, [(b20, Obj.cells #[.int .i64 0, .int .i64 0, .int .i64 0, .int .i64 0, .int .i64 0, .int .i64 0, .slice none 0 0, .slice none 0 0] 94 (0, 0))]]) (by rw [e170]; simp only [List.flatten_cons, List.append_assoc, List.cons_append, List.nil_append, List.append_nil]) s163
              refine Op.s1 3 (.tmp 102) (.tmp 99) 4 (.int .i64 ((roleW x153).getD 0)) 0 #[.int .i64 st.Kind, .int .i64 st.Role, .int .i64 st.K, .int .i64 st.Power, .int .i64 ((roleW x153).getD 0), .int .i64 st.Node.N, .slice a173 st.Data.length n174, .slice a175 st.Keeps.length n176] s177 (fun _ => trivial) ?_
              intro h178 s179
              refine Op.pg 52 [(10, .bool ((roleW x153).isSome))] ?_
              obtain ⟨c180, o181, s182⟩ := St.pack (Q := IsStep g b56 (⟨st.Kind, st.Role, st.K, st.Power, ⟨(roleW x153).getD 0, st.Node.N⟩, st.Data, st.Keeps⟩ : Step)) 3 s179 ⟨_, _, _, _, rfl, R171, R172⟩
              refine At.kp [(2, .pointer (some ⟨b20, 0, none⟩)), (4, .slice (some ⟨b47, o48, none⟩) ((splitOn 32 s).length) n29), (7, .pointer (some ⟨b56, 0, none⟩)), (8, .string (mkS (formsL.getD (0 + (k : Int).toNat * 2 + 1) []))), (9, .int .i64 at_), (10, .bool ((roleW x153).isSome)), (11, .int .i64 i)] ?_
              exact join52 _  (⟨st.Kind, st.Role, st.K, st.Power, ⟨(roleW x153).getD 0, st.Node.N⟩, st.Data, st.Keeps⟩ : Step) ((roleW x153).isSome) _ _ (Nat.lt_succ_self _) (by (simp only [List.length_append, List.length_cons, List.length_nil]; have := split_len s; omega)) (by exact linI_set hL (by assumption) h0 (by omega) hx82 (by assumption) hx154 (set_r (by assumption))) (by omega) o181 s182
             ·replace c152 := neF c152
              refine At.go 38 2 [(103, .bool ((x81.toNat : Int) == (110 : Int)))] ?_
              refine At.if' ((x81.toNat : Int) == (110 : Int)) 103 39 40 (fun c183 => ?_) (fun c184 => ?_)
              ·replace c183 := eq_of_beq c183
               refine At.rp 12 2 [(106, .slice (some ⟨b47, o48, none⟩) ((splitOn 32 s).length) n29), (107, .int .i64 at_)] ?_
               obtain ⟨x185, hx186⟩ := getAt (l := splitOn 32 s) (i := at_) (by omega)
               obtain ⟨b187, o188, cu189, fz190, ha191, hb192, hk193⟩ := SlH.at_ (R27.toH s75 2 rfl) _ hx186
               cases ha191
               refine Op.ix 54 9 1 16 ((splitOn 32 s).length) n29 (.tmp 106) (.tmp 107) 108 b47 o48 at_ (by omega) (by omega) ?_
               replace hk193 : cut _ _ _ = [.string (mkS x185)] := hk193
               refine Op.ld (n := 1) 9 (.tmp 108) 109 (o48 + (at_ : Int).toNat * 1) (.string (mkS x185)) hb192 ?_ (hv := (cut_get hk193 0 rfl))
               refine Op.c1 110 (numberR _ _ _ s75.sub hG x185 (by ((try dsimp only) <;> ((have := split_el hx186; omega)))) ) s75 ?_
               intro h194 s195
               refine Op.px 5 [(111, .int .i64 ((numW x185).getD 0)), (112, .bool ((numW x185).isSome)), (114, .pointer (some ⟨b56, 5, none⟩))] ?_
               obtain ⟨v198, c199, v200, c201, e202, R203, R204⟩ := o74
               obtain ⟨a205, n206, rfl⟩ := R203.form
               obtain ⟨a207, n208, rfl⟩ := R204.form
               have s209 : St h g (ids []) g [[(b56, Obj.cells #[.int .i64 st.Kind, .int .i64 st.Role, .int .i64 st.K, .int .i64 st.Power, .int .i64 st.Node.Role, .int .i64 st.Node.N, .slice a205 st.Data.length n206, .slice a207 st.Keeps.length n208] 94 (0, 0))], c199, c201, [(b36, Obj.cells #[.string (mkS ([97, 115, 107])), .string (mkS ([110, 104])), .string (mkS ([100, 101, 108, 105, 118, 101, 114])), .string (mkS ([107])), .string (mkS ([108, 111, 115, 101])), .string (mkS ([107])), .string (mkS ([99, 111, 112, 121])), .string (mkS ([107])), .string (mkS ([116, 105, 99, 107])), .string (mkS ([114, 110])), .string (mkS ([99, 114, 97, 115, 104])), .string (mkS ([114, 110, 112, 42])), .string (mkS ([115, 97, 121])), .string (mkS ([114, 110, 116, 107, 104, 42])), .string (mkS ([102, 97, 107, 101])), .string (mkS ([110, 112, 107, 42])), .string (mkS ([114, 97, 119])), .string (mkS ([114, 110, 104]))] 165 (0, 0))], ch26, [(b20, Obj.cells #[.int .i64 0, .int .i64 0, .int .i64 0, .int .i64 0, .int .i64 0, .int .i64 0, .slice none 0 0, .slice none 0 0] 94 (0, 0))]] h194 := St.flat (L := [c73, [(b36, Obj.cells #[.string (mkS ([97, 115, 107])), .string (mkS ([110, 104])), .string (mkS ([100, 101, 108, 105, 118, 101, 114])), .string (mkS ([107])), .string (mkS ([108, 111, 115, 101])), .string (mkS ([107])), .string (mkS ([99, 111, 112, 121])), .string (mkS ([107])), .string (mkS ([116, 105, 99, 107])), .string (mkS ([114, 110])), .string (mkS ([99, 114, 97, 115, 104])), .string (mkS ([114, 110, 112, 42])), .string (mkS ([115, 97, 121])), .string (mkS ([114, 110, 116, 107, 104, 42])), .string (mkS ([102, 97, 107, 101])), .string (mkS ([110, 112, 107, 42])), .string (mkS ([114, 97, 119])), .string (mkS ([114, 110, 104]))] 165 (0, 0))], ch26, [(b20, Obj.cells #[.int .i64 0, .int .i64 0, .int .i64 0, .int .i64 0, .int .i64 0, .int .i64 0, .slice none 0 0, .slice none 0 0] 94 (0, 0))]]) (by rw [e202]; simp only [List.flatten_cons, List.append_assoc, List.cons_append, List.nil_append, List.append_nil]) s195
               refine Op.s1 3 (.tmp 114) (.tmp 111) 5 (.int .i64 ((numW x185).getD 0)) 0 #[.int .i64 st.Kind, .int .i64 st.Role, .int .i64 st.K, .int .i64 st.Power, .int .i64 st.Node.Role, .int .i64 ((numW x185).getD 0), .slice a205 st.Data.length n206, .slice a207 st.Keeps.length n208] s209 (fun _ => trivial) ?_
               intro h210 s211
               refine Op.pg 52 [(10, .bool ((numW x185).isSome))] ?_
               obtain ⟨c212, o213, s214⟩ := St.pack (Q := IsStep g b56 (⟨st.Kind, st.Role, st.K, st.Power, ⟨st.Node.Role, (numW x185).getD 0⟩, st.Data, st.Keeps⟩ : Step)) 3 s211 ⟨_, _, _, _, rfl, R203, R204⟩
               refine At.kp [(2, .pointer (some ⟨b20, 0, none⟩)), (4, .slice (some ⟨b47, o48, none⟩) ((splitOn 32 s).length) n29), (7, .pointer (some ⟨b56, 0, none⟩)), (8, .string (mkS (formsL.getD (0 + (k : Int).toNat * 2 + 1) []))), (9, .int .i64 at_), (10, .bool ((numW x185).isSome)), (11, .int .i64 i)] ?_
               exact join52 _  (⟨st.Kind, st.Role, st.K, st.Power, ⟨st.Node.Role, (numW x185).getD 0⟩, st.Data, st.Keeps⟩ : Step) ((numW x185).isSome) _ _ (Nat.lt_succ_self _) (by (simp only [List.length_append, List.length_cons, List.length_nil]; have := split_len s; omega)) (by exact linI_set hL (by assumption) h0 (by omega) hx82 (by assumption) hx186 (set_n (by assumption))) (by omega) o213 s214
              ·replace c184 := neF c184
               refine At.go 41 2 [(115, .bool ((x81.toNat : Int) == (116 : Int)))] ?_
               refine At.if' ((x81.toNat : Int) == (116 : Int)) 115 42 43 (fun c215 => ?_) (fun c216 => ?_)
               ·replace c215 := eq_of_beq c215
                refine At.rp 11 2 [(118, .slice (some ⟨b47, o48, none⟩) ((splitOn 32 s).length) n29), (119, .int .i64 at_)] ?_
                obtain ⟨x217, hx218⟩ := getAt (l := splitOn 32 s) (i := at_) (by omega)
                obtain ⟨b219, o220, cu221, fz222, ha223, hb224, hk225⟩ := SlH.at_ (R27.toH s75 2 rfl) _ hx218
                cases ha223
                refine Op.ix 54 9 1 16 ((splitOn 32 s).length) n29 (.tmp 118) (.tmp 119) 120 b47 o48 at_ (by omega) (by omega) ?_
                replace hk225 : cut _ _ _ = [.string (mkS x217)] := hk225
                refine Op.ld (n := 1) 9 (.tmp 120) 121 (o48 + (at_ : Int).toNat * 1) (.string (mkS x217)) hb224 ?_ (hv := (cut_get hk225 0 rfl))
                refine Op.c1 122 (roleR _ _ _ s75.sub hG x217  ) s75 ?_
                intro h226 s227
                refine Op.px 4 [(123, .int .i64 ((roleW x217).getD 0)), (124, .bool ((roleW x217).isSome)), (125, .pointer (some ⟨b56, 1, none⟩))] ?_
                obtain ⟨v230, c231, v232, c233, e234, R235, R236⟩ := o74
                obtain ⟨a237, n238, rfl⟩ := R235.form
                obtain ⟨a239, n240, rfl⟩ := R236.form
                have s241 : St h g (ids []) g [[(b56, Obj.cells #[.int .i64 st.Kind, .int .i64 st.Role, .int .i64 st.K, .int .i64 st.Power, .int .i64 st.Node.Role, .int .i64 st.Node.N, .slice a237 st.Data.length n238, .slice a239 st.Keeps.length n240] 94 (0, 0))], c231, c233, [(b36, Obj.cells #[.string (mkS ([97, 115, 107])), .string (mkS ([110, 104])), .string (mkS ([100, 101, 108, 105, 118, 101, 114])), .string (mkS ([107])), .string (mkS ([108, 111, 115, 101])), .string (mkS ([107])), .string (mkS ([99, 111, 112, 121])), .string (mkS ([107])), .string (mkS ([116, 105, 99, 107])), .string (mkS ([114, 110])), .string (mkS ([99, 114, 97, 115, 104])), .string (mkS ([114, 110, 112, 42])), .string (mkS ([115, 97, 121])), .string (mkS ([114, 110, 116, 107, 104, 42])), .string (mkS ([102, 97, 107, 101])), .string (mkS ([110, 112, 107, 42])), .string (mkS ([114, 97, 119])), .string (mkS ([114, 110, 104]))] 165 (0, 0))], ch26, [(b20, Obj.cells #[.int .i64 0, .int .i64 0, .int .i64 0, .int .i64 0, .int .i64 0, .int .i64 0, .slice none 0 0, .slice none 0 0] 94 (0, 0))]] h226 := St.flat (L := [c73, [(b36, Obj.cells #[.string (mkS ([97, 115, 107])), .string (mkS ([110, 104])), .string (mkS ([100, 101, 108, 105, 118, 101, 114])), .string (mkS ([107])), .string (mkS ([108, 111, 115, 101])), .string (mkS ([107])), .string (mkS ([99, 111, 112, 121])), .string (mkS ([107])), .string (mkS ([116, 105, 99, 107])), .string (mkS ([114, 110])), .string (mkS ([99, 114, 97, 115, 104])), .string (mkS ([114, 110, 112, 42])), .string (mkS ([115, 97, 121])), .string (mkS ([114, 110, 116, 107, 104, 42])), .string (mkS ([102, 97, 107, 101])), .string (mkS ([110, 112, 107, 42])), .string (mkS ([114, 97, 119])), .string (mkS ([114, 110, 104]))] 165 (0, 0))], ch26, [(b20, Obj.cells #[.int .i64 0, .int .i64 0, .int .i64 0, .int .i64 0, .int .i64 0, .int .i64 0, .slice none 0 0, .slice none 0 0] 94 (0, 0))]]) (by rw [e234]; simp only [List.flatten_cons, List.append_assoc, List.cons_append, List.nil_append, List.append_nil]) s227
                refine Op.s1 3 (.tmp 125) (.tmp 123) 1 (.int .i64 ((roleW x217).getD 0)) 0 #[.int .i64 st.Kind, .int .i64 ((roleW x217).getD 0), .int .i64 st.K, .int .i64 st.Power, .int .i64 st.Node.Role, .int .i64 st.Node.N, .slice a237 st.Data.length n238, .slice a239 st.Keeps.length n240] s241 (fun _ => trivial) ?_
                intro h242 s243
                refine Op.pg 52 [(10, .bool ((roleW x217).isSome))] ?_
                obtain ⟨c244, o245, s246⟩ := St.pack (Q := IsStep g b56 (⟨st.Kind, (roleW x217).getD 0, st.K, st.Power, ⟨st.Node.Role, st.Node.N⟩, st.Data, st.Keeps⟩ : Step)) 3 s243 ⟨_, _, _, _, rfl, R235, R236⟩
                refine At.kp [(2, .pointer (some ⟨b20, 0, none⟩)), (4, .slice (some ⟨b47, o48, none⟩) ((splitOn 32 s).length) n29), (7, .pointer (some ⟨b56, 0, none⟩)), (8, .string (mkS (formsL.getD (0 + (k : Int).toNat * 2 + 1) []))), (9, .int .i64 at_), (10, .bool ((roleW x217).isSome)), (11, .int .i64 i)] ?_
                exact join52 _  (⟨st.Kind, (roleW x217).getD 0, st.K, st.Power, ⟨st.Node.Role, st.Node.N⟩, st.Data, st.Keeps⟩ : Step) ((roleW x217).isSome) _ _ (Nat.lt_succ_self _) (by (simp only [List.length_append, List.length_cons, List.length_nil]; have := split_len s; omega)) (by exact linI_set hL (by assumption) h0 (by omega) hx82 (by assumption) hx218 (set_t (by assumption))) (by omega) o245 s246
               ·replace c216 := neF c216
                refine At.go 44 2 [(126, .bool ((x81.toNat : Int) == (107 : Int)))] ?_
                refine At.if' ((x81.toNat : Int) == (107 : Int)) 126 45 46 (fun c247 => ?_) (fun c248 => ?_)
                ·replace c247 := eq_of_beq c247
                 refine At.rp 11 2 [(129, .slice (some ⟨b47, o48, none⟩) ((splitOn 32 s).length) n29), (130, .int .i64 at_)] ?_
                 obtain ⟨x249, hx250⟩ := getAt (l := splitOn 32 s) (i := at_) (by omega)
                 obtain ⟨b251, o252, cu253, fz254, ha255, hb256, hk257⟩ := SlH.at_ (R27.toH s75 2 rfl) _ hx250
                 cases ha255
                 refine Op.ix 54 9 1 16 ((splitOn 32 s).length) n29 (.tmp 129) (.tmp 130) 131 b47 o48 at_ (by omega) (by omega) ?_
                 replace hk257 : cut _ _ _ = [.string (mkS x249)] := hk257
                 refine Op.ld (n := 1) 9 (.tmp 131) 132 (o48 + (at_ : Int).toNat * 1) (.string (mkS x249)) hb256 ?_ (hv := (cut_get hk257 0 rfl))
                 refine Op.c1 133 (numberR _ _ _ s75.sub hG x249 (by ((try dsimp only) <;> ((have := split_el hx250; omega)))) ) s75 ?_
                 intro h258 s259
                 refine Op.px 4 [(134, .int .i64 ((numW x249).getD 0)), (135, .bool ((numW x249).isSome)), (136, .pointer (some ⟨b56, 2, none⟩))] ?_
                 obtain ⟨v262, c263, v264, c265, e266, R267, R268⟩ := o74
                 obtain ⟨a269, n270, rfl⟩ := R267.form
                 obtain ⟨a271, n272, rfl⟩ := R268.form
                 have s273 : St h g (ids []) g [[(b56, Obj.cells #[.int .i64 st.Kind, .int .i64 st.Role, .int .i64 st.K, .int .i64 st.Power, .int .i64 st.Node.Role, .int .i64 st.Node.N, .slice a269 st.Data.length n270, .slice a271 st.Keeps.length n272] 94 (0, 0))], c263, c265, [(b36, Obj.cells #[.string (mkS ([97, 115, 107])), .string (mkS ([110, 104])), .string (mkS ([100, 101, 108, 105, 118, 101, 114])), .string (mkS ([107])), .string (mkS ([108, 111, 115, 101])), .string (mkS ([107])), .string (mkS ([99, 111, 112, 121])), .string (mkS ([107])), .string (mkS ([116, 105, 99, 107])), .string (mkS ([114, 110])), .string (mkS ([99, 114, 97, 115, 104])), .string (mkS ([114, 110, 112, 42])), .string (mkS ([115, 97, 121])), .string (mkS ([114, 110, 116, 107, 104, 42])), .string (mkS ([102, 97, 107, 101])), .string (mkS ([110, 112, 107, 42])), .string (mkS ([114, 97, 119])), .string (mkS ([114, 110, 104]))] 165 (0, 0))], ch26, [(b20, Obj.cells #[.int .i64 0, .int .i64 0, .int .i64 0, .int .i64 0, .int .i64 0, .int .i64 0, .slice none 0 0, .slice none 0 0] 94 (0, 0))]] h258 := St.flat (L := [c73, [(b36, Obj.cells #[.string (mkS ([97, 115, 107])), .string (mkS ([110, 104])), .string (mkS ([100, 101, 108, 105, 118, 101, 114])), .string (mkS ([107])), .string (mkS ([108, 111, 115, 101])), .string (mkS ([107])), .string (mkS ([99, 111, 112, 121])), .string (mkS ([107])), .string (mkS ([116, 105, 99, 107])), .string (mkS ([114, 110])), .string (mkS ([99, 114, 97, 115, 104])), .string (mkS ([114, 110, 112, 42])), .string (mkS ([115, 97, 121])), .string (mkS ([114, 110, 116, 107, 104, 42])), .string (mkS ([102, 97, 107, 101])), .string (mkS ([110, 112, 107, 42])), .string (mkS ([114, 97, 119])), .string (mkS ([114, 110, 104]))] 165 (0, 0))], ch26, [(b20, Obj.cells #[.int .i64 0, .int .i64 0, .int .i64 0, .int .i64 0, .int .i64 0, .int .i64 0, .slice none 0 0, .slice none 0 0] 94 (0, 0))]]) (by rw [e266]; simp only [List.flatten_cons, List.append_assoc, List.cons_append, List.nil_append, List.append_nil]) s259
                 refine Op.s1 3 (.tmp 136) (.tmp 134) 2 (.int .i64 ((numW x249).getD 0)) 0 #[.int .i64 st.Kind, .int .i64 st.Role, .int .i64 ((numW x249).getD 0), .int .i64 st.Power, .int .i64 st.Node.Role, .int .i64 st.Node.N, .slice a269 st.Data.length n270, .slice a271 st.Keeps.length n272] s273 (fun _ => trivial) ?_
                 intro h274 s275
                 refine Op.pg 52 [(10, .bool ((numW x249).isSome))] ?_
                 obtain ⟨c276, o277, s278⟩ := St.pack (Q := IsStep g b56 (⟨st.Kind, st.Role, (numW x249).getD 0, st.Power, ⟨st.Node.Role, st.Node.N⟩, st.Data, st.Keeps⟩ : Step)) 3 s275 ⟨_, _, _, _, rfl, R267, R268⟩
                 refine At.kp [(2, .pointer (some ⟨b20, 0, none⟩)), (4, .slice (some ⟨b47, o48, none⟩) ((splitOn 32 s).length) n29), (7, .pointer (some ⟨b56, 0, none⟩)), (8, .string (mkS (formsL.getD (0 + (k : Int).toNat * 2 + 1) []))), (9, .int .i64 at_), (10, .bool ((numW x249).isSome)), (11, .int .i64 i)] ?_
                 exact join52 _  (⟨st.Kind, st.Role, (numW x249).getD 0, st.Power, ⟨st.Node.Role, st.Node.N⟩, st.Data, st.Keeps⟩ : Step) ((numW x249).isSome) _ _ (Nat.lt_succ_self _) (by (simp only [List.length_append, List.length_cons, List.length_nil]; have := split_len s; omega)) (by exact linI_set hL (by assumption) h0 (by omega) hx82 (by assumption) hx250 (set_k (by assumption))) (by omega) o277 s278
                ·replace c248 := neF c248
                 refine At.go 47 2 [(137, .bool ((x81.toNat : Int) == (112 : Int)))] ?_
                 refine At.if' ((x81.toNat : Int) == (112 : Int)) 137 48 49 (fun c279 => ?_) (fun c280 => ?_)
                 ·replace c279 := eq_of_beq c279
                  refine At.rp 11 2 [(140, .slice (some ⟨b47, o48, none⟩) ((splitOn 32 s).length) n29), (141, .int .i64 at_)] ?_
                  obtain ⟨x281, hx282⟩ := getAt (l := splitOn 32 s) (i := at_) (by omega)
                  obtain ⟨b283, o284, cu285, fz286, ha287, hb288, hk289⟩ := SlH.at_ (R27.toH s75 2 rfl) _ hx282
                  cases ha287
                  refine Op.ix 54 9 1 16 ((splitOn 32 s).length) n29 (.tmp 140) (.tmp 141) 142 b47 o48 at_ (by omega) (by omega) ?_
                  replace hk289 : cut _ _ _ = [.string (mkS x281)] := hk289
                  refine Op.ld (n := 1) 9 (.tmp 142) 143 (o48 + (at_ : Int).toNat * 1) (.string (mkS x281)) hb288 ?_ (hv := (cut_get hk289 0 rfl))
                  refine Op.c1 144 (numberR _ _ _ s75.sub hG x281 (by ((try dsimp only) <;> ((have := split_el hx282; omega)))) ) s75 ?_
                  intro h290 s291
                  refine Op.px 4 [(145, .int .i64 ((numW x281).getD 0)), (146, .bool ((numW x281).isSome)), (147, .pointer (some ⟨b56, 3, none⟩))] ?_
                  obtain ⟨v294, c295, v296, c297, e298, R299, R300⟩ := o74
                  obtain ⟨a301, n302, rfl⟩ := R299.form
                  obtain ⟨a303, n304, rfl⟩ := R300.form
                  have s305 : St h g (ids []) g [[(b56, Obj.cells #[.int .i64 st.Kind, .int .i64 st.Role, .int .i64 st.K, .int .i64 st.Power, .int .i64 st.Node.Role, .int .i64 st.Node.N, .slice a301 st.Data.length n302, .slice a303 st.Keeps.length n304] 94 (0, 0))], c295, c297, [(b36, Obj.cells #[.string (mkS ([97, 115, 107])), .string (mkS ([110, 104])), .string (mkS ([100, 101, 108, 105, 118, 101, 114])), .string (mkS ([107])), .string (mkS ([108, 111, 115, 101])), .string (mkS ([107])), .string (mkS ([99, 111, 112, 121])), .string (mkS ([107])), .string (mkS ([116, 105, 99, 107])), .string (mkS ([114, 110])), .string (mkS ([99, 114, 97, 115, 104])), .string (mkS ([114, 110, 112, 42])), .string (mkS ([115, 97, 121])), .string (mkS ([114, 110, 116, 107, 104, 42])), .string (mkS ([102, 97, 107, 101])), .string (mkS ([110, 112, 107, 42])), .string (mkS ([114, 97, 119])), .string (mkS ([114, 110, 104]))] 165 (0, 0))], ch26, [(b20, Obj.cells #[.int .i64 0, .int .i64 0, .int .i64 0, .int .i64 0, .int .i64 0, .int .i64 0, .slice none 0 0, .slice none 0 0] 94 (0, 0))]] h290 := St.flat (L := [c73, [(b36, Obj.cells #[.string (mkS ([97, 115, 107])), .string (mkS ([110, 104])), .string (mkS ([100, 101, 108, 105, 118, 101, 114])), .string (mkS ([107])), .string (mkS ([108, 111, 115, 101])), .string (mkS ([107])), .string (mkS ([99, 111, 112, 121])), .string (mkS ([107])), .string (mkS ([116, 105, 99, 107])), .string (mkS ([114, 110])), .string (mkS ([99, 114, 97, 115, 104])), .string (mkS ([114, 110, 112, 42])), .string (mkS ([115, 97, 121])), .string (mkS ([114, 110, 116, 107, 104, 42])), .string (mkS ([102, 97, 107, 101])), .string (mkS ([110, 112, 107, 42])), .string (mkS ([114, 97, 119])), .string (mkS ([114, 110, 104]))] 165 (0, 0))], ch26, [(b20, Obj.cells #[.int .i64 0, .int .i64 0, .int .i64 0, .int .i64 0, .int .i64 0, .int .i64 0, .slice none 0 0, .slice none 0 0] 94 (0, 0))]]) (by rw [e298]; simp only [List.flatten_cons, List.append_assoc, List.cons_append, List.nil_append, List.append_nil]) s291
                  refine Op.s1 3 (.tmp 147) (.tmp 145) 3 (.int .i64 ((numW x281).getD 0)) 0 #[.int .i64 st.Kind, .int .i64 st.Role, .int .i64 st.K, .int .i64 ((numW x281).getD 0), .int .i64 st.Node.Role, .int .i64 st.Node.N, .slice a301 st.Data.length n302, .slice a303 st.Keeps.length n304] s305 (fun _ => trivial) ?_
                  intro h306 s307
                  refine Op.pg 52 [(10, .bool ((numW x281).isSome))] ?_
                  obtain ⟨c308, o309, s310⟩ := St.pack (Q := IsStep g b56 (⟨st.Kind, st.Role, st.K, (numW x281).getD 0, ⟨st.Node.Role, st.Node.N⟩, st.Data, st.Keeps⟩ : Step)) 3 s307 ⟨_, _, _, _, rfl, R299, R300⟩
                  refine At.kp [(2, .pointer (some ⟨b20, 0, none⟩)), (4, .slice (some ⟨b47, o48, none⟩) ((splitOn 32 s).length) n29), (7, .pointer (some ⟨b56, 0, none⟩)), (8, .string (mkS (formsL.getD (0 + (k : Int).toNat * 2 + 1) []))), (9, .int .i64 at_), (10, .bool ((numW x281).isSome)), (11, .int .i64 i)] ?_
                  exact join52 _  (⟨st.Kind, st.Role, st.K, (numW x281).getD 0, ⟨st.Node.Role, st.Node.N⟩, st.Data, st.Keeps⟩ : Step) ((numW x281).isSome) _ _ (Nat.lt_succ_self _) (by (simp only [List.length_append, List.length_cons, List.length_nil]; have := split_len s; omega)) (by exact linI_set hL (by assumption) h0 (by omega) hx82 (by assumption) hx282 (set_p (by assumption))) (by omega) o309 s310
                 ·replace c280 := neF c280
                  refine At.go 50 2 [(148, .bool ((x81.toNat : Int) == (104 : Int)))] ?_
                  refine At.if' ((x81.toNat : Int) == (104 : Int)) 148 51 52 (fun c311 => ?_) (fun c312 => ?_)
                  ·replace c311 := eq_of_beq c311
                   refine At.rp 11 2 [(151, .slice (some ⟨b47, o48, none⟩) ((splitOn 32 s).length) n29), (152, .int .i64 at_)] ?_
                   obtain ⟨x313, hx314⟩ := getAt (l := splitOn 32 s) (i := at_) (by omega)
                   obtain ⟨b315, o316, cu317, fz318, ha319, hb320, hk321⟩ := SlH.at_ (R27.toH s75 2 rfl) _ hx314
                   cases ha319
                   refine Op.ix 54 9 1 16 ((splitOn 32 s).length) n29 (.tmp 151) (.tmp 152) 153 b47 o48 at_ (by omega) (by omega) ?_
                   replace hk321 : cut _ _ _ = [.string (mkS x313)] := hk321
                   refine Op.ld (n := 1) 9 (.tmp 153) 154 (o48 + (at_ : Int).toNat * 1) (.string (mkS x313)) hb320 ?_ (hv := (cut_get hk321 0 rfl))
                   refine Op.c0 (some 155) (unhexR _ _ _ s75.sub hG x313 (by ((try dsimp only) <;> ((have := split_el hx314; omega)))) ) s75 ?_
                   rintro _ g329 _ h322 hle330 s323 ⟨v324, ch325, rfl, R326, hgg, rfl⟩; subst g329; clear hle330
                   obtain ⟨a327, n328, rfl⟩ := R326.form
                   refine Op.px 4 [(156, .slice a327 (((unhexW x313).getD []).length) n328), (157, .bool ((unhexW x313).isSome)), (158, .pointer (some ⟨b56, 6, none⟩))] ?_
                   obtain ⟨v331, c332, v333, c334, e335, R336, R337⟩ := o74
                   obtain ⟨a338, n339, rfl⟩ := R336.form
                   obtain ⟨a340, n341, rfl⟩ := R337.form
                   have s342 := (s323.front 0 rfl).front 1 rfl
                   have s343 : St h g (ids []) g [[(b56, Obj.cells #[.int .i64 st.Kind, .int .i64 st.Role, .int .i64 st.K, .int .i64 st.Power, .int .i64 st.Node.Role, .int .i64 st.Node.N, .slice a338 st.Data.length n339, .slice a340 st.Keeps.length n341] 94 (0, 0))], c332, c334, ch325, [(b36, Obj.cells #[.string (mkS ([97, 115, 107])), .string (mkS ([110, 104])), .string (mkS ([100, 101, 108, 105, 118, 101, 114])), .string (mkS ([107])), .string (mkS ([108, 111, 115, 101])), .string (mkS ([107])), .string (mkS ([99, 111, 112, 121])), .string (mkS ([107])), .string (mkS ([116, 105, 99, 107])), .string (mkS ([114, 110])), .string (mkS ([99, 114, 97, 115, 104])), .string (mkS ([114, 110, 112, 42])), .string (mkS ([115, 97, 121])), .string (mkS ([114, 110, 116, 107, 104, 42])), .string (mkS ([102, 97, 107, 101])), .string (mkS ([110, 112, 107, 42])), .string (mkS ([114, 97, 119])), .string (mkS ([114, 110, 104]))] 165 (0, 0))], ch26, [(b20, Obj.cells #[.int .i64 0, .int .i64 0, .int .i64 0, .int .i64 0, .int .i64 0, .int .i64 0, .slice none 0 0, .slice none 0 0] 94 (0, 0))]] h322 := St.flat (L := [c73, ch325, [(b36, Obj.cells #[.string (mkS ([97, 115, 107])), .string (mkS ([110, 104])), .string (mkS ([100, 101, 108, 105, 118, 101, 114])), .string (mkS ([107])), .string (mkS ([108, 111, 115, 101])), .string (mkS ([107])), .string (mkS ([99, 111, 112, 121])), .string (mkS ([107])), .string (mkS ([116, 105, 99, 107])), .string (mkS ([114, 110])), .string (mkS ([99, 114, 97, 115, 104])), .string (mkS ([114, 110, 112, 42])), .string (mkS ([115, 97, 121])), .string (mkS ([114, 110, 116, 107, 104, 42])), .string (mkS ([102, 97, 107, 101])), .string (mkS ([110, 112, 107, 42])), .string (mkS ([114, 97, 119])), .string (mkS ([114, 110, 104]))] 165 (0, 0))], ch26, [(b20, Obj.cells #[.int .i64 0, .int .i64 0, .int .i64 0, .int .i64 0, .int .i64 0, .int .i64 0, .slice none 0 0, .slice none 0 0] 94 (0, 0))]]) (by rw [e335]; simp only [List.flatten_cons, List.append_assoc, List.cons_append, List.nil_append, List.append_nil]) s342
                   refine Op.s1 29 (.tmp 158) (.tmp 156) 6 (.slice a327 (((unhexW x313).getD []).length) n328) 0 #[.int .i64 st.Kind, .int .i64 st.Role, .int .i64 st.K, .int .i64 st.Power, .int .i64 st.Node.Role, .int .i64 st.Node.N, .slice a327 (((unhexW x313).getD []).length) n328, .slice a340 st.Keeps.length n341] s343 (fun _ => trivial) ?_
                   intro h344 s345
                   refine Op.pg 52 [(10, .bool ((unhexW x313).isSome))] ?_
                   have s346 := (((s345.front 1 rfl).front 2 rfl).front 3 rfl).front 3 rfl
                   obtain ⟨c347, o348, s349⟩ := St.pack (Q := IsStep g b56 (⟨st.Kind, st.Role, st.K, st.Power, ⟨st.Node.Role, st.Node.N⟩, (unhexW x313).getD [], st.Keeps⟩ : Step)) 3 s346 ⟨_, _, _, _, rfl, R326, R337⟩
                   refine At.kp [(2, .pointer (some ⟨b20, 0, none⟩)), (4, .slice (some ⟨b47, o48, none⟩) ((splitOn 32 s).length) n29), (7, .pointer (some ⟨b56, 0, none⟩)), (8, .string (mkS (formsL.getD (0 + (k : Int).toNat * 2 + 1) []))), (9, .int .i64 at_), (10, .bool ((unhexW x313).isSome)), (11, .int .i64 i)] ?_
                   have s350 := (s349.front 0 rfl).front 1 rfl
                   have s351 := s350.drop
                   exact join52 _  (⟨st.Kind, st.Role, st.K, st.Power, ⟨st.Node.Role, st.Node.N⟩, (unhexW x313).getD [], st.Keeps⟩ : Step) ((unhexW x313).isSome) _ _ (Nat.lt_succ_self _) (by (simp only [List.length_append, List.length_cons, List.length_nil]; have := split_len s; omega)) (by exact linI_set hL (by assumption) h0 (by omega) hx82 (by assumption) hx314 (set_h (by assumption))) (by omega) o348 s351
                  ·replace c312 := neF c312
                   refine At.kp [(2, .pointer (some ⟨b20, 0, none⟩)), (4, .slice (some ⟨b47, o48, none⟩) ((splitOn 32 s).length) n29), (7, .pointer (some ⟨b56, 0, none⟩)), (8, .string (mkS (formsL.getD (0 + (k : Int).toNat * 2 + 1) []))), (9, .int .i64 at_), (10, .bool ok), (11, .int .i64 i)] ?_
                   exact join52 _  st ok _ _ (Nat.lt_succ_self _) (by omega) (by (have h8 := linI_set hL (by assumption) h0 (by omega) hx82 (by assumption) (List.getElem?_eq_getElem (by omega)) (set_o (by assumption) (by assumption) (by assumption) (by assumption) (by assumption) (by assumption)); rw [← (show ok = true by assumption)] at h8; exact h8)) (by omega) o74 s75
          ·refine At.rg 10 ?_
           obtain ⟨v352, c353, v354, c355, e356, R357, R358⟩ := o74
           obtain ⟨a359, n360, rfl⟩ := R357.form
           obtain ⟨a361, n362, rfl⟩ := R358.form
           have s363 : St h g (ids []) g [[(b56, Obj.cells #[.int .i64 st.Kind, .int .i64 st.Role, .int .i64 st.K, .int .i64 st.Power, .int .i64 st.Node.Role, .int .i64 st.Node.N, .slice a359 st.Data.length n360, .slice a361 st.Keeps.length n362] 94 (0, 0))], c353, c355, [(b36, Obj.cells #[.string (mkS ([97, 115, 107])), .string (mkS ([110, 104])), .string (mkS ([100, 101, 108, 105, 118, 101, 114])), .string (mkS ([107])), .string (mkS ([108, 111, 115, 101])), .string (mkS ([107])), .string (mkS ([99, 111, 112, 121])), .string (mkS ([107])), .string (mkS ([116, 105, 99, 107])), .string (mkS ([114, 110])), .string (mkS ([99, 114, 97, 115, 104])), .string (mkS ([114, 110, 112, 42])), .string (mkS ([115, 97, 121])), .string (mkS ([114, 110, 116, 107, 104, 42])), .string (mkS ([102, 97, 107, 101])), .string (mkS ([110, 112, 107, 42])), .string (mkS ([114, 97, 119])), .string (mkS ([114, 110, 104]))] 165 (0, 0))], ch26, [(b20, Obj.cells #[.int .i64 0, .int .i64 0, .int .i64 0, .int .i64 0, .int .i64 0, .int .i64 0, .slice none 0 0, .slice none 0 0] 94 (0, 0))]] h76 := St.flat (L := [c73, [(b36, Obj.cells #[.string (mkS ([97, 115, 107])), .string (mkS ([110, 104])), .string (mkS ([100, 101, 108, 105, 118, 101, 114])), .string (mkS ([107])), .string (mkS ([108, 111, 115, 101])), .string (mkS ([107])), .string (mkS ([99, 111, 112, 121])), .string (mkS ([107])), .string (mkS ([116, 105, 99, 107])), .string (mkS ([114, 110])), .string (mkS ([99, 114, 97, 115, 104])), .string (mkS ([114, 110, 112, 42])), .string (mkS ([115, 97, 121])), .string (mkS ([114, 110, 116, 107, 104, 42])), .string (mkS ([102, 97, 107, 101])), .string (mkS ([110, 112, 107, 42])), .string (mkS ([114, 97, 119])), .string (mkS ([114, 110, 104]))] 165 (0, 0))], ch26, [(b20, Obj.cells #[.int .i64 0, .int .i64 0, .int .i64 0, .int .i64 0, .int .i64 0, .int .i64 0, .slice none 0 0, .slice none 0 0] 94 (0, 0))]]) (by rw [e356]; simp only [List.flatten_cons, List.append_assoc, List.cons_append, List.nil_append, List.append_nil]) s75
           refine Op.la 94 (.tmp 7) 161 0 8 [.int .i64 st.Kind, .int .i64 st.Role, .int .i64 st.K, .int .i64 st.Power, .int .i64 st.Node.Role, .int .i64 st.Node.N, .slice a359 st.Data.length n360, .slice a361 st.Keeps.length n362] (s363.chunk 0 rfl) ?_
           refine Op.px 2 [(163, .bool ok)] ?_
           refine Op.wb ok 163 (fun hb => ?_) (fun c364 => ?_)
           ·exact Bool.noConfusion (hb.symm.trans c80)
           ·refine Op.px 5 [(168, .bool false)] ?_
            refine Op.store (T := 94) (x := (.tmp 2)) (y := (.tmp 161)) (b := b20) (o := 0) (vs := [.int .i64 st.Kind, .int .i64 st.Role, .int .i64 st.K, .int .i64 st.Power, .int .i64 st.Node.Role, .int .i64 st.Node.N, .slice a359 st.Data.length n360, .slice a361 st.Keeps.length n362]) (a? := true) (n := 8) (by kernel_rfl) (by kernel_rfl) (by kernel_rfl) (by kernel_rfl) rfl (by simp [Value.oneCell']) s363 5 rfl (Nat.le_of_ble_eq_true (by kernel_rfl)) (cs := #[.int .i64 0, .int .i64 0, .int .i64 0, .int .i64 0, .int .i64 0, .int .i64 0, .slice none 0 0, .slice none 0 0]) (cs' := #[.int .i64 st.Kind, .int .i64 st.Role, .int .i64 st.K, .int .i64 st.Power, .int .i64 st.Node.Role, .int .i64 st.Node.N, .slice a359 st.Data.length n360, .slice a361 st.Keeps.length n362]) (by kernel_rfl) (fun _ => trivial) ?_
            intro h365 s366
            refine Op.pg 55 [(3, .bool false)] ?_
            refine At.retM (f := Tryz.f59) (vs := [.agg #[.int .i64 st.Kind, .int .i64 st.Role, .int .i64 st.K, .int .i64 st.Power, .int .i64 st.Node.Role, .int .i64 st.Node.N, .slice a359 st.Data.length n360, .slice a361 st.Keeps.length n362], .bool false]) (rl := [.cell 2 94, .tmp 3]) (v := .tuple #[.agg #[.int .i64 st.Kind, .int .i64 st.Role, .int .i64 st.K, .int .i64 st.Power, .int .i64 st.Node.Role, .int .i64 st.Node.N, .slice a359 st.Data.length n360, .slice a361 st.Keeps.length n362], .bool false]) (by kernel_rfl) (by kernel_rfl) ⟨⟨_, _, rfl, resAgg (n := 8) (by kernel_rfl) (s366.chunk 5 rfl) (by kernel_rfl) rfl⟩, rfl, trivial⟩ rfl ?_
            have s367 := (((((s366.front 2 rfl).front 2 rfl).front 5 rfl).front 5 rfl).front 5 rfl).front 5 rfl
            have s368 := s367.drop.drop.drop.drop
            refine hR _ _ _ _ s368 ⟨(.slice a359 st.Data.length n360), c353, (.slice a361 st.Keeps.length n362), c355, ?_, ?_, ?_, rfl, rfl⟩
            ·exact eqT2 (by (rw [← (linI_end hL (by first | exact (fun q => absurd q.1 (by assumption)) | exact (fun q => absurd (q.2.symm.trans (show ok = false by assumption)) (by decide))) (by omega) aL).1])) (eqB (by (have h8 := (linI_end hL (by first | exact (fun q => absurd q.1 (by assumption)) | exact (fun q => absurd (q.2.symm.trans (show ok = false by assumption)) (by decide))) (by omega) aL).2; rw [show ok = false by assumption] at h8; exact h8)))
            ·exact rowEq R357 (by (rw [← (linI_end hL (by first | exact (fun q => absurd q.1 (by assumption)) | exact (fun q => absurd (q.2.symm.trans (show ok = false by assumption)) (by decide))) (by omega) aL).1]))
            ·exact rowEq R358 (by (rw [← (linI_end hL (by first | exact (fun q => absurd q.1 (by assumption)) | exact (fun q => absurd (q.2.symm.trans (show ok = false by assumption)) (by decide))) (by omega) aL).1]))
         ·replace c78 := of_decide_eq_false c78
          refine Op.pg 20 [(52, .bool false)] ?_
          refine At.ifF 52 54 ?_
          refine At.rg 10 ?_
          obtain ⟨v369, c370, v371, c372, e373, R374, R375⟩ := o74
          obtain ⟨a376, n377, rfl⟩ := R374.form
          obtain ⟨a378, n379, rfl⟩ := R375.form
          have s380 : St h g (ids []) g [[(b56, Obj.cells #[.int .i64 st.Kind, .int .i64 st.Role, .int .i64 st.K, .int .i64 st.Power, .int .i64 st.Node.Role, .int .i64 st.Node.N, .slice a376 st.Data.length n377, .slice a378 st.Keeps.length n379] 94 (0, 0))], c370, c372, [(b36, Obj.cells #[.string (mkS ([97, 115, 107])), .string (mkS ([110, 104])), .string (mkS ([100, 101, 108, 105, 118, 101, 114])), .string (mkS ([107])), .string (mkS ([108, 111, 115, 101])), .string (mkS ([107])), .string (mkS ([99, 111, 112, 121])), .string (mkS ([107])), .string (mkS ([116, 105, 99, 107])), .string (mkS ([114, 110])), .string (mkS ([99, 114, 97, 115, 104])), .string (mkS ([114, 110, 112, 42])), .string (mkS ([115, 97, 121])), .string (mkS ([114, 110, 116, 107, 104, 42])), .string (mkS ([102, 97, 107, 101])), .string (mkS ([110, 112, 107, 42])), .string (mkS ([114, 97, 119])), .string (mkS ([114, 110, 104]))] 165 (0, 0))], ch26, [(b20, Obj.cells #[.int .i64 0, .int .i64 0, .int .i64 0, .int .i64 0, .int .i64 0, .int .i64 0, .slice none 0 0, .slice none 0 0] 94 (0, 0))]] h76 := St.flat (L := [c73, [(b36, Obj.cells #[.string (mkS ([97, 115, 107])), .string (mkS ([110, 104])), .string (mkS ([100, 101, 108, 105, 118, 101, 114])), .string (mkS ([107])), .string (mkS ([108, 111, 115, 101])), .string (mkS ([107])), .string (mkS ([99, 111, 112, 121])), .string (mkS ([107])), .string (mkS ([116, 105, 99, 107])), .string (mkS ([114, 110])), .string (mkS ([99, 114, 97, 115, 104])), .string (mkS ([114, 110, 112, 42])), .string (mkS ([115, 97, 121])), .string (mkS ([114, 110, 116, 107, 104, 42])), .string (mkS ([102, 97, 107, 101])), .string (mkS ([110, 112, 107, 42])), .string (mkS ([114, 97, 119])), .string (mkS ([114, 110, 104]))] 165 (0, 0))], ch26, [(b20, Obj.cells #[.int .i64 0, .int .i64 0, .int .i64 0, .int .i64 0, .int .i64 0, .int .i64 0, .slice none 0 0, .slice none 0 0] 94 (0, 0))]]) (by rw [e373]; simp only [List.flatten_cons, List.append_assoc, List.cons_append, List.nil_append, List.append_nil]) s75
          refine Op.la 94 (.tmp 7) 161 0 8 [.int .i64 st.Kind, .int .i64 st.Role, .int .i64 st.K, .int .i64 st.Power, .int .i64 st.Node.Role, .int .i64 st.Node.N, .slice a376 st.Data.length n377, .slice a378 st.Keeps.length n379] (s380.chunk 0 rfl) ?_
          refine Op.px 2 [(163, .bool ok)] ?_
          refine Op.wb ok 163 (fun c381 => ?_) (fun c382 => ?_)
          ·refine Op.px 5 [(168, .bool (at_ == ((splitOn 32 s).length : Int)))] ?_
           refine Op.store (T := 94) (x := (.tmp 2)) (y := (.tmp 161)) (b := b20) (o := 0) (vs := [.int .i64 st.Kind, .int .i64 st.Role, .int .i64 st.K, .int .i64 st.Power, .int .i64 st.Node.Role, .int .i64 st.Node.N, .slice a376 st.Data.length n377, .slice a378 st.Keeps.length n379]) (a? := true) (n := 8) (by kernel_rfl) (by kernel_rfl) (by kernel_rfl) (by kernel_rfl) rfl (by simp [Value.oneCell']) s380 5 rfl (Nat.le_of_ble_eq_true (by kernel_rfl)) (cs := #[.int .i64 0, .int .i64 0, .int .i64 0, .int .i64 0, .int .i64 0, .int .i64 0, .slice none 0 0, .slice none 0 0]) (cs' := #[.int .i64 st.Kind, .int .i64 st.Role, .int .i64 st.K, .int .i64 st.Power, .int .i64 st.Node.Role, .int .i64 st.Node.N, .slice a376 st.Data.length n377, .slice a378 st.Keeps.length n379]) (by kernel_rfl) (fun _ => trivial) ?_
           intro h383 s384
           refine Op.pg 55 [(3, .bool (at_ == ((splitOn 32 s).length : Int)))] ?_
           refine At.retM (f := Tryz.f59) (vs := [.agg #[.int .i64 st.Kind, .int .i64 st.Role, .int .i64 st.K, .int .i64 st.Power, .int .i64 st.Node.Role, .int .i64 st.Node.N, .slice a376 st.Data.length n377, .slice a378 st.Keeps.length n379], .bool (at_ == ((splitOn 32 s).length : Int))]) (rl := [.cell 2 94, .tmp 3]) (v := .tuple #[.agg #[.int .i64 st.Kind, .int .i64 st.Role, .int .i64 st.K, .int .i64 st.Power, .int .i64 st.Node.Role, .int .i64 st.Node.N, .slice a376 st.Data.length n377, .slice a378 st.Keeps.length n379], .bool (at_ == ((splitOn 32 s).length : Int))]) (by kernel_rfl) (by kernel_rfl) ⟨⟨_, _, rfl, resAgg (n := 8) (by kernel_rfl) (s384.chunk 5 rfl) (by kernel_rfl) rfl⟩, rfl, trivial⟩ rfl ?_
           have s385 := (((((s384.front 2 rfl).front 2 rfl).front 5 rfl).front 5 rfl).front 5 rfl).front 5 rfl
           have s386 := s385.drop.drop.drop.drop
           refine hR _ _ _ _ s386 ⟨(.slice a376 st.Data.length n377), c370, (.slice a378 st.Keeps.length n379), c372, ?_, ?_, ?_, rfl, rfl⟩
           ·exact eqT2 (by (rw [← (linI_end hL (by first | exact (fun q => absurd q.1 (by assumption)) | exact (fun q => absurd (q.2.symm.trans (show ok = false by assumption)) (by decide))) (by omega) aL).1])) (eqB (by (have h8 := (linI_end hL (by first | exact (fun q => absurd q.1 (by assumption)) | exact (fun q => absurd (q.2.symm.trans (show ok = false by assumption)) (by decide))) (by omega) aL).2; rw [show ok = true by assumption] at h8; exact h8)))
           ·exact rowEq R374 (by (rw [← (linI_end hL (by first | exact (fun q => absurd q.1 (by assumption)) | exact (fun q => absurd (q.2.symm.trans (show ok = false by assumption)) (by decide))) (by omega) aL).1]))
           ·exact rowEq R375 (by (rw [← (linI_end hL (by first | exact (fun q => absurd q.1 (by assumption)) | exact (fun q => absurd (q.2.symm.trans (show ok = false by assumption)) (by decide))) (by omega) aL).1]))
          ·refine Op.px 5 [(168, .bool false)] ?_
           refine Op.store (T := 94) (x := (.tmp 2)) (y := (.tmp 161)) (b := b20) (o := 0) (vs := [.int .i64 st.Kind, .int .i64 st.Role, .int .i64 st.K, .int .i64 st.Power, .int .i64 st.Node.Role, .int .i64 st.Node.N, .slice a376 st.Data.length n377, .slice a378 st.Keeps.length n379]) (a? := true) (n := 8) (by kernel_rfl) (by kernel_rfl) (by kernel_rfl) (by kernel_rfl) rfl (by simp [Value.oneCell']) s380 5 rfl (Nat.le_of_ble_eq_true (by kernel_rfl)) (cs := #[.int .i64 0, .int .i64 0, .int .i64 0, .int .i64 0, .int .i64 0, .int .i64 0, .slice none 0 0, .slice none 0 0]) (cs' := #[.int .i64 st.Kind, .int .i64 st.Role, .int .i64 st.K, .int .i64 st.Power, .int .i64 st.Node.Role, .int .i64 st.Node.N, .slice a376 st.Data.length n377, .slice a378 st.Keeps.length n379]) (by kernel_rfl) (fun _ => trivial) ?_
           intro h387 s388
           refine Op.pg 55 [(3, .bool false)] ?_
           refine At.retM (f := Tryz.f59) (vs := [.agg #[.int .i64 st.Kind, .int .i64 st.Role, .int .i64 st.K, .int .i64 st.Power, .int .i64 st.Node.Role, .int .i64 st.Node.N, .slice a376 st.Data.length n377, .slice a378 st.Keeps.length n379], .bool false]) (rl := [.cell 2 94, .tmp 3]) (v := .tuple #[.agg #[.int .i64 st.Kind, .int .i64 st.Role, .int .i64 st.K, .int .i64 st.Power, .int .i64 st.Node.Role, .int .i64 st.Node.N, .slice a376 st.Data.length n377, .slice a378 st.Keeps.length n379], .bool false]) (by kernel_rfl) (by kernel_rfl) ⟨⟨_, _, rfl, resAgg (n := 8) (by kernel_rfl) (s388.chunk 5 rfl) (by kernel_rfl) rfl⟩, rfl, trivial⟩ rfl ?_
           have s389 := (((((s388.front 2 rfl).front 2 rfl).front 5 rfl).front 5 rfl).front 5 rfl).front 5 rfl
           have s390 := s389.drop.drop.drop.drop
           refine hR _ _ _ _ s390 ⟨(.slice a376 st.Data.length n377), c370, (.slice a378 st.Keeps.length n379), c372, ?_, ?_, ?_, rfl, rfl⟩
           ·exact eqT2 (by (rw [← (linI_end hL (by first | exact (fun q => absurd q.1 (by assumption)) | exact (fun q => absurd (q.2.symm.trans (show ok = false by assumption)) (by decide))) (by omega) aL).1])) (eqB (by (have h8 := (linI_end hL (by first | exact (fun q => absurd q.1 (by assumption)) | exact (fun q => absurd (q.2.symm.trans (show ok = false by assumption)) (by decide))) (by omega) aL).2; rw [show ok = false by assumption] at h8; exact h8)))
           ·exact rowEq R374 (by (rw [← (linI_end hL (by first | exact (fun q => absurd q.1 (by assumption)) | exact (fun q => absurd (q.2.symm.trans (show ok = false by assumption)) (by decide))) (by omega) aL).1]))
           ·exact rowEq R375 (by (rw [← (linI_end hL (by first | exact (fun q => absurd q.1 (by assumption)) | exact (fun q => absurd (q.2.symm.trans (show ok = false by assumption)) (by decide))) (by omega) aL).1]))
       refine At.kp [(2, .pointer (some ⟨b20, 0, none⟩)), (4, .slice (some ⟨b47, o48, none⟩) ((splitOn 32 s).length) n29), (7, .pointer (some ⟨b56, 0, none⟩)), (8, .string (mkS (formsL.getD (0 + (k : Int).toNat * 2 + 1) []))), (9, .int .i64 1), (10, .bool true), (11, .int .i64 0)] ?_
       exact loop19 _  st 1 true 0 _ _ (Nat.lt_succ_self _) (by omega) (by omega) (by (have := split_ne s; omega)) (by (rw [hst]; show ((([] : List Int).length : Int)) ≤ 1; decide)) (by (obtain ⟨w, hw, hc⟩ := hw0; exact linI_0 hw hc hst (cmdF_eq _))) o70 s71
     refine At.rp 3 1 [(32, .pointer (some ⟨b56, 0, none⟩))] ?_
     obtain ⟨v391, c392, v393, c394, e395, R396, R397⟩ := o67
     obtain ⟨a398, n399, rfl⟩ := R396.form
     obtain ⟨a400, n401, rfl⟩ := R397.form
     have s402 : St h g (ids []) g [[(b56, Obj.cells #[.int .i64 ((⟨k + 1, 0, 0, 0, ⟨0, 0⟩, ([] : List UInt8), ([] : List Int)⟩ : Step).Kind), .int .i64 ((⟨k + 1, 0, 0, 0, ⟨0, 0⟩, ([] : List UInt8), ([] : List Int)⟩ : Step).Role), .int .i64 ((⟨k + 1, 0, 0, 0, ⟨0, 0⟩, ([] : List UInt8), ([] : List Int)⟩ : Step).K), .int .i64 ((⟨k + 1, 0, 0, 0, ⟨0, 0⟩, ([] : List UInt8), ([] : List Int)⟩ : Step).Power), .int .i64 ((⟨k + 1, 0, 0, 0, ⟨0, 0⟩, ([] : List UInt8), ([] : List Int)⟩ : Step).Node.Role), .int .i64 ((⟨k + 1, 0, 0, 0, ⟨0, 0⟩, ([] : List UInt8), ([] : List Int)⟩ : Step).Node.N), .slice a398 (((⟨k + 1, 0, 0, 0, ⟨0, 0⟩, ([] : List UInt8), ([] : List Int)⟩ : Step).Data).length) n399, .slice a400 (((⟨k + 1, 0, 0, 0, ⟨0, 0⟩, ([] : List UInt8), ([] : List Int)⟩ : Step).Keeps).length) n401] 94 (0, 0))], c392, c394, [(b36, Obj.cells #[.string (mkS ([97, 115, 107])), .string (mkS ([110, 104])), .string (mkS ([100, 101, 108, 105, 118, 101, 114])), .string (mkS ([107])), .string (mkS ([108, 111, 115, 101])), .string (mkS ([107])), .string (mkS ([99, 111, 112, 121])), .string (mkS ([107])), .string (mkS ([116, 105, 99, 107])), .string (mkS ([114, 110])), .string (mkS ([99, 114, 97, 115, 104])), .string (mkS ([114, 110, 112, 42])), .string (mkS ([115, 97, 121])), .string (mkS ([114, 110, 116, 107, 104, 42])), .string (mkS ([102, 97, 107, 101])), .string (mkS ([110, 112, 107, 42])), .string (mkS ([114, 97, 119])), .string (mkS ([114, 110, 104]))] 165 (0, 0))], ch26, [(b20, Obj.cells #[.int .i64 0, .int .i64 0, .int .i64 0, .int .i64 0, .int .i64 0, .int .i64 0, .slice none 0 0, .slice none 0 0] 94 (0, 0))]] h59 := St.flat (L := [c66, [(b36, Obj.cells #[.string (mkS ([97, 115, 107])), .string (mkS ([110, 104])), .string (mkS ([100, 101, 108, 105, 118, 101, 114])), .string (mkS ([107])), .string (mkS ([108, 111, 115, 101])), .string (mkS ([107])), .string (mkS ([99, 111, 112, 121])), .string (mkS ([107])), .string (mkS ([116, 105, 99, 107])), .string (mkS ([114, 110])), .string (mkS ([99, 114, 97, 115, 104])), .string (mkS ([114, 110, 112, 42])), .string (mkS ([115, 97, 121])), .string (mkS ([114, 110, 116, 107, 104, 42])), .string (mkS ([102, 97, 107, 101])), .string (mkS ([110, 112, 107, 42])), .string (mkS ([114, 97, 119])), .string (mkS ([114, 110, 104]))] 165 (0, 0))], ch26, [(b20, Obj.cells #[.int .i64 0, .int .i64 0, .int .i64 0, .int .i64 0, .int .i64 0, .int .i64 0, .slice none 0 0, .slice none 0 0] 94 (0, 0))]]) (by rw [e395]; simp only [List.flatten_cons, List.append_assoc, List.cons_append, List.nil_append, List.append_nil]) s68
     refine Op.ld (n := 1) 3 (.tmp 32) 33 0 (.int .i64 ((⟨k + 1, 0, 0, 0, ⟨0, 0⟩, ([] : List UInt8), ([] : List Int)⟩ : Step).Kind)) (s402.chunk 0 rfl) ?_
     refine Op.pg 10 [(34, .bool (((⟨k + 1, 0, 0, 0, ⟨0, 0⟩, ([] : List UInt8), ([] : List Int)⟩ : Step).Kind) == (1 : Int)))] ?_
     refine At.if' (((⟨k + 1, 0, 0, 0, ⟨0, 0⟩, ([] : List UInt8), ([] : List Int)⟩ : Step).Kind) == (1 : Int)) 34 11 12 (fun c403 => ?_) (fun c404 => ?_)
     ·replace c403 := eq_of_beq c403
      refine At.rp 3 2 [(36, .pointer (some ⟨b56, 4, none⟩))] ?_
      refine Op.s1 3 (.tmp 36) (.const (.int .i64 4)) 4 (.int .i64 4) 0 #[.int .i64 ((⟨k + 1, 0, 0, 0, ⟨0, 0⟩, ([] : List UInt8), ([] : List Int)⟩ : Step).Kind), .int .i64 ((⟨k + 1, 0, 0, 0, ⟨0, 0⟩, ([] : List UInt8), ([] : List Int)⟩ : Step).Role), .int .i64 ((⟨k + 1, 0, 0, 0, ⟨0, 0⟩, ([] : List UInt8), ([] : List Int)⟩ : Step).K), .int .i64 ((⟨k + 1, 0, 0, 0, ⟨0, 0⟩, ([] : List UInt8), ([] : List Int)⟩ : Step).Power), .int .i64 4, .int .i64 ((⟨k + 1, 0, 0, 0, ⟨0, 0⟩, ([] : List UInt8), ([] : List Int)⟩ : Step).Node.N), .slice a398 (((⟨k + 1, 0, 0, 0, ⟨0, 0⟩, ([] : List UInt8), ([] : List Int)⟩ : Step).Data).length) n399, .slice a400 (((⟨k + 1, 0, 0, 0, ⟨0, 0⟩, ([] : List UInt8), ([] : List Int)⟩ : Step).Keeps).length) n401] s402 (fun _ => trivial) ?_
      intro h405 s406
      refine Op.gt 12 ?_
      refine At.rp 3 1 [(37, .pointer (some ⟨b56, 0, none⟩))] ?_
      refine Op.ld (n := 1) 3 (.tmp 37) 38 0 (.int .i64 ((⟨k + 1, 0, 0, 0, ⟨0, 0⟩, ([] : List UInt8), ([] : List Int)⟩ : Step).Kind)) (s406.chunk 0 rfl) ?_
      refine Op.pg 13 [(39, .bool (((⟨k + 1, 0, 0, 0, ⟨0, 0⟩, ([] : List UInt8), ([] : List Int)⟩ : Step).Kind) == (8 : Int)))] ?_
      refine At.if' (((⟨k + 1, 0, 0, 0, ⟨0, 0⟩, ([] : List UInt8), ([] : List Int)⟩ : Step).Kind) == (8 : Int)) 39 14 15 (fun c407 => ?_) (fun c408 => ?_)
      ·replace c407 := eq_of_beq c407
       refine At.rp 3 2 [(41, .pointer (some ⟨b56, 4, none⟩))] ?_
       refine Op.s1 3 (.tmp 41) (.const (.int .i64 2)) 4 (.int .i64 2) 0 #[.int .i64 ((⟨k + 1, 0, 0, 0, ⟨0, 0⟩, ([] : List UInt8), ([] : List Int)⟩ : Step).Kind), .int .i64 ((⟨k + 1, 0, 0, 0, ⟨0, 0⟩, ([] : List UInt8), ([] : List Int)⟩ : Step).Role), .int .i64 ((⟨k + 1, 0, 0, 0, ⟨0, 0⟩, ([] : List UInt8), ([] : List Int)⟩ : Step).K), .int .i64 ((⟨k + 1, 0, 0, 0, ⟨0, 0⟩, ([] : List UInt8), ([] : List Int)⟩ : Step).Power), .int .i64 2, .int .i64 ((⟨k + 1, 0, 0, 0, ⟨0, 0⟩, ([] : List UInt8), ([] : List Int)⟩ : Step).Node.N), .slice a398 (((⟨k + 1, 0, 0, 0, ⟨0, 0⟩, ([] : List UInt8), ([] : List Int)⟩ : Step).Data).length) n399, .slice a400 (((⟨k + 1, 0, 0, 0, ⟨0, 0⟩, ([] : List UInt8), ([] : List Int)⟩ : Step).Keeps).length) n401] s406 (fun _ => trivial) ?_
       intro h409 s410
       refine Op.gt 15 ?_
       obtain ⟨c411, o412, s413⟩ := St.pack (Q := IsStep g b56 (⟨(⟨k + 1, 0, 0, 0, ⟨0, 0⟩, ([] : List UInt8), ([] : List Int)⟩ : Step).Kind, (⟨k + 1, 0, 0, 0, ⟨0, 0⟩, ([] : List UInt8), ([] : List Int)⟩ : Step).Role, (⟨k + 1, 0, 0, 0, ⟨0, 0⟩, ([] : List UInt8), ([] : List Int)⟩ : Step).K, (⟨k + 1, 0, 0, 0, ⟨0, 0⟩, ([] : List UInt8), ([] : List Int)⟩ : Step).Power, ⟨2, (⟨k + 1, 0, 0, 0, ⟨0, 0⟩, ([] : List UInt8), ([] : List Int)⟩ : Step).Node.N⟩, (⟨k + 1, 0, 0, 0, ⟨0, 0⟩, ([] : List UInt8), ([] : List Int)⟩ : Step).Data, (⟨k + 1, 0, 0, 0, ⟨0, 0⟩, ([] : List UInt8), ([] : List Int)⟩ : Step).Keeps⟩ : Step)) 3 s410 ⟨_, _, _, _, rfl, R396, R397⟩
       refine At.kp [(2, .pointer (some ⟨b20, 0, none⟩)), (4, .slice (some ⟨b47, o48, none⟩) ((splitOn 32 s).length) n29), (5, .pointer (some ⟨b36, 0, none⟩)), (6, .int .i64 k), (7, .pointer (some ⟨b56, 0, none⟩))] ?_
       exact join15 _  (⟨(⟨k + 1, 0, 0, 0, ⟨0, 0⟩, ([] : List UInt8), ([] : List Int)⟩ : Step).Kind, (⟨k + 1, 0, 0, 0, ⟨0, 0⟩, ([] : List UInt8), ([] : List Int)⟩ : Step).Role, (⟨k + 1, 0, 0, 0, ⟨0, 0⟩, ([] : List UInt8), ([] : List Int)⟩ : Step).K, (⟨k + 1, 0, 0, 0, ⟨0, 0⟩, ([] : List UInt8), ([] : List Int)⟩ : Step).Power, ⟨2, (⟨k + 1, 0, 0, 0, ⟨0, 0⟩, ([] : List UInt8), ([] : List Int)⟩ : Step).Node.N⟩, (⟨k + 1, 0, 0, 0, ⟨0, 0⟩, ([] : List UInt8), ([] : List Int)⟩ : Step).Data, (⟨k + 1, 0, 0, 0, ⟨0, 0⟩, ([] : List UInt8), ([] : List Int)⟩ : Step).Keeps⟩ : Step) _ _ (Nat.lt_succ_self _) (by exact initS_b k0 (by omega)) (by omega) (by exact ⟨_, hx46, cmdL_hit ((head_of hx46).1 ▸ hC) k0 (by omega) (by simpa using c55)⟩) o412 s413
      ·replace c408 := neF c408
       obtain ⟨c414, o415, s416⟩ := St.pack (Q := IsStep g b56 (⟨(⟨k + 1, 0, 0, 0, ⟨0, 0⟩, ([] : List UInt8), ([] : List Int)⟩ : Step).Kind, (⟨k + 1, 0, 0, 0, ⟨0, 0⟩, ([] : List UInt8), ([] : List Int)⟩ : Step).Role, (⟨k + 1, 0, 0, 0, ⟨0, 0⟩, ([] : List UInt8), ([] : List Int)⟩ : Step).K, (⟨k + 1, 0, 0, 0, ⟨0, 0⟩, ([] : List UInt8), ([] : List Int)⟩ : Step).Power, ⟨4, (⟨k + 1, 0, 0, 0, ⟨0, 0⟩, ([] : List UInt8), ([] : List Int)⟩ : Step).Node.N⟩, (⟨k + 1, 0, 0, 0, ⟨0, 0⟩, ([] : List UInt8), ([] : List Int)⟩ : Step).Data, (⟨k + 1, 0, 0, 0, ⟨0, 0⟩, ([] : List UInt8), ([] : List Int)⟩ : Step).Keeps⟩ : Step)) 3 s406 ⟨_, _, _, _, rfl, R396, R397⟩
       refine At.kp [(2, .pointer (some ⟨b20, 0, none⟩)), (4, .slice (some ⟨b47, o48, none⟩) ((splitOn 32 s).length) n29), (5, .pointer (some ⟨b36, 0, none⟩)), (6, .int .i64 k), (7, .pointer (some ⟨b56, 0, none⟩))] ?_
       exact join15 _  (⟨(⟨k + 1, 0, 0, 0, ⟨0, 0⟩, ([] : List UInt8), ([] : List Int)⟩ : Step).Kind, (⟨k + 1, 0, 0, 0, ⟨0, 0⟩, ([] : List UInt8), ([] : List Int)⟩ : Step).Role, (⟨k + 1, 0, 0, 0, ⟨0, 0⟩, ([] : List UInt8), ([] : List Int)⟩ : Step).K, (⟨k + 1, 0, 0, 0, ⟨0, 0⟩, ([] : List UInt8), ([] : List Int)⟩ : Step).Power, ⟨4, (⟨k + 1, 0, 0, 0, ⟨0, 0⟩, ([] : List UInt8), ([] : List Int)⟩ : Step).Node.N⟩, (⟨k + 1, 0, 0, 0, ⟨0, 0⟩, ([] : List UInt8), ([] : List Int)⟩ : Step).Data, (⟨k + 1, 0, 0, 0, ⟨0, 0⟩, ([] : List UInt8), ([] : List Int)⟩ : Step).Keeps⟩ : Step) _ _ (Nat.lt_succ_self _) (by exact initS_a k0 (by omega)) (by omega) (by exact ⟨_, hx46, cmdL_hit ((head_of hx46).1 ▸ hC) k0 (by omega) (by simpa using c55)⟩) o415 s416
     ·replace c404 := neF c404
      refine At.rp 3 1 [(37, .pointer (some ⟨b56, 0, none⟩))] ?_
      refine Op.ld (n := 1) 3 (.tmp 37) 38 0 (.int .i64 ((⟨k + 1, 0, 0, 0, ⟨0, 0⟩, ([] : List UInt8), ([] : List Int)⟩ : Step).Kind)) (s402.chunk 0 rfl) ?_
      refine Op.pg 13 [(39, .bool (((⟨k + 1, 0, 0, 0, ⟨0, 0⟩, ([] : List UInt8), ([] : List Int)⟩ : Step).Kind) == (8 : Int)))] ?_
      refine At.if' (((⟨k + 1, 0, 0, 0, ⟨0, 0⟩, ([] : List UInt8), ([] : List Int)⟩ : Step).Kind) == (8 : Int)) 39 14 15 (fun c417 => ?_) (fun c418 => ?_)
      ·replace c417 := eq_of_beq c417
       refine At.rp 3 2 [(41, .pointer (some ⟨b56, 4, none⟩))] ?_
       refine Op.s1 3 (.tmp 41) (.const (.int .i64 2)) 4 (.int .i64 2) 0 #[.int .i64 ((⟨k + 1, 0, 0, 0, ⟨0, 0⟩, ([] : List UInt8), ([] : List Int)⟩ : Step).Kind), .int .i64 ((⟨k + 1, 0, 0, 0, ⟨0, 0⟩, ([] : List UInt8), ([] : List Int)⟩ : Step).Role), .int .i64 ((⟨k + 1, 0, 0, 0, ⟨0, 0⟩, ([] : List UInt8), ([] : List Int)⟩ : Step).K), .int .i64 ((⟨k + 1, 0, 0, 0, ⟨0, 0⟩, ([] : List UInt8), ([] : List Int)⟩ : Step).Power), .int .i64 2, .int .i64 ((⟨k + 1, 0, 0, 0, ⟨0, 0⟩, ([] : List UInt8), ([] : List Int)⟩ : Step).Node.N), .slice a398 (((⟨k + 1, 0, 0, 0, ⟨0, 0⟩, ([] : List UInt8), ([] : List Int)⟩ : Step).Data).length) n399, .slice a400 (((⟨k + 1, 0, 0, 0, ⟨0, 0⟩, ([] : List UInt8), ([] : List Int)⟩ : Step).Keeps).length) n401] s402 (fun _ => trivial) ?_
       intro h419 s420
       refine Op.gt 15 ?_
       obtain ⟨c421, o422, s423⟩ := St.pack (Q := IsStep g b56 (⟨(⟨k + 1, 0, 0, 0, ⟨0, 0⟩, ([] : List UInt8), ([] : List Int)⟩ : Step).Kind, (⟨k + 1, 0, 0, 0, ⟨0, 0⟩, ([] : List UInt8), ([] : List Int)⟩ : Step).Role, (⟨k + 1, 0, 0, 0, ⟨0, 0⟩, ([] : List UInt8), ([] : List Int)⟩ : Step).K, (⟨k + 1, 0, 0, 0, ⟨0, 0⟩, ([] : List UInt8), ([] : List Int)⟩ : Step).Power, ⟨2, (⟨k + 1, 0, 0, 0, ⟨0, 0⟩, ([] : List UInt8), ([] : List Int)⟩ : Step).Node.N⟩, (⟨k + 1, 0, 0, 0, ⟨0, 0⟩, ([] : List UInt8), ([] : List Int)⟩ : Step).Data, (⟨k + 1, 0, 0, 0, ⟨0, 0⟩, ([] : List UInt8), ([] : List Int)⟩ : Step).Keeps⟩ : Step)) 3 s420 ⟨_, _, _, _, rfl, R396, R397⟩
       refine At.kp [(2, .pointer (some ⟨b20, 0, none⟩)), (4, .slice (some ⟨b47, o48, none⟩) ((splitOn 32 s).length) n29), (5, .pointer (some ⟨b36, 0, none⟩)), (6, .int .i64 k), (7, .pointer (some ⟨b56, 0, none⟩))] ?_
       exact join15 _  (⟨(⟨k + 1, 0, 0, 0, ⟨0, 0⟩, ([] : List UInt8), ([] : List Int)⟩ : Step).Kind, (⟨k + 1, 0, 0, 0, ⟨0, 0⟩, ([] : List UInt8), ([] : List Int)⟩ : Step).Role, (⟨k + 1, 0, 0, 0, ⟨0, 0⟩, ([] : List UInt8), ([] : List Int)⟩ : Step).K, (⟨k + 1, 0, 0, 0, ⟨0, 0⟩, ([] : List UInt8), ([] : List Int)⟩ : Step).Power, ⟨2, (⟨k + 1, 0, 0, 0, ⟨0, 0⟩, ([] : List UInt8), ([] : List Int)⟩ : Step).Node.N⟩, (⟨k + 1, 0, 0, 0, ⟨0, 0⟩, ([] : List UInt8), ([] : List Int)⟩ : Step).Data, (⟨k + 1, 0, 0, 0, ⟨0, 0⟩, ([] : List UInt8), ([] : List Int)⟩ : Step).Keeps⟩ : Step) _ _ (Nat.lt_succ_self _) (by exact initS_b k0 (by omega)) (by omega) (by exact ⟨_, hx46, cmdL_hit ((head_of hx46).1 ▸ hC) k0 (by omega) (by simpa using c55)⟩) o422 s423
      ·replace c418 := neF c418
       obtain ⟨c424, o425, s426⟩ := St.pack (Q := IsStep g b56 (⟨k + 1, 0, 0, 0, ⟨0, 0⟩, ([] : List UInt8), ([] : List Int)⟩ : Step)) 3 s402 ⟨_, _, _, _, rfl, R396, R397⟩
       refine At.kp [(2, .pointer (some ⟨b20, 0, none⟩)), (4, .slice (some ⟨b47, o48, none⟩) ((splitOn 32 s).length) n29), (5, .pointer (some ⟨b36, 0, none⟩)), (6, .int .i64 k), (7, .pointer (some ⟨b56, 0, none⟩))] ?_
       exact join15 _  (⟨k + 1, 0, 0, 0, ⟨0, 0⟩, ([] : List UInt8), ([] : List Int)⟩ : Step) _ _ (Nat.lt_succ_self _) (by exact initS_c k0 (by omega) (by omega)) (by omega) (by exact ⟨_, hx46, cmdL_hit ((head_of hx46).1 ▸ hC) k0 (by omega) (by simpa using c55)⟩) o425 s426
   ·replace c44 := of_decide_eq_false c44
    refine At.rp 3 1 [(169, .agg #[.int .i64 0, .int .i64 0, .int .i64 0, .int .i64 0, .int .i64 0, .int .i64 0, .slice none 0 0, .slice none 0 0])] ?_
    refine Op.store (T := 94) (x := (.tmp 2)) (y := (.tmp 169)) (b := b20) (o := 0) (vs := [.int .i64 0, .int .i64 0, .int .i64 0, .int .i64 0, .int .i64 0, .int .i64 0, .slice none 0 0, .slice none 0 0]) (a? := true) (n := 8) (by kernel_rfl) (by kernel_rfl) (by kernel_rfl) (by kernel_rfl) rfl (by simp [Value.oneCell']) s41 2 rfl (Nat.le_of_ble_eq_true (by kernel_rfl)) (cs := #[.int .i64 0, .int .i64 0, .int .i64 0, .int .i64 0, .int .i64 0, .int .i64 0, .slice none 0 0, .slice none 0 0]) (cs' := #[.int .i64 0, .int .i64 0, .int .i64 0, .int .i64 0, .int .i64 0, .int .i64 0, .slice none 0 0, .slice none 0 0]) (by kernel_rfl) (fun _ => trivial) ?_
    intro h427 s428
    refine Op.pg 58 [(3, .bool false)] ?_
    have R429 := Row.zero 5 kU8 g none
    have s430 := s428.nl
    have R431 := Row.zero 3 (kInt .i64) g none
    have s432 := s430.nl
    refine At.retM (f := Tryz.f59) (vs := [.agg #[.int .i64 0, .int .i64 0, .int .i64 0, .int .i64 0, .int .i64 0, .int .i64 0, .slice none 0 0, .slice none 0 0], .bool false]) (rl := [.cell 2 94, .tmp 3]) (v := .tuple #[.agg #[.int .i64 0, .int .i64 0, .int .i64 0, .int .i64 0, .int .i64 0, .int .i64 0, .slice none 0 0, .slice none 0 0], .bool false]) (by kernel_rfl) (by kernel_rfl) ⟨⟨_, _, rfl, resAgg (n := 8) (by kernel_rfl) (s432.chunk 4 rfl) (by kernel_rfl) rfl⟩, rfl, trivial⟩ rfl ?_
    have s433 := ((((s432.front 0 rfl).front 1 rfl).front 4 rfl).front 4 rfl).front 4 rfl
    have s434 := s433.drop.drop.drop
    refine hR _ _ _ _ s434 ⟨(.slice none 0 0), [], (.slice none 0 0), [], ?_, ?_, ?_, rfl, rfl⟩
    ·exact eqT2 (by (rw [← (line_none (cmdL_end hC (by assumption))).1]; rfl)) (eqB (by exact (line_none (cmdL_end hC (by assumption))).2))
    ·exact rowEq R429 (by (rw [← (line_none (cmdL_end hC (by assumption))).1]; rfl))
    ·exact rowEq R431 (by (rw [← (line_none (cmdL_end hC (by assumption))).1]; rfl))
 refine At.kp [(2, .pointer (some ⟨b20, 0, none⟩)), (4, .slice a28 ((splitOn 32 s).length) n29), (5, .pointer (some ⟨b36, 0, none⟩)), (6, .int .i64 0)] ?_
 exact loop4 _  0 _ (Nat.lt_succ_self _) (by omega) (by omega) (by exact cmdL_0 _)  s40
end Go.Proofs.YtmjebehhpojihaaGreatDoor.Sw
namespace Go.Proofs.YtmjebehhpojihaaGreatDoor.Sw
open Go
set_option maxRecDepth 100000
set_option linter.unusedVariables false
set_option linter.unusedSimpArgs false
set_option linter.deprecated false
set_option maxHeartbeats 4000000 in
theorem textR (B : World) (h : Heap) (g : GH) (hg : Sub g h) (hG : Glob g) (st : Step) (v_st_6 : Value) (h_st_6 : SlR g 5 kU8 v_st_6 st.Data) (v_st_7 : Value) (h_st_7 : SlR g 3 (kInt .i64) v_st_7 st.Keeps) (ho : stOk st) :
  Spec Tryz.prog B 66 #[.agg #[.int .i64 st.Kind, .int .i64 st.Role, .int .i64 st.K, .int .i64 st.Power, .int .i64 st.Node.Role, .int .i64 st.Node.N, v_st_6, v_st_7]] h g [] (fun rv g' L' => rv = .string (mkS (textW st)) ∧ g' = g ∧ L' = []) := by
 obtain ⟨a_st_6, n_st_6, rfl⟩ := h_st_6.form
 obtain ⟨a_st_7, n_st_7, rfl⟩ := h_st_7.form
 refine Spec.at' Tryz.func66 ?_
 intro R hR
 have s0 := St.init hg
 refine At.rg 2 ?_
 refine Op.box (T := 94) (x := (.tmp 0)) (d := 1) (cs := #[.int .i64 st.Kind, .int .i64 st.Role, .int .i64 st.K, .int .i64 st.Power, .int .i64 st.Node.Role, .int .i64 st.Node.N, .slice a_st_6 st.Data.length n_st_6, .slice a_st_7 st.Keeps.length n_st_7]) (by kernel_rfl) (by kernel_rfl) s0 ?_
 intro b20 h21 s22
 refine Op.pg 1 [] ?_
 refine At.rp 8 1 [(10, .pointer (some ⟨b20, 0, none⟩))] ?_
 refine Op.ld (n := 1) 3 (.tmp 10) 11 0 (.int .i64 st.Kind) (s22.chunk 0 rfl) ?_
 refine Op.px 2 [(13, .bool (decide (st.Kind < (1 : Int))))] ?_
 refine Op.wb (decide (st.Kind < (1 : Int))) 13 (fun c23 => ?_) (fun c24 => ?_)
 ·replace c23 := of_decide_eq_true c23
  refine Op.pg 2 [(17, .bool true)] ?_
  refine At.ifT 17 3 ?_
  refine At.go 4 1 [(2, .string (mkS []))] ?_
  refine At.rt (.string (mkS [])) ?_
  have s25 := s22.drop
  refine hR _ _ _ _ s25 ⟨?_, rfl, rfl⟩
  exact (eqS (by exact text_0 (.inl (by omega))))
 ·replace c24 := of_decide_eq_false c24
  refine Op.px 1 [(14, .pointer (some ⟨b20, 0, none⟩))] ?_
  refine Op.ld (n := 1) 3 (.tmp 14) 15 0 (.int .i64 st.Kind) (s22.chunk 0 rfl) ?_
  refine Op.pg 2 [(17, .bool (decide (st.Kind > (9 : Int))))] ?_
  refine At.if' (decide (st.Kind > (9 : Int))) 17 3 5 (fun c26 => ?_) (fun c27 => ?_)
  ·replace c26 := of_decide_eq_true c26
   refine At.go 4 1 [(2, .string (mkS []))] ?_
   refine At.rt (.string (mkS [])) ?_
   have s28 := s22.drop
   refine hR _ _ _ _ s28 ⟨?_, rfl, rfl⟩
   exact (eqS (by exact text_0 (.inr (by omega))))
  ·replace c27 := of_decide_eq_false c27
   refine At.rg 3 ?_
   refine Op.c1 18 (formsR _ _ _ s22.sub hG   ) s22 ?_
   intro h29 s30
   refine Op.al 3 165 #[.string (mkS []), .string (mkS []), .string (mkS []), .string (mkS []), .string (mkS []), .string (mkS []), .string (mkS []), .string (mkS []), .string (mkS []), .string (mkS []), .string (mkS []), .string (mkS []), .string (mkS []), .string (mkS []), .string (mkS []), .string (mkS []), .string (mkS []), .string (mkS [])] s30 ?_
   intro b33 h34 s35
   refine Op.store (T := 165) (x := (.tmp 3)) (y := (.tmp 18)) (b := b33) (o := 0) (vs := [.string (mkS ([97, 115, 107])), .string (mkS ([110, 104])), .string (mkS ([100, 101, 108, 105, 118, 101, 114])), .string (mkS ([107])), .string (mkS ([108, 111, 115, 101])), .string (mkS ([107])), .string (mkS ([99, 111, 112, 121])), .string (mkS ([107])), .string (mkS ([116, 105, 99, 107])), .string (mkS ([114, 110])), .string (mkS ([99, 114, 97, 115, 104])), .string (mkS ([114, 110, 112, 42])), .string (mkS ([115, 97, 121])), .string (mkS ([114, 110, 116, 107, 104, 42])), .string (mkS ([102, 97, 107, 101])), .string (mkS ([110, 112, 107, 42])), .string (mkS ([114, 97, 119])), .string (mkS ([114, 110, 104]))]) (a? := true) (n := 18) (by kernel_rfl) (by kernel_rfl) (by kernel_rfl) (by kernel_rfl) rfl (by simp [Value.oneCell']) s35 0 rfl (Nat.le_of_ble_eq_true (by kernel_rfl)) (cs := #[.string (mkS []), .string (mkS []), .string (mkS []), .string (mkS []), .string (mkS []), .string (mkS []), .string (mkS []), .string (mkS []), .string (mkS []), .string (mkS []), .string (mkS []), .string (mkS []), .string (mkS []), .string (mkS []), .string (mkS []), .string (mkS []), .string (mkS []), .string (mkS [])]) (cs' := #[.string (mkS ([97, 115, 107])), .string (mkS ([110, 104])), .string (mkS ([100, 101, 108, 105, 118, 101, 114])), .string (mkS ([107])), .string (mkS ([108, 111, 115, 101])), .string (mkS ([107])), .string (mkS ([99, 111, 112, 121])), .string (mkS ([107])), .string (mkS ([116, 105, 99, 107])), .string (mkS ([114, 110])), .string (mkS ([99, 114, 97, 115, 104])), .string (mkS ([114, 110, 112, 42])), .string (mkS ([115, 97, 121])), .string (mkS ([114, 110, 116, 107, 104, 42])), .string (mkS ([102, 97, 107, 101])), .string (mkS ([110, 112, 107, 42])), .string (mkS ([114, 97, 119])), .string (mkS ([114, 110, 104]))]) (by kernel_rfl) (fun _ => trivial) ?_
   intro h36 s37
   refine Op.gt 6 ?_
   refine At.rg 3 ?_
   refine Op.c1 19 (rolesR _ _ _ s37.sub hG   ) s37 ?_
   intro h38 s39
   refine Op.al 4 168 #[.string (mkS []), .string (mkS []), .string (mkS []), .string (mkS []), .string (mkS [])] s39 ?_
   intro b42 h43 s44
   refine Op.store (T := 168) (x := (.tmp 4)) (y := (.tmp 19)) (b := b42) (o := 0) (vs := [.string (mkS []), .string (mkS ([107, 101, 101, 112, 101, 114])), .string (mkS ([111, 114, 100, 101, 114, 101, 114])), .string (mkS ([100, 111, 101, 114])), .string (mkS ([112, 101, 101, 114]))]) (a? := true) (n := 5) (by kernel_rfl) (by kernel_rfl) (by kernel_rfl) (by kernel_rfl) rfl (by simp [Value.oneCell']) s44 0 rfl (Nat.le_of_ble_eq_true (by kernel_rfl)) (cs := #[.string (mkS []), .string (mkS []), .string (mkS []), .string (mkS []), .string (mkS [])]) (cs' := #[.string (mkS []), .string (mkS ([107, 101, 101, 112, 101, 114])), .string (mkS ([111, 114, 100, 101, 114, 101, 114])), .string (mkS ([100, 111, 101, 114])), .string (mkS ([112, 101, 101, 114]))]) (by kernel_rfl) (fun _ => trivial) ?_
   intro h45 s46
   refine Op.gt 7 ?_
   refine At.rp 8 1 [(20, .pointer (some ⟨b20, 0, none⟩))] ?_
   refine Op.ld (n := 1) 3 (.tmp 20) 21 0 (.int .i64 st.Kind) (s46.chunk 2 rfl) ?_
   refine Op.v64 22 (st.Kind - 1) (by omega) (by omega) ?_
   refine Op.idxA (T := 165) (E := 164) (len := 9) (sz := 2) (k := .i64) (x := (.tmp 3)) (ix := (.tmp 22)) (dst := 23) (bk := b33) (o := 0) (m := st.Kind - 1) (by kernel_rfl) (by kernel_rfl) (by kernel_rfl) (by kernel_rfl) (by omega) (by omega) ?_
   refine Op.px 1 [(24, .pointer (some ⟨b33, 0 + (st.Kind - 1 : Int).toNat * 2, none⟩))] ?_
   refine Op.ld (n := 1) 9 (.tmp 24) 25 (0 + (st.Kind - 1 : Int).toNat * 2) (.string (mkS (formsL.getD (0 + (st.Kind - 1 : Int).toNat * 2) []))) (s46.chunk 1 rfl) ?_ (hv := (by exact cellsS formsL (show 0 + (st.Kind - 1 : Int).toNat * 2 < 18 by first | omega | (unfold stOk at ho; omega) | (have := cmdF_len (k := st.Kind - 1) ⟨by omega, by omega⟩; omega) | (rw [show formsL.length = 18 from rfl]; omega) | (show _ < 18; omega) | (show _ < 5; omega) | (have h7 := ho.2.2.2.2.2.2.2.2 {x1} (List.mem_of_getElem? {hx1}); omega) | (have h7 := ho.2.2.2.2.2.2.2.2 {x0} (List.mem_of_getElem? {hx0}); omega) | (have h7 := ho.2.2.2.2.2.2.2.2 {x0} (List.mem_of_getElem? {hx0}); have := itoa_len20 h7.1 h7.2; simp only [List.length_append, List.length_cons, List.length_nil]; omega) | (have := cmdK_len (k := st.Kind - 1) ⟨by omega, by omega⟩; omega) | (have := cmdF_len (k := st.Kind - 1) ⟨by omega, by omega⟩; simp only [List.length_append, List.length_cons, List.length_nil]; omega) | (have := cmdF_len (k := st.Kind - 1) ⟨by omega, by omega⟩; have h7 := ho.2.2.2.2.2.2.2.2 {x0} (List.mem_of_getElem? {hx0}); have := itoa_len20 h7.1 h7.2; unfold stOk at ho; simp only [List.length_append, List.length_cons, List.length_nil]; omega))))
   refine Op.toBytes (S := 9) (T := 29) (E := 5) (x := (.tmp 25)) (dst := 26) (l := formsL.getD (0 + (st.Kind - 1 : Int).toNat * 2) []) (by kernel_rfl) (by kernel_rfl) (by kernel_rfl) (by kernel_rfl) (by kernel_rfl) (by (have := cmdK_len (k := st.Kind - 1) ⟨by omega, by omega⟩; omega)) s46 ?_
   intro v47 ch48 h49 R50 s51
   obtain ⟨a52, n53, rfl⟩ := R50.form
   refine Op.pg 8 [(5, .slice a52 ((formsL.getD (0 + (st.Kind - 1 : Int).toNat * 2) []).length) n53)] ?_
   refine At.rp 7 1 [(27, .pointer (some ⟨b20, 0, none⟩))] ?_
   refine Op.ld (n := 1) 3 (.tmp 27) 28 0 (.int .i64 st.Kind) (s51.chunk 3 rfl) ?_
   refine Op.v64 29 (st.Kind - 1) (by omega) (by omega) ?_
   refine Op.idxA (T := 165) (E := 164) (len := 9) (sz := 2) (k := .i64) (x := (.tmp 3)) (ix := (.tmp 29)) (dst := 30) (bk := b33) (o := 0) (m := st.Kind - 1) (by kernel_rfl) (by kernel_rfl) (by kernel_rfl) (by kernel_rfl) (by omega) (by omega) ?_
   refine Op.px 1 [(31, .pointer (some ⟨b33, 0 + (st.Kind - 1 : Int).toNat * 2 + 1, none⟩))] ?_
   refine Op.ld (n := 1) 9 (.tmp 31) 32 (0 + (st.Kind - 1 : Int).toNat * 2 + 1) (.string (mkS (formsL.getD (0 + (st.Kind - 1 : Int).toNat * 2 + 1) []))) (s51.chunk 2 rfl) ?_ (hv := (by exact cellsS formsL (show 0 + (st.Kind - 1 : Int).toNat * 2 + 1 < 18 by first | omega | (unfold stOk at ho; omega) | (have := cmdF_len (k := st.Kind - 1) ⟨by omega, by omega⟩; omega) | (rw [show formsL.length = 18 from rfl]; omega) | (show _ < 18; omega) | (show _ < 5; omega) | (have h7 := ho.2.2.2.2.2.2.2.2 {x1} (List.mem_of_getElem? {hx1}); omega) | (have h7 := ho.2.2.2.2.2.2.2.2 {x0} (List.mem_of_getElem? {hx0}); omega) | (have h7 := ho.2.2.2.2.2.2.2.2 {x0} (List.mem_of_getElem? {hx0}); have := itoa_len20 h7.1 h7.2; simp only [List.length_append, List.length_cons, List.length_nil]; omega) | (have := cmdK_len (k := st.Kind - 1) ⟨by omega, by omega⟩; omega) | (have := cmdF_len (k := st.Kind - 1) ⟨by omega, by omega⟩; simp only [List.length_append, List.length_cons, List.length_nil]; omega) | (have := cmdF_len (k := st.Kind - 1) ⟨by omega, by omega⟩; have h7 := ho.2.2.2.2.2.2.2.2 {x0} (List.mem_of_getElem? {hx0}); have := itoa_len20 h7.1 h7.2; unfold stOk at ho; simp only [List.length_append, List.length_cons, List.length_nil]; omega))))
   refine Op.pg 9 [(6, .string (mkS (formsL.getD (0 + (st.Kind - 1 : Int).toNat * 2 + 1) [])))] ?_
   refine At.go 10 1 [(7, .int .i64 0)] ?_
   have loop10 : ∀ (m : Nat) (out : List UInt8) (i : Int) (a54 : Option Addr) (n55 : Nat) (ch56 : Chunk) (h59 : Heap) (hm : (formsL.getD (0 + (st.Kind - 1 : Int).toNat * 2 + 1) []).length - i.toNat < m) (h0 : 0 ≤ i) (hol : out.length ≤ 10 + i * 30000000) (hO : textI st out i) (hiF : i ≤ (formsL.getD (0 + (st.Kind - 1 : Int).toNat * 2 + 1) []).length) (R57 : RowZ 5 kU8 g (.slice a54 out.length n55) out ch56)    (s58 : St h g (ids []) g [ch56, [(b42, Obj.cells #[.string (mkS []), .string (mkS ([107, 101, 101, 112, 101, 114])), .string (mkS ([111, 114, 100, 101, 114, 101, 114])), .string (mkS ([100, 111, 101, 114])), .string (mkS ([112, 101, 101, 114]))] 168 (0, 0))], [(b33, Obj.cells #[.string (mkS ([97, 115, 107])), .string (mkS ([110, 104])), .string (mkS ([100, 101, 108, 105, 118, 101, 114])), .string (mkS ([107])), .string (mkS ([108, 111, 115, 101])), .string (mkS ([107])), .string (mkS ([99, 111, 112, 121])), .string (mkS ([107])), .string (mkS ([116, 105, 99, 107])), .string (mkS ([114, 110])), .string (mkS ([99, 114, 97, 115, 104])), .string (mkS ([114, 110, 112, 42])), .string (mkS ([115, 97, 121])), .string (mkS ([114, 110, 116, 107, 104, 42])), .string (mkS ([102, 97, 107, 101])), .string (mkS ([110, 112, 107, 42])), .string (mkS ([114, 97, 119])), .string (mkS ([114, 110, 104]))] 165 (0, 0))], [(b20, Obj.cells #[.int .i64 st.Kind, .int .i64 st.Role, .int .i64 st.K, .int .i64 st.Power, .int .i64 st.Node.Role, .int .i64 st.Node.N, .slice a_st_6 st.Data.length n_st_6, .slice a_st_7 st.Keeps.length n_st_7] 94 (0, 0))]] h59), At (fctx Tryz.prog B 66 Tryz.f66 R) [] 10 [(1, .pointer (some ⟨b20, 0, none⟩)), (4, .pointer (some ⟨b42, 0, none⟩)), (5, .slice a54 out.length n55), (6, .string (mkS (formsL.getD (0 + (st.Kind - 1 : Int).toNat * 2 + 1) []))), (7, .int .i64 i)] h59 := by
    intro m; induction m with
    | zero => intros; omega
    | succ m ih10 =>
     intro out i a54 n55 ch56 h59 hm h0 hol hO hiF R57 s58
     refine At.go 11 4 [(36, .bool (decide (i < ((formsL.getD (0 + (st.Kind - 1 : Int).toNat * 2 + 1) []).length : Int))))] ?_
     refine At.if' (decide (i < ((formsL.getD (0 + (st.Kind - 1 : Int).toNat * 2 + 1) []).length : Int))) 36 12 43 (fun c60 => ?_) (fun c61 => ?_)
     ·replace c60 := of_decide_eq_true c60
      refine At.go 13 1 [(8, .string (mkS []))] ?_
      have join41 : ∀ (m : Nat) (w : List UInt8) (h63 : Heap) (hm : 0 < m) (hw : bitI st i w) (hwl : w.length ≤ 2000001)     (s62 : St h g (ids []) g [ch56, [(b42, Obj.cells #[.string (mkS []), .string (mkS ([107, 101, 101, 112, 101, 114])), .string (mkS ([111, 114, 100, 101, 114, 101, 114])), .string (mkS ([100, 111, 101, 114])), .string (mkS ([112, 101, 101, 114]))] 168 (0, 0))], [(b33, Obj.cells #[.string (mkS ([97, 115, 107])), .string (mkS ([110, 104])), .string (mkS ([100, 101, 108, 105, 118, 101, 114])), .string (mkS ([107])), .string (mkS ([108, 111, 115, 101])), .string (mkS ([107])), .string (mkS ([99, 111, 112, 121])), .string (mkS ([107])), .string (mkS ([116, 105, 99, 107])), .string (mkS ([114, 110])), .string (mkS ([99, 114, 97, 115, 104])), .string (mkS ([114, 110, 112, 42])), .string (mkS ([115, 97, 121])), .string (mkS ([114, 110, 116, 107, 104, 42])), .string (mkS ([102, 97, 107, 101])), .string (mkS ([110, 112, 107, 42])), .string (mkS ([114, 97, 119])), .string (mkS ([114, 110, 104]))] 165 (0, 0))], [(b20, Obj.cells #[.int .i64 st.Kind, .int .i64 st.Role, .int .i64 st.K, .int .i64 st.Power, .int .i64 st.Node.Role, .int .i64 st.Node.N, .slice a_st_6 st.Data.length n_st_6, .slice a_st_7 st.Keeps.length n_st_7] 94 (0, 0))]] h63), At (fctx Tryz.prog B 66 Tryz.f66 R) [] 41 [(1, .pointer (some ⟨b20, 0, none⟩)), (4, .pointer (some ⟨b42, 0, none⟩)), (5, .slice a54 out.length n55), (6, .string (mkS (formsL.getD (0 + (st.Kind - 1 : Int).toNat * 2 + 1) []))), (7, .int .i64 i), (8, .string (mkS w))] h63 := by
       intro m; induction m with
       | zero => intros; omega
       | succ m ih41 =>
        intro w h63 hm hw hwl s62
        refine At.rp 6 2 [(111, .slice a54 out.length n55), (112, .string (mkS w))] ?_
        refine Op.sa 9 9 (.const (.string (mkS ([32])))) (.tmp 112) 113 ([32]) w (by (have := cmdF_len (k := st.Kind - 1) ⟨by omega, by omega⟩; simp only [List.length_append, List.length_cons, List.length_nil]; omega)) ?_
        refine Op.toBytes (S := 9) (T := 29) (E := 5) (x := (.tmp 113)) (dst := 114) (l := ([32]) ++ w) (by kernel_rfl) (by kernel_rfl) (by kernel_rfl) (by kernel_rfl) (by kernel_rfl) (by (have := cmdF_len (k := st.Kind - 1) ⟨by omega, by omega⟩; simp only [List.length_append, List.length_cons, List.length_nil]; omega)) s62 ?_
        intro v64 ch65 h66 R67 s68
        obtain ⟨a69, n70, rfl⟩ := R67.form
        obtain ⟨ns71, hs72, hr73⟩ := Src.slice (P := Tryz.prog) (R67.toH s68 0 rfl)
        refine Op.appendS (x := (.tmp 111)) (y := (.tmp 114)) (t := 29) (t' := 29) (dst := 115) (E := 5) (by_ := 1) (d := kU8) (by kernel_rfl) (by kernel_rfl) (by kernel_rfl) (by kernel_rfl) rfl R57 s68 1 rfl hs72 (ys := ([32]) ++ w) hr73 rfl (by (have := cmdF_len (k := st.Kind - 1) ⟨by omega, by omega⟩; simp only [List.length_append, List.length_cons, List.length_nil]; omega)) (fun _ _ _ => trivial) ?_
        intro v74 ch75 h76 R77 s78 nn79
        obtain ⟨a80, n81, rfl⟩ := R77.form
        refine Op.pg 42 [(5, .slice a80 ((out ++ (([32]) ++ w)).length) n81)] ?_
        refine At.rp 3 1 [(37, .int .i64 i)] ?_
        refine Op.v64 38 (i + 1) (by omega) (by (have := cmdF_len (k := st.Kind - 1) ⟨by omega, by omega⟩; omega)) ?_
        refine Op.pg 10 [(7, .int .i64 (i + 1))] ?_
        refine At.kp [(1, .pointer (some ⟨b20, 0, none⟩)), (4, .pointer (some ⟨b42, 0, none⟩)), (5, .slice a80 ((out ++ (([32]) ++ w)).length) n81), (6, .string (mkS (formsL.getD (0 + (st.Kind - 1 : Int).toNat * 2 + 1) []))), (7, .int .i64 (i + 1))] ?_
        have s82 := s78.drop
        exact ih10  (out ++ (([32]) ++ w)) (i + 1) _ _ _ _ (by omega) (by omega) (by (simp only [List.length_append, List.length_cons, List.length_nil]; omega)) (by exact textI_w hO h0 hw) (by omega) R77 s82
      refine At.rp 3 2 [(39, .string (mkS (formsL.getD (0 + (st.Kind - 1 : Int).toNat * 2 + 1) []))), (40, .int .i64 i)] ?_
      obtain ⟨x83, hx84⟩ := getAt (l := formsL.getD (0 + (st.Kind - 1 : Int).toNat * 2 + 1) []) (i := i) (by omega)
      refine Op.si 9 (.tmp 39) (.tmp 40) 41 (formsL.getD (0 + (st.Kind - 1 : Int).toNat * 2 + 1) []) i (by omega) hx84 ?_
      refine Op.gt 14 ?_
      refine At.go 15 2 [(59, .bool ((x83.toNat : Int) == (114 : Int)))] ?_
      refine At.if' ((x83.toNat : Int) == (114 : Int)) 59 16 19 (fun c85 => ?_) (fun c86 => ?_)
      ·replace c85 := eq_of_beq c85
       refine At.rp 10 2 [(62, .pointer (some ⟨b20, 4, none⟩))] ?_
       refine Op.ld (n := 1) 3 (.tmp 62) 63 4 (.int .i64 st.Node.Role) (s58.chunk 3 rfl) ?_
       refine Op.px 2 [(65, .bool (decide (st.Node.Role > (0 : Int))))] ?_
       refine Op.wb (decide (st.Node.Role > (0 : Int))) 65 (fun c87 => ?_) (fun c88 => ?_)
       ·replace c87 := of_decide_eq_true c87
        refine Op.px 2 [(67, .pointer (some ⟨b20, 4, none⟩))] ?_
        refine Op.ld (n := 1) 3 (.tmp 67) 68 4 (.int .i64 st.Node.Role) (s58.chunk 3 rfl) ?_
        refine Op.pg 17 [(70, .bool (decide (st.Node.Role < (5 : Int))))] ?_
        refine At.if' (decide (st.Node.Role < (5 : Int))) 70 18 41 (fun c89 => ?_) (fun c90 => ?_)
        ·replace c89 := of_decide_eq_true c89
         refine At.rp 6 2 [(72, .pointer (some ⟨b20, 4, none⟩))] ?_
         refine Op.ld (n := 1) 3 (.tmp 72) 73 4 (.int .i64 st.Node.Role) (s58.chunk 3 rfl) ?_
         refine Op.idxA (T := 168) (E := 9) (len := 5) (sz := 1) (k := .i64) (x := (.tmp 4)) (ix := (.tmp 73)) (dst := 74) (bk := b42) (o := 0) (m := st.Node.Role) (by kernel_rfl) (by kernel_rfl) (by kernel_rfl) (by kernel_rfl) (by omega) (by omega) ?_
         refine Op.ld (n := 1) 9 (.tmp 74) 75 (0 + (st.Node.Role : Int).toNat * 1) (.string (mkS (rolesL.getD (0 + (st.Node.Role : Int).toNat * 1) []))) (s58.chunk 1 rfl) ?_ (hv := (by exact cellsS rolesL (show 0 + (st.Node.Role : Int).toNat * 1 < 5 by first | omega | (unfold stOk at ho; omega) | (have := cmdF_len (k := st.Kind - 1) ⟨by omega, by omega⟩; omega) | (rw [show formsL.length = 18 from rfl]; omega) | (show _ < 18; omega) | (show _ < 5; omega) | (have h7 := ho.2.2.2.2.2.2.2.2 {x1} (List.mem_of_getElem? {hx1}); omega) | (have h7 := ho.2.2.2.2.2.2.2.2 x83 (List.mem_of_getElem? hx84); omega) | (have h7 := ho.2.2.2.2.2.2.2.2 x83 (List.mem_of_getElem? hx84); have := itoa_len20 h7.1 h7.2; simp only [List.length_append, List.length_cons, List.length_nil]; omega) | (have := cmdK_len (k := st.Kind - 1) ⟨by omega, by omega⟩; omega) | (have := cmdF_len (k := st.Kind - 1) ⟨by omega, by omega⟩; simp only [List.length_append, List.length_cons, List.length_nil]; omega) | (have := cmdF_len (k := st.Kind - 1) ⟨by omega, by omega⟩; have h7 := ho.2.2.2.2.2.2.2.2 x83 (List.mem_of_getElem? hx84); have := itoa_len20 h7.1 h7.2; unfold stOk at ho; simp only [List.length_append, List.length_cons, List.length_nil]; omega))))
         refine Op.pg 41 [(8, .string (mkS (rolesL.getD (0 + (st.Node.Role : Int).toNat * 1) [])))] ?_
         refine At.kp [(1, .pointer (some ⟨b20, 0, none⟩)), (4, .pointer (some ⟨b42, 0, none⟩)), (5, .slice a54 out.length n55), (6, .string (mkS (formsL.getD (0 + (st.Kind - 1 : Int).toNat * 2 + 1) []))), (7, .int .i64 i), (8, .string (mkS (rolesL.getD (0 + (st.Node.Role : Int).toNat * 1) [])))] ?_
         exact join41 _  (rolesL.getD (0 + (st.Node.Role : Int).toNat * 1) []) _ (Nat.lt_succ_self _) (by exact bit_r hx84 (by assumption) (by assumption) (by assumption)) (by (have h8 := roleS_len st.Node.Role; unfold roleS at h8; rw [if_pos ⟨by assumption, by assumption⟩] at h8; rw [show 0 + st.Node.Role.toNat * 1 = st.Node.Role.toNat by omega]; omega))  s58
        ·replace c90 := of_decide_eq_false c90
         refine At.kp [(1, .pointer (some ⟨b20, 0, none⟩)), (4, .pointer (some ⟨b42, 0, none⟩)), (5, .slice a54 out.length n55), (6, .string (mkS (formsL.getD (0 + (st.Kind - 1 : Int).toNat * 2 + 1) []))), (7, .int .i64 i), (8, .string (mkS []))] ?_
         exact join41 _  [] _ (Nat.lt_succ_self _) (by exact bit_r0 hx84 (by assumption) (by omega)) (by (simp only [List.length_nil]; omega))  s58
       ·replace c88 := of_decide_eq_false c88
        refine Op.pg 17 [(70, .bool false)] ?_
        refine At.ifF 70 41 ?_
        refine At.kp [(1, .pointer (some ⟨b20, 0, none⟩)), (4, .pointer (some ⟨b42, 0, none⟩)), (5, .slice a54 out.length n55), (6, .string (mkS (formsL.getD (0 + (st.Kind - 1 : Int).toNat * 2 + 1) []))), (7, .int .i64 i), (8, .string (mkS []))] ?_
        exact join41 _  [] _ (Nat.lt_succ_self _) (by exact bit_r0 hx84 (by assumption) (by omega)) (by (simp only [List.length_nil]; omega))  s58
      ·replace c86 := neF c86
       refine At.go 20 2 [(76, .bool ((x83.toNat : Int) == (110 : Int)))] ?_
       refine At.if' ((x83.toNat : Int) == (110 : Int)) 76 21 22 (fun c91 => ?_) (fun c92 => ?_)
       ·replace c91 := eq_of_beq c91
        refine At.rp 5 2 [(79, .pointer (some ⟨b20, 5, none⟩))] ?_
        refine Op.ld (n := 1) 3 (.tmp 79) 80 5 (.int .i64 st.Node.N) (s58.chunk 3 rfl) ?_
        refine Op.c1 81 (showR _ _ _ s58.sub hG st.Node.N (by ((try dsimp only) <;> ((unfold stOk at ho; omega)))) (by ((try dsimp only) <;> ((unfold stOk at ho; omega)))) ) s58 ?_
        intro h93 s94
        refine Op.pg 41 [(8, .string (mkS (Lib.itoa st.Node.N)))] ?_
        refine At.kp [(1, .pointer (some ⟨b20, 0, none⟩)), (4, .pointer (some ⟨b42, 0, none⟩)), (5, .slice a54 out.length n55), (6, .string (mkS (formsL.getD (0 + (st.Kind - 1 : Int).toNat * 2 + 1) []))), (7, .int .i64 i), (8, .string (mkS (Lib.itoa st.Node.N)))] ?_
        exact join41 _  (Lib.itoa st.Node.N) _ (Nat.lt_succ_self _) (by exact bit_n hx84 (by assumption)) (by (have h8 := itoa_len20 (v := st.Node.N) (by unfold stOk at ho; omega) (by unfold stOk at ho; omega); omega))  s94
       ·replace c92 := neF c92
        refine At.go 23 2 [(82, .bool ((x83.toNat : Int) == (116 : Int)))] ?_
        refine At.if' ((x83.toNat : Int) == (116 : Int)) 82 24 27 (fun c97 => ?_) (fun c98 => ?_)
        ·replace c97 := eq_of_beq c97
         refine At.rp 8 1 [(84, .pointer (some ⟨b20, 1, none⟩))] ?_
         refine Op.ld (n := 1) 3 (.tmp 84) 85 1 (.int .i64 st.Role) (s58.chunk 3 rfl) ?_
         refine Op.px 2 [(87, .bool (decide (st.Role > (0 : Int))))] ?_
         refine Op.wb (decide (st.Role > (0 : Int))) 87 (fun c99 => ?_) (fun c100 => ?_)
         ·replace c99 := of_decide_eq_true c99
          refine Op.px 1 [(88, .pointer (some ⟨b20, 1, none⟩))] ?_
          refine Op.ld (n := 1) 3 (.tmp 88) 89 1 (.int .i64 st.Role) (s58.chunk 3 rfl) ?_
          refine Op.pg 25 [(91, .bool (decide (st.Role < (5 : Int))))] ?_
          refine At.if' (decide (st.Role < (5 : Int))) 91 26 41 (fun c101 => ?_) (fun c102 => ?_)
          ·replace c101 := of_decide_eq_true c101
           refine At.rp 5 1 [(92, .pointer (some ⟨b20, 1, none⟩))] ?_
           refine Op.ld (n := 1) 3 (.tmp 92) 93 1 (.int .i64 st.Role) (s58.chunk 3 rfl) ?_
           refine Op.idxA (T := 168) (E := 9) (len := 5) (sz := 1) (k := .i64) (x := (.tmp 4)) (ix := (.tmp 93)) (dst := 94) (bk := b42) (o := 0) (m := st.Role) (by kernel_rfl) (by kernel_rfl) (by kernel_rfl) (by kernel_rfl) (by omega) (by omega) ?_
           refine Op.ld (n := 1) 9 (.tmp 94) 95 (0 + (st.Role : Int).toNat * 1) (.string (mkS (rolesL.getD (0 + (st.Role : Int).toNat * 1) []))) (s58.chunk 1 rfl) ?_ (hv := (by exact cellsS rolesL (show 0 + (st.Role : Int).toNat * 1 < 5 by first | omega | (unfold stOk at ho; omega) | (have := cmdF_len (k := st.Kind - 1) ⟨by omega, by omega⟩; omega) | (rw [show formsL.length = 18 from rfl]; omega) | (show _ < 18; omega) | (show _ < 5; omega) | (have h7 := ho.2.2.2.2.2.2.2.2 {x1} (List.mem_of_getElem? {hx1}); omega) | (have h7 := ho.2.2.2.2.2.2.2.2 x83 (List.mem_of_getElem? hx84); omega) | (have h7 := ho.2.2.2.2.2.2.2.2 x83 (List.mem_of_getElem? hx84); have := itoa_len20 h7.1 h7.2; simp only [List.length_append, List.length_cons, List.length_nil]; omega) | (have := cmdK_len (k := st.Kind - 1) ⟨by omega, by omega⟩; omega) | (have := cmdF_len (k := st.Kind - 1) ⟨by omega, by omega⟩; simp only [List.length_append, List.length_cons, List.length_nil]; omega) | (have := cmdF_len (k := st.Kind - 1) ⟨by omega, by omega⟩; have h7 := ho.2.2.2.2.2.2.2.2 x83 (List.mem_of_getElem? hx84); have := itoa_len20 h7.1 h7.2; unfold stOk at ho; simp only [List.length_append, List.length_cons, List.length_nil]; omega))))
           refine Op.pg 41 [(8, .string (mkS (rolesL.getD (0 + (st.Role : Int).toNat * 1) [])))] ?_
           refine At.kp [(1, .pointer (some ⟨b20, 0, none⟩)), (4, .pointer (some ⟨b42, 0, none⟩)), (5, .slice a54 out.length n55), (6, .string (mkS (formsL.getD (0 + (st.Kind - 1 : Int).toNat * 2 + 1) []))), (7, .int .i64 i), (8, .string (mkS (rolesL.getD (0 + (st.Role : Int).toNat * 1) [])))] ?_
           exact join41 _  (rolesL.getD (0 + (st.Role : Int).toNat * 1) []) _ (Nat.lt_succ_self _) (by exact bit_t hx84 (by assumption) (by assumption) (by assumption)) (by (have h8 := roleS_len st.Role; unfold roleS at h8; rw [if_pos ⟨by assumption, by assumption⟩] at h8; rw [show 0 + st.Role.toNat * 1 = st.Role.toNat by omega]; omega))  s58
          ·replace c102 := of_decide_eq_false c102
           refine At.kp [(1, .pointer (some ⟨b20, 0, none⟩)), (4, .pointer (some ⟨b42, 0, none⟩)), (5, .slice a54 out.length n55), (6, .string (mkS (formsL.getD (0 + (st.Kind - 1 : Int).toNat * 2 + 1) []))), (7, .int .i64 i), (8, .string (mkS []))] ?_
           exact join41 _  [] _ (Nat.lt_succ_self _) (by exact bit_t0 hx84 (by assumption) (by omega)) (by (simp only [List.length_nil]; omega))  s58
         ·replace c100 := of_decide_eq_false c100
          refine Op.pg 25 [(91, .bool false)] ?_
          refine At.ifF 91 41 ?_
          refine At.kp [(1, .pointer (some ⟨b20, 0, none⟩)), (4, .pointer (some ⟨b42, 0, none⟩)), (5, .slice a54 out.length n55), (6, .string (mkS (formsL.getD (0 + (st.Kind - 1 : Int).toNat * 2 + 1) []))), (7, .int .i64 i), (8, .string (mkS []))] ?_
          exact join41 _  [] _ (Nat.lt_succ_self _) (by exact bit_t0 hx84 (by assumption) (by omega)) (by (simp only [List.length_nil]; omega))  s58
        ·replace c98 := neF c98
         refine At.go 28 2 [(96, .bool ((x83.toNat : Int) == (107 : Int)))] ?_
         refine At.if' ((x83.toNat : Int) == (107 : Int)) 96 29 30 (fun c103 => ?_) (fun c104 => ?_)
         ·replace c103 := eq_of_beq c103
          refine At.rp 4 1 [(98, .pointer (some ⟨b20, 2, none⟩))] ?_
          refine Op.ld (n := 1) 3 (.tmp 98) 99 2 (.int .i64 st.K) (s58.chunk 3 rfl) ?_
          refine Op.c1 100 (showR _ _ _ s58.sub hG st.K (by ((try dsimp only) <;> ((unfold stOk at ho; omega)))) (by ((try dsimp only) <;> ((unfold stOk at ho; omega)))) ) s58 ?_
          intro h105 s106
          refine Op.pg 41 [(8, .string (mkS (Lib.itoa st.K)))] ?_
          refine At.kp [(1, .pointer (some ⟨b20, 0, none⟩)), (4, .pointer (some ⟨b42, 0, none⟩)), (5, .slice a54 out.length n55), (6, .string (mkS (formsL.getD (0 + (st.Kind - 1 : Int).toNat * 2 + 1) []))), (7, .int .i64 i), (8, .string (mkS (Lib.itoa st.K)))] ?_
          exact join41 _  (Lib.itoa st.K) _ (Nat.lt_succ_self _) (by exact bit_k hx84 (by assumption)) (by (have h8 := itoa_len20 (v := st.K) (by unfold stOk at ho; omega) (by unfold stOk at ho; omega); omega))  s106
         ·replace c104 := neF c104
          refine At.go 31 2 [(101, .bool ((x83.toNat : Int) == (112 : Int)))] ?_
          refine At.if' ((x83.toNat : Int) == (112 : Int)) 101 32 33 (fun c109 => ?_) (fun c110 => ?_)
          ·replace c109 := eq_of_beq c109
           refine At.rp 4 1 [(103, .pointer (some ⟨b20, 3, none⟩))] ?_
           refine Op.ld (n := 1) 3 (.tmp 103) 104 3 (.int .i64 st.Power) (s58.chunk 3 rfl) ?_
           refine Op.c1 105 (showR _ _ _ s58.sub hG st.Power (by ((try dsimp only) <;> ((unfold stOk at ho; omega)))) (by ((try dsimp only) <;> ((unfold stOk at ho; omega)))) ) s58 ?_
           intro h111 s112
           refine Op.pg 41 [(8, .string (mkS (Lib.itoa st.Power)))] ?_
           refine At.kp [(1, .pointer (some ⟨b20, 0, none⟩)), (4, .pointer (some ⟨b42, 0, none⟩)), (5, .slice a54 out.length n55), (6, .string (mkS (formsL.getD (0 + (st.Kind - 1 : Int).toNat * 2 + 1) []))), (7, .int .i64 i), (8, .string (mkS (Lib.itoa st.Power)))] ?_
           exact join41 _  (Lib.itoa st.Power) _ (Nat.lt_succ_self _) (by exact bit_p hx84 (by assumption)) (by (have h8 := itoa_len20 (v := st.Power) (by unfold stOk at ho; omega) (by unfold stOk at ho; omega); omega))  s112
          ·replace c110 := neF c110
           refine At.go 34 2 [(106, .bool ((x83.toNat : Int) == (104 : Int)))] ?_
           refine At.if' ((x83.toNat : Int) == (104 : Int)) 106 35 36 (fun c115 => ?_) (fun c116 => ?_)
           ·replace c115 := eq_of_beq c115
            refine At.rp 4 1 [(108, .pointer (some ⟨b20, 6, none⟩))] ?_
            refine Op.ld (n := 1) 29 (.tmp 108) 109 6 (.slice a_st_6 st.Data.length n_st_6) (s58.chunk 3 rfl) ?_
            refine Op.c1 110 (hexR _ _ _ s58.sub hG _ _ h_st_6 (by ((try dsimp only) <;> ((unfold stOk at ho; omega)))) ) s58 ?_
            intro h117 s118
            refine Op.pg 41 [(8, .string (mkS (hexW st.Data)))] ?_
            refine At.kp [(1, .pointer (some ⟨b20, 0, none⟩)), (4, .pointer (some ⟨b42, 0, none⟩)), (5, .slice a54 out.length n55), (6, .string (mkS (formsL.getD (0 + (st.Kind - 1 : Int).toNat * 2 + 1) []))), (7, .int .i64 i), (8, .string (mkS (hexW st.Data)))] ?_
            exact join41 _  (hexW st.Data) _ (Nat.lt_succ_self _) (by exact bit_h hx84 (by assumption)) (by (have := hexW_len st.Data; unfold stOk at ho; omega))  s118
           ·replace c116 := neF c116
            refine At.go 37 1 [(9, .int .i64 0)] ?_
            have loop37 : ∀ (m : Nat) (out2 : List UInt8) (k : Int) (a121 : Option Addr) (n122 : Nat) (ch123 : Chunk) (h126 : Heap) (hm : st.Keeps.length - k.toNat < m) (k0 : 0 ≤ k) (hol2 : out2.length ≤ 10 + i * 30000000 + k * 21) (hK : keepI st i k out2) (hkk : k ≤ st.Keeps.length) (R124 : RowZ 5 kU8 g (.slice a121 out2.length n122) out2 ch123)    (s125 : St h g (ids []) g [ch123, [(b42, Obj.cells #[.string (mkS []), .string (mkS ([107, 101, 101, 112, 101, 114])), .string (mkS ([111, 114, 100, 101, 114, 101, 114])), .string (mkS ([100, 111, 101, 114])), .string (mkS ([112, 101, 101, 114]))] 168 (0, 0))], [(b33, Obj.cells #[.string (mkS ([97, 115, 107])), .string (mkS ([110, 104])), .string (mkS ([100, 101, 108, 105, 118, 101, 114])), .string (mkS ([107])), .string (mkS ([108, 111, 115, 101])), .string (mkS ([107])), .string (mkS ([99, 111, 112, 121])), .string (mkS ([107])), .string (mkS ([116, 105, 99, 107])), .string (mkS ([114, 110])), .string (mkS ([99, 114, 97, 115, 104])), .string (mkS ([114, 110, 112, 42])), .string (mkS ([115, 97, 121])), .string (mkS ([114, 110, 116, 107, 104, 42])), .string (mkS ([102, 97, 107, 101])), .string (mkS ([110, 112, 107, 42])), .string (mkS ([114, 97, 119])), .string (mkS ([114, 110, 104]))] 165 (0, 0))], [(b20, Obj.cells #[.int .i64 st.Kind, .int .i64 st.Role, .int .i64 st.K, .int .i64 st.Power, .int .i64 st.Node.Role, .int .i64 st.Node.N, .slice a_st_6 st.Data.length n_st_6, .slice a_st_7 st.Keeps.length n_st_7] 94 (0, 0))]] h126), At (fctx Tryz.prog B 66 Tryz.f66 R) [] 37 [(1, .pointer (some ⟨b20, 0, none⟩)), (4, .pointer (some ⟨b42, 0, none⟩)), (5, .slice a121 out2.length n122), (6, .string (mkS (formsL.getD (0 + (st.Kind - 1 : Int).toNat * 2 + 1) []))), (7, .int .i64 i), (9, .int .i64 k)] h126 := by
             intro m; induction m with
             | zero => intros; omega
             | succ m ih37 =>
              intro out2 k a121 n122 ch123 h126 hm k0 hol2 hK hkk R124 s125
              refine At.rp 5 2 [(42, .int .i64 k), (43, .pointer (some ⟨b20, 7, none⟩))] ?_
              refine Op.ld (n := 1) 44 (.tmp 43) 44 7 (.slice a_st_7 st.Keeps.length n_st_7) (s125.chunk 3 rfl) ?_
              refine Op.pg 38 [(46, .bool (decide (k < (st.Keeps.length : Int))))] ?_
              refine At.if' (decide (k < (st.Keeps.length : Int))) 46 39 42 (fun c127 => ?_) (fun c128 => ?_)
              ·replace c127 := of_decide_eq_true c127
               refine At.rp 11 2 [(49, .slice a121 out2.length n122), (50, .pointer (some ⟨b20, 7, none⟩))] ?_
               refine Op.ld (n := 1) 44 (.tmp 50) 51 7 (.slice a_st_7 st.Keeps.length n_st_7) (s125.chunk 3 rfl) ?_
               refine Op.px 1 [(52, .int .i64 k)] ?_
               obtain ⟨x129, hx130⟩ := getAt (l := st.Keeps) (i := k) (by omega)
               obtain ⟨b131, o132, cu133, fz134, ha135, hb136, hk137⟩ := SlR.at_ h_st_7 _ hx130
               cases ha135
               refine Op.ix 44 3 1 8 st.Keeps.length n_st_7 (.tmp 51) (.tmp 52) 53 b131 o132 k (by omega) (by omega) ?_
               replace hk137 : cut _ _ _ = [.int .i64 x129] := hk137
               refine Op.ld (n := 1) 3 (.tmp 53) 54 (o132 + (k : Int).toNat * 1) (.int .i64 x129) (s125.sub _ _ hb136) ?_ (hv := (cut_get hk137 0 rfl))
               refine Op.c1 55 (showR _ _ _ s125.sub hG x129 (by ((try dsimp only) <;> ((have h7 := ho.2.2.2.2.2.2.2.2 x129 (List.mem_of_getElem? hx130); omega)))) (by ((try dsimp only) <;> ((have h7 := ho.2.2.2.2.2.2.2.2 x129 (List.mem_of_getElem? hx130); omega)))) ) s125 ?_
               intro h138 s139
               refine Op.sa 9 9 (.const (.string (mkS ([32])))) (.tmp 55) 56 ([32]) (Lib.itoa x129) (by (have h7 := ho.2.2.2.2.2.2.2.2 x129 (List.mem_of_getElem? hx130); have := itoa_len20 h7.1 h7.2; simp only [List.length_append, List.length_cons, List.length_nil]; omega)) ?_
               refine Op.toBytes (S := 9) (T := 29) (E := 5) (x := (.tmp 56)) (dst := 57) (l := ([32]) ++ (Lib.itoa x129)) (by kernel_rfl) (by kernel_rfl) (by kernel_rfl) (by kernel_rfl) (by kernel_rfl) (by (have h7 := ho.2.2.2.2.2.2.2.2 x129 (List.mem_of_getElem? hx130); have := itoa_len20 h7.1 h7.2; simp only [List.length_append, List.length_cons, List.length_nil]; omega)) s139 ?_
               intro v142 ch143 h144 R145 s146
               obtain ⟨a147, n148, rfl⟩ := R145.form
               obtain ⟨ns149, hs150, hr151⟩ := Src.slice (P := Tryz.prog) (R145.toH s146 0 rfl)
               refine Op.appendS (x := (.tmp 49)) (y := (.tmp 57)) (t := 29) (t' := 29) (dst := 58) (E := 5) (by_ := 1) (d := kU8) (by kernel_rfl) (by kernel_rfl) (by kernel_rfl) (by kernel_rfl) rfl R124 s146 1 rfl hs150 (ys := ([32]) ++ (Lib.itoa x129)) hr151 rfl (by (have := cmdF_len (k := st.Kind - 1) ⟨by omega, by omega⟩; have h7 := ho.2.2.2.2.2.2.2.2 x129 (List.mem_of_getElem? hx130); have := itoa_len20 h7.1 h7.2; unfold stOk at ho; simp only [List.length_append, List.length_cons, List.length_nil]; omega)) (fun _ _ _ => trivial) ?_
               intro v152 ch153 h154 R155 s156 nn157
               obtain ⟨a158, n159, rfl⟩ := R155.form
               refine Op.pg 40 [(5, .slice a158 ((out2 ++ (([32]) ++ (Lib.itoa x129))).length) n159)] ?_
               refine At.rp 3 1 [(47, .int .i64 k)] ?_
               refine Op.v64 48 (k + 1) (by omega) (by (unfold stOk at ho; omega)) ?_
               refine Op.pg 37 [(9, .int .i64 (k + 1))] ?_
               refine At.kp [(1, .pointer (some ⟨b20, 0, none⟩)), (4, .pointer (some ⟨b42, 0, none⟩)), (5, .slice a158 ((out2 ++ (([32]) ++ (Lib.itoa x129))).length) n159), (6, .string (mkS (formsL.getD (0 + (st.Kind - 1 : Int).toNat * 2 + 1) []))), (7, .int .i64 i), (9, .int .i64 (k + 1))] ?_
               have s160 := s156.drop
               exact ih37  (out2 ++ (([32]) ++ (Lib.itoa x129))) (k + 1) _ _ _ _ (by omega) (by omega) (by (have h7 := ho.2.2.2.2.2.2.2.2 x129 (List.mem_of_getElem? hx130); have := itoa_len20 h7.1 h7.2; simp only [List.length_append, List.length_cons, List.length_nil]; omega)) (by exact keepI_step hK k0 hx130) (by omega) R155 s160
              ·replace c128 := of_decide_eq_false c128
               refine At.rp 3 1 [(37, .int .i64 i)] ?_
               refine Op.v64 38 (i + 1) (by omega) (by (have := cmdF_len (k := st.Kind - 1) ⟨by omega, by omega⟩; omega)) ?_
               refine Op.pg 10 [(7, .int .i64 (i + 1))] ?_
               refine At.kp [(1, .pointer (some ⟨b20, 0, none⟩)), (4, .pointer (some ⟨b42, 0, none⟩)), (5, .slice a121 out2.length n122), (6, .string (mkS (formsL.getD (0 + (st.Kind - 1 : Int).toNat * 2 + 1) []))), (7, .int .i64 (i + 1))] ?_
               exact ih10  out2 (i + 1) _ _ _ _ (by omega) (by omega) (by (unfold stOk at ho; omega)) (by exact keepI_end hK h0 (by assumption) (not_isW (by assumption) (by assumption) (by assumption) (by assumption) (by assumption) (by assumption)) c128) (by omega) R124 s125
            refine At.kp [(1, .pointer (some ⟨b20, 0, none⟩)), (4, .pointer (some ⟨b42, 0, none⟩)), (5, .slice a54 out.length n55), (6, .string (mkS (formsL.getD (0 + (st.Kind - 1 : Int).toNat * 2 + 1) []))), (7, .int .i64 i), (9, .int .i64 0)] ?_
            exact loop37 _  out 0 _ _ _ _ (Nat.lt_succ_self _) (by omega) (by omega) (by exact keepI_0 hO) (by omega) R57 s58
     ·replace c61 := of_decide_eq_false c61
      refine At.rp 3 1 [(116, .slice a54 out.length n55)] ?_
      refine Op.ofBytes (T := 29) (S := 9) (E := 5) (x := (.tmp 116)) (dst := 117) (l := out) (by kernel_rfl) (by kernel_rfl) (by kernel_rfl) (by kernel_rfl) (by kernel_rfl) (R57.toH s58 0 rfl) ?_
      refine Op.pg 44 [(2, .string (mkS out))] ?_
      refine At.rt (.string (mkS out)) ?_
      have s161 := s58.drop.drop.drop.drop
      refine hR _ _ _ _ s161 ⟨?_, rfl, rfl⟩
      exact (eqS (by exact textI_end hO (by omega) (by omega) (by assumption)))
   refine At.kp [(1, .pointer (some ⟨b20, 0, none⟩)), (4, .pointer (some ⟨b42, 0, none⟩)), (5, .slice a52 ((formsL.getD (0 + (st.Kind - 1 : Int).toNat * 2) []).length) n53), (6, .string (mkS (formsL.getD (0 + (st.Kind - 1 : Int).toNat * 2 + 1) []))), (7, .int .i64 0)] ?_
   exact loop10 _  (formsL.getD (0 + (st.Kind - 1 : Int).toNat * 2) []) 0 _ _ _ _ (Nat.lt_succ_self _) (by omega) (by (have := cmdK_len (k := st.Kind - 1) ⟨by omega, by omega⟩; omega)) (by exact textI_0 st) (by omega) R50 s51
end Go.Proofs.YtmjebehhpojihaaGreatDoor.Sw
namespace Go.Proofs.YtmjebehhpojihaaGreatDoor.Sw
set_option linter.unusedVariables false
set_option linter.unusedSimpArgs false
set_option linter.deprecated false
open Go
def linesW (s : List UInt8) : List (List UInt8) := if (splitOn 10 s).getLast? = some [] then (splitOn 10 s).dropLast else splitOn 10 s
theorem linesW_hit (a r : List UInt8) (h : 10 ∉ a) : linesW (a ++ 10 :: r) = a :: linesW r := by
  unfold linesW
  rw [splitOn_hit 10 a r h]
  rcases hs : splitOn 10 r with _ | ⟨x, y⟩
  · exact absurd hs (splitOn_ne _ _)
  · rw [List.getLast?_cons_cons, List.dropLast_cons₂]
    split <;> rfl
theorem linesW_miss (a : List UInt8) (h : 10 ∉ a) (hn : a ≠ []) : linesW a = [a] := by
  unfold linesW
  rw [splitOn_miss 10 a h]
  simp [hn]
def skipW : List UInt8 → Bool
  | [] => true
  | c :: _ => c == 35
def parseG : List (List UInt8) → Int → List Step → List Step × Int × Int
  | [], _, out => (out, 0, 0)
  | l :: L, n, out => if skipW l then parseG L (n + 1) out else if (lineR l).2 then parseG L (n + 1) (out ++ [(lineR l).1]) else ([], n + 1, 240)
def parseW (s : List UInt8) : List Step × Int × Int := parseG (linesW s) 0 []
section
variable {s0 s l : List UInt8} {n k i : Int} {out : List Step} {c : UInt8} {L : List (List UInt8)}
theorem scan_0 (s : List UInt8) : 10 ∉ s.take (0 : Int).toNat := by simp
theorem scan_step (H : 10 ∉ s.take k.toNat) (h0 : 0 ≤ k) (hc : s[k.toNat]? = some c) (h : ¬ (c.toNat : Int) = 10) : 10 ∉ s.take (k + 1).toNat := by
  rw [toNat_succ h0, take_at hc, List.mem_append, not_or]
  refine ⟨H, fun hm => ?_⟩
  rw [List.mem_singleton] at hm
  subst hm
  exact h rfl
theorem cut_hit (H : 10 ∉ s.take k.toNat) (hc : s[k.toNat]? = some c) (h : (c.toNat : Int) = 10) : linesW s = s.take k.toNat :: linesW ((s.drop k.toNat).drop (1 : Int).toNat) := by
  obtain rfl := (u8eq (d := 10)).1 h
  have e := linesW_hit (s.take k.toNat) (s.drop (k.toNat + 1)) H
  have e2 : s = s.take k.toNat ++ 10 :: s.drop (k.toNat + 1) := by rw [← drop_at hc, List.take_append_drop]
  rw [← e2] at e
  rw [e, List.drop_drop]
  rfl
theorem cut_miss (H : 10 ∉ s.take k.toNat) (hs : (s.length : Int) > 0) (h : ¬ k < (s.length : Int)) : linesW s = s.take k.toNat :: linesW (s.drop k.toNat) := by
  have e1 : s.take k.toNat = s := List.take_of_length_le (by omega)
  have e2 : s.drop k.toNat = [] := List.drop_of_length_le (by omega)
  rw [e1] at H
  rw [e1, e2, linesW_miss s H (by intro hh; subst hh; simp at hs)]
  rfl
theorem parse_end (H : parseW s0 = parseG (linesW s) n out) (h : ¬ (s.length : Int) > 0) : parseW s0 = (out, 0, 0) := by
  have : s = [] := List.eq_nil_of_length_eq_zero (by omega)
  subst this
  exact H
theorem parse_skip1 (H : parseW s0 = parseG (l :: L) n out) (h : l = []) : parseW s0 = parseG L (n + 1) out := by subst h; exact H
theorem skip_1 (h : ¬ l = []) (hc : l[(0 : Int).toNat]? = some c) : skipW l = (c == 35) := by
  rcases l with _ | ⟨a, b⟩
  · exact absurd rfl h
  · simp at hc; subst hc; rfl
theorem parse_skip2 (H : parseW s0 = parseG (l :: L) n out) (h : ¬ l = []) (hc : l[(0 : Int).toNat]? = some c) (h35 : (c.toNat : Int) = 35) : parseW s0 = parseG L (n + 1) out := by
  obtain rfl := (u8eq (d := 35)).1 h35
  rw [H, parseG, skip_1 h hc]
  rfl
theorem skip_no (h : ¬ l = []) (hc : l[(0 : Int).toNat]? = some c) (h35 : ¬ (c.toNat : Int) = 35) : skipW l = false := by
  rw [skip_1 h hc]
  exact beq_eq_false_iff_ne.2 (u8ne (d := 35) h35)
theorem parse_bad (H : parseW s0 = parseG (l :: L) n out) (h : skipW l = false) (hl : (lineR l).2 = false) : parseW s0 = ([], n + 1, 240) := by
  rw [H, parseG, h, hl]
  rfl
theorem parse_add (H : parseW s0 = parseG (l :: L) n out) (h : skipW l = false) (hl : (lineR l).2 = true) : parseW s0 = parseG L (n + 1) (out ++ [(lineR l).1]) := by
  rw [H, parseG, h, hl]
  rfl
theorem proj3 {x : List Step × Int × Int} {a : List Step} {b c : Int} (h : x = (a, b, c)) : a = x.1 ∧ b = x.2.1 ∧ c = x.2.2 := by rw [h]; exact ⟨rfl, rfl, rfl⟩
end
def okS (st : Step) : Bool := decide ((parseW (textW st)).1 = [st]) && decide ((parseW (textW st)).2.2 = 0)
def showT (list : List Step) : List UInt8 := list.flatMap fun st => textW st ++ [10]
def showW (list : List Step) : List UInt8 × Int := if list.all okS then (showT list, 0) else ([], 240)
def shI (list : List Step) (out : List UInt8) (i : Int) : Prop := out = showT (list.take i.toNat) ∧ (list.take i.toNat).all okS = true
section
variable {list : List Step} {out : List UInt8} {i : Int} {st : Step}
theorem shI_0 (list : List Step) : shI list [] 0 := ⟨rfl, rfl⟩
theorem shI_step (H : shI list out i) (h0 : 0 ≤ i) (hx : list[i.toNat]? = some st) (h : okS st = true) : shI list (out ++ (textW st ++ [10])) (i + 1) := by
  unfold shI at *
  rw [toNat_succ h0, take_at hx, H.1]
  refine ⟨?_, ?_⟩
  · unfold showT; rw [List.flatMap_append]; simp
  · rw [List.all_append, H.2]; simp [h]
theorem shI_end (H : shI list out i) (h : ¬ i < (list.length : Int)) : out = (showW list).1 ∧ 0 = (showW list).2 := by
  unfold shI at H
  rw [List.take_of_length_le (by omega)] at H
  unfold showW
  rw [if_pos H.2]
  exact ⟨H.1, rfl⟩
theorem show_bad (hx : list[i.toNat]? = some st) (h : okS st = false) : [] = (showW list).1 ∧ 240 = (showW list).2 := by
  have : list.all okS = false := by
    rw [← Bool.not_eq_true, List.all_eq_true]
    intro hh
    rw [hh st (List.mem_of_getElem? hx)] at h
    cases h
  unfold showW
  rw [this]
  exact ⟨rfl, rfl⟩
theorem okS_1 (h : ¬ (parseW (textW st)).2.2 = 0) : okS st = false := by unfold okS; rw [decide_eq_false h, Bool.and_false]
theorem okS_2 (h : ¬ ((parseW (textW st)).1.length : Int) = 1) : okS st = false := by
  unfold okS
  rw [decide_eq_false (fun e => h (by rw [e]; rfl)), Bool.false_and]
theorem one_of (hx : list[i.toNat]? = some st) (h0 : 0 ≤ i) : (list.take (i + 1).toNat).drop i.toNat = [st] := by
  obtain ⟨hl, _⟩ := List.getElem?_eq_some_iff.1 hx
  rw [toNat_succ h0, take_at hx, List.drop_left' (by rw [List.length_take]; omega)]
theorem okS_3 (hx : list[i.toNat]? = some st) (h0 : 0 ≤ i) (h : decide ((parseW (textW st)).1 = (list.take (i + 1).toNat).drop i.toNat) = false) : okS st = false := by
  rw [one_of hx h0] at h
  unfold okS
  rw [h, Bool.false_and]
theorem okS_y (hx : list[i.toNat]? = some st) (h0 : 0 ≤ i) (h1 : (parseW (textW st)).2.2 = 0) (h : decide ((parseW (textW st)).1 = (list.take (i + 1).toNat).drop i.toNat) = true) : okS st = true := by
  rw [one_of hx h0] at h
  unfold okS
  rw [h, decide_eq_true h1]
  rfl
end
theorem step_eq (a b : Step) : decide (a = b) = (decide (a.Kind = b.Kind) && (decide (a.Role = b.Role) && (decide (a.K = b.K) && (decide (a.Power = b.Power) && (decide (a.Node = b.Node) && (decide (a.Data = b.Data) && decide (a.Keeps = b.Keeps))))))) := by
  obtain ⟨a1, a2, a3, a4, a5, a6, a7⟩ := a
  obtain ⟨b1, b2, b3, b4, b5, b6, b7⟩ := b
  rw [Bool.eq_iff_iff]
  simp [Step.mk.injEq]
theorem stN {a b : Step} (h : ¬ a.Kind = b.Kind ∨ ¬ a.Role = b.Role ∨ ¬ a.K = b.K ∨ ¬ a.Power = b.Power ∨ ¬ a.Node = b.Node ∨ ¬ a.Data = b.Data ∨ ¬ a.Keeps = b.Keeps) : ¬ a = b := by
  intro e
  subst e
  rcases h with h | h | h | h | h | h | h
  all_goals exact h rfl
theorem stY {a b : Step} (h1 : a.Kind = b.Kind) (h2 : a.Role = b.Role) (h3 : a.K = b.K) (h4 : a.Power = b.Power) (h5 : a.Node = b.Node) (h6 : a.Data = b.Data) (h7 : a.Keeps = b.Keeps) : a = b := by
  rcases a; rcases b
  simp_all
def evOk (e : Event) : Prop := (-9223372036854775808 ≤ e.Client ∧ e.Client ≤ 9223372036854775807) ∧ (-9223372036854775808 ≤ e.Stamp ∧ e.Stamp ≤ 9223372036854775807) ∧ (-9223372036854775808 ≤ e.Asked ∧ e.Asked ≤ 9223372036854775807) ∧
  (-9223372036854775808 ≤ e.Answered ∧ e.Answered ≤ 9223372036854775807) ∧ e.Op.length ≤ 100000 ∧ e.Answer.length ≤ 100000
def tellW (e : Event) : List UInt8 := ((((((((((Lib.itoa e.Client ++ [32]) ++ Lib.itoa e.Stamp) ++ [32]) ++ Lib.itoa e.Asked) ++ [32]) ++ Lib.itoa e.Answered) ++ [32]) ++ hexW e.Op) ++ [32]) ++ hexW e.Answer)
end Go.Proofs.YtmjebehhpojihaaGreatDoor.Sw
namespace Go.Proofs.YtmjebehhpojihaaGreatDoor.Sw
set_option linter.unusedVariables false
set_option linter.unusedSimpArgs false
set_option linter.deprecated false
open Go
theorem cut_ok {p : Str} (h : cutErr p = 0) : pOk p = true := by
  cases hp : pOk p with
  | true => rfl
  | false =>
    have : pList p = [] := by unfold pList; rw [hp]; rfl
    exact absurd h (cutErr_90 this)
theorem cut_root : ¬ cutErr [47] = 0 := by decide
theorem cut_of {p : Str} (h : pOk p = true) (hne : p ≠ [47]) : cutErr p = 0 := (round_p (pErr_ok.2 h) hne).1
theorem cut_ne47 {p : Str} (h : cutErr p = 0) : p ≠ [47] := fun e => cut_root (e ▸ h)
def NodeOk (k : Int) (ns : List Leaf) (n : Leaf) : Prop :=
  pOk n.Path = true ∧ n.Data.length ≤ 128 ∧ -1 ≤ n.Owner ∧ (0 ≤ n.Version ∧ n.Version ≤ k) ∧ (0 ≤ n.Next ∧ n.Next ≤ k) ∧ 0 ≤ n.Born ∧ (n.Path = [47] ∧ n.Owner = -1 ∧ n.Born = 0 ∨ cutErr n.Path = 0 ∧ ∃ u ∈ ns, u.Path = parentOf n.Path ∧ u.Owner = -1)
structure TreeOk (k : Int) (ns : List Leaf) : Prop where
  sort : SortL ns
  len : ns.length ≤ 32
  root : ∃ r ∈ ns, r.Path = [47]
  node : ∀ n ∈ ns, NodeOk k ns n
theorem TreeOk.mono {k k' : Int} {ns : List Leaf} (H : TreeOk k ns) (h : k ≤ k') : TreeOk k' ns :=
  ⟨H.sort, H.len, H.root, fun n hn => by
    obtain ⟨h1, h2, h3, h4, h5, h6, h7⟩ := H.node n hn
    exact ⟨h1, h2, h3, ⟨h4.1, by omega⟩, ⟨h5.1, by omega⟩, h6, h7⟩⟩
theorem TreeOk.new : TreeOk 0 [⟨[47], [], 0, -1, 0, 0⟩] :=
  ⟨List.pairwise_singleton _ _, by decide, ⟨_, .head _, rfl⟩, fun n hn => by
    rw [List.mem_singleton] at hn
    subst hn
    exact ⟨by decide, by decide, by decide, by decide, by decide, by decide, .inl ⟨rfl, rfl, rfl⟩⟩⟩
theorem TreeOk.b {k : Int} {ns : List Leaf} (H : TreeOk k ns) (hk : k ≤ 1000000) : TreeB ns :=
  ⟨by have := H.len; omega, fun n hn => by
    obtain ⟨h1, h2, h3, h4, h5, h6, h7⟩ := H.node n hn
    exact ⟨pOk_len h1, h2, by omega, by omega⟩⟩
theorem mem_with {ns : List Leaf} {l n : Leaf} : n ∈ withL ns l ↔ n = l ∨ n ∈ ns ∧ n.Path ≠ l.Path := by
  rw [(withL_perm ns l).mem_iff, List.mem_cons]
  unfold delL
  rw [List.mem_filter]
  simp
theorem mem_del {ns : List Leaf} {p : Str} {n : Leaf} : n ∈ delL ns p ↔ n ∈ ns ∧ n.Path ≠ p := by
  unfold delL
  rw [List.mem_filter]
  simp
theorem SortL.uniq {ns : List Leaf} (h : SortL ns) {a b : Leaf} (ha : a ∈ ns) (hb : b ∈ ns) (e : a.Path = b.Path) : a = b := by
  have h1 := findL_of h.nodup ha
  have h2 := findL_of h.nodup hb
  rw [e, h2] at h1
  exact (Option.some.inj h1).symm
theorem delL_len {ns : List Leaf} (hs : SortL ns) {u : Leaf} (hu : u ∈ ns) : (delL ns u.Path).length + 1 = ns.length := by
  have hn := hs.nodup
  clear hs
  induction ns with
  | nil => cases hu
  | cons n ns ih =>
    rw [List.map_cons, List.nodup_cons] at hn
    rcases List.mem_cons.1 hu with rfl | hu
    · have : delL (u :: ns) u.Path = ns := by
        unfold delL
        rw [List.filter_cons]
        simp only [decide_true, Bool.not_true, Bool.false_eq_true, if_false]
        exact delL_none (findL_none.2 fun x hx e => hn.1 (e ▸ List.mem_map.2 ⟨x, hx, rfl⟩))
      rw [this, List.length_cons]
    · have hne : n.Path ≠ u.Path := fun e => hn.1 (e ▸ List.mem_map.2 ⟨u, hu, rfl⟩)
      have : delL (n :: ns) u.Path = n :: delL ns u.Path := by
        unfold delL
        rw [List.filter_cons]
        simp [hne]
      rw [this, List.length_cons, List.length_cons, ih hu hn.2]
theorem withL_len {ns : List Leaf} (hs : SortL ns) {u l : Leaf} (hu : u ∈ ns) (e : l.Path = u.Path) : (withL ns l).length = ns.length := by
  rw [(withL_perm ns l).length_eq, List.length_cons, e, delL_len hs hu]
theorem withL_len1 {ns : List Leaf} {l : Leaf} (h : findL ns l.Path = none) : (withL ns l).length = ns.length + 1 := by
  rw [(withL_perm ns l).length_eq, List.length_cons, delL_none h]
theorem TreeOk.put {k : Int} {ns : List Leaf} (H : TreeOk k ns) {u l : Leaf} (hu : u ∈ ns) (hp : l.Path = u.Path) (ho : l.Owner = u.Owner) (hb : l.Born = u.Born) (hd : l.Data.length ≤ 128) (hv : 0 ≤ l.Version ∧ l.Version ≤ k) (hn : 0 ≤ l.Next ∧ l.Next ≤ k) : TreeOk k (withL ns l) := by
  have hmem : ∀ x ∈ ns, ∃ y ∈ withL ns l, y.Path = x.Path ∧ y.Owner = x.Owner := fun x hx => by
    by_cases e : x.Path = l.Path
    · have : x = u := H.sort.uniq hx hu (e.trans hp)
      subst this
      exact ⟨l, mem_with.2 (.inl rfl), hp, ho⟩
    · exact ⟨x, mem_with.2 (.inr ⟨hx, e⟩), rfl, rfl⟩
  refine ⟨withL_sort H.sort l, by rw [withL_len H.sort hu hp]; exact H.len, ?_, fun n hn' => ?_⟩
  · obtain ⟨r, hr, er⟩ := H.root
    obtain ⟨y, hy, e, _⟩ := hmem r hr
    exact ⟨y, hy, e.trans er⟩
  · have hup : ∀ {q : Str}, (∃ u ∈ ns, u.Path = q ∧ u.Owner = -1) → ∃ u ∈ withL ns l, u.Path = q ∧ u.Owner = -1 := by
      rintro q ⟨x, hx, h1, h2⟩
      obtain ⟨y, hy, e1, e2⟩ := hmem x hx
      exact ⟨y, hy, e1.trans h1, e2.trans h2⟩
    rcases mem_with.1 hn' with rfl | ⟨hn', _⟩
    · obtain ⟨h1, h2, h3, h4, h5, h6, h7⟩ := H.node u hu
      refine ⟨hp ▸ h1, hd, ho ▸ h3, hv, hn, hb ▸ h6, ?_⟩
      rw [hp, ho, hb]
      exact h7.imp id fun h => ⟨h.1, hup h.2⟩
    · obtain ⟨h1, h2, h3, h4, h5, h6, h7⟩ := H.node n hn'
      exact ⟨h1, h2, h3, h4, h5, h6, h7.imp id fun h => ⟨h.1, hup h.2⟩⟩
theorem TreeOk.add {k : Int} {ns : List Leaf} (H : TreeOk k ns) {l : Leaf} (hl : ns.length < 32) (hf : findL ns l.Path = none) (hc : cutErr l.Path = 0) (hu : ∃ u ∈ ns, u.Path = parentOf l.Path ∧ u.Owner = -1) (hd : l.Data.length ≤ 128) (ho : -1 ≤ l.Owner) (hv : 0 ≤ l.Version ∧ l.Version ≤ k) (hn : 0 ≤ l.Next ∧ l.Next ≤ k) (hb : 0 ≤ l.Born) :
    TreeOk k (withL ns l) := by
  have hmem : ∀ x ∈ ns, x ∈ withL ns l := fun x hx => mem_with.2 (.inr ⟨hx, findL_none.1 hf x hx⟩)
  have hup : ∀ {q : Str}, (∃ u ∈ ns, u.Path = q ∧ u.Owner = -1) → ∃ u ∈ withL ns l, u.Path = q ∧ u.Owner = -1 := fun ⟨x, hx, h⟩ => ⟨x, hmem x hx, h⟩
  refine ⟨withL_sort H.sort l, by rw [withL_len1 hf]; omega, ?_, fun n hn' => ?_⟩
  · obtain ⟨r, hr, er⟩ := H.root
    exact ⟨r, hmem r hr, er⟩
  · rcases mem_with.1 hn' with rfl | ⟨hn', _⟩
    · exact ⟨cut_ok hc, hd, ho, hv, hn, hb, .inr ⟨hc, hup hu⟩⟩
    · obtain ⟨h1, h2, h3, h4, h5, h6, h7⟩ := H.node n hn'
      exact ⟨h1, h2, h3, h4, h5, h6, h7.imp id fun h => ⟨h.1, hup h.2⟩⟩
theorem kids_mem {ns : List Leaf} {p q : Str} : q ∈ kidsL ns p ↔ ∃ n ∈ ns, n.Path = q ∧ cutErr q = 0 ∧ parentOf q = p := by
  unfold kidsL kidB
  rw [List.mem_map]
  constructor
  · rintro ⟨n, hn, rfl⟩
    rw [List.mem_filter] at hn
    simp only [Bool.and_eq_true, decide_eq_true_eq] at hn
    exact ⟨n, hn.1, rfl, hn.2⟩
  · rintro ⟨n, hn, rfl, h⟩
    exact ⟨n, List.mem_filter.2 ⟨hn, by simpa using h⟩, rfl⟩
theorem kids_none {ns : List Leaf} {p : Str} (h : kidsL ns p = []) {n : Leaf} (hn : n ∈ ns) (hc : cutErr n.Path = 0) : parentOf n.Path ≠ p := fun e => by
  have : n.Path ∈ kidsL ns p := kids_mem.2 ⟨n, hn, rfl, hc, e⟩
  rw [h] at this
  cases this
theorem TreeOk.del {k : Int} {ns : List Leaf} (H : TreeOk k ns) {p : Str} (hp : p ≠ [47]) (hk : kidsL ns p = []) : TreeOk k (delL ns p) := by
  refine ⟨delL_sort H.sort p, Nat.le_trans (List.length_filter_le _ _) H.len, ?_, fun n hn => ?_⟩
  · obtain ⟨r, hr, er⟩ := H.root
    exact ⟨r, mem_del.2 ⟨hr, er ▸ hp.symm⟩, er⟩
  · obtain ⟨hn, hne⟩ := mem_del.1 hn
    obtain ⟨h1, h2, h3, h4, h5, h6, h7⟩ := H.node n hn
    refine ⟨h1, h2, h3, h4, h5, h6, h7.imp id fun h => ⟨h.1, ?_⟩⟩
    obtain ⟨u, hu, e1, e2⟩ := h.2
    exact ⟨u, mem_del.2 ⟨hu, fun e => kids_none hk hn h.1 (e1.symm.trans e)⟩, e1, e2⟩
theorem wrapI {x : Int} (h0 : -9223372036854775808 ≤ x) (h1 : x ≤ 9223372036854775807) : IntKind.wrap .i64 x = x := by
  have := wrapEq_i64 h0 h1
  injection this
theorem wrapS {x : Int} (h0 : 0 ≤ x) (h1 : x ≤ 1000000) : IntKind.wrap .i64 (x + 1) = x + 1 := wrapI (by omega) (by omega)
section
variable {k : Int} {ns : List Leaf} {p data : Str} {owner born ver : Int} {num : Bool}
theorem drop_ok (h : (dropT ns p ver).2 = 0) : ∃ l, cutErr p = 0 ∧ findL ns p = some l ∧ kidsL ns p = [] ∧ dropT ns p ver = (delL ns p, 0) := by
  unfold dropT at h ⊢
  by_cases h1 : cutErr p = 0
  · simp only [h1, ne_eq, not_true_eq_false, if_false] at h ⊢
    cases hf : findL ns p with
    | none => simp [hf] at h
    | some l =>
      simp only [hf] at h ⊢
      by_cases h2 : ver ≥ 0 ∧ l.Version ≠ ver
      · rw [if_pos h2] at h; cases h
      · rw [if_neg h2] at h ⊢
        by_cases h3 : kidsL ns p = []
        · exact ⟨l, trivial, rfl, h3, by simp [h3]⟩
        · rw [if_pos h3] at h; cases h
  · simp [h1] at h
theorem drop_no (h : (dropT ns p ver).2 ≠ 0) : (dropT ns p ver).1 = ns := by
  unfold dropT at h ⊢
  split
  · rfl
  · rename_i h1
    rw [if_neg h1] at h
    split
    · rfl
    · rename_i l hf
      simp only [hf] at h
      split
      · rfl
      · rename_i h2
        rw [if_neg h2] at h
        split
        · rfl
        · rename_i h3
          rw [if_neg h3] at h
          exact absurd rfl h
theorem TreeOk.drop (H : TreeOk k ns) : TreeOk k (dropT ns p ver).1 := by
  by_cases h : (dropT ns p ver).2 = 0
  · obtain ⟨l, hc, hf, hk, e⟩ := drop_ok h
    rw [e]
    exact H.del (cut_ne47 hc) hk
  · rw [drop_no h]; exact H
theorem TreeOk.set (H : TreeOk k ns) (hk : k ≤ 100000) : TreeOk (k + 1) (setT ns p data ver).1 := by
  have H1 := H.mono (k' := k + 1) (by omega)
  unfold setT
  split
  · exact H1
  · split
    · exact H1
    · rename_i l hf
      split
      · exact H1
      · split
        · exact H1
        · rename_i hd
          obtain ⟨hu, _⟩ := findL_some hf
          obtain ⟨h1, h2, h3, h4, h5, h6, h7⟩ := H.node l hu
          rw [wrapS h4.1 (by omega)]
          exact H1.put hu rfl rfl rfl (by show data.length ≤ 128; omega) ⟨by show 0 ≤ l.Version + 1; omega, by show l.Version + 1 ≤ k + 1; omega⟩ ⟨h5.1, by show l.Next ≤ k + 1; omega⟩
end
section
variable {k : Int} {ns : List Leaf}
theorem TreeOk.find (H : TreeOk k ns) {n : Leaf} (hn : n ∈ ns) : findE ns n.Path = 0 := findE_3 (pErr_ok.2 (H.node n hn).1) (findL_of H.sort.nodup hn)
theorem TreeOk.get (H : TreeOk k ns) {n : Leaf} (hn : n ∈ ns) : getT ns n.Path = (n, 0) := getT_2 (H.find hn) (findL_of H.sort.nodup hn)
def sumK (ns us : List Leaf) : Nat := (us.map fun u => (kidsL ns u.Path).length).sum
theorem sumK_cons (n : Leaf) (ms us : List Leaf) : sumK (n :: ms) us = (us.filter fun u => kidB u.Path n).length + sumK ms us := by
  unfold sumK
  induction us with
  | nil => rfl
  | cons u us ih =>
    rw [List.map_cons, List.sum_cons, ih, List.map_cons, List.sum_cons, List.filter_cons]
    have : (kidsL (n :: ms) u.Path).length = (if kidB u.Path n = true then 1 else 0) + (kidsL ms u.Path).length := by
      unfold kidsL
      rw [List.filter_cons]
      split
      · rw [List.map_cons, List.length_cons]; omega
      · omega
    rw [this]
    split
    · rw [List.length_cons]; omega
    · omega
theorem one_at {us : List Leaf} (hn : (us.map (·.Path)).Nodup) {q : Str} : (∃ u ∈ us, u.Path = q) → (us.filter fun u => decide (q = u.Path)).length = 1 := by
  rintro ⟨u, hu, rfl⟩
  induction us with
  | nil => cases hu
  | cons x us ih =>
    rw [List.map_cons, List.nodup_cons] at hn
    rw [List.filter_cons]
    rcases List.mem_cons.1 hu with rfl | hu
    · simp only [decide_true, if_true, List.length_cons]
      rw [List.filter_eq_nil_iff.2]
      · rfl
      · intro y hy e
        exact hn.1 (List.mem_map.2 ⟨y, hy, by simpa using (of_decide_eq_true e).symm⟩)
    · have : u.Path ≠ x.Path := fun e => hn.1 (List.mem_map.2 ⟨u, hu, e⟩)
      simp only [this, decide_false, Bool.false_eq_true, if_false]
      exact ih hn.2 hu
theorem sumK_eq {us : List Leaf} (hn : (us.map (·.Path)).Nodup) : ∀ ms : List Leaf, (∀ m ∈ ms, cutErr m.Path = 0 → ∃ u ∈ us, u.Path = parentOf m.Path) → sumK ms us = (ms.filter fun m => decide (cutErr m.Path = 0)).length
  | [], _ => by
    have h0 : ∀ vs : List Leaf, sumK [] vs = 0 := fun vs => by
      unfold sumK
      induction vs with
      | nil => rfl
      | cons u us ih => rw [List.map_cons, List.sum_cons, ih]; rfl
    rw [h0]
    rfl
  | m :: ms, h => by
    rw [sumK_cons, sumK_eq hn ms fun x hx => h x (.tail _ hx), List.filter_cons]
    by_cases hc : cutErr m.Path = 0
    · have h1 := one_at hn (h m (.head _) hc)
      have : (us.filter fun u => kidB u.Path m) = us.filter fun u => decide (parentOf m.Path = u.Path) := by
        apply List.filter_congr
        intro u hu
        simp [kidB, hc]
      rw [this, h1]
      simp only [hc, decide_true, if_true, List.length_cons]
      omega
    · have : (us.filter fun u => kidB u.Path m) = [] := by
        rw [List.filter_eq_nil_iff]
        intro u hu
        simp [kidB, hc]
      rw [this]
      simp [hc]
theorem TreeOk.sum (H : TreeOk k ns) : (sumK ns ns : Int) = (ns.length : Int) - 1 := by
  have h1 := sumK_eq H.sort.nodup ns fun m hm hc => by
    obtain ⟨_, _, _, _, _, _, h7⟩ := H.node m hm
    rcases h7 with h | ⟨_, u, hu, e, _⟩
    · exact absurd h.1 (cut_ne47 hc)
    · exact ⟨u, hu, e⟩
  have h2 : (ns.filter fun m => decide (cutErr m.Path = 0)) = delL ns [47] := by
    unfold delL
    apply List.filter_congr
    intro m hm
    by_cases e : m.Path = [47]
    · simp [e, cut_root]
    · simp [e, cut_of (H.node m hm).1 e]
  obtain ⟨r, hr, er⟩ := H.root
  have h3 := delL_len H.sort hr
  rw [er] at h3
  rw [h1, h2]
  omega
end
end Go.Proofs.YtmjebehhpojihaaGreatDoor.Sw
namespace Go.Proofs.YtmjebehhpojihaaGreatDoor.Sw
set_option linter.unusedVariables false
set_option linter.unusedSimpArgs false
set_option linter.deprecated false
open Go
section
variable {ns out : List Leaf} {l x : Leaf} {i : Int} {put : Bool}
end
section
variable {ns : List Leaf} {p data q : Str} {owner born ver o' b' : Int} {num : Bool} {up x : Leaf} {k : Int}
theorem u8_eq {a b : UInt8} (h : (a.toNat : Int) = (b.toNat : Int)) : a = b := UInt8.toNat_inj.1 (by omega)
theorem u8_ne {a b : UInt8} (h : ¬ (a.toNat : Int) = (b.toNat : Int)) : ¬ a = b := fun e => h (by rw [e])
end
section
variable {list : List Leaf} {i : Int} {l x : Leaf}
end
section
variable {list : List Leaf} {i : Int} {l x : Leaf}
end
end Go.Proofs.YtmjebehhpojihaaGreatDoor.Sw
