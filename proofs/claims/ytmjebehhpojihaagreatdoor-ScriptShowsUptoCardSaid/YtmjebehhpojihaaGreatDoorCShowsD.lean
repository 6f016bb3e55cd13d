/- Lemmas for a law of this seat: what the functions compute, and plain facts of it. Own text. -/
import Derived.Test.YtmjebehhpojihaaGreatDoorCShowsC
import Derived.Laws.CopyRow
import Derived.Laws.Append
namespace Go.Proofs.YtmjebehhpojihaaGreatDoor.Sw
set_option linter.unusedVariables false
set_option linter.unusedSimpArgs false
set_option linter.deprecated false
open Go
def elemI (P : Program) (T : TypeId) : Option (TypeId × Nat × Nat) :=
  match P.underlying T with
  | some (.slice E) => match P.info? E with
    | some i => match i.zero with
      | some z => if Nat.beq z.cells.size i.size && (Nat.blt 0 i.size && Nat.blt 0 i.bytes) then some (E, i.size, i.bytes) else none
      | none => none
    | none => none
  | _ => none
structure ElemI (P : Program) (T E : TypeId) (sz by_ : Nat) (i : TypeInfo) (z : Value) : Prop where
  under : P.underlying T = some (.slice E)
  info : P.info? E = some i
  zero : i.zero = some z
  cells : z.cells.size = sz
  size : i.size = sz
  bytes : i.bytes = by_
  pos : 0 < sz
  bpos : 0 < by_
theorem elemI_spec {P : Program} {T E : TypeId} {sz by_ : Nat} (h : elemI P T = some (E, sz, by_)) : ∃ i z, ElemI P T E sz by_ i z := by
  unfold elemI at h
  split at h
  · rename_i E' hu
    split at h
    · rename_i i hi
      split at h
      · rename_i z hz
        split at h
        · rename_i hc
          simp only [Bool.and_eq_true] at hc
          simp only [Option.some.injEq, Prod.mk.injEq] at h
          obtain ⟨rfl, rfl, rfl⟩ := h
          exact ⟨i, z, hu, hi, hz, Nat.eq_of_beq_eq_true hc.1, rfl, rfl, Nat.le_of_ble_eq_true hc.2.1, Nat.le_of_ble_eq_true hc.2.2⟩
        · cases h
      · cases h
    · cases h
  · cases h
def notInt (P : Program) (t : TypeId) : Bool := match P.underlying t with
  | some (.int _) => false
  | some _ => true
  | none => false
theorem notInt_spec {P : Program} {t : TypeId} (h : notInt P t = true) : ∃ d, P.underlying t = some d ∧ ∀ k, d ≠ .int k := by
  unfold notInt at h
  split at h
  · cases h
  · rename_i d hd hne; exact ⟨d, hne, hd⟩
  · cases h
structure Src (P : Program) (h : Heap) (sz : Nat) (x : Value) (m : Nat) (news : List Value) : Prop where
  len : ∀ w, w.heap = h → (Builtin.lenOf x).run P w = .ok m w
  cells : ∀ w, w.heap = h → ∀ k, k ≤ m → (Builtin.firstCells sz k x).run P w = .ok (news.take (k * sz)).toArray w
  size : news.length = m * sz
  one : ∀ v ∈ news, v.oneCell' = true
theorem Src.slice {α : Type} {P : Program} {h : Heap} {g : GH} {E : TypeId} {d : Kd α} {v : Value} {ys : List α} (hs : SlH h g E d v ys) : ∃ news, Src P h d.sz v ys.length news ∧ Reads d g ys news := by
  obtain ⟨ao, c, rfl, hc, H⟩ := hs
  by_cases hy : ys = []
  · subst hy
    refine ⟨[], ⟨fun w _ => rfl, fun w _ k hk => ?_, by simp, by simp⟩, rfl⟩
    obtain rfl : k = 0 := by simpa using hk
    cases ao with
    | none => simp [Builtin.firstCells]
    | some a => simp [Builtin.firstCells, loadCells, loadCellsFrom]
  · obtain ⟨b, o, cur, fz, rfl, hb, hr⟩ := H hy
    refine ⟨_, ⟨fun w _ => rfl, fun w hw k hk => ?_, hr.len, hr.one⟩, hr⟩
    have hcut : ((cut cur o (ys.length * d.sz)).take (k * d.sz)).length = k * d.sz := by
      have := hr.len
      rw [List.length_take, this, Nat.min_eq_left (Nat.mul_le_mul_right _ hk)]
    have := run_loadCells (P := P) (w := w) ⟨b, o, none⟩ ((cut cur o (ys.length * d.sz)).take (k * d.sz)) 0 #[] (fun j v hj => by
      rw [Nat.zero_add, add_flat, cell_of hw, hcell_row hb]
      unfold cut at hj
      rw [List.take_take, List.getElem?_take] at hj
      split at hj
      · simpa using hj
      · cases hj)
    rw [hcut] at this
    simpa [Builtin.firstCells, loadCells] using this
theorem Src.str (P : Program) (h : Heap) (l : List UInt8) : Src P h 1 (.string (mkS l)) l.length (l.map fun b => .int .u8 b.toNat) := by
  refine ⟨fun w _ => by simp [Builtin.lenOf, size_mkS], fun w _ k hk => ?_, by simp, by simp [Value.oneCell']⟩
  simp only [Builtin.firstCells, Nat.mul_one, extract_mkS, List.drop_zero]
  simp [mkS, List.map_take]
theorem reads_str (g : GH) : ∀ (l : List UInt8), Reads kU8 g l (l.map fun b => .int .u8 b.toNat)
  | [] => rfl
  | b :: l => ⟨[.int .u8 b.toNat], _, rfl, rfl, reads_str g l⟩
theorem size_zeros (z : Array Value) (n : Nat) : (Builtin.zeroCells z n).size = n * z.size := by simp [Builtin.zeroCells]
theorem grownCap_ge' (w : World) (need old : Nat) (e : TypeId) : need ≤ grownCap w need old e := by simp [grownCap, Question.cut]
theorem grownCap_max (w : World) (need old : Nat) (e : TypeId) (h : need ≤ maxLen) : grownCap w need old e ≤ maxLen := by
  have hlt := Nat.mod_lt (w.tape w.drawn (.appendCap need old e)) (show 0 < 2 ^ 63 - need by simp only [maxLen] at h; omega)
  simp only [grownCap, Question.cut, maxLen] at h ⊢
  omega
section
variable {P : Program} {w : World} {t t' ty E : TypeId} {sz by_ : Nat} {i : TypeInfo} {z : Value}
theorem run_app_room (I : ElemI P t E sz by_ i z) (ht' : notInt P t' = true) {b o n cap m : Nat} {x : Value} {news : List Value} (hx : Src P w.heap sz x m news)
    {cur : Array Value} {U : TypeId} (hb : w.heap[b]? = some (.cells cur U (0, 0))) (hroom : n + m ≤ cap) (hfit : o + cap * sz ≤ cur.size) :
    (Builtin.append_ #[t, t'] ty #[.slice (some ⟨b, o, none⟩) n cap, x]).run P w =
      .ok (.slice (some ⟨b, o, none⟩) (n + m) cap) (w.setRow b (cur.toList.take (o + n * sz) ++ news ++ cur.toList.drop (o + n * sz + news.length)).toArray) := by
  obtain ⟨d, hd, hd2⟩ := notInt_spec ht'
  have hc := hx.cells w rfl m (Nat.le_refl _)
  rw [← hx.size, List.take_length] at hc
  have h2 : (n + m) * sz ≤ cap * sz := Nat.mul_le_mul_right _ hroom
  rw [Nat.add_mul] at h2
  have hst := run_storeCells_at P b (o + n * sz) U news 0 cur w hb (by rw [hx.size]; omega) hx.one
  simp only [Nat.add_zero] at hst
  have hl := hx.len w rfl
  simp only [Builtin.append_, sizeOf, typeInfo]
  simp only [List.getElem?_toArray, List.getElem?_cons_zero, List.getElem?_cons_succ, Sem.run_bind, run_program, Result.andThen_ok, run_underlying I.under, run_underlying hd, I.info, Sem.run_pure, I.size]
  cases d <;> first | exact absurd rfl (hd2 _) | (simp only [Bool.false_eq_true, if_false, hl, Result.andThen_ok, hroom, if_true, Sem.run_bind, Bool.not_false, hc, add_flat, hst, Sem.run_pure])
theorem run_app_grow (I : ElemI P t E sz by_ i z) (ht' : notInt P t' = true) {ao : Option Addr} {n cap m : Nat} {x : Value} {olds news : List Value} (ho : Src P w.heap sz (.slice ao n cap) n olds) (hx : Src P w.heap sz x m news)
    (hg : cap < n + m) (hbytes : (n + m) * by_ ≤ 140737488355328) :
    (Builtin.append_ #[t, t'] ty #[.slice ao n cap, x]).run P w =
      .ok (.slice (some ⟨w.heap.size, 0, none⟩) (n + m) (grownCap w (n + m) cap E)) (w.drew.alloc (.cells ((olds ++ news).toArray ++ Builtin.zeroCells z.cells (grownCap w (n + m) cap E - (n + m))) E)) := by
  obtain ⟨d, hd, hd2⟩ := notInt_spec ht'
  have hc := hx.cells w.drew rfl m (Nat.le_refl _)
  rw [← hx.size, List.take_length] at hc
  have hco := ho.cells w.drew rfl n (Nat.le_refl _)
  rw [← ho.size, List.take_length] at hco
  have hfit := growslice_fits (old := cap) hg hbytes
  have hl := hx.len w rfl
  have hno : ¬ (n + m ≤ cap) := by omega
  have hlim : ¬ (281474976710656 < Builtin.nextslicecap (n + m) cap * i.bytes) := by rw [I.bytes]; omega
  have hsmall : ¬ (9223372036854775807 < (n : Int) + (m : Int)) := by
    have : (n + m) * 1 ≤ (n + m) * by_ := Nat.mul_le_mul_left _ I.bpos
    omega
  have hi := I.info
  have hz := I.zero
  simp only [Builtin.append_, sizeOf, typeInfo, zeroValue]
  simp only [List.getElem?_toArray, List.getElem?_cons_zero, List.getElem?_cons_succ, Sem.run_bind, run_program, Result.andThen_ok, run_underlying I.under, run_underlying hd, hi, Sem.run_pure, I.size]
  cases d <;> first | exact absurd rfl (hd2 _) | (simp [hl, hno, hsmall, hlim, hc, hco, Question.forced, newRow, grownCap, hi, hz]; congr 2; apply Array.ext'; simp [List.append_assoc])
end
theorem Keep.row {r : Heap} {M : Nat → Prop} {w : World} {b : Nat} {cs : Array Value} (hM : b < r.size → M b) (k : Keep r M w.heap) : Keep r M (w.setRow b cs).heap :=
  ⟨by rw [setRow_size]; exact k.size, fun x hx hm => (setRow_other w b x cs (fun e => hm (e ▸ hM (e ▸ hx)))).trans (k.same x hx hm)⟩
theorem Upd.row {w : World} {b : Nat} {cur cs : Array Value} {U : TypeId} {fz : Nat × Nat} (hb : w.heap[b]? = some (.cells cur U fz)) : Upd w.heap b (.cells cs U fz) (w.setRow b cs).heap :=
  ⟨setRow_size w b cs, setRow_heap w b cur cs U fz hb, fun k hk => setRow_other w b k cs hk⟩
section
variable {C : Ctx} {ds : List Deferred} {i j : Nat} {r : Heap} {M : Nat → Prop} {Ls : List (Nat × Bool)} {e : Env} {h : Heap}
variable {h0 : Heap} {g0 : GH} {S0 : Nat → Prop} {g : GH} {L L' : List Chunk}
theorem semOf_call {e : Env} {o : Oper} {b : Builtin} {args : Array Operand} {ts : Array TypeId} (h3 : o.op = .call { callee := .builtin b, args := args, argTypes := ts }) {w : World} {P : Program} {v : Value} {w' : World}
    (hb : b = .append ∨ b = .copy ∨ b = .len ∨ b = .cap ∨ b = .clear ∨ b = .delete ∨ b = .max ∨ b = .min)
    (hr : (match b with
      | .append => Builtin.append_ ts o.type (args.map e.ev)
      | .copy => Builtin.copy_ ts o.type (args.map e.ev)
      | .len => Builtin.len_ ts o.type (args.map e.ev)
      | .cap => Builtin.cap_ ts o.type (args.map e.ev)
      | .clear => Builtin.clear_ ts o.type (args.map e.ev)
      | .delete => Builtin.delete_ ts o.type (args.map e.ev)
      | .max => Builtin.max_ ts o.type (args.map e.ev)
      | _ => Builtin.min_ ts o.type (args.map e.ev)).run P w = .ok v w') : (semOf e o).run P w = .ok (.value v) w' := by
  unfold semOf execOp
  simp only [h3, resolve, Sem.run_bind, Sem.run_pure, Result.andThen_ok, invoke, builtin]
  rcases hb with rfl | rfl | rfl | rfl | rfl | rfl | rfl | rfl <;> simp_all
theorem reads_cut {α : Type} {d : Kd α} {g : GH} {xs : List α} {cs : List Value} (hr : Reads d g xs cs) {pre post : List Value} {o : Nat} (ho : pre.length = o) (arr : Array Value) (ha : arr.toList = pre ++ cs ++ post) :
    Reads d g xs (cut arr o (xs.length * d.sz)) := by
  unfold cut
  rw [ha, List.append_assoc, List.drop_append, List.drop_eq_nil_of_le (by omega), ← ho, Nat.sub_self, List.nil_append, List.drop_zero, List.take_left' hr.len]
  exact hr
theorem zeros_list (z : Array Value) : ∀ q, (Builtin.zeroCells z q).toList = (List.replicate q z.toList).flatten := by
  have h0 : ∀ q, (Builtin.zeroCells z q).toList = (List.range (q * z.size)).map fun i => z[i % z.size]! := by
    intro q
    unfold Builtin.zeroCells
    rw [Array.toList_map, Array.toList_range]
  intro q
  rw [h0]
  induction q with
  | zero => simp
  | succ q ih =>
    rw [List.replicate_succ, List.flatten_cons, ← ih, Nat.succ_mul, Nat.add_comm, List.range_add, List.map_append]
    congr 1
    · apply List.ext_getElem?
      intro k
      rw [List.getElem?_map]
      by_cases hk : k < z.size
      · rw [List.getElem?_range hk, Option.map_some, Nat.mod_eq_of_lt hk, getElem!_pos z k hk]
        simp [hk]
      · rw [List.getElem?_eq_none (by simpa using hk), List.getElem?_eq_none (by simpa using hk)]; rfl
    · rw [List.map_map]
      apply List.map_congr_left
      intro k _
      simp
theorem reads_zeros {α : Type} (d : Kd α) (g : GH) (z : Array Value) (hz : z.toList = d.zc) (q : Nat) : Reads d g (List.replicate q d.zv) (Builtin.zeroCells z q).toList := by
  rw [zeros_list, hz]
  induction q with
  | zero => rfl
  | succ q ih => rw [List.replicate_succ, List.replicate_succ, List.flatten_cons]; exact ⟨d.zc, _, rfl, d.zK g, ih⟩
theorem Op.append {α : Type} {dst : Nat} {x y : Operand} {t t' E : TypeId} {by_ : Nat} {d : Kd α} {v : Value} {xs ys : List α} {c : Chunk} {m : Nat} {news : List Value} {g1 : GH}
    (ho : nextDO C i j e = some (some dst, .call { callee := .builtin .append, args := #[x, y], argTypes := #[t, t'] })) (hI : elemI C.P t = some (E, d.sz, by_)) (ht' : notInt C.P t' = true) (hz : ((C.P.info? E).bind (·.zero)).map (·.cells.toList) = some d.zc)
    (hx : e.ev x = v) (hv : Row E d g1 v xs c) (s : St h0 g0 S0 g L h) (k : Nat) (hk : L[k]? = some c)
    (hy : Src C.P h d.sz (e.ev y) m news) (hys : Reads d g1 ys news) (hm : ys.length = m) (hlen : (xs.length + ys.length) * by_ ≤ 140737488355328)
    (hM : ∀ p ∈ c, p.1 < r.size → M p.1)
    (K : ∀ v' c' h', Row E d g1 v' (xs ++ ys) c' → St h0 g0 S0 g (L.set k c') h' → (v' = .slice none 0 0 → xs ++ ys = []) → Op C ds i r M Ls ((dst, v') :: e) h') : Op C ds i r M ((j, false) :: Ls) e h := by
  obtain ⟨o', h1, h2, h3⟩ := nextDO_spec ho
  obtain ⟨inf, z, I⟩ := elemI_spec hI
  subst hm
  have hzc : z.cells.toList = d.zc := by simpa [I.info, I.zero] using hz
  have hshort : xs.length + ys.length ≤ 140737488355328 := by
    have : (xs.length + ys.length) * 1 ≤ (xs.length + ys.length) * by_ := Nat.mul_le_mul_left _ I.bpos
    omega
  have sf := s.front k hk
  have hset := set_front k L c
  -- what is to be shown of the run
  refine Op.run h1 (R := fun nx h' => ∃ v' c', nx = .value v' ∧ Row E d g1 v' (xs ++ ys) c' ∧ St h0 g0 S0 g (L.set k c') h' ∧ (v' = .slice none 0 0 → xs ++ ys = []) ∧ (Keep r M h → Keep r M h')) ?_ ?_
  · intro w is
    have hh := is.heap
    have grow : ∀ (ao : Option Addr) (cap : Nat) (olds : List Value), v = .slice ao xs.length cap → Src C.P h d.sz v xs.length olds → Reads d g1 xs olds → cap < xs.length + ys.length →
        ∃ x w', (semOf e o').run C.P w = .ok x w' ∧ Is C.B w'.heap w' ∧ ∃ v' c', x = .value v' ∧ Row E d g1 v' (xs ++ ys) c' ∧ St h0 g0 S0 g (L.set k c') w'.heap ∧ (v' = .slice none 0 0 → xs ++ ys = []) ∧ (Keep r M h → Keep r M w'.heap) := by
      intro ao cap olds ev ho hro hg
      have hrun := run_app_grow (P := C.P) (w := w) (ty := o'.type) I ht' (ao := ao) (n := xs.length) (cap := cap) (m := ys.length) (x := e.ev y) (olds := olds) (news := news)
        (by rw [hh, ← ev]; exact ho) (by rw [hh]; exact hy) hg hlen
      have hsem := semOf_call (P := C.P) (w := w) (e := e) (v := .slice (some ⟨w.heap.size, 0, none⟩) (xs.length + ys.length) (grownCap w (xs.length + ys.length) cap E)) h3 (.inl rfl) (by
        simp only [List.map_toArray, List.map_cons, List.map_nil, hx, ev]
        exact hrun)
      refine ⟨_, _, hsem, ⟨rfl, is.os, is.tape, is.output⟩, _, [(w.heap.size, _)], rfl, .inr ⟨w.heap.size, 0, grownCap w (xs.length + ys.length) cap E, ((olds ++ news).toArray ++ Builtin.zeroCells z.cells (grownCap w (xs.length + ys.length) cap E - (xs.length + ys.length))), List.replicate (grownCap w (xs.length + ys.length) cap E - (xs.length + ys.length)) d.zv, ?_, rfl, ?_, ?_, ?_, ?_⟩, ?_, ?_, ?_⟩
      · rw [List.length_append]
      · have hge := grownCap_ge' w (xs.length + ys.length) cap E
        rw [List.length_append, List.length_replicate]; omega
      · exact grownCap_max w _ _ _ (by unfold maxLen; omega)
      · have h1 := grownCap_ge' w (xs.length + ys.length) cap E
        simp only [Array.size_append, List.size_toArray, List.length_append, hro.len, hys.len, size_zeros, I.cells]
        rw [Nat.zero_add, ← Nat.add_mul, ← Nat.add_mul, Nat.add_sub_cancel' h1]
        exact Nat.le_refl _
      · have hge := grownCap_ge' w (xs.length + ys.length) cap E
        have hlen2 : (xs ++ ys ++ List.replicate (grownCap w (xs.length + ys.length) cap E - (xs.length + ys.length)) d.zv).length = grownCap w (xs.length + ys.length) cap E := by simp; omega
        have := reads_cut (pre := []) (post := []) (o := 0) ((hro.append hys).append (reads_zeros d g1 z.cells hzc (grownCap w (xs.length + ys.length) cap E - (xs.length + ys.length)))) rfl ((olds ++ news).toArray ++ Builtin.zeroCells z.cells (grownCap w (xs.length + ys.length) cap E - (xs.length + ys.length))) (by simp [Array.toList_append])
        rwa [hlen2] at this
      · refine St.perm (hset _ hk) ?_
        have s1 := sf.drop.alloc (.cells ((olds ++ news).toArray ++ Builtin.zeroCells z.cells (grownCap w (xs.length + ys.length) cap E - (xs.length + ys.length))) E (0, 0))
        rw [← hh] at s1
        exact s1
      · intro hc; simp at hc
      · intro hk'; rw [← hh] at hk'; exact Keep.push _ hk'
    rcases hv with ⟨ao, rfl, rfl, rfl⟩ | ⟨b, o, cap, cur, rest, rfl, rfl, hc0, hc2, hc3, hc5⟩
    · by_cases hy0 : ys.length = 0
      · have hn : ys = [] := List.eq_nil_of_length_eq_zero hy0
        subst hn
        have hsem := semOf_call (P := C.P) (w := w) (w' := w) (e := e) (v := .slice ao 0 0) h3 (.inl rfl) (by
          simp only [List.map_toArray, List.map_cons, List.map_nil, hx]
          obtain ⟨d', hd, hd2⟩ := notInt_spec ht'
          have hl := hy.len w hh
          have hcs := hy.cells w hh 0 (Nat.le_refl _)
          simp only [Builtin.append_, sizeOf, typeInfo]
          simp only [List.getElem?_toArray, List.getElem?_cons_zero, List.getElem?_cons_succ, Sem.run_bind, run_program, Result.andThen_ok, run_underlying I.under, run_underlying hd, I.info, Sem.run_pure, I.size]
          cases d' <;> first | exact absurd rfl (hd2 _) | (simp [hl] ; simp at hcs ; cases ao <;> simp [hcs, storeCells]))
        refine ⟨_, _, hsem, is.again, .slice ao 0 0, [], rfl, .inl ⟨ao, rfl, by simp, rfl⟩, ?_, fun _ => by simp, fun hk' => by rw [hh]; exact hk'⟩
        rw [hh]
        exact St.perm (hset _ hk) sf
      · refine grow ao 0 [] rfl ⟨fun w _ => rfl, fun w _ k hk => ?_, by simp, by simp⟩ rfl (by simp; omega)
        obtain rfl : k = 0 := by simpa using hk
        cases ao <;> simp [Builtin.firstCells, loadCells, loadCellsFrom]
    · have hc1 : xs.length ≤ cap := by omega
      have hc4 := reads_left hc0 hc5
      have hb : w.heap[b]? = some (.cells cur E (0, 0)) := by rw [hh]; exact s.chunk k hk
      by_cases hroom : xs.length + ys.length ≤ cap
      · have hrun := run_app_room (P := C.P) (w := w) (ty := o'.type) I ht' (o := o) (n := xs.length) (cap := cap) (m := ys.length) (x := e.ev y) (news := news) (by rw [hh]; exact hy) hb hroom hc3
        have hsem := semOf_call (P := C.P) (w := w) (e := e) h3 (.inl rfl) (by
          simp only [List.map_toArray, List.map_cons, List.map_nil, hx]
          exact hrun)
        have hfit : o + xs.length * d.sz + ys.length * d.sz ≤ cur.size := by
          have h2 : (xs.length + ys.length) * d.sz ≤ cap * d.sz := Nat.mul_le_mul_right _ hroom
          rw [Nat.add_mul] at h2
          omega
        have hclen : cur.toList.length = cur.size := Array.length_toList
        refine ⟨_, _, hsem, ⟨rfl, is.os, is.tape, is.output⟩, _, [(b, _)], rfl, .inr ⟨b, o, cap, (cur.toList.take (o + xs.length * d.sz) ++ news ++ cur.toList.drop (o + xs.length * d.sz + news.length)).toArray, rest.drop ys.length, ?_, rfl, ?_, hc2, ?_, ?_⟩, ?_, ?_, ?_⟩
        · rw [List.length_append]
        · rw [List.length_append, List.length_drop]; omega
        · rw [List.size_toArray, List.length_append, List.length_append, List.length_take, List.length_drop, hys.len, hclen, Nat.min_eq_left (by omega)]
          omega
        · have hr2 := (hc5.parts (xs.length + ys.length) (by rw [List.length_append]; omega)).2
          have hdr : (xs ++ rest).drop (xs.length + ys.length) = rest.drop ys.length := by
            rw [List.drop_append, List.drop_eq_nil_of_le (by omega), List.nil_append, Nat.add_sub_cancel_left]
          rw [hdr] at hr2
          have hlen2 : (xs ++ ys ++ rest.drop ys.length).length = cap := by simp; omega
          have hcap2 : (xs.length + ys.length) * d.sz ≤ cap * d.sz := Nat.mul_le_mul_right _ hroom
          have := reads_cut (pre := cur.toList.take o) (post := cur.toList.drop (o + cap * d.sz)) (o := o) ((hc4.append hys).append hr2) (by rw [List.length_take, hclen]; exact Nat.min_eq_left (by omega))
            ((cur.toList.take (o + xs.length * d.sz) ++ news ++ cur.toList.drop (o + xs.length * d.sz + news.length)).toArray) (by
              unfold cut
              rw [List.toList_toArray, List.take_add, hys.len]
              have e1 : ((cur.toList.drop o).take (cap * d.sz)).drop ((xs.length + ys.length) * d.sz) ++ cur.toList.drop (o + cap * d.sz) = cur.toList.drop (o + xs.length * d.sz + ys.length * d.sz) := by
                have e2 : cur.toList.drop (o + cap * d.sz) = (cur.toList.drop (o + (xs.length + ys.length) * d.sz)).drop (cap * d.sz - (xs.length + ys.length) * d.sz) := by
                  rw [List.drop_drop]; congr 1; omega
                rw [List.drop_take, List.drop_drop, e2, List.take_append_drop, Nat.add_mul, Nat.add_assoc]
              simp only [List.append_assoc]
              rw [e1])
          rwa [hlen2] at this
        · exact s.updAt k hk (by have := Upd.row (cs := (cur.toList.take (o + xs.length * d.sz) ++ news ++ cur.toList.drop (o + xs.length * d.sz + news.length)).toArray) hb; rwa [hh] at this)
        · intro hc; simp at hc
        · intro hk'; rw [← hh] at hk'; exact Keep.row (hM (b, .cells cur E (0, 0)) (List.mem_singleton.2 rfl)) hk'
      · obtain ⟨olds, hsrc, hro⟩ := Src.slice (P := C.P) (h := h) (g := g1) (E := E) (d := d) (v := .slice (some ⟨b, o, none⟩) xs.length cap) (ys := xs)
          ⟨_, cap, rfl, hc1, fun _ => ⟨b, o, cur, (E, 0, 0), rfl, s.chunk k hk, hc4⟩⟩
        exact grow _ cap olds rfl hsrc hro (by omega)
  · rintro _ _ ⟨v', c', rfl, hrow, hst, hnil, hkeep⟩
    refine ⟨v', rfl, hkeep, ?_⟩
    rw [h2]
    exact K v' c' _ hrow hst hnil
end
end Go.Proofs.YtmjebehhpojihaaGreatDoor.Sw
namespace Go.Proofs.YtmjebehhpojihaaGreatDoor.Sw
set_option linter.unusedVariables false
set_option linter.unusedSimpArgs false
set_option linter.deprecated false
open Go
def Spec (P : Program) (B : World) (f : FuncId) (args : Array Value) (h : Heap) (g : GH) (Lc : List Chunk) (Post : Value → GH → List Chunk → Prop) : Prop :=
  HCalls P B f args h fun v h' => ∃ g' Lc', St h g (ids Lc) g' Lc' h' ∧ Post v g' Lc'
theorem Spec.mono {P : Program} {B : World} {f : FuncId} {args : Array Value} {h : Heap} {g : GH} {Lc : List Chunk} {Post Post' : Value → GH → List Chunk → Prop}
    (H : Spec P B f args h g Lc Post) (hp : ∀ v g' Lc', gle g g' → Post v g' Lc' → Post' v g' Lc') : Spec P B f args h g Lc Post' :=
  HCalls.mono H fun v _ ⟨g', Lc', s, p⟩ => ⟨g', Lc', s, hp v g' Lc' s.le p⟩
def enterOf (C : Ctx) (i j : Nat) (e : Env) : Option (Option Tmp × FuncId × Array Value) :=
  match nextOp C i j e with
  | some o => match pureVal C.P (semOf e o) with
    | some (.enter f args) => some (o.dst, f, args)
    | _ => none
  | none => none
theorem enterOf_spec {C : Ctx} {i j : Nat} {e : Env} {d : Option Tmp} {f : FuncId} {args : Array Value} (h : enterOf C i j e = some (d, f, args)) :
    ∃ o, nextOp C i j e = some o ∧ o.dst = d ∧ pureVal C.P (semOf e o) = some (.enter f args) := by
  unfold enterOf at h
  split at h
  · rename_i o ho
    split at h
    · rename_i f' args' hp
      simp only [Option.some.injEq, Prod.mk.injEq] at h
      obtain ⟨rfl, rfl, rfl⟩ := h
      exact ⟨o, ho, rfl, hp⟩
    · cases h
  · cases h
structure Enterable (P : Program) (f : FuncId) : Prop where
  out : ∃ fn, P.funcs[f]? = some fn ∧ (fn.name == "runtime.NumGoroutine") = false ∧ fn.body.isSome = true
def enterable (P : Program) (f : FuncId) : Bool := match P.funcs[f]? with
  | some fn => !(fn.name == "runtime.NumGoroutine") && fn.body.isSome
  | none => false
theorem Enterable.of {P : Program} {f : FuncId} (h : enterable P f = true) : Enterable P f := by
  unfold enterable at h
  split at h
  · rename_i fn hf
    simp only [Bool.and_eq_true, Bool.not_eq_true'] at h
    exact ⟨fn, hf, h.1, h.2⟩
  · cases h
section
variable {C : Ctx} {ds : List Deferred} {i j : Nat} {r : Heap} {M : Nat → Prop} {Ls : List (Nat × Bool)} {e : Env} {h : Heap}
variable {h0 : Heap} {g0 : GH} {S0 : Nat → Prop} {g : GH} {L L' : List Chunk}
theorem St.zero (s : St h0 g0 S0 g L h) : St h g (ids []) g [] h := St.init s.sub
theorem Op.callAny {o : Oper} {f : FuncId} {args : Array Value} {Lc : List Chunk} {Post : Value → GH → List Chunk → Prop} (h1 : nextOp C i j e = some o)
    (hp : ∀ w, (semOf e o).run C.P w = .ok (.enter f args) w)
    (s : St h0 g0 S0 g (Lc ++ L) h) (H : Spec C.P C.B f args h g Lc Post) (hM : ∀ b, b < r.size → ids Lc b → M b)
    (K : ∀ v g' Lc' h', gle g g' → St h0 g0 S0 g' (Lc' ++ L) h' → Post v g' Lc' → Op C ds i r M Ls (e.putO o.dst v) h') : Op C ds i r M ((j, false) :: Ls) e h := by
  refine Op.act h1 fun w is hk a ft => ?_
  rw [hp w]
  refine Calls.mono (H w is) fun en w' ⟨v, he, is', g', Lc', t, hpost⟩ => ?_
  exact ⟨v, he, ⟨t.keep hM hk, is'⟩, _, ft.putO (nextOp_spec h1).2.2.2.1 v, K v g' Lc' _ t.le (s.join t) hpost⟩
theorem Op.call {dst : Option Tmp} {f : FuncId} {args : Array Value} {Lc : List Chunk} {Post : Value → GH → List Chunk → Prop} (ho : enterOf C i j e = some (dst, f, args))
    (s : St h0 g0 S0 g (Lc ++ L) h) (H : Spec C.P C.B f args h g Lc Post) (hM : ∀ b, b < r.size → ids Lc b → M b)
    (K : ∀ v g' Lc' h', gle g g' → St h0 g0 S0 g' (Lc' ++ L) h' → Post v g' Lc' → Op C ds i r M Ls (e.putO dst v) h') : Op C ds i r M ((j, false) :: Ls) e h := by
  obtain ⟨o, h1, rfl, hp⟩ := enterOf_spec ho
  exact Op.callAny h1 (pureVal_run _ hp) s H hM K
theorem Op.call0 {dst : Option Tmp} {f : FuncId} {args : Array Value} {Post : Value → GH → List Chunk → Prop} (ho : enterOf C i j e = some (dst, f, args))
    (s : St h0 g0 S0 g L h) (H : Spec C.P C.B f args h g [] Post)
    (K : ∀ v g' Lc' h', gle g g' → St h0 g0 S0 g' (Lc' ++ L) h' → Post v g' Lc' → Op C ds i r M Ls (e.putO dst v) h') : Op C ds i r M ((j, false) :: Ls) e h :=
  Op.call (Lc := []) ho s H (fun _ _ h => absurd h (ids_nil _)) K
theorem Op.callV {dst : Option Tmp} {x : Operand} {ops : Array Operand} {ts : Array TypeId} {f : FuncId} {first cap : Array Value} {Lc : List Chunk} {Post : Value → GH → List Chunk → Prop}
    (ho : nextDO C i j e = some (dst, .call { callee := .value x, args := ops, argTypes := ts })) (hx : e.ev x = .func (.func f) first cap) (hf : Enterable C.P f) {args : Array Value} (ha : first ++ ops.map e.ev ++ cap = args)
    (s : St h0 g0 S0 g (Lc ++ L) h) (H : Spec C.P C.B f args h g Lc Post) (hM : ∀ b, b < r.size → ids Lc b → M b)
    (K : ∀ v g' Lc' h', gle g g' → St h0 g0 S0 g' (Lc' ++ L) h' → Post v g' Lc' → Op C ds i r M Ls (e.putO dst v) h') : Op C ds i r M ((j, false) :: Ls) e h := by
  obtain ⟨o, h1, rfl, h3⟩ := nextDO_spec ho
  obtain ⟨fn, hfn, hname, hbody⟩ := hf.out
  refine Op.callAny h1 (fun w => ?_) s H hM K
  unfold semOf execOp
  have hb : fn.body.isNone = false := by cases hb : fn.body <;> simp_all
  simp only [h3, resolve, hx, Deferred.ofValue, Sem.run_bind, Sem.run_pure, Result.andThen_ok, invoke, callFunc, run_program, hfn, hname, hb, Bool.false_eq_true, if_false, ha]
def valOf (C : Ctx) (i j : Nat) (e : Env) : Option (Option Tmp × Value) :=
  match nextOp C i j e with
  | some o => match pureVal C.P (semOf e o) with
    | some (.value v) => some (o.dst, v)
    | _ => none
  | none => none
theorem Op.val {dst : Option Tmp} {v v' : Value} {b : Bool} (ho : valOf C i j e = some (dst, v)) (hv : v = v') (K : Op C ds i r M Ls (e.putO dst v') h) : Op C ds i r M ((j, b) :: Ls) e h := by
  unfold valOf at ho
  split at ho
  · rename_i o h1
    split at ho
    · rename_i u hp
      simp only [Option.some.injEq, Prod.mk.injEq] at ho
      obtain ⟨rfl, rfl⟩ := ho
      subst hv
      exact Op.takeP h1 (fun w => pureVal_run _ hp w) K
    · cases ho
  · cases ho
theorem Op.free {dst : Nat} {op : Go.Op} {v : Value} {b : Bool} (ho : nextDO C i j e = some (some dst, op)) (H : ∀ o : Oper, o.op = op → ∀ w, (execOp e.ev o).run C.P w = .ok (.value v) w)
    (K : Op C ds i r M Ls ((dst, v) :: e) h) : Op C ds i r M ((j, b) :: Ls) e h := by
  obtain ⟨o, h1, h2, h3⟩ := nextDO_spec ho
  exact Op.takeP h1 (v := v) (fun w => H o h3 w) (by rw [h2]; exact K)
theorem Op.strIdx {dst : Nat} {T : TypeId} {x ix : Operand} {l : List UInt8} {k : IntKind} {n : Int} {c : UInt8} {b : Bool} (ho : nextDO C i j e = some (some dst, .index T x ix)) (hT : C.P.underlying T = some .string)
    (hx : e.ev x = .string (mkS l)) (hix : e.ev ix = .int k n) (h0 : 0 ≤ n) (hc : l[n.toNat]? = some c)
    (K : Op C ds i r M Ls ((dst, .int .u8 c.toNat) :: e) h) : Op C ds i r M ((j, b) :: Ls) e h := by
  refine Op.free ho (fun o ho w => ?_) K
  simp only [execOp, ho, Instr.index, hx, hix, asIntOf, Sem.run_bind, Sem.run_pure, Result.andThen_ok, run_underlying hT, h0, if_true, get_mkS, hc]
theorem run_bound {w : World} {P : Program} {k : IntKind} {n : Int} {y : Nat} {code : BoundsCode} (h0 : 0 ≤ n) (h1 : n ≤ y) : (Instr.sliceBound (.int k n) y code).run P w = .ok n.toNat w := by
  simp only [Instr.sliceBound, asIntOf, Sem.run_bind, Sem.run_pure, Result.andThen_ok, h0, h1, and_self, if_true]
theorem Op.strLo {dst : Nat} {T : TypeId} {x lo : Operand} {l : List UInt8} {k : IntKind} {n : Int} {b : Bool} (ho : nextDO C i j e = some (some dst, .slice T x (some lo) none none)) (hT : C.P.underlying T = some .string)
    (hx : e.ev x = .string (mkS l)) (hlo : e.ev lo = .int k n) (h0 : 0 ≤ n) (h1 : n ≤ l.length)
    (K : Op C ds i r M Ls ((dst, .string (mkS (l.drop n.toNat))) :: e) h) : Op C ds i r M ((j, b) :: Ls) e h := by
  refine Op.free ho (fun o ho w => ?_) K
  simp only [execOp, ho, Option.map_some, Option.map_none, Instr.sliceAt, Instr.slice, hx, hlo, Sem.run_bind, Sem.run_pure, Result.andThen_ok, run_underlying hT, Instr.sliceBounds, Option.isSome_none, Bool.false_eq_true, if_false, size_mkS, run_bound h0 h1, extract_mkS, List.take_length]
theorem Op.strHi {dst : Nat} {T : TypeId} {x hi : Operand} {l : List UInt8} {k : IntKind} {n : Int} {b : Bool} (ho : nextDO C i j e = some (some dst, .slice T x none (some hi) none)) (hT : C.P.underlying T = some .string)
    (hx : e.ev x = .string (mkS l)) (hhi : e.ev hi = .int k n) (h0 : 0 ≤ n) (h1 : n ≤ l.length)
    (K : Op C ds i r M Ls ((dst, .string (mkS (l.take n.toNat))) :: e) h) : Op C ds i r M ((j, b) :: Ls) e h := by
  refine Op.free ho (fun o ho w => ?_) K
  simp only [execOp, ho, Option.map_some, Option.map_none, Instr.sliceAt, Instr.slice, hx, hhi, Sem.run_bind, Sem.run_pure, Result.andThen_ok, run_underlying hT, Instr.sliceBounds, Option.isSome_none, Bool.false_eq_true, if_false, size_mkS, run_bound h0 h1, extract_mkS, List.drop_zero]
theorem Op.strLoHi {dst : Nat} {T : TypeId} {x lo hi : Operand} {l : List UInt8} {k k' : IntKind} {n m : Int} {b : Bool} (ho : nextDO C i j e = some (some dst, .slice T x (some lo) (some hi) none)) (hT : C.P.underlying T = some .string)
    (hx : e.ev x = .string (mkS l)) (hlo : e.ev lo = .int k n) (hhi : e.ev hi = .int k' m) (h0 : 0 ≤ n) (h1 : n ≤ m) (h2 : m ≤ l.length)
    (K : Op C ds i r M Ls ((dst, .string (mkS ((l.take m.toNat).drop n.toNat))) :: e) h) : Op C ds i r M ((j, b) :: Ls) e h := by
  refine Op.free ho (fun o ho w => ?_) K
  have h3 : 0 ≤ m := by omega
  have h4 : n ≤ (m.toNat : Int) := by omega
  simp only [execOp, ho, Option.map_some, Option.map_none, Instr.sliceAt, Instr.slice, hx, hlo, hhi, Sem.run_bind, Sem.run_pure, Result.andThen_ok, run_underlying hT, Instr.sliceBounds, Option.isSome_none, Bool.false_eq_true, if_false, size_mkS, run_bound h3 h2, run_bound h0 h4, extract_mkS]
theorem Op.strAdd {dst : Nat} {T T' : TypeId} {x y : Operand} {l m : List UInt8} {b : Bool} (ho : nextDO C i j e = some (some dst, .binOp .add T x y T'))
    (hx : e.ev x = .string (mkS l)) (hy : e.ev y = .string (mkS m)) (hl : l.length + m.length ≤ 9223372036854775807)
    (K : Op C ds i r M Ls ((dst, .string (mkS (l ++ m))) :: e) h) : Op C ds i r M ((j, b) :: Ls) e h := by
  refine Op.free ho (fun o ho w => ?_) K
  have h1 : ¬ (((mkS l).size + (mkS m).size : Nat) : Int) > IntKind.i64.max := by rw [size_mkS, size_mkS]; show ¬ _ > (9223372036854775807 : Int); omega
  simp only [execOp, ho, hx, hy, eqGuard, Sem.run_bind, Sem.run_pure]
  simp only [binOp, Op.stringOp, h1, if_false, Sem.run_pure, append_mkS, Bool.not_false, if_true, Result.andThen_ok]
theorem Op.idx {dst : Nat} {T E : TypeId} {sz by_ : Nat} {x ix : Operand} {bk o n c : Nat} {k : IntKind} {m : Int} {b : Bool} (ho : nextDO C i j e = some (some dst, .indexAddr T x ix)) (hE : elemI C.P T = some (E, sz, by_))
    (hx : e.ev x = .slice (some ⟨bk, o, none⟩) n c) (hix : e.ev ix = .int k m) (h0 : 0 ≤ m) (h1 : m < n)
    (K : Op C ds i r M Ls ((dst, .pointer (some ⟨bk, o + m.toNat * sz, none⟩)) :: e) h) : Op C ds i r M ((j, b) :: Ls) e h := by
  obtain ⟨inf, z, I⟩ := elemI_spec hE
  refine Op.free ho (fun o' ho w => ?_) K
  have hi := I.info
  simp only [execOp, ho, Instr.indexAt, hx, hix, asIntOf, Sem.run_bind, Sem.run_pure, Result.andThen_ok, run_underlying I.under, h0, h1, and_self, if_true, sizeOf, typeInfo, run_program, hi, I.size, add_flat]
def subAddr (ao : Option Addr) (l m sz : Nat) : Option Addr := if m = l then ao else ao.map (·.add (l * sz))
theorem Op.slLo {dst : Nat} {T E : TypeId} {sz by_ : Nat} {x lo : Operand} {ao : Option Addr} {n c : Nat} {k : IntKind} {m : Int} {b : Bool} (ho : nextDO C i j e = some (some dst, .slice T x (some lo) none none)) (hE : elemI C.P T = some (E, sz, by_))
    (hx : e.ev x = .slice ao n c) (hlo : e.ev lo = .int k m) (h0 : 0 ≤ m) (h1 : m ≤ n)
    (K : Op C ds i r M Ls ((dst, .slice (subAddr ao m.toNat c sz) (n - m.toNat) (c - m.toNat)) :: e) h) : Op C ds i r M ((j, b) :: Ls) e h := by
  obtain ⟨inf, z, I⟩ := elemI_spec hE
  refine Op.free ho (fun o' ho w => ?_) K
  have hi := I.info
  simp only [execOp, ho, Option.map_some, Option.map_none, Instr.sliceAt, Instr.slice, hx, hlo, Sem.run_bind, Sem.run_pure, Result.andThen_ok, run_underlying I.under, Instr.sliceBounds, Option.isSome_none, Bool.false_eq_true, if_false, run_bound h0 h1, sizeOf, typeInfo, run_program, hi, I.size, subAddr]
theorem Op.slLoHi {dst : Nat} {T E : TypeId} {sz by_ : Nat} {x lo hi : Operand} {ao : Option Addr} {n c : Nat} {k k' : IntKind} {m m' : Int} {b : Bool} (ho : nextDO C i j e = some (some dst, .slice T x (some lo) (some hi) none)) (hE : elemI C.P T = some (E, sz, by_))
    (hx : e.ev x = .slice ao n c) (hlo : e.ev lo = .int k m) (hhi : e.ev hi = .int k' m') (h0 : 0 ≤ m) (h1 : m ≤ m') (h2 : m' ≤ c)
    (K : Op C ds i r M Ls ((dst, .slice (subAddr ao m.toNat c sz) (m'.toNat - m.toNat) (c - m.toNat)) :: e) h) : Op C ds i r M ((j, b) :: Ls) e h := by
  obtain ⟨inf, z, I⟩ := elemI_spec hE
  refine Op.free ho (fun o' ho w => ?_) K
  have hi := I.info
  have h3 : 0 ≤ m' := by omega
  have h4 : m ≤ (m'.toNat : Int) := by omega
  simp only [execOp, ho, Option.map_some, Option.map_none, Instr.sliceAt, Instr.slice, hx, hlo, hhi, Sem.run_bind, Sem.run_pure, Result.andThen_ok, run_underlying I.under, Instr.sliceBounds, Option.isSome_none, Bool.false_eq_true, if_false, run_bound h3 h2, run_bound h0 h4, sizeOf, typeInfo, run_program, hi, I.size, subAddr]
def zerosN (z : Array Value) (n : Nat) : Array Value := (Array.range n).map (z[· % z.size]!)
def litCells (P : Program) (T : TypeId) (len : Nat) (parts : List (Nat × Value)) : Option (TypeId × Array Value) :=
  match P.underlying T with
  | some (.slice E) => match P.info? E with
    | some i => match i.zero with
      | some z => if Nat.ble (len * i.size) 1000 then (Instr.fill (fun k => some (k * i.size, i.size)) (if len * i.size = 0 then #[] else zerosN z.cells (len * i.size)) parts).map fun c => (E, c) else none
      | none => none
    | none => none
  | _ => none
theorem Op.lit {dst : Nat} {T E : TypeId} {len : Nat} {parts : Array (Nat × Operand)} {cs : Array Value} (ho : nextDO C i j e = some (some dst, .buildSlice T len parts))
    {ps : List (Nat × Value)} (hps : (parts.map fun (k, x) => (k, e.ev x)).toList = ps) (hc : litCells C.P T len ps = some (E, cs)) (s : St h0 g0 S0 g L h)
    (K : ∀ b h', St h0 g0 S0 g ([(b, .cells cs E (0, 0))] :: L) h' → Op C ds i r M Ls ((dst, .slice (some ⟨b, 0, none⟩) len len) :: e) h') : Op C ds i r M ((j, false) :: Ls) e h := by
  obtain ⟨o, h1, h2, h3⟩ := nextDO_spec ho
  refine Op.run h1 (R := fun nx h' => nx = .value (.slice (some ⟨h.size, 0, none⟩) len len) ∧ h' = h.push (.cells cs E (0, 0))) ?_ ?_
  · intro w is
    refine ⟨.value (.slice (some ⟨h.size, 0, none⟩) len len), { w with heap := w.heap.push (.cells cs E (0, 0)) }, ?_, ⟨rfl, is.os, is.tape, is.output⟩, rfl, by rw [← is.heap]⟩
    unfold litCells at hc
    split at hc
    · rename_i E' hu
      split at hc
      · rename_i inf hi
        split at hc
        · rename_i z hz
          split at hc
          · rename_i hle
            obtain ⟨cs', hf, he⟩ := Option.map_eq_some_iff.1 hc
            simp only [Prod.mk.injEq] at he
            obtain ⟨rfl, rfl⟩ := he
            have hle : ¬ len * inf.size > 2 ^ 24 := by have := Nat.le_of_ble_eq_true hle; omega
            have hps' : List.map (fun x => (x.fst, e.ev x.snd)) parts.toList = ps := by rw [← hps]; simp
            unfold semOf execOp
            by_cases h0 : len * inf.size = 0
            · simp only [h0, if_true] at hf
              have he0 : (Array.range 0).map (fun _ => (default : Value)) = #[] := by simp
              simp [h3, Instr.buildSlice, run_underlying hu, sizeOf, typeInfo, hi, h0, hps', he0, hf, newRow, is.heap]
            · simp only [h0, if_false] at hf
              unfold zerosN at hf
              simp only [gt_iff_lt] at hle
              simp [h3, Instr.buildSlice, run_underlying hu, sizeOf, typeInfo, hi, hle, h0, hz, zeroValue, hps', hf, newRow, is.heap]
          · cases hc
        · cases hc
      · cases hc
    · cases hc
  · rintro _ _ ⟨rfl, rfl⟩
    refine ⟨_, rfl, Keep.push _, ?_⟩
    rw [h2]
    exact K _ _ (s.alloc _)
theorem Src.lit {P : Program} {h : Heap} {b sz m : Nat} {cs : Array Value} {U : TypeId} {fz : Nat × Nat} (hb : h[b]? = some (.cells cs U fz)) {news : List Value} (hn : cs.toList = news) (hm : news.length = m * sz) (h1 : ∀ v ∈ news, v.oneCell' = true) (c : Nat) :
    Src P h sz (.slice (some ⟨b, 0, none⟩) m c) m news := by
  refine ⟨fun _ _ => rfl, fun w hw k hk => ?_, hm, h1⟩
  have hl : (news.take (k * sz)).length = k * sz := by rw [List.length_take, hm, Nat.min_eq_left (Nat.mul_le_mul_right _ hk)]
  have := run_loadCells (P := P) (w := w) ⟨b, 0, none⟩ (news.take (k * sz)) 0 #[] (fun j v hj => by
    rw [Nat.zero_add, add_flat, cell_of hw, hcell_row hb, Nat.zero_add]
    subst hn
    rw [List.getElem?_take] at hj
    split at hj
    · simpa using hj
    · cases hj)
  rw [hl] at this
  simpa [Builtin.firstCells, loadCells] using this
theorem Op.alloc {dst : Nat} {T : TypeId} {cs : Array Value} (ho : nextDO C i j e = some (some dst, .alloc T)) (hz : (C.P.info? T).bind (fun t => t.zero.map Value.cells) = some cs) (s : St h0 g0 S0 g L h)
    (K : ∀ b h', St h0 g0 S0 g ([(b, .cells cs T (0, 0))] :: L) h' → Op C ds i r M Ls ((dst, .pointer (some ⟨b, 0, none⟩)) :: e) h') : Op C ds i r M ((j, false) :: Ls) e h := by
  obtain ⟨o, h1, h2, h3⟩ := nextDO_spec ho
  obtain ⟨inf, hi, hz⟩ := Option.bind_eq_some_iff.1 hz
  obtain ⟨z, hz2, rfl⟩ := Option.map_eq_some_iff.1 hz
  refine Op.run h1 (R := fun nx h' => nx = .value (.pointer (some ⟨h.size, 0, none⟩)) ∧ h' = h.push (.cells z.cells T (0, 0))) ?_ ?_
  · intro w is
    refine ⟨.value (.pointer (some ⟨h.size, 0, none⟩)), { w with heap := w.heap.push (.cells z.cells T (0, 0)) }, ?_, ⟨rfl, is.os, is.tape, is.output⟩, rfl, by rw [← is.heap]⟩
    unfold semOf execOp
    have hz' : (zeroValue T).run C.P w = .ok z w := by
      simp only [zeroValue, typeInfo, Sem.run_bind, run_program, Result.andThen_ok, hi, Sem.run_pure]
      rw [hz2]
      rfl
    simp only [h3, Instr.alloc, Sem.run_bind, hz', newVar, newRow, run_newObj, Result.andThen_ok, Sem.run_pure, is.heap]
  · rintro _ _ ⟨rfl, rfl⟩
    refine ⟨_, rfl, Keep.push _, ?_⟩
    rw [h2]
    exact K _ _ (s.alloc _)
def splice (cs : Array Value) (o : Nat) (vs : List Value) : Array Value := (cs.toList.take o ++ vs ++ cs.toList.drop (o + vs.length)).toArray
theorem Op.store {T : TypeId} {x y : Operand} {b o n : Nat} {a? : Bool} {vs : List Value} (ho : nextDO C i j e = some (none, .store T x y)) (hx : e.ev x = .pointer (some ⟨b, o, none⟩)) (hy : (e.ev y).cells.toList = vs)
    (hT : shapeT C.P T = some (a?, n)) (hn : vs.length = n) (h1 : ∀ v ∈ vs, v.oneCell' = true) {cs cs' : Array Value} {U : TypeId} (s : St h0 g0 S0 g L h) (k : Nat) (hk : L[k]? = some [(b, .cells cs U (0, 0))])
    (hfit : o + n ≤ cs.size) (hcs : splice cs o vs = cs') (hM : b < r.size → M b)
    (K : ∀ h', St h0 g0 S0 g (L.set k [(b, .cells cs' U (0, 0))]) h' → Op C ds i r M Ls e h') : Op C ds i r M ((j, false) :: Ls) e h := by
  obtain ⟨o', hh1, h2, h3⟩ := nextDO_spec ho
  subst hcs
  have hsz : ∃ inf, C.P.info? T = some inf ∧ inf.size = n := by
    unfold shapeT at hT
    split at hT
    · rename_i d inf hd hi
      simp only [Option.some.injEq, Prod.mk.injEq] at hT
      exact ⟨inf, hi, hT.2⟩
    · cases hT
  obtain ⟨inf, hi, hs⟩ := hsz
  refine Op.skip hh1 (R := fun nx h' => nx = .skip ∧ Upd h b (.cells (splice cs o vs) U (0, 0)) h') ?_ ?_
  · intro w is
    have hb : w.heap[b]? = some (.cells cs U (0, 0)) := by rw [is.heap]; exact s.chunk k hk
    have hst := run_storeCells_at C.P b o U vs 0 cs w hb (by omega) h1
    simp only [Nat.add_zero] at hst
    refine ⟨_, w.setRow b (splice cs o vs), ?_, ⟨rfl, is.os, is.tape, is.output⟩, rfl, ?_⟩
    · have hc : (e.ev y).cells.size = n := by rw [← hn, ← hy, Array.length_toList]
      unfold semOf execOp
      simp only [h3, hx, Instr.storeAt, Instr.sureAddr, storeVar, sizeOf, typeInfo, Sem.run_bind, Sem.run_pure, Result.andThen_ok, run_program, hi, hs, hc, ne_eq, not_true_eq_false, if_false, hy, hst]
      rfl
    · have := Upd.row (cs := splice cs o vs) hb
      rwa [is.heap] at this
  · rintro _ h' ⟨rfl, u⟩
    refine ⟨rfl, u.keep hM, ?_⟩
    rw [h2]
    exact K h' (s.updAt k hk u)
end
end Go.Proofs.YtmjebehhpojihaaGreatDoor.Sw
