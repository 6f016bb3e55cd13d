/- The symbolic walk, part 9: slices of slices, rows made of zeros, stores into a row, bytes to text. Own text. -/
import Derived.Test.YtphonojjgnbpfaaDoorSwMore
import Derived.Laws.BytesArg
namespace Go.Proofs.YtphonojjgnbpfaaDoor.Sw
set_option linter.unusedVariables false
set_option linter.unusedSimpArgs false
set_option linter.deprecated false
open Go

section
variable {α : Type} {d : Kd α} {g g' : GH} {h h' : Heap} {T : TypeId} {xs : List α}
theorem SlR.sub {ao : Option Addr} {n c : Nat} (hs : SlR g T d (.slice ao n c) xs) (lo hi : Nat) (h1 : lo ≤ hi) (h2 : hi ≤ xs.length) :
    SlR g T d (.slice (subAddr ao lo c d.sz) (hi - lo) (c - lo)) ((xs.take hi).drop lo) := by
  obtain ⟨ao', c', e, hc, H⟩ := hs
  simp only [Value.slice.injEq] at e
  obtain ⟨rfl, rfl, rfl⟩ := e
  have hl : ((xs.take hi).drop lo).length = hi - lo := by rw [List.length_drop, List.length_take, Nat.min_eq_left h2]
  refine ⟨_, _, by rw [hl], by rw [hl]; omega, fun hne => ?_⟩
  have hlt : lo < hi := by
    rcases Nat.lt_or_ge lo hi with h | h
    · exact h
    · exact absurd (List.eq_nil_of_length_eq_zero (by rw [hl]; omega)) hne
  obtain ⟨b, o, cur, fz, rfl, hb, hr⟩ := H (by intro hx; subst hx; simp at h2; omega)
  refine ⟨b, o + lo * d.sz, cur, fz, ?_, hb, ?_⟩
  · unfold subAddr
    rw [if_neg (by omega)]
    simp [add_flat]
  · have h3 := ((hr.parts hi h2).1.parts lo (by rw [List.length_take, Nat.min_eq_left h2]; exact h1)).2
    have hb1 : hi * d.sz ≤ xs.length * d.sz := Nat.mul_le_mul_right _ h2
    have hb2 : lo * d.sz ≤ hi * d.sz := Nat.mul_le_mul_right _ h1
    have e : ((cut cur o (xs.length * d.sz)).take (hi * d.sz)).drop (lo * d.sz) = cut cur (o + lo * d.sz) ((hi - lo) * d.sz) := by
      rw [List.drop_take, Nat.sub_mul, cut_cut]
      omega
    rw [e] at h3
    rw [hl]
    exact h3
theorem SlR.none_nil {n c : Nat} (hs : SlR g T d (.slice none n c) xs) : xs = [] := by
  obtain ⟨ao', c', e, hc, H⟩ := hs
  simp only [Value.slice.injEq] at e
  obtain ⟨rfl, _, _⟩ := e
  by_cases h : xs = []
  · exact h
  · obtain ⟨b, o, cur, fz, e, _⟩ := H h; cases e
theorem SlH.subLo {ao : Option Addr} {n c : Nat} (hs : SlH h g T d (.slice ao n c) xs) (lo : Nat) (h1 : lo ≤ xs.length) : SlH h g T d (.slice (subAddr ao lo c d.sz) (n - lo) (c - lo)) (xs.drop lo) := by
  obtain ⟨ao', c', e, hc, H⟩ := hs
  simp only [Value.slice.injEq] at e
  obtain ⟨rfl, rfl, rfl⟩ := e
  have hl : (xs.drop lo).length = xs.length - lo := List.length_drop
  refine ⟨_, _, by rw [hl], by rw [hl]; omega, fun hne => ?_⟩
  have hlt : lo < xs.length := by
    rcases Nat.lt_or_ge lo xs.length with h | h
    · exact h
    · exact absurd (List.eq_nil_of_length_eq_zero (by rw [hl]; omega)) hne
  obtain ⟨b, o, cur, fz, rfl, hb, hr⟩ := H (by intro hx; subst hx; simp at hlt)
  refine ⟨b, o + lo * d.sz, cur, fz, ?_, hb, ?_⟩
  · unfold subAddr
    rw [if_neg (by omega)]
    simp [add_flat]
  · have h3 := (hr.parts lo h1).2
    have hb2 : lo * d.sz ≤ xs.length * d.sz := Nat.mul_le_mul_right _ h1
    have e : (cut cur o (xs.length * d.sz)).drop (lo * d.sz) = cut cur (o + lo * d.sz) ((xs.length - lo) * d.sz) := by
      unfold cut
      rw [List.drop_take, List.drop_drop, Nat.sub_mul]
    rw [e] at h3
    rw [hl]; exact h3
theorem Row.take {ao : Option Addr} {n c : Nat} {ch : Chunk} (hr : Row T d g (.slice ao n c) xs ch) (m : Nat) (hm : m ≤ xs.length) : Row T d g (.slice (subAddr ao 0 c d.sz) m c) (xs.take m) ch := by
  rcases hr with ⟨a0, e, rfl, rfl⟩ | ⟨b, o, cap, cur, rest, e, rfl, h1, h2, h3, h4⟩
  · simp only [Value.slice.injEq] at e
    obtain ⟨rfl, rfl, rfl⟩ := e
    obtain rfl : m = 0 := by simpa using hm
    exact .inl ⟨_, rfl, rfl, rfl⟩
  · simp only [Value.slice.injEq] at e
    obtain ⟨rfl, rfl, rfl⟩ := e
    have hl : (xs.take m).length = m := by rw [List.length_take, Nat.min_eq_left hm]
    refine .inr ⟨b, o, c, cur, xs.drop m ++ rest, ?_, rfl, by rw [hl, List.length_append, List.length_drop]; omega, h2, h3, ?_⟩
    · unfold subAddr
      rw [hl]
      split
      · rfl
      · simp [add_flat]
    · rw [← List.append_assoc, List.take_append_drop]; exact h4
/-- x[:m], into the spare room too. -/
theorem Row.reslice {ao : Option Addr} {n c : Nat} {ch : Chunk} (hr : Row T d g (.slice ao n c) xs ch) (m : Nat) (hm : m ≤ c) : ∃ zs, Row T d g (.slice (subAddr ao 0 c d.sz) m c) zs ch ∧ zs.length = m ∧ zs.take xs.length = xs.take m := by
  rcases hr with ⟨a0, e, rfl, rfl⟩ | ⟨b, o, cap, cur, rest, e, rfl, h1, h2, h3, h4⟩
  · simp only [Value.slice.injEq] at e
    obtain ⟨rfl, rfl, rfl⟩ := e
    obtain rfl : m = 0 := by omega
    exact ⟨[], .inl ⟨_, rfl, rfl, rfl⟩, rfl, rfl⟩
  · simp only [Value.slice.injEq] at e
    obtain ⟨rfl, rfl, rfl⟩ := e
    have hl : ((xs ++ rest).take m).length = m := by rw [List.length_take, List.length_append, Nat.min_eq_left (by omega)]
    refine ⟨(xs ++ rest).take m, .inr ⟨b, o, c, cur, (xs ++ rest).drop m, ?_, rfl, by rw [hl, List.length_drop, List.length_append]; omega, h2, h3, by rw [List.take_append_drop]; exact h4⟩, hl, ?_⟩
    · unfold subAddr
      rw [hl]
      split
      · rfl
      · simp [add_flat]
    · rw [List.take_take, Nat.min_comm, ← List.take_take, List.take_left' rfl]
/-- A row of one's own, opened. -/
theorem Row.cases {v : Value} {ch : Chunk} (hr : Row T d g v xs ch) (hx : 0 < xs.length) :
    ∃ (b o cap : Nat) (cur : Array Value) (rest : List α), v = .slice (some ⟨b, o, none⟩) xs.length cap ∧ ch = [(b, .cells cur T (0, 0))] ∧ xs.length + rest.length = cap ∧ cap ≤ maxLen ∧ o + cap * d.sz ≤ cur.size ∧ Reads d g (xs ++ rest) (cut cur o (cap * d.sz)) := by
  rcases hr with ⟨_, _, rfl, _⟩ | h
  · simp at hx
  · exact h
theorem size_splice {cs : Array Value} {o : Nat} {vs : List Value} (h : o + vs.length ≤ cs.size) : (splice cs o vs).size = cs.size := by
  unfold splice
  rw [List.size_toArray, List.length_append, List.length_append, List.length_take, List.length_drop, Array.length_toList, Nat.min_eq_left (by omega)]
  omega
def putAt {α : Type} (xs : List α) (lo : Nat) (ys : List α) : List α := xs.take lo ++ ys ++ xs.drop (lo + ys.length)
theorem putAt_len {ys : List α} {lo : Nat} (h : lo + ys.length ≤ xs.length) : (putAt xs lo ys).length = xs.length := by
  unfold putAt
  rw [List.length_append, List.length_append, List.length_take, List.length_drop, Nat.min_eq_left (by omega)]
  omega
theorem Row.over {b o cap : Nat} {cur : Array Value} {rest : List α} (h1 : xs.length + rest.length = cap) (h2 : cap ≤ maxLen) (h3 : o + cap * d.sz ≤ cur.size) (h4 : Reads d g (xs ++ rest) (cut cur o (cap * d.sz)))
    (lo : Nat) {ys : List α} {news : List Value} (hlo : lo + ys.length ≤ xs.length) (hk : Reads d g ys news) :
    Row T d g (.slice (some ⟨b, o, none⟩) (putAt xs lo ys).length cap) (putAt xs lo ys) [(b, .cells (splice cur (o + lo * d.sz) news) T (0, 0))] := by
  have hn := hk.len
  have hl1 : (lo + ys.length) * d.sz ≤ cap * d.sz := Nat.mul_le_mul_right _ (by omega)
  rw [Nat.add_mul] at hl1
  have hcl : cur.toList.length = cur.size := Array.length_toList
  refine .inr ⟨b, o, cap, _, rest, rfl, rfl, by rw [putAt_len hlo]; exact h1, h2, by rw [size_splice (by rw [hn]; omega)]; exact h3, ?_⟩
  have r1 := (h4.parts lo (by rw [List.length_append]; omega)).1
  have r2 := (h4.parts (lo + ys.length) (by rw [List.length_append]; omega)).2
  rw [List.take_append_of_le_length (by omega)] at r1
  rw [List.drop_append_of_le_length (by omega)] at r2
  have hlist : putAt xs lo ys ++ rest = xs.take lo ++ ys ++ (xs.drop (lo + ys.length) ++ rest) := by simp [putAt, List.append_assoc]
  rw [hlist]
  have hlen : (xs.take lo ++ ys ++ (xs.drop (lo + ys.length) ++ rest)).length = cap := by
    rw [← hlist, List.length_append, putAt_len hlo]; exact h1
  have := reads_cut (pre := cur.toList.take o) (post := cur.toList.drop (o + cap * d.sz)) (o := o) ((r1.append hk).append r2) (by rw [List.length_take, hcl]; exact Nat.min_eq_left (by omega)) (splice cur (o + lo * d.sz) news) (by
    unfold splice cut
    rw [List.toList_toArray, List.take_add, hn, List.take_take, Nat.min_eq_left (by omega)]
    have e2 : cur.toList.drop (o + cap * d.sz) = (cur.toList.drop (o + (lo + ys.length) * d.sz)).drop (cap * d.sz - (lo + ys.length) * d.sz) := by
      rw [List.drop_drop]; congr 1; rw [Nat.add_mul]; omega
    have e1 : ((cur.toList.drop o).take (cap * d.sz)).drop ((lo + ys.length) * d.sz) ++ cur.toList.drop (o + cap * d.sz) = cur.toList.drop (o + lo * d.sz + ys.length * d.sz) := by
      rw [List.drop_take, List.drop_drop, e2, List.take_append_drop, Nat.add_mul, Nat.add_assoc]
    simp only [List.append_assoc]
    rw [e1])
  rwa [hlen] at this
theorem Row.put {b o cap : Nat} {cur : Array Value} {rest : List α} (h1 : xs.length + rest.length = cap) (h2 : cap ≤ maxLen) (h3 : o + cap * d.sz ≤ cur.size) (h4 : Reads d g (xs ++ rest) (cut cur o (cap * d.sz))) (i : Nat) (hi : i < xs.length) {x : α} {vs : List Value} (hk : d.K g x vs) :
    Row T d g (.slice (some ⟨b, o, none⟩) (xs.set i x).length cap) (xs.set i x) [(b, .cells (splice cur (o + i * d.sz) vs) T (0, 0))] := by
  have e : putAt xs i [x] = xs.set i x := by rw [List.set_eq_take_append_cons_drop, if_pos hi]; simp [putAt]
  have := Row.over (T := T) (b := b) h1 h2 h3 h4 i (ys := [x]) (by simp; omega) (Reads.single hk)
  rwa [e] at this
theorem u8K {g : GH} {n : Int} (h0 : 0 ≤ n) (h1 : n ≤ 255) : kU8.K g (UInt8.ofNat n.toNat) [.int .u8 n] := by
  show [Value.int .u8 n] = [Value.int .u8 (UInt8.ofNat n.toNat).toNat]
  rw [UInt8.toNat_ofNat', Nat.mod_eq_of_lt (by omega), Int.toNat_of_nonneg h0]
theorem rowEq {v : Value} {ys : List α} {c : Chunk} (h : Row T d g v xs c) (e : xs = ys) : Row T d g v ys c := e ▸ h
/-- The first chunk alone. -/
theorem St.only {h0 : Heap} {g0 : GH} {S0 : Nat → Prop} {g : GH} {c : Chunk} {L : List Chunk} (s : St h0 g0 S0 g (c :: L) h) : St h0 g0 S0 g [c] h := by
  induction L with
  | nil => exact s
  | cons x L ih => exact ih (St.drop (c := x) (s.perm (List.Perm.swap x c L)))
end

section
variable {C : Ctx} {ds : List Deferred} {i j : Nat} {r : Heap} {M : Nat → Prop} {Ls : List (Nat × Bool)} {e : Env} {h : Heap}
variable {h0 : Heap} {g0 : GH} {S0 : Nat → Prop} {g : GH} {L L' : List Chunk} {α : Type} {d : Kd α}

theorem Op.slHiD {dst : Nat} {T E : TypeId} {by_ : Nat} {x hi : Operand} {ao : Option Addr} {n c : Nat} {k : IntKind} {m : Int} {b : Bool} {xs : List α} (ho : nextDO C i j e = some (some dst, .slice T x none (some hi) none)) (hE : elemI C.P T = some (E, d.sz, by_))
    (hx : e.ev x = .slice ao n c) (hhi : e.ev hi = .int k m) (hs : SlR g E d (.slice ao n c) xs) (h0 : 0 ≤ m) (h1 : m ≤ xs.length)
    (K : ∀ v', SlR g E d v' (xs.take m.toNat) → Op C ds i r M Ls ((dst, v') :: e) h) : Op C ds i r M ((j, b) :: Ls) e h := by
  have hs2 := hs
  obtain ⟨ao', c', ee, hc, _⟩ := hs2
  simp only [Value.slice.injEq] at ee
  obtain ⟨rfl, rfl, rfl⟩ := ee
  refine Op.slHi ho hE hx hhi h0 (by omega) (K _ ?_)
  have := hs.sub 0 m.toNat (Nat.zero_le _) (by omega)
  simpa using this
theorem Op.slLoD {dst : Nat} {T E : TypeId} {by_ : Nat} {x lo : Operand} {ao : Option Addr} {n c : Nat} {k : IntKind} {m : Int} {b : Bool} {xs : List α} (ho : nextDO C i j e = some (some dst, .slice T x (some lo) none none)) (hE : elemI C.P T = some (E, d.sz, by_))
    (hx : e.ev x = .slice ao n c) (hlo : e.ev lo = .int k m) (hs : SlR g E d (.slice ao n c) xs) (h0 : 0 ≤ m) (h1 : m ≤ xs.length)
    (K : ∀ v', SlR g E d v' (xs.drop m.toNat) → Op C ds i r M Ls ((dst, v') :: e) h) : Op C ds i r M ((j, b) :: Ls) e h := by
  have hs2 := hs
  obtain ⟨ao', c', ee, hc, _⟩ := hs2
  simp only [Value.slice.injEq] at ee
  obtain ⟨rfl, rfl, rfl⟩ := ee
  refine Op.slLo ho hE hx hlo h0 (by omega) (K _ ?_)
  have := hs.sub m.toNat xs.length (by omega) (Nat.le_refl _)
  simpa using this
theorem Op.slLoHiD {dst : Nat} {T E : TypeId} {by_ : Nat} {x lo hi : Operand} {ao : Option Addr} {n c : Nat} {k k' : IntKind} {m m' : Int} {b : Bool} {xs : List α} (ho : nextDO C i j e = some (some dst, .slice T x (some lo) (some hi) none)) (hE : elemI C.P T = some (E, d.sz, by_))
    (hx : e.ev x = .slice ao n c) (hlo : e.ev lo = .int k m) (hhi : e.ev hi = .int k' m') (hs : SlR g E d (.slice ao n c) xs) (h0 : 0 ≤ m) (h1 : m ≤ m') (h2 : m' ≤ xs.length)
    (K : ∀ v', SlR g E d v' ((xs.take m'.toNat).drop m.toNat) → Op C ds i r M Ls ((dst, v') :: e) h) : Op C ds i r M ((j, b) :: Ls) e h := by
  have hs2 := hs
  obtain ⟨ao', c', ee, hc, _⟩ := hs2
  simp only [Value.slice.injEq] at ee
  obtain ⟨rfl, rfl, rfl⟩ := ee
  exact Op.slLoHi ho hE hx hlo hhi h0 h1 (by omega) (K _ (hs.sub m.toNat m'.toNat (by omega) (by omega)))
/-- x[:m] of a row of one's own. -/
theorem Op.slHiO {dst : Nat} {T E : TypeId} {by_ : Nat} {x hi : Operand} {ao : Option Addr} {n c : Nat} {k : IntKind} {m : Int} {b : Bool} {xs : List α} {ch : Chunk} (ho : nextDO C i j e = some (some dst, .slice T x none (some hi) none)) (hE : elemI C.P T = some (E, d.sz, by_))
    (hx : e.ev x = .slice ao n c) (hhi : e.ev hi = .int k m) (hs : Row E d g (.slice ao n c) xs ch) (h0 : 0 ≤ m) (h1 : m ≤ xs.length)
    (K : ∀ v', Row E d g v' (xs.take m.toNat) ch → Op C ds i r M Ls ((dst, v') :: e) h) : Op C ds i r M ((j, b) :: Ls) e h := by
  have h2 : xs.length ≤ c := by
    rcases hs.old with ⟨_, _, rfl, _⟩ | ⟨b, o, cap, cur, ee, _, hc, _⟩
    · simp
    · simp only [Value.slice.injEq] at ee
      obtain ⟨_, _, rfl⟩ := ee
      exact hc
  exact Op.slHi ho hE hx hhi h0 (by omega) (K _ (hs.take m.toNat (by omega)))
theorem Op.quo {dst : Nat} {v : Value} {n m : Int} {b : Bool} (ho : valOf C i j e = some (some dst, .int .i64 (IntKind.wrap .i64 (n.tdiv m)))) (h0 : 0 ≤ n) (h1 : n ≤ 9223372036854775807) (h2 : 1 ≤ m)
    (K : Op C ds i r M Ls (e.putO (some dst) (.int .i64 (n / m))) h) : Op C ds i r M ((j, b) :: Ls) e h :=
  Op.val ho (by rw [IntWalk.i64_quo n m ⟨h0, h1, h2⟩]) K
theorem quoEq {n m : Int} (h0 : 0 ≤ n) (h1 : n ≤ 9223372036854775807) (h2 : 1 ≤ m) : Value.int .i64 (IntKind.wrap .i64 (n.tdiv m)) = .int .i64 (n / m) := by rw [IntWalk.i64_quo n m ⟨h0, h1, h2⟩]
theorem remEq {n m : Int} (h0 : 0 ≤ n) : Value.int .i64 (n.tmod m) = .int .i64 (n % m) := by rw [IntWalk.rem_in n m h0]

/-- append(x, make(.., m)...), where there is no room. -/
theorem Op.appZ {dst : Nat} {x y : Operand} {t t' E : TypeId} {by_ : Nat} {ao : Option Addr} {n cap : Nat} {xs : List α} {m : Int}
    (ho : nextDO C i j e = some (some dst, .call { callee := .builtin .append, args := #[x, y], argTypes := #[t, t'] })) (hI : elemI C.P t = some (E, d.sz, by_)) (ht' : C.P.underlying t' = some (.int .i64))
    (hz : ((C.P.info? E).bind (·.zero)).map (·.cells.toList) = some d.zc)
    (hx : e.ev x = .slice ao n cap) (hs : SlH h g E d (.slice ao n cap) xs) (hy : e.ev y = .int .i64 m) (h0' : 0 ≤ m) (hg : (cap : Int) < xs.length + m) (hlen : (xs.length + m.toNat) * by_ ≤ 140737488355328) (s : St h0 g0 S0 g L h)
    (K : ∀ b h' c' cap' cur, Row E d g (.slice (some ⟨b, 0, none⟩) (xs.length + m.toNat) cap') (xs ++ List.replicate m.toNat d.zv) c' → c' = [(b, .cells cur E (0, 0))] → St h0 g0 S0 g (c' :: L) h' → Op C ds i r M Ls ((dst, .slice (some ⟨b, 0, none⟩) (xs.length + m.toNat) cap') :: e) h') :
    Op C ds i r M ((j, false) :: Ls) e h := by
  obtain ⟨o', h1, h2, h3⟩ := nextDO_spec ho
  obtain ⟨inf, zv, I⟩ := elemI_spec hI
  obtain ⟨news, hsrc, hro⟩ := Src.slice (P := C.P) hs
  obtain ⟨ao', c', ee, hc, _⟩ := hs
  simp only [Value.slice.injEq] at ee
  obtain ⟨rfl, rfl, rfl⟩ := ee
  have hzc : zv.cells.toList = d.zc := by simpa [I.info, I.zero] using hz
  have hreps := fun q => reads_zeros d g zv.cells hzc q
  have hg' : cap < xs.length + m.toNat := by omega
  have hfit := growslice_fits (old := cap) hg' hlen
  have hshort : xs.length + m.toNat ≤ 140737488355328 := by
    have : (xs.length + m.toNat) * 1 ≤ (xs.length + m.toNat) * by_ := Nat.mul_le_mul_left _ I.bpos
    omega
  have hmb : m.toNat * by_ ≤ (xs.length + m.toNat) * by_ := Nat.mul_le_mul_right _ (by omega)
  refine Op.run h1 (R := fun nx h' => ∃ cap', nx = .value (.slice (some ⟨h.size, 0, none⟩) (xs.length + m.toNat) cap') ∧ xs.length + m.toNat ≤ cap' ∧ cap' ≤ maxLen ∧
    h' = h.push (.cells (news.toArray ++ Builtin.zeroCells zv.cells m.toNat ++ Builtin.zeroCells zv.cells (cap' - (xs.length + m.toNat))) E (0, 0))) ?_ ?_
  · intro w is
    have hh := is.heap
    have hco := hsrc.cells w.drew hh xs.length (Nat.le_refl _)
    rw [← hsrc.size, List.take_length] at hco
    have hno : ¬ (xs.length + m.toNat ≤ cap) := by omega
    have hlim : ¬ (281474976710656 < Builtin.nextslicecap (xs.length + m.toNat) cap * inf.bytes) := by rw [I.bytes]; omega
    have hneg : ¬ (m < 0) := by omega
    have hbig : ¬ (281474976710656 < m * (inf.bytes : Int)) := by
      rw [I.bytes]
      have : m * (by_ : Int) = ((m.toNat * by_ : Nat) : Int) := by rw [Int.natCast_mul, Int.toNat_of_nonneg h0']
      omega
    have hsmall : ¬ (9223372036854775807 < (xs.length : Int) + (m.toNat : Int)) := by omega
    have hsmall3 : ¬ (9223372036854775807 < (xs.length : Int) + max m 0) := by omega
    have hsmall2 : ¬ (9223372036854775807 < (xs.length : Int) + m) := by omega
    have hwr : IntKind.wrap .i64 m = m := by rw [IntKind.wrap_i64]; omega
    have hi := I.info
    have hzz := I.zero
    have hai : ∀ w', (asInt (.int .i64 m)).run C.P w' = .ok m w' := fun w' => by simp [asInt, asIntOf]
    refine ⟨.value (.slice (some ⟨w.heap.size, 0, none⟩) (xs.length + m.toNat) (grownCap w (xs.length + m.toNat) cap E)),
      w.drew.alloc (.cells (news.toArray ++ Builtin.zeroCells zv.cells m.toNat ++ Builtin.zeroCells zv.cells (grownCap w (xs.length + m.toNat) cap E - (xs.length + m.toNat))) E), ?_, ⟨rfl, is.os, is.tape, is.output⟩, _, by rw [← hh], grownCap_ge' w _ _ _, grownCap_max w _ _ _ (by unfold maxLen; omega), by rw [← hh]; rfl⟩
    refine semOf_call (P := C.P) h3 (.inl rfl) ?_
    simp only [List.map_toArray, List.map_cons, List.map_nil, hx, hy]
    simp only [Builtin.append_, sizeOf, typeInfo, zeroValue]
    simp only [List.getElem?_toArray, List.getElem?_cons_zero, List.getElem?_cons_succ, Sem.run_bind, run_program, Result.andThen_ok, run_underlying I.under, run_underlying ht', hi, Sem.run_pure, I.size]
    by_cases hms : m.toNat * d.sz = 0
    · have hze : Builtin.zeroCells zv.cells m.toNat = #[] := by
        apply Array.eq_empty_of_size_eq_zero
        rw [size_zeros, I.cells]; exact hms
      simp [hai, hwr, hneg, hbig, hno, hsmall, hsmall2, hsmall3, hlim, hco, Question.forced, newRow, grownCap, hi, hzz, hze, hms]
    · simp [hai, hwr, hneg, hbig, hno, hsmall, hsmall2, hsmall3, hlim, hco, Question.forced, newRow, grownCap, hi, hzz, hms]
  · rintro _ _ ⟨cap', rfl, hc1, hc2, rfl⟩
    refine ⟨_, rfl, Keep.push _, ?_⟩
    rw [h2]
    refine K h.size _ _ cap' _ (.inr ⟨h.size, 0, cap', _, List.replicate (cap' - (xs.length + m.toNat)) d.zv, by rw [List.length_append, List.length_replicate], rfl, by rw [List.length_append, List.length_replicate, List.length_replicate]; omega, hc2, ?_, ?_⟩) rfl (s.alloc _)
    · simp only [Array.size_append, List.size_toArray, size_zeros, I.cells, hro.len]
      rw [Nat.zero_add, ← Nat.add_mul, ← Nat.add_mul, Nat.add_sub_cancel' hc1]
      exact Nat.le_refl _
    · have hlen2 : (xs ++ List.replicate m.toNat d.zv ++ List.replicate (cap' - (xs.length + m.toNat)) d.zv).length = cap' := by simp; omega
      have := reads_cut (pre := []) (post := []) (o := 0) ((hro.append (hreps m.toNat)).append (hreps (cap' - (xs.length + m.toNat)))) rfl (news.toArray ++ Builtin.zeroCells zv.cells m.toNat ++ Builtin.zeroCells zv.cells (cap' - (xs.length + m.toNat))) (by simp [Array.toList_append])
      rwa [hlen2] at this

theorem Op.ofBytes {dst : Nat} {T S E : TypeId} {x : Operand} {v : Value} {l : List UInt8} (ho : nextDO C i j e = some (some dst, .convert T S x)) (hT : C.P.underlying T = some (.slice E)) (hE : C.P.underlying E = some (.int .u8)) (hS : C.P.underlying S = some .string)
    (hx : e.ev x = v) (hs : SlH h g E kU8 v l) (K : Op C ds i r M Ls ((dst, .string (mkS l)) :: e) h) : Op C ds i r M ((j, false) :: Ls) e h := by
  obtain ⟨o', h1, h2, h3⟩ := nextDO_spec ho
  obtain ⟨ao, c, rfl, hc, H⟩ := hs
  refine Op.take h1 (v := .string (mkS l)) (fun h => by cases h) (fun w is hk hw => ?_) (by rw [h2]; exact K)
  have hw := hw rfl
  unfold semOf execOp
  simp only [h3, hx, Sem.run_bind]
  by_cases hl : l = []
  · subst hl
    cases ao with
    | none => rw [run_convert_bytes_nil w T E hT hE _ _ S hS]; rfl
    | some a =>
      rw [List.length_nil, run_convert_bytes_string w T S E _ _ _ hT hE hS, run_bytesToString w a 0 c [] (by simp [loadCells, loadCellsFrom])]
      rfl
  · obtain ⟨b, o, cur, fz, rfl, hb, hr⟩ := H hl
    rw [run_convert_bytes_arg w T E hT hE b o l.length c (l.map fun x => (x.toNat : Int)) (by simp) (fun q hq => ?_) S hS]
    · simp only [Result.andThen_ok, Sem.run_pure]
      congr 3
      unfold strOfNums mkS
      congr 1
      simp [List.map_map, Function.comp_def]
    · have hq2 : l[q]? = some l[q] := List.getElem?_eq_getElem hq
      have h4 := hr.at_ q hq2
      rw [cut_cut _ _ _ _ _ (by
        have : (q + 1) * kU8.sz ≤ l.length * kU8.sz := Nat.mul_le_mul_right _ hq
        rw [Nat.succ_mul] at this
        exact this)] at h4
      have h5 : cut cur (o + q * 1) 1 = [.int .u8 l[q].toNat] := h4
      have h6 := cut_get h5 0 rfl
      rw [cell_of hw, hcell_row hb]
      simp only [Nat.mul_one, Nat.add_zero] at h6
      rw [h6]
      simp [List.getD, hq2]
end
end Go.Proofs.YtphonojjgnbpfaaDoor.Sw
