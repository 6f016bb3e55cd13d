/- Lemmas for a law of this seat: what the functions compute, and plain facts of it. Own text. -/
import Derived.Test.YtmjebehhpojihaaGreatDoorCShowsH
import Derived.Laws.BytesArg
namespace Go.Proofs.YtmjebehhpojihaaGreatDoor.Sw
set_option linter.unusedVariables false
set_option linter.unusedSimpArgs false
set_option linter.deprecated false
open Go
section
variable {α : Type} {d : Kd α} {g g' : GH} {h h' : Heap} {T : TypeId} {xs : List α}
theorem SlR.sub {ao : Option Addr} {n c : Nat} (hs : SlR g T d (.slice ao n c) xs) (lo hi : Nat) (h1 : lo ≤ hi) (h2 : hi ≤ xs.length) :
    SlR g T d (.slice (subAddr ao lo c d.sz) (hi - lo) (c - lo)) ((xs.take hi).drop lo) := by
  obtain ⟨ao', c', e, hc, H⟩ := hs
  simp only [Value.slice.injEq] at e
  obtain ⟨rfl, rfl, rfl⟩ := e
  have hl : ((xs.take hi).drop lo).length = hi - lo := by rw [List.length_drop, List.length_take, Nat.min_eq_left h2]
  refine ⟨_, _, by rw [hl], by rw [hl]; omega, fun hne => ?_⟩
  have hlt : lo < hi := by
    rcases Nat.lt_or_ge lo hi with h | h
    · exact h
    · exact absurd (List.eq_nil_of_length_eq_zero (by rw [hl]; omega)) hne
  obtain ⟨b, o, cur, fz, rfl, hb, hr⟩ := H (by intro hx; subst hx; simp at h2; omega)
  refine ⟨b, o + lo * d.sz, cur, fz, ?_, hb, ?_⟩
  · unfold subAddr
    rw [if_neg (by omega)]
    simp [add_flat]
  · have h3 := ((hr.parts hi h2).1.parts lo (by rw [List.length_take, Nat.min_eq_left h2]; exact h1)).2
    have hb1 : hi * d.sz ≤ xs.length * d.sz := Nat.mul_le_mul_right _ h2
    have hb2 : lo * d.sz ≤ hi * d.sz := Nat.mul_le_mul_right _ h1
    have e : ((cut cur o (xs.length * d.sz)).take (hi * d.sz)).drop (lo * d.sz) = cut cur (o + lo * d.sz) ((hi - lo) * d.sz) := by
      rw [List.drop_take, Nat.sub_mul, cut_cut]
      omega
    rw [e] at h3
    rw [hl]
    exact h3
theorem Row.take {ao : Option Addr} {n c : Nat} {ch : Chunk} (hr : Row T d g (.slice ao n c) xs ch) (m : Nat) (hm : m ≤ xs.length) : Row T d g (.slice (subAddr ao 0 c d.sz) m c) (xs.take m) ch := by
  rcases hr with ⟨a0, e, rfl, rfl⟩ | ⟨b, o, cap, cur, rest, e, rfl, h1, h2, h3, h4⟩
  · simp only [Value.slice.injEq] at e
    obtain ⟨rfl, rfl, rfl⟩ := e
    obtain rfl : m = 0 := by simpa using hm
    exact .inl ⟨_, rfl, rfl, rfl⟩
  · simp only [Value.slice.injEq] at e
    obtain ⟨rfl, rfl, rfl⟩ := e
    have hl : (xs.take m).length = m := by rw [List.length_take, Nat.min_eq_left hm]
    refine .inr ⟨b, o, c, cur, xs.drop m ++ rest, ?_, rfl, by rw [hl, List.length_append, List.length_drop]; omega, h2, h3, ?_⟩
    · unfold subAddr
      rw [hl]
      split
      · rfl
      · simp [add_flat]
    · rw [← List.append_assoc, List.take_append_drop]; exact h4
theorem Row.cases {v : Value} {ch : Chunk} (hr : Row T d g v xs ch) (hx : 0 < xs.length) :
    ∃ (b o cap : Nat) (cur : Array Value) (rest : List α), v = .slice (some ⟨b, o, none⟩) xs.length cap ∧ ch = [(b, .cells cur T (0, 0))] ∧ xs.length + rest.length = cap ∧ cap ≤ maxLen ∧ o + cap * d.sz ≤ cur.size ∧ Reads d g (xs ++ rest) (cut cur o (cap * d.sz)) := by
  rcases hr with ⟨_, _, rfl, _⟩ | h
  · simp at hx
  · exact h
theorem size_splice {cs : Array Value} {o : Nat} {vs : List Value} (h : o + vs.length ≤ cs.size) : (splice cs o vs).size = cs.size := by
  unfold splice
  rw [List.size_toArray, List.length_append, List.length_append, List.length_take, List.length_drop, Array.length_toList, Nat.min_eq_left (by omega)]
  omega
def putAt {α : Type} (xs : List α) (lo : Nat) (ys : List α) : List α := xs.take lo ++ ys ++ xs.drop (lo + ys.length)
theorem putAt_len {ys : List α} {lo : Nat} (h : lo + ys.length ≤ xs.length) : (putAt xs lo ys).length = xs.length := by
  unfold putAt
  rw [List.length_append, List.length_append, List.length_take, List.length_drop, Nat.min_eq_left (by omega)]
  omega
theorem Row.over {b o cap : Nat} {cur : Array Value} {rest : List α} (h1 : xs.length + rest.length = cap) (h2 : cap ≤ maxLen) (h3 : o + cap * d.sz ≤ cur.size) (h4 : Reads d g (xs ++ rest) (cut cur o (cap * d.sz)))
    (lo : Nat) {ys : List α} {news : List Value} (hlo : lo + ys.length ≤ xs.length) (hk : Reads d g ys news) :
    Row T d g (.slice (some ⟨b, o, none⟩) (putAt xs lo ys).length cap) (putAt xs lo ys) [(b, .cells (splice cur (o + lo * d.sz) news) T (0, 0))] := by
  have hn := hk.len
  have hl1 : (lo + ys.length) * d.sz ≤ cap * d.sz := Nat.mul_le_mul_right _ (by omega)
  rw [Nat.add_mul] at hl1
  have hcl : cur.toList.length = cur.size := Array.length_toList
  refine .inr ⟨b, o, cap, _, rest, rfl, rfl, by rw [putAt_len hlo]; exact h1, h2, by rw [size_splice (by rw [hn]; omega)]; exact h3, ?_⟩
  have r1 := (h4.parts lo (by rw [List.length_append]; omega)).1
  have r2 := (h4.parts (lo + ys.length) (by rw [List.length_append]; omega)).2
  rw [List.take_append_of_le_length (by omega)] at r1
  rw [List.drop_append_of_le_length (by omega)] at r2
  have hlist : putAt xs lo ys ++ rest = xs.take lo ++ ys ++ (xs.drop (lo + ys.length) ++ rest) := by simp [putAt, List.append_assoc]
  rw [hlist]
  have hlen : (xs.take lo ++ ys ++ (xs.drop (lo + ys.length) ++ rest)).length = cap := by
    rw [← hlist, List.length_append, putAt_len hlo]; exact h1
  have := reads_cut (pre := cur.toList.take o) (post := cur.toList.drop (o + cap * d.sz)) (o := o) ((r1.append hk).append r2) (by rw [List.length_take, hcl]; exact Nat.min_eq_left (by omega)) (splice cur (o + lo * d.sz) news) (by
    unfold splice cut
    rw [List.toList_toArray, List.take_add, hn, List.take_take, Nat.min_eq_left (by omega)]
    have e2 : cur.toList.drop (o + cap * d.sz) = (cur.toList.drop (o + (lo + ys.length) * d.sz)).drop (cap * d.sz - (lo + ys.length) * d.sz) := by
      rw [List.drop_drop]; congr 1; rw [Nat.add_mul]; omega
    have e1 : ((cur.toList.drop o).take (cap * d.sz)).drop ((lo + ys.length) * d.sz) ++ cur.toList.drop (o + cap * d.sz) = cur.toList.drop (o + lo * d.sz + ys.length * d.sz) := by
      rw [List.drop_take, List.drop_drop, e2, List.take_append_drop, Nat.add_mul, Nat.add_assoc]
    simp only [List.append_assoc]
    rw [e1])
  rwa [hlen] at this
theorem Row.put {b o cap : Nat} {cur : Array Value} {rest : List α} (h1 : xs.length + rest.length = cap) (h2 : cap ≤ maxLen) (h3 : o + cap * d.sz ≤ cur.size) (h4 : Reads d g (xs ++ rest) (cut cur o (cap * d.sz))) (i : Nat) (hi : i < xs.length) {x : α} {vs : List Value} (hk : d.K g x vs) :
    Row T d g (.slice (some ⟨b, o, none⟩) (xs.set i x).length cap) (xs.set i x) [(b, .cells (splice cur (o + i * d.sz) vs) T (0, 0))] := by
  have e : putAt xs i [x] = xs.set i x := by rw [List.set_eq_take_append_cons_drop, if_pos hi]; simp [putAt]
  have := Row.over (T := T) (b := b) h1 h2 h3 h4 i (ys := [x]) (by simp; omega) (Reads.single hk)
  rwa [e] at this
theorem u8K {g : GH} {n : Int} (h0 : 0 ≤ n) (h1 : n ≤ 255) : kU8.K g (UInt8.ofNat n.toNat) [.int .u8 n] := by
  show [Value.int .u8 n] = [Value.int .u8 (UInt8.ofNat n.toNat).toNat]
  rw [UInt8.toNat_ofNat', Nat.mod_eq_of_lt (by omega), Int.toNat_of_nonneg h0]
theorem rowEq {v : Value} {ys : List α} {c : Chunk} (h : Row T d g v xs c) (e : xs = ys) : Row T d g v ys c := e ▸ h
theorem St.only {h0 : Heap} {g0 : GH} {S0 : Nat → Prop} {g : GH} {c : Chunk} {L : List Chunk} (s : St h0 g0 S0 g (c :: L) h) : St h0 g0 S0 g [c] h := by
  induction L with
  | nil => exact s
  | cons x L ih => exact ih (St.drop (c := x) (s.perm (List.Perm.swap x c L)))
end
section
variable {C : Ctx} {ds : List Deferred} {i j : Nat} {r : Heap} {M : Nat → Prop} {Ls : List (Nat × Bool)} {e : Env} {h : Heap}
variable {h0 : Heap} {g0 : GH} {S0 : Nat → Prop} {g : GH} {L L' : List Chunk} {α : Type} {d : Kd α}
theorem Op.slLoD {dst : Nat} {T E : TypeId} {by_ : Nat} {x lo : Operand} {ao : Option Addr} {n c : Nat} {k : IntKind} {m : Int} {b : Bool} {xs : List α} (ho : nextDO C i j e = some (some dst, .slice T x (some lo) none none)) (hE : elemI C.P T = some (E, d.sz, by_))
    (hx : e.ev x = .slice ao n c) (hlo : e.ev lo = .int k m) (hs : SlR g E d (.slice ao n c) xs) (h0 : 0 ≤ m) (h1 : m ≤ xs.length)
    (K : ∀ v', SlR g E d v' (xs.drop m.toNat) → Op C ds i r M Ls ((dst, v') :: e) h) : Op C ds i r M ((j, b) :: Ls) e h := by
  have hs2 := hs
  obtain ⟨ao', c', ee, hc, _⟩ := hs2
  simp only [Value.slice.injEq] at ee
  obtain ⟨rfl, rfl, rfl⟩ := ee
  refine Op.slLo ho hE hx hlo h0 (by omega) (K _ ?_)
  have := hs.sub m.toNat xs.length (by omega) (Nat.le_refl _)
  simpa using this
theorem Op.slLoHiD {dst : Nat} {T E : TypeId} {by_ : Nat} {x lo hi : Operand} {ao : Option Addr} {n c : Nat} {k k' : IntKind} {m m' : Int} {b : Bool} {xs : List α} (ho : nextDO C i j e = some (some dst, .slice T x (some lo) (some hi) none)) (hE : elemI C.P T = some (E, d.sz, by_))
    (hx : e.ev x = .slice ao n c) (hlo : e.ev lo = .int k m) (hhi : e.ev hi = .int k' m') (hs : SlR g E d (.slice ao n c) xs) (h0 : 0 ≤ m) (h1 : m ≤ m') (h2 : m' ≤ xs.length)
    (K : ∀ v', SlR g E d v' ((xs.take m'.toNat).drop m.toNat) → Op C ds i r M Ls ((dst, v') :: e) h) : Op C ds i r M ((j, b) :: Ls) e h := by
  have hs2 := hs
  obtain ⟨ao', c', ee, hc, _⟩ := hs2
  simp only [Value.slice.injEq] at ee
  obtain ⟨rfl, rfl, rfl⟩ := ee
  exact Op.slLoHi ho hE hx hlo hhi h0 h1 (by omega) (K _ (hs.sub m.toNat m'.toNat (by omega) (by omega)))
theorem remEq {n m : Int} (h0 : 0 ≤ n) : Value.int .i64 (n.tmod m) = .int .i64 (n % m) := by rw [IntWalk.rem_in n m h0]
theorem Op.ofBytes {dst : Nat} {T S E : TypeId} {x : Operand} {v : Value} {l : List UInt8} (ho : nextDO C i j e = some (some dst, .convert T S x)) (hT : C.P.underlying T = some (.slice E)) (hE : C.P.underlying E = some (.int .u8)) (hS : C.P.underlying S = some .string)
    (hx : e.ev x = v) (hs : SlH h g E kU8 v l) (K : Op C ds i r M Ls ((dst, .string (mkS l)) :: e) h) : Op C ds i r M ((j, false) :: Ls) e h := by
  obtain ⟨o', h1, h2, h3⟩ := nextDO_spec ho
  obtain ⟨ao, c, rfl, hc, H⟩ := hs
  refine Op.take h1 (v := .string (mkS l)) (fun h => by cases h) (fun w is hk hw => ?_) (by rw [h2]; exact K)
  have hw := hw rfl
  unfold semOf execOp
  simp only [h3, hx, Sem.run_bind]
  by_cases hl : l = []
  · subst hl
    cases ao with
    | none => rw [run_convert_bytes_nil w T E hT hE _ _ S hS]; rfl
    | some a =>
      rw [List.length_nil, run_convert_bytes_string w T S E _ _ _ hT hE hS, run_bytesToString w a 0 c [] (by simp [loadCells, loadCellsFrom])]
      rfl
  · obtain ⟨b, o, cur, fz, rfl, hb, hr⟩ := H hl
    rw [run_convert_bytes_arg w T E hT hE b o l.length c (l.map fun x => (x.toNat : Int)) (by simp) (fun q hq => ?_) S hS]
    · simp only [Result.andThen_ok, Sem.run_pure]
      congr 3
      unfold strOfNums mkS
      congr 1
      simp [List.map_map, Function.comp_def]
    · have hq2 : l[q]? = some l[q] := List.getElem?_eq_getElem hq
      have h4 := hr.at_ q hq2
      rw [cut_cut _ _ _ _ _ (by
        have : (q + 1) * kU8.sz ≤ l.length * kU8.sz := Nat.mul_le_mul_right _ hq
        rw [Nat.succ_mul] at this
        exact this)] at h4
      have h5 : cut cur (o + q * 1) 1 = [.int .u8 l[q].toNat] := h4
      have h6 := cut_get h5 0 rfl
      rw [cell_of hw, hcell_row hb]
      simp only [Nat.mul_one, Nat.add_zero] at h6
      rw [h6]
      simp [List.getD, hq2]
end
end Go.Proofs.YtmjebehhpojihaaGreatDoor.Sw
namespace Go.Proofs.YtmjebehhpojihaaGreatDoor.Sw
set_option linter.unusedVariables false
set_option linter.unusedSimpArgs false
set_option linter.deprecated false
open Go
def eqFs (f : Field → Option Bool) : List Field → Option Bool
  | [] => some true
  | x :: r => match f x, eqFs f r with
    | some a, some b => some (a && b)
    | _, _ => none
def eqC (P : Program) : Nat → TypeId → Value → Value → Option Bool
  | 0, _, _, _ => none
  | n + 1, T, x, y => match P.underlying T, x, y with
    | some .bool, .bool a, .bool b => some (a == b)
    | some (.int _), .int k a, .int k' b => if k = k' then some (a == b) else none
    | some .string, .string a, .string b => some (a == b)
    | some (.struct fs), .agg xs, .agg ys => if P.stoodInHeld T = true then none else
        eqFs (fun f => if f.name = "_" then none else match pureVal P (part f.type xs f.offset), pureVal P (part f.type ys f.offset) with
          | some a, some b => eqC P n f.type a b
          | _, _ => none) fs.toList
    | _, _, _ => none
theorem eqFs_loop {P : Program} {w : World} {f : Field → Option Bool} (F : Field → Option Bool × Unit → Sem (ForInStep (Option Bool × Unit))) : ∀ (l : List Field) (r : Bool), eqFs f l = some r →
    (∀ x b, f x = some b → ∀ s, (F x s).run P w = .ok (if b = true then .yield (none, ()) else .done (some false, ())) w) → (forIn l (none, ()) F).run P w = .ok (if r = true then (none, ()) else (some false, ())) w
  | [], r, h, H => by
    simp only [eqFs, Option.some.injEq] at h
    subst h
    simp
  | x :: l, r, h, H => by
    unfold eqFs at h
    split at h
    · rename_i a b ha hb
      simp only [Option.some.injEq] at h
      subst h
      have ih := eqFs_loop F l b hb H
      have hx := H x a ha (none, ())
      rw [List.forIn_cons, Sem.run_bind, hx]
      cases a with
      | true => simpa using ih
      | false => simp
    · cases h
theorem eqC_run {P : Program} {w : World} : ∀ (n m : Nat) (T : TypeId) (x y : Value) (r : Bool), n ≤ m → eqC P n T x y = some r → (Go.Op.equalIn m T x y).run P w = .ok r w := by
  intro n
  induction n with
  | zero => intro m T x y r _ h; simp [eqC] at h
  | succ n ih =>
    intro m T x y r hm h
    obtain ⟨m, rfl⟩ : ∃ q, m = q + 1 := ⟨m - 1, by omega⟩
    unfold eqC at h
    split at h
    · rename_i hu; simp only [Option.some.injEq] at h; subst h
      simp [Go.Op.equalIn, run_underlying hu]
    · rename_i hu
      split at h
      · rename_i hk; simp only [Option.some.injEq] at h; subst h; subst hk
        simp [Go.Op.equalIn, run_underlying hu]
      · cases h
    · rename_i hu; simp only [Option.some.injEq] at h; subst h
      simp [Go.Op.equalIn, run_underlying hu]
    · rename_i fs xs ys hu
      split at h
      · cases h
      · rename_i hs
        simp only [Go.Op.equalIn, Sem.run_bind, run_underlying hu, Result.andThen_ok, run_program, hs, if_false, Bool.false_eq_true]
        rw [← Array.forIn_toList, eqFs_loop (P := P) (w := w) _ fs.toList r h (fun fl b hb s0 => ?_)]
        · cases r <;> rfl
        · split at hb
          · cases hb
          · rename_i hname
            split at hb
            · rename_i a b' ha hb'
              have h1 := pureVal_run _ ha w
              have h2 := pureVal_run _ hb' w
              have h3 := ih m fl.type a b' b (by omega) hb
              simp only [hname, ne_eq, not_false_eq_true, if_true, Sem.run_bind, h1, h2, h3, Result.andThen_ok]
              cases b <;> rfl
            · cases hb
    · cases h
section
variable {C : Ctx} {ds : List Deferred} {i j : Nat} {r : Heap} {M : Nat → Prop} {Ls : List (Nat × Bool)} {e : Env} {h : Heap}
theorem Op.eqAgg {dst : Nat} {T T' : TypeId} {x y : Operand} {neq : Bool} {xs ys : Array Value} {q q' : Bool} {b : Bool} (ho : nextDO C i j e = some (some dst, .binOp (bif neq then .neq else .eql) T x y T'))
    (hx : e.ev x = .agg xs) (hy : e.ev y = .agg ys) (hg : C.P.eqGuardType C.P.depth T = false) (hq : eqC C.P 30 T (.agg xs) (.agg ys) = some q) (hv : (bif neq then !q else q) = q')
    (K : Op C ds i r M Ls ((dst, .bool q') :: e) h) : Op C ds i r M ((j, b) :: Ls) e h := by
  refine Op.free ho (fun o' ho w => ?_) K
  have h1 : (Go.Op.equal T (.agg xs) (.agg ys)).run C.P w = .ok q w := eqC_run 30 _ T _ _ q (by decide) hq
  subst hv
  cases neq <;> simp only [cond_true, cond_false] at ho ⊢ <;>
    simp [execOp, ho, hx, hy, eqGuard, binOp, hg, h1]
end
theorem mkS_beq (a b : List UInt8) : (mkS a == mkS b) = (a == b) := by
  show (a.toArray == b.toArray) = _
  simp
end Go.Proofs.YtmjebehhpojihaaGreatDoor.Sw
namespace Go.Proofs.YtmjebehhpojihaaGreatDoor.Sw
set_option linter.unusedVariables false
set_option linter.unusedSimpArgs false
set_option linter.deprecated false
open Go
def ResAll (P : Program) (e : Env) (h : Heap) : List ResultVar → List Value → Prop
  | [], [] => True
  | .tmp t :: l, v :: vs => e.get t = some v ∧ ResAll P e h l vs
  | .cell c T :: l, v :: vs => (∃ b o, e.get c = some (.pointer (some ⟨b, o, none⟩)) ∧ ∀ w : World, w.heap = h → (loadVar T ⟨b, o, none⟩).run P w = .ok v w) ∧ ResAll P e h l vs
  | _, _ => False
theorem resAgg {P : Program} {h : Heap} {T : TypeId} {b o n : Nat} {vs : List Value} {cs : Array Value} {U : TypeId} {fz : Nat × Nat} (hT : shapeT P T = some (true, n)) (hb : h[b]? = some (.cells cs U fz)) (hv : cut cs o n = vs) (hl : vs.length = n) :
    ∀ w : World, w.heap = h → (loadVar T ⟨b, o, none⟩).run P w = .ok (.agg vs.toArray) w :=
  fun w hw => run_loadVar_agg hT hl fun k v hk => by rw [cell_of hw]; exact cut_at hv hb k v hk
theorem resOne {P : Program} {h : Heap} {T : TypeId} {b o n : Nat} {v : Value} {cs : Array Value} {U : TypeId} {fz : Nat × Nat} (hT : shapeT P T = some (false, n)) (hb : h[b]? = some (.cells cs U fz)) (hv : cs[o]? = some v) :
    ∀ w : World, w.heap = h → (loadVar T ⟨b, o, none⟩).run P w = .ok v w :=
  fun w hw => run_loadVar_one hT (by rw [cell_of hw, hcell_row hb, hv])
theorem results_all {P : Program} {f : Func} {a : Act} {e : Env} {n : Nat} {ds : List Deferred} {h : Heap} (ft : Fits e n ds a) {vs : List Value} (hv : ResAll P e h f.results.toList vs) (w : World) (hw : w.heap = h) :
    (results f a.tmps).run P w = .ok (if hs : vs.toArray.size = 1 then vs.toArray[0] else .tuple vs.toArray) w := by
  have key : ∀ (g : ResultVar → Sem Value), (∀ t, g (.tmp t) = pure (a.tmps.getD t undef)) → (∀ c t, g (.cell c t) = do loadVar t (← asAddr (a.tmps.getD c undef))) → ∀ (l : List ResultVar) (vs : List Value), ResAll P e h l vs → (l.mapM g).run P w = .ok vs w := by
    intro g hg hg2 l
    induction l with
    | nil =>
      intro vs h
      cases vs with
      | nil => rfl
      | cons => simp [ResAll] at h
    | cons x l ih =>
      intro vs hh
      rw [List.mapM_cons]
      cases vs with
      | nil => cases x <;> simp [ResAll] at hh
      | cons v vs =>
        cases x with
        | tmp t =>
          have h1 := ft.get t v hh.1
          simp only [Sem.run_bind, hg, Sem.run_pure, Result.andThen_ok, ih vs hh.2]
          simp [h1]
        | cell c t =>
          obtain ⟨⟨b, o, h1, h2⟩, h3⟩ := hh
          have h4 := ft.get c _ h1
          have h5 : a.tmps.getD c undef = .pointer (some ⟨b, o, none⟩) := by simp [h4]
          simp only [Sem.run_bind, hg2, h5, asAddr, Sem.run_pure, Result.andThen_ok, h2 w hw, ih vs h3]
  have harr : ∀ (g : ResultVar → Sem Value) (vs : List Value), (f.results.toList.mapM g).run P w = .ok vs w → (f.results.mapM g).run P w = .ok vs.toArray w := by
    intro g vs h
    rw [Array.mapM_eq_mapM_toList]
    simp only [Sem.run_map, h, Result.andThen_ok]
  unfold results
  rw [Sem.run_bind]
  exact (congrArg (fun r => Result.andThen r _) (harr _ _ (key _ (fun _ => rfl) (fun _ _ => rfl) _ _ hv))).trans rfl
theorem At.retM {P : Program} {B : World} {fn : FuncId} {f : Func} {R : Value → Heap → Prop} {i : Nat} {e : Env} {h : Heap} {v : Value} {vs : List Value} {rl : List ResultVar}
    (hi : isEnd (pt (codeOf f) i) = true) (hr : f.results.toList = rl) (hv : ResAll P e h rl vs) (hv2 : (if hs : vs.toArray.size = 1 then vs.toArray[0] else .tuple vs.toArray) = v) (H : R v h) : At (fctx P B fn f R) [] i e h := by
  intro a w ft is
  subst hv2
  subst hr
  show RunK P none fn (fnQ P B f R) (pt (codeOf f) i) a w
  have hq : ∀ j, (j = none ∨ j = some .ret) → fnQ P B f R j a w := fun j hj =>
    ⟨hj, w, _, by rw [ft.defers]; exact .nil w, results_all ft hv w is.heap, is.again, by rw [is.heap]; exact H⟩
  generalize pt (codeOf f) i = k at *
  unfold isEnd at hi
  split at hi
  · exact .leave .fin (hq _ (.inl rfl))
  · exact .leave (.ret _) (hq _ (.inr rfl))
  · cases hi
end Go.Proofs.YtmjebehhpojihaaGreatDoor.Sw
