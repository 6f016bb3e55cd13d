/- Lemmas for a law of this seat: what the functions compute, and plain facts of it. Own text. -/
import Derived.Test.YtmjebehhpojihaaGreatDoorCBehindL
import Derived.Lib.ConvBytes
import Derived.Laws.MakeOwn
namespace Go.Proofs.YtmjebehhpojihaaGreatDoor.Sw
set_option linter.unusedVariables false
set_option linter.unusedSimpArgs false
set_option linter.deprecated false
open Go
theorem push_modify (h : Heap) (o : Obj) (f : Obj → Obj) : (h.push o).modify h.size f = h.push (f o) := by
  apply Array.ext_getElem?
  intro k
  rw [Array.getElem?_modify, Array.getElem?_push, Array.getElem?_push]
  by_cases hk : h.size = k
  · subst hk; simp
  · rw [if_neg hk, if_neg (fun e => hk e.symm), if_neg (fun e => hk e.symm)]
section
variable {P : Program} {w : World} {t t' ty E : TypeId} {sz by_ : Nat} {i : TypeInfo} {z : Value}
end
def RowS {α : Type} (T : TypeId) (d : Kd α) (g : GH) (v : Value) (xs : List α) (c : Chunk) : Prop :=
  ∃ (b o cap q : Nat) (cur : Array Value) (rest : List α), v = .slice (some ⟨b, o, none⟩) xs.length cap ∧ c = [(b, .cells cur T (q, q + 1))] ∧ cur.size ≤ q ∧ xs.length + rest.length = cap ∧ cap ≤ maxLen ∧ o + cap * d.sz ≤ cur.size ∧ Reads d g (xs ++ rest) (cut cur o (cap * d.sz))
def RowZ {α : Type} (T : TypeId) (d : Kd α) (g : GH) (v : Value) (xs : List α) (c : Chunk) : Prop := Row T d g v xs c ∨ RowS T d g v xs c
section
variable {α : Type} {d : Kd α} {g g' : GH} {h h' : Heap} {T : TypeId} {v : Value} {xs : List α} {c : Chunk}
theorem RowZ.mono (hr : RowZ T d g v xs c) (hg : gle g g') : RowZ T d g' v xs c := by
  rcases hr with h | ⟨b, o, cap, q, cur, rest, e1, e2, hq, h1, h2, h3, h4⟩
  · exact .inl (h.mono hg)
  · exact .inr ⟨b, o, cap, q, cur, rest, e1, e2, hq, h1, h2, h3, h4.mono hg⟩
theorem RowZ.form (hr : RowZ T d g v xs c) : ∃ ao cap, v = .slice ao xs.length cap := by
  rcases hr with h | ⟨b, o, cap, q, cur, rest, e1, _⟩
  · exact h.form
  · exact ⟨_, _, e1⟩
theorem RowZ.toH {h0 : Heap} {g0 : GH} {S0 : Nat → Prop} {L : List Chunk} (hr : RowZ T d g v xs c) (s : St h0 g0 S0 g L h) (k : Nat) (hk : L[k]? = some c) : SlH h g T d v xs := by
  rcases hr with hr | ⟨b, o, cap, q, cur, rest, rfl, rfl, hq, h1, h2, h3, h4⟩
  · exact hr.toH s k hk
  · exact ⟨_, cap, rfl, by omega, fun _ => ⟨b, o, cur, (T, _, _), rfl, s.chunk k hk, reads_left h1 h4⟩⟩
end
theorem RowS.freeze {α : Type} {d : Kd α} {g : GH} {h : Heap} {T : TypeId} {v : Value} {xs : List α} {c : Chunk} {h0 : Heap} {g0 : GH} {S0 : Nat → Prop} {L : List Chunk} (hr : RowZ T d g v xs c) (s : St h0 g0 S0 g (c :: L) h) :
    ∃ g', St h0 g0 S0 g' L h ∧ gle g g' ∧ SlR g' T d v xs := by
  rcases hr with hr | ⟨b, o, cap, q, cur, rest, rfl, rfl, hq, h1, h2, h3, h4⟩
  · exact hr.freeze s
  · obtain ⟨s', hle⟩ := s.freeze
    exact ⟨_, s', hle, _, cap, rfl, by omega, fun _ => ⟨b, o, cur, (T, _, _), rfl, gadd_one _ _, (reads_left h1 h4).mono hle⟩⟩
section
variable {C : Ctx} {ds : List Deferred} {i j : Nat} {r : Heap} {M : Nat → Prop} {Ls : List (Nat × Bool)} {e : Env} {h : Heap}
variable {h0 : Heap} {g0 : GH} {S0 : Nat → Prop} {g : GH} {L : List Chunk}
def enB (g : GH) (x : List UInt8) (a : Array Value) : Prop := ∃ v, a = #[v] ∧ SlR g 5 kU8 v x
theorem Op.toBytes {dst : Nat} {T S E : TypeId} {x : Operand} {l : List UInt8} (ho : nextDO C i j e = some (some dst, .convert S T x)) (hS : C.P.underlying S = some .string) (hT : C.P.underlying T = some (.slice E)) (hE : C.P.underlying E = some (.int .u8))
    (hx : e.ev x = .string (mkS l)) (hl : l.length ≤ 140737488355328) (s : St h0 g0 S0 g L h)
    (K : ∀ v c h', RowZ E kU8 g v l c → St h0 g0 S0 g (c :: L) h' → Op C ds i r M Ls ((dst, v) :: e) h') : Op C ds i r M ((j, false) :: Ls) e h := by
  obtain ⟨o', h1, h2, h3⟩ := nextDO_spec ho
  refine Op.run h1 (R := fun nx h' => ∃ v c, nx = .value v ∧ RowZ E kU8 g v l c ∧ St h0 g0 S0 g (c :: L) h' ∧ (Keep r M h → Keep r M h')) ?_ ?_
  · intro w is
    have hh := is.heap
    have hsz : (mkS l).size = l.length := size_mkS l
    have hrun := Lib.run_convert_string_bytes (P := C.P) w S T E (mkS l) hS hT hE
    have hheap : (Lib.bytesWorld w E (mkS l)).heap = w.heap.push (.cells (Lib.bytesCells w E (mkS l)) E ((Lib.bytesCells w E (mkS l)).size, (Lib.bytesCells w E (mkS l)).size + 1)) := by
      simp only [Lib.bytesWorld, World.freeze, World.alloc, World.drew]
      rw [if_neg (by decide)]
      dsimp only
      rw [push_modify]
      simp
    have hge := grownCap_ge' w l.length 0 E
    have hgm := grownCap_max w l.length 0 E (by unfold maxLen; omega)
    have hcz : (Lib.bytesCells w E (mkS l)).size = grownCap w l.length 0 E := by
      unfold Lib.bytesCells
      rw [Array.size_append, Array.size_map, Array.size_replicate, hsz]
      show (mkS l).size + _ = _
      omega
    refine ⟨_, Lib.bytesWorld w E (mkS l), ?_, ⟨rfl, ?_, ?_, ?_⟩, _, [(w.heap.size, .cells (Lib.bytesCells w E (mkS l)) E ((Lib.bytesCells w E (mkS l)).size, (Lib.bytesCells w E (mkS l)).size + 1))], rfl, .inr ⟨w.heap.size, 0, grownCap w l.length 0 E, _, _, List.replicate (grownCap w l.length 0 E - l.length) 0, rfl, rfl, Nat.le_refl _, by simp; omega, hgm, by rw [hcz]; simp [kU8], ?_⟩, ?_, ?_⟩
    · unfold semOf execOp
      simp only [h3, hx, Sem.run_bind, hrun, hsz, Result.andThen_ok, Sem.run_pure]
    · exact is.os
    · exact is.tape
    · exact is.output
    · have e1 : cut (Lib.bytesCells w E (mkS l)) 0 (grownCap w l.length 0 E * kU8.sz) = (l.map fun b => Value.int .u8 b.toNat) ++ List.replicate (grownCap w l.length 0 E - l.length) (.int .u8 0) := by
        unfold cut
        rw [List.drop_zero, List.take_of_length_le (by rw [Array.length_toList, hcz]; simp [kU8])]
        unfold Lib.bytesCells
        rw [hsz, Array.toList_append, Array.toList_map, Array.toList_replicate]
        rfl
      rw [e1]
      refine (reads_str g l).append ?_
      generalize grownCap w l.length 0 E - l.length = q
      induction q with
      | zero => rfl
      | succ q ih => rw [List.replicate_succ, List.replicate_succ]; exact ⟨[.int .u8 0], _, rfl, rfl, ih⟩
    · rw [hheap, hh]; exact s.alloc _
    · intro hk'; rw [hheap, hh]; exact Keep.push _ hk'
  · rintro _ _ ⟨v, c, rfl, hrow, hst, hkeep⟩
    refine ⟨v, rfl, hkeep, ?_⟩
    rw [h2]
    exact K v c _ hrow hst
theorem Op.slMax {dst : Nat} {T E : TypeId} {sz by_ : Nat} {x lo hi mx : Operand} {ao : Option Addr} {n c : Nat} {k k' k'' : IntKind} {m m' : Int} {b : Bool} (ho : nextDO C i j e = some (some dst, .slice T x (some lo) (some hi) (some mx))) (hE : elemI C.P T = some (E, sz, by_))
    (hx : e.ev x = .slice ao n c) (hlo : e.ev lo = .int k m) (hhi : e.ev hi = .int k' m') (hmx : e.ev mx = .int k'' m') (h0 : 0 ≤ m) (h1 : m ≤ m') (h2 : m' ≤ c)
    (K : Op C ds i r M Ls ((dst, .slice (subAddr ao m.toNat m'.toNat sz) (m'.toNat - m.toNat) (m'.toNat - m.toNat)) :: e) h) : Op C ds i r M ((j, b) :: Ls) e h := by
  obtain ⟨inf, z, I⟩ := elemI_spec hE
  refine Op.free ho (fun o' ho w => ?_) K
  have hi := I.info
  simp only [execOp, ho, Option.map_some, Option.map_none, Instr.sliceAt, Instr.slice, hx, hlo, hhi, hmx, Sem.run_bind, Sem.run_pure, Result.andThen_ok, run_underlying I.under, Instr.sliceBounds, Option.isSome_some, if_true, run_bound (show 0 ≤ m' by omega) h2, run_bound (show 0 ≤ m' by omega) (show m' ≤ (m'.toNat : Nat) by omega), run_bound h0 (show m ≤ (m'.toNat : Nat) by omega), sizeOf, typeInfo, run_program, hi, I.size, subAddr]
theorem Op.slMaxD {α : Type} {d : Kd α} {dst : Nat} {T E : TypeId} {by_ : Nat} {x lo hi mx : Operand} {ao : Option Addr} {n c : Nat} {k k' k'' : IntKind} {m m' : Int} {b : Bool} {xs : List α} (ho : nextDO C i j e = some (some dst, .slice T x (some lo) (some hi) (some mx))) (hE : elemI C.P T = some (E, d.sz, by_))
    (hx : e.ev x = .slice ao n c) (hlo : e.ev lo = .int k m) (hhi : e.ev hi = .int k' m') (hmx : e.ev mx = .int k'' m') (hs : SlR g E d (.slice ao n c) xs) (h0 : 0 ≤ m) (h1 : m ≤ m') (h2 : m' ≤ xs.length)
    (K : ∀ v', SlR g E d v' ((xs.take m'.toNat).drop m.toNat) → Op C ds i r M Ls ((dst, v') :: e) h) : Op C ds i r M ((j, b) :: Ls) e h := by
  have hs2 := hs
  obtain ⟨ao', c', ee, hc, _⟩ := hs2
  simp only [Value.slice.injEq] at ee
  obtain ⟨rfl, rfl, rfl⟩ := ee
  refine Op.slMax ho hE hx hlo hhi hmx h0 h1 (by omega) (K _ ?_)
  have hsub := hs.sub m.toNat m'.toNat (by omega) (by omega)
  have hlen : ((xs.take m'.toNat).drop m.toNat).length = m'.toNat - m.toNat := by rw [List.length_drop, List.length_take]; omega
  by_cases he : m'.toNat = m.toNat
  · have : (xs.take m'.toNat).drop m.toNat = [] := List.eq_nil_of_length_eq_zero (by omega)
    rw [this, show m'.toNat - m.toNat = 0 by omega]
    exact SlR.empty _ _ _ _ _
  · obtain ⟨ao2, c2, e2, hc2, H2⟩ := hsub
    have e3 : subAddr ao m.toNat m'.toNat d.sz = subAddr ao m.toNat c d.sz := by
      unfold subAddr
      rw [if_neg he, if_neg (by omega)]
    rw [e3]
    simp only [Value.slice.injEq] at e2
    obtain ⟨rfl, hl, rfl⟩ := e2
    exact ⟨_, _, by rw [hlen], by omega, H2⟩
theorem made_u8 (n : Nat) : (madeCells #[.int .u8 0] n).toList = List.replicate n (.int .u8 0) := by
  unfold madeCells
  apply List.ext_getElem
  · simp
  · intro i h1 h2; simp [Nat.mod_one]
theorem Op.makeB {dst : Nat} {T E : TypeId} {x y : Operand} {c : Int} (ho : nextDO C i j e = some (some dst, .makeSlice T x y)) (hI : elemI C.P T = some (E, kU8.sz, 1)) (hz : ((C.P.info? E).bind (·.zero)).map (·.cells) = some #[.int .u8 0])
    (hx : e.ev x = .int .i64 0) (hy : e.ev y = .int .i64 c) (h0' : 0 ≤ c) (hc : c ≤ 140737488355328) (s : St h0 g0 S0 g L h)
    (K : ∀ b c' h', Row E kU8 g (.slice (some ⟨b, 0, none⟩) 0 c.toNat) [] c' → St h0 g0 S0 g (c' :: L) h' → Op C ds i r M Ls ((dst, .slice (some ⟨b, 0, none⟩) 0 c.toNat) :: e) h') : Op C ds i r M ((j, false) :: Ls) e h := by
  obtain ⟨o', h1, h2, h3⟩ := nextDO_spec ho
  obtain ⟨inf, z, I⟩ := elemI_spec hI
  have hzc : z.cells = #[.int .u8 0] := by simpa [I.info, I.zero] using hz
  have hsz : inf.size = 1 := I.size
  have hby : inf.bytes = 1 := I.bytes
  refine Op.run h1 (R := fun nx h' => nx = .value (.slice (some ⟨h.size, 0, none⟩) 0 c.toNat) ∧ h' = h.push (.cells (madeCells #[.int .u8 0] c.toNat) E (0, 0))) ?_ ?_
  · intro w is
    have hrun := run_make (P := C.P) w T E inf z I.under I.info I.zero .i64 .i64 0 c (Int.le_refl _) h0' (by rw [hby]; omega) (by omega)
    rw [hzc, hsz, Nat.mul_one] at hrun
    refine ⟨_, w.alloc (.cells (madeCells #[.int .u8 0] c.toNat) E), ?_, ⟨rfl, is.os, is.tape, is.output⟩, by rw [← is.heap], by rw [← is.heap]; rfl⟩
    unfold semOf execOp
    simp only [h3, hx, hy, Sem.run_bind, hrun, Result.andThen_ok, Sem.run_pure]
    rfl
  · rintro _ _ ⟨rfl, rfl⟩
    refine ⟨_, rfl, Keep.push _, ?_⟩
    rw [h2]
    refine K h.size _ _ (.inr ⟨h.size, 0, c.toNat, _, List.replicate c.toNat 0, rfl, rfl, by simp, by unfold maxLen; omega, ?_, ?_⟩) (s.alloc _)
    · unfold madeCells; simp [kU8]
    · unfold cut
      rw [made_u8, List.drop_zero, List.take_of_length_le (by simp [kU8])]
      generalize c.toNat = q
      induction q with
      | zero => rfl
      | succ q ih => rw [List.replicate_succ, List.replicate_succ]; exact ⟨[.int .u8 0], _, rfl, rfl, ih⟩
end
end Go.Proofs.YtmjebehhpojihaaGreatDoor.Sw
namespace Go.Proofs.YtmjebehhpojihaaGreatDoor.Sw
open Go
set_option maxRecDepth 100000
set_option linter.unusedVariables false
set_option linter.unusedSimpArgs false
set_option linter.deprecated false
def IsStep (g : GH) (b : Nat) (x : Step) (c : Chunk) : Prop := ∃ v6 c6 v7 c7, c = (b, .cells #[.int .i64 x.Kind, .int .i64 x.Role, .int .i64 x.K, .int .i64 x.Power, .int .i64 x.Node.Role, .int .i64 x.Node.N, v6, v7] 94 (0, 0)) :: (c6 ++ (c7)) ∧ Row 5 kU8 g v6 x.Data c6 ∧ Row 3 (kInt .i64) g v7 x.Keeps c7
theorem IsStep.mono {g g' : GH} {b : Nat} {x : Step} {c : Chunk} (h : IsStep g b x c) (hg : gle g g') : IsStep g' b x c := by
 obtain ⟨v6, c6, v7, c7, e, h0, h1⟩ := h
 exact ⟨v6, c6, v7, c7, e, h0.mono hg, h1.mono hg⟩
theorem IsStep.eq {g : GH} {b : Nat} {x y : Step} {c : Chunk} (h : IsStep g b x c) (e : x = y) : IsStep g b y c := e ▸ h
theorem IsStep.flat {g g' : GH} {b : Nat} {x : Step} {c : Chunk} (h : IsStep g b x c) : IsStep g' b x c := by
 obtain ⟨v6, c6, v7, c7, e, h0, h1⟩ := h
 exact ⟨v6, c6, v7, c7, e, h0.flat (fun _ _ _ _ h => h), h1.flat (fun _ _ _ _ h => h)⟩
end Go.Proofs.YtmjebehhpojihaaGreatDoor.Sw
namespace Go.Proofs.YtmjebehhpojihaaGreatDoor.Sw
set_option linter.unusedVariables false
set_option linter.unusedSimpArgs false
set_option linter.deprecated false
open Go
def linesW (s : List UInt8) : List (List UInt8) := if (splitOn 10 s).getLast? = some [] then (splitOn 10 s).dropLast else splitOn 10 s
theorem linesW_nil : linesW [] = [] := rfl
theorem linesW_hit (a r : List UInt8) (h : 10 ∉ a) : linesW (a ++ 10 :: r) = a :: linesW r := by
  unfold linesW
  rw [splitOn_hit 10 a r h]
  rcases hs : splitOn 10 r with _ | ⟨x, y⟩
  · exact absurd hs (splitOn_ne _ _)
  · rw [List.getLast?_cons_cons, List.dropLast_cons₂]
    split <;> rfl
theorem linesW_miss (a : List UInt8) (h : 10 ∉ a) (hn : a ≠ []) : linesW a = [a] := by
  unfold linesW
  rw [splitOn_miss 10 a h]
  simp [hn]
def skipW : List UInt8 → Bool
  | [] => true
  | c :: _ => c == 35
def parseG : List (List UInt8) → Int → List Step → List Step × Int × Int
  | [], _, out => (out, 0, 0)
  | l :: L, n, out => if skipW l then parseG L (n + 1) out else if (lineR l).2 then parseG L (n + 1) (out ++ [(lineR l).1]) else ([], n + 1, 240)
def parseW (s : List UInt8) : List Step × Int × Int := parseG (linesW s) 0 []
section
variable {s0 s l : List UInt8} {n k i : Int} {out : List Step} {c : UInt8} {L : List (List UInt8)}
theorem skip_1 (h : ¬ l = []) (hc : l[(0 : Int).toNat]? = some c) : skipW l = (c == 35) := by
  rcases l with _ | ⟨a, b⟩
  · exact absurd rfl h
  · simp at hc; subst hc; rfl
theorem skip_no (h : ¬ l = []) (hc : l[(0 : Int).toNat]? = some c) (h35 : ¬ (c.toNat : Int) = 35) : skipW l = false := by
  rw [skip_1 h hc]
  exact beq_eq_false_iff_ne.2 (u8ne (d := 35) h35)
theorem proj3 {x : List Step × Int × Int} {a : List Step} {b c : Int} (h : x = (a, b, c)) : a = x.1 ∧ b = x.2.1 ∧ c = x.2.2 := by rw [h]; exact ⟨rfl, rfl, rfl⟩
end
def okS (st : Step) : Bool := decide ((parseW (textW st)).1 = [st]) && decide ((parseW (textW st)).2.2 = 0)
def showT (list : List Step) : List UInt8 := list.flatMap fun st => textW st ++ [10]
def showW (list : List Step) : List UInt8 × Int := if list.all okS then (showT list, 0) else ([], 240)
def shI (list : List Step) (out : List UInt8) (i : Int) : Prop := out = showT (list.take i.toNat) ∧ (list.take i.toNat).all okS = true
section
variable {list : List Step} {out : List UInt8} {i : Int} {st : Step}
theorem shI_0 (list : List Step) : shI list [] 0 := ⟨rfl, rfl⟩
theorem shI_step (H : shI list out i) (h0 : 0 ≤ i) (hx : list[i.toNat]? = some st) (h : okS st = true) : shI list (out ++ (textW st ++ [10])) (i + 1) := by
  unfold shI at *
  rw [toNat_succ h0, take_at hx, H.1]
  refine ⟨?_, ?_⟩
  · unfold showT; rw [List.flatMap_append]; simp
  · rw [List.all_append, H.2]; simp [h]
theorem shI_end (H : shI list out i) (h : ¬ i < (list.length : Int)) : out = (showW list).1 ∧ 0 = (showW list).2 := by
  unfold shI at H
  rw [List.take_of_length_le (by omega)] at H
  unfold showW
  rw [if_pos H.2]
  exact ⟨H.1, rfl⟩
theorem show_bad (hx : list[i.toNat]? = some st) (h : okS st = false) : [] = (showW list).1 ∧ 240 = (showW list).2 := by
  have : list.all okS = false := by
    rw [← Bool.not_eq_true, List.all_eq_true]
    intro hh
    rw [hh st (List.mem_of_getElem? hx)] at h
    cases h
  unfold showW
  rw [this]
  exact ⟨rfl, rfl⟩
theorem okS_1 (h : ¬ (parseW (textW st)).2.2 = 0) : okS st = false := by unfold okS; rw [decide_eq_false h, Bool.and_false]
theorem okS_2 (h : ¬ ((parseW (textW st)).1.length : Int) = 1) : okS st = false := by
  unfold okS
  rw [decide_eq_false (fun e => h (by rw [e]; rfl)), Bool.false_and]
end
theorem step_eq (a b : Step) : decide (a = b) = (decide (a.Kind = b.Kind) && (decide (a.Role = b.Role) && (decide (a.K = b.K) && (decide (a.Power = b.Power) && (decide (a.Node = b.Node) && (decide (a.Data = b.Data) && decide (a.Keeps = b.Keeps))))))) := by
  obtain ⟨a1, a2, a3, a4, a5, a6, a7⟩ := a
  obtain ⟨b1, b2, b3, b4, b5, b6, b7⟩ := b
  rw [Bool.eq_iff_iff]
  simp [Step.mk.injEq]
theorem stN {a b : Step} (h : ¬ a.Kind = b.Kind ∨ ¬ a.Role = b.Role ∨ ¬ a.K = b.K ∨ ¬ a.Power = b.Power ∨ ¬ a.Node = b.Node ∨ ¬ a.Data = b.Data ∨ ¬ a.Keeps = b.Keeps) : ¬ a = b := by
  intro e
  subst e
  rcases h with h | h | h | h | h | h | h
  all_goals exact h rfl
theorem stY {a b : Step} (h1 : a.Kind = b.Kind) (h2 : a.Role = b.Role) (h3 : a.K = b.K) (h4 : a.Power = b.Power) (h5 : a.Node = b.Node) (h6 : a.Data = b.Data) (h7 : a.Keeps = b.Keeps) : a = b := by
  rcases a; rcases b
  simp_all
def evOk (e : Event) : Prop := (-9223372036854775808 ≤ e.Client ∧ e.Client ≤ 9223372036854775807) ∧ (-9223372036854775808 ≤ e.Stamp ∧ e.Stamp ≤ 9223372036854775807) ∧ (-9223372036854775808 ≤ e.Asked ∧ e.Asked ≤ 9223372036854775807) ∧
  (-9223372036854775808 ≤ e.Answered ∧ e.Answered ≤ 9223372036854775807) ∧ e.Op.length ≤ 100000 ∧ e.Answer.length ≤ 100000
def tellW (e : Event) : List UInt8 := ((((((((((Lib.itoa e.Client ++ [32]) ++ Lib.itoa e.Stamp) ++ [32]) ++ Lib.itoa e.Asked) ++ [32]) ++ Lib.itoa e.Answered) ++ [32]) ++ hexW e.Op) ++ [32]) ++ hexW e.Answer)
end Go.Proofs.YtmjebehhpojihaaGreatDoor.Sw
namespace Go.Proofs.YtmjebehhpojihaaGreatDoor.Sw
set_option linter.unusedVariables false
set_option linter.unusedSimpArgs false
set_option linter.deprecated false
open Go
theorem cut_ok {p : Str} (h : cutErr p = 0) : pOk p = true := by
  cases hp : pOk p with
  | true => rfl
  | false =>
    have : pList p = [] := by unfold pList; rw [hp]; rfl
    exact absurd h (cutErr_90 this)
theorem cut_root : ¬ cutErr [47] = 0 := by decide
theorem cut_of {p : Str} (h : pOk p = true) (hne : p ≠ [47]) : cutErr p = 0 := (round_p (pErr_ok.2 h) hne).1
theorem cut_ne47 {p : Str} (h : cutErr p = 0) : p ≠ [47] := fun e => cut_root (e ▸ h)
def NodeOk (k : Int) (ns : List Leaf) (n : Leaf) : Prop :=
  pOk n.Path = true ∧ n.Data.length ≤ 128 ∧ -1 ≤ n.Owner ∧ (0 ≤ n.Version ∧ n.Version ≤ k) ∧ (0 ≤ n.Next ∧ n.Next ≤ k) ∧ 0 ≤ n.Born ∧ (n.Path = [47] ∧ n.Owner = -1 ∧ n.Born = 0 ∨ cutErr n.Path = 0 ∧ ∃ u ∈ ns, u.Path = parentOf n.Path ∧ u.Owner = -1)
structure TreeOk (k : Int) (ns : List Leaf) : Prop where
  sort : SortL ns
  len : ns.length ≤ 32
  root : ∃ r ∈ ns, r.Path = [47]
  node : ∀ n ∈ ns, NodeOk k ns n
theorem TreeOk.mono {k k' : Int} {ns : List Leaf} (H : TreeOk k ns) (h : k ≤ k') : TreeOk k' ns :=
  ⟨H.sort, H.len, H.root, fun n hn => by
    obtain ⟨h1, h2, h3, h4, h5, h6, h7⟩ := H.node n hn
    exact ⟨h1, h2, h3, ⟨h4.1, by omega⟩, ⟨h5.1, by omega⟩, h6, h7⟩⟩
theorem TreeOk.new : TreeOk 0 [⟨[47], [], 0, -1, 0, 0⟩] :=
  ⟨List.pairwise_singleton _ _, by decide, ⟨_, .head _, rfl⟩, fun n hn => by
    rw [List.mem_singleton] at hn
    subst hn
    exact ⟨by decide, by decide, by decide, by decide, by decide, by decide, .inl ⟨rfl, rfl, rfl⟩⟩⟩
theorem TreeOk.b {k : Int} {ns : List Leaf} (H : TreeOk k ns) (hk : k ≤ 1000000) : TreeB ns :=
  ⟨by have := H.len; omega, fun n hn => by
    obtain ⟨h1, h2, h3, h4, h5, h6, h7⟩ := H.node n hn
    exact ⟨pOk_len h1, h2, by omega, by omega⟩⟩
theorem mem_with {ns : List Leaf} {l n : Leaf} : n ∈ withL ns l ↔ n = l ∨ n ∈ ns ∧ n.Path ≠ l.Path := by
  rw [(withL_perm ns l).mem_iff, List.mem_cons]
  unfold delL
  rw [List.mem_filter]
  simp
theorem mem_del {ns : List Leaf} {p : Str} {n : Leaf} : n ∈ delL ns p ↔ n ∈ ns ∧ n.Path ≠ p := by
  unfold delL
  rw [List.mem_filter]
  simp
theorem SortL.uniq {ns : List Leaf} (h : SortL ns) {a b : Leaf} (ha : a ∈ ns) (hb : b ∈ ns) (e : a.Path = b.Path) : a = b := by
  have h1 := findL_of h.nodup ha
  have h2 := findL_of h.nodup hb
  rw [e, h2] at h1
  exact (Option.some.inj h1).symm
theorem delL_len {ns : List Leaf} (hs : SortL ns) {u : Leaf} (hu : u ∈ ns) : (delL ns u.Path).length + 1 = ns.length := by
  have hn := hs.nodup
  clear hs
  induction ns with
  | nil => cases hu
  | cons n ns ih =>
    rw [List.map_cons, List.nodup_cons] at hn
    rcases List.mem_cons.1 hu with rfl | hu
    · have : delL (u :: ns) u.Path = ns := by
        unfold delL
        rw [List.filter_cons]
        simp only [decide_true, Bool.not_true, Bool.false_eq_true, if_false]
        exact delL_none (findL_none.2 fun x hx e => hn.1 (e ▸ List.mem_map.2 ⟨x, hx, rfl⟩))
      rw [this, List.length_cons]
    · have hne : n.Path ≠ u.Path := fun e => hn.1 (e ▸ List.mem_map.2 ⟨u, hu, rfl⟩)
      have : delL (n :: ns) u.Path = n :: delL ns u.Path := by
        unfold delL
        rw [List.filter_cons]
        simp [hne]
      rw [this, List.length_cons, List.length_cons, ih hu hn.2]
theorem withL_len {ns : List Leaf} (hs : SortL ns) {u l : Leaf} (hu : u ∈ ns) (e : l.Path = u.Path) : (withL ns l).length = ns.length := by
  rw [(withL_perm ns l).length_eq, List.length_cons, e, delL_len hs hu]
theorem withL_len1 {ns : List Leaf} {l : Leaf} (h : findL ns l.Path = none) : (withL ns l).length = ns.length + 1 := by
  rw [(withL_perm ns l).length_eq, List.length_cons, delL_none h]
theorem TreeOk.put {k : Int} {ns : List Leaf} (H : TreeOk k ns) {u l : Leaf} (hu : u ∈ ns) (hp : l.Path = u.Path) (ho : l.Owner = u.Owner) (hb : l.Born = u.Born) (hd : l.Data.length ≤ 128) (hv : 0 ≤ l.Version ∧ l.Version ≤ k) (hn : 0 ≤ l.Next ∧ l.Next ≤ k) : TreeOk k (withL ns l) := by
  have hmem : ∀ x ∈ ns, ∃ y ∈ withL ns l, y.Path = x.Path ∧ y.Owner = x.Owner := fun x hx => by
    by_cases e : x.Path = l.Path
    · have : x = u := H.sort.uniq hx hu (e.trans hp)
      subst this
      exact ⟨l, mem_with.2 (.inl rfl), hp, ho⟩
    · exact ⟨x, mem_with.2 (.inr ⟨hx, e⟩), rfl, rfl⟩
  refine ⟨withL_sort H.sort l, by rw [withL_len H.sort hu hp]; exact H.len, ?_, fun n hn' => ?_⟩
  · obtain ⟨r, hr, er⟩ := H.root
    obtain ⟨y, hy, e, _⟩ := hmem r hr
    exact ⟨y, hy, e.trans er⟩
  · have hup : ∀ {q : Str}, (∃ u ∈ ns, u.Path = q ∧ u.Owner = -1) → ∃ u ∈ withL ns l, u.Path = q ∧ u.Owner = -1 := by
      rintro q ⟨x, hx, h1, h2⟩
      obtain ⟨y, hy, e1, e2⟩ := hmem x hx
      exact ⟨y, hy, e1.trans h1, e2.trans h2⟩
    rcases mem_with.1 hn' with rfl | ⟨hn', _⟩
    · obtain ⟨h1, h2, h3, h4, h5, h6, h7⟩ := H.node u hu
      refine ⟨hp ▸ h1, hd, ho ▸ h3, hv, hn, hb ▸ h6, ?_⟩
      rw [hp, ho, hb]
      exact h7.imp id fun h => ⟨h.1, hup h.2⟩
    · obtain ⟨h1, h2, h3, h4, h5, h6, h7⟩ := H.node n hn'
      exact ⟨h1, h2, h3, h4, h5, h6, h7.imp id fun h => ⟨h.1, hup h.2⟩⟩
theorem TreeOk.add {k : Int} {ns : List Leaf} (H : TreeOk k ns) {l : Leaf} (hl : ns.length < 32) (hf : findL ns l.Path = none) (hc : cutErr l.Path = 0) (hu : ∃ u ∈ ns, u.Path = parentOf l.Path ∧ u.Owner = -1) (hd : l.Data.length ≤ 128) (ho : -1 ≤ l.Owner) (hv : 0 ≤ l.Version ∧ l.Version ≤ k) (hn : 0 ≤ l.Next ∧ l.Next ≤ k) (hb : 0 ≤ l.Born) :
    TreeOk k (withL ns l) := by
  have hmem : ∀ x ∈ ns, x ∈ withL ns l := fun x hx => mem_with.2 (.inr ⟨hx, findL_none.1 hf x hx⟩)
  have hup : ∀ {q : Str}, (∃ u ∈ ns, u.Path = q ∧ u.Owner = -1) → ∃ u ∈ withL ns l, u.Path = q ∧ u.Owner = -1 := fun ⟨x, hx, h⟩ => ⟨x, hmem x hx, h⟩
  refine ⟨withL_sort H.sort l, by rw [withL_len1 hf]; omega, ?_, fun n hn' => ?_⟩
  · obtain ⟨r, hr, er⟩ := H.root
    exact ⟨r, hmem r hr, er⟩
  · rcases mem_with.1 hn' with rfl | ⟨hn', _⟩
    · exact ⟨cut_ok hc, hd, ho, hv, hn, hb, .inr ⟨hc, hup hu⟩⟩
    · obtain ⟨h1, h2, h3, h4, h5, h6, h7⟩ := H.node n hn'
      exact ⟨h1, h2, h3, h4, h5, h6, h7.imp id fun h => ⟨h.1, hup h.2⟩⟩
theorem kids_mem {ns : List Leaf} {p q : Str} : q ∈ kidsL ns p ↔ ∃ n ∈ ns, n.Path = q ∧ cutErr q = 0 ∧ parentOf q = p := by
  unfold kidsL kidB
  rw [List.mem_map]
  constructor
  · rintro ⟨n, hn, rfl⟩
    rw [List.mem_filter] at hn
    simp only [Bool.and_eq_true, decide_eq_true_eq] at hn
    exact ⟨n, hn.1, rfl, hn.2⟩
  · rintro ⟨n, hn, rfl, h⟩
    exact ⟨n, List.mem_filter.2 ⟨hn, by simpa using h⟩, rfl⟩
theorem kids_none {ns : List Leaf} {p : Str} (h : kidsL ns p = []) {n : Leaf} (hn : n ∈ ns) (hc : cutErr n.Path = 0) : parentOf n.Path ≠ p := fun e => by
  have : n.Path ∈ kidsL ns p := kids_mem.2 ⟨n, hn, rfl, hc, e⟩
  rw [h] at this
  cases this
theorem TreeOk.del {k : Int} {ns : List Leaf} (H : TreeOk k ns) {p : Str} (hp : p ≠ [47]) (hk : kidsL ns p = []) : TreeOk k (delL ns p) := by
  refine ⟨delL_sort H.sort p, Nat.le_trans (List.length_filter_le _ _) H.len, ?_, fun n hn => ?_⟩
  · obtain ⟨r, hr, er⟩ := H.root
    exact ⟨r, mem_del.2 ⟨hr, er ▸ hp.symm⟩, er⟩
  · obtain ⟨hn, hne⟩ := mem_del.1 hn
    obtain ⟨h1, h2, h3, h4, h5, h6, h7⟩ := H.node n hn
    refine ⟨h1, h2, h3, h4, h5, h6, h7.imp id fun h => ⟨h.1, ?_⟩⟩
    obtain ⟨u, hu, e1, e2⟩ := h.2
    exact ⟨u, mem_del.2 ⟨hu, fun e => kids_none hk hn h.1 (e1.symm.trans e)⟩, e1, e2⟩
theorem wrapI {x : Int} (h0 : -9223372036854775808 ≤ x) (h1 : x ≤ 9223372036854775807) : IntKind.wrap .i64 x = x := by
  have := wrapEq_i64 h0 h1
  injection this
theorem wrapS {x : Int} (h0 : 0 ≤ x) (h1 : x ≤ 1000000) : IntKind.wrap .i64 (x + 1) = x + 1 := wrapI (by omega) (by omega)
section
variable {k : Int} {ns : List Leaf} {p data : Str} {owner born ver : Int} {num : Bool}
theorem drop_ok (h : (dropT ns p ver).2 = 0) : ∃ l, cutErr p = 0 ∧ findL ns p = some l ∧ kidsL ns p = [] ∧ dropT ns p ver = (delL ns p, 0) := by
  unfold dropT at h ⊢
  by_cases h1 : cutErr p = 0
  · simp only [h1, ne_eq, not_true_eq_false, if_false] at h ⊢
    cases hf : findL ns p with
    | none => simp [hf] at h
    | some l =>
      simp only [hf] at h ⊢
      by_cases h2 : ver ≥ 0 ∧ l.Version ≠ ver
      · rw [if_pos h2] at h; cases h
      · rw [if_neg h2] at h ⊢
        by_cases h3 : kidsL ns p = []
        · exact ⟨l, trivial, rfl, h3, by simp [h3]⟩
        · rw [if_pos h3] at h; cases h
  · simp [h1] at h
theorem drop_no (h : (dropT ns p ver).2 ≠ 0) : (dropT ns p ver).1 = ns := by
  unfold dropT at h ⊢
  split
  · rfl
  · rename_i h1
    rw [if_neg h1] at h
    split
    · rfl
    · rename_i l hf
      simp only [hf] at h
      split
      · rfl
      · rename_i h2
        rw [if_neg h2] at h
        split
        · rfl
        · rename_i h3
          rw [if_neg h3] at h
          exact absurd rfl h
theorem TreeOk.drop (H : TreeOk k ns) : TreeOk k (dropT ns p ver).1 := by
  by_cases h : (dropT ns p ver).2 = 0
  · obtain ⟨l, hc, hf, hk, e⟩ := drop_ok h
    rw [e]
    exact H.del (cut_ne47 hc) hk
  · rw [drop_no h]; exact H
theorem TreeOk.set (H : TreeOk k ns) (hk : k ≤ 100000) : TreeOk (k + 1) (setT ns p data ver).1 := by
  have H1 := H.mono (k' := k + 1) (by omega)
  unfold setT
  split
  · exact H1
  · split
    · exact H1
    · rename_i l hf
      split
      · exact H1
      · split
        · exact H1
        · rename_i hd
          obtain ⟨hu, _⟩ := findL_some hf
          obtain ⟨h1, h2, h3, h4, h5, h6, h7⟩ := H.node l hu
          rw [wrapS h4.1 (by omega)]
          exact H1.put hu rfl rfl rfl (by show data.length ≤ 128; omega) ⟨by show 0 ≤ l.Version + 1; omega, by show l.Version + 1 ≤ k + 1; omega⟩ ⟨h5.1, by show l.Next ≤ k + 1; omega⟩
end
section
variable {k : Int} {ns : List Leaf}
theorem TreeOk.find (H : TreeOk k ns) {n : Leaf} (hn : n ∈ ns) : findE ns n.Path = 0 := findE_3 (pErr_ok.2 (H.node n hn).1) (findL_of H.sort.nodup hn)
theorem TreeOk.get (H : TreeOk k ns) {n : Leaf} (hn : n ∈ ns) : getT ns n.Path = (n, 0) := getT_2 (H.find hn) (findL_of H.sort.nodup hn)
def sumK (ns us : List Leaf) : Nat := (us.map fun u => (kidsL ns u.Path).length).sum
theorem sumK_cons (n : Leaf) (ms us : List Leaf) : sumK (n :: ms) us = (us.filter fun u => kidB u.Path n).length + sumK ms us := by
  unfold sumK
  induction us with
  | nil => rfl
  | cons u us ih =>
    rw [List.map_cons, List.sum_cons, ih, List.map_cons, List.sum_cons, List.filter_cons]
    have : (kidsL (n :: ms) u.Path).length = (if kidB u.Path n = true then 1 else 0) + (kidsL ms u.Path).length := by
      unfold kidsL
      rw [List.filter_cons]
      split
      · rw [List.map_cons, List.length_cons]; omega
      · omega
    rw [this]
    split
    · rw [List.length_cons]; omega
    · omega
theorem one_at {us : List Leaf} (hn : (us.map (·.Path)).Nodup) {q : Str} : (∃ u ∈ us, u.Path = q) → (us.filter fun u => decide (q = u.Path)).length = 1 := by
  rintro ⟨u, hu, rfl⟩
  induction us with
  | nil => cases hu
  | cons x us ih =>
    rw [List.map_cons, List.nodup_cons] at hn
    rw [List.filter_cons]
    rcases List.mem_cons.1 hu with rfl | hu
    · simp only [decide_true, if_true, List.length_cons]
      rw [List.filter_eq_nil_iff.2]
      · rfl
      · intro y hy e
        exact hn.1 (List.mem_map.2 ⟨y, hy, by simpa using (of_decide_eq_true e).symm⟩)
    · have : u.Path ≠ x.Path := fun e => hn.1 (List.mem_map.2 ⟨u, hu, e⟩)
      simp only [this, decide_false, Bool.false_eq_true, if_false]
      exact ih hn.2 hu
theorem sumK_eq {us : List Leaf} (hn : (us.map (·.Path)).Nodup) : ∀ ms : List Leaf, (∀ m ∈ ms, cutErr m.Path = 0 → ∃ u ∈ us, u.Path = parentOf m.Path) → sumK ms us = (ms.filter fun m => decide (cutErr m.Path = 0)).length
  | [], _ => by
    have h0 : ∀ vs : List Leaf, sumK [] vs = 0 := fun vs => by
      unfold sumK
      induction vs with
      | nil => rfl
      | cons u us ih => rw [List.map_cons, List.sum_cons, ih]; rfl
    rw [h0]
    rfl
  | m :: ms, h => by
    rw [sumK_cons, sumK_eq hn ms fun x hx => h x (.tail _ hx), List.filter_cons]
    by_cases hc : cutErr m.Path = 0
    · have h1 := one_at hn (h m (.head _) hc)
      have : (us.filter fun u => kidB u.Path m) = us.filter fun u => decide (parentOf m.Path = u.Path) := by
        apply List.filter_congr
        intro u hu
        simp [kidB, hc]
      rw [this, h1]
      simp only [hc, decide_true, if_true, List.length_cons]
      omega
    · have : (us.filter fun u => kidB u.Path m) = [] := by
        rw [List.filter_eq_nil_iff]
        intro u hu
        simp [kidB, hc]
      rw [this]
      simp [hc]
theorem TreeOk.sum (H : TreeOk k ns) : (sumK ns ns : Int) = (ns.length : Int) - 1 := by
  have h1 := sumK_eq H.sort.nodup ns fun m hm hc => by
    obtain ⟨_, _, _, _, _, _, h7⟩ := H.node m hm
    rcases h7 with h | ⟨_, u, hu, e, _⟩
    · exact absurd h.1 (cut_ne47 hc)
    · exact ⟨u, hu, e⟩
  have h2 : (ns.filter fun m => decide (cutErr m.Path = 0)) = delL ns [47] := by
    unfold delL
    apply List.filter_congr
    intro m hm
    by_cases e : m.Path = [47]
    · simp [e, cut_root]
    · simp [e, cut_of (H.node m hm).1 e]
  obtain ⟨r, hr, er⟩ := H.root
  have h3 := delL_len H.sort hr
  rw [er] at h3
  rw [h1, h2]
  omega
end
end Go.Proofs.YtmjebehhpojihaaGreatDoor.Sw
namespace Go.Proofs.YtmjebehhpojihaaGreatDoor.Sw
set_option linter.unusedVariables false
set_option linter.unusedSimpArgs false
set_option linter.deprecated false
open Go
section
variable {ns out : List Leaf} {l x : Leaf} {i : Int} {put : Bool}
end
section
variable {ns : List Leaf} {p data q : Str} {owner born ver o' b' : Int} {num : Bool} {up x : Leaf} {k : Int}
theorem u8_eq {a b : UInt8} (h : (a.toNat : Int) = (b.toNat : Int)) : a = b := UInt8.toNat_inj.1 (by omega)
theorem u8_ne {a b : UInt8} (h : ¬ (a.toNat : Int) = (b.toNat : Int)) : ¬ a = b := fun e => h (by rw [e])
end
section
variable {list : List Leaf} {i : Int} {l x : Leaf}
end
section
variable {list : List Leaf} {i : Int} {l x : Leaf}
end
end Go.Proofs.YtmjebehhpojihaaGreatDoor.Sw
namespace Go.Proofs.YtmjebehhpojihaaGreatDoor.Sw
open Go
set_option maxRecDepth 100000
set_option linter.unusedVariables false
set_option linter.unusedSimpArgs false
set_option linter.deprecated false
theorem copyBytesU (B : World) (h : Heap) (g : GH) (hg : Sub g h) (hG : Glob g) (v_s : Value) (s : List UInt8) (h_s : SlR g 5 kU8 v_s s) (h1 : s.length ≤ 1000000000) :
  Spec Tryz.prog B 29 #[v_s] h g [] (fun rv g' L' => ∃ v0 k0, rv = v0 ∧ Row 5 kU8 g' v0 s k0 ∧ g' = g ∧ L' = [k0]) := by
 obtain ⟨a_s, n_s, rfl⟩ := h_s.form
 refine Spec.at' Tryz.func29 ?_
 intro R hR
 have s0 := St.init hg
 refine At.go 1 1 [] ?_
 refine At.rg 2 ?_
 refine Op.lit (T := 29) (len := 0) (parts := #[]) (dst := 4) (E := 5) (ps := []) (cs := #[]) (by kernel_rfl) (by kernel_rfl) (by kernel_rfl) s0 ?_
 intro b20 h21 s22
 refine Op.pg 2 [(3, .slice (some ⟨b20, 0, none⟩) 0 0)] ?_
 refine At.rp 4 2 [(5, .slice (some ⟨b20, 0, none⟩) 0 0), (6, .slice a_s s.length n_s)] ?_
 have R23 : Row 5 kU8 g (.slice (some ⟨b20, 0, none⟩) 0 0) ([] : List UInt8) [(b20, Obj.cells #[] 5 (0, 0))] := Row.lit (by kernel_rfl) (by unfold maxLen; decide) (by kernel_rfl) Reads.nil
 obtain ⟨ns24, hs25, hr26⟩ := Src.slice (P := Tryz.prog) (h_s.toH s22.sub)
 refine Op.append (x := (.tmp 5)) (y := (.tmp 6)) (t := 29) (t' := 29) (dst := 7) (E := 5) (by_ := 1) (d := kU8) (by kernel_rfl) (by kernel_rfl) (by kernel_rfl) (by kernel_rfl) rfl R23 s22 0 rfl hs25 (ys := s) hr26 rfl (by (simp only [List.length_nil]; omega)) (fun _ _ _ => trivial) ?_
 intro v27 ch28 h29 R30 s31 nn32
 obtain ⟨a33, n34, rfl⟩ := R30.form
 refine Op.pg 3 [(3, .slice a33 ((([] : List UInt8) ++ s).length) n34)] ?_
 refine At.go 4 2 [(2, .slice a33 ((([] : List UInt8) ++ s).length) n34)] ?_
 refine At.rt (.slice a33 ((([] : List UInt8) ++ s).length) n34) ?_
 refine hR _ _ _ _ s31 ⟨(.slice a33 ((([] : List UInt8) ++ s).length) n34), ch28, ?_, ?_, rfl, rfl⟩
 ·exact rfl
 ·exact rowEq R30 (by simp)
theorem copyIntsU (B : World) (h : Heap) (g : GH) (hg : Sub g h) (hG : Glob g) (v_s : Value) (s : List Int) (h_s : SlR g 3 (kInt .i64) v_s s) (h1 : s.length ≤ 1000000000) :
  Spec Tryz.prog B 32 #[v_s] h g [] (fun rv g' L' => ∃ v0 k0, rv = v0 ∧ Row 3 (kInt .i64) g' v0 s k0 ∧ g' = g ∧ L' = [k0]) := by
 obtain ⟨a_s, n_s, rfl⟩ := h_s.form
 refine Spec.at' Tryz.func32 ?_
 intro R hR
 have s0 := St.init hg
 refine At.go 1 1 [] ?_
 refine At.rg 2 ?_
 refine Op.lit (T := 44) (len := 0) (parts := #[]) (dst := 4) (E := 3) (ps := []) (cs := #[]) (by kernel_rfl) (by kernel_rfl) (by kernel_rfl) s0 ?_
 intro b20 h21 s22
 refine Op.pg 2 [(3, .slice (some ⟨b20, 0, none⟩) 0 0)] ?_
 refine At.rp 4 2 [(5, .slice (some ⟨b20, 0, none⟩) 0 0), (6, .slice a_s s.length n_s)] ?_
 have R23 : Row 3 (kInt .i64) g (.slice (some ⟨b20, 0, none⟩) 0 0) ([] : List Int) [(b20, Obj.cells #[] 3 (0, 0))] := Row.lit (by kernel_rfl) (by unfold maxLen; decide) (by kernel_rfl) Reads.nil
 obtain ⟨ns24, hs25, hr26⟩ := Src.slice (P := Tryz.prog) (h_s.toH s22.sub)
 refine Op.append (x := (.tmp 5)) (y := (.tmp 6)) (t := 44) (t' := 44) (dst := 7) (E := 3) (by_ := 8) (d := (kInt .i64)) (by kernel_rfl) (by kernel_rfl) (by kernel_rfl) (by kernel_rfl) rfl R23 s22 0 rfl hs25 (ys := s) hr26 rfl (by (simp only [List.length_nil]; omega)) (fun _ _ _ => trivial) ?_
 intro v27 ch28 h29 R30 s31 nn32
 obtain ⟨a33, n34, rfl⟩ := R30.form
 refine Op.pg 3 [(3, .slice a33 ((([] : List Int) ++ s).length) n34)] ?_
 refine At.go 4 2 [(2, .slice a33 ((([] : List Int) ++ s).length) n34)] ?_
 refine At.rt (.slice a33 ((([] : List Int) ++ s).length) n34) ?_
 refine hR _ _ _ _ s31 ⟨(.slice a33 ((([] : List Int) ++ s).length) n34), ch28, ?_, ?_, rfl, rfl⟩
 ·exact rfl
 ·exact rowEq R30 (by simp)
theorem sameBytesU (B : World) (h : Heap) (g : GH) (hg : Sub g h) (hG : Glob g) (v_a : Value) (a : List UInt8) (h_a : SlR g 5 kU8 v_a a) (v_b : Value) (b : List UInt8) (h_b : SlR g 5 kU8 v_b b) (h1 : a.length ≤ 1000000000) :
  Spec Tryz.prog B 40 #[v_a, v_b] h g [] (fun rv g' L' => rv = .bool (decide (a = b)) ∧ g' = g ∧ L' = []) := by
 obtain ⟨a_a, n_a, rfl⟩ := h_a.form
 obtain ⟨a_b, n_b, rfl⟩ := h_b.form
 refine Spec.at' Tryz.func40 ?_
 intro R hR
 have s0 := St.init hg
 refine At.go 1 1 [] ?_
 refine At.go 2 5 [(10, .bool ((a.length : Int) != (b.length : Int)))] ?_
 refine At.if' ((a.length : Int) != (b.length : Int)) 10 3 5 (fun c20 => ?_) (fun c21 => ?_)
 ·replace c20 := bneT c20
  refine At.go 4 1 [(4, .bool false)] ?_
  refine At.rt (.bool false) ?_
  refine hR _ _ _ _ s0 ⟨?_, rfl, rfl⟩
  exact (eqB (by exact sameE_len (by assumption)))
 ·replace c21 := bneF c21
  refine At.go 6 1 [(5, .int .i64 0)] ?_
  have loop6 : ∀ (m : Nat) (i : Int) (h23 : Heap) (hm : a.length - i.toNat < m) (h0 : 0 ≤ i) (h2 : i ≤ a.length) (ht : a.take i.toNat = b.take i.toNat)     (s22 : St h g (ids []) g [] h23), At (fctx Tryz.prog B 40 Tryz.f40 R) [] 6 [(0, .slice a_a a.length n_a), (1, .slice a_b b.length n_b), (5, .int .i64 i)] h23 := by
   intro m; induction m with
   | zero => intros; omega
   | succ m ih6 =>
    intro i h23 hm h0 h2 ht s22
    refine At.go 7 4 [(14, .bool (decide (i < (a.length : Int))))] ?_
    refine At.if' (decide (i < (a.length : Int))) 14 8 13 (fun c24 => ?_) (fun c25 => ?_)
    ·replace c24 := of_decide_eq_true c24
     refine At.draw (by kernel_rfl) (fun _ => False) [(0, true), (1, true), (2, true), (4, true), (5, true), (6, true), (3, true), (7, false), (8, true)] (by kernel_rfl) ?_
     refine Op.px 2 [(17, .slice a_a a.length n_a), (18, .int .i64 i)] ?_
     obtain ⟨x26, hx27⟩ := getAt (l := a) (i := i) (by omega)
     obtain ⟨b28, o29, cu30, fz31, ha32, hb33, hk34⟩ := SlR.at_ h_a _ hx27
     cases ha32
     refine Op.ix 29 5 1 1 a.length n_a (.tmp 17) (.tmp 18) 19 b28 o29 i (by omega) (by omega) ?_
     replace hk34 : cut _ _ _ = [.int .u8 (x26.toNat : Int)] := hk34
     refine Op.px 2 [(21, .slice a_b b.length n_b), (22, .int .i64 i)] ?_
     obtain ⟨x35, hx36⟩ := getAt (l := b) (i := i) (by omega)
     obtain ⟨b37, o38, cu39, fz40, ha41, hb42, hk43⟩ := SlR.at_ h_b _ hx36
     cases ha41
     refine Op.ix 29 5 1 1 b.length n_b (.tmp 21) (.tmp 22) 23 b37 o38 i (by omega) (by omega) ?_
     replace hk43 : cut _ _ _ = [.int .u8 (x35.toNat : Int)] := hk43
     refine Op.loadF (T := 5) (x := (.tmp 19)) (o := o29 + (i : Int).toNat * 1) (d := 20) (n := 1) (v := .int .u8 (x26.toNat : Int)) (by kernel_rfl) (by kernel_rfl) (by kernel_rfl) (fun h => h) (s22.sub _ _ hb33) (cut_get hk34 0 rfl) ?_
     refine Op.ld (n := 1) 5 (.tmp 23) 24 (o38 + (i : Int).toNat * 1) (.int .u8 (x35.toNat : Int)) (s22.sub _ _ hb42) ?_ (hv := (cut_get hk43 0 rfl))
     refine Op.pg 9 [(25, .bool ((x26.toNat : Int) != (x35.toNat : Int)))] ?_
     refine At.if' ((x26.toNat : Int) != (x35.toNat : Int)) 25 10 12 (fun c44 => ?_) (fun c45 => ?_)
     ·replace c44 := bneT c44
      refine At.go 11 1 [(4, .bool false)] ?_
      refine At.rt (.bool false) ?_
      refine hR _ _ _ _ s22 ⟨?_, rfl, rfl⟩
      exact (eqB (by exact sameE_ne hx27 hx36 (u8_ne c44)))
     ·replace c45 := bneF c45
      refine At.rp 3 1 [(15, .int .i64 i)] ?_
      refine Op.v64 16 (i + 1) (by omega) (by omega) ?_
      refine Op.pg 6 [(5, .int .i64 (i + 1))] ?_
      refine At.kp [(0, .slice (some ⟨b28, o29, none⟩) a.length n_a), (1, .slice (some ⟨b37, o38, none⟩) b.length n_b), (5, .int .i64 (i + 1))] ?_
      exact ih6  (i + 1) _ (by omega) (by omega) (by omega) (by exact take_step ht h0 hx27 hx36 (u8_eq c45))  s22
    ·replace c25 := of_decide_eq_false c25
     refine At.go 14 1 [(4, .bool true)] ?_
     refine At.rt (.bool true) ?_
     refine hR _ _ _ _ s22 ⟨?_, rfl, rfl⟩
     exact (eqB (by exact sameE_end (by assumption) c25 ht))
  refine At.kp [(0, .slice a_a a.length n_a), (1, .slice a_b b.length n_b), (5, .int .i64 0)] ?_
  exact loop6 _  0 _ (Nat.lt_succ_self _) (by omega) (by omega) (by rfl)  s0
theorem sameIntsU (B : World) (h : Heap) (g : GH) (hg : Sub g h) (hG : Glob g) (v_a : Value) (a : List Int) (h_a : SlR g 3 (kInt .i64) v_a a) (v_b : Value) (b : List Int) (h_b : SlR g 3 (kInt .i64) v_b b) (h1 : a.length ≤ 1000000000) :
  Spec Tryz.prog B 60 #[v_a, v_b] h g [] (fun rv g' L' => rv = .bool (decide (a = b)) ∧ g' = g ∧ L' = []) := by
 obtain ⟨a_a, n_a, rfl⟩ := h_a.form
 obtain ⟨a_b, n_b, rfl⟩ := h_b.form
 refine Spec.at' Tryz.func60 ?_
 intro R hR
 have s0 := St.init hg
 refine At.go 1 1 [] ?_
 refine At.go 2 5 [(10, .bool ((a.length : Int) != (b.length : Int)))] ?_
 refine At.if' ((a.length : Int) != (b.length : Int)) 10 3 5 (fun c20 => ?_) (fun c21 => ?_)
 ·replace c20 := bneT c20
  refine At.go 4 1 [(4, .bool false)] ?_
  refine At.rt (.bool false) ?_
  refine hR _ _ _ _ s0 ⟨?_, rfl, rfl⟩
  exact (eqB (by exact sameE_len (by assumption)))
 ·replace c21 := bneF c21
  refine At.go 6 1 [(5, .int .i64 0)] ?_
  have loop6 : ∀ (m : Nat) (i : Int) (h23 : Heap) (hm : a.length - i.toNat < m) (h0 : 0 ≤ i) (h2 : i ≤ a.length) (ht : a.take i.toNat = b.take i.toNat)     (s22 : St h g (ids []) g [] h23), At (fctx Tryz.prog B 60 Tryz.f60 R) [] 6 [(0, .slice a_a a.length n_a), (1, .slice a_b b.length n_b), (5, .int .i64 i)] h23 := by
   intro m; induction m with
   | zero => intros; omega
   | succ m ih6 =>
    intro i h23 hm h0 h2 ht s22
    refine At.go 7 4 [(14, .bool (decide (i < (a.length : Int))))] ?_
    refine At.if' (decide (i < (a.length : Int))) 14 8 13 (fun c24 => ?_) (fun c25 => ?_)
    ·replace c24 := of_decide_eq_true c24
     refine At.draw (by kernel_rfl) (fun _ => False) [(0, true), (1, true), (2, true), (4, true), (5, true), (6, true), (3, true), (7, false), (8, true)] (by kernel_rfl) ?_
     refine Op.px 2 [(17, .slice a_a a.length n_a), (18, .int .i64 i)] ?_
     obtain ⟨x26, hx27⟩ := getAt (l := a) (i := i) (by omega)
     obtain ⟨b28, o29, cu30, fz31, ha32, hb33, hk34⟩ := SlR.at_ h_a _ hx27
     cases ha32
     refine Op.ix 44 3 1 8 a.length n_a (.tmp 17) (.tmp 18) 19 b28 o29 i (by omega) (by omega) ?_
     replace hk34 : cut _ _ _ = [.int .i64 x26] := hk34
     refine Op.px 2 [(21, .slice a_b b.length n_b), (22, .int .i64 i)] ?_
     obtain ⟨x35, hx36⟩ := getAt (l := b) (i := i) (by omega)
     obtain ⟨b37, o38, cu39, fz40, ha41, hb42, hk43⟩ := SlR.at_ h_b _ hx36
     cases ha41
     refine Op.ix 44 3 1 8 b.length n_b (.tmp 21) (.tmp 22) 23 b37 o38 i (by omega) (by omega) ?_
     replace hk43 : cut _ _ _ = [.int .i64 x35] := hk43
     refine Op.loadF (T := 3) (x := (.tmp 19)) (o := o29 + (i : Int).toNat * 1) (d := 20) (n := 1) (v := .int .i64 x26) (by kernel_rfl) (by kernel_rfl) (by kernel_rfl) (fun h => h) (s22.sub _ _ hb33) (cut_get hk34 0 rfl) ?_
     refine Op.ld (n := 1) 3 (.tmp 23) 24 (o38 + (i : Int).toNat * 1) (.int .i64 x35) (s22.sub _ _ hb42) ?_ (hv := (cut_get hk43 0 rfl))
     refine Op.pg 9 [(25, .bool (x26 != x35))] ?_
     refine At.if' (x26 != x35) 25 10 12 (fun c44 => ?_) (fun c45 => ?_)
     ·replace c44 := bneT c44
      refine At.go 11 1 [(4, .bool false)] ?_
      refine At.rt (.bool false) ?_
      refine hR _ _ _ _ s22 ⟨?_, rfl, rfl⟩
      exact (eqB (by exact sameE_ne hx27 hx36 (c44)))
     ·replace c45 := bneF c45
      refine At.rp 3 1 [(15, .int .i64 i)] ?_
      refine Op.v64 16 (i + 1) (by omega) (by omega) ?_
      refine Op.pg 6 [(5, .int .i64 (i + 1))] ?_
      refine At.kp [(0, .slice (some ⟨b28, o29, none⟩) a.length n_a), (1, .slice (some ⟨b37, o38, none⟩) b.length n_b), (5, .int .i64 (i + 1))] ?_
      exact ih6  (i + 1) _ (by omega) (by omega) (by omega) (by exact take_step ht h0 hx27 hx36 (c45))  s22
    ·replace c25 := of_decide_eq_false c25
     refine At.go 14 1 [(4, .bool true)] ?_
     refine At.rt (.bool true) ?_
     refine hR _ _ _ _ s22 ⟨?_, rfl, rfl⟩
     exact (eqB (by exact sameE_end (by assumption) c25 ht))
  refine At.kp [(0, .slice a_a a.length n_a), (1, .slice a_b b.length n_b), (5, .int .i64 0)] ?_
  exact loop6 _  0 _ (Nat.lt_succ_self _) (by omega) (by omega) (by rfl)  s0
theorem copyStep (B : World) (h : Heap) (g : GH) (hg : Sub g h) (hG : Glob g) (s : Step) (v_s_6 : Value) (h_s_6 : SlR g 5 kU8 v_s_6 s.Data) (v_s_7 : Value) (h_s_7 : SlR g 3 (kInt .i64) v_s_7 s.Keeps) (h1 : s.Data.length ≤ 1000000000) (h2 : s.Keeps.length ≤ 1000000000) :
  Spec Tryz.prog B 61 #[.agg #[.int .i64 s.Kind, .int .i64 s.Role, .int .i64 s.K, .int .i64 s.Power, .int .i64 s.Node.Role, .int .i64 s.Node.N, v_s_6, v_s_7]] h g [] (fun rv g' L' => ∃ v0 k0_0 v1 k0_1, rv = .agg #[.int .i64 s.Kind, .int .i64 s.Role, .int .i64 s.K, .int .i64 s.Power, .int .i64 s.Node.Role, .int .i64 s.Node.N, v0, v1] ∧ Row 5 kU8 g' v0 s.Data k0_0 ∧ Row 3 (kInt .i64) g' v1 s.Keeps k0_1 ∧ g' = g ∧ L' = [k0_0, k0_1]) := by
 obtain ⟨a_s_6, n_s_6, rfl⟩ := h_s_6.form
 obtain ⟨a_s_7, n_s_7, rfl⟩ := h_s_7.form
 refine Spec.at' Tryz.func61 ?_
 intro R hR
 have s0 := St.init hg
 refine At.rg 2 ?_
 refine Op.box (T := 94) (x := (.tmp 0)) (d := 1) (cs := #[.int .i64 s.Kind, .int .i64 s.Role, .int .i64 s.K, .int .i64 s.Power, .int .i64 s.Node.Role, .int .i64 s.Node.N, .slice a_s_6 s.Data.length n_s_6, .slice a_s_7 s.Keeps.length n_s_7]) (by kernel_rfl) (by kernel_rfl) s0 ?_
 intro b20 h21 s22
 refine Op.al 2 94 #[.int .i64 0, .int .i64 0, .int .i64 0, .int .i64 0, .int .i64 0, .int .i64 0, .slice none 0 0, .slice none 0 0] s22 ?_
 intro b23 h24 s25
 refine Op.gt 1 ?_
 refine At.rp 5 1 [(3, .pointer (some ⟨b20, 6, none⟩))] ?_
 refine Op.ld (n := 1) 29 (.tmp 3) 4 6 (.slice a_s_6 s.Data.length n_s_6) (s25.chunk 1 rfl) ?_
 refine Op.c0 (some 5) (copyBytesU _ _ _ s25.sub hG _ _ h_s_6 (by ((try dsimp only) <;> (omega))) ) s25 ?_
 rintro _ g33 _ h26 hle34 s27 ⟨v28, ch29, rfl, R30, hgg, rfl⟩; subst g33; clear hle34
 obtain ⟨a31, n32, rfl⟩ := R30.form
 refine Op.px 1 [(6, .pointer (some ⟨b20, 6, none⟩))] ?_
 refine Op.s1 29 (.tmp 6) (.tmp 5) 6 (.slice a31 ((s.Data).length) n32) 2 #[.int .i64 s.Kind, .int .i64 s.Role, .int .i64 s.K, .int .i64 s.Power, .int .i64 s.Node.Role, .int .i64 s.Node.N, .slice a31 ((s.Data).length) n32, .slice a_s_7 s.Keeps.length n_s_7] s27 (fun _ => trivial) ?_
 intro h35 s36
 refine Op.gt 2 ?_
 refine At.rp 5 1 [(7, .pointer (some ⟨b20, 7, none⟩))] ?_
 refine Op.ld (n := 1) 44 (.tmp 7) 8 7 (.slice a_s_7 s.Keeps.length n_s_7) (s36.chunk 2 rfl) ?_
 refine Op.c0 (some 9) (copyIntsU _ _ _ s36.sub hG _ _ h_s_7 (by ((try dsimp only) <;> (omega))) ) s36 ?_
 rintro _ g44 _ h37 hle45 s38 ⟨v39, ch40, rfl, R41, hgg, rfl⟩; subst g44; clear hle45
 obtain ⟨a42, n43, rfl⟩ := R41.form
 refine Op.px 1 [(10, .pointer (some ⟨b20, 7, none⟩))] ?_
 refine Op.s1 44 (.tmp 10) (.tmp 9) 7 (.slice a42 ((s.Keeps).length) n43) 3 #[.int .i64 s.Kind, .int .i64 s.Role, .int .i64 s.K, .int .i64 s.Power, .int .i64 s.Node.Role, .int .i64 s.Node.N, .slice a31 ((s.Data).length) n32, .slice a42 ((s.Keeps).length) n43] s38 (fun _ => trivial) ?_
 intro h46 s47
 refine Op.gt 3 ?_
 refine At.rg 2 ?_
 refine Op.la 94 (.tmp 1) 11 0 8 [.int .i64 s.Kind, .int .i64 s.Role, .int .i64 s.K, .int .i64 s.Power, .int .i64 s.Node.Role, .int .i64 s.Node.N, .slice a31 ((s.Data).length) n32, .slice a42 ((s.Keeps).length) n43] (s47.chunk 3 rfl) ?_
 refine Op.store (T := 94) (x := (.tmp 2)) (y := (.tmp 11)) (b := b23) (o := 0) (vs := [.int .i64 s.Kind, .int .i64 s.Role, .int .i64 s.K, .int .i64 s.Power, .int .i64 s.Node.Role, .int .i64 s.Node.N, .slice a31 ((s.Data).length) n32, .slice a42 ((s.Keeps).length) n43]) (a? := true) (n := 8) (by kernel_rfl) (by kernel_rfl) (by kernel_rfl) (by kernel_rfl) rfl (by simp [Value.oneCell']) s47 2 rfl (Nat.le_of_ble_eq_true (by kernel_rfl)) (cs := #[.int .i64 0, .int .i64 0, .int .i64 0, .int .i64 0, .int .i64 0, .int .i64 0, .slice none 0 0, .slice none 0 0]) (cs' := #[.int .i64 s.Kind, .int .i64 s.Role, .int .i64 s.K, .int .i64 s.Power, .int .i64 s.Node.Role, .int .i64 s.Node.N, .slice a31 ((s.Data).length) n32, .slice a42 ((s.Keeps).length) n43]) (by kernel_rfl) (fun _ => trivial) ?_
 intro h48 s49
 refine Op.gt 4 ?_
 refine At.retM (f := Tryz.f61) (vs := [.agg #[.int .i64 s.Kind, .int .i64 s.Role, .int .i64 s.K, .int .i64 s.Power, .int .i64 s.Node.Role, .int .i64 s.Node.N, .slice a31 ((s.Data).length) n32, .slice a42 ((s.Keeps).length) n43]]) (rl := [.cell 2 94]) (v := .agg #[.int .i64 s.Kind, .int .i64 s.Role, .int .i64 s.K, .int .i64 s.Power, .int .i64 s.Node.Role, .int .i64 s.Node.N, .slice a31 ((s.Data).length) n32, .slice a42 ((s.Keeps).length) n43]) (by kernel_rfl) (by kernel_rfl) ⟨⟨_, _, rfl, resAgg (n := 8) (by kernel_rfl) (s49.chunk 2 rfl) (by kernel_rfl) rfl⟩, trivial⟩ rfl ?_
 have s50 := (((s49.front 0 rfl).front 1 rfl).front 3 rfl).front 3 rfl
 have s51 := s50.drop.drop
 refine hR _ _ _ _ s51 ⟨(.slice a31 ((s.Data).length) n32), ch29, (.slice a42 ((s.Keeps).length) n43), ch40, ?_, ?_, ?_, rfl, rfl⟩
 ·exact (by rfl)
 ·exact rowEq R30 (by rfl)
 ·exact rowEq R41 (by rfl)
theorem sameSteps (B : World) (h : Heap) (g : GH) (hg : Sub g h) (hG : Glob g) (v_a : Value) (a : List Step) (h_a : SlR g 94 kStep v_a a) (v_b : Value) (b : List Step) (h_b : SlR g 94 kStep v_b b) (h1 : a.length ≤ 1000000000) (hd : ∀ x ∈ a, x.Data.length ≤ 1000000000 ∧ x.Keeps.length ≤ 1000000000) :
  Spec Tryz.prog B 17 #[v_a, v_b] h g [] (fun rv g' L' => rv = .bool (decide (a = b)) ∧ g' = g ∧ L' = []) := by
 obtain ⟨a_a, n_a, rfl⟩ := h_a.form
 obtain ⟨a_b, n_b, rfl⟩ := h_b.form
 refine Spec.at' Tryz.func17 ?_
 intro R hR
 have s0 := St.init hg
 refine At.go 1 1 [] ?_
 refine At.go 2 5 [(12, .bool ((a.length : Int) != (b.length : Int)))] ?_
 refine At.if' ((a.length : Int) != (b.length : Int)) 12 3 5 (fun c20 => ?_) (fun c21 => ?_)
 ·replace c20 := bneT c20
  refine At.go 4 1 [(4, .bool false)] ?_
  refine At.rt (.bool false) ?_
  refine hR _ _ _ _ s0 ⟨?_, rfl, rfl⟩
  exact (eqB (by exact sameE_len (by assumption)))
 ·replace c21 := bneF c21
  refine At.go 6 1 [(5, .int .i64 0)] ?_
  have loop6 : ∀ (m : Nat) (i : Int) (h23 : Heap) (hm : a.length - i.toNat < m) (h0 : 0 ≤ i) (h2 : i ≤ a.length) (ht : a.take i.toNat = b.take i.toNat)     (s22 : St h g (ids []) g [] h23), At (fctx Tryz.prog B 17 Tryz.f17 R) [] 6 [(0, .slice a_a a.length n_a), (1, .slice a_b b.length n_b), (5, .int .i64 i)] h23 := by
   intro m; induction m with
   | zero => intros; omega
   | succ m ih6 =>
    intro i h23 hm h0 h2 ht s22
    refine At.go 7 4 [(16, .bool (decide (i < (a.length : Int))))] ?_
    refine At.if' (decide (i < (a.length : Int))) 16 8 15 (fun c24 => ?_) (fun c25 => ?_)
    ·replace c24 := of_decide_eq_true c24
     refine At.rp 6 2 [(19, .slice a_a a.length n_a), (20, .int .i64 i)] ?_
     obtain ⟨x26, hx27⟩ := getAt (l := a) (i := i) (by omega)
     obtain ⟨b28, o29, cu30, fz31, ha32, hb33, hk34⟩ := SlR.at_ h_a _ hx27
     cases ha32
     refine Op.ix 23 94 8 96 a.length n_a (.tmp 19) (.tmp 20) 21 b28 o29 i (by omega) (by omega) ?_
     obtain ⟨v35, v37, hv36, hv38, hk34⟩ := hk34
     obtain ⟨a39, n40, rfl⟩ := hv36.form
     obtain ⟨a41, n42, rfl⟩ := hv38.form
     refine Op.la 94 (.tmp 21) 22 (o29 + (i : Int).toNat * 8) 8 [.int .i64 x26.Kind, .int .i64 x26.Role, .int .i64 x26.K, .int .i64 x26.Power, .int .i64 x26.Node.Role, .int .i64 x26.Node.N, .slice a39 x26.Data.length n40, .slice a41 x26.Keeps.length n42] (s22.sub _ _ hb33) ?_ (hv := (hk34))
     refine Op.al 6 94 #[.int .i64 0, .int .i64 0, .int .i64 0, .int .i64 0, .int .i64 0, .int .i64 0, .slice none 0 0, .slice none 0 0] s22 ?_
     intro b43 h44 s45
     refine Op.store (T := 94) (x := (.tmp 6)) (y := (.tmp 22)) (b := b43) (o := 0) (vs := [.int .i64 x26.Kind, .int .i64 x26.Role, .int .i64 x26.K, .int .i64 x26.Power, .int .i64 x26.Node.Role, .int .i64 x26.Node.N, .slice a39 x26.Data.length n40, .slice a41 x26.Keeps.length n42]) (a? := true) (n := 8) (by kernel_rfl) (by kernel_rfl) (by kernel_rfl) (by kernel_rfl) rfl (by simp [Value.oneCell']) s45 0 rfl (Nat.le_of_ble_eq_true (by kernel_rfl)) (cs := #[.int .i64 0, .int .i64 0, .int .i64 0, .int .i64 0, .int .i64 0, .int .i64 0, .slice none 0 0, .slice none 0 0]) (cs' := #[.int .i64 x26.Kind, .int .i64 x26.Role, .int .i64 x26.K, .int .i64 x26.Power, .int .i64 x26.Node.Role, .int .i64 x26.Node.N, .slice a39 x26.Data.length n40, .slice a41 x26.Keeps.length n42]) (by kernel_rfl) (fun _ => trivial) ?_
     intro h46 s47
     refine Op.gt 9 ?_
     refine At.rp 6 2 [(23, .slice a_b b.length n_b), (24, .int .i64 i)] ?_
     obtain ⟨x48, hx49⟩ := getAt (l := b) (i := i) (by omega)
     obtain ⟨b50, o51, cu52, fz53, ha54, hb55, hk56⟩ := SlR.at_ h_b _ hx49
     cases ha54
     refine Op.ix 23 94 8 96 b.length n_b (.tmp 23) (.tmp 24) 25 b50 o51 i (by omega) (by omega) ?_
     obtain ⟨v57, v59, hv58, hv60, hk56⟩ := hk56
     obtain ⟨a61, n62, rfl⟩ := hv58.form
     obtain ⟨a63, n64, rfl⟩ := hv60.form
     refine Op.la 94 (.tmp 25) 26 (o51 + (i : Int).toNat * 8) 8 [.int .i64 x48.Kind, .int .i64 x48.Role, .int .i64 x48.K, .int .i64 x48.Power, .int .i64 x48.Node.Role, .int .i64 x48.Node.N, .slice a61 x48.Data.length n62, .slice a63 x48.Keeps.length n64] (s47.sub _ _ hb55) ?_ (hv := (hk56))
     refine Op.al 7 94 #[.int .i64 0, .int .i64 0, .int .i64 0, .int .i64 0, .int .i64 0, .int .i64 0, .slice none 0 0, .slice none 0 0] s47 ?_
     intro b65 h66 s67
     refine Op.store (T := 94) (x := (.tmp 7)) (y := (.tmp 26)) (b := b65) (o := 0) (vs := [.int .i64 x48.Kind, .int .i64 x48.Role, .int .i64 x48.K, .int .i64 x48.Power, .int .i64 x48.Node.Role, .int .i64 x48.Node.N, .slice a61 x48.Data.length n62, .slice a63 x48.Keeps.length n64]) (a? := true) (n := 8) (by kernel_rfl) (by kernel_rfl) (by kernel_rfl) (by kernel_rfl) rfl (by simp [Value.oneCell']) s67 0 rfl (Nat.le_of_ble_eq_true (by kernel_rfl)) (cs := #[.int .i64 0, .int .i64 0, .int .i64 0, .int .i64 0, .int .i64 0, .int .i64 0, .slice none 0 0, .slice none 0 0]) (cs' := #[.int .i64 x48.Kind, .int .i64 x48.Role, .int .i64 x48.K, .int .i64 x48.Power, .int .i64 x48.Node.Role, .int .i64 x48.Node.N, .slice a61 x48.Data.length n62, .slice a63 x48.Keeps.length n64]) (by kernel_rfl) (fun _ => trivial) ?_
     intro h68 s69
     refine Op.gt 10 ?_
     refine At.rp 49 1 [(27, .pointer (some ⟨b43, 0, none⟩))] ?_
     refine Op.ld (n := 1) 3 (.tmp 27) 28 0 (.int .i64 x26.Kind) (s69.chunk 1 rfl) ?_
     refine Op.px 1 [(29, .pointer (some ⟨b65, 0, none⟩))] ?_
     refine Op.ld (n := 1) 3 (.tmp 29) 30 0 (.int .i64 x48.Kind) (s69.chunk 0 rfl) ?_
     refine Op.px 2 [(32, .bool (x26.Kind != x48.Kind))] ?_
     refine Op.wb (x26.Kind != x48.Kind) 32 (fun c70 => ?_) (fun c71 => ?_)
     ·replace c70 := bneT c70
      refine Op.pg 11 [(75, .bool true)] ?_
      refine At.ifT 75 12 ?_
      refine At.go 13 1 [(4, .bool false)] ?_
      refine At.rt (.bool false) ?_
      have s72 := s69.drop.drop
      refine hR _ _ _ _ s72 ⟨?_, rfl, rfl⟩
      exact (eqB (by exact sameE_ne hx27 hx49 (stN ((.inl (by first | assumption | exact of_decide_eq_false (by assumption)))))))
     ·replace c71 := bneF c71
      refine Op.px 1 [(33, .pointer (some ⟨b43, 1, none⟩))] ?_
      refine Op.ld (n := 1) 3 (.tmp 33) 34 1 (.int .i64 x26.Role) (s69.chunk 1 rfl) ?_
      refine Op.px 1 [(35, .pointer (some ⟨b65, 1, none⟩))] ?_
      refine Op.ld (n := 1) 3 (.tmp 35) 36 1 (.int .i64 x48.Role) (s69.chunk 0 rfl) ?_
      refine Op.px 3 [(39, .bool (x26.Role != x48.Role))] ?_
      refine Op.wb (x26.Role != x48.Role) 39 (fun c73 => ?_) (fun c74 => ?_)
      ·replace c73 := bneT c73
       refine Op.pg 11 [(75, .bool true)] ?_
       refine At.ifT 75 12 ?_
       refine At.go 13 1 [(4, .bool false)] ?_
       refine At.rt (.bool false) ?_
       have s75 := s69.drop.drop
       refine hR _ _ _ _ s75 ⟨?_, rfl, rfl⟩
       exact (eqB (by exact sameE_ne hx27 hx49 (stN (.inr ((.inl (by first | assumption | exact of_decide_eq_false (by assumption))))))))
      ·replace c74 := bneF c74
       refine Op.px 1 [(40, .pointer (some ⟨b43, 2, none⟩))] ?_
       refine Op.ld (n := 1) 3 (.tmp 40) 41 2 (.int .i64 x26.K) (s69.chunk 1 rfl) ?_
       refine Op.px 1 [(42, .pointer (some ⟨b65, 2, none⟩))] ?_
       refine Op.ld (n := 1) 3 (.tmp 42) 43 2 (.int .i64 x48.K) (s69.chunk 0 rfl) ?_
       refine Op.px 3 [(46, .bool (x26.K != x48.K))] ?_
       refine Op.wb (x26.K != x48.K) 46 (fun c76 => ?_) (fun c77 => ?_)
       ·replace c76 := bneT c76
        refine Op.pg 11 [(75, .bool true)] ?_
        refine At.ifT 75 12 ?_
        refine At.go 13 1 [(4, .bool false)] ?_
        refine At.rt (.bool false) ?_
        have s78 := s69.drop.drop
        refine hR _ _ _ _ s78 ⟨?_, rfl, rfl⟩
        exact (eqB (by exact sameE_ne hx27 hx49 (stN (.inr (.inr ((.inl (by first | assumption | exact of_decide_eq_false (by assumption)))))))))
       ·replace c77 := bneF c77
        refine Op.px 1 [(47, .pointer (some ⟨b43, 3, none⟩))] ?_
        refine Op.ld (n := 1) 3 (.tmp 47) 48 3 (.int .i64 x26.Power) (s69.chunk 1 rfl) ?_
        refine Op.px 1 [(49, .pointer (some ⟨b65, 3, none⟩))] ?_
        refine Op.ld (n := 1) 3 (.tmp 49) 50 3 (.int .i64 x48.Power) (s69.chunk 0 rfl) ?_
        refine Op.px 3 [(53, .bool (x26.Power != x48.Power))] ?_
        refine Op.wb (x26.Power != x48.Power) 53 (fun c79 => ?_) (fun c80 => ?_)
        ·replace c79 := bneT c79
         refine Op.pg 11 [(75, .bool true)] ?_
         refine At.ifT 75 12 ?_
         refine At.go 13 1 [(4, .bool false)] ?_
         refine At.rt (.bool false) ?_
         have s81 := s69.drop.drop
         refine hR _ _ _ _ s81 ⟨?_, rfl, rfl⟩
         exact (eqB (by exact sameE_ne hx27 hx49 (stN (.inr (.inr (.inr ((.inl (by first | assumption | exact of_decide_eq_false (by assumption))))))))))
        ·replace c80 := bneF c80
         refine Op.px 1 [(54, .pointer (some ⟨b43, 4, none⟩))] ?_
         refine Op.la 92 (.tmp 54) 55 4 2 [.int .i64 x26.Node.Role, .int .i64 x26.Node.N] (s69.chunk 1 rfl) ?_
         refine Op.px 1 [(56, .pointer (some ⟨b65, 4, none⟩))] ?_
         refine Op.la 92 (.tmp 56) 57 4 2 [.int .i64 x48.Node.Role, .int .i64 x48.Node.N] (s69.chunk 0 rfl) ?_
         refine Op.eqAgg (T := 92) (T' := 92) (x := (.tmp 55)) (y := (.tmp 57)) (neq := true) (dst := 58) (xs := #[.int .i64 x26.Node.Role, .int .i64 x26.Node.N]) (ys := #[.int .i64 x48.Node.Role, .int .i64 x48.Node.N]) (q := ((x26.Node.Role == x48.Node.Role) && ((x26.Node.N == x48.Node.N) && true))) (q' := !(decide (x26.Node = x48.Node))) (by kernel_rfl) (by kernel_rfl) (by kernel_rfl) (by kernel_rfl) (by kernel_rfl) (congrArg (fun z => !z) (eqT_Id x26.Node x48.Node)) ?_
         refine Op.px 2 [(60, .bool (!(decide (x26.Node = x48.Node))))] ?_
         refine Op.wb (!(decide (x26.Node = x48.Node))) 60 (fun c82 => ?_) (fun c83 => ?_)
         ·replace c82 := of_decide_eq_false (notT c82)
          refine Op.pg 11 [(75, .bool true)] ?_
          refine At.ifT 75 12 ?_
          refine At.go 13 1 [(4, .bool false)] ?_
          refine At.rt (.bool false) ?_
          have s84 := s69.drop.drop
          refine hR _ _ _ _ s84 ⟨?_, rfl, rfl⟩
          exact (eqB (by exact sameE_ne hx27 hx49 (stN (.inr (.inr (.inr (.inr ((.inl (by first | assumption | exact of_decide_eq_false (by assumption)))))))))))
         ·replace c83 := of_decide_eq_true (notF c83)
          refine Op.px 1 [(61, .pointer (some ⟨b43, 6, none⟩))] ?_
          refine Op.ld (n := 1) 29 (.tmp 61) 62 6 (.slice a39 x26.Data.length n40) (s69.chunk 1 rfl) ?_
          refine Op.px 1 [(63, .pointer (some ⟨b65, 6, none⟩))] ?_
          refine Op.ld (n := 1) 29 (.tmp 63) 64 6 (.slice a61 x48.Data.length n62) (s69.chunk 0 rfl) ?_
          refine Op.c1 65 (sameBytesU _ _ _ s69.sub hG _ _ hv36 _ _ hv58 (by ((try dsimp only) <;> (exact (hd _ (List.mem_of_getElem? hx27)).1))) ) s69 ?_
          intro h85 s86
          refine Op.px 3 [(68, .bool (!(decide (x26.Data = x48.Data))))] ?_
          refine Op.wb (!(decide (x26.Data = x48.Data))) 68 (fun c89 => ?_) (fun c90 => ?_)
          ·replace c89 := of_decide_eq_false (notT c89)
           refine Op.pg 11 [(75, .bool true)] ?_
           refine At.ifT 75 12 ?_
           refine At.go 13 1 [(4, .bool false)] ?_
           refine At.rt (.bool false) ?_
           have s91 := s86.drop.drop
           refine hR _ _ _ _ s91 ⟨?_, rfl, rfl⟩
           exact (eqB (by exact sameE_ne hx27 hx49 (stN (.inr (.inr (.inr (.inr (.inr ((.inl (by first | assumption | exact of_decide_eq_false (by assumption))))))))))))
          ·replace c90 := of_decide_eq_true (notF c90)
           refine Op.px 1 [(69, .pointer (some ⟨b43, 7, none⟩))] ?_
           refine Op.ld (n := 1) 44 (.tmp 69) 70 7 (.slice a41 x26.Keeps.length n42) (s86.chunk 1 rfl) ?_
           refine Op.px 1 [(71, .pointer (some ⟨b65, 7, none⟩))] ?_
           refine Op.ld (n := 1) 44 (.tmp 71) 72 7 (.slice a63 x48.Keeps.length n64) (s86.chunk 0 rfl) ?_
           refine Op.c1 73 (sameIntsU _ _ _ s86.sub hG _ _ hv38 _ _ hv60 (by ((try dsimp only) <;> (exact (hd _ (List.mem_of_getElem? hx27)).2))) ) s86 ?_
           intro h92 s93
           refine Op.pg 11 [(75, .bool (!(decide (x26.Keeps = x48.Keeps))))] ?_
           refine At.if' (!(decide (x26.Keeps = x48.Keeps))) 75 12 14 (fun c96 => ?_) (fun c97 => ?_)
           ·replace c96 := of_decide_eq_false (notT c96)
            refine At.go 13 1 [(4, .bool false)] ?_
            refine At.rt (.bool false) ?_
            have s98 := s93.drop.drop
            refine hR _ _ _ _ s98 ⟨?_, rfl, rfl⟩
            exact (eqB (by exact sameE_ne hx27 hx49 (stN (.inr (.inr (.inr (.inr (.inr (.inr (((by first | assumption | exact of_decide_eq_false (by assumption)))))))))))))
           ·replace c97 := of_decide_eq_true (notF c97)
            refine At.rp 3 1 [(17, .int .i64 i)] ?_
            refine Op.v64 18 (i + 1) (by omega) (by omega) ?_
            refine Op.pg 6 [(5, .int .i64 (i + 1))] ?_
            refine At.kp [(0, .slice (some ⟨b28, o29, none⟩) a.length n_a), (1, .slice (some ⟨b50, o51, none⟩) b.length n_b), (5, .int .i64 (i + 1))] ?_
            have s99 := s93.drop.drop
            exact ih6  (i + 1) _ (by omega) (by omega) (by omega) (by exact take_step ht h0 hx27 hx49 (stY (by assumption) (by assumption) (by assumption) (by assumption) (by assumption) (by assumption) (by assumption)))  s99
    ·replace c25 := of_decide_eq_false c25
     refine At.go 16 1 [(4, .bool true)] ?_
     refine At.rt (.bool true) ?_
     refine hR _ _ _ _ s22 ⟨?_, rfl, rfl⟩
     exact (eqB (by exact sameE_end (by assumption) c25 ht))
  refine At.kp [(0, .slice a_a a.length n_a), (1, .slice a_b b.length n_b), (5, .int .i64 0)] ?_
  exact loop6 _  0 _ (Nat.lt_succ_self _) (by omega) (by omega) (by rfl)  s0
end Go.Proofs.YtmjebehhpojihaaGreatDoor.Sw
namespace Go.Proofs.YtmjebehhpojihaaGreatDoor.Sw
set_option linter.unusedVariables false
set_option linter.unusedSimpArgs false
set_option linter.deprecated false
open Go
def numB (v : Int) : Prop := -999999999 ≤ v ∧ v ≤ 999999999
def stB (D K : Nat) (st : Step) : Prop := (0 ≤ st.Kind ∧ st.Kind ≤ 9) ∧ (0 ≤ st.Role ∧ st.Role ≤ 4) ∧ numB st.K ∧ numB st.Power ∧ (0 ≤ st.Node.Role ∧ st.Node.Role ≤ 4) ∧ numB st.Node.N ∧ st.Data.length ≤ D ∧ st.Keeps.length ≤ K ∧ ∀ k ∈ st.Keeps, numB k
theorem numB_0 : numB 0 := ⟨by decide, by decide⟩
theorem numW_b (w : List UInt8) : numB ((numW w).getD 0) := by
  unfold numW
  split
  · exact numB_0
  · split
    · rename_i h
      show numB ((sgnW w).1 * valD 0 (sgnW w).2)
      generalize hd : (sgnW w).2 = d at h
      have ok := h
      unfold okD at ok
      simp only [Bool.and_eq_true, decide_eq_true_eq] at ok
      have hv := valD_le d ok.2
      have hp : 10 ^ d.length ≤ 10 ^ 9 := Nat.pow_le_pow_right (by decide) ok.1.1.2
      have hq : ((10 ^ d.length : Nat) : Int) ≤ 1000000000 := by omega
      have hs : (sgnW w).1 = 1 ∨ (sgnW w).1 = -1 := by unfold sgnW; split; exact .inr rfl; exact .inl rfl
      unfold numB
      rcases hs with e | e <;> rw [e] <;> omega
    · exact numB_0
theorem unhexL_len : ∀ (n : Nat) (w o : List UInt8), w.length ≤ n → unhexL w = some o → 2 * o.length ≤ w.length
  | _, [], o, _, h => by simp [unhexL] at h; subst h; simp
  | _, [_], o, _, h => by cases h
  | 0, _ :: _ :: _, _, hn, _ => by simp at hn
  | n + 1, a :: b :: r, o, hn, h => by
    rw [unhexL] at h
    split at h
    · cases h
    · obtain ⟨x, hx, rfl⟩ := Option.map_eq_some_iff.1 h
      have := unhexL_len n r x (by simp at hn; omega) hx
      simp at this ⊢
      omega
theorem unhexW_len (w : List UInt8) : ((unhexW w).getD []).length ≤ w.length := by
  unfold unhexW
  split
  · simp
  · split
    · simp
    · cases h : unhexL w with
      | none => simp
      | some o => have := unhexL_len _ w o (Nat.le_refl _) h; simp; omega
theorem setW_b {D K : Nat} {st : Step} {w : List UInt8} (c : UInt8) (h : stB D K st) (hw : w.length ≤ D) : stB D K (setW c st w).1 := by
  obtain ⟨h1, h2, h3, h4, h5, h6, h7, h8, h9⟩ := h
  have hr := roleW_b w
  have hn := numW_b w
  have hu := unhexW_len w
  unfold setW
  repeat' split
  · exact ⟨h1, h2, h3, h4, hr, h6, h7, h8, h9⟩
  · exact ⟨h1, h2, h3, h4, h5, hn, h7, h8, h9⟩
  · exact ⟨h1, hr, h3, h4, h5, h6, h7, h8, h9⟩
  · exact ⟨h1, h2, hn, h4, h5, h6, h7, h8, h9⟩
  · exact ⟨h1, h2, h3, hn, h5, h6, h7, h8, h9⟩
  · exact ⟨h1, h2, h3, h4, h5, h6, by show ((unhexW w).getD []).length ≤ D; omega, h8, h9⟩
  · exact ⟨h1, h2, h3, h4, h5, h6, h7, h8, h9⟩
theorem stB.mono {D K D' K' : Nat} {st : Step} (h : stB D K st) (hd : D ≤ D') (hk : K ≤ K') : stB D' K' st := by
  obtain ⟨h1, h2, h3, h4, h5, h6, h7, h8, h9⟩ := h
  exact ⟨h1, h2, h3, h4, h5, h6, by omega, by omega, h9⟩
theorem addK_b {D K : Nat} {st : Step} {v : Int} (h : stB D K st) (hv : numB v) : stB D (K + 1) (addK st v) := by
  obtain ⟨h1, h2, h3, h4, h5, h6, h7, h8, h9⟩ := h
  refine ⟨h1, h2, h3, h4, h5, h6, h7, by show (st.Keeps ++ [v]).length ≤ K + 1; simp; omega, fun k hk => ?_⟩
  rcases List.mem_append.1 (show k ∈ st.Keeps ++ [v] from hk) with hk | hk
  · exact h9 k hk
  · rw [List.mem_singleton.1 hk]; exact hv
theorem keepsR_b {D : Nat} : ∀ (r : List (List UInt8)) (K : Nat) (st : Step), stB D K st → stB D (K + r.length) (keepsR r st).1
  | [], K, st, h => h
  | w :: r, K, st, h => by
    have h2 := addK_b h (numW_b w)
    rw [keepsR]
    split
    · have := keepsR_b r (K + 1) _ h2
      rw [List.length_cons]
      exact this.mono (Nat.le_refl _) (by omega)
    · exact h2.mono (Nat.le_refl _) (by rw [List.length_cons]; omega)
theorem zStep_b {D K : Nat} : stB D K zStep := ⟨by decide, by decide, numB_0, numB_0, by decide, numB_0, Nat.zero_le _, Nat.zero_le _, by intro k hk; cases hk⟩
theorem fillR_b {D : Nat} : ∀ (f : List UInt8) (r : List (List UInt8)) (K : Nat) (st : Step), stB D K st → (∀ w ∈ r, w.length ≤ D) → stB D (K + r.length) (fillR f r st).1
  | [], r, K, st, h, _ => h.mono (Nat.le_refl _) (by omega)
  | c :: f, r, K, st, h, hr => by
    rw [fillR_cons]
    split
    · have h2 := keepsR_b r K st h
      split
      · exact (fillR_b f [] _ _ h2 (by intro w hw; cases hw)).mono (Nat.le_refl _) (by simp)
      · exact h2
    · rcases r with _ | ⟨w, r⟩
      · exact zStep_b
      · have h2 := setW_b c h (hr w (by simp))
        show stB D (K + (r.length + 1)) (if (setW c st w).2 then fillR f r (setW c st w).1 else setW c st w).1
        split
        · exact (fillR_b f r K _ h2 (fun w hw => hr w (by simp [hw]))).mono (Nat.le_refl _) (by omega)
        · exact h2.mono (Nat.le_refl _) (by omega)
theorem initS_B {k : Nat} (h : k < 9) : stB 0 0 (initS k) := by
  refine ⟨⟨?_, ?_⟩, ⟨by show (0 : Int) ≤ 0; decide, by show (0 : Int) ≤ 4; decide⟩, numB_0, numB_0, ?_, numB_0, Nat.le_refl _, Nat.le_refl _, fun k hk => by cases hk⟩
  · show (0 : Int) ≤ k + 1; omega
  · show (k : Int) + 1 ≤ 9; omega
  · show (0 : Int) ≤ (if k = 0 then 4 else if k = 7 then 2 else 0) ∧ (if k = 0 then (4 : Int) else if k = 7 then 2 else 0) ≤ 4
    repeat' split
    all_goals decide
theorem cmdI_lt {w : List UInt8} {k : Nat} (h : cmdI w = some k) : k < 9 := by
  unfold cmdI at h
  exact List.mem_range.1 (List.mem_of_find?_eq_some h)
theorem lineR_b (l : List UInt8) : stB l.length (l.length + 1) (lineR l).1 := by
  unfold lineR
  split
  · exact zStep_b
  · rename_i k hk
    have := fillR_b (D := l.length) (cmdF k) (splitOn 32 l).tail 0 _ ((initS_B (cmdI_lt hk)).mono (Nat.zero_le _) (Nat.le_refl _)) (fun w hw => by
      obtain ⟨i, hi⟩ := List.getElem?_of_mem (List.mem_of_mem_tail hw)
      exact split_el hi)
    refine this.mono (Nat.le_refl _) ?_
    have h2 := split_len l
    rw [List.length_tail]
    omega
theorem split10_el {s w : List UInt8} (hm : w ∈ splitOn 10 s) : w.length ≤ s.length := by
  revert w
  induction s with
  | nil => intro w hw; simp [splitOn] at hw; subst hw; simp
  | cons a s ih =>
    intro w hw
    unfold splitOn at hw
    split at hw
    · rcases List.mem_cons.1 hw with rfl | hw
      · simp
      · have := ih hw; simp; omega
    · split at hw
      · rename_i x y hxy
        rcases List.mem_cons.1 hw with rfl | hw
        · have := ih (w := x) (by rw [hxy]; simp); simp; omega
        · have := ih (w := w) (by rw [hxy]; simp [hw]); simp; omega
      · rename_i hx; exact absurd hx (splitOn_ne _ _)
theorem lines_el {s w : List UInt8} (hm : w ∈ linesW s) : w.length ≤ s.length := by
  unfold linesW at hm
  split at hm
  · exact split10_el (List.dropLast_subset _ hm)
  · exact split10_el hm
theorem lines_len (s : List UInt8) : (linesW s).length ≤ s.length + 1 := by
  have h : (splitOn 10 s).length ≤ s.length + 1 := by rw [splitOn_length]; have := List.count_le_length (a := 10) (l := s); omega
  unfold linesW
  split
  · rw [List.length_dropLast]; omega
  · exact h
theorem parseG_b {D : Nat} : ∀ (L : List (List UInt8)) (n : Int) (out : List Step), (∀ l ∈ L, l.length ≤ D) → (∀ x ∈ out, stB D (D + 1) x) → (∀ x ∈ (parseG L n out).1, stB D (D + 1) x) ∧ (parseG L n out).1.length ≤ out.length + L.length
  | [], n, out, _, ho => ⟨ho, by simp [parseG]⟩
  | l :: L, n, out, hl, ho => by
    rw [parseG]
    have hl2 : ∀ l ∈ L, l.length ≤ D := fun x hx => hl x (by simp [hx])
    split
    · have := parseG_b L (n + 1) out hl2 ho
      exact ⟨this.1, by rw [List.length_cons]; omega⟩
    · split
      · have := parseG_b L (n + 1) (out ++ [(lineR l).1]) hl2 (fun x hx => by
          rcases List.mem_append.1 hx with hx | hx
          · exact ho x hx
          · rw [List.mem_singleton.1 hx]
            have h3 := hl l (by simp)
            exact (lineR_b l).mono h3 (by omega))
        rw [List.length_append] at this
        exact ⟨this.1, by rw [List.length_cons]; have := this.2; simp at this; omega⟩
      · exact ⟨fun x hx => (by cases hx), by simp⟩
theorem parse_b (s : List UInt8) : (∀ x ∈ (parseW s).1, stB s.length (s.length + 1) x) ∧ (parseW s).1.length ≤ s.length + 1 := by
  have := parseG_b (D := s.length) (linesW s) 0 [] (fun l hl => lines_el hl) (fun x hx => by cases hx)
  have h2 := lines_len s
  exact ⟨this.1, by have h3 := this.2; simp at h3; unfold parseW; omega⟩
theorem stB.ok {D K : Nat} {st : Step} (h : stB D K st) (hd : D ≤ 100000) (hk : K ≤ 100000) : stOk st := by
  obtain ⟨h1, h2, h3, h4, h5, h6, h7, h8, h9⟩ := h
  unfold numB at *
  refine ⟨by omega, by omega, by omega, by omega, by omega, by omega, by omega, by omega, fun k hk => ?_⟩
  have := h9 k hk
  omega
theorem keeps_flat {ks : List Int} (h : ∀ k ∈ ks, -9223372036854775808 ≤ k ∧ k ≤ 9223372036854775807) : (ks.flatMap fun k => 32 :: Lib.itoa k).length ≤ 21 * ks.length := by
  induction ks with
  | nil => simp
  | cons k ks ih =>
    have h1 := itoa_len20 (h k (by simp)).1 (h k (by simp)).2
    have h2 := ih (fun k hk => h k (by simp [hk]))
    rw [List.flatMap_cons, List.length_append, List.length_cons, List.length_cons]
    omega
theorem bitW_len {st : Step} (ho : stOk st) (c : UInt8) : (bitW st c).length ≤ 2200000 := by
  have hq := ho
  obtain ⟨h1, h2, h3, h4, h5, h6, h7, h8, h9⟩ := ho
  unfold bitW
  split
  · rw [List.length_cons]
    unfold wordW
    have a1 := roleS_len st.Node.Role
    have a2 := itoa_len20 h6.1 h6.2
    have a3 := roleS_len st.Role
    have a4 := itoa_len20 h3.1 h3.2
    have a5 := itoa_len20 h4.1 h4.2
    have a6 := hexW_len st.Data
    repeat' split
    all_goals omega
  · have := keeps_flat h9
    omega
theorem flat_len {st : Step} (ho : stOk st) : ∀ f : List UInt8, (f.flatMap (bitW st)).length ≤ 2200000 * f.length
  | [] => by simp
  | c :: f => by
    have h1 := bitW_len ho c
    have h2 := flat_len ho f
    rw [List.flatMap_cons, List.length_append, List.length_cons]
    omega
theorem textW_len {st : Step} (ho : stOk st) : (textW st).length ≤ 13300000 := by
  unfold textW
  split
  · simp
  · rename_i h
    have h1 := cmdF_len (k := st.Kind - 1) ⟨by omega, by omega⟩
    have h2 := cmdK_len (k := st.Kind - 1) ⟨by omega, by omega⟩
    rw [cmdF_eq] at h1
    rw [cmdK_eq] at h2
    have h3 := flat_len ho (cmdF (st.Kind - 1).toNat)
    rw [List.length_append]
    omega
end Go.Proofs.YtmjebehhpojihaaGreatDoor.Sw
