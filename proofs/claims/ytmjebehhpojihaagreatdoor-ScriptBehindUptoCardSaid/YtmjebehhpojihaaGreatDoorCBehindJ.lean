/- Lemmas for a law of this seat: what the functions compute, and plain facts of it. Own text. -/
import Derived.Test.YtmjebehhpojihaaGreatDoorCBehindI
import Derived.Lib.Overlaps
namespace Go.Proofs.YtmjebehhpojihaaGreatDoor.Sw
set_option linter.unusedVariables false
set_option linter.unusedSimpArgs false
set_option linter.deprecated false
open Go
theorem gadd_mem {g : GH} {p : Nat × Obj} : ∀ {c : Chunk}, (c.map (·.1)).Nodup → p ∈ c → gadd g c p.1 = some p.2
  | [], _, h => by cases h
  | q :: c, hn, h => by
    unfold gadd
    rw [List.find?_cons]
    by_cases hq : q.1 = p.1
    · have : Nat.beq q.1 p.1 = true := by rw [hq]; simp
      simp only [this]
      rcases List.mem_cons.1 h with rfl | h
      · rfl
      · rw [List.map_cons, List.nodup_cons] at hn
        exact absurd (List.mem_map.2 ⟨p, h, hq.symm⟩) hn.1
    · have : Nat.beq q.1 p.1 = false := beqF hq
      simp only [this]
      rcases List.mem_cons.1 h with rfl | h
      · exact absurd rfl hq
      · rw [List.map_cons, List.nodup_cons] at hn
        exact gadd_mem hn.2 h
section
variable {h0 : Heap} {g0 : GH} {S0 : Nat → Prop} {g : GH} {L L' : List Chunk} {c : Chunk} {h h' : Heap}
theorem St.keys (s : St h0 g0 S0 g (c :: L) h) : (c.map (·.1)).Nodup := by
  have := s.nodup
  rw [List.flatten_cons, List.map_append, List.nodup_append] at this
  exact this.1
theorem St.frzle (s : St h0 g0 S0 g (c :: L) h) : gle g (gadd g c) := s.freeze.2
theorem St.frzsub (s : St h0 g0 S0 g (c :: L) h) : Sub (gadd g c) h := s.freeze.1.sub
theorem Row.frz {α : Type} {T : TypeId} {d : Kd α} {v : Value} {xs : List α} (hr : Row T d g v xs c) (s : St h0 g0 S0 g (c :: L) h) : SlR (gadd g c) T d v xs := by
  rcases hr.old with ⟨ao, rfl, rfl, _⟩ | ⟨b, o, cap, cur, rfl, rfl, h1, h2, h3, h4⟩
  · exact SlR.empty _ _ _ _ _
  · exact ⟨_, cap, rfl, h1, fun _ => ⟨b, o, cur, (T, 0, 0), rfl, gadd_one _ _, h4.mono s.frzle⟩⟩
theorem Row.frzIn {α : Type} {T : TypeId} {d : Kd α} {v : Value} {xs : List α} {c' : Chunk} (hr : Row T d g v xs c') (s : St h0 g0 S0 g (c :: L) h) (hc : ∀ p ∈ c', p ∈ c) : SlR (gadd g c) T d v xs := by
  rcases hr.old with ⟨ao, rfl, rfl, _⟩ | ⟨b, o, cap, cur, rfl, rfl, h1, h2, h3, h4⟩
  · exact SlR.empty _ _ _ _ _
  · exact ⟨_, cap, rfl, h1, fun _ => ⟨b, o, cur, (T, 0, 0), rfl, gadd_mem s.keys (hc _ (List.mem_singleton.2 rfl)), h4.mono s.frzle⟩⟩
theorem St.thaw (s : St h0 g0 S0 g (c :: L) h) (t : St h0 g0 S0 (gadd g c) L' h') : St h0 g0 S0 g (c :: L') h' := by
  have hc : ∀ p ∈ c, p ∈ (c :: L).flatten := fun p hp => by simp [List.flatten_cons, hp]
  have hk := s.keys
  have hle := s.frzle
  refine ⟨t.size, t.frame, s.le, s.new, fun b o hb => t.sub b o (hle b o hb), ?_, ?_, ?_, ?_⟩
  · intro p hp
    rw [List.flatten_cons, List.mem_append] at hp
    rcases hp with hp | hp
    · exact t.sub _ _ (gadd_mem hk hp)
    · exact t.has p hp
  · rw [List.flatten_cons, List.map_append, List.nodup_append]
    refine ⟨hk, t.nodup, ?_⟩
    intro x hx y hy he
    obtain ⟨p, hp, rfl⟩ := List.mem_map.1 hx
    obtain ⟨q, hq, rfl⟩ := List.mem_map.1 hy
    have h1 := gadd_mem (g := g) hk hp
    have h2 := t.sep q hq
    rw [← he, h1] at h2
    cases h2
  · intro p hp
    rw [List.flatten_cons, List.mem_append] at hp
    rcases hp with hp | hp
    · exact s.sep p (hc p hp)
    · cases hg : g p.1 with
      | none => rfl
      | some x => have := hle _ _ hg; rw [t.sep p hp] at this; cases this
  · intro p hp
    rw [List.flatten_cons, List.mem_append] at hp
    rcases hp with hp | hp
    · exact s.own p (hc p hp)
    · exact t.own p hp
theorem St.unfrz (s : St h0 g0 S0 g L h) : St h0 g0 S0 g0 L h :=
  ⟨s.size, s.frame, gle.refl _, fun _ hb => .inl hb, fun b o hb => s.sub b o (s.le b o hb), s.has, s.nodup, fun p hp => (by
    cases hg : g0 p.1 with
    | none => rfl
    | some x => have := s.le _ _ hg; rw [s.sep p hp] at this; cases this), s.own⟩
theorem SlR.at_ {α : Type} {T : TypeId} {d : Kd α} {ao : Option Addr} {n c : Nat} {xs : List α} (hs : SlR g T d (.slice ao n c) xs) (i : Nat) {x : α} (hi : xs[i]? = some x) :
    ∃ (b o : Nat) (cur : Array Value) (fz : TypeId × Nat × Nat), ao = some ⟨b, o, none⟩ ∧ g b = some (.cells cur fz.1 fz.2) ∧ d.K g x (cut cur (o + i * d.sz) d.sz) := by
  obtain ⟨ao', c', e, hc, H⟩ := hs
  simp only [Value.slice.injEq] at e
  obtain ⟨rfl, rfl, rfl⟩ := e
  have hlt : i < xs.length := (List.getElem?_eq_some_iff.1 hi).1
  obtain ⟨b, o, cur, fz, e, hb, hr⟩ := H (by intro hx; subst hx; simp at hlt)
  refine ⟨b, o, cur, fz, e, hb, ?_⟩
  have := hr.at_ i hi
  rwa [cut_cut] at this
  have : (i + 1) * d.sz ≤ xs.length * d.sz := Nat.mul_le_mul_right _ hlt
  rw [Nat.succ_mul] at this
  exact this
def Kd.Flat {α : Type} (d : Kd α) : Prop := ∀ g g' x cs, d.K g x cs → d.K g' x cs
theorem reads_flat {α : Type} {d : Kd α} (hd : d.Flat) {g g' : GH} : ∀ {xs : List α} {cs : List Value}, Reads d g xs cs → Reads d g' xs cs
  | [], _, h => h
  | _ :: _, _, ⟨c, cs', e, hk, h⟩ => ⟨c, cs', e, hd _ _ _ _ hk, reads_flat hd h⟩
theorem Row.flat {α : Type} {T : TypeId} {d : Kd α} (hd : d.Flat) {g g' : GH} {v : Value} {xs : List α} (hr : Row T d g v xs c) : Row T d g' v xs c := by
  rcases hr with h | ⟨b, o, cap, cur, rest, e1, e2, h1, h2, h3, h4⟩
  · exact .inl h
  · exact .inr ⟨b, o, cap, cur, rest, e1, e2, h1, h2, h3, reads_flat hd h4⟩
end
section
variable {C : Ctx} {ds : List Deferred} {i j : Nat} {r : Heap} {M : Nat → Prop} {Ls : List (Nat × Bool)} {e : Env} {h : Heap}
variable {h0 : Heap} {g0 : GH} {S0 : Nat → Prop} {g : GH} {L L' : List Chunk}
theorem Op.lendAny {o : Oper} {f : FuncId} {args : Array Value} {cf : Chunk} {Lc : List Chunk} {Post : Value → GH → List Chunk → Prop} (h1 : nextOp C i j e = some o)
    (hp : ∀ w, (semOf e o).run C.P w = .ok (.enter f args) w)
    (s : St h0 g0 S0 g (cf :: (Lc ++ L)) h) (H : Spec C.P C.B f args h (gadd g cf) Lc Post) (hq : ∀ v g' L', Post v g' L' → g' = gadd g cf) (hM : ∀ b, b < r.size → ids Lc b → M b)
    (K : ∀ v Lc' h', St h0 g0 S0 g (cf :: (Lc' ++ L)) h' → Post v (gadd g cf) Lc' → Op C ds i r M Ls (e.putO o.dst v) h') : Op C ds i r M ((j, false) :: Ls) e h := by
  refine Op.act h1 fun w is hk a ft => ?_
  rw [hp w]
  refine Calls.mono (H w is) fun en w' ⟨v, he, is', g', Lc', t, hpost⟩ => ?_
  obtain rfl := hq _ _ _ hpost
  exact ⟨v, he, ⟨t.keep hM hk, is'⟩, _, ft.putO (nextOp_spec h1).2.2.2.1 v, K v Lc' _ (s.thaw (s.freeze.1.join t)) hpost⟩
theorem Op.lend {dst : Option Tmp} {f : FuncId} {args : Array Value} {cf : Chunk} {Lc : List Chunk} {Post : Value → GH → List Chunk → Prop} (ho : enterOf C i j e = some (dst, f, args))
    (s : St h0 g0 S0 g (cf :: (Lc ++ L)) h) (H : Spec C.P C.B f args h (gadd g cf) Lc Post) (hq : ∀ v g' L', Post v g' L' → g' = gadd g cf) (hM : ∀ b, b < r.size → ids Lc b → M b)
    (K : ∀ v Lc' h', St h0 g0 S0 g (cf :: (Lc' ++ L)) h' → Post v (gadd g cf) Lc' → Op C ds i r M Ls (e.putO dst v) h') : Op C ds i r M ((j, false) :: Ls) e h := by
  obtain ⟨o, h1, rfl, hp⟩ := enterOf_spec ho
  exact Op.lendAny h1 (pureVal_run _ hp) s H hq hM K
end
def PredOk {α : Type} (P : Program) (g : GH) (f : Nat) (cp : Array Value) (enc : α → Value) (ok : α → Prop) (q : α → Bool) : Prop :=
  ∀ (B : World) (h : Heap) (g' : GH), gle g g' → Sub g' h → Glob g' → ∀ x, ok x → Spec P B f (#[enc x] ++ cp) h g' [] (fun v g'' L' => v = .bool (q x) ∧ g'' = g' ∧ L' = [])
theorem PredOk.mono {α : Type} {P : Program} {g g' : GH} {f : Nat} {cp : Array Value} {enc : α → Value} {ok : α → Prop} {q : α → Bool} (H : PredOk P g f cp enc ok q) (hg : gle g g') : PredOk P g' f cp enc ok q :=
  fun B h k hk => H B h k (gle.trans hg hk)
theorem Spec.args {P : Program} {B : World} {f : FuncId} {args args' : Array Value} {h : Heap} {g : GH} {Lc : List Chunk} {Post : Value → GH → List Chunk → Prop} (e : args = args') (H : Spec P B f args h g Lc Post) : Spec P B f args' h g Lc Post := e ▸ H
theorem shrEq {k : IntKind} (x : Int) (m : Nat) (q : Int) (hq : (2 : Int) ^ m = q) (h : 0 ≤ q) : Value.int k (Int.fdiv x (2 ^ m)) = .int k (x / q) := by
  subst hq; rw [Int.fdiv_eq_ediv_of_nonneg _ h]
theorem args1 {e : Env} {x : Operand} {v : Value} {cp : Array Value} (h : e.ev x = v) : #[] ++ #[x].map e.ev ++ cp = #[v] ++ cp := by subst h; simp
theorem ids_or {c : Chunk} {A : List Chunk} {b : Nat} (hi : ids (c :: A) b) : ids [c] b ∨ ids A b := by
  obtain ⟨p, hp, e⟩ := hi
  rw [List.flatten_cons, List.mem_append] at hp
  rcases hp with hp | hp
  · exact .inl ⟨p, by simpa using hp, e⟩
  · exact .inr ⟨p, hp, e⟩
theorem St.apart {h0 : Heap} {g0 : GH} {S0 : Nat → Prop} {g : GH} {L : List Chunk} {h : Heap} (s : St h0 g0 S0 g L h) (i j : Nat) (hij : Nat.beq i j = false) {b : Nat} {o : Obj} {c : Chunk} (h1 : L[i]? = some [(b, o)]) (h2 : L[j]? = some c) : ¬ ids [c] b := by
  rintro ⟨p, hp, e⟩
  simp only [List.flatten_cons, List.flatten_nil, List.append_nil] at hp
  have hn := s.nodup
  rw [List.Nodup, List.map_flatten, List.pairwise_flatten] at hn
  obtain ⟨hi, e1⟩ := List.getElem?_eq_some_iff.1 h1
  obtain ⟨hj, e2⟩ := List.getElem?_eq_some_iff.1 h2
  have hne : i ≠ j := fun e => by subst e; simp at hij
  have key := List.pairwise_iff_getElem.1 hn.2
  rcases Nat.lt_or_gt_of_ne hne with hl | hl
  · have := key i j (by simpa using hi) (by simpa using hj) hl
    simp only [List.getElem_map, e1, e2] at this
    exact this b (by simp) p.1 (List.mem_map.2 ⟨p, hp, rfl⟩) e.symm
  · have := key j i (by simpa using hj) (by simpa using hi) hl
    simp only [List.getElem_map, e1, e2] at this
    exact this p.1 (List.mem_map.2 ⟨p, hp, rfl⟩) b (by simp) e
section
variable {C : Ctx} {ds : List Deferred} {i j : Nat} {r : Heap} {M : Nat → Prop} {Ls : List (Nat × Bool)} {e : Env} {h : Heap}
end
end Go.Proofs.YtmjebehhpojihaaGreatDoor.Sw
namespace Go.Proofs.YtmjebehhpojihaaGreatDoor.Sw
open Go
structure Id where
  Role : Int
  N : Int
  deriving DecidableEq
structure Step where
  Kind : Int
  Role : Int
  K : Int
  Power : Int
  Node : Id
  Data : List UInt8
  Keeps : List Int
  deriving DecidableEq
def kStep : Kd Step where
  sz := 8
  K g x cs := ∃ v0 v1, SlR g 5 kU8 v0 x.Data ∧ SlR g 3 (kInt .i64) v1 x.Keeps ∧ cs = [.int .i64 x.Kind, .int .i64 x.Role, .int .i64 x.K, .int .i64 x.Power, .int .i64 x.Node.Role, .int .i64 x.Node.N, v0, v1]
  len h := by obtain ⟨v0, v1, h0, h1, rfl⟩ := h; rfl
  one h := by
    obtain ⟨v0, v1, h0, h1, rfl⟩ := h
    obtain ⟨_, _, rfl⟩ := h0.form
    obtain ⟨_, _, rfl⟩ := h1.form
    simp [Value.oneCell']
  mono hg h := by obtain ⟨v0, v1, h0, h1, rfl⟩ := h; exact ⟨v0, v1, h0.mono hg, h1.mono hg, rfl⟩
  zv := ⟨0, 0, 0, 0, ⟨0, 0⟩, [], []⟩
  zc := [.int .i64 0, .int .i64 0, .int .i64 0, .int .i64 0, .int .i64 0, .int .i64 0, .slice none 0 0, .slice none 0 0]
  zK _ := ⟨_, _, SlR.nil _ _ _, SlR.nil _ _ _, rfl⟩
structure Event where
  Client : Int
  Stamp : Int
  Asked : Int
  Answered : Int
  Op : List UInt8
  Answer : List UInt8
  deriving DecidableEq
theorem eqT_Id (a b : Id) : ((a.Role == b.Role) && ((a.N == b.N) && true)) = decide (a = b) := by
  obtain ⟨a0, a1⟩ := a; obtain ⟨b0, b1⟩ := b
  rw [Bool.eq_iff_iff]; simp [mkS_beq, Bool.and_eq_true, Id.mk.injEq]
end Go.Proofs.YtmjebehhpojihaaGreatDoor.Sw
namespace Go.Proofs.YtmjebehhpojihaaGreatDoor.Sw
set_option linter.unusedVariables false
set_option linter.unusedSimpArgs false
set_option linter.deprecated false
open Go
def rolesL : List (List UInt8) := [[], [107, 101, 101, 112, 101, 114], [111, 114, 100, 101, 114, 101, 114], [100, 111, 101, 114], [112, 101, 101, 114]]
def formsL : List (List UInt8) := [[97, 115, 107], [110, 104], [100, 101, 108, 105, 118, 101, 114], [107], [108, 111, 115, 101], [107], [99, 111, 112, 121], [107], [116, 105, 99, 107], [114, 110], [99, 114, 97, 115, 104], [114, 110, 112, 42], [115, 97, 121], [114, 110, 116, 107, 104, 42], [102, 97, 107, 101], [110, 112, 107, 42], [114, 97, 119], [114, 110, 104]]
def roleW (w : List UInt8) : Option Int := if rolesL.getD 1 [] = w then some 1 else if rolesL.getD 2 [] = w then some 2 else if rolesL.getD 3 [] = w then some 3 else if rolesL.getD 4 [] = w then some 4 else none
section
variable {w : List UInt8} {i : Int}
theorem roleW_b (w : List UInt8) : 0 ≤ (roleW w).getD 0 ∧ (roleW w).getD 0 ≤ 4 := by
  unfold roleW
  repeat' split
  all_goals simp
end
def zStep : Step := ⟨0, 0, 0, 0, ⟨0, 0⟩, [], []⟩
def initS (k : Nat) : Step := ⟨k + 1, 0, 0, 0, ⟨if k = 0 then 4 else if k = 7 then 2 else 0, 0⟩, [], []⟩
def cmdK (k : Nat) : List UInt8 := formsL.getD (2 * k) []
def cmdF (k : Nat) : List UInt8 := formsL.getD (2 * k + 1) []
def cmdI (w : List UInt8) : Option Nat := (List.range 9).find? fun k => cmdK k == w
def setW (c : UInt8) (st : Step) (w : List UInt8) : Step × Bool :=
  if c = 114 then (⟨st.Kind, st.Role, st.K, st.Power, ⟨(roleW w).getD 0, st.Node.N⟩, st.Data, st.Keeps⟩, (roleW w).isSome)
  else if c = 110 then (⟨st.Kind, st.Role, st.K, st.Power, ⟨st.Node.Role, (numW w).getD 0⟩, st.Data, st.Keeps⟩, (numW w).isSome)
  else if c = 116 then (⟨st.Kind, (roleW w).getD 0, st.K, st.Power, st.Node, st.Data, st.Keeps⟩, (roleW w).isSome)
  else if c = 107 then (⟨st.Kind, st.Role, (numW w).getD 0, st.Power, st.Node, st.Data, st.Keeps⟩, (numW w).isSome)
  else if c = 112 then (⟨st.Kind, st.Role, st.K, (numW w).getD 0, st.Node, st.Data, st.Keeps⟩, (numW w).isSome)
  else if c = 104 then (⟨st.Kind, st.Role, st.K, st.Power, st.Node, (unhexW w).getD [], st.Keeps⟩, (unhexW w).isSome)
  else (st, true)
def addK (st : Step) (v : Int) : Step := ⟨st.Kind, st.Role, st.K, st.Power, st.Node, st.Data, st.Keeps ++ [v]⟩
def keepsR : List (List UInt8) → Step → Step × Bool
  | [], st => (st, true)
  | w :: r, st => if (numW w).isSome then keepsR r (addK st ((numW w).getD 0)) else (addK st ((numW w).getD 0), false)
def fillR : List UInt8 → List (List UInt8) → Step → Step × Bool
  | [], r, st => (st, r.isEmpty)
  | c :: f, r, st =>
    if c = 42 then (if (keepsR r st).2 then fillR f [] (keepsR r st).1 else keepsR r st)
    else match r with
      | [] => (zStep, false)
      | w :: r' => if (setW c st w).2 then fillR f r' (setW c st w).1 else setW c st w
theorem fillR_cons (c : UInt8) (f : List UInt8) (r : List (List UInt8)) (st : Step) : fillR (c :: f) r st = (if c = 42 then (if (keepsR r st).2 then fillR f [] (keepsR r st).1 else keepsR r st)
    else match r with
      | [] => (zStep, false)
      | w :: r' => if (setW c st w).2 then fillR f r' (setW c st w).1 else setW c st w) := by rw [fillR.eq_def]
def lineR (s : List UInt8) : Step × Bool :=
  match cmdI ((splitOn 32 s).headD []) with
  | none => (zStep, false)
  | some k => fillR (cmdF k) (splitOn 32 s).tail (initS k)
section
variable {s F w : List UInt8} {i at_ k : Int} {st : Step} {ok : Bool} {c : UInt8}
theorem split_ne (s : List UInt8) : 0 < (splitOn 32 s).length := by
  rcases h : splitOn 32 s with _ | ⟨a, b⟩
  · exact absurd h (splitOn_ne _ _)
  · simp
theorem head_of (hw : (splitOn 32 s)[(0 : Int).toNat]? = some w) : (splitOn 32 s).headD [] = w ∧ (splitOn 32 s).tail = (splitOn 32 s).drop (1 : Int).toNat := by
  rcases hs : splitOn 32 s with _ | ⟨a, b⟩
  · rw [hs] at hw; cases hw
  · rw [hs] at hw
    simp at hw
    exact ⟨hw, rfl⟩
theorem drop_atI {α : Type} {l : List α} {i : Int} {x : α} (h : l[i.toNat]? = some x) (h0 : 0 ≤ i) : l.drop i.toNat = x :: l.drop (i + 1).toNat := by
  obtain ⟨hl, rfl⟩ := List.getElem?_eq_some_iff.1 h
  have : (i + 1).toNat = i.toNat + 1 := by omega
  rw [this]
  exact List.drop_eq_getElem_cons hl
theorem u8eq {c d : UInt8} : (c.toNat : Int) = (d.toNat : Int) ↔ c = d := ⟨fun h => UInt8.toNat_inj.1 (by omega), fun h => by rw [h]⟩
theorem u8ne {c d : UInt8} (h : ¬ (c.toNat : Int) = (d.toNat : Int)) : ¬ c = d := fun e => h (by rw [e])
end
def roleS (r : Int) : List UInt8 := if r > 0 ∧ r < 5 then rolesL.getD r.toNat [] else []
def wordW (st : Step) (c : UInt8) : List UInt8 :=
  if c = 114 then roleS st.Node.Role else if c = 110 then Lib.itoa st.Node.N else if c = 116 then roleS st.Role else if c = 107 then Lib.itoa st.K else if c = 112 then Lib.itoa st.Power else hexW st.Data
def isW (c : UInt8) : Prop := c = 114 ∨ c = 110 ∨ c = 116 ∨ c = 107 ∨ c = 112 ∨ c = 104
instance (c : UInt8) : Decidable (isW c) := by unfold isW; infer_instance
def bitW (st : Step) (c : UInt8) : List UInt8 := if isW c then 32 :: wordW st c else st.Keeps.flatMap fun k => 32 :: Lib.itoa k
def textW (st : Step) : List UInt8 := if st.Kind < 1 ∨ st.Kind > 9 then [] else cmdK (st.Kind - 1).toNat ++ (cmdF (st.Kind - 1).toNat).flatMap (bitW st)
def stOk (st : Step) : Prop := (-9223372036854775808 ≤ st.Kind ∧ st.Kind ≤ 9223372036854775807) ∧ (-9223372036854775808 ≤ st.Role ∧ st.Role ≤ 9223372036854775807) ∧ (-9223372036854775808 ≤ st.K ∧ st.K ≤ 9223372036854775807) ∧
  (-9223372036854775808 ≤ st.Power ∧ st.Power ≤ 9223372036854775807) ∧ (-9223372036854775808 ≤ st.Node.Role ∧ st.Node.Role ≤ 9223372036854775807) ∧ (-9223372036854775808 ≤ st.Node.N ∧ st.Node.N ≤ 9223372036854775807) ∧
  st.Data.length ≤ 100000 ∧ st.Keeps.length ≤ 100000 ∧ ∀ k ∈ st.Keeps, -9223372036854775808 ≤ k ∧ k ≤ 9223372036854775807
section
variable {st : Step} {out w F : List UInt8} {i k v : Int} {c : UInt8}
theorem itoa_len20 (h0 : -9223372036854775808 ≤ v) (h1 : v ≤ 9223372036854775807) : (Lib.itoa v).length ≤ 20 := by
  have h := decDigits_len 18 v.natAbs (by rw [show (10 : Nat) ^ (18 + 1) = 10000000000000000000 from rfl]; omega)
  have h' := decDigits_len 18 v.toNat (by rw [show (10 : Nat) ^ (18 + 1) = 10000000000000000000 from rfl]; omega)
  unfold Lib.itoa
  split
  · rw [List.length_cons]; omega
  · omega
theorem roleS_len (r : Int) : (roleS r).length ≤ 7 := by
  unfold roleS
  split
  · rename_i h
    rcases (by omega : r = 1 ∨ r = 2 ∨ r = 3 ∨ r = 4) with rfl | rfl | rfl | rfl <;> decide
  · simp
theorem hexW_len (b : List UInt8) : (hexW b).length ≤ 2 * b.length + 1 := by
  unfold hexW
  split
  · simp
  · have : ∀ l : List UInt8, (l.flatMap fun c => [hexC (c.toNat / 16), hexC (c.toNat % 16)]).length = 2 * l.length := by
      intro l
      induction l with
      | nil => rfl
      | cons a l ih => rw [List.flatMap_cons, List.length_append, ih, List.length_cons]; simp; omega
    rw [this]; omega
theorem cmdF_eq (k : Int) : formsL.getD (0 + (k : Int).toNat * 2 + 1) [] = cmdF k.toNat := by unfold cmdF; rw [show 0 + k.toNat * 2 + 1 = 2 * k.toNat + 1 by omega]
theorem cmdK_eq (k : Int) : formsL.getD (0 + (k : Int).toNat * 2) [] = cmdK k.toNat := by unfold cmdK; rw [show 0 + k.toNat * 2 = 2 * k.toNat by omega]
theorem cmdF_len (h : 0 ≤ k ∧ k < 9) : (formsL.getD (0 + (k : Int).toNat * 2 + 1) []).length ≤ 6 := by
  rcases (by omega : k = 0 ∨ k = 1 ∨ k = 2 ∨ k = 3 ∨ k = 4 ∨ k = 5 ∨ k = 6 ∨ k = 7 ∨ k = 8) with rfl | rfl | rfl | rfl | rfl | rfl | rfl | rfl | rfl <;> decide
theorem cmdK_len (h : 0 ≤ k ∧ k < 9) : (formsL.getD (0 + (k : Int).toNat * 2) []).length ≤ 7 := by
  rcases (by omega : k = 0 ∨ k = 1 ∨ k = 2 ∨ k = 3 ∨ k = 4 ∨ k = 5 ∨ k = 6 ∨ k = 7 ∨ k = 8) with rfl | rfl | rfl | rfl | rfl | rfl | rfl | rfl | rfl <;> decide
variable (hc : (formsL.getD (0 + (st.Kind - 1 : Int).toNat * 2 + 1) [])[i.toNat]? = some c)
include hc
end
theorem split_el {s w : List UInt8} {i : Nat} (h : (splitOn 32 s)[i]? = some w) : w.length ≤ s.length := by
  have hm := List.mem_of_getElem? h
  clear h
  revert w
  induction s with
  | nil => intro w hw; simp [splitOn] at hw; subst hw; simp
  | cons a s ih =>
    intro w hw
    unfold splitOn at hw
    split at hw
    · rcases List.mem_cons.1 hw with rfl | hw
      · simp
      · have := ih hw; simp; omega
    · split at hw
      · rename_i x y hxy
        rcases List.mem_cons.1 hw with rfl | hw
        · have := ih (w := x) (by rw [hxy]; simp); simp; omega
        · have := ih (w := w) (by rw [hxy]; simp [hw]); simp; omega
      · rename_i hx; exact absurd hx (splitOn_ne _ _)
theorem split_len (s : List UInt8) : (splitOn 32 s).length ≤ s.length + 1 := by
  induction s with
  | nil => simp [splitOn]
  | cons a s ih =>
    unfold splitOn
    split
    · simp; omega
    · split
      · rename_i x y hxy; rw [hxy] at ih; simp at ih ⊢; omega
      · rename_i hx; exact absurd hx (splitOn_ne _ _)
end Go.Proofs.YtmjebehhpojihaaGreatDoor.Sw
