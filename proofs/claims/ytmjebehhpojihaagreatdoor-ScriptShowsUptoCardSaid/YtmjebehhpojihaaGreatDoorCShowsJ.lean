/- Lemmas for a law of this seat: what the functions compute, and plain facts of it. Own text. -/
import Derived.Test.YtmjebehhpojihaaGreatDoorCShowsI
import Derived.Lib.Overlaps
namespace Go.Proofs.YtmjebehhpojihaaGreatDoor.Sw
set_option linter.unusedVariables false
set_option linter.unusedSimpArgs false
set_option linter.deprecated false
open Go
theorem gadd_mem {g : GH} {p : Nat × Obj} : ∀ {c : Chunk}, (c.map (·.1)).Nodup → p ∈ c → gadd g c p.1 = some p.2
  | [], _, h => by cases h
  | q :: c, hn, h => by
    unfold gadd
    rw [List.find?_cons]
    by_cases hq : q.1 = p.1
    · have : Nat.beq q.1 p.1 = true := by rw [hq]; simp
      simp only [this]
      rcases List.mem_cons.1 h with rfl | h
      · rfl
      · rw [List.map_cons, List.nodup_cons] at hn
        exact absurd (List.mem_map.2 ⟨p, h, hq.symm⟩) hn.1
    · have : Nat.beq q.1 p.1 = false := beqF hq
      simp only [this]
      rcases List.mem_cons.1 h with rfl | h
      · exact absurd rfl hq
      · rw [List.map_cons, List.nodup_cons] at hn
        exact gadd_mem hn.2 h
section
variable {h0 : Heap} {g0 : GH} {S0 : Nat → Prop} {g : GH} {L L' : List Chunk} {c : Chunk} {h h' : Heap}
theorem St.keys (s : St h0 g0 S0 g (c :: L) h) : (c.map (·.1)).Nodup := by
  have := s.nodup
  rw [List.flatten_cons, List.map_append, List.nodup_append] at this
  exact this.1
theorem St.frzle (s : St h0 g0 S0 g (c :: L) h) : gle g (gadd g c) := s.freeze.2
theorem St.frzsub (s : St h0 g0 S0 g (c :: L) h) : Sub (gadd g c) h := s.freeze.1.sub
theorem Row.frz {α : Type} {T : TypeId} {d : Kd α} {v : Value} {xs : List α} (hr : Row T d g v xs c) (s : St h0 g0 S0 g (c :: L) h) : SlR (gadd g c) T d v xs := by
  rcases hr.old with ⟨ao, rfl, rfl, _⟩ | ⟨b, o, cap, cur, rfl, rfl, h1, h2, h3, h4⟩
  · exact SlR.empty _ _ _ _ _
  · exact ⟨_, cap, rfl, h1, fun _ => ⟨b, o, cur, (T, 0, 0), rfl, gadd_one _ _, h4.mono s.frzle⟩⟩
theorem Row.frzIn {α : Type} {T : TypeId} {d : Kd α} {v : Value} {xs : List α} {c' : Chunk} (hr : Row T d g v xs c') (s : St h0 g0 S0 g (c :: L) h) (hc : ∀ p ∈ c', p ∈ c) : SlR (gadd g c) T d v xs := by
  rcases hr.old with ⟨ao, rfl, rfl, _⟩ | ⟨b, o, cap, cur, rfl, rfl, h1, h2, h3, h4⟩
  · exact SlR.empty _ _ _ _ _
  · exact ⟨_, cap, rfl, h1, fun _ => ⟨b, o, cur, (T, 0, 0), rfl, gadd_mem s.keys (hc _ (List.mem_singleton.2 rfl)), h4.mono s.frzle⟩⟩
theorem St.thaw (s : St h0 g0 S0 g (c :: L) h) (t : St h0 g0 S0 (gadd g c) L' h') : St h0 g0 S0 g (c :: L') h' := by
  have hc : ∀ p ∈ c, p ∈ (c :: L).flatten := fun p hp => by simp [List.flatten_cons, hp]
  have hk := s.keys
  have hle := s.frzle
  refine ⟨t.size, t.frame, s.le, s.new, fun b o hb => t.sub b o (hle b o hb), ?_, ?_, ?_, ?_⟩
  · intro p hp
    rw [List.flatten_cons, List.mem_append] at hp
    rcases hp with hp | hp
    · exact t.sub _ _ (gadd_mem hk hp)
    · exact t.has p hp
  · rw [List.flatten_cons, List.map_append, List.nodup_append]
    refine ⟨hk, t.nodup, ?_⟩
    intro x hx y hy he
    obtain ⟨p, hp, rfl⟩ := List.mem_map.1 hx
    obtain ⟨q, hq, rfl⟩ := List.mem_map.1 hy
    have h1 := gadd_mem (g := g) hk hp
    have h2 := t.sep q hq
    rw [← he, h1] at h2
    cases h2
  · intro p hp
    rw [List.flatten_cons, List.mem_append] at hp
    rcases hp with hp | hp
    · exact s.sep p (hc p hp)
    · cases hg : g p.1 with
      | none => rfl
      | some x => have := hle _ _ hg; rw [t.sep p hp] at this; cases this
  · intro p hp
    rw [List.flatten_cons, List.mem_append] at hp
    rcases hp with hp | hp
    · exact s.own p (hc p hp)
    · exact t.own p hp
theorem St.unfrz (s : St h0 g0 S0 g L h) : St h0 g0 S0 g0 L h :=
  ⟨s.size, s.frame, gle.refl _, fun _ hb => .inl hb, fun b o hb => s.sub b o (s.le b o hb), s.has, s.nodup, fun p hp => (by
    cases hg : g0 p.1 with
    | none => rfl
    | some x => have := s.le _ _ hg; rw [s.sep p hp] at this; cases this), s.own⟩
theorem SlR.at_ {α : Type} {T : TypeId} {d : Kd α} {ao : Option Addr} {n c : Nat} {xs : List α} (hs : SlR g T d (.slice ao n c) xs) (i : Nat) {x : α} (hi : xs[i]? = some x) :
    ∃ (b o : Nat) (cur : Array Value) (fz : TypeId × Nat × Nat), ao = some ⟨b, o, none⟩ ∧ g b = some (.cells cur fz.1 fz.2) ∧ d.K g x (cut cur (o + i * d.sz) d.sz) := by
  obtain ⟨ao', c', e, hc, H⟩ := hs
  simp only [Value.slice.injEq] at e
  obtain ⟨rfl, rfl, rfl⟩ := e
  have hlt : i < xs.length := (List.getElem?_eq_some_iff.1 hi).1
  obtain ⟨b, o, cur, fz, e, hb, hr⟩ := H (by intro hx; subst hx; simp at hlt)
  refine ⟨b, o, cur, fz, e, hb, ?_⟩
  have := hr.at_ i hi
  rwa [cut_cut] at this
  have : (i + 1) * d.sz ≤ xs.length * d.sz := Nat.mul_le_mul_right _ hlt
  rw [Nat.succ_mul] at this
  exact this
def Kd.Flat {α : Type} (d : Kd α) : Prop := ∀ g g' x cs, d.K g x cs → d.K g' x cs
theorem reads_flat {α : Type} {d : Kd α} (hd : d.Flat) {g g' : GH} : ∀ {xs : List α} {cs : List Value}, Reads d g xs cs → Reads d g' xs cs
  | [], _, h => h
  | _ :: _, _, ⟨c, cs', e, hk, h⟩ => ⟨c, cs', e, hd _ _ _ _ hk, reads_flat hd h⟩
theorem Row.flat {α : Type} {T : TypeId} {d : Kd α} (hd : d.Flat) {g g' : GH} {v : Value} {xs : List α} (hr : Row T d g v xs c) : Row T d g' v xs c := by
  rcases hr with h | ⟨b, o, cap, cur, rest, e1, e2, h1, h2, h3, h4⟩
  · exact .inl h
  · exact .inr ⟨b, o, cap, cur, rest, e1, e2, h1, h2, h3, reads_flat hd h4⟩
end
section
variable {C : Ctx} {ds : List Deferred} {i j : Nat} {r : Heap} {M : Nat → Prop} {Ls : List (Nat × Bool)} {e : Env} {h : Heap}
variable {h0 : Heap} {g0 : GH} {S0 : Nat → Prop} {g : GH} {L L' : List Chunk}
theorem Op.lendAny {o : Oper} {f : FuncId} {args : Array Value} {cf : Chunk} {Lc : List Chunk} {Post : Value → GH → List Chunk → Prop} (h1 : nextOp C i j e = some o)
    (hp : ∀ w, (semOf e o).run C.P w = .ok (.enter f args) w)
    (s : St h0 g0 S0 g (cf :: (Lc ++ L)) h) (H : Spec C.P C.B f args h (gadd g cf) Lc Post) (hq : ∀ v g' L', Post v g' L' → g' = gadd g cf) (hM : ∀ b, b < r.size → ids Lc b → M b)
    (K : ∀ v Lc' h', St h0 g0 S0 g (cf :: (Lc' ++ L)) h' → Post v (gadd g cf) Lc' → Op C ds i r M Ls (e.putO o.dst v) h') : Op C ds i r M ((j, false) :: Ls) e h := by
  refine Op.act h1 fun w is hk a ft => ?_
  rw [hp w]
  refine Calls.mono (H w is) fun en w' ⟨v, he, is', g', Lc', t, hpost⟩ => ?_
  obtain rfl := hq _ _ _ hpost
  exact ⟨v, he, ⟨t.keep hM hk, is'⟩, _, ft.putO (nextOp_spec h1).2.2.2.1 v, K v Lc' _ (s.thaw (s.freeze.1.join t)) hpost⟩
theorem Op.lend {dst : Option Tmp} {f : FuncId} {args : Array Value} {cf : Chunk} {Lc : List Chunk} {Post : Value → GH → List Chunk → Prop} (ho : enterOf C i j e = some (dst, f, args))
    (s : St h0 g0 S0 g (cf :: (Lc ++ L)) h) (H : Spec C.P C.B f args h (gadd g cf) Lc Post) (hq : ∀ v g' L', Post v g' L' → g' = gadd g cf) (hM : ∀ b, b < r.size → ids Lc b → M b)
    (K : ∀ v Lc' h', St h0 g0 S0 g (cf :: (Lc' ++ L)) h' → Post v (gadd g cf) Lc' → Op C ds i r M Ls (e.putO dst v) h') : Op C ds i r M ((j, false) :: Ls) e h := by
  obtain ⟨o, h1, rfl, hp⟩ := enterOf_spec ho
  exact Op.lendAny h1 (pureVal_run _ hp) s H hq hM K
end
def PredOk {α : Type} (P : Program) (g : GH) (f : Nat) (cp : Array Value) (enc : α → Value) (ok : α → Prop) (q : α → Bool) : Prop :=
  ∀ (B : World) (h : Heap) (g' : GH), gle g g' → Sub g' h → Glob g' → ∀ x, ok x → Spec P B f (#[enc x] ++ cp) h g' [] (fun v g'' L' => v = .bool (q x) ∧ g'' = g' ∧ L' = [])
theorem PredOk.mono {α : Type} {P : Program} {g g' : GH} {f : Nat} {cp : Array Value} {enc : α → Value} {ok : α → Prop} {q : α → Bool} (H : PredOk P g f cp enc ok q) (hg : gle g g') : PredOk P g' f cp enc ok q :=
  fun B h k hk => H B h k (gle.trans hg hk)
theorem Spec.args {P : Program} {B : World} {f : FuncId} {args args' : Array Value} {h : Heap} {g : GH} {Lc : List Chunk} {Post : Value → GH → List Chunk → Prop} (e : args = args') (H : Spec P B f args h g Lc Post) : Spec P B f args' h g Lc Post := e ▸ H
theorem shrEq {k : IntKind} (x : Int) (m : Nat) (q : Int) (hq : (2 : Int) ^ m = q) (h : 0 ≤ q) : Value.int k (Int.fdiv x (2 ^ m)) = .int k (x / q) := by
  subst hq; rw [Int.fdiv_eq_ediv_of_nonneg _ h]
theorem args1 {e : Env} {x : Operand} {v : Value} {cp : Array Value} (h : e.ev x = v) : #[] ++ #[x].map e.ev ++ cp = #[v] ++ cp := by subst h; simp
theorem ids_or {c : Chunk} {A : List Chunk} {b : Nat} (hi : ids (c :: A) b) : ids [c] b ∨ ids A b := by
  obtain ⟨p, hp, e⟩ := hi
  rw [List.flatten_cons, List.mem_append] at hp
  rcases hp with hp | hp
  · exact .inl ⟨p, by simpa using hp, e⟩
  · exact .inr ⟨p, hp, e⟩
theorem St.apart {h0 : Heap} {g0 : GH} {S0 : Nat → Prop} {g : GH} {L : List Chunk} {h : Heap} (s : St h0 g0 S0 g L h) (i j : Nat) (hij : Nat.beq i j = false) {b : Nat} {o : Obj} {c : Chunk} (h1 : L[i]? = some [(b, o)]) (h2 : L[j]? = some c) : ¬ ids [c] b := by
  rintro ⟨p, hp, e⟩
  simp only [List.flatten_cons, List.flatten_nil, List.append_nil] at hp
  have hn := s.nodup
  rw [List.Nodup, List.map_flatten, List.pairwise_flatten] at hn
  obtain ⟨hi, e1⟩ := List.getElem?_eq_some_iff.1 h1
  obtain ⟨hj, e2⟩ := List.getElem?_eq_some_iff.1 h2
  have hne : i ≠ j := fun e => by subst e; simp at hij
  have key := List.pairwise_iff_getElem.1 hn.2
  rcases Nat.lt_or_gt_of_ne hne with hl | hl
  · have := key i j (by simpa using hi) (by simpa using hj) hl
    simp only [List.getElem_map, e1, e2] at this
    exact this b (by simp) p.1 (List.mem_map.2 ⟨p, hp, rfl⟩) e.symm
  · have := key j i (by simpa using hj) (by simpa using hi) hl
    simp only [List.getElem_map, e1, e2] at this
    exact this p.1 (List.mem_map.2 ⟨p, hp, rfl⟩) b (by simp) e
section
variable {C : Ctx} {ds : List Deferred} {i j : Nat} {r : Heap} {M : Nat → Prop} {Ls : List (Nat × Bool)} {e : Env} {h : Heap}
end
end Go.Proofs.YtmjebehhpojihaaGreatDoor.Sw
namespace Go.Proofs.YtmjebehhpojihaaGreatDoor.Sw
open Go
structure Id where
  Role : Int
  N : Int
  deriving DecidableEq
def kId : Kd Id where
  sz := 2
  K _ x cs := cs = [.int .i64 x.Role, .int .i64 x.N]
  len h := by subst h; rfl
  one h := by subst h; simp [Value.oneCell']
  mono _ h := h
  zv := ⟨0, 0⟩
  zc := [.int .i64 0, .int .i64 0]
  zK _ := rfl
structure Step where
  Kind : Int
  Role : Int
  K : Int
  Power : Int
  Node : Id
  Data : List UInt8
  Keeps : List Int
  deriving DecidableEq
def kStep : Kd Step where
  sz := 8
  K g x cs := ∃ v0 v1, SlR g 5 kU8 v0 x.Data ∧ SlR g 3 (kInt .i64) v1 x.Keeps ∧ cs = [.int .i64 x.Kind, .int .i64 x.Role, .int .i64 x.K, .int .i64 x.Power, .int .i64 x.Node.Role, .int .i64 x.Node.N, v0, v1]
  len h := by obtain ⟨v0, v1, h0, h1, rfl⟩ := h; rfl
  one h := by
    obtain ⟨v0, v1, h0, h1, rfl⟩ := h
    obtain ⟨_, _, rfl⟩ := h0.form
    obtain ⟨_, _, rfl⟩ := h1.form
    simp [Value.oneCell']
  mono hg h := by obtain ⟨v0, v1, h0, h1, rfl⟩ := h; exact ⟨v0, v1, h0.mono hg, h1.mono hg, rfl⟩
  zv := ⟨0, 0, 0, 0, ⟨0, 0⟩, [], []⟩
  zc := [.int .i64 0, .int .i64 0, .int .i64 0, .int .i64 0, .int .i64 0, .int .i64 0, .slice none 0 0, .slice none 0 0]
  zK _ := ⟨_, _, SlR.nil _ _ _, SlR.nil _ _ _, rfl⟩
structure Event where
  Client : Int
  Stamp : Int
  Asked : Int
  Answered : Int
  Op : List UInt8
  Answer : List UInt8
  deriving DecidableEq
def kEvent : Kd Event where
  sz := 6
  K g x cs := ∃ v0 v1, SlR g 5 kU8 v0 x.Op ∧ SlR g 5 kU8 v1 x.Answer ∧ cs = [.int .i64 x.Client, .int .i64 x.Stamp, .int .i64 x.Asked, .int .i64 x.Answered, v0, v1]
  len h := by obtain ⟨v0, v1, h0, h1, rfl⟩ := h; rfl
  one h := by
    obtain ⟨v0, v1, h0, h1, rfl⟩ := h
    obtain ⟨_, _, rfl⟩ := h0.form
    obtain ⟨_, _, rfl⟩ := h1.form
    simp [Value.oneCell']
  mono hg h := by obtain ⟨v0, v1, h0, h1, rfl⟩ := h; exact ⟨v0, v1, h0.mono hg, h1.mono hg, rfl⟩
  zv := ⟨0, 0, 0, 0, [], []⟩
  zc := [.int .i64 0, .int .i64 0, .int .i64 0, .int .i64 0, .slice none 0 0, .slice none 0 0]
  zK _ := ⟨_, _, SlR.nil _ _ _, SlR.nil _ _ _, rfl⟩
theorem eqT_Id (a b : Id) : ((a.Role == b.Role) && ((a.N == b.N) && true)) = decide (a = b) := by
  obtain ⟨a0, a1⟩ := a; obtain ⟨b0, b1⟩ := b
  rw [Bool.eq_iff_iff]; simp [mkS_beq, Bool.and_eq_true, Id.mk.injEq]
end Go.Proofs.YtmjebehhpojihaaGreatDoor.Sw
namespace Go.Proofs.YtmjebehhpojihaaGreatDoor.Sw
set_option linter.unusedVariables false
set_option linter.unusedSimpArgs false
set_option linter.deprecated false
open Go
def rolesL : List (List UInt8) := [[], [107, 101, 101, 112, 101, 114], [111, 114, 100, 101, 114, 101, 114], [100, 111, 101, 114], [112, 101, 101, 114]]
def formsL : List (List UInt8) := [[97, 115, 107], [110, 104], [100, 101, 108, 105, 118, 101, 114], [107], [108, 111, 115, 101], [107], [99, 111, 112, 121], [107], [116, 105, 99, 107], [114, 110], [99, 114, 97, 115, 104], [114, 110, 112, 42], [115, 97, 121], [114, 110, 116, 107, 104, 42], [102, 97, 107, 101], [110, 112, 107, 42], [114, 97, 119], [114, 110, 104]]
def roleW (w : List UInt8) : Option Int := if rolesL.getD 1 [] = w then some 1 else if rolesL.getD 2 [] = w then some 2 else if rolesL.getD 3 [] = w then some 3 else if rolesL.getD 4 [] = w then some 4 else none
def roleI (w : List UInt8) (i : Int) : Prop := ∀ k : Nat, 1 ≤ k → (k : Int) < i → ¬ rolesL.getD k [] = w
section
variable {w : List UInt8} {i : Int}
theorem roleI_0 (w : List UInt8) : roleI w 1 := fun k h1 h2 => by omega
theorem roleI_step (H : roleI w i) (h0 : 1 ≤ i) (h : (rolesL.getD (0 + (i : Int).toNat * 1) [] == w) = false) : roleI w (i + 1) := by
  intro k h1 h2
  by_cases hk : (k : Int) < i
  · exact H k h1 hk
  · have : 0 + i.toNat * 1 = k := by omega
    rw [this] at h
    exact fun hh => by rw [hh] at h; simp at h
theorem roleI_hit (H : roleI w i) (h0 : 1 ≤ i) (h5 : i < 5) (h : (rolesL.getD (0 + (i : Int).toNat * 1) [] == w) = true) : roleW w = some i := by
  have h := eq_of_beq h
  have a1 := H 1
  have a2 := H 2
  have a3 := H 3
  unfold roleW
  rcases (by omega : i = 1 ∨ i = 2 ∨ i = 3 ∨ i = 4) with rfl | rfl | rfl | rfl
  · rw [if_pos (show rolesL.getD 1 [] = w from h)]
  · rw [if_neg (a1 (by decide) (by decide)), if_pos (show rolesL.getD 2 [] = w from h)]
  · rw [if_neg (a1 (by decide) (by decide)), if_neg (a2 (by decide) (by decide)), if_pos (show rolesL.getD 3 [] = w from h)]
  · rw [if_neg (a1 (by decide) (by decide)), if_neg (a2 (by decide) (by decide)), if_neg (a3 (by decide) (by decide)), if_pos (show rolesL.getD 4 [] = w from h)]
theorem roleI_end (H : roleI w i) (h5 : ¬ i < 5) : roleW w = none := by
  unfold roleW
  rw [if_neg (H 1 (by decide) (by omega)), if_neg (H 2 (by decide) (by omega)), if_neg (H 3 (by decide) (by omega)), if_neg (H 4 (by decide) (by omega))]
theorem role_y {v : Int} (h : roleW w = some v) : v = (roleW w).getD 0 ∧ true = (roleW w).isSome := by rw [h]; exact ⟨rfl, rfl⟩
theorem role_n (h : roleW w = none) : (0 : Int) = (roleW w).getD 0 ∧ false = (roleW w).isSome := by rw [h]; exact ⟨rfl, rfl⟩
theorem roleW_b (w : List UInt8) : 0 ≤ (roleW w).getD 0 ∧ (roleW w).getD 0 ≤ 4 := by
  unfold roleW
  repeat' split
  all_goals simp
end
def zStep : Step := ⟨0, 0, 0, 0, ⟨0, 0⟩, [], []⟩
def initS (k : Nat) : Step := ⟨k + 1, 0, 0, 0, ⟨if k = 0 then 4 else if k = 7 then 2 else 0, 0⟩, [], []⟩
def cmdK (k : Nat) : List UInt8 := formsL.getD (2 * k) []
def cmdF (k : Nat) : List UInt8 := formsL.getD (2 * k + 1) []
def cmdI (w : List UInt8) : Option Nat := (List.range 9).find? fun k => cmdK k == w
def setW (c : UInt8) (st : Step) (w : List UInt8) : Step × Bool :=
  if c = 114 then (⟨st.Kind, st.Role, st.K, st.Power, ⟨(roleW w).getD 0, st.Node.N⟩, st.Data, st.Keeps⟩, (roleW w).isSome)
  else if c = 110 then (⟨st.Kind, st.Role, st.K, st.Power, ⟨st.Node.Role, (numW w).getD 0⟩, st.Data, st.Keeps⟩, (numW w).isSome)
  else if c = 116 then (⟨st.Kind, (roleW w).getD 0, st.K, st.Power, st.Node, st.Data, st.Keeps⟩, (roleW w).isSome)
  else if c = 107 then (⟨st.Kind, st.Role, (numW w).getD 0, st.Power, st.Node, st.Data, st.Keeps⟩, (numW w).isSome)
  else if c = 112 then (⟨st.Kind, st.Role, st.K, (numW w).getD 0, st.Node, st.Data, st.Keeps⟩, (numW w).isSome)
  else if c = 104 then (⟨st.Kind, st.Role, st.K, st.Power, st.Node, (unhexW w).getD [], st.Keeps⟩, (unhexW w).isSome)
  else (st, true)
def addK (st : Step) (v : Int) : Step := ⟨st.Kind, st.Role, st.K, st.Power, st.Node, st.Data, st.Keeps ++ [v]⟩
def keepsR : List (List UInt8) → Step → Step × Bool
  | [], st => (st, true)
  | w :: r, st => if (numW w).isSome then keepsR r (addK st ((numW w).getD 0)) else (addK st ((numW w).getD 0), false)
def fillR : List UInt8 → List (List UInt8) → Step → Step × Bool
  | [], r, st => (st, r.isEmpty)
  | c :: f, r, st =>
    if c = 42 then (if (keepsR r st).2 then fillR f [] (keepsR r st).1 else keepsR r st)
    else match r with
      | [] => (zStep, false)
      | w :: r' => if (setW c st w).2 then fillR f r' (setW c st w).1 else setW c st w
theorem fillR_cons (c : UInt8) (f : List UInt8) (r : List (List UInt8)) (st : Step) : fillR (c :: f) r st = (if c = 42 then (if (keepsR r st).2 then fillR f [] (keepsR r st).1 else keepsR r st)
    else match r with
      | [] => (zStep, false)
      | w :: r' => if (setW c st w).2 then fillR f r' (setW c st w).1 else setW c st w) := by rw [fillR.eq_def]
def lineR (s : List UInt8) : Step × Bool :=
  match cmdI ((splitOn 32 s).headD []) with
  | none => (zStep, false)
  | some k => fillR (cmdF k) (splitOn 32 s).tail (initS k)
def cmdL (w : List UInt8) (k : Int) : Prop := ∀ j : Nat, (j : Int) < k → ¬ cmdK j = w
def linI (s F : List UInt8) (i at_ : Int) (st : Step) (ok : Bool) : Prop := lineR s = if ok then fillR (F.drop i.toNat) ((splitOn 32 s).drop at_.toNat) st else (st, false)
def kepI (s F : List UInt8) (i at_ : Int) (st : Step) (ok : Bool) : Prop :=
  lineR s = if ok then (if (keepsR ((splitOn 32 s).drop at_.toNat) st).2 then fillR (F.drop (i + 1).toNat) [] (keepsR ((splitOn 32 s).drop at_.toNat) st).1 else keepsR ((splitOn 32 s).drop at_.toNat) st) else (st, false)
section
variable {s F w : List UInt8} {i at_ k : Int} {st : Step} {ok : Bool} {c : UInt8}
theorem split_ne (s : List UInt8) : 0 < (splitOn 32 s).length := by
  rcases h : splitOn 32 s with _ | ⟨a, b⟩
  · exact absurd h (splitOn_ne _ _)
  · simp
theorem cmdL_0 (w : List UInt8) : cmdL w 0 := fun j h => by omega
theorem cmdL_step (H : cmdL w k) (h0 : 0 ≤ k) (h : (formsL.getD (0 + (k : Int).toNat * 2) [] != w) = true) : cmdL w (k + 1) := by
  intro j hj
  by_cases hk : (j : Int) < k
  · exact H j hk
  · have : 0 + k.toNat * 2 = 2 * j := by omega
    rw [this] at h
    exact fun hh => by unfold cmdK at hh; rw [hh] at h; simp at h
theorem head_of (hw : (splitOn 32 s)[(0 : Int).toNat]? = some w) : (splitOn 32 s).headD [] = w ∧ (splitOn 32 s).tail = (splitOn 32 s).drop (1 : Int).toNat := by
  rcases hs : splitOn 32 s with _ | ⟨a, b⟩
  · rw [hs] at hw; cases hw
  · rw [hs] at hw
    simp at hw
    exact ⟨hw, rfl⟩
theorem cmdL_hit (H : cmdL w k) (h0 : 0 ≤ k) (h9 : k < 9) (h : (formsL.getD (0 + (k : Int).toNat * 2) [] != w) = false) : cmdI w = some k.toNat := by
  unfold cmdI
  rw [List.find?_range_eq_some]
  have h : cmdK k.toNat = w := by
    have : 0 + k.toNat * 2 = 2 * k.toNat := by omega
    rw [this] at h
    simpa [cmdK] using h
  refine ⟨by rw [h]; simp, by simp; omega, fun j hj => ?_⟩
  have := H j (by omega)
  simpa using this
theorem cmdL_end (H : cmdL w k) (h9 : ¬ k < 9) : cmdI w = none := by
  unfold cmdI
  rw [List.find?_eq_none]
  intro j hj
  have := H j (by have := List.mem_range.1 hj; omega)
  simpa using this
theorem line_none (H : cmdI ((splitOn 32 s).headD []) = none) : zStep = (lineR s).1 ∧ false = (lineR s).2 := by
  unfold lineR
  rw [H]
  exact ⟨rfl, rfl⟩
theorem linI_0 {st : Step} (hw : (splitOn 32 s)[(0 : Int).toNat]? = some w) (H : cmdI w = some k.toNat) (hst : st = initS k.toNat) (hF : F = cmdF k.toNat) : linI s F 0 1 st true := by
  unfold linI lineR
  rw [(head_of hw).1, H, if_pos rfl, hst, hF, (head_of hw).2]
  rfl
theorem drop_atI {α : Type} {l : List α} {i : Int} {x : α} (h : l[i.toNat]? = some x) (h0 : 0 ≤ i) : l.drop i.toNat = x :: l.drop (i + 1).toNat := by
  obtain ⟨hl, rfl⟩ := List.getElem?_eq_some_iff.1 h
  have : (i + 1).toNat = i.toNat + 1 := by omega
  rw [this]
  exact List.drop_eq_getElem_cons hl
theorem linI_end (H : linI s F i at_ st ok) (h : ¬ (i < F.length ∧ ok = true)) (h1 : 0 ≤ at_) (ha : at_ ≤ (splitOn 32 s).length) : st = (lineR s).1 ∧ (ok && at_ == ((splitOn 32 s).length : Int)) = (lineR s).2 := by
  unfold linI at H
  cases ok with
  | false => rw [H]; exact ⟨rfl, rfl⟩
  | true =>
    rw [if_pos rfl, List.drop_of_length_le (by simp at h; omega)] at H
    rw [H]
    refine ⟨rfl, ?_⟩
    show (true && _) = ((splitOn 32 s).drop at_.toNat).isEmpty
    rw [Bool.eq_iff_iff, List.isEmpty_iff, List.drop_eq_nil_iff]
    simp
    omega
theorem linI_nil (H : linI s F i at_ st ok) (hok : ok = true) (h0 : 0 ≤ i) (hc : F[i.toNat]? = some c) (h : ¬ (c.toNat : Int) = 42) (ha : at_ ≥ ((splitOn 32 s).length : Int)) : zStep = (lineR s).1 ∧ false = (lineR s).2 := by
  unfold linI at H
  rw [if_pos hok, drop_atI hc h0, List.drop_of_length_le (l := splitOn 32 s) (by omega), fillR_cons, if_neg (by intro hh; subst hh; exact h rfl)] at H
  rw [H]
  exact ⟨rfl, rfl⟩
theorem linI_set (H : linI s F i at_ st ok) (hok : ok = true) (h0 : 0 ≤ i) (h1 : 0 ≤ at_) (hc : F[i.toNat]? = some c) (h : ¬ (c.toNat : Int) = 42) (hw : (splitOn 32 s)[at_.toNat]? = some w) {st' : Step} {ok' : Bool} (e : setW c st w = (st', ok')) :
    linI s F (i + 1) (at_ + 1) st' ok' := by
  unfold linI at *
  rw [H, if_pos hok, drop_atI hc h0, drop_atI hw h1, fillR_cons, if_neg (by intro hh; subst hh; exact h rfl)]
  show (if (setW c st w).2 then _ else _) = _
  rw [e]
  cases ok' <;> rfl
theorem u8eq {c d : UInt8} : (c.toNat : Int) = (d.toNat : Int) ↔ c = d := ⟨fun h => UInt8.toNat_inj.1 (by omega), fun h => by rw [h]⟩
theorem u8ne {c d : UInt8} (h : ¬ (c.toNat : Int) = (d.toNat : Int)) : ¬ c = d := fun e => h (by rw [e])
theorem set_r (h : (c.toNat : Int) = 114) : setW c st w = (⟨st.Kind, st.Role, st.K, st.Power, ⟨(roleW w).getD 0, st.Node.N⟩, st.Data, st.Keeps⟩, (roleW w).isSome) := by
  obtain rfl := (u8eq (d := 114)).1 h
  rfl
theorem set_n (h : (c.toNat : Int) = 110) : setW c st w = (⟨st.Kind, st.Role, st.K, st.Power, ⟨st.Node.Role, (numW w).getD 0⟩, st.Data, st.Keeps⟩, (numW w).isSome) := by
  obtain rfl := (u8eq (d := 110)).1 h
  rfl
theorem set_t (h : (c.toNat : Int) = 116) : setW c st w = (⟨st.Kind, (roleW w).getD 0, st.K, st.Power, st.Node, st.Data, st.Keeps⟩, (roleW w).isSome) := by
  obtain rfl := (u8eq (d := 116)).1 h
  rfl
theorem set_k (h : (c.toNat : Int) = 107) : setW c st w = (⟨st.Kind, st.Role, (numW w).getD 0, st.Power, st.Node, st.Data, st.Keeps⟩, (numW w).isSome) := by
  obtain rfl := (u8eq (d := 107)).1 h
  rfl
theorem set_p (h : (c.toNat : Int) = 112) : setW c st w = (⟨st.Kind, st.Role, st.K, (numW w).getD 0, st.Node, st.Data, st.Keeps⟩, (numW w).isSome) := by
  obtain rfl := (u8eq (d := 112)).1 h
  rfl
theorem set_h (h : (c.toNat : Int) = 104) : setW c st w = (⟨st.Kind, st.Role, st.K, st.Power, st.Node, (unhexW w).getD [], st.Keeps⟩, (unhexW w).isSome) := by
  obtain rfl := (u8eq (d := 104)).1 h
  rfl
theorem set_o (h1 : ¬ (c.toNat : Int) = 114) (h2 : ¬ (c.toNat : Int) = 110) (h3 : ¬ (c.toNat : Int) = 116) (h4 : ¬ (c.toNat : Int) = 107) (h5 : ¬ (c.toNat : Int) = 112) (h6 : ¬ (c.toNat : Int) = 104) : setW c st w = (st, true) := by
  unfold setW
  rw [if_neg (u8ne (d := 114) h1), if_neg (u8ne (d := 110) h2), if_neg (u8ne (d := 116) h3), if_neg (u8ne (d := 107) h4), if_neg (u8ne (d := 112) h5), if_neg (u8ne (d := 104) h6)]
theorem kepI_0 (H : linI s F i at_ st ok) (h0 : 0 ≤ i) (hc : F[i.toNat]? = some c) (h : (c.toNat : Int) = 42) : kepI s F i at_ st ok := by
  obtain rfl := (u8eq (d := 42)).1 h
  unfold linI at H
  unfold kepI
  rw [H, drop_atI hc h0, fillR_cons, if_pos rfl]
theorem kepI_step (H : kepI s F i at_ st ok) (hok : ok = true) (h1 : 0 ≤ at_) (hw : (splitOn 32 s)[at_.toNat]? = some w) : kepI s F i (at_ + 1) (addK st ((numW w).getD 0)) (numW w).isSome := by
  unfold kepI at *
  rw [H, if_pos hok, drop_atI hw h1, keepsR]
  cases hn : (numW w).isSome <;> simp [hn]
theorem kepI_end (H : kepI s F i at_ st ok) (h : ¬ (at_ < ((splitOn 32 s).length : Int) ∧ ok = true)) (h1 : 0 ≤ at_) : linI s F (i + 1) at_ st ok := by
  unfold kepI at H
  unfold linI
  cases ok with
  | false => exact H
  | true =>
    have e : (splitOn 32 s).drop at_.toNat = [] := List.drop_of_length_le (by simp at h; omega)
    rw [if_pos rfl, e] at H
    rw [if_pos rfl, e, H]
    rfl
end
def roleS (r : Int) : List UInt8 := if r > 0 ∧ r < 5 then rolesL.getD r.toNat [] else []
def wordW (st : Step) (c : UInt8) : List UInt8 :=
  if c = 114 then roleS st.Node.Role else if c = 110 then Lib.itoa st.Node.N else if c = 116 then roleS st.Role else if c = 107 then Lib.itoa st.K else if c = 112 then Lib.itoa st.Power else hexW st.Data
def isW (c : UInt8) : Prop := c = 114 ∨ c = 110 ∨ c = 116 ∨ c = 107 ∨ c = 112 ∨ c = 104
instance (c : UInt8) : Decidable (isW c) := by unfold isW; infer_instance
def bitW (st : Step) (c : UInt8) : List UInt8 := if isW c then 32 :: wordW st c else st.Keeps.flatMap fun k => 32 :: Lib.itoa k
def textW (st : Step) : List UInt8 := if st.Kind < 1 ∨ st.Kind > 9 then [] else cmdK (st.Kind - 1).toNat ++ (cmdF (st.Kind - 1).toNat).flatMap (bitW st)
def stOk (st : Step) : Prop := (-9223372036854775808 ≤ st.Kind ∧ st.Kind ≤ 9223372036854775807) ∧ (-9223372036854775808 ≤ st.Role ∧ st.Role ≤ 9223372036854775807) ∧ (-9223372036854775808 ≤ st.K ∧ st.K ≤ 9223372036854775807) ∧
  (-9223372036854775808 ≤ st.Power ∧ st.Power ≤ 9223372036854775807) ∧ (-9223372036854775808 ≤ st.Node.Role ∧ st.Node.Role ≤ 9223372036854775807) ∧ (-9223372036854775808 ≤ st.Node.N ∧ st.Node.N ≤ 9223372036854775807) ∧
  st.Data.length ≤ 100000 ∧ st.Keeps.length ≤ 100000 ∧ ∀ k ∈ st.Keeps, -9223372036854775808 ≤ k ∧ k ≤ 9223372036854775807
def textI (st : Step) (out : List UInt8) (i : Int) : Prop := out = cmdK (st.Kind - 1).toNat ++ ((cmdF (st.Kind - 1).toNat).take i.toNat).flatMap (bitW st)
section
variable {st : Step} {out w F : List UInt8} {i k v : Int} {c : UInt8}
theorem itoa_len20 (h0 : -9223372036854775808 ≤ v) (h1 : v ≤ 9223372036854775807) : (Lib.itoa v).length ≤ 20 := by
  have h := decDigits_len 18 v.natAbs (by rw [show (10 : Nat) ^ (18 + 1) = 10000000000000000000 from rfl]; omega)
  have h' := decDigits_len 18 v.toNat (by rw [show (10 : Nat) ^ (18 + 1) = 10000000000000000000 from rfl]; omega)
  unfold Lib.itoa
  split
  · rw [List.length_cons]; omega
  · omega
theorem roleS_len (r : Int) : (roleS r).length ≤ 7 := by
  unfold roleS
  split
  · rename_i h
    rcases (by omega : r = 1 ∨ r = 2 ∨ r = 3 ∨ r = 4) with rfl | rfl | rfl | rfl <;> decide
  · simp
theorem hexW_len (b : List UInt8) : (hexW b).length ≤ 2 * b.length + 1 := by
  unfold hexW
  split
  · simp
  · have : ∀ l : List UInt8, (l.flatMap fun c => [hexC (c.toNat / 16), hexC (c.toNat % 16)]).length = 2 * l.length := by
      intro l
      induction l with
      | nil => rfl
      | cons a l ih => rw [List.flatMap_cons, List.length_append, ih, List.length_cons]; simp; omega
    rw [this]; omega
theorem cmdF_eq (k : Int) : formsL.getD (0 + (k : Int).toNat * 2 + 1) [] = cmdF k.toNat := by unfold cmdF; rw [show 0 + k.toNat * 2 + 1 = 2 * k.toNat + 1 by omega]
theorem cmdK_eq (k : Int) : formsL.getD (0 + (k : Int).toNat * 2) [] = cmdK k.toNat := by unfold cmdK; rw [show 0 + k.toNat * 2 = 2 * k.toNat by omega]
theorem cmdF_len (h : 0 ≤ k ∧ k < 9) : (formsL.getD (0 + (k : Int).toNat * 2 + 1) []).length ≤ 6 := by
  rcases (by omega : k = 0 ∨ k = 1 ∨ k = 2 ∨ k = 3 ∨ k = 4 ∨ k = 5 ∨ k = 6 ∨ k = 7 ∨ k = 8) with rfl | rfl | rfl | rfl | rfl | rfl | rfl | rfl | rfl <;> decide
theorem cmdK_len (h : 0 ≤ k ∧ k < 9) : (formsL.getD (0 + (k : Int).toNat * 2) []).length ≤ 7 := by
  rcases (by omega : k = 0 ∨ k = 1 ∨ k = 2 ∨ k = 3 ∨ k = 4 ∨ k = 5 ∨ k = 6 ∨ k = 7 ∨ k = 8) with rfl | rfl | rfl | rfl | rfl | rfl | rfl | rfl | rfl <;> decide
theorem text_0 (h : st.Kind < 1 ∨ st.Kind > 9) : [] = textW st := by unfold textW; rw [if_pos h]
theorem textI_0 (st : Step) : textI st (formsL.getD (0 + (st.Kind - 1 : Int).toNat * 2) []) 0 := by unfold textI; rw [cmdK_eq]; simp
theorem textI_end (H : textI st out i) (h1 : ¬ st.Kind < 1) (h9 : ¬ st.Kind > 9) (h : ¬ i < ((formsL.getD (0 + (st.Kind - 1 : Int).toNat * 2 + 1) []).length : Int)) : out = textW st := by
  rw [cmdF_eq] at h
  unfold textI at H
  unfold textW
  rw [if_neg (by omega), H, List.take_of_length_le (by omega)]
theorem textI_step (H : textI st out i) (h0 : 0 ≤ i) (hc : (formsL.getD (0 + (st.Kind - 1 : Int).toNat * 2 + 1) [])[i.toNat]? = some c) {x : List UInt8} (hx : x = bitW st c) : textI st (out ++ x) (i + 1) := by
  rw [cmdF_eq] at hc
  unfold textI at *
  rw [H, toNat_succ h0, take_at hc, List.flatMap_append, hx]
  simp
def bitI (st : Step) (i : Int) (w : List UInt8) : Prop := ∃ c, (formsL.getD (0 + (st.Kind - 1 : Int).toNat * 2 + 1) [])[i.toNat]? = some c ∧ isW c ∧ w = wordW st c
theorem textI_w (H : textI st out i) (h0 : 0 ≤ i) (hw : bitI st i w) : textI st (out ++ ([32] ++ w)) (i + 1) := by
  obtain ⟨c, hc, h1, rfl⟩ := hw
  exact textI_step H h0 hc (by unfold bitW; rw [if_pos h1]; rfl)
def keepI (st : Step) (i k : Int) (out : List UInt8) : Prop := ∃ o, textI st o i ∧ out = o ++ (st.Keeps.take k.toNat).flatMap fun k => 32 :: Lib.itoa k
theorem keepI_0 (H : textI st out i) : keepI st i 0 out := ⟨out, H, by simp⟩
theorem keepI_step (H : keepI st i k out) (h0 : 0 ≤ k) (hv : st.Keeps[k.toNat]? = some v) : keepI st i (k + 1) (out ++ ([32] ++ Lib.itoa v)) := by
  obtain ⟨o, H, rfl⟩ := H
  refine ⟨o, H, ?_⟩
  rw [toNat_succ h0, take_at hv, List.flatMap_append]
  simp
theorem keepI_end (H : keepI st i k out) (h0 : 0 ≤ i) (hc : (formsL.getD (0 + (st.Kind - 1 : Int).toNat * 2 + 1) [])[i.toNat]? = some c) (hn : ¬ isW c) (h : ¬ k < (st.Keeps.length : Int)) : textI st out (i + 1) := by
  obtain ⟨o, H, rfl⟩ := H
  refine textI_step H h0 hc ?_
  unfold bitW
  rw [if_neg hn, List.take_of_length_le (by omega)]
theorem not_isW (h1 : ¬ (c.toNat : Int) = 114) (h2 : ¬ (c.toNat : Int) = 110) (h3 : ¬ (c.toNat : Int) = 116) (h4 : ¬ (c.toNat : Int) = 107) (h5 : ¬ (c.toNat : Int) = 112) (h6 : ¬ (c.toNat : Int) = 104) : ¬ isW c := by
  rintro (rfl | rfl | rfl | rfl | rfl | rfl)
  · exact h1 rfl
  · exact h2 rfl
  · exact h3 rfl
  · exact h4 rfl
  · exact h5 rfl
  · exact h6 rfl
variable (hc : (formsL.getD (0 + (st.Kind - 1 : Int).toNat * 2 + 1) [])[i.toNat]? = some c)
include hc
theorem bit_r (h : (c.toNat : Int) = 114) (h1 : st.Node.Role > 0) (h5 : st.Node.Role < 5) : bitI st i (rolesL.getD (0 + (st.Node.Role : Int).toNat * 1) []) := by
  obtain rfl := (u8eq (d := 114)).1 h
  exact ⟨_, hc, .inl rfl, by show _ = roleS st.Node.Role; unfold roleS; rw [if_pos ⟨h1, h5⟩, show 0 + st.Node.Role.toNat * 1 = st.Node.Role.toNat by omega]⟩
theorem bit_r0 (h : (c.toNat : Int) = 114) (h1 : ¬ (st.Node.Role > 0 ∧ st.Node.Role < 5)) : bitI st i [] := by
  obtain rfl := (u8eq (d := 114)).1 h
  exact ⟨_, hc, .inl rfl, by show _ = roleS st.Node.Role; unfold roleS; rw [if_neg h1]⟩
theorem bit_t (h : (c.toNat : Int) = 116) (h1 : st.Role > 0) (h5 : st.Role < 5) : bitI st i (rolesL.getD (0 + (st.Role : Int).toNat * 1) []) := by
  obtain rfl := (u8eq (d := 116)).1 h
  exact ⟨_, hc, .inr (.inr (.inl rfl)), by show _ = roleS st.Role; unfold roleS; rw [if_pos ⟨h1, h5⟩, show 0 + st.Role.toNat * 1 = st.Role.toNat by omega]⟩
theorem bit_t0 (h : (c.toNat : Int) = 116) (h1 : ¬ (st.Role > 0 ∧ st.Role < 5)) : bitI st i [] := by
  obtain rfl := (u8eq (d := 116)).1 h
  exact ⟨_, hc, .inr (.inr (.inl rfl)), by show _ = roleS st.Role; unfold roleS; rw [if_neg h1]⟩
theorem bit_n (h : (c.toNat : Int) = 110) : bitI st i (Lib.itoa st.Node.N) := by
  obtain rfl := (u8eq (d := 110)).1 h
  exact ⟨_, hc, .inr (.inl rfl), rfl⟩
theorem bit_k (h : (c.toNat : Int) = 107) : bitI st i (Lib.itoa st.K) := by
  obtain rfl := (u8eq (d := 107)).1 h
  exact ⟨_, hc, .inr (.inr (.inr (.inl rfl))), rfl⟩
theorem bit_p (h : (c.toNat : Int) = 112) : bitI st i (Lib.itoa st.Power) := by
  obtain rfl := (u8eq (d := 112)).1 h
  exact ⟨_, hc, .inr (.inr (.inr (.inr (.inl rfl)))), rfl⟩
theorem bit_h (h : (c.toNat : Int) = 104) : bitI st i (hexW st.Data) := by
  obtain rfl := (u8eq (d := 104)).1 h
  exact ⟨_, hc, .inr (.inr (.inr (.inr (.inr rfl)))), rfl⟩
end
theorem split_el {s w : List UInt8} {i : Nat} (h : (splitOn 32 s)[i]? = some w) : w.length ≤ s.length := by
  have hm := List.mem_of_getElem? h
  clear h
  revert w
  induction s with
  | nil => intro w hw; simp [splitOn] at hw; subst hw; simp
  | cons a s ih =>
    intro w hw
    unfold splitOn at hw
    split at hw
    · rcases List.mem_cons.1 hw with rfl | hw
      · simp
      · have := ih hw; simp; omega
    · split at hw
      · rename_i x y hxy
        rcases List.mem_cons.1 hw with rfl | hw
        · have := ih (w := x) (by rw [hxy]; simp); simp; omega
        · have := ih (w := w) (by rw [hxy]; simp [hw]); simp; omega
      · rename_i hx; exact absurd hx (splitOn_ne _ _)
theorem split_len (s : List UInt8) : (splitOn 32 s).length ≤ s.length + 1 := by
  induction s with
  | nil => simp [splitOn]
  | cons a s ih =>
    unfold splitOn
    split
    · simp; omega
    · split
      · rename_i x y hxy; rw [hxy] at ih; simp at ih ⊢; omega
      · rename_i hx; exact absurd hx (splitOn_ne _ _)
theorem initS_a {k : Int} (h0 : 0 ≤ k) (h : k + 1 = 1) : (⟨k + 1, 0, 0, 0, ⟨4, 0⟩, [], []⟩ : Step) = initS k.toNat := by
  obtain rfl : k = 0 := by omega
  rfl
theorem initS_b {k : Int} (h0 : 0 ≤ k) (h : k + 1 = 8) : (⟨k + 1, 0, 0, 0, ⟨2, 0⟩, [], []⟩ : Step) = initS k.toNat := by
  obtain rfl : k = 7 := by omega
  rfl
theorem initS_c {k : Int} (h0 : 0 ≤ k) (h : ¬ k + 1 = 1) (h' : ¬ k + 1 = 8) : (⟨k + 1, 0, 0, 0, ⟨0, 0⟩, [], []⟩ : Step) = initS k.toNat := by
  unfold initS
  rw [if_neg (by omega), if_neg (by omega)]
  congr 1
  omega
end Go.Proofs.YtmjebehhpojihaaGreatDoor.Sw
namespace Go.Proofs.YtmjebehhpojihaaGreatDoor.Sw
set_option linter.unusedVariables false
set_option linter.unusedSimpArgs false
set_option linter.deprecated false
open Go
def arrI (P : Program) (T : TypeId) : Option (Nat × TypeId × Nat) :=
  match P.underlying T with
  | some (.array len E) => match P.info? E with
    | some i => some (len, E, i.size)
    | none => none
  | _ => none
section
variable {C : Ctx} {ds : List Deferred} {i j : Nat} {r : Heap} {M : Nat → Prop} {Ls : List (Nat × Bool)} {e : Env} {h : Heap}
theorem Op.idxA {dst : Nat} {T E : TypeId} {len sz : Nat} {x ix : Operand} {bk o : Nat} {k : IntKind} {m : Int} {b : Bool} (ho : nextDO C i j e = some (some dst, .indexAddr T x ix)) (hE : arrI C.P T = some (len, E, sz))
    (hx : e.ev x = .pointer (some ⟨bk, o, none⟩)) (hix : e.ev ix = .int k m) (h0 : 0 ≤ m) (h1 : m < len)
    (K : Op C ds i r M Ls ((dst, .pointer (some ⟨bk, o + m.toNat * sz, none⟩)) :: e) h) : Op C ds i r M ((j, b) :: Ls) e h := by
  unfold arrI at hE
  split at hE
  · rename_i len' E' hu
    split at hE
    · rename_i inf hi
      simp only [Option.some.injEq, Prod.mk.injEq] at hE
      obtain ⟨rfl, rfl, rfl⟩ := hE
      refine Op.free ho (fun o' ho w => ?_) K
      simp only [execOp, ho, Instr.indexAt, hx, hix, asIntOf, Instr.sureAddr, Sem.run_bind, Sem.run_pure, Result.andThen_ok, run_underlying hu, h0, h1, and_self, if_true, sizeOf, typeInfo, run_program, hi, add_flat]
    · cases hE
  · cases hE
end
theorem cellsS (L : List (List UInt8)) {o : Nat} (h : o < L.length) : ((L.map fun s => Value.string (mkS s)).toArray)[o]? = some (.string (mkS (L.getD o []))) := by
  rw [List.getElem?_toArray, List.getElem?_map, List.getD_eq_getElem?_getD, List.getElem?_eq_getElem h]
  rfl
end Go.Proofs.YtmjebehhpojihaaGreatDoor.Sw
