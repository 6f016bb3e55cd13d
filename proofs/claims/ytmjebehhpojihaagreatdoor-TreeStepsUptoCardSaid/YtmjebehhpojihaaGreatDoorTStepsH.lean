/- Lemmas for a law of this seat: what the functions compute, and plain facts of it. Own text. -/
import Derived.Test.YtmjebehhpojihaaGreatDoorTStepsG
import Derived.Lib.Overlaps
namespace Go.Proofs.YtmjebehhpojihaaGreatDoor.Sw
set_option linter.unusedVariables false
set_option linter.unusedSimpArgs false
set_option linter.deprecated false
open Go
theorem gadd_mem {g : GH} {p : Nat × Obj} : ∀ {c : Chunk}, (c.map (·.1)).Nodup → p ∈ c → gadd g c p.1 = some p.2
  | [], _, h => by cases h
  | q :: c, hn, h => by
    unfold gadd
    rw [List.find?_cons]
    by_cases hq : q.1 = p.1
    · have : Nat.beq q.1 p.1 = true := by rw [hq]; simp
      simp only [this]
      rcases List.mem_cons.1 h with rfl | h
      · rfl
      · rw [List.map_cons, List.nodup_cons] at hn
        exact absurd (List.mem_map.2 ⟨p, h, hq.symm⟩) hn.1
    · have : Nat.beq q.1 p.1 = false := beqF hq
      simp only [this]
      rcases List.mem_cons.1 h with rfl | h
      · exact absurd rfl hq
      · rw [List.map_cons, List.nodup_cons] at hn
        exact gadd_mem hn.2 h
section
variable {h0 : Heap} {g0 : GH} {S0 : Nat → Prop} {g : GH} {L L' : List Chunk} {c : Chunk} {h h' : Heap}
theorem St.keys (s : St h0 g0 S0 g (c :: L) h) : (c.map (·.1)).Nodup := by
  have := s.nodup
  rw [List.flatten_cons, List.map_append, List.nodup_append] at this
  exact this.1
theorem St.frzle (s : St h0 g0 S0 g (c :: L) h) : gle g (gadd g c) := s.freeze.2
theorem St.frzsub (s : St h0 g0 S0 g (c :: L) h) : Sub (gadd g c) h := s.freeze.1.sub
theorem Row.frz {α : Type} {T : TypeId} {d : Kd α} {v : Value} {xs : List α} (hr : Row T d g v xs c) (s : St h0 g0 S0 g (c :: L) h) : SlR (gadd g c) T d v xs := by
  rcases hr.old with ⟨ao, rfl, rfl, _⟩ | ⟨b, o, cap, cur, rfl, rfl, h1, h2, h3, h4⟩
  · exact SlR.empty _ _ _ _ _
  · exact ⟨_, cap, rfl, h1, fun _ => ⟨b, o, cur, (T, 0, 0), rfl, gadd_one _ _, h4.mono s.frzle⟩⟩
theorem Row.frzIn {α : Type} {T : TypeId} {d : Kd α} {v : Value} {xs : List α} {c' : Chunk} (hr : Row T d g v xs c') (s : St h0 g0 S0 g (c :: L) h) (hc : ∀ p ∈ c', p ∈ c) : SlR (gadd g c) T d v xs := by
  rcases hr.old with ⟨ao, rfl, rfl, _⟩ | ⟨b, o, cap, cur, rfl, rfl, h1, h2, h3, h4⟩
  · exact SlR.empty _ _ _ _ _
  · exact ⟨_, cap, rfl, h1, fun _ => ⟨b, o, cur, (T, 0, 0), rfl, gadd_mem s.keys (hc _ (List.mem_singleton.2 rfl)), h4.mono s.frzle⟩⟩
theorem St.thaw (s : St h0 g0 S0 g (c :: L) h) (t : St h0 g0 S0 (gadd g c) L' h') : St h0 g0 S0 g (c :: L') h' := by
  have hc : ∀ p ∈ c, p ∈ (c :: L).flatten := fun p hp => by simp [List.flatten_cons, hp]
  have hk := s.keys
  have hle := s.frzle
  refine ⟨t.size, t.frame, s.le, s.new, fun b o hb => t.sub b o (hle b o hb), ?_, ?_, ?_, ?_⟩
  · intro p hp
    rw [List.flatten_cons, List.mem_append] at hp
    rcases hp with hp | hp
    · exact t.sub _ _ (gadd_mem hk hp)
    · exact t.has p hp
  · rw [List.flatten_cons, List.map_append, List.nodup_append]
    refine ⟨hk, t.nodup, ?_⟩
    intro x hx y hy he
    obtain ⟨p, hp, rfl⟩ := List.mem_map.1 hx
    obtain ⟨q, hq, rfl⟩ := List.mem_map.1 hy
    have h1 := gadd_mem (g := g) hk hp
    have h2 := t.sep q hq
    rw [← he, h1] at h2
    cases h2
  · intro p hp
    rw [List.flatten_cons, List.mem_append] at hp
    rcases hp with hp | hp
    · exact s.sep p (hc p hp)
    · cases hg : g p.1 with
      | none => rfl
      | some x => have := hle _ _ hg; rw [t.sep p hp] at this; cases this
  · intro p hp
    rw [List.flatten_cons, List.mem_append] at hp
    rcases hp with hp | hp
    · exact s.own p (hc p hp)
    · exact t.own p hp
theorem St.unfrz (s : St h0 g0 S0 g L h) : St h0 g0 S0 g0 L h :=
  ⟨s.size, s.frame, gle.refl _, fun _ hb => .inl hb, fun b o hb => s.sub b o (s.le b o hb), s.has, s.nodup, fun p hp => (by
    cases hg : g0 p.1 with
    | none => rfl
    | some x => have := s.le _ _ hg; rw [s.sep p hp] at this; cases this), s.own⟩
theorem SlR.at_ {α : Type} {T : TypeId} {d : Kd α} {ao : Option Addr} {n c : Nat} {xs : List α} (hs : SlR g T d (.slice ao n c) xs) (i : Nat) {x : α} (hi : xs[i]? = some x) :
    ∃ (b o : Nat) (cur : Array Value) (fz : TypeId × Nat × Nat), ao = some ⟨b, o, none⟩ ∧ g b = some (.cells cur fz.1 fz.2) ∧ d.K g x (cut cur (o + i * d.sz) d.sz) := by
  obtain ⟨ao', c', e, hc, H⟩ := hs
  simp only [Value.slice.injEq] at e
  obtain ⟨rfl, rfl, rfl⟩ := e
  have hlt : i < xs.length := (List.getElem?_eq_some_iff.1 hi).1
  obtain ⟨b, o, cur, fz, e, hb, hr⟩ := H (by intro hx; subst hx; simp at hlt)
  refine ⟨b, o, cur, fz, e, hb, ?_⟩
  have := hr.at_ i hi
  rwa [cut_cut] at this
  have : (i + 1) * d.sz ≤ xs.length * d.sz := Nat.mul_le_mul_right _ hlt
  rw [Nat.succ_mul] at this
  exact this
def Kd.Flat {α : Type} (d : Kd α) : Prop := ∀ g g' x cs, d.K g x cs → d.K g' x cs
theorem reads_flat {α : Type} {d : Kd α} (hd : d.Flat) {g g' : GH} : ∀ {xs : List α} {cs : List Value}, Reads d g xs cs → Reads d g' xs cs
  | [], _, h => h
  | _ :: _, _, ⟨c, cs', e, hk, h⟩ => ⟨c, cs', e, hd _ _ _ _ hk, reads_flat hd h⟩
theorem Row.flat {α : Type} {T : TypeId} {d : Kd α} (hd : d.Flat) {g g' : GH} {v : Value} {xs : List α} (hr : Row T d g v xs c) : Row T d g' v xs c := by
  rcases hr with h | ⟨b, o, cap, cur, rest, e1, e2, h1, h2, h3, h4⟩
  · exact .inl h
  · exact .inr ⟨b, o, cap, cur, rest, e1, e2, h1, h2, h3, reads_flat hd h4⟩
end
section
variable {C : Ctx} {ds : List Deferred} {i j : Nat} {r : Heap} {M : Nat → Prop} {Ls : List (Nat × Bool)} {e : Env} {h : Heap}
variable {h0 : Heap} {g0 : GH} {S0 : Nat → Prop} {g : GH} {L L' : List Chunk}
theorem Op.lendAny {o : Oper} {f : FuncId} {args : Array Value} {cf : Chunk} {Lc : List Chunk} {Post : Value → GH → List Chunk → Prop} (h1 : nextOp C i j e = some o)
    (hp : ∀ w, (semOf e o).run C.P w = .ok (.enter f args) w)
    (s : St h0 g0 S0 g (cf :: (Lc ++ L)) h) (H : Spec C.P C.B f args h (gadd g cf) Lc Post) (hq : ∀ v g' L', Post v g' L' → g' = gadd g cf) (hM : ∀ b, b < r.size → ids Lc b → M b)
    (K : ∀ v Lc' h', St h0 g0 S0 g (cf :: (Lc' ++ L)) h' → Post v (gadd g cf) Lc' → Op C ds i r M Ls (e.putO o.dst v) h') : Op C ds i r M ((j, false) :: Ls) e h := by
  refine Op.act h1 fun w is hk a ft => ?_
  rw [hp w]
  refine Calls.mono (H w is) fun en w' ⟨v, he, is', g', Lc', t, hpost⟩ => ?_
  obtain rfl := hq _ _ _ hpost
  exact ⟨v, he, ⟨t.keep hM hk, is'⟩, _, ft.putO (nextOp_spec h1).2.2.2.1 v, K v Lc' _ (s.thaw (s.freeze.1.join t)) hpost⟩
theorem Op.lend {dst : Option Tmp} {f : FuncId} {args : Array Value} {cf : Chunk} {Lc : List Chunk} {Post : Value → GH → List Chunk → Prop} (ho : enterOf C i j e = some (dst, f, args))
    (s : St h0 g0 S0 g (cf :: (Lc ++ L)) h) (H : Spec C.P C.B f args h (gadd g cf) Lc Post) (hq : ∀ v g' L', Post v g' L' → g' = gadd g cf) (hM : ∀ b, b < r.size → ids Lc b → M b)
    (K : ∀ v Lc' h', St h0 g0 S0 g (cf :: (Lc' ++ L)) h' → Post v (gadd g cf) Lc' → Op C ds i r M Ls (e.putO dst v) h') : Op C ds i r M ((j, false) :: Ls) e h := by
  obtain ⟨o, h1, rfl, hp⟩ := enterOf_spec ho
  exact Op.lendAny h1 (pureVal_run _ hp) s H hq hM K
end
def PredOk {α : Type} (P : Program) (g : GH) (f : Nat) (cp : Array Value) (enc : α → Value) (ok : α → Prop) (q : α → Bool) : Prop :=
  ∀ (B : World) (h : Heap) (g' : GH), gle g g' → Sub g' h → Glob g' → ∀ x, ok x → Spec P B f (#[enc x] ++ cp) h g' [] (fun v g'' L' => v = .bool (q x) ∧ g'' = g' ∧ L' = [])
theorem PredOk.mono {α : Type} {P : Program} {g g' : GH} {f : Nat} {cp : Array Value} {enc : α → Value} {ok : α → Prop} {q : α → Bool} (H : PredOk P g f cp enc ok q) (hg : gle g g') : PredOk P g' f cp enc ok q :=
  fun B h k hk => H B h k (gle.trans hg hk)
theorem Spec.args {P : Program} {B : World} {f : FuncId} {args args' : Array Value} {h : Heap} {g : GH} {Lc : List Chunk} {Post : Value → GH → List Chunk → Prop} (e : args = args') (H : Spec P B f args h g Lc Post) : Spec P B f args' h g Lc Post := e ▸ H
theorem Row.capLe {α : Type} {T : TypeId} {d : Kd α} {g : GH} {ao : Option Addr} {n c : Nat} {xs : List α} {ch : Chunk} (hs : Row T d g (.slice ao n c) xs ch) : n = xs.length ∧ xs.length ≤ c := by
  rcases hs.old with ⟨_, ee, rfl, _⟩ | ⟨b, o, cap, cur, ee, _, hc, _⟩
  · simp only [Value.slice.injEq] at ee
    exact ⟨ee.2.1, by simp⟩
  · simp only [Value.slice.injEq] at ee
    obtain ⟨_, rfl, rfl⟩ := ee
    exact ⟨rfl, hc⟩
theorem ids_or {c : Chunk} {A : List Chunk} {b : Nat} (hi : ids (c :: A) b) : ids [c] b ∨ ids A b := by
  obtain ⟨p, hp, e⟩ := hi
  rw [List.flatten_cons, List.mem_append] at hp
  rcases hp with hp | hp
  · exact .inl ⟨p, by simpa using hp, e⟩
  · exact .inr ⟨p, hp, e⟩
theorem St.apart {h0 : Heap} {g0 : GH} {S0 : Nat → Prop} {g : GH} {L : List Chunk} {h : Heap} (s : St h0 g0 S0 g L h) (i j : Nat) (hij : Nat.beq i j = false) {b : Nat} {o : Obj} {c : Chunk} (h1 : L[i]? = some [(b, o)]) (h2 : L[j]? = some c) : ¬ ids [c] b := by
  rintro ⟨p, hp, e⟩
  simp only [List.flatten_cons, List.flatten_nil, List.append_nil] at hp
  have hn := s.nodup
  rw [List.Nodup, List.map_flatten, List.pairwise_flatten] at hn
  obtain ⟨hi, e1⟩ := List.getElem?_eq_some_iff.1 h1
  obtain ⟨hj, e2⟩ := List.getElem?_eq_some_iff.1 h2
  have hne : i ≠ j := fun e => by subst e; simp at hij
  have key := List.pairwise_iff_getElem.1 hn.2
  rcases Nat.lt_or_gt_of_ne hne with hl | hl
  · have := key i j (by simpa using hi) (by simpa using hj) hl
    simp only [List.getElem_map, e1, e2] at this
    exact this b (by simp) p.1 (List.mem_map.2 ⟨p, hp, rfl⟩) e.symm
  · have := key j i (by simpa using hj) (by simpa using hi) hl
    simp only [List.getElem_map, e1, e2] at this
    exact this p.1 (List.mem_map.2 ⟨p, hp, rfl⟩) b (by simp) e
section
variable {C : Ctx} {ds : List Deferred} {i j : Nat} {r : Heap} {M : Nat → Prop} {Ls : List (Nat × Bool)} {e : Env} {h : Heap}
end
end Go.Proofs.YtmjebehhpojihaaGreatDoor.Sw
