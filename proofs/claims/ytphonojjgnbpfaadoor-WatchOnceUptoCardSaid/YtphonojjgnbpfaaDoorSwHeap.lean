/- The symbolic walk, part 3: what a heap holds: chunks that are one's own, and a part that nobody turns any more. Own text. -/
import Derived.Test.YtphonojjgnbpfaaDoorSwEnv
namespace Go.Proofs.YtphonojjgnbpfaaDoor.Sw
set_option linter.unusedVariables false
set_option linter.unusedSimpArgs false
set_option linter.deprecated false
open Go

/-! ### 1. Chunks and the part that stays -/
abbrev GH := Nat → Option Obj
abbrev Chunk := List (Nat × Obj)
def Sub (g : GH) (h : Heap) : Prop := ∀ b o, g b = some o → h[b]? = some o
def gle (g g' : GH) : Prop := ∀ b o, g b = some o → g' b = some o
theorem gle.refl (g : GH) : gle g g := fun _ _ h => h
theorem gle.trans {a b c : GH} (h : gle a b) (k : gle b c) : gle a c := fun x o hx => k x o (h x o hx)
theorem Sub.lt {g : GH} {h : Heap} (s : Sub g h) {b : Nat} {o : Obj} (hb : g b = some o) : b < h.size := (Array.getElem?_eq_some_iff.1 (s b o hb)).1
def ids (L : List Chunk) (b : Nat) : Prop := ∃ p ∈ L.flatten, p.1 = b

/-- From the heap h0 (of whose blocks S0 may have been turned) the walk has come to h; g is what stays; L is what is one's own now. -/
structure St (h0 : Heap) (g0 : GH) (S0 : Nat → Prop) (g : GH) (L : List Chunk) (h : Heap) : Prop where
  size : h0.size ≤ h.size
  frame : ∀ b, b < h0.size → ¬ S0 b → h[b]? = h0[b]?
  le : gle g0 g
  new : ∀ b, g b ≠ none → g0 b ≠ none ∨ h0.size ≤ b ∨ S0 b
  sub : Sub g h
  has : ∀ p ∈ L.flatten, h[p.1]? = some p.2
  nodup : (L.flatten.map (·.1)).Nodup
  sep : ∀ p ∈ L.flatten, g p.1 = none
  own : ∀ p ∈ L.flatten, h0.size ≤ p.1 ∨ S0 p.1

section
variable {h0 : Heap} {g0 : GH} {S0 : Nat → Prop} {g : GH} {L L' : List Chunk} {c : Chunk} {h : Heap}

theorem St.init {g : GH} {h : Heap} (s : Sub g h) : St h g (ids []) g [] h :=
  ⟨Nat.le_refl _, fun _ _ _ => rfl, gle.refl _, fun _ hb => .inl hb, s, fun _ hp => by simp at hp, by simp, fun _ hp => by simp at hp, fun _ hp => by simp at hp⟩
theorem St.perm (hp : L.Perm L') (s : St h0 g0 S0 g L h) : St h0 g0 S0 g L' h :=
  have hf := hp.flatten
  ⟨s.size, s.frame, s.le, s.new, s.sub, fun p hm => s.has p (hf.mem_iff.2 hm), (hf.map _).nodup_iff.1 s.nodup, fun p hm => s.sep p (hf.mem_iff.2 hm), fun p hm => s.own p (hf.mem_iff.2 hm)⟩
theorem St.flat (hf : L.flatten = L'.flatten) (s : St h0 g0 S0 g L h) : St h0 g0 S0 g L' h :=
  ⟨s.size, s.frame, s.le, s.new, s.sub, fun p hm => s.has p (hf ▸ hm), hf ▸ s.nodup, fun p hm => s.sep p (hf ▸ hm), fun p hm => s.own p (hf ▸ hm)⟩
theorem St.lt {p : Nat × Obj} (s : St h0 g0 S0 g L h) (hp : p ∈ L.flatten) : p.1 < h.size := (Array.getElem?_eq_some_iff.1 (s.has p hp)).1
theorem St.drop (s : St h0 g0 S0 g (c :: L) h) : St h0 g0 S0 g L h := by
  refine ⟨s.size, s.frame, s.le, s.new, s.sub, fun p hp => s.has p ?_, ?_, fun p hp => s.sep p ?_, fun p hp => s.own p ?_⟩
  · simp [List.flatten_cons]; exact .inr (by simpa using hp)
  · have := s.nodup
    rw [List.flatten_cons, List.map_append, List.nodup_append] at this
    exact this.2.1
  · simp [List.flatten_cons]; exact .inr (by simpa using hp)
  · simp [List.flatten_cons]; exact .inr (by simpa using hp)
theorem St.clear (s : St h0 g0 S0 g L h) : St h0 g0 S0 g [] h :=
  ⟨s.size, s.frame, s.le, s.new, s.sub, fun _ hp => by simp at hp, by simp, fun _ hp => by simp at hp, fun _ hp => by simp at hp⟩

/-- A new block. -/
theorem St.alloc (s : St h0 g0 S0 g L h) (o : Obj) : St h0 g0 S0 g ([(h.size, o)] :: L) (h.push o) := by
  have old : ∀ b, b < h.size → (h.push o)[b]? = h[b]? := fun b hb => by rw [Array.getElem?_push, if_neg (by omega)]
  refine ⟨by have := s.size; simp; omega, fun b hb hs => (old b (Nat.lt_of_lt_of_le hb s.size)).trans (s.frame b hb hs), s.le, s.new,
    fun b x hb => (old b (s.sub.lt hb)).trans (s.sub b x hb), ?_, ?_, ?_, ?_⟩
  · intro p hp
    rw [List.flatten_cons, List.mem_append] at hp
    rcases hp with hp | hp
    · simp at hp; subst hp; simp
    · rw [old _ (s.lt hp)]; exact s.has p hp
  · rw [List.flatten_cons, List.map_append, List.nodup_append]
    refine ⟨by simp, s.nodup, ?_⟩
    intro x hx y hy
    simp only [List.map_cons, List.map_nil, List.mem_singleton] at hx
    obtain ⟨p, hp, rfl⟩ := List.mem_map.1 hy
    have := s.lt hp
    omega
  · intro p hp
    rw [List.flatten_cons, List.mem_append] at hp
    rcases hp with hp | hp
    · simp at hp; subst hp
      cases hg : g h.size with
      | none => rfl
      | some x => exact absurd (s.sub.lt hg) (by omega)
    · exact s.sep p hp
  · intro p hp
    rw [List.flatten_cons, List.mem_append] at hp
    rcases hp with hp | hp
    · simp at hp; subst hp; exact .inl s.size
    · exact s.own p hp

/-- One block is turned. -/
structure Upd (h : Heap) (b : Nat) (o : Obj) (h' : Heap) : Prop where
  size : h'.size = h.size
  at_ : h'[b]? = some o
  other : ∀ k, k ≠ b → h'[k]? = h[k]?
theorem Upd.refl {h : Heap} {b : Nat} {o : Obj} (hb : h[b]? = some o) : Upd h b o h := ⟨rfl, hb, fun _ _ => rfl⟩
theorem Upd.trans {h h' h'' : Heap} {b : Nat} {o o' : Obj} (u : Upd h b o h') (v : Upd h' b o' h'') : Upd h b o' h'' :=
  ⟨v.size.trans u.size, v.at_, fun k hk => (v.other k hk).trans (u.other k hk)⟩
theorem Upd.modify {h : Heap} {b : Nat} {o : Obj} (f : Obj → Obj) (hb : h[b]? = some o) : Upd h b (f o) (h.modify b f) :=
  ⟨by simp, by rw [Array.getElem?_modify, if_pos rfl, hb]; rfl, fun k hk => by rw [Array.getElem?_modify, if_neg (fun e => hk e.symm)]⟩
theorem Upd.set {h : Heap} {b : Nat} {o : Obj} (o' : Obj) (hb : h[b]? = some o) : Upd h b o' (h.setIfInBounds b o') := by
  have hlt := (Array.getElem?_eq_some_iff.1 hb).1
  exact ⟨by simp, by simp [hlt], fun k hk => by rw [Array.getElem?_setIfInBounds_ne (fun e => hk e.symm)]⟩
theorem Upd.keep {h h' : Heap} {b : Nat} {o : Obj} (u : Upd h b o h') {r : Heap} {M : Nat → Prop} (hM : b < r.size → M b) (k : Keep r M h) : Keep r M h' :=
  ⟨by rw [u.size]; exact k.size, fun x hx hm => (u.other x fun e => hm (e ▸ hM (e ▸ hx))).trans (k.same x hx hm)⟩
theorem St.upd {b : Nat} {o o' : Obj} {h' : Heap} (s : St h0 g0 S0 g ([(b, o)] :: L) h) (u : Upd h b o' h') : St h0 g0 S0 g ([(b, o')] :: L) h' := by
  have hmem : ((b, o) : Nat × Obj) ∈ ([(b, o)] :: L).flatten := by simp
  have hnot : ∀ p ∈ L.flatten, p.1 ≠ b := by
    have := s.nodup
    rw [List.flatten_cons, List.map_append, List.nodup_append] at this
    intro p hp he
    exact this.2.2 b (by simp) p.1 (List.mem_map.2 ⟨p, hp, rfl⟩) he.symm
  refine ⟨by rw [u.size]; exact s.size, ?_, s.le, s.new, ?_, ?_, by simpa [List.flatten_cons] using s.nodup, ?_, ?_⟩
  · intro x hx hs
    rcases s.own _ hmem with h1 | h1
    · rw [u.other x (by have h2 : h0.size ≤ b := h1; omega)]; exact s.frame x hx hs
    · rw [u.other x (fun e => hs (e ▸ h1))]; exact s.frame x hx hs
  · intro x y hx
    have hne : x ≠ b := fun e => by have := s.sep _ hmem; simp only at this; rw [e, this] at hx; cases hx
    rw [u.other x hne]; exact s.sub x y hx
  · intro p hp
    rw [List.flatten_cons, List.mem_append] at hp
    rcases hp with hp | hp
    · simp at hp; subst hp; exact u.at_
    · rw [u.other _ (hnot p hp)]; exact s.has p (by simp [List.flatten_cons]; exact .inr (by simpa using hp))
  · intro p hp
    rw [List.flatten_cons, List.mem_append] at hp
    rcases hp with hp | hp
    · simp at hp; subst hp; exact s.sep (b, o) hmem
    · exact s.sep p (by simp [List.flatten_cons]; exact .inr (by simpa using hp))
  · intro p hp
    rw [List.flatten_cons, List.mem_append] at hp
    rcases hp with hp | hp
    · simp at hp; subst hp; exact s.own (b, o) hmem
    · exact s.own p (by simp [List.flatten_cons]; exact .inr (by simpa using hp))

/-- What is one's own is turned no more from here on. -/
def gadd (g : GH) (c : Chunk) : GH := fun b => match c.find? (fun p => Nat.beq p.1 b) with
  | some p => some p.2
  | none => g b
theorem gadd_old {c : Chunk} (hs : ∀ p ∈ c, g p.1 = none) : gle g (gadd g c) := by
  intro b o hb
  unfold gadd
  split
  · rename_i p hp
    have h1 := List.mem_of_find?_eq_some hp
    have h2 := List.find?_some hp
    have : p.1 = b := Nat.eq_of_beq_eq_true h2
    have h3 := hs p h1
    rw [this, hb] at h3
    cases h3
  · exact hb
theorem gadd_none {c : Chunk} {b : Nat} (h1 : ∀ p ∈ c, p.1 ≠ b) : gadd g c b = g b := by
  unfold gadd
  split
  · rename_i p hp
    have h2 := List.find?_some hp
    exact absurd (Nat.eq_of_beq_eq_true h2) (h1 p (List.mem_of_find?_eq_some hp))
  · rfl
theorem gadd_one (b : Nat) (o : Obj) : gadd g [(b, o)] b = some o := by
  simp [gadd]
theorem St.freeze (s : St h0 g0 S0 g (c :: L) h) : St h0 g0 S0 (gadd g c) L h ∧ gle g (gadd g c) := by
  have hc : ∀ p ∈ c, p ∈ (c :: L).flatten := fun p hp => by simp [List.flatten_cons, hp]
  have hle : gle g (gadd g c) := gadd_old fun p hp => s.sep p (hc p hp)
  have hfind : ∀ b x, gadd g c b = some x → (∃ p ∈ c, p.1 = b ∧ p.2 = x) ∨ g b = some x := by
    intro b x hb
    unfold gadd at hb
    split at hb
    · rename_i p hp
      have h2 := List.find?_some hp
      exact .inl ⟨p, List.mem_of_find?_eq_some hp, Nat.eq_of_beq_eq_true h2, by simpa using hb⟩
    · exact .inr hb
  have hdisj : ∀ p ∈ c, ∀ q ∈ L.flatten, p.1 ≠ q.1 := by
    have := s.nodup
    rw [List.flatten_cons, List.map_append, List.nodup_append] at this
    exact fun p hp q hq => this.2.2 p.1 (List.mem_map.2 ⟨p, hp, rfl⟩) q.1 (List.mem_map.2 ⟨q, hq, rfl⟩)
  have d := s.drop
  refine ⟨⟨s.size, s.frame, s.le.trans hle, ?_, ?_, d.has, d.nodup, ?_, d.own⟩, hle⟩
  · intro b hb
    obtain ⟨x, hx⟩ := Option.ne_none_iff_exists'.1 hb
    rcases hfind b x hx with ⟨p, hp, rfl, _⟩ | h1
    · exact .inr (s.own p (hc p hp))
    · exact s.new b (by rw [h1]; simp)
  · intro b x hx
    rcases hfind b x hx with ⟨p, hp, rfl, rfl⟩ | h1
    · exact s.has p (hc p hp)
    · exact s.sub b x h1
  · intro q hq
    rw [gadd_none fun p hp => hdisj p hp q hq]
    exact d.sep q hq

/-- The part of a state that a call is handed. -/
theorem St.part {Lc : List Chunk} (s : St h0 g0 S0 g (Lc ++ L) h) : St h g (ids Lc) g Lc h := by
  have hm : ∀ p ∈ Lc.flatten, p ∈ (Lc ++ L).flatten := fun p hp => by rw [List.flatten_append]; exact List.mem_append_left _ hp
  refine ⟨Nat.le_refl _, fun _ _ _ => rfl, gle.refl _, fun _ hb => .inl hb, s.sub, fun p hp => s.has p (hm p hp), ?_, fun p hp => s.sep p (hm p hp), fun p hp => .inr ⟨p, hp, rfl⟩⟩
  have := s.nodup
  rw [List.flatten_append, List.map_append, List.nodup_append] at this
  exact this.1
/-- What a call leaves, in the caller's state. -/
theorem St.join {Lc Lc' : List Chunk} {g' : GH} {h' : Heap} (s : St h0 g0 S0 g (Lc ++ L) h) (t : St h g (ids Lc) g' Lc' h') : St h0 g0 S0 g' (Lc' ++ L) h' := by
  have hdisj : ∀ q ∈ L.flatten, ¬ ids Lc q.1 := by
    have := s.nodup
    rw [List.flatten_append, List.map_append, List.nodup_append] at this
    rintro q hq ⟨p, hp, he⟩
    exact this.2.2 p.1 (List.mem_map.2 ⟨p, hp, rfl⟩) q.1 (List.mem_map.2 ⟨q, hq, rfl⟩) he
  have hL : ∀ q ∈ L.flatten, q ∈ (Lc ++ L).flatten := fun q hq => by rw [List.flatten_append]; exact List.mem_append_right _ hq
  have hown : ∀ b, ids Lc b → h0.size ≤ b ∨ S0 b := by
    rintro b ⟨p, hp, rfl⟩
    exact s.own p (by rw [List.flatten_append]; exact List.mem_append_left _ hp)
  have hold : ∀ q ∈ L.flatten, h'[q.1]? = h[q.1]? := fun q hq => t.frame q.1 (s.lt (hL q hq)) (hdisj q hq)
  have hown' : ∀ b, h.size ≤ b ∨ ids Lc b → h0.size ≤ b ∨ S0 b := fun b hb => hb.elim (fun x => .inl (Nat.le_trans s.size x)) (hown b)
  refine ⟨Nat.le_trans s.size t.size, ?_, s.le.trans t.le, ?_, t.sub, ?_, ?_, ?_, ?_⟩
  · intro b hb hs
    refine (t.frame b (Nat.lt_of_lt_of_le hb s.size) fun hi => ?_).trans (s.frame b hb hs)
    rcases hown b hi with h1 | h1
    · omega
    · exact hs h1
  · intro b hb
    rcases t.new b hb with h1 | h1
    · exact s.new b h1
    · exact .inr (hown' b h1)
  · intro p hp
    rw [List.flatten_append, List.mem_append] at hp
    rcases hp with hp | hp
    · exact t.has p hp
    · rw [hold p hp]; exact s.has p (hL p hp)
  · rw [List.flatten_append, List.map_append, List.nodup_append]
    have hn := s.nodup
    rw [List.flatten_append, List.map_append, List.nodup_append] at hn
    refine ⟨t.nodup, hn.2.1, ?_⟩
    intro x hx y hy he
    obtain ⟨p, hp, rfl⟩ := List.mem_map.1 hx
    obtain ⟨q, hq, rfl⟩ := List.mem_map.1 hy
    rcases t.own p hp with h1 | h1
    · have := s.lt (hL q hq); omega
    · exact hdisj q hq (he ▸ h1)
  · intro p hp
    rw [List.flatten_append, List.mem_append] at hp
    rcases hp with hp | hp
    · exact t.sep p hp
    · cases hg : g' p.1 with
      | none => rfl
      | some x =>
        exfalso
        rcases t.new p.1 (by rw [hg]; simp) with h1 | h1 | h1
        · exact h1 (s.sep p (hL p hp))
        · have := s.lt (hL p hp); omega
        · exact hdisj p hp h1
  · intro p hp
    rw [List.flatten_append, List.mem_append] at hp
    rcases hp with hp | hp
    · exact hown' _ (t.own p hp)
    · exact s.own p (hL p hp)
theorem St.keep {r : Heap} {M : Nat → Prop} (t : St h0 g0 S0 g L h) (hM : ∀ b, b < r.size → S0 b → M b) (k : Keep r M h0) : Keep r M h :=
  k.trans ⟨t.size, t.frame⟩ hM
/-- A call that is handed nothing of one's own. -/
theorem St.call {g' : GH} {Lc' : List Chunk} {h' : Heap} (s : St h0 g0 S0 g L h) (t : St h g (ids []) g' Lc' h') : St h0 g0 S0 g' (Lc' ++ L) h' := St.join (Lc := []) s t
theorem ids_nil (b : Nat) : ¬ ids [] b := fun ⟨_, hp, _⟩ => by simp at hp
end

/-! ### 2. Cells -/
def hcell (h : Heap) (a : Addr) : Option Value :=
  match h[a.block]? with
  | some (.cells c _ _) => if a.spot.isSome then none else c[a.off]?
  | _ => none
theorem cell_of {w : World} {h : Heap} (hh : w.heap = h) (a : Addr) : w.cell? a = hcell h a := by subst hh; rfl
theorem hcell_row {h : Heap} {b : Nat} {cs : Array Value} {T : TypeId} {fz : Nat × Nat} (hb : h[b]? = some (.cells cs T fz)) (o : Nat) : hcell h ⟨b, o, none⟩ = cs[o]? := by
  simp [hcell, hb]
theorem add_flat (b o n : Nat) : (⟨b, o, none⟩ : Addr).add n = ⟨b, o + n, none⟩ := by unfold Addr.add; split <;> simp_all

section
variable {P : Program} {B : World} {h : Heap}
theorem run_load_cell {w : World} {a : Addr} {v : Value} (hc : w.cell? a = some v) : (load a).run P w = .ok v w := by simp [hc]
theorem run_loadCells {w : World} (a : Addr) : ∀ (vs : List Value) (i : Nat) (acc : Array Value), (∀ j v, vs[j]? = some v → w.cell? (a.add (i + j)) = some v) →
    (loadCellsFrom a i vs.length acc).run P w = .ok (acc ++ vs.toArray) w := by
  intro vs
  induction vs with
  | nil => intro i acc _; simp [loadCellsFrom]
  | cons v vs ih =>
    intro i acc hc
    simp only [List.length_cons, loadCellsFrom, Sem.run_bind]
    rw [run_load_cell (by simpa using hc 0 v rfl)]
    simp only [Result.andThen_ok]
    rw [ih (i + 1) (acc.push v) fun j u hj => by have := hc (j + 1) u (by simpa using hj); rwa [show i + 1 + j = i + (j + 1) from by omega]]
    simp

/-- How many cells a type's variable has, and whether it is told as an aggregate. -/
def shapeT (P : Program) (T : TypeId) : Option (Bool × Nat) :=
  match P.underlying T, P.info? T with
  | some d, some i => some (match d with | .struct _ | .array _ _ => true | _ => false, i.size)
  | _, _ => none
theorem run_loadVar_one {w : World} {T : TypeId} {n : Nat} (hT : shapeT P T = some (false, n)) {a : Addr} {v : Value} (hc : w.cell? a = some v) : (loadVar T a).run P w = .ok v w := by
  unfold shapeT at hT
  cases hu : P.underlying T with
  | none => simp [hu] at hT
  | some d =>
    cases hi : P.info? T with
    | none => simp [hu, hi] at hT
    | some i =>
      simp only [hu, hi, Option.some.injEq, Prod.mk.injEq] at hT
      unfold loadVar isAgg underlying
      simp only [Sem.run_bind, run_program, Result.andThen_ok, hu, Sem.run_pure]
      cases d <;> simp_all
theorem run_loadVar_agg {w : World} {T : TypeId} {n : Nat} (hT : shapeT P T = some (true, n)) {a : Addr} {vs : List Value} (hl : vs.length = n) (hc : ∀ j v, vs[j]? = some v → w.cell? (a.add j) = some v) :
    (loadVar T a).run P w = .ok (.agg vs.toArray) w := by
  unfold shapeT at hT
  cases hu : P.underlying T with
  | none => simp [hu] at hT
  | some d =>
    cases hi : P.info? T with
    | none => simp [hu, hi] at hT
    | some i =>
      simp only [hu, hi, Option.some.injEq, Prod.mk.injEq] at hT
      obtain ⟨hd, hn⟩ := hT
      have hload := run_loadCells (P := P) a vs 0 #[] (fun j v hj => by simpa using hc j v hj)
      rw [hl, ← hn] at hload
      unfold loadVar isAgg underlying sizeOf typeInfo loadCells
      cases d <;> simp_all
end
end Go.Proofs.YtphonojjgnbpfaaDoor.Sw
