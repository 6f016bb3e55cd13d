/- The symbolic walk, part 5: what values read as: strings as lists of bytes, kinds of elements, slices, rows of one's own. Own text. -/
import Derived.Test.YtphonojjgnbpfaaDoorSwOps
namespace Go.Proofs.YtphonojjgnbpfaaDoor.Sw
set_option linter.unusedVariables false
set_option linter.unusedSimpArgs false
set_option linter.deprecated false
open Go

/-! ### 1. Strings -/
def mkS (l : List UInt8) : ByteArray := ⟨l.toArray⟩
theorem toList_loop (s : ByteArray) : ∀ (d i : Nat) (r : List UInt8), s.size - i = d → ByteArray.toList.loop s i r = r.reverse ++ s.data.toList.drop i := by
  have hsz : s.data.toList.length = s.size := Array.length_toList
  intro d
  induction d with
  | zero =>
    intro i r h
    unfold ByteArray.toList.loop
    rw [if_neg (by omega), List.drop_eq_nil_of_le (by omega)]
    simp
  | succ d ih =>
    intro i r h
    unfold ByteArray.toList.loop
    have hi : i < s.size := by omega
    rw [if_pos hi, ih (i + 1) _ (by omega)]
    have hi' : i < s.data.toList.length := by omega
    rw [List.drop_eq_getElem_cons hi']
    have : s.get! i = s.data.toList[i] := by
      have hi2 : i < s.data.size := hi
      show s.data[i]! = _
      rw [getElem!_pos s.data i hi2]
      simp
    rw [this]
    simp
theorem toList_data (s : ByteArray) : s.toList = s.data.toList := by
  unfold ByteArray.toList
  rw [toList_loop s _ 0 [] rfl]
  simp
theorem toList_mkS (l : List UInt8) : (mkS l).toList = l := by rw [toList_data]; rfl
theorem mkS_data (s : ByteArray) : mkS s.data.toList = s := by cases s; rfl
theorem size_mkS (l : List UInt8) : (mkS l).size = l.length := by simp [mkS, ByteArray.size]
theorem append_mkS (a b : List UInt8) : mkS a ++ mkS b = mkS (a ++ b) := by
  apply ByteArray.ext
  rw [ByteArray.data_append]
  simp [mkS]
theorem extract_mkS (l : List UInt8) (a b : Nat) : (mkS l).extract a b = mkS ((l.take b).drop a) := by
  apply ByteArray.ext
  rw [ByteArray.data_extract]
  simp [mkS, List.drop_take]
theorem get_mkS (l : List UInt8) (i : Nat) : (mkS l)[i]? = l[i]? := by
  have h1 : (mkS l)[i]? = (mkS l).data[i]? := by
    by_cases h : i < (mkS l).size
    · rw [getElem?_pos (mkS l) i h]
      have h2 : i < (mkS l).data.size := h
      rw [Array.getElem?_eq_getElem h2]
      rfl
    · rw [getElem?_neg (mkS l) i h]
      have h2 : ¬ i < (mkS l).data.size := h
      rw [Array.getElem?_eq_none (by omega)]
  rw [h1]
  simp [mkS]
theorem mkS_inj {a b : List UInt8} (h : mkS a = mkS b) : a = b := by
  have := congrArg ByteArray.toList h
  rwa [toList_mkS, toList_mkS] at this

/-! ### 2. Kinds of elements -/
structure Kd (α : Type) where
  sz : Nat
  K : GH → α → List Value → Prop
  len : ∀ {g x cs}, K g x cs → cs.length = sz
  one : ∀ {g x cs}, K g x cs → ∀ v ∈ cs, v.oneCell' = true
  mono : ∀ {g g' x cs}, gle g g' → K g x cs → K g' x cs
  zv : α
  zc : List Value
  zK : ∀ g, K g zv zc

def kInt (k : IntKind) : Kd Int where
  sz := 1
  K _ x cs := cs = [.int k x]
  len h := by subst h; rfl
  one h := by subst h; simp [Value.oneCell']
  mono _ h := h
  zv := 0
  zc := [.int k 0]
  zK _ := rfl
def kU8 : Kd UInt8 where
  sz := 1
  K _ x cs := cs = [.int .u8 x.toNat]
  len h := by subst h; rfl
  one h := by subst h; simp [Value.oneCell']
  mono _ h := h
  zv := 0
  zc := [.int .u8 0]
  zK _ := rfl
def kBool : Kd Bool where
  sz := 1
  K _ x cs := cs = [.bool x]
  len h := by subst h; rfl
  one h := by subst h; simp [Value.oneCell']
  mono _ h := h
  zv := false
  zc := [.bool false]
  zK _ := rfl
def kStr : Kd (List UInt8) where
  sz := 1
  K _ x cs := cs = [.string (mkS x)]
  len h := by subst h; rfl
  one h := by subst h; simp [Value.oneCell']
  mono _ h := h
  zv := []
  zc := [.string (mkS [])]
  zK _ := rfl

/-- A row of cells reads as a list of elements. -/
def Reads {α : Type} (d : Kd α) (g : GH) : List α → List Value → Prop
  | [], cs => cs = []
  | x :: xs, cs => ∃ c cs', cs = c ++ cs' ∧ d.K g x c ∧ Reads d g xs cs'
section
variable {α : Type} {d : Kd α} {g g' : GH}
theorem Reads.len : ∀ {xs : List α} {cs : List Value}, Reads d g xs cs → cs.length = xs.length * d.sz
  | [], _, h => by simp only [Reads] at h; subst h; simp
  | _ :: xs, _, h => by
    obtain ⟨c, cs', rfl, hk, h⟩ := h
    rw [List.length_append, d.len hk, h.len, List.length_cons, Nat.succ_mul]
    omega
theorem Reads.one : ∀ {xs : List α} {cs : List Value}, Reads d g xs cs → ∀ v ∈ cs, v.oneCell' = true
  | [], _, h, v, hv => by simp only [Reads] at h; subst h; simp at hv
  | _ :: xs, _, h, v, hv => by
    obtain ⟨c, cs', rfl, hk, h⟩ := h
    rcases List.mem_append.1 hv with hv | hv
    · exact d.one hk v hv
    · exact h.one v hv
theorem Reads.mono (hg : gle g g') : ∀ {xs : List α} {cs : List Value}, Reads d g xs cs → Reads d g' xs cs
  | [], _, h => h
  | _ :: _, _, ⟨c, cs', e, hk, h⟩ => ⟨c, cs', e, d.mono hg hk, h.mono hg⟩
theorem Reads.append : ∀ {xs ys : List α} {cs cs' : List Value}, Reads d g xs cs → Reads d g ys cs' → Reads d g (xs ++ ys) (cs ++ cs')
  | [], _, _, _, h, k => by simp only [Reads] at h; subst h; exact k
  | _ :: _, _, _, _, ⟨c, cs₁, e, hk, h⟩, k => ⟨c, cs₁ ++ _, by rw [e, List.append_assoc], hk, h.append k⟩
theorem Reads.single {x : α} {c : List Value} (hk : d.K g x c) : Reads d g [x] c := ⟨c, [], by simp, hk, rfl⟩
theorem Reads.nil : Reads d g [] [] := rfl
theorem take_add_or {c cs' : List Value} {n : Nat} : (c ++ cs').take (c.length + n) = c ++ cs'.take n := by rw [List.take_append, List.take_of_length_le (by omega), Nat.add_sub_cancel_left]
theorem drop_add_or {c cs' : List Value} {n : Nat} : (c ++ cs').drop (c.length + n) = cs'.drop n := by rw [List.drop_append, List.drop_eq_nil_of_le (by omega), Nat.add_sub_cancel_left, List.nil_append]
/-- Parted where the elements are. -/
theorem Reads.parts : ∀ (k : Nat) {xs : List α} {cs : List Value}, Reads d g xs cs → k ≤ xs.length → Reads d g (xs.take k) (cs.take (k * d.sz)) ∧ Reads d g (xs.drop k) (cs.drop (k * d.sz))
  | 0, _, _, h, _ => by simpa [Reads] using h
  | k + 1, [], _, _, hk => by simp at hk
  | k + 1, x :: xs, cs, h, hk => by
    obtain ⟨c, cs', rfl, hx, h⟩ := h
    have hl := d.len hx
    obtain ⟨h1, h2⟩ := h.parts k (by simpa using hk)
    rw [show (k + 1) * d.sz = c.length + k * d.sz from by rw [hl, Nat.succ_mul]; omega]
    rw [take_add_or, drop_add_or]
    exact ⟨⟨c, _, rfl, hx, h1⟩, h2⟩
theorem Reads.at_ {xs : List α} {cs : List Value} (h : Reads d g xs cs) (i : Nat) {x : α} (hi : xs[i]? = some x) : d.K g x ((cs.drop (i * d.sz)).take d.sz) := by
  have hlt : i < xs.length := (List.getElem?_eq_some_iff.1 hi).1
  have h2 := (h.parts i (by omega)).2
  have hd : xs.drop i = x :: xs.drop (i + 1) := by
    rw [List.drop_eq_getElem_cons hlt]
    have := (List.getElem?_eq_some_iff.1 hi).2
    rw [this]
  rw [hd] at h2
  obtain ⟨c, cs', e, hk, _⟩ := h2
  rw [e, List.take_left' (d.len hk)]
  exact hk
theorem Reads.set {xs : List α} {cs : List Value} (h : Reads d g xs cs) (i : Nat) (hi : i < xs.length) {x : α} {c : List Value} (hk : d.K g x c) :
    Reads d g (xs.set i x) (cs.take (i * d.sz) ++ c ++ cs.drop (i * d.sz + d.sz)) := by
  have h1 := (h.parts i (by omega)).1
  have h2 := (h.parts (i + 1) (by omega)).2
  rw [Nat.succ_mul] at h2
  rw [List.set_eq_take_append_cons_drop, if_pos hi]
  rw [show cs.take (i * d.sz) ++ c ++ cs.drop (i * d.sz + d.sz) = cs.take (i * d.sz) ++ (c ++ cs.drop (i * d.sz + d.sz)) from by simp]
  exact h1.append ⟨c, _, rfl, hk, h2⟩
end

/-! ### 3. Slices -/
/-- A slice reads as a list, its row in the heap h, what its elements lead to in g. -/
def SlH {α : Type} (h : Heap) (g : GH) (T : TypeId) (d : Kd α) (v : Value) (xs : List α) : Prop :=
  ∃ ao c, v = .slice ao xs.length c ∧ xs.length ≤ c ∧ (xs ≠ [] → ∃ (b o : Nat) (cur : Array Value) (fz : TypeId × Nat × Nat), ao = some ⟨b, o, none⟩ ∧ h[b]? = some (.cells cur fz.1 fz.2) ∧ Reads d g xs (cut cur o (xs.length * d.sz)))
/-- A slice whose row stays. -/
def SlR {α : Type} (g : GH) (T : TypeId) (d : Kd α) (v : Value) (xs : List α) : Prop :=
  ∃ ao c, v = .slice ao xs.length c ∧ xs.length ≤ c ∧ (xs ≠ [] → ∃ (b o : Nat) (cur : Array Value) (fz : TypeId × Nat × Nat), ao = some ⟨b, o, none⟩ ∧ g b = some (.cells cur fz.1 fz.2) ∧ Reads d g xs (cut cur o (xs.length * d.sz)))
def kSl {α : Type} (T : TypeId) (d : Kd α) : Kd (List α) where
  sz := 1
  K g xs cs := ∃ v, cs = [v] ∧ SlR g T d v xs
  len h := by obtain ⟨v, rfl, _⟩ := h; rfl
  one h := by obtain ⟨v, rfl, ao, c, rfl, _⟩ := h; simp [Value.oneCell']
  mono hg h := by
    obtain ⟨v, e, ao, c, e2, hc, h⟩ := h
    exact ⟨v, e, ao, c, e2, hc, fun hx => let ⟨b, o, cur, fz, e3, hb, hr⟩ := h hx; ⟨b, o, cur, fz, e3, hg _ _ hb, hr.mono hg⟩⟩
  zv := []
  zc := [.slice none 0 0]
  zK _ := ⟨_, rfl, none, 0, rfl, Nat.zero_le _, fun h => absurd rfl h⟩
section
variable {α : Type} {d : Kd α} {g g' : GH} {h h' : Heap} {T : TypeId} {v : Value} {xs : List α}
theorem SlR.mono (hs : SlR g T d v xs) (hg : gle g g') : SlR g' T d v xs := by
  obtain ⟨ao, c, e2, hc, h⟩ := hs
  exact ⟨ao, c, e2, hc, fun hx => let ⟨b, o, cur, fz, e3, hb, hr⟩ := h hx; ⟨b, o, cur, fz, e3, hg _ _ hb, hr.mono hg⟩⟩
theorem SlR.toH (hs : SlR g T d v xs) (sub : Sub g h) : SlH h g T d v xs := by
  obtain ⟨ao, c, e2, hc, H⟩ := hs
  exact ⟨ao, c, e2, hc, fun hx => let ⟨b, o, cur, fz, e3, hb, hr⟩ := H hx; ⟨b, o, cur, fz, e3, sub _ _ hb, hr⟩⟩
theorem SlR.form (hs : SlR g T d v xs) : ∃ ao c, v = .slice ao xs.length c := let ⟨ao, c, e, _⟩ := hs; ⟨ao, c, e⟩
theorem SlH.form (hs : SlH h g T d v xs) : ∃ ao c, v = .slice ao xs.length c := let ⟨ao, c, e, _⟩ := hs; ⟨ao, c, e⟩
theorem SlR.nil (g : GH) (T : TypeId) (d : Kd α) : SlR g T d (.slice none 0 0) [] := ⟨none, 0, rfl, Nat.zero_le _, fun h => absurd rfl h⟩
theorem SlR.empty (g : GH) (T : TypeId) (d : Kd α) (ao : Option Addr) (c : Nat) : SlR g T d (.slice ao 0 c) [] := ⟨ao, c, rfl, Nat.zero_le _, fun h => absurd rfl h⟩
theorem cut_cut (cur : Array Value) (o n k m : Nat) (h : k + m ≤ n) : ((cut cur o n).drop k).take m = cut cur (o + k) m := by
  unfold cut
  rw [List.drop_take, List.take_take, List.drop_drop, Nat.min_eq_left (by omega)]
/-- An element of it. -/
theorem SlH.at_ {ao : Option Addr} {n c : Nat} (hs : SlH h g T d (.slice ao n c) xs) (i : Nat) {x : α} (hi : xs[i]? = some x) :
    ∃ (b o : Nat) (cur : Array Value) (fz : TypeId × Nat × Nat), ao = some ⟨b, o, none⟩ ∧ h[b]? = some (.cells cur fz.1 fz.2) ∧ d.K g x (cut cur (o + i * d.sz) d.sz) := by
  obtain ⟨ao', c', e, hc, H⟩ := hs
  simp only [Value.slice.injEq] at e
  obtain ⟨rfl, rfl, rfl⟩ := e
  have hlt : i < xs.length := (List.getElem?_eq_some_iff.1 hi).1
  obtain ⟨b, o, cur, fz, e, hb, hr⟩ := H (by intro hx; subst hx; simp at hlt)
  refine ⟨b, o, cur, fz, e, hb, ?_⟩
  have := hr.at_ i hi
  rwa [cut_cut] at this
  have : (i + 1) * d.sz ≤ xs.length * d.sz := Nat.mul_le_mul_right _ hlt
  rw [Nat.succ_mul] at this
  exact this
end

/-! ### 4. A row of one's own -/
def Row {α : Type} (T : TypeId) (d : Kd α) (g : GH) (v : Value) (xs : List α) (c : Chunk) : Prop :=
  (∃ ao, v = .slice ao 0 0 ∧ xs = [] ∧ c = []) ∨
  ∃ (b o cap : Nat) (cur : Array Value) (rest : List α), v = .slice (some ⟨b, o, none⟩) xs.length cap ∧ c = [(b, .cells cur T (0, 0))] ∧ xs.length + rest.length = cap ∧ cap ≤ maxLen ∧ o + cap * d.sz ≤ cur.size ∧ Reads d g (xs ++ rest) (cut cur o (cap * d.sz))
section
variable {α : Type} {d : Kd α} {g g' : GH} {h h' : Heap} {T : TypeId} {v : Value} {xs : List α} {c : Chunk}
theorem Row.nil (T : TypeId) (d : Kd α) (g : GH) : Row T d g (.slice none 0 0) [] [] := .inl ⟨none, rfl, rfl, rfl⟩
theorem Row.zero (T : TypeId) (d : Kd α) (g : GH) (ao : Option Addr) : Row T d g (.slice ao 0 0) [] [] := .inl ⟨ao, rfl, rfl, rfl⟩
theorem reads_left {rest : List α} {cur : Array Value} {o cap : Nat} (hl : xs.length + rest.length = cap) (h : Reads d g (xs ++ rest) (cut cur o (cap * d.sz))) : Reads d g xs (cut cur o (xs.length * d.sz)) := by
  have h1 := (h.parts xs.length (by simp)).1
  rw [List.take_left' rfl] at h1
  have : (cut cur o (cap * d.sz)).take (xs.length * d.sz) = cut cur o (xs.length * d.sz) := by
    unfold cut
    rw [List.take_take, Nat.min_eq_left (Nat.mul_le_mul_right _ (by omega))]
  rwa [this] at h1
theorem Row.old (hr : Row T d g v xs c) : (∃ ao, v = .slice ao 0 0 ∧ xs = [] ∧ c = []) ∨
    ∃ (b o cap : Nat) (cur : Array Value), v = .slice (some ⟨b, o, none⟩) xs.length cap ∧ c = [(b, .cells cur T (0, 0))] ∧ xs.length ≤ cap ∧ cap ≤ maxLen ∧ o + cap * d.sz ≤ cur.size ∧ Reads d g xs (cut cur o (xs.length * d.sz)) := by
  rcases hr with h | ⟨b, o, cap, cur, rest, e1, e2, h1, h2, h3, h4⟩
  · exact .inl h
  · exact .inr ⟨b, o, cap, cur, e1, e2, by omega, h2, h3, reads_left h1 h4⟩
/-- A literal: no spare room. -/
theorem Row.lit {b o cap : Nat} {cur : Array Value} (hl : Nat.beq xs.length cap = true) (h2 : cap ≤ maxLen) (h3 : Nat.ble (o + cap * d.sz) cur.size = true) (h4 : Reads d g xs (cut cur o (cap * d.sz))) :
    Row T d g (.slice (some ⟨b, o, none⟩) cap cap) xs [(b, .cells cur T (0, 0))] := by
  have hl := Nat.eq_of_beq_eq_true hl
  exact .inr ⟨b, o, cap, cur, [], by rw [hl], rfl, by simpa using hl, h2, Nat.le_of_ble_eq_true h3, by rw [List.append_nil]; exact h4⟩
theorem Row.mono (hr : Row T d g v xs c) (hg : gle g g') : Row T d g' v xs c := by
  rcases hr with h | ⟨b, o, cap, cur, rest, e1, e2, h1, h2, h3, h4⟩
  · exact .inl h
  · exact .inr ⟨b, o, cap, cur, rest, e1, e2, h1, h2, h3, h4.mono hg⟩
theorem Row.form (hr : Row T d g v xs c) : ∃ ao cap, v = .slice ao xs.length cap := by
  rcases hr with ⟨ao, rfl, rfl, _⟩ | ⟨b, o, cap, cur, rest, e1, _⟩
  · exact ⟨ao, 0, rfl⟩
  · exact ⟨_, _, e1⟩
theorem Row.toH {h0 : Heap} {g0 : GH} {S0 : Nat → Prop} {L : List Chunk} (hr : Row T d g v xs c) (s : St h0 g0 S0 g L h) (k : Nat) (hk : L[k]? = some c) : SlH h g T d v xs := by
  rcases hr.old with ⟨ao, rfl, rfl, _⟩ | ⟨b, o, cap, cur, rfl, rfl, h1, h2, h3, h4⟩
  · exact ⟨ao, 0, rfl, Nat.zero_le _, fun h => absurd rfl h⟩
  · exact ⟨_, cap, rfl, h1, fun _ => ⟨b, o, cur, (T, 0, 0), rfl, s.chunk k hk, h4⟩⟩
/-- The row is turned no more from here on. -/
theorem Row.freeze {h0 : Heap} {g0 : GH} {S0 : Nat → Prop} {L : List Chunk} (hr : Row T d g v xs c) (s : St h0 g0 S0 g (c :: L) h) :
    ∃ g', St h0 g0 S0 g' L h ∧ gle g g' ∧ SlR g' T d v xs := by
  obtain ⟨s', hle⟩ := s.freeze
  refine ⟨_, s', hle, ?_⟩
  rcases hr.old with ⟨ao, rfl, rfl, _⟩ | ⟨b, o, cap, cur, rfl, rfl, h1, h2, h3, h4⟩
  · exact SlR.empty _ _ _ _ _
  · exact ⟨_, cap, rfl, h1, fun _ => ⟨b, o, cur, (T, 0, 0), rfl, gadd_one _ _, h4.mono hle⟩⟩
end
end Go.Proofs.YtphonojjgnbpfaaDoor.Sw
