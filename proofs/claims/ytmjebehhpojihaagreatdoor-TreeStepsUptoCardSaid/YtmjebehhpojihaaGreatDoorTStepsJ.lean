/- Lemmas for a law of this seat: what the functions compute, and plain facts of it. Own text. -/
import Derived.Test.YtmjebehhpojihaaGreatDoorTStepsI
import Derived.MapKept
namespace Go.Proofs.YtmjebehhpojihaaGreatDoor.Sw
set_option linter.unusedVariables false
set_option linter.unusedSimpArgs false
set_option linter.deprecated false
set_option linter.unusedSectionVars false
open Go Go.MapKept
structure KeyOk {κ : Type} (d : TypeDesc) (enc : κ → Value) : Prop where
  ok : ∀ k, IsKey d (enc k)
  inj : ∀ a b, enc a = enc b → a = b
def encS (p : List UInt8) : Value := .string (mkS p)
theorem keyS : KeyOk .string encS := ⟨fun _ => trivial, fun a b h => mkS_inj (by simpa [encS] using h)⟩
def MapR {κ : Type} (enc : κ → Value) (es : Array MapEntry) (clk : Nat) (ks : List (κ × Value)) : Prop :=
  es.toList.map (fun e => (e.key, e.val)) = ks.map (fun p => (enc p.1, p.2)) ∧ Stamped es clk
def lookK {κ : Type} [DecidableEq κ] (ks : List (κ × Value)) (k : κ) : Option Value := (ks.find? fun p => decide (p.1 = k)).map (·.2)
def updK {κ : Type} [DecidableEq κ] (ks : List (κ × Value)) (k : κ) (v : Value) : List (κ × Value) :=
  if ks.any (fun p => decide (p.1 = k)) then ks.map (fun p => if p.1 = k then (p.1, v) else p) else ks ++ [(k, v)]
def delK {κ : Type} [DecidableEq κ] (ks : List (κ × Value)) (k : κ) : List (κ × Value) := ks.filter fun p => !decide (p.1 = k)
theorem MapR.empty {κ : Type} (enc : κ → Value) (clk : Nat) : MapR enc #[] clk ([] : List (κ × Value)) := ⟨rfl, stamped_empty clk⟩
section
variable {κ : Type} [DecidableEq κ] {d : TypeDesc} {enc : κ → Value} {es : Array MapEntry} {clk : Nat} {ks : List (κ × Value)}
theorem MapR.get (hR : MapR enc es clk ks) (i : Nat) : (es[i]?).map (fun e => (e.key, e.val)) = (ks[i]?).map fun p => (enc p.1, p.2) := by
  have := congrArg (fun l => l[i]?) hR.1
  simpa using this
theorem MapR.keys (hK : KeyOk d enc) (hR : MapR enc es clk ks) : ∀ x ∈ es.toList, IsKey d x.key := by
  intro x hx
  have : (x.key, x.val) ∈ es.toList.map (fun e => (e.key, e.val)) := List.mem_map.2 ⟨x, hx, rfl⟩
  rw [hR.1] at this
  obtain ⟨p, hp, e⟩ := List.mem_map.1 this
  simp only [Prod.mk.injEq] at e
  rw [← e.1]
  exact hK.ok _
theorem MapR.nodup (hK : KeyOk d enc) (hR : MapR enc es clk ks) : (ks.map (·.1)).Nodup := by
  have h := hR.2.2.2
  have e : es.toList.map (·.key) = ks.map (fun p => enc p.1) := by
    have := congrArg (fun l => l.map Prod.fst) hR.1
    simpa [List.map_map, Function.comp_def] using this
  rw [e] at h
  rw [List.Nodup, List.pairwise_map] at h ⊢
  exact h.imp fun hne he => hne (by rw [he])
theorem MapR.size (hR : MapR enc es clk ks) : es.size = ks.length := by
  have := congrArg List.length hR.1
  simpa using this
theorem lookK_none {k : κ} (h : ∀ p ∈ ks, p.1 ≠ k) : lookK ks k = none := by
  unfold lookK
  rw [List.find?_eq_none.2 (fun p hp => by simpa using h p hp)]
  rfl
theorem lookK_at (hn : (ks.map (·.1)).Nodup) {j : Nat} {p : κ × Value} (hp : ks[j]? = some p) : lookK ks p.1 = some p.2 := by
  induction ks generalizing j with
  | nil => simp at hp
  | cons q ks ih =>
    rw [List.map_cons, List.nodup_cons] at hn
    unfold lookK
    rw [List.find?_cons]
    cases j with
    | zero => simp at hp; subst hp; simp
    | succ j =>
      have hp' : ks[j]? = some p := by simpa using hp
      have hne : q.1 ≠ p.1 := fun e => hn.1 (e ▸ List.mem_map.2 ⟨p, List.mem_of_getElem? hp', rfl⟩)
      simp only [hne, decide_false]
      exact ih hn.2 hp'
theorem MapR.find (hK : KeyOk d enc) (hR : MapR enc es clk ks) (k : κ) :
    (Instr.findNow d (enc k) es.toList 0 = some none ∧ (∀ x ∈ es.toList, x.key ≠ enc k) ∧ (∀ p ∈ ks, p.1 ≠ k)) ∨
    ∃ j e, Instr.findNow d (enc k) es.toList 0 = some (some (j, e.val)) ∧ es[j]? = some e ∧ e.key = enc k ∧ ks[j]? = some (k, e.val) := by
  rcases findNow_spec (hK.ok k) es.toList 0 (hR.keys hK) with ⟨h1, h2⟩ | ⟨j, e, h1, h2, h3⟩
  · refine .inl ⟨h1, h2, fun p hp e => ?_⟩
    have : (enc p.1, p.2) ∈ ks.map (fun p => (enc p.1, p.2)) := List.mem_map.2 ⟨p, hp, rfl⟩
    rw [← hR.1] at this
    obtain ⟨x, hx, ex⟩ := List.mem_map.1 this
    simp only [Prod.mk.injEq] at ex
    exact h2 x hx (by rw [ex.1, e])
  · have hj : es[j]? = some e := by simpa using h2
    have := hR.get j
    rw [hj] at this
    cases hk : ks[j]? with
    | none => rw [hk] at this; cases this
    | some p =>
      rw [hk] at this
      simp only [Option.map_some, Option.some.injEq, Prod.mk.injEq] at this
      have : p = (k, e.val) := Prod.ext (hK.inj _ _ (this.1.symm.trans h3)) this.2.symm
      exact .inr ⟨j, e, by simpa using h1, hj, h3, by rw [hk, this]⟩
theorem MapR.look (hK : KeyOk d enc) (hR : MapR enc es clk ks) (k : κ) :
    (Instr.findNow d (enc k) es.toList 0 = some none ∧ lookK ks k = none) ∨ ∃ j v, Instr.findNow d (enc k) es.toList 0 = some (some (j, v)) ∧ lookK ks k = some v := by
  rcases hR.find hK k with ⟨h1, _, h2⟩ | ⟨j, e, h1, _, _, h2⟩
  · exact .inl ⟨h1, lookK_none h2⟩
  · exact .inr ⟨j, e.val, h1, lookK_at (hR.nodup hK) h2⟩
theorem MapR.upd_new (hR : MapR enc es clk ks) {k : κ} (h : ∀ x ∈ es.toList, x.key ≠ enc k) (h2 : ∀ p ∈ ks, p.1 ≠ k) (v : Value) : MapR enc (es.push { key := enc k, val := v, born := clk }) (clk + 1) (updK ks k v) := by
  have : ks.any (fun p => decide (p.1 = k)) = false := by
    rw [List.any_eq_false]
    exact fun p hp => by simpa using h2 p hp
  unfold updK
  rw [if_neg (by simp [this])]
  refine ⟨?_, stamped_push hR.2 h⟩
  rw [Array.toList_push, List.map_append, List.map_append, hR.1]
  rfl
theorem upd_at (hn : (ks.map (·.1)).Nodup) {j : Nat} {k : κ} {u v : Value} (hp : ks[j]? = some (k, u)) : updK ks k v = ks.modify j fun p => (p.1, v) := by
  have hm := List.mem_of_getElem? hp
  unfold updK
  rw [if_pos (List.any_eq_true.2 ⟨_, hm, by simp⟩)]
  apply List.ext_getElem?
  intro i
  rw [List.getElem?_map, List.getElem?_modify]
  cases hi : ks[i]? with
  | none => by_cases hj : j = i <;> simp [hj]
  | some p =>
    by_cases hj : j = i
    · subst hj
      rw [hp] at hi
      cases hi
      simp
    · have : p.1 ≠ k := fun e => by
        have hlt := (List.getElem?_eq_some_iff.1 hi).1
        have hlt2 := (List.getElem?_eq_some_iff.1 hp).1
        have e1 : (ks.map (·.1))[i]? = some k := by rw [List.getElem?_map, hi]; simp [e]
        have e2 : (ks.map (·.1))[j]? = some k := by rw [List.getElem?_map, hp]; rfl
        exact hj ((List.getElem?_inj (by simpa using hlt2) hn).1 (e2.trans e1.symm))
      simp [this, hj]
theorem MapR.upd_old (hK : KeyOk d enc) (hR : MapR enc es clk ks) {j : Nat} {e : MapEntry} {k : κ} (he : es[j]? = some e) (hk : e.key = enc k) (hks : ks[j]? = some (k, e.val)) (v : Value) :
    MapR enc (es.modify j fun e => { e with key := enc k, val := v }) clk (updK ks k v) := by
  rw [upd_at (hR.nodup hK) hks]
  refine ⟨?_, stamped_modify hR.2 _ _ (fun _ _ => rfl) fun e' _ he' => by rw [he] at he'; cases he'; exact hk.symm⟩
  apply List.ext_getElem?
  intro i
  have := hR.get i
  rw [List.getElem?_map, List.getElem?_map, List.getElem?_modify, Array.getElem?_toList, Array.getElem?_modify]
  by_cases hj : j = i
  · subst hj
    simp [he, hks]
  · simp [hj] at this ⊢
    exact this
theorem del_none {k : κ} (h : ∀ p ∈ ks, p.1 ≠ k) : delK ks k = ks := by
  unfold delK
  rw [List.filter_eq_self.2]
  intro p hp
  simpa using h p hp
theorem del_at (hn : (ks.map (·.1)).Nodup) {j : Nat} {k : κ} {u : Value} (hp : ks[j]? = some (k, u)) : delK ks k = ks.eraseIdx j := by
  induction ks generalizing j with
  | nil => simp at hp
  | cons q ks ih =>
    rw [List.map_cons, List.nodup_cons] at hn
    unfold delK
    cases j with
    | zero =>
      simp at hp
      subst hp
      simp only [List.filter_cons, decide_true, Bool.not_true, Bool.false_eq_true, if_false, List.eraseIdx_cons_zero]
      exact del_none fun p hp e => hn.1 (e ▸ List.mem_map.2 ⟨p, hp, rfl⟩)
    | succ j =>
      have hp' : ks[j]? = some (k, u) := by simpa using hp
      have hne : q.1 ≠ k := fun e => hn.1 (e ▸ List.mem_map.2 ⟨_, List.mem_of_getElem? hp', rfl⟩)
      simp only [List.filter_cons, hne, decide_false, Bool.not_false, if_true, List.eraseIdx_cons_succ]
      exact congrArg _ (ih hn.2 hp')
theorem map_erase {α β : Type} (f : α → β) : ∀ (l : List α) (j : Nat), (l.eraseIdx j).map f = (l.map f).eraseIdx j
  | [], _ => by simp
  | x :: l, 0 => by simp
  | x :: l, j + 1 => by simp [map_erase f l j]
theorem MapR.del_old (hK : KeyOk d enc) (hR : MapR enc es clk ks) {j : Nat} {e : MapEntry} {k : κ} (he : es[j]? = some e) (hks : ks[j]? = some (k, e.val)) : MapR enc (es.eraseIdxIfInBounds j) clk (delK ks k) := by
  rw [del_at (hR.nodup hK) hks]
  refine ⟨?_, stamped_erase hR.2 _⟩
  have hlt := (Array.getElem?_eq_some_iff.1 he).1
  unfold Array.eraseIdxIfInBounds
  rw [dif_pos hlt, Array.toList_eraseIdx, map_erase, hR.1, ← map_erase]
end
def mapT (P : Program) (mt : TypeId) : Option (TypeDesc × Value) := match P.underlying mt with
  | some (.map kt et) => match P.underlying kt, (P.info? et).bind (·.zero) with
    | some d, some z => some (d, z)
    | _, _ => none
  | _ => none
theorem mapT_spec {P : Program} {mt : TypeId} {d : TypeDesc} {z : Value} (h : mapT P mt = some (d, z)) : ∃ kt et inf, P.underlying mt = some (.map kt et) ∧ P.underlying kt = some d ∧ P.info? et = some inf ∧ inf.zero = some z := by
  unfold mapT at h
  split at h
  · rename_i kt et hu
    split at h
    · rename_i d' z' hd hz
      simp only [Option.some.injEq, Prod.mk.injEq] at h
      obtain ⟨rfl, rfl⟩ := h
      obtain ⟨inf, hi, hz⟩ := Option.bind_eq_some_iff.1 hz
      exact ⟨kt, et, inf, hu, hd, hi, hz⟩
    · cases h
  · cases h
section
variable {P : Program} {w : World} {κ : Type} [DecidableEq κ] {d : TypeDesc} {enc : κ → Value} {es : Array MapEntry} {clk : Nat} {ks : List (κ × Value)} {mt : TypeId} {z : Value} {m : Nat}
theorem run_zero {et : TypeId} {inf : TypeInfo} (hi : P.info? et = some inf) (hz : inf.zero = some z) : (zeroValue et).run P w = .ok z w := by
  simp only [zeroValue, typeInfo, Sem.run_bind, run_program, Result.andThen_ok, hi, Sem.run_pure]
  rw [hz]
  rfl
theorem run_lookupR (hT : mapT P mt = some (d, z)) (hK : KeyOk d enc) (hR : MapR enc es clk ks) (hb : w.heap[m]? = some (.map es clk)) (k : κ) (ok : Bool) :
    (Instr.lookup mt (.map (some m)) (enc k) ok).run P w = .ok (if ok then .tuple #[(lookK ks k).getD z, .bool (lookK ks k).isSome] else (lookK ks k).getD z) w := by
  obtain ⟨kt, et, inf, hu, hd, hi, hz⟩ := mapT_spec hT
  unfold Instr.lookup
  rcases hR.look hK k with ⟨h1, h2⟩ | ⟨j, v, h1, h2⟩
  · simp only [Sem.run_bind, run_underlying hu, MapKept.run_getObj_map hb, run_checkKey hd (hK.ok k), run_findKey hd h1, run_zero hi hz, Result.andThen_ok, Sem.run_pure, h2]
    simp
  · simp only [Sem.run_bind, run_underlying hu, MapKept.run_getObj_map hb, run_checkKey hd (hK.ok k), run_findKey hd h1, Result.andThen_ok, Sem.run_pure, h2]
    simp
theorem run_updateR (hT : mapT P mt = some (d, z)) (hK : KeyOk d enc) (hR : MapR enc es clk ks) (hb : w.heap[m]? = some (.map es clk)) (k : κ) (v : Value) :
    ∃ es' clk', (Instr.mapUpdate mt (.map (some m)) (enc k) v).run P w = .ok () { w with heap := w.heap.setIfInBounds m (.map es' clk') } ∧ MapR enc es' clk' (updK ks k v) := by
  obtain ⟨kt, et, inf, hu, hd, hi, hz⟩ := mapT_spec hT
  unfold Instr.mapUpdate
  rcases hR.find hK k with ⟨h1, h2, h3⟩ | ⟨j, e, h1, h2, h3, h4⟩
  · refine ⟨_, _, ?_, hR.upd_new h2 h3 v⟩
    simp only [Sem.run_bind, run_underlying hu, MapKept.run_getObj_map hb, run_checkKey hd (hK.ok k), run_findKey hd h1, Result.andThen_ok, MapKept.run_setObj_map _ hb]
  · refine ⟨_, _, ?_, hR.upd_old hK h2 h3 h4 v⟩
    simp only [Sem.run_bind, run_underlying hu, MapKept.run_getObj_map hb, run_checkKey hd (hK.ok k), run_findKey hd h1, h2, Option.map_some, Option.getD_some, h3, run_keyThatStays (hK.ok k), Result.andThen_ok, MapKept.run_setObj_map _ hb]
theorem run_deleteR {kt' : TypeId} {ty : TypeId} (hT : mapT P mt = some (d, z)) (hK : KeyOk d enc) (hR : MapR enc es clk ks) (hb : w.heap[m]? = some (.map es clk)) (k : κ) :
    ∃ es', (Builtin.delete_ #[mt, kt'] ty #[.map (some m), enc k]).run P w = .ok (.tuple #[]) { w with heap := w.heap.setIfInBounds m (.map es' clk) } ∧ MapR enc es' clk (delK ks k) := by
  obtain ⟨kt, et, inf, hu, hd, hi, hz⟩ := mapT_spec hT
  rcases hR.find hK k with ⟨h1, h2, h3⟩ | ⟨j, e, h1, h2, h3, h4⟩
  · refine ⟨es, ?_, by rw [del_none h3]; exact hR⟩
    simp [Builtin.delete_, run_underlying hu, MapKept.run_getObj_map hb, run_checkKey hd (hK.ok k), run_findKey hd h1, MapKept.run_setObj_map _ hb, Result.andThen]
  · refine ⟨_, ?_, hR.del_old hK h2 h4⟩
    simp [Builtin.delete_, run_underlying hu, MapKept.run_getObj_map hb, run_checkKey hd (hK.ok k), run_findKey hd h1, MapKept.run_setObj_map _ hb, Result.andThen]
end
def MIt {κ : Type} (enc : κ → Value) (es : Array MapEntry) (clk m : Nat) (vs rs : List (κ × Value)) (o : Obj) : Prop :=
  ∃ vis rest : List MapEntry, o = .mapIter (some m) clk (vis.map (·.born)).toArray clk ∧ (vis ++ rest).Perm es.toList ∧ vis.map (fun e => (e.key, e.val)) = vs.map (fun p => (enc p.1, p.2)) ∧ rest.map (fun e => (e.key, e.val)) = rs.map (fun p => (enc p.1, p.2))
theorem MIt.start {κ : Type} {enc : κ → Value} {es : Array MapEntry} {clk m : Nat} {ks : List (κ × Value)} (hR : MapR enc es clk ks) : MIt enc es clk m [] ks (.mapIter (some m) clk #[] clk) :=
  ⟨[], es.toList, rfl, List.Perm.refl _, rfl, hR.1⟩
theorem map_split {α β : Type} {f : α → β} {γ : Type} {g : γ → β} : ∀ {l : List α} {r : List γ}, l.map f = r.map g → ∀ {a b : List α} {x : α}, l = a ++ x :: b → ∃ a' y b', r = a' ++ y :: b' ∧ a.map f = a'.map g ∧ f x = g y ∧ b.map f = b'.map g := by
  intro l r h a b x e
  subst e
  induction a generalizing r with
  | nil =>
    cases r with
    | nil => simp at h
    | cons y r => simp only [List.nil_append, List.map_cons, List.cons.injEq] at h; exact ⟨[], y, r, rfl, rfl, h.1, h.2⟩
  | cons q a ih =>
    cases r with
    | nil => simp at h
    | cons y r =>
      simp only [List.cons_append, List.map_cons, List.cons.injEq] at h
      obtain ⟨a', y', b', rfl, h1, h2, h3⟩ := ih h.2
      exact ⟨y :: a', y', b', rfl, by simp [h.1, h1], h2, h3⟩
theorem run_next {P : Program} {w : World} {κ : Type} {enc : κ → Value} {es : Array MapEntry} {clk m it ty : Nat} {vs rs : List (κ × Value)} {o : Obj} (hst : Stamped es clk) (hI : MIt enc es clk m vs rs o)
    (hb : w.heap[m]? = some (.map es clk)) (hit : w.heap[it]? = some o) :
    (rs = [] ∧ ∃ w', (Instr.next (.pointer (some ⟨it, 0, none⟩)) false ty).run P w = .ok (.tuple #[.bool false]) w' ∧ w'.heap = w.heap ∧ w'.os = w.os ∧ w'.tape = w.tape ∧ w'.output = w.output) ∨
    (∃ a k v b o' w', rs = a ++ (k, v) :: b ∧ (Instr.next (.pointer (some ⟨it, 0, none⟩)) false ty).run P w = .ok (.tuple #[.bool true, enc k, v]) w' ∧ w'.heap = w.heap.setIfInBounds it o' ∧ w'.os = w.os ∧ w'.tape = w.tape ∧ w'.output = w.output ∧
      MIt enc es clk m (vs ++ [(k, v)]) (a ++ b) o') := by
  obtain ⟨vis, rest, rfl, hp, hv, hr⟩ := hI
  obtain ⟨hlt, hnb, _⟩ := hst
  have hbm : ∀ x, x ∈ es.toList ↔ x ∈ vis ∨ x ∈ rest := fun x => by rw [← hp.mem_iff, List.mem_append]
  have hnd : ((vis ++ rest).map (·.born)).Nodup := (hp.map _).nodup_iff.2 hnb
  -- what is left
  have hleft : ∀ x, x ∈ (es.filter fun e => !((vis.map (·.born)).toArray).contains e.born).toList ↔ x ∈ rest := by
    intro x
    rw [Array.toList_filter, List.mem_filter, hbm]
    simp only [List.contains_toArray, Bool.not_eq_true', List.contains_eq_mem, decide_eq_false_iff_not]
    constructor
    · rintro ⟨h | h, h2⟩
      · exact absurd (List.mem_map.2 ⟨x, h, rfl⟩) h2
      · exact h
    · intro h
      refine ⟨.inr h, fun h2 => ?_⟩
      rw [List.map_append, List.nodup_append] at hnd
      exact hnd.2.2 _ h2 _ (List.mem_map.2 ⟨x, h, rfl⟩) rfl
  have hseen : ∀ n : Nat, 1 ≤ n → ∃ idx w', (choose (.mapNext n)).run P w = .ok idx w' ∧ idx < n ∧ w'.heap = w.heap ∧ w'.os = w.os ∧ w'.tape = w.tape ∧ w'.output = w.output := by
    intro n hn
    rw [run_choose_drew]
    by_cases h1 : n ≤ 1
    · exact ⟨0, w, by simp [Question.forced, h1], by omega, rfl, rfl, rfl, rfl⟩
    · exact ⟨w.tape w.drawn (.mapNext n) % n, w.drew, by simp [Question.forced, h1, Question.cut], Nat.mod_lt _ (by omega), rfl, rfl, rfl, rfl⟩
  have hlt2 : ∀ x ∈ es.filter (fun e => !((vis.map (·.born)).toArray).contains e.born), x.born < clk := fun x hx => hlt x (by
    have := (hleft x).1 (by simpa using hx)
    exact (hbm x).2 (.inr this))
  generalize hl : es.filter (fun e => !((vis.map (·.born)).toArray).contains e.born) = left at *
  have hold : left.filter (fun e => decide (e.born < clk)) = left := by
    rw [Array.filter_eq_self]; exact fun x hx => by simpa using hlt2 x hx
  have hnew : left.filter (fun e => decide (e.born ≥ clk)) = #[] := by
    rw [Array.filter_eq_empty_iff]; exact fun x hx => by have := hlt2 x hx; simp; omega
  have hgone : (!((vis.map (·.born)).toArray).isEmpty && !es.isEmpty && es.all fun e => decide (e.born ≥ clk)) = false := by
    cases he : es.isEmpty with
    | true => simp
    | false =>
      have hne : es ≠ #[] := by intro h; subst h; simp at he
      have hpos : 0 < es.size := Array.size_pos_iff.2 hne
      have : es.all (fun e => decide (e.born ≥ clk)) = false := by
        rw [Array.all_eq_false]
        exact ⟨0, hpos, by have := hlt es[0] (by simp); simp; omega⟩
      simp [this]
  by_cases hr0 : rest = []
  · subst hr0
    have hle : left = #[] := by
      rw [← Array.toList_eq_nil_iff]
      exact List.eq_nil_iff_forall_not_mem.2 fun x hx => by have := (hleft x).1 hx; cases this
    have hrs : rs = [] := by cases rs with
      | nil => rfl
      | cons p rs => simp at hr
    refine .inl ⟨hrs, ?_⟩
    obtain ⟨idx, w', hc, hi, hw⟩ := hseen 1 (Nat.le_refl _)
    have hi0 : idx = 0 := by omega
    subst hi0
    refine ⟨w', ?_, hw⟩
    subst hle
    unfold Instr.next
    have hg : (getObj it).run P w = .ok (.mapIter (some m) clk (vis.map (·.born)).toArray clk) w := by simp [getObj, Sem.run, hit]
    simp only [Sem.run_bind, hg, Result.andThen_ok, MapKept.run_getObj_map hb, hgone, Bool.false_eq_true, if_false, Sem.run_pure, hl, hold, hnew]
    have hcs : ((if (#[] : Array MapEntry).isEmpty = true then (#[none] : Array (Option MapEntry)) else #[]) ++ ((#[] : Array MapEntry) ++ #[]).map some) = #[none] := by simp
    simp only [hcs]
    rw [show (#[none] : Array (Option MapEntry)).size = 1 from rfl, hc]
    rfl
  · have hne : left ≠ #[] := by
      intro h
      obtain ⟨x, t, rfl⟩ : ∃ x t, rest = x :: t := by
        cases rest with
        | nil => exact absurd rfl hr0
        | cons x t => exact ⟨x, t, rfl⟩
      have := (hleft x).2 (.head _)
      rw [h] at this
      simp at this
    have hpos : 0 < left.size := Array.size_pos_iff.2 hne
    obtain ⟨idx, w', hc, hi, hw⟩ := hseen left.size hpos
    have hmem : left[idx] ∈ rest := (hleft _).1 (by simp)
    obtain ⟨a, b, hsplit⟩ := List.append_of_mem hmem
    obtain ⟨a', p, b', hrs, h1, h2, h3⟩ := map_split hr hsplit
    simp only [Prod.mk.injEq] at h2
    refine .inr ⟨a', p.1, p.2, b', .mapIter (some m) clk ((vis.map (·.born)).toArray.push left[idx].born) clk, { w' with heap := w'.heap.setIfInBounds it (.mapIter (some m) clk ((vis.map (·.born)).toArray.push left[idx].born) clk) }, hrs, ?_, by simp [hw.1], hw.2.1, hw.2.2.1, hw.2.2.2, ?_⟩
    · unfold Instr.next
      have hg : (getObj it).run P w = .ok (.mapIter (some m) clk (vis.map (·.born)).toArray clk) w := by simp [getObj, Sem.run, hit]
      have hit' : w'.heap[it]? = some (.mapIter (some m) clk (vis.map (·.born)).toArray clk) := by rw [hw.1]; exact hit
      have hem : left.isEmpty = false := by simpa using hne
      have hs : (setObj it (.mapIter (some m) clk ((vis.map (·.born)).toArray.push left[idx].born) clk)).run P w' = .ok () { w' with heap := w'.heap.setIfInBounds it (.mapIter (some m) clk ((vis.map (·.born)).toArray.push left[idx].born) clk) } := by simp [setObj, Sem.run, hit']
      simp only [Sem.run_bind, hg, Result.andThen_ok, MapKept.run_getObj_map hb, hgone, Bool.false_eq_true, if_false, Sem.run_pure, hl, hold, hnew, hem]
      have hcs : ((#[] : Array (Option MapEntry)) ++ (left ++ #[]).map some) = left.map some := by simp
      simp only [hcs, Array.size_map, hc, Result.andThen_ok, Array.getElem?_map, Array.getElem?_eq_getElem hi, Option.map_some, Sem.run_bind, hs, Sem.run_pure]
      rw [h2.1, h2.2]
    · refine ⟨vis ++ [left[idx]], a ++ b, by simp, ?_, by simp [hv, h2.1, h2.2], by simp [h1, h3]⟩
      refine List.Perm.trans ?_ hp
      rw [hsplit, List.append_assoc]
      refine List.Perm.append_left _ ?_
      exact (List.perm_middle.symm : (left[idx] :: (a ++ b)).Perm (a ++ left[idx] :: b))
section
variable {C : Ctx} {ds : List Deferred} {i j : Nat} {r : Heap} {M : Nat → Prop} {Ls : List (Nat × Bool)} {e : Env} {h : Heap}
variable {h0 : Heap} {g0 : GH} {S0 : Nat → Prop} {g : GH} {L L' : List Chunk}
variable {κ : Type} [DecidableEq κ] {d : TypeDesc} {enc : κ → Value} {es : Array MapEntry} {clk : Nat} {ks : List (κ × Value)} {mt : TypeId} {z : Value} {m : Nat}
theorem Op.lookupR {dst : Nat} {x ix : Operand} {ok : Bool} {k : κ} (ho : nextDO C i j e = some (some dst, .lookup mt x ix ok)) (hT : mapT C.P mt = some (d, z)) (hK : KeyOk d enc) (hx : e.ev x = .map (some m)) (hix : e.ev ix = enc k)
    (hb : h[m]? = some (.map es clk)) (hR : MapR enc es clk ks) (K : Op C ds i r M Ls ((dst, if ok then .tuple #[(lookK ks k).getD z, .bool (lookK ks k).isSome] else (lookK ks k).getD z) :: e) h) : Op C ds i r M ((j, false) :: Ls) e h := by
  obtain ⟨o, h1, h2, h3⟩ := nextDO_spec ho
  refine Op.run h1 (R := fun nx h' => nx = .value (if ok then .tuple #[(lookK ks k).getD z, .bool (lookK ks k).isSome] else (lookK ks k).getD z) ∧ h' = h) ?_ ?_
  · intro w is
    refine ⟨_, w, ?_, is.again, rfl, is.heap⟩
    unfold semOf execOp
    simp only [h3, Sem.run_bind, hx, hix, run_lookupR hT hK hR (w := w) (by rw [is.heap]; exact hb), Result.andThen_ok, Sem.run_pure]
  · rintro _ _ ⟨rfl, rfl⟩
    refine ⟨_, rfl, fun hk => hk, ?_⟩
    rw [h2]
    exact K
theorem Op.mapSet {x ix y : Operand} {k : κ} {v : Value} (ho : (nextDO C i j e = some (none, .mapUpdate mt x ix y)) ∨ (nextDO C i j e = some (none, .insert mt x ix y))) (hT : mapT C.P mt = some (d, z)) (hK : KeyOk d enc) (hx : e.ev x = .map (some m)) (hix : e.ev ix = enc k) (hy : e.ev y = v)
    (s : St h0 g0 S0 g L h) (n : Nat) (hL : L[n]? = some [(m, .map es clk)]) (hR : MapR enc es clk ks) (hM : m < r.size → M m)
    (K : ∀ es' clk' h', MapR enc es' clk' (updK ks k v) → St h0 g0 S0 g (L.set n [(m, .map es' clk')]) h' → Op C ds i r M Ls e h') : Op C ds i r M ((j, false) :: Ls) e h := by
  obtain ⟨o, h1, h2, h3⟩ : ∃ o, nextOp C i j e = some o ∧ o.dst = none ∧ (o.op = .mapUpdate mt x ix y ∨ o.op = .insert mt x ix y) := by
    rcases ho with ho | ho
    · obtain ⟨o, h1, h2, h3⟩ := nextDO_spec ho; exact ⟨o, h1, h2, .inl h3⟩
    · obtain ⟨o, h1, h2, h3⟩ := nextDO_spec ho; exact ⟨o, h1, h2, .inr h3⟩
  have hb := s.chunk n hL
  refine Op.skip h1 (R := fun nx h' => nx = .skip ∧ ∃ es' clk', MapR enc es' clk' (updK ks k v) ∧ h' = h.setIfInBounds m (.map es' clk')) ?_ ?_
  · intro w is
    obtain ⟨es', clk', hrun, hR'⟩ := run_updateR (P := C.P) (w := w) hT hK hR (by rw [is.heap]; exact hb) k v
    refine ⟨.skip, _, ?_, (is.setTo m (.map es' clk')).again, rfl, es', clk', hR', by simp [is.heap]⟩
    unfold semOf execOp
    rcases h3 with h3 | h3 <;> simp only [h3, Sem.run_bind, hx, hix, hy, hrun, Result.andThen_ok, Sem.run_pure]
  · rintro _ _ ⟨rfl, es', clk', hR', rfl⟩
    refine ⟨rfl, fun hk => (Upd.set (.map es' clk') hb).keep hM hk, ?_⟩
    rw [h2]
    exact K es' clk' _ hR' (s.setTo n hL (.map es' clk'))
theorem Op.mapDel {dst : Option Tmp} {x ix : Operand} {kt : TypeId} {k : κ} (ho : nextDO C i j e = some (dst, .call { callee := .builtin .delete, args := #[x, ix], argTypes := #[mt, kt] })) (hT : mapT C.P mt = some (d, z)) (hK : KeyOk d enc) (hx : e.ev x = .map (some m)) (hix : e.ev ix = enc k)
    (s : St h0 g0 S0 g L h) (n : Nat) (hL : L[n]? = some [(m, .map es clk)]) (hR : MapR enc es clk ks) (hM : m < r.size → M m)
    (K : ∀ es' h', MapR enc es' clk (delK ks k) → St h0 g0 S0 g (L.set n [(m, .map es' clk)]) h' → Op C ds i r M Ls (e.putO dst (.tuple #[])) h') : Op C ds i r M ((j, false) :: Ls) e h := by
  obtain ⟨o, h1, h2, h3⟩ := nextDO_spec ho
  have hb := s.chunk n hL
  refine Op.run h1 (R := fun nx h' => nx = .value (.tuple #[]) ∧ ∃ es', MapR enc es' clk (delK ks k) ∧ h' = h.setIfInBounds m (.map es' clk)) ?_ ?_
  · intro w is
    obtain ⟨es', hrun, hR'⟩ := run_deleteR (P := C.P) (w := w) (kt' := kt) (ty := o.type) hT hK hR (by rw [is.heap]; exact hb) k
    refine ⟨.value (.tuple #[]), _, ?_, (is.setTo m (.map es' clk)).again, rfl, es', hR', by simp [is.heap]⟩
    refine semOf_call h3 (.inr (.inr (.inr (.inr (.inr (.inl rfl)))))) ?_
    simp only [List.map_toArray, List.map_cons, List.map_nil, hx, hix]
    exact hrun
  · rintro _ _ ⟨rfl, es', hR', rfl⟩
    refine ⟨_, rfl, fun hk => (Upd.set (.map es' clk) hb).keep hM hk, ?_⟩
    rw [h2]
    exact K es' _ hR' (s.setTo n hL (.map es' clk))
theorem Op.mapLen {dst : Nat} {x : Operand} {b : Bool} {n : Nat} (ho : nextDO C i j e = some (some dst, .call { callee := .builtin .len, args := #[x], argTypes := #[mt] })) (hT : mapT C.P mt = some (d, z)) (hx : e.ev x = .map (some m)) (hb0 : b = false)
    (hb : h[m]? = some (.map es clk)) (hR : MapR enc es clk ks) (hn : ks.length = n) (K : Op C ds i r M Ls ((dst, .int .i64 (n : Int)) :: e) h) : Op C ds i r M ((j, b) :: Ls) e h := by
  subst hb0
  subst hn
  obtain ⟨o, h1, h2, h3⟩ := nextDO_spec ho
  obtain ⟨kt, et, inf, hu, hd, hi, hz⟩ := mapT_spec hT
  refine Op.run h1 (R := fun nx h' => nx = .value (.int .i64 (ks.length : Int)) ∧ h' = h) ?_ ?_
  · intro w is
    refine ⟨_, w, ?_, is.again, rfl, is.heap⟩
    refine semOf_call h3 (.inr (.inr (.inl rfl))) ?_
    simp only [List.map_toArray, List.map_cons, List.map_nil, hx]
    have hbw : w.heap[m]? = some (.map es clk) := by rw [is.heap]; exact hb
    simp [Builtin.len_, run_underlying hu, MapKept.run_getObj_map hbw, Result.andThen, hR.size, goInt]
  · rintro _ _ ⟨rfl, rfl⟩
    refine ⟨_, rfl, fun hk => hk, ?_⟩
    rw [h2]
    exact K
theorem Op.makeMap {dst : Nat} (ho : nextDO C i j e = some (some dst, .makeMap mt none)) (s : St h0 g0 S0 g L h)
    (K : ∀ m h', St h0 g0 S0 g ([(m, .map #[] 0)] :: L) h' → Op C ds i r M Ls ((dst, .map (some m)) :: e) h') : Op C ds i r M ((j, false) :: Ls) e h := by
  obtain ⟨o, h1, h2, h3⟩ := nextDO_spec ho
  refine Op.run h1 (R := fun nx h' => nx = .value (.map (some h.size)) ∧ h' = h.push (.map #[] 0)) ?_ ?_
  · intro w is
    refine ⟨.value (.map (some h.size)), { w with heap := w.heap.push (.map #[] 0) }, ?_, ⟨rfl, is.os, is.tape, is.output⟩, rfl, by rw [← is.heap]⟩
    unfold semOf execOp
    simp only [h3, Instr.makeMap, Option.map_none, Sem.run_bind, run_newObj, Result.andThen_ok, Sem.run_pure, is.heap]
  · rintro _ _ ⟨rfl, rfl⟩
    refine ⟨_, rfl, Keep.push _, ?_⟩
    rw [h2]
    exact K _ _ (s.alloc _)
theorem Op.rangeM {dst : Nat} {x : Operand} (ho : nextDO C i j e = some (some dst, .range mt x)) (hT : mapT C.P mt = some (d, z)) (hx : e.ev x = .map (some m)) (hb : h[m]? = some (.map es clk)) (hR : MapR enc es clk ks) (s : St h0 g0 S0 g L h)
    (K : ∀ it o h', MIt enc es clk m [] ks o → St h0 g0 S0 g ([(it, o)] :: L) h' → Op C ds i r M Ls ((dst, .pointer (some ⟨it, 0, none⟩)) :: e) h') : Op C ds i r M ((j, false) :: Ls) e h := by
  obtain ⟨o, h1, h2, h3⟩ := nextDO_spec ho
  obtain ⟨kt, et, inf, hu, hd, hi, hz⟩ := mapT_spec hT
  refine Op.run h1 (R := fun nx h' => nx = .value (.pointer (some ⟨h.size, 0, none⟩)) ∧ h' = h.push (.mapIter (some m) clk #[] clk)) ?_ ?_
  · intro w is
    have hbw : w.heap[m]? = some (.map es clk) := by rw [is.heap]; exact hb
    refine ⟨_, { w with heap := w.heap.push (.mapIter (some m) clk #[] clk) }, ?_, ⟨rfl, is.os, is.tape, is.output⟩, rfl, by rw [← is.heap]⟩
    unfold semOf execOp
    simp only [h3, hx, Instr.range, Sem.run_bind, run_underlying hu, MapKept.run_getObj_map hbw, run_newObj, Result.andThen_ok, Sem.run_pure, is.heap]
  · rintro _ _ ⟨rfl, rfl⟩
    refine ⟨_, rfl, Keep.push _, ?_⟩
    rw [h2]
    exact K _ _ _ (MIt.start hR) (s.alloc _)
theorem Op.nextM {dst : Nat} {x : Operand} {it : Nat} {o1 : Obj} {vs rs : List (κ × Value)} (ho : nextDO C i j e = some (some dst, .next x false)) (hx : e.ev x = .pointer (some ⟨it, 0, none⟩)) (hb : h[m]? = some (.map es clk)) (hR : MapR enc es clk ks) (hI : MIt enc es clk m vs rs o1)
    (s : St h0 g0 S0 g L h) (n : Nat) (hL : L[n]? = some [(it, o1)]) (hM : it < r.size → M it)
    (K : (rs = [] → Op C ds i r M Ls ((dst, .tuple #[.bool false]) :: e) h) ∧ ∀ a k v b o2 h', rs = a ++ (k, v) :: b → MIt enc es clk m (vs ++ [(k, v)]) (a ++ b) o2 → St h0 g0 S0 g (L.set n [(it, o2)]) h' → Op C ds i r M Ls ((dst, .tuple #[.bool true, enc k, v]) :: e) h') : Op C ds i r M ((j, false) :: Ls) e h := by
  obtain ⟨o, h1, h2, h3⟩ := nextDO_spec ho
  have hit := s.chunk n hL
  by_cases hrs : rs = []
  · subst hrs
    refine Op.run h1 (R := fun nx h' => nx = .value (.tuple #[.bool false]) ∧ h' = h) ?_ ?_
    · intro w is
      rcases run_next (P := C.P) (w := w) (it := it) (ty := o.type) hR.2 hI (by rw [is.heap]; exact hb) (by rw [is.heap]; exact hit) with ⟨_, w', hrun, hw1, hw2, hw3, hw4⟩ | ⟨a, k, v, b, o', w', hsp, _⟩
      · refine ⟨_, w', ?_, ⟨rfl, hw2.trans is.os, hw3.trans is.tape, hw4.trans is.output⟩, rfl, hw1.trans is.heap⟩
        unfold semOf execOp
        simp only [h3, hx, Sem.run_bind, hrun, Result.andThen_ok, Sem.run_pure]
      · simp at hsp
    · rintro _ _ ⟨rfl, rfl⟩
      refine ⟨_, rfl, fun hk => hk, ?_⟩
      rw [h2]
      exact K.1 rfl
  · refine Op.run h1 (R := fun nx h' => ∃ a k v b o2, nx = .value (.tuple #[.bool true, enc k, v]) ∧ rs = a ++ (k, v) :: b ∧ h' = h.setIfInBounds it o2 ∧ MIt enc es clk m (vs ++ [(k, v)]) (a ++ b) o2) ?_ ?_
    · intro w is
      rcases run_next (P := C.P) (w := w) (it := it) (ty := o.type) hR.2 hI (by rw [is.heap]; exact hb) (by rw [is.heap]; exact hit) with ⟨h, _⟩ | ⟨a, k, v, b, o', w', hsp, hrun, hw1, hw2, hw3, hw4, hI'⟩
      · exact absurd h hrs
      · refine ⟨_, w', ?_, ⟨rfl, hw2.trans is.os, hw3.trans is.tape, hw4.trans is.output⟩, a, k, v, b, o', rfl, hsp, by rw [hw1, is.heap], hI'⟩
        unfold semOf execOp
        simp only [h3, hx, Sem.run_bind, hrun, Result.andThen_ok, Sem.run_pure]
    · rintro _ _ ⟨a, k, v, b, o2, rfl, hsp, rfl, hI'⟩
      refine ⟨_, rfl, fun hk => (Upd.set o2 hit).keep hM hk, ?_⟩
      rw [h2]
      exact K.2 a k v b o2 _ hsp hI' (s.setTo n hL o2)
theorem Op.entryM {dst : Nat} {x : Operand} {it : Nat} {o1 : Obj} {vs rs : List (κ × Value)} {k : κ} {v : Value} (ho : nextDO C i j e = some (some dst, .entry x)) (hx : e.ev x = .pointer (some ⟨it, 0, none⟩)) (hb : h[m]? = some (.map es clk)) (hR : MapR enc es clk ks) (hI : MIt enc es clk m (vs ++ [(k, v)]) rs o1)
    (hit : h[it]? = some o1) (K : Op C ds i r M Ls ((dst, .tuple #[enc k, v]) :: e) h) : Op C ds i r M ((j, false) :: Ls) e h := by
  obtain ⟨o, h1, h2, h3⟩ := nextDO_spec ho
  refine Op.run h1 (R := fun nx h' => nx = .value (.tuple #[enc k, v]) ∧ h' = h) ?_ ?_
  · intro w is
    refine ⟨_, w, ?_, is.again, rfl, is.heap⟩
    obtain ⟨vis, rest, rfl, hp, hv, hr⟩ := hI
    obtain ⟨a', y, b', e1, e2, e3, e4⟩ := map_split (f := fun p : κ × Value => (enc p.1, p.2)) (g := fun e : MapEntry => (e.key, e.val)) hv.symm (a := vs) (x := (k, v)) (b := []) rfl
    have hb' : b' = [] := by cases b' with
      | nil => rfl
      | cons q b' => simp at e4
    subst hb'
    simp only [Prod.mk.injEq] at e3
    have hmem : y ∈ es.toList := hp.mem_iff.1 (by rw [e1]; simp)
    have hbw : w.heap[m]? = some (.map es clk) := by rw [is.heap]; exact hb
    have hback : ((vis.map (·.born)).toArray).back? = some y.born := by rw [e1]; simp
    have hfind : es.find? (fun x => x.born == y.born) = some y := by
      cases hf : es.find? (fun x => x.born == y.born) with
      | none =>
        rw [Array.find?_eq_none] at hf
        have := hf y (by simpa using hmem)
        simp at this
      | some z =>
        have h5 := Array.find?_some hf
        have h6 : z ∈ es.toList := by simpa using Array.mem_of_find?_eq_some hf
        have h7 : z.born = y.born := by simpa using h5
        have hnd := hR.2.2.1
        obtain ⟨i1, hi1⟩ := List.mem_iff_getElem?.1 h6
        obtain ⟨i2, hi2⟩ := List.mem_iff_getElem?.1 hmem
        have q1 : (es.toList.map (·.born))[i1]? = some y.born := by rw [List.getElem?_map, hi1]; simp [h7]
        have q2 : (es.toList.map (·.born))[i2]? = some y.born := by rw [List.getElem?_map, hi2]; rfl
        have hlt := (List.getElem?_eq_some_iff.1 q1).1
        have := (List.getElem?_inj hlt hnd).1 (q1.trans q2.symm)
        subst this
        rw [hi1] at hi2
        exact congrArg some (Option.some.inj hi2)
    have hg : (getObj it).run C.P w = .ok (.mapIter (some m) clk (vis.map (·.born)).toArray clk) w := by simp [getObj, Sem.run, is.heap, hit]
    unfold semOf execOp
    have hrun : (Instr.entry (e.ev x)).run C.P w = .ok (.tuple #[enc k, v]) w := by
      unfold Instr.entry
      simp only [hx, Sem.run_bind, hg, Result.andThen_ok, hback, MapKept.run_getObj_map hbw, hfind, bne_self_eq_false, Bool.false_eq_true, if_false, Sem.run_pure]
      rw [← e3.1, ← e3.2]
    simp only [h3, Sem.run_bind, hrun, Result.andThen_ok, Sem.run_pure]
  · rintro _ _ ⟨rfl, rfl⟩
    refine ⟨_, rfl, fun hk => hk, ?_⟩
    rw [h2]
    exact K
theorem Op.lookSome {dst : Nat} {x ix : Operand} {ok : Bool} {k : κ} {v : Value} (ho : nextDO C i j e = some (some dst, .lookup mt x ix ok)) (hT : mapT C.P mt = some (d, z)) (hK : KeyOk d enc) (hx : e.ev x = .map (some m)) (hix : e.ev ix = enc k)
    (hb : h[m]? = some (.map es clk)) (hR : MapR enc es clk ks) (hv : lookK ks k = some v) (K : Op C ds i r M Ls ((dst, if ok then .tuple #[v, .bool true] else v) :: e) h) : Op C ds i r M ((j, false) :: Ls) e h :=
  Op.lookupR ho hT hK hx hix hb hR (by rw [hv]; exact K)
theorem Op.lookNone {dst : Nat} {x ix : Operand} {ok : Bool} {k : κ} (ho : nextDO C i j e = some (some dst, .lookup mt x ix ok)) (hT : mapT C.P mt = some (d, z)) (hK : KeyOk d enc) (hx : e.ev x = .map (some m)) (hix : e.ev ix = enc k)
    (hb : h[m]? = some (.map es clk)) (hR : MapR enc es clk ks) (hv : lookK ks k = none) (K : Op C ds i r M Ls ((dst, if ok then .tuple #[z, .bool false] else z) :: e) h) : Op C ds i r M ((j, false) :: Ls) e h :=
  Op.lookupR ho hT hK hx hix hb hR (by rw [hv]; exact K)
end
end Go.Proofs.YtmjebehhpojihaaGreatDoor.Sw
namespace Go.Proofs.YtmjebehhpojihaaGreatDoor.Sw
open Go
structure Leaf where
  Path : List UInt8
  Data : List UInt8
  Version : Int
  Owner : Int
  Next : Int
  Born : Int
  deriving DecidableEq
def kLeaf : Kd Leaf where
  sz := 6
  K g x cs := ∃ v0, SlR g 5 kU8 v0 x.Data ∧ cs = [.string (mkS x.Path), v0, .int .i64 x.Version, .int .i64 x.Owner, .int .i64 x.Next, .int .i64 x.Born]
  len h := by obtain ⟨v0, h0, rfl⟩ := h; rfl
  one h := by
    obtain ⟨v0, h0, rfl⟩ := h
    obtain ⟨_, _, rfl⟩ := h0.form
    simp [Value.oneCell']
  mono hg h := by obtain ⟨v0, h0, rfl⟩ := h; exact ⟨v0, h0.mono hg, rfl⟩
  zv := ⟨[], [], 0, 0, 0, 0⟩
  zc := [.string (mkS []), .slice none 0 0, .int .i64 0, .int .i64 0, .int .i64 0, .int .i64 0]
  zK _ := ⟨_, SlR.nil _ _ _, rfl⟩
structure L10Op where
  What : Int
  Owner : Int
  Born : Int
  N : Int
  Path : List UInt8
  Data : List UInt8
  Numbered : Bool
  deriving DecidableEq
def kL10Op : Kd L10Op where
  sz := 7
  K g x cs := ∃ v0, SlR g 5 kU8 v0 x.Data ∧ cs = [.int .i64 x.What, .int .i64 x.Owner, .int .i64 x.Born, .int .i64 x.N, .string (mkS x.Path), v0, .bool x.Numbered]
  len h := by obtain ⟨v0, h0, rfl⟩ := h; rfl
  one h := by
    obtain ⟨v0, h0, rfl⟩ := h
    obtain ⟨_, _, rfl⟩ := h0.form
    simp [Value.oneCell']
  mono hg h := by obtain ⟨v0, h0, rfl⟩ := h; exact ⟨v0, h0.mono hg, rfl⟩
  zv := ⟨0, 0, 0, 0, [], [], false⟩
  zc := [.int .i64 0, .int .i64 0, .int .i64 0, .int .i64 0, .string (mkS []), .slice none 0 0, .bool false]
  zK _ := ⟨_, SlR.nil _ _ _, rfl⟩
structure R10Tree where
  All : List Leaf
  deriving DecidableEq
end Go.Proofs.YtmjebehhpojihaaGreatDoor.Sw
namespace Go.Proofs.YtmjebehhpojihaaGreatDoor.Sw
set_option linter.unusedVariables false
set_option linter.unusedSimpArgs false
set_option linter.deprecated false
open Go
theorem hasP1 {s p : List UInt8} : (s.take p.length == p) = p.isPrefixOf s := by
  rw [Bool.eq_iff_iff, beq_iff_eq, List.isPrefixOf_iff_prefix, List.prefix_iff_eq_take]
  exact eq_comm
theorem hasP2 {s p : List UInt8} (h : s.length < p.length) : p.isPrefixOf s = false := by
  rw [← Bool.not_eq_true, List.isPrefixOf_iff_prefix]
  intro hp
  have := hp.length_le
  omega
theorem hasP_len {s p : List UInt8} (h : p.isPrefixOf s = true) : p.length ≤ s.length := (List.isPrefixOf_iff_prefix.1 h).length_le
theorem asciiAll {l : List UInt8} (h : l.all (fun b => decide (b.toNat < 128)) = true) : ∀ (j : Nat) b, l[j]? = some b → b.toNat < 128 :=
  fun _ b hb => of_decide_eq_true (List.all_eq_true.1 h b (List.mem_of_getElem? hb))
def signs : List UInt8 := [97,98,99,100,101,102,103,104,105,106,107,108,109,110,111,112,113,114,115,116,117,118,119,120,121,122,48,49,50,51,52,53,54,55,56,57,45,95]
def sgn (c : UInt8) : Bool := (decide (97 ≤ c.toNat) && decide (c.toNat ≤ 122)) || ((decide (48 ≤ c.toNat) && decide (c.toNat ≤ 57)) || (decide (c.toNat = 45) || decide (c.toNat = 95)))
theorem sgn_signs (c : UInt8) : signs.contains c = sgn c := by
  revert c
  have : ∀ n : Fin 256, signs.contains (UInt8.ofNat n.1) = sgn (UInt8.ofNat n.1) := by decide +kernel
  intro c
  have h := this ⟨c.toNat, c.toNat_lt⟩
  simpa using h
def okPart (s : List UInt8) : Bool := decide (s ≠ []) && (decide (s.length ≤ 16) && s.all sgn)
theorem trimE (s : List UInt8) : (Lib.trimS s signs == []) = s.all sgn := by
  rw [Bool.eq_iff_iff, beq_iff_eq, trimS_nil, List.all_eq_true]
  constructor
  · intro h b hb; rw [← sgn_signs]; exact h b hb
  · intro h b hb; rw [sgn_signs]; exact h b hb
theorem part_t {s : List UInt8} (h0 : ¬ (s = [])) (h1 : (s.length : Int) ≤ 16) : (Lib.trimS s signs == []) = okPart s := by
  rw [trimE, okPart, decide_eq_true h0, decide_eq_true (by omega), Bool.true_and, Bool.true_and]
theorem part_l {s : List UInt8} (h : ¬ ((s.length : Int) ≤ 16)) : false = okPart s := by
  rw [okPart, decide_eq_false (show ¬ s.length ≤ 16 by omega)]; simp
theorem part_0 : false = okPart [] := by simp [okPart]
def findI {α : Type} (q : α → Bool) : List α → Int
  | [] => -1
  | x :: xs => if q x = true then 0 else if findI q xs < 0 then -1 else findI q xs + 1
theorem findI_ge {α : Type} (q : α → Bool) : ∀ l, -1 ≤ findI q l
  | [] => by simp [findI]
  | x :: xs => by unfold findI; have := findI_ge q xs; split <;> (try split) <;> omega
theorem findI_any {α : Type} (q : α → Bool) : ∀ l, decide (0 ≤ findI q l) = l.any q
  | [] => by simp [findI]
  | x :: xs => by
    have ih := findI_any q xs
    unfold findI
    rw [List.any_cons, ← ih]
    by_cases h : q x = true
    · simp [h]
    · by_cases h2 : findI q xs < 0
      · simp [h, h2]
      · simp [h, h2]; omega
def findAt {α : Type} (q : α → Bool) (l : List α) (i : Int) : Prop := findI q l = if findI q (l.drop i.toNat) < 0 then -1 else i + findI q (l.drop i.toNat)
theorem findAt_0 {α : Type} (q : α → Bool) (l : List α) : findAt q l 0 := by
  unfold findAt
  have := findI_ge q l
  simp only [Int.toNat_zero, List.drop_zero, Int.zero_add]
  split <;> omega
theorem findAt_hit {α : Type} {q : α → Bool} {l : List α} {i : Int} {x : α} (H : findAt q l i) (hx : l[i.toNat]? = some x) (hq : q x = true) : i = findI q l := by
  unfold findAt at H
  rw [H, drop_at hx]
  simp [findI, hq]
theorem findAt_miss {α : Type} {q : α → Bool} {l : List α} {i : Int} {x : α} (H : findAt q l i) (h0 : 0 ≤ i) (hx : l[i.toNat]? = some x) (hq : q x = false) : findAt q l (i + 1) := by
  unfold findAt at H ⊢
  have hg := findI_ge q (l.drop (i.toNat + 1))
  rw [H, drop_at hx, toNat_succ h0]
  simp only [findI, hq, Bool.false_eq_true, if_false]
  split <;> split <;> (try split) <;> omega
theorem findAt_end {α : Type} {q : α → Bool} {l : List α} {i : Int} (H : findAt q l i) (h : ¬ (i < (l.length : Int))) : -1 = findI q l := by
  unfold findAt at H
  rw [H, List.drop_eq_nil_of_le (by omega)]
  simp [findI]
def pOk (p : List UInt8) : Bool := decide (p.head? = some 47) && (decide (p.length ≤ 64) && (decide (p = [47]) || (splitOn 47 (p.drop 1)).all okPart))
def pList (p : List UInt8) : List (List UInt8) := if pOk p = true then (if p = [47] then [] else splitOn 47 (p.drop 1)) else []
def pErr (p : List UInt8) : Int := if pOk p = true then 0 else 90
theorem slashPre (p : List UInt8) : ([47] : List UInt8).isPrefixOf p = decide (p.head? = some 47) := by
  cases p with
  | nil => simp [List.isPrefixOf]
  | cons b l =>
    by_cases h : b = 47
    · simp [List.isPrefixOf, h]
    · simp [List.isPrefixOf, h]; exact fun e => h e.symm
theorem pOk_no {p : List UInt8} (h : ([47] : List UInt8).isPrefixOf p = false) : pOk p = false := by
  rw [slashPre] at h; simp [pOk, h]
theorem pOk_long {p : List UInt8} (h : 64 < p.length) : pOk p = false := by
  simp [pOk]; intro _ h2; omega
theorem pOk_iff {p : List UInt8} (h : ([47] : List UInt8).isPrefixOf p = true) (hl : p.length ≤ 64) : pOk p = (decide (p = [47]) || (splitOn 47 (p.drop 1)).all okPart) := by
  rw [slashPre] at h; simp [pOk, h, hl]
theorem drop1_nil {p : List UInt8} (h : ([47] : List UInt8).isPrefixOf p = true) : p.drop 1 = [] ↔ p = [47] := by
  cases p with
  | nil => simp [List.isPrefixOf] at h
  | cons b l =>
    simp [List.isPrefixOf] at h
    subst h
    simp
theorem splitOn_len (c : UInt8) (l : List UInt8) : (splitOn c l).length ≤ l.length + 1 := by
  rw [splitOn_length]; have := List.count_le_length (a := c) (l := l); omega
theorem pList_len (p : List UInt8) : (pList p).length ≤ 64 := by
  unfold pList
  split
  · rename_i h
    split
    · simp
    · have h2 := splitOn_len 47 (p.drop 1)
      simp [pOk] at h
      rw [List.length_drop] at h2
      have : p.length ≠ 0 := by intro e; have := List.eq_nil_of_length_eq_zero e; subst this; simp at h
      omega
  · simp
def cutErr (p : List UInt8) : Int := if pList p = [] then 90 else 0
def lastOf (l : List (List UInt8)) : List UInt8 := l.getLast?.getD []
def joined (l : List (List UInt8)) : List UInt8 := 47 :: joinC 47 l
def parentOf (p : List UInt8) : List UInt8 := if pList p = [] then [] else joined (pList p).dropLast
def nameOf (p : List UInt8) : List UInt8 := lastOf (pList p)
def checkedS (p : List UInt8) : List UInt8 := if pOk p = true then p else []
def dig5 (n : Int) : List UInt8 := Lib.repeatL [48] (5 - (Lib.itoa n).length) ++ Lib.itoa n
def numOk (p : List UInt8) (n : Int) : Bool := decide (pList p ≠ []) && (decide (0 ≤ n) && decide (n ≤ 99999))
def numS (p : List UInt8) (n : Int) : List UInt8 := if numOk p n then checkedS (p ++ dig5 n) else []
def numE (p : List UInt8) (n : Int) : Int := if numOk p n then pErr (p ++ dig5 n) else 90
theorem joinE_L (l : List (List UInt8)) : Lib.join l [47] = joinC 47 l := by
  induction l with
  | nil => rfl
  | cons x xs ih =>
    cases xs with
    | nil => simp [Lib.join, List.intercalate, joinC]
    | cons y ys =>
      rw [joinC, ← ih]
      simp [Lib.join, List.intercalate]
theorem pErr_ok {p : List UInt8} : pErr p = 0 ↔ pOk p = true := by unfold pErr; split <;> simp_all
theorem pList_no {p : List UInt8} (h : ¬ (pErr p = 0)) : pList p = [] := by
  rw [pErr_ok] at h; simp [pList, h]
theorem getLast_of {l : List (List UInt8)} {x : List UInt8} {n : Nat} (h : l[n]? = some x) (hn : n + 1 = l.length) : x = lastOf l := by
  unfold lastOf
  rw [List.getLast?_eq_getElem?, show l.length - 1 = n from by omega, h]; rfl
theorem cutErr_0 {p : List UInt8} (h : ¬ ((pList p).length = 0)) : cutErr p = 0 := by
  unfold cutErr; rw [if_neg]; intro e; rw [e] at h; simp at h
theorem no_ok {p : List UInt8} (h : pOk p = false) : ([] : List (List UInt8)) = pList p ∧ (90 : Int) = pErr p := by simp [pList, pErr, h]
theorem splitOn_memlen (c : UInt8) : ∀ (l : List UInt8), ∀ x ∈ splitOn c l, x.length ≤ l.length
  | [], x, hx => by simp [splitOn] at hx; subst hx; simp
  | b :: l, x, hx => by
    have ih := splitOn_memlen c l
    unfold splitOn at hx
    split at hx
    · rcases List.mem_cons.1 hx with rfl | hx
      · simp
      · have := ih x hx; simp; omega
    · split at hx
      · rename_i y ys hy
        rw [hy] at ih
        rcases List.mem_cons.1 hx with rfl | hx
        · have := ih y (by simp); simp; omega
        · have := ih x (by simp [hx]); simp; omega
      · rename_i hy; exact absurd hy (splitOn_ne c l)
def restOf (p : List UInt8) : List UInt8 := if ([47] : List UInt8).isPrefixOf p = true then p.drop ([47] : List UInt8).length else p
theorem restOf_len (p : List UInt8) : (restOf p).length ≤ p.length := by unfold restOf; split <;> simp
theorem restOf_eq {p : List UInt8} (h : ([47] : List UInt8).isPrefixOf p = true) : restOf p = p.drop 1 := by simp [restOf, h]
theorem parts_0 {p : List UInt8} (h : ([47] : List UInt8).isPrefixOf p = true) (hl : ¬ (p.length : Int) > 64) (hr : restOf p = []) : ([] : List (List UInt8)) = pList p ∧ (0 : Int) = pErr p := by
  rw [restOf_eq h, drop1_nil h] at hr
  subst hr
  exact ⟨by decide, by decide⟩
theorem parts_1 {p : List UInt8} (h : ([47] : List UInt8).isPrefixOf p = true) (hl : ¬ (p.length : Int) > 64) (hr : ¬ (restOf p = [])) (ha : (splitOn 47 (restOf p)).any (fun s => !okPart s) = true) : pOk p = false := by
  rw [restOf_eq h, drop1_nil h] at hr
  rw [restOf_eq h] at ha
  rw [pOk_iff h (by omega), decide_eq_false hr, Bool.false_or]
  rw [← Bool.not_eq_true]
  intro hall
  rw [List.any_eq_true] at ha
  obtain ⟨x, hx, hb⟩ := ha
  rw [List.all_eq_true] at hall
  rw [hall x hx] at hb
  cases hb
theorem parts_2 {p : List UInt8} (h : ([47] : List UInt8).isPrefixOf p = true) (hl : ¬ (p.length : Int) > 64) (hr : ¬ (restOf p = [])) (ha : (splitOn 47 (restOf p)).any (fun s => !okPart s) = false) : splitOn 47 (restOf p) = pList p ∧ (0 : Int) = pErr p := by
  rw [restOf_eq h, drop1_nil h] at hr
  rw [restOf_eq h] at ha ⊢
  have hok : pOk p = true := by
    rw [pOk_iff h (by omega), decide_eq_false hr, Bool.false_or, List.all_eq_true]
    intro x hx
    rw [List.any_eq_false] at ha
    have := ha x hx
    simpa using this
  simp [pList, pErr, hok, hr]
theorem cut_no {p : List UInt8} (h : pList p = []) : ([] : List (List UInt8)) = (pList p).dropLast ∧ ([] : List UInt8) = lastOf (pList p) ∧ (90 : Int) = cutErr p := by
  simp [h, lastOf, cutErr]
theorem take_last {l : List (List UInt8)} {n : Int} (h : n = (l.length : Int) - 1) (h0 : ¬ ((l.length : Int) = 0)) : l.take n.toNat = l.dropLast := by
  rw [List.dropLast_eq_take]
  congr 1
  omega
theorem joinC_cons_len (c : UInt8) (x : List UInt8) (l : List (List UInt8)) : (joinC c (x :: l)).length = x.length + (if l = [] then 0 else 1 + (joinC c l).length) := by
  cases l with
  | nil => simp [joinC]
  | cons y ys => simp [joinC]; omega
theorem joinC_dropLast_len (c : UInt8) : ∀ l : List (List UInt8), (joinC c l.dropLast).length ≤ (joinC c l).length
  | [] => by simp
  | [x] => by simp [joinC]
  | x :: y :: l => by
    have ih := joinC_dropLast_len c (y :: l)
    rw [List.dropLast_cons_cons, joinC_cons_len, joinC_cons_len]
    split <;> simp <;> omega
theorem pJoined {p : List UInt8} (h : pOk p = true) : joined (pList p) = p := by
  unfold pList
  rw [if_pos h]
  have hh : p.head? = some 47 := by simp [pOk] at h; exact h.1
  split
  · rename_i e; subst e; rfl
  · unfold joined
    rw [joinC_splitOn]
    cases p with
    | nil => simp at hh
    | cons b l => simp at hh; subst hh; simp
theorem pJoin_len (p : List UInt8) : (joinC 47 (pList p)).length ≤ p.length := by
  by_cases h : pOk p = true
  · have := congrArg List.length (pJoined h)
    simp [joined] at this
    omega
  · simp [pList, h, joinC]
theorem pDrop_len (p : List UInt8) : (joinC 47 (pList p).dropLast).length ≤ p.length := Nat.le_trans (joinC_dropLast_len _ _) (pJoin_len p)
theorem pDropL_len (p : List UInt8) : (pList p).dropLast.length ≤ 64 := by have := pList_len p; simp; omega
theorem cut_eq {p : List UInt8} (h : cutErr p = 0) : pList p ≠ [] := by intro e; simp [cutErr, e] at h
theorem cut_ne {p : List UInt8} (h : ¬ (cutErr p = 0)) : pList p = [] := by
  unfold cutErr at h; split at h
  · assumption
  · simp at h
theorem parent_no {p : List UInt8} (h : ¬ (cutErr p = 0)) : [] = parentOf p := by simp [parentOf, cut_ne h]
theorem parent_ok {p : List UInt8} (h : cutErr p = 0) : joined (pList p).dropLast = parentOf p := by simp [parentOf, cut_eq h]
theorem checked_no {p : List UInt8} (h : ¬ (pErr p = 0)) : [] = checkedS p := by rw [pErr_ok] at h; simp [checkedS, h]
theorem checked_ok {p : List UInt8} (h : pErr p = 0) : p = checkedS p ∧ 0 = pErr p := by rw [h]; rw [pErr_ok] at h; simp [checkedS, h]
theorem itoa_len {n : Int} (h0 : 0 ≤ n) (h1 : n ≤ 99999) : 1 ≤ (Lib.itoa n).length ∧ (Lib.itoa n).length ≤ 5 := by
  rw [Lib.itoa, if_neg (by omega), Lib.decDigits_length]
  refine ⟨Lib.nDigits_pos _, ?_⟩
  have hu : n.toNat ≤ 99999 := by omega
  generalize n.toNat = u at hu
  by_cases a1 : u < 10
  · rw [Lib.nDigits_small a1]; omega
  by_cases a2 : u < 100
  · rw [Lib.nDigits_unique 1 u (by omega) (by omega)]; omega
  by_cases a3 : u < 1000
  · rw [Lib.nDigits_unique 2 u (by omega) (by omega)]; omega
  by_cases a4 : u < 10000
  · rw [Lib.nDigits_unique 3 u (by omega) (by omega)]; omega
  · rw [Lib.nDigits_unique 4 u (by omega) (by omega)]; omega
theorem num_no {p : List UInt8} {n : Int} (h : numOk p n = false) : [] = numS p n ∧ (90 : Int) = numE p n := by simp [numS, numE, h]
theorem numOk_f1 {p : List UInt8} {n : Int} (h : ¬ (cutErr p = 0)) : numOk p n = false := by simp [numOk, cut_ne h]
theorem numOk_f2 {p : List UInt8} {n : Int} (h : n < 0) : numOk p n = false := by simp [numOk]; intros; omega
theorem numOk_f3 {p : List UInt8} {n : Int} (h : n > 99999) : numOk p n = false := by simp [numOk]; intros; omega
theorem numOk_t {p : List UInt8} {n : Int} (h : cutErr p = 0) (h0 : ¬ n < 0) (h1 : ¬ n > 99999) : numOk p n = true := by simp [numOk, cut_eq h]; omega
theorem num_yes {p : List UInt8} {n : Int} (h : numOk p n = true) {k : Nat} (hk : k = 5 - (Lib.itoa n).length) : checkedS ((p ++ Lib.repeatL [48] k) ++ Lib.itoa n) = numS p n ∧ pErr ((p ++ Lib.repeatL [48] k) ++ Lib.itoa n) = numE p n := by
  subst hk
  simp [numS, numE, h, dig5, List.append_assoc]
end Go.Proofs.YtmjebehhpojihaaGreatDoor.Sw
namespace Go.Proofs.YtmjebehhpojihaaGreatDoor.Sw
set_option linter.unusedVariables false
set_option linter.unusedSimpArgs false
set_option linter.deprecated false
open Go
section
variable {α : Type} [DecidableEq α]
theorem sameE_len {a b : List α} (h : ¬ ((a.length : Int) = b.length)) : false = decide (a = b) := by
  symm; rw [decide_eq_false_iff_not]; intro e; subst e; exact h rfl
theorem sameE_ne {a b : List α} {i : Nat} {x y : α} (hx : a[i]? = some x) (hy : b[i]? = some y) (h : ¬ (x = y)) : false = decide (a = b) := by
  symm; rw [decide_eq_false_iff_not]; intro e; subst e; rw [hx] at hy; exact h (Option.some.inj hy)
theorem sameE_end {a b : List α} {i : Int} (hl : (a.length : Int) = b.length) (h : ¬ (i < (a.length : Int))) (ht : a.take i.toNat = b.take i.toNat) : true = decide (a = b) := by
  symm; rw [decide_eq_true_iff]; rwa [List.take_of_length_le (by omega), List.take_of_length_le (by omega)] at ht
end
theorem take_step {α : Type} {a b : List α} {i : Int} {x y : α} (ht : a.take i.toNat = b.take i.toNat) (h0 : 0 ≤ i) (hx : a[i.toNat]? = some x) (hy : b[i.toNat]? = some y) (e : x = y) : a.take (i + 1).toNat = b.take (i + 1).toNat := by
  rw [toNat_succ h0, take_at hx, take_at hy, ht, e]
def allTo (s : List UInt8) (i : Int) : Prop := (s.take i.toNat).all sgn = true
theorem allTo_0 (s : List UInt8) : allTo s 0 := by simp [allTo]
theorem allTo_step {s : List UInt8} {i : Int} {x : UInt8} (h : allTo s i) (hx : s[i.toNat]? = some x) (hs : sgn x = true) (h0 : 0 ≤ i) : allTo s (i + 1) := by
  unfold allTo at *
  rw [toNat_succ h0, take_at hx, List.all_append, h]; simp [hs]
theorem part_bad {s : List UInt8} {i : Int} {x : UInt8} (hx : s[i.toNat]? = some x) (hs : sgn x = false) : false = okPart s := by
  symm
  rw [← Bool.not_eq_true]
  intro h
  simp only [okPart, Bool.and_eq_true, List.all_eq_true] at h
  rw [h.2.2 x (List.mem_of_getElem? hx)] at hs; cases hs
theorem part_end {s : List UInt8} {i : Int} (h : allTo s i) (hi : ¬ (i < (s.length : Int))) (h1 : (s.length : Int) ≥ 1) : decide ((s.length : Int) ≤ 16) = okPart s := by
  unfold allTo at h
  rw [List.take_of_length_le (by omega)] at h
  rw [okPart, h, decide_eq_true (show s ≠ [] by intro e; subst e; simp at h1), Bool.true_and, Bool.and_true]
  apply decide_eq_decide.2
  omega
theorem part_end0 {s : List UInt8} (h1 : ¬ (s.length : Int) ≥ 1) : false = okPart s := by
  have : s = [] := List.eq_nil_of_length_eq_zero (by omega)
  subst this; exact part_0
def wh (l : List (List UInt8)) : List UInt8 := (l.map fun x => 47 :: x).flatten
theorem wh_joined : ∀ l : List (List UInt8), l ≠ [] → wh l = joined l
  | [], h => absurd rfl h
  | [x], _ => by simp [wh, joined, joinC]
  | x :: y :: l, _ => by
    have ih := wh_joined (y :: l) (by simp)
    simp only [wh, List.map_cons, List.flatten_cons] at ih ⊢
    rw [ih]; simp [joined, joinC]
theorem wh_step {l : List (List UInt8)} {i : Int} {x out : List UInt8} (h : out = wh (l.take i.toNat)) (h0 : 0 ≤ i) (hx : l[i.toNat]? = some x) : out ++ ([47] ++ x) = wh (l.take (i + 1).toNat) := by
  rw [toNat_succ h0, take_at hx, h]; simp [wh]
theorem wh_len_take (l : List (List UInt8)) (k : Nat) : (wh (l.take k)).length ≤ (wh l).length := by
  have : wh l = wh (l.take k) ++ wh (l.drop k) := by unfold wh; rw [← List.flatten_append, ← List.map_append, List.take_append_drop]
  rw [this, List.length_append]; omega
theorem wh_bound {l : List (List UInt8)} {i : Int} {x out : List UInt8} (h : out = wh (l.take i.toNat)) (h0 : 0 ≤ i) (hx : l[i.toNat]? = some x) : out.length + x.length + 1 ≤ (joined l).length := by
  have h1 := wh_step h h0 hx
  have h2 := wh_len_take l (i + 1).toNat
  rw [← h1] at h2
  have hne : l ≠ [] := by intro e; subst e; simp at hx
  rw [wh_joined l hne] at h2
  simp at h2; omega
theorem wh_nil {l : List (List UInt8)} (h : wh l = []) : l = [] := by
  cases l with
  | nil => rfl
  | cons x xs => simp [wh] at h
theorem wh_end0 {l : List (List UInt8)} {i : Int} {out : List UInt8} (h : out = wh (l.take i.toNat)) (hi : ¬ (i < (l.length : Int))) (he : out = []) : [47] = joined l := by
  rw [List.take_of_length_le (by omega)] at h
  have hl : l = [] := wh_nil (by rw [← h]; exact he)
  rw [hl]; rfl
theorem wh_end1 {l : List (List UInt8)} {i : Int} {out : List UInt8} (h : out = wh (l.take i.toNat)) (hi : ¬ (i < (l.length : Int))) (he : ¬ (out = [])) : out = joined l := by
  rw [List.take_of_length_le (by omega)] at h
  rw [h, wh_joined l (by intro e; subst e; simp [wh] at h; exact he h)]
def PInv (p : List UInt8) (out : List (List UInt8)) (f i : Int) : Prop :=
  out.all okPart = true ∧ (i ≤ p.length → 1 ≤ f ∧ f ≤ i ∧ splitOn 47 (p.drop 1) = out ++ splitOn 47 (p.drop f.toNat) ∧ 47 ∉ ((p.take i.toNat).drop f.toNat)) ∧ (¬ i ≤ p.length → out = splitOn 47 (p.drop 1))
theorem PInv_0 {p : List UInt8} (h : 1 ≤ p.length) : PInv p [] 1 1 := by
  refine ⟨rfl, fun _ => ⟨by omega, by omega, by simp, ?_⟩, fun h => by omega⟩
  have : (p.take 1).drop 1 = [] := by apply List.drop_eq_nil_of_le; simp; omega
  intro hm
  rw [show ((1 : Int).toNat) = 1 from rfl, this] at hm
  simp at hm
theorem PInv_miss {p : List UInt8} {out : List (List UInt8)} {f i : Int} {x : UInt8} (H : PInv p out f i) (hi : i ≤ p.length) (hne : ¬ (i = (p.length : Int))) (hx : p[i.toNat]? = some x) (hx47 : ¬ ((x.toNat : Int) = 47)) : PInv p out f (i + 1) := by
  obtain ⟨h1, h2, _⟩ := H
  obtain ⟨h3, h4, h5, h6⟩ := h2 hi
  refine ⟨h1, fun _ => ⟨h3, by omega, h5, ?_⟩, fun h => by omega⟩
  rw [toNat_succ (by omega), take_at hx, List.drop_append_of_le_length (by simp; omega)]
  intro hm
  rcases List.mem_append.1 hm with h | h
  · exact h6 h
  · have : (47 : UInt8) = x := by simpa using h
    subst this; exact hx47 rfl
theorem PInv_part {p : List UInt8} {out : List (List UInt8)} {f i : Int} (H : PInv p out f i) (hi : i ≤ p.length) (hc : i = (p.length : Int) ∨ ∃ x : UInt8, p[i.toNat]? = some x ∧ (x.toNat : Int) = 47) :
    (i = (p.length : Int) → splitOn 47 (p.drop 1) = out ++ [(p.take i.toNat).drop f.toNat]) ∧ (¬ (i = (p.length : Int)) → splitOn 47 (p.drop 1) = out ++ (p.take i.toNat).drop f.toNat :: splitOn 47 (p.drop (i.toNat + 1))) := by
  obtain ⟨h1, h2, _⟩ := H
  obtain ⟨h3, h4, h5, h6⟩ := h2 hi
  constructor
  · intro e
    have e2 : (p.take i.toNat) = p := List.take_of_length_le (by omega)
    rw [e2] at h6 ⊢
    rw [h5, splitOn_miss 47 _ h6]
  · intro hne
    rcases hc with e | ⟨x, hx, e⟩
    · exact absurd e hne
    · have hx47 : x = 47 := by
        apply UInt8.toNat_inj.1
        have : (x.toNat : Int) = ((47 : UInt8).toNat : Int) := e
        omega
      subst hx47
      have : p.drop f.toNat = (p.take i.toNat).drop f.toNat ++ 47 :: p.drop (i.toNat + 1) := by
        conv => lhs; rw [← List.take_append_drop i.toNat p]
        rw [List.drop_append_of_le_length (by simp; omega), drop_at hx]
      rw [h5, this, splitOn_hit 47 _ _ h6]
theorem PInv_next {p : List UInt8} {out : List (List UInt8)} {f i : Int} (H : PInv p out f i) (hi : i ≤ p.length) (hc : i = (p.length : Int) ∨ ∃ x : UInt8, p[i.toNat]? = some x ∧ (x.toNat : Int) = 47)
    (hok : okPart ((p.take i.toNat).drop f.toNat) = true) : PInv p (out ++ [(p.take i.toNat).drop f.toNat]) (i + 1) (i + 1) := by
  have hp := PInv_part H hi hc
  have hf := H.2.1 hi
  refine ⟨by rw [List.all_append, H.1]; simp [hok], fun hle => ⟨by omega, by omega, ?_, ?_⟩, fun hgt => ?_⟩
  · rw [hp.2 (by omega), toNat_succ (by omega)]; simp
  · have : (p.take (i + 1).toNat).drop (i + 1).toNat = [] := by apply List.drop_eq_nil_of_le; simp; omega
    rw [this]; simp
  · rw [hp.1 (by omega)]
theorem PInv_bad {p : List UInt8} {out : List (List UInt8)} {f i : Int} (H : PInv p out f i) (hi : i ≤ p.length) (hc : i = (p.length : Int) ∨ ∃ x : UInt8, p[i.toNat]? = some x ∧ (x.toNat : Int) = 47)
    (h47 : ¬ (p = [47])) (hok : okPart ((p.take i.toNat).drop f.toNat) = false) : pOk p = false := by
  have hp := PInv_part H hi hc
  have hm : (p.take i.toNat).drop f.toNat ∈ splitOn 47 (p.drop 1) := by
    by_cases e : i = (p.length : Int)
    · rw [hp.1 e]; simp
    · rw [hp.2 e]; simp
  rw [← Bool.not_eq_true]
  intro h
  simp only [pOk, Bool.and_eq_true, Bool.or_eq_true, List.all_eq_true, decide_eq_true_eq] at h
  rcases h.2.2 with e | e
  · exact h47 e
  · rw [e _ hm] at hok; cases hok
theorem head_at {p : List UInt8} {x : UInt8} (hx : p[(0 : Int).toNat]? = some x) (h : (x.toNat : Int) = 47) : p.head? = some 47 := by
  have hx47 : x = 47 := by
    apply UInt8.toNat_inj.1
    have : (x.toNat : Int) = ((47 : UInt8).toNat : Int) := h
    omega
  subst hx47
  rw [List.head?_eq_getElem?]; exact hx
theorem PInv_end {p : List UInt8} {out : List (List UInt8)} {f i : Int} (H : PInv p out f i) (hi : ¬ (i ≤ (p.length : Int))) (h47 : ¬ (p = [47])) (hh : p.head? = some 47) (hl : ¬ (p.length : Int) > 64) : out = pList p ∧ (0 : Int) = pErr p := by
  have ho := H.2.2 hi
  have hok : pOk p = true := by
    simp only [pOk, hh, decide_true, Bool.true_and, Bool.and_eq_true, decide_eq_true_eq, Bool.or_eq_true]
    exact ⟨by omega, .inr (ho ▸ H.1)⟩
  simp [pList, pErr, hok, h47, ho]
theorem noR1 {p : List UInt8} (h : (p.length : Int) < 1) : pOk p = false := by
  have : p = [] := List.eq_nil_of_length_eq_zero (by omega)
  subst this; rfl
theorem noR3 {p : List UInt8} {x : UInt8} (hx : p[(0 : Int).toNat]? = some x) (h : ¬ ((x.toNat : Int) = 47)) : pOk p = false := by
  have hn : ¬ (p.head? = some 47) := by
    rw [List.head?_eq_getElem?]; intro e
    have e' : p[(0 : Int).toNat]? = some 47 := e
    rw [hx] at e'
    have := Option.some.inj e'
    subst this; exact h rfl
  simp [pOk, hn]
theorem parts_47 {p : List UInt8} (h : p = [47]) : ([] : List (List UInt8)) = pList p ∧ (0 : Int) = pErr p := by subst h; exact ⟨by decide, by decide⟩
theorem parentR_no {p : List UInt8} (h : pList p = []) : ([] : List UInt8) = parentOf p ∧ (90 : Int) = cutErr p ∧ ([] : List UInt8) = nameOf p := by simp [parentOf, cutErr, nameOf, lastOf, h]
theorem parentR_ok {p : List UInt8} (h : ¬ (((pList p).length : Int) = 0)) : joined ((pList p).take (((pList p).length : Int) - 1).toNat) = parentOf p ∧ (0 : Int) = cutErr p := by
  have hne : pList p ≠ [] := by intro e; rw [e] at h; simp at h
  rw [take_last rfl h]
  simp [parentOf, cutErr, hne]
theorem nil_len {l : List (List UInt8)} (h : (l.length : Int) = 0) : l = [] := List.eq_nil_of_length_eq_zero (by omega)
end Go.Proofs.YtmjebehhpojihaaGreatDoor.Sw
namespace Go.Proofs.YtmjebehhpojihaaGreatDoor.Sw
set_option linter.unusedVariables false
set_option linter.unusedSimpArgs false
set_option linter.deprecated false
open Go
def low : Nat → Nat → List UInt8
  | 0, _ => []
  | k + 1, n => UInt8.ofNat (48 + n / 10 ^ k % 10) :: low k n
def DInv (n : Int) (d : List UInt8) (q i : Int) : Prop := d = List.replicate (i + 1).toNat 0 ++ low (4 - i).toNat n.toNat ∧ q = ((n.toNat / 10 ^ (4 - i).toNat : Nat) : Int)
theorem DInv_0 {n : Int} (h : 0 ≤ n) : DInv n [0, 0, 0, 0, 0] n 4 := by
  refine ⟨rfl, ?_⟩
  simp; omega
theorem DInv_step {n : Int} {d : List UInt8} {q i : Int} (H : DInv n d q i) (h0 : 0 ≤ i) (h1 : i ≤ 4) : DInv n (d.set i.toNat (UInt8.ofNat (48 + q % 10).toNat)) (q / 10) (i - 1) := by
  obtain ⟨hd, hq⟩ := H
  have e1 : (i - 1 + 1).toNat = i.toNat := by omega
  have e2 : (4 - (i - 1)).toNat = (4 - i).toNat + 1 := by omega
  have e3 : (i + 1).toNat = i.toNat + 1 := by omega
  constructor
  · rw [e1, e2, low, hd, e3, List.replicate_succ', List.append_assoc, List.set_append]
    simp only [List.length_replicate, Nat.lt_irrefl, if_false, Nat.sub_self, List.singleton_append, List.set_cons_zero]
    congr 2
    rw [hq]
    congr 1
  · rw [e2, hq, Nat.pow_succ, ← Nat.div_div_eq_div_mul]
    omega
theorem DInv_end {n : Int} {d : List UInt8} {q i : Int} (H : DInv n d q i) (h0 : ¬ i ≥ 0) (h1 : -1 ≤ i) : d = low 5 n.toNat := by
  obtain ⟨hd, _⟩ := H
  have : i = -1 := by omega
  subst this
  exact hd
theorem low_dig {n : Int} (h0 : 0 ≤ n) (h1 : n ≤ 99999) : low 5 n.toNat = dig5 n := by
  unfold dig5
  have hi : Lib.itoa n = Lib.decDigits n.toNat := by rw [Lib.itoa, if_neg (by omega)]
  rw [hi]
  have hu : n.toNat ≤ 99999 := by omega
  generalize n.toNat = u at hu
  have z : (UInt8.ofNat (48 + 0)) = 48 := rfl
  have one : ∀ v, v < 10 → Lib.decDigits v = [UInt8.ofNat (48 + v)] := fun v h => by rw [Lib.decDigits, dif_pos h]
  have more : ∀ v, ¬ v < 10 → Lib.decDigits v = Lib.decDigits (v / 10) ++ [UInt8.ofNat (48 + v % 10)] := fun v h => by rw [Lib.decDigits, dif_neg h]
  have d2 : u / 10 / 10 = u / 100 := by omega
  have d3 : u / 100 / 10 = u / 1000 := by omega
  have d4 : u / 1000 / 10 = u / 10000 := by omega
  simp only [low, Nat.pow_zero, Nat.div_one, show (10 : Nat) ^ 4 = 10000 from rfl, show (10 : Nat) ^ 3 = 1000 from rfl, show (10 : Nat) ^ 2 = 100 from rfl, show (10 : Nat) ^ 1 = 10 from rfl]
  by_cases a1 : u < 10
  · rw [one u a1]
    simp [Lib.repeatL, show u / 10000 = 0 by omega, show u / 1000 = 0 by omega, show u / 100 = 0 by omega, show u / 10 = 0 by omega, show u % 10 = u by omega]
  by_cases a2 : u < 100
  · rw [more u a1, one _ (by omega)]
    simp [Lib.repeatL, show u / 10000 = 0 by omega, show u / 1000 = 0 by omega, show u / 100 = 0 by omega, show u / 10 % 10 = u / 10 by omega]
  by_cases a3 : u < 1000
  · rw [more u a1, more (u / 10) (by omega), one _ (by omega)]
    simp [Lib.repeatL, show u / 10000 = 0 by omega, show u / 1000 = 0 by omega, d2, show u / 100 % 10 = u / 100 by omega]
  by_cases a4 : u < 10000
  · rw [more u a1, more (u / 10) (by omega), more (u / 10 / 10) (by omega), one _ (by omega)]
    simp [Lib.repeatL, show u / 10000 = 0 by omega, d2, d3, show u / 1000 % 10 = u / 1000 by omega]
  · rw [more u a1, more (u / 10) (by omega), more (u / 10 / 10) (by omega), more (u / 10 / 10 / 10) (by omega), one _ (by omega)]
    simp [Lib.repeatL, d2, d3, d4, show u / 10000 % 10 = u / 10000 by omega]
theorem cutErr_90 {p : List UInt8} (h : pList p = []) : ¬ (cutErr p = 0) := by simp [cutErr, h]
theorem numR_1 {p : List UInt8} {n : Int} {d : List UInt8} (h : numOk p n = true) (hd : d = dig5 n) : numS p n = checkedS (p ++ d) ∧ numE p n = pErr (p ++ d) := by subst hd; simp [numS, numE, h]
theorem numR_bad {p : List UInt8} {n : Int} {d : List UInt8} (h : numOk p n = true) (hd : d = dig5 n) (hp : ¬ (pErr (p ++ d) = 0)) : ([] : List UInt8) = numS p n ∧ (90 : Int) = numE p n := by
  rw [(numR_1 h hd).1, (numR_1 h hd).2]
  rw [pErr_ok] at hp
  simp [checkedS, pErr, hp]
theorem numR_ok {p : List UInt8} {n : Int} {d : List UInt8} (h : numOk p n = true) (hd : d = dig5 n) (hp : pErr (p ++ d) = 0) : p ++ d = numS p n ∧ (0 : Int) = numE p n := by
  rw [(numR_1 h hd).1, (numR_1 h hd).2, hp]
  rw [pErr_ok] at hp
  simp [checkedS, hp]
theorem pList_ok (p : List UInt8) : ∀ x ∈ pList p, okPart x = true := by
  intro x hx
  unfold pList at hx
  split at hx
  · rename_i h
    split at hx
    · simp at hx
    · rename_i hne
      simp only [pOk, Bool.and_eq_true, Bool.or_eq_true, List.all_eq_true, decide_eq_true_eq] at h
      rcases h.2.2 with e | e
      · exact absurd e hne
      · exact e x hx
  · simp at hx
theorem okPart_no47 {s : List UInt8} (h : okPart s = true) : 47 ∉ s := by
  simp only [okPart, Bool.and_eq_true, List.all_eq_true] at h
  intro hm
  have := h.2.2 47 hm
  simp [sgn] at this
theorem pErr_90 {p : List UInt8} (h : ¬ (pErr p = 0)) : pErr p = 90 := by unfold pErr at *; split at h <;> simp_all
end Go.Proofs.YtmjebehhpojihaaGreatDoor.Sw
namespace Go.Proofs.YtmjebehhpojihaaGreatDoor.Sw
set_option linter.unusedVariables false
set_option linter.unusedSimpArgs false
set_option linter.deprecated false
open Go
theorem low_len : ∀ k n, (low k n).length = k
  | 0, _ => rfl
  | k + 1, n => by rw [low, List.length_cons, low_len k n]
theorem num_parts {p : List UInt8} {n : Int} (h : numE p n = 0) : 0 ≤ n ∧ n ≤ 99999 ∧ numS p n = p ++ low 5 n.toNat := by
  unfold numE at h
  split at h
  · rename_i hk
    have hk2 := hk
    simp only [numOk, Bool.and_eq_true, decide_eq_true_eq] at hk
    refine ⟨hk.2.1, hk.2.2, ?_⟩
    rw [pErr_ok] at h
    simp [numS, hk2, checkedS, h, low_dig hk.2.1 hk.2.2]
  · simp at h
theorem num_len {p : List UInt8} {n : Int} (h : numE p n = 0) : ((numS p n).length : Int) = (p.length : Int) + 5 := by
  obtain ⟨a1, a2, a3⟩ := num_parts h
  rw [a3, List.length_append, low_len]; omega
theorem last_cat {l : List (List UInt8)} (h : l ≠ []) : l.dropLast ++ [lastOf l] = l := by
  have := List.dropLast_concat_getLast h
  rw [lastOf, List.getLast?_eq_some_getLast h]
  exact this
end Go.Proofs.YtmjebehhpojihaaGreatDoor.Sw
namespace Go.Proofs.YtmjebehhpojihaaGreatDoor.Sw
set_option linter.unusedVariables false
set_option linter.unusedSimpArgs false
set_option linter.deprecated false
open Go
theorem bl_irr : ∀ a : List UInt8, Go.Op.bytesLess a a = false
  | [] => rfl
  | c :: a => by simp [Go.Op.bytesLess, bl_irr a]
theorem bl_trans : ∀ {a b c : List UInt8}, Go.Op.bytesLess a b = true → Go.Op.bytesLess b c = true → Go.Op.bytesLess a c = true
  | _, _, [], _, h => by simp [Go.Op.bytesLess] at h
  | _, [], _ :: _, h, _ => by simp [Go.Op.bytesLess] at h
  | [], _ :: _, _ :: _, _, _ => rfl
  | x :: a, y :: b, z :: c, h, k => by
    simp only [Go.Op.bytesLess, Bool.or_eq_true, decide_eq_true_eq, Bool.and_eq_true, beq_iff_eq] at *
    rcases h with h | ⟨rfl, h⟩
    · rcases k with k | ⟨rfl, k⟩
      · exact .inl (UInt8.lt_trans h k)
      · exact .inl h
    · rcases k with k | ⟨rfl, k⟩
      · exact .inl k
      · exact .inr ⟨rfl, bl_trans h k⟩
theorem bl_tri : ∀ {a b : List UInt8}, Go.Op.bytesLess a b = false → Go.Op.bytesLess b a = false → a = b
  | [], [], _, _ => rfl
  | [], _ :: _, h, _ => by simp [Go.Op.bytesLess] at h
  | _ :: _, [], _, h => by simp [Go.Op.bytesLess] at h
  | x :: a, y :: b, h, k => by
    simp only [Go.Op.bytesLess, Bool.or_eq_false_iff, decide_eq_false_iff_not, Bool.and_eq_false_iff, beq_eq_false_iff_ne] at *
    obtain ⟨h1, h2⟩ := h
    obtain ⟨k1, k2⟩ := k
    have hxy : x = y := UInt8.le_antisymm (UInt8.not_lt.1 k1) (UInt8.not_lt.1 h1)
    subst hxy
    rw [bl_tri (h2.resolve_left (fun h => h rfl)) (k2.resolve_left (fun h => h rfl))]
theorem bl_asym {a b : List UInt8} (h : Go.Op.bytesLess a b = true) : Go.Op.bytesLess b a = false := by
  cases hk : Go.Op.bytesLess b a with
  | false => rfl
  | true => have := bl_trans h hk; rw [bl_irr] at this; cases this
theorem bl_ne {a b : List UInt8} (h : Go.Op.bytesLess a b = true) : a ≠ b := fun e => by rw [e, bl_irr] at h; cases h
end Go.Proofs.YtmjebehhpojihaaGreatDoor.Sw
namespace Go.Proofs.YtmjebehhpojihaaGreatDoor.Sw
set_option linter.unusedVariables false
set_option linter.unusedSimpArgs false
set_option linter.deprecated false
open Go
abbrev Str := List UInt8
def lt8 (a b : Str) : Bool := Go.Op.bytesLess a b
def findL (ns : List Leaf) (p : Str) : Option Leaf := ns.find? fun n => decide (n.Path = p)
def SortL (ns : List Leaf) : Prop := ns.Pairwise fun a b => lt8 a.Path b.Path = true
def insL (l : Leaf) : List Leaf → List Leaf
  | [] => [l]
  | n :: ns => if lt8 l.Path n.Path = true then l :: n :: ns else n :: insL l ns
def delL (ns : List Leaf) (p : Str) : List Leaf := ns.filter fun n => !decide (n.Path = p)
def withL (ns : List Leaf) (l : Leaf) : List Leaf := insL l (delL ns l.Path)
def kidB (p : Str) (n : Leaf) : Bool := decide (cutErr n.Path = 0) && decide (parentOf n.Path = p)
def kidsL (ns : List Leaf) (p : Str) : List Str := (ns.filter (kidB p)).map (·.Path)
def ownedL (ns : List Leaf) (owners : List Int) : List Str := ((ns.filter fun n => owners.any fun o => decide (n.Owner = o)).map (·.Path)).reverse
def leaf0 : Leaf := ⟨[], [], 0, 0, 0, 0⟩
def getT (ns : List Leaf) (p : Str) : Leaf × Int :=
  if pErr p = 0 then match findL ns p with
    | none => (leaf0, 100)
    | some l => (l, 0)
  else (leaf0, pErr p)
def makeN (up : Leaf) (p : Str) (num : Bool) : Str := if num then numS p up.Next else p
def makeE (up : Leaf) (p : Str) (num : Bool) : Int := if num then numE p up.Next else 0
def madeL (ns : List Leaf) (up : Leaf) (q data : Str) (owner born : Int) (num : Bool) : List Leaf :=
  withL (withL ns (if num then { up with Next := IntKind.wrap .i64 (up.Next + 1) } else up)) ⟨q, data, 0, max owner (-1), 0, max born 0⟩
def makeT (ns : List Leaf) (p data : Str) (owner born : Int) (num : Bool) : List Leaf × Str × Int :=
  if cutErr p ≠ 0 then (ns, [], cutErr p)
  else if data.length > 128 then (ns, [], 104)
  else match findL ns (parentOf p) with
    | none => (ns, [], 100)
    | some up => if up.Owner ≠ -1 then (ns, [], 105)
      else if makeE up p num ≠ 0 then (ns, [], makeE up p num)
      else match findL ns (makeN up p num) with
        | some _ => (ns, [], 101)
        | none => if ns.length ≥ 32 then (ns, [], 104) else (madeL ns up (makeN up p num) data owner born num, makeN up p num, 0)
def dropT (ns : List Leaf) (p : Str) (ver : Int) : List Leaf × Int :=
  if cutErr p ≠ 0 then (ns, cutErr p)
  else match findL ns p with
    | none => (ns, 100)
    | some l => if ver ≥ 0 ∧ l.Version ≠ ver then (ns, 102) else if kidsL ns p ≠ [] then (ns, 103) else (delL ns p, 0)
def setT (ns : List Leaf) (p data : Str) (ver : Int) : List Leaf × Int × Int :=
  if pErr p ≠ 0 then (ns, 0, pErr p)
  else match findL ns p with
    | none => (ns, 0, 100)
    | some l => if ver ≥ 0 ∧ l.Version ≠ ver then (ns, 0, 102) else if data.length > 128 then (ns, 0, 104)
      else (withL ns { l with Data := data, Version := IntKind.wrap .i64 (l.Version + 1) }, IntKind.wrap .i64 (l.Version + 1), 0)
def kidsT (ns : List Leaf) (p : Str) : List Str × Int :=
  if pErr p ≠ 0 then ([], pErr p) else match findL ns p with
    | none => ([], 100)
    | some _ => (kidsL ns p, 0)
theorem SortL.nodup {ns : List Leaf} (h : SortL ns) : (ns.map (·.Path)).Nodup := by
  rw [List.Nodup, List.pairwise_map]
  exact h.imp fun hl => bl_ne hl
theorem findL_some {ns : List Leaf} {p : Str} {l : Leaf} (h : findL ns p = some l) : l ∈ ns ∧ l.Path = p :=
  ⟨List.mem_of_find?_eq_some h, by simpa using List.find?_some h⟩
theorem findL_none {ns : List Leaf} {p : Str} : findL ns p = none ↔ ∀ n ∈ ns, n.Path ≠ p := by
  unfold findL; simp
theorem findL_of {ns : List Leaf} (hn : (ns.map (·.Path)).Nodup) {l : Leaf} (h : l ∈ ns) : findL ns l.Path = some l := by
  induction ns with
  | nil => cases h
  | cons n ns ih =>
    rw [List.map_cons, List.nodup_cons] at hn
    unfold findL
    rw [List.find?_cons]
    rcases List.mem_cons.1 h with rfl | h
    · simp
    · have : n.Path ≠ l.Path := fun e => hn.1 (e ▸ List.mem_map.2 ⟨l, h, rfl⟩)
      simp only [this, decide_false]
      exact ih hn.2 h
theorem findL_perm {ms ns : List Leaf} (hp : ms.Perm ns) (hn : (ns.map (·.Path)).Nodup) (p : Str) : findL ms p = findL ns p := by
  have hm : (ms.map (·.Path)).Nodup := (hp.map _).nodup_iff.2 hn
  cases h : findL ns p with
  | none => exact findL_none.2 fun n hn' => findL_none.1 h n (hp.mem_iff.1 hn')
  | some l =>
    obtain ⟨h1, rfl⟩ := findL_some h
    exact findL_of hm (hp.mem_iff.2 h1)
theorem insL_perm (l : Leaf) : ∀ ns : List Leaf, (insL l ns).Perm (l :: ns)
  | [] => List.Perm.refl _
  | n :: ns => by
    unfold insL
    split
    · exact List.Perm.refl _
    · exact ((insL_perm l ns).cons n).trans (List.Perm.swap _ _ _)
theorem insL_sort {l : Leaf} : ∀ {ns : List Leaf}, SortL ns → (∀ n ∈ ns, n.Path ≠ l.Path) → SortL (insL l ns)
  | [], _, _ => by simp [insL, SortL]
  | n :: ns, h, hne => by
    have h' := List.pairwise_cons.1 h
    unfold insL
    split
    · rename_i hlt
      refine List.pairwise_cons.2 ⟨fun x hx => ?_, h⟩
      rcases List.mem_cons.1 hx with rfl | hx
      · exact hlt
      · exact bl_trans hlt (h'.1 x hx)
    · rename_i hlt
      have hlt : lt8 n.Path l.Path = true := by
        cases hk : lt8 n.Path l.Path with
        | true => rfl
        | false => exact absurd (bl_tri hk (Bool.eq_false_iff.2 hlt)) (hne n (.head _))
      refine List.pairwise_cons.2 ⟨fun x hx => ?_, insL_sort h'.2 fun m hm => hne m (.tail _ hm)⟩
      have := (insL_perm l ns).mem_iff.1 hx
      rcases List.mem_cons.1 this with rfl | hx
      · exact hlt
      · exact h'.1 x hx
theorem delL_sort {ns : List Leaf} (h : SortL ns) (p : Str) : SortL (delL ns p) := List.Pairwise.sublist List.filter_sublist h
theorem delL_ne {ns : List Leaf} {p : Str} : ∀ n ∈ delL ns p, n.Path ≠ p := fun n hn => by
  unfold delL at hn
  rw [List.mem_filter] at hn
  simpa using hn.2
theorem withL_sort {ns : List Leaf} (h : SortL ns) (l : Leaf) : SortL (withL ns l) := insL_sort (delL_sort h _) delL_ne
theorem withL_perm (ns : List Leaf) (l : Leaf) : (withL ns l).Perm (l :: delL ns l.Path) := insL_perm l _
theorem delL_none {ns : List Leaf} {p : Str} (h : findL ns p = none) : delL ns p = ns := by
  unfold delL
  rw [List.filter_eq_self]
  intro n hn
  simpa using findL_none.1 h n hn
theorem sort_unique : ∀ {a b : List Leaf}, SortL a → SortL b → a.Perm b → a = b
  | [], b, _, _, h => by rw [List.nil_perm] at h; exact h.symm
  | x :: a, [], _, _, h => by rw [List.perm_nil] at h; cases h
  | x :: a, y :: b, ha, hb, h => by
    have ha' := List.pairwise_cons.1 ha
    have hb' := List.pairwise_cons.1 hb
    have hx : x = y := by
      rcases List.mem_cons.1 (h.mem_iff.1 (.head _ : x ∈ x :: a)) with e | hx
      · exact e
      · rcases List.mem_cons.1 (h.mem_iff.2 (.head _ : y ∈ y :: b)) with e | hy
        · exact e.symm
        · have h1 := hb'.1 x hx
          have h2 := ha'.1 y hy
          have := bl_asym h1
          unfold lt8 at h2
          rw [this] at h2
          cases h2
    subst hx
    rw [sort_unique ha'.2 hb'.2 (List.perm_cons _ |>.1 h)]
theorem withL_same {ns : List Leaf} (h : SortL ns) {l : Leaf} (hl : findL ns l.Path = some l) : withL ns l = ns := by
  refine sort_unique (withL_sort h l) h ((withL_perm ns l).trans ?_)
  have hm := (findL_some hl).1
  clear hl
  have hn := h.nodup
  clear h
  induction ns with
  | nil => cases hm
  | cons n ns ih =>
    rw [List.map_cons, List.nodup_cons] at hn
    rcases List.mem_cons.1 hm with rfl | hm
    · have : delL (l :: ns) l.Path = ns := by
        unfold delL
        rw [List.filter_cons]
        simp only [decide_true, Bool.not_true, Bool.false_eq_true, if_false]
        exact delL_none (findL_none.2 fun x hx e => hn.1 (e ▸ List.mem_map.2 ⟨x, hx, rfl⟩))
      rw [this]
    · have hne : n.Path ≠ l.Path := fun e => hn.1 (e ▸ List.mem_map.2 ⟨l, hm, rfl⟩)
      have : delL (n :: ns) l.Path = n :: delL ns l.Path := by
        unfold delL
        rw [List.filter_cons]
        simp [hne]
      rw [this]
      exact (List.Perm.swap _ _ _).trans ((ih hm hn.2).cons n)
def findE (ns : List Leaf) (p : Str) : Int := if pErr p ≠ 0 then pErr p else match findL ns p with
  | none => 100
  | some _ => 0
def verE (ns : List Leaf) (p : Str) (ver : Int) : Int := if findE ns p ≠ 0 then findE ns p else match findL ns p with
  | none => 100
  | some l => if ver ≥ 0 ∧ l.Version ≠ ver then 102 else 0
def parE (ns : List Leaf) (p data : Str) : Int := if cutErr p ≠ 0 then cutErr p else if data.length > 128 then 104 else match findL ns (parentOf p) with
  | none => 100
  | some l => if l.Owner ≠ -1 then 105 else 0
theorem findE_1 {ns : List Leaf} {p : Str} (h : ¬ pErr p = 0) : findE ns p = pErr p := by unfold findE; rw [if_pos h]
theorem findE_2 {ns : List Leaf} {p : Str} (h : pErr p = 0) (h2 : findL ns p = none) : findE ns p = 100 := by unfold findE; rw [if_neg (by simpa using h), h2]
theorem findE_3 {ns : List Leaf} {p : Str} {l : Leaf} (h : pErr p = 0) (h2 : findL ns p = some l) : findE ns p = 0 := by unfold findE; rw [if_neg (by simpa using h), h2]
theorem verE_1 {ns : List Leaf} {p : Str} {ver : Int} (h : findE ns p ≠ 0) : verE ns p ver = findE ns p := by unfold verE; rw [if_pos h]
theorem verE_2 {ns : List Leaf} {p : Str} {ver : Int} {l : Leaf} (h : findE ns p = 0) (h2 : findL ns p = some l) (h3 : ver ≥ 0) (h4 : l.Version ≠ ver) : verE ns p ver = 102 := by
  unfold verE; rw [if_neg (by simpa using h), h2]; exact if_pos ⟨h3, h4⟩
theorem verE_3 {ns : List Leaf} {p : Str} {ver : Int} {l : Leaf} (h : findE ns p = 0) (h2 : findL ns p = some l) (h3 : ¬ ver ≥ 0) : verE ns p ver = 0 := by
  unfold verE; rw [if_neg (by simpa using h), h2]; exact if_neg fun hh => h3 hh.1
theorem verE_4 {ns : List Leaf} {p : Str} {ver : Int} {l : Leaf} (h : findE ns p = 0) (h2 : findL ns p = some l) (h3 : l.Version = ver) : verE ns p ver = 0 := by
  unfold verE; rw [if_neg (by simpa using h), h2]; exact if_neg fun hh => hh.2 h3
theorem parE_1 {ns : List Leaf} {p data : Str} (h : ¬ cutErr p = 0) : parE ns p data = cutErr p := by unfold parE; rw [if_pos h]
theorem parE_2 {ns : List Leaf} {p data : Str} (h : cutErr p = 0) (h2 : (data.length : Int) > 128) : parE ns p data = 104 := by unfold parE; rw [if_neg (by simpa using h), if_pos (by omega)]
theorem parE_3 {ns : List Leaf} {p data : Str} (h : cutErr p = 0) (h2 : ¬ (data.length : Int) > 128) (h3 : findL ns (parentOf p) = none) : parE ns p data = 100 := by unfold parE; rw [if_neg (by simpa using h), if_neg (by omega), h3]
theorem parE_4 {ns : List Leaf} {p data : Str} {l : Leaf} (h : cutErr p = 0) (h2 : ¬ (data.length : Int) > 128) (h3 : findL ns (parentOf p) = some l) (h4 : ¬ l.Owner = -1) : parE ns p data = 105 := by
  unfold parE; rw [if_neg (by simpa using h), if_neg (by omega), h3]; exact if_pos h4
theorem parE_5 {ns : List Leaf} {p data : Str} {l : Leaf} (h : cutErr p = 0) (h2 : ¬ (data.length : Int) > 128) (h3 : findL ns (parentOf p) = some l) (h4 : l.Owner = -1) : parE ns p data = 0 := by
  unfold parE; rw [if_neg (by simpa using h), if_neg (by omega), h3]; exact if_neg (by simpa using h4)
theorem getT_1 {ns : List Leaf} {p : Str} (h : findE ns p ≠ 0) : getT ns p = (leaf0, findE ns p) := by
  unfold findE at *; unfold getT
  by_cases hp : pErr p = 0
  · rw [if_pos hp]
    rw [if_neg (by simpa using hp)] at h ⊢
    cases hf : findL ns p with
    | none => rfl
    | some l => rw [hf] at h; exact absurd rfl h
  · rw [if_neg hp, if_pos hp]
theorem getT_2 {ns : List Leaf} {p : Str} {l : Leaf} (h : findE ns p = 0) (h2 : findL ns p = some l) : getT ns p = (l, 0) := by
  unfold findE at *; unfold getT
  by_cases hp : pErr p = 0
  · rw [if_pos hp, h2]
  · rw [if_pos hp] at h; exact absurd h hp
theorem kidsT_1 {ns : List Leaf} {p : Str} (h : findE ns p ≠ 0) : kidsT ns p = ([], findE ns p) := by
  unfold findE at *; unfold kidsT
  by_cases hp : pErr p = 0
  · rw [if_neg (by simpa using hp)] at h ⊢
    rw [if_neg (by simpa using hp)]
    cases hf : findL ns p with
    | none => rfl
    | some l => rw [hf] at h; exact absurd rfl h
  · rw [if_pos hp, if_pos hp]
theorem kidsT_2 {ns : List Leaf} {p : Str} {l : Leaf} (h : findE ns p = 0) (h2 : findL ns p = some l) : kidsT ns p = (kidsL ns p, 0) := by
  unfold findE at *; unfold kidsT
  by_cases hp : pErr p = 0
  · rw [if_neg (by simpa using hp), h2]
  · rw [if_pos hp] at h; exact absurd h hp
theorem at_find {ns : List Leaf} (hs : SortL ns) {i : Nat} {p : Str} (h : (ns.map (·.Path))[i]? = some p) : ∃ l, ns[i]? = some l ∧ findL ns p = some l := by
  rw [List.getElem?_map] at h
  cases hl : ns[i]? with
  | none => rw [hl] at h; cases h
  | some l =>
    rw [hl] at h
    simp only [Option.map_some, Option.some.injEq] at h
    subst h
    exact ⟨l, rfl, findL_of hs.nodup (List.mem_of_getElem? hl)⟩
theorem all_step {ns out : List Leaf} (hs : SortL ns) {i : Int} {p : Str} {l : Leaf} (h0 : 0 ≤ i) (hx : (ns.map (·.Path))[i.toNat]? = some p) (hf : findL ns p = some l) (ho : out = ns.take i.toNat) : out ++ [l] = ns.take (i + 1).toNat := by
  obtain ⟨l', h1, h2⟩ := at_find hs hx
  rw [hf] at h2
  cases h2
  rw [toNat_succ h0, take_at h1, ho]
theorem all_none {ns : List Leaf} (hs : SortL ns) {i : Nat} {p : Str} (hx : (ns.map (·.Path))[i]? = some p) (hf : findL ns p = none) : False := by
  obtain ⟨l', h1, h2⟩ := at_find hs hx
  rw [hf] at h2
  cases h2
def TreeB (ns : List Leaf) : Prop := ns.length ≤ 1000 ∧ ∀ n ∈ ns, n.Path.length ≤ 64 ∧ n.Data.length ≤ 128 ∧ -9223372036854775808 ≤ n.Next ∧ n.Next ≤ 9223372036854775807
theorem TreeB.data {ns : List Leaf} (h : TreeB ns) {p : Str} {l : Leaf} (hf : findL ns p = some l) : l.Data.length ≤ 128 := (h.2 l (findL_some hf).1).2.1
theorem TreeB.next {ns : List Leaf} (h : TreeB ns) {p : Str} {l : Leaf} (hf : findL ns p = some l) : -9223372036854775808 ≤ l.Next ∧ l.Next ≤ 9223372036854775807 := (h.2 l (findL_some hf).1).2.2
theorem kidsL_len (ns : List Leaf) (p : Str) : (kidsL ns p).length ≤ ns.length := by
  unfold kidsL; rw [List.length_map]; exact List.length_filter_le _ _
theorem owned_step {ns : List Leaf} (hs : SortL ns) {ow : List Int} {xs : List Str} {p : Str} {l : Leaf} {out : List Str} (hp : xs ++ [p] <+: (ns.map (·.Path)).reverse) (hf : findL ns p = some l)
    (ho : out = xs.filter fun q => match findL ns q with | some n => ow.any (fun o => decide (n.Owner = o)) | none => false) :
    (if ow.any (fun o => decide (l.Owner = o)) = true then out ++ [p] else out) = (xs ++ [p]).filter fun q => match findL ns q with | some n => ow.any (fun o => decide (n.Owner = o)) | none => false := by
  rw [List.filter_append, ho]
  simp only [List.filter_cons, hf, List.filter_nil]
  split <;> simp
theorem owned_end {ns : List Leaf} (hs : SortL ns) {ow : List Int} :
    ((ns.map (·.Path)).reverse.filter fun q => match findL ns q with | some n => ow.any (fun o => decide (n.Owner = o)) | none => false) = ownedL ns ow := by
  unfold ownedL
  rw [List.filter_reverse, List.filter_map]
  congr 2
  apply List.filter_congr
  intro n hn
  simp only [Function.comp, findL_of hs.nodup hn]
theorem mem_find {ns : List Leaf} (hs : SortL ns) {xs : List Str} {p : Str} (hp : xs ++ [p] <+: (ns.map (·.Path)).reverse) (hf : findL ns p = none) : False := by
  have h1 : p ∈ (ns.map (·.Path)).reverse := hp.subset (by simp)
  rw [List.mem_reverse] at h1
  obtain ⟨n, hn, rfl⟩ := List.mem_map.1 h1
  rw [findL_of hs.nodup hn] at hf
  cases hf
theorem setT_1 {ns : List Leaf} {p data : Str} {ver : Int} (h : verE ns p ver ≠ 0) : setT ns p data ver = (ns, 0, verE ns p ver) := by
  unfold verE findE at *; unfold setT
  by_cases hp : pErr p = 0
  · simp only [hp, ne_eq, not_true_eq_false, if_false] at *
    cases hf : findL ns p with
    | none => simp [hf]
    | some l => simp only [hf] at *; split at h <;> simp_all
  · simp [hp]
theorem setT_2 {ns : List Leaf} {p : Str} {ver : Int} {l : Leaf} (h : verE ns p ver = 0) (hf : findL ns p = some l) : pErr p = 0 ∧ ¬ (ver ≥ 0 ∧ l.Version ≠ ver) := by
  unfold verE findE at h
  by_cases hp : pErr p = 0
  · simp only [hp, hf, ne_eq, not_true_eq_false, if_false] at h
    refine ⟨hp, fun hh => ?_⟩
    rw [if_pos hh] at h
    cases h
  · simp [hp] at h
theorem setT_3 {ns : List Leaf} {p data : Str} {ver : Int} {l : Leaf} (h : verE ns p ver = 0) (hf : findL ns p = some l) (hd : (data.length : Int) > 128) : setT ns p data ver = (ns, 0, 104) := by
  obtain ⟨h1, h2⟩ := setT_2 h hf
  unfold setT
  rw [if_neg (by simpa using h1), hf]
  simp only []
  rw [if_neg h2, if_pos (by omega)]
theorem setT_4 {ns : List Leaf} {p data : Str} {ver : Int} {l : Leaf} (h : verE ns p ver = 0) (hf : findL ns p = some l) (hd : ¬ (data.length : Int) > 128) :
    setT ns p data ver = (withL ns { l with Data := data, Version := IntKind.wrap .i64 (l.Version + 1) }, IntKind.wrap .i64 (l.Version + 1), 0) := by
  obtain ⟨h1, h2⟩ := setT_2 h hf
  unfold setT
  rw [if_neg (by simpa using h1), hf]
  simp only []
  rw [if_neg h2, if_neg (by omega)]
section
variable {ns : List Leaf} {p data q : Str} {owner born : Int} {num : Bool} {up : Leaf}
theorem mk_1 (h : parE ns p data ≠ 0) : makeT ns p data owner born num = (ns, [], parE ns p data) := by
  unfold parE at *; unfold makeT
  by_cases h1 : cutErr p = 0
  · simp only [h1, ne_eq, not_true_eq_false, if_false] at *
    by_cases h2 : data.length > 128
    · simp only [h2, if_true]
    · simp only [h2, if_false] at *
      cases hf : findL ns (parentOf p) with
      | none => simp
      | some l =>
        simp only [hf] at *
        by_cases h3 : l.Owner = -1
        · simp [h3] at h
        · simp [h3]
  · simp [h1]
theorem par_0 (h : parE ns p data = 0) (hf : findL ns (parentOf p) = some up) : cutErr p = 0 ∧ ¬ data.length > 128 ∧ up.Owner = -1 := by
  unfold parE at h
  by_cases h1 : cutErr p = 0
  · simp only [h1, ne_eq, not_true_eq_false, if_false] at h
    by_cases h2 : data.length > 128
    · simp [h2] at h
    · simp only [h2, if_false, hf] at h
      by_cases h3 : up.Owner = -1
      · exact ⟨h1, h2, h3⟩
      · simp [h3] at h
  · simp [h1] at h
theorem mk_up (h : parE ns p data = 0) (hf : findL ns (parentOf p) = some up) : makeT ns p data owner born num = if makeE up p num ≠ 0 then (ns, [], makeE up p num) else match findL ns (makeN up p num) with
    | some _ => (ns, [], 101)
    | none => if ns.length ≥ 32 then (ns, [], 104) else (madeL ns up (makeN up p num) data owner born num, makeN up p num, 0) := by
  obtain ⟨h1, h2, h3⟩ := par_0 h hf
  unfold makeT
  simp only [h1, h2, h3, hf, ne_eq, not_true_eq_false, if_false]
theorem mk_2 (h : parE ns p data = 0) (hf : findL ns (parentOf p) = some up) (hn : num = true) (he : ¬ numE p up.Next = 0) : makeT ns p data owner born num = (ns, [], numE p up.Next) := by
  rw [mk_up h hf]; simp [makeE, hn, he]
theorem mk_3 (h : parE ns p data = 0) (hf : findL ns (parentOf p) = some up) (he : makeE up p num = 0) (hq : makeN up p num = q) (hs : (findL ns q).isSome = true) : makeT ns p data owner born num = (ns, [], 101) := by
  rw [mk_up h hf, if_neg (by simpa using he), hq]
  cases hx : findL ns q with
  | none => rw [hx] at hs; cases hs
  | some _ => rfl
theorem mk_4 (h : parE ns p data = 0) (hf : findL ns (parentOf p) = some up) (he : makeE up p num = 0) (hq : makeN up p num = q) (hs : findL ns q = none) (hl : (ns.length : Int) ≥ 32) : makeT ns p data owner born num = (ns, [], 104) := by
  rw [mk_up h hf, if_neg (by simpa using he), hq, hs]
  simp only []
  rw [if_pos (by omega)]
theorem mk_5 (h : parE ns p data = 0) (hf : findL ns (parentOf p) = some up) (he : makeE up p num = 0) (hq : makeN up p num = q) (hs : findL ns q = none) (hl : ¬ (ns.length : Int) ≥ 32) :
    makeT ns p data owner born num = (madeL ns up q data owner born num, q, 0) := by
  rw [mk_up h hf, if_neg (by simpa using he), hq, hs]
  simp only []
  rw [if_neg (by omega)]
end
theorem pOk_len {p : Str} (h : pOk p = true) : p.length ≤ 64 := by
  rcases Nat.lt_or_ge 64 p.length with hl | hl
  · rw [pOk_long hl] at h; cases h
  · exact hl
theorem checkedS_len (p : Str) : (checkedS p).length ≤ 64 := by
  unfold checkedS
  split
  · rename_i h; exact pOk_len h
  · exact Nat.zero_le _
theorem numS_le (p : Str) (n : Int) : (numS p n).length ≤ 64 := by
  unfold numS
  split
  · exact checkedS_len _
  · exact Nat.zero_le _
theorem cut_len {p : Str} (h : cutErr p = 0) : p.length ≤ 64 := by
  cases hp : pOk p with
  | true => exact pOk_len hp
  | false =>
    have : pList p = [] := by unfold pList; rw [hp]; rfl
    exact absurd h (cutErr_90 this)
theorem with_none {ns : List Leaf} {p q : Str} {up l : Leaf} (hf : findL ns p = some up) (hq : findL ns q = none) (hl : l.Path = up.Path) : findL (withL ns l) q = none := by
  rw [findL_none] at hq ⊢
  intro n hn
  rcases List.mem_cons.1 ((withL_perm ns l).mem_iff.1 hn) with rfl | hn
  · rw [hl]; exact hq up (findL_some hf).1
  · exact hq n (List.mem_filter.1 hn).1
theorem madeL_0 {ns : List Leaf} {p q data : Str} {owner born : Int} {num : Bool} {up : Leaf} (hn : num = false) (hs : SortL ns) (hf : findL ns p = some up) : madeL ns up q data owner born num = withL ns ⟨q, data, 0, max owner (-1), 0, max born 0⟩ := by
  subst hn
  unfold madeL
  simp only [Bool.false_eq_true, if_false]
  rw [withL_same hs (by rw [(findL_some hf).2]; exact hf)]
theorem madeL_1 {ns : List Leaf} {q data : Str} {owner born : Int} {num : Bool} {up : Leaf} (hn : num = true) : madeL ns up q data owner born num = withL (withL ns { up with Next := IntKind.wrap .i64 (up.Next + 1) }) ⟨q, data, 0, max owner (-1), 0, max born 0⟩ := by
  subst hn; rfl
end Go.Proofs.YtmjebehhpojihaaGreatDoor.Sw
namespace Go.Proofs.YtmjebehhpojihaaGreatDoor.Sw
set_option linter.unusedVariables false
set_option linter.unusedSimpArgs false
set_option linter.deprecated false
open Go
section
variable {h0 : Heap} {g0 : GH} {S0 : Nat → Prop} {g : GH} {L L' : List Chunk} {h : Heap}
theorem St.permF (hf : L.flatten.Perm L'.flatten) (s : St h0 g0 S0 g L h) : St h0 g0 S0 g L' h :=
  ⟨s.size, s.frame, s.le, s.new, s.sub, fun p hm => s.has p (hf.mem_iff.2 hm), (hf.map _).nodup_iff.1 s.nodup, fun p hm => s.sep p (hf.mem_iff.2 hm), fun p hm => s.own p (hf.mem_iff.2 hm)⟩
end
abbrev cellsL (l : Leaf) (v : Value) : Array Value := #[.string (mkS l.Path), v, .int .i64 l.Version, .int .i64 l.Owner, .int .i64 l.Next, .int .i64 l.Born]
abbrev TL : TypeId := 59
abbrev TT : TypeId := 128
structure LMem where
  b : Nat
  l : Leaf
  v : Value
  c : Chunk
def ksOf (ms : List LMem) : List (Str × Value) := ms.map fun m => (m.l.Path, .pointer (some ⟨m.b, 0, none⟩))
def chM (m : LMem) : Chunk := (m.b, .cells (cellsL m.l m.v) TL (0, 0)) :: m.c
def flM (ms : List LMem) : Chunk := (ms.map chM).flatten
def RowsM (ms : List LMem) : Prop := ∀ m ∈ ms, Row 5 kU8 (fun _ => none) m.v m.l.Data m.c
def LmOk (es : Array MapEntry) (clk : Nat) (ms : List LMem) (ns : List Leaf) : Prop := MapR encS es clk (ksOf ms) ∧ (ms.map (·.l)).Perm ns ∧ SortL ns ∧ ∀ n ∈ ns, n.Path.length ≤ 64
def IsLm (g : GH) (mb : Nat) (ns : List Leaf) (c : Chunk) : Prop := ∃ es clk ms, c.Perm ((mb, .map es clk) :: flM ms) ∧ LmOk es clk ms ns ∧ RowsM ms
theorem IsLm.flat {g g' : GH} {mb : Nat} {ns : List Leaf} {c : Chunk} (h : IsLm g mb ns c) : IsLm g' mb ns c := h
theorem IsLm.mono {g g' : GH} {mb : Nat} {ns : List Leaf} {c : Chunk} (h : IsLm g mb ns c) (hg : gle g g') : IsLm g' mb ns c := h
theorem IsLm.eq {g : GH} {mb : Nat} {ns ns' : List Leaf} {c : Chunk} (h : IsLm g mb ns c) (e : ns = ns') : IsLm g mb ns' c := e ▸ h
def VLm (g : GH) (mb : Nat) (ns : List Leaf) : Prop := ∃ es clk ms, g mb = some (.map es clk) ∧ LmOk es clk ms ns ∧ ∀ m ∈ ms, g m.b = some (.cells (cellsL m.l m.v) TL (0, 0)) ∧ SlR g 5 kU8 m.v m.l.Data
theorem VLm.mono {g g' : GH} {mb : Nat} {ns : List Leaf} (h : VLm g mb ns) (hg : gle g g') : VLm g' mb ns := by
  obtain ⟨es, clk, ms, h1, h2, h3⟩ := h
  exact ⟨es, clk, ms, hg _ _ h1, h2, fun m hm => ⟨hg _ _ (h3 m hm).1, (h3 m hm).2.mono hg⟩⟩
def VTree (g : GH) (b : Nat) (ns : List Leaf) : Prop := ∃ mb, g b = some (.cells #[.map (some mb)] TT (0, 0)) ∧ VLm g mb ns
theorem VTree.mono {g g' : GH} {b : Nat} {ns : List Leaf} (h : VTree g b ns) (hg : gle g g') : VTree g' b ns := by
  obtain ⟨mb, h1, h2⟩ := h
  exact ⟨mb, hg _ _ h1, h2.mono hg⟩
def LeafAt (g : GH) (mb : Nat) (l : Leaf) (b : Nat) : Prop := ∃ es clk, g mb = some (.map es clk) ∧ ∃ e ∈ es.toList, e.key = encS l.Path ∧ e.val = .pointer (some ⟨b, 0, none⟩)
theorem LeafAt.mono {g g' : GH} {mb : Nat} {l : Leaf} {b : Nat} (h : LeafAt g mb l b) (hg : gle g g') : LeafAt g' mb l b := by
  obtain ⟨es, clk, h1, h2⟩ := h
  exact ⟨es, clk, hg _ _ h1, h2⟩
section
variable {g : GH} {mb : Nat} {ns : List Leaf} {es : Array MapEntry} {clk : Nat} {ms : List LMem}
theorem ks_look (hn : (ms.map (·.l.Path)).Nodup) (p : Str) : (findL (ms.map (·.l)) p = none ∧ lookK (ksOf ms) p = none) ∨ ∃ m ∈ ms, findL (ms.map (·.l)) p = some m.l ∧ lookK (ksOf ms) p = some (.pointer (some ⟨m.b, 0, none⟩)) := by
  cases h : findL (ms.map (·.l)) p with
  | none =>
    refine .inl ⟨rfl, lookK_none fun q hq => ?_⟩
    obtain ⟨m, hm, rfl⟩ := List.mem_map.1 hq
    exact findL_none.1 h m.l (List.mem_map.2 ⟨m, hm, rfl⟩)
  | some l =>
    obtain ⟨h1, rfl⟩ := findL_some h
    obtain ⟨m, hm, rfl⟩ := List.mem_map.1 h1
    refine .inr ⟨m, hm, rfl, ?_⟩
    obtain ⟨j, hj⟩ := List.mem_iff_getElem?.1 hm
    have hk : (ksOf ms)[j]? = some (m.l.Path, .pointer (some ⟨m.b, 0, none⟩)) := by simp [ksOf, hj]
    have hn' : ((ksOf ms).map (·.1)).Nodup := by simpa [ksOf, List.map_map, Function.comp_def] using hn
    exact lookK_at hn' hk
theorem LmOk.nodup (h : LmOk es clk ms ns) : (ms.map (·.l.Path)).Nodup := by
  have := (h.2.1.map (·.Path)).nodup_iff.2 h.2.2.1.nodup
  simpa [List.map_map, Function.comp_def] using this
theorem LmOk.look (h : LmOk es clk ms ns) (p : Str) : (findL ns p = none ∧ lookK (ksOf ms) p = none) ∨ ∃ m ∈ ms, findL ns p = some m.l ∧ lookK (ksOf ms) p = some (.pointer (some ⟨m.b, 0, none⟩)) := by
  rw [← findL_perm h.2.1 h.2.2.1.nodup p]
  exact ks_look h.nodup p
theorem LmOk.isSome (h : LmOk es clk ms ns) (p : Str) : (lookK (ksOf ms) p).isSome = (findL ns p).isSome := by
  rcases h.look p with ⟨h1, h2⟩ | ⟨m, _, h1, h2⟩ <;> simp [h1, h2]
theorem LmOk.len (h : LmOk es clk ms ns) : (ksOf ms).length = ns.length := by
  have := h.2.1.length_eq
  simpa [ksOf] using this
theorem VLm.open_ (h : VLm g mb ns) : ∃ es clk ks, g mb = some (.map es clk) ∧ MapR encS es clk ks ∧ ks.length = ns.length ∧ (ks.map (·.1)).Perm (ns.map (·.Path)) ∧ (∀ p ∈ ks, p.1.length ≤ 64) ∧
    ∀ p, (findL ns p = none ∧ lookK ks p = none) ∨ ∃ b l v, findL ns p = some l ∧ lookK ks p = some (.pointer (some ⟨b, 0, none⟩)) ∧ g b = some (.cells (cellsL l v) TL (0, 0)) ∧ SlR g 5 kU8 v l.Data ∧ LeafAt g mb l b := by
  obtain ⟨es, clk, ms, h1, h2, h3⟩ := h
  refine ⟨es, clk, ksOf ms, h1, h2.1, h2.len, ?_, ?_, fun p => ?_⟩
  · have := h2.2.1.map (·.Path)
    simpa [ksOf, List.map_map, Function.comp_def] using this
  · intro q hq
    obtain ⟨m, hm, rfl⟩ := List.mem_map.1 hq
    exact h2.2.2.2 m.l (h2.2.1.mem_iff.1 (List.mem_map.2 ⟨m, hm, rfl⟩))
  · rcases h2.look p with h | ⟨m, hm, h4, h5⟩
    · exact .inl h
    · refine .inr ⟨m.b, m.l, m.v, h4, h5, (h3 m hm).1, (h3 m hm).2, es, clk, h1, ?_⟩
      have : (encS m.l.Path, (.pointer (some ⟨m.b, 0, none⟩) : Value)) ∈ es.toList.map (fun e => (e.key, e.val)) := by
        rw [h2.1.1]
        exact List.mem_map.2 ⟨(m.l.Path, .pointer (some ⟨m.b, 0, none⟩)), List.mem_map.2 ⟨m, hm, rfl⟩, rfl⟩
      obtain ⟨e, he, ee⟩ := List.mem_map.1 this
      simp only [Prod.mk.injEq] at ee
      exact ⟨e, he, ee.1, ee.2⟩
end
section
variable {h0 : Heap} {g0 : GH} {S0 : Nat → Prop} {g : GH} {L : List Chunk} {h : Heap} {C c : Chunk} {mb : Nat} {ns : List Leaf}
theorem flM_mem {ms : List LMem} {m : LMem} (hm : m ∈ ms) {p : Nat × Obj} (hp : p ∈ chM m) : p ∈ flM ms := List.mem_flatten.2 ⟨_, List.mem_map.2 ⟨m, hm, rfl⟩, hp⟩
theorem IsLm.frz (H : IsLm g mb ns c) (s : St h0 g0 S0 g (C :: L) h) (hc : ∀ p ∈ c, p ∈ C) : VLm (gadd g C) mb ns := by
  obtain ⟨es, clk, ms, hp, hok, hr⟩ := H
  have hin : ∀ p ∈ (mb, .map es clk) :: flM ms, p ∈ C := fun p hp' => hc p (hp.mem_iff.2 hp')
  refine ⟨es, clk, ms, gadd_mem s.keys (hin _ (.head _)), hok, fun m hm => ⟨gadd_mem s.keys (hin _ (.tail _ (flM_mem hm (.head _)))), ?_⟩⟩
  have hrow : Row 5 kU8 g m.v m.l.Data m.c := (hr m hm).flat (fun _ _ _ _ h => h)
  exact hrow.frzIn s fun p hp' => hin p (.tail _ (flM_mem hm (.tail _ hp')))
end
end Go.Proofs.YtmjebehhpojihaaGreatDoor.Sw
namespace Go.Proofs.YtmjebehhpojihaaGreatDoor.Sw
set_option linter.unusedVariables false
set_option linter.unusedSimpArgs false
set_option linter.deprecated false
open Go Go.Sort Go.Proofs
def sortS (ss : List (List UInt8)) : List (List UInt8) := ss.mergeSort fun x y => decide (x ≤ y)
theorem sortS_len (ss : List (List UInt8)) : (sortS ss).length = ss.length := by simp [sortS]
theorem bl_lt : ∀ {a b : List UInt8}, Go.Op.bytesLess a b = true ↔ a < b
  | [], [] => by simp [Go.Op.bytesLess]
  | [], _ :: _ => by simp [Go.Op.bytesLess]
  | _ :: _, [] => by simp [Go.Op.bytesLess]
  | x :: a, y :: b => by
    simp only [Go.Op.bytesLess, Bool.or_eq_true, decide_eq_true_eq, Bool.and_eq_true, beq_iff_eq, List.cons_lt_cons_iff, bl_lt (a := a) (b := b)]
theorem sort_eq {l l' : List (List UInt8)} (h : l.Perm l') : sortS l = sortS l' := by
  have tr : ∀ a b c : List UInt8, decide (a ≤ b) = true → decide (b ≤ c) = true → decide (a ≤ c) = true := fun a b c h1 h2 => by simp only [decide_eq_true_eq] at *; exact List.le_trans h1 h2
  have tot : ∀ a b : List UInt8, (decide (a ≤ b) || decide (b ≤ a)) = true := fun a b => by simp only [Bool.or_eq_true, decide_eq_true_eq]; exact List.le_total a b
  refine List.Perm.eq_of_pairwise (le := fun a b => decide (a ≤ b) = true) (fun a b _ _ h1 h2 => ?_) (List.pairwise_mergeSort tr tot l) (List.pairwise_mergeSort tr tot l') (((List.mergeSort_perm l _).trans h).trans (List.mergeSort_perm l' _).symm)
  simp only [decide_eq_true_eq] at h1 h2
  exact List.le_antisymm h1 h2
theorem sort_self {l : List (List UInt8)} (h : l.Pairwise fun a b => Go.Op.bytesLess a b = true) : sortS l = l := by
  have tr : ∀ a b c : List UInt8, decide (a ≤ b) = true → decide (b ≤ c) = true → decide (a ≤ c) = true := fun a b c h1 h2 => by simp only [decide_eq_true_eq] at *; exact List.le_trans h1 h2
  have tot : ∀ a b : List UInt8, (decide (a ≤ b) || decide (b ≤ a)) = true := fun a b => by simp only [Bool.or_eq_true, decide_eq_true_eq]; exact List.le_total a b
  refine List.Perm.eq_of_pairwise (le := fun a b => decide (a ≤ b) = true) (fun a b _ _ h1 h2 => ?_) (List.pairwise_mergeSort tr tot l) (h.imp fun hl => ?_) (List.mergeSort_perm l _)
  · simp only [decide_eq_true_eq] at h1 h2
    exact List.le_antisymm h1 h2
  · simp only [decide_eq_true_eq]
    exact List.le_of_lt (bl_lt.1 hl)
theorem reads_sI {g : GH} : ∀ {xs : List (List UInt8)} {cs : List Value}, Reads kStr g xs cs → cs = xs.map encStr
  | [], cs, h => by simpa [Reads] using h
  | x :: xs, cs, ⟨c, cs', e, hk, hr⟩ => by
    have hk : c = [.string (mkS x)] := hk
    have := reads_sI hr
    subst hk this
    rw [e]
    rfl
theorem St.grow {h0 : Heap} {g0 : GH} {S0 : Nat → Prop} {g : GH} {L : List Chunk} {h : Heap} (s : St h0 g0 S0 g L h) (os : Array Obj) : St h0 g0 S0 g L (h ++ os) := by
  have old : ∀ b, b < h.size → (h ++ os)[b]? = h[b]? := fun b hb => by rw [Array.getElem?_append, if_pos hb]
  exact ⟨by have := s.size; simp; omega, fun b hb hs => (old b (Nat.lt_of_lt_of_le hb s.size)).trans (s.frame b hb hs), s.le, s.new,
    fun b x hb => (old b (s.sub.lt hb)).trans (s.sub b x hb), fun p hp => (old _ (s.lt hp)).trans (s.has p hp), s.nodup, s.sep, s.own⟩
theorem put_splice (cur : Array Value) (o : Nat) (ts : List (List UInt8)) (h : o + ts.length ≤ cur.size) : putCells encStr o ts.toArray cur = splice cur o (ts.map encStr) := by
  apply Array.ext_getElem?
  intro k
  have hc : cur.toList.length = cur.size := Array.length_toList
  unfold putCells splice
  rw [Array.getElem?_mapIdx]
  simp only [List.length_map, List.getElem?_toArray]
  rw [List.getElem?_append, List.length_append, List.length_take, List.length_map, List.getElem?_append, List.length_take, hc, Nat.min_eq_left (by omega)]
  by_cases h1 : k < o
  · rw [if_pos (by omega), if_pos h1, List.getElem?_take_of_lt h1, Array.getElem?_toList]
    cases cur[k]? with
    | none => rfl
    | some x => simp; omega
  · by_cases h2 : k < o + ts.length
    · rw [if_pos (by omega), if_neg h1, List.getElem?_map]
      have hk : k < cur.size := by omega
      have hj : k - o < ts.length := by omega
      rw [Array.getElem?_eq_getElem hk, List.getElem?_eq_getElem hj]
      simp only [Option.map_some]
      rw [if_pos ⟨by omega, by simpa using h2⟩]
      simp [hj]
    · rw [if_neg (by omega), List.getElem?_drop, Array.getElem?_toList, show o + ts.length + (k - (o + ts.length)) = k from by omega]
      cases cur[k]? with
      | none => rfl
      | some x => simp; omega
theorem sort_spec (B : World) (h : Heap) (g : GH) (hg : Sub g h) (v : Value) (ss : List (List UInt8)) (c : Chunk) (hr : Row 9 kStr g v ss c) (hl : ss.length ≤ 1000000000) (hs : St h g (ids [c]) g [c] h) :
    Spec Tryz.prog B 128 #[v] h g [c] fun rv g' L' => rv = .tuple #[] ∧ g' = g ∧ ∃ c', Row 9 kStr g v (sortS ss) c' ∧ L' = [c'] := by
  rcases hr with ⟨ao, rfl, rfl, rfl⟩ | ⟨b, o, cap, cur, rest, rfl, rfl, h1, h2, h3, h4⟩
  · intro w is
    exact (Tryz.slices_Sort_string_none ao 0 w).mono fun e w' ⟨he, hw⟩ => ⟨.tuple #[], he, hw ▸ is.again, g, [[]], by rw [hw, is.heap]; exact hs, rfl, rfl, [], .inl ⟨ao, rfl, by simp [sortS], rfl⟩, rfl⟩
  · intro w is
    have hb := hs.chunk 0 (b := b) rfl
    have hbw : w.heap[b]? = some (.cells cur 9 (0, 0)) := by rw [is.heap]; exact hb
    have hz : kStr.sz = 1 := rfl
    rw [hz, Nat.mul_one] at h3 h4
    have hcut := reads_sI h4
    have hcell : ∀ j, j < ss.length → cur[o + j]? = some (encStr ss[j]!) := by
      intro j hj
      have e : (cut cur o cap)[j]? = some (encStr ss[j]!) := by
        rw [hcut, List.getElem?_map, List.getElem?_append_left hj]
        simp [hj]
      unfold cut at e
      rw [List.getElem?_take_of_lt (by omega), List.getElem?_drop, Array.getElem?_toList] at e
      exact e
    have hH : Holds encStr w b o ss.toArray := by
      intro j hj
      have hj : j < ss.length := by simpa using hj
      refine ⟨?_, by simp [World.frozen?, hbw]⟩
      simp only [World.cell?, hbw]
      simp only [Option.isSome_none, Bool.false_eq_true, if_false]
      rw [hcell j hj]
      simp [hj]
    have hlt : b < w.heap.size := (Array.getElem?_eq_some_iff.1 hbw).1
    refine (Tryz.slices_Sort_string b o cap ss w hH hlt (by omega)).mono fun e w' ⟨he, n, os, hw⟩ => ⟨.tuple #[], he, ?_, ?_⟩
    · subst hw
      exact ⟨rfl, is.os, is.tape, is.output⟩
    · have hu : Upd h b (.cells (putCells encStr o (sortS ss).toArray cur) 9 (0, 0)) (h.modify b (onCells (putCells encStr o (sortS ss).toArray))) := Upd.modify (onCells (putCells encStr o (sortS ss).toArray)) hb
      have s1 := (hs.updAt 0 (b := b) rfl hu).grow os
      have hh : w'.heap = h.modify b (onCells (putCells encStr o (sortS ss).toArray)) ++ os := by
        rw [hw, ← is.heap]
        rfl
      rw [hh]
      have hts : o + (sortS ss).length ≤ cur.size := by rw [sortS_len]; omega
      have hput : putAt ss 0 (sortS ss) = sortS ss := by
        unfold putAt
        rw [List.take_zero, List.nil_append, Nat.zero_add, List.drop_eq_nil_of_le (by rw [sortS_len]; omega), List.append_nil]
      have hrow := Row.over (T := 9) (d := kStr) (b := b) (o := o) (cap := cap) (xs := ss) h1 h2 (by rw [hz, Nat.mul_one]; exact h3) (by rw [hz, Nat.mul_one]; exact h4) 0 (ys := sortS ss) (news := (sortS ss).map encStr) (by rw [sortS_len]; omega) (reads_strs g _)
      rw [hput, Nat.zero_mul, Nat.add_zero, sortS_len, ← put_splice cur o _ hts] at hrow
      exact ⟨g, _, s1, rfl, rfl, _, hrow, rfl⟩
end Go.Proofs.YtmjebehhpojihaaGreatDoor.Sw
namespace Go.Proofs.YtmjebehhpojihaaGreatDoor.Sw
set_option linter.unusedVariables false
set_option linter.unusedSimpArgs false
set_option linter.deprecated false
open Go
theorem maxEq {k : IntKind} (x y : Int) : Value.int k (if y > x then y else x) = Value.int k (max x y) := by
  congr 1
  split <;> omega
def enS (_ : GH) (x : Str) (a : Array Value) : Prop := a = #[.string (mkS x)]
def enP (_ : GH) (x : Str) (a : Array Value) : Prop := ∃ i : Int, a = #[.int .i64 i, .string (mkS x)]
def pre1 {α : Type} (go : List α → Bool) (xs : List α) : Prop := ∀ ys, ys <+: xs → ys ≠ xs → go ys = true
theorem pre_0 {α : Type} (go : List α → Bool) : pre1 go [] := fun ys h hn => absurd (List.prefix_nil.1 h) hn
theorem pre_step {α : Type} {go : List α → Bool} {xs : List α} {x : α} (h : pre1 go xs) (hg : go xs = true) : pre1 go (xs ++ [x]) := by
  intro ys hy hn
  rcases List.prefix_concat_iff.1 hy with e | hy
  · exact absurd e hn
  · by_cases hx : ys = xs
    · rw [hx]; exact hg
    · exact h ys hy hx
theorem perm_step {α : Type} {vs rs a b ks : List α} {x : α} (h : (vs ++ rs).Perm ks) (e : rs = a ++ x :: b) : ((vs ++ [x]) ++ (a ++ b)).Perm ks := by
  refine List.Perm.trans ?_ h
  rw [e, List.append_assoc]
  exact List.Perm.append_left _ (List.perm_middle.symm : (x :: (a ++ b)).Perm (a ++ x :: b))
theorem ord_end {α β : Type} {f : α → β} {vs rs ks : List α} {P : List β} (h : (vs ++ rs).Perm ks) (e : rs = []) (hp : (ks.map f).Perm P) : (vs.map f).Perm P := by
  subst e
  rw [List.append_nil] at h
  exact (h.map f).trans hp
theorem ord_stop {α β : Type} {f : α → β} {vs rs a b ks : List α} {x : α} {P : List β} (h : (vs ++ rs).Perm ks) (e : rs = a ++ x :: b) (hp : (ks.map f).Perm P) : (((vs ++ [x]) ++ (a ++ b)).map f).Perm P :=
  ((perm_step h e).map f).trans hp
def kidQ (p q : Str) : Bool := decide (cutErr q = 0) && decide (parentOf q = p)
theorem kids_map (ns : List Leaf) (p : Str) : (ns.map (·.Path)).filter (kidQ p) = kidsL ns p := by
  unfold kidsL
  rw [List.filter_map]
  rfl
theorem kids_perm {xs : List Str} {ns : List Leaf} {p : Str} (h : xs.Perm (ns.map (·.Path))) : (xs.filter (kidQ p)).Perm (kidsL ns p) := by
  rw [← kids_map]
  exact h.filter _
theorem short_of {vs rs a b ks : List (Str × Value)} {k : Str} {v : Value} (hs : ∀ p ∈ ks, p.1.length ≤ 64) (h : (vs ++ rs).Perm ks) (e : rs = a ++ (k, v) :: b) : k.length ≤ 64 :=
  hs (k, v) (h.mem_iff.1 (by rw [e]; simp))
theorem hist_yes {vs : List (Str × Value)} {k p : Str} {v : Value} (h1 : cutErr k = 0) (h2 : parentOf k = p) : ((vs ++ [(k, v)]).map (·.1)).filter (kidQ p) = (vs.map (·.1)).filter (kidQ p) ++ [k] := by
  rw [List.map_append, List.filter_append]
  simp [kidQ, h1, h2]
theorem hist_no1 {vs : List (Str × Value)} {k p : Str} {v : Value} (h1 : ¬ cutErr k = 0) : ((vs ++ [(k, v)]).map (·.1)).filter (kidQ p) = (vs.map (·.1)).filter (kidQ p) := by
  rw [List.map_append, List.filter_append]
  simp [kidQ, h1]
theorem hist_no2 {vs : List (Str × Value)} {k p : Str} {v : Value} (h2 : ¬ parentOf k = p) : ((vs ++ [(k, v)]).map (·.1)).filter (kidQ p) = (vs.map (·.1)).filter (kidQ p) := by
  rw [List.map_append, List.filter_append]
  simp [kidQ, h2]
theorem kids_pre {vs r : List (Str × Value)} {k p : Str} {v : Value} (h1 : cutErr k = 0) (h2 : parentOf k = p) : (vs.map (·.1)).filter (kidQ p) ++ [k] <+: (((vs ++ [(k, v)]) ++ r).map (·.1)).filter (kidQ p) := by
  rw [List.map_append, List.filter_append, hist_yes h1 h2]
  exact List.prefix_append _ _
theorem back_0 {α : Type} (s : List α) : (s.drop ((s.length : Int) - 1 + 1).toNat).reverse = [] := by
  rw [show ((s.length : Int) - 1 + 1).toNat = s.length by omega]; simp
theorem back_1 {α : Type} {s : List α} {i : Int} {x : α} (h : 0 ≤ i) (hx : s[i.toNat]? = some x) : (s.drop (i - 1 + 1).toNat).reverse = (s.drop (i + 1).toNat).reverse ++ [x] := by
  rw [show (i - 1 + 1).toNat = i.toNat by omega, show (i + 1).toNat = i.toNat + 1 by omega, drop_at hx, List.reverse_cons]
theorem back_end {α : Type} {s : List α} {i : Int} (h : -1 ≤ i) (h2 : i < 0) : (s.drop (i + 1).toNat).reverse = s.reverse := by
  rw [show (i + 1).toNat = 0 by omega]; rfl
theorem back_pre {α : Type} (s : List α) (n : Nat) : (s.drop n).reverse <+: s.reverse := by
  refine ⟨(s.take n).reverse, ?_⟩
  rw [← List.reverse_append, List.take_append_drop]
theorem paths_sorted {ns : List Leaf} (h : SortL ns) : (ns.map (·.Path)).Pairwise fun a b => Go.Op.bytesLess a b = true := List.pairwise_map.2 h
theorem sort_kids {r : List Str} {ns : List Leaf} {p : Str} (hp : r.Perm (kidsL ns p)) (h : SortL ns) : sortS r = kidsL ns p :=
  (sort_eq hp).trans (sort_self (paths_sorted (List.Pairwise.sublist List.filter_sublist h)))
theorem VLm.sort {g : GH} {mb : Nat} {ns : List Leaf} (h : VLm g mb ns) : SortL ns := by
  obtain ⟨_, _, _, _, h2, _⟩ := h
  exact h2.2.2.1
theorem VTree.sort {g : GH} {b : Nat} {ns : List Leaf} (h : VTree g b ns) : SortL ns := by
  obtain ⟨_, _, h2⟩ := h
  exact h2.sort
abbrev gE : GH := fun _ => none
theorem gadd_app {c c' : Chunk} : gle (gadd gE c) (gadd gE (c ++ c')) := by
  intro b o h
  unfold gadd at *
  rw [List.find?_append]
  cases hf : c.find? (fun p => Nat.beq p.1 b) with
  | none => rw [hf] at h; cases h
  | some p => rw [hf] at h; exact h
theorem row_in {v : Value} {xs : List UInt8} {c C : Chunk} (h : Row 5 kU8 gE v xs c) (hn : (C.map (·.1)).Nodup) (hc : ∀ p ∈ c, p ∈ C) : SlR (gadd gE C) 5 kU8 v xs := by
  rcases h.old with ⟨ao, rfl, rfl, _⟩ | ⟨b, o, cap, cur, rfl, rfl, h1, h2, h3, h4⟩
  · exact SlR.empty _ _ _ _ _
  · exact ⟨_, cap, rfl, h1, fun _ => ⟨b, o, cur, (5, 0, 0), rfl, gadd_mem hn (hc _ (List.mem_singleton.2 rfl)), reads_flat (fun _ _ _ _ h => h) h4⟩⟩
theorem St.keysAt {h0 : Heap} {g0 : GH} {S0 : Nat → Prop} {g : GH} {L : List Chunk} {h : Heap} (s : St h0 g0 S0 g L h) {A : Chunk} (hs : A.Sublist L.flatten) : (A.map (·.1)).Nodup := List.Nodup.sublist (hs.map _) s.nodup
theorem gadd_le {g : GH} {d : Chunk} (hs : ∀ p ∈ d, g p.1 = none) : gle (gadd gE d) (gadd g d) := by
  intro b o h
  unfold gadd at *
  cases hf : d.find? (fun p => Nat.beq p.1 b) with
  | none => rw [hf] at h; cases h
  | some p => rw [hf] at h; exact h
theorem Deep.freeze {h0 : Heap} {g0 : GH} {S0 : Nat → Prop} {g : GH} {L : List Chunk} {h : Heap} {α : Type} {T : TypeId} {d : Kd α} {v : Value} {xs : List α} {c dc : Chunk} (hr : Row T d (gadd gE dc) v xs c) (s : St h0 g0 S0 g (c :: dc :: L) h) :
    ∃ g', St h0 g0 S0 g' L h ∧ gle g g' ∧ SlR g' T d v xs := by
  have s1 := s.perm (L' := dc :: c :: L) (List.Perm.swap _ _ _)
  obtain ⟨s2, hl2⟩ := St.freeze s1
  have hr2 : Row T d (gadd g dc) v xs c := hr.mono (gadd_le fun p hp => s1.sep p (by simp [hp]))
  obtain ⟨g', s3, hl3, hs⟩ := Row.freeze hr2 s2
  exact ⟨g', s3, hl2.trans hl3, hs⟩
end Go.Proofs.YtmjebehhpojihaaGreatDoor.Sw
namespace Go.Proofs.YtmjebehhpojihaaGreatDoor.Sw
open Go
set_option maxRecDepth 100000
set_option linter.unusedVariables false
set_option linter.unusedSimpArgs false
set_option linter.deprecated false
theorem hasPrefixL (B : World) (h : Heap) (g : GH) (hg : Sub g h) (hG : Glob g) (s : List UInt8) (p : List UInt8)  :
  Spec Tryz.prog B 186 #[.string (mkS s), .string (mkS p)] h g [] (fun rv g' L' => rv = .bool (p.isPrefixOf s) ∧ g' = g ∧ L' = []) := by
 refine Spec.of_at (f := Tryz.f186) (e := [(0, .string (mkS s)), (1, .string (mkS p))]) Tryz.func186 (by kernel_rfl) (Nat.le_of_ble_eq_true (by kernel_rfl)) (by kernel_rfl) (by kernel_rfl) ?_
 intro R hR
 have s0 := St.init hg
 refine At.reg (L := [(0, false)]) (by kernel_rfl) ?_
 refine Op.pures 1 [0, 1] (L' := []) (e' := [(0, .string (mkS s)), (1, .string (mkS p))]) (by kernel_rfl) ?_
 refine Op.goto 1 (by kernel_rfl) ?_
 refine At.reg (L := [(0, false), (1, false), (2, false), (3, false), (4, false), (5, false), (6, false), (7, false), (8, false), (9, false), (10, false), (11, false), (12, false), (13, false)]) (by kernel_rfl) ?_
 refine Op.pures 6 [0, 1, 10] (L' := [(6, false), (7, false), (8, false), (9, false), (10, false), (11, false), (12, false), (13, false)]) (e' := [(0, .string (mkS s)), (1, .string (mkS p)), (10, .bool (decide ((s.length : Int) ≥ (p.length : Int))))]) (by kernel_rfl) ?_
 refine Op.ways (b := decide ((s.length : Int) ≥ (p.length : Int))) ⟨fun hb => ?_, fun hb => ?_⟩
 ·refine Op.cast (e' := [(0, .string (mkS s)), (1, .string (mkS p)), (10, .bool true)]) (by rw [hb]) ?_
  have c1001 : (s.length : Int) ≥ (p.length : Int) := of_decide_eq_true hb
  clear hb
  refine Op.pures 3 [1, 10, 11, 13] (L' := [(9, false), (10, false), (11, false), (12, false), (13, false)]) (e' := [(1, .string (mkS p)), (10, .bool true), (11, .string (mkS s)), (13, .int .i64 (p.length : Int))]) (by kernel_rfl) ?_
  refine Op.strHi (T := 9) (k := .i64) (x := (.tmp 11)) (hi := (.tmp 13)) (dst := 14) (l := s) (n := (p.length : Int)) (by kernel_rfl) (by kernel_rfl) (by kernel_rfl) (by kernel_rfl) (by omega) (by omega) ?_
  refine Op.pures 1 [10, 14, 15] (L' := [(11, false), (12, false), (13, false)]) (e' := [(10, .bool true), (14, .string (mkS (s.take ((p.length : Int) : Int).toNat))), (15, .string (mkS p))]) (by kernel_rfl) ?_
  refine Op.val (dst := some 16) (v := .bool ((mkS (s.take ((p.length : Int) : Int).toNat)).toList == (mkS p).toList)) (v' := .bool ((s.take ((p.length : Int) : Int).toNat) == p)) (by kernel_rfl) (by rw [toList_mkS, toList_mkS]) ?_
  refine Op.pures 2 [4] (L' := []) (e' := [(4, .bool ((s.take ((p.length : Int) : Int).toNat) == p))]) (by kernel_rfl) ?_
  refine Op.goto 2 (by kernel_rfl) ?_
  refine At.ret (f := Tryz.f186) (v := .bool ((s.take ((p.length : Int) : Int).toNat) == p)) (by kernel_rfl) (by kernel_rfl) ?_
  refine hR _ _ _ _ s0 ⟨?_, rfl, rfl⟩
  exact (eqB (by first | exact hasP1 | exact (hasP2 (by omega)).symm))
 ·refine Op.cast (e' := [(0, .string (mkS s)), (1, .string (mkS p)), (10, .bool false)]) (by rw [hb]) ?_
  have c1002 : ¬ ((s.length : Int) ≥ (p.length : Int)) := of_decide_eq_false hb
  clear hb
  refine Op.pures 8 [4] (L' := []) (e' := [(4, .bool false)]) (by kernel_rfl) ?_
  refine Op.goto 2 (by kernel_rfl) ?_
  refine At.ret (f := Tryz.f186) (v := .bool false) (by kernel_rfl) (by kernel_rfl) ?_
  refine hR _ _ _ _ s0 ⟨?_, rfl, rfl⟩
  exact (eqB (by first | exact hasP1 | exact (hasP2 (by omega)).symm))
theorem cutPrefixL (B : World) (h : Heap) (g : GH) (hg : Sub g h) (hG : Glob g) (s : List UInt8) (p : List UInt8)  :
  Spec Tryz.prog B 187 #[.string (mkS s), .string (mkS p)] h g [] (fun rv g' L' => rv = .tuple #[.string (mkS (if p.isPrefixOf s = true then s.drop p.length else s)), .bool (p.isPrefixOf s)] ∧ g' = g ∧ L' = []) := by
 refine Spec.of_at (f := Tryz.f187) (e := [(0, .string (mkS s)), (1, .string (mkS p))]) Tryz.func187 (by kernel_rfl) (Nat.le_of_ble_eq_true (by kernel_rfl)) (by kernel_rfl) (by kernel_rfl) ?_
 intro R hR
 have s0 := St.init hg
 refine At.reg (L := [(0, false), (1, false)]) (by kernel_rfl) ?_
 refine Op.pures 2 [0, 1] (L' := []) (e' := [(0, .string (mkS s)), (1, .string (mkS p))]) (by kernel_rfl) ?_
 refine Op.goto 1 (by kernel_rfl) ?_
 refine At.reg (L := [(0, false), (1, false), (2, false), (3, false)]) (by kernel_rfl) ?_
 refine Op.pures 2 [0, 1, 6, 7] (L' := [(2, false), (3, false)]) (e' := [(0, .string (mkS s)), (1, .string (mkS p)), (6, .string (mkS s)), (7, .string (mkS p))]) (by kernel_rfl) ?_
 refine Op.call0 (dst := some 8) (f := 186) (args := #[.string (mkS s), .string (mkS p)]) (by kernel_rfl) s0 (hasPrefixL _ _ _ s0.sub hG s p  ) ?_
 rintro _ g1009 _ h1007 hle1010 s1008 ⟨rfl, hgg, rfl⟩; subst g1009; clear hle1010
 refine Op.pures 1 [0, 1, 9] (L' := []) (e' := [(0, .string (mkS s)), (1, .string (mkS p)), (9, .bool (!(p.isPrefixOf s)))]) (by kernel_rfl) ?_
 refine Op.goto 2 (by kernel_rfl) ?_
 refine At.cond (b := !(p.isPrefixOf s)) (c := .tmp 9) (by kernel_rfl) (by kernel_rfl) (by kernel_rfl) 3 5 (by kernel_rfl) (by kernel_rfl) (fun hb => ?_) (fun hb => ?_)
 ·have c1011 : (p.isPrefixOf s) = false := (notT hb)
  clear hb
  refine At.keep [0] ?_; show At _ _ _ [(0, .string (mkS s))] _
  refine At.reg (L := [(0, false), (1, false), (2, false)]) (by kernel_rfl) ?_
  refine Op.pures 3 [4, 5] (L' := []) (e' := [(4, .string (mkS s)), (5, .bool false)]) (by kernel_rfl) ?_
  refine Op.goto 4 (by kernel_rfl) ?_
  refine At.ret (f := Tryz.f187) (v := .tuple #[.string (mkS s), .bool false]) (by kernel_rfl) (by kernel_rfl) ?_
  refine hR _ _ _ _ s1008 ⟨?_, rfl, rfl⟩
  exact eqT2 (eqS (by simp_all)) (eqB (by simp_all))
 ·have c1012 : (p.isPrefixOf s) = true := (notF hb)
  clear hb
  refine At.keep [0, 1] ?_; show At _ _ _ [(0, .string (mkS s)), (1, .string (mkS p))] _
  refine At.reg (L := [(0, false), (1, false), (2, false), (3, false), (4, false), (5, false)]) (by kernel_rfl) ?_
  refine Op.pures 3 [11, 13] (L' := [(3, false), (4, false), (5, false)]) (e' := [(11, .string (mkS s)), (13, .int .i64 (p.length : Int))]) (by kernel_rfl) ?_
  refine Op.strLo (T := 9) (k := .i64) (x := (.tmp 11)) (lo := (.tmp 13)) (dst := 14) (l := s) (n := (p.length : Int)) (by kernel_rfl) (by kernel_rfl) (by kernel_rfl) (by kernel_rfl) (by have := hasP_len c1012; omega) (by have := hasP_len c1012; omega) ?_
  refine Op.pures 2 [4, 5] (L' := []) (e' := [(4, .string (mkS (s.drop ((p.length : Int) : Int).toNat))), (5, .bool true)]) (by kernel_rfl) ?_
  refine Op.goto 6 (by kernel_rfl) ?_
  refine At.ret (f := Tryz.f187) (v := .tuple #[.string (mkS (s.drop ((p.length : Int) : Int).toNat)), .bool true]) (by kernel_rfl) (by kernel_rfl) ?_
  refine hR _ _ _ _ s1008 ⟨?_, rfl, rfl⟩
  exact eqT2 (eqS (by simp_all)) (eqB (by simp_all))
theorem cutPrefix (B : World) (h : Heap) (g : GH) (hg : Sub g h) (hG : Glob g) (s : List UInt8) (p : List UInt8)  :
  Spec Tryz.prog B 155 #[.string (mkS s), .string (mkS p)] h g [] (fun rv g' L' => rv = .tuple #[.string (mkS (if p.isPrefixOf s = true then s.drop p.length else s)), .bool (p.isPrefixOf s)] ∧ g' = g ∧ L' = []) := by
 refine Spec.of_at (f := Tryz.f155) (e := [(0, .string (mkS s)), (1, .string (mkS p))]) Tryz.func155 (by kernel_rfl) (Nat.le_of_ble_eq_true (by kernel_rfl)) (by kernel_rfl) (by kernel_rfl) ?_
 intro R hR
 have s0 := St.init hg
 refine At.reg (L := [(0, false), (1, false)]) (by kernel_rfl) ?_
 refine Op.pures 2 [0, 1] (L' := []) (e' := [(0, .string (mkS s)), (1, .string (mkS p))]) (by kernel_rfl) ?_
 refine Op.goto 1 (by kernel_rfl) ?_
 refine At.reg (L := [(0, false), (1, false), (2, false), (3, false), (4, false), (5, false), (6, false)]) (by kernel_rfl) ?_
 refine Op.pures 2 [6, 7] (L' := [(2, false), (3, false), (4, false), (5, false), (6, false)]) (e' := [(6, .string (mkS s)), (7, .string (mkS p))]) (by kernel_rfl) ?_
 refine Op.call0 (dst := some 8) (f := 187) (args := #[.string (mkS s), .string (mkS p)]) (by kernel_rfl) s0 (cutPrefixL _ _ _ s0.sub hG s p  ) ?_
 rintro _ g1015 _ h1013 hle1016 s1014 ⟨rfl, hgg, rfl⟩; subst g1015; clear hle1016
 refine Op.pures 4 [4, 5] (L' := []) (e' := [(4, .string (mkS (if p.isPrefixOf s = true then s.drop p.length else s))), (5, .bool (p.isPrefixOf s))]) (by kernel_rfl) ?_
 refine Op.goto 2 (by kernel_rfl) ?_
 refine At.ret (f := Tryz.f155) (v := .tuple #[.string (mkS (if p.isPrefixOf s = true then s.drop p.length else s)), .bool (p.isPrefixOf s)]) (by kernel_rfl) (by kernel_rfl) ?_
 refine hR _ _ _ _ s1014 ⟨?_, rfl, rfl⟩
 exact eqT2 (eqS (by rfl)) (eqB (by rfl))
theorem partP (B : World) (h : Heap) (g : GH) (hg : Sub g h) (hG : Glob g) (s : List UInt8) (hlen : s.length ≤ 1000000000) :
  Spec Tryz.prog B 158 #[.string (mkS s)] h g [] (fun rv g' L' => rv = .bool (okPart s) ∧ g' = g ∧ L' = []) := by
 refine Spec.of_at (f := Tryz.f158) (e := [(0, .string (mkS s))]) Tryz.func158 (by kernel_rfl) (Nat.le_of_ble_eq_true (by kernel_rfl)) (by kernel_rfl) (by kernel_rfl) ?_
 intro R hR
 have s0 := St.init hg
 refine At.reg (L := [(0, false)]) (by kernel_rfl) ?_
 refine Op.pures 1 [0] (L' := []) (e' := [(0, .string (mkS s))]) (by kernel_rfl) ?_
 refine Op.goto 1 (by kernel_rfl) ?_
 refine At.reg (L := [(0, false), (1, false), (2, false), (3, false), (4, false), (5, false), (6, false), (7, false), (8, false), (9, false), (10, false), (11, false), (12, false)]) (by kernel_rfl) ?_
 refine Op.pures 1 [0, 3] (L' := [(1, false), (2, false), (3, false), (4, false), (5, false), (6, false), (7, false), (8, false), (9, false), (10, false), (11, false), (12, false)]) (e' := [(0, .string (mkS s)), (3, .string (mkS s))]) (by kernel_rfl) ?_
 refine Op.val (dst := some 4) (v := .bool (!((mkS s).toList == (mkS []).toList))) (v' := .bool (!(s == ([] : List UInt8)))) (by kernel_rfl) (by rw [toList_mkS, toList_mkS]) ?_
 refine Op.pures 1 [0, 5] (L' := [(3, false), (4, false), (5, false), (6, false), (7, false), (8, false), (9, false), (10, false), (11, false), (12, false)]) (e' := [(0, .string (mkS s)), (5, .bool (!(s == ([] : List UInt8))))]) (by kernel_rfl) ?_
 refine Op.ways (b := !(s == ([] : List UInt8))) ⟨fun hb => ?_, fun hb => ?_⟩
 ·refine Op.cast (e' := [(0, .string (mkS s)), (5, .bool true)]) (by rw [hb]) ?_
  have c1017 : ¬ (s = ([] : List UInt8)) := neF (notT hb)
  clear hb
  refine Op.pures 5 [0, 10] (L' := [(8, false), (9, false), (10, false), (11, false), (12, false)]) (e' := [(0, .string (mkS s)), (10, .bool (decide ((s.length : Int) ≤ (16 : Int))))]) (by kernel_rfl) ?_
  refine Op.ways (b := decide ((s.length : Int) ≤ (16 : Int))) ⟨fun hb => ?_, fun hb => ?_⟩
  ·refine Op.cast (e' := [(0, .string (mkS s)), (10, .bool true)]) (by rw [hb]) ?_
   have c1018 : (s.length : Int) ≤ (16 : Int) := of_decide_eq_true hb
   clear hb
   refine Op.pures 1 [10, 11] (L' := [(9, false), (10, false), (11, false), (12, false)]) (e' := [(10, .bool true), (11, .string (mkS s))]) (by kernel_rfl) ?_
   refine Op.call0 (dst := some 12) (f := 145) (args := #[.string (mkS s), .string (mkS ([97, 98, 99, 100, 101, 102, 103, 104, 105, 106, 107, 108, 109, 110, 111, 112, 113, 114, 115, 116, 117, 118, 119, 120, 121, 122, 48, 49, 50, 51, 52, 53, 54, 55, 56, 57, 45, 95]))]) (by kernel_rfl) s0 (trim_spec _ _ _ s0.sub hG s ([97, 98, 99, 100, 101, 102, 103, 104, 105, 106, 107, 108, 109, 110, 111, 112, 113, 114, 115, 116, 117, 118, 119, 120, 121, 122, 48, 49, 50, 51, 52, 53, 54, 55, 56, 57, 45, 95]) (by ((try dsimp only) <;> (first | omega | decide | exact asciiAll (by decide)))) (by ((try dsimp only) <;> (first | omega | decide | exact asciiAll (by decide)))) (by ((try dsimp only) <;> (first | omega | decide | exact asciiAll (by decide)))) ) ?_
   rintro _ g1021 _ h1019 hle1022 s1020 ⟨rfl, hgg, rfl⟩; subst g1021; clear hle1022
   refine Op.val (dst := some 13) (v := .bool ((mkS (Lib.trimS s ([97, 98, 99, 100, 101, 102, 103, 104, 105, 106, 107, 108, 109, 110, 111, 112, 113, 114, 115, 116, 117, 118, 119, 120, 121, 122, 48, 49, 50, 51, 52, 53, 54, 55, 56, 57, 45, 95]))).toList == (mkS []).toList)) (v' := .bool ((Lib.trimS s ([97, 98, 99, 100, 101, 102, 103, 104, 105, 106, 107, 108, 109, 110, 111, 112, 113, 114, 115, 116, 117, 118, 119, 120, 121, 122, 48, 49, 50, 51, 52, 53, 54, 55, 56, 57, 45, 95])) == ([] : List UInt8))) (by kernel_rfl) (by rw [toList_mkS, toList_mkS]) ?_
   refine Op.pures 2 [2] (L' := []) (e' := [(2, .bool ((Lib.trimS s ([97, 98, 99, 100, 101, 102, 103, 104, 105, 106, 107, 108, 109, 110, 111, 112, 113, 114, 115, 116, 117, 118, 119, 120, 121, 122, 48, 49, 50, 51, 52, 53, 54, 55, 56, 57, 45, 95])) == ([] : List UInt8)))]) (by kernel_rfl) ?_
   refine Op.goto 2 (by kernel_rfl) ?_
   refine At.ret (f := Tryz.f158) (v := .bool ((Lib.trimS s ([97, 98, 99, 100, 101, 102, 103, 104, 105, 106, 107, 108, 109, 110, 111, 112, 113, 114, 115, 116, 117, 118, 119, 120, 121, 122, 48, 49, 50, 51, 52, 53, 54, 55, 56, 57, 45, 95])) == ([] : List UInt8))) (by kernel_rfl) (by kernel_rfl) ?_
   refine hR _ _ _ _ s1020 ⟨?_, rfl, rfl⟩
   exact (eqB (by first | exact part_t c1017 c1018 | exact part_l c1018 | (subst c1017; exact part_0)))
  ·refine Op.cast (e' := [(0, .string (mkS s)), (10, .bool false)]) (by rw [hb]) ?_
   have c1023 : ¬ ((s.length : Int) ≤ (16 : Int)) := of_decide_eq_false hb
   clear hb
   refine Op.pures 5 [2] (L' := []) (e' := [(2, .bool false)]) (by kernel_rfl) ?_
   refine Op.goto 2 (by kernel_rfl) ?_
   refine At.ret (f := Tryz.f158) (v := .bool false) (by kernel_rfl) (by kernel_rfl) ?_
   refine hR _ _ _ _ s0 ⟨?_, rfl, rfl⟩
   exact (eqB (by first | exact part_t c1017 c1023 | exact part_l c1023 | (subst c1017; exact part_0)))
 ·refine Op.cast (e' := [(0, .string (mkS s)), (5, .bool false)]) (by rw [hb]) ?_
  have c1024 : s = ([] : List UInt8) := eq_of_beq (notF hb)
  clear hb
  refine Op.pures 10 [2] (L' := []) (e' := [(2, .bool false)]) (by kernel_rfl) ?_
  refine Op.goto 2 (by kernel_rfl) ?_
  refine At.ret (f := Tryz.f158) (v := .bool false) (by kernel_rfl) (by kernel_rfl) ?_
  refine hR _ _ _ _ s0 ⟨?_, rfl, rfl⟩
  exact (eqB (by first | exact part_t c1024 {c1} | exact part_l {c1} | (subst c1024; exact part_0)))
theorem parts1 (B : World) (h : Heap) (g : GH) (hg : Sub g h) (hG : Glob g) (s : List UInt8) (hlen : s.length ≤ 1000000000) :
  Spec Tryz.prog B 157 #[.string (mkS s)] h g [] (fun rv g' L' => rv = .bool (!okPart s) ∧ g' = g ∧ L' = []) := by
 refine Spec.of_at (f := Tryz.f157) (e := [(0, .string (mkS s))]) Tryz.func157 (by kernel_rfl) (Nat.le_of_ble_eq_true (by kernel_rfl)) (by kernel_rfl) (by kernel_rfl) ?_
 intro R hR
 have s0 := St.init hg
 refine At.reg (L := [(0, false)]) (by kernel_rfl) ?_
 refine Op.pures 1 [0] (L' := []) (e' := [(0, .string (mkS s))]) (by kernel_rfl) ?_
 refine Op.goto 1 (by kernel_rfl) ?_
 refine At.reg (L := [(0, false), (1, false), (2, false), (3, false)]) (by kernel_rfl) ?_
 refine Op.pures 1 [3] (L' := [(1, false), (2, false), (3, false)]) (e' := [(3, .string (mkS s))]) (by kernel_rfl) ?_
 refine Op.call0 (dst := some 4) (f := 158) (args := #[.string (mkS s)]) (by kernel_rfl) s0 (partP _ _ _ s0.sub hG s (by ((try dsimp only) <;> (omega))) ) ?_
 rintro _ g1027 _ h1025 hle1028 s1026 ⟨rfl, hgg, rfl⟩; subst g1027; clear hle1028
 refine Op.pures 2 [2] (L' := []) (e' := [(2, .bool (!(okPart s)))]) (by kernel_rfl) ?_
 refine Op.goto 2 (by kernel_rfl) ?_
 refine At.ret (f := Tryz.f157) (v := .bool (!(okPart s))) (by kernel_rfl) (by kernel_rfl) ?_
 refine hR _ _ _ _ s1026 ⟨?_, rfl, rfl⟩
 exact (eqB (by rfl))
theorem indexFuncS (B : World) (h : Heap) (g : GH) (hg : Sub g h) (hG : Glob g) (v_l : Value) (l : List (List UInt8)) (h_l : SlR g 9 kStr v_l l) (f : Nat) (q : (List UInt8) → Bool) (hf : Enterable Tryz.prog f) (hq : ∀ (B : World) (h : Heap) (g : GH), Sub g h → Glob g → ∀ (x : List UInt8), x.length ≤ 1000000000 → Spec Tryz.prog B f #[.string (mkS x)] h g [] (fun v g' L' => v = .bool (q x) ∧ g' = g ∧ L' = [])) (hall : ∀ x ∈ l, x.length ≤ 1000000000) (hlen : l.length ≤ 1000000000) :
  Spec Tryz.prog B 188 #[v_l, .func (.func f) #[] #[]] h g [] (fun rv g' L' => rv = .int .i64 (findI q l) ∧ g' = g ∧ L' = []) := by
 obtain ⟨a_l, n_l, rfl⟩ := h_l.form
 refine Spec.of_at (f := Tryz.f188) (e := [(0, .slice a_l l.length n_l), (1, .func (.func f) #[] #[])]) Tryz.func188 (by kernel_rfl) (Nat.le_of_ble_eq_true (by kernel_rfl)) (by kernel_rfl) (by kernel_rfl) ?_
 intro R hR
 have s0 := St.init hg
 refine At.reg (L := [(0, false)]) (by kernel_rfl) ?_
 refine Op.pures 1 [0, 1] (L' := []) (e' := [(0, .slice a_l l.length n_l), (1, .func (.func f) #[] #[])]) (by kernel_rfl) ?_
 refine Op.goto 1 (by kernel_rfl) ?_
 refine At.reg (L := [(0, false), (1, false), (2, false)]) (by kernel_rfl) ?_
 refine Op.pures 3 [0, 1, 7, 8] (L' := []) (e' := [(0, .slice a_l l.length n_l), (1, .func (.func f) #[] #[]), (7, .int .i64 (l.length : Int)), (8, .int .i64 0)]) (by kernel_rfl) ?_
 refine Op.goto 2 (by kernel_rfl) ?_
 have loop2 : ∀ (m : Nat) (i : Int) (h1029 : Heap) (hm : l.length - i.toNat < m) (h0 : 0 ≤ i) (h1 : i ≤ l.length) (hat : findAt q l i)     (s_loop21028 : St h g (ids []) g [] h1029), At (fctx Tryz.prog B 188 Tryz.f188 R) [] 2 [(0, .slice a_l l.length n_l), (1, .func (.func f) #[] #[]), (7, .int .i64 (l.length : Int)), (8, .int .i64 i)] h1029 := by
  intro m; induction m with
  | zero => intros; omega
  | succ m ih2 =>
   intro i h1029 hm h0 h1 hat s_loop21028
   refine At.reg (L := [(0, false)]) (by kernel_rfl) ?_
   refine Op.pures 1 [0, 1, 7, 8, 9] (L' := []) (e' := [(0, .slice a_l l.length n_l), (1, .func (.func f) #[] #[]), (7, .int .i64 (l.length : Int)), (8, .int .i64 i), (9, .bool (decide (i < (l.length : Int))))]) (by kernel_rfl) ?_
   refine Op.goto 3 (by kernel_rfl) ?_
   refine At.cond (b := decide (i < (l.length : Int))) (c := .tmp 9) (by kernel_rfl) (by kernel_rfl) (by kernel_rfl) 4 10 (by kernel_rfl) (by kernel_rfl) (fun hb => ?_) (fun hb => ?_)
   ·have c1030 : i < (l.length : Int) := of_decide_eq_true hb
    clear hb
    refine At.keep [0, 1, 7, 8] ?_; show At _ _ _ [(0, .slice a_l l.length n_l), (1, .func (.func f) #[] #[]), (7, .int .i64 (l.length : Int)), (8, .int .i64 i)] _
    refine At.reg (L := [(0, false), (1, false)]) (by kernel_rfl) ?_
    refine Op.pures 2 [0, 1, 5, 7, 8] (L' := []) (e' := [(0, .slice a_l l.length n_l), (1, .func (.func f) #[] #[]), (5, .int .i64 i), (7, .int .i64 (l.length : Int)), (8, .int .i64 i)]) (by kernel_rfl) ?_
    refine Op.goto 5 (by kernel_rfl) ?_
    refine At.reg (L := [(0, false), (1, false), (2, false), (3, false), (4, false), (5, false)]) (by kernel_rfl) ?_
    refine Op.pures 3 [0, 1, 5, 7, 8, 11, 12, 13] (L' := [(3, false), (4, false), (5, false)]) (e' := [(0, .slice a_l l.length n_l), (1, .func (.func f) #[] #[]), (5, .int .i64 i), (7, .int .i64 (l.length : Int)), (8, .int .i64 i), (11, .func (.func f) #[] #[]), (12, .slice a_l l.length n_l), (13, .int .i64 i)]) (by kernel_rfl) ?_
    obtain ⟨x1031, hx1032⟩ : ∃ c, l[(i : Int).toNat]? = some c := ⟨_, List.getElem?_eq_getElem (by omega)⟩
    obtain ⟨b1033, o1034, cu1035, fz1036, ha1037, hb1038, hk1039⟩ := SlR.at_ h_l _ hx1032
    cases ha1037
    refine Op.idx (T := 54) (E := 9) (sz := 1) (by_ := 16) (n := l.length) (c := n_l) (k := .i64) (x := (.tmp 12)) (ix := (.tmp 13)) (dst := 14) (bk := b1033) (o := o1034) (m := i) (by kernel_rfl) (by kernel_rfl) (by kernel_rfl) (by kernel_rfl) (by omega) (by omega) ?_
    replace hk1039 : cut _ _ _ = [.string (mkS x1031)] := hk1039
    refine Op.load (T := 9) (x := (.tmp 14)) (o := o1034 + (i : Int).toNat * 1) (d := 15) (n := 1) (v := .string (mkS x1031)) (by kernel_rfl) (by kernel_rfl) (by kernel_rfl) (s_loop21028.sub _ _ hb1038) (cut_get hk1039 0 rfl) ?_
    refine Op.callV (dst := some 16) (x := (.tmp 11)) (ops := #[(.tmp 15)]) (ts := #[9]) (f := f) (first := #[]) (cap := #[]) (Lc := []) (L := []) (args := #[.string (mkS x1031)]) (by kernel_rfl) (by kernel_rfl) hf (by kernel_rfl) s_loop21028 (hq _ _ _ s_loop21028.sub hG x1031 (by ((try dsimp only) <;> (exact hall _ (List.mem_of_getElem? hx1032)))) ) (fun _ _ h => absurd h (ids_nil _)) ?_
    rintro _ g1042 _ h1040 hle1043 s1041 ⟨rfl, hgg, rfl⟩; subst g1042; clear hle1043
    refine Op.goto 6 (by kernel_rfl) ?_
    refine At.cond (b := q x1031) (c := .tmp 16) (by kernel_rfl) (by kernel_rfl) (by kernel_rfl) 7 9 (by kernel_rfl) (by kernel_rfl) (fun hb => ?_) (fun hb => ?_)
    ·have c1044 : (q x1031) = true := hb
     clear hb
     refine At.keep [5] ?_; show At _ _ _ [(5, .int .i64 i)] _
     refine At.reg (L := [(0, false), (1, false)]) (by kernel_rfl) ?_
     refine Op.pures 2 [4] (L' := []) (e' := [(4, .int .i64 i)]) (by kernel_rfl) ?_
     refine Op.goto 8 (by kernel_rfl) ?_
     refine At.ret (f := Tryz.f188) (v := .int .i64 i) (by kernel_rfl) (by kernel_rfl) ?_
     refine hR _ _ _ _ s1041 ⟨?_, rfl, rfl⟩
     exact (eqI (by exact findAt_hit hat hx1032 c1044))
    ·have c1045 : (q x1031) = false := hb
     clear hb
     refine At.keep [0, 1, 7, 8] ?_; show At _ _ _ [(0, .slice (some ⟨b1033, o1034, none⟩) l.length n_l), (1, .func (.func f) #[] #[]), (7, .int .i64 (l.length : Int)), (8, .int .i64 i)] _
     refine At.reg (L := [(0, false), (1, false)]) (by kernel_rfl) ?_
     refine Op.val (dst := some 18) (v := .int .i64 (IntKind.wrap .i64 (i + 1))) (v' := .int .i64 (i + 1)) (by kernel_rfl) (wrapEq_i64 (by omega) (by omega)) ?_
     refine Op.pures 1 [0, 1, 7, 8] (L' := []) (e' := [(0, .slice (some ⟨b1033, o1034, none⟩) l.length n_l), (1, .func (.func f) #[] #[]), (7, .int .i64 (l.length : Int)), (8, .int .i64 (i + 1))]) (by kernel_rfl) ?_
     refine Op.goto 2 (by kernel_rfl) ?_
     exact ih2  (i + 1) _ (by omega) (by omega) (by omega) (by exact findAt_miss hat h0 hx1032 c1045)  s1041
   ·have c1046 : ¬ (i < (l.length : Int)) := of_decide_eq_false hb
    clear hb
    refine At.keep [] ?_; show At _ _ _ [] _
    refine At.reg (L := [(0, false)]) (by kernel_rfl) ?_
    refine Op.pures 1 [4] (L' := []) (e' := [(4, .int .i64 (-1))]) (by kernel_rfl) ?_
    refine Op.goto 11 (by kernel_rfl) ?_
    refine At.ret (f := Tryz.f188) (v := .int .i64 (-1)) (by kernel_rfl) (by kernel_rfl) ?_
    refine hR _ _ _ _ s_loop21028 ⟨?_, rfl, rfl⟩
    exact (eqI (by exact findAt_end hat c1046))
 exact loop2 _  0 _ (Nat.lt_succ_self _) (by omega) (by omega) (by exact findAt_0 _ _)  s0
theorem containsFuncS (B : World) (h : Heap) (g : GH) (hg : Sub g h) (hG : Glob g) (v_l : Value) (l : List (List UInt8)) (h_l : SlR g 9 kStr v_l l) (f : Nat) (q : (List UInt8) → Bool) (hf : Enterable Tryz.prog f) (hq : ∀ (B : World) (h : Heap) (g : GH), Sub g h → Glob g → ∀ (x : List UInt8), x.length ≤ 1000000000 → Spec Tryz.prog B f #[.string (mkS x)] h g [] (fun v g' L' => v = .bool (q x) ∧ g' = g ∧ L' = [])) (hall : ∀ x ∈ l, x.length ≤ 1000000000) (hlen : l.length ≤ 1000000000) :
  Spec Tryz.prog B 156 #[v_l, .func (.func f) #[] #[]] h g [] (fun rv g' L' => rv = .bool (l.any q) ∧ g' = g ∧ L' = []) := by
 obtain ⟨a_l, n_l, rfl⟩ := h_l.form
 refine Spec.of_at (f := Tryz.f156) (e := [(0, .slice a_l l.length n_l), (1, .func (.func f) #[] #[])]) Tryz.func156 (by kernel_rfl) (Nat.le_of_ble_eq_true (by kernel_rfl)) (by kernel_rfl) (by kernel_rfl) ?_
 intro R hR
 have s0 := St.init hg
 refine At.reg (L := [(0, false)]) (by kernel_rfl) ?_
 refine Op.pures 1 [0, 1] (L' := []) (e' := [(0, .slice a_l l.length n_l), (1, .func (.func f) #[] #[])]) (by kernel_rfl) ?_
 refine Op.goto 1 (by kernel_rfl) ?_
 refine At.reg (L := [(0, false), (1, false), (2, false), (3, false), (4, false)]) (by kernel_rfl) ?_
 refine Op.pures 2 [5, 6] (L' := [(2, false), (3, false), (4, false)]) (e' := [(5, .slice a_l l.length n_l), (6, .func (.func f) #[] #[])]) (by kernel_rfl) ?_
 refine Op.call0 (dst := some 7) (f := 188) (args := #[.slice a_l l.length n_l, .func (.func f) #[] #[]]) (by kernel_rfl) s0 (indexFuncS _ _ _ s0.sub hG _ _ h_l f (fun x => q x) hf (fun B h g hg hG x => hq B h g hg hG x) (by ((try dsimp only) <;> (first | assumption | omega))) (by ((try dsimp only) <;> (first | assumption | omega))) ) ?_
 rintro _ g1049 _ h1047 hle1050 s1048 ⟨rfl, hgg, rfl⟩; subst g1049; clear hle1050
 refine Op.pures 2 [4] (L' := []) (e' := [(4, .bool (decide ((findI (fun x => q x) l) ≥ (0 : Int))))]) (by kernel_rfl) ?_
 refine Op.goto 2 (by kernel_rfl) ?_
 refine At.ret (f := Tryz.f156) (v := .bool (decide ((findI (fun x => q x) l) ≥ (0 : Int)))) (by kernel_rfl) (by kernel_rfl) ?_
 refine hR _ _ _ _ s1048 ⟨?_, rfl, rfl⟩
 exact (eqB (by first | exact findI_any _ _))
theorem partsP (B : World) (h : Heap) (g : GH) (hg : Sub g h) (hG : Glob g) (p : List UInt8) (hlen : p.length ≤ 1000000000) :
  Spec Tryz.prog B 126 #[.string (mkS p)] h g [] (fun rv g' L' => ∃ v0, rv = .tuple #[v0, .int .i64 (pErr p)] ∧ SlR g' 9 kStr v0 (pList p) ∧ L' = []) := by
 refine Spec.of_at (f := Tryz.f126) (e := [(0, .string (mkS p))]) Tryz.func126 (by kernel_rfl) (Nat.le_of_ble_eq_true (by kernel_rfl)) (by kernel_rfl) (by kernel_rfl) ?_
 intro R hR
 have s0 := St.init hg
 refine At.reg (L := [(0, false), (1, false)]) (by kernel_rfl) ?_
 refine Op.pures 2 [0] (L' := []) (e' := [(0, .string (mkS p))]) (by kernel_rfl) ?_
 refine Op.goto 1 (by kernel_rfl) ?_
 refine At.reg (L := [(0, false), (1, false), (2, false), (3, false), (4, false), (5, false), (6, false)]) (by kernel_rfl) ?_
 refine Op.pures 1 [0, 8] (L' := [(1, false), (2, false), (3, false), (4, false), (5, false), (6, false)]) (e' := [(0, .string (mkS p)), (8, .string (mkS p))]) (by kernel_rfl) ?_
 refine Op.call0 (dst := some 9) (f := 155) (args := #[.string (mkS p), .string (mkS ([47]))]) (by kernel_rfl) s0 (cutPrefix _ _ _ s0.sub hG p ([47])  ) ?_
 rintro _ g1053 _ h1051 hle1054 s1052 ⟨rfl, hgg, rfl⟩; subst g1053; clear hle1054
 refine Op.pures 5 [0, 4, 5] (L' := []) (e' := [(0, .string (mkS p)), (4, .string (mkS (if ([47]).isPrefixOf p = true then p.drop ([47]).length else p))), (5, .bool (([47]).isPrefixOf p))]) (by kernel_rfl) ?_
 refine Op.goto 2 (by kernel_rfl) ?_
 refine At.reg (L := [(0, false), (1, false), (2, false), (3, false), (4, false), (5, false), (6, false)]) (by kernel_rfl) ?_
 refine Op.pures 3 [0, 4, 14] (L' := [(3, false), (4, false), (5, false), (6, false)]) (e' := [(0, .string (mkS p)), (4, .string (mkS (if ([47]).isPrefixOf p = true then p.drop ([47]).length else p))), (14, .bool (!(([47]).isPrefixOf p)))]) (by kernel_rfl) ?_
 refine Op.ways (b := !(([47]).isPrefixOf p)) ⟨fun hb => ?_, fun hb => ?_⟩
 ·refine Op.cast (e' := [(0, .string (mkS p)), (4, .string (mkS (if ([47]).isPrefixOf p = true then p.drop ([47]).length else p))), (14, .bool true)]) (by rw [hb]) ?_
  have c1055 : (([47]).isPrefixOf p) = false := (notT hb)
  clear hb
  refine Op.pures 4 [4, 18] (L' := []) (e' := [(4, .string (mkS (if ([47]).isPrefixOf p = true then p.drop ([47]).length else p))), (18, .bool true)]) (by kernel_rfl) ?_
  refine Op.goto 3 (by kernel_rfl) ?_
  refine At.condT (c := .tmp 18) (by kernel_rfl) (by kernel_rfl) (by kernel_rfl) 4 (by kernel_rfl) ?_
  refine At.reg (L := [(0, false), (1, false)]) (by kernel_rfl) ?_
  refine Op.pures 2 [2, 3] (L' := []) (e' := [(2, .slice none 0 0), (3, .int .i64 90)]) (by kernel_rfl) ?_
  refine Op.goto 5 (by kernel_rfl) ?_
  refine At.ret (f := Tryz.f126) (v := .tuple #[.slice none 0 0, .int .i64 90]) (by kernel_rfl) (by kernel_rfl) ?_
  refine hR _ _ _ _ s1052 ⟨(.slice none 0 0), ?_, ?_, rfl⟩
  ·exact eqT2 rfl (eqI (by first | exact (no_ok (pOk_no c1055)).1 | exact (no_ok (pOk_no c1055)).2 | exact (no_ok (pOk_long (by omega))).1 | exact (no_ok (pOk_long (by omega))).2))
  ·exact slEq (SlR.empty _ _ _ _ _) (by first | exact (no_ok (pOk_no c1055)).1 | exact (no_ok (pOk_no c1055)).2 | exact (no_ok (pOk_long (by omega))).1 | exact (no_ok (pOk_long (by omega))).2)
 ·refine Op.cast (e' := [(0, .string (mkS p)), (4, .string (mkS (if ([47]).isPrefixOf p = true then p.drop ([47]).length else p))), (14, .bool false)]) (by rw [hb]) ?_
  have c1056 : (([47]).isPrefixOf p) = true := (notF hb)
  clear hb
  refine Op.pures 4 [4, 18] (L' := []) (e' := [(4, .string (mkS (if ([47]).isPrefixOf p = true then p.drop ([47]).length else p))), (18, .bool (decide ((p.length : Int) > (64 : Int))))]) (by kernel_rfl) ?_
  refine Op.goto 3 (by kernel_rfl) ?_
  refine At.cond (b := decide ((p.length : Int) > (64 : Int))) (c := .tmp 18) (by kernel_rfl) (by kernel_rfl) (by kernel_rfl) 4 6 (by kernel_rfl) (by kernel_rfl) (fun hb => ?_) (fun hb => ?_)
  ·have c1057 : (p.length : Int) > (64 : Int) := of_decide_eq_true hb
   clear hb
   refine At.keep [] ?_; show At _ _ _ [] _
   refine At.reg (L := [(0, false), (1, false)]) (by kernel_rfl) ?_
   refine Op.pures 2 [2, 3] (L' := []) (e' := [(2, .slice none 0 0), (3, .int .i64 90)]) (by kernel_rfl) ?_
   refine Op.goto 5 (by kernel_rfl) ?_
   refine At.ret (f := Tryz.f126) (v := .tuple #[.slice none 0 0, .int .i64 90]) (by kernel_rfl) (by kernel_rfl) ?_
   refine hR _ _ _ _ s1052 ⟨(.slice none 0 0), ?_, ?_, rfl⟩
   ·exact eqT2 rfl (eqI (by first | exact (no_ok (pOk_no c1056)).1 | exact (no_ok (pOk_no c1056)).2 | exact (no_ok (pOk_long (by omega))).1 | exact (no_ok (pOk_long (by omega))).2))
   ·exact slEq (SlR.empty _ _ _ _ _) (by first | exact (no_ok (pOk_no c1056)).1 | exact (no_ok (pOk_no c1056)).2 | exact (no_ok (pOk_long (by omega))).1 | exact (no_ok (pOk_long (by omega))).2)
  ·have c1058 : ¬ ((p.length : Int) > (64 : Int)) := of_decide_eq_false hb
   clear hb
   refine At.keep [4] ?_; show At _ _ _ [(4, .string (mkS (if ([47]).isPrefixOf p = true then p.drop ([47]).length else p)))] _
   refine At.reg (L := [(0, false), (1, false)]) (by kernel_rfl) ?_
   refine Op.pures 1 [4, 19] (L' := [(1, false)]) (e' := [(4, .string (mkS (if ([47]).isPrefixOf p = true then p.drop ([47]).length else p))), (19, .string (mkS (if ([47]).isPrefixOf p = true then p.drop ([47]).length else p)))]) (by kernel_rfl) ?_
   refine Op.val (dst := some 20) (v := .bool ((mkS (if ([47]).isPrefixOf p = true then p.drop ([47]).length else p)).toList == (mkS []).toList)) (v' := .bool ((if ([47]).isPrefixOf p = true then p.drop ([47]).length else p) == ([] : List UInt8))) (by kernel_rfl) (by rw [toList_mkS, toList_mkS]) ?_
   refine Op.goto 7 (by kernel_rfl) ?_
   refine At.cond (b := (if ([47]).isPrefixOf p = true then p.drop ([47]).length else p) == ([] : List UInt8)) (c := .tmp 20) (by kernel_rfl) (by kernel_rfl) (by kernel_rfl) 8 10 (by kernel_rfl) (by kernel_rfl) (fun hb => ?_) (fun hb => ?_)
   ·have c1059 : (if ([47]).isPrefixOf p = true then p.drop ([47]).length else p) = ([] : List UInt8) := eq_of_beq hb
    clear hb
    refine At.keep [] ?_; show At _ _ _ [] _
    refine At.reg (L := [(0, false), (1, false)]) (by kernel_rfl) ?_
    refine Op.pures 2 [2, 3] (L' := []) (e' := [(2, .slice none 0 0), (3, .int .i64 0)]) (by kernel_rfl) ?_
    refine Op.goto 9 (by kernel_rfl) ?_
    refine At.ret (f := Tryz.f126) (v := .tuple #[.slice none 0 0, .int .i64 0]) (by kernel_rfl) (by kernel_rfl) ?_
    refine hR _ _ _ _ s1052 ⟨(.slice none 0 0), ?_, ?_, rfl⟩
    ·exact eqT2 rfl (eqI (by first | exact (parts_0 c1056 c1058 c1059).1 | exact (parts_0 c1056 c1058 c1059).2))
    ·exact slEq (SlR.empty _ _ _ _ _) (by first | exact (parts_0 c1056 c1058 c1059).1 | exact (parts_0 c1056 c1058 c1059).2)
   ·have c1060 : ¬ ((if ([47]).isPrefixOf p = true then p.drop ([47]).length else p) = ([] : List UInt8)) := neF hb
    clear hb
    refine At.keep [4] ?_; show At _ _ _ [(4, .string (mkS (if ([47]).isPrefixOf p = true then p.drop ([47]).length else p)))] _
    refine At.reg (L := [(0, false), (1, false), (2, false)]) (by kernel_rfl) ?_
    refine Op.pures 1 [21] (L' := [(1, false), (2, false)]) (e' := [(21, .string (mkS (if ([47]).isPrefixOf p = true then p.drop ([47]).length else p)))]) (by kernel_rfl) ?_
    refine Op.call0 (dst := some 22) (f := 57) (args := #[.string (mkS (if ([47]).isPrefixOf p = true then p.drop ([47]).length else p)), .string (mkS ([47]))]) (by kernel_rfl) s1052 (split_spec _ _ _ s1052.sub hG (if ([47]).isPrefixOf p = true then p.drop ([47]).length else p) 47 (by ((try dsimp only) <;> (have := restOf_len p; unfold restOf at this; omega))) ) ?_
    rintro _ g1067 _ h1061 hle1068 s1062 ⟨v1063, rfl, hr1064, rfl⟩
    obtain ⟨a1065, n1066, rfl⟩ := hr1064.form
    replace hG := hG.mono hle1068
    refine Op.pures 1 [6] (L' := []) (e' := [(6, .slice a1065 ((splitOn 47 (if ([47]).isPrefixOf p = true then p.drop ([47]).length else p)).length) n1066)]) (by kernel_rfl) ?_
    refine Op.goto 11 (by kernel_rfl) ?_
    refine At.reg (L := [(0, false), (1, false)]) (by kernel_rfl) ?_
    refine Op.pures 1 [6, 23] (L' := [(1, false)]) (e' := [(6, .slice a1065 ((splitOn 47 (if ([47]).isPrefixOf p = true then p.drop ([47]).length else p)).length) n1066), (23, .slice a1065 ((splitOn 47 (if ([47]).isPrefixOf p = true then p.drop ([47]).length else p)).length) n1066)]) (by kernel_rfl) ?_
    refine Op.call0 (dst := some 24) (f := 156) (args := #[.slice a1065 ((splitOn 47 (if ([47]).isPrefixOf p = true then p.drop ([47]).length else p)).length) n1066, .func (.func 157) #[] #[]]) (by kernel_rfl) s1062 (containsFuncS _ _ _ s1062.sub hG _ _ hr1064 157 (fun s => !okPart s) (Enterable.of (by kernel_rfl)) (fun B h g hg hG s => parts1 B h g hg hG s) (by ((try dsimp only) <;> (first | exact fun x hx => Nat.le_trans (splitOn_memlen 47 _ x hx) (Nat.le_trans (restOf_len p) hlen) | (have h1 := splitOn_len 47 (restOf p); have h2 := restOf_len p; unfold restOf at h1 h2; unfold pErr at *; omega)))) (by ((try dsimp only) <;> (first | exact fun x hx => Nat.le_trans (splitOn_memlen 47 _ x hx) (Nat.le_trans (restOf_len p) hlen) | (have h1 := splitOn_len 47 (restOf p); have h2 := restOf_len p; unfold restOf at h1 h2; unfold pErr at *; omega)))) ) ?_
    rintro _ g1071 _ h1069 hle1072 s1070 ⟨rfl, hgg, rfl⟩; subst g1071; clear hle1072
    refine Op.goto 12 (by kernel_rfl) ?_
    refine At.cond (b := (splitOn 47 (if ([47]).isPrefixOf p = true then p.drop ([47]).length else p)).any (fun s => !okPart s)) (c := .tmp 24) (by kernel_rfl) (by kernel_rfl) (by kernel_rfl) 13 15 (by kernel_rfl) (by kernel_rfl) (fun hb => ?_) (fun hb => ?_)
    ·have c1073 : ((splitOn 47 (if ([47]).isPrefixOf p = true then p.drop ([47]).length else p)).any (fun s => !okPart s)) = true := hb
     clear hb
     refine At.keep [] ?_; show At _ _ _ [] _
     refine At.reg (L := [(0, false), (1, false)]) (by kernel_rfl) ?_
     refine Op.pures 2 [2, 3] (L' := []) (e' := [(2, .slice none 0 0), (3, .int .i64 90)]) (by kernel_rfl) ?_
     refine Op.goto 14 (by kernel_rfl) ?_
     refine At.ret (f := Tryz.f126) (v := .tuple #[.slice none 0 0, .int .i64 90]) (by kernel_rfl) (by kernel_rfl) ?_
     refine hR _ _ _ _ s1070 ⟨(.slice none 0 0), ?_, ?_, rfl⟩
     ·exact eqT2 rfl (eqI (by first | exact (no_ok (parts_1 c1056 c1058 c1060 c1073)).1 | exact (no_ok (parts_1 c1056 c1058 c1060 c1073)).2))
     ·exact slEq (SlR.empty _ _ _ _ _) (by first | exact (no_ok (parts_1 c1056 c1058 c1060 c1073)).1 | exact (no_ok (parts_1 c1056 c1058 c1060 c1073)).2)
    ·have c1074 : ((splitOn 47 (if ([47]).isPrefixOf p = true then p.drop ([47]).length else p)).any (fun s => !okPart s)) = false := hb
     clear hb
     refine At.keep [6] ?_; show At _ _ _ [(6, .slice a1065 ((splitOn 47 (if ([47]).isPrefixOf p = true then p.drop ([47]).length else p)).length) n1066)] _
     refine At.reg (L := [(0, false), (1, false), (2, false)]) (by kernel_rfl) ?_
     refine Op.pures 3 [2, 3] (L' := []) (e' := [(2, .slice a1065 ((splitOn 47 (if ([47]).isPrefixOf p = true then p.drop ([47]).length else p)).length) n1066), (3, .int .i64 0)]) (by kernel_rfl) ?_
     refine Op.goto 16 (by kernel_rfl) ?_
     refine At.ret (f := Tryz.f126) (v := .tuple #[.slice a1065 ((splitOn 47 (if ([47]).isPrefixOf p = true then p.drop ([47]).length else p)).length) n1066, .int .i64 0]) (by kernel_rfl) (by kernel_rfl) ?_
     refine hR _ _ _ _ s1070 ⟨(.slice a1065 ((splitOn 47 (if ([47]).isPrefixOf p = true then p.drop ([47]).length else p)).length) n1066), ?_, ?_, rfl⟩
     ·exact eqT2 rfl (eqI (by first | exact (parts_2 c1056 c1058 c1060 c1074).1 | exact (parts_2 c1056 c1058 c1060 c1074).2))
     ·exact slEq hr1064 (by first | exact (parts_2 c1056 c1058 c1060 c1074).1 | exact (parts_2 c1056 c1058 c1060 c1074).2)
theorem checkP (B : World) (h : Heap) (g : GH) (hg : Sub g h) (hG : Glob g) (p : List UInt8) (hlen : p.length ≤ 1000000000) :
  Spec Tryz.prog B 125 #[.string (mkS p)] h g [] (fun rv g' L' => rv = .int .i64 (pErr p) ∧ g' = g ∧ L' = []) := by
 refine Spec.of_at (f := Tryz.f125) (e := [(0, .string (mkS p))]) Tryz.func125 (by kernel_rfl) (Nat.le_of_ble_eq_true (by kernel_rfl)) (by kernel_rfl) (by kernel_rfl) ?_
 intro R hR
 have s0 := St.init hg
 refine At.reg (L := [(0, false)]) (by kernel_rfl) ?_
 refine Op.pures 1 [0] (L' := []) (e' := [(0, .string (mkS p))]) (by kernel_rfl) ?_
 refine Op.goto 1 (by kernel_rfl) ?_
 refine At.reg (L := [(0, false), (1, false), (2, false), (3, false), (4, false), (5, false), (6, false)]) (by kernel_rfl) ?_
 refine Op.pures 1 [6] (L' := [(1, false), (2, false), (3, false), (4, false), (5, false), (6, false)]) (e' := [(6, .string (mkS p))]) (by kernel_rfl) ?_
 refine Op.call0 (dst := some 7) (f := 126) (args := #[.string (mkS p)]) (by kernel_rfl) s0 (partsP _ _ _ s0.sub hG p (by ((try dsimp only) <;> (omega))) ) ?_
 rintro _ g1081 _ h1075 hle1082 s1076 ⟨v1077, rfl, hr1078, rfl⟩
 obtain ⟨a1079, n1080, rfl⟩ := hr1078.form
 replace hG := hG.mono hle1082
 refine Op.pures 5 [4] (L' := []) (e' := [(4, .int .i64 (pErr p))]) (by kernel_rfl) ?_
 refine Op.goto 2 (by kernel_rfl) ?_
 refine At.reg (L := [(0, false), (1, false)]) (by kernel_rfl) ?_
 refine Op.pures 2 [2] (L' := []) (e' := [(2, .int .i64 (pErr p))]) (by kernel_rfl) ?_
 refine Op.goto 3 (by kernel_rfl) ?_
 refine At.ret (f := Tryz.f125) (v := .int .i64 (pErr p)) (by kernel_rfl) (by kernel_rfl) ?_
 have s1083 : St h g (ids []) g [] h1075 := s1076.unfrz
 refine hR _ _ _ _ s1083 ⟨?_, rfl, rfl⟩
 exact (eqI (by rfl))
theorem cutP (B : World) (h : Heap) (g : GH) (hg : Sub g h) (hG : Glob g) (p : List UInt8) (hlen : p.length ≤ 1000000000) :
  Spec Tryz.prog B 82 #[.string (mkS p)] h g [] (fun rv g' L' => ∃ v0, rv = .tuple #[v0, .string (mkS (lastOf (pList p))), .int .i64 (cutErr p)] ∧ SlR g' 9 kStr v0 ((pList p).dropLast) ∧ L' = []) := by
 refine Spec.of_at (f := Tryz.f82) (e := [(0, .string (mkS p))]) Tryz.func82 (by kernel_rfl) (Nat.le_of_ble_eq_true (by kernel_rfl)) (by kernel_rfl) (by kernel_rfl) ?_
 intro R hR
 have s0 := St.init hg
 refine At.reg (L := [(0, false), (1, false), (2, false)]) (by kernel_rfl) ?_
 refine Op.pures 3 [0] (L' := []) (e' := [(0, .string (mkS p))]) (by kernel_rfl) ?_
 refine Op.goto 1 (by kernel_rfl) ?_
 refine At.reg (L := [(0, false), (1, false), (2, false), (3, false), (4, false), (5, false), (6, false)]) (by kernel_rfl) ?_
 refine Op.pures 1 [8] (L' := [(1, false), (2, false), (3, false), (4, false), (5, false), (6, false)]) (e' := [(8, .string (mkS p))]) (by kernel_rfl) ?_
 refine Op.call0 (dst := some 9) (f := 126) (args := #[.string (mkS p)]) (by kernel_rfl) s0 (partsP _ _ _ s0.sub hG p (by ((try dsimp only) <;> ((have := pList_len p; omega)))) ) ?_
 rintro _ g1090 _ h1084 hle1091 s1085 ⟨v1086, rfl, hr1087, rfl⟩
 obtain ⟨a1088, n1089, rfl⟩ := hr1087.form
 replace hG := hG.mono hle1091
 refine Op.pures 5 [5, 6] (L' := []) (e' := [(5, .slice a1088 ((pList p).length) n1089), (6, .int .i64 (pErr p))]) (by kernel_rfl) ?_
 refine Op.goto 2 (by kernel_rfl) ?_
 refine At.reg (L := [(0, false), (1, false), (2, false), (3, false), (4, false), (5, false), (6, false)]) (by kernel_rfl) ?_
 refine Op.pures 3 [5, 14] (L' := [(3, false), (4, false), (5, false), (6, false)]) (e' := [(5, .slice a1088 ((pList p).length) n1089), (14, .bool ((pErr p) != (0 : Int)))]) (by kernel_rfl) ?_
 refine Op.ways (b := (pErr p) != (0 : Int)) ⟨fun hb => ?_, fun hb => ?_⟩
 ·refine Op.cast (e' := [(5, .slice a1088 ((pList p).length) n1089), (14, .bool true)]) (by rw [hb]) ?_
  have c1092 : ¬ ((pErr p) = (0 : Int)) := bneT hb
  clear hb
  refine Op.pures 4 [5, 18] (L' := []) (e' := [(5, .slice a1088 ((pList p).length) n1089), (18, .bool true)]) (by kernel_rfl) ?_
  refine Op.goto 3 (by kernel_rfl) ?_
  refine At.condT (c := .tmp 18) (by kernel_rfl) (by kernel_rfl) (by kernel_rfl) 4 (by kernel_rfl) ?_
  refine At.reg (L := [(0, false), (1, false), (2, false)]) (by kernel_rfl) ?_
  refine Op.pures 3 [2, 3, 4] (L' := []) (e' := [(2, .slice none 0 0), (3, .string (mkS [])), (4, .int .i64 90)]) (by kernel_rfl) ?_
  refine Op.goto 5 (by kernel_rfl) ?_
  refine At.ret (f := Tryz.f82) (v := .tuple #[.slice none 0 0, .string (mkS []), .int .i64 90]) (by kernel_rfl) (by kernel_rfl) ?_
  refine hR _ _ _ _ s1085 ⟨(.slice none 0 0), ?_, ?_, rfl⟩
  ·exact eqT3 rfl (eqS (by first | exact (cut_no (pList_no c1092)).1 | exact (cut_no (pList_no c1092)).2.1 | exact (cut_no (pList_no c1092)).2.2 | exact (cut_no (List.eq_nil_of_length_eq_zero (by omega))).1 | exact (cut_no (List.eq_nil_of_length_eq_zero (by omega))).2.1 | exact (cut_no (List.eq_nil_of_length_eq_zero (by omega))).2.2)) (eqI (by first | exact (cut_no (pList_no c1092)).1 | exact (cut_no (pList_no c1092)).2.1 | exact (cut_no (pList_no c1092)).2.2 | exact (cut_no (List.eq_nil_of_length_eq_zero (by omega))).1 | exact (cut_no (List.eq_nil_of_length_eq_zero (by omega))).2.1 | exact (cut_no (List.eq_nil_of_length_eq_zero (by omega))).2.2))
  ·exact slEq (SlR.empty _ _ _ _ _) (by first | exact (cut_no (pList_no c1092)).1 | exact (cut_no (pList_no c1092)).2.1 | exact (cut_no (pList_no c1092)).2.2 | exact (cut_no (List.eq_nil_of_length_eq_zero (by omega))).1 | exact (cut_no (List.eq_nil_of_length_eq_zero (by omega))).2.1 | exact (cut_no (List.eq_nil_of_length_eq_zero (by omega))).2.2)
 ·refine Op.cast (e' := [(5, .slice a1088 ((pList p).length) n1089), (14, .bool false)]) (by rw [hb]) ?_
  have c1093 : (pErr p) = (0 : Int) := bneF hb
  clear hb
  refine Op.pures 4 [5, 18] (L' := []) (e' := [(5, .slice a1088 ((pList p).length) n1089), (18, .bool (((pList p).length : Int) == (0 : Int)))]) (by kernel_rfl) ?_
  refine Op.goto 3 (by kernel_rfl) ?_
  refine At.cond (b := ((pList p).length : Int) == (0 : Int)) (c := .tmp 18) (by kernel_rfl) (by kernel_rfl) (by kernel_rfl) 4 6 (by kernel_rfl) (by kernel_rfl) (fun hb => ?_) (fun hb => ?_)
  ·have c1094 : ((pList p).length : Int) = (0 : Int) := eq_of_beq hb
   clear hb
   refine At.keep [] ?_; show At _ _ _ [] _
   refine At.reg (L := [(0, false), (1, false), (2, false)]) (by kernel_rfl) ?_
   refine Op.pures 3 [2, 3, 4] (L' := []) (e' := [(2, .slice none 0 0), (3, .string (mkS [])), (4, .int .i64 90)]) (by kernel_rfl) ?_
   refine Op.goto 5 (by kernel_rfl) ?_
   refine At.ret (f := Tryz.f82) (v := .tuple #[.slice none 0 0, .string (mkS []), .int .i64 90]) (by kernel_rfl) (by kernel_rfl) ?_
   refine hR _ _ _ _ s1085 ⟨(.slice none 0 0), ?_, ?_, rfl⟩
   ·exact eqT3 rfl (eqS (by first | exact (cut_no (pList_no c1093)).1 | exact (cut_no (pList_no c1093)).2.1 | exact (cut_no (pList_no c1093)).2.2 | exact (cut_no (List.eq_nil_of_length_eq_zero (by omega))).1 | exact (cut_no (List.eq_nil_of_length_eq_zero (by omega))).2.1 | exact (cut_no (List.eq_nil_of_length_eq_zero (by omega))).2.2)) (eqI (by first | exact (cut_no (pList_no c1093)).1 | exact (cut_no (pList_no c1093)).2.1 | exact (cut_no (pList_no c1093)).2.2 | exact (cut_no (List.eq_nil_of_length_eq_zero (by omega))).1 | exact (cut_no (List.eq_nil_of_length_eq_zero (by omega))).2.1 | exact (cut_no (List.eq_nil_of_length_eq_zero (by omega))).2.2))
   ·exact slEq (SlR.empty _ _ _ _ _) (by first | exact (cut_no (pList_no c1093)).1 | exact (cut_no (pList_no c1093)).2.1 | exact (cut_no (pList_no c1093)).2.2 | exact (cut_no (List.eq_nil_of_length_eq_zero (by omega))).1 | exact (cut_no (List.eq_nil_of_length_eq_zero (by omega))).2.1 | exact (cut_no (List.eq_nil_of_length_eq_zero (by omega))).2.2)
  ·have c1095 : ¬ (((pList p).length : Int) = (0 : Int)) := neF hb
   clear hb
   refine At.keep [5] ?_; show At _ _ _ [(5, .slice a1088 ((pList p).length) n1089)] _
   refine At.draw (by kernel_rfl) (fun _ => False) [(0, true), (1, true), (2, true), (3, true), (4, true), (5, true), (6, true), (7, true), (8, true), (9, true), (11, true), (10, false), (12, true), (13, true)] (by kernel_rfl) ?_
   refine Op.pures 3 [5, 19, 21] (L' := [(3, true), (4, true), (5, true), (6, true), (7, true), (8, true), (9, true), (11, true), (10, false), (12, true), (13, true)]) (e' := [(5, .slice a1088 ((pList p).length) n1089), (19, .slice a1088 ((pList p).length) n1089), (21, .int .i64 ((pList p).length : Int))]) (by kernel_rfl) ?_
   refine Op.val (dst := some 22) (v := .int .i64 (IntKind.wrap .i64 (((pList p).length : Int) - 1))) (v' := .int .i64 (((pList p).length : Int) - 1)) (by kernel_rfl) (wrapEq_i64 (by (have := pList_len p; omega)) (by (have := pList_len p; omega))) ?_
   refine Op.slHiD (T := 54) (E := 9) (by_ := 16) (x := (.tmp 19)) (ao := a1088) (n := ((pList p).length)) (c := n1089) (dst := 23) (d := kStr) (hi := (.tmp 22)) (k := .i64) (m := ((pList p).length : Int) - 1) (by kernel_rfl) (by kernel_rfl) (by kernel_rfl) (by kernel_rfl) hr1087 (by (have := pList_len p; omega)) (by (have := pList_len p; omega)) ?_
   intro v1096 hr1097
   obtain ⟨a1098, n1099, rfl⟩ := hr1097.form
   refine Op.pures 3 [23, 24, 26] (L' := [(8, true), (9, true), (11, true), (10, false), (12, true), (13, true)]) (e' := [(23, .slice a1098 (((pList p).take (((pList p).length : Int) - 1 : Int).toNat).length) n1099), (24, .slice a1088 ((pList p).length) n1089), (26, .int .i64 ((pList p).length : Int))]) (by kernel_rfl) ?_
   refine Op.val (dst := some 27) (v := .int .i64 (IntKind.wrap .i64 (((pList p).length : Int) - 1))) (v' := .int .i64 (((pList p).length : Int) - 1)) (by kernel_rfl) (wrapEq_i64 (by (have := pList_len p; omega)) (by (have := pList_len p; omega))) ?_
   obtain ⟨x1100, hx1101⟩ : ∃ c, (pList p)[(((pList p).length : Int) - 1 : Int).toNat]? = some c := ⟨_, List.getElem?_eq_getElem (by (have := pList_len p; omega))⟩
   obtain ⟨b1102, o1103, cu1104, fz1105, ha1106, hb1107, hk1108⟩ := SlR.at_ hr1087 _ hx1101
   cases ha1106
   refine Op.idx (T := 54) (E := 9) (sz := 1) (by_ := 16) (n := ((pList p).length)) (c := n1089) (k := .i64) (x := (.tmp 24)) (ix := (.tmp 27)) (dst := 28) (bk := b1102) (o := o1103) (m := ((pList p).length : Int) - 1) (by kernel_rfl) (by kernel_rfl) (by kernel_rfl) (by kernel_rfl) (by (have := pList_len p; omega)) (by (have := pList_len p; omega)) ?_
   replace hk1108 : cut _ _ _ = [.string (mkS x1100)] := hk1108
   refine Op.pures 1 [2, 28] (L' := [(10, false), (12, true), (13, true)]) (e' := [(2, .slice a1098 (((pList p).take (((pList p).length : Int) - 1 : Int).toNat).length) n1099), (28, .pointer (some ⟨b1102, o1103 + (((pList p).length : Int) - 1 : Int).toNat * 1, none⟩))]) (by kernel_rfl) ?_
   refine Op.load (T := 9) (x := (.tmp 28)) (o := o1103 + (((pList p).length : Int) - 1 : Int).toNat * 1) (d := 29) (n := 1) (v := .string (mkS x1100)) (by kernel_rfl) (by kernel_rfl) (by kernel_rfl) (s1085.sub _ _ hb1107) (cut_get hk1108 0 rfl) ?_
   refine Op.pures 2 [2, 3, 4] (L' := []) (e' := [(2, .slice a1098 (((pList p).take (((pList p).length : Int) - 1 : Int).toNat).length) n1099), (3, .string (mkS x1100)), (4, .int .i64 0)]) (by kernel_rfl) ?_
   refine Op.goto 7 (by kernel_rfl) ?_
   refine At.ret (f := Tryz.f82) (v := .tuple #[.slice a1098 (((pList p).take (((pList p).length : Int) - 1 : Int).toNat).length) n1099, .string (mkS x1100), .int .i64 0]) (by kernel_rfl) (by kernel_rfl) ?_
   refine hR _ _ _ _ s1085 ⟨(.slice a1098 (((pList p).take (((pList p).length : Int) - 1 : Int).toNat).length) n1099), ?_, ?_, rfl⟩
   ·exact eqT3 rfl (eqS (by first | exact take_last rfl c1095 | exact getLast_of hx1101 (by have := pList_len p; omega) | exact (cutErr_0 (by omega)).symm)) (eqI (by first | exact take_last rfl c1095 | exact getLast_of hx1101 (by have := pList_len p; omega) | exact (cutErr_0 (by omega)).symm))
   ·exact slEq hr1097 (by first | exact take_last rfl c1095 | exact getLast_of hx1101 (by have := pList_len p; omega) | exact (cutErr_0 (by omega)).symm)
theorem joinedP (B : World) (h : Heap) (g : GH) (hg : Sub g h) (hG : Glob g) (v_l : Value) (l : List (List UInt8)) (h_l : SlR g 9 kStr v_l l) (h64 : l.length ≤ 1000000000) (hL : (joinC 47 l).length ≤ 1000000000) :
  Spec Tryz.prog B 83 #[v_l] h g [] (fun rv g' L' => rv = .string (mkS (joined l)) ∧ g' = g ∧ L' = []) := by
 obtain ⟨a_l, n_l, rfl⟩ := h_l.form
 refine Spec.of_at (f := Tryz.f83) (e := [(0, .slice a_l l.length n_l)]) Tryz.func83 (by kernel_rfl) (Nat.le_of_ble_eq_true (by kernel_rfl)) (by kernel_rfl) (by kernel_rfl) ?_
 intro R hR
 have s0 := St.init hg
 refine At.reg (L := [(0, false)]) (by kernel_rfl) ?_
 refine Op.pures 1 [0] (L' := []) (e' := [(0, .slice a_l l.length n_l)]) (by kernel_rfl) ?_
 refine Op.goto 1 (by kernel_rfl) ?_
 refine At.reg (L := [(0, false), (1, false), (2, false), (3, false)]) (by kernel_rfl) ?_
 refine Op.pures 1 [3] (L' := [(1, false), (2, false), (3, false)]) (e' := [(3, .slice a_l l.length n_l)]) (by kernel_rfl) ?_
 refine Op.call0 (dst := some 4) (f := 68) (args := #[.slice a_l l.length n_l, .string (mkS ([47]))]) (by kernel_rfl) s0 (join_spec _ _ _ s0.sub hG _ _ h_l ([47]) (by ((try dsimp only) <;> (first | (rw [joinE_L]; omega) | omega))) (by ((try dsimp only) <;> (first | (rw [joinE_L]; omega) | omega))) ) ?_
 rintro _ g1111 _ h1109 hle1112 s1110 ⟨rfl, hgg, rfl⟩; subst g1111; clear hle1112
 refine Op.strAdd (T := 9) (T' := 9) (x := (.const (.string (mkS ([47]))))) (y := (.tmp 4)) (dst := 5) (l := [47]) (m := Lib.join l ([47])) (by kernel_rfl) (by kernel_rfl) (by kernel_rfl) (by rw [joinE_L]; simp; omega) ?_
 refine Op.pures 1 [2] (L' := []) (e' := [(2, .string (mkS (([47]) ++ (Lib.join l ([47])))))]) (by kernel_rfl) ?_
 refine Op.goto 2 (by kernel_rfl) ?_
 refine At.ret (f := Tryz.f83) (v := .string (mkS (([47]) ++ (Lib.join l ([47]))))) (by kernel_rfl) (by kernel_rfl) ?_
 refine hR _ _ _ _ s1110 ⟨?_, rfl, rfl⟩
 exact (eqS (by rw [joinE_L]; rfl))
theorem parentP (B : World) (h : Heap) (g : GH) (hg : Sub g h) (hG : Glob g) (p : List UInt8) (hlen : p.length ≤ 1000000000) :
  Spec Tryz.prog B 36 #[.string (mkS p)] h g [] (fun rv g' L' => rv = .tuple #[.string (mkS (parentOf p)), .int .i64 (cutErr p)] ∧ g' = g ∧ L' = []) := by
 refine Spec.of_at (f := Tryz.f36) (e := [(0, .string (mkS p))]) Tryz.func36 (by kernel_rfl) (Nat.le_of_ble_eq_true (by kernel_rfl)) (by kernel_rfl) (by kernel_rfl) ?_
 intro R hR
 have s0 := St.init hg
 refine At.reg (L := [(0, false), (1, false)]) (by kernel_rfl) ?_
 refine Op.pures 2 [0] (L' := []) (e' := [(0, .string (mkS p))]) (by kernel_rfl) ?_
 refine Op.goto 1 (by kernel_rfl) ?_
 refine At.reg (L := [(0, false), (1, false), (2, false), (3, false), (4, false), (5, false), (6, false), (7, false), (8, false)]) (by kernel_rfl) ?_
 refine Op.pures 1 [8] (L' := [(1, false), (2, false), (3, false), (4, false), (5, false), (6, false), (7, false), (8, false)]) (e' := [(8, .string (mkS p))]) (by kernel_rfl) ?_
 refine Op.call0 (dst := some 9) (f := 82) (args := #[.string (mkS p)]) (by kernel_rfl) s0 (cutP _ _ _ s0.sub hG p (by ((try dsimp only) <;> (omega))) ) ?_
 rintro _ g1119 _ h1113 hle1120 s1114 ⟨v1115, rfl, hr1116, rfl⟩
 obtain ⟨a1117, n1118, rfl⟩ := hr1116.form
 replace hG := hG.mono hle1120
 refine Op.pures 7 [4, 6] (L' := []) (e' := [(4, .slice a1117 (((pList p).dropLast).length) n1118), (6, .int .i64 (cutErr p))]) (by kernel_rfl) ?_
 refine Op.goto 2 (by kernel_rfl) ?_
 refine At.reg (L := [(0, false), (1, false)]) (by kernel_rfl) ?_
 refine Op.pures 2 [4, 6, 14] (L' := []) (e' := [(4, .slice a1117 (((pList p).dropLast).length) n1118), (6, .int .i64 (cutErr p)), (14, .bool ((cutErr p) != (0 : Int)))]) (by kernel_rfl) ?_
 refine Op.goto 3 (by kernel_rfl) ?_
 refine At.cond (b := (cutErr p) != (0 : Int)) (c := .tmp 14) (by kernel_rfl) (by kernel_rfl) (by kernel_rfl) 4 6 (by kernel_rfl) (by kernel_rfl) (fun hb => ?_) (fun hb => ?_)
 ·have c1121 : ¬ ((cutErr p) = (0 : Int)) := bneT hb
  clear hb
  refine At.keep [6] ?_; show At _ _ _ [(6, .int .i64 (cutErr p))] _
  refine At.reg (L := [(0, false), (1, false), (2, false)]) (by kernel_rfl) ?_
  refine Op.pures 3 [2, 3] (L' := []) (e' := [(2, .string (mkS [])), (3, .int .i64 (cutErr p))]) (by kernel_rfl) ?_
  refine Op.goto 5 (by kernel_rfl) ?_
  refine At.ret (f := Tryz.f36) (v := .tuple #[.string (mkS []), .int .i64 (cutErr p)]) (by kernel_rfl) (by kernel_rfl) ?_
  have s1122 : St h g (ids []) g [] h1113 := s1114.unfrz
  refine hR _ _ _ _ s1122 ⟨?_, rfl, rfl⟩
  exact eqT2 (eqS (by first | rfl | exact parent_no c1121)) (eqI (by first | rfl | exact parent_no c1121))
 ·have c1123 : (cutErr p) = (0 : Int) := bneF hb
  clear hb
  refine At.keep [4] ?_; show At _ _ _ [(4, .slice a1117 (((pList p).dropLast).length) n1118)] _
  refine At.reg (L := [(0, false), (1, false), (2, false), (3, false)]) (by kernel_rfl) ?_
  refine Op.pures 1 [16] (L' := [(1, false), (2, false), (3, false)]) (e' := [(16, .slice a1117 (((pList p).dropLast).length) n1118)]) (by kernel_rfl) ?_
  refine Op.call0 (dst := some 17) (f := 83) (args := #[.slice a1117 (((pList p).dropLast).length) n1118]) (by kernel_rfl) s1114 (joinedP _ _ _ s1114.sub hG _ _ hr1116 (by ((try dsimp only) <;> (first | exact Nat.le_trans (pDropL_len p) (by omega) | exact Nat.le_trans (pDrop_len p) hlen))) (by ((try dsimp only) <;> (first | exact Nat.le_trans (pDropL_len p) (by omega) | exact Nat.le_trans (pDrop_len p) hlen))) ) ?_
  rintro _ g1126 _ h1124 hle1127 s1125 ⟨rfl, hgg, rfl⟩; subst g1126; clear hle1127
  refine Op.pures 2 [2, 3] (L' := []) (e' := [(2, .string (mkS (joined ((pList p).dropLast)))), (3, .int .i64 0)]) (by kernel_rfl) ?_
  refine Op.goto 7 (by kernel_rfl) ?_
  refine At.ret (f := Tryz.f36) (v := .tuple #[.string (mkS (joined ((pList p).dropLast))), .int .i64 0]) (by kernel_rfl) (by kernel_rfl) ?_
  have s1128 : St h g (ids []) g [] h1124 := s1125.unfrz
  refine hR _ _ _ _ s1128 ⟨?_, rfl, rfl⟩
  exact eqT2 (eqS (by first | exact parent_ok c1123 | exact c1123.symm)) (eqI (by first | exact parent_ok c1123 | exact c1123.symm))
theorem checkedP (B : World) (h : Heap) (g : GH) (hg : Sub g h) (hG : Glob g) (p : List UInt8) (hlen : p.length ≤ 1000000000) :
  Spec Tryz.prog B 119 #[.string (mkS p)] h g [] (fun rv g' L' => rv = .tuple #[.string (mkS (checkedS p)), .int .i64 (pErr p)] ∧ g' = g ∧ L' = []) := by
 refine Spec.of_at (f := Tryz.f119) (e := [(0, .string (mkS p))]) Tryz.func119 (by kernel_rfl) (Nat.le_of_ble_eq_true (by kernel_rfl)) (by kernel_rfl) (by kernel_rfl) ?_
 intro R hR
 have s0 := St.init hg
 refine At.reg (L := [(0, false), (1, false)]) (by kernel_rfl) ?_
 refine Op.pures 2 [0] (L' := []) (e' := [(0, .string (mkS p))]) (by kernel_rfl) ?_
 refine Op.goto 1 (by kernel_rfl) ?_
 refine At.reg (L := [(0, false), (1, false), (2, false)]) (by kernel_rfl) ?_
 refine Op.pures 1 [0, 5] (L' := [(1, false), (2, false)]) (e' := [(0, .string (mkS p)), (5, .string (mkS p))]) (by kernel_rfl) ?_
 refine Op.call0 (dst := some 6) (f := 125) (args := #[.string (mkS p)]) (by kernel_rfl) s0 (checkP _ _ _ s0.sub hG p (by ((try dsimp only) <;> (omega))) ) ?_
 rintro _ g1131 _ h1129 hle1132 s1130 ⟨rfl, hgg, rfl⟩; subst g1131; clear hle1132
 refine Op.pures 1 [0, 4] (L' := []) (e' := [(0, .string (mkS p)), (4, .int .i64 (pErr p))]) (by kernel_rfl) ?_
 refine Op.goto 2 (by kernel_rfl) ?_
 refine At.reg (L := [(0, false), (1, false)]) (by kernel_rfl) ?_
 refine Op.pures 2 [0, 4, 8] (L' := []) (e' := [(0, .string (mkS p)), (4, .int .i64 (pErr p)), (8, .bool ((pErr p) != (0 : Int)))]) (by kernel_rfl) ?_
 refine Op.goto 3 (by kernel_rfl) ?_
 refine At.cond (b := (pErr p) != (0 : Int)) (c := .tmp 8) (by kernel_rfl) (by kernel_rfl) (by kernel_rfl) 4 6 (by kernel_rfl) (by kernel_rfl) (fun hb => ?_) (fun hb => ?_)
 ·have c1133 : ¬ ((pErr p) = (0 : Int)) := bneT hb
  clear hb
  refine At.keep [4] ?_; show At _ _ _ [(4, .int .i64 (pErr p))] _
  refine At.reg (L := [(0, false), (1, false), (2, false)]) (by kernel_rfl) ?_
  refine Op.pures 3 [2, 3] (L' := []) (e' := [(2, .string (mkS [])), (3, .int .i64 (pErr p))]) (by kernel_rfl) ?_
  refine Op.goto 5 (by kernel_rfl) ?_
  refine At.ret (f := Tryz.f119) (v := .tuple #[.string (mkS []), .int .i64 (pErr p)]) (by kernel_rfl) (by kernel_rfl) ?_
  refine hR _ _ _ _ s1130 ⟨?_, rfl, rfl⟩
  exact eqT2 (eqS (by first | rfl | exact checked_no c1133 | exact (checked_ok c1133).1 | exact (checked_ok c1133).2)) (eqI (by first | rfl | exact checked_no c1133 | exact (checked_ok c1133).1 | exact (checked_ok c1133).2))
 ·have c1134 : (pErr p) = (0 : Int) := bneF hb
  clear hb
  refine At.keep [0] ?_; show At _ _ _ [(0, .string (mkS p))] _
  refine At.reg (L := [(0, false), (1, false), (2, false)]) (by kernel_rfl) ?_
  refine Op.pures 3 [2, 3] (L' := []) (e' := [(2, .string (mkS p)), (3, .int .i64 0)]) (by kernel_rfl) ?_
  refine Op.goto 7 (by kernel_rfl) ?_
  refine At.ret (f := Tryz.f119) (v := .tuple #[.string (mkS p), .int .i64 0]) (by kernel_rfl) (by kernel_rfl) ?_
  refine hR _ _ _ _ s1130 ⟨?_, rfl, rfl⟩
  exact eqT2 (eqS (by first | rfl | exact checked_no c1134 | exact (checked_ok c1134).1 | exact (checked_ok c1134).2)) (eqI (by first | rfl | exact checked_no c1134 | exact (checked_ok c1134).1 | exact (checked_ok c1134).2))
theorem numberedP (B : World) (h : Heap) (g : GH) (hg : Sub g h) (hG : Glob g) (p : List UInt8) (n : Int) (hP : Pow10 g) (hlen : p.length ≤ 100000000) (hn0 : -9223372036854775808 ≤ n) (hn1 : n ≤ 9223372036854775807) :
  Spec Tryz.prog B 73 #[.string (mkS p), .int .i64 n] h g [] (fun rv g' L' => rv = .tuple #[.string (mkS (numS p n)), .int .i64 (numE p n)] ∧ g' = g ∧ L' = []) := by
 refine Spec.of_at (f := Tryz.f73) (e := [(0, .string (mkS p)), (1, .int .i64 n)]) Tryz.func73 (by kernel_rfl) (Nat.le_of_ble_eq_true (by kernel_rfl)) (by kernel_rfl) (by kernel_rfl) ?_
 intro R hR
 have s0 := St.init hg
 refine At.reg (L := [(0, false), (1, false)]) (by kernel_rfl) ?_
 refine Op.pures 2 [0, 1] (L' := []) (e' := [(0, .string (mkS p)), (1, .int .i64 n)]) (by kernel_rfl) ?_
 refine Op.goto 1 (by kernel_rfl) ?_
 refine At.reg (L := [(0, false), (1, false), (2, false), (3, false), (4, false), (5, false), (6, false), (7, false), (8, false)]) (by kernel_rfl) ?_
 refine Op.pures 1 [0, 1, 11] (L' := [(1, false), (2, false), (3, false), (4, false), (5, false), (6, false), (7, false), (8, false)]) (e' := [(0, .string (mkS p)), (1, .int .i64 n), (11, .string (mkS p))]) (by kernel_rfl) ?_
 refine Op.call0 (dst := some 12) (f := 82) (args := #[.string (mkS p)]) (by kernel_rfl) s0 (cutP _ _ _ s0.sub hG p (by ((try dsimp only) <;> (first | omega | (have hi := itoa_len (n := n) (by omega) (by omega); omega) | (have hi := itoa_len (n := n) (by omega) (by omega); simp only [List.length_append, Lib.repeatL_length, List.length_singleton, Nat.mul_one, Nat.one_mul]; omega)))) ) ?_
 rintro _ g1141 _ h1135 hle1142 s1136 ⟨v1137, rfl, hr1138, rfl⟩
 obtain ⟨a1139, n1140, rfl⟩ := hr1138.form
 replace hG := hG.mono hle1142
 replace hP := hP.mono hle1142
 refine Op.pures 7 [0, 1, 8] (L' := []) (e' := [(0, .string (mkS p)), (1, .int .i64 n), (8, .int .i64 (cutErr p))]) (by kernel_rfl) ?_
 refine Op.goto 2 (by kernel_rfl) ?_
 refine At.reg (L := [(0, false), (1, false), (2, false), (3, false), (4, false), (5, false), (6, false), (7, false), (8, false), (9, false)]) (by kernel_rfl) ?_
 refine Op.pures 3 [0, 1, 18] (L' := [(3, false), (4, false), (5, false), (6, false), (7, false), (8, false), (9, false)]) (e' := [(0, .string (mkS p)), (1, .int .i64 n), (18, .bool ((cutErr p) != (0 : Int)))]) (by kernel_rfl) ?_
 refine Op.ways (b := (cutErr p) != (0 : Int)) ⟨fun hb => ?_, fun hb => ?_⟩
 ·refine Op.cast (e' := [(0, .string (mkS p)), (1, .int .i64 n), (18, .bool true)]) (by rw [hb]) ?_
  have c1143 : ¬ ((cutErr p) = (0 : Int)) := bneT hb
  clear hb
  refine Op.pures 7 [0, 1, 25] (L' := []) (e' := [(0, .string (mkS p)), (1, .int .i64 n), (25, .bool true)]) (by kernel_rfl) ?_
  refine Op.goto 3 (by kernel_rfl) ?_
  refine At.condT (c := .tmp 25) (by kernel_rfl) (by kernel_rfl) (by kernel_rfl) 4 (by kernel_rfl) ?_
  refine At.reg (L := [(0, false), (1, false)]) (by kernel_rfl) ?_
  refine Op.pures 2 [4, 5] (L' := []) (e' := [(4, .string (mkS [])), (5, .int .i64 90)]) (by kernel_rfl) ?_
  refine Op.goto 5 (by kernel_rfl) ?_
  refine At.ret (f := Tryz.f73) (v := .tuple #[.string (mkS []), .int .i64 90]) (by kernel_rfl) (by kernel_rfl) ?_
  have s1144 : St h g (ids []) g [] h1135 := s1136.unfrz
  refine hR _ _ _ _ s1144 ⟨?_, rfl, rfl⟩
  exact eqT2 (eqS (by first | exact (num_no (numOk_f1 (by assumption))).1 | exact (num_no (numOk_f1 (by assumption))).2 | exact (num_no (numOk_f2 (by assumption))).1 | exact (num_no (numOk_f2 (by assumption))).2 | exact (num_no (numOk_f3 (by assumption))).1 | exact (num_no (numOk_f3 (by assumption))).2| exact (num_yes (numOk_t (by assumption) (by assumption) (by assumption)) (by omega)).1 | exact (num_yes (numOk_t (by assumption) (by assumption) (by assumption)) (by omega)).2)) (eqI (by first | exact (num_no (numOk_f1 (by assumption))).1 | exact (num_no (numOk_f1 (by assumption))).2 | exact (num_no (numOk_f2 (by assumption))).1 | exact (num_no (numOk_f2 (by assumption))).2 | exact (num_no (numOk_f3 (by assumption))).1 | exact (num_no (numOk_f3 (by assumption))).2| exact (num_yes (numOk_t (by assumption) (by assumption) (by assumption)) (by omega)).1 | exact (num_yes (numOk_t (by assumption) (by assumption) (by assumption)) (by omega)).2))
 ·refine Op.cast (e' := [(0, .string (mkS p)), (1, .int .i64 n), (18, .bool false)]) (by rw [hb]) ?_
  have c1145 : (cutErr p) = (0 : Int) := bneF hb
  clear hb
  refine Op.pures 4 [0, 1, 22] (L' := [(7, false), (8, false), (9, false)]) (e' := [(0, .string (mkS p)), (1, .int .i64 n), (22, .bool (decide (n < (0 : Int))))]) (by kernel_rfl) ?_
  refine Op.ways (b := decide (n < (0 : Int))) ⟨fun hb => ?_, fun hb => ?_⟩
  ·refine Op.cast (e' := [(0, .string (mkS p)), (1, .int .i64 n), (22, .bool true)]) (by rw [hb]) ?_
   have c1146 : n < (0 : Int) := of_decide_eq_true hb
   clear hb
   refine Op.pures 3 [0, 1, 25] (L' := []) (e' := [(0, .string (mkS p)), (1, .int .i64 n), (25, .bool true)]) (by kernel_rfl) ?_
   refine Op.goto 3 (by kernel_rfl) ?_
   refine At.condT (c := .tmp 25) (by kernel_rfl) (by kernel_rfl) (by kernel_rfl) 4 (by kernel_rfl) ?_
   refine At.reg (L := [(0, false), (1, false)]) (by kernel_rfl) ?_
   refine Op.pures 2 [4, 5] (L' := []) (e' := [(4, .string (mkS [])), (5, .int .i64 90)]) (by kernel_rfl) ?_
   refine Op.goto 5 (by kernel_rfl) ?_
   refine At.ret (f := Tryz.f73) (v := .tuple #[.string (mkS []), .int .i64 90]) (by kernel_rfl) (by kernel_rfl) ?_
   have s1147 : St h g (ids []) g [] h1135 := s1136.unfrz
   refine hR _ _ _ _ s1147 ⟨?_, rfl, rfl⟩
   exact eqT2 (eqS (by first | exact (num_no (numOk_f1 (by assumption))).1 | exact (num_no (numOk_f1 (by assumption))).2 | exact (num_no (numOk_f2 (by assumption))).1 | exact (num_no (numOk_f2 (by assumption))).2 | exact (num_no (numOk_f3 (by assumption))).1 | exact (num_no (numOk_f3 (by assumption))).2| exact (num_yes (numOk_t (by assumption) (by assumption) (by assumption)) (by omega)).1 | exact (num_yes (numOk_t (by assumption) (by assumption) (by assumption)) (by omega)).2)) (eqI (by first | exact (num_no (numOk_f1 (by assumption))).1 | exact (num_no (numOk_f1 (by assumption))).2 | exact (num_no (numOk_f2 (by assumption))).1 | exact (num_no (numOk_f2 (by assumption))).2 | exact (num_no (numOk_f3 (by assumption))).1 | exact (num_no (numOk_f3 (by assumption))).2| exact (num_yes (numOk_t (by assumption) (by assumption) (by assumption)) (by omega)).1 | exact (num_yes (numOk_t (by assumption) (by assumption) (by assumption)) (by omega)).2))
  ·refine Op.cast (e' := [(0, .string (mkS p)), (1, .int .i64 n), (22, .bool false)]) (by rw [hb]) ?_
   have c1148 : ¬ (n < (0 : Int)) := of_decide_eq_false hb
   clear hb
   refine Op.pures 3 [0, 1, 25] (L' := []) (e' := [(0, .string (mkS p)), (1, .int .i64 n), (25, .bool (decide (n > (99999 : Int))))]) (by kernel_rfl) ?_
   refine Op.goto 3 (by kernel_rfl) ?_
   refine At.cond (b := decide (n > (99999 : Int))) (c := .tmp 25) (by kernel_rfl) (by kernel_rfl) (by kernel_rfl) 4 6 (by kernel_rfl) (by kernel_rfl) (fun hb => ?_) (fun hb => ?_)
   ·have c1149 : n > (99999 : Int) := of_decide_eq_true hb
    clear hb
    refine At.keep [] ?_; show At _ _ _ [] _
    refine At.reg (L := [(0, false), (1, false)]) (by kernel_rfl) ?_
    refine Op.pures 2 [4, 5] (L' := []) (e' := [(4, .string (mkS [])), (5, .int .i64 90)]) (by kernel_rfl) ?_
    refine Op.goto 5 (by kernel_rfl) ?_
    refine At.ret (f := Tryz.f73) (v := .tuple #[.string (mkS []), .int .i64 90]) (by kernel_rfl) (by kernel_rfl) ?_
    have s1150 : St h g (ids []) g [] h1135 := s1136.unfrz
    refine hR _ _ _ _ s1150 ⟨?_, rfl, rfl⟩
    exact eqT2 (eqS (by first | exact (num_no (numOk_f1 (by assumption))).1 | exact (num_no (numOk_f1 (by assumption))).2 | exact (num_no (numOk_f2 (by assumption))).1 | exact (num_no (numOk_f2 (by assumption))).2 | exact (num_no (numOk_f3 (by assumption))).1 | exact (num_no (numOk_f3 (by assumption))).2| exact (num_yes (numOk_t (by assumption) (by assumption) (by assumption)) (by omega)).1 | exact (num_yes (numOk_t (by assumption) (by assumption) (by assumption)) (by omega)).2)) (eqI (by first | exact (num_no (numOk_f1 (by assumption))).1 | exact (num_no (numOk_f1 (by assumption))).2 | exact (num_no (numOk_f2 (by assumption))).1 | exact (num_no (numOk_f2 (by assumption))).2 | exact (num_no (numOk_f3 (by assumption))).1 | exact (num_no (numOk_f3 (by assumption))).2| exact (num_yes (numOk_t (by assumption) (by assumption) (by assumption)) (by omega)).1 | exact (num_yes (numOk_t (by assumption) (by assumption) (by assumption)) (by omega)).2))
   ·have c1151 : ¬ (n > (99999 : Int)) := of_decide_eq_false hb
    clear hb
    refine At.keep [0, 1] ?_; show At _ _ _ [(0, .string (mkS p)), (1, .int .i64 n)] _
    refine At.reg (L := [(0, false), (1, false), (2, false)]) (by kernel_rfl) ?_
    refine Op.pures 1 [0, 26] (L' := [(1, false), (2, false)]) (e' := [(0, .string (mkS p)), (26, .int .i64 n)]) (by kernel_rfl) ?_
    refine Op.call0 (dst := some 27) (f := 67) (args := #[.int .i64 n]) (by kernel_rfl) s1136 (itoa_spec _ _ _ s1136.sub hG n hP (by ((try dsimp only) <;> (first | omega | (have hi := itoa_len (n := n) (by omega) (by omega); omega) | (have hi := itoa_len (n := n) (by omega) (by omega); simp only [List.length_append, Lib.repeatL_length, List.length_singleton, Nat.mul_one, Nat.one_mul]; omega)))) (by ((try dsimp only) <;> (first | omega | (have hi := itoa_len (n := n) (by omega) (by omega); omega) | (have hi := itoa_len (n := n) (by omega) (by omega); simp only [List.length_append, Lib.repeatL_length, List.length_singleton, Nat.mul_one, Nat.one_mul]; omega)))) ) ?_
    rintro _ g1154 _ h1152 hle1155 s1153 ⟨rfl, hgg, rfl⟩; subst g1154; clear hle1155
    refine Op.pures 1 [0, 9] (L' := []) (e' := [(0, .string (mkS p)), (9, .string (mkS (Lib.itoa n)))]) (by kernel_rfl) ?_
    refine Op.goto 7 (by kernel_rfl) ?_
    refine At.reg (L := [(0, false), (1, false), (2, false), (3, false), (4, false), (5, false), (6, false), (7, false), (8, false), (9, false), (10, false), (11, false), (12, false)]) (by kernel_rfl) ?_
    refine Op.pures 3 [9, 28, 30] (L' := [(3, false), (4, false), (5, false), (6, false), (7, false), (8, false), (9, false), (10, false), (11, false), (12, false)]) (e' := [(9, .string (mkS (Lib.itoa n))), (28, .string (mkS p)), (30, .int .i64 ((Lib.itoa n).length : Int))]) (by kernel_rfl) ?_
    refine Op.val (dst := some 31) (v := .int .i64 (IntKind.wrap .i64 ((5 : Int) - ((Lib.itoa n).length : Int)))) (v' := .int .i64 ((5 : Int) - ((Lib.itoa n).length : Int))) (by kernel_rfl) (wrapEq_i64 (by first | omega | (have hi := itoa_len (n := n) (by omega) (by omega); omega) | (have hi := itoa_len (n := n) (by omega) (by omega); simp only [List.length_append, Lib.repeatL_length, List.length_singleton, Nat.mul_one, Nat.one_mul]; omega)) (by first | omega | (have hi := itoa_len (n := n) (by omega) (by omega); omega) | (have hi := itoa_len (n := n) (by omega) (by omega); simp only [List.length_append, Lib.repeatL_length, List.length_singleton, Nat.mul_one, Nat.one_mul]; omega))) ?_
    refine Op.call0 (dst := some 32) (f := 120) (args := #[.string (mkS ([48])), .int .i64 ((5 : Int) - ((Lib.itoa n).length : Int))]) (by kernel_rfl) s1153 (repeat_spec _ _ _ s1153.sub hG ([48]) ((5 : Int) - ((Lib.itoa n).length : Int)) (by ((try dsimp only) <;> (first | omega | (have hi := itoa_len (n := n) (by omega) (by omega); omega) | (have hi := itoa_len (n := n) (by omega) (by omega); simp only [List.length_append, Lib.repeatL_length, List.length_singleton, Nat.mul_one, Nat.one_mul]; omega)))) (by ((try dsimp only) <;> (first | omega | (have hi := itoa_len (n := n) (by omega) (by omega); omega) | (have hi := itoa_len (n := n) (by omega) (by omega); simp only [List.length_append, Lib.repeatL_length, List.length_singleton, Nat.mul_one, Nat.one_mul]; omega)))) (by ((try dsimp only) <;> (first | omega | (have hi := itoa_len (n := n) (by omega) (by omega); omega) | (have hi := itoa_len (n := n) (by omega) (by omega); simp only [List.length_append, Lib.repeatL_length, List.length_singleton, Nat.mul_one, Nat.one_mul]; omega)))) ) ?_
    rintro _ g1158 _ h1156 hle1159 s1157 ⟨rfl, hgg, rfl⟩; subst g1158; clear hle1159
    refine Op.strAdd (T := 9) (T' := 9) (x := (.tmp 28)) (y := (.tmp 32)) (dst := 33) (l := p) (m := Lib.repeatL ([48]) (((5 : Int) - ((Lib.itoa n).length : Int) : Int).toNat)) (by kernel_rfl) (by kernel_rfl) (by kernel_rfl) (by first | omega | (have hi := itoa_len (n := n) (by omega) (by omega); omega) | (have hi := itoa_len (n := n) (by omega) (by omega); simp only [List.length_append, Lib.repeatL_length, List.length_singleton, Nat.mul_one, Nat.one_mul]; omega)) ?_
    refine Op.pures 1 [33, 34] (L' := [(7, false), (8, false), (9, false), (10, false), (11, false), (12, false)]) (e' := [(33, .string (mkS (p ++ (Lib.repeatL ([48]) (((5 : Int) - ((Lib.itoa n).length : Int) : Int).toNat))))), (34, .string (mkS (Lib.itoa n)))]) (by kernel_rfl) ?_
    refine Op.strAdd (T := 9) (T' := 9) (x := (.tmp 33)) (y := (.tmp 34)) (dst := 35) (l := p ++ (Lib.repeatL ([48]) (((5 : Int) - ((Lib.itoa n).length : Int) : Int).toNat))) (m := Lib.itoa n) (by kernel_rfl) (by kernel_rfl) (by kernel_rfl) (by first | omega | (have hi := itoa_len (n := n) (by omega) (by omega); omega) | (have hi := itoa_len (n := n) (by omega) (by omega); simp only [List.length_append, Lib.repeatL_length, List.length_singleton, Nat.mul_one, Nat.one_mul]; omega)) ?_
    refine Op.call0 (dst := some 36) (f := 119) (args := #[.string (mkS ((p ++ (Lib.repeatL ([48]) (((5 : Int) - ((Lib.itoa n).length : Int) : Int).toNat))) ++ (Lib.itoa n)))]) (by kernel_rfl) s1157 (checkedP _ _ _ s1157.sub hG ((p ++ (Lib.repeatL ([48]) (((5 : Int) - ((Lib.itoa n).length : Int) : Int).toNat))) ++ (Lib.itoa n)) (by ((try dsimp only) <;> (first | omega | (have hi := itoa_len (n := n) (by omega) (by omega); omega) | (have hi := itoa_len (n := n) (by omega) (by omega); simp only [List.length_append, Lib.repeatL_length, List.length_singleton, Nat.mul_one, Nat.one_mul]; omega)))) ) ?_
    rintro _ g1162 _ h1160 hle1163 s1161 ⟨rfl, hgg, rfl⟩; subst g1162; clear hle1163
    refine Op.pures 4 [4, 5] (L' := []) (e' := [(4, .string (mkS (checkedS ((p ++ (Lib.repeatL ([48]) (((5 : Int) - ((Lib.itoa n).length : Int) : Int).toNat))) ++ (Lib.itoa n))))), (5, .int .i64 (pErr ((p ++ (Lib.repeatL ([48]) (((5 : Int) - ((Lib.itoa n).length : Int) : Int).toNat))) ++ (Lib.itoa n))))]) (by kernel_rfl) ?_
    refine Op.goto 8 (by kernel_rfl) ?_
    refine At.ret (f := Tryz.f73) (v := .tuple #[.string (mkS (checkedS ((p ++ (Lib.repeatL ([48]) (((5 : Int) - ((Lib.itoa n).length : Int) : Int).toNat))) ++ (Lib.itoa n)))), .int .i64 (pErr ((p ++ (Lib.repeatL ([48]) (((5 : Int) - ((Lib.itoa n).length : Int) : Int).toNat))) ++ (Lib.itoa n)))]) (by kernel_rfl) (by kernel_rfl) ?_
    have s1164 : St h g (ids []) g [] h1160 := s1161.unfrz
    refine hR _ _ _ _ s1164 ⟨?_, rfl, rfl⟩
    exact eqT2 (eqS (by first | exact (num_no (numOk_f1 (by assumption))).1 | exact (num_no (numOk_f1 (by assumption))).2 | exact (num_no (numOk_f2 (by assumption))).1 | exact (num_no (numOk_f2 (by assumption))).2 | exact (num_no (numOk_f3 (by assumption))).1 | exact (num_no (numOk_f3 (by assumption))).2| exact (num_yes (numOk_t (by assumption) (by assumption) (by assumption)) (by omega)).1 | exact (num_yes (numOk_t (by assumption) (by assumption) (by assumption)) (by omega)).2)) (eqI (by first | exact (num_no (numOk_f1 (by assumption))).1 | exact (num_no (numOk_f1 (by assumption))).2 | exact (num_no (numOk_f2 (by assumption))).1 | exact (num_no (numOk_f2 (by assumption))).2 | exact (num_no (numOk_f3 (by assumption))).1 | exact (num_no (numOk_f3 (by assumption))).2| exact (num_yes (numOk_t (by assumption) (by assumption) (by assumption)) (by omega)).1 | exact (num_yes (numOk_t (by assumption) (by assumption) (by assumption)) (by omega)).2))
end Go.Proofs.YtmjebehhpojihaaGreatDoor.Sw
