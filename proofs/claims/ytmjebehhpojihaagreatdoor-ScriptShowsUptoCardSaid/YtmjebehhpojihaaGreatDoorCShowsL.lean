/- Lemmas for a law of this seat: what the functions compute, and plain facts of it. Own text. -/
import Derived.Test.YtmjebehhpojihaaGreatDoorCShowsK
import Derived.MapKept
namespace Go.Proofs.YtmjebehhpojihaaGreatDoor.Sw
set_option linter.unusedVariables false
set_option linter.unusedSimpArgs false
set_option linter.deprecated false
set_option linter.unusedSectionVars false
open Go Go.MapKept
structure KeyOk {κ : Type} (d : TypeDesc) (enc : κ → Value) : Prop where
  ok : ∀ k, IsKey d (enc k)
  inj : ∀ a b, enc a = enc b → a = b
def encS (p : List UInt8) : Value := .string (mkS p)
theorem keyS : KeyOk .string encS := ⟨fun _ => trivial, fun a b h => mkS_inj (by simpa [encS] using h)⟩
def MapR {κ : Type} (enc : κ → Value) (es : Array MapEntry) (clk : Nat) (ks : List (κ × Value)) : Prop :=
  es.toList.map (fun e => (e.key, e.val)) = ks.map (fun p => (enc p.1, p.2)) ∧ Stamped es clk
def lookK {κ : Type} [DecidableEq κ] (ks : List (κ × Value)) (k : κ) : Option Value := (ks.find? fun p => decide (p.1 = k)).map (·.2)
def updK {κ : Type} [DecidableEq κ] (ks : List (κ × Value)) (k : κ) (v : Value) : List (κ × Value) :=
  if ks.any (fun p => decide (p.1 = k)) then ks.map (fun p => if p.1 = k then (p.1, v) else p) else ks ++ [(k, v)]
theorem MapR.empty {κ : Type} (enc : κ → Value) (clk : Nat) : MapR enc #[] clk ([] : List (κ × Value)) := ⟨rfl, stamped_empty clk⟩
section
variable {κ : Type} [DecidableEq κ] {d : TypeDesc} {enc : κ → Value} {es : Array MapEntry} {clk : Nat} {ks : List (κ × Value)}
theorem MapR.get (hR : MapR enc es clk ks) (i : Nat) : (es[i]?).map (fun e => (e.key, e.val)) = (ks[i]?).map fun p => (enc p.1, p.2) := by
  have := congrArg (fun l => l[i]?) hR.1
  simpa using this
theorem MapR.keys (hK : KeyOk d enc) (hR : MapR enc es clk ks) : ∀ x ∈ es.toList, IsKey d x.key := by
  intro x hx
  have : (x.key, x.val) ∈ es.toList.map (fun e => (e.key, e.val)) := List.mem_map.2 ⟨x, hx, rfl⟩
  rw [hR.1] at this
  obtain ⟨p, hp, e⟩ := List.mem_map.1 this
  simp only [Prod.mk.injEq] at e
  rw [← e.1]
  exact hK.ok _
theorem MapR.nodup (hK : KeyOk d enc) (hR : MapR enc es clk ks) : (ks.map (·.1)).Nodup := by
  have h := hR.2.2.2
  have e : es.toList.map (·.key) = ks.map (fun p => enc p.1) := by
    have := congrArg (fun l => l.map Prod.fst) hR.1
    simpa [List.map_map, Function.comp_def] using this
  rw [e] at h
  rw [List.Nodup, List.pairwise_map] at h ⊢
  exact h.imp fun hne he => hne (by rw [he])
theorem MapR.size (hR : MapR enc es clk ks) : es.size = ks.length := by
  have := congrArg List.length hR.1
  simpa using this
theorem lookK_none {k : κ} (h : ∀ p ∈ ks, p.1 ≠ k) : lookK ks k = none := by
  unfold lookK
  rw [List.find?_eq_none.2 (fun p hp => by simpa using h p hp)]
  rfl
theorem lookK_at (hn : (ks.map (·.1)).Nodup) {j : Nat} {p : κ × Value} (hp : ks[j]? = some p) : lookK ks p.1 = some p.2 := by
  induction ks generalizing j with
  | nil => simp at hp
  | cons q ks ih =>
    rw [List.map_cons, List.nodup_cons] at hn
    unfold lookK
    rw [List.find?_cons]
    cases j with
    | zero => simp at hp; subst hp; simp
    | succ j =>
      have hp' : ks[j]? = some p := by simpa using hp
      have hne : q.1 ≠ p.1 := fun e => hn.1 (e ▸ List.mem_map.2 ⟨p, List.mem_of_getElem? hp', rfl⟩)
      simp only [hne, decide_false]
      exact ih hn.2 hp'
theorem MapR.find (hK : KeyOk d enc) (hR : MapR enc es clk ks) (k : κ) :
    (Instr.findNow d (enc k) es.toList 0 = some none ∧ (∀ x ∈ es.toList, x.key ≠ enc k) ∧ (∀ p ∈ ks, p.1 ≠ k)) ∨
    ∃ j e, Instr.findNow d (enc k) es.toList 0 = some (some (j, e.val)) ∧ es[j]? = some e ∧ e.key = enc k ∧ ks[j]? = some (k, e.val) := by
  rcases findNow_spec (hK.ok k) es.toList 0 (hR.keys hK) with ⟨h1, h2⟩ | ⟨j, e, h1, h2, h3⟩
  · refine .inl ⟨h1, h2, fun p hp e => ?_⟩
    have : (enc p.1, p.2) ∈ ks.map (fun p => (enc p.1, p.2)) := List.mem_map.2 ⟨p, hp, rfl⟩
    rw [← hR.1] at this
    obtain ⟨x, hx, ex⟩ := List.mem_map.1 this
    simp only [Prod.mk.injEq] at ex
    exact h2 x hx (by rw [ex.1, e])
  · have hj : es[j]? = some e := by simpa using h2
    have := hR.get j
    rw [hj] at this
    cases hk : ks[j]? with
    | none => rw [hk] at this; cases this
    | some p =>
      rw [hk] at this
      simp only [Option.map_some, Option.some.injEq, Prod.mk.injEq] at this
      have : p = (k, e.val) := Prod.ext (hK.inj _ _ (this.1.symm.trans h3)) this.2.symm
      exact .inr ⟨j, e, by simpa using h1, hj, h3, by rw [hk, this]⟩
theorem MapR.look (hK : KeyOk d enc) (hR : MapR enc es clk ks) (k : κ) :
    (Instr.findNow d (enc k) es.toList 0 = some none ∧ lookK ks k = none) ∨ ∃ j v, Instr.findNow d (enc k) es.toList 0 = some (some (j, v)) ∧ lookK ks k = some v := by
  rcases hR.find hK k with ⟨h1, _, h2⟩ | ⟨j, e, h1, _, _, h2⟩
  · exact .inl ⟨h1, lookK_none h2⟩
  · exact .inr ⟨j, e.val, h1, lookK_at (hR.nodup hK) h2⟩
theorem MapR.upd_new (hR : MapR enc es clk ks) {k : κ} (h : ∀ x ∈ es.toList, x.key ≠ enc k) (h2 : ∀ p ∈ ks, p.1 ≠ k) (v : Value) : MapR enc (es.push { key := enc k, val := v, born := clk }) (clk + 1) (updK ks k v) := by
  have : ks.any (fun p => decide (p.1 = k)) = false := by
    rw [List.any_eq_false]
    exact fun p hp => by simpa using h2 p hp
  unfold updK
  rw [if_neg (by simp [this])]
  refine ⟨?_, stamped_push hR.2 h⟩
  rw [Array.toList_push, List.map_append, List.map_append, hR.1]
  rfl
theorem upd_at (hn : (ks.map (·.1)).Nodup) {j : Nat} {k : κ} {u v : Value} (hp : ks[j]? = some (k, u)) : updK ks k v = ks.modify j fun p => (p.1, v) := by
  have hm := List.mem_of_getElem? hp
  unfold updK
  rw [if_pos (List.any_eq_true.2 ⟨_, hm, by simp⟩)]
  apply List.ext_getElem?
  intro i
  rw [List.getElem?_map, List.getElem?_modify]
  cases hi : ks[i]? with
  | none => by_cases hj : j = i <;> simp [hj]
  | some p =>
    by_cases hj : j = i
    · subst hj
      rw [hp] at hi
      cases hi
      simp
    · have : p.1 ≠ k := fun e => by
        have hlt := (List.getElem?_eq_some_iff.1 hi).1
        have hlt2 := (List.getElem?_eq_some_iff.1 hp).1
        have e1 : (ks.map (·.1))[i]? = some k := by rw [List.getElem?_map, hi]; simp [e]
        have e2 : (ks.map (·.1))[j]? = some k := by rw [List.getElem?_map, hp]; rfl
        exact hj ((List.getElem?_inj (by simpa using hlt2) hn).1 (e2.trans e1.symm))
      simp [this, hj]
theorem MapR.upd_old (hK : KeyOk d enc) (hR : MapR enc es clk ks) {j : Nat} {e : MapEntry} {k : κ} (he : es[j]? = some e) (hk : e.key = enc k) (hks : ks[j]? = some (k, e.val)) (v : Value) :
    MapR enc (es.modify j fun e => { e with key := enc k, val := v }) clk (updK ks k v) := by
  rw [upd_at (hR.nodup hK) hks]
  refine ⟨?_, stamped_modify hR.2 _ _ (fun _ _ => rfl) fun e' _ he' => by rw [he] at he'; cases he'; exact hk.symm⟩
  apply List.ext_getElem?
  intro i
  have := hR.get i
  rw [List.getElem?_map, List.getElem?_map, List.getElem?_modify, Array.getElem?_toList, Array.getElem?_modify]
  by_cases hj : j = i
  · subst hj
    simp [he, hks]
  · simp [hj] at this ⊢
    exact this
end
def mapT (P : Program) (mt : TypeId) : Option (TypeDesc × Value) := match P.underlying mt with
  | some (.map kt et) => match P.underlying kt, (P.info? et).bind (·.zero) with
    | some d, some z => some (d, z)
    | _, _ => none
  | _ => none
theorem mapT_spec {P : Program} {mt : TypeId} {d : TypeDesc} {z : Value} (h : mapT P mt = some (d, z)) : ∃ kt et inf, P.underlying mt = some (.map kt et) ∧ P.underlying kt = some d ∧ P.info? et = some inf ∧ inf.zero = some z := by
  unfold mapT at h
  split at h
  · rename_i kt et hu
    split at h
    · rename_i d' z' hd hz
      simp only [Option.some.injEq, Prod.mk.injEq] at h
      obtain ⟨rfl, rfl⟩ := h
      obtain ⟨inf, hi, hz⟩ := Option.bind_eq_some_iff.1 hz
      exact ⟨kt, et, inf, hu, hd, hi, hz⟩
    · cases h
  · cases h
section
variable {P : Program} {w : World} {κ : Type} [DecidableEq κ] {d : TypeDesc} {enc : κ → Value} {es : Array MapEntry} {clk : Nat} {ks : List (κ × Value)} {mt : TypeId} {z : Value} {m : Nat}
theorem run_zero {et : TypeId} {inf : TypeInfo} (hi : P.info? et = some inf) (hz : inf.zero = some z) : (zeroValue et).run P w = .ok z w := by
  simp only [zeroValue, typeInfo, Sem.run_bind, run_program, Result.andThen_ok, hi, Sem.run_pure]
  rw [hz]
  rfl
theorem run_lookupR (hT : mapT P mt = some (d, z)) (hK : KeyOk d enc) (hR : MapR enc es clk ks) (hb : w.heap[m]? = some (.map es clk)) (k : κ) (ok : Bool) :
    (Instr.lookup mt (.map (some m)) (enc k) ok).run P w = .ok (if ok then .tuple #[(lookK ks k).getD z, .bool (lookK ks k).isSome] else (lookK ks k).getD z) w := by
  obtain ⟨kt, et, inf, hu, hd, hi, hz⟩ := mapT_spec hT
  unfold Instr.lookup
  rcases hR.look hK k with ⟨h1, h2⟩ | ⟨j, v, h1, h2⟩
  · simp only [Sem.run_bind, run_underlying hu, MapKept.run_getObj_map hb, run_checkKey hd (hK.ok k), run_findKey hd h1, run_zero hi hz, Result.andThen_ok, Sem.run_pure, h2]
    simp
  · simp only [Sem.run_bind, run_underlying hu, MapKept.run_getObj_map hb, run_checkKey hd (hK.ok k), run_findKey hd h1, Result.andThen_ok, Sem.run_pure, h2]
    simp
theorem run_updateR (hT : mapT P mt = some (d, z)) (hK : KeyOk d enc) (hR : MapR enc es clk ks) (hb : w.heap[m]? = some (.map es clk)) (k : κ) (v : Value) :
    ∃ es' clk', (Instr.mapUpdate mt (.map (some m)) (enc k) v).run P w = .ok () { w with heap := w.heap.setIfInBounds m (.map es' clk') } ∧ MapR enc es' clk' (updK ks k v) := by
  obtain ⟨kt, et, inf, hu, hd, hi, hz⟩ := mapT_spec hT
  unfold Instr.mapUpdate
  rcases hR.find hK k with ⟨h1, h2, h3⟩ | ⟨j, e, h1, h2, h3, h4⟩
  · refine ⟨_, _, ?_, hR.upd_new h2 h3 v⟩
    simp only [Sem.run_bind, run_underlying hu, MapKept.run_getObj_map hb, run_checkKey hd (hK.ok k), run_findKey hd h1, Result.andThen_ok, MapKept.run_setObj_map _ hb]
  · refine ⟨_, _, ?_, hR.upd_old hK h2 h3 h4 v⟩
    simp only [Sem.run_bind, run_underlying hu, MapKept.run_getObj_map hb, run_checkKey hd (hK.ok k), run_findKey hd h1, h2, Option.map_some, Option.getD_some, h3, run_keyThatStays (hK.ok k), Result.andThen_ok, MapKept.run_setObj_map _ hb]
end
def MIt {κ : Type} (enc : κ → Value) (es : Array MapEntry) (clk m : Nat) (vs rs : List (κ × Value)) (o : Obj) : Prop :=
  ∃ vis rest : List MapEntry, o = .mapIter (some m) clk (vis.map (·.born)).toArray clk ∧ (vis ++ rest).Perm es.toList ∧ vis.map (fun e => (e.key, e.val)) = vs.map (fun p => (enc p.1, p.2)) ∧ rest.map (fun e => (e.key, e.val)) = rs.map (fun p => (enc p.1, p.2))
theorem MIt.start {κ : Type} {enc : κ → Value} {es : Array MapEntry} {clk m : Nat} {ks : List (κ × Value)} (hR : MapR enc es clk ks) : MIt enc es clk m [] ks (.mapIter (some m) clk #[] clk) :=
  ⟨[], es.toList, rfl, List.Perm.refl _, rfl, hR.1⟩
theorem map_split {α β : Type} {f : α → β} {γ : Type} {g : γ → β} : ∀ {l : List α} {r : List γ}, l.map f = r.map g → ∀ {a b : List α} {x : α}, l = a ++ x :: b → ∃ a' y b', r = a' ++ y :: b' ∧ a.map f = a'.map g ∧ f x = g y ∧ b.map f = b'.map g := by
  intro l r h a b x e
  subst e
  induction a generalizing r with
  | nil =>
    cases r with
    | nil => simp at h
    | cons y r => simp only [List.nil_append, List.map_cons, List.cons.injEq] at h; exact ⟨[], y, r, rfl, rfl, h.1, h.2⟩
  | cons q a ih =>
    cases r with
    | nil => simp at h
    | cons y r =>
      simp only [List.cons_append, List.map_cons, List.cons.injEq] at h
      obtain ⟨a', y', b', rfl, h1, h2, h3⟩ := ih h.2
      exact ⟨y :: a', y', b', rfl, by simp [h.1, h1], h2, h3⟩
theorem run_next {P : Program} {w : World} {κ : Type} {enc : κ → Value} {es : Array MapEntry} {clk m it ty : Nat} {vs rs : List (κ × Value)} {o : Obj} (hst : Stamped es clk) (hI : MIt enc es clk m vs rs o)
    (hb : w.heap[m]? = some (.map es clk)) (hit : w.heap[it]? = some o) :
    (rs = [] ∧ ∃ w', (Instr.next (.pointer (some ⟨it, 0, none⟩)) false ty).run P w = .ok (.tuple #[.bool false]) w' ∧ w'.heap = w.heap ∧ w'.os = w.os ∧ w'.tape = w.tape ∧ w'.output = w.output) ∨
    (∃ a k v b o' w', rs = a ++ (k, v) :: b ∧ (Instr.next (.pointer (some ⟨it, 0, none⟩)) false ty).run P w = .ok (.tuple #[.bool true, enc k, v]) w' ∧ w'.heap = w.heap.setIfInBounds it o' ∧ w'.os = w.os ∧ w'.tape = w.tape ∧ w'.output = w.output ∧
      MIt enc es clk m (vs ++ [(k, v)]) (a ++ b) o') := by
  obtain ⟨vis, rest, rfl, hp, hv, hr⟩ := hI
  obtain ⟨hlt, hnb, _⟩ := hst
  have hbm : ∀ x, x ∈ es.toList ↔ x ∈ vis ∨ x ∈ rest := fun x => by rw [← hp.mem_iff, List.mem_append]
  have hnd : ((vis ++ rest).map (·.born)).Nodup := (hp.map _).nodup_iff.2 hnb
  -- what is left
  have hleft : ∀ x, x ∈ (es.filter fun e => !((vis.map (·.born)).toArray).contains e.born).toList ↔ x ∈ rest := by
    intro x
    rw [Array.toList_filter, List.mem_filter, hbm]
    simp only [List.contains_toArray, Bool.not_eq_true', List.contains_eq_mem, decide_eq_false_iff_not]
    constructor
    · rintro ⟨h | h, h2⟩
      · exact absurd (List.mem_map.2 ⟨x, h, rfl⟩) h2
      · exact h
    · intro h
      refine ⟨.inr h, fun h2 => ?_⟩
      rw [List.map_append, List.nodup_append] at hnd
      exact hnd.2.2 _ h2 _ (List.mem_map.2 ⟨x, h, rfl⟩) rfl
  have hseen : ∀ n : Nat, 1 ≤ n → ∃ idx w', (choose (.mapNext n)).run P w = .ok idx w' ∧ idx < n ∧ w'.heap = w.heap ∧ w'.os = w.os ∧ w'.tape = w.tape ∧ w'.output = w.output := by
    intro n hn
    rw [run_choose_drew]
    by_cases h1 : n ≤ 1
    · exact ⟨0, w, by simp [Question.forced, h1], by omega, rfl, rfl, rfl, rfl⟩
    · exact ⟨w.tape w.drawn (.mapNext n) % n, w.drew, by simp [Question.forced, h1, Question.cut], Nat.mod_lt _ (by omega), rfl, rfl, rfl, rfl⟩
  have hlt2 : ∀ x ∈ es.filter (fun e => !((vis.map (·.born)).toArray).contains e.born), x.born < clk := fun x hx => hlt x (by
    have := (hleft x).1 (by simpa using hx)
    exact (hbm x).2 (.inr this))
  generalize hl : es.filter (fun e => !((vis.map (·.born)).toArray).contains e.born) = left at *
  have hold : left.filter (fun e => decide (e.born < clk)) = left := by
    rw [Array.filter_eq_self]; exact fun x hx => by simpa using hlt2 x hx
  have hnew : left.filter (fun e => decide (e.born ≥ clk)) = #[] := by
    rw [Array.filter_eq_empty_iff]; exact fun x hx => by have := hlt2 x hx; simp; omega
  have hgone : (!((vis.map (·.born)).toArray).isEmpty && !es.isEmpty && es.all fun e => decide (e.born ≥ clk)) = false := by
    cases he : es.isEmpty with
    | true => simp
    | false =>
      have hne : es ≠ #[] := by intro h; subst h; simp at he
      have hpos : 0 < es.size := Array.size_pos_iff.2 hne
      have : es.all (fun e => decide (e.born ≥ clk)) = false := by
        rw [Array.all_eq_false]
        exact ⟨0, hpos, by have := hlt es[0] (by simp); simp; omega⟩
      simp [this]
  by_cases hr0 : rest = []
  · subst hr0
    have hle : left = #[] := by
      rw [← Array.toList_eq_nil_iff]
      exact List.eq_nil_iff_forall_not_mem.2 fun x hx => by have := (hleft x).1 hx; cases this
    have hrs : rs = [] := by cases rs with
      | nil => rfl
      | cons p rs => simp at hr
    refine .inl ⟨hrs, ?_⟩
    obtain ⟨idx, w', hc, hi, hw⟩ := hseen 1 (Nat.le_refl _)
    have hi0 : idx = 0 := by omega
    subst hi0
    refine ⟨w', ?_, hw⟩
    subst hle
    unfold Instr.next
    have hg : (getObj it).run P w = .ok (.mapIter (some m) clk (vis.map (·.born)).toArray clk) w := by simp [getObj, Sem.run, hit]
    simp only [Sem.run_bind, hg, Result.andThen_ok, MapKept.run_getObj_map hb, hgone, Bool.false_eq_true, if_false, Sem.run_pure, hl, hold, hnew]
    have hcs : ((if (#[] : Array MapEntry).isEmpty = true then (#[none] : Array (Option MapEntry)) else #[]) ++ ((#[] : Array MapEntry) ++ #[]).map some) = #[none] := by simp
    simp only [hcs]
    rw [show (#[none] : Array (Option MapEntry)).size = 1 from rfl, hc]
    rfl
  · have hne : left ≠ #[] := by
      intro h
      obtain ⟨x, t, rfl⟩ : ∃ x t, rest = x :: t := by
        cases rest with
        | nil => exact absurd rfl hr0
        | cons x t => exact ⟨x, t, rfl⟩
      have := (hleft x).2 (.head _)
      rw [h] at this
      simp at this
    have hpos : 0 < left.size := Array.size_pos_iff.2 hne
    obtain ⟨idx, w', hc, hi, hw⟩ := hseen left.size hpos
    have hmem : left[idx] ∈ rest := (hleft _).1 (by simp)
    obtain ⟨a, b, hsplit⟩ := List.append_of_mem hmem
    obtain ⟨a', p, b', hrs, h1, h2, h3⟩ := map_split hr hsplit
    simp only [Prod.mk.injEq] at h2
    refine .inr ⟨a', p.1, p.2, b', .mapIter (some m) clk ((vis.map (·.born)).toArray.push left[idx].born) clk, { w' with heap := w'.heap.setIfInBounds it (.mapIter (some m) clk ((vis.map (·.born)).toArray.push left[idx].born) clk) }, hrs, ?_, by simp [hw.1], hw.2.1, hw.2.2.1, hw.2.2.2, ?_⟩
    · unfold Instr.next
      have hg : (getObj it).run P w = .ok (.mapIter (some m) clk (vis.map (·.born)).toArray clk) w := by simp [getObj, Sem.run, hit]
      have hit' : w'.heap[it]? = some (.mapIter (some m) clk (vis.map (·.born)).toArray clk) := by rw [hw.1]; exact hit
      have hem : left.isEmpty = false := by simpa using hne
      have hs : (setObj it (.mapIter (some m) clk ((vis.map (·.born)).toArray.push left[idx].born) clk)).run P w' = .ok () { w' with heap := w'.heap.setIfInBounds it (.mapIter (some m) clk ((vis.map (·.born)).toArray.push left[idx].born) clk) } := by simp [setObj, Sem.run, hit']
      simp only [Sem.run_bind, hg, Result.andThen_ok, MapKept.run_getObj_map hb, hgone, Bool.false_eq_true, if_false, Sem.run_pure, hl, hold, hnew, hem]
      have hcs : ((#[] : Array (Option MapEntry)) ++ (left ++ #[]).map some) = left.map some := by simp
      simp only [hcs, Array.size_map, hc, Result.andThen_ok, Array.getElem?_map, Array.getElem?_eq_getElem hi, Option.map_some, Sem.run_bind, hs, Sem.run_pure]
      rw [h2.1, h2.2]
    · refine ⟨vis ++ [left[idx]], a ++ b, by simp, ?_, by simp [hv, h2.1, h2.2], by simp [h1, h3]⟩
      refine List.Perm.trans ?_ hp
      rw [hsplit, List.append_assoc]
      refine List.Perm.append_left _ ?_
      exact (List.perm_middle.symm : (left[idx] :: (a ++ b)).Perm (a ++ left[idx] :: b))
section
variable {C : Ctx} {ds : List Deferred} {i j : Nat} {r : Heap} {M : Nat → Prop} {Ls : List (Nat × Bool)} {e : Env} {h : Heap}
variable {h0 : Heap} {g0 : GH} {S0 : Nat → Prop} {g : GH} {L L' : List Chunk}
variable {κ : Type} [DecidableEq κ] {d : TypeDesc} {enc : κ → Value} {es : Array MapEntry} {clk : Nat} {ks : List (κ × Value)} {mt : TypeId} {z : Value} {m : Nat}
theorem Op.mapSet {x ix y : Operand} {k : κ} {v : Value} (ho : (nextDO C i j e = some (none, .mapUpdate mt x ix y)) ∨ (nextDO C i j e = some (none, .insert mt x ix y))) (hT : mapT C.P mt = some (d, z)) (hK : KeyOk d enc) (hx : e.ev x = .map (some m)) (hix : e.ev ix = enc k) (hy : e.ev y = v)
    (s : St h0 g0 S0 g L h) (n : Nat) (hL : L[n]? = some [(m, .map es clk)]) (hR : MapR enc es clk ks) (hM : m < r.size → M m)
    (K : ∀ es' clk' h', MapR enc es' clk' (updK ks k v) → St h0 g0 S0 g (L.set n [(m, .map es' clk')]) h' → Op C ds i r M Ls e h') : Op C ds i r M ((j, false) :: Ls) e h := by
  obtain ⟨o, h1, h2, h3⟩ : ∃ o, nextOp C i j e = some o ∧ o.dst = none ∧ (o.op = .mapUpdate mt x ix y ∨ o.op = .insert mt x ix y) := by
    rcases ho with ho | ho
    · obtain ⟨o, h1, h2, h3⟩ := nextDO_spec ho; exact ⟨o, h1, h2, .inl h3⟩
    · obtain ⟨o, h1, h2, h3⟩ := nextDO_spec ho; exact ⟨o, h1, h2, .inr h3⟩
  have hb := s.chunk n hL
  refine Op.skip h1 (R := fun nx h' => nx = .skip ∧ ∃ es' clk', MapR enc es' clk' (updK ks k v) ∧ h' = h.setIfInBounds m (.map es' clk')) ?_ ?_
  · intro w is
    obtain ⟨es', clk', hrun, hR'⟩ := run_updateR (P := C.P) (w := w) hT hK hR (by rw [is.heap]; exact hb) k v
    refine ⟨.skip, _, ?_, (is.setTo m (.map es' clk')).again, rfl, es', clk', hR', by simp [is.heap]⟩
    unfold semOf execOp
    rcases h3 with h3 | h3 <;> simp only [h3, Sem.run_bind, hx, hix, hy, hrun, Result.andThen_ok, Sem.run_pure]
  · rintro _ _ ⟨rfl, es', clk', hR', rfl⟩
    refine ⟨rfl, fun hk => (Upd.set (.map es' clk') hb).keep hM hk, ?_⟩
    rw [h2]
    exact K es' clk' _ hR' (s.setTo n hL (.map es' clk'))
theorem Op.makeMap {dst : Nat} (ho : nextDO C i j e = some (some dst, .makeMap mt none)) (s : St h0 g0 S0 g L h)
    (K : ∀ m h', St h0 g0 S0 g ([(m, .map #[] 0)] :: L) h' → Op C ds i r M Ls ((dst, .map (some m)) :: e) h') : Op C ds i r M ((j, false) :: Ls) e h := by
  obtain ⟨o, h1, h2, h3⟩ := nextDO_spec ho
  refine Op.run h1 (R := fun nx h' => nx = .value (.map (some h.size)) ∧ h' = h.push (.map #[] 0)) ?_ ?_
  · intro w is
    refine ⟨.value (.map (some h.size)), { w with heap := w.heap.push (.map #[] 0) }, ?_, ⟨rfl, is.os, is.tape, is.output⟩, rfl, by rw [← is.heap]⟩
    unfold semOf execOp
    simp only [h3, Instr.makeMap, Option.map_none, Sem.run_bind, run_newObj, Result.andThen_ok, Sem.run_pure, is.heap]
  · rintro _ _ ⟨rfl, rfl⟩
    refine ⟨_, rfl, Keep.push _, ?_⟩
    rw [h2]
    exact K _ _ (s.alloc _)
theorem Op.rangeM {dst : Nat} {x : Operand} (ho : nextDO C i j e = some (some dst, .range mt x)) (hT : mapT C.P mt = some (d, z)) (hx : e.ev x = .map (some m)) (hb : h[m]? = some (.map es clk)) (hR : MapR enc es clk ks) (s : St h0 g0 S0 g L h)
    (K : ∀ it o h', MIt enc es clk m [] ks o → St h0 g0 S0 g ([(it, o)] :: L) h' → Op C ds i r M Ls ((dst, .pointer (some ⟨it, 0, none⟩)) :: e) h') : Op C ds i r M ((j, false) :: Ls) e h := by
  obtain ⟨o, h1, h2, h3⟩ := nextDO_spec ho
  obtain ⟨kt, et, inf, hu, hd, hi, hz⟩ := mapT_spec hT
  refine Op.run h1 (R := fun nx h' => nx = .value (.pointer (some ⟨h.size, 0, none⟩)) ∧ h' = h.push (.mapIter (some m) clk #[] clk)) ?_ ?_
  · intro w is
    have hbw : w.heap[m]? = some (.map es clk) := by rw [is.heap]; exact hb
    refine ⟨_, { w with heap := w.heap.push (.mapIter (some m) clk #[] clk) }, ?_, ⟨rfl, is.os, is.tape, is.output⟩, rfl, by rw [← is.heap]⟩
    unfold semOf execOp
    simp only [h3, hx, Instr.range, Sem.run_bind, run_underlying hu, MapKept.run_getObj_map hbw, run_newObj, Result.andThen_ok, Sem.run_pure, is.heap]
  · rintro _ _ ⟨rfl, rfl⟩
    refine ⟨_, rfl, Keep.push _, ?_⟩
    rw [h2]
    exact K _ _ _ (MIt.start hR) (s.alloc _)
theorem Op.nextM {dst : Nat} {x : Operand} {it : Nat} {o1 : Obj} {vs rs : List (κ × Value)} (ho : nextDO C i j e = some (some dst, .next x false)) (hx : e.ev x = .pointer (some ⟨it, 0, none⟩)) (hb : h[m]? = some (.map es clk)) (hR : MapR enc es clk ks) (hI : MIt enc es clk m vs rs o1)
    (s : St h0 g0 S0 g L h) (n : Nat) (hL : L[n]? = some [(it, o1)]) (hM : it < r.size → M it)
    (K : (rs = [] → Op C ds i r M Ls ((dst, .tuple #[.bool false]) :: e) h) ∧ ∀ a k v b o2 h', rs = a ++ (k, v) :: b → MIt enc es clk m (vs ++ [(k, v)]) (a ++ b) o2 → St h0 g0 S0 g (L.set n [(it, o2)]) h' → Op C ds i r M Ls ((dst, .tuple #[.bool true, enc k, v]) :: e) h') : Op C ds i r M ((j, false) :: Ls) e h := by
  obtain ⟨o, h1, h2, h3⟩ := nextDO_spec ho
  have hit := s.chunk n hL
  by_cases hrs : rs = []
  · subst hrs
    refine Op.run h1 (R := fun nx h' => nx = .value (.tuple #[.bool false]) ∧ h' = h) ?_ ?_
    · intro w is
      rcases run_next (P := C.P) (w := w) (it := it) (ty := o.type) hR.2 hI (by rw [is.heap]; exact hb) (by rw [is.heap]; exact hit) with ⟨_, w', hrun, hw1, hw2, hw3, hw4⟩ | ⟨a, k, v, b, o', w', hsp, _⟩
      · refine ⟨_, w', ?_, ⟨rfl, hw2.trans is.os, hw3.trans is.tape, hw4.trans is.output⟩, rfl, hw1.trans is.heap⟩
        unfold semOf execOp
        simp only [h3, hx, Sem.run_bind, hrun, Result.andThen_ok, Sem.run_pure]
      · simp at hsp
    · rintro _ _ ⟨rfl, rfl⟩
      refine ⟨_, rfl, fun hk => hk, ?_⟩
      rw [h2]
      exact K.1 rfl
  · refine Op.run h1 (R := fun nx h' => ∃ a k v b o2, nx = .value (.tuple #[.bool true, enc k, v]) ∧ rs = a ++ (k, v) :: b ∧ h' = h.setIfInBounds it o2 ∧ MIt enc es clk m (vs ++ [(k, v)]) (a ++ b) o2) ?_ ?_
    · intro w is
      rcases run_next (P := C.P) (w := w) (it := it) (ty := o.type) hR.2 hI (by rw [is.heap]; exact hb) (by rw [is.heap]; exact hit) with ⟨h, _⟩ | ⟨a, k, v, b, o', w', hsp, hrun, hw1, hw2, hw3, hw4, hI'⟩
      · exact absurd h hrs
      · refine ⟨_, w', ?_, ⟨rfl, hw2.trans is.os, hw3.trans is.tape, hw4.trans is.output⟩, a, k, v, b, o', rfl, hsp, by rw [hw1, is.heap], hI'⟩
        unfold semOf execOp
        simp only [h3, hx, Sem.run_bind, hrun, Result.andThen_ok, Sem.run_pure]
    · rintro _ _ ⟨a, k, v, b, o2, rfl, hsp, rfl, hI'⟩
      refine ⟨_, rfl, fun hk => (Upd.set o2 hit).keep hM hk, ?_⟩
      rw [h2]
      exact K.2 a k v b o2 _ hsp hI' (s.setTo n hL o2)
theorem Op.entryM {dst : Nat} {x : Operand} {it : Nat} {o1 : Obj} {vs rs : List (κ × Value)} {k : κ} {v : Value} (ho : nextDO C i j e = some (some dst, .entry x)) (hx : e.ev x = .pointer (some ⟨it, 0, none⟩)) (hb : h[m]? = some (.map es clk)) (hR : MapR enc es clk ks) (hI : MIt enc es clk m (vs ++ [(k, v)]) rs o1)
    (hit : h[it]? = some o1) (K : Op C ds i r M Ls ((dst, .tuple #[enc k, v]) :: e) h) : Op C ds i r M ((j, false) :: Ls) e h := by
  obtain ⟨o, h1, h2, h3⟩ := nextDO_spec ho
  refine Op.run h1 (R := fun nx h' => nx = .value (.tuple #[enc k, v]) ∧ h' = h) ?_ ?_
  · intro w is
    refine ⟨_, w, ?_, is.again, rfl, is.heap⟩
    obtain ⟨vis, rest, rfl, hp, hv, hr⟩ := hI
    obtain ⟨a', y, b', e1, e2, e3, e4⟩ := map_split (f := fun p : κ × Value => (enc p.1, p.2)) (g := fun e : MapEntry => (e.key, e.val)) hv.symm (a := vs) (x := (k, v)) (b := []) rfl
    have hb' : b' = [] := by cases b' with
      | nil => rfl
      | cons q b' => simp at e4
    subst hb'
    simp only [Prod.mk.injEq] at e3
    have hmem : y ∈ es.toList := hp.mem_iff.1 (by rw [e1]; simp)
    have hbw : w.heap[m]? = some (.map es clk) := by rw [is.heap]; exact hb
    have hback : ((vis.map (·.born)).toArray).back? = some y.born := by rw [e1]; simp
    have hfind : es.find? (fun x => x.born == y.born) = some y := by
      cases hf : es.find? (fun x => x.born == y.born) with
      | none =>
        rw [Array.find?_eq_none] at hf
        have := hf y (by simpa using hmem)
        simp at this
      | some z =>
        have h5 := Array.find?_some hf
        have h6 : z ∈ es.toList := by simpa using Array.mem_of_find?_eq_some hf
        have h7 : z.born = y.born := by simpa using h5
        have hnd := hR.2.2.1
        obtain ⟨i1, hi1⟩ := List.mem_iff_getElem?.1 h6
        obtain ⟨i2, hi2⟩ := List.mem_iff_getElem?.1 hmem
        have q1 : (es.toList.map (·.born))[i1]? = some y.born := by rw [List.getElem?_map, hi1]; simp [h7]
        have q2 : (es.toList.map (·.born))[i2]? = some y.born := by rw [List.getElem?_map, hi2]; rfl
        have hlt := (List.getElem?_eq_some_iff.1 q1).1
        have := (List.getElem?_inj hlt hnd).1 (q1.trans q2.symm)
        subst this
        rw [hi1] at hi2
        exact congrArg some (Option.some.inj hi2)
    have hg : (getObj it).run C.P w = .ok (.mapIter (some m) clk (vis.map (·.born)).toArray clk) w := by simp [getObj, Sem.run, is.heap, hit]
    unfold semOf execOp
    have hrun : (Instr.entry (e.ev x)).run C.P w = .ok (.tuple #[enc k, v]) w := by
      unfold Instr.entry
      simp only [hx, Sem.run_bind, hg, Result.andThen_ok, hback, MapKept.run_getObj_map hbw, hfind, bne_self_eq_false, Bool.false_eq_true, if_false, Sem.run_pure]
      rw [← e3.1, ← e3.2]
    simp only [h3, Sem.run_bind, hrun, Result.andThen_ok, Sem.run_pure]
  · rintro _ _ ⟨rfl, rfl⟩
    refine ⟨_, rfl, fun hk => hk, ?_⟩
    rw [h2]
    exact K
theorem Op.lookupF {dst : Nat} {x ix : Operand} {ok : Bool} {k : κ} (ho : nextDO C i j e = some (some dst, .lookup mt x ix ok)) (hT : mapT C.P mt = some (d, z)) (hK : KeyOk d enc) (hx : e.ev x = .map (some m)) (hix : e.ev ix = enc k)
    (hM : ¬ M m) (hb : r[m]? = some (.map es clk)) (hR : MapR enc es clk ks) (K : Op C ds i r M Ls ((dst, if ok then .tuple #[(lookK ks k).getD z, .bool (lookK ks k).isSome] else (lookK ks k).getD z) :: e) h) : Op C ds i r M ((j, true) :: Ls) e h := by
  obtain ⟨o, h1, h2, h3⟩ := nextDO_spec ho
  refine Op.take h1 (v := if ok then .tuple #[(lookK ks k).getD z, .bool (lookK ks k).isSome] else (lookK ks k).getD z) (fun _ => by simp [needs, h3]) (fun w is hk hw => ?_) (by rw [h2]; exact K)
  have hb' := (hk.same m (Array.getElem?_eq_some_iff.1 hb).1 hM).trans hb
  unfold semOf execOp
  simp only [h3, Sem.run_bind, hx, hix, run_lookupR hT hK hR (w := w) hb', Result.andThen_ok, Sem.run_pure]
theorem Op.lookSomeF {dst : Nat} {x ix : Operand} {ok : Bool} {k : κ} {v : Value} (ho : nextDO C i j e = some (some dst, .lookup mt x ix ok)) (hT : mapT C.P mt = some (d, z)) (hK : KeyOk d enc) (hx : e.ev x = .map (some m)) (hix : e.ev ix = enc k)
    (hM : ¬ M m) (hb : r[m]? = some (.map es clk)) (hR : MapR enc es clk ks) (hv : lookK ks k = some v) (K : Op C ds i r M Ls ((dst, if ok then .tuple #[v, .bool true] else v) :: e) h) : Op C ds i r M ((j, true) :: Ls) e h :=
  Op.lookupF ho hT hK hx hix hM hb hR (by rw [hv]; exact K)
theorem Op.lookNoneF {dst : Nat} {x ix : Operand} {ok : Bool} {k : κ} (ho : nextDO C i j e = some (some dst, .lookup mt x ix ok)) (hT : mapT C.P mt = some (d, z)) (hK : KeyOk d enc) (hx : e.ev x = .map (some m)) (hix : e.ev ix = enc k)
    (hM : ¬ M m) (hb : r[m]? = some (.map es clk)) (hR : MapR enc es clk ks) (hv : lookK ks k = none) (K : Op C ds i r M Ls ((dst, if ok then .tuple #[z, .bool false] else z) :: e) h) : Op C ds i r M ((j, true) :: Ls) e h :=
  Op.lookupF ho hT hK hx hix hM hb hR (by rw [hv]; exact K)
end
end Go.Proofs.YtmjebehhpojihaaGreatDoor.Sw
namespace Go.Proofs.YtmjebehhpojihaaGreatDoor.Sw
set_option linter.unusedVariables false
set_option linter.unusedSimpArgs false
set_option linter.deprecated false
open Go
def rl : Nat → Nat → List (Nat × Bool)
  | 0, _ => []
  | n + 1, k => (k, false) :: rl n (k + 1)
namespace Env
theorem get_app (a b : Env) (t : Nat) : get (a ++ b) t = (match get a t with | some v => some v | none => get b t) := by
  induction a with
  | nil => rfl
  | cons p a ih =>
    obtain ⟨k, v⟩ := p
    simp only [List.cons_append, get]
    cases Nat.beq k t with
    | true => rfl
    | false => exact ih
theorem get_all {a : Env} {q : Nat × Value → Bool} (h : a.all q = true) {t : Nat} {v : Value} (hv : get a t = some v) : q (t, v) = true := by
  induction a with
  | nil => cases hv
  | cons p a ih =>
    obtain ⟨k, u⟩ := p
    rw [List.all_cons, Bool.and_eq_true] at h
    by_cases hk : k = t
    · subst hk
      simp [get] at hv
      rw [← hv]; exact h.1
    · rw [get, beqF hk] at hv
      exact ih h.2 hv
theorem map_get {q : Env} : ∀ {N : Env}, N.map (fun p => q.get p.1) = N.map (fun p => some p.2) → ∀ {t : Nat} {v : Value}, N.get t = some v → q.get t = some v
  | [], _, t, v, hn => by cases hn
  | (k, w) :: N, h1, t, v, hn => by
    simp only [List.map_cons, List.cons.injEq] at h1
    by_cases hk : k = t
    · subst hk; simp [get] at hn; rw [h1.1, hn]
    · rw [get, beqF hk] at hn; exact map_get h1.2 hn
def news (e₁ e N : Env) : List (Option Value) × Bool := (N.map fun p => e₁.get p.1, (e₁.take (e₁.length - e.length)).all fun p => (N.get p.1).isSome || !(e.get p.1).isSome)
theorem news_get {e D N : Env} (h : news (D ++ e) e N = (N.map (fun p => some p.2), true)) (t : Nat) (v : Value) (hv : (N ++ e).get t = some v) : (D ++ e).get t = some v := by
  unfold news at h
  simp only [Prod.mk.injEq, List.length_append, Nat.add_sub_cancel, List.take_left] at h
  obtain ⟨h1, h2⟩ := h
  rw [get_app] at hv
  cases hn : N.get t with
  | some u =>
    rw [hn] at hv
    simp only [Option.some.injEq] at hv
    subst hv
    clear h2
    exact map_get h1 hn
  | none =>
    rw [hn] at hv
    simp only at hv
    rw [get_app]
    cases hd : D.get t with
    | none => exact hv
    | some u =>
      have := get_all h2 hd
      simp only [hn, hv, Option.isSome_none, Option.isSome_some, Bool.not_true, Bool.or_self, Bool.false_eq_true] at this
end Env
theorem Fits.sub {e e' : Env} {n : Nat} {ds : List Deferred} {a : Act} (f : Fits e n ds a) (h : ∀ t v, e'.get t = some v → e.get t = some v) : Fits e' n ds a := ⟨f.defers, f.size, fun t v hv => f.get t v (h t v hv)⟩
theorem pureN_app {P : Program} {n : Nat} {ops : Array Oper} : ∀ (m : Nat) (L : List (Nat × Bool)) (e : Env) {L₁ : List (Nat × Bool)} {e₁ : Env}, pureN P n ops m L e = some (L₁, e₁) → L₁ = L.drop m ∧ ∃ D, e₁ = D ++ e
  | 0, L, e, _, _, h => by simp only [pureN, Option.some.injEq, Prod.mk.injEq] at h; obtain ⟨rfl, rfl⟩ := h; exact ⟨rfl, [], rfl⟩
  | _ + 1, [], e, _, _, h => by simp [pureN] at h
  | m + 1, (j, b) :: L, e, _, _, h => by
    have put : ∀ (d : Option Tmp) (v : Value) {D : Env} {e₁ : Env}, e₁ = D ++ e.putO d v → ∃ D', e₁ = D' ++ e := fun d v D e₁ h => by
      cases d with
      | none => exact ⟨D, h⟩
      | some t => exact ⟨D ++ [(t, v)], by rw [h]; simp [Env.putO]⟩
    simp only [pureN] at h
    split at h
    · cases h
    · split at h
      · split at h
        · cases h
        · obtain ⟨h1, D, h2⟩ := pureN_app m L _ h; exact ⟨h1, put _ _ h2⟩
        · split at h
          · split at h
            · obtain ⟨h1, D, h2⟩ := pureN_app m L _ h; exact ⟨h1, put _ _ h2⟩
            · cases h
          · cases h
      · cases h
section
variable {C : Ctx} {ds : List Deferred} {i : Nat} {r : Heap} {M : Nat → Prop} {L : List (Nat × Bool)} {e : Env} {h : Heap}
theorem Op.sub {e' : Env} (hs : ∀ t v, e'.get t = some v → e.get t = some v) (K : Op C ds i r M L e' h) : Op C ds i r M L e h := fun a w f is hk => K a w (f.sub hs) is hk
theorem Op.px (m : Nat) (N : Env) (K : Op C ds i r M (L.drop m) (N ++ e) h)
    (hp : (pureN C.P C.n (regOps (pt C.code i)) m L e).map (fun x => Env.news x.2 e N) = some (N.map (fun p => some p.2), true) := by kernel_rfl) : Op C ds i r M L e h := by
  obtain ⟨⟨L₁, e₁⟩, h1, h2⟩ := Option.map_eq_some_iff.1 hp
  obtain ⟨rfl, D, rfl⟩ := pureN_app m L e h1
  exact Op.run_pure h1 (Op.sub (fun t v hv => Env.news_get h2 t v hv) K)
theorem Op.pg (j : Nat) (N : Env) (K : At C ds j (N ++ e) h)
    (hp : (pureN C.P C.n (regOps (pt C.code i)) L.length L e).map (fun x => Env.news x.2 e N) = some (N.map (fun p => some p.2), true) := by kernel_rfl) (hj : norm 1000 (pt C.code i).tail = pt C.code j := by kernel_rfl) : Op C ds i r M L e h := by
  refine Op.px L.length N ?_ hp
  rw [List.drop_length]
  exact Op.goto j hj K
theorem Op.gt (j : Nat) (K : At C ds j e h) (hj : norm 1000 (pt C.code i).tail = pt C.code j := by kernel_rfl) : Op C ds i r M [] e h := Op.goto j hj K
theorem At.rg (n : Nat) (K : Op C ds i #[] (fun _ => True) (rl n 0) e h) (hL : plainL (pt C.code i) = some (rl n 0) := by kernel_rfl) : At C ds i e h := At.reg hL K
theorem At.rp (n m : Nat) (N : Env) (K : Op C ds i #[] (fun _ => True) ((rl n 0).drop m) (N ++ e) h) (hL : plainL (pt C.code i) = some (rl n 0) := by kernel_rfl)
    (hp : (pureN C.P C.n (regOps (pt C.code i)) m (rl n 0) e).map (fun x => Env.news x.2 e N) = some (N.map (fun p => some p.2), true) := by kernel_rfl) : At C ds i e h := At.reg hL (Op.px m N K hp)
theorem At.go (j n : Nat) (N : Env) (K : At C ds j (N ++ e) h) (hL : plainL (pt C.code i) = some (rl n 0) := by kernel_rfl)
    (hp : (pureN C.P C.n (regOps (pt C.code i)) (rl n 0).length (rl n 0) e).map (fun x => Env.news x.2 e N) = some (N.map (fun p => some p.2), true) := by kernel_rfl) (hj : norm 1000 (pt C.code i).tail = pt C.code j := by kernel_rfl) : At C ds i e h :=
  At.reg hL (Op.pg j N K hp hj)
theorem covers_of {e : Env} {t : Nat} {v : Value} (h : e.get t = some v) : e.covers (.tmp t) = true := by simp [Env.covers, h]
theorem ev_of {e : Env} {t : Nat} {v : Value} (h : e.get t = some v) : e.ev (.tmp t) = v := by simp [Env.ev, h]
theorem At.if' (b : Bool) (t jt jf : Nat) (ht : b = true → At C ds jt e h) (hf : b = false → At C ds jf e h) (hc : condOp (pt C.code i) = some (.tmp t) := by kernel_rfl) (hv : e.get t = some (.bool b) := by kernel_rfl)
    (h1 : norm 1000 (Sw.condT (pt C.code i)) = pt C.code jt := by kernel_rfl) (h2 : norm 1000 (Sw.condF (pt C.code i)) = pt C.code jf := by kernel_rfl) : At C ds i e h := At.cond hc (covers_of hv) (ev_of hv) jt jf h1 h2 ht hf
theorem At.ifT (t jt : Nat) (K : At C ds jt e h) (hc : condOp (pt C.code i) = some (.tmp t) := by kernel_rfl) (hv : e.get t = some (.bool true) := by kernel_rfl) (h1 : norm 1000 (Sw.condT (pt C.code i)) = pt C.code jt := by kernel_rfl) : At C ds i e h :=
  At.condT hc (covers_of hv) (ev_of hv) jt h1 K
theorem At.ifF (t jf : Nat) (K : At C ds jf e h) (hc : condOp (pt C.code i) = some (.tmp t) := by kernel_rfl) (hv : e.get t = some (.bool false) := by kernel_rfl) (h1 : norm 1000 (Sw.condF (pt C.code i)) = pt C.code jf := by kernel_rfl) : At C ds i e h :=
  At.condF hc (covers_of hv) (ev_of hv) jf h1 K
theorem Op.sb (k : Nat) {b v : Bool} (hb : b = v) (K : Op C ds i r M L ((k, .bool v) :: e) h) (hv : e.get k = some (.bool b) := by kernel_rfl) : Op C ds i r M L e h := by
  subst hb
  refine Op.sub (fun t u hu => ?_) K
  by_cases hk : k = t
  · subst hk; simp [Env.get] at hu; rw [hv, hu]
  · rw [Env.get, beqF hk] at hu; exact hu
theorem Op.wb (b : Bool) (k : Nat) (ht : b = true → Op C ds i r M L ((k, .bool true) :: e) h) (hf : b = false → Op C ds i r M L ((k, .bool false) :: e) h) (hv : e.get k = some (.bool b) := by kernel_rfl) : Op C ds i r M L e h := by
  cases b with
  | true => exact Op.sb k rfl (ht rfl) hv
  | false => exact Op.sb k rfl (hf rfl) hv
theorem kp_get {e e' : Env} (hp : e'.map (fun p => e.get p.1) = e'.map (fun p => some p.2)) (t : Nat) (v : Value) (hv : e'.get t = some v) : e.get t = some v := by
  induction e' with
  | nil => cases hv
  | cons p e' ih =>
    obtain ⟨k, w⟩ := p
    simp only [List.map_cons, List.cons.injEq] at hp
    by_cases hk : k = t
    · subst hk; simp [Env.get] at hv; rw [hp.1, hv]
    · rw [Env.get, beqF hk] at hv; exact ih hp.2 hv
theorem At.kp (e' : Env) (K : At C ds i e' h) (hp : e'.map (fun p => e.get p.1) = e'.map (fun p => some p.2) := by kernel_rfl) : At C ds i e h := fun a w f is => K a w (f.sub (kp_get hp)) is
theorem Op.kp (e' : Env) (K : Op C ds i r M L e' h) (hp : e'.map (fun p => e.get p.1) = e'.map (fun p => some p.2) := by kernel_rfl) : Op C ds i r M L e h := Op.sub (kp_get hp) K
variable {j : Nat} {Ls : List (Nat × Bool)} {h0 : Heap} {g0 : GH} {S0 : Nat → Prop} {g : GH} {Lk : List Chunk}
theorem Op.c1 (d : Nat) {f : FuncId} {args : Array Value} {V : Value} (H : Spec C.P C.B f args h g [] (fun rv g' L' => rv = V ∧ g' = g ∧ L' = [])) (s : St h0 g0 S0 g Lk h)
    (K : ∀ h', St h0 g0 S0 g Lk h' → Op C ds i r M Ls ((d, V) :: e) h') (ho : enterOf C i j e = some (some d, f, args) := by kernel_rfl) : Op C ds i r M ((j, false) :: Ls) e h := by
  refine Op.call0 ho s H ?_
  rintro _ g' _ h' hle s' ⟨rfl, rfl, rfl⟩
  exact K h' s'
theorem Op.c0 (d : Option Nat) {f : FuncId} {args : Array Value} {Post : Value → GH → List Chunk → Prop} (H : Spec C.P C.B f args h g [] Post) (s : St h0 g0 S0 g Lk h)
    (K : ∀ v g' Lc' h', gle g g' → St h0 g0 S0 g' (Lc' ++ Lk) h' → Post v g' Lc' → Op C ds i r M Ls (e.putO d v) h') (ho : enterOf C i j e = some (d, f, args) := by kernel_rfl) : Op C ds i r M ((j, false) :: Ls) e h := Op.call0 ho s H K
theorem Op.ld {n : Nat} (T : TypeId) (x : Operand) (d o : Nat) (v : Value) {b : Nat} {cs : Array Value} {U : TypeId} {fz : Nat × Nat} (hb : h[b]? = some (.cells cs U fz))
    (K : Op C ds i r M Ls ((d, v) :: e) h) (hv : cs[o]? = some v := by kernel_rfl) (ho : nextDO C i j e = some (some d, .load T x) := by kernel_rfl) (hx : e.ev x = .pointer (some ⟨b, o, none⟩) := by kernel_rfl)
    (hT : shapeT C.P T = some (false, 1) := by kernel_rfl) : Op C ds i r M ((j, false) :: Ls) e h := Op.load ho hx hT hb hv K
theorem Op.la (T : TypeId) (x : Operand) (d o n : Nat) (vs : List Value) {b : Nat} {cs : Array Value} {U : TypeId} {fz : Nat × Nat} (hb : h[b]? = some (.cells cs U fz))
    (K : Op C ds i r M Ls ((d, .agg vs.toArray) :: e) h) (hv : cut cs o n = vs := by kernel_rfl) (ho : nextDO C i j e = some (some d, .load T x) := by kernel_rfl) (hx : e.ev x = .pointer (some ⟨b, o, none⟩) := by kernel_rfl)
    (hT : shapeT C.P T = some (true, n) := by kernel_rfl) (hl : vs.length = n := by rfl) : Op C ds i r M ((j, false) :: Ls) e h := Op.loadA ho hx hT hb hv hl K
theorem Op.s1 (T : TypeId) (x y : Operand) (o : Nat) (v : Value) (k : Nat) (cs' : Array Value) {b : Nat} {cs : Array Value} {U : TypeId} (s : St h0 g0 S0 g Lk h) (hM : b < r.size → M b)
    (K : ∀ h', St h0 g0 S0 g (Lk.set k [(b, .cells cs' U (0, 0))]) h' → Op C ds i r M Ls e h') (hk : Lk[k]? = some [(b, .cells cs U (0, 0))] := by rfl) (hv : v.oneCell' = true := by rfl)
    (ho : nextDO C i j e = some (none, .store T x y) := by kernel_rfl) (hx : e.ev x = .pointer (some ⟨b, o, none⟩) := by kernel_rfl) (hy : (e.ev y).cells.toList = [v] := by kernel_rfl)
    (hT : shapeT C.P T = some (false, 1) := by kernel_rfl) (hfit : Nat.ble (o + 1) cs.size = true := by kernel_rfl) (hcs : splice cs o [v] = cs' := by kernel_rfl) : Op C ds i r M ((j, false) :: Ls) e h :=
  Op.store ho hx hy hT rfl (fun u hu => by rw [List.mem_singleton.1 hu]; exact hv) s k hk (Nat.le_of_ble_eq_true hfit) hcs hM K
theorem Op.al (d : Nat) (T : TypeId) (cs : Array Value) (s : St h0 g0 S0 g Lk h) (K : ∀ b h', St h0 g0 S0 g ([(b, .cells cs T (0, 0))] :: Lk) h' → Op C ds i r M Ls ((d, .pointer (some ⟨b, 0, none⟩)) :: e) h')
    (ho : nextDO C i j e = some (some d, .alloc T) := by kernel_rfl) (hz : (C.P.info? T).bind (fun t => t.zero.map Value.cells) = some cs := by kernel_rfl) : Op C ds i r M ((j, false) :: Ls) e h := Op.alloc ho hz s K
theorem Op.vl (d : Nat) (v v' : Value) {b : Bool} (hv : v = v') (K : Op C ds i r M Ls ((d, v') :: e) h) (ho : valOf C i j e = some (some d, v) := by kernel_rfl) : Op C ds i r M ((j, b) :: Ls) e h := Op.val ho hv K
theorem Op.v64 (d : Nat) (n : Int) {b : Bool} (h0 : -9223372036854775808 ≤ n) (h1 : n ≤ 9223372036854775807) (K : Op C ds i r M Ls ((d, .int .i64 n) :: e) h) (ho : valOf C i j e = some (some d, .int .i64 (IntKind.wrap .i64 n)) := by kernel_rfl) :
    Op C ds i r M ((j, b) :: Ls) e h := Op.val ho (wrapEq_i64 h0 h1) K
theorem Op.si (T : TypeId) (x ix : Operand) (d : Nat) (l : List UInt8) (n : Int) {c : UInt8} {b : Bool} (h0 : 0 ≤ n) (hc : l[n.toNat]? = some c) (K : Op C ds i r M Ls ((d, .int .u8 c.toNat) :: e) h)
    (ho : nextDO C i j e = some (some d, .index T x ix) := by kernel_rfl) (hT : C.P.underlying T = some .string := by kernel_rfl) (hx : e.ev x = .string (mkS l) := by kernel_rfl) (hix : e.ev ix = .int .i64 n := by kernel_rfl) :
    Op C ds i r M ((j, b) :: Ls) e h := Op.strIdx ho hT hx hix h0 hc K
theorem Op.ix (T E : TypeId) (sz by_ : Nat) (n c : Nat) (x ix : Operand) (d bk o : Nat) (m : Int) {b : Bool} (h0 : 0 ≤ m) (h1 : m < n) (K : Op C ds i r M Ls ((d, .pointer (some ⟨bk, o + m.toNat * sz, none⟩)) :: e) h)
    (ho : nextDO C i j e = some (some d, .indexAddr T x ix) := by kernel_rfl) (hE : elemI C.P T = some (E, sz, by_) := by kernel_rfl) (hx : e.ev x = .slice (some ⟨bk, o, none⟩) n c := by kernel_rfl) (hix : e.ev ix = .int .i64 m := by kernel_rfl) :
    Op C ds i r M ((j, b) :: Ls) e h := Op.idx ho hE hx hix h0 h1 K
theorem Op.sa (T T' : TypeId) (x y : Operand) (d : Nat) (l m : List UInt8) {b : Bool} (hl : l.length + m.length ≤ 9223372036854775807) (K : Op C ds i r M Ls ((d, .string (mkS (l ++ m))) :: e) h)
    (ho : nextDO C i j e = some (some d, .binOp .add T x y T') := by kernel_rfl) (hx : e.ev x = .string (mkS l) := by kernel_rfl) (hy : e.ev y = .string (mkS m) := by kernel_rfl) : Op C ds i r M ((j, b) :: Ls) e h := Op.strAdd ho hx hy hl K
theorem Op.sv {ky : IntKind} (T T' : TypeId) (x y : Operand) (d : Nat) (a n v : Int) {b : Bool} (h0 : 0 ≤ n) (hv : Value.int .i64 (IntKind.wrap .i64 (a * 2 ^ (min n.toNat (IntKind.bits .i64)))) = .int .i64 v) (K : Op C ds i r M Ls ((d, .int .i64 v) :: e) h)
    (ho : nextDO C i j e = some (some d, .binOp .shl T x y T') := by kernel_rfl) (hx : e.ev x = .int .i64 a := by kernel_rfl) (hy : e.ev y = .int ky n := by kernel_rfl) : Op C ds i r M ((j, b) :: Ls) e h := by
  refine Op.free ho (fun o ho w => ?_) (by rw [← hv] at K; exact K)
  simp only [execOp, ho, hx, hy, eqGuard, Sem.run_bind, Sem.run_pure]
  have hn : ¬ n < 0 := by omega
  simp only [binOp, Op.shift, hn, if_false, Sem.run_pure, Bool.not_false, if_true, Result.andThen_ok]
end
theorem At.rt {P : Program} {B : World} {fn : FuncId} {f : Func} {R : Value → Heap → Prop} {i : Nat} {e : Env} {h : Heap} (v : Value) (H : R v h) (hi : isEnd (pt (codeOf f) i) = true := by kernel_rfl)
    (hv : retVal f e = some v := by kernel_rfl) : At (fctx P B fn f R) [] i e h := At.ret hi hv H
theorem Spec.at' {P : Program} {B : World} {fn : FuncId} {f : Func} {args : Array Value} {h : Heap} {g : GH} {Lc : List Chunk} {Post : Value → GH → List Chunk → Prop} (hf : P.funcs[fn]? = some f)
    (H : ∀ R : Value → Heap → Prop, (∀ v h' g' Lc', St h g (ids Lc) g' Lc' h' → Post v g' Lc' → R v h') → At (fctx P B fn f R) [] 0 (argEnv args.toList 0) h) (hb : f.body.isSome = true := by kernel_rfl) (hn : Nat.ble args.size f.ntmps = true := by kernel_rfl)
    (h0 : norm 1000 [.code (codeR f)] = pt (codeOf f) 0 := by kernel_rfl) : Spec P B fn args h g Lc Post := Spec.of_at hf hb (Nat.le_of_ble_eq_true hn) rfl h0 H
def cat : List Chunk → Chunk
  | [] => []
  | [c] => c
  | c :: L => c ++ cat L
theorem cat_flat : ∀ L : List Chunk, cat L = L.flatten
  | [] => rfl
  | [c] => by simp [cat]
  | c :: d :: L => by show c ++ cat (d :: L) = _; rw [cat_flat (d :: L), List.flatten_cons, List.flatten_cons]; rfl
def pk : List Chunk → Chunk
  | [p] :: L => p :: cat L
  | L => cat L
theorem pk_flat (L : List Chunk) : pk L = L.flatten := by
  rcases L with _ | ⟨c, L⟩
  · rfl
  · rcases c with _ | ⟨p, c⟩
    · exact cat_flat _
    · rcases c with _ | ⟨q, c⟩
      · show p :: cat L = _; rw [cat_flat, List.flatten_cons]; rfl
      · exact cat_flat _
section
variable {h0 : Heap} {g0 : GH} {S0 : Nat → Prop} {g : GH} {L : List Chunk} {h : Heap}
theorem St.nl (s : St h0 g0 S0 g L h) : St h0 g0 S0 g ([] :: L) h := St.flat (L := L) rfl s
theorem St.pack {Q : Chunk → Prop} (n : Nat) (s : St h0 g0 S0 g L h) (hx : Q (pk (L.take n))) : ∃ c, Q c ∧ St h0 g0 S0 g (c :: L.drop n) h :=
  ⟨_, hx, St.flat (by rw [List.flatten_cons, pk_flat, ← List.flatten_append, List.take_append_drop]) s⟩
end
theorem getAt {α : Type} {l : List α} {i : Int} (h : i.toNat < l.length) : ∃ c, l[i.toNat]? = some c := ⟨_, List.getElem?_eq_getElem h⟩
end Go.Proofs.YtmjebehhpojihaaGreatDoor.Sw
namespace Go.Proofs.YtmjebehhpojihaaGreatDoor.Sw
open Go
structure Leaf where
  Path : List UInt8
  Data : List UInt8
  Version : Int
  Owner : Int
  Next : Int
  Born : Int
  deriving DecidableEq
structure L10Op where
  What : Int
  Owner : Int
  Born : Int
  N : Int
  Path : List UInt8
  Data : List UInt8
  Numbered : Bool
  deriving DecidableEq
structure R10Tree where
  All : List Leaf
  deriving DecidableEq
end Go.Proofs.YtmjebehhpojihaaGreatDoor.Sw
namespace Go.Proofs.YtmjebehhpojihaaGreatDoor.Sw
set_option linter.unusedVariables false
set_option linter.unusedSimpArgs false
set_option linter.deprecated false
open Go
theorem bl_irr : ∀ a : List UInt8, Go.Op.bytesLess a a = false
  | [] => rfl
  | c :: a => by simp [Go.Op.bytesLess, bl_irr a]
theorem bl_trans : ∀ {a b c : List UInt8}, Go.Op.bytesLess a b = true → Go.Op.bytesLess b c = true → Go.Op.bytesLess a c = true
  | _, _, [], _, h => by simp [Go.Op.bytesLess] at h
  | _, [], _ :: _, h, _ => by simp [Go.Op.bytesLess] at h
  | [], _ :: _, _ :: _, _, _ => rfl
  | x :: a, y :: b, z :: c, h, k => by
    simp only [Go.Op.bytesLess, Bool.or_eq_true, decide_eq_true_eq, Bool.and_eq_true, beq_iff_eq] at *
    rcases h with h | ⟨rfl, h⟩
    · rcases k with k | ⟨rfl, k⟩
      · exact .inl (UInt8.lt_trans h k)
      · exact .inl h
    · rcases k with k | ⟨rfl, k⟩
      · exact .inl k
      · exact .inr ⟨rfl, bl_trans h k⟩
theorem bl_tri : ∀ {a b : List UInt8}, Go.Op.bytesLess a b = false → Go.Op.bytesLess b a = false → a = b
  | [], [], _, _ => rfl
  | [], _ :: _, h, _ => by simp [Go.Op.bytesLess] at h
  | _ :: _, [], _, h => by simp [Go.Op.bytesLess] at h
  | x :: a, y :: b, h, k => by
    simp only [Go.Op.bytesLess, Bool.or_eq_false_iff, decide_eq_false_iff_not, Bool.and_eq_false_iff, beq_eq_false_iff_ne] at *
    obtain ⟨h1, h2⟩ := h
    obtain ⟨k1, k2⟩ := k
    have hxy : x = y := UInt8.le_antisymm (UInt8.not_lt.1 k1) (UInt8.not_lt.1 h1)
    subst hxy
    rw [bl_tri (h2.resolve_left (fun h => h rfl)) (k2.resolve_left (fun h => h rfl))]
theorem bl_ne {a b : List UInt8} (h : Go.Op.bytesLess a b = true) : a ≠ b := fun e => by rw [e, bl_irr] at h; cases h
end Go.Proofs.YtmjebehhpojihaaGreatDoor.Sw
namespace Go.Proofs.YtmjebehhpojihaaGreatDoor.Sw
set_option linter.unusedVariables false
set_option linter.unusedSimpArgs false
set_option linter.deprecated false
open Go
abbrev Str := List UInt8
def lt8 (a b : Str) : Bool := Go.Op.bytesLess a b
def findL (ns : List Leaf) (p : Str) : Option Leaf := ns.find? fun n => decide (n.Path = p)
def SortL (ns : List Leaf) : Prop := ns.Pairwise fun a b => lt8 a.Path b.Path = true
def insL (l : Leaf) : List Leaf → List Leaf
  | [] => [l]
  | n :: ns => if lt8 l.Path n.Path = true then l :: n :: ns else n :: insL l ns
def delL (ns : List Leaf) (p : Str) : List Leaf := ns.filter fun n => !decide (n.Path = p)
def withL (ns : List Leaf) (l : Leaf) : List Leaf := insL l (delL ns l.Path)
def kidB (p : Str) (n : Leaf) : Bool := decide (cutErr n.Path = 0) && decide (parentOf n.Path = p)
def kidsL (ns : List Leaf) (p : Str) : List Str := (ns.filter (kidB p)).map (·.Path)
def leaf0 : Leaf := ⟨[], [], 0, 0, 0, 0⟩
def getT (ns : List Leaf) (p : Str) : Leaf × Int :=
  if pErr p = 0 then match findL ns p with
    | none => (leaf0, 100)
    | some l => (l, 0)
  else (leaf0, pErr p)
def dropT (ns : List Leaf) (p : Str) (ver : Int) : List Leaf × Int :=
  if cutErr p ≠ 0 then (ns, cutErr p)
  else match findL ns p with
    | none => (ns, 100)
    | some l => if ver ≥ 0 ∧ l.Version ≠ ver then (ns, 102) else if kidsL ns p ≠ [] then (ns, 103) else (delL ns p, 0)
def setT (ns : List Leaf) (p data : Str) (ver : Int) : List Leaf × Int × Int :=
  if pErr p ≠ 0 then (ns, 0, pErr p)
  else match findL ns p with
    | none => (ns, 0, 100)
    | some l => if ver ≥ 0 ∧ l.Version ≠ ver then (ns, 0, 102) else if data.length > 128 then (ns, 0, 104)
      else (withL ns { l with Data := data, Version := IntKind.wrap .i64 (l.Version + 1) }, IntKind.wrap .i64 (l.Version + 1), 0)
theorem SortL.nodup {ns : List Leaf} (h : SortL ns) : (ns.map (·.Path)).Nodup := by
  rw [List.Nodup, List.pairwise_map]
  exact h.imp fun hl => bl_ne hl
theorem findL_some {ns : List Leaf} {p : Str} {l : Leaf} (h : findL ns p = some l) : l ∈ ns ∧ l.Path = p :=
  ⟨List.mem_of_find?_eq_some h, by simpa using List.find?_some h⟩
theorem findL_none {ns : List Leaf} {p : Str} : findL ns p = none ↔ ∀ n ∈ ns, n.Path ≠ p := by
  unfold findL; simp
theorem findL_of {ns : List Leaf} (hn : (ns.map (·.Path)).Nodup) {l : Leaf} (h : l ∈ ns) : findL ns l.Path = some l := by
  induction ns with
  | nil => cases h
  | cons n ns ih =>
    rw [List.map_cons, List.nodup_cons] at hn
    unfold findL
    rw [List.find?_cons]
    rcases List.mem_cons.1 h with rfl | h
    · simp
    · have : n.Path ≠ l.Path := fun e => hn.1 (e ▸ List.mem_map.2 ⟨l, h, rfl⟩)
      simp only [this, decide_false]
      exact ih hn.2 h
theorem findL_perm {ms ns : List Leaf} (hp : ms.Perm ns) (hn : (ns.map (·.Path)).Nodup) (p : Str) : findL ms p = findL ns p := by
  have hm : (ms.map (·.Path)).Nodup := (hp.map _).nodup_iff.2 hn
  cases h : findL ns p with
  | none => exact findL_none.2 fun n hn' => findL_none.1 h n (hp.mem_iff.1 hn')
  | some l =>
    obtain ⟨h1, rfl⟩ := findL_some h
    exact findL_of hm (hp.mem_iff.2 h1)
theorem insL_perm (l : Leaf) : ∀ ns : List Leaf, (insL l ns).Perm (l :: ns)
  | [] => List.Perm.refl _
  | n :: ns => by
    unfold insL
    split
    · exact List.Perm.refl _
    · exact ((insL_perm l ns).cons n).trans (List.Perm.swap _ _ _)
theorem insL_sort {l : Leaf} : ∀ {ns : List Leaf}, SortL ns → (∀ n ∈ ns, n.Path ≠ l.Path) → SortL (insL l ns)
  | [], _, _ => by simp [insL, SortL]
  | n :: ns, h, hne => by
    have h' := List.pairwise_cons.1 h
    unfold insL
    split
    · rename_i hlt
      refine List.pairwise_cons.2 ⟨fun x hx => ?_, h⟩
      rcases List.mem_cons.1 hx with rfl | hx
      · exact hlt
      · exact bl_trans hlt (h'.1 x hx)
    · rename_i hlt
      have hlt : lt8 n.Path l.Path = true := by
        cases hk : lt8 n.Path l.Path with
        | true => rfl
        | false => exact absurd (bl_tri hk (Bool.eq_false_iff.2 hlt)) (hne n (.head _))
      refine List.pairwise_cons.2 ⟨fun x hx => ?_, insL_sort h'.2 fun m hm => hne m (.tail _ hm)⟩
      have := (insL_perm l ns).mem_iff.1 hx
      rcases List.mem_cons.1 this with rfl | hx
      · exact hlt
      · exact h'.1 x hx
theorem delL_sort {ns : List Leaf} (h : SortL ns) (p : Str) : SortL (delL ns p) := List.Pairwise.sublist List.filter_sublist h
theorem delL_ne {ns : List Leaf} {p : Str} : ∀ n ∈ delL ns p, n.Path ≠ p := fun n hn => by
  unfold delL at hn
  rw [List.mem_filter] at hn
  simpa using hn.2
theorem withL_sort {ns : List Leaf} (h : SortL ns) (l : Leaf) : SortL (withL ns l) := insL_sort (delL_sort h _) delL_ne
theorem withL_perm (ns : List Leaf) (l : Leaf) : (withL ns l).Perm (l :: delL ns l.Path) := insL_perm l _
theorem delL_none {ns : List Leaf} {p : Str} (h : findL ns p = none) : delL ns p = ns := by
  unfold delL
  rw [List.filter_eq_self]
  intro n hn
  simpa using findL_none.1 h n hn
def findE (ns : List Leaf) (p : Str) : Int := if pErr p ≠ 0 then pErr p else match findL ns p with
  | none => 100
  | some _ => 0
theorem findE_3 {ns : List Leaf} {p : Str} {l : Leaf} (h : pErr p = 0) (h2 : findL ns p = some l) : findE ns p = 0 := by unfold findE; rw [if_neg (by simpa using h), h2]
theorem getT_2 {ns : List Leaf} {p : Str} {l : Leaf} (h : findE ns p = 0) (h2 : findL ns p = some l) : getT ns p = (l, 0) := by
  unfold findE at *; unfold getT
  by_cases hp : pErr p = 0
  · rw [if_pos hp, h2]
  · rw [if_pos hp] at h; exact absurd h hp
def TreeB (ns : List Leaf) : Prop := ns.length ≤ 1000 ∧ ∀ n ∈ ns, n.Path.length ≤ 64 ∧ n.Data.length ≤ 128 ∧ -9223372036854775808 ≤ n.Next ∧ n.Next ≤ 9223372036854775807
theorem TreeB.data {ns : List Leaf} (h : TreeB ns) {p : Str} {l : Leaf} (hf : findL ns p = some l) : l.Data.length ≤ 128 := (h.2 l (findL_some hf).1).2.1
theorem TreeB.next {ns : List Leaf} (h : TreeB ns) {p : Str} {l : Leaf} (hf : findL ns p = some l) : -9223372036854775808 ≤ l.Next ∧ l.Next ≤ 9223372036854775807 := (h.2 l (findL_some hf).1).2.2
section
variable {ns : List Leaf} {p data q : Str} {owner born : Int} {num : Bool} {up : Leaf}
end
theorem pOk_len {p : Str} (h : pOk p = true) : p.length ≤ 64 := by
  rcases Nat.lt_or_ge 64 p.length with hl | hl
  · rw [pOk_long hl] at h; cases h
  · exact hl
end Go.Proofs.YtmjebehhpojihaaGreatDoor.Sw
namespace Go.Proofs.YtmjebehhpojihaaGreatDoor.Sw
set_option linter.unusedVariables false
set_option linter.unusedSimpArgs false
set_option linter.deprecated false
open Go
section
variable {h0 : Heap} {g0 : GH} {S0 : Nat → Prop} {g : GH} {L L' : List Chunk} {h : Heap}
end
abbrev cellsL (l : Leaf) (v : Value) : Array Value := #[.string (mkS l.Path), v, .int .i64 l.Version, .int .i64 l.Owner, .int .i64 l.Next, .int .i64 l.Born]
abbrev TL : TypeId := 59
abbrev TT : TypeId := 128
structure LMem where
  b : Nat
  l : Leaf
  v : Value
  c : Chunk
def ksOf (ms : List LMem) : List (Str × Value) := ms.map fun m => (m.l.Path, .pointer (some ⟨m.b, 0, none⟩))
def chM (m : LMem) : Chunk := (m.b, .cells (cellsL m.l m.v) TL (0, 0)) :: m.c
def flM (ms : List LMem) : Chunk := (ms.map chM).flatten
def RowsM (ms : List LMem) : Prop := ∀ m ∈ ms, Row 5 kU8 (fun _ => none) m.v m.l.Data m.c
def LmOk (es : Array MapEntry) (clk : Nat) (ms : List LMem) (ns : List Leaf) : Prop := MapR encS es clk (ksOf ms) ∧ (ms.map (·.l)).Perm ns ∧ SortL ns ∧ ∀ n ∈ ns, n.Path.length ≤ 64
def IsLm (g : GH) (mb : Nat) (ns : List Leaf) (c : Chunk) : Prop := ∃ es clk ms, c.Perm ((mb, .map es clk) :: flM ms) ∧ LmOk es clk ms ns ∧ RowsM ms
theorem IsLm.flat {g g' : GH} {mb : Nat} {ns : List Leaf} {c : Chunk} (h : IsLm g mb ns c) : IsLm g' mb ns c := h
theorem IsLm.mono {g g' : GH} {mb : Nat} {ns : List Leaf} {c : Chunk} (h : IsLm g mb ns c) (hg : gle g g') : IsLm g' mb ns c := h
theorem IsLm.eq {g : GH} {mb : Nat} {ns ns' : List Leaf} {c : Chunk} (h : IsLm g mb ns c) (e : ns = ns') : IsLm g mb ns' c := e ▸ h
def VLm (g : GH) (mb : Nat) (ns : List Leaf) : Prop := ∃ es clk ms, g mb = some (.map es clk) ∧ LmOk es clk ms ns ∧ ∀ m ∈ ms, g m.b = some (.cells (cellsL m.l m.v) TL (0, 0)) ∧ SlR g 5 kU8 m.v m.l.Data
theorem VLm.mono {g g' : GH} {mb : Nat} {ns : List Leaf} (h : VLm g mb ns) (hg : gle g g') : VLm g' mb ns := by
  obtain ⟨es, clk, ms, h1, h2, h3⟩ := h
  exact ⟨es, clk, ms, hg _ _ h1, h2, fun m hm => ⟨hg _ _ (h3 m hm).1, (h3 m hm).2.mono hg⟩⟩
def VTree (g : GH) (b : Nat) (ns : List Leaf) : Prop := ∃ mb, g b = some (.cells #[.map (some mb)] TT (0, 0)) ∧ VLm g mb ns
theorem VTree.mono {g g' : GH} {b : Nat} {ns : List Leaf} (h : VTree g b ns) (hg : gle g g') : VTree g' b ns := by
  obtain ⟨mb, h1, h2⟩ := h
  exact ⟨mb, hg _ _ h1, h2.mono hg⟩
def LeafAt (g : GH) (mb : Nat) (l : Leaf) (b : Nat) : Prop := ∃ es clk, g mb = some (.map es clk) ∧ ∃ e ∈ es.toList, e.key = encS l.Path ∧ e.val = .pointer (some ⟨b, 0, none⟩)
theorem LeafAt.mono {g g' : GH} {mb : Nat} {l : Leaf} {b : Nat} (h : LeafAt g mb l b) (hg : gle g g') : LeafAt g' mb l b := by
  obtain ⟨es, clk, h1, h2⟩ := h
  exact ⟨es, clk, hg _ _ h1, h2⟩
section
variable {g : GH} {mb : Nat} {ns : List Leaf} {es : Array MapEntry} {clk : Nat} {ms : List LMem}
theorem ks_look (hn : (ms.map (·.l.Path)).Nodup) (p : Str) : (findL (ms.map (·.l)) p = none ∧ lookK (ksOf ms) p = none) ∨ ∃ m ∈ ms, findL (ms.map (·.l)) p = some m.l ∧ lookK (ksOf ms) p = some (.pointer (some ⟨m.b, 0, none⟩)) := by
  cases h : findL (ms.map (·.l)) p with
  | none =>
    refine .inl ⟨rfl, lookK_none fun q hq => ?_⟩
    obtain ⟨m, hm, rfl⟩ := List.mem_map.1 hq
    exact findL_none.1 h m.l (List.mem_map.2 ⟨m, hm, rfl⟩)
  | some l =>
    obtain ⟨h1, rfl⟩ := findL_some h
    obtain ⟨m, hm, rfl⟩ := List.mem_map.1 h1
    refine .inr ⟨m, hm, rfl, ?_⟩
    obtain ⟨j, hj⟩ := List.mem_iff_getElem?.1 hm
    have hk : (ksOf ms)[j]? = some (m.l.Path, .pointer (some ⟨m.b, 0, none⟩)) := by simp [ksOf, hj]
    have hn' : ((ksOf ms).map (·.1)).Nodup := by simpa [ksOf, List.map_map, Function.comp_def] using hn
    exact lookK_at hn' hk
theorem LmOk.nodup (h : LmOk es clk ms ns) : (ms.map (·.l.Path)).Nodup := by
  have := (h.2.1.map (·.Path)).nodup_iff.2 h.2.2.1.nodup
  simpa [List.map_map, Function.comp_def] using this
theorem LmOk.look (h : LmOk es clk ms ns) (p : Str) : (findL ns p = none ∧ lookK (ksOf ms) p = none) ∨ ∃ m ∈ ms, findL ns p = some m.l ∧ lookK (ksOf ms) p = some (.pointer (some ⟨m.b, 0, none⟩)) := by
  rw [← findL_perm h.2.1 h.2.2.1.nodup p]
  exact ks_look h.nodup p
theorem LmOk.isSome (h : LmOk es clk ms ns) (p : Str) : (lookK (ksOf ms) p).isSome = (findL ns p).isSome := by
  rcases h.look p with ⟨h1, h2⟩ | ⟨m, _, h1, h2⟩ <;> simp [h1, h2]
theorem LmOk.len (h : LmOk es clk ms ns) : (ksOf ms).length = ns.length := by
  have := h.2.1.length_eq
  simpa [ksOf] using this
end
section
variable {h0 : Heap} {g0 : GH} {S0 : Nat → Prop} {g : GH} {L : List Chunk} {h : Heap} {C c : Chunk} {mb : Nat} {ns : List Leaf}
theorem flM_mem {ms : List LMem} {m : LMem} (hm : m ∈ ms) {p : Nat × Obj} (hp : p ∈ chM m) : p ∈ flM ms := List.mem_flatten.2 ⟨_, List.mem_map.2 ⟨m, hm, rfl⟩, hp⟩
theorem IsLm.frz (H : IsLm g mb ns c) (s : St h0 g0 S0 g (C :: L) h) (hc : ∀ p ∈ c, p ∈ C) : VLm (gadd g C) mb ns := by
  obtain ⟨es, clk, ms, hp, hok, hr⟩ := H
  have hin : ∀ p ∈ (mb, .map es clk) :: flM ms, p ∈ C := fun p hp' => hc p (hp.mem_iff.2 hp')
  refine ⟨es, clk, ms, gadd_mem s.keys (hin _ (.head _)), hok, fun m hm => ⟨gadd_mem s.keys (hin _ (.tail _ (flM_mem hm (.head _)))), ?_⟩⟩
  have hrow : Row 5 kU8 g m.v m.l.Data m.c := (hr m hm).flat (fun _ _ _ _ h => h)
  exact hrow.frzIn s fun p hp' => hin p (.tail _ (flM_mem hm (.tail _ hp')))
end
end Go.Proofs.YtmjebehhpojihaaGreatDoor.Sw
namespace Go.Proofs.YtmjebehhpojihaaGreatDoor.Sw
set_option linter.unusedVariables false
set_option linter.unusedSimpArgs false
set_option linter.deprecated false
open Go Go.Sort Go.Proofs
theorem St.grow {h0 : Heap} {g0 : GH} {S0 : Nat → Prop} {g : GH} {L : List Chunk} {h : Heap} (s : St h0 g0 S0 g L h) (os : Array Obj) : St h0 g0 S0 g L (h ++ os) := by
  have old : ∀ b, b < h.size → (h ++ os)[b]? = h[b]? := fun b hb => by rw [Array.getElem?_append, if_pos hb]
  exact ⟨by have := s.size; simp; omega, fun b hb hs => (old b (Nat.lt_of_lt_of_le hb s.size)).trans (s.frame b hb hs), s.le, s.new,
    fun b x hb => (old b (s.sub.lt hb)).trans (s.sub b x hb), fun p hp => (old _ (s.lt hp)).trans (s.has p hp), s.nodup, s.sep, s.own⟩
end Go.Proofs.YtmjebehhpojihaaGreatDoor.Sw
namespace Go.Proofs.YtmjebehhpojihaaGreatDoor.Sw
set_option linter.unusedVariables false
set_option linter.unusedSimpArgs false
set_option linter.deprecated false
open Go
theorem minEq {k : IntKind} (x y : Int) : Value.int k (if y < x then y else x) = Value.int k (min x y) := by
  congr 1
  split <;> omega
def enS (_ : GH) (x : Str) (a : Array Value) : Prop := a = #[.string (mkS x)]
def pre1 {α : Type} (go : List α → Bool) (xs : List α) : Prop := ∀ ys, ys <+: xs → ys ≠ xs → go ys = true
theorem pre_0 {α : Type} (go : List α → Bool) : pre1 go [] := fun ys h hn => absurd (List.prefix_nil.1 h) hn
theorem pre_step {α : Type} {go : List α → Bool} {xs : List α} {x : α} (h : pre1 go xs) (hg : go xs = true) : pre1 go (xs ++ [x]) := by
  intro ys hy hn
  rcases List.prefix_concat_iff.1 hy with e | hy
  · exact absurd e hn
  · by_cases hx : ys = xs
    · rw [hx]; exact hg
    · exact h ys hy hx
theorem perm_step {α : Type} {vs rs a b ks : List α} {x : α} (h : (vs ++ rs).Perm ks) (e : rs = a ++ x :: b) : ((vs ++ [x]) ++ (a ++ b)).Perm ks := by
  refine List.Perm.trans ?_ h
  rw [e, List.append_assoc]
  exact List.Perm.append_left _ (List.perm_middle.symm : (x :: (a ++ b)).Perm (a ++ x :: b))
theorem VLm.sort {g : GH} {mb : Nat} {ns : List Leaf} (h : VLm g mb ns) : SortL ns := by
  obtain ⟨_, _, _, _, h2, _⟩ := h
  exact h2.2.2.1
theorem VTree.sort {g : GH} {b : Nat} {ns : List Leaf} (h : VTree g b ns) : SortL ns := by
  obtain ⟨_, _, h2⟩ := h
  exact h2.sort
abbrev gE : GH := fun _ => none
theorem gadd_le {g : GH} {d : Chunk} (hs : ∀ p ∈ d, g p.1 = none) : gle (gadd gE d) (gadd g d) := by
  intro b o h
  unfold gadd at *
  cases hf : d.find? (fun p => Nat.beq p.1 b) with
  | none => rw [hf] at h; cases h
  | some p => rw [hf] at h; exact h
theorem Deep.freeze {h0 : Heap} {g0 : GH} {S0 : Nat → Prop} {g : GH} {L : List Chunk} {h : Heap} {α : Type} {T : TypeId} {d : Kd α} {v : Value} {xs : List α} {c dc : Chunk} (hr : Row T d (gadd gE dc) v xs c) (s : St h0 g0 S0 g (c :: dc :: L) h) :
    ∃ g', St h0 g0 S0 g' L h ∧ gle g g' ∧ SlR g' T d v xs := by
  have s1 := s.perm (L' := dc :: c :: L) (List.Perm.swap _ _ _)
  obtain ⟨s2, hl2⟩ := St.freeze s1
  have hr2 : Row T d (gadd g dc) v xs c := hr.mono (gadd_le fun p hp => s1.sep p (by simp [hp]))
  obtain ⟨g', s3, hl3, hs⟩ := Row.freeze hr2 s2
  exact ⟨g', s3, hl2.trans hl3, hs⟩
end Go.Proofs.YtmjebehhpojihaaGreatDoor.Sw
namespace Go.Proofs.YtmjebehhpojihaaGreatDoor.Sw
set_option linter.unusedVariables false
set_option linter.unusedSimpArgs false
set_option linter.deprecated false
open Go
section
variable {C : Ctx} {ds : List Deferred} {i j : Nat} {r : Heap} {M : Nat → Prop} {Ls : List (Nat × Bool)} {e : Env} {h : Heap}
variable {h0 : Heap} {g0 : GH} {S0 : Nat → Prop} {g : GH} {L : List Chunk}
end
theorem Deep.row {h0 : Heap} {g0 : GH} {S0 : Nat → Prop} {g : GH} {L : List Chunk} {h : Heap} {α : Type} {T : TypeId} {d : Kd α} {v : Value} {xs : List α} {c dc : Chunk} (hr : Row T d (gadd gE dc) v xs c) (s : St h0 g0 S0 g (c :: dc :: L) h) :
    ∃ g', St h0 g0 S0 g' (c :: L) h ∧ gle g g' ∧ Row T d g' v xs c := by
  have s1 := s.perm (L' := dc :: c :: L) (List.Perm.swap _ _ _)
  obtain ⟨s2, hl2⟩ := St.freeze s1
  exact ⟨_, s2, hl2, hr.mono (gadd_le fun p hp => s1.sep p (by simp [hp]))⟩
end Go.Proofs.YtmjebehhpojihaaGreatDoor.Sw
