/- The symbolic walk, part 12: results that lie in memory. Own text. -/
import Derived.Test.YtphonojjgnbpfaaDoorSwEq
namespace Go.Proofs.YtphonojjgnbpfaaDoor.Sw
set_option linter.unusedVariables false
set_option linter.unusedSimpArgs false
set_option linter.deprecated false
open Go
def ResAll (P : Program) (e : Env) (h : Heap) : List ResultVar → List Value → Prop
  | [], [] => True
  | .tmp t :: l, v :: vs => e.get t = some v ∧ ResAll P e h l vs
  | .cell c T :: l, v :: vs => (∃ b o, e.get c = some (.pointer (some ⟨b, o, none⟩)) ∧ ∀ w : World, w.heap = h → (loadVar T ⟨b, o, none⟩).run P w = .ok v w) ∧ ResAll P e h l vs
  | _, _ => False
theorem resAgg {P : Program} {h : Heap} {T : TypeId} {b o n : Nat} {vs : List Value} {cs : Array Value} {U : TypeId} {fz : Nat × Nat} (hT : shapeT P T = some (true, n)) (hb : h[b]? = some (.cells cs U fz)) (hv : cut cs o n = vs) (hl : vs.length = n) :
    ∀ w : World, w.heap = h → (loadVar T ⟨b, o, none⟩).run P w = .ok (.agg vs.toArray) w :=
  fun w hw => run_loadVar_agg hT hl fun k v hk => by rw [cell_of hw]; exact cut_at hv hb k v hk
theorem resOne {P : Program} {h : Heap} {T : TypeId} {b o n : Nat} {v : Value} {cs : Array Value} {U : TypeId} {fz : Nat × Nat} (hT : shapeT P T = some (false, n)) (hb : h[b]? = some (.cells cs U fz)) (hv : cs[o]? = some v) :
    ∀ w : World, w.heap = h → (loadVar T ⟨b, o, none⟩).run P w = .ok v w :=
  fun w hw => run_loadVar_one hT (by rw [cell_of hw, hcell_row hb, hv])
theorem results_all {P : Program} {f : Func} {a : Act} {e : Env} {n : Nat} {ds : List Deferred} {h : Heap} (ft : Fits e n ds a) {vs : List Value} (hv : ResAll P e h f.results.toList vs) (w : World) (hw : w.heap = h) :
    (results f a.tmps).run P w = .ok (if hs : vs.toArray.size = 1 then vs.toArray[0] else .tuple vs.toArray) w := by
  have key : ∀ (g : ResultVar → Sem Value), (∀ t, g (.tmp t) = pure (a.tmps.getD t undef)) → (∀ c t, g (.cell c t) = do loadVar t (← asAddr (a.tmps.getD c undef))) → ∀ (l : List ResultVar) (vs : List Value), ResAll P e h l vs → (l.mapM g).run P w = .ok vs w := by
    intro g hg hg2 l
    induction l with
    | nil =>
      intro vs h
      cases vs with
      | nil => rfl
      | cons => simp [ResAll] at h
    | cons x l ih =>
      intro vs hh
      rw [List.mapM_cons]
      cases vs with
      | nil => cases x <;> simp [ResAll] at hh
      | cons v vs =>
        cases x with
        | tmp t =>
          have h1 := ft.get t v hh.1
          simp only [Sem.run_bind, hg, Sem.run_pure, Result.andThen_ok, ih vs hh.2]
          simp [h1]
        | cell c t =>
          obtain ⟨⟨b, o, h1, h2⟩, h3⟩ := hh
          have h4 := ft.get c _ h1
          have h5 : a.tmps.getD c undef = .pointer (some ⟨b, o, none⟩) := by simp [h4]
          simp only [Sem.run_bind, hg2, h5, asAddr, Sem.run_pure, Result.andThen_ok, h2 w hw, ih vs h3]
  have harr : ∀ (g : ResultVar → Sem Value) (vs : List Value), (f.results.toList.mapM g).run P w = .ok vs w → (f.results.mapM g).run P w = .ok vs.toArray w := by
    intro g vs h
    rw [Array.mapM_eq_mapM_toList]
    simp only [Sem.run_map, h, Result.andThen_ok]
  unfold results
  rw [Sem.run_bind]
  exact (congrArg (fun r => Result.andThen r _) (harr _ _ (key _ (fun _ => rfl) (fun _ _ => rfl) _ _ hv))).trans rfl
theorem At.retM {P : Program} {B : World} {fn : FuncId} {f : Func} {R : Value → Heap → Prop} {i : Nat} {e : Env} {h : Heap} {v : Value} {vs : List Value} {rl : List ResultVar}
    (hi : isEnd (pt (codeOf f) i) = true) (hr : f.results.toList = rl) (hv : ResAll P e h rl vs) (hv2 : (if hs : vs.toArray.size = 1 then vs.toArray[0] else .tuple vs.toArray) = v) (H : R v h) : At (fctx P B fn f R) [] i e h := by
  intro a w ft is
  subst hv2
  subst hr
  show RunK P none fn (fnQ P B f R) (pt (codeOf f) i) a w
  have hq : ∀ j, (j = none ∨ j = some .ret) → fnQ P B f R j a w := fun j hj =>
    ⟨hj, w, _, by rw [ft.defers]; exact .nil w, results_all ft hv w is.heap, is.again, by rw [is.heap]; exact H⟩
  generalize pt (codeOf f) i = k at *
  unfold isEnd at hi
  split at hi
  · exact .leave .fin (hq _ (.inl rfl))
  · exact .leave (.ret _) (hq _ (.inr rfl))
  · cases hi
end Go.Proofs.YtphonojjgnbpfaaDoor.Sw
