/- Walks of the functions that are named below: what each computes, as plain Lean words. Printed by a program of our own. -/
import Derived.Test.YtphonojjgnbpfaaDoorSwPath1
import Derived.Test.YtphonojjgnbpfaaDoorSwPathQ
namespace Go.Proofs.YtphonojjgnbpfaaDoor.Sw
open Go
set_option maxRecDepth 100000
set_option linter.unusedVariables false
set_option linter.unusedSimpArgs false
set_option linter.deprecated false


/-- stanchion/stanchionref00.SameTexts -/
theorem sameTexts (B : World) (h : Heap) (g : GH) (hg : Sub g h) (hG : Glob g) (v_a : Value) (a : List (List UInt8)) (h_a : SlR g 9 kStr v_a a) (v_b : Value) (b : List (List UInt8)) (h_b : SlR g 9 kStr v_b b) (h1 : a.length ≤ 1000000000) :
    Spec Tryd.prog B 26 #[v_a, v_b] h g [] (fun rv g' L' => rv = .bool (decide (a = b)) ∧ g' = g ∧ L' = []) := by
  obtain ⟨a_a, n_a, rfl⟩ := h_a.form
  obtain ⟨a_b, n_b, rfl⟩ := h_b.form
  refine Spec.of_at (f := Tryd.f26) (e := [(0, .slice a_a a.length n_a), (1, .slice a_b b.length n_b)]) Tryd.func26 (by kernel_rfl) (Nat.le_of_ble_eq_true (by kernel_rfl)) (by kernel_rfl) (by kernel_rfl) ?_
  intro R hR
  have s0 := St.init hg
  refine At.reg (L := [(0, false)]) (by kernel_rfl) ?_
  refine Op.pures 1 [0, 1] (L' := []) (e' := [(0, .slice a_a a.length n_a), (1, .slice a_b b.length n_b)]) (by kernel_rfl) ?_
  refine Op.goto 1 (by kernel_rfl) ?_
  refine At.reg (L := [(0, false), (1, false), (2, false), (3, false), (4, false)]) (by kernel_rfl) ?_
  refine Op.pures 5 [0, 1, 10] (L' := []) (e' := [(0, .slice a_a a.length n_a), (1, .slice a_b b.length n_b), (10, .bool ((a.length : Int) != (b.length : Int)))]) (by kernel_rfl) ?_
  refine Op.goto 2 (by kernel_rfl) ?_
  refine At.cond (b := (a.length : Int) != (b.length : Int)) (c := .tmp 10) (by kernel_rfl) (by kernel_rfl) (by kernel_rfl) 3 5 (by kernel_rfl) (by kernel_rfl) (fun hb => ?_) (fun hb => ?_)
  · have c198 : ¬ ((a.length : Int) = (b.length : Int)) := bneT hb
    clear hb
    refine At.keep [] ?_; show At _ _ _ [] _
    refine At.reg (L := [(0, false)]) (by kernel_rfl) ?_
    refine Op.pures 1 [4] (L' := []) (e' := [(4, .bool false)]) (by kernel_rfl) ?_
    refine Op.goto 4 (by kernel_rfl) ?_
    refine At.ret (f := Tryd.f26) (v := .bool false) (by kernel_rfl) (by kernel_rfl) ?_
    refine hR _ _ _ _ s0 ⟨?_, rfl, rfl⟩
    exact (eqB (by exact sameE_len (by assumption)))
  · have c199 : (a.length : Int) = (b.length : Int) := bneF hb
    clear hb
    refine At.keep [0, 1] ?_; show At _ _ _ [(0, .slice a_a a.length n_a), (1, .slice a_b b.length n_b)] _
    refine At.reg (L := [(0, false)]) (by kernel_rfl) ?_
    refine Op.pures 1 [0, 1, 5] (L' := []) (e' := [(0, .slice a_a a.length n_a), (1, .slice a_b b.length n_b), (5, .int .i64 0)]) (by kernel_rfl) ?_
    refine Op.goto 6 (by kernel_rfl) ?_
    have loop6 : ∀ (m : Nat) (i : Int) (h200 : Heap) (hm : a.length - i.toNat < m) (h0 : 0 ≤ i) (h2 : i ≤ a.length) (ht : a.take i.toNat = b.take i.toNat)    (s_loop6199 : St h g (ids []) g [] h200), At (fctx Tryd.prog B 26 Tryd.f26 R) [] 6 [(0, .slice a_a a.length n_a), (1, .slice a_b b.length n_b), (5, .int .i64 i)] h200 := by
      intro m; induction m with
      | zero => intros; omega
      | succ m ih6 =>
        intro i h200 hm h0 h2 ht s_loop6199
        refine At.reg (L := [(0, false), (1, false), (2, false), (3, false)]) (by kernel_rfl) ?_
        refine Op.pures 4 [0, 1, 5, 14] (L' := []) (e' := [(0, .slice a_a a.length n_a), (1, .slice a_b b.length n_b), (5, .int .i64 i), (14, .bool (decide (i < (a.length : Int))))]) (by kernel_rfl) ?_
        refine Op.goto 7 (by kernel_rfl) ?_
        refine At.cond (b := decide (i < (a.length : Int))) (c := .tmp 14) (by kernel_rfl) (by kernel_rfl) (by kernel_rfl) 8 13 (by kernel_rfl) (by kernel_rfl) (fun hb => ?_) (fun hb => ?_)
        · have c201 : i < (a.length : Int) := of_decide_eq_true hb
          clear hb
          refine At.keep [0, 1, 5] ?_; show At _ _ _ [(0, .slice a_a a.length n_a), (1, .slice a_b b.length n_b), (5, .int .i64 i)] _
          refine At.draw (by kernel_rfl) (fun _ => False) [(0, true), (1, true), (2, true), (4, true), (5, true), (6, true), (3, true), (7, false), (8, true)] (by kernel_rfl) ?_
          refine Op.pures 2 [0, 1, 5, 17, 18] (L' := [(2, true), (4, true), (5, true), (6, true), (3, true), (7, false), (8, true)]) (e' := [(0, .slice a_a a.length n_a), (1, .slice a_b b.length n_b), (5, .int .i64 i), (17, .slice a_a a.length n_a), (18, .int .i64 i)]) (by kernel_rfl) ?_
          obtain ⟨x202, hx203⟩ : ∃ c, a[(i : Int).toNat]? = some c := ⟨_, List.getElem?_eq_getElem (by omega)⟩
          obtain ⟨b204, o205, cu206, fz207, ha208, hb209, hk210⟩ := SlR.at_ h_a _ hx203
          cases ha208
          refine Op.idx (T := 37) (E := 9) (sz := 1) (by_ := 16) (n := a.length) (c := n_a) (k := .i64) (x := (.tmp 17)) (ix := (.tmp 18)) (dst := 19) (bk := b204) (o := o205) (m := i) (by kernel_rfl) (by kernel_rfl) (by kernel_rfl) (by kernel_rfl) (by omega) (by omega) ?_
          replace hk210 : cut _ _ _ = [.string (mkS x202)] := hk210
          refine Op.pures 2 [0, 1, 5, 19, 21, 22] (L' := [(6, true), (3, true), (7, false), (8, true)]) (e' := [(0, .slice (some ⟨b204, o205, none⟩) a.length n_a), (1, .slice a_b b.length n_b), (5, .int .i64 i), (19, .pointer (some ⟨b204, o205 + (i : Int).toNat * 1, none⟩)), (21, .slice a_b b.length n_b), (22, .int .i64 i)]) (by kernel_rfl) ?_
          obtain ⟨x211, hx212⟩ : ∃ c, b[(i : Int).toNat]? = some c := ⟨_, List.getElem?_eq_getElem (by omega)⟩
          obtain ⟨b213, o214, cu215, fz216, ha217, hb218, hk219⟩ := SlR.at_ h_b _ hx212
          cases ha217
          refine Op.idx (T := 37) (E := 9) (sz := 1) (by_ := 16) (n := b.length) (c := n_b) (k := .i64) (x := (.tmp 21)) (ix := (.tmp 22)) (dst := 23) (bk := b213) (o := o214) (m := i) (by kernel_rfl) (by kernel_rfl) (by kernel_rfl) (by kernel_rfl) (by omega) (by omega) ?_
          replace hk219 : cut _ _ _ = [.string (mkS x211)] := hk219
          refine Op.loadF (T := 9) (x := (.tmp 19)) (o := o205 + (i : Int).toNat * 1) (d := 20) (n := 1) (v := .string (mkS x202)) (by kernel_rfl) (by kernel_rfl) (by kernel_rfl) (fun h => h) (s_loop6199.sub _ _ hb209) (cut_get hk210 0 rfl) ?_
          refine Op.load (T := 9) (x := (.tmp 23)) (o := o214 + (i : Int).toNat * 1) (d := 24) (n := 1) (v := .string (mkS x211)) (by kernel_rfl) (by kernel_rfl) (by kernel_rfl) (s_loop6199.sub _ _ hb218) (cut_get hk219 0 rfl) ?_
          refine Op.val (dst := some 25) (v := .bool (!((mkS x202).toList == (mkS x211).toList))) (v' := .bool (!(x202 == x211))) (by kernel_rfl) (by rw [toList_mkS, toList_mkS]) ?_
          refine Op.goto 9 (by kernel_rfl) ?_
          refine At.cond (b := !(x202 == x211)) (c := .tmp 25) (by kernel_rfl) (by kernel_rfl) (by kernel_rfl) 10 12 (by kernel_rfl) (by kernel_rfl) (fun hb => ?_) (fun hb => ?_)
          · have c220 : ¬ (x202 = x211) := neF (notT hb)
            clear hb
            refine At.keep [] ?_; show At _ _ _ [] _
            refine At.reg (L := [(0, false)]) (by kernel_rfl) ?_
            refine Op.pures 1 [4] (L' := []) (e' := [(4, .bool false)]) (by kernel_rfl) ?_
            refine Op.goto 11 (by kernel_rfl) ?_
            refine At.ret (f := Tryd.f26) (v := .bool false) (by kernel_rfl) (by kernel_rfl) ?_
            refine hR _ _ _ _ s_loop6199 ⟨?_, rfl, rfl⟩
            exact (eqB (by exact sameE_ne hx203 hx212 c220))
          · have c221 : x202 = x211 := eq_of_beq (notF hb)
            clear hb
            refine At.keep [0, 1, 5] ?_; show At _ _ _ [(0, .slice (some ⟨b204, o205, none⟩) a.length n_a), (1, .slice (some ⟨b213, o214, none⟩) b.length n_b), (5, .int .i64 i)] _
            refine At.reg (L := [(0, false), (1, false), (2, false)]) (by kernel_rfl) ?_
            refine Op.pures 1 [0, 1, 5, 15] (L' := [(1, false), (2, false)]) (e' := [(0, .slice (some ⟨b204, o205, none⟩) a.length n_a), (1, .slice (some ⟨b213, o214, none⟩) b.length n_b), (5, .int .i64 i), (15, .int .i64 i)]) (by kernel_rfl) ?_
            refine Op.val (dst := some 16) (v := .int .i64 (IntKind.wrap .i64 (i + 1))) (v' := .int .i64 (i + 1)) (by kernel_rfl) (wrapEq_i64 (by omega) (by omega)) ?_
            refine Op.pures 1 [0, 1, 5] (L' := []) (e' := [(0, .slice (some ⟨b204, o205, none⟩) a.length n_a), (1, .slice (some ⟨b213, o214, none⟩) b.length n_b), (5, .int .i64 (i + 1))]) (by kernel_rfl) ?_
            refine Op.goto 6 (by kernel_rfl) ?_
            exact ih6  (i + 1) _ (by omega) (by omega) (by omega) (by exact take_step ht h0 hx203 hx212 c221)  s_loop6199
        · have c222 : ¬ (i < (a.length : Int)) := of_decide_eq_false hb
          clear hb
          refine At.keep [] ?_; show At _ _ _ [] _
          refine At.reg (L := [(0, false)]) (by kernel_rfl) ?_
          refine Op.pures 1 [4] (L' := []) (e' := [(4, .bool true)]) (by kernel_rfl) ?_
          refine Op.goto 14 (by kernel_rfl) ?_
          refine At.ret (f := Tryd.f26) (v := .bool true) (by kernel_rfl) (by kernel_rfl) ?_
          refine hR _ _ _ _ s_loop6199 ⟨?_, rfl, rfl⟩
          exact (eqB (by exact sameE_end (by assumption) c222 ht))
    exact loop6 _  0 _ (Nat.lt_succ_self _) (by omega) (by omega) (by rfl)  s0

/-- stanchion/stanchionref00.CopyTexts -/
theorem copyTexts (B : World) (h : Heap) (g : GH) (hg : Sub g h) (hG : Glob g) (v_s : Value) (s : List (List UInt8)) (h_s : SlR g 9 kStr v_s s) (h1 : s.length ≤ 1000000000) :
    Spec Tryd.prog B 23 #[v_s] h g [] (fun rv g' L' => ∃ v0, rv = v0 ∧ SlR g' 9 kStr v0 s ∧ L' = []) := by
  obtain ⟨a_s, n_s, rfl⟩ := h_s.form
  refine Spec.of_at (f := Tryd.f23) (e := [(0, .slice a_s s.length n_s)]) Tryd.func23 (by kernel_rfl) (Nat.le_of_ble_eq_true (by kernel_rfl)) (by kernel_rfl) (by kernel_rfl) ?_
  intro R hR
  have s0 := St.init hg
  refine At.reg (L := [(0, false)]) (by kernel_rfl) ?_
  refine Op.pures 1 [0] (L' := []) (e' := [(0, .slice a_s s.length n_s)]) (by kernel_rfl) ?_
  refine Op.goto 1 (by kernel_rfl) ?_
  refine At.reg (L := [(0, false), (1, false)]) (by kernel_rfl) ?_
  refine Op.lit (T := 37) (len := 0) (parts := #[]) (dst := 4) (E := 9) (ps := []) (cs := #[]) (by kernel_rfl) (by kernel_rfl) (by kernel_rfl) s0 ?_
  intro b223 h224 s225
  refine Op.pures 1 [0, 3] (L' := []) (e' := [(0, .slice a_s s.length n_s), (3, .slice (some ⟨b223, 0, none⟩) 0 0)]) (by kernel_rfl) ?_
  refine Op.goto 2 (by kernel_rfl) ?_
  refine At.reg (L := [(0, false), (1, false), (2, false), (3, false)]) (by kernel_rfl) ?_
  refine Op.pures 2 [3, 5, 6] (L' := [(2, false), (3, false)]) (e' := [(3, .slice (some ⟨b223, 0, none⟩) 0 0), (5, .slice (some ⟨b223, 0, none⟩) 0 0), (6, .slice a_s s.length n_s)]) (by kernel_rfl) ?_
  have R226 : Row 9 kStr g (.slice (some ⟨b223, 0, none⟩) 0 0) ([] : List (List UInt8)) [(b223, Obj.cells #[] 9 (0, 0))] := Row.lit (by kernel_rfl) (by unfold maxLen; decide) (by kernel_rfl) Reads.nil
  obtain ⟨ns227, hs228, hr229⟩ := Src.slice (P := Tryd.prog) (h_s.toH s225.sub)
  refine Op.append (x := (.tmp 5)) (y := (.tmp 6)) (t := 37) (t' := 37) (dst := 7) (E := 9) (by_ := 16) (d := kStr) (by kernel_rfl) (by kernel_rfl) (by kernel_rfl) (by kernel_rfl) rfl R226 s225 0 rfl hs228 (ys := s) hr229 rfl (by first | omega | (simp only [List.length_append, List.length_cons, List.length_nil, List.length_take, List.length_drop]; omega)) (fun _ _ _ => trivial) ?_
  intro v230 ch231 h232 R233 s234 nn235
  obtain ⟨a236, n237, rfl⟩ := R233.form
  refine Op.pures 1 [3] (L' := []) (e' := [(3, .slice a236 ((([] : List (List UInt8)) ++ s).length) n237)]) (by kernel_rfl) ?_
  refine Op.goto 3 (by kernel_rfl) ?_
  refine At.reg (L := [(0, false), (1, false)]) (by kernel_rfl) ?_
  refine Op.pures 2 [2] (L' := []) (e' := [(2, .slice a236 ((([] : List (List UInt8)) ++ s).length) n237)]) (by kernel_rfl) ?_
  refine Op.goto 4 (by kernel_rfl) ?_
  obtain ⟨g238, s239, hle240, hf241⟩ := Row.freeze R233 (s234.front 0 rfl)
  replace hG := hG.mono hle240
  refine At.ret (f := Tryd.f23) (v := .slice a236 ((([] : List (List UInt8)) ++ s).length) n237) (by kernel_rfl) (by kernel_rfl) ?_
  refine hR _ _ _ _ s239 ⟨(.slice a236 ((([] : List (List UInt8)) ++ s).length) n237), ?_, ?_, rfl⟩
  · exact rfl
  · exact slEq hf241 (by simp)

/-- stanchion/stanchionref09.part -/
theorem partR (B : World) (h : Heap) (g : GH) (hg : Sub g h) (hG : Glob g) (s : List UInt8) (hlen : s.length ≤ 1000000000) :
    Spec Tryd.prog B 69 #[.string (mkS s)] h g [] (fun rv g' L' => rv = .bool (okPart s) ∧ g' = g ∧ L' = []) := by
  refine Spec.of_at (f := Tryd.f69) (e := [(0, .string (mkS s))]) Tryd.func69 (by kernel_rfl) (Nat.le_of_ble_eq_true (by kernel_rfl)) (by kernel_rfl) (by kernel_rfl) ?_
  intro R hR
  have s0 := St.init hg
  refine At.reg (L := [(0, false)]) (by kernel_rfl) ?_
  refine Op.pures 1 [0] (L' := []) (e' := [(0, .string (mkS s))]) (by kernel_rfl) ?_
  refine Op.goto 1 (by kernel_rfl) ?_
  refine At.reg (L := [(0, false)]) (by kernel_rfl) ?_
  refine Op.pures 1 [0, 3] (L' := []) (e' := [(0, .string (mkS s)), (3, .int .i64 0)]) (by kernel_rfl) ?_
  refine Op.goto 2 (by kernel_rfl) ?_
  have loop2 : ∀ (m : Nat) (i : Int) (h242 : Heap) (hm : s.length - i.toNat < m) (h0 : 0 ≤ i) (h2 : i ≤ s.length) (ha : allTo s i)    (s_loop2241 : St h g (ids []) g [] h242), At (fctx Tryd.prog B 69 Tryd.f69 R) [] 2 [(0, .string (mkS s)), (3, .int .i64 i)] h242 := by
    intro m; induction m with
    | zero => intros; omega
    | succ m ih2 =>
      intro i h242 hm h0 h2 ha s_loop2241
      refine At.reg (L := [(0, false), (1, false), (2, false), (3, false)]) (by kernel_rfl) ?_
      refine Op.pures 4 [0, 3, 8] (L' := []) (e' := [(0, .string (mkS s)), (3, .int .i64 i), (8, .bool (decide (i < (s.length : Int))))]) (by kernel_rfl) ?_
      refine Op.goto 3 (by kernel_rfl) ?_
      refine At.cond (b := decide (i < (s.length : Int))) (c := .tmp 8) (by kernel_rfl) (by kernel_rfl) (by kernel_rfl) 4 10 (by kernel_rfl) (by kernel_rfl) (fun hb => ?_) (fun hb => ?_)
      · have c243 : i < (s.length : Int) := of_decide_eq_true hb
        clear hb
        refine At.keep [0, 3] ?_; show At _ _ _ [(0, .string (mkS s)), (3, .int .i64 i)] _
        refine At.reg (L := [(0, false), (1, false), (2, false), (3, false)]) (by kernel_rfl) ?_
        refine Op.pures 2 [0, 3, 11, 12] (L' := [(2, false), (3, false)]) (e' := [(0, .string (mkS s)), (3, .int .i64 i), (11, .string (mkS s)), (12, .int .i64 i)]) (by kernel_rfl) ?_
        obtain ⟨x244, hx245⟩ : ∃ c, s[(i : Int).toNat]? = some c := ⟨_, List.getElem?_eq_getElem (by omega)⟩
        refine Op.strIdx (T := 9) (k := .i64) (x := (.tmp 11)) (ix := (.tmp 12)) (dst := 13) (l := s) (n := i) (by kernel_rfl) (by kernel_rfl) (by kernel_rfl) (by kernel_rfl) (by omega) hx245 ?_
        refine Op.pures 1 [0, 3, 4] (L' := []) (e' := [(0, .string (mkS s)), (3, .int .i64 i), (4, .int .u8 (x244.toNat : Int))]) (by kernel_rfl) ?_
        refine Op.goto 5 (by kernel_rfl) ?_
        refine At.reg (L := [(0, false), (1, false), (2, false), (3, false), (4, false), (5, false), (6, false), (7, false), (8, false), (9, false), (10, false), (11, false), (12, false), (13, false), (14, false), (15, false), (16, false), (17, false), (18, false), (19, false), (20, false), (21, false), (22, false)]) (by kernel_rfl) ?_
        refine Op.pures 3 [0, 3, 4, 16] (L' := [(3, false), (4, false), (5, false), (6, false), (7, false), (8, false), (9, false), (10, false), (11, false), (12, false), (13, false), (14, false), (15, false), (16, false), (17, false), (18, false), (19, false), (20, false), (21, false), (22, false)]) (e' := [(0, .string (mkS s)), (3, .int .i64 i), (4, .int .u8 (x244.toNat : Int)), (16, .bool (decide ((x244.toNat : Int) ≥ (97 : Int))))]) (by kernel_rfl) ?_
        refine Op.ways (b := decide ((x244.toNat : Int) ≥ (97 : Int))) ⟨fun hb => ?_, fun hb => ?_⟩
        · refine Op.cast (e' := [(0, .string (mkS s)), (3, .int .i64 i), (4, .int .u8 (x244.toNat : Int)), (16, .bool true)]) (by rw [hb]) ?_
          have c246 : (x244.toNat : Int) ≥ (97 : Int) := of_decide_eq_true hb
          clear hb
          refine Op.pures 4 [0, 3, 4, 20] (L' := [(7, false), (8, false), (9, false), (10, false), (11, false), (12, false), (13, false), (14, false), (15, false), (16, false), (17, false), (18, false), (19, false), (20, false), (21, false), (22, false)]) (e' := [(0, .string (mkS s)), (3, .int .i64 i), (4, .int .u8 (x244.toNat : Int)), (20, .bool (decide ((x244.toNat : Int) ≤ (122 : Int))))]) (by kernel_rfl) ?_
          refine Op.ways (b := decide ((x244.toNat : Int) ≤ (122 : Int))) ⟨fun hb => ?_, fun hb => ?_⟩
          · refine Op.cast (e' := [(0, .string (mkS s)), (3, .int .i64 i), (4, .int .u8 (x244.toNat : Int)), (20, .bool true)]) (by rw [hb]) ?_
            have c247 : (x244.toNat : Int) ≤ (122 : Int) := of_decide_eq_true hb
            clear hb
            refine Op.pures 16 [0, 3, 36] (L' := []) (e' := [(0, .string (mkS s)), (3, .int .i64 i), (36, .bool false)]) (by kernel_rfl) ?_
            refine Op.goto 6 (by kernel_rfl) ?_
            refine At.condF (c := .tmp 36) (by kernel_rfl) (by kernel_rfl) (by kernel_rfl) 9 (by kernel_rfl) ?_
            refine At.reg (L := [(0, false), (1, false), (2, false)]) (by kernel_rfl) ?_
            refine Op.pures 1 [0, 3, 9] (L' := [(1, false), (2, false)]) (e' := [(0, .string (mkS s)), (3, .int .i64 i), (9, .int .i64 i)]) (by kernel_rfl) ?_
            refine Op.val (dst := some 10) (v := .int .i64 (IntKind.wrap .i64 (i + 1))) (v' := .int .i64 (i + 1)) (by kernel_rfl) (wrapEq_i64 (by omega) (by omega)) ?_
            refine Op.pures 1 [0, 3] (L' := []) (e' := [(0, .string (mkS s)), (3, .int .i64 (i + 1))]) (by kernel_rfl) ?_
            refine Op.goto 2 (by kernel_rfl) ?_
            exact ih2  (i + 1) _ (by omega) (by omega) (by omega) (by exact allTo_step ha hx245 (by simp [sgn]; omega) h0)  s_loop2241
          · refine Op.cast (e' := [(0, .string (mkS s)), (3, .int .i64 i), (4, .int .u8 (x244.toNat : Int)), (20, .bool false)]) (by rw [hb]) ?_
            have c248 : ¬ ((x244.toNat : Int) ≤ (122 : Int)) := of_decide_eq_false hb
            clear hb
            refine Op.pures 3 [0, 3, 4, 20, 23] (L' := [(10, false), (11, false), (12, false), (13, false), (14, false), (15, false), (16, false), (17, false), (18, false), (19, false), (20, false), (21, false), (22, false)]) (e' := [(0, .string (mkS s)), (3, .int .i64 i), (4, .int .u8 (x244.toNat : Int)), (20, .bool false), (23, .bool (decide ((x244.toNat : Int) ≥ (48 : Int))))]) (by kernel_rfl) ?_
            refine Op.ways (b := decide ((x244.toNat : Int) ≥ (48 : Int))) ⟨fun hb => ?_, fun hb => ?_⟩
            · refine Op.cast (e' := [(0, .string (mkS s)), (3, .int .i64 i), (4, .int .u8 (x244.toNat : Int)), (20, .bool false), (23, .bool true)]) (by rw [hb]) ?_
              have c249 : (x244.toNat : Int) ≥ (48 : Int) := of_decide_eq_true hb
              clear hb
              refine Op.pures 5 [0, 3, 4, 28] (L' := [(15, false), (16, false), (17, false), (18, false), (19, false), (20, false), (21, false), (22, false)]) (e' := [(0, .string (mkS s)), (3, .int .i64 i), (4, .int .u8 (x244.toNat : Int)), (28, .bool (decide ((x244.toNat : Int) ≤ (57 : Int))))]) (by kernel_rfl) ?_
              refine Op.ways (b := decide ((x244.toNat : Int) ≤ (57 : Int))) ⟨fun hb => ?_, fun hb => ?_⟩
              · refine Op.cast (e' := [(0, .string (mkS s)), (3, .int .i64 i), (4, .int .u8 (x244.toNat : Int)), (28, .bool true)]) (by rw [hb]) ?_
                have c250 : (x244.toNat : Int) ≤ (57 : Int) := of_decide_eq_true hb
                clear hb
                refine Op.pures 8 [0, 3, 36] (L' := []) (e' := [(0, .string (mkS s)), (3, .int .i64 i), (36, .bool false)]) (by kernel_rfl) ?_
                refine Op.goto 6 (by kernel_rfl) ?_
                refine At.condF (c := .tmp 36) (by kernel_rfl) (by kernel_rfl) (by kernel_rfl) 9 (by kernel_rfl) ?_
                refine At.reg (L := [(0, false), (1, false), (2, false)]) (by kernel_rfl) ?_
                refine Op.pures 1 [0, 3, 9] (L' := [(1, false), (2, false)]) (e' := [(0, .string (mkS s)), (3, .int .i64 i), (9, .int .i64 i)]) (by kernel_rfl) ?_
                refine Op.val (dst := some 10) (v := .int .i64 (IntKind.wrap .i64 (i + 1))) (v' := .int .i64 (i + 1)) (by kernel_rfl) (wrapEq_i64 (by omega) (by omega)) ?_
                refine Op.pures 1 [0, 3] (L' := []) (e' := [(0, .string (mkS s)), (3, .int .i64 (i + 1))]) (by kernel_rfl) ?_
                refine Op.goto 2 (by kernel_rfl) ?_
                exact ih2  (i + 1) _ (by omega) (by omega) (by omega) (by exact allTo_step ha hx245 (by simp [sgn]; omega) h0)  s_loop2241
              · refine Op.cast (e' := [(0, .string (mkS s)), (3, .int .i64 i), (4, .int .u8 (x244.toNat : Int)), (28, .bool false)]) (by rw [hb]) ?_
                have c251 : ¬ ((x244.toNat : Int) ≤ (57 : Int)) := of_decide_eq_false hb
                clear hb
                refine Op.pures 4 [0, 3, 4, 32] (L' := [(19, false), (20, false), (21, false), (22, false)]) (e' := [(0, .string (mkS s)), (3, .int .i64 i), (4, .int .u8 (x244.toNat : Int)), (32, .bool ((x244.toNat : Int) == (45 : Int)))]) (by kernel_rfl) ?_
                refine Op.ways (b := (x244.toNat : Int) == (45 : Int)) ⟨fun hb => ?_, fun hb => ?_⟩
                · refine Op.cast (e' := [(0, .string (mkS s)), (3, .int .i64 i), (4, .int .u8 (x244.toNat : Int)), (32, .bool true)]) (by rw [hb]) ?_
                  have c252 : (x244.toNat : Int) = (45 : Int) := eq_of_beq hb
                  clear hb
                  refine Op.pures 4 [0, 3, 36] (L' := []) (e' := [(0, .string (mkS s)), (3, .int .i64 i), (36, .bool false)]) (by kernel_rfl) ?_
                  refine Op.goto 6 (by kernel_rfl) ?_
                  refine At.condF (c := .tmp 36) (by kernel_rfl) (by kernel_rfl) (by kernel_rfl) 9 (by kernel_rfl) ?_
                  refine At.reg (L := [(0, false), (1, false), (2, false)]) (by kernel_rfl) ?_
                  refine Op.pures 1 [0, 3, 9] (L' := [(1, false), (2, false)]) (e' := [(0, .string (mkS s)), (3, .int .i64 i), (9, .int .i64 i)]) (by kernel_rfl) ?_
                  refine Op.val (dst := some 10) (v := .int .i64 (IntKind.wrap .i64 (i + 1))) (v' := .int .i64 (i + 1)) (by kernel_rfl) (wrapEq_i64 (by omega) (by omega)) ?_
                  refine Op.pures 1 [0, 3] (L' := []) (e' := [(0, .string (mkS s)), (3, .int .i64 (i + 1))]) (by kernel_rfl) ?_
                  refine Op.goto 2 (by kernel_rfl) ?_
                  exact ih2  (i + 1) _ (by omega) (by omega) (by omega) (by exact allTo_step ha hx245 (by simp [sgn]; omega) h0)  s_loop2241
                · refine Op.cast (e' := [(0, .string (mkS s)), (3, .int .i64 i), (4, .int .u8 (x244.toNat : Int)), (32, .bool false)]) (by rw [hb]) ?_
                  have c253 : ¬ ((x244.toNat : Int) = (45 : Int)) := neF hb
                  clear hb
                  refine Op.pures 4 [0, 3, 36] (L' := []) (e' := [(0, .string (mkS s)), (3, .int .i64 i), (36, .bool (!((x244.toNat : Int) == (95 : Int))))]) (by kernel_rfl) ?_
                  refine Op.goto 6 (by kernel_rfl) ?_
                  refine At.cond (b := !((x244.toNat : Int) == (95 : Int))) (c := .tmp 36) (by kernel_rfl) (by kernel_rfl) (by kernel_rfl) 7 9 (by kernel_rfl) (by kernel_rfl) (fun hb => ?_) (fun hb => ?_)
                  · have c254 : ¬ ((x244.toNat : Int) = (95 : Int)) := neF (notT hb)
                    clear hb
                    refine At.keep [] ?_; show At _ _ _ [] _
                    refine At.reg (L := [(0, false)]) (by kernel_rfl) ?_
                    refine Op.pures 1 [2] (L' := []) (e' := [(2, .bool false)]) (by kernel_rfl) ?_
                    refine Op.goto 8 (by kernel_rfl) ?_
                    refine At.ret (f := Tryd.f69) (v := .bool false) (by kernel_rfl) (by kernel_rfl) ?_
                    refine hR _ _ _ _ s_loop2241 ⟨?_, rfl, rfl⟩
                    exact (eqB (by exact part_bad hx245 (by simp [sgn]; omega)))
                  · have c255 : (x244.toNat : Int) = (95 : Int) := eq_of_beq (notF hb)
                    clear hb
                    refine At.keep [0, 3] ?_; show At _ _ _ [(0, .string (mkS s)), (3, .int .i64 i)] _
                    refine At.reg (L := [(0, false), (1, false), (2, false)]) (by kernel_rfl) ?_
                    refine Op.pures 1 [0, 3, 9] (L' := [(1, false), (2, false)]) (e' := [(0, .string (mkS s)), (3, .int .i64 i), (9, .int .i64 i)]) (by kernel_rfl) ?_
                    refine Op.val (dst := some 10) (v := .int .i64 (IntKind.wrap .i64 (i + 1))) (v' := .int .i64 (i + 1)) (by kernel_rfl) (wrapEq_i64 (by omega) (by omega)) ?_
                    refine Op.pures 1 [0, 3] (L' := []) (e' := [(0, .string (mkS s)), (3, .int .i64 (i + 1))]) (by kernel_rfl) ?_
                    refine Op.goto 2 (by kernel_rfl) ?_
                    exact ih2  (i + 1) _ (by omega) (by omega) (by omega) (by exact allTo_step ha hx245 (by simp [sgn]; omega) h0)  s_loop2241
            · refine Op.cast (e' := [(0, .string (mkS s)), (3, .int .i64 i), (4, .int .u8 (x244.toNat : Int)), (20, .bool false), (23, .bool false)]) (by rw [hb]) ?_
              have c256 : ¬ ((x244.toNat : Int) ≥ (48 : Int)) := of_decide_eq_false hb
              clear hb
              refine Op.pures 9 [0, 3, 4, 32] (L' := [(19, false), (20, false), (21, false), (22, false)]) (e' := [(0, .string (mkS s)), (3, .int .i64 i), (4, .int .u8 (x244.toNat : Int)), (32, .bool ((x244.toNat : Int) == (45 : Int)))]) (by kernel_rfl) ?_
              refine Op.ways (b := (x244.toNat : Int) == (45 : Int)) ⟨fun hb => ?_, fun hb => ?_⟩
              · refine Op.cast (e' := [(0, .string (mkS s)), (3, .int .i64 i), (4, .int .u8 (x244.toNat : Int)), (32, .bool true)]) (by rw [hb]) ?_
                have c257 : (x244.toNat : Int) = (45 : Int) := eq_of_beq hb
                clear hb
                refine Op.pures 4 [0, 3, 36] (L' := []) (e' := [(0, .string (mkS s)), (3, .int .i64 i), (36, .bool false)]) (by kernel_rfl) ?_
                refine Op.goto 6 (by kernel_rfl) ?_
                refine At.condF (c := .tmp 36) (by kernel_rfl) (by kernel_rfl) (by kernel_rfl) 9 (by kernel_rfl) ?_
                refine At.reg (L := [(0, false), (1, false), (2, false)]) (by kernel_rfl) ?_
                refine Op.pures 1 [0, 3, 9] (L' := [(1, false), (2, false)]) (e' := [(0, .string (mkS s)), (3, .int .i64 i), (9, .int .i64 i)]) (by kernel_rfl) ?_
                refine Op.val (dst := some 10) (v := .int .i64 (IntKind.wrap .i64 (i + 1))) (v' := .int .i64 (i + 1)) (by kernel_rfl) (wrapEq_i64 (by omega) (by omega)) ?_
                refine Op.pures 1 [0, 3] (L' := []) (e' := [(0, .string (mkS s)), (3, .int .i64 (i + 1))]) (by kernel_rfl) ?_
                refine Op.goto 2 (by kernel_rfl) ?_
                exact ih2  (i + 1) _ (by omega) (by omega) (by omega) (by exact allTo_step ha hx245 (by simp [sgn]; omega) h0)  s_loop2241
              · refine Op.cast (e' := [(0, .string (mkS s)), (3, .int .i64 i), (4, .int .u8 (x244.toNat : Int)), (32, .bool false)]) (by rw [hb]) ?_
                have c258 : ¬ ((x244.toNat : Int) = (45 : Int)) := neF hb
                clear hb
                refine Op.pures 4 [0, 3, 36] (L' := []) (e' := [(0, .string (mkS s)), (3, .int .i64 i), (36, .bool (!((x244.toNat : Int) == (95 : Int))))]) (by kernel_rfl) ?_
                refine Op.goto 6 (by kernel_rfl) ?_
                refine At.cond (b := !((x244.toNat : Int) == (95 : Int))) (c := .tmp 36) (by kernel_rfl) (by kernel_rfl) (by kernel_rfl) 7 9 (by kernel_rfl) (by kernel_rfl) (fun hb => ?_) (fun hb => ?_)
                · have c259 : ¬ ((x244.toNat : Int) = (95 : Int)) := neF (notT hb)
                  clear hb
                  refine At.keep [] ?_; show At _ _ _ [] _
                  refine At.reg (L := [(0, false)]) (by kernel_rfl) ?_
                  refine Op.pures 1 [2] (L' := []) (e' := [(2, .bool false)]) (by kernel_rfl) ?_
                  refine Op.goto 8 (by kernel_rfl) ?_
                  refine At.ret (f := Tryd.f69) (v := .bool false) (by kernel_rfl) (by kernel_rfl) ?_
                  refine hR _ _ _ _ s_loop2241 ⟨?_, rfl, rfl⟩
                  exact (eqB (by exact part_bad hx245 (by simp [sgn]; omega)))
                · have c260 : (x244.toNat : Int) = (95 : Int) := eq_of_beq (notF hb)
                  clear hb
                  refine At.keep [0, 3] ?_; show At _ _ _ [(0, .string (mkS s)), (3, .int .i64 i)] _
                  refine At.reg (L := [(0, false), (1, false), (2, false)]) (by kernel_rfl) ?_
                  refine Op.pures 1 [0, 3, 9] (L' := [(1, false), (2, false)]) (e' := [(0, .string (mkS s)), (3, .int .i64 i), (9, .int .i64 i)]) (by kernel_rfl) ?_
                  refine Op.val (dst := some 10) (v := .int .i64 (IntKind.wrap .i64 (i + 1))) (v' := .int .i64 (i + 1)) (by kernel_rfl) (wrapEq_i64 (by omega) (by omega)) ?_
                  refine Op.pures 1 [0, 3] (L' := []) (e' := [(0, .string (mkS s)), (3, .int .i64 (i + 1))]) (by kernel_rfl) ?_
                  refine Op.goto 2 (by kernel_rfl) ?_
                  exact ih2  (i + 1) _ (by omega) (by omega) (by omega) (by exact allTo_step ha hx245 (by simp [sgn]; omega) h0)  s_loop2241
        · refine Op.cast (e' := [(0, .string (mkS s)), (3, .int .i64 i), (4, .int .u8 (x244.toNat : Int)), (16, .bool false)]) (by rw [hb]) ?_
          have c261 : ¬ ((x244.toNat : Int) ≥ (97 : Int)) := of_decide_eq_false hb
          clear hb
          refine Op.pures 7 [0, 3, 4, 20, 23] (L' := [(10, false), (11, false), (12, false), (13, false), (14, false), (15, false), (16, false), (17, false), (18, false), (19, false), (20, false), (21, false), (22, false)]) (e' := [(0, .string (mkS s)), (3, .int .i64 i), (4, .int .u8 (x244.toNat : Int)), (20, .bool false), (23, .bool (decide ((x244.toNat : Int) ≥ (48 : Int))))]) (by kernel_rfl) ?_
          refine Op.ways (b := decide ((x244.toNat : Int) ≥ (48 : Int))) ⟨fun hb => ?_, fun hb => ?_⟩
          · refine Op.cast (e' := [(0, .string (mkS s)), (3, .int .i64 i), (4, .int .u8 (x244.toNat : Int)), (20, .bool false), (23, .bool true)]) (by rw [hb]) ?_
            have c262 : (x244.toNat : Int) ≥ (48 : Int) := of_decide_eq_true hb
            clear hb
            refine Op.pures 5 [0, 3, 4, 28] (L' := [(15, false), (16, false), (17, false), (18, false), (19, false), (20, false), (21, false), (22, false)]) (e' := [(0, .string (mkS s)), (3, .int .i64 i), (4, .int .u8 (x244.toNat : Int)), (28, .bool (decide ((x244.toNat : Int) ≤ (57 : Int))))]) (by kernel_rfl) ?_
            refine Op.ways (b := decide ((x244.toNat : Int) ≤ (57 : Int))) ⟨fun hb => ?_, fun hb => ?_⟩
            · refine Op.cast (e' := [(0, .string (mkS s)), (3, .int .i64 i), (4, .int .u8 (x244.toNat : Int)), (28, .bool true)]) (by rw [hb]) ?_
              have c263 : (x244.toNat : Int) ≤ (57 : Int) := of_decide_eq_true hb
              clear hb
              refine Op.pures 8 [0, 3, 36] (L' := []) (e' := [(0, .string (mkS s)), (3, .int .i64 i), (36, .bool false)]) (by kernel_rfl) ?_
              refine Op.goto 6 (by kernel_rfl) ?_
              refine At.condF (c := .tmp 36) (by kernel_rfl) (by kernel_rfl) (by kernel_rfl) 9 (by kernel_rfl) ?_
              refine At.reg (L := [(0, false), (1, false), (2, false)]) (by kernel_rfl) ?_
              refine Op.pures 1 [0, 3, 9] (L' := [(1, false), (2, false)]) (e' := [(0, .string (mkS s)), (3, .int .i64 i), (9, .int .i64 i)]) (by kernel_rfl) ?_
              refine Op.val (dst := some 10) (v := .int .i64 (IntKind.wrap .i64 (i + 1))) (v' := .int .i64 (i + 1)) (by kernel_rfl) (wrapEq_i64 (by omega) (by omega)) ?_
              refine Op.pures 1 [0, 3] (L' := []) (e' := [(0, .string (mkS s)), (3, .int .i64 (i + 1))]) (by kernel_rfl) ?_
              refine Op.goto 2 (by kernel_rfl) ?_
              exact ih2  (i + 1) _ (by omega) (by omega) (by omega) (by exact allTo_step ha hx245 (by simp [sgn]; omega) h0)  s_loop2241
            · refine Op.cast (e' := [(0, .string (mkS s)), (3, .int .i64 i), (4, .int .u8 (x244.toNat : Int)), (28, .bool false)]) (by rw [hb]) ?_
              have c264 : ¬ ((x244.toNat : Int) ≤ (57 : Int)) := of_decide_eq_false hb
              clear hb
              refine Op.pures 4 [0, 3, 4, 32] (L' := [(19, false), (20, false), (21, false), (22, false)]) (e' := [(0, .string (mkS s)), (3, .int .i64 i), (4, .int .u8 (x244.toNat : Int)), (32, .bool ((x244.toNat : Int) == (45 : Int)))]) (by kernel_rfl) ?_
              refine Op.ways (b := (x244.toNat : Int) == (45 : Int)) ⟨fun hb => ?_, fun hb => ?_⟩
              · refine Op.cast (e' := [(0, .string (mkS s)), (3, .int .i64 i), (4, .int .u8 (x244.toNat : Int)), (32, .bool true)]) (by rw [hb]) ?_
                have c265 : (x244.toNat : Int) = (45 : Int) := eq_of_beq hb
                clear hb
                refine Op.pures 4 [0, 3, 36] (L' := []) (e' := [(0, .string (mkS s)), (3, .int .i64 i), (36, .bool false)]) (by kernel_rfl) ?_
                refine Op.goto 6 (by kernel_rfl) ?_
                refine At.condF (c := .tmp 36) (by kernel_rfl) (by kernel_rfl) (by kernel_rfl) 9 (by kernel_rfl) ?_
                refine At.reg (L := [(0, false), (1, false), (2, false)]) (by kernel_rfl) ?_
                refine Op.pures 1 [0, 3, 9] (L' := [(1, false), (2, false)]) (e' := [(0, .string (mkS s)), (3, .int .i64 i), (9, .int .i64 i)]) (by kernel_rfl) ?_
                refine Op.val (dst := some 10) (v := .int .i64 (IntKind.wrap .i64 (i + 1))) (v' := .int .i64 (i + 1)) (by kernel_rfl) (wrapEq_i64 (by omega) (by omega)) ?_
                refine Op.pures 1 [0, 3] (L' := []) (e' := [(0, .string (mkS s)), (3, .int .i64 (i + 1))]) (by kernel_rfl) ?_
                refine Op.goto 2 (by kernel_rfl) ?_
                exact ih2  (i + 1) _ (by omega) (by omega) (by omega) (by exact allTo_step ha hx245 (by simp [sgn]; omega) h0)  s_loop2241
              · refine Op.cast (e' := [(0, .string (mkS s)), (3, .int .i64 i), (4, .int .u8 (x244.toNat : Int)), (32, .bool false)]) (by rw [hb]) ?_
                have c266 : ¬ ((x244.toNat : Int) = (45 : Int)) := neF hb
                clear hb
                refine Op.pures 4 [0, 3, 36] (L' := []) (e' := [(0, .string (mkS s)), (3, .int .i64 i), (36, .bool (!((x244.toNat : Int) == (95 : Int))))]) (by kernel_rfl) ?_
                refine Op.goto 6 (by kernel_rfl) ?_
                refine At.cond (b := !((x244.toNat : Int) == (95 : Int))) (c := .tmp 36) (by kernel_rfl) (by kernel_rfl) (by kernel_rfl) 7 9 (by kernel_rfl) (by kernel_rfl) (fun hb => ?_) (fun hb => ?_)
                · have c267 : ¬ ((x244.toNat : Int) = (95 : Int)) := neF (notT hb)
                  clear hb
                  refine At.keep [] ?_; show At _ _ _ [] _
                  refine At.reg (L := [(0, false)]) (by kernel_rfl) ?_
                  refine Op.pures 1 [2] (L' := []) (e' := [(2, .bool false)]) (by kernel_rfl) ?_
                  refine Op.goto 8 (by kernel_rfl) ?_
                  refine At.ret (f := Tryd.f69) (v := .bool false) (by kernel_rfl) (by kernel_rfl) ?_
                  refine hR _ _ _ _ s_loop2241 ⟨?_, rfl, rfl⟩
                  exact (eqB (by exact part_bad hx245 (by simp [sgn]; omega)))
                · have c268 : (x244.toNat : Int) = (95 : Int) := eq_of_beq (notF hb)
                  clear hb
                  refine At.keep [0, 3] ?_; show At _ _ _ [(0, .string (mkS s)), (3, .int .i64 i)] _
                  refine At.reg (L := [(0, false), (1, false), (2, false)]) (by kernel_rfl) ?_
                  refine Op.pures 1 [0, 3, 9] (L' := [(1, false), (2, false)]) (e' := [(0, .string (mkS s)), (3, .int .i64 i), (9, .int .i64 i)]) (by kernel_rfl) ?_
                  refine Op.val (dst := some 10) (v := .int .i64 (IntKind.wrap .i64 (i + 1))) (v' := .int .i64 (i + 1)) (by kernel_rfl) (wrapEq_i64 (by omega) (by omega)) ?_
                  refine Op.pures 1 [0, 3] (L' := []) (e' := [(0, .string (mkS s)), (3, .int .i64 (i + 1))]) (by kernel_rfl) ?_
                  refine Op.goto 2 (by kernel_rfl) ?_
                  exact ih2  (i + 1) _ (by omega) (by omega) (by omega) (by exact allTo_step ha hx245 (by simp [sgn]; omega) h0)  s_loop2241
          · refine Op.cast (e' := [(0, .string (mkS s)), (3, .int .i64 i), (4, .int .u8 (x244.toNat : Int)), (20, .bool false), (23, .bool false)]) (by rw [hb]) ?_
            have c269 : ¬ ((x244.toNat : Int) ≥ (48 : Int)) := of_decide_eq_false hb
            clear hb
            refine Op.pures 9 [0, 3, 4, 32] (L' := [(19, false), (20, false), (21, false), (22, false)]) (e' := [(0, .string (mkS s)), (3, .int .i64 i), (4, .int .u8 (x244.toNat : Int)), (32, .bool ((x244.toNat : Int) == (45 : Int)))]) (by kernel_rfl) ?_
            refine Op.ways (b := (x244.toNat : Int) == (45 : Int)) ⟨fun hb => ?_, fun hb => ?_⟩
            · refine Op.cast (e' := [(0, .string (mkS s)), (3, .int .i64 i), (4, .int .u8 (x244.toNat : Int)), (32, .bool true)]) (by rw [hb]) ?_
              have c270 : (x244.toNat : Int) = (45 : Int) := eq_of_beq hb
              clear hb
              refine Op.pures 4 [0, 3, 36] (L' := []) (e' := [(0, .string (mkS s)), (3, .int .i64 i), (36, .bool false)]) (by kernel_rfl) ?_
              refine Op.goto 6 (by kernel_rfl) ?_
              refine At.condF (c := .tmp 36) (by kernel_rfl) (by kernel_rfl) (by kernel_rfl) 9 (by kernel_rfl) ?_
              refine At.reg (L := [(0, false), (1, false), (2, false)]) (by kernel_rfl) ?_
              refine Op.pures 1 [0, 3, 9] (L' := [(1, false), (2, false)]) (e' := [(0, .string (mkS s)), (3, .int .i64 i), (9, .int .i64 i)]) (by kernel_rfl) ?_
              refine Op.val (dst := some 10) (v := .int .i64 (IntKind.wrap .i64 (i + 1))) (v' := .int .i64 (i + 1)) (by kernel_rfl) (wrapEq_i64 (by omega) (by omega)) ?_
              refine Op.pures 1 [0, 3] (L' := []) (e' := [(0, .string (mkS s)), (3, .int .i64 (i + 1))]) (by kernel_rfl) ?_
              refine Op.goto 2 (by kernel_rfl) ?_
              exact ih2  (i + 1) _ (by omega) (by omega) (by omega) (by exact allTo_step ha hx245 (by simp [sgn]; omega) h0)  s_loop2241
            · refine Op.cast (e' := [(0, .string (mkS s)), (3, .int .i64 i), (4, .int .u8 (x244.toNat : Int)), (32, .bool false)]) (by rw [hb]) ?_
              have c271 : ¬ ((x244.toNat : Int) = (45 : Int)) := neF hb
              clear hb
              refine Op.pures 4 [0, 3, 36] (L' := []) (e' := [(0, .string (mkS s)), (3, .int .i64 i), (36, .bool (!((x244.toNat : Int) == (95 : Int))))]) (by kernel_rfl) ?_
              refine Op.goto 6 (by kernel_rfl) ?_
              refine At.cond (b := !((x244.toNat : Int) == (95 : Int))) (c := .tmp 36) (by kernel_rfl) (by kernel_rfl) (by kernel_rfl) 7 9 (by kernel_rfl) (by kernel_rfl) (fun hb => ?_) (fun hb => ?_)
              · have c272 : ¬ ((x244.toNat : Int) = (95 : Int)) := neF (notT hb)
                clear hb
                refine At.keep [] ?_; show At _ _ _ [] _
                refine At.reg (L := [(0, false)]) (by kernel_rfl) ?_
                refine Op.pures 1 [2] (L' := []) (e' := [(2, .bool false)]) (by kernel_rfl) ?_
                refine Op.goto 8 (by kernel_rfl) ?_
                refine At.ret (f := Tryd.f69) (v := .bool false) (by kernel_rfl) (by kernel_rfl) ?_
                refine hR _ _ _ _ s_loop2241 ⟨?_, rfl, rfl⟩
                exact (eqB (by exact part_bad hx245 (by simp [sgn]; omega)))
              · have c273 : (x244.toNat : Int) = (95 : Int) := eq_of_beq (notF hb)
                clear hb
                refine At.keep [0, 3] ?_; show At _ _ _ [(0, .string (mkS s)), (3, .int .i64 i)] _
                refine At.reg (L := [(0, false), (1, false), (2, false)]) (by kernel_rfl) ?_
                refine Op.pures 1 [0, 3, 9] (L' := [(1, false), (2, false)]) (e' := [(0, .string (mkS s)), (3, .int .i64 i), (9, .int .i64 i)]) (by kernel_rfl) ?_
                refine Op.val (dst := some 10) (v := .int .i64 (IntKind.wrap .i64 (i + 1))) (v' := .int .i64 (i + 1)) (by kernel_rfl) (wrapEq_i64 (by omega) (by omega)) ?_
                refine Op.pures 1 [0, 3] (L' := []) (e' := [(0, .string (mkS s)), (3, .int .i64 (i + 1))]) (by kernel_rfl) ?_
                refine Op.goto 2 (by kernel_rfl) ?_
                exact ih2  (i + 1) _ (by omega) (by omega) (by omega) (by exact allTo_step ha hx245 (by simp [sgn]; omega) h0)  s_loop2241
      · have c274 : ¬ (i < (s.length : Int)) := of_decide_eq_false hb
        clear hb
        refine At.keep [0] ?_; show At _ _ _ [(0, .string (mkS s))] _
        refine At.reg (L := [(0, false), (1, false), (2, false), (3, false), (4, false), (5, false), (6, false), (7, false), (8, false)]) (by kernel_rfl) ?_
        refine Op.pures 4 [0, 40] (L' := [(4, false), (5, false), (6, false), (7, false), (8, false)]) (e' := [(0, .string (mkS s)), (40, .bool (decide ((s.length : Int) ≥ (1 : Int))))]) (by kernel_rfl) ?_
        refine Op.ways (b := decide ((s.length : Int) ≥ (1 : Int))) ⟨fun hb => ?_, fun hb => ?_⟩
        · refine Op.cast (e' := [(0, .string (mkS s)), (40, .bool true)]) (by rw [hb]) ?_
          have c275 : (s.length : Int) ≥ (1 : Int) := of_decide_eq_true hb
          clear hb
          refine Op.pures 5 [2] (L' := []) (e' := [(2, .bool (decide ((s.length : Int) ≤ (16 : Int))))]) (by kernel_rfl) ?_
          refine Op.goto 11 (by kernel_rfl) ?_
          refine At.ret (f := Tryd.f69) (v := .bool (decide ((s.length : Int) ≤ (16 : Int)))) (by kernel_rfl) (by kernel_rfl) ?_
          refine hR _ _ _ _ s_loop2241 ⟨?_, rfl, rfl⟩
          exact (eqB (by first | exact part_end ha c274 c275 | exact part_end0 c275))
        · refine Op.cast (e' := [(0, .string (mkS s)), (40, .bool false)]) (by rw [hb]) ?_
          have c276 : ¬ ((s.length : Int) ≥ (1 : Int)) := of_decide_eq_false hb
          clear hb
          refine Op.pures 5 [2] (L' := []) (e' := [(2, .bool false)]) (by kernel_rfl) ?_
          refine Op.goto 11 (by kernel_rfl) ?_
          refine At.ret (f := Tryd.f69) (v := .bool false) (by kernel_rfl) (by kernel_rfl) ?_
          refine hR _ _ _ _ s_loop2241 ⟨?_, rfl, rfl⟩
          exact (eqB (by first | exact part_end ha c274 c276 | exact part_end0 c276))
  exact loop2 _  0 _ (Nat.lt_succ_self _) (by omega) (by omega) (by exact allTo_0 _)  s0

/-- stanchion/stanchionref09.whole -/
theorem wholeR (B : World) (h : Heap) (g : GH) (hg : Sub g h) (hG : Glob g) (v_l : Value) (l : List (List UInt8)) (h_l : SlR g 9 kStr v_l l) (hl : l.length ≤ 1000000000) (hL : (joined l).length ≤ 10000000000) :
    Spec Tryd.prog B 62 #[v_l] h g [] (fun rv g' L' => rv = .string (mkS (joined l)) ∧ g' = g ∧ L' = []) := by
  obtain ⟨a_l, n_l, rfl⟩ := h_l.form
  refine Spec.of_at (f := Tryd.f62) (e := [(0, .slice a_l l.length n_l)]) Tryd.func62 (by kernel_rfl) (Nat.le_of_ble_eq_true (by kernel_rfl)) (by kernel_rfl) (by kernel_rfl) ?_
  intro R hR
  have s0 := St.init hg
  refine At.reg (L := [(0, false)]) (by kernel_rfl) ?_
  refine Op.pures 1 [0] (L' := []) (e' := [(0, .slice a_l l.length n_l)]) (by kernel_rfl) ?_
  refine Op.goto 1 (by kernel_rfl) ?_
  refine At.reg (L := [(0, false)]) (by kernel_rfl) ?_
  refine Op.pures 1 [0, 3] (L' := []) (e' := [(0, .slice a_l l.length n_l), (3, .string (mkS []))]) (by kernel_rfl) ?_
  refine Op.goto 2 (by kernel_rfl) ?_
  refine At.reg (L := [(0, false)]) (by kernel_rfl) ?_
  refine Op.pures 1 [0, 3, 4] (L' := []) (e' := [(0, .slice a_l l.length n_l), (3, .string (mkS [])), (4, .int .i64 0)]) (by kernel_rfl) ?_
  refine Op.goto 3 (by kernel_rfl) ?_
  have loop3 : ∀ (m : Nat) (out : List UInt8) (i : Int) (h277 : Heap) (hm : l.length - i.toNat < m) (h0 : 0 ≤ i) (h2 : i ≤ l.length) (ho : out = wh (l.take i.toNat))    (s_loop3276 : St h g (ids []) g [] h277), At (fctx Tryd.prog B 62 Tryd.f62 R) [] 3 [(0, .slice a_l l.length n_l), (3, .string (mkS out)), (4, .int .i64 i)] h277 := by
    intro m; induction m with
    | zero => intros; omega
    | succ m ih3 =>
      intro out i h277 hm h0 h2 ho s_loop3276
      refine At.reg (L := [(0, false), (1, false), (2, false), (3, false)]) (by kernel_rfl) ?_
      refine Op.pures 4 [0, 3, 4, 8] (L' := []) (e' := [(0, .slice a_l l.length n_l), (3, .string (mkS out)), (4, .int .i64 i), (8, .bool (decide (i < (l.length : Int))))]) (by kernel_rfl) ?_
      refine Op.goto 4 (by kernel_rfl) ?_
      refine At.cond (b := decide (i < (l.length : Int))) (c := .tmp 8) (by kernel_rfl) (by kernel_rfl) (by kernel_rfl) 5 7 (by kernel_rfl) (by kernel_rfl) (fun hb => ?_) (fun hb => ?_)
      · have c278 : i < (l.length : Int) := of_decide_eq_true hb
        clear hb
        refine At.keep [0, 3, 4] ?_; show At _ _ _ [(0, .slice a_l l.length n_l), (3, .string (mkS out)), (4, .int .i64 i)] _
        refine At.reg (L := [(0, false), (1, false), (2, false), (3, false), (4, false), (5, false), (6, false), (7, false)]) (by kernel_rfl) ?_
        refine Op.pures 3 [0, 3, 4, 11, 12, 13] (L' := [(3, false), (4, false), (5, false), (6, false), (7, false)]) (e' := [(0, .slice a_l l.length n_l), (3, .string (mkS out)), (4, .int .i64 i), (11, .string (mkS out)), (12, .slice a_l l.length n_l), (13, .int .i64 i)]) (by kernel_rfl) ?_
        obtain ⟨x279, hx280⟩ : ∃ c, l[(i : Int).toNat]? = some c := ⟨_, List.getElem?_eq_getElem (by first | omega | (have hb := wh_bound ho h0 {hx0}; simp only [List.length_append, List.length_cons, List.length_nil]; omega))⟩
        obtain ⟨b281, o282, cu283, fz284, ha285, hb286, hk287⟩ := SlR.at_ h_l _ hx280
        cases ha285
        refine Op.idx (T := 37) (E := 9) (sz := 1) (by_ := 16) (n := l.length) (c := n_l) (k := .i64) (x := (.tmp 12)) (ix := (.tmp 13)) (dst := 14) (bk := b281) (o := o282) (m := i) (by kernel_rfl) (by kernel_rfl) (by kernel_rfl) (by kernel_rfl) (by first | omega | (have hb := wh_bound ho h0 {hx0}; simp only [List.length_append, List.length_cons, List.length_nil]; omega)) (by first | omega | (have hb := wh_bound ho h0 {hx0}; simp only [List.length_append, List.length_cons, List.length_nil]; omega)) ?_
        replace hk287 : cut _ _ _ = [.string (mkS x279)] := hk287
        refine Op.load (T := 9) (x := (.tmp 14)) (o := o282 + (i : Int).toNat * 1) (d := 15) (n := 1) (v := .string (mkS x279)) (by kernel_rfl) (by kernel_rfl) (by kernel_rfl) (s_loop3276.sub _ _ hb286) (cut_get hk287 0 rfl) ?_
        refine Op.strAdd (T := 9) (T' := 9) (x := (.const (.string (mkS ([47]))))) (y := (.tmp 15)) (dst := 16) (l := [47]) (m := x279) (by kernel_rfl) (by kernel_rfl) (by kernel_rfl) (by first | omega | (have hb := wh_bound ho h0 hx280; simp only [List.length_append, List.length_cons, List.length_nil]; omega)) ?_
        refine Op.strAdd (T := 9) (T' := 9) (x := (.tmp 11)) (y := (.tmp 16)) (dst := 17) (l := out) (m := ([47]) ++ x279) (by kernel_rfl) (by kernel_rfl) (by kernel_rfl) (by first | omega | (have hb := wh_bound ho h0 hx280; simp only [List.length_append, List.length_cons, List.length_nil]; omega)) ?_
        refine Op.pures 1 [0, 3, 4] (L' := []) (e' := [(0, .slice (some ⟨b281, o282, none⟩) l.length n_l), (3, .string (mkS (out ++ (([47]) ++ x279)))), (4, .int .i64 i)]) (by kernel_rfl) ?_
        refine Op.goto 6 (by kernel_rfl) ?_
        refine At.reg (L := [(0, false), (1, false), (2, false)]) (by kernel_rfl) ?_
        refine Op.pures 1 [0, 3, 4, 9] (L' := [(1, false), (2, false)]) (e' := [(0, .slice (some ⟨b281, o282, none⟩) l.length n_l), (3, .string (mkS (out ++ (([47]) ++ x279)))), (4, .int .i64 i), (9, .int .i64 i)]) (by kernel_rfl) ?_
        refine Op.val (dst := some 10) (v := .int .i64 (IntKind.wrap .i64 (i + 1))) (v' := .int .i64 (i + 1)) (by kernel_rfl) (wrapEq_i64 (by first | omega | (have hb := wh_bound ho h0 hx280; simp only [List.length_append, List.length_cons, List.length_nil]; omega)) (by first | omega | (have hb := wh_bound ho h0 hx280; simp only [List.length_append, List.length_cons, List.length_nil]; omega))) ?_
        refine Op.pures 1 [0, 3, 4] (L' := []) (e' := [(0, .slice (some ⟨b281, o282, none⟩) l.length n_l), (3, .string (mkS (out ++ (([47]) ++ x279)))), (4, .int .i64 (i + 1))]) (by kernel_rfl) ?_
        refine Op.goto 3 (by kernel_rfl) ?_
        exact ih3  (out ++ (([47]) ++ x279)) (i + 1) _ (by omega) (by first | omega | (have hb := wh_bound ho h0 hx280; simp only [List.length_append, List.length_cons, List.length_nil]; omega)) (by first | omega | (have hb := wh_bound ho h0 hx280; simp only [List.length_append, List.length_cons, List.length_nil]; omega)) (by exact wh_step ho h0 hx280)  s_loop3276
      · have c288 : ¬ (i < (l.length : Int)) := of_decide_eq_false hb
        clear hb
        refine At.keep [3] ?_; show At _ _ _ [(3, .string (mkS out))] _
        refine At.reg (L := [(0, false), (1, false)]) (by kernel_rfl) ?_
        refine Op.pures 1 [3, 18] (L' := [(1, false)]) (e' := [(3, .string (mkS out)), (18, .string (mkS out))]) (by kernel_rfl) ?_
        refine Op.val (dst := some 19) (v := .bool ((mkS out).toList == (mkS []).toList)) (v' := .bool (out == ([] : List UInt8))) (by kernel_rfl) (by rw [toList_mkS, toList_mkS]) ?_
        refine Op.goto 8 (by kernel_rfl) ?_
        refine At.cond (b := out == ([] : List UInt8)) (c := .tmp 19) (by kernel_rfl) (by kernel_rfl) (by kernel_rfl) 9 11 (by kernel_rfl) (by kernel_rfl) (fun hb => ?_) (fun hb => ?_)
        · have c289 : out = ([] : List UInt8) := eq_of_beq hb
          clear hb
          refine At.keep [] ?_; show At _ _ _ [] _
          refine At.reg (L := [(0, false)]) (by kernel_rfl) ?_
          refine Op.pures 1 [2] (L' := []) (e' := [(2, .string (mkS ([47])))]) (by kernel_rfl) ?_
          refine Op.goto 10 (by kernel_rfl) ?_
          refine At.ret (f := Tryd.f62) (v := .string (mkS ([47]))) (by kernel_rfl) (by kernel_rfl) ?_
          refine hR _ _ _ _ s_loop3276 ⟨?_, rfl, rfl⟩
          exact (eqS (by exact wh_end0 ho c288 c289))
        · have c290 : ¬ (out = ([] : List UInt8)) := neF hb
          clear hb
          refine At.keep [3] ?_; show At _ _ _ [(3, .string (mkS out))] _
          refine At.reg (L := [(0, false), (1, false)]) (by kernel_rfl) ?_
          refine Op.pures 2 [2] (L' := []) (e' := [(2, .string (mkS out))]) (by kernel_rfl) ?_
          refine Op.goto 12 (by kernel_rfl) ?_
          refine At.ret (f := Tryd.f62) (v := .string (mkS out)) (by kernel_rfl) (by kernel_rfl) ?_
          refine hR _ _ _ _ s_loop3276 ⟨?_, rfl, rfl⟩
          exact (eqS (by exact wh_end1 ho c288 c290))
  exact loop3 _  [] 0 _ (Nat.lt_succ_self _) (by first | omega | (have hb := wh_bound ho h0 {hx0}; simp only [List.length_append, List.length_cons, List.length_nil]; omega)) (by first | omega | (have hb := wh_bound ho h0 {hx0}; simp only [List.length_append, List.length_cons, List.length_nil]; omega)) (by rfl)  s0

/-- stanchion/stanchionref09.Parts -/
theorem partsR (B : World) (h : Heap) (g : GH) (hg : Sub g h) (hG : Glob g) (p : List UInt8) (hlen : p.length ≤ 1000000000) :
    Spec Tryd.prog B 43 #[.string (mkS p)] h g [] (fun rv g' L' => ∃ v0, rv = .tuple #[v0, .int .i64 (pErr p)] ∧ SlR g' 9 kStr v0 (pList p) ∧ L' = []) := by
  refine Spec.of_at (f := Tryd.f43) (e := [(0, .string (mkS p))]) Tryd.func43 (by kernel_rfl) (Nat.le_of_ble_eq_true (by kernel_rfl)) (by kernel_rfl) (by kernel_rfl) ?_
  intro R hR
  have s0 := St.init hg
  refine At.reg (L := [(0, false), (1, false)]) (by kernel_rfl) ?_
  refine Op.pures 2 [0] (L' := []) (e' := [(0, .string (mkS p))]) (by kernel_rfl) ?_
  refine Op.goto 1 (by kernel_rfl) ?_
  refine At.reg (L := [(0, false), (1, false), (2, false), (3, false), (4, false), (5, false), (6, false), (7, false), (8, false), (9, false), (10, false), (11, false), (12, false)]) (by kernel_rfl) ?_
  refine Op.pures 4 [0, 10] (L' := [(4, false), (5, false), (6, false), (7, false), (8, false), (9, false), (10, false), (11, false), (12, false)]) (e' := [(0, .string (mkS p)), (10, .bool (decide ((p.length : Int) < (1 : Int))))]) (by kernel_rfl) ?_
  refine Op.ways (b := decide ((p.length : Int) < (1 : Int))) ⟨fun hb => ?_, fun hb => ?_⟩
  · refine Op.cast (e' := [(0, .string (mkS p)), (10, .bool true)]) (by rw [hb]) ?_
    have c291 : (p.length : Int) < (1 : Int) := of_decide_eq_true hb
    clear hb
    refine Op.pures 9 [0, 19] (L' := []) (e' := [(0, .string (mkS p)), (19, .bool true)]) (by kernel_rfl) ?_
    refine Op.goto 2 (by kernel_rfl) ?_
    refine At.condT (c := .tmp 19) (by kernel_rfl) (by kernel_rfl) (by kernel_rfl) 3 (by kernel_rfl) ?_
    refine At.reg (L := [(0, false), (1, false)]) (by kernel_rfl) ?_
    refine Op.pures 2 [2, 3] (L' := []) (e' := [(2, .slice none 0 0), (3, .int .i64 90)]) (by kernel_rfl) ?_
    refine Op.goto 4 (by kernel_rfl) ?_
    refine At.ret (f := Tryd.f43) (v := .tuple #[.slice none 0 0, .int .i64 90]) (by kernel_rfl) (by kernel_rfl) ?_
    refine hR _ _ _ _ s0 ⟨(.slice none 0 0), ?_, ?_, rfl⟩
    · exact eqT2 rfl (eqI (by first | exact (no_ok (noR1 (by assumption))).1 | exact (no_ok (noR1 (by assumption))).2 | exact (no_ok (pOk_long (by omega))).1 | exact (no_ok (pOk_long (by omega))).2 | exact (no_ok (noR3 {hx0} (by assumption))).1 | exact (no_ok (noR3 {hx0} (by assumption))).2))
    · exact slEq (SlR.empty _ _ _ _ _) (by first | exact (no_ok (noR1 (by assumption))).1 | exact (no_ok (noR1 (by assumption))).2 | exact (no_ok (pOk_long (by omega))).1 | exact (no_ok (pOk_long (by omega))).2 | exact (no_ok (noR3 {hx0} (by assumption))).1 | exact (no_ok (noR3 {hx0} (by assumption))).2)
  · refine Op.cast (e' := [(0, .string (mkS p)), (10, .bool false)]) (by rw [hb]) ?_
    have c292 : ¬ ((p.length : Int) < (1 : Int)) := of_decide_eq_false hb
    clear hb
    refine Op.pures 5 [0, 15] (L' := [(9, false), (10, false), (11, false), (12, false)]) (e' := [(0, .string (mkS p)), (15, .bool (decide ((p.length : Int) > (64 : Int))))]) (by kernel_rfl) ?_
    refine Op.ways (b := decide ((p.length : Int) > (64 : Int))) ⟨fun hb => ?_, fun hb => ?_⟩
    · refine Op.cast (e' := [(0, .string (mkS p)), (15, .bool true)]) (by rw [hb]) ?_
      have c293 : (p.length : Int) > (64 : Int) := of_decide_eq_true hb
      clear hb
      refine Op.pures 4 [0, 19] (L' := []) (e' := [(0, .string (mkS p)), (19, .bool true)]) (by kernel_rfl) ?_
      refine Op.goto 2 (by kernel_rfl) ?_
      refine At.condT (c := .tmp 19) (by kernel_rfl) (by kernel_rfl) (by kernel_rfl) 3 (by kernel_rfl) ?_
      refine At.reg (L := [(0, false), (1, false)]) (by kernel_rfl) ?_
      refine Op.pures 2 [2, 3] (L' := []) (e' := [(2, .slice none 0 0), (3, .int .i64 90)]) (by kernel_rfl) ?_
      refine Op.goto 4 (by kernel_rfl) ?_
      refine At.ret (f := Tryd.f43) (v := .tuple #[.slice none 0 0, .int .i64 90]) (by kernel_rfl) (by kernel_rfl) ?_
      refine hR _ _ _ _ s0 ⟨(.slice none 0 0), ?_, ?_, rfl⟩
      · exact eqT2 rfl (eqI (by first | exact (no_ok (noR1 (by assumption))).1 | exact (no_ok (noR1 (by assumption))).2 | exact (no_ok (pOk_long (by omega))).1 | exact (no_ok (pOk_long (by omega))).2 | exact (no_ok (noR3 {hx0} (by assumption))).1 | exact (no_ok (noR3 {hx0} (by assumption))).2))
      · exact slEq (SlR.empty _ _ _ _ _) (by first | exact (no_ok (noR1 (by assumption))).1 | exact (no_ok (noR1 (by assumption))).2 | exact (no_ok (pOk_long (by omega))).1 | exact (no_ok (pOk_long (by omega))).2 | exact (no_ok (noR3 {hx0} (by assumption))).1 | exact (no_ok (noR3 {hx0} (by assumption))).2)
    · refine Op.cast (e' := [(0, .string (mkS p)), (15, .bool false)]) (by rw [hb]) ?_
      have c294 : ¬ ((p.length : Int) > (64 : Int)) := of_decide_eq_false hb
      clear hb
      refine Op.pures 1 [0, 15, 16] (L' := [(10, false), (11, false), (12, false)]) (e' := [(0, .string (mkS p)), (15, .bool false), (16, .string (mkS p))]) (by kernel_rfl) ?_
      obtain ⟨x295, hx296⟩ : ∃ c, p[(0 : Int).toNat]? = some c := ⟨_, List.getElem?_eq_getElem (by first | omega | (simp only [List.length_append, List.length_cons, List.length_nil, List.length_take, List.length_drop]; omega))⟩
      refine Op.strIdx (T := 9) (k := .i64) (x := (.tmp 16)) (ix := (.const (.int .i64 0))) (dst := 17) (l := p) (n := 0) (by kernel_rfl) (by kernel_rfl) (by kernel_rfl) (by kernel_rfl) (by first | omega | (simp only [List.length_append, List.length_cons, List.length_nil, List.length_take, List.length_drop]; omega)) hx296 ?_
      refine Op.pures 2 [0, 19] (L' := []) (e' := [(0, .string (mkS p)), (19, .bool ((x295.toNat : Int) != (47 : Int)))]) (by kernel_rfl) ?_
      refine Op.goto 2 (by kernel_rfl) ?_
      refine At.cond (b := (x295.toNat : Int) != (47 : Int)) (c := .tmp 19) (by kernel_rfl) (by kernel_rfl) (by kernel_rfl) 3 5 (by kernel_rfl) (by kernel_rfl) (fun hb => ?_) (fun hb => ?_)
      · have c297 : ¬ ((x295.toNat : Int) = (47 : Int)) := bneT hb
        clear hb
        refine At.keep [] ?_; show At _ _ _ [] _
        refine At.reg (L := [(0, false), (1, false)]) (by kernel_rfl) ?_
        refine Op.pures 2 [2, 3] (L' := []) (e' := [(2, .slice none 0 0), (3, .int .i64 90)]) (by kernel_rfl) ?_
        refine Op.goto 4 (by kernel_rfl) ?_
        refine At.ret (f := Tryd.f43) (v := .tuple #[.slice none 0 0, .int .i64 90]) (by kernel_rfl) (by kernel_rfl) ?_
        refine hR _ _ _ _ s0 ⟨(.slice none 0 0), ?_, ?_, rfl⟩
        · exact eqT2 rfl (eqI (by first | exact (no_ok (noR1 (by assumption))).1 | exact (no_ok (noR1 (by assumption))).2 | exact (no_ok (pOk_long (by omega))).1 | exact (no_ok (pOk_long (by omega))).2 | exact (no_ok (noR3 hx296 (by assumption))).1 | exact (no_ok (noR3 hx296 (by assumption))).2))
        · exact slEq (SlR.empty _ _ _ _ _) (by first | exact (no_ok (noR1 (by assumption))).1 | exact (no_ok (noR1 (by assumption))).2 | exact (no_ok (pOk_long (by omega))).1 | exact (no_ok (pOk_long (by omega))).2 | exact (no_ok (noR3 hx296 (by assumption))).1 | exact (no_ok (noR3 hx296 (by assumption))).2)
      · have c298 : (x295.toNat : Int) = (47 : Int) := bneF hb
        clear hb
        refine At.keep [0] ?_; show At _ _ _ [(0, .string (mkS p))] _
        refine At.reg (L := [(0, false), (1, false)]) (by kernel_rfl) ?_
        refine Op.lit (T := 37) (len := 0) (parts := #[]) (dst := 20) (E := 9) (ps := []) (cs := #[]) (by kernel_rfl) (by kernel_rfl) (by kernel_rfl) s0 ?_
        intro b299 h300 s301
        refine Op.pures 1 [0, 4] (L' := []) (e' := [(0, .string (mkS p)), (4, .slice (some ⟨b299, 0, none⟩) 0 0)]) (by kernel_rfl) ?_
        refine Op.goto 6 (by kernel_rfl) ?_
        refine At.reg (L := [(0, false), (1, false)]) (by kernel_rfl) ?_
        refine Op.pures 1 [0, 4, 21] (L' := [(1, false)]) (e' := [(0, .string (mkS p)), (4, .slice (some ⟨b299, 0, none⟩) 0 0), (21, .string (mkS p))]) (by kernel_rfl) ?_
        refine Op.val (dst := some 22) (v := .bool ((mkS p).toList == (mkS ([47])).toList)) (v' := .bool (p == ([47]))) (by kernel_rfl) (by rw [toList_mkS, toList_mkS]) ?_
        refine Op.goto 7 (by kernel_rfl) ?_
        refine At.cond (b := p == ([47])) (c := .tmp 22) (by kernel_rfl) (by kernel_rfl) (by kernel_rfl) 8 10 (by kernel_rfl) (by kernel_rfl) (fun hb => ?_) (fun hb => ?_)
        · have c302 : p = ([47]) := eq_of_beq hb
          clear hb
          refine At.keep [4] ?_; show At _ _ _ [(4, .slice (some ⟨b299, 0, none⟩) 0 0)] _
          refine At.reg (L := [(0, false), (1, false), (2, false)]) (by kernel_rfl) ?_
          refine Op.pures 3 [2, 3] (L' := []) (e' := [(2, .slice (some ⟨b299, 0, none⟩) 0 0), (3, .int .i64 0)]) (by kernel_rfl) ?_
          refine Op.goto 9 (by kernel_rfl) ?_
          have R303 : Row 9 kStr g (.slice (some ⟨b299, 0, none⟩) 0 0) ([] : List (List UInt8)) [(b299, Obj.cells #[] 9 (0, 0))] := Row.lit (by kernel_rfl) (by unfold maxLen; decide) (by kernel_rfl) Reads.nil
          obtain ⟨g304, s305, hle306, hf307⟩ := Row.freeze R303 (s301.front 0 rfl)
          replace hG := hG.mono hle306
          refine At.ret (f := Tryd.f43) (v := .tuple #[.slice (some ⟨b299, 0, none⟩) 0 0, .int .i64 0]) (by kernel_rfl) (by kernel_rfl) ?_
          refine hR _ _ _ _ s305 ⟨(.slice (some ⟨b299, 0, none⟩) 0 0), ?_, ?_, rfl⟩
          · exact eqT2 rfl (eqI (by first | exact (parts_47 (by assumption)).1 | exact (parts_47 (by assumption)).2))
          · exact slEq hf307 (by first | exact (parts_47 (by assumption)).1 | exact (parts_47 (by assumption)).2)
        · have c308 : ¬ (p = ([47])) := neF hb
          clear hb
          refine At.keep [0, 4] ?_; show At _ _ _ [(0, .string (mkS p)), (4, .slice (some ⟨b299, 0, none⟩) 0 0)] _
          refine At.reg (L := [(0, false)]) (by kernel_rfl) ?_
          refine Op.pures 1 [0, 4, 5] (L' := []) (e' := [(0, .string (mkS p)), (4, .slice (some ⟨b299, 0, none⟩) 0 0), (5, .int .i64 1)]) (by kernel_rfl) ?_
          refine Op.goto 11 (by kernel_rfl) ?_
          refine At.reg (L := [(0, false)]) (by kernel_rfl) ?_
          refine Op.pures 1 [0, 4, 5, 6] (L' := []) (e' := [(0, .string (mkS p)), (4, .slice (some ⟨b299, 0, none⟩) 0 0), (5, .int .i64 1), (6, .int .i64 1)]) (by kernel_rfl) ?_
          refine Op.goto 12 (by kernel_rfl) ?_
          have loop12 : ∀ (m : Nat) (out : List (List UInt8)) (fr : Int) (i : Int) (a309 : Option Addr) (n310 : Nat) (ch311 : Chunk) (h313 : Heap) (hm : p.length + 1 - i.toNat < m) (h1 : 1 ≤ i) (h2 : i ≤ p.length + 1) (hf0 : 1 ≤ fr) (hf : fr ≤ i) (ho : (out.length : Int) ≤ i) (hP : PInv p out fr i) (R312 : Row 9 kStr g (.slice a309 out.length n310) out ch311)   (s_loop12312 : St h g (ids []) g [ch311] h313), At (fctx Tryd.prog B 43 Tryd.f43 R) [] 12 [(0, .string (mkS p)), (4, .slice a309 out.length n310), (5, .int .i64 fr), (6, .int .i64 i)] h313 := by
            intro m; induction m with
            | zero => intros; omega
            | succ m ih12 =>
              intro out fr i a309 n310 ch311 h313 hm h1 h2 hf0 hf ho hP R312 s_loop12312
              refine At.reg (L := [(0, false), (1, false), (2, false), (3, false)]) (by kernel_rfl) ?_
              refine Op.pures 4 [0, 4, 5, 6, 27] (L' := []) (e' := [(0, .string (mkS p)), (4, .slice a309 out.length n310), (5, .int .i64 fr), (6, .int .i64 i), (27, .bool (decide (i ≤ (p.length : Int))))]) (by kernel_rfl) ?_
              refine Op.goto 13 (by kernel_rfl) ?_
              refine At.cond (b := decide (i ≤ (p.length : Int))) (c := .tmp 27) (by kernel_rfl) (by kernel_rfl) (by kernel_rfl) 14 23 (by kernel_rfl) (by kernel_rfl) (fun hb => ?_) (fun hb => ?_)
              · have c314 : i ≤ (p.length : Int) := of_decide_eq_true hb
                clear hb
                refine At.keep [0, 4, 5, 6] ?_; show At _ _ _ [(0, .string (mkS p)), (4, .slice a309 out.length n310), (5, .int .i64 fr), (6, .int .i64 i)] _
                refine At.reg (L := [(0, false), (1, false), (2, false), (3, false), (4, false), (5, false), (6, false), (7, false), (8, false), (9, false)]) (by kernel_rfl) ?_
                refine Op.pures 5 [0, 4, 5, 6, 34] (L' := [(5, false), (6, false), (7, false), (8, false), (9, false)]) (e' := [(0, .string (mkS p)), (4, .slice a309 out.length n310), (5, .int .i64 fr), (6, .int .i64 i), (34, .bool (i == (p.length : Int)))]) (by kernel_rfl) ?_
                refine Op.ways (b := i == (p.length : Int)) ⟨fun hb => ?_, fun hb => ?_⟩
                · refine Op.cast (e' := [(0, .string (mkS p)), (4, .slice a309 out.length n310), (5, .int .i64 fr), (6, .int .i64 i), (34, .bool true)]) (by rw [hb]) ?_
                  have c315 : i = (p.length : Int) := eq_of_beq hb
                  clear hb
                  refine Op.pures 5 [0, 4, 5, 6, 39] (L' := []) (e' := [(0, .string (mkS p)), (4, .slice a309 out.length n310), (5, .int .i64 fr), (6, .int .i64 i), (39, .bool true)]) (by kernel_rfl) ?_
                  refine Op.goto 15 (by kernel_rfl) ?_
                  refine At.condT (c := .tmp 39) (by kernel_rfl) (by kernel_rfl) (by kernel_rfl) 16 (by kernel_rfl) ?_
                  refine At.reg (L := [(0, false), (1, false), (2, false), (3, false), (4, false), (5, false)]) (by kernel_rfl) ?_
                  refine Op.pures 3 [0, 4, 5, 6, 40, 41, 42] (L' := [(3, false), (4, false), (5, false)]) (e' := [(0, .string (mkS p)), (4, .slice a309 out.length n310), (5, .int .i64 fr), (6, .int .i64 i), (40, .string (mkS p)), (41, .int .i64 fr), (42, .int .i64 i)]) (by kernel_rfl) ?_
                  refine Op.strLoHi (T := 9) (k := .i64) (k' := .i64) (x := (.tmp 40)) (lo := (.tmp 41)) (hi := (.tmp 42)) (dst := 43) (l := p) (n := fr) (m := i) (by kernel_rfl) (by kernel_rfl) (by kernel_rfl) (by kernel_rfl) (by kernel_rfl) (by first | omega | (simp only [List.length_append, List.length_cons, List.length_nil, List.length_take, List.length_drop]; omega)) (by first | omega | (simp only [List.length_append, List.length_cons, List.length_nil, List.length_take, List.length_drop]; omega)) (by first | omega | (simp only [List.length_append, List.length_cons, List.length_nil, List.length_take, List.length_drop]; omega)) ?_
                  refine Op.call0 (dst := some 44) (f := 69) (args := #[.string (mkS ((p.take (i : Int).toNat).drop (fr : Int).toNat))]) (by kernel_rfl) s_loop12312 (partR _ _ _ s_loop12312.sub hG ((p.take (i : Int).toNat).drop (fr : Int).toNat) (by ((try dsimp only) <;> (first | omega | (simp only [List.length_append, List.length_cons, List.length_nil, List.length_take, List.length_drop]; omega)))) ) ?_
                  rintro _ g318 _ h316 hle319 s317 ⟨rfl, hgg, rfl⟩; subst g318; clear hle319
                  refine Op.pures 1 [0, 4, 5, 6, 45] (L' := []) (e' := [(0, .string (mkS p)), (4, .slice a309 out.length n310), (5, .int .i64 fr), (6, .int .i64 i), (45, .bool (!(okPart ((p.take (i : Int).toNat).drop (fr : Int).toNat))))]) (by kernel_rfl) ?_
                  refine Op.goto 17 (by kernel_rfl) ?_
                  refine At.cond (b := !(okPart ((p.take (i : Int).toNat).drop (fr : Int).toNat))) (c := .tmp 45) (by kernel_rfl) (by kernel_rfl) (by kernel_rfl) 18 20 (by kernel_rfl) (by kernel_rfl) (fun hb => ?_) (fun hb => ?_)
                  · have c320 : (okPart ((p.take (i : Int).toNat).drop (fr : Int).toNat)) = false := (notT hb)
                    clear hb
                    refine At.keep [] ?_; show At _ _ _ [] _
                    refine At.reg (L := [(0, false), (1, false)]) (by kernel_rfl) ?_
                    refine Op.pures 2 [2, 3] (L' := []) (e' := [(2, .slice none 0 0), (3, .int .i64 90)]) (by kernel_rfl) ?_
                    refine Op.goto 19 (by kernel_rfl) ?_
                    refine At.ret (f := Tryd.f43) (v := .tuple #[.slice none 0 0, .int .i64 90]) (by kernel_rfl) (by kernel_rfl) ?_
                    have s321 : St h g (ids []) g [] h316 := (s317).drop
                    refine hR _ _ _ _ s321 ⟨(.slice none 0 0), ?_, ?_, rfl⟩
                    · exact eqT2 rfl (eqI (by first | exact (no_ok (PInv_bad hP (by assumption) (by first | exact .inl (by assumption) | exact .inr ⟨_, {hx0}, by assumption⟩) (by assumption) (by assumption))).1 | exact (no_ok (PInv_bad hP (by assumption) (by first | exact .inl (by assumption) | exact .inr ⟨_, {hx0}, by assumption⟩) (by assumption) (by assumption))).2))
                    · exact slEq (SlR.empty _ _ _ _ _) (by first | exact (no_ok (PInv_bad hP (by assumption) (by first | exact .inl (by assumption) | exact .inr ⟨_, {hx0}, by assumption⟩) (by assumption) (by assumption))).1 | exact (no_ok (PInv_bad hP (by assumption) (by first | exact .inl (by assumption) | exact .inr ⟨_, {hx0}, by assumption⟩) (by assumption) (by assumption))).2)
                  · have c322 : (okPart ((p.take (i : Int).toNat).drop (fr : Int).toNat)) = true := (notF hb)
                    clear hb
                    refine At.keep [0, 4, 5, 6] ?_; show At _ _ _ [(0, .string (mkS p)), (4, .slice a309 out.length n310), (5, .int .i64 fr), (6, .int .i64 i)] _
                    refine At.reg (L := [(0, false), (1, false), (2, false), (3, false), (4, false), (5, false), (6, false), (7, false)]) (by kernel_rfl) ?_
                    refine Op.pures 4 [0, 4, 6, 46, 47, 48, 49] (L' := [(4, false), (5, false), (6, false), (7, false)]) (e' := [(0, .string (mkS p)), (4, .slice a309 out.length n310), (6, .int .i64 i), (46, .slice a309 out.length n310), (47, .string (mkS p)), (48, .int .i64 fr), (49, .int .i64 i)]) (by kernel_rfl) ?_
                    refine Op.strLoHi (T := 9) (k := .i64) (k' := .i64) (x := (.tmp 47)) (lo := (.tmp 48)) (hi := (.tmp 49)) (dst := 50) (l := p) (n := fr) (m := i) (by kernel_rfl) (by kernel_rfl) (by kernel_rfl) (by kernel_rfl) (by kernel_rfl) (by first | omega | (simp only [List.length_append, List.length_cons, List.length_nil, List.length_take, List.length_drop]; omega)) (by first | omega | (simp only [List.length_append, List.length_cons, List.length_nil, List.length_take, List.length_drop]; omega)) (by first | omega | (simp only [List.length_append, List.length_cons, List.length_nil, List.length_take, List.length_drop]; omega)) ?_
                    refine Op.lit (T := 37) (len := 1) (parts := #[(0, (.tmp 50))]) (dst := 51) (E := 9) (ps := [(0, .string (mkS ((p.take (i : Int).toNat).drop (fr : Int).toNat)))]) (cs := #[.string (mkS ((p.take (i : Int).toNat).drop (fr : Int).toNat))]) (by kernel_rfl) (by kernel_rfl) (by kernel_rfl) s317 ?_
                    intro b323 h324 s325
                    refine Op.append (x := (.tmp 46)) (y := (.tmp 51)) (t := 37) (t' := 37) (dst := 52) (E := 9) (by_ := 16) (d := kStr) (by kernel_rfl) (by kernel_rfl) (by kernel_rfl) (by kernel_rfl) rfl R312 s325 1 rfl (Src.lit (m := 1) (sz := 1) (s325.chunk 0 rfl) (news := [.string (mkS ((p.take (i : Int).toNat).drop (fr : Int).toNat))]) rfl rfl (by simp [Value.oneCell']) _) (ys := [(p.take (i : Int).toNat).drop (fr : Int).toNat]) (⟨_, _, rfl, rfl, Reads.nil⟩) rfl (by first | omega | (simp only [List.length_append, List.length_cons, List.length_nil, List.length_take, List.length_drop]; omega)) (fun _ _ _ => trivial) ?_
                    intro v326 ch327 h328 R329 s330 nn331
                    obtain ⟨a332, n333, rfl⟩ := R329.form
                    have s334 := (s330.front 0 rfl).drop
                    refine Op.pures 1 [0, 4, 6] (L' := []) (e' := [(0, .string (mkS p)), (4, .slice a332 ((out ++ ([(p.take (i : Int).toNat).drop (fr : Int).toNat])).length) n333), (6, .int .i64 i)]) (by kernel_rfl) ?_
                    refine Op.goto 21 (by kernel_rfl) ?_
                    refine At.reg (L := [(0, false), (1, false), (2, false)]) (by kernel_rfl) ?_
                    refine Op.pures 1 [0, 4, 6, 53] (L' := [(1, false), (2, false)]) (e' := [(0, .string (mkS p)), (4, .slice a332 ((out ++ ([(p.take (i : Int).toNat).drop (fr : Int).toNat])).length) n333), (6, .int .i64 i), (53, .int .i64 i)]) (by kernel_rfl) ?_
                    refine Op.val (dst := some 54) (v := .int .i64 (IntKind.wrap .i64 (i + 1))) (v' := .int .i64 (i + 1)) (by kernel_rfl) (wrapEq_i64 (by first | omega | (simp only [List.length_append, List.length_cons, List.length_nil, List.length_take, List.length_drop]; omega)) (by first | omega | (simp only [List.length_append, List.length_cons, List.length_nil, List.length_take, List.length_drop]; omega))) ?_
                    refine Op.pures 1 [0, 4, 5, 6] (L' := []) (e' := [(0, .string (mkS p)), (4, .slice a332 ((out ++ ([(p.take (i : Int).toNat).drop (fr : Int).toNat])).length) n333), (5, .int .i64 (i + 1)), (6, .int .i64 i)]) (by kernel_rfl) ?_
                    refine Op.goto 22 (by kernel_rfl) ?_
                    refine At.reg (L := [(0, false), (1, false), (2, false)]) (by kernel_rfl) ?_
                    refine Op.pures 1 [0, 4, 5, 6, 28] (L' := [(1, false), (2, false)]) (e' := [(0, .string (mkS p)), (4, .slice a332 ((out ++ ([(p.take (i : Int).toNat).drop (fr : Int).toNat])).length) n333), (5, .int .i64 (i + 1)), (6, .int .i64 i), (28, .int .i64 i)]) (by kernel_rfl) ?_
                    refine Op.val (dst := some 29) (v := .int .i64 (IntKind.wrap .i64 (i + 1))) (v' := .int .i64 (i + 1)) (by kernel_rfl) (wrapEq_i64 (by first | omega | (simp only [List.length_append, List.length_cons, List.length_nil, List.length_take, List.length_drop]; omega)) (by first | omega | (simp only [List.length_append, List.length_cons, List.length_nil, List.length_take, List.length_drop]; omega))) ?_
                    refine Op.pures 1 [0, 4, 5, 6] (L' := []) (e' := [(0, .string (mkS p)), (4, .slice a332 ((out ++ ([(p.take (i : Int).toNat).drop (fr : Int).toNat])).length) n333), (5, .int .i64 (i + 1)), (6, .int .i64 (i + 1))]) (by kernel_rfl) ?_
                    refine Op.goto 12 (by kernel_rfl) ?_
                    exact ih12  (out ++ ([(p.take (i : Int).toNat).drop (fr : Int).toNat])) (i + 1) (i + 1) _ _ _ _ (by omega) (by first | omega | (simp only [List.length_append, List.length_cons, List.length_nil, List.length_take, List.length_drop]; omega)) (by first | omega | (simp only [List.length_append, List.length_cons, List.length_nil, List.length_take, List.length_drop]; omega)) (by first | omega | (simp only [List.length_append, List.length_cons, List.length_nil, List.length_take, List.length_drop]; omega)) (by first | omega | (simp only [List.length_append, List.length_cons, List.length_nil, List.length_take, List.length_drop]; omega)) (by first | omega | (simp only [List.length_append, List.length_cons, List.length_nil, List.length_take, List.length_drop]; omega)) (by first | exact PInv_miss hP (by assumption) (by assumption) {hx0} (by assumption) | exact PInv_next hP (by assumption) (by first | exact .inl (by assumption) | exact .inr ⟨_, {hx0}, by assumption⟩) (by assumption)) R329 s334
                · refine Op.cast (e' := [(0, .string (mkS p)), (4, .slice a309 out.length n310), (5, .int .i64 fr), (6, .int .i64 i), (34, .bool false)]) (by rw [hb]) ?_
                  have c335 : ¬ (i = (p.length : Int)) := neF hb
                  clear hb
                  refine Op.pures 2 [0, 4, 5, 6, 34, 35, 36] (L' := [(7, false), (8, false), (9, false)]) (e' := [(0, .string (mkS p)), (4, .slice a309 out.length n310), (5, .int .i64 fr), (6, .int .i64 i), (34, .bool false), (35, .string (mkS p)), (36, .int .i64 i)]) (by kernel_rfl) ?_
                  obtain ⟨x336, hx337⟩ : ∃ c, p[(i : Int).toNat]? = some c := ⟨_, List.getElem?_eq_getElem (by first | omega | (simp only [List.length_append, List.length_cons, List.length_nil, List.length_take, List.length_drop]; omega))⟩
                  refine Op.strIdx (T := 9) (k := .i64) (x := (.tmp 35)) (ix := (.tmp 36)) (dst := 37) (l := p) (n := i) (by kernel_rfl) (by kernel_rfl) (by kernel_rfl) (by kernel_rfl) (by first | omega | (simp only [List.length_append, List.length_cons, List.length_nil, List.length_take, List.length_drop]; omega)) hx337 ?_
                  refine Op.pures 2 [0, 4, 5, 6, 39] (L' := []) (e' := [(0, .string (mkS p)), (4, .slice a309 out.length n310), (5, .int .i64 fr), (6, .int .i64 i), (39, .bool ((x336.toNat : Int) == (47 : Int)))]) (by kernel_rfl) ?_
                  refine Op.goto 15 (by kernel_rfl) ?_
                  refine At.cond (b := (x336.toNat : Int) == (47 : Int)) (c := .tmp 39) (by kernel_rfl) (by kernel_rfl) (by kernel_rfl) 16 22 (by kernel_rfl) (by kernel_rfl) (fun hb => ?_) (fun hb => ?_)
                  · have c338 : (x336.toNat : Int) = (47 : Int) := eq_of_beq hb
                    clear hb
                    refine At.keep [0, 4, 5, 6] ?_; show At _ _ _ [(0, .string (mkS p)), (4, .slice a309 out.length n310), (5, .int .i64 fr), (6, .int .i64 i)] _
                    refine At.reg (L := [(0, false), (1, false), (2, false), (3, false), (4, false), (5, false)]) (by kernel_rfl) ?_
                    refine Op.pures 3 [0, 4, 5, 6, 40, 41, 42] (L' := [(3, false), (4, false), (5, false)]) (e' := [(0, .string (mkS p)), (4, .slice a309 out.length n310), (5, .int .i64 fr), (6, .int .i64 i), (40, .string (mkS p)), (41, .int .i64 fr), (42, .int .i64 i)]) (by kernel_rfl) ?_
                    refine Op.strLoHi (T := 9) (k := .i64) (k' := .i64) (x := (.tmp 40)) (lo := (.tmp 41)) (hi := (.tmp 42)) (dst := 43) (l := p) (n := fr) (m := i) (by kernel_rfl) (by kernel_rfl) (by kernel_rfl) (by kernel_rfl) (by kernel_rfl) (by first | omega | (simp only [List.length_append, List.length_cons, List.length_nil, List.length_take, List.length_drop]; omega)) (by first | omega | (simp only [List.length_append, List.length_cons, List.length_nil, List.length_take, List.length_drop]; omega)) (by first | omega | (simp only [List.length_append, List.length_cons, List.length_nil, List.length_take, List.length_drop]; omega)) ?_
                    refine Op.call0 (dst := some 44) (f := 69) (args := #[.string (mkS ((p.take (i : Int).toNat).drop (fr : Int).toNat))]) (by kernel_rfl) s_loop12312 (partR _ _ _ s_loop12312.sub hG ((p.take (i : Int).toNat).drop (fr : Int).toNat) (by ((try dsimp only) <;> (first | omega | (simp only [List.length_append, List.length_cons, List.length_nil, List.length_take, List.length_drop]; omega)))) ) ?_
                    rintro _ g341 _ h339 hle342 s340 ⟨rfl, hgg, rfl⟩; subst g341; clear hle342
                    refine Op.pures 1 [0, 4, 5, 6, 45] (L' := []) (e' := [(0, .string (mkS p)), (4, .slice a309 out.length n310), (5, .int .i64 fr), (6, .int .i64 i), (45, .bool (!(okPart ((p.take (i : Int).toNat).drop (fr : Int).toNat))))]) (by kernel_rfl) ?_
                    refine Op.goto 17 (by kernel_rfl) ?_
                    refine At.cond (b := !(okPart ((p.take (i : Int).toNat).drop (fr : Int).toNat))) (c := .tmp 45) (by kernel_rfl) (by kernel_rfl) (by kernel_rfl) 18 20 (by kernel_rfl) (by kernel_rfl) (fun hb => ?_) (fun hb => ?_)
                    · have c343 : (okPart ((p.take (i : Int).toNat).drop (fr : Int).toNat)) = false := (notT hb)
                      clear hb
                      refine At.keep [] ?_; show At _ _ _ [] _
                      refine At.reg (L := [(0, false), (1, false)]) (by kernel_rfl) ?_
                      refine Op.pures 2 [2, 3] (L' := []) (e' := [(2, .slice none 0 0), (3, .int .i64 90)]) (by kernel_rfl) ?_
                      refine Op.goto 19 (by kernel_rfl) ?_
                      refine At.ret (f := Tryd.f43) (v := .tuple #[.slice none 0 0, .int .i64 90]) (by kernel_rfl) (by kernel_rfl) ?_
                      have s344 : St h g (ids []) g [] h339 := (s340).drop
                      refine hR _ _ _ _ s344 ⟨(.slice none 0 0), ?_, ?_, rfl⟩
                      · exact eqT2 rfl (eqI (by first | exact (no_ok (PInv_bad hP (by assumption) (by first | exact .inl (by assumption) | exact .inr ⟨_, hx337, by assumption⟩) (by assumption) (by assumption))).1 | exact (no_ok (PInv_bad hP (by assumption) (by first | exact .inl (by assumption) | exact .inr ⟨_, hx337, by assumption⟩) (by assumption) (by assumption))).2))
                      · exact slEq (SlR.empty _ _ _ _ _) (by first | exact (no_ok (PInv_bad hP (by assumption) (by first | exact .inl (by assumption) | exact .inr ⟨_, hx337, by assumption⟩) (by assumption) (by assumption))).1 | exact (no_ok (PInv_bad hP (by assumption) (by first | exact .inl (by assumption) | exact .inr ⟨_, hx337, by assumption⟩) (by assumption) (by assumption))).2)
                    · have c345 : (okPart ((p.take (i : Int).toNat).drop (fr : Int).toNat)) = true := (notF hb)
                      clear hb
                      refine At.keep [0, 4, 5, 6] ?_; show At _ _ _ [(0, .string (mkS p)), (4, .slice a309 out.length n310), (5, .int .i64 fr), (6, .int .i64 i)] _
                      refine At.reg (L := [(0, false), (1, false), (2, false), (3, false), (4, false), (5, false), (6, false), (7, false)]) (by kernel_rfl) ?_
                      refine Op.pures 4 [0, 4, 6, 46, 47, 48, 49] (L' := [(4, false), (5, false), (6, false), (7, false)]) (e' := [(0, .string (mkS p)), (4, .slice a309 out.length n310), (6, .int .i64 i), (46, .slice a309 out.length n310), (47, .string (mkS p)), (48, .int .i64 fr), (49, .int .i64 i)]) (by kernel_rfl) ?_
                      refine Op.strLoHi (T := 9) (k := .i64) (k' := .i64) (x := (.tmp 47)) (lo := (.tmp 48)) (hi := (.tmp 49)) (dst := 50) (l := p) (n := fr) (m := i) (by kernel_rfl) (by kernel_rfl) (by kernel_rfl) (by kernel_rfl) (by kernel_rfl) (by first | omega | (simp only [List.length_append, List.length_cons, List.length_nil, List.length_take, List.length_drop]; omega)) (by first | omega | (simp only [List.length_append, List.length_cons, List.length_nil, List.length_take, List.length_drop]; omega)) (by first | omega | (simp only [List.length_append, List.length_cons, List.length_nil, List.length_take, List.length_drop]; omega)) ?_
                      refine Op.lit (T := 37) (len := 1) (parts := #[(0, (.tmp 50))]) (dst := 51) (E := 9) (ps := [(0, .string (mkS ((p.take (i : Int).toNat).drop (fr : Int).toNat)))]) (cs := #[.string (mkS ((p.take (i : Int).toNat).drop (fr : Int).toNat))]) (by kernel_rfl) (by kernel_rfl) (by kernel_rfl) s340 ?_
                      intro b346 h347 s348
                      refine Op.append (x := (.tmp 46)) (y := (.tmp 51)) (t := 37) (t' := 37) (dst := 52) (E := 9) (by_ := 16) (d := kStr) (by kernel_rfl) (by kernel_rfl) (by kernel_rfl) (by kernel_rfl) rfl R312 s348 1 rfl (Src.lit (m := 1) (sz := 1) (s348.chunk 0 rfl) (news := [.string (mkS ((p.take (i : Int).toNat).drop (fr : Int).toNat))]) rfl rfl (by simp [Value.oneCell']) _) (ys := [(p.take (i : Int).toNat).drop (fr : Int).toNat]) (⟨_, _, rfl, rfl, Reads.nil⟩) rfl (by first | omega | (simp only [List.length_append, List.length_cons, List.length_nil, List.length_take, List.length_drop]; omega)) (fun _ _ _ => trivial) ?_
                      intro v349 ch350 h351 R352 s353 nn354
                      obtain ⟨a355, n356, rfl⟩ := R352.form
                      have s357 := (s353.front 0 rfl).drop
                      refine Op.pures 1 [0, 4, 6] (L' := []) (e' := [(0, .string (mkS p)), (4, .slice a355 ((out ++ ([(p.take (i : Int).toNat).drop (fr : Int).toNat])).length) n356), (6, .int .i64 i)]) (by kernel_rfl) ?_
                      refine Op.goto 21 (by kernel_rfl) ?_
                      refine At.reg (L := [(0, false), (1, false), (2, false)]) (by kernel_rfl) ?_
                      refine Op.pures 1 [0, 4, 6, 53] (L' := [(1, false), (2, false)]) (e' := [(0, .string (mkS p)), (4, .slice a355 ((out ++ ([(p.take (i : Int).toNat).drop (fr : Int).toNat])).length) n356), (6, .int .i64 i), (53, .int .i64 i)]) (by kernel_rfl) ?_
                      refine Op.val (dst := some 54) (v := .int .i64 (IntKind.wrap .i64 (i + 1))) (v' := .int .i64 (i + 1)) (by kernel_rfl) (wrapEq_i64 (by first | omega | (simp only [List.length_append, List.length_cons, List.length_nil, List.length_take, List.length_drop]; omega)) (by first | omega | (simp only [List.length_append, List.length_cons, List.length_nil, List.length_take, List.length_drop]; omega))) ?_
                      refine Op.pures 1 [0, 4, 5, 6] (L' := []) (e' := [(0, .string (mkS p)), (4, .slice a355 ((out ++ ([(p.take (i : Int).toNat).drop (fr : Int).toNat])).length) n356), (5, .int .i64 (i + 1)), (6, .int .i64 i)]) (by kernel_rfl) ?_
                      refine Op.goto 22 (by kernel_rfl) ?_
                      refine At.reg (L := [(0, false), (1, false), (2, false)]) (by kernel_rfl) ?_
                      refine Op.pures 1 [0, 4, 5, 6, 28] (L' := [(1, false), (2, false)]) (e' := [(0, .string (mkS p)), (4, .slice a355 ((out ++ ([(p.take (i : Int).toNat).drop (fr : Int).toNat])).length) n356), (5, .int .i64 (i + 1)), (6, .int .i64 i), (28, .int .i64 i)]) (by kernel_rfl) ?_
                      refine Op.val (dst := some 29) (v := .int .i64 (IntKind.wrap .i64 (i + 1))) (v' := .int .i64 (i + 1)) (by kernel_rfl) (wrapEq_i64 (by first | omega | (simp only [List.length_append, List.length_cons, List.length_nil, List.length_take, List.length_drop]; omega)) (by first | omega | (simp only [List.length_append, List.length_cons, List.length_nil, List.length_take, List.length_drop]; omega))) ?_
                      refine Op.pures 1 [0, 4, 5, 6] (L' := []) (e' := [(0, .string (mkS p)), (4, .slice a355 ((out ++ ([(p.take (i : Int).toNat).drop (fr : Int).toNat])).length) n356), (5, .int .i64 (i + 1)), (6, .int .i64 (i + 1))]) (by kernel_rfl) ?_
                      refine Op.goto 12 (by kernel_rfl) ?_
                      exact ih12  (out ++ ([(p.take (i : Int).toNat).drop (fr : Int).toNat])) (i + 1) (i + 1) _ _ _ _ (by omega) (by first | omega | (simp only [List.length_append, List.length_cons, List.length_nil, List.length_take, List.length_drop]; omega)) (by first | omega | (simp only [List.length_append, List.length_cons, List.length_nil, List.length_take, List.length_drop]; omega)) (by first | omega | (simp only [List.length_append, List.length_cons, List.length_nil, List.length_take, List.length_drop]; omega)) (by first | omega | (simp only [List.length_append, List.length_cons, List.length_nil, List.length_take, List.length_drop]; omega)) (by first | omega | (simp only [List.length_append, List.length_cons, List.length_nil, List.length_take, List.length_drop]; omega)) (by first | exact PInv_miss hP (by assumption) (by assumption) hx337 (by assumption) | exact PInv_next hP (by assumption) (by first | exact .inl (by assumption) | exact .inr ⟨_, hx337, by assumption⟩) (by assumption)) R352 s357
                  · have c358 : ¬ ((x336.toNat : Int) = (47 : Int)) := neF hb
                    clear hb
                    refine At.keep [0, 4, 5, 6] ?_; show At _ _ _ [(0, .string (mkS p)), (4, .slice a309 out.length n310), (5, .int .i64 fr), (6, .int .i64 i)] _
                    refine At.reg (L := [(0, false), (1, false), (2, false)]) (by kernel_rfl) ?_
                    refine Op.pures 1 [0, 4, 5, 6, 28] (L' := [(1, false), (2, false)]) (e' := [(0, .string (mkS p)), (4, .slice a309 out.length n310), (5, .int .i64 fr), (6, .int .i64 i), (28, .int .i64 i)]) (by kernel_rfl) ?_
                    refine Op.val (dst := some 29) (v := .int .i64 (IntKind.wrap .i64 (i + 1))) (v' := .int .i64 (i + 1)) (by kernel_rfl) (wrapEq_i64 (by first | omega | (simp only [List.length_append, List.length_cons, List.length_nil, List.length_take, List.length_drop]; omega)) (by first | omega | (simp only [List.length_append, List.length_cons, List.length_nil, List.length_take, List.length_drop]; omega))) ?_
                    refine Op.pures 1 [0, 4, 5, 6] (L' := []) (e' := [(0, .string (mkS p)), (4, .slice a309 out.length n310), (5, .int .i64 fr), (6, .int .i64 (i + 1))]) (by kernel_rfl) ?_
                    refine Op.goto 12 (by kernel_rfl) ?_
                    exact ih12  out fr (i + 1) _ _ _ _ (by omega) (by first | omega | (simp only [List.length_append, List.length_cons, List.length_nil, List.length_take, List.length_drop]; omega)) (by first | omega | (simp only [List.length_append, List.length_cons, List.length_nil, List.length_take, List.length_drop]; omega)) (by first | omega | (simp only [List.length_append, List.length_cons, List.length_nil, List.length_take, List.length_drop]; omega)) (by first | omega | (simp only [List.length_append, List.length_cons, List.length_nil, List.length_take, List.length_drop]; omega)) (by first | omega | (simp only [List.length_append, List.length_cons, List.length_nil, List.length_take, List.length_drop]; omega)) (by first | exact PInv_miss hP (by assumption) (by assumption) hx337 (by assumption) | exact PInv_next hP (by assumption) (by first | exact .inl (by assumption) | exact .inr ⟨_, hx337, by assumption⟩) (by assumption)) R312 s_loop12312
              · have c359 : ¬ (i ≤ (p.length : Int)) := of_decide_eq_false hb
                clear hb
                refine At.keep [4] ?_; show At _ _ _ [(4, .slice a309 out.length n310)] _
                refine At.reg (L := [(0, false), (1, false), (2, false)]) (by kernel_rfl) ?_
                refine Op.pures 3 [2, 3] (L' := []) (e' := [(2, .slice a309 out.length n310), (3, .int .i64 0)]) (by kernel_rfl) ?_
                refine Op.goto 24 (by kernel_rfl) ?_
                obtain ⟨g360, s361, hle362, hf363⟩ := Row.freeze R312 (s_loop12312.front 0 rfl)
                replace hG := hG.mono hle362
                refine At.ret (f := Tryd.f43) (v := .tuple #[.slice a309 out.length n310, .int .i64 0]) (by kernel_rfl) (by kernel_rfl) ?_
                refine hR _ _ _ _ s361 ⟨(.slice a309 out.length n310), ?_, ?_, rfl⟩
                · exact eqT2 rfl (eqI (by first | exact (PInv_end hP (by assumption) (by assumption) (head_at (by assumption) (by assumption)) (by assumption)).1 | exact (PInv_end hP (by assumption) (by assumption) (head_at (by assumption) (by assumption)) (by assumption)).2))
                · exact slEq hf363 (by first | exact (PInv_end hP (by assumption) (by assumption) (head_at (by assumption) (by assumption)) (by assumption)).1 | exact (PInv_end hP (by assumption) (by assumption) (head_at (by assumption) (by assumption)) (by assumption)).2)
          have R364 : Row 9 kStr g (.slice (some ⟨b299, 0, none⟩) 0 0) ([] : List (List UInt8)) [(b299, Obj.cells #[] 9 (0, 0))] := Row.lit (by kernel_rfl) (by unfold maxLen; decide) (by kernel_rfl) Reads.nil
          exact loop12 _  ([] : List (List UInt8)) 1 1 _ _ _ _ (Nat.lt_succ_self _) (by first | omega | (simp only [List.length_append, List.length_cons, List.length_nil, List.length_take, List.length_drop]; omega)) (by first | omega | (simp only [List.length_append, List.length_cons, List.length_nil, List.length_take, List.length_drop]; omega)) (by first | omega | (simp only [List.length_append, List.length_cons, List.length_nil, List.length_take, List.length_drop]; omega)) (by first | omega | (simp only [List.length_append, List.length_cons, List.length_nil, List.length_take, List.length_drop]; omega)) (by decide) (by exact PInv_0 (by omega)) R364 s301

/-- stanchion/stanchionref09.Check -/
theorem checkR (B : World) (h : Heap) (g : GH) (hg : Sub g h) (hG : Glob g) (p : List UInt8) (hlen : p.length ≤ 1000000000) :
    Spec Tryd.prog B 39 #[.string (mkS p)] h g [] (fun rv g' L' => rv = .int .i64 (pErr p) ∧ g' = g ∧ L' = []) := by
  refine Spec.of_at (f := Tryd.f39) (e := [(0, .string (mkS p))]) Tryd.func39 (by kernel_rfl) (Nat.le_of_ble_eq_true (by kernel_rfl)) (by kernel_rfl) (by kernel_rfl) ?_
  intro R hR
  have s0 := St.init hg
  refine At.reg (L := [(0, false)]) (by kernel_rfl) ?_
  refine Op.pures 1 [0] (L' := []) (e' := [(0, .string (mkS p))]) (by kernel_rfl) ?_
  refine Op.goto 1 (by kernel_rfl) ?_
  refine At.reg (L := [(0, false), (1, false), (2, false), (3, false), (4, false), (5, false), (6, false)]) (by kernel_rfl) ?_
  refine Op.pures 1 [6] (L' := [(1, false), (2, false), (3, false), (4, false), (5, false), (6, false)]) (e' := [(6, .string (mkS p))]) (by kernel_rfl) ?_
  refine Op.call0 (dst := some 7) (f := 43) (args := #[.string (mkS p)]) (by kernel_rfl) s0 (partsR _ _ _ s0.sub hG p (by ((try dsimp only) <;> (omega))) ) ?_
  rintro _ g371 _ h365 hle372 s366 ⟨v367, rfl, hr368, rfl⟩
  obtain ⟨a369, n370, rfl⟩ := hr368.form
  replace hG := hG.mono hle372
  refine Op.pures 5 [4] (L' := []) (e' := [(4, .int .i64 (pErr p))]) (by kernel_rfl) ?_
  refine Op.goto 2 (by kernel_rfl) ?_
  refine At.reg (L := [(0, false), (1, false)]) (by kernel_rfl) ?_
  refine Op.pures 2 [2] (L' := []) (e' := [(2, .int .i64 (pErr p))]) (by kernel_rfl) ?_
  refine Op.goto 3 (by kernel_rfl) ?_
  refine At.ret (f := Tryd.f39) (v := .int .i64 (pErr p)) (by kernel_rfl) (by kernel_rfl) ?_
  have s373 : St h g (ids []) g [] h365 := s366.unfrz
  refine hR _ _ _ _ s373 ⟨?_, rfl, rfl⟩
  exact (eqI (by rfl))

/-- stanchion/stanchionref09.Parent -/
theorem parentR (B : World) (h : Heap) (g : GH) (hg : Sub g h) (hG : Glob g) (p : List UInt8) (hlen : p.length ≤ 1000000000) :
    Spec Tryd.prog B 35 #[.string (mkS p)] h g [] (fun rv g' L' => rv = .tuple #[.string (mkS (parentOf p)), .int .i64 (cutErr p)] ∧ g' = g ∧ L' = []) := by
  refine Spec.of_at (f := Tryd.f35) (e := [(0, .string (mkS p))]) Tryd.func35 (by kernel_rfl) (Nat.le_of_ble_eq_true (by kernel_rfl)) (by kernel_rfl) (by kernel_rfl) ?_
  intro R hR
  have s0 := St.init hg
  refine At.reg (L := [(0, false), (1, false)]) (by kernel_rfl) ?_
  refine Op.pures 2 [0] (L' := []) (e' := [(0, .string (mkS p))]) (by kernel_rfl) ?_
  refine Op.goto 1 (by kernel_rfl) ?_
  refine At.reg (L := [(0, false), (1, false), (2, false), (3, false), (4, false), (5, false), (6, false)]) (by kernel_rfl) ?_
  refine Op.pures 1 [7] (L' := [(1, false), (2, false), (3, false), (4, false), (5, false), (6, false)]) (e' := [(7, .string (mkS p))]) (by kernel_rfl) ?_
  refine Op.call0 (dst := some 8) (f := 43) (args := #[.string (mkS p)]) (by kernel_rfl) s0 (partsR _ _ _ s0.sub hG p (by ((try dsimp only) <;> ((have := pList_len p; omega)))) ) ?_
  rintro _ g380 _ h374 hle381 s375 ⟨v376, rfl, hr377, rfl⟩
  obtain ⟨a378, n379, rfl⟩ := hr377.form
  replace hG := hG.mono hle381
  refine Op.pures 5 [4, 5] (L' := []) (e' := [(4, .slice a378 ((pList p).length) n379), (5, .int .i64 (pErr p))]) (by kernel_rfl) ?_
  refine Op.goto 2 (by kernel_rfl) ?_
  refine At.reg (L := [(0, false), (1, false), (2, false), (3, false), (4, false), (5, false), (6, false)]) (by kernel_rfl) ?_
  refine Op.pures 3 [4, 13] (L' := [(3, false), (4, false), (5, false), (6, false)]) (e' := [(4, .slice a378 ((pList p).length) n379), (13, .bool ((pErr p) != (0 : Int)))]) (by kernel_rfl) ?_
  refine Op.ways (b := (pErr p) != (0 : Int)) ⟨fun hb => ?_, fun hb => ?_⟩
  · refine Op.cast (e' := [(4, .slice a378 ((pList p).length) n379), (13, .bool true)]) (by rw [hb]) ?_
    have c382 : ¬ ((pErr p) = (0 : Int)) := bneT hb
    clear hb
    refine Op.pures 4 [4, 17] (L' := []) (e' := [(4, .slice a378 ((pList p).length) n379), (17, .bool true)]) (by kernel_rfl) ?_
    refine Op.goto 3 (by kernel_rfl) ?_
    refine At.condT (c := .tmp 17) (by kernel_rfl) (by kernel_rfl) (by kernel_rfl) 4 (by kernel_rfl) ?_
    refine At.reg (L := [(0, false), (1, false)]) (by kernel_rfl) ?_
    refine Op.pures 2 [2, 3] (L' := []) (e' := [(2, .string (mkS [])), (3, .int .i64 90)]) (by kernel_rfl) ?_
    refine Op.goto 5 (by kernel_rfl) ?_
    refine At.ret (f := Tryd.f35) (v := .tuple #[.string (mkS []), .int .i64 90]) (by kernel_rfl) (by kernel_rfl) ?_
    have s383 : St h g (ids []) g [] h374 := s375.unfrz
    refine hR _ _ _ _ s383 ⟨?_, rfl, rfl⟩
    exact eqT2 (eqS (by first | exact (parentR_no (pList_no (by assumption))).1 | exact (parentR_no (pList_no (by assumption))).2.1 | exact (parentR_no (pList_no (by assumption))).2.2 | exact (parentR_no (nil_len (by assumption))).1 | exact (parentR_no (nil_len (by assumption))).2.1 | exact (parentR_no (nil_len (by assumption))).2.2)) (eqI (by first | exact (parentR_no (pList_no (by assumption))).1 | exact (parentR_no (pList_no (by assumption))).2.1 | exact (parentR_no (pList_no (by assumption))).2.2 | exact (parentR_no (nil_len (by assumption))).1 | exact (parentR_no (nil_len (by assumption))).2.1 | exact (parentR_no (nil_len (by assumption))).2.2))
  · refine Op.cast (e' := [(4, .slice a378 ((pList p).length) n379), (13, .bool false)]) (by rw [hb]) ?_
    have c384 : (pErr p) = (0 : Int) := bneF hb
    clear hb
    refine Op.pures 4 [4, 17] (L' := []) (e' := [(4, .slice a378 ((pList p).length) n379), (17, .bool (((pList p).length : Int) == (0 : Int)))]) (by kernel_rfl) ?_
    refine Op.goto 3 (by kernel_rfl) ?_
    refine At.cond (b := ((pList p).length : Int) == (0 : Int)) (c := .tmp 17) (by kernel_rfl) (by kernel_rfl) (by kernel_rfl) 4 6 (by kernel_rfl) (by kernel_rfl) (fun hb => ?_) (fun hb => ?_)
    · have c385 : ((pList p).length : Int) = (0 : Int) := eq_of_beq hb
      clear hb
      refine At.keep [] ?_; show At _ _ _ [] _
      refine At.reg (L := [(0, false), (1, false)]) (by kernel_rfl) ?_
      refine Op.pures 2 [2, 3] (L' := []) (e' := [(2, .string (mkS [])), (3, .int .i64 90)]) (by kernel_rfl) ?_
      refine Op.goto 5 (by kernel_rfl) ?_
      refine At.ret (f := Tryd.f35) (v := .tuple #[.string (mkS []), .int .i64 90]) (by kernel_rfl) (by kernel_rfl) ?_
      have s386 : St h g (ids []) g [] h374 := s375.unfrz
      refine hR _ _ _ _ s386 ⟨?_, rfl, rfl⟩
      exact eqT2 (eqS (by first | exact (parentR_no (pList_no (by assumption))).1 | exact (parentR_no (pList_no (by assumption))).2.1 | exact (parentR_no (pList_no (by assumption))).2.2 | exact (parentR_no (nil_len (by assumption))).1 | exact (parentR_no (nil_len (by assumption))).2.1 | exact (parentR_no (nil_len (by assumption))).2.2)) (eqI (by first | exact (parentR_no (pList_no (by assumption))).1 | exact (parentR_no (pList_no (by assumption))).2.1 | exact (parentR_no (pList_no (by assumption))).2.2 | exact (parentR_no (nil_len (by assumption))).1 | exact (parentR_no (nil_len (by assumption))).2.1 | exact (parentR_no (nil_len (by assumption))).2.2))
    · have c387 : ¬ (((pList p).length : Int) = (0 : Int)) := neF hb
      clear hb
      refine At.keep [4] ?_; show At _ _ _ [(4, .slice a378 ((pList p).length) n379)] _
      refine At.reg (L := [(0, false), (1, false), (2, false), (3, false), (4, false), (5, false), (6, false), (7, false)]) (by kernel_rfl) ?_
      refine Op.pures 3 [18, 20] (L' := [(3, false), (4, false), (5, false), (6, false), (7, false)]) (e' := [(18, .slice a378 ((pList p).length) n379), (20, .int .i64 ((pList p).length : Int))]) (by kernel_rfl) ?_
      refine Op.val (dst := some 21) (v := .int .i64 (IntKind.wrap .i64 (((pList p).length : Int) - 1))) (v' := .int .i64 (((pList p).length : Int) - 1)) (by kernel_rfl) (wrapEq_i64 (by (have := pList_len p; omega)) (by (have := pList_len p; omega))) ?_
      refine Op.slHiD (T := 37) (E := 9) (by_ := 16) (x := (.tmp 18)) (ao := a378) (n := ((pList p).length)) (c := n379) (dst := 22) (d := kStr) (hi := (.tmp 21)) (k := .i64) (m := ((pList p).length : Int) - 1) (by kernel_rfl) (by kernel_rfl) (by kernel_rfl) (by kernel_rfl) hr377 (by (have := pList_len p; omega)) (by (have := pList_len p; omega)) ?_
      intro v388 hr389
      obtain ⟨a390, n391, rfl⟩ := hr389.form
      refine Op.call0 (dst := some 23) (f := 62) (args := #[.slice a390 (((pList p).take (((pList p).length : Int) - 1 : Int).toNat).length) n391]) (by kernel_rfl) s375 (wholeR _ _ _ s375.sub hG _ _ hr389 (by ((try dsimp only) <;> (first | (have := pList_len p; simp only [List.length_take]; omega) | (rw [take_last rfl (by assumption)]; have := pDrop_len p; simp only [joined, List.length_cons]; omega)))) (by ((try dsimp only) <;> (first | (have := pList_len p; simp only [List.length_take]; omega) | (rw [take_last rfl (by assumption)]; have := pDrop_len p; simp only [joined, List.length_cons]; omega)))) ) ?_
      rintro _ g394 _ h392 hle395 s393 ⟨rfl, hgg, rfl⟩; subst g394; clear hle395
      refine Op.pures 2 [2, 3] (L' := []) (e' := [(2, .string (mkS (joined ((pList p).take (((pList p).length : Int) - 1 : Int).toNat)))), (3, .int .i64 0)]) (by kernel_rfl) ?_
      refine Op.goto 7 (by kernel_rfl) ?_
      refine At.ret (f := Tryd.f35) (v := .tuple #[.string (mkS (joined ((pList p).take (((pList p).length : Int) - 1 : Int).toNat))), .int .i64 0]) (by kernel_rfl) (by kernel_rfl) ?_
      have s396 : St h g (ids []) g [] h392 := s393.unfrz
      refine hR _ _ _ _ s396 ⟨?_, rfl, rfl⟩
      exact eqT2 (eqS (by first | exact (parentR_ok (by assumption)).1 | exact (parentR_ok (by assumption)).2)) (eqI (by first | exact (parentR_ok (by assumption)).1 | exact (parentR_ok (by assumption)).2))

/-- stanchion/stanchionref09.Name -/
theorem nameR (B : World) (h : Heap) (g : GH) (hg : Sub g h) (hG : Glob g) (p : List UInt8) (hlen : p.length ≤ 1000000000) :
    Spec Tryd.prog B 37 #[.string (mkS p)] h g [] (fun rv g' L' => rv = .tuple #[.string (mkS (nameOf p)), .int .i64 (cutErr p)] ∧ g' = g ∧ L' = []) := by
  refine Spec.of_at (f := Tryd.f37) (e := [(0, .string (mkS p))]) Tryd.func37 (by kernel_rfl) (Nat.le_of_ble_eq_true (by kernel_rfl)) (by kernel_rfl) (by kernel_rfl) ?_
  intro R hR
  have s0 := St.init hg
  refine At.reg (L := [(0, false), (1, false)]) (by kernel_rfl) ?_
  refine Op.pures 2 [0] (L' := []) (e' := [(0, .string (mkS p))]) (by kernel_rfl) ?_
  refine Op.goto 1 (by kernel_rfl) ?_
  refine At.reg (L := [(0, false), (1, false), (2, false), (3, false), (4, false), (5, false), (6, false)]) (by kernel_rfl) ?_
  refine Op.pures 1 [7] (L' := [(1, false), (2, false), (3, false), (4, false), (5, false), (6, false)]) (e' := [(7, .string (mkS p))]) (by kernel_rfl) ?_
  refine Op.call0 (dst := some 8) (f := 43) (args := #[.string (mkS p)]) (by kernel_rfl) s0 (partsR _ _ _ s0.sub hG p (by ((try dsimp only) <;> ((have := pList_len p; omega)))) ) ?_
  rintro _ g403 _ h397 hle404 s398 ⟨v399, rfl, hr400, rfl⟩
  obtain ⟨a401, n402, rfl⟩ := hr400.form
  replace hG := hG.mono hle404
  refine Op.pures 5 [4, 5] (L' := []) (e' := [(4, .slice a401 ((pList p).length) n402), (5, .int .i64 (pErr p))]) (by kernel_rfl) ?_
  refine Op.goto 2 (by kernel_rfl) ?_
  refine At.reg (L := [(0, false), (1, false), (2, false), (3, false), (4, false), (5, false), (6, false)]) (by kernel_rfl) ?_
  refine Op.pures 3 [4, 13] (L' := [(3, false), (4, false), (5, false), (6, false)]) (e' := [(4, .slice a401 ((pList p).length) n402), (13, .bool ((pErr p) != (0 : Int)))]) (by kernel_rfl) ?_
  refine Op.ways (b := (pErr p) != (0 : Int)) ⟨fun hb => ?_, fun hb => ?_⟩
  · refine Op.cast (e' := [(4, .slice a401 ((pList p).length) n402), (13, .bool true)]) (by rw [hb]) ?_
    have c405 : ¬ ((pErr p) = (0 : Int)) := bneT hb
    clear hb
    refine Op.pures 4 [4, 17] (L' := []) (e' := [(4, .slice a401 ((pList p).length) n402), (17, .bool true)]) (by kernel_rfl) ?_
    refine Op.goto 3 (by kernel_rfl) ?_
    refine At.condT (c := .tmp 17) (by kernel_rfl) (by kernel_rfl) (by kernel_rfl) 4 (by kernel_rfl) ?_
    refine At.reg (L := [(0, false), (1, false)]) (by kernel_rfl) ?_
    refine Op.pures 2 [2, 3] (L' := []) (e' := [(2, .string (mkS [])), (3, .int .i64 90)]) (by kernel_rfl) ?_
    refine Op.goto 5 (by kernel_rfl) ?_
    refine At.ret (f := Tryd.f37) (v := .tuple #[.string (mkS []), .int .i64 90]) (by kernel_rfl) (by kernel_rfl) ?_
    have s406 : St h g (ids []) g [] h397 := s398.unfrz
    refine hR _ _ _ _ s406 ⟨?_, rfl, rfl⟩
    exact eqT2 (eqS (by first | exact (parentR_no (pList_no (by assumption))).1 | exact (parentR_no (pList_no (by assumption))).2.1 | exact (parentR_no (pList_no (by assumption))).2.2 | exact (parentR_no (nil_len (by assumption))).1 | exact (parentR_no (nil_len (by assumption))).2.1 | exact (parentR_no (nil_len (by assumption))).2.2)) (eqI (by first | exact (parentR_no (pList_no (by assumption))).1 | exact (parentR_no (pList_no (by assumption))).2.1 | exact (parentR_no (pList_no (by assumption))).2.2 | exact (parentR_no (nil_len (by assumption))).1 | exact (parentR_no (nil_len (by assumption))).2.1 | exact (parentR_no (nil_len (by assumption))).2.2))
  · refine Op.cast (e' := [(4, .slice a401 ((pList p).length) n402), (13, .bool false)]) (by rw [hb]) ?_
    have c407 : (pErr p) = (0 : Int) := bneF hb
    clear hb
    refine Op.pures 4 [4, 17] (L' := []) (e' := [(4, .slice a401 ((pList p).length) n402), (17, .bool (((pList p).length : Int) == (0 : Int)))]) (by kernel_rfl) ?_
    refine Op.goto 3 (by kernel_rfl) ?_
    refine At.cond (b := ((pList p).length : Int) == (0 : Int)) (c := .tmp 17) (by kernel_rfl) (by kernel_rfl) (by kernel_rfl) 4 6 (by kernel_rfl) (by kernel_rfl) (fun hb => ?_) (fun hb => ?_)
    · have c408 : ((pList p).length : Int) = (0 : Int) := eq_of_beq hb
      clear hb
      refine At.keep [] ?_; show At _ _ _ [] _
      refine At.reg (L := [(0, false), (1, false)]) (by kernel_rfl) ?_
      refine Op.pures 2 [2, 3] (L' := []) (e' := [(2, .string (mkS [])), (3, .int .i64 90)]) (by kernel_rfl) ?_
      refine Op.goto 5 (by kernel_rfl) ?_
      refine At.ret (f := Tryd.f37) (v := .tuple #[.string (mkS []), .int .i64 90]) (by kernel_rfl) (by kernel_rfl) ?_
      have s409 : St h g (ids []) g [] h397 := s398.unfrz
      refine hR _ _ _ _ s409 ⟨?_, rfl, rfl⟩
      exact eqT2 (eqS (by first | exact (parentR_no (pList_no (by assumption))).1 | exact (parentR_no (pList_no (by assumption))).2.1 | exact (parentR_no (pList_no (by assumption))).2.2 | exact (parentR_no (nil_len (by assumption))).1 | exact (parentR_no (nil_len (by assumption))).2.1 | exact (parentR_no (nil_len (by assumption))).2.2)) (eqI (by first | exact (parentR_no (pList_no (by assumption))).1 | exact (parentR_no (pList_no (by assumption))).2.1 | exact (parentR_no (pList_no (by assumption))).2.2 | exact (parentR_no (nil_len (by assumption))).1 | exact (parentR_no (nil_len (by assumption))).2.1 | exact (parentR_no (nil_len (by assumption))).2.2))
    · have c410 : ¬ (((pList p).length : Int) = (0 : Int)) := neF hb
      clear hb
      refine At.keep [4] ?_; show At _ _ _ [(4, .slice a401 ((pList p).length) n402)] _
      refine At.reg (L := [(0, false), (1, false), (2, false), (3, false), (4, false), (5, false), (6, false), (7, false)]) (by kernel_rfl) ?_
      refine Op.pures 3 [18, 20] (L' := [(3, false), (4, false), (5, false), (6, false), (7, false)]) (e' := [(18, .slice a401 ((pList p).length) n402), (20, .int .i64 ((pList p).length : Int))]) (by kernel_rfl) ?_
      refine Op.val (dst := some 21) (v := .int .i64 (IntKind.wrap .i64 (((pList p).length : Int) - 1))) (v' := .int .i64 (((pList p).length : Int) - 1)) (by kernel_rfl) (wrapEq_i64 (by (have := pList_len p; omega)) (by (have := pList_len p; omega))) ?_
      obtain ⟨x411, hx412⟩ : ∃ c, (pList p)[(((pList p).length : Int) - 1 : Int).toNat]? = some c := ⟨_, List.getElem?_eq_getElem (by (have := pList_len p; omega))⟩
      obtain ⟨b413, o414, cu415, fz416, ha417, hb418, hk419⟩ := SlR.at_ hr400 _ hx412
      cases ha417
      refine Op.idx (T := 37) (E := 9) (sz := 1) (by_ := 16) (n := ((pList p).length)) (c := n402) (k := .i64) (x := (.tmp 18)) (ix := (.tmp 21)) (dst := 22) (bk := b413) (o := o414) (m := ((pList p).length : Int) - 1) (by kernel_rfl) (by kernel_rfl) (by kernel_rfl) (by kernel_rfl) (by (have := pList_len p; omega)) (by (have := pList_len p; omega)) ?_
      replace hk419 : cut _ _ _ = [.string (mkS x411)] := hk419
      refine Op.load (T := 9) (x := (.tmp 22)) (o := o414 + (((pList p).length : Int) - 1 : Int).toNat * 1) (d := 23) (n := 1) (v := .string (mkS x411)) (by kernel_rfl) (by kernel_rfl) (by kernel_rfl) (s398.sub _ _ hb418) (cut_get hk419 0 rfl) ?_
      refine Op.pures 2 [2, 3] (L' := []) (e' := [(2, .string (mkS x411)), (3, .int .i64 0)]) (by kernel_rfl) ?_
      refine Op.goto 7 (by kernel_rfl) ?_
      refine At.ret (f := Tryd.f37) (v := .tuple #[.string (mkS x411), .int .i64 0]) (by kernel_rfl) (by kernel_rfl) ?_
      have s420 : St h g (ids []) g [] h397 := s398.unfrz
      refine hR _ _ _ _ s420 ⟨?_, rfl, rfl⟩
      exact eqT2 (eqS (by first | exact getLast_of hx412 (by have := pList_len p; omega) | exact (cutErr_0 (by omega)).symm)) (eqI (by first | exact getLast_of hx412 (by have := pList_len p; omega) | exact (cutErr_0 (by omega)).symm))

/-- stanchion/stanchionref09.Within -/
theorem withinRf (B : World) (h : Heap) (g : GH) (hg : Sub g h) (hG : Glob g) (p : List UInt8) (t : List UInt8) (h1 : p.length ≤ 1000000000) (h2 : t.length ≤ 1000000000) :
    Spec Tryd.prog B 41 #[.string (mkS p), .string (mkS t)] h g [] (fun rv g' L' => rv = .bool (withinR p t) ∧ g' = g ∧ L' = []) := by
  refine Spec.of_at (f := Tryd.f41) (e := [(0, .string (mkS p)), (1, .string (mkS t))]) Tryd.func41 (by kernel_rfl) (Nat.le_of_ble_eq_true (by kernel_rfl)) (by kernel_rfl) (by kernel_rfl) ?_
  intro R hR
  have s0 := St.init hg
  refine At.reg (L := [(0, false)]) (by kernel_rfl) ?_
  refine Op.pures 1 [0, 1] (L' := []) (e' := [(0, .string (mkS p)), (1, .string (mkS t))]) (by kernel_rfl) ?_
  refine Op.goto 1 (by kernel_rfl) ?_
  refine At.reg (L := [(0, false), (1, false), (2, false), (3, false), (4, false), (5, false), (6, false)]) (by kernel_rfl) ?_
  refine Op.pures 1 [1, 11] (L' := [(1, false), (2, false), (3, false), (4, false), (5, false), (6, false)]) (e' := [(1, .string (mkS t)), (11, .string (mkS p))]) (by kernel_rfl) ?_
  refine Op.call0 (dst := some 12) (f := 43) (args := #[.string (mkS p)]) (by kernel_rfl) s0 (partsR _ _ _ s0.sub hG p (by ((try dsimp only) <;> ((have hp := pList_len p; have ht := pList_len t; omega)))) ) ?_
  rintro _ g427 _ h421 hle428 s422 ⟨v423, rfl, hr424, rfl⟩
  obtain ⟨a425, n426, rfl⟩ := hr424.form
  replace hG := hG.mono hle428
  refine Op.pures 5 [1, 5, 6] (L' := []) (e' := [(1, .string (mkS t)), (5, .slice a425 ((pList p).length) n426), (6, .int .i64 (pErr p))]) (by kernel_rfl) ?_
  refine Op.goto 2 (by kernel_rfl) ?_
  refine At.reg (L := [(0, false), (1, false), (2, false), (3, false), (4, false), (5, false), (6, false)]) (by kernel_rfl) ?_
  refine Op.pures 1 [5, 6, 16] (L' := [(1, false), (2, false), (3, false), (4, false), (5, false), (6, false)]) (e' := [(5, .slice a425 ((pList p).length) n426), (6, .int .i64 (pErr p)), (16, .string (mkS t))]) (by kernel_rfl) ?_
  refine Op.call0 (dst := some 17) (f := 43) (args := #[.string (mkS t)]) (by kernel_rfl) s422 (partsR _ _ _ s422.sub hG t (by ((try dsimp only) <;> ((have hp := pList_len p; have ht := pList_len t; omega)))) ) ?_
  rintro _ g435 _ h429 hle436 s430 ⟨v431, rfl, hr432, rfl⟩
  obtain ⟨a433, n434, rfl⟩ := hr432.form
  replace hG := hG.mono hle436
  replace hr424 := hr424.mono hle436
  refine Op.pures 5 [5, 6, 7, 8] (L' := []) (e' := [(5, .slice a425 ((pList p).length) n426), (6, .int .i64 (pErr p)), (7, .slice a433 ((pList t).length) n434), (8, .int .i64 (pErr t))]) (by kernel_rfl) ?_
  refine Op.goto 3 (by kernel_rfl) ?_
  refine At.reg (L := [(0, false), (1, false), (2, false), (3, false), (4, false), (5, false), (6, false), (7, false), (8, false), (9, false), (10, false), (11, false), (12, false)]) (by kernel_rfl) ?_
  refine Op.pures 3 [5, 7, 8, 22] (L' := [(3, false), (4, false), (5, false), (6, false), (7, false), (8, false), (9, false), (10, false), (11, false), (12, false)]) (e' := [(5, .slice a425 ((pList p).length) n426), (7, .slice a433 ((pList t).length) n434), (8, .int .i64 (pErr t)), (22, .bool ((pErr p) != (0 : Int)))]) (by kernel_rfl) ?_
  refine Op.ways (b := (pErr p) != (0 : Int)) ⟨fun hb => ?_, fun hb => ?_⟩
  · refine Op.cast (e' := [(5, .slice a425 ((pList p).length) n426), (7, .slice a433 ((pList t).length) n434), (8, .int .i64 (pErr t)), (22, .bool true)]) (by rw [hb]) ?_
    have c437 : ¬ ((pErr p) = (0 : Int)) := bneT hb
    clear hb
    refine Op.pures 10 [5, 7, 32] (L' := []) (e' := [(5, .slice a425 ((pList p).length) n426), (7, .slice a433 ((pList t).length) n434), (32, .bool true)]) (by kernel_rfl) ?_
    refine Op.goto 4 (by kernel_rfl) ?_
    refine At.condT (c := .tmp 32) (by kernel_rfl) (by kernel_rfl) (by kernel_rfl) 5 (by kernel_rfl) ?_
    refine At.reg (L := [(0, false)]) (by kernel_rfl) ?_
    refine Op.pures 1 [4] (L' := []) (e' := [(4, .bool false)]) (by kernel_rfl) ?_
    refine Op.goto 6 (by kernel_rfl) ?_
    refine At.ret (f := Tryd.f41) (v := .bool false) (by kernel_rfl) (by kernel_rfl) ?_
    have s438 : St h g (ids []) g [] h429 := s430.unfrz
    refine hR _ _ _ _ s438 ⟨?_, rfl, rfl⟩
    exact (eqB (by first | exact withinR_1 (by assumption) | exact withinR_2 (by assumption) | exact withinR_3 (by assumption)))
  · refine Op.cast (e' := [(5, .slice a425 ((pList p).length) n426), (7, .slice a433 ((pList t).length) n434), (8, .int .i64 (pErr t)), (22, .bool false)]) (by rw [hb]) ?_
    have c439 : (pErr p) = (0 : Int) := bneF hb
    clear hb
    refine Op.pures 4 [5, 7, 26] (L' := [(7, false), (8, false), (9, false), (10, false), (11, false), (12, false)]) (e' := [(5, .slice a425 ((pList p).length) n426), (7, .slice a433 ((pList t).length) n434), (26, .bool ((pErr t) != (0 : Int)))]) (by kernel_rfl) ?_
    refine Op.ways (b := (pErr t) != (0 : Int)) ⟨fun hb => ?_, fun hb => ?_⟩
    · refine Op.cast (e' := [(5, .slice a425 ((pList p).length) n426), (7, .slice a433 ((pList t).length) n434), (26, .bool true)]) (by rw [hb]) ?_
      have c440 : ¬ ((pErr t) = (0 : Int)) := bneT hb
      clear hb
      refine Op.pures 6 [5, 7, 32] (L' := []) (e' := [(5, .slice a425 ((pList p).length) n426), (7, .slice a433 ((pList t).length) n434), (32, .bool true)]) (by kernel_rfl) ?_
      refine Op.goto 4 (by kernel_rfl) ?_
      refine At.condT (c := .tmp 32) (by kernel_rfl) (by kernel_rfl) (by kernel_rfl) 5 (by kernel_rfl) ?_
      refine At.reg (L := [(0, false)]) (by kernel_rfl) ?_
      refine Op.pures 1 [4] (L' := []) (e' := [(4, .bool false)]) (by kernel_rfl) ?_
      refine Op.goto 6 (by kernel_rfl) ?_
      refine At.ret (f := Tryd.f41) (v := .bool false) (by kernel_rfl) (by kernel_rfl) ?_
      have s441 : St h g (ids []) g [] h429 := s430.unfrz
      refine hR _ _ _ _ s441 ⟨?_, rfl, rfl⟩
      exact (eqB (by first | exact withinR_1 (by assumption) | exact withinR_2 (by assumption) | exact withinR_3 (by assumption)))
    · refine Op.cast (e' := [(5, .slice a425 ((pList p).length) n426), (7, .slice a433 ((pList t).length) n434), (26, .bool false)]) (by rw [hb]) ?_
      have c442 : (pErr t) = (0 : Int) := bneF hb
      clear hb
      refine Op.pures 6 [5, 7, 32] (L' := []) (e' := [(5, .slice a425 ((pList p).length) n426), (7, .slice a433 ((pList t).length) n434), (32, .bool (decide (((pList p).length : Int) < ((pList t).length : Int))))]) (by kernel_rfl) ?_
      refine Op.goto 4 (by kernel_rfl) ?_
      refine At.cond (b := decide (((pList p).length : Int) < ((pList t).length : Int))) (c := .tmp 32) (by kernel_rfl) (by kernel_rfl) (by kernel_rfl) 5 7 (by kernel_rfl) (by kernel_rfl) (fun hb => ?_) (fun hb => ?_)
      · have c443 : ((pList p).length : Int) < ((pList t).length : Int) := of_decide_eq_true hb
        clear hb
        refine At.keep [] ?_; show At _ _ _ [] _
        refine At.reg (L := [(0, false)]) (by kernel_rfl) ?_
        refine Op.pures 1 [4] (L' := []) (e' := [(4, .bool false)]) (by kernel_rfl) ?_
        refine Op.goto 6 (by kernel_rfl) ?_
        refine At.ret (f := Tryd.f41) (v := .bool false) (by kernel_rfl) (by kernel_rfl) ?_
        have s444 : St h g (ids []) g [] h429 := s430.unfrz
        refine hR _ _ _ _ s444 ⟨?_, rfl, rfl⟩
        exact (eqB (by first | exact withinR_1 (by assumption) | exact withinR_2 (by assumption) | exact withinR_3 (by assumption)))
      · have c445 : ¬ (((pList p).length : Int) < ((pList t).length : Int)) := of_decide_eq_false hb
        clear hb
        refine At.keep [5, 7] ?_; show At _ _ _ [(5, .slice a425 ((pList p).length) n426), (7, .slice a433 ((pList t).length) n434)] _
        refine At.reg (L := [(0, false)]) (by kernel_rfl) ?_
        refine Op.pures 1 [5, 7, 9] (L' := []) (e' := [(5, .slice a425 ((pList p).length) n426), (7, .slice a433 ((pList t).length) n434), (9, .int .i64 0)]) (by kernel_rfl) ?_
        refine Op.goto 8 (by kernel_rfl) ?_
        have loop8 : ∀ (m : Nat) (i : Int) (h446 : Heap) (hm : (pList t).length - i.toNat < m) (h0 : 0 ≤ i) (h3 : i ≤ (pList t).length) (ht : (pList p).take i.toNat = (pList t).take i.toNat)    (s_loop8445 : St h g (ids []) g435 [] h446), At (fctx Tryd.prog B 41 Tryd.f41 R) [] 8 [(5, .slice a425 ((pList p).length) n426), (7, .slice a433 ((pList t).length) n434), (9, .int .i64 i)] h446 := by
          intro m; induction m with
          | zero => intros; omega
          | succ m ih8 =>
            intro i h446 hm h0 h3 ht s_loop8445
            refine At.reg (L := [(0, false), (1, false), (2, false), (3, false)]) (by kernel_rfl) ?_
            refine Op.pures 4 [5, 7, 9, 36] (L' := []) (e' := [(5, .slice a425 ((pList p).length) n426), (7, .slice a433 ((pList t).length) n434), (9, .int .i64 i), (36, .bool (decide (i < ((pList t).length : Int))))]) (by kernel_rfl) ?_
            refine Op.goto 9 (by kernel_rfl) ?_
            refine At.cond (b := decide (i < ((pList t).length : Int))) (c := .tmp 36) (by kernel_rfl) (by kernel_rfl) (by kernel_rfl) 10 15 (by kernel_rfl) (by kernel_rfl) (fun hb => ?_) (fun hb => ?_)
            · have c447 : i < ((pList t).length : Int) := of_decide_eq_true hb
              clear hb
              refine At.keep [5, 7, 9] ?_; show At _ _ _ [(5, .slice a425 ((pList p).length) n426), (7, .slice a433 ((pList t).length) n434), (9, .int .i64 i)] _
              refine At.draw (by kernel_rfl) (fun _ => False) [(0, true), (1, true), (2, true), (4, true), (5, true), (6, true), (3, true), (7, false), (8, true)] (by kernel_rfl) ?_
              refine Op.pures 2 [5, 7, 9, 39, 40] (L' := [(2, true), (4, true), (5, true), (6, true), (3, true), (7, false), (8, true)]) (e' := [(5, .slice a425 ((pList p).length) n426), (7, .slice a433 ((pList t).length) n434), (9, .int .i64 i), (39, .slice a425 ((pList p).length) n426), (40, .int .i64 i)]) (by kernel_rfl) ?_
              obtain ⟨x448, hx449⟩ : ∃ c, (pList p)[(i : Int).toNat]? = some c := ⟨_, List.getElem?_eq_getElem (by (have hp := pList_len p; have ht := pList_len t; omega))⟩
              obtain ⟨b450, o451, cu452, fz453, ha454, hb455, hk456⟩ := SlR.at_ hr424 _ hx449
              cases ha454
              refine Op.idx (T := 37) (E := 9) (sz := 1) (by_ := 16) (n := ((pList p).length)) (c := n426) (k := .i64) (x := (.tmp 39)) (ix := (.tmp 40)) (dst := 41) (bk := b450) (o := o451) (m := i) (by kernel_rfl) (by kernel_rfl) (by kernel_rfl) (by kernel_rfl) (by (have hp := pList_len p; have ht := pList_len t; omega)) (by (have hp := pList_len p; have ht := pList_len t; omega)) ?_
              replace hk456 : cut _ _ _ = [.string (mkS x448)] := hk456
              refine Op.pures 2 [5, 7, 9, 41, 43, 44] (L' := [(6, true), (3, true), (7, false), (8, true)]) (e' := [(5, .slice (some ⟨b450, o451, none⟩) ((pList p).length) n426), (7, .slice a433 ((pList t).length) n434), (9, .int .i64 i), (41, .pointer (some ⟨b450, o451 + (i : Int).toNat * 1, none⟩)), (43, .slice a433 ((pList t).length) n434), (44, .int .i64 i)]) (by kernel_rfl) ?_
              obtain ⟨x457, hx458⟩ : ∃ c, (pList t)[(i : Int).toNat]? = some c := ⟨_, List.getElem?_eq_getElem (by (have hp := pList_len p; have ht := pList_len t; omega))⟩
              obtain ⟨b459, o460, cu461, fz462, ha463, hb464, hk465⟩ := SlR.at_ hr432 _ hx458
              cases ha463
              refine Op.idx (T := 37) (E := 9) (sz := 1) (by_ := 16) (n := ((pList t).length)) (c := n434) (k := .i64) (x := (.tmp 43)) (ix := (.tmp 44)) (dst := 45) (bk := b459) (o := o460) (m := i) (by kernel_rfl) (by kernel_rfl) (by kernel_rfl) (by kernel_rfl) (by (have hp := pList_len p; have ht := pList_len t; omega)) (by (have hp := pList_len p; have ht := pList_len t; omega)) ?_
              replace hk465 : cut _ _ _ = [.string (mkS x457)] := hk465
              refine Op.loadF (T := 9) (x := (.tmp 41)) (o := o451 + (i : Int).toNat * 1) (d := 42) (n := 1) (v := .string (mkS x448)) (by kernel_rfl) (by kernel_rfl) (by kernel_rfl) (fun h => h) (s_loop8445.sub _ _ hb455) (cut_get hk456 0 rfl) ?_
              refine Op.load (T := 9) (x := (.tmp 45)) (o := o460 + (i : Int).toNat * 1) (d := 46) (n := 1) (v := .string (mkS x457)) (by kernel_rfl) (by kernel_rfl) (by kernel_rfl) (s_loop8445.sub _ _ hb464) (cut_get hk465 0 rfl) ?_
              refine Op.val (dst := some 47) (v := .bool (!((mkS x448).toList == (mkS x457).toList))) (v' := .bool (!(x448 == x457))) (by kernel_rfl) (by rw [toList_mkS, toList_mkS]) ?_
              refine Op.goto 11 (by kernel_rfl) ?_
              refine At.cond (b := !(x448 == x457)) (c := .tmp 47) (by kernel_rfl) (by kernel_rfl) (by kernel_rfl) 12 14 (by kernel_rfl) (by kernel_rfl) (fun hb => ?_) (fun hb => ?_)
              · have c466 : ¬ (x448 = x457) := neF (notT hb)
                clear hb
                refine At.keep [] ?_; show At _ _ _ [] _
                refine At.reg (L := [(0, false)]) (by kernel_rfl) ?_
                refine Op.pures 1 [4] (L' := []) (e' := [(4, .bool false)]) (by kernel_rfl) ?_
                refine Op.goto 13 (by kernel_rfl) ?_
                refine At.ret (f := Tryd.f41) (v := .bool false) (by kernel_rfl) (by kernel_rfl) ?_
                have s467 : St h g (ids []) g [] h446 := s_loop8445.unfrz
                refine hR _ _ _ _ s467 ⟨?_, rfl, rfl⟩
                exact (eqB (by exact withinR_4 hx449 hx458 c466))
              · have c468 : x448 = x457 := eq_of_beq (notF hb)
                clear hb
                refine At.keep [5, 7, 9] ?_; show At _ _ _ [(5, .slice (some ⟨b450, o451, none⟩) ((pList p).length) n426), (7, .slice (some ⟨b459, o460, none⟩) ((pList t).length) n434), (9, .int .i64 i)] _
                refine At.reg (L := [(0, false), (1, false), (2, false)]) (by kernel_rfl) ?_
                refine Op.pures 1 [5, 7, 9, 37] (L' := [(1, false), (2, false)]) (e' := [(5, .slice (some ⟨b450, o451, none⟩) ((pList p).length) n426), (7, .slice (some ⟨b459, o460, none⟩) ((pList t).length) n434), (9, .int .i64 i), (37, .int .i64 i)]) (by kernel_rfl) ?_
                refine Op.val (dst := some 38) (v := .int .i64 (IntKind.wrap .i64 (i + 1))) (v' := .int .i64 (i + 1)) (by kernel_rfl) (wrapEq_i64 (by (have hp := pList_len p; have ht := pList_len t; omega)) (by (have hp := pList_len p; have ht := pList_len t; omega))) ?_
                refine Op.pures 1 [5, 7, 9] (L' := []) (e' := [(5, .slice (some ⟨b450, o451, none⟩) ((pList p).length) n426), (7, .slice (some ⟨b459, o460, none⟩) ((pList t).length) n434), (9, .int .i64 (i + 1))]) (by kernel_rfl) ?_
                refine Op.goto 8 (by kernel_rfl) ?_
                exact ih8  (i + 1) _ (by omega) (by (have hp := pList_len p; have ht := pList_len t; omega)) (by (have hp := pList_len p; have ht := pList_len t; omega)) (by exact take_step ht h0 hx449 hx458 c468)  s_loop8445
            · have c469 : ¬ (i < ((pList t).length : Int)) := of_decide_eq_false hb
              clear hb
              refine At.keep [] ?_; show At _ _ _ [] _
              refine At.reg (L := [(0, false)]) (by kernel_rfl) ?_
              refine Op.pures 1 [4] (L' := []) (e' := [(4, .bool true)]) (by kernel_rfl) ?_
              refine Op.goto 16 (by kernel_rfl) ?_
              refine At.ret (f := Tryd.f41) (v := .bool true) (by kernel_rfl) (by kernel_rfl) ?_
              have s470 : St h g (ids []) g [] h446 := s_loop8445.unfrz
              refine hR _ _ _ _ s470 ⟨?_, rfl, rfl⟩
              exact (eqB (by exact withinR_5 (by assumption) (by assumption) c469 (by assumption) h3 ht))
        exact loop8 _  0 _ (Nat.lt_succ_self _) (by (have hp := pList_len p; have ht := pList_len t; omega)) (by (have hp := pList_len p; have ht := pList_len t; omega)) (by rfl)  s430

end Go.Proofs.YtphonojjgnbpfaaDoor.Sw
