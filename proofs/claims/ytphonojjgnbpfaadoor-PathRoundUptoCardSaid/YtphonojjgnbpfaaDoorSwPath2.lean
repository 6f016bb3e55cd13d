/- Walks of the functions that are named below: what each computes, as plain Lean words. Printed by a program of our own. -/
import Derived.Test.YtphonojjgnbpfaaDoorSwPath1
import Derived.Test.YtphonojjgnbpfaaDoorSwPathQ
namespace Go.Proofs.YtphonojjgnbpfaaDoor.Sw
open Go
set_option maxRecDepth 100000
set_option linter.unusedVariables false
set_option linter.unusedSimpArgs false
set_option linter.deprecated false


/-- stanchion/stanchionref00.SameTexts -/
theorem sameTexts (B : World) (h : Heap) (g : GH) (hg : Sub g h) (hG : Glob g) (v_a : Value) (a : List (List UInt8)) (h_a : SlR g 9 kStr v_a a) (v_b : Value) (b : List (List UInt8)) (h_b : SlR g 9 kStr v_b b) (h1 : a.length ≤ 1000000000) :
    Spec Tryd.prog B 26 #[v_a, v_b] h g [] (fun v g' L' => v = .bool (decide (a = b)) ∧ g' = g ∧ L' = []) := by
  obtain ⟨a_a, n_a, rfl⟩ := h_a.form
  obtain ⟨a_b, n_b, rfl⟩ := h_b.form
  refine Spec.of_at (f := Tryd.f26) (e := [(0, .slice a_a a.length n_a), (1, .slice a_b b.length n_b)]) Tryd.func26 (by kernel_rfl) (Nat.le_of_ble_eq_true (by kernel_rfl)) (by kernel_rfl) (by kernel_rfl) ?_
  intro R hR
  have s0 := St.init hg
  refine At.reg (L := [(0, false)]) (by kernel_rfl) ?_
  refine Op.pures 1 [0, 1] (L' := []) (e' := [(0, .slice a_a a.length n_a), (1, .slice a_b b.length n_b)]) (by kernel_rfl) ?_
  refine Op.goto 1 (by kernel_rfl) ?_
  refine At.reg (L := [(0, false), (1, false), (2, false), (3, false), (4, false)]) (by kernel_rfl) ?_
  refine Op.pures 5 [0, 1, 10] (L' := []) (e' := [(0, .slice a_a a.length n_a), (1, .slice a_b b.length n_b), (10, .bool ((a.length : Int) != (b.length : Int)))]) (by kernel_rfl) ?_
  refine Op.goto 2 (by kernel_rfl) ?_
  refine At.cond (b := (a.length : Int) != (b.length : Int)) (c := .tmp 10) (by kernel_rfl) (by kernel_rfl) (by kernel_rfl) 3 5 (by kernel_rfl) (by kernel_rfl) (fun hb => ?_) (fun hb => ?_)
  · have c190 : ¬ ((a.length : Int) = (b.length : Int)) := bneT hb
    clear hb
    refine At.keep [] ?_; show At _ _ _ [] _
    refine At.reg (L := [(0, false)]) (by kernel_rfl) ?_
    refine Op.pures 1 [4] (L' := []) (e' := [(4, .bool false)]) (by kernel_rfl) ?_
    refine Op.goto 4 (by kernel_rfl) ?_
    refine At.ret (f := Tryd.f26) (v := .bool false) (by kernel_rfl) (by kernel_rfl) ?_
    refine hR _ _ _ _ s0.fin ⟨?_, rfl, rfl⟩
    exact (eqB (by exact sameE_len (by assumption)))
  · have c191 : (a.length : Int) = (b.length : Int) := bneF hb
    clear hb
    refine At.keep [0, 1] ?_; show At _ _ _ [(0, .slice a_a a.length n_a), (1, .slice a_b b.length n_b)] _
    refine At.reg (L := [(0, false)]) (by kernel_rfl) ?_
    refine Op.pures 1 [0, 1, 5] (L' := []) (e' := [(0, .slice a_a a.length n_a), (1, .slice a_b b.length n_b), (5, .int .i64 0)]) (by kernel_rfl) ?_
    refine Op.goto 6 (by kernel_rfl) ?_
    have loop6 : ∀ (m : Nat) (i : Int) (h192 : Heap) (hm : a.length - i.toNat < m) (h0 : 0 ≤ i) (h2 : i ≤ a.length) (ht : a.take i.toNat = b.take i.toNat)  (s_loop6191 : St h g (ids []) g [] h192), At (fctx Tryd.prog B 26 Tryd.f26 R) [] 6 [(0, .slice a_a a.length n_a), (1, .slice a_b b.length n_b), (5, .int .i64 i)] h192 := by
      intro m; induction m with
      | zero => intros; omega
      | succ m ih6 =>
        intro i h192 hm h0 h2 ht s_loop6191
        refine At.reg (L := [(0, false), (1, false), (2, false), (3, false)]) (by kernel_rfl) ?_
        refine Op.pures 4 [0, 1, 5, 14] (L' := []) (e' := [(0, .slice a_a a.length n_a), (1, .slice a_b b.length n_b), (5, .int .i64 i), (14, .bool (decide (i < (a.length : Int))))]) (by kernel_rfl) ?_
        refine Op.goto 7 (by kernel_rfl) ?_
        refine At.cond (b := decide (i < (a.length : Int))) (c := .tmp 14) (by kernel_rfl) (by kernel_rfl) (by kernel_rfl) 8 13 (by kernel_rfl) (by kernel_rfl) (fun hb => ?_) (fun hb => ?_)
        · have c193 : i < (a.length : Int) := of_decide_eq_true hb
          clear hb
          refine At.keep [0, 1, 5] ?_; show At _ _ _ [(0, .slice a_a a.length n_a), (1, .slice a_b b.length n_b), (5, .int .i64 i)] _
          refine At.draw (by kernel_rfl) (fun _ => False) [(0, true), (1, true), (2, true), (4, true), (5, true), (6, true), (3, true), (7, false), (8, true)] (by kernel_rfl) ?_
          refine Op.pures 2 [0, 1, 5, 17, 18] (L' := [(2, true), (4, true), (5, true), (6, true), (3, true), (7, false), (8, true)]) (e' := [(0, .slice a_a a.length n_a), (1, .slice a_b b.length n_b), (5, .int .i64 i), (17, .slice a_a a.length n_a), (18, .int .i64 i)]) (by kernel_rfl) ?_
          obtain ⟨x194, hx195⟩ : ∃ c, a[(i : Int).toNat]? = some c := ⟨_, List.getElem?_eq_getElem (by omega)⟩
          obtain ⟨b196, o197, cu198, fz199, ha200, hb201, hk202⟩ := SlH.at_ (h_a.toH s_loop6191.sub) _ hx195
          cases ha200
          refine Op.idx (T := 37) (E := 9) (sz := 1) (by_ := 16) (n := a.length) (c := n_a) (k := .i64) (x := (.tmp 17)) (ix := (.tmp 18)) (dst := 19) (bk := b196) (o := o197) (m := i) (by kernel_rfl) (by kernel_rfl) (by kernel_rfl) (by kernel_rfl) (by omega) (by omega) ?_
          replace hk202 : cut _ _ _ = [.string (mkS x194)] := hk202
          refine Op.pures 2 [0, 1, 5, 19, 21, 22] (L' := [(6, true), (3, true), (7, false), (8, true)]) (e' := [(0, .slice (some ⟨b196, o197, none⟩) a.length n_a), (1, .slice a_b b.length n_b), (5, .int .i64 i), (19, .pointer (some ⟨b196, o197 + (i : Int).toNat * 1, none⟩)), (21, .slice a_b b.length n_b), (22, .int .i64 i)]) (by kernel_rfl) ?_
          obtain ⟨x203, hx204⟩ : ∃ c, b[(i : Int).toNat]? = some c := ⟨_, List.getElem?_eq_getElem (by omega)⟩
          obtain ⟨b205, o206, cu207, fz208, ha209, hb210, hk211⟩ := SlH.at_ (h_b.toH s_loop6191.sub) _ hx204
          cases ha209
          refine Op.idx (T := 37) (E := 9) (sz := 1) (by_ := 16) (n := b.length) (c := n_b) (k := .i64) (x := (.tmp 21)) (ix := (.tmp 22)) (dst := 23) (bk := b205) (o := o206) (m := i) (by kernel_rfl) (by kernel_rfl) (by kernel_rfl) (by kernel_rfl) (by omega) (by omega) ?_
          replace hk211 : cut _ _ _ = [.string (mkS x203)] := hk211
          refine Op.loadF (T := 9) (x := (.tmp 19)) (o := o197 + (i : Int).toNat * 1) (d := 20) (n := 1) (v := .string (mkS x194)) (by kernel_rfl) (by kernel_rfl) (by kernel_rfl) (fun h => h) hb201 (cut_get hk202 0 rfl) ?_
          refine Op.load (T := 9) (x := (.tmp 23)) (o := o206 + (i : Int).toNat * 1) (d := 24) (n := 1) (v := .string (mkS x203)) (by kernel_rfl) (by kernel_rfl) (by kernel_rfl) hb210 (cut_get hk211 0 rfl) ?_
          refine Op.val (dst := some 25) (v := .bool (!((mkS x194).toList == (mkS x203).toList))) (v' := .bool (!(x194 == x203))) (by kernel_rfl) (by rw [toList_mkS, toList_mkS]) ?_
          refine Op.goto 9 (by kernel_rfl) ?_
          refine At.cond (b := !(x194 == x203)) (c := .tmp 25) (by kernel_rfl) (by kernel_rfl) (by kernel_rfl) 10 12 (by kernel_rfl) (by kernel_rfl) (fun hb => ?_) (fun hb => ?_)
          · have c212 : ¬ (x194 = x203) := neF (notT hb)
            clear hb
            refine At.keep [] ?_; show At _ _ _ [] _
            refine At.reg (L := [(0, false)]) (by kernel_rfl) ?_
            refine Op.pures 1 [4] (L' := []) (e' := [(4, .bool false)]) (by kernel_rfl) ?_
            refine Op.goto 11 (by kernel_rfl) ?_
            refine At.ret (f := Tryd.f26) (v := .bool false) (by kernel_rfl) (by kernel_rfl) ?_
            refine hR _ _ _ _ s_loop6191.fin ⟨?_, rfl, rfl⟩
            exact (eqB (by exact sameE_ne hx195 hx204 c212))
          · have c213 : x194 = x203 := eq_of_beq (notF hb)
            clear hb
            refine At.keep [0, 1, 5] ?_; show At _ _ _ [(0, .slice (some ⟨b196, o197, none⟩) a.length n_a), (1, .slice (some ⟨b205, o206, none⟩) b.length n_b), (5, .int .i64 i)] _
            refine At.reg (L := [(0, false), (1, false), (2, false)]) (by kernel_rfl) ?_
            refine Op.pures 1 [0, 1, 5, 15] (L' := [(1, false), (2, false)]) (e' := [(0, .slice (some ⟨b196, o197, none⟩) a.length n_a), (1, .slice (some ⟨b205, o206, none⟩) b.length n_b), (5, .int .i64 i), (15, .int .i64 i)]) (by kernel_rfl) ?_
            refine Op.val (dst := some 16) (v := .int .i64 (IntKind.wrap .i64 (i + 1))) (v' := .int .i64 (i + 1)) (by kernel_rfl) (wrapEq_i64 (by omega) (by omega)) ?_
            refine Op.pures 1 [0, 1, 5] (L' := []) (e' := [(0, .slice (some ⟨b196, o197, none⟩) a.length n_a), (1, .slice (some ⟨b205, o206, none⟩) b.length n_b), (5, .int .i64 (i + 1))]) (by kernel_rfl) ?_
            refine Op.goto 6 (by kernel_rfl) ?_
            exact ih6  (i + 1) _ (by omega) (by omega) (by omega) (by exact take_step ht h0 hx195 hx204 c213)  s_loop6191
        · have c214 : ¬ (i < (a.length : Int)) := of_decide_eq_false hb
          clear hb
          refine At.keep [] ?_; show At _ _ _ [] _
          refine At.reg (L := [(0, false)]) (by kernel_rfl) ?_
          refine Op.pures 1 [4] (L' := []) (e' := [(4, .bool true)]) (by kernel_rfl) ?_
          refine Op.goto 14 (by kernel_rfl) ?_
          refine At.ret (f := Tryd.f26) (v := .bool true) (by kernel_rfl) (by kernel_rfl) ?_
          refine hR _ _ _ _ s_loop6191.fin ⟨?_, rfl, rfl⟩
          exact (eqB (by exact sameE_end (by assumption) c214 ht))
    exact loop6 _  0 _ (Nat.lt_succ_self _) (by omega) (by omega) (by rfl)  s0

/-- stanchion/stanchionref00.CopyTexts -/
theorem copyTexts (B : World) (h : Heap) (g : GH) (hg : Sub g h) (hG : Glob g) (v_s : Value) (s : List (List UInt8)) (h_s : SlR g 9 kStr v_s s) (h1 : s.length ≤ 1000000000) :
    Spec Tryd.prog B 23 #[v_s] h g [] (fun v g' L' => ∃ v0, v = v0 ∧ SlR g' 9 kStr v0 s ∧ L' = []) := by
  obtain ⟨a_s, n_s, rfl⟩ := h_s.form
  refine Spec.of_at (f := Tryd.f23) (e := [(0, .slice a_s s.length n_s)]) Tryd.func23 (by kernel_rfl) (Nat.le_of_ble_eq_true (by kernel_rfl)) (by kernel_rfl) (by kernel_rfl) ?_
  intro R hR
  have s0 := St.init hg
  refine At.reg (L := [(0, false)]) (by kernel_rfl) ?_
  refine Op.pures 1 [0] (L' := []) (e' := [(0, .slice a_s s.length n_s)]) (by kernel_rfl) ?_
  refine Op.goto 1 (by kernel_rfl) ?_
  refine At.reg (L := [(0, false), (1, false)]) (by kernel_rfl) ?_
  refine Op.lit (T := 37) (len := 0) (parts := #[]) (dst := 4) (E := 9) (ps := []) (cs := #[]) (by kernel_rfl) (by kernel_rfl) (by kernel_rfl) s0 ?_
  intro b215 h216 s217
  refine Op.pures 1 [0, 3] (L' := []) (e' := [(0, .slice a_s s.length n_s), (3, .slice (some ⟨b215, 0, none⟩) 0 0)]) (by kernel_rfl) ?_
  refine Op.goto 2 (by kernel_rfl) ?_
  refine At.reg (L := [(0, false), (1, false), (2, false), (3, false)]) (by kernel_rfl) ?_
  refine Op.pures 2 [3, 5, 6] (L' := [(2, false), (3, false)]) (e' := [(3, .slice (some ⟨b215, 0, none⟩) 0 0), (5, .slice (some ⟨b215, 0, none⟩) 0 0), (6, .slice a_s s.length n_s)]) (by kernel_rfl) ?_
  have R218 : Row 9 kStr g (.slice (some ⟨b215, 0, none⟩) 0 0) ([] : List (List UInt8)) [(b215, .cells #[] 9 (0, 0))] := .inr ⟨_, _, _, _, rfl, rfl, Nat.le_of_ble_eq_true (by kernel_rfl), by unfold maxLen; decide, Nat.le_of_ble_eq_true (by kernel_rfl), Reads.nil⟩
  obtain ⟨ns219, hs220, hr221⟩ := Src.slice (P := Tryd.prog) (h_s.toH s217.sub)
  refine Op.append (x := (.tmp 5)) (y := (.tmp 6)) (t := 37) (t' := 37) (dst := 7) (E := 9) (by_ := 16) (d := kStr) (by kernel_rfl) (by kernel_rfl) (by kernel_rfl) rfl R218 s217 0 rfl hs220 (ys := s) hr221 rfl (by first | omega | (simp only [List.length_append, List.length_cons, List.length_nil, List.length_take, List.length_drop]; omega)) (fun _ _ _ => trivial) ?_
  intro v222 ch223 h224 R225 s226 nn227
  obtain ⟨a228, n229, rfl⟩ := R225.form
  refine Op.pures 1 [3] (L' := []) (e' := [(3, .slice a228 ((([] : List (List UInt8)) ++ s).length) n229)]) (by kernel_rfl) ?_
  refine Op.goto 3 (by kernel_rfl) ?_
  refine At.reg (L := [(0, false), (1, false)]) (by kernel_rfl) ?_
  refine Op.pures 2 [2] (L' := []) (e' := [(2, .slice a228 ((([] : List (List UInt8)) ++ s).length) n229)]) (by kernel_rfl) ?_
  refine Op.goto 4 (by kernel_rfl) ?_
  refine At.ret (f := Tryd.f23) (v := .slice a228 ((([] : List (List UInt8)) ++ s).length) n229) (by kernel_rfl) (by kernel_rfl) ?_
  obtain ⟨g230, s231, hle232, hf233⟩ := Row.freeze R225 (s226.front 0 rfl)
  replace hG := hG.mono hle232
  refine hR _ _ _ _ s231.clear ⟨(.slice a228 ((([] : List (List UInt8)) ++ s).length) n229), ?_, ?_, rfl⟩
  · exact rfl
  · exact slEq hf233 (by simp)

/-- stanchion/stanchionref09.part -/
theorem partR (B : World) (h : Heap) (g : GH) (hg : Sub g h) (hG : Glob g) (s : List UInt8) (hlen : s.length ≤ 1000000000) :
    Spec Tryd.prog B 69 #[.string (mkS s)] h g [] (fun v g' L' => v = .bool (okPart s) ∧ g' = g ∧ L' = []) := by
  refine Spec.of_at (f := Tryd.f69) (e := [(0, .string (mkS s))]) Tryd.func69 (by kernel_rfl) (Nat.le_of_ble_eq_true (by kernel_rfl)) (by kernel_rfl) (by kernel_rfl) ?_
  intro R hR
  have s0 := St.init hg
  refine At.reg (L := [(0, false)]) (by kernel_rfl) ?_
  refine Op.pures 1 [0] (L' := []) (e' := [(0, .string (mkS s))]) (by kernel_rfl) ?_
  refine Op.goto 1 (by kernel_rfl) ?_
  refine At.reg (L := [(0, false)]) (by kernel_rfl) ?_
  refine Op.pures 1 [0, 3] (L' := []) (e' := [(0, .string (mkS s)), (3, .int .i64 0)]) (by kernel_rfl) ?_
  refine Op.goto 2 (by kernel_rfl) ?_
  have loop2 : ∀ (m : Nat) (i : Int) (h234 : Heap) (hm : s.length - i.toNat < m) (h0 : 0 ≤ i) (h2 : i ≤ s.length) (ha : allTo s i)  (s_loop2233 : St h g (ids []) g [] h234), At (fctx Tryd.prog B 69 Tryd.f69 R) [] 2 [(0, .string (mkS s)), (3, .int .i64 i)] h234 := by
    intro m; induction m with
    | zero => intros; omega
    | succ m ih2 =>
      intro i h234 hm h0 h2 ha s_loop2233
      refine At.reg (L := [(0, false), (1, false), (2, false), (3, false)]) (by kernel_rfl) ?_
      refine Op.pures 4 [0, 3, 8] (L' := []) (e' := [(0, .string (mkS s)), (3, .int .i64 i), (8, .bool (decide (i < (s.length : Int))))]) (by kernel_rfl) ?_
      refine Op.goto 3 (by kernel_rfl) ?_
      refine At.cond (b := decide (i < (s.length : Int))) (c := .tmp 8) (by kernel_rfl) (by kernel_rfl) (by kernel_rfl) 4 10 (by kernel_rfl) (by kernel_rfl) (fun hb => ?_) (fun hb => ?_)
      · have c235 : i < (s.length : Int) := of_decide_eq_true hb
        clear hb
        refine At.keep [0, 3] ?_; show At _ _ _ [(0, .string (mkS s)), (3, .int .i64 i)] _
        refine At.reg (L := [(0, false), (1, false), (2, false), (3, false)]) (by kernel_rfl) ?_
        refine Op.pures 2 [0, 3, 11, 12] (L' := [(2, false), (3, false)]) (e' := [(0, .string (mkS s)), (3, .int .i64 i), (11, .string (mkS s)), (12, .int .i64 i)]) (by kernel_rfl) ?_
        obtain ⟨x236, hx237⟩ : ∃ c, s[(i : Int).toNat]? = some c := ⟨_, List.getElem?_eq_getElem (by omega)⟩
        refine Op.strIdx (T := 9) (k := .i64) (x := (.tmp 11)) (ix := (.tmp 12)) (dst := 13) (l := s) (n := i) (by kernel_rfl) (by kernel_rfl) (by kernel_rfl) (by kernel_rfl) (by omega) hx237 ?_
        refine Op.pures 1 [0, 3, 4] (L' := []) (e' := [(0, .string (mkS s)), (3, .int .i64 i), (4, .int .u8 (x236.toNat : Int))]) (by kernel_rfl) ?_
        refine Op.goto 5 (by kernel_rfl) ?_
        refine At.reg (L := [(0, false), (1, false), (2, false), (3, false), (4, false), (5, false), (6, false), (7, false), (8, false), (9, false), (10, false), (11, false), (12, false), (13, false), (14, false), (15, false), (16, false), (17, false), (18, false), (19, false), (20, false), (21, false), (22, false)]) (by kernel_rfl) ?_
        refine Op.pures 3 [0, 3, 4, 16] (L' := [(3, false), (4, false), (5, false), (6, false), (7, false), (8, false), (9, false), (10, false), (11, false), (12, false), (13, false), (14, false), (15, false), (16, false), (17, false), (18, false), (19, false), (20, false), (21, false), (22, false)]) (e' := [(0, .string (mkS s)), (3, .int .i64 i), (4, .int .u8 (x236.toNat : Int)), (16, .bool (decide ((x236.toNat : Int) ≥ (97 : Int))))]) (by kernel_rfl) ?_
        refine Op.ways (b := decide ((x236.toNat : Int) ≥ (97 : Int))) ⟨fun hb => ?_, fun hb => ?_⟩
        · refine Op.cast (e' := [(0, .string (mkS s)), (3, .int .i64 i), (4, .int .u8 (x236.toNat : Int)), (16, .bool true)]) (by rw [hb]) ?_
          have c238 : (x236.toNat : Int) ≥ (97 : Int) := of_decide_eq_true hb
          clear hb
          refine Op.pures 4 [0, 3, 4, 20] (L' := [(7, false), (8, false), (9, false), (10, false), (11, false), (12, false), (13, false), (14, false), (15, false), (16, false), (17, false), (18, false), (19, false), (20, false), (21, false), (22, false)]) (e' := [(0, .string (mkS s)), (3, .int .i64 i), (4, .int .u8 (x236.toNat : Int)), (20, .bool (decide ((x236.toNat : Int) ≤ (122 : Int))))]) (by kernel_rfl) ?_
          refine Op.ways (b := decide ((x236.toNat : Int) ≤ (122 : Int))) ⟨fun hb => ?_, fun hb => ?_⟩
          · refine Op.cast (e' := [(0, .string (mkS s)), (3, .int .i64 i), (4, .int .u8 (x236.toNat : Int)), (20, .bool true)]) (by rw [hb]) ?_
            have c239 : (x236.toNat : Int) ≤ (122 : Int) := of_decide_eq_true hb
            clear hb
            refine Op.pures 16 [0, 3, 36] (L' := []) (e' := [(0, .string (mkS s)), (3, .int .i64 i), (36, .bool false)]) (by kernel_rfl) ?_
            refine Op.goto 6 (by kernel_rfl) ?_
            refine At.condF (c := .tmp 36) (by kernel_rfl) (by kernel_rfl) (by kernel_rfl) 9 (by kernel_rfl) ?_
            refine At.reg (L := [(0, false), (1, false), (2, false)]) (by kernel_rfl) ?_
            refine Op.pures 1 [0, 3, 9] (L' := [(1, false), (2, false)]) (e' := [(0, .string (mkS s)), (3, .int .i64 i), (9, .int .i64 i)]) (by kernel_rfl) ?_
            refine Op.val (dst := some 10) (v := .int .i64 (IntKind.wrap .i64 (i + 1))) (v' := .int .i64 (i + 1)) (by kernel_rfl) (wrapEq_i64 (by omega) (by omega)) ?_
            refine Op.pures 1 [0, 3] (L' := []) (e' := [(0, .string (mkS s)), (3, .int .i64 (i + 1))]) (by kernel_rfl) ?_
            refine Op.goto 2 (by kernel_rfl) ?_
            exact ih2  (i + 1) _ (by omega) (by omega) (by omega) (by exact allTo_step ha hx237 (by simp [sgn]; omega) h0)  s_loop2233
          · refine Op.cast (e' := [(0, .string (mkS s)), (3, .int .i64 i), (4, .int .u8 (x236.toNat : Int)), (20, .bool false)]) (by rw [hb]) ?_
            have c240 : ¬ ((x236.toNat : Int) ≤ (122 : Int)) := of_decide_eq_false hb
            clear hb
            refine Op.pures 3 [0, 3, 4, 20, 23] (L' := [(10, false), (11, false), (12, false), (13, false), (14, false), (15, false), (16, false), (17, false), (18, false), (19, false), (20, false), (21, false), (22, false)]) (e' := [(0, .string (mkS s)), (3, .int .i64 i), (4, .int .u8 (x236.toNat : Int)), (20, .bool false), (23, .bool (decide ((x236.toNat : Int) ≥ (48 : Int))))]) (by kernel_rfl) ?_
            refine Op.ways (b := decide ((x236.toNat : Int) ≥ (48 : Int))) ⟨fun hb => ?_, fun hb => ?_⟩
            · refine Op.cast (e' := [(0, .string (mkS s)), (3, .int .i64 i), (4, .int .u8 (x236.toNat : Int)), (20, .bool false), (23, .bool true)]) (by rw [hb]) ?_
              have c241 : (x236.toNat : Int) ≥ (48 : Int) := of_decide_eq_true hb
              clear hb
              refine Op.pures 5 [0, 3, 4, 28] (L' := [(15, false), (16, false), (17, false), (18, false), (19, false), (20, false), (21, false), (22, false)]) (e' := [(0, .string (mkS s)), (3, .int .i64 i), (4, .int .u8 (x236.toNat : Int)), (28, .bool (decide ((x236.toNat : Int) ≤ (57 : Int))))]) (by kernel_rfl) ?_
              refine Op.ways (b := decide ((x236.toNat : Int) ≤ (57 : Int))) ⟨fun hb => ?_, fun hb => ?_⟩
              · refine Op.cast (e' := [(0, .string (mkS s)), (3, .int .i64 i), (4, .int .u8 (x236.toNat : Int)), (28, .bool true)]) (by rw [hb]) ?_
                have c242 : (x236.toNat : Int) ≤ (57 : Int) := of_decide_eq_true hb
                clear hb
                refine Op.pures 8 [0, 3, 36] (L' := []) (e' := [(0, .string (mkS s)), (3, .int .i64 i), (36, .bool false)]) (by kernel_rfl) ?_
                refine Op.goto 6 (by kernel_rfl) ?_
                refine At.condF (c := .tmp 36) (by kernel_rfl) (by kernel_rfl) (by kernel_rfl) 9 (by kernel_rfl) ?_
                refine At.reg (L := [(0, false), (1, false), (2, false)]) (by kernel_rfl) ?_
                refine Op.pures 1 [0, 3, 9] (L' := [(1, false), (2, false)]) (e' := [(0, .string (mkS s)), (3, .int .i64 i), (9, .int .i64 i)]) (by kernel_rfl) ?_
                refine Op.val (dst := some 10) (v := .int .i64 (IntKind.wrap .i64 (i + 1))) (v' := .int .i64 (i + 1)) (by kernel_rfl) (wrapEq_i64 (by omega) (by omega)) ?_
                refine Op.pures 1 [0, 3] (L' := []) (e' := [(0, .string (mkS s)), (3, .int .i64 (i + 1))]) (by kernel_rfl) ?_
                refine Op.goto 2 (by kernel_rfl) ?_
                exact ih2  (i + 1) _ (by omega) (by omega) (by omega) (by exact allTo_step ha hx237 (by simp [sgn]; omega) h0)  s_loop2233
              · refine Op.cast (e' := [(0, .string (mkS s)), (3, .int .i64 i), (4, .int .u8 (x236.toNat : Int)), (28, .bool false)]) (by rw [hb]) ?_
                have c243 : ¬ ((x236.toNat : Int) ≤ (57 : Int)) := of_decide_eq_false hb
                clear hb
                refine Op.pures 4 [0, 3, 4, 32] (L' := [(19, false), (20, false), (21, false), (22, false)]) (e' := [(0, .string (mkS s)), (3, .int .i64 i), (4, .int .u8 (x236.toNat : Int)), (32, .bool ((x236.toNat : Int) == (45 : Int)))]) (by kernel_rfl) ?_
                refine Op.ways (b := (x236.toNat : Int) == (45 : Int)) ⟨fun hb => ?_, fun hb => ?_⟩
                · refine Op.cast (e' := [(0, .string (mkS s)), (3, .int .i64 i), (4, .int .u8 (x236.toNat : Int)), (32, .bool true)]) (by rw [hb]) ?_
                  have c244 : (x236.toNat : Int) = (45 : Int) := eq_of_beq hb
                  clear hb
                  refine Op.pures 4 [0, 3, 36] (L' := []) (e' := [(0, .string (mkS s)), (3, .int .i64 i), (36, .bool false)]) (by kernel_rfl) ?_
                  refine Op.goto 6 (by kernel_rfl) ?_
                  refine At.condF (c := .tmp 36) (by kernel_rfl) (by kernel_rfl) (by kernel_rfl) 9 (by kernel_rfl) ?_
                  refine At.reg (L := [(0, false), (1, false), (2, false)]) (by kernel_rfl) ?_
                  refine Op.pures 1 [0, 3, 9] (L' := [(1, false), (2, false)]) (e' := [(0, .string (mkS s)), (3, .int .i64 i), (9, .int .i64 i)]) (by kernel_rfl) ?_
                  refine Op.val (dst := some 10) (v := .int .i64 (IntKind.wrap .i64 (i + 1))) (v' := .int .i64 (i + 1)) (by kernel_rfl) (wrapEq_i64 (by omega) (by omega)) ?_
                  refine Op.pures 1 [0, 3] (L' := []) (e' := [(0, .string (mkS s)), (3, .int .i64 (i + 1))]) (by kernel_rfl) ?_
                  refine Op.goto 2 (by kernel_rfl) ?_
                  exact ih2  (i + 1) _ (by omega) (by omega) (by omega) (by exact allTo_step ha hx237 (by simp [sgn]; omega) h0)  s_loop2233
                · refine Op.cast (e' := [(0, .string (mkS s)), (3, .int .i64 i), (4, .int .u8 (x236.toNat : Int)), (32, .bool false)]) (by rw [hb]) ?_
                  have c245 : ¬ ((x236.toNat : Int) = (45 : Int)) := neF hb
                  clear hb
                  refine Op.pures 4 [0, 3, 36] (L' := []) (e' := [(0, .string (mkS s)), (3, .int .i64 i), (36, .bool (!((x236.toNat : Int) == (95 : Int))))]) (by kernel_rfl) ?_
                  refine Op.goto 6 (by kernel_rfl) ?_
                  refine At.cond (b := !((x236.toNat : Int) == (95 : Int))) (c := .tmp 36) (by kernel_rfl) (by kernel_rfl) (by kernel_rfl) 7 9 (by kernel_rfl) (by kernel_rfl) (fun hb => ?_) (fun hb => ?_)
                  · have c246 : ¬ ((x236.toNat : Int) = (95 : Int)) := neF (notT hb)
                    clear hb
                    refine At.keep [] ?_; show At _ _ _ [] _
                    refine At.reg (L := [(0, false)]) (by kernel_rfl) ?_
                    refine Op.pures 1 [2] (L' := []) (e' := [(2, .bool false)]) (by kernel_rfl) ?_
                    refine Op.goto 8 (by kernel_rfl) ?_
                    refine At.ret (f := Tryd.f69) (v := .bool false) (by kernel_rfl) (by kernel_rfl) ?_
                    refine hR _ _ _ _ s_loop2233.fin ⟨?_, rfl, rfl⟩
                    exact (eqB (by exact part_bad hx237 (by simp [sgn]; omega)))
                  · have c247 : (x236.toNat : Int) = (95 : Int) := eq_of_beq (notF hb)
                    clear hb
                    refine At.keep [0, 3] ?_; show At _ _ _ [(0, .string (mkS s)), (3, .int .i64 i)] _
                    refine At.reg (L := [(0, false), (1, false), (2, false)]) (by kernel_rfl) ?_
                    refine Op.pures 1 [0, 3, 9] (L' := [(1, false), (2, false)]) (e' := [(0, .string (mkS s)), (3, .int .i64 i), (9, .int .i64 i)]) (by kernel_rfl) ?_
                    refine Op.val (dst := some 10) (v := .int .i64 (IntKind.wrap .i64 (i + 1))) (v' := .int .i64 (i + 1)) (by kernel_rfl) (wrapEq_i64 (by omega) (by omega)) ?_
                    refine Op.pures 1 [0, 3] (L' := []) (e' := [(0, .string (mkS s)), (3, .int .i64 (i + 1))]) (by kernel_rfl) ?_
                    refine Op.goto 2 (by kernel_rfl) ?_
                    exact ih2  (i + 1) _ (by omega) (by omega) (by omega) (by exact allTo_step ha hx237 (by simp [sgn]; omega) h0)  s_loop2233
            · refine Op.cast (e' := [(0, .string (mkS s)), (3, .int .i64 i), (4, .int .u8 (x236.toNat : Int)), (20, .bool false), (23, .bool false)]) (by rw [hb]) ?_
              have c248 : ¬ ((x236.toNat : Int) ≥ (48 : Int)) := of_decide_eq_false hb
              clear hb
              refine Op.pures 9 [0, 3, 4, 32] (L' := [(19, false), (20, false), (21, false), (22, false)]) (e' := [(0, .string (mkS s)), (3, .int .i64 i), (4, .int .u8 (x236.toNat : Int)), (32, .bool ((x236.toNat : Int) == (45 : Int)))]) (by kernel_rfl) ?_
              refine Op.ways (b := (x236.toNat : Int) == (45 : Int)) ⟨fun hb => ?_, fun hb => ?_⟩
              · refine Op.cast (e' := [(0, .string (mkS s)), (3, .int .i64 i), (4, .int .u8 (x236.toNat : Int)), (32, .bool true)]) (by rw [hb]) ?_
                have c249 : (x236.toNat : Int) = (45 : Int) := eq_of_beq hb
                clear hb
                refine Op.pures 4 [0, 3, 36] (L' := []) (e' := [(0, .string (mkS s)), (3, .int .i64 i), (36, .bool false)]) (by kernel_rfl) ?_
                refine Op.goto 6 (by kernel_rfl) ?_
                refine At.condF (c := .tmp 36) (by kernel_rfl) (by kernel_rfl) (by kernel_rfl) 9 (by kernel_rfl) ?_
                refine At.reg (L := [(0, false), (1, false), (2, false)]) (by kernel_rfl) ?_
                refine Op.pures 1 [0, 3, 9] (L' := [(1, false), (2, false)]) (e' := [(0, .string (mkS s)), (3, .int .i64 i), (9, .int .i64 i)]) (by kernel_rfl) ?_
                refine Op.val (dst := some 10) (v := .int .i64 (IntKind.wrap .i64 (i + 1))) (v' := .int .i64 (i + 1)) (by kernel_rfl) (wrapEq_i64 (by omega) (by omega)) ?_
                refine Op.pures 1 [0, 3] (L' := []) (e' := [(0, .string (mkS s)), (3, .int .i64 (i + 1))]) (by kernel_rfl) ?_
                refine Op.goto 2 (by kernel_rfl) ?_
                exact ih2  (i + 1) _ (by omega) (by omega) (by omega) (by exact allTo_step ha hx237 (by simp [sgn]; omega) h0)  s_loop2233
              · refine Op.cast (e' := [(0, .string (mkS s)), (3, .int .i64 i), (4, .int .u8 (x236.toNat : Int)), (32, .bool false)]) (by rw [hb]) ?_
                have c250 : ¬ ((x236.toNat : Int) = (45 : Int)) := neF hb
                clear hb
                refine Op.pures 4 [0, 3, 36] (L' := []) (e' := [(0, .string (mkS s)), (3, .int .i64 i), (36, .bool (!((x236.toNat : Int) == (95 : Int))))]) (by kernel_rfl) ?_
                refine Op.goto 6 (by kernel_rfl) ?_
                refine At.cond (b := !((x236.toNat : Int) == (95 : Int))) (c := .tmp 36) (by kernel_rfl) (by kernel_rfl) (by kernel_rfl) 7 9 (by kernel_rfl) (by kernel_rfl) (fun hb => ?_) (fun hb => ?_)
                · have c251 : ¬ ((x236.toNat : Int) = (95 : Int)) := neF (notT hb)
                  clear hb
                  refine At.keep [] ?_; show At _ _ _ [] _
                  refine At.reg (L := [(0, false)]) (by kernel_rfl) ?_
                  refine Op.pures 1 [2] (L' := []) (e' := [(2, .bool false)]) (by kernel_rfl) ?_
                  refine Op.goto 8 (by kernel_rfl) ?_
                  refine At.ret (f := Tryd.f69) (v := .bool false) (by kernel_rfl) (by kernel_rfl) ?_
                  refine hR _ _ _ _ s_loop2233.fin ⟨?_, rfl, rfl⟩
                  exact (eqB (by exact part_bad hx237 (by simp [sgn]; omega)))
                · have c252 : (x236.toNat : Int) = (95 : Int) := eq_of_beq (notF hb)
                  clear hb
                  refine At.keep [0, 3] ?_; show At _ _ _ [(0, .string (mkS s)), (3, .int .i64 i)] _
                  refine At.reg (L := [(0, false), (1, false), (2, false)]) (by kernel_rfl) ?_
                  refine Op.pures 1 [0, 3, 9] (L' := [(1, false), (2, false)]) (e' := [(0, .string (mkS s)), (3, .int .i64 i), (9, .int .i64 i)]) (by kernel_rfl) ?_
                  refine Op.val (dst := some 10) (v := .int .i64 (IntKind.wrap .i64 (i + 1))) (v' := .int .i64 (i + 1)) (by kernel_rfl) (wrapEq_i64 (by omega) (by omega)) ?_
                  refine Op.pures 1 [0, 3] (L' := []) (e' := [(0, .string (mkS s)), (3, .int .i64 (i + 1))]) (by kernel_rfl) ?_
                  refine Op.goto 2 (by kernel_rfl) ?_
                  exact ih2  (i + 1) _ (by omega) (by omega) (by omega) (by exact allTo_step ha hx237 (by simp [sgn]; omega) h0)  s_loop2233
        · refine Op.cast (e' := [(0, .string (mkS s)), (3, .int .i64 i), (4, .int .u8 (x236.toNat : Int)), (16, .bool false)]) (by rw [hb]) ?_
          have c253 : ¬ ((x236.toNat : Int) ≥ (97 : Int)) := of_decide_eq_false hb
          clear hb
          refine Op.pures 7 [0, 3, 4, 20, 23] (L' := [(10, false), (11, false), (12, false), (13, false), (14, false), (15, false), (16, false), (17, false), (18, false), (19, false), (20, false), (21, false), (22, false)]) (e' := [(0, .string (mkS s)), (3, .int .i64 i), (4, .int .u8 (x236.toNat : Int)), (20, .bool false), (23, .bool (decide ((x236.toNat : Int) ≥ (48 : Int))))]) (by kernel_rfl) ?_
          refine Op.ways (b := decide ((x236.toNat : Int) ≥ (48 : Int))) ⟨fun hb => ?_, fun hb => ?_⟩
          · refine Op.cast (e' := [(0, .string (mkS s)), (3, .int .i64 i), (4, .int .u8 (x236.toNat : Int)), (20, .bool false), (23, .bool true)]) (by rw [hb]) ?_
            have c254 : (x236.toNat : Int) ≥ (48 : Int) := of_decide_eq_true hb
            clear hb
            refine Op.pures 5 [0, 3, 4, 28] (L' := [(15, false), (16, false), (17, false), (18, false), (19, false), (20, false), (21, false), (22, false)]) (e' := [(0, .string (mkS s)), (3, .int .i64 i), (4, .int .u8 (x236.toNat : Int)), (28, .bool (decide ((x236.toNat : Int) ≤ (57 : Int))))]) (by kernel_rfl) ?_
            refine Op.ways (b := decide ((x236.toNat : Int) ≤ (57 : Int))) ⟨fun hb => ?_, fun hb => ?_⟩
            · refine Op.cast (e' := [(0, .string (mkS s)), (3, .int .i64 i), (4, .int .u8 (x236.toNat : Int)), (28, .bool true)]) (by rw [hb]) ?_
              have c255 : (x236.toNat : Int) ≤ (57 : Int) := of_decide_eq_true hb
              clear hb
              refine Op.pures 8 [0, 3, 36] (L' := []) (e' := [(0, .string (mkS s)), (3, .int .i64 i), (36, .bool false)]) (by kernel_rfl) ?_
              refine Op.goto 6 (by kernel_rfl) ?_
              refine At.condF (c := .tmp 36) (by kernel_rfl) (by kernel_rfl) (by kernel_rfl) 9 (by kernel_rfl) ?_
              refine At.reg (L := [(0, false), (1, false), (2, false)]) (by kernel_rfl) ?_
              refine Op.pures 1 [0, 3, 9] (L' := [(1, false), (2, false)]) (e' := [(0, .string (mkS s)), (3, .int .i64 i), (9, .int .i64 i)]) (by kernel_rfl) ?_
              refine Op.val (dst := some 10) (v := .int .i64 (IntKind.wrap .i64 (i + 1))) (v' := .int .i64 (i + 1)) (by kernel_rfl) (wrapEq_i64 (by omega) (by omega)) ?_
              refine Op.pures 1 [0, 3] (L' := []) (e' := [(0, .string (mkS s)), (3, .int .i64 (i + 1))]) (by kernel_rfl) ?_
              refine Op.goto 2 (by kernel_rfl) ?_
              exact ih2  (i + 1) _ (by omega) (by omega) (by omega) (by exact allTo_step ha hx237 (by simp [sgn]; omega) h0)  s_loop2233
            · refine Op.cast (e' := [(0, .string (mkS s)), (3, .int .i64 i), (4, .int .u8 (x236.toNat : Int)), (28, .bool false)]) (by rw [hb]) ?_
              have c256 : ¬ ((x236.toNat : Int) ≤ (57 : Int)) := of_decide_eq_false hb
              clear hb
              refine Op.pures 4 [0, 3, 4, 32] (L' := [(19, false), (20, false), (21, false), (22, false)]) (e' := [(0, .string (mkS s)), (3, .int .i64 i), (4, .int .u8 (x236.toNat : Int)), (32, .bool ((x236.toNat : Int) == (45 : Int)))]) (by kernel_rfl) ?_
              refine Op.ways (b := (x236.toNat : Int) == (45 : Int)) ⟨fun hb => ?_, fun hb => ?_⟩
              · refine Op.cast (e' := [(0, .string (mkS s)), (3, .int .i64 i), (4, .int .u8 (x236.toNat : Int)), (32, .bool true)]) (by rw [hb]) ?_
                have c257 : (x236.toNat : Int) = (45 : Int) := eq_of_beq hb
                clear hb
                refine Op.pures 4 [0, 3, 36] (L' := []) (e' := [(0, .string (mkS s)), (3, .int .i64 i), (36, .bool false)]) (by kernel_rfl) ?_
                refine Op.goto 6 (by kernel_rfl) ?_
                refine At.condF (c := .tmp 36) (by kernel_rfl) (by kernel_rfl) (by kernel_rfl) 9 (by kernel_rfl) ?_
                refine At.reg (L := [(0, false), (1, false), (2, false)]) (by kernel_rfl) ?_
                refine Op.pures 1 [0, 3, 9] (L' := [(1, false), (2, false)]) (e' := [(0, .string (mkS s)), (3, .int .i64 i), (9, .int .i64 i)]) (by kernel_rfl) ?_
                refine Op.val (dst := some 10) (v := .int .i64 (IntKind.wrap .i64 (i + 1))) (v' := .int .i64 (i + 1)) (by kernel_rfl) (wrapEq_i64 (by omega) (by omega)) ?_
                refine Op.pures 1 [0, 3] (L' := []) (e' := [(0, .string (mkS s)), (3, .int .i64 (i + 1))]) (by kernel_rfl) ?_
                refine Op.goto 2 (by kernel_rfl) ?_
                exact ih2  (i + 1) _ (by omega) (by omega) (by omega) (by exact allTo_step ha hx237 (by simp [sgn]; omega) h0)  s_loop2233
              · refine Op.cast (e' := [(0, .string (mkS s)), (3, .int .i64 i), (4, .int .u8 (x236.toNat : Int)), (32, .bool false)]) (by rw [hb]) ?_
                have c258 : ¬ ((x236.toNat : Int) = (45 : Int)) := neF hb
                clear hb
                refine Op.pures 4 [0, 3, 36] (L' := []) (e' := [(0, .string (mkS s)), (3, .int .i64 i), (36, .bool (!((x236.toNat : Int) == (95 : Int))))]) (by kernel_rfl) ?_
                refine Op.goto 6 (by kernel_rfl) ?_
                refine At.cond (b := !((x236.toNat : Int) == (95 : Int))) (c := .tmp 36) (by kernel_rfl) (by kernel_rfl) (by kernel_rfl) 7 9 (by kernel_rfl) (by kernel_rfl) (fun hb => ?_) (fun hb => ?_)
                · have c259 : ¬ ((x236.toNat : Int) = (95 : Int)) := neF (notT hb)
                  clear hb
                  refine At.keep [] ?_; show At _ _ _ [] _
                  refine At.reg (L := [(0, false)]) (by kernel_rfl) ?_
                  refine Op.pures 1 [2] (L' := []) (e' := [(2, .bool false)]) (by kernel_rfl) ?_
                  refine Op.goto 8 (by kernel_rfl) ?_
                  refine At.ret (f := Tryd.f69) (v := .bool false) (by kernel_rfl) (by kernel_rfl) ?_
                  refine hR _ _ _ _ s_loop2233.fin ⟨?_, rfl, rfl⟩
                  exact (eqB (by exact part_bad hx237 (by simp [sgn]; omega)))
                · have c260 : (x236.toNat : Int) = (95 : Int) := eq_of_beq (notF hb)
                  clear hb
                  refine At.keep [0, 3] ?_; show At _ _ _ [(0, .string (mkS s)), (3, .int .i64 i)] _
                  refine At.reg (L := [(0, false), (1, false), (2, false)]) (by kernel_rfl) ?_
                  refine Op.pures 1 [0, 3, 9] (L' := [(1, false), (2, false)]) (e' := [(0, .string (mkS s)), (3, .int .i64 i), (9, .int .i64 i)]) (by kernel_rfl) ?_
                  refine Op.val (dst := some 10) (v := .int .i64 (IntKind.wrap .i64 (i + 1))) (v' := .int .i64 (i + 1)) (by kernel_rfl) (wrapEq_i64 (by omega) (by omega)) ?_
                  refine Op.pures 1 [0, 3] (L' := []) (e' := [(0, .string (mkS s)), (3, .int .i64 (i + 1))]) (by kernel_rfl) ?_
                  refine Op.goto 2 (by kernel_rfl) ?_
                  exact ih2  (i + 1) _ (by omega) (by omega) (by omega) (by exact allTo_step ha hx237 (by simp [sgn]; omega) h0)  s_loop2233
          · refine Op.cast (e' := [(0, .string (mkS s)), (3, .int .i64 i), (4, .int .u8 (x236.toNat : Int)), (20, .bool false), (23, .bool false)]) (by rw [hb]) ?_
            have c261 : ¬ ((x236.toNat : Int) ≥ (48 : Int)) := of_decide_eq_false hb
            clear hb
            refine Op.pures 9 [0, 3, 4, 32] (L' := [(19, false), (20, false), (21, false), (22, false)]) (e' := [(0, .string (mkS s)), (3, .int .i64 i), (4, .int .u8 (x236.toNat : Int)), (32, .bool ((x236.toNat : Int) == (45 : Int)))]) (by kernel_rfl) ?_
            refine Op.ways (b := (x236.toNat : Int) == (45 : Int)) ⟨fun hb => ?_, fun hb => ?_⟩
            · refine Op.cast (e' := [(0, .string (mkS s)), (3, .int .i64 i), (4, .int .u8 (x236.toNat : Int)), (32, .bool true)]) (by rw [hb]) ?_
              have c262 : (x236.toNat : Int) = (45 : Int) := eq_of_beq hb
              clear hb
              refine Op.pures 4 [0, 3, 36] (L' := []) (e' := [(0, .string (mkS s)), (3, .int .i64 i), (36, .bool false)]) (by kernel_rfl) ?_
              refine Op.goto 6 (by kernel_rfl) ?_
              refine At.condF (c := .tmp 36) (by kernel_rfl) (by kernel_rfl) (by kernel_rfl) 9 (by kernel_rfl) ?_
              refine At.reg (L := [(0, false), (1, false), (2, false)]) (by kernel_rfl) ?_
              refine Op.pures 1 [0, 3, 9] (L' := [(1, false), (2, false)]) (e' := [(0, .string (mkS s)), (3, .int .i64 i), (9, .int .i64 i)]) (by kernel_rfl) ?_
              refine Op.val (dst := some 10) (v := .int .i64 (IntKind.wrap .i64 (i + 1))) (v' := .int .i64 (i + 1)) (by kernel_rfl) (wrapEq_i64 (by omega) (by omega)) ?_
              refine Op.pures 1 [0, 3] (L' := []) (e' := [(0, .string (mkS s)), (3, .int .i64 (i + 1))]) (by kernel_rfl) ?_
              refine Op.goto 2 (by kernel_rfl) ?_
              exact ih2  (i + 1) _ (by omega) (by omega) (by omega) (by exact allTo_step ha hx237 (by simp [sgn]; omega) h0)  s_loop2233
            · refine Op.cast (e' := [(0, .string (mkS s)), (3, .int .i64 i), (4, .int .u8 (x236.toNat : Int)), (32, .bool false)]) (by rw [hb]) ?_
              have c263 : ¬ ((x236.toNat : Int) = (45 : Int)) := neF hb
              clear hb
              refine Op.pures 4 [0, 3, 36] (L' := []) (e' := [(0, .string (mkS s)), (3, .int .i64 i), (36, .bool (!((x236.toNat : Int) == (95 : Int))))]) (by kernel_rfl) ?_
              refine Op.goto 6 (by kernel_rfl) ?_
              refine At.cond (b := !((x236.toNat : Int) == (95 : Int))) (c := .tmp 36) (by kernel_rfl) (by kernel_rfl) (by kernel_rfl) 7 9 (by kernel_rfl) (by kernel_rfl) (fun hb => ?_) (fun hb => ?_)
              · have c264 : ¬ ((x236.toNat : Int) = (95 : Int)) := neF (notT hb)
                clear hb
                refine At.keep [] ?_; show At _ _ _ [] _
                refine At.reg (L := [(0, false)]) (by kernel_rfl) ?_
                refine Op.pures 1 [2] (L' := []) (e' := [(2, .bool false)]) (by kernel_rfl) ?_
                refine Op.goto 8 (by kernel_rfl) ?_
                refine At.ret (f := Tryd.f69) (v := .bool false) (by kernel_rfl) (by kernel_rfl) ?_
                refine hR _ _ _ _ s_loop2233.fin ⟨?_, rfl, rfl⟩
                exact (eqB (by exact part_bad hx237 (by simp [sgn]; omega)))
              · have c265 : (x236.toNat : Int) = (95 : Int) := eq_of_beq (notF hb)
                clear hb
                refine At.keep [0, 3] ?_; show At _ _ _ [(0, .string (mkS s)), (3, .int .i64 i)] _
                refine At.reg (L := [(0, false), (1, false), (2, false)]) (by kernel_rfl) ?_
                refine Op.pures 1 [0, 3, 9] (L' := [(1, false), (2, false)]) (e' := [(0, .string (mkS s)), (3, .int .i64 i), (9, .int .i64 i)]) (by kernel_rfl) ?_
                refine Op.val (dst := some 10) (v := .int .i64 (IntKind.wrap .i64 (i + 1))) (v' := .int .i64 (i + 1)) (by kernel_rfl) (wrapEq_i64 (by omega) (by omega)) ?_
                refine Op.pures 1 [0, 3] (L' := []) (e' := [(0, .string (mkS s)), (3, .int .i64 (i + 1))]) (by kernel_rfl) ?_
                refine Op.goto 2 (by kernel_rfl) ?_
                exact ih2  (i + 1) _ (by omega) (by omega) (by omega) (by exact allTo_step ha hx237 (by simp [sgn]; omega) h0)  s_loop2233
      · have c266 : ¬ (i < (s.length : Int)) := of_decide_eq_false hb
        clear hb
        refine At.keep [0] ?_; show At _ _ _ [(0, .string (mkS s))] _
        refine At.reg (L := [(0, false), (1, false), (2, false), (3, false), (4, false), (5, false), (6, false), (7, false), (8, false)]) (by kernel_rfl) ?_
        refine Op.pures 4 [0, 40] (L' := [(4, false), (5, false), (6, false), (7, false), (8, false)]) (e' := [(0, .string (mkS s)), (40, .bool (decide ((s.length : Int) ≥ (1 : Int))))]) (by kernel_rfl) ?_
        refine Op.ways (b := decide ((s.length : Int) ≥ (1 : Int))) ⟨fun hb => ?_, fun hb => ?_⟩
        · refine Op.cast (e' := [(0, .string (mkS s)), (40, .bool true)]) (by rw [hb]) ?_
          have c267 : (s.length : Int) ≥ (1 : Int) := of_decide_eq_true hb
          clear hb
          refine Op.pures 5 [2] (L' := []) (e' := [(2, .bool (decide ((s.length : Int) ≤ (16 : Int))))]) (by kernel_rfl) ?_
          refine Op.goto 11 (by kernel_rfl) ?_
          refine At.ret (f := Tryd.f69) (v := .bool (decide ((s.length : Int) ≤ (16 : Int)))) (by kernel_rfl) (by kernel_rfl) ?_
          refine hR _ _ _ _ s_loop2233.fin ⟨?_, rfl, rfl⟩
          exact (eqB (by first | exact part_end ha c266 c267 | exact part_end0 c267))
        · refine Op.cast (e' := [(0, .string (mkS s)), (40, .bool false)]) (by rw [hb]) ?_
          have c268 : ¬ ((s.length : Int) ≥ (1 : Int)) := of_decide_eq_false hb
          clear hb
          refine Op.pures 5 [2] (L' := []) (e' := [(2, .bool false)]) (by kernel_rfl) ?_
          refine Op.goto 11 (by kernel_rfl) ?_
          refine At.ret (f := Tryd.f69) (v := .bool false) (by kernel_rfl) (by kernel_rfl) ?_
          refine hR _ _ _ _ s_loop2233.fin ⟨?_, rfl, rfl⟩
          exact (eqB (by first | exact part_end ha c266 c268 | exact part_end0 c268))
  exact loop2 _  0 _ (Nat.lt_succ_self _) (by omega) (by omega) (by exact allTo_0 _)  s0

/-- stanchion/stanchionref09.whole -/
theorem wholeR (B : World) (h : Heap) (g : GH) (hg : Sub g h) (hG : Glob g) (v_l : Value) (l : List (List UInt8)) (h_l : SlR g 9 kStr v_l l) (hl : l.length ≤ 1000000000) (hL : (joined l).length ≤ 10000000000) :
    Spec Tryd.prog B 62 #[v_l] h g [] (fun v g' L' => v = .string (mkS (joined l)) ∧ g' = g ∧ L' = []) := by
  obtain ⟨a_l, n_l, rfl⟩ := h_l.form
  refine Spec.of_at (f := Tryd.f62) (e := [(0, .slice a_l l.length n_l)]) Tryd.func62 (by kernel_rfl) (Nat.le_of_ble_eq_true (by kernel_rfl)) (by kernel_rfl) (by kernel_rfl) ?_
  intro R hR
  have s0 := St.init hg
  refine At.reg (L := [(0, false)]) (by kernel_rfl) ?_
  refine Op.pures 1 [0] (L' := []) (e' := [(0, .slice a_l l.length n_l)]) (by kernel_rfl) ?_
  refine Op.goto 1 (by kernel_rfl) ?_
  refine At.reg (L := [(0, false)]) (by kernel_rfl) ?_
  refine Op.pures 1 [0, 3] (L' := []) (e' := [(0, .slice a_l l.length n_l), (3, .string (mkS []))]) (by kernel_rfl) ?_
  refine Op.goto 2 (by kernel_rfl) ?_
  refine At.reg (L := [(0, false)]) (by kernel_rfl) ?_
  refine Op.pures 1 [0, 3, 4] (L' := []) (e' := [(0, .slice a_l l.length n_l), (3, .string (mkS [])), (4, .int .i64 0)]) (by kernel_rfl) ?_
  refine Op.goto 3 (by kernel_rfl) ?_
  have loop3 : ∀ (m : Nat) (out : List UInt8) (i : Int) (h269 : Heap) (hm : l.length - i.toNat < m) (h0 : 0 ≤ i) (h2 : i ≤ l.length) (ho : out = wh (l.take i.toNat))  (s_loop3268 : St h g (ids []) g [] h269), At (fctx Tryd.prog B 62 Tryd.f62 R) [] 3 [(0, .slice a_l l.length n_l), (3, .string (mkS out)), (4, .int .i64 i)] h269 := by
    intro m; induction m with
    | zero => intros; omega
    | succ m ih3 =>
      intro out i h269 hm h0 h2 ho s_loop3268
      refine At.reg (L := [(0, false), (1, false), (2, false), (3, false)]) (by kernel_rfl) ?_
      refine Op.pures 4 [0, 3, 4, 8] (L' := []) (e' := [(0, .slice a_l l.length n_l), (3, .string (mkS out)), (4, .int .i64 i), (8, .bool (decide (i < (l.length : Int))))]) (by kernel_rfl) ?_
      refine Op.goto 4 (by kernel_rfl) ?_
      refine At.cond (b := decide (i < (l.length : Int))) (c := .tmp 8) (by kernel_rfl) (by kernel_rfl) (by kernel_rfl) 5 7 (by kernel_rfl) (by kernel_rfl) (fun hb => ?_) (fun hb => ?_)
      · have c270 : i < (l.length : Int) := of_decide_eq_true hb
        clear hb
        refine At.keep [0, 3, 4] ?_; show At _ _ _ [(0, .slice a_l l.length n_l), (3, .string (mkS out)), (4, .int .i64 i)] _
        refine At.reg (L := [(0, false), (1, false), (2, false), (3, false), (4, false), (5, false), (6, false), (7, false)]) (by kernel_rfl) ?_
        refine Op.pures 3 [0, 3, 4, 11, 12, 13] (L' := [(3, false), (4, false), (5, false), (6, false), (7, false)]) (e' := [(0, .slice a_l l.length n_l), (3, .string (mkS out)), (4, .int .i64 i), (11, .string (mkS out)), (12, .slice a_l l.length n_l), (13, .int .i64 i)]) (by kernel_rfl) ?_
        obtain ⟨x271, hx272⟩ : ∃ c, l[(i : Int).toNat]? = some c := ⟨_, List.getElem?_eq_getElem (by first | omega | (have hb := wh_bound ho h0 {hx0}; simp only [List.length_append, List.length_cons, List.length_nil]; omega))⟩
        obtain ⟨b273, o274, cu275, fz276, ha277, hb278, hk279⟩ := SlH.at_ (h_l.toH s_loop3268.sub) _ hx272
        cases ha277
        refine Op.idx (T := 37) (E := 9) (sz := 1) (by_ := 16) (n := l.length) (c := n_l) (k := .i64) (x := (.tmp 12)) (ix := (.tmp 13)) (dst := 14) (bk := b273) (o := o274) (m := i) (by kernel_rfl) (by kernel_rfl) (by kernel_rfl) (by kernel_rfl) (by first | omega | (have hb := wh_bound ho h0 {hx0}; simp only [List.length_append, List.length_cons, List.length_nil]; omega)) (by first | omega | (have hb := wh_bound ho h0 {hx0}; simp only [List.length_append, List.length_cons, List.length_nil]; omega)) ?_
        replace hk279 : cut _ _ _ = [.string (mkS x271)] := hk279
        refine Op.load (T := 9) (x := (.tmp 14)) (o := o274 + (i : Int).toNat * 1) (d := 15) (n := 1) (v := .string (mkS x271)) (by kernel_rfl) (by kernel_rfl) (by kernel_rfl) hb278 (cut_get hk279 0 rfl) ?_
        refine Op.strAdd (T := 9) (T' := 9) (x := (.const (.string (mkS ([47]))))) (y := (.tmp 15)) (dst := 16) (l := [47]) (m := x271) (by kernel_rfl) (by kernel_rfl) (by kernel_rfl) (by first | omega | (have hb := wh_bound ho h0 hx272; simp only [List.length_append, List.length_cons, List.length_nil]; omega)) ?_
        refine Op.strAdd (T := 9) (T' := 9) (x := (.tmp 11)) (y := (.tmp 16)) (dst := 17) (l := out) (m := ([47]) ++ x271) (by kernel_rfl) (by kernel_rfl) (by kernel_rfl) (by first | omega | (have hb := wh_bound ho h0 hx272; simp only [List.length_append, List.length_cons, List.length_nil]; omega)) ?_
        refine Op.pures 1 [0, 3, 4] (L' := []) (e' := [(0, .slice (some ⟨b273, o274, none⟩) l.length n_l), (3, .string (mkS (out ++ (([47]) ++ x271)))), (4, .int .i64 i)]) (by kernel_rfl) ?_
        refine Op.goto 6 (by kernel_rfl) ?_
        refine At.reg (L := [(0, false), (1, false), (2, false)]) (by kernel_rfl) ?_
        refine Op.pures 1 [0, 3, 4, 9] (L' := [(1, false), (2, false)]) (e' := [(0, .slice (some ⟨b273, o274, none⟩) l.length n_l), (3, .string (mkS (out ++ (([47]) ++ x271)))), (4, .int .i64 i), (9, .int .i64 i)]) (by kernel_rfl) ?_
        refine Op.val (dst := some 10) (v := .int .i64 (IntKind.wrap .i64 (i + 1))) (v' := .int .i64 (i + 1)) (by kernel_rfl) (wrapEq_i64 (by first | omega | (have hb := wh_bound ho h0 hx272; simp only [List.length_append, List.length_cons, List.length_nil]; omega)) (by first | omega | (have hb := wh_bound ho h0 hx272; simp only [List.length_append, List.length_cons, List.length_nil]; omega))) ?_
        refine Op.pures 1 [0, 3, 4] (L' := []) (e' := [(0, .slice (some ⟨b273, o274, none⟩) l.length n_l), (3, .string (mkS (out ++ (([47]) ++ x271)))), (4, .int .i64 (i + 1))]) (by kernel_rfl) ?_
        refine Op.goto 3 (by kernel_rfl) ?_
        exact ih3  (out ++ (([47]) ++ x271)) (i + 1) _ (by omega) (by first | omega | (have hb := wh_bound ho h0 hx272; simp only [List.length_append, List.length_cons, List.length_nil]; omega)) (by first | omega | (have hb := wh_bound ho h0 hx272; simp only [List.length_append, List.length_cons, List.length_nil]; omega)) (by exact wh_step ho h0 hx272)  s_loop3268
      · have c280 : ¬ (i < (l.length : Int)) := of_decide_eq_false hb
        clear hb
        refine At.keep [3] ?_; show At _ _ _ [(3, .string (mkS out))] _
        refine At.reg (L := [(0, false), (1, false)]) (by kernel_rfl) ?_
        refine Op.pures 1 [3, 18] (L' := [(1, false)]) (e' := [(3, .string (mkS out)), (18, .string (mkS out))]) (by kernel_rfl) ?_
        refine Op.val (dst := some 19) (v := .bool ((mkS out).toList == (mkS []).toList)) (v' := .bool (out == ([] : List UInt8))) (by kernel_rfl) (by rw [toList_mkS, toList_mkS]) ?_
        refine Op.goto 8 (by kernel_rfl) ?_
        refine At.cond (b := out == ([] : List UInt8)) (c := .tmp 19) (by kernel_rfl) (by kernel_rfl) (by kernel_rfl) 9 11 (by kernel_rfl) (by kernel_rfl) (fun hb => ?_) (fun hb => ?_)
        · have c281 : out = ([] : List UInt8) := eq_of_beq hb
          clear hb
          refine At.keep [] ?_; show At _ _ _ [] _
          refine At.reg (L := [(0, false)]) (by kernel_rfl) ?_
          refine Op.pures 1 [2] (L' := []) (e' := [(2, .string (mkS ([47])))]) (by kernel_rfl) ?_
          refine Op.goto 10 (by kernel_rfl) ?_
          refine At.ret (f := Tryd.f62) (v := .string (mkS ([47]))) (by kernel_rfl) (by kernel_rfl) ?_
          refine hR _ _ _ _ s_loop3268.fin ⟨?_, rfl, rfl⟩
          exact (eqS (by exact wh_end0 ho c280 c281))
        · have c282 : ¬ (out = ([] : List UInt8)) := neF hb
          clear hb
          refine At.keep [3] ?_; show At _ _ _ [(3, .string (mkS out))] _
          refine At.reg (L := [(0, false), (1, false)]) (by kernel_rfl) ?_
          refine Op.pures 2 [2] (L' := []) (e' := [(2, .string (mkS out))]) (by kernel_rfl) ?_
          refine Op.goto 12 (by kernel_rfl) ?_
          refine At.ret (f := Tryd.f62) (v := .string (mkS out)) (by kernel_rfl) (by kernel_rfl) ?_
          refine hR _ _ _ _ s_loop3268.fin ⟨?_, rfl, rfl⟩
          exact (eqS (by exact wh_end1 ho c280 c282))
  exact loop3 _  [] 0 _ (Nat.lt_succ_self _) (by first | omega | (have hb := wh_bound ho h0 {hx0}; simp only [List.length_append, List.length_cons, List.length_nil]; omega)) (by first | omega | (have hb := wh_bound ho h0 {hx0}; simp only [List.length_append, List.length_cons, List.length_nil]; omega)) (by rfl)  s0

/-- stanchion/stanchionref09.Parts -/
theorem partsR (B : World) (h : Heap) (g : GH) (hg : Sub g h) (hG : Glob g) (p : List UInt8) (hlen : p.length ≤ 1000000000) :
    Spec Tryd.prog B 43 #[.string (mkS p)] h g [] (fun v g' L' => ∃ v0, v = .tuple #[v0, .int .i64 (pErr p)] ∧ SlR g' 9 kStr v0 (pList p) ∧ L' = []) := by
  refine Spec.of_at (f := Tryd.f43) (e := [(0, .string (mkS p))]) Tryd.func43 (by kernel_rfl) (Nat.le_of_ble_eq_true (by kernel_rfl)) (by kernel_rfl) (by kernel_rfl) ?_
  intro R hR
  have s0 := St.init hg
  refine At.reg (L := [(0, false), (1, false)]) (by kernel_rfl) ?_
  refine Op.pures 2 [0] (L' := []) (e' := [(0, .string (mkS p))]) (by kernel_rfl) ?_
  refine Op.goto 1 (by kernel_rfl) ?_
  refine At.reg (L := [(0, false), (1, false), (2, false), (3, false), (4, false), (5, false), (6, false), (7, false), (8, false), (9, false), (10, false), (11, false), (12, false)]) (by kernel_rfl) ?_
  refine Op.pures 4 [0, 10] (L' := [(4, false), (5, false), (6, false), (7, false), (8, false), (9, false), (10, false), (11, false), (12, false)]) (e' := [(0, .string (mkS p)), (10, .bool (decide ((p.length : Int) < (1 : Int))))]) (by kernel_rfl) ?_
  refine Op.ways (b := decide ((p.length : Int) < (1 : Int))) ⟨fun hb => ?_, fun hb => ?_⟩
  · refine Op.cast (e' := [(0, .string (mkS p)), (10, .bool true)]) (by rw [hb]) ?_
    have c283 : (p.length : Int) < (1 : Int) := of_decide_eq_true hb
    clear hb
    refine Op.pures 9 [0, 19] (L' := []) (e' := [(0, .string (mkS p)), (19, .bool true)]) (by kernel_rfl) ?_
    refine Op.goto 2 (by kernel_rfl) ?_
    refine At.condT (c := .tmp 19) (by kernel_rfl) (by kernel_rfl) (by kernel_rfl) 3 (by kernel_rfl) ?_
    refine At.reg (L := [(0, false), (1, false)]) (by kernel_rfl) ?_
    refine Op.pures 2 [2, 3] (L' := []) (e' := [(2, .slice none 0 0), (3, .int .i64 90)]) (by kernel_rfl) ?_
    refine Op.goto 4 (by kernel_rfl) ?_
    refine At.ret (f := Tryd.f43) (v := .tuple #[.slice none 0 0, .int .i64 90]) (by kernel_rfl) (by kernel_rfl) ?_
    refine hR _ _ _ _ s0.clear ⟨(.slice none 0 0), ?_, ?_, rfl⟩
    · exact eqT2 rfl (eqI (by first | exact (no_ok (noR1 (by assumption))).1 | exact (no_ok (noR1 (by assumption))).2 | exact (no_ok (pOk_long (by omega))).1 | exact (no_ok (pOk_long (by omega))).2 | exact (no_ok (noR3 {hx0} (by assumption))).1 | exact (no_ok (noR3 {hx0} (by assumption))).2))
    · exact slEq (SlR.nil _ _ _) (by first | exact (no_ok (noR1 (by assumption))).1 | exact (no_ok (noR1 (by assumption))).2 | exact (no_ok (pOk_long (by omega))).1 | exact (no_ok (pOk_long (by omega))).2 | exact (no_ok (noR3 {hx0} (by assumption))).1 | exact (no_ok (noR3 {hx0} (by assumption))).2)
  · refine Op.cast (e' := [(0, .string (mkS p)), (10, .bool false)]) (by rw [hb]) ?_
    have c284 : ¬ ((p.length : Int) < (1 : Int)) := of_decide_eq_false hb
    clear hb
    refine Op.pures 5 [0, 15] (L' := [(9, false), (10, false), (11, false), (12, false)]) (e' := [(0, .string (mkS p)), (15, .bool (decide ((p.length : Int) > (64 : Int))))]) (by kernel_rfl) ?_
    refine Op.ways (b := decide ((p.length : Int) > (64 : Int))) ⟨fun hb => ?_, fun hb => ?_⟩
    · refine Op.cast (e' := [(0, .string (mkS p)), (15, .bool true)]) (by rw [hb]) ?_
      have c285 : (p.length : Int) > (64 : Int) := of_decide_eq_true hb
      clear hb
      refine Op.pures 4 [0, 19] (L' := []) (e' := [(0, .string (mkS p)), (19, .bool true)]) (by kernel_rfl) ?_
      refine Op.goto 2 (by kernel_rfl) ?_
      refine At.condT (c := .tmp 19) (by kernel_rfl) (by kernel_rfl) (by kernel_rfl) 3 (by kernel_rfl) ?_
      refine At.reg (L := [(0, false), (1, false)]) (by kernel_rfl) ?_
      refine Op.pures 2 [2, 3] (L' := []) (e' := [(2, .slice none 0 0), (3, .int .i64 90)]) (by kernel_rfl) ?_
      refine Op.goto 4 (by kernel_rfl) ?_
      refine At.ret (f := Tryd.f43) (v := .tuple #[.slice none 0 0, .int .i64 90]) (by kernel_rfl) (by kernel_rfl) ?_
      refine hR _ _ _ _ s0.clear ⟨(.slice none 0 0), ?_, ?_, rfl⟩
      · exact eqT2 rfl (eqI (by first | exact (no_ok (noR1 (by assumption))).1 | exact (no_ok (noR1 (by assumption))).2 | exact (no_ok (pOk_long (by omega))).1 | exact (no_ok (pOk_long (by omega))).2 | exact (no_ok (noR3 {hx0} (by assumption))).1 | exact (no_ok (noR3 {hx0} (by assumption))).2))
      · exact slEq (SlR.nil _ _ _) (by first | exact (no_ok (noR1 (by assumption))).1 | exact (no_ok (noR1 (by assumption))).2 | exact (no_ok (pOk_long (by omega))).1 | exact (no_ok (pOk_long (by omega))).2 | exact (no_ok (noR3 {hx0} (by assumption))).1 | exact (no_ok (noR3 {hx0} (by assumption))).2)
    · refine Op.cast (e' := [(0, .string (mkS p)), (15, .bool false)]) (by rw [hb]) ?_
      have c286 : ¬ ((p.length : Int) > (64 : Int)) := of_decide_eq_false hb
      clear hb
      refine Op.pures 1 [0, 15, 16] (L' := [(10, false), (11, false), (12, false)]) (e' := [(0, .string (mkS p)), (15, .bool false), (16, .string (mkS p))]) (by kernel_rfl) ?_
      obtain ⟨x287, hx288⟩ : ∃ c, p[(0 : Int).toNat]? = some c := ⟨_, List.getElem?_eq_getElem (by first | omega | (simp only [List.length_append, List.length_cons, List.length_nil, List.length_take, List.length_drop]; omega))⟩
      refine Op.strIdx (T := 9) (k := .i64) (x := (.tmp 16)) (ix := (.const (.int .i64 0))) (dst := 17) (l := p) (n := 0) (by kernel_rfl) (by kernel_rfl) (by kernel_rfl) (by kernel_rfl) (by first | omega | (simp only [List.length_append, List.length_cons, List.length_nil, List.length_take, List.length_drop]; omega)) hx288 ?_
      refine Op.pures 2 [0, 19] (L' := []) (e' := [(0, .string (mkS p)), (19, .bool ((x287.toNat : Int) != (47 : Int)))]) (by kernel_rfl) ?_
      refine Op.goto 2 (by kernel_rfl) ?_
      refine At.cond (b := (x287.toNat : Int) != (47 : Int)) (c := .tmp 19) (by kernel_rfl) (by kernel_rfl) (by kernel_rfl) 3 5 (by kernel_rfl) (by kernel_rfl) (fun hb => ?_) (fun hb => ?_)
      · have c289 : ¬ ((x287.toNat : Int) = (47 : Int)) := bneT hb
        clear hb
        refine At.keep [] ?_; show At _ _ _ [] _
        refine At.reg (L := [(0, false), (1, false)]) (by kernel_rfl) ?_
        refine Op.pures 2 [2, 3] (L' := []) (e' := [(2, .slice none 0 0), (3, .int .i64 90)]) (by kernel_rfl) ?_
        refine Op.goto 4 (by kernel_rfl) ?_
        refine At.ret (f := Tryd.f43) (v := .tuple #[.slice none 0 0, .int .i64 90]) (by kernel_rfl) (by kernel_rfl) ?_
        refine hR _ _ _ _ s0.clear ⟨(.slice none 0 0), ?_, ?_, rfl⟩
        · exact eqT2 rfl (eqI (by first | exact (no_ok (noR1 (by assumption))).1 | exact (no_ok (noR1 (by assumption))).2 | exact (no_ok (pOk_long (by omega))).1 | exact (no_ok (pOk_long (by omega))).2 | exact (no_ok (noR3 hx288 (by assumption))).1 | exact (no_ok (noR3 hx288 (by assumption))).2))
        · exact slEq (SlR.nil _ _ _) (by first | exact (no_ok (noR1 (by assumption))).1 | exact (no_ok (noR1 (by assumption))).2 | exact (no_ok (pOk_long (by omega))).1 | exact (no_ok (pOk_long (by omega))).2 | exact (no_ok (noR3 hx288 (by assumption))).1 | exact (no_ok (noR3 hx288 (by assumption))).2)
      · have c290 : (x287.toNat : Int) = (47 : Int) := bneF hb
        clear hb
        refine At.keep [0] ?_; show At _ _ _ [(0, .string (mkS p))] _
        refine At.reg (L := [(0, false), (1, false)]) (by kernel_rfl) ?_
        refine Op.lit (T := 37) (len := 0) (parts := #[]) (dst := 20) (E := 9) (ps := []) (cs := #[]) (by kernel_rfl) (by kernel_rfl) (by kernel_rfl) s0 ?_
        intro b291 h292 s293
        refine Op.pures 1 [0, 4] (L' := []) (e' := [(0, .string (mkS p)), (4, .slice (some ⟨b291, 0, none⟩) 0 0)]) (by kernel_rfl) ?_
        refine Op.goto 6 (by kernel_rfl) ?_
        refine At.reg (L := [(0, false), (1, false)]) (by kernel_rfl) ?_
        refine Op.pures 1 [0, 4, 21] (L' := [(1, false)]) (e' := [(0, .string (mkS p)), (4, .slice (some ⟨b291, 0, none⟩) 0 0), (21, .string (mkS p))]) (by kernel_rfl) ?_
        refine Op.val (dst := some 22) (v := .bool ((mkS p).toList == (mkS ([47])).toList)) (v' := .bool (p == ([47]))) (by kernel_rfl) (by rw [toList_mkS, toList_mkS]) ?_
        refine Op.goto 7 (by kernel_rfl) ?_
        refine At.cond (b := p == ([47])) (c := .tmp 22) (by kernel_rfl) (by kernel_rfl) (by kernel_rfl) 8 10 (by kernel_rfl) (by kernel_rfl) (fun hb => ?_) (fun hb => ?_)
        · have c294 : p = ([47]) := eq_of_beq hb
          clear hb
          refine At.keep [4] ?_; show At _ _ _ [(4, .slice (some ⟨b291, 0, none⟩) 0 0)] _
          refine At.reg (L := [(0, false), (1, false), (2, false)]) (by kernel_rfl) ?_
          refine Op.pures 3 [2, 3] (L' := []) (e' := [(2, .slice (some ⟨b291, 0, none⟩) 0 0), (3, .int .i64 0)]) (by kernel_rfl) ?_
          refine Op.goto 9 (by kernel_rfl) ?_
          refine At.ret (f := Tryd.f43) (v := .tuple #[.slice (some ⟨b291, 0, none⟩) 0 0, .int .i64 0]) (by kernel_rfl) (by kernel_rfl) ?_
          have R295 : Row 9 kStr g (.slice (some ⟨b291, 0, none⟩) 0 0) ([] : List (List UInt8)) [(b291, .cells #[] 9 (0, 0))] := .inr ⟨_, _, _, _, rfl, rfl, Nat.le_of_ble_eq_true (by kernel_rfl), by unfold maxLen; decide, Nat.le_of_ble_eq_true (by kernel_rfl), Reads.nil⟩
          obtain ⟨g296, s297, hle298, hf299⟩ := Row.freeze R295 (s293.front 0 rfl)
          replace hG := hG.mono hle298
          refine hR _ _ _ _ s297.clear ⟨(.slice (some ⟨b291, 0, none⟩) 0 0), ?_, ?_, rfl⟩
          · exact eqT2 rfl (eqI (by first | exact (parts_47 (by assumption)).1 | exact (parts_47 (by assumption)).2))
          · exact slEq hf299 (by first | exact (parts_47 (by assumption)).1 | exact (parts_47 (by assumption)).2)
        · have c300 : ¬ (p = ([47])) := neF hb
          clear hb
          refine At.keep [0, 4] ?_; show At _ _ _ [(0, .string (mkS p)), (4, .slice (some ⟨b291, 0, none⟩) 0 0)] _
          refine At.reg (L := [(0, false)]) (by kernel_rfl) ?_
          refine Op.pures 1 [0, 4, 5] (L' := []) (e' := [(0, .string (mkS p)), (4, .slice (some ⟨b291, 0, none⟩) 0 0), (5, .int .i64 1)]) (by kernel_rfl) ?_
          refine Op.goto 11 (by kernel_rfl) ?_
          refine At.reg (L := [(0, false)]) (by kernel_rfl) ?_
          refine Op.pures 1 [0, 4, 5, 6] (L' := []) (e' := [(0, .string (mkS p)), (4, .slice (some ⟨b291, 0, none⟩) 0 0), (5, .int .i64 1), (6, .int .i64 1)]) (by kernel_rfl) ?_
          refine Op.goto 12 (by kernel_rfl) ?_
          have loop12 : ∀ (m : Nat) (out : List (List UInt8)) (fr : Int) (i : Int) (a301 : Option Addr) (n302 : Nat) (ch303 : Chunk) (h305 : Heap) (hm : p.length + 1 - i.toNat < m) (h1 : 1 ≤ i) (h2 : i ≤ p.length + 1) (hf0 : 1 ≤ fr) (hf : fr ≤ i) (ho : (out.length : Int) ≤ i) (hP : PInv p out fr i) (R304 : Row 9 kStr g (.slice a301 out.length n302) out ch303) (s_loop12304 : St h g (ids []) g [ch303] h305), At (fctx Tryd.prog B 43 Tryd.f43 R) [] 12 [(0, .string (mkS p)), (4, .slice a301 out.length n302), (5, .int .i64 fr), (6, .int .i64 i)] h305 := by
            intro m; induction m with
            | zero => intros; omega
            | succ m ih12 =>
              intro out fr i a301 n302 ch303 h305 hm h1 h2 hf0 hf ho hP R304 s_loop12304
              refine At.reg (L := [(0, false), (1, false), (2, false), (3, false)]) (by kernel_rfl) ?_
              refine Op.pures 4 [0, 4, 5, 6, 27] (L' := []) (e' := [(0, .string (mkS p)), (4, .slice a301 out.length n302), (5, .int .i64 fr), (6, .int .i64 i), (27, .bool (decide (i ≤ (p.length : Int))))]) (by kernel_rfl) ?_
              refine Op.goto 13 (by kernel_rfl) ?_
              refine At.cond (b := decide (i ≤ (p.length : Int))) (c := .tmp 27) (by kernel_rfl) (by kernel_rfl) (by kernel_rfl) 14 23 (by kernel_rfl) (by kernel_rfl) (fun hb => ?_) (fun hb => ?_)
              · have c306 : i ≤ (p.length : Int) := of_decide_eq_true hb
                clear hb
                refine At.keep [0, 4, 5, 6] ?_; show At _ _ _ [(0, .string (mkS p)), (4, .slice a301 out.length n302), (5, .int .i64 fr), (6, .int .i64 i)] _
                refine At.reg (L := [(0, false), (1, false), (2, false), (3, false), (4, false), (5, false), (6, false), (7, false), (8, false), (9, false)]) (by kernel_rfl) ?_
                refine Op.pures 5 [0, 4, 5, 6, 34] (L' := [(5, false), (6, false), (7, false), (8, false), (9, false)]) (e' := [(0, .string (mkS p)), (4, .slice a301 out.length n302), (5, .int .i64 fr), (6, .int .i64 i), (34, .bool (i == (p.length : Int)))]) (by kernel_rfl) ?_
                refine Op.ways (b := i == (p.length : Int)) ⟨fun hb => ?_, fun hb => ?_⟩
                · refine Op.cast (e' := [(0, .string (mkS p)), (4, .slice a301 out.length n302), (5, .int .i64 fr), (6, .int .i64 i), (34, .bool true)]) (by rw [hb]) ?_
                  have c307 : i = (p.length : Int) := eq_of_beq hb
                  clear hb
                  refine Op.pures 5 [0, 4, 5, 6, 39] (L' := []) (e' := [(0, .string (mkS p)), (4, .slice a301 out.length n302), (5, .int .i64 fr), (6, .int .i64 i), (39, .bool true)]) (by kernel_rfl) ?_
                  refine Op.goto 15 (by kernel_rfl) ?_
                  refine At.condT (c := .tmp 39) (by kernel_rfl) (by kernel_rfl) (by kernel_rfl) 16 (by kernel_rfl) ?_
                  refine At.reg (L := [(0, false), (1, false), (2, false), (3, false), (4, false), (5, false)]) (by kernel_rfl) ?_
                  refine Op.pures 3 [0, 4, 5, 6, 40, 41, 42] (L' := [(3, false), (4, false), (5, false)]) (e' := [(0, .string (mkS p)), (4, .slice a301 out.length n302), (5, .int .i64 fr), (6, .int .i64 i), (40, .string (mkS p)), (41, .int .i64 fr), (42, .int .i64 i)]) (by kernel_rfl) ?_
                  refine Op.strLoHi (T := 9) (k := .i64) (k' := .i64) (x := (.tmp 40)) (lo := (.tmp 41)) (hi := (.tmp 42)) (dst := 43) (l := p) (n := fr) (m := i) (by kernel_rfl) (by kernel_rfl) (by kernel_rfl) (by kernel_rfl) (by kernel_rfl) (by first | omega | (simp only [List.length_append, List.length_cons, List.length_nil, List.length_take, List.length_drop]; omega)) (by first | omega | (simp only [List.length_append, List.length_cons, List.length_nil, List.length_take, List.length_drop]; omega)) (by first | omega | (simp only [List.length_append, List.length_cons, List.length_nil, List.length_take, List.length_drop]; omega)) ?_
                  refine Op.call0 (dst := some 44) (f := 69) (args := #[.string (mkS ((p.take (i : Int).toNat).drop (fr : Int).toNat))]) (by kernel_rfl) s_loop12304 (partR _ _ _ s_loop12304.sub hG ((p.take (i : Int).toNat).drop (fr : Int).toNat) (by first | omega | (simp only [List.length_append, List.length_cons, List.length_nil, List.length_take, List.length_drop]; omega))) ?_
                  rintro _ g310 _ h308 hle311 s309 ⟨rfl, hgg, rfl⟩; subst g310; clear hle311
                  refine Op.pures 1 [0, 4, 5, 6, 45] (L' := []) (e' := [(0, .string (mkS p)), (4, .slice a301 out.length n302), (5, .int .i64 fr), (6, .int .i64 i), (45, .bool (!(okPart ((p.take (i : Int).toNat).drop (fr : Int).toNat))))]) (by kernel_rfl) ?_
                  refine Op.goto 17 (by kernel_rfl) ?_
                  refine At.cond (b := !(okPart ((p.take (i : Int).toNat).drop (fr : Int).toNat))) (c := .tmp 45) (by kernel_rfl) (by kernel_rfl) (by kernel_rfl) 18 20 (by kernel_rfl) (by kernel_rfl) (fun hb => ?_) (fun hb => ?_)
                  · have c312 : (okPart ((p.take (i : Int).toNat).drop (fr : Int).toNat)) = false := (notT hb)
                    clear hb
                    refine At.keep [] ?_; show At _ _ _ [] _
                    refine At.reg (L := [(0, false), (1, false)]) (by kernel_rfl) ?_
                    refine Op.pures 2 [2, 3] (L' := []) (e' := [(2, .slice none 0 0), (3, .int .i64 90)]) (by kernel_rfl) ?_
                    refine Op.goto 19 (by kernel_rfl) ?_
                    refine At.ret (f := Tryd.f43) (v := .tuple #[.slice none 0 0, .int .i64 90]) (by kernel_rfl) (by kernel_rfl) ?_
                    refine hR _ _ _ _ s309.clear ⟨(.slice none 0 0), ?_, ?_, rfl⟩
                    · exact eqT2 rfl (eqI (by first | exact (no_ok (PInv_bad hP (by assumption) (by first | exact .inl (by assumption) | exact .inr ⟨_, {hx0}, by assumption⟩) (by assumption) (by assumption))).1 | exact (no_ok (PInv_bad hP (by assumption) (by first | exact .inl (by assumption) | exact .inr ⟨_, {hx0}, by assumption⟩) (by assumption) (by assumption))).2))
                    · exact slEq (SlR.nil _ _ _) (by first | exact (no_ok (PInv_bad hP (by assumption) (by first | exact .inl (by assumption) | exact .inr ⟨_, {hx0}, by assumption⟩) (by assumption) (by assumption))).1 | exact (no_ok (PInv_bad hP (by assumption) (by first | exact .inl (by assumption) | exact .inr ⟨_, {hx0}, by assumption⟩) (by assumption) (by assumption))).2)
                  · have c313 : (okPart ((p.take (i : Int).toNat).drop (fr : Int).toNat)) = true := (notF hb)
                    clear hb
                    refine At.keep [0, 4, 5, 6] ?_; show At _ _ _ [(0, .string (mkS p)), (4, .slice a301 out.length n302), (5, .int .i64 fr), (6, .int .i64 i)] _
                    refine At.reg (L := [(0, false), (1, false), (2, false), (3, false), (4, false), (5, false), (6, false), (7, false)]) (by kernel_rfl) ?_
                    refine Op.pures 4 [0, 4, 6, 46, 47, 48, 49] (L' := [(4, false), (5, false), (6, false), (7, false)]) (e' := [(0, .string (mkS p)), (4, .slice a301 out.length n302), (6, .int .i64 i), (46, .slice a301 out.length n302), (47, .string (mkS p)), (48, .int .i64 fr), (49, .int .i64 i)]) (by kernel_rfl) ?_
                    refine Op.strLoHi (T := 9) (k := .i64) (k' := .i64) (x := (.tmp 47)) (lo := (.tmp 48)) (hi := (.tmp 49)) (dst := 50) (l := p) (n := fr) (m := i) (by kernel_rfl) (by kernel_rfl) (by kernel_rfl) (by kernel_rfl) (by kernel_rfl) (by first | omega | (simp only [List.length_append, List.length_cons, List.length_nil, List.length_take, List.length_drop]; omega)) (by first | omega | (simp only [List.length_append, List.length_cons, List.length_nil, List.length_take, List.length_drop]; omega)) (by first | omega | (simp only [List.length_append, List.length_cons, List.length_nil, List.length_take, List.length_drop]; omega)) ?_
                    refine Op.lit (T := 37) (len := 1) (parts := #[(0, (.tmp 50))]) (dst := 51) (E := 9) (ps := [(0, .string (mkS ((p.take (i : Int).toNat).drop (fr : Int).toNat)))]) (cs := #[.string (mkS ((p.take (i : Int).toNat).drop (fr : Int).toNat))]) (by kernel_rfl) (by kernel_rfl) (by kernel_rfl) s309 ?_
                    intro b314 h315 s316
                    refine Op.append (x := (.tmp 46)) (y := (.tmp 51)) (t := 37) (t' := 37) (dst := 52) (E := 9) (by_ := 16) (d := kStr) (by kernel_rfl) (by kernel_rfl) (by kernel_rfl) rfl R304 s316 1 rfl (Src.lit (m := 1) (sz := 1) (s316.chunk 0 rfl) (news := [.string (mkS ((p.take (i : Int).toNat).drop (fr : Int).toNat))]) rfl rfl (by simp [Value.oneCell']) _) (ys := [(p.take (i : Int).toNat).drop (fr : Int).toNat]) (⟨_, _, rfl, rfl, Reads.nil⟩) rfl (by first | omega | (simp only [List.length_append, List.length_cons, List.length_nil, List.length_take, List.length_drop]; omega)) (fun _ _ _ => trivial) ?_
                    intro v317 ch318 h319 R320 s321 nn322
                    obtain ⟨a323, n324, rfl⟩ := R320.form
                    have s325 := (s321.front 0 rfl).drop
                    refine Op.pures 1 [0, 4, 6] (L' := []) (e' := [(0, .string (mkS p)), (4, .slice a323 ((out ++ ([(p.take (i : Int).toNat).drop (fr : Int).toNat])).length) n324), (6, .int .i64 i)]) (by kernel_rfl) ?_
                    refine Op.goto 21 (by kernel_rfl) ?_
                    refine At.reg (L := [(0, false), (1, false), (2, false)]) (by kernel_rfl) ?_
                    refine Op.pures 1 [0, 4, 6, 53] (L' := [(1, false), (2, false)]) (e' := [(0, .string (mkS p)), (4, .slice a323 ((out ++ ([(p.take (i : Int).toNat).drop (fr : Int).toNat])).length) n324), (6, .int .i64 i), (53, .int .i64 i)]) (by kernel_rfl) ?_
                    refine Op.val (dst := some 54) (v := .int .i64 (IntKind.wrap .i64 (i + 1))) (v' := .int .i64 (i + 1)) (by kernel_rfl) (wrapEq_i64 (by first | omega | (simp only [List.length_append, List.length_cons, List.length_nil, List.length_take, List.length_drop]; omega)) (by first | omega | (simp only [List.length_append, List.length_cons, List.length_nil, List.length_take, List.length_drop]; omega))) ?_
                    refine Op.pures 1 [0, 4, 5, 6] (L' := []) (e' := [(0, .string (mkS p)), (4, .slice a323 ((out ++ ([(p.take (i : Int).toNat).drop (fr : Int).toNat])).length) n324), (5, .int .i64 (i + 1)), (6, .int .i64 i)]) (by kernel_rfl) ?_
                    refine Op.goto 22 (by kernel_rfl) ?_
                    refine At.reg (L := [(0, false), (1, false), (2, false)]) (by kernel_rfl) ?_
                    refine Op.pures 1 [0, 4, 5, 6, 28] (L' := [(1, false), (2, false)]) (e' := [(0, .string (mkS p)), (4, .slice a323 ((out ++ ([(p.take (i : Int).toNat).drop (fr : Int).toNat])).length) n324), (5, .int .i64 (i + 1)), (6, .int .i64 i), (28, .int .i64 i)]) (by kernel_rfl) ?_
                    refine Op.val (dst := some 29) (v := .int .i64 (IntKind.wrap .i64 (i + 1))) (v' := .int .i64 (i + 1)) (by kernel_rfl) (wrapEq_i64 (by first | omega | (simp only [List.length_append, List.length_cons, List.length_nil, List.length_take, List.length_drop]; omega)) (by first | omega | (simp only [List.length_append, List.length_cons, List.length_nil, List.length_take, List.length_drop]; omega))) ?_
                    refine Op.pures 1 [0, 4, 5, 6] (L' := []) (e' := [(0, .string (mkS p)), (4, .slice a323 ((out ++ ([(p.take (i : Int).toNat).drop (fr : Int).toNat])).length) n324), (5, .int .i64 (i + 1)), (6, .int .i64 (i + 1))]) (by kernel_rfl) ?_
                    refine Op.goto 12 (by kernel_rfl) ?_
                    exact ih12  (out ++ ([(p.take (i : Int).toNat).drop (fr : Int).toNat])) (i + 1) (i + 1) _ _ _ _ (by omega) (by first | omega | (simp only [List.length_append, List.length_cons, List.length_nil, List.length_take, List.length_drop]; omega)) (by first | omega | (simp only [List.length_append, List.length_cons, List.length_nil, List.length_take, List.length_drop]; omega)) (by first | omega | (simp only [List.length_append, List.length_cons, List.length_nil, List.length_take, List.length_drop]; omega)) (by first | omega | (simp only [List.length_append, List.length_cons, List.length_nil, List.length_take, List.length_drop]; omega)) (by first | omega | (simp only [List.length_append, List.length_cons, List.length_nil, List.length_take, List.length_drop]; omega)) (by first | exact PInv_miss hP (by assumption) (by assumption) {hx0} (by assumption) | exact PInv_next hP (by assumption) (by first | exact .inl (by assumption) | exact .inr ⟨_, {hx0}, by assumption⟩) (by assumption)) R320 s325
                · refine Op.cast (e' := [(0, .string (mkS p)), (4, .slice a301 out.length n302), (5, .int .i64 fr), (6, .int .i64 i), (34, .bool false)]) (by rw [hb]) ?_
                  have c326 : ¬ (i = (p.length : Int)) := neF hb
                  clear hb
                  refine Op.pures 2 [0, 4, 5, 6, 34, 35, 36] (L' := [(7, false), (8, false), (9, false)]) (e' := [(0, .string (mkS p)), (4, .slice a301 out.length n302), (5, .int .i64 fr), (6, .int .i64 i), (34, .bool false), (35, .string (mkS p)), (36, .int .i64 i)]) (by kernel_rfl) ?_
                  obtain ⟨x327, hx328⟩ : ∃ c, p[(i : Int).toNat]? = some c := ⟨_, List.getElem?_eq_getElem (by first | omega | (simp only [List.length_append, List.length_cons, List.length_nil, List.length_take, List.length_drop]; omega))⟩
                  refine Op.strIdx (T := 9) (k := .i64) (x := (.tmp 35)) (ix := (.tmp 36)) (dst := 37) (l := p) (n := i) (by kernel_rfl) (by kernel_rfl) (by kernel_rfl) (by kernel_rfl) (by first | omega | (simp only [List.length_append, List.length_cons, List.length_nil, List.length_take, List.length_drop]; omega)) hx328 ?_
                  refine Op.pures 2 [0, 4, 5, 6, 39] (L' := []) (e' := [(0, .string (mkS p)), (4, .slice a301 out.length n302), (5, .int .i64 fr), (6, .int .i64 i), (39, .bool ((x327.toNat : Int) == (47 : Int)))]) (by kernel_rfl) ?_
                  refine Op.goto 15 (by kernel_rfl) ?_
                  refine At.cond (b := (x327.toNat : Int) == (47 : Int)) (c := .tmp 39) (by kernel_rfl) (by kernel_rfl) (by kernel_rfl) 16 22 (by kernel_rfl) (by kernel_rfl) (fun hb => ?_) (fun hb => ?_)
                  · have c329 : (x327.toNat : Int) = (47 : Int) := eq_of_beq hb
                    clear hb
                    refine At.keep [0, 4, 5, 6] ?_; show At _ _ _ [(0, .string (mkS p)), (4, .slice a301 out.length n302), (5, .int .i64 fr), (6, .int .i64 i)] _
                    refine At.reg (L := [(0, false), (1, false), (2, false), (3, false), (4, false), (5, false)]) (by kernel_rfl) ?_
                    refine Op.pures 3 [0, 4, 5, 6, 40, 41, 42] (L' := [(3, false), (4, false), (5, false)]) (e' := [(0, .string (mkS p)), (4, .slice a301 out.length n302), (5, .int .i64 fr), (6, .int .i64 i), (40, .string (mkS p)), (41, .int .i64 fr), (42, .int .i64 i)]) (by kernel_rfl) ?_
                    refine Op.strLoHi (T := 9) (k := .i64) (k' := .i64) (x := (.tmp 40)) (lo := (.tmp 41)) (hi := (.tmp 42)) (dst := 43) (l := p) (n := fr) (m := i) (by kernel_rfl) (by kernel_rfl) (by kernel_rfl) (by kernel_rfl) (by kernel_rfl) (by first | omega | (simp only [List.length_append, List.length_cons, List.length_nil, List.length_take, List.length_drop]; omega)) (by first | omega | (simp only [List.length_append, List.length_cons, List.length_nil, List.length_take, List.length_drop]; omega)) (by first | omega | (simp only [List.length_append, List.length_cons, List.length_nil, List.length_take, List.length_drop]; omega)) ?_
                    refine Op.call0 (dst := some 44) (f := 69) (args := #[.string (mkS ((p.take (i : Int).toNat).drop (fr : Int).toNat))]) (by kernel_rfl) s_loop12304 (partR _ _ _ s_loop12304.sub hG ((p.take (i : Int).toNat).drop (fr : Int).toNat) (by first | omega | (simp only [List.length_append, List.length_cons, List.length_nil, List.length_take, List.length_drop]; omega))) ?_
                    rintro _ g332 _ h330 hle333 s331 ⟨rfl, hgg, rfl⟩; subst g332; clear hle333
                    refine Op.pures 1 [0, 4, 5, 6, 45] (L' := []) (e' := [(0, .string (mkS p)), (4, .slice a301 out.length n302), (5, .int .i64 fr), (6, .int .i64 i), (45, .bool (!(okPart ((p.take (i : Int).toNat).drop (fr : Int).toNat))))]) (by kernel_rfl) ?_
                    refine Op.goto 17 (by kernel_rfl) ?_
                    refine At.cond (b := !(okPart ((p.take (i : Int).toNat).drop (fr : Int).toNat))) (c := .tmp 45) (by kernel_rfl) (by kernel_rfl) (by kernel_rfl) 18 20 (by kernel_rfl) (by kernel_rfl) (fun hb => ?_) (fun hb => ?_)
                    · have c334 : (okPart ((p.take (i : Int).toNat).drop (fr : Int).toNat)) = false := (notT hb)
                      clear hb
                      refine At.keep [] ?_; show At _ _ _ [] _
                      refine At.reg (L := [(0, false), (1, false)]) (by kernel_rfl) ?_
                      refine Op.pures 2 [2, 3] (L' := []) (e' := [(2, .slice none 0 0), (3, .int .i64 90)]) (by kernel_rfl) ?_
                      refine Op.goto 19 (by kernel_rfl) ?_
                      refine At.ret (f := Tryd.f43) (v := .tuple #[.slice none 0 0, .int .i64 90]) (by kernel_rfl) (by kernel_rfl) ?_
                      refine hR _ _ _ _ s331.clear ⟨(.slice none 0 0), ?_, ?_, rfl⟩
                      · exact eqT2 rfl (eqI (by first | exact (no_ok (PInv_bad hP (by assumption) (by first | exact .inl (by assumption) | exact .inr ⟨_, hx328, by assumption⟩) (by assumption) (by assumption))).1 | exact (no_ok (PInv_bad hP (by assumption) (by first | exact .inl (by assumption) | exact .inr ⟨_, hx328, by assumption⟩) (by assumption) (by assumption))).2))
                      · exact slEq (SlR.nil _ _ _) (by first | exact (no_ok (PInv_bad hP (by assumption) (by first | exact .inl (by assumption) | exact .inr ⟨_, hx328, by assumption⟩) (by assumption) (by assumption))).1 | exact (no_ok (PInv_bad hP (by assumption) (by first | exact .inl (by assumption) | exact .inr ⟨_, hx328, by assumption⟩) (by assumption) (by assumption))).2)
                    · have c335 : (okPart ((p.take (i : Int).toNat).drop (fr : Int).toNat)) = true := (notF hb)
                      clear hb
                      refine At.keep [0, 4, 5, 6] ?_; show At _ _ _ [(0, .string (mkS p)), (4, .slice a301 out.length n302), (5, .int .i64 fr), (6, .int .i64 i)] _
                      refine At.reg (L := [(0, false), (1, false), (2, false), (3, false), (4, false), (5, false), (6, false), (7, false)]) (by kernel_rfl) ?_
                      refine Op.pures 4 [0, 4, 6, 46, 47, 48, 49] (L' := [(4, false), (5, false), (6, false), (7, false)]) (e' := [(0, .string (mkS p)), (4, .slice a301 out.length n302), (6, .int .i64 i), (46, .slice a301 out.length n302), (47, .string (mkS p)), (48, .int .i64 fr), (49, .int .i64 i)]) (by kernel_rfl) ?_
                      refine Op.strLoHi (T := 9) (k := .i64) (k' := .i64) (x := (.tmp 47)) (lo := (.tmp 48)) (hi := (.tmp 49)) (dst := 50) (l := p) (n := fr) (m := i) (by kernel_rfl) (by kernel_rfl) (by kernel_rfl) (by kernel_rfl) (by kernel_rfl) (by first | omega | (simp only [List.length_append, List.length_cons, List.length_nil, List.length_take, List.length_drop]; omega)) (by first | omega | (simp only [List.length_append, List.length_cons, List.length_nil, List.length_take, List.length_drop]; omega)) (by first | omega | (simp only [List.length_append, List.length_cons, List.length_nil, List.length_take, List.length_drop]; omega)) ?_
                      refine Op.lit (T := 37) (len := 1) (parts := #[(0, (.tmp 50))]) (dst := 51) (E := 9) (ps := [(0, .string (mkS ((p.take (i : Int).toNat).drop (fr : Int).toNat)))]) (cs := #[.string (mkS ((p.take (i : Int).toNat).drop (fr : Int).toNat))]) (by kernel_rfl) (by kernel_rfl) (by kernel_rfl) s331 ?_
                      intro b336 h337 s338
                      refine Op.append (x := (.tmp 46)) (y := (.tmp 51)) (t := 37) (t' := 37) (dst := 52) (E := 9) (by_ := 16) (d := kStr) (by kernel_rfl) (by kernel_rfl) (by kernel_rfl) rfl R304 s338 1 rfl (Src.lit (m := 1) (sz := 1) (s338.chunk 0 rfl) (news := [.string (mkS ((p.take (i : Int).toNat).drop (fr : Int).toNat))]) rfl rfl (by simp [Value.oneCell']) _) (ys := [(p.take (i : Int).toNat).drop (fr : Int).toNat]) (⟨_, _, rfl, rfl, Reads.nil⟩) rfl (by first | omega | (simp only [List.length_append, List.length_cons, List.length_nil, List.length_take, List.length_drop]; omega)) (fun _ _ _ => trivial) ?_
                      intro v339 ch340 h341 R342 s343 nn344
                      obtain ⟨a345, n346, rfl⟩ := R342.form
                      have s347 := (s343.front 0 rfl).drop
                      refine Op.pures 1 [0, 4, 6] (L' := []) (e' := [(0, .string (mkS p)), (4, .slice a345 ((out ++ ([(p.take (i : Int).toNat).drop (fr : Int).toNat])).length) n346), (6, .int .i64 i)]) (by kernel_rfl) ?_
                      refine Op.goto 21 (by kernel_rfl) ?_
                      refine At.reg (L := [(0, false), (1, false), (2, false)]) (by kernel_rfl) ?_
                      refine Op.pures 1 [0, 4, 6, 53] (L' := [(1, false), (2, false)]) (e' := [(0, .string (mkS p)), (4, .slice a345 ((out ++ ([(p.take (i : Int).toNat).drop (fr : Int).toNat])).length) n346), (6, .int .i64 i), (53, .int .i64 i)]) (by kernel_rfl) ?_
                      refine Op.val (dst := some 54) (v := .int .i64 (IntKind.wrap .i64 (i + 1))) (v' := .int .i64 (i + 1)) (by kernel_rfl) (wrapEq_i64 (by first | omega | (simp only [List.length_append, List.length_cons, List.length_nil, List.length_take, List.length_drop]; omega)) (by first | omega | (simp only [List.length_append, List.length_cons, List.length_nil, List.length_take, List.length_drop]; omega))) ?_
                      refine Op.pures 1 [0, 4, 5, 6] (L' := []) (e' := [(0, .string (mkS p)), (4, .slice a345 ((out ++ ([(p.take (i : Int).toNat).drop (fr : Int).toNat])).length) n346), (5, .int .i64 (i + 1)), (6, .int .i64 i)]) (by kernel_rfl) ?_
                      refine Op.goto 22 (by kernel_rfl) ?_
                      refine At.reg (L := [(0, false), (1, false), (2, false)]) (by kernel_rfl) ?_
                      refine Op.pures 1 [0, 4, 5, 6, 28] (L' := [(1, false), (2, false)]) (e' := [(0, .string (mkS p)), (4, .slice a345 ((out ++ ([(p.take (i : Int).toNat).drop (fr : Int).toNat])).length) n346), (5, .int .i64 (i + 1)), (6, .int .i64 i), (28, .int .i64 i)]) (by kernel_rfl) ?_
                      refine Op.val (dst := some 29) (v := .int .i64 (IntKind.wrap .i64 (i + 1))) (v' := .int .i64 (i + 1)) (by kernel_rfl) (wrapEq_i64 (by first | omega | (simp only [List.length_append, List.length_cons, List.length_nil, List.length_take, List.length_drop]; omega)) (by first | omega | (simp only [List.length_append, List.length_cons, List.length_nil, List.length_take, List.length_drop]; omega))) ?_
                      refine Op.pures 1 [0, 4, 5, 6] (L' := []) (e' := [(0, .string (mkS p)), (4, .slice a345 ((out ++ ([(p.take (i : Int).toNat).drop (fr : Int).toNat])).length) n346), (5, .int .i64 (i + 1)), (6, .int .i64 (i + 1))]) (by kernel_rfl) ?_
                      refine Op.goto 12 (by kernel_rfl) ?_
                      exact ih12  (out ++ ([(p.take (i : Int).toNat).drop (fr : Int).toNat])) (i + 1) (i + 1) _ _ _ _ (by omega) (by first | omega | (simp only [List.length_append, List.length_cons, List.length_nil, List.length_take, List.length_drop]; omega)) (by first | omega | (simp only [List.length_append, List.length_cons, List.length_nil, List.length_take, List.length_drop]; omega)) (by first | omega | (simp only [List.length_append, List.length_cons, List.length_nil, List.length_take, List.length_drop]; omega)) (by first | omega | (simp only [List.length_append, List.length_cons, List.length_nil, List.length_take, List.length_drop]; omega)) (by first | omega | (simp only [List.length_append, List.length_cons, List.length_nil, List.length_take, List.length_drop]; omega)) (by first | exact PInv_miss hP (by assumption) (by assumption) hx328 (by assumption) | exact PInv_next hP (by assumption) (by first | exact .inl (by assumption) | exact .inr ⟨_, hx328, by assumption⟩) (by assumption)) R342 s347
                  · have c348 : ¬ ((x327.toNat : Int) = (47 : Int)) := neF hb
                    clear hb
                    refine At.keep [0, 4, 5, 6] ?_; show At _ _ _ [(0, .string (mkS p)), (4, .slice a301 out.length n302), (5, .int .i64 fr), (6, .int .i64 i)] _
                    refine At.reg (L := [(0, false), (1, false), (2, false)]) (by kernel_rfl) ?_
                    refine Op.pures 1 [0, 4, 5, 6, 28] (L' := [(1, false), (2, false)]) (e' := [(0, .string (mkS p)), (4, .slice a301 out.length n302), (5, .int .i64 fr), (6, .int .i64 i), (28, .int .i64 i)]) (by kernel_rfl) ?_
                    refine Op.val (dst := some 29) (v := .int .i64 (IntKind.wrap .i64 (i + 1))) (v' := .int .i64 (i + 1)) (by kernel_rfl) (wrapEq_i64 (by first | omega | (simp only [List.length_append, List.length_cons, List.length_nil, List.length_take, List.length_drop]; omega)) (by first | omega | (simp only [List.length_append, List.length_cons, List.length_nil, List.length_take, List.length_drop]; omega))) ?_
                    refine Op.pures 1 [0, 4, 5, 6] (L' := []) (e' := [(0, .string (mkS p)), (4, .slice a301 out.length n302), (5, .int .i64 fr), (6, .int .i64 (i + 1))]) (by kernel_rfl) ?_
                    refine Op.goto 12 (by kernel_rfl) ?_
                    exact ih12  out fr (i + 1) _ _ _ _ (by omega) (by first | omega | (simp only [List.length_append, List.length_cons, List.length_nil, List.length_take, List.length_drop]; omega)) (by first | omega | (simp only [List.length_append, List.length_cons, List.length_nil, List.length_take, List.length_drop]; omega)) (by first | omega | (simp only [List.length_append, List.length_cons, List.length_nil, List.length_take, List.length_drop]; omega)) (by first | omega | (simp only [List.length_append, List.length_cons, List.length_nil, List.length_take, List.length_drop]; omega)) (by first | omega | (simp only [List.length_append, List.length_cons, List.length_nil, List.length_take, List.length_drop]; omega)) (by first | exact PInv_miss hP (by assumption) (by assumption) hx328 (by assumption) | exact PInv_next hP (by assumption) (by first | exact .inl (by assumption) | exact .inr ⟨_, hx328, by assumption⟩) (by assumption)) R304 s_loop12304
              · have c349 : ¬ (i ≤ (p.length : Int)) := of_decide_eq_false hb
                clear hb
                refine At.keep [4] ?_; show At _ _ _ [(4, .slice a301 out.length n302)] _
                refine At.reg (L := [(0, false), (1, false), (2, false)]) (by kernel_rfl) ?_
                refine Op.pures 3 [2, 3] (L' := []) (e' := [(2, .slice a301 out.length n302), (3, .int .i64 0)]) (by kernel_rfl) ?_
                refine Op.goto 24 (by kernel_rfl) ?_
                refine At.ret (f := Tryd.f43) (v := .tuple #[.slice a301 out.length n302, .int .i64 0]) (by kernel_rfl) (by kernel_rfl) ?_
                obtain ⟨g350, s351, hle352, hf353⟩ := Row.freeze R304 (s_loop12304.front 0 rfl)
                replace hG := hG.mono hle352
                refine hR _ _ _ _ s351.clear ⟨(.slice a301 out.length n302), ?_, ?_, rfl⟩
                · exact eqT2 rfl (eqI (by first | exact (PInv_end hP (by assumption) (by assumption) (head_at (by assumption) (by assumption)) (by assumption)).1 | exact (PInv_end hP (by assumption) (by assumption) (head_at (by assumption) (by assumption)) (by assumption)).2))
                · exact slEq hf353 (by first | exact (PInv_end hP (by assumption) (by assumption) (head_at (by assumption) (by assumption)) (by assumption)).1 | exact (PInv_end hP (by assumption) (by assumption) (head_at (by assumption) (by assumption)) (by assumption)).2)
          have R354 : Row 9 kStr g (.slice (some ⟨b291, 0, none⟩) 0 0) ([] : List (List UInt8)) [(b291, .cells #[] 9 (0, 0))] := .inr ⟨_, _, _, _, rfl, rfl, Nat.le_of_ble_eq_true (by kernel_rfl), by unfold maxLen; decide, Nat.le_of_ble_eq_true (by kernel_rfl), Reads.nil⟩
          exact loop12 _  ([] : List (List UInt8)) 1 1 _ _ _ _ (Nat.lt_succ_self _) (by first | omega | (simp only [List.length_append, List.length_cons, List.length_nil, List.length_take, List.length_drop]; omega)) (by first | omega | (simp only [List.length_append, List.length_cons, List.length_nil, List.length_take, List.length_drop]; omega)) (by first | omega | (simp only [List.length_append, List.length_cons, List.length_nil, List.length_take, List.length_drop]; omega)) (by first | omega | (simp only [List.length_append, List.length_cons, List.length_nil, List.length_take, List.length_drop]; omega)) (by decide) (by exact PInv_0 (by omega)) R354 s293

/-- stanchion/stanchionref09.Check -/
theorem checkR (B : World) (h : Heap) (g : GH) (hg : Sub g h) (hG : Glob g) (p : List UInt8) (hlen : p.length ≤ 1000000000) :
    Spec Tryd.prog B 39 #[.string (mkS p)] h g [] (fun v g' L' => v = .int .i64 (pErr p) ∧ g' = g ∧ L' = []) := by
  refine Spec.of_at (f := Tryd.f39) (e := [(0, .string (mkS p))]) Tryd.func39 (by kernel_rfl) (Nat.le_of_ble_eq_true (by kernel_rfl)) (by kernel_rfl) (by kernel_rfl) ?_
  intro R hR
  have s0 := St.init hg
  refine At.reg (L := [(0, false)]) (by kernel_rfl) ?_
  refine Op.pures 1 [0] (L' := []) (e' := [(0, .string (mkS p))]) (by kernel_rfl) ?_
  refine Op.goto 1 (by kernel_rfl) ?_
  refine At.reg (L := [(0, false), (1, false), (2, false), (3, false), (4, false), (5, false), (6, false)]) (by kernel_rfl) ?_
  refine Op.pures 1 [6] (L' := [(1, false), (2, false), (3, false), (4, false), (5, false), (6, false)]) (e' := [(6, .string (mkS p))]) (by kernel_rfl) ?_
  refine Op.call0 (dst := some 7) (f := 43) (args := #[.string (mkS p)]) (by kernel_rfl) s0 (partsR _ _ _ s0.sub hG p (by omega)) ?_
  rintro _ g361 _ h355 hle362 s356 ⟨v357, rfl, hr358, rfl⟩
  obtain ⟨a359, n360, rfl⟩ := hr358.form
  replace hG := hG.mono hle362
  refine Op.pures 5 [4] (L' := []) (e' := [(4, .int .i64 (pErr p))]) (by kernel_rfl) ?_
  refine Op.goto 2 (by kernel_rfl) ?_
  refine At.reg (L := [(0, false), (1, false)]) (by kernel_rfl) ?_
  refine Op.pures 2 [2] (L' := []) (e' := [(2, .int .i64 (pErr p))]) (by kernel_rfl) ?_
  refine Op.goto 3 (by kernel_rfl) ?_
  refine At.ret (f := Tryd.f39) (v := .int .i64 (pErr p)) (by kernel_rfl) (by kernel_rfl) ?_
  refine hR _ _ _ _ s356.fin ⟨?_, rfl, rfl⟩
  exact (eqI (by rfl))

/-- stanchion/stanchionref09.Parent -/
theorem parentR (B : World) (h : Heap) (g : GH) (hg : Sub g h) (hG : Glob g) (p : List UInt8) (hlen : p.length ≤ 1000000000) :
    Spec Tryd.prog B 35 #[.string (mkS p)] h g [] (fun v g' L' => v = .tuple #[.string (mkS (parentOf p)), .int .i64 (cutErr p)] ∧ g' = g ∧ L' = []) := by
  refine Spec.of_at (f := Tryd.f35) (e := [(0, .string (mkS p))]) Tryd.func35 (by kernel_rfl) (Nat.le_of_ble_eq_true (by kernel_rfl)) (by kernel_rfl) (by kernel_rfl) ?_
  intro R hR
  have s0 := St.init hg
  refine At.reg (L := [(0, false), (1, false)]) (by kernel_rfl) ?_
  refine Op.pures 2 [0] (L' := []) (e' := [(0, .string (mkS p))]) (by kernel_rfl) ?_
  refine Op.goto 1 (by kernel_rfl) ?_
  refine At.reg (L := [(0, false), (1, false), (2, false), (3, false), (4, false), (5, false), (6, false)]) (by kernel_rfl) ?_
  refine Op.pures 1 [7] (L' := [(1, false), (2, false), (3, false), (4, false), (5, false), (6, false)]) (e' := [(7, .string (mkS p))]) (by kernel_rfl) ?_
  refine Op.call0 (dst := some 8) (f := 43) (args := #[.string (mkS p)]) (by kernel_rfl) s0 (partsR _ _ _ s0.sub hG p (by (have := pList_len p; omega))) ?_
  rintro _ g369 _ h363 hle370 s364 ⟨v365, rfl, hr366, rfl⟩
  obtain ⟨a367, n368, rfl⟩ := hr366.form
  replace hG := hG.mono hle370
  refine Op.pures 5 [4, 5] (L' := []) (e' := [(4, .slice a367 ((pList p).length) n368), (5, .int .i64 (pErr p))]) (by kernel_rfl) ?_
  refine Op.goto 2 (by kernel_rfl) ?_
  refine At.reg (L := [(0, false), (1, false), (2, false), (3, false), (4, false), (5, false), (6, false)]) (by kernel_rfl) ?_
  refine Op.pures 3 [4, 13] (L' := [(3, false), (4, false), (5, false), (6, false)]) (e' := [(4, .slice a367 ((pList p).length) n368), (13, .bool ((pErr p) != (0 : Int)))]) (by kernel_rfl) ?_
  refine Op.ways (b := (pErr p) != (0 : Int)) ⟨fun hb => ?_, fun hb => ?_⟩
  · refine Op.cast (e' := [(4, .slice a367 ((pList p).length) n368), (13, .bool true)]) (by rw [hb]) ?_
    have c371 : ¬ ((pErr p) = (0 : Int)) := bneT hb
    clear hb
    refine Op.pures 4 [4, 17] (L' := []) (e' := [(4, .slice a367 ((pList p).length) n368), (17, .bool true)]) (by kernel_rfl) ?_
    refine Op.goto 3 (by kernel_rfl) ?_
    refine At.condT (c := .tmp 17) (by kernel_rfl) (by kernel_rfl) (by kernel_rfl) 4 (by kernel_rfl) ?_
    refine At.reg (L := [(0, false), (1, false)]) (by kernel_rfl) ?_
    refine Op.pures 2 [2, 3] (L' := []) (e' := [(2, .string (mkS [])), (3, .int .i64 90)]) (by kernel_rfl) ?_
    refine Op.goto 5 (by kernel_rfl) ?_
    refine At.ret (f := Tryd.f35) (v := .tuple #[.string (mkS []), .int .i64 90]) (by kernel_rfl) (by kernel_rfl) ?_
    refine hR _ _ _ _ s364.fin ⟨?_, rfl, rfl⟩
    exact eqT2 (eqS (by first | exact (parentR_no (pList_no (by assumption))).1 | exact (parentR_no (pList_no (by assumption))).2.1 | exact (parentR_no (pList_no (by assumption))).2.2 | exact (parentR_no (nil_len (by assumption))).1 | exact (parentR_no (nil_len (by assumption))).2.1 | exact (parentR_no (nil_len (by assumption))).2.2)) (eqI (by first | exact (parentR_no (pList_no (by assumption))).1 | exact (parentR_no (pList_no (by assumption))).2.1 | exact (parentR_no (pList_no (by assumption))).2.2 | exact (parentR_no (nil_len (by assumption))).1 | exact (parentR_no (nil_len (by assumption))).2.1 | exact (parentR_no (nil_len (by assumption))).2.2))
  · refine Op.cast (e' := [(4, .slice a367 ((pList p).length) n368), (13, .bool false)]) (by rw [hb]) ?_
    have c372 : (pErr p) = (0 : Int) := bneF hb
    clear hb
    refine Op.pures 4 [4, 17] (L' := []) (e' := [(4, .slice a367 ((pList p).length) n368), (17, .bool (((pList p).length : Int) == (0 : Int)))]) (by kernel_rfl) ?_
    refine Op.goto 3 (by kernel_rfl) ?_
    refine At.cond (b := ((pList p).length : Int) == (0 : Int)) (c := .tmp 17) (by kernel_rfl) (by kernel_rfl) (by kernel_rfl) 4 6 (by kernel_rfl) (by kernel_rfl) (fun hb => ?_) (fun hb => ?_)
    · have c373 : ((pList p).length : Int) = (0 : Int) := eq_of_beq hb
      clear hb
      refine At.keep [] ?_; show At _ _ _ [] _
      refine At.reg (L := [(0, false), (1, false)]) (by kernel_rfl) ?_
      refine Op.pures 2 [2, 3] (L' := []) (e' := [(2, .string (mkS [])), (3, .int .i64 90)]) (by kernel_rfl) ?_
      refine Op.goto 5 (by kernel_rfl) ?_
      refine At.ret (f := Tryd.f35) (v := .tuple #[.string (mkS []), .int .i64 90]) (by kernel_rfl) (by kernel_rfl) ?_
      refine hR _ _ _ _ s364.fin ⟨?_, rfl, rfl⟩
      exact eqT2 (eqS (by first | exact (parentR_no (pList_no (by assumption))).1 | exact (parentR_no (pList_no (by assumption))).2.1 | exact (parentR_no (pList_no (by assumption))).2.2 | exact (parentR_no (nil_len (by assumption))).1 | exact (parentR_no (nil_len (by assumption))).2.1 | exact (parentR_no (nil_len (by assumption))).2.2)) (eqI (by first | exact (parentR_no (pList_no (by assumption))).1 | exact (parentR_no (pList_no (by assumption))).2.1 | exact (parentR_no (pList_no (by assumption))).2.2 | exact (parentR_no (nil_len (by assumption))).1 | exact (parentR_no (nil_len (by assumption))).2.1 | exact (parentR_no (nil_len (by assumption))).2.2))
    · have c374 : ¬ (((pList p).length : Int) = (0 : Int)) := neF hb
      clear hb
      refine At.keep [4] ?_; show At _ _ _ [(4, .slice a367 ((pList p).length) n368)] _
      refine At.reg (L := [(0, false), (1, false), (2, false), (3, false), (4, false), (5, false), (6, false), (7, false)]) (by kernel_rfl) ?_
      refine Op.pures 3 [18, 20] (L' := [(3, false), (4, false), (5, false), (6, false), (7, false)]) (e' := [(18, .slice a367 ((pList p).length) n368), (20, .int .i64 ((pList p).length : Int))]) (by kernel_rfl) ?_
      refine Op.val (dst := some 21) (v := .int .i64 (IntKind.wrap .i64 (((pList p).length : Int) - 1))) (v' := .int .i64 (((pList p).length : Int) - 1)) (by kernel_rfl) (wrapEq_i64 (by (have := pList_len p; omega)) (by (have := pList_len p; omega))) ?_
      refine Op.slHiD (T := 37) (E := 9) (by_ := 16) (x := (.tmp 18)) (ao := a367) (n := ((pList p).length)) (c := n368) (dst := 22) (d := kStr) (hi := (.tmp 21)) (k := .i64) (m := ((pList p).length : Int) - 1) (by kernel_rfl) (by kernel_rfl) (by kernel_rfl) (by kernel_rfl) hr366 (by (have := pList_len p; omega)) (by (have := pList_len p; omega)) ?_
      intro v375 hr376
      obtain ⟨a377, n378, rfl⟩ := hr376.form
      refine Op.call0 (dst := some 23) (f := 62) (args := #[.slice a377 (((pList p).take (((pList p).length : Int) - 1 : Int).toNat).length) n378]) (by kernel_rfl) s364 (wholeR _ _ _ s364.sub hG _ _ hr376 (by first | (have := pList_len p; simp only [List.length_take]; omega) | (rw [take_last rfl (by assumption)]; have := pDrop_len p; simp only [joined, List.length_cons]; omega)) (by first | (have := pList_len p; simp only [List.length_take]; omega) | (rw [take_last rfl (by assumption)]; have := pDrop_len p; simp only [joined, List.length_cons]; omega))) ?_
      rintro _ g381 _ h379 hle382 s380 ⟨rfl, hgg, rfl⟩; subst g381; clear hle382
      refine Op.pures 2 [2, 3] (L' := []) (e' := [(2, .string (mkS (joined ((pList p).take (((pList p).length : Int) - 1 : Int).toNat)))), (3, .int .i64 0)]) (by kernel_rfl) ?_
      refine Op.goto 7 (by kernel_rfl) ?_
      refine At.ret (f := Tryd.f35) (v := .tuple #[.string (mkS (joined ((pList p).take (((pList p).length : Int) - 1 : Int).toNat))), .int .i64 0]) (by kernel_rfl) (by kernel_rfl) ?_
      refine hR _ _ _ _ s380.fin ⟨?_, rfl, rfl⟩
      exact eqT2 (eqS (by first | exact (parentR_ok (by assumption)).1 | exact (parentR_ok (by assumption)).2)) (eqI (by first | exact (parentR_ok (by assumption)).1 | exact (parentR_ok (by assumption)).2))

/-- stanchion/stanchionref09.Name -/
theorem nameR (B : World) (h : Heap) (g : GH) (hg : Sub g h) (hG : Glob g) (p : List UInt8) (hlen : p.length ≤ 1000000000) :
    Spec Tryd.prog B 37 #[.string (mkS p)] h g [] (fun v g' L' => v = .tuple #[.string (mkS (nameOf p)), .int .i64 (cutErr p)] ∧ g' = g ∧ L' = []) := by
  refine Spec.of_at (f := Tryd.f37) (e := [(0, .string (mkS p))]) Tryd.func37 (by kernel_rfl) (Nat.le_of_ble_eq_true (by kernel_rfl)) (by kernel_rfl) (by kernel_rfl) ?_
  intro R hR
  have s0 := St.init hg
  refine At.reg (L := [(0, false), (1, false)]) (by kernel_rfl) ?_
  refine Op.pures 2 [0] (L' := []) (e' := [(0, .string (mkS p))]) (by kernel_rfl) ?_
  refine Op.goto 1 (by kernel_rfl) ?_
  refine At.reg (L := [(0, false), (1, false), (2, false), (3, false), (4, false), (5, false), (6, false)]) (by kernel_rfl) ?_
  refine Op.pures 1 [7] (L' := [(1, false), (2, false), (3, false), (4, false), (5, false), (6, false)]) (e' := [(7, .string (mkS p))]) (by kernel_rfl) ?_
  refine Op.call0 (dst := some 8) (f := 43) (args := #[.string (mkS p)]) (by kernel_rfl) s0 (partsR _ _ _ s0.sub hG p (by (have := pList_len p; omega))) ?_
  rintro _ g389 _ h383 hle390 s384 ⟨v385, rfl, hr386, rfl⟩
  obtain ⟨a387, n388, rfl⟩ := hr386.form
  replace hG := hG.mono hle390
  refine Op.pures 5 [4, 5] (L' := []) (e' := [(4, .slice a387 ((pList p).length) n388), (5, .int .i64 (pErr p))]) (by kernel_rfl) ?_
  refine Op.goto 2 (by kernel_rfl) ?_
  refine At.reg (L := [(0, false), (1, false), (2, false), (3, false), (4, false), (5, false), (6, false)]) (by kernel_rfl) ?_
  refine Op.pures 3 [4, 13] (L' := [(3, false), (4, false), (5, false), (6, false)]) (e' := [(4, .slice a387 ((pList p).length) n388), (13, .bool ((pErr p) != (0 : Int)))]) (by kernel_rfl) ?_
  refine Op.ways (b := (pErr p) != (0 : Int)) ⟨fun hb => ?_, fun hb => ?_⟩
  · refine Op.cast (e' := [(4, .slice a387 ((pList p).length) n388), (13, .bool true)]) (by rw [hb]) ?_
    have c391 : ¬ ((pErr p) = (0 : Int)) := bneT hb
    clear hb
    refine Op.pures 4 [4, 17] (L' := []) (e' := [(4, .slice a387 ((pList p).length) n388), (17, .bool true)]) (by kernel_rfl) ?_
    refine Op.goto 3 (by kernel_rfl) ?_
    refine At.condT (c := .tmp 17) (by kernel_rfl) (by kernel_rfl) (by kernel_rfl) 4 (by kernel_rfl) ?_
    refine At.reg (L := [(0, false), (1, false)]) (by kernel_rfl) ?_
    refine Op.pures 2 [2, 3] (L' := []) (e' := [(2, .string (mkS [])), (3, .int .i64 90)]) (by kernel_rfl) ?_
    refine Op.goto 5 (by kernel_rfl) ?_
    refine At.ret (f := Tryd.f37) (v := .tuple #[.string (mkS []), .int .i64 90]) (by kernel_rfl) (by kernel_rfl) ?_
    refine hR _ _ _ _ s384.fin ⟨?_, rfl, rfl⟩
    exact eqT2 (eqS (by first | exact (parentR_no (pList_no (by assumption))).1 | exact (parentR_no (pList_no (by assumption))).2.1 | exact (parentR_no (pList_no (by assumption))).2.2 | exact (parentR_no (nil_len (by assumption))).1 | exact (parentR_no (nil_len (by assumption))).2.1 | exact (parentR_no (nil_len (by assumption))).2.2)) (eqI (by first | exact (parentR_no (pList_no (by assumption))).1 | exact (parentR_no (pList_no (by assumption))).2.1 | exact (parentR_no (pList_no (by assumption))).2.2 | exact (parentR_no (nil_len (by assumption))).1 | exact (parentR_no (nil_len (by assumption))).2.1 | exact (parentR_no (nil_len (by assumption))).2.2))
  · refine Op.cast (e' := [(4, .slice a387 ((pList p).length) n388), (13, .bool false)]) (by rw [hb]) ?_
    have c392 : (pErr p) = (0 : Int) := bneF hb
    clear hb
    refine Op.pures 4 [4, 17] (L' := []) (e' := [(4, .slice a387 ((pList p).length) n388), (17, .bool (((pList p).length : Int) == (0 : Int)))]) (by kernel_rfl) ?_
    refine Op.goto 3 (by kernel_rfl) ?_
    refine At.cond (b := ((pList p).length : Int) == (0 : Int)) (c := .tmp 17) (by kernel_rfl) (by kernel_rfl) (by kernel_rfl) 4 6 (by kernel_rfl) (by kernel_rfl) (fun hb => ?_) (fun hb => ?_)
    · have c393 : ((pList p).length : Int) = (0 : Int) := eq_of_beq hb
      clear hb
      refine At.keep [] ?_; show At _ _ _ [] _
      refine At.reg (L := [(0, false), (1, false)]) (by kernel_rfl) ?_
      refine Op.pures 2 [2, 3] (L' := []) (e' := [(2, .string (mkS [])), (3, .int .i64 90)]) (by kernel_rfl) ?_
      refine Op.goto 5 (by kernel_rfl) ?_
      refine At.ret (f := Tryd.f37) (v := .tuple #[.string (mkS []), .int .i64 90]) (by kernel_rfl) (by kernel_rfl) ?_
      refine hR _ _ _ _ s384.fin ⟨?_, rfl, rfl⟩
      exact eqT2 (eqS (by first | exact (parentR_no (pList_no (by assumption))).1 | exact (parentR_no (pList_no (by assumption))).2.1 | exact (parentR_no (pList_no (by assumption))).2.2 | exact (parentR_no (nil_len (by assumption))).1 | exact (parentR_no (nil_len (by assumption))).2.1 | exact (parentR_no (nil_len (by assumption))).2.2)) (eqI (by first | exact (parentR_no (pList_no (by assumption))).1 | exact (parentR_no (pList_no (by assumption))).2.1 | exact (parentR_no (pList_no (by assumption))).2.2 | exact (parentR_no (nil_len (by assumption))).1 | exact (parentR_no (nil_len (by assumption))).2.1 | exact (parentR_no (nil_len (by assumption))).2.2))
    · have c394 : ¬ (((pList p).length : Int) = (0 : Int)) := neF hb
      clear hb
      refine At.keep [4] ?_; show At _ _ _ [(4, .slice a387 ((pList p).length) n388)] _
      refine At.reg (L := [(0, false), (1, false), (2, false), (3, false), (4, false), (5, false), (6, false), (7, false)]) (by kernel_rfl) ?_
      refine Op.pures 3 [18, 20] (L' := [(3, false), (4, false), (5, false), (6, false), (7, false)]) (e' := [(18, .slice a387 ((pList p).length) n388), (20, .int .i64 ((pList p).length : Int))]) (by kernel_rfl) ?_
      refine Op.val (dst := some 21) (v := .int .i64 (IntKind.wrap .i64 (((pList p).length : Int) - 1))) (v' := .int .i64 (((pList p).length : Int) - 1)) (by kernel_rfl) (wrapEq_i64 (by (have := pList_len p; omega)) (by (have := pList_len p; omega))) ?_
      obtain ⟨x395, hx396⟩ : ∃ c, (pList p)[(((pList p).length : Int) - 1 : Int).toNat]? = some c := ⟨_, List.getElem?_eq_getElem (by (have := pList_len p; omega))⟩
      obtain ⟨b397, o398, cu399, fz400, ha401, hb402, hk403⟩ := SlH.at_ (hr386.toH s384.sub) _ hx396
      cases ha401
      refine Op.idx (T := 37) (E := 9) (sz := 1) (by_ := 16) (n := ((pList p).length)) (c := n388) (k := .i64) (x := (.tmp 18)) (ix := (.tmp 21)) (dst := 22) (bk := b397) (o := o398) (m := ((pList p).length : Int) - 1) (by kernel_rfl) (by kernel_rfl) (by kernel_rfl) (by kernel_rfl) (by (have := pList_len p; omega)) (by (have := pList_len p; omega)) ?_
      replace hk403 : cut _ _ _ = [.string (mkS x395)] := hk403
      refine Op.load (T := 9) (x := (.tmp 22)) (o := o398 + (((pList p).length : Int) - 1 : Int).toNat * 1) (d := 23) (n := 1) (v := .string (mkS x395)) (by kernel_rfl) (by kernel_rfl) (by kernel_rfl) hb402 (cut_get hk403 0 rfl) ?_
      refine Op.pures 2 [2, 3] (L' := []) (e' := [(2, .string (mkS x395)), (3, .int .i64 0)]) (by kernel_rfl) ?_
      refine Op.goto 7 (by kernel_rfl) ?_
      refine At.ret (f := Tryd.f37) (v := .tuple #[.string (mkS x395), .int .i64 0]) (by kernel_rfl) (by kernel_rfl) ?_
      refine hR _ _ _ _ s384.fin ⟨?_, rfl, rfl⟩
      exact eqT2 (eqS (by first | exact getLast_of hx396 (by have := pList_len p; omega) | exact (cutErr_0 (by omega)).symm)) (eqI (by first | exact getLast_of hx396 (by have := pList_len p; omega) | exact (cutErr_0 (by omega)).symm))

/-- stanchion/stanchionref09.Within -/
theorem withinRf (B : World) (h : Heap) (g : GH) (hg : Sub g h) (hG : Glob g) (p : List UInt8) (t : List UInt8) (h1 : p.length ≤ 1000000000) (h2 : t.length ≤ 1000000000) :
    Spec Tryd.prog B 41 #[.string (mkS p), .string (mkS t)] h g [] (fun v g' L' => v = .bool (withinR p t) ∧ g' = g ∧ L' = []) := by
  refine Spec.of_at (f := Tryd.f41) (e := [(0, .string (mkS p)), (1, .string (mkS t))]) Tryd.func41 (by kernel_rfl) (Nat.le_of_ble_eq_true (by kernel_rfl)) (by kernel_rfl) (by kernel_rfl) ?_
  intro R hR
  have s0 := St.init hg
  refine At.reg (L := [(0, false)]) (by kernel_rfl) ?_
  refine Op.pures 1 [0, 1] (L' := []) (e' := [(0, .string (mkS p)), (1, .string (mkS t))]) (by kernel_rfl) ?_
  refine Op.goto 1 (by kernel_rfl) ?_
  refine At.reg (L := [(0, false), (1, false), (2, false), (3, false), (4, false), (5, false), (6, false)]) (by kernel_rfl) ?_
  refine Op.pures 1 [1, 11] (L' := [(1, false), (2, false), (3, false), (4, false), (5, false), (6, false)]) (e' := [(1, .string (mkS t)), (11, .string (mkS p))]) (by kernel_rfl) ?_
  refine Op.call0 (dst := some 12) (f := 43) (args := #[.string (mkS p)]) (by kernel_rfl) s0 (partsR _ _ _ s0.sub hG p (by (have hp := pList_len p; have ht := pList_len t; omega))) ?_
  rintro _ g410 _ h404 hle411 s405 ⟨v406, rfl, hr407, rfl⟩
  obtain ⟨a408, n409, rfl⟩ := hr407.form
  replace hG := hG.mono hle411
  refine Op.pures 5 [1, 5, 6] (L' := []) (e' := [(1, .string (mkS t)), (5, .slice a408 ((pList p).length) n409), (6, .int .i64 (pErr p))]) (by kernel_rfl) ?_
  refine Op.goto 2 (by kernel_rfl) ?_
  refine At.reg (L := [(0, false), (1, false), (2, false), (3, false), (4, false), (5, false), (6, false)]) (by kernel_rfl) ?_
  refine Op.pures 1 [5, 6, 16] (L' := [(1, false), (2, false), (3, false), (4, false), (5, false), (6, false)]) (e' := [(5, .slice a408 ((pList p).length) n409), (6, .int .i64 (pErr p)), (16, .string (mkS t))]) (by kernel_rfl) ?_
  refine Op.call0 (dst := some 17) (f := 43) (args := #[.string (mkS t)]) (by kernel_rfl) s405 (partsR _ _ _ s405.sub hG t (by (have hp := pList_len p; have ht := pList_len t; omega))) ?_
  rintro _ g418 _ h412 hle419 s413 ⟨v414, rfl, hr415, rfl⟩
  obtain ⟨a416, n417, rfl⟩ := hr415.form
  replace hG := hG.mono hle419
  replace hr407 := hr407.mono hle419
  refine Op.pures 5 [5, 6, 7, 8] (L' := []) (e' := [(5, .slice a408 ((pList p).length) n409), (6, .int .i64 (pErr p)), (7, .slice a416 ((pList t).length) n417), (8, .int .i64 (pErr t))]) (by kernel_rfl) ?_
  refine Op.goto 3 (by kernel_rfl) ?_
  refine At.reg (L := [(0, false), (1, false), (2, false), (3, false), (4, false), (5, false), (6, false), (7, false), (8, false), (9, false), (10, false), (11, false), (12, false)]) (by kernel_rfl) ?_
  refine Op.pures 3 [5, 7, 8, 22] (L' := [(3, false), (4, false), (5, false), (6, false), (7, false), (8, false), (9, false), (10, false), (11, false), (12, false)]) (e' := [(5, .slice a408 ((pList p).length) n409), (7, .slice a416 ((pList t).length) n417), (8, .int .i64 (pErr t)), (22, .bool ((pErr p) != (0 : Int)))]) (by kernel_rfl) ?_
  refine Op.ways (b := (pErr p) != (0 : Int)) ⟨fun hb => ?_, fun hb => ?_⟩
  · refine Op.cast (e' := [(5, .slice a408 ((pList p).length) n409), (7, .slice a416 ((pList t).length) n417), (8, .int .i64 (pErr t)), (22, .bool true)]) (by rw [hb]) ?_
    have c420 : ¬ ((pErr p) = (0 : Int)) := bneT hb
    clear hb
    refine Op.pures 10 [5, 7, 32] (L' := []) (e' := [(5, .slice a408 ((pList p).length) n409), (7, .slice a416 ((pList t).length) n417), (32, .bool true)]) (by kernel_rfl) ?_
    refine Op.goto 4 (by kernel_rfl) ?_
    refine At.condT (c := .tmp 32) (by kernel_rfl) (by kernel_rfl) (by kernel_rfl) 5 (by kernel_rfl) ?_
    refine At.reg (L := [(0, false)]) (by kernel_rfl) ?_
    refine Op.pures 1 [4] (L' := []) (e' := [(4, .bool false)]) (by kernel_rfl) ?_
    refine Op.goto 6 (by kernel_rfl) ?_
    refine At.ret (f := Tryd.f41) (v := .bool false) (by kernel_rfl) (by kernel_rfl) ?_
    refine hR _ _ _ _ s413.fin ⟨?_, rfl, rfl⟩
    exact (eqB (by first | exact withinR_1 (by assumption) | exact withinR_2 (by assumption) | exact withinR_3 (by assumption)))
  · refine Op.cast (e' := [(5, .slice a408 ((pList p).length) n409), (7, .slice a416 ((pList t).length) n417), (8, .int .i64 (pErr t)), (22, .bool false)]) (by rw [hb]) ?_
    have c421 : (pErr p) = (0 : Int) := bneF hb
    clear hb
    refine Op.pures 4 [5, 7, 26] (L' := [(7, false), (8, false), (9, false), (10, false), (11, false), (12, false)]) (e' := [(5, .slice a408 ((pList p).length) n409), (7, .slice a416 ((pList t).length) n417), (26, .bool ((pErr t) != (0 : Int)))]) (by kernel_rfl) ?_
    refine Op.ways (b := (pErr t) != (0 : Int)) ⟨fun hb => ?_, fun hb => ?_⟩
    · refine Op.cast (e' := [(5, .slice a408 ((pList p).length) n409), (7, .slice a416 ((pList t).length) n417), (26, .bool true)]) (by rw [hb]) ?_
      have c422 : ¬ ((pErr t) = (0 : Int)) := bneT hb
      clear hb
      refine Op.pures 6 [5, 7, 32] (L' := []) (e' := [(5, .slice a408 ((pList p).length) n409), (7, .slice a416 ((pList t).length) n417), (32, .bool true)]) (by kernel_rfl) ?_
      refine Op.goto 4 (by kernel_rfl) ?_
      refine At.condT (c := .tmp 32) (by kernel_rfl) (by kernel_rfl) (by kernel_rfl) 5 (by kernel_rfl) ?_
      refine At.reg (L := [(0, false)]) (by kernel_rfl) ?_
      refine Op.pures 1 [4] (L' := []) (e' := [(4, .bool false)]) (by kernel_rfl) ?_
      refine Op.goto 6 (by kernel_rfl) ?_
      refine At.ret (f := Tryd.f41) (v := .bool false) (by kernel_rfl) (by kernel_rfl) ?_
      refine hR _ _ _ _ s413.fin ⟨?_, rfl, rfl⟩
      exact (eqB (by first | exact withinR_1 (by assumption) | exact withinR_2 (by assumption) | exact withinR_3 (by assumption)))
    · refine Op.cast (e' := [(5, .slice a408 ((pList p).length) n409), (7, .slice a416 ((pList t).length) n417), (26, .bool false)]) (by rw [hb]) ?_
      have c423 : (pErr t) = (0 : Int) := bneF hb
      clear hb
      refine Op.pures 6 [5, 7, 32] (L' := []) (e' := [(5, .slice a408 ((pList p).length) n409), (7, .slice a416 ((pList t).length) n417), (32, .bool (decide (((pList p).length : Int) < ((pList t).length : Int))))]) (by kernel_rfl) ?_
      refine Op.goto 4 (by kernel_rfl) ?_
      refine At.cond (b := decide (((pList p).length : Int) < ((pList t).length : Int))) (c := .tmp 32) (by kernel_rfl) (by kernel_rfl) (by kernel_rfl) 5 7 (by kernel_rfl) (by kernel_rfl) (fun hb => ?_) (fun hb => ?_)
      · have c424 : ((pList p).length : Int) < ((pList t).length : Int) := of_decide_eq_true hb
        clear hb
        refine At.keep [] ?_; show At _ _ _ [] _
        refine At.reg (L := [(0, false)]) (by kernel_rfl) ?_
        refine Op.pures 1 [4] (L' := []) (e' := [(4, .bool false)]) (by kernel_rfl) ?_
        refine Op.goto 6 (by kernel_rfl) ?_
        refine At.ret (f := Tryd.f41) (v := .bool false) (by kernel_rfl) (by kernel_rfl) ?_
        refine hR _ _ _ _ s413.fin ⟨?_, rfl, rfl⟩
        exact (eqB (by first | exact withinR_1 (by assumption) | exact withinR_2 (by assumption) | exact withinR_3 (by assumption)))
      · have c425 : ¬ (((pList p).length : Int) < ((pList t).length : Int)) := of_decide_eq_false hb
        clear hb
        refine At.keep [5, 7] ?_; show At _ _ _ [(5, .slice a408 ((pList p).length) n409), (7, .slice a416 ((pList t).length) n417)] _
        refine At.reg (L := [(0, false)]) (by kernel_rfl) ?_
        refine Op.pures 1 [5, 7, 9] (L' := []) (e' := [(5, .slice a408 ((pList p).length) n409), (7, .slice a416 ((pList t).length) n417), (9, .int .i64 0)]) (by kernel_rfl) ?_
        refine Op.goto 8 (by kernel_rfl) ?_
        have loop8 : ∀ (m : Nat) (i : Int) (h426 : Heap) (hm : (pList t).length - i.toNat < m) (h0 : 0 ≤ i) (h3 : i ≤ (pList t).length) (ht : (pList p).take i.toNat = (pList t).take i.toNat)  (s_loop8425 : St h g (ids []) g418 [] h426), At (fctx Tryd.prog B 41 Tryd.f41 R) [] 8 [(5, .slice a408 ((pList p).length) n409), (7, .slice a416 ((pList t).length) n417), (9, .int .i64 i)] h426 := by
          intro m; induction m with
          | zero => intros; omega
          | succ m ih8 =>
            intro i h426 hm h0 h3 ht s_loop8425
            refine At.reg (L := [(0, false), (1, false), (2, false), (3, false)]) (by kernel_rfl) ?_
            refine Op.pures 4 [5, 7, 9, 36] (L' := []) (e' := [(5, .slice a408 ((pList p).length) n409), (7, .slice a416 ((pList t).length) n417), (9, .int .i64 i), (36, .bool (decide (i < ((pList t).length : Int))))]) (by kernel_rfl) ?_
            refine Op.goto 9 (by kernel_rfl) ?_
            refine At.cond (b := decide (i < ((pList t).length : Int))) (c := .tmp 36) (by kernel_rfl) (by kernel_rfl) (by kernel_rfl) 10 15 (by kernel_rfl) (by kernel_rfl) (fun hb => ?_) (fun hb => ?_)
            · have c427 : i < ((pList t).length : Int) := of_decide_eq_true hb
              clear hb
              refine At.keep [5, 7, 9] ?_; show At _ _ _ [(5, .slice a408 ((pList p).length) n409), (7, .slice a416 ((pList t).length) n417), (9, .int .i64 i)] _
              refine At.draw (by kernel_rfl) (fun _ => False) [(0, true), (1, true), (2, true), (4, true), (5, true), (6, true), (3, true), (7, false), (8, true)] (by kernel_rfl) ?_
              refine Op.pures 2 [5, 7, 9, 39, 40] (L' := [(2, true), (4, true), (5, true), (6, true), (3, true), (7, false), (8, true)]) (e' := [(5, .slice a408 ((pList p).length) n409), (7, .slice a416 ((pList t).length) n417), (9, .int .i64 i), (39, .slice a408 ((pList p).length) n409), (40, .int .i64 i)]) (by kernel_rfl) ?_
              obtain ⟨x428, hx429⟩ : ∃ c, (pList p)[(i : Int).toNat]? = some c := ⟨_, List.getElem?_eq_getElem (by (have hp := pList_len p; have ht := pList_len t; omega))⟩
              obtain ⟨b430, o431, cu432, fz433, ha434, hb435, hk436⟩ := SlH.at_ (hr407.toH s_loop8425.sub) _ hx429
              cases ha434
              refine Op.idx (T := 37) (E := 9) (sz := 1) (by_ := 16) (n := ((pList p).length)) (c := n409) (k := .i64) (x := (.tmp 39)) (ix := (.tmp 40)) (dst := 41) (bk := b430) (o := o431) (m := i) (by kernel_rfl) (by kernel_rfl) (by kernel_rfl) (by kernel_rfl) (by (have hp := pList_len p; have ht := pList_len t; omega)) (by (have hp := pList_len p; have ht := pList_len t; omega)) ?_
              replace hk436 : cut _ _ _ = [.string (mkS x428)] := hk436
              refine Op.pures 2 [5, 7, 9, 41, 43, 44] (L' := [(6, true), (3, true), (7, false), (8, true)]) (e' := [(5, .slice (some ⟨b430, o431, none⟩) ((pList p).length) n409), (7, .slice a416 ((pList t).length) n417), (9, .int .i64 i), (41, .pointer (some ⟨b430, o431 + (i : Int).toNat * 1, none⟩)), (43, .slice a416 ((pList t).length) n417), (44, .int .i64 i)]) (by kernel_rfl) ?_
              obtain ⟨x437, hx438⟩ : ∃ c, (pList t)[(i : Int).toNat]? = some c := ⟨_, List.getElem?_eq_getElem (by (have hp := pList_len p; have ht := pList_len t; omega))⟩
              obtain ⟨b439, o440, cu441, fz442, ha443, hb444, hk445⟩ := SlH.at_ (hr415.toH s_loop8425.sub) _ hx438
              cases ha443
              refine Op.idx (T := 37) (E := 9) (sz := 1) (by_ := 16) (n := ((pList t).length)) (c := n417) (k := .i64) (x := (.tmp 43)) (ix := (.tmp 44)) (dst := 45) (bk := b439) (o := o440) (m := i) (by kernel_rfl) (by kernel_rfl) (by kernel_rfl) (by kernel_rfl) (by (have hp := pList_len p; have ht := pList_len t; omega)) (by (have hp := pList_len p; have ht := pList_len t; omega)) ?_
              replace hk445 : cut _ _ _ = [.string (mkS x437)] := hk445
              refine Op.loadF (T := 9) (x := (.tmp 41)) (o := o431 + (i : Int).toNat * 1) (d := 42) (n := 1) (v := .string (mkS x428)) (by kernel_rfl) (by kernel_rfl) (by kernel_rfl) (fun h => h) hb435 (cut_get hk436 0 rfl) ?_
              refine Op.load (T := 9) (x := (.tmp 45)) (o := o440 + (i : Int).toNat * 1) (d := 46) (n := 1) (v := .string (mkS x437)) (by kernel_rfl) (by kernel_rfl) (by kernel_rfl) hb444 (cut_get hk445 0 rfl) ?_
              refine Op.val (dst := some 47) (v := .bool (!((mkS x428).toList == (mkS x437).toList))) (v' := .bool (!(x428 == x437))) (by kernel_rfl) (by rw [toList_mkS, toList_mkS]) ?_
              refine Op.goto 11 (by kernel_rfl) ?_
              refine At.cond (b := !(x428 == x437)) (c := .tmp 47) (by kernel_rfl) (by kernel_rfl) (by kernel_rfl) 12 14 (by kernel_rfl) (by kernel_rfl) (fun hb => ?_) (fun hb => ?_)
              · have c446 : ¬ (x428 = x437) := neF (notT hb)
                clear hb
                refine At.keep [] ?_; show At _ _ _ [] _
                refine At.reg (L := [(0, false)]) (by kernel_rfl) ?_
                refine Op.pures 1 [4] (L' := []) (e' := [(4, .bool false)]) (by kernel_rfl) ?_
                refine Op.goto 13 (by kernel_rfl) ?_
                refine At.ret (f := Tryd.f41) (v := .bool false) (by kernel_rfl) (by kernel_rfl) ?_
                refine hR _ _ _ _ s_loop8425.fin ⟨?_, rfl, rfl⟩
                exact (eqB (by exact withinR_4 hx429 hx438 c446))
              · have c447 : x428 = x437 := eq_of_beq (notF hb)
                clear hb
                refine At.keep [5, 7, 9] ?_; show At _ _ _ [(5, .slice (some ⟨b430, o431, none⟩) ((pList p).length) n409), (7, .slice (some ⟨b439, o440, none⟩) ((pList t).length) n417), (9, .int .i64 i)] _
                refine At.reg (L := [(0, false), (1, false), (2, false)]) (by kernel_rfl) ?_
                refine Op.pures 1 [5, 7, 9, 37] (L' := [(1, false), (2, false)]) (e' := [(5, .slice (some ⟨b430, o431, none⟩) ((pList p).length) n409), (7, .slice (some ⟨b439, o440, none⟩) ((pList t).length) n417), (9, .int .i64 i), (37, .int .i64 i)]) (by kernel_rfl) ?_
                refine Op.val (dst := some 38) (v := .int .i64 (IntKind.wrap .i64 (i + 1))) (v' := .int .i64 (i + 1)) (by kernel_rfl) (wrapEq_i64 (by (have hp := pList_len p; have ht := pList_len t; omega)) (by (have hp := pList_len p; have ht := pList_len t; omega))) ?_
                refine Op.pures 1 [5, 7, 9] (L' := []) (e' := [(5, .slice (some ⟨b430, o431, none⟩) ((pList p).length) n409), (7, .slice (some ⟨b439, o440, none⟩) ((pList t).length) n417), (9, .int .i64 (i + 1))]) (by kernel_rfl) ?_
                refine Op.goto 8 (by kernel_rfl) ?_
                exact ih8  (i + 1) _ (by omega) (by (have hp := pList_len p; have ht := pList_len t; omega)) (by (have hp := pList_len p; have ht := pList_len t; omega)) (by exact take_step ht h0 hx429 hx438 c447)  s_loop8425
            · have c448 : ¬ (i < ((pList t).length : Int)) := of_decide_eq_false hb
              clear hb
              refine At.keep [] ?_; show At _ _ _ [] _
              refine At.reg (L := [(0, false)]) (by kernel_rfl) ?_
              refine Op.pures 1 [4] (L' := []) (e' := [(4, .bool true)]) (by kernel_rfl) ?_
              refine Op.goto 16 (by kernel_rfl) ?_
              refine At.ret (f := Tryd.f41) (v := .bool true) (by kernel_rfl) (by kernel_rfl) ?_
              refine hR _ _ _ _ s_loop8425.fin ⟨?_, rfl, rfl⟩
              exact (eqB (by exact withinR_5 (by assumption) (by assumption) c448 (by assumption) h3 ht))
        exact loop8 _  0 _ (Nat.lt_succ_self _) (by (have hp := pList_len p; have ht := pList_len t; omega)) (by (have hp := pList_len p; have ht := pList_len t; omega)) (by rfl)  s413

end Go.Proofs.YtphonojjgnbpfaaDoor.Sw
