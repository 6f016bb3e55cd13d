/- Lemmas for a law of this seat: what the functions compute, and plain facts of it. Own text. -/
import Derived.Test.YtmjebehhpojihaaGreatDoorTLoadsM
namespace Go.Proofs.YtmjebehhpojihaaGreatDoor.Sw
open Go
set_option maxRecDepth 100000
set_option linter.unusedVariables false
set_option linter.unusedSimpArgs false
set_option linter.deprecated false
theorem sameT (B : World) (h : Heap) (g : GH) (hg : Sub g h) (hG : Glob g) (b_t : Nat) (t : List Leaf) (o_t : VTree g b_t t) (m : R10Tree) (v_m_0 : Value) (h_m_0 : SlR g 59 kLeaf v_m_0 m.All) (hB : TreeB t) :
    Spec Tryz.prog B 49 #[.pointer (some ⟨b_t, 0, none⟩), .agg #[v_m_0]] h g [] (fun rv g' L' => rv = .bool (decide (t = m.All)) ∧ g' = g ∧ L' = []) := by
  obtain ⟨a_m_0, n_m_0, rfl⟩ := h_m_0.form
  refine Spec.of_at (f := Tryz.f49) (e := [(0, .pointer (some ⟨b_t, 0, none⟩)), (1, .agg #[.slice a_m_0 m.All.length n_m_0])]) Tryz.func49 (by kernel_rfl) (Nat.le_of_ble_eq_true (by kernel_rfl)) (by kernel_rfl) (by kernel_rfl) ?_
  intro R hR
  have s0 := St.init hg
  refine At.reg (L := [(0, false), (1, false)]) (by kernel_rfl) ?_
  refine Op.box (T := 75) (x := (.tmp 1)) (d := 3) (cs := #[.slice a_m_0 m.All.length n_m_0]) (by kernel_rfl) (by kernel_rfl) s0 ?_
  intro b1001 h1002 s1003
  refine Op.pures 1 [0, 3] (L' := []) (e' := [(0, .pointer (some ⟨b_t, 0, none⟩)), (3, .pointer (some ⟨b1001, 0, none⟩))]) (by kernel_rfl) ?_
  refine Op.goto 1 (by kernel_rfl) ?_
  refine At.draw (by kernel_rfl) (fun _ => False) [(0, true), (2, true), (3, true), (1, false), (4, false), (5, true)] (by kernel_rfl) ?_
  refine Op.pures 2 [5, 7] (L' := [(3, true), (1, false), (4, false), (5, true)]) (e' := [(5, .pointer (some ⟨b_t, 0, none⟩)), (7, .pointer (some ⟨b1001, 0, none⟩))]) (by kernel_rfl) ?_
  refine Op.loadF (T := 52) (x := (.tmp 7)) (o := 0) (d := 8) (n := 1) (v := .slice a_m_0 m.All.length n_m_0) (by kernel_rfl) (by kernel_rfl) (by kernel_rfl) (fun h => h) (s1003.chunk 0 rfl) (by kernel_rfl) ?_
  refine Op.call0 (dst := some 6) (f := 30) (args := #[.pointer (some ⟨b_t, 0, none⟩)]) (by kernel_rfl) s1003 (allF _ _ _ s1003.sub hG b_t t o_t (by ((try dsimp only) <;> (omega))) ) ?_
  rintro _ g1010 _ h1004 hle1011 s1005 ⟨v1006, ch1007, dc1008, rfl, R1009, hgg, rfl⟩; subst g1010; clear hle1011
  obtain ⟨g1012, s1013, hle1014, hf1015⟩ := Deep.freeze R1009 s1005
  replace hG := hG.mono hle1014
  replace h_m_0 := h_m_0.mono hle1014
  replace o_t := o_t.mono hle1014
  obtain ⟨a1016, n1017, rfl⟩ := hf1015.form
  refine Op.call0 (dst := some 9) (f := 39) (args := #[.slice a1016 ((t).length) n1017, .slice a_m_0 m.All.length n_m_0]) (by kernel_rfl) s1013 (sameLeaves _ _ _ s1013.sub hG _ _ hf1015 _ _ h_m_0 (by ((try dsimp only) <;> ((have := hB.1; omega)))) (by ((try dsimp only) <;> (exact fun n hn => by have := (hB.2 n hn).2.1; omega))) ) ?_
  rintro _ g1020 _ h1018 hle1021 s1019 ⟨rfl, hgg, rfl⟩; subst g1020; clear hle1021
  refine Op.pures 1 [4] (L' := []) (e' := [(4, .bool (decide (t = m.All)))]) (by kernel_rfl) ?_
  refine Op.goto 2 (by kernel_rfl) ?_
  refine At.ret (f := Tryz.f49) (v := .bool (decide (t = m.All))) (by kernel_rfl) (by kernel_rfl) ?_
  have s1022 : St h g (ids []) g1012 [] h1018 := (s1019).drop
  have s1023 : St h g (ids []) g [] h1018 := s1022.unfrz
  refine hR _ _ _ _ s1023 ⟨?_, rfl, rfl⟩
  exact (eqB (by rfl))
theorem great10 (B : World) (h : Heap) (g : GH) (hg : Sub g h) (hG : Glob g) (v_script : Value) (script : List L10Op) (h_script : SlR g 49 kL10Op v_script script) (h1 : script.length ≤ 2000000) (hb : ∀ o ∈ script, o.Path.length ≤ 2000000 ∧ o.Data.length ≤ 2000000) :
    Spec Tryz.prog B 26 #[v_script] h g [] (fun rv g' L' => rv = .bool (greatB script) ∧ g' = g ∧ L' = []) := by
  obtain ⟨a_script, n_script, rfl⟩ := h_script.form
  refine Spec.of_at (f := Tryz.f26) (e := [(0, .slice a_script script.length n_script)]) Tryz.func26 (by kernel_rfl) (Nat.le_of_ble_eq_true (by kernel_rfl)) (by kernel_rfl) (by kernel_rfl) ?_
  intro R hR
  have s0 := St.init hg
  refine At.reg (L := [(0, false)]) (by kernel_rfl) ?_
  refine Op.pures 1 [0] (L' := []) (e' := [(0, .slice a_script script.length n_script)]) (by kernel_rfl) ?_
  refine Op.goto 1 (by kernel_rfl) ?_
  refine At.reg (L := [(0, false)]) (by kernel_rfl) ?_
  refine Op.pures 1 [0, 3] (L' := []) (e' := [(0, .slice a_script script.length n_script), (3, .int .i64 0)]) (by kernel_rfl) ?_
  refine Op.goto 2 (by kernel_rfl) ?_
  refine At.reg (L := [(0, false)]) (by kernel_rfl) ?_
  refine Op.pures 1 [0, 3, 4] (L' := []) (e' := [(0, .slice a_script script.length n_script), (3, .int .i64 0), (4, .int .i64 0)]) (by kernel_rfl) ?_
  refine Op.goto 3 (by kernel_rfl) ?_
  have loop3 : ∀ (m : Nat) (n : Int) (i : Int) (h1024 : Heap) (hm : script.length - i.toNat < m) (h0 : 0 ≤ i) (h3 : i ≤ script.length) (hn0 : 0 ≤ n) (hn1 : n ≤ 4100002) (hg : grN script 0 = grN (script.drop i.toNat) n)     (s_loop31023 : St h g (ids []) g [] h1024), At (fctx Tryz.prog B 26 Tryz.f26 R) [] 3 [(0, .slice a_script script.length n_script), (3, .int .i64 n), (4, .int .i64 i)] h1024 := by
    intro m; induction m with
    | zero => intros; omega
    | succ m ih3 =>
      intro n i h1024 hm h0 h3 hn0 hn1 hg s_loop31023
      refine At.reg (L := [(0, false), (1, false), (2, false), (3, false), (4, false), (5, false), (6, false), (7, false)]) (by kernel_rfl) ?_
      refine Op.pures 5 [0, 3, 4, 9] (L' := [(5, false), (6, false), (7, false)]) (e' := [(0, .slice a_script script.length n_script), (3, .int .i64 n), (4, .int .i64 i), (9, .bool (decide (i < (script.length : Int))))]) (by kernel_rfl) ?_
      refine Op.ways (b := decide (i < (script.length : Int))) ⟨fun hb => ?_, fun hb => ?_⟩
      · refine Op.cast (e' := [(0, .slice a_script script.length n_script), (3, .int .i64 n), (4, .int .i64 i), (9, .bool true)]) (by rw [hb]) ?_
        have c1025 : i < (script.length : Int) := of_decide_eq_true hb
        clear hb
        refine Op.pures 3 [0, 3, 4, 12] (L' := []) (e' := [(0, .slice a_script script.length n_script), (3, .int .i64 n), (4, .int .i64 i), (12, .bool (decide (n ≤ (100000 : Int))))]) (by kernel_rfl) ?_
        refine Op.goto 4 (by kernel_rfl) ?_
        refine At.cond (b := decide (n ≤ (100000 : Int))) (c := .tmp 12) (by kernel_rfl) (by kernel_rfl) (by kernel_rfl) 5 7 (by kernel_rfl) (by kernel_rfl) (fun hb => ?_) (fun hb => ?_)
        · have c1026 : n ≤ (100000 : Int) := of_decide_eq_true hb
          clear hb
          refine At.keep [0, 3, 4] ?_; show At _ _ _ [(0, .slice a_script script.length n_script), (3, .int .i64 n), (4, .int .i64 i)] _
          refine At.draw (by kernel_rfl) (fun _ => False) [(0, true), (1, true), (2, true), (3, true), (4, true), (8, true), (9, true), (10, true), (11, true), (5, true), (6, true), (7, true), (12, false), (13, true), (14, true), (15, true), (16, true)] (by kernel_rfl) ?_
          refine Op.pures 3 [0, 3, 4, 15, 16, 17] (L' := [(3, true), (4, true), (8, true), (9, true), (10, true), (11, true), (5, true), (6, true), (7, true), (12, false), (13, true), (14, true), (15, true), (16, true)]) (e' := [(0, .slice a_script script.length n_script), (3, .int .i64 n), (4, .int .i64 i), (15, .int .i64 n), (16, .slice a_script script.length n_script), (17, .int .i64 i)]) (by kernel_rfl) ?_
          obtain ⟨x1027, hx1028⟩ : ∃ c, script[(i : Int).toNat]? = some c := ⟨_, List.getElem?_eq_getElem (by omega)⟩
          obtain ⟨b1029, o1030, cu1031, fz1032, ha1033, hb1034, hk1035⟩ := SlR.at_ h_script _ hx1028
          cases ha1033
          refine Op.idx (T := 43) (E := 49) (sz := 7) (by_ := 80) (n := script.length) (c := n_script) (k := .i64) (x := (.tmp 16)) (ix := (.tmp 17)) (dst := 18) (bk := b1029) (o := o1030) (m := i) (by kernel_rfl) (by kernel_rfl) (by kernel_rfl) (by kernel_rfl) (by omega) (by omega) ?_
          obtain ⟨v1036, hv1037, hk1035⟩ := hk1035
          obtain ⟨a1038, n1039, rfl⟩ := hv1037.form
          refine Op.pures 3 [0, 3, 4, 15, 19, 23, 24] (L' := [(10, true), (11, true), (5, true), (6, true), (7, true), (12, false), (13, true), (14, true), (15, true), (16, true)]) (e' := [(0, .slice (some ⟨b1029, o1030, none⟩) script.length n_script), (3, .int .i64 n), (4, .int .i64 i), (15, .int .i64 n), (19, .pointer (some ⟨b1029, o1030 + (i : Int).toNat * 7 + 4, none⟩)), (23, .slice (some ⟨b1029, o1030, none⟩) script.length n_script), (24, .int .i64 i)]) (by kernel_rfl) ?_
          obtain ⟨b1042, o1043, cu1044, fz1045, ha1046, hb1047, hk1048⟩ := SlR.at_ h_script _ hx1028
          cases ha1046
          refine Op.idx (T := 43) (E := 49) (sz := 7) (by_ := 80) (n := script.length) (c := n_script) (k := .i64) (x := (.tmp 23)) (ix := (.tmp 24)) (dst := 25) (bk := b1029) (o := o1030) (m := i) (by kernel_rfl) (by kernel_rfl) (by kernel_rfl) (by kernel_rfl) (by omega) (by omega) ?_
          obtain ⟨v1049, hv1050, hk1048⟩ := hk1048
          obtain ⟨a1051, n1052, rfl⟩ := hv1050.form
          refine Op.pures 1 [0, 3, 4, 15, 19, 26] (L' := [(5, true), (6, true), (7, true), (12, false), (13, true), (14, true), (15, true), (16, true)]) (e' := [(0, .slice (some ⟨b1029, o1030, none⟩) script.length n_script), (3, .int .i64 n), (4, .int .i64 i), (15, .int .i64 n), (19, .pointer (some ⟨b1029, o1030 + (i : Int).toNat * 7 + 4, none⟩)), (26, .pointer (some ⟨b1029, o1030 + (i : Int).toNat * 7 + 5, none⟩))]) (by kernel_rfl) ?_
          refine Op.loadF (T := 9) (x := (.tmp 19)) (o := o1030 + (i : Int).toNat * 7 + 4) (d := 20) (n := 1) (v := .string (mkS x1027.Path)) (by kernel_rfl) (by kernel_rfl) (by kernel_rfl) (fun h => h) (s_loop31023.sub _ _ hb1034) (cut_get hk1035 4 rfl) ?_
          refine Op.pures 1 [0, 3, 4, 15, 21, 26] (L' := [(7, true), (12, false), (13, true), (14, true), (15, true), (16, true)]) (e' := [(0, .slice (some ⟨b1029, o1030, none⟩) script.length n_script), (3, .int .i64 n), (4, .int .i64 i), (15, .int .i64 n), (21, .int .i64 (x1027.Path.length : Int)), (26, .pointer (some ⟨b1029, o1030 + (i : Int).toNat * 7 + 5, none⟩))]) (by kernel_rfl) ?_
          refine Op.val (dst := some 22) (v := .int .i64 (IntKind.wrap .i64 ((1 : Int) + (x1027.Path.length : Int)))) (v' := .int .i64 ((1 : Int) + (x1027.Path.length : Int))) (by kernel_rfl) (wrapEq_i64 (by omega) (by (have hbb := hb _ (List.mem_of_getElem? hx1028); omega))) ?_
          refine Op.load (T := 29) (x := (.tmp 26)) (o := o1030 + (i : Int).toNat * 7 + 5) (d := 27) (n := 1) (v := .slice a1051 x1027.Data.length n1052) (by kernel_rfl) (by kernel_rfl) (by kernel_rfl) (s_loop31023.sub _ _ hb1047) (cut_get hk1048 5 rfl) ?_
          refine Op.pures 1 [0, 3, 4, 15, 22, 28] (L' := [(14, true), (15, true), (16, true)]) (e' := [(0, .slice (some ⟨b1029, o1030, none⟩) script.length n_script), (3, .int .i64 n), (4, .int .i64 i), (15, .int .i64 n), (22, .int .i64 ((1 : Int) + (x1027.Path.length : Int))), (28, .int .i64 (x1027.Data.length : Int))]) (by kernel_rfl) ?_
          refine Op.val (dst := some 29) (v := .int .i64 (IntKind.wrap .i64 (((1 : Int) + (x1027.Path.length : Int)) + (x1027.Data.length : Int)))) (v' := .int .i64 (((1 : Int) + (x1027.Path.length : Int)) + (x1027.Data.length : Int))) (by kernel_rfl) (wrapEq_i64 (by omega) (by (have hbb := hb _ (List.mem_of_getElem? hx1028); omega))) ?_
          refine Op.val (dst := some 30) (v := .int .i64 (IntKind.wrap .i64 (n + (((1 : Int) + (x1027.Path.length : Int)) + (x1027.Data.length : Int))))) (v' := .int .i64 (n + (((1 : Int) + (x1027.Path.length : Int)) + (x1027.Data.length : Int)))) (by kernel_rfl) (wrapEq_i64 (by omega) (by (have hbb := hb _ (List.mem_of_getElem? hx1028); omega))) ?_
          refine Op.pures 1 [0, 3, 4] (L' := []) (e' := [(0, .slice (some ⟨b1029, o1030, none⟩) script.length n_script), (3, .int .i64 (n + (((1 : Int) + (x1027.Path.length : Int)) + (x1027.Data.length : Int)))), (4, .int .i64 i)]) (by kernel_rfl) ?_
          refine Op.goto 6 (by kernel_rfl) ?_
          refine At.reg (L := [(0, false), (1, false), (2, false)]) (by kernel_rfl) ?_
          refine Op.pures 1 [0, 3, 4, 13] (L' := [(1, false), (2, false)]) (e' := [(0, .slice (some ⟨b1029, o1030, none⟩) script.length n_script), (3, .int .i64 (n + (((1 : Int) + (x1027.Path.length : Int)) + (x1027.Data.length : Int)))), (4, .int .i64 i), (13, .int .i64 i)]) (by kernel_rfl) ?_
          refine Op.val (dst := some 14) (v := .int .i64 (IntKind.wrap .i64 (i + 1))) (v' := .int .i64 (i + 1)) (by kernel_rfl) (wrapEq_i64 (by omega) (by omega)) ?_
          refine Op.pures 1 [0, 3, 4] (L' := []) (e' := [(0, .slice (some ⟨b1029, o1030, none⟩) script.length n_script), (3, .int .i64 (n + (((1 : Int) + (x1027.Path.length : Int)) + (x1027.Data.length : Int)))), (4, .int .i64 (i + 1))]) (by kernel_rfl) ?_
          refine Op.goto 3 (by kernel_rfl) ?_
          exact ih3  (n + (((1 : Int) + (x1027.Path.length : Int)) + (x1027.Data.length : Int))) (i + 1) _ (by omega) (by omega) (by omega) (by omega) (by (have hbb := hb _ (List.mem_of_getElem? hx1028); omega)) (by exact gr_step hg h0 hx1028 (by assumption))  s_loop31023
        · have c1053 : ¬ (n ≤ (100000 : Int)) := of_decide_eq_false hb
          clear hb
          refine At.keep [0, 3] ?_; show At _ _ _ [(0, .slice a_script script.length n_script), (3, .int .i64 n)] _
          refine At.reg (L := [(0, false), (1, false), (2, false), (3, false), (4, false), (5, false), (6, false), (7, false)]) (by kernel_rfl) ?_
          refine Op.pures 3 [0, 33] (L' := [(3, false), (4, false), (5, false), (6, false), (7, false)]) (e' := [(0, .slice a_script script.length n_script), (33, .bool (decide (n > (10000 : Int))))]) (by kernel_rfl) ?_
          refine Op.ways (b := decide (n > (10000 : Int))) ⟨fun hb => ?_, fun hb => ?_⟩
          · refine Op.cast (e' := [(0, .slice a_script script.length n_script), (33, .bool true)]) (by rw [hb]) ?_
            have c1054 : n > (10000 : Int) := of_decide_eq_true hb
            clear hb
            refine Op.pures 5 [2] (L' := []) (e' := [(2, .bool true)]) (by kernel_rfl) ?_
            refine Op.goto 8 (by kernel_rfl) ?_
            refine At.ret (f := Tryz.f26) (v := .bool true) (by kernel_rfl) (by kernel_rfl) ?_
            refine hR _ _ _ _ s_loop31023 ⟨?_, rfl, rfl⟩
            exact (eqB (by exact greatB_1 (gr_end2 hg (by assumption)) (by assumption)))
          · refine Op.cast (e' := [(0, .slice a_script script.length n_script), (33, .bool false)]) (by rw [hb]) ?_
            have c1055 : ¬ (n > (10000 : Int)) := of_decide_eq_false hb
            clear hb
            refine Op.pures 5 [2] (L' := []) (e' := [(2, .bool (decide ((script.length : Int) > (150 : Int))))]) (by kernel_rfl) ?_
            refine Op.goto 8 (by kernel_rfl) ?_
            refine At.ret (f := Tryz.f26) (v := .bool (decide ((script.length : Int) > (150 : Int)))) (by kernel_rfl) (by kernel_rfl) ?_
            refine hR _ _ _ _ s_loop31023 ⟨?_, rfl, rfl⟩
            exact (eqB (by exact greatB_2 (gr_end2 hg (by assumption)) (by assumption)))
      · refine Op.cast (e' := [(0, .slice a_script script.length n_script), (3, .int .i64 n), (4, .int .i64 i), (9, .bool false)]) (by rw [hb]) ?_
        have c1056 : ¬ (i < (script.length : Int)) := of_decide_eq_false hb
        clear hb
        refine Op.pures 3 [0, 3, 4, 12] (L' := []) (e' := [(0, .slice a_script script.length n_script), (3, .int .i64 n), (4, .int .i64 i), (12, .bool false)]) (by kernel_rfl) ?_
        refine Op.goto 4 (by kernel_rfl) ?_
        refine At.condF (c := .tmp 12) (by kernel_rfl) (by kernel_rfl) (by kernel_rfl) 7 (by kernel_rfl) ?_
        refine At.reg (L := [(0, false), (1, false), (2, false), (3, false), (4, false), (5, false), (6, false), (7, false)]) (by kernel_rfl) ?_
        refine Op.pures 3 [0, 33] (L' := [(3, false), (4, false), (5, false), (6, false), (7, false)]) (e' := [(0, .slice a_script script.length n_script), (33, .bool (decide (n > (10000 : Int))))]) (by kernel_rfl) ?_
        refine Op.ways (b := decide (n > (10000 : Int))) ⟨fun hb => ?_, fun hb => ?_⟩
        · refine Op.cast (e' := [(0, .slice a_script script.length n_script), (33, .bool true)]) (by rw [hb]) ?_
          have c1057 : n > (10000 : Int) := of_decide_eq_true hb
          clear hb
          refine Op.pures 5 [2] (L' := []) (e' := [(2, .bool true)]) (by kernel_rfl) ?_
          refine Op.goto 8 (by kernel_rfl) ?_
          refine At.ret (f := Tryz.f26) (v := .bool true) (by kernel_rfl) (by kernel_rfl) ?_
          refine hR _ _ _ _ s_loop31023 ⟨?_, rfl, rfl⟩
          exact (eqB (by exact greatB_1 (gr_end1 hg (by assumption)) (by assumption)))
        · refine Op.cast (e' := [(0, .slice a_script script.length n_script), (33, .bool false)]) (by rw [hb]) ?_
          have c1058 : ¬ (n > (10000 : Int)) := of_decide_eq_false hb
          clear hb
          refine Op.pures 5 [2] (L' := []) (e' := [(2, .bool (decide ((script.length : Int) > (150 : Int))))]) (by kernel_rfl) ?_
          refine Op.goto 8 (by kernel_rfl) ?_
          refine At.ret (f := Tryz.f26) (v := .bool (decide ((script.length : Int) > (150 : Int)))) (by kernel_rfl) (by kernel_rfl) ?_
          refine hR _ _ _ _ s_loop31023 ⟨?_, rfl, rfl⟩
          exact (eqB (by exact greatB_2 (gr_end1 hg (by assumption)) (by assumption)))
  exact loop3 _  0 0 _ (Nat.lt_succ_self _) (by omega) (by omega) (by omega) (by omega) (by rfl)  s0
theorem alive10 (B : World) (h : Heap) (g : GH) (hg : Sub g h) (hG : Glob g)  (hP : Pow10 g) :
    Spec Tryz.prog B 25 #[] h g [] (fun rv g' L' => rv = .bool true ∧ g' = g ∧ L' = []) := by
  refine Spec.of_at (f := Tryz.f25) (e := []) Tryz.func25 (by kernel_rfl) (Nat.le_of_ble_eq_true (by kernel_rfl)) (by kernel_rfl) (by kernel_rfl) ?_
  intro R hR
  have s0 := St.init hg
  refine At.reg (L := [(0, false)]) (by kernel_rfl) ?_
  refine Op.pures 1 [] (L' := []) (e' := []) (by kernel_rfl) ?_
  refine Op.goto 1 (by kernel_rfl) ?_
  refine At.reg (L := [(0, false), (1, false)]) (by kernel_rfl) ?_
  refine Op.call0 (dst := some 8) (f := 27) (args := #[]) (by kernel_rfl) s0 (newT _ _ _ s0.sub hG   ) ?_
  rintro _ g1064 _ h1059 hle1065 s1060 ⟨b1061, c1062, rfl, o1063, hgg, rfl⟩; subst g1064; clear hle1065
  refine Op.pures 1 [1] (L' := []) (e' := [(1, .pointer (some ⟨b1061, 0, none⟩))]) (by kernel_rfl) ?_
  refine Op.goto 2 (by kernel_rfl) ?_
  refine At.reg (L := [(0, false), (1, false)]) (by kernel_rfl) ?_
  refine Op.pures 2 [1, 10] (L' := []) (e' := [(1, .pointer (some ⟨b1061, 0, none⟩)), (10, .bool false)]) (by kernel_rfl) ?_
  refine Op.goto 3 (by kernel_rfl) ?_
  refine At.condF (c := .tmp 10) (by kernel_rfl) (by kernel_rfl) (by kernel_rfl) 6 (by kernel_rfl) ?_
  refine At.reg (L := [(0, false), (1, false), (2, false), (3, false), (4, false), (5, false), (6, false)]) (by kernel_rfl) ?_
  refine Op.pures 1 [1, 12] (L' := [(1, false), (2, false), (3, false), (4, false), (5, false), (6, false)]) (e' := [(1, .pointer (some ⟨b1061, 0, none⟩)), (12, .pointer (some ⟨b1061, 0, none⟩))]) (by kernel_rfl) ?_
  refine Op.call (dst := some 13) (f := 28) (args := #[.pointer (some ⟨b1061, 0, none⟩), .string (mkS ([47, 113])), .slice none 0 0, .int .i64 (-1), .int .i64 1, .bool false]) (Lc := [c1062]) (L := []) (by kernel_rfl) s1060 (makeF _ _ _ s1060.sub hG b1061 ([⟨[47], [], 0, -1, 0, 0⟩]) _ o1063 ([47, 113]) _ _ (SlR.nil _ _ _) (-1) 1 false hP (by ((try dsimp only) <;> (exact al_b0))) (by ((try dsimp only) <;> (decide))) (by ((try dsimp only) <;> (decide))) (St.part (Lc := [c1062]) (L := []) s1060)) (fun _ _ _ => trivial) ?_
  rintro _ g1070 _ h1066 hle1071 s1067 ⟨c1068, rfl, o1069, hgg, rfl⟩; subst g1070; clear hle1071
  refine Op.pures 5 [1, 2, 3] (L' := []) (e' := [(1, .pointer (some ⟨b1061, 0, none⟩)), (2, .string (mkS ((makeT ([⟨[47], [], 0, -1, 0, 0⟩]) ([47, 113]) [] (-1) 1 false).2.1))), (3, .int .i64 ((makeT ([⟨[47], [], 0, -1, 0, 0⟩]) ([47, 113]) [] (-1) 1 false).2.2))]) (by kernel_rfl) ?_
  refine Op.goto 7 (by kernel_rfl) ?_
  have o1072 := IsTree.eq o1069 (show _ = al1 from by rw [al_1])
  refine At.reg (L := [(0, false), (1, false), (2, false), (3, false), (4, false), (5, false), (6, false), (7, false), (8, false)]) (by kernel_rfl) ?_
  refine Op.pures 1 [1, 2, 3, 17] (L' := [(1, false), (2, false), (3, false), (4, false), (5, false), (6, false), (7, false), (8, false)]) (e' := [(1, .pointer (some ⟨b1061, 0, none⟩)), (2, .string (mkS ((makeT ([⟨[47], [], 0, -1, 0, 0⟩]) ([47, 113]) [] (-1) 1 false).2.1))), (3, .int .i64 ((makeT ([⟨[47], [], 0, -1, 0, 0⟩]) ([47, 113]) [] (-1) 1 false).2.2)), (17, .pointer (some ⟨b1061, 0, none⟩))]) (by kernel_rfl) ?_
  refine Op.lit (T := 29) (len := 1) (parts := #[(0, (.const (.int .u8 120)))]) (dst := 18) (E := 5) (ps := [(0, .int .u8 120)]) (cs := #[.int .u8 120]) (by kernel_rfl) (by kernel_rfl) (by kernel_rfl) s1067 ?_
  intro b1073 h1074 s1075
  refine Op.convLit (T := 29) (E := 5) (x := (.tmp 18)) (dst := 19) (b := b1073) (n := 1) (cs := #[.int .u8 120]) (xs := ([(120 : UInt8)] : List UInt8)) (by kernel_rfl) (by kernel_rfl) (by kernel_rfl) (by kernel_rfl) rfl s1075 ⟨_, _, rfl, rfl, Reads.nil⟩ (fun _ => trivial) ?_
  intro g1076 h1077 hle1078 s1079 hf1080
  replace hG := hG.mono hle1078
  replace hP := hP.mono hle1078
  replace o1072 := o1072.mono hle1078
  refine Op.call (dst := some 20) (f := 28) (args := #[.pointer (some ⟨b1061, 0, none⟩), .string (mkS ([47, 113, 47, 116, 45])), .slice (some ⟨b1073, 0, none⟩) 1 1, .int .i64 3, .int .i64 2, .bool true]) (Lc := [c1068]) (L := []) (by kernel_rfl) s1079 (makeF _ _ _ s1079.sub hG b1061 al1 _ o1072 ([47, 113, 47, 116, 45]) _ _ hf1080 3 2 true hP (by ((try dsimp only) <;> (exact al_b1))) (by ((try dsimp only) <;> (decide))) (by ((try dsimp only) <;> (decide))) (St.part (Lc := [c1068]) (L := []) s1079)) (fun _ _ _ => trivial) ?_
  rintro _ g1085 _ h1081 hle1086 s1082 ⟨c1083, rfl, o1084, hgg, rfl⟩; subst g1085; clear hle1086
  refine Op.pures 5 [1, 2, 3, 4, 5] (L' := []) (e' := [(1, .pointer (some ⟨b1061, 0, none⟩)), (2, .string (mkS ((makeT ([⟨[47], [], 0, -1, 0, 0⟩]) ([47, 113]) [] (-1) 1 false).2.1))), (3, .int .i64 ((makeT ([⟨[47], [], 0, -1, 0, 0⟩]) ([47, 113]) [] (-1) 1 false).2.2)), (4, .string (mkS ((makeT al1 ([47, 113, 47, 116, 45]) ([(120 : UInt8)] : List UInt8) 3 2 true).2.1))), (5, .int .i64 ((makeT al1 ([47, 113, 47, 116, 45]) ([(120 : UInt8)] : List UInt8) 3 2 true).2.2))]) (by kernel_rfl) ?_
  refine Op.goto 8 (by kernel_rfl) ?_
  have o1087 := IsTree.eq o1084 (show _ = al2 from by rw [al_2])
  refine At.reg (L := [(0, false), (1, false), (2, false), (3, false), (4, false), (5, false), (6, false), (7, false)]) (by kernel_rfl) ?_
  refine Op.pures 1 [1, 2, 3, 4, 5, 24] (L' := [(1, false), (2, false), (3, false), (4, false), (5, false), (6, false), (7, false)]) (e' := [(1, .pointer (some ⟨b1061, 0, none⟩)), (2, .string (mkS ((makeT ([⟨[47], [], 0, -1, 0, 0⟩]) ([47, 113]) [] (-1) 1 false).2.1))), (3, .int .i64 ((makeT ([⟨[47], [], 0, -1, 0, 0⟩]) ([47, 113]) [] (-1) 1 false).2.2)), (4, .string (mkS ((makeT al1 ([47, 113, 47, 116, 45]) ([(120 : UInt8)] : List UInt8) 3 2 true).2.1))), (5, .int .i64 ((makeT al1 ([47, 113, 47, 116, 45]) ([(120 : UInt8)] : List UInt8) 3 2 true).2.2)), (24, .pointer (some ⟨b1061, 0, none⟩))]) (by kernel_rfl) ?_
  have hl1088 := s1082.frzle
  have hz1089 := IsTree.frz o1087 s1082 (by intro p hp; simp only [List.mem_append, hp, true_or, or_true])
  refine Op.lend (dst := some 25) (f := 34) (args := #[.pointer (some ⟨b1061, 0, none⟩), .string (mkS ([47, 113, 47, 116, 45, 48, 48, 48, 48, 48]))]) (cf := (c1083 : Chunk)) (Lc := []) (L := []) (by kernel_rfl) s1082 (getF _ _ _ s1082.frzsub (hG.mono hl1088) b1061 al2 hz1089 ([47, 113, 47, 116, 45, 48, 48, 48, 48, 48]) (by ((try dsimp only) <;> (exact al_b2))) (by ((try dsimp only) <;> (decide))) ) (fun _ _ _ hp => by obtain ⟨_, _, _, _, hgg, _⟩ := hp; exact hgg) (fun _ _ h => absurd h (ids_nil _)) ?_
  rintro _ _ h1090 s1091 ⟨v1092, ch1093, rfl, R1094, hgg, rfl⟩; clear hgg
  obtain ⟨a1095, n1096, rfl⟩ := R1094.form
  replace R1094 := R1094.flat (fun _ _ _ _ h => h) (g' := g1076)
  refine Op.pures 3 [1, 2, 3, 4, 5, 26, 27] (L' := [(5, false), (6, false), (7, false)]) (e' := [(1, .pointer (some ⟨b1061, 0, none⟩)), (2, .string (mkS ((makeT ([⟨[47], [], 0, -1, 0, 0⟩]) ([47, 113]) [] (-1) 1 false).2.1))), (3, .int .i64 ((makeT ([⟨[47], [], 0, -1, 0, 0⟩]) ([47, 113]) [] (-1) 1 false).2.2)), (4, .string (mkS ((makeT al1 ([47, 113, 47, 116, 45]) ([(120 : UInt8)] : List UInt8) 3 2 true).2.1))), (5, .int .i64 ((makeT al1 ([47, 113, 47, 116, 45]) ([(120 : UInt8)] : List UInt8) 3 2 true).2.2)), (26, .agg #[.string (mkS (((getT al2 ([47, 113, 47, 116, 45, 48, 48, 48, 48, 48])).1).Path)), .slice a1095 ((((getT al2 ([47, 113, 47, 116, 45, 48, 48, 48, 48, 48])).1).Data).length) n1096, .int .i64 (((getT al2 ([47, 113, 47, 116, 45, 48, 48, 48, 48, 48])).1).Version), .int .i64 (((getT al2 ([47, 113, 47, 116, 45, 48, 48, 48, 48, 48])).1).Owner), .int .i64 (((getT al2 ([47, 113, 47, 116, 45, 48, 48, 48, 48, 48])).1).Next), .int .i64 (((getT al2 ([47, 113, 47, 116, 45, 48, 48, 48, 48, 48])).1).Born)]), (27, .int .i64 ((getT al2 ([47, 113, 47, 116, 45, 48, 48, 48, 48, 48])).2))]) (by kernel_rfl) ?_
  refine Op.alloc (T := 59) (dst := 6) (cs := #[.string (mkS []), .slice none 0 0, .int .i64 0, .int .i64 0, .int .i64 0, .int .i64 0]) (by kernel_rfl) (by kernel_rfl) s1091 ?_
  intro b1099 h1100 s1101
  refine Op.store (T := 59) (x := (.tmp 6)) (y := (.tmp 26)) (b := b1099) (o := 0) (vs := [.string (mkS (((getT al2 ([47, 113, 47, 116, 45, 48, 48, 48, 48, 48])).1).Path)), .slice a1095 ((((getT al2 ([47, 113, 47, 116, 45, 48, 48, 48, 48, 48])).1).Data).length) n1096, .int .i64 (((getT al2 ([47, 113, 47, 116, 45, 48, 48, 48, 48, 48])).1).Version), .int .i64 (((getT al2 ([47, 113, 47, 116, 45, 48, 48, 48, 48, 48])).1).Owner), .int .i64 (((getT al2 ([47, 113, 47, 116, 45, 48, 48, 48, 48, 48])).1).Next), .int .i64 (((getT al2 ([47, 113, 47, 116, 45, 48, 48, 48, 48, 48])).1).Born)]) (a? := true) (n := 6) (by kernel_rfl) (by kernel_rfl) (by kernel_rfl) (by kernel_rfl) rfl (by simp [Value.oneCell']) s1101 0 rfl (Nat.le_of_ble_eq_true (by kernel_rfl)) (cs := #[.string (mkS []), .slice none 0 0, .int .i64 0, .int .i64 0, .int .i64 0, .int .i64 0]) (cs' := #[.string (mkS (((getT al2 ([47, 113, 47, 116, 45, 48, 48, 48, 48, 48])).1).Path)), .slice a1095 ((((getT al2 ([47, 113, 47, 116, 45, 48, 48, 48, 48, 48])).1).Data).length) n1096, .int .i64 (((getT al2 ([47, 113, 47, 116, 45, 48, 48, 48, 48, 48])).1).Version), .int .i64 (((getT al2 ([47, 113, 47, 116, 45, 48, 48, 48, 48, 48])).1).Owner), .int .i64 (((getT al2 ([47, 113, 47, 116, 45, 48, 48, 48, 48, 48])).1).Next), .int .i64 (((getT al2 ([47, 113, 47, 116, 45, 48, 48, 48, 48, 48])).1).Born)]) (by kernel_rfl) (fun _ => trivial) ?_
  intro h1102 s1103
  refine Op.pures 1 [1, 2, 3, 4, 5, 6, 7] (L' := []) (e' := [(1, .pointer (some ⟨b1061, 0, none⟩)), (2, .string (mkS ((makeT ([⟨[47], [], 0, -1, 0, 0⟩]) ([47, 113]) [] (-1) 1 false).2.1))), (3, .int .i64 ((makeT ([⟨[47], [], 0, -1, 0, 0⟩]) ([47, 113]) [] (-1) 1 false).2.2)), (4, .string (mkS ((makeT al1 ([47, 113, 47, 116, 45]) ([(120 : UInt8)] : List UInt8) 3 2 true).2.1))), (5, .int .i64 ((makeT al1 ([47, 113, 47, 116, 45]) ([(120 : UInt8)] : List UInt8) 3 2 true).2.2)), (6, .pointer (some ⟨b1099, 0, none⟩)), (7, .int .i64 ((getT al2 ([47, 113, 47, 116, 45, 48, 48, 48, 48, 48])).2))]) (by kernel_rfl) ?_
  refine Op.goto 9 (by kernel_rfl) ?_
  refine At.reg (L := [(0, false), (1, false), (2, false), (3, false), (4, false), (5, false), (6, false), (7, false), (8, false), (9, false), (10, false), (11, false), (12, false), (13, false), (14, false), (15, false), (16, false), (17, false), (18, false), (19, false), (20, false), (21, false), (22, false), (23, false), (24, false), (25, false), (26, false), (27, false), (28, false), (29, false), (30, false), (31, false), (32, false), (33, false), (34, false), (35, false), (36, false), (37, false), (38, false), (39, false), (40, false), (41, false), (42, false), (43, false), (44, false), (45, false), (46, false), (47, false)]) (by kernel_rfl) ?_
  refine Op.pures 3 [1, 2, 4, 5, 6, 7, 30] (L' := [(3, false), (4, false), (5, false), (6, false), (7, false), (8, false), (9, false), (10, false), (11, false), (12, false), (13, false), (14, false), (15, false), (16, false), (17, false), (18, false), (19, false), (20, false), (21, false), (22, false), (23, false), (24, false), (25, false), (26, false), (27, false), (28, false), (29, false), (30, false), (31, false), (32, false), (33, false), (34, false), (35, false), (36, false), (37, false), (38, false), (39, false), (40, false), (41, false), (42, false), (43, false), (44, false), (45, false), (46, false), (47, false)]) (e' := [(1, .pointer (some ⟨b1061, 0, none⟩)), (2, .string (mkS ((makeT ([⟨[47], [], 0, -1, 0, 0⟩]) ([47, 113]) [] (-1) 1 false).2.1))), (4, .string (mkS ((makeT al1 ([47, 113, 47, 116, 45]) ([(120 : UInt8)] : List UInt8) 3 2 true).2.1))), (5, .int .i64 ((makeT al1 ([47, 113, 47, 116, 45]) ([(120 : UInt8)] : List UInt8) 3 2 true).2.2)), (6, .pointer (some ⟨b1099, 0, none⟩)), (7, .int .i64 ((getT al2 ([47, 113, 47, 116, 45, 48, 48, 48, 48, 48])).2)), (30, .bool (((makeT ([⟨[47], [], 0, -1, 0, 0⟩]) ([47, 113]) [] (-1) 1 false).2.2) == (0 : Int)))]) (by kernel_rfl) ?_
  refine Op.ways (b := ((makeT ([⟨[47], [], 0, -1, 0, 0⟩]) ([47, 113]) [] (-1) 1 false).2.2) == (0 : Int)) ⟨fun hb => ?_, fun hb => ?_⟩
  · refine Op.cast (e' := [(1, .pointer (some ⟨b1061, 0, none⟩)), (2, .string (mkS ((makeT ([⟨[47], [], 0, -1, 0, 0⟩]) ([47, 113]) [] (-1) 1 false).2.1))), (4, .string (mkS ((makeT al1 ([47, 113, 47, 116, 45]) ([(120 : UInt8)] : List UInt8) 3 2 true).2.1))), (5, .int .i64 ((makeT al1 ([47, 113, 47, 116, 45]) ([(120 : UInt8)] : List UInt8) 3 2 true).2.2)), (6, .pointer (some ⟨b1099, 0, none⟩)), (7, .int .i64 ((getT al2 ([47, 113, 47, 116, 45, 48, 48, 48, 48, 48])).2)), (30, .bool true)]) (by rw [hb]) ?_
    have c1104 : ((makeT ([⟨[47], [], 0, -1, 0, 0⟩]) ([47, 113]) [] (-1) 1 false).2.2) = (0 : Int) := eq_of_beq hb
    clear hb
    refine Op.pures 4 [1, 2, 4, 6, 7, 34] (L' := [(7, false), (8, false), (9, false), (10, false), (11, false), (12, false), (13, false), (14, false), (15, false), (16, false), (17, false), (18, false), (19, false), (20, false), (21, false), (22, false), (23, false), (24, false), (25, false), (26, false), (27, false), (28, false), (29, false), (30, false), (31, false), (32, false), (33, false), (34, false), (35, false), (36, false), (37, false), (38, false), (39, false), (40, false), (41, false), (42, false), (43, false), (44, false), (45, false), (46, false), (47, false)]) (e' := [(1, .pointer (some ⟨b1061, 0, none⟩)), (2, .string (mkS ((makeT ([⟨[47], [], 0, -1, 0, 0⟩]) ([47, 113]) [] (-1) 1 false).2.1))), (4, .string (mkS ((makeT al1 ([47, 113, 47, 116, 45]) ([(120 : UInt8)] : List UInt8) 3 2 true).2.1))), (6, .pointer (some ⟨b1099, 0, none⟩)), (7, .int .i64 ((getT al2 ([47, 113, 47, 116, 45, 48, 48, 48, 48, 48])).2)), (34, .bool (((makeT al1 ([47, 113, 47, 116, 45]) ([(120 : UInt8)] : List UInt8) 3 2 true).2.2) == (0 : Int)))]) (by kernel_rfl) ?_
    refine Op.ways (b := ((makeT al1 ([47, 113, 47, 116, 45]) ([(120 : UInt8)] : List UInt8) 3 2 true).2.2) == (0 : Int)) ⟨fun hb => ?_, fun hb => ?_⟩
    · refine Op.cast (e' := [(1, .pointer (some ⟨b1061, 0, none⟩)), (2, .string (mkS ((makeT ([⟨[47], [], 0, -1, 0, 0⟩]) ([47, 113]) [] (-1) 1 false).2.1))), (4, .string (mkS ((makeT al1 ([47, 113, 47, 116, 45]) ([(120 : UInt8)] : List UInt8) 3 2 true).2.1))), (6, .pointer (some ⟨b1099, 0, none⟩)), (7, .int .i64 ((getT al2 ([47, 113, 47, 116, 45, 48, 48, 48, 48, 48])).2)), (34, .bool true)]) (by rw [hb]) ?_
      have c1105 : ((makeT al1 ([47, 113, 47, 116, 45]) ([(120 : UInt8)] : List UInt8) 3 2 true).2.2) = (0 : Int) := eq_of_beq hb
      clear hb
      refine Op.pures 4 [1, 2, 4, 6, 38] (L' := [(11, false), (12, false), (13, false), (14, false), (15, false), (16, false), (17, false), (18, false), (19, false), (20, false), (21, false), (22, false), (23, false), (24, false), (25, false), (26, false), (27, false), (28, false), (29, false), (30, false), (31, false), (32, false), (33, false), (34, false), (35, false), (36, false), (37, false), (38, false), (39, false), (40, false), (41, false), (42, false), (43, false), (44, false), (45, false), (46, false), (47, false)]) (e' := [(1, .pointer (some ⟨b1061, 0, none⟩)), (2, .string (mkS ((makeT ([⟨[47], [], 0, -1, 0, 0⟩]) ([47, 113]) [] (-1) 1 false).2.1))), (4, .string (mkS ((makeT al1 ([47, 113, 47, 116, 45]) ([(120 : UInt8)] : List UInt8) 3 2 true).2.1))), (6, .pointer (some ⟨b1099, 0, none⟩)), (38, .bool (((getT al2 ([47, 113, 47, 116, 45, 48, 48, 48, 48, 48])).2) == (0 : Int)))]) (by kernel_rfl) ?_
      refine Op.ways (b := ((getT al2 ([47, 113, 47, 116, 45, 48, 48, 48, 48, 48])).2) == (0 : Int)) ⟨fun hb => ?_, fun hb => ?_⟩
      · refine Op.cast (e' := [(1, .pointer (some ⟨b1061, 0, none⟩)), (2, .string (mkS ((makeT ([⟨[47], [], 0, -1, 0, 0⟩]) ([47, 113]) [] (-1) 1 false).2.1))), (4, .string (mkS ((makeT al1 ([47, 113, 47, 116, 45]) ([(120 : UInt8)] : List UInt8) 3 2 true).2.1))), (6, .pointer (some ⟨b1099, 0, none⟩)), (38, .bool true)]) (by rw [hb]) ?_
        have c1106 : ((getT al2 ([47, 113, 47, 116, 45, 48, 48, 48, 48, 48])).2) = (0 : Int) := eq_of_beq hb
        clear hb
        refine Op.pures 1 [1, 4, 6, 38, 39] (L' := [(12, false), (13, false), (14, false), (15, false), (16, false), (17, false), (18, false), (19, false), (20, false), (21, false), (22, false), (23, false), (24, false), (25, false), (26, false), (27, false), (28, false), (29, false), (30, false), (31, false), (32, false), (33, false), (34, false), (35, false), (36, false), (37, false), (38, false), (39, false), (40, false), (41, false), (42, false), (43, false), (44, false), (45, false), (46, false), (47, false)]) (e' := [(1, .pointer (some ⟨b1061, 0, none⟩)), (4, .string (mkS ((makeT al1 ([47, 113, 47, 116, 45]) ([(120 : UInt8)] : List UInt8) 3 2 true).2.1))), (6, .pointer (some ⟨b1099, 0, none⟩)), (38, .bool true), (39, .string (mkS ((makeT ([⟨[47], [], 0, -1, 0, 0⟩]) ([47, 113]) [] (-1) 1 false).2.1)))]) (by kernel_rfl) ?_
        refine Op.val (dst := some 40) (v := .bool ((mkS ((makeT ([⟨[47], [], 0, -1, 0, 0⟩]) ([47, 113]) [] (-1) 1 false).2.1)).toList == (mkS ([47, 113])).toList)) (v' := .bool (((makeT ([⟨[47], [], 0, -1, 0, 0⟩]) ([47, 113]) [] (-1) 1 false).2.1) == ([47, 113]))) (by kernel_rfl) (by rw [toList_mkS, toList_mkS]) ?_
        refine Op.pures 2 [1, 4, 6, 42] (L' := [(15, false), (16, false), (17, false), (18, false), (19, false), (20, false), (21, false), (22, false), (23, false), (24, false), (25, false), (26, false), (27, false), (28, false), (29, false), (30, false), (31, false), (32, false), (33, false), (34, false), (35, false), (36, false), (37, false), (38, false), (39, false), (40, false), (41, false), (42, false), (43, false), (44, false), (45, false), (46, false), (47, false)]) (e' := [(1, .pointer (some ⟨b1061, 0, none⟩)), (4, .string (mkS ((makeT al1 ([47, 113, 47, 116, 45]) ([(120 : UInt8)] : List UInt8) 3 2 true).2.1))), (6, .pointer (some ⟨b1099, 0, none⟩)), (42, .bool (((makeT ([⟨[47], [], 0, -1, 0, 0⟩]) ([47, 113]) [] (-1) 1 false).2.1) == ([47, 113])))]) (by kernel_rfl) ?_
        refine Op.ways (b := ((makeT ([⟨[47], [], 0, -1, 0, 0⟩]) ([47, 113]) [] (-1) 1 false).2.1) == ([47, 113])) ⟨fun hb => ?_, fun hb => ?_⟩
        · refine Op.cast (e' := [(1, .pointer (some ⟨b1061, 0, none⟩)), (4, .string (mkS ((makeT al1 ([47, 113, 47, 116, 45]) ([(120 : UInt8)] : List UInt8) 3 2 true).2.1))), (6, .pointer (some ⟨b1099, 0, none⟩)), (42, .bool true)]) (by rw [hb]) ?_
          have c1107 : ((makeT ([⟨[47], [], 0, -1, 0, 0⟩]) ([47, 113]) [] (-1) 1 false).2.1) = ([47, 113]) := eq_of_beq hb
          clear hb
          refine Op.pures 1 [1, 6, 42, 43] (L' := [(16, false), (17, false), (18, false), (19, false), (20, false), (21, false), (22, false), (23, false), (24, false), (25, false), (26, false), (27, false), (28, false), (29, false), (30, false), (31, false), (32, false), (33, false), (34, false), (35, false), (36, false), (37, false), (38, false), (39, false), (40, false), (41, false), (42, false), (43, false), (44, false), (45, false), (46, false), (47, false)]) (e' := [(1, .pointer (some ⟨b1061, 0, none⟩)), (6, .pointer (some ⟨b1099, 0, none⟩)), (42, .bool true), (43, .string (mkS ((makeT al1 ([47, 113, 47, 116, 45]) ([(120 : UInt8)] : List UInt8) 3 2 true).2.1)))]) (by kernel_rfl) ?_
          refine Op.val (dst := some 44) (v := .bool ((mkS ((makeT al1 ([47, 113, 47, 116, 45]) ([(120 : UInt8)] : List UInt8) 3 2 true).2.1)).toList == (mkS ([47, 113, 47, 116, 45, 48, 48, 48, 48, 48])).toList)) (v' := .bool (((makeT al1 ([47, 113, 47, 116, 45]) ([(120 : UInt8)] : List UInt8) 3 2 true).2.1) == ([47, 113, 47, 116, 45, 48, 48, 48, 48, 48]))) (by kernel_rfl) (by rw [toList_mkS, toList_mkS]) ?_
          refine Op.pures 2 [1, 6, 46] (L' := [(19, false), (20, false), (21, false), (22, false), (23, false), (24, false), (25, false), (26, false), (27, false), (28, false), (29, false), (30, false), (31, false), (32, false), (33, false), (34, false), (35, false), (36, false), (37, false), (38, false), (39, false), (40, false), (41, false), (42, false), (43, false), (44, false), (45, false), (46, false), (47, false)]) (e' := [(1, .pointer (some ⟨b1061, 0, none⟩)), (6, .pointer (some ⟨b1099, 0, none⟩)), (46, .bool (((makeT al1 ([47, 113, 47, 116, 45]) ([(120 : UInt8)] : List UInt8) 3 2 true).2.1) == ([47, 113, 47, 116, 45, 48, 48, 48, 48, 48])))]) (by kernel_rfl) ?_
          refine Op.ways (b := ((makeT al1 ([47, 113, 47, 116, 45]) ([(120 : UInt8)] : List UInt8) 3 2 true).2.1) == ([47, 113, 47, 116, 45, 48, 48, 48, 48, 48])) ⟨fun hb => ?_, fun hb => ?_⟩
          · refine Op.cast (e' := [(1, .pointer (some ⟨b1061, 0, none⟩)), (6, .pointer (some ⟨b1099, 0, none⟩)), (46, .bool true)]) (by rw [hb]) ?_
            have c1108 : ((makeT al1 ([47, 113, 47, 116, 45]) ([(120 : UInt8)] : List UInt8) 3 2 true).2.1) = ([47, 113, 47, 116, 45, 48, 48, 48, 48, 48]) := eq_of_beq hb
            clear hb
            refine Op.pures 1 [1, 6, 46, 47] (L' := [(20, false), (21, false), (22, false), (23, false), (24, false), (25, false), (26, false), (27, false), (28, false), (29, false), (30, false), (31, false), (32, false), (33, false), (34, false), (35, false), (36, false), (37, false), (38, false), (39, false), (40, false), (41, false), (42, false), (43, false), (44, false), (45, false), (46, false), (47, false)]) (e' := [(1, .pointer (some ⟨b1061, 0, none⟩)), (6, .pointer (some ⟨b1099, 0, none⟩)), (46, .bool true), (47, .pointer (some ⟨b1099, 3, none⟩))]) (by kernel_rfl) ?_
            refine Op.load (T := 3) (x := (.tmp 47)) (o := 3) (d := 48) (n := 1) (v := .int .i64 (((getT al2 ([47, 113, 47, 116, 45, 48, 48, 48, 48, 48])).1).Owner)) (by kernel_rfl) (by kernel_rfl) (by kernel_rfl) (s1103.chunk 0 rfl) (by kernel_rfl) ?_
            refine Op.pures 3 [1, 6, 51] (L' := [(24, false), (25, false), (26, false), (27, false), (28, false), (29, false), (30, false), (31, false), (32, false), (33, false), (34, false), (35, false), (36, false), (37, false), (38, false), (39, false), (40, false), (41, false), (42, false), (43, false), (44, false), (45, false), (46, false), (47, false)]) (e' := [(1, .pointer (some ⟨b1061, 0, none⟩)), (6, .pointer (some ⟨b1099, 0, none⟩)), (51, .bool ((((getT al2 ([47, 113, 47, 116, 45, 48, 48, 48, 48, 48])).1).Owner) == (3 : Int)))]) (by kernel_rfl) ?_
            refine Op.ways (b := (((getT al2 ([47, 113, 47, 116, 45, 48, 48, 48, 48, 48])).1).Owner) == (3 : Int)) ⟨fun hb => ?_, fun hb => ?_⟩
            · refine Op.cast (e' := [(1, .pointer (some ⟨b1061, 0, none⟩)), (6, .pointer (some ⟨b1099, 0, none⟩)), (51, .bool true)]) (by rw [hb]) ?_
              have c1109 : (((getT al2 ([47, 113, 47, 116, 45, 48, 48, 48, 48, 48])).1).Owner) = (3 : Int) := eq_of_beq hb
              clear hb
              refine Op.pures 1 [1, 51, 52] (L' := [(25, false), (26, false), (27, false), (28, false), (29, false), (30, false), (31, false), (32, false), (33, false), (34, false), (35, false), (36, false), (37, false), (38, false), (39, false), (40, false), (41, false), (42, false), (43, false), (44, false), (45, false), (46, false), (47, false)]) (e' := [(1, .pointer (some ⟨b1061, 0, none⟩)), (51, .bool true), (52, .pointer (some ⟨b1099, 1, none⟩))]) (by kernel_rfl) ?_
              refine Op.load (T := 29) (x := (.tmp 52)) (o := 1) (d := 53) (n := 1) (v := .slice a1095 ((((getT al2 ([47, 113, 47, 116, 45, 48, 48, 48, 48, 48])).1).Data).length) n1096) (by kernel_rfl) (by kernel_rfl) (by kernel_rfl) (s1103.chunk 0 rfl) (by kernel_rfl) ?_
              refine Op.ofBytes (T := 29) (S := 9) (E := 5) (x := (.tmp 53)) (dst := 54) (l := ((getT al2 ([47, 113, 47, 116, 45, 48, 48, 48, 48, 48])).1).Data) (by kernel_rfl) (by kernel_rfl) (by kernel_rfl) (by kernel_rfl) (by kernel_rfl) (R1094.toH s1103 2 rfl) ?_
              refine Op.val (dst := some 55) (v := .bool ((mkS (((getT al2 ([47, 113, 47, 116, 45, 48, 48, 48, 48, 48])).1).Data)).toList == (mkS ([120])).toList)) (v' := .bool ((((getT al2 ([47, 113, 47, 116, 45, 48, 48, 48, 48, 48])).1).Data) == ([120]))) (by kernel_rfl) (by rw [toList_mkS, toList_mkS]) ?_
              refine Op.pures 2 [1, 57] (L' := [(30, false), (31, false), (32, false), (33, false), (34, false), (35, false), (36, false), (37, false), (38, false), (39, false), (40, false), (41, false), (42, false), (43, false), (44, false), (45, false), (46, false), (47, false)]) (e' := [(1, .pointer (some ⟨b1061, 0, none⟩)), (57, .bool ((((getT al2 ([47, 113, 47, 116, 45, 48, 48, 48, 48, 48])).1).Data) == ([120])))]) (by kernel_rfl) ?_
              refine Op.ways (b := (((getT al2 ([47, 113, 47, 116, 45, 48, 48, 48, 48, 48])).1).Data) == ([120])) ⟨fun hb => ?_, fun hb => ?_⟩
              · refine Op.cast (e' := [(1, .pointer (some ⟨b1061, 0, none⟩)), (57, .bool true)]) (by rw [hb]) ?_
                have c1110 : (((getT al2 ([47, 113, 47, 116, 45, 48, 48, 48, 48, 48])).1).Data) = ([120]) := eq_of_beq hb
                clear hb
                refine Op.pures 1 [1, 57, 58] (L' := [(31, false), (32, false), (33, false), (34, false), (35, false), (36, false), (37, false), (38, false), (39, false), (40, false), (41, false), (42, false), (43, false), (44, false), (45, false), (46, false), (47, false)]) (e' := [(1, .pointer (some ⟨b1061, 0, none⟩)), (57, .bool true), (58, .pointer (some ⟨b1061, 0, none⟩))]) (by kernel_rfl) ?_
                have s1111 : St h g (ids []) g1076 [c1083, [(b1099, Obj.cells #[.string (mkS (((getT al2 ([47, 113, 47, 116, 45, 48, 48, 48, 48, 48])).1).Path)), .slice a1095 ((((getT al2 ([47, 113, 47, 116, 45, 48, 48, 48, 48, 48])).1).Data).length) n1096, .int .i64 (((getT al2 ([47, 113, 47, 116, 45, 48, 48, 48, 48, 48])).1).Version), .int .i64 (((getT al2 ([47, 113, 47, 116, 45, 48, 48, 48, 48, 48])).1).Owner), .int .i64 (((getT al2 ([47, 113, 47, 116, 45, 48, 48, 48, 48, 48])).1).Next), .int .i64 (((getT al2 ([47, 113, 47, 116, 45, 48, 48, 48, 48, 48])).1).Born)] 59 (0, 0))], ch1093] h1102 := ((s1103.front 0 rfl).front 1 rfl)
                refine Op.call (dst := some 59) (f := 33) (args := #[.pointer (some ⟨b1061, 0, none⟩), .string (mkS ([47, 113])), .int .i64 (-1)]) (Lc := [c1083]) (L := [[(b1099, Obj.cells #[.string (mkS (((getT al2 ([47, 113, 47, 116, 45, 48, 48, 48, 48, 48])).1).Path)), .slice a1095 ((((getT al2 ([47, 113, 47, 116, 45, 48, 48, 48, 48, 48])).1).Data).length) n1096, .int .i64 (((getT al2 ([47, 113, 47, 116, 45, 48, 48, 48, 48, 48])).1).Version), .int .i64 (((getT al2 ([47, 113, 47, 116, 45, 48, 48, 48, 48, 48])).1).Owner), .int .i64 (((getT al2 ([47, 113, 47, 116, 45, 48, 48, 48, 48, 48])).1).Next), .int .i64 (((getT al2 ([47, 113, 47, 116, 45, 48, 48, 48, 48, 48])).1).Born)] 59 (0, 0))], ch1093]) (by kernel_rfl) s1111 (dropF _ _ _ s1111.sub hG b1061 al2 _ o1087 ([47, 113]) (-1) (by ((try dsimp only) <;> (exact al_b2))) (by ((try dsimp only) <;> (decide))) (St.part (Lc := [c1083]) (L := [[(b1099, Obj.cells #[.string (mkS (((getT al2 ([47, 113, 47, 116, 45, 48, 48, 48, 48, 48])).1).Path)), .slice a1095 ((((getT al2 ([47, 113, 47, 116, 45, 48, 48, 48, 48, 48])).1).Data).length) n1096, .int .i64 (((getT al2 ([47, 113, 47, 116, 45, 48, 48, 48, 48, 48])).1).Version), .int .i64 (((getT al2 ([47, 113, 47, 116, 45, 48, 48, 48, 48, 48])).1).Owner), .int .i64 (((getT al2 ([47, 113, 47, 116, 45, 48, 48, 48, 48, 48])).1).Next), .int .i64 (((getT al2 ([47, 113, 47, 116, 45, 48, 48, 48, 48, 48])).1).Born)] 59 (0, 0))], ch1093]) s1111)) (fun _ _ _ => trivial) ?_
                rintro _ g1116 _ h1112 hle1117 s1113 ⟨c1114, rfl, o1115, hgg, rfl⟩; subst g1116; clear hle1117
                refine Op.pures 3 [1, 62] (L' := [(35, false), (36, false), (37, false), (38, false), (39, false), (40, false), (41, false), (42, false), (43, false), (44, false), (45, false), (46, false), (47, false)]) (e' := [(1, .pointer (some ⟨b1061, 0, none⟩)), (62, .bool (((dropT al2 ([47, 113]) (-1)).2) == (103 : Int)))]) (by kernel_rfl) ?_
                refine Op.ways (b := ((dropT al2 ([47, 113]) (-1)).2) == (103 : Int)) ⟨fun hb => ?_, fun hb => ?_⟩
                · refine Op.cast (e' := [(1, .pointer (some ⟨b1061, 0, none⟩)), (62, .bool true)]) (by rw [hb]) ?_
                  have c1118 : ((dropT al2 ([47, 113]) (-1)).2) = (103 : Int) := eq_of_beq hb
                  clear hb
                  refine Op.pures 1 [1, 62, 63] (L' := [(36, false), (37, false), (38, false), (39, false), (40, false), (41, false), (42, false), (43, false), (44, false), (45, false), (46, false), (47, false)]) (e' := [(1, .pointer (some ⟨b1061, 0, none⟩)), (62, .bool true), (63, .pointer (some ⟨b1061, 0, none⟩))]) (by kernel_rfl) ?_
                  have hl1119 := s1113.frzle
                  have hz1120 := IsTree.frz o1115 s1113 (by intro p hp; simp only [List.mem_append, hp, true_or, or_true])
                  refine Op.lend (dst := some 64) (f := 30) (args := #[.pointer (some ⟨b1061, 0, none⟩)]) (cf := (c1114 : Chunk)) (Lc := []) (L := [[(b1099, Obj.cells #[.string (mkS (((getT al2 ([47, 113, 47, 116, 45, 48, 48, 48, 48, 48])).1).Path)), .slice a1095 ((((getT al2 ([47, 113, 47, 116, 45, 48, 48, 48, 48, 48])).1).Data).length) n1096, .int .i64 (((getT al2 ([47, 113, 47, 116, 45, 48, 48, 48, 48, 48])).1).Version), .int .i64 (((getT al2 ([47, 113, 47, 116, 45, 48, 48, 48, 48, 48])).1).Owner), .int .i64 (((getT al2 ([47, 113, 47, 116, 45, 48, 48, 48, 48, 48])).1).Next), .int .i64 (((getT al2 ([47, 113, 47, 116, 45, 48, 48, 48, 48, 48])).1).Born)] 59 (0, 0))], ch1093]) (by kernel_rfl) s1113 (allF _ _ _ s1113.frzsub (hG.mono hl1119) b1061 ((dropT al2 ([47, 113]) (-1)).1) hz1120 (by ((try dsimp only) <;> (exact al_b2))) ) (fun _ _ _ hp => by obtain ⟨_, _, _, _, _, hgg, _⟩ := hp; exact hgg) (fun _ _ h => absurd h (ids_nil _)) ?_
                  rintro _ _ h1121 s1122 ⟨v1123, ch1124, dc1125, rfl, R1126, hgg, rfl⟩; clear hgg
                  have s1129 : St h g (ids []) g1076 [ch1124, dc1125, c1114, [(b1099, Obj.cells #[.string (mkS (((getT al2 ([47, 113, 47, 116, 45, 48, 48, 48, 48, 48])).1).Path)), .slice a1095 ((((getT al2 ([47, 113, 47, 116, 45, 48, 48, 48, 48, 48])).1).Data).length) n1096, .int .i64 (((getT al2 ([47, 113, 47, 116, 45, 48, 48, 48, 48, 48])).1).Version), .int .i64 (((getT al2 ([47, 113, 47, 116, 45, 48, 48, 48, 48, 48])).1).Owner), .int .i64 (((getT al2 ([47, 113, 47, 116, 45, 48, 48, 48, 48, 48])).1).Next), .int .i64 (((getT al2 ([47, 113, 47, 116, 45, 48, 48, 48, 48, 48])).1).Born)] 59 (0, 0))], ch1093] h1121 := (((s1122.front 0 rfl).front 2 rfl).front 2 rfl)
                  obtain ⟨g1130, s1131, hle1132, hf1133⟩ := Deep.freeze R1126 s1129
                  replace R1094 := R1094.mono hle1132
                  replace hG := hG.mono hle1132
                  replace hP := hP.mono hle1132
                  replace o1115 := o1115.mono hle1132
                  obtain ⟨a1134, n1135, rfl⟩ := hf1133.form
                  refine Op.pures 4 [1, 68] (L' := [(41, false), (42, false), (43, false), (44, false), (45, false), (46, false), (47, false)]) (e' := [(1, .pointer (some ⟨b1061, 0, none⟩)), (68, .bool (((((dropT al2 ([47, 113]) (-1)).1)).length : Int) == (3 : Int)))]) (by kernel_rfl) ?_
                  refine Op.ways (b := ((((dropT al2 ([47, 113]) (-1)).1)).length : Int) == (3 : Int)) ⟨fun hb => ?_, fun hb => ?_⟩
                  · refine Op.cast (e' := [(1, .pointer (some ⟨b1061, 0, none⟩)), (68, .bool true)]) (by rw [hb]) ?_
                    have c1136 : ((((dropT al2 ([47, 113]) (-1)).1)).length : Int) = (3 : Int) := eq_of_beq hb
                    clear hb
                    refine Op.pures 1 [68, 69] (L' := [(42, false), (43, false), (44, false), (45, false), (46, false), (47, false)]) (e' := [(68, .bool true), (69, .pointer (some ⟨b1061, 0, none⟩))]) (by kernel_rfl) ?_
                    refine Op.lit (T := 44) (len := 1) (parts := #[(0, (.const (.int .i64 3)))]) (dst := 70) (E := 3) (ps := [(0, .int .i64 3)]) (cs := #[.int .i64 3]) (by kernel_rfl) (by kernel_rfl) (by kernel_rfl) s1131 ?_
                    intro b1137 h1138 s1139
                    have R1140 : Row 3 (kInt .i64) g1130 (.slice (some ⟨b1137, 0, none⟩) 1 1) [3] [(b1137, Obj.cells #[.int .i64 3] 3 (0, 0))] := Row.lit (by kernel_rfl) (by unfold maxLen; decide) (by kernel_rfl) ⟨_, _, rfl, rfl, Reads.nil⟩
                    have s1141 : St h g (ids []) g1130 (([(b1137, Obj.cells #[.int .i64 3] 3 (0, 0))] ++ c1114 : Chunk) :: [[(b1099, Obj.cells #[.string (mkS (((getT al2 ([47, 113, 47, 116, 45, 48, 48, 48, 48, 48])).1).Path)), .slice a1095 ((((getT al2 ([47, 113, 47, 116, 45, 48, 48, 48, 48, 48])).1).Data).length) n1096, .int .i64 (((getT al2 ([47, 113, 47, 116, 45, 48, 48, 48, 48, 48])).1).Version), .int .i64 (((getT al2 ([47, 113, 47, 116, 45, 48, 48, 48, 48, 48])).1).Owner), .int .i64 (((getT al2 ([47, 113, 47, 116, 45, 48, 48, 48, 48, 48])).1).Next), .int .i64 (((getT al2 ([47, 113, 47, 116, 45, 48, 48, 48, 48, 48])).1).Born)] 59 (0, 0))], ch1093]) h1138 := St.flat (by simp only [List.flatten_cons, List.append_assoc, List.cons_append, List.nil_append, List.append_nil]) s1139
                    have hl1142 := s1141.frzle
                    have hz1143 := R1140.frzIn (c := ([(b1137, Obj.cells #[.int .i64 3] 3 (0, 0))] ++ c1114 : Chunk)) s1141 (by intro p hp; simp only [List.mem_append, hp, true_or, or_true])
                    have hz1144 := IsTree.frz o1115 s1141 (by intro p hp; simp only [List.mem_append, hp, true_or, or_true])
                    refine Op.lend (dst := some 71) (f := 31) (args := #[.pointer (some ⟨b1061, 0, none⟩), .slice (some ⟨b1137, 0, none⟩) 1 1]) (cf := ([(b1137, Obj.cells #[.int .i64 3] 3 (0, 0))] ++ c1114 : Chunk)) (Lc := []) (L := [[(b1099, Obj.cells #[.string (mkS (((getT al2 ([47, 113, 47, 116, 45, 48, 48, 48, 48, 48])).1).Path)), .slice a1095 ((((getT al2 ([47, 113, 47, 116, 45, 48, 48, 48, 48, 48])).1).Data).length) n1096, .int .i64 (((getT al2 ([47, 113, 47, 116, 45, 48, 48, 48, 48, 48])).1).Version), .int .i64 (((getT al2 ([47, 113, 47, 116, 45, 48, 48, 48, 48, 48])).1).Owner), .int .i64 (((getT al2 ([47, 113, 47, 116, 45, 48, 48, 48, 48, 48])).1).Next), .int .i64 (((getT al2 ([47, 113, 47, 116, 45, 48, 48, 48, 48, 48])).1).Born)] 59 (0, 0))], ch1093]) (by kernel_rfl) s1141 (ownedF _ _ _ s1141.frzsub (hG.mono hl1142) b1061 ((dropT al2 ([47, 113]) (-1)).1) hz1144 _ _ hz1143 (by ((try dsimp only) <;> (exact al_b2))) (by ((try dsimp only) <;> (decide))) ) (fun _ _ _ hp => by obtain ⟨_, _, _, _, hgg, _⟩ := hp; exact hgg) (fun _ _ h => absurd h (ids_nil _)) ?_
                    rintro _ _ h1145 s1146 ⟨v1147, ch1148, rfl, R1149, hgg, rfl⟩; clear hgg
                    obtain ⟨a1150, n1151, rfl⟩ := R1149.form
                    replace R1149 := R1149.flat (fun _ _ _ _ h => h) (g' := g1130)
                    have s1154 : St h g (ids []) g1130 [[(b1137, Obj.cells #[.int .i64 3] 3 (0, 0))], c1114, ch1148, [(b1099, Obj.cells #[.string (mkS (((getT al2 ([47, 113, 47, 116, 45, 48, 48, 48, 48, 48])).1).Path)), .slice a1095 ((((getT al2 ([47, 113, 47, 116, 45, 48, 48, 48, 48, 48])).1).Data).length) n1096, .int .i64 (((getT al2 ([47, 113, 47, 116, 45, 48, 48, 48, 48, 48])).1).Version), .int .i64 (((getT al2 ([47, 113, 47, 116, 45, 48, 48, 48, 48, 48])).1).Owner), .int .i64 (((getT al2 ([47, 113, 47, 116, 45, 48, 48, 48, 48, 48])).1).Next), .int .i64 (((getT al2 ([47, 113, 47, 116, 45, 48, 48, 48, 48, 48])).1).Born)] 59 (0, 0))], ch1093] h1145 := St.flat (by simp only [List.flatten_cons, List.append_assoc, List.cons_append, List.nil_append, List.append_nil]) s1146
                    refine Op.pures 4 [0] (L' := []) (e' := [(0, .bool (((ownedL ((dropT al2 ([47, 113]) (-1)).1) ([3])).length : Int) == (1 : Int)))]) (by kernel_rfl) ?_
                    refine Op.goto 10 (by kernel_rfl) ?_
                    refine At.ret (f := Tryz.f25) (v := .bool (((ownedL ((dropT al2 ([47, 113]) (-1)).1) ([3])).length : Int) == (1 : Int))) (by kernel_rfl) (by kernel_rfl) ?_
                    have s1155 : St h g (ids []) g1130 [] h1145 := (s1154).drop.drop.drop.drop.drop
                    have s1156 : St h g (ids []) g [] h1145 := s1155.unfrz
                    refine hR _ _ _ _ s1156 ⟨?_, rfl, rfl⟩
                    exact (eqB (by rfl))
                  · refine Op.cast (e' := [(1, .pointer (some ⟨b1061, 0, none⟩)), (68, .bool false)]) (by rw [hb]) ?_
                    have c1157 : ¬ (((((dropT al2 ([47, 113]) (-1)).1)).length : Int) = (3 : Int)) := neF hb
                    clear hb
                    refine Op.pures 7 [0] (L' := []) (e' := [(0, .bool false)]) (by kernel_rfl) ?_
                    refine Op.goto 10 (by kernel_rfl) ?_
                    refine At.ret (f := Tryz.f25) (v := .bool false) (by kernel_rfl) (by kernel_rfl) ?_
                    have s1158 : St h g (ids []) g1130 [] h1121 := (s1131).drop.drop.drop
                    have s1159 : St h g (ids []) g [] h1121 := s1158.unfrz
                    refine hR _ _ _ _ s1159 ⟨?_, rfl, rfl⟩
                    exact (eqB (by exact absurd (by rw [al_4]; first | done | rfl | decide +kernel) c1157))
                · refine Op.cast (e' := [(1, .pointer (some ⟨b1061, 0, none⟩)), (62, .bool false)]) (by rw [hb]) ?_
                  have c1160 : ¬ (((dropT al2 ([47, 113]) (-1)).2) = (103 : Int)) := neF hb
                  clear hb
                  refine Op.pures 13 [0] (L' := []) (e' := [(0, .bool false)]) (by kernel_rfl) ?_
                  refine Op.goto 10 (by kernel_rfl) ?_
                  refine At.ret (f := Tryz.f25) (v := .bool false) (by kernel_rfl) (by kernel_rfl) ?_
                  have s1161 : St h g (ids []) g1076 [] h1112 := (s1113).drop.drop.drop
                  have s1162 : St h g (ids []) g [] h1112 := s1161.unfrz
                  refine hR _ _ _ _ s1162 ⟨?_, rfl, rfl⟩
                  exact (eqB (by exact absurd (by rw [al_4]; first | done | rfl | decide +kernel) c1160))
              · refine Op.cast (e' := [(1, .pointer (some ⟨b1061, 0, none⟩)), (57, .bool false)]) (by rw [hb]) ?_
                have c1163 : ¬ ((((getT al2 ([47, 113, 47, 116, 45, 48, 48, 48, 48, 48])).1).Data) = ([120])) := neF hb
                clear hb
                refine Op.pures 18 [0] (L' := []) (e' := [(0, .bool false)]) (by kernel_rfl) ?_
                refine Op.goto 10 (by kernel_rfl) ?_
                refine At.ret (f := Tryz.f25) (v := .bool false) (by kernel_rfl) (by kernel_rfl) ?_
                have s1164 : St h g (ids []) g1076 [] h1102 := (s1103).drop.drop.drop
                have s1165 : St h g (ids []) g [] h1102 := s1164.unfrz
                refine hR _ _ _ _ s1165 ⟨?_, rfl, rfl⟩
                exact (eqB (by exact absurd (by rw [al_3]; first | done | rfl | decide +kernel) c1163))
            · refine Op.cast (e' := [(1, .pointer (some ⟨b1061, 0, none⟩)), (6, .pointer (some ⟨b1099, 0, none⟩)), (51, .bool false)]) (by rw [hb]) ?_
              have c1166 : ¬ ((((getT al2 ([47, 113, 47, 116, 45, 48, 48, 48, 48, 48])).1).Owner) = (3 : Int)) := neF hb
              clear hb
              refine Op.pures 24 [0] (L' := []) (e' := [(0, .bool false)]) (by kernel_rfl) ?_
              refine Op.goto 10 (by kernel_rfl) ?_
              refine At.ret (f := Tryz.f25) (v := .bool false) (by kernel_rfl) (by kernel_rfl) ?_
              have s1167 : St h g (ids []) g1076 [] h1102 := (s1103).drop.drop.drop
              have s1168 : St h g (ids []) g [] h1102 := s1167.unfrz
              refine hR _ _ _ _ s1168 ⟨?_, rfl, rfl⟩
              exact (eqB (by exact absurd (by rw [al_3]; first | done | rfl | decide +kernel) c1166))
          · refine Op.cast (e' := [(1, .pointer (some ⟨b1061, 0, none⟩)), (6, .pointer (some ⟨b1099, 0, none⟩)), (46, .bool false)]) (by rw [hb]) ?_
            have c1169 : ¬ (((makeT al1 ([47, 113, 47, 116, 45]) ([(120 : UInt8)] : List UInt8) 3 2 true).2.1) = ([47, 113, 47, 116, 45, 48, 48, 48, 48, 48])) := neF hb
            clear hb
            refine Op.pures 29 [0] (L' := []) (e' := [(0, .bool false)]) (by kernel_rfl) ?_
            refine Op.goto 10 (by kernel_rfl) ?_
            refine At.ret (f := Tryz.f25) (v := .bool false) (by kernel_rfl) (by kernel_rfl) ?_
            have s1170 : St h g (ids []) g1076 [] h1102 := (s1103).drop.drop.drop
            have s1171 : St h g (ids []) g [] h1102 := s1170.unfrz
            refine hR _ _ _ _ s1171 ⟨?_, rfl, rfl⟩
            exact (eqB (by exact absurd (by rw [al_2]; first | done | rfl | decide +kernel) c1169))
        · refine Op.cast (e' := [(1, .pointer (some ⟨b1061, 0, none⟩)), (4, .string (mkS ((makeT al1 ([47, 113, 47, 116, 45]) ([(120 : UInt8)] : List UInt8) 3 2 true).2.1))), (6, .pointer (some ⟨b1099, 0, none⟩)), (42, .bool false)]) (by rw [hb]) ?_
          have c1172 : ¬ (((makeT ([⟨[47], [], 0, -1, 0, 0⟩]) ([47, 113]) [] (-1) 1 false).2.1) = ([47, 113])) := neF hb
          clear hb
          refine Op.pures 33 [0] (L' := []) (e' := [(0, .bool false)]) (by kernel_rfl) ?_
          refine Op.goto 10 (by kernel_rfl) ?_
          refine At.ret (f := Tryz.f25) (v := .bool false) (by kernel_rfl) (by kernel_rfl) ?_
          have s1173 : St h g (ids []) g1076 [] h1102 := (s1103).drop.drop.drop
          have s1174 : St h g (ids []) g [] h1102 := s1173.unfrz
          refine hR _ _ _ _ s1174 ⟨?_, rfl, rfl⟩
          exact (eqB (by exact absurd (by rw [al_1]; first | done | rfl | decide +kernel) c1172))
      · refine Op.cast (e' := [(1, .pointer (some ⟨b1061, 0, none⟩)), (2, .string (mkS ((makeT ([⟨[47], [], 0, -1, 0, 0⟩]) ([47, 113]) [] (-1) 1 false).2.1))), (4, .string (mkS ((makeT al1 ([47, 113, 47, 116, 45]) ([(120 : UInt8)] : List UInt8) 3 2 true).2.1))), (6, .pointer (some ⟨b1099, 0, none⟩)), (38, .bool false)]) (by rw [hb]) ?_
        have c1175 : ¬ (((getT al2 ([47, 113, 47, 116, 45, 48, 48, 48, 48, 48])).2) = (0 : Int)) := neF hb
        clear hb
        refine Op.pures 37 [0] (L' := []) (e' := [(0, .bool false)]) (by kernel_rfl) ?_
        refine Op.goto 10 (by kernel_rfl) ?_
        refine At.ret (f := Tryz.f25) (v := .bool false) (by kernel_rfl) (by kernel_rfl) ?_
        have s1176 : St h g (ids []) g1076 [] h1102 := (s1103).drop.drop.drop
        have s1177 : St h g (ids []) g [] h1102 := s1176.unfrz
        refine hR _ _ _ _ s1177 ⟨?_, rfl, rfl⟩
        exact (eqB (by exact absurd (by rw [al_3]; first | done | rfl | decide +kernel) c1175))
    · refine Op.cast (e' := [(1, .pointer (some ⟨b1061, 0, none⟩)), (2, .string (mkS ((makeT ([⟨[47], [], 0, -1, 0, 0⟩]) ([47, 113]) [] (-1) 1 false).2.1))), (4, .string (mkS ((makeT al1 ([47, 113, 47, 116, 45]) ([(120 : UInt8)] : List UInt8) 3 2 true).2.1))), (6, .pointer (some ⟨b1099, 0, none⟩)), (7, .int .i64 ((getT al2 ([47, 113, 47, 116, 45, 48, 48, 48, 48, 48])).2)), (34, .bool false)]) (by rw [hb]) ?_
      have c1178 : ¬ (((makeT al1 ([47, 113, 47, 116, 45]) ([(120 : UInt8)] : List UInt8) 3 2 true).2.2) = (0 : Int)) := neF hb
      clear hb
      refine Op.pures 41 [0] (L' := []) (e' := [(0, .bool false)]) (by kernel_rfl) ?_
      refine Op.goto 10 (by kernel_rfl) ?_
      refine At.ret (f := Tryz.f25) (v := .bool false) (by kernel_rfl) (by kernel_rfl) ?_
      have s1179 : St h g (ids []) g1076 [] h1102 := (s1103).drop.drop.drop
      have s1180 : St h g (ids []) g [] h1102 := s1179.unfrz
      refine hR _ _ _ _ s1180 ⟨?_, rfl, rfl⟩
      exact (eqB (by exact absurd (by rw [al_2]; first | done | rfl | decide +kernel) c1178))
  · refine Op.cast (e' := [(1, .pointer (some ⟨b1061, 0, none⟩)), (2, .string (mkS ((makeT ([⟨[47], [], 0, -1, 0, 0⟩]) ([47, 113]) [] (-1) 1 false).2.1))), (4, .string (mkS ((makeT al1 ([47, 113, 47, 116, 45]) ([(120 : UInt8)] : List UInt8) 3 2 true).2.1))), (5, .int .i64 ((makeT al1 ([47, 113, 47, 116, 45]) ([(120 : UInt8)] : List UInt8) 3 2 true).2.2)), (6, .pointer (some ⟨b1099, 0, none⟩)), (7, .int .i64 ((getT al2 ([47, 113, 47, 116, 45, 48, 48, 48, 48, 48])).2)), (30, .bool false)]) (by rw [hb]) ?_
    have c1181 : ¬ (((makeT ([⟨[47], [], 0, -1, 0, 0⟩]) ([47, 113]) [] (-1) 1 false).2.2) = (0 : Int)) := neF hb
    clear hb
    refine Op.pures 45 [0] (L' := []) (e' := [(0, .bool false)]) (by kernel_rfl) ?_
    refine Op.goto 10 (by kernel_rfl) ?_
    refine At.ret (f := Tryz.f25) (v := .bool false) (by kernel_rfl) (by kernel_rfl) ?_
    have s1182 : St h g (ids []) g1076 [] h1102 := (s1103).drop.drop.drop
    have s1183 : St h g (ids []) g [] h1102 := s1182.unfrz
    refine hR _ _ _ _ s1183 ⟨?_, rfl, rfl⟩
    exact (eqB (by exact absurd (by rw [al_1]; first | done | rfl | decide +kernel) c1181))
end Go.Proofs.YtmjebehhpojihaaGreatDoor.Sw
namespace Go.Proofs.YtmjebehhpojihaaGreatDoor.Sw
open Go
set_option maxRecDepth 100000
set_option linter.unusedVariables false
set_option linter.unusedSimpArgs false
set_option linter.deprecated false
theorem lawLoads10 (B : World) (h : Heap) (g : GH) (hg : Sub g h) (hG : Glob g) (v_script : Value) (script : List L10Op) (h_script : SlR g 49 kL10Op v_script script) (v_list : Value) (list : List Leaf) (h_list : SlR g 59 kLeaf v_list list) (hP : Pow10 g) (h1 : script.length ≤ 2000000) (hb : ∀ o ∈ script, o.Path.length ≤ 2000000 ∧ o.Data.length ≤ 2000000) (hl1 : list.length ≤ 2000000) (hl2 : ∀ n ∈ list, n.Path.length ≤ 2000000 ∧ n.Data.length ≤ 2000000 ∧ -9223372036854775808 ≤ n.Next ∧ n.Next ≤ 9223372036854775807) :
    Spec Tryz.prog B 12 #[v_script, v_list] h g [] (fun rv g' L' => rv = .bool true ∧ g' = g ∧ L' = []) := by
  obtain ⟨a_script, n_script, rfl⟩ := h_script.form
  obtain ⟨a_list, n_list, rfl⟩ := h_list.form
  refine Spec.of_at (f := Tryz.f12) (e := [(0, .slice a_script script.length n_script), (1, .slice a_list list.length n_list)]) Tryz.func12 (by kernel_rfl) (Nat.le_of_ble_eq_true (by kernel_rfl)) (by kernel_rfl) (by kernel_rfl) ?_
  intro R hR
  have s0 := St.init hg
  refine At.reg (L := [(0, false)]) (by kernel_rfl) ?_
  refine Op.pures 1 [0, 1] (L' := []) (e' := [(0, .slice a_script script.length n_script), (1, .slice a_list list.length n_list)]) (by kernel_rfl) ?_
  refine Op.goto 1 (by kernel_rfl) ?_
  refine At.reg (L := [(0, false), (1, false)]) (by kernel_rfl) ?_
  refine Op.call0 (dst := some 13) (f := 25) (args := #[]) (by kernel_rfl) s0 (alive10 _ _ _ s0.sub hG  hP ) ?_
  rintro _ g1003 _ h1001 hle1004 s1002 ⟨rfl, hgg, rfl⟩; subst g1003; clear hle1004
  refine Op.pures 1 [0, 1, 14] (L' := []) (e' := [(0, .slice a_script script.length n_script), (1, .slice a_list list.length n_list), (14, .bool false)]) (by kernel_rfl) ?_
  refine Op.goto 2 (by kernel_rfl) ?_
  refine At.condF (c := .tmp 14) (by kernel_rfl) (by kernel_rfl) (by kernel_rfl) 5 (by kernel_rfl) ?_
  refine At.reg (L := [(0, false), (1, false), (2, false), (3, false), (4, false), (5, false), (6, false)]) (by kernel_rfl) ?_
  refine Op.pures 1 [0, 1, 15] (L' := [(1, false), (2, false), (3, false), (4, false), (5, false), (6, false)]) (e' := [(0, .slice a_script script.length n_script), (1, .slice a_list list.length n_list), (15, .slice a_script script.length n_script)]) (by kernel_rfl) ?_
  refine Op.call0 (dst := some 16) (f := 26) (args := #[.slice a_script script.length n_script]) (by kernel_rfl) s1002 (great10 _ _ _ s1002.sub hG _ _ h_script (by ((try dsimp only) <;> (omega))) (by ((try dsimp only) <;> (omega))) ) ?_
  rintro _ g1007 _ h1005 hle1008 s1006 ⟨rfl, hgg, rfl⟩; subst g1007; clear hle1008
  refine Op.pures 1 [0, 1, 17] (L' := [(3, false), (4, false), (5, false), (6, false)]) (e' := [(0, .slice a_script script.length n_script), (1, .slice a_list list.length n_list), (17, .bool (greatB script))]) (by kernel_rfl) ?_
  refine Op.ways (b := greatB script) ⟨fun hb => ?_, fun hb => ?_⟩
  · refine Op.cast (e' := [(0, .slice a_script script.length n_script), (1, .slice a_list list.length n_list), (17, .bool true)]) (by rw [hb]) ?_
    have c1009 : (greatB script) = true := hb
    clear hb
    refine Op.pures 4 [0, 1, 21] (L' := []) (e' := [(0, .slice a_script script.length n_script), (1, .slice a_list list.length n_list), (21, .bool true)]) (by kernel_rfl) ?_
    refine Op.goto 6 (by kernel_rfl) ?_
    refine At.condT (c := .tmp 21) (by kernel_rfl) (by kernel_rfl) (by kernel_rfl) 7 (by kernel_rfl) ?_
    refine At.reg (L := [(0, false)]) (by kernel_rfl) ?_
    refine Op.pures 1 [4] (L' := []) (e' := [(4, .bool true)]) (by kernel_rfl) ?_
    refine Op.goto 8 (by kernel_rfl) ?_
    refine At.ret (f := Tryz.f12) (v := .bool true) (by kernel_rfl) (by kernel_rfl) ?_
    refine hR _ _ _ _ s1006 ⟨?_, rfl, rfl⟩
    exact (eqB (by rfl))
  · refine Op.cast (e' := [(0, .slice a_script script.length n_script), (1, .slice a_list list.length n_list), (17, .bool false)]) (by rw [hb]) ?_
    have c1010 : (greatB script) = false := hb
    clear hb
    refine Op.pures 4 [0, 1, 21] (L' := []) (e' := [(0, .slice a_script script.length n_script), (1, .slice a_list list.length n_list), (21, .bool (decide ((list.length : Int) > (100 : Int))))]) (by kernel_rfl) ?_
    refine Op.goto 6 (by kernel_rfl) ?_
    refine At.cond (b := decide ((list.length : Int) > (100 : Int))) (c := .tmp 21) (by kernel_rfl) (by kernel_rfl) (by kernel_rfl) 7 9 (by kernel_rfl) (by kernel_rfl) (fun hb => ?_) (fun hb => ?_)
    · have c1011 : (list.length : Int) > (100 : Int) := of_decide_eq_true hb
      clear hb
      refine At.keep [] ?_; show At _ _ _ [] _
      refine At.reg (L := [(0, false)]) (by kernel_rfl) ?_
      refine Op.pures 1 [4] (L' := []) (e' := [(4, .bool true)]) (by kernel_rfl) ?_
      refine Op.goto 8 (by kernel_rfl) ?_
      refine At.ret (f := Tryz.f12) (v := .bool true) (by kernel_rfl) (by kernel_rfl) ?_
      refine hR _ _ _ _ s1006 ⟨?_, rfl, rfl⟩
      exact (eqB (by rfl))
    · have c1012 : ¬ ((list.length : Int) > (100 : Int)) := of_decide_eq_false hb
      clear hb
      refine At.keep [0, 1] ?_; show At _ _ _ [(0, .slice a_script script.length n_script), (1, .slice a_list list.length n_list)] _
      refine At.reg (L := [(0, false)]) (by kernel_rfl) ?_
      refine Op.pures 1 [0, 1, 5] (L' := []) (e' := [(0, .slice a_script script.length n_script), (1, .slice a_list list.length n_list), (5, .int .i64 0)]) (by kernel_rfl) ?_
      refine Op.goto 10 (by kernel_rfl) ?_
      have loop10 : ∀ (m : Nat) (q : Int) (h1013 : Heap) (hm : list.length - q.toNat < m) (h4 : 0 ≤ q) (h5 : q ≤ list.length) (hsz : ∀ n ∈ list.take q.toNat, n.Path.length ≤ 1000 ∧ n.Data.length ≤ 1000)     (s_loop101012 : St h g (ids []) g [] h1013), At (fctx Tryz.prog B 12 Tryz.f12 R) [] 10 [(0, .slice a_script script.length n_script), (1, .slice a_list list.length n_list), (5, .int .i64 q)] h1013 := by
        intro m; induction m with
        | zero => intros; omega
        | succ m ih10 =>
          intro q h1013 hm h4 h5 hsz s_loop101012
          refine At.reg (L := [(0, false), (1, false), (2, false), (3, false)]) (by kernel_rfl) ?_
          refine Op.pures 4 [0, 1, 5, 25] (L' := []) (e' := [(0, .slice a_script script.length n_script), (1, .slice a_list list.length n_list), (5, .int .i64 q), (25, .bool (decide (q < (list.length : Int))))]) (by kernel_rfl) ?_
          refine Op.goto 11 (by kernel_rfl) ?_
          refine At.cond (b := decide (q < (list.length : Int))) (c := .tmp 25) (by kernel_rfl) (by kernel_rfl) (by kernel_rfl) 12 17 (by kernel_rfl) (by kernel_rfl) (fun hb => ?_) (fun hb => ?_)
          · have c1014 : q < (list.length : Int) := of_decide_eq_true hb
            clear hb
            refine At.keep [0, 1, 5] ?_; show At _ _ _ [(0, .slice a_script script.length n_script), (1, .slice a_list list.length n_list), (5, .int .i64 q)] _
            refine At.draw (by kernel_rfl) (fun _ => False) [(0, true), (1, true), (2, true), (3, true), (6, true), (7, true), (8, true), (9, true), (4, true), (5, true), (10, false), (11, true), (12, true), (13, true)] (by kernel_rfl) ?_
            refine Op.pures 2 [0, 1, 5, 28, 29] (L' := [(2, true), (3, true), (6, true), (7, true), (8, true), (9, true), (4, true), (5, true), (10, false), (11, true), (12, true), (13, true)]) (e' := [(0, .slice a_script script.length n_script), (1, .slice a_list list.length n_list), (5, .int .i64 q), (28, .slice a_list list.length n_list), (29, .int .i64 q)]) (by kernel_rfl) ?_
            obtain ⟨x1015, hx1016⟩ : ∃ c, list[(q : Int).toNat]? = some c := ⟨_, List.getElem?_eq_getElem (by omega)⟩
            obtain ⟨b1017, o1018, cu1019, fz1020, ha1021, hb1022, hk1023⟩ := SlR.at_ h_list _ hx1016
            cases ha1021
            refine Op.idx (T := 52) (E := 59) (sz := 6) (by_ := 72) (n := list.length) (c := n_list) (k := .i64) (x := (.tmp 28)) (ix := (.tmp 29)) (dst := 30) (bk := b1017) (o := o1018) (m := q) (by kernel_rfl) (by kernel_rfl) (by kernel_rfl) (by kernel_rfl) (by omega) (by omega) ?_
            obtain ⟨v1024, hv1025, hk1023⟩ := hk1023
            obtain ⟨a1026, n1027, rfl⟩ := hv1025.form
            refine Op.pures 3 [0, 1, 5, 31, 34, 35] (L' := [(8, true), (9, true), (4, true), (5, true), (10, false), (11, true), (12, true), (13, true)]) (e' := [(0, .slice a_script script.length n_script), (1, .slice (some ⟨b1017, o1018, none⟩) list.length n_list), (5, .int .i64 q), (31, .pointer (some ⟨b1017, o1018 + (q : Int).toNat * 6 + 1, none⟩)), (34, .slice (some ⟨b1017, o1018, none⟩) list.length n_list), (35, .int .i64 q)]) (by kernel_rfl) ?_
            obtain ⟨b1030, o1031, cu1032, fz1033, ha1034, hb1035, hk1036⟩ := SlR.at_ h_list _ hx1016
            cases ha1034
            refine Op.idx (T := 52) (E := 59) (sz := 6) (by_ := 72) (n := list.length) (c := n_list) (k := .i64) (x := (.tmp 34)) (ix := (.tmp 35)) (dst := 36) (bk := b1017) (o := o1018) (m := q) (by kernel_rfl) (by kernel_rfl) (by kernel_rfl) (by kernel_rfl) (by omega) (by omega) ?_
            obtain ⟨v1037, hv1038, hk1036⟩ := hk1036
            obtain ⟨a1039, n1040, rfl⟩ := hv1038.form
            refine Op.pures 1 [0, 1, 5, 31, 37] (L' := [(4, true), (5, true), (10, false), (11, true), (12, true), (13, true)]) (e' := [(0, .slice a_script script.length n_script), (1, .slice (some ⟨b1017, o1018, none⟩) list.length n_list), (5, .int .i64 q), (31, .pointer (some ⟨b1017, o1018 + (q : Int).toNat * 6 + 1, none⟩)), (37, .pointer (some ⟨b1017, o1018 + (q : Int).toNat * 6, none⟩))]) (by kernel_rfl) ?_
            refine Op.loadF (T := 29) (x := (.tmp 31)) (o := o1018 + (q : Int).toNat * 6 + 1) (d := 32) (n := 1) (v := .slice a1026 x1015.Data.length n1027) (by kernel_rfl) (by kernel_rfl) (by kernel_rfl) (fun h => h) (s_loop101012.sub _ _ hb1022) (cut_get hk1023 1 rfl) ?_
            refine Op.pures 1 [0, 1, 5, 33, 37] (L' := [(10, false), (11, true), (12, true), (13, true)]) (e' := [(0, .slice a_script script.length n_script), (1, .slice (some ⟨b1017, o1018, none⟩) list.length n_list), (5, .int .i64 q), (33, .int .i64 (x1015.Data.length : Int)), (37, .pointer (some ⟨b1017, o1018 + (q : Int).toNat * 6, none⟩))]) (by kernel_rfl) ?_
            refine Op.load (T := 9) (x := (.tmp 37)) (o := o1018 + (q : Int).toNat * 6) (d := 38) (n := 1) (v := .string (mkS x1015.Path)) (by kernel_rfl) (by kernel_rfl) (by kernel_rfl) (s_loop101012.sub _ _ hb1035) (cut_get hk1036 0 rfl) ?_
            refine Op.pures 1 [0, 1, 5, 33, 39] (L' := [(12, true), (13, true)]) (e' := [(0, .slice a_script script.length n_script), (1, .slice (some ⟨b1017, o1018, none⟩) list.length n_list), (5, .int .i64 q), (33, .int .i64 (x1015.Data.length : Int)), (39, .int .i64 (x1015.Path.length : Int))]) (by kernel_rfl) ?_
            refine Op.val (dst := some 40) (v := .int .i64 (IntKind.wrap .i64 ((x1015.Data.length : Int) + (x1015.Path.length : Int)))) (v' := .int .i64 ((x1015.Data.length : Int) + (x1015.Path.length : Int))) (by kernel_rfl) (wrapEq_i64 (by omega) (by (have hbb := hl2 _ (List.mem_of_getElem? hx1016); omega))) ?_
            refine Op.pures 1 [0, 1, 5, 41] (L' := []) (e' := [(0, .slice a_script script.length n_script), (1, .slice (some ⟨b1017, o1018, none⟩) list.length n_list), (5, .int .i64 q), (41, .bool (decide (((x1015.Data.length : Int) + (x1015.Path.length : Int)) > (1000 : Int))))]) (by kernel_rfl) ?_
            refine Op.goto 13 (by kernel_rfl) ?_
            refine At.cond (b := decide (((x1015.Data.length : Int) + (x1015.Path.length : Int)) > (1000 : Int))) (c := .tmp 41) (by kernel_rfl) (by kernel_rfl) (by kernel_rfl) 14 16 (by kernel_rfl) (by kernel_rfl) (fun hb => ?_) (fun hb => ?_)
            · have c1041 : ((x1015.Data.length : Int) + (x1015.Path.length : Int)) > (1000 : Int) := of_decide_eq_true hb
              clear hb
              refine At.keep [] ?_; show At _ _ _ [] _
              refine At.reg (L := [(0, false)]) (by kernel_rfl) ?_
              refine Op.pures 1 [4] (L' := []) (e' := [(4, .bool true)]) (by kernel_rfl) ?_
              refine Op.goto 15 (by kernel_rfl) ?_
              refine At.ret (f := Tryz.f12) (v := .bool true) (by kernel_rfl) (by kernel_rfl) ?_
              refine hR _ _ _ _ s_loop101012 ⟨?_, rfl, rfl⟩
              exact (eqB (by rfl))
            · have c1042 : ¬ (((x1015.Data.length : Int) + (x1015.Path.length : Int)) > (1000 : Int)) := of_decide_eq_false hb
              clear hb
              refine At.keep [0, 1, 5] ?_; show At _ _ _ [(0, .slice a_script script.length n_script), (1, .slice (some ⟨b1017, o1018, none⟩) list.length n_list), (5, .int .i64 q)] _
              refine At.reg (L := [(0, false), (1, false), (2, false)]) (by kernel_rfl) ?_
              refine Op.pures 1 [0, 1, 5, 26] (L' := [(1, false), (2, false)]) (e' := [(0, .slice a_script script.length n_script), (1, .slice (some ⟨b1017, o1018, none⟩) list.length n_list), (5, .int .i64 q), (26, .int .i64 q)]) (by kernel_rfl) ?_
              refine Op.val (dst := some 27) (v := .int .i64 (IntKind.wrap .i64 (q + 1))) (v' := .int .i64 (q + 1)) (by kernel_rfl) (wrapEq_i64 (by omega) (by omega)) ?_
              refine Op.pures 1 [0, 1, 5] (L' := []) (e' := [(0, .slice a_script script.length n_script), (1, .slice (some ⟨b1017, o1018, none⟩) list.length n_list), (5, .int .i64 (q + 1))]) (by kernel_rfl) ?_
              refine Op.goto 10 (by kernel_rfl) ?_
              exact ih10  (q + 1) _ (by omega) (by omega) (by omega) (by exact sz_step hsz h4 hx1016 (by omega))  s_loop101012
          · have c1043 : ¬ (q < (list.length : Int)) := of_decide_eq_false hb
            clear hb
            refine At.keep [0, 1] ?_; show At _ _ _ [(0, .slice a_script script.length n_script), (1, .slice a_list list.length n_list)] _
            refine At.reg (L := [(0, false), (1, false)]) (by kernel_rfl) ?_
            refine Op.call0 (dst := some 42) (f := 27) (args := #[]) (by kernel_rfl) s_loop101012 (newT _ _ _ s_loop101012.sub hG   ) ?_
            rintro _ g1049 _ h1044 hle1050 s1045 ⟨b1046, c1047, rfl, o1048, hgg, rfl⟩; subst g1049; clear hle1050
            refine Op.pures 1 [0, 1, 6] (L' := []) (e' := [(0, .slice a_script script.length n_script), (1, .slice a_list list.length n_list), (6, .pointer (some ⟨b1046, 0, none⟩))]) (by kernel_rfl) ?_
            refine Op.goto 18 (by kernel_rfl) ?_
            refine At.reg (L := [(0, false), (1, false), (2, false)]) (by kernel_rfl) ?_
            refine Op.call0 (dst := some 43) (f := 42) (args := #[]) (by kernel_rfl) s1045 (newR _ _ _ s1045.sub hG   ) ?_
            rintro _ g1057 _ h1051 hle1058 s1052 ⟨v1053, rfl, hr1054, rfl⟩
            obtain ⟨a1055, n1056, rfl⟩ := hr1054.form
            replace hG := hG.mono hle1058
            replace hP := hP.mono hle1058
            replace h_list := h_list.mono hle1058
            replace h_script := h_script.mono hle1058
            replace o1048 := o1048.mono hle1058
            refine Op.alloc (T := 75) (dst := 7) (cs := #[.slice none 0 0]) (by kernel_rfl) (by kernel_rfl) s1052 ?_
            intro b1059 h1060 s1061
            refine Op.store (T := 75) (x := (.tmp 7)) (y := (.tmp 43)) (b := b1059) (o := 0) (vs := [.slice a1055 (([(⟨[47], [], 0, -1, 0, 0⟩ : Leaf)]).length) n1056]) (a? := true) (n := 1) (by kernel_rfl) (by kernel_rfl) (by kernel_rfl) (by kernel_rfl) rfl (by simp [Value.oneCell']) s1061 0 rfl (Nat.le_of_ble_eq_true (by kernel_rfl)) (cs := #[.slice none 0 0]) (cs' := #[.slice a1055 (([(⟨[47], [], 0, -1, 0, 0⟩ : Leaf)]).length) n1056]) (by kernel_rfl) (fun _ => trivial) ?_
            intro h1062 s1063
            refine Op.goto 19 (by kernel_rfl) ?_
            refine At.reg (L := [(0, false), (1, false)]) (by kernel_rfl) ?_
            refine Op.pures 2 [0, 1, 6, 7, 45] (L' := []) (e' := [(0, .slice a_script script.length n_script), (1, .slice a_list list.length n_list), (6, .pointer (some ⟨b1046, 0, none⟩)), (7, .pointer (some ⟨b1059, 0, none⟩)), (45, .bool false)]) (by kernel_rfl) ?_
            refine Op.goto 20 (by kernel_rfl) ?_
            refine At.condF (c := .tmp 45) (by kernel_rfl) (by kernel_rfl) (by kernel_rfl) 23 (by kernel_rfl) ?_
            refine At.reg (L := [(0, false)]) (by kernel_rfl) ?_
            refine Op.pures 1 [0, 1, 6, 7, 8] (L' := []) (e' := [(0, .slice a_script script.length n_script), (1, .slice a_list list.length n_list), (6, .pointer (some ⟨b1046, 0, none⟩)), (7, .pointer (some ⟨b1059, 0, none⟩)), (8, .int .i64 0)]) (by kernel_rfl) ?_
            refine Op.goto 24 (by kernel_rfl) ?_
            have loop24 : ∀ (m : Nat) (g1070 : GH) (hleg1070 : gle g1057 g1070) (ns : List Leaf) (i : Int) (c1064 : Chunk) (a1066 : Option Addr) (n1067 : Nat) (h1069 : Heap) (hm : script.length - i.toNat < m) (h0 : 0 ≤ i) (h3 : i ≤ script.length) (hT : TreeOk i ns)  (o1065 : IsTree g1070 b1046 ns c1064) (hr1068 : SlR g1070 59 kLeaf (.slice a1066 ((ns).length) n1067) ns)  (s_loop241068 : St h g (ids []) g1070 [[(b1059, Obj.cells #[.slice a1066 ((ns).length) n1067] 75 (0, 0))], c1064] h1069), At (fctx Tryz.prog B 12 Tryz.f12 R) [] 24 [(0, .slice a_script script.length n_script), (1, .slice a_list list.length n_list), (6, .pointer (some ⟨b1046, 0, none⟩)), (7, .pointer (some ⟨b1059, 0, none⟩)), (8, .int .i64 i)] h1069 := by
              intro m; induction m with
              | zero => intros; omega
              | succ m ih24 =>
                intro g1070 hleg1070 ns i c1064 a1066 n1067 h1069 hm h0 h3 hT o1065 hr1068 s_loop241068
                replace hG := hG.mono hleg1070
                replace hP := hP.mono hleg1070
                replace h_list := h_list.mono hleg1070
                replace h_script := h_script.mono hleg1070
                refine At.reg (L := [(0, false), (1, false), (2, false), (3, false)]) (by kernel_rfl) ?_
                refine Op.pures 4 [0, 1, 6, 7, 8, 49] (L' := []) (e' := [(0, .slice a_script script.length n_script), (1, .slice a_list list.length n_list), (6, .pointer (some ⟨b1046, 0, none⟩)), (7, .pointer (some ⟨b1059, 0, none⟩)), (8, .int .i64 i), (49, .bool (decide (i < (script.length : Int))))]) (by kernel_rfl) ?_
                refine Op.goto 25 (by kernel_rfl) ?_
                refine At.cond (b := decide (i < (script.length : Int))) (c := .tmp 49) (by kernel_rfl) (by kernel_rfl) (by kernel_rfl) 26 31 (by kernel_rfl) (by kernel_rfl) (fun hb => ?_) (fun hb => ?_)
                · have c1071 : i < (script.length : Int) := of_decide_eq_true hb
                  clear hb
                  refine At.keep [0, 1, 6, 7, 8] ?_; show At _ _ _ [(0, .slice a_script script.length n_script), (1, .slice a_list list.length n_list), (6, .pointer (some ⟨b1046, 0, none⟩)), (7, .pointer (some ⟨b1059, 0, none⟩)), (8, .int .i64 i)] _
                  refine At.reg (L := [(0, false), (1, false), (2, false), (3, false), (4, false), (5, false)]) (by kernel_rfl) ?_
                  refine Op.pures 2 [0, 1, 6, 7, 8, 52, 53] (L' := [(2, false), (3, false), (4, false), (5, false)]) (e' := [(0, .slice a_script script.length n_script), (1, .slice a_list list.length n_list), (6, .pointer (some ⟨b1046, 0, none⟩)), (7, .pointer (some ⟨b1059, 0, none⟩)), (8, .int .i64 i), (52, .slice a_script script.length n_script), (53, .int .i64 i)]) (by kernel_rfl) ?_
                  obtain ⟨x1072, hx1073⟩ : ∃ c, script[(i : Int).toNat]? = some c := ⟨_, List.getElem?_eq_getElem (by omega)⟩
                  obtain ⟨b1074, o1075, cu1076, fz1077, ha1078, hb1079, hk1080⟩ := SlR.at_ h_script _ hx1073
                  cases ha1078
                  refine Op.idx (T := 43) (E := 49) (sz := 7) (by_ := 80) (n := script.length) (c := n_script) (k := .i64) (x := (.tmp 52)) (ix := (.tmp 53)) (dst := 54) (bk := b1074) (o := o1075) (m := i) (by kernel_rfl) (by kernel_rfl) (by kernel_rfl) (by kernel_rfl) (by omega) (by omega) ?_
                  obtain ⟨v1081, hv1082, hk1080⟩ := hk1080
                  obtain ⟨a1083, n1084, rfl⟩ := hv1082.form
                  refine Op.pures 1 [0, 1, 6, 7, 8, 55] (L' := [(4, false), (5, false)]) (e' := [(0, .slice (some ⟨b1074, o1075, none⟩) script.length n_script), (1, .slice a_list list.length n_list), (6, .pointer (some ⟨b1046, 0, none⟩)), (7, .pointer (some ⟨b1059, 0, none⟩)), (8, .int .i64 i), (55, .pointer (some ⟨b1074, o1075 + (i : Int).toNat * 7, none⟩))]) (by kernel_rfl) ?_
                  refine Op.load (T := 3) (x := (.tmp 55)) (o := o1075 + (i : Int).toNat * 7) (d := 56) (n := 1) (v := .int .i64 x1072.What) (by kernel_rfl) (by kernel_rfl) (by kernel_rfl) (s_loop241068.sub _ _ hb1079) (cut_get hk1080 0 rfl) ?_
                  refine Op.pures 1 [0, 1, 6, 7, 8, 57] (L' := []) (e' := [(0, .slice (some ⟨b1074, o1075, none⟩) script.length n_script), (1, .slice a_list list.length n_list), (6, .pointer (some ⟨b1046, 0, none⟩)), (7, .pointer (some ⟨b1059, 0, none⟩)), (8, .int .i64 i), (57, .bool (x1072.What == (1 : Int)))]) (by kernel_rfl) ?_
                  refine Op.goto 27 (by kernel_rfl) ?_
                  refine At.cond (b := x1072.What == (1 : Int)) (c := .tmp 57) (by kernel_rfl) (by kernel_rfl) (by kernel_rfl) 28 30 (by kernel_rfl) (by kernel_rfl) (fun hb => ?_) (fun hb => ?_)
                  · have c1085 : x1072.What = (1 : Int) := eq_of_beq hb
                    clear hb
                    refine At.keep [0, 1, 6, 7, 8] ?_; show At _ _ _ [(0, .slice (some ⟨b1074, o1075, none⟩) script.length n_script), (1, .slice a_list list.length n_list), (6, .pointer (some ⟨b1046, 0, none⟩)), (7, .pointer (some ⟨b1059, 0, none⟩)), (8, .int .i64 i)] _
                    refine At.draw (by kernel_rfl) (fun _ => False) [(0, true), (1, true), (2, true), (3, true), (4, true), (6, true), (7, true), (8, true), (9, true), (12, true), (13, true), (14, true), (15, true), (17, true), (18, true), (19, true), (20, true), (22, true), (23, true), (24, true), (25, true), (5, true), (10, true), (16, true), (21, true), (26, true), (11, false), (1027, false), (27, false)] (by kernel_rfl) ?_
                    refine Op.pures 3 [0, 1, 6, 7, 8, 58, 59, 60] (L' := [(3, true), (4, true), (6, true), (7, true), (8, true), (9, true), (12, true), (13, true), (14, true), (15, true), (17, true), (18, true), (19, true), (20, true), (22, true), (23, true), (24, true), (25, true), (5, true), (10, true), (16, true), (21, true), (26, true), (11, false), (1027, false), (27, false)]) (e' := [(0, .slice (some ⟨b1074, o1075, none⟩) script.length n_script), (1, .slice a_list list.length n_list), (6, .pointer (some ⟨b1046, 0, none⟩)), (7, .pointer (some ⟨b1059, 0, none⟩)), (8, .int .i64 i), (58, .pointer (some ⟨b1046, 0, none⟩)), (59, .slice (some ⟨b1074, o1075, none⟩) script.length n_script), (60, .int .i64 i)]) (by kernel_rfl) ?_
                    obtain ⟨b1088, o1089, cu1090, fz1091, ha1092, hb1093, hk1094⟩ := SlR.at_ h_script _ hx1073
                    cases ha1092
                    refine Op.idx (T := 43) (E := 49) (sz := 7) (by_ := 80) (n := script.length) (c := n_script) (k := .i64) (x := (.tmp 59)) (ix := (.tmp 60)) (dst := 61) (bk := b1074) (o := o1075) (m := i) (by kernel_rfl) (by kernel_rfl) (by kernel_rfl) (by kernel_rfl) (by omega) (by omega) ?_
                    obtain ⟨v1095, hv1096, hk1094⟩ := hk1094
                    obtain ⟨a1097, n1098, rfl⟩ := hv1096.form
                    refine Op.pures 3 [0, 1, 6, 7, 8, 58, 62, 64, 65] (L' := [(8, true), (9, true), (12, true), (13, true), (14, true), (15, true), (17, true), (18, true), (19, true), (20, true), (22, true), (23, true), (24, true), (25, true), (5, true), (10, true), (16, true), (21, true), (26, true), (11, false), (1027, false), (27, false)]) (e' := [(0, .slice (some ⟨b1074, o1075, none⟩) script.length n_script), (1, .slice a_list list.length n_list), (6, .pointer (some ⟨b1046, 0, none⟩)), (7, .pointer (some ⟨b1059, 0, none⟩)), (8, .int .i64 i), (58, .pointer (some ⟨b1046, 0, none⟩)), (62, .pointer (some ⟨b1074, o1075 + (i : Int).toNat * 7 + 4, none⟩)), (64, .slice (some ⟨b1074, o1075, none⟩) script.length n_script), (65, .int .i64 i)]) (by kernel_rfl) ?_
                    obtain ⟨b1101, o1102, cu1103, fz1104, ha1105, hb1106, hk1107⟩ := SlR.at_ h_script _ hx1073
                    cases ha1105
                    refine Op.idx (T := 43) (E := 49) (sz := 7) (by_ := 80) (n := script.length) (c := n_script) (k := .i64) (x := (.tmp 64)) (ix := (.tmp 65)) (dst := 66) (bk := b1074) (o := o1075) (m := i) (by kernel_rfl) (by kernel_rfl) (by kernel_rfl) (by kernel_rfl) (by omega) (by omega) ?_
                    obtain ⟨v1108, hv1109, hk1107⟩ := hk1107
                    obtain ⟨a1110, n1111, rfl⟩ := hv1109.form
                    refine Op.pures 3 [0, 1, 6, 7, 8, 58, 62, 67, 70, 71] (L' := [(14, true), (15, true), (17, true), (18, true), (19, true), (20, true), (22, true), (23, true), (24, true), (25, true), (5, true), (10, true), (16, true), (21, true), (26, true), (11, false), (1027, false), (27, false)]) (e' := [(0, .slice (some ⟨b1074, o1075, none⟩) script.length n_script), (1, .slice a_list list.length n_list), (6, .pointer (some ⟨b1046, 0, none⟩)), (7, .pointer (some ⟨b1059, 0, none⟩)), (8, .int .i64 i), (58, .pointer (some ⟨b1046, 0, none⟩)), (62, .pointer (some ⟨b1074, o1075 + (i : Int).toNat * 7 + 4, none⟩)), (67, .pointer (some ⟨b1074, o1075 + (i : Int).toNat * 7 + 5, none⟩)), (70, .slice (some ⟨b1074, o1075, none⟩) script.length n_script), (71, .int .i64 i)]) (by kernel_rfl) ?_
                    obtain ⟨b1114, o1115, cu1116, fz1117, ha1118, hb1119, hk1120⟩ := SlR.at_ h_script _ hx1073
                    cases ha1118
                    refine Op.idx (T := 43) (E := 49) (sz := 7) (by_ := 80) (n := script.length) (c := n_script) (k := .i64) (x := (.tmp 70)) (ix := (.tmp 71)) (dst := 72) (bk := b1074) (o := o1075) (m := i) (by kernel_rfl) (by kernel_rfl) (by kernel_rfl) (by kernel_rfl) (by omega) (by omega) ?_
                    obtain ⟨v1121, hv1122, hk1120⟩ := hk1120
                    obtain ⟨a1123, n1124, rfl⟩ := hv1122.form
                    refine Op.pures 3 [0, 1, 6, 7, 8, 58, 62, 67, 73, 75, 76] (L' := [(19, true), (20, true), (22, true), (23, true), (24, true), (25, true), (5, true), (10, true), (16, true), (21, true), (26, true), (11, false), (1027, false), (27, false)]) (e' := [(0, .slice (some ⟨b1074, o1075, none⟩) script.length n_script), (1, .slice a_list list.length n_list), (6, .pointer (some ⟨b1046, 0, none⟩)), (7, .pointer (some ⟨b1059, 0, none⟩)), (8, .int .i64 i), (58, .pointer (some ⟨b1046, 0, none⟩)), (62, .pointer (some ⟨b1074, o1075 + (i : Int).toNat * 7 + 4, none⟩)), (67, .pointer (some ⟨b1074, o1075 + (i : Int).toNat * 7 + 5, none⟩)), (73, .pointer (some ⟨b1074, o1075 + (i : Int).toNat * 7 + 1, none⟩)), (75, .slice (some ⟨b1074, o1075, none⟩) script.length n_script), (76, .int .i64 i)]) (by kernel_rfl) ?_
                    obtain ⟨b1127, o1128, cu1129, fz1130, ha1131, hb1132, hk1133⟩ := SlR.at_ h_script _ hx1073
                    cases ha1131
                    refine Op.idx (T := 43) (E := 49) (sz := 7) (by_ := 80) (n := script.length) (c := n_script) (k := .i64) (x := (.tmp 75)) (ix := (.tmp 76)) (dst := 77) (bk := b1074) (o := o1075) (m := i) (by kernel_rfl) (by kernel_rfl) (by kernel_rfl) (by kernel_rfl) (by omega) (by omega) ?_
                    obtain ⟨v1134, hv1135, hk1133⟩ := hk1133
                    obtain ⟨a1136, n1137, rfl⟩ := hv1135.form
                    refine Op.pures 3 [0, 1, 6, 7, 8, 58, 62, 67, 73, 78, 80, 81] (L' := [(24, true), (25, true), (5, true), (10, true), (16, true), (21, true), (26, true), (11, false), (1027, false), (27, false)]) (e' := [(0, .slice (some ⟨b1074, o1075, none⟩) script.length n_script), (1, .slice a_list list.length n_list), (6, .pointer (some ⟨b1046, 0, none⟩)), (7, .pointer (some ⟨b1059, 0, none⟩)), (8, .int .i64 i), (58, .pointer (some ⟨b1046, 0, none⟩)), (62, .pointer (some ⟨b1074, o1075 + (i : Int).toNat * 7 + 4, none⟩)), (67, .pointer (some ⟨b1074, o1075 + (i : Int).toNat * 7 + 5, none⟩)), (73, .pointer (some ⟨b1074, o1075 + (i : Int).toNat * 7 + 1, none⟩)), (78, .pointer (some ⟨b1074, o1075 + (i : Int).toNat * 7 + 2, none⟩)), (80, .slice (some ⟨b1074, o1075, none⟩) script.length n_script), (81, .int .i64 i)]) (by kernel_rfl) ?_
                    obtain ⟨b1140, o1141, cu1142, fz1143, ha1144, hb1145, hk1146⟩ := SlR.at_ h_script _ hx1073
                    cases ha1144
                    refine Op.idx (T := 43) (E := 49) (sz := 7) (by_ := 80) (n := script.length) (c := n_script) (k := .i64) (x := (.tmp 80)) (ix := (.tmp 81)) (dst := 82) (bk := b1074) (o := o1075) (m := i) (by kernel_rfl) (by kernel_rfl) (by kernel_rfl) (by kernel_rfl) (by omega) (by omega) ?_
                    obtain ⟨v1147, hv1148, hk1146⟩ := hk1146
                    obtain ⟨a1149, n1150, rfl⟩ := hv1148.form
                    refine Op.pures 1 [0, 1, 6, 7, 8, 58, 62, 67, 73, 78, 83] (L' := [(5, true), (10, true), (16, true), (21, true), (26, true), (11, false), (1027, false), (27, false)]) (e' := [(0, .slice (some ⟨b1074, o1075, none⟩) script.length n_script), (1, .slice a_list list.length n_list), (6, .pointer (some ⟨b1046, 0, none⟩)), (7, .pointer (some ⟨b1059, 0, none⟩)), (8, .int .i64 i), (58, .pointer (some ⟨b1046, 0, none⟩)), (62, .pointer (some ⟨b1074, o1075 + (i : Int).toNat * 7 + 4, none⟩)), (67, .pointer (some ⟨b1074, o1075 + (i : Int).toNat * 7 + 5, none⟩)), (73, .pointer (some ⟨b1074, o1075 + (i : Int).toNat * 7 + 1, none⟩)), (78, .pointer (some ⟨b1074, o1075 + (i : Int).toNat * 7 + 2, none⟩)), (83, .pointer (some ⟨b1074, o1075 + (i : Int).toNat * 7 + 6, none⟩))]) (by kernel_rfl) ?_
                    refine Op.loadF (T := 9) (x := (.tmp 62)) (o := o1075 + (i : Int).toNat * 7 + 4) (d := 63) (n := 1) (v := .string (mkS x1072.Path)) (by kernel_rfl) (by kernel_rfl) (by kernel_rfl) (fun h => h) (s_loop241068.sub _ _ hb1093) (cut_get hk1094 4 rfl) ?_
                    refine Op.loadF (T := 29) (x := (.tmp 67)) (o := o1075 + (i : Int).toNat * 7 + 5) (d := 68) (n := 1) (v := .slice a1110 x1072.Data.length n1111) (by kernel_rfl) (by kernel_rfl) (by kernel_rfl) (fun h => h) (s_loop241068.sub _ _ hb1106) (cut_get hk1107 5 rfl) ?_
                    refine Op.loadF (T := 3) (x := (.tmp 73)) (o := o1075 + (i : Int).toNat * 7 + 1) (d := 74) (n := 1) (v := .int .i64 x1072.Owner) (by kernel_rfl) (by kernel_rfl) (by kernel_rfl) (fun h => h) (s_loop241068.sub _ _ hb1119) (cut_get hk1120 1 rfl) ?_
                    refine Op.loadF (T := 3) (x := (.tmp 78)) (o := o1075 + (i : Int).toNat * 7 + 2) (d := 79) (n := 1) (v := .int .i64 x1072.Born) (by kernel_rfl) (by kernel_rfl) (by kernel_rfl) (fun h => h) (s_loop241068.sub _ _ hb1132) (cut_get hk1133 2 rfl) ?_
                    refine Op.loadF (T := 4) (x := (.tmp 83)) (o := o1075 + (i : Int).toNat * 7 + 6) (d := 84) (n := 1) (v := .bool x1072.Numbered) (by kernel_rfl) (by kernel_rfl) (by kernel_rfl) (fun h => h) (s_loop241068.sub _ _ hb1145) (cut_get hk1146 6 rfl) ?_
                    refine Op.call0 (dst := some 69) (f := 29) (args := #[.slice a1110 x1072.Data.length n1111]) (by kernel_rfl) s_loop241068 (copyBytes _ _ _ s_loop241068.sub hG _ _ hv1109 (by ((try dsimp only) <;> ((have hbb := hb _ (List.mem_of_getElem? hx1073); omega)))) ) ?_
                    rintro _ g1158 _ h1151 hle1159 s1152 ⟨v1153, ch1154, rfl, R1155, hgg, rfl⟩; subst g1158; clear hle1159
                    obtain ⟨a1156, n1157, rfl⟩ := R1155.form
                    refine Op.barrier (by kernel_rfl) ?_
                    have s1160 : St h g (ids []) g1070 [ch1154, c1064, [(b1059, Obj.cells #[.slice a1066 ((ns).length) n1067] 75 (0, 0))]] h1151 := (((s1152.front 1 rfl).front 2 rfl).front 2 rfl)
                    have hl1161 := s1160.frzle
                    have hz1162 := R1155.frz s1160
                    refine Op.lend (dst := some 85) (f := 28) (args := #[.pointer (some ⟨b1046, 0, none⟩), .string (mkS x1072.Path), .slice a1156 ((x1072.Data).length) n1157, .int .i64 x1072.Owner, .int .i64 x1072.Born, .bool x1072.Numbered]) (cf := (ch1154 : Chunk)) (Lc := [c1064]) (L := [[(b1059, Obj.cells #[.slice a1066 ((ns).length) n1067] 75 (0, 0))]]) (by kernel_rfl) s1160 (makeF _ _ _ s1160.frzsub (hG.mono hl1161) b1046 ns _ (o1065.mono hl1161) x1072.Path _ _ hz1162 x1072.Owner x1072.Born x1072.Numbered (hP.mono hl1161) (by ((try dsimp only) <;> (exact hT.b (by have hsm := (small (by assumption)).1; omega)))) (by ((try dsimp only) <;> ((have hbb := hb _ (List.mem_of_getElem? hx1073); omega)))) (by ((try dsimp only) <;> ((have hbb := hb _ (List.mem_of_getElem? hx1073); omega)))) (St.part (Lc := [c1064]) (L := [[(b1059, Obj.cells #[.slice a1066 ((ns).length) n1067] 75 (0, 0))]]) s1160.freeze.1)) (fun _ _ _ hp => by obtain ⟨_, _, _, hgg, _⟩ := hp; exact hgg) (fun _ _ _ => trivial) ?_
                    rintro _ _ h1163 s1164 ⟨c1165, rfl, o1166, hgg, rfl⟩; clear hgg
                    replace o1166 := o1166.flat (g' := g1070)
                    refine Op.goto 29 (by kernel_rfl) ?_
                    refine At.draw (by kernel_rfl) (fun _ => False) [(1, true), (2, true), (3, true), (4, true), (6, true), (7, true), (8, true), (9, true), (11, true), (12, true), (13, true), (14, true), (16, true), (17, true), (18, true), (19, true), (21, true), (22, true), (23, true), (24, true), (0, true), (5, true), (10, true), (15, true), (20, true), (25, false), (26, false), (27, true), (28, true), (29, true), (30, true), (1031, false), (31, false)] (by kernel_rfl) ?_
                    refine Op.pures 2 [0, 1, 6, 7, 8, 88, 89] (L' := [(3, true), (4, true), (6, true), (7, true), (8, true), (9, true), (11, true), (12, true), (13, true), (14, true), (16, true), (17, true), (18, true), (19, true), (21, true), (22, true), (23, true), (24, true), (0, true), (5, true), (10, true), (15, true), (20, true), (25, false), (26, false), (27, true), (28, true), (29, true), (30, true), (1031, false), (31, false)]) (e' := [(0, .slice (some ⟨b1074, o1075, none⟩) script.length n_script), (1, .slice a_list list.length n_list), (6, .pointer (some ⟨b1046, 0, none⟩)), (7, .pointer (some ⟨b1059, 0, none⟩)), (8, .int .i64 i), (88, .slice (some ⟨b1074, o1075, none⟩) script.length n_script), (89, .int .i64 i)]) (by kernel_rfl) ?_
                    obtain ⟨b1171, o1172, cu1173, fz1174, ha1175, hb1176, hk1177⟩ := SlR.at_ h_script _ hx1073
                    cases ha1175
                    refine Op.idx (T := 43) (E := 49) (sz := 7) (by_ := 80) (n := script.length) (c := n_script) (k := .i64) (x := (.tmp 88)) (ix := (.tmp 89)) (dst := 90) (bk := b1074) (o := o1075) (m := i) (by kernel_rfl) (by kernel_rfl) (by kernel_rfl) (by kernel_rfl) (by omega) (by omega) ?_
                    obtain ⟨v1178, hv1179, hk1177⟩ := hk1177
                    obtain ⟨a1180, n1181, rfl⟩ := hv1179.form
                    refine Op.pures 3 [0, 1, 6, 7, 8, 91, 93, 94] (L' := [(8, true), (9, true), (11, true), (12, true), (13, true), (14, true), (16, true), (17, true), (18, true), (19, true), (21, true), (22, true), (23, true), (24, true), (0, true), (5, true), (10, true), (15, true), (20, true), (25, false), (26, false), (27, true), (28, true), (29, true), (30, true), (1031, false), (31, false)]) (e' := [(0, .slice (some ⟨b1074, o1075, none⟩) script.length n_script), (1, .slice a_list list.length n_list), (6, .pointer (some ⟨b1046, 0, none⟩)), (7, .pointer (some ⟨b1059, 0, none⟩)), (8, .int .i64 i), (91, .pointer (some ⟨b1074, o1075 + (i : Int).toNat * 7 + 4, none⟩)), (93, .slice (some ⟨b1074, o1075, none⟩) script.length n_script), (94, .int .i64 i)]) (by kernel_rfl) ?_
                    obtain ⟨b1184, o1185, cu1186, fz1187, ha1188, hb1189, hk1190⟩ := SlR.at_ h_script _ hx1073
                    cases ha1188
                    refine Op.idx (T := 43) (E := 49) (sz := 7) (by_ := 80) (n := script.length) (c := n_script) (k := .i64) (x := (.tmp 93)) (ix := (.tmp 94)) (dst := 95) (bk := b1074) (o := o1075) (m := i) (by kernel_rfl) (by kernel_rfl) (by kernel_rfl) (by kernel_rfl) (by omega) (by omega) ?_
                    obtain ⟨v1191, hv1192, hk1190⟩ := hk1190
                    obtain ⟨a1193, n1194, rfl⟩ := hv1192.form
                    refine Op.pures 3 [0, 1, 6, 7, 8, 91, 96, 98, 99] (L' := [(13, true), (14, true), (16, true), (17, true), (18, true), (19, true), (21, true), (22, true), (23, true), (24, true), (0, true), (5, true), (10, true), (15, true), (20, true), (25, false), (26, false), (27, true), (28, true), (29, true), (30, true), (1031, false), (31, false)]) (e' := [(0, .slice (some ⟨b1074, o1075, none⟩) script.length n_script), (1, .slice a_list list.length n_list), (6, .pointer (some ⟨b1046, 0, none⟩)), (7, .pointer (some ⟨b1059, 0, none⟩)), (8, .int .i64 i), (91, .pointer (some ⟨b1074, o1075 + (i : Int).toNat * 7 + 4, none⟩)), (96, .pointer (some ⟨b1074, o1075 + (i : Int).toNat * 7 + 5, none⟩)), (98, .slice (some ⟨b1074, o1075, none⟩) script.length n_script), (99, .int .i64 i)]) (by kernel_rfl) ?_
                    obtain ⟨b1197, o1198, cu1199, fz1200, ha1201, hb1202, hk1203⟩ := SlR.at_ h_script _ hx1073
                    cases ha1201
                    refine Op.idx (T := 43) (E := 49) (sz := 7) (by_ := 80) (n := script.length) (c := n_script) (k := .i64) (x := (.tmp 98)) (ix := (.tmp 99)) (dst := 100) (bk := b1074) (o := o1075) (m := i) (by kernel_rfl) (by kernel_rfl) (by kernel_rfl) (by kernel_rfl) (by omega) (by omega) ?_
                    obtain ⟨v1204, hv1205, hk1203⟩ := hk1203
                    obtain ⟨a1206, n1207, rfl⟩ := hv1205.form
                    refine Op.pures 3 [0, 1, 6, 7, 8, 91, 96, 101, 103, 104] (L' := [(18, true), (19, true), (21, true), (22, true), (23, true), (24, true), (0, true), (5, true), (10, true), (15, true), (20, true), (25, false), (26, false), (27, true), (28, true), (29, true), (30, true), (1031, false), (31, false)]) (e' := [(0, .slice (some ⟨b1074, o1075, none⟩) script.length n_script), (1, .slice a_list list.length n_list), (6, .pointer (some ⟨b1046, 0, none⟩)), (7, .pointer (some ⟨b1059, 0, none⟩)), (8, .int .i64 i), (91, .pointer (some ⟨b1074, o1075 + (i : Int).toNat * 7 + 4, none⟩)), (96, .pointer (some ⟨b1074, o1075 + (i : Int).toNat * 7 + 5, none⟩)), (101, .pointer (some ⟨b1074, o1075 + (i : Int).toNat * 7 + 1, none⟩)), (103, .slice (some ⟨b1074, o1075, none⟩) script.length n_script), (104, .int .i64 i)]) (by kernel_rfl) ?_
                    obtain ⟨b1210, o1211, cu1212, fz1213, ha1214, hb1215, hk1216⟩ := SlR.at_ h_script _ hx1073
                    cases ha1214
                    refine Op.idx (T := 43) (E := 49) (sz := 7) (by_ := 80) (n := script.length) (c := n_script) (k := .i64) (x := (.tmp 103)) (ix := (.tmp 104)) (dst := 105) (bk := b1074) (o := o1075) (m := i) (by kernel_rfl) (by kernel_rfl) (by kernel_rfl) (by kernel_rfl) (by omega) (by omega) ?_
                    obtain ⟨v1217, hv1218, hk1216⟩ := hk1216
                    obtain ⟨a1219, n1220, rfl⟩ := hv1218.form
                    refine Op.pures 3 [0, 1, 6, 7, 8, 91, 96, 101, 106, 108, 109] (L' := [(23, true), (24, true), (0, true), (5, true), (10, true), (15, true), (20, true), (25, false), (26, false), (27, true), (28, true), (29, true), (30, true), (1031, false), (31, false)]) (e' := [(0, .slice (some ⟨b1074, o1075, none⟩) script.length n_script), (1, .slice a_list list.length n_list), (6, .pointer (some ⟨b1046, 0, none⟩)), (7, .pointer (some ⟨b1059, 0, none⟩)), (8, .int .i64 i), (91, .pointer (some ⟨b1074, o1075 + (i : Int).toNat * 7 + 4, none⟩)), (96, .pointer (some ⟨b1074, o1075 + (i : Int).toNat * 7 + 5, none⟩)), (101, .pointer (some ⟨b1074, o1075 + (i : Int).toNat * 7 + 1, none⟩)), (106, .pointer (some ⟨b1074, o1075 + (i : Int).toNat * 7 + 2, none⟩)), (108, .slice (some ⟨b1074, o1075, none⟩) script.length n_script), (109, .int .i64 i)]) (by kernel_rfl) ?_
                    obtain ⟨b1223, o1224, cu1225, fz1226, ha1227, hb1228, hk1229⟩ := SlR.at_ h_script _ hx1073
                    cases ha1227
                    refine Op.idx (T := 43) (E := 49) (sz := 7) (by_ := 80) (n := script.length) (c := n_script) (k := .i64) (x := (.tmp 108)) (ix := (.tmp 109)) (dst := 110) (bk := b1074) (o := o1075) (m := i) (by kernel_rfl) (by kernel_rfl) (by kernel_rfl) (by kernel_rfl) (by omega) (by omega) ?_
                    obtain ⟨v1230, hv1231, hk1229⟩ := hk1229
                    obtain ⟨a1232, n1233, rfl⟩ := hv1231.form
                    refine Op.pures 1 [0, 1, 6, 7, 8, 91, 96, 101, 106, 111] (L' := [(0, true), (5, true), (10, true), (15, true), (20, true), (25, false), (26, false), (27, true), (28, true), (29, true), (30, true), (1031, false), (31, false)]) (e' := [(0, .slice (some ⟨b1074, o1075, none⟩) script.length n_script), (1, .slice a_list list.length n_list), (6, .pointer (some ⟨b1046, 0, none⟩)), (7, .pointer (some ⟨b1059, 0, none⟩)), (8, .int .i64 i), (91, .pointer (some ⟨b1074, o1075 + (i : Int).toNat * 7 + 4, none⟩)), (96, .pointer (some ⟨b1074, o1075 + (i : Int).toNat * 7 + 5, none⟩)), (101, .pointer (some ⟨b1074, o1075 + (i : Int).toNat * 7 + 1, none⟩)), (106, .pointer (some ⟨b1074, o1075 + (i : Int).toNat * 7 + 2, none⟩)), (111, .pointer (some ⟨b1074, o1075 + (i : Int).toNat * 7 + 6, none⟩))]) (by kernel_rfl) ?_
                    refine Op.loadAF (T := 75) (x := (.tmp 7)) (o := 0) (d := 87) (n := 1) (vs := [.slice a1066 ((ns).length) n1067]) (by kernel_rfl) (by kernel_rfl) (by kernel_rfl) (fun h => h) (s1164.chunk 2 rfl) (by kernel_rfl) rfl ?_
                    refine Op.loadF (T := 9) (x := (.tmp 91)) (o := o1075 + (i : Int).toNat * 7 + 4) (d := 92) (n := 1) (v := .string (mkS x1072.Path)) (by kernel_rfl) (by kernel_rfl) (by kernel_rfl) (fun h => h) (s1164.sub _ _ hb1176) (cut_get hk1177 4 rfl) ?_
                    refine Op.loadF (T := 29) (x := (.tmp 96)) (o := o1075 + (i : Int).toNat * 7 + 5) (d := 97) (n := 1) (v := .slice a1193 x1072.Data.length n1194) (by kernel_rfl) (by kernel_rfl) (by kernel_rfl) (fun h => h) (s1164.sub _ _ hb1189) (cut_get hk1190 5 rfl) ?_
                    refine Op.loadF (T := 3) (x := (.tmp 101)) (o := o1075 + (i : Int).toNat * 7 + 1) (d := 102) (n := 1) (v := .int .i64 x1072.Owner) (by kernel_rfl) (by kernel_rfl) (by kernel_rfl) (fun h => h) (s1164.sub _ _ hb1202) (cut_get hk1203 1 rfl) ?_
                    refine Op.loadF (T := 3) (x := (.tmp 106)) (o := o1075 + (i : Int).toNat * 7 + 2) (d := 107) (n := 1) (v := .int .i64 x1072.Born) (by kernel_rfl) (by kernel_rfl) (by kernel_rfl) (fun h => h) (s1164.sub _ _ hb1215) (cut_get hk1216 2 rfl) ?_
                    refine Op.load (T := 4) (x := (.tmp 111)) (o := o1075 + (i : Int).toNat * 7 + 6) (d := 112) (n := 1) (v := .bool x1072.Numbered) (by kernel_rfl) (by kernel_rfl) (by kernel_rfl) (s1164.sub _ _ hb1228) (cut_get hk1229 6 rfl) ?_
                    refine Op.call0 (dst := some 113) (f := 44) (args := #[.agg #[.slice a1066 ((ns).length) n1067], .string (mkS x1072.Path), .slice a1193 x1072.Data.length n1194, .int .i64 x1072.Owner, .int .i64 x1072.Born, .bool x1072.Numbered]) (by kernel_rfl) s1164 (makeR _ _ _ s1164.sub hG (⟨ns⟩ : R10Tree) _ hr1068 x1072.Path _ _ hv1192 x1072.Owner x1072.Born x1072.Numbered (by ((try dsimp only) <;> (exact hT.b (by have hsm := (small (by assumption)).1; omega)))) (by ((try dsimp only) <;> ((have hbb := hb _ (List.mem_of_getElem? hx1073); omega)))) (by ((try dsimp only) <;> ((have hbb := hb _ (List.mem_of_getElem? hx1073); omega)))) ) ?_
                    rintro _ g1240 _ h1234 hle1241 s1235 ⟨v1236, rfl, hr1237, rfl⟩
                    obtain ⟨a1238, n1239, rfl⟩ := hr1237.form
                    replace hb1176 := hle1241 _ _ hb1176
                    replace hb1189 := hle1241 _ _ hb1189
                    replace hb1202 := hle1241 _ _ hb1202
                    replace hb1215 := hle1241 _ _ hb1215
                    replace hb1228 := hle1241 _ _ hb1228
                    replace R1155 := R1155.mono hle1241
                    replace hG := hG.mono hle1241
                    replace hP := hP.mono hle1241
                    replace h_list := h_list.mono hle1241
                    replace h_script := h_script.mono hle1241
                    replace hr1068 := hr1068.mono hle1241
                    replace hv1192 := hv1192.mono hle1241
                    replace o1166 := o1166.mono hle1241
                    refine Op.pures 4 [0, 1, 6, 7, 8, 114] (L' := [(1031, false), (31, false)]) (e' := [(0, .slice (some ⟨b1074, o1075, none⟩) script.length n_script), (1, .slice a_list list.length n_list), (6, .pointer (some ⟨b1046, 0, none⟩)), (7, .pointer (some ⟨b1059, 0, none⟩)), (8, .int .i64 i), (114, .agg #[.slice a1238 ((((makeT ns x1072.Path x1072.Data x1072.Owner x1072.Born x1072.Numbered).1)).length) n1239])]) (by kernel_rfl) ?_
                    refine Op.barrier (by kernel_rfl) ?_
                    refine Op.store (T := 75) (x := (.tmp 7)) (y := (.tmp 114)) (b := b1059) (o := 0) (vs := [.slice a1238 ((((makeT ns x1072.Path x1072.Data x1072.Owner x1072.Born x1072.Numbered).1)).length) n1239]) (a? := true) (n := 1) (by kernel_rfl) (by kernel_rfl) (by kernel_rfl) (by kernel_rfl) rfl (by simp [Value.oneCell']) s1235 2 rfl (Nat.le_of_ble_eq_true (by kernel_rfl)) (cs := #[.slice a1066 ((ns).length) n1067]) (cs' := #[.slice a1238 ((((makeT ns x1072.Path x1072.Data x1072.Owner x1072.Born x1072.Numbered).1)).length) n1239]) (by kernel_rfl) (fun _ => trivial) ?_
                    intro h1242 s1243
                    refine Op.goto 30 (by kernel_rfl) ?_
                    refine At.reg (L := [(0, false), (1, false), (2, false)]) (by kernel_rfl) ?_
                    refine Op.pures 1 [0, 1, 6, 7, 8, 50] (L' := [(1, false), (2, false)]) (e' := [(0, .slice (some ⟨b1074, o1075, none⟩) script.length n_script), (1, .slice a_list list.length n_list), (6, .pointer (some ⟨b1046, 0, none⟩)), (7, .pointer (some ⟨b1059, 0, none⟩)), (8, .int .i64 i), (50, .int .i64 i)]) (by kernel_rfl) ?_
                    refine Op.val (dst := some 51) (v := .int .i64 (IntKind.wrap .i64 (i + 1))) (v' := .int .i64 (i + 1)) (by kernel_rfl) (wrapEq_i64 (by omega) (by omega)) ?_
                    refine Op.pures 1 [0, 1, 6, 7, 8] (L' := []) (e' := [(0, .slice (some ⟨b1074, o1075, none⟩) script.length n_script), (1, .slice a_list list.length n_list), (6, .pointer (some ⟨b1046, 0, none⟩)), (7, .pointer (some ⟨b1059, 0, none⟩)), (8, .int .i64 (i + 1))]) (by kernel_rfl) ?_
                    refine Op.goto 24 (by kernel_rfl) ?_
                    have s1244 : St h g (ids []) g1240 [ch1154, [(b1059, Obj.cells #[.slice a1238 ((((makeT ns x1072.Path x1072.Data x1072.Owner x1072.Born x1072.Numbered).1)).length) n1239] 75 (0, 0))], c1165] h1242 := (((s1243.front 1 rfl).front 2 rfl).front 2 rfl)
                    have s1245 : St h g (ids []) g1240 [[(b1059, Obj.cells #[.slice a1238 ((((makeT ns x1072.Path x1072.Data x1072.Owner x1072.Born x1072.Numbered).1)).length) n1239] 75 (0, 0))], c1165] h1242 := (s1244).drop
                    exact ih24 _ (gle.trans hleg1070 (by repeat (first | assumption | apply gle.trans))) ((makeT ns x1072.Path x1072.Data x1072.Owner x1072.Born x1072.Numbered).1) (i + 1) _ _ _ _ (by omega) (by omega) (by omega) (by exact hT.make (by have hsm := (small (by assumption)).1; omega) h0) o1166 (slEq hr1237 (by rfl)) s1245
                  · have c1246 : ¬ (x1072.What = (1 : Int)) := neF hb
                    clear hb
                    refine At.keep [0, 1, 6, 7, 8] ?_; show At _ _ _ [(0, .slice (some ⟨b1074, o1075, none⟩) script.length n_script), (1, .slice a_list list.length n_list), (6, .pointer (some ⟨b1046, 0, none⟩)), (7, .pointer (some ⟨b1059, 0, none⟩)), (8, .int .i64 i)] _
                    refine At.reg (L := [(0, false), (1, false), (2, false)]) (by kernel_rfl) ?_
                    refine Op.pures 1 [0, 1, 6, 7, 8, 50] (L' := [(1, false), (2, false)]) (e' := [(0, .slice (some ⟨b1074, o1075, none⟩) script.length n_script), (1, .slice a_list list.length n_list), (6, .pointer (some ⟨b1046, 0, none⟩)), (7, .pointer (some ⟨b1059, 0, none⟩)), (8, .int .i64 i), (50, .int .i64 i)]) (by kernel_rfl) ?_
                    refine Op.val (dst := some 51) (v := .int .i64 (IntKind.wrap .i64 (i + 1))) (v' := .int .i64 (i + 1)) (by kernel_rfl) (wrapEq_i64 (by omega) (by omega)) ?_
                    refine Op.pures 1 [0, 1, 6, 7, 8] (L' := []) (e' := [(0, .slice (some ⟨b1074, o1075, none⟩) script.length n_script), (1, .slice a_list list.length n_list), (6, .pointer (some ⟨b1046, 0, none⟩)), (7, .pointer (some ⟨b1059, 0, none⟩)), (8, .int .i64 (i + 1))]) (by kernel_rfl) ?_
                    refine Op.goto 24 (by kernel_rfl) ?_
                    exact ih24 _ hleg1070 ns (i + 1) _ _ _ _ (by omega) (by omega) (by omega) (by exact hT.mono (by omega)) o1065 (slEq hr1068 (by rfl)) s_loop241068
                · have c1247 : ¬ (i < (script.length : Int)) := of_decide_eq_false hb
                  clear hb
                  refine At.keep [1, 6, 7] ?_; show At _ _ _ [(1, .slice a_list list.length n_list), (6, .pointer (some ⟨b1046, 0, none⟩)), (7, .pointer (some ⟨b1059, 0, none⟩))] _
                  refine At.reg (L := [(0, false), (1, false), (2, false)]) (by kernel_rfl) ?_
                  refine Op.pures 1 [1, 6, 7, 117] (L' := [(1, false), (2, false)]) (e' := [(1, .slice a_list list.length n_list), (6, .pointer (some ⟨b1046, 0, none⟩)), (7, .pointer (some ⟨b1059, 0, none⟩)), (117, .slice a_list list.length n_list)]) (by kernel_rfl) ?_
                  refine Op.call0 (dst := some 118) (f := 51) (args := #[.slice a_list list.length n_list]) (by kernel_rfl) s_loop241068 (copyLeaves _ _ _ s_loop241068.sub hG _ _ h_list (by ((try dsimp only) <;> (omega))) (by ((try dsimp only) <;> ((intro n hn; have hs9 := hl2 n hn; omega)))) ) ?_
                  rintro _ g1254 _ h1248 hle1255 s1249 ⟨v1250, rfl, hr1251, rfl⟩
                  obtain ⟨a1252, n1253, rfl⟩ := hr1251.form
                  replace hG := hG.mono hle1255
                  replace hP := hP.mono hle1255
                  replace h_list := h_list.mono hle1255
                  replace hr1068 := hr1068.mono hle1255
                  replace o1065 := o1065.mono hle1255
                  refine Op.pures 1 [1, 6, 7, 9] (L' := []) (e' := [(1, .slice a_list list.length n_list), (6, .pointer (some ⟨b1046, 0, none⟩)), (7, .pointer (some ⟨b1059, 0, none⟩)), (9, .slice a1252 ((list).length) n1253)]) (by kernel_rfl) ?_
                  refine Op.goto 32 (by kernel_rfl) ?_
                  refine At.reg (L := [(0, false), (1, false), (2, false), (3, false)]) (by kernel_rfl) ?_
                  refine Op.pures 2 [1, 6, 7, 9, 119, 120] (L' := [(2, false), (3, false)]) (e' := [(1, .slice a_list list.length n_list), (6, .pointer (some ⟨b1046, 0, none⟩)), (7, .pointer (some ⟨b1059, 0, none⟩)), (9, .slice a1252 ((list).length) n1253), (119, .pointer (some ⟨b1046, 0, none⟩)), (120, .slice a1252 ((list).length) n1253)]) (by kernel_rfl) ?_
                  have s1256 : St h g (ids []) g1254 [c1064, [(b1059, Obj.cells #[.slice a1066 ((ns).length) n1067] 75 (0, 0))]] h1248 := ((s1249.front 0 rfl).front 1 rfl)
                  refine Op.call (dst := some 121) (f := 52) (args := #[.pointer (some ⟨b1046, 0, none⟩), .slice a1252 ((list).length) n1253]) (Lc := [c1064]) (L := [[(b1059, Obj.cells #[.slice a1066 ((ns).length) n1067] 75 (0, 0))]]) (by kernel_rfl) s1256 (loadF _ _ _ s1256.sub hG b1046 ns _ o1065 _ _ hr1251 (by ((try dsimp only) <;> (omega))) (by ((try dsimp only) <;> ((intro n hn; have hs9 := sz_end hsz (by assumption) n hn; omega)))) (St.part (Lc := [c1064]) (L := [[(b1059, Obj.cells #[.slice a1066 ((ns).length) n1067] 75 (0, 0))]]) s1256)) (fun _ _ _ => trivial) ?_
                  rintro _ g1261 _ h1257 hle1262 s1258 ⟨c1259, rfl, o1260, hgg, rfl⟩; subst g1261; clear hle1262
                  refine Op.pures 1 [1, 6, 7, 9, 10] (L' := []) (e' := [(1, .slice a_list list.length n_list), (6, .pointer (some ⟨b1046, 0, none⟩)), (7, .pointer (some ⟨b1059, 0, none⟩)), (9, .slice a1252 ((list).length) n1253), (10, .bool (loadB list))]) (by kernel_rfl) ?_
                  refine Op.goto 33 (by kernel_rfl) ?_
                  refine At.reg (L := [(0, false), (1, false), (2, false), (3, false), (4, false), (5, false), (6, false), (7, false), (8, false)]) (by kernel_rfl) ?_
                  refine Op.loadA (T := 75) (x := (.tmp 7)) (o := 0) (d := 123) (n := 1) (vs := [.slice a1066 ((ns).length) n1067]) (by kernel_rfl) (by kernel_rfl) (by kernel_rfl) (s1258.chunk 1 rfl) (by kernel_rfl) rfl ?_
                  refine Op.pures 1 [1, 6, 9, 10, 123, 124] (L' := [(2, false), (3, false), (4, false), (5, false), (6, false), (7, false), (8, false)]) (e' := [(1, .slice a_list list.length n_list), (6, .pointer (some ⟨b1046, 0, none⟩)), (9, .slice a1252 ((list).length) n1253), (10, .bool (loadB list)), (123, .agg #[.slice a1066 ((ns).length) n1067]), (124, .slice a_list list.length n_list)]) (by kernel_rfl) ?_
                  refine Op.call0 (dst := some 125) (f := 53) (args := #[.agg #[.slice a1066 ((ns).length) n1067], .slice a_list list.length n_list]) (by kernel_rfl) s1258 (loadR _ _ _ s1258.sub hG (⟨ns⟩ : R10Tree) _ hr1068 _ _ h_list (by ((try dsimp only) <;> (omega))) (by ((try dsimp only) <;> ((intro n hn; have hs9 := sz_end hsz (by assumption) n hn; omega)))) ) ?_
                  rintro _ g1269 _ h1263 hle1270 s1264 ⟨v1265, rfl, hr1266, rfl⟩
                  obtain ⟨a1267, n1268, rfl⟩ := hr1266.form
                  replace hG := hG.mono hle1270
                  replace hP := hP.mono hle1270
                  replace h_list := h_list.mono hle1270
                  replace hr1068 := hr1068.mono hle1270
                  replace hr1251 := hr1251.mono hle1270
                  replace o1260 := o1260.mono hle1270
                  refine Op.pures 3 [1, 6, 9, 10, 126, 127] (L' := [(6, false), (7, false), (8, false)]) (e' := [(1, .slice a_list list.length n_list), (6, .pointer (some ⟨b1046, 0, none⟩)), (9, .slice a1252 ((list).length) n1253), (10, .bool (loadB list)), (126, .agg #[.slice a1267 (((if loadB list = true then list else ns)).length) n1268]), (127, .bool (loadB list))]) (by kernel_rfl) ?_
                  refine Op.alloc (T := 75) (dst := 11) (cs := #[.slice none 0 0]) (by kernel_rfl) (by kernel_rfl) s1264 ?_
                  intro b1271 h1272 s1273
                  refine Op.store (T := 75) (x := (.tmp 11)) (y := (.tmp 126)) (b := b1271) (o := 0) (vs := [.slice a1267 (((if loadB list = true then list else ns)).length) n1268]) (a? := true) (n := 1) (by kernel_rfl) (by kernel_rfl) (by kernel_rfl) (by kernel_rfl) rfl (by simp [Value.oneCell']) s1273 0 rfl (Nat.le_of_ble_eq_true (by kernel_rfl)) (cs := #[.slice none 0 0]) (cs' := #[.slice a1267 (((if loadB list = true then list else ns)).length) n1268]) (by kernel_rfl) (fun _ => trivial) ?_
                  intro h1274 s1275
                  refine Op.pures 1 [1, 6, 9, 10, 11, 12] (L' := []) (e' := [(1, .slice a_list list.length n_list), (6, .pointer (some ⟨b1046, 0, none⟩)), (9, .slice a1252 ((list).length) n1253), (10, .bool (loadB list)), (11, .pointer (some ⟨b1271, 0, none⟩)), (12, .bool (loadB list))]) (by kernel_rfl) ?_
                  refine Op.goto 34 (by kernel_rfl) ?_
                  refine At.reg (L := [(0, false), (1, false), (2, false), (3, false), (4, false), (5, false), (6, false), (7, false), (8, false), (9, false), (10, false), (11, false), (12, false), (13, false)]) (by kernel_rfl) ?_
                  refine Op.pures 2 [1, 6, 9, 11, 128, 129] (L' := [(2, false), (3, false), (4, false), (5, false), (6, false), (7, false), (8, false), (9, false), (10, false), (11, false), (12, false), (13, false)]) (e' := [(1, .slice a_list list.length n_list), (6, .pointer (some ⟨b1046, 0, none⟩)), (9, .slice a1252 ((list).length) n1253), (11, .pointer (some ⟨b1271, 0, none⟩)), (128, .bool (loadB list)), (129, .bool (loadB list))]) (by kernel_rfl) ?_
                  refine Op.val (dst := some 130) (v := .bool ((loadB list) == (loadB list))) (v' := .bool true) (by kernel_rfl) (by simp) ?_
                  refine Op.pures 2 [1, 9, 11, 131, 132] (L' := [(5, false), (6, false), (7, false), (8, false), (9, false), (10, false), (11, false), (12, false), (13, false)]) (e' := [(1, .slice a_list list.length n_list), (9, .slice a1252 ((list).length) n1253), (11, .pointer (some ⟨b1271, 0, none⟩)), (131, .bool true), (132, .pointer (some ⟨b1046, 0, none⟩))]) (by kernel_rfl) ?_
                  refine Op.loadA (T := 75) (x := (.tmp 11)) (o := 0) (d := 133) (n := 1) (vs := [.slice a1267 (((if loadB list = true then list else ns)).length) n1268]) (by kernel_rfl) (by kernel_rfl) (by kernel_rfl) (s1275.chunk 0 rfl) (by kernel_rfl) rfl ?_
                  have s1276 : St h g (ids []) g1269 [c1259, [(b1271, Obj.cells #[.slice a1267 (((if loadB list = true then list else ns)).length) n1268] 75 (0, 0))], [(b1059, Obj.cells #[.slice a1066 ((ns).length) n1067] 75 (0, 0))]] h1274 := ((s1275.front 0 rfl).front 1 rfl)
                  have hl1277 := s1276.frzle
                  have hz1278 := IsTree.frz o1260 s1276 (by intro p hp; simp only [List.mem_append, hp, true_or, or_true])
                  refine Op.lend (dst := some 134) (f := 49) (args := #[.pointer (some ⟨b1046, 0, none⟩), .agg #[.slice a1267 (((if loadB list = true then list else ns)).length) n1268]]) (cf := (c1259 : Chunk)) (Lc := []) (L := [[(b1271, Obj.cells #[.slice a1267 (((if loadB list = true then list else ns)).length) n1268] 75 (0, 0))], [(b1059, Obj.cells #[.slice a1066 ((ns).length) n1067] 75 (0, 0))]]) (by kernel_rfl) s1276 (sameT _ _ _ s1276.frzsub (hG.mono hl1277) b1046 (if loadB list = true then list else ns) hz1278 (⟨(if loadB list = true then list else ns)⟩ : R10Tree) _ (hr1266.mono hl1277) (by ((try dsimp only) <;> (exact load_tb hT (by have hsm := (small (by assumption)).1; omega) hl2))) ) (fun _ _ _ hp => by obtain ⟨_, hgg, _⟩ := hp; exact hgg) (fun _ _ h => absurd h (ids_nil _)) ?_
                  rintro _ _ h1279 s1280 ⟨rfl, hgg, rfl⟩; clear hgg
                  refine Op.pures 2 [1, 9, 136] (L' := [(9, false), (10, false), (11, false), (12, false), (13, false)]) (e' := [(1, .slice a_list list.length n_list), (9, .slice a1252 ((list).length) n1253), (136, .bool (decide ((if loadB list = true then list else ns) = (if loadB list = true then list else ns))))]) (by kernel_rfl) ?_
                  refine Op.ways (b := decide ((if loadB list = true then list else ns) = (if loadB list = true then list else ns))) ⟨fun hb => ?_, fun hb => ?_⟩
                  · refine Op.cast (e' := [(1, .slice a_list list.length n_list), (9, .slice a1252 ((list).length) n1253), (136, .bool true)]) (by rw [hb]) ?_
                    have c1283 : (if loadB list = true then list else ns) = (if loadB list = true then list else ns) := of_decide_eq_true hb
                    clear hb
                    refine Op.pures 2 [136, 137, 138] (L' := [(11, false), (12, false), (13, false)]) (e' := [(136, .bool true), (137, .slice a1252 ((list).length) n1253), (138, .slice a_list list.length n_list)]) (by kernel_rfl) ?_
                    refine Op.call0 (dst := some 139) (f := 39) (args := #[.slice a1252 ((list).length) n1253, .slice a_list list.length n_list]) (by kernel_rfl) s1280 (sameLeaves _ _ _ s1280.sub hG _ _ hr1251 _ _ h_list (by ((try dsimp only) <;> (omega))) (by ((try dsimp only) <;> ((intro n hn; have hs9 := hl2 n hn; omega)))) ) ?_
                    rintro _ g1286 _ h1284 hle1287 s1285 ⟨rfl, hgg, rfl⟩; subst g1286; clear hle1287
                    refine Op.pures 2 [4] (L' := []) (e' := [(4, .bool (decide (list = list)))]) (by kernel_rfl) ?_
                    refine Op.goto 35 (by kernel_rfl) ?_
                    refine At.ret (f := Tryz.f12) (v := .bool (decide (list = list))) (by kernel_rfl) (by kernel_rfl) ?_
                    have s1288 : St h g (ids []) g1269 [] h1284 := (s1285).drop.drop.drop
                    have s1289 : St h g (ids []) g [] h1284 := s1288.unfrz
                    refine hR _ _ _ _ s1289 ⟨?_, rfl, rfl⟩
                    exact (eqB (by exact decide_eq_true rfl))
                  · refine Op.cast (e' := [(1, .slice a_list list.length n_list), (9, .slice a1252 ((list).length) n1253), (136, .bool false)]) (by rw [hb]) ?_
                    have c1290 : ¬ ((if loadB list = true then list else ns) = (if loadB list = true then list else ns)) := of_decide_eq_false hb
                    clear hb
                    refine Op.pures 5 [4] (L' := []) (e' := [(4, .bool false)]) (by kernel_rfl) ?_
                    refine Op.goto 35 (by kernel_rfl) ?_
                    refine At.ret (f := Tryz.f12) (v := .bool false) (by kernel_rfl) (by kernel_rfl) ?_
                    have s1291 : St h g (ids []) g1269 [] h1279 := (s1280).drop.drop.drop
                    have s1292 : St h g (ids []) g [] h1279 := s1291.unfrz
                    refine hR _ _ _ _ s1292 ⟨?_, rfl, rfl⟩
                    exact (eqB (by exact absurd rfl c1290))
            exact loop24 _ _ (gle.refl _) ([⟨[47], [], 0, -1, 0, 0⟩]) 0 _ _ _ _ (Nat.lt_succ_self _) (by omega) (by omega) (by exact TreeOk.new) o1048 (slEq hr1054 (by rfl)) s1063
      exact loop10 _  0 _ (Nat.lt_succ_self _) (by omega) (by omega) (by exact fun n hn => absurd hn (by simp))  s1006
end Go.Proofs.YtmjebehhpojihaaGreatDoor.Sw
