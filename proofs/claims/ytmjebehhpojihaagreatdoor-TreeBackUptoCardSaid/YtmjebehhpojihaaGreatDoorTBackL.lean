/- Lemmas for a law of this seat: what the functions compute, and plain facts of it. Own text. -/
import Derived.Test.YtmjebehhpojihaaGreatDoorTBackK
namespace Go.Proofs.YtmjebehhpojihaaGreatDoor.Sw
open Go
set_option maxRecDepth 100000
set_option linter.unusedVariables false
set_option linter.unusedSimpArgs false
set_option linter.deprecated false
theorem great10 (B : World) (h : Heap) (g : GH) (hg : Sub g h) (hG : Glob g) (v_script : Value) (script : List L10Op) (h_script : SlR g 49 kL10Op v_script script) (h1 : script.length ≤ 2000000) (hb : ∀ o ∈ script, o.Path.length ≤ 2000000 ∧ o.Data.length ≤ 2000000) :
  Spec Tryz.prog B 26 #[v_script] h g [] (fun rv g' L' => rv = .bool (greatB script) ∧ g' = g ∧ L' = []) := by
 obtain ⟨a_script, n_script, rfl⟩ := h_script.form
 refine Spec.of_at (f := Tryz.f26) (e := [(0, .slice a_script script.length n_script)]) Tryz.func26 (by kernel_rfl) (Nat.le_of_ble_eq_true (by kernel_rfl)) (by kernel_rfl) (by kernel_rfl) ?_
 intro R hR
 have s0 := St.init hg
 refine At.reg (L := [(0, false)]) (by kernel_rfl) ?_
 refine Op.pures 1 [0] (L' := []) (e' := [(0, .slice a_script script.length n_script)]) (by kernel_rfl) ?_
 refine Op.goto 1 (by kernel_rfl) ?_
 refine At.reg (L := [(0, false)]) (by kernel_rfl) ?_
 refine Op.pures 1 [0, 3] (L' := []) (e' := [(0, .slice a_script script.length n_script), (3, .int .i64 0)]) (by kernel_rfl) ?_
 refine Op.goto 2 (by kernel_rfl) ?_
 refine At.reg (L := [(0, false)]) (by kernel_rfl) ?_
 refine Op.pures 1 [0, 3, 4] (L' := []) (e' := [(0, .slice a_script script.length n_script), (3, .int .i64 0), (4, .int .i64 0)]) (by kernel_rfl) ?_
 refine Op.goto 3 (by kernel_rfl) ?_
 have loop3 : ∀ (m : Nat) (n : Int) (i : Int) (h1024 : Heap) (hm : script.length - i.toNat < m) (h0 : 0 ≤ i) (h3 : i ≤ script.length) (hn0 : 0 ≤ n) (hn1 : n ≤ 4100002) (hg : grN script 0 = grN (script.drop i.toNat) n)     (s_loop31023 : St h g (ids []) g [] h1024), At (fctx Tryz.prog B 26 Tryz.f26 R) [] 3 [(0, .slice a_script script.length n_script), (3, .int .i64 n), (4, .int .i64 i)] h1024 := by
  intro m; induction m with
  | zero => intros; omega
  | succ m ih3 =>
   intro n i h1024 hm h0 h3 hn0 hn1 hg s_loop31023
   refine At.reg (L := [(0, false), (1, false), (2, false), (3, false), (4, false), (5, false), (6, false), (7, false)]) (by kernel_rfl) ?_
   refine Op.pures 5 [0, 3, 4, 9] (L' := [(5, false), (6, false), (7, false)]) (e' := [(0, .slice a_script script.length n_script), (3, .int .i64 n), (4, .int .i64 i), (9, .bool (decide (i < (script.length : Int))))]) (by kernel_rfl) ?_
   refine Op.ways (b := decide (i < (script.length : Int))) ⟨fun hb => ?_, fun hb => ?_⟩
   ·refine Op.cast (e' := [(0, .slice a_script script.length n_script), (3, .int .i64 n), (4, .int .i64 i), (9, .bool true)]) (by rw [hb]) ?_
    have c1025 : i < (script.length : Int) := of_decide_eq_true hb
    clear hb
    refine Op.pures 3 [0, 3, 4, 12] (L' := []) (e' := [(0, .slice a_script script.length n_script), (3, .int .i64 n), (4, .int .i64 i), (12, .bool (decide (n ≤ (100000 : Int))))]) (by kernel_rfl) ?_
    refine Op.goto 4 (by kernel_rfl) ?_
    refine At.cond (b := decide (n ≤ (100000 : Int))) (c := .tmp 12) (by kernel_rfl) (by kernel_rfl) (by kernel_rfl) 5 7 (by kernel_rfl) (by kernel_rfl) (fun hb => ?_) (fun hb => ?_)
    ·have c1026 : n ≤ (100000 : Int) := of_decide_eq_true hb
     clear hb
     refine At.keep [0, 3, 4] ?_; show At _ _ _ [(0, .slice a_script script.length n_script), (3, .int .i64 n), (4, .int .i64 i)] _
     refine At.draw (by kernel_rfl) (fun _ => False) [(0, true), (1, true), (2, true), (3, true), (4, true), (8, true), (9, true), (10, true), (11, true), (5, true), (6, true), (7, true), (12, false), (13, true), (14, true), (15, true), (16, true)] (by kernel_rfl) ?_
     refine Op.pures 3 [0, 3, 4, 15, 16, 17] (L' := [(3, true), (4, true), (8, true), (9, true), (10, true), (11, true), (5, true), (6, true), (7, true), (12, false), (13, true), (14, true), (15, true), (16, true)]) (e' := [(0, .slice a_script script.length n_script), (3, .int .i64 n), (4, .int .i64 i), (15, .int .i64 n), (16, .slice a_script script.length n_script), (17, .int .i64 i)]) (by kernel_rfl) ?_
     obtain ⟨x1027, hx1028⟩ : ∃ c, script[(i : Int).toNat]? = some c := ⟨_, List.getElem?_eq_getElem (by omega)⟩
     obtain ⟨b1029, o1030, cu1031, fz1032, ha1033, hb1034, hk1035⟩ := SlR.at_ h_script _ hx1028
     cases ha1033
     refine Op.idx (T := 43) (E := 49) (sz := 7) (by_ := 80) (n := script.length) (c := n_script) (k := .i64) (x := (.tmp 16)) (ix := (.tmp 17)) (dst := 18) (bk := b1029) (o := o1030) (m := i) (by kernel_rfl) (by kernel_rfl) (by kernel_rfl) (by kernel_rfl) (by omega) (by omega) ?_
     obtain ⟨v1036, hv1037, hk1035⟩ := hk1035
     obtain ⟨a1038, n1039, rfl⟩ := hv1037.form
     refine Op.pures 3 [0, 3, 4, 15, 19, 23, 24] (L' := [(10, true), (11, true), (5, true), (6, true), (7, true), (12, false), (13, true), (14, true), (15, true), (16, true)]) (e' := [(0, .slice (some ⟨b1029, o1030, none⟩) script.length n_script), (3, .int .i64 n), (4, .int .i64 i), (15, .int .i64 n), (19, .pointer (some ⟨b1029, o1030 + (i : Int).toNat * 7 + 4, none⟩)), (23, .slice (some ⟨b1029, o1030, none⟩) script.length n_script), (24, .int .i64 i)]) (by kernel_rfl) ?_
     obtain ⟨b1042, o1043, cu1044, fz1045, ha1046, hb1047, hk1048⟩ := SlR.at_ h_script _ hx1028
     cases ha1046
     refine Op.idx (T := 43) (E := 49) (sz := 7) (by_ := 80) (n := script.length) (c := n_script) (k := .i64) (x := (.tmp 23)) (ix := (.tmp 24)) (dst := 25) (bk := b1029) (o := o1030) (m := i) (by kernel_rfl) (by kernel_rfl) (by kernel_rfl) (by kernel_rfl) (by omega) (by omega) ?_
     obtain ⟨v1049, hv1050, hk1048⟩ := hk1048
     obtain ⟨a1051, n1052, rfl⟩ := hv1050.form
     refine Op.pures 1 [0, 3, 4, 15, 19, 26] (L' := [(5, true), (6, true), (7, true), (12, false), (13, true), (14, true), (15, true), (16, true)]) (e' := [(0, .slice (some ⟨b1029, o1030, none⟩) script.length n_script), (3, .int .i64 n), (4, .int .i64 i), (15, .int .i64 n), (19, .pointer (some ⟨b1029, o1030 + (i : Int).toNat * 7 + 4, none⟩)), (26, .pointer (some ⟨b1029, o1030 + (i : Int).toNat * 7 + 5, none⟩))]) (by kernel_rfl) ?_
     refine Op.loadF (T := 9) (x := (.tmp 19)) (o := o1030 + (i : Int).toNat * 7 + 4) (d := 20) (n := 1) (v := .string (mkS x1027.Path)) (by kernel_rfl) (by kernel_rfl) (by kernel_rfl) (fun h => h) (s_loop31023.sub _ _ hb1034) (cut_get hk1035 4 rfl) ?_
     refine Op.pures 1 [0, 3, 4, 15, 21, 26] (L' := [(7, true), (12, false), (13, true), (14, true), (15, true), (16, true)]) (e' := [(0, .slice (some ⟨b1029, o1030, none⟩) script.length n_script), (3, .int .i64 n), (4, .int .i64 i), (15, .int .i64 n), (21, .int .i64 (x1027.Path.length : Int)), (26, .pointer (some ⟨b1029, o1030 + (i : Int).toNat * 7 + 5, none⟩))]) (by kernel_rfl) ?_
     refine Op.val (dst := some 22) (v := .int .i64 (IntKind.wrap .i64 ((1 : Int) + (x1027.Path.length : Int)))) (v' := .int .i64 ((1 : Int) + (x1027.Path.length : Int))) (by kernel_rfl) (wrapEq_i64 (by omega) (by (have hbb := hb _ (List.mem_of_getElem? hx1028); omega))) ?_
     refine Op.load (T := 29) (x := (.tmp 26)) (o := o1030 + (i : Int).toNat * 7 + 5) (d := 27) (n := 1) (v := .slice a1051 x1027.Data.length n1052) (by kernel_rfl) (by kernel_rfl) (by kernel_rfl) (s_loop31023.sub _ _ hb1047) (cut_get hk1048 5 rfl) ?_
     refine Op.pures 1 [0, 3, 4, 15, 22, 28] (L' := [(14, true), (15, true), (16, true)]) (e' := [(0, .slice (some ⟨b1029, o1030, none⟩) script.length n_script), (3, .int .i64 n), (4, .int .i64 i), (15, .int .i64 n), (22, .int .i64 ((1 : Int) + (x1027.Path.length : Int))), (28, .int .i64 (x1027.Data.length : Int))]) (by kernel_rfl) ?_
     refine Op.val (dst := some 29) (v := .int .i64 (IntKind.wrap .i64 (((1 : Int) + (x1027.Path.length : Int)) + (x1027.Data.length : Int)))) (v' := .int .i64 (((1 : Int) + (x1027.Path.length : Int)) + (x1027.Data.length : Int))) (by kernel_rfl) (wrapEq_i64 (by omega) (by (have hbb := hb _ (List.mem_of_getElem? hx1028); omega))) ?_
     refine Op.val (dst := some 30) (v := .int .i64 (IntKind.wrap .i64 (n + (((1 : Int) + (x1027.Path.length : Int)) + (x1027.Data.length : Int))))) (v' := .int .i64 (n + (((1 : Int) + (x1027.Path.length : Int)) + (x1027.Data.length : Int)))) (by kernel_rfl) (wrapEq_i64 (by omega) (by (have hbb := hb _ (List.mem_of_getElem? hx1028); omega))) ?_
     refine Op.pures 1 [0, 3, 4] (L' := []) (e' := [(0, .slice (some ⟨b1029, o1030, none⟩) script.length n_script), (3, .int .i64 (n + (((1 : Int) + (x1027.Path.length : Int)) + (x1027.Data.length : Int)))), (4, .int .i64 i)]) (by kernel_rfl) ?_
     refine Op.goto 6 (by kernel_rfl) ?_
     refine At.reg (L := [(0, false), (1, false), (2, false)]) (by kernel_rfl) ?_
     refine Op.pures 1 [0, 3, 4, 13] (L' := [(1, false), (2, false)]) (e' := [(0, .slice (some ⟨b1029, o1030, none⟩) script.length n_script), (3, .int .i64 (n + (((1 : Int) + (x1027.Path.length : Int)) + (x1027.Data.length : Int)))), (4, .int .i64 i), (13, .int .i64 i)]) (by kernel_rfl) ?_
     refine Op.val (dst := some 14) (v := .int .i64 (IntKind.wrap .i64 (i + 1))) (v' := .int .i64 (i + 1)) (by kernel_rfl) (wrapEq_i64 (by omega) (by omega)) ?_
     refine Op.pures 1 [0, 3, 4] (L' := []) (e' := [(0, .slice (some ⟨b1029, o1030, none⟩) script.length n_script), (3, .int .i64 (n + (((1 : Int) + (x1027.Path.length : Int)) + (x1027.Data.length : Int)))), (4, .int .i64 (i + 1))]) (by kernel_rfl) ?_
     refine Op.goto 3 (by kernel_rfl) ?_
     exact ih3  (n + (((1 : Int) + (x1027.Path.length : Int)) + (x1027.Data.length : Int))) (i + 1) _ (by omega) (by omega) (by omega) (by omega) (by (have hbb := hb _ (List.mem_of_getElem? hx1028); omega)) (by exact gr_step hg h0 hx1028 (by assumption))  s_loop31023
    ·have c1053 : ¬ (n ≤ (100000 : Int)) := of_decide_eq_false hb
     clear hb
     refine At.keep [0, 3] ?_; show At _ _ _ [(0, .slice a_script script.length n_script), (3, .int .i64 n)] _
     refine At.reg (L := [(0, false), (1, false), (2, false), (3, false), (4, false), (5, false), (6, false), (7, false)]) (by kernel_rfl) ?_
     refine Op.pures 3 [0, 33] (L' := [(3, false), (4, false), (5, false), (6, false), (7, false)]) (e' := [(0, .slice a_script script.length n_script), (33, .bool (decide (n > (10000 : Int))))]) (by kernel_rfl) ?_
     refine Op.ways (b := decide (n > (10000 : Int))) ⟨fun hb => ?_, fun hb => ?_⟩
     ·refine Op.cast (e' := [(0, .slice a_script script.length n_script), (33, .bool true)]) (by rw [hb]) ?_
      have c1054 : n > (10000 : Int) := of_decide_eq_true hb
      clear hb
      refine Op.pures 5 [2] (L' := []) (e' := [(2, .bool true)]) (by kernel_rfl) ?_
      refine Op.goto 8 (by kernel_rfl) ?_
      refine At.ret (f := Tryz.f26) (v := .bool true) (by kernel_rfl) (by kernel_rfl) ?_
      refine hR _ _ _ _ s_loop31023 ⟨?_, rfl, rfl⟩
      exact (eqB (by exact greatB_1 (gr_end2 hg (by assumption)) (by assumption)))
     ·refine Op.cast (e' := [(0, .slice a_script script.length n_script), (33, .bool false)]) (by rw [hb]) ?_
      have c1055 : ¬ (n > (10000 : Int)) := of_decide_eq_false hb
      clear hb
      refine Op.pures 5 [2] (L' := []) (e' := [(2, .bool (decide ((script.length : Int) > (150 : Int))))]) (by kernel_rfl) ?_
      refine Op.goto 8 (by kernel_rfl) ?_
      refine At.ret (f := Tryz.f26) (v := .bool (decide ((script.length : Int) > (150 : Int)))) (by kernel_rfl) (by kernel_rfl) ?_
      refine hR _ _ _ _ s_loop31023 ⟨?_, rfl, rfl⟩
      exact (eqB (by exact greatB_2 (gr_end2 hg (by assumption)) (by assumption)))
   ·refine Op.cast (e' := [(0, .slice a_script script.length n_script), (3, .int .i64 n), (4, .int .i64 i), (9, .bool false)]) (by rw [hb]) ?_
    have c1056 : ¬ (i < (script.length : Int)) := of_decide_eq_false hb
    clear hb
    refine Op.pures 3 [0, 3, 4, 12] (L' := []) (e' := [(0, .slice a_script script.length n_script), (3, .int .i64 n), (4, .int .i64 i), (12, .bool false)]) (by kernel_rfl) ?_
    refine Op.goto 4 (by kernel_rfl) ?_
    refine At.condF (c := .tmp 12) (by kernel_rfl) (by kernel_rfl) (by kernel_rfl) 7 (by kernel_rfl) ?_
    refine At.reg (L := [(0, false), (1, false), (2, false), (3, false), (4, false), (5, false), (6, false), (7, false)]) (by kernel_rfl) ?_
    refine Op.pures 3 [0, 33] (L' := [(3, false), (4, false), (5, false), (6, false), (7, false)]) (e' := [(0, .slice a_script script.length n_script), (33, .bool (decide (n > (10000 : Int))))]) (by kernel_rfl) ?_
    refine Op.ways (b := decide (n > (10000 : Int))) ⟨fun hb => ?_, fun hb => ?_⟩
    ·refine Op.cast (e' := [(0, .slice a_script script.length n_script), (33, .bool true)]) (by rw [hb]) ?_
     have c1057 : n > (10000 : Int) := of_decide_eq_true hb
     clear hb
     refine Op.pures 5 [2] (L' := []) (e' := [(2, .bool true)]) (by kernel_rfl) ?_
     refine Op.goto 8 (by kernel_rfl) ?_
     refine At.ret (f := Tryz.f26) (v := .bool true) (by kernel_rfl) (by kernel_rfl) ?_
     refine hR _ _ _ _ s_loop31023 ⟨?_, rfl, rfl⟩
     exact (eqB (by exact greatB_1 (gr_end1 hg (by assumption)) (by assumption)))
    ·refine Op.cast (e' := [(0, .slice a_script script.length n_script), (33, .bool false)]) (by rw [hb]) ?_
     have c1058 : ¬ (n > (10000 : Int)) := of_decide_eq_false hb
     clear hb
     refine Op.pures 5 [2] (L' := []) (e' := [(2, .bool (decide ((script.length : Int) > (150 : Int))))]) (by kernel_rfl) ?_
     refine Op.goto 8 (by kernel_rfl) ?_
     refine At.ret (f := Tryz.f26) (v := .bool (decide ((script.length : Int) > (150 : Int)))) (by kernel_rfl) (by kernel_rfl) ?_
     refine hR _ _ _ _ s_loop31023 ⟨?_, rfl, rfl⟩
     exact (eqB (by exact greatB_2 (gr_end1 hg (by assumption)) (by assumption)))
 exact loop3 _  0 0 _ (Nat.lt_succ_self _) (by omega) (by omega) (by omega) (by omega) (by rfl)  s0
theorem alive10 (B : World) (h : Heap) (g : GH) (hg : Sub g h) (hG : Glob g)  (hP : Pow10 g) :
  Spec Tryz.prog B 25 #[] h g [] (fun rv g' L' => rv = .bool true ∧ g' = g ∧ L' = []) := by
 refine Spec.of_at (f := Tryz.f25) (e := []) Tryz.func25 (by kernel_rfl) (Nat.le_of_ble_eq_true (by kernel_rfl)) (by kernel_rfl) (by kernel_rfl) ?_
 intro R hR
 have s0 := St.init hg
 refine At.reg (L := [(0, false)]) (by kernel_rfl) ?_
 refine Op.pures 1 [] (L' := []) (e' := []) (by kernel_rfl) ?_
 refine Op.goto 1 (by kernel_rfl) ?_
 refine At.reg (L := [(0, false), (1, false)]) (by kernel_rfl) ?_
 refine Op.call0 (dst := some 8) (f := 27) (args := #[]) (by kernel_rfl) s0 (newT _ _ _ s0.sub hG   ) ?_
 rintro _ g1064 _ h1059 hle1065 s1060 ⟨b1061, c1062, rfl, o1063, hgg, rfl⟩; subst g1064; clear hle1065
 refine Op.pures 1 [1] (L' := []) (e' := [(1, .pointer (some ⟨b1061, 0, none⟩))]) (by kernel_rfl) ?_
 refine Op.goto 2 (by kernel_rfl) ?_
 refine At.reg (L := [(0, false), (1, false)]) (by kernel_rfl) ?_
 refine Op.pures 2 [1, 10] (L' := []) (e' := [(1, .pointer (some ⟨b1061, 0, none⟩)), (10, .bool false)]) (by kernel_rfl) ?_
 refine Op.goto 3 (by kernel_rfl) ?_
 refine At.condF (c := .tmp 10) (by kernel_rfl) (by kernel_rfl) (by kernel_rfl) 6 (by kernel_rfl) ?_
 refine At.reg (L := [(0, false), (1, false), (2, false), (3, false), (4, false), (5, false), (6, false)]) (by kernel_rfl) ?_
 refine Op.pures 1 [1, 12] (L' := [(1, false), (2, false), (3, false), (4, false), (5, false), (6, false)]) (e' := [(1, .pointer (some ⟨b1061, 0, none⟩)), (12, .pointer (some ⟨b1061, 0, none⟩))]) (by kernel_rfl) ?_
 refine Op.call (dst := some 13) (f := 28) (args := #[.pointer (some ⟨b1061, 0, none⟩), .string (mkS ([47, 113])), .slice none 0 0, .int .i64 (-1), .int .i64 1, .bool false]) (Lc := [c1062]) (L := []) (by kernel_rfl) s1060 (makeF _ _ _ s1060.sub hG b1061 ([⟨[47], [], 0, -1, 0, 0⟩]) _ o1063 ([47, 113]) _ _ (SlR.nil _ _ _) (-1) 1 false hP (by ((try dsimp only) <;> (exact al_b0))) (by ((try dsimp only) <;> (decide))) (by ((try dsimp only) <;> (decide))) (St.part (Lc := [c1062]) (L := []) s1060)) (fun _ _ _ => trivial) ?_
 rintro _ g1070 _ h1066 hle1071 s1067 ⟨c1068, rfl, o1069, hgg, rfl⟩; subst g1070; clear hle1071
 refine Op.pures 5 [1, 2, 3] (L' := []) (e' := [(1, .pointer (some ⟨b1061, 0, none⟩)), (2, .string (mkS ((makeT ([⟨[47], [], 0, -1, 0, 0⟩]) ([47, 113]) [] (-1) 1 false).2.1))), (3, .int .i64 ((makeT ([⟨[47], [], 0, -1, 0, 0⟩]) ([47, 113]) [] (-1) 1 false).2.2))]) (by kernel_rfl) ?_
 refine Op.goto 7 (by kernel_rfl) ?_
 have o1072 := IsTree.eq o1069 (show _ = al1 from by rw [al_1])
 refine At.reg (L := [(0, false), (1, false), (2, false), (3, false), (4, false), (5, false), (6, false), (7, false), (8, false)]) (by kernel_rfl) ?_
 refine Op.pures 1 [1, 2, 3, 17] (L' := [(1, false), (2, false), (3, false), (4, false), (5, false), (6, false), (7, false), (8, false)]) (e' := [(1, .pointer (some ⟨b1061, 0, none⟩)), (2, .string (mkS ((makeT ([⟨[47], [], 0, -1, 0, 0⟩]) ([47, 113]) [] (-1) 1 false).2.1))), (3, .int .i64 ((makeT ([⟨[47], [], 0, -1, 0, 0⟩]) ([47, 113]) [] (-1) 1 false).2.2)), (17, .pointer (some ⟨b1061, 0, none⟩))]) (by kernel_rfl) ?_
 refine Op.lit (T := 29) (len := 1) (parts := #[(0, (.const (.int .u8 120)))]) (dst := 18) (E := 5) (ps := [(0, .int .u8 120)]) (cs := #[.int .u8 120]) (by kernel_rfl) (by kernel_rfl) (by kernel_rfl) s1067 ?_
 intro b1073 h1074 s1075
 refine Op.convLit (T := 29) (E := 5) (x := (.tmp 18)) (dst := 19) (b := b1073) (n := 1) (cs := #[.int .u8 120]) (xs := ([(120 : UInt8)] : List UInt8)) (by kernel_rfl) (by kernel_rfl) (by kernel_rfl) (by kernel_rfl) rfl s1075 ⟨_, _, rfl, rfl, Reads.nil⟩ (fun _ => trivial) ?_
 intro g1076 h1077 hle1078 s1079 hf1080
 replace hG := hG.mono hle1078
 replace hP := hP.mono hle1078
 replace o1072 := o1072.mono hle1078
 refine Op.call (dst := some 20) (f := 28) (args := #[.pointer (some ⟨b1061, 0, none⟩), .string (mkS ([47, 113, 47, 116, 45])), .slice (some ⟨b1073, 0, none⟩) 1 1, .int .i64 3, .int .i64 2, .bool true]) (Lc := [c1068]) (L := []) (by kernel_rfl) s1079 (makeF _ _ _ s1079.sub hG b1061 al1 _ o1072 ([47, 113, 47, 116, 45]) _ _ hf1080 3 2 true hP (by ((try dsimp only) <;> (exact al_b1))) (by ((try dsimp only) <;> (decide))) (by ((try dsimp only) <;> (decide))) (St.part (Lc := [c1068]) (L := []) s1079)) (fun _ _ _ => trivial) ?_
 rintro _ g1085 _ h1081 hle1086 s1082 ⟨c1083, rfl, o1084, hgg, rfl⟩; subst g1085; clear hle1086
 refine Op.pures 5 [1, 2, 3, 4, 5] (L' := []) (e' := [(1, .pointer (some ⟨b1061, 0, none⟩)), (2, .string (mkS ((makeT ([⟨[47], [], 0, -1, 0, 0⟩]) ([47, 113]) [] (-1) 1 false).2.1))), (3, .int .i64 ((makeT ([⟨[47], [], 0, -1, 0, 0⟩]) ([47, 113]) [] (-1) 1 false).2.2)), (4, .string (mkS ((makeT al1 ([47, 113, 47, 116, 45]) ([(120 : UInt8)] : List UInt8) 3 2 true).2.1))), (5, .int .i64 ((makeT al1 ([47, 113, 47, 116, 45]) ([(120 : UInt8)] : List UInt8) 3 2 true).2.2))]) (by kernel_rfl) ?_
 refine Op.goto 8 (by kernel_rfl) ?_
 have o1087 := IsTree.eq o1084 (show _ = al2 from by rw [al_2])
 refine At.reg (L := [(0, false), (1, false), (2, false), (3, false), (4, false), (5, false), (6, false), (7, false)]) (by kernel_rfl) ?_
 refine Op.pures 1 [1, 2, 3, 4, 5, 24] (L' := [(1, false), (2, false), (3, false), (4, false), (5, false), (6, false), (7, false)]) (e' := [(1, .pointer (some ⟨b1061, 0, none⟩)), (2, .string (mkS ((makeT ([⟨[47], [], 0, -1, 0, 0⟩]) ([47, 113]) [] (-1) 1 false).2.1))), (3, .int .i64 ((makeT ([⟨[47], [], 0, -1, 0, 0⟩]) ([47, 113]) [] (-1) 1 false).2.2)), (4, .string (mkS ((makeT al1 ([47, 113, 47, 116, 45]) ([(120 : UInt8)] : List UInt8) 3 2 true).2.1))), (5, .int .i64 ((makeT al1 ([47, 113, 47, 116, 45]) ([(120 : UInt8)] : List UInt8) 3 2 true).2.2)), (24, .pointer (some ⟨b1061, 0, none⟩))]) (by kernel_rfl) ?_
 have hl1088 := s1082.frzle
 have hz1089 := IsTree.frz o1087 s1082 (by intro p hp; simp only [List.mem_append, hp, true_or, or_true])
 refine Op.lend (dst := some 25) (f := 34) (args := #[.pointer (some ⟨b1061, 0, none⟩), .string (mkS ([47, 113, 47, 116, 45, 48, 48, 48, 48, 48]))]) (cf := (c1083 : Chunk)) (Lc := []) (L := []) (by kernel_rfl) s1082 (getF _ _ _ s1082.frzsub (hG.mono hl1088) b1061 al2 hz1089 ([47, 113, 47, 116, 45, 48, 48, 48, 48, 48]) (by ((try dsimp only) <;> (exact al_b2))) (by ((try dsimp only) <;> (decide))) ) (fun _ _ _ hp => by obtain ⟨_, _, _, _, hgg, _⟩ := hp; exact hgg) (fun _ _ h => absurd h (ids_nil _)) ?_
 rintro _ _ h1090 s1091 ⟨v1092, ch1093, rfl, R1094, hgg, rfl⟩; clear hgg
 obtain ⟨a1095, n1096, rfl⟩ := R1094.form
 replace R1094 := R1094.flat (fun _ _ _ _ h => h) (g' := g1076)
 refine Op.pures 3 [1, 2, 3, 4, 5, 26, 27] (L' := [(5, false), (6, false), (7, false)]) (e' := [(1, .pointer (some ⟨b1061, 0, none⟩)), (2, .string (mkS ((makeT ([⟨[47], [], 0, -1, 0, 0⟩]) ([47, 113]) [] (-1) 1 false).2.1))), (3, .int .i64 ((makeT ([⟨[47], [], 0, -1, 0, 0⟩]) ([47, 113]) [] (-1) 1 false).2.2)), (4, .string (mkS ((makeT al1 ([47, 113, 47, 116, 45]) ([(120 : UInt8)] : List UInt8) 3 2 true).2.1))), (5, .int .i64 ((makeT al1 ([47, 113, 47, 116, 45]) ([(120 : UInt8)] : List UInt8) 3 2 true).2.2)), (26, .agg #[.string (mkS (((getT al2 ([47, 113, 47, 116, 45, 48, 48, 48, 48, 48])).1).Path)), .slice a1095 ((((getT al2 ([47, 113, 47, 116, 45, 48, 48, 48, 48, 48])).1).Data).length) n1096, .int .i64 (((getT al2 ([47, 113, 47, 116, 45, 48, 48, 48, 48, 48])).1).Version), .int .i64 (((getT al2 ([47, 113, 47, 116, 45, 48, 48, 48, 48, 48])).1).Owner), .int .i64 (((getT al2 ([47, 113, 47, 116, 45, 48, 48, 48, 48, 48])).1).Next), .int .i64 (((getT al2 ([47, 113, 47, 116, 45, 48, 48, 48, 48, 48])).1).Born)]), (27, .int .i64 ((getT al2 ([47, 113, 47, 116, 45, 48, 48, 48, 48, 48])).2))]) (by kernel_rfl) ?_
 refine Op.alloc (T := 59) (dst := 6) (cs := #[.string (mkS []), .slice none 0 0, .int .i64 0, .int .i64 0, .int .i64 0, .int .i64 0]) (by kernel_rfl) (by kernel_rfl) s1091 ?_
 intro b1099 h1100 s1101
 refine Op.store (T := 59) (x := (.tmp 6)) (y := (.tmp 26)) (b := b1099) (o := 0) (vs := [.string (mkS (((getT al2 ([47, 113, 47, 116, 45, 48, 48, 48, 48, 48])).1).Path)), .slice a1095 ((((getT al2 ([47, 113, 47, 116, 45, 48, 48, 48, 48, 48])).1).Data).length) n1096, .int .i64 (((getT al2 ([47, 113, 47, 116, 45, 48, 48, 48, 48, 48])).1).Version), .int .i64 (((getT al2 ([47, 113, 47, 116, 45, 48, 48, 48, 48, 48])).1).Owner), .int .i64 (((getT al2 ([47, 113, 47, 116, 45, 48, 48, 48, 48, 48])).1).Next), .int .i64 (((getT al2 ([47, 113, 47, 116, 45, 48, 48, 48, 48, 48])).1).Born)]) (a? := true) (n := 6) (by kernel_rfl) (by kernel_rfl) (by kernel_rfl) (by kernel_rfl) rfl (by simp [Value.oneCell']) s1101 0 rfl (Nat.le_of_ble_eq_true (by kernel_rfl)) (cs := #[.string (mkS []), .slice none 0 0, .int .i64 0, .int .i64 0, .int .i64 0, .int .i64 0]) (cs' := #[.string (mkS (((getT al2 ([47, 113, 47, 116, 45, 48, 48, 48, 48, 48])).1).Path)), .slice a1095 ((((getT al2 ([47, 113, 47, 116, 45, 48, 48, 48, 48, 48])).1).Data).length) n1096, .int .i64 (((getT al2 ([47, 113, 47, 116, 45, 48, 48, 48, 48, 48])).1).Version), .int .i64 (((getT al2 ([47, 113, 47, 116, 45, 48, 48, 48, 48, 48])).1).Owner), .int .i64 (((getT al2 ([47, 113, 47, 116, 45, 48, 48, 48, 48, 48])).1).Next), .int .i64 (((getT al2 ([47, 113, 47, 116, 45, 48, 48, 48, 48, 48])).1).Born)]) (by kernel_rfl) (fun _ => trivial) ?_
 intro h1102 s1103
 refine Op.pures 1 [1, 2, 3, 4, 5, 6, 7] (L' := []) (e' := [(1, .pointer (some ⟨b1061, 0, none⟩)), (2, .string (mkS ((makeT ([⟨[47], [], 0, -1, 0, 0⟩]) ([47, 113]) [] (-1) 1 false).2.1))), (3, .int .i64 ((makeT ([⟨[47], [], 0, -1, 0, 0⟩]) ([47, 113]) [] (-1) 1 false).2.2)), (4, .string (mkS ((makeT al1 ([47, 113, 47, 116, 45]) ([(120 : UInt8)] : List UInt8) 3 2 true).2.1))), (5, .int .i64 ((makeT al1 ([47, 113, 47, 116, 45]) ([(120 : UInt8)] : List UInt8) 3 2 true).2.2)), (6, .pointer (some ⟨b1099, 0, none⟩)), (7, .int .i64 ((getT al2 ([47, 113, 47, 116, 45, 48, 48, 48, 48, 48])).2))]) (by kernel_rfl) ?_
 refine Op.goto 9 (by kernel_rfl) ?_
 refine At.reg (L := [(0, false), (1, false), (2, false), (3, false), (4, false), (5, false), (6, false), (7, false), (8, false), (9, false), (10, false), (11, false), (12, false), (13, false), (14, false), (15, false), (16, false), (17, false), (18, false), (19, false), (20, false), (21, false), (22, false), (23, false), (24, false), (25, false), (26, false), (27, false), (28, false), (29, false), (30, false), (31, false), (32, false), (33, false), (34, false), (35, false), (36, false), (37, false), (38, false), (39, false), (40, false), (41, false), (42, false), (43, false), (44, false), (45, false), (46, false), (47, false)]) (by kernel_rfl) ?_
 refine Op.pures 3 [1, 2, 4, 5, 6, 7, 30] (L' := [(3, false), (4, false), (5, false), (6, false), (7, false), (8, false), (9, false), (10, false), (11, false), (12, false), (13, false), (14, false), (15, false), (16, false), (17, false), (18, false), (19, false), (20, false), (21, false), (22, false), (23, false), (24, false), (25, false), (26, false), (27, false), (28, false), (29, false), (30, false), (31, false), (32, false), (33, false), (34, false), (35, false), (36, false), (37, false), (38, false), (39, false), (40, false), (41, false), (42, false), (43, false), (44, false), (45, false), (46, false), (47, false)]) (e' := [(1, .pointer (some ⟨b1061, 0, none⟩)), (2, .string (mkS ((makeT ([⟨[47], [], 0, -1, 0, 0⟩]) ([47, 113]) [] (-1) 1 false).2.1))), (4, .string (mkS ((makeT al1 ([47, 113, 47, 116, 45]) ([(120 : UInt8)] : List UInt8) 3 2 true).2.1))), (5, .int .i64 ((makeT al1 ([47, 113, 47, 116, 45]) ([(120 : UInt8)] : List UInt8) 3 2 true).2.2)), (6, .pointer (some ⟨b1099, 0, none⟩)), (7, .int .i64 ((getT al2 ([47, 113, 47, 116, 45, 48, 48, 48, 48, 48])).2)), (30, .bool (((makeT ([⟨[47], [], 0, -1, 0, 0⟩]) ([47, 113]) [] (-1) 1 false).2.2) == (0 : Int)))]) (by kernel_rfl) ?_
 refine Op.ways (b := ((makeT ([⟨[47], [], 0, -1, 0, 0⟩]) ([47, 113]) [] (-1) 1 false).2.2) == (0 : Int)) ⟨fun hb => ?_, fun hb => ?_⟩
 ·refine Op.cast (e' := [(1, .pointer (some ⟨b1061, 0, none⟩)), (2, .string (mkS ((makeT ([⟨[47], [], 0, -1, 0, 0⟩]) ([47, 113]) [] (-1) 1 false).2.1))), (4, .string (mkS ((makeT al1 ([47, 113, 47, 116, 45]) ([(120 : UInt8)] : List UInt8) 3 2 true).2.1))), (5, .int .i64 ((makeT al1 ([47, 113, 47, 116, 45]) ([(120 : UInt8)] : List UInt8) 3 2 true).2.2)), (6, .pointer (some ⟨b1099, 0, none⟩)), (7, .int .i64 ((getT al2 ([47, 113, 47, 116, 45, 48, 48, 48, 48, 48])).2)), (30, .bool true)]) (by rw [hb]) ?_
  have c1104 : ((makeT ([⟨[47], [], 0, -1, 0, 0⟩]) ([47, 113]) [] (-1) 1 false).2.2) = (0 : Int) := eq_of_beq hb
  clear hb
  refine Op.pures 4 [1, 2, 4, 6, 7, 34] (L' := [(7, false), (8, false), (9, false), (10, false), (11, false), (12, false), (13, false), (14, false), (15, false), (16, false), (17, false), (18, false), (19, false), (20, false), (21, false), (22, false), (23, false), (24, false), (25, false), (26, false), (27, false), (28, false), (29, false), (30, false), (31, false), (32, false), (33, false), (34, false), (35, false), (36, false), (37, false), (38, false), (39, false), (40, false), (41, false), (42, false), (43, false), (44, false), (45, false), (46, false), (47, false)]) (e' := [(1, .pointer (some ⟨b1061, 0, none⟩)), (2, .string (mkS ((makeT ([⟨[47], [], 0, -1, 0, 0⟩]) ([47, 113]) [] (-1) 1 false).2.1))), (4, .string (mkS ((makeT al1 ([47, 113, 47, 116, 45]) ([(120 : UInt8)] : List UInt8) 3 2 true).2.1))), (6, .pointer (some ⟨b1099, 0, none⟩)), (7, .int .i64 ((getT al2 ([47, 113, 47, 116, 45, 48, 48, 48, 48, 48])).2)), (34, .bool (((makeT al1 ([47, 113, 47, 116, 45]) ([(120 : UInt8)] : List UInt8) 3 2 true).2.2) == (0 : Int)))]) (by kernel_rfl) ?_
  refine Op.ways (b := ((makeT al1 ([47, 113, 47, 116, 45]) ([(120 : UInt8)] : List UInt8) 3 2 true).2.2) == (0 : Int)) ⟨fun hb => ?_, fun hb => ?_⟩
  ·refine Op.cast (e' := [(1, .pointer (some ⟨b1061, 0, none⟩)), (2, .string (mkS ((makeT ([⟨[47], [], 0, -1, 0, 0⟩]) ([47, 113]) [] (-1) 1 false).2.1))), (4, .string (mkS ((makeT al1 ([47, 113, 47, 116, 45]) ([(120 : UInt8)] : List UInt8) 3 2 true).2.1))), (6, .pointer (some ⟨b1099, 0, none⟩)), (7, .int .i64 ((getT al2 ([47, 113, 47, 116, 45, 48, 48, 48, 48, 48])).2)), (34, .bool true)]) (by rw [hb]) ?_
   have c1105 : ((makeT al1 ([47, 113, 47, 116, 45]) ([(120 : UInt8)] : List UInt8) 3 2 true).2.2) = (0 : Int) := eq_of_beq hb
   clear hb
   refine Op.pures 4 [1, 2, 4, 6, 38] (L' := [(11, false), (12, false), (13, false), (14, false), (15, false), (16, false), (17, false), (18, false), (19, false), (20, false), (21, false), (22, false), (23, false), (24, false), (25, false), (26, false), (27, false), (28, false), (29, false), (30, false), (31, false), (32, false), (33, false), (34, false), (35, false), (36, false), (37, false), (38, false), (39, false), (40, false), (41, false), (42, false), (43, false), (44, false), (45, false), (46, false), (47, false)]) (e' := [(1, .pointer (some ⟨b1061, 0, none⟩)), (2, .string (mkS ((makeT ([⟨[47], [], 0, -1, 0, 0⟩]) ([47, 113]) [] (-1) 1 false).2.1))), (4, .string (mkS ((makeT al1 ([47, 113, 47, 116, 45]) ([(120 : UInt8)] : List UInt8) 3 2 true).2.1))), (6, .pointer (some ⟨b1099, 0, none⟩)), (38, .bool (((getT al2 ([47, 113, 47, 116, 45, 48, 48, 48, 48, 48])).2) == (0 : Int)))]) (by kernel_rfl) ?_
   refine Op.ways (b := ((getT al2 ([47, 113, 47, 116, 45, 48, 48, 48, 48, 48])).2) == (0 : Int)) ⟨fun hb => ?_, fun hb => ?_⟩
   ·refine Op.cast (e' := [(1, .pointer (some ⟨b1061, 0, none⟩)), (2, .string (mkS ((makeT ([⟨[47], [], 0, -1, 0, 0⟩]) ([47, 113]) [] (-1) 1 false).2.1))), (4, .string (mkS ((makeT al1 ([47, 113, 47, 116, 45]) ([(120 : UInt8)] : List UInt8) 3 2 true).2.1))), (6, .pointer (some ⟨b1099, 0, none⟩)), (38, .bool true)]) (by rw [hb]) ?_
    have c1106 : ((getT al2 ([47, 113, 47, 116, 45, 48, 48, 48, 48, 48])).2) = (0 : Int) := eq_of_beq hb
    clear hb
    refine Op.pures 1 [1, 4, 6, 38, 39] (L' := [(12, false), (13, false), (14, false), (15, false), (16, false), (17, false), (18, false), (19, false), (20, false), (21, false), (22, false), (23, false), (24, false), (25, false), (26, false), (27, false), (28, false), (29, false), (30, false), (31, false), (32, false), (33, false), (34, false), (35, false), (36, false), (37, false), (38, false), (39, false), (40, false), (41, false), (42, false), (43, false), (44, false), (45, false), (46, false), (47, false)]) (e' := [(1, .pointer (some ⟨b1061, 0, none⟩)), (4, .string (mkS ((makeT al1 ([47, 113, 47, 116, 45]) ([(120 : UInt8)] : List UInt8) 3 2 true).2.1))), (6, .pointer (some ⟨b1099, 0, none⟩)), (38, .bool true), (39, .string (mkS ((makeT ([⟨[47], [], 0, -1, 0, 0⟩]) ([47, 113]) [] (-1) 1 false).2.1)))]) (by kernel_rfl) ?_
    refine Op.val (dst := some 40) (v := .bool ((mkS ((makeT ([⟨[47], [], 0, -1, 0, 0⟩]) ([47, 113]) [] (-1) 1 false).2.1)).toList == (mkS ([47, 113])).toList)) (v' := .bool (((makeT ([⟨[47], [], 0, -1, 0, 0⟩]) ([47, 113]) [] (-1) 1 false).2.1) == ([47, 113]))) (by kernel_rfl) (by rw [toList_mkS, toList_mkS]) ?_
    refine Op.pures 2 [1, 4, 6, 42] (L' := [(15, false), (16, false), (17, false), (18, false), (19, false), (20, false), (21, false), (22, false), (23, false), (24, false), (25, false), (26, false), (27, false), (28, false), (29, false), (30, false), (31, false), (32, false), (33, false), (34, false), (35, false), (36, false), (37, false), (38, false), (39, false), (40, false), (41, false), (42, false), (43, false), (44, false), (45, false), (46, false), (47, false)]) (e' := [(1, .pointer (some ⟨b1061, 0, none⟩)), (4, .string (mkS ((makeT al1 ([47, 113, 47, 116, 45]) ([(120 : UInt8)] : List UInt8) 3 2 true).2.1))), (6, .pointer (some ⟨b1099, 0, none⟩)), (42, .bool (((makeT ([⟨[47], [], 0, -1, 0, 0⟩]) ([47, 113]) [] (-1) 1 false).2.1) == ([47, 113])))]) (by kernel_rfl) ?_
    refine Op.ways (b := ((makeT ([⟨[47], [], 0, -1, 0, 0⟩]) ([47, 113]) [] (-1) 1 false).2.1) == ([47, 113])) ⟨fun hb => ?_, fun hb => ?_⟩
    ·refine Op.cast (e' := [(1, .pointer (some ⟨b1061, 0, none⟩)), (4, .string (mkS ((makeT al1 ([47, 113, 47, 116, 45]) ([(120 : UInt8)] : List UInt8) 3 2 true).2.1))), (6, .pointer (some ⟨b1099, 0, none⟩)), (42, .bool true)]) (by rw [hb]) ?_
     have c1107 : ((makeT ([⟨[47], [], 0, -1, 0, 0⟩]) ([47, 113]) [] (-1) 1 false).2.1) = ([47, 113]) := eq_of_beq hb
     clear hb
     refine Op.pures 1 [1, 6, 42, 43] (L' := [(16, false), (17, false), (18, false), (19, false), (20, false), (21, false), (22, false), (23, false), (24, false), (25, false), (26, false), (27, false), (28, false), (29, false), (30, false), (31, false), (32, false), (33, false), (34, false), (35, false), (36, false), (37, false), (38, false), (39, false), (40, false), (41, false), (42, false), (43, false), (44, false), (45, false), (46, false), (47, false)]) (e' := [(1, .pointer (some ⟨b1061, 0, none⟩)), (6, .pointer (some ⟨b1099, 0, none⟩)), (42, .bool true), (43, .string (mkS ((makeT al1 ([47, 113, 47, 116, 45]) ([(120 : UInt8)] : List UInt8) 3 2 true).2.1)))]) (by kernel_rfl) ?_
     refine Op.val (dst := some 44) (v := .bool ((mkS ((makeT al1 ([47, 113, 47, 116, 45]) ([(120 : UInt8)] : List UInt8) 3 2 true).2.1)).toList == (mkS ([47, 113, 47, 116, 45, 48, 48, 48, 48, 48])).toList)) (v' := .bool (((makeT al1 ([47, 113, 47, 116, 45]) ([(120 : UInt8)] : List UInt8) 3 2 true).2.1) == ([47, 113, 47, 116, 45, 48, 48, 48, 48, 48]))) (by kernel_rfl) (by rw [toList_mkS, toList_mkS]) ?_
     refine Op.pures 2 [1, 6, 46] (L' := [(19, false), (20, false), (21, false), (22, false), (23, false), (24, false), (25, false), (26, false), (27, false), (28, false), (29, false), (30, false), (31, false), (32, false), (33, false), (34, false), (35, false), (36, false), (37, false), (38, false), (39, false), (40, false), (41, false), (42, false), (43, false), (44, false), (45, false), (46, false), (47, false)]) (e' := [(1, .pointer (some ⟨b1061, 0, none⟩)), (6, .pointer (some ⟨b1099, 0, none⟩)), (46, .bool (((makeT al1 ([47, 113, 47, 116, 45]) ([(120 : UInt8)] : List UInt8) 3 2 true).2.1) == ([47, 113, 47, 116, 45, 48, 48, 48, 48, 48])))]) (by kernel_rfl) ?_
     refine Op.ways (b := ((makeT al1 ([47, 113, 47, 116, 45]) ([(120 : UInt8)] : List UInt8) 3 2 true).2.1) == ([47, 113, 47, 116, 45, 48, 48, 48, 48, 48])) ⟨fun hb => ?_, fun hb => ?_⟩
     ·refine Op.cast (e' := [(1, .pointer (some ⟨b1061, 0, none⟩)), (6, .pointer (some ⟨b1099, 0, none⟩)), (46, .bool true)]) (by rw [hb]) ?_
      have c1108 : ((makeT al1 ([47, 113, 47, 116, 45]) ([(120 : UInt8)] : List UInt8) 3 2 true).2.1) = ([47, 113, 47, 116, 45, 48, 48, 48, 48, 48]) := eq_of_beq hb
      clear hb
      refine Op.pures 1 [1, 6, 46, 47] (L' := [(20, false), (21, false), (22, false), (23, false), (24, false), (25, false), (26, false), (27, false), (28, false), (29, false), (30, false), (31, false), (32, false), (33, false), (34, false), (35, false), (36, false), (37, false), (38, false), (39, false), (40, false), (41, false), (42, false), (43, false), (44, false), (45, false), (46, false), (47, false)]) (e' := [(1, .pointer (some ⟨b1061, 0, none⟩)), (6, .pointer (some ⟨b1099, 0, none⟩)), (46, .bool true), (47, .pointer (some ⟨b1099, 3, none⟩))]) (by kernel_rfl) ?_
      refine Op.load (T := 3) (x := (.tmp 47)) (o := 3) (d := 48) (n := 1) (v := .int .i64 (((getT al2 ([47, 113, 47, 116, 45, 48, 48, 48, 48, 48])).1).Owner)) (by kernel_rfl) (by kernel_rfl) (by kernel_rfl) (s1103.chunk 0 rfl) (by kernel_rfl) ?_
      refine Op.pures 3 [1, 6, 51] (L' := [(24, false), (25, false), (26, false), (27, false), (28, false), (29, false), (30, false), (31, false), (32, false), (33, false), (34, false), (35, false), (36, false), (37, false), (38, false), (39, false), (40, false), (41, false), (42, false), (43, false), (44, false), (45, false), (46, false), (47, false)]) (e' := [(1, .pointer (some ⟨b1061, 0, none⟩)), (6, .pointer (some ⟨b1099, 0, none⟩)), (51, .bool ((((getT al2 ([47, 113, 47, 116, 45, 48, 48, 48, 48, 48])).1).Owner) == (3 : Int)))]) (by kernel_rfl) ?_
      refine Op.ways (b := (((getT al2 ([47, 113, 47, 116, 45, 48, 48, 48, 48, 48])).1).Owner) == (3 : Int)) ⟨fun hb => ?_, fun hb => ?_⟩
      ·refine Op.cast (e' := [(1, .pointer (some ⟨b1061, 0, none⟩)), (6, .pointer (some ⟨b1099, 0, none⟩)), (51, .bool true)]) (by rw [hb]) ?_
       have c1109 : (((getT al2 ([47, 113, 47, 116, 45, 48, 48, 48, 48, 48])).1).Owner) = (3 : Int) := eq_of_beq hb
       clear hb
       refine Op.pures 1 [1, 51, 52] (L' := [(25, false), (26, false), (27, false), (28, false), (29, false), (30, false), (31, false), (32, false), (33, false), (34, false), (35, false), (36, false), (37, false), (38, false), (39, false), (40, false), (41, false), (42, false), (43, false), (44, false), (45, false), (46, false), (47, false)]) (e' := [(1, .pointer (some ⟨b1061, 0, none⟩)), (51, .bool true), (52, .pointer (some ⟨b1099, 1, none⟩))]) (by kernel_rfl) ?_
       refine Op.load (T := 29) (x := (.tmp 52)) (o := 1) (d := 53) (n := 1) (v := .slice a1095 ((((getT al2 ([47, 113, 47, 116, 45, 48, 48, 48, 48, 48])).1).Data).length) n1096) (by kernel_rfl) (by kernel_rfl) (by kernel_rfl) (s1103.chunk 0 rfl) (by kernel_rfl) ?_
       refine Op.ofBytes (T := 29) (S := 9) (E := 5) (x := (.tmp 53)) (dst := 54) (l := ((getT al2 ([47, 113, 47, 116, 45, 48, 48, 48, 48, 48])).1).Data) (by kernel_rfl) (by kernel_rfl) (by kernel_rfl) (by kernel_rfl) (by kernel_rfl) (R1094.toH s1103 2 rfl) ?_
       refine Op.val (dst := some 55) (v := .bool ((mkS (((getT al2 ([47, 113, 47, 116, 45, 48, 48, 48, 48, 48])).1).Data)).toList == (mkS ([120])).toList)) (v' := .bool ((((getT al2 ([47, 113, 47, 116, 45, 48, 48, 48, 48, 48])).1).Data) == ([120]))) (by kernel_rfl) (by rw [toList_mkS, toList_mkS]) ?_
       refine Op.pures 2 [1, 57] (L' := [(30, false), (31, false), (32, false), (33, false), (34, false), (35, false), (36, false), (37, false), (38, false), (39, false), (40, false), (41, false), (42, false), (43, false), (44, false), (45, false), (46, false), (47, false)]) (e' := [(1, .pointer (some ⟨b1061, 0, none⟩)), (57, .bool ((((getT al2 ([47, 113, 47, 116, 45, 48, 48, 48, 48, 48])).1).Data) == ([120])))]) (by kernel_rfl) ?_
       refine Op.ways (b := (((getT al2 ([47, 113, 47, 116, 45, 48, 48, 48, 48, 48])).1).Data) == ([120])) ⟨fun hb => ?_, fun hb => ?_⟩
       ·refine Op.cast (e' := [(1, .pointer (some ⟨b1061, 0, none⟩)), (57, .bool true)]) (by rw [hb]) ?_
        have c1110 : (((getT al2 ([47, 113, 47, 116, 45, 48, 48, 48, 48, 48])).1).Data) = ([120]) := eq_of_beq hb
        clear hb
        refine Op.pures 1 [1, 57, 58] (L' := [(31, false), (32, false), (33, false), (34, false), (35, false), (36, false), (37, false), (38, false), (39, false), (40, false), (41, false), (42, false), (43, false), (44, false), (45, false), (46, false), (47, false)]) (e' := [(1, .pointer (some ⟨b1061, 0, none⟩)), (57, .bool true), (58, .pointer (some ⟨b1061, 0, none⟩))]) (by kernel_rfl) ?_
        have s1111 : St h g (ids []) g1076 [c1083, [(b1099, Obj.cells #[.string (mkS (((getT al2 ([47, 113, 47, 116, 45, 48, 48, 48, 48, 48])).1).Path)), .slice a1095 ((((getT al2 ([47, 113, 47, 116, 45, 48, 48, 48, 48, 48])).1).Data).length) n1096, .int .i64 (((getT al2 ([47, 113, 47, 116, 45, 48, 48, 48, 48, 48])).1).Version), .int .i64 (((getT al2 ([47, 113, 47, 116, 45, 48, 48, 48, 48, 48])).1).Owner), .int .i64 (((getT al2 ([47, 113, 47, 116, 45, 48, 48, 48, 48, 48])).1).Next), .int .i64 (((getT al2 ([47, 113, 47, 116, 45, 48, 48, 48, 48, 48])).1).Born)] 59 (0, 0))], ch1093] h1102 := ((s1103.front 0 rfl).front 1 rfl)
        refine Op.call (dst := some 59) (f := 33) (args := #[.pointer (some ⟨b1061, 0, none⟩), .string (mkS ([47, 113])), .int .i64 (-1)]) (Lc := [c1083]) (L := [[(b1099, Obj.cells #[.string (mkS (((getT al2 ([47, 113, 47, 116, 45, 48, 48, 48, 48, 48])).1).Path)), .slice a1095 ((((getT al2 ([47, 113, 47, 116, 45, 48, 48, 48, 48, 48])).1).Data).length) n1096, .int .i64 (((getT al2 ([47, 113, 47, 116, 45, 48, 48, 48, 48, 48])).1).Version), .int .i64 (((getT al2 ([47, 113, 47, 116, 45, 48, 48, 48, 48, 48])).1).Owner), .int .i64 (((getT al2 ([47, 113, 47, 116, 45, 48, 48, 48, 48, 48])).1).Next), .int .i64 (((getT al2 ([47, 113, 47, 116, 45, 48, 48, 48, 48, 48])).1).Born)] 59 (0, 0))], ch1093]) (by kernel_rfl) s1111 (dropF _ _ _ s1111.sub hG b1061 al2 _ o1087 ([47, 113]) (-1) (by ((try dsimp only) <;> (exact al_b2))) (by ((try dsimp only) <;> (decide))) (St.part (Lc := [c1083]) (L := [[(b1099, Obj.cells #[.string (mkS (((getT al2 ([47, 113, 47, 116, 45, 48, 48, 48, 48, 48])).1).Path)), .slice a1095 ((((getT al2 ([47, 113, 47, 116, 45, 48, 48, 48, 48, 48])).1).Data).length) n1096, .int .i64 (((getT al2 ([47, 113, 47, 116, 45, 48, 48, 48, 48, 48])).1).Version), .int .i64 (((getT al2 ([47, 113, 47, 116, 45, 48, 48, 48, 48, 48])).1).Owner), .int .i64 (((getT al2 ([47, 113, 47, 116, 45, 48, 48, 48, 48, 48])).1).Next), .int .i64 (((getT al2 ([47, 113, 47, 116, 45, 48, 48, 48, 48, 48])).1).Born)] 59 (0, 0))], ch1093]) s1111)) (fun _ _ _ => trivial) ?_
        rintro _ g1116 _ h1112 hle1117 s1113 ⟨c1114, rfl, o1115, hgg, rfl⟩; subst g1116; clear hle1117
        refine Op.pures 3 [1, 62] (L' := [(35, false), (36, false), (37, false), (38, false), (39, false), (40, false), (41, false), (42, false), (43, false), (44, false), (45, false), (46, false), (47, false)]) (e' := [(1, .pointer (some ⟨b1061, 0, none⟩)), (62, .bool (((dropT al2 ([47, 113]) (-1)).2) == (103 : Int)))]) (by kernel_rfl) ?_
        refine Op.ways (b := ((dropT al2 ([47, 113]) (-1)).2) == (103 : Int)) ⟨fun hb => ?_, fun hb => ?_⟩
        ·refine Op.cast (e' := [(1, .pointer (some ⟨b1061, 0, none⟩)), (62, .bool true)]) (by rw [hb]) ?_
         have c1118 : ((dropT al2 ([47, 113]) (-1)).2) = (103 : Int) := eq_of_beq hb
         clear hb
         refine Op.pures 1 [1, 62, 63] (L' := [(36, false), (37, false), (38, false), (39, false), (40, false), (41, false), (42, false), (43, false), (44, false), (45, false), (46, false), (47, false)]) (e' := [(1, .pointer (some ⟨b1061, 0, none⟩)), (62, .bool true), (63, .pointer (some ⟨b1061, 0, none⟩))]) (by kernel_rfl) ?_
         have hl1119 := s1113.frzle
         have hz1120 := IsTree.frz o1115 s1113 (by intro p hp; simp only [List.mem_append, hp, true_or, or_true])
         refine Op.lend (dst := some 64) (f := 30) (args := #[.pointer (some ⟨b1061, 0, none⟩)]) (cf := (c1114 : Chunk)) (Lc := []) (L := [[(b1099, Obj.cells #[.string (mkS (((getT al2 ([47, 113, 47, 116, 45, 48, 48, 48, 48, 48])).1).Path)), .slice a1095 ((((getT al2 ([47, 113, 47, 116, 45, 48, 48, 48, 48, 48])).1).Data).length) n1096, .int .i64 (((getT al2 ([47, 113, 47, 116, 45, 48, 48, 48, 48, 48])).1).Version), .int .i64 (((getT al2 ([47, 113, 47, 116, 45, 48, 48, 48, 48, 48])).1).Owner), .int .i64 (((getT al2 ([47, 113, 47, 116, 45, 48, 48, 48, 48, 48])).1).Next), .int .i64 (((getT al2 ([47, 113, 47, 116, 45, 48, 48, 48, 48, 48])).1).Born)] 59 (0, 0))], ch1093]) (by kernel_rfl) s1113 (allF _ _ _ s1113.frzsub (hG.mono hl1119) b1061 ((dropT al2 ([47, 113]) (-1)).1) hz1120 (by ((try dsimp only) <;> (exact al_b2))) ) (fun _ _ _ hp => by obtain ⟨_, _, _, _, _, hgg, _⟩ := hp; exact hgg) (fun _ _ h => absurd h (ids_nil _)) ?_
         rintro _ _ h1121 s1122 ⟨v1123, ch1124, dc1125, rfl, R1126, hgg, rfl⟩; clear hgg
         have s1129 : St h g (ids []) g1076 [ch1124, dc1125, c1114, [(b1099, Obj.cells #[.string (mkS (((getT al2 ([47, 113, 47, 116, 45, 48, 48, 48, 48, 48])).1).Path)), .slice a1095 ((((getT al2 ([47, 113, 47, 116, 45, 48, 48, 48, 48, 48])).1).Data).length) n1096, .int .i64 (((getT al2 ([47, 113, 47, 116, 45, 48, 48, 48, 48, 48])).1).Version), .int .i64 (((getT al2 ([47, 113, 47, 116, 45, 48, 48, 48, 48, 48])).1).Owner), .int .i64 (((getT al2 ([47, 113, 47, 116, 45, 48, 48, 48, 48, 48])).1).Next), .int .i64 (((getT al2 ([47, 113, 47, 116, 45, 48, 48, 48, 48, 48])).1).Born)] 59 (0, 0))], ch1093] h1121 := (((s1122.front 0 rfl).front 2 rfl).front 2 rfl)
         obtain ⟨g1130, s1131, hle1132, hf1133⟩ := Deep.freeze R1126 s1129
         replace R1094 := R1094.mono hle1132
         replace hG := hG.mono hle1132
         replace hP := hP.mono hle1132
         replace o1115 := o1115.mono hle1132
         obtain ⟨a1134, n1135, rfl⟩ := hf1133.form
         refine Op.pures 4 [1, 68] (L' := [(41, false), (42, false), (43, false), (44, false), (45, false), (46, false), (47, false)]) (e' := [(1, .pointer (some ⟨b1061, 0, none⟩)), (68, .bool (((((dropT al2 ([47, 113]) (-1)).1)).length : Int) == (3 : Int)))]) (by kernel_rfl) ?_
         refine Op.ways (b := ((((dropT al2 ([47, 113]) (-1)).1)).length : Int) == (3 : Int)) ⟨fun hb => ?_, fun hb => ?_⟩
         ·refine Op.cast (e' := [(1, .pointer (some ⟨b1061, 0, none⟩)), (68, .bool true)]) (by rw [hb]) ?_
          have c1136 : ((((dropT al2 ([47, 113]) (-1)).1)).length : Int) = (3 : Int) := eq_of_beq hb
          clear hb
          refine Op.pures 1 [68, 69] (L' := [(42, false), (43, false), (44, false), (45, false), (46, false), (47, false)]) (e' := [(68, .bool true), (69, .pointer (some ⟨b1061, 0, none⟩))]) (by kernel_rfl) ?_
          refine Op.lit (T := 44) (len := 1) (parts := #[(0, (.const (.int .i64 3)))]) (dst := 70) (E := 3) (ps := [(0, .int .i64 3)]) (cs := #[.int .i64 3]) (by kernel_rfl) (by kernel_rfl) (by kernel_rfl) s1131 ?_
          intro b1137 h1138 s1139
          have R1140 : Row 3 (kInt .i64) g1130 (.slice (some ⟨b1137, 0, none⟩) 1 1) [3] [(b1137, Obj.cells #[.int .i64 3] 3 (0, 0))] := Row.lit (by kernel_rfl) (by unfold maxLen; decide) (by kernel_rfl) ⟨_, _, rfl, rfl, Reads.nil⟩
          have s1141 : St h g (ids []) g1130 (([(b1137, Obj.cells #[.int .i64 3] 3 (0, 0))] ++ c1114 : Chunk) :: [[(b1099, Obj.cells #[.string (mkS (((getT al2 ([47, 113, 47, 116, 45, 48, 48, 48, 48, 48])).1).Path)), .slice a1095 ((((getT al2 ([47, 113, 47, 116, 45, 48, 48, 48, 48, 48])).1).Data).length) n1096, .int .i64 (((getT al2 ([47, 113, 47, 116, 45, 48, 48, 48, 48, 48])).1).Version), .int .i64 (((getT al2 ([47, 113, 47, 116, 45, 48, 48, 48, 48, 48])).1).Owner), .int .i64 (((getT al2 ([47, 113, 47, 116, 45, 48, 48, 48, 48, 48])).1).Next), .int .i64 (((getT al2 ([47, 113, 47, 116, 45, 48, 48, 48, 48, 48])).1).Born)] 59 (0, 0))], ch1093]) h1138 := St.flat (by simp only [List.flatten_cons, List.append_assoc, List.cons_append, List.nil_append, List.append_nil]) s1139
          have hl1142 := s1141.frzle
          have hz1143 := R1140.frzIn (c := ([(b1137, Obj.cells #[.int .i64 3] 3 (0, 0))] ++ c1114 : Chunk)) s1141 (by intro p hp; simp only [List.mem_append, hp, true_or, or_true])
          have hz1144 := IsTree.frz o1115 s1141 (by intro p hp; simp only [List.mem_append, hp, true_or, or_true])
          refine Op.lend (dst := some 71) (f := 31) (args := #[.pointer (some ⟨b1061, 0, none⟩), .slice (some ⟨b1137, 0, none⟩) 1 1]) (cf := ([(b1137, Obj.cells #[.int .i64 3] 3 (0, 0))] ++ c1114 : Chunk)) (Lc := []) (L := [[(b1099, Obj.cells #[.string (mkS (((getT al2 ([47, 113, 47, 116, 45, 48, 48, 48, 48, 48])).1).Path)), .slice a1095 ((((getT al2 ([47, 113, 47, 116, 45, 48, 48, 48, 48, 48])).1).Data).length) n1096, .int .i64 (((getT al2 ([47, 113, 47, 116, 45, 48, 48, 48, 48, 48])).1).Version), .int .i64 (((getT al2 ([47, 113, 47, 116, 45, 48, 48, 48, 48, 48])).1).Owner), .int .i64 (((getT al2 ([47, 113, 47, 116, 45, 48, 48, 48, 48, 48])).1).Next), .int .i64 (((getT al2 ([47, 113, 47, 116, 45, 48, 48, 48, 48, 48])).1).Born)] 59 (0, 0))], ch1093]) (by kernel_rfl) s1141 (ownedF _ _ _ s1141.frzsub (hG.mono hl1142) b1061 ((dropT al2 ([47, 113]) (-1)).1) hz1144 _ _ hz1143 (by ((try dsimp only) <;> (exact al_b2))) (by ((try dsimp only) <;> (decide))) ) (fun _ _ _ hp => by obtain ⟨_, _, _, _, hgg, _⟩ := hp; exact hgg) (fun _ _ h => absurd h (ids_nil _)) ?_
          rintro _ _ h1145 s1146 ⟨v1147, ch1148, rfl, R1149, hgg, rfl⟩; clear hgg
          obtain ⟨a1150, n1151, rfl⟩ := R1149.form
          replace R1149 := R1149.flat (fun _ _ _ _ h => h) (g' := g1130)
          have s1154 : St h g (ids []) g1130 [[(b1137, Obj.cells #[.int .i64 3] 3 (0, 0))], c1114, ch1148, [(b1099, Obj.cells #[.string (mkS (((getT al2 ([47, 113, 47, 116, 45, 48, 48, 48, 48, 48])).1).Path)), .slice a1095 ((((getT al2 ([47, 113, 47, 116, 45, 48, 48, 48, 48, 48])).1).Data).length) n1096, .int .i64 (((getT al2 ([47, 113, 47, 116, 45, 48, 48, 48, 48, 48])).1).Version), .int .i64 (((getT al2 ([47, 113, 47, 116, 45, 48, 48, 48, 48, 48])).1).Owner), .int .i64 (((getT al2 ([47, 113, 47, 116, 45, 48, 48, 48, 48, 48])).1).Next), .int .i64 (((getT al2 ([47, 113, 47, 116, 45, 48, 48, 48, 48, 48])).1).Born)] 59 (0, 0))], ch1093] h1145 := St.flat (by simp only [List.flatten_cons, List.append_assoc, List.cons_append, List.nil_append, List.append_nil]) s1146
          refine Op.pures 4 [0] (L' := []) (e' := [(0, .bool (((ownedL ((dropT al2 ([47, 113]) (-1)).1) ([3])).length : Int) == (1 : Int)))]) (by kernel_rfl) ?_
          refine Op.goto 10 (by kernel_rfl) ?_
          refine At.ret (f := Tryz.f25) (v := .bool (((ownedL ((dropT al2 ([47, 113]) (-1)).1) ([3])).length : Int) == (1 : Int))) (by kernel_rfl) (by kernel_rfl) ?_
          have s1155 : St h g (ids []) g1130 [] h1145 := (s1154).drop.drop.drop.drop.drop
          have s1156 : St h g (ids []) g [] h1145 := s1155.unfrz
          refine hR _ _ _ _ s1156 ⟨?_, rfl, rfl⟩
          exact (eqB (by rfl))
         ·refine Op.cast (e' := [(1, .pointer (some ⟨b1061, 0, none⟩)), (68, .bool false)]) (by rw [hb]) ?_
          have c1157 : ¬ (((((dropT al2 ([47, 113]) (-1)).1)).length : Int) = (3 : Int)) := neF hb
          clear hb
          refine Op.pures 7 [0] (L' := []) (e' := [(0, .bool false)]) (by kernel_rfl) ?_
          refine Op.goto 10 (by kernel_rfl) ?_
          refine At.ret (f := Tryz.f25) (v := .bool false) (by kernel_rfl) (by kernel_rfl) ?_
          have s1158 : St h g (ids []) g1130 [] h1121 := (s1131).drop.drop.drop
          have s1159 : St h g (ids []) g [] h1121 := s1158.unfrz
          refine hR _ _ _ _ s1159 ⟨?_, rfl, rfl⟩
          exact (eqB (by exact absurd (by rw [al_4]; first | done | rfl | decide +kernel) c1157))
        ·refine Op.cast (e' := [(1, .pointer (some ⟨b1061, 0, none⟩)), (62, .bool false)]) (by rw [hb]) ?_
         have c1160 : ¬ (((dropT al2 ([47, 113]) (-1)).2) = (103 : Int)) := neF hb
         clear hb
         refine Op.pures 13 [0] (L' := []) (e' := [(0, .bool false)]) (by kernel_rfl) ?_
         refine Op.goto 10 (by kernel_rfl) ?_
         refine At.ret (f := Tryz.f25) (v := .bool false) (by kernel_rfl) (by kernel_rfl) ?_
         have s1161 : St h g (ids []) g1076 [] h1112 := (s1113).drop.drop.drop
         have s1162 : St h g (ids []) g [] h1112 := s1161.unfrz
         refine hR _ _ _ _ s1162 ⟨?_, rfl, rfl⟩
         exact (eqB (by exact absurd (by rw [al_4]; first | done | rfl | decide +kernel) c1160))
       ·refine Op.cast (e' := [(1, .pointer (some ⟨b1061, 0, none⟩)), (57, .bool false)]) (by rw [hb]) ?_
        have c1163 : ¬ ((((getT al2 ([47, 113, 47, 116, 45, 48, 48, 48, 48, 48])).1).Data) = ([120])) := neF hb
        clear hb
        refine Op.pures 18 [0] (L' := []) (e' := [(0, .bool false)]) (by kernel_rfl) ?_
        refine Op.goto 10 (by kernel_rfl) ?_
        refine At.ret (f := Tryz.f25) (v := .bool false) (by kernel_rfl) (by kernel_rfl) ?_
        have s1164 : St h g (ids []) g1076 [] h1102 := (s1103).drop.drop.drop
        have s1165 : St h g (ids []) g [] h1102 := s1164.unfrz
        refine hR _ _ _ _ s1165 ⟨?_, rfl, rfl⟩
        exact (eqB (by exact absurd (by rw [al_3]; first | done | rfl | decide +kernel) c1163))
      ·refine Op.cast (e' := [(1, .pointer (some ⟨b1061, 0, none⟩)), (6, .pointer (some ⟨b1099, 0, none⟩)), (51, .bool false)]) (by rw [hb]) ?_
       have c1166 : ¬ ((((getT al2 ([47, 113, 47, 116, 45, 48, 48, 48, 48, 48])).1).Owner) = (3 : Int)) := neF hb
       clear hb
       refine Op.pures 24 [0] (L' := []) (e' := [(0, .bool false)]) (by kernel_rfl) ?_
       refine Op.goto 10 (by kernel_rfl) ?_
       refine At.ret (f := Tryz.f25) (v := .bool false) (by kernel_rfl) (by kernel_rfl) ?_
       have s1167 : St h g (ids []) g1076 [] h1102 := (s1103).drop.drop.drop
       have s1168 : St h g (ids []) g [] h1102 := s1167.unfrz
       refine hR _ _ _ _ s1168 ⟨?_, rfl, rfl⟩
       exact (eqB (by exact absurd (by rw [al_3]; first | done | rfl | decide +kernel) c1166))
     ·refine Op.cast (e' := [(1, .pointer (some ⟨b1061, 0, none⟩)), (6, .pointer (some ⟨b1099, 0, none⟩)), (46, .bool false)]) (by rw [hb]) ?_
      have c1169 : ¬ (((makeT al1 ([47, 113, 47, 116, 45]) ([(120 : UInt8)] : List UInt8) 3 2 true).2.1) = ([47, 113, 47, 116, 45, 48, 48, 48, 48, 48])) := neF hb
      clear hb
      refine Op.pures 29 [0] (L' := []) (e' := [(0, .bool false)]) (by kernel_rfl) ?_
      refine Op.goto 10 (by kernel_rfl) ?_
      refine At.ret (f := Tryz.f25) (v := .bool false) (by kernel_rfl) (by kernel_rfl) ?_
      have s1170 : St h g (ids []) g1076 [] h1102 := (s1103).drop.drop.drop
      have s1171 : St h g (ids []) g [] h1102 := s1170.unfrz
      refine hR _ _ _ _ s1171 ⟨?_, rfl, rfl⟩
      exact (eqB (by exact absurd (by rw [al_2]; first | done | rfl | decide +kernel) c1169))
    ·refine Op.cast (e' := [(1, .pointer (some ⟨b1061, 0, none⟩)), (4, .string (mkS ((makeT al1 ([47, 113, 47, 116, 45]) ([(120 : UInt8)] : List UInt8) 3 2 true).2.1))), (6, .pointer (some ⟨b1099, 0, none⟩)), (42, .bool false)]) (by rw [hb]) ?_
     have c1172 : ¬ (((makeT ([⟨[47], [], 0, -1, 0, 0⟩]) ([47, 113]) [] (-1) 1 false).2.1) = ([47, 113])) := neF hb
     clear hb
     refine Op.pures 33 [0] (L' := []) (e' := [(0, .bool false)]) (by kernel_rfl) ?_
     refine Op.goto 10 (by kernel_rfl) ?_
     refine At.ret (f := Tryz.f25) (v := .bool false) (by kernel_rfl) (by kernel_rfl) ?_
     have s1173 : St h g (ids []) g1076 [] h1102 := (s1103).drop.drop.drop
     have s1174 : St h g (ids []) g [] h1102 := s1173.unfrz
     refine hR _ _ _ _ s1174 ⟨?_, rfl, rfl⟩
     exact (eqB (by exact absurd (by rw [al_1]; first | done | rfl | decide +kernel) c1172))
   ·refine Op.cast (e' := [(1, .pointer (some ⟨b1061, 0, none⟩)), (2, .string (mkS ((makeT ([⟨[47], [], 0, -1, 0, 0⟩]) ([47, 113]) [] (-1) 1 false).2.1))), (4, .string (mkS ((makeT al1 ([47, 113, 47, 116, 45]) ([(120 : UInt8)] : List UInt8) 3 2 true).2.1))), (6, .pointer (some ⟨b1099, 0, none⟩)), (38, .bool false)]) (by rw [hb]) ?_
    have c1175 : ¬ (((getT al2 ([47, 113, 47, 116, 45, 48, 48, 48, 48, 48])).2) = (0 : Int)) := neF hb
    clear hb
    refine Op.pures 37 [0] (L' := []) (e' := [(0, .bool false)]) (by kernel_rfl) ?_
    refine Op.goto 10 (by kernel_rfl) ?_
    refine At.ret (f := Tryz.f25) (v := .bool false) (by kernel_rfl) (by kernel_rfl) ?_
    have s1176 : St h g (ids []) g1076 [] h1102 := (s1103).drop.drop.drop
    have s1177 : St h g (ids []) g [] h1102 := s1176.unfrz
    refine hR _ _ _ _ s1177 ⟨?_, rfl, rfl⟩
    exact (eqB (by exact absurd (by rw [al_3]; first | done | rfl | decide +kernel) c1175))
  ·refine Op.cast (e' := [(1, .pointer (some ⟨b1061, 0, none⟩)), (2, .string (mkS ((makeT ([⟨[47], [], 0, -1, 0, 0⟩]) ([47, 113]) [] (-1) 1 false).2.1))), (4, .string (mkS ((makeT al1 ([47, 113, 47, 116, 45]) ([(120 : UInt8)] : List UInt8) 3 2 true).2.1))), (6, .pointer (some ⟨b1099, 0, none⟩)), (7, .int .i64 ((getT al2 ([47, 113, 47, 116, 45, 48, 48, 48, 48, 48])).2)), (34, .bool false)]) (by rw [hb]) ?_
   have c1178 : ¬ (((makeT al1 ([47, 113, 47, 116, 45]) ([(120 : UInt8)] : List UInt8) 3 2 true).2.2) = (0 : Int)) := neF hb
   clear hb
   refine Op.pures 41 [0] (L' := []) (e' := [(0, .bool false)]) (by kernel_rfl) ?_
   refine Op.goto 10 (by kernel_rfl) ?_
   refine At.ret (f := Tryz.f25) (v := .bool false) (by kernel_rfl) (by kernel_rfl) ?_
   have s1179 : St h g (ids []) g1076 [] h1102 := (s1103).drop.drop.drop
   have s1180 : St h g (ids []) g [] h1102 := s1179.unfrz
   refine hR _ _ _ _ s1180 ⟨?_, rfl, rfl⟩
   exact (eqB (by exact absurd (by rw [al_2]; first | done | rfl | decide +kernel) c1178))
 ·refine Op.cast (e' := [(1, .pointer (some ⟨b1061, 0, none⟩)), (2, .string (mkS ((makeT ([⟨[47], [], 0, -1, 0, 0⟩]) ([47, 113]) [] (-1) 1 false).2.1))), (4, .string (mkS ((makeT al1 ([47, 113, 47, 116, 45]) ([(120 : UInt8)] : List UInt8) 3 2 true).2.1))), (5, .int .i64 ((makeT al1 ([47, 113, 47, 116, 45]) ([(120 : UInt8)] : List UInt8) 3 2 true).2.2)), (6, .pointer (some ⟨b1099, 0, none⟩)), (7, .int .i64 ((getT al2 ([47, 113, 47, 116, 45, 48, 48, 48, 48, 48])).2)), (30, .bool false)]) (by rw [hb]) ?_
  have c1181 : ¬ (((makeT ([⟨[47], [], 0, -1, 0, 0⟩]) ([47, 113]) [] (-1) 1 false).2.2) = (0 : Int)) := neF hb
  clear hb
  refine Op.pures 45 [0] (L' := []) (e' := [(0, .bool false)]) (by kernel_rfl) ?_
  refine Op.goto 10 (by kernel_rfl) ?_
  refine At.ret (f := Tryz.f25) (v := .bool false) (by kernel_rfl) (by kernel_rfl) ?_
  have s1182 : St h g (ids []) g1076 [] h1102 := (s1103).drop.drop.drop
  have s1183 : St h g (ids []) g [] h1102 := s1182.unfrz
  refine hR _ _ _ _ s1183 ⟨?_, rfl, rfl⟩
  exact (eqB (by exact absurd (by rw [al_1]; first | done | rfl | decide +kernel) c1181))
end Go.Proofs.YtmjebehhpojihaaGreatDoor.Sw
namespace Go.Proofs.YtmjebehhpojihaaGreatDoor.Sw
open Go
set_option maxRecDepth 100000
set_option linter.unusedVariables false
set_option linter.unusedSimpArgs false
set_option linter.deprecated false
theorem lawBack10 (B : World) (h : Heap) (g : GH) (hg : Sub g h) (hG : Glob g) (v_script : Value) (script : List L10Op) (h_script : SlR g 49 kL10Op v_script script) (p : List UInt8) (v_data : Value) (data : List UInt8) (h_data : SlR g 5 kU8 v_data data) (num : Bool) (hP : Pow10 g) (h1 : script.length ≤ 2000000) (hb : ∀ o ∈ script, o.Path.length ≤ 2000000 ∧ o.Data.length ≤ 2000000) (hp : p.length ≤ 2000000) (hd : data.length ≤ 2000000) :
  Spec Tryz.prog B 10 #[v_script, .string (mkS p), v_data, .bool num] h g [] (fun rv g' L' => rv = .bool true ∧ g' = g ∧ L' = []) := by
 obtain ⟨a_script, n_script, rfl⟩ := h_script.form
 obtain ⟨a_data, n_data, rfl⟩ := h_data.form
 refine Spec.of_at (f := Tryz.f10) (e := [(0, .slice a_script script.length n_script), (1, .string (mkS p)), (2, .slice a_data data.length n_data), (3, .bool num)]) Tryz.func10 (by kernel_rfl) (Nat.le_of_ble_eq_true (by kernel_rfl)) (by kernel_rfl) (by kernel_rfl) ?_
 intro R hR
 have s0 := St.init hg
 refine At.reg (L := [(0, false)]) (by kernel_rfl) ?_
 refine Op.pures 1 [0, 1, 2, 3] (L' := []) (e' := [(0, .slice a_script script.length n_script), (1, .string (mkS p)), (2, .slice a_data data.length n_data), (3, .bool num)]) (by kernel_rfl) ?_
 refine Op.goto 1 (by kernel_rfl) ?_
 refine At.reg (L := [(0, false), (1, false)]) (by kernel_rfl) ?_
 refine Op.call0 (dst := some 20) (f := 25) (args := #[]) (by kernel_rfl) s0 (alive10 _ _ _ s0.sub hG  hP ) ?_
 rintro _ g1003 _ h1001 hle1004 s1002 ⟨rfl, hgg, rfl⟩; subst g1003; clear hle1004
 refine Op.pures 1 [0, 1, 2, 3, 21] (L' := []) (e' := [(0, .slice a_script script.length n_script), (1, .string (mkS p)), (2, .slice a_data data.length n_data), (3, .bool num), (21, .bool false)]) (by kernel_rfl) ?_
 refine Op.goto 2 (by kernel_rfl) ?_
 refine At.condF (c := .tmp 21) (by kernel_rfl) (by kernel_rfl) (by kernel_rfl) 5 (by kernel_rfl) ?_
 refine At.reg (L := [(0, false), (1, false), (2, false), (3, false), (4, false), (5, false), (6, false), (7, false), (8, false), (9, false)]) (by kernel_rfl) ?_
 refine Op.pures 1 [0, 1, 2, 3, 22] (L' := [(1, false), (2, false), (3, false), (4, false), (5, false), (6, false), (7, false), (8, false), (9, false)]) (e' := [(0, .slice a_script script.length n_script), (1, .string (mkS p)), (2, .slice a_data data.length n_data), (3, .bool num), (22, .slice a_script script.length n_script)]) (by kernel_rfl) ?_
 refine Op.call0 (dst := some 23) (f := 26) (args := #[.slice a_script script.length n_script]) (by kernel_rfl) s1002 (great10 _ _ _ s1002.sub hG _ _ h_script (by ((try dsimp only) <;> (omega))) (by ((try dsimp only) <;> (omega))) ) ?_
 rintro _ g1007 _ h1005 hle1008 s1006 ⟨rfl, hgg, rfl⟩; subst g1007; clear hle1008
 refine Op.pures 1 [0, 1, 2, 3, 24] (L' := [(3, false), (4, false), (5, false), (6, false), (7, false), (8, false), (9, false)]) (e' := [(0, .slice a_script script.length n_script), (1, .string (mkS p)), (2, .slice a_data data.length n_data), (3, .bool num), (24, .bool (greatB script))]) (by kernel_rfl) ?_
 refine Op.ways (b := greatB script) ⟨fun hb => ?_, fun hb => ?_⟩
 ·refine Op.cast (e' := [(0, .slice a_script script.length n_script), (1, .string (mkS p)), (2, .slice a_data data.length n_data), (3, .bool num), (24, .bool true)]) (by rw [hb]) ?_
  have c1009 : (greatB script) = true := hb
  clear hb
  refine Op.pures 7 [0, 1, 2, 3, 31] (L' := []) (e' := [(0, .slice a_script script.length n_script), (1, .string (mkS p)), (2, .slice a_data data.length n_data), (3, .bool num), (31, .bool true)]) (by kernel_rfl) ?_
  refine Op.goto 6 (by kernel_rfl) ?_
  refine At.condT (c := .tmp 31) (by kernel_rfl) (by kernel_rfl) (by kernel_rfl) 7 (by kernel_rfl) ?_
  refine At.reg (L := [(0, false)]) (by kernel_rfl) ?_
  refine Op.pures 1 [8] (L' := []) (e' := [(8, .bool true)]) (by kernel_rfl) ?_
  refine Op.goto 8 (by kernel_rfl) ?_
  refine At.ret (f := Tryz.f10) (v := .bool true) (by kernel_rfl) (by kernel_rfl) ?_
  refine hR _ _ _ _ s1006 ⟨?_, rfl, rfl⟩
  exact (eqB (by rfl))
 ·refine Op.cast (e' := [(0, .slice a_script script.length n_script), (1, .string (mkS p)), (2, .slice a_data data.length n_data), (3, .bool num), (24, .bool false)]) (by rw [hb]) ?_
  have c1010 : (greatB script) = false := hb
  clear hb
  refine Op.pures 4 [0, 1, 2, 3, 24, 26, 28] (L' := [(7, false), (8, false), (9, false)]) (e' := [(0, .slice a_script script.length n_script), (1, .string (mkS p)), (2, .slice a_data data.length n_data), (3, .bool num), (24, .bool false), (26, .int .i64 (p.length : Int)), (28, .int .i64 (data.length : Int))]) (by kernel_rfl) ?_
  refine Op.val (dst := some 29) (v := .int .i64 (IntKind.wrap .i64 ((p.length : Int) + (data.length : Int)))) (v' := .int .i64 ((p.length : Int) + (data.length : Int))) (by kernel_rfl) (wrapEq_i64 (by omega) (by omega)) ?_
  refine Op.pures 2 [0, 1, 2, 3, 31] (L' := []) (e' := [(0, .slice a_script script.length n_script), (1, .string (mkS p)), (2, .slice a_data data.length n_data), (3, .bool num), (31, .bool (decide (((p.length : Int) + (data.length : Int)) > (1000 : Int))))]) (by kernel_rfl) ?_
  refine Op.goto 6 (by kernel_rfl) ?_
  refine At.cond (b := decide (((p.length : Int) + (data.length : Int)) > (1000 : Int))) (c := .tmp 31) (by kernel_rfl) (by kernel_rfl) (by kernel_rfl) 7 9 (by kernel_rfl) (by kernel_rfl) (fun hb => ?_) (fun hb => ?_)
  ·have c1011 : ((p.length : Int) + (data.length : Int)) > (1000 : Int) := of_decide_eq_true hb
   clear hb
   refine At.keep [] ?_; show At _ _ _ [] _
   refine At.reg (L := [(0, false)]) (by kernel_rfl) ?_
   refine Op.pures 1 [8] (L' := []) (e' := [(8, .bool true)]) (by kernel_rfl) ?_
   refine Op.goto 8 (by kernel_rfl) ?_
   refine At.ret (f := Tryz.f10) (v := .bool true) (by kernel_rfl) (by kernel_rfl) ?_
   refine hR _ _ _ _ s1006 ⟨?_, rfl, rfl⟩
   exact (eqB (by rfl))
  ·have c1012 : ¬ (((p.length : Int) + (data.length : Int)) > (1000 : Int)) := of_decide_eq_false hb
   clear hb
   refine At.keep [0, 1, 2, 3] ?_; show At _ _ _ [(0, .slice a_script script.length n_script), (1, .string (mkS p)), (2, .slice a_data data.length n_data), (3, .bool num)] _
   refine At.reg (L := [(0, false), (1, false)]) (by kernel_rfl) ?_
   refine Op.call0 (dst := some 32) (f := 27) (args := #[]) (by kernel_rfl) s1006 (newT _ _ _ s1006.sub hG   ) ?_
   rintro _ g1018 _ h1013 hle1019 s1014 ⟨b1015, c1016, rfl, o1017, hgg, rfl⟩; subst g1018; clear hle1019
   refine Op.pures 1 [0, 1, 2, 3, 9] (L' := []) (e' := [(0, .slice a_script script.length n_script), (1, .string (mkS p)), (2, .slice a_data data.length n_data), (3, .bool num), (9, .pointer (some ⟨b1015, 0, none⟩))]) (by kernel_rfl) ?_
   refine Op.goto 10 (by kernel_rfl) ?_
   refine At.reg (L := [(0, false), (1, false)]) (by kernel_rfl) ?_
   refine Op.pures 2 [0, 1, 2, 3, 9, 34] (L' := []) (e' := [(0, .slice a_script script.length n_script), (1, .string (mkS p)), (2, .slice a_data data.length n_data), (3, .bool num), (9, .pointer (some ⟨b1015, 0, none⟩)), (34, .bool false)]) (by kernel_rfl) ?_
   refine Op.goto 11 (by kernel_rfl) ?_
   refine At.condF (c := .tmp 34) (by kernel_rfl) (by kernel_rfl) (by kernel_rfl) 14 (by kernel_rfl) ?_
   refine At.reg (L := [(0, false)]) (by kernel_rfl) ?_
   refine Op.pures 1 [0, 1, 2, 3, 9, 10] (L' := []) (e' := [(0, .slice a_script script.length n_script), (1, .string (mkS p)), (2, .slice a_data data.length n_data), (3, .bool num), (9, .pointer (some ⟨b1015, 0, none⟩)), (10, .int .i64 0)]) (by kernel_rfl) ?_
   refine Op.goto 15 (by kernel_rfl) ?_
   have loop15 : ∀ (m : Nat) (ns : List Leaf) (i : Int) (c1020 : Chunk) (h1022 : Heap) (hm : script.length - i.toNat < m) (h0 : 0 ≤ i) (h3 : i ≤ script.length) (hT : TreeOk i ns)  (o1021 : IsTree g b1015 ns c1020)   (s_loop151021 : St h g (ids []) g [c1020] h1022), At (fctx Tryz.prog B 10 Tryz.f10 R) [] 15 [(0, .slice a_script script.length n_script), (1, .string (mkS p)), (2, .slice a_data data.length n_data), (3, .bool num), (9, .pointer (some ⟨b1015, 0, none⟩)), (10, .int .i64 i)] h1022 := by
    intro m; induction m with
    | zero => intros; omega
    | succ m ih15 =>
     intro ns i c1020 h1022 hm h0 h3 hT o1021 s_loop151021
     refine At.reg (L := [(0, false), (1, false), (2, false), (3, false)]) (by kernel_rfl) ?_
     refine Op.pures 4 [0, 1, 2, 3, 9, 10, 38] (L' := []) (e' := [(0, .slice a_script script.length n_script), (1, .string (mkS p)), (2, .slice a_data data.length n_data), (3, .bool num), (9, .pointer (some ⟨b1015, 0, none⟩)), (10, .int .i64 i), (38, .bool (decide (i < (script.length : Int))))]) (by kernel_rfl) ?_
     refine Op.goto 16 (by kernel_rfl) ?_
     refine At.cond (b := decide (i < (script.length : Int))) (c := .tmp 38) (by kernel_rfl) (by kernel_rfl) (by kernel_rfl) 17 21 (by kernel_rfl) (by kernel_rfl) (fun hb => ?_) (fun hb => ?_)
     ·have c1023 : i < (script.length : Int) := of_decide_eq_true hb
      clear hb
      refine At.keep [0, 1, 2, 3, 9, 10] ?_; show At _ _ _ [(0, .slice a_script script.length n_script), (1, .string (mkS p)), (2, .slice a_data data.length n_data), (3, .bool num), (9, .pointer (some ⟨b1015, 0, none⟩)), (10, .int .i64 i)] _
      refine At.reg (L := [(0, false), (1, false), (2, false), (3, false), (4, false), (5, false)]) (by kernel_rfl) ?_
      refine Op.pures 2 [0, 1, 2, 3, 9, 10, 41, 42] (L' := [(2, false), (3, false), (4, false), (5, false)]) (e' := [(0, .slice a_script script.length n_script), (1, .string (mkS p)), (2, .slice a_data data.length n_data), (3, .bool num), (9, .pointer (some ⟨b1015, 0, none⟩)), (10, .int .i64 i), (41, .slice a_script script.length n_script), (42, .int .i64 i)]) (by kernel_rfl) ?_
      obtain ⟨x1024, hx1025⟩ : ∃ c, script[(i : Int).toNat]? = some c := ⟨_, List.getElem?_eq_getElem (by omega)⟩
      obtain ⟨b1026, o1027, cu1028, fz1029, ha1030, hb1031, hk1032⟩ := SlR.at_ h_script _ hx1025
      cases ha1030
      refine Op.idx (T := 43) (E := 49) (sz := 7) (by_ := 80) (n := script.length) (c := n_script) (k := .i64) (x := (.tmp 41)) (ix := (.tmp 42)) (dst := 43) (bk := b1026) (o := o1027) (m := i) (by kernel_rfl) (by kernel_rfl) (by kernel_rfl) (by kernel_rfl) (by omega) (by omega) ?_
      obtain ⟨v1033, hv1034, hk1032⟩ := hk1032
      obtain ⟨a1035, n1036, rfl⟩ := hv1034.form
      refine Op.pures 1 [0, 1, 2, 3, 9, 10, 44] (L' := [(4, false), (5, false)]) (e' := [(0, .slice (some ⟨b1026, o1027, none⟩) script.length n_script), (1, .string (mkS p)), (2, .slice a_data data.length n_data), (3, .bool num), (9, .pointer (some ⟨b1015, 0, none⟩)), (10, .int .i64 i), (44, .pointer (some ⟨b1026, o1027 + (i : Int).toNat * 7, none⟩))]) (by kernel_rfl) ?_
      refine Op.load (T := 3) (x := (.tmp 44)) (o := o1027 + (i : Int).toNat * 7) (d := 45) (n := 1) (v := .int .i64 x1024.What) (by kernel_rfl) (by kernel_rfl) (by kernel_rfl) (s_loop151021.sub _ _ hb1031) (cut_get hk1032 0 rfl) ?_
      refine Op.pures 1 [0, 1, 2, 3, 9, 10, 46] (L' := []) (e' := [(0, .slice (some ⟨b1026, o1027, none⟩) script.length n_script), (1, .string (mkS p)), (2, .slice a_data data.length n_data), (3, .bool num), (9, .pointer (some ⟨b1015, 0, none⟩)), (10, .int .i64 i), (46, .bool (x1024.What == (1 : Int)))]) (by kernel_rfl) ?_
      refine Op.goto 18 (by kernel_rfl) ?_
      refine At.cond (b := x1024.What == (1 : Int)) (c := .tmp 46) (by kernel_rfl) (by kernel_rfl) (by kernel_rfl) 19 20 (by kernel_rfl) (by kernel_rfl) (fun hb => ?_) (fun hb => ?_)
      ·have c1037 : x1024.What = (1 : Int) := eq_of_beq hb
       clear hb
       refine At.keep [0, 1, 2, 3, 9, 10] ?_; show At _ _ _ [(0, .slice (some ⟨b1026, o1027, none⟩) script.length n_script), (1, .string (mkS p)), (2, .slice a_data data.length n_data), (3, .bool num), (9, .pointer (some ⟨b1015, 0, none⟩)), (10, .int .i64 i)] _
       refine At.draw (by kernel_rfl) (fun _ => False) [(0, true), (1, true), (2, true), (3, true), (4, true), (6, true), (7, true), (8, true), (9, true), (12, true), (13, true), (14, true), (15, true), (17, true), (18, true), (19, true), (20, true), (22, true), (23, true), (24, true), (25, true), (5, true), (10, true), (16, true), (21, true), (26, true), (11, false), (1027, false), (27, false)] (by kernel_rfl) ?_
       refine Op.pures 3 [0, 1, 2, 3, 9, 10, 47, 48, 49] (L' := [(3, true), (4, true), (6, true), (7, true), (8, true), (9, true), (12, true), (13, true), (14, true), (15, true), (17, true), (18, true), (19, true), (20, true), (22, true), (23, true), (24, true), (25, true), (5, true), (10, true), (16, true), (21, true), (26, true), (11, false), (1027, false), (27, false)]) (e' := [(0, .slice (some ⟨b1026, o1027, none⟩) script.length n_script), (1, .string (mkS p)), (2, .slice a_data data.length n_data), (3, .bool num), (9, .pointer (some ⟨b1015, 0, none⟩)), (10, .int .i64 i), (47, .pointer (some ⟨b1015, 0, none⟩)), (48, .slice (some ⟨b1026, o1027, none⟩) script.length n_script), (49, .int .i64 i)]) (by kernel_rfl) ?_
       obtain ⟨b1040, o1041, cu1042, fz1043, ha1044, hb1045, hk1046⟩ := SlR.at_ h_script _ hx1025
       cases ha1044
       refine Op.idx (T := 43) (E := 49) (sz := 7) (by_ := 80) (n := script.length) (c := n_script) (k := .i64) (x := (.tmp 48)) (ix := (.tmp 49)) (dst := 50) (bk := b1026) (o := o1027) (m := i) (by kernel_rfl) (by kernel_rfl) (by kernel_rfl) (by kernel_rfl) (by omega) (by omega) ?_
       obtain ⟨v1047, hv1048, hk1046⟩ := hk1046
       obtain ⟨a1049, n1050, rfl⟩ := hv1048.form
       refine Op.pures 3 [0, 1, 2, 3, 9, 10, 47, 51, 53, 54] (L' := [(8, true), (9, true), (12, true), (13, true), (14, true), (15, true), (17, true), (18, true), (19, true), (20, true), (22, true), (23, true), (24, true), (25, true), (5, true), (10, true), (16, true), (21, true), (26, true), (11, false), (1027, false), (27, false)]) (e' := [(0, .slice (some ⟨b1026, o1027, none⟩) script.length n_script), (1, .string (mkS p)), (2, .slice a_data data.length n_data), (3, .bool num), (9, .pointer (some ⟨b1015, 0, none⟩)), (10, .int .i64 i), (47, .pointer (some ⟨b1015, 0, none⟩)), (51, .pointer (some ⟨b1026, o1027 + (i : Int).toNat * 7 + 4, none⟩)), (53, .slice (some ⟨b1026, o1027, none⟩) script.length n_script), (54, .int .i64 i)]) (by kernel_rfl) ?_
       obtain ⟨b1053, o1054, cu1055, fz1056, ha1057, hb1058, hk1059⟩ := SlR.at_ h_script _ hx1025
       cases ha1057
       refine Op.idx (T := 43) (E := 49) (sz := 7) (by_ := 80) (n := script.length) (c := n_script) (k := .i64) (x := (.tmp 53)) (ix := (.tmp 54)) (dst := 55) (bk := b1026) (o := o1027) (m := i) (by kernel_rfl) (by kernel_rfl) (by kernel_rfl) (by kernel_rfl) (by omega) (by omega) ?_
       obtain ⟨v1060, hv1061, hk1059⟩ := hk1059
       obtain ⟨a1062, n1063, rfl⟩ := hv1061.form
       refine Op.pures 3 [0, 1, 2, 3, 9, 10, 47, 51, 56, 59, 60] (L' := [(14, true), (15, true), (17, true), (18, true), (19, true), (20, true), (22, true), (23, true), (24, true), (25, true), (5, true), (10, true), (16, true), (21, true), (26, true), (11, false), (1027, false), (27, false)]) (e' := [(0, .slice (some ⟨b1026, o1027, none⟩) script.length n_script), (1, .string (mkS p)), (2, .slice a_data data.length n_data), (3, .bool num), (9, .pointer (some ⟨b1015, 0, none⟩)), (10, .int .i64 i), (47, .pointer (some ⟨b1015, 0, none⟩)), (51, .pointer (some ⟨b1026, o1027 + (i : Int).toNat * 7 + 4, none⟩)), (56, .pointer (some ⟨b1026, o1027 + (i : Int).toNat * 7 + 5, none⟩)), (59, .slice (some ⟨b1026, o1027, none⟩) script.length n_script), (60, .int .i64 i)]) (by kernel_rfl) ?_
       obtain ⟨b1066, o1067, cu1068, fz1069, ha1070, hb1071, hk1072⟩ := SlR.at_ h_script _ hx1025
       cases ha1070
       refine Op.idx (T := 43) (E := 49) (sz := 7) (by_ := 80) (n := script.length) (c := n_script) (k := .i64) (x := (.tmp 59)) (ix := (.tmp 60)) (dst := 61) (bk := b1026) (o := o1027) (m := i) (by kernel_rfl) (by kernel_rfl) (by kernel_rfl) (by kernel_rfl) (by omega) (by omega) ?_
       obtain ⟨v1073, hv1074, hk1072⟩ := hk1072
       obtain ⟨a1075, n1076, rfl⟩ := hv1074.form
       refine Op.pures 3 [0, 1, 2, 3, 9, 10, 47, 51, 56, 62, 64, 65] (L' := [(19, true), (20, true), (22, true), (23, true), (24, true), (25, true), (5, true), (10, true), (16, true), (21, true), (26, true), (11, false), (1027, false), (27, false)]) (e' := [(0, .slice (some ⟨b1026, o1027, none⟩) script.length n_script), (1, .string (mkS p)), (2, .slice a_data data.length n_data), (3, .bool num), (9, .pointer (some ⟨b1015, 0, none⟩)), (10, .int .i64 i), (47, .pointer (some ⟨b1015, 0, none⟩)), (51, .pointer (some ⟨b1026, o1027 + (i : Int).toNat * 7 + 4, none⟩)), (56, .pointer (some ⟨b1026, o1027 + (i : Int).toNat * 7 + 5, none⟩)), (62, .pointer (some ⟨b1026, o1027 + (i : Int).toNat * 7 + 1, none⟩)), (64, .slice (some ⟨b1026, o1027, none⟩) script.length n_script), (65, .int .i64 i)]) (by kernel_rfl) ?_
       obtain ⟨b1079, o1080, cu1081, fz1082, ha1083, hb1084, hk1085⟩ := SlR.at_ h_script _ hx1025
       cases ha1083
       refine Op.idx (T := 43) (E := 49) (sz := 7) (by_ := 80) (n := script.length) (c := n_script) (k := .i64) (x := (.tmp 64)) (ix := (.tmp 65)) (dst := 66) (bk := b1026) (o := o1027) (m := i) (by kernel_rfl) (by kernel_rfl) (by kernel_rfl) (by kernel_rfl) (by omega) (by omega) ?_
       obtain ⟨v1086, hv1087, hk1085⟩ := hk1085
       obtain ⟨a1088, n1089, rfl⟩ := hv1087.form
       refine Op.pures 3 [0, 1, 2, 3, 9, 10, 47, 51, 56, 62, 67, 69, 70] (L' := [(24, true), (25, true), (5, true), (10, true), (16, true), (21, true), (26, true), (11, false), (1027, false), (27, false)]) (e' := [(0, .slice (some ⟨b1026, o1027, none⟩) script.length n_script), (1, .string (mkS p)), (2, .slice a_data data.length n_data), (3, .bool num), (9, .pointer (some ⟨b1015, 0, none⟩)), (10, .int .i64 i), (47, .pointer (some ⟨b1015, 0, none⟩)), (51, .pointer (some ⟨b1026, o1027 + (i : Int).toNat * 7 + 4, none⟩)), (56, .pointer (some ⟨b1026, o1027 + (i : Int).toNat * 7 + 5, none⟩)), (62, .pointer (some ⟨b1026, o1027 + (i : Int).toNat * 7 + 1, none⟩)), (67, .pointer (some ⟨b1026, o1027 + (i : Int).toNat * 7 + 2, none⟩)), (69, .slice (some ⟨b1026, o1027, none⟩) script.length n_script), (70, .int .i64 i)]) (by kernel_rfl) ?_
       obtain ⟨b1092, o1093, cu1094, fz1095, ha1096, hb1097, hk1098⟩ := SlR.at_ h_script _ hx1025
       cases ha1096
       refine Op.idx (T := 43) (E := 49) (sz := 7) (by_ := 80) (n := script.length) (c := n_script) (k := .i64) (x := (.tmp 69)) (ix := (.tmp 70)) (dst := 71) (bk := b1026) (o := o1027) (m := i) (by kernel_rfl) (by kernel_rfl) (by kernel_rfl) (by kernel_rfl) (by omega) (by omega) ?_
       obtain ⟨v1099, hv1100, hk1098⟩ := hk1098
       obtain ⟨a1101, n1102, rfl⟩ := hv1100.form
       refine Op.pures 1 [0, 1, 2, 3, 9, 10, 47, 51, 56, 62, 67, 72] (L' := [(5, true), (10, true), (16, true), (21, true), (26, true), (11, false), (1027, false), (27, false)]) (e' := [(0, .slice (some ⟨b1026, o1027, none⟩) script.length n_script), (1, .string (mkS p)), (2, .slice a_data data.length n_data), (3, .bool num), (9, .pointer (some ⟨b1015, 0, none⟩)), (10, .int .i64 i), (47, .pointer (some ⟨b1015, 0, none⟩)), (51, .pointer (some ⟨b1026, o1027 + (i : Int).toNat * 7 + 4, none⟩)), (56, .pointer (some ⟨b1026, o1027 + (i : Int).toNat * 7 + 5, none⟩)), (62, .pointer (some ⟨b1026, o1027 + (i : Int).toNat * 7 + 1, none⟩)), (67, .pointer (some ⟨b1026, o1027 + (i : Int).toNat * 7 + 2, none⟩)), (72, .pointer (some ⟨b1026, o1027 + (i : Int).toNat * 7 + 6, none⟩))]) (by kernel_rfl) ?_
       refine Op.loadF (T := 9) (x := (.tmp 51)) (o := o1027 + (i : Int).toNat * 7 + 4) (d := 52) (n := 1) (v := .string (mkS x1024.Path)) (by kernel_rfl) (by kernel_rfl) (by kernel_rfl) (fun h => h) (s_loop151021.sub _ _ hb1045) (cut_get hk1046 4 rfl) ?_
       refine Op.loadF (T := 29) (x := (.tmp 56)) (o := o1027 + (i : Int).toNat * 7 + 5) (d := 57) (n := 1) (v := .slice a1062 x1024.Data.length n1063) (by kernel_rfl) (by kernel_rfl) (by kernel_rfl) (fun h => h) (s_loop151021.sub _ _ hb1058) (cut_get hk1059 5 rfl) ?_
       refine Op.loadF (T := 3) (x := (.tmp 62)) (o := o1027 + (i : Int).toNat * 7 + 1) (d := 63) (n := 1) (v := .int .i64 x1024.Owner) (by kernel_rfl) (by kernel_rfl) (by kernel_rfl) (fun h => h) (s_loop151021.sub _ _ hb1071) (cut_get hk1072 1 rfl) ?_
       refine Op.loadF (T := 3) (x := (.tmp 67)) (o := o1027 + (i : Int).toNat * 7 + 2) (d := 68) (n := 1) (v := .int .i64 x1024.Born) (by kernel_rfl) (by kernel_rfl) (by kernel_rfl) (fun h => h) (s_loop151021.sub _ _ hb1084) (cut_get hk1085 2 rfl) ?_
       refine Op.loadF (T := 4) (x := (.tmp 72)) (o := o1027 + (i : Int).toNat * 7 + 6) (d := 73) (n := 1) (v := .bool x1024.Numbered) (by kernel_rfl) (by kernel_rfl) (by kernel_rfl) (fun h => h) (s_loop151021.sub _ _ hb1097) (cut_get hk1098 6 rfl) ?_
       refine Op.call0 (dst := some 58) (f := 29) (args := #[.slice a1062 x1024.Data.length n1063]) (by kernel_rfl) s_loop151021 (copyBytes _ _ _ s_loop151021.sub hG _ _ hv1061 (by ((try dsimp only) <;> ((have hbb := hb _ (List.mem_of_getElem? hx1025); omega)))) ) ?_
       rintro _ g1110 _ h1103 hle1111 s1104 ⟨v1105, ch1106, rfl, R1107, hgg, rfl⟩; subst g1110; clear hle1111
       obtain ⟨a1108, n1109, rfl⟩ := R1107.form
       refine Op.barrier (by kernel_rfl) ?_
       have hl1112 := s1104.frzle
       have hz1113 := R1107.frz s1104
       refine Op.lend (dst := some 74) (f := 28) (args := #[.pointer (some ⟨b1015, 0, none⟩), .string (mkS x1024.Path), .slice a1108 ((x1024.Data).length) n1109, .int .i64 x1024.Owner, .int .i64 x1024.Born, .bool x1024.Numbered]) (cf := (ch1106 : Chunk)) (Lc := [c1020]) (L := []) (by kernel_rfl) s1104 (makeF _ _ _ s1104.frzsub (hG.mono hl1112) b1015 ns _ (o1021.mono hl1112) x1024.Path _ _ hz1113 x1024.Owner x1024.Born x1024.Numbered (hP.mono hl1112) (by ((try dsimp only) <;> (exact hT.b (by have hsm := (small (by assumption)).1; omega)))) (by ((try dsimp only) <;> ((have hbb := hb _ (List.mem_of_getElem? hx1025); omega)))) (by ((try dsimp only) <;> ((have hbb := hb _ (List.mem_of_getElem? hx1025); omega)))) (St.part (Lc := [c1020]) (L := []) s1104.freeze.1)) (fun _ _ _ hp => by obtain ⟨_, _, _, hgg, _⟩ := hp; exact hgg) (fun _ _ _ => trivial) ?_
       rintro _ _ h1114 s1115 ⟨c1116, rfl, o1117, hgg, rfl⟩; clear hgg
       replace o1117 := o1117.flat (g' := g)
       refine Op.goto 20 (by kernel_rfl) ?_
       refine At.reg (L := [(0, false), (1, false), (2, false)]) (by kernel_rfl) ?_
       refine Op.pures 1 [0, 1, 2, 3, 9, 10, 39] (L' := [(1, false), (2, false)]) (e' := [(0, .slice (some ⟨b1026, o1027, none⟩) script.length n_script), (1, .string (mkS p)), (2, .slice a_data data.length n_data), (3, .bool num), (9, .pointer (some ⟨b1015, 0, none⟩)), (10, .int .i64 i), (39, .int .i64 i)]) (by kernel_rfl) ?_
       refine Op.val (dst := some 40) (v := .int .i64 (IntKind.wrap .i64 (i + 1))) (v' := .int .i64 (i + 1)) (by kernel_rfl) (wrapEq_i64 (by omega) (by omega)) ?_
       refine Op.pures 1 [0, 1, 2, 3, 9, 10] (L' := []) (e' := [(0, .slice (some ⟨b1026, o1027, none⟩) script.length n_script), (1, .string (mkS p)), (2, .slice a_data data.length n_data), (3, .bool num), (9, .pointer (some ⟨b1015, 0, none⟩)), (10, .int .i64 (i + 1))]) (by kernel_rfl) ?_
       refine Op.goto 15 (by kernel_rfl) ?_
       have s1120 : St h g (ids []) g [c1116] h1114 := (s1115).drop
       exact ih15  ((makeT ns x1024.Path x1024.Data x1024.Owner x1024.Born x1024.Numbered).1) (i + 1) _ _ (by omega) (by omega) (by omega) (by exact hT.make (by have hsm := (small (by assumption)).1; omega) h0) o1117 s1120
      ·have c1121 : ¬ (x1024.What = (1 : Int)) := neF hb
       clear hb
       refine At.keep [0, 1, 2, 3, 9, 10] ?_; show At _ _ _ [(0, .slice (some ⟨b1026, o1027, none⟩) script.length n_script), (1, .string (mkS p)), (2, .slice a_data data.length n_data), (3, .bool num), (9, .pointer (some ⟨b1015, 0, none⟩)), (10, .int .i64 i)] _
       refine At.reg (L := [(0, false), (1, false), (2, false)]) (by kernel_rfl) ?_
       refine Op.pures 1 [0, 1, 2, 3, 9, 10, 39] (L' := [(1, false), (2, false)]) (e' := [(0, .slice (some ⟨b1026, o1027, none⟩) script.length n_script), (1, .string (mkS p)), (2, .slice a_data data.length n_data), (3, .bool num), (9, .pointer (some ⟨b1015, 0, none⟩)), (10, .int .i64 i), (39, .int .i64 i)]) (by kernel_rfl) ?_
       refine Op.val (dst := some 40) (v := .int .i64 (IntKind.wrap .i64 (i + 1))) (v' := .int .i64 (i + 1)) (by kernel_rfl) (wrapEq_i64 (by omega) (by omega)) ?_
       refine Op.pures 1 [0, 1, 2, 3, 9, 10] (L' := []) (e' := [(0, .slice (some ⟨b1026, o1027, none⟩) script.length n_script), (1, .string (mkS p)), (2, .slice a_data data.length n_data), (3, .bool num), (9, .pointer (some ⟨b1015, 0, none⟩)), (10, .int .i64 (i + 1))]) (by kernel_rfl) ?_
       refine Op.goto 15 (by kernel_rfl) ?_
       exact ih15  ns (i + 1) _ _ (by omega) (by omega) (by omega) (by exact hT.mono (by omega)) o1021 s_loop151021
     ·have c1122 : ¬ (i < (script.length : Int)) := of_decide_eq_false hb
      clear hb
      refine At.keep [1, 2, 3, 9] ?_; show At _ _ _ [(1, .string (mkS p)), (2, .slice a_data data.length n_data), (3, .bool num), (9, .pointer (some ⟨b1015, 0, none⟩))] _
      refine At.reg (L := [(0, false), (1, false), (2, false)]) (by kernel_rfl) ?_
      refine Op.pures 1 [1, 2, 3, 9, 75] (L' := [(1, false), (2, false)]) (e' := [(1, .string (mkS p)), (2, .slice a_data data.length n_data), (3, .bool num), (9, .pointer (some ⟨b1015, 0, none⟩)), (75, .pointer (some ⟨b1015, 0, none⟩))]) (by kernel_rfl) ?_
      have hl1123 := s_loop151021.frzle
      have hz1124 := IsTree.frz o1021 s_loop151021 (by intro p hp; simp only [List.mem_append, hp, true_or, or_true])
      refine Op.lend (dst := some 76) (f := 30) (args := #[.pointer (some ⟨b1015, 0, none⟩)]) (cf := (c1020 : Chunk)) (Lc := []) (L := []) (by kernel_rfl) s_loop151021 (allF _ _ _ s_loop151021.frzsub (hG.mono hl1123) b1015 ns hz1124 (by ((try dsimp only) <;> (exact hT.b (by have hsm := (small (by assumption)).1; omega)))) ) (fun _ _ _ hp => by obtain ⟨_, _, _, _, _, hgg, _⟩ := hp; exact hgg) (fun _ _ h => absurd h (ids_nil _)) ?_
      rintro _ _ h1125 s1126 ⟨v1127, ch1128, dc1129, rfl, R1130, hgg, rfl⟩; clear hgg
      have s1133 : St h g (ids []) g [ch1128, dc1129, c1020] h1125 := (((s1126.front 0 rfl).front 2 rfl).front 2 rfl)
      obtain ⟨g1134, s1135, hle1136, hf1137⟩ := Deep.freeze R1130 s1133
      replace hG := hG.mono hle1136
      replace hP := hP.mono hle1136
      replace h_data := h_data.mono hle1136
      replace o1021 := o1021.mono hle1136
      obtain ⟨a1138, n1139, rfl⟩ := hf1137.form
      refine Op.pures 1 [1, 2, 3, 9, 11] (L' := []) (e' := [(1, .string (mkS p)), (2, .slice a_data data.length n_data), (3, .bool num), (9, .pointer (some ⟨b1015, 0, none⟩)), (11, .slice a1138 ((ns).length) n1139)]) (by kernel_rfl) ?_
      refine Op.goto 22 (by kernel_rfl) ?_
      refine At.reg (L := [(0, false), (1, false), (2, false), (3, false), (4, false), (5, false), (6, false), (7, false), (8, false), (9, false), (10, false)]) (by kernel_rfl) ?_
      refine Op.pures 3 [2, 3, 9, 11, 78, 79, 80] (L' := [(3, false), (4, false), (5, false), (6, false), (7, false), (8, false), (9, false), (10, false)]) (e' := [(2, .slice a_data data.length n_data), (3, .bool num), (9, .pointer (some ⟨b1015, 0, none⟩)), (11, .slice a1138 ((ns).length) n1139), (78, .pointer (some ⟨b1015, 0, none⟩)), (79, .string (mkS p)), (80, .slice a_data data.length n_data)]) (by kernel_rfl) ?_
      refine Op.call0 (dst := some 81) (f := 29) (args := #[.slice a_data data.length n_data]) (by kernel_rfl) s1135 (copyBytes _ _ _ s1135.sub hG _ _ h_data (by ((try dsimp only) <;> (omega))) ) ?_
      rintro _ g1147 _ h1140 hle1148 s1141 ⟨v1142, ch1143, rfl, R1144, hgg, rfl⟩; subst g1147; clear hle1148
      obtain ⟨a1145, n1146, rfl⟩ := R1144.form
      refine Op.pures 1 [2, 3, 9, 11, 78, 79, 81, 82] (L' := [(5, false), (6, false), (7, false), (8, false), (9, false), (10, false)]) (e' := [(2, .slice a_data data.length n_data), (3, .bool num), (9, .pointer (some ⟨b1015, 0, none⟩)), (11, .slice a1138 ((ns).length) n1139), (78, .pointer (some ⟨b1015, 0, none⟩)), (79, .string (mkS p)), (81, .slice a1145 ((data).length) n1146), (82, .bool num)]) (by kernel_rfl) ?_
      have hl1149 := s1141.frzle
      have hz1150 := R1144.frz s1141
      refine Op.lend (dst := some 83) (f := 28) (args := #[.pointer (some ⟨b1015, 0, none⟩), .string (mkS p), .slice a1145 ((data).length) n1146, .int .i64 (-1), .int .i64 5, .bool num]) (cf := (ch1143 : Chunk)) (Lc := [c1020]) (L := []) (by kernel_rfl) s1141 (makeF _ _ _ s1141.frzsub (hG.mono hl1149) b1015 ns _ (o1021.mono hl1149) p _ _ hz1150 (-1) 5 num (hP.mono hl1149) (by ((try dsimp only) <;> (exact hT.b (by have hsm := (small (by assumption)).1; omega)))) (by ((try dsimp only) <;> (omega))) (by ((try dsimp only) <;> (omega))) (St.part (Lc := [c1020]) (L := []) s1141.freeze.1)) (fun _ _ _ hp => by obtain ⟨_, _, _, hgg, _⟩ := hp; exact hgg) (fun _ _ _ => trivial) ?_
      rintro _ _ h1151 s1152 ⟨c1153, rfl, o1154, hgg, rfl⟩; clear hgg
      replace o1154 := o1154.flat (g' := g1134)
      refine Op.pures 5 [2, 3, 9, 11, 12, 13] (L' := []) (e' := [(2, .slice a_data data.length n_data), (3, .bool num), (9, .pointer (some ⟨b1015, 0, none⟩)), (11, .slice a1138 ((ns).length) n1139), (12, .string (mkS ((makeT ns p data (-1) 5 num).2.1))), (13, .int .i64 ((makeT ns p data (-1) 5 num).2.2))]) (by kernel_rfl) ?_
      refine Op.goto 23 (by kernel_rfl) ?_
      refine At.reg (L := [(0, false), (1, false)]) (by kernel_rfl) ?_
      refine Op.pures 2 [2, 3, 9, 11, 12, 87] (L' := []) (e' := [(2, .slice a_data data.length n_data), (3, .bool num), (9, .pointer (some ⟨b1015, 0, none⟩)), (11, .slice a1138 ((ns).length) n1139), (12, .string (mkS ((makeT ns p data (-1) 5 num).2.1))), (87, .bool (((makeT ns p data (-1) 5 num).2.2) != (0 : Int)))]) (by kernel_rfl) ?_
      refine Op.goto 24 (by kernel_rfl) ?_
      refine At.cond (b := ((makeT ns p data (-1) 5 num).2.2) != (0 : Int)) (c := .tmp 87) (by kernel_rfl) (by kernel_rfl) (by kernel_rfl) 25 27 (by kernel_rfl) (by kernel_rfl) (fun hb => ?_) (fun hb => ?_)
      ·have c1157 : ¬ (((makeT ns p data (-1) 5 num).2.2) = (0 : Int)) := bneT hb
       clear hb
       refine At.keep [9, 11, 12] ?_; show At _ _ _ [(9, .pointer (some ⟨b1015, 0, none⟩)), (11, .slice a1138 ((ns).length) n1139), (12, .string (mkS ((makeT ns p data (-1) 5 num).2.1)))] _
       refine At.reg (L := [(0, false), (1, false), (2, false), (3, false), (4, false), (5, false), (6, false), (7, false), (8, false)]) (by kernel_rfl) ?_
       refine Op.pures 1 [9, 11, 88] (L' := [(1, false), (2, false), (3, false), (4, false), (5, false), (6, false), (7, false), (8, false)]) (e' := [(9, .pointer (some ⟨b1015, 0, none⟩)), (11, .slice a1138 ((ns).length) n1139), (88, .string (mkS ((makeT ns p data (-1) 5 num).2.1)))]) (by kernel_rfl) ?_
       refine Op.val (dst := some 89) (v := .bool ((mkS ((makeT ns p data (-1) 5 num).2.1)).toList == (mkS []).toList)) (v' := .bool (((makeT ns p data (-1) 5 num).2.1) == ([] : List UInt8))) (by kernel_rfl) (by rw [toList_mkS, toList_mkS]) ?_
       refine Op.pures 1 [9, 11, 90] (L' := [(3, false), (4, false), (5, false), (6, false), (7, false), (8, false)]) (e' := [(9, .pointer (some ⟨b1015, 0, none⟩)), (11, .slice a1138 ((ns).length) n1139), (90, .bool (((makeT ns p data (-1) 5 num).2.1) == ([] : List UInt8)))]) (by kernel_rfl) ?_
       refine Op.ways (b := ((makeT ns p data (-1) 5 num).2.1) == ([] : List UInt8)) ⟨fun hb => ?_, fun hb => ?_⟩
       ·refine Op.cast (e' := [(9, .pointer (some ⟨b1015, 0, none⟩)), (11, .slice a1138 ((ns).length) n1139), (90, .bool true)]) (by rw [hb]) ?_
        have c1158 : ((makeT ns p data (-1) 5 num).2.1) = ([] : List UInt8) := eq_of_beq hb
        clear hb
        refine Op.pures 1 [11, 90, 91] (L' := [(4, false), (5, false), (6, false), (7, false), (8, false)]) (e' := [(11, .slice a1138 ((ns).length) n1139), (90, .bool true), (91, .pointer (some ⟨b1015, 0, none⟩))]) (by kernel_rfl) ?_
        have s1159 : St h g (ids []) g1134 [c1153, ch1143] h1151 := ((s1152.front 0 rfl).front 1 rfl)
        have hl1160 := s1159.frzle
        have hz1161 := IsTree.frz o1154 s1159 (by intro p hp; simp only [List.mem_append, hp, true_or, or_true])
        refine Op.lend (dst := some 92) (f := 30) (args := #[.pointer (some ⟨b1015, 0, none⟩)]) (cf := (c1153 : Chunk)) (Lc := []) (L := [ch1143]) (by kernel_rfl) s1159 (allF _ _ _ s1159.frzsub (hG.mono hl1160) b1015 ((makeT ns p data (-1) 5 num).1) hz1161 (by ((try dsimp only) <;> ((rw [(make_no (by assumption)).1]; exact hT.b (by have hsm := (small (by assumption)).1; omega))))) ) (fun _ _ _ hp => by obtain ⟨_, _, _, _, _, hgg, _⟩ := hp; exact hgg) (fun _ _ h => absurd h (ids_nil _)) ?_
        rintro _ _ h1162 s1163 ⟨v1164, ch1165, dc1166, rfl, R1167, hgg, rfl⟩; clear hgg
        have s1170 : St h g (ids []) g1134 [ch1165, dc1166, c1153, ch1143] h1162 := (((s1163.front 0 rfl).front 2 rfl).front 2 rfl)
        obtain ⟨g1171, s1172, hle1173, hf1174⟩ := Deep.freeze R1167 s1170
        replace R1144 := R1144.mono hle1173
        replace hG := hG.mono hle1173
        replace hP := hP.mono hle1173
        replace hf1137 := hf1137.mono hle1173
        replace o1154 := o1154.mono hle1173
        obtain ⟨a1175, n1176, rfl⟩ := hf1174.form
        refine Op.pures 1 [90, 92, 93] (L' := [(6, false), (7, false), (8, false)]) (e' := [(90, .bool true), (92, .slice a1175 ((((makeT ns p data (-1) 5 num).1)).length) n1176), (93, .slice a1138 ((ns).length) n1139)]) (by kernel_rfl) ?_
        refine Op.call0 (dst := some 94) (f := 39) (args := #[.slice a1175 ((((makeT ns p data (-1) 5 num).1)).length) n1176, .slice a1138 ((ns).length) n1139]) (by kernel_rfl) s1172 (sameLeaves _ _ _ s1172.sub hG _ _ hf1174 _ _ hf1137 (by ((try dsimp only) <;> ((rw [(make_no (by assumption)).1]; have hln := hT.len; omega)))) (by ((try dsimp only) <;> ((rw [(make_no (by assumption)).1]; exact fun n hn => by have := (hT.node n hn).2.1; omega)))) ) ?_
        rintro _ g1179 _ h1177 hle1180 s1178 ⟨rfl, hgg, rfl⟩; subst g1179; clear hle1180
        refine Op.pures 2 [8] (L' := []) (e' := [(8, .bool (decide (((makeT ns p data (-1) 5 num).1) = ns)))]) (by kernel_rfl) ?_
        refine Op.goto 26 (by kernel_rfl) ?_
        refine At.ret (f := Tryz.f10) (v := .bool (decide (((makeT ns p data (-1) 5 num).1) = ns))) (by kernel_rfl) (by kernel_rfl) ?_
        have s1181 : St h g (ids []) g1171 [] h1177 := (s1178).drop.drop
        have s1182 : St h g (ids []) g [] h1177 := s1181.unfrz
        refine hR _ _ _ _ s1182 ⟨?_, rfl, rfl⟩
        exact (eqB (by exact decide_eq_true (make_no (by assumption)).1))
       ·refine Op.cast (e' := [(9, .pointer (some ⟨b1015, 0, none⟩)), (11, .slice a1138 ((ns).length) n1139), (90, .bool false)]) (by rw [hb]) ?_
        have c1183 : ¬ (((makeT ns p data (-1) 5 num).2.1) = ([] : List UInt8)) := neF hb
        clear hb
        refine Op.pures 6 [8] (L' := []) (e' := [(8, .bool false)]) (by kernel_rfl) ?_
        refine Op.goto 26 (by kernel_rfl) ?_
        refine At.ret (f := Tryz.f10) (v := .bool false) (by kernel_rfl) (by kernel_rfl) ?_
        have s1184 : St h g (ids []) g1134 [] h1151 := (s1152).drop.drop
        have s1185 : St h g (ids []) g [] h1151 := s1184.unfrz
        refine hR _ _ _ _ s1185 ⟨?_, rfl, rfl⟩
        exact (eqB (by exact absurd (make_no (by assumption)).2 c1183))
      ·have c1186 : ((makeT ns p data (-1) 5 num).2.2) = (0 : Int) := bneF hb
       clear hb
       refine At.keep [2, 3, 9, 11, 12] ?_; show At _ _ _ [(2, .slice a_data data.length n_data), (3, .bool num), (9, .pointer (some ⟨b1015, 0, none⟩)), (11, .slice a1138 ((ns).length) n1139), (12, .string (mkS ((makeT ns p data (-1) 5 num).2.1)))] _
       obtain ⟨qq, uu, n1, HBk⟩ := back_ok hT h0 (by have hsm := (small (by assumption)).1; omega) (by assumption)
       rw [HBk.make]
       show At _ _ 27 [(2, .slice a_data data.length n_data), (3, .bool num), (9, .pointer (some ⟨b1015, 0, none⟩)), (11, .slice a1138 ((ns).length) n1139), (12, .string (mkS qq))] _
       have o1187 := IsTree.eq o1154 (show _ = n1 from by rw [HBk.make])
       refine At.reg (L := [(0, false), (1, false), (2, false), (3, false), (4, false), (5, false), (6, false), (7, false), (8, false)]) (by kernel_rfl) ?_
       refine Op.pures 2 [2, 3, 9, 11, 12, 97, 98] (L' := [(2, false), (3, false), (4, false), (5, false), (6, false), (7, false), (8, false)]) (e' := [(2, .slice a_data data.length n_data), (3, .bool num), (9, .pointer (some ⟨b1015, 0, none⟩)), (11, .slice a1138 ((ns).length) n1139), (12, .string (mkS qq)), (97, .pointer (some ⟨b1015, 0, none⟩)), (98, .string (mkS qq))]) (by kernel_rfl) ?_
       have s1188 : St h g (ids []) g1134 [c1153, ch1143] h1151 := ((s1152.front 0 rfl).front 1 rfl)
       have hl1189 := s1188.frzle
       have hz1190 := IsTree.frz o1187 s1188 (by intro p hp; simp only [List.mem_append, hp, true_or, or_true])
       refine Op.lend (dst := some 99) (f := 34) (args := #[.pointer (some ⟨b1015, 0, none⟩), .string (mkS qq)]) (cf := (c1153 : Chunk)) (Lc := []) (L := [ch1143]) (by kernel_rfl) s1188 (getF _ _ _ s1188.frzsub (hG.mono hl1189) b1015 n1 hz1190 qq (by ((try dsimp only) <;> (exact HBk.ok.b (by have hsm := (small (by assumption)).1; omega)))) (by ((try dsimp only) <;> ((have := cut_len HBk.up.2.2; omega)))) ) (fun _ _ _ hp => by obtain ⟨_, _, _, _, hgg, _⟩ := hp; exact hgg) (fun _ _ h => absurd h (ids_nil _)) ?_
       rintro _ _ h1191 s1192 ⟨v1193, ch1194, rfl, R1195, hgg, rfl⟩; clear hgg
       obtain ⟨a1196, n1197, rfl⟩ := R1195.form
       replace R1195 := R1195.flat (fun _ _ _ _ h => h) (g' := g1134)
       refine Op.pures 3 [2, 3, 9, 11, 12, 100, 101] (L' := [(6, false), (7, false), (8, false)]) (e' := [(2, .slice a_data data.length n_data), (3, .bool num), (9, .pointer (some ⟨b1015, 0, none⟩)), (11, .slice a1138 ((ns).length) n1139), (12, .string (mkS qq)), (100, .agg #[.string (mkS (((getT n1 qq).1).Path)), .slice a1196 ((((getT n1 qq).1).Data).length) n1197, .int .i64 (((getT n1 qq).1).Version), .int .i64 (((getT n1 qq).1).Owner), .int .i64 (((getT n1 qq).1).Next), .int .i64 (((getT n1 qq).1).Born)]), (101, .int .i64 ((getT n1 qq).2))]) (by kernel_rfl) ?_
       refine Op.alloc (T := 59) (dst := 14) (cs := #[.string (mkS []), .slice none 0 0, .int .i64 0, .int .i64 0, .int .i64 0, .int .i64 0]) (by kernel_rfl) (by kernel_rfl) s1192 ?_
       intro b1200 h1201 s1202
       refine Op.store (T := 59) (x := (.tmp 14)) (y := (.tmp 100)) (b := b1200) (o := 0) (vs := [.string (mkS (((getT n1 qq).1).Path)), .slice a1196 ((((getT n1 qq).1).Data).length) n1197, .int .i64 (((getT n1 qq).1).Version), .int .i64 (((getT n1 qq).1).Owner), .int .i64 (((getT n1 qq).1).Next), .int .i64 (((getT n1 qq).1).Born)]) (a? := true) (n := 6) (by kernel_rfl) (by kernel_rfl) (by kernel_rfl) (by kernel_rfl) rfl (by simp [Value.oneCell']) s1202 0 rfl (Nat.le_of_ble_eq_true (by kernel_rfl)) (cs := #[.string (mkS []), .slice none 0 0, .int .i64 0, .int .i64 0, .int .i64 0, .int .i64 0]) (cs' := #[.string (mkS (((getT n1 qq).1).Path)), .slice a1196 ((((getT n1 qq).1).Data).length) n1197, .int .i64 (((getT n1 qq).1).Version), .int .i64 (((getT n1 qq).1).Owner), .int .i64 (((getT n1 qq).1).Next), .int .i64 (((getT n1 qq).1).Born)]) (by kernel_rfl) (fun _ => trivial) ?_
       intro h1203 s1204
       refine Op.pures 1 [2, 3, 9, 11, 12, 13, 14] (L' := []) (e' := [(2, .slice a_data data.length n_data), (3, .bool num), (9, .pointer (some ⟨b1015, 0, none⟩)), (11, .slice a1138 ((ns).length) n1139), (12, .string (mkS qq)), (13, .int .i64 ((getT n1 qq).2)), (14, .pointer (some ⟨b1200, 0, none⟩))]) (by kernel_rfl) ?_
       refine Op.goto 28 (by kernel_rfl) ?_
       refine At.reg (L := [(0, false), (1, false), (2, false), (3, false), (4, false), (5, false), (6, false), (7, false), (8, false), (9, false), (10, false), (11, false), (12, false), (13, false), (14, false), (15, false), (16, false), (17, false), (18, false), (19, false), (20, false), (21, false), (22, false), (23, false), (24, false), (25, false), (26, false), (27, false)]) (by kernel_rfl) ?_
       refine Op.pures 3 [2, 3, 9, 11, 12, 14, 104] (L' := [(3, false), (4, false), (5, false), (6, false), (7, false), (8, false), (9, false), (10, false), (11, false), (12, false), (13, false), (14, false), (15, false), (16, false), (17, false), (18, false), (19, false), (20, false), (21, false), (22, false), (23, false), (24, false), (25, false), (26, false), (27, false)]) (e' := [(2, .slice a_data data.length n_data), (3, .bool num), (9, .pointer (some ⟨b1015, 0, none⟩)), (11, .slice a1138 ((ns).length) n1139), (12, .string (mkS qq)), (14, .pointer (some ⟨b1200, 0, none⟩)), (104, .bool (((getT n1 qq).2) != (0 : Int)))]) (by kernel_rfl) ?_
       refine Op.ways (b := ((getT n1 qq).2) != (0 : Int)) ⟨fun hb => ?_, fun hb => ?_⟩
       ·refine Op.cast (e' := [(2, .slice a_data data.length n_data), (3, .bool num), (9, .pointer (some ⟨b1015, 0, none⟩)), (11, .slice a1138 ((ns).length) n1139), (12, .string (mkS qq)), (14, .pointer (some ⟨b1200, 0, none⟩)), (104, .bool true)]) (by rw [hb]) ?_
        have c1205 : ¬ (((getT n1 qq).2) = (0 : Int)) := bneT hb
        clear hb
        refine Op.pures 25 [3, 9, 11, 12, 129] (L' := []) (e' := [(3, .bool num), (9, .pointer (some ⟨b1015, 0, none⟩)), (11, .slice a1138 ((ns).length) n1139), (12, .string (mkS qq)), (129, .bool true)]) (by kernel_rfl) ?_
        refine Op.goto 29 (by kernel_rfl) ?_
        refine At.condT (c := .tmp 129) (by kernel_rfl) (by kernel_rfl) (by kernel_rfl) 30 (by kernel_rfl) ?_
        refine At.reg (L := [(0, false)]) (by kernel_rfl) ?_
        refine Op.pures 1 [8] (L' := []) (e' := [(8, .bool false)]) (by kernel_rfl) ?_
        refine Op.goto 31 (by kernel_rfl) ?_
        refine At.ret (f := Tryz.f10) (v := .bool false) (by kernel_rfl) (by kernel_rfl) ?_
        have s1206 : St h g (ids []) g1134 [] h1203 := (s1204).drop.drop.drop.drop
        have s1207 : St h g (ids []) g [] h1203 := s1206.unfrz
        refine hR _ _ _ _ s1207 ⟨?_, rfl, rfl⟩
        exact (eqB (by exact absurd HBk.g2.1 c1205))
       ·refine Op.cast (e' := [(2, .slice a_data data.length n_data), (3, .bool num), (9, .pointer (some ⟨b1015, 0, none⟩)), (11, .slice a1138 ((ns).length) n1139), (12, .string (mkS qq)), (14, .pointer (some ⟨b1200, 0, none⟩)), (104, .bool false)]) (by rw [hb]) ?_
        have c1208 : ((getT n1 qq).2) = (0 : Int) := bneF hb
        clear hb
        refine Op.pures 1 [2, 3, 9, 11, 12, 14, 104, 105] (L' := [(4, false), (5, false), (6, false), (7, false), (8, false), (9, false), (10, false), (11, false), (12, false), (13, false), (14, false), (15, false), (16, false), (17, false), (18, false), (19, false), (20, false), (21, false), (22, false), (23, false), (24, false), (25, false), (26, false), (27, false)]) (e' := [(2, .slice a_data data.length n_data), (3, .bool num), (9, .pointer (some ⟨b1015, 0, none⟩)), (11, .slice a1138 ((ns).length) n1139), (12, .string (mkS qq)), (14, .pointer (some ⟨b1200, 0, none⟩)), (104, .bool false), (105, .pointer (some ⟨b1200, 1, none⟩))]) (by kernel_rfl) ?_
        refine Op.load (T := 29) (x := (.tmp 105)) (o := 1) (d := 106) (n := 1) (v := .slice a1196 ((((getT n1 qq).1).Data).length) n1197) (by kernel_rfl) (by kernel_rfl) (by kernel_rfl) (s1204.chunk 0 rfl) (by kernel_rfl) ?_
        refine Op.pures 1 [3, 9, 11, 12, 14, 104, 106, 107] (L' := [(6, false), (7, false), (8, false), (9, false), (10, false), (11, false), (12, false), (13, false), (14, false), (15, false), (16, false), (17, false), (18, false), (19, false), (20, false), (21, false), (22, false), (23, false), (24, false), (25, false), (26, false), (27, false)]) (e' := [(3, .bool num), (9, .pointer (some ⟨b1015, 0, none⟩)), (11, .slice a1138 ((ns).length) n1139), (12, .string (mkS qq)), (14, .pointer (some ⟨b1200, 0, none⟩)), (104, .bool false), (106, .slice a1196 ((((getT n1 qq).1).Data).length) n1197), (107, .slice a_data data.length n_data)]) (by kernel_rfl) ?_
        have s1209 : St h g (ids []) g1134 [ch1194, [(b1200, Obj.cells #[.string (mkS (((getT n1 qq).1).Path)), .slice a1196 ((((getT n1 qq).1).Data).length) n1197, .int .i64 (((getT n1 qq).1).Version), .int .i64 (((getT n1 qq).1).Owner), .int .i64 (((getT n1 qq).1).Next), .int .i64 (((getT n1 qq).1).Born)] 59 (0, 0))], c1153, ch1143] h1203 := (((s1204.front 1 rfl).front 1 rfl).front 2 rfl)
        have hl1210 := s1209.frzle
        have hz1211 := R1195.frz s1209
        refine Op.lend (dst := some 108) (f := 40) (args := #[.slice a1196 ((((getT n1 qq).1).Data).length) n1197, .slice a_data data.length n_data]) (cf := (ch1194 : Chunk)) (Lc := []) (L := [[(b1200, Obj.cells #[.string (mkS (((getT n1 qq).1).Path)), .slice a1196 ((((getT n1 qq).1).Data).length) n1197, .int .i64 (((getT n1 qq).1).Version), .int .i64 (((getT n1 qq).1).Owner), .int .i64 (((getT n1 qq).1).Next), .int .i64 (((getT n1 qq).1).Born)] 59 (0, 0))], c1153, ch1143]) (by kernel_rfl) s1209 (sameBytes _ _ _ s1209.frzsub (hG.mono hl1210) _ _ hz1211 _ _ (h_data.mono hl1210) (by ((try dsimp only) <;> ((have h9 := getT_data (HBk.ok.b (by have hsm := (small (by assumption)).1; omega)) qq; omega)))) ) (fun _ _ _ hp => by obtain ⟨_, hgg, _⟩ := hp; exact hgg) (fun _ _ h => absurd h (ids_nil _)) ?_
        rintro _ _ h1212 s1213 ⟨rfl, hgg, rfl⟩; clear hgg
        refine Op.pures 3 [3, 9, 11, 12, 14, 111] (L' := [(10, false), (11, false), (12, false), (13, false), (14, false), (15, false), (16, false), (17, false), (18, false), (19, false), (20, false), (21, false), (22, false), (23, false), (24, false), (25, false), (26, false), (27, false)]) (e' := [(3, .bool num), (9, .pointer (some ⟨b1015, 0, none⟩)), (11, .slice a1138 ((ns).length) n1139), (12, .string (mkS qq)), (14, .pointer (some ⟨b1200, 0, none⟩)), (111, .bool (!(decide ((((getT n1 qq).1).Data) = data))))]) (by kernel_rfl) ?_
        refine Op.ways (b := !(decide ((((getT n1 qq).1).Data) = data))) ⟨fun hb => ?_, fun hb => ?_⟩
        ·refine Op.cast (e' := [(3, .bool num), (9, .pointer (some ⟨b1015, 0, none⟩)), (11, .slice a1138 ((ns).length) n1139), (12, .string (mkS qq)), (14, .pointer (some ⟨b1200, 0, none⟩)), (111, .bool true)]) (by rw [hb]) ?_
         have c1216 : ¬ ((((getT n1 qq).1).Data) = data) := of_decide_eq_false (notT hb)
         clear hb
         refine Op.pures 18 [3, 9, 11, 12, 129] (L' := []) (e' := [(3, .bool num), (9, .pointer (some ⟨b1015, 0, none⟩)), (11, .slice a1138 ((ns).length) n1139), (12, .string (mkS qq)), (129, .bool true)]) (by kernel_rfl) ?_
         refine Op.goto 29 (by kernel_rfl) ?_
         refine At.condT (c := .tmp 129) (by kernel_rfl) (by kernel_rfl) (by kernel_rfl) 30 (by kernel_rfl) ?_
         refine At.reg (L := [(0, false)]) (by kernel_rfl) ?_
         refine Op.pures 1 [8] (L' := []) (e' := [(8, .bool false)]) (by kernel_rfl) ?_
         refine Op.goto 31 (by kernel_rfl) ?_
         refine At.ret (f := Tryz.f10) (v := .bool false) (by kernel_rfl) (by kernel_rfl) ?_
         have s1217 : St h g (ids []) g1134 [] h1212 := (s1213).drop.drop.drop.drop
         have s1218 : St h g (ids []) g [] h1212 := s1217.unfrz
         refine hR _ _ _ _ s1218 ⟨?_, rfl, rfl⟩
         exact (eqB (by exact absurd HBk.g2.2.1 c1216))
        ·refine Op.cast (e' := [(3, .bool num), (9, .pointer (some ⟨b1015, 0, none⟩)), (11, .slice a1138 ((ns).length) n1139), (12, .string (mkS qq)), (14, .pointer (some ⟨b1200, 0, none⟩)), (111, .bool false)]) (by rw [hb]) ?_
         have c1219 : (((getT n1 qq).1).Data) = data := of_decide_eq_true (notF hb)
         clear hb
         refine Op.pures 1 [3, 9, 11, 12, 14, 111, 112] (L' := [(11, false), (12, false), (13, false), (14, false), (15, false), (16, false), (17, false), (18, false), (19, false), (20, false), (21, false), (22, false), (23, false), (24, false), (25, false), (26, false), (27, false)]) (e' := [(3, .bool num), (9, .pointer (some ⟨b1015, 0, none⟩)), (11, .slice a1138 ((ns).length) n1139), (12, .string (mkS qq)), (14, .pointer (some ⟨b1200, 0, none⟩)), (111, .bool false), (112, .pointer (some ⟨b1200, 2, none⟩))]) (by kernel_rfl) ?_
         refine Op.load (T := 3) (x := (.tmp 112)) (o := 2) (d := 113) (n := 1) (v := .int .i64 (((getT n1 qq).1).Version)) (by kernel_rfl) (by kernel_rfl) (by kernel_rfl) (s1213.chunk 1 rfl) (by kernel_rfl) ?_
         refine Op.pures 3 [3, 9, 11, 12, 14, 116] (L' := [(15, false), (16, false), (17, false), (18, false), (19, false), (20, false), (21, false), (22, false), (23, false), (24, false), (25, false), (26, false), (27, false)]) (e' := [(3, .bool num), (9, .pointer (some ⟨b1015, 0, none⟩)), (11, .slice a1138 ((ns).length) n1139), (12, .string (mkS qq)), (14, .pointer (some ⟨b1200, 0, none⟩)), (116, .bool ((((getT n1 qq).1).Version) != (0 : Int)))]) (by kernel_rfl) ?_
         refine Op.ways (b := (((getT n1 qq).1).Version) != (0 : Int)) ⟨fun hb => ?_, fun hb => ?_⟩
         ·refine Op.cast (e' := [(3, .bool num), (9, .pointer (some ⟨b1015, 0, none⟩)), (11, .slice a1138 ((ns).length) n1139), (12, .string (mkS qq)), (14, .pointer (some ⟨b1200, 0, none⟩)), (116, .bool true)]) (by rw [hb]) ?_
          have c1220 : ¬ ((((getT n1 qq).1).Version) = (0 : Int)) := bneT hb
          clear hb
          refine Op.pures 13 [3, 9, 11, 12, 129] (L' := []) (e' := [(3, .bool num), (9, .pointer (some ⟨b1015, 0, none⟩)), (11, .slice a1138 ((ns).length) n1139), (12, .string (mkS qq)), (129, .bool true)]) (by kernel_rfl) ?_
          refine Op.goto 29 (by kernel_rfl) ?_
          refine At.condT (c := .tmp 129) (by kernel_rfl) (by kernel_rfl) (by kernel_rfl) 30 (by kernel_rfl) ?_
          refine At.reg (L := [(0, false)]) (by kernel_rfl) ?_
          refine Op.pures 1 [8] (L' := []) (e' := [(8, .bool false)]) (by kernel_rfl) ?_
          refine Op.goto 31 (by kernel_rfl) ?_
          refine At.ret (f := Tryz.f10) (v := .bool false) (by kernel_rfl) (by kernel_rfl) ?_
          have s1221 : St h g (ids []) g1134 [] h1212 := (s1213).drop.drop.drop.drop
          have s1222 : St h g (ids []) g [] h1212 := s1221.unfrz
          refine hR _ _ _ _ s1222 ⟨?_, rfl, rfl⟩
          exact (eqB (by exact absurd HBk.g2.2.2.1 c1220))
         ·refine Op.cast (e' := [(3, .bool num), (9, .pointer (some ⟨b1015, 0, none⟩)), (11, .slice a1138 ((ns).length) n1139), (12, .string (mkS qq)), (14, .pointer (some ⟨b1200, 0, none⟩)), (116, .bool false)]) (by rw [hb]) ?_
          have c1223 : (((getT n1 qq).1).Version) = (0 : Int) := bneF hb
          clear hb
          refine Op.pures 1 [3, 9, 11, 12, 116, 117] (L' := [(16, false), (17, false), (18, false), (19, false), (20, false), (21, false), (22, false), (23, false), (24, false), (25, false), (26, false), (27, false)]) (e' := [(3, .bool num), (9, .pointer (some ⟨b1015, 0, none⟩)), (11, .slice a1138 ((ns).length) n1139), (12, .string (mkS qq)), (116, .bool false), (117, .pointer (some ⟨b1200, 5, none⟩))]) (by kernel_rfl) ?_
          refine Op.load (T := 3) (x := (.tmp 117)) (o := 5) (d := 118) (n := 1) (v := .int .i64 (((getT n1 qq).1).Born)) (by kernel_rfl) (by kernel_rfl) (by kernel_rfl) (s1213.chunk 1 rfl) (by kernel_rfl) ?_
          refine Op.pures 3 [3, 9, 11, 12, 121] (L' := [(20, false), (21, false), (22, false), (23, false), (24, false), (25, false), (26, false), (27, false)]) (e' := [(3, .bool num), (9, .pointer (some ⟨b1015, 0, none⟩)), (11, .slice a1138 ((ns).length) n1139), (12, .string (mkS qq)), (121, .bool ((((getT n1 qq).1).Born) != (5 : Int)))]) (by kernel_rfl) ?_
          refine Op.ways (b := (((getT n1 qq).1).Born) != (5 : Int)) ⟨fun hb => ?_, fun hb => ?_⟩
          ·refine Op.cast (e' := [(3, .bool num), (9, .pointer (some ⟨b1015, 0, none⟩)), (11, .slice a1138 ((ns).length) n1139), (12, .string (mkS qq)), (121, .bool true)]) (by rw [hb]) ?_
           have c1224 : ¬ ((((getT n1 qq).1).Born) = (5 : Int)) := bneT hb
           clear hb
           refine Op.pures 8 [3, 9, 11, 12, 129] (L' := []) (e' := [(3, .bool num), (9, .pointer (some ⟨b1015, 0, none⟩)), (11, .slice a1138 ((ns).length) n1139), (12, .string (mkS qq)), (129, .bool true)]) (by kernel_rfl) ?_
           refine Op.goto 29 (by kernel_rfl) ?_
           refine At.condT (c := .tmp 129) (by kernel_rfl) (by kernel_rfl) (by kernel_rfl) 30 (by kernel_rfl) ?_
           refine At.reg (L := [(0, false)]) (by kernel_rfl) ?_
           refine Op.pures 1 [8] (L' := []) (e' := [(8, .bool false)]) (by kernel_rfl) ?_
           refine Op.goto 31 (by kernel_rfl) ?_
           refine At.ret (f := Tryz.f10) (v := .bool false) (by kernel_rfl) (by kernel_rfl) ?_
           have s1225 : St h g (ids []) g1134 [] h1212 := (s1213).drop.drop.drop.drop
           have s1226 : St h g (ids []) g [] h1212 := s1225.unfrz
           refine hR _ _ _ _ s1226 ⟨?_, rfl, rfl⟩
           exact (eqB (by exact absurd HBk.g2.2.2.2 c1224))
          ·refine Op.cast (e' := [(3, .bool num), (9, .pointer (some ⟨b1015, 0, none⟩)), (11, .slice a1138 ((ns).length) n1139), (12, .string (mkS qq)), (121, .bool false)]) (by rw [hb]) ?_
           have c1227 : (((getT n1 qq).1).Born) = (5 : Int) := bneF hb
           clear hb
           refine Op.pures 1 [3, 9, 11, 12, 121, 122] (L' := [(21, false), (22, false), (23, false), (24, false), (25, false), (26, false), (27, false)]) (e' := [(3, .bool num), (9, .pointer (some ⟨b1015, 0, none⟩)), (11, .slice a1138 ((ns).length) n1139), (12, .string (mkS qq)), (121, .bool false), (122, .pointer (some ⟨b1015, 0, none⟩))]) (by kernel_rfl) ?_
           have s1228 : St h g (ids []) g1134 [c1153, ch1194, [(b1200, Obj.cells #[.string (mkS (((getT n1 qq).1).Path)), .slice a1196 ((((getT n1 qq).1).Data).length) n1197, .int .i64 (((getT n1 qq).1).Version), .int .i64 (((getT n1 qq).1).Owner), .int .i64 (((getT n1 qq).1).Next), .int .i64 (((getT n1 qq).1).Born)] 59 (0, 0))], ch1143] h1212 := (((s1213.front 1 rfl).front 1 rfl).front 2 rfl)
           have hl1229 := s1228.frzle
           have hz1230 := IsTree.frz o1187 s1228 (by intro p hp; simp only [List.mem_append, hp, true_or, or_true])
           refine Op.lend (dst := some 123) (f := 30) (args := #[.pointer (some ⟨b1015, 0, none⟩)]) (cf := (c1153 : Chunk)) (Lc := []) (L := [ch1194, [(b1200, Obj.cells #[.string (mkS (((getT n1 qq).1).Path)), .slice a1196 ((((getT n1 qq).1).Data).length) n1197, .int .i64 (((getT n1 qq).1).Version), .int .i64 (((getT n1 qq).1).Owner), .int .i64 (((getT n1 qq).1).Next), .int .i64 (((getT n1 qq).1).Born)] 59 (0, 0))], ch1143]) (by kernel_rfl) s1228 (allF _ _ _ s1228.frzsub (hG.mono hl1229) b1015 n1 hz1230 (by ((try dsimp only) <;> (exact HBk.ok.b (by have hsm := (small (by assumption)).1; omega)))) ) (fun _ _ _ hp => by obtain ⟨_, _, _, _, _, hgg, _⟩ := hp; exact hgg) (fun _ _ h => absurd h (ids_nil _)) ?_
           rintro _ _ h1231 s1232 ⟨v1233, ch1234, dc1235, rfl, R1236, hgg, rfl⟩; clear hgg
           have s1239 : St h g (ids []) g1134 [ch1234, dc1235, c1153, ch1194, [(b1200, Obj.cells #[.string (mkS (((getT n1 qq).1).Path)), .slice a1196 ((((getT n1 qq).1).Data).length) n1197, .int .i64 (((getT n1 qq).1).Version), .int .i64 (((getT n1 qq).1).Owner), .int .i64 (((getT n1 qq).1).Next), .int .i64 (((getT n1 qq).1).Born)] 59 (0, 0))], ch1143] h1231 := (((s1232.front 0 rfl).front 2 rfl).front 2 rfl)
           obtain ⟨g1240, s1241, hle1242, hf1243⟩ := Deep.freeze R1236 s1239
           replace R1144 := R1144.mono hle1242
           replace R1195 := R1195.mono hle1242
           replace hG := hG.mono hle1242
           replace hP := hP.mono hle1242
           replace hf1137 := hf1137.mono hle1242
           replace o1187 := o1187.mono hle1242
           obtain ⟨a1244, n1245, rfl⟩ := hf1243.form
           refine Op.pures 3 [3, 9, 11, 12, 121, 124, 126] (L' := [(25, false), (26, false), (27, false)]) (e' := [(3, .bool num), (9, .pointer (some ⟨b1015, 0, none⟩)), (11, .slice a1138 ((ns).length) n1139), (12, .string (mkS qq)), (121, .bool false), (124, .int .i64 ((n1).length : Int)), (126, .int .i64 ((ns).length : Int))]) (by kernel_rfl) ?_
           refine Op.val (dst := some 127) (v := .int .i64 (IntKind.wrap .i64 (((ns).length : Int) + 1))) (v' := .int .i64 (((ns).length : Int) + 1)) (by kernel_rfl) (wrapEq_i64 (by (have hln := hT.len; omega)) (by (have hln := hT.len; omega))) ?_
           refine Op.pures 2 [3, 9, 11, 12, 129] (L' := []) (e' := [(3, .bool num), (9, .pointer (some ⟨b1015, 0, none⟩)), (11, .slice a1138 ((ns).length) n1139), (12, .string (mkS qq)), (129, .bool (((n1).length : Int) != (((ns).length : Int) + 1)))]) (by kernel_rfl) ?_
           refine Op.goto 29 (by kernel_rfl) ?_
           refine At.cond (b := ((n1).length : Int) != (((ns).length : Int) + 1)) (c := .tmp 129) (by kernel_rfl) (by kernel_rfl) (by kernel_rfl) 30 32 (by kernel_rfl) (by kernel_rfl) (fun hb => ?_) (fun hb => ?_)
           ·have c1246 : ¬ (((n1).length : Int) = (((ns).length : Int) + 1)) := bneT hb
            clear hb
            refine At.keep [] ?_; show At _ _ _ [] _
            refine At.reg (L := [(0, false)]) (by kernel_rfl) ?_
            refine Op.pures 1 [8] (L' := []) (e' := [(8, .bool false)]) (by kernel_rfl) ?_
            refine Op.goto 31 (by kernel_rfl) ?_
            refine At.ret (f := Tryz.f10) (v := .bool false) (by kernel_rfl) (by kernel_rfl) ?_
            have s1247 : St h g (ids []) g1240 [] h1231 := (s1241).drop.drop.drop.drop
            have s1248 : St h g (ids []) g [] h1231 := s1247.unfrz
            refine hR _ _ _ _ s1248 ⟨?_, rfl, rfl⟩
            exact (eqB (by (exfalso; have h9 := HBk.len; omega)))
           ·have c1249 : ((n1).length : Int) = (((ns).length : Int) + 1) := bneF hb
            clear hb
            refine At.keep [3, 9, 11, 12] ?_; show At _ _ _ [(3, .bool num), (9, .pointer (some ⟨b1015, 0, none⟩)), (11, .slice a1138 ((ns).length) n1139), (12, .string (mkS qq))] _
            refine At.reg (L := [(0, false), (1, false), (2, false), (3, false), (4, false), (5, false), (6, false), (7, false), (8, false), (9, false)]) (by kernel_rfl) ?_
            refine Op.pures 2 [3, 9, 11, 12, 131, 132] (L' := [(2, false), (3, false), (4, false), (5, false), (6, false), (7, false), (8, false), (9, false)]) (e' := [(3, .bool num), (9, .pointer (some ⟨b1015, 0, none⟩)), (11, .slice a1138 ((ns).length) n1139), (12, .string (mkS qq)), (131, .pointer (some ⟨b1015, 0, none⟩)), (132, .string (mkS qq))]) (by kernel_rfl) ?_
            refine Op.lit (T := 29) (len := 5) (parts := #[(0, (.const (.int .u8 111))), (1, (.const (.int .u8 116))), (2, (.const (.int .u8 104))), (3, (.const (.int .u8 101))), (4, (.const (.int .u8 114)))]) (dst := 133) (E := 5) (ps := [(0, .int .u8 111), (1, .int .u8 116), (2, .int .u8 104), (3, .int .u8 101), (4, .int .u8 114)]) (cs := #[.int .u8 111, .int .u8 116, .int .u8 104, .int .u8 101, .int .u8 114]) (by kernel_rfl) (by kernel_rfl) (by kernel_rfl) s1241 ?_
            intro b1250 h1251 s1252
            refine Op.convLit (T := 29) (E := 5) (x := (.tmp 133)) (dst := 134) (b := b1250) (n := 5) (cs := #[.int .u8 111, .int .u8 116, .int .u8 104, .int .u8 101, .int .u8 114]) (xs := ([(111 : UInt8), (116 : UInt8), (104 : UInt8), (101 : UInt8), (114 : UInt8)] : List UInt8)) (by kernel_rfl) (by kernel_rfl) (by kernel_rfl) (by kernel_rfl) rfl s1252 ⟨_, _, rfl, rfl, ⟨_, _, rfl, rfl, ⟨_, _, rfl, rfl, ⟨_, _, rfl, rfl, ⟨_, _, rfl, rfl, Reads.nil⟩⟩⟩⟩⟩ (fun _ => trivial) ?_
            intro g1253 h1254 hle1255 s1256 hf1257
            replace R1144 := R1144.mono hle1255
            replace R1195 := R1195.mono hle1255
            replace hG := hG.mono hle1255
            replace hP := hP.mono hle1255
            replace hf1137 := hf1137.mono hle1255
            replace o1187 := o1187.mono hle1255
            refine Op.call (dst := some 135) (f := 41) (args := #[.pointer (some ⟨b1015, 0, none⟩), .string (mkS qq), .slice (some ⟨b1250, 0, none⟩) 5 5, .int .i64 0]) (Lc := [c1153]) (L := [ch1194, [(b1200, Obj.cells #[.string (mkS (((getT n1 qq).1).Path)), .slice a1196 ((((getT n1 qq).1).Data).length) n1197, .int .i64 (((getT n1 qq).1).Version), .int .i64 (((getT n1 qq).1).Owner), .int .i64 (((getT n1 qq).1).Next), .int .i64 (((getT n1 qq).1).Born)] 59 (0, 0))], ch1143]) (by kernel_rfl) s1256 (setF _ _ _ s1256.sub hG b1015 n1 _ o1187 qq _ _ hf1257 0 (by ((try dsimp only) <;> (exact HBk.ok.b (by have hsm := (small (by assumption)).1; omega)))) (by ((try dsimp only) <;> ((have := cut_len HBk.up.2.2; omega)))) (by ((try dsimp only) <;> (decide))) (St.part (Lc := [c1153]) (L := [ch1194, [(b1200, Obj.cells #[.string (mkS (((getT n1 qq).1).Path)), .slice a1196 ((((getT n1 qq).1).Data).length) n1197, .int .i64 (((getT n1 qq).1).Version), .int .i64 (((getT n1 qq).1).Owner), .int .i64 (((getT n1 qq).1).Next), .int .i64 (((getT n1 qq).1).Born)] 59 (0, 0))], ch1143]) s1256)) (fun _ _ _ => trivial) ?_
            rintro _ g1262 _ h1258 hle1263 s1259 ⟨c1260, rfl, o1261, hgg, rfl⟩; subst g1262; clear hle1263
            refine Op.pures 5 [3, 9, 11, 12, 13, 15] (L' := []) (e' := [(3, .bool num), (9, .pointer (some ⟨b1015, 0, none⟩)), (11, .slice a1138 ((ns).length) n1139), (12, .string (mkS qq)), (13, .int .i64 ((setT n1 qq ([(111 : UInt8), (116 : UInt8), (104 : UInt8), (101 : UInt8), (114 : UInt8)] : List UInt8) 0).2.2)), (15, .int .i64 ((setT n1 qq ([(111 : UInt8), (116 : UInt8), (104 : UInt8), (101 : UInt8), (114 : UInt8)] : List UInt8) 0).2.1))]) (by kernel_rfl) ?_
            refine Op.goto 33 (by kernel_rfl) ?_
            have o1264 := IsTree.eq o1261 (show _ = (withL n1 ⟨qq, ([111, 116, 104, 101, 114] : List UInt8), 1, -1, 0, 5⟩) from by rw [HBk.set _ (by decide)])
            refine At.reg (L := [(0, false), (1, false), (2, false), (3, false), (4, false), (5, false)]) (by kernel_rfl) ?_
            refine Op.pures 3 [3, 9, 11, 12, 15, 140] (L' := [(3, false), (4, false), (5, false)]) (e' := [(3, .bool num), (9, .pointer (some ⟨b1015, 0, none⟩)), (11, .slice a1138 ((ns).length) n1139), (12, .string (mkS qq)), (15, .int .i64 ((setT n1 qq ([(111 : UInt8), (116 : UInt8), (104 : UInt8), (101 : UInt8), (114 : UInt8)] : List UInt8) 0).2.1)), (140, .bool (((setT n1 qq ([(111 : UInt8), (116 : UInt8), (104 : UInt8), (101 : UInt8), (114 : UInt8)] : List UInt8) 0).2.2) != (0 : Int)))]) (by kernel_rfl) ?_
            refine Op.ways (b := ((setT n1 qq ([(111 : UInt8), (116 : UInt8), (104 : UInt8), (101 : UInt8), (114 : UInt8)] : List UInt8) 0).2.2) != (0 : Int)) ⟨fun hb => ?_, fun hb => ?_⟩
            ·refine Op.cast (e' := [(3, .bool num), (9, .pointer (some ⟨b1015, 0, none⟩)), (11, .slice a1138 ((ns).length) n1139), (12, .string (mkS qq)), (15, .int .i64 ((setT n1 qq ([(111 : UInt8), (116 : UInt8), (104 : UInt8), (101 : UInt8), (114 : UInt8)] : List UInt8) 0).2.1)), (140, .bool true)]) (by rw [hb]) ?_
             have c1265 : ¬ (((setT n1 qq ([(111 : UInt8), (116 : UInt8), (104 : UInt8), (101 : UInt8), (114 : UInt8)] : List UInt8) 0).2.2) = (0 : Int)) := bneT hb
             clear hb
             refine Op.pures 3 [3, 9, 11, 12, 143] (L' := []) (e' := [(3, .bool num), (9, .pointer (some ⟨b1015, 0, none⟩)), (11, .slice a1138 ((ns).length) n1139), (12, .string (mkS qq)), (143, .bool true)]) (by kernel_rfl) ?_
             refine Op.goto 34 (by kernel_rfl) ?_
             refine At.condT (c := .tmp 143) (by kernel_rfl) (by kernel_rfl) (by kernel_rfl) 35 (by kernel_rfl) ?_
             refine At.reg (L := [(0, false)]) (by kernel_rfl) ?_
             refine Op.pures 1 [8] (L' := []) (e' := [(8, .bool false)]) (by kernel_rfl) ?_
             refine Op.goto 36 (by kernel_rfl) ?_
             refine At.ret (f := Tryz.f10) (v := .bool false) (by kernel_rfl) (by kernel_rfl) ?_
             have s1266 : St h g (ids []) g1253 [] h1258 := (s1259).drop.drop.drop.drop
             have s1267 : St h g (ids []) g [] h1258 := s1266.unfrz
             refine hR _ _ _ _ s1267 ⟨?_, rfl, rfl⟩
             exact (eqB (by exact absurd (HBk.s1 (by decide)).1 c1265))
            ·refine Op.cast (e' := [(3, .bool num), (9, .pointer (some ⟨b1015, 0, none⟩)), (11, .slice a1138 ((ns).length) n1139), (12, .string (mkS qq)), (15, .int .i64 ((setT n1 qq ([(111 : UInt8), (116 : UInt8), (104 : UInt8), (101 : UInt8), (114 : UInt8)] : List UInt8) 0).2.1)), (140, .bool false)]) (by rw [hb]) ?_
             have c1268 : ((setT n1 qq ([(111 : UInt8), (116 : UInt8), (104 : UInt8), (101 : UInt8), (114 : UInt8)] : List UInt8) 0).2.2) = (0 : Int) := bneF hb
             clear hb
             refine Op.pures 3 [3, 9, 11, 12, 143] (L' := []) (e' := [(3, .bool num), (9, .pointer (some ⟨b1015, 0, none⟩)), (11, .slice a1138 ((ns).length) n1139), (12, .string (mkS qq)), (143, .bool (((setT n1 qq ([(111 : UInt8), (116 : UInt8), (104 : UInt8), (101 : UInt8), (114 : UInt8)] : List UInt8) 0).2.1) != (1 : Int)))]) (by kernel_rfl) ?_
             refine Op.goto 34 (by kernel_rfl) ?_
             refine At.cond (b := ((setT n1 qq ([(111 : UInt8), (116 : UInt8), (104 : UInt8), (101 : UInt8), (114 : UInt8)] : List UInt8) 0).2.1) != (1 : Int)) (c := .tmp 143) (by kernel_rfl) (by kernel_rfl) (by kernel_rfl) 35 37 (by kernel_rfl) (by kernel_rfl) (fun hb => ?_) (fun hb => ?_)
             ·have c1269 : ¬ (((setT n1 qq ([(111 : UInt8), (116 : UInt8), (104 : UInt8), (101 : UInt8), (114 : UInt8)] : List UInt8) 0).2.1) = (1 : Int)) := bneT hb
              clear hb
              refine At.keep [] ?_; show At _ _ _ [] _
              refine At.reg (L := [(0, false)]) (by kernel_rfl) ?_
              refine Op.pures 1 [8] (L' := []) (e' := [(8, .bool false)]) (by kernel_rfl) ?_
              refine Op.goto 36 (by kernel_rfl) ?_
              refine At.ret (f := Tryz.f10) (v := .bool false) (by kernel_rfl) (by kernel_rfl) ?_
              have s1270 : St h g (ids []) g1253 [] h1258 := (s1259).drop.drop.drop.drop
              have s1271 : St h g (ids []) g [] h1258 := s1270.unfrz
              refine hR _ _ _ _ s1271 ⟨?_, rfl, rfl⟩
              exact (eqB (by exact absurd (HBk.s1 (by decide)).2 c1269))
             ·have c1272 : ((setT n1 qq ([(111 : UInt8), (116 : UInt8), (104 : UInt8), (101 : UInt8), (114 : UInt8)] : List UInt8) 0).2.1) = (1 : Int) := bneF hb
              clear hb
              refine At.keep [3, 9, 11, 12] ?_; show At _ _ _ [(3, .bool num), (9, .pointer (some ⟨b1015, 0, none⟩)), (11, .slice a1138 ((ns).length) n1139), (12, .string (mkS qq))] _
              refine At.reg (L := [(0, false), (1, false), (2, false), (3, false), (4, false), (5, false), (6, false)]) (by kernel_rfl) ?_
              refine Op.pures 2 [3, 9, 11, 12, 145, 146] (L' := [(2, false), (3, false), (4, false), (5, false), (6, false)]) (e' := [(3, .bool num), (9, .pointer (some ⟨b1015, 0, none⟩)), (11, .slice a1138 ((ns).length) n1139), (12, .string (mkS qq)), (145, .pointer (some ⟨b1015, 0, none⟩)), (146, .string (mkS qq))]) (by kernel_rfl) ?_
              refine Op.call (dst := some 147) (f := 41) (args := #[.pointer (some ⟨b1015, 0, none⟩), .string (mkS qq), .slice none 0 0, .int .i64 0]) (Lc := [c1260]) (L := [ch1194, [(b1200, Obj.cells #[.string (mkS (((getT n1 qq).1).Path)), .slice a1196 ((((getT n1 qq).1).Data).length) n1197, .int .i64 (((getT n1 qq).1).Version), .int .i64 (((getT n1 qq).1).Owner), .int .i64 (((getT n1 qq).1).Next), .int .i64 (((getT n1 qq).1).Born)] 59 (0, 0))], ch1143]) (by kernel_rfl) s1259 (setF _ _ _ s1259.sub hG b1015 (withL n1 ⟨qq, ([111, 116, 104, 101, 114] : List UInt8), 1, -1, 0, 5⟩) _ o1264 qq _ _ (SlR.nil _ _ _) 0 (by ((try dsimp only) <;> (exact (HBk.ok2 _ (by decide)).b (by have hsm := (small (by assumption)).1; omega)))) (by ((try dsimp only) <;> ((have := cut_len HBk.up.2.2; omega)))) (by ((try dsimp only) <;> (decide))) (St.part (Lc := [c1260]) (L := [ch1194, [(b1200, Obj.cells #[.string (mkS (((getT n1 qq).1).Path)), .slice a1196 ((((getT n1 qq).1).Data).length) n1197, .int .i64 (((getT n1 qq).1).Version), .int .i64 (((getT n1 qq).1).Owner), .int .i64 (((getT n1 qq).1).Next), .int .i64 (((getT n1 qq).1).Born)] 59 (0, 0))], ch1143]) s1259)) (fun _ _ _ => trivial) ?_
              rintro _ g1277 _ h1273 hle1278 s1274 ⟨c1275, rfl, o1276, hgg, rfl⟩; subst g1277; clear hle1278
              refine Op.pures 4 [3, 9, 11, 12, 13] (L' := []) (e' := [(3, .bool num), (9, .pointer (some ⟨b1015, 0, none⟩)), (11, .slice a1138 ((ns).length) n1139), (12, .string (mkS qq)), (13, .int .i64 ((setT (withL n1 ⟨qq, ([111, 116, 104, 101, 114] : List UInt8), 1, -1, 0, 5⟩) qq [] 0).2.2))]) (by kernel_rfl) ?_
              refine Op.goto 38 (by kernel_rfl) ?_
              have o1279 := IsTree.eq o1276 (show _ = (withL n1 ⟨qq, ([111, 116, 104, 101, 114] : List UInt8), 1, -1, 0, 5⟩) from by rw [HBk.set2 _ _ (by decide)])
              refine At.reg (L := [(0, false), (1, false), (2, false), (3, false), (4, false), (5, false), (6, false), (7, false), (8, false), (9, false), (10, false), (11, false), (12, false), (13, false)]) (by kernel_rfl) ?_
              refine Op.pures 3 [3, 9, 11, 12, 152] (L' := [(3, false), (4, false), (5, false), (6, false), (7, false), (8, false), (9, false), (10, false), (11, false), (12, false), (13, false)]) (e' := [(3, .bool num), (9, .pointer (some ⟨b1015, 0, none⟩)), (11, .slice a1138 ((ns).length) n1139), (12, .string (mkS qq)), (152, .bool (((setT (withL n1 ⟨qq, ([111, 116, 104, 101, 114] : List UInt8), 1, -1, 0, 5⟩) qq [] 0).2.2) != (102 : Int)))]) (by kernel_rfl) ?_
              refine Op.ways (b := ((setT (withL n1 ⟨qq, ([111, 116, 104, 101, 114] : List UInt8), 1, -1, 0, 5⟩) qq [] 0).2.2) != (102 : Int)) ⟨fun hb => ?_, fun hb => ?_⟩
              ·refine Op.cast (e' := [(3, .bool num), (9, .pointer (some ⟨b1015, 0, none⟩)), (11, .slice a1138 ((ns).length) n1139), (12, .string (mkS qq)), (152, .bool true)]) (by rw [hb]) ?_
               have c1280 : ¬ (((setT (withL n1 ⟨qq, ([111, 116, 104, 101, 114] : List UInt8), 1, -1, 0, 5⟩) qq [] 0).2.2) = (102 : Int)) := bneT hb
               clear hb
               refine Op.pures 11 [3, 9, 11, 12, 163] (L' := []) (e' := [(3, .bool num), (9, .pointer (some ⟨b1015, 0, none⟩)), (11, .slice a1138 ((ns).length) n1139), (12, .string (mkS qq)), (163, .bool true)]) (by kernel_rfl) ?_
               refine Op.goto 39 (by kernel_rfl) ?_
               refine At.condT (c := .tmp 163) (by kernel_rfl) (by kernel_rfl) (by kernel_rfl) 40 (by kernel_rfl) ?_
               refine At.reg (L := [(0, false)]) (by kernel_rfl) ?_
               refine Op.pures 1 [8] (L' := []) (e' := [(8, .bool false)]) (by kernel_rfl) ?_
               refine Op.goto 41 (by kernel_rfl) ?_
               refine At.ret (f := Tryz.f10) (v := .bool false) (by kernel_rfl) (by kernel_rfl) ?_
               have s1281 : St h g (ids []) g1253 [] h1273 := (s1274).drop.drop.drop.drop
               have s1282 : St h g (ids []) g [] h1273 := s1281.unfrz
               refine hR _ _ _ _ s1282 ⟨?_, rfl, rfl⟩
               exact (eqB (by exact absurd (HBk.s2 (by decide)) c1280))
              ·refine Op.cast (e' := [(3, .bool num), (9, .pointer (some ⟨b1015, 0, none⟩)), (11, .slice a1138 ((ns).length) n1139), (12, .string (mkS qq)), (152, .bool false)]) (by rw [hb]) ?_
               have c1283 : ((setT (withL n1 ⟨qq, ([111, 116, 104, 101, 114] : List UInt8), 1, -1, 0, 5⟩) qq [] 0).2.2) = (102 : Int) := bneF hb
               clear hb
               refine Op.pures 2 [3, 9, 11, 12, 152, 153, 154] (L' := [(5, false), (6, false), (7, false), (8, false), (9, false), (10, false), (11, false), (12, false), (13, false)]) (e' := [(3, .bool num), (9, .pointer (some ⟨b1015, 0, none⟩)), (11, .slice a1138 ((ns).length) n1139), (12, .string (mkS qq)), (152, .bool false), (153, .pointer (some ⟨b1015, 0, none⟩)), (154, .string (mkS qq))]) (by kernel_rfl) ?_
               refine Op.call (dst := some 155) (f := 33) (args := #[.pointer (some ⟨b1015, 0, none⟩), .string (mkS qq), .int .i64 0]) (Lc := [c1275]) (L := [ch1194, [(b1200, Obj.cells #[.string (mkS (((getT n1 qq).1).Path)), .slice a1196 ((((getT n1 qq).1).Data).length) n1197, .int .i64 (((getT n1 qq).1).Version), .int .i64 (((getT n1 qq).1).Owner), .int .i64 (((getT n1 qq).1).Next), .int .i64 (((getT n1 qq).1).Born)] 59 (0, 0))], ch1143]) (by kernel_rfl) s1274 (dropF _ _ _ s1274.sub hG b1015 (withL n1 ⟨qq, ([111, 116, 104, 101, 114] : List UInt8), 1, -1, 0, 5⟩) _ o1279 qq 0 (by ((try dsimp only) <;> (exact (HBk.ok2 _ (by decide)).b (by have hsm := (small (by assumption)).1; omega)))) (by ((try dsimp only) <;> ((have := cut_len HBk.up.2.2; omega)))) (St.part (Lc := [c1275]) (L := [ch1194, [(b1200, Obj.cells #[.string (mkS (((getT n1 qq).1).Path)), .slice a1196 ((((getT n1 qq).1).Data).length) n1197, .int .i64 (((getT n1 qq).1).Version), .int .i64 (((getT n1 qq).1).Owner), .int .i64 (((getT n1 qq).1).Next), .int .i64 (((getT n1 qq).1).Born)] 59 (0, 0))], ch1143]) s1274)) (fun _ _ _ => trivial) ?_
               rintro _ g1288 _ h1284 hle1289 s1285 ⟨c1286, rfl, o1287, hgg, rfl⟩; subst g1288; clear hle1289
               refine Op.pures 3 [3, 9, 11, 12, 158] (L' := [(9, false), (10, false), (11, false), (12, false), (13, false)]) (e' := [(3, .bool num), (9, .pointer (some ⟨b1015, 0, none⟩)), (11, .slice a1138 ((ns).length) n1139), (12, .string (mkS qq)), (158, .bool (((dropT (withL n1 ⟨qq, ([111, 116, 104, 101, 114] : List UInt8), 1, -1, 0, 5⟩) qq 0).2) != (102 : Int)))]) (by kernel_rfl) ?_
               refine Op.ways (b := ((dropT (withL n1 ⟨qq, ([111, 116, 104, 101, 114] : List UInt8), 1, -1, 0, 5⟩) qq 0).2) != (102 : Int)) ⟨fun hb => ?_, fun hb => ?_⟩
               ·refine Op.cast (e' := [(3, .bool num), (9, .pointer (some ⟨b1015, 0, none⟩)), (11, .slice a1138 ((ns).length) n1139), (12, .string (mkS qq)), (158, .bool true)]) (by rw [hb]) ?_
                have c1290 : ¬ (((dropT (withL n1 ⟨qq, ([111, 116, 104, 101, 114] : List UInt8), 1, -1, 0, 5⟩) qq 0).2) = (102 : Int)) := bneT hb
                clear hb
                refine Op.pures 5 [3, 9, 11, 12, 163] (L' := []) (e' := [(3, .bool num), (9, .pointer (some ⟨b1015, 0, none⟩)), (11, .slice a1138 ((ns).length) n1139), (12, .string (mkS qq)), (163, .bool true)]) (by kernel_rfl) ?_
                refine Op.goto 39 (by kernel_rfl) ?_
                refine At.condT (c := .tmp 163) (by kernel_rfl) (by kernel_rfl) (by kernel_rfl) 40 (by kernel_rfl) ?_
                refine At.reg (L := [(0, false)]) (by kernel_rfl) ?_
                refine Op.pures 1 [8] (L' := []) (e' := [(8, .bool false)]) (by kernel_rfl) ?_
                refine Op.goto 41 (by kernel_rfl) ?_
                refine At.ret (f := Tryz.f10) (v := .bool false) (by kernel_rfl) (by kernel_rfl) ?_
                have s1291 : St h g (ids []) g1253 [] h1284 := (s1285).drop.drop.drop.drop
                have s1292 : St h g (ids []) g [] h1284 := s1291.unfrz
                refine hR _ _ _ _ s1292 ⟨?_, rfl, rfl⟩
                exact (eqB (by exact absurd (HBk.d1 (by decide)) c1290))
               ·refine Op.cast (e' := [(3, .bool num), (9, .pointer (some ⟨b1015, 0, none⟩)), (11, .slice a1138 ((ns).length) n1139), (12, .string (mkS qq)), (158, .bool false)]) (by rw [hb]) ?_
                have c1293 : ((dropT (withL n1 ⟨qq, ([111, 116, 104, 101, 114] : List UInt8), 1, -1, 0, 5⟩) qq 0).2) = (102 : Int) := bneF hb
                clear hb
                refine Op.pures 2 [3, 9, 11, 12, 158, 159, 160] (L' := [(11, false), (12, false), (13, false)]) (e' := [(3, .bool num), (9, .pointer (some ⟨b1015, 0, none⟩)), (11, .slice a1138 ((ns).length) n1139), (12, .string (mkS qq)), (158, .bool false), (159, .pointer (some ⟨b1015, 0, none⟩)), (160, .string (mkS qq))]) (by kernel_rfl) ?_
                refine Op.call (dst := some 161) (f := 33) (args := #[.pointer (some ⟨b1015, 0, none⟩), .string (mkS qq), .int .i64 1]) (Lc := [c1286]) (L := [ch1194, [(b1200, Obj.cells #[.string (mkS (((getT n1 qq).1).Path)), .slice a1196 ((((getT n1 qq).1).Data).length) n1197, .int .i64 (((getT n1 qq).1).Version), .int .i64 (((getT n1 qq).1).Owner), .int .i64 (((getT n1 qq).1).Next), .int .i64 (((getT n1 qq).1).Born)] 59 (0, 0))], ch1143]) (by kernel_rfl) s1285 (dropF _ _ _ s1285.sub hG b1015 ((dropT (withL n1 ⟨qq, ([111, 116, 104, 101, 114] : List UInt8), 1, -1, 0, 5⟩) qq 0).1) _ o1287 qq 1 (by ((try dsimp only) <;> ((rw [HBk.drop1 _ (by decide)]; exact (HBk.ok2 _ (by decide)).b (by have hsm := (small (by assumption)).1; omega))))) (by ((try dsimp only) <;> ((have := cut_len HBk.up.2.2; omega)))) (St.part (Lc := [c1286]) (L := [ch1194, [(b1200, Obj.cells #[.string (mkS (((getT n1 qq).1).Path)), .slice a1196 ((((getT n1 qq).1).Data).length) n1197, .int .i64 (((getT n1 qq).1).Version), .int .i64 (((getT n1 qq).1).Owner), .int .i64 (((getT n1 qq).1).Next), .int .i64 (((getT n1 qq).1).Born)] 59 (0, 0))], ch1143]) s1285)) (fun _ _ _ => trivial) ?_
                rintro _ g1298 _ h1294 hle1299 s1295 ⟨c1296, rfl, o1297, hgg, rfl⟩; subst g1298; clear hle1299
                refine Op.pures 2 [3, 9, 11, 12, 163] (L' := []) (e' := [(3, .bool num), (9, .pointer (some ⟨b1015, 0, none⟩)), (11, .slice a1138 ((ns).length) n1139), (12, .string (mkS qq)), (163, .bool (((dropT ((dropT (withL n1 ⟨qq, ([111, 116, 104, 101, 114] : List UInt8), 1, -1, 0, 5⟩) qq 0).1) qq 1).2) != (0 : Int)))]) (by kernel_rfl) ?_
                refine Op.goto 39 (by kernel_rfl) ?_
                refine At.cond (b := ((dropT ((dropT (withL n1 ⟨qq, ([111, 116, 104, 101, 114] : List UInt8), 1, -1, 0, 5⟩) qq 0).1) qq 1).2) != (0 : Int)) (c := .tmp 163) (by kernel_rfl) (by kernel_rfl) (by kernel_rfl) 40 42 (by kernel_rfl) (by kernel_rfl) (fun hb => ?_) (fun hb => ?_)
                ·have c1300 : ¬ (((dropT ((dropT (withL n1 ⟨qq, ([111, 116, 104, 101, 114] : List UInt8), 1, -1, 0, 5⟩) qq 0).1) qq 1).2) = (0 : Int)) := bneT hb
                 clear hb
                 refine At.keep [] ?_; show At _ _ _ [] _
                 refine At.reg (L := [(0, false)]) (by kernel_rfl) ?_
                 refine Op.pures 1 [8] (L' := []) (e' := [(8, .bool false)]) (by kernel_rfl) ?_
                 refine Op.goto 41 (by kernel_rfl) ?_
                 refine At.ret (f := Tryz.f10) (v := .bool false) (by kernel_rfl) (by kernel_rfl) ?_
                 have s1301 : St h g (ids []) g1253 [] h1294 := (s1295).drop.drop.drop.drop
                 have s1302 : St h g (ids []) g [] h1294 := s1301.unfrz
                 refine hR _ _ _ _ s1302 ⟨?_, rfl, rfl⟩
                 exact (eqB (by exact absurd (HBk.d2 (by decide)) c1300))
                ·have c1303 : ((dropT ((dropT (withL n1 ⟨qq, ([111, 116, 104, 101, 114] : List UInt8), 1, -1, 0, 5⟩) qq 0).1) qq 1).2) = (0 : Int) := bneF hb
                 clear hb
                 refine At.keep [3, 9, 11, 12] ?_; show At _ _ _ [(3, .bool num), (9, .pointer (some ⟨b1015, 0, none⟩)), (11, .slice a1138 ((ns).length) n1139), (12, .string (mkS qq))] _
                 have o1304 := IsTree.eq o1297 (show _ = (upL ns uu num) from by rw [HBk.drop1 _ (by decide), HBk.drop2 _ (by decide)])
                 refine At.reg (L := [(0, false), (1, false), (2, false)]) (by kernel_rfl) ?_
                 refine Op.pures 1 [3, 11, 12, 164] (L' := [(1, false), (2, false)]) (e' := [(3, .bool num), (11, .slice a1138 ((ns).length) n1139), (12, .string (mkS qq)), (164, .pointer (some ⟨b1015, 0, none⟩))]) (by kernel_rfl) ?_
                 have hl1305 := s1295.frzle
                 have hz1306 := IsTree.frz o1304 s1295 (by intro p hp; simp only [List.mem_append, hp, true_or, or_true])
                 refine Op.lend (dst := some 165) (f := 30) (args := #[.pointer (some ⟨b1015, 0, none⟩)]) (cf := (c1296 : Chunk)) (Lc := []) (L := [ch1194, [(b1200, Obj.cells #[.string (mkS (((getT n1 qq).1).Path)), .slice a1196 ((((getT n1 qq).1).Data).length) n1197, .int .i64 (((getT n1 qq).1).Version), .int .i64 (((getT n1 qq).1).Owner), .int .i64 (((getT n1 qq).1).Next), .int .i64 (((getT n1 qq).1).Born)] 59 (0, 0))], ch1143]) (by kernel_rfl) s1295 (allF _ _ _ s1295.frzsub (hG.mono hl1305) b1015 (upL ns uu num) hz1306 (by ((try dsimp only) <;> (exact (upL_ok hT (by have hsm := (small (by assumption)).1; omega) HBk.up.1).b (by have hsm := (small (by assumption)).1; omega)))) ) (fun _ _ _ hp => by obtain ⟨_, _, _, _, _, hgg, _⟩ := hp; exact hgg) (fun _ _ h => absurd h (ids_nil _)) ?_
                 rintro _ _ h1307 s1308 ⟨v1309, ch1310, dc1311, rfl, R1312, hgg, rfl⟩; clear hgg
                 have s1315 : St h g (ids []) g1253 [ch1310, dc1311, c1296, ch1194, [(b1200, Obj.cells #[.string (mkS (((getT n1 qq).1).Path)), .slice a1196 ((((getT n1 qq).1).Data).length) n1197, .int .i64 (((getT n1 qq).1).Version), .int .i64 (((getT n1 qq).1).Owner), .int .i64 (((getT n1 qq).1).Next), .int .i64 (((getT n1 qq).1).Born)] 59 (0, 0))], ch1143] h1307 := (((s1308.front 0 rfl).front 2 rfl).front 2 rfl)
                 obtain ⟨g1316, s1317, hle1318, R1319⟩ := Deep.row R1312 s1315
                 replace R1144 := R1144.mono hle1318
                 replace R1195 := R1195.mono hle1318
                 replace hG := hG.mono hle1318
                 replace hP := hP.mono hle1318
                 replace hf1137 := hf1137.mono hle1318
                 replace o1304 := o1304.mono hle1318
                 obtain ⟨a1320, n1321, rfl⟩ := R1319.form
                 refine Op.pures 1 [3, 11, 12, 16] (L' := []) (e' := [(3, .bool num), (11, .slice a1138 ((ns).length) n1139), (12, .string (mkS qq)), (16, .slice a1320 (((upL ns uu num)).length) n1321)]) (by kernel_rfl) ?_
                 refine Op.goto 43 (by kernel_rfl) ?_
                 refine At.reg (L := [(0, false), (1, false), (2, false), (3, false), (4, false), (5, false), (6, false)]) (by kernel_rfl) ?_
                 refine Op.pures 1 [3, 11, 16, 167] (L' := [(1, false), (2, false), (3, false), (4, false), (5, false), (6, false)]) (e' := [(3, .bool num), (11, .slice a1138 ((ns).length) n1139), (16, .slice a1320 (((upL ns uu num)).length) n1321), (167, .string (mkS qq))]) (by kernel_rfl) ?_
                 refine Op.call0 (dst := some 168) (f := 36) (args := #[.string (mkS qq)]) (by kernel_rfl) s1317 (parentP _ _ _ s1317.sub hG qq (by ((try dsimp only) <;> ((have := cut_len HBk.up.2.2; omega)))) ) ?_
                 rintro _ g1324 _ h1322 hle1325 s1323 ⟨rfl, hgg, rfl⟩; subst g1324; clear hle1325
                 refine Op.pures 5 [3, 11, 16, 17] (L' := []) (e' := [(3, .bool num), (11, .slice a1138 ((ns).length) n1139), (16, .slice a1320 (((upL ns uu num)).length) n1321), (17, .string (mkS (parentOf qq)))]) (by kernel_rfl) ?_
                 refine Op.goto 44 (by kernel_rfl) ?_
                 refine At.reg (L := [(0, false)]) (by kernel_rfl) ?_
                 refine Op.pures 1 [3, 11, 16, 17, 19] (L' := []) (e' := [(3, .bool num), (11, .slice a1138 ((ns).length) n1139), (16, .slice a1320 (((upL ns uu num)).length) n1321), (17, .string (mkS (parentOf qq))), (19, .int .i64 0)]) (by kernel_rfl) ?_
                 refine Op.goto 45 (by kernel_rfl) ?_
                 have loop45 : ∀ (m : Nat) (af : List Leaf) (z : Int) (a1326 : Option Addr) (n1327 : Nat) (ch1328 : Chunk) (h1330 : Heap) (hm : (upL ns uu num).length - z.toNat < m) (h6 : 0 ≤ z) (h7 : z ≤ (upL ns uu num).length) (haf : af = ((upL ns uu num).take z.toNat).map (downF (parentOf qq) num) ++ (upL ns uu num).drop z.toNat) (R1329 : Row 59 kLeaf g1316 (.slice a1326 af.length n1327) af ch1328)    (s_loop451329 : St h g (ids []) g1316 [ch1328, c1296, ch1194, [(b1200, Obj.cells #[.string (mkS (((getT n1 qq).1).Path)), .slice a1196 ((((getT n1 qq).1).Data).length) n1197, .int .i64 (((getT n1 qq).1).Version), .int .i64 (((getT n1 qq).1).Owner), .int .i64 (((getT n1 qq).1).Next), .int .i64 (((getT n1 qq).1).Born)] 59 (0, 0))], ch1143] h1330), At (fctx Tryz.prog B 10 Tryz.f10 R) [] 45 [(3, .bool num), (11, .slice a1138 ((ns).length) n1139), (16, .slice a1326 af.length n1327), (17, .string (mkS (parentOf qq))), (19, .int .i64 z)] h1330 := by
                  intro m; induction m with
                  | zero => intros; omega
                  | succ m ih45 =>
                   intro af z a1326 n1327 ch1328 h1330 hm h6 h7 haf R1329 s_loop451329
                   refine At.reg (L := [(0, false), (1, false), (2, false), (3, false)]) (by kernel_rfl) ?_
                   refine Op.pures 4 [3, 11, 16, 17, 19, 174] (L' := []) (e' := [(3, .bool num), (11, .slice a1138 ((ns).length) n1139), (16, .slice a1326 af.length n1327), (17, .string (mkS (parentOf qq))), (19, .int .i64 z), (174, .bool (decide (z < (af.length : Int))))]) (by kernel_rfl) ?_
                   refine Op.goto 46 (by kernel_rfl) ?_
                   refine At.cond (b := decide (z < (af.length : Int))) (c := .tmp 174) (by kernel_rfl) (by kernel_rfl) (by kernel_rfl) 47 51 (by kernel_rfl) (by kernel_rfl) (fun hb => ?_) (fun hb => ?_)
                   ·have c1331 : z < (af.length : Int) := of_decide_eq_true hb
                    clear hb
                    refine At.keep [3, 11, 16, 17, 19] ?_; show At _ _ _ [(3, .bool num), (11, .slice a1138 ((ns).length) n1139), (16, .slice a1326 af.length n1327), (17, .string (mkS (parentOf qq))), (19, .int .i64 z)] _
                    refine At.reg (L := [(0, false), (1, false), (2, false), (3, false), (4, false), (5, false), (6, false), (7, false), (8, false), (9, false)]) (by kernel_rfl) ?_
                    refine Op.pures 2 [3, 11, 16, 17, 19, 177, 178] (L' := [(2, false), (3, false), (4, false), (5, false), (6, false), (7, false), (8, false), (9, false)]) (e' := [(3, .bool num), (11, .slice a1138 ((ns).length) n1139), (16, .slice a1326 af.length n1327), (17, .string (mkS (parentOf qq))), (19, .int .i64 z), (177, .slice a1326 af.length n1327), (178, .int .i64 z)]) (by kernel_rfl) ?_
                    obtain ⟨x1332, hx1333⟩ : ∃ c, af[(z : Int).toNat]? = some c := ⟨_, List.getElem?_eq_getElem (by omega)⟩
                    obtain ⟨b1334, o1335, cu1336, fz1337, ha1338, hb1339, hk1340⟩ := SlH.at_ (R1329.toH s_loop451329 0 rfl) _ hx1333
                    cases ha1338
                    refine Op.idx (T := 52) (E := 59) (sz := 6) (by_ := 72) (n := af.length) (c := n1327) (k := .i64) (x := (.tmp 177)) (ix := (.tmp 178)) (dst := 179) (bk := b1334) (o := o1335) (m := z) (by kernel_rfl) (by kernel_rfl) (by kernel_rfl) (by kernel_rfl) (by omega) (by omega) ?_
                    obtain ⟨v1341, hv1342, hk1340⟩ := hk1340
                    obtain ⟨a1343, n1344, rfl⟩ := hv1342.form
                    refine Op.pures 1 [3, 11, 16, 17, 19, 180] (L' := [(4, false), (5, false), (6, false), (7, false), (8, false), (9, false)]) (e' := [(3, .bool num), (11, .slice a1138 ((ns).length) n1139), (16, .slice (some ⟨b1334, o1335, none⟩) af.length n1327), (17, .string (mkS (parentOf qq))), (19, .int .i64 z), (180, .pointer (some ⟨b1334, o1335 + (z : Int).toNat * 6, none⟩))]) (by kernel_rfl) ?_
                    refine Op.load (T := 9) (x := (.tmp 180)) (o := o1335 + (z : Int).toNat * 6) (d := 181) (n := 1) (v := .string (mkS x1332.Path)) (by kernel_rfl) (by kernel_rfl) (by kernel_rfl) hb1339 (cut_get hk1340 0 rfl) ?_
                    refine Op.pures 1 [3, 11, 16, 17, 19, 181, 182] (L' := [(6, false), (7, false), (8, false), (9, false)]) (e' := [(3, .bool num), (11, .slice a1138 ((ns).length) n1139), (16, .slice (some ⟨b1334, o1335, none⟩) af.length n1327), (17, .string (mkS (parentOf qq))), (19, .int .i64 z), (181, .string (mkS x1332.Path)), (182, .string (mkS (parentOf qq)))]) (by kernel_rfl) ?_
                    refine Op.val (dst := some 183) (v := .bool ((mkS x1332.Path).toList == (mkS (parentOf qq)).toList)) (v' := .bool (x1332.Path == (parentOf qq))) (by kernel_rfl) (by rw [toList_mkS, toList_mkS]) ?_
                    refine Op.pures 1 [3, 11, 16, 17, 19, 184] (L' := [(8, false), (9, false)]) (e' := [(3, .bool num), (11, .slice a1138 ((ns).length) n1139), (16, .slice (some ⟨b1334, o1335, none⟩) af.length n1327), (17, .string (mkS (parentOf qq))), (19, .int .i64 z), (184, .bool (x1332.Path == (parentOf qq)))]) (by kernel_rfl) ?_
                    refine Op.ways (b := x1332.Path == (parentOf qq)) ⟨fun hb => ?_, fun hb => ?_⟩
                    ·refine Op.cast (e' := [(3, .bool num), (11, .slice a1138 ((ns).length) n1139), (16, .slice (some ⟨b1334, o1335, none⟩) af.length n1327), (17, .string (mkS (parentOf qq))), (19, .int .i64 z), (184, .bool true)]) (by rw [hb]) ?_
                     have c1345 : x1332.Path = (parentOf qq) := eq_of_beq hb
                     clear hb
                     refine Op.pures 2 [3, 11, 16, 17, 19, 186] (L' := []) (e' := [(3, .bool num), (11, .slice a1138 ((ns).length) n1139), (16, .slice (some ⟨b1334, o1335, none⟩) af.length n1327), (17, .string (mkS (parentOf qq))), (19, .int .i64 z), (186, .bool num)]) (by kernel_rfl) ?_
                     refine Op.goto 48 (by kernel_rfl) ?_
                     refine At.cond (b := num) (c := .tmp 186) (by kernel_rfl) (by kernel_rfl) (by kernel_rfl) 49 50 (by kernel_rfl) (by kernel_rfl) (fun hb => ?_) (fun hb => ?_)
                     ·have c1346 : num = true := hb
                      clear hb
                      refine At.keep [3, 11, 16, 17, 19] ?_; show At _ _ _ [(3, .bool num), (11, .slice a1138 ((ns).length) n1139), (16, .slice (some ⟨b1334, o1335, none⟩) af.length n1327), (17, .string (mkS (parentOf qq))), (19, .int .i64 z)] _
                      refine At.reg (L := [(0, false), (1, false), (2, false), (3, false), (4, false), (5, false), (6, false), (7, false), (8, false)]) (by kernel_rfl) ?_
                      refine Op.pures 2 [3, 11, 16, 17, 19, 187, 188] (L' := [(2, false), (3, false), (4, false), (5, false), (6, false), (7, false), (8, false)]) (e' := [(3, .bool num), (11, .slice a1138 ((ns).length) n1139), (16, .slice (some ⟨b1334, o1335, none⟩) af.length n1327), (17, .string (mkS (parentOf qq))), (19, .int .i64 z), (187, .slice (some ⟨b1334, o1335, none⟩) af.length n1327), (188, .int .i64 z)]) (by kernel_rfl) ?_
                      obtain ⟨b1349, o1350, cu1351, fz1352, ha1353, hb1354, hk1355⟩ := SlH.at_ (R1329.toH s_loop451329 0 rfl) _ hx1333
                      cases ha1353
                      refine Op.idx (T := 52) (E := 59) (sz := 6) (by_ := 72) (n := af.length) (c := n1327) (k := .i64) (x := (.tmp 187)) (ix := (.tmp 188)) (dst := 189) (bk := b1334) (o := o1335) (m := z) (by kernel_rfl) (by kernel_rfl) (by kernel_rfl) (by kernel_rfl) (by omega) (by omega) ?_
                      obtain ⟨v1356, hv1357, hk1355⟩ := hk1355
                      obtain ⟨a1358, n1359, rfl⟩ := hv1357.form
                      refine Op.pures 1 [3, 11, 16, 17, 19, 187, 188, 190] (L' := [(4, false), (5, false), (6, false), (7, false), (8, false)]) (e' := [(3, .bool num), (11, .slice a1138 ((ns).length) n1139), (16, .slice (some ⟨b1334, o1335, none⟩) af.length n1327), (17, .string (mkS (parentOf qq))), (19, .int .i64 z), (187, .slice (some ⟨b1334, o1335, none⟩) af.length n1327), (188, .int .i64 z), (190, .pointer (some ⟨b1334, o1335 + (z : Int).toNat * 6 + 4, none⟩))]) (by kernel_rfl) ?_
                      refine Op.load (T := 3) (x := (.tmp 190)) (o := o1335 + (z : Int).toNat * 6 + 4) (d := 191) (n := 1) (v := .int .i64 x1332.Next) (by kernel_rfl) (by kernel_rfl) (by kernel_rfl) hb1354 (cut_get hk1355 4 rfl) ?_
                      refine Op.val (dst := some 192) (v := .int .i64 (IntKind.wrap .i64 (x1332.Next - 1))) (v' := .int .i64 (IntKind.wrap .i64 (x1332.Next - 1))) (by kernel_rfl) rfl ?_
                      obtain ⟨b1362, o1363, cu1364, fz1365, ha1366, hb1367, hk1368⟩ := SlH.at_ (R1329.toH s_loop451329 0 rfl) _ hx1333
                      cases ha1366
                      refine Op.idx (T := 52) (E := 59) (sz := 6) (by_ := 72) (n := af.length) (c := n1327) (k := .i64) (x := (.tmp 187)) (ix := (.tmp 188)) (dst := 193) (bk := b1334) (o := o1335) (m := z) (by kernel_rfl) (by kernel_rfl) (by kernel_rfl) (by kernel_rfl) (by omega) (by omega) ?_
                      obtain ⟨v1369, hv1370, hk1368⟩ := hk1368
                      obtain ⟨a1371, n1372, rfl⟩ := hv1370.form
                      refine Op.pures 1 [3, 11, 16, 17, 19, 192, 194] (L' := [(8, false)]) (e' := [(3, .bool num), (11, .slice a1138 ((ns).length) n1139), (16, .slice (some ⟨b1334, o1335, none⟩) af.length n1327), (17, .string (mkS (parentOf qq))), (19, .int .i64 z), (192, .int .i64 (IntKind.wrap .i64 (x1332.Next - 1))), (194, .pointer (some ⟨b1334, o1335 + (z : Int).toNat * 6 + 4, none⟩))]) (by kernel_rfl) ?_
                      obtain ⟨_, _, cap1373, cu1374, rs1375, ev1376, ec1377, h1378, h1379, h1380, h1381⟩ := R1329.cases (Nat.lt_of_le_of_lt (Nat.zero_le _) (List.getElem?_eq_some_iff.1 hx1333).1)
                      cases ev1376; subst ec1377
                      have q1382 := (s_loop451329.chunk 0 rfl).symm.trans hb1367; simp only [Option.some.injEq, Obj.cells.injEq] at q1382; rw [← q1382.1] at hk1368
                      have hi1386 := (List.getElem?_eq_some_iff.1 hx1333).1
                      have ha1387 := Nat.mul_le_mul_right 6 (Nat.le_trans (Nat.succ_le_of_lt hi1386) (Nat.le_trans (Nat.le_add_right _ _) (Nat.le_of_eq h1378)))
                      refine Op.store (T := 3) (x := (.tmp 194)) (y := (.tmp 192)) (b := b1334) (o := o1335 + (z : Int).toNat * 6 + 4) (vs := [.int .i64 (IntKind.wrap .i64 (x1332.Next - 1))]) (a? := false) (n := 1) (by kernel_rfl) (by kernel_rfl) (by kernel_rfl) (by kernel_rfl) rfl (by simp [Value.oneCell']) s_loop451329 0 rfl (by simp only [Nat.succ_mul] at ha1387; simp only [show (kLeaf).sz = 6 from rfl] at h1380; omega) (cs := cu1374) (cs' := splice cu1374 (o1335 + (z : Int).toNat * 6) [.string (mkS x1332.Path), .slice a1371 x1332.Data.length n1372, .int .i64 x1332.Version, .int .i64 x1332.Owner, .int .i64 (IntKind.wrap .i64 (x1332.Next - 1)), .int .i64 x1332.Born]) (splice_part hk1368 4 (vs := [.int .i64 (IntKind.wrap .i64 (x1332.Next - 1))]) rfl (Nat.le_of_ble_eq_true rfl) (by simp only [Nat.succ_mul] at ha1387; simp only [show (kLeaf).sz = 6 from rfl] at h1380 ⊢; omega)) (fun _ => trivial) ?_
                      intro h1383 s1384
                      have R1385 := Row.put (T := 59) (b := b1334) h1378 h1379 h1380 h1381 _ hi1386 (x := (⟨x1332.Path, x1332.Data, x1332.Version, x1332.Owner, IntKind.wrap .i64 (x1332.Next - 1), x1332.Born⟩ : Leaf)) (vs := [.string (mkS x1332.Path), .slice a1371 x1332.Data.length n1372, .int .i64 x1332.Version, .int .i64 x1332.Owner, .int .i64 (IntKind.wrap .i64 (x1332.Next - 1)), .int .i64 x1332.Born]) ⟨_, hv1370, rfl⟩
                      refine Op.pures 0 [3, 11, 16, 17, 19] (L' := []) (e' := [(3, .bool num), (11, .slice a1138 ((ns).length) n1139), (16, .slice (some ⟨b1334, o1335, none⟩) af.length n1327), (17, .string (mkS (parentOf qq))), (19, .int .i64 z)]) (by kernel_rfl) ?_
                      refine Op.cast (e' := [(3, .bool num), (11, .slice a1138 ((ns).length) n1139), (16, .slice (some ⟨b1334, o1335, none⟩) ((af.set (z : Int).toNat (⟨x1332.Path, x1332.Data, x1332.Version, x1332.Owner, IntKind.wrap .i64 (x1332.Next - 1), x1332.Born⟩ : Leaf)).length) n1327), (17, .string (mkS (parentOf qq))), (19, .int .i64 z)]) (by simp only [List.length_set]) ?_
                      refine Op.goto 50 (by kernel_rfl) ?_
                      refine At.reg (L := [(0, false), (1, false), (2, false)]) (by kernel_rfl) ?_
                      refine Op.pures 1 [3, 11, 16, 17, 19, 175] (L' := [(1, false), (2, false)]) (e' := [(3, .bool num), (11, .slice a1138 ((ns).length) n1139), (16, .slice (some ⟨b1334, o1335, none⟩) ((af.set (z : Int).toNat (⟨x1332.Path, x1332.Data, x1332.Version, x1332.Owner, IntKind.wrap .i64 (x1332.Next - 1), x1332.Born⟩ : Leaf)).length) n1327), (17, .string (mkS (parentOf qq))), (19, .int .i64 z), (175, .int .i64 z)]) (by kernel_rfl) ?_
                      refine Op.val (dst := some 176) (v := .int .i64 (IntKind.wrap .i64 (z + 1))) (v' := .int .i64 (z + 1)) (by kernel_rfl) (wrapEq_i64 (by omega) (by (have h9 := bk_len haf h7 h6; have h8 := (upL_ok (num := num) hT (by have hsm := (small (by assumption)).1; omega) HBk.up.1).len; omega))) ?_
                      refine Op.pures 1 [3, 11, 16, 17, 19] (L' := []) (e' := [(3, .bool num), (11, .slice a1138 ((ns).length) n1139), (16, .slice (some ⟨b1334, o1335, none⟩) ((af.set (z : Int).toNat (⟨x1332.Path, x1332.Data, x1332.Version, x1332.Owner, IntKind.wrap .i64 (x1332.Next - 1), x1332.Born⟩ : Leaf)).length) n1327), (17, .string (mkS (parentOf qq))), (19, .int .i64 (z + 1))]) (by kernel_rfl) ?_
                      refine Op.goto 45 (by kernel_rfl) ?_
                      exact ih45  (af.set (z : Int).toNat (⟨x1332.Path, x1332.Data, x1332.Version, x1332.Owner, IntKind.wrap .i64 (x1332.Next - 1), x1332.Born⟩ : Leaf)) (z + 1) _ _ _ _ (by (have h9 := bk_len haf h7 h6; omega)) (by omega) (by (have h9 := bk_len haf h7 h6; omega)) (by exact bk_put haf h6 hx1333 (by assumption) (by assumption)) R1385 s1384
                     ·have c1388 : num = false := hb
                      clear hb
                      refine At.keep [3, 11, 16, 17, 19] ?_; show At _ _ _ [(3, .bool num), (11, .slice a1138 ((ns).length) n1139), (16, .slice (some ⟨b1334, o1335, none⟩) af.length n1327), (17, .string (mkS (parentOf qq))), (19, .int .i64 z)] _
                      refine At.reg (L := [(0, false), (1, false), (2, false)]) (by kernel_rfl) ?_
                      refine Op.pures 1 [3, 11, 16, 17, 19, 175] (L' := [(1, false), (2, false)]) (e' := [(3, .bool num), (11, .slice a1138 ((ns).length) n1139), (16, .slice (some ⟨b1334, o1335, none⟩) af.length n1327), (17, .string (mkS (parentOf qq))), (19, .int .i64 z), (175, .int .i64 z)]) (by kernel_rfl) ?_
                      refine Op.val (dst := some 176) (v := .int .i64 (IntKind.wrap .i64 (z + 1))) (v' := .int .i64 (z + 1)) (by kernel_rfl) (wrapEq_i64 (by omega) (by (have h9 := bk_len haf h7 h6; have h8 := (upL_ok (num := num) hT (by have hsm := (small (by assumption)).1; omega) HBk.up.1).len; omega))) ?_
                      refine Op.pures 1 [3, 11, 16, 17, 19] (L' := []) (e' := [(3, .bool num), (11, .slice a1138 ((ns).length) n1139), (16, .slice (some ⟨b1334, o1335, none⟩) af.length n1327), (17, .string (mkS (parentOf qq))), (19, .int .i64 (z + 1))]) (by kernel_rfl) ?_
                      refine Op.goto 45 (by kernel_rfl) ?_
                      exact ih45  af (z + 1) _ _ _ _ (by (have h9 := bk_len haf h7 h6; omega)) (by omega) (by (have h9 := bk_len haf h7 h6; omega)) (by exact bk_skip haf h6 hx1333 (.inr (by assumption))) R1329 s_loop451329
                    ·refine Op.cast (e' := [(3, .bool num), (11, .slice a1138 ((ns).length) n1139), (16, .slice (some ⟨b1334, o1335, none⟩) af.length n1327), (17, .string (mkS (parentOf qq))), (19, .int .i64 z), (184, .bool false)]) (by rw [hb]) ?_
                     have c1389 : ¬ (x1332.Path = (parentOf qq)) := neF hb
                     clear hb
                     refine Op.pures 2 [3, 11, 16, 17, 19, 186] (L' := []) (e' := [(3, .bool num), (11, .slice a1138 ((ns).length) n1139), (16, .slice (some ⟨b1334, o1335, none⟩) af.length n1327), (17, .string (mkS (parentOf qq))), (19, .int .i64 z), (186, .bool false)]) (by kernel_rfl) ?_
                     refine Op.goto 48 (by kernel_rfl) ?_
                     refine At.condF (c := .tmp 186) (by kernel_rfl) (by kernel_rfl) (by kernel_rfl) 50 (by kernel_rfl) ?_
                     refine At.reg (L := [(0, false), (1, false), (2, false)]) (by kernel_rfl) ?_
                     refine Op.pures 1 [3, 11, 16, 17, 19, 175] (L' := [(1, false), (2, false)]) (e' := [(3, .bool num), (11, .slice a1138 ((ns).length) n1139), (16, .slice (some ⟨b1334, o1335, none⟩) af.length n1327), (17, .string (mkS (parentOf qq))), (19, .int .i64 z), (175, .int .i64 z)]) (by kernel_rfl) ?_
                     refine Op.val (dst := some 176) (v := .int .i64 (IntKind.wrap .i64 (z + 1))) (v' := .int .i64 (z + 1)) (by kernel_rfl) (wrapEq_i64 (by omega) (by (have h9 := bk_len haf h7 h6; have h8 := (upL_ok (num := num) hT (by have hsm := (small (by assumption)).1; omega) HBk.up.1).len; omega))) ?_
                     refine Op.pures 1 [3, 11, 16, 17, 19] (L' := []) (e' := [(3, .bool num), (11, .slice a1138 ((ns).length) n1139), (16, .slice (some ⟨b1334, o1335, none⟩) af.length n1327), (17, .string (mkS (parentOf qq))), (19, .int .i64 (z + 1))]) (by kernel_rfl) ?_
                     refine Op.goto 45 (by kernel_rfl) ?_
                     exact ih45  af (z + 1) _ _ _ _ (by (have h9 := bk_len haf h7 h6; omega)) (by omega) (by (have h9 := bk_len haf h7 h6; omega)) (by exact bk_skip haf h6 hx1333 (.inl (by assumption))) R1329 s_loop451329
                   ·have c1390 : ¬ (z < (af.length : Int)) := of_decide_eq_false hb
                    clear hb
                    refine At.keep [11, 16] ?_; show At _ _ _ [(11, .slice a1138 ((ns).length) n1139), (16, .slice a1326 af.length n1327)] _
                    refine At.reg (L := [(0, false), (1, false), (2, false), (3, false)]) (by kernel_rfl) ?_
                    refine Op.pures 2 [195, 196] (L' := [(2, false), (3, false)]) (e' := [(195, .slice a1326 af.length n1327), (196, .slice a1138 ((ns).length) n1139)]) (by kernel_rfl) ?_
                    have hl1391 := s_loop451329.frzle
                    have hz1392 := R1329.frz s_loop451329
                    refine Op.lend (dst := some 197) (f := 39) (args := #[.slice a1326 af.length n1327, .slice a1138 ((ns).length) n1139]) (cf := (ch1328 : Chunk)) (Lc := []) (L := [c1296, ch1194, [(b1200, Obj.cells #[.string (mkS (((getT n1 qq).1).Path)), .slice a1196 ((((getT n1 qq).1).Data).length) n1197, .int .i64 (((getT n1 qq).1).Version), .int .i64 (((getT n1 qq).1).Owner), .int .i64 (((getT n1 qq).1).Next), .int .i64 (((getT n1 qq).1).Born)] 59 (0, 0))], ch1143]) (by kernel_rfl) s_loop451329 (sameLeaves _ _ _ s_loop451329.frzsub (hG.mono hl1391) _ _ hz1392 _ _ (hf1137.mono hl1391) (by ((try dsimp only) <;> ((have h9 := bk_len haf h7 h6; have h8 := (upL_ok (num := num) hT (by have hsm := (small (by assumption)).1; omega) HBk.up.1).len; omega)))) (by ((try dsimp only) <;> ((intro n hn; rw [bk_end hT (by have hsm := (small (by assumption)).1; omega) HBk haf (by assumption) h7 h6] at hn; have := (hT.node n hn).2.1; omega)))) ) (fun _ _ _ hp => by obtain ⟨_, hgg, _⟩ := hp; exact hgg) (fun _ _ h => absurd h (ids_nil _)) ?_
                    rintro _ _ h1393 s1394 ⟨rfl, hgg, rfl⟩; clear hgg
                    refine Op.pures 1 [8] (L' := []) (e' := [(8, .bool (decide (af = ns)))]) (by kernel_rfl) ?_
                    refine Op.goto 52 (by kernel_rfl) ?_
                    refine At.ret (f := Tryz.f10) (v := .bool (decide (af = ns))) (by kernel_rfl) (by kernel_rfl) ?_
                    have s1397 : St h g (ids []) g1316 [] h1393 := (s1394).drop.drop.drop.drop.drop
                    have s1398 : St h g (ids []) g [] h1393 := s1397.unfrz
                    refine hR _ _ _ _ s1398 ⟨?_, rfl, rfl⟩
                    exact (eqB (by exact decide_eq_true (bk_end hT (by have hsm := (small (by assumption)).1; omega) HBk haf (by assumption) h7 h6)))
                 exact loop45 _  (upL ns uu num) 0 _ _ _ _ (Nat.lt_succ_self _) (by omega) (by omega) (by simp) R1319 s1323
   exact loop15 _  ([⟨[47], [], 0, -1, 0, 0⟩]) 0 _ _ (Nat.lt_succ_self _) (by omega) (by omega) (by exact TreeOk.new) o1017 s1014
end Go.Proofs.YtmjebehhpojihaaGreatDoor.Sw
