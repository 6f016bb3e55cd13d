/- Lemmas for a law of this seat: what the functions compute, and plain facts of it. Own text. -/
import Derived.Test.YtmjebehhpojihaaGreatDoorTRoomK
namespace Go.Proofs.YtmjebehhpojihaaGreatDoor.Sw
open Go
set_option maxRecDepth 100000
set_option linter.unusedVariables false
set_option linter.unusedSimpArgs false
set_option linter.deprecated false
theorem lawRoom10 (B : World) (h : Heap) (g : GH) (hg : Sub g h) (hG : Glob g) (v_script : Value) (script : List L10Op) (h_script : SlR g 49 kL10Op v_script script) (p : List UInt8) (hP : Pow10 g) (h1 : script.length ≤ 2000000) (hb : ∀ o ∈ script, o.Path.length ≤ 2000000 ∧ o.Data.length ≤ 2000000) (hp : p.length ≤ 2000000) :
  Spec Tryz.prog B 8 #[v_script, .string (mkS p)] h g [] (fun rv g' L' => rv = .bool true ∧ g' = g ∧ L' = []) := by
 obtain ⟨a_script, n_script, rfl⟩ := h_script.form
 refine Spec.of_at (f := Tryz.f8) (e := [(0, .slice a_script script.length n_script), (1, .string (mkS p))]) Tryz.func8 (by kernel_rfl) (Nat.le_of_ble_eq_true (by kernel_rfl)) (by kernel_rfl) (by kernel_rfl) ?_
 intro R hR
 have s0 := St.init hg
 refine At.reg (L := [(0, false)]) (by kernel_rfl) ?_
 refine Op.pures 1 [0, 1] (L' := []) (e' := [(0, .slice a_script script.length n_script), (1, .string (mkS p))]) (by kernel_rfl) ?_
 refine Op.goto 1 (by kernel_rfl) ?_
 refine At.reg (L := [(0, false), (1, false)]) (by kernel_rfl) ?_
 refine Op.call0 (dst := some 18) (f := 25) (args := #[]) (by kernel_rfl) s0 (alive10 _ _ _ s0.sub hG  hP ) ?_
 rintro _ g1003 _ h1001 hle1004 s1002 ⟨rfl, hgg, rfl⟩; subst g1003; clear hle1004
 refine Op.pures 1 [0, 1, 19] (L' := []) (e' := [(0, .slice a_script script.length n_script), (1, .string (mkS p)), (19, .bool false)]) (by kernel_rfl) ?_
 refine Op.goto 2 (by kernel_rfl) ?_
 refine At.condF (c := .tmp 19) (by kernel_rfl) (by kernel_rfl) (by kernel_rfl) 5 (by kernel_rfl) ?_
 refine At.reg (L := [(0, false), (1, false), (2, false), (3, false), (4, false), (5, false), (6, false)]) (by kernel_rfl) ?_
 refine Op.pures 1 [0, 1, 20] (L' := [(1, false), (2, false), (3, false), (4, false), (5, false), (6, false)]) (e' := [(0, .slice a_script script.length n_script), (1, .string (mkS p)), (20, .slice a_script script.length n_script)]) (by kernel_rfl) ?_
 refine Op.call0 (dst := some 21) (f := 26) (args := #[.slice a_script script.length n_script]) (by kernel_rfl) s1002 (great10 _ _ _ s1002.sub hG _ _ h_script (by ((try dsimp only) <;> (omega))) (by ((try dsimp only) <;> (omega))) ) ?_
 rintro _ g1007 _ h1005 hle1008 s1006 ⟨rfl, hgg, rfl⟩; subst g1007; clear hle1008
 refine Op.pures 1 [0, 1, 22] (L' := [(3, false), (4, false), (5, false), (6, false)]) (e' := [(0, .slice a_script script.length n_script), (1, .string (mkS p)), (22, .bool (greatB script))]) (by kernel_rfl) ?_
 refine Op.ways (b := greatB script) ⟨fun hb => ?_, fun hb => ?_⟩
 ·refine Op.cast (e' := [(0, .slice a_script script.length n_script), (1, .string (mkS p)), (22, .bool true)]) (by rw [hb]) ?_
  have c1009 : (greatB script) = true := hb
  clear hb
  refine Op.pures 4 [0, 26] (L' := []) (e' := [(0, .slice a_script script.length n_script), (26, .bool true)]) (by kernel_rfl) ?_
  refine Op.goto 6 (by kernel_rfl) ?_
  refine At.condT (c := .tmp 26) (by kernel_rfl) (by kernel_rfl) (by kernel_rfl) 7 (by kernel_rfl) ?_
  refine At.reg (L := [(0, false)]) (by kernel_rfl) ?_
  refine Op.pures 1 [4] (L' := []) (e' := [(4, .bool true)]) (by kernel_rfl) ?_
  refine Op.goto 8 (by kernel_rfl) ?_
  refine At.ret (f := Tryz.f8) (v := .bool true) (by kernel_rfl) (by kernel_rfl) ?_
  refine hR _ _ _ _ s1006 ⟨?_, rfl, rfl⟩
  exact (eqB (by rfl))
 ·refine Op.cast (e' := [(0, .slice a_script script.length n_script), (1, .string (mkS p)), (22, .bool false)]) (by rw [hb]) ?_
  have c1010 : (greatB script) = false := hb
  clear hb
  refine Op.pures 4 [0, 26] (L' := []) (e' := [(0, .slice a_script script.length n_script), (26, .bool (decide ((p.length : Int) > (1000 : Int))))]) (by kernel_rfl) ?_
  refine Op.goto 6 (by kernel_rfl) ?_
  refine At.cond (b := decide ((p.length : Int) > (1000 : Int))) (c := .tmp 26) (by kernel_rfl) (by kernel_rfl) (by kernel_rfl) 7 9 (by kernel_rfl) (by kernel_rfl) (fun hb => ?_) (fun hb => ?_)
  ·have c1011 : (p.length : Int) > (1000 : Int) := of_decide_eq_true hb
   clear hb
   refine At.keep [] ?_; show At _ _ _ [] _
   refine At.reg (L := [(0, false)]) (by kernel_rfl) ?_
   refine Op.pures 1 [4] (L' := []) (e' := [(4, .bool true)]) (by kernel_rfl) ?_
   refine Op.goto 8 (by kernel_rfl) ?_
   refine At.ret (f := Tryz.f8) (v := .bool true) (by kernel_rfl) (by kernel_rfl) ?_
   refine hR _ _ _ _ s1006 ⟨?_, rfl, rfl⟩
   exact (eqB (by rfl))
  ·have c1012 : ¬ ((p.length : Int) > (1000 : Int)) := of_decide_eq_false hb
   clear hb
   refine At.keep [0] ?_; show At _ _ _ [(0, .slice a_script script.length n_script)] _
   refine At.reg (L := [(0, false), (1, false)]) (by kernel_rfl) ?_
   refine Op.call0 (dst := some 27) (f := 27) (args := #[]) (by kernel_rfl) s1006 (newT _ _ _ s1006.sub hG   ) ?_
   rintro _ g1018 _ h1013 hle1019 s1014 ⟨b1015, c1016, rfl, o1017, hgg, rfl⟩; subst g1018; clear hle1019
   refine Op.pures 1 [0, 5] (L' := []) (e' := [(0, .slice a_script script.length n_script), (5, .pointer (some ⟨b1015, 0, none⟩))]) (by kernel_rfl) ?_
   refine Op.goto 10 (by kernel_rfl) ?_
   refine At.reg (L := [(0, false), (1, false)]) (by kernel_rfl) ?_
   refine Op.pures 2 [0, 5, 29] (L' := []) (e' := [(0, .slice a_script script.length n_script), (5, .pointer (some ⟨b1015, 0, none⟩)), (29, .bool false)]) (by kernel_rfl) ?_
   refine Op.goto 11 (by kernel_rfl) ?_
   refine At.condF (c := .tmp 29) (by kernel_rfl) (by kernel_rfl) (by kernel_rfl) 14 (by kernel_rfl) ?_
   refine At.reg (L := [(0, false)]) (by kernel_rfl) ?_
   refine Op.pures 1 [0, 5, 6] (L' := []) (e' := [(0, .slice a_script script.length n_script), (5, .pointer (some ⟨b1015, 0, none⟩)), (6, .int .i64 0)]) (by kernel_rfl) ?_
   refine Op.goto 15 (by kernel_rfl) ?_
   have loop15 : ∀ (m : Nat) (ns : List Leaf) (i : Int) (c1020 : Chunk) (h1022 : Heap) (hm : script.length - i.toNat < m) (h0 : 0 ≤ i) (h3 : i ≤ script.length) (hT : TreeOk i ns)  (o1021 : IsTree g b1015 ns c1020)   (s_loop151021 : St h g (ids []) g [c1020] h1022), At (fctx Tryz.prog B 8 Tryz.f8 R) [] 15 [(0, .slice a_script script.length n_script), (5, .pointer (some ⟨b1015, 0, none⟩)), (6, .int .i64 i)] h1022 := by
    intro m; induction m with
    | zero => intros; omega
    | succ m ih15 =>
     intro ns i c1020 h1022 hm h0 h3 hT o1021 s_loop151021
     refine At.reg (L := [(0, false), (1, false), (2, false), (3, false)]) (by kernel_rfl) ?_
     refine Op.pures 4 [0, 5, 6, 33] (L' := []) (e' := [(0, .slice a_script script.length n_script), (5, .pointer (some ⟨b1015, 0, none⟩)), (6, .int .i64 i), (33, .bool (decide (i < (script.length : Int))))]) (by kernel_rfl) ?_
     refine Op.goto 16 (by kernel_rfl) ?_
     refine At.cond (b := decide (i < (script.length : Int))) (c := .tmp 33) (by kernel_rfl) (by kernel_rfl) (by kernel_rfl) 17 21 (by kernel_rfl) (by kernel_rfl) (fun hb => ?_) (fun hb => ?_)
     ·have c1023 : i < (script.length : Int) := of_decide_eq_true hb
      clear hb
      refine At.keep [0, 5, 6] ?_; show At _ _ _ [(0, .slice a_script script.length n_script), (5, .pointer (some ⟨b1015, 0, none⟩)), (6, .int .i64 i)] _
      refine At.reg (L := [(0, false), (1, false), (2, false), (3, false), (4, false), (5, false)]) (by kernel_rfl) ?_
      refine Op.pures 2 [0, 5, 6, 36, 37] (L' := [(2, false), (3, false), (4, false), (5, false)]) (e' := [(0, .slice a_script script.length n_script), (5, .pointer (some ⟨b1015, 0, none⟩)), (6, .int .i64 i), (36, .slice a_script script.length n_script), (37, .int .i64 i)]) (by kernel_rfl) ?_
      obtain ⟨x1024, hx1025⟩ : ∃ c, script[(i : Int).toNat]? = some c := ⟨_, List.getElem?_eq_getElem (by omega)⟩
      obtain ⟨b1026, o1027, cu1028, fz1029, ha1030, hb1031, hk1032⟩ := SlR.at_ h_script _ hx1025
      cases ha1030
      refine Op.idx (T := 43) (E := 49) (sz := 7) (by_ := 80) (n := script.length) (c := n_script) (k := .i64) (x := (.tmp 36)) (ix := (.tmp 37)) (dst := 38) (bk := b1026) (o := o1027) (m := i) (by kernel_rfl) (by kernel_rfl) (by kernel_rfl) (by kernel_rfl) (by omega) (by omega) ?_
      obtain ⟨v1033, hv1034, hk1032⟩ := hk1032
      obtain ⟨a1035, n1036, rfl⟩ := hv1034.form
      refine Op.pures 1 [0, 5, 6, 39] (L' := [(4, false), (5, false)]) (e' := [(0, .slice (some ⟨b1026, o1027, none⟩) script.length n_script), (5, .pointer (some ⟨b1015, 0, none⟩)), (6, .int .i64 i), (39, .pointer (some ⟨b1026, o1027 + (i : Int).toNat * 7, none⟩))]) (by kernel_rfl) ?_
      refine Op.load (T := 3) (x := (.tmp 39)) (o := o1027 + (i : Int).toNat * 7) (d := 40) (n := 1) (v := .int .i64 x1024.What) (by kernel_rfl) (by kernel_rfl) (by kernel_rfl) (s_loop151021.sub _ _ hb1031) (cut_get hk1032 0 rfl) ?_
      refine Op.pures 1 [0, 5, 6, 41] (L' := []) (e' := [(0, .slice (some ⟨b1026, o1027, none⟩) script.length n_script), (5, .pointer (some ⟨b1015, 0, none⟩)), (6, .int .i64 i), (41, .bool (x1024.What == (1 : Int)))]) (by kernel_rfl) ?_
      refine Op.goto 18 (by kernel_rfl) ?_
      refine At.cond (b := x1024.What == (1 : Int)) (c := .tmp 41) (by kernel_rfl) (by kernel_rfl) (by kernel_rfl) 19 20 (by kernel_rfl) (by kernel_rfl) (fun hb => ?_) (fun hb => ?_)
      ·have c1037 : x1024.What = (1 : Int) := eq_of_beq hb
       clear hb
       refine At.keep [0, 5, 6] ?_; show At _ _ _ [(0, .slice (some ⟨b1026, o1027, none⟩) script.length n_script), (5, .pointer (some ⟨b1015, 0, none⟩)), (6, .int .i64 i)] _
       refine At.draw (by kernel_rfl) (fun _ => False) [(0, true), (1, true), (2, true), (3, true), (4, true), (6, true), (7, true), (8, true), (9, true), (12, true), (13, true), (14, true), (15, true), (17, true), (18, true), (19, true), (20, true), (22, true), (23, true), (24, true), (25, true), (5, true), (10, true), (16, true), (21, true), (26, true), (11, false), (1027, false), (27, false)] (by kernel_rfl) ?_
       refine Op.pures 3 [0, 5, 6, 42, 43, 44] (L' := [(3, true), (4, true), (6, true), (7, true), (8, true), (9, true), (12, true), (13, true), (14, true), (15, true), (17, true), (18, true), (19, true), (20, true), (22, true), (23, true), (24, true), (25, true), (5, true), (10, true), (16, true), (21, true), (26, true), (11, false), (1027, false), (27, false)]) (e' := [(0, .slice (some ⟨b1026, o1027, none⟩) script.length n_script), (5, .pointer (some ⟨b1015, 0, none⟩)), (6, .int .i64 i), (42, .pointer (some ⟨b1015, 0, none⟩)), (43, .slice (some ⟨b1026, o1027, none⟩) script.length n_script), (44, .int .i64 i)]) (by kernel_rfl) ?_
       obtain ⟨b1040, o1041, cu1042, fz1043, ha1044, hb1045, hk1046⟩ := SlR.at_ h_script _ hx1025
       cases ha1044
       refine Op.idx (T := 43) (E := 49) (sz := 7) (by_ := 80) (n := script.length) (c := n_script) (k := .i64) (x := (.tmp 43)) (ix := (.tmp 44)) (dst := 45) (bk := b1026) (o := o1027) (m := i) (by kernel_rfl) (by kernel_rfl) (by kernel_rfl) (by kernel_rfl) (by omega) (by omega) ?_
       obtain ⟨v1047, hv1048, hk1046⟩ := hk1046
       obtain ⟨a1049, n1050, rfl⟩ := hv1048.form
       refine Op.pures 3 [0, 5, 6, 42, 46, 48, 49] (L' := [(8, true), (9, true), (12, true), (13, true), (14, true), (15, true), (17, true), (18, true), (19, true), (20, true), (22, true), (23, true), (24, true), (25, true), (5, true), (10, true), (16, true), (21, true), (26, true), (11, false), (1027, false), (27, false)]) (e' := [(0, .slice (some ⟨b1026, o1027, none⟩) script.length n_script), (5, .pointer (some ⟨b1015, 0, none⟩)), (6, .int .i64 i), (42, .pointer (some ⟨b1015, 0, none⟩)), (46, .pointer (some ⟨b1026, o1027 + (i : Int).toNat * 7 + 4, none⟩)), (48, .slice (some ⟨b1026, o1027, none⟩) script.length n_script), (49, .int .i64 i)]) (by kernel_rfl) ?_
       obtain ⟨b1053, o1054, cu1055, fz1056, ha1057, hb1058, hk1059⟩ := SlR.at_ h_script _ hx1025
       cases ha1057
       refine Op.idx (T := 43) (E := 49) (sz := 7) (by_ := 80) (n := script.length) (c := n_script) (k := .i64) (x := (.tmp 48)) (ix := (.tmp 49)) (dst := 50) (bk := b1026) (o := o1027) (m := i) (by kernel_rfl) (by kernel_rfl) (by kernel_rfl) (by kernel_rfl) (by omega) (by omega) ?_
       obtain ⟨v1060, hv1061, hk1059⟩ := hk1059
       obtain ⟨a1062, n1063, rfl⟩ := hv1061.form
       refine Op.pures 3 [0, 5, 6, 42, 46, 51, 54, 55] (L' := [(14, true), (15, true), (17, true), (18, true), (19, true), (20, true), (22, true), (23, true), (24, true), (25, true), (5, true), (10, true), (16, true), (21, true), (26, true), (11, false), (1027, false), (27, false)]) (e' := [(0, .slice (some ⟨b1026, o1027, none⟩) script.length n_script), (5, .pointer (some ⟨b1015, 0, none⟩)), (6, .int .i64 i), (42, .pointer (some ⟨b1015, 0, none⟩)), (46, .pointer (some ⟨b1026, o1027 + (i : Int).toNat * 7 + 4, none⟩)), (51, .pointer (some ⟨b1026, o1027 + (i : Int).toNat * 7 + 5, none⟩)), (54, .slice (some ⟨b1026, o1027, none⟩) script.length n_script), (55, .int .i64 i)]) (by kernel_rfl) ?_
       obtain ⟨b1066, o1067, cu1068, fz1069, ha1070, hb1071, hk1072⟩ := SlR.at_ h_script _ hx1025
       cases ha1070
       refine Op.idx (T := 43) (E := 49) (sz := 7) (by_ := 80) (n := script.length) (c := n_script) (k := .i64) (x := (.tmp 54)) (ix := (.tmp 55)) (dst := 56) (bk := b1026) (o := o1027) (m := i) (by kernel_rfl) (by kernel_rfl) (by kernel_rfl) (by kernel_rfl) (by omega) (by omega) ?_
       obtain ⟨v1073, hv1074, hk1072⟩ := hk1072
       obtain ⟨a1075, n1076, rfl⟩ := hv1074.form
       refine Op.pures 3 [0, 5, 6, 42, 46, 51, 57, 59, 60] (L' := [(19, true), (20, true), (22, true), (23, true), (24, true), (25, true), (5, true), (10, true), (16, true), (21, true), (26, true), (11, false), (1027, false), (27, false)]) (e' := [(0, .slice (some ⟨b1026, o1027, none⟩) script.length n_script), (5, .pointer (some ⟨b1015, 0, none⟩)), (6, .int .i64 i), (42, .pointer (some ⟨b1015, 0, none⟩)), (46, .pointer (some ⟨b1026, o1027 + (i : Int).toNat * 7 + 4, none⟩)), (51, .pointer (some ⟨b1026, o1027 + (i : Int).toNat * 7 + 5, none⟩)), (57, .pointer (some ⟨b1026, o1027 + (i : Int).toNat * 7 + 1, none⟩)), (59, .slice (some ⟨b1026, o1027, none⟩) script.length n_script), (60, .int .i64 i)]) (by kernel_rfl) ?_
       obtain ⟨b1079, o1080, cu1081, fz1082, ha1083, hb1084, hk1085⟩ := SlR.at_ h_script _ hx1025
       cases ha1083
       refine Op.idx (T := 43) (E := 49) (sz := 7) (by_ := 80) (n := script.length) (c := n_script) (k := .i64) (x := (.tmp 59)) (ix := (.tmp 60)) (dst := 61) (bk := b1026) (o := o1027) (m := i) (by kernel_rfl) (by kernel_rfl) (by kernel_rfl) (by kernel_rfl) (by omega) (by omega) ?_
       obtain ⟨v1086, hv1087, hk1085⟩ := hk1085
       obtain ⟨a1088, n1089, rfl⟩ := hv1087.form
       refine Op.pures 3 [0, 5, 6, 42, 46, 51, 57, 62, 64, 65] (L' := [(24, true), (25, true), (5, true), (10, true), (16, true), (21, true), (26, true), (11, false), (1027, false), (27, false)]) (e' := [(0, .slice (some ⟨b1026, o1027, none⟩) script.length n_script), (5, .pointer (some ⟨b1015, 0, none⟩)), (6, .int .i64 i), (42, .pointer (some ⟨b1015, 0, none⟩)), (46, .pointer (some ⟨b1026, o1027 + (i : Int).toNat * 7 + 4, none⟩)), (51, .pointer (some ⟨b1026, o1027 + (i : Int).toNat * 7 + 5, none⟩)), (57, .pointer (some ⟨b1026, o1027 + (i : Int).toNat * 7 + 1, none⟩)), (62, .pointer (some ⟨b1026, o1027 + (i : Int).toNat * 7 + 2, none⟩)), (64, .slice (some ⟨b1026, o1027, none⟩) script.length n_script), (65, .int .i64 i)]) (by kernel_rfl) ?_
       obtain ⟨b1092, o1093, cu1094, fz1095, ha1096, hb1097, hk1098⟩ := SlR.at_ h_script _ hx1025
       cases ha1096
       refine Op.idx (T := 43) (E := 49) (sz := 7) (by_ := 80) (n := script.length) (c := n_script) (k := .i64) (x := (.tmp 64)) (ix := (.tmp 65)) (dst := 66) (bk := b1026) (o := o1027) (m := i) (by kernel_rfl) (by kernel_rfl) (by kernel_rfl) (by kernel_rfl) (by omega) (by omega) ?_
       obtain ⟨v1099, hv1100, hk1098⟩ := hk1098
       obtain ⟨a1101, n1102, rfl⟩ := hv1100.form
       refine Op.pures 1 [0, 5, 6, 42, 46, 51, 57, 62, 67] (L' := [(5, true), (10, true), (16, true), (21, true), (26, true), (11, false), (1027, false), (27, false)]) (e' := [(0, .slice (some ⟨b1026, o1027, none⟩) script.length n_script), (5, .pointer (some ⟨b1015, 0, none⟩)), (6, .int .i64 i), (42, .pointer (some ⟨b1015, 0, none⟩)), (46, .pointer (some ⟨b1026, o1027 + (i : Int).toNat * 7 + 4, none⟩)), (51, .pointer (some ⟨b1026, o1027 + (i : Int).toNat * 7 + 5, none⟩)), (57, .pointer (some ⟨b1026, o1027 + (i : Int).toNat * 7 + 1, none⟩)), (62, .pointer (some ⟨b1026, o1027 + (i : Int).toNat * 7 + 2, none⟩)), (67, .pointer (some ⟨b1026, o1027 + (i : Int).toNat * 7 + 6, none⟩))]) (by kernel_rfl) ?_
       refine Op.loadF (T := 9) (x := (.tmp 46)) (o := o1027 + (i : Int).toNat * 7 + 4) (d := 47) (n := 1) (v := .string (mkS x1024.Path)) (by kernel_rfl) (by kernel_rfl) (by kernel_rfl) (fun h => h) (s_loop151021.sub _ _ hb1045) (cut_get hk1046 4 rfl) ?_
       refine Op.loadF (T := 29) (x := (.tmp 51)) (o := o1027 + (i : Int).toNat * 7 + 5) (d := 52) (n := 1) (v := .slice a1062 x1024.Data.length n1063) (by kernel_rfl) (by kernel_rfl) (by kernel_rfl) (fun h => h) (s_loop151021.sub _ _ hb1058) (cut_get hk1059 5 rfl) ?_
       refine Op.loadF (T := 3) (x := (.tmp 57)) (o := o1027 + (i : Int).toNat * 7 + 1) (d := 58) (n := 1) (v := .int .i64 x1024.Owner) (by kernel_rfl) (by kernel_rfl) (by kernel_rfl) (fun h => h) (s_loop151021.sub _ _ hb1071) (cut_get hk1072 1 rfl) ?_
       refine Op.loadF (T := 3) (x := (.tmp 62)) (o := o1027 + (i : Int).toNat * 7 + 2) (d := 63) (n := 1) (v := .int .i64 x1024.Born) (by kernel_rfl) (by kernel_rfl) (by kernel_rfl) (fun h => h) (s_loop151021.sub _ _ hb1084) (cut_get hk1085 2 rfl) ?_
       refine Op.loadF (T := 4) (x := (.tmp 67)) (o := o1027 + (i : Int).toNat * 7 + 6) (d := 68) (n := 1) (v := .bool x1024.Numbered) (by kernel_rfl) (by kernel_rfl) (by kernel_rfl) (fun h => h) (s_loop151021.sub _ _ hb1097) (cut_get hk1098 6 rfl) ?_
       refine Op.call0 (dst := some 53) (f := 29) (args := #[.slice a1062 x1024.Data.length n1063]) (by kernel_rfl) s_loop151021 (copyBytes _ _ _ s_loop151021.sub hG _ _ hv1061 (by ((try dsimp only) <;> ((have hbb := hb _ (List.mem_of_getElem? hx1025); omega)))) ) ?_
       rintro _ g1110 _ h1103 hle1111 s1104 ⟨v1105, ch1106, rfl, R1107, hgg, rfl⟩; subst g1110; clear hle1111
       obtain ⟨a1108, n1109, rfl⟩ := R1107.form
       refine Op.barrier (by kernel_rfl) ?_
       have hl1112 := s1104.frzle
       have hz1113 := R1107.frz s1104
       refine Op.lend (dst := some 69) (f := 28) (args := #[.pointer (some ⟨b1015, 0, none⟩), .string (mkS x1024.Path), .slice a1108 ((x1024.Data).length) n1109, .int .i64 x1024.Owner, .int .i64 x1024.Born, .bool x1024.Numbered]) (cf := (ch1106 : Chunk)) (Lc := [c1020]) (L := []) (by kernel_rfl) s1104 (makeF _ _ _ s1104.frzsub (hG.mono hl1112) b1015 ns _ (o1021.mono hl1112) x1024.Path _ _ hz1113 x1024.Owner x1024.Born x1024.Numbered (hP.mono hl1112) (by ((try dsimp only) <;> (exact hT.b (by have hsm := (small (by assumption)).1; omega)))) (by ((try dsimp only) <;> ((have hbb := hb _ (List.mem_of_getElem? hx1025); omega)))) (by ((try dsimp only) <;> ((have hbb := hb _ (List.mem_of_getElem? hx1025); omega)))) (St.part (Lc := [c1020]) (L := []) s1104.freeze.1)) (fun _ _ _ hp => by obtain ⟨_, _, _, hgg, _⟩ := hp; exact hgg) (fun _ _ _ => trivial) ?_
       rintro _ _ h1114 s1115 ⟨c1116, rfl, o1117, hgg, rfl⟩; clear hgg
       replace o1117 := o1117.flat (g' := g)
       refine Op.goto 20 (by kernel_rfl) ?_
       refine At.reg (L := [(0, false), (1, false), (2, false)]) (by kernel_rfl) ?_
       refine Op.pures 1 [0, 5, 6, 34] (L' := [(1, false), (2, false)]) (e' := [(0, .slice (some ⟨b1026, o1027, none⟩) script.length n_script), (5, .pointer (some ⟨b1015, 0, none⟩)), (6, .int .i64 i), (34, .int .i64 i)]) (by kernel_rfl) ?_
       refine Op.val (dst := some 35) (v := .int .i64 (IntKind.wrap .i64 (i + 1))) (v' := .int .i64 (i + 1)) (by kernel_rfl) (wrapEq_i64 (by omega) (by omega)) ?_
       refine Op.pures 1 [0, 5, 6] (L' := []) (e' := [(0, .slice (some ⟨b1026, o1027, none⟩) script.length n_script), (5, .pointer (some ⟨b1015, 0, none⟩)), (6, .int .i64 (i + 1))]) (by kernel_rfl) ?_
       refine Op.goto 15 (by kernel_rfl) ?_
       have s1120 : St h g (ids []) g [c1116] h1114 := (s1115).drop
       exact ih15  ((makeT ns x1024.Path x1024.Data x1024.Owner x1024.Born x1024.Numbered).1) (i + 1) _ _ (by omega) (by omega) (by omega) (by exact hT.make (by have hsm := (small (by assumption)).1; omega) h0) o1117 s1120
      ·have c1121 : ¬ (x1024.What = (1 : Int)) := neF hb
       clear hb
       refine At.keep [0, 5, 6] ?_; show At _ _ _ [(0, .slice (some ⟨b1026, o1027, none⟩) script.length n_script), (5, .pointer (some ⟨b1015, 0, none⟩)), (6, .int .i64 i)] _
       refine At.reg (L := [(0, false), (1, false), (2, false)]) (by kernel_rfl) ?_
       refine Op.pures 1 [0, 5, 6, 34] (L' := [(1, false), (2, false)]) (e' := [(0, .slice (some ⟨b1026, o1027, none⟩) script.length n_script), (5, .pointer (some ⟨b1015, 0, none⟩)), (6, .int .i64 i), (34, .int .i64 i)]) (by kernel_rfl) ?_
       refine Op.val (dst := some 35) (v := .int .i64 (IntKind.wrap .i64 (i + 1))) (v' := .int .i64 (i + 1)) (by kernel_rfl) (wrapEq_i64 (by omega) (by omega)) ?_
       refine Op.pures 1 [0, 5, 6] (L' := []) (e' := [(0, .slice (some ⟨b1026, o1027, none⟩) script.length n_script), (5, .pointer (some ⟨b1015, 0, none⟩)), (6, .int .i64 (i + 1))]) (by kernel_rfl) ?_
       refine Op.goto 15 (by kernel_rfl) ?_
       exact ih15  ns (i + 1) _ _ (by omega) (by omega) (by omega) (by exact hT.mono (by omega)) o1021 s_loop151021
     ·have c1122 : ¬ (i < (script.length : Int)) := of_decide_eq_false hb
      clear hb
      refine At.keep [5] ?_; show At _ _ _ [(5, .pointer (some ⟨b1015, 0, none⟩))] _
      refine At.reg (L := [(0, false), (1, false), (2, false)]) (by kernel_rfl) ?_
      refine Op.pures 1 [5, 70] (L' := [(1, false), (2, false)]) (e' := [(5, .pointer (some ⟨b1015, 0, none⟩)), (70, .pointer (some ⟨b1015, 0, none⟩))]) (by kernel_rfl) ?_
      have hl1123 := s_loop151021.frzle
      have hz1124 := IsTree.frz o1021 s_loop151021 (by intro p hp; simp only [List.mem_append, hp, true_or, or_true])
      refine Op.lend (dst := some 71) (f := 30) (args := #[.pointer (some ⟨b1015, 0, none⟩)]) (cf := (c1020 : Chunk)) (Lc := []) (L := []) (by kernel_rfl) s_loop151021 (allF _ _ _ s_loop151021.frzsub (hG.mono hl1123) b1015 ns hz1124 (by ((try dsimp only) <;> (exact hT.b (by have hsm := (small (by assumption)).1; omega)))) ) (fun _ _ _ hp => by obtain ⟨_, _, _, _, _, hgg, _⟩ := hp; exact hgg) (fun _ _ h => absurd h (ids_nil _)) ?_
      rintro _ _ h1125 s1126 ⟨v1127, ch1128, dc1129, rfl, R1130, hgg, rfl⟩; clear hgg
      have s1133 : St h g (ids []) g [ch1128, dc1129, c1020] h1125 := (((s1126.front 0 rfl).front 2 rfl).front 2 rfl)
      obtain ⟨g1134, s1135, hle1136, hf1137⟩ := Deep.freeze R1130 s1133
      replace hG := hG.mono hle1136
      replace hP := hP.mono hle1136
      replace o1021 := o1021.mono hle1136
      obtain ⟨a1138, n1139, rfl⟩ := hf1137.form
      refine Op.pures 1 [5, 7] (L' := []) (e' := [(5, .pointer (some ⟨b1015, 0, none⟩)), (7, .slice a1138 ((ns).length) n1139)]) (by kernel_rfl) ?_
      refine Op.goto 22 (by kernel_rfl) ?_
      refine At.reg (L := [(0, false)]) (by kernel_rfl) ?_
      refine Op.pures 1 [5, 7, 8] (L' := []) (e' := [(5, .pointer (some ⟨b1015, 0, none⟩)), (7, .slice a1138 ((ns).length) n1139), (8, .int .i64 0)]) (by kernel_rfl) ?_
      refine Op.goto 23 (by kernel_rfl) ?_
      have loop23 : ∀ (m : Nat) (z : Int) (h1140 : Heap) (hm : ns.length - z.toNat < m) (h4 : 0 ≤ z) (h5 : z ≤ ns.length) (hpn : ∀ n ∈ ns.take z.toNat, ¬ preN <+: n.Path)     (s_loop231139 : St h g (ids []) g1134 [c1020] h1140), At (fctx Tryz.prog B 8 Tryz.f8 R) [] 23 [(5, .pointer (some ⟨b1015, 0, none⟩)), (7, .slice a1138 ((ns).length) n1139), (8, .int .i64 z)] h1140 := by
       intro m; induction m with
       | zero => intros; omega
       | succ m ih23 =>
        intro z h1140 hm h4 h5 hpn s_loop231139
        refine At.reg (L := [(0, false), (1, false), (2, false), (3, false)]) (by kernel_rfl) ?_
        refine Op.pures 4 [5, 7, 8, 75] (L' := []) (e' := [(5, .pointer (some ⟨b1015, 0, none⟩)), (7, .slice a1138 ((ns).length) n1139), (8, .int .i64 z), (75, .bool (decide (z < ((ns).length : Int))))]) (by kernel_rfl) ?_
        refine Op.goto 24 (by kernel_rfl) ?_
        refine At.cond (b := decide (z < ((ns).length : Int))) (c := .tmp 75) (by kernel_rfl) (by kernel_rfl) (by kernel_rfl) 25 30 (by kernel_rfl) (by kernel_rfl) (fun hb => ?_) (fun hb => ?_)
        ·have c1141 : z < ((ns).length : Int) := of_decide_eq_true hb
         clear hb
         refine At.keep [5, 7, 8] ?_; show At _ _ _ [(5, .pointer (some ⟨b1015, 0, none⟩)), (7, .slice a1138 ((ns).length) n1139), (8, .int .i64 z)] _
         refine At.reg (L := [(0, false), (1, false), (2, false), (3, false), (4, false), (5, false), (6, false), (7, false), (8, false), (9, false), (10, false), (11, false), (12, false), (13, false), (14, false), (15, false)]) (by kernel_rfl) ?_
         refine Op.pures 2 [5, 7, 8, 78, 79] (L' := [(2, false), (3, false), (4, false), (5, false), (6, false), (7, false), (8, false), (9, false), (10, false), (11, false), (12, false), (13, false), (14, false), (15, false)]) (e' := [(5, .pointer (some ⟨b1015, 0, none⟩)), (7, .slice a1138 ((ns).length) n1139), (8, .int .i64 z), (78, .slice a1138 ((ns).length) n1139), (79, .int .i64 z)]) (by kernel_rfl) ?_
         obtain ⟨x1142, hx1143⟩ : ∃ c, ns[(z : Int).toNat]? = some c := ⟨_, List.getElem?_eq_getElem (by omega)⟩
         obtain ⟨b1144, o1145, cu1146, fz1147, ha1148, hb1149, hk1150⟩ := SlR.at_ hf1137 _ hx1143
         cases ha1148
         refine Op.idx (T := 52) (E := 59) (sz := 6) (by_ := 72) (n := ((ns).length)) (c := n1139) (k := .i64) (x := (.tmp 78)) (ix := (.tmp 79)) (dst := 80) (bk := b1144) (o := o1145) (m := z) (by kernel_rfl) (by kernel_rfl) (by kernel_rfl) (by kernel_rfl) (by omega) (by omega) ?_
         obtain ⟨v1151, hv1152, hk1150⟩ := hk1150
         obtain ⟨a1153, n1154, rfl⟩ := hv1152.form
         refine Op.pures 1 [5, 7, 8, 81] (L' := [(4, false), (5, false), (6, false), (7, false), (8, false), (9, false), (10, false), (11, false), (12, false), (13, false), (14, false), (15, false)]) (e' := [(5, .pointer (some ⟨b1015, 0, none⟩)), (7, .slice (some ⟨b1144, o1145, none⟩) ((ns).length) n1139), (8, .int .i64 z), (81, .pointer (some ⟨b1144, o1145 + (z : Int).toNat * 6, none⟩))]) (by kernel_rfl) ?_
         refine Op.load (T := 9) (x := (.tmp 81)) (o := o1145 + (z : Int).toNat * 6) (d := 82) (n := 1) (v := .string (mkS x1142.Path)) (by kernel_rfl) (by kernel_rfl) (by kernel_rfl) (s_loop231139.sub _ _ hb1149) (cut_get hk1150 0 rfl) ?_
         refine Op.pures 3 [5, 7, 8, 85] (L' := [(8, false), (9, false), (10, false), (11, false), (12, false), (13, false), (14, false), (15, false)]) (e' := [(5, .pointer (some ⟨b1015, 0, none⟩)), (7, .slice (some ⟨b1144, o1145, none⟩) ((ns).length) n1139), (8, .int .i64 z), (85, .bool (decide ((x1142.Path.length : Int) ≥ (3 : Int))))]) (by kernel_rfl) ?_
         refine Op.ways (b := decide ((x1142.Path.length : Int) ≥ (3 : Int))) ⟨fun hb => ?_, fun hb => ?_⟩
         ·refine Op.cast (e' := [(5, .pointer (some ⟨b1015, 0, none⟩)), (7, .slice (some ⟨b1144, o1145, none⟩) ((ns).length) n1139), (8, .int .i64 z), (85, .bool true)]) (by rw [hb]) ?_
          have c1155 : (x1142.Path.length : Int) ≥ (3 : Int) := of_decide_eq_true hb
          clear hb
          refine Op.pures 2 [5, 7, 8, 85, 86, 87] (L' := [(10, false), (11, false), (12, false), (13, false), (14, false), (15, false)]) (e' := [(5, .pointer (some ⟨b1015, 0, none⟩)), (7, .slice (some ⟨b1144, o1145, none⟩) ((ns).length) n1139), (8, .int .i64 z), (85, .bool true), (86, .slice (some ⟨b1144, o1145, none⟩) ((ns).length) n1139), (87, .int .i64 z)]) (by kernel_rfl) ?_
          obtain ⟨b1158, o1159, cu1160, fz1161, ha1162, hb1163, hk1164⟩ := SlR.at_ hf1137 _ hx1143
          cases ha1162
          refine Op.idx (T := 52) (E := 59) (sz := 6) (by_ := 72) (n := ((ns).length)) (c := n1139) (k := .i64) (x := (.tmp 86)) (ix := (.tmp 87)) (dst := 88) (bk := b1144) (o := o1145) (m := z) (by kernel_rfl) (by kernel_rfl) (by kernel_rfl) (by kernel_rfl) (by omega) (by omega) ?_
          obtain ⟨v1165, hv1166, hk1164⟩ := hk1164
          obtain ⟨a1167, n1168, rfl⟩ := hv1166.form
          refine Op.pures 1 [5, 7, 8, 85, 89] (L' := [(12, false), (13, false), (14, false), (15, false)]) (e' := [(5, .pointer (some ⟨b1015, 0, none⟩)), (7, .slice (some ⟨b1144, o1145, none⟩) ((ns).length) n1139), (8, .int .i64 z), (85, .bool true), (89, .pointer (some ⟨b1144, o1145 + (z : Int).toNat * 6, none⟩))]) (by kernel_rfl) ?_
          refine Op.load (T := 9) (x := (.tmp 89)) (o := o1145 + (z : Int).toNat * 6) (d := 90) (n := 1) (v := .string (mkS x1142.Path)) (by kernel_rfl) (by kernel_rfl) (by kernel_rfl) (s_loop231139.sub _ _ hb1163) (cut_get hk1164 0 rfl) ?_
          refine Op.strHi (T := 9) (k := .i64) (x := (.tmp 90)) (hi := (.const (.int .i64 3))) (dst := 91) (l := x1142.Path) (n := 3) (by kernel_rfl) (by kernel_rfl) (by kernel_rfl) (by kernel_rfl) (by omega) (by omega) ?_
          refine Op.val (dst := some 92) (v := .bool ((mkS (x1142.Path.take (3 : Int).toNat)).toList == (mkS ([47, 110, 45])).toList)) (v' := .bool ((x1142.Path.take (3 : Int).toNat) == ([47, 110, 45]))) (by kernel_rfl) (by rw [toList_mkS, toList_mkS]) ?_
          refine Op.pures 1 [5, 7, 8, 93] (L' := []) (e' := [(5, .pointer (some ⟨b1015, 0, none⟩)), (7, .slice (some ⟨b1144, o1145, none⟩) ((ns).length) n1139), (8, .int .i64 z), (93, .bool ((x1142.Path.take (3 : Int).toNat) == ([47, 110, 45])))]) (by kernel_rfl) ?_
          refine Op.goto 26 (by kernel_rfl) ?_
          refine At.cond (b := (x1142.Path.take (3 : Int).toNat) == ([47, 110, 45])) (c := .tmp 93) (by kernel_rfl) (by kernel_rfl) (by kernel_rfl) 27 29 (by kernel_rfl) (by kernel_rfl) (fun hb => ?_) (fun hb => ?_)
          ·have c1169 : (x1142.Path.take (3 : Int).toNat) = ([47, 110, 45]) := eq_of_beq hb
           clear hb
           refine At.keep [] ?_; show At _ _ _ [] _
           refine At.reg (L := [(0, false)]) (by kernel_rfl) ?_
           refine Op.pures 1 [4] (L' := []) (e' := [(4, .bool true)]) (by kernel_rfl) ?_
           refine Op.goto 28 (by kernel_rfl) ?_
           refine At.ret (f := Tryz.f8) (v := .bool true) (by kernel_rfl) (by kernel_rfl) ?_
           have s1170 : St h g (ids []) g1134 [] h1140 := (s_loop231139).drop
           have s1171 : St h g (ids []) g [] h1140 := s1170.unfrz
           refine hR _ _ _ _ s1171 ⟨?_, rfl, rfl⟩
           exact (eqB (by rfl))
          ·have c1172 : ¬ ((x1142.Path.take (3 : Int).toNat) = ([47, 110, 45])) := neF hb
           clear hb
           refine At.keep [5, 7, 8] ?_; show At _ _ _ [(5, .pointer (some ⟨b1015, 0, none⟩)), (7, .slice (some ⟨b1144, o1145, none⟩) ((ns).length) n1139), (8, .int .i64 z)] _
           refine At.reg (L := [(0, false), (1, false), (2, false)]) (by kernel_rfl) ?_
           refine Op.pures 1 [5, 7, 8, 76] (L' := [(1, false), (2, false)]) (e' := [(5, .pointer (some ⟨b1015, 0, none⟩)), (7, .slice (some ⟨b1144, o1145, none⟩) ((ns).length) n1139), (8, .int .i64 z), (76, .int .i64 z)]) (by kernel_rfl) ?_
           refine Op.val (dst := some 77) (v := .int .i64 (IntKind.wrap .i64 (z + 1))) (v' := .int .i64 (z + 1)) (by kernel_rfl) (wrapEq_i64 (by omega) (by (have hln := hT.len; omega))) ?_
           refine Op.pures 1 [5, 7, 8] (L' := []) (e' := [(5, .pointer (some ⟨b1015, 0, none⟩)), (7, .slice (some ⟨b1144, o1145, none⟩) ((ns).length) n1139), (8, .int .i64 (z + 1))]) (by kernel_rfl) ?_
           refine Op.goto 23 (by kernel_rfl) ?_
           exact ih23  (z + 1) _ (by omega) (by omega) (by omega) (by exact pn_step hpn h4 hx1143 (pre_b (by assumption)))  s_loop231139
         ·refine Op.cast (e' := [(5, .pointer (some ⟨b1015, 0, none⟩)), (7, .slice (some ⟨b1144, o1145, none⟩) ((ns).length) n1139), (8, .int .i64 z), (85, .bool false)]) (by rw [hb]) ?_
          have c1173 : ¬ ((x1142.Path.length : Int) ≥ (3 : Int)) := of_decide_eq_false hb
          clear hb
          refine Op.pures 8 [5, 7, 8, 93] (L' := []) (e' := [(5, .pointer (some ⟨b1015, 0, none⟩)), (7, .slice (some ⟨b1144, o1145, none⟩) ((ns).length) n1139), (8, .int .i64 z), (93, .bool false)]) (by kernel_rfl) ?_
          refine Op.goto 26 (by kernel_rfl) ?_
          refine At.condF (c := .tmp 93) (by kernel_rfl) (by kernel_rfl) (by kernel_rfl) 29 (by kernel_rfl) ?_
          refine At.reg (L := [(0, false), (1, false), (2, false)]) (by kernel_rfl) ?_
          refine Op.pures 1 [5, 7, 8, 76] (L' := [(1, false), (2, false)]) (e' := [(5, .pointer (some ⟨b1015, 0, none⟩)), (7, .slice (some ⟨b1144, o1145, none⟩) ((ns).length) n1139), (8, .int .i64 z), (76, .int .i64 z)]) (by kernel_rfl) ?_
          refine Op.val (dst := some 77) (v := .int .i64 (IntKind.wrap .i64 (z + 1))) (v' := .int .i64 (z + 1)) (by kernel_rfl) (wrapEq_i64 (by omega) (by (have hln := hT.len; omega))) ?_
          refine Op.pures 1 [5, 7, 8] (L' := []) (e' := [(5, .pointer (some ⟨b1015, 0, none⟩)), (7, .slice (some ⟨b1144, o1145, none⟩) ((ns).length) n1139), (8, .int .i64 (z + 1))]) (by kernel_rfl) ?_
          refine Op.goto 23 (by kernel_rfl) ?_
          exact ih23  (z + 1) _ (by omega) (by omega) (by omega) (by exact pn_step hpn h4 hx1143 (pre_a (by assumption)))  s_loop231139
        ·have c1174 : ¬ (z < ((ns).length : Int)) := of_decide_eq_false hb
         clear hb
         refine At.keep [5] ?_; show At _ _ _ [(5, .pointer (some ⟨b1015, 0, none⟩))] _
         refine At.reg (L := [(0, false)]) (by kernel_rfl) ?_
         refine Op.pures 1 [5, 9] (L' := []) (e' := [(5, .pointer (some ⟨b1015, 0, none⟩)), (9, .string (mkS []))]) (by kernel_rfl) ?_
         refine Op.goto 31 (by kernel_rfl) ?_
         refine At.reg (L := [(0, false)]) (by kernel_rfl) ?_
         refine Op.pures 1 [5, 9, 10] (L' := []) (e' := [(5, .pointer (some ⟨b1015, 0, none⟩)), (9, .string (mkS [])), (10, .int .i64 0)]) (by kernel_rfl) ?_
         refine Op.goto 32 (by kernel_rfl) ?_
         have loop32 : ∀ (m : Nat) (g1178 : GH) (hleg1178 : gle g1134 g1178) (cur : List Leaf) (last : List UInt8) (m2 : Int) (c1175 : Chunk) (h1177 : Heap) (hm : 40 - m2.toNat < m) (h6 : 0 ≤ m2) (h7 : m2 ≤ 40) (hT2 : TreeOk (i + m2) cur) (hRo : RoomOk cur) (hL : (cur.length : Int) = min 32 ((ns.length : Int) + m2)) (hlast : last = [] ∨ preN <+: last ∧ ∃ n ∈ cur, n.Path = last)  (o1176 : IsTree g1178 b1015 cur c1175)   (s_loop321176 : St h g (ids []) g1178 [c1175] h1177), At (fctx Tryz.prog B 8 Tryz.f8 R) [] 32 [(5, .pointer (some ⟨b1015, 0, none⟩)), (9, .string (mkS last)), (10, .int .i64 m2)] h1177 := by
          intro m; induction m with
          | zero => intros; omega
          | succ m ih32 =>
           intro g1178 hleg1178 cur last m2 c1175 h1177 hm h6 h7 hT2 hRo hL hlast o1176 s_loop321176
           replace hG := hG.mono hleg1178
           replace hP := hP.mono hleg1178
           refine At.reg (L := [(0, false), (1, false)]) (by kernel_rfl) ?_
           refine Op.pures 2 [5, 9, 10, 95] (L' := []) (e' := [(5, .pointer (some ⟨b1015, 0, none⟩)), (9, .string (mkS last)), (10, .int .i64 m2), (95, .bool (decide (m2 < (40 : Int))))]) (by kernel_rfl) ?_
           refine Op.goto 33 (by kernel_rfl) ?_
           refine At.cond (b := decide (m2 < (40 : Int))) (c := .tmp 95) (by kernel_rfl) (by kernel_rfl) (by kernel_rfl) 34 44 (by kernel_rfl) (by kernel_rfl) (fun hb => ?_) (fun hb => ?_)
           ·have c1179 : m2 < (40 : Int) := of_decide_eq_true hb
            clear hb
            refine At.keep [5, 9, 10] ?_; show At _ _ _ [(5, .pointer (some ⟨b1015, 0, none⟩)), (9, .string (mkS last)), (10, .int .i64 m2)] _
            refine At.reg (L := [(0, false), (1, false), (2, false), (3, false)]) (by kernel_rfl) ?_
            refine Op.pures 1 [5, 9, 10, 98] (L' := [(1, false), (2, false), (3, false)]) (e' := [(5, .pointer (some ⟨b1015, 0, none⟩)), (9, .string (mkS last)), (10, .int .i64 m2), (98, .pointer (some ⟨b1015, 0, none⟩))]) (by kernel_rfl) ?_
            have hl1180 := s_loop321176.frzle
            have hz1181 := IsTree.frz o1176 s_loop321176 (by intro p hp; simp only [List.mem_append, hp, true_or, or_true])
            refine Op.lend (dst := some 99) (f := 30) (args := #[.pointer (some ⟨b1015, 0, none⟩)]) (cf := (c1175 : Chunk)) (Lc := []) (L := []) (by kernel_rfl) s_loop321176 (allF _ _ _ s_loop321176.frzsub (hG.mono hl1180) b1015 cur hz1181 (by ((try dsimp only) <;> (exact hT2.b (by have hsm := (small (by assumption)).1; omega)))) ) (fun _ _ _ hp => by obtain ⟨_, _, _, _, _, hgg, _⟩ := hp; exact hgg) (fun _ _ h => absurd h (ids_nil _)) ?_
            rintro _ _ h1182 s1183 ⟨v1184, ch1185, dc1186, rfl, R1187, hgg, rfl⟩; clear hgg
            have s1190 : St h g (ids []) g1178 [ch1185, dc1186, c1175] h1182 := (((s1183.front 0 rfl).front 2 rfl).front 2 rfl)
            obtain ⟨g1191, s1192, hle1193, hf1194⟩ := Deep.freeze R1187 s1190
            replace hG := hG.mono hle1193
            replace hP := hP.mono hle1193
            replace o1176 := o1176.mono hle1193
            obtain ⟨a1195, n1196, rfl⟩ := hf1194.form
            refine Op.pures 2 [5, 9, 10, 11] (L' := []) (e' := [(5, .pointer (some ⟨b1015, 0, none⟩)), (9, .string (mkS last)), (10, .int .i64 m2), (11, .int .i64 ((cur).length : Int))]) (by kernel_rfl) ?_
            refine Op.goto 35 (by kernel_rfl) ?_
            refine At.reg (L := [(0, false), (1, false), (2, false), (3, false), (4, false), (5, false), (6, false)]) (by kernel_rfl) ?_
            refine Op.pures 1 [5, 9, 10, 11, 102] (L' := [(1, false), (2, false), (3, false), (4, false), (5, false), (6, false)]) (e' := [(5, .pointer (some ⟨b1015, 0, none⟩)), (9, .string (mkS last)), (10, .int .i64 m2), (11, .int .i64 ((cur).length : Int)), (102, .pointer (some ⟨b1015, 0, none⟩))]) (by kernel_rfl) ?_
            refine Op.call (dst := some 103) (f := 28) (args := #[.pointer (some ⟨b1015, 0, none⟩), .string (mkS ([47, 110, 45])), .slice none 0 0, .int .i64 (-1), .int .i64 0, .bool true]) (Lc := [c1175]) (L := []) (by kernel_rfl) s1192 (makeF _ _ _ s1192.sub hG b1015 cur _ o1176 ([47, 110, 45]) _ _ (SlR.nil _ _ _) (-1) 0 true hP (by ((try dsimp only) <;> (exact hT2.b (by have hsm := (small (by assumption)).1; omega)))) (by ((try dsimp only) <;> (decide))) (by ((try dsimp only) <;> (decide))) (St.part (Lc := [c1175]) (L := []) s1192)) (fun _ _ _ => trivial) ?_
            rintro _ g1201 _ h1197 hle1202 s1198 ⟨c1199, rfl, o1200, hgg, rfl⟩; subst g1201; clear hle1202
            refine Op.pures 5 [5, 9, 10, 11, 12, 13] (L' := []) (e' := [(5, .pointer (some ⟨b1015, 0, none⟩)), (9, .string (mkS last)), (10, .int .i64 m2), (11, .int .i64 ((cur).length : Int)), (12, .string (mkS ((makeT cur ([47, 110, 45]) [] (-1) 0 true).2.1))), (13, .int .i64 ((makeT cur ([47, 110, 45]) [] (-1) 0 true).2.2))]) (by kernel_rfl) ?_
            refine Op.goto 36 (by kernel_rfl) ?_
            refine At.reg (L := [(0, false), (1, false), (2, false), (3, false), (4, false), (5, false), (6, false), (7, false), (8, false), (9, false), (10, false), (11, false), (12, false), (13, false), (14, false), (15, false), (16, false), (17, false), (18, false)]) (by kernel_rfl) ?_
            refine Op.pures 6 [5, 9, 10, 12, 13, 111] (L' := [(6, false), (7, false), (8, false), (9, false), (10, false), (11, false), (12, false), (13, false), (14, false), (15, false), (16, false), (17, false), (18, false)]) (e' := [(5, .pointer (some ⟨b1015, 0, none⟩)), (9, .string (mkS last)), (10, .int .i64 m2), (12, .string (mkS ((makeT cur ([47, 110, 45]) [] (-1) 0 true).2.1))), (13, .int .i64 ((makeT cur ([47, 110, 45]) [] (-1) 0 true).2.2)), (111, .bool ((((makeT cur ([47, 110, 45]) [] (-1) 0 true).2.2) == (0 : Int)) != (decide (((cur).length : Int) < (32 : Int)))))]) (by kernel_rfl) ?_
            refine Op.ways (b := (((makeT cur ([47, 110, 45]) [] (-1) 0 true).2.2) == (0 : Int)) != (decide (((cur).length : Int) < (32 : Int)))) ⟨fun hb => ?_, fun hb => ?_⟩
            ·refine Op.cast (e' := [(5, .pointer (some ⟨b1015, 0, none⟩)), (9, .string (mkS last)), (10, .int .i64 m2), (12, .string (mkS ((makeT cur ([47, 110, 45]) [] (-1) 0 true).2.1))), (13, .int .i64 ((makeT cur ([47, 110, 45]) [] (-1) 0 true).2.2)), (111, .bool true)]) (by rw [hb]) ?_
             have c1203 : ¬ ((((makeT cur ([47, 110, 45]) [] (-1) 0 true).2.2) == (0 : Int)) = (decide (((cur).length : Int) < (32 : Int)))) := bneT hb
             clear hb
             refine Op.pures 13 [5, 9, 10, 12, 13, 124] (L' := []) (e' := [(5, .pointer (some ⟨b1015, 0, none⟩)), (9, .string (mkS last)), (10, .int .i64 m2), (12, .string (mkS ((makeT cur ([47, 110, 45]) [] (-1) 0 true).2.1))), (13, .int .i64 ((makeT cur ([47, 110, 45]) [] (-1) 0 true).2.2)), (124, .bool true)]) (by kernel_rfl) ?_
             refine Op.goto 37 (by kernel_rfl) ?_
             refine At.condT (c := .tmp 124) (by kernel_rfl) (by kernel_rfl) (by kernel_rfl) 38 (by kernel_rfl) ?_
             refine At.reg (L := [(0, false)]) (by kernel_rfl) ?_
             refine Op.pures 1 [4] (L' := []) (e' := [(4, .bool false)]) (by kernel_rfl) ?_
             refine Op.goto 39 (by kernel_rfl) ?_
             refine At.ret (f := Tryz.f8) (v := .bool false) (by kernel_rfl) (by kernel_rfl) ?_
             have s1204 : St h g (ids []) g1191 [] h1197 := (s1198).drop
             have s1205 : St h g (ids []) g [] h1197 := s1204.unfrz
             refine hR _ _ _ _ s1205 ⟨?_, rfl, rfl⟩
             exact (eqB (by exact absurd (rmk_iff hT2 hRo (by omega) (by have hsm := (small (by assumption)).1; omega)) c1203))
            ·refine Op.cast (e' := [(5, .pointer (some ⟨b1015, 0, none⟩)), (9, .string (mkS last)), (10, .int .i64 m2), (12, .string (mkS ((makeT cur ([47, 110, 45]) [] (-1) 0 true).2.1))), (13, .int .i64 ((makeT cur ([47, 110, 45]) [] (-1) 0 true).2.2)), (111, .bool false)]) (by rw [hb]) ?_
             have c1206 : (((makeT cur ([47, 110, 45]) [] (-1) 0 true).2.2) == (0 : Int)) = (decide (((cur).length : Int) < (32 : Int))) := bneF hb
             clear hb
             refine Op.pures 3 [5, 9, 10, 12, 13, 111, 114] (L' := [(9, false), (10, false), (11, false), (12, false), (13, false), (14, false), (15, false), (16, false), (17, false), (18, false)]) (e' := [(5, .pointer (some ⟨b1015, 0, none⟩)), (9, .string (mkS last)), (10, .int .i64 m2), (12, .string (mkS ((makeT cur ([47, 110, 45]) [] (-1) 0 true).2.1))), (13, .int .i64 ((makeT cur ([47, 110, 45]) [] (-1) 0 true).2.2)), (111, .bool false), (114, .bool (((makeT cur ([47, 110, 45]) [] (-1) 0 true).2.2) != (0 : Int)))]) (by kernel_rfl) ?_
             refine Op.ways (b := ((makeT cur ([47, 110, 45]) [] (-1) 0 true).2.2) != (0 : Int)) ⟨fun hb => ?_, fun hb => ?_⟩
             ·refine Op.cast (e' := [(5, .pointer (some ⟨b1015, 0, none⟩)), (9, .string (mkS last)), (10, .int .i64 m2), (12, .string (mkS ((makeT cur ([47, 110, 45]) [] (-1) 0 true).2.1))), (13, .int .i64 ((makeT cur ([47, 110, 45]) [] (-1) 0 true).2.2)), (111, .bool false), (114, .bool true)]) (by rw [hb]) ?_
              have c1207 : ¬ (((makeT cur ([47, 110, 45]) [] (-1) 0 true).2.2) = (0 : Int)) := bneT hb
              clear hb
              refine Op.pures 5 [5, 9, 10, 12, 13, 119] (L' := [(14, false), (15, false), (16, false), (17, false), (18, false)]) (e' := [(5, .pointer (some ⟨b1015, 0, none⟩)), (9, .string (mkS last)), (10, .int .i64 m2), (12, .string (mkS ((makeT cur ([47, 110, 45]) [] (-1) 0 true).2.1))), (13, .int .i64 ((makeT cur ([47, 110, 45]) [] (-1) 0 true).2.2)), (119, .bool (((makeT cur ([47, 110, 45]) [] (-1) 0 true).2.2) != (104 : Int)))]) (by kernel_rfl) ?_
              refine Op.ways (b := ((makeT cur ([47, 110, 45]) [] (-1) 0 true).2.2) != (104 : Int)) ⟨fun hb => ?_, fun hb => ?_⟩
              ·refine Op.cast (e' := [(5, .pointer (some ⟨b1015, 0, none⟩)), (9, .string (mkS last)), (10, .int .i64 m2), (12, .string (mkS ((makeT cur ([47, 110, 45]) [] (-1) 0 true).2.1))), (13, .int .i64 ((makeT cur ([47, 110, 45]) [] (-1) 0 true).2.2)), (119, .bool true)]) (by rw [hb]) ?_
               have c1208 : ¬ (((makeT cur ([47, 110, 45]) [] (-1) 0 true).2.2) = (104 : Int)) := bneT hb
               clear hb
               refine Op.pures 5 [5, 9, 10, 12, 13, 124] (L' := []) (e' := [(5, .pointer (some ⟨b1015, 0, none⟩)), (9, .string (mkS last)), (10, .int .i64 m2), (12, .string (mkS ((makeT cur ([47, 110, 45]) [] (-1) 0 true).2.1))), (13, .int .i64 ((makeT cur ([47, 110, 45]) [] (-1) 0 true).2.2)), (124, .bool true)]) (by kernel_rfl) ?_
               refine Op.goto 37 (by kernel_rfl) ?_
               refine At.condT (c := .tmp 124) (by kernel_rfl) (by kernel_rfl) (by kernel_rfl) 38 (by kernel_rfl) ?_
               refine At.reg (L := [(0, false)]) (by kernel_rfl) ?_
               refine Op.pures 1 [4] (L' := []) (e' := [(4, .bool false)]) (by kernel_rfl) ?_
               refine Op.goto 39 (by kernel_rfl) ?_
               refine At.ret (f := Tryz.f8) (v := .bool false) (by kernel_rfl) (by kernel_rfl) ?_
               have s1209 : St h g (ids []) g1191 [] h1197 := (s1198).drop
               have s1210 : St h g (ids []) g [] h1197 := s1209.unfrz
               refine hR _ _ _ _ s1210 ⟨?_, rfl, rfl⟩
               exact (eqB (by exact absurd (rmk_e hT2 hRo (by omega) (by have hsm := (small (by assumption)).1; omega) (by assumption)) c1208))
              ·refine Op.cast (e' := [(5, .pointer (some ⟨b1015, 0, none⟩)), (9, .string (mkS last)), (10, .int .i64 m2), (12, .string (mkS ((makeT cur ([47, 110, 45]) [] (-1) 0 true).2.1))), (13, .int .i64 ((makeT cur ([47, 110, 45]) [] (-1) 0 true).2.2)), (119, .bool false)]) (by rw [hb]) ?_
               have c1211 : ((makeT cur ([47, 110, 45]) [] (-1) 0 true).2.2) = (104 : Int) := bneF hb
               clear hb
               refine Op.pures 1 [5, 9, 10, 12, 13, 119, 120] (L' := [(15, false), (16, false), (17, false), (18, false)]) (e' := [(5, .pointer (some ⟨b1015, 0, none⟩)), (9, .string (mkS last)), (10, .int .i64 m2), (12, .string (mkS ((makeT cur ([47, 110, 45]) [] (-1) 0 true).2.1))), (13, .int .i64 ((makeT cur ([47, 110, 45]) [] (-1) 0 true).2.2)), (119, .bool false), (120, .pointer (some ⟨b1015, 0, none⟩))]) (by kernel_rfl) ?_
               have hl1212 := s1198.frzle
               have hz1213 := IsTree.frz o1200 s1198 (by intro p hp; simp only [List.mem_append, hp, true_or, or_true])
               refine Op.lend (dst := some 121) (f := 30) (args := #[.pointer (some ⟨b1015, 0, none⟩)]) (cf := (c1199 : Chunk)) (Lc := []) (L := []) (by kernel_rfl) s1198 (allF _ _ _ s1198.frzsub (hG.mono hl1212) b1015 ((makeT cur ([47, 110, 45]) [] (-1) 0 true).1) hz1213 (by ((try dsimp only) <;> (exact (rmk_ok hT2 (by omega) (by have hsm := (small (by assumption)).1; omega)).b (by have hsm := (small (by assumption)).1; omega)))) ) (fun _ _ _ hp => by obtain ⟨_, _, _, _, _, hgg, _⟩ := hp; exact hgg) (fun _ _ h => absurd h (ids_nil _)) ?_
               rintro _ _ h1214 s1215 ⟨v1216, ch1217, dc1218, rfl, R1219, hgg, rfl⟩; clear hgg
               have s1222 : St h g (ids []) g1191 [ch1217, dc1218, c1199] h1214 := (((s1215.front 0 rfl).front 2 rfl).front 2 rfl)
               obtain ⟨g1223, s1224, hle1225, hf1226⟩ := Deep.freeze R1219 s1222
               replace hG := hG.mono hle1225
               replace hP := hP.mono hle1225
               replace o1200 := o1200.mono hle1225
               obtain ⟨a1227, n1228, rfl⟩ := hf1226.form
               refine Op.pures 3 [5, 9, 10, 12, 13, 124] (L' := []) (e' := [(5, .pointer (some ⟨b1015, 0, none⟩)), (9, .string (mkS last)), (10, .int .i64 m2), (12, .string (mkS ((makeT cur ([47, 110, 45]) [] (-1) 0 true).2.1))), (13, .int .i64 ((makeT cur ([47, 110, 45]) [] (-1) 0 true).2.2)), (124, .bool (decide (((((makeT cur ([47, 110, 45]) [] (-1) 0 true).1)).length : Int) > (32 : Int))))]) (by kernel_rfl) ?_
               refine Op.goto 37 (by kernel_rfl) ?_
               refine At.cond (b := decide (((((makeT cur ([47, 110, 45]) [] (-1) 0 true).1)).length : Int) > (32 : Int))) (c := .tmp 124) (by kernel_rfl) (by kernel_rfl) (by kernel_rfl) 38 40 (by kernel_rfl) (by kernel_rfl) (fun hb => ?_) (fun hb => ?_)
               ·have c1229 : ((((makeT cur ([47, 110, 45]) [] (-1) 0 true).1)).length : Int) > (32 : Int) := of_decide_eq_true hb
                clear hb
                refine At.keep [] ?_; show At _ _ _ [] _
                refine At.reg (L := [(0, false)]) (by kernel_rfl) ?_
                refine Op.pures 1 [4] (L' := []) (e' := [(4, .bool false)]) (by kernel_rfl) ?_
                refine Op.goto 39 (by kernel_rfl) ?_
                refine At.ret (f := Tryz.f8) (v := .bool false) (by kernel_rfl) (by kernel_rfl) ?_
                have s1230 : St h g (ids []) g1223 [] h1214 := (s1224).drop
                have s1231 : St h g (ids []) g [] h1214 := s1230.unfrz
                refine hR _ _ _ _ s1231 ⟨?_, rfl, rfl⟩
                exact (eqB (by exact absurd c1229 (rmk_len hT2 (by omega) (by have hsm := (small (by assumption)).1; omega))))
               ·have c1232 : ¬ (((((makeT cur ([47, 110, 45]) [] (-1) 0 true).1)).length : Int) > (32 : Int)) := of_decide_eq_false hb
                clear hb
                refine At.keep [5, 9, 10, 12, 13] ?_; show At _ _ _ [(5, .pointer (some ⟨b1015, 0, none⟩)), (9, .string (mkS last)), (10, .int .i64 m2), (12, .string (mkS ((makeT cur ([47, 110, 45]) [] (-1) 0 true).2.1))), (13, .int .i64 ((makeT cur ([47, 110, 45]) [] (-1) 0 true).2.2))] _
                refine At.reg (L := [(0, false), (1, false)]) (by kernel_rfl) ?_
                refine Op.pures 2 [5, 9, 10, 12, 126] (L' := []) (e' := [(5, .pointer (some ⟨b1015, 0, none⟩)), (9, .string (mkS last)), (10, .int .i64 m2), (12, .string (mkS ((makeT cur ([47, 110, 45]) [] (-1) 0 true).2.1))), (126, .bool (((makeT cur ([47, 110, 45]) [] (-1) 0 true).2.2) == (0 : Int)))]) (by kernel_rfl) ?_
                refine Op.goto 41 (by kernel_rfl) ?_
                refine At.cond (b := ((makeT cur ([47, 110, 45]) [] (-1) 0 true).2.2) == (0 : Int)) (c := .tmp 126) (by kernel_rfl) (by kernel_rfl) (by kernel_rfl) 42 43 (by kernel_rfl) (by kernel_rfl) (fun hb => ?_) (fun hb => ?_)
                ·have c1233 : ((makeT cur ([47, 110, 45]) [] (-1) 0 true).2.2) = (0 : Int) := eq_of_beq hb
                 clear hb
                 refine At.keep [5, 10, 12] ?_; show At _ _ _ [(5, .pointer (some ⟨b1015, 0, none⟩)), (10, .int .i64 m2), (12, .string (mkS ((makeT cur ([47, 110, 45]) [] (-1) 0 true).2.1)))] _
                 refine At.reg (L := [(0, false), (1, false)]) (by kernel_rfl) ?_
                 refine Op.pures 2 [5, 9, 10] (L' := []) (e' := [(5, .pointer (some ⟨b1015, 0, none⟩)), (9, .string (mkS ((makeT cur ([47, 110, 45]) [] (-1) 0 true).2.1))), (10, .int .i64 m2)]) (by kernel_rfl) ?_
                 refine Op.goto 43 (by kernel_rfl) ?_
                 refine At.reg (L := [(0, false), (1, false), (2, false)]) (by kernel_rfl) ?_
                 refine Op.pures 1 [5, 9, 10, 96] (L' := [(1, false), (2, false)]) (e' := [(5, .pointer (some ⟨b1015, 0, none⟩)), (9, .string (mkS ((makeT cur ([47, 110, 45]) [] (-1) 0 true).2.1))), (10, .int .i64 m2), (96, .int .i64 m2)]) (by kernel_rfl) ?_
                 refine Op.val (dst := some 97) (v := .int .i64 (IntKind.wrap .i64 (m2 + 1))) (v' := .int .i64 (m2 + 1)) (by kernel_rfl) (wrapEq_i64 (by omega) (by omega)) ?_
                 refine Op.pures 1 [5, 9, 10] (L' := []) (e' := [(5, .pointer (some ⟨b1015, 0, none⟩)), (9, .string (mkS ((makeT cur ([47, 110, 45]) [] (-1) 0 true).2.1))), (10, .int .i64 (m2 + 1))]) (by kernel_rfl) ?_
                 refine Op.goto 32 (by kernel_rfl) ?_
                 exact ih32 _ (gle.trans hleg1178 (by repeat (first | assumption | apply gle.trans))) ((makeT cur ([47, 110, 45]) [] (-1) 0 true).1) ((makeT cur ([47, 110, 45]) [] (-1) 0 true).2.1) (m2 + 1) _ _ (by omega) (by omega) (by omega) (by exact (rmk_ok hT2 (by omega) (by have hsm := (small (by assumption)).1; omega)).mono (by omega)) (by exact rmk_R hT2 hRo (by omega) (by have hsm := (small (by assumption)).1; omega)) (by exact rmk_L hT2 hRo (by omega) (by have hsm := (small (by assumption)).1; omega) hL) (by exact rmk_last hT2 hRo (by omega) (by have hsm := (small (by assumption)).1; omega) (by assumption)) o1200 s1224
                ·have c1234 : ¬ (((makeT cur ([47, 110, 45]) [] (-1) 0 true).2.2) = (0 : Int)) := neF hb
                 clear hb
                 refine At.keep [5, 9, 10] ?_; show At _ _ _ [(5, .pointer (some ⟨b1015, 0, none⟩)), (9, .string (mkS last)), (10, .int .i64 m2)] _
                 refine At.reg (L := [(0, false), (1, false), (2, false)]) (by kernel_rfl) ?_
                 refine Op.pures 1 [5, 9, 10, 96] (L' := [(1, false), (2, false)]) (e' := [(5, .pointer (some ⟨b1015, 0, none⟩)), (9, .string (mkS last)), (10, .int .i64 m2), (96, .int .i64 m2)]) (by kernel_rfl) ?_
                 refine Op.val (dst := some 97) (v := .int .i64 (IntKind.wrap .i64 (m2 + 1))) (v' := .int .i64 (m2 + 1)) (by kernel_rfl) (wrapEq_i64 (by omega) (by omega)) ?_
                 refine Op.pures 1 [5, 9, 10] (L' := []) (e' := [(5, .pointer (some ⟨b1015, 0, none⟩)), (9, .string (mkS last)), (10, .int .i64 (m2 + 1))]) (by kernel_rfl) ?_
                 refine Op.goto 32 (by kernel_rfl) ?_
                 exact ih32 _ (gle.trans hleg1178 (by repeat (first | assumption | apply gle.trans))) ((makeT cur ([47, 110, 45]) [] (-1) 0 true).1) last (m2 + 1) _ _ (by omega) (by omega) (by omega) (by exact (rmk_ok hT2 (by omega) (by have hsm := (small (by assumption)).1; omega)).mono (by omega)) (by exact rmk_R hT2 hRo (by omega) (by have hsm := (small (by assumption)).1; omega)) (by exact rmk_L hT2 hRo (by omega) (by have hsm := (small (by assumption)).1; omega) hL) (by exact rmk_same hT2 hRo (by omega) (by have hsm := (small (by assumption)).1; omega) (by assumption) hlast) o1200 s1224
             ·refine Op.cast (e' := [(5, .pointer (some ⟨b1015, 0, none⟩)), (9, .string (mkS last)), (10, .int .i64 m2), (12, .string (mkS ((makeT cur ([47, 110, 45]) [] (-1) 0 true).2.1))), (13, .int .i64 ((makeT cur ([47, 110, 45]) [] (-1) 0 true).2.2)), (111, .bool false), (114, .bool false)]) (by rw [hb]) ?_
              have c1235 : ((makeT cur ([47, 110, 45]) [] (-1) 0 true).2.2) = (0 : Int) := bneF hb
              clear hb
              refine Op.pures 6 [5, 9, 10, 12, 13, 119, 120] (L' := [(15, false), (16, false), (17, false), (18, false)]) (e' := [(5, .pointer (some ⟨b1015, 0, none⟩)), (9, .string (mkS last)), (10, .int .i64 m2), (12, .string (mkS ((makeT cur ([47, 110, 45]) [] (-1) 0 true).2.1))), (13, .int .i64 ((makeT cur ([47, 110, 45]) [] (-1) 0 true).2.2)), (119, .bool false), (120, .pointer (some ⟨b1015, 0, none⟩))]) (by kernel_rfl) ?_
              have hl1236 := s1198.frzle
              have hz1237 := IsTree.frz o1200 s1198 (by intro p hp; simp only [List.mem_append, hp, true_or, or_true])
              refine Op.lend (dst := some 121) (f := 30) (args := #[.pointer (some ⟨b1015, 0, none⟩)]) (cf := (c1199 : Chunk)) (Lc := []) (L := []) (by kernel_rfl) s1198 (allF _ _ _ s1198.frzsub (hG.mono hl1236) b1015 ((makeT cur ([47, 110, 45]) [] (-1) 0 true).1) hz1237 (by ((try dsimp only) <;> (exact (rmk_ok hT2 (by omega) (by have hsm := (small (by assumption)).1; omega)).b (by have hsm := (small (by assumption)).1; omega)))) ) (fun _ _ _ hp => by obtain ⟨_, _, _, _, _, hgg, _⟩ := hp; exact hgg) (fun _ _ h => absurd h (ids_nil _)) ?_
              rintro _ _ h1238 s1239 ⟨v1240, ch1241, dc1242, rfl, R1243, hgg, rfl⟩; clear hgg
              have s1246 : St h g (ids []) g1191 [ch1241, dc1242, c1199] h1238 := (((s1239.front 0 rfl).front 2 rfl).front 2 rfl)
              obtain ⟨g1247, s1248, hle1249, hf1250⟩ := Deep.freeze R1243 s1246
              replace hG := hG.mono hle1249
              replace hP := hP.mono hle1249
              replace o1200 := o1200.mono hle1249
              obtain ⟨a1251, n1252, rfl⟩ := hf1250.form
              refine Op.pures 3 [5, 9, 10, 12, 13, 124] (L' := []) (e' := [(5, .pointer (some ⟨b1015, 0, none⟩)), (9, .string (mkS last)), (10, .int .i64 m2), (12, .string (mkS ((makeT cur ([47, 110, 45]) [] (-1) 0 true).2.1))), (13, .int .i64 ((makeT cur ([47, 110, 45]) [] (-1) 0 true).2.2)), (124, .bool (decide (((((makeT cur ([47, 110, 45]) [] (-1) 0 true).1)).length : Int) > (32 : Int))))]) (by kernel_rfl) ?_
              refine Op.goto 37 (by kernel_rfl) ?_
              refine At.cond (b := decide (((((makeT cur ([47, 110, 45]) [] (-1) 0 true).1)).length : Int) > (32 : Int))) (c := .tmp 124) (by kernel_rfl) (by kernel_rfl) (by kernel_rfl) 38 40 (by kernel_rfl) (by kernel_rfl) (fun hb => ?_) (fun hb => ?_)
              ·have c1253 : ((((makeT cur ([47, 110, 45]) [] (-1) 0 true).1)).length : Int) > (32 : Int) := of_decide_eq_true hb
               clear hb
               refine At.keep [] ?_; show At _ _ _ [] _
               refine At.reg (L := [(0, false)]) (by kernel_rfl) ?_
               refine Op.pures 1 [4] (L' := []) (e' := [(4, .bool false)]) (by kernel_rfl) ?_
               refine Op.goto 39 (by kernel_rfl) ?_
               refine At.ret (f := Tryz.f8) (v := .bool false) (by kernel_rfl) (by kernel_rfl) ?_
               have s1254 : St h g (ids []) g1247 [] h1238 := (s1248).drop
               have s1255 : St h g (ids []) g [] h1238 := s1254.unfrz
               refine hR _ _ _ _ s1255 ⟨?_, rfl, rfl⟩
               exact (eqB (by exact absurd c1253 (rmk_len hT2 (by omega) (by have hsm := (small (by assumption)).1; omega))))
              ·have c1256 : ¬ (((((makeT cur ([47, 110, 45]) [] (-1) 0 true).1)).length : Int) > (32 : Int)) := of_decide_eq_false hb
               clear hb
               refine At.keep [5, 9, 10, 12, 13] ?_; show At _ _ _ [(5, .pointer (some ⟨b1015, 0, none⟩)), (9, .string (mkS last)), (10, .int .i64 m2), (12, .string (mkS ((makeT cur ([47, 110, 45]) [] (-1) 0 true).2.1))), (13, .int .i64 ((makeT cur ([47, 110, 45]) [] (-1) 0 true).2.2))] _
               refine At.reg (L := [(0, false), (1, false)]) (by kernel_rfl) ?_
               refine Op.pures 2 [5, 9, 10, 12, 126] (L' := []) (e' := [(5, .pointer (some ⟨b1015, 0, none⟩)), (9, .string (mkS last)), (10, .int .i64 m2), (12, .string (mkS ((makeT cur ([47, 110, 45]) [] (-1) 0 true).2.1))), (126, .bool (((makeT cur ([47, 110, 45]) [] (-1) 0 true).2.2) == (0 : Int)))]) (by kernel_rfl) ?_
               refine Op.goto 41 (by kernel_rfl) ?_
               refine At.cond (b := ((makeT cur ([47, 110, 45]) [] (-1) 0 true).2.2) == (0 : Int)) (c := .tmp 126) (by kernel_rfl) (by kernel_rfl) (by kernel_rfl) 42 43 (by kernel_rfl) (by kernel_rfl) (fun hb => ?_) (fun hb => ?_)
               ·have c1257 : ((makeT cur ([47, 110, 45]) [] (-1) 0 true).2.2) = (0 : Int) := eq_of_beq hb
                clear hb
                refine At.keep [5, 10, 12] ?_; show At _ _ _ [(5, .pointer (some ⟨b1015, 0, none⟩)), (10, .int .i64 m2), (12, .string (mkS ((makeT cur ([47, 110, 45]) [] (-1) 0 true).2.1)))] _
                refine At.reg (L := [(0, false), (1, false)]) (by kernel_rfl) ?_
                refine Op.pures 2 [5, 9, 10] (L' := []) (e' := [(5, .pointer (some ⟨b1015, 0, none⟩)), (9, .string (mkS ((makeT cur ([47, 110, 45]) [] (-1) 0 true).2.1))), (10, .int .i64 m2)]) (by kernel_rfl) ?_
                refine Op.goto 43 (by kernel_rfl) ?_
                refine At.reg (L := [(0, false), (1, false), (2, false)]) (by kernel_rfl) ?_
                refine Op.pures 1 [5, 9, 10, 96] (L' := [(1, false), (2, false)]) (e' := [(5, .pointer (some ⟨b1015, 0, none⟩)), (9, .string (mkS ((makeT cur ([47, 110, 45]) [] (-1) 0 true).2.1))), (10, .int .i64 m2), (96, .int .i64 m2)]) (by kernel_rfl) ?_
                refine Op.val (dst := some 97) (v := .int .i64 (IntKind.wrap .i64 (m2 + 1))) (v' := .int .i64 (m2 + 1)) (by kernel_rfl) (wrapEq_i64 (by omega) (by omega)) ?_
                refine Op.pures 1 [5, 9, 10] (L' := []) (e' := [(5, .pointer (some ⟨b1015, 0, none⟩)), (9, .string (mkS ((makeT cur ([47, 110, 45]) [] (-1) 0 true).2.1))), (10, .int .i64 (m2 + 1))]) (by kernel_rfl) ?_
                refine Op.goto 32 (by kernel_rfl) ?_
                exact ih32 _ (gle.trans hleg1178 (by repeat (first | assumption | apply gle.trans))) ((makeT cur ([47, 110, 45]) [] (-1) 0 true).1) ((makeT cur ([47, 110, 45]) [] (-1) 0 true).2.1) (m2 + 1) _ _ (by omega) (by omega) (by omega) (by exact (rmk_ok hT2 (by omega) (by have hsm := (small (by assumption)).1; omega)).mono (by omega)) (by exact rmk_R hT2 hRo (by omega) (by have hsm := (small (by assumption)).1; omega)) (by exact rmk_L hT2 hRo (by omega) (by have hsm := (small (by assumption)).1; omega) hL) (by exact rmk_last hT2 hRo (by omega) (by have hsm := (small (by assumption)).1; omega) (by assumption)) o1200 s1248
               ·have c1258 : ¬ (((makeT cur ([47, 110, 45]) [] (-1) 0 true).2.2) = (0 : Int)) := neF hb
                clear hb
                refine At.keep [5, 9, 10] ?_; show At _ _ _ [(5, .pointer (some ⟨b1015, 0, none⟩)), (9, .string (mkS last)), (10, .int .i64 m2)] _
                refine At.reg (L := [(0, false), (1, false), (2, false)]) (by kernel_rfl) ?_
                refine Op.pures 1 [5, 9, 10, 96] (L' := [(1, false), (2, false)]) (e' := [(5, .pointer (some ⟨b1015, 0, none⟩)), (9, .string (mkS last)), (10, .int .i64 m2), (96, .int .i64 m2)]) (by kernel_rfl) ?_
                refine Op.val (dst := some 97) (v := .int .i64 (IntKind.wrap .i64 (m2 + 1))) (v' := .int .i64 (m2 + 1)) (by kernel_rfl) (wrapEq_i64 (by omega) (by omega)) ?_
                refine Op.pures 1 [5, 9, 10] (L' := []) (e' := [(5, .pointer (some ⟨b1015, 0, none⟩)), (9, .string (mkS last)), (10, .int .i64 (m2 + 1))]) (by kernel_rfl) ?_
                refine Op.goto 32 (by kernel_rfl) ?_
                exact ih32 _ (gle.trans hleg1178 (by repeat (first | assumption | apply gle.trans))) ((makeT cur ([47, 110, 45]) [] (-1) 0 true).1) last (m2 + 1) _ _ (by omega) (by omega) (by omega) (by exact (rmk_ok hT2 (by omega) (by have hsm := (small (by assumption)).1; omega)).mono (by omega)) (by exact rmk_R hT2 hRo (by omega) (by have hsm := (small (by assumption)).1; omega)) (by exact rmk_L hT2 hRo (by omega) (by have hsm := (small (by assumption)).1; omega) hL) (by exact rmk_same hT2 hRo (by omega) (by have hsm := (small (by assumption)).1; omega) (by assumption) hlast) o1200 s1248
           ·have c1259 : ¬ (m2 < (40 : Int)) := of_decide_eq_false hb
            clear hb
            refine At.keep [5, 9] ?_; show At _ _ _ [(5, .pointer (some ⟨b1015, 0, none⟩)), (9, .string (mkS last))] _
            refine At.reg (L := [(0, false), (1, false)]) (by kernel_rfl) ?_
            refine Op.pures 1 [5, 9, 128] (L' := [(1, false)]) (e' := [(5, .pointer (some ⟨b1015, 0, none⟩)), (9, .string (mkS last)), (128, .string (mkS last))]) (by kernel_rfl) ?_
            refine Op.val (dst := some 129) (v := .bool ((mkS last).toList == (mkS []).toList)) (v' := .bool (last == ([] : List UInt8))) (by kernel_rfl) (by rw [toList_mkS, toList_mkS]) ?_
            refine Op.goto 45 (by kernel_rfl) ?_
            refine At.cond (b := last == ([] : List UInt8)) (c := .tmp 129) (by kernel_rfl) (by kernel_rfl) (by kernel_rfl) 46 48 (by kernel_rfl) (by kernel_rfl) (fun hb => ?_) (fun hb => ?_)
            ·have c1260 : last = ([] : List UInt8) := eq_of_beq hb
             clear hb
             refine At.keep [5] ?_; show At _ _ _ [(5, .pointer (some ⟨b1015, 0, none⟩))] _
             refine At.reg (L := [(0, false), (1, false), (2, false), (3, false), (4, false)]) (by kernel_rfl) ?_
             refine Op.pures 1 [130] (L' := [(1, false), (2, false), (3, false), (4, false)]) (e' := [(130, .pointer (some ⟨b1015, 0, none⟩))]) (by kernel_rfl) ?_
             have hl1261 := s_loop321176.frzle
             have hz1262 := IsTree.frz o1176 s_loop321176 (by intro p hp; simp only [List.mem_append, hp, true_or, or_true])
             refine Op.lend (dst := some 131) (f := 30) (args := #[.pointer (some ⟨b1015, 0, none⟩)]) (cf := (c1175 : Chunk)) (Lc := []) (L := []) (by kernel_rfl) s_loop321176 (allF _ _ _ s_loop321176.frzsub (hG.mono hl1261) b1015 cur hz1262 (by ((try dsimp only) <;> (exact hT2.b (by have hsm := (small (by assumption)).1; omega)))) ) (fun _ _ _ hp => by obtain ⟨_, _, _, _, _, hgg, _⟩ := hp; exact hgg) (fun _ _ h => absurd h (ids_nil _)) ?_
             rintro _ _ h1263 s1264 ⟨v1265, ch1266, dc1267, rfl, R1268, hgg, rfl⟩; clear hgg
             have s1271 : St h g (ids []) g1178 [ch1266, dc1267, c1175] h1263 := (((s1264.front 0 rfl).front 2 rfl).front 2 rfl)
             obtain ⟨g1272, s1273, hle1274, hf1275⟩ := Deep.freeze R1268 s1271
             replace hG := hG.mono hle1274
             replace hP := hP.mono hle1274
             replace o1176 := o1176.mono hle1274
             obtain ⟨a1276, n1277, rfl⟩ := hf1275.form
             refine Op.pures 3 [4] (L' := []) (e' := [(4, .bool (((cur).length : Int) == (32 : Int)))]) (by kernel_rfl) ?_
             refine Op.goto 47 (by kernel_rfl) ?_
             refine At.ret (f := Tryz.f8) (v := .bool (((cur).length : Int) == (32 : Int))) (by kernel_rfl) (by kernel_rfl) ?_
             have s1278 : St h g (ids []) g1272 [] h1263 := (s1273).drop
             have s1279 : St h g (ids []) g [] h1263 := s1278.unfrz
             refine hR _ _ _ _ s1279 ⟨?_, rfl, rfl⟩
             exact (eqB (by exact beq_iff_eq.2 (by have hln := hT.len1; omega)))
            ·have c1280 : ¬ (last = ([] : List UInt8)) := neF hb
             clear hb
             refine At.keep [5, 9] ?_; show At _ _ _ [(5, .pointer (some ⟨b1015, 0, none⟩)), (9, .string (mkS last))] _
             refine At.reg (L := [(0, false), (1, false), (2, false), (3, false)]) (by kernel_rfl) ?_
             refine Op.pures 2 [5, 134, 135] (L' := [(2, false), (3, false)]) (e' := [(5, .pointer (some ⟨b1015, 0, none⟩)), (134, .pointer (some ⟨b1015, 0, none⟩)), (135, .string (mkS last))]) (by kernel_rfl) ?_
             refine Op.call (dst := some 136) (f := 33) (args := #[.pointer (some ⟨b1015, 0, none⟩), .string (mkS last), .int .i64 0]) (Lc := [c1175]) (L := []) (by kernel_rfl) s_loop321176 (dropF _ _ _ s_loop321176.sub hG b1015 cur _ o1176 last 0 (by ((try dsimp only) <;> (exact hT2.b (by have hsm := (small (by assumption)).1; omega)))) (by ((try dsimp only) <;> ((have hln := last_len hT2 hlast; omega)))) (St.part (Lc := [c1175]) (L := []) s_loop321176)) (fun _ _ _ => trivial) ?_
             rintro _ g1285 _ h1281 hle1286 s1282 ⟨c1283, rfl, o1284, hgg, rfl⟩; subst g1285; clear hle1286
             refine Op.pures 1 [5, 137] (L' := []) (e' := [(5, .pointer (some ⟨b1015, 0, none⟩)), (137, .bool (((dropT cur last 0).2) != (0 : Int)))]) (by kernel_rfl) ?_
             refine Op.goto 49 (by kernel_rfl) ?_
             refine At.cond (b := ((dropT cur last 0).2) != (0 : Int)) (c := .tmp 137) (by kernel_rfl) (by kernel_rfl) (by kernel_rfl) 50 52 (by kernel_rfl) (by kernel_rfl) (fun hb => ?_) (fun hb => ?_)
             ·have c1287 : ¬ (((dropT cur last 0).2) = (0 : Int)) := bneT hb
              clear hb
              refine At.keep [] ?_; show At _ _ _ [] _
              refine At.reg (L := [(0, false)]) (by kernel_rfl) ?_
              refine Op.pures 1 [4] (L' := []) (e' := [(4, .bool false)]) (by kernel_rfl) ?_
              refine Op.goto 51 (by kernel_rfl) ?_
              refine At.ret (f := Tryz.f8) (v := .bool false) (by kernel_rfl) (by kernel_rfl) ?_
              have s1288 : St h g (ids []) g1178 [] h1281 := (s1282).drop
              have s1289 : St h g (ids []) g [] h1281 := s1288.unfrz
              refine hR _ _ _ _ s1289 ⟨?_, rfl, rfl⟩
              exact (eqB (by exact absurd (rdr hT2 hRo (by have hsm := (small (by assumption)).1; omega) hlast (by assumption)).1 c1287))
             ·have c1290 : ((dropT cur last 0).2) = (0 : Int) := bneF hb
              clear hb
              refine At.keep [5] ?_; show At _ _ _ [(5, .pointer (some ⟨b1015, 0, none⟩))] _
              refine At.reg (L := [(0, false), (1, false), (2, false), (3, false), (4, false), (5, false), (6, false)]) (by kernel_rfl) ?_
              refine Op.pures 1 [5, 139] (L' := [(1, false), (2, false), (3, false), (4, false), (5, false), (6, false)]) (e' := [(5, .pointer (some ⟨b1015, 0, none⟩)), (139, .pointer (some ⟨b1015, 0, none⟩))]) (by kernel_rfl) ?_
              refine Op.call (dst := some 140) (f := 28) (args := #[.pointer (some ⟨b1015, 0, none⟩), .string (mkS ([47, 110, 45])), .slice none 0 0, .int .i64 (-1), .int .i64 0, .bool true]) (Lc := [c1283]) (L := []) (by kernel_rfl) s1282 (makeF _ _ _ s1282.sub hG b1015 ((dropT cur last 0).1) _ o1284 ([47, 110, 45]) _ _ (SlR.nil _ _ _) (-1) 0 true hP (by ((try dsimp only) <;> (exact (rdr hT2 hRo (by have hsm := (small (by assumption)).1; omega) hlast (by assumption)).2.1.b (by have hsm := (small (by assumption)).1; omega)))) (by ((try dsimp only) <;> (decide))) (by ((try dsimp only) <;> (decide))) (St.part (Lc := [c1283]) (L := []) s1282)) (fun _ _ _ => trivial) ?_
              rintro _ g1295 _ h1291 hle1296 s1292 ⟨c1293, rfl, o1294, hgg, rfl⟩; subst g1295; clear hle1296
              refine Op.pures 5 [5, 15] (L' := []) (e' := [(5, .pointer (some ⟨b1015, 0, none⟩)), (15, .int .i64 ((makeT ((dropT cur last 0).1) ([47, 110, 45]) [] (-1) 0 true).2.2))]) (by kernel_rfl) ?_
              refine Op.goto 53 (by kernel_rfl) ?_
              refine At.reg (L := [(0, false), (1, false), (2, false), (3, false), (4, false), (5, false), (6, false)]) (by kernel_rfl) ?_
              refine Op.pures 1 [15, 144] (L' := [(1, false), (2, false), (3, false), (4, false), (5, false), (6, false)]) (e' := [(15, .int .i64 ((makeT ((dropT cur last 0).1) ([47, 110, 45]) [] (-1) 0 true).2.2)), (144, .pointer (some ⟨b1015, 0, none⟩))]) (by kernel_rfl) ?_
              refine Op.call (dst := some 145) (f := 28) (args := #[.pointer (some ⟨b1015, 0, none⟩), .string (mkS ([47, 110, 45])), .slice none 0 0, .int .i64 (-1), .int .i64 0, .bool true]) (Lc := [c1293]) (L := []) (by kernel_rfl) s1292 (makeF _ _ _ s1292.sub hG b1015 ((makeT ((dropT cur last 0).1) ([47, 110, 45]) [] (-1) 0 true).1) _ o1294 ([47, 110, 45]) _ _ (SlR.nil _ _ _) (-1) 0 true hP (by ((try dsimp only) <;> (exact (rfin hT2 hRo (by omega) (by have hsm := (small (by assumption)).1; omega) hlast (by assumption) (by omega)).2.2.b (by have hsm := (small (by assumption)).1; omega)))) (by ((try dsimp only) <;> (decide))) (by ((try dsimp only) <;> (decide))) (St.part (Lc := [c1293]) (L := []) s1292)) (fun _ _ _ => trivial) ?_
              rintro _ g1301 _ h1297 hle1302 s1298 ⟨c1299, rfl, o1300, hgg, rfl⟩; subst g1301; clear hle1302
              refine Op.pures 5 [15, 17] (L' := []) (e' := [(15, .int .i64 ((makeT ((dropT cur last 0).1) ([47, 110, 45]) [] (-1) 0 true).2.2)), (17, .int .i64 ((makeT ((makeT ((dropT cur last 0).1) ([47, 110, 45]) [] (-1) 0 true).1) ([47, 110, 45]) [] (-1) 0 true).2.2))]) (by kernel_rfl) ?_
              refine Op.goto 54 (by kernel_rfl) ?_
              refine At.reg (L := [(0, false), (1, false), (2, false), (3, false), (4, false), (5, false), (6, false)]) (by kernel_rfl) ?_
              refine Op.pures 3 [17, 150] (L' := [(3, false), (4, false), (5, false), (6, false)]) (e' := [(17, .int .i64 ((makeT ((makeT ((dropT cur last 0).1) ([47, 110, 45]) [] (-1) 0 true).1) ([47, 110, 45]) [] (-1) 0 true).2.2)), (150, .bool (((makeT ((dropT cur last 0).1) ([47, 110, 45]) [] (-1) 0 true).2.2) == (0 : Int)))]) (by kernel_rfl) ?_
              refine Op.ways (b := ((makeT ((dropT cur last 0).1) ([47, 110, 45]) [] (-1) 0 true).2.2) == (0 : Int)) ⟨fun hb => ?_, fun hb => ?_⟩
              ·refine Op.cast (e' := [(17, .int .i64 ((makeT ((makeT ((dropT cur last 0).1) ([47, 110, 45]) [] (-1) 0 true).1) ([47, 110, 45]) [] (-1) 0 true).2.2)), (150, .bool true)]) (by rw [hb]) ?_
               have c1303 : ((makeT ((dropT cur last 0).1) ([47, 110, 45]) [] (-1) 0 true).2.2) = (0 : Int) := eq_of_beq hb
               clear hb
               refine Op.pures 4 [4] (L' := []) (e' := [(4, .bool (((makeT ((makeT ((dropT cur last 0).1) ([47, 110, 45]) [] (-1) 0 true).1) ([47, 110, 45]) [] (-1) 0 true).2.2) == (104 : Int)))]) (by kernel_rfl) ?_
               refine Op.goto 55 (by kernel_rfl) ?_
               refine At.ret (f := Tryz.f8) (v := .bool (((makeT ((makeT ((dropT cur last 0).1) ([47, 110, 45]) [] (-1) 0 true).1) ([47, 110, 45]) [] (-1) 0 true).2.2) == (104 : Int))) (by kernel_rfl) (by kernel_rfl) ?_
               have s1304 : St h g (ids []) g1178 [] h1297 := (s1298).drop
               have s1305 : St h g (ids []) g [] h1297 := s1304.unfrz
               refine hR _ _ _ _ s1305 ⟨?_, rfl, rfl⟩
               exact (eqB (by exact beq_iff_eq.2 (rfin hT2 hRo (by omega) (by have hsm := (small (by assumption)).1; omega) hlast (by assumption) (by have hln := hT.len1; omega)).2.1))
              ·refine Op.cast (e' := [(17, .int .i64 ((makeT ((makeT ((dropT cur last 0).1) ([47, 110, 45]) [] (-1) 0 true).1) ([47, 110, 45]) [] (-1) 0 true).2.2)), (150, .bool false)]) (by rw [hb]) ?_
               have c1306 : ¬ (((makeT ((dropT cur last 0).1) ([47, 110, 45]) [] (-1) 0 true).2.2) = (0 : Int)) := neF hb
               clear hb
               refine Op.pures 4 [4] (L' := []) (e' := [(4, .bool false)]) (by kernel_rfl) ?_
               refine Op.goto 55 (by kernel_rfl) ?_
               refine At.ret (f := Tryz.f8) (v := .bool false) (by kernel_rfl) (by kernel_rfl) ?_
               have s1307 : St h g (ids []) g1178 [] h1297 := (s1298).drop
               have s1308 : St h g (ids []) g [] h1297 := s1307.unfrz
               refine hR _ _ _ _ s1308 ⟨?_, rfl, rfl⟩
               exact (eqB (by exact absurd (rfin hT2 hRo (by omega) (by have hsm := (small (by assumption)).1; omega) hlast (by assumption) (by have hln := hT.len1; omega)).1 c1306))
         exact loop32 _ _ (gle.refl _) ns [] 0 _ _ (Nat.lt_succ_self _) (by omega) (by omega) (by exact hT.mono (by omega)) (by exact pn_end hT hpn (by assumption)) (by (have hln := hT.len; omega)) (by exact .inl rfl) o1021 s_loop231139
      exact loop23 _  0 _ (Nat.lt_succ_self _) (by omega) (by omega) (by exact fun n hn => absurd hn (by simp))  s1135
   exact loop15 _  ([⟨[47], [], 0, -1, 0, 0⟩]) 0 _ _ (Nat.lt_succ_self _) (by omega) (by omega) (by exact TreeOk.new) o1017 s1014
end Go.Proofs.YtmjebehhpojihaaGreatDoor.Sw
