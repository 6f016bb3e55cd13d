/- Lemmas for a law of this seat: what the functions compute, and plain facts of it. Own text. -/
import Derived.Test.YtmjebehhpojihaaGreatDoorTRightL
namespace Go.Proofs.YtmjebehhpojihaaGreatDoor.Sw
open Go
set_option maxRecDepth 100000
set_option linter.unusedVariables false
set_option linter.unusedSimpArgs false
set_option linter.deprecated false
theorem lawRight10 (B : World) (h : Heap) (g : GH) (hg : Sub g h) (hG : Glob g) (v_script : Value) (script : List L10Op) (h_script : SlR g 49 kL10Op v_script script) (hP : Pow10 g) (h1 : script.length ≤ 2000000) (hb : ∀ o ∈ script, o.Path.length ≤ 2000000 ∧ o.Data.length ≤ 2000000) :
  Spec Tryz.prog B 13 #[v_script] h g [] (fun rv g' L' => rv = .bool true ∧ g' = g ∧ L' = []) := by
 obtain ⟨a_script, n_script, rfl⟩ := h_script.form
 refine Spec.of_at (f := Tryz.f13) (e := [(0, .slice a_script script.length n_script)]) Tryz.func13 (by kernel_rfl) (Nat.le_of_ble_eq_true (by kernel_rfl)) (by kernel_rfl) (by kernel_rfl) ?_
 intro R hR
 have s0 := St.init hg
 refine At.reg (L := [(0, false)]) (by kernel_rfl) ?_
 refine Op.pures 1 [0] (L' := []) (e' := [(0, .slice a_script script.length n_script)]) (by kernel_rfl) ?_
 refine Op.goto 1 (by kernel_rfl) ?_
 refine At.reg (L := [(0, false), (1, false)]) (by kernel_rfl) ?_
 refine Op.call0 (dst := some 15) (f := 25) (args := #[]) (by kernel_rfl) s0 (alive10 _ _ _ s0.sub hG  hP ) ?_
 rintro _ g1003 _ h1001 hle1004 s1002 ⟨rfl, hgg, rfl⟩; subst g1003; clear hle1004
 refine Op.pures 1 [0, 16] (L' := []) (e' := [(0, .slice a_script script.length n_script), (16, .bool false)]) (by kernel_rfl) ?_
 refine Op.goto 2 (by kernel_rfl) ?_
 refine At.condF (c := .tmp 16) (by kernel_rfl) (by kernel_rfl) (by kernel_rfl) 5 (by kernel_rfl) ?_
 refine At.reg (L := [(0, false), (1, false)]) (by kernel_rfl) ?_
 refine Op.pures 1 [0, 17] (L' := [(1, false)]) (e' := [(0, .slice a_script script.length n_script), (17, .slice a_script script.length n_script)]) (by kernel_rfl) ?_
 refine Op.call0 (dst := some 18) (f := 26) (args := #[.slice a_script script.length n_script]) (by kernel_rfl) s1002 (great10 _ _ _ s1002.sub hG _ _ h_script (by ((try dsimp only) <;> (omega))) (by ((try dsimp only) <;> (omega))) ) ?_
 rintro _ g1007 _ h1005 hle1008 s1006 ⟨rfl, hgg, rfl⟩; subst g1007; clear hle1008
 refine Op.goto 6 (by kernel_rfl) ?_
 refine At.cond (b := greatB script) (c := .tmp 18) (by kernel_rfl) (by kernel_rfl) (by kernel_rfl) 7 9 (by kernel_rfl) (by kernel_rfl) (fun hb => ?_) (fun hb => ?_)
 ·have c1009 : (greatB script) = true := hb
  clear hb
  refine At.keep [] ?_; show At _ _ _ [] _
  refine At.reg (L := [(0, false)]) (by kernel_rfl) ?_
  refine Op.pures 1 [2] (L' := []) (e' := [(2, .bool true)]) (by kernel_rfl) ?_
  refine Op.goto 8 (by kernel_rfl) ?_
  refine At.ret (f := Tryz.f13) (v := .bool true) (by kernel_rfl) (by kernel_rfl) ?_
  refine hR _ _ _ _ s1006 ⟨?_, rfl, rfl⟩
  exact (eqB (by rfl))
 ·have c1010 : (greatB script) = false := hb
  clear hb
  refine At.keep [0] ?_; show At _ _ _ [(0, .slice a_script script.length n_script)] _
  refine At.reg (L := [(0, false), (1, false)]) (by kernel_rfl) ?_
  refine Op.call0 (dst := some 19) (f := 27) (args := #[]) (by kernel_rfl) s1006 (newT _ _ _ s1006.sub hG   ) ?_
  rintro _ g1016 _ h1011 hle1017 s1012 ⟨b1013, c1014, rfl, o1015, hgg, rfl⟩; subst g1016; clear hle1017
  refine Op.pures 1 [0, 3] (L' := []) (e' := [(0, .slice a_script script.length n_script), (3, .pointer (some ⟨b1013, 0, none⟩))]) (by kernel_rfl) ?_
  refine Op.goto 10 (by kernel_rfl) ?_
  refine At.reg (L := [(0, false), (1, false)]) (by kernel_rfl) ?_
  refine Op.call0 (dst := some 20) (f := 27) (args := #[]) (by kernel_rfl) s1012 (newT _ _ _ s1012.sub hG   ) ?_
  rintro _ g1023 _ h1018 hle1024 s1019 ⟨b1020, c1021, rfl, o1022, hgg, rfl⟩; subst g1023; clear hle1024
  refine Op.pures 1 [0, 3, 4] (L' := []) (e' := [(0, .slice a_script script.length n_script), (3, .pointer (some ⟨b1013, 0, none⟩)), (4, .pointer (some ⟨b1020, 0, none⟩))]) (by kernel_rfl) ?_
  refine Op.goto 11 (by kernel_rfl) ?_
  refine At.reg (L := [(0, false), (1, false), (2, false), (3, false), (4, false), (5, false)]) (by kernel_rfl) ?_
  refine Op.pures 6 [0, 3, 4, 26] (L' := []) (e' := [(0, .slice a_script script.length n_script), (3, .pointer (some ⟨b1013, 0, none⟩)), (4, .pointer (some ⟨b1020, 0, none⟩)), (26, .bool false)]) (by kernel_rfl) ?_
  refine Op.goto 12 (by kernel_rfl) ?_
  refine At.condF (c := .tmp 26) (by kernel_rfl) (by kernel_rfl) (by kernel_rfl) 15 (by kernel_rfl) ?_
  refine At.reg (L := [(0, false)]) (by kernel_rfl) ?_
  refine Op.pures 1 [0, 3, 4, 5] (L' := []) (e' := [(0, .slice a_script script.length n_script), (3, .pointer (some ⟨b1013, 0, none⟩)), (4, .pointer (some ⟨b1020, 0, none⟩)), (5, .int .i64 0)]) (by kernel_rfl) ?_
  refine Op.goto 16 (by kernel_rfl) ?_
  have loop16 : ∀ (m : Nat) (ns : List Leaf) (i : Int) (c1025 : Chunk) (h1027 : Heap) (hm : script.length - i.toNat < m) (h0 : 0 ≤ i) (h3 : i ≤ script.length) (hT : TreeOk i ns)  (o1026 : IsTree g b1013 ns c1025)   (s_loop161026 : St h g (ids []) g [c1021, c1025] h1027), At (fctx Tryz.prog B 13 Tryz.f13 R) [] 16 [(0, .slice a_script script.length n_script), (3, .pointer (some ⟨b1013, 0, none⟩)), (4, .pointer (some ⟨b1020, 0, none⟩)), (5, .int .i64 i)] h1027 := by
   intro m; induction m with
   | zero => intros; omega
   | succ m ih16 =>
    intro ns i c1025 h1027 hm h0 h3 hT o1026 s_loop161026
    refine At.reg (L := [(0, false), (1, false), (2, false), (3, false)]) (by kernel_rfl) ?_
    refine Op.pures 4 [0, 3, 4, 5, 30] (L' := []) (e' := [(0, .slice a_script script.length n_script), (3, .pointer (some ⟨b1013, 0, none⟩)), (4, .pointer (some ⟨b1020, 0, none⟩)), (5, .int .i64 i), (30, .bool (decide (i < (script.length : Int))))]) (by kernel_rfl) ?_
    refine Op.goto 17 (by kernel_rfl) ?_
    refine At.cond (b := decide (i < (script.length : Int))) (c := .tmp 30) (by kernel_rfl) (by kernel_rfl) (by kernel_rfl) 18 30 (by kernel_rfl) (by kernel_rfl) (fun hb => ?_) (fun hb => ?_)
    ·have c1028 : i < (script.length : Int) := of_decide_eq_true hb
     clear hb
     refine At.keep [0, 3, 4, 5] ?_; show At _ _ _ [(0, .slice a_script script.length n_script), (3, .pointer (some ⟨b1013, 0, none⟩)), (4, .pointer (some ⟨b1020, 0, none⟩)), (5, .int .i64 i)] _
     refine At.reg (L := [(0, false), (1, false), (2, false), (3, false), (4, false), (5, false)]) (by kernel_rfl) ?_
     refine Op.pures 2 [0, 3, 4, 5, 33, 34] (L' := [(2, false), (3, false), (4, false), (5, false)]) (e' := [(0, .slice a_script script.length n_script), (3, .pointer (some ⟨b1013, 0, none⟩)), (4, .pointer (some ⟨b1020, 0, none⟩)), (5, .int .i64 i), (33, .slice a_script script.length n_script), (34, .int .i64 i)]) (by kernel_rfl) ?_
     obtain ⟨x1029, hx1030⟩ : ∃ c, script[(i : Int).toNat]? = some c := ⟨_, List.getElem?_eq_getElem (by omega)⟩
     obtain ⟨b1031, o1032, cu1033, fz1034, ha1035, hb1036, hk1037⟩ := SlR.at_ h_script _ hx1030
     cases ha1035
     refine Op.idx (T := 43) (E := 49) (sz := 7) (by_ := 80) (n := script.length) (c := n_script) (k := .i64) (x := (.tmp 33)) (ix := (.tmp 34)) (dst := 35) (bk := b1031) (o := o1032) (m := i) (by kernel_rfl) (by kernel_rfl) (by kernel_rfl) (by kernel_rfl) (by omega) (by omega) ?_
     obtain ⟨v1038, hv1039, hk1037⟩ := hk1037
     obtain ⟨a1040, n1041, rfl⟩ := hv1039.form
     refine Op.loadA (T := 49) (x := (.tmp 35)) (o := o1032 + (i : Int).toNat * 7) (d := 36) (n := 7) (vs := [.int .i64 x1029.What, .int .i64 x1029.Owner, .int .i64 x1029.Born, .int .i64 x1029.N, .string (mkS x1029.Path), .slice a1040 x1029.Data.length n1041, .bool x1029.Numbered]) (by kernel_rfl) (by kernel_rfl) (by kernel_rfl) (s_loop161026.sub _ _ hb1036) (hk1037) rfl ?_
     refine Op.alloc (T := 49) (dst := 6) (cs := #[.int .i64 0, .int .i64 0, .int .i64 0, .int .i64 0, .string (mkS []), .slice none 0 0, .bool false]) (by kernel_rfl) (by kernel_rfl) s_loop161026 ?_
     intro b1042 h1043 s1044
     refine Op.store (T := 49) (x := (.tmp 6)) (y := (.tmp 36)) (b := b1042) (o := 0) (vs := [.int .i64 x1029.What, .int .i64 x1029.Owner, .int .i64 x1029.Born, .int .i64 x1029.N, .string (mkS x1029.Path), .slice a1040 x1029.Data.length n1041, .bool x1029.Numbered]) (a? := true) (n := 7) (by kernel_rfl) (by kernel_rfl) (by kernel_rfl) (by kernel_rfl) rfl (by simp [Value.oneCell']) s1044 0 rfl (Nat.le_of_ble_eq_true (by kernel_rfl)) (cs := #[.int .i64 0, .int .i64 0, .int .i64 0, .int .i64 0, .string (mkS []), .slice none 0 0, .bool false]) (cs' := #[.int .i64 x1029.What, .int .i64 x1029.Owner, .int .i64 x1029.Born, .int .i64 x1029.N, .string (mkS x1029.Path), .slice a1040 x1029.Data.length n1041, .bool x1029.Numbered]) (by kernel_rfl) (fun _ => trivial) ?_
     intro h1045 s1046
     refine Op.goto 19 (by kernel_rfl) ?_
     refine At.reg (L := [(0, false), (1, false)]) (by kernel_rfl) ?_
     refine Op.pures 1 [0, 3, 4, 5, 6, 37] (L' := [(1, false)]) (e' := [(0, .slice (some ⟨b1031, o1032, none⟩) script.length n_script), (3, .pointer (some ⟨b1013, 0, none⟩)), (4, .pointer (some ⟨b1020, 0, none⟩)), (5, .int .i64 i), (6, .pointer (some ⟨b1042, 0, none⟩)), (37, .pointer (some ⟨b1042, 0, none⟩))]) (by kernel_rfl) ?_
     refine Op.load (T := 3) (x := (.tmp 37)) (o := 0) (d := 38) (n := 1) (v := .int .i64 x1029.What) (by kernel_rfl) (by kernel_rfl) (by kernel_rfl) (s1046.chunk 0 rfl) (by kernel_rfl) ?_
     refine Op.goto 20 (by kernel_rfl) ?_
     refine At.reg (L := [(0, false), (1, false)]) (by kernel_rfl) ?_
     refine Op.pures 2 [0, 3, 4, 5, 6, 38, 39] (L' := []) (e' := [(0, .slice (some ⟨b1031, o1032, none⟩) script.length n_script), (3, .pointer (some ⟨b1013, 0, none⟩)), (4, .pointer (some ⟨b1020, 0, none⟩)), (5, .int .i64 i), (6, .pointer (some ⟨b1042, 0, none⟩)), (38, .int .i64 x1029.What), (39, .bool (x1029.What == (1 : Int)))]) (by kernel_rfl) ?_
     refine Op.goto 21 (by kernel_rfl) ?_
     refine At.cond (b := x1029.What == (1 : Int)) (c := .tmp 39) (by kernel_rfl) (by kernel_rfl) (by kernel_rfl) 22 23 (by kernel_rfl) (by kernel_rfl) (fun hb => ?_) (fun hb => ?_)
     ·have c1047 : x1029.What = (1 : Int) := eq_of_beq hb
      clear hb
      refine At.keep [0, 3, 4, 5, 6] ?_; show At _ _ _ [(0, .slice (some ⟨b1031, o1032, none⟩) script.length n_script), (3, .pointer (some ⟨b1013, 0, none⟩)), (4, .pointer (some ⟨b1020, 0, none⟩)), (5, .int .i64 i), (6, .pointer (some ⟨b1042, 0, none⟩))] _
      refine At.draw (by kernel_rfl) (fun _ => False) [(0, true), (1, true), (3, true), (6, true), (8, true), (10, true), (2, true), (4, true), (7, true), (9, true), (11, true), (5, false), (1012, false), (12, false)] (by kernel_rfl) ?_
      refine Op.pures 6 [0, 3, 4, 5, 41, 42, 44, 47, 49, 51] (L' := [(2, true), (4, true), (7, true), (9, true), (11, true), (5, false), (1012, false), (12, false)]) (e' := [(0, .slice (some ⟨b1031, o1032, none⟩) script.length n_script), (3, .pointer (some ⟨b1013, 0, none⟩)), (4, .pointer (some ⟨b1020, 0, none⟩)), (5, .int .i64 i), (41, .pointer (some ⟨b1013, 0, none⟩)), (42, .pointer (some ⟨b1042, 4, none⟩)), (44, .pointer (some ⟨b1042, 5, none⟩)), (47, .pointer (some ⟨b1042, 1, none⟩)), (49, .pointer (some ⟨b1042, 2, none⟩)), (51, .pointer (some ⟨b1042, 6, none⟩))]) (by kernel_rfl) ?_
      refine Op.loadF (T := 9) (x := (.tmp 42)) (o := 4) (d := 43) (n := 1) (v := .string (mkS x1029.Path)) (by kernel_rfl) (by kernel_rfl) (by kernel_rfl) (fun h => h) (s1046.chunk 0 rfl) (by kernel_rfl) ?_
      refine Op.loadF (T := 29) (x := (.tmp 44)) (o := 5) (d := 45) (n := 1) (v := .slice a1040 x1029.Data.length n1041) (by kernel_rfl) (by kernel_rfl) (by kernel_rfl) (fun h => h) (s1046.chunk 0 rfl) (by kernel_rfl) ?_
      refine Op.loadF (T := 3) (x := (.tmp 47)) (o := 1) (d := 48) (n := 1) (v := .int .i64 x1029.Owner) (by kernel_rfl) (by kernel_rfl) (by kernel_rfl) (fun h => h) (s1046.chunk 0 rfl) (by kernel_rfl) ?_
      refine Op.loadF (T := 3) (x := (.tmp 49)) (o := 2) (d := 50) (n := 1) (v := .int .i64 x1029.Born) (by kernel_rfl) (by kernel_rfl) (by kernel_rfl) (fun h => h) (s1046.chunk 0 rfl) (by kernel_rfl) ?_
      refine Op.loadF (T := 4) (x := (.tmp 51)) (o := 6) (d := 52) (n := 1) (v := .bool x1029.Numbered) (by kernel_rfl) (by kernel_rfl) (by kernel_rfl) (fun h => h) (s1046.chunk 0 rfl) (by kernel_rfl) ?_
      refine Op.call0 (dst := some 46) (f := 29) (args := #[.slice a1040 x1029.Data.length n1041]) (by kernel_rfl) s1046 (copyBytes _ _ _ s1046.sub hG _ _ hv1039 (by ((try dsimp only) <;> ((have hbb := hb _ (List.mem_of_getElem? hx1030); omega)))) ) ?_
      rintro _ g1055 _ h1048 hle1056 s1049 ⟨v1050, ch1051, rfl, R1052, hgg, rfl⟩; subst g1055; clear hle1056
      obtain ⟨a1053, n1054, rfl⟩ := R1052.form
      refine Op.barrier (by kernel_rfl) ?_
      have s1057 : St h g (ids []) g [ch1051, c1025, [(b1042, Obj.cells #[.int .i64 x1029.What, .int .i64 x1029.Owner, .int .i64 x1029.Born, .int .i64 x1029.N, .string (mkS x1029.Path), .slice a1040 x1029.Data.length n1041, .bool x1029.Numbered] 49 (0, 0))], c1021] h1048 := ((((s1049.front 2 rfl).front 2 rfl).front 3 rfl).front 3 rfl)
      have hl1058 := s1057.frzle
      have hz1059 := R1052.frz s1057
      refine Op.lend (dst := some 53) (f := 28) (args := #[.pointer (some ⟨b1013, 0, none⟩), .string (mkS x1029.Path), .slice a1053 ((x1029.Data).length) n1054, .int .i64 x1029.Owner, .int .i64 x1029.Born, .bool x1029.Numbered]) (cf := (ch1051 : Chunk)) (Lc := [c1025]) (L := [[(b1042, Obj.cells #[.int .i64 x1029.What, .int .i64 x1029.Owner, .int .i64 x1029.Born, .int .i64 x1029.N, .string (mkS x1029.Path), .slice a1040 x1029.Data.length n1041, .bool x1029.Numbered] 49 (0, 0))], c1021]) (by kernel_rfl) s1057 (makeF _ _ _ s1057.frzsub (hG.mono hl1058) b1013 ns _ (o1026.mono hl1058) x1029.Path _ _ hz1059 x1029.Owner x1029.Born x1029.Numbered (hP.mono hl1058) (by ((try dsimp only) <;> (exact hT.b (by have hsm := (small (by assumption)).1; omega)))) (by ((try dsimp only) <;> ((have hbb := hb _ (List.mem_of_getElem? hx1030); omega)))) (by ((try dsimp only) <;> ((have hbb := hb _ (List.mem_of_getElem? hx1030); omega)))) (St.part (Lc := [c1025]) (L := [[(b1042, Obj.cells #[.int .i64 x1029.What, .int .i64 x1029.Owner, .int .i64 x1029.Born, .int .i64 x1029.N, .string (mkS x1029.Path), .slice a1040 x1029.Data.length n1041, .bool x1029.Numbered] 49 (0, 0))], c1021]) s1057.freeze.1)) (fun _ _ _ hp => by obtain ⟨_, _, _, hgg, _⟩ := hp; exact hgg) (fun _ _ _ => trivial) ?_
      rintro _ _ h1060 s1061 ⟨c1062, rfl, o1063, hgg, rfl⟩; clear hgg
      replace o1063 := o1063.flat (g' := g)
      refine Op.goto 29 (by kernel_rfl) ?_
      refine At.reg (L := [(0, false), (1, false), (2, false)]) (by kernel_rfl) ?_
      refine Op.pures 1 [0, 3, 4, 5, 31] (L' := [(1, false), (2, false)]) (e' := [(0, .slice (some ⟨b1031, o1032, none⟩) script.length n_script), (3, .pointer (some ⟨b1013, 0, none⟩)), (4, .pointer (some ⟨b1020, 0, none⟩)), (5, .int .i64 i), (31, .int .i64 i)]) (by kernel_rfl) ?_
      refine Op.val (dst := some 32) (v := .int .i64 (IntKind.wrap .i64 (i + 1))) (v' := .int .i64 (i + 1)) (by kernel_rfl) (wrapEq_i64 (by omega) (by omega)) ?_
      refine Op.pures 1 [0, 3, 4, 5] (L' := []) (e' := [(0, .slice (some ⟨b1031, o1032, none⟩) script.length n_script), (3, .pointer (some ⟨b1013, 0, none⟩)), (4, .pointer (some ⟨b1020, 0, none⟩)), (5, .int .i64 (i + 1))]) (by kernel_rfl) ?_
      refine Op.goto 16 (by kernel_rfl) ?_
      have s1066 : St h g (ids []) g [ch1051, [(b1042, Obj.cells #[.int .i64 x1029.What, .int .i64 x1029.Owner, .int .i64 x1029.Born, .int .i64 x1029.N, .string (mkS x1029.Path), .slice a1040 x1029.Data.length n1041, .bool x1029.Numbered] 49 (0, 0))], c1021, c1062] h1060 := ((((s1061.front 1 rfl).front 3 rfl).front 3 rfl).front 3 rfl)
      have s1067 : St h g (ids []) g [c1021, c1062] h1060 := (s1066).drop.drop
      exact ih16  ((makeT ns x1029.Path x1029.Data x1029.Owner x1029.Born x1029.Numbered).1) (i + 1) _ _ (by omega) (by omega) (by omega) (by exact hT.make (by have hsm := (small (by assumption)).1; omega) h0) o1063 s1067
     ·have c1068 : ¬ (x1029.What = (1 : Int)) := neF hb
      clear hb
      refine At.keep [0, 3, 4, 5, 6, 38] ?_; show At _ _ _ [(0, .slice (some ⟨b1031, o1032, none⟩) script.length n_script), (3, .pointer (some ⟨b1013, 0, none⟩)), (4, .pointer (some ⟨b1020, 0, none⟩)), (5, .int .i64 i), (6, .pointer (some ⟨b1042, 0, none⟩)), (38, .int .i64 x1029.What)] _
      refine At.reg (L := [(0, false), (1, false)]) (by kernel_rfl) ?_
      refine Op.pures 2 [0, 3, 4, 5, 6, 38, 54] (L' := []) (e' := [(0, .slice (some ⟨b1031, o1032, none⟩) script.length n_script), (3, .pointer (some ⟨b1013, 0, none⟩)), (4, .pointer (some ⟨b1020, 0, none⟩)), (5, .int .i64 i), (6, .pointer (some ⟨b1042, 0, none⟩)), (38, .int .i64 x1029.What), (54, .bool (x1029.What == (2 : Int)))]) (by kernel_rfl) ?_
      refine Op.goto 24 (by kernel_rfl) ?_
      refine At.cond (b := x1029.What == (2 : Int)) (c := .tmp 54) (by kernel_rfl) (by kernel_rfl) (by kernel_rfl) 25 26 (by kernel_rfl) (by kernel_rfl) (fun hb => ?_) (fun hb => ?_)
      ·have c1069 : x1029.What = (2 : Int) := eq_of_beq hb
       clear hb
       refine At.keep [0, 3, 4, 5, 6] ?_; show At _ _ _ [(0, .slice (some ⟨b1031, o1032, none⟩) script.length n_script), (3, .pointer (some ⟨b1013, 0, none⟩)), (4, .pointer (some ⟨b1020, 0, none⟩)), (5, .int .i64 i), (6, .pointer (some ⟨b1042, 0, none⟩))] _
       refine At.reg (L := [(0, false), (1, false), (2, false), (3, false), (4, false), (5, false)]) (by kernel_rfl) ?_
       refine Op.pures 2 [0, 3, 4, 5, 6, 56, 57] (L' := [(2, false), (3, false), (4, false), (5, false)]) (e' := [(0, .slice (some ⟨b1031, o1032, none⟩) script.length n_script), (3, .pointer (some ⟨b1013, 0, none⟩)), (4, .pointer (some ⟨b1020, 0, none⟩)), (5, .int .i64 i), (6, .pointer (some ⟨b1042, 0, none⟩)), (56, .pointer (some ⟨b1013, 0, none⟩)), (57, .pointer (some ⟨b1042, 4, none⟩))]) (by kernel_rfl) ?_
       refine Op.load (T := 9) (x := (.tmp 57)) (o := 4) (d := 58) (n := 1) (v := .string (mkS x1029.Path)) (by kernel_rfl) (by kernel_rfl) (by kernel_rfl) (s1046.chunk 0 rfl) (by kernel_rfl) ?_
       refine Op.pures 1 [0, 3, 4, 5, 56, 58, 59] (L' := [(4, false), (5, false)]) (e' := [(0, .slice (some ⟨b1031, o1032, none⟩) script.length n_script), (3, .pointer (some ⟨b1013, 0, none⟩)), (4, .pointer (some ⟨b1020, 0, none⟩)), (5, .int .i64 i), (56, .pointer (some ⟨b1013, 0, none⟩)), (58, .string (mkS x1029.Path)), (59, .pointer (some ⟨b1042, 3, none⟩))]) (by kernel_rfl) ?_
       refine Op.load (T := 3) (x := (.tmp 59)) (o := 3) (d := 60) (n := 1) (v := .int .i64 x1029.N) (by kernel_rfl) (by kernel_rfl) (by kernel_rfl) (s1046.chunk 0 rfl) (by kernel_rfl) ?_
       have s1070 : St h g (ids []) g [c1025, [(b1042, Obj.cells #[.int .i64 x1029.What, .int .i64 x1029.Owner, .int .i64 x1029.Born, .int .i64 x1029.N, .string (mkS x1029.Path), .slice a1040 x1029.Data.length n1041, .bool x1029.Numbered] 49 (0, 0))], c1021] h1045 := (((s1046.front 1 rfl).front 1 rfl).front 2 rfl)
       refine Op.call (dst := some 61) (f := 33) (args := #[.pointer (some ⟨b1013, 0, none⟩), .string (mkS x1029.Path), .int .i64 x1029.N]) (Lc := [c1025]) (L := [[(b1042, Obj.cells #[.int .i64 x1029.What, .int .i64 x1029.Owner, .int .i64 x1029.Born, .int .i64 x1029.N, .string (mkS x1029.Path), .slice a1040 x1029.Data.length n1041, .bool x1029.Numbered] 49 (0, 0))], c1021]) (by kernel_rfl) s1070 (dropF _ _ _ s1070.sub hG b1013 ns _ o1026 x1029.Path x1029.N (by ((try dsimp only) <;> (exact hT.b (by have hsm := (small (by assumption)).1; omega)))) (by ((try dsimp only) <;> ((have hbb := hb _ (List.mem_of_getElem? hx1030); omega)))) (St.part (Lc := [c1025]) (L := [[(b1042, Obj.cells #[.int .i64 x1029.What, .int .i64 x1029.Owner, .int .i64 x1029.Born, .int .i64 x1029.N, .string (mkS x1029.Path), .slice a1040 x1029.Data.length n1041, .bool x1029.Numbered] 49 (0, 0))], c1021]) s1070)) (fun _ _ _ => trivial) ?_
       rintro _ g1075 _ h1071 hle1076 s1072 ⟨c1073, rfl, o1074, hgg, rfl⟩; subst g1075; clear hle1076
       refine Op.goto 29 (by kernel_rfl) ?_
       refine At.reg (L := [(0, false), (1, false), (2, false)]) (by kernel_rfl) ?_
       refine Op.pures 1 [0, 3, 4, 5, 31] (L' := [(1, false), (2, false)]) (e' := [(0, .slice (some ⟨b1031, o1032, none⟩) script.length n_script), (3, .pointer (some ⟨b1013, 0, none⟩)), (4, .pointer (some ⟨b1020, 0, none⟩)), (5, .int .i64 i), (31, .int .i64 i)]) (by kernel_rfl) ?_
       refine Op.val (dst := some 32) (v := .int .i64 (IntKind.wrap .i64 (i + 1))) (v' := .int .i64 (i + 1)) (by kernel_rfl) (wrapEq_i64 (by omega) (by omega)) ?_
       refine Op.pures 1 [0, 3, 4, 5] (L' := []) (e' := [(0, .slice (some ⟨b1031, o1032, none⟩) script.length n_script), (3, .pointer (some ⟨b1013, 0, none⟩)), (4, .pointer (some ⟨b1020, 0, none⟩)), (5, .int .i64 (i + 1))]) (by kernel_rfl) ?_
       refine Op.goto 16 (by kernel_rfl) ?_
       have s1077 : St h g (ids []) g [[(b1042, Obj.cells #[.int .i64 x1029.What, .int .i64 x1029.Owner, .int .i64 x1029.Born, .int .i64 x1029.N, .string (mkS x1029.Path), .slice a1040 x1029.Data.length n1041, .bool x1029.Numbered] 49 (0, 0))], c1021, c1073] h1071 := (((s1072.front 0 rfl).front 2 rfl).front 2 rfl)
       have s1078 : St h g (ids []) g [c1021, c1073] h1071 := (s1077).drop
       exact ih16  ((dropT ns x1029.Path x1029.N).1) (i + 1) _ _ (by omega) (by omega) (by omega) (by exact hT.drop.mono (by omega)) o1074 s1078
      ·have c1079 : ¬ (x1029.What = (2 : Int)) := neF hb
       clear hb
       refine At.keep [0, 3, 4, 5, 6, 38] ?_; show At _ _ _ [(0, .slice (some ⟨b1031, o1032, none⟩) script.length n_script), (3, .pointer (some ⟨b1013, 0, none⟩)), (4, .pointer (some ⟨b1020, 0, none⟩)), (5, .int .i64 i), (6, .pointer (some ⟨b1042, 0, none⟩)), (38, .int .i64 x1029.What)] _
       refine At.reg (L := [(0, false), (1, false)]) (by kernel_rfl) ?_
       refine Op.pures 2 [0, 3, 4, 5, 6, 62] (L' := []) (e' := [(0, .slice (some ⟨b1031, o1032, none⟩) script.length n_script), (3, .pointer (some ⟨b1013, 0, none⟩)), (4, .pointer (some ⟨b1020, 0, none⟩)), (5, .int .i64 i), (6, .pointer (some ⟨b1042, 0, none⟩)), (62, .bool (x1029.What == (3 : Int)))]) (by kernel_rfl) ?_
       refine Op.goto 27 (by kernel_rfl) ?_
       refine At.cond (b := x1029.What == (3 : Int)) (c := .tmp 62) (by kernel_rfl) (by kernel_rfl) (by kernel_rfl) 28 29 (by kernel_rfl) (by kernel_rfl) (fun hb => ?_) (fun hb => ?_)
       ·have c1080 : x1029.What = (3 : Int) := eq_of_beq hb
        clear hb
        refine At.keep [0, 3, 4, 5, 6] ?_; show At _ _ _ [(0, .slice (some ⟨b1031, o1032, none⟩) script.length n_script), (3, .pointer (some ⟨b1013, 0, none⟩)), (4, .pointer (some ⟨b1020, 0, none⟩)), (5, .int .i64 i), (6, .pointer (some ⟨b1042, 0, none⟩))] _
        refine At.draw (by kernel_rfl) (fun _ => False) [(0, true), (1, true), (3, true), (6, true), (2, true), (4, true), (7, true), (5, false), (1008, false), (8, false)] (by kernel_rfl) ?_
        refine Op.pures 4 [0, 3, 4, 5, 64, 65, 67, 70] (L' := [(2, true), (4, true), (7, true), (5, false), (1008, false), (8, false)]) (e' := [(0, .slice (some ⟨b1031, o1032, none⟩) script.length n_script), (3, .pointer (some ⟨b1013, 0, none⟩)), (4, .pointer (some ⟨b1020, 0, none⟩)), (5, .int .i64 i), (64, .pointer (some ⟨b1013, 0, none⟩)), (65, .pointer (some ⟨b1042, 4, none⟩)), (67, .pointer (some ⟨b1042, 5, none⟩)), (70, .pointer (some ⟨b1042, 3, none⟩))]) (by kernel_rfl) ?_
        refine Op.loadF (T := 9) (x := (.tmp 65)) (o := 4) (d := 66) (n := 1) (v := .string (mkS x1029.Path)) (by kernel_rfl) (by kernel_rfl) (by kernel_rfl) (fun h => h) (s1046.chunk 0 rfl) (by kernel_rfl) ?_
        refine Op.loadF (T := 29) (x := (.tmp 67)) (o := 5) (d := 68) (n := 1) (v := .slice a1040 x1029.Data.length n1041) (by kernel_rfl) (by kernel_rfl) (by kernel_rfl) (fun h => h) (s1046.chunk 0 rfl) (by kernel_rfl) ?_
        refine Op.loadF (T := 3) (x := (.tmp 70)) (o := 3) (d := 71) (n := 1) (v := .int .i64 x1029.N) (by kernel_rfl) (by kernel_rfl) (by kernel_rfl) (fun h => h) (s1046.chunk 0 rfl) (by kernel_rfl) ?_
        refine Op.call0 (dst := some 69) (f := 29) (args := #[.slice a1040 x1029.Data.length n1041]) (by kernel_rfl) s1046 (copyBytes _ _ _ s1046.sub hG _ _ hv1039 (by ((try dsimp only) <;> ((have hbb := hb _ (List.mem_of_getElem? hx1030); omega)))) ) ?_
        rintro _ g1088 _ h1081 hle1089 s1082 ⟨v1083, ch1084, rfl, R1085, hgg, rfl⟩; subst g1088; clear hle1089
        obtain ⟨a1086, n1087, rfl⟩ := R1085.form
        refine Op.barrier (by kernel_rfl) ?_
        have s1090 : St h g (ids []) g [ch1084, c1025, [(b1042, Obj.cells #[.int .i64 x1029.What, .int .i64 x1029.Owner, .int .i64 x1029.Born, .int .i64 x1029.N, .string (mkS x1029.Path), .slice a1040 x1029.Data.length n1041, .bool x1029.Numbered] 49 (0, 0))], c1021] h1081 := ((((s1082.front 2 rfl).front 2 rfl).front 3 rfl).front 3 rfl)
        have hl1091 := s1090.frzle
        have hz1092 := R1085.frz s1090
        refine Op.lend (dst := some 72) (f := 41) (args := #[.pointer (some ⟨b1013, 0, none⟩), .string (mkS x1029.Path), .slice a1086 ((x1029.Data).length) n1087, .int .i64 x1029.N]) (cf := (ch1084 : Chunk)) (Lc := [c1025]) (L := [[(b1042, Obj.cells #[.int .i64 x1029.What, .int .i64 x1029.Owner, .int .i64 x1029.Born, .int .i64 x1029.N, .string (mkS x1029.Path), .slice a1040 x1029.Data.length n1041, .bool x1029.Numbered] 49 (0, 0))], c1021]) (by kernel_rfl) s1090 (setF _ _ _ s1090.frzsub (hG.mono hl1091) b1013 ns _ (o1026.mono hl1091) x1029.Path _ _ hz1092 x1029.N (by ((try dsimp only) <;> (exact hT.b (by have hsm := (small (by assumption)).1; omega)))) (by ((try dsimp only) <;> ((have hbb := hb _ (List.mem_of_getElem? hx1030); omega)))) (by ((try dsimp only) <;> ((have hbb := hb _ (List.mem_of_getElem? hx1030); omega)))) (St.part (Lc := [c1025]) (L := [[(b1042, Obj.cells #[.int .i64 x1029.What, .int .i64 x1029.Owner, .int .i64 x1029.Born, .int .i64 x1029.N, .string (mkS x1029.Path), .slice a1040 x1029.Data.length n1041, .bool x1029.Numbered] 49 (0, 0))], c1021]) s1090.freeze.1)) (fun _ _ _ hp => by obtain ⟨_, _, _, hgg, _⟩ := hp; exact hgg) (fun _ _ _ => trivial) ?_
        rintro _ _ h1093 s1094 ⟨c1095, rfl, o1096, hgg, rfl⟩; clear hgg
        replace o1096 := o1096.flat (g' := g)
        refine Op.goto 29 (by kernel_rfl) ?_
        refine At.reg (L := [(0, false), (1, false), (2, false)]) (by kernel_rfl) ?_
        refine Op.pures 1 [0, 3, 4, 5, 31] (L' := [(1, false), (2, false)]) (e' := [(0, .slice (some ⟨b1031, o1032, none⟩) script.length n_script), (3, .pointer (some ⟨b1013, 0, none⟩)), (4, .pointer (some ⟨b1020, 0, none⟩)), (5, .int .i64 i), (31, .int .i64 i)]) (by kernel_rfl) ?_
        refine Op.val (dst := some 32) (v := .int .i64 (IntKind.wrap .i64 (i + 1))) (v' := .int .i64 (i + 1)) (by kernel_rfl) (wrapEq_i64 (by omega) (by omega)) ?_
        refine Op.pures 1 [0, 3, 4, 5] (L' := []) (e' := [(0, .slice (some ⟨b1031, o1032, none⟩) script.length n_script), (3, .pointer (some ⟨b1013, 0, none⟩)), (4, .pointer (some ⟨b1020, 0, none⟩)), (5, .int .i64 (i + 1))]) (by kernel_rfl) ?_
        refine Op.goto 16 (by kernel_rfl) ?_
        have s1099 : St h g (ids []) g [ch1084, [(b1042, Obj.cells #[.int .i64 x1029.What, .int .i64 x1029.Owner, .int .i64 x1029.Born, .int .i64 x1029.N, .string (mkS x1029.Path), .slice a1040 x1029.Data.length n1041, .bool x1029.Numbered] 49 (0, 0))], c1021, c1095] h1093 := ((((s1094.front 1 rfl).front 3 rfl).front 3 rfl).front 3 rfl)
        have s1100 : St h g (ids []) g [c1021, c1095] h1093 := (s1099).drop.drop
        exact ih16  ((setT ns x1029.Path x1029.Data x1029.N).1) (i + 1) _ _ (by omega) (by omega) (by omega) (by exact hT.set (by have hsm := (small (by assumption)).1; omega)) o1096 s1100
       ·have c1101 : ¬ (x1029.What = (3 : Int)) := neF hb
        clear hb
        refine At.keep [0, 3, 4, 5] ?_; show At _ _ _ [(0, .slice (some ⟨b1031, o1032, none⟩) script.length n_script), (3, .pointer (some ⟨b1013, 0, none⟩)), (4, .pointer (some ⟨b1020, 0, none⟩)), (5, .int .i64 i)] _
        refine At.reg (L := [(0, false), (1, false), (2, false)]) (by kernel_rfl) ?_
        refine Op.pures 1 [0, 3, 4, 5, 31] (L' := [(1, false), (2, false)]) (e' := [(0, .slice (some ⟨b1031, o1032, none⟩) script.length n_script), (3, .pointer (some ⟨b1013, 0, none⟩)), (4, .pointer (some ⟨b1020, 0, none⟩)), (5, .int .i64 i), (31, .int .i64 i)]) (by kernel_rfl) ?_
        refine Op.val (dst := some 32) (v := .int .i64 (IntKind.wrap .i64 (i + 1))) (v' := .int .i64 (i + 1)) (by kernel_rfl) (wrapEq_i64 (by omega) (by omega)) ?_
        refine Op.pures 1 [0, 3, 4, 5] (L' := []) (e' := [(0, .slice (some ⟨b1031, o1032, none⟩) script.length n_script), (3, .pointer (some ⟨b1013, 0, none⟩)), (4, .pointer (some ⟨b1020, 0, none⟩)), (5, .int .i64 (i + 1))]) (by kernel_rfl) ?_
        refine Op.goto 16 (by kernel_rfl) ?_
        have s1102 : St h g (ids []) g [c1021, c1025] h1045 := (s1046).drop
        exact ih16  ns (i + 1) _ _ (by omega) (by omega) (by omega) (by exact hT.mono (by omega)) o1026 s1102
    ·have c1103 : ¬ (i < (script.length : Int)) := of_decide_eq_false hb
     clear hb
     refine At.keep [3, 4] ?_; show At _ _ _ [(3, .pointer (some ⟨b1013, 0, none⟩)), (4, .pointer (some ⟨b1020, 0, none⟩))] _
     refine At.reg (L := [(0, false), (1, false), (2, false)]) (by kernel_rfl) ?_
     refine Op.pures 1 [3, 4, 73] (L' := [(1, false), (2, false)]) (e' := [(3, .pointer (some ⟨b1013, 0, none⟩)), (4, .pointer (some ⟨b1020, 0, none⟩)), (73, .pointer (some ⟨b1013, 0, none⟩))]) (by kernel_rfl) ?_
     have s1104 : St h g (ids []) g [c1025, c1021] h1027 := ((s_loop161026.front 0 rfl).front 1 rfl)
     have hl1105 := s1104.frzle
     have hz1106 := IsTree.frz o1026 s1104 (by intro p hp; simp only [List.mem_append, hp, true_or, or_true])
     refine Op.lend (dst := some 74) (f := 30) (args := #[.pointer (some ⟨b1013, 0, none⟩)]) (cf := (c1025 : Chunk)) (Lc := []) (L := [c1021]) (by kernel_rfl) s1104 (allF _ _ _ s1104.frzsub (hG.mono hl1105) b1013 ns hz1106 (by ((try dsimp only) <;> (exact hT.b (by have hsm := (small (by assumption)).1; omega)))) ) (fun _ _ _ hp => by obtain ⟨_, _, _, _, _, hgg, _⟩ := hp; exact hgg) (fun _ _ h => absurd h (ids_nil _)) ?_
     rintro _ _ h1107 s1108 ⟨v1109, ch1110, dc1111, rfl, R1112, hgg, rfl⟩; clear hgg
     have s1115 : St h g (ids []) g [ch1110, dc1111, c1025, c1021] h1107 := (((s1108.front 0 rfl).front 2 rfl).front 2 rfl)
     obtain ⟨g1116, s1117, hle1118, hf1119⟩ := Deep.freeze R1112 s1115
     replace hG := hG.mono hle1118
     replace hP := hP.mono hle1118
     replace o1022 := o1022.mono hle1118
     replace o1026 := o1026.mono hle1118
     obtain ⟨a1120, n1121, rfl⟩ := hf1119.form
     refine Op.pures 1 [3, 4, 7] (L' := []) (e' := [(3, .pointer (some ⟨b1013, 0, none⟩)), (4, .pointer (some ⟨b1020, 0, none⟩)), (7, .slice a1120 ((ns).length) n1121)]) (by kernel_rfl) ?_
     refine Op.goto 31 (by kernel_rfl) ?_
     refine At.reg (L := [(0, false), (1, false), (2, false), (3, false), (4, false), (5, false), (6, false), (7, false), (8, false), (9, false), (10, false), (11, false), (12, false), (13, false), (14, false), (15, false), (16, false), (17, false), (18, false), (19, false), (20, false), (21, false)]) (by kernel_rfl) ?_
     refine Op.pures 2 [3, 4, 7, 75, 76] (L' := [(2, false), (3, false), (4, false), (5, false), (6, false), (7, false), (8, false), (9, false), (10, false), (11, false), (12, false), (13, false), (14, false), (15, false), (16, false), (17, false), (18, false), (19, false), (20, false), (21, false)]) (e' := [(3, .pointer (some ⟨b1013, 0, none⟩)), (4, .pointer (some ⟨b1020, 0, none⟩)), (7, .slice a1120 ((ns).length) n1121), (75, .pointer (some ⟨b1020, 0, none⟩)), (76, .slice a1120 ((ns).length) n1121)]) (by kernel_rfl) ?_
     refine Op.call0 (dst := some 77) (f := 51) (args := #[.slice a1120 ((ns).length) n1121]) (by kernel_rfl) s1117 (copyLeaves _ _ _ s1117.sub hG _ _ hf1119 (by ((try dsimp only) <;> ((have hln := hT.len; omega)))) (by ((try dsimp only) <;> (exact fun n hn => by have := (hT.node n hn).2.1; omega))) ) ?_
     rintro _ g1128 _ h1122 hle1129 s1123 ⟨v1124, rfl, hr1125, rfl⟩
     obtain ⟨a1126, n1127, rfl⟩ := hr1125.form
     replace hG := hG.mono hle1129
     replace hP := hP.mono hle1129
     replace hf1119 := hf1119.mono hle1129
     replace o1022 := o1022.mono hle1129
     replace o1026 := o1026.mono hle1129
     have s1130 : St h g (ids []) g1128 [c1021, c1025] h1122 := ((s1123.front 0 rfl).front 1 rfl)
     refine Op.call (dst := some 78) (f := 52) (args := #[.pointer (some ⟨b1020, 0, none⟩), .slice a1126 ((ns).length) n1127]) (Lc := [c1021]) (L := [c1025]) (by kernel_rfl) s1130 (loadF _ _ _ s1130.sub hG b1020 ([⟨[47], [], 0, -1, 0, 0⟩]) _ o1022 _ _ hr1125 (by ((try dsimp only) <;> ((have hln := hT.len; omega)))) (by ((try dsimp only) <;> ((intro n hn; have h9 := (hT.node n hn).2.1; have h8 := pOk_len (hT.node n hn).1; exact ⟨by omega, by omega⟩)))) (St.part (Lc := [c1021]) (L := [c1025]) s1130)) (fun _ _ _ => trivial) ?_
     rintro _ g1135 _ h1131 hle1136 s1132 ⟨c1133, rfl, o1134, hgg, rfl⟩; subst g1135; clear hle1136
     refine Op.pures 2 [3, 4, 7, 80] (L' := [(6, false), (7, false), (8, false), (9, false), (10, false), (11, false), (12, false), (13, false), (14, false), (15, false), (16, false), (17, false), (18, false), (19, false), (20, false), (21, false)]) (e' := [(3, .pointer (some ⟨b1013, 0, none⟩)), (4, .pointer (some ⟨b1020, 0, none⟩)), (7, .slice a1120 ((ns).length) n1121), (80, .bool (!(loadB ns)))]) (by kernel_rfl) ?_
     refine Op.ways (b := !(loadB ns)) ⟨fun hb => ?_, fun hb => ?_⟩
     ·refine Op.cast (e' := [(3, .pointer (some ⟨b1013, 0, none⟩)), (4, .pointer (some ⟨b1020, 0, none⟩)), (7, .slice a1120 ((ns).length) n1121), (80, .bool true)]) (by rw [hb]) ?_
      have c1137 : (loadB ns) = false := (notT hb)
      clear hb
      refine Op.pures 16 [3, 7, 96] (L' := []) (e' := [(3, .pointer (some ⟨b1013, 0, none⟩)), (7, .slice a1120 ((ns).length) n1121), (96, .bool true)]) (by kernel_rfl) ?_
      refine Op.goto 32 (by kernel_rfl) ?_
      refine At.condT (c := .tmp 96) (by kernel_rfl) (by kernel_rfl) (by kernel_rfl) 33 (by kernel_rfl) ?_
      refine At.reg (L := [(0, false)]) (by kernel_rfl) ?_
      refine Op.pures 1 [2] (L' := []) (e' := [(2, .bool false)]) (by kernel_rfl) ?_
      refine Op.goto 34 (by kernel_rfl) ?_
      refine At.ret (f := Tryz.f13) (v := .bool false) (by kernel_rfl) (by kernel_rfl) ?_
      have s1138 : St h g (ids []) g1128 [] h1131 := (s1132).drop.drop
      have s1139 : St h g (ids []) g [] h1131 := s1138.unfrz
      refine hR _ _ _ _ s1139 ⟨?_, rfl, rfl⟩
      exact (eqB (by exact absurd hT.loads (Bool.eq_false_iff.1 c1137)))
     ·refine Op.cast (e' := [(3, .pointer (some ⟨b1013, 0, none⟩)), (4, .pointer (some ⟨b1020, 0, none⟩)), (7, .slice a1120 ((ns).length) n1121), (80, .bool false)]) (by rw [hb]) ?_
      have c1140 : (loadB ns) = true := (notF hb)
      clear hb
      refine Op.pures 1 [3, 7, 80, 81] (L' := [(7, false), (8, false), (9, false), (10, false), (11, false), (12, false), (13, false), (14, false), (15, false), (16, false), (17, false), (18, false), (19, false), (20, false), (21, false)]) (e' := [(3, .pointer (some ⟨b1013, 0, none⟩)), (7, .slice a1120 ((ns).length) n1121), (80, .bool false), (81, .pointer (some ⟨b1020, 0, none⟩))]) (by kernel_rfl) ?_
      have hl1141 := s1132.frzle
      have hz1142 := IsTree.frz o1134 s1132 (by intro p hp; simp only [List.mem_append, hp, true_or, or_true])
      refine Op.lend (dst := some 82) (f := 30) (args := #[.pointer (some ⟨b1020, 0, none⟩)]) (cf := (c1133 : Chunk)) (Lc := []) (L := [c1025]) (by kernel_rfl) s1132 (allF _ _ _ s1132.frzsub (hG.mono hl1141) b1020 (if loadB ns = true then ns else ([⟨[47], [], 0, -1, 0, 0⟩])) hz1142 (by ((try dsimp only) <;> ((rw [if_pos hT.loads]; exact hT.b (by have hsm := (small (by assumption)).1; omega))))) ) (fun _ _ _ hp => by obtain ⟨_, _, _, _, _, hgg, _⟩ := hp; exact hgg) (fun _ _ h => absurd h (ids_nil _)) ?_
      rintro _ _ h1143 s1144 ⟨v1145, ch1146, dc1147, rfl, R1148, hgg, rfl⟩; clear hgg
      have s1151 : St h g (ids []) g1128 [ch1146, dc1147, c1133, c1025] h1143 := (((s1144.front 0 rfl).front 2 rfl).front 2 rfl)
      obtain ⟨g1152, s1153, hle1154, hf1155⟩ := Deep.freeze R1148 s1151
      replace hG := hG.mono hle1154
      replace hP := hP.mono hle1154
      replace hf1119 := hf1119.mono hle1154
      replace o1026 := o1026.mono hle1154
      replace o1134 := o1134.mono hle1154
      obtain ⟨a1156, n1157, rfl⟩ := hf1155.form
      refine Op.pures 1 [3, 7, 80, 82, 83] (L' := [(9, false), (10, false), (11, false), (12, false), (13, false), (14, false), (15, false), (16, false), (17, false), (18, false), (19, false), (20, false), (21, false)]) (e' := [(3, .pointer (some ⟨b1013, 0, none⟩)), (7, .slice a1120 ((ns).length) n1121), (80, .bool false), (82, .slice a1156 (((if loadB ns = true then ns else ([⟨[47], [], 0, -1, 0, 0⟩]))).length) n1157), (83, .slice a1120 ((ns).length) n1121)]) (by kernel_rfl) ?_
      refine Op.call0 (dst := some 84) (f := 39) (args := #[.slice a1156 (((if loadB ns = true then ns else ([⟨[47], [], 0, -1, 0, 0⟩]))).length) n1157, .slice a1120 ((ns).length) n1121]) (by kernel_rfl) s1153 (sameLeaves _ _ _ s1153.sub hG _ _ hf1155 _ _ hf1119 (by ((try dsimp only) <;> ((rw [if_pos hT.loads]; have hln := hT.len; omega)))) (by ((try dsimp only) <;> ((rw [if_pos hT.loads]; exact fun n hn => by have := (hT.node n hn).2.1; omega)))) ) ?_
      rintro _ g1160 _ h1158 hle1161 s1159 ⟨rfl, hgg, rfl⟩; subst g1160; clear hle1161
      refine Op.pures 3 [3, 7, 87] (L' := [(13, false), (14, false), (15, false), (16, false), (17, false), (18, false), (19, false), (20, false), (21, false)]) (e' := [(3, .pointer (some ⟨b1013, 0, none⟩)), (7, .slice a1120 ((ns).length) n1121), (87, .bool (!(decide ((if loadB ns = true then ns else ([⟨[47], [], 0, -1, 0, 0⟩])) = ns))))]) (by kernel_rfl) ?_
      refine Op.ways (b := !(decide ((if loadB ns = true then ns else ([⟨[47], [], 0, -1, 0, 0⟩])) = ns))) ⟨fun hb => ?_, fun hb => ?_⟩
      ·refine Op.cast (e' := [(3, .pointer (some ⟨b1013, 0, none⟩)), (7, .slice a1120 ((ns).length) n1121), (87, .bool true)]) (by rw [hb]) ?_
       have c1162 : ¬ ((if loadB ns = true then ns else ([⟨[47], [], 0, -1, 0, 0⟩])) = ns) := of_decide_eq_false (notT hb)
       clear hb
       refine Op.pures 9 [3, 7, 96] (L' := []) (e' := [(3, .pointer (some ⟨b1013, 0, none⟩)), (7, .slice a1120 ((ns).length) n1121), (96, .bool true)]) (by kernel_rfl) ?_
       refine Op.goto 32 (by kernel_rfl) ?_
       refine At.condT (c := .tmp 96) (by kernel_rfl) (by kernel_rfl) (by kernel_rfl) 33 (by kernel_rfl) ?_
       refine At.reg (L := [(0, false)]) (by kernel_rfl) ?_
       refine Op.pures 1 [2] (L' := []) (e' := [(2, .bool false)]) (by kernel_rfl) ?_
       refine Op.goto 34 (by kernel_rfl) ?_
       refine At.ret (f := Tryz.f13) (v := .bool false) (by kernel_rfl) (by kernel_rfl) ?_
       have s1163 : St h g (ids []) g1152 [] h1158 := (s1159).drop.drop
       have s1164 : St h g (ids []) g [] h1158 := s1163.unfrz
       refine hR _ _ _ _ s1164 ⟨?_, rfl, rfl⟩
       exact (eqB (by exact absurd (if_pos hT.loads) c1162))
      ·refine Op.cast (e' := [(3, .pointer (some ⟨b1013, 0, none⟩)), (7, .slice a1120 ((ns).length) n1121), (87, .bool false)]) (by rw [hb]) ?_
       have c1165 : (if loadB ns = true then ns else ([⟨[47], [], 0, -1, 0, 0⟩])) = ns := of_decide_eq_true (notF hb)
       clear hb
       refine Op.pures 5 [3, 7, 92] (L' := [(18, false), (19, false), (20, false), (21, false)]) (e' := [(3, .pointer (some ⟨b1013, 0, none⟩)), (7, .slice a1120 ((ns).length) n1121), (92, .bool (decide (((ns).length : Int) < (1 : Int))))]) (by kernel_rfl) ?_
       refine Op.ways (b := decide (((ns).length : Int) < (1 : Int))) ⟨fun hb => ?_, fun hb => ?_⟩
       ·refine Op.cast (e' := [(3, .pointer (some ⟨b1013, 0, none⟩)), (7, .slice a1120 ((ns).length) n1121), (92, .bool true)]) (by rw [hb]) ?_
        have c1166 : ((ns).length : Int) < (1 : Int) := of_decide_eq_true hb
        clear hb
        refine Op.pures 4 [3, 7, 96] (L' := []) (e' := [(3, .pointer (some ⟨b1013, 0, none⟩)), (7, .slice a1120 ((ns).length) n1121), (96, .bool true)]) (by kernel_rfl) ?_
        refine Op.goto 32 (by kernel_rfl) ?_
        refine At.condT (c := .tmp 96) (by kernel_rfl) (by kernel_rfl) (by kernel_rfl) 33 (by kernel_rfl) ?_
        refine At.reg (L := [(0, false)]) (by kernel_rfl) ?_
        refine Op.pures 1 [2] (L' := []) (e' := [(2, .bool false)]) (by kernel_rfl) ?_
        refine Op.goto 34 (by kernel_rfl) ?_
        refine At.ret (f := Tryz.f13) (v := .bool false) (by kernel_rfl) (by kernel_rfl) ?_
        have s1167 : St h g (ids []) g1152 [] h1158 := (s1159).drop.drop
        have s1168 : St h g (ids []) g [] h1158 := s1167.unfrz
        refine hR _ _ _ _ s1168 ⟨?_, rfl, rfl⟩
        exact (eqB (by exact absurd c1166 hT.len1))
       ·refine Op.cast (e' := [(3, .pointer (some ⟨b1013, 0, none⟩)), (7, .slice a1120 ((ns).length) n1121), (92, .bool false)]) (by rw [hb]) ?_
        have c1169 : ¬ (((ns).length : Int) < (1 : Int)) := of_decide_eq_false hb
        clear hb
        refine Op.pures 4 [3, 7, 96] (L' := []) (e' := [(3, .pointer (some ⟨b1013, 0, none⟩)), (7, .slice a1120 ((ns).length) n1121), (96, .bool (decide (((ns).length : Int) > (32 : Int))))]) (by kernel_rfl) ?_
        refine Op.goto 32 (by kernel_rfl) ?_
        refine At.cond (b := decide (((ns).length : Int) > (32 : Int))) (c := .tmp 96) (by kernel_rfl) (by kernel_rfl) (by kernel_rfl) 33 35 (by kernel_rfl) (by kernel_rfl) (fun hb => ?_) (fun hb => ?_)
        ·have c1170 : ((ns).length : Int) > (32 : Int) := of_decide_eq_true hb
         clear hb
         refine At.keep [] ?_; show At _ _ _ [] _
         refine At.reg (L := [(0, false)]) (by kernel_rfl) ?_
         refine Op.pures 1 [2] (L' := []) (e' := [(2, .bool false)]) (by kernel_rfl) ?_
         refine Op.goto 34 (by kernel_rfl) ?_
         refine At.ret (f := Tryz.f13) (v := .bool false) (by kernel_rfl) (by kernel_rfl) ?_
         have s1171 : St h g (ids []) g1152 [] h1158 := (s1159).drop.drop
         have s1172 : St h g (ids []) g [] h1158 := s1171.unfrz
         refine hR _ _ _ _ s1172 ⟨?_, rfl, rfl⟩
         exact (eqB (by (exfalso; have hln := hT.len; omega)))
        ·have c1173 : ¬ (((ns).length : Int) > (32 : Int)) := of_decide_eq_false hb
         clear hb
         refine At.keep [3, 7] ?_; show At _ _ _ [(3, .pointer (some ⟨b1013, 0, none⟩)), (7, .slice a1120 ((ns).length) n1121)] _
         refine At.reg (L := [(0, false)]) (by kernel_rfl) ?_
         refine Op.pures 1 [3, 7, 8] (L' := []) (e' := [(3, .pointer (some ⟨b1013, 0, none⟩)), (7, .slice a1120 ((ns).length) n1121), (8, .int .i64 0)]) (by kernel_rfl) ?_
         refine Op.goto 36 (by kernel_rfl) ?_
         refine At.reg (L := [(0, false)]) (by kernel_rfl) ?_
         refine Op.pures 1 [3, 7, 8, 9] (L' := []) (e' := [(3, .pointer (some ⟨b1013, 0, none⟩)), (7, .slice a1120 ((ns).length) n1121), (8, .int .i64 0), (9, .int .i64 0)]) (by kernel_rfl) ?_
         refine Op.goto 37 (by kernel_rfl) ?_
         have loop37 : ∀ (m : Nat) (n : Int) (j : Int) (h1174 : Heap) (hm : ns.length - j.toNat < m) (h4 : 0 ≤ j) (h5 : j ≤ ns.length) (hn0 : 0 ≤ n) (hn1 : n ≤ 32 * j) (hn : n = (sumK ns (ns.take j.toNat) : Int))     (s_loop371173 : St h g (ids []) g1152 [c1133, c1025] h1174), At (fctx Tryz.prog B 13 Tryz.f13 R) [] 37 [(3, .pointer (some ⟨b1013, 0, none⟩)), (7, .slice a1120 ((ns).length) n1121), (8, .int .i64 n), (9, .int .i64 j)] h1174 := by
          intro m; induction m with
          | zero => intros; omega
          | succ m ih37 =>
           intro n j h1174 hm h4 h5 hn0 hn1 hn s_loop371173
           refine At.reg (L := [(0, false), (1, false), (2, false), (3, false)]) (by kernel_rfl) ?_
           refine Op.pures 4 [3, 7, 8, 9, 100] (L' := []) (e' := [(3, .pointer (some ⟨b1013, 0, none⟩)), (7, .slice a1120 ((ns).length) n1121), (8, .int .i64 n), (9, .int .i64 j), (100, .bool (decide (j < ((ns).length : Int))))]) (by kernel_rfl) ?_
           refine Op.goto 38 (by kernel_rfl) ?_
           refine At.cond (b := decide (j < ((ns).length : Int))) (c := .tmp 100) (by kernel_rfl) (by kernel_rfl) (by kernel_rfl) 39 55 (by kernel_rfl) (by kernel_rfl) (fun hb => ?_) (fun hb => ?_)
           ·have c1175 : j < ((ns).length : Int) := of_decide_eq_true hb
            clear hb
            refine At.keep [3, 7, 8, 9] ?_; show At _ _ _ [(3, .pointer (some ⟨b1013, 0, none⟩)), (7, .slice a1120 ((ns).length) n1121), (8, .int .i64 n), (9, .int .i64 j)] _
            refine At.reg (L := [(0, false), (1, false), (2, false), (3, false), (4, false), (5, false), (6, false), (7, false), (8, false), (9, false), (10, false), (11, false)]) (by kernel_rfl) ?_
            refine Op.pures 3 [3, 7, 8, 9, 104, 105, 106] (L' := [(3, false), (4, false), (5, false), (6, false), (7, false), (8, false), (9, false), (10, false), (11, false)]) (e' := [(3, .pointer (some ⟨b1013, 0, none⟩)), (7, .slice a1120 ((ns).length) n1121), (8, .int .i64 n), (9, .int .i64 j), (104, .pointer (some ⟨b1013, 0, none⟩)), (105, .slice a1120 ((ns).length) n1121), (106, .int .i64 j)]) (by kernel_rfl) ?_
            obtain ⟨x1176, hx1177⟩ : ∃ c, ns[(j : Int).toNat]? = some c := ⟨_, List.getElem?_eq_getElem (by omega)⟩
            obtain ⟨b1178, o1179, cu1180, fz1181, ha1182, hb1183, hk1184⟩ := SlR.at_ hf1119 _ hx1177
            cases ha1182
            refine Op.idx (T := 52) (E := 59) (sz := 6) (by_ := 72) (n := ((ns).length)) (c := n1121) (k := .i64) (x := (.tmp 105)) (ix := (.tmp 106)) (dst := 107) (bk := b1178) (o := o1179) (m := j) (by kernel_rfl) (by kernel_rfl) (by kernel_rfl) (by kernel_rfl) (by omega) (by omega) ?_
            obtain ⟨v1185, hv1186, hk1184⟩ := hk1184
            obtain ⟨a1187, n1188, rfl⟩ := hv1186.form
            refine Op.pures 1 [3, 7, 8, 9, 104, 108] (L' := [(5, false), (6, false), (7, false), (8, false), (9, false), (10, false), (11, false)]) (e' := [(3, .pointer (some ⟨b1013, 0, none⟩)), (7, .slice (some ⟨b1178, o1179, none⟩) ((ns).length) n1121), (8, .int .i64 n), (9, .int .i64 j), (104, .pointer (some ⟨b1013, 0, none⟩)), (108, .pointer (some ⟨b1178, o1179 + (j : Int).toNat * 6, none⟩))]) (by kernel_rfl) ?_
            refine Op.load (T := 9) (x := (.tmp 108)) (o := o1179 + (j : Int).toNat * 6) (d := 109) (n := 1) (v := .string (mkS x1176.Path)) (by kernel_rfl) (by kernel_rfl) (by kernel_rfl) (s_loop371173.sub _ _ hb1183) (cut_get hk1184 0 rfl) ?_
            have s1189 : St h g (ids []) g1152 [c1025, c1133] h1174 := ((s_loop371173.front 0 rfl).front 1 rfl)
            have hl1190 := s1189.frzle
            have hz1191 := IsTree.frz o1026 s1189 (by intro p hp; simp only [List.mem_append, hp, true_or, or_true])
            refine Op.lend (dst := some 110) (f := 37) (args := #[.pointer (some ⟨b1013, 0, none⟩), .string (mkS x1176.Path)]) (cf := (c1025 : Chunk)) (Lc := []) (L := [c1133]) (by kernel_rfl) s1189 (kidsG _ _ _ s1189.frzsub (hG.mono hl1190) b1013 ns hz1191 x1176.Path (by ((try dsimp only) <;> (exact hT.b (by have hsm := (small (by assumption)).1; omega)))) (by ((try dsimp only) <;> ((have := (hT.node _ (List.mem_of_getElem? hx1177)).1; have := pOk_len this; omega)))) ) (fun _ _ _ hp => by obtain ⟨_, _, _, _, hgg, _⟩ := hp; exact hgg) (fun _ _ h => absurd h (ids_nil _)) ?_
            rintro _ _ h1192 s1193 ⟨v1194, ch1195, rfl, R1196, hgg, rfl⟩; clear hgg
            obtain ⟨a1197, n1198, rfl⟩ := R1196.form
            replace R1196 := R1196.flat (fun _ _ _ _ h => h) (g' := g1152)
            refine Op.pures 5 [3, 7, 8, 9, 10, 11] (L' := []) (e' := [(3, .pointer (some ⟨b1013, 0, none⟩)), (7, .slice (some ⟨b1178, o1179, none⟩) ((ns).length) n1121), (8, .int .i64 n), (9, .int .i64 j), (10, .slice a1197 (((kidsT ns x1176.Path).1).length) n1198), (11, .int .i64 ((kidsT ns x1176.Path).2))]) (by kernel_rfl) ?_
            refine Op.goto 40 (by kernel_rfl) ?_
            refine At.reg (L := [(0, false), (1, false), (2, false), (3, false), (4, false)]) (by kernel_rfl) ?_
            refine Op.pures 3 [3, 7, 8, 9, 10, 11, 113, 115] (L' := [(3, false), (4, false)]) (e' := [(3, .pointer (some ⟨b1013, 0, none⟩)), (7, .slice (some ⟨b1178, o1179, none⟩) ((ns).length) n1121), (8, .int .i64 n), (9, .int .i64 j), (10, .slice a1197 (((kidsT ns x1176.Path).1).length) n1198), (11, .int .i64 ((kidsT ns x1176.Path).2)), (113, .int .i64 n), (115, .int .i64 (((kidsT ns x1176.Path).1).length : Int))]) (by kernel_rfl) ?_
            refine Op.val (dst := some 116) (v := .int .i64 (IntKind.wrap .i64 (n + (((kidsT ns x1176.Path).1).length : Int)))) (v' := .int .i64 (n + (((kidsT ns x1176.Path).1).length : Int))) (by kernel_rfl) (wrapEq_i64 (by omega) (by (have h9 := kidsT_len ns x1176.Path; have hln := hT.len; omega))) ?_
            refine Op.pures 1 [3, 7, 8, 9, 10, 11] (L' := []) (e' := [(3, .pointer (some ⟨b1013, 0, none⟩)), (7, .slice (some ⟨b1178, o1179, none⟩) ((ns).length) n1121), (8, .int .i64 (n + (((kidsT ns x1176.Path).1).length : Int))), (9, .int .i64 j), (10, .slice a1197 (((kidsT ns x1176.Path).1).length) n1198), (11, .int .i64 ((kidsT ns x1176.Path).2))]) (by kernel_rfl) ?_
            refine Op.goto 41 (by kernel_rfl) ?_
            refine At.draw (by kernel_rfl) (fun _ => False) [(0, true), (1, true), (2, true), (3, true), (4, true), (5, true), (6, true), (7, false), (8, true), (9, true), (10, true), (11, true), (12, true), (13, true), (14, true), (15, true), (16, true), (17, true), (18, true), (19, true), (20, true), (21, true), (22, true), (23, true), (25, true), (26, true), (27, true), (28, true), (24, true), (29, false), (30, true), (31, true), (32, true)] (by kernel_rfl) ?_
            refine Op.pures 3 [3, 7, 8, 9, 10, 119] (L' := [(3, true), (4, true), (5, true), (6, true), (7, false), (8, true), (9, true), (10, true), (11, true), (12, true), (13, true), (14, true), (15, true), (16, true), (17, true), (18, true), (19, true), (20, true), (21, true), (22, true), (23, true), (25, true), (26, true), (27, true), (28, true), (24, true), (29, false), (30, true), (31, true), (32, true)]) (e' := [(3, .pointer (some ⟨b1013, 0, none⟩)), (7, .slice (some ⟨b1178, o1179, none⟩) ((ns).length) n1121), (8, .int .i64 (n + (((kidsT ns x1176.Path).1).length : Int))), (9, .int .i64 j), (10, .slice a1197 (((kidsT ns x1176.Path).1).length) n1198), (119, .bool (((kidsT ns x1176.Path).2) != (0 : Int)))]) (by kernel_rfl) ?_
            refine Op.ways (b := ((kidsT ns x1176.Path).2) != (0 : Int)) ⟨fun hb => ?_, fun hb => ?_⟩
            ·refine Op.cast (e' := [(3, .pointer (some ⟨b1013, 0, none⟩)), (7, .slice (some ⟨b1178, o1179, none⟩) ((ns).length) n1121), (8, .int .i64 (n + (((kidsT ns x1176.Path).1).length : Int))), (9, .int .i64 j), (10, .slice a1197 (((kidsT ns x1176.Path).1).length) n1198), (119, .bool true)]) (by rw [hb]) ?_
             have c1201 : ¬ (((kidsT ns x1176.Path).2) = (0 : Int)) := bneT hb
             clear hb
             refine Op.pures 30 [3, 7, 8, 9, 10, 149] (L' := []) (e' := [(3, .pointer (some ⟨b1013, 0, none⟩)), (7, .slice (some ⟨b1178, o1179, none⟩) ((ns).length) n1121), (8, .int .i64 (n + (((kidsT ns x1176.Path).1).length : Int))), (9, .int .i64 j), (10, .slice a1197 (((kidsT ns x1176.Path).1).length) n1198), (149, .bool true)]) (by kernel_rfl) ?_
             refine Op.goto 42 (by kernel_rfl) ?_
             refine At.condT (c := .tmp 149) (by kernel_rfl) (by kernel_rfl) (by kernel_rfl) 43 (by kernel_rfl) ?_
             refine At.reg (L := [(0, false)]) (by kernel_rfl) ?_
             refine Op.pures 1 [2] (L' := []) (e' := [(2, .bool false)]) (by kernel_rfl) ?_
             refine Op.goto 44 (by kernel_rfl) ?_
             refine At.ret (f := Tryz.f13) (v := .bool false) (by kernel_rfl) (by kernel_rfl) ?_
             have s1202 : St h g (ids []) g1152 [] h1192 := (s1193).drop.drop.drop
             have s1203 : St h g (ids []) g [] h1192 := s1202.unfrz
             refine hR _ _ _ _ s1203 ⟨?_, rfl, rfl⟩
             exact (eqB (by exact absurd (right_e hT (by assumption)) c1201))
            ·refine Op.cast (e' := [(3, .pointer (some ⟨b1013, 0, none⟩)), (7, .slice (some ⟨b1178, o1179, none⟩) ((ns).length) n1121), (8, .int .i64 (n + (((kidsT ns x1176.Path).1).length : Int))), (9, .int .i64 j), (10, .slice a1197 (((kidsT ns x1176.Path).1).length) n1198), (119, .bool false)]) (by rw [hb]) ?_
             have c1204 : ((kidsT ns x1176.Path).2) = (0 : Int) := bneF hb
             clear hb
             refine Op.pures 2 [3, 7, 8, 9, 10, 119, 120, 121] (L' := [(5, true), (6, true), (7, false), (8, true), (9, true), (10, true), (11, true), (12, true), (13, true), (14, true), (15, true), (16, true), (17, true), (18, true), (19, true), (20, true), (21, true), (22, true), (23, true), (25, true), (26, true), (27, true), (28, true), (24, true), (29, false), (30, true), (31, true), (32, true)]) (e' := [(3, .pointer (some ⟨b1013, 0, none⟩)), (7, .slice (some ⟨b1178, o1179, none⟩) ((ns).length) n1121), (8, .int .i64 (n + (((kidsT ns x1176.Path).1).length : Int))), (9, .int .i64 j), (10, .slice a1197 (((kidsT ns x1176.Path).1).length) n1198), (119, .bool false), (120, .slice (some ⟨b1178, o1179, none⟩) ((ns).length) n1121), (121, .int .i64 j)]) (by kernel_rfl) ?_
             obtain ⟨b1207, o1208, cu1209, fz1210, ha1211, hb1212, hk1213⟩ := SlR.at_ hf1119 _ hx1177
             cases ha1211
             refine Op.idx (T := 52) (E := 59) (sz := 6) (by_ := 72) (n := ((ns).length)) (c := n1121) (k := .i64) (x := (.tmp 120)) (ix := (.tmp 121)) (dst := 122) (bk := b1178) (o := o1179) (m := j) (by kernel_rfl) (by kernel_rfl) (by kernel_rfl) (by kernel_rfl) (by omega) (by omega) ?_
             obtain ⟨v1214, hv1215, hk1213⟩ := hk1213
             obtain ⟨a1216, n1217, rfl⟩ := hv1215.form
             refine Op.pures 1 [3, 7, 8, 9, 10, 119, 123] (L' := [(7, false), (8, true), (9, true), (10, true), (11, true), (12, true), (13, true), (14, true), (15, true), (16, true), (17, true), (18, true), (19, true), (20, true), (21, true), (22, true), (23, true), (25, true), (26, true), (27, true), (28, true), (24, true), (29, false), (30, true), (31, true), (32, true)]) (e' := [(3, .pointer (some ⟨b1013, 0, none⟩)), (7, .slice (some ⟨b1178, o1179, none⟩) ((ns).length) n1121), (8, .int .i64 (n + (((kidsT ns x1176.Path).1).length : Int))), (9, .int .i64 j), (10, .slice a1197 (((kidsT ns x1176.Path).1).length) n1198), (119, .bool false), (123, .pointer (some ⟨b1178, o1179 + (j : Int).toNat * 6 + 3, none⟩))]) (by kernel_rfl) ?_
             refine Op.load (T := 3) (x := (.tmp 123)) (o := o1179 + (j : Int).toNat * 6 + 3) (d := 124) (n := 1) (v := .int .i64 x1176.Owner) (by kernel_rfl) (by kernel_rfl) (by kernel_rfl) (s1193.sub _ _ hb1212) (cut_get hk1213 3 rfl) ?_
             refine Op.pures 2 [3, 7, 8, 9, 10, 119, 126] (L' := [(10, true), (11, true), (12, true), (13, true), (14, true), (15, true), (16, true), (17, true), (18, true), (19, true), (20, true), (21, true), (22, true), (23, true), (25, true), (26, true), (27, true), (28, true), (24, true), (29, false), (30, true), (31, true), (32, true)]) (e' := [(3, .pointer (some ⟨b1013, 0, none⟩)), (7, .slice (some ⟨b1178, o1179, none⟩) ((ns).length) n1121), (8, .int .i64 (n + (((kidsT ns x1176.Path).1).length : Int))), (9, .int .i64 j), (10, .slice a1197 (((kidsT ns x1176.Path).1).length) n1198), (119, .bool false), (126, .bool (x1176.Owner != ((-1) : Int)))]) (by kernel_rfl) ?_
             refine Op.ways (b := x1176.Owner != ((-1) : Int)) ⟨fun hb => ?_, fun hb => ?_⟩
             ·refine Op.cast (e' := [(3, .pointer (some ⟨b1013, 0, none⟩)), (7, .slice (some ⟨b1178, o1179, none⟩) ((ns).length) n1121), (8, .int .i64 (n + (((kidsT ns x1176.Path).1).length : Int))), (9, .int .i64 j), (10, .slice a1197 (((kidsT ns x1176.Path).1).length) n1198), (119, .bool false), (126, .bool true)]) (by rw [hb]) ?_
              have c1218 : ¬ (x1176.Owner = ((-1) : Int)) := bneT hb
              clear hb
              refine Op.pures 6 [3, 7, 8, 9, 10, 132] (L' := [(16, true), (17, true), (18, true), (19, true), (20, true), (21, true), (22, true), (23, true), (25, true), (26, true), (27, true), (28, true), (24, true), (29, false), (30, true), (31, true), (32, true)]) (e' := [(3, .pointer (some ⟨b1013, 0, none⟩)), (7, .slice (some ⟨b1178, o1179, none⟩) ((ns).length) n1121), (8, .int .i64 (n + (((kidsT ns x1176.Path).1).length : Int))), (9, .int .i64 j), (10, .slice a1197 (((kidsT ns x1176.Path).1).length) n1198), (132, .bool (decide ((((kidsT ns x1176.Path).1).length : Int) > (0 : Int))))]) (by kernel_rfl) ?_
              refine Op.ways (b := decide ((((kidsT ns x1176.Path).1).length : Int) > (0 : Int))) ⟨fun hb => ?_, fun hb => ?_⟩
              ·refine Op.cast (e' := [(3, .pointer (some ⟨b1013, 0, none⟩)), (7, .slice (some ⟨b1178, o1179, none⟩) ((ns).length) n1121), (8, .int .i64 (n + (((kidsT ns x1176.Path).1).length : Int))), (9, .int .i64 j), (10, .slice a1197 (((kidsT ns x1176.Path).1).length) n1198), (132, .bool true)]) (by rw [hb]) ?_
               have c1219 : (((kidsT ns x1176.Path).1).length : Int) > (0 : Int) := of_decide_eq_true hb
               clear hb
               refine Op.pures 17 [3, 7, 8, 9, 10, 149] (L' := []) (e' := [(3, .pointer (some ⟨b1013, 0, none⟩)), (7, .slice (some ⟨b1178, o1179, none⟩) ((ns).length) n1121), (8, .int .i64 (n + (((kidsT ns x1176.Path).1).length : Int))), (9, .int .i64 j), (10, .slice a1197 (((kidsT ns x1176.Path).1).length) n1198), (149, .bool true)]) (by kernel_rfl) ?_
               refine Op.goto 42 (by kernel_rfl) ?_
               refine At.condT (c := .tmp 149) (by kernel_rfl) (by kernel_rfl) (by kernel_rfl) 43 (by kernel_rfl) ?_
               refine At.reg (L := [(0, false)]) (by kernel_rfl) ?_
               refine Op.pures 1 [2] (L' := []) (e' := [(2, .bool false)]) (by kernel_rfl) ?_
               refine Op.goto 44 (by kernel_rfl) ?_
               refine At.ret (f := Tryz.f13) (v := .bool false) (by kernel_rfl) (by kernel_rfl) ?_
               have s1220 : St h g (ids []) g1152 [] h1192 := (s1193).drop.drop.drop
               have s1221 : St h g (ids []) g [] h1192 := s1220.unfrz
               refine hR _ _ _ _ s1221 ⟨?_, rfl, rfl⟩
               exact (eqB (by exact absurd c1219 (right_b hT (by assumption) (by assumption))))
              ·refine Op.cast (e' := [(3, .pointer (some ⟨b1013, 0, none⟩)), (7, .slice (some ⟨b1178, o1179, none⟩) ((ns).length) n1121), (8, .int .i64 (n + (((kidsT ns x1176.Path).1).length : Int))), (9, .int .i64 j), (10, .slice a1197 (((kidsT ns x1176.Path).1).length) n1198), (132, .bool false)]) (by rw [hb]) ?_
               have c1222 : ¬ ((((kidsT ns x1176.Path).1).length : Int) > (0 : Int)) := of_decide_eq_false hb
               clear hb
               refine Op.pures 3 [3, 7, 8, 9, 10, 132, 135] (L' := [(19, true), (20, true), (21, true), (22, true), (23, true), (25, true), (26, true), (27, true), (28, true), (24, true), (29, false), (30, true), (31, true), (32, true)]) (e' := [(3, .pointer (some ⟨b1013, 0, none⟩)), (7, .slice (some ⟨b1178, o1179, none⟩) ((ns).length) n1121), (8, .int .i64 (n + (((kidsT ns x1176.Path).1).length : Int))), (9, .int .i64 j), (10, .slice a1197 (((kidsT ns x1176.Path).1).length) n1198), (132, .bool false), (135, .bool (decide (j > (0 : Int))))]) (by kernel_rfl) ?_
               refine Op.ways (b := decide (j > (0 : Int))) ⟨fun hb => ?_, fun hb => ?_⟩
               ·refine Op.cast (e' := [(3, .pointer (some ⟨b1013, 0, none⟩)), (7, .slice (some ⟨b1178, o1179, none⟩) ((ns).length) n1121), (8, .int .i64 (n + (((kidsT ns x1176.Path).1).length : Int))), (9, .int .i64 j), (10, .slice a1197 (((kidsT ns x1176.Path).1).length) n1198), (132, .bool false), (135, .bool true)]) (by rw [hb]) ?_
                have c1223 : j > (0 : Int) := of_decide_eq_true hb
                clear hb
                refine Op.pures 2 [3, 7, 8, 9, 10, 132, 135, 136, 137] (L' := [(21, true), (22, true), (23, true), (25, true), (26, true), (27, true), (28, true), (24, true), (29, false), (30, true), (31, true), (32, true)]) (e' := [(3, .pointer (some ⟨b1013, 0, none⟩)), (7, .slice (some ⟨b1178, o1179, none⟩) ((ns).length) n1121), (8, .int .i64 (n + (((kidsT ns x1176.Path).1).length : Int))), (9, .int .i64 j), (10, .slice a1197 (((kidsT ns x1176.Path).1).length) n1198), (132, .bool false), (135, .bool true), (136, .slice (some ⟨b1178, o1179, none⟩) ((ns).length) n1121), (137, .int .i64 j)]) (by kernel_rfl) ?_
                refine Op.val (dst := some 138) (v := .int .i64 (IntKind.wrap .i64 (j - 1))) (v' := .int .i64 (j - 1)) (by kernel_rfl) (wrapEq_i64 (by omega) (by omega)) ?_
                obtain ⟨x1224, hx1225⟩ : ∃ c, ns[(j - 1 : Int).toNat]? = some c := ⟨_, List.getElem?_eq_getElem (by omega)⟩
                obtain ⟨b1226, o1227, cu1228, fz1229, ha1230, hb1231, hk1232⟩ := SlR.at_ hf1119 _ hx1225
                cases ha1230
                refine Op.idx (T := 52) (E := 59) (sz := 6) (by_ := 72) (n := ((ns).length)) (c := n1121) (k := .i64) (x := (.tmp 136)) (ix := (.tmp 138)) (dst := 139) (bk := b1178) (o := o1179) (m := j - 1) (by kernel_rfl) (by kernel_rfl) (by kernel_rfl) (by kernel_rfl) (by omega) (by omega) ?_
                obtain ⟨v1233, hv1234, hk1232⟩ := hk1232
                obtain ⟨a1235, n1236, rfl⟩ := hv1234.form
                refine Op.pures 3 [3, 7, 8, 9, 10, 132, 135, 140, 142, 143] (L' := [(27, true), (28, true), (24, true), (29, false), (30, true), (31, true), (32, true)]) (e' := [(3, .pointer (some ⟨b1013, 0, none⟩)), (7, .slice (some ⟨b1178, o1179, none⟩) ((ns).length) n1121), (8, .int .i64 (n + (((kidsT ns x1176.Path).1).length : Int))), (9, .int .i64 j), (10, .slice a1197 (((kidsT ns x1176.Path).1).length) n1198), (132, .bool false), (135, .bool true), (140, .pointer (some ⟨b1178, o1179 + (j - 1 : Int).toNat * 6, none⟩)), (142, .slice (some ⟨b1178, o1179, none⟩) ((ns).length) n1121), (143, .int .i64 j)]) (by kernel_rfl) ?_
                obtain ⟨b1239, o1240, cu1241, fz1242, ha1243, hb1244, hk1245⟩ := SlR.at_ hf1119 _ hx1177
                cases ha1243
                refine Op.idx (T := 52) (E := 59) (sz := 6) (by_ := 72) (n := ((ns).length)) (c := n1121) (k := .i64) (x := (.tmp 142)) (ix := (.tmp 143)) (dst := 144) (bk := b1178) (o := o1179) (m := j) (by kernel_rfl) (by kernel_rfl) (by kernel_rfl) (by kernel_rfl) (by omega) (by omega) ?_
                obtain ⟨v1246, hv1247, hk1245⟩ := hk1245
                obtain ⟨a1248, n1249, rfl⟩ := hv1247.form
                refine Op.pures 1 [3, 7, 8, 9, 10, 132, 135, 140, 145] (L' := [(24, true), (29, false), (30, true), (31, true), (32, true)]) (e' := [(3, .pointer (some ⟨b1013, 0, none⟩)), (7, .slice (some ⟨b1178, o1179, none⟩) ((ns).length) n1121), (8, .int .i64 (n + (((kidsT ns x1176.Path).1).length : Int))), (9, .int .i64 j), (10, .slice a1197 (((kidsT ns x1176.Path).1).length) n1198), (132, .bool false), (135, .bool true), (140, .pointer (some ⟨b1178, o1179 + (j - 1 : Int).toNat * 6, none⟩)), (145, .pointer (some ⟨b1178, o1179 + (j : Int).toNat * 6, none⟩))]) (by kernel_rfl) ?_
                refine Op.loadF (T := 9) (x := (.tmp 140)) (o := o1179 + (j - 1 : Int).toNat * 6) (d := 141) (n := 1) (v := .string (mkS x1224.Path)) (by kernel_rfl) (by kernel_rfl) (by kernel_rfl) (fun h => h) (s1193.sub _ _ hb1231) (cut_get hk1232 0 rfl) ?_
                refine Op.load (T := 9) (x := (.tmp 145)) (o := o1179 + (j : Int).toNat * 6) (d := 146) (n := 1) (v := .string (mkS x1176.Path)) (by kernel_rfl) (by kernel_rfl) (by kernel_rfl) (s1193.sub _ _ hb1244) (cut_get hk1245 0 rfl) ?_
                refine Op.val (dst := some 147) (v := .bool (!(Go.Op.bytesLess (mkS x1224.Path).toList (mkS x1176.Path).toList))) (v' := .bool (!(Go.Op.bytesLess x1224.Path x1176.Path))) (by kernel_rfl) (by rw [toList_mkS, toList_mkS]) ?_
                refine Op.pures 2 [3, 7, 8, 9, 10, 149] (L' := []) (e' := [(3, .pointer (some ⟨b1013, 0, none⟩)), (7, .slice (some ⟨b1178, o1179, none⟩) ((ns).length) n1121), (8, .int .i64 (n + (((kidsT ns x1176.Path).1).length : Int))), (9, .int .i64 j), (10, .slice a1197 (((kidsT ns x1176.Path).1).length) n1198), (149, .bool (!(Go.Op.bytesLess x1224.Path x1176.Path)))]) (by kernel_rfl) ?_
                refine Op.goto 42 (by kernel_rfl) ?_
                refine At.cond (b := !(Go.Op.bytesLess x1224.Path x1176.Path)) (c := .tmp 149) (by kernel_rfl) (by kernel_rfl) (by kernel_rfl) 43 45 (by kernel_rfl) (by kernel_rfl) (fun hb => ?_) (fun hb => ?_)
                ·have c1250 : (Go.Op.bytesLess x1224.Path x1176.Path) = false := (notT hb)
                 clear hb
                 refine At.keep [] ?_; show At _ _ _ [] _
                 refine At.reg (L := [(0, false)]) (by kernel_rfl) ?_
                 refine Op.pures 1 [2] (L' := []) (e' := [(2, .bool false)]) (by kernel_rfl) ?_
                 refine Op.goto 44 (by kernel_rfl) ?_
                 refine At.ret (f := Tryz.f13) (v := .bool false) (by kernel_rfl) (by kernel_rfl) ?_
                 have s1251 : St h g (ids []) g1152 [] h1192 := (s1193).drop.drop.drop
                 have s1252 : St h g (ids []) g [] h1192 := s1251.unfrz
                 refine hR _ _ _ _ s1252 ⟨?_, rfl, rfl⟩
                 exact (eqB (by exact absurd (right_s hT (by assumption) (by assumption) (by assumption)) (Bool.eq_false_iff.1 c1250)))
                ·have c1253 : (Go.Op.bytesLess x1224.Path x1176.Path) = true := (notF hb)
                 clear hb
                 refine At.keep [3, 7, 8, 9, 10] ?_; show At _ _ _ [(3, .pointer (some ⟨b1013, 0, none⟩)), (7, .slice (some ⟨b1178, o1179, none⟩) ((ns).length) n1121), (8, .int .i64 (n + (((kidsT ns x1176.Path).1).length : Int))), (9, .int .i64 j), (10, .slice a1197 (((kidsT ns x1176.Path).1).length) n1198)] _
                 refine At.reg (L := [(0, false)]) (by kernel_rfl) ?_
                 refine Op.pures 1 [3, 7, 8, 9, 10, 12] (L' := []) (e' := [(3, .pointer (some ⟨b1013, 0, none⟩)), (7, .slice (some ⟨b1178, o1179, none⟩) ((ns).length) n1121), (8, .int .i64 (n + (((kidsT ns x1176.Path).1).length : Int))), (9, .int .i64 j), (10, .slice a1197 (((kidsT ns x1176.Path).1).length) n1198), (12, .int .i64 0)]) (by kernel_rfl) ?_
                 refine Op.goto 46 (by kernel_rfl) ?_
                 have loop46 : ∀ (m : Nat) (z : Int) (h1254 : Heap) (hm : ((kidsT ns x1176.Path).1).length - z.toNat < m) (h6 : 0 ≤ z) (h7 : z ≤ ((kidsT ns x1176.Path).1).length) (hq1 : n + (((kidsT ns x1176.Path).1).length : Int) ≤ 32 * (j + 1))     (s_loop461253 : St h g (ids []) g1152 [c1025, ch1195, c1133] h1254), At (fctx Tryz.prog B 13 Tryz.f13 R) [] 46 [(3, .pointer (some ⟨b1013, 0, none⟩)), (7, .slice (some ⟨b1178, o1179, none⟩) ((ns).length) n1121), (8, .int .i64 (n + (((kidsT ns x1176.Path).1).length : Int))), (9, .int .i64 j), (10, .slice a1197 (((kidsT ns x1176.Path).1).length) n1198), (12, .int .i64 z)] h1254 := by
                  intro m; induction m with
                  | zero => intros; omega
                  | succ m ih46 =>
                   intro z h1254 hm h6 h7 hq1 s_loop461253
                   refine At.reg (L := [(0, false), (1, false), (2, false), (3, false)]) (by kernel_rfl) ?_
                   refine Op.pures 4 [3, 7, 8, 9, 10, 12, 153] (L' := []) (e' := [(3, .pointer (some ⟨b1013, 0, none⟩)), (7, .slice (some ⟨b1178, o1179, none⟩) ((ns).length) n1121), (8, .int .i64 (n + (((kidsT ns x1176.Path).1).length : Int))), (9, .int .i64 j), (10, .slice a1197 (((kidsT ns x1176.Path).1).length) n1198), (12, .int .i64 z), (153, .bool (decide (z < (((kidsT ns x1176.Path).1).length : Int))))]) (by kernel_rfl) ?_
                   refine Op.goto 47 (by kernel_rfl) ?_
                   refine At.cond (b := decide (z < (((kidsT ns x1176.Path).1).length : Int))) (c := .tmp 153) (by kernel_rfl) (by kernel_rfl) (by kernel_rfl) 48 54 (by kernel_rfl) (by kernel_rfl) (fun hb => ?_) (fun hb => ?_)
                   ·have c1255 : z < (((kidsT ns x1176.Path).1).length : Int) := of_decide_eq_true hb
                    clear hb
                    refine At.keep [3, 7, 8, 9, 10, 12] ?_; show At _ _ _ [(3, .pointer (some ⟨b1013, 0, none⟩)), (7, .slice (some ⟨b1178, o1179, none⟩) ((ns).length) n1121), (8, .int .i64 (n + (((kidsT ns x1176.Path).1).length : Int))), (9, .int .i64 j), (10, .slice a1197 (((kidsT ns x1176.Path).1).length) n1198), (12, .int .i64 z)] _
                    refine At.reg (L := [(0, false), (1, false), (2, false), (3, false), (4, false), (5, false), (6, false), (7, false), (8, false), (9, false)]) (by kernel_rfl) ?_
                    refine Op.pures 2 [3, 7, 8, 9, 10, 12, 157, 158] (L' := [(2, false), (3, false), (4, false), (5, false), (6, false), (7, false), (8, false), (9, false)]) (e' := [(3, .pointer (some ⟨b1013, 0, none⟩)), (7, .slice (some ⟨b1178, o1179, none⟩) ((ns).length) n1121), (8, .int .i64 (n + (((kidsT ns x1176.Path).1).length : Int))), (9, .int .i64 j), (10, .slice a1197 (((kidsT ns x1176.Path).1).length) n1198), (12, .int .i64 z), (157, .slice a1197 (((kidsT ns x1176.Path).1).length) n1198), (158, .int .i64 z)]) (by kernel_rfl) ?_
                    obtain ⟨x1256, hx1257⟩ : ∃ c, ((kidsT ns x1176.Path).1)[(z : Int).toNat]? = some c := ⟨_, List.getElem?_eq_getElem (by omega)⟩
                    obtain ⟨b1258, o1259, cu1260, fz1261, ha1262, hb1263, hk1264⟩ := SlH.at_ (R1196.toH s_loop461253 1 rfl) _ hx1257
                    cases ha1262
                    refine Op.idx (T := 54) (E := 9) (sz := 1) (by_ := 16) (n := (((kidsT ns x1176.Path).1).length)) (c := n1198) (k := .i64) (x := (.tmp 157)) (ix := (.tmp 158)) (dst := 159) (bk := b1258) (o := o1259) (m := z) (by kernel_rfl) (by kernel_rfl) (by kernel_rfl) (by kernel_rfl) (by omega) (by omega) ?_
                    replace hk1264 : cut _ _ _ = [.string (mkS x1256)] := hk1264
                    refine Op.load (T := 9) (x := (.tmp 159)) (o := o1259 + (z : Int).toNat * 1) (d := 160) (n := 1) (v := .string (mkS x1256)) (by kernel_rfl) (by kernel_rfl) (by kernel_rfl) hb1263 (cut_get hk1264 0 rfl) ?_
                    refine Op.call0 (dst := some 161) (f := 36) (args := #[.string (mkS x1256)]) (by kernel_rfl) s_loop461253 (parentP _ _ _ s_loop461253.sub hG x1256 (by ((try dsimp only) <;> (omega))) ) ?_
                    rintro _ g1267 _ h1265 hle1268 s1266 ⟨rfl, hgg, rfl⟩; subst g1267; clear hle1268
                    refine Op.pures 5 [3, 7, 8, 9, 10, 12, 13] (L' := []) (e' := [(3, .pointer (some ⟨b1013, 0, none⟩)), (7, .slice (some ⟨b1178, o1179, none⟩) ((ns).length) n1121), (8, .int .i64 (n + (((kidsT ns x1176.Path).1).length : Int))), (9, .int .i64 j), (10, .slice (some ⟨b1258, o1259, none⟩) (((kidsT ns x1176.Path).1).length) n1198), (12, .int .i64 z), (13, .string (mkS (parentOf x1256)))]) (by kernel_rfl) ?_
                    refine Op.goto 49 (by kernel_rfl) ?_
                    refine At.reg (L := [(0, false), (1, false), (2, false), (3, false), (4, false), (5, false), (6, false)]) (by kernel_rfl) ?_
                    refine Op.pures 3 [3, 7, 8, 9, 10, 12, 164, 165, 166] (L' := [(3, false), (4, false), (5, false), (6, false)]) (e' := [(3, .pointer (some ⟨b1013, 0, none⟩)), (7, .slice (some ⟨b1178, o1179, none⟩) ((ns).length) n1121), (8, .int .i64 (n + (((kidsT ns x1176.Path).1).length : Int))), (9, .int .i64 j), (10, .slice (some ⟨b1258, o1259, none⟩) (((kidsT ns x1176.Path).1).length) n1198), (12, .int .i64 z), (164, .string (mkS (parentOf x1256))), (165, .slice (some ⟨b1178, o1179, none⟩) ((ns).length) n1121), (166, .int .i64 j)]) (by kernel_rfl) ?_
                    obtain ⟨x1269, hx1270⟩ : ∃ c, ns[(j : Int).toNat]? = some c := ⟨_, List.getElem?_eq_getElem (by omega)⟩
                    obtain ⟨b1271, o1272, cu1273, fz1274, ha1275, hb1276, hk1277⟩ := SlR.at_ hf1119 _ hx1270
                    cases ha1275
                    refine Op.idx (T := 52) (E := 59) (sz := 6) (by_ := 72) (n := ((ns).length)) (c := n1121) (k := .i64) (x := (.tmp 165)) (ix := (.tmp 166)) (dst := 167) (bk := b1178) (o := o1179) (m := j) (by kernel_rfl) (by kernel_rfl) (by kernel_rfl) (by kernel_rfl) (by omega) (by omega) ?_
                    obtain ⟨v1278, hv1279, hk1277⟩ := hk1277
                    obtain ⟨a1280, n1281, rfl⟩ := hv1279.form
                    refine Op.pures 1 [3, 7, 8, 9, 10, 12, 164, 168] (L' := [(5, false), (6, false)]) (e' := [(3, .pointer (some ⟨b1013, 0, none⟩)), (7, .slice (some ⟨b1178, o1179, none⟩) ((ns).length) n1121), (8, .int .i64 (n + (((kidsT ns x1176.Path).1).length : Int))), (9, .int .i64 j), (10, .slice (some ⟨b1258, o1259, none⟩) (((kidsT ns x1176.Path).1).length) n1198), (12, .int .i64 z), (164, .string (mkS (parentOf x1256))), (168, .pointer (some ⟨b1178, o1179 + (j : Int).toNat * 6, none⟩))]) (by kernel_rfl) ?_
                    refine Op.load (T := 9) (x := (.tmp 168)) (o := o1179 + (j : Int).toNat * 6) (d := 169) (n := 1) (v := .string (mkS x1269.Path)) (by kernel_rfl) (by kernel_rfl) (by kernel_rfl) (s1266.sub _ _ hb1276) (cut_get hk1277 0 rfl) ?_
                    refine Op.val (dst := some 170) (v := .bool (!((mkS (parentOf x1256)).toList == (mkS x1269.Path).toList))) (v' := .bool (!((parentOf x1256) == x1269.Path))) (by kernel_rfl) (by rw [toList_mkS, toList_mkS]) ?_
                    refine Op.goto 50 (by kernel_rfl) ?_
                    refine At.cond (b := !((parentOf x1256) == x1269.Path)) (c := .tmp 170) (by kernel_rfl) (by kernel_rfl) (by kernel_rfl) 51 53 (by kernel_rfl) (by kernel_rfl) (fun hb => ?_) (fun hb => ?_)
                    ·have c1282 : ¬ ((parentOf x1256) = x1269.Path) := neF (notT hb)
                     clear hb
                     refine At.keep [] ?_; show At _ _ _ [] _
                     refine At.reg (L := [(0, false)]) (by kernel_rfl) ?_
                     refine Op.pures 1 [2] (L' := []) (e' := [(2, .bool false)]) (by kernel_rfl) ?_
                     refine Op.goto 52 (by kernel_rfl) ?_
                     refine At.ret (f := Tryz.f13) (v := .bool false) (by kernel_rfl) (by kernel_rfl) ?_
                     have s1283 : St h g (ids []) g1152 [] h1265 := (s1266).drop.drop.drop
                     have s1284 : St h g (ids []) g [] h1265 := s1283.unfrz
                     refine hR _ _ _ _ s1284 ⟨?_, rfl, rfl⟩
                     exact (eqB (by (exfalso; have hln := hT.len; omega)))
                    ·have c1285 : (parentOf x1256) = x1269.Path := eq_of_beq (notF hb)
                     clear hb
                     refine At.keep [3, 7, 8, 9, 10, 12] ?_; show At _ _ _ [(3, .pointer (some ⟨b1013, 0, none⟩)), (7, .slice (some ⟨b1178, o1179, none⟩) ((ns).length) n1121), (8, .int .i64 (n + (((kidsT ns x1176.Path).1).length : Int))), (9, .int .i64 j), (10, .slice (some ⟨b1258, o1259, none⟩) (((kidsT ns x1176.Path).1).length) n1198), (12, .int .i64 z)] _
                     refine At.reg (L := [(0, false), (1, false), (2, false)]) (by kernel_rfl) ?_
                     refine Op.pures 1 [3, 7, 8, 9, 10, 12, 154] (L' := [(1, false), (2, false)]) (e' := [(3, .pointer (some ⟨b1013, 0, none⟩)), (7, .slice (some ⟨b1178, o1179, none⟩) ((ns).length) n1121), (8, .int .i64 (n + (((kidsT ns x1176.Path).1).length : Int))), (9, .int .i64 j), (10, .slice (some ⟨b1258, o1259, none⟩) (((kidsT ns x1176.Path).1).length) n1198), (12, .int .i64 z), (154, .int .i64 z)]) (by kernel_rfl) ?_
                     refine Op.val (dst := some 155) (v := .int .i64 (IntKind.wrap .i64 (z + 1))) (v' := .int .i64 (z + 1)) (by kernel_rfl) (wrapEq_i64 (by omega) (by omega)) ?_
                     refine Op.pures 1 [3, 7, 8, 9, 10, 12] (L' := []) (e' := [(3, .pointer (some ⟨b1013, 0, none⟩)), (7, .slice (some ⟨b1178, o1179, none⟩) ((ns).length) n1121), (8, .int .i64 (n + (((kidsT ns x1176.Path).1).length : Int))), (9, .int .i64 j), (10, .slice (some ⟨b1258, o1259, none⟩) (((kidsT ns x1176.Path).1).length) n1198), (12, .int .i64 (z + 1))]) (by kernel_rfl) ?_
                     refine Op.goto 46 (by kernel_rfl) ?_
                     exact ih46  (z + 1) _ (by omega) (by omega) (by omega) (by omega)  s1266
                   ·have c1286 : ¬ (z < (((kidsT ns x1176.Path).1).length : Int)) := of_decide_eq_false hb
                    clear hb
                    refine At.keep [3, 7, 8, 9] ?_; show At _ _ _ [(3, .pointer (some ⟨b1013, 0, none⟩)), (7, .slice (some ⟨b1178, o1179, none⟩) ((ns).length) n1121), (8, .int .i64 (n + (((kidsT ns x1176.Path).1).length : Int))), (9, .int .i64 j)] _
                    refine At.reg (L := [(0, false), (1, false), (2, false)]) (by kernel_rfl) ?_
                    refine Op.pures 1 [3, 7, 8, 9, 101] (L' := [(1, false), (2, false)]) (e' := [(3, .pointer (some ⟨b1013, 0, none⟩)), (7, .slice (some ⟨b1178, o1179, none⟩) ((ns).length) n1121), (8, .int .i64 (n + (((kidsT ns x1176.Path).1).length : Int))), (9, .int .i64 j), (101, .int .i64 j)]) (by kernel_rfl) ?_
                    refine Op.val (dst := some 102) (v := .int .i64 (IntKind.wrap .i64 (j + 1))) (v' := .int .i64 (j + 1)) (by kernel_rfl) (wrapEq_i64 (by omega) (by omega)) ?_
                    refine Op.pures 1 [3, 7, 8, 9] (L' := []) (e' := [(3, .pointer (some ⟨b1013, 0, none⟩)), (7, .slice (some ⟨b1178, o1179, none⟩) ((ns).length) n1121), (8, .int .i64 (n + (((kidsT ns x1176.Path).1).length : Int))), (9, .int .i64 (j + 1))]) (by kernel_rfl) ?_
                    refine Op.goto 37 (by kernel_rfl) ?_
                    have s1287 : St h g (ids []) g1152 [ch1195, c1133, c1025] h1254 := (((s_loop461253.front 0 rfl).front 2 rfl).front 2 rfl)
                    have s1288 : St h g (ids []) g1152 [c1133, c1025] h1254 := (s1287).drop
                    exact ih37  (n + (((kidsT ns x1176.Path).1).length : Int)) (j + 1) _ (by omega) (by omega) (by omega) (by omega) (by omega) (by exact right_n hT hn h4 (by assumption))  s1288
                 exact loop46 _  0 _ (Nat.lt_succ_self _) (by omega) (by omega) (by omega)  s1193
               ·refine Op.cast (e' := [(3, .pointer (some ⟨b1013, 0, none⟩)), (7, .slice (some ⟨b1178, o1179, none⟩) ((ns).length) n1121), (8, .int .i64 (n + (((kidsT ns x1176.Path).1).length : Int))), (9, .int .i64 j), (10, .slice a1197 (((kidsT ns x1176.Path).1).length) n1198), (132, .bool false), (135, .bool false)]) (by rw [hb]) ?_
                have c1289 : ¬ (j > (0 : Int)) := of_decide_eq_false hb
                clear hb
                refine Op.pures 14 [3, 7, 8, 9, 10, 149] (L' := []) (e' := [(3, .pointer (some ⟨b1013, 0, none⟩)), (7, .slice (some ⟨b1178, o1179, none⟩) ((ns).length) n1121), (8, .int .i64 (n + (((kidsT ns x1176.Path).1).length : Int))), (9, .int .i64 j), (10, .slice a1197 (((kidsT ns x1176.Path).1).length) n1198), (149, .bool false)]) (by kernel_rfl) ?_
                refine Op.goto 42 (by kernel_rfl) ?_
                refine At.condF (c := .tmp 149) (by kernel_rfl) (by kernel_rfl) (by kernel_rfl) 45 (by kernel_rfl) ?_
                refine At.reg (L := [(0, false)]) (by kernel_rfl) ?_
                refine Op.pures 1 [3, 7, 8, 9, 10, 12] (L' := []) (e' := [(3, .pointer (some ⟨b1013, 0, none⟩)), (7, .slice (some ⟨b1178, o1179, none⟩) ((ns).length) n1121), (8, .int .i64 (n + (((kidsT ns x1176.Path).1).length : Int))), (9, .int .i64 j), (10, .slice a1197 (((kidsT ns x1176.Path).1).length) n1198), (12, .int .i64 0)]) (by kernel_rfl) ?_
                refine Op.goto 46 (by kernel_rfl) ?_
                have loop46 : ∀ (m : Nat) (z : Int) (h1290 : Heap) (hm : ((kidsT ns x1176.Path).1).length - z.toNat < m) (h6 : 0 ≤ z) (h7 : z ≤ ((kidsT ns x1176.Path).1).length) (hq1 : n + (((kidsT ns x1176.Path).1).length : Int) ≤ 32 * (j + 1))     (s_loop461289 : St h g (ids []) g1152 [c1025, ch1195, c1133] h1290), At (fctx Tryz.prog B 13 Tryz.f13 R) [] 46 [(3, .pointer (some ⟨b1013, 0, none⟩)), (7, .slice (some ⟨b1178, o1179, none⟩) ((ns).length) n1121), (8, .int .i64 (n + (((kidsT ns x1176.Path).1).length : Int))), (9, .int .i64 j), (10, .slice a1197 (((kidsT ns x1176.Path).1).length) n1198), (12, .int .i64 z)] h1290 := by
                 intro m; induction m with
                 | zero => intros; omega
                 | succ m ih46 =>
                  intro z h1290 hm h6 h7 hq1 s_loop461289
                  refine At.reg (L := [(0, false), (1, false), (2, false), (3, false)]) (by kernel_rfl) ?_
                  refine Op.pures 4 [3, 7, 8, 9, 10, 12, 153] (L' := []) (e' := [(3, .pointer (some ⟨b1013, 0, none⟩)), (7, .slice (some ⟨b1178, o1179, none⟩) ((ns).length) n1121), (8, .int .i64 (n + (((kidsT ns x1176.Path).1).length : Int))), (9, .int .i64 j), (10, .slice a1197 (((kidsT ns x1176.Path).1).length) n1198), (12, .int .i64 z), (153, .bool (decide (z < (((kidsT ns x1176.Path).1).length : Int))))]) (by kernel_rfl) ?_
                  refine Op.goto 47 (by kernel_rfl) ?_
                  refine At.cond (b := decide (z < (((kidsT ns x1176.Path).1).length : Int))) (c := .tmp 153) (by kernel_rfl) (by kernel_rfl) (by kernel_rfl) 48 54 (by kernel_rfl) (by kernel_rfl) (fun hb => ?_) (fun hb => ?_)
                  ·have c1291 : z < (((kidsT ns x1176.Path).1).length : Int) := of_decide_eq_true hb
                   clear hb
                   refine At.keep [3, 7, 8, 9, 10, 12] ?_; show At _ _ _ [(3, .pointer (some ⟨b1013, 0, none⟩)), (7, .slice (some ⟨b1178, o1179, none⟩) ((ns).length) n1121), (8, .int .i64 (n + (((kidsT ns x1176.Path).1).length : Int))), (9, .int .i64 j), (10, .slice a1197 (((kidsT ns x1176.Path).1).length) n1198), (12, .int .i64 z)] _
                   refine At.reg (L := [(0, false), (1, false), (2, false), (3, false), (4, false), (5, false), (6, false), (7, false), (8, false), (9, false)]) (by kernel_rfl) ?_
                   refine Op.pures 2 [3, 7, 8, 9, 10, 12, 157, 158] (L' := [(2, false), (3, false), (4, false), (5, false), (6, false), (7, false), (8, false), (9, false)]) (e' := [(3, .pointer (some ⟨b1013, 0, none⟩)), (7, .slice (some ⟨b1178, o1179, none⟩) ((ns).length) n1121), (8, .int .i64 (n + (((kidsT ns x1176.Path).1).length : Int))), (9, .int .i64 j), (10, .slice a1197 (((kidsT ns x1176.Path).1).length) n1198), (12, .int .i64 z), (157, .slice a1197 (((kidsT ns x1176.Path).1).length) n1198), (158, .int .i64 z)]) (by kernel_rfl) ?_
                   obtain ⟨x1292, hx1293⟩ : ∃ c, ((kidsT ns x1176.Path).1)[(z : Int).toNat]? = some c := ⟨_, List.getElem?_eq_getElem (by omega)⟩
                   obtain ⟨b1294, o1295, cu1296, fz1297, ha1298, hb1299, hk1300⟩ := SlH.at_ (R1196.toH s_loop461289 1 rfl) _ hx1293
                   cases ha1298
                   refine Op.idx (T := 54) (E := 9) (sz := 1) (by_ := 16) (n := (((kidsT ns x1176.Path).1).length)) (c := n1198) (k := .i64) (x := (.tmp 157)) (ix := (.tmp 158)) (dst := 159) (bk := b1294) (o := o1295) (m := z) (by kernel_rfl) (by kernel_rfl) (by kernel_rfl) (by kernel_rfl) (by omega) (by omega) ?_
                   replace hk1300 : cut _ _ _ = [.string (mkS x1292)] := hk1300
                   refine Op.load (T := 9) (x := (.tmp 159)) (o := o1295 + (z : Int).toNat * 1) (d := 160) (n := 1) (v := .string (mkS x1292)) (by kernel_rfl) (by kernel_rfl) (by kernel_rfl) hb1299 (cut_get hk1300 0 rfl) ?_
                   refine Op.call0 (dst := some 161) (f := 36) (args := #[.string (mkS x1292)]) (by kernel_rfl) s_loop461289 (parentP _ _ _ s_loop461289.sub hG x1292 (by ((try dsimp only) <;> (omega))) ) ?_
                   rintro _ g1303 _ h1301 hle1304 s1302 ⟨rfl, hgg, rfl⟩; subst g1303; clear hle1304
                   refine Op.pures 5 [3, 7, 8, 9, 10, 12, 13] (L' := []) (e' := [(3, .pointer (some ⟨b1013, 0, none⟩)), (7, .slice (some ⟨b1178, o1179, none⟩) ((ns).length) n1121), (8, .int .i64 (n + (((kidsT ns x1176.Path).1).length : Int))), (9, .int .i64 j), (10, .slice (some ⟨b1294, o1295, none⟩) (((kidsT ns x1176.Path).1).length) n1198), (12, .int .i64 z), (13, .string (mkS (parentOf x1292)))]) (by kernel_rfl) ?_
                   refine Op.goto 49 (by kernel_rfl) ?_
                   refine At.reg (L := [(0, false), (1, false), (2, false), (3, false), (4, false), (5, false), (6, false)]) (by kernel_rfl) ?_
                   refine Op.pures 3 [3, 7, 8, 9, 10, 12, 164, 165, 166] (L' := [(3, false), (4, false), (5, false), (6, false)]) (e' := [(3, .pointer (some ⟨b1013, 0, none⟩)), (7, .slice (some ⟨b1178, o1179, none⟩) ((ns).length) n1121), (8, .int .i64 (n + (((kidsT ns x1176.Path).1).length : Int))), (9, .int .i64 j), (10, .slice (some ⟨b1294, o1295, none⟩) (((kidsT ns x1176.Path).1).length) n1198), (12, .int .i64 z), (164, .string (mkS (parentOf x1292))), (165, .slice (some ⟨b1178, o1179, none⟩) ((ns).length) n1121), (166, .int .i64 j)]) (by kernel_rfl) ?_
                   obtain ⟨x1305, hx1306⟩ : ∃ c, ns[(j : Int).toNat]? = some c := ⟨_, List.getElem?_eq_getElem (by omega)⟩
                   obtain ⟨b1307, o1308, cu1309, fz1310, ha1311, hb1312, hk1313⟩ := SlR.at_ hf1119 _ hx1306
                   cases ha1311
                   refine Op.idx (T := 52) (E := 59) (sz := 6) (by_ := 72) (n := ((ns).length)) (c := n1121) (k := .i64) (x := (.tmp 165)) (ix := (.tmp 166)) (dst := 167) (bk := b1178) (o := o1179) (m := j) (by kernel_rfl) (by kernel_rfl) (by kernel_rfl) (by kernel_rfl) (by omega) (by omega) ?_
                   obtain ⟨v1314, hv1315, hk1313⟩ := hk1313
                   obtain ⟨a1316, n1317, rfl⟩ := hv1315.form
                   refine Op.pures 1 [3, 7, 8, 9, 10, 12, 164, 168] (L' := [(5, false), (6, false)]) (e' := [(3, .pointer (some ⟨b1013, 0, none⟩)), (7, .slice (some ⟨b1178, o1179, none⟩) ((ns).length) n1121), (8, .int .i64 (n + (((kidsT ns x1176.Path).1).length : Int))), (9, .int .i64 j), (10, .slice (some ⟨b1294, o1295, none⟩) (((kidsT ns x1176.Path).1).length) n1198), (12, .int .i64 z), (164, .string (mkS (parentOf x1292))), (168, .pointer (some ⟨b1178, o1179 + (j : Int).toNat * 6, none⟩))]) (by kernel_rfl) ?_
                   refine Op.load (T := 9) (x := (.tmp 168)) (o := o1179 + (j : Int).toNat * 6) (d := 169) (n := 1) (v := .string (mkS x1305.Path)) (by kernel_rfl) (by kernel_rfl) (by kernel_rfl) (s1302.sub _ _ hb1312) (cut_get hk1313 0 rfl) ?_
                   refine Op.val (dst := some 170) (v := .bool (!((mkS (parentOf x1292)).toList == (mkS x1305.Path).toList))) (v' := .bool (!((parentOf x1292) == x1305.Path))) (by kernel_rfl) (by rw [toList_mkS, toList_mkS]) ?_
                   refine Op.goto 50 (by kernel_rfl) ?_
                   refine At.cond (b := !((parentOf x1292) == x1305.Path)) (c := .tmp 170) (by kernel_rfl) (by kernel_rfl) (by kernel_rfl) 51 53 (by kernel_rfl) (by kernel_rfl) (fun hb => ?_) (fun hb => ?_)
                   ·have c1318 : ¬ ((parentOf x1292) = x1305.Path) := neF (notT hb)
                    clear hb
                    refine At.keep [] ?_; show At _ _ _ [] _
                    refine At.reg (L := [(0, false)]) (by kernel_rfl) ?_
                    refine Op.pures 1 [2] (L' := []) (e' := [(2, .bool false)]) (by kernel_rfl) ?_
                    refine Op.goto 52 (by kernel_rfl) ?_
                    refine At.ret (f := Tryz.f13) (v := .bool false) (by kernel_rfl) (by kernel_rfl) ?_
                    have s1319 : St h g (ids []) g1152 [] h1301 := (s1302).drop.drop.drop
                    have s1320 : St h g (ids []) g [] h1301 := s1319.unfrz
                    refine hR _ _ _ _ s1320 ⟨?_, rfl, rfl⟩
                    exact (eqB (by (exfalso; have hln := hT.len; omega)))
                   ·have c1321 : (parentOf x1292) = x1305.Path := eq_of_beq (notF hb)
                    clear hb
                    refine At.keep [3, 7, 8, 9, 10, 12] ?_; show At _ _ _ [(3, .pointer (some ⟨b1013, 0, none⟩)), (7, .slice (some ⟨b1178, o1179, none⟩) ((ns).length) n1121), (8, .int .i64 (n + (((kidsT ns x1176.Path).1).length : Int))), (9, .int .i64 j), (10, .slice (some ⟨b1294, o1295, none⟩) (((kidsT ns x1176.Path).1).length) n1198), (12, .int .i64 z)] _
                    refine At.reg (L := [(0, false), (1, false), (2, false)]) (by kernel_rfl) ?_
                    refine Op.pures 1 [3, 7, 8, 9, 10, 12, 154] (L' := [(1, false), (2, false)]) (e' := [(3, .pointer (some ⟨b1013, 0, none⟩)), (7, .slice (some ⟨b1178, o1179, none⟩) ((ns).length) n1121), (8, .int .i64 (n + (((kidsT ns x1176.Path).1).length : Int))), (9, .int .i64 j), (10, .slice (some ⟨b1294, o1295, none⟩) (((kidsT ns x1176.Path).1).length) n1198), (12, .int .i64 z), (154, .int .i64 z)]) (by kernel_rfl) ?_
                    refine Op.val (dst := some 155) (v := .int .i64 (IntKind.wrap .i64 (z + 1))) (v' := .int .i64 (z + 1)) (by kernel_rfl) (wrapEq_i64 (by omega) (by omega)) ?_
                    refine Op.pures 1 [3, 7, 8, 9, 10, 12] (L' := []) (e' := [(3, .pointer (some ⟨b1013, 0, none⟩)), (7, .slice (some ⟨b1178, o1179, none⟩) ((ns).length) n1121), (8, .int .i64 (n + (((kidsT ns x1176.Path).1).length : Int))), (9, .int .i64 j), (10, .slice (some ⟨b1294, o1295, none⟩) (((kidsT ns x1176.Path).1).length) n1198), (12, .int .i64 (z + 1))]) (by kernel_rfl) ?_
                    refine Op.goto 46 (by kernel_rfl) ?_
                    exact ih46  (z + 1) _ (by omega) (by omega) (by omega) (by omega)  s1302
                  ·have c1322 : ¬ (z < (((kidsT ns x1176.Path).1).length : Int)) := of_decide_eq_false hb
                   clear hb
                   refine At.keep [3, 7, 8, 9] ?_; show At _ _ _ [(3, .pointer (some ⟨b1013, 0, none⟩)), (7, .slice (some ⟨b1178, o1179, none⟩) ((ns).length) n1121), (8, .int .i64 (n + (((kidsT ns x1176.Path).1).length : Int))), (9, .int .i64 j)] _
                   refine At.reg (L := [(0, false), (1, false), (2, false)]) (by kernel_rfl) ?_
                   refine Op.pures 1 [3, 7, 8, 9, 101] (L' := [(1, false), (2, false)]) (e' := [(3, .pointer (some ⟨b1013, 0, none⟩)), (7, .slice (some ⟨b1178, o1179, none⟩) ((ns).length) n1121), (8, .int .i64 (n + (((kidsT ns x1176.Path).1).length : Int))), (9, .int .i64 j), (101, .int .i64 j)]) (by kernel_rfl) ?_
                   refine Op.val (dst := some 102) (v := .int .i64 (IntKind.wrap .i64 (j + 1))) (v' := .int .i64 (j + 1)) (by kernel_rfl) (wrapEq_i64 (by omega) (by omega)) ?_
                   refine Op.pures 1 [3, 7, 8, 9] (L' := []) (e' := [(3, .pointer (some ⟨b1013, 0, none⟩)), (7, .slice (some ⟨b1178, o1179, none⟩) ((ns).length) n1121), (8, .int .i64 (n + (((kidsT ns x1176.Path).1).length : Int))), (9, .int .i64 (j + 1))]) (by kernel_rfl) ?_
                   refine Op.goto 37 (by kernel_rfl) ?_
                   have s1323 : St h g (ids []) g1152 [ch1195, c1133, c1025] h1290 := (((s_loop461289.front 0 rfl).front 2 rfl).front 2 rfl)
                   have s1324 : St h g (ids []) g1152 [c1133, c1025] h1290 := (s1323).drop
                   exact ih37  (n + (((kidsT ns x1176.Path).1).length : Int)) (j + 1) _ (by omega) (by omega) (by omega) (by omega) (by omega) (by exact right_n hT hn h4 (by assumption))  s1324
                exact loop46 _  0 _ (Nat.lt_succ_self _) (by omega) (by omega) (by omega)  s1193
             ·refine Op.cast (e' := [(3, .pointer (some ⟨b1013, 0, none⟩)), (7, .slice (some ⟨b1178, o1179, none⟩) ((ns).length) n1121), (8, .int .i64 (n + (((kidsT ns x1176.Path).1).length : Int))), (9, .int .i64 j), (10, .slice a1197 (((kidsT ns x1176.Path).1).length) n1198), (119, .bool false), (126, .bool false)]) (by rw [hb]) ?_
              have c1325 : x1176.Owner = ((-1) : Int) := bneF hb
              clear hb
              refine Op.pures 9 [3, 7, 8, 9, 10, 132, 135] (L' := [(19, true), (20, true), (21, true), (22, true), (23, true), (25, true), (26, true), (27, true), (28, true), (24, true), (29, false), (30, true), (31, true), (32, true)]) (e' := [(3, .pointer (some ⟨b1013, 0, none⟩)), (7, .slice (some ⟨b1178, o1179, none⟩) ((ns).length) n1121), (8, .int .i64 (n + (((kidsT ns x1176.Path).1).length : Int))), (9, .int .i64 j), (10, .slice a1197 (((kidsT ns x1176.Path).1).length) n1198), (132, .bool false), (135, .bool (decide (j > (0 : Int))))]) (by kernel_rfl) ?_
              refine Op.ways (b := decide (j > (0 : Int))) ⟨fun hb => ?_, fun hb => ?_⟩
              ·refine Op.cast (e' := [(3, .pointer (some ⟨b1013, 0, none⟩)), (7, .slice (some ⟨b1178, o1179, none⟩) ((ns).length) n1121), (8, .int .i64 (n + (((kidsT ns x1176.Path).1).length : Int))), (9, .int .i64 j), (10, .slice a1197 (((kidsT ns x1176.Path).1).length) n1198), (132, .bool false), (135, .bool true)]) (by rw [hb]) ?_
               have c1326 : j > (0 : Int) := of_decide_eq_true hb
               clear hb
               refine Op.pures 2 [3, 7, 8, 9, 10, 132, 135, 136, 137] (L' := [(21, true), (22, true), (23, true), (25, true), (26, true), (27, true), (28, true), (24, true), (29, false), (30, true), (31, true), (32, true)]) (e' := [(3, .pointer (some ⟨b1013, 0, none⟩)), (7, .slice (some ⟨b1178, o1179, none⟩) ((ns).length) n1121), (8, .int .i64 (n + (((kidsT ns x1176.Path).1).length : Int))), (9, .int .i64 j), (10, .slice a1197 (((kidsT ns x1176.Path).1).length) n1198), (132, .bool false), (135, .bool true), (136, .slice (some ⟨b1178, o1179, none⟩) ((ns).length) n1121), (137, .int .i64 j)]) (by kernel_rfl) ?_
               refine Op.val (dst := some 138) (v := .int .i64 (IntKind.wrap .i64 (j - 1))) (v' := .int .i64 (j - 1)) (by kernel_rfl) (wrapEq_i64 (by omega) (by omega)) ?_
               obtain ⟨x1327, hx1328⟩ : ∃ c, ns[(j - 1 : Int).toNat]? = some c := ⟨_, List.getElem?_eq_getElem (by omega)⟩
               obtain ⟨b1329, o1330, cu1331, fz1332, ha1333, hb1334, hk1335⟩ := SlR.at_ hf1119 _ hx1328
               cases ha1333
               refine Op.idx (T := 52) (E := 59) (sz := 6) (by_ := 72) (n := ((ns).length)) (c := n1121) (k := .i64) (x := (.tmp 136)) (ix := (.tmp 138)) (dst := 139) (bk := b1178) (o := o1179) (m := j - 1) (by kernel_rfl) (by kernel_rfl) (by kernel_rfl) (by kernel_rfl) (by omega) (by omega) ?_
               obtain ⟨v1336, hv1337, hk1335⟩ := hk1335
               obtain ⟨a1338, n1339, rfl⟩ := hv1337.form
               refine Op.pures 3 [3, 7, 8, 9, 10, 132, 135, 140, 142, 143] (L' := [(27, true), (28, true), (24, true), (29, false), (30, true), (31, true), (32, true)]) (e' := [(3, .pointer (some ⟨b1013, 0, none⟩)), (7, .slice (some ⟨b1178, o1179, none⟩) ((ns).length) n1121), (8, .int .i64 (n + (((kidsT ns x1176.Path).1).length : Int))), (9, .int .i64 j), (10, .slice a1197 (((kidsT ns x1176.Path).1).length) n1198), (132, .bool false), (135, .bool true), (140, .pointer (some ⟨b1178, o1179 + (j - 1 : Int).toNat * 6, none⟩)), (142, .slice (some ⟨b1178, o1179, none⟩) ((ns).length) n1121), (143, .int .i64 j)]) (by kernel_rfl) ?_
               obtain ⟨b1342, o1343, cu1344, fz1345, ha1346, hb1347, hk1348⟩ := SlR.at_ hf1119 _ hx1177
               cases ha1346
               refine Op.idx (T := 52) (E := 59) (sz := 6) (by_ := 72) (n := ((ns).length)) (c := n1121) (k := .i64) (x := (.tmp 142)) (ix := (.tmp 143)) (dst := 144) (bk := b1178) (o := o1179) (m := j) (by kernel_rfl) (by kernel_rfl) (by kernel_rfl) (by kernel_rfl) (by omega) (by omega) ?_
               obtain ⟨v1349, hv1350, hk1348⟩ := hk1348
               obtain ⟨a1351, n1352, rfl⟩ := hv1350.form
               refine Op.pures 1 [3, 7, 8, 9, 10, 132, 135, 140, 145] (L' := [(24, true), (29, false), (30, true), (31, true), (32, true)]) (e' := [(3, .pointer (some ⟨b1013, 0, none⟩)), (7, .slice (some ⟨b1178, o1179, none⟩) ((ns).length) n1121), (8, .int .i64 (n + (((kidsT ns x1176.Path).1).length : Int))), (9, .int .i64 j), (10, .slice a1197 (((kidsT ns x1176.Path).1).length) n1198), (132, .bool false), (135, .bool true), (140, .pointer (some ⟨b1178, o1179 + (j - 1 : Int).toNat * 6, none⟩)), (145, .pointer (some ⟨b1178, o1179 + (j : Int).toNat * 6, none⟩))]) (by kernel_rfl) ?_
               refine Op.loadF (T := 9) (x := (.tmp 140)) (o := o1179 + (j - 1 : Int).toNat * 6) (d := 141) (n := 1) (v := .string (mkS x1327.Path)) (by kernel_rfl) (by kernel_rfl) (by kernel_rfl) (fun h => h) (s1193.sub _ _ hb1334) (cut_get hk1335 0 rfl) ?_
               refine Op.load (T := 9) (x := (.tmp 145)) (o := o1179 + (j : Int).toNat * 6) (d := 146) (n := 1) (v := .string (mkS x1176.Path)) (by kernel_rfl) (by kernel_rfl) (by kernel_rfl) (s1193.sub _ _ hb1347) (cut_get hk1348 0 rfl) ?_
               refine Op.val (dst := some 147) (v := .bool (!(Go.Op.bytesLess (mkS x1327.Path).toList (mkS x1176.Path).toList))) (v' := .bool (!(Go.Op.bytesLess x1327.Path x1176.Path))) (by kernel_rfl) (by rw [toList_mkS, toList_mkS]) ?_
               refine Op.pures 2 [3, 7, 8, 9, 10, 149] (L' := []) (e' := [(3, .pointer (some ⟨b1013, 0, none⟩)), (7, .slice (some ⟨b1178, o1179, none⟩) ((ns).length) n1121), (8, .int .i64 (n + (((kidsT ns x1176.Path).1).length : Int))), (9, .int .i64 j), (10, .slice a1197 (((kidsT ns x1176.Path).1).length) n1198), (149, .bool (!(Go.Op.bytesLess x1327.Path x1176.Path)))]) (by kernel_rfl) ?_
               refine Op.goto 42 (by kernel_rfl) ?_
               refine At.cond (b := !(Go.Op.bytesLess x1327.Path x1176.Path)) (c := .tmp 149) (by kernel_rfl) (by kernel_rfl) (by kernel_rfl) 43 45 (by kernel_rfl) (by kernel_rfl) (fun hb => ?_) (fun hb => ?_)
               ·have c1353 : (Go.Op.bytesLess x1327.Path x1176.Path) = false := (notT hb)
                clear hb
                refine At.keep [] ?_; show At _ _ _ [] _
                refine At.reg (L := [(0, false)]) (by kernel_rfl) ?_
                refine Op.pures 1 [2] (L' := []) (e' := [(2, .bool false)]) (by kernel_rfl) ?_
                refine Op.goto 44 (by kernel_rfl) ?_
                refine At.ret (f := Tryz.f13) (v := .bool false) (by kernel_rfl) (by kernel_rfl) ?_
                have s1354 : St h g (ids []) g1152 [] h1192 := (s1193).drop.drop.drop
                have s1355 : St h g (ids []) g [] h1192 := s1354.unfrz
                refine hR _ _ _ _ s1355 ⟨?_, rfl, rfl⟩
                exact (eqB (by exact absurd (right_s hT (by assumption) (by assumption) (by assumption)) (Bool.eq_false_iff.1 c1353)))
               ·have c1356 : (Go.Op.bytesLess x1327.Path x1176.Path) = true := (notF hb)
                clear hb
                refine At.keep [3, 7, 8, 9, 10] ?_; show At _ _ _ [(3, .pointer (some ⟨b1013, 0, none⟩)), (7, .slice (some ⟨b1178, o1179, none⟩) ((ns).length) n1121), (8, .int .i64 (n + (((kidsT ns x1176.Path).1).length : Int))), (9, .int .i64 j), (10, .slice a1197 (((kidsT ns x1176.Path).1).length) n1198)] _
                refine At.reg (L := [(0, false)]) (by kernel_rfl) ?_
                refine Op.pures 1 [3, 7, 8, 9, 10, 12] (L' := []) (e' := [(3, .pointer (some ⟨b1013, 0, none⟩)), (7, .slice (some ⟨b1178, o1179, none⟩) ((ns).length) n1121), (8, .int .i64 (n + (((kidsT ns x1176.Path).1).length : Int))), (9, .int .i64 j), (10, .slice a1197 (((kidsT ns x1176.Path).1).length) n1198), (12, .int .i64 0)]) (by kernel_rfl) ?_
                refine Op.goto 46 (by kernel_rfl) ?_
                have loop46 : ∀ (m : Nat) (z : Int) (h1357 : Heap) (hm : ((kidsT ns x1176.Path).1).length - z.toNat < m) (h6 : 0 ≤ z) (h7 : z ≤ ((kidsT ns x1176.Path).1).length) (hq1 : n + (((kidsT ns x1176.Path).1).length : Int) ≤ 32 * (j + 1))     (s_loop461356 : St h g (ids []) g1152 [c1025, ch1195, c1133] h1357), At (fctx Tryz.prog B 13 Tryz.f13 R) [] 46 [(3, .pointer (some ⟨b1013, 0, none⟩)), (7, .slice (some ⟨b1178, o1179, none⟩) ((ns).length) n1121), (8, .int .i64 (n + (((kidsT ns x1176.Path).1).length : Int))), (9, .int .i64 j), (10, .slice a1197 (((kidsT ns x1176.Path).1).length) n1198), (12, .int .i64 z)] h1357 := by
                 intro m; induction m with
                 | zero => intros; omega
                 | succ m ih46 =>
                  intro z h1357 hm h6 h7 hq1 s_loop461356
                  refine At.reg (L := [(0, false), (1, false), (2, false), (3, false)]) (by kernel_rfl) ?_
                  refine Op.pures 4 [3, 7, 8, 9, 10, 12, 153] (L' := []) (e' := [(3, .pointer (some ⟨b1013, 0, none⟩)), (7, .slice (some ⟨b1178, o1179, none⟩) ((ns).length) n1121), (8, .int .i64 (n + (((kidsT ns x1176.Path).1).length : Int))), (9, .int .i64 j), (10, .slice a1197 (((kidsT ns x1176.Path).1).length) n1198), (12, .int .i64 z), (153, .bool (decide (z < (((kidsT ns x1176.Path).1).length : Int))))]) (by kernel_rfl) ?_
                  refine Op.goto 47 (by kernel_rfl) ?_
                  refine At.cond (b := decide (z < (((kidsT ns x1176.Path).1).length : Int))) (c := .tmp 153) (by kernel_rfl) (by kernel_rfl) (by kernel_rfl) 48 54 (by kernel_rfl) (by kernel_rfl) (fun hb => ?_) (fun hb => ?_)
                  ·have c1358 : z < (((kidsT ns x1176.Path).1).length : Int) := of_decide_eq_true hb
                   clear hb
                   refine At.keep [3, 7, 8, 9, 10, 12] ?_; show At _ _ _ [(3, .pointer (some ⟨b1013, 0, none⟩)), (7, .slice (some ⟨b1178, o1179, none⟩) ((ns).length) n1121), (8, .int .i64 (n + (((kidsT ns x1176.Path).1).length : Int))), (9, .int .i64 j), (10, .slice a1197 (((kidsT ns x1176.Path).1).length) n1198), (12, .int .i64 z)] _
                   refine At.reg (L := [(0, false), (1, false), (2, false), (3, false), (4, false), (5, false), (6, false), (7, false), (8, false), (9, false)]) (by kernel_rfl) ?_
                   refine Op.pures 2 [3, 7, 8, 9, 10, 12, 157, 158] (L' := [(2, false), (3, false), (4, false), (5, false), (6, false), (7, false), (8, false), (9, false)]) (e' := [(3, .pointer (some ⟨b1013, 0, none⟩)), (7, .slice (some ⟨b1178, o1179, none⟩) ((ns).length) n1121), (8, .int .i64 (n + (((kidsT ns x1176.Path).1).length : Int))), (9, .int .i64 j), (10, .slice a1197 (((kidsT ns x1176.Path).1).length) n1198), (12, .int .i64 z), (157, .slice a1197 (((kidsT ns x1176.Path).1).length) n1198), (158, .int .i64 z)]) (by kernel_rfl) ?_
                   obtain ⟨x1359, hx1360⟩ : ∃ c, ((kidsT ns x1176.Path).1)[(z : Int).toNat]? = some c := ⟨_, List.getElem?_eq_getElem (by omega)⟩
                   obtain ⟨b1361, o1362, cu1363, fz1364, ha1365, hb1366, hk1367⟩ := SlH.at_ (R1196.toH s_loop461356 1 rfl) _ hx1360
                   cases ha1365
                   refine Op.idx (T := 54) (E := 9) (sz := 1) (by_ := 16) (n := (((kidsT ns x1176.Path).1).length)) (c := n1198) (k := .i64) (x := (.tmp 157)) (ix := (.tmp 158)) (dst := 159) (bk := b1361) (o := o1362) (m := z) (by kernel_rfl) (by kernel_rfl) (by kernel_rfl) (by kernel_rfl) (by omega) (by omega) ?_
                   replace hk1367 : cut _ _ _ = [.string (mkS x1359)] := hk1367
                   refine Op.load (T := 9) (x := (.tmp 159)) (o := o1362 + (z : Int).toNat * 1) (d := 160) (n := 1) (v := .string (mkS x1359)) (by kernel_rfl) (by kernel_rfl) (by kernel_rfl) hb1366 (cut_get hk1367 0 rfl) ?_
                   refine Op.call0 (dst := some 161) (f := 36) (args := #[.string (mkS x1359)]) (by kernel_rfl) s_loop461356 (parentP _ _ _ s_loop461356.sub hG x1359 (by ((try dsimp only) <;> ((have h9 := right_q hT (by assumption) hx1360; omega)))) ) ?_
                   rintro _ g1370 _ h1368 hle1371 s1369 ⟨rfl, hgg, rfl⟩; subst g1370; clear hle1371
                   refine Op.pures 5 [3, 7, 8, 9, 10, 12, 13] (L' := []) (e' := [(3, .pointer (some ⟨b1013, 0, none⟩)), (7, .slice (some ⟨b1178, o1179, none⟩) ((ns).length) n1121), (8, .int .i64 (n + (((kidsT ns x1176.Path).1).length : Int))), (9, .int .i64 j), (10, .slice (some ⟨b1361, o1362, none⟩) (((kidsT ns x1176.Path).1).length) n1198), (12, .int .i64 z), (13, .string (mkS (parentOf x1359)))]) (by kernel_rfl) ?_
                   refine Op.goto 49 (by kernel_rfl) ?_
                   refine At.reg (L := [(0, false), (1, false), (2, false), (3, false), (4, false), (5, false), (6, false)]) (by kernel_rfl) ?_
                   refine Op.pures 3 [3, 7, 8, 9, 10, 12, 164, 165, 166] (L' := [(3, false), (4, false), (5, false), (6, false)]) (e' := [(3, .pointer (some ⟨b1013, 0, none⟩)), (7, .slice (some ⟨b1178, o1179, none⟩) ((ns).length) n1121), (8, .int .i64 (n + (((kidsT ns x1176.Path).1).length : Int))), (9, .int .i64 j), (10, .slice (some ⟨b1361, o1362, none⟩) (((kidsT ns x1176.Path).1).length) n1198), (12, .int .i64 z), (164, .string (mkS (parentOf x1359))), (165, .slice (some ⟨b1178, o1179, none⟩) ((ns).length) n1121), (166, .int .i64 j)]) (by kernel_rfl) ?_
                   obtain ⟨x1372, hx1373⟩ : ∃ c, ns[(j : Int).toNat]? = some c := ⟨_, List.getElem?_eq_getElem (by omega)⟩
                   obtain ⟨b1374, o1375, cu1376, fz1377, ha1378, hb1379, hk1380⟩ := SlR.at_ hf1119 _ hx1373
                   cases ha1378
                   refine Op.idx (T := 52) (E := 59) (sz := 6) (by_ := 72) (n := ((ns).length)) (c := n1121) (k := .i64) (x := (.tmp 165)) (ix := (.tmp 166)) (dst := 167) (bk := b1178) (o := o1179) (m := j) (by kernel_rfl) (by kernel_rfl) (by kernel_rfl) (by kernel_rfl) (by omega) (by omega) ?_
                   obtain ⟨v1381, hv1382, hk1380⟩ := hk1380
                   obtain ⟨a1383, n1384, rfl⟩ := hv1382.form
                   refine Op.pures 1 [3, 7, 8, 9, 10, 12, 164, 168] (L' := [(5, false), (6, false)]) (e' := [(3, .pointer (some ⟨b1013, 0, none⟩)), (7, .slice (some ⟨b1178, o1179, none⟩) ((ns).length) n1121), (8, .int .i64 (n + (((kidsT ns x1176.Path).1).length : Int))), (9, .int .i64 j), (10, .slice (some ⟨b1361, o1362, none⟩) (((kidsT ns x1176.Path).1).length) n1198), (12, .int .i64 z), (164, .string (mkS (parentOf x1359))), (168, .pointer (some ⟨b1178, o1179 + (j : Int).toNat * 6, none⟩))]) (by kernel_rfl) ?_
                   refine Op.load (T := 9) (x := (.tmp 168)) (o := o1179 + (j : Int).toNat * 6) (d := 169) (n := 1) (v := .string (mkS x1372.Path)) (by kernel_rfl) (by kernel_rfl) (by kernel_rfl) (s1369.sub _ _ hb1379) (cut_get hk1380 0 rfl) ?_
                   refine Op.val (dst := some 170) (v := .bool (!((mkS (parentOf x1359)).toList == (mkS x1372.Path).toList))) (v' := .bool (!((parentOf x1359) == x1372.Path))) (by kernel_rfl) (by rw [toList_mkS, toList_mkS]) ?_
                   refine Op.goto 50 (by kernel_rfl) ?_
                   refine At.cond (b := !((parentOf x1359) == x1372.Path)) (c := .tmp 170) (by kernel_rfl) (by kernel_rfl) (by kernel_rfl) 51 53 (by kernel_rfl) (by kernel_rfl) (fun hb => ?_) (fun hb => ?_)
                   ·have c1385 : ¬ ((parentOf x1359) = x1372.Path) := neF (notT hb)
                    clear hb
                    refine At.keep [] ?_; show At _ _ _ [] _
                    refine At.reg (L := [(0, false)]) (by kernel_rfl) ?_
                    refine Op.pures 1 [2] (L' := []) (e' := [(2, .bool false)]) (by kernel_rfl) ?_
                    refine Op.goto 52 (by kernel_rfl) ?_
                    refine At.ret (f := Tryz.f13) (v := .bool false) (by kernel_rfl) (by kernel_rfl) ?_
                    have s1386 : St h g (ids []) g1152 [] h1368 := (s1369).drop.drop.drop
                    have s1387 : St h g (ids []) g [] h1368 := s1386.unfrz
                    refine hR _ _ _ _ s1387 ⟨?_, rfl, rfl⟩
                    exact (eqB (by exact absurd (right_k hT (by assumption) hx1360 hx1373) c1385))
                   ·have c1388 : (parentOf x1359) = x1372.Path := eq_of_beq (notF hb)
                    clear hb
                    refine At.keep [3, 7, 8, 9, 10, 12] ?_; show At _ _ _ [(3, .pointer (some ⟨b1013, 0, none⟩)), (7, .slice (some ⟨b1178, o1179, none⟩) ((ns).length) n1121), (8, .int .i64 (n + (((kidsT ns x1176.Path).1).length : Int))), (9, .int .i64 j), (10, .slice (some ⟨b1361, o1362, none⟩) (((kidsT ns x1176.Path).1).length) n1198), (12, .int .i64 z)] _
                    refine At.reg (L := [(0, false), (1, false), (2, false)]) (by kernel_rfl) ?_
                    refine Op.pures 1 [3, 7, 8, 9, 10, 12, 154] (L' := [(1, false), (2, false)]) (e' := [(3, .pointer (some ⟨b1013, 0, none⟩)), (7, .slice (some ⟨b1178, o1179, none⟩) ((ns).length) n1121), (8, .int .i64 (n + (((kidsT ns x1176.Path).1).length : Int))), (9, .int .i64 j), (10, .slice (some ⟨b1361, o1362, none⟩) (((kidsT ns x1176.Path).1).length) n1198), (12, .int .i64 z), (154, .int .i64 z)]) (by kernel_rfl) ?_
                    refine Op.val (dst := some 155) (v := .int .i64 (IntKind.wrap .i64 (z + 1))) (v' := .int .i64 (z + 1)) (by kernel_rfl) (wrapEq_i64 (by omega) (by omega)) ?_
                    refine Op.pures 1 [3, 7, 8, 9, 10, 12] (L' := []) (e' := [(3, .pointer (some ⟨b1013, 0, none⟩)), (7, .slice (some ⟨b1178, o1179, none⟩) ((ns).length) n1121), (8, .int .i64 (n + (((kidsT ns x1176.Path).1).length : Int))), (9, .int .i64 j), (10, .slice (some ⟨b1361, o1362, none⟩) (((kidsT ns x1176.Path).1).length) n1198), (12, .int .i64 (z + 1))]) (by kernel_rfl) ?_
                    refine Op.goto 46 (by kernel_rfl) ?_
                    exact ih46  (z + 1) _ (by omega) (by omega) (by omega) (by omega)  s1369
                  ·have c1389 : ¬ (z < (((kidsT ns x1176.Path).1).length : Int)) := of_decide_eq_false hb
                   clear hb
                   refine At.keep [3, 7, 8, 9] ?_; show At _ _ _ [(3, .pointer (some ⟨b1013, 0, none⟩)), (7, .slice (some ⟨b1178, o1179, none⟩) ((ns).length) n1121), (8, .int .i64 (n + (((kidsT ns x1176.Path).1).length : Int))), (9, .int .i64 j)] _
                   refine At.reg (L := [(0, false), (1, false), (2, false)]) (by kernel_rfl) ?_
                   refine Op.pures 1 [3, 7, 8, 9, 101] (L' := [(1, false), (2, false)]) (e' := [(3, .pointer (some ⟨b1013, 0, none⟩)), (7, .slice (some ⟨b1178, o1179, none⟩) ((ns).length) n1121), (8, .int .i64 (n + (((kidsT ns x1176.Path).1).length : Int))), (9, .int .i64 j), (101, .int .i64 j)]) (by kernel_rfl) ?_
                   refine Op.val (dst := some 102) (v := .int .i64 (IntKind.wrap .i64 (j + 1))) (v' := .int .i64 (j + 1)) (by kernel_rfl) (wrapEq_i64 (by omega) (by omega)) ?_
                   refine Op.pures 1 [3, 7, 8, 9] (L' := []) (e' := [(3, .pointer (some ⟨b1013, 0, none⟩)), (7, .slice (some ⟨b1178, o1179, none⟩) ((ns).length) n1121), (8, .int .i64 (n + (((kidsT ns x1176.Path).1).length : Int))), (9, .int .i64 (j + 1))]) (by kernel_rfl) ?_
                   refine Op.goto 37 (by kernel_rfl) ?_
                   have s1390 : St h g (ids []) g1152 [ch1195, c1133, c1025] h1357 := (((s_loop461356.front 0 rfl).front 2 rfl).front 2 rfl)
                   have s1391 : St h g (ids []) g1152 [c1133, c1025] h1357 := (s1390).drop
                   exact ih37  (n + (((kidsT ns x1176.Path).1).length : Int)) (j + 1) _ (by omega) (by omega) (by omega) (by omega) (by omega) (by exact right_n hT hn h4 (by assumption))  s1391
                exact loop46 _  0 _ (Nat.lt_succ_self _) (by omega) (by omega) (by (have h9 := kidsT_len ns x1176.Path; have hln := hT.len; omega))  s1193
              ·refine Op.cast (e' := [(3, .pointer (some ⟨b1013, 0, none⟩)), (7, .slice (some ⟨b1178, o1179, none⟩) ((ns).length) n1121), (8, .int .i64 (n + (((kidsT ns x1176.Path).1).length : Int))), (9, .int .i64 j), (10, .slice a1197 (((kidsT ns x1176.Path).1).length) n1198), (132, .bool false), (135, .bool false)]) (by rw [hb]) ?_
               have c1392 : ¬ (j > (0 : Int)) := of_decide_eq_false hb
               clear hb
               refine Op.pures 14 [3, 7, 8, 9, 10, 149] (L' := []) (e' := [(3, .pointer (some ⟨b1013, 0, none⟩)), (7, .slice (some ⟨b1178, o1179, none⟩) ((ns).length) n1121), (8, .int .i64 (n + (((kidsT ns x1176.Path).1).length : Int))), (9, .int .i64 j), (10, .slice a1197 (((kidsT ns x1176.Path).1).length) n1198), (149, .bool false)]) (by kernel_rfl) ?_
               refine Op.goto 42 (by kernel_rfl) ?_
               refine At.condF (c := .tmp 149) (by kernel_rfl) (by kernel_rfl) (by kernel_rfl) 45 (by kernel_rfl) ?_
               refine At.reg (L := [(0, false)]) (by kernel_rfl) ?_
               refine Op.pures 1 [3, 7, 8, 9, 10, 12] (L' := []) (e' := [(3, .pointer (some ⟨b1013, 0, none⟩)), (7, .slice (some ⟨b1178, o1179, none⟩) ((ns).length) n1121), (8, .int .i64 (n + (((kidsT ns x1176.Path).1).length : Int))), (9, .int .i64 j), (10, .slice a1197 (((kidsT ns x1176.Path).1).length) n1198), (12, .int .i64 0)]) (by kernel_rfl) ?_
               refine Op.goto 46 (by kernel_rfl) ?_
               have loop46 : ∀ (m : Nat) (z : Int) (h1393 : Heap) (hm : ((kidsT ns x1176.Path).1).length - z.toNat < m) (h6 : 0 ≤ z) (h7 : z ≤ ((kidsT ns x1176.Path).1).length) (hq1 : n + (((kidsT ns x1176.Path).1).length : Int) ≤ 32 * (j + 1))     (s_loop461392 : St h g (ids []) g1152 [c1025, ch1195, c1133] h1393), At (fctx Tryz.prog B 13 Tryz.f13 R) [] 46 [(3, .pointer (some ⟨b1013, 0, none⟩)), (7, .slice (some ⟨b1178, o1179, none⟩) ((ns).length) n1121), (8, .int .i64 (n + (((kidsT ns x1176.Path).1).length : Int))), (9, .int .i64 j), (10, .slice a1197 (((kidsT ns x1176.Path).1).length) n1198), (12, .int .i64 z)] h1393 := by
                intro m; induction m with
                | zero => intros; omega
                | succ m ih46 =>
                 intro z h1393 hm h6 h7 hq1 s_loop461392
                 refine At.reg (L := [(0, false), (1, false), (2, false), (3, false)]) (by kernel_rfl) ?_
                 refine Op.pures 4 [3, 7, 8, 9, 10, 12, 153] (L' := []) (e' := [(3, .pointer (some ⟨b1013, 0, none⟩)), (7, .slice (some ⟨b1178, o1179, none⟩) ((ns).length) n1121), (8, .int .i64 (n + (((kidsT ns x1176.Path).1).length : Int))), (9, .int .i64 j), (10, .slice a1197 (((kidsT ns x1176.Path).1).length) n1198), (12, .int .i64 z), (153, .bool (decide (z < (((kidsT ns x1176.Path).1).length : Int))))]) (by kernel_rfl) ?_
                 refine Op.goto 47 (by kernel_rfl) ?_
                 refine At.cond (b := decide (z < (((kidsT ns x1176.Path).1).length : Int))) (c := .tmp 153) (by kernel_rfl) (by kernel_rfl) (by kernel_rfl) 48 54 (by kernel_rfl) (by kernel_rfl) (fun hb => ?_) (fun hb => ?_)
                 ·have c1394 : z < (((kidsT ns x1176.Path).1).length : Int) := of_decide_eq_true hb
                  clear hb
                  refine At.keep [3, 7, 8, 9, 10, 12] ?_; show At _ _ _ [(3, .pointer (some ⟨b1013, 0, none⟩)), (7, .slice (some ⟨b1178, o1179, none⟩) ((ns).length) n1121), (8, .int .i64 (n + (((kidsT ns x1176.Path).1).length : Int))), (9, .int .i64 j), (10, .slice a1197 (((kidsT ns x1176.Path).1).length) n1198), (12, .int .i64 z)] _
                  refine At.reg (L := [(0, false), (1, false), (2, false), (3, false), (4, false), (5, false), (6, false), (7, false), (8, false), (9, false)]) (by kernel_rfl) ?_
                  refine Op.pures 2 [3, 7, 8, 9, 10, 12, 157, 158] (L' := [(2, false), (3, false), (4, false), (5, false), (6, false), (7, false), (8, false), (9, false)]) (e' := [(3, .pointer (some ⟨b1013, 0, none⟩)), (7, .slice (some ⟨b1178, o1179, none⟩) ((ns).length) n1121), (8, .int .i64 (n + (((kidsT ns x1176.Path).1).length : Int))), (9, .int .i64 j), (10, .slice a1197 (((kidsT ns x1176.Path).1).length) n1198), (12, .int .i64 z), (157, .slice a1197 (((kidsT ns x1176.Path).1).length) n1198), (158, .int .i64 z)]) (by kernel_rfl) ?_
                  obtain ⟨x1395, hx1396⟩ : ∃ c, ((kidsT ns x1176.Path).1)[(z : Int).toNat]? = some c := ⟨_, List.getElem?_eq_getElem (by omega)⟩
                  obtain ⟨b1397, o1398, cu1399, fz1400, ha1401, hb1402, hk1403⟩ := SlH.at_ (R1196.toH s_loop461392 1 rfl) _ hx1396
                  cases ha1401
                  refine Op.idx (T := 54) (E := 9) (sz := 1) (by_ := 16) (n := (((kidsT ns x1176.Path).1).length)) (c := n1198) (k := .i64) (x := (.tmp 157)) (ix := (.tmp 158)) (dst := 159) (bk := b1397) (o := o1398) (m := z) (by kernel_rfl) (by kernel_rfl) (by kernel_rfl) (by kernel_rfl) (by omega) (by omega) ?_
                  replace hk1403 : cut _ _ _ = [.string (mkS x1395)] := hk1403
                  refine Op.load (T := 9) (x := (.tmp 159)) (o := o1398 + (z : Int).toNat * 1) (d := 160) (n := 1) (v := .string (mkS x1395)) (by kernel_rfl) (by kernel_rfl) (by kernel_rfl) hb1402 (cut_get hk1403 0 rfl) ?_
                  refine Op.call0 (dst := some 161) (f := 36) (args := #[.string (mkS x1395)]) (by kernel_rfl) s_loop461392 (parentP _ _ _ s_loop461392.sub hG x1395 (by ((try dsimp only) <;> ((have h9 := right_q hT (by assumption) hx1396; omega)))) ) ?_
                  rintro _ g1406 _ h1404 hle1407 s1405 ⟨rfl, hgg, rfl⟩; subst g1406; clear hle1407
                  refine Op.pures 5 [3, 7, 8, 9, 10, 12, 13] (L' := []) (e' := [(3, .pointer (some ⟨b1013, 0, none⟩)), (7, .slice (some ⟨b1178, o1179, none⟩) ((ns).length) n1121), (8, .int .i64 (n + (((kidsT ns x1176.Path).1).length : Int))), (9, .int .i64 j), (10, .slice (some ⟨b1397, o1398, none⟩) (((kidsT ns x1176.Path).1).length) n1198), (12, .int .i64 z), (13, .string (mkS (parentOf x1395)))]) (by kernel_rfl) ?_
                  refine Op.goto 49 (by kernel_rfl) ?_
                  refine At.reg (L := [(0, false), (1, false), (2, false), (3, false), (4, false), (5, false), (6, false)]) (by kernel_rfl) ?_
                  refine Op.pures 3 [3, 7, 8, 9, 10, 12, 164, 165, 166] (L' := [(3, false), (4, false), (5, false), (6, false)]) (e' := [(3, .pointer (some ⟨b1013, 0, none⟩)), (7, .slice (some ⟨b1178, o1179, none⟩) ((ns).length) n1121), (8, .int .i64 (n + (((kidsT ns x1176.Path).1).length : Int))), (9, .int .i64 j), (10, .slice (some ⟨b1397, o1398, none⟩) (((kidsT ns x1176.Path).1).length) n1198), (12, .int .i64 z), (164, .string (mkS (parentOf x1395))), (165, .slice (some ⟨b1178, o1179, none⟩) ((ns).length) n1121), (166, .int .i64 j)]) (by kernel_rfl) ?_
                  obtain ⟨x1408, hx1409⟩ : ∃ c, ns[(j : Int).toNat]? = some c := ⟨_, List.getElem?_eq_getElem (by omega)⟩
                  obtain ⟨b1410, o1411, cu1412, fz1413, ha1414, hb1415, hk1416⟩ := SlR.at_ hf1119 _ hx1409
                  cases ha1414
                  refine Op.idx (T := 52) (E := 59) (sz := 6) (by_ := 72) (n := ((ns).length)) (c := n1121) (k := .i64) (x := (.tmp 165)) (ix := (.tmp 166)) (dst := 167) (bk := b1178) (o := o1179) (m := j) (by kernel_rfl) (by kernel_rfl) (by kernel_rfl) (by kernel_rfl) (by omega) (by omega) ?_
                  obtain ⟨v1417, hv1418, hk1416⟩ := hk1416
                  obtain ⟨a1419, n1420, rfl⟩ := hv1418.form
                  refine Op.pures 1 [3, 7, 8, 9, 10, 12, 164, 168] (L' := [(5, false), (6, false)]) (e' := [(3, .pointer (some ⟨b1013, 0, none⟩)), (7, .slice (some ⟨b1178, o1179, none⟩) ((ns).length) n1121), (8, .int .i64 (n + (((kidsT ns x1176.Path).1).length : Int))), (9, .int .i64 j), (10, .slice (some ⟨b1397, o1398, none⟩) (((kidsT ns x1176.Path).1).length) n1198), (12, .int .i64 z), (164, .string (mkS (parentOf x1395))), (168, .pointer (some ⟨b1178, o1179 + (j : Int).toNat * 6, none⟩))]) (by kernel_rfl) ?_
                  refine Op.load (T := 9) (x := (.tmp 168)) (o := o1179 + (j : Int).toNat * 6) (d := 169) (n := 1) (v := .string (mkS x1408.Path)) (by kernel_rfl) (by kernel_rfl) (by kernel_rfl) (s1405.sub _ _ hb1415) (cut_get hk1416 0 rfl) ?_
                  refine Op.val (dst := some 170) (v := .bool (!((mkS (parentOf x1395)).toList == (mkS x1408.Path).toList))) (v' := .bool (!((parentOf x1395) == x1408.Path))) (by kernel_rfl) (by rw [toList_mkS, toList_mkS]) ?_
                  refine Op.goto 50 (by kernel_rfl) ?_
                  refine At.cond (b := !((parentOf x1395) == x1408.Path)) (c := .tmp 170) (by kernel_rfl) (by kernel_rfl) (by kernel_rfl) 51 53 (by kernel_rfl) (by kernel_rfl) (fun hb => ?_) (fun hb => ?_)
                  ·have c1421 : ¬ ((parentOf x1395) = x1408.Path) := neF (notT hb)
                   clear hb
                   refine At.keep [] ?_; show At _ _ _ [] _
                   refine At.reg (L := [(0, false)]) (by kernel_rfl) ?_
                   refine Op.pures 1 [2] (L' := []) (e' := [(2, .bool false)]) (by kernel_rfl) ?_
                   refine Op.goto 52 (by kernel_rfl) ?_
                   refine At.ret (f := Tryz.f13) (v := .bool false) (by kernel_rfl) (by kernel_rfl) ?_
                   have s1422 : St h g (ids []) g1152 [] h1404 := (s1405).drop.drop.drop
                   have s1423 : St h g (ids []) g [] h1404 := s1422.unfrz
                   refine hR _ _ _ _ s1423 ⟨?_, rfl, rfl⟩
                   exact (eqB (by exact absurd (right_k hT (by assumption) hx1396 hx1409) c1421))
                  ·have c1424 : (parentOf x1395) = x1408.Path := eq_of_beq (notF hb)
                   clear hb
                   refine At.keep [3, 7, 8, 9, 10, 12] ?_; show At _ _ _ [(3, .pointer (some ⟨b1013, 0, none⟩)), (7, .slice (some ⟨b1178, o1179, none⟩) ((ns).length) n1121), (8, .int .i64 (n + (((kidsT ns x1176.Path).1).length : Int))), (9, .int .i64 j), (10, .slice (some ⟨b1397, o1398, none⟩) (((kidsT ns x1176.Path).1).length) n1198), (12, .int .i64 z)] _
                   refine At.reg (L := [(0, false), (1, false), (2, false)]) (by kernel_rfl) ?_
                   refine Op.pures 1 [3, 7, 8, 9, 10, 12, 154] (L' := [(1, false), (2, false)]) (e' := [(3, .pointer (some ⟨b1013, 0, none⟩)), (7, .slice (some ⟨b1178, o1179, none⟩) ((ns).length) n1121), (8, .int .i64 (n + (((kidsT ns x1176.Path).1).length : Int))), (9, .int .i64 j), (10, .slice (some ⟨b1397, o1398, none⟩) (((kidsT ns x1176.Path).1).length) n1198), (12, .int .i64 z), (154, .int .i64 z)]) (by kernel_rfl) ?_
                   refine Op.val (dst := some 155) (v := .int .i64 (IntKind.wrap .i64 (z + 1))) (v' := .int .i64 (z + 1)) (by kernel_rfl) (wrapEq_i64 (by omega) (by omega)) ?_
                   refine Op.pures 1 [3, 7, 8, 9, 10, 12] (L' := []) (e' := [(3, .pointer (some ⟨b1013, 0, none⟩)), (7, .slice (some ⟨b1178, o1179, none⟩) ((ns).length) n1121), (8, .int .i64 (n + (((kidsT ns x1176.Path).1).length : Int))), (9, .int .i64 j), (10, .slice (some ⟨b1397, o1398, none⟩) (((kidsT ns x1176.Path).1).length) n1198), (12, .int .i64 (z + 1))]) (by kernel_rfl) ?_
                   refine Op.goto 46 (by kernel_rfl) ?_
                   exact ih46  (z + 1) _ (by omega) (by omega) (by omega) (by omega)  s1405
                 ·have c1425 : ¬ (z < (((kidsT ns x1176.Path).1).length : Int)) := of_decide_eq_false hb
                  clear hb
                  refine At.keep [3, 7, 8, 9] ?_; show At _ _ _ [(3, .pointer (some ⟨b1013, 0, none⟩)), (7, .slice (some ⟨b1178, o1179, none⟩) ((ns).length) n1121), (8, .int .i64 (n + (((kidsT ns x1176.Path).1).length : Int))), (9, .int .i64 j)] _
                  refine At.reg (L := [(0, false), (1, false), (2, false)]) (by kernel_rfl) ?_
                  refine Op.pures 1 [3, 7, 8, 9, 101] (L' := [(1, false), (2, false)]) (e' := [(3, .pointer (some ⟨b1013, 0, none⟩)), (7, .slice (some ⟨b1178, o1179, none⟩) ((ns).length) n1121), (8, .int .i64 (n + (((kidsT ns x1176.Path).1).length : Int))), (9, .int .i64 j), (101, .int .i64 j)]) (by kernel_rfl) ?_
                  refine Op.val (dst := some 102) (v := .int .i64 (IntKind.wrap .i64 (j + 1))) (v' := .int .i64 (j + 1)) (by kernel_rfl) (wrapEq_i64 (by omega) (by omega)) ?_
                  refine Op.pures 1 [3, 7, 8, 9] (L' := []) (e' := [(3, .pointer (some ⟨b1013, 0, none⟩)), (7, .slice (some ⟨b1178, o1179, none⟩) ((ns).length) n1121), (8, .int .i64 (n + (((kidsT ns x1176.Path).1).length : Int))), (9, .int .i64 (j + 1))]) (by kernel_rfl) ?_
                  refine Op.goto 37 (by kernel_rfl) ?_
                  have s1426 : St h g (ids []) g1152 [ch1195, c1133, c1025] h1393 := (((s_loop461392.front 0 rfl).front 2 rfl).front 2 rfl)
                  have s1427 : St h g (ids []) g1152 [c1133, c1025] h1393 := (s1426).drop
                  exact ih37  (n + (((kidsT ns x1176.Path).1).length : Int)) (j + 1) _ (by omega) (by omega) (by omega) (by omega) (by omega) (by exact right_n hT hn h4 (by assumption))  s1427
               exact loop46 _  0 _ (Nat.lt_succ_self _) (by omega) (by omega) (by (have h9 := kidsT_len ns x1176.Path; have hln := hT.len; omega))  s1193
           ·have c1428 : ¬ (j < ((ns).length : Int)) := of_decide_eq_false hb
            clear hb
            refine At.keep [7, 8] ?_; show At _ _ _ [(7, .slice a1120 ((ns).length) n1121), (8, .int .i64 n)] _
            refine At.reg (L := [(0, false), (1, false), (2, false), (3, false), (4, false), (5, false)]) (by kernel_rfl) ?_
            refine Op.pures 3 [171, 173] (L' := [(3, false), (4, false), (5, false)]) (e' := [(171, .int .i64 n), (173, .int .i64 ((ns).length : Int))]) (by kernel_rfl) ?_
            refine Op.val (dst := some 174) (v := .int .i64 (IntKind.wrap .i64 (((ns).length : Int) - 1))) (v' := .int .i64 (((ns).length : Int) - 1)) (by kernel_rfl) (wrapEq_i64 (by omega) (by omega)) ?_
            refine Op.pures 2 [2] (L' := []) (e' := [(2, .bool (n == (((ns).length : Int) - 1)))]) (by kernel_rfl) ?_
            refine Op.goto 56 (by kernel_rfl) ?_
            refine At.ret (f := Tryz.f13) (v := .bool (n == (((ns).length : Int) - 1))) (by kernel_rfl) (by kernel_rfl) ?_
            have s1429 : St h g (ids []) g1152 [] h1174 := (s_loop371173).drop.drop
            have s1430 : St h g (ids []) g [] h1174 := s1429.unfrz
            refine hR _ _ _ _ s1430 ⟨?_, rfl, rfl⟩
            exact (eqB (by exact beq_iff_eq.2 ((sumK_end hn (by assumption)).trans hT.sum)))
         exact loop37 _  0 0 _ (Nat.lt_succ_self _) (by omega) (by omega) (by omega) (by omega) (by rfl)  s1159
  exact loop16 _  ([⟨[47], [], 0, -1, 0, 0⟩]) 0 _ _ (Nat.lt_succ_self _) (by omega) (by omega) (by exact TreeOk.new) o1015 s1019
end Go.Proofs.YtmjebehhpojihaaGreatDoor.Sw
