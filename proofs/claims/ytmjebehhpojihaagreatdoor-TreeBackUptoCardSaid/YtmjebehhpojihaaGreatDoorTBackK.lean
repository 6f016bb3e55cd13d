/- Lemmas for a law of this seat: what the functions compute, and plain facts of it. Own text. -/
import Derived.Test.YtmjebehhpojihaaGreatDoorTBackJ
namespace Go.Proofs.YtmjebehhpojihaaGreatDoor.Sw
open Go
set_option maxRecDepth 100000
set_option linter.unusedVariables false
set_option linter.unusedSimpArgs false
set_option linter.deprecated false
theorem cloneB (B : World) (h : Heap) (g : GH) (hg : Sub g h) (hG : Glob g) (v_s : Value) (s : List UInt8) (h_s : SlR g 5 kU8 v_s s) (hl : s.length ≤ 1000000000) :
  Spec Tryz.prog B 74 #[v_s] h g [] (fun rv g' L' => ∃ v0 k0, rv = v0 ∧ Row 5 kU8 g' v0 s k0 ∧ g' = g ∧ L' = [k0]) := by
 obtain ⟨a_s, n_s, rfl⟩ := h_s.form
 refine Spec.of_at (f := Tryz.f74) (e := [(0, .slice a_s s.length n_s)]) Tryz.func74 (by kernel_rfl) (Nat.le_of_ble_eq_true (by kernel_rfl)) (by kernel_rfl) (by kernel_rfl) ?_
 intro R hR
 have s0 := St.init hg
 refine At.reg (L := [(0, false)]) (by kernel_rfl) ?_
 refine Op.pures 1 [0] (L' := []) (e' := [(0, .slice a_s s.length n_s)]) (by kernel_rfl) ?_
 refine Op.goto 1 (by kernel_rfl) ?_
 refine At.reg (L := [(0, false), (1, false)]) (by kernel_rfl) ?_
 refine Op.pures 1 [0, 3] (L' := [(1, false)]) (e' := [(0, .slice a_s s.length n_s), (3, .slice a_s s.length n_s)]) (by kernel_rfl) ?_
 rcases a_s with _ | a1001
 ·refine Op.val (dst := some 4) (v := .bool true) (v' := .bool true) (by kernel_rfl) rfl ?_
  refine Op.goto 2 (by kernel_rfl) ?_
  refine At.condT (c := .tmp 4) (by kernel_rfl) (by kernel_rfl) (by kernel_rfl) 3 (by kernel_rfl) ?_
  refine At.reg (L := [(0, false)]) (by kernel_rfl) ?_
  refine Op.pures 1 [2] (L' := []) (e' := [(2, .slice none 0 0)]) (by kernel_rfl) ?_
  refine Op.goto 4 (by kernel_rfl) ?_
  have R1002 := Row.zero 5 kU8 g none
  have s1003 : St h g (ids []) g ([] :: []) h := St.flat (L := []) rfl s0
  refine At.ret (f := Tryz.f74) (v := .slice none 0 0) (by kernel_rfl) (by kernel_rfl) ?_
  refine hR _ _ _ _ s1003 ⟨(.slice none 0 0), [], ?_, ?_, rfl, rfl⟩
  ·exact rfl
  ·exact rowEq R1002 (by exact (SlR.none_nil h_s).symm)
 ·refine Op.val (dst := some 4) (v := .bool false) (v' := .bool false) (by kernel_rfl) rfl ?_
  refine Op.goto 2 (by kernel_rfl) ?_
  refine At.condF (c := .tmp 4) (by kernel_rfl) (by kernel_rfl) (by kernel_rfl) 5 (by kernel_rfl) ?_
  refine At.reg (L := [(0, false), (1, false), (2, false), (3, false)]) (by kernel_rfl) ?_
  refine Op.lit (T := 29) (len := 0) (parts := #[]) (dst := 5) (E := 5) (ps := []) (cs := #[]) (by kernel_rfl) (by kernel_rfl) (by kernel_rfl) s0 ?_
  intro b1004 h1005 s1006
  refine Op.pures 1 [5, 6] (L' := [(2, false), (3, false)]) (e' := [(5, .slice (some ⟨b1004, 0, none⟩) 0 0), (6, .slice (some a1001) s.length n_s)]) (by kernel_rfl) ?_
  have R1007 : Row 5 kU8 g (.slice (some ⟨b1004, 0, none⟩) 0 0) ([] : List UInt8) [(b1004, Obj.cells #[] 5 (0, 0))] := Row.lit (by kernel_rfl) (by unfold maxLen; decide) (by kernel_rfl) Reads.nil
  obtain ⟨ns1008, hs1009, hr1010⟩ := Src.slice (P := Tryz.prog) (h_s.toH s1006.sub)
  refine Op.append (x := (.tmp 5)) (y := (.tmp 6)) (t := 29) (t' := 29) (dst := 7) (E := 5) (by_ := 1) (d := kU8) (by kernel_rfl) (by kernel_rfl) (by kernel_rfl) (by kernel_rfl) rfl R1007 s1006 0 rfl hs1009 (ys := s) hr1010 rfl (by (simp only [List.length_nil]; omega)) (fun _ _ _ => trivial) ?_
  intro v1011 ch1012 h1013 R1014 s1015 nn1016
  obtain ⟨a1017, n1018, rfl⟩ := R1014.form
  refine Op.pures 1 [2] (L' := []) (e' := [(2, .slice a1017 ((([] : List UInt8) ++ s).length) n1018)]) (by kernel_rfl) ?_
  refine Op.goto 6 (by kernel_rfl) ?_
  refine At.ret (f := Tryz.f74) (v := .slice a1017 ((([] : List UInt8) ++ s).length) n1018) (by kernel_rfl) (by kernel_rfl) ?_
  refine hR _ _ _ _ s1015 ⟨(.slice a1017 ((([] : List UInt8) ++ s).length) n1018), ch1012, ?_, ?_, rfl, rfl⟩
  ·exact rfl
  ·exact rowEq R1014 (by (simp; done))
theorem clonedT (B : World) (h : Heap) (g : GH) (hg : Sub g h) (hG : Glob g) (l : Leaf) (v_l_1 : Value) (h_l_1 : SlR g 5 kU8 v_l_1 l.Data) (b_l : Nat) (hb_l : g b_l = some (.cells #[.string (mkS l.Path), v_l_1, .int .i64 l.Version, .int .i64 l.Owner, .int .i64 l.Next, .int .i64 l.Born] 59 (0, 0))) (hl : l.Data.length ≤ 1000000000) :
  Spec Tryz.prog B 76 #[.pointer (some ⟨b_l, 0, none⟩)] h g [] (fun rv g' L' => ∃ v0 k0_0, rv = .agg #[.string (mkS l.Path), v0, .int .i64 l.Version, .int .i64 l.Owner, .int .i64 l.Next, .int .i64 l.Born] ∧ Row 5 kU8 g' v0 l.Data k0_0 ∧ g' = g ∧ L' = [k0_0]) := by
 obtain ⟨a_l_1, n_l_1, rfl⟩ := h_l_1.form
 refine Spec.of_at (f := Tryz.f76) (e := [(0, .pointer (some ⟨b_l, 0, none⟩))]) Tryz.func76 (by kernel_rfl) (Nat.le_of_ble_eq_true (by kernel_rfl)) (by kernel_rfl) (by kernel_rfl) ?_
 intro R hR
 have s0 := St.init hg
 refine At.reg (L := [(0, false)]) (by kernel_rfl) ?_
 refine Op.alloc (T := 59) (dst := 2) (cs := #[.string (mkS []), .slice none 0 0, .int .i64 0, .int .i64 0, .int .i64 0, .int .i64 0]) (by kernel_rfl) (by kernel_rfl) s0 ?_
 intro b1019 h1020 s1021
 refine Op.goto 1 (by kernel_rfl) ?_
 refine At.reg (L := [(0, false), (1, false), (2, false), (3, false), (4, false)]) (by kernel_rfl) ?_
 refine Op.pures 2 [0, 2, 5] (L' := [(2, false), (3, false), (4, false)]) (e' := [(0, .pointer (some ⟨b_l, 0, none⟩)), (2, .pointer (some ⟨b1019, 0, none⟩)), (5, .pointer (some ⟨b_l, 0, none⟩))]) (by kernel_rfl) ?_
 refine Op.loadA (T := 59) (x := (.tmp 5)) (o := 0) (d := 6) (n := 6) (vs := [.string (mkS l.Path), .slice a_l_1 l.Data.length n_l_1, .int .i64 l.Version, .int .i64 l.Owner, .int .i64 l.Next, .int .i64 l.Born]) (by kernel_rfl) (by kernel_rfl) (by kernel_rfl) (s1021.sub _ _ hb_l) (by kernel_rfl) rfl ?_
 refine Op.alloc (T := 59) (dst := 3) (cs := #[.string (mkS []), .slice none 0 0, .int .i64 0, .int .i64 0, .int .i64 0, .int .i64 0]) (by kernel_rfl) (by kernel_rfl) s1021 ?_
 intro b1022 h1023 s1024
 refine Op.store (T := 59) (x := (.tmp 3)) (y := (.tmp 6)) (b := b1022) (o := 0) (vs := [.string (mkS l.Path), .slice a_l_1 l.Data.length n_l_1, .int .i64 l.Version, .int .i64 l.Owner, .int .i64 l.Next, .int .i64 l.Born]) (a? := true) (n := 6) (by kernel_rfl) (by kernel_rfl) (by kernel_rfl) (by kernel_rfl) rfl (by simp [Value.oneCell']) s1024 0 rfl (Nat.le_of_ble_eq_true (by kernel_rfl)) (cs := #[.string (mkS []), .slice none 0 0, .int .i64 0, .int .i64 0, .int .i64 0, .int .i64 0]) (cs' := #[.string (mkS l.Path), .slice a_l_1 l.Data.length n_l_1, .int .i64 l.Version, .int .i64 l.Owner, .int .i64 l.Next, .int .i64 l.Born]) (by kernel_rfl) (fun _ => trivial) ?_
 intro h1025 s1026
 refine Op.goto 2 (by kernel_rfl) ?_
 refine At.reg (L := [(0, false), (1, false), (2, false), (3, false), (4, false), (5, false), (6, false)]) (by kernel_rfl) ?_
 refine Op.pures 3 [2, 3, 9] (L' := [(3, false), (4, false), (5, false), (6, false)]) (e' := [(2, .pointer (some ⟨b1019, 0, none⟩)), (3, .pointer (some ⟨b1022, 0, none⟩)), (9, .pointer (some ⟨b_l, 1, none⟩))]) (by kernel_rfl) ?_
 refine Op.load (T := 29) (x := (.tmp 9)) (o := 1) (d := 10) (n := 1) (v := .slice a_l_1 l.Data.length n_l_1) (by kernel_rfl) (by kernel_rfl) (by kernel_rfl) (s1026.sub _ _ hb_l) (by kernel_rfl) ?_
 refine Op.call0 (dst := some 11) (f := 74) (args := #[.slice a_l_1 l.Data.length n_l_1]) (by kernel_rfl) s1026 (cloneB _ _ _ s1026.sub hG _ _ h_l_1 (by ((try dsimp only) <;> (omega))) ) ?_
 rintro _ g1034 _ h1027 hle1035 s1028 ⟨v1029, ch1030, rfl, R1031, hgg, rfl⟩; subst g1034; clear hle1035
 obtain ⟨a1032, n1033, rfl⟩ := R1031.form
 refine Op.pures 1 [2, 3, 11, 12] (L' := [(6, false)]) (e' := [(2, .pointer (some ⟨b1019, 0, none⟩)), (3, .pointer (some ⟨b1022, 0, none⟩)), (11, .slice a1032 ((l.Data).length) n1033), (12, .pointer (some ⟨b1022, 1, none⟩))]) (by kernel_rfl) ?_
 refine Op.store (T := 29) (x := (.tmp 12)) (y := (.tmp 11)) (b := b1022) (o := 1) (vs := [.slice a1032 ((l.Data).length) n1033]) (a? := false) (n := 1) (by kernel_rfl) (by kernel_rfl) (by kernel_rfl) (by kernel_rfl) rfl (by simp [Value.oneCell']) s1028 1 rfl (Nat.le_of_ble_eq_true (by kernel_rfl)) (cs := #[.string (mkS l.Path), .slice a_l_1 l.Data.length n_l_1, .int .i64 l.Version, .int .i64 l.Owner, .int .i64 l.Next, .int .i64 l.Born]) (cs' := #[.string (mkS l.Path), .slice a1032 ((l.Data).length) n1033, .int .i64 l.Version, .int .i64 l.Owner, .int .i64 l.Next, .int .i64 l.Born]) (by kernel_rfl) (fun _ => trivial) ?_
 intro h1036 s1037
 refine Op.goto 3 (by kernel_rfl) ?_
 refine At.reg (L := [(0, false), (1, false)]) (by kernel_rfl) ?_
 refine Op.loadA (T := 59) (x := (.tmp 3)) (o := 0) (d := 13) (n := 6) (vs := [.string (mkS l.Path), .slice a1032 ((l.Data).length) n1033, .int .i64 l.Version, .int .i64 l.Owner, .int .i64 l.Next, .int .i64 l.Born]) (by kernel_rfl) (by kernel_rfl) (by kernel_rfl) (s1037.chunk 1 rfl) (by kernel_rfl) rfl ?_
 refine Op.store (T := 59) (x := (.tmp 2)) (y := (.tmp 13)) (b := b1019) (o := 0) (vs := [.string (mkS l.Path), .slice a1032 ((l.Data).length) n1033, .int .i64 l.Version, .int .i64 l.Owner, .int .i64 l.Next, .int .i64 l.Born]) (a? := true) (n := 6) (by kernel_rfl) (by kernel_rfl) (by kernel_rfl) (by kernel_rfl) rfl (by simp [Value.oneCell']) s1037 2 rfl (Nat.le_of_ble_eq_true (by kernel_rfl)) (cs := #[.string (mkS []), .slice none 0 0, .int .i64 0, .int .i64 0, .int .i64 0, .int .i64 0]) (cs' := #[.string (mkS l.Path), .slice a1032 ((l.Data).length) n1033, .int .i64 l.Version, .int .i64 l.Owner, .int .i64 l.Next, .int .i64 l.Born]) (by kernel_rfl) (fun _ => trivial) ?_
 intro h1038 s1039
 refine Op.goto 4 (by kernel_rfl) ?_
 refine At.retM (f := Tryz.f76) (vs := [.agg #[.string (mkS l.Path), .slice a1032 ((l.Data).length) n1033, .int .i64 l.Version, .int .i64 l.Owner, .int .i64 l.Next, .int .i64 l.Born]]) (rl := [.cell 2 59]) (v := .agg #[.string (mkS l.Path), .slice a1032 ((l.Data).length) n1033, .int .i64 l.Version, .int .i64 l.Owner, .int .i64 l.Next, .int .i64 l.Born]) (by kernel_rfl) (by kernel_rfl) ⟨⟨_, _, rfl, resAgg (n := 6) (by kernel_rfl) (s1039.chunk 2 rfl) (by kernel_rfl) rfl⟩, trivial⟩ rfl ?_
 have s1040 : St h g (ids []) g [[(b1022, Obj.cells #[.string (mkS l.Path), .slice a1032 ((l.Data).length) n1033, .int .i64 l.Version, .int .i64 l.Owner, .int .i64 l.Next, .int .i64 l.Born] 59 (0, 0))], [(b1019, Obj.cells #[.string (mkS l.Path), .slice a1032 ((l.Data).length) n1033, .int .i64 l.Version, .int .i64 l.Owner, .int .i64 l.Next, .int .i64 l.Born] 59 (0, 0))], ch1030] h1038 := (((s1039.front 0 rfl).front 2 rfl).front 2 rfl)
 have s1041 : St h g (ids []) g [ch1030] h1038 := (s1040).drop.drop
 refine hR _ _ _ _ s1041 ⟨(.slice a1032 ((l.Data).length) n1033), ch1030, ?_, ?_, rfl, rfl⟩
 ·exact (by rfl)
 ·exact rowEq R1031 (by rfl)
theorem getF (B : World) (h : Heap) (g : GH) (hg : Sub g h) (hG : Glob g) (b_t : Nat) (t : List Leaf) (o_t : VTree g b_t t) (p : List UInt8) (hB : TreeB t) (hp : p.length ≤ 1000000000) :
  Spec Tryz.prog B 34 #[.pointer (some ⟨b_t, 0, none⟩), .string (mkS p)] h g [] (fun rv g' L' => ∃ v0 k0_0, rv = .tuple #[.agg #[.string (mkS (((getT t p).1).Path)), v0, .int .i64 (((getT t p).1).Version), .int .i64 (((getT t p).1).Owner), .int .i64 (((getT t p).1).Next), .int .i64 (((getT t p).1).Born)], .int .i64 ((getT t p).2)] ∧ Row 5 kU8 g' v0 (((getT t p).1).Data) k0_0 ∧ g' = g ∧ L' = [k0_0]) := by
 refine Spec.of_at (f := Tryz.f34) (e := [(0, .pointer (some ⟨b_t, 0, none⟩)), (1, .string (mkS p))]) Tryz.func34 (by kernel_rfl) (Nat.le_of_ble_eq_true (by kernel_rfl)) (by kernel_rfl) (by kernel_rfl) ?_
 intro R hR
 have s0 := St.init hg
 refine At.reg (L := [(0, false), (1, false)]) (by kernel_rfl) ?_
 refine Op.alloc (T := 59) (dst := 4) (cs := #[.string (mkS []), .slice none 0 0, .int .i64 0, .int .i64 0, .int .i64 0, .int .i64 0]) (by kernel_rfl) (by kernel_rfl) s0 ?_
 intro b1042 h1043 s1044
 refine Op.pures 1 [0, 1, 4] (L' := []) (e' := [(0, .pointer (some ⟨b_t, 0, none⟩)), (1, .string (mkS p)), (4, .pointer (some ⟨b1042, 0, none⟩))]) (by kernel_rfl) ?_
 refine Op.goto 1 (by kernel_rfl) ?_
 refine At.reg (L := [(0, false), (1, false), (2, false), (3, false), (4, false), (5, false), (6, false), (7, false)]) (by kernel_rfl) ?_
 refine Op.pures 2 [4, 9, 10] (L' := [(2, false), (3, false), (4, false), (5, false), (6, false), (7, false)]) (e' := [(4, .pointer (some ⟨b1042, 0, none⟩)), (9, .pointer (some ⟨b_t, 0, none⟩)), (10, .string (mkS p))]) (by kernel_rfl) ?_
 refine Op.call0 (dst := some 11) (f := 81) (args := #[.pointer (some ⟨b_t, 0, none⟩), .string (mkS p)]) (by kernel_rfl) s1044 (findT _ _ _ s1044.sub hG b_t t o_t p (by ((try dsimp only) <;> (omega))) ) ?_
 rintro v1047 g1049 _ h1045 hle1050 s1046 ⟨hgg, rfl, hp1048⟩; subst g1049; clear hle1050
 rcases hp1048 with ⟨rfl, hne1051⟩ | ⟨b1052, l1053, v1054, mb1055, rfl, hE1056, hF1057, hbt1058, hb1059, hd1060, ha1061⟩
 ·have k1062 : ((findE t p) != (0 : Int)) = true := bne_iff_ne.2 hne1051
  have k1063 : ((findE t p) == (0 : Int)) = false := beq_eq_false_iff_ne.2 hne1051
  refine Op.pures 5 [4, 6, 7] (L' := []) (e' := [(4, .pointer (some ⟨b1042, 0, none⟩)), (6, .pointer none), (7, .int .i64 (findE t p))]) (by kernel_rfl) ?_
  refine Op.goto 2 (by kernel_rfl) ?_
  refine At.reg (L := [(0, false), (1, false)]) (by kernel_rfl) ?_
  refine Op.pures 2 [4, 6, 7, 15] (L' := []) (e' := [(4, .pointer (some ⟨b1042, 0, none⟩)), (6, .pointer none), (7, .int .i64 (findE t p)), (15, .bool ((findE t p) != (0 : Int)))]) (by kernel_rfl) ?_
  refine Op.goto 3 (by kernel_rfl) ?_
  refine At.cond (b := (findE t p) != (0 : Int)) (c := .tmp 15) (by kernel_rfl) (by kernel_rfl) (by kernel_rfl) 4 6 (by kernel_rfl) (by kernel_rfl) (fun hb => ?_) (fun hb => ?_)
  ·have c1064 : ¬ ((findE t p) = (0 : Int)) := bneT hb
   clear hb
   refine At.keep [4, 7] ?_; show At _ _ _ [(4, .pointer (some ⟨b1042, 0, none⟩)), (7, .int .i64 (findE t p))] _
   refine At.reg (L := [(0, false), (1, false), (2, false), (3, false)]) (by kernel_rfl) ?_
   refine Op.pures 2 [4, 16, 17] (L' := [(2, false), (3, false)]) (e' := [(4, .pointer (some ⟨b1042, 0, none⟩)), (16, .agg #[.string (mkS []), .slice none 0 0, .int .i64 0, .int .i64 0, .int .i64 0, .int .i64 0]), (17, .int .i64 (findE t p))]) (by kernel_rfl) ?_
   refine Op.store (T := 59) (x := (.tmp 4)) (y := (.tmp 16)) (b := b1042) (o := 0) (vs := [.string (mkS []), .slice none 0 0, .int .i64 0, .int .i64 0, .int .i64 0, .int .i64 0]) (a? := true) (n := 6) (by kernel_rfl) (by kernel_rfl) (by kernel_rfl) (by kernel_rfl) rfl (by simp [Value.oneCell']) s1046 0 rfl (Nat.le_of_ble_eq_true (by kernel_rfl)) (cs := #[.string (mkS []), .slice none 0 0, .int .i64 0, .int .i64 0, .int .i64 0, .int .i64 0]) (cs' := #[.string (mkS []), .slice none 0 0, .int .i64 0, .int .i64 0, .int .i64 0, .int .i64 0]) (by kernel_rfl) (fun _ => trivial) ?_
   intro h1065 s1066
   refine Op.pures 1 [4, 5] (L' := []) (e' := [(4, .pointer (some ⟨b1042, 0, none⟩)), (5, .int .i64 (findE t p))]) (by kernel_rfl) ?_
   refine Op.goto 5 (by kernel_rfl) ?_
   have R1067 := Row.zero 5 kU8 g none
   have s1068 : St h g (ids []) g ([] :: [[(b1042, Obj.cells #[.string (mkS []), .slice none 0 0, .int .i64 0, .int .i64 0, .int .i64 0, .int .i64 0] 59 (0, 0))]]) h1065 := St.flat (L := [[(b1042, Obj.cells #[.string (mkS []), .slice none 0 0, .int .i64 0, .int .i64 0, .int .i64 0, .int .i64 0] 59 (0, 0))]]) rfl s1066
   refine At.retM (f := Tryz.f34) (vs := [.agg #[.string (mkS []), .slice none 0 0, .int .i64 0, .int .i64 0, .int .i64 0, .int .i64 0], .int .i64 (findE t p)]) (rl := [.cell 4 59, .tmp 5]) (v := .tuple #[.agg #[.string (mkS []), .slice none 0 0, .int .i64 0, .int .i64 0, .int .i64 0, .int .i64 0], .int .i64 (findE t p)]) (by kernel_rfl) (by kernel_rfl) ⟨⟨_, _, rfl, resAgg (n := 6) (by kernel_rfl) (s1068.chunk 1 rfl) (by kernel_rfl) rfl⟩, rfl, trivial⟩ rfl ?_
   have s1069 : St h g (ids []) g [[(b1042, Obj.cells #[.string (mkS []), .slice none 0 0, .int .i64 0, .int .i64 0, .int .i64 0, .int .i64 0] 59 (0, 0))], []] h1065 := ((s1068.front 0 rfl).front 1 rfl)
   have s1070 : St h g (ids []) g [[]] h1065 := (s1069).drop
   refine hR _ _ _ _ s1070 ⟨(.slice none 0 0), [], ?_, ?_, rfl, rfl⟩
   ·exact eqT2 (by (rw [getT_1 (by assumption)]; rfl)) (eqI (by (rw [getT_1 (by assumption)]; done)))
   ·exact rowEq R1067 (by (rw [getT_1 (by assumption)]; rfl))
  ·exact Bool.noConfusion (k1062.symm.trans hb)
 ·obtain ⟨a1071, n1072, rfl⟩ := hd1060.form
  refine Op.pures 5 [4, 6, 7] (L' := []) (e' := [(4, .pointer (some ⟨b1042, 0, none⟩)), (6, .pointer (some ⟨b1052, 0, none⟩)), (7, .int .i64 0)]) (by kernel_rfl) ?_
  refine Op.goto 2 (by kernel_rfl) ?_
  refine At.reg (L := [(0, false), (1, false)]) (by kernel_rfl) ?_
  refine Op.pures 2 [4, 6, 7, 15] (L' := []) (e' := [(4, .pointer (some ⟨b1042, 0, none⟩)), (6, .pointer (some ⟨b1052, 0, none⟩)), (7, .int .i64 0), (15, .bool false)]) (by kernel_rfl) ?_
  refine Op.goto 3 (by kernel_rfl) ?_
  refine At.condF (c := .tmp 15) (by kernel_rfl) (by kernel_rfl) (by kernel_rfl) 6 (by kernel_rfl) ?_
  refine At.reg (L := [(0, false), (1, false), (2, false), (3, false)]) (by kernel_rfl) ?_
  refine Op.pures 1 [4, 18] (L' := [(1, false), (2, false), (3, false)]) (e' := [(4, .pointer (some ⟨b1042, 0, none⟩)), (18, .pointer (some ⟨b1052, 0, none⟩))]) (by kernel_rfl) ?_
  refine Op.call0 (dst := some 19) (f := 76) (args := #[.pointer (some ⟨b1052, 0, none⟩)]) (by kernel_rfl) s1046 (clonedT _ _ _ s1046.sub hG l1053 _ hd1060 b1052 hb1059 (by ((try dsimp only) <;> ((have := TreeB.data hB (by assumption); omega)))) ) ?_
  rintro _ g1080 _ h1073 hle1081 s1074 ⟨v1075, ch1076, rfl, R1077, hgg, rfl⟩; subst g1080; clear hle1081
  obtain ⟨a1078, n1079, rfl⟩ := R1077.form
  refine Op.store (T := 59) (x := (.tmp 4)) (y := (.tmp 19)) (b := b1042) (o := 0) (vs := [.string (mkS l1053.Path), .slice a1078 ((l1053.Data).length) n1079, .int .i64 l1053.Version, .int .i64 l1053.Owner, .int .i64 l1053.Next, .int .i64 l1053.Born]) (a? := true) (n := 6) (by kernel_rfl) (by kernel_rfl) (by kernel_rfl) (by kernel_rfl) rfl (by simp [Value.oneCell']) s1074 1 rfl (Nat.le_of_ble_eq_true (by kernel_rfl)) (cs := #[.string (mkS []), .slice none 0 0, .int .i64 0, .int .i64 0, .int .i64 0, .int .i64 0]) (cs' := #[.string (mkS l1053.Path), .slice a1078 ((l1053.Data).length) n1079, .int .i64 l1053.Version, .int .i64 l1053.Owner, .int .i64 l1053.Next, .int .i64 l1053.Born]) (by kernel_rfl) (fun _ => trivial) ?_
  intro h1082 s1083
  refine Op.pures 1 [4, 5] (L' := []) (e' := [(4, .pointer (some ⟨b1042, 0, none⟩)), (5, .int .i64 0)]) (by kernel_rfl) ?_
  refine Op.goto 7 (by kernel_rfl) ?_
  refine At.retM (f := Tryz.f34) (vs := [.agg #[.string (mkS l1053.Path), .slice a1078 ((l1053.Data).length) n1079, .int .i64 l1053.Version, .int .i64 l1053.Owner, .int .i64 l1053.Next, .int .i64 l1053.Born], .int .i64 0]) (rl := [.cell 4 59, .tmp 5]) (v := .tuple #[.agg #[.string (mkS l1053.Path), .slice a1078 ((l1053.Data).length) n1079, .int .i64 l1053.Version, .int .i64 l1053.Owner, .int .i64 l1053.Next, .int .i64 l1053.Born], .int .i64 0]) (by kernel_rfl) (by kernel_rfl) ⟨⟨_, _, rfl, resAgg (n := 6) (by kernel_rfl) (s1083.chunk 1 rfl) (by kernel_rfl) rfl⟩, rfl, trivial⟩ rfl ?_
  have s1084 : St h g (ids []) g [[(b1042, Obj.cells #[.string (mkS l1053.Path), .slice a1078 ((l1053.Data).length) n1079, .int .i64 l1053.Version, .int .i64 l1053.Owner, .int .i64 l1053.Next, .int .i64 l1053.Born] 59 (0, 0))], ch1076] h1082 := ((s1083.front 0 rfl).front 1 rfl)
  have s1085 : St h g (ids []) g [ch1076] h1082 := (s1084).drop
  refine hR _ _ _ _ s1085 ⟨(.slice a1078 ((l1053.Data).length) n1079), ch1076, ?_, ?_, rfl, rfl⟩
  ·exact eqT2 (by (rw [getT_2 (by assumption) (by assumption)]; done)) (eqI (by (rw [getT_2 (by assumption) (by assumption)]; done)))
  ·exact rowEq R1077 (by (rw [getT_2 (by assumption) (by assumption)]; done))
theorem allF (B : World) (h : Heap) (g : GH) (hg : Sub g h) (hG : Glob g) (b_t : Nat) (t : List Leaf) (o_t : VTree g b_t t) (hB : TreeB t) :
  Spec Tryz.prog B 30 #[.pointer (some ⟨b_t, 0, none⟩)] h g [] (fun rv g' L' => ∃ v0 k0 d0, rv = v0 ∧ Row 59 kLeaf (gadd gE d0) v0 t k0 ∧ g' = g ∧ L' = [k0, d0]) := by
 refine Spec.of_at (f := Tryz.f30) (e := [(0, .pointer (some ⟨b_t, 0, none⟩))]) Tryz.func30 (by kernel_rfl) (Nat.le_of_ble_eq_true (by kernel_rfl)) (by kernel_rfl) (by kernel_rfl) ?_
 intro R hR
 have s0 := St.init hg
 refine At.reg (L := [(0, false)]) (by kernel_rfl) ?_
 refine Op.pures 1 [0] (L' := []) (e' := [(0, .pointer (some ⟨b_t, 0, none⟩))]) (by kernel_rfl) ?_
 refine Op.goto 1 (by kernel_rfl) ?_
 refine At.reg (L := [(0, false)]) (by kernel_rfl) ?_
 refine Op.pures 1 [0, 3] (L' := []) (e' := [(0, .pointer (some ⟨b_t, 0, none⟩)), (3, .slice none 0 0)]) (by kernel_rfl) ?_
 refine Op.goto 2 (by kernel_rfl) ?_
 refine At.reg (L := [(0, false), (1, false), (2, false), (3, false)]) (by kernel_rfl) ?_
 refine Op.pures 1 [0, 3, 6] (L' := [(1, false), (2, false), (3, false)]) (e' := [(0, .pointer (some ⟨b_t, 0, none⟩)), (3, .slice none 0 0), (6, .pointer (some ⟨b_t, 0, none⟩))]) (by kernel_rfl) ?_
 refine Op.call0 (dst := some 7) (f := 75) (args := #[.pointer (some ⟨b_t, 0, none⟩)]) (by kernel_rfl) s0 (sortedT _ _ _ s0.sub hG b_t t o_t (by ((try dsimp only) <;> ((have := hB.1; omega)))) ) ?_
 rintro _ g1135 _ h1128 hle1136 s1129 ⟨v1130, ch1131, rfl, R1132, hgg, rfl⟩; subst g1135; clear hle1136
 obtain ⟨a1133, n1134, rfl⟩ := R1132.form
 refine Op.pures 2 [0, 3, 7, 8, 9] (L' := []) (e' := [(0, .pointer (some ⟨b_t, 0, none⟩)), (3, .slice none 0 0), (7, .slice a1133 ((t.map (·.Path)).length) n1134), (8, .int .i64 ((t.map (·.Path)).length : Int)), (9, .int .i64 0)]) (by kernel_rfl) ?_
 refine Op.goto 3 (by kernel_rfl) ?_
 have R1143 := Row.zero 59 kLeaf (gadd gE []) none
 have s1142 : St h g (ids []) g ([] :: [] :: [ch1131]) h1128 := St.flat (L := [ch1131]) rfl s1129
 have loop3 : ∀ (m : Nat) (out : List Leaf) (i : Int) (a1137 : Option Addr) (n1138 : Nat) (ch1139 : Chunk) (dc1140 : Chunk) (h1144 : Heap) (hm : (t.map (·.Path)).length - i.toNat < m) (h0 : 0 ≤ i) (h1 : i ≤ (t.map (·.Path)).length) (ho : out = t.take i.toNat)    (R1141 : Row 59 kLeaf (gadd gE dc1140) (.slice a1137 out.length n1138) out ch1139) (s_loop31143 : St h g (ids []) g [ch1139, dc1140, ch1131] h1144), At (fctx Tryz.prog B 30 Tryz.f30 R) [] 3 [(0, .pointer (some ⟨b_t, 0, none⟩)), (3, .slice a1137 out.length n1138), (7, .slice a1133 ((t.map (·.Path)).length) n1134), (8, .int .i64 ((t.map (·.Path)).length : Int)), (9, .int .i64 i)] h1144 := by
  intro m; induction m with
  | zero => intros; omega
  | succ m ih3 =>
   intro out i a1137 n1138 ch1139 dc1140 h1144 hm h0 h1 ho R1141 s_loop31143
   refine At.reg (L := [(0, false)]) (by kernel_rfl) ?_
   refine Op.pures 1 [0, 3, 7, 8, 9, 10] (L' := []) (e' := [(0, .pointer (some ⟨b_t, 0, none⟩)), (3, .slice a1137 out.length n1138), (7, .slice a1133 ((t.map (·.Path)).length) n1134), (8, .int .i64 ((t.map (·.Path)).length : Int)), (9, .int .i64 i), (10, .bool (decide (i < ((t.map (·.Path)).length : Int))))]) (by kernel_rfl) ?_
   refine Op.goto 4 (by kernel_rfl) ?_
   refine At.cond (b := decide (i < ((t.map (·.Path)).length : Int))) (c := .tmp 10) (by kernel_rfl) (by kernel_rfl) (by kernel_rfl) 5 8 (by kernel_rfl) (by kernel_rfl) (fun hb => ?_) (fun hb => ?_)
   ·have c1145 : i < ((t.map (·.Path)).length : Int) := of_decide_eq_true hb
    clear hb
    refine At.keep [0, 3, 7, 8, 9] ?_; show At _ _ _ [(0, .pointer (some ⟨b_t, 0, none⟩)), (3, .slice a1137 out.length n1138), (7, .slice a1133 ((t.map (·.Path)).length) n1134), (8, .int .i64 ((t.map (·.Path)).length : Int)), (9, .int .i64 i)] _
    refine At.reg (L := [(0, false), (1, false), (2, false)]) (by kernel_rfl) ?_
    obtain ⟨x1146, hx1147⟩ : ∃ c, (t.map (·.Path))[(i : Int).toNat]? = some c := ⟨_, List.getElem?_eq_getElem (by omega)⟩
    obtain ⟨b1148, o1149, cu1150, fz1151, ha1152, hb1153, hk1154⟩ := SlH.at_ (R1132.toH s_loop31143 2 rfl) _ hx1147
    cases ha1152
    refine Op.idx (T := 54) (E := 9) (sz := 1) (by_ := 16) (n := ((t.map (·.Path)).length)) (c := n1134) (k := .i64) (x := (.tmp 7)) (ix := (.tmp 9)) (dst := 11) (bk := b1148) (o := o1149) (m := i) (by kernel_rfl) (by kernel_rfl) (by kernel_rfl) (by kernel_rfl) (by omega) (by omega) ?_
    replace hk1154 : cut _ _ _ = [.string (mkS x1146)] := hk1154
    refine Op.load (T := 9) (x := (.tmp 11)) (o := o1149 + (i : Int).toNat * 1) (d := 12) (n := 1) (v := .string (mkS x1146)) (by kernel_rfl) (by kernel_rfl) (by kernel_rfl) hb1153 (cut_get hk1154 0 rfl) ?_
    refine Op.pures 1 [0, 3, 5, 7, 8, 9] (L' := []) (e' := [(0, .pointer (some ⟨b_t, 0, none⟩)), (3, .slice a1137 out.length n1138), (5, .string (mkS x1146)), (7, .slice (some ⟨b1148, o1149, none⟩) ((t.map (·.Path)).length) n1134), (8, .int .i64 ((t.map (·.Path)).length : Int)), (9, .int .i64 i)]) (by kernel_rfl) ?_
    refine Op.goto 6 (by kernel_rfl) ?_
    refine At.reg (L := [(0, false), (1, false), (2, false), (3, false), (4, false), (5, false), (6, false), (7, false), (8, false), (9, false), (10, false)]) (by kernel_rfl) ?_
    refine Op.pures 4 [0, 3, 5, 7, 8, 9, 13, 16] (L' := [(4, false), (5, false), (6, false), (7, false), (8, false), (9, false), (10, false)]) (e' := [(0, .pointer (some ⟨b_t, 0, none⟩)), (3, .slice a1137 out.length n1138), (5, .string (mkS x1146)), (7, .slice (some ⟨b1148, o1149, none⟩) ((t.map (·.Path)).length) n1134), (8, .int .i64 ((t.map (·.Path)).length : Int)), (9, .int .i64 i), (13, .slice a1137 out.length n1138), (16, .pointer (some ⟨b_t, 0, none⟩))]) (by kernel_rfl) ?_
    obtain ⟨mb1155, hb1156, om1157⟩ := o_t
    have o_t : VTree g b_t t := ⟨mb1155, hb1156, om1157⟩
    refine Op.load (T := 126) (x := (.tmp 16)) (o := 0) (d := 17) (n := 1) (v := .map (some mb1155)) (by kernel_rfl) (by kernel_rfl) (by kernel_rfl) (s_loop31143.sub _ _ hb1156) (by kernel_rfl) ?_
    refine Op.pures 1 [0, 3, 7, 8, 9, 13, 17, 18] (L' := [(6, false), (7, false), (8, false), (9, false), (10, false)]) (e' := [(0, .pointer (some ⟨b_t, 0, none⟩)), (3, .slice a1137 out.length n1138), (7, .slice (some ⟨b1148, o1149, none⟩) ((t.map (·.Path)).length) n1134), (8, .int .i64 ((t.map (·.Path)).length : Int)), (9, .int .i64 i), (13, .slice a1137 out.length n1138), (17, .map (some mb1155)), (18, .string (mkS x1146))]) (by kernel_rfl) ?_
    obtain ⟨es1158, clk1159, ks1160, hm1161, hR1162, hl1163, hp1164, hh1165, hk1166⟩ := VLm.open_ om1157
    rcases hk1166 x1146 with ⟨hf1170, hl1171⟩ | ⟨b1167, l1168, v1169, hf1170, hl1171, hb1172, hd1173, ha1174⟩
    ·exfalso; exact all_none o_t.sort hx1147 (by assumption)
    ·obtain ⟨a1175, n1176, rfl⟩ := hd1173.form
     refine Op.lookSome (ok := false) (d := .string) (mt := 126) (x := (.tmp 17)) (ix := (.tmp 18)) (dst := 19) (k := x1146) (m := mb1155) (v := .pointer (some ⟨b1167, 0, none⟩)) (z := .pointer none) (by kernel_rfl) (by kernel_rfl) keyS (by kernel_rfl) (by kernel_rfl) (s_loop31143.sub _ _ hm1161) hR1162 hl1171 ?_
     refine Op.call0 (dst := some 20) (f := 76) (args := #[.pointer (some ⟨b1167, 0, none⟩)]) (by kernel_rfl) s_loop31143 (clonedT _ _ _ s_loop31143.sub hG l1168 _ hd1173 b1167 hb1172 (by ((try dsimp only) <;> ((have := TreeB.data hB (by assumption); omega)))) ) ?_
     rintro _ g1184 _ h1177 hle1185 s1178 ⟨v1179, ch1180, rfl, R1181, hgg, rfl⟩; subst g1184; clear hle1185
     obtain ⟨a1182, n1183, rfl⟩ := R1181.form
     refine Op.lit (T := 52) (len := 1) (parts := #[(0, (.tmp 20))]) (dst := 21) (E := 59) (ps := [(0, .agg #[.string (mkS l1168.Path), .slice a1182 ((l1168.Data).length) n1183, .int .i64 l1168.Version, .int .i64 l1168.Owner, .int .i64 l1168.Next, .int .i64 l1168.Born])]) (cs := #[.string (mkS l1168.Path), .slice a1182 ((l1168.Data).length) n1183, .int .i64 l1168.Version, .int .i64 l1168.Owner, .int .i64 l1168.Next, .int .i64 l1168.Born]) (by kernel_rfl) (by kernel_rfl) (by kernel_rfl) s1178 ?_
     intro b1186 h1187 s1188
     have s1189 : St h g (ids []) g [dc1140, ch1180, ch1139, [(b1186, Obj.cells #[.string (mkS l1168.Path), .slice a1182 ((l1168.Data).length) n1183, .int .i64 l1168.Version, .int .i64 l1168.Owner, .int .i64 l1168.Next, .int .i64 l1168.Born] 59 (0, 0))], ch1131] h1187 := ((((s1188.front 0 rfl).front 2 rfl).front 2 rfl).front 3 rfl)
     have hn1190 := St.keysAt (A := (dc1140 ++ ch1180 : Chunk)) s1189 (by rw [List.flatten_cons, List.flatten_cons, ← List.append_assoc]; exact List.sublist_append_left _ _)
     have hd1191 := row_in (C := (dc1140 ++ ch1180 : Chunk)) (R1181.flat (fun _ _ _ _ h => h)) hn1190 (by intro p hp; simp [hp])
     have hr1192 := R1141.mono (gadd_app (c := dc1140) (c' := ch1180))
     have s1193 : St h g (ids []) g [(dc1140 ++ ch1180 : Chunk), ch1139, [(b1186, Obj.cells #[.string (mkS l1168.Path), .slice a1182 ((l1168.Data).length) n1183, .int .i64 l1168.Version, .int .i64 l1168.Owner, .int .i64 l1168.Next, .int .i64 l1168.Born] 59 (0, 0))], ch1131] h1187 := St.flat (L := [dc1140, ch1180, ch1139, [(b1186, Obj.cells #[.string (mkS l1168.Path), .slice a1182 ((l1168.Data).length) n1183, .int .i64 l1168.Version, .int .i64 l1168.Owner, .int .i64 l1168.Next, .int .i64 l1168.Born] 59 (0, 0))], ch1131]) (by simp only [List.flatten_cons, List.flatten_nil, List.append_assoc, List.cons_append, List.nil_append, List.append_nil]) s1189
     refine Op.append (x := (.tmp 13)) (y := (.tmp 21)) (t := 52) (t' := 52) (dst := 22) (E := 59) (by_ := 72) (d := kLeaf) (by kernel_rfl) (by kernel_rfl) (by kernel_rfl) (by kernel_rfl) rfl hr1192 s1193 1 rfl (Src.lit (m := 1) (sz := 6) (s1193.chunk 2 rfl) (news := [.string (mkS l1168.Path), .slice a1182 ((l1168.Data).length) n1183, .int .i64 l1168.Version, .int .i64 l1168.Owner, .int .i64 l1168.Next, .int .i64 l1168.Born]) rfl rfl (by simp [Value.oneCell']) _) (ys := [l1168]) ⟨_, _, rfl, ⟨_, hd1191, rfl⟩, Reads.nil⟩ rfl (by (have h1 := congrArg List.length ho; have := hB.1; simp only [List.length_take, List.length_map, List.length_cons, List.length_nil] at *; omega)) (fun _ _ _ => trivial) ?_
     intro v1194 ch1195 h1196 R1197 s1198 nn1199
     obtain ⟨a1200, n1201, rfl⟩ := R1197.form
     have s1202 := (s1198.front 2 rfl).drop
     refine Op.pures 1 [0, 3, 7, 8, 9] (L' := []) (e' := [(0, .pointer (some ⟨b_t, 0, none⟩)), (3, .slice a1200 ((out ++ ([l1168])).length) n1201), (7, .slice (some ⟨b1148, o1149, none⟩) ((t.map (·.Path)).length) n1134), (8, .int .i64 ((t.map (·.Path)).length : Int)), (9, .int .i64 i)]) (by kernel_rfl) ?_
     refine Op.goto 7 (by kernel_rfl) ?_
     refine At.reg (L := [(0, false), (1, false)]) (by kernel_rfl) ?_
     refine Op.val (dst := some 23) (v := .int .i64 (IntKind.wrap .i64 (i + 1))) (v' := .int .i64 (i + 1)) (by kernel_rfl) (wrapEq_i64 (by omega) (by (simp only [List.length_map] at *; have := hB.1; omega))) ?_
     refine Op.pures 1 [0, 3, 7, 8, 9] (L' := []) (e' := [(0, .pointer (some ⟨b_t, 0, none⟩)), (3, .slice a1200 ((out ++ ([l1168])).length) n1201), (7, .slice (some ⟨b1148, o1149, none⟩) ((t.map (·.Path)).length) n1134), (8, .int .i64 ((t.map (·.Path)).length : Int)), (9, .int .i64 (i + 1))]) (by kernel_rfl) ?_
     refine Op.goto 3 (by kernel_rfl) ?_
     have s1203 : St h g (ids []) g [ch1195, (dc1140 ++ ch1180 : Chunk), ch1131] h1196 := ((s1202.front 0 rfl).front 1 rfl)
     exact ih3  (out ++ ([l1168])) (i + 1) _ _ _ _ _ (by omega) (by omega) (by omega) (by exact all_step o_t.sort h0 hx1147 (by assumption) ho) R1197 s1203
   ·have c1204 : ¬ (i < ((t.map (·.Path)).length : Int)) := of_decide_eq_false hb
    clear hb
    refine At.keep [3] ?_; show At _ _ _ [(3, .slice a1137 out.length n1138)] _
    refine At.reg (L := [(0, false), (1, false)]) (by kernel_rfl) ?_
    refine Op.pures 2 [2] (L' := []) (e' := [(2, .slice a1137 out.length n1138)]) (by kernel_rfl) ?_
    refine Op.goto 9 (by kernel_rfl) ?_
    refine At.ret (f := Tryz.f30) (v := .slice a1137 out.length n1138) (by kernel_rfl) (by kernel_rfl) ?_
    have s1205 : St h g (ids []) g [ch1131, ch1139, dc1140] h1144 := (((s_loop31143.front 1 rfl).front 1 rfl).front 2 rfl)
    have s1206 : St h g (ids []) g [ch1139, dc1140] h1144 := (s1205).drop
    refine hR _ _ _ _ s1206 ⟨(.slice a1137 out.length n1138), ch1139, dc1140, ?_, ?_, rfl, rfl⟩
    ·exact rfl
    ·exact rowEq R1141 (by (rw [ho, List.take_of_length_le]; simp only [List.length_map] at *; omega))
 exact loop3 _  ([] : List Leaf) 0 _ _ _ _ _ (Nat.lt_succ_self _) (by omega) (by omega) (by rfl) R1143 s1142
end Go.Proofs.YtmjebehhpojihaaGreatDoor.Sw
namespace Go.Proofs.YtmjebehhpojihaaGreatDoor.Sw
open Go
set_option maxRecDepth 100000
set_option linter.unusedVariables false
set_option linter.unusedSimpArgs false
set_option linter.deprecated false
theorem indexI (B : World) (h : Heap) (g : GH) (hg : Sub g h) (hG : Glob g) (v_l : Value) (l : List Int) (h_l : SlR g 3 (kInt .i64) v_l l) (k0 : Int) (hlen : l.length ≤ 1000000000) :
  Spec Tryz.prog B 123 #[v_l, .int .i64 k0] h g [] (fun rv g' L' => rv = .int .i64 (findI (fun z => decide (k0 = z)) l) ∧ g' = g ∧ L' = []) := by
 obtain ⟨a_l, n_l, rfl⟩ := h_l.form
 refine Spec.of_at (f := Tryz.f123) (e := [(0, .slice a_l l.length n_l), (1, .int .i64 k0)]) Tryz.func123 (by kernel_rfl) (Nat.le_of_ble_eq_true (by kernel_rfl)) (by kernel_rfl) (by kernel_rfl) ?_
 intro R hR
 have s0 := St.init hg
 refine At.reg (L := [(0, false)]) (by kernel_rfl) ?_
 refine Op.pures 1 [0, 1] (L' := []) (e' := [(0, .slice a_l l.length n_l), (1, .int .i64 k0)]) (by kernel_rfl) ?_
 refine Op.goto 1 (by kernel_rfl) ?_
 refine At.reg (L := [(0, false), (1, false), (2, false)]) (by kernel_rfl) ?_
 refine Op.pures 3 [0, 1, 7, 8] (L' := []) (e' := [(0, .slice a_l l.length n_l), (1, .int .i64 k0), (7, .int .i64 (l.length : Int)), (8, .int .i64 0)]) (by kernel_rfl) ?_
 refine Op.goto 2 (by kernel_rfl) ?_
 have loop2 : ∀ (m : Nat) (i : Int) (h1001 : Heap) (hm : l.length - i.toNat < m) (h0 : 0 ≤ i) (h1 : i ≤ l.length) (hat : findAt (fun z => decide (k0 = z)) l i)     (s_loop21000 : St h g (ids []) g [] h1001), At (fctx Tryz.prog B 123 Tryz.f123 R) [] 2 [(0, .slice a_l l.length n_l), (1, .int .i64 k0), (7, .int .i64 (l.length : Int)), (8, .int .i64 i)] h1001 := by
  intro m; induction m with
  | zero => intros; omega
  | succ m ih2 =>
   intro i h1001 hm h0 h1 hat s_loop21000
   refine At.reg (L := [(0, false)]) (by kernel_rfl) ?_
   refine Op.pures 1 [0, 1, 7, 8, 9] (L' := []) (e' := [(0, .slice a_l l.length n_l), (1, .int .i64 k0), (7, .int .i64 (l.length : Int)), (8, .int .i64 i), (9, .bool (decide (i < (l.length : Int))))]) (by kernel_rfl) ?_
   refine Op.goto 3 (by kernel_rfl) ?_
   refine At.cond (b := decide (i < (l.length : Int))) (c := .tmp 9) (by kernel_rfl) (by kernel_rfl) (by kernel_rfl) 4 10 (by kernel_rfl) (by kernel_rfl) (fun hb => ?_) (fun hb => ?_)
   ·have c1002 : i < (l.length : Int) := of_decide_eq_true hb
    clear hb
    refine At.keep [0, 1, 7, 8] ?_; show At _ _ _ [(0, .slice a_l l.length n_l), (1, .int .i64 k0), (7, .int .i64 (l.length : Int)), (8, .int .i64 i)] _
    refine At.reg (L := [(0, false), (1, false)]) (by kernel_rfl) ?_
    refine Op.pures 2 [0, 1, 5, 7, 8] (L' := []) (e' := [(0, .slice a_l l.length n_l), (1, .int .i64 k0), (5, .int .i64 i), (7, .int .i64 (l.length : Int)), (8, .int .i64 i)]) (by kernel_rfl) ?_
    refine Op.goto 5 (by kernel_rfl) ?_
    refine At.reg (L := [(0, false), (1, false), (2, false), (3, false), (4, false), (5, false)]) (by kernel_rfl) ?_
    refine Op.pures 3 [0, 1, 5, 7, 8, 11, 12, 13] (L' := [(3, false), (4, false), (5, false)]) (e' := [(0, .slice a_l l.length n_l), (1, .int .i64 k0), (5, .int .i64 i), (7, .int .i64 (l.length : Int)), (8, .int .i64 i), (11, .int .i64 k0), (12, .slice a_l l.length n_l), (13, .int .i64 i)]) (by kernel_rfl) ?_
    obtain ⟨x1003, hx1004⟩ : ∃ c, l[(i : Int).toNat]? = some c := ⟨_, List.getElem?_eq_getElem (by omega)⟩
    obtain ⟨b1005, o1006, cu1007, fz1008, ha1009, hb1010, hk1011⟩ := SlR.at_ h_l _ hx1004
    cases ha1009
    refine Op.idx (T := 44) (E := 3) (sz := 1) (by_ := 8) (n := l.length) (c := n_l) (k := .i64) (x := (.tmp 12)) (ix := (.tmp 13)) (dst := 14) (bk := b1005) (o := o1006) (m := i) (by kernel_rfl) (by kernel_rfl) (by kernel_rfl) (by kernel_rfl) (by omega) (by omega) ?_
    replace hk1011 : cut _ _ _ = [.int .i64 x1003] := hk1011
    refine Op.load (T := 3) (x := (.tmp 14)) (o := o1006 + (i : Int).toNat * 1) (d := 15) (n := 1) (v := .int .i64 x1003) (by kernel_rfl) (by kernel_rfl) (by kernel_rfl) (s_loop21000.sub _ _ hb1010) (cut_get hk1011 0 rfl) ?_
    refine Op.pures 1 [0, 1, 5, 7, 8, 16] (L' := []) (e' := [(0, .slice (some ⟨b1005, o1006, none⟩) l.length n_l), (1, .int .i64 k0), (5, .int .i64 i), (7, .int .i64 (l.length : Int)), (8, .int .i64 i), (16, .bool (k0 == x1003))]) (by kernel_rfl) ?_
    refine Op.goto 6 (by kernel_rfl) ?_
    refine At.cond (b := k0 == x1003) (c := .tmp 16) (by kernel_rfl) (by kernel_rfl) (by kernel_rfl) 7 9 (by kernel_rfl) (by kernel_rfl) (fun hb => ?_) (fun hb => ?_)
    ·have c1012 : k0 = x1003 := eq_of_beq hb
     clear hb
     refine At.keep [5] ?_; show At _ _ _ [(5, .int .i64 i)] _
     refine At.reg (L := [(0, false), (1, false)]) (by kernel_rfl) ?_
     refine Op.pures 2 [4] (L' := []) (e' := [(4, .int .i64 i)]) (by kernel_rfl) ?_
     refine Op.goto 8 (by kernel_rfl) ?_
     refine At.ret (f := Tryz.f123) (v := .int .i64 i) (by kernel_rfl) (by kernel_rfl) ?_
     refine hR _ _ _ _ s_loop21000 ⟨?_, rfl, rfl⟩
     exact (eqI (by exact findAt_hit hat hx1004 (decide_eq_true c1012)))
    ·have c1013 : ¬ (k0 = x1003) := neF hb
     clear hb
     refine At.keep [0, 1, 7, 8] ?_; show At _ _ _ [(0, .slice (some ⟨b1005, o1006, none⟩) l.length n_l), (1, .int .i64 k0), (7, .int .i64 (l.length : Int)), (8, .int .i64 i)] _
     refine At.reg (L := [(0, false), (1, false)]) (by kernel_rfl) ?_
     refine Op.val (dst := some 18) (v := .int .i64 (IntKind.wrap .i64 (i + 1))) (v' := .int .i64 (i + 1)) (by kernel_rfl) (wrapEq_i64 (by omega) (by omega)) ?_
     refine Op.pures 1 [0, 1, 7, 8] (L' := []) (e' := [(0, .slice (some ⟨b1005, o1006, none⟩) l.length n_l), (1, .int .i64 k0), (7, .int .i64 (l.length : Int)), (8, .int .i64 (i + 1))]) (by kernel_rfl) ?_
     refine Op.goto 2 (by kernel_rfl) ?_
     exact ih2  (i + 1) _ (by omega) (by omega) (by omega) (by exact findAt_miss hat h0 hx1004 (decide_eq_false c1013))  s_loop21000
   ·have c1014 : ¬ (i < (l.length : Int)) := of_decide_eq_false hb
    clear hb
    refine At.keep [] ?_; show At _ _ _ [] _
    refine At.reg (L := [(0, false)]) (by kernel_rfl) ?_
    refine Op.pures 1 [4] (L' := []) (e' := [(4, .int .i64 (-1))]) (by kernel_rfl) ?_
    refine Op.goto 11 (by kernel_rfl) ?_
    refine At.ret (f := Tryz.f123) (v := .int .i64 (-1)) (by kernel_rfl) (by kernel_rfl) ?_
    refine hR _ _ _ _ s_loop21000 ⟨?_, rfl, rfl⟩
    exact (eqI (by exact findAt_end hat c1014))
 exact loop2 _  0 _ (Nat.lt_succ_self _) (by omega) (by omega) (by exact findAt_0 _ _)  s0
theorem containsI (B : World) (h : Heap) (g : GH) (hg : Sub g h) (hG : Glob g) (v_l : Value) (l : List Int) (h_l : SlR g 3 (kInt .i64) v_l l) (k0 : Int) (hlen : l.length ≤ 1000000000) :
  Spec Tryz.prog B 78 #[v_l, .int .i64 k0] h g [] (fun rv g' L' => rv = .bool (l.any (fun z => decide (k0 = z))) ∧ g' = g ∧ L' = []) := by
 obtain ⟨a_l, n_l, rfl⟩ := h_l.form
 refine Spec.of_at (f := Tryz.f78) (e := [(0, .slice a_l l.length n_l), (1, .int .i64 k0)]) Tryz.func78 (by kernel_rfl) (Nat.le_of_ble_eq_true (by kernel_rfl)) (by kernel_rfl) (by kernel_rfl) ?_
 intro R hR
 have s0 := St.init hg
 refine At.reg (L := [(0, false)]) (by kernel_rfl) ?_
 refine Op.pures 1 [0, 1] (L' := []) (e' := [(0, .slice a_l l.length n_l), (1, .int .i64 k0)]) (by kernel_rfl) ?_
 refine Op.goto 1 (by kernel_rfl) ?_
 refine At.reg (L := [(0, false), (1, false), (2, false), (3, false), (4, false)]) (by kernel_rfl) ?_
 refine Op.pures 2 [5, 6] (L' := [(2, false), (3, false), (4, false)]) (e' := [(5, .slice a_l l.length n_l), (6, .int .i64 k0)]) (by kernel_rfl) ?_
 refine Op.call0 (dst := some 7) (f := 123) (args := #[.slice a_l l.length n_l, .int .i64 k0]) (by kernel_rfl) s0 (indexI _ _ _ s0.sub hG _ _ h_l k0 (by ((try dsimp only) <;> (omega))) ) ?_
 rintro _ g1017 _ h1015 hle1018 s1016 ⟨rfl, hgg, rfl⟩; subst g1017; clear hle1018
 refine Op.pures 2 [4] (L' := []) (e' := [(4, .bool (decide ((findI (fun z => decide (k0 = z)) l) ≥ (0 : Int))))]) (by kernel_rfl) ?_
 refine Op.goto 2 (by kernel_rfl) ?_
 refine At.ret (f := Tryz.f78) (v := .bool (decide ((findI (fun z => decide (k0 = z)) l) ≥ (0 : Int)))) (by kernel_rfl) (by kernel_rfl) ?_
 refine hR _ _ _ _ s1016 ⟨?_, rfl, rfl⟩
 exact (eqB (by exact findI_any _ _))
theorem ownedF (B : World) (h : Heap) (g : GH) (hg : Sub g h) (hG : Glob g) (b_t : Nat) (t : List Leaf) (o_t : VTree g b_t t) (v_ow : Value) (ow : List Int) (h_ow : SlR g 3 (kInt .i64) v_ow ow) (hB : TreeB t) (how : ow.length ≤ 1000000000) :
  Spec Tryz.prog B 31 #[.pointer (some ⟨b_t, 0, none⟩), v_ow] h g [] (fun rv g' L' => ∃ v0 k0, rv = v0 ∧ Row 9 kStr g' v0 (ownedL t ow) k0 ∧ g' = g ∧ L' = [k0]) := by
 obtain ⟨a_ow, n_ow, rfl⟩ := h_ow.form
 refine Spec.of_at (f := Tryz.f31) (e := [(0, .pointer (some ⟨b_t, 0, none⟩)), (1, .slice a_ow ow.length n_ow)]) Tryz.func31 (by kernel_rfl) (Nat.le_of_ble_eq_true (by kernel_rfl)) (by kernel_rfl) (by kernel_rfl) ?_
 intro R hR
 have s0 := St.init hg
 refine At.reg (L := [(0, false), (1, false), (2, false)]) (by kernel_rfl) ?_
 refine Op.box (T := 46) (x := (.tmp 0)) (d := 2) (cs := #[.pointer (some ⟨b_t, 0, none⟩)]) (by kernel_rfl) (by kernel_rfl) s0 ?_
 intro b1019 h1020 s1021
 refine Op.box (T := 44) (x := (.tmp 1)) (d := 3) (cs := #[.slice a_ow ow.length n_ow]) (by kernel_rfl) (by kernel_rfl) s1021 ?_
 intro b1022 h1023 s1024
 refine Op.pures 1 [2, 3, 4] (L' := []) (e' := [(2, .pointer (some ⟨b1019, 0, none⟩)), (3, .pointer (some ⟨b1022, 0, none⟩)), (4, .slice none 0 0)]) (by kernel_rfl) ?_
 refine Op.goto 1 (by kernel_rfl) ?_
 refine At.reg (L := [(0, false)]) (by kernel_rfl) ?_
 refine Op.alloc (T := 54) (dst := 5) (cs := #[.slice none 0 0]) (by kernel_rfl) (by kernel_rfl) s1024 ?_
 intro b1025 h1026 s1027
 refine Op.goto 2 (by kernel_rfl) ?_
 refine At.reg (L := [(0, false), (1, false), (2, false)]) (by kernel_rfl) ?_
 refine Op.load (T := 46) (x := (.tmp 2)) (o := 0) (d := 8) (n := 1) (v := .pointer (some ⟨b_t, 0, none⟩)) (by kernel_rfl) (by kernel_rfl) (by kernel_rfl) (s1027.chunk 2 rfl) (by kernel_rfl) ?_
 refine Op.call0 (dst := some 9) (f := 75) (args := #[.pointer (some ⟨b_t, 0, none⟩)]) (by kernel_rfl) s1027 (sortedT _ _ _ s1027.sub hG b_t t o_t (by ((try dsimp only) <;> ((have := hB.1; omega)))) ) ?_
 rintro _ g1035 _ h1028 hle1036 s1029 ⟨v1030, ch1031, rfl, R1032, hgg, rfl⟩; subst g1035; clear hle1036
 obtain ⟨a1033, n1034, rfl⟩ := R1032.form
 obtain ⟨g1037, s1038, hle1039, hf1040⟩ := Row.freeze R1032 (s1029.front 0 rfl)
 replace hG := hG.mono hle1039
 replace h_ow := h_ow.mono hle1039
 replace o_t := o_t.mono hle1039
 refine Op.call0 (dst := some 10) (f := 77) (args := #[.slice a1033 ((t.map (·.Path)).length) n1034]) (by kernel_rfl) s1038 (backF _ _ _ s1038.sub hG _ _ hf1040 (by ((try dsimp only) <;> ((simp only [List.length_map]; have := hB.1; omega)))) ) ?_
 rintro _ g1047 _ h1041 hle1048 s1042 ⟨f1043, cp1044, rfl, e1045, hq1046, rfl⟩
 replace hG := hG.mono hle1048
 replace h_ow := h_ow.mono hle1048
 replace hf1040 := hf1040.mono hle1048
 replace o_t := o_t.mono hle1048
 refine Op.goto 3 (by kernel_rfl) ?_
 refine At.keep [2, 3, 4, 5, 10] ?_; show At _ _ _ [(2, .pointer (some ⟨b1019, 0, none⟩)), (3, .pointer (some ⟨b1022, 0, none⟩)), (4, .slice none 0 0), (5, .pointer (some ⟨b1025, 0, none⟩)), (10, .func (.func f1043) #[] cp1044)] _
 obtain ⟨s1050, hle1051⟩ := St.freeze (s1042.front 2 rfl)
 have hb1052 := gadd_one (g := g1047) b1019 (.cells #[.pointer (some ⟨b_t, 0, none⟩)] 46 (0, 0))
 generalize hg_g1049 : gadd g1047 _ = g1049 at s1050 hle1051 hb1052; clear hg_g1049
 replace hG := hG.mono hle1051
 replace h_ow := h_ow.mono hle1051
 replace hq1046 := hq1046.mono hle1051
 replace o_t := o_t.mono hle1051
 obtain ⟨s1054, hle1055⟩ := St.freeze (s1050.front 1 rfl)
 have hb1056 := gadd_one (g := g1049) b1022 (.cells #[.slice a_ow ow.length n_ow] 44 (0, 0))
 generalize hg_g1053 : gadd g1049 _ = g1053 at s1054 hle1055 hb1056; clear hg_g1053
 replace hG := hG.mono hle1055
 replace h_ow := h_ow.mono hle1055
 replace hq1046 := hq1046.mono hle1055
 replace o_t := o_t.mono hle1055
 replace hb1052 := hle1055 _ _ hb1052
 have R1058 := Row.zero 9 kStr g1053 none
 have s1057 : St h g (ids []) g1053 ([] :: [[(b1025, Obj.cells #[.slice none 0 0] 54 (0, 0))]]) h1041 := St.flat (L := [[(b1025, Obj.cells #[.slice none 0 0] 54 (0, 0))]]) rfl s1054
 refine At.rangeFunc (x := (.tmp 10)) (f := f1043) (cp := cp1044) (by kernel_rfl) rfl (by kernel_rfl) (by kernel_rfl) e1045 s1057 ?_
 intro r1059 l1060 tm1061 h1062 ft1063 s1064
 have s1065 : St h g (ids []) g1053 [[(l1060, .loop (mkL (mkQ 31 tm1061 (pt (codeOf Tryz.f31) 3) r1059) none))], [(b1025, Obj.cells #[.slice none (([] : List (List UInt8)).length) 0] 54 (0, 0))], [], [(r1059, .deferred (some []))]] h1062 := ((((s1064.front 1 rfl).front 2 rfl).front 3 rfl).front 3 rfl)
 have s1066 : St h g (ids []) g1053 [(([(l1060, .loop (mkL (mkQ 31 tm1061 (pt (codeOf Tryz.f31) 3) r1059) none))] : Chunk) ++ ([(b1025, Obj.cells #[.slice none (([] : List (List UInt8)).length) 0] 54 (0, 0))] : Chunk) ++ ([] : Chunk) : Chunk), [(r1059, .deferred (some []))]] h1062 := St.flat (L := [[(l1060, .loop (mkL (mkQ 31 tm1061 (pt (codeOf Tryz.f31) 3) r1059) none))], [(b1025, Obj.cells #[.slice none (([] : List (List UInt8)).length) 0] 54 (0, 0))], [], [(r1059, .deferred (some []))]]) (by simp only [List.flatten_cons, List.flatten_nil, List.append_assoc, List.cons_append, List.nil_append, List.append_nil]) s1065
 obtain ⟨I1067, hI1068⟩ : ∃ I : List Str → GH → Chunk → Prop, I = (fun xs g2 c2 => ∃ (out : List Str) (ao_out : Option Addr) (n_out : Nat) (k_out : Chunk), c2 = (([(l1060, .loop (mkL (mkQ 31 tm1061 (pt (codeOf Tryz.f31) 3) r1059) none))] : Chunk) ++ ([(b1025, Obj.cells #[.slice ao_out out.length n_out] 54 (0, 0))] : Chunk) ++ (k_out : Chunk) : Chunk) ∧ Row 9 kStr g2 (.slice ao_out out.length n_out) out k_out ∧ out = xs.filter fun q => match findL t q with | some n => ow.any (fun o => decide (n.Owner = o)) | none => false) := ⟨_, rfl⟩
 have hY1069 : Yld Tryz.prog B l1060 enP (fun full => full = (t.map (·.Path)).reverse) (fun _ => true) I1067 g1053 := by
  intro h1070 g1071 xs1072 x1073 args1074 c1075 hgg1076 hG1077 hgo1078 hen1079 hfp1080 hI1081 hs1082
  rw [hI1068] at hI1081
  obtain ⟨out1083, ao1084, n1085, k1086, rfl, R1087, ho1088⟩ := hI1081
  obtain ⟨i1089, rfl⟩ := hen1079
  obtain ⟨_, rfl, hpf⟩ := hfp1080
  have s1090 : St h1070 g1071 (ids [(([(l1060, .loop (mkL (mkQ 31 tm1061 (pt (codeOf Tryz.f31) 3) r1059) none))] : Chunk) ++ ([(b1025, Obj.cells #[.slice ao1084 out1083.length n1085] 54 (0, 0))] : Chunk) ++ (k1086 : Chunk) : Chunk)]) g1071 [[(l1060, .loop (mkL (mkQ 31 tm1061 (pt (codeOf Tryz.f31) 3) r1059) none))], [(b1025, Obj.cells #[.slice ao1084 out1083.length n1085] 54 (0, 0))], k1086] h1070 := St.flat (by simp only [List.flatten_cons, List.flatten_nil, List.append_assoc, List.cons_append, List.nil_append, List.append_nil]) hs1082
  replace hG := hG.mono hgg1076
  replace h_ow := h_ow.mono hgg1076
  replace hq1046 := hq1046.mono hgg1076
  replace o_t := o_t.mono hgg1076
  replace hb1052 := hgg1076 _ _ hb1052
  replace hb1056 := hgg1076 _ _ hb1056
  refine YSpec.of_at (n := Tryz.f31.ntmps) (e0 := [(2, .pointer (some ⟨b1019, 0, none⟩)), (3, .pointer (some ⟨b1022, 0, none⟩)), (4, .slice none 0 0), (5, .pointer (some ⟨b1025, 0, none⟩)), (10, .func (.func f1043) #[] cp1044)]) (e := [(12, .string (mkS x1073)), (11, .int .i64 i1089), (2, .pointer (some ⟨b1019, 0, none⟩)), (3, .pointer (some ⟨b1022, 0, none⟩)), (4, .slice none 0 0), (5, .pointer (some ⟨b1025, 0, none⟩)), (10, .func (.func f1043) #[] cp1044)]) (s1090.chunk 0 rfl) ft1063 (by kernel_rfl) (by kernel_rfl) (by kernel_rfl) (by kernel_rfl) ?_
  intro R2 hR2
  refine At.reg (L := [(0, false)]) (by kernel_rfl) ?_
  refine Op.pures 1 [2, 3, 5, 7] (L' := []) (e' := [(2, .pointer (some ⟨b1019, 0, none⟩)), (3, .pointer (some ⟨b1022, 0, none⟩)), (5, .pointer (some ⟨b1025, 0, none⟩)), (7, .string (mkS x1073))]) (by kernel_rfl) ?_
  refine Op.goto 1 (by kernel_rfl) ?_
  refine At.beginRound rfl (by kernel_rfl) s1090 0 rfl 2 (by kernel_rfl) ?_
  intro h1091 s1092
  refine At.draw (by kernel_rfl) (fun _ => False) [(5, true), (0, true), (1, false), (2, true), (3, true), (4, false), (6, false), (7, true), (8, true), (9, false), (10, false)] (by kernel_rfl) ?_
  refine Op.pures 1 [2, 3, 5, 7, 18] (L' := [(0, true), (1, false), (2, true), (3, true), (4, false), (6, false), (7, true), (8, true), (9, false), (10, false)]) (e' := [(2, .pointer (some ⟨b1019, 0, none⟩)), (3, .pointer (some ⟨b1022, 0, none⟩)), (5, .pointer (some ⟨b1025, 0, none⟩)), (7, .string (mkS x1073)), (18, .string (mkS x1073))]) (by kernel_rfl) ?_
  refine Op.loadF (T := 44) (x := (.tmp 3)) (o := 0) (d := 13) (n := 1) (v := .slice a_ow ow.length n_ow) (by kernel_rfl) (by kernel_rfl) (by kernel_rfl) (fun h => h) (s1092.sub _ _ hb1056) (by kernel_rfl) ?_
  refine Op.load (T := 46) (x := (.tmp 2)) (o := 0) (d := 14) (n := 1) (v := .pointer (some ⟨b_t, 0, none⟩)) (by kernel_rfl) (by kernel_rfl) (by kernel_rfl) (s1092.sub _ _ hb1052) (by kernel_rfl) ?_
  refine Op.pures 2 [5, 7, 13, 16, 18] (L' := [(4, false), (6, false), (7, true), (8, true), (9, false), (10, false)]) (e' := [(5, .pointer (some ⟨b1025, 0, none⟩)), (7, .string (mkS x1073)), (13, .slice a_ow ow.length n_ow), (16, .pointer (some ⟨b_t, 0, none⟩)), (18, .string (mkS x1073))]) (by kernel_rfl) ?_
  obtain ⟨mb1093, hb1094, om1095⟩ := o_t
  have o_t : VTree g1071 b_t t := ⟨mb1093, hb1094, om1095⟩
  refine Op.load (T := 126) (x := (.tmp 16)) (o := 0) (d := 17) (n := 1) (v := .map (some mb1093)) (by kernel_rfl) (by kernel_rfl) (by kernel_rfl) (s1092.sub _ _ hb1094) (by kernel_rfl) ?_
  obtain ⟨es1096, clk1097, ks1098, hm1099, hR1100, hl1101, hp1102, hh1103, hk1104⟩ := VLm.open_ om1095
  rcases hk1104 x1073 with ⟨hf1108, hl1109⟩ | ⟨b1105, l1106, v1107, hf1108, hl1109, hb1110, hd1111, ha1112⟩
  ·exfalso; exact mem_find o_t.sort hpf (by assumption)
  ·obtain ⟨a1113, n1114, rfl⟩ := hd1111.form
   refine Op.lookSome (ok := false) (d := .string) (mt := 126) (x := (.tmp 17)) (ix := (.tmp 18)) (dst := 19) (k := x1073) (m := mb1093) (v := .pointer (some ⟨b1105, 0, none⟩)) (z := .pointer none) (by kernel_rfl) (by kernel_rfl) keyS (by kernel_rfl) (by kernel_rfl) (s1092.sub _ _ hm1099) hR1100 hl1109 ?_
   refine Op.pures 2 [5, 7, 13, 21] (L' := [(9, false), (10, false)]) (e' := [(5, .pointer (some ⟨b1025, 0, none⟩)), (7, .string (mkS x1073)), (13, .slice a_ow ow.length n_ow), (21, .pointer (some ⟨b1105, 3, none⟩))]) (by kernel_rfl) ?_
   refine Op.load (T := 3) (x := (.tmp 21)) (o := 3) (d := 22) (n := 1) (v := .int .i64 l1106.Owner) (by kernel_rfl) (by kernel_rfl) (by kernel_rfl) (s1092.sub _ _ hb1110) (by kernel_rfl) ?_
   refine Op.call0 (dst := some 23) (f := 78) (args := #[.slice a_ow ow.length n_ow, .int .i64 l1106.Owner]) (by kernel_rfl) s1092 (containsI _ _ _ s1092.sub hG _ _ h_ow l1106.Owner (by ((try dsimp only) <;> (omega))) ) ?_
   rintro _ g1117 _ h1115 hle1118 s1116 ⟨rfl, hgg, rfl⟩; subst g1117; clear hle1118
   refine Op.goto 3 (by kernel_rfl) ?_
   refine At.cond (b := ow.any (fun z => decide (l1106.Owner = z))) (c := .tmp 23) (by kernel_rfl) (by kernel_rfl) (by kernel_rfl) 4 5 (by kernel_rfl) (by kernel_rfl) (fun hb => ?_) (fun hb => ?_)
   ·have c1119 : (ow.any (fun z => decide (l1106.Owner = z))) = true := hb
    clear hb
    refine At.keep [5, 7] ?_; show At _ _ _ [(5, .pointer (some ⟨b1025, 0, none⟩)), (7, .string (mkS x1073))] _
    refine At.reg (L := [(0, false), (1, false), (2, false), (3, false), (4, false)]) (by kernel_rfl) ?_
    refine Op.load (T := 54) (x := (.tmp 5)) (o := 0) (d := 24) (n := 1) (v := .slice ao1084 out1083.length n1085) (by kernel_rfl) (by kernel_rfl) (by kernel_rfl) (s1116.chunk 1 rfl) (by kernel_rfl) ?_
    refine Op.pures 1 [5, 24, 25] (L' := [(2, false), (3, false), (4, false)]) (e' := [(5, .pointer (some ⟨b1025, 0, none⟩)), (24, .slice ao1084 out1083.length n1085), (25, .string (mkS x1073))]) (by kernel_rfl) ?_
    refine Op.lit (T := 54) (len := 1) (parts := #[(0, (.tmp 25))]) (dst := 26) (E := 9) (ps := [(0, .string (mkS x1073))]) (cs := #[.string (mkS x1073)]) (by kernel_rfl) (by kernel_rfl) (by kernel_rfl) s1116 ?_
    intro b1120 h1121 s1122
    refine Op.append (x := (.tmp 24)) (y := (.tmp 26)) (t := 54) (t' := 54) (dst := 27) (E := 9) (by_ := 16) (d := kStr) (by kernel_rfl) (by kernel_rfl) (by kernel_rfl) (by kernel_rfl) rfl R1087 s1122 3 rfl (Src.lit (m := 1) (sz := 1) (s1122.chunk 0 rfl) (news := [.string (mkS x1073)]) rfl rfl (by simp [Value.oneCell']) _) (ys := [x1073]) (⟨_, _, rfl, rfl, Reads.nil⟩) rfl (by (have h1 := congrArg List.length ho1088; have h2 := hpf.length_le; have := hB.1; simp only [List.length_reverse, List.length_map, List.length_append, List.length_cons, List.length_nil] at *; have h3 := List.length_filter_le (fun q => match findL t q with | some n => ow.any (fun o => decide (n.Owner = o)) | none => false) xs1072; omega)) (fun _ _ _ => trivial) ?_
    intro v1123 ch1124 h1125 R1126 s1127 nn1128
    obtain ⟨a1129, n1130, rfl⟩ := R1126.form
    have s1131 := (s1127.front 0 rfl).drop
    refine Op.store (T := 54) (x := (.tmp 5)) (y := (.tmp 27)) (b := b1025) (o := 0) (vs := [.slice a1129 ((out1083 ++ ([x1073])).length) n1130]) (a? := false) (n := 1) (by kernel_rfl) (by kernel_rfl) (by kernel_rfl) (by kernel_rfl) rfl (by simp [Value.oneCell']) s1131 1 rfl (Nat.le_of_ble_eq_true (by kernel_rfl)) (cs := #[.slice ao1084 out1083.length n1085]) (cs' := #[.slice a1129 ((out1083 ++ ([x1073])).length) n1130]) (by kernel_rfl) (fun _ => trivial) ?_
    intro h1132 s1133
    refine Op.goto 5 (by kernel_rfl) ?_
    refine At.roundEnd (j := none) (by kernel_rfl) s1133 0 rfl ?_
    intro h1134 s1135
    have s1136 : St h1070 g1071 (ids [(([(l1060, .loop (mkL (mkQ 31 tm1061 (pt (codeOf Tryz.f31) 3) r1059) none))] : Chunk) ++ ([(b1025, Obj.cells #[.slice ao1084 out1083.length n1085] 54 (0, 0))] : Chunk) ++ (k1086 : Chunk) : Chunk)]) g1071 [(([(l1060, .loop (mkL (mkQ 31 tm1061 (pt (codeOf Tryz.f31) 3) r1059) none))] : Chunk) ++ ([(b1025, Obj.cells #[.slice a1129 ((out1083 ++ ([x1073])).length) n1130] 54 (0, 0))] : Chunk) ++ (ch1124 : Chunk) : Chunk)] h1134 := St.flat (L := [[(l1060, .loop (mkL (mkQ 31 tm1061 (pt (codeOf Tryz.f31) 3) r1059) none))], [(b1025, Obj.cells #[.slice a1129 ((out1083 ++ ([x1073])).length) n1130] 54 (0, 0))], ch1124]) (by simp only [List.flatten_cons, List.flatten_nil, List.append_assoc, List.cons_append, List.nil_append, List.append_nil]) s1135
    refine hR2 _ _ _ _ s1136 ⟨_, by rfl, rfl, ?_⟩
    rw [hI1068]; exact ⟨(out1083 ++ ([x1073])), a1129, n1130, ch1124, rfl, R1126, (by (have h1 := owned_step o_t.sort hpf (by assumption) ho1088; rw [if_pos (by assumption)] at h1; exact h1))⟩
   ·have c1137 : (ow.any (fun z => decide (l1106.Owner = z))) = false := hb
    clear hb
    refine At.keep [5] ?_; show At _ _ _ [(5, .pointer (some ⟨b1025, 0, none⟩))] _
    refine At.roundEnd (j := none) (by kernel_rfl) s1116 0 rfl ?_
    intro h1138 s1139
    have s1140 : St h1070 g1071 (ids [(([(l1060, .loop (mkL (mkQ 31 tm1061 (pt (codeOf Tryz.f31) 3) r1059) none))] : Chunk) ++ ([(b1025, Obj.cells #[.slice ao1084 out1083.length n1085] 54 (0, 0))] : Chunk) ++ (k1086 : Chunk) : Chunk)]) g1071 [(([(l1060, .loop (mkL (mkQ 31 tm1061 (pt (codeOf Tryz.f31) 3) r1059) none))] : Chunk) ++ ([(b1025, Obj.cells #[.slice ao1084 out1083.length n1085] 54 (0, 0))] : Chunk) ++ (k1086 : Chunk) : Chunk)] h1138 := St.flat (L := [[(l1060, .loop (mkL (mkQ 31 tm1061 (pt (codeOf Tryz.f31) 3) r1059) none))], [(b1025, Obj.cells #[.slice ao1084 out1083.length n1085] 54 (0, 0))], k1086]) (by simp only [List.flatten_cons, List.flatten_nil, List.append_assoc, List.cons_append, List.nil_append, List.append_nil]) s1139
    refine hR2 _ _ _ _ s1140 ⟨_, by rfl, rfl, ?_⟩
    rw [hI1068]; exact ⟨out1083, ao1084, n1085, k1086, rfl, R1087, (by (have h1 := owned_step o_t.sort hpf (by assumption) ho1088; rw [if_neg (Bool.eq_false_iff.1 (by assumption))] at h1; exact h1))⟩
 refine AtIn.call (Lc := [(([(l1060, .loop (mkL (mkQ 31 tm1061 (pt (codeOf Tryz.f31) 3) r1059) none))] : Chunk) ++ ([(b1025, Obj.cells #[.slice none (([] : List (List UInt8)).length) 0] 54 (0, 0))] : Chunk) ++ ([] : Chunk) : Chunk)]) (L := [[(r1059, .deferred (some []))]]) s1066 (hq1046 B _ _ _ I1067 (fun _ => true) _ (gle.refl _) s1066.sub hG hY1069 rfl (by rw [hI1068]; exact ⟨([] : List (List UInt8)), none, 0, [], rfl, R1058, (by rfl)⟩) (St.part (Lc := [(([(l1060, .loop (mkL (mkQ 31 tm1061 (pt (codeOf Tryz.f31) 3) r1059) none))] : Chunk) ++ ([(b1025, Obj.cells #[.slice none (([] : List (List UInt8)).length) 0] 54 (0, 0))] : Chunk) ++ ([] : Chunk) : Chunk)]) (L := [[(r1059, .deferred (some []))]]) s1066)) ?_
 rintro _ g1141 _ h1142 hle1143 s1144 ⟨full1145, xs1146, c1147, rfl, ho1148, hp1149, hf1150, hpr1151, rfl, hI1152⟩
 replace hG := hG.mono hle1143
 replace h_ow := h_ow.mono hle1143
 replace hq1046 := hq1046.mono hle1143
 replace o_t := o_t.mono hle1143
 replace hb1052 := hle1143 _ _ hb1052
 replace hb1056 := hle1143 _ _ hb1056
 have hx := hf1150 rfl; subst hx
 rw [hI1068] at hI1152
 obtain ⟨out1153, ao1154, n1155, k1156, rfl, R1157, ho1158⟩ := hI1152
 have s1159 : St h g (ids []) g1141 [[(l1060, .loop (mkL (mkQ 31 tm1061 (pt (codeOf Tryz.f31) 3) r1059) none))], [(b1025, Obj.cells #[.slice ao1154 out1153.length n1155] 54 (0, 0))], k1156, [(r1059, .deferred (some []))]] h1142 := St.flat (by simp only [List.flatten_cons, List.flatten_nil, List.append_assoc, List.cons_append, List.nil_append, List.append_nil]) s1144
 refine AtI.endLoop (j := none) s1159 0 rfl ?_
 intro h1160 s1161
 have s1162 := s1161.drop
 refine AtI.at_ 4 (by kernel_rfl) ?_
 refine At.reg (L := [(0, false), (1, false)]) (by kernel_rfl) ?_
 refine Op.load (T := 54) (x := (.tmp 5)) (o := 0) (d := 28) (n := 1) (v := .slice ao1154 out1153.length n1155) (by kernel_rfl) (by kernel_rfl) (by kernel_rfl) (s1162.chunk 0 rfl) (by kernel_rfl) ?_
 refine Op.pures 1 [4] (L' := []) (e' := [(4, .slice ao1154 out1153.length n1155)]) (by kernel_rfl) ?_
 refine Op.goto 5 (by kernel_rfl) ?_
 have s1163 : St h g (ids []) g1141 [[(r1059, .deferred (some []))], [(b1025, Obj.cells #[.slice ao1154 out1153.length n1155] 54 (0, 0))], k1156] h1160 := (((s1162.front 1 rfl).front 1 rfl).front 2 rfl)
 refine At.ofI (AtI.retD (L := [[(b1025, Obj.cells #[.slice ao1154 out1153.length n1155] 54 (0, 0))], k1156]) (f := Tryz.f31) (v := .slice ao1154 out1153.length n1155) [r1059] (by kernel_rfl) (by kernel_rfl) s1163 ?_)
 intro h1164 s1165
 have s1166 : St h g (ids []) g1141 [k1156] h1164 := (s1165).drop
 have s1167 : St h g (ids []) g [k1156] h1164 := s1166.unfrz
 replace R1157 := R1157.flat (fun _ _ _ _ h => h) (g' := g)
 refine hR _ _ _ _ s1167 ⟨(.slice ao1154 out1153.length n1155), k1156, ?_, ?_, rfl, rfl⟩
 ·exact rfl
 ·exact rowEq R1157 (by rw [ho1158, ho1148]; exact owned_end o_t.sort)
end Go.Proofs.YtmjebehhpojihaaGreatDoor.Sw
namespace Go.Proofs.YtmjebehhpojihaaGreatDoor.Sw
set_option linter.unusedVariables false
set_option linter.unusedSimpArgs false
set_option linter.deprecated false
open Go
def OpenLm (ks : List (Str × Value)) (F : Chunk) (ns : List Leaf) : Prop := ∃ ms : List LMem, ks = ksOf ms ∧ F.Perm (flM ms) ∧ RowsM ms ∧ (ms.map (·.l)).Perm ns ∧ SortL ns ∧ ∀ n ∈ ns, n.Path.length ≤ 64
theorem St.forget {h0 : Heap} {g0 : GH} {S0 : Nat → Prop} {g g1 : GH} {L : List Chunk} {h : Heap} (s : St h0 g0 S0 g L h) (h1 : gle g0 g1) (h2 : gle g1 g) : St h0 g0 S0 g1 L h :=
  ⟨s.size, s.frame, h1, fun b hb => s.new b (by obtain ⟨x, hx⟩ := Option.ne_none_iff_exists'.1 hb; rw [h2 _ _ hx]; simp), fun b o hb => s.sub b o (h2 _ _ hb), s.has, s.nodup,
    fun p hp => (by cases hg : g1 p.1 with
      | none => rfl
      | some x => have := h2 _ _ hg; rw [s.sep p hp] at this; cases this), s.own⟩
section
variable {g : GH} {mb : Nat} {ns : List Leaf} {c F : Chunk} {es : Array MapEntry} {clk : Nat} {ks : List (Str × Value)}
theorem IsLm.open_ (h : IsLm g mb ns c) : ∃ es clk ks F, c.Perm ((mb, .map es clk) :: F) ∧ MapR encS es clk ks ∧ OpenLm ks F ns := by
  obtain ⟨es, clk, ms, hp, ⟨h1, h2, h3, h4⟩, hr⟩ := h
  exact ⟨es, clk, ksOf ms, flM ms, hp, h1, ms, rfl, List.Perm.refl _, hr, h2, h3, h4⟩
theorem OpenLm.close (h : OpenLm ks F ns) (hR : MapR encS es clk ks) (hc : c.Perm ((mb, .map es clk) :: F)) : IsLm g mb ns c := by
  obtain ⟨ms, rfl, hF, hr, h2, h3, h4⟩ := h
  exact ⟨es, clk, ms, hc.trans (hF.cons _), ⟨hR, h2, h3, h4⟩, hr⟩
theorem OpenLm.nil : OpenLm [] [] [] := ⟨[], rfl, List.Perm.refl _, fun m hm => absurd hm (by simp), List.Perm.refl _, List.Pairwise.nil, fun n hn => absurd hn (by simp)⟩
theorem OpenLm.sort (h : OpenLm ks F ns) : SortL ns := by obtain ⟨_, _, _, _, _, h3, _⟩ := h; exact h3
theorem OpenLm.len (h : OpenLm ks F ns) : ks.length = ns.length := by
  obtain ⟨ms, rfl, _, _, h2, _⟩ := h
  have := h2.length_eq
  simpa [ksOf] using this
theorem OpenLm.look (h : OpenLm ks F ns) (p : Str) : (lookK ks p).isSome = (findL ns p).isSome := by
  obtain ⟨ms, rfl, hF, hr, h2, h3, h4⟩ := h
  have hn : (ms.map (·.l.Path)).Nodup := by
    have := (h2.map (·.Path)).nodup_iff.2 h3.nodup
    simpa [List.map_map, Function.comp_def] using this
  rcases ks_look hn p with ⟨h5, h6⟩ | ⟨m, _, h5, h6⟩
  · rw [h6, ← findL_perm h2 h3.nodup, h5]; rfl
  · rw [h6, ← findL_perm h2 h3.nodup, h5]; rfl
theorem flM_app (a b : List LMem) : flM (a ++ b) = flM a ++ flM b := by simp [flM]
theorem flM_perm {a b : List LMem} (h : a.Perm b) : (flM a).Perm (flM b) := (h.map chM).flatten
theorem OpenLm.ins (h : OpenLm ks F ns) {l : Leaf} {v : Value} {b : Nat} {ck : Chunk} (hf : findL ns l.Path = none) (hr : Row 5 kU8 g v l.Data ck) (hl : l.Path.length ≤ 64) :
    OpenLm (updK ks l.Path (.pointer (some ⟨b, 0, none⟩))) ((b, .cells (cellsL l v) TL (0, 0)) :: ck ++ F) (withL ns l) := by
  obtain ⟨ms, rfl, hF, hrs, h2, h3, h4⟩ := h
  have hno : ∀ p ∈ ksOf ms, p.1 ≠ l.Path := by
    intro p hp
    obtain ⟨m, hm, rfl⟩ := List.mem_map.1 hp
    exact findL_none.1 hf m.l (h2.mem_iff.1 (List.mem_map.2 ⟨m, hm, rfl⟩))
  have hd : delL ns l.Path = ns := delL_none hf
  have hw : (withL ns l).Perm (l :: ns) := by have := withL_perm ns l; rwa [hd] at this
  refine ⟨ms ++ [⟨b, l, v, ck⟩], ?_, ?_, ?_, ?_, withL_sort h3 l, ?_⟩
  · unfold updK
    rw [if_neg (by
      rw [List.any_eq_true]
      rintro ⟨p, hp, e⟩
      exact hno p hp (by simpa using e))]
    simp [ksOf]
  · rw [flM_app]
    have : flM [⟨b, l, v, ck⟩] = (b, .cells (cellsL l v) TL (0, 0)) :: ck := by simp [flM, chM]
    rw [this]
    exact (List.perm_append_comm).trans (hF.append_right _)
  · intro m hm
    rcases List.mem_append.1 hm with hm | hm
    · exact hrs m hm
    · rw [List.mem_singleton] at hm
      subst hm
      exact hr.flat (fun _ _ _ _ h => h)
  · rw [List.map_append]
    exact ((List.perm_append_comm).trans (h2.cons l)).trans hw.symm
  · intro n hn
    rcases List.mem_cons.1 (hw.mem_iff.1 hn) with rfl | hn
    · exact hl
    · exact h4 n hn
theorem OpenLm.del (h : OpenLm ks F ns) (p : Str) : ∃ F' D, F.Perm (F' ++ D) ∧ OpenLm (delK ks p) F' (delL ns p) := by
  obtain ⟨ms, rfl, hF, hrs, h2, h3, h4⟩ := h
  refine ⟨flM (ms.filter fun m => !decide (m.l.Path = p)), flM (ms.filter fun m => !(!decide (m.l.Path = p))), ?_, ms.filter fun m => !decide (m.l.Path = p), ?_, List.Perm.refl _, fun m hm => hrs m (List.mem_filter.1 hm).1, ?_, delL_sort h3 p, fun n hn => h4 n (List.mem_filter.1 hn).1⟩
  · refine hF.trans ?_
    rw [← flM_app]
    exact flM_perm (List.filter_append_perm _ _).symm
  · unfold delK ksOf
    rw [List.filter_map]
    rfl
  · have := h2.filter fun n => !decide (n.Path = p)
    rw [List.filter_map] at this
    exact this
theorem OpenLm.at_ (h : OpenLm ks F ns) {l : Leaf} {b : Nat} (hR : MapR encS es clk ks) (hf : findL ns l.Path = some l) (he : ∃ e ∈ es.toList, e.key = encS l.Path ∧ e.val = .pointer (some ⟨b, 0, none⟩)) :
    ∃ v c1 F', F.Perm ((b, .cells (cellsL l v) TL (0, 0)) :: c1 ++ F') ∧ Row 5 kU8 g v l.Data c1 ∧
      ∀ (l' : Leaf) (v' : Value) (c1' : Chunk), l'.Path = l.Path → Row 5 kU8 g v' l'.Data c1' → OpenLm ks ((b, .cells (cellsL l' v') TL (0, 0)) :: c1' ++ F') (withL ns l') := by
  obtain ⟨ms, rfl, hF, hrs, h2, h3, h4⟩ := h
  have hn : (ms.map (·.l.Path)).Nodup := by
    have := (h2.map (·.Path)).nodup_iff.2 h3.nodup
    simpa [List.map_map, Function.comp_def] using this
  obtain ⟨e, he1, he2, he3⟩ := he
  obtain ⟨m, hm, hml, hmb⟩ : ∃ m ∈ ms, m.l = l ∧ m.b = b := by
    have : (e.key, e.val) ∈ es.toList.map (fun e => (e.key, e.val)) := List.mem_map.2 ⟨e, he1, rfl⟩
    rw [hR.1] at this
    obtain ⟨q, hq, eq⟩ := List.mem_map.1 this
    obtain ⟨m, hm, rfl⟩ := List.mem_map.1 hq
    simp only [Prod.mk.injEq, he2, he3, Value.pointer.injEq, Option.some.injEq, Addr.mk.injEq] at eq
    have hp : m.l.Path = l.Path := keyS.inj _ _ eq.1
    have h6 : findL (ms.map (·.l)) m.l.Path = some m.l := findL_of (by simpa [List.map_map, Function.comp_def] using hn) (List.mem_map.2 ⟨m, hm, rfl⟩)
    rw [findL_perm h2 h3.nodup, hp, hf] at h6
    exact ⟨m, hm, (Option.some.inj h6).symm, eq.2.1⟩
  subst hml hmb
  obtain ⟨a, d, rfl⟩ := List.append_of_mem hm
  refine ⟨m.v, m.c, flM (a ++ d), ?_, (hrs m hm).flat (fun _ _ _ _ h => h), ?_⟩
  · refine hF.trans ((flM_perm (List.perm_middle)).trans ?_)
    exact List.Perm.refl _
  · intro l' v' c1' hp hr'
    refine ⟨a ++ ⟨m.b, l', v', c1'⟩ :: d, ?_, ?_, ?_, ?_, withL_sort h3 l', ?_⟩
    · simp [ksOf, hp]
    · exact (flM_perm (List.perm_middle (a := (⟨m.b, l', v', c1'⟩ : LMem)) (l₁ := a) (l₂ := d)).symm)
    · intro q hq
      rcases List.mem_append.1 hq with hq | hq
      · exact hrs q (by simp [hq])
      · rcases List.mem_cons.1 hq with rfl | hq
        · exact hr'.flat (fun _ _ _ _ h => h)
        · exact hrs q (by simp [hq])
    · rw [List.map_append, List.map_cons] at h2 ⊢
      have h7 : (m.l :: ((a.map (·.l)) ++ d.map (·.l))).Perm ns := (List.perm_middle.symm).trans h2
      have h8 : delL ns l'.Path = delL ns m.l.Path := by rw [hp]
      have h9 : ((a.map (·.l)) ++ d.map (·.l)).Perm (delL ns m.l.Path) := by
        have h10 := h7.filter fun n => !decide (n.Path = m.l.Path)
        rw [List.filter_cons] at h10
        simp only [decide_true, Bool.not_true, Bool.false_eq_true, if_false] at h10
        have h11 : (((a.map (·.l)) ++ d.map (·.l)).filter fun n => !decide (n.Path = m.l.Path)) = (a.map (·.l)) ++ d.map (·.l) := by
          rw [List.filter_eq_self]
          intro n hn'
          have hnd : ((m.l :: ((a.map (·.l)) ++ d.map (·.l))).map (fun n : Leaf => n.Path)).Nodup := (h7.map (fun n : Leaf => n.Path)).nodup_iff.2 h3.nodup
          rw [List.map_cons] at hnd
          have := (List.nodup_cons.1 hnd).1
          simp only [Bool.not_eq_true', decide_eq_false_iff_not]
          exact fun e => this (e ▸ List.mem_map.2 ⟨n, hn', rfl⟩)
        rw [h11] at h10
        exact h10
      refine (List.perm_middle).trans (((h9.cons l').trans ?_))
      have := (withL_perm ns l').symm
      rwa [h8] at this
    · intro n hn'
      rcases List.mem_cons.1 ((withL_perm ns l').mem_iff.1 hn') with rfl | hn'
      · rw [hp]; exact h4 m.l (h2.mem_iff.1 (by simp))
      · exact h4 n (List.mem_filter.1 hn').1
theorem leaf_own {h0 : Heap} {g0 : GH} {S0 : Nat → Prop} {L : List Chunk} {h : Heap} {C : Chunk} {bt b0 mb' b : Nat} {l : Leaf} {T : TypeId} (s : St h0 g0 S0 g (C :: L) h) (h1 : (bt, Obj.cells #[.map (some b0)] T (0, 0)) ∈ C) (h2 : (b0, Obj.map es clk) ∈ C)
    (h3 : gadd g C bt = some (.cells #[.map (some mb')] T (0, 0))) (h4 : LeafAt (gadd g C) mb' l b) : ∃ e ∈ es.toList, e.key = encS l.Path ∧ e.val = .pointer (some ⟨b, 0, none⟩) := by
  have h5 := gadd_mem (g := g) s.keys h1
  rw [h3] at h5
  simp only [Option.some.injEq, Obj.cells.injEq, and_true, Array.mk.injEq, List.cons.injEq, Value.map.injEq] at h5
  subst h5
  obtain ⟨es', clk', h6, h7⟩ := h4
  have h8 := gadd_mem (g := g) s.keys h2
  rw [h6] at h8
  simp only [Option.some.injEq, Obj.map.injEq] at h8
  obtain ⟨rfl, _⟩ := h8
  exact h7
end
end Go.Proofs.YtmjebehhpojihaaGreatDoor.Sw
namespace Go.Proofs.YtmjebehhpojihaaGreatDoor.Sw
open Go
set_option maxRecDepth 100000
set_option linter.unusedVariables false
set_option linter.unusedSimpArgs false
set_option linter.deprecated false
def IsTree (g : GH) (b : Nat) (x : List Leaf) (c : Chunk) : Prop := ∃ b0 c0, c = (b, .cells #[.map (some b0)] 128 (0, 0)) :: (c0) ∧ IsLm g b0 x c0
theorem IsTree.mono {g g' : GH} {b : Nat} {x : List Leaf} {c : Chunk} (h : IsTree g b x c) (hg : gle g g') : IsTree g' b x c := by
 obtain ⟨b0, c0, e, h0⟩ := h
 exact ⟨b0, c0, e, h0.mono hg⟩
theorem IsTree.eq {g : GH} {b : Nat} {x y : List Leaf} {c : Chunk} (h : IsTree g b x c) (e : x = y) : IsTree g b y c := e ▸ h
theorem IsTree.flat {g g' : GH} {b : Nat} {x : List Leaf} {c : Chunk} (h : IsTree g b x c) : IsTree g' b x c := by
 obtain ⟨b0, c0, e, h0⟩ := h
 exact ⟨b0, c0, e, h0.flat⟩
theorem IsTree.sort {g : GH} {b : Nat} {ns : List Leaf} {c : Chunk} (H : IsTree g b ns c) : SortL ns := by
 obtain ⟨b0, c0, rfl, es, clk, ms, _, h1, _⟩ := H
 exact h1.2.2.1
theorem IsTree.frz {h0 : Heap} {g0 : GH} {S0 : Nat → Prop} {g : GH} {L : List Chunk} {h : Heap} {C c : Chunk} {b : Nat} {ns : List Leaf} (H : IsTree g b ns c) (s : St h0 g0 S0 g (C :: L) h) (hc : ∀ p ∈ c, p ∈ C) : VTree (gadd g C) b ns := by
 obtain ⟨b0, c0, rfl, h1⟩ := H
 exact ⟨b0, gadd_mem s.keys (hc _ (.head _)), h1.frz s fun p hp => hc p (.tail _ hp)⟩
theorem newT (B : World) (h : Heap) (g : GH) (hg : Sub g h) (hG : Glob g)   :
  Spec Tryz.prog B 27 #[] h g [] (fun rv g' L' => ∃ b0 k0, rv = .pointer (some ⟨b0, 0, none⟩) ∧ IsTree g' b0 ([⟨[47], [], 0, -1, 0, 0⟩]) k0 ∧ g' = g ∧ L' = [k0]) := by
 refine Spec.of_at (f := Tryz.f27) (e := []) Tryz.func27 (by kernel_rfl) (Nat.le_of_ble_eq_true (by kernel_rfl)) (by kernel_rfl) (by kernel_rfl) ?_
 intro R hR
 have s0 := St.init hg
 refine At.reg (L := [(0, false)]) (by kernel_rfl) ?_
 refine Op.pures 1 [] (L' := []) (e' := []) (by kernel_rfl) ?_
 refine Op.goto 1 (by kernel_rfl) ?_
 refine At.reg (L := [(0, false), (1, false), (2, false), (3, false), (4, false), (5, false), (6, false), (7, false)]) (by kernel_rfl) ?_
 refine Op.makeMap (mt := 126) (dst := 1) (by kernel_rfl) s0 ?_
 intro m1001 h1002 s1003
 have s1004 : St h g (ids []) g [[(m1001, .map #[] 0)], []] h1002 := St.flat (L := [[(m1001, .map #[] 0)]]) rfl s1003
 have hR1005 : MapR encS #[] 0 ([] : List (Str × Value)) := MapR.empty _ _
 have hO1006 := OpenLm.nil
 refine Op.pures 1 [1, 2] (L' := [(2, false), (3, false), (4, false), (5, false), (6, false), (7, false)]) (e' := [(1, .map (some m1001)), (2, .agg #[.string (mkS ([47])), .slice none 0 0, .int .i64 0, .int .i64 (-1), .int .i64 0, .int .i64 0])]) (by kernel_rfl) ?_
 refine Op.box (T := 59) (x := (.tmp 2)) (d := 3) (cs := #[.string (mkS ([47])), .slice none 0 0, .int .i64 0, .int .i64 (-1), .int .i64 0, .int .i64 0]) (by kernel_rfl) (by kernel_rfl) s1004 ?_
 intro b1007 h1008 s1009
 have R1010 := Row.zero 5 kU8 g none
 have s1011 : St h g (ids []) g ([] :: [[(b1007, Obj.cells #[.string (mkS ([47])), .slice none 0 0, .int .i64 0, .int .i64 (-1), .int .i64 0, .int .i64 0] 59 (0, 0))], [(m1001, .map #[] 0)], []]) h1008 := St.flat (L := [[(b1007, Obj.cells #[.string (mkS ([47])), .slice none 0 0, .int .i64 0, .int .i64 (-1), .int .i64 0, .int .i64 0] 59 (0, 0))], [(m1001, .map #[] 0)], []]) rfl s1009
 refine Op.mapSet (d := .string) (z := .pointer none) (mt := 126) (x := (.tmp 1)) (ix := (.const (.string (mkS ([47]))))) (y := (.tmp 3)) (k := ([47])) (v := .pointer (some ⟨b1007, 0, none⟩)) (.inr (by kernel_rfl)) (by kernel_rfl) keyS (by kernel_rfl) (by kernel_rfl) (by kernel_rfl) s1011 2 rfl hR1005 (fun _ => trivial) ?_
 intro es1012 clk1013 h1014 hR1015 s1016
 have hO1017 : OpenLm (updK [] ([47]) (.pointer (some ⟨b1007, 0, none⟩))) ((b1007, .cells #[.string (mkS ([47])), .slice none 0 0, .int .i64 0, .int .i64 (-1), .int .i64 0, .int .i64 0] 59 (0, 0)) :: [] ++ [] : Chunk) (withL ([] : List Leaf) (⟨[47], ([] : List UInt8), 0, (-1), 0, 0⟩ : Leaf)) := hO1006.ins (g := g) (l := (⟨[47], ([] : List UInt8), 0, (-1), 0, 0⟩ : Leaf)) (by rfl) R1010 (by decide)
 have s1019 : St h g (ids []) g [[(m1001, .map es1012 clk1013)], [(b1007, Obj.cells #[.string (mkS ([47])), .slice none 0 0, .int .i64 0, .int .i64 (-1), .int .i64 0, .int .i64 0] 59 (0, 0))], [], []] h1014 := (((s1016.front 0 rfl).front 1 rfl).front 2 rfl)
 have s1018 : St h g (ids []) g [[(m1001, .map es1012 clk1013)], ((b1007, .cells #[.string (mkS ([47])), .slice none 0 0, .int .i64 0, .int .i64 (-1), .int .i64 0, .int .i64 0] 59 (0, 0)) :: [] ++ [] : Chunk)] h1014 := St.flat (L := [[(m1001, .map es1012 clk1013)], [(b1007, Obj.cells #[.string (mkS ([47])), .slice none 0 0, .int .i64 0, .int .i64 (-1), .int .i64 0, .int .i64 0] 59 (0, 0))], [], []]) (by simp only [List.flatten_cons, List.flatten_nil, List.append_assoc, List.cons_append, List.nil_append, List.append_nil]) s1019
 refine Op.pures 2 [5] (L' := [(6, false), (7, false)]) (e' := [(5, .agg #[.map (some m1001)])]) (by kernel_rfl) ?_
 refine Op.box (T := 128) (x := (.tmp 5)) (d := 6) (cs := #[.map (some m1001)]) (by kernel_rfl) (by kernel_rfl) s1018 ?_
 intro b1020 h1021 s1022
 refine Op.pures 1 [0] (L' := []) (e' := [(0, .pointer (some ⟨b1020, 0, none⟩))]) (by kernel_rfl) ?_
 refine Op.goto 2 (by kernel_rfl) ?_
 have s1023 : St h g (ids []) g [[(m1001, .map es1012 clk1013)], ((b1007, .cells #[.string (mkS ([47])), .slice none 0 0, .int .i64 0, .int .i64 (-1), .int .i64 0, .int .i64 0] 59 (0, 0)) :: [] ++ [] : Chunk), [(b1020, Obj.cells #[.map (some m1001)] 128 (0, 0))]] h1021 := (((s1022.front 0 rfl).front 2 rfl).front 2 rfl)
 obtain ⟨c1024, o1025, s1026⟩ : ∃ c, IsLm g m1001 (withL ([] : List Leaf) (⟨[47], ([] : List UInt8), 0, (-1), 0, 0⟩ : Leaf)) c ∧ St h g (ids []) g (c :: [[(b1020, Obj.cells #[.map (some m1001)] 128 (0, 0))]]) h1021 := ⟨_, hO1017.close hR1015 (List.Perm.refl _), St.flat (L := [(m1001, .map es1012 clk1013)] :: ((b1007, .cells #[.string (mkS ([47])), .slice none 0 0, .int .i64 0, .int .i64 (-1), .int .i64 0, .int .i64 0] 59 (0, 0)) :: [] ++ [] : Chunk) :: [[(b1020, Obj.cells #[.map (some m1001)] 128 (0, 0))]]) (by simp only [List.flatten_cons, List.append_assoc, List.cons_append, List.nil_append, List.append_nil]) s1023⟩
 have s1027 : St h g (ids []) g [[(b1020, Obj.cells #[.map (some m1001)] 128 (0, 0))], c1024] h1021 := ((s1026.front 0 rfl).front 1 rfl)
 obtain ⟨c1028, o1029, s1030⟩ : ∃ c, IsTree g b1020 (withL ([] : List Leaf) (⟨[47], ([] : List UInt8), 0, (-1), 0, 0⟩ : Leaf)) c ∧ St h g (ids []) g (c :: []) h1021 := ⟨_, ⟨_, _, rfl, o1025⟩, St.flat (L := [[(b1020, Obj.cells #[.map (some m1001)] 128 (0, 0))], c1024]) (by simp only [List.flatten_cons, List.append_assoc, List.cons_append, List.nil_append, List.append_nil]) s1027⟩
 refine At.ret (f := Tryz.f27) (v := .pointer (some ⟨b1020, 0, none⟩)) (by kernel_rfl) (by kernel_rfl) ?_
 refine hR _ _ _ _ s1030 ⟨b1020, c1028, ?_, ?_, rfl, rfl⟩
 ·exact rfl
 ·exact o1029.eq (by rfl)
end Go.Proofs.YtmjebehhpojihaaGreatDoor.Sw
namespace Go.Proofs.YtmjebehhpojihaaGreatDoor.Sw
open Go
set_option maxRecDepth 100000
set_option linter.unusedVariables false
set_option linter.unusedSimpArgs false
set_option linter.deprecated false
theorem setF (B : World) (h : Heap) (g : GH) (hg : Sub g h) (hG : Glob g) (b_t : Nat) (t : List Leaf) (c_t : Chunk) (o_t : IsTree g b_t t c_t) (p : List UInt8) (v_data : Value) (data : List UInt8) (h_data : SlR g 5 kU8 v_data data) (ver : Int) (hB : TreeB t) (hp : p.length ≤ 1000000000) (hd : data.length ≤ 1000000000) (hs : St h g (ids [c_t]) g [c_t] h) :
  Spec Tryz.prog B 41 #[.pointer (some ⟨b_t, 0, none⟩), .string (mkS p), v_data, .int .i64 ver] h g [c_t] (fun rv g' L' => ∃ k_t, rv = .tuple #[.int .i64 ((setT t p data ver).2.1), .int .i64 ((setT t p data ver).2.2)] ∧ IsTree g' b_t ((setT t p data ver).1) k_t ∧ g' = g ∧ L' = [k_t]) := by
 obtain ⟨a_data, n_data, rfl⟩ := h_data.form
 refine Spec.of_at (f := Tryz.f41) (e := [(0, .pointer (some ⟨b_t, 0, none⟩)), (1, .string (mkS p)), (2, .slice a_data data.length n_data), (3, .int .i64 ver)]) Tryz.func41 (by kernel_rfl) (Nat.le_of_ble_eq_true (by kernel_rfl)) (by kernel_rfl) (by kernel_rfl) ?_
 intro R hR
 refine At.reg (L := [(0, false), (1, false)]) (by kernel_rfl) ?_
 refine Op.pures 2 [0, 1, 2, 3] (L' := []) (e' := [(0, .pointer (some ⟨b_t, 0, none⟩)), (1, .string (mkS p)), (2, .slice a_data data.length n_data), (3, .int .i64 ver)]) (by kernel_rfl) ?_
 refine Op.goto 1 (by kernel_rfl) ?_
 refine At.reg (L := [(0, false), (1, false), (2, false), (3, false), (4, false), (5, false), (6, false), (7, false), (8, false)]) (by kernel_rfl) ?_
 refine Op.pures 3 [2, 13, 14, 15] (L' := [(3, false), (4, false), (5, false), (6, false), (7, false), (8, false)]) (e' := [(2, .slice a_data data.length n_data), (13, .pointer (some ⟨b_t, 0, none⟩)), (14, .string (mkS p)), (15, .int .i64 ver)]) (by kernel_rfl) ?_
 have hl1001 := hs.frzle
 have hz1002 := IsTree.frz o_t hs (by intro p hp; simp only [List.mem_append, hp, true_or, or_true])
 refine Op.lend (dst := some 16) (f := 79) (args := #[.pointer (some ⟨b_t, 0, none⟩), .string (mkS p), .int .i64 ver]) (cf := (c_t : Chunk)) (Lc := []) (L := []) (by kernel_rfl) hs (verT _ _ _ hs.frzsub (hG.mono hl1001) b_t t hz1002 p ver (by ((try dsimp only) <;> (omega))) ) (fun _ _ _ hp => by obtain ⟨hgg, _, _⟩ := hp; exact hgg) (fun _ _ h => absurd h (ids_nil _)) ?_
 rintro v1005 _ h1003 s1004 ⟨hgg, rfl, hp1006⟩; clear hgg
 rcases hp1006 with ⟨rfl, hne1009⟩ | ⟨b1010, l1011, v1012, mb1013, rfl, hE1014, hF1015, hbt1016, hb1017, hd1018, ha1019⟩
 ·have k1020 : ((verE t p ver) != (0 : Int)) = true := bne_iff_ne.2 hne1009
  have k1021 : ((verE t p ver) == (0 : Int)) = false := beq_eq_false_iff_ne.2 hne1009
  refine Op.pures 5 [2, 10, 11] (L' := []) (e' := [(2, .slice a_data data.length n_data), (10, .pointer none), (11, .int .i64 (verE t p ver))]) (by kernel_rfl) ?_
  refine Op.goto 2 (by kernel_rfl) ?_
  refine At.reg (L := [(0, false), (1, false), (2, false)]) (by kernel_rfl) ?_
  refine Op.pures 3 [2, 10, 11, 19] (L' := []) (e' := [(2, .slice a_data data.length n_data), (10, .pointer none), (11, .int .i64 (verE t p ver)), (19, .bool ((verE t p ver) != (0 : Int)))]) (by kernel_rfl) ?_
  refine Op.goto 3 (by kernel_rfl) ?_
  refine At.cond (b := (verE t p ver) != (0 : Int)) (c := .tmp 19) (by kernel_rfl) (by kernel_rfl) (by kernel_rfl) 4 6 (by kernel_rfl) (by kernel_rfl) (fun hb => ?_) (fun hb => ?_)
  ·have c1022 : ¬ ((verE t p ver) = (0 : Int)) := bneT hb
   clear hb
   refine At.keep [11] ?_; show At _ _ _ [(11, .int .i64 (verE t p ver))] _
   refine At.reg (L := [(0, false), (1, false), (2, false)]) (by kernel_rfl) ?_
   refine Op.pures 3 [8, 9] (L' := []) (e' := [(8, .int .i64 0), (9, .int .i64 (verE t p ver))]) (by kernel_rfl) ?_
   refine Op.goto 5 (by kernel_rfl) ?_
   refine At.ret (f := Tryz.f41) (v := .tuple #[.int .i64 0, .int .i64 (verE t p ver)]) (by kernel_rfl) (by kernel_rfl) ?_
   refine hR _ _ _ _ s1004 ⟨c_t, ?_, ?_, rfl, rfl⟩
   ·exact eqT2 (eqI (by (rw [setT_1 (by assumption)]; done))) (eqI (by (rw [setT_1 (by assumption)]; done)))
   ·exact o_t.eq (by (rw [setT_1 (by assumption)]; done))
  ·exact Bool.noConfusion (k1020.symm.trans hb)
 ·refine Op.pures 5 [2, 10, 11] (L' := []) (e' := [(2, .slice a_data data.length n_data), (10, .pointer (some ⟨b1010, 0, none⟩)), (11, .int .i64 0)]) (by kernel_rfl) ?_
  refine Op.goto 2 (by kernel_rfl) ?_
  refine At.reg (L := [(0, false), (1, false), (2, false)]) (by kernel_rfl) ?_
  refine Op.pures 3 [2, 10, 11, 19] (L' := []) (e' := [(2, .slice a_data data.length n_data), (10, .pointer (some ⟨b1010, 0, none⟩)), (11, .int .i64 0), (19, .bool false)]) (by kernel_rfl) ?_
  refine Op.goto 3 (by kernel_rfl) ?_
  refine At.condF (c := .tmp 19) (by kernel_rfl) (by kernel_rfl) (by kernel_rfl) 6 (by kernel_rfl) ?_
  refine At.reg (L := [(0, false), (1, false), (2, false), (3, false)]) (by kernel_rfl) ?_
  refine Op.pures 4 [2, 10, 23] (L' := []) (e' := [(2, .slice a_data data.length n_data), (10, .pointer (some ⟨b1010, 0, none⟩)), (23, .bool (decide ((data.length : Int) > (128 : Int))))]) (by kernel_rfl) ?_
  refine Op.goto 7 (by kernel_rfl) ?_
  refine At.cond (b := decide ((data.length : Int) > (128 : Int))) (c := .tmp 23) (by kernel_rfl) (by kernel_rfl) (by kernel_rfl) 8 10 (by kernel_rfl) (by kernel_rfl) (fun hb => ?_) (fun hb => ?_)
  ·have c1023 : (data.length : Int) > (128 : Int) := of_decide_eq_true hb
   clear hb
   refine At.keep [] ?_; show At _ _ _ [] _
   refine At.reg (L := [(0, false), (1, false)]) (by kernel_rfl) ?_
   refine Op.pures 2 [8, 9] (L' := []) (e' := [(8, .int .i64 0), (9, .int .i64 104)]) (by kernel_rfl) ?_
   refine Op.goto 5 (by kernel_rfl) ?_
   refine At.ret (f := Tryz.f41) (v := .tuple #[.int .i64 0, .int .i64 104]) (by kernel_rfl) (by kernel_rfl) ?_
   refine hR _ _ _ _ s1004 ⟨c_t, ?_, ?_, rfl, rfl⟩
   ·exact eqT2 (eqI (by (rw [setT_3 (by assumption) (by assumption) (by assumption)]; done))) (eqI (by (rw [setT_3 (by assumption) (by assumption) (by assumption)]; done)))
   ·exact o_t.eq (by (rw [setT_3 (by assumption) (by assumption) (by assumption)]; done))
  ·have c1024 : ¬ ((data.length : Int) > (128 : Int)) := of_decide_eq_false hb
   clear hb
   refine At.keep [2, 10] ?_; show At _ _ _ [(2, .slice a_data data.length n_data), (10, .pointer (some ⟨b1010, 0, none⟩))] _
   refine At.reg (L := [(0, false), (1, false), (2, false), (3, false), (4, false), (5, false)]) (by kernel_rfl) ?_
   refine Op.pures 2 [10, 27, 28] (L' := [(2, false), (3, false), (4, false), (5, false)]) (e' := [(10, .pointer (some ⟨b1010, 0, none⟩)), (27, .pointer (some ⟨b1010, 0, none⟩)), (28, .slice a_data data.length n_data)]) (by kernel_rfl) ?_
   refine Op.call0 (dst := some 29) (f := 74) (args := #[.slice a_data data.length n_data]) (by kernel_rfl) s1004 (cloneB _ _ _ s1004.sub hG _ _ h_data (by ((try dsimp only) <;> (omega))) ) ?_
   rintro _ g1032 _ h1025 hle1033 s1026 ⟨v1027, ch1028, rfl, R1029, hgg, rfl⟩; subst g1032; clear hle1033
   obtain ⟨a1030, n1031, rfl⟩ := R1029.form
   refine Op.pures 2 [10, 29, 31] (L' := [(5, false)]) (e' := [(10, .pointer (some ⟨b1010, 0, none⟩)), (29, .slice a1030 ((data).length) n1031), (31, .pointer (some ⟨b1010, 1, none⟩))]) (by kernel_rfl) ?_
   obtain ⟨b1034, c1035, e1036, R1037⟩ := o_t
   have s1038 : St h g (ids [c_t]) g [c_t, ch1028] h1025 := ((s1026.front 0 rfl).front 1 rfl)
   have s1039 : St h g (ids [c_t]) g [[(b_t, Obj.cells #[.map (some b1034)] 128 (0, 0))], c1035, ch1028] h1025 := St.flat (L := [c_t, ch1028]) (by rw [e1036]; simp only [List.flatten_cons, List.append_assoc, List.cons_append, List.nil_append, List.append_nil]) s1038
   have s1040 : St h g (ids [c_t]) g [c1035, [(b_t, Obj.cells #[.map (some b1034)] 128 (0, 0))], ch1028] h1025 := ((s1039.front 0 rfl).front 1 rfl)
   obtain ⟨es1041, clk1042, ks1043, F1044, hp1045, hR1046, hO1047⟩ := IsLm.open_ R1037
   have s1048 : St h g (ids [c_t]) g ([(b1034, .map es1041 clk1042)] :: F1044 :: [[(b_t, Obj.cells #[.map (some b1034)] 128 (0, 0))], ch1028]) h1025 := St.permF (L := c1035 :: [[(b_t, Obj.cells #[.map (some b1034)] 128 (0, 0))], ch1028]) (hp1045.append_right _) s1040
   obtain ⟨v1049, c1050, F1051, hpF1052, R1053, hset1054⟩ := hO1047.at_ (g := g) (l := l1011) (b := b1010) hR1046 (by rw [(findL_some hF1015).2]; exact hF1015) (leaf_own (es := es1041) (clk := clk1042) (C := (c_t : Chunk)) (b0 := b1034) hs (by simp [e1036]) (by simp [e1036, hp1045.mem_iff]) hbt1016 ha1019)
   obtain ⟨a1056, n1057, rfl⟩ := R1053.form
   have s1058 : St h g (ids [c_t]) g [F1044, [(b1034, .map es1041 clk1042)], [(b_t, Obj.cells #[.map (some b1034)] 128 (0, 0))], ch1028] h1025 := ((s1048.front 0 rfl).front 1 rfl)
   have s1055 : St h g (ids [c_t]) g [[(b1010, Obj.cells #[.string (mkS l1011.Path), .slice a1056 l1011.Data.length n1057, .int .i64 l1011.Version, .int .i64 l1011.Owner, .int .i64 l1011.Next, .int .i64 l1011.Born] 59 (0, 0))], c1050, F1051, [(b1034, .map es1041 clk1042)], [(b_t, Obj.cells #[.map (some b1034)] 128 (0, 0))], ch1028] h1025 := St.permF (L := F1044 :: [[(b1034, .map es1041 clk1042)], [(b_t, Obj.cells #[.map (some b1034)] 128 (0, 0))], ch1028]) (by have hq := hpF1052.append_right (List.flatten [[(b1034, .map es1041 clk1042)], [(b_t, Obj.cells #[.map (some b1034)] 128 (0, 0))], ch1028]); simpa only [List.flatten_cons, List.flatten_nil, List.append_assoc, List.cons_append, List.nil_append, List.append_nil] using hq) s1058
   refine Op.store (T := 29) (x := (.tmp 31)) (y := (.tmp 29)) (b := b1010) (o := 1) (vs := [.slice a1030 ((data).length) n1031]) (a? := false) (n := 1) (by kernel_rfl) (by kernel_rfl) (by kernel_rfl) (by kernel_rfl) rfl (by simp [Value.oneCell']) s1055 0 rfl (Nat.le_of_ble_eq_true (by kernel_rfl)) (cs := #[.string (mkS l1011.Path), .slice a1056 l1011.Data.length n1057, .int .i64 l1011.Version, .int .i64 l1011.Owner, .int .i64 l1011.Next, .int .i64 l1011.Born]) (cs' := #[.string (mkS l1011.Path), .slice a1030 ((data).length) n1031, .int .i64 l1011.Version, .int .i64 l1011.Owner, .int .i64 l1011.Next, .int .i64 l1011.Born]) (by kernel_rfl) (fun _ => trivial) ?_
   intro h1059 s1060
   refine Op.goto 11 (by kernel_rfl) ?_
   refine At.reg (L := [(0, false), (1, false), (2, false), (3, false), (4, false), (5, false), (6, false), (7, false)]) (by kernel_rfl) ?_
   refine Op.pures 3 [10, 32, 34] (L' := [(3, false), (4, false), (5, false), (6, false), (7, false)]) (e' := [(10, .pointer (some ⟨b1010, 0, none⟩)), (32, .pointer (some ⟨b1010, 0, none⟩)), (34, .pointer (some ⟨b1010, 2, none⟩))]) (by kernel_rfl) ?_
   refine Op.load (T := 3) (x := (.tmp 34)) (o := 2) (d := 35) (n := 1) (v := .int .i64 l1011.Version) (by kernel_rfl) (by kernel_rfl) (by kernel_rfl) (s1060.chunk 0 rfl) (by kernel_rfl) ?_
   refine Op.val (dst := some 36) (v := .int .i64 (IntKind.wrap .i64 (l1011.Version + 1))) (v' := .int .i64 (IntKind.wrap .i64 (l1011.Version + 1))) (by kernel_rfl) rfl ?_
   refine Op.pures 2 [10, 36, 38] (L' := [(7, false)]) (e' := [(10, .pointer (some ⟨b1010, 0, none⟩)), (36, .int .i64 (IntKind.wrap .i64 (l1011.Version + 1))), (38, .pointer (some ⟨b1010, 2, none⟩))]) (by kernel_rfl) ?_
   refine Op.store (T := 3) (x := (.tmp 38)) (y := (.tmp 36)) (b := b1010) (o := 2) (vs := [.int .i64 (IntKind.wrap .i64 (l1011.Version + 1))]) (a? := false) (n := 1) (by kernel_rfl) (by kernel_rfl) (by kernel_rfl) (by kernel_rfl) rfl (by simp [Value.oneCell']) s1060 0 rfl (Nat.le_of_ble_eq_true (by kernel_rfl)) (cs := #[.string (mkS l1011.Path), .slice a1030 ((data).length) n1031, .int .i64 l1011.Version, .int .i64 l1011.Owner, .int .i64 l1011.Next, .int .i64 l1011.Born]) (cs' := #[.string (mkS l1011.Path), .slice a1030 ((data).length) n1031, .int .i64 (IntKind.wrap .i64 (l1011.Version + 1)), .int .i64 l1011.Owner, .int .i64 l1011.Next, .int .i64 l1011.Born]) (by kernel_rfl) (fun _ => trivial) ?_
   intro h1061 s1062
   refine Op.goto 12 (by kernel_rfl) ?_
   refine At.reg (L := [(0, false), (1, false), (2, false), (3, false), (4, false), (5, false)]) (by kernel_rfl) ?_
   refine Op.pures 3 [41] (L' := [(3, false), (4, false), (5, false)]) (e' := [(41, .pointer (some ⟨b1010, 2, none⟩))]) (by kernel_rfl) ?_
   refine Op.load (T := 3) (x := (.tmp 41)) (o := 2) (d := 42) (n := 1) (v := .int .i64 (IntKind.wrap .i64 (l1011.Version + 1))) (by kernel_rfl) (by kernel_rfl) (by kernel_rfl) (s1062.chunk 0 rfl) (by kernel_rfl) ?_
   refine Op.pures 2 [8, 9] (L' := []) (e' := [(8, .int .i64 (IntKind.wrap .i64 (l1011.Version + 1))), (9, .int .i64 0)]) (by kernel_rfl) ?_
   refine Op.goto 13 (by kernel_rfl) ?_
   have hO1063 : OpenLm ks1043 ((b1010, .cells #[.string (mkS l1011.Path), .slice a1030 ((data).length) n1031, .int .i64 (IntKind.wrap .i64 (l1011.Version + 1)), .int .i64 l1011.Owner, .int .i64 l1011.Next, .int .i64 l1011.Born] 59 (0, 0)) :: ch1028 ++ F1051 : Chunk) (withL t (⟨l1011.Path, data, IntKind.wrap .i64 (l1011.Version + 1), l1011.Owner, l1011.Next, l1011.Born⟩ : Leaf)) := hset1054 (⟨l1011.Path, data, IntKind.wrap .i64 (l1011.Version + 1), l1011.Owner, l1011.Next, l1011.Born⟩ : Leaf) _ _ rfl R1029
   have s1065 : St h g (ids [c_t]) g [[(b1010, Obj.cells #[.string (mkS l1011.Path), .slice a1030 ((data).length) n1031, .int .i64 (IntKind.wrap .i64 (l1011.Version + 1)), .int .i64 l1011.Owner, .int .i64 l1011.Next, .int .i64 l1011.Born] 59 (0, 0))], ch1028, F1051, c1050, [(b1034, .map es1041 clk1042)], [(b_t, Obj.cells #[.map (some b1034)] 128 (0, 0))]] h1061 := ((((((s1062.front 4 rfl).front 4 rfl).front 3 rfl).front 4 rfl).front 5 rfl).front 5 rfl)
   have s1064 : St h g (ids [c_t]) g [((b1010, .cells #[.string (mkS l1011.Path), .slice a1030 ((data).length) n1031, .int .i64 (IntKind.wrap .i64 (l1011.Version + 1)), .int .i64 l1011.Owner, .int .i64 l1011.Next, .int .i64 l1011.Born] 59 (0, 0)) :: ch1028 ++ F1051 : Chunk), c1050, [(b1034, .map es1041 clk1042)], [(b_t, Obj.cells #[.map (some b1034)] 128 (0, 0))]] h1061 := St.flat (L := [[(b1010, Obj.cells #[.string (mkS l1011.Path), .slice a1030 ((data).length) n1031, .int .i64 (IntKind.wrap .i64 (l1011.Version + 1)), .int .i64 l1011.Owner, .int .i64 l1011.Next, .int .i64 l1011.Born] 59 (0, 0))], ch1028, F1051, c1050, [(b1034, .map es1041 clk1042)], [(b_t, Obj.cells #[.map (some b1034)] 128 (0, 0))]]) (by simp only [List.flatten_cons, List.flatten_nil, List.append_assoc, List.cons_append, List.nil_append, List.append_nil]) s1065
   have s1066 : St h g (ids [c_t]) g [[(b1034, .map es1041 clk1042)], ((b1010, .cells #[.string (mkS l1011.Path), .slice a1030 ((data).length) n1031, .int .i64 (IntKind.wrap .i64 (l1011.Version + 1)), .int .i64 l1011.Owner, .int .i64 l1011.Next, .int .i64 l1011.Born] 59 (0, 0)) :: ch1028 ++ F1051 : Chunk), c1050, [(b_t, Obj.cells #[.map (some b1034)] 128 (0, 0))]] h1061 := (((s1064.front 1 rfl).front 1 rfl).front 2 rfl)
   obtain ⟨c1067, o1068, s1069⟩ : ∃ c, IsLm g b1034 (withL t (⟨l1011.Path, data, IntKind.wrap .i64 (l1011.Version + 1), l1011.Owner, l1011.Next, l1011.Born⟩ : Leaf)) c ∧ St h g (ids [c_t]) g (c :: [c1050, [(b_t, Obj.cells #[.map (some b1034)] 128 (0, 0))]]) h1061 := ⟨_, hO1063.close hR1046 (List.Perm.refl _), St.flat (L := [(b1034, .map es1041 clk1042)] :: ((b1010, .cells #[.string (mkS l1011.Path), .slice a1030 ((data).length) n1031, .int .i64 (IntKind.wrap .i64 (l1011.Version + 1)), .int .i64 l1011.Owner, .int .i64 l1011.Next, .int .i64 l1011.Born] 59 (0, 0)) :: ch1028 ++ F1051 : Chunk) :: [c1050, [(b_t, Obj.cells #[.map (some b1034)] 128 (0, 0))]]) (by simp only [List.flatten_cons, List.append_assoc, List.cons_append, List.nil_append, List.append_nil]) s1066⟩
   have s1070 : St h g (ids [c_t]) g [[(b_t, Obj.cells #[.map (some b1034)] 128 (0, 0))], c1067, c1050] h1061 := (((s1069.front 1 rfl).front 1 rfl).front 2 rfl)
   obtain ⟨c1071, o1072, s1073⟩ : ∃ c, IsTree g b_t (withL t (⟨l1011.Path, data, IntKind.wrap .i64 (l1011.Version + 1), l1011.Owner, l1011.Next, l1011.Born⟩ : Leaf)) c ∧ St h g (ids [c_t]) g (c :: [c1050]) h1061 := ⟨_, ⟨_, _, rfl, o1068⟩, St.flat (L := [[(b_t, Obj.cells #[.map (some b1034)] 128 (0, 0))], c1067, c1050]) (by simp only [List.flatten_cons, List.append_assoc, List.cons_append, List.nil_append, List.append_nil]) s1070⟩
   refine At.ret (f := Tryz.f41) (v := .tuple #[.int .i64 (IntKind.wrap .i64 (l1011.Version + 1)), .int .i64 0]) (by kernel_rfl) (by kernel_rfl) ?_
   have s1074 : St h g (ids [c_t]) g [c1050, c1071] h1061 := ((s1073.front 0 rfl).front 1 rfl)
   have s1075 : St h g (ids [c_t]) g [c1071] h1061 := (s1074).drop
   refine hR _ _ _ _ s1075 ⟨c1071, ?_, ?_, rfl, rfl⟩
   ·exact eqT2 (eqI (by (rw [setT_4 (by assumption) (by assumption) (by assumption)]; done))) (eqI (by (rw [setT_4 (by assumption) (by assumption) (by assumption)]; done)))
   ·exact o1072.eq (by (rw [setT_4 (by assumption) (by assumption) (by assumption)]; done))
end Go.Proofs.YtmjebehhpojihaaGreatDoor.Sw
namespace Go.Proofs.YtmjebehhpojihaaGreatDoor.Sw
open Go
set_option maxRecDepth 100000
set_option linter.unusedVariables false
set_option linter.unusedSimpArgs false
set_option linter.deprecated false
theorem with_none2 {ns : List Leaf} {p q : Str} {up : Leaf} (hf : findL ns p = some up) (hq : findL ns q = none) (v : Int) : findL (withL ns ⟨up.Path, up.Data, up.Version, up.Owner, v, up.Born⟩) q = none := with_none (up := up) hf hq rfl
theorem makeF (B : World) (h : Heap) (g : GH) (hg : Sub g h) (hG : Glob g) (b_t : Nat) (t : List Leaf) (c_t : Chunk) (o_t : IsTree g b_t t c_t) (p : List UInt8) (v_data : Value) (data : List UInt8) (h_data : SlR g 5 kU8 v_data data) (owner : Int) (born : Int) (num : Bool) (hP : Pow10 g) (hB : TreeB t) (hp : p.length ≤ 100000000) (hd : data.length ≤ 1000000000) (hs : St h g (ids [c_t]) g [c_t] h) :
  Spec Tryz.prog B 28 #[.pointer (some ⟨b_t, 0, none⟩), .string (mkS p), v_data, .int .i64 owner, .int .i64 born, .bool num] h g [c_t] (fun rv g' L' => ∃ k_t, rv = .tuple #[.string (mkS ((makeT t p data owner born num).2.1)), .int .i64 ((makeT t p data owner born num).2.2)] ∧ IsTree g' b_t ((makeT t p data owner born num).1) k_t ∧ g' = g ∧ L' = [k_t]) := by
 obtain ⟨a_data, n_data, rfl⟩ := h_data.form
 have hsort := o_t.sort
 refine Spec.of_at (f := Tryz.f28) (e := [(0, .pointer (some ⟨b_t, 0, none⟩)), (1, .string (mkS p)), (2, .slice a_data data.length n_data), (3, .int .i64 owner), (4, .int .i64 born), (5, .bool num)]) Tryz.func28 (by kernel_rfl) (Nat.le_of_ble_eq_true (by kernel_rfl)) (by kernel_rfl) (by kernel_rfl) ?_
 intro R hR
 refine At.reg (L := [(0, false), (1, false)]) (by kernel_rfl) ?_
 refine Op.pures 2 [0, 1, 2, 3, 4, 5] (L' := []) (e' := [(0, .pointer (some ⟨b_t, 0, none⟩)), (1, .string (mkS p)), (2, .slice a_data data.length n_data), (3, .int .i64 owner), (4, .int .i64 born), (5, .bool num)]) (by kernel_rfl) ?_
 refine Op.goto 1 (by kernel_rfl) ?_
 refine At.reg (L := [(0, false), (1, false), (2, false), (3, false), (4, false), (5, false), (6, false), (7, false), (8, false)]) (by kernel_rfl) ?_
 refine Op.pures 3 [0, 1, 2, 3, 4, 5, 19, 20, 21] (L' := [(3, false), (4, false), (5, false), (6, false), (7, false), (8, false)]) (e' := [(0, .pointer (some ⟨b_t, 0, none⟩)), (1, .string (mkS p)), (2, .slice a_data data.length n_data), (3, .int .i64 owner), (4, .int .i64 born), (5, .bool num), (19, .pointer (some ⟨b_t, 0, none⟩)), (20, .string (mkS p)), (21, .slice a_data data.length n_data)]) (by kernel_rfl) ?_
 have hl1001 := hs.frzle
 have hz1002 := IsTree.frz o_t hs (by intro p hp; simp only [List.mem_append, hp, true_or, or_true])
 refine Op.lend (dst := some 22) (f := 72) (args := #[.pointer (some ⟨b_t, 0, none⟩), .string (mkS p), .slice a_data data.length n_data]) (cf := (c_t : Chunk)) (Lc := []) (L := []) (by kernel_rfl) hs (parT _ _ _ hs.frzsub (hG.mono hl1001) b_t t hz1002 p _ _ (h_data.mono hl1001) (by ((try dsimp only) <;> (omega))) ) (fun _ _ _ hp => by obtain ⟨hgg, _, _⟩ := hp; exact hgg) (fun _ _ h => absurd h (ids_nil _)) ?_
 rintro v1005 _ h1003 s1004 ⟨hgg, rfl, hp1006⟩; clear hgg
 rcases hp1006 with ⟨rfl, hne1009⟩ | ⟨b1010, l1011, v1012, mb1013, rfl, hE1014, hF1015, hbt1016, hb1017, hd1018, ha1019⟩
 ·have k1020 : ((parE t p data) != (0 : Int)) = true := bne_iff_ne.2 hne1009
  have k1021 : ((parE t p data) == (0 : Int)) = false := beq_eq_false_iff_ne.2 hne1009
  refine Op.pures 5 [0, 1, 2, 3, 4, 5, 14, 15] (L' := []) (e' := [(0, .pointer (some ⟨b_t, 0, none⟩)), (1, .string (mkS p)), (2, .slice a_data data.length n_data), (3, .int .i64 owner), (4, .int .i64 born), (5, .bool num), (14, .pointer none), (15, .int .i64 (parE t p data))]) (by kernel_rfl) ?_
  refine Op.goto 2 (by kernel_rfl) ?_
  refine At.reg (L := [(0, false), (1, false)]) (by kernel_rfl) ?_
  refine Op.pures 2 [0, 1, 2, 3, 4, 5, 14, 15, 26] (L' := []) (e' := [(0, .pointer (some ⟨b_t, 0, none⟩)), (1, .string (mkS p)), (2, .slice a_data data.length n_data), (3, .int .i64 owner), (4, .int .i64 born), (5, .bool num), (14, .pointer none), (15, .int .i64 (parE t p data)), (26, .bool ((parE t p data) != (0 : Int)))]) (by kernel_rfl) ?_
  refine Op.goto 3 (by kernel_rfl) ?_
  refine At.cond (b := (parE t p data) != (0 : Int)) (c := .tmp 26) (by kernel_rfl) (by kernel_rfl) (by kernel_rfl) 4 6 (by kernel_rfl) (by kernel_rfl) (fun hb => ?_) (fun hb => ?_)
  ·have c1022 : ¬ ((parE t p data) = (0 : Int)) := bneT hb
   clear hb
   refine At.keep [15] ?_; show At _ _ _ [(15, .int .i64 (parE t p data))] _
   refine At.reg (L := [(0, false), (1, false), (2, false)]) (by kernel_rfl) ?_
   refine Op.pures 3 [12, 13] (L' := []) (e' := [(12, .string (mkS [])), (13, .int .i64 (parE t p data))]) (by kernel_rfl) ?_
   refine Op.goto 5 (by kernel_rfl) ?_
   refine At.ret (f := Tryz.f28) (v := .tuple #[.string (mkS []), .int .i64 (parE t p data)]) (by kernel_rfl) (by kernel_rfl) ?_
   refine hR _ _ _ _ s1004 ⟨c_t, ?_, ?_, rfl, rfl⟩
   ·exact eqT2 (eqS (by (rw [mk_1 (by assumption)]; done))) (eqI (by (rw [mk_1 (by assumption)]; done)))
   ·exact o_t.eq (by (rw [mk_1 (by assumption)]; done))
  ·exact Bool.noConfusion (k1020.symm.trans hb)
 ·refine Op.pures 5 [0, 1, 2, 3, 4, 5, 14, 15] (L' := []) (e' := [(0, .pointer (some ⟨b_t, 0, none⟩)), (1, .string (mkS p)), (2, .slice a_data data.length n_data), (3, .int .i64 owner), (4, .int .i64 born), (5, .bool num), (14, .pointer (some ⟨b1010, 0, none⟩)), (15, .int .i64 0)]) (by kernel_rfl) ?_
  refine Op.goto 2 (by kernel_rfl) ?_
  refine At.reg (L := [(0, false), (1, false)]) (by kernel_rfl) ?_
  refine Op.pures 2 [0, 1, 2, 3, 4, 5, 14, 15, 26] (L' := []) (e' := [(0, .pointer (some ⟨b_t, 0, none⟩)), (1, .string (mkS p)), (2, .slice a_data data.length n_data), (3, .int .i64 owner), (4, .int .i64 born), (5, .bool num), (14, .pointer (some ⟨b1010, 0, none⟩)), (15, .int .i64 0), (26, .bool false)]) (by kernel_rfl) ?_
  refine Op.goto 3 (by kernel_rfl) ?_
  refine At.condF (c := .tmp 26) (by kernel_rfl) (by kernel_rfl) (by kernel_rfl) 6 (by kernel_rfl) ?_
  refine At.reg (L := [(0, false)]) (by kernel_rfl) ?_
  refine Op.pures 1 [0, 1, 2, 3, 4, 5, 14, 28] (L' := []) (e' := [(0, .pointer (some ⟨b_t, 0, none⟩)), (1, .string (mkS p)), (2, .slice a_data data.length n_data), (3, .int .i64 owner), (4, .int .i64 born), (5, .bool num), (14, .pointer (some ⟨b1010, 0, none⟩)), (28, .bool num)]) (by kernel_rfl) ?_
  refine Op.goto 7 (by kernel_rfl) ?_
  refine At.cond (b := num) (c := .tmp 28) (by kernel_rfl) (by kernel_rfl) (by kernel_rfl) 8 13 (by kernel_rfl) (by kernel_rfl) (fun hb => ?_) (fun hb => ?_)
  ·have c1023 : num = true := hb
   clear hb
   refine At.keep [0, 1, 2, 3, 4, 5, 14] ?_; show At _ _ _ [(0, .pointer (some ⟨b_t, 0, none⟩)), (1, .string (mkS p)), (2, .slice a_data data.length n_data), (3, .int .i64 owner), (4, .int .i64 born), (5, .bool num), (14, .pointer (some ⟨b1010, 0, none⟩))] _
   refine At.reg (L := [(0, false), (1, false), (2, false), (3, false), (4, false), (5, false), (6, false), (7, false), (8, false), (9, false), (10, false)]) (by kernel_rfl) ?_
   refine Op.pures 4 [0, 1, 2, 3, 4, 5, 14, 30, 33] (L' := [(4, false), (5, false), (6, false), (7, false), (8, false), (9, false), (10, false)]) (e' := [(0, .pointer (some ⟨b_t, 0, none⟩)), (1, .string (mkS p)), (2, .slice a_data data.length n_data), (3, .int .i64 owner), (4, .int .i64 born), (5, .bool num), (14, .pointer (some ⟨b1010, 0, none⟩)), (30, .string (mkS p)), (33, .pointer (some ⟨b1010, 4, none⟩))]) (by kernel_rfl) ?_
   obtain ⟨b1024, c1025, e1026, R1027⟩ := o_t
   have s1028 : St h g (ids [c_t]) g [[(b_t, Obj.cells #[.map (some b1024)] 128 (0, 0))], c1025] h1003 := St.flat (L := [c_t]) (by rw [e1026]; simp only [List.flatten_cons, List.append_assoc, List.cons_append, List.nil_append, List.append_nil]) s1004
   have s1029 : St h g (ids [c_t]) g [c1025, [(b_t, Obj.cells #[.map (some b1024)] 128 (0, 0))]] h1003 := ((s1028.front 0 rfl).front 1 rfl)
   obtain ⟨es1030, clk1031, ks1032, F1033, hp1034, hR1035, hO1036⟩ := IsLm.open_ R1027
   have s1037 : St h g (ids [c_t]) g ([(b1024, .map es1030 clk1031)] :: F1033 :: [[(b_t, Obj.cells #[.map (some b1024)] 128 (0, 0))]]) h1003 := St.permF (L := c1025 :: [[(b_t, Obj.cells #[.map (some b1024)] 128 (0, 0))]]) (hp1034.append_right _) s1029
   obtain ⟨v1038, c1039, F1040, hpF1041, R1042, hset1043⟩ := hO1036.at_ (g := g) (l := l1011) (b := b1010) hR1035 (by rw [(findL_some hF1015).2]; exact hF1015) (leaf_own (es := es1030) (clk := clk1031) (C := (c_t : Chunk)) (b0 := b1024) hs (by simp [e1026]) (by simp [e1026, hp1034.mem_iff]) hbt1016 ha1019)
   obtain ⟨a1045, n1046, rfl⟩ := R1042.form
   have s1047 : St h g (ids [c_t]) g [F1033, [(b1024, .map es1030 clk1031)], [(b_t, Obj.cells #[.map (some b1024)] 128 (0, 0))]] h1003 := ((s1037.front 0 rfl).front 1 rfl)
   have s1044 : St h g (ids [c_t]) g [[(b1010, Obj.cells #[.string (mkS l1011.Path), .slice a1045 l1011.Data.length n1046, .int .i64 l1011.Version, .int .i64 l1011.Owner, .int .i64 l1011.Next, .int .i64 l1011.Born] 59 (0, 0))], c1039, F1040, [(b1024, .map es1030 clk1031)], [(b_t, Obj.cells #[.map (some b1024)] 128 (0, 0))]] h1003 := St.permF (L := F1033 :: [[(b1024, .map es1030 clk1031)], [(b_t, Obj.cells #[.map (some b1024)] 128 (0, 0))]]) (by have hq := hpF1041.append_right (List.flatten [[(b1024, .map es1030 clk1031)], [(b_t, Obj.cells #[.map (some b1024)] 128 (0, 0))]]); simpa only [List.flatten_cons, List.flatten_nil, List.append_assoc, List.cons_append, List.nil_append, List.append_nil] using hq) s1047
   refine Op.load (T := 3) (x := (.tmp 33)) (o := 4) (d := 34) (n := 1) (v := .int .i64 l1011.Next) (by kernel_rfl) (by kernel_rfl) (by kernel_rfl) (s1044.chunk 0 rfl) (by kernel_rfl) ?_
   refine Op.call0 (dst := some 35) (f := 73) (args := #[.string (mkS p), .int .i64 l1011.Next]) (by kernel_rfl) s1044 (numberedP _ _ _ s1044.sub hG p l1011.Next hP (by ((try dsimp only) <;> ((have := TreeB.next hB (by assumption); omega)))) (by ((try dsimp only) <;> ((have := TreeB.next hB (by assumption); omega)))) (by ((try dsimp only) <;> ((have := TreeB.next hB (by assumption); omega)))) ) ?_
   rintro _ g1050 _ h1048 hle1051 s1049 ⟨rfl, hgg, rfl⟩; subst g1050; clear hle1051
   refine Op.pures 5 [0, 1, 2, 3, 4, 5, 14, 15] (L' := []) (e' := [(0, .pointer (some ⟨b_t, 0, none⟩)), (1, .string (mkS (numS p l1011.Next))), (2, .slice a_data data.length n_data), (3, .int .i64 owner), (4, .int .i64 born), (5, .bool num), (14, .pointer (some ⟨b1010, 0, none⟩)), (15, .int .i64 (numE p l1011.Next))]) (by kernel_rfl) ?_
   refine Op.goto 9 (by kernel_rfl) ?_
   refine At.reg (L := [(0, false), (1, false)]) (by kernel_rfl) ?_
   refine Op.pures 2 [0, 1, 2, 3, 4, 5, 14, 15, 39] (L' := []) (e' := [(0, .pointer (some ⟨b_t, 0, none⟩)), (1, .string (mkS (numS p l1011.Next))), (2, .slice a_data data.length n_data), (3, .int .i64 owner), (4, .int .i64 born), (5, .bool num), (14, .pointer (some ⟨b1010, 0, none⟩)), (15, .int .i64 (numE p l1011.Next)), (39, .bool ((numE p l1011.Next) != (0 : Int)))]) (by kernel_rfl) ?_
   refine Op.goto 10 (by kernel_rfl) ?_
   refine At.cond (b := (numE p l1011.Next) != (0 : Int)) (c := .tmp 39) (by kernel_rfl) (by kernel_rfl) (by kernel_rfl) 11 13 (by kernel_rfl) (by kernel_rfl) (fun hb => ?_) (fun hb => ?_)
   ·have c1052 : ¬ ((numE p l1011.Next) = (0 : Int)) := bneT hb
    clear hb
    refine At.keep [15] ?_; show At _ _ _ [(15, .int .i64 (numE p l1011.Next))] _
    refine At.reg (L := [(0, false), (1, false), (2, false)]) (by kernel_rfl) ?_
    refine Op.pures 3 [12, 13] (L' := []) (e' := [(12, .string (mkS [])), (13, .int .i64 (numE p l1011.Next))]) (by kernel_rfl) ?_
    refine Op.goto 12 (by kernel_rfl) ?_
    have hO1053 : OpenLm ks1032 ((b1010, .cells #[.string (mkS l1011.Path), .slice a1045 l1011.Data.length n1046, .int .i64 l1011.Version, .int .i64 l1011.Owner, .int .i64 l1011.Next, .int .i64 l1011.Born] 59 (0, 0)) :: c1039 ++ F1040 : Chunk) t := by have hq := hset1043 l1011 _ _ rfl R1042; rwa [withL_same hO1036.sort (by rw [(findL_some hF1015).2]; exact hF1015)] at hq
    have s1054 : St h g (ids [c_t]) g [((b1010, .cells #[.string (mkS l1011.Path), .slice a1045 l1011.Data.length n1046, .int .i64 l1011.Version, .int .i64 l1011.Owner, .int .i64 l1011.Next, .int .i64 l1011.Born] 59 (0, 0)) :: c1039 ++ F1040 : Chunk), [(b1024, .map es1030 clk1031)], [(b_t, Obj.cells #[.map (some b1024)] 128 (0, 0))]] h1048 := St.flat (L := [[(b1010, Obj.cells #[.string (mkS l1011.Path), .slice a1045 l1011.Data.length n1046, .int .i64 l1011.Version, .int .i64 l1011.Owner, .int .i64 l1011.Next, .int .i64 l1011.Born] 59 (0, 0))], c1039, F1040, [(b1024, .map es1030 clk1031)], [(b_t, Obj.cells #[.map (some b1024)] 128 (0, 0))]]) (by simp only [List.flatten_cons, List.flatten_nil, List.append_assoc, List.cons_append, List.nil_append, List.append_nil]) s1049
    have s1055 : St h g (ids [c_t]) g [[(b1024, .map es1030 clk1031)], ((b1010, .cells #[.string (mkS l1011.Path), .slice a1045 l1011.Data.length n1046, .int .i64 l1011.Version, .int .i64 l1011.Owner, .int .i64 l1011.Next, .int .i64 l1011.Born] 59 (0, 0)) :: c1039 ++ F1040 : Chunk), [(b_t, Obj.cells #[.map (some b1024)] 128 (0, 0))]] h1048 := ((s1054.front 0 rfl).front 1 rfl)
    obtain ⟨c1056, o1057, s1058⟩ : ∃ c, IsLm g b1024 t c ∧ St h g (ids [c_t]) g (c :: [[(b_t, Obj.cells #[.map (some b1024)] 128 (0, 0))]]) h1048 := ⟨_, hO1053.close hR1035 (List.Perm.refl _), St.flat (L := [(b1024, .map es1030 clk1031)] :: ((b1010, .cells #[.string (mkS l1011.Path), .slice a1045 l1011.Data.length n1046, .int .i64 l1011.Version, .int .i64 l1011.Owner, .int .i64 l1011.Next, .int .i64 l1011.Born] 59 (0, 0)) :: c1039 ++ F1040 : Chunk) :: [[(b_t, Obj.cells #[.map (some b1024)] 128 (0, 0))]]) (by simp only [List.flatten_cons, List.append_assoc, List.cons_append, List.nil_append, List.append_nil]) s1055⟩
    have s1059 : St h g (ids [c_t]) g [[(b_t, Obj.cells #[.map (some b1024)] 128 (0, 0))], c1056] h1048 := ((s1058.front 0 rfl).front 1 rfl)
    obtain ⟨c1060, o1061, s1062⟩ : ∃ c, IsTree g b_t t c ∧ St h g (ids [c_t]) g (c :: []) h1048 := ⟨_, ⟨_, _, rfl, o1057⟩, St.flat (L := [[(b_t, Obj.cells #[.map (some b1024)] 128 (0, 0))], c1056]) (by simp only [List.flatten_cons, List.append_assoc, List.cons_append, List.nil_append, List.append_nil]) s1059⟩
    refine At.ret (f := Tryz.f28) (v := .tuple #[.string (mkS []), .int .i64 (numE p l1011.Next)]) (by kernel_rfl) (by kernel_rfl) ?_
    refine hR _ _ _ _ s1062 ⟨c1060, ?_, ?_, rfl, rfl⟩
    ·exact eqT2 (eqS (by (rw [mk_2 (by assumption) (by assumption) (by assumption) (by assumption)]; done))) (eqI (by (rw [mk_2 (by assumption) (by assumption) (by assumption) (by assumption)]; done)))
    ·exact o1061.eq (by (rw [mk_2 (by assumption) (by assumption) (by assumption) (by assumption)]; done))
   ·have c1063 : (numE p l1011.Next) = (0 : Int) := bneF hb
    clear hb
    refine At.keep [0, 1, 2, 3, 4, 5, 14] ?_; show At _ _ _ [(0, .pointer (some ⟨b_t, 0, none⟩)), (1, .string (mkS (numS p l1011.Next))), (2, .slice a_data data.length n_data), (3, .int .i64 owner), (4, .int .i64 born), (5, .bool num), (14, .pointer (some ⟨b1010, 0, none⟩))] _
    refine At.reg (L := [(0, false), (1, false), (2, false), (3, false), (4, false), (5, false), (6, false), (7, false), (8, false), (9, false), (10, false)]) (by kernel_rfl) ?_
    refine Op.pures 3 [0, 1, 2, 3, 4, 5, 14, 44] (L' := [(3, false), (4, false), (5, false), (6, false), (7, false), (8, false), (9, false), (10, false)]) (e' := [(0, .pointer (some ⟨b_t, 0, none⟩)), (1, .string (mkS (numS p l1011.Next))), (2, .slice a_data data.length n_data), (3, .int .i64 owner), (4, .int .i64 born), (5, .bool num), (14, .pointer (some ⟨b1010, 0, none⟩)), (44, .pointer (some ⟨b_t, 0, none⟩))]) (by kernel_rfl) ?_
    refine Op.load (T := 126) (x := (.tmp 44)) (o := 0) (d := 45) (n := 1) (v := .map (some b1024)) (by kernel_rfl) (by kernel_rfl) (by kernel_rfl) (s1049.chunk 4 rfl) (by kernel_rfl) ?_
    refine Op.pures 1 [0, 1, 2, 3, 4, 5, 14, 45, 46] (L' := [(5, false), (6, false), (7, false), (8, false), (9, false), (10, false)]) (e' := [(0, .pointer (some ⟨b_t, 0, none⟩)), (1, .string (mkS (numS p l1011.Next))), (2, .slice a_data data.length n_data), (3, .int .i64 owner), (4, .int .i64 born), (5, .bool num), (14, .pointer (some ⟨b1010, 0, none⟩)), (45, .map (some b1024)), (46, .string (mkS (numS p l1011.Next)))]) (by kernel_rfl) ?_
    obtain ⟨ov1064, hov1065⟩ : ∃ o, lookK ks1032 (numS p l1011.Next) = o := ⟨_, rfl⟩
    have hs1066 := hO1036.look (numS p l1011.Next)
    rw [hov1065] at hs1066
    rcases ov1064 with _ | v1067
    ·have hf1068 : findL t (numS p l1011.Next) = none := by cases hq : findL t (numS p l1011.Next) with | none => rfl | some _ => (rw [hq] at hs1066; cases hs1066)
     refine Op.lookNone (ok := true) (d := .string) (mt := 126) (x := (.tmp 45)) (ix := (.tmp 46)) (dst := 47) (k := (numS p l1011.Next)) (m := b1024) (z := .pointer none) (by kernel_rfl) (by kernel_rfl) keyS (by kernel_rfl) (by kernel_rfl) (s1049.chunk 3 rfl) hR1035 hov1065 ?_
     refine Op.pures 5 [0, 1, 2, 3, 4, 5, 14, 17] (L' := []) (e' := [(0, .pointer (some ⟨b_t, 0, none⟩)), (1, .string (mkS (numS p l1011.Next))), (2, .slice a_data data.length n_data), (3, .int .i64 owner), (4, .int .i64 born), (5, .bool num), (14, .pointer (some ⟨b1010, 0, none⟩)), (17, .bool false)]) (by kernel_rfl) ?_
     refine Op.goto 14 (by kernel_rfl) ?_
     refine At.reg (L := [(0, false)]) (by kernel_rfl) ?_
     refine Op.pures 1 [0, 1, 2, 3, 4, 5, 14, 50] (L' := []) (e' := [(0, .pointer (some ⟨b_t, 0, none⟩)), (1, .string (mkS (numS p l1011.Next))), (2, .slice a_data data.length n_data), (3, .int .i64 owner), (4, .int .i64 born), (5, .bool num), (14, .pointer (some ⟨b1010, 0, none⟩)), (50, .bool false)]) (by kernel_rfl) ?_
     refine Op.goto 15 (by kernel_rfl) ?_
     refine At.condF (c := .tmp 50) (by kernel_rfl) (by kernel_rfl) (by kernel_rfl) 18 (by kernel_rfl) ?_
     refine At.reg (L := [(0, false), (1, false), (2, false), (3, false), (4, false), (5, false)]) (by kernel_rfl) ?_
     refine Op.pures 3 [0, 1, 2, 3, 4, 5, 14, 53] (L' := [(3, false), (4, false), (5, false)]) (e' := [(0, .pointer (some ⟨b_t, 0, none⟩)), (1, .string (mkS (numS p l1011.Next))), (2, .slice a_data data.length n_data), (3, .int .i64 owner), (4, .int .i64 born), (5, .bool num), (14, .pointer (some ⟨b1010, 0, none⟩)), (53, .pointer (some ⟨b_t, 0, none⟩))]) (by kernel_rfl) ?_
     refine Op.load (T := 126) (x := (.tmp 53)) (o := 0) (d := 54) (n := 1) (v := .map (some b1024)) (by kernel_rfl) (by kernel_rfl) (by kernel_rfl) (s1049.chunk 4 rfl) (by kernel_rfl) ?_
     refine Op.mapLen (d := .string) (mt := 126) (x := (.tmp 54)) (dst := 55) (m := b1024) (z := .pointer none) (by kernel_rfl) (by kernel_rfl) (by kernel_rfl) rfl (s1049.chunk 3 rfl) hR1035 hO1036.len ?_
     refine Op.pures 1 [0, 1, 2, 3, 4, 5, 14, 56] (L' := []) (e' := [(0, .pointer (some ⟨b_t, 0, none⟩)), (1, .string (mkS (numS p l1011.Next))), (2, .slice a_data data.length n_data), (3, .int .i64 owner), (4, .int .i64 born), (5, .bool num), (14, .pointer (some ⟨b1010, 0, none⟩)), (56, .bool (decide ((t.length : Int) ≥ (32 : Int))))]) (by kernel_rfl) ?_
     refine Op.goto 19 (by kernel_rfl) ?_
     refine At.cond (b := decide ((t.length : Int) ≥ (32 : Int))) (c := .tmp 56) (by kernel_rfl) (by kernel_rfl) (by kernel_rfl) 20 22 (by kernel_rfl) (by kernel_rfl) (fun hb => ?_) (fun hb => ?_)
     ·have c1069 : (t.length : Int) ≥ (32 : Int) := of_decide_eq_true hb
      clear hb
      refine At.keep [] ?_; show At _ _ _ [] _
      refine At.reg (L := [(0, false), (1, false)]) (by kernel_rfl) ?_
      refine Op.pures 2 [12, 13] (L' := []) (e' := [(12, .string (mkS [])), (13, .int .i64 104)]) (by kernel_rfl) ?_
      refine Op.goto 21 (by kernel_rfl) ?_
      have hO1070 : OpenLm ks1032 ((b1010, .cells #[.string (mkS l1011.Path), .slice a1045 l1011.Data.length n1046, .int .i64 l1011.Version, .int .i64 l1011.Owner, .int .i64 l1011.Next, .int .i64 l1011.Born] 59 (0, 0)) :: c1039 ++ F1040 : Chunk) t := by have hq := hset1043 l1011 _ _ rfl R1042; rwa [withL_same hO1036.sort (by rw [(findL_some hF1015).2]; exact hF1015)] at hq
      have s1071 : St h g (ids [c_t]) g [((b1010, .cells #[.string (mkS l1011.Path), .slice a1045 l1011.Data.length n1046, .int .i64 l1011.Version, .int .i64 l1011.Owner, .int .i64 l1011.Next, .int .i64 l1011.Born] 59 (0, 0)) :: c1039 ++ F1040 : Chunk), [(b1024, .map es1030 clk1031)], [(b_t, Obj.cells #[.map (some b1024)] 128 (0, 0))]] h1048 := St.flat (L := [[(b1010, Obj.cells #[.string (mkS l1011.Path), .slice a1045 l1011.Data.length n1046, .int .i64 l1011.Version, .int .i64 l1011.Owner, .int .i64 l1011.Next, .int .i64 l1011.Born] 59 (0, 0))], c1039, F1040, [(b1024, .map es1030 clk1031)], [(b_t, Obj.cells #[.map (some b1024)] 128 (0, 0))]]) (by simp only [List.flatten_cons, List.flatten_nil, List.append_assoc, List.cons_append, List.nil_append, List.append_nil]) s1049
      have s1072 : St h g (ids [c_t]) g [[(b1024, .map es1030 clk1031)], ((b1010, .cells #[.string (mkS l1011.Path), .slice a1045 l1011.Data.length n1046, .int .i64 l1011.Version, .int .i64 l1011.Owner, .int .i64 l1011.Next, .int .i64 l1011.Born] 59 (0, 0)) :: c1039 ++ F1040 : Chunk), [(b_t, Obj.cells #[.map (some b1024)] 128 (0, 0))]] h1048 := ((s1071.front 0 rfl).front 1 rfl)
      obtain ⟨c1073, o1074, s1075⟩ : ∃ c, IsLm g b1024 t c ∧ St h g (ids [c_t]) g (c :: [[(b_t, Obj.cells #[.map (some b1024)] 128 (0, 0))]]) h1048 := ⟨_, hO1070.close hR1035 (List.Perm.refl _), St.flat (L := [(b1024, .map es1030 clk1031)] :: ((b1010, .cells #[.string (mkS l1011.Path), .slice a1045 l1011.Data.length n1046, .int .i64 l1011.Version, .int .i64 l1011.Owner, .int .i64 l1011.Next, .int .i64 l1011.Born] 59 (0, 0)) :: c1039 ++ F1040 : Chunk) :: [[(b_t, Obj.cells #[.map (some b1024)] 128 (0, 0))]]) (by simp only [List.flatten_cons, List.append_assoc, List.cons_append, List.nil_append, List.append_nil]) s1072⟩
      have s1076 : St h g (ids [c_t]) g [[(b_t, Obj.cells #[.map (some b1024)] 128 (0, 0))], c1073] h1048 := ((s1075.front 0 rfl).front 1 rfl)
      obtain ⟨c1077, o1078, s1079⟩ : ∃ c, IsTree g b_t t c ∧ St h g (ids [c_t]) g (c :: []) h1048 := ⟨_, ⟨_, _, rfl, o1074⟩, St.flat (L := [[(b_t, Obj.cells #[.map (some b1024)] 128 (0, 0))], c1073]) (by simp only [List.flatten_cons, List.append_assoc, List.cons_append, List.nil_append, List.append_nil]) s1076⟩
      refine At.ret (f := Tryz.f28) (v := .tuple #[.string (mkS []), .int .i64 104]) (by kernel_rfl) (by kernel_rfl) ?_
      refine hR _ _ _ _ s1079 ⟨c1077, ?_, ?_, rfl, rfl⟩
      ·exact eqT2 (eqS (by (rw [mk_4 (by assumption) (by assumption) (by simp [makeE, *]) (by simp [makeN, *] <;> rfl) (by assumption) (by assumption)]; done))) (eqI (by (rw [mk_4 (by assumption) (by assumption) (by simp [makeE, *]) (by simp [makeN, *] <;> rfl) (by assumption) (by assumption)]; done)))
      ·exact o1078.eq (by (rw [mk_4 (by assumption) (by assumption) (by simp [makeE, *]) (by simp [makeN, *] <;> rfl) (by assumption) (by assumption)]; done))
     ·have c1080 : ¬ ((t.length : Int) ≥ (32 : Int)) := of_decide_eq_false hb
      clear hb
      refine At.keep [0, 1, 2, 3, 4, 5, 14] ?_; show At _ _ _ [(0, .pointer (some ⟨b_t, 0, none⟩)), (1, .string (mkS (numS p l1011.Next))), (2, .slice a_data data.length n_data), (3, .int .i64 owner), (4, .int .i64 born), (5, .bool num), (14, .pointer (some ⟨b1010, 0, none⟩))] _
      refine At.reg (L := [(0, false)]) (by kernel_rfl) ?_
      refine Op.pures 1 [0, 1, 2, 3, 4, 14, 57] (L' := []) (e' := [(0, .pointer (some ⟨b_t, 0, none⟩)), (1, .string (mkS (numS p l1011.Next))), (2, .slice a_data data.length n_data), (3, .int .i64 owner), (4, .int .i64 born), (14, .pointer (some ⟨b1010, 0, none⟩)), (57, .bool num)]) (by kernel_rfl) ?_
      refine Op.goto 23 (by kernel_rfl) ?_
      refine At.cond (b := num) (c := .tmp 57) (by kernel_rfl) (by kernel_rfl) (by kernel_rfl) 24 25 (by kernel_rfl) (by kernel_rfl) (fun hb => ?_) (fun hb => ?_)
      ·have c1081 : num = true := hb
       clear hb
       refine At.keep [0, 1, 2, 3, 4, 14] ?_; show At _ _ _ [(0, .pointer (some ⟨b_t, 0, none⟩)), (1, .string (mkS (numS p l1011.Next))), (2, .slice a_data data.length n_data), (3, .int .i64 owner), (4, .int .i64 born), (14, .pointer (some ⟨b1010, 0, none⟩))] _
       refine At.reg (L := [(0, false), (1, false), (2, false), (3, false), (4, false), (5, false), (6, false), (7, false)]) (by kernel_rfl) ?_
       refine Op.pures 3 [0, 1, 2, 3, 4, 58, 60] (L' := [(3, false), (4, false), (5, false), (6, false), (7, false)]) (e' := [(0, .pointer (some ⟨b_t, 0, none⟩)), (1, .string (mkS (numS p l1011.Next))), (2, .slice a_data data.length n_data), (3, .int .i64 owner), (4, .int .i64 born), (58, .pointer (some ⟨b1010, 0, none⟩)), (60, .pointer (some ⟨b1010, 4, none⟩))]) (by kernel_rfl) ?_
       refine Op.load (T := 3) (x := (.tmp 60)) (o := 4) (d := 61) (n := 1) (v := .int .i64 l1011.Next) (by kernel_rfl) (by kernel_rfl) (by kernel_rfl) (s1049.chunk 0 rfl) (by kernel_rfl) ?_
       refine Op.val (dst := some 62) (v := .int .i64 (IntKind.wrap .i64 (l1011.Next + 1))) (v' := .int .i64 (IntKind.wrap .i64 (l1011.Next + 1))) (by kernel_rfl) rfl ?_
       refine Op.pures 2 [0, 1, 2, 3, 4, 62, 64] (L' := [(7, false)]) (e' := [(0, .pointer (some ⟨b_t, 0, none⟩)), (1, .string (mkS (numS p l1011.Next))), (2, .slice a_data data.length n_data), (3, .int .i64 owner), (4, .int .i64 born), (62, .int .i64 (IntKind.wrap .i64 (l1011.Next + 1))), (64, .pointer (some ⟨b1010, 4, none⟩))]) (by kernel_rfl) ?_
       refine Op.store (T := 3) (x := (.tmp 64)) (y := (.tmp 62)) (b := b1010) (o := 4) (vs := [.int .i64 (IntKind.wrap .i64 (l1011.Next + 1))]) (a? := false) (n := 1) (by kernel_rfl) (by kernel_rfl) (by kernel_rfl) (by kernel_rfl) rfl (by simp [Value.oneCell']) s1049 0 rfl (Nat.le_of_ble_eq_true (by kernel_rfl)) (cs := #[.string (mkS l1011.Path), .slice a1045 l1011.Data.length n1046, .int .i64 l1011.Version, .int .i64 l1011.Owner, .int .i64 l1011.Next, .int .i64 l1011.Born]) (cs' := #[.string (mkS l1011.Path), .slice a1045 l1011.Data.length n1046, .int .i64 l1011.Version, .int .i64 l1011.Owner, .int .i64 (IntKind.wrap .i64 (l1011.Next + 1)), .int .i64 l1011.Born]) (by kernel_rfl) (fun _ => trivial) ?_
       intro h1082 s1083
       refine Op.goto 25 (by kernel_rfl) ?_
       refine At.draw (by kernel_rfl) (fun _ => False) [(0, true), (1, true), (2, true), (4, true), (5, true), (6, true), (8, true), (9, true), (10, true), (11, true), (3, true), (7, false), (12, true), (13, false), (1014, false), (14, false)] (by kernel_rfl) ?_
       refine Op.pures 7 [1, 4, 67, 69, 70, 71, 73] (L' := [(9, true), (10, true), (11, true), (3, true), (7, false), (12, true), (13, false), (1014, false), (14, false)]) (e' := [(1, .string (mkS (numS p l1011.Next))), (4, .int .i64 born), (67, .pointer (some ⟨b_t, 0, none⟩)), (69, .string (mkS (numS p l1011.Next))), (70, .string (mkS (numS p l1011.Next))), (71, .slice a_data data.length n_data), (73, .int .i64 owner)]) (by kernel_rfl) ?_
       refine Op.val (dst := some 74) (v := .int .i64 (if ((-1) : Int) > owner then ((-1) : Int) else owner)) (v' := .int .i64 (max owner ((-1) : Int))) (by kernel_rfl) (maxEq _ _) ?_
       refine Op.pures 1 [1, 67, 69, 70, 71, 74, 75] (L' := [(11, true), (3, true), (7, false), (12, true), (13, false), (1014, false), (14, false)]) (e' := [(1, .string (mkS (numS p l1011.Next))), (67, .pointer (some ⟨b_t, 0, none⟩)), (69, .string (mkS (numS p l1011.Next))), (70, .string (mkS (numS p l1011.Next))), (71, .slice a_data data.length n_data), (74, .int .i64 (max owner ((-1) : Int))), (75, .int .i64 born)]) (by kernel_rfl) ?_
       refine Op.val (dst := some 76) (v := .int .i64 (if (0 : Int) > born then (0 : Int) else born)) (v' := .int .i64 (max born (0 : Int))) (by kernel_rfl) (maxEq _ _) ?_
       refine Op.loadF (T := 126) (x := (.tmp 67)) (o := 0) (d := 68) (n := 1) (v := .map (some b1024)) (by kernel_rfl) (by kernel_rfl) (by kernel_rfl) (fun h => h) (s1083.chunk 4 rfl) (by kernel_rfl) ?_
       refine Op.call0 (dst := some 72) (f := 74) (args := #[.slice a_data data.length n_data]) (by kernel_rfl) s1083 (cloneB _ _ _ s1083.sub hG _ _ h_data (by ((try dsimp only) <;> (omega))) ) ?_
       rintro _ g1091 _ h1084 hle1092 s1085 ⟨v1086, ch1087, rfl, R1088, hgg, rfl⟩; subst g1091; clear hle1092
       obtain ⟨a1089, n1090, rfl⟩ := R1088.form
       refine Op.pures 1 [1, 68, 69, 77] (L' := [(13, false), (1014, false), (14, false)]) (e' := [(1, .string (mkS (numS p l1011.Next))), (68, .map (some b1024)), (69, .string (mkS (numS p l1011.Next))), (77, .agg #[.string (mkS (numS p l1011.Next)), .slice a1089 ((data).length) n1090, .int .i64 0, .int .i64 (max owner ((-1) : Int)), .int .i64 0, .int .i64 (max born (0 : Int))])]) (by kernel_rfl) ?_
       refine Op.box (T := 59) (x := (.tmp 77)) (d := 78) (cs := #[.string (mkS (numS p l1011.Next)), .slice a1089 ((data).length) n1090, .int .i64 0, .int .i64 (max owner ((-1) : Int)), .int .i64 0, .int .i64 (max born (0 : Int))]) (by kernel_rfl) (by kernel_rfl) s1085 ?_
       intro b1093 h1094 s1095
       refine Op.barrier (by kernel_rfl) ?_
       have hO1096 : OpenLm ks1032 ((b1010, .cells #[.string (mkS l1011.Path), .slice a1045 l1011.Data.length n1046, .int .i64 l1011.Version, .int .i64 l1011.Owner, .int .i64 (IntKind.wrap .i64 (l1011.Next + 1)), .int .i64 l1011.Born] 59 (0, 0)) :: c1039 ++ F1040 : Chunk) (withL t (⟨l1011.Path, l1011.Data, l1011.Version, l1011.Owner, IntKind.wrap .i64 (l1011.Next + 1), l1011.Born⟩ : Leaf)) := hset1043 (⟨l1011.Path, l1011.Data, l1011.Version, l1011.Owner, IntKind.wrap .i64 (l1011.Next + 1), l1011.Born⟩ : Leaf) _ _ rfl R1042
       have s1098 : St h g (ids [c_t]) g [[(b1010, Obj.cells #[.string (mkS l1011.Path), .slice a1045 l1011.Data.length n1046, .int .i64 l1011.Version, .int .i64 l1011.Owner, .int .i64 (IntKind.wrap .i64 (l1011.Next + 1)), .int .i64 l1011.Born] 59 (0, 0))], c1039, F1040, [(b1093, Obj.cells #[.string (mkS (numS p l1011.Next)), .slice a1089 ((data).length) n1090, .int .i64 0, .int .i64 (max owner ((-1) : Int)), .int .i64 0, .int .i64 (max born (0 : Int))] 59 (0, 0))], ch1087, [(b1024, .map es1030 clk1031)], [(b_t, Obj.cells #[.map (some b1024)] 128 (0, 0))]] h1094 := (((((s1095.front 1 rfl).front 1 rfl).front 4 rfl).front 4 rfl).front 4 rfl)
       have s1097 : St h g (ids [c_t]) g [((b1010, .cells #[.string (mkS l1011.Path), .slice a1045 l1011.Data.length n1046, .int .i64 l1011.Version, .int .i64 l1011.Owner, .int .i64 (IntKind.wrap .i64 (l1011.Next + 1)), .int .i64 l1011.Born] 59 (0, 0)) :: c1039 ++ F1040 : Chunk), [(b1093, Obj.cells #[.string (mkS (numS p l1011.Next)), .slice a1089 ((data).length) n1090, .int .i64 0, .int .i64 (max owner ((-1) : Int)), .int .i64 0, .int .i64 (max born (0 : Int))] 59 (0, 0))], ch1087, [(b1024, .map es1030 clk1031)], [(b_t, Obj.cells #[.map (some b1024)] 128 (0, 0))]] h1094 := St.flat (L := [[(b1010, Obj.cells #[.string (mkS l1011.Path), .slice a1045 l1011.Data.length n1046, .int .i64 l1011.Version, .int .i64 l1011.Owner, .int .i64 (IntKind.wrap .i64 (l1011.Next + 1)), .int .i64 l1011.Born] 59 (0, 0))], c1039, F1040, [(b1093, Obj.cells #[.string (mkS (numS p l1011.Next)), .slice a1089 ((data).length) n1090, .int .i64 0, .int .i64 (max owner ((-1) : Int)), .int .i64 0, .int .i64 (max born (0 : Int))] 59 (0, 0))], ch1087, [(b1024, .map es1030 clk1031)], [(b_t, Obj.cells #[.map (some b1024)] 128 (0, 0))]]) (by simp only [List.flatten_cons, List.flatten_nil, List.append_assoc, List.cons_append, List.nil_append, List.append_nil]) s1098
       refine Op.mapSet (d := .string) (z := .pointer none) (mt := 126) (x := (.tmp 68)) (ix := (.tmp 69)) (y := (.tmp 78)) (k := (numS p l1011.Next)) (v := .pointer (some ⟨b1093, 0, none⟩)) (.inl (by kernel_rfl)) (by kernel_rfl) keyS (by kernel_rfl) (by kernel_rfl) (by kernel_rfl) s1097 3 rfl hR1035 (fun _ => trivial) ?_
       intro es1099 clk1100 h1101 hR1102 s1103
       have hO1104 : OpenLm (updK ks1032 (numS p l1011.Next) (.pointer (some ⟨b1093, 0, none⟩))) ((b1093, .cells #[.string (mkS (numS p l1011.Next)), .slice a1089 ((data).length) n1090, .int .i64 0, .int .i64 (max owner ((-1) : Int)), .int .i64 0, .int .i64 (max born (0 : Int))] 59 (0, 0)) :: ch1087 ++ ((b1010, .cells #[.string (mkS l1011.Path), .slice a1045 l1011.Data.length n1046, .int .i64 l1011.Version, .int .i64 l1011.Owner, .int .i64 (IntKind.wrap .i64 (l1011.Next + 1)), .int .i64 l1011.Born] 59 (0, 0)) :: c1039 ++ F1040 : Chunk) : Chunk) (withL (withL t (⟨l1011.Path, l1011.Data, l1011.Version, l1011.Owner, IntKind.wrap .i64 (l1011.Next + 1), l1011.Born⟩ : Leaf)) (⟨numS p l1011.Next, data, 0, max owner ((-1) : Int), 0, max born (0 : Int)⟩ : Leaf)) := hO1096.ins (g := g) (l := (⟨numS p l1011.Next, data, 0, max owner ((-1) : Int), 0, max born (0 : Int)⟩ : Leaf)) (by exact with_none2 (p := parentOf p) (by assumption) (by assumption) _) R1088 (by exact numS_le _ _)
       have s1106 : St h g (ids [c_t]) g [[(b1024, .map es1099 clk1100)], [(b1093, Obj.cells #[.string (mkS (numS p l1011.Next)), .slice a1089 ((data).length) n1090, .int .i64 0, .int .i64 (max owner ((-1) : Int)), .int .i64 0, .int .i64 (max born (0 : Int))] 59 (0, 0))], ch1087, ((b1010, .cells #[.string (mkS l1011.Path), .slice a1045 l1011.Data.length n1046, .int .i64 l1011.Version, .int .i64 l1011.Owner, .int .i64 (IntKind.wrap .i64 (l1011.Next + 1)), .int .i64 l1011.Born] 59 (0, 0)) :: c1039 ++ F1040 : Chunk), [(b_t, Obj.cells #[.map (some b1024)] 128 (0, 0))]] h1101 := ((((s1103.front 0 rfl).front 2 rfl).front 2 rfl).front 3 rfl)
       have s1105 : St h g (ids [c_t]) g [[(b1024, .map es1099 clk1100)], ((b1093, .cells #[.string (mkS (numS p l1011.Next)), .slice a1089 ((data).length) n1090, .int .i64 0, .int .i64 (max owner ((-1) : Int)), .int .i64 0, .int .i64 (max born (0 : Int))] 59 (0, 0)) :: ch1087 ++ ((b1010, .cells #[.string (mkS l1011.Path), .slice a1045 l1011.Data.length n1046, .int .i64 l1011.Version, .int .i64 l1011.Owner, .int .i64 (IntKind.wrap .i64 (l1011.Next + 1)), .int .i64 l1011.Born] 59 (0, 0)) :: c1039 ++ F1040 : Chunk) : Chunk), [(b_t, Obj.cells #[.map (some b1024)] 128 (0, 0))]] h1101 := St.flat (L := [[(b1024, .map es1099 clk1100)], [(b1093, Obj.cells #[.string (mkS (numS p l1011.Next)), .slice a1089 ((data).length) n1090, .int .i64 0, .int .i64 (max owner ((-1) : Int)), .int .i64 0, .int .i64 (max born (0 : Int))] 59 (0, 0))], ch1087, ((b1010, .cells #[.string (mkS l1011.Path), .slice a1045 l1011.Data.length n1046, .int .i64 l1011.Version, .int .i64 l1011.Owner, .int .i64 (IntKind.wrap .i64 (l1011.Next + 1)), .int .i64 l1011.Born] 59 (0, 0)) :: c1039 ++ F1040 : Chunk), [(b_t, Obj.cells #[.map (some b1024)] 128 (0, 0))]]) (by simp only [List.flatten_cons, List.flatten_nil, List.append_assoc, List.cons_append, List.nil_append, List.append_nil]) s1106
       refine Op.goto 26 (by kernel_rfl) ?_
       refine At.reg (L := [(0, false), (1, false), (2, false)]) (by kernel_rfl) ?_
       refine Op.pures 3 [12, 13] (L' := []) (e' := [(12, .string (mkS (numS p l1011.Next))), (13, .int .i64 0)]) (by kernel_rfl) ?_
       refine Op.goto 27 (by kernel_rfl) ?_
       obtain ⟨c1107, o1108, s1109⟩ : ∃ c, IsLm g b1024 (withL (withL t (⟨l1011.Path, l1011.Data, l1011.Version, l1011.Owner, IntKind.wrap .i64 (l1011.Next + 1), l1011.Born⟩ : Leaf)) (⟨numS p l1011.Next, data, 0, max owner ((-1) : Int), 0, max born (0 : Int)⟩ : Leaf)) c ∧ St h g (ids [c_t]) g (c :: [[(b_t, Obj.cells #[.map (some b1024)] 128 (0, 0))]]) h1101 := ⟨_, hO1104.close hR1102 (List.Perm.refl _), St.flat (L := [(b1024, .map es1099 clk1100)] :: ((b1093, .cells #[.string (mkS (numS p l1011.Next)), .slice a1089 ((data).length) n1090, .int .i64 0, .int .i64 (max owner ((-1) : Int)), .int .i64 0, .int .i64 (max born (0 : Int))] 59 (0, 0)) :: ch1087 ++ ((b1010, .cells #[.string (mkS l1011.Path), .slice a1045 l1011.Data.length n1046, .int .i64 l1011.Version, .int .i64 l1011.Owner, .int .i64 (IntKind.wrap .i64 (l1011.Next + 1)), .int .i64 l1011.Born] 59 (0, 0)) :: c1039 ++ F1040 : Chunk) : Chunk) :: [[(b_t, Obj.cells #[.map (some b1024)] 128 (0, 0))]]) (by simp only [List.flatten_cons, List.append_assoc, List.cons_append, List.nil_append, List.append_nil]) s1105⟩
       have s1110 : St h g (ids [c_t]) g [[(b_t, Obj.cells #[.map (some b1024)] 128 (0, 0))], c1107] h1101 := ((s1109.front 0 rfl).front 1 rfl)
       obtain ⟨c1111, o1112, s1113⟩ : ∃ c, IsTree g b_t (withL (withL t (⟨l1011.Path, l1011.Data, l1011.Version, l1011.Owner, IntKind.wrap .i64 (l1011.Next + 1), l1011.Born⟩ : Leaf)) (⟨numS p l1011.Next, data, 0, max owner ((-1) : Int), 0, max born (0 : Int)⟩ : Leaf)) c ∧ St h g (ids [c_t]) g (c :: []) h1101 := ⟨_, ⟨_, _, rfl, o1108⟩, St.flat (L := [[(b_t, Obj.cells #[.map (some b1024)] 128 (0, 0))], c1107]) (by simp only [List.flatten_cons, List.append_assoc, List.cons_append, List.nil_append, List.append_nil]) s1110⟩
       refine At.ret (f := Tryz.f28) (v := .tuple #[.string (mkS (numS p l1011.Next)), .int .i64 0]) (by kernel_rfl) (by kernel_rfl) ?_
       refine hR _ _ _ _ s1113 ⟨c1111, ?_, ?_, rfl, rfl⟩
       ·exact eqT2 (eqS (by (rw [mk_5 (by assumption) (by assumption) (by simp [makeE, *]) (by simp [makeN, *] <;> rfl) (by assumption) (by assumption)]; done))) (eqI (by (rw [mk_5 (by assumption) (by assumption) (by simp [makeE, *]) (by simp [makeN, *] <;> rfl) (by assumption) (by assumption)]; done)))
       ·exact o1112.eq (by (rw [mk_5 (by assumption) (by assumption) (by simp [makeE, *]) (by simp [makeN, *] <;> rfl) (by assumption) (by assumption)]; exact (madeL_1 (by assumption)).symm))
      ·exact Bool.noConfusion (c1023.symm.trans hb)
    ·have hf1114 : (findL t (numS p l1011.Next)).isSome = true := hs1066.symm
     refine Op.lookSome (ok := true) (d := .string) (mt := 126) (x := (.tmp 45)) (ix := (.tmp 46)) (dst := 47) (k := (numS p l1011.Next)) (m := b1024) (z := .pointer none) (by kernel_rfl) (by kernel_rfl) keyS (by kernel_rfl) (by kernel_rfl) (s1049.chunk 3 rfl) hR1035 hov1065 ?_
     refine Op.pures 5 [0, 1, 2, 3, 4, 5, 14, 17] (L' := []) (e' := [(0, .pointer (some ⟨b_t, 0, none⟩)), (1, .string (mkS (numS p l1011.Next))), (2, .slice a_data data.length n_data), (3, .int .i64 owner), (4, .int .i64 born), (5, .bool num), (14, .pointer (some ⟨b1010, 0, none⟩)), (17, .bool true)]) (by kernel_rfl) ?_
     refine Op.goto 14 (by kernel_rfl) ?_
     refine At.reg (L := [(0, false)]) (by kernel_rfl) ?_
     refine Op.pures 1 [0, 1, 2, 3, 4, 5, 14, 50] (L' := []) (e' := [(0, .pointer (some ⟨b_t, 0, none⟩)), (1, .string (mkS (numS p l1011.Next))), (2, .slice a_data data.length n_data), (3, .int .i64 owner), (4, .int .i64 born), (5, .bool num), (14, .pointer (some ⟨b1010, 0, none⟩)), (50, .bool true)]) (by kernel_rfl) ?_
     refine Op.goto 15 (by kernel_rfl) ?_
     refine At.condT (c := .tmp 50) (by kernel_rfl) (by kernel_rfl) (by kernel_rfl) 16 (by kernel_rfl) ?_
     refine At.reg (L := [(0, false), (1, false)]) (by kernel_rfl) ?_
     refine Op.pures 2 [12, 13] (L' := []) (e' := [(12, .string (mkS [])), (13, .int .i64 101)]) (by kernel_rfl) ?_
     refine Op.goto 17 (by kernel_rfl) ?_
     have hO1115 : OpenLm ks1032 ((b1010, .cells #[.string (mkS l1011.Path), .slice a1045 l1011.Data.length n1046, .int .i64 l1011.Version, .int .i64 l1011.Owner, .int .i64 l1011.Next, .int .i64 l1011.Born] 59 (0, 0)) :: c1039 ++ F1040 : Chunk) t := by have hq := hset1043 l1011 _ _ rfl R1042; rwa [withL_same hO1036.sort (by rw [(findL_some hF1015).2]; exact hF1015)] at hq
     have s1116 : St h g (ids [c_t]) g [((b1010, .cells #[.string (mkS l1011.Path), .slice a1045 l1011.Data.length n1046, .int .i64 l1011.Version, .int .i64 l1011.Owner, .int .i64 l1011.Next, .int .i64 l1011.Born] 59 (0, 0)) :: c1039 ++ F1040 : Chunk), [(b1024, .map es1030 clk1031)], [(b_t, Obj.cells #[.map (some b1024)] 128 (0, 0))]] h1048 := St.flat (L := [[(b1010, Obj.cells #[.string (mkS l1011.Path), .slice a1045 l1011.Data.length n1046, .int .i64 l1011.Version, .int .i64 l1011.Owner, .int .i64 l1011.Next, .int .i64 l1011.Born] 59 (0, 0))], c1039, F1040, [(b1024, .map es1030 clk1031)], [(b_t, Obj.cells #[.map (some b1024)] 128 (0, 0))]]) (by simp only [List.flatten_cons, List.flatten_nil, List.append_assoc, List.cons_append, List.nil_append, List.append_nil]) s1049
     have s1117 : St h g (ids [c_t]) g [[(b1024, .map es1030 clk1031)], ((b1010, .cells #[.string (mkS l1011.Path), .slice a1045 l1011.Data.length n1046, .int .i64 l1011.Version, .int .i64 l1011.Owner, .int .i64 l1011.Next, .int .i64 l1011.Born] 59 (0, 0)) :: c1039 ++ F1040 : Chunk), [(b_t, Obj.cells #[.map (some b1024)] 128 (0, 0))]] h1048 := ((s1116.front 0 rfl).front 1 rfl)
     obtain ⟨c1118, o1119, s1120⟩ : ∃ c, IsLm g b1024 t c ∧ St h g (ids [c_t]) g (c :: [[(b_t, Obj.cells #[.map (some b1024)] 128 (0, 0))]]) h1048 := ⟨_, hO1115.close hR1035 (List.Perm.refl _), St.flat (L := [(b1024, .map es1030 clk1031)] :: ((b1010, .cells #[.string (mkS l1011.Path), .slice a1045 l1011.Data.length n1046, .int .i64 l1011.Version, .int .i64 l1011.Owner, .int .i64 l1011.Next, .int .i64 l1011.Born] 59 (0, 0)) :: c1039 ++ F1040 : Chunk) :: [[(b_t, Obj.cells #[.map (some b1024)] 128 (0, 0))]]) (by simp only [List.flatten_cons, List.append_assoc, List.cons_append, List.nil_append, List.append_nil]) s1117⟩
     have s1121 : St h g (ids [c_t]) g [[(b_t, Obj.cells #[.map (some b1024)] 128 (0, 0))], c1118] h1048 := ((s1120.front 0 rfl).front 1 rfl)
     obtain ⟨c1122, o1123, s1124⟩ : ∃ c, IsTree g b_t t c ∧ St h g (ids [c_t]) g (c :: []) h1048 := ⟨_, ⟨_, _, rfl, o1119⟩, St.flat (L := [[(b_t, Obj.cells #[.map (some b1024)] 128 (0, 0))], c1118]) (by simp only [List.flatten_cons, List.append_assoc, List.cons_append, List.nil_append, List.append_nil]) s1121⟩
     refine At.ret (f := Tryz.f28) (v := .tuple #[.string (mkS []), .int .i64 101]) (by kernel_rfl) (by kernel_rfl) ?_
     refine hR _ _ _ _ s1124 ⟨c1122, ?_, ?_, rfl, rfl⟩
     ·exact eqT2 (eqS (by (rw [mk_3 (by assumption) (by assumption) (by simp [makeE, *]) (by simp [makeN, *] <;> rfl) (by assumption)]; done))) (eqI (by (rw [mk_3 (by assumption) (by assumption) (by simp [makeE, *]) (by simp [makeN, *] <;> rfl) (by assumption)]; done)))
     ·exact o1123.eq (by (rw [mk_3 (by assumption) (by assumption) (by simp [makeE, *]) (by simp [makeN, *] <;> rfl) (by assumption)]; done))
  ·have c1125 : num = false := hb
   clear hb
   refine At.keep [0, 1, 2, 3, 4, 5, 14] ?_; show At _ _ _ [(0, .pointer (some ⟨b_t, 0, none⟩)), (1, .string (mkS p)), (2, .slice a_data data.length n_data), (3, .int .i64 owner), (4, .int .i64 born), (5, .bool num), (14, .pointer (some ⟨b1010, 0, none⟩))] _
   refine At.reg (L := [(0, false), (1, false), (2, false), (3, false), (4, false), (5, false), (6, false), (7, false), (8, false), (9, false), (10, false)]) (by kernel_rfl) ?_
   refine Op.pures 3 [0, 1, 2, 3, 4, 5, 14, 44] (L' := [(3, false), (4, false), (5, false), (6, false), (7, false), (8, false), (9, false), (10, false)]) (e' := [(0, .pointer (some ⟨b_t, 0, none⟩)), (1, .string (mkS p)), (2, .slice a_data data.length n_data), (3, .int .i64 owner), (4, .int .i64 born), (5, .bool num), (14, .pointer (some ⟨b1010, 0, none⟩)), (44, .pointer (some ⟨b_t, 0, none⟩))]) (by kernel_rfl) ?_
   obtain ⟨b1126, c1127, e1128, R1129⟩ := o_t
   have s1130 : St h g (ids [c_t]) g [[(b_t, Obj.cells #[.map (some b1126)] 128 (0, 0))], c1127] h1003 := St.flat (L := [c_t]) (by rw [e1128]; simp only [List.flatten_cons, List.append_assoc, List.cons_append, List.nil_append, List.append_nil]) s1004
   refine Op.load (T := 126) (x := (.tmp 44)) (o := 0) (d := 45) (n := 1) (v := .map (some b1126)) (by kernel_rfl) (by kernel_rfl) (by kernel_rfl) (s1130.chunk 0 rfl) (by kernel_rfl) ?_
   refine Op.pures 1 [0, 1, 2, 3, 4, 5, 14, 45, 46] (L' := [(5, false), (6, false), (7, false), (8, false), (9, false), (10, false)]) (e' := [(0, .pointer (some ⟨b_t, 0, none⟩)), (1, .string (mkS p)), (2, .slice a_data data.length n_data), (3, .int .i64 owner), (4, .int .i64 born), (5, .bool num), (14, .pointer (some ⟨b1010, 0, none⟩)), (45, .map (some b1126)), (46, .string (mkS p))]) (by kernel_rfl) ?_
   have s1131 : St h g (ids [c_t]) g [c1127, [(b_t, Obj.cells #[.map (some b1126)] 128 (0, 0))]] h1003 := ((s1130.front 0 rfl).front 1 rfl)
   obtain ⟨es1132, clk1133, ks1134, F1135, hp1136, hR1137, hO1138⟩ := IsLm.open_ R1129
   have s1139 : St h g (ids [c_t]) g ([(b1126, .map es1132 clk1133)] :: F1135 :: [[(b_t, Obj.cells #[.map (some b1126)] 128 (0, 0))]]) h1003 := St.permF (L := c1127 :: [[(b_t, Obj.cells #[.map (some b1126)] 128 (0, 0))]]) (hp1136.append_right _) s1131
   obtain ⟨ov1140, hov1141⟩ : ∃ o, lookK ks1134 p = o := ⟨_, rfl⟩
   have hs1142 := hO1138.look p
   rw [hov1141] at hs1142
   rcases ov1140 with _ | v1143
   ·have hf1144 : findL t p = none := by cases hq : findL t p with | none => rfl | some _ => (rw [hq] at hs1142; cases hs1142)
    refine Op.lookNone (ok := true) (d := .string) (mt := 126) (x := (.tmp 45)) (ix := (.tmp 46)) (dst := 47) (k := p) (m := b1126) (z := .pointer none) (by kernel_rfl) (by kernel_rfl) keyS (by kernel_rfl) (by kernel_rfl) (s1139.chunk 0 rfl) hR1137 hov1141 ?_
    refine Op.pures 5 [0, 1, 2, 3, 4, 5, 14, 17] (L' := []) (e' := [(0, .pointer (some ⟨b_t, 0, none⟩)), (1, .string (mkS p)), (2, .slice a_data data.length n_data), (3, .int .i64 owner), (4, .int .i64 born), (5, .bool num), (14, .pointer (some ⟨b1010, 0, none⟩)), (17, .bool false)]) (by kernel_rfl) ?_
    refine Op.goto 14 (by kernel_rfl) ?_
    refine At.reg (L := [(0, false)]) (by kernel_rfl) ?_
    refine Op.pures 1 [0, 1, 2, 3, 4, 5, 14, 50] (L' := []) (e' := [(0, .pointer (some ⟨b_t, 0, none⟩)), (1, .string (mkS p)), (2, .slice a_data data.length n_data), (3, .int .i64 owner), (4, .int .i64 born), (5, .bool num), (14, .pointer (some ⟨b1010, 0, none⟩)), (50, .bool false)]) (by kernel_rfl) ?_
    refine Op.goto 15 (by kernel_rfl) ?_
    refine At.condF (c := .tmp 50) (by kernel_rfl) (by kernel_rfl) (by kernel_rfl) 18 (by kernel_rfl) ?_
    refine At.reg (L := [(0, false), (1, false), (2, false), (3, false), (4, false), (5, false)]) (by kernel_rfl) ?_
    refine Op.pures 3 [0, 1, 2, 3, 4, 5, 14, 53] (L' := [(3, false), (4, false), (5, false)]) (e' := [(0, .pointer (some ⟨b_t, 0, none⟩)), (1, .string (mkS p)), (2, .slice a_data data.length n_data), (3, .int .i64 owner), (4, .int .i64 born), (5, .bool num), (14, .pointer (some ⟨b1010, 0, none⟩)), (53, .pointer (some ⟨b_t, 0, none⟩))]) (by kernel_rfl) ?_
    refine Op.load (T := 126) (x := (.tmp 53)) (o := 0) (d := 54) (n := 1) (v := .map (some b1126)) (by kernel_rfl) (by kernel_rfl) (by kernel_rfl) (s1139.chunk 2 rfl) (by kernel_rfl) ?_
    refine Op.mapLen (d := .string) (mt := 126) (x := (.tmp 54)) (dst := 55) (m := b1126) (z := .pointer none) (by kernel_rfl) (by kernel_rfl) (by kernel_rfl) rfl (s1139.chunk 0 rfl) hR1137 hO1138.len ?_
    refine Op.pures 1 [0, 1, 2, 3, 4, 5, 14, 56] (L' := []) (e' := [(0, .pointer (some ⟨b_t, 0, none⟩)), (1, .string (mkS p)), (2, .slice a_data data.length n_data), (3, .int .i64 owner), (4, .int .i64 born), (5, .bool num), (14, .pointer (some ⟨b1010, 0, none⟩)), (56, .bool (decide ((t.length : Int) ≥ (32 : Int))))]) (by kernel_rfl) ?_
    refine Op.goto 19 (by kernel_rfl) ?_
    refine At.cond (b := decide ((t.length : Int) ≥ (32 : Int))) (c := .tmp 56) (by kernel_rfl) (by kernel_rfl) (by kernel_rfl) 20 22 (by kernel_rfl) (by kernel_rfl) (fun hb => ?_) (fun hb => ?_)
    ·have c1145 : (t.length : Int) ≥ (32 : Int) := of_decide_eq_true hb
     clear hb
     refine At.keep [] ?_; show At _ _ _ [] _
     refine At.reg (L := [(0, false), (1, false)]) (by kernel_rfl) ?_
     refine Op.pures 2 [12, 13] (L' := []) (e' := [(12, .string (mkS [])), (13, .int .i64 104)]) (by kernel_rfl) ?_
     refine Op.goto 21 (by kernel_rfl) ?_
     obtain ⟨c1146, o1147, s1148⟩ : ∃ c, IsLm g b1126 t c ∧ St h g (ids [c_t]) g (c :: [[(b_t, Obj.cells #[.map (some b1126)] 128 (0, 0))]]) h1003 := ⟨_, hO1138.close hR1137 (List.Perm.refl _), St.flat (L := [(b1126, .map es1132 clk1133)] :: F1135 :: [[(b_t, Obj.cells #[.map (some b1126)] 128 (0, 0))]]) (by simp only [List.flatten_cons, List.append_assoc, List.cons_append, List.nil_append, List.append_nil]) s1139⟩
     have s1149 : St h g (ids [c_t]) g [[(b_t, Obj.cells #[.map (some b1126)] 128 (0, 0))], c1146] h1003 := ((s1148.front 0 rfl).front 1 rfl)
     obtain ⟨c1150, o1151, s1152⟩ : ∃ c, IsTree g b_t t c ∧ St h g (ids [c_t]) g (c :: []) h1003 := ⟨_, ⟨_, _, rfl, o1147⟩, St.flat (L := [[(b_t, Obj.cells #[.map (some b1126)] 128 (0, 0))], c1146]) (by simp only [List.flatten_cons, List.append_assoc, List.cons_append, List.nil_append, List.append_nil]) s1149⟩
     refine At.ret (f := Tryz.f28) (v := .tuple #[.string (mkS []), .int .i64 104]) (by kernel_rfl) (by kernel_rfl) ?_
     refine hR _ _ _ _ s1152 ⟨c1150, ?_, ?_, rfl, rfl⟩
     ·exact eqT2 (eqS (by (rw [mk_4 (by assumption) (by assumption) (by simp [makeE, *]) (by simp [makeN, *] <;> rfl) (by assumption) (by assumption)]; done))) (eqI (by (rw [mk_4 (by assumption) (by assumption) (by simp [makeE, *]) (by simp [makeN, *] <;> rfl) (by assumption) (by assumption)]; done)))
     ·exact o1151.eq (by (rw [mk_4 (by assumption) (by assumption) (by simp [makeE, *]) (by simp [makeN, *] <;> rfl) (by assumption) (by assumption)]; done))
    ·have c1153 : ¬ ((t.length : Int) ≥ (32 : Int)) := of_decide_eq_false hb
     clear hb
     refine At.keep [0, 1, 2, 3, 4, 5, 14] ?_; show At _ _ _ [(0, .pointer (some ⟨b_t, 0, none⟩)), (1, .string (mkS p)), (2, .slice a_data data.length n_data), (3, .int .i64 owner), (4, .int .i64 born), (5, .bool num), (14, .pointer (some ⟨b1010, 0, none⟩))] _
     refine At.reg (L := [(0, false)]) (by kernel_rfl) ?_
     refine Op.pures 1 [0, 1, 2, 3, 4, 14, 57] (L' := []) (e' := [(0, .pointer (some ⟨b_t, 0, none⟩)), (1, .string (mkS p)), (2, .slice a_data data.length n_data), (3, .int .i64 owner), (4, .int .i64 born), (14, .pointer (some ⟨b1010, 0, none⟩)), (57, .bool num)]) (by kernel_rfl) ?_
     refine Op.goto 23 (by kernel_rfl) ?_
     refine At.cond (b := num) (c := .tmp 57) (by kernel_rfl) (by kernel_rfl) (by kernel_rfl) 24 25 (by kernel_rfl) (by kernel_rfl) (fun hb => ?_) (fun hb => ?_)
     ·exact Bool.noConfusion (hb.symm.trans c1125)
     ·have c1154 : num = false := hb
      clear hb
      refine At.keep [0, 1, 2, 3, 4] ?_; show At _ _ _ [(0, .pointer (some ⟨b_t, 0, none⟩)), (1, .string (mkS p)), (2, .slice a_data data.length n_data), (3, .int .i64 owner), (4, .int .i64 born)] _
      refine At.draw (by kernel_rfl) (fun _ => False) [(0, true), (1, true), (2, true), (4, true), (5, true), (6, true), (8, true), (9, true), (10, true), (11, true), (3, true), (7, false), (12, true), (13, false), (1014, false), (14, false)] (by kernel_rfl) ?_
      refine Op.pures 7 [1, 4, 67, 69, 70, 71, 73] (L' := [(9, true), (10, true), (11, true), (3, true), (7, false), (12, true), (13, false), (1014, false), (14, false)]) (e' := [(1, .string (mkS p)), (4, .int .i64 born), (67, .pointer (some ⟨b_t, 0, none⟩)), (69, .string (mkS p)), (70, .string (mkS p)), (71, .slice a_data data.length n_data), (73, .int .i64 owner)]) (by kernel_rfl) ?_
      refine Op.val (dst := some 74) (v := .int .i64 (if ((-1) : Int) > owner then ((-1) : Int) else owner)) (v' := .int .i64 (max owner ((-1) : Int))) (by kernel_rfl) (maxEq _ _) ?_
      refine Op.pures 1 [1, 67, 69, 70, 71, 74, 75] (L' := [(11, true), (3, true), (7, false), (12, true), (13, false), (1014, false), (14, false)]) (e' := [(1, .string (mkS p)), (67, .pointer (some ⟨b_t, 0, none⟩)), (69, .string (mkS p)), (70, .string (mkS p)), (71, .slice a_data data.length n_data), (74, .int .i64 (max owner ((-1) : Int))), (75, .int .i64 born)]) (by kernel_rfl) ?_
      refine Op.val (dst := some 76) (v := .int .i64 (if (0 : Int) > born then (0 : Int) else born)) (v' := .int .i64 (max born (0 : Int))) (by kernel_rfl) (maxEq _ _) ?_
      refine Op.loadF (T := 126) (x := (.tmp 67)) (o := 0) (d := 68) (n := 1) (v := .map (some b1126)) (by kernel_rfl) (by kernel_rfl) (by kernel_rfl) (fun h => h) (s1139.chunk 2 rfl) (by kernel_rfl) ?_
      refine Op.call0 (dst := some 72) (f := 74) (args := #[.slice a_data data.length n_data]) (by kernel_rfl) s1139 (cloneB _ _ _ s1139.sub hG _ _ h_data (by ((try dsimp only) <;> (omega))) ) ?_
      rintro _ g1162 _ h1155 hle1163 s1156 ⟨v1157, ch1158, rfl, R1159, hgg, rfl⟩; subst g1162; clear hle1163
      obtain ⟨a1160, n1161, rfl⟩ := R1159.form
      refine Op.pures 1 [1, 68, 69, 77] (L' := [(13, false), (1014, false), (14, false)]) (e' := [(1, .string (mkS p)), (68, .map (some b1126)), (69, .string (mkS p)), (77, .agg #[.string (mkS p), .slice a1160 ((data).length) n1161, .int .i64 0, .int .i64 (max owner ((-1) : Int)), .int .i64 0, .int .i64 (max born (0 : Int))])]) (by kernel_rfl) ?_
      refine Op.box (T := 59) (x := (.tmp 77)) (d := 78) (cs := #[.string (mkS p), .slice a1160 ((data).length) n1161, .int .i64 0, .int .i64 (max owner ((-1) : Int)), .int .i64 0, .int .i64 (max born (0 : Int))]) (by kernel_rfl) (by kernel_rfl) s1156 ?_
      intro b1164 h1165 s1166
      refine Op.barrier (by kernel_rfl) ?_
      refine Op.mapSet (d := .string) (z := .pointer none) (mt := 126) (x := (.tmp 68)) (ix := (.tmp 69)) (y := (.tmp 78)) (k := p) (v := .pointer (some ⟨b1164, 0, none⟩)) (.inl (by kernel_rfl)) (by kernel_rfl) keyS (by kernel_rfl) (by kernel_rfl) (by kernel_rfl) s1166 2 rfl hR1137 (fun _ => trivial) ?_
      intro es1167 clk1168 h1169 hR1170 s1171
      have hO1172 : OpenLm (updK ks1134 p (.pointer (some ⟨b1164, 0, none⟩))) ((b1164, .cells #[.string (mkS p), .slice a1160 ((data).length) n1161, .int .i64 0, .int .i64 (max owner ((-1) : Int)), .int .i64 0, .int .i64 (max born (0 : Int))] 59 (0, 0)) :: ch1158 ++ F1135 : Chunk) (withL t (⟨p, data, 0, max owner ((-1) : Int), 0, max born (0 : Int)⟩ : Leaf)) := hO1138.ins (g := g) (l := (⟨p, data, 0, max owner ((-1) : Int), 0, max born (0 : Int)⟩ : Leaf)) (by assumption) R1159 (by exact cut_len (par_0 (by assumption) (by assumption)).1)
      have s1174 : St h g (ids [c_t]) g [[(b1126, .map es1167 clk1168)], [(b1164, Obj.cells #[.string (mkS p), .slice a1160 ((data).length) n1161, .int .i64 0, .int .i64 (max owner ((-1) : Int)), .int .i64 0, .int .i64 (max born (0 : Int))] 59 (0, 0))], ch1158, F1135, [(b_t, Obj.cells #[.map (some b1126)] 128 (0, 0))]] h1169 := (((s1171.front 1 rfl).front 1 rfl).front 2 rfl)
      have s1173 : St h g (ids [c_t]) g [[(b1126, .map es1167 clk1168)], ((b1164, .cells #[.string (mkS p), .slice a1160 ((data).length) n1161, .int .i64 0, .int .i64 (max owner ((-1) : Int)), .int .i64 0, .int .i64 (max born (0 : Int))] 59 (0, 0)) :: ch1158 ++ F1135 : Chunk), [(b_t, Obj.cells #[.map (some b1126)] 128 (0, 0))]] h1169 := St.flat (L := [[(b1126, .map es1167 clk1168)], [(b1164, Obj.cells #[.string (mkS p), .slice a1160 ((data).length) n1161, .int .i64 0, .int .i64 (max owner ((-1) : Int)), .int .i64 0, .int .i64 (max born (0 : Int))] 59 (0, 0))], ch1158, F1135, [(b_t, Obj.cells #[.map (some b1126)] 128 (0, 0))]]) (by simp only [List.flatten_cons, List.flatten_nil, List.append_assoc, List.cons_append, List.nil_append, List.append_nil]) s1174
      refine Op.goto 26 (by kernel_rfl) ?_
      refine At.reg (L := [(0, false), (1, false), (2, false)]) (by kernel_rfl) ?_
      refine Op.pures 3 [12, 13] (L' := []) (e' := [(12, .string (mkS p)), (13, .int .i64 0)]) (by kernel_rfl) ?_
      refine Op.goto 27 (by kernel_rfl) ?_
      obtain ⟨c1175, o1176, s1177⟩ : ∃ c, IsLm g b1126 (withL t (⟨p, data, 0, max owner ((-1) : Int), 0, max born (0 : Int)⟩ : Leaf)) c ∧ St h g (ids [c_t]) g (c :: [[(b_t, Obj.cells #[.map (some b1126)] 128 (0, 0))]]) h1169 := ⟨_, hO1172.close hR1170 (List.Perm.refl _), St.flat (L := [(b1126, .map es1167 clk1168)] :: ((b1164, .cells #[.string (mkS p), .slice a1160 ((data).length) n1161, .int .i64 0, .int .i64 (max owner ((-1) : Int)), .int .i64 0, .int .i64 (max born (0 : Int))] 59 (0, 0)) :: ch1158 ++ F1135 : Chunk) :: [[(b_t, Obj.cells #[.map (some b1126)] 128 (0, 0))]]) (by simp only [List.flatten_cons, List.append_assoc, List.cons_append, List.nil_append, List.append_nil]) s1173⟩
      have s1178 : St h g (ids [c_t]) g [[(b_t, Obj.cells #[.map (some b1126)] 128 (0, 0))], c1175] h1169 := ((s1177.front 0 rfl).front 1 rfl)
      obtain ⟨c1179, o1180, s1181⟩ : ∃ c, IsTree g b_t (withL t (⟨p, data, 0, max owner ((-1) : Int), 0, max born (0 : Int)⟩ : Leaf)) c ∧ St h g (ids [c_t]) g (c :: []) h1169 := ⟨_, ⟨_, _, rfl, o1176⟩, St.flat (L := [[(b_t, Obj.cells #[.map (some b1126)] 128 (0, 0))], c1175]) (by simp only [List.flatten_cons, List.append_assoc, List.cons_append, List.nil_append, List.append_nil]) s1178⟩
      refine At.ret (f := Tryz.f28) (v := .tuple #[.string (mkS p), .int .i64 0]) (by kernel_rfl) (by kernel_rfl) ?_
      refine hR _ _ _ _ s1181 ⟨c1179, ?_, ?_, rfl, rfl⟩
      ·exact eqT2 (eqS (by (rw [mk_5 (by assumption) (by assumption) (by simp [makeE, *]) (by simp [makeN, *] <;> rfl) (by assumption) (by assumption)]; done))) (eqI (by (rw [mk_5 (by assumption) (by assumption) (by simp [makeE, *]) (by simp [makeN, *] <;> rfl) (by assumption) (by assumption)]; done)))
      ·exact o1180.eq (by (rw [mk_5 (by assumption) (by assumption) (by simp [makeE, *]) (by simp [makeN, *] <;> rfl) (by assumption) (by assumption)]; exact (madeL_0 (by assumption) hsort (by assumption)).symm))
   ·have hf1182 : (findL t p).isSome = true := hs1142.symm
    refine Op.lookSome (ok := true) (d := .string) (mt := 126) (x := (.tmp 45)) (ix := (.tmp 46)) (dst := 47) (k := p) (m := b1126) (z := .pointer none) (by kernel_rfl) (by kernel_rfl) keyS (by kernel_rfl) (by kernel_rfl) (s1139.chunk 0 rfl) hR1137 hov1141 ?_
    refine Op.pures 5 [0, 1, 2, 3, 4, 5, 14, 17] (L' := []) (e' := [(0, .pointer (some ⟨b_t, 0, none⟩)), (1, .string (mkS p)), (2, .slice a_data data.length n_data), (3, .int .i64 owner), (4, .int .i64 born), (5, .bool num), (14, .pointer (some ⟨b1010, 0, none⟩)), (17, .bool true)]) (by kernel_rfl) ?_
    refine Op.goto 14 (by kernel_rfl) ?_
    refine At.reg (L := [(0, false)]) (by kernel_rfl) ?_
    refine Op.pures 1 [0, 1, 2, 3, 4, 5, 14, 50] (L' := []) (e' := [(0, .pointer (some ⟨b_t, 0, none⟩)), (1, .string (mkS p)), (2, .slice a_data data.length n_data), (3, .int .i64 owner), (4, .int .i64 born), (5, .bool num), (14, .pointer (some ⟨b1010, 0, none⟩)), (50, .bool true)]) (by kernel_rfl) ?_
    refine Op.goto 15 (by kernel_rfl) ?_
    refine At.condT (c := .tmp 50) (by kernel_rfl) (by kernel_rfl) (by kernel_rfl) 16 (by kernel_rfl) ?_
    refine At.reg (L := [(0, false), (1, false)]) (by kernel_rfl) ?_
    refine Op.pures 2 [12, 13] (L' := []) (e' := [(12, .string (mkS [])), (13, .int .i64 101)]) (by kernel_rfl) ?_
    refine Op.goto 17 (by kernel_rfl) ?_
    obtain ⟨c1183, o1184, s1185⟩ : ∃ c, IsLm g b1126 t c ∧ St h g (ids [c_t]) g (c :: [[(b_t, Obj.cells #[.map (some b1126)] 128 (0, 0))]]) h1003 := ⟨_, hO1138.close hR1137 (List.Perm.refl _), St.flat (L := [(b1126, .map es1132 clk1133)] :: F1135 :: [[(b_t, Obj.cells #[.map (some b1126)] 128 (0, 0))]]) (by simp only [List.flatten_cons, List.append_assoc, List.cons_append, List.nil_append, List.append_nil]) s1139⟩
    have s1186 : St h g (ids [c_t]) g [[(b_t, Obj.cells #[.map (some b1126)] 128 (0, 0))], c1183] h1003 := ((s1185.front 0 rfl).front 1 rfl)
    obtain ⟨c1187, o1188, s1189⟩ : ∃ c, IsTree g b_t t c ∧ St h g (ids [c_t]) g (c :: []) h1003 := ⟨_, ⟨_, _, rfl, o1184⟩, St.flat (L := [[(b_t, Obj.cells #[.map (some b1126)] 128 (0, 0))], c1183]) (by simp only [List.flatten_cons, List.append_assoc, List.cons_append, List.nil_append, List.append_nil]) s1186⟩
    refine At.ret (f := Tryz.f28) (v := .tuple #[.string (mkS []), .int .i64 101]) (by kernel_rfl) (by kernel_rfl) ?_
    refine hR _ _ _ _ s1189 ⟨c1187, ?_, ?_, rfl, rfl⟩
    ·exact eqT2 (eqS (by (rw [mk_3 (by assumption) (by assumption) (by simp [makeE, *]) (by simp [makeN, *] <;> rfl) (by assumption)]; done))) (eqI (by (rw [mk_3 (by assumption) (by assumption) (by simp [makeE, *]) (by simp [makeN, *] <;> rfl) (by assumption)]; done)))
    ·exact o1188.eq (by (rw [mk_3 (by assumption) (by assumption) (by simp [makeE, *]) (by simp [makeN, *] <;> rfl) (by assumption)]; done))
end Go.Proofs.YtmjebehhpojihaaGreatDoor.Sw
namespace Go.Proofs.YtmjebehhpojihaaGreatDoor.Sw
set_option linter.unusedVariables false
set_option linter.unusedSimpArgs false
set_option linter.deprecated false
open Go
theorem bl_pre : ∀ {a b : Str}, a <+: b → a ≠ b → lt8 a b = true := by
  rintro a b ⟨t, rfl⟩ hne
  have ht : t ≠ [] := fun e => hne (by rw [e, List.append_nil])
  have h1 := less_same a [] t
  rw [List.append_nil] at h1
  unfold lt8
  rw [h1]
  cases t with
  | nil => exact absurd rfl ht
  | cons c t => simp [Go.Op.bytesLess]
theorem pOk_head {p : Str} (h : pOk p = true) : ([47] : Str) <+: p := by
  unfold pOk at h
  simp only [Bool.and_eq_true, decide_eq_true_eq] at h
  cases p with
  | nil => simp at h
  | cons c p => obtain rfl : c = 47 := by simpa using h.1
                exact ⟨p, rfl⟩
theorem cut_ok {p : Str} (h : cutErr p = 0) : pOk p = true := by
  cases hp : pOk p with
  | true => rfl
  | false =>
    have : pList p = [] := by unfold pList; rw [hp]; rfl
    exact absurd h (cutErr_90 this)
theorem cut_root : ¬ cutErr [47] = 0 := by decide
theorem cut_ne47 {p : Str} (h : cutErr p = 0) : p ≠ [47] := fun e => cut_root (e ▸ h)
theorem parent_pOk {p : Str} (h : cutErr p = 0) : pOk (parentOf p) = true := pErr_ok.1 (round_p (pErr_ok.2 (cut_ok h)) (cut_ne47 h)).2.1
theorem parent_lt {p : Str} (h : cutErr p = 0) : lt8 (parentOf p) p = true := by
  have hk := pErr_ok.2 (cut_ok h)
  obtain ⟨_, h1, _, _, _, h2, h3⟩ := round_p hk (cut_ne47 h)
  have hne : parentOf p ≠ p := fun e => by rw [e, w_self hk] at h3; cases h3
  refine bl_pre ?_ hne
  unfold withinB at h2
  simp only [Bool.and_eq_true, Bool.or_eq_true, beq_iff_eq] at h2
  rcases h2.2 with e | e | e
  · exact absurd e.symm hne
  · rw [e]; exact pOk_head (cut_ok h)
  · exact (List.prefix_append _ _).trans (List.isPrefixOf_iff_prefix.1 e)
theorem joinC_app (c : UInt8) : ∀ (l : List Str) (x d : Str), joinC c (l ++ [x]) ++ d = joinC c (l ++ [x ++ d])
  | [], x, d => by simp [joinC]
  | [a], x, d => by simp [joinC]
  | a :: b :: l, x, d => by
    have := joinC_app c (b :: l) x d
    simp only [List.cons_append, joinC, List.append_assoc] at this ⊢
    rw [this]
theorem low_no47 : ∀ (k n : Nat), 47 ∉ low k n
  | 0, n => by simp [low]
  | k + 1, n => by
    have hd : ∀ a : Nat, a < 10 → (47 : UInt8) ≠ UInt8.ofNat (48 + a) := by decide
    unfold low
    rw [List.mem_cons, not_or]
    exact ⟨hd _ (Nat.mod_lt _ (by decide)), low_no47 k n⟩
theorem num_parent {p : Str} {n : Int} (h : numE p n = 0) : cutErr (numS p n) = 0 ∧ parentOf (numS p n) = parentOf p ∧ pOk (numS p n) = true := by
  obtain ⟨h0, h1, hs⟩ := num_parts h
  have hok : numOk p n = true := by
    cases hk : numOk p n with
    | true => rfl
    | false => have := (num_no hk).2; rw [h] at this; cases this
  have hne : pList p ≠ [] := by
    unfold numOk at hok
    simp only [Bool.and_eq_true, decide_eq_true_eq] at hok
    exact hok.1
  have hp : pOk p = true := by
    cases hk : pOk p with
    | true => rfl
    | false => exact absurd (by unfold pList; rw [hk]; rfl) hne
  have hq : pOk (numS p n) = true := by
    unfold numE at h
    rw [if_pos hok] at h
    have := pErr_ok.1 h
    unfold numS
    rw [if_pos hok]
    unfold checkedS
    rw [if_pos this]
    exact this
  have hl := last_cat hne
  have hpp := pJoined hp
  have hj : numS p n = joined ((pList p).dropLast ++ [lastOf (pList p) ++ low 5 n.toNat]) := by
    rw [hs]
    conv => lhs; rw [← hpp, ← hl]
    unfold joined
    rw [List.cons_append, joinC_app]
  have hq47 : numS p n ≠ [47] := by
    intro e
    have h2 := num_len h
    rw [e] at h2
    simp at h2
    omega
  have hlist : pList (numS p n) = (pList p).dropLast ++ [lastOf (pList p) ++ low 5 n.toNat] := by
    unfold pList
    rw [if_pos hq, if_neg hq47]
    conv => lhs; rw [hj]
    show splitOn 47 (joinC 47 _) = _
    refine splitOn_joinC 47 _ (by simp) ?_
    intro x hx
    rcases List.mem_append.1 hx with hx | hx
    · exact okPart_no47 (pList_ok p x (List.dropLast_subset _ hx))
    · rw [List.mem_singleton] at hx
      subst hx
      rw [List.mem_append, not_or]
      have hin : lastOf (pList p) ∈ (pList p).dropLast ++ [lastOf (pList p)] := by simp
      rw [hl] at hin
      exact ⟨okPart_no47 (pList_ok p _ hin), low_no47 _ _⟩
  refine ⟨?_, ?_, hq⟩
  · refine cutErr_0 ?_
    rw [hlist]
    simp
  · unfold parentOf
    rw [if_neg hne, if_neg (by rw [hlist]; simp), hlist]
    simp
def NodeOk (k : Int) (ns : List Leaf) (n : Leaf) : Prop :=
  pOk n.Path = true ∧ n.Data.length ≤ 128 ∧ -1 ≤ n.Owner ∧ (0 ≤ n.Version ∧ n.Version ≤ k) ∧ (0 ≤ n.Next ∧ n.Next ≤ k) ∧ 0 ≤ n.Born ∧ (n.Path = [47] ∧ n.Owner = -1 ∧ n.Born = 0 ∨ cutErr n.Path = 0 ∧ ∃ u ∈ ns, u.Path = parentOf n.Path ∧ u.Owner = -1)
structure TreeOk (k : Int) (ns : List Leaf) : Prop where
  sort : SortL ns
  len : ns.length ≤ 32
  root : ∃ r ∈ ns, r.Path = [47]
  node : ∀ n ∈ ns, NodeOk k ns n
theorem TreeOk.mono {k k' : Int} {ns : List Leaf} (H : TreeOk k ns) (h : k ≤ k') : TreeOk k' ns :=
  ⟨H.sort, H.len, H.root, fun n hn => by
    obtain ⟨h1, h2, h3, h4, h5, h6, h7⟩ := H.node n hn
    exact ⟨h1, h2, h3, ⟨h4.1, by omega⟩, ⟨h5.1, by omega⟩, h6, h7⟩⟩
theorem TreeOk.new : TreeOk 0 [⟨[47], [], 0, -1, 0, 0⟩] :=
  ⟨List.pairwise_singleton _ _, by decide, ⟨_, .head _, rfl⟩, fun n hn => by
    rw [List.mem_singleton] at hn
    subst hn
    exact ⟨by decide, by decide, by decide, by decide, by decide, by decide, .inl ⟨rfl, rfl, rfl⟩⟩⟩
theorem TreeOk.b {k : Int} {ns : List Leaf} (H : TreeOk k ns) (hk : k ≤ 1000000) : TreeB ns :=
  ⟨by have := H.len; omega, fun n hn => by
    obtain ⟨h1, h2, h3, h4, h5, h6, h7⟩ := H.node n hn
    exact ⟨pOk_len h1, h2, by omega, by omega⟩⟩
theorem mem_with {ns : List Leaf} {l n : Leaf} : n ∈ withL ns l ↔ n = l ∨ n ∈ ns ∧ n.Path ≠ l.Path := by
  rw [(withL_perm ns l).mem_iff, List.mem_cons]
  unfold delL
  rw [List.mem_filter]
  simp
theorem mem_del {ns : List Leaf} {p : Str} {n : Leaf} : n ∈ delL ns p ↔ n ∈ ns ∧ n.Path ≠ p := by
  unfold delL
  rw [List.mem_filter]
  simp
theorem SortL.uniq {ns : List Leaf} (h : SortL ns) {a b : Leaf} (ha : a ∈ ns) (hb : b ∈ ns) (e : a.Path = b.Path) : a = b := by
  have h1 := findL_of h.nodup ha
  have h2 := findL_of h.nodup hb
  rw [e, h2] at h1
  exact (Option.some.inj h1).symm
theorem delL_len {ns : List Leaf} (hs : SortL ns) {u : Leaf} (hu : u ∈ ns) : (delL ns u.Path).length + 1 = ns.length := by
  have hn := hs.nodup
  clear hs
  induction ns with
  | nil => cases hu
  | cons n ns ih =>
    rw [List.map_cons, List.nodup_cons] at hn
    rcases List.mem_cons.1 hu with rfl | hu
    · have : delL (u :: ns) u.Path = ns := by
        unfold delL
        rw [List.filter_cons]
        simp only [decide_true, Bool.not_true, Bool.false_eq_true, if_false]
        exact delL_none (findL_none.2 fun x hx e => hn.1 (e ▸ List.mem_map.2 ⟨x, hx, rfl⟩))
      rw [this, List.length_cons]
    · have hne : n.Path ≠ u.Path := fun e => hn.1 (e ▸ List.mem_map.2 ⟨u, hu, rfl⟩)
      have : delL (n :: ns) u.Path = n :: delL ns u.Path := by
        unfold delL
        rw [List.filter_cons]
        simp [hne]
      rw [this, List.length_cons, List.length_cons, ih hu hn.2]
theorem withL_len {ns : List Leaf} (hs : SortL ns) {u l : Leaf} (hu : u ∈ ns) (e : l.Path = u.Path) : (withL ns l).length = ns.length := by
  rw [(withL_perm ns l).length_eq, List.length_cons, e, delL_len hs hu]
theorem withL_len1 {ns : List Leaf} {l : Leaf} (h : findL ns l.Path = none) : (withL ns l).length = ns.length + 1 := by
  rw [(withL_perm ns l).length_eq, List.length_cons, delL_none h]
theorem TreeOk.put {k : Int} {ns : List Leaf} (H : TreeOk k ns) {u l : Leaf} (hu : u ∈ ns) (hp : l.Path = u.Path) (ho : l.Owner = u.Owner) (hb : l.Born = u.Born) (hd : l.Data.length ≤ 128) (hv : 0 ≤ l.Version ∧ l.Version ≤ k) (hn : 0 ≤ l.Next ∧ l.Next ≤ k) : TreeOk k (withL ns l) := by
  have hmem : ∀ x ∈ ns, ∃ y ∈ withL ns l, y.Path = x.Path ∧ y.Owner = x.Owner := fun x hx => by
    by_cases e : x.Path = l.Path
    · have : x = u := H.sort.uniq hx hu (e.trans hp)
      subst this
      exact ⟨l, mem_with.2 (.inl rfl), hp, ho⟩
    · exact ⟨x, mem_with.2 (.inr ⟨hx, e⟩), rfl, rfl⟩
  refine ⟨withL_sort H.sort l, by rw [withL_len H.sort hu hp]; exact H.len, ?_, fun n hn' => ?_⟩
  · obtain ⟨r, hr, er⟩ := H.root
    obtain ⟨y, hy, e, _⟩ := hmem r hr
    exact ⟨y, hy, e.trans er⟩
  · have hup : ∀ {q : Str}, (∃ u ∈ ns, u.Path = q ∧ u.Owner = -1) → ∃ u ∈ withL ns l, u.Path = q ∧ u.Owner = -1 := by
      rintro q ⟨x, hx, h1, h2⟩
      obtain ⟨y, hy, e1, e2⟩ := hmem x hx
      exact ⟨y, hy, e1.trans h1, e2.trans h2⟩
    rcases mem_with.1 hn' with rfl | ⟨hn', _⟩
    · obtain ⟨h1, h2, h3, h4, h5, h6, h7⟩ := H.node u hu
      refine ⟨hp ▸ h1, hd, ho ▸ h3, hv, hn, hb ▸ h6, ?_⟩
      rw [hp, ho, hb]
      exact h7.imp id fun h => ⟨h.1, hup h.2⟩
    · obtain ⟨h1, h2, h3, h4, h5, h6, h7⟩ := H.node n hn'
      exact ⟨h1, h2, h3, h4, h5, h6, h7.imp id fun h => ⟨h.1, hup h.2⟩⟩
theorem TreeOk.add {k : Int} {ns : List Leaf} (H : TreeOk k ns) {l : Leaf} (hl : ns.length < 32) (hf : findL ns l.Path = none) (hc : cutErr l.Path = 0) (hu : ∃ u ∈ ns, u.Path = parentOf l.Path ∧ u.Owner = -1) (hd : l.Data.length ≤ 128) (ho : -1 ≤ l.Owner) (hv : 0 ≤ l.Version ∧ l.Version ≤ k) (hn : 0 ≤ l.Next ∧ l.Next ≤ k) (hb : 0 ≤ l.Born) :
    TreeOk k (withL ns l) := by
  have hmem : ∀ x ∈ ns, x ∈ withL ns l := fun x hx => mem_with.2 (.inr ⟨hx, findL_none.1 hf x hx⟩)
  have hup : ∀ {q : Str}, (∃ u ∈ ns, u.Path = q ∧ u.Owner = -1) → ∃ u ∈ withL ns l, u.Path = q ∧ u.Owner = -1 := fun ⟨x, hx, h⟩ => ⟨x, hmem x hx, h⟩
  refine ⟨withL_sort H.sort l, by rw [withL_len1 hf]; omega, ?_, fun n hn' => ?_⟩
  · obtain ⟨r, hr, er⟩ := H.root
    exact ⟨r, hmem r hr, er⟩
  · rcases mem_with.1 hn' with rfl | ⟨hn', _⟩
    · exact ⟨cut_ok hc, hd, ho, hv, hn, hb, .inr ⟨hc, hup hu⟩⟩
    · obtain ⟨h1, h2, h3, h4, h5, h6, h7⟩ := H.node n hn'
      exact ⟨h1, h2, h3, h4, h5, h6, h7.imp id fun h => ⟨h.1, hup h.2⟩⟩
theorem kids_mem {ns : List Leaf} {p q : Str} : q ∈ kidsL ns p ↔ ∃ n ∈ ns, n.Path = q ∧ cutErr q = 0 ∧ parentOf q = p := by
  unfold kidsL kidB
  rw [List.mem_map]
  constructor
  · rintro ⟨n, hn, rfl⟩
    rw [List.mem_filter] at hn
    simp only [Bool.and_eq_true, decide_eq_true_eq] at hn
    exact ⟨n, hn.1, rfl, hn.2⟩
  · rintro ⟨n, hn, rfl, h⟩
    exact ⟨n, List.mem_filter.2 ⟨hn, by simpa using h⟩, rfl⟩
theorem kids_none {ns : List Leaf} {p : Str} (h : kidsL ns p = []) {n : Leaf} (hn : n ∈ ns) (hc : cutErr n.Path = 0) : parentOf n.Path ≠ p := fun e => by
  have : n.Path ∈ kidsL ns p := kids_mem.2 ⟨n, hn, rfl, hc, e⟩
  rw [h] at this
  cases this
theorem TreeOk.del {k : Int} {ns : List Leaf} (H : TreeOk k ns) {p : Str} (hp : p ≠ [47]) (hk : kidsL ns p = []) : TreeOk k (delL ns p) := by
  refine ⟨delL_sort H.sort p, Nat.le_trans (List.length_filter_le _ _) H.len, ?_, fun n hn => ?_⟩
  · obtain ⟨r, hr, er⟩ := H.root
    exact ⟨r, mem_del.2 ⟨hr, er ▸ hp.symm⟩, er⟩
  · obtain ⟨hn, hne⟩ := mem_del.1 hn
    obtain ⟨h1, h2, h3, h4, h5, h6, h7⟩ := H.node n hn
    refine ⟨h1, h2, h3, h4, h5, h6, h7.imp id fun h => ⟨h.1, ?_⟩⟩
    obtain ⟨u, hu, e1, e2⟩ := h.2
    exact ⟨u, mem_del.2 ⟨hu, fun e => kids_none hk hn h.1 (e1.symm.trans e)⟩, e1, e2⟩
theorem wrapI {x : Int} (h0 : -9223372036854775808 ≤ x) (h1 : x ≤ 9223372036854775807) : IntKind.wrap .i64 x = x := by
  have := wrapEq_i64 h0 h1
  injection this
theorem wrapS {x : Int} (h0 : 0 ≤ x) (h1 : x ≤ 1000000) : IntKind.wrap .i64 (x + 1) = x + 1 := wrapI (by omega) (by omega)
section
variable {k : Int} {ns : List Leaf} {p data : Str} {owner born ver : Int} {num : Bool}
theorem make_ok (h : (makeT ns p data owner born num).2.2 = 0) : ∃ up, cutErr p = 0 ∧ data.length ≤ 128 ∧ findL ns (parentOf p) = some up ∧ up.Owner = -1 ∧ makeE up p num = 0 ∧ findL ns (makeN up p num) = none ∧ ns.length < 32 ∧
    makeT ns p data owner born num = (madeL ns up (makeN up p num) data owner born num, makeN up p num, 0) := by
  unfold makeT at h ⊢
  by_cases h1 : cutErr p = 0
  · simp only [h1, ne_eq, not_true_eq_false, if_false] at h ⊢
    by_cases h2 : data.length > 128
    · simp [h2] at h
    · simp only [h2, if_false] at h ⊢
      cases hf : findL ns (parentOf p) with
      | none => simp [hf] at h
      | some up =>
        simp only [hf] at h ⊢
        by_cases h3 : up.Owner = -1
        · simp only [h3, ne_eq, not_true_eq_false, if_false] at h ⊢
          by_cases h4 : makeE up p num = 0
          · simp only [h4, ne_eq, not_true_eq_false, if_false] at h ⊢
            cases hq : findL ns (makeN up p num) with
            | some _ => simp [hq] at h
            | none =>
              simp only [hq] at h ⊢
              by_cases h5 : ns.length ≥ 32
              · simp [h5] at h
              · simp only [h5, if_false]
                exact ⟨up, trivial, by omega, rfl, h3, h4, hq, by omega, rfl⟩
          · simp [h4] at h
        · simp [h3] at h
  · simp [h1] at h
theorem make_no (h : (makeT ns p data owner born num).2.2 ≠ 0) : (makeT ns p data owner born num).1 = ns ∧ (makeT ns p data owner born num).2.1 = [] := by
  unfold makeT at h ⊢
  by_cases h1 : cutErr p = 0
  · simp only [h1, ne_eq, not_true_eq_false, if_false] at h ⊢
    by_cases h2 : data.length > 128
    · simp [h2]
    · simp only [h2, if_false] at h ⊢
      cases hf : findL ns (parentOf p) with
      | none => simp
      | some up =>
        simp only [hf] at h ⊢
        by_cases h3 : up.Owner = -1
        · simp only [h3, ne_eq, not_true_eq_false, if_false] at h ⊢
          by_cases h4 : makeE up p num = 0
          · simp only [h4, ne_eq, not_true_eq_false, if_false] at h ⊢
            cases hq : findL ns (makeN up p num) with
            | some _ => simp
            | none =>
              simp only [hq] at h ⊢
              by_cases h5 : ns.length ≥ 32
              · simp [h5]
              · simp [h5] at h
          · simp [h4]
        · simp [h3]
  · simp [h1]
theorem made_place {up : Leaf} (hc : cutErr p = 0) (he : makeE up p num = 0) : cutErr (makeN up p num) = 0 ∧ parentOf (makeN up p num) = parentOf p := by
  unfold makeE makeN at *
  cases num with
  | false => exact ⟨hc, rfl⟩
  | true =>
    simp only [if_true] at he ⊢
    exact ⟨(num_parent he).1, (num_parent he).2.1⟩
def upL (ns : List Leaf) (up : Leaf) (num : Bool) : List Leaf := withL ns (if num then { up with Next := IntKind.wrap .i64 (up.Next + 1) } else up)
theorem upL_ok (H : TreeOk k ns) (hk : k ≤ 100000) {up : Leaf} (hu : up ∈ ns) : TreeOk (k + 1) (upL ns up num) := by
  obtain ⟨h1, h2, h3, h4, h5, h6, h7⟩ := H.node up hu
  have H1 := H.mono (k' := k + 1) (by omega)
  unfold upL
  cases num with
  | false => exact H1.put hu rfl rfl rfl h2 ⟨h4.1, by show up.Version ≤ k + 1; omega⟩ ⟨h5.1, by show up.Next ≤ k + 1; omega⟩
  | true =>
    simp only [if_true]
    rw [wrapS h5.1 (by omega)]
    exact H1.put hu rfl rfl rfl h2 ⟨h4.1, by show up.Version ≤ k + 1; omega⟩ ⟨by show 0 ≤ up.Next + 1; omega, by show up.Next + 1 ≤ k + 1; omega⟩
theorem upL_none {up : Leaf} {q : Str} (hu : up ∈ ns) (hq : findL ns q = none) : findL (upL ns up num) q = none := by
  rw [findL_none] at hq ⊢
  intro n hn
  unfold upL at hn
  rcases mem_with.1 hn with rfl | ⟨hn, _⟩
  · cases num with
    | false => exact hq up hu
    | true => exact hq up hu
  · exact hq n hn
theorem upL_len (hs : SortL ns) {up : Leaf} (hu : up ∈ ns) : (upL ns up num).length = ns.length := by
  unfold upL
  cases num with
  | false => exact withL_len hs hu rfl
  | true => exact withL_len hs hu rfl
theorem upL_up {up : Leaf} : ∃ u ∈ upL ns up num, u.Path = up.Path ∧ u.Owner = up.Owner := by
  unfold upL
  cases num with
  | false => exact ⟨_, mem_with.2 (.inl rfl), rfl, rfl⟩
  | true => exact ⟨_, mem_with.2 (.inl rfl), rfl, rfl⟩
theorem madeL_eq {up : Leaf} {q : Str} : madeL ns up q data owner born num = withL (upL ns up num) ⟨q, data, 0, max owner (-1), 0, max born 0⟩ := rfl
theorem TreeOk.make (H : TreeOk k ns) (hk : k ≤ 100000) (hk0 : 0 ≤ k) : TreeOk (k + 1) (makeT ns p data owner born num).1 := by
  by_cases h : (makeT ns p data owner born num).2.2 = 0
  · obtain ⟨up, hc, hd, hf, ho, he, hq, hl, e⟩ := make_ok h
    rw [e]
    obtain ⟨hu, hup⟩ := findL_some hf
    show TreeOk (k + 1) (madeL ns up (makeN up p num) data owner born num)
    rw [madeL_eq]
    obtain ⟨h1, h2⟩ := made_place hc he
    refine (upL_ok H hk hu).add (by rw [upL_len H.sort hu]; exact hl) (upL_none hu hq) h1 ?_ hd (Int.le_max_right _ _) ⟨by simp, by simp; omega⟩ ⟨by simp, by simp; omega⟩ (Int.le_max_right _ _)
    obtain ⟨u, hu1, e1, e2⟩ := upL_up (ns := ns) (up := up) (num := num)
    exact ⟨u, hu1, by rw [e1, hup]; exact h2.symm, e2.trans ho⟩
  · rw [(make_no h).1]
    exact H.mono (by omega)
theorem drop_ok (h : (dropT ns p ver).2 = 0) : ∃ l, cutErr p = 0 ∧ findL ns p = some l ∧ kidsL ns p = [] ∧ dropT ns p ver = (delL ns p, 0) := by
  unfold dropT at h ⊢
  by_cases h1 : cutErr p = 0
  · simp only [h1, ne_eq, not_true_eq_false, if_false] at h ⊢
    cases hf : findL ns p with
    | none => simp [hf] at h
    | some l =>
      simp only [hf] at h ⊢
      by_cases h2 : ver ≥ 0 ∧ l.Version ≠ ver
      · rw [if_pos h2] at h; cases h
      · rw [if_neg h2] at h ⊢
        by_cases h3 : kidsL ns p = []
        · exact ⟨l, trivial, rfl, h3, by simp [h3]⟩
        · rw [if_pos h3] at h; cases h
  · simp [h1] at h
theorem drop_no (h : (dropT ns p ver).2 ≠ 0) : (dropT ns p ver).1 = ns := by
  unfold dropT at h ⊢
  split
  · rfl
  · rename_i h1
    rw [if_neg h1] at h
    split
    · rfl
    · rename_i l hf
      simp only [hf] at h
      split
      · rfl
      · rename_i h2
        rw [if_neg h2] at h
        split
        · rfl
        · rename_i h3
          rw [if_neg h3] at h
          exact absurd rfl h
theorem TreeOk.drop (H : TreeOk k ns) : TreeOk k (dropT ns p ver).1 := by
  by_cases h : (dropT ns p ver).2 = 0
  · obtain ⟨l, hc, hf, hk, e⟩ := drop_ok h
    rw [e]
    exact H.del (cut_ne47 hc) hk
  · rw [drop_no h]; exact H
theorem TreeOk.set (H : TreeOk k ns) (hk : k ≤ 100000) : TreeOk (k + 1) (setT ns p data ver).1 := by
  have H1 := H.mono (k' := k + 1) (by omega)
  unfold setT
  split
  · exact H1
  · split
    · exact H1
    · rename_i l hf
      split
      · exact H1
      · split
        · exact H1
        · rename_i hd
          obtain ⟨hu, _⟩ := findL_some hf
          obtain ⟨h1, h2, h3, h4, h5, h6, h7⟩ := H.node l hu
          rw [wrapS h4.1 (by omega)]
          exact H1.put hu rfl rfl rfl (by show data.length ≤ 128; omega) ⟨by show 0 ≤ l.Version + 1; omega, by show l.Version + 1 ≤ k + 1; omega⟩ ⟨h5.1, by show l.Next ≤ k + 1; omega⟩
end
section
variable {k : Int} {ns : List Leaf}
theorem TreeOk.kid_up (H : TreeOk k ns) {p : Str} (h : kidsL ns p ≠ []) : findE ns p = 0 ∧ ∃ u, findL ns p = some u ∧ u.Owner = -1 := by
  obtain ⟨q, hq⟩ := List.exists_mem_of_ne_nil _ h
  obtain ⟨n, hn, rfl, hc, rfl⟩ := kids_mem.1 hq
  obtain ⟨_, _, _, _, _, _, h7⟩ := H.node n hn
  rcases h7 with ⟨e, _⟩ | ⟨_, u, hu, e1, e2⟩
  · exact absurd e (cut_ne47 hc)
  · have hf : findL ns (parentOf n.Path) = some u := by rw [← e1]; exact findL_of H.sort.nodup hu
    exact ⟨findE_3 (pErr_ok.2 (parent_pOk hc)) hf, u, hf, e2⟩
theorem TreeOk.find (H : TreeOk k ns) {n : Leaf} (hn : n ∈ ns) : findE ns n.Path = 0 := findE_3 (pErr_ok.2 (H.node n hn).1) (findL_of H.sort.nodup hn)
theorem TreeOk.get (H : TreeOk k ns) {n : Leaf} (hn : n ∈ ns) : getT ns n.Path = (n, 0) := getT_2 (H.find hn) (findL_of H.sort.nodup hn)
end
end Go.Proofs.YtmjebehhpojihaaGreatDoor.Sw
namespace Go.Proofs.YtmjebehhpojihaaGreatDoor.Sw
open Go
set_option maxRecDepth 100000
set_option linter.unusedVariables false
set_option linter.unusedSimpArgs false
set_option linter.deprecated false
theorem drop_kids0 {full ks : List Str} (h : full.Perm ks) (hf : [] = full) : ks = [] := by subst hf; exact h.symm.eq_nil
theorem drop_kids1 {full ks : List Str} {x : Str} {xs : List Str} (h : full.Perm ks) (hp : x :: xs <+: full) : ks ≠ [] := by
 rintro rfl
 have h1 := hp.length_le
 rw [h.length_eq] at h1
 simp at h1
def dropPend {α : Type} (xs : List α) : Option Code := if xs.isEmpty = true then none else some .ret
theorem dropPend_0 {α : Type} {xs : List α} (h : xs.isEmpty = true) : dropPend xs = none := by unfold dropPend; rw [if_pos h]
theorem dropPend_1 {α : Type} (xs : List α) (x : α) : dropPend (xs ++ [x]) = some .ret := by unfold dropPend; rw [if_neg]; simp
theorem drop_go {α : Type} (xs : List α) (x : α) : Value.bool (some Code.ret : Option Code).isNone = Value.bool (xs ++ [x]).isEmpty := by simp
theorem dropT_1 {ns : List Leaf} {p : Str} {ver : Int} (h : ¬ cutErr p = 0) : dropT ns p ver = (ns, cutErr p) := by unfold dropT; rw [if_pos h]
theorem dropT_0 {ns : List Leaf} {p : Str} {ver : Int} (h : cutErr p = 0) (hp : pErr p = 0) (hv : verE ns p ver ≠ 0) : dropT ns p ver = (ns, verE ns p ver) := by
 unfold verE findE at *; unfold dropT
 simp only [h, hp, ne_eq, not_true_eq_false, if_false] at *
 cases hf : findL ns p with
 | none => simp [hf]
 | some l => simp only [hf] at *; split at hv <;> simp_all
theorem dropT_2 {ns : List Leaf} {p : Str} {ver : Int} {l : Leaf} (h : cutErr p = 0) (hv : verE ns p ver = 0) (hf : findL ns p = some l) : dropT ns p ver = if kidsL ns p ≠ [] then (ns, 103) else (delL ns p, 0) := by
 obtain ⟨_, h2⟩ := setT_2 hv hf
 unfold dropT
 rw [if_neg (by simpa using h), hf]
 simp only []
 rw [if_neg h2]
theorem dropF (B : World) (h : Heap) (g : GH) (hg : Sub g h) (hG : Glob g) (b_t : Nat) (t : List Leaf) (c_t : Chunk) (o_t : IsTree g b_t t c_t) (p : List UInt8) (ver : Int) (hB : TreeB t) (hp : p.length ≤ 1000000000) (hs : St h g (ids [c_t]) g [c_t] h) :
  Spec Tryz.prog B 33 #[.pointer (some ⟨b_t, 0, none⟩), .string (mkS p), .int .i64 ver] h g [c_t] (fun rv g' L' => ∃ k_t, rv = .int .i64 ((dropT t p ver).2) ∧ IsTree g' b_t ((dropT t p ver).1) k_t ∧ g' = g ∧ L' = [k_t]) := by
 refine Spec.of_at (f := Tryz.f33) (e := [(0, .pointer (some ⟨b_t, 0, none⟩)), (1, .string (mkS p)), (2, .int .i64 ver)]) Tryz.func33 (by kernel_rfl) (Nat.le_of_ble_eq_true (by kernel_rfl)) (by kernel_rfl) (by kernel_rfl) ?_
 intro R hR
 refine At.reg (L := [(0, false)]) (by kernel_rfl) ?_
 refine Op.alloc (T := 24) (dst := 6) (cs := #[.int .i64 0]) (by kernel_rfl) (by kernel_rfl) hs ?_
 intro b1001 h1002 s1003
 refine Op.goto 1 (by kernel_rfl) ?_
 refine At.reg (L := [(0, false), (1, false), (2, false), (3, false), (4, false), (5, false), (6, false)]) (by kernel_rfl) ?_
 refine Op.pures 1 [0, 1, 2, 6, 12] (L' := [(1, false), (2, false), (3, false), (4, false), (5, false), (6, false)]) (e' := [(0, .pointer (some ⟨b_t, 0, none⟩)), (1, .string (mkS p)), (2, .int .i64 ver), (6, .pointer (some ⟨b1001, 0, none⟩)), (12, .string (mkS p))]) (by kernel_rfl) ?_
 refine Op.call0 (dst := some 13) (f := 36) (args := #[.string (mkS p)]) (by kernel_rfl) s1003 (parentP _ _ _ s1003.sub hG p (by ((try dsimp only) <;> (omega))) ) ?_
 rintro _ g1006 _ h1004 hle1007 s1005 ⟨rfl, hgg, rfl⟩; subst g1006; clear hle1007
 refine Op.pures 5 [0, 1, 2, 6, 8] (L' := []) (e' := [(0, .pointer (some ⟨b_t, 0, none⟩)), (1, .string (mkS p)), (2, .int .i64 ver), (6, .pointer (some ⟨b1001, 0, none⟩)), (8, .int .i64 (cutErr p))]) (by kernel_rfl) ?_
 refine Op.goto 2 (by kernel_rfl) ?_
 refine At.reg (L := [(0, false), (1, false)]) (by kernel_rfl) ?_
 refine Op.pures 2 [0, 1, 2, 6, 8, 17] (L' := []) (e' := [(0, .pointer (some ⟨b_t, 0, none⟩)), (1, .string (mkS p)), (2, .int .i64 ver), (6, .pointer (some ⟨b1001, 0, none⟩)), (8, .int .i64 (cutErr p)), (17, .bool ((cutErr p) != (0 : Int)))]) (by kernel_rfl) ?_
 refine Op.goto 3 (by kernel_rfl) ?_
 refine At.cond (b := (cutErr p) != (0 : Int)) (c := .tmp 17) (by kernel_rfl) (by kernel_rfl) (by kernel_rfl) 4 6 (by kernel_rfl) (by kernel_rfl) (fun hb => ?_) (fun hb => ?_)
 ·have c1008 : ¬ ((cutErr p) = (0 : Int)) := bneT hb
  clear hb
  refine At.keep [6, 8] ?_; show At _ _ _ [(6, .pointer (some ⟨b1001, 0, none⟩)), (8, .int .i64 (cutErr p))] _
  refine At.reg (L := [(0, false), (1, false)]) (by kernel_rfl) ?_
  refine Op.pures 1 [6, 18] (L' := [(1, false)]) (e' := [(6, .pointer (some ⟨b1001, 0, none⟩)), (18, .int .i64 (cutErr p))]) (by kernel_rfl) ?_
  refine Op.store (T := 24) (x := (.tmp 6)) (y := (.tmp 18)) (b := b1001) (o := 0) (vs := [.int .i64 (cutErr p)]) (a? := false) (n := 1) (by kernel_rfl) (by kernel_rfl) (by kernel_rfl) (by kernel_rfl) rfl (by simp [Value.oneCell']) s1005 0 rfl (Nat.le_of_ble_eq_true (by kernel_rfl)) (cs := #[.int .i64 0]) (cs' := #[.int .i64 (cutErr p)]) (by kernel_rfl) (fun _ => trivial) ?_
  intro h1009 s1010
  refine Op.goto 5 (by kernel_rfl) ?_
  refine At.retM (f := Tryz.f33) (vs := [.int .i64 (cutErr p)]) (rl := [.cell 6 24]) (v := .int .i64 (cutErr p)) (by kernel_rfl) (by kernel_rfl) ⟨⟨_, _, rfl, resOne (n := 1) (by kernel_rfl) (s1010.chunk 0 rfl) (by kernel_rfl)⟩, trivial⟩ rfl ?_
  have s1011 : St h g (ids [c_t]) g [c_t] h1009 := (s1010).drop
  refine hR _ _ _ _ s1011 ⟨c_t, ?_, ?_, rfl, rfl⟩
  ·exact (eqI (by (rw [dropT_1 (by assumption)]; done)))
  ·exact o_t.eq (by (rw [dropT_1 (by assumption)]; done))
 ·have c1012 : (cutErr p) = (0 : Int) := bneF hb
  clear hb
  refine At.keep [0, 1, 2, 6] ?_; show At _ _ _ [(0, .pointer (some ⟨b_t, 0, none⟩)), (1, .string (mkS p)), (2, .int .i64 ver), (6, .pointer (some ⟨b1001, 0, none⟩))] _
  refine At.reg (L := [(0, false), (1, false), (2, false), (3, false), (4, false), (5, false), (6, false), (7, false), (8, false)]) (by kernel_rfl) ?_
  refine Op.pures 3 [0, 1, 6, 20, 21, 22] (L' := [(3, false), (4, false), (5, false), (6, false), (7, false), (8, false)]) (e' := [(0, .pointer (some ⟨b_t, 0, none⟩)), (1, .string (mkS p)), (6, .pointer (some ⟨b1001, 0, none⟩)), (20, .pointer (some ⟨b_t, 0, none⟩)), (21, .string (mkS p)), (22, .int .i64 ver)]) (by kernel_rfl) ?_
  have s1013 : St h g (ids [c_t]) g [c_t, [(b1001, Obj.cells #[.int .i64 0] 24 (0, 0))]] h1004 := ((s1005.front 0 rfl).front 1 rfl)
  have hl1014 := s1013.frzle
  have hz1015 := IsTree.frz o_t s1013 (by intro p hp; simp only [List.mem_append, hp, true_or, or_true])
  refine Op.lend (dst := some 23) (f := 79) (args := #[.pointer (some ⟨b_t, 0, none⟩), .string (mkS p), .int .i64 ver]) (cf := (c_t : Chunk)) (Lc := []) (L := [[(b1001, Obj.cells #[.int .i64 0] 24 (0, 0))]]) (by kernel_rfl) s1013 (verT _ _ _ s1013.frzsub (hG.mono hl1014) b_t t hz1015 p ver (by ((try dsimp only) <;> (omega))) ) (fun _ _ _ hp => by obtain ⟨hgg, _, _⟩ := hp; exact hgg) (fun _ _ h => absurd h (ids_nil _)) ?_
  rintro v1018 _ h1016 s1017 ⟨hgg, rfl, hp1019⟩; clear hgg
  rcases hp1019 with ⟨rfl, hne1022⟩ | ⟨b1023, l1024, v1025, mb1026, rfl, hE1027, hF1028, hbt1029, hb1030, hd1031, ha1032⟩
  ·have k1033 : ((verE t p ver) != (0 : Int)) = true := bne_iff_ne.2 hne1022
   have k1034 : ((verE t p ver) == (0 : Int)) = false := beq_eq_false_iff_ne.2 hne1022
   refine Op.pures 5 [0, 1, 6, 10] (L' := []) (e' := [(0, .pointer (some ⟨b_t, 0, none⟩)), (1, .string (mkS p)), (6, .pointer (some ⟨b1001, 0, none⟩)), (10, .int .i64 (verE t p ver))]) (by kernel_rfl) ?_
   refine Op.goto 7 (by kernel_rfl) ?_
   refine At.reg (L := [(0, false), (1, false)]) (by kernel_rfl) ?_
   refine Op.pures 2 [0, 1, 6, 10, 27] (L' := []) (e' := [(0, .pointer (some ⟨b_t, 0, none⟩)), (1, .string (mkS p)), (6, .pointer (some ⟨b1001, 0, none⟩)), (10, .int .i64 (verE t p ver)), (27, .bool ((verE t p ver) != (0 : Int)))]) (by kernel_rfl) ?_
   refine Op.goto 8 (by kernel_rfl) ?_
   refine At.cond (b := (verE t p ver) != (0 : Int)) (c := .tmp 27) (by kernel_rfl) (by kernel_rfl) (by kernel_rfl) 9 11 (by kernel_rfl) (by kernel_rfl) (fun hb => ?_) (fun hb => ?_)
   ·have c1035 : ¬ ((verE t p ver) = (0 : Int)) := bneT hb
    clear hb
    refine At.keep [6, 10] ?_; show At _ _ _ [(6, .pointer (some ⟨b1001, 0, none⟩)), (10, .int .i64 (verE t p ver))] _
    refine At.reg (L := [(0, false), (1, false)]) (by kernel_rfl) ?_
    refine Op.pures 1 [6, 28] (L' := [(1, false)]) (e' := [(6, .pointer (some ⟨b1001, 0, none⟩)), (28, .int .i64 (verE t p ver))]) (by kernel_rfl) ?_
    refine Op.store (T := 24) (x := (.tmp 6)) (y := (.tmp 28)) (b := b1001) (o := 0) (vs := [.int .i64 (verE t p ver)]) (a? := false) (n := 1) (by kernel_rfl) (by kernel_rfl) (by kernel_rfl) (by kernel_rfl) rfl (by simp [Value.oneCell']) s1017 1 rfl (Nat.le_of_ble_eq_true (by kernel_rfl)) (cs := #[.int .i64 0]) (cs' := #[.int .i64 (verE t p ver)]) (by kernel_rfl) (fun _ => trivial) ?_
    intro h1036 s1037
    refine Op.goto 10 (by kernel_rfl) ?_
    refine At.retM (f := Tryz.f33) (vs := [.int .i64 (verE t p ver)]) (rl := [.cell 6 24]) (v := .int .i64 (verE t p ver)) (by kernel_rfl) (by kernel_rfl) ⟨⟨_, _, rfl, resOne (n := 1) (by kernel_rfl) (s1037.chunk 1 rfl) (by kernel_rfl)⟩, trivial⟩ rfl ?_
    have s1038 : St h g (ids [c_t]) g [[(b1001, Obj.cells #[.int .i64 (verE t p ver)] 24 (0, 0))], c_t] h1036 := ((s1037.front 0 rfl).front 1 rfl)
    have s1039 : St h g (ids [c_t]) g [c_t] h1036 := (s1038).drop
    refine hR _ _ _ _ s1039 ⟨c_t, ?_, ?_, rfl, rfl⟩
    ·exact (eqI (by (rw [dropT_0 (by assumption) (pErr_ok.2 (cut_ok (by assumption))) (by assumption)]; done)))
    ·exact o_t.eq (by (rw [dropT_0 (by assumption) (pErr_ok.2 (cut_ok (by assumption))) (by assumption)]; done))
   ·exact Bool.noConfusion (k1033.symm.trans hb)
  ·refine Op.pures 5 [0, 1, 6, 10] (L' := []) (e' := [(0, .pointer (some ⟨b_t, 0, none⟩)), (1, .string (mkS p)), (6, .pointer (some ⟨b1001, 0, none⟩)), (10, .int .i64 0)]) (by kernel_rfl) ?_
   refine Op.goto 7 (by kernel_rfl) ?_
   refine At.reg (L := [(0, false), (1, false)]) (by kernel_rfl) ?_
   refine Op.pures 2 [0, 1, 6, 10, 27] (L' := []) (e' := [(0, .pointer (some ⟨b_t, 0, none⟩)), (1, .string (mkS p)), (6, .pointer (some ⟨b1001, 0, none⟩)), (10, .int .i64 0), (27, .bool false)]) (by kernel_rfl) ?_
   refine Op.goto 8 (by kernel_rfl) ?_
   refine At.condF (c := .tmp 27) (by kernel_rfl) (by kernel_rfl) (by kernel_rfl) 11 (by kernel_rfl) ?_
   have hz1040 := IsTree.frz o_t s1017 (fun p hp => hp)
   have s1041 := s1017.freeze.1
   have hle1042 := s1017.freeze.2
   replace hG := hG.mono hle1042
   refine At.reg (L := [(0, false), (1, false), (2, false)]) (by kernel_rfl) ?_
   refine Op.pures 2 [0, 1, 6, 29, 30] (L' := [(2, false)]) (e' := [(0, .pointer (some ⟨b_t, 0, none⟩)), (1, .string (mkS p)), (6, .pointer (some ⟨b1001, 0, none⟩)), (29, .pointer (some ⟨b_t, 0, none⟩)), (30, .string (mkS p))]) (by kernel_rfl) ?_
   refine Op.call0 (dst := some 31) (f := 80) (args := #[.pointer (some ⟨b_t, 0, none⟩), .string (mkS p)]) (by kernel_rfl) s1041 (kidsF _ _ _ s1041.sub hG b_t t hz1040 p  ) ?_
   rintro _ g1049 _ h1043 hle1050 s1044 ⟨f1045, cp1046, rfl, e1047, hq1048, rfl⟩
   replace hG := hG.mono hle1050
   replace hz1040 := hz1040.mono hle1050
   refine Op.goto 12 (by kernel_rfl) ?_
   refine At.keep [0, 1, 6, 31] ?_; show At _ _ _ [(0, .pointer (some ⟨b_t, 0, none⟩)), (1, .string (mkS p)), (6, .pointer (some ⟨b1001, 0, none⟩)), (31, .func (.func f1045) #[] cp1046)] _
   refine At.rangeFunc (x := (.tmp 31)) (f := f1045) (cp := cp1046) (by kernel_rfl) rfl (by kernel_rfl) (by kernel_rfl) e1047 s1044 ?_
   intro r1051 l1052 tm1053 h1054 ft1055 s1056
   have s1057 : St h g (ids [c_t]) g1049 [[(l1052, .loop (mkL (mkQ 33 tm1053 (pt (codeOf Tryz.f33) 12) r1051) none))], [(b1001, Obj.cells #[.int .i64 0] 24 (0, 0))], [(r1051, .deferred (some []))]] h1054 := (((s1056.front 1 rfl).front 2 rfl).front 2 rfl)
   have s1058 : St h g (ids [c_t]) g1049 [(([(l1052, .loop (mkL (mkQ 33 tm1053 (pt (codeOf Tryz.f33) 12) r1051) none))] : Chunk) ++ ([(b1001, Obj.cells #[.int .i64 0] 24 (0, 0))] : Chunk) : Chunk), [(r1051, .deferred (some []))]] h1054 := St.flat (L := [[(l1052, .loop (mkL (mkQ 33 tm1053 (pt (codeOf Tryz.f33) 12) r1051) none))], [(b1001, Obj.cells #[.int .i64 0] 24 (0, 0))], [(r1051, .deferred (some []))]]) (by simp only [List.flatten_cons, List.flatten_nil, List.append_assoc, List.cons_append, List.nil_append, List.append_nil]) s1057
   obtain ⟨I1059, hI1060⟩ : ∃ I : List Str → GH → Chunk → Prop, I = (fun xs g2 c2 => ∃ (rc : Int), c2 = (([(l1052, .loop (mkL (mkQ 33 tm1053 (pt (codeOf Tryz.f33) 12) r1051) (dropPend xs)))] : Chunk) ++ ([(b1001, Obj.cells #[.int .i64 rc] 24 (0, 0))] : Chunk) : Chunk) ∧ (xs ≠ [] → rc = 103)) := ⟨_, rfl⟩
   have hY1061 : Yld Tryz.prog B l1052 enS (fun full => full.Perm (kidsL t p)) (fun xs => xs.isEmpty) I1059 g1049 := by
    intro h1062 g1063 xs1064 x1065 args1066 c1067 hgg1068 hG1069 hgo1070 hen1071 hfp1072 hI1073 hs1074
    rw [hI1060] at hI1073
    obtain ⟨rc1075, rfl, hrc1076⟩ := hI1073
    obtain rfl := hen1071
    rw [show (dropPend xs1064) = none from by exact dropPend_0 hgo1070] at hs1074 ⊢
    have s1077 : St h1062 g1063 (ids [(([(l1052, .loop (mkL (mkQ 33 tm1053 (pt (codeOf Tryz.f33) 12) r1051) none))] : Chunk) ++ ([(b1001, Obj.cells #[.int .i64 rc1075] 24 (0, 0))] : Chunk) : Chunk)]) g1063 [[(l1052, .loop (mkL (mkQ 33 tm1053 (pt (codeOf Tryz.f33) 12) r1051) none))], [(b1001, Obj.cells #[.int .i64 rc1075] 24 (0, 0))]] h1062 := St.flat (by simp only [List.flatten_cons, List.flatten_nil, List.append_assoc, List.cons_append, List.nil_append, List.append_nil]) hs1074
    replace hG := hG.mono hgg1068
    replace hq1048 := hq1048.mono hgg1068
    replace hz1040 := hz1040.mono hgg1068
    refine YSpec.of_at (n := Tryz.f33.ntmps) (e0 := [(0, .pointer (some ⟨b_t, 0, none⟩)), (1, .string (mkS p)), (6, .pointer (some ⟨b1001, 0, none⟩)), (31, .func (.func f1045) #[] cp1046)]) (e := [(32, .string (mkS x1065)), (0, .pointer (some ⟨b_t, 0, none⟩)), (1, .string (mkS p)), (6, .pointer (some ⟨b1001, 0, none⟩)), (31, .func (.func f1045) #[] cp1046)]) (s1077.chunk 0 rfl) ft1055 (by kernel_rfl) (by kernel_rfl) (by kernel_rfl) (by kernel_rfl) ?_
    intro R2 hR2
    refine At.beginRound rfl (by kernel_rfl) s1077 0 rfl 1 (by kernel_rfl) ?_
    intro h1078 s1079
    refine At.reg (L := [(0, false)]) (by kernel_rfl) ?_
    refine Op.store (T := 24) (x := (.tmp 6)) (y := (.const (.int .i64 103))) (b := b1001) (o := 0) (vs := [.int .i64 103]) (a? := false) (n := 1) (by kernel_rfl) (by kernel_rfl) (by kernel_rfl) (by kernel_rfl) rfl (by simp [Value.oneCell']) s1079 1 rfl (Nat.le_of_ble_eq_true (by kernel_rfl)) (cs := #[.int .i64 rc1075]) (cs' := #[.int .i64 103]) (by kernel_rfl) (fun _ => trivial) ?_
    intro h1080 s1081
    refine Op.goto 2 (by kernel_rfl) ?_
    refine At.roundEnd (j := (some .ret)) (by kernel_rfl) s1081 0 rfl ?_
    intro h1082 s1083
    have s1084 : St h1062 g1063 (ids [(([(l1052, .loop (mkL (mkQ 33 tm1053 (pt (codeOf Tryz.f33) 12) r1051) none))] : Chunk) ++ ([(b1001, Obj.cells #[.int .i64 rc1075] 24 (0, 0))] : Chunk) : Chunk)]) g1063 [(([(l1052, .loop (mkL (mkQ 33 tm1053 (pt (codeOf Tryz.f33) 12) r1051) (some .ret)))] : Chunk) ++ ([(b1001, Obj.cells #[.int .i64 103] 24 (0, 0))] : Chunk) : Chunk)] h1082 := St.flat (L := [[(l1052, .loop (mkL (mkQ 33 tm1053 (pt (codeOf Tryz.f33) 12) r1051) (some .ret)))], [(b1001, Obj.cells #[.int .i64 103] 24 (0, 0))]]) (by simp only [List.flatten_cons, List.flatten_nil, List.append_assoc, List.cons_append, List.nil_append, List.append_nil]) s1083
    refine hR2 _ _ _ _ s1084 ⟨_, by exact drop_go _ _, rfl, ?_⟩
    rw [← dropPend_1 xs1064 x1065]
    rw [hI1060]; exact ⟨103, rfl, (by exact fun _ => rfl)⟩
   refine AtIn.call (Lc := [(([(l1052, .loop (mkL (mkQ 33 tm1053 (pt (codeOf Tryz.f33) 12) r1051) none))] : Chunk) ++ ([(b1001, Obj.cells #[.int .i64 0] 24 (0, 0))] : Chunk) : Chunk)]) (L := [[(r1051, .deferred (some []))]]) s1058 (hq1048 B _ _ _ I1059 (fun xs => xs.isEmpty) _ (gle.refl _) s1058.sub hG hY1061 rfl (by rw [hI1060]; exact ⟨0, rfl, (by exact fun h => absurd rfl h)⟩) (St.part (Lc := [(([(l1052, .loop (mkL (mkQ 33 tm1053 (pt (codeOf Tryz.f33) 12) r1051) none))] : Chunk) ++ ([(b1001, Obj.cells #[.int .i64 0] 24 (0, 0))] : Chunk) : Chunk)]) (L := [[(r1051, .deferred (some []))]]) s1058)) ?_
   rintro _ g1085 _ h1086 hle1087 s1088 ⟨full1089, xs1090, c1091, rfl, ho1092, hp1093, hf1094, hpr1095, rfl, hI1096⟩
   replace hG := hG.mono hle1087
   replace hq1048 := hq1048.mono hle1087
   replace hz1040 := hz1040.mono hle1087
   rcases xs1090 with _ | ⟨x0, xs0⟩
   ·have hkid : kidsL t p = [] := drop_kids0 ho1092 (hf1094 rfl)
    rw [hI1060] at hI1096
    obtain ⟨rc1097, rfl, hrc1098⟩ := hI1096
    rw [show (dropPend []) = none from by rfl] at s1088
    have s1099 : St h g (ids [c_t]) g1085 [[(l1052, .loop (mkL (mkQ 33 tm1053 (pt (codeOf Tryz.f33) 12) r1051) none))], [(b1001, Obj.cells #[.int .i64 rc1097] 24 (0, 0))], [(r1051, .deferred (some []))]] h1086 := St.flat (by simp only [List.flatten_cons, List.flatten_nil, List.append_assoc, List.cons_append, List.nil_append, List.append_nil]) s1088
    refine AtI.endLoop (j := none) s1099 0 rfl ?_
    intro h1100 s1101
    have s1102 := s1101.drop
    refine AtI.at_ 13 (by kernel_rfl) ?_
    have s1103 : St h g (ids [c_t]) g (c_t :: [[(b1001, Obj.cells #[.int .i64 rc1097] 24 (0, 0))], [(r1051, .deferred (some []))]]) h1100 := s1017.thaw (s1102.forget (gle.trans s1017.le s1017.frzle) (by repeat (first | assumption | exact gle.refl _ | apply gle.trans)))
    refine At.reg (L := [(0, false), (1, false), (2, false), (3, false), (4, false), (5, false)]) (by kernel_rfl) ?_
    refine Op.pures 3 [1, 6, 35] (L' := [(3, false), (4, false), (5, false)]) (e' := [(1, .string (mkS p)), (6, .pointer (some ⟨b1001, 0, none⟩)), (35, .pointer (some ⟨b_t, 0, none⟩))]) (by kernel_rfl) ?_
    obtain ⟨b1104, c1105, e1106, R1107⟩ := o_t
    have s1108 : St h g (ids [c_t]) g [[(b_t, Obj.cells #[.map (some b1104)] 128 (0, 0))], c1105, [(b1001, Obj.cells #[.int .i64 rc1097] 24 (0, 0))], [(r1051, .deferred (some []))]] h1100 := St.flat (L := [c_t, [(b1001, Obj.cells #[.int .i64 rc1097] 24 (0, 0))], [(r1051, .deferred (some []))]]) (by rw [e1106]; simp only [List.flatten_cons, List.append_assoc, List.cons_append, List.nil_append, List.append_nil]) s1103
    refine Op.load (T := 126) (x := (.tmp 35)) (o := 0) (d := 36) (n := 1) (v := .map (some b1104)) (by kernel_rfl) (by kernel_rfl) (by kernel_rfl) (s1108.chunk 0 rfl) (by kernel_rfl) ?_
    refine Op.pures 1 [6, 36, 37] (L' := [(5, false)]) (e' := [(6, .pointer (some ⟨b1001, 0, none⟩)), (36, .map (some b1104)), (37, .string (mkS p))]) (by kernel_rfl) ?_
    have s1109 : St h g (ids [c_t]) g [c1105, [(b_t, Obj.cells #[.map (some b1104)] 128 (0, 0))], [(b1001, Obj.cells #[.int .i64 rc1097] 24 (0, 0))], [(r1051, .deferred (some []))]] h1100 := ((s1108.front 0 rfl).front 1 rfl)
    obtain ⟨es1110, clk1111, ks1112, F1113, hp1114, hR1115, hO1116⟩ := IsLm.open_ R1107
    have s1117 : St h g (ids [c_t]) g ([(b1104, .map es1110 clk1111)] :: F1113 :: [[(b_t, Obj.cells #[.map (some b1104)] 128 (0, 0))], [(b1001, Obj.cells #[.int .i64 rc1097] 24 (0, 0))], [(r1051, .deferred (some []))]]) h1100 := St.permF (L := c1105 :: [[(b_t, Obj.cells #[.map (some b1104)] 128 (0, 0))], [(b1001, Obj.cells #[.int .i64 rc1097] 24 (0, 0))], [(r1051, .deferred (some []))]]) (hp1114.append_right _) s1109
    obtain ⟨F1118, D1119, hpF1120, hO1121⟩ := hO1116.del p
    refine Op.mapDel (d := .string) (z := .pointer none) (mt := 126) (kt := 9) (x := (.tmp 36)) (ix := (.tmp 37)) (dst := none) (k := p) (by kernel_rfl) (by kernel_rfl) keyS (by kernel_rfl) (by kernel_rfl) s1117 0 rfl hR1115 (fun _ => trivial) ?_
    intro es1123 h1124 hR1125 s1126
    have s1127 : St h g (ids [c_t]) g [F1113, [(b1104, .map es1123 clk1111)], [(b_t, Obj.cells #[.map (some b1104)] 128 (0, 0))], [(b1001, Obj.cells #[.int .i64 rc1097] 24 (0, 0))], [(r1051, .deferred (some []))]] h1124 := ((s1126.front 0 rfl).front 1 rfl)
    have s1122 : St h g (ids [c_t]) g [F1118, D1119, [(b1104, .map es1123 clk1111)], [(b_t, Obj.cells #[.map (some b1104)] 128 (0, 0))], [(b1001, Obj.cells #[.int .i64 rc1097] 24 (0, 0))], [(r1051, .deferred (some []))]] h1124 := St.permF (L := F1113 :: [[(b1104, .map es1123 clk1111)], [(b_t, Obj.cells #[.map (some b1104)] 128 (0, 0))], [(b1001, Obj.cells #[.int .i64 rc1097] 24 (0, 0))], [(r1051, .deferred (some []))]]) (by have hq := hpF1120.append_right (List.flatten [[(b1104, .map es1123 clk1111)], [(b_t, Obj.cells #[.map (some b1104)] 128 (0, 0))], [(b1001, Obj.cells #[.int .i64 rc1097] 24 (0, 0))], [(r1051, .deferred (some []))]]); simpa only [List.flatten_cons, List.flatten_nil, List.append_assoc, List.cons_append, List.nil_append, List.append_nil] using hq) s1127
    refine Op.goto 14 (by kernel_rfl) ?_
    refine At.reg (L := [(0, false)]) (by kernel_rfl) ?_
    refine Op.store (T := 24) (x := (.tmp 6)) (y := (.const (.int .i64 0))) (b := b1001) (o := 0) (vs := [.int .i64 0]) (a? := false) (n := 1) (by kernel_rfl) (by kernel_rfl) (by kernel_rfl) (by kernel_rfl) rfl (by simp [Value.oneCell']) s1122 4 rfl (Nat.le_of_ble_eq_true (by kernel_rfl)) (cs := #[.int .i64 rc1097]) (cs' := #[.int .i64 0]) (by kernel_rfl) (fun _ => trivial) ?_
    intro h1128 s1129
    refine Op.goto 15 (by kernel_rfl) ?_
    have s1130 : St h g (ids [c_t]) g [[(b1104, .map es1123 clk1111)], F1118, D1119, [(b_t, Obj.cells #[.map (some b1104)] 128 (0, 0))], [(b1001, Obj.cells #[.int .i64 0] 24 (0, 0))], [(r1051, .deferred (some []))]] h1128 := (((s1129.front 1 rfl).front 1 rfl).front 2 rfl)
    obtain ⟨c1131, o1132, s1133⟩ : ∃ c, IsLm g b1104 (delL t p) c ∧ St h g (ids [c_t]) g (c :: [D1119, [(b_t, Obj.cells #[.map (some b1104)] 128 (0, 0))], [(b1001, Obj.cells #[.int .i64 0] 24 (0, 0))], [(r1051, .deferred (some []))]]) h1128 := ⟨_, hO1121.close hR1125 (List.Perm.refl _), St.flat (L := [(b1104, .map es1123 clk1111)] :: F1118 :: [D1119, [(b_t, Obj.cells #[.map (some b1104)] 128 (0, 0))], [(b1001, Obj.cells #[.int .i64 0] 24 (0, 0))], [(r1051, .deferred (some []))]]) (by simp only [List.flatten_cons, List.append_assoc, List.cons_append, List.nil_append, List.append_nil]) s1130⟩
    have s1134 : St h g (ids [c_t]) g [[(b_t, Obj.cells #[.map (some b1104)] 128 (0, 0))], c1131, D1119, [(b1001, Obj.cells #[.int .i64 0] 24 (0, 0))], [(r1051, .deferred (some []))]] h1128 := (((s1133.front 1 rfl).front 1 rfl).front 2 rfl)
    obtain ⟨c1135, o1136, s1137⟩ : ∃ c, IsTree g b_t (delL t p) c ∧ St h g (ids [c_t]) g (c :: [D1119, [(b1001, Obj.cells #[.int .i64 0] 24 (0, 0))], [(r1051, .deferred (some []))]]) h1128 := ⟨_, ⟨_, _, rfl, o1132⟩, St.flat (L := [[(b_t, Obj.cells #[.map (some b1104)] 128 (0, 0))], c1131, D1119, [(b1001, Obj.cells #[.int .i64 0] 24 (0, 0))], [(r1051, .deferred (some []))]]) (by simp only [List.flatten_cons, List.append_assoc, List.cons_append, List.nil_append, List.append_nil]) s1134⟩
    have s1138 : St h g (ids [c_t]) g [[(r1051, .deferred (some []))], c1135, D1119, [(b1001, Obj.cells #[.int .i64 0] 24 (0, 0))]] h1128 := ((((s1137.front 2 rfl).front 2 rfl).front 2 rfl).front 3 rfl)
    refine At.ofI (AtI.retMD (L := [c1135, D1119, [(b1001, Obj.cells #[.int .i64 0] 24 (0, 0))]]) (f := Tryz.f33) (vs := [.int .i64 0]) (rl := [.cell 6 24]) (v := .int .i64 0) [r1051] (by kernel_rfl) (by kernel_rfl) rfl s1138 ?_)
    intro h1139 s1140
    refine ⟨⟨⟨_, _, rfl, resOne (n := 1) (by kernel_rfl) (s1140.chunk 2 rfl) (by kernel_rfl)⟩, trivial⟩, ?_⟩
    have s1141 : St h g (ids [c_t]) g [D1119, [(b1001, Obj.cells #[.int .i64 0] 24 (0, 0))], c1135] h1139 := (((s1140.front 0 rfl).front 2 rfl).front 2 rfl)
    have s1142 : St h g (ids [c_t]) g [c1135] h1139 := (s1141).drop.drop
    refine hR _ _ _ _ s1142 ⟨c1135, ?_, ?_, rfl, rfl⟩
    ·exact (eqI (by (rw [dropT_2 (by assumption) (by assumption) (by assumption), if_neg (fun h => h hkid)]; done)))
    ·exact o1136.eq (by (rw [dropT_2 (by assumption) (by assumption) (by assumption), if_neg (fun h => h hkid)]; done))
   ·have hkid : kidsL t p ≠ [] := drop_kids1 ho1092 hp1093
    rw [hI1060] at hI1096
    obtain ⟨rc1143, rfl, hrc1144⟩ := hI1096
    rw [show (dropPend (x0 :: xs0)) = (some .ret) from by rfl] at s1088
    have s1145 : St h g (ids [c_t]) g1085 [[(l1052, .loop (mkL (mkQ 33 tm1053 (pt (codeOf Tryz.f33) 12) r1051) (some .ret)))], [(b1001, Obj.cells #[.int .i64 rc1143] 24 (0, 0))], [(r1051, .deferred (some []))]] h1086 := St.flat (by simp only [List.flatten_cons, List.flatten_nil, List.append_assoc, List.cons_append, List.nil_append, List.append_nil]) s1088
    refine AtI.endLoop (j := (some .ret)) s1145 0 rfl ?_
    intro h1146 s1147
    have s1148 := s1147.drop
    have s1149 : St h g (ids [c_t]) g (c_t :: [[(b1001, Obj.cells #[.int .i64 rc1143] 24 (0, 0))], [(r1051, .deferred (some []))]]) h1146 := s1017.thaw (s1148.forget (gle.trans s1017.le s1017.frzle) (by repeat (first | assumption | exact gle.refl _ | apply gle.trans)))
    have s1150 : St h g (ids [c_t]) g [[(r1051, .deferred (some []))], c_t, [(b1001, Obj.cells #[.int .i64 rc1143] 24 (0, 0))]] h1146 := (((s1149.front 1 rfl).front 1 rfl).front 2 rfl)
    refine AtI.retMD (L := [c_t, [(b1001, Obj.cells #[.int .i64 rc1143] 24 (0, 0))]]) (f := Tryz.f33) (vs := [.int .i64 rc1143]) (rl := [.cell 6 24]) (v := .int .i64 rc1143) [r1051] (by kernel_rfl) (by kernel_rfl) rfl s1150 ?_
    intro h1151 s1152
    refine ⟨⟨⟨_, _, rfl, resOne (n := 1) (by kernel_rfl) (s1152.chunk 1 rfl) (by kernel_rfl)⟩, trivial⟩, ?_⟩
    have s1153 : St h g (ids [c_t]) g [[(b1001, Obj.cells #[.int .i64 rc1143] 24 (0, 0))], c_t] h1151 := ((s1152.front 0 rfl).front 1 rfl)
    have s1154 : St h g (ids [c_t]) g [c_t] h1151 := (s1153).drop
    refine hR _ _ _ _ s1154 ⟨c_t, ?_, ?_, rfl, rfl⟩
    ·exact (eqI (by (rw [dropT_2 (by assumption) (by assumption) (by assumption), if_pos hkid]; exact hrc1144 (by simp))))
    ·exact o_t.eq (by (rw [dropT_2 (by assumption) (by assumption) (by assumption), if_pos hkid]; done))
end Go.Proofs.YtmjebehhpojihaaGreatDoor.Sw
namespace Go.Proofs.YtmjebehhpojihaaGreatDoor.Sw
set_option linter.unusedVariables false
set_option linter.unusedSimpArgs false
set_option linter.deprecated false
open Go
def atP (ns : List Leaf) (p : Str) : Int := findI (fun n => decide (n.Path = p)) ns
theorem atP_cons (n : Leaf) (ns : List Leaf) (p : Str) : atP (n :: ns) p = if n.Path = p then 0 else if atP ns p < 0 then -1 else atP ns p + 1 := by
  unfold atP
  conv => lhs; unfold findI
  by_cases h : n.Path = p <;> simp [h]
theorem findL_cons (n : Leaf) (ns : List Leaf) (p : Str) : findL (n :: ns) p = if n.Path = p then some n else findL ns p := by
  unfold findL
  rw [List.find?_cons]
  by_cases h : n.Path = p <;> simp [h]
theorem atP_spec : ∀ (ns : List Leaf) (p : Str), (atP ns p = -1 ∧ findL ns p = none) ∨ (0 ≤ atP ns p ∧ atP ns p < ns.length ∧ ∃ x, ns[(atP ns p).toNat]? = some x ∧ findL ns p = some x)
  | [], p => .inl ⟨rfl, rfl⟩
  | n :: ns, p => by
    have ih := atP_spec ns p
    rw [atP_cons, findL_cons]
    by_cases h : n.Path = p
    · refine .inr ?_
      rw [if_pos h, if_pos h]
      exact ⟨by omega, by rw [List.length_cons]; omega, n, rfl, rfl⟩
    · rw [if_neg h, if_neg h]
      rcases ih with ⟨h1, h2⟩ | ⟨h1, h2, x, h3, h4⟩
      · rw [h1]
        exact .inl ⟨rfl, h2⟩
      · refine .inr ?_
        rw [if_neg (by omega)]
        refine ⟨by omega, by rw [List.length_cons]; omega, x, ?_, h4⟩
        rw [toNat_succ h1]
        exact h3
theorem atP_none {ns : List Leaf} {p : Str} (h : atP ns p < 0) : findL ns p = none := by
  rcases atP_spec ns p with ⟨_, h2⟩ | ⟨h1, _⟩
  · exact h2
  · omega
theorem atP_no {ns : List Leaf} {p : Str} (h : ¬ atP ns p ≥ 0) : findL ns p = none := atP_none (by omega)
section
variable {ns out : List Leaf} {l x : Leaf} {i : Int} {put : Bool}
theorem drop_cons (h0 : 0 ≤ i) (hx : ns[i.toNat]? = some x) : ns.drop i.toNat = x :: ns.drop (i + 1).toNat := by
  rw [toNat_succ h0]
  obtain ⟨h1, h2⟩ := List.getElem?_eq_some_iff.1 hx
  rw [List.drop_eq_getElem_cons h1, h2]
end
section
variable {ns : List Leaf} {p data q : Str} {owner born ver o' b' : Int} {num : Bool} {up x : Leaf} {k : Int}
theorem rm_8 (h : cutErr p = 0) (h2 : ¬ (data.length : Int) > 128) (h3 : findL ns (parentOf p) = some up) (h4 : up.Owner = -1) (h5 : makeE up p num = 0 ∧ makeN up p num = q) (h6 : ¬ atP ns q ≥ 0) (hl : ¬ (ns.length : Int) ≥ 32) : makeT ns p data owner born num = (madeL ns up q data owner born num, q, 0) :=
  mk_5 (parE_5 h h2 h3 h4) h3 h5.1 h5.2 (atP_no h6) hl
theorem u8_eq {a b : UInt8} (h : (a.toNat : Int) = (b.toNat : Int)) : a = b := UInt8.toNat_inj.1 (by omega)
theorem u8_ne {a b : UInt8} (h : ¬ (a.toNat : Int) = (b.toNat : Int)) : ¬ a = b := fun e => h (by rw [e])
theorem leaf_eq (a b : Leaf) : decide (a = b) = (decide (a.Path = b.Path) && (decide (a.Data = b.Data) && (decide (a.Version = b.Version) && (decide (a.Owner = b.Owner) && (decide (a.Next = b.Next) && decide (a.Born = b.Born)))))) := by
  obtain ⟨a1, a2, a3, a4, a5, a6⟩ := a
  obtain ⟨b1, b2, b3, b4, b5, b6⟩ := b
  rw [Bool.eq_iff_iff]
  simp [Leaf.mk.injEq]
theorem lfN {a b : Leaf} (h : ¬ a.Path = b.Path ∨ ¬ a.Data = b.Data ∨ ¬ a.Version = b.Version ∨ ¬ a.Owner = b.Owner ∨ ¬ a.Next = b.Next) : false = decide (a = b) := by
  refine (decide_eq_false fun e => ?_).symm
  subst e
  rcases h with h | h | h | h | h
  all_goals exact h rfl
theorem lfY {a b : Leaf} (h1 : a.Path = b.Path) (h2 : a.Data = b.Data) (h3 : a.Version = b.Version) (h4 : a.Owner = b.Owner) (h5 : a.Next = b.Next) : (a.Born == b.Born) = decide (a = b) := by
  rw [leaf_eq, decide_eq_true h2, decide_eq_true h1, decide_eq_true h3, decide_eq_true h4, decide_eq_true h5]
  simp only [Bool.true_and]
  rw [Bool.eq_iff_iff]
  simp
end
section
variable {list : List Leaf} {i : Int} {l x : Leaf}
end
section
variable {list : List Leaf} {i : Int} {l x : Leaf}
end
end Go.Proofs.YtmjebehhpojihaaGreatDoor.Sw
namespace Go.Proofs.YtmjebehhpojihaaGreatDoor.Sw
set_option linter.unusedVariables false
set_option linter.unusedSimpArgs false
set_option linter.deprecated false
open Go
section
variable {k : Int} {ns : List Leaf} {ow : List Int}
end
def backL (n : Leaf) : Leaf := { n with Next := IntKind.wrap .i64 (n.Next - 1) }
def downF (up : Str) (num : Bool) (n : Leaf) : Leaf := if (decide (n.Path = up) && num) = true then backL n else n
section
variable {k : Int} {ns : List Leaf} {p data : Str} {num : Bool}
theorem back_path (up : Str) (n : Leaf) : (downF up num n).Path = n.Path := by unfold downF; split <;> rfl
theorem back_up (H : TreeOk k ns) (hk : k ≤ 100000) {up : Leaf} (hu : up ∈ ns) : (upL ns up num).map (downF up.Path num) = ns := by
  obtain ⟨h1, h2, h3, h4, h5, h6, h7⟩ := H.node up hu
  have hsame : ∀ m ∈ delL ns up.Path, downF up.Path num m = m := fun m hm => by
    have := delL_ne m hm
    unfold downF
    simp [this]
  refine sort_unique ?_ H.sort ?_
  · have : SortL (upL ns up num) := withL_sort H.sort _
    unfold SortL
    rw [List.pairwise_map]
    exact this.imp fun h => by rw [back_path, back_path]; exact h
  · have hp : ns.Perm (up :: delL ns up.Path) := by
      have := withL_perm ns up
      rwa [withL_same H.sort (findL_of H.sort.nodup hu)] at this
    refine List.Perm.trans ?_ hp.symm
    have hq : (upL ns up num).Perm ((if num then { up with Next := IntKind.wrap .i64 (up.Next + 1) } else up) :: delL ns up.Path) := by
      have := withL_perm ns (if num then { up with Next := IntKind.wrap .i64 (up.Next + 1) } else up)
      have e : (if num then { up with Next := IntKind.wrap .i64 (up.Next + 1) } else up : Leaf).Path = up.Path := by cases num <;> rfl
      rwa [e] at this
    refine (hq.map _).trans ?_
    rw [List.map_cons, List.map_congr_left hsame, List.map_id']
    refine List.Perm.of_eq ?_
    congr 1
    cases num with
    | false => simp [downF]
    | true =>
      simp only [if_true]
      rw [wrapS h5.1 (by omega)]
      unfold downF backL
      simp only [decide_true, Bool.and_self, if_true]
      have : IntKind.wrap .i64 (up.Next + 1 - 1) = up.Next := by
        rw [wrapI (by omega) (by omega)]; omega
      rw [this]
structure Back (k : Int) (ns : List Leaf) (p data : Str) (num : Bool) (q : Str) (up : Leaf) (n1 : List Leaf) : Prop where
  make : makeT ns p data (-1) 5 num = (n1, q, 0)
  ok : TreeOk (k + 1) n1
  get : getT n1 q = (⟨q, data, 0, -1, 0, 5⟩, 0)
  len : n1.length = ns.length + 1
  set : ∀ d : Str, d.length ≤ 128 → setT n1 q d 0 = (withL n1 ⟨q, d, 1, -1, 0, 5⟩, 1, 0)
  ok2 : ∀ d : Str, d.length ≤ 128 → TreeOk (k + 2) (withL n1 ⟨q, d, 1, -1, 0, 5⟩)
  set2 : ∀ d d2 : Str, d.length ≤ 128 → setT (withL n1 ⟨q, d, 1, -1, 0, 5⟩) q d2 0 = (withL n1 ⟨q, d, 1, -1, 0, 5⟩, 0, 102)
  drop1 : ∀ d : Str, d.length ≤ 128 → dropT (withL n1 ⟨q, d, 1, -1, 0, 5⟩) q 0 = (withL n1 ⟨q, d, 1, -1, 0, 5⟩, 102)
  drop2 : ∀ d : Str, d.length ≤ 128 → dropT (withL n1 ⟨q, d, 1, -1, 0, 5⟩) q 1 = (upL ns up num, 0)
  up : up ∈ ns ∧ parentOf q = up.Path ∧ cutErr q = 0
theorem del_with {ns : List Leaf} {l : Leaf} (hs : SortL ns) : delL (withL ns l) l.Path = delL ns l.Path := by
  refine sort_unique (delL_sort (withL_sort hs l) _) (delL_sort hs _) ?_
  have h1 := (withL_perm ns l).filter fun n => !decide (n.Path = l.Path)
  rw [List.filter_cons] at h1
  simp only [decide_true, Bool.not_true, Bool.false_eq_true, if_false] at h1
  refine h1.trans (List.Perm.of_eq ?_)
  unfold delL
  rw [List.filter_filter]
  apply List.filter_congr
  intro n hn
  simp
theorem back_ok (H : TreeOk k ns) (hk0 : 0 ≤ k) (hk : k ≤ 90000) (h : (makeT ns p data (-1) 5 num).2.2 = 0) : ∃ q up n1, Back k ns p data num q up n1 := by
  have HM := H.make (p := p) (data := data) (owner := -1) (born := 5) (num := num) (by omega) hk0
  obtain ⟨up, hc, hd, hf, ho, he, hq, hl, e⟩ := make_ok h
  obtain ⟨hu, hup⟩ := findL_some hf
  obtain ⟨hcq, hpq⟩ := made_place hc he
  rw [e] at HM
  have e1 : madeL ns up (makeN up p num) data (-1) 5 num = withL (upL ns up num) ⟨makeN up p num, data, 0, -1, 0, 5⟩ := rfl
  rw [e1] at e HM
  generalize makeN up p num = q at *
  have HM : TreeOk (k + 1) (withL (upL ns up num) ⟨q, data, 0, -1, 0, 5⟩) := HM
  have hun : findL (upL ns up num) q = none := upL_none hu hq
  have hus : SortL (upL ns up num) := withL_sort H.sort _
  have hin : (⟨q, data, 0, -1, 0, 5⟩ : Leaf) ∈ withL (upL ns up num) ⟨q, data, 0, -1, 0, 5⟩ := mem_with.2 (.inl rfl)
  have hpo := pErr_ok.2 (cut_ok hcq)
  have hf1 : findL (withL (upL ns up num) ⟨q, data, 0, -1, 0, 5⟩) q = some ⟨q, data, 0, -1, 0, 5⟩ := findL_of HM.sort.nodup hin
  have hok2 : ∀ d : Str, d.length ≤ 128 → TreeOk (k + 2) (withL (withL (upL ns up num) ⟨q, data, 0, -1, 0, 5⟩) ⟨q, d, 1, -1, 0, 5⟩) := fun d hd2 =>
    (HM.mono (k' := k + 2) (by omega)).put hin rfl rfl rfl hd2 ⟨by simp, by simp; omega⟩ ⟨by simp, by simp; omega⟩
  have hf2 : ∀ d : Str, d.length ≤ 128 → findL (withL (withL (upL ns up num) ⟨q, data, 0, -1, 0, 5⟩) ⟨q, d, 1, -1, 0, 5⟩) q = some ⟨q, d, 1, -1, 0, 5⟩ := fun d hd2 =>
    findL_of (l := ⟨q, d, 1, -1, 0, 5⟩) (hok2 d hd2).sort.nodup (mem_with.2 (.inl rfl))
  have hdel : ∀ d : Str, delL (withL (withL (upL ns up num) ⟨q, data, 0, -1, 0, 5⟩) ⟨q, d, 1, -1, 0, 5⟩) q = upL ns up num := fun d => by
    have h1 := del_with (l := ⟨q, d, 1, -1, 0, 5⟩) HM.sort
    have h2 := del_with (l := ⟨q, data, 0, -1, 0, 5⟩) hus
    have h3 := delL_none hun
    exact h1.trans (h2.trans h3)
  have hkn : ∀ d : Str, kidsL (withL (withL (upL ns up num) ⟨q, data, 0, -1, 0, 5⟩) ⟨q, d, 1, -1, 0, 5⟩) q = [] := fun d => by
    rw [List.eq_nil_iff_forall_not_mem]
    intro x hx
    obtain ⟨n, hn, rfl, hc2, hp2⟩ := kids_mem.1 hx
    have hnq : n.Path ≠ q := fun e => by
      have := parent_lt hc2
      rw [hp2, e] at this
      unfold lt8 at this
      rw [bl_irr] at this
      cases this
    have hn1 : n ∈ upL ns up num := by
      rw [← hdel d]
      exact mem_del.2 ⟨hn, hnq⟩
    have hn2 : ∃ m ∈ ns, m.Path = n.Path := by
      rcases mem_with.1 hn1 with e | h
      · exact ⟨up, hu, by rw [e]; cases num <;> rfl⟩
      · exact ⟨n, h.1, rfl⟩
    obtain ⟨m, hm, em⟩ := hn2
    have : n.Path ∈ kidsL ns q := kids_mem.2 ⟨m, hm, em, hc2, hp2⟩
    obtain ⟨_, u, hu2, _⟩ := H.kid_up (p := q) (fun e => by rw [e] at this; cases this)
    rw [hq] at hu2
    cases hu2
  refine ⟨q, up, _, e, HM, getT_2 (findE_3 hpo hf1) hf1, by rw [withL_len1 hun, upL_len H.sort hu], fun d hd2 => ?_, hok2, fun d d2 hd2 => ?_, fun d hd2 => ?_, fun d hd2 => ?_, hu, hpq.trans hup.symm, hcq⟩
  · unfold setT
    rw [if_neg (by simpa using hpo), hf1]
    simp only []
    rw [if_neg (fun h => h.2 rfl), if_neg (by omega)]
    rfl
  · unfold setT
    rw [if_neg (by simpa using hpo), hf2 d hd2]
    simp only []
    rw [if_pos ⟨by decide, by decide⟩]
  · unfold dropT
    rw [if_neg (by simpa using hcq), hf2 d hd2]
    simp only []
    rw [if_pos ⟨by decide, by decide⟩]
  · unfold dropT
    rw [if_neg (by simpa using hcq), hf2 d hd2]
    simp only []
    rw [if_neg (fun h => h.2 rfl), if_neg (by simpa using hkn d), hdel d]
end
section
variable {k : Int} {ns : List Leaf}
end
end Go.Proofs.YtmjebehhpojihaaGreatDoor.Sw
namespace Go.Proofs.YtmjebehhpojihaaGreatDoor.Sw
open Go
set_option maxRecDepth 100000
set_option linter.unusedVariables false
set_option linter.unusedSimpArgs false
set_option linter.deprecated false
theorem copyBytes (B : World) (h : Heap) (g : GH) (hg : Sub g h) (hG : Glob g) (v_s : Value) (s : List UInt8) (h_s : SlR g 5 kU8 v_s s) (h1 : s.length ≤ 1000000000) :
  Spec Tryz.prog B 29 #[v_s] h g [] (fun rv g' L' => ∃ v0 k0, rv = v0 ∧ Row 5 kU8 g' v0 s k0 ∧ g' = g ∧ L' = [k0]) := by
 obtain ⟨a_s, n_s, rfl⟩ := h_s.form
 refine Spec.of_at (f := Tryz.f29) (e := [(0, .slice a_s s.length n_s)]) Tryz.func29 (by kernel_rfl) (Nat.le_of_ble_eq_true (by kernel_rfl)) (by kernel_rfl) (by kernel_rfl) ?_
 intro R hR
 have s0 := St.init hg
 refine At.reg (L := [(0, false)]) (by kernel_rfl) ?_
 refine Op.pures 1 [0] (L' := []) (e' := [(0, .slice a_s s.length n_s)]) (by kernel_rfl) ?_
 refine Op.goto 1 (by kernel_rfl) ?_
 refine At.reg (L := [(0, false), (1, false)]) (by kernel_rfl) ?_
 refine Op.lit (T := 29) (len := 0) (parts := #[]) (dst := 4) (E := 5) (ps := []) (cs := #[]) (by kernel_rfl) (by kernel_rfl) (by kernel_rfl) s0 ?_
 intro b1001 h1002 s1003
 refine Op.pures 1 [0, 3] (L' := []) (e' := [(0, .slice a_s s.length n_s), (3, .slice (some ⟨b1001, 0, none⟩) 0 0)]) (by kernel_rfl) ?_
 refine Op.goto 2 (by kernel_rfl) ?_
 refine At.reg (L := [(0, false), (1, false), (2, false), (3, false)]) (by kernel_rfl) ?_
 refine Op.pures 2 [3, 5, 6] (L' := [(2, false), (3, false)]) (e' := [(3, .slice (some ⟨b1001, 0, none⟩) 0 0), (5, .slice (some ⟨b1001, 0, none⟩) 0 0), (6, .slice a_s s.length n_s)]) (by kernel_rfl) ?_
 have R1004 : Row 5 kU8 g (.slice (some ⟨b1001, 0, none⟩) 0 0) ([] : List UInt8) [(b1001, Obj.cells #[] 5 (0, 0))] := Row.lit (by kernel_rfl) (by unfold maxLen; decide) (by kernel_rfl) Reads.nil
 obtain ⟨ns1005, hs1006, hr1007⟩ := Src.slice (P := Tryz.prog) (h_s.toH s1003.sub)
 refine Op.append (x := (.tmp 5)) (y := (.tmp 6)) (t := 29) (t' := 29) (dst := 7) (E := 5) (by_ := 1) (d := kU8) (by kernel_rfl) (by kernel_rfl) (by kernel_rfl) (by kernel_rfl) rfl R1004 s1003 0 rfl hs1006 (ys := s) hr1007 rfl (by (simp only [List.length_append, List.length_cons, List.length_nil, List.length_take, List.length_drop]; omega)) (fun _ _ _ => trivial) ?_
 intro v1008 ch1009 h1010 R1011 s1012 nn1013
 obtain ⟨a1014, n1015, rfl⟩ := R1011.form
 refine Op.pures 1 [3] (L' := []) (e' := [(3, .slice a1014 ((([] : List UInt8) ++ s).length) n1015)]) (by kernel_rfl) ?_
 refine Op.goto 3 (by kernel_rfl) ?_
 refine At.reg (L := [(0, false), (1, false)]) (by kernel_rfl) ?_
 refine Op.pures 2 [2] (L' := []) (e' := [(2, .slice a1014 ((([] : List UInt8) ++ s).length) n1015)]) (by kernel_rfl) ?_
 refine Op.goto 4 (by kernel_rfl) ?_
 refine At.ret (f := Tryz.f29) (v := .slice a1014 ((([] : List UInt8) ++ s).length) n1015) (by kernel_rfl) (by kernel_rfl) ?_
 refine hR _ _ _ _ s1012 ⟨(.slice a1014 ((([] : List UInt8) ++ s).length) n1015), ch1009, ?_, ?_, rfl, rfl⟩
 ·exact rfl
 ·exact rowEq R1011 (by simp)
theorem sameBytes (B : World) (h : Heap) (g : GH) (hg : Sub g h) (hG : Glob g) (v_a : Value) (a : List UInt8) (h_a : SlR g 5 kU8 v_a a) (v_b : Value) (b : List UInt8) (h_b : SlR g 5 kU8 v_b b) (h1 : a.length ≤ 1000000000) :
  Spec Tryz.prog B 40 #[v_a, v_b] h g [] (fun rv g' L' => rv = .bool (decide (a = b)) ∧ g' = g ∧ L' = []) := by
 obtain ⟨a_a, n_a, rfl⟩ := h_a.form
 obtain ⟨a_b, n_b, rfl⟩ := h_b.form
 refine Spec.of_at (f := Tryz.f40) (e := [(0, .slice a_a a.length n_a), (1, .slice a_b b.length n_b)]) Tryz.func40 (by kernel_rfl) (Nat.le_of_ble_eq_true (by kernel_rfl)) (by kernel_rfl) (by kernel_rfl) ?_
 intro R hR
 have s0 := St.init hg
 refine At.reg (L := [(0, false)]) (by kernel_rfl) ?_
 refine Op.pures 1 [0, 1] (L' := []) (e' := [(0, .slice a_a a.length n_a), (1, .slice a_b b.length n_b)]) (by kernel_rfl) ?_
 refine Op.goto 1 (by kernel_rfl) ?_
 refine At.reg (L := [(0, false), (1, false), (2, false), (3, false), (4, false)]) (by kernel_rfl) ?_
 refine Op.pures 5 [0, 1, 10] (L' := []) (e' := [(0, .slice a_a a.length n_a), (1, .slice a_b b.length n_b), (10, .bool ((a.length : Int) != (b.length : Int)))]) (by kernel_rfl) ?_
 refine Op.goto 2 (by kernel_rfl) ?_
 refine At.cond (b := (a.length : Int) != (b.length : Int)) (c := .tmp 10) (by kernel_rfl) (by kernel_rfl) (by kernel_rfl) 3 5 (by kernel_rfl) (by kernel_rfl) (fun hb => ?_) (fun hb => ?_)
 ·have c1031 : ¬ ((a.length : Int) = (b.length : Int)) := bneT hb
  clear hb
  refine At.keep [] ?_; show At _ _ _ [] _
  refine At.reg (L := [(0, false)]) (by kernel_rfl) ?_
  refine Op.pures 1 [4] (L' := []) (e' := [(4, .bool false)]) (by kernel_rfl) ?_
  refine Op.goto 4 (by kernel_rfl) ?_
  refine At.ret (f := Tryz.f40) (v := .bool false) (by kernel_rfl) (by kernel_rfl) ?_
  refine hR _ _ _ _ s0 ⟨?_, rfl, rfl⟩
  exact (eqB (by exact sameE_len (by assumption)))
 ·have c1032 : (a.length : Int) = (b.length : Int) := bneF hb
  clear hb
  refine At.keep [0, 1] ?_; show At _ _ _ [(0, .slice a_a a.length n_a), (1, .slice a_b b.length n_b)] _
  refine At.reg (L := [(0, false)]) (by kernel_rfl) ?_
  refine Op.pures 1 [0, 1, 5] (L' := []) (e' := [(0, .slice a_a a.length n_a), (1, .slice a_b b.length n_b), (5, .int .i64 0)]) (by kernel_rfl) ?_
  refine Op.goto 6 (by kernel_rfl) ?_
  have loop6 : ∀ (m : Nat) (i : Int) (h1033 : Heap) (hm : a.length - i.toNat < m) (h0 : 0 ≤ i) (h2 : i ≤ a.length) (ht : a.take i.toNat = b.take i.toNat)     (s_loop61032 : St h g (ids []) g [] h1033), At (fctx Tryz.prog B 40 Tryz.f40 R) [] 6 [(0, .slice a_a a.length n_a), (1, .slice a_b b.length n_b), (5, .int .i64 i)] h1033 := by
   intro m; induction m with
   | zero => intros; omega
   | succ m ih6 =>
    intro i h1033 hm h0 h2 ht s_loop61032
    refine At.reg (L := [(0, false), (1, false), (2, false), (3, false)]) (by kernel_rfl) ?_
    refine Op.pures 4 [0, 1, 5, 14] (L' := []) (e' := [(0, .slice a_a a.length n_a), (1, .slice a_b b.length n_b), (5, .int .i64 i), (14, .bool (decide (i < (a.length : Int))))]) (by kernel_rfl) ?_
    refine Op.goto 7 (by kernel_rfl) ?_
    refine At.cond (b := decide (i < (a.length : Int))) (c := .tmp 14) (by kernel_rfl) (by kernel_rfl) (by kernel_rfl) 8 13 (by kernel_rfl) (by kernel_rfl) (fun hb => ?_) (fun hb => ?_)
    ·have c1034 : i < (a.length : Int) := of_decide_eq_true hb
     clear hb
     refine At.keep [0, 1, 5] ?_; show At _ _ _ [(0, .slice a_a a.length n_a), (1, .slice a_b b.length n_b), (5, .int .i64 i)] _
     refine At.draw (by kernel_rfl) (fun _ => False) [(0, true), (1, true), (2, true), (4, true), (5, true), (6, true), (3, true), (7, false), (8, true)] (by kernel_rfl) ?_
     refine Op.pures 2 [0, 1, 5, 17, 18] (L' := [(2, true), (4, true), (5, true), (6, true), (3, true), (7, false), (8, true)]) (e' := [(0, .slice a_a a.length n_a), (1, .slice a_b b.length n_b), (5, .int .i64 i), (17, .slice a_a a.length n_a), (18, .int .i64 i)]) (by kernel_rfl) ?_
     obtain ⟨x1035, hx1036⟩ : ∃ c, a[(i : Int).toNat]? = some c := ⟨_, List.getElem?_eq_getElem (by omega)⟩
     obtain ⟨b1037, o1038, cu1039, fz1040, ha1041, hb1042, hk1043⟩ := SlR.at_ h_a _ hx1036
     cases ha1041
     refine Op.idx (T := 29) (E := 5) (sz := 1) (by_ := 1) (n := a.length) (c := n_a) (k := .i64) (x := (.tmp 17)) (ix := (.tmp 18)) (dst := 19) (bk := b1037) (o := o1038) (m := i) (by kernel_rfl) (by kernel_rfl) (by kernel_rfl) (by kernel_rfl) (by omega) (by omega) ?_
     replace hk1043 : cut _ _ _ = [.int .u8 (x1035.toNat : Int)] := hk1043
     refine Op.pures 2 [0, 1, 5, 19, 21, 22] (L' := [(6, true), (3, true), (7, false), (8, true)]) (e' := [(0, .slice (some ⟨b1037, o1038, none⟩) a.length n_a), (1, .slice a_b b.length n_b), (5, .int .i64 i), (19, .pointer (some ⟨b1037, o1038 + (i : Int).toNat * 1, none⟩)), (21, .slice a_b b.length n_b), (22, .int .i64 i)]) (by kernel_rfl) ?_
     obtain ⟨x1044, hx1045⟩ : ∃ c, b[(i : Int).toNat]? = some c := ⟨_, List.getElem?_eq_getElem (by omega)⟩
     obtain ⟨b1046, o1047, cu1048, fz1049, ha1050, hb1051, hk1052⟩ := SlR.at_ h_b _ hx1045
     cases ha1050
     refine Op.idx (T := 29) (E := 5) (sz := 1) (by_ := 1) (n := b.length) (c := n_b) (k := .i64) (x := (.tmp 21)) (ix := (.tmp 22)) (dst := 23) (bk := b1046) (o := o1047) (m := i) (by kernel_rfl) (by kernel_rfl) (by kernel_rfl) (by kernel_rfl) (by omega) (by omega) ?_
     replace hk1052 : cut _ _ _ = [.int .u8 (x1044.toNat : Int)] := hk1052
     refine Op.loadF (T := 5) (x := (.tmp 19)) (o := o1038 + (i : Int).toNat * 1) (d := 20) (n := 1) (v := .int .u8 (x1035.toNat : Int)) (by kernel_rfl) (by kernel_rfl) (by kernel_rfl) (fun h => h) (s_loop61032.sub _ _ hb1042) (cut_get hk1043 0 rfl) ?_
     refine Op.load (T := 5) (x := (.tmp 23)) (o := o1047 + (i : Int).toNat * 1) (d := 24) (n := 1) (v := .int .u8 (x1044.toNat : Int)) (by kernel_rfl) (by kernel_rfl) (by kernel_rfl) (s_loop61032.sub _ _ hb1051) (cut_get hk1052 0 rfl) ?_
     refine Op.pures 1 [0, 1, 5, 25] (L' := []) (e' := [(0, .slice (some ⟨b1037, o1038, none⟩) a.length n_a), (1, .slice (some ⟨b1046, o1047, none⟩) b.length n_b), (5, .int .i64 i), (25, .bool ((x1035.toNat : Int) != (x1044.toNat : Int)))]) (by kernel_rfl) ?_
     refine Op.goto 9 (by kernel_rfl) ?_
     refine At.cond (b := (x1035.toNat : Int) != (x1044.toNat : Int)) (c := .tmp 25) (by kernel_rfl) (by kernel_rfl) (by kernel_rfl) 10 12 (by kernel_rfl) (by kernel_rfl) (fun hb => ?_) (fun hb => ?_)
     ·have c1053 : ¬ ((x1035.toNat : Int) = (x1044.toNat : Int)) := bneT hb
      clear hb
      refine At.keep [] ?_; show At _ _ _ [] _
      refine At.reg (L := [(0, false)]) (by kernel_rfl) ?_
      refine Op.pures 1 [4] (L' := []) (e' := [(4, .bool false)]) (by kernel_rfl) ?_
      refine Op.goto 11 (by kernel_rfl) ?_
      refine At.ret (f := Tryz.f40) (v := .bool false) (by kernel_rfl) (by kernel_rfl) ?_
      refine hR _ _ _ _ s_loop61032 ⟨?_, rfl, rfl⟩
      exact (eqB (by exact sameE_ne hx1036 hx1045 (u8_ne c1053)))
     ·have c1054 : (x1035.toNat : Int) = (x1044.toNat : Int) := bneF hb
      clear hb
      refine At.keep [0, 1, 5] ?_; show At _ _ _ [(0, .slice (some ⟨b1037, o1038, none⟩) a.length n_a), (1, .slice (some ⟨b1046, o1047, none⟩) b.length n_b), (5, .int .i64 i)] _
      refine At.reg (L := [(0, false), (1, false), (2, false)]) (by kernel_rfl) ?_
      refine Op.pures 1 [0, 1, 5, 15] (L' := [(1, false), (2, false)]) (e' := [(0, .slice (some ⟨b1037, o1038, none⟩) a.length n_a), (1, .slice (some ⟨b1046, o1047, none⟩) b.length n_b), (5, .int .i64 i), (15, .int .i64 i)]) (by kernel_rfl) ?_
      refine Op.val (dst := some 16) (v := .int .i64 (IntKind.wrap .i64 (i + 1))) (v' := .int .i64 (i + 1)) (by kernel_rfl) (wrapEq_i64 (by omega) (by omega)) ?_
      refine Op.pures 1 [0, 1, 5] (L' := []) (e' := [(0, .slice (some ⟨b1037, o1038, none⟩) a.length n_a), (1, .slice (some ⟨b1046, o1047, none⟩) b.length n_b), (5, .int .i64 (i + 1))]) (by kernel_rfl) ?_
      refine Op.goto 6 (by kernel_rfl) ?_
      exact ih6  (i + 1) _ (by omega) (by omega) (by omega) (by exact take_step ht h0 hx1036 hx1045 (u8_eq c1054))  s_loop61032
    ·have c1055 : ¬ (i < (a.length : Int)) := of_decide_eq_false hb
     clear hb
     refine At.keep [] ?_; show At _ _ _ [] _
     refine At.reg (L := [(0, false)]) (by kernel_rfl) ?_
     refine Op.pures 1 [4] (L' := []) (e' := [(4, .bool true)]) (by kernel_rfl) ?_
     refine Op.goto 14 (by kernel_rfl) ?_
     refine At.ret (f := Tryz.f40) (v := .bool true) (by kernel_rfl) (by kernel_rfl) ?_
     refine hR _ _ _ _ s_loop61032 ⟨?_, rfl, rfl⟩
     exact (eqB (by exact sameE_end (by assumption) c1055 ht))
  exact loop6 _  0 _ (Nat.lt_succ_self _) (by omega) (by omega) (by rfl)  s0
theorem sameLeaf (B : World) (h : Heap) (g : GH) (hg : Sub g h) (hG : Glob g) (a : Leaf) (v_a_1 : Value) (h_a_1 : SlR g 5 kU8 v_a_1 a.Data) (b : Leaf) (v_b_1 : Value) (h_b_1 : SlR g 5 kU8 v_b_1 b.Data) (h1 : a.Data.length ≤ 1000000000) :
  Spec Tryz.prog B 35 #[.agg #[.string (mkS a.Path), v_a_1, .int .i64 a.Version, .int .i64 a.Owner, .int .i64 a.Next, .int .i64 a.Born], .agg #[.string (mkS b.Path), v_b_1, .int .i64 b.Version, .int .i64 b.Owner, .int .i64 b.Next, .int .i64 b.Born]] h g [] (fun rv g' L' => rv = .bool (decide (a = b)) ∧ g' = g ∧ L' = []) := by
 obtain ⟨a_a_1, n_a_1, rfl⟩ := h_a_1.form
 obtain ⟨a_b_1, n_b_1, rfl⟩ := h_b_1.form
 refine Spec.of_at (f := Tryz.f35) (e := [(0, .agg #[.string (mkS a.Path), .slice a_a_1 a.Data.length n_a_1, .int .i64 a.Version, .int .i64 a.Owner, .int .i64 a.Next, .int .i64 a.Born]), (1, .agg #[.string (mkS b.Path), .slice a_b_1 b.Data.length n_b_1, .int .i64 b.Version, .int .i64 b.Owner, .int .i64 b.Next, .int .i64 b.Born])]) Tryz.func35 (by kernel_rfl) (Nat.le_of_ble_eq_true (by kernel_rfl)) (by kernel_rfl) (by kernel_rfl) ?_
 intro R hR
 have s0 := St.init hg
 refine At.reg (L := [(0, false), (1, false), (2, false)]) (by kernel_rfl) ?_
 refine Op.box (T := 59) (x := (.tmp 0)) (d := 2) (cs := #[.string (mkS a.Path), .slice a_a_1 a.Data.length n_a_1, .int .i64 a.Version, .int .i64 a.Owner, .int .i64 a.Next, .int .i64 a.Born]) (by kernel_rfl) (by kernel_rfl) s0 ?_
 intro b1146 h1147 s1148
 refine Op.box (T := 59) (x := (.tmp 1)) (d := 3) (cs := #[.string (mkS b.Path), .slice a_b_1 b.Data.length n_b_1, .int .i64 b.Version, .int .i64 b.Owner, .int .i64 b.Next, .int .i64 b.Born]) (by kernel_rfl) (by kernel_rfl) s1148 ?_
 intro b1149 h1150 s1151
 refine Op.pures 1 [2, 3] (L' := []) (e' := [(2, .pointer (some ⟨b1146, 0, none⟩)), (3, .pointer (some ⟨b1149, 0, none⟩))]) (by kernel_rfl) ?_
 refine Op.goto 1 (by kernel_rfl) ?_
 refine At.reg (L := [(0, false), (1, false), (2, false), (3, false), (4, false), (5, false), (6, false), (7, false), (8, false), (9, false), (10, false), (11, false), (12, false), (13, false), (14, false), (15, false), (16, false), (17, false), (18, false), (19, false), (20, false), (21, false), (22, false), (23, false), (24, false), (25, false), (26, false), (27, false), (28, false), (29, false), (30, false), (31, false), (32, false), (33, false), (34, false), (35, false), (36, false), (37, false), (38, false), (39, false), (40, false)]) (by kernel_rfl) ?_
 refine Op.pures 1 [2, 3, 5] (L' := [(1, false), (2, false), (3, false), (4, false), (5, false), (6, false), (7, false), (8, false), (9, false), (10, false), (11, false), (12, false), (13, false), (14, false), (15, false), (16, false), (17, false), (18, false), (19, false), (20, false), (21, false), (22, false), (23, false), (24, false), (25, false), (26, false), (27, false), (28, false), (29, false), (30, false), (31, false), (32, false), (33, false), (34, false), (35, false), (36, false), (37, false), (38, false), (39, false), (40, false)]) (e' := [(2, .pointer (some ⟨b1146, 0, none⟩)), (3, .pointer (some ⟨b1149, 0, none⟩)), (5, .pointer (some ⟨b1146, 0, none⟩))]) (by kernel_rfl) ?_
 refine Op.load (T := 9) (x := (.tmp 5)) (o := 0) (d := 6) (n := 1) (v := .string (mkS a.Path)) (by kernel_rfl) (by kernel_rfl) (by kernel_rfl) (s1151.chunk 1 rfl) (by kernel_rfl) ?_
 refine Op.pures 1 [2, 3, 6, 7] (L' := [(3, false), (4, false), (5, false), (6, false), (7, false), (8, false), (9, false), (10, false), (11, false), (12, false), (13, false), (14, false), (15, false), (16, false), (17, false), (18, false), (19, false), (20, false), (21, false), (22, false), (23, false), (24, false), (25, false), (26, false), (27, false), (28, false), (29, false), (30, false), (31, false), (32, false), (33, false), (34, false), (35, false), (36, false), (37, false), (38, false), (39, false), (40, false)]) (e' := [(2, .pointer (some ⟨b1146, 0, none⟩)), (3, .pointer (some ⟨b1149, 0, none⟩)), (6, .string (mkS a.Path)), (7, .pointer (some ⟨b1149, 0, none⟩))]) (by kernel_rfl) ?_
 refine Op.load (T := 9) (x := (.tmp 7)) (o := 0) (d := 8) (n := 1) (v := .string (mkS b.Path)) (by kernel_rfl) (by kernel_rfl) (by kernel_rfl) (s1151.chunk 0 rfl) (by kernel_rfl) ?_
 refine Op.val (dst := some 9) (v := .bool ((mkS a.Path).toList == (mkS b.Path).toList)) (v' := .bool (a.Path == b.Path)) (by kernel_rfl) (by rw [toList_mkS, toList_mkS]) ?_
 refine Op.pures 1 [2, 3, 10] (L' := [(6, false), (7, false), (8, false), (9, false), (10, false), (11, false), (12, false), (13, false), (14, false), (15, false), (16, false), (17, false), (18, false), (19, false), (20, false), (21, false), (22, false), (23, false), (24, false), (25, false), (26, false), (27, false), (28, false), (29, false), (30, false), (31, false), (32, false), (33, false), (34, false), (35, false), (36, false), (37, false), (38, false), (39, false), (40, false)]) (e' := [(2, .pointer (some ⟨b1146, 0, none⟩)), (3, .pointer (some ⟨b1149, 0, none⟩)), (10, .bool (a.Path == b.Path))]) (by kernel_rfl) ?_
 refine Op.ways (b := a.Path == b.Path) ⟨fun hb => ?_, fun hb => ?_⟩
 ·refine Op.cast (e' := [(2, .pointer (some ⟨b1146, 0, none⟩)), (3, .pointer (some ⟨b1149, 0, none⟩)), (10, .bool true)]) (by rw [hb]) ?_
  have c1152 : a.Path = b.Path := eq_of_beq hb
  clear hb
  refine Op.pures 1 [2, 3, 10, 11] (L' := [(7, false), (8, false), (9, false), (10, false), (11, false), (12, false), (13, false), (14, false), (15, false), (16, false), (17, false), (18, false), (19, false), (20, false), (21, false), (22, false), (23, false), (24, false), (25, false), (26, false), (27, false), (28, false), (29, false), (30, false), (31, false), (32, false), (33, false), (34, false), (35, false), (36, false), (37, false), (38, false), (39, false), (40, false)]) (e' := [(2, .pointer (some ⟨b1146, 0, none⟩)), (3, .pointer (some ⟨b1149, 0, none⟩)), (10, .bool true), (11, .pointer (some ⟨b1146, 1, none⟩))]) (by kernel_rfl) ?_
  refine Op.load (T := 29) (x := (.tmp 11)) (o := 1) (d := 12) (n := 1) (v := .slice a_a_1 a.Data.length n_a_1) (by kernel_rfl) (by kernel_rfl) (by kernel_rfl) (s1151.chunk 1 rfl) (by kernel_rfl) ?_
  refine Op.pures 1 [2, 3, 10, 12, 13] (L' := [(9, false), (10, false), (11, false), (12, false), (13, false), (14, false), (15, false), (16, false), (17, false), (18, false), (19, false), (20, false), (21, false), (22, false), (23, false), (24, false), (25, false), (26, false), (27, false), (28, false), (29, false), (30, false), (31, false), (32, false), (33, false), (34, false), (35, false), (36, false), (37, false), (38, false), (39, false), (40, false)]) (e' := [(2, .pointer (some ⟨b1146, 0, none⟩)), (3, .pointer (some ⟨b1149, 0, none⟩)), (10, .bool true), (12, .slice a_a_1 a.Data.length n_a_1), (13, .pointer (some ⟨b1149, 1, none⟩))]) (by kernel_rfl) ?_
  refine Op.load (T := 29) (x := (.tmp 13)) (o := 1) (d := 14) (n := 1) (v := .slice a_b_1 b.Data.length n_b_1) (by kernel_rfl) (by kernel_rfl) (by kernel_rfl) (s1151.chunk 0 rfl) (by kernel_rfl) ?_
  refine Op.call0 (dst := some 15) (f := 40) (args := #[.slice a_a_1 a.Data.length n_a_1, .slice a_b_1 b.Data.length n_b_1]) (by kernel_rfl) s1151 (sameBytes _ _ _ s1151.sub hG _ _ h_a_1 _ _ h_b_1 (by ((try dsimp only) <;> (omega))) ) ?_
  rintro _ g1155 _ h1153 hle1156 s1154 ⟨rfl, hgg, rfl⟩; subst g1155; clear hle1156
  refine Op.pures 2 [2, 3, 17] (L' := [(13, false), (14, false), (15, false), (16, false), (17, false), (18, false), (19, false), (20, false), (21, false), (22, false), (23, false), (24, false), (25, false), (26, false), (27, false), (28, false), (29, false), (30, false), (31, false), (32, false), (33, false), (34, false), (35, false), (36, false), (37, false), (38, false), (39, false), (40, false)]) (e' := [(2, .pointer (some ⟨b1146, 0, none⟩)), (3, .pointer (some ⟨b1149, 0, none⟩)), (17, .bool (decide (a.Data = b.Data)))]) (by kernel_rfl) ?_
  refine Op.ways (b := decide (a.Data = b.Data)) ⟨fun hb => ?_, fun hb => ?_⟩
  ·refine Op.cast (e' := [(2, .pointer (some ⟨b1146, 0, none⟩)), (3, .pointer (some ⟨b1149, 0, none⟩)), (17, .bool true)]) (by rw [hb]) ?_
   have c1157 : a.Data = b.Data := of_decide_eq_true hb
   clear hb
   refine Op.pures 1 [2, 3, 17, 18] (L' := [(14, false), (15, false), (16, false), (17, false), (18, false), (19, false), (20, false), (21, false), (22, false), (23, false), (24, false), (25, false), (26, false), (27, false), (28, false), (29, false), (30, false), (31, false), (32, false), (33, false), (34, false), (35, false), (36, false), (37, false), (38, false), (39, false), (40, false)]) (e' := [(2, .pointer (some ⟨b1146, 0, none⟩)), (3, .pointer (some ⟨b1149, 0, none⟩)), (17, .bool true), (18, .pointer (some ⟨b1146, 2, none⟩))]) (by kernel_rfl) ?_
   refine Op.load (T := 3) (x := (.tmp 18)) (o := 2) (d := 19) (n := 1) (v := .int .i64 a.Version) (by kernel_rfl) (by kernel_rfl) (by kernel_rfl) (s1154.chunk 1 rfl) (by kernel_rfl) ?_
   refine Op.pures 1 [2, 3, 17, 19, 20] (L' := [(16, false), (17, false), (18, false), (19, false), (20, false), (21, false), (22, false), (23, false), (24, false), (25, false), (26, false), (27, false), (28, false), (29, false), (30, false), (31, false), (32, false), (33, false), (34, false), (35, false), (36, false), (37, false), (38, false), (39, false), (40, false)]) (e' := [(2, .pointer (some ⟨b1146, 0, none⟩)), (3, .pointer (some ⟨b1149, 0, none⟩)), (17, .bool true), (19, .int .i64 a.Version), (20, .pointer (some ⟨b1149, 2, none⟩))]) (by kernel_rfl) ?_
   refine Op.load (T := 3) (x := (.tmp 20)) (o := 2) (d := 21) (n := 1) (v := .int .i64 b.Version) (by kernel_rfl) (by kernel_rfl) (by kernel_rfl) (s1154.chunk 0 rfl) (by kernel_rfl) ?_
   refine Op.pures 3 [2, 3, 24] (L' := [(20, false), (21, false), (22, false), (23, false), (24, false), (25, false), (26, false), (27, false), (28, false), (29, false), (30, false), (31, false), (32, false), (33, false), (34, false), (35, false), (36, false), (37, false), (38, false), (39, false), (40, false)]) (e' := [(2, .pointer (some ⟨b1146, 0, none⟩)), (3, .pointer (some ⟨b1149, 0, none⟩)), (24, .bool (a.Version == b.Version))]) (by kernel_rfl) ?_
   refine Op.ways (b := a.Version == b.Version) ⟨fun hb => ?_, fun hb => ?_⟩
   ·refine Op.cast (e' := [(2, .pointer (some ⟨b1146, 0, none⟩)), (3, .pointer (some ⟨b1149, 0, none⟩)), (24, .bool true)]) (by rw [hb]) ?_
    have c1158 : a.Version = b.Version := eq_of_beq hb
    clear hb
    refine Op.pures 1 [2, 3, 24, 25] (L' := [(21, false), (22, false), (23, false), (24, false), (25, false), (26, false), (27, false), (28, false), (29, false), (30, false), (31, false), (32, false), (33, false), (34, false), (35, false), (36, false), (37, false), (38, false), (39, false), (40, false)]) (e' := [(2, .pointer (some ⟨b1146, 0, none⟩)), (3, .pointer (some ⟨b1149, 0, none⟩)), (24, .bool true), (25, .pointer (some ⟨b1146, 3, none⟩))]) (by kernel_rfl) ?_
    refine Op.load (T := 3) (x := (.tmp 25)) (o := 3) (d := 26) (n := 1) (v := .int .i64 a.Owner) (by kernel_rfl) (by kernel_rfl) (by kernel_rfl) (s1154.chunk 1 rfl) (by kernel_rfl) ?_
    refine Op.pures 1 [2, 3, 24, 26, 27] (L' := [(23, false), (24, false), (25, false), (26, false), (27, false), (28, false), (29, false), (30, false), (31, false), (32, false), (33, false), (34, false), (35, false), (36, false), (37, false), (38, false), (39, false), (40, false)]) (e' := [(2, .pointer (some ⟨b1146, 0, none⟩)), (3, .pointer (some ⟨b1149, 0, none⟩)), (24, .bool true), (26, .int .i64 a.Owner), (27, .pointer (some ⟨b1149, 3, none⟩))]) (by kernel_rfl) ?_
    refine Op.load (T := 3) (x := (.tmp 27)) (o := 3) (d := 28) (n := 1) (v := .int .i64 b.Owner) (by kernel_rfl) (by kernel_rfl) (by kernel_rfl) (s1154.chunk 0 rfl) (by kernel_rfl) ?_
    refine Op.pures 3 [2, 3, 31] (L' := [(27, false), (28, false), (29, false), (30, false), (31, false), (32, false), (33, false), (34, false), (35, false), (36, false), (37, false), (38, false), (39, false), (40, false)]) (e' := [(2, .pointer (some ⟨b1146, 0, none⟩)), (3, .pointer (some ⟨b1149, 0, none⟩)), (31, .bool (a.Owner == b.Owner))]) (by kernel_rfl) ?_
    refine Op.ways (b := a.Owner == b.Owner) ⟨fun hb => ?_, fun hb => ?_⟩
    ·refine Op.cast (e' := [(2, .pointer (some ⟨b1146, 0, none⟩)), (3, .pointer (some ⟨b1149, 0, none⟩)), (31, .bool true)]) (by rw [hb]) ?_
     have c1159 : a.Owner = b.Owner := eq_of_beq hb
     clear hb
     refine Op.pures 1 [2, 3, 31, 32] (L' := [(28, false), (29, false), (30, false), (31, false), (32, false), (33, false), (34, false), (35, false), (36, false), (37, false), (38, false), (39, false), (40, false)]) (e' := [(2, .pointer (some ⟨b1146, 0, none⟩)), (3, .pointer (some ⟨b1149, 0, none⟩)), (31, .bool true), (32, .pointer (some ⟨b1146, 4, none⟩))]) (by kernel_rfl) ?_
     refine Op.load (T := 3) (x := (.tmp 32)) (o := 4) (d := 33) (n := 1) (v := .int .i64 a.Next) (by kernel_rfl) (by kernel_rfl) (by kernel_rfl) (s1154.chunk 1 rfl) (by kernel_rfl) ?_
     refine Op.pures 1 [2, 3, 31, 33, 34] (L' := [(30, false), (31, false), (32, false), (33, false), (34, false), (35, false), (36, false), (37, false), (38, false), (39, false), (40, false)]) (e' := [(2, .pointer (some ⟨b1146, 0, none⟩)), (3, .pointer (some ⟨b1149, 0, none⟩)), (31, .bool true), (33, .int .i64 a.Next), (34, .pointer (some ⟨b1149, 4, none⟩))]) (by kernel_rfl) ?_
     refine Op.load (T := 3) (x := (.tmp 34)) (o := 4) (d := 35) (n := 1) (v := .int .i64 b.Next) (by kernel_rfl) (by kernel_rfl) (by kernel_rfl) (s1154.chunk 0 rfl) (by kernel_rfl) ?_
     refine Op.pures 3 [2, 3, 38] (L' := [(34, false), (35, false), (36, false), (37, false), (38, false), (39, false), (40, false)]) (e' := [(2, .pointer (some ⟨b1146, 0, none⟩)), (3, .pointer (some ⟨b1149, 0, none⟩)), (38, .bool (a.Next == b.Next))]) (by kernel_rfl) ?_
     refine Op.ways (b := a.Next == b.Next) ⟨fun hb => ?_, fun hb => ?_⟩
     ·refine Op.cast (e' := [(2, .pointer (some ⟨b1146, 0, none⟩)), (3, .pointer (some ⟨b1149, 0, none⟩)), (38, .bool true)]) (by rw [hb]) ?_
      have c1160 : a.Next = b.Next := eq_of_beq hb
      clear hb
      refine Op.pures 1 [3, 38, 39] (L' := [(35, false), (36, false), (37, false), (38, false), (39, false), (40, false)]) (e' := [(3, .pointer (some ⟨b1149, 0, none⟩)), (38, .bool true), (39, .pointer (some ⟨b1146, 5, none⟩))]) (by kernel_rfl) ?_
      refine Op.load (T := 3) (x := (.tmp 39)) (o := 5) (d := 40) (n := 1) (v := .int .i64 a.Born) (by kernel_rfl) (by kernel_rfl) (by kernel_rfl) (s1154.chunk 1 rfl) (by kernel_rfl) ?_
      refine Op.pures 1 [38, 40, 41] (L' := [(37, false), (38, false), (39, false), (40, false)]) (e' := [(38, .bool true), (40, .int .i64 a.Born), (41, .pointer (some ⟨b1149, 5, none⟩))]) (by kernel_rfl) ?_
      refine Op.load (T := 3) (x := (.tmp 41)) (o := 5) (d := 42) (n := 1) (v := .int .i64 b.Born) (by kernel_rfl) (by kernel_rfl) (by kernel_rfl) (s1154.chunk 0 rfl) (by kernel_rfl) ?_
      refine Op.pures 3 [4] (L' := []) (e' := [(4, .bool (a.Born == b.Born))]) (by kernel_rfl) ?_
      refine Op.goto 2 (by kernel_rfl) ?_
      refine At.ret (f := Tryz.f35) (v := .bool (a.Born == b.Born)) (by kernel_rfl) (by kernel_rfl) ?_
      have s1161 : St h g (ids []) g [] h1153 := (s1154).drop.drop
      refine hR _ _ _ _ s1161 ⟨?_, rfl, rfl⟩
      exact (eqB (by exact lfY (by assumption) (by assumption) (by assumption) (by assumption) (by assumption)))
     ·refine Op.cast (e' := [(2, .pointer (some ⟨b1146, 0, none⟩)), (3, .pointer (some ⟨b1149, 0, none⟩)), (38, .bool false)]) (by rw [hb]) ?_
      have c1162 : ¬ (a.Next = b.Next) := neF hb
      clear hb
      refine Op.pures 7 [4] (L' := []) (e' := [(4, .bool false)]) (by kernel_rfl) ?_
      refine Op.goto 2 (by kernel_rfl) ?_
      refine At.ret (f := Tryz.f35) (v := .bool false) (by kernel_rfl) (by kernel_rfl) ?_
      have s1163 : St h g (ids []) g [] h1153 := (s1154).drop.drop
      refine hR _ _ _ _ s1163 ⟨?_, rfl, rfl⟩
      exact (eqB (by exact lfN (.inr (.inr (.inr (.inr (by assumption)))))))
    ·refine Op.cast (e' := [(2, .pointer (some ⟨b1146, 0, none⟩)), (3, .pointer (some ⟨b1149, 0, none⟩)), (31, .bool false)]) (by rw [hb]) ?_
     have c1164 : ¬ (a.Owner = b.Owner) := neF hb
     clear hb
     refine Op.pures 14 [4] (L' := []) (e' := [(4, .bool false)]) (by kernel_rfl) ?_
     refine Op.goto 2 (by kernel_rfl) ?_
     refine At.ret (f := Tryz.f35) (v := .bool false) (by kernel_rfl) (by kernel_rfl) ?_
     have s1165 : St h g (ids []) g [] h1153 := (s1154).drop.drop
     refine hR _ _ _ _ s1165 ⟨?_, rfl, rfl⟩
     exact (eqB (by exact lfN (.inr (.inr (.inr (.inl (by assumption)))))))
   ·refine Op.cast (e' := [(2, .pointer (some ⟨b1146, 0, none⟩)), (3, .pointer (some ⟨b1149, 0, none⟩)), (24, .bool false)]) (by rw [hb]) ?_
    have c1166 : ¬ (a.Version = b.Version) := neF hb
    clear hb
    refine Op.pures 21 [4] (L' := []) (e' := [(4, .bool false)]) (by kernel_rfl) ?_
    refine Op.goto 2 (by kernel_rfl) ?_
    refine At.ret (f := Tryz.f35) (v := .bool false) (by kernel_rfl) (by kernel_rfl) ?_
    have s1167 : St h g (ids []) g [] h1153 := (s1154).drop.drop
    refine hR _ _ _ _ s1167 ⟨?_, rfl, rfl⟩
    exact (eqB (by exact lfN (.inr (.inr (.inl (by assumption))))))
  ·refine Op.cast (e' := [(2, .pointer (some ⟨b1146, 0, none⟩)), (3, .pointer (some ⟨b1149, 0, none⟩)), (17, .bool false)]) (by rw [hb]) ?_
   have c1168 : ¬ (a.Data = b.Data) := of_decide_eq_false hb
   clear hb
   refine Op.pures 28 [4] (L' := []) (e' := [(4, .bool false)]) (by kernel_rfl) ?_
   refine Op.goto 2 (by kernel_rfl) ?_
   refine At.ret (f := Tryz.f35) (v := .bool false) (by kernel_rfl) (by kernel_rfl) ?_
   have s1169 : St h g (ids []) g [] h1153 := (s1154).drop.drop
   refine hR _ _ _ _ s1169 ⟨?_, rfl, rfl⟩
   exact (eqB (by exact lfN (.inr (.inl (by assumption)))))
 ·refine Op.cast (e' := [(2, .pointer (some ⟨b1146, 0, none⟩)), (3, .pointer (some ⟨b1149, 0, none⟩)), (10, .bool false)]) (by rw [hb]) ?_
  have c1170 : ¬ (a.Path = b.Path) := neF hb
  clear hb
  refine Op.pures 35 [4] (L' := []) (e' := [(4, .bool false)]) (by kernel_rfl) ?_
  refine Op.goto 2 (by kernel_rfl) ?_
  refine At.ret (f := Tryz.f35) (v := .bool false) (by kernel_rfl) (by kernel_rfl) ?_
  have s1171 : St h g (ids []) g [] h1150 := (s1151).drop.drop
  refine hR _ _ _ _ s1171 ⟨?_, rfl, rfl⟩
  exact (eqB (by exact lfN (.inl (by assumption))))
theorem sameLeaves (B : World) (h : Heap) (g : GH) (hg : Sub g h) (hG : Glob g) (v_a : Value) (a : List Leaf) (h_a : SlR g 59 kLeaf v_a a) (v_b : Value) (b : List Leaf) (h_b : SlR g 59 kLeaf v_b b) (h1 : a.length ≤ 1000000000) (hd : ∀ n ∈ a, n.Data.length ≤ 1000000000) :
  Spec Tryz.prog B 39 #[v_a, v_b] h g [] (fun rv g' L' => rv = .bool (decide (a = b)) ∧ g' = g ∧ L' = []) := by
 obtain ⟨a_a, n_a, rfl⟩ := h_a.form
 obtain ⟨a_b, n_b, rfl⟩ := h_b.form
 refine Spec.of_at (f := Tryz.f39) (e := [(0, .slice a_a a.length n_a), (1, .slice a_b b.length n_b)]) Tryz.func39 (by kernel_rfl) (Nat.le_of_ble_eq_true (by kernel_rfl)) (by kernel_rfl) (by kernel_rfl) ?_
 intro R hR
 have s0 := St.init hg
 refine At.reg (L := [(0, false)]) (by kernel_rfl) ?_
 refine Op.pures 1 [0, 1] (L' := []) (e' := [(0, .slice a_a a.length n_a), (1, .slice a_b b.length n_b)]) (by kernel_rfl) ?_
 refine Op.goto 1 (by kernel_rfl) ?_
 refine At.reg (L := [(0, false), (1, false), (2, false), (3, false), (4, false)]) (by kernel_rfl) ?_
 refine Op.pures 5 [0, 1, 10] (L' := []) (e' := [(0, .slice a_a a.length n_a), (1, .slice a_b b.length n_b), (10, .bool ((a.length : Int) != (b.length : Int)))]) (by kernel_rfl) ?_
 refine Op.goto 2 (by kernel_rfl) ?_
 refine At.cond (b := (a.length : Int) != (b.length : Int)) (c := .tmp 10) (by kernel_rfl) (by kernel_rfl) (by kernel_rfl) 3 5 (by kernel_rfl) (by kernel_rfl) (fun hb => ?_) (fun hb => ?_)
 ·have c1172 : ¬ ((a.length : Int) = (b.length : Int)) := bneT hb
  clear hb
  refine At.keep [] ?_; show At _ _ _ [] _
  refine At.reg (L := [(0, false)]) (by kernel_rfl) ?_
  refine Op.pures 1 [4] (L' := []) (e' := [(4, .bool false)]) (by kernel_rfl) ?_
  refine Op.goto 4 (by kernel_rfl) ?_
  refine At.ret (f := Tryz.f39) (v := .bool false) (by kernel_rfl) (by kernel_rfl) ?_
  refine hR _ _ _ _ s0 ⟨?_, rfl, rfl⟩
  exact (eqB (by exact sameE_len (by assumption)))
 ·have c1173 : (a.length : Int) = (b.length : Int) := bneF hb
  clear hb
  refine At.keep [0, 1] ?_; show At _ _ _ [(0, .slice a_a a.length n_a), (1, .slice a_b b.length n_b)] _
  refine At.reg (L := [(0, false)]) (by kernel_rfl) ?_
  refine Op.pures 1 [0, 1, 5] (L' := []) (e' := [(0, .slice a_a a.length n_a), (1, .slice a_b b.length n_b), (5, .int .i64 0)]) (by kernel_rfl) ?_
  refine Op.goto 6 (by kernel_rfl) ?_
  have loop6 : ∀ (m : Nat) (i : Int) (h1174 : Heap) (hm : a.length - i.toNat < m) (h0 : 0 ≤ i) (h2 : i ≤ a.length) (ht : a.take i.toNat = b.take i.toNat)     (s_loop61173 : St h g (ids []) g [] h1174), At (fctx Tryz.prog B 39 Tryz.f39 R) [] 6 [(0, .slice a_a a.length n_a), (1, .slice a_b b.length n_b), (5, .int .i64 i)] h1174 := by
   intro m; induction m with
   | zero => intros; omega
   | succ m ih6 =>
    intro i h1174 hm h0 h2 ht s_loop61173
    refine At.reg (L := [(0, false), (1, false), (2, false), (3, false)]) (by kernel_rfl) ?_
    refine Op.pures 4 [0, 1, 5, 14] (L' := []) (e' := [(0, .slice a_a a.length n_a), (1, .slice a_b b.length n_b), (5, .int .i64 i), (14, .bool (decide (i < (a.length : Int))))]) (by kernel_rfl) ?_
    refine Op.goto 7 (by kernel_rfl) ?_
    refine At.cond (b := decide (i < (a.length : Int))) (c := .tmp 14) (by kernel_rfl) (by kernel_rfl) (by kernel_rfl) 8 13 (by kernel_rfl) (by kernel_rfl) (fun hb => ?_) (fun hb => ?_)
    ·have c1175 : i < (a.length : Int) := of_decide_eq_true hb
     clear hb
     refine At.keep [0, 1, 5] ?_; show At _ _ _ [(0, .slice a_a a.length n_a), (1, .slice a_b b.length n_b), (5, .int .i64 i)] _
     refine At.draw (by kernel_rfl) (fun _ => False) [(0, true), (1, true), (2, true), (4, true), (5, true), (6, true), (3, true), (7, false), (8, false), (9, true)] (by kernel_rfl) ?_
     refine Op.pures 2 [0, 1, 5, 17, 18] (L' := [(2, true), (4, true), (5, true), (6, true), (3, true), (7, false), (8, false), (9, true)]) (e' := [(0, .slice a_a a.length n_a), (1, .slice a_b b.length n_b), (5, .int .i64 i), (17, .slice a_a a.length n_a), (18, .int .i64 i)]) (by kernel_rfl) ?_
     obtain ⟨x1176, hx1177⟩ : ∃ c, a[(i : Int).toNat]? = some c := ⟨_, List.getElem?_eq_getElem (by omega)⟩
     obtain ⟨b1178, o1179, cu1180, fz1181, ha1182, hb1183, hk1184⟩ := SlR.at_ h_a _ hx1177
     cases ha1182
     refine Op.idx (T := 52) (E := 59) (sz := 6) (by_ := 72) (n := a.length) (c := n_a) (k := .i64) (x := (.tmp 17)) (ix := (.tmp 18)) (dst := 19) (bk := b1178) (o := o1179) (m := i) (by kernel_rfl) (by kernel_rfl) (by kernel_rfl) (by kernel_rfl) (by omega) (by omega) ?_
     obtain ⟨v1185, hv1186, hk1184⟩ := hk1184
     obtain ⟨a1187, n1188, rfl⟩ := hv1186.form
     refine Op.pures 2 [0, 1, 5, 19, 21, 22] (L' := [(6, true), (3, true), (7, false), (8, false), (9, true)]) (e' := [(0, .slice (some ⟨b1178, o1179, none⟩) a.length n_a), (1, .slice a_b b.length n_b), (5, .int .i64 i), (19, .pointer (some ⟨b1178, o1179 + (i : Int).toNat * 6, none⟩)), (21, .slice a_b b.length n_b), (22, .int .i64 i)]) (by kernel_rfl) ?_
     obtain ⟨x1189, hx1190⟩ : ∃ c, b[(i : Int).toNat]? = some c := ⟨_, List.getElem?_eq_getElem (by omega)⟩
     obtain ⟨b1191, o1192, cu1193, fz1194, ha1195, hb1196, hk1197⟩ := SlR.at_ h_b _ hx1190
     cases ha1195
     refine Op.idx (T := 52) (E := 59) (sz := 6) (by_ := 72) (n := b.length) (c := n_b) (k := .i64) (x := (.tmp 21)) (ix := (.tmp 22)) (dst := 23) (bk := b1191) (o := o1192) (m := i) (by kernel_rfl) (by kernel_rfl) (by kernel_rfl) (by kernel_rfl) (by omega) (by omega) ?_
     obtain ⟨v1198, hv1199, hk1197⟩ := hk1197
     obtain ⟨a1200, n1201, rfl⟩ := hv1199.form
     refine Op.loadAF (T := 59) (x := (.tmp 19)) (o := o1179 + (i : Int).toNat * 6) (d := 20) (n := 6) (vs := [.string (mkS x1176.Path), .slice a1187 x1176.Data.length n1188, .int .i64 x1176.Version, .int .i64 x1176.Owner, .int .i64 x1176.Next, .int .i64 x1176.Born]) (by kernel_rfl) (by kernel_rfl) (by kernel_rfl) (fun h => h) (s_loop61173.sub _ _ hb1183) (hk1184) rfl ?_
     refine Op.loadA (T := 59) (x := (.tmp 23)) (o := o1192 + (i : Int).toNat * 6) (d := 24) (n := 6) (vs := [.string (mkS x1189.Path), .slice a1200 x1189.Data.length n1201, .int .i64 x1189.Version, .int .i64 x1189.Owner, .int .i64 x1189.Next, .int .i64 x1189.Born]) (by kernel_rfl) (by kernel_rfl) (by kernel_rfl) (s_loop61173.sub _ _ hb1196) (hk1197) rfl ?_
     refine Op.call0 (dst := some 25) (f := 35) (args := #[.agg #[.string (mkS x1176.Path), .slice a1187 x1176.Data.length n1188, .int .i64 x1176.Version, .int .i64 x1176.Owner, .int .i64 x1176.Next, .int .i64 x1176.Born], .agg #[.string (mkS x1189.Path), .slice a1200 x1189.Data.length n1201, .int .i64 x1189.Version, .int .i64 x1189.Owner, .int .i64 x1189.Next, .int .i64 x1189.Born]]) (by kernel_rfl) s_loop61173 (sameLeaf _ _ _ s_loop61173.sub hG x1176 _ hv1186 x1189 _ hv1199 (by ((try dsimp only) <;> (exact hd _ (List.mem_of_getElem? hx1177)))) ) ?_
     rintro _ g1204 _ h1202 hle1205 s1203 ⟨rfl, hgg, rfl⟩; subst g1204; clear hle1205
     refine Op.pures 1 [0, 1, 5, 26] (L' := []) (e' := [(0, .slice (some ⟨b1178, o1179, none⟩) a.length n_a), (1, .slice (some ⟨b1191, o1192, none⟩) b.length n_b), (5, .int .i64 i), (26, .bool (!(decide (x1176 = x1189))))]) (by kernel_rfl) ?_
     refine Op.goto 9 (by kernel_rfl) ?_
     refine At.cond (b := !(decide (x1176 = x1189))) (c := .tmp 26) (by kernel_rfl) (by kernel_rfl) (by kernel_rfl) 10 12 (by kernel_rfl) (by kernel_rfl) (fun hb => ?_) (fun hb => ?_)
     ·have c1206 : ¬ (x1176 = x1189) := of_decide_eq_false (notT hb)
      clear hb
      refine At.keep [] ?_; show At _ _ _ [] _
      refine At.reg (L := [(0, false)]) (by kernel_rfl) ?_
      refine Op.pures 1 [4] (L' := []) (e' := [(4, .bool false)]) (by kernel_rfl) ?_
      refine Op.goto 11 (by kernel_rfl) ?_
      refine At.ret (f := Tryz.f39) (v := .bool false) (by kernel_rfl) (by kernel_rfl) ?_
      refine hR _ _ _ _ s1203 ⟨?_, rfl, rfl⟩
      exact (eqB (by exact sameE_ne hx1177 hx1190 (c1206)))
     ·have c1207 : x1176 = x1189 := of_decide_eq_true (notF hb)
      clear hb
      refine At.keep [0, 1, 5] ?_; show At _ _ _ [(0, .slice (some ⟨b1178, o1179, none⟩) a.length n_a), (1, .slice (some ⟨b1191, o1192, none⟩) b.length n_b), (5, .int .i64 i)] _
      refine At.reg (L := [(0, false), (1, false), (2, false)]) (by kernel_rfl) ?_
      refine Op.pures 1 [0, 1, 5, 15] (L' := [(1, false), (2, false)]) (e' := [(0, .slice (some ⟨b1178, o1179, none⟩) a.length n_a), (1, .slice (some ⟨b1191, o1192, none⟩) b.length n_b), (5, .int .i64 i), (15, .int .i64 i)]) (by kernel_rfl) ?_
      refine Op.val (dst := some 16) (v := .int .i64 (IntKind.wrap .i64 (i + 1))) (v' := .int .i64 (i + 1)) (by kernel_rfl) (wrapEq_i64 (by omega) (by omega)) ?_
      refine Op.pures 1 [0, 1, 5] (L' := []) (e' := [(0, .slice (some ⟨b1178, o1179, none⟩) a.length n_a), (1, .slice (some ⟨b1191, o1192, none⟩) b.length n_b), (5, .int .i64 (i + 1))]) (by kernel_rfl) ?_
      refine Op.goto 6 (by kernel_rfl) ?_
      exact ih6  (i + 1) _ (by omega) (by omega) (by omega) (by exact take_step ht h0 hx1177 hx1190 (c1207))  s1203
    ·have c1208 : ¬ (i < (a.length : Int)) := of_decide_eq_false hb
     clear hb
     refine At.keep [] ?_; show At _ _ _ [] _
     refine At.reg (L := [(0, false)]) (by kernel_rfl) ?_
     refine Op.pures 1 [4] (L' := []) (e' := [(4, .bool true)]) (by kernel_rfl) ?_
     refine Op.goto 14 (by kernel_rfl) ?_
     refine At.ret (f := Tryz.f39) (v := .bool true) (by kernel_rfl) (by kernel_rfl) ?_
     refine hR _ _ _ _ s_loop61173 ⟨?_, rfl, rfl⟩
     exact (eqB (by exact sameE_end (by assumption) c1208 ht))
  exact loop6 _  0 _ (Nat.lt_succ_self _) (by omega) (by omega) (by rfl)  s0
end Go.Proofs.YtmjebehhpojihaaGreatDoor.Sw
namespace Go.Proofs.YtmjebehhpojihaaGreatDoor.Sw
set_option linter.unusedVariables false
set_option linter.unusedSimpArgs false
set_option linter.deprecated false
open Go
def al1 : List Leaf := [⟨[47], [], 0, -1, 0, 0⟩, ⟨[47, 113], [], 0, -1, 0, 1⟩]
def al2 : List Leaf := [⟨[47], [], 0, -1, 0, 0⟩, ⟨[47, 113], [], 0, -1, 1, 1⟩, ⟨[47, 113, 47, 116, 45, 48, 48, 48, 48, 48], [120], 0, 3, 0, 2⟩]
theorem al_1 : makeT [⟨[47], [], 0, -1, 0, 0⟩] [47, 113] [] (-1) 1 false = (al1, [47, 113], 0) := by decide +kernel
theorem al_num : numS [47, 113, 47, 116, 45] 0 = [47, 113, 47, 116, 45, 48, 48, 48, 48, 48] ∧ numE [47, 113, 47, 116, 45] 0 = 0 := by
  have h : numOk [47, 113, 47, 116, 45] 0 = true := by decide +kernel
  have hd : dig5 0 = [48, 48, 48, 48, 48] := by rw [← low_dig (by decide) (by decide)]; decide +kernel
  unfold numS numE
  rw [if_pos h, if_pos h, hd]
  decide +kernel
theorem al_2 : makeT al1 [47, 113, 47, 116, 45] [120] 3 2 true = (al2, [47, 113, 47, 116, 45, 48, 48, 48, 48, 48], 0) := by
  have h := rm_8 (ns := al1) (p := [47, 113, 47, 116, 45]) (data := [120]) (owner := 3) (born := 2) (num := true) (up := ⟨[47, 113], [], 0, -1, 0, 1⟩) (q := [47, 113, 47, 116, 45, 48, 48, 48, 48, 48])
    (by decide +kernel) (by decide) (by decide +kernel) rfl ⟨al_num.2, al_num.1⟩ (by decide +kernel) (by decide +kernel)
  rw [h]
  have : madeL al1 ⟨[47, 113], [], 0, -1, 0, 1⟩ [47, 113, 47, 116, 45, 48, 48, 48, 48, 48] [120] 3 2 true = al2 := by decide +kernel
  rw [this]
theorem al_3 : getT al2 [47, 113, 47, 116, 45, 48, 48, 48, 48, 48] = (⟨[47, 113, 47, 116, 45, 48, 48, 48, 48, 48], [120], 0, 3, 0, 2⟩, 0) := by decide +kernel
theorem al_4 : dropT al2 [47, 113] (-1) = (al2, 103) := by decide +kernel
theorem al_b0 : TreeB [⟨[47], [], 0, -1, 0, 0⟩] := (TreeOk.new).b (by decide)
theorem al_b1 : TreeB al1 := ⟨by decide, by decide⟩
theorem al_b2 : TreeB al2 := ⟨by decide, by decide⟩
def opZ (o : L10Op) : Int := (1 + (o.Path.length : Int)) + (o.Data.length : Int)
def grN : List L10Op → Int → Int
  | [], n => n
  | o :: r, n => if n ≤ 100000 then grN r (n + opZ o) else n
theorem gr_step {l : List L10Op} {i n : Int} {o : L10Op} (h : grN l 0 = grN (l.drop i.toNat) n) (h0 : 0 ≤ i) (hx : l[i.toNat]? = some o) (hn : n ≤ 100000) : grN l 0 = grN (l.drop (i + 1).toNat) (n + opZ o) := by
  rw [h, drop_at hx, toNat_succ h0, grN, if_pos hn]
theorem gr_end1 {l : List L10Op} {i n : Int} (h : grN l 0 = grN (l.drop i.toNat) n) (hi : ¬ (i < (l.length : Int))) : n = grN l 0 := by
  rw [h, List.drop_eq_nil_of_le (by omega)]; rfl
theorem gr_end2 {l : List L10Op} {i n : Int} (h : grN l 0 = grN (l.drop i.toNat) n) (hn : ¬ (n ≤ 100000)) : n = grN l 0 := by
  rw [h]
  cases l.drop i.toNat with
  | nil => rfl
  | cons o r => rw [grN, if_neg hn]
theorem grN_ge : ∀ (l : List L10Op) (n : Int), n ≤ grN l n
  | [], n => by simp [grN]
  | o :: r, n => by
    unfold grN
    split
    · have := grN_ge r (n + opZ o)
      unfold opZ at *
      omega
    · omega
def greatB (l : List L10Op) : Bool := decide (grN l 0 > 10000) || decide ((l.length : Int) > 150)
theorem gr_mem : ∀ (l : List L10Op) (n : Int), 0 ≤ n → grN l n ≤ 10000 → ∀ o ∈ l, o.Path.length ≤ 10000 ∧ o.Data.length ≤ 10000
  | [], n, _, _, o, ho => absurd ho (by simp)
  | q :: r, n, h0, h, o, ho => by
    unfold grN at h
    split at h
    · have hz : 0 ≤ opZ q := by unfold opZ; omega
      rcases List.mem_cons.1 ho with rfl | ho
      · have := grN_ge r (n + opZ o)
        unfold opZ at *
        omega
      · exact gr_mem r (n + opZ q) (by omega) h o ho
    · omega
theorem small {l : List L10Op} (h : greatB l = false) : l.length ≤ 150 ∧ ∀ o ∈ l, o.Path.length ≤ 10000 ∧ o.Data.length ≤ 10000 := by
  unfold greatB at h
  rw [Bool.or_eq_false_iff] at h
  have h1 := of_decide_eq_false h.1
  have h2 := of_decide_eq_false h.2
  exact ⟨by omega, gr_mem l 0 (by omega) (by omega)⟩
theorem greatB_1 {l : List L10Op} {n : Int} (h : n = grN l 0) (hn : n > 10000) : true = greatB l := by
  unfold greatB; rw [← h, decide_eq_true hn]; rfl
theorem greatB_2 {l : List L10Op} {n : Int} (h : n = grN l 0) (hn : ¬ n > 10000) : decide ((l.length : Int) > 150) = greatB l := by
  unfold greatB; rw [← h, decide_eq_false hn]; rfl
section
variable {k : Int} {ns : List Leaf} {p : Str}
theorem getT_data {ns : List Leaf} (h : TreeB ns) (p : Str) : ((getT ns p).1).Data.length ≤ 128 := by
  unfold getT
  split
  · split
    · exact Nat.zero_le _
    · rename_i l hf; exact h.data hf
  · exact Nat.zero_le _
section
variable {cur : List Leaf} {ow : List Int} {j z : Int} {inn : Bool} {x : Leaf}
end
section
variable {j z n : Int} {x y : Leaf} {q : Str}
end
section
variable {x last : Str} {m z a : Int} {c : List Leaf} {n : Leaf}
end
section
variable {A af : List Leaf} {z : Int} {x : Leaf} {up : Str} {num : Bool}
theorem bk_at (h : af = (A.take z.toNat).map (downF up num) ++ A.drop z.toNat) (h0 : 0 ≤ z) (hx : af[z.toNat]? = some x) : A[z.toNat]? = some x ∧ z.toNat < A.length := by
  have hl := (List.getElem?_eq_some_iff.1 hx).1
  rw [h] at hx hl
  rw [List.length_append, List.length_map, List.length_take, List.length_drop] at hl
  have hz : z.toNat < A.length := by omega
  rw [List.getElem?_append_right (by rw [List.length_map, List.length_take]; omega), List.length_map, List.length_take, List.getElem?_drop] at hx
  have : z.toNat + (z.toNat - min z.toNat A.length) = z.toNat := by omega
  rw [this] at hx
  exact ⟨hx, hz⟩
theorem bk_skip (h : af = (A.take z.toNat).map (downF up num) ++ A.drop z.toNat) (h0 : 0 ≤ z) (hx : af[z.toNat]? = some x) (hs : ¬ x.Path = up ∨ num = false) : af = (A.take (z + 1).toNat).map (downF up num) ++ A.drop (z + 1).toNat := by
  obtain ⟨h1, h2⟩ := bk_at h h0 hx
  have hf : downF up num x = x := by
    unfold downF
    rcases hs with hs | hs <;> simp [hs]
  rw [toNat_succ h0, take_at h1, List.map_append, List.map_cons, List.map_nil, hf, List.append_assoc, List.singleton_append, ← toNat_succ h0, ← drop_cons h0 h1]
  exact h
theorem bk_put (h : af = (A.take z.toNat).map (downF up num) ++ A.drop z.toNat) (h0 : 0 ≤ z) (hx : af[z.toNat]? = some x) (hp : x.Path = up) (hn : num = true) :
    af.set z.toNat ⟨x.Path, x.Data, x.Version, x.Owner, IntKind.wrap .i64 (x.Next - 1), x.Born⟩ = (A.take (z + 1).toNat).map (downF up num) ++ A.drop (z + 1).toNat := by
  obtain ⟨h1, h2⟩ := bk_at h h0 hx
  have hf : downF up num x = ⟨x.Path, x.Data, x.Version, x.Owner, IntKind.wrap .i64 (x.Next - 1), x.Born⟩ := by
    unfold downF backL
    simp [hp, hn]
  have hl : ((A.take z.toNat).map (downF up num)).length = z.toNat := by rw [List.length_map, List.length_take]; omega
  rw [h, List.set_append_right _ _ (by omega), hl, Nat.sub_self, drop_cons h0 h1, List.set_cons_zero, toNat_succ h0, take_at h1, List.map_append, List.map_cons, List.map_nil, hf, List.append_assoc, List.singleton_append]
theorem bk_len (h : af = (A.take z.toNat).map (downF up num) ++ A.drop z.toNat) (h1 : z ≤ A.length) (h0 : 0 ≤ z) : af.length = A.length := by
  rw [h, List.length_append, List.length_map, List.length_take, List.length_drop]; omega
theorem bk_end {upl : Leaf} {q p data : Str} {n1 : List Leaf} (H : TreeOk k ns) (hk : k ≤ 90000) (HB : Back k ns p data num q upl n1) (h : af = ((upL ns upl num).take z.toNat).map (downF (parentOf q) num) ++ (upL ns upl num).drop z.toNat) (hz : ¬ z < (af.length : Int)) (h1 : z ≤ (upL ns upl num).length) (h0 : 0 ≤ z) : af = ns := by
  have hl := bk_len h h1 h0
  rw [List.take_of_length_le (by omega), List.drop_eq_nil_of_le (by omega), List.append_nil, HB.up.2.1, back_up H (by omega) HB.up.1] at h
  exact h
end
section
variable {upl : Leaf} {q p data d dd : Str} {n1 : List Leaf} {num : Bool}
theorem Back.g2 (H : Back k ns p data num q upl n1) : (getT n1 q).2 = 0 ∧ (getT n1 q).1.Data = data ∧ (getT n1 q).1.Version = 0 ∧ (getT n1 q).1.Born = 5 := by
  rw [H.get]; exact ⟨rfl, rfl, rfl, rfl⟩
theorem Back.s1 (H : Back k ns p data num q upl n1) (h : d.length ≤ 128) : (setT n1 q d 0).2.2 = 0 ∧ (setT n1 q d 0).2.1 = 1 := by
  rw [H.set d h]; exact ⟨rfl, rfl⟩
theorem Back.s2 (H : Back k ns p data num q upl n1) (h : d.length ≤ 128) : (setT (withL n1 ⟨q, d, 1, -1, 0, 5⟩) q dd 0).2.2 = 102 := by
  rw [H.set2 d dd h]
theorem Back.d1 (H : Back k ns p data num q upl n1) (h : d.length ≤ 128) : (dropT (withL n1 ⟨q, d, 1, -1, 0, 5⟩) q 0).2 = 102 := by
  rw [H.drop1 d h]
theorem Back.d2 (H : Back k ns p data num q upl n1) (h : d.length ≤ 128) : (dropT (dropT (withL n1 ⟨q, d, 1, -1, 0, 5⟩) q 0).1 q 1).2 = 0 := by
  rw [H.drop1 d h]
  show (dropT (withL n1 ⟨q, d, 1, -1, 0, 5⟩) q 1).2 = 0
  rw [H.drop2 d h]
end
end
end Go.Proofs.YtmjebehhpojihaaGreatDoor.Sw
namespace Go.Proofs.YtmjebehhpojihaaGreatDoor.Sw
set_option linter.unusedVariables false
set_option linter.unusedSimpArgs false
set_option linter.deprecated false
open Go
section
variable {C : Ctx} {ds : List Deferred} {i j : Nat} {r : Heap} {M : Nat → Prop} {Ls : List (Nat × Bool)} {e : Env} {h : Heap}
variable {h0 : Heap} {g0 : GH} {S0 : Nat → Prop} {g : GH} {L : List Chunk}
theorem Op.convLit {dst : Nat} {T E : TypeId} {x : Operand} {b n : Nat} {cs : Array Value} {xs : List UInt8} (ho : nextDO C i j e = some (some dst, .convert T T x)) (hT : C.P.underlying T = some (.slice E)) (hE : C.P.underlying E = some (.int .u8))
    (hx : e.ev x = .slice (some ⟨b, 0, none⟩) n n) (hn : xs.length = n) (s : St h0 g0 S0 g ([(b, .cells cs E (0, 0))] :: L) h) (hr : Reads kU8 g xs (cut cs 0 (xs.length * kU8.sz))) (hM : b < r.size → M b)
    (K : ∀ g' h', gle g g' → St h0 g0 S0 g' L h' → SlR g' E kU8 (.slice (some ⟨b, 0, none⟩) n n) xs → Op C ds i r M Ls ((dst, .slice (some ⟨b, 0, none⟩) n n) :: e) h') : Op C ds i r M ((j, false) :: Ls) e h := by
  obtain ⟨o', h1, h2, h3⟩ := nextDO_spec ho
  have hb := s.chunk 0 rfl
  let f : Obj → Obj := fun | .cells c elem (lo, hi) => .cells c elem (if lo == hi then (cs.size, cs.size + 1) else (min lo cs.size, max hi (cs.size + 1))) | o => o
  have u : Upd h b (.cells cs E (cs.size, cs.size + 1)) (h.modify b f) := Upd.modify f hb
  refine Op.run h1 (R := fun nx h' => nx = .value (.slice (some ⟨b, 0, none⟩) n n) ∧ h' = h.modify b f) ?_ ?_
  · intro w is
    have hbw : w.heap[b]? = some (.cells cs E (0, 0)) := by rw [is.heap]; exact hb
    have hsh : w.shape? b = some (E, cs.size) := by unfold World.shape?; rw [hbw]
    refine ⟨_, w.freeze ⟨b, cs.size, none⟩ 1, ?_, ⟨rfl, is.os, is.tape, is.output⟩, rfl, ?_⟩
    · unfold semOf execOp
      simp only [h3, hx, Sem.run_bind]
      simp [convert, run_underlying hT, run_underlying hE, markStringish, hsh]
    · unfold World.freeze
      rw [if_neg (by decide)]
      rw [← is.heap]
      rfl
  · rintro _ _ ⟨rfl, rfl⟩
    refine ⟨_, rfl, u.keep hM, ?_⟩
    rw [h2]
    obtain ⟨s', hle⟩ := (s.upd u).freeze
    refine K _ _ hle s' ⟨_, _, by rw [hn], by omega, fun _ => ⟨b, 0, cs, (E, cs.size, cs.size + 1), rfl, gadd_one _ _, hr.mono hle⟩⟩
end
theorem Deep.row {h0 : Heap} {g0 : GH} {S0 : Nat → Prop} {g : GH} {L : List Chunk} {h : Heap} {α : Type} {T : TypeId} {d : Kd α} {v : Value} {xs : List α} {c dc : Chunk} (hr : Row T d (gadd gE dc) v xs c) (s : St h0 g0 S0 g (c :: dc :: L) h) :
    ∃ g', St h0 g0 S0 g' (c :: L) h ∧ gle g g' ∧ Row T d g' v xs c := by
  have s1 := s.perm (L' := dc :: c :: L) (List.Perm.swap _ _ _)
  obtain ⟨s2, hl2⟩ := St.freeze s1
  exact ⟨_, s2, hl2, hr.mono (gadd_le fun p hp => s1.sep p (by simp [hp]))⟩
end Go.Proofs.YtmjebehhpojihaaGreatDoor.Sw
