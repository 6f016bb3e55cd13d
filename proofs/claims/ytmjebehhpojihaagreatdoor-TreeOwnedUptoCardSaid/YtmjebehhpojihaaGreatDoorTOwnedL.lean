/- Lemmas for a law of this seat: what the functions compute, and plain facts of it. Own text. -/
import Derived.Test.YtmjebehhpojihaaGreatDoorTOwnedK
namespace Go.Proofs.YtmjebehhpojihaaGreatDoor.Sw
open Go
set_option maxRecDepth 100000
set_option linter.unusedVariables false
set_option linter.unusedSimpArgs false
set_option linter.deprecated false
theorem right_path {ns : List Leaf} {l : Leaf} (h : rightL ns l = true) : l.Path.length ≤ 64 := by
  unfold rightL at h
  simp only [Bool.and_eq_true] at h
  have h := h.2
  split at h
  · simp only [Bool.and_eq_true, decide_eq_true_eq] at h
    rw [h.1.1]; decide
  · simp only [Bool.and_eq_true, decide_eq_true_eq] at h
    exact cut_len h.1
theorem loadF (B : World) (h : Heap) (g : GH) (hg : Sub g h) (hG : Glob g) (b_t : Nat) (t : List Leaf) (c_t : Chunk) (o_t : IsTree g b_t t c_t) (v_list : Value) (list : List Leaf) (h_list : SlR g 59 kLeaf v_list list) (h1 : list.length ≤ 1000000) (hl : ∀ n ∈ list, n.Path.length ≤ 1000000 ∧ n.Data.length ≤ 1000000) (hs : St h g (ids [c_t]) g [c_t] h) :
    Spec Tryz.prog B 52 #[.pointer (some ⟨b_t, 0, none⟩), v_list] h g [c_t] (fun rv g' L' => ∃ k_t, rv = .bool (loadB list) ∧ IsTree g' b_t (if loadB list = true then list else t) k_t ∧ g' = g ∧ L' = [k_t]) := by
  obtain ⟨a_list, n_list, rfl⟩ := h_list.form
  refine Spec.of_at (f := Tryz.f52) (e := [(0, .pointer (some ⟨b_t, 0, none⟩)), (1, .slice a_list list.length n_list)]) Tryz.func52 (by kernel_rfl) (Nat.le_of_ble_eq_true (by kernel_rfl)) (by kernel_rfl) (by kernel_rfl) ?_
  intro R hR
  refine At.reg (L := [(0, false)]) (by kernel_rfl) ?_
  refine Op.pures 1 [0, 1] (L' := []) (e' := [(0, .pointer (some ⟨b_t, 0, none⟩)), (1, .slice a_list list.length n_list)]) (by kernel_rfl) ?_
  refine Op.goto 1 (by kernel_rfl) ?_
  refine At.reg (L := [(0, false), (1, false)]) (by kernel_rfl) ?_
  refine Op.makeMap (mt := 126) (dst := 9) (by kernel_rfl) hs ?_
  intro m1001 h1002 s1003
  have s1004 : St h g (ids [c_t]) g [[(m1001, .map #[] 0)], [], c_t] h1002 := St.flat (L := [[(m1001, .map #[] 0)], c_t]) rfl s1003
  have hR1005 : MapR encS #[] 0 ([] : List (Str × Value)) := MapR.empty _ _
  have hO1006 := OpenLm.nil
  refine Op.pures 1 [0, 1, 5] (L' := []) (e' := [(0, .pointer (some ⟨b_t, 0, none⟩)), (1, .slice a_list list.length n_list), (5, .map (some m1001))]) (by kernel_rfl) ?_
  refine Op.goto 2 (by kernel_rfl) ?_
  refine At.reg (L := [(0, false), (1, false), (2, false)]) (by kernel_rfl) ?_
  refine Op.pures 3 [0, 1, 5, 10, 11, 12] (L' := []) (e' := [(0, .pointer (some ⟨b_t, 0, none⟩)), (1, .slice a_list list.length n_list), (5, .map (some m1001)), (10, .slice a_list list.length n_list), (11, .int .i64 (list.length : Int)), (12, .int .i64 0)]) (by kernel_rfl) ?_
  refine Op.goto 3 (by kernel_rfl) ?_
  obtain ⟨c1007, o1008, s1009⟩ : ∃ c, IsLm g m1001 ([] : List Leaf) c ∧ St h g (ids [c_t]) g (c :: [c_t]) h1002 := ⟨_, hO1006.close hR1005 (List.Perm.refl _), St.flat (L := [(m1001, .map #[] 0)] :: [] :: [c_t]) (by simp only [List.flatten_cons, List.append_assoc, List.cons_append, List.nil_append, List.append_nil]) s1004⟩
  have loop3 : ∀ (m : Nat) (g1013 : GH) (hleg1013 : gle g g1013) (i : Int) (lv : List Leaf) (c1010 : Chunk) (h1012 : Heap) (hm : list.length - i.toNat < m) (h0 : 0 ≤ i) (h3 : i ≤ list.length) (hlv : lv = list.take i.toNat) (hsn : SeenT list i)  (o1011 : IsLm g1013 m1001 lv c1010)   (s_loop31011 : St h g (ids [c_t]) g1013 [c1010, c_t] h1012), At (fctx Tryz.prog B 52 Tryz.f52 R) [] 3 [(0, .pointer (some ⟨b_t, 0, none⟩)), (1, .slice a_list list.length n_list), (5, .map (some m1001)), (10, .slice a_list list.length n_list), (11, .int .i64 (list.length : Int)), (12, .int .i64 i)] h1012 := by
    intro m; induction m with
    | zero => intros; omega
    | succ m ih3 =>
      intro g1013 hleg1013 i lv c1010 h1012 hm h0 h3 hlv hsn o1011 s_loop31011
      replace hG := hG.mono hleg1013
      replace h_list := h_list.mono hleg1013
      replace o_t := o_t.mono hleg1013
      refine At.reg (L := [(0, false)]) (by kernel_rfl) ?_
      refine Op.pures 1 [0, 1, 5, 10, 11, 12, 13] (L' := []) (e' := [(0, .pointer (some ⟨b_t, 0, none⟩)), (1, .slice a_list list.length n_list), (5, .map (some m1001)), (10, .slice a_list list.length n_list), (11, .int .i64 (list.length : Int)), (12, .int .i64 i), (13, .bool (decide (i < (list.length : Int))))]) (by kernel_rfl) ?_
      refine Op.goto 4 (by kernel_rfl) ?_
      refine At.cond (b := decide (i < (list.length : Int))) (c := .tmp 13) (by kernel_rfl) (by kernel_rfl) (by kernel_rfl) 5 13 (by kernel_rfl) (by kernel_rfl) (fun hb => ?_) (fun hb => ?_)
      · have c1014 : i < (list.length : Int) := of_decide_eq_true hb
        clear hb
        refine At.keep [0, 1, 5, 10, 11, 12] ?_; show At _ _ _ [(0, .pointer (some ⟨b_t, 0, none⟩)), (1, .slice a_list list.length n_list), (5, .map (some m1001)), (10, .slice a_list list.length n_list), (11, .int .i64 (list.length : Int)), (12, .int .i64 i)] _
        refine At.reg (L := [(0, false), (1, false), (2, false), (3, false), (4, false), (5, false)]) (by kernel_rfl) ?_
        refine Op.pures 1 [0, 1, 5, 10, 11, 12, 14] (L' := [(1, false), (2, false), (3, false), (4, false), (5, false)]) (e' := [(0, .pointer (some ⟨b_t, 0, none⟩)), (1, .slice a_list list.length n_list), (5, .map (some m1001)), (10, .slice a_list list.length n_list), (11, .int .i64 (list.length : Int)), (12, .int .i64 i), (14, .int .i64 i)]) (by kernel_rfl) ?_
        obtain ⟨x1015, hx1016⟩ : ∃ c, list[(i : Int).toNat]? = some c := ⟨_, List.getElem?_eq_getElem (by omega)⟩
        obtain ⟨b1017, o1018, cu1019, fz1020, ha1021, hb1022, hk1023⟩ := SlR.at_ h_list _ hx1016
        cases ha1021
        refine Op.idx (T := 52) (E := 59) (sz := 6) (by_ := 72) (n := list.length) (c := n_list) (k := .i64) (x := (.tmp 10)) (ix := (.tmp 12)) (dst := 15) (bk := b1017) (o := o1018) (m := i) (by kernel_rfl) (by kernel_rfl) (by kernel_rfl) (by kernel_rfl) (by omega) (by omega) ?_
        obtain ⟨v1024, hv1025, hk1023⟩ := hk1023
        obtain ⟨a1026, n1027, rfl⟩ := hv1025.form
        refine Op.loadA (T := 59) (x := (.tmp 15)) (o := o1018 + (i : Int).toNat * 6) (d := 16) (n := 6) (vs := [.string (mkS x1015.Path), .slice a1026 x1015.Data.length n1027, .int .i64 x1015.Version, .int .i64 x1015.Owner, .int .i64 x1015.Next, .int .i64 x1015.Born]) (by kernel_rfl) (by kernel_rfl) (by kernel_rfl) (s_loop31011.sub _ _ hb1022) (hk1023) rfl ?_
        refine Op.alloc (T := 59) (dst := 7) (cs := #[.string (mkS []), .slice none 0 0, .int .i64 0, .int .i64 0, .int .i64 0, .int .i64 0]) (by kernel_rfl) (by kernel_rfl) s_loop31011 ?_
        intro b1028 h1029 s1030
        refine Op.pures 1 [0, 1, 5, 6, 7, 10, 11, 12, 16] (L' := [(5, false)]) (e' := [(0, .pointer (some ⟨b_t, 0, none⟩)), (1, .slice (some ⟨b1017, o1018, none⟩) list.length n_list), (5, .map (some m1001)), (6, .int .i64 i), (7, .pointer (some ⟨b1028, 0, none⟩)), (10, .slice (some ⟨b1017, o1018, none⟩) list.length n_list), (11, .int .i64 (list.length : Int)), (12, .int .i64 i), (16, .agg #[.string (mkS x1015.Path), .slice a1026 x1015.Data.length n1027, .int .i64 x1015.Version, .int .i64 x1015.Owner, .int .i64 x1015.Next, .int .i64 x1015.Born])]) (by kernel_rfl) ?_
        refine Op.store (T := 59) (x := (.tmp 7)) (y := (.tmp 16)) (b := b1028) (o := 0) (vs := [.string (mkS x1015.Path), .slice a1026 x1015.Data.length n1027, .int .i64 x1015.Version, .int .i64 x1015.Owner, .int .i64 x1015.Next, .int .i64 x1015.Born]) (a? := true) (n := 6) (by kernel_rfl) (by kernel_rfl) (by kernel_rfl) (by kernel_rfl) rfl (by simp [Value.oneCell']) s1030 0 rfl (Nat.le_of_ble_eq_true (by kernel_rfl)) (cs := #[.string (mkS []), .slice none 0 0, .int .i64 0, .int .i64 0, .int .i64 0, .int .i64 0]) (cs' := #[.string (mkS x1015.Path), .slice a1026 x1015.Data.length n1027, .int .i64 x1015.Version, .int .i64 x1015.Owner, .int .i64 x1015.Next, .int .i64 x1015.Born]) (by kernel_rfl) (fun _ => trivial) ?_
        intro h1031 s1032
        refine Op.goto 6 (by kernel_rfl) ?_
        have join10 : ∀ (m : Nat)  (h1033 : Heap) (hm : 0 < m) (hra : RightAt list i.toNat x1015)     (s_join101032 : St h g (ids [c_t]) g1013 [[(b1028, Obj.cells #[.string (mkS x1015.Path), .slice a1026 x1015.Data.length n1027, .int .i64 x1015.Version, .int .i64 x1015.Owner, .int .i64 x1015.Next, .int .i64 x1015.Born] 59 (0, 0))], c1010, c_t] h1033), At (fctx Tryz.prog B 52 Tryz.f52 R) [] 10 [(0, .pointer (some ⟨b_t, 0, none⟩)), (1, .slice (some ⟨b1017, o1018, none⟩) list.length n_list), (5, .map (some m1001)), (7, .pointer (some ⟨b1028, 0, none⟩)), (10, .slice (some ⟨b1017, o1018, none⟩) list.length n_list), (11, .int .i64 (list.length : Int)), (12, .int .i64 i)] h1033 := by
          intro m; induction m with
          | zero => intros; omega
          | succ m ih10 =>
            intro h1033 hm hra s_join101032
            refine At.reg (L := [(0, false), (1, false), (2, false)]) (by kernel_rfl) ?_
            obtain ⟨s1035, hle1036⟩ := St.freeze (s_join101032.front 0 rfl)
            have hb1037 := gadd_one (g := g1013) b1028 (.cells #[.string (mkS x1015.Path), .slice a1026 x1015.Data.length n1027, .int .i64 x1015.Version, .int .i64 x1015.Owner, .int .i64 x1015.Next, .int .i64 x1015.Born] 59 (0, 0))
            generalize hg_g1034 : gadd g1013 _ = g1034 at s1035 hle1036 hb1037; clear hg_g1034
            replace hG := hG.mono hle1036
            replace h_list := h_list.mono hle1036
            replace hv1025 := hv1025.mono hle1036
            replace o1011 := o1011.mono hle1036
            replace o_t := o_t.mono hle1036
            refine Op.call0 (dst := some 36) (f := 76) (args := #[.pointer (some ⟨b1028, 0, none⟩)]) (by kernel_rfl) s1035 (clonedT _ _ _ s1035.sub hG x1015 _ hv1025 b1028 hb1037 (by ((try dsimp only) <;> ((have := (hl _ (List.mem_of_getElem? hx1016)).2; omega)))) ) ?_
            rintro _ g1045 _ h1038 hle1046 s1039 ⟨v1040, ch1041, rfl, R1042, hgg, rfl⟩; subst g1045; clear hle1046
            obtain ⟨a1043, n1044, rfl⟩ := R1042.form
            refine Op.alloc (T := 59) (dst := 8) (cs := #[.string (mkS []), .slice none 0 0, .int .i64 0, .int .i64 0, .int .i64 0, .int .i64 0]) (by kernel_rfl) (by kernel_rfl) s1039 ?_
            intro b1047 h1048 s1049
            refine Op.store (T := 59) (x := (.tmp 8)) (y := (.tmp 36)) (b := b1047) (o := 0) (vs := [.string (mkS x1015.Path), .slice a1043 ((x1015.Data).length) n1044, .int .i64 x1015.Version, .int .i64 x1015.Owner, .int .i64 x1015.Next, .int .i64 x1015.Born]) (a? := true) (n := 6) (by kernel_rfl) (by kernel_rfl) (by kernel_rfl) (by kernel_rfl) rfl (by simp [Value.oneCell']) s1049 0 rfl (Nat.le_of_ble_eq_true (by kernel_rfl)) (cs := #[.string (mkS []), .slice none 0 0, .int .i64 0, .int .i64 0, .int .i64 0, .int .i64 0]) (cs' := #[.string (mkS x1015.Path), .slice a1043 ((x1015.Data).length) n1044, .int .i64 x1015.Version, .int .i64 x1015.Owner, .int .i64 x1015.Next, .int .i64 x1015.Born]) (by kernel_rfl) (fun _ => trivial) ?_
            intro h1050 s1051
            refine Op.goto 11 (by kernel_rfl) ?_
            refine At.reg (L := [(0, false), (1, false), (2, false), (3, false)]) (by kernel_rfl) ?_
            refine Op.pures 2 [0, 1, 5, 8, 10, 11, 12, 37, 38] (L' := [(2, false), (3, false)]) (e' := [(0, .pointer (some ⟨b_t, 0, none⟩)), (1, .slice (some ⟨b1017, o1018, none⟩) list.length n_list), (5, .map (some m1001)), (8, .pointer (some ⟨b1047, 0, none⟩)), (10, .slice (some ⟨b1017, o1018, none⟩) list.length n_list), (11, .int .i64 (list.length : Int)), (12, .int .i64 i), (37, .map (some m1001)), (38, .pointer (some ⟨b1028, 0, none⟩))]) (by kernel_rfl) ?_
            refine Op.load (T := 9) (x := (.tmp 38)) (o := 0) (d := 39) (n := 1) (v := .string (mkS x1015.Path)) (by kernel_rfl) (by kernel_rfl) (by kernel_rfl) (s1051.sub _ _ hb1037) (by kernel_rfl) ?_
            have s1052 : St h g (ids [c_t]) g1034 [c1010, [(b1047, Obj.cells #[.string (mkS x1015.Path), .slice a1043 ((x1015.Data).length) n1044, .int .i64 x1015.Version, .int .i64 x1015.Owner, .int .i64 x1015.Next, .int .i64 x1015.Born] 59 (0, 0))], ch1041, c_t] h1050 := (((s1051.front 1 rfl).front 1 rfl).front 2 rfl)
            obtain ⟨es1053, clk1054, ks1055, F1056, hp1057, hR1058, hO1059⟩ := IsLm.open_ o1011
            have s1060 : St h g (ids [c_t]) g1034 ([(m1001, .map es1053 clk1054)] :: F1056 :: [[(b1047, Obj.cells #[.string (mkS x1015.Path), .slice a1043 ((x1015.Data).length) n1044, .int .i64 x1015.Version, .int .i64 x1015.Owner, .int .i64 x1015.Next, .int .i64 x1015.Born] 59 (0, 0))], ch1041, c_t]) h1050 := St.permF (L := c1010 :: [[(b1047, Obj.cells #[.string (mkS x1015.Path), .slice a1043 ((x1015.Data).length) n1044, .int .i64 x1015.Version, .int .i64 x1015.Owner, .int .i64 x1015.Next, .int .i64 x1015.Born] 59 (0, 0))], ch1041, c_t]) (hp1057.append_right _) s1052
            refine Op.mapSet (d := .string) (z := .pointer none) (mt := 126) (x := (.tmp 37)) (ix := (.tmp 39)) (y := (.tmp 8)) (k := x1015.Path) (v := .pointer (some ⟨b1047, 0, none⟩)) (.inl (by kernel_rfl)) (by kernel_rfl) keyS (by kernel_rfl) (by kernel_rfl) (by kernel_rfl) s1060 0 rfl hR1058 (fun _ => trivial) ?_
            intro es1061 clk1062 h1063 hR1064 s1065
            have hO1066 : OpenLm (updK ks1055 x1015.Path (.pointer (some ⟨b1047, 0, none⟩))) ((b1047, .cells #[.string (mkS x1015.Path), .slice a1043 ((x1015.Data).length) n1044, .int .i64 x1015.Version, .int .i64 x1015.Owner, .int .i64 x1015.Next, .int .i64 x1015.Born] 59 (0, 0)) :: ch1041 ++ F1056 : Chunk) (withL lv (⟨x1015.Path, x1015.Data, x1015.Version, x1015.Owner, x1015.Next, x1015.Born⟩ : Leaf)) := hO1059.ins (g := g1034) (l := (⟨x1015.Path, x1015.Data, x1015.Version, x1015.Owner, x1015.Next, x1015.Born⟩ : Leaf)) (by (rw [hlv]; exact (SeenT_step hsn h0 hx1016 hra).2.1)) R1042 (by exact right_path hra.1)
            have s1068 : St h g (ids [c_t]) g1034 [[(m1001, .map es1061 clk1062)], [(b1047, Obj.cells #[.string (mkS x1015.Path), .slice a1043 ((x1015.Data).length) n1044, .int .i64 x1015.Version, .int .i64 x1015.Owner, .int .i64 x1015.Next, .int .i64 x1015.Born] 59 (0, 0))], ch1041, F1056, c_t] h1063 := ((((s1065.front 1 rfl).front 3 rfl).front 3 rfl).front 3 rfl)
            have s1067 : St h g (ids [c_t]) g1034 [[(m1001, .map es1061 clk1062)], ((b1047, .cells #[.string (mkS x1015.Path), .slice a1043 ((x1015.Data).length) n1044, .int .i64 x1015.Version, .int .i64 x1015.Owner, .int .i64 x1015.Next, .int .i64 x1015.Born] 59 (0, 0)) :: ch1041 ++ F1056 : Chunk), c_t] h1063 := St.flat (L := [[(m1001, .map es1061 clk1062)], [(b1047, Obj.cells #[.string (mkS x1015.Path), .slice a1043 ((x1015.Data).length) n1044, .int .i64 x1015.Version, .int .i64 x1015.Owner, .int .i64 x1015.Next, .int .i64 x1015.Born] 59 (0, 0))], ch1041, F1056, c_t]) (by simp only [List.flatten_cons, List.flatten_nil, List.append_assoc, List.cons_append, List.nil_append, List.append_nil]) s1068
            refine Op.goto 12 (by kernel_rfl) ?_
            refine At.reg (L := [(0, false), (1, false)]) (by kernel_rfl) ?_
            refine Op.val (dst := some 40) (v := .int .i64 (IntKind.wrap .i64 (i + 1))) (v' := .int .i64 (i + 1)) (by kernel_rfl) (wrapEq_i64 (by omega) (by omega)) ?_
            refine Op.pures 1 [0, 1, 5, 10, 11, 12] (L' := []) (e' := [(0, .pointer (some ⟨b_t, 0, none⟩)), (1, .slice (some ⟨b1017, o1018, none⟩) list.length n_list), (5, .map (some m1001)), (10, .slice (some ⟨b1017, o1018, none⟩) list.length n_list), (11, .int .i64 (list.length : Int)), (12, .int .i64 (i + 1))]) (by kernel_rfl) ?_
            refine Op.goto 3 (by kernel_rfl) ?_
            obtain ⟨c1069, o1070, s1071⟩ : ∃ c, IsLm g1034 m1001 (withL lv (⟨x1015.Path, x1015.Data, x1015.Version, x1015.Owner, x1015.Next, x1015.Born⟩ : Leaf)) c ∧ St h g (ids [c_t]) g1034 (c :: [c_t]) h1063 := ⟨_, hO1066.close hR1064 (List.Perm.refl _), St.flat (L := [(m1001, .map es1061 clk1062)] :: ((b1047, .cells #[.string (mkS x1015.Path), .slice a1043 ((x1015.Data).length) n1044, .int .i64 x1015.Version, .int .i64 x1015.Owner, .int .i64 x1015.Next, .int .i64 x1015.Born] 59 (0, 0)) :: ch1041 ++ F1056 : Chunk) :: [c_t]) (by simp only [List.flatten_cons, List.append_assoc, List.cons_append, List.nil_append, List.append_nil]) s1067⟩
            exact ih3 _ (gle.trans hleg1013 (by repeat (first | assumption | apply gle.trans))) (i + 1) (withL lv (⟨x1015.Path, x1015.Data, x1015.Version, x1015.Owner, x1015.Next, x1015.Born⟩ : Leaf)) _ _ (by omega) (by omega) (by omega) (by (rw [hlv]; exact (SeenT_step hsn h0 hx1016 hra).2.2)) (by exact (SeenT_step hsn h0 hx1016 hra).1) o1070 s1071
        refine At.draw (by kernel_rfl) (fun _ => False) [(0, true), (1, false), (2, false), (3, true), (4, true), (5, true), (6, true), (7, true), (8, true), (9, true), (10, true), (11, true), (12, true), (14, true), (13, true), (15, false), (16, true), (17, true), (18, true)] (by kernel_rfl) ?_
        refine Op.pures 1 [0, 1, 5, 6, 7, 10, 11, 12, 17] (L' := [(1, false), (2, false), (3, true), (4, true), (5, true), (6, true), (7, true), (8, true), (9, true), (10, true), (11, true), (12, true), (14, true), (13, true), (15, false), (16, true), (17, true), (18, true)]) (e' := [(0, .pointer (some ⟨b_t, 0, none⟩)), (1, .slice (some ⟨b1017, o1018, none⟩) list.length n_list), (5, .map (some m1001)), (6, .int .i64 i), (7, .pointer (some ⟨b1028, 0, none⟩)), (10, .slice (some ⟨b1017, o1018, none⟩) list.length n_list), (11, .int .i64 (list.length : Int)), (12, .int .i64 i), (17, .map (some m1001))]) (by kernel_rfl) ?_
        refine Op.loadA (T := 59) (x := (.tmp 7)) (o := 0) (d := 18) (n := 6) (vs := [.string (mkS x1015.Path), .slice a1026 x1015.Data.length n1027, .int .i64 x1015.Version, .int .i64 x1015.Owner, .int .i64 x1015.Next, .int .i64 x1015.Born]) (by kernel_rfl) (by kernel_rfl) (by kernel_rfl) (s1032.chunk 0 rfl) (by kernel_rfl) rfl ?_
        have s1072 : St h g (ids [c_t]) g1013 [c1010, [(b1028, Obj.cells #[.string (mkS x1015.Path), .slice a1026 x1015.Data.length n1027, .int .i64 x1015.Version, .int .i64 x1015.Owner, .int .i64 x1015.Next, .int .i64 x1015.Born] 59 (0, 0))], c_t] h1031 := ((s1032.front 0 rfl).front 1 rfl)
        have hl1073 := s1072.frzle
        have hz1074 := IsLm.frz o1011 s1072 (by intro p hp; simp only [List.mem_append, hp, true_or, or_true])
        refine Op.lend (dst := some 19) (f := 91) (args := #[.map (some m1001), .agg #[.string (mkS x1015.Path), .slice a1026 x1015.Data.length n1027, .int .i64 x1015.Version, .int .i64 x1015.Owner, .int .i64 x1015.Next, .int .i64 x1015.Born]]) (cf := (c1010 : Chunk)) (Lc := []) (L := [[(b1028, Obj.cells #[.string (mkS x1015.Path), .slice a1026 x1015.Data.length n1027, .int .i64 x1015.Version, .int .i64 x1015.Owner, .int .i64 x1015.Next, .int .i64 x1015.Born] 59 (0, 0))], c_t]) (by kernel_rfl) s1072 (rightF _ _ _ s1072.frzsub (hG.mono hl1073) m1001 lv hz1074 x1015 _ (hv1025.mono hl1073) (by ((try dsimp only) <;> ((have := (hl _ (List.mem_of_getElem? hx1016)).1; omega)))) ) (fun _ _ _ hp => by obtain ⟨_, hgg, _⟩ := hp; exact hgg) (fun _ _ h => absurd h (ids_nil _)) ?_
        rintro _ _ h1075 s1076 ⟨rfl, hgg, rfl⟩; clear hgg
        refine Op.pures 2 [0, 1, 5, 6, 7, 10, 11, 12, 21] (L' := [(5, true), (6, true), (7, true), (8, true), (9, true), (10, true), (11, true), (12, true), (14, true), (13, true), (15, false), (16, true), (17, true), (18, true)]) (e' := [(0, .pointer (some ⟨b_t, 0, none⟩)), (1, .slice (some ⟨b1017, o1018, none⟩) list.length n_list), (5, .map (some m1001)), (6, .int .i64 i), (7, .pointer (some ⟨b1028, 0, none⟩)), (10, .slice (some ⟨b1017, o1018, none⟩) list.length n_list), (11, .int .i64 (list.length : Int)), (12, .int .i64 i), (21, .bool (!(rightL lv x1015)))]) (by kernel_rfl) ?_
        refine Op.ways (b := !(rightL lv x1015)) ⟨fun hb => ?_, fun hb => ?_⟩
        · refine Op.cast (e' := [(0, .pointer (some ⟨b_t, 0, none⟩)), (1, .slice (some ⟨b1017, o1018, none⟩) list.length n_list), (5, .map (some m1001)), (6, .int .i64 i), (7, .pointer (some ⟨b1028, 0, none⟩)), (10, .slice (some ⟨b1017, o1018, none⟩) list.length n_list), (11, .int .i64 (list.length : Int)), (12, .int .i64 i), (21, .bool true)]) (by rw [hb]) ?_
          have c1079 : (rightL lv x1015) = false := (notT hb)
          clear hb
          refine Op.pures 14 [0, 1, 5, 7, 10, 11, 12, 35] (L' := []) (e' := [(0, .pointer (some ⟨b_t, 0, none⟩)), (1, .slice (some ⟨b1017, o1018, none⟩) list.length n_list), (5, .map (some m1001)), (7, .pointer (some ⟨b1028, 0, none⟩)), (10, .slice (some ⟨b1017, o1018, none⟩) list.length n_list), (11, .int .i64 (list.length : Int)), (12, .int .i64 i), (35, .bool true)]) (by kernel_rfl) ?_
          refine Op.goto 7 (by kernel_rfl) ?_
          refine At.condT (c := .tmp 35) (by kernel_rfl) (by kernel_rfl) (by kernel_rfl) 8 (by kernel_rfl) ?_
          refine At.reg (L := [(0, false)]) (by kernel_rfl) ?_
          refine Op.pures 1 [4] (L' := []) (e' := [(4, .bool false)]) (by kernel_rfl) ?_
          refine Op.goto 9 (by kernel_rfl) ?_
          refine At.ret (f := Tryz.f52) (v := .bool false) (by kernel_rfl) (by kernel_rfl) ?_
          have s1080 : St h g (ids [c_t]) g1013 [c_t] h1075 := (s1076).drop.drop
          have s1081 : St h g (ids [c_t]) g [c_t] h1075 := s1080.unfrz
          replace o_t := o_t.flat (g' := g)
          refine hR _ _ _ _ s1081 ⟨c_t, ?_, ?_, rfl, rfl⟩
          · exact (eqB (by exact SeenT_f0 hx1016 (by rw [← hlv]; assumption)))
          · exact o_t.eq (by (rw [← SeenT_f0 hx1016 (by rw [← hlv]; assumption)]; rfl))
        · refine Op.cast (e' := [(0, .pointer (some ⟨b_t, 0, none⟩)), (1, .slice (some ⟨b1017, o1018, none⟩) list.length n_list), (5, .map (some m1001)), (6, .int .i64 i), (7, .pointer (some ⟨b1028, 0, none⟩)), (10, .slice (some ⟨b1017, o1018, none⟩) list.length n_list), (11, .int .i64 (list.length : Int)), (12, .int .i64 i), (21, .bool false)]) (by rw [hb]) ?_
          have c1082 : (rightL lv x1015) = true := (notF hb)
          clear hb
          refine Op.pures 3 [0, 1, 5, 6, 7, 10, 11, 12, 21, 24] (L' := [(8, true), (9, true), (10, true), (11, true), (12, true), (14, true), (13, true), (15, false), (16, true), (17, true), (18, true)]) (e' := [(0, .pointer (some ⟨b_t, 0, none⟩)), (1, .slice (some ⟨b1017, o1018, none⟩) list.length n_list), (5, .map (some m1001)), (6, .int .i64 i), (7, .pointer (some ⟨b1028, 0, none⟩)), (10, .slice (some ⟨b1017, o1018, none⟩) list.length n_list), (11, .int .i64 (list.length : Int)), (12, .int .i64 i), (21, .bool false), (24, .bool (decide (i > (0 : Int))))]) (by kernel_rfl) ?_
          refine Op.ways (b := decide (i > (0 : Int))) ⟨fun hb => ?_, fun hb => ?_⟩
          · refine Op.cast (e' := [(0, .pointer (some ⟨b_t, 0, none⟩)), (1, .slice (some ⟨b1017, o1018, none⟩) list.length n_list), (5, .map (some m1001)), (6, .int .i64 i), (7, .pointer (some ⟨b1028, 0, none⟩)), (10, .slice (some ⟨b1017, o1018, none⟩) list.length n_list), (11, .int .i64 (list.length : Int)), (12, .int .i64 i), (21, .bool false), (24, .bool true)]) (by rw [hb]) ?_
            have c1083 : i > (0 : Int) := of_decide_eq_true hb
            clear hb
            refine Op.pures 2 [0, 1, 5, 7, 10, 11, 12, 21, 24, 25, 26] (L' := [(10, true), (11, true), (12, true), (14, true), (13, true), (15, false), (16, true), (17, true), (18, true)]) (e' := [(0, .pointer (some ⟨b_t, 0, none⟩)), (1, .slice (some ⟨b1017, o1018, none⟩) list.length n_list), (5, .map (some m1001)), (7, .pointer (some ⟨b1028, 0, none⟩)), (10, .slice (some ⟨b1017, o1018, none⟩) list.length n_list), (11, .int .i64 (list.length : Int)), (12, .int .i64 i), (21, .bool false), (24, .bool true), (25, .slice (some ⟨b1017, o1018, none⟩) list.length n_list), (26, .int .i64 i)]) (by kernel_rfl) ?_
            refine Op.val (dst := some 27) (v := .int .i64 (IntKind.wrap .i64 (i - 1))) (v' := .int .i64 (i - 1)) (by kernel_rfl) (wrapEq_i64 (by omega) (by omega)) ?_
            obtain ⟨x1084, hx1085⟩ : ∃ c, list[(i - 1 : Int).toNat]? = some c := ⟨_, List.getElem?_eq_getElem (by omega)⟩
            obtain ⟨b1086, o1087, cu1088, fz1089, ha1090, hb1091, hk1092⟩ := SlR.at_ h_list _ hx1085
            cases ha1090
            refine Op.idx (T := 52) (E := 59) (sz := 6) (by_ := 72) (n := list.length) (c := n_list) (k := .i64) (x := (.tmp 25)) (ix := (.tmp 27)) (dst := 28) (bk := b1017) (o := o1018) (m := i - 1) (by kernel_rfl) (by kernel_rfl) (by kernel_rfl) (by kernel_rfl) (by omega) (by omega) ?_
            obtain ⟨v1093, hv1094, hk1092⟩ := hk1092
            obtain ⟨a1095, n1096, rfl⟩ := hv1094.form
            refine Op.pures 2 [0, 1, 5, 7, 10, 11, 12, 21, 24, 29, 31] (L' := [(13, true), (15, false), (16, true), (17, true), (18, true)]) (e' := [(0, .pointer (some ⟨b_t, 0, none⟩)), (1, .slice (some ⟨b1017, o1018, none⟩) list.length n_list), (5, .map (some m1001)), (7, .pointer (some ⟨b1028, 0, none⟩)), (10, .slice (some ⟨b1017, o1018, none⟩) list.length n_list), (11, .int .i64 (list.length : Int)), (12, .int .i64 i), (21, .bool false), (24, .bool true), (29, .pointer (some ⟨b1017, o1018 + (i - 1 : Int).toNat * 6, none⟩)), (31, .pointer (some ⟨b1028, 0, none⟩))]) (by kernel_rfl) ?_
            refine Op.loadF (T := 9) (x := (.tmp 29)) (o := o1018 + (i - 1 : Int).toNat * 6) (d := 30) (n := 1) (v := .string (mkS x1084.Path)) (by kernel_rfl) (by kernel_rfl) (by kernel_rfl) (fun h => h) (s1032.sub _ _ hb1091) (cut_get hk1092 0 rfl) ?_
            refine Op.load (T := 9) (x := (.tmp 31)) (o := 0) (d := 32) (n := 1) (v := .string (mkS x1015.Path)) (by kernel_rfl) (by kernel_rfl) (by kernel_rfl) (s1076.chunk 1 rfl) (by kernel_rfl) ?_
            refine Op.val (dst := some 33) (v := .bool (!(Go.Op.bytesLess (mkS x1084.Path).toList (mkS x1015.Path).toList))) (v' := .bool (!(Go.Op.bytesLess x1084.Path x1015.Path))) (by kernel_rfl) (by rw [toList_mkS, toList_mkS]) ?_
            refine Op.pures 2 [0, 1, 5, 7, 10, 11, 12, 35] (L' := []) (e' := [(0, .pointer (some ⟨b_t, 0, none⟩)), (1, .slice (some ⟨b1017, o1018, none⟩) list.length n_list), (5, .map (some m1001)), (7, .pointer (some ⟨b1028, 0, none⟩)), (10, .slice (some ⟨b1017, o1018, none⟩) list.length n_list), (11, .int .i64 (list.length : Int)), (12, .int .i64 i), (35, .bool (!(Go.Op.bytesLess x1084.Path x1015.Path)))]) (by kernel_rfl) ?_
            refine Op.goto 7 (by kernel_rfl) ?_
            refine At.cond (b := !(Go.Op.bytesLess x1084.Path x1015.Path)) (c := .tmp 35) (by kernel_rfl) (by kernel_rfl) (by kernel_rfl) 8 10 (by kernel_rfl) (by kernel_rfl) (fun hb => ?_) (fun hb => ?_)
            · have c1097 : (Go.Op.bytesLess x1084.Path x1015.Path) = false := (notT hb)
              clear hb
              refine At.keep [] ?_; show At _ _ _ [] _
              refine At.reg (L := [(0, false)]) (by kernel_rfl) ?_
              refine Op.pures 1 [4] (L' := []) (e' := [(4, .bool false)]) (by kernel_rfl) ?_
              refine Op.goto 9 (by kernel_rfl) ?_
              refine At.ret (f := Tryz.f52) (v := .bool false) (by kernel_rfl) (by kernel_rfl) ?_
              have s1098 : St h g (ids [c_t]) g1013 [c_t] h1075 := (s1076).drop.drop
              have s1099 : St h g (ids [c_t]) g [c_t] h1075 := s1098.unfrz
              replace o_t := o_t.flat (g' := g)
              refine hR _ _ _ _ s1099 ⟨c_t, ?_, ?_, rfl, rfl⟩
              · exact (eqB (by exact ld_rise (by omega) hx1016 hx1085 (by assumption)))
              · exact o_t.eq (by (rw [← ld_rise (by omega) hx1016 hx1085 (by assumption)]; rfl))
            · have c1100 : (Go.Op.bytesLess x1084.Path x1015.Path) = true := (notF hb)
              clear hb
              refine At.keep [0, 1, 5, 7, 10, 11, 12] ?_; show At _ _ _ [(0, .pointer (some ⟨b_t, 0, none⟩)), (1, .slice (some ⟨b1017, o1018, none⟩) list.length n_list), (5, .map (some m1001)), (7, .pointer (some ⟨b1028, 0, none⟩)), (10, .slice (some ⟨b1017, o1018, none⟩) list.length n_list), (11, .int .i64 (list.length : Int)), (12, .int .i64 i)] _
              have s1101 : St h g (ids [c_t]) g1013 [[(b1028, Obj.cells #[.string (mkS x1015.Path), .slice a1026 x1015.Data.length n1027, .int .i64 x1015.Version, .int .i64 x1015.Owner, .int .i64 x1015.Next, .int .i64 x1015.Born] 59 (0, 0))], c1010, c_t] h1075 := ((s1076.front 0 rfl).front 1 rfl)
              exact join10 _   _ (Nat.lt_succ_self _) (by exact SeenT_r1 (by omega) (by rw [← hlv]; assumption) hx1085 c1100)  s1101
          · refine Op.cast (e' := [(0, .pointer (some ⟨b_t, 0, none⟩)), (1, .slice (some ⟨b1017, o1018, none⟩) list.length n_list), (5, .map (some m1001)), (6, .int .i64 i), (7, .pointer (some ⟨b1028, 0, none⟩)), (10, .slice (some ⟨b1017, o1018, none⟩) list.length n_list), (11, .int .i64 (list.length : Int)), (12, .int .i64 i), (21, .bool false), (24, .bool false)]) (by rw [hb]) ?_
            have c1102 : ¬ (i > (0 : Int)) := of_decide_eq_false hb
            clear hb
            refine Op.pures 11 [0, 1, 5, 7, 10, 11, 12, 35] (L' := []) (e' := [(0, .pointer (some ⟨b_t, 0, none⟩)), (1, .slice (some ⟨b1017, o1018, none⟩) list.length n_list), (5, .map (some m1001)), (7, .pointer (some ⟨b1028, 0, none⟩)), (10, .slice (some ⟨b1017, o1018, none⟩) list.length n_list), (11, .int .i64 (list.length : Int)), (12, .int .i64 i), (35, .bool false)]) (by kernel_rfl) ?_
            refine Op.goto 7 (by kernel_rfl) ?_
            refine At.condF (c := .tmp 35) (by kernel_rfl) (by kernel_rfl) (by kernel_rfl) 10 (by kernel_rfl) ?_
            refine At.keep [0, 1, 5, 7, 10, 11, 12] ?_; show At _ _ _ [(0, .pointer (some ⟨b_t, 0, none⟩)), (1, .slice (some ⟨b1017, o1018, none⟩) list.length n_list), (5, .map (some m1001)), (7, .pointer (some ⟨b1028, 0, none⟩)), (10, .slice (some ⟨b1017, o1018, none⟩) list.length n_list), (11, .int .i64 (list.length : Int)), (12, .int .i64 i)] _
            have s1103 : St h g (ids [c_t]) g1013 [[(b1028, Obj.cells #[.string (mkS x1015.Path), .slice a1026 x1015.Data.length n1027, .int .i64 x1015.Version, .int .i64 x1015.Owner, .int .i64 x1015.Next, .int .i64 x1015.Born] 59 (0, 0))], c1010, c_t] h1075 := ((s1076.front 0 rfl).front 1 rfl)
            exact join10 _   _ (Nat.lt_succ_self _) (by exact SeenT_r0 (by omega) h0 (by rw [← hlv]; assumption))  s1103
      · have c1104 : ¬ (i < (list.length : Int)) := of_decide_eq_false hb
        clear hb
        refine At.keep [0, 1, 5] ?_; show At _ _ _ [(0, .pointer (some ⟨b_t, 0, none⟩)), (1, .slice a_list list.length n_list), (5, .map (some m1001))] _
        have join17 : ∀ (m : Nat)  (h1105 : Heap) (hm : 0 < m) (hle : true = loadB list ∧ list.take i.toNat = list)     (s_join171104 : St h g (ids [c_t]) g1013 [c1010, c_t] h1105), At (fctx Tryz.prog B 52 Tryz.f52 R) [] 17 [(0, .pointer (some ⟨b_t, 0, none⟩)), (5, .map (some m1001))] h1105 := by
          intro m; induction m with
          | zero => intros; omega
          | succ m ih17 =>
            intro h1105 hm hle s_join171104
            refine At.reg (L := [(0, false), (1, false), (2, false), (3, false), (4, false)]) (by kernel_rfl) ?_
            refine Op.pures 4 [50, 52] (L' := [(4, false)]) (e' := [(50, .map (some m1001)), (52, .pointer (some ⟨b_t, 0, none⟩))]) (by kernel_rfl) ?_
            obtain ⟨b1106, c1107, e1108, R1109⟩ := o_t
            have s1110 : St h g (ids [c_t]) g1013 [c_t, c1010] h1105 := ((s_join171104.front 0 rfl).front 1 rfl)
            have s1111 : St h g (ids [c_t]) g1013 [[(b_t, Obj.cells #[.map (some b1106)] 128 (0, 0))], c1107, c1010] h1105 := St.flat (L := [c_t, c1010]) (by rw [e1108]; simp only [List.flatten_cons, List.append_assoc, List.cons_append, List.nil_append, List.append_nil]) s1110
            refine Op.store (T := 126) (x := (.tmp 52)) (y := (.tmp 50)) (b := b_t) (o := 0) (vs := [.map (some m1001)]) (a? := false) (n := 1) (by kernel_rfl) (by kernel_rfl) (by kernel_rfl) (by kernel_rfl) rfl (by simp [Value.oneCell']) s1111 0 rfl (Nat.le_of_ble_eq_true (by kernel_rfl)) (cs := #[.map (some b1106)]) (cs' := #[.map (some m1001)]) (by kernel_rfl) (fun _ => trivial) ?_
            intro h1112 s1113
            refine Op.goto 18 (by kernel_rfl) ?_
            refine At.reg (L := [(0, false)]) (by kernel_rfl) ?_
            refine Op.pures 1 [4] (L' := []) (e' := [(4, .bool true)]) (by kernel_rfl) ?_
            refine Op.goto 19 (by kernel_rfl) ?_
            have s1114 : St h g (ids [c_t]) g1013 [[(b_t, Obj.cells #[.map (some m1001)] 128 (0, 0))], c1010, c1107] h1112 := (((s1113.front 1 rfl).front 2 rfl).front 2 rfl)
            obtain ⟨c1115, o1116, s1117⟩ : ∃ c, IsTree g1013 b_t lv c ∧ St h g (ids [c_t]) g1013 (c :: [c1107]) h1112 := ⟨_, ⟨_, _, rfl, o1011⟩, St.flat (L := [[(b_t, Obj.cells #[.map (some m1001)] 128 (0, 0))], c1010, c1107]) (by simp only [List.flatten_cons, List.append_assoc, List.cons_append, List.nil_append, List.append_nil]) s1114⟩
            refine At.ret (f := Tryz.f52) (v := .bool true) (by kernel_rfl) (by kernel_rfl) ?_
            have s1118 : St h g (ids [c_t]) g1013 [c1107, c1115] h1112 := ((s1117.front 0 rfl).front 1 rfl)
            have s1119 : St h g (ids [c_t]) g1013 [c1115] h1112 := (s1118).drop
            have s1120 : St h g (ids [c_t]) g [c1115] h1112 := s1119.unfrz
            replace o1116 := o1116.flat (g' := g)
            refine hR _ _ _ _ s1120 ⟨c1115, ?_, ?_, rfl, rfl⟩
            · exact (eqB (by exact hle.1))
            · exact o1116.eq (by (rw [← hle.1, hlv]; exact hle.2))
        refine At.reg (L := [(0, false), (1, false), (2, false), (3, false), (4, false), (5, false), (6, false), (7, false)]) (by kernel_rfl) ?_
        refine Op.pures 4 [0, 1, 5, 44] (L' := [(4, false), (5, false), (6, false), (7, false)]) (e' := [(0, .pointer (some ⟨b_t, 0, none⟩)), (1, .slice a_list list.length n_list), (5, .map (some m1001)), (44, .bool ((list.length : Int) == (0 : Int)))]) (by kernel_rfl) ?_
        refine Op.ways (b := (list.length : Int) == (0 : Int)) ⟨fun hb => ?_, fun hb => ?_⟩
        · refine Op.cast (e' := [(0, .pointer (some ⟨b_t, 0, none⟩)), (1, .slice a_list list.length n_list), (5, .map (some m1001)), (44, .bool true)]) (by rw [hb]) ?_
          have c1121 : (list.length : Int) = (0 : Int) := eq_of_beq hb
          clear hb
          refine Op.pures 4 [0, 5, 48] (L' := []) (e' := [(0, .pointer (some ⟨b_t, 0, none⟩)), (5, .map (some m1001)), (48, .bool true)]) (by kernel_rfl) ?_
          refine Op.goto 14 (by kernel_rfl) ?_
          refine At.condT (c := .tmp 48) (by kernel_rfl) (by kernel_rfl) (by kernel_rfl) 15 (by kernel_rfl) ?_
          refine At.reg (L := [(0, false)]) (by kernel_rfl) ?_
          refine Op.pures 1 [4] (L' := []) (e' := [(4, .bool false)]) (by kernel_rfl) ?_
          refine Op.goto 16 (by kernel_rfl) ?_
          refine At.ret (f := Tryz.f52) (v := .bool false) (by kernel_rfl) (by kernel_rfl) ?_
          have s1122 : St h g (ids [c_t]) g1013 [c_t] h1012 := (s_loop31011).drop
          have s1123 : St h g (ids [c_t]) g [c_t] h1012 := s1122.unfrz
          replace o_t := o_t.flat (g' := g)
          refine hR _ _ _ _ s1123 ⟨c_t, ?_, ?_, rfl, rfl⟩
          · exact (eqB (by exact load_len (by omega)))
          · exact o_t.eq (by (rw [← load_len (by omega)]; rfl))
        · refine Op.cast (e' := [(0, .pointer (some ⟨b_t, 0, none⟩)), (1, .slice a_list list.length n_list), (5, .map (some m1001)), (44, .bool false)]) (by rw [hb]) ?_
          have c1124 : ¬ ((list.length : Int) = (0 : Int)) := neF hb
          clear hb
          refine Op.pures 4 [0, 5, 48] (L' := []) (e' := [(0, .pointer (some ⟨b_t, 0, none⟩)), (5, .map (some m1001)), (48, .bool (decide ((list.length : Int) > (32 : Int))))]) (by kernel_rfl) ?_
          refine Op.goto 14 (by kernel_rfl) ?_
          refine At.cond (b := decide ((list.length : Int) > (32 : Int))) (c := .tmp 48) (by kernel_rfl) (by kernel_rfl) (by kernel_rfl) 15 17 (by kernel_rfl) (by kernel_rfl) (fun hb => ?_) (fun hb => ?_)
          · have c1125 : (list.length : Int) > (32 : Int) := of_decide_eq_true hb
            clear hb
            refine At.keep [] ?_; show At _ _ _ [] _
            refine At.reg (L := [(0, false)]) (by kernel_rfl) ?_
            refine Op.pures 1 [4] (L' := []) (e' := [(4, .bool false)]) (by kernel_rfl) ?_
            refine Op.goto 16 (by kernel_rfl) ?_
            refine At.ret (f := Tryz.f52) (v := .bool false) (by kernel_rfl) (by kernel_rfl) ?_
            have s1126 : St h g (ids [c_t]) g1013 [c_t] h1012 := (s_loop31011).drop
            have s1127 : St h g (ids [c_t]) g [c_t] h1012 := s1126.unfrz
            replace o_t := o_t.flat (g' := g)
            refine hR _ _ _ _ s1127 ⟨c_t, ?_, ?_, rfl, rfl⟩
            · exact (eqB (by exact load_len (by omega)))
            · exact o_t.eq (by (rw [← load_len (by omega)]; rfl))
          · have c1128 : ¬ ((list.length : Int) > (32 : Int)) := of_decide_eq_false hb
            clear hb
            refine At.keep [0, 5] ?_; show At _ _ _ [(0, .pointer (some ⟨b_t, 0, none⟩)), (5, .map (some m1001))] _
            exact join17 _   _ (Nat.lt_succ_self _) (by exact SeenT_end hsn (by assumption) (by omega) (by omega))  s_loop31011
  exact loop3 _ _ (gle.refl _) 0 ([] : List Leaf) _ _ (Nat.lt_succ_self _) (by omega) (by omega) (by rfl) (by exact SeenT_0 _) o1008 s1009
end Go.Proofs.YtmjebehhpojihaaGreatDoor.Sw
namespace Go.Proofs.YtmjebehhpojihaaGreatDoor.Sw
set_option linter.unusedVariables false
set_option linter.unusedSimpArgs false
set_option linter.deprecated false
open Go
def gone (ns : List Leaf) (ps : List Str) : List Leaf := ns.filter fun n => !decide (n.Path ∈ ps)
def isOwn (ow : List Int) (n : Leaf) : Bool := ow.any fun o => decide (n.Owner = o)
theorem owned_mem {ns : List Leaf} {ow : List Int} {p : Str} : p ∈ ownedL ns ow ↔ ∃ n ∈ ns, isOwn ow n = true ∧ n.Path = p := by
  unfold ownedL
  rw [List.mem_reverse, List.mem_map]
  constructor
  · rintro ⟨n, hn, rfl⟩
    rw [List.mem_filter] at hn
    exact ⟨n, hn.1, hn.2, rfl⟩
  · rintro ⟨n, hn, h, rfl⟩
    exact ⟨n, List.mem_filter.2 ⟨hn, h⟩, rfl⟩
theorem owned_nodup {ns : List Leaf} (hs : SortL ns) (ow : List Int) : (ownedL ns ow).Nodup := by
  unfold ownedL
  refine (List.reverse_perm _).nodup_iff.2 ?_
  exact SortL.nodup (List.Pairwise.sublist List.filter_sublist hs)
theorem gone_0 (ns : List Leaf) : gone ns [] = ns := by
  unfold gone
  rw [List.filter_eq_self]
  intro n hn
  simp
theorem gone_sort {ns : List Leaf} (hs : SortL ns) (ps : List Str) : SortL (gone ns ps) := List.Pairwise.sublist List.filter_sublist hs
theorem gone_mem {ns : List Leaf} {ps : List Str} {n : Leaf} : n ∈ gone ns ps ↔ n ∈ ns ∧ n.Path ∉ ps := by
  unfold gone
  rw [List.mem_filter]
  simp
theorem gone_b {ns : List Leaf} {ps : List Str} (h : TreeB ns) : TreeB (gone ns ps) :=
  ⟨Nat.le_trans (List.length_filter_le _ _) h.1, fun n hn => h.2 n (gone_mem.1 hn).1⟩
theorem own_one {ow : List Int} (how : ∀ o ∈ ow, 0 ≤ o) {n : Leaf} (h : isOwn ow n = true) : 0 ≤ n.Owner := by
  unfold isOwn at h
  rw [List.any_eq_true] at h
  obtain ⟨o, ho, e⟩ := h
  rw [of_decide_eq_true e]
  exact how o ho
section
variable {k : Int} {ns : List Leaf} {ow : List Int}
theorem own_drop (H : TreeOk k ns) (how : ∀ o ∈ ow, 0 ≤ o) {i : Int} {p : Str} (h0 : 0 ≤ i) (hx : (ownedL ns ow)[i.toNat]? = some p) :
    dropT (gone ns ((ownedL ns ow).take i.toNat)) p (-1) = (gone ns ((ownedL ns ow).take (i + 1).toNat), 0) := by
  obtain ⟨n, hn, hown, rfl⟩ := owned_mem.1 (List.mem_of_getElem? hx)
  have ho := own_one how hown
  have hne : n.Path ≠ [47] := fun e => by have := (H.rootL hn e).1; omega
  have hc := cut_of (H.node n hn).1 hne
  have hk : kidsL ns n.Path = [] := H.brief hn (by omega)
  have hnot : n.Path ∉ (ownedL ns ow).take i.toNat := by
    intro hm
    obtain ⟨j, hj⟩ := List.mem_iff_getElem?.1 hm
    rw [List.getElem?_take] at hj
    split at hj
    · rename_i hlt
      have := (List.getElem?_inj (List.getElem?_eq_some_iff.1 hj).1 (owned_nodup H.sort ow)).1 (hj.trans hx.symm)
      omega
    · cases hj
  have hg : n ∈ gone ns ((ownedL ns ow).take i.toNat) := gone_mem.2 ⟨hn, hnot⟩
  have hf := findL_of (gone_sort H.sort _).nodup hg
  have hk2 : kidsL (gone ns ((ownedL ns ow).take i.toNat)) n.Path = [] := by
    rw [List.eq_nil_iff_forall_not_mem]
    intro q hq
    obtain ⟨m, hm, h⟩ := kids_mem.1 hq
    have : q ∈ kidsL ns n.Path := kids_mem.2 ⟨m, (gone_mem.1 hm).1, h⟩
    rw [hk] at this
    cases this
  unfold dropT
  rw [if_neg (by simpa using hc), hf]
  simp only []
  rw [if_neg (fun h => absurd h.1 (by decide)), if_neg (by simpa using hk2)]
  congr 1
  rw [toNat_succ h0, take_at hx]
  unfold delL gone
  rw [List.filter_filter]
  apply List.filter_congr
  intro m hm
  simp only [List.mem_append, List.mem_singleton, ← Bool.not_or, ← Bool.decide_or]
  congr 1
  exact decide_eq_decide.2 (by constructor <;> (rintro (h | h) <;> simp [h]))
theorem own_all (H : TreeOk k ns) : gone ns (ownedL ns ow) = ns.filter fun n => !isOwn ow n := by
  unfold gone
  apply List.filter_congr
  intro n hn
  congr 1
  cases h : isOwn ow n with
  | true => exact decide_eq_true (owned_mem.2 ⟨n, hn, h, rfl⟩)
  | false =>
    refine decide_eq_false fun hm => ?_
    obtain ⟨m, hm, h2, e⟩ := owned_mem.1 hm
    rw [H.sort.uniq hm hn e, h] at h2
    cases h2
theorem own_end {i : Int} (hi : ¬ i < (ownedL ns ow).length) : gone ns ((ownedL ns ow).take i.toNat) = gone ns (ownedL ns ow) := by rw [List.take_of_length_le (by omega)]
theorem own_get (H : TreeOk k ns) {n : Leaf} (hn : n ∈ ns) : getT (gone ns (ownedL ns ow)) n.Path = if isOwn ow n = true then (leaf0, 100) else (n, 0) := by
  have hp := pErr_ok.2 (H.node n hn).1
  unfold getT
  rw [if_pos hp]
  cases h : isOwn ow n with
  | true =>
    have : findL (gone ns (ownedL ns ow)) n.Path = none := findL_none.2 fun m hm e => (gone_mem.1 hm).2 (e ▸ owned_mem.2 ⟨n, hn, h, rfl⟩)
    rw [this]
    rfl
  | false =>
    have hg : n ∈ gone ns (ownedL ns ow) := by rw [own_all H, List.mem_filter]; exact ⟨hn, by simp [h]⟩
    rw [findL_of (gone_sort H.sort _).nodup hg]
    rfl
theorem own_none (H : TreeOk k ns) : ownedL (gone ns (ownedL ns ow)) ow = [] := by
  rw [own_all H]
  unfold ownedL
  rw [List.filter_filter]
  have : (ns.filter fun n => (ow.any fun o => decide (n.Owner = o)) && !isOwn ow n) = [] := by
    rw [List.filter_eq_nil_iff]
    intro n hn
    unfold isOwn
    simp
  rw [this]
  rfl
def cntO (ns : List Leaf) (ow : List Int) : Nat := (ns.filter fun n => !isOwn ow n).length
theorem cntO_t {i m : Int} {n : Leaf} (h : m = (cntO (ns.take i.toNat) ow : Int)) (h0 : 0 ≤ i) (hx : ns[i.toNat]? = some n) (ho : isOwn ow n = true) : m = (cntO (ns.take (i + 1).toNat) ow : Int) := by
  rw [toNat_succ h0, take_at hx, h]
  unfold cntO
  rw [List.filter_append]
  simp [ho]
theorem cntO_f {i m : Int} {n : Leaf} (h : m = (cntO (ns.take i.toNat) ow : Int)) (h0 : 0 ≤ i) (hx : ns[i.toNat]? = some n) (ho : isOwn ow n = false) : m + 1 = (cntO (ns.take (i + 1).toNat) ow : Int) := by
  rw [toNat_succ h0, take_at hx, h]
  unfold cntO
  rw [List.filter_append]
  simp [ho]
theorem cntO_end (H : TreeOk k ns) {i m : Int} (h : m = (cntO (ns.take i.toNat) ow : Int)) (hi : ¬ i < ns.length) : ((gone ns (ownedL ns ow)).length : Int) = m := by
  rw [h, List.take_of_length_le (by omega), own_all H]
  rfl
end
section
variable {k : Int} {ns : List Leaf} {p data : Str} {num : Bool}
structure Back (k : Int) (ns : List Leaf) (p data : Str) (num : Bool) (q : Str) (up : Leaf) (n1 : List Leaf) : Prop where
  make : makeT ns p data (-1) 5 num = (n1, q, 0)
  ok : TreeOk (k + 1) n1
  get : getT n1 q = (⟨q, data, 0, -1, 0, 5⟩, 0)
  len : n1.length = ns.length + 1
  set : ∀ d : Str, d.length ≤ 128 → setT n1 q d 0 = (withL n1 ⟨q, d, 1, -1, 0, 5⟩, 1, 0)
  ok2 : ∀ d : Str, d.length ≤ 128 → TreeOk (k + 2) (withL n1 ⟨q, d, 1, -1, 0, 5⟩)
  set2 : ∀ d d2 : Str, d.length ≤ 128 → setT (withL n1 ⟨q, d, 1, -1, 0, 5⟩) q d2 0 = (withL n1 ⟨q, d, 1, -1, 0, 5⟩, 0, 102)
  drop1 : ∀ d : Str, d.length ≤ 128 → dropT (withL n1 ⟨q, d, 1, -1, 0, 5⟩) q 0 = (withL n1 ⟨q, d, 1, -1, 0, 5⟩, 102)
  drop2 : ∀ d : Str, d.length ≤ 128 → dropT (withL n1 ⟨q, d, 1, -1, 0, 5⟩) q 1 = (upL ns up num, 0)
  up : up ∈ ns ∧ parentOf q = up.Path ∧ cutErr q = 0
end
section
variable {k : Int} {ns : List Leaf}
end
end Go.Proofs.YtmjebehhpojihaaGreatDoor.Sw
namespace Go.Proofs.YtmjebehhpojihaaGreatDoor.Sw
open Go
set_option maxRecDepth 100000
set_option linter.unusedVariables false
set_option linter.unusedSimpArgs false
set_option linter.deprecated false
theorem copyBytes (B : World) (h : Heap) (g : GH) (hg : Sub g h) (hG : Glob g) (v_s : Value) (s : List UInt8) (h_s : SlR g 5 kU8 v_s s) (h1 : s.length ≤ 1000000000) :
    Spec Tryz.prog B 29 #[v_s] h g [] (fun rv g' L' => ∃ v0 k0, rv = v0 ∧ Row 5 kU8 g' v0 s k0 ∧ g' = g ∧ L' = [k0]) := by
  obtain ⟨a_s, n_s, rfl⟩ := h_s.form
  refine Spec.of_at (f := Tryz.f29) (e := [(0, .slice a_s s.length n_s)]) Tryz.func29 (by kernel_rfl) (Nat.le_of_ble_eq_true (by kernel_rfl)) (by kernel_rfl) (by kernel_rfl) ?_
  intro R hR
  have s0 := St.init hg
  refine At.reg (L := [(0, false)]) (by kernel_rfl) ?_
  refine Op.pures 1 [0] (L' := []) (e' := [(0, .slice a_s s.length n_s)]) (by kernel_rfl) ?_
  refine Op.goto 1 (by kernel_rfl) ?_
  refine At.reg (L := [(0, false), (1, false)]) (by kernel_rfl) ?_
  refine Op.lit (T := 29) (len := 0) (parts := #[]) (dst := 4) (E := 5) (ps := []) (cs := #[]) (by kernel_rfl) (by kernel_rfl) (by kernel_rfl) s0 ?_
  intro b1001 h1002 s1003
  refine Op.pures 1 [0, 3] (L' := []) (e' := [(0, .slice a_s s.length n_s), (3, .slice (some ⟨b1001, 0, none⟩) 0 0)]) (by kernel_rfl) ?_
  refine Op.goto 2 (by kernel_rfl) ?_
  refine At.reg (L := [(0, false), (1, false), (2, false), (3, false)]) (by kernel_rfl) ?_
  refine Op.pures 2 [3, 5, 6] (L' := [(2, false), (3, false)]) (e' := [(3, .slice (some ⟨b1001, 0, none⟩) 0 0), (5, .slice (some ⟨b1001, 0, none⟩) 0 0), (6, .slice a_s s.length n_s)]) (by kernel_rfl) ?_
  have R1004 : Row 5 kU8 g (.slice (some ⟨b1001, 0, none⟩) 0 0) ([] : List UInt8) [(b1001, Obj.cells #[] 5 (0, 0))] := Row.lit (by kernel_rfl) (by unfold maxLen; decide) (by kernel_rfl) Reads.nil
  obtain ⟨ns1005, hs1006, hr1007⟩ := Src.slice (P := Tryz.prog) (h_s.toH s1003.sub)
  refine Op.append (x := (.tmp 5)) (y := (.tmp 6)) (t := 29) (t' := 29) (dst := 7) (E := 5) (by_ := 1) (d := kU8) (by kernel_rfl) (by kernel_rfl) (by kernel_rfl) (by kernel_rfl) rfl R1004 s1003 0 rfl hs1006 (ys := s) hr1007 rfl (by (simp only [List.length_append, List.length_cons, List.length_nil, List.length_take, List.length_drop]; omega)) (fun _ _ _ => trivial) ?_
  intro v1008 ch1009 h1010 R1011 s1012 nn1013
  obtain ⟨a1014, n1015, rfl⟩ := R1011.form
  refine Op.pures 1 [3] (L' := []) (e' := [(3, .slice a1014 ((([] : List UInt8) ++ s).length) n1015)]) (by kernel_rfl) ?_
  refine Op.goto 3 (by kernel_rfl) ?_
  refine At.reg (L := [(0, false), (1, false)]) (by kernel_rfl) ?_
  refine Op.pures 2 [2] (L' := []) (e' := [(2, .slice a1014 ((([] : List UInt8) ++ s).length) n1015)]) (by kernel_rfl) ?_
  refine Op.goto 4 (by kernel_rfl) ?_
  refine At.ret (f := Tryz.f29) (v := .slice a1014 ((([] : List UInt8) ++ s).length) n1015) (by kernel_rfl) (by kernel_rfl) ?_
  refine hR _ _ _ _ s1012 ⟨(.slice a1014 ((([] : List UInt8) ++ s).length) n1015), ch1009, ?_, ?_, rfl, rfl⟩
  · exact rfl
  · exact rowEq R1011 (by simp)
theorem copyInts (B : World) (h : Heap) (g : GH) (hg : Sub g h) (hG : Glob g) (v_s : Value) (s : List Int) (h_s : SlR g 3 (kInt .i64) v_s s) (h1 : s.length ≤ 1000000000) :
    Spec Tryz.prog B 32 #[v_s] h g [] (fun rv g' L' => ∃ v0 k0, rv = v0 ∧ Row 3 (kInt .i64) g' v0 s k0 ∧ g' = g ∧ L' = [k0]) := by
  obtain ⟨a_s, n_s, rfl⟩ := h_s.form
  refine Spec.of_at (f := Tryz.f32) (e := [(0, .slice a_s s.length n_s)]) Tryz.func32 (by kernel_rfl) (Nat.le_of_ble_eq_true (by kernel_rfl)) (by kernel_rfl) (by kernel_rfl) ?_
  intro R hR
  have s0 := St.init hg
  refine At.reg (L := [(0, false)]) (by kernel_rfl) ?_
  refine Op.pures 1 [0] (L' := []) (e' := [(0, .slice a_s s.length n_s)]) (by kernel_rfl) ?_
  refine Op.goto 1 (by kernel_rfl) ?_
  refine At.reg (L := [(0, false), (1, false)]) (by kernel_rfl) ?_
  refine Op.lit (T := 44) (len := 0) (parts := #[]) (dst := 4) (E := 3) (ps := []) (cs := #[]) (by kernel_rfl) (by kernel_rfl) (by kernel_rfl) s0 ?_
  intro b1016 h1017 s1018
  refine Op.pures 1 [0, 3] (L' := []) (e' := [(0, .slice a_s s.length n_s), (3, .slice (some ⟨b1016, 0, none⟩) 0 0)]) (by kernel_rfl) ?_
  refine Op.goto 2 (by kernel_rfl) ?_
  refine At.reg (L := [(0, false), (1, false), (2, false), (3, false)]) (by kernel_rfl) ?_
  refine Op.pures 2 [3, 5, 6] (L' := [(2, false), (3, false)]) (e' := [(3, .slice (some ⟨b1016, 0, none⟩) 0 0), (5, .slice (some ⟨b1016, 0, none⟩) 0 0), (6, .slice a_s s.length n_s)]) (by kernel_rfl) ?_
  have R1019 : Row 3 (kInt .i64) g (.slice (some ⟨b1016, 0, none⟩) 0 0) ([] : List Int) [(b1016, Obj.cells #[] 3 (0, 0))] := Row.lit (by kernel_rfl) (by unfold maxLen; decide) (by kernel_rfl) Reads.nil
  obtain ⟨ns1020, hs1021, hr1022⟩ := Src.slice (P := Tryz.prog) (h_s.toH s1018.sub)
  refine Op.append (x := (.tmp 5)) (y := (.tmp 6)) (t := 44) (t' := 44) (dst := 7) (E := 3) (by_ := 8) (d := (kInt .i64)) (by kernel_rfl) (by kernel_rfl) (by kernel_rfl) (by kernel_rfl) rfl R1019 s1018 0 rfl hs1021 (ys := s) hr1022 rfl (by (simp only [List.length_append, List.length_cons, List.length_nil, List.length_take, List.length_drop]; omega)) (fun _ _ _ => trivial) ?_
  intro v1023 ch1024 h1025 R1026 s1027 nn1028
  obtain ⟨a1029, n1030, rfl⟩ := R1026.form
  refine Op.pures 1 [3] (L' := []) (e' := [(3, .slice a1029 ((([] : List Int) ++ s).length) n1030)]) (by kernel_rfl) ?_
  refine Op.goto 3 (by kernel_rfl) ?_
  refine At.reg (L := [(0, false), (1, false)]) (by kernel_rfl) ?_
  refine Op.pures 2 [2] (L' := []) (e' := [(2, .slice a1029 ((([] : List Int) ++ s).length) n1030)]) (by kernel_rfl) ?_
  refine Op.goto 4 (by kernel_rfl) ?_
  refine At.ret (f := Tryz.f32) (v := .slice a1029 ((([] : List Int) ++ s).length) n1030) (by kernel_rfl) (by kernel_rfl) ?_
  refine hR _ _ _ _ s1027 ⟨(.slice a1029 ((([] : List Int) ++ s).length) n1030), ch1024, ?_, ?_, rfl, rfl⟩
  · exact rfl
  · exact rowEq R1026 (by simp)
theorem sameBytes (B : World) (h : Heap) (g : GH) (hg : Sub g h) (hG : Glob g) (v_a : Value) (a : List UInt8) (h_a : SlR g 5 kU8 v_a a) (v_b : Value) (b : List UInt8) (h_b : SlR g 5 kU8 v_b b) (h1 : a.length ≤ 1000000000) :
    Spec Tryz.prog B 40 #[v_a, v_b] h g [] (fun rv g' L' => rv = .bool (decide (a = b)) ∧ g' = g ∧ L' = []) := by
  obtain ⟨a_a, n_a, rfl⟩ := h_a.form
  obtain ⟨a_b, n_b, rfl⟩ := h_b.form
  refine Spec.of_at (f := Tryz.f40) (e := [(0, .slice a_a a.length n_a), (1, .slice a_b b.length n_b)]) Tryz.func40 (by kernel_rfl) (Nat.le_of_ble_eq_true (by kernel_rfl)) (by kernel_rfl) (by kernel_rfl) ?_
  intro R hR
  have s0 := St.init hg
  refine At.reg (L := [(0, false)]) (by kernel_rfl) ?_
  refine Op.pures 1 [0, 1] (L' := []) (e' := [(0, .slice a_a a.length n_a), (1, .slice a_b b.length n_b)]) (by kernel_rfl) ?_
  refine Op.goto 1 (by kernel_rfl) ?_
  refine At.reg (L := [(0, false), (1, false), (2, false), (3, false), (4, false)]) (by kernel_rfl) ?_
  refine Op.pures 5 [0, 1, 10] (L' := []) (e' := [(0, .slice a_a a.length n_a), (1, .slice a_b b.length n_b), (10, .bool ((a.length : Int) != (b.length : Int)))]) (by kernel_rfl) ?_
  refine Op.goto 2 (by kernel_rfl) ?_
  refine At.cond (b := (a.length : Int) != (b.length : Int)) (c := .tmp 10) (by kernel_rfl) (by kernel_rfl) (by kernel_rfl) 3 5 (by kernel_rfl) (by kernel_rfl) (fun hb => ?_) (fun hb => ?_)
  · have c1031 : ¬ ((a.length : Int) = (b.length : Int)) := bneT hb
    clear hb
    refine At.keep [] ?_; show At _ _ _ [] _
    refine At.reg (L := [(0, false)]) (by kernel_rfl) ?_
    refine Op.pures 1 [4] (L' := []) (e' := [(4, .bool false)]) (by kernel_rfl) ?_
    refine Op.goto 4 (by kernel_rfl) ?_
    refine At.ret (f := Tryz.f40) (v := .bool false) (by kernel_rfl) (by kernel_rfl) ?_
    refine hR _ _ _ _ s0 ⟨?_, rfl, rfl⟩
    exact (eqB (by exact sameE_len (by assumption)))
  · have c1032 : (a.length : Int) = (b.length : Int) := bneF hb
    clear hb
    refine At.keep [0, 1] ?_; show At _ _ _ [(0, .slice a_a a.length n_a), (1, .slice a_b b.length n_b)] _
    refine At.reg (L := [(0, false)]) (by kernel_rfl) ?_
    refine Op.pures 1 [0, 1, 5] (L' := []) (e' := [(0, .slice a_a a.length n_a), (1, .slice a_b b.length n_b), (5, .int .i64 0)]) (by kernel_rfl) ?_
    refine Op.goto 6 (by kernel_rfl) ?_
    have loop6 : ∀ (m : Nat) (i : Int) (h1033 : Heap) (hm : a.length - i.toNat < m) (h0 : 0 ≤ i) (h2 : i ≤ a.length) (ht : a.take i.toNat = b.take i.toNat)     (s_loop61032 : St h g (ids []) g [] h1033), At (fctx Tryz.prog B 40 Tryz.f40 R) [] 6 [(0, .slice a_a a.length n_a), (1, .slice a_b b.length n_b), (5, .int .i64 i)] h1033 := by
      intro m; induction m with
      | zero => intros; omega
      | succ m ih6 =>
        intro i h1033 hm h0 h2 ht s_loop61032
        refine At.reg (L := [(0, false), (1, false), (2, false), (3, false)]) (by kernel_rfl) ?_
        refine Op.pures 4 [0, 1, 5, 14] (L' := []) (e' := [(0, .slice a_a a.length n_a), (1, .slice a_b b.length n_b), (5, .int .i64 i), (14, .bool (decide (i < (a.length : Int))))]) (by kernel_rfl) ?_
        refine Op.goto 7 (by kernel_rfl) ?_
        refine At.cond (b := decide (i < (a.length : Int))) (c := .tmp 14) (by kernel_rfl) (by kernel_rfl) (by kernel_rfl) 8 13 (by kernel_rfl) (by kernel_rfl) (fun hb => ?_) (fun hb => ?_)
        · have c1034 : i < (a.length : Int) := of_decide_eq_true hb
          clear hb
          refine At.keep [0, 1, 5] ?_; show At _ _ _ [(0, .slice a_a a.length n_a), (1, .slice a_b b.length n_b), (5, .int .i64 i)] _
          refine At.draw (by kernel_rfl) (fun _ => False) [(0, true), (1, true), (2, true), (4, true), (5, true), (6, true), (3, true), (7, false), (8, true)] (by kernel_rfl) ?_
          refine Op.pures 2 [0, 1, 5, 17, 18] (L' := [(2, true), (4, true), (5, true), (6, true), (3, true), (7, false), (8, true)]) (e' := [(0, .slice a_a a.length n_a), (1, .slice a_b b.length n_b), (5, .int .i64 i), (17, .slice a_a a.length n_a), (18, .int .i64 i)]) (by kernel_rfl) ?_
          obtain ⟨x1035, hx1036⟩ : ∃ c, a[(i : Int).toNat]? = some c := ⟨_, List.getElem?_eq_getElem (by omega)⟩
          obtain ⟨b1037, o1038, cu1039, fz1040, ha1041, hb1042, hk1043⟩ := SlR.at_ h_a _ hx1036
          cases ha1041
          refine Op.idx (T := 29) (E := 5) (sz := 1) (by_ := 1) (n := a.length) (c := n_a) (k := .i64) (x := (.tmp 17)) (ix := (.tmp 18)) (dst := 19) (bk := b1037) (o := o1038) (m := i) (by kernel_rfl) (by kernel_rfl) (by kernel_rfl) (by kernel_rfl) (by omega) (by omega) ?_
          replace hk1043 : cut _ _ _ = [.int .u8 (x1035.toNat : Int)] := hk1043
          refine Op.pures 2 [0, 1, 5, 19, 21, 22] (L' := [(6, true), (3, true), (7, false), (8, true)]) (e' := [(0, .slice (some ⟨b1037, o1038, none⟩) a.length n_a), (1, .slice a_b b.length n_b), (5, .int .i64 i), (19, .pointer (some ⟨b1037, o1038 + (i : Int).toNat * 1, none⟩)), (21, .slice a_b b.length n_b), (22, .int .i64 i)]) (by kernel_rfl) ?_
          obtain ⟨x1044, hx1045⟩ : ∃ c, b[(i : Int).toNat]? = some c := ⟨_, List.getElem?_eq_getElem (by omega)⟩
          obtain ⟨b1046, o1047, cu1048, fz1049, ha1050, hb1051, hk1052⟩ := SlR.at_ h_b _ hx1045
          cases ha1050
          refine Op.idx (T := 29) (E := 5) (sz := 1) (by_ := 1) (n := b.length) (c := n_b) (k := .i64) (x := (.tmp 21)) (ix := (.tmp 22)) (dst := 23) (bk := b1046) (o := o1047) (m := i) (by kernel_rfl) (by kernel_rfl) (by kernel_rfl) (by kernel_rfl) (by omega) (by omega) ?_
          replace hk1052 : cut _ _ _ = [.int .u8 (x1044.toNat : Int)] := hk1052
          refine Op.loadF (T := 5) (x := (.tmp 19)) (o := o1038 + (i : Int).toNat * 1) (d := 20) (n := 1) (v := .int .u8 (x1035.toNat : Int)) (by kernel_rfl) (by kernel_rfl) (by kernel_rfl) (fun h => h) (s_loop61032.sub _ _ hb1042) (cut_get hk1043 0 rfl) ?_
          refine Op.load (T := 5) (x := (.tmp 23)) (o := o1047 + (i : Int).toNat * 1) (d := 24) (n := 1) (v := .int .u8 (x1044.toNat : Int)) (by kernel_rfl) (by kernel_rfl) (by kernel_rfl) (s_loop61032.sub _ _ hb1051) (cut_get hk1052 0 rfl) ?_
          refine Op.pures 1 [0, 1, 5, 25] (L' := []) (e' := [(0, .slice (some ⟨b1037, o1038, none⟩) a.length n_a), (1, .slice (some ⟨b1046, o1047, none⟩) b.length n_b), (5, .int .i64 i), (25, .bool ((x1035.toNat : Int) != (x1044.toNat : Int)))]) (by kernel_rfl) ?_
          refine Op.goto 9 (by kernel_rfl) ?_
          refine At.cond (b := (x1035.toNat : Int) != (x1044.toNat : Int)) (c := .tmp 25) (by kernel_rfl) (by kernel_rfl) (by kernel_rfl) 10 12 (by kernel_rfl) (by kernel_rfl) (fun hb => ?_) (fun hb => ?_)
          · have c1053 : ¬ ((x1035.toNat : Int) = (x1044.toNat : Int)) := bneT hb
            clear hb
            refine At.keep [] ?_; show At _ _ _ [] _
            refine At.reg (L := [(0, false)]) (by kernel_rfl) ?_
            refine Op.pures 1 [4] (L' := []) (e' := [(4, .bool false)]) (by kernel_rfl) ?_
            refine Op.goto 11 (by kernel_rfl) ?_
            refine At.ret (f := Tryz.f40) (v := .bool false) (by kernel_rfl) (by kernel_rfl) ?_
            refine hR _ _ _ _ s_loop61032 ⟨?_, rfl, rfl⟩
            exact (eqB (by exact sameE_ne hx1036 hx1045 (u8_ne c1053)))
          · have c1054 : (x1035.toNat : Int) = (x1044.toNat : Int) := bneF hb
            clear hb
            refine At.keep [0, 1, 5] ?_; show At _ _ _ [(0, .slice (some ⟨b1037, o1038, none⟩) a.length n_a), (1, .slice (some ⟨b1046, o1047, none⟩) b.length n_b), (5, .int .i64 i)] _
            refine At.reg (L := [(0, false), (1, false), (2, false)]) (by kernel_rfl) ?_
            refine Op.pures 1 [0, 1, 5, 15] (L' := [(1, false), (2, false)]) (e' := [(0, .slice (some ⟨b1037, o1038, none⟩) a.length n_a), (1, .slice (some ⟨b1046, o1047, none⟩) b.length n_b), (5, .int .i64 i), (15, .int .i64 i)]) (by kernel_rfl) ?_
            refine Op.val (dst := some 16) (v := .int .i64 (IntKind.wrap .i64 (i + 1))) (v' := .int .i64 (i + 1)) (by kernel_rfl) (wrapEq_i64 (by omega) (by omega)) ?_
            refine Op.pures 1 [0, 1, 5] (L' := []) (e' := [(0, .slice (some ⟨b1037, o1038, none⟩) a.length n_a), (1, .slice (some ⟨b1046, o1047, none⟩) b.length n_b), (5, .int .i64 (i + 1))]) (by kernel_rfl) ?_
            refine Op.goto 6 (by kernel_rfl) ?_
            exact ih6  (i + 1) _ (by omega) (by omega) (by omega) (by exact take_step ht h0 hx1036 hx1045 (u8_eq c1054))  s_loop61032
        · have c1055 : ¬ (i < (a.length : Int)) := of_decide_eq_false hb
          clear hb
          refine At.keep [] ?_; show At _ _ _ [] _
          refine At.reg (L := [(0, false)]) (by kernel_rfl) ?_
          refine Op.pures 1 [4] (L' := []) (e' := [(4, .bool true)]) (by kernel_rfl) ?_
          refine Op.goto 14 (by kernel_rfl) ?_
          refine At.ret (f := Tryz.f40) (v := .bool true) (by kernel_rfl) (by kernel_rfl) ?_
          refine hR _ _ _ _ s_loop61032 ⟨?_, rfl, rfl⟩
          exact (eqB (by exact sameE_end (by assumption) c1055 ht))
    exact loop6 _  0 _ (Nat.lt_succ_self _) (by omega) (by omega) (by rfl)  s0
theorem sameLeaf (B : World) (h : Heap) (g : GH) (hg : Sub g h) (hG : Glob g) (a : Leaf) (v_a_1 : Value) (h_a_1 : SlR g 5 kU8 v_a_1 a.Data) (b : Leaf) (v_b_1 : Value) (h_b_1 : SlR g 5 kU8 v_b_1 b.Data) (h1 : a.Data.length ≤ 1000000000) :
    Spec Tryz.prog B 35 #[.agg #[.string (mkS a.Path), v_a_1, .int .i64 a.Version, .int .i64 a.Owner, .int .i64 a.Next, .int .i64 a.Born], .agg #[.string (mkS b.Path), v_b_1, .int .i64 b.Version, .int .i64 b.Owner, .int .i64 b.Next, .int .i64 b.Born]] h g [] (fun rv g' L' => rv = .bool (decide (a = b)) ∧ g' = g ∧ L' = []) := by
  obtain ⟨a_a_1, n_a_1, rfl⟩ := h_a_1.form
  obtain ⟨a_b_1, n_b_1, rfl⟩ := h_b_1.form
  refine Spec.of_at (f := Tryz.f35) (e := [(0, .agg #[.string (mkS a.Path), .slice a_a_1 a.Data.length n_a_1, .int .i64 a.Version, .int .i64 a.Owner, .int .i64 a.Next, .int .i64 a.Born]), (1, .agg #[.string (mkS b.Path), .slice a_b_1 b.Data.length n_b_1, .int .i64 b.Version, .int .i64 b.Owner, .int .i64 b.Next, .int .i64 b.Born])]) Tryz.func35 (by kernel_rfl) (Nat.le_of_ble_eq_true (by kernel_rfl)) (by kernel_rfl) (by kernel_rfl) ?_
  intro R hR
  have s0 := St.init hg
  refine At.reg (L := [(0, false), (1, false), (2, false)]) (by kernel_rfl) ?_
  refine Op.box (T := 59) (x := (.tmp 0)) (d := 2) (cs := #[.string (mkS a.Path), .slice a_a_1 a.Data.length n_a_1, .int .i64 a.Version, .int .i64 a.Owner, .int .i64 a.Next, .int .i64 a.Born]) (by kernel_rfl) (by kernel_rfl) s0 ?_
  intro b1146 h1147 s1148
  refine Op.box (T := 59) (x := (.tmp 1)) (d := 3) (cs := #[.string (mkS b.Path), .slice a_b_1 b.Data.length n_b_1, .int .i64 b.Version, .int .i64 b.Owner, .int .i64 b.Next, .int .i64 b.Born]) (by kernel_rfl) (by kernel_rfl) s1148 ?_
  intro b1149 h1150 s1151
  refine Op.pures 1 [2, 3] (L' := []) (e' := [(2, .pointer (some ⟨b1146, 0, none⟩)), (3, .pointer (some ⟨b1149, 0, none⟩))]) (by kernel_rfl) ?_
  refine Op.goto 1 (by kernel_rfl) ?_
  refine At.reg (L := [(0, false), (1, false), (2, false), (3, false), (4, false), (5, false), (6, false), (7, false), (8, false), (9, false), (10, false), (11, false), (12, false), (13, false), (14, false), (15, false), (16, false), (17, false), (18, false), (19, false), (20, false), (21, false), (22, false), (23, false), (24, false), (25, false), (26, false), (27, false), (28, false), (29, false), (30, false), (31, false), (32, false), (33, false), (34, false), (35, false), (36, false), (37, false), (38, false), (39, false), (40, false)]) (by kernel_rfl) ?_
  refine Op.pures 1 [2, 3, 5] (L' := [(1, false), (2, false), (3, false), (4, false), (5, false), (6, false), (7, false), (8, false), (9, false), (10, false), (11, false), (12, false), (13, false), (14, false), (15, false), (16, false), (17, false), (18, false), (19, false), (20, false), (21, false), (22, false), (23, false), (24, false), (25, false), (26, false), (27, false), (28, false), (29, false), (30, false), (31, false), (32, false), (33, false), (34, false), (35, false), (36, false), (37, false), (38, false), (39, false), (40, false)]) (e' := [(2, .pointer (some ⟨b1146, 0, none⟩)), (3, .pointer (some ⟨b1149, 0, none⟩)), (5, .pointer (some ⟨b1146, 0, none⟩))]) (by kernel_rfl) ?_
  refine Op.load (T := 9) (x := (.tmp 5)) (o := 0) (d := 6) (n := 1) (v := .string (mkS a.Path)) (by kernel_rfl) (by kernel_rfl) (by kernel_rfl) (s1151.chunk 1 rfl) (by kernel_rfl) ?_
  refine Op.pures 1 [2, 3, 6, 7] (L' := [(3, false), (4, false), (5, false), (6, false), (7, false), (8, false), (9, false), (10, false), (11, false), (12, false), (13, false), (14, false), (15, false), (16, false), (17, false), (18, false), (19, false), (20, false), (21, false), (22, false), (23, false), (24, false), (25, false), (26, false), (27, false), (28, false), (29, false), (30, false), (31, false), (32, false), (33, false), (34, false), (35, false), (36, false), (37, false), (38, false), (39, false), (40, false)]) (e' := [(2, .pointer (some ⟨b1146, 0, none⟩)), (3, .pointer (some ⟨b1149, 0, none⟩)), (6, .string (mkS a.Path)), (7, .pointer (some ⟨b1149, 0, none⟩))]) (by kernel_rfl) ?_
  refine Op.load (T := 9) (x := (.tmp 7)) (o := 0) (d := 8) (n := 1) (v := .string (mkS b.Path)) (by kernel_rfl) (by kernel_rfl) (by kernel_rfl) (s1151.chunk 0 rfl) (by kernel_rfl) ?_
  refine Op.val (dst := some 9) (v := .bool ((mkS a.Path).toList == (mkS b.Path).toList)) (v' := .bool (a.Path == b.Path)) (by kernel_rfl) (by rw [toList_mkS, toList_mkS]) ?_
  refine Op.pures 1 [2, 3, 10] (L' := [(6, false), (7, false), (8, false), (9, false), (10, false), (11, false), (12, false), (13, false), (14, false), (15, false), (16, false), (17, false), (18, false), (19, false), (20, false), (21, false), (22, false), (23, false), (24, false), (25, false), (26, false), (27, false), (28, false), (29, false), (30, false), (31, false), (32, false), (33, false), (34, false), (35, false), (36, false), (37, false), (38, false), (39, false), (40, false)]) (e' := [(2, .pointer (some ⟨b1146, 0, none⟩)), (3, .pointer (some ⟨b1149, 0, none⟩)), (10, .bool (a.Path == b.Path))]) (by kernel_rfl) ?_
  refine Op.ways (b := a.Path == b.Path) ⟨fun hb => ?_, fun hb => ?_⟩
  · refine Op.cast (e' := [(2, .pointer (some ⟨b1146, 0, none⟩)), (3, .pointer (some ⟨b1149, 0, none⟩)), (10, .bool true)]) (by rw [hb]) ?_
    have c1152 : a.Path = b.Path := eq_of_beq hb
    clear hb
    refine Op.pures 1 [2, 3, 10, 11] (L' := [(7, false), (8, false), (9, false), (10, false), (11, false), (12, false), (13, false), (14, false), (15, false), (16, false), (17, false), (18, false), (19, false), (20, false), (21, false), (22, false), (23, false), (24, false), (25, false), (26, false), (27, false), (28, false), (29, false), (30, false), (31, false), (32, false), (33, false), (34, false), (35, false), (36, false), (37, false), (38, false), (39, false), (40, false)]) (e' := [(2, .pointer (some ⟨b1146, 0, none⟩)), (3, .pointer (some ⟨b1149, 0, none⟩)), (10, .bool true), (11, .pointer (some ⟨b1146, 1, none⟩))]) (by kernel_rfl) ?_
    refine Op.load (T := 29) (x := (.tmp 11)) (o := 1) (d := 12) (n := 1) (v := .slice a_a_1 a.Data.length n_a_1) (by kernel_rfl) (by kernel_rfl) (by kernel_rfl) (s1151.chunk 1 rfl) (by kernel_rfl) ?_
    refine Op.pures 1 [2, 3, 10, 12, 13] (L' := [(9, false), (10, false), (11, false), (12, false), (13, false), (14, false), (15, false), (16, false), (17, false), (18, false), (19, false), (20, false), (21, false), (22, false), (23, false), (24, false), (25, false), (26, false), (27, false), (28, false), (29, false), (30, false), (31, false), (32, false), (33, false), (34, false), (35, false), (36, false), (37, false), (38, false), (39, false), (40, false)]) (e' := [(2, .pointer (some ⟨b1146, 0, none⟩)), (3, .pointer (some ⟨b1149, 0, none⟩)), (10, .bool true), (12, .slice a_a_1 a.Data.length n_a_1), (13, .pointer (some ⟨b1149, 1, none⟩))]) (by kernel_rfl) ?_
    refine Op.load (T := 29) (x := (.tmp 13)) (o := 1) (d := 14) (n := 1) (v := .slice a_b_1 b.Data.length n_b_1) (by kernel_rfl) (by kernel_rfl) (by kernel_rfl) (s1151.chunk 0 rfl) (by kernel_rfl) ?_
    refine Op.call0 (dst := some 15) (f := 40) (args := #[.slice a_a_1 a.Data.length n_a_1, .slice a_b_1 b.Data.length n_b_1]) (by kernel_rfl) s1151 (sameBytes _ _ _ s1151.sub hG _ _ h_a_1 _ _ h_b_1 (by ((try dsimp only) <;> (omega))) ) ?_
    rintro _ g1155 _ h1153 hle1156 s1154 ⟨rfl, hgg, rfl⟩; subst g1155; clear hle1156
    refine Op.pures 2 [2, 3, 17] (L' := [(13, false), (14, false), (15, false), (16, false), (17, false), (18, false), (19, false), (20, false), (21, false), (22, false), (23, false), (24, false), (25, false), (26, false), (27, false), (28, false), (29, false), (30, false), (31, false), (32, false), (33, false), (34, false), (35, false), (36, false), (37, false), (38, false), (39, false), (40, false)]) (e' := [(2, .pointer (some ⟨b1146, 0, none⟩)), (3, .pointer (some ⟨b1149, 0, none⟩)), (17, .bool (decide (a.Data = b.Data)))]) (by kernel_rfl) ?_
    refine Op.ways (b := decide (a.Data = b.Data)) ⟨fun hb => ?_, fun hb => ?_⟩
    · refine Op.cast (e' := [(2, .pointer (some ⟨b1146, 0, none⟩)), (3, .pointer (some ⟨b1149, 0, none⟩)), (17, .bool true)]) (by rw [hb]) ?_
      have c1157 : a.Data = b.Data := of_decide_eq_true hb
      clear hb
      refine Op.pures 1 [2, 3, 17, 18] (L' := [(14, false), (15, false), (16, false), (17, false), (18, false), (19, false), (20, false), (21, false), (22, false), (23, false), (24, false), (25, false), (26, false), (27, false), (28, false), (29, false), (30, false), (31, false), (32, false), (33, false), (34, false), (35, false), (36, false), (37, false), (38, false), (39, false), (40, false)]) (e' := [(2, .pointer (some ⟨b1146, 0, none⟩)), (3, .pointer (some ⟨b1149, 0, none⟩)), (17, .bool true), (18, .pointer (some ⟨b1146, 2, none⟩))]) (by kernel_rfl) ?_
      refine Op.load (T := 3) (x := (.tmp 18)) (o := 2) (d := 19) (n := 1) (v := .int .i64 a.Version) (by kernel_rfl) (by kernel_rfl) (by kernel_rfl) (s1154.chunk 1 rfl) (by kernel_rfl) ?_
      refine Op.pures 1 [2, 3, 17, 19, 20] (L' := [(16, false), (17, false), (18, false), (19, false), (20, false), (21, false), (22, false), (23, false), (24, false), (25, false), (26, false), (27, false), (28, false), (29, false), (30, false), (31, false), (32, false), (33, false), (34, false), (35, false), (36, false), (37, false), (38, false), (39, false), (40, false)]) (e' := [(2, .pointer (some ⟨b1146, 0, none⟩)), (3, .pointer (some ⟨b1149, 0, none⟩)), (17, .bool true), (19, .int .i64 a.Version), (20, .pointer (some ⟨b1149, 2, none⟩))]) (by kernel_rfl) ?_
      refine Op.load (T := 3) (x := (.tmp 20)) (o := 2) (d := 21) (n := 1) (v := .int .i64 b.Version) (by kernel_rfl) (by kernel_rfl) (by kernel_rfl) (s1154.chunk 0 rfl) (by kernel_rfl) ?_
      refine Op.pures 3 [2, 3, 24] (L' := [(20, false), (21, false), (22, false), (23, false), (24, false), (25, false), (26, false), (27, false), (28, false), (29, false), (30, false), (31, false), (32, false), (33, false), (34, false), (35, false), (36, false), (37, false), (38, false), (39, false), (40, false)]) (e' := [(2, .pointer (some ⟨b1146, 0, none⟩)), (3, .pointer (some ⟨b1149, 0, none⟩)), (24, .bool (a.Version == b.Version))]) (by kernel_rfl) ?_
      refine Op.ways (b := a.Version == b.Version) ⟨fun hb => ?_, fun hb => ?_⟩
      · refine Op.cast (e' := [(2, .pointer (some ⟨b1146, 0, none⟩)), (3, .pointer (some ⟨b1149, 0, none⟩)), (24, .bool true)]) (by rw [hb]) ?_
        have c1158 : a.Version = b.Version := eq_of_beq hb
        clear hb
        refine Op.pures 1 [2, 3, 24, 25] (L' := [(21, false), (22, false), (23, false), (24, false), (25, false), (26, false), (27, false), (28, false), (29, false), (30, false), (31, false), (32, false), (33, false), (34, false), (35, false), (36, false), (37, false), (38, false), (39, false), (40, false)]) (e' := [(2, .pointer (some ⟨b1146, 0, none⟩)), (3, .pointer (some ⟨b1149, 0, none⟩)), (24, .bool true), (25, .pointer (some ⟨b1146, 3, none⟩))]) (by kernel_rfl) ?_
        refine Op.load (T := 3) (x := (.tmp 25)) (o := 3) (d := 26) (n := 1) (v := .int .i64 a.Owner) (by kernel_rfl) (by kernel_rfl) (by kernel_rfl) (s1154.chunk 1 rfl) (by kernel_rfl) ?_
        refine Op.pures 1 [2, 3, 24, 26, 27] (L' := [(23, false), (24, false), (25, false), (26, false), (27, false), (28, false), (29, false), (30, false), (31, false), (32, false), (33, false), (34, false), (35, false), (36, false), (37, false), (38, false), (39, false), (40, false)]) (e' := [(2, .pointer (some ⟨b1146, 0, none⟩)), (3, .pointer (some ⟨b1149, 0, none⟩)), (24, .bool true), (26, .int .i64 a.Owner), (27, .pointer (some ⟨b1149, 3, none⟩))]) (by kernel_rfl) ?_
        refine Op.load (T := 3) (x := (.tmp 27)) (o := 3) (d := 28) (n := 1) (v := .int .i64 b.Owner) (by kernel_rfl) (by kernel_rfl) (by kernel_rfl) (s1154.chunk 0 rfl) (by kernel_rfl) ?_
        refine Op.pures 3 [2, 3, 31] (L' := [(27, false), (28, false), (29, false), (30, false), (31, false), (32, false), (33, false), (34, false), (35, false), (36, false), (37, false), (38, false), (39, false), (40, false)]) (e' := [(2, .pointer (some ⟨b1146, 0, none⟩)), (3, .pointer (some ⟨b1149, 0, none⟩)), (31, .bool (a.Owner == b.Owner))]) (by kernel_rfl) ?_
        refine Op.ways (b := a.Owner == b.Owner) ⟨fun hb => ?_, fun hb => ?_⟩
        · refine Op.cast (e' := [(2, .pointer (some ⟨b1146, 0, none⟩)), (3, .pointer (some ⟨b1149, 0, none⟩)), (31, .bool true)]) (by rw [hb]) ?_
          have c1159 : a.Owner = b.Owner := eq_of_beq hb
          clear hb
          refine Op.pures 1 [2, 3, 31, 32] (L' := [(28, false), (29, false), (30, false), (31, false), (32, false), (33, false), (34, false), (35, false), (36, false), (37, false), (38, false), (39, false), (40, false)]) (e' := [(2, .pointer (some ⟨b1146, 0, none⟩)), (3, .pointer (some ⟨b1149, 0, none⟩)), (31, .bool true), (32, .pointer (some ⟨b1146, 4, none⟩))]) (by kernel_rfl) ?_
          refine Op.load (T := 3) (x := (.tmp 32)) (o := 4) (d := 33) (n := 1) (v := .int .i64 a.Next) (by kernel_rfl) (by kernel_rfl) (by kernel_rfl) (s1154.chunk 1 rfl) (by kernel_rfl) ?_
          refine Op.pures 1 [2, 3, 31, 33, 34] (L' := [(30, false), (31, false), (32, false), (33, false), (34, false), (35, false), (36, false), (37, false), (38, false), (39, false), (40, false)]) (e' := [(2, .pointer (some ⟨b1146, 0, none⟩)), (3, .pointer (some ⟨b1149, 0, none⟩)), (31, .bool true), (33, .int .i64 a.Next), (34, .pointer (some ⟨b1149, 4, none⟩))]) (by kernel_rfl) ?_
          refine Op.load (T := 3) (x := (.tmp 34)) (o := 4) (d := 35) (n := 1) (v := .int .i64 b.Next) (by kernel_rfl) (by kernel_rfl) (by kernel_rfl) (s1154.chunk 0 rfl) (by kernel_rfl) ?_
          refine Op.pures 3 [2, 3, 38] (L' := [(34, false), (35, false), (36, false), (37, false), (38, false), (39, false), (40, false)]) (e' := [(2, .pointer (some ⟨b1146, 0, none⟩)), (3, .pointer (some ⟨b1149, 0, none⟩)), (38, .bool (a.Next == b.Next))]) (by kernel_rfl) ?_
          refine Op.ways (b := a.Next == b.Next) ⟨fun hb => ?_, fun hb => ?_⟩
          · refine Op.cast (e' := [(2, .pointer (some ⟨b1146, 0, none⟩)), (3, .pointer (some ⟨b1149, 0, none⟩)), (38, .bool true)]) (by rw [hb]) ?_
            have c1160 : a.Next = b.Next := eq_of_beq hb
            clear hb
            refine Op.pures 1 [3, 38, 39] (L' := [(35, false), (36, false), (37, false), (38, false), (39, false), (40, false)]) (e' := [(3, .pointer (some ⟨b1149, 0, none⟩)), (38, .bool true), (39, .pointer (some ⟨b1146, 5, none⟩))]) (by kernel_rfl) ?_
            refine Op.load (T := 3) (x := (.tmp 39)) (o := 5) (d := 40) (n := 1) (v := .int .i64 a.Born) (by kernel_rfl) (by kernel_rfl) (by kernel_rfl) (s1154.chunk 1 rfl) (by kernel_rfl) ?_
            refine Op.pures 1 [38, 40, 41] (L' := [(37, false), (38, false), (39, false), (40, false)]) (e' := [(38, .bool true), (40, .int .i64 a.Born), (41, .pointer (some ⟨b1149, 5, none⟩))]) (by kernel_rfl) ?_
            refine Op.load (T := 3) (x := (.tmp 41)) (o := 5) (d := 42) (n := 1) (v := .int .i64 b.Born) (by kernel_rfl) (by kernel_rfl) (by kernel_rfl) (s1154.chunk 0 rfl) (by kernel_rfl) ?_
            refine Op.pures 3 [4] (L' := []) (e' := [(4, .bool (a.Born == b.Born))]) (by kernel_rfl) ?_
            refine Op.goto 2 (by kernel_rfl) ?_
            refine At.ret (f := Tryz.f35) (v := .bool (a.Born == b.Born)) (by kernel_rfl) (by kernel_rfl) ?_
            have s1161 : St h g (ids []) g [] h1153 := (s1154).drop.drop
            refine hR _ _ _ _ s1161 ⟨?_, rfl, rfl⟩
            exact (eqB (by exact lfY (by assumption) (by assumption) (by assumption) (by assumption) (by assumption)))
          · refine Op.cast (e' := [(2, .pointer (some ⟨b1146, 0, none⟩)), (3, .pointer (some ⟨b1149, 0, none⟩)), (38, .bool false)]) (by rw [hb]) ?_
            have c1162 : ¬ (a.Next = b.Next) := neF hb
            clear hb
            refine Op.pures 7 [4] (L' := []) (e' := [(4, .bool false)]) (by kernel_rfl) ?_
            refine Op.goto 2 (by kernel_rfl) ?_
            refine At.ret (f := Tryz.f35) (v := .bool false) (by kernel_rfl) (by kernel_rfl) ?_
            have s1163 : St h g (ids []) g [] h1153 := (s1154).drop.drop
            refine hR _ _ _ _ s1163 ⟨?_, rfl, rfl⟩
            exact (eqB (by exact lfN (.inr (.inr (.inr (.inr (by assumption)))))))
        · refine Op.cast (e' := [(2, .pointer (some ⟨b1146, 0, none⟩)), (3, .pointer (some ⟨b1149, 0, none⟩)), (31, .bool false)]) (by rw [hb]) ?_
          have c1164 : ¬ (a.Owner = b.Owner) := neF hb
          clear hb
          refine Op.pures 14 [4] (L' := []) (e' := [(4, .bool false)]) (by kernel_rfl) ?_
          refine Op.goto 2 (by kernel_rfl) ?_
          refine At.ret (f := Tryz.f35) (v := .bool false) (by kernel_rfl) (by kernel_rfl) ?_
          have s1165 : St h g (ids []) g [] h1153 := (s1154).drop.drop
          refine hR _ _ _ _ s1165 ⟨?_, rfl, rfl⟩
          exact (eqB (by exact lfN (.inr (.inr (.inr (.inl (by assumption)))))))
      · refine Op.cast (e' := [(2, .pointer (some ⟨b1146, 0, none⟩)), (3, .pointer (some ⟨b1149, 0, none⟩)), (24, .bool false)]) (by rw [hb]) ?_
        have c1166 : ¬ (a.Version = b.Version) := neF hb
        clear hb
        refine Op.pures 21 [4] (L' := []) (e' := [(4, .bool false)]) (by kernel_rfl) ?_
        refine Op.goto 2 (by kernel_rfl) ?_
        refine At.ret (f := Tryz.f35) (v := .bool false) (by kernel_rfl) (by kernel_rfl) ?_
        have s1167 : St h g (ids []) g [] h1153 := (s1154).drop.drop
        refine hR _ _ _ _ s1167 ⟨?_, rfl, rfl⟩
        exact (eqB (by exact lfN (.inr (.inr (.inl (by assumption))))))
    · refine Op.cast (e' := [(2, .pointer (some ⟨b1146, 0, none⟩)), (3, .pointer (some ⟨b1149, 0, none⟩)), (17, .bool false)]) (by rw [hb]) ?_
      have c1168 : ¬ (a.Data = b.Data) := of_decide_eq_false hb
      clear hb
      refine Op.pures 28 [4] (L' := []) (e' := [(4, .bool false)]) (by kernel_rfl) ?_
      refine Op.goto 2 (by kernel_rfl) ?_
      refine At.ret (f := Tryz.f35) (v := .bool false) (by kernel_rfl) (by kernel_rfl) ?_
      have s1169 : St h g (ids []) g [] h1153 := (s1154).drop.drop
      refine hR _ _ _ _ s1169 ⟨?_, rfl, rfl⟩
      exact (eqB (by exact lfN (.inr (.inl (by assumption)))))
  · refine Op.cast (e' := [(2, .pointer (some ⟨b1146, 0, none⟩)), (3, .pointer (some ⟨b1149, 0, none⟩)), (10, .bool false)]) (by rw [hb]) ?_
    have c1170 : ¬ (a.Path = b.Path) := neF hb
    clear hb
    refine Op.pures 35 [4] (L' := []) (e' := [(4, .bool false)]) (by kernel_rfl) ?_
    refine Op.goto 2 (by kernel_rfl) ?_
    refine At.ret (f := Tryz.f35) (v := .bool false) (by kernel_rfl) (by kernel_rfl) ?_
    have s1171 : St h g (ids []) g [] h1150 := (s1151).drop.drop
    refine hR _ _ _ _ s1171 ⟨?_, rfl, rfl⟩
    exact (eqB (by exact lfN (.inl (by assumption))))
end Go.Proofs.YtmjebehhpojihaaGreatDoor.Sw
namespace Go.Proofs.YtmjebehhpojihaaGreatDoor.Sw
open Go
set_option maxRecDepth 100000
set_option linter.unusedVariables false
set_option linter.unusedSimpArgs false
set_option linter.deprecated false
theorem atR (B : World) (h : Heap) (g : GH) (hg : Sub g h) (hG : Glob g) (t : R10Tree) (v_t_0 : Value) (h_t_0 : SlR g 59 kLeaf v_t_0 t.All) (p : List UInt8) (h1 : t.All.length ≤ 1000000000) :
    Spec Tryz.prog B 86 #[.agg #[v_t_0], .string (mkS p)] h g [] (fun rv g' L' => rv = .int .i64 (atP t.All p) ∧ g' = g ∧ L' = []) := by
  obtain ⟨a_t_0, n_t_0, rfl⟩ := h_t_0.form
  refine Spec.of_at (f := Tryz.f86) (e := [(0, .agg #[.slice a_t_0 t.All.length n_t_0]), (1, .string (mkS p))]) Tryz.func86 (by kernel_rfl) (Nat.le_of_ble_eq_true (by kernel_rfl)) (by kernel_rfl) (by kernel_rfl) ?_
  intro R hR
  have s0 := St.init hg
  refine At.reg (L := [(0, false), (1, false)]) (by kernel_rfl) ?_
  refine Op.box (T := 75) (x := (.tmp 0)) (d := 2) (cs := #[.slice a_t_0 t.All.length n_t_0]) (by kernel_rfl) (by kernel_rfl) s0 ?_
  intro b1015 h1016 s1017
  refine Op.pures 1 [1, 2] (L' := []) (e' := [(1, .string (mkS p)), (2, .pointer (some ⟨b1015, 0, none⟩))]) (by kernel_rfl) ?_
  refine Op.goto 1 (by kernel_rfl) ?_
  refine At.reg (L := [(0, false)]) (by kernel_rfl) ?_
  refine Op.pures 1 [1, 2, 5] (L' := []) (e' := [(1, .string (mkS p)), (2, .pointer (some ⟨b1015, 0, none⟩)), (5, .int .i64 0)]) (by kernel_rfl) ?_
  refine Op.goto 2 (by kernel_rfl) ?_
  have loop2 : ∀ (m : Nat) (i : Int) (h1018 : Heap) (hm : t.All.length - i.toNat < m) (h0 : 0 ≤ i) (h3 : i ≤ t.All.length) (hat : findAt (fun n : Leaf => decide (n.Path = p)) t.All i)     (s_loop21017 : St h g (ids []) g [[(b1015, Obj.cells #[.slice a_t_0 t.All.length n_t_0] 75 (0, 0))]] h1018), At (fctx Tryz.prog B 86 Tryz.f86 R) [] 2 [(1, .string (mkS p)), (2, .pointer (some ⟨b1015, 0, none⟩)), (5, .int .i64 i)] h1018 := by
    intro m; induction m with
    | zero => intros; omega
    | succ m ih2 =>
      intro i h1018 hm h0 h3 hat s_loop21017
      refine At.reg (L := [(0, false), (1, false), (2, false), (3, false), (4, false)]) (by kernel_rfl) ?_
      refine Op.pures 2 [1, 2, 5, 6, 7] (L' := [(2, false), (3, false), (4, false)]) (e' := [(1, .string (mkS p)), (2, .pointer (some ⟨b1015, 0, none⟩)), (5, .int .i64 i), (6, .int .i64 i), (7, .pointer (some ⟨b1015, 0, none⟩))]) (by kernel_rfl) ?_
      refine Op.load (T := 52) (x := (.tmp 7)) (o := 0) (d := 8) (n := 1) (v := .slice a_t_0 t.All.length n_t_0) (by kernel_rfl) (by kernel_rfl) (by kernel_rfl) (s_loop21017.chunk 0 rfl) (by kernel_rfl) ?_
      refine Op.pures 2 [1, 2, 5, 10] (L' := []) (e' := [(1, .string (mkS p)), (2, .pointer (some ⟨b1015, 0, none⟩)), (5, .int .i64 i), (10, .bool (decide (i < (t.All.length : Int))))]) (by kernel_rfl) ?_
      refine Op.goto 3 (by kernel_rfl) ?_
      refine At.cond (b := decide (i < (t.All.length : Int))) (c := .tmp 10) (by kernel_rfl) (by kernel_rfl) (by kernel_rfl) 4 9 (by kernel_rfl) (by kernel_rfl) (fun hb => ?_) (fun hb => ?_)
      · have c1019 : i < (t.All.length : Int) := of_decide_eq_true hb
        clear hb
        refine At.keep [1, 2, 5] ?_; show At _ _ _ [(1, .string (mkS p)), (2, .pointer (some ⟨b1015, 0, none⟩)), (5, .int .i64 i)] _
        refine At.reg (L := [(0, false), (1, false), (2, false), (3, false), (4, false), (5, false), (6, false), (7, false)]) (by kernel_rfl) ?_
        refine Op.pures 1 [1, 2, 5, 13] (L' := [(1, false), (2, false), (3, false), (4, false), (5, false), (6, false), (7, false)]) (e' := [(1, .string (mkS p)), (2, .pointer (some ⟨b1015, 0, none⟩)), (5, .int .i64 i), (13, .pointer (some ⟨b1015, 0, none⟩))]) (by kernel_rfl) ?_
        refine Op.load (T := 52) (x := (.tmp 13)) (o := 0) (d := 14) (n := 1) (v := .slice a_t_0 t.All.length n_t_0) (by kernel_rfl) (by kernel_rfl) (by kernel_rfl) (s_loop21017.chunk 0 rfl) (by kernel_rfl) ?_
        refine Op.pures 1 [1, 2, 5, 14, 15] (L' := [(3, false), (4, false), (5, false), (6, false), (7, false)]) (e' := [(1, .string (mkS p)), (2, .pointer (some ⟨b1015, 0, none⟩)), (5, .int .i64 i), (14, .slice a_t_0 t.All.length n_t_0), (15, .int .i64 i)]) (by kernel_rfl) ?_
        obtain ⟨x1020, hx1021⟩ : ∃ c, t.All[(i : Int).toNat]? = some c := ⟨_, List.getElem?_eq_getElem (by omega)⟩
        obtain ⟨b1022, o1023, cu1024, fz1025, ha1026, hb1027, hk1028⟩ := SlR.at_ h_t_0 _ hx1021
        cases ha1026
        refine Op.idx (T := 52) (E := 59) (sz := 6) (by_ := 72) (n := t.All.length) (c := n_t_0) (k := .i64) (x := (.tmp 14)) (ix := (.tmp 15)) (dst := 16) (bk := b1022) (o := o1023) (m := i) (by kernel_rfl) (by kernel_rfl) (by kernel_rfl) (by kernel_rfl) (by omega) (by omega) ?_
        obtain ⟨v1029, hv1030, hk1028⟩ := hk1028
        obtain ⟨a1031, n1032, rfl⟩ := hv1030.form
        refine Op.pures 1 [1, 2, 5, 17] (L' := [(5, false), (6, false), (7, false)]) (e' := [(1, .string (mkS p)), (2, .pointer (some ⟨b1015, 0, none⟩)), (5, .int .i64 i), (17, .pointer (some ⟨b1022, o1023 + (i : Int).toNat * 6, none⟩))]) (by kernel_rfl) ?_
        refine Op.load (T := 9) (x := (.tmp 17)) (o := o1023 + (i : Int).toNat * 6) (d := 18) (n := 1) (v := .string (mkS x1020.Path)) (by kernel_rfl) (by kernel_rfl) (by kernel_rfl) (s_loop21017.sub _ _ hb1027) (cut_get hk1028 0 rfl) ?_
        refine Op.pures 1 [1, 2, 5, 18, 19] (L' := [(7, false)]) (e' := [(1, .string (mkS p)), (2, .pointer (some ⟨b1015, 0, none⟩)), (5, .int .i64 i), (18, .string (mkS x1020.Path)), (19, .string (mkS p))]) (by kernel_rfl) ?_
        refine Op.val (dst := some 20) (v := .bool ((mkS x1020.Path).toList == (mkS p).toList)) (v' := .bool (x1020.Path == p)) (by kernel_rfl) (by rw [toList_mkS, toList_mkS]) ?_
        refine Op.goto 5 (by kernel_rfl) ?_
        refine At.cond (b := x1020.Path == p) (c := .tmp 20) (by kernel_rfl) (by kernel_rfl) (by kernel_rfl) 6 8 (by kernel_rfl) (by kernel_rfl) (fun hb => ?_) (fun hb => ?_)
        · have c1033 : x1020.Path = p := eq_of_beq hb
          clear hb
          refine At.keep [5] ?_; show At _ _ _ [(5, .int .i64 i)] _
          refine At.reg (L := [(0, false), (1, false)]) (by kernel_rfl) ?_
          refine Op.pures 2 [4] (L' := []) (e' := [(4, .int .i64 i)]) (by kernel_rfl) ?_
          refine Op.goto 7 (by kernel_rfl) ?_
          refine At.ret (f := Tryz.f86) (v := .int .i64 i) (by kernel_rfl) (by kernel_rfl) ?_
          have s1034 : St h g (ids []) g [] h1018 := (s_loop21017).drop
          refine hR _ _ _ _ s1034 ⟨?_, rfl, rfl⟩
          exact (eqI (by exact findAt_hit hat hx1021 (decide_eq_true c1033)))
        · have c1035 : ¬ (x1020.Path = p) := neF hb
          clear hb
          refine At.keep [1, 2, 5] ?_; show At _ _ _ [(1, .string (mkS p)), (2, .pointer (some ⟨b1015, 0, none⟩)), (5, .int .i64 i)] _
          refine At.reg (L := [(0, false), (1, false), (2, false)]) (by kernel_rfl) ?_
          refine Op.pures 1 [1, 2, 5, 11] (L' := [(1, false), (2, false)]) (e' := [(1, .string (mkS p)), (2, .pointer (some ⟨b1015, 0, none⟩)), (5, .int .i64 i), (11, .int .i64 i)]) (by kernel_rfl) ?_
          refine Op.val (dst := some 12) (v := .int .i64 (IntKind.wrap .i64 (i + 1))) (v' := .int .i64 (i + 1)) (by kernel_rfl) (wrapEq_i64 (by omega) (by omega)) ?_
          refine Op.pures 1 [1, 2, 5] (L' := []) (e' := [(1, .string (mkS p)), (2, .pointer (some ⟨b1015, 0, none⟩)), (5, .int .i64 (i + 1))]) (by kernel_rfl) ?_
          refine Op.goto 2 (by kernel_rfl) ?_
          exact ih2  (i + 1) _ (by omega) (by omega) (by omega) (by exact findAt_miss hat h0 hx1021 (decide_eq_false c1035))  s_loop21017
      · have c1036 : ¬ (i < (t.All.length : Int)) := of_decide_eq_false hb
        clear hb
        refine At.keep [] ?_; show At _ _ _ [] _
        refine At.reg (L := [(0, false)]) (by kernel_rfl) ?_
        refine Op.pures 1 [4] (L' := []) (e' := [(4, .int .i64 (-1))]) (by kernel_rfl) ?_
        refine Op.goto 10 (by kernel_rfl) ?_
        refine At.ret (f := Tryz.f86) (v := .int .i64 (-1)) (by kernel_rfl) (by kernel_rfl) ?_
        have s1037 : St h g (ids []) g [] h1018 := (s_loop21017).drop
        refine hR _ _ _ _ s1037 ⟨?_, rfl, rfl⟩
        exact (eqI (by exact findAt_end hat c1036))
  exact loop2 _  0 _ (Nat.lt_succ_self _) (by omega) (by omega) (by exact findAt_0 _ _)  s1017
end Go.Proofs.YtmjebehhpojihaaGreatDoor.Sw
namespace Go.Proofs.YtmjebehhpojihaaGreatDoor.Sw
set_option linter.unusedVariables false
set_option linter.unusedSimpArgs false
set_option linter.deprecated false
open Go
def al1 : List Leaf := [⟨[47], [], 0, -1, 0, 0⟩, ⟨[47, 113], [], 0, -1, 0, 1⟩]
def al2 : List Leaf := [⟨[47], [], 0, -1, 0, 0⟩, ⟨[47, 113], [], 0, -1, 1, 1⟩, ⟨[47, 113, 47, 116, 45, 48, 48, 48, 48, 48], [120], 0, 3, 0, 2⟩]
theorem al_1 : makeT [⟨[47], [], 0, -1, 0, 0⟩] [47, 113] [] (-1) 1 false = (al1, [47, 113], 0) := by decide +kernel
theorem al_num : numS [47, 113, 47, 116, 45] 0 = [47, 113, 47, 116, 45, 48, 48, 48, 48, 48] ∧ numE [47, 113, 47, 116, 45] 0 = 0 := by
  have h : numOk [47, 113, 47, 116, 45] 0 = true := by decide +kernel
  have hd : dig5 0 = [48, 48, 48, 48, 48] := by rw [← low_dig (by decide) (by decide)]; decide +kernel
  unfold numS numE
  rw [if_pos h, if_pos h, hd]
  decide +kernel
theorem al_2 : makeT al1 [47, 113, 47, 116, 45] [120] 3 2 true = (al2, [47, 113, 47, 116, 45, 48, 48, 48, 48, 48], 0) := by
  have h := rm_8 (ns := al1) (p := [47, 113, 47, 116, 45]) (data := [120]) (owner := 3) (born := 2) (num := true) (up := ⟨[47, 113], [], 0, -1, 0, 1⟩) (q := [47, 113, 47, 116, 45, 48, 48, 48, 48, 48])
    (by decide +kernel) (by decide) (by decide +kernel) rfl ⟨al_num.2, al_num.1⟩ (by decide +kernel) (by decide +kernel)
  rw [h]
  have : madeL al1 ⟨[47, 113], [], 0, -1, 0, 1⟩ [47, 113, 47, 116, 45, 48, 48, 48, 48, 48] [120] 3 2 true = al2 := by decide +kernel
  rw [this]
theorem al_3 : getT al2 [47, 113, 47, 116, 45, 48, 48, 48, 48, 48] = (⟨[47, 113, 47, 116, 45, 48, 48, 48, 48, 48], [120], 0, 3, 0, 2⟩, 0) := by decide +kernel
theorem al_4 : dropT al2 [47, 113] (-1) = (al2, 103) := by decide +kernel
theorem al_b0 : TreeB [⟨[47], [], 0, -1, 0, 0⟩] := (TreeOk.new).b (by decide)
theorem al_b1 : TreeB al1 := ⟨by decide, by decide⟩
theorem al_b2 : TreeB al2 := ⟨by decide, by decide⟩
def opZ (o : L10Op) : Int := (1 + (o.Path.length : Int)) + (o.Data.length : Int)
def grN : List L10Op → Int → Int
  | [], n => n
  | o :: r, n => if n ≤ 100000 then grN r (n + opZ o) else n
theorem gr_step {l : List L10Op} {i n : Int} {o : L10Op} (h : grN l 0 = grN (l.drop i.toNat) n) (h0 : 0 ≤ i) (hx : l[i.toNat]? = some o) (hn : n ≤ 100000) : grN l 0 = grN (l.drop (i + 1).toNat) (n + opZ o) := by
  rw [h, drop_at hx, toNat_succ h0, grN, if_pos hn]
theorem gr_end1 {l : List L10Op} {i n : Int} (h : grN l 0 = grN (l.drop i.toNat) n) (hi : ¬ (i < (l.length : Int))) : n = grN l 0 := by
  rw [h, List.drop_eq_nil_of_le (by omega)]; rfl
theorem gr_end2 {l : List L10Op} {i n : Int} (h : grN l 0 = grN (l.drop i.toNat) n) (hn : ¬ (n ≤ 100000)) : n = grN l 0 := by
  rw [h]
  cases l.drop i.toNat with
  | nil => rfl
  | cons o r => rw [grN, if_neg hn]
theorem grN_ge : ∀ (l : List L10Op) (n : Int), n ≤ grN l n
  | [], n => by simp [grN]
  | o :: r, n => by
    unfold grN
    split
    · have := grN_ge r (n + opZ o)
      unfold opZ at *
      omega
    · omega
def greatB (l : List L10Op) : Bool := decide (grN l 0 > 10000) || decide ((l.length : Int) > 150)
theorem gr_mem : ∀ (l : List L10Op) (n : Int), 0 ≤ n → grN l n ≤ 10000 → ∀ o ∈ l, o.Path.length ≤ 10000 ∧ o.Data.length ≤ 10000
  | [], n, _, _, o, ho => absurd ho (by simp)
  | q :: r, n, h0, h, o, ho => by
    unfold grN at h
    split at h
    · have hz : 0 ≤ opZ q := by unfold opZ; omega
      rcases List.mem_cons.1 ho with rfl | ho
      · have := grN_ge r (n + opZ o)
        unfold opZ at *
        omega
      · exact gr_mem r (n + opZ q) (by omega) h o ho
    · omega
theorem small {l : List L10Op} (h : greatB l = false) : l.length ≤ 150 ∧ ∀ o ∈ l, o.Path.length ≤ 10000 ∧ o.Data.length ≤ 10000 := by
  unfold greatB at h
  rw [Bool.or_eq_false_iff] at h
  have h1 := of_decide_eq_false h.1
  have h2 := of_decide_eq_false h.2
  exact ⟨by omega, gr_mem l 0 (by omega) (by omega)⟩
theorem greatB_1 {l : List L10Op} {n : Int} (h : n = grN l 0) (hn : n > 10000) : true = greatB l := by
  unfold greatB; rw [← h, decide_eq_true hn]; rfl
theorem greatB_2 {l : List L10Op} {n : Int} (h : n = grN l 0) (hn : ¬ n > 10000) : decide ((l.length : Int) > 150) = greatB l := by
  unfold greatB; rw [← h, decide_eq_false hn]; rfl
section
variable {k : Int} {ns : List Leaf} {p : Str}
theorem getT_data {ns : List Leaf} (h : TreeB ns) (p : Str) : ((getT ns p).1).Data.length ≤ 128 := by
  unfold getT
  split
  · split
    · exact Nat.zero_le _
    · rename_i l hf; exact h.data hf
  · exact Nat.zero_le _
theorem nn_step {ow : List Int} {q x : Int} (h : ∀ o ∈ ow.take q.toNat, 0 ≤ o) (h0 : 0 ≤ q) (hx : ow[q.toNat]? = some x) (hs : ¬ x < 0) : ∀ o ∈ ow.take (q + 1).toNat, 0 ≤ o := by
  rw [toNat_succ h0, take_at hx]
  intro o ho
  rcases List.mem_append.1 ho with ho | ho
  · exact h o ho
  · rw [List.mem_singleton] at ho
    omega
theorem nn_end {ow : List Int} {q : Int} (h : ∀ o ∈ ow.take q.toNat, 0 ≤ o) (hi : ¬ q < ow.length) : ∀ o ∈ ow, 0 ≤ o := by rwa [List.take_of_length_le (by omega)] at h
section
variable {cur : List Leaf} {ow : List Int} {j z : Int} {inn : Bool} {x : Leaf}
theorem own_len (H : TreeOk k ns) {i : Nat} {q : Str} (hx : (ownedL ns ow)[i]? = some q) : q.length ≤ 64 := by
  obtain ⟨n, hn, _, rfl⟩ := owned_mem.1 (List.mem_of_getElem? hx)
  exact pOk_len (H.node n hn).1
theorem ownL_len (ns : List Leaf) (ow : List Int) : (ownedL ns ow).length ≤ ns.length := by
  unfold ownedL
  rw [List.length_reverse, List.length_map]
  exact List.length_filter_le _ _
theorem own_in (hx : ns[j.toNat]? = some x) (hin : inn = (ow.take z.toNat).any (fun c => decide (c = (atL ns j).Owner))) (hz : ¬ z < ow.length) : isOwn ow x = inn := by
  rw [List.take_of_length_le (by omega), atL_eq hx] at hin
  rw [hin]
  unfold isOwn
  congr 1
  funext c
  simp [eq_comm]
theorem own_e (H : TreeOk k ns) (hc : cur = gone ns (ownedL ns ow)) (hx : ns[j.toNat]? = some x) (ho : isOwn ow x = inn) : inn = ((getT cur x.Path).2 == (100 : Int)) ∧ (inn = false → (getT cur x.Path).1 = x) := by
  have h1 := own_get (ow := ow) H (List.mem_of_getElem? hx)
  rw [hc, h1, ho]
  cases inn <;> simp
end
section
variable {j z n : Int} {x y : Leaf} {q : Str}
end
section
variable {x last : Str} {m z a : Int} {c : List Leaf} {n : Leaf}
end
section
variable {A af : List Leaf} {z : Int} {x : Leaf} {up : Str} {num : Bool}
end
section
variable {upl : Leaf} {q p data d dd : Str} {n1 : List Leaf} {num : Bool}
theorem Back.g2 (H : Back k ns p data num q upl n1) : (getT n1 q).2 = 0 ∧ (getT n1 q).1.Data = data ∧ (getT n1 q).1.Version = 0 ∧ (getT n1 q).1.Born = 5 := by
  rw [H.get]; exact ⟨rfl, rfl, rfl, rfl⟩
theorem Back.s1 (H : Back k ns p data num q upl n1) (h : d.length ≤ 128) : (setT n1 q d 0).2.2 = 0 ∧ (setT n1 q d 0).2.1 = 1 := by
  rw [H.set d h]; exact ⟨rfl, rfl⟩
theorem Back.s2 (H : Back k ns p data num q upl n1) (h : d.length ≤ 128) : (setT (withL n1 ⟨q, d, 1, -1, 0, 5⟩) q dd 0).2.2 = 102 := by
  rw [H.set2 d dd h]
theorem Back.d1 (H : Back k ns p data num q upl n1) (h : d.length ≤ 128) : (dropT (withL n1 ⟨q, d, 1, -1, 0, 5⟩) q 0).2 = 102 := by
  rw [H.drop1 d h]
theorem Back.d2 (H : Back k ns p data num q upl n1) (h : d.length ≤ 128) : (dropT (dropT (withL n1 ⟨q, d, 1, -1, 0, 5⟩) q 0).1 q 1).2 = 0 := by
  rw [H.drop1 d h]
  show (dropT (withL n1 ⟨q, d, 1, -1, 0, 5⟩) q 1).2 = 0
  rw [H.drop2 d h]
end
end
end Go.Proofs.YtmjebehhpojihaaGreatDoor.Sw
namespace Go.Proofs.YtmjebehhpojihaaGreatDoor.Sw
set_option linter.unusedVariables false
set_option linter.unusedSimpArgs false
set_option linter.deprecated false
open Go
section
variable {C : Ctx} {ds : List Deferred} {i j : Nat} {r : Heap} {M : Nat → Prop} {Ls : List (Nat × Bool)} {e : Env} {h : Heap}
variable {h0 : Heap} {g0 : GH} {S0 : Nat → Prop} {g : GH} {L : List Chunk}
theorem Op.convLit {dst : Nat} {T E : TypeId} {x : Operand} {b n : Nat} {cs : Array Value} {xs : List UInt8} (ho : nextDO C i j e = some (some dst, .convert T T x)) (hT : C.P.underlying T = some (.slice E)) (hE : C.P.underlying E = some (.int .u8))
    (hx : e.ev x = .slice (some ⟨b, 0, none⟩) n n) (hn : xs.length = n) (s : St h0 g0 S0 g ([(b, .cells cs E (0, 0))] :: L) h) (hr : Reads kU8 g xs (cut cs 0 (xs.length * kU8.sz))) (hM : b < r.size → M b)
    (K : ∀ g' h', gle g g' → St h0 g0 S0 g' L h' → SlR g' E kU8 (.slice (some ⟨b, 0, none⟩) n n) xs → Op C ds i r M Ls ((dst, .slice (some ⟨b, 0, none⟩) n n) :: e) h') : Op C ds i r M ((j, false) :: Ls) e h := by
  obtain ⟨o', h1, h2, h3⟩ := nextDO_spec ho
  have hb := s.chunk 0 rfl
  let f : Obj → Obj := fun | .cells c elem (lo, hi) => .cells c elem (if lo == hi then (cs.size, cs.size + 1) else (min lo cs.size, max hi (cs.size + 1))) | o => o
  have u : Upd h b (.cells cs E (cs.size, cs.size + 1)) (h.modify b f) := Upd.modify f hb
  refine Op.run h1 (R := fun nx h' => nx = .value (.slice (some ⟨b, 0, none⟩) n n) ∧ h' = h.modify b f) ?_ ?_
  · intro w is
    have hbw : w.heap[b]? = some (.cells cs E (0, 0)) := by rw [is.heap]; exact hb
    have hsh : w.shape? b = some (E, cs.size) := by unfold World.shape?; rw [hbw]
    refine ⟨_, w.freeze ⟨b, cs.size, none⟩ 1, ?_, ⟨rfl, is.os, is.tape, is.output⟩, rfl, ?_⟩
    · unfold semOf execOp
      simp only [h3, hx, Sem.run_bind]
      simp [convert, run_underlying hT, run_underlying hE, markStringish, hsh]
    · unfold World.freeze
      rw [if_neg (by decide)]
      rw [← is.heap]
      rfl
  · rintro _ _ ⟨rfl, rfl⟩
    refine ⟨_, rfl, u.keep hM, ?_⟩
    rw [h2]
    obtain ⟨s', hle⟩ := (s.upd u).freeze
    refine K _ _ hle s' ⟨_, _, by rw [hn], by omega, fun _ => ⟨b, 0, cs, (E, cs.size, cs.size + 1), rfl, gadd_one _ _, hr.mono hle⟩⟩
end
theorem Deep.row {h0 : Heap} {g0 : GH} {S0 : Nat → Prop} {g : GH} {L : List Chunk} {h : Heap} {α : Type} {T : TypeId} {d : Kd α} {v : Value} {xs : List α} {c dc : Chunk} (hr : Row T d (gadd gE dc) v xs c) (s : St h0 g0 S0 g (c :: dc :: L) h) :
    ∃ g', St h0 g0 S0 g' (c :: L) h ∧ gle g g' ∧ Row T d g' v xs c := by
  have s1 := s.perm (L' := dc :: c :: L) (List.Perm.swap _ _ _)
  obtain ⟨s2, hl2⟩ := St.freeze s1
  exact ⟨_, s2, hl2, hr.mono (gadd_le fun p hp => s1.sep p (by simp [hp]))⟩
end Go.Proofs.YtmjebehhpojihaaGreatDoor.Sw
namespace Go.Proofs.YtmjebehhpojihaaGreatDoor.Sw
open Go
set_option maxRecDepth 100000
set_option linter.unusedVariables false
set_option linter.unusedSimpArgs false
set_option linter.deprecated false
theorem great10 (B : World) (h : Heap) (g : GH) (hg : Sub g h) (hG : Glob g) (v_script : Value) (script : List L10Op) (h_script : SlR g 49 kL10Op v_script script) (h1 : script.length ≤ 2000000) (hb : ∀ o ∈ script, o.Path.length ≤ 2000000 ∧ o.Data.length ≤ 2000000) :
    Spec Tryz.prog B 26 #[v_script] h g [] (fun rv g' L' => rv = .bool (greatB script) ∧ g' = g ∧ L' = []) := by
  obtain ⟨a_script, n_script, rfl⟩ := h_script.form
  refine Spec.of_at (f := Tryz.f26) (e := [(0, .slice a_script script.length n_script)]) Tryz.func26 (by kernel_rfl) (Nat.le_of_ble_eq_true (by kernel_rfl)) (by kernel_rfl) (by kernel_rfl) ?_
  intro R hR
  have s0 := St.init hg
  refine At.reg (L := [(0, false)]) (by kernel_rfl) ?_
  refine Op.pures 1 [0] (L' := []) (e' := [(0, .slice a_script script.length n_script)]) (by kernel_rfl) ?_
  refine Op.goto 1 (by kernel_rfl) ?_
  refine At.reg (L := [(0, false)]) (by kernel_rfl) ?_
  refine Op.pures 1 [0, 3] (L' := []) (e' := [(0, .slice a_script script.length n_script), (3, .int .i64 0)]) (by kernel_rfl) ?_
  refine Op.goto 2 (by kernel_rfl) ?_
  refine At.reg (L := [(0, false)]) (by kernel_rfl) ?_
  refine Op.pures 1 [0, 3, 4] (L' := []) (e' := [(0, .slice a_script script.length n_script), (3, .int .i64 0), (4, .int .i64 0)]) (by kernel_rfl) ?_
  refine Op.goto 3 (by kernel_rfl) ?_
  have loop3 : ∀ (m : Nat) (n : Int) (i : Int) (h1024 : Heap) (hm : script.length - i.toNat < m) (h0 : 0 ≤ i) (h3 : i ≤ script.length) (hn0 : 0 ≤ n) (hn1 : n ≤ 4100002) (hg : grN script 0 = grN (script.drop i.toNat) n)     (s_loop31023 : St h g (ids []) g [] h1024), At (fctx Tryz.prog B 26 Tryz.f26 R) [] 3 [(0, .slice a_script script.length n_script), (3, .int .i64 n), (4, .int .i64 i)] h1024 := by
    intro m; induction m with
    | zero => intros; omega
    | succ m ih3 =>
      intro n i h1024 hm h0 h3 hn0 hn1 hg s_loop31023
      refine At.reg (L := [(0, false), (1, false), (2, false), (3, false), (4, false), (5, false), (6, false), (7, false)]) (by kernel_rfl) ?_
      refine Op.pures 5 [0, 3, 4, 9] (L' := [(5, false), (6, false), (7, false)]) (e' := [(0, .slice a_script script.length n_script), (3, .int .i64 n), (4, .int .i64 i), (9, .bool (decide (i < (script.length : Int))))]) (by kernel_rfl) ?_
      refine Op.ways (b := decide (i < (script.length : Int))) ⟨fun hb => ?_, fun hb => ?_⟩
      · refine Op.cast (e' := [(0, .slice a_script script.length n_script), (3, .int .i64 n), (4, .int .i64 i), (9, .bool true)]) (by rw [hb]) ?_
        have c1025 : i < (script.length : Int) := of_decide_eq_true hb
        clear hb
        refine Op.pures 3 [0, 3, 4, 12] (L' := []) (e' := [(0, .slice a_script script.length n_script), (3, .int .i64 n), (4, .int .i64 i), (12, .bool (decide (n ≤ (100000 : Int))))]) (by kernel_rfl) ?_
        refine Op.goto 4 (by kernel_rfl) ?_
        refine At.cond (b := decide (n ≤ (100000 : Int))) (c := .tmp 12) (by kernel_rfl) (by kernel_rfl) (by kernel_rfl) 5 7 (by kernel_rfl) (by kernel_rfl) (fun hb => ?_) (fun hb => ?_)
        · have c1026 : n ≤ (100000 : Int) := of_decide_eq_true hb
          clear hb
          refine At.keep [0, 3, 4] ?_; show At _ _ _ [(0, .slice a_script script.length n_script), (3, .int .i64 n), (4, .int .i64 i)] _
          refine At.draw (by kernel_rfl) (fun _ => False) [(0, true), (1, true), (2, true), (3, true), (4, true), (8, true), (9, true), (10, true), (11, true), (5, true), (6, true), (7, true), (12, false), (13, true), (14, true), (15, true), (16, true)] (by kernel_rfl) ?_
          refine Op.pures 3 [0, 3, 4, 15, 16, 17] (L' := [(3, true), (4, true), (8, true), (9, true), (10, true), (11, true), (5, true), (6, true), (7, true), (12, false), (13, true), (14, true), (15, true), (16, true)]) (e' := [(0, .slice a_script script.length n_script), (3, .int .i64 n), (4, .int .i64 i), (15, .int .i64 n), (16, .slice a_script script.length n_script), (17, .int .i64 i)]) (by kernel_rfl) ?_
          obtain ⟨x1027, hx1028⟩ : ∃ c, script[(i : Int).toNat]? = some c := ⟨_, List.getElem?_eq_getElem (by omega)⟩
          obtain ⟨b1029, o1030, cu1031, fz1032, ha1033, hb1034, hk1035⟩ := SlR.at_ h_script _ hx1028
          cases ha1033
          refine Op.idx (T := 43) (E := 49) (sz := 7) (by_ := 80) (n := script.length) (c := n_script) (k := .i64) (x := (.tmp 16)) (ix := (.tmp 17)) (dst := 18) (bk := b1029) (o := o1030) (m := i) (by kernel_rfl) (by kernel_rfl) (by kernel_rfl) (by kernel_rfl) (by omega) (by omega) ?_
          obtain ⟨v1036, hv1037, hk1035⟩ := hk1035
          obtain ⟨a1038, n1039, rfl⟩ := hv1037.form
          refine Op.pures 3 [0, 3, 4, 15, 19, 23, 24] (L' := [(10, true), (11, true), (5, true), (6, true), (7, true), (12, false), (13, true), (14, true), (15, true), (16, true)]) (e' := [(0, .slice (some ⟨b1029, o1030, none⟩) script.length n_script), (3, .int .i64 n), (4, .int .i64 i), (15, .int .i64 n), (19, .pointer (some ⟨b1029, o1030 + (i : Int).toNat * 7 + 4, none⟩)), (23, .slice (some ⟨b1029, o1030, none⟩) script.length n_script), (24, .int .i64 i)]) (by kernel_rfl) ?_
          obtain ⟨b1042, o1043, cu1044, fz1045, ha1046, hb1047, hk1048⟩ := SlR.at_ h_script _ hx1028
          cases ha1046
          refine Op.idx (T := 43) (E := 49) (sz := 7) (by_ := 80) (n := script.length) (c := n_script) (k := .i64) (x := (.tmp 23)) (ix := (.tmp 24)) (dst := 25) (bk := b1029) (o := o1030) (m := i) (by kernel_rfl) (by kernel_rfl) (by kernel_rfl) (by kernel_rfl) (by omega) (by omega) ?_
          obtain ⟨v1049, hv1050, hk1048⟩ := hk1048
          obtain ⟨a1051, n1052, rfl⟩ := hv1050.form
          refine Op.pures 1 [0, 3, 4, 15, 19, 26] (L' := [(5, true), (6, true), (7, true), (12, false), (13, true), (14, true), (15, true), (16, true)]) (e' := [(0, .slice (some ⟨b1029, o1030, none⟩) script.length n_script), (3, .int .i64 n), (4, .int .i64 i), (15, .int .i64 n), (19, .pointer (some ⟨b1029, o1030 + (i : Int).toNat * 7 + 4, none⟩)), (26, .pointer (some ⟨b1029, o1030 + (i : Int).toNat * 7 + 5, none⟩))]) (by kernel_rfl) ?_
          refine Op.loadF (T := 9) (x := (.tmp 19)) (o := o1030 + (i : Int).toNat * 7 + 4) (d := 20) (n := 1) (v := .string (mkS x1027.Path)) (by kernel_rfl) (by kernel_rfl) (by kernel_rfl) (fun h => h) (s_loop31023.sub _ _ hb1034) (cut_get hk1035 4 rfl) ?_
          refine Op.pures 1 [0, 3, 4, 15, 21, 26] (L' := [(7, true), (12, false), (13, true), (14, true), (15, true), (16, true)]) (e' := [(0, .slice (some ⟨b1029, o1030, none⟩) script.length n_script), (3, .int .i64 n), (4, .int .i64 i), (15, .int .i64 n), (21, .int .i64 (x1027.Path.length : Int)), (26, .pointer (some ⟨b1029, o1030 + (i : Int).toNat * 7 + 5, none⟩))]) (by kernel_rfl) ?_
          refine Op.val (dst := some 22) (v := .int .i64 (IntKind.wrap .i64 ((1 : Int) + (x1027.Path.length : Int)))) (v' := .int .i64 ((1 : Int) + (x1027.Path.length : Int))) (by kernel_rfl) (wrapEq_i64 (by omega) (by (have hbb := hb _ (List.mem_of_getElem? hx1028); omega))) ?_
          refine Op.load (T := 29) (x := (.tmp 26)) (o := o1030 + (i : Int).toNat * 7 + 5) (d := 27) (n := 1) (v := .slice a1051 x1027.Data.length n1052) (by kernel_rfl) (by kernel_rfl) (by kernel_rfl) (s_loop31023.sub _ _ hb1047) (cut_get hk1048 5 rfl) ?_
          refine Op.pures 1 [0, 3, 4, 15, 22, 28] (L' := [(14, true), (15, true), (16, true)]) (e' := [(0, .slice (some ⟨b1029, o1030, none⟩) script.length n_script), (3, .int .i64 n), (4, .int .i64 i), (15, .int .i64 n), (22, .int .i64 ((1 : Int) + (x1027.Path.length : Int))), (28, .int .i64 (x1027.Data.length : Int))]) (by kernel_rfl) ?_
          refine Op.val (dst := some 29) (v := .int .i64 (IntKind.wrap .i64 (((1 : Int) + (x1027.Path.length : Int)) + (x1027.Data.length : Int)))) (v' := .int .i64 (((1 : Int) + (x1027.Path.length : Int)) + (x1027.Data.length : Int))) (by kernel_rfl) (wrapEq_i64 (by omega) (by (have hbb := hb _ (List.mem_of_getElem? hx1028); omega))) ?_
          refine Op.val (dst := some 30) (v := .int .i64 (IntKind.wrap .i64 (n + (((1 : Int) + (x1027.Path.length : Int)) + (x1027.Data.length : Int))))) (v' := .int .i64 (n + (((1 : Int) + (x1027.Path.length : Int)) + (x1027.Data.length : Int)))) (by kernel_rfl) (wrapEq_i64 (by omega) (by (have hbb := hb _ (List.mem_of_getElem? hx1028); omega))) ?_
          refine Op.pures 1 [0, 3, 4] (L' := []) (e' := [(0, .slice (some ⟨b1029, o1030, none⟩) script.length n_script), (3, .int .i64 (n + (((1 : Int) + (x1027.Path.length : Int)) + (x1027.Data.length : Int)))), (4, .int .i64 i)]) (by kernel_rfl) ?_
          refine Op.goto 6 (by kernel_rfl) ?_
          refine At.reg (L := [(0, false), (1, false), (2, false)]) (by kernel_rfl) ?_
          refine Op.pures 1 [0, 3, 4, 13] (L' := [(1, false), (2, false)]) (e' := [(0, .slice (some ⟨b1029, o1030, none⟩) script.length n_script), (3, .int .i64 (n + (((1 : Int) + (x1027.Path.length : Int)) + (x1027.Data.length : Int)))), (4, .int .i64 i), (13, .int .i64 i)]) (by kernel_rfl) ?_
          refine Op.val (dst := some 14) (v := .int .i64 (IntKind.wrap .i64 (i + 1))) (v' := .int .i64 (i + 1)) (by kernel_rfl) (wrapEq_i64 (by omega) (by omega)) ?_
          refine Op.pures 1 [0, 3, 4] (L' := []) (e' := [(0, .slice (some ⟨b1029, o1030, none⟩) script.length n_script), (3, .int .i64 (n + (((1 : Int) + (x1027.Path.length : Int)) + (x1027.Data.length : Int)))), (4, .int .i64 (i + 1))]) (by kernel_rfl) ?_
          refine Op.goto 3 (by kernel_rfl) ?_
          exact ih3  (n + (((1 : Int) + (x1027.Path.length : Int)) + (x1027.Data.length : Int))) (i + 1) _ (by omega) (by omega) (by omega) (by omega) (by (have hbb := hb _ (List.mem_of_getElem? hx1028); omega)) (by exact gr_step hg h0 hx1028 (by assumption))  s_loop31023
        · have c1053 : ¬ (n ≤ (100000 : Int)) := of_decide_eq_false hb
          clear hb
          refine At.keep [0, 3] ?_; show At _ _ _ [(0, .slice a_script script.length n_script), (3, .int .i64 n)] _
          refine At.reg (L := [(0, false), (1, false), (2, false), (3, false), (4, false), (5, false), (6, false), (7, false)]) (by kernel_rfl) ?_
          refine Op.pures 3 [0, 33] (L' := [(3, false), (4, false), (5, false), (6, false), (7, false)]) (e' := [(0, .slice a_script script.length n_script), (33, .bool (decide (n > (10000 : Int))))]) (by kernel_rfl) ?_
          refine Op.ways (b := decide (n > (10000 : Int))) ⟨fun hb => ?_, fun hb => ?_⟩
          · refine Op.cast (e' := [(0, .slice a_script script.length n_script), (33, .bool true)]) (by rw [hb]) ?_
            have c1054 : n > (10000 : Int) := of_decide_eq_true hb
            clear hb
            refine Op.pures 5 [2] (L' := []) (e' := [(2, .bool true)]) (by kernel_rfl) ?_
            refine Op.goto 8 (by kernel_rfl) ?_
            refine At.ret (f := Tryz.f26) (v := .bool true) (by kernel_rfl) (by kernel_rfl) ?_
            refine hR _ _ _ _ s_loop31023 ⟨?_, rfl, rfl⟩
            exact (eqB (by exact greatB_1 (gr_end2 hg (by assumption)) (by assumption)))
          · refine Op.cast (e' := [(0, .slice a_script script.length n_script), (33, .bool false)]) (by rw [hb]) ?_
            have c1055 : ¬ (n > (10000 : Int)) := of_decide_eq_false hb
            clear hb
            refine Op.pures 5 [2] (L' := []) (e' := [(2, .bool (decide ((script.length : Int) > (150 : Int))))]) (by kernel_rfl) ?_
            refine Op.goto 8 (by kernel_rfl) ?_
            refine At.ret (f := Tryz.f26) (v := .bool (decide ((script.length : Int) > (150 : Int)))) (by kernel_rfl) (by kernel_rfl) ?_
            refine hR _ _ _ _ s_loop31023 ⟨?_, rfl, rfl⟩
            exact (eqB (by exact greatB_2 (gr_end2 hg (by assumption)) (by assumption)))
      · refine Op.cast (e' := [(0, .slice a_script script.length n_script), (3, .int .i64 n), (4, .int .i64 i), (9, .bool false)]) (by rw [hb]) ?_
        have c1056 : ¬ (i < (script.length : Int)) := of_decide_eq_false hb
        clear hb
        refine Op.pures 3 [0, 3, 4, 12] (L' := []) (e' := [(0, .slice a_script script.length n_script), (3, .int .i64 n), (4, .int .i64 i), (12, .bool false)]) (by kernel_rfl) ?_
        refine Op.goto 4 (by kernel_rfl) ?_
        refine At.condF (c := .tmp 12) (by kernel_rfl) (by kernel_rfl) (by kernel_rfl) 7 (by kernel_rfl) ?_
        refine At.reg (L := [(0, false), (1, false), (2, false), (3, false), (4, false), (5, false), (6, false), (7, false)]) (by kernel_rfl) ?_
        refine Op.pures 3 [0, 33] (L' := [(3, false), (4, false), (5, false), (6, false), (7, false)]) (e' := [(0, .slice a_script script.length n_script), (33, .bool (decide (n > (10000 : Int))))]) (by kernel_rfl) ?_
        refine Op.ways (b := decide (n > (10000 : Int))) ⟨fun hb => ?_, fun hb => ?_⟩
        · refine Op.cast (e' := [(0, .slice a_script script.length n_script), (33, .bool true)]) (by rw [hb]) ?_
          have c1057 : n > (10000 : Int) := of_decide_eq_true hb
          clear hb
          refine Op.pures 5 [2] (L' := []) (e' := [(2, .bool true)]) (by kernel_rfl) ?_
          refine Op.goto 8 (by kernel_rfl) ?_
          refine At.ret (f := Tryz.f26) (v := .bool true) (by kernel_rfl) (by kernel_rfl) ?_
          refine hR _ _ _ _ s_loop31023 ⟨?_, rfl, rfl⟩
          exact (eqB (by exact greatB_1 (gr_end1 hg (by assumption)) (by assumption)))
        · refine Op.cast (e' := [(0, .slice a_script script.length n_script), (33, .bool false)]) (by rw [hb]) ?_
          have c1058 : ¬ (n > (10000 : Int)) := of_decide_eq_false hb
          clear hb
          refine Op.pures 5 [2] (L' := []) (e' := [(2, .bool (decide ((script.length : Int) > (150 : Int))))]) (by kernel_rfl) ?_
          refine Op.goto 8 (by kernel_rfl) ?_
          refine At.ret (f := Tryz.f26) (v := .bool (decide ((script.length : Int) > (150 : Int)))) (by kernel_rfl) (by kernel_rfl) ?_
          refine hR _ _ _ _ s_loop31023 ⟨?_, rfl, rfl⟩
          exact (eqB (by exact greatB_2 (gr_end1 hg (by assumption)) (by assumption)))
  exact loop3 _  0 0 _ (Nat.lt_succ_self _) (by omega) (by omega) (by omega) (by omega) (by rfl)  s0
theorem alive10 (B : World) (h : Heap) (g : GH) (hg : Sub g h) (hG : Glob g)  (hP : Pow10 g) :
    Spec Tryz.prog B 25 #[] h g [] (fun rv g' L' => rv = .bool true ∧ g' = g ∧ L' = []) := by
  refine Spec.of_at (f := Tryz.f25) (e := []) Tryz.func25 (by kernel_rfl) (Nat.le_of_ble_eq_true (by kernel_rfl)) (by kernel_rfl) (by kernel_rfl) ?_
  intro R hR
  have s0 := St.init hg
  refine At.reg (L := [(0, false)]) (by kernel_rfl) ?_
  refine Op.pures 1 [] (L' := []) (e' := []) (by kernel_rfl) ?_
  refine Op.goto 1 (by kernel_rfl) ?_
  refine At.reg (L := [(0, false), (1, false)]) (by kernel_rfl) ?_
  refine Op.call0 (dst := some 8) (f := 27) (args := #[]) (by kernel_rfl) s0 (newT _ _ _ s0.sub hG   ) ?_
  rintro _ g1064 _ h1059 hle1065 s1060 ⟨b1061, c1062, rfl, o1063, hgg, rfl⟩; subst g1064; clear hle1065
  refine Op.pures 1 [1] (L' := []) (e' := [(1, .pointer (some ⟨b1061, 0, none⟩))]) (by kernel_rfl) ?_
  refine Op.goto 2 (by kernel_rfl) ?_
  refine At.reg (L := [(0, false), (1, false)]) (by kernel_rfl) ?_
  refine Op.pures 2 [1, 10] (L' := []) (e' := [(1, .pointer (some ⟨b1061, 0, none⟩)), (10, .bool false)]) (by kernel_rfl) ?_
  refine Op.goto 3 (by kernel_rfl) ?_
  refine At.condF (c := .tmp 10) (by kernel_rfl) (by kernel_rfl) (by kernel_rfl) 6 (by kernel_rfl) ?_
  refine At.reg (L := [(0, false), (1, false), (2, false), (3, false), (4, false), (5, false), (6, false)]) (by kernel_rfl) ?_
  refine Op.pures 1 [1, 12] (L' := [(1, false), (2, false), (3, false), (4, false), (5, false), (6, false)]) (e' := [(1, .pointer (some ⟨b1061, 0, none⟩)), (12, .pointer (some ⟨b1061, 0, none⟩))]) (by kernel_rfl) ?_
  refine Op.call (dst := some 13) (f := 28) (args := #[.pointer (some ⟨b1061, 0, none⟩), .string (mkS ([47, 113])), .slice none 0 0, .int .i64 (-1), .int .i64 1, .bool false]) (Lc := [c1062]) (L := []) (by kernel_rfl) s1060 (makeF _ _ _ s1060.sub hG b1061 ([⟨[47], [], 0, -1, 0, 0⟩]) _ o1063 ([47, 113]) _ _ (SlR.nil _ _ _) (-1) 1 false hP (by ((try dsimp only) <;> (exact al_b0))) (by ((try dsimp only) <;> (decide))) (by ((try dsimp only) <;> (decide))) (St.part (Lc := [c1062]) (L := []) s1060)) (fun _ _ _ => trivial) ?_
  rintro _ g1070 _ h1066 hle1071 s1067 ⟨c1068, rfl, o1069, hgg, rfl⟩; subst g1070; clear hle1071
  refine Op.pures 5 [1, 2, 3] (L' := []) (e' := [(1, .pointer (some ⟨b1061, 0, none⟩)), (2, .string (mkS ((makeT ([⟨[47], [], 0, -1, 0, 0⟩]) ([47, 113]) [] (-1) 1 false).2.1))), (3, .int .i64 ((makeT ([⟨[47], [], 0, -1, 0, 0⟩]) ([47, 113]) [] (-1) 1 false).2.2))]) (by kernel_rfl) ?_
  refine Op.goto 7 (by kernel_rfl) ?_
  have o1072 := IsTree.eq o1069 (show _ = al1 from by rw [al_1])
  refine At.reg (L := [(0, false), (1, false), (2, false), (3, false), (4, false), (5, false), (6, false), (7, false), (8, false)]) (by kernel_rfl) ?_
  refine Op.pures 1 [1, 2, 3, 17] (L' := [(1, false), (2, false), (3, false), (4, false), (5, false), (6, false), (7, false), (8, false)]) (e' := [(1, .pointer (some ⟨b1061, 0, none⟩)), (2, .string (mkS ((makeT ([⟨[47], [], 0, -1, 0, 0⟩]) ([47, 113]) [] (-1) 1 false).2.1))), (3, .int .i64 ((makeT ([⟨[47], [], 0, -1, 0, 0⟩]) ([47, 113]) [] (-1) 1 false).2.2)), (17, .pointer (some ⟨b1061, 0, none⟩))]) (by kernel_rfl) ?_
  refine Op.lit (T := 29) (len := 1) (parts := #[(0, (.const (.int .u8 120)))]) (dst := 18) (E := 5) (ps := [(0, .int .u8 120)]) (cs := #[.int .u8 120]) (by kernel_rfl) (by kernel_rfl) (by kernel_rfl) s1067 ?_
  intro b1073 h1074 s1075
  refine Op.convLit (T := 29) (E := 5) (x := (.tmp 18)) (dst := 19) (b := b1073) (n := 1) (cs := #[.int .u8 120]) (xs := ([(120 : UInt8)] : List UInt8)) (by kernel_rfl) (by kernel_rfl) (by kernel_rfl) (by kernel_rfl) rfl s1075 ⟨_, _, rfl, rfl, Reads.nil⟩ (fun _ => trivial) ?_
  intro g1076 h1077 hle1078 s1079 hf1080
  replace hG := hG.mono hle1078
  replace hP := hP.mono hle1078
  replace o1072 := o1072.mono hle1078
  refine Op.call (dst := some 20) (f := 28) (args := #[.pointer (some ⟨b1061, 0, none⟩), .string (mkS ([47, 113, 47, 116, 45])), .slice (some ⟨b1073, 0, none⟩) 1 1, .int .i64 3, .int .i64 2, .bool true]) (Lc := [c1068]) (L := []) (by kernel_rfl) s1079 (makeF _ _ _ s1079.sub hG b1061 al1 _ o1072 ([47, 113, 47, 116, 45]) _ _ hf1080 3 2 true hP (by ((try dsimp only) <;> (exact al_b1))) (by ((try dsimp only) <;> (decide))) (by ((try dsimp only) <;> (decide))) (St.part (Lc := [c1068]) (L := []) s1079)) (fun _ _ _ => trivial) ?_
  rintro _ g1085 _ h1081 hle1086 s1082 ⟨c1083, rfl, o1084, hgg, rfl⟩; subst g1085; clear hle1086
  refine Op.pures 5 [1, 2, 3, 4, 5] (L' := []) (e' := [(1, .pointer (some ⟨b1061, 0, none⟩)), (2, .string (mkS ((makeT ([⟨[47], [], 0, -1, 0, 0⟩]) ([47, 113]) [] (-1) 1 false).2.1))), (3, .int .i64 ((makeT ([⟨[47], [], 0, -1, 0, 0⟩]) ([47, 113]) [] (-1) 1 false).2.2)), (4, .string (mkS ((makeT al1 ([47, 113, 47, 116, 45]) ([(120 : UInt8)] : List UInt8) 3 2 true).2.1))), (5, .int .i64 ((makeT al1 ([47, 113, 47, 116, 45]) ([(120 : UInt8)] : List UInt8) 3 2 true).2.2))]) (by kernel_rfl) ?_
  refine Op.goto 8 (by kernel_rfl) ?_
  have o1087 := IsTree.eq o1084 (show _ = al2 from by rw [al_2])
  refine At.reg (L := [(0, false), (1, false), (2, false), (3, false), (4, false), (5, false), (6, false), (7, false)]) (by kernel_rfl) ?_
  refine Op.pures 1 [1, 2, 3, 4, 5, 24] (L' := [(1, false), (2, false), (3, false), (4, false), (5, false), (6, false), (7, false)]) (e' := [(1, .pointer (some ⟨b1061, 0, none⟩)), (2, .string (mkS ((makeT ([⟨[47], [], 0, -1, 0, 0⟩]) ([47, 113]) [] (-1) 1 false).2.1))), (3, .int .i64 ((makeT ([⟨[47], [], 0, -1, 0, 0⟩]) ([47, 113]) [] (-1) 1 false).2.2)), (4, .string (mkS ((makeT al1 ([47, 113, 47, 116, 45]) ([(120 : UInt8)] : List UInt8) 3 2 true).2.1))), (5, .int .i64 ((makeT al1 ([47, 113, 47, 116, 45]) ([(120 : UInt8)] : List UInt8) 3 2 true).2.2)), (24, .pointer (some ⟨b1061, 0, none⟩))]) (by kernel_rfl) ?_
  have hl1088 := s1082.frzle
  have hz1089 := IsTree.frz o1087 s1082 (by intro p hp; simp only [List.mem_append, hp, true_or, or_true])
  refine Op.lend (dst := some 25) (f := 34) (args := #[.pointer (some ⟨b1061, 0, none⟩), .string (mkS ([47, 113, 47, 116, 45, 48, 48, 48, 48, 48]))]) (cf := (c1083 : Chunk)) (Lc := []) (L := []) (by kernel_rfl) s1082 (getF _ _ _ s1082.frzsub (hG.mono hl1088) b1061 al2 hz1089 ([47, 113, 47, 116, 45, 48, 48, 48, 48, 48]) (by ((try dsimp only) <;> (exact al_b2))) (by ((try dsimp only) <;> (decide))) ) (fun _ _ _ hp => by obtain ⟨_, _, _, _, hgg, _⟩ := hp; exact hgg) (fun _ _ h => absurd h (ids_nil _)) ?_
  rintro _ _ h1090 s1091 ⟨v1092, ch1093, rfl, R1094, hgg, rfl⟩; clear hgg
  obtain ⟨a1095, n1096, rfl⟩ := R1094.form
  replace R1094 := R1094.flat (fun _ _ _ _ h => h) (g' := g1076)
  refine Op.pures 3 [1, 2, 3, 4, 5, 26, 27] (L' := [(5, false), (6, false), (7, false)]) (e' := [(1, .pointer (some ⟨b1061, 0, none⟩)), (2, .string (mkS ((makeT ([⟨[47], [], 0, -1, 0, 0⟩]) ([47, 113]) [] (-1) 1 false).2.1))), (3, .int .i64 ((makeT ([⟨[47], [], 0, -1, 0, 0⟩]) ([47, 113]) [] (-1) 1 false).2.2)), (4, .string (mkS ((makeT al1 ([47, 113, 47, 116, 45]) ([(120 : UInt8)] : List UInt8) 3 2 true).2.1))), (5, .int .i64 ((makeT al1 ([47, 113, 47, 116, 45]) ([(120 : UInt8)] : List UInt8) 3 2 true).2.2)), (26, .agg #[.string (mkS (((getT al2 ([47, 113, 47, 116, 45, 48, 48, 48, 48, 48])).1).Path)), .slice a1095 ((((getT al2 ([47, 113, 47, 116, 45, 48, 48, 48, 48, 48])).1).Data).length) n1096, .int .i64 (((getT al2 ([47, 113, 47, 116, 45, 48, 48, 48, 48, 48])).1).Version), .int .i64 (((getT al2 ([47, 113, 47, 116, 45, 48, 48, 48, 48, 48])).1).Owner), .int .i64 (((getT al2 ([47, 113, 47, 116, 45, 48, 48, 48, 48, 48])).1).Next), .int .i64 (((getT al2 ([47, 113, 47, 116, 45, 48, 48, 48, 48, 48])).1).Born)]), (27, .int .i64 ((getT al2 ([47, 113, 47, 116, 45, 48, 48, 48, 48, 48])).2))]) (by kernel_rfl) ?_
  refine Op.alloc (T := 59) (dst := 6) (cs := #[.string (mkS []), .slice none 0 0, .int .i64 0, .int .i64 0, .int .i64 0, .int .i64 0]) (by kernel_rfl) (by kernel_rfl) s1091 ?_
  intro b1099 h1100 s1101
  refine Op.store (T := 59) (x := (.tmp 6)) (y := (.tmp 26)) (b := b1099) (o := 0) (vs := [.string (mkS (((getT al2 ([47, 113, 47, 116, 45, 48, 48, 48, 48, 48])).1).Path)), .slice a1095 ((((getT al2 ([47, 113, 47, 116, 45, 48, 48, 48, 48, 48])).1).Data).length) n1096, .int .i64 (((getT al2 ([47, 113, 47, 116, 45, 48, 48, 48, 48, 48])).1).Version), .int .i64 (((getT al2 ([47, 113, 47, 116, 45, 48, 48, 48, 48, 48])).1).Owner), .int .i64 (((getT al2 ([47, 113, 47, 116, 45, 48, 48, 48, 48, 48])).1).Next), .int .i64 (((getT al2 ([47, 113, 47, 116, 45, 48, 48, 48, 48, 48])).1).Born)]) (a? := true) (n := 6) (by kernel_rfl) (by kernel_rfl) (by kernel_rfl) (by kernel_rfl) rfl (by simp [Value.oneCell']) s1101 0 rfl (Nat.le_of_ble_eq_true (by kernel_rfl)) (cs := #[.string (mkS []), .slice none 0 0, .int .i64 0, .int .i64 0, .int .i64 0, .int .i64 0]) (cs' := #[.string (mkS (((getT al2 ([47, 113, 47, 116, 45, 48, 48, 48, 48, 48])).1).Path)), .slice a1095 ((((getT al2 ([47, 113, 47, 116, 45, 48, 48, 48, 48, 48])).1).Data).length) n1096, .int .i64 (((getT al2 ([47, 113, 47, 116, 45, 48, 48, 48, 48, 48])).1).Version), .int .i64 (((getT al2 ([47, 113, 47, 116, 45, 48, 48, 48, 48, 48])).1).Owner), .int .i64 (((getT al2 ([47, 113, 47, 116, 45, 48, 48, 48, 48, 48])).1).Next), .int .i64 (((getT al2 ([47, 113, 47, 116, 45, 48, 48, 48, 48, 48])).1).Born)]) (by kernel_rfl) (fun _ => trivial) ?_
  intro h1102 s1103
  refine Op.pures 1 [1, 2, 3, 4, 5, 6, 7] (L' := []) (e' := [(1, .pointer (some ⟨b1061, 0, none⟩)), (2, .string (mkS ((makeT ([⟨[47], [], 0, -1, 0, 0⟩]) ([47, 113]) [] (-1) 1 false).2.1))), (3, .int .i64 ((makeT ([⟨[47], [], 0, -1, 0, 0⟩]) ([47, 113]) [] (-1) 1 false).2.2)), (4, .string (mkS ((makeT al1 ([47, 113, 47, 116, 45]) ([(120 : UInt8)] : List UInt8) 3 2 true).2.1))), (5, .int .i64 ((makeT al1 ([47, 113, 47, 116, 45]) ([(120 : UInt8)] : List UInt8) 3 2 true).2.2)), (6, .pointer (some ⟨b1099, 0, none⟩)), (7, .int .i64 ((getT al2 ([47, 113, 47, 116, 45, 48, 48, 48, 48, 48])).2))]) (by kernel_rfl) ?_
  refine Op.goto 9 (by kernel_rfl) ?_
  refine At.reg (L := [(0, false), (1, false), (2, false), (3, false), (4, false), (5, false), (6, false), (7, false), (8, false), (9, false), (10, false), (11, false), (12, false), (13, false), (14, false), (15, false), (16, false), (17, false), (18, false), (19, false), (20, false), (21, false), (22, false), (23, false), (24, false), (25, false), (26, false), (27, false), (28, false), (29, false), (30, false), (31, false), (32, false), (33, false), (34, false), (35, false), (36, false), (37, false), (38, false), (39, false), (40, false), (41, false), (42, false), (43, false), (44, false), (45, false), (46, false), (47, false)]) (by kernel_rfl) ?_
  refine Op.pures 3 [1, 2, 4, 5, 6, 7, 30] (L' := [(3, false), (4, false), (5, false), (6, false), (7, false), (8, false), (9, false), (10, false), (11, false), (12, false), (13, false), (14, false), (15, false), (16, false), (17, false), (18, false), (19, false), (20, false), (21, false), (22, false), (23, false), (24, false), (25, false), (26, false), (27, false), (28, false), (29, false), (30, false), (31, false), (32, false), (33, false), (34, false), (35, false), (36, false), (37, false), (38, false), (39, false), (40, false), (41, false), (42, false), (43, false), (44, false), (45, false), (46, false), (47, false)]) (e' := [(1, .pointer (some ⟨b1061, 0, none⟩)), (2, .string (mkS ((makeT ([⟨[47], [], 0, -1, 0, 0⟩]) ([47, 113]) [] (-1) 1 false).2.1))), (4, .string (mkS ((makeT al1 ([47, 113, 47, 116, 45]) ([(120 : UInt8)] : List UInt8) 3 2 true).2.1))), (5, .int .i64 ((makeT al1 ([47, 113, 47, 116, 45]) ([(120 : UInt8)] : List UInt8) 3 2 true).2.2)), (6, .pointer (some ⟨b1099, 0, none⟩)), (7, .int .i64 ((getT al2 ([47, 113, 47, 116, 45, 48, 48, 48, 48, 48])).2)), (30, .bool (((makeT ([⟨[47], [], 0, -1, 0, 0⟩]) ([47, 113]) [] (-1) 1 false).2.2) == (0 : Int)))]) (by kernel_rfl) ?_
  refine Op.ways (b := ((makeT ([⟨[47], [], 0, -1, 0, 0⟩]) ([47, 113]) [] (-1) 1 false).2.2) == (0 : Int)) ⟨fun hb => ?_, fun hb => ?_⟩
  · refine Op.cast (e' := [(1, .pointer (some ⟨b1061, 0, none⟩)), (2, .string (mkS ((makeT ([⟨[47], [], 0, -1, 0, 0⟩]) ([47, 113]) [] (-1) 1 false).2.1))), (4, .string (mkS ((makeT al1 ([47, 113, 47, 116, 45]) ([(120 : UInt8)] : List UInt8) 3 2 true).2.1))), (5, .int .i64 ((makeT al1 ([47, 113, 47, 116, 45]) ([(120 : UInt8)] : List UInt8) 3 2 true).2.2)), (6, .pointer (some ⟨b1099, 0, none⟩)), (7, .int .i64 ((getT al2 ([47, 113, 47, 116, 45, 48, 48, 48, 48, 48])).2)), (30, .bool true)]) (by rw [hb]) ?_
    have c1104 : ((makeT ([⟨[47], [], 0, -1, 0, 0⟩]) ([47, 113]) [] (-1) 1 false).2.2) = (0 : Int) := eq_of_beq hb
    clear hb
    refine Op.pures 4 [1, 2, 4, 6, 7, 34] (L' := [(7, false), (8, false), (9, false), (10, false), (11, false), (12, false), (13, false), (14, false), (15, false), (16, false), (17, false), (18, false), (19, false), (20, false), (21, false), (22, false), (23, false), (24, false), (25, false), (26, false), (27, false), (28, false), (29, false), (30, false), (31, false), (32, false), (33, false), (34, false), (35, false), (36, false), (37, false), (38, false), (39, false), (40, false), (41, false), (42, false), (43, false), (44, false), (45, false), (46, false), (47, false)]) (e' := [(1, .pointer (some ⟨b1061, 0, none⟩)), (2, .string (mkS ((makeT ([⟨[47], [], 0, -1, 0, 0⟩]) ([47, 113]) [] (-1) 1 false).2.1))), (4, .string (mkS ((makeT al1 ([47, 113, 47, 116, 45]) ([(120 : UInt8)] : List UInt8) 3 2 true).2.1))), (6, .pointer (some ⟨b1099, 0, none⟩)), (7, .int .i64 ((getT al2 ([47, 113, 47, 116, 45, 48, 48, 48, 48, 48])).2)), (34, .bool (((makeT al1 ([47, 113, 47, 116, 45]) ([(120 : UInt8)] : List UInt8) 3 2 true).2.2) == (0 : Int)))]) (by kernel_rfl) ?_
    refine Op.ways (b := ((makeT al1 ([47, 113, 47, 116, 45]) ([(120 : UInt8)] : List UInt8) 3 2 true).2.2) == (0 : Int)) ⟨fun hb => ?_, fun hb => ?_⟩
    · refine Op.cast (e' := [(1, .pointer (some ⟨b1061, 0, none⟩)), (2, .string (mkS ((makeT ([⟨[47], [], 0, -1, 0, 0⟩]) ([47, 113]) [] (-1) 1 false).2.1))), (4, .string (mkS ((makeT al1 ([47, 113, 47, 116, 45]) ([(120 : UInt8)] : List UInt8) 3 2 true).2.1))), (6, .pointer (some ⟨b1099, 0, none⟩)), (7, .int .i64 ((getT al2 ([47, 113, 47, 116, 45, 48, 48, 48, 48, 48])).2)), (34, .bool true)]) (by rw [hb]) ?_
      have c1105 : ((makeT al1 ([47, 113, 47, 116, 45]) ([(120 : UInt8)] : List UInt8) 3 2 true).2.2) = (0 : Int) := eq_of_beq hb
      clear hb
      refine Op.pures 4 [1, 2, 4, 6, 38] (L' := [(11, false), (12, false), (13, false), (14, false), (15, false), (16, false), (17, false), (18, false), (19, false), (20, false), (21, false), (22, false), (23, false), (24, false), (25, false), (26, false), (27, false), (28, false), (29, false), (30, false), (31, false), (32, false), (33, false), (34, false), (35, false), (36, false), (37, false), (38, false), (39, false), (40, false), (41, false), (42, false), (43, false), (44, false), (45, false), (46, false), (47, false)]) (e' := [(1, .pointer (some ⟨b1061, 0, none⟩)), (2, .string (mkS ((makeT ([⟨[47], [], 0, -1, 0, 0⟩]) ([47, 113]) [] (-1) 1 false).2.1))), (4, .string (mkS ((makeT al1 ([47, 113, 47, 116, 45]) ([(120 : UInt8)] : List UInt8) 3 2 true).2.1))), (6, .pointer (some ⟨b1099, 0, none⟩)), (38, .bool (((getT al2 ([47, 113, 47, 116, 45, 48, 48, 48, 48, 48])).2) == (0 : Int)))]) (by kernel_rfl) ?_
      refine Op.ways (b := ((getT al2 ([47, 113, 47, 116, 45, 48, 48, 48, 48, 48])).2) == (0 : Int)) ⟨fun hb => ?_, fun hb => ?_⟩
      · refine Op.cast (e' := [(1, .pointer (some ⟨b1061, 0, none⟩)), (2, .string (mkS ((makeT ([⟨[47], [], 0, -1, 0, 0⟩]) ([47, 113]) [] (-1) 1 false).2.1))), (4, .string (mkS ((makeT al1 ([47, 113, 47, 116, 45]) ([(120 : UInt8)] : List UInt8) 3 2 true).2.1))), (6, .pointer (some ⟨b1099, 0, none⟩)), (38, .bool true)]) (by rw [hb]) ?_
        have c1106 : ((getT al2 ([47, 113, 47, 116, 45, 48, 48, 48, 48, 48])).2) = (0 : Int) := eq_of_beq hb
        clear hb
        refine Op.pures 1 [1, 4, 6, 38, 39] (L' := [(12, false), (13, false), (14, false), (15, false), (16, false), (17, false), (18, false), (19, false), (20, false), (21, false), (22, false), (23, false), (24, false), (25, false), (26, false), (27, false), (28, false), (29, false), (30, false), (31, false), (32, false), (33, false), (34, false), (35, false), (36, false), (37, false), (38, false), (39, false), (40, false), (41, false), (42, false), (43, false), (44, false), (45, false), (46, false), (47, false)]) (e' := [(1, .pointer (some ⟨b1061, 0, none⟩)), (4, .string (mkS ((makeT al1 ([47, 113, 47, 116, 45]) ([(120 : UInt8)] : List UInt8) 3 2 true).2.1))), (6, .pointer (some ⟨b1099, 0, none⟩)), (38, .bool true), (39, .string (mkS ((makeT ([⟨[47], [], 0, -1, 0, 0⟩]) ([47, 113]) [] (-1) 1 false).2.1)))]) (by kernel_rfl) ?_
        refine Op.val (dst := some 40) (v := .bool ((mkS ((makeT ([⟨[47], [], 0, -1, 0, 0⟩]) ([47, 113]) [] (-1) 1 false).2.1)).toList == (mkS ([47, 113])).toList)) (v' := .bool (((makeT ([⟨[47], [], 0, -1, 0, 0⟩]) ([47, 113]) [] (-1) 1 false).2.1) == ([47, 113]))) (by kernel_rfl) (by rw [toList_mkS, toList_mkS]) ?_
        refine Op.pures 2 [1, 4, 6, 42] (L' := [(15, false), (16, false), (17, false), (18, false), (19, false), (20, false), (21, false), (22, false), (23, false), (24, false), (25, false), (26, false), (27, false), (28, false), (29, false), (30, false), (31, false), (32, false), (33, false), (34, false), (35, false), (36, false), (37, false), (38, false), (39, false), (40, false), (41, false), (42, false), (43, false), (44, false), (45, false), (46, false), (47, false)]) (e' := [(1, .pointer (some ⟨b1061, 0, none⟩)), (4, .string (mkS ((makeT al1 ([47, 113, 47, 116, 45]) ([(120 : UInt8)] : List UInt8) 3 2 true).2.1))), (6, .pointer (some ⟨b1099, 0, none⟩)), (42, .bool (((makeT ([⟨[47], [], 0, -1, 0, 0⟩]) ([47, 113]) [] (-1) 1 false).2.1) == ([47, 113])))]) (by kernel_rfl) ?_
        refine Op.ways (b := ((makeT ([⟨[47], [], 0, -1, 0, 0⟩]) ([47, 113]) [] (-1) 1 false).2.1) == ([47, 113])) ⟨fun hb => ?_, fun hb => ?_⟩
        · refine Op.cast (e' := [(1, .pointer (some ⟨b1061, 0, none⟩)), (4, .string (mkS ((makeT al1 ([47, 113, 47, 116, 45]) ([(120 : UInt8)] : List UInt8) 3 2 true).2.1))), (6, .pointer (some ⟨b1099, 0, none⟩)), (42, .bool true)]) (by rw [hb]) ?_
          have c1107 : ((makeT ([⟨[47], [], 0, -1, 0, 0⟩]) ([47, 113]) [] (-1) 1 false).2.1) = ([47, 113]) := eq_of_beq hb
          clear hb
          refine Op.pures 1 [1, 6, 42, 43] (L' := [(16, false), (17, false), (18, false), (19, false), (20, false), (21, false), (22, false), (23, false), (24, false), (25, false), (26, false), (27, false), (28, false), (29, false), (30, false), (31, false), (32, false), (33, false), (34, false), (35, false), (36, false), (37, false), (38, false), (39, false), (40, false), (41, false), (42, false), (43, false), (44, false), (45, false), (46, false), (47, false)]) (e' := [(1, .pointer (some ⟨b1061, 0, none⟩)), (6, .pointer (some ⟨b1099, 0, none⟩)), (42, .bool true), (43, .string (mkS ((makeT al1 ([47, 113, 47, 116, 45]) ([(120 : UInt8)] : List UInt8) 3 2 true).2.1)))]) (by kernel_rfl) ?_
          refine Op.val (dst := some 44) (v := .bool ((mkS ((makeT al1 ([47, 113, 47, 116, 45]) ([(120 : UInt8)] : List UInt8) 3 2 true).2.1)).toList == (mkS ([47, 113, 47, 116, 45, 48, 48, 48, 48, 48])).toList)) (v' := .bool (((makeT al1 ([47, 113, 47, 116, 45]) ([(120 : UInt8)] : List UInt8) 3 2 true).2.1) == ([47, 113, 47, 116, 45, 48, 48, 48, 48, 48]))) (by kernel_rfl) (by rw [toList_mkS, toList_mkS]) ?_
          refine Op.pures 2 [1, 6, 46] (L' := [(19, false), (20, false), (21, false), (22, false), (23, false), (24, false), (25, false), (26, false), (27, false), (28, false), (29, false), (30, false), (31, false), (32, false), (33, false), (34, false), (35, false), (36, false), (37, false), (38, false), (39, false), (40, false), (41, false), (42, false), (43, false), (44, false), (45, false), (46, false), (47, false)]) (e' := [(1, .pointer (some ⟨b1061, 0, none⟩)), (6, .pointer (some ⟨b1099, 0, none⟩)), (46, .bool (((makeT al1 ([47, 113, 47, 116, 45]) ([(120 : UInt8)] : List UInt8) 3 2 true).2.1) == ([47, 113, 47, 116, 45, 48, 48, 48, 48, 48])))]) (by kernel_rfl) ?_
          refine Op.ways (b := ((makeT al1 ([47, 113, 47, 116, 45]) ([(120 : UInt8)] : List UInt8) 3 2 true).2.1) == ([47, 113, 47, 116, 45, 48, 48, 48, 48, 48])) ⟨fun hb => ?_, fun hb => ?_⟩
          · refine Op.cast (e' := [(1, .pointer (some ⟨b1061, 0, none⟩)), (6, .pointer (some ⟨b1099, 0, none⟩)), (46, .bool true)]) (by rw [hb]) ?_
            have c1108 : ((makeT al1 ([47, 113, 47, 116, 45]) ([(120 : UInt8)] : List UInt8) 3 2 true).2.1) = ([47, 113, 47, 116, 45, 48, 48, 48, 48, 48]) := eq_of_beq hb
            clear hb
            refine Op.pures 1 [1, 6, 46, 47] (L' := [(20, false), (21, false), (22, false), (23, false), (24, false), (25, false), (26, false), (27, false), (28, false), (29, false), (30, false), (31, false), (32, false), (33, false), (34, false), (35, false), (36, false), (37, false), (38, false), (39, false), (40, false), (41, false), (42, false), (43, false), (44, false), (45, false), (46, false), (47, false)]) (e' := [(1, .pointer (some ⟨b1061, 0, none⟩)), (6, .pointer (some ⟨b1099, 0, none⟩)), (46, .bool true), (47, .pointer (some ⟨b1099, 3, none⟩))]) (by kernel_rfl) ?_
            refine Op.load (T := 3) (x := (.tmp 47)) (o := 3) (d := 48) (n := 1) (v := .int .i64 (((getT al2 ([47, 113, 47, 116, 45, 48, 48, 48, 48, 48])).1).Owner)) (by kernel_rfl) (by kernel_rfl) (by kernel_rfl) (s1103.chunk 0 rfl) (by kernel_rfl) ?_
            refine Op.pures 3 [1, 6, 51] (L' := [(24, false), (25, false), (26, false), (27, false), (28, false), (29, false), (30, false), (31, false), (32, false), (33, false), (34, false), (35, false), (36, false), (37, false), (38, false), (39, false), (40, false), (41, false), (42, false), (43, false), (44, false), (45, false), (46, false), (47, false)]) (e' := [(1, .pointer (some ⟨b1061, 0, none⟩)), (6, .pointer (some ⟨b1099, 0, none⟩)), (51, .bool ((((getT al2 ([47, 113, 47, 116, 45, 48, 48, 48, 48, 48])).1).Owner) == (3 : Int)))]) (by kernel_rfl) ?_
            refine Op.ways (b := (((getT al2 ([47, 113, 47, 116, 45, 48, 48, 48, 48, 48])).1).Owner) == (3 : Int)) ⟨fun hb => ?_, fun hb => ?_⟩
            · refine Op.cast (e' := [(1, .pointer (some ⟨b1061, 0, none⟩)), (6, .pointer (some ⟨b1099, 0, none⟩)), (51, .bool true)]) (by rw [hb]) ?_
              have c1109 : (((getT al2 ([47, 113, 47, 116, 45, 48, 48, 48, 48, 48])).1).Owner) = (3 : Int) := eq_of_beq hb
              clear hb
              refine Op.pures 1 [1, 51, 52] (L' := [(25, false), (26, false), (27, false), (28, false), (29, false), (30, false), (31, false), (32, false), (33, false), (34, false), (35, false), (36, false), (37, false), (38, false), (39, false), (40, false), (41, false), (42, false), (43, false), (44, false), (45, false), (46, false), (47, false)]) (e' := [(1, .pointer (some ⟨b1061, 0, none⟩)), (51, .bool true), (52, .pointer (some ⟨b1099, 1, none⟩))]) (by kernel_rfl) ?_
              refine Op.load (T := 29) (x := (.tmp 52)) (o := 1) (d := 53) (n := 1) (v := .slice a1095 ((((getT al2 ([47, 113, 47, 116, 45, 48, 48, 48, 48, 48])).1).Data).length) n1096) (by kernel_rfl) (by kernel_rfl) (by kernel_rfl) (s1103.chunk 0 rfl) (by kernel_rfl) ?_
              refine Op.ofBytes (T := 29) (S := 9) (E := 5) (x := (.tmp 53)) (dst := 54) (l := ((getT al2 ([47, 113, 47, 116, 45, 48, 48, 48, 48, 48])).1).Data) (by kernel_rfl) (by kernel_rfl) (by kernel_rfl) (by kernel_rfl) (by kernel_rfl) (R1094.toH s1103 2 rfl) ?_
              refine Op.val (dst := some 55) (v := .bool ((mkS (((getT al2 ([47, 113, 47, 116, 45, 48, 48, 48, 48, 48])).1).Data)).toList == (mkS ([120])).toList)) (v' := .bool ((((getT al2 ([47, 113, 47, 116, 45, 48, 48, 48, 48, 48])).1).Data) == ([120]))) (by kernel_rfl) (by rw [toList_mkS, toList_mkS]) ?_
              refine Op.pures 2 [1, 57] (L' := [(30, false), (31, false), (32, false), (33, false), (34, false), (35, false), (36, false), (37, false), (38, false), (39, false), (40, false), (41, false), (42, false), (43, false), (44, false), (45, false), (46, false), (47, false)]) (e' := [(1, .pointer (some ⟨b1061, 0, none⟩)), (57, .bool ((((getT al2 ([47, 113, 47, 116, 45, 48, 48, 48, 48, 48])).1).Data) == ([120])))]) (by kernel_rfl) ?_
              refine Op.ways (b := (((getT al2 ([47, 113, 47, 116, 45, 48, 48, 48, 48, 48])).1).Data) == ([120])) ⟨fun hb => ?_, fun hb => ?_⟩
              · refine Op.cast (e' := [(1, .pointer (some ⟨b1061, 0, none⟩)), (57, .bool true)]) (by rw [hb]) ?_
                have c1110 : (((getT al2 ([47, 113, 47, 116, 45, 48, 48, 48, 48, 48])).1).Data) = ([120]) := eq_of_beq hb
                clear hb
                refine Op.pures 1 [1, 57, 58] (L' := [(31, false), (32, false), (33, false), (34, false), (35, false), (36, false), (37, false), (38, false), (39, false), (40, false), (41, false), (42, false), (43, false), (44, false), (45, false), (46, false), (47, false)]) (e' := [(1, .pointer (some ⟨b1061, 0, none⟩)), (57, .bool true), (58, .pointer (some ⟨b1061, 0, none⟩))]) (by kernel_rfl) ?_
                have s1111 : St h g (ids []) g1076 [c1083, [(b1099, Obj.cells #[.string (mkS (((getT al2 ([47, 113, 47, 116, 45, 48, 48, 48, 48, 48])).1).Path)), .slice a1095 ((((getT al2 ([47, 113, 47, 116, 45, 48, 48, 48, 48, 48])).1).Data).length) n1096, .int .i64 (((getT al2 ([47, 113, 47, 116, 45, 48, 48, 48, 48, 48])).1).Version), .int .i64 (((getT al2 ([47, 113, 47, 116, 45, 48, 48, 48, 48, 48])).1).Owner), .int .i64 (((getT al2 ([47, 113, 47, 116, 45, 48, 48, 48, 48, 48])).1).Next), .int .i64 (((getT al2 ([47, 113, 47, 116, 45, 48, 48, 48, 48, 48])).1).Born)] 59 (0, 0))], ch1093] h1102 := ((s1103.front 0 rfl).front 1 rfl)
                refine Op.call (dst := some 59) (f := 33) (args := #[.pointer (some ⟨b1061, 0, none⟩), .string (mkS ([47, 113])), .int .i64 (-1)]) (Lc := [c1083]) (L := [[(b1099, Obj.cells #[.string (mkS (((getT al2 ([47, 113, 47, 116, 45, 48, 48, 48, 48, 48])).1).Path)), .slice a1095 ((((getT al2 ([47, 113, 47, 116, 45, 48, 48, 48, 48, 48])).1).Data).length) n1096, .int .i64 (((getT al2 ([47, 113, 47, 116, 45, 48, 48, 48, 48, 48])).1).Version), .int .i64 (((getT al2 ([47, 113, 47, 116, 45, 48, 48, 48, 48, 48])).1).Owner), .int .i64 (((getT al2 ([47, 113, 47, 116, 45, 48, 48, 48, 48, 48])).1).Next), .int .i64 (((getT al2 ([47, 113, 47, 116, 45, 48, 48, 48, 48, 48])).1).Born)] 59 (0, 0))], ch1093]) (by kernel_rfl) s1111 (dropF _ _ _ s1111.sub hG b1061 al2 _ o1087 ([47, 113]) (-1) (by ((try dsimp only) <;> (exact al_b2))) (by ((try dsimp only) <;> (decide))) (St.part (Lc := [c1083]) (L := [[(b1099, Obj.cells #[.string (mkS (((getT al2 ([47, 113, 47, 116, 45, 48, 48, 48, 48, 48])).1).Path)), .slice a1095 ((((getT al2 ([47, 113, 47, 116, 45, 48, 48, 48, 48, 48])).1).Data).length) n1096, .int .i64 (((getT al2 ([47, 113, 47, 116, 45, 48, 48, 48, 48, 48])).1).Version), .int .i64 (((getT al2 ([47, 113, 47, 116, 45, 48, 48, 48, 48, 48])).1).Owner), .int .i64 (((getT al2 ([47, 113, 47, 116, 45, 48, 48, 48, 48, 48])).1).Next), .int .i64 (((getT al2 ([47, 113, 47, 116, 45, 48, 48, 48, 48, 48])).1).Born)] 59 (0, 0))], ch1093]) s1111)) (fun _ _ _ => trivial) ?_
                rintro _ g1116 _ h1112 hle1117 s1113 ⟨c1114, rfl, o1115, hgg, rfl⟩; subst g1116; clear hle1117
                refine Op.pures 3 [1, 62] (L' := [(35, false), (36, false), (37, false), (38, false), (39, false), (40, false), (41, false), (42, false), (43, false), (44, false), (45, false), (46, false), (47, false)]) (e' := [(1, .pointer (some ⟨b1061, 0, none⟩)), (62, .bool (((dropT al2 ([47, 113]) (-1)).2) == (103 : Int)))]) (by kernel_rfl) ?_
                refine Op.ways (b := ((dropT al2 ([47, 113]) (-1)).2) == (103 : Int)) ⟨fun hb => ?_, fun hb => ?_⟩
                · refine Op.cast (e' := [(1, .pointer (some ⟨b1061, 0, none⟩)), (62, .bool true)]) (by rw [hb]) ?_
                  have c1118 : ((dropT al2 ([47, 113]) (-1)).2) = (103 : Int) := eq_of_beq hb
                  clear hb
                  refine Op.pures 1 [1, 62, 63] (L' := [(36, false), (37, false), (38, false), (39, false), (40, false), (41, false), (42, false), (43, false), (44, false), (45, false), (46, false), (47, false)]) (e' := [(1, .pointer (some ⟨b1061, 0, none⟩)), (62, .bool true), (63, .pointer (some ⟨b1061, 0, none⟩))]) (by kernel_rfl) ?_
                  have hl1119 := s1113.frzle
                  have hz1120 := IsTree.frz o1115 s1113 (by intro p hp; simp only [List.mem_append, hp, true_or, or_true])
                  refine Op.lend (dst := some 64) (f := 30) (args := #[.pointer (some ⟨b1061, 0, none⟩)]) (cf := (c1114 : Chunk)) (Lc := []) (L := [[(b1099, Obj.cells #[.string (mkS (((getT al2 ([47, 113, 47, 116, 45, 48, 48, 48, 48, 48])).1).Path)), .slice a1095 ((((getT al2 ([47, 113, 47, 116, 45, 48, 48, 48, 48, 48])).1).Data).length) n1096, .int .i64 (((getT al2 ([47, 113, 47, 116, 45, 48, 48, 48, 48, 48])).1).Version), .int .i64 (((getT al2 ([47, 113, 47, 116, 45, 48, 48, 48, 48, 48])).1).Owner), .int .i64 (((getT al2 ([47, 113, 47, 116, 45, 48, 48, 48, 48, 48])).1).Next), .int .i64 (((getT al2 ([47, 113, 47, 116, 45, 48, 48, 48, 48, 48])).1).Born)] 59 (0, 0))], ch1093]) (by kernel_rfl) s1113 (allF _ _ _ s1113.frzsub (hG.mono hl1119) b1061 ((dropT al2 ([47, 113]) (-1)).1) hz1120 (by ((try dsimp only) <;> (exact al_b2))) ) (fun _ _ _ hp => by obtain ⟨_, _, _, _, _, hgg, _⟩ := hp; exact hgg) (fun _ _ h => absurd h (ids_nil _)) ?_
                  rintro _ _ h1121 s1122 ⟨v1123, ch1124, dc1125, rfl, R1126, hgg, rfl⟩; clear hgg
                  have s1129 : St h g (ids []) g1076 [ch1124, dc1125, c1114, [(b1099, Obj.cells #[.string (mkS (((getT al2 ([47, 113, 47, 116, 45, 48, 48, 48, 48, 48])).1).Path)), .slice a1095 ((((getT al2 ([47, 113, 47, 116, 45, 48, 48, 48, 48, 48])).1).Data).length) n1096, .int .i64 (((getT al2 ([47, 113, 47, 116, 45, 48, 48, 48, 48, 48])).1).Version), .int .i64 (((getT al2 ([47, 113, 47, 116, 45, 48, 48, 48, 48, 48])).1).Owner), .int .i64 (((getT al2 ([47, 113, 47, 116, 45, 48, 48, 48, 48, 48])).1).Next), .int .i64 (((getT al2 ([47, 113, 47, 116, 45, 48, 48, 48, 48, 48])).1).Born)] 59 (0, 0))], ch1093] h1121 := (((s1122.front 0 rfl).front 2 rfl).front 2 rfl)
                  obtain ⟨g1130, s1131, hle1132, hf1133⟩ := Deep.freeze R1126 s1129
                  replace R1094 := R1094.mono hle1132
                  replace hG := hG.mono hle1132
                  replace hP := hP.mono hle1132
                  replace o1115 := o1115.mono hle1132
                  obtain ⟨a1134, n1135, rfl⟩ := hf1133.form
                  refine Op.pures 4 [1, 68] (L' := [(41, false), (42, false), (43, false), (44, false), (45, false), (46, false), (47, false)]) (e' := [(1, .pointer (some ⟨b1061, 0, none⟩)), (68, .bool (((((dropT al2 ([47, 113]) (-1)).1)).length : Int) == (3 : Int)))]) (by kernel_rfl) ?_
                  refine Op.ways (b := ((((dropT al2 ([47, 113]) (-1)).1)).length : Int) == (3 : Int)) ⟨fun hb => ?_, fun hb => ?_⟩
                  · refine Op.cast (e' := [(1, .pointer (some ⟨b1061, 0, none⟩)), (68, .bool true)]) (by rw [hb]) ?_
                    have c1136 : ((((dropT al2 ([47, 113]) (-1)).1)).length : Int) = (3 : Int) := eq_of_beq hb
                    clear hb
                    refine Op.pures 1 [68, 69] (L' := [(42, false), (43, false), (44, false), (45, false), (46, false), (47, false)]) (e' := [(68, .bool true), (69, .pointer (some ⟨b1061, 0, none⟩))]) (by kernel_rfl) ?_
                    refine Op.lit (T := 44) (len := 1) (parts := #[(0, (.const (.int .i64 3)))]) (dst := 70) (E := 3) (ps := [(0, .int .i64 3)]) (cs := #[.int .i64 3]) (by kernel_rfl) (by kernel_rfl) (by kernel_rfl) s1131 ?_
                    intro b1137 h1138 s1139
                    have R1140 : Row 3 (kInt .i64) g1130 (.slice (some ⟨b1137, 0, none⟩) 1 1) [3] [(b1137, Obj.cells #[.int .i64 3] 3 (0, 0))] := Row.lit (by kernel_rfl) (by unfold maxLen; decide) (by kernel_rfl) ⟨_, _, rfl, rfl, Reads.nil⟩
                    have s1141 : St h g (ids []) g1130 (([(b1137, Obj.cells #[.int .i64 3] 3 (0, 0))] ++ c1114 : Chunk) :: [[(b1099, Obj.cells #[.string (mkS (((getT al2 ([47, 113, 47, 116, 45, 48, 48, 48, 48, 48])).1).Path)), .slice a1095 ((((getT al2 ([47, 113, 47, 116, 45, 48, 48, 48, 48, 48])).1).Data).length) n1096, .int .i64 (((getT al2 ([47, 113, 47, 116, 45, 48, 48, 48, 48, 48])).1).Version), .int .i64 (((getT al2 ([47, 113, 47, 116, 45, 48, 48, 48, 48, 48])).1).Owner), .int .i64 (((getT al2 ([47, 113, 47, 116, 45, 48, 48, 48, 48, 48])).1).Next), .int .i64 (((getT al2 ([47, 113, 47, 116, 45, 48, 48, 48, 48, 48])).1).Born)] 59 (0, 0))], ch1093]) h1138 := St.flat (by simp only [List.flatten_cons, List.append_assoc, List.cons_append, List.nil_append, List.append_nil]) s1139
                    have hl1142 := s1141.frzle
                    have hz1143 := R1140.frzIn (c := ([(b1137, Obj.cells #[.int .i64 3] 3 (0, 0))] ++ c1114 : Chunk)) s1141 (by intro p hp; simp only [List.mem_append, hp, true_or, or_true])
                    have hz1144 := IsTree.frz o1115 s1141 (by intro p hp; simp only [List.mem_append, hp, true_or, or_true])
                    refine Op.lend (dst := some 71) (f := 31) (args := #[.pointer (some ⟨b1061, 0, none⟩), .slice (some ⟨b1137, 0, none⟩) 1 1]) (cf := ([(b1137, Obj.cells #[.int .i64 3] 3 (0, 0))] ++ c1114 : Chunk)) (Lc := []) (L := [[(b1099, Obj.cells #[.string (mkS (((getT al2 ([47, 113, 47, 116, 45, 48, 48, 48, 48, 48])).1).Path)), .slice a1095 ((((getT al2 ([47, 113, 47, 116, 45, 48, 48, 48, 48, 48])).1).Data).length) n1096, .int .i64 (((getT al2 ([47, 113, 47, 116, 45, 48, 48, 48, 48, 48])).1).Version), .int .i64 (((getT al2 ([47, 113, 47, 116, 45, 48, 48, 48, 48, 48])).1).Owner), .int .i64 (((getT al2 ([47, 113, 47, 116, 45, 48, 48, 48, 48, 48])).1).Next), .int .i64 (((getT al2 ([47, 113, 47, 116, 45, 48, 48, 48, 48, 48])).1).Born)] 59 (0, 0))], ch1093]) (by kernel_rfl) s1141 (ownedF _ _ _ s1141.frzsub (hG.mono hl1142) b1061 ((dropT al2 ([47, 113]) (-1)).1) hz1144 _ _ hz1143 (by ((try dsimp only) <;> (exact al_b2))) (by ((try dsimp only) <;> (decide))) ) (fun _ _ _ hp => by obtain ⟨_, _, _, _, hgg, _⟩ := hp; exact hgg) (fun _ _ h => absurd h (ids_nil _)) ?_
                    rintro _ _ h1145 s1146 ⟨v1147, ch1148, rfl, R1149, hgg, rfl⟩; clear hgg
                    obtain ⟨a1150, n1151, rfl⟩ := R1149.form
                    replace R1149 := R1149.flat (fun _ _ _ _ h => h) (g' := g1130)
                    have s1154 : St h g (ids []) g1130 [[(b1137, Obj.cells #[.int .i64 3] 3 (0, 0))], c1114, ch1148, [(b1099, Obj.cells #[.string (mkS (((getT al2 ([47, 113, 47, 116, 45, 48, 48, 48, 48, 48])).1).Path)), .slice a1095 ((((getT al2 ([47, 113, 47, 116, 45, 48, 48, 48, 48, 48])).1).Data).length) n1096, .int .i64 (((getT al2 ([47, 113, 47, 116, 45, 48, 48, 48, 48, 48])).1).Version), .int .i64 (((getT al2 ([47, 113, 47, 116, 45, 48, 48, 48, 48, 48])).1).Owner), .int .i64 (((getT al2 ([47, 113, 47, 116, 45, 48, 48, 48, 48, 48])).1).Next), .int .i64 (((getT al2 ([47, 113, 47, 116, 45, 48, 48, 48, 48, 48])).1).Born)] 59 (0, 0))], ch1093] h1145 := St.flat (by simp only [List.flatten_cons, List.append_assoc, List.cons_append, List.nil_append, List.append_nil]) s1146
                    refine Op.pures 4 [0] (L' := []) (e' := [(0, .bool (((ownedL ((dropT al2 ([47, 113]) (-1)).1) ([3])).length : Int) == (1 : Int)))]) (by kernel_rfl) ?_
                    refine Op.goto 10 (by kernel_rfl) ?_
                    refine At.ret (f := Tryz.f25) (v := .bool (((ownedL ((dropT al2 ([47, 113]) (-1)).1) ([3])).length : Int) == (1 : Int))) (by kernel_rfl) (by kernel_rfl) ?_
                    have s1155 : St h g (ids []) g1130 [] h1145 := (s1154).drop.drop.drop.drop.drop
                    have s1156 : St h g (ids []) g [] h1145 := s1155.unfrz
                    refine hR _ _ _ _ s1156 ⟨?_, rfl, rfl⟩
                    exact (eqB (by rfl))
                  · refine Op.cast (e' := [(1, .pointer (some ⟨b1061, 0, none⟩)), (68, .bool false)]) (by rw [hb]) ?_
                    have c1157 : ¬ (((((dropT al2 ([47, 113]) (-1)).1)).length : Int) = (3 : Int)) := neF hb
                    clear hb
                    refine Op.pures 7 [0] (L' := []) (e' := [(0, .bool false)]) (by kernel_rfl) ?_
                    refine Op.goto 10 (by kernel_rfl) ?_
                    refine At.ret (f := Tryz.f25) (v := .bool false) (by kernel_rfl) (by kernel_rfl) ?_
                    have s1158 : St h g (ids []) g1130 [] h1121 := (s1131).drop.drop.drop
                    have s1159 : St h g (ids []) g [] h1121 := s1158.unfrz
                    refine hR _ _ _ _ s1159 ⟨?_, rfl, rfl⟩
                    exact (eqB (by exact absurd (by rw [al_4]; first | done | rfl | decide +kernel) c1157))
                · refine Op.cast (e' := [(1, .pointer (some ⟨b1061, 0, none⟩)), (62, .bool false)]) (by rw [hb]) ?_
                  have c1160 : ¬ (((dropT al2 ([47, 113]) (-1)).2) = (103 : Int)) := neF hb
                  clear hb
                  refine Op.pures 13 [0] (L' := []) (e' := [(0, .bool false)]) (by kernel_rfl) ?_
                  refine Op.goto 10 (by kernel_rfl) ?_
                  refine At.ret (f := Tryz.f25) (v := .bool false) (by kernel_rfl) (by kernel_rfl) ?_
                  have s1161 : St h g (ids []) g1076 [] h1112 := (s1113).drop.drop.drop
                  have s1162 : St h g (ids []) g [] h1112 := s1161.unfrz
                  refine hR _ _ _ _ s1162 ⟨?_, rfl, rfl⟩
                  exact (eqB (by exact absurd (by rw [al_4]; first | done | rfl | decide +kernel) c1160))
              · refine Op.cast (e' := [(1, .pointer (some ⟨b1061, 0, none⟩)), (57, .bool false)]) (by rw [hb]) ?_
                have c1163 : ¬ ((((getT al2 ([47, 113, 47, 116, 45, 48, 48, 48, 48, 48])).1).Data) = ([120])) := neF hb
                clear hb
                refine Op.pures 18 [0] (L' := []) (e' := [(0, .bool false)]) (by kernel_rfl) ?_
                refine Op.goto 10 (by kernel_rfl) ?_
                refine At.ret (f := Tryz.f25) (v := .bool false) (by kernel_rfl) (by kernel_rfl) ?_
                have s1164 : St h g (ids []) g1076 [] h1102 := (s1103).drop.drop.drop
                have s1165 : St h g (ids []) g [] h1102 := s1164.unfrz
                refine hR _ _ _ _ s1165 ⟨?_, rfl, rfl⟩
                exact (eqB (by exact absurd (by rw [al_3]; first | done | rfl | decide +kernel) c1163))
            · refine Op.cast (e' := [(1, .pointer (some ⟨b1061, 0, none⟩)), (6, .pointer (some ⟨b1099, 0, none⟩)), (51, .bool false)]) (by rw [hb]) ?_
              have c1166 : ¬ ((((getT al2 ([47, 113, 47, 116, 45, 48, 48, 48, 48, 48])).1).Owner) = (3 : Int)) := neF hb
              clear hb
              refine Op.pures 24 [0] (L' := []) (e' := [(0, .bool false)]) (by kernel_rfl) ?_
              refine Op.goto 10 (by kernel_rfl) ?_
              refine At.ret (f := Tryz.f25) (v := .bool false) (by kernel_rfl) (by kernel_rfl) ?_
              have s1167 : St h g (ids []) g1076 [] h1102 := (s1103).drop.drop.drop
              have s1168 : St h g (ids []) g [] h1102 := s1167.unfrz
              refine hR _ _ _ _ s1168 ⟨?_, rfl, rfl⟩
              exact (eqB (by exact absurd (by rw [al_3]; first | done | rfl | decide +kernel) c1166))
          · refine Op.cast (e' := [(1, .pointer (some ⟨b1061, 0, none⟩)), (6, .pointer (some ⟨b1099, 0, none⟩)), (46, .bool false)]) (by rw [hb]) ?_
            have c1169 : ¬ (((makeT al1 ([47, 113, 47, 116, 45]) ([(120 : UInt8)] : List UInt8) 3 2 true).2.1) = ([47, 113, 47, 116, 45, 48, 48, 48, 48, 48])) := neF hb
            clear hb
            refine Op.pures 29 [0] (L' := []) (e' := [(0, .bool false)]) (by kernel_rfl) ?_
            refine Op.goto 10 (by kernel_rfl) ?_
            refine At.ret (f := Tryz.f25) (v := .bool false) (by kernel_rfl) (by kernel_rfl) ?_
            have s1170 : St h g (ids []) g1076 [] h1102 := (s1103).drop.drop.drop
            have s1171 : St h g (ids []) g [] h1102 := s1170.unfrz
            refine hR _ _ _ _ s1171 ⟨?_, rfl, rfl⟩
            exact (eqB (by exact absurd (by rw [al_2]; first | done | rfl | decide +kernel) c1169))
        · refine Op.cast (e' := [(1, .pointer (some ⟨b1061, 0, none⟩)), (4, .string (mkS ((makeT al1 ([47, 113, 47, 116, 45]) ([(120 : UInt8)] : List UInt8) 3 2 true).2.1))), (6, .pointer (some ⟨b1099, 0, none⟩)), (42, .bool false)]) (by rw [hb]) ?_
          have c1172 : ¬ (((makeT ([⟨[47], [], 0, -1, 0, 0⟩]) ([47, 113]) [] (-1) 1 false).2.1) = ([47, 113])) := neF hb
          clear hb
          refine Op.pures 33 [0] (L' := []) (e' := [(0, .bool false)]) (by kernel_rfl) ?_
          refine Op.goto 10 (by kernel_rfl) ?_
          refine At.ret (f := Tryz.f25) (v := .bool false) (by kernel_rfl) (by kernel_rfl) ?_
          have s1173 : St h g (ids []) g1076 [] h1102 := (s1103).drop.drop.drop
          have s1174 : St h g (ids []) g [] h1102 := s1173.unfrz
          refine hR _ _ _ _ s1174 ⟨?_, rfl, rfl⟩
          exact (eqB (by exact absurd (by rw [al_1]; first | done | rfl | decide +kernel) c1172))
      · refine Op.cast (e' := [(1, .pointer (some ⟨b1061, 0, none⟩)), (2, .string (mkS ((makeT ([⟨[47], [], 0, -1, 0, 0⟩]) ([47, 113]) [] (-1) 1 false).2.1))), (4, .string (mkS ((makeT al1 ([47, 113, 47, 116, 45]) ([(120 : UInt8)] : List UInt8) 3 2 true).2.1))), (6, .pointer (some ⟨b1099, 0, none⟩)), (38, .bool false)]) (by rw [hb]) ?_
        have c1175 : ¬ (((getT al2 ([47, 113, 47, 116, 45, 48, 48, 48, 48, 48])).2) = (0 : Int)) := neF hb
        clear hb
        refine Op.pures 37 [0] (L' := []) (e' := [(0, .bool false)]) (by kernel_rfl) ?_
        refine Op.goto 10 (by kernel_rfl) ?_
        refine At.ret (f := Tryz.f25) (v := .bool false) (by kernel_rfl) (by kernel_rfl) ?_
        have s1176 : St h g (ids []) g1076 [] h1102 := (s1103).drop.drop.drop
        have s1177 : St h g (ids []) g [] h1102 := s1176.unfrz
        refine hR _ _ _ _ s1177 ⟨?_, rfl, rfl⟩
        exact (eqB (by exact absurd (by rw [al_3]; first | done | rfl | decide +kernel) c1175))
    · refine Op.cast (e' := [(1, .pointer (some ⟨b1061, 0, none⟩)), (2, .string (mkS ((makeT ([⟨[47], [], 0, -1, 0, 0⟩]) ([47, 113]) [] (-1) 1 false).2.1))), (4, .string (mkS ((makeT al1 ([47, 113, 47, 116, 45]) ([(120 : UInt8)] : List UInt8) 3 2 true).2.1))), (6, .pointer (some ⟨b1099, 0, none⟩)), (7, .int .i64 ((getT al2 ([47, 113, 47, 116, 45, 48, 48, 48, 48, 48])).2)), (34, .bool false)]) (by rw [hb]) ?_
      have c1178 : ¬ (((makeT al1 ([47, 113, 47, 116, 45]) ([(120 : UInt8)] : List UInt8) 3 2 true).2.2) = (0 : Int)) := neF hb
      clear hb
      refine Op.pures 41 [0] (L' := []) (e' := [(0, .bool false)]) (by kernel_rfl) ?_
      refine Op.goto 10 (by kernel_rfl) ?_
      refine At.ret (f := Tryz.f25) (v := .bool false) (by kernel_rfl) (by kernel_rfl) ?_
      have s1179 : St h g (ids []) g1076 [] h1102 := (s1103).drop.drop.drop
      have s1180 : St h g (ids []) g [] h1102 := s1179.unfrz
      refine hR _ _ _ _ s1180 ⟨?_, rfl, rfl⟩
      exact (eqB (by exact absurd (by rw [al_2]; first | done | rfl | decide +kernel) c1178))
  · refine Op.cast (e' := [(1, .pointer (some ⟨b1061, 0, none⟩)), (2, .string (mkS ((makeT ([⟨[47], [], 0, -1, 0, 0⟩]) ([47, 113]) [] (-1) 1 false).2.1))), (4, .string (mkS ((makeT al1 ([47, 113, 47, 116, 45]) ([(120 : UInt8)] : List UInt8) 3 2 true).2.1))), (5, .int .i64 ((makeT al1 ([47, 113, 47, 116, 45]) ([(120 : UInt8)] : List UInt8) 3 2 true).2.2)), (6, .pointer (some ⟨b1099, 0, none⟩)), (7, .int .i64 ((getT al2 ([47, 113, 47, 116, 45, 48, 48, 48, 48, 48])).2)), (30, .bool false)]) (by rw [hb]) ?_
    have c1181 : ¬ (((makeT ([⟨[47], [], 0, -1, 0, 0⟩]) ([47, 113]) [] (-1) 1 false).2.2) = (0 : Int)) := neF hb
    clear hb
    refine Op.pures 45 [0] (L' := []) (e' := [(0, .bool false)]) (by kernel_rfl) ?_
    refine Op.goto 10 (by kernel_rfl) ?_
    refine At.ret (f := Tryz.f25) (v := .bool false) (by kernel_rfl) (by kernel_rfl) ?_
    have s1182 : St h g (ids []) g1076 [] h1102 := (s1103).drop.drop.drop
    have s1183 : St h g (ids []) g [] h1102 := s1182.unfrz
    refine hR _ _ _ _ s1183 ⟨?_, rfl, rfl⟩
    exact (eqB (by exact absurd (by rw [al_1]; first | done | rfl | decide +kernel) c1181))
end Go.Proofs.YtmjebehhpojihaaGreatDoor.Sw
namespace Go.Proofs.YtmjebehhpojihaaGreatDoor.Sw
open Go
set_option maxRecDepth 100000
set_option linter.unusedVariables false
set_option linter.unusedSimpArgs false
set_option linter.deprecated false
theorem lawOwned10 (B : World) (h : Heap) (g : GH) (hg : Sub g h) (hG : Glob g) (v_script : Value) (script : List L10Op) (h_script : SlR g 49 kL10Op v_script script) (v_ow : Value) (ow : List Int) (h_ow : SlR g 3 (kInt .i64) v_ow ow) (hP : Pow10 g) (h1 : script.length ≤ 2000000) (hb : ∀ o ∈ script, o.Path.length ≤ 2000000 ∧ o.Data.length ≤ 2000000) (how : ow.length ≤ 2000000) :
    Spec Tryz.prog B 7 #[v_script, v_ow] h g [] (fun rv g' L' => rv = .bool true ∧ g' = g ∧ L' = []) := by
  obtain ⟨a_script, n_script, rfl⟩ := h_script.form
  obtain ⟨a_ow, n_ow, rfl⟩ := h_ow.form
  refine Spec.of_at (f := Tryz.f7) (e := [(0, .slice a_script script.length n_script), (1, .slice a_ow ow.length n_ow)]) Tryz.func7 (by kernel_rfl) (Nat.le_of_ble_eq_true (by kernel_rfl)) (by kernel_rfl) (by kernel_rfl) ?_
  intro R hR
  have s0 := St.init hg
  refine At.reg (L := [(0, false)]) (by kernel_rfl) ?_
  refine Op.pures 1 [0, 1] (L' := []) (e' := [(0, .slice a_script script.length n_script), (1, .slice a_ow ow.length n_ow)]) (by kernel_rfl) ?_
  refine Op.goto 1 (by kernel_rfl) ?_
  refine At.reg (L := [(0, false), (1, false)]) (by kernel_rfl) ?_
  refine Op.call0 (dst := some 17) (f := 25) (args := #[]) (by kernel_rfl) s0 (alive10 _ _ _ s0.sub hG  hP ) ?_
  rintro _ g1003 _ h1001 hle1004 s1002 ⟨rfl, hgg, rfl⟩; subst g1003; clear hle1004
  refine Op.pures 1 [0, 1, 18] (L' := []) (e' := [(0, .slice a_script script.length n_script), (1, .slice a_ow ow.length n_ow), (18, .bool false)]) (by kernel_rfl) ?_
  refine Op.goto 2 (by kernel_rfl) ?_
  refine At.condF (c := .tmp 18) (by kernel_rfl) (by kernel_rfl) (by kernel_rfl) 5 (by kernel_rfl) ?_
  refine At.reg (L := [(0, false), (1, false), (2, false), (3, false), (4, false), (5, false), (6, false)]) (by kernel_rfl) ?_
  refine Op.pures 1 [0, 1, 19] (L' := [(1, false), (2, false), (3, false), (4, false), (5, false), (6, false)]) (e' := [(0, .slice a_script script.length n_script), (1, .slice a_ow ow.length n_ow), (19, .slice a_script script.length n_script)]) (by kernel_rfl) ?_
  refine Op.call0 (dst := some 20) (f := 26) (args := #[.slice a_script script.length n_script]) (by kernel_rfl) s1002 (great10 _ _ _ s1002.sub hG _ _ h_script (by ((try dsimp only) <;> (omega))) (by ((try dsimp only) <;> (omega))) ) ?_
  rintro _ g1007 _ h1005 hle1008 s1006 ⟨rfl, hgg, rfl⟩; subst g1007; clear hle1008
  refine Op.pures 1 [0, 1, 21] (L' := [(3, false), (4, false), (5, false), (6, false)]) (e' := [(0, .slice a_script script.length n_script), (1, .slice a_ow ow.length n_ow), (21, .bool (greatB script))]) (by kernel_rfl) ?_
  refine Op.ways (b := greatB script) ⟨fun hb => ?_, fun hb => ?_⟩
  · refine Op.cast (e' := [(0, .slice a_script script.length n_script), (1, .slice a_ow ow.length n_ow), (21, .bool true)]) (by rw [hb]) ?_
    have c1009 : (greatB script) = true := hb
    clear hb
    refine Op.pures 4 [0, 1, 25] (L' := []) (e' := [(0, .slice a_script script.length n_script), (1, .slice a_ow ow.length n_ow), (25, .bool true)]) (by kernel_rfl) ?_
    refine Op.goto 6 (by kernel_rfl) ?_
    refine At.condT (c := .tmp 25) (by kernel_rfl) (by kernel_rfl) (by kernel_rfl) 7 (by kernel_rfl) ?_
    refine At.reg (L := [(0, false)]) (by kernel_rfl) ?_
    refine Op.pures 1 [4] (L' := []) (e' := [(4, .bool true)]) (by kernel_rfl) ?_
    refine Op.goto 8 (by kernel_rfl) ?_
    refine At.ret (f := Tryz.f7) (v := .bool true) (by kernel_rfl) (by kernel_rfl) ?_
    refine hR _ _ _ _ s1006 ⟨?_, rfl, rfl⟩
    exact (eqB (by rfl))
  · refine Op.cast (e' := [(0, .slice a_script script.length n_script), (1, .slice a_ow ow.length n_ow), (21, .bool false)]) (by rw [hb]) ?_
    have c1010 : (greatB script) = false := hb
    clear hb
    refine Op.pures 4 [0, 1, 25] (L' := []) (e' := [(0, .slice a_script script.length n_script), (1, .slice a_ow ow.length n_ow), (25, .bool (decide ((ow.length : Int) > (50 : Int))))]) (by kernel_rfl) ?_
    refine Op.goto 6 (by kernel_rfl) ?_
    refine At.cond (b := decide ((ow.length : Int) > (50 : Int))) (c := .tmp 25) (by kernel_rfl) (by kernel_rfl) (by kernel_rfl) 7 9 (by kernel_rfl) (by kernel_rfl) (fun hb => ?_) (fun hb => ?_)
    · have c1011 : (ow.length : Int) > (50 : Int) := of_decide_eq_true hb
      clear hb
      refine At.keep [] ?_; show At _ _ _ [] _
      refine At.reg (L := [(0, false)]) (by kernel_rfl) ?_
      refine Op.pures 1 [4] (L' := []) (e' := [(4, .bool true)]) (by kernel_rfl) ?_
      refine Op.goto 8 (by kernel_rfl) ?_
      refine At.ret (f := Tryz.f7) (v := .bool true) (by kernel_rfl) (by kernel_rfl) ?_
      refine hR _ _ _ _ s1006 ⟨?_, rfl, rfl⟩
      exact (eqB (by rfl))
    · have c1012 : ¬ ((ow.length : Int) > (50 : Int)) := of_decide_eq_false hb
      clear hb
      refine At.keep [0, 1] ?_; show At _ _ _ [(0, .slice a_script script.length n_script), (1, .slice a_ow ow.length n_ow)] _
      refine At.reg (L := [(0, false)]) (by kernel_rfl) ?_
      refine Op.pures 1 [0, 1, 5] (L' := []) (e' := [(0, .slice a_script script.length n_script), (1, .slice a_ow ow.length n_ow), (5, .int .i64 0)]) (by kernel_rfl) ?_
      refine Op.goto 10 (by kernel_rfl) ?_
      have loop10 : ∀ (m : Nat) (q : Int) (h1013 : Heap) (hm : ow.length - q.toNat < m) (h4 : 0 ≤ q) (h5 : q ≤ ow.length) (hng : ∀ o ∈ ow.take q.toNat, 0 ≤ o)     (s_loop101012 : St h g (ids []) g [] h1013), At (fctx Tryz.prog B 7 Tryz.f7 R) [] 10 [(0, .slice a_script script.length n_script), (1, .slice a_ow ow.length n_ow), (5, .int .i64 q)] h1013 := by
        intro m; induction m with
        | zero => intros; omega
        | succ m ih10 =>
          intro q h1013 hm h4 h5 hng s_loop101012
          refine At.reg (L := [(0, false), (1, false), (2, false), (3, false)]) (by kernel_rfl) ?_
          refine Op.pures 4 [0, 1, 5, 29] (L' := []) (e' := [(0, .slice a_script script.length n_script), (1, .slice a_ow ow.length n_ow), (5, .int .i64 q), (29, .bool (decide (q < (ow.length : Int))))]) (by kernel_rfl) ?_
          refine Op.goto 11 (by kernel_rfl) ?_
          refine At.cond (b := decide (q < (ow.length : Int))) (c := .tmp 29) (by kernel_rfl) (by kernel_rfl) (by kernel_rfl) 12 17 (by kernel_rfl) (by kernel_rfl) (fun hb => ?_) (fun hb => ?_)
          · have c1014 : q < (ow.length : Int) := of_decide_eq_true hb
            clear hb
            refine At.keep [0, 1, 5] ?_; show At _ _ _ [(0, .slice a_script script.length n_script), (1, .slice a_ow ow.length n_ow), (5, .int .i64 q)] _
            refine At.reg (L := [(0, false), (1, false), (2, false), (3, false), (4, false)]) (by kernel_rfl) ?_
            refine Op.pures 2 [0, 1, 5, 32, 33] (L' := [(2, false), (3, false), (4, false)]) (e' := [(0, .slice a_script script.length n_script), (1, .slice a_ow ow.length n_ow), (5, .int .i64 q), (32, .slice a_ow ow.length n_ow), (33, .int .i64 q)]) (by kernel_rfl) ?_
            obtain ⟨x1015, hx1016⟩ : ∃ c, ow[(q : Int).toNat]? = some c := ⟨_, List.getElem?_eq_getElem (by omega)⟩
            obtain ⟨b1017, o1018, cu1019, fz1020, ha1021, hb1022, hk1023⟩ := SlR.at_ h_ow _ hx1016
            cases ha1021
            refine Op.idx (T := 44) (E := 3) (sz := 1) (by_ := 8) (n := ow.length) (c := n_ow) (k := .i64) (x := (.tmp 32)) (ix := (.tmp 33)) (dst := 34) (bk := b1017) (o := o1018) (m := q) (by kernel_rfl) (by kernel_rfl) (by kernel_rfl) (by kernel_rfl) (by omega) (by omega) ?_
            replace hk1023 : cut _ _ _ = [.int .i64 x1015] := hk1023
            refine Op.load (T := 3) (x := (.tmp 34)) (o := o1018 + (q : Int).toNat * 1) (d := 35) (n := 1) (v := .int .i64 x1015) (by kernel_rfl) (by kernel_rfl) (by kernel_rfl) (s_loop101012.sub _ _ hb1022) (cut_get hk1023 0 rfl) ?_
            refine Op.pures 1 [0, 1, 5, 36] (L' := []) (e' := [(0, .slice a_script script.length n_script), (1, .slice (some ⟨b1017, o1018, none⟩) ow.length n_ow), (5, .int .i64 q), (36, .bool (decide (x1015 < (0 : Int))))]) (by kernel_rfl) ?_
            refine Op.goto 13 (by kernel_rfl) ?_
            refine At.cond (b := decide (x1015 < (0 : Int))) (c := .tmp 36) (by kernel_rfl) (by kernel_rfl) (by kernel_rfl) 14 16 (by kernel_rfl) (by kernel_rfl) (fun hb => ?_) (fun hb => ?_)
            · have c1024 : x1015 < (0 : Int) := of_decide_eq_true hb
              clear hb
              refine At.keep [] ?_; show At _ _ _ [] _
              refine At.reg (L := [(0, false)]) (by kernel_rfl) ?_
              refine Op.pures 1 [4] (L' := []) (e' := [(4, .bool true)]) (by kernel_rfl) ?_
              refine Op.goto 15 (by kernel_rfl) ?_
              refine At.ret (f := Tryz.f7) (v := .bool true) (by kernel_rfl) (by kernel_rfl) ?_
              refine hR _ _ _ _ s_loop101012 ⟨?_, rfl, rfl⟩
              exact (eqB (by rfl))
            · have c1025 : ¬ (x1015 < (0 : Int)) := of_decide_eq_false hb
              clear hb
              refine At.keep [0, 1, 5] ?_; show At _ _ _ [(0, .slice a_script script.length n_script), (1, .slice (some ⟨b1017, o1018, none⟩) ow.length n_ow), (5, .int .i64 q)] _
              refine At.reg (L := [(0, false), (1, false), (2, false)]) (by kernel_rfl) ?_
              refine Op.pures 1 [0, 1, 5, 30] (L' := [(1, false), (2, false)]) (e' := [(0, .slice a_script script.length n_script), (1, .slice (some ⟨b1017, o1018, none⟩) ow.length n_ow), (5, .int .i64 q), (30, .int .i64 q)]) (by kernel_rfl) ?_
              refine Op.val (dst := some 31) (v := .int .i64 (IntKind.wrap .i64 (q + 1))) (v' := .int .i64 (q + 1)) (by kernel_rfl) (wrapEq_i64 (by omega) (by omega)) ?_
              refine Op.pures 1 [0, 1, 5] (L' := []) (e' := [(0, .slice a_script script.length n_script), (1, .slice (some ⟨b1017, o1018, none⟩) ow.length n_ow), (5, .int .i64 (q + 1))]) (by kernel_rfl) ?_
              refine Op.goto 10 (by kernel_rfl) ?_
              exact ih10  (q + 1) _ (by omega) (by omega) (by omega) (by exact nn_step hng h4 hx1016 (by assumption))  s_loop101012
          · have c1026 : ¬ (q < (ow.length : Int)) := of_decide_eq_false hb
            clear hb
            refine At.keep [0, 1] ?_; show At _ _ _ [(0, .slice a_script script.length n_script), (1, .slice a_ow ow.length n_ow)] _
            refine At.reg (L := [(0, false), (1, false)]) (by kernel_rfl) ?_
            refine Op.call0 (dst := some 37) (f := 27) (args := #[]) (by kernel_rfl) s_loop101012 (newT _ _ _ s_loop101012.sub hG   ) ?_
            rintro _ g1032 _ h1027 hle1033 s1028 ⟨b1029, c1030, rfl, o1031, hgg, rfl⟩; subst g1032; clear hle1033
            refine Op.pures 1 [0, 1, 6] (L' := []) (e' := [(0, .slice a_script script.length n_script), (1, .slice a_ow ow.length n_ow), (6, .pointer (some ⟨b1029, 0, none⟩))]) (by kernel_rfl) ?_
            refine Op.goto 18 (by kernel_rfl) ?_
            refine At.reg (L := [(0, false), (1, false)]) (by kernel_rfl) ?_
            refine Op.pures 2 [0, 1, 6, 39] (L' := []) (e' := [(0, .slice a_script script.length n_script), (1, .slice a_ow ow.length n_ow), (6, .pointer (some ⟨b1029, 0, none⟩)), (39, .bool false)]) (by kernel_rfl) ?_
            refine Op.goto 19 (by kernel_rfl) ?_
            refine At.condF (c := .tmp 39) (by kernel_rfl) (by kernel_rfl) (by kernel_rfl) 22 (by kernel_rfl) ?_
            refine At.reg (L := [(0, false)]) (by kernel_rfl) ?_
            refine Op.pures 1 [0, 1, 6, 7] (L' := []) (e' := [(0, .slice a_script script.length n_script), (1, .slice a_ow ow.length n_ow), (6, .pointer (some ⟨b1029, 0, none⟩)), (7, .int .i64 0)]) (by kernel_rfl) ?_
            refine Op.goto 23 (by kernel_rfl) ?_
            have loop23 : ∀ (m : Nat) (ns : List Leaf) (i : Int) (c1034 : Chunk) (h1036 : Heap) (hm : script.length - i.toNat < m) (h0 : 0 ≤ i) (h3 : i ≤ script.length) (hT : TreeOk i ns)  (o1035 : IsTree g b1029 ns c1034)   (s_loop231035 : St h g (ids []) g [c1034] h1036), At (fctx Tryz.prog B 7 Tryz.f7 R) [] 23 [(0, .slice a_script script.length n_script), (1, .slice a_ow ow.length n_ow), (6, .pointer (some ⟨b1029, 0, none⟩)), (7, .int .i64 i)] h1036 := by
              intro m; induction m with
              | zero => intros; omega
              | succ m ih23 =>
                intro ns i c1034 h1036 hm h0 h3 hT o1035 s_loop231035
                refine At.reg (L := [(0, false), (1, false), (2, false), (3, false)]) (by kernel_rfl) ?_
                refine Op.pures 4 [0, 1, 6, 7, 43] (L' := []) (e' := [(0, .slice a_script script.length n_script), (1, .slice a_ow ow.length n_ow), (6, .pointer (some ⟨b1029, 0, none⟩)), (7, .int .i64 i), (43, .bool (decide (i < (script.length : Int))))]) (by kernel_rfl) ?_
                refine Op.goto 24 (by kernel_rfl) ?_
                refine At.cond (b := decide (i < (script.length : Int))) (c := .tmp 43) (by kernel_rfl) (by kernel_rfl) (by kernel_rfl) 25 29 (by kernel_rfl) (by kernel_rfl) (fun hb => ?_) (fun hb => ?_)
                · have c1037 : i < (script.length : Int) := of_decide_eq_true hb
                  clear hb
                  refine At.keep [0, 1, 6, 7] ?_; show At _ _ _ [(0, .slice a_script script.length n_script), (1, .slice a_ow ow.length n_ow), (6, .pointer (some ⟨b1029, 0, none⟩)), (7, .int .i64 i)] _
                  refine At.reg (L := [(0, false), (1, false), (2, false), (3, false), (4, false), (5, false)]) (by kernel_rfl) ?_
                  refine Op.pures 2 [0, 1, 6, 7, 46, 47] (L' := [(2, false), (3, false), (4, false), (5, false)]) (e' := [(0, .slice a_script script.length n_script), (1, .slice a_ow ow.length n_ow), (6, .pointer (some ⟨b1029, 0, none⟩)), (7, .int .i64 i), (46, .slice a_script script.length n_script), (47, .int .i64 i)]) (by kernel_rfl) ?_
                  obtain ⟨x1038, hx1039⟩ : ∃ c, script[(i : Int).toNat]? = some c := ⟨_, List.getElem?_eq_getElem (by omega)⟩
                  obtain ⟨b1040, o1041, cu1042, fz1043, ha1044, hb1045, hk1046⟩ := SlR.at_ h_script _ hx1039
                  cases ha1044
                  refine Op.idx (T := 43) (E := 49) (sz := 7) (by_ := 80) (n := script.length) (c := n_script) (k := .i64) (x := (.tmp 46)) (ix := (.tmp 47)) (dst := 48) (bk := b1040) (o := o1041) (m := i) (by kernel_rfl) (by kernel_rfl) (by kernel_rfl) (by kernel_rfl) (by omega) (by omega) ?_
                  obtain ⟨v1047, hv1048, hk1046⟩ := hk1046
                  obtain ⟨a1049, n1050, rfl⟩ := hv1048.form
                  refine Op.pures 1 [0, 1, 6, 7, 49] (L' := [(4, false), (5, false)]) (e' := [(0, .slice (some ⟨b1040, o1041, none⟩) script.length n_script), (1, .slice a_ow ow.length n_ow), (6, .pointer (some ⟨b1029, 0, none⟩)), (7, .int .i64 i), (49, .pointer (some ⟨b1040, o1041 + (i : Int).toNat * 7, none⟩))]) (by kernel_rfl) ?_
                  refine Op.load (T := 3) (x := (.tmp 49)) (o := o1041 + (i : Int).toNat * 7) (d := 50) (n := 1) (v := .int .i64 x1038.What) (by kernel_rfl) (by kernel_rfl) (by kernel_rfl) (s_loop231035.sub _ _ hb1045) (cut_get hk1046 0 rfl) ?_
                  refine Op.pures 1 [0, 1, 6, 7, 51] (L' := []) (e' := [(0, .slice (some ⟨b1040, o1041, none⟩) script.length n_script), (1, .slice a_ow ow.length n_ow), (6, .pointer (some ⟨b1029, 0, none⟩)), (7, .int .i64 i), (51, .bool (x1038.What == (1 : Int)))]) (by kernel_rfl) ?_
                  refine Op.goto 26 (by kernel_rfl) ?_
                  refine At.cond (b := x1038.What == (1 : Int)) (c := .tmp 51) (by kernel_rfl) (by kernel_rfl) (by kernel_rfl) 27 28 (by kernel_rfl) (by kernel_rfl) (fun hb => ?_) (fun hb => ?_)
                  · have c1051 : x1038.What = (1 : Int) := eq_of_beq hb
                    clear hb
                    refine At.keep [0, 1, 6, 7] ?_; show At _ _ _ [(0, .slice (some ⟨b1040, o1041, none⟩) script.length n_script), (1, .slice a_ow ow.length n_ow), (6, .pointer (some ⟨b1029, 0, none⟩)), (7, .int .i64 i)] _
                    refine At.draw (by kernel_rfl) (fun _ => False) [(0, true), (1, true), (2, true), (3, true), (4, true), (6, true), (7, true), (8, true), (9, true), (12, true), (13, true), (14, true), (15, true), (17, true), (18, true), (19, true), (20, true), (22, true), (23, true), (24, true), (25, true), (5, true), (10, true), (16, true), (21, true), (26, true), (11, false), (1027, false), (27, false)] (by kernel_rfl) ?_
                    refine Op.pures 3 [0, 1, 6, 7, 52, 53, 54] (L' := [(3, true), (4, true), (6, true), (7, true), (8, true), (9, true), (12, true), (13, true), (14, true), (15, true), (17, true), (18, true), (19, true), (20, true), (22, true), (23, true), (24, true), (25, true), (5, true), (10, true), (16, true), (21, true), (26, true), (11, false), (1027, false), (27, false)]) (e' := [(0, .slice (some ⟨b1040, o1041, none⟩) script.length n_script), (1, .slice a_ow ow.length n_ow), (6, .pointer (some ⟨b1029, 0, none⟩)), (7, .int .i64 i), (52, .pointer (some ⟨b1029, 0, none⟩)), (53, .slice (some ⟨b1040, o1041, none⟩) script.length n_script), (54, .int .i64 i)]) (by kernel_rfl) ?_
                    obtain ⟨b1054, o1055, cu1056, fz1057, ha1058, hb1059, hk1060⟩ := SlR.at_ h_script _ hx1039
                    cases ha1058
                    refine Op.idx (T := 43) (E := 49) (sz := 7) (by_ := 80) (n := script.length) (c := n_script) (k := .i64) (x := (.tmp 53)) (ix := (.tmp 54)) (dst := 55) (bk := b1040) (o := o1041) (m := i) (by kernel_rfl) (by kernel_rfl) (by kernel_rfl) (by kernel_rfl) (by omega) (by omega) ?_
                    obtain ⟨v1061, hv1062, hk1060⟩ := hk1060
                    obtain ⟨a1063, n1064, rfl⟩ := hv1062.form
                    refine Op.pures 3 [0, 1, 6, 7, 52, 56, 58, 59] (L' := [(8, true), (9, true), (12, true), (13, true), (14, true), (15, true), (17, true), (18, true), (19, true), (20, true), (22, true), (23, true), (24, true), (25, true), (5, true), (10, true), (16, true), (21, true), (26, true), (11, false), (1027, false), (27, false)]) (e' := [(0, .slice (some ⟨b1040, o1041, none⟩) script.length n_script), (1, .slice a_ow ow.length n_ow), (6, .pointer (some ⟨b1029, 0, none⟩)), (7, .int .i64 i), (52, .pointer (some ⟨b1029, 0, none⟩)), (56, .pointer (some ⟨b1040, o1041 + (i : Int).toNat * 7 + 4, none⟩)), (58, .slice (some ⟨b1040, o1041, none⟩) script.length n_script), (59, .int .i64 i)]) (by kernel_rfl) ?_
                    obtain ⟨b1067, o1068, cu1069, fz1070, ha1071, hb1072, hk1073⟩ := SlR.at_ h_script _ hx1039
                    cases ha1071
                    refine Op.idx (T := 43) (E := 49) (sz := 7) (by_ := 80) (n := script.length) (c := n_script) (k := .i64) (x := (.tmp 58)) (ix := (.tmp 59)) (dst := 60) (bk := b1040) (o := o1041) (m := i) (by kernel_rfl) (by kernel_rfl) (by kernel_rfl) (by kernel_rfl) (by omega) (by omega) ?_
                    obtain ⟨v1074, hv1075, hk1073⟩ := hk1073
                    obtain ⟨a1076, n1077, rfl⟩ := hv1075.form
                    refine Op.pures 3 [0, 1, 6, 7, 52, 56, 61, 64, 65] (L' := [(14, true), (15, true), (17, true), (18, true), (19, true), (20, true), (22, true), (23, true), (24, true), (25, true), (5, true), (10, true), (16, true), (21, true), (26, true), (11, false), (1027, false), (27, false)]) (e' := [(0, .slice (some ⟨b1040, o1041, none⟩) script.length n_script), (1, .slice a_ow ow.length n_ow), (6, .pointer (some ⟨b1029, 0, none⟩)), (7, .int .i64 i), (52, .pointer (some ⟨b1029, 0, none⟩)), (56, .pointer (some ⟨b1040, o1041 + (i : Int).toNat * 7 + 4, none⟩)), (61, .pointer (some ⟨b1040, o1041 + (i : Int).toNat * 7 + 5, none⟩)), (64, .slice (some ⟨b1040, o1041, none⟩) script.length n_script), (65, .int .i64 i)]) (by kernel_rfl) ?_
                    obtain ⟨b1080, o1081, cu1082, fz1083, ha1084, hb1085, hk1086⟩ := SlR.at_ h_script _ hx1039
                    cases ha1084
                    refine Op.idx (T := 43) (E := 49) (sz := 7) (by_ := 80) (n := script.length) (c := n_script) (k := .i64) (x := (.tmp 64)) (ix := (.tmp 65)) (dst := 66) (bk := b1040) (o := o1041) (m := i) (by kernel_rfl) (by kernel_rfl) (by kernel_rfl) (by kernel_rfl) (by omega) (by omega) ?_
                    obtain ⟨v1087, hv1088, hk1086⟩ := hk1086
                    obtain ⟨a1089, n1090, rfl⟩ := hv1088.form
                    refine Op.pures 3 [0, 1, 6, 7, 52, 56, 61, 67, 69, 70] (L' := [(19, true), (20, true), (22, true), (23, true), (24, true), (25, true), (5, true), (10, true), (16, true), (21, true), (26, true), (11, false), (1027, false), (27, false)]) (e' := [(0, .slice (some ⟨b1040, o1041, none⟩) script.length n_script), (1, .slice a_ow ow.length n_ow), (6, .pointer (some ⟨b1029, 0, none⟩)), (7, .int .i64 i), (52, .pointer (some ⟨b1029, 0, none⟩)), (56, .pointer (some ⟨b1040, o1041 + (i : Int).toNat * 7 + 4, none⟩)), (61, .pointer (some ⟨b1040, o1041 + (i : Int).toNat * 7 + 5, none⟩)), (67, .pointer (some ⟨b1040, o1041 + (i : Int).toNat * 7 + 1, none⟩)), (69, .slice (some ⟨b1040, o1041, none⟩) script.length n_script), (70, .int .i64 i)]) (by kernel_rfl) ?_
                    obtain ⟨b1093, o1094, cu1095, fz1096, ha1097, hb1098, hk1099⟩ := SlR.at_ h_script _ hx1039
                    cases ha1097
                    refine Op.idx (T := 43) (E := 49) (sz := 7) (by_ := 80) (n := script.length) (c := n_script) (k := .i64) (x := (.tmp 69)) (ix := (.tmp 70)) (dst := 71) (bk := b1040) (o := o1041) (m := i) (by kernel_rfl) (by kernel_rfl) (by kernel_rfl) (by kernel_rfl) (by omega) (by omega) ?_
                    obtain ⟨v1100, hv1101, hk1099⟩ := hk1099
                    obtain ⟨a1102, n1103, rfl⟩ := hv1101.form
                    refine Op.pures 3 [0, 1, 6, 7, 52, 56, 61, 67, 72, 74, 75] (L' := [(24, true), (25, true), (5, true), (10, true), (16, true), (21, true), (26, true), (11, false), (1027, false), (27, false)]) (e' := [(0, .slice (some ⟨b1040, o1041, none⟩) script.length n_script), (1, .slice a_ow ow.length n_ow), (6, .pointer (some ⟨b1029, 0, none⟩)), (7, .int .i64 i), (52, .pointer (some ⟨b1029, 0, none⟩)), (56, .pointer (some ⟨b1040, o1041 + (i : Int).toNat * 7 + 4, none⟩)), (61, .pointer (some ⟨b1040, o1041 + (i : Int).toNat * 7 + 5, none⟩)), (67, .pointer (some ⟨b1040, o1041 + (i : Int).toNat * 7 + 1, none⟩)), (72, .pointer (some ⟨b1040, o1041 + (i : Int).toNat * 7 + 2, none⟩)), (74, .slice (some ⟨b1040, o1041, none⟩) script.length n_script), (75, .int .i64 i)]) (by kernel_rfl) ?_
                    obtain ⟨b1106, o1107, cu1108, fz1109, ha1110, hb1111, hk1112⟩ := SlR.at_ h_script _ hx1039
                    cases ha1110
                    refine Op.idx (T := 43) (E := 49) (sz := 7) (by_ := 80) (n := script.length) (c := n_script) (k := .i64) (x := (.tmp 74)) (ix := (.tmp 75)) (dst := 76) (bk := b1040) (o := o1041) (m := i) (by kernel_rfl) (by kernel_rfl) (by kernel_rfl) (by kernel_rfl) (by omega) (by omega) ?_
                    obtain ⟨v1113, hv1114, hk1112⟩ := hk1112
                    obtain ⟨a1115, n1116, rfl⟩ := hv1114.form
                    refine Op.pures 1 [0, 1, 6, 7, 52, 56, 61, 67, 72, 77] (L' := [(5, true), (10, true), (16, true), (21, true), (26, true), (11, false), (1027, false), (27, false)]) (e' := [(0, .slice (some ⟨b1040, o1041, none⟩) script.length n_script), (1, .slice a_ow ow.length n_ow), (6, .pointer (some ⟨b1029, 0, none⟩)), (7, .int .i64 i), (52, .pointer (some ⟨b1029, 0, none⟩)), (56, .pointer (some ⟨b1040, o1041 + (i : Int).toNat * 7 + 4, none⟩)), (61, .pointer (some ⟨b1040, o1041 + (i : Int).toNat * 7 + 5, none⟩)), (67, .pointer (some ⟨b1040, o1041 + (i : Int).toNat * 7 + 1, none⟩)), (72, .pointer (some ⟨b1040, o1041 + (i : Int).toNat * 7 + 2, none⟩)), (77, .pointer (some ⟨b1040, o1041 + (i : Int).toNat * 7 + 6, none⟩))]) (by kernel_rfl) ?_
                    refine Op.loadF (T := 9) (x := (.tmp 56)) (o := o1041 + (i : Int).toNat * 7 + 4) (d := 57) (n := 1) (v := .string (mkS x1038.Path)) (by kernel_rfl) (by kernel_rfl) (by kernel_rfl) (fun h => h) (s_loop231035.sub _ _ hb1059) (cut_get hk1060 4 rfl) ?_
                    refine Op.loadF (T := 29) (x := (.tmp 61)) (o := o1041 + (i : Int).toNat * 7 + 5) (d := 62) (n := 1) (v := .slice a1076 x1038.Data.length n1077) (by kernel_rfl) (by kernel_rfl) (by kernel_rfl) (fun h => h) (s_loop231035.sub _ _ hb1072) (cut_get hk1073 5 rfl) ?_
                    refine Op.loadF (T := 3) (x := (.tmp 67)) (o := o1041 + (i : Int).toNat * 7 + 1) (d := 68) (n := 1) (v := .int .i64 x1038.Owner) (by kernel_rfl) (by kernel_rfl) (by kernel_rfl) (fun h => h) (s_loop231035.sub _ _ hb1085) (cut_get hk1086 1 rfl) ?_
                    refine Op.loadF (T := 3) (x := (.tmp 72)) (o := o1041 + (i : Int).toNat * 7 + 2) (d := 73) (n := 1) (v := .int .i64 x1038.Born) (by kernel_rfl) (by kernel_rfl) (by kernel_rfl) (fun h => h) (s_loop231035.sub _ _ hb1098) (cut_get hk1099 2 rfl) ?_
                    refine Op.loadF (T := 4) (x := (.tmp 77)) (o := o1041 + (i : Int).toNat * 7 + 6) (d := 78) (n := 1) (v := .bool x1038.Numbered) (by kernel_rfl) (by kernel_rfl) (by kernel_rfl) (fun h => h) (s_loop231035.sub _ _ hb1111) (cut_get hk1112 6 rfl) ?_
                    refine Op.call0 (dst := some 63) (f := 29) (args := #[.slice a1076 x1038.Data.length n1077]) (by kernel_rfl) s_loop231035 (copyBytes _ _ _ s_loop231035.sub hG _ _ hv1075 (by ((try dsimp only) <;> ((have hbb := hb _ (List.mem_of_getElem? hx1039); omega)))) ) ?_
                    rintro _ g1124 _ h1117 hle1125 s1118 ⟨v1119, ch1120, rfl, R1121, hgg, rfl⟩; subst g1124; clear hle1125
                    obtain ⟨a1122, n1123, rfl⟩ := R1121.form
                    refine Op.barrier (by kernel_rfl) ?_
                    have hl1126 := s1118.frzle
                    have hz1127 := R1121.frz s1118
                    refine Op.lend (dst := some 79) (f := 28) (args := #[.pointer (some ⟨b1029, 0, none⟩), .string (mkS x1038.Path), .slice a1122 ((x1038.Data).length) n1123, .int .i64 x1038.Owner, .int .i64 x1038.Born, .bool x1038.Numbered]) (cf := (ch1120 : Chunk)) (Lc := [c1034]) (L := []) (by kernel_rfl) s1118 (makeF _ _ _ s1118.frzsub (hG.mono hl1126) b1029 ns _ (o1035.mono hl1126) x1038.Path _ _ hz1127 x1038.Owner x1038.Born x1038.Numbered (hP.mono hl1126) (by ((try dsimp only) <;> (exact hT.b (by have hsm := (small (by assumption)).1; omega)))) (by ((try dsimp only) <;> ((have hbb := hb _ (List.mem_of_getElem? hx1039); omega)))) (by ((try dsimp only) <;> ((have hbb := hb _ (List.mem_of_getElem? hx1039); omega)))) (St.part (Lc := [c1034]) (L := []) s1118.freeze.1)) (fun _ _ _ hp => by obtain ⟨_, _, _, hgg, _⟩ := hp; exact hgg) (fun _ _ _ => trivial) ?_
                    rintro _ _ h1128 s1129 ⟨c1130, rfl, o1131, hgg, rfl⟩; clear hgg
                    replace o1131 := o1131.flat (g' := g)
                    refine Op.goto 28 (by kernel_rfl) ?_
                    refine At.reg (L := [(0, false), (1, false), (2, false)]) (by kernel_rfl) ?_
                    refine Op.pures 1 [0, 1, 6, 7, 44] (L' := [(1, false), (2, false)]) (e' := [(0, .slice (some ⟨b1040, o1041, none⟩) script.length n_script), (1, .slice a_ow ow.length n_ow), (6, .pointer (some ⟨b1029, 0, none⟩)), (7, .int .i64 i), (44, .int .i64 i)]) (by kernel_rfl) ?_
                    refine Op.val (dst := some 45) (v := .int .i64 (IntKind.wrap .i64 (i + 1))) (v' := .int .i64 (i + 1)) (by kernel_rfl) (wrapEq_i64 (by omega) (by omega)) ?_
                    refine Op.pures 1 [0, 1, 6, 7] (L' := []) (e' := [(0, .slice (some ⟨b1040, o1041, none⟩) script.length n_script), (1, .slice a_ow ow.length n_ow), (6, .pointer (some ⟨b1029, 0, none⟩)), (7, .int .i64 (i + 1))]) (by kernel_rfl) ?_
                    refine Op.goto 23 (by kernel_rfl) ?_
                    have s1134 : St h g (ids []) g [c1130] h1128 := (s1129).drop
                    exact ih23  ((makeT ns x1038.Path x1038.Data x1038.Owner x1038.Born x1038.Numbered).1) (i + 1) _ _ (by omega) (by omega) (by omega) (by exact hT.make (by have hsm := (small (by assumption)).1; omega) h0) o1131 s1134
                  · have c1135 : ¬ (x1038.What = (1 : Int)) := neF hb
                    clear hb
                    refine At.keep [0, 1, 6, 7] ?_; show At _ _ _ [(0, .slice (some ⟨b1040, o1041, none⟩) script.length n_script), (1, .slice a_ow ow.length n_ow), (6, .pointer (some ⟨b1029, 0, none⟩)), (7, .int .i64 i)] _
                    refine At.reg (L := [(0, false), (1, false), (2, false)]) (by kernel_rfl) ?_
                    refine Op.pures 1 [0, 1, 6, 7, 44] (L' := [(1, false), (2, false)]) (e' := [(0, .slice (some ⟨b1040, o1041, none⟩) script.length n_script), (1, .slice a_ow ow.length n_ow), (6, .pointer (some ⟨b1029, 0, none⟩)), (7, .int .i64 i), (44, .int .i64 i)]) (by kernel_rfl) ?_
                    refine Op.val (dst := some 45) (v := .int .i64 (IntKind.wrap .i64 (i + 1))) (v' := .int .i64 (i + 1)) (by kernel_rfl) (wrapEq_i64 (by omega) (by omega)) ?_
                    refine Op.pures 1 [0, 1, 6, 7] (L' := []) (e' := [(0, .slice (some ⟨b1040, o1041, none⟩) script.length n_script), (1, .slice a_ow ow.length n_ow), (6, .pointer (some ⟨b1029, 0, none⟩)), (7, .int .i64 (i + 1))]) (by kernel_rfl) ?_
                    refine Op.goto 23 (by kernel_rfl) ?_
                    exact ih23  ns (i + 1) _ _ (by omega) (by omega) (by omega) (by exact hT.mono (by omega)) o1035 s_loop231035
                · have c1136 : ¬ (i < (script.length : Int)) := of_decide_eq_false hb
                  clear hb
                  refine At.keep [1, 6] ?_; show At _ _ _ [(1, .slice a_ow ow.length n_ow), (6, .pointer (some ⟨b1029, 0, none⟩))] _
                  refine At.reg (L := [(0, false), (1, false), (2, false)]) (by kernel_rfl) ?_
                  refine Op.pures 1 [1, 6, 80] (L' := [(1, false), (2, false)]) (e' := [(1, .slice a_ow ow.length n_ow), (6, .pointer (some ⟨b1029, 0, none⟩)), (80, .pointer (some ⟨b1029, 0, none⟩))]) (by kernel_rfl) ?_
                  have hl1137 := s_loop231035.frzle
                  have hz1138 := IsTree.frz o1035 s_loop231035 (by intro p hp; simp only [List.mem_append, hp, true_or, or_true])
                  refine Op.lend (dst := some 81) (f := 30) (args := #[.pointer (some ⟨b1029, 0, none⟩)]) (cf := (c1034 : Chunk)) (Lc := []) (L := []) (by kernel_rfl) s_loop231035 (allF _ _ _ s_loop231035.frzsub (hG.mono hl1137) b1029 ns hz1138 (by ((try dsimp only) <;> (exact hT.b (by have hsm := (small (by assumption)).1; omega)))) ) (fun _ _ _ hp => by obtain ⟨_, _, _, _, _, hgg, _⟩ := hp; exact hgg) (fun _ _ h => absurd h (ids_nil _)) ?_
                  rintro _ _ h1139 s1140 ⟨v1141, ch1142, dc1143, rfl, R1144, hgg, rfl⟩; clear hgg
                  have s1147 : St h g (ids []) g [ch1142, dc1143, c1034] h1139 := (((s1140.front 0 rfl).front 2 rfl).front 2 rfl)
                  obtain ⟨g1148, s1149, hle1150, hf1151⟩ := Deep.freeze R1144 s1147
                  replace hG := hG.mono hle1150
                  replace hP := hP.mono hle1150
                  replace h_ow := h_ow.mono hle1150
                  replace o1035 := o1035.mono hle1150
                  obtain ⟨a1152, n1153, rfl⟩ := hf1151.form
                  refine Op.pures 1 [1, 6, 8] (L' := []) (e' := [(1, .slice a_ow ow.length n_ow), (6, .pointer (some ⟨b1029, 0, none⟩)), (8, .slice a1152 ((ns).length) n1153)]) (by kernel_rfl) ?_
                  refine Op.goto 30 (by kernel_rfl) ?_
                  refine At.reg (L := [(0, false), (1, false), (2, false), (3, false), (4, false)]) (by kernel_rfl) ?_
                  refine Op.pures 2 [1, 6, 8, 82, 83] (L' := [(2, false), (3, false), (4, false)]) (e' := [(1, .slice a_ow ow.length n_ow), (6, .pointer (some ⟨b1029, 0, none⟩)), (8, .slice a1152 ((ns).length) n1153), (82, .pointer (some ⟨b1029, 0, none⟩)), (83, .slice a_ow ow.length n_ow)]) (by kernel_rfl) ?_
                  refine Op.call0 (dst := some 84) (f := 32) (args := #[.slice a_ow ow.length n_ow]) (by kernel_rfl) s1149 (copyInts _ _ _ s1149.sub hG _ _ h_ow (by ((try dsimp only) <;> (omega))) ) ?_
                  rintro _ g1161 _ h1154 hle1162 s1155 ⟨v1156, ch1157, rfl, R1158, hgg, rfl⟩; subst g1161; clear hle1162
                  obtain ⟨a1159, n1160, rfl⟩ := R1158.form
                  have s1163 : St h g (ids []) g1148 ((ch1157 ++ c1034 : Chunk) :: []) h1154 := St.flat (by simp only [List.flatten_cons, List.append_assoc, List.cons_append, List.nil_append, List.append_nil]) s1155
                  have hl1164 := s1163.frzle
                  have hz1165 := R1158.frzIn (c := (ch1157 ++ c1034 : Chunk)) s1163 (by intro p hp; simp only [List.mem_append, hp, true_or, or_true])
                  have hz1166 := IsTree.frz o1035 s1163 (by intro p hp; simp only [List.mem_append, hp, true_or, or_true])
                  refine Op.lend (dst := some 85) (f := 31) (args := #[.pointer (some ⟨b1029, 0, none⟩), .slice a1159 ((ow).length) n1160]) (cf := (ch1157 ++ c1034 : Chunk)) (Lc := []) (L := []) (by kernel_rfl) s1163 (ownedF _ _ _ s1163.frzsub (hG.mono hl1164) b1029 ns hz1166 _ _ hz1165 (by ((try dsimp only) <;> (exact hT.b (by have hsm := (small (by assumption)).1; omega)))) (by ((try dsimp only) <;> (omega))) ) (fun _ _ _ hp => by obtain ⟨_, _, _, _, hgg, _⟩ := hp; exact hgg) (fun _ _ h => absurd h (ids_nil _)) ?_
                  rintro _ _ h1167 s1168 ⟨v1169, ch1170, rfl, R1171, hgg, rfl⟩; clear hgg
                  obtain ⟨a1172, n1173, rfl⟩ := R1171.form
                  replace R1171 := R1171.flat (fun _ _ _ _ h => h) (g' := g1148)
                  have s1176 : St h g (ids []) g1148 [ch1157, c1034, ch1170] h1167 := St.flat (by simp only [List.flatten_cons, List.append_assoc, List.cons_append, List.nil_append, List.append_nil]) s1168
                  refine Op.pures 1 [1, 6, 8, 9] (L' := []) (e' := [(1, .slice a_ow ow.length n_ow), (6, .pointer (some ⟨b1029, 0, none⟩)), (8, .slice a1152 ((ns).length) n1153), (9, .slice a1172 ((ownedL ns ow).length) n1173)]) (by kernel_rfl) ?_
                  refine Op.goto 31 (by kernel_rfl) ?_
                  refine At.reg (L := [(0, false)]) (by kernel_rfl) ?_
                  refine Op.pures 1 [1, 6, 8, 9, 10] (L' := []) (e' := [(1, .slice a_ow ow.length n_ow), (6, .pointer (some ⟨b1029, 0, none⟩)), (8, .slice a1152 ((ns).length) n1153), (9, .slice a1172 ((ownedL ns ow).length) n1173), (10, .int .i64 0)]) (by kernel_rfl) ?_
                  refine Op.goto 32 (by kernel_rfl) ?_
                  have loop32 : ∀ (m : Nat) (cur : List Leaf) (k : Int) (c1177 : Chunk) (h1179 : Heap) (hm : (ownedL ns ow).length - k.toNat < m) (h6 : 0 ≤ k) (h7 : k ≤ (ownedL ns ow).length) (hc : cur = gone ns ((ownedL ns ow).take k.toNat))  (o1178 : IsTree g1148 b1029 cur c1177)   (s_loop321178 : St h g (ids []) g1148 [ch1157, c1177, ch1170] h1179), At (fctx Tryz.prog B 7 Tryz.f7 R) [] 32 [(1, .slice a_ow ow.length n_ow), (6, .pointer (some ⟨b1029, 0, none⟩)), (8, .slice a1152 ((ns).length) n1153), (9, .slice a1172 ((ownedL ns ow).length) n1173), (10, .int .i64 k)] h1179 := by
                    intro m; induction m with
                    | zero => intros; omega
                    | succ m ih32 =>
                      intro cur k c1177 h1179 hm h6 h7 hc o1178 s_loop321178
                      refine At.reg (L := [(0, false), (1, false), (2, false), (3, false)]) (by kernel_rfl) ?_
                      refine Op.pures 4 [1, 6, 8, 9, 10, 89] (L' := []) (e' := [(1, .slice a_ow ow.length n_ow), (6, .pointer (some ⟨b1029, 0, none⟩)), (8, .slice a1152 ((ns).length) n1153), (9, .slice a1172 ((ownedL ns ow).length) n1173), (10, .int .i64 k), (89, .bool (decide (k < ((ownedL ns ow).length : Int))))]) (by kernel_rfl) ?_
                      refine Op.goto 33 (by kernel_rfl) ?_
                      refine At.cond (b := decide (k < ((ownedL ns ow).length : Int))) (c := .tmp 89) (by kernel_rfl) (by kernel_rfl) (by kernel_rfl) 34 39 (by kernel_rfl) (by kernel_rfl) (fun hb => ?_) (fun hb => ?_)
                      · have c1180 : k < ((ownedL ns ow).length : Int) := of_decide_eq_true hb
                        clear hb
                        refine At.keep [1, 6, 8, 9, 10] ?_; show At _ _ _ [(1, .slice a_ow ow.length n_ow), (6, .pointer (some ⟨b1029, 0, none⟩)), (8, .slice a1152 ((ns).length) n1153), (9, .slice a1172 ((ownedL ns ow).length) n1173), (10, .int .i64 k)] _
                        refine At.reg (L := [(0, false), (1, false), (2, false), (3, false), (4, false), (5, false), (6, false)]) (by kernel_rfl) ?_
                        refine Op.pures 3 [1, 6, 8, 9, 10, 92, 93, 94] (L' := [(3, false), (4, false), (5, false), (6, false)]) (e' := [(1, .slice a_ow ow.length n_ow), (6, .pointer (some ⟨b1029, 0, none⟩)), (8, .slice a1152 ((ns).length) n1153), (9, .slice a1172 ((ownedL ns ow).length) n1173), (10, .int .i64 k), (92, .pointer (some ⟨b1029, 0, none⟩)), (93, .slice a1172 ((ownedL ns ow).length) n1173), (94, .int .i64 k)]) (by kernel_rfl) ?_
                        obtain ⟨x1181, hx1182⟩ : ∃ c, (ownedL ns ow)[(k : Int).toNat]? = some c := ⟨_, List.getElem?_eq_getElem (by omega)⟩
                        obtain ⟨b1183, o1184, cu1185, fz1186, ha1187, hb1188, hk1189⟩ := SlH.at_ (R1171.toH s_loop321178 2 rfl) _ hx1182
                        cases ha1187
                        refine Op.idx (T := 54) (E := 9) (sz := 1) (by_ := 16) (n := ((ownedL ns ow).length)) (c := n1173) (k := .i64) (x := (.tmp 93)) (ix := (.tmp 94)) (dst := 95) (bk := b1183) (o := o1184) (m := k) (by kernel_rfl) (by kernel_rfl) (by kernel_rfl) (by kernel_rfl) (by omega) (by omega) ?_
                        replace hk1189 : cut _ _ _ = [.string (mkS x1181)] := hk1189
                        refine Op.load (T := 9) (x := (.tmp 95)) (o := o1184 + (k : Int).toNat * 1) (d := 96) (n := 1) (v := .string (mkS x1181)) (by kernel_rfl) (by kernel_rfl) (by kernel_rfl) hb1188 (cut_get hk1189 0 rfl) ?_
                        have s1190 : St h g (ids []) g1148 [c1177, ch1157, ch1170] h1179 := ((s_loop321178.front 0 rfl).front 1 rfl)
                        refine Op.call (dst := some 97) (f := 33) (args := #[.pointer (some ⟨b1029, 0, none⟩), .string (mkS x1181), .int .i64 (-1)]) (Lc := [c1177]) (L := [ch1157, ch1170]) (by kernel_rfl) s1190 (dropF _ _ _ s1190.sub hG b1029 cur _ o1178 x1181 (-1) (by ((try dsimp only) <;> ((rw [hc]; exact gone_b (hT.b (by have hsm := (small (by assumption)).1; omega)))))) (by ((try dsimp only) <;> ((have := own_len hT hx1182; omega)))) (St.part (Lc := [c1177]) (L := [ch1157, ch1170]) s1190)) (fun _ _ _ => trivial) ?_
                        rintro _ g1195 _ h1191 hle1196 s1192 ⟨c1193, rfl, o1194, hgg, rfl⟩; subst g1195; clear hle1196
                        refine Op.pures 1 [1, 6, 8, 9, 10, 98] (L' := []) (e' := [(1, .slice a_ow ow.length n_ow), (6, .pointer (some ⟨b1029, 0, none⟩)), (8, .slice a1152 ((ns).length) n1153), (9, .slice (some ⟨b1183, o1184, none⟩) ((ownedL ns ow).length) n1173), (10, .int .i64 k), (98, .bool (((dropT cur x1181 (-1)).2) != (0 : Int)))]) (by kernel_rfl) ?_
                        refine Op.goto 35 (by kernel_rfl) ?_
                        refine At.cond (b := ((dropT cur x1181 (-1)).2) != (0 : Int)) (c := .tmp 98) (by kernel_rfl) (by kernel_rfl) (by kernel_rfl) 36 38 (by kernel_rfl) (by kernel_rfl) (fun hb => ?_) (fun hb => ?_)
                        · have c1197 : ¬ (((dropT cur x1181 (-1)).2) = (0 : Int)) := bneT hb
                          clear hb
                          refine At.keep [] ?_; show At _ _ _ [] _
                          refine At.reg (L := [(0, false)]) (by kernel_rfl) ?_
                          refine Op.pures 1 [4] (L' := []) (e' := [(4, .bool false)]) (by kernel_rfl) ?_
                          refine Op.goto 37 (by kernel_rfl) ?_
                          refine At.ret (f := Tryz.f7) (v := .bool false) (by kernel_rfl) (by kernel_rfl) ?_
                          have s1198 : St h g (ids []) g1148 [] h1191 := (s1192).drop.drop.drop
                          have s1199 : St h g (ids []) g [] h1191 := s1198.unfrz
                          refine hR _ _ _ _ s1199 ⟨?_, rfl, rfl⟩
                          exact (eqB (by exact absurd (by rw [hc, own_drop hT (nn_end hng (by assumption)) h6 hx1182]) c1197))
                        · have c1200 : ((dropT cur x1181 (-1)).2) = (0 : Int) := bneF hb
                          clear hb
                          refine At.keep [1, 6, 8, 9, 10] ?_; show At _ _ _ [(1, .slice a_ow ow.length n_ow), (6, .pointer (some ⟨b1029, 0, none⟩)), (8, .slice a1152 ((ns).length) n1153), (9, .slice (some ⟨b1183, o1184, none⟩) ((ownedL ns ow).length) n1173), (10, .int .i64 k)] _
                          refine At.reg (L := [(0, false), (1, false), (2, false)]) (by kernel_rfl) ?_
                          refine Op.pures 1 [1, 6, 8, 9, 10, 90] (L' := [(1, false), (2, false)]) (e' := [(1, .slice a_ow ow.length n_ow), (6, .pointer (some ⟨b1029, 0, none⟩)), (8, .slice a1152 ((ns).length) n1153), (9, .slice (some ⟨b1183, o1184, none⟩) ((ownedL ns ow).length) n1173), (10, .int .i64 k), (90, .int .i64 k)]) (by kernel_rfl) ?_
                          refine Op.val (dst := some 91) (v := .int .i64 (IntKind.wrap .i64 (k + 1))) (v' := .int .i64 (k + 1)) (by kernel_rfl) (wrapEq_i64 (by omega) (by (have h9 := ownL_len ns ow; have hln := hT.len; omega))) ?_
                          refine Op.pures 1 [1, 6, 8, 9, 10] (L' := []) (e' := [(1, .slice a_ow ow.length n_ow), (6, .pointer (some ⟨b1029, 0, none⟩)), (8, .slice a1152 ((ns).length) n1153), (9, .slice (some ⟨b1183, o1184, none⟩) ((ownedL ns ow).length) n1173), (10, .int .i64 (k + 1))]) (by kernel_rfl) ?_
                          refine Op.goto 32 (by kernel_rfl) ?_
                          have s1201 : St h g (ids []) g1148 [ch1157, c1193, ch1170] h1191 := ((s1192.front 0 rfl).front 1 rfl)
                          exact ih32  ((dropT cur x1181 (-1)).1) (k + 1) _ _ (by omega) (by omega) (by omega) (by rw [hc, own_drop hT (nn_end hng (by assumption)) h6 hx1182]) o1194 s1201
                      · have c1202 : ¬ (k < ((ownedL ns ow).length : Int)) := of_decide_eq_false hb
                        clear hb
                        refine At.keep [1, 6, 8] ?_; show At _ _ _ [(1, .slice a_ow ow.length n_ow), (6, .pointer (some ⟨b1029, 0, none⟩)), (8, .slice a1152 ((ns).length) n1153)] _
                        refine At.reg (L := [(0, false)]) (by kernel_rfl) ?_
                        refine Op.pures 1 [1, 6, 8, 11] (L' := []) (e' := [(1, .slice a_ow ow.length n_ow), (6, .pointer (some ⟨b1029, 0, none⟩)), (8, .slice a1152 ((ns).length) n1153), (11, .int .i64 0)]) (by kernel_rfl) ?_
                        refine Op.goto 40 (by kernel_rfl) ?_
                        refine At.reg (L := [(0, false)]) (by kernel_rfl) ?_
                        refine Op.pures 1 [1, 6, 8, 11, 12] (L' := []) (e' := [(1, .slice a_ow ow.length n_ow), (6, .pointer (some ⟨b1029, 0, none⟩)), (8, .slice a1152 ((ns).length) n1153), (11, .int .i64 0), (12, .int .i64 0)]) (by kernel_rfl) ?_
                        refine Op.goto 41 (by kernel_rfl) ?_
                        have loop41 : ∀ (m : Nat) (n : Int) (j : Int) (h1203 : Heap) (hm : ns.length - j.toNat < m) (h8 : 0 ≤ j) (h9 : j ≤ ns.length) (hn0 : 0 ≤ n) (hn1 : n ≤ j) (hn : n = (cntO (ns.take j.toNat) ow : Int))     (s_loop411202 : St h g (ids []) g1148 [ch1157, c1177, ch1170] h1203), At (fctx Tryz.prog B 7 Tryz.f7 R) [] 41 [(1, .slice a_ow ow.length n_ow), (6, .pointer (some ⟨b1029, 0, none⟩)), (8, .slice a1152 ((ns).length) n1153), (11, .int .i64 n), (12, .int .i64 j)] h1203 := by
                          intro m; induction m with
                          | zero => intros; omega
                          | succ m ih41 =>
                            intro n j h1203 hm h8 h9 hn0 hn1 hn s_loop411202
                            refine At.reg (L := [(0, false), (1, false), (2, false), (3, false)]) (by kernel_rfl) ?_
                            refine Op.pures 4 [1, 6, 8, 11, 12, 102] (L' := []) (e' := [(1, .slice a_ow ow.length n_ow), (6, .pointer (some ⟨b1029, 0, none⟩)), (8, .slice a1152 ((ns).length) n1153), (11, .int .i64 n), (12, .int .i64 j), (102, .bool (decide (j < ((ns).length : Int))))]) (by kernel_rfl) ?_
                            refine Op.goto 42 (by kernel_rfl) ?_
                            refine At.cond (b := decide (j < ((ns).length : Int))) (c := .tmp 102) (by kernel_rfl) (by kernel_rfl) (by kernel_rfl) 43 58 (by kernel_rfl) (by kernel_rfl) (fun hb => ?_) (fun hb => ?_)
                            · have c1204 : j < ((ns).length : Int) := of_decide_eq_true hb
                              clear hb
                              refine At.keep [1, 6, 8, 11, 12] ?_; show At _ _ _ [(1, .slice a_ow ow.length n_ow), (6, .pointer (some ⟨b1029, 0, none⟩)), (8, .slice a1152 ((ns).length) n1153), (11, .int .i64 n), (12, .int .i64 j)] _
                              refine At.reg (L := [(0, false)]) (by kernel_rfl) ?_
                              refine Op.pures 1 [1, 6, 8, 11, 12, 13] (L' := []) (e' := [(1, .slice a_ow ow.length n_ow), (6, .pointer (some ⟨b1029, 0, none⟩)), (8, .slice a1152 ((ns).length) n1153), (11, .int .i64 n), (12, .int .i64 j), (13, .bool false)]) (by kernel_rfl) ?_
                              refine Op.goto 44 (by kernel_rfl) ?_
                              refine At.reg (L := [(0, false)]) (by kernel_rfl) ?_
                              refine Op.pures 1 [1, 6, 8, 11, 12, 13, 14] (L' := []) (e' := [(1, .slice a_ow ow.length n_ow), (6, .pointer (some ⟨b1029, 0, none⟩)), (8, .slice a1152 ((ns).length) n1153), (11, .int .i64 n), (12, .int .i64 j), (13, .bool false), (14, .int .i64 0)]) (by kernel_rfl) ?_
                              refine Op.goto 45 (by kernel_rfl) ?_
                              have loop45 : ∀ (m : Nat) (inn : Bool) (z : Int) (h1205 : Heap) (hm : ow.length - z.toNat < m) (h10 : 0 ≤ z) (h11 : z ≤ ow.length) (hin : inn = (ow.take z.toNat).any (fun c => decide (c = (atL ns j).Owner)))     (s_loop451204 : St h g (ids []) g1148 [ch1157, c1177, ch1170] h1205), At (fctx Tryz.prog B 7 Tryz.f7 R) [] 45 [(1, .slice a_ow ow.length n_ow), (6, .pointer (some ⟨b1029, 0, none⟩)), (8, .slice a1152 ((ns).length) n1153), (11, .int .i64 n), (12, .int .i64 j), (13, .bool inn), (14, .int .i64 z)] h1205 := by
                                intro m; induction m with
                                | zero => intros; omega
                                | succ m ih45 =>
                                  intro inn z h1205 hm h10 h11 hin s_loop451204
                                  refine At.reg (L := [(0, false), (1, false), (2, false), (3, false)]) (by kernel_rfl) ?_
                                  refine Op.pures 4 [1, 6, 8, 11, 12, 13, 14, 108] (L' := []) (e' := [(1, .slice a_ow ow.length n_ow), (6, .pointer (some ⟨b1029, 0, none⟩)), (8, .slice a1152 ((ns).length) n1153), (11, .int .i64 n), (12, .int .i64 j), (13, .bool inn), (14, .int .i64 z), (108, .bool (decide (z < (ow.length : Int))))]) (by kernel_rfl) ?_
                                  refine Op.goto 46 (by kernel_rfl) ?_
                                  refine At.cond (b := decide (z < (ow.length : Int))) (c := .tmp 108) (by kernel_rfl) (by kernel_rfl) (by kernel_rfl) 47 49 (by kernel_rfl) (by kernel_rfl) (fun hb => ?_) (fun hb => ?_)
                                  · have c1206 : z < (ow.length : Int) := of_decide_eq_true hb
                                    clear hb
                                    refine At.keep [1, 6, 8, 11, 12, 13, 14] ?_; show At _ _ _ [(1, .slice a_ow ow.length n_ow), (6, .pointer (some ⟨b1029, 0, none⟩)), (8, .slice a1152 ((ns).length) n1153), (11, .int .i64 n), (12, .int .i64 j), (13, .bool inn), (14, .int .i64 z)] _
                                    refine At.draw (by kernel_rfl) (fun _ => False) [(0, true), (1, true), (2, true), (3, true), (4, true), (6, true), (7, true), (8, true), (9, true), (5, true), (10, false), (11, true), (12, true), (13, true)] (by kernel_rfl) ?_
                                    refine Op.pures 2 [1, 6, 8, 11, 12, 13, 14, 112] (L' := [(2, true), (3, true), (4, true), (6, true), (7, true), (8, true), (9, true), (5, true), (10, false), (11, true), (12, true), (13, true)]) (e' := [(1, .slice a_ow ow.length n_ow), (6, .pointer (some ⟨b1029, 0, none⟩)), (8, .slice a1152 ((ns).length) n1153), (11, .int .i64 n), (12, .int .i64 j), (13, .bool inn), (14, .int .i64 z), (112, .bool inn)]) (by kernel_rfl) ?_
                                    refine Op.ways (b := inn) ⟨fun hb => ?_, fun hb => ?_⟩
                                    · refine Op.cast (e' := [(1, .slice a_ow ow.length n_ow), (6, .pointer (some ⟨b1029, 0, none⟩)), (8, .slice a1152 ((ns).length) n1153), (11, .int .i64 n), (12, .int .i64 j), (13, .bool true), (14, .int .i64 z), (112, .bool true)]) (by rw [hb]) ?_
                                      have c1207 : inn = true := hb
                                      clear hb
                                      refine Op.pures 12 [1, 6, 8, 11, 12, 13, 14] (L' := []) (e' := [(1, .slice a_ow ow.length n_ow), (6, .pointer (some ⟨b1029, 0, none⟩)), (8, .slice a1152 ((ns).length) n1153), (11, .int .i64 n), (12, .int .i64 j), (13, .bool true), (14, .int .i64 z)]) (by kernel_rfl) ?_
                                      refine Op.goto 48 (by kernel_rfl) ?_
                                      refine At.reg (L := [(0, false), (1, false), (2, false)]) (by kernel_rfl) ?_
                                      refine Op.pures 1 [1, 6, 8, 11, 12, 13, 14, 109] (L' := [(1, false), (2, false)]) (e' := [(1, .slice a_ow ow.length n_ow), (6, .pointer (some ⟨b1029, 0, none⟩)), (8, .slice a1152 ((ns).length) n1153), (11, .int .i64 n), (12, .int .i64 j), (13, .bool true), (14, .int .i64 z), (109, .int .i64 z)]) (by kernel_rfl) ?_
                                      refine Op.val (dst := some 110) (v := .int .i64 (IntKind.wrap .i64 (z + 1))) (v' := .int .i64 (z + 1)) (by kernel_rfl) (wrapEq_i64 (by omega) (by omega)) ?_
                                      refine Op.pures 1 [1, 6, 8, 11, 12, 13, 14] (L' := []) (e' := [(1, .slice a_ow ow.length n_ow), (6, .pointer (some ⟨b1029, 0, none⟩)), (8, .slice a1152 ((ns).length) n1153), (11, .int .i64 n), (12, .int .i64 j), (13, .bool true), (14, .int .i64 (z + 1))]) (by kernel_rfl) ?_
                                      refine Op.goto 45 (by kernel_rfl) ?_
                                      exact ih45  true (z + 1) _ (by omega) (by omega) (by omega) (by exact anyO_t hin h10 (by assumption))  s_loop451204
                                    · refine Op.cast (e' := [(1, .slice a_ow ow.length n_ow), (6, .pointer (some ⟨b1029, 0, none⟩)), (8, .slice a1152 ((ns).length) n1153), (11, .int .i64 n), (12, .int .i64 j), (13, .bool false), (14, .int .i64 z), (112, .bool false)]) (by rw [hb]) ?_
                                      have c1208 : inn = false := hb
                                      clear hb
                                      refine Op.pures 2 [1, 6, 8, 11, 12, 13, 14, 112, 113, 114] (L' := [(4, true), (6, true), (7, true), (8, true), (9, true), (5, true), (10, false), (11, true), (12, true), (13, true)]) (e' := [(1, .slice a_ow ow.length n_ow), (6, .pointer (some ⟨b1029, 0, none⟩)), (8, .slice a1152 ((ns).length) n1153), (11, .int .i64 n), (12, .int .i64 j), (13, .bool false), (14, .int .i64 z), (112, .bool false), (113, .slice a_ow ow.length n_ow), (114, .int .i64 z)]) (by kernel_rfl) ?_
                                      obtain ⟨x1209, hx1210⟩ : ∃ c, ow[(z : Int).toNat]? = some c := ⟨_, List.getElem?_eq_getElem (by omega)⟩
                                      obtain ⟨b1211, o1212, cu1213, fz1214, ha1215, hb1216, hk1217⟩ := SlR.at_ h_ow _ hx1210
                                      cases ha1215
                                      refine Op.idx (T := 44) (E := 3) (sz := 1) (by_ := 8) (n := ow.length) (c := n_ow) (k := .i64) (x := (.tmp 113)) (ix := (.tmp 114)) (dst := 115) (bk := b1211) (o := o1212) (m := z) (by kernel_rfl) (by kernel_rfl) (by kernel_rfl) (by kernel_rfl) (by omega) (by omega) ?_
                                      replace hk1217 : cut _ _ _ = [.int .i64 x1209] := hk1217
                                      refine Op.pures 2 [1, 6, 8, 11, 12, 13, 14, 112, 115, 117, 118] (L' := [(8, true), (9, true), (5, true), (10, false), (11, true), (12, true), (13, true)]) (e' := [(1, .slice (some ⟨b1211, o1212, none⟩) ow.length n_ow), (6, .pointer (some ⟨b1029, 0, none⟩)), (8, .slice a1152 ((ns).length) n1153), (11, .int .i64 n), (12, .int .i64 j), (13, .bool false), (14, .int .i64 z), (112, .bool false), (115, .pointer (some ⟨b1211, o1212 + (z : Int).toNat * 1, none⟩)), (117, .slice a1152 ((ns).length) n1153), (118, .int .i64 j)]) (by kernel_rfl) ?_
                                      obtain ⟨x1218, hx1219⟩ : ∃ c, ns[(j : Int).toNat]? = some c := ⟨_, List.getElem?_eq_getElem (by omega)⟩
                                      obtain ⟨b1220, o1221, cu1222, fz1223, ha1224, hb1225, hk1226⟩ := SlR.at_ hf1151 _ hx1219
                                      cases ha1224
                                      refine Op.idx (T := 52) (E := 59) (sz := 6) (by_ := 72) (n := ((ns).length)) (c := n1153) (k := .i64) (x := (.tmp 117)) (ix := (.tmp 118)) (dst := 119) (bk := b1220) (o := o1221) (m := j) (by kernel_rfl) (by kernel_rfl) (by kernel_rfl) (by kernel_rfl) (by omega) (by omega) ?_
                                      obtain ⟨v1227, hv1228, hk1226⟩ := hk1226
                                      obtain ⟨a1229, n1230, rfl⟩ := hv1228.form
                                      refine Op.pures 1 [1, 6, 8, 11, 12, 13, 14, 112, 115, 120] (L' := [(5, true), (10, false), (11, true), (12, true), (13, true)]) (e' := [(1, .slice (some ⟨b1211, o1212, none⟩) ow.length n_ow), (6, .pointer (some ⟨b1029, 0, none⟩)), (8, .slice (some ⟨b1220, o1221, none⟩) ((ns).length) n1153), (11, .int .i64 n), (12, .int .i64 j), (13, .bool false), (14, .int .i64 z), (112, .bool false), (115, .pointer (some ⟨b1211, o1212 + (z : Int).toNat * 1, none⟩)), (120, .pointer (some ⟨b1220, o1221 + (j : Int).toNat * 6 + 3, none⟩))]) (by kernel_rfl) ?_
                                      refine Op.loadF (T := 3) (x := (.tmp 115)) (o := o1212 + (z : Int).toNat * 1) (d := 116) (n := 1) (v := .int .i64 x1209) (by kernel_rfl) (by kernel_rfl) (by kernel_rfl) (fun h => h) (s_loop451204.sub _ _ hb1216) (cut_get hk1217 0 rfl) ?_
                                      refine Op.load (T := 3) (x := (.tmp 120)) (o := o1221 + (j : Int).toNat * 6 + 3) (d := 121) (n := 1) (v := .int .i64 x1218.Owner) (by kernel_rfl) (by kernel_rfl) (by kernel_rfl) (s_loop451204.sub _ _ hb1225) (cut_get hk1226 3 rfl) ?_
                                      refine Op.pures 3 [1, 6, 8, 11, 12, 13, 14] (L' := []) (e' := [(1, .slice (some ⟨b1211, o1212, none⟩) ow.length n_ow), (6, .pointer (some ⟨b1029, 0, none⟩)), (8, .slice (some ⟨b1220, o1221, none⟩) ((ns).length) n1153), (11, .int .i64 n), (12, .int .i64 j), (13, .bool (x1209 == x1218.Owner)), (14, .int .i64 z)]) (by kernel_rfl) ?_
                                      refine Op.goto 48 (by kernel_rfl) ?_
                                      refine At.reg (L := [(0, false), (1, false), (2, false)]) (by kernel_rfl) ?_
                                      refine Op.pures 1 [1, 6, 8, 11, 12, 13, 14, 109] (L' := [(1, false), (2, false)]) (e' := [(1, .slice (some ⟨b1211, o1212, none⟩) ow.length n_ow), (6, .pointer (some ⟨b1029, 0, none⟩)), (8, .slice (some ⟨b1220, o1221, none⟩) ((ns).length) n1153), (11, .int .i64 n), (12, .int .i64 j), (13, .bool (x1209 == x1218.Owner)), (14, .int .i64 z), (109, .int .i64 z)]) (by kernel_rfl) ?_
                                      refine Op.val (dst := some 110) (v := .int .i64 (IntKind.wrap .i64 (z + 1))) (v' := .int .i64 (z + 1)) (by kernel_rfl) (wrapEq_i64 (by omega) (by omega)) ?_
                                      refine Op.pures 1 [1, 6, 8, 11, 12, 13, 14] (L' := []) (e' := [(1, .slice (some ⟨b1211, o1212, none⟩) ow.length n_ow), (6, .pointer (some ⟨b1029, 0, none⟩)), (8, .slice (some ⟨b1220, o1221, none⟩) ((ns).length) n1153), (11, .int .i64 n), (12, .int .i64 j), (13, .bool (x1209 == x1218.Owner)), (14, .int .i64 (z + 1))]) (by kernel_rfl) ?_
                                      refine Op.goto 45 (by kernel_rfl) ?_
                                      exact ih45  (x1209 == x1218.Owner) (z + 1) _ (by omega) (by omega) (by omega) (by exact anyO_s hin (by assumption) h10 hx1210 hx1219)  s_loop451204
                                  · have c1231 : ¬ (z < (ow.length : Int)) := of_decide_eq_false hb
                                    clear hb
                                    refine At.keep [1, 6, 8, 11, 12, 13] ?_; show At _ _ _ [(1, .slice a_ow ow.length n_ow), (6, .pointer (some ⟨b1029, 0, none⟩)), (8, .slice a1152 ((ns).length) n1153), (11, .int .i64 n), (12, .int .i64 j), (13, .bool inn)] _
                                    refine At.reg (L := [(0, false), (1, false), (2, false), (3, false), (4, false), (5, false), (6, false), (7, false), (8, false), (9, false), (10, false), (11, false), (12, false)]) (by kernel_rfl) ?_
                                    refine Op.pures 3 [1, 6, 8, 11, 12, 13, 125, 126, 127] (L' := [(3, false), (4, false), (5, false), (6, false), (7, false), (8, false), (9, false), (10, false), (11, false), (12, false)]) (e' := [(1, .slice a_ow ow.length n_ow), (6, .pointer (some ⟨b1029, 0, none⟩)), (8, .slice a1152 ((ns).length) n1153), (11, .int .i64 n), (12, .int .i64 j), (13, .bool inn), (125, .pointer (some ⟨b1029, 0, none⟩)), (126, .slice a1152 ((ns).length) n1153), (127, .int .i64 j)]) (by kernel_rfl) ?_
                                    obtain ⟨x1232, hx1233⟩ : ∃ c, ns[(j : Int).toNat]? = some c := ⟨_, List.getElem?_eq_getElem (by omega)⟩
                                    obtain ⟨b1234, o1235, cu1236, fz1237, ha1238, hb1239, hk1240⟩ := SlR.at_ hf1151 _ hx1233
                                    cases ha1238
                                    refine Op.idx (T := 52) (E := 59) (sz := 6) (by_ := 72) (n := ((ns).length)) (c := n1153) (k := .i64) (x := (.tmp 126)) (ix := (.tmp 127)) (dst := 128) (bk := b1234) (o := o1235) (m := j) (by kernel_rfl) (by kernel_rfl) (by kernel_rfl) (by kernel_rfl) (by omega) (by omega) ?_
                                    obtain ⟨v1241, hv1242, hk1240⟩ := hk1240
                                    obtain ⟨a1243, n1244, rfl⟩ := hv1242.form
                                    refine Op.pures 1 [1, 6, 8, 11, 12, 13, 125, 129] (L' := [(5, false), (6, false), (7, false), (8, false), (9, false), (10, false), (11, false), (12, false)]) (e' := [(1, .slice a_ow ow.length n_ow), (6, .pointer (some ⟨b1029, 0, none⟩)), (8, .slice (some ⟨b1234, o1235, none⟩) ((ns).length) n1153), (11, .int .i64 n), (12, .int .i64 j), (13, .bool inn), (125, .pointer (some ⟨b1029, 0, none⟩)), (129, .pointer (some ⟨b1234, o1235 + (j : Int).toNat * 6, none⟩))]) (by kernel_rfl) ?_
                                    refine Op.load (T := 9) (x := (.tmp 129)) (o := o1235 + (j : Int).toNat * 6) (d := 130) (n := 1) (v := .string (mkS x1232.Path)) (by kernel_rfl) (by kernel_rfl) (by kernel_rfl) (s_loop451204.sub _ _ hb1239) (cut_get hk1240 0 rfl) ?_
                                    have s1245 : St h g (ids []) g1148 [c1177, ch1157, ch1170] h1205 := ((s_loop451204.front 0 rfl).front 1 rfl)
                                    have hl1246 := s1245.frzle
                                    have hz1247 := IsTree.frz o1178 s1245 (by intro p hp; simp only [List.mem_append, hp, true_or, or_true])
                                    refine Op.lend (dst := some 131) (f := 34) (args := #[.pointer (some ⟨b1029, 0, none⟩), .string (mkS x1232.Path)]) (cf := (c1177 : Chunk)) (Lc := []) (L := [ch1157, ch1170]) (by kernel_rfl) s1245 (getF _ _ _ s1245.frzsub (hG.mono hl1246) b1029 cur hz1247 x1232.Path (by ((try dsimp only) <;> ((rw [hc]; exact gone_b (hT.b (by have hsm := (small (by assumption)).1; omega)))))) (by ((try dsimp only) <;> ((have := (hT.node _ (List.mem_of_getElem? hx1233)).1; have := pOk_len this; omega)))) ) (fun _ _ _ hp => by obtain ⟨_, _, _, _, hgg, _⟩ := hp; exact hgg) (fun _ _ h => absurd h (ids_nil _)) ?_
                                    rintro _ _ h1248 s1249 ⟨v1250, ch1251, rfl, R1252, hgg, rfl⟩; clear hgg
                                    obtain ⟨a1253, n1254, rfl⟩ := R1252.form
                                    replace R1252 := R1252.flat (fun _ _ _ _ h => h) (g' := g1148)
                                    refine Op.pures 3 [1, 6, 8, 11, 12, 13, 132, 133] (L' := [(10, false), (11, false), (12, false)]) (e' := [(1, .slice a_ow ow.length n_ow), (6, .pointer (some ⟨b1029, 0, none⟩)), (8, .slice (some ⟨b1234, o1235, none⟩) ((ns).length) n1153), (11, .int .i64 n), (12, .int .i64 j), (13, .bool inn), (132, .agg #[.string (mkS (((getT cur x1232.Path).1).Path)), .slice a1253 ((((getT cur x1232.Path).1).Data).length) n1254, .int .i64 (((getT cur x1232.Path).1).Version), .int .i64 (((getT cur x1232.Path).1).Owner), .int .i64 (((getT cur x1232.Path).1).Next), .int .i64 (((getT cur x1232.Path).1).Born)]), (133, .int .i64 ((getT cur x1232.Path).2))]) (by kernel_rfl) ?_
                                    refine Op.alloc (T := 59) (dst := 15) (cs := #[.string (mkS []), .slice none 0 0, .int .i64 0, .int .i64 0, .int .i64 0, .int .i64 0]) (by kernel_rfl) (by kernel_rfl) s1249 ?_
                                    intro b1257 h1258 s1259
                                    refine Op.store (T := 59) (x := (.tmp 15)) (y := (.tmp 132)) (b := b1257) (o := 0) (vs := [.string (mkS (((getT cur x1232.Path).1).Path)), .slice a1253 ((((getT cur x1232.Path).1).Data).length) n1254, .int .i64 (((getT cur x1232.Path).1).Version), .int .i64 (((getT cur x1232.Path).1).Owner), .int .i64 (((getT cur x1232.Path).1).Next), .int .i64 (((getT cur x1232.Path).1).Born)]) (a? := true) (n := 6) (by kernel_rfl) (by kernel_rfl) (by kernel_rfl) (by kernel_rfl) rfl (by simp [Value.oneCell']) s1259 0 rfl (Nat.le_of_ble_eq_true (by kernel_rfl)) (cs := #[.string (mkS []), .slice none 0 0, .int .i64 0, .int .i64 0, .int .i64 0, .int .i64 0]) (cs' := #[.string (mkS (((getT cur x1232.Path).1).Path)), .slice a1253 ((((getT cur x1232.Path).1).Data).length) n1254, .int .i64 (((getT cur x1232.Path).1).Version), .int .i64 (((getT cur x1232.Path).1).Owner), .int .i64 (((getT cur x1232.Path).1).Next), .int .i64 (((getT cur x1232.Path).1).Born)]) (by kernel_rfl) (fun _ => trivial) ?_
                                    intro h1260 s1261
                                    refine Op.pures 1 [1, 6, 8, 11, 12, 13, 15, 16] (L' := []) (e' := [(1, .slice a_ow ow.length n_ow), (6, .pointer (some ⟨b1029, 0, none⟩)), (8, .slice (some ⟨b1234, o1235, none⟩) ((ns).length) n1153), (11, .int .i64 n), (12, .int .i64 j), (13, .bool inn), (15, .pointer (some ⟨b1257, 0, none⟩)), (16, .int .i64 ((getT cur x1232.Path).2))]) (by kernel_rfl) ?_
                                    refine Op.goto 50 (by kernel_rfl) ?_
                                    refine At.draw (by kernel_rfl) (fun _ => False) [(0, true), (1, true), (2, true), (3, true), (4, true), (5, true), (6, true), (7, true), (9, true), (10, true), (11, true), (8, true), (12, false), (13, false), (14, true), (15, true), (16, true)] (by kernel_rfl) ?_
                                    refine Op.pures 5 [1, 6, 8, 11, 12, 13, 15, 138] (L' := [(5, true), (6, true), (7, true), (9, true), (10, true), (11, true), (8, true), (12, false), (13, false), (14, true), (15, true), (16, true)]) (e' := [(1, .slice a_ow ow.length n_ow), (6, .pointer (some ⟨b1029, 0, none⟩)), (8, .slice (some ⟨b1234, o1235, none⟩) ((ns).length) n1153), (11, .int .i64 n), (12, .int .i64 j), (13, .bool inn), (15, .pointer (some ⟨b1257, 0, none⟩)), (138, .bool (inn != (((getT cur x1232.Path).2) == (100 : Int))))]) (by kernel_rfl) ?_
                                    refine Op.ways (b := inn != (((getT cur x1232.Path).2) == (100 : Int))) ⟨fun hb => ?_, fun hb => ?_⟩
                                    · refine Op.cast (e' := [(1, .slice a_ow ow.length n_ow), (6, .pointer (some ⟨b1029, 0, none⟩)), (8, .slice (some ⟨b1234, o1235, none⟩) ((ns).length) n1153), (11, .int .i64 n), (12, .int .i64 j), (13, .bool inn), (15, .pointer (some ⟨b1257, 0, none⟩)), (138, .bool true)]) (by rw [hb]) ?_
                                      have c1262 : ¬ (inn = (((getT cur x1232.Path).2) == (100 : Int))) := bneT hb
                                      clear hb
                                      refine Op.pures 12 [1, 6, 8, 11, 12, 13, 150] (L' := []) (e' := [(1, .slice a_ow ow.length n_ow), (6, .pointer (some ⟨b1029, 0, none⟩)), (8, .slice (some ⟨b1234, o1235, none⟩) ((ns).length) n1153), (11, .int .i64 n), (12, .int .i64 j), (13, .bool inn), (150, .bool true)]) (by kernel_rfl) ?_
                                      refine Op.goto 51 (by kernel_rfl) ?_
                                      refine At.condT (c := .tmp 150) (by kernel_rfl) (by kernel_rfl) (by kernel_rfl) 52 (by kernel_rfl) ?_
                                      refine At.reg (L := [(0, false)]) (by kernel_rfl) ?_
                                      refine Op.pures 1 [4] (L' := []) (e' := [(4, .bool false)]) (by kernel_rfl) ?_
                                      refine Op.goto 53 (by kernel_rfl) ?_
                                      refine At.ret (f := Tryz.f7) (v := .bool false) (by kernel_rfl) (by kernel_rfl) ?_
                                      have s1263 : St h g (ids []) g1148 [] h1260 := (s1261).drop.drop.drop.drop.drop
                                      have s1264 : St h g (ids []) g [] h1260 := s1263.unfrz
                                      refine hR _ _ _ _ s1264 ⟨?_, rfl, rfl⟩
                                      exact (eqB (by exact absurd (own_e hT (hc.trans (own_end (by assumption))) hx1233 (own_in hx1233 hin (by assumption))).1 (by assumption)))
                                    · refine Op.cast (e' := [(1, .slice a_ow ow.length n_ow), (6, .pointer (some ⟨b1029, 0, none⟩)), (8, .slice (some ⟨b1234, o1235, none⟩) ((ns).length) n1153), (11, .int .i64 n), (12, .int .i64 j), (13, .bool inn), (15, .pointer (some ⟨b1257, 0, none⟩)), (138, .bool false)]) (by rw [hb]) ?_
                                      have c1265 : inn = (((getT cur x1232.Path).2) == (100 : Int)) := bneF hb
                                      clear hb
                                      refine Op.pures 3 [1, 6, 8, 11, 12, 13, 15, 138, 141] (L' := [(9, true), (10, true), (11, true), (8, true), (12, false), (13, false), (14, true), (15, true), (16, true)]) (e' := [(1, .slice a_ow ow.length n_ow), (6, .pointer (some ⟨b1029, 0, none⟩)), (8, .slice (some ⟨b1234, o1235, none⟩) ((ns).length) n1153), (11, .int .i64 n), (12, .int .i64 j), (13, .bool inn), (15, .pointer (some ⟨b1257, 0, none⟩)), (138, .bool false), (141, .bool (!inn))]) (by kernel_rfl) ?_
                                      refine Op.ways (b := !inn) ⟨fun hb => ?_, fun hb => ?_⟩
                                      · refine Op.cast (e' := [(1, .slice a_ow ow.length n_ow), (6, .pointer (some ⟨b1029, 0, none⟩)), (8, .slice (some ⟨b1234, o1235, none⟩) ((ns).length) n1153), (11, .int .i64 n), (12, .int .i64 j), (13, .bool inn), (15, .pointer (some ⟨b1257, 0, none⟩)), (138, .bool false), (141, .bool true)]) (by rw [hb]) ?_
                                        have c1266 : inn = false := (notT hb)
                                        clear hb
                                        refine Op.pures 2 [1, 6, 8, 11, 12, 13, 15, 138, 141, 143, 144] (L' := [(11, true), (8, true), (12, false), (13, false), (14, true), (15, true), (16, true)]) (e' := [(1, .slice a_ow ow.length n_ow), (6, .pointer (some ⟨b1029, 0, none⟩)), (8, .slice (some ⟨b1234, o1235, none⟩) ((ns).length) n1153), (11, .int .i64 n), (12, .int .i64 j), (13, .bool inn), (15, .pointer (some ⟨b1257, 0, none⟩)), (138, .bool false), (141, .bool true), (143, .slice (some ⟨b1234, o1235, none⟩) ((ns).length) n1153), (144, .int .i64 j)]) (by kernel_rfl) ?_
                                        obtain ⟨b1269, o1270, cu1271, fz1272, ha1273, hb1274, hk1275⟩ := SlR.at_ hf1151 _ hx1233
                                        cases ha1273
                                        refine Op.idx (T := 52) (E := 59) (sz := 6) (by_ := 72) (n := ((ns).length)) (c := n1153) (k := .i64) (x := (.tmp 143)) (ix := (.tmp 144)) (dst := 145) (bk := b1234) (o := o1235) (m := j) (by kernel_rfl) (by kernel_rfl) (by kernel_rfl) (by kernel_rfl) (by omega) (by omega) ?_
                                        obtain ⟨v1276, hv1277, hk1275⟩ := hk1275
                                        obtain ⟨a1278, n1279, rfl⟩ := hv1277.form
                                        refine Op.loadAF (T := 59) (x := (.tmp 15)) (o := 0) (d := 142) (n := 6) (vs := [.string (mkS (((getT cur x1232.Path).1).Path)), .slice a1253 ((((getT cur x1232.Path).1).Data).length) n1254, .int .i64 (((getT cur x1232.Path).1).Version), .int .i64 (((getT cur x1232.Path).1).Owner), .int .i64 (((getT cur x1232.Path).1).Next), .int .i64 (((getT cur x1232.Path).1).Born)]) (by kernel_rfl) (by kernel_rfl) (by kernel_rfl) (fun h => h) (s1261.chunk 0 rfl) (by kernel_rfl) rfl ?_
                                        refine Op.loadA (T := 59) (x := (.tmp 145)) (o := o1235 + (j : Int).toNat * 6) (d := 146) (n := 6) (vs := [.string (mkS x1232.Path), .slice a1278 x1232.Data.length n1279, .int .i64 x1232.Version, .int .i64 x1232.Owner, .int .i64 x1232.Next, .int .i64 x1232.Born]) (by kernel_rfl) (by kernel_rfl) (by kernel_rfl) (s1261.sub _ _ hb1274) (hk1275) rfl ?_
                                        have s1280 : St h g (ids []) g1148 [ch1251, [(b1257, Obj.cells #[.string (mkS (((getT cur x1232.Path).1).Path)), .slice a1253 ((((getT cur x1232.Path).1).Data).length) n1254, .int .i64 (((getT cur x1232.Path).1).Version), .int .i64 (((getT cur x1232.Path).1).Owner), .int .i64 (((getT cur x1232.Path).1).Next), .int .i64 (((getT cur x1232.Path).1).Born)] 59 (0, 0))], c1177, ch1157, ch1170] h1260 := (((s1261.front 1 rfl).front 1 rfl).front 2 rfl)
                                        have hl1281 := s1280.frzle
                                        have hz1282 := R1252.frz s1280
                                        refine Op.lend (dst := some 147) (f := 35) (args := #[.agg #[.string (mkS (((getT cur x1232.Path).1).Path)), .slice a1253 ((((getT cur x1232.Path).1).Data).length) n1254, .int .i64 (((getT cur x1232.Path).1).Version), .int .i64 (((getT cur x1232.Path).1).Owner), .int .i64 (((getT cur x1232.Path).1).Next), .int .i64 (((getT cur x1232.Path).1).Born)], .agg #[.string (mkS x1232.Path), .slice a1278 x1232.Data.length n1279, .int .i64 x1232.Version, .int .i64 x1232.Owner, .int .i64 x1232.Next, .int .i64 x1232.Born]]) (cf := (ch1251 : Chunk)) (Lc := []) (L := [[(b1257, Obj.cells #[.string (mkS (((getT cur x1232.Path).1).Path)), .slice a1253 ((((getT cur x1232.Path).1).Data).length) n1254, .int .i64 (((getT cur x1232.Path).1).Version), .int .i64 (((getT cur x1232.Path).1).Owner), .int .i64 (((getT cur x1232.Path).1).Next), .int .i64 (((getT cur x1232.Path).1).Born)] 59 (0, 0))], c1177, ch1157, ch1170]) (by kernel_rfl) s1280 (sameLeaf _ _ _ s1280.frzsub (hG.mono hl1281) ((getT cur x1232.Path).1) _ hz1282 x1232 _ (hv1277.mono hl1281) (by ((try dsimp only) <;> ((have h9 := getT_data (ns := cur) (by rw [hc]; exact gone_b (hT.b (by have hsm := (small (by assumption)).1; omega))) x1232.Path; omega)))) ) (fun _ _ _ hp => by obtain ⟨_, hgg, _⟩ := hp; exact hgg) (fun _ _ h => absurd h (ids_nil _)) ?_
                                        rintro _ _ h1283 s1284 ⟨rfl, hgg, rfl⟩; clear hgg
                                        refine Op.pures 3 [1, 6, 8, 11, 12, 13, 150] (L' := []) (e' := [(1, .slice a_ow ow.length n_ow), (6, .pointer (some ⟨b1029, 0, none⟩)), (8, .slice (some ⟨b1234, o1235, none⟩) ((ns).length) n1153), (11, .int .i64 n), (12, .int .i64 j), (13, .bool inn), (150, .bool (!(decide (((getT cur x1232.Path).1) = x1232))))]) (by kernel_rfl) ?_
                                        refine Op.goto 51 (by kernel_rfl) ?_
                                        refine At.cond (b := !(decide (((getT cur x1232.Path).1) = x1232))) (c := .tmp 150) (by kernel_rfl) (by kernel_rfl) (by kernel_rfl) 52 54 (by kernel_rfl) (by kernel_rfl) (fun hb => ?_) (fun hb => ?_)
                                        · have c1287 : ¬ (((getT cur x1232.Path).1) = x1232) := of_decide_eq_false (notT hb)
                                          clear hb
                                          refine At.keep [] ?_; show At _ _ _ [] _
                                          refine At.reg (L := [(0, false)]) (by kernel_rfl) ?_
                                          refine Op.pures 1 [4] (L' := []) (e' := [(4, .bool false)]) (by kernel_rfl) ?_
                                          refine Op.goto 53 (by kernel_rfl) ?_
                                          refine At.ret (f := Tryz.f7) (v := .bool false) (by kernel_rfl) (by kernel_rfl) ?_
                                          have s1288 : St h g (ids []) g1148 [] h1283 := (s1284).drop.drop.drop.drop.drop
                                          have s1289 : St h g (ids []) g [] h1283 := s1288.unfrz
                                          refine hR _ _ _ _ s1289 ⟨?_, rfl, rfl⟩
                                          exact (eqB (by exact absurd ((own_e hT (hc.trans (own_end (by assumption))) hx1233 (own_in hx1233 hin (by assumption))).2 (by assumption)) c1287))
                                        · have c1290 : ((getT cur x1232.Path).1) = x1232 := of_decide_eq_true (notF hb)
                                          clear hb
                                          refine At.keep [1, 6, 8, 11, 12, 13] ?_; show At _ _ _ [(1, .slice a_ow ow.length n_ow), (6, .pointer (some ⟨b1029, 0, none⟩)), (8, .slice (some ⟨b1234, o1235, none⟩) ((ns).length) n1153), (11, .int .i64 n), (12, .int .i64 j), (13, .bool inn)] _
                                          refine At.reg (L := [(0, false), (1, false)]) (by kernel_rfl) ?_
                                          refine Op.pures 2 [1, 6, 8, 11, 12, 152] (L' := []) (e' := [(1, .slice a_ow ow.length n_ow), (6, .pointer (some ⟨b1029, 0, none⟩)), (8, .slice (some ⟨b1234, o1235, none⟩) ((ns).length) n1153), (11, .int .i64 n), (12, .int .i64 j), (152, .bool (!inn))]) (by kernel_rfl) ?_
                                          refine Op.goto 55 (by kernel_rfl) ?_
                                          refine At.cond (b := !inn) (c := .tmp 152) (by kernel_rfl) (by kernel_rfl) (by kernel_rfl) 56 57 (by kernel_rfl) (by kernel_rfl) (fun hb => ?_) (fun hb => ?_)
                                          · have c1291 : inn = false := (notT hb)
                                            clear hb
                                            refine At.keep [1, 6, 8, 11, 12] ?_; show At _ _ _ [(1, .slice a_ow ow.length n_ow), (6, .pointer (some ⟨b1029, 0, none⟩)), (8, .slice (some ⟨b1234, o1235, none⟩) ((ns).length) n1153), (11, .int .i64 n), (12, .int .i64 j)] _
                                            refine At.reg (L := [(0, false), (1, false), (2, false)]) (by kernel_rfl) ?_
                                            refine Op.pures 1 [1, 6, 8, 11, 12, 153] (L' := [(1, false), (2, false)]) (e' := [(1, .slice a_ow ow.length n_ow), (6, .pointer (some ⟨b1029, 0, none⟩)), (8, .slice (some ⟨b1234, o1235, none⟩) ((ns).length) n1153), (11, .int .i64 n), (12, .int .i64 j), (153, .int .i64 n)]) (by kernel_rfl) ?_
                                            refine Op.val (dst := some 154) (v := .int .i64 (IntKind.wrap .i64 (n + 1))) (v' := .int .i64 (n + 1)) (by kernel_rfl) (wrapEq_i64 (by omega) (by (have hln := hT.len; omega))) ?_
                                            refine Op.pures 1 [1, 6, 8, 11, 12] (L' := []) (e' := [(1, .slice a_ow ow.length n_ow), (6, .pointer (some ⟨b1029, 0, none⟩)), (8, .slice (some ⟨b1234, o1235, none⟩) ((ns).length) n1153), (11, .int .i64 (n + 1)), (12, .int .i64 j)]) (by kernel_rfl) ?_
                                            refine Op.goto 57 (by kernel_rfl) ?_
                                            refine At.reg (L := [(0, false), (1, false), (2, false)]) (by kernel_rfl) ?_
                                            refine Op.pures 1 [1, 6, 8, 11, 12, 103] (L' := [(1, false), (2, false)]) (e' := [(1, .slice a_ow ow.length n_ow), (6, .pointer (some ⟨b1029, 0, none⟩)), (8, .slice (some ⟨b1234, o1235, none⟩) ((ns).length) n1153), (11, .int .i64 (n + 1)), (12, .int .i64 j), (103, .int .i64 j)]) (by kernel_rfl) ?_
                                            refine Op.val (dst := some 104) (v := .int .i64 (IntKind.wrap .i64 (j + 1))) (v' := .int .i64 (j + 1)) (by kernel_rfl) (wrapEq_i64 (by omega) (by (have hln := hT.len; omega))) ?_
                                            refine Op.pures 1 [1, 6, 8, 11, 12] (L' := []) (e' := [(1, .slice a_ow ow.length n_ow), (6, .pointer (some ⟨b1029, 0, none⟩)), (8, .slice (some ⟨b1234, o1235, none⟩) ((ns).length) n1153), (11, .int .i64 (n + 1)), (12, .int .i64 (j + 1))]) (by kernel_rfl) ?_
                                            refine Op.goto 41 (by kernel_rfl) ?_
                                            have s1292 : St h g (ids []) g1148 [ch1251, [(b1257, Obj.cells #[.string (mkS (((getT cur x1232.Path).1).Path)), .slice a1253 ((((getT cur x1232.Path).1).Data).length) n1254, .int .i64 (((getT cur x1232.Path).1).Version), .int .i64 (((getT cur x1232.Path).1).Owner), .int .i64 (((getT cur x1232.Path).1).Next), .int .i64 (((getT cur x1232.Path).1).Born)] 59 (0, 0))], ch1157, c1177, ch1170] h1283 := ((((s1284.front 2 rfl).front 3 rfl).front 3 rfl).front 3 rfl)
                                            have s1293 : St h g (ids []) g1148 [ch1157, c1177, ch1170] h1283 := (s1292).drop.drop
                                            exact ih41  (n + 1) (j + 1) _ (by omega) (by omega) (by omega) (by omega) (by omega) (by exact cntO_f hn h8 hx1233 ((own_in hx1233 hin (by assumption)).trans (by assumption)))  s1293
                                          · have c1294 : inn = true := (notF hb)
                                            clear hb
                                            refine At.keep [1, 6, 8, 11, 12] ?_; show At _ _ _ [(1, .slice a_ow ow.length n_ow), (6, .pointer (some ⟨b1029, 0, none⟩)), (8, .slice (some ⟨b1234, o1235, none⟩) ((ns).length) n1153), (11, .int .i64 n), (12, .int .i64 j)] _
                                            refine At.reg (L := [(0, false), (1, false), (2, false)]) (by kernel_rfl) ?_
                                            refine Op.pures 1 [1, 6, 8, 11, 12, 103] (L' := [(1, false), (2, false)]) (e' := [(1, .slice a_ow ow.length n_ow), (6, .pointer (some ⟨b1029, 0, none⟩)), (8, .slice (some ⟨b1234, o1235, none⟩) ((ns).length) n1153), (11, .int .i64 n), (12, .int .i64 j), (103, .int .i64 j)]) (by kernel_rfl) ?_
                                            refine Op.val (dst := some 104) (v := .int .i64 (IntKind.wrap .i64 (j + 1))) (v' := .int .i64 (j + 1)) (by kernel_rfl) (wrapEq_i64 (by omega) (by (have hln := hT.len; omega))) ?_
                                            refine Op.pures 1 [1, 6, 8, 11, 12] (L' := []) (e' := [(1, .slice a_ow ow.length n_ow), (6, .pointer (some ⟨b1029, 0, none⟩)), (8, .slice (some ⟨b1234, o1235, none⟩) ((ns).length) n1153), (11, .int .i64 n), (12, .int .i64 (j + 1))]) (by kernel_rfl) ?_
                                            refine Op.goto 41 (by kernel_rfl) ?_
                                            have s1295 : St h g (ids []) g1148 [ch1251, [(b1257, Obj.cells #[.string (mkS (((getT cur x1232.Path).1).Path)), .slice a1253 ((((getT cur x1232.Path).1).Data).length) n1254, .int .i64 (((getT cur x1232.Path).1).Version), .int .i64 (((getT cur x1232.Path).1).Owner), .int .i64 (((getT cur x1232.Path).1).Next), .int .i64 (((getT cur x1232.Path).1).Born)] 59 (0, 0))], ch1157, c1177, ch1170] h1283 := ((((s1284.front 2 rfl).front 3 rfl).front 3 rfl).front 3 rfl)
                                            have s1296 : St h g (ids []) g1148 [ch1157, c1177, ch1170] h1283 := (s1295).drop.drop
                                            exact ih41  n (j + 1) _ (by omega) (by omega) (by omega) (by omega) (by omega) (by exact cntO_t hn h8 hx1233 ((own_in hx1233 hin (by assumption)).trans (by assumption)))  s1296
                                      · refine Op.cast (e' := [(1, .slice a_ow ow.length n_ow), (6, .pointer (some ⟨b1029, 0, none⟩)), (8, .slice (some ⟨b1234, o1235, none⟩) ((ns).length) n1153), (11, .int .i64 n), (12, .int .i64 j), (13, .bool inn), (15, .pointer (some ⟨b1257, 0, none⟩)), (138, .bool false), (141, .bool false)]) (by rw [hb]) ?_
                                        have c1297 : inn = true := (notF hb)
                                        clear hb
                                        refine Op.pures 9 [1, 6, 8, 11, 12, 13, 150] (L' := []) (e' := [(1, .slice a_ow ow.length n_ow), (6, .pointer (some ⟨b1029, 0, none⟩)), (8, .slice (some ⟨b1234, o1235, none⟩) ((ns).length) n1153), (11, .int .i64 n), (12, .int .i64 j), (13, .bool inn), (150, .bool false)]) (by kernel_rfl) ?_
                                        refine Op.goto 51 (by kernel_rfl) ?_
                                        refine At.condF (c := .tmp 150) (by kernel_rfl) (by kernel_rfl) (by kernel_rfl) 54 (by kernel_rfl) ?_
                                        refine At.reg (L := [(0, false), (1, false)]) (by kernel_rfl) ?_
                                        refine Op.pures 2 [1, 6, 8, 11, 12, 152] (L' := []) (e' := [(1, .slice a_ow ow.length n_ow), (6, .pointer (some ⟨b1029, 0, none⟩)), (8, .slice (some ⟨b1234, o1235, none⟩) ((ns).length) n1153), (11, .int .i64 n), (12, .int .i64 j), (152, .bool (!inn))]) (by kernel_rfl) ?_
                                        refine Op.goto 55 (by kernel_rfl) ?_
                                        refine At.cond (b := !inn) (c := .tmp 152) (by kernel_rfl) (by kernel_rfl) (by kernel_rfl) 56 57 (by kernel_rfl) (by kernel_rfl) (fun hb => ?_) (fun hb => ?_)
                                        · have c1298 : inn = false := (notT hb)
                                          clear hb
                                          refine At.keep [1, 6, 8, 11, 12] ?_; show At _ _ _ [(1, .slice a_ow ow.length n_ow), (6, .pointer (some ⟨b1029, 0, none⟩)), (8, .slice (some ⟨b1234, o1235, none⟩) ((ns).length) n1153), (11, .int .i64 n), (12, .int .i64 j)] _
                                          refine At.reg (L := [(0, false), (1, false), (2, false)]) (by kernel_rfl) ?_
                                          refine Op.pures 1 [1, 6, 8, 11, 12, 153] (L' := [(1, false), (2, false)]) (e' := [(1, .slice a_ow ow.length n_ow), (6, .pointer (some ⟨b1029, 0, none⟩)), (8, .slice (some ⟨b1234, o1235, none⟩) ((ns).length) n1153), (11, .int .i64 n), (12, .int .i64 j), (153, .int .i64 n)]) (by kernel_rfl) ?_
                                          refine Op.val (dst := some 154) (v := .int .i64 (IntKind.wrap .i64 (n + 1))) (v' := .int .i64 (n + 1)) (by kernel_rfl) (wrapEq_i64 (by omega) (by (have hln := hT.len; omega))) ?_
                                          refine Op.pures 1 [1, 6, 8, 11, 12] (L' := []) (e' := [(1, .slice a_ow ow.length n_ow), (6, .pointer (some ⟨b1029, 0, none⟩)), (8, .slice (some ⟨b1234, o1235, none⟩) ((ns).length) n1153), (11, .int .i64 (n + 1)), (12, .int .i64 j)]) (by kernel_rfl) ?_
                                          refine Op.goto 57 (by kernel_rfl) ?_
                                          refine At.reg (L := [(0, false), (1, false), (2, false)]) (by kernel_rfl) ?_
                                          refine Op.pures 1 [1, 6, 8, 11, 12, 103] (L' := [(1, false), (2, false)]) (e' := [(1, .slice a_ow ow.length n_ow), (6, .pointer (some ⟨b1029, 0, none⟩)), (8, .slice (some ⟨b1234, o1235, none⟩) ((ns).length) n1153), (11, .int .i64 (n + 1)), (12, .int .i64 j), (103, .int .i64 j)]) (by kernel_rfl) ?_
                                          refine Op.val (dst := some 104) (v := .int .i64 (IntKind.wrap .i64 (j + 1))) (v' := .int .i64 (j + 1)) (by kernel_rfl) (wrapEq_i64 (by omega) (by (have hln := hT.len; omega))) ?_
                                          refine Op.pures 1 [1, 6, 8, 11, 12] (L' := []) (e' := [(1, .slice a_ow ow.length n_ow), (6, .pointer (some ⟨b1029, 0, none⟩)), (8, .slice (some ⟨b1234, o1235, none⟩) ((ns).length) n1153), (11, .int .i64 (n + 1)), (12, .int .i64 (j + 1))]) (by kernel_rfl) ?_
                                          refine Op.goto 41 (by kernel_rfl) ?_
                                          have s1299 : St h g (ids []) g1148 [[(b1257, Obj.cells #[.string (mkS (((getT cur x1232.Path).1).Path)), .slice a1253 ((((getT cur x1232.Path).1).Data).length) n1254, .int .i64 (((getT cur x1232.Path).1).Version), .int .i64 (((getT cur x1232.Path).1).Owner), .int .i64 (((getT cur x1232.Path).1).Next), .int .i64 (((getT cur x1232.Path).1).Born)] 59 (0, 0))], ch1251, ch1157, c1177, ch1170] h1260 := ((((s1261.front 1 rfl).front 3 rfl).front 3 rfl).front 3 rfl)
                                          have s1300 : St h g (ids []) g1148 [ch1157, c1177, ch1170] h1260 := (s1299).drop.drop
                                          exact ih41  (n + 1) (j + 1) _ (by omega) (by omega) (by omega) (by omega) (by omega) (by exact cntO_f hn h8 hx1233 ((own_in hx1233 hin (by assumption)).trans (by assumption)))  s1300
                                        · have c1301 : inn = true := (notF hb)
                                          clear hb
                                          refine At.keep [1, 6, 8, 11, 12] ?_; show At _ _ _ [(1, .slice a_ow ow.length n_ow), (6, .pointer (some ⟨b1029, 0, none⟩)), (8, .slice (some ⟨b1234, o1235, none⟩) ((ns).length) n1153), (11, .int .i64 n), (12, .int .i64 j)] _
                                          refine At.reg (L := [(0, false), (1, false), (2, false)]) (by kernel_rfl) ?_
                                          refine Op.pures 1 [1, 6, 8, 11, 12, 103] (L' := [(1, false), (2, false)]) (e' := [(1, .slice a_ow ow.length n_ow), (6, .pointer (some ⟨b1029, 0, none⟩)), (8, .slice (some ⟨b1234, o1235, none⟩) ((ns).length) n1153), (11, .int .i64 n), (12, .int .i64 j), (103, .int .i64 j)]) (by kernel_rfl) ?_
                                          refine Op.val (dst := some 104) (v := .int .i64 (IntKind.wrap .i64 (j + 1))) (v' := .int .i64 (j + 1)) (by kernel_rfl) (wrapEq_i64 (by omega) (by (have hln := hT.len; omega))) ?_
                                          refine Op.pures 1 [1, 6, 8, 11, 12] (L' := []) (e' := [(1, .slice a_ow ow.length n_ow), (6, .pointer (some ⟨b1029, 0, none⟩)), (8, .slice (some ⟨b1234, o1235, none⟩) ((ns).length) n1153), (11, .int .i64 n), (12, .int .i64 (j + 1))]) (by kernel_rfl) ?_
                                          refine Op.goto 41 (by kernel_rfl) ?_
                                          have s1302 : St h g (ids []) g1148 [[(b1257, Obj.cells #[.string (mkS (((getT cur x1232.Path).1).Path)), .slice a1253 ((((getT cur x1232.Path).1).Data).length) n1254, .int .i64 (((getT cur x1232.Path).1).Version), .int .i64 (((getT cur x1232.Path).1).Owner), .int .i64 (((getT cur x1232.Path).1).Next), .int .i64 (((getT cur x1232.Path).1).Born)] 59 (0, 0))], ch1251, ch1157, c1177, ch1170] h1260 := ((((s1261.front 1 rfl).front 3 rfl).front 3 rfl).front 3 rfl)
                                          have s1303 : St h g (ids []) g1148 [ch1157, c1177, ch1170] h1260 := (s1302).drop.drop
                                          exact ih41  n (j + 1) _ (by omega) (by omega) (by omega) (by omega) (by omega) (by exact cntO_t hn h8 hx1233 ((own_in hx1233 hin (by assumption)).trans (by assumption)))  s1303
                              exact loop45 _  false 0 _ (Nat.lt_succ_self _) (by omega) (by omega) (by rfl)  s_loop411202
                            · have c1304 : ¬ (j < ((ns).length : Int)) := of_decide_eq_false hb
                              clear hb
                              refine At.keep [1, 6, 11] ?_; show At _ _ _ [(1, .slice a_ow ow.length n_ow), (6, .pointer (some ⟨b1029, 0, none⟩)), (11, .int .i64 n)] _
                              refine At.reg (L := [(0, false), (1, false), (2, false), (3, false), (4, false), (5, false), (6, false), (7, false), (8, false), (9, false), (10, false), (11, false), (12, false)]) (by kernel_rfl) ?_
                              refine Op.pures 2 [6, 11, 155, 156] (L' := [(2, false), (3, false), (4, false), (5, false), (6, false), (7, false), (8, false), (9, false), (10, false), (11, false), (12, false)]) (e' := [(6, .pointer (some ⟨b1029, 0, none⟩)), (11, .int .i64 n), (155, .pointer (some ⟨b1029, 0, none⟩)), (156, .slice a_ow ow.length n_ow)]) (by kernel_rfl) ?_
                              have s1305 : St h g (ids []) g1148 [c1177, ch1157, ch1170] h1203 := ((s_loop411202.front 0 rfl).front 1 rfl)
                              have hl1306 := s1305.frzle
                              have hz1307 := IsTree.frz o1178 s1305 (by intro p hp; simp only [List.mem_append, hp, true_or, or_true])
                              refine Op.lend (dst := some 157) (f := 31) (args := #[.pointer (some ⟨b1029, 0, none⟩), .slice a_ow ow.length n_ow]) (cf := (c1177 : Chunk)) (Lc := []) (L := [ch1157, ch1170]) (by kernel_rfl) s1305 (ownedF _ _ _ s1305.frzsub (hG.mono hl1306) b1029 cur hz1307 _ _ (h_ow.mono hl1306) (by ((try dsimp only) <;> ((rw [hc]; exact gone_b (hT.b (by have hsm := (small (by assumption)).1; omega)))))) (by ((try dsimp only) <;> (omega))) ) (fun _ _ _ hp => by obtain ⟨_, _, _, _, hgg, _⟩ := hp; exact hgg) (fun _ _ h => absurd h (ids_nil _)) ?_
                              rintro _ _ h1308 s1309 ⟨v1310, ch1311, rfl, R1312, hgg, rfl⟩; clear hgg
                              obtain ⟨a1313, n1314, rfl⟩ := R1312.form
                              replace R1312 := R1312.flat (fun _ _ _ _ h => h) (g' := g1148)
                              refine Op.pures 3 [6, 11, 160] (L' := [(6, false), (7, false), (8, false), (9, false), (10, false), (11, false), (12, false)]) (e' := [(6, .pointer (some ⟨b1029, 0, none⟩)), (11, .int .i64 n), (160, .bool (((ownedL cur ow).length : Int) == (0 : Int)))]) (by kernel_rfl) ?_
                              refine Op.ways (b := ((ownedL cur ow).length : Int) == (0 : Int)) ⟨fun hb => ?_, fun hb => ?_⟩
                              · refine Op.cast (e' := [(6, .pointer (some ⟨b1029, 0, none⟩)), (11, .int .i64 n), (160, .bool true)]) (by rw [hb]) ?_
                                have c1317 : ((ownedL cur ow).length : Int) = (0 : Int) := eq_of_beq hb
                                clear hb
                                refine Op.pures 1 [11, 160, 161] (L' := [(7, false), (8, false), (9, false), (10, false), (11, false), (12, false)]) (e' := [(11, .int .i64 n), (160, .bool true), (161, .pointer (some ⟨b1029, 0, none⟩))]) (by kernel_rfl) ?_
                                have hl1318 := s1309.frzle
                                have hz1319 := IsTree.frz o1178 s1309 (by intro p hp; simp only [List.mem_append, hp, true_or, or_true])
                                refine Op.lend (dst := some 162) (f := 30) (args := #[.pointer (some ⟨b1029, 0, none⟩)]) (cf := (c1177 : Chunk)) (Lc := []) (L := [ch1311, ch1157, ch1170]) (by kernel_rfl) s1309 (allF _ _ _ s1309.frzsub (hG.mono hl1318) b1029 cur hz1319 (by ((try dsimp only) <;> ((rw [hc]; exact gone_b (hT.b (by have hsm := (small (by assumption)).1; omega)))))) ) (fun _ _ _ hp => by obtain ⟨_, _, _, _, _, hgg, _⟩ := hp; exact hgg) (fun _ _ h => absurd h (ids_nil _)) ?_
                                rintro _ _ h1320 s1321 ⟨v1322, ch1323, dc1324, rfl, R1325, hgg, rfl⟩; clear hgg
                                have s1328 : St h g (ids []) g1148 [ch1323, dc1324, c1177, ch1311, ch1157, ch1170] h1320 := (((s1321.front 0 rfl).front 2 rfl).front 2 rfl)
                                obtain ⟨g1329, s1330, hle1331, hf1332⟩ := Deep.freeze R1325 s1328
                                replace R1158 := R1158.mono hle1331
                                replace R1171 := R1171.mono hle1331
                                replace R1312 := R1312.mono hle1331
                                replace hG := hG.mono hle1331
                                replace hP := hP.mono hle1331
                                replace o1178 := o1178.mono hle1331
                                obtain ⟨a1333, n1334, rfl⟩ := hf1332.form
                                refine Op.pures 5 [4] (L' := []) (e' := [(4, .bool (((cur).length : Int) == n))]) (by kernel_rfl) ?_
                                refine Op.goto 59 (by kernel_rfl) ?_
                                refine At.ret (f := Tryz.f7) (v := .bool (((cur).length : Int) == n)) (by kernel_rfl) (by kernel_rfl) ?_
                                have s1335 : St h g (ids []) g1329 [] h1320 := (s1330).drop.drop.drop.drop
                                have s1336 : St h g (ids []) g [] h1320 := s1335.unfrz
                                refine hR _ _ _ _ s1336 ⟨?_, rfl, rfl⟩
                                exact (eqB (by exact beq_iff_eq.2 (by rw [hc.trans (own_end (by assumption))]; exact cntO_end hT hn (by assumption))))
                              · refine Op.cast (e' := [(6, .pointer (some ⟨b1029, 0, none⟩)), (11, .int .i64 n), (160, .bool false)]) (by rw [hb]) ?_
                                have c1337 : ¬ (((ownedL cur ow).length : Int) = (0 : Int)) := neF hb
                                clear hb
                                refine Op.pures 7 [4] (L' := []) (e' := [(4, .bool false)]) (by kernel_rfl) ?_
                                refine Op.goto 59 (by kernel_rfl) ?_
                                refine At.ret (f := Tryz.f7) (v := .bool false) (by kernel_rfl) (by kernel_rfl) ?_
                                have s1338 : St h g (ids []) g1148 [] h1308 := (s1309).drop.drop.drop.drop
                                have s1339 : St h g (ids []) g [] h1308 := s1338.unfrz
                                refine hR _ _ _ _ s1339 ⟨?_, rfl, rfl⟩
                                exact (eqB (by exact absurd (by rw [hc.trans (own_end (by assumption)), own_none hT]; rfl) c1337))
                        exact loop41 _  0 0 _ (Nat.lt_succ_self _) (by omega) (by omega) (by omega) (by omega) (by rfl)  s_loop321178
                  exact loop32 _  ns 0 _ _ (Nat.lt_succ_self _) (by omega) (by omega) (by exact (gone_0 ns).symm) o1035 s1176
            exact loop23 _  ([⟨[47], [], 0, -1, 0, 0⟩]) 0 _ _ (Nat.lt_succ_self _) (by omega) (by omega) (by exact TreeOk.new) o1031 s1028
      exact loop10 _  0 _ (Nat.lt_succ_self _) (by omega) (by omega) (by exact fun n hn => absurd hn (by simp))  s1006
end Go.Proofs.YtmjebehhpojihaaGreatDoor.Sw
