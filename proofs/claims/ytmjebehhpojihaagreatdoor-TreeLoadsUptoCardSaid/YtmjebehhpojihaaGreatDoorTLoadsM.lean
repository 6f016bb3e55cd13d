/- Lemmas for a law of this seat: what the functions compute, and plain facts of it. Own text. -/
import Derived.Test.YtmjebehhpojihaaGreatDoorTLoadsL
namespace Go.Proofs.YtmjebehhpojihaaGreatDoor.Sw
open Go
set_option maxRecDepth 100000
set_option linter.unusedVariables false
set_option linter.unusedSimpArgs false
set_option linter.deprecated false
theorem withL_le (ns : List Leaf) (l : Leaf) : (withL ns l).length ≤ ns.length + 1 := by
  rw [(withL_perm ns l).length_eq, List.length_cons]
  have := List.length_filter_le (fun n : Leaf => !decide (n.Path = l.Path)) ns
  unfold delL
  omega
theorem newR (B : World) (h : Heap) (g : GH) (hg : Sub g h) (hG : Glob g)   :
    Spec Tryz.prog B 42 #[] h g [] (fun rv g' L' => ∃ v0, rv = .agg #[v0] ∧ SlR g' 59 kLeaf v0 ((⟨[(⟨[47], [], 0, -1, 0, 0⟩ : Leaf)]⟩ : R10Tree).All) ∧ L' = []) := by
  refine Spec.of_at (f := Tryz.f42) (e := []) Tryz.func42 (by kernel_rfl) (Nat.le_of_ble_eq_true (by kernel_rfl)) (by kernel_rfl) (by kernel_rfl) ?_
  intro R hR
  have s0 := St.init hg
  refine At.reg (L := [(0, false)]) (by kernel_rfl) ?_
  refine Op.alloc (T := 75) (dst := 0) (cs := #[.slice none 0 0]) (by kernel_rfl) (by kernel_rfl) s0 ?_
  intro b1001 h1002 s1003
  refine Op.goto 1 (by kernel_rfl) ?_
  refine At.reg (L := [(0, false), (1, false), (2, false), (3, false)]) (by kernel_rfl) ?_
  refine Op.pures 1 [0, 1] (L' := [(1, false), (2, false), (3, false)]) (e' := [(0, .pointer (some ⟨b1001, 0, none⟩)), (1, .agg #[.string (mkS ([47])), .slice none 0 0, .int .i64 0, .int .i64 (-1), .int .i64 0, .int .i64 0])]) (by kernel_rfl) ?_
  refine Op.lit (T := 52) (len := 1) (parts := #[(0, (.tmp 1))]) (dst := 2) (E := 59) (ps := [(0, .agg #[.string (mkS ([47])), .slice none 0 0, .int .i64 0, .int .i64 (-1), .int .i64 0, .int .i64 0])]) (cs := #[.string (mkS ([47])), .slice none 0 0, .int .i64 0, .int .i64 (-1), .int .i64 0, .int .i64 0]) (by kernel_rfl) (by kernel_rfl) (by kernel_rfl) s1003 ?_
  intro b1004 h1005 s1006
  refine Op.pures 1 [0, 3] (L' := [(3, false)]) (e' := [(0, .pointer (some ⟨b1001, 0, none⟩)), (3, .agg #[.slice (some ⟨b1004, 0, none⟩) 1 1])]) (by kernel_rfl) ?_
  refine Op.store (T := 75) (x := (.tmp 0)) (y := (.tmp 3)) (b := b1001) (o := 0) (vs := [.slice (some ⟨b1004, 0, none⟩) 1 1]) (a? := true) (n := 1) (by kernel_rfl) (by kernel_rfl) (by kernel_rfl) (by kernel_rfl) rfl (by simp [Value.oneCell']) s1006 1 rfl (Nat.le_of_ble_eq_true (by kernel_rfl)) (cs := #[.slice none 0 0]) (cs' := #[.slice (some ⟨b1004, 0, none⟩) 1 1]) (by kernel_rfl) (fun _ => trivial) ?_
  intro h1007 s1008
  refine Op.goto 2 (by kernel_rfl) ?_
  have R1009 : Row 59 kLeaf g (.slice (some ⟨b1004, 0, none⟩) 1 1) [(⟨[47], [], 0, (-1), 0, 0⟩ : Leaf)] [(b1004, Obj.cells #[.string (mkS ([47])), .slice none 0 0, .int .i64 0, .int .i64 (-1), .int .i64 0, .int .i64 0] 59 (0, 0))] := Row.lit (by kernel_rfl) (by unfold maxLen; decide) (by kernel_rfl) ⟨_, _, rfl, ⟨_, (SlR.nil _ _ _), rfl⟩, Reads.nil⟩
  obtain ⟨g1010, s1011, hle1012, hf1013⟩ := Row.freeze R1009 (s1008.front 0 rfl)
  replace hG := hG.mono hle1012
  refine At.retM (f := Tryz.f42) (vs := [.agg #[.slice (some ⟨b1004, 0, none⟩) 1 1]]) (rl := [.cell 0 75]) (v := .agg #[.slice (some ⟨b1004, 0, none⟩) 1 1]) (by kernel_rfl) (by kernel_rfl) ⟨⟨_, _, rfl, resAgg (n := 1) (by kernel_rfl) (s1011.chunk 0 rfl) (by kernel_rfl) rfl⟩, trivial⟩ rfl ?_
  have s1014 : St h g (ids []) g1010 [] h1007 := (s1011).drop
  refine hR _ _ _ _ s1014 ⟨(.slice (some ⟨b1004, 0, none⟩) 1 1), ?_, ?_, rfl⟩
  · exact rfl
  · exact slEq hf1013 (by rfl)
theorem atR (B : World) (h : Heap) (g : GH) (hg : Sub g h) (hG : Glob g) (t : R10Tree) (v_t_0 : Value) (h_t_0 : SlR g 59 kLeaf v_t_0 t.All) (p : List UInt8) (h1 : t.All.length ≤ 1000000000) :
    Spec Tryz.prog B 86 #[.agg #[v_t_0], .string (mkS p)] h g [] (fun rv g' L' => rv = .int .i64 (atP t.All p) ∧ g' = g ∧ L' = []) := by
  obtain ⟨a_t_0, n_t_0, rfl⟩ := h_t_0.form
  refine Spec.of_at (f := Tryz.f86) (e := [(0, .agg #[.slice a_t_0 t.All.length n_t_0]), (1, .string (mkS p))]) Tryz.func86 (by kernel_rfl) (Nat.le_of_ble_eq_true (by kernel_rfl)) (by kernel_rfl) (by kernel_rfl) ?_
  intro R hR
  have s0 := St.init hg
  refine At.reg (L := [(0, false), (1, false)]) (by kernel_rfl) ?_
  refine Op.box (T := 75) (x := (.tmp 0)) (d := 2) (cs := #[.slice a_t_0 t.All.length n_t_0]) (by kernel_rfl) (by kernel_rfl) s0 ?_
  intro b1015 h1016 s1017
  refine Op.pures 1 [1, 2] (L' := []) (e' := [(1, .string (mkS p)), (2, .pointer (some ⟨b1015, 0, none⟩))]) (by kernel_rfl) ?_
  refine Op.goto 1 (by kernel_rfl) ?_
  refine At.reg (L := [(0, false)]) (by kernel_rfl) ?_
  refine Op.pures 1 [1, 2, 5] (L' := []) (e' := [(1, .string (mkS p)), (2, .pointer (some ⟨b1015, 0, none⟩)), (5, .int .i64 0)]) (by kernel_rfl) ?_
  refine Op.goto 2 (by kernel_rfl) ?_
  have loop2 : ∀ (m : Nat) (i : Int) (h1018 : Heap) (hm : t.All.length - i.toNat < m) (h0 : 0 ≤ i) (h3 : i ≤ t.All.length) (hat : findAt (fun n : Leaf => decide (n.Path = p)) t.All i)     (s_loop21017 : St h g (ids []) g [[(b1015, Obj.cells #[.slice a_t_0 t.All.length n_t_0] 75 (0, 0))]] h1018), At (fctx Tryz.prog B 86 Tryz.f86 R) [] 2 [(1, .string (mkS p)), (2, .pointer (some ⟨b1015, 0, none⟩)), (5, .int .i64 i)] h1018 := by
    intro m; induction m with
    | zero => intros; omega
    | succ m ih2 =>
      intro i h1018 hm h0 h3 hat s_loop21017
      refine At.reg (L := [(0, false), (1, false), (2, false), (3, false), (4, false)]) (by kernel_rfl) ?_
      refine Op.pures 2 [1, 2, 5, 6, 7] (L' := [(2, false), (3, false), (4, false)]) (e' := [(1, .string (mkS p)), (2, .pointer (some ⟨b1015, 0, none⟩)), (5, .int .i64 i), (6, .int .i64 i), (7, .pointer (some ⟨b1015, 0, none⟩))]) (by kernel_rfl) ?_
      refine Op.load (T := 52) (x := (.tmp 7)) (o := 0) (d := 8) (n := 1) (v := .slice a_t_0 t.All.length n_t_0) (by kernel_rfl) (by kernel_rfl) (by kernel_rfl) (s_loop21017.chunk 0 rfl) (by kernel_rfl) ?_
      refine Op.pures 2 [1, 2, 5, 10] (L' := []) (e' := [(1, .string (mkS p)), (2, .pointer (some ⟨b1015, 0, none⟩)), (5, .int .i64 i), (10, .bool (decide (i < (t.All.length : Int))))]) (by kernel_rfl) ?_
      refine Op.goto 3 (by kernel_rfl) ?_
      refine At.cond (b := decide (i < (t.All.length : Int))) (c := .tmp 10) (by kernel_rfl) (by kernel_rfl) (by kernel_rfl) 4 9 (by kernel_rfl) (by kernel_rfl) (fun hb => ?_) (fun hb => ?_)
      · have c1019 : i < (t.All.length : Int) := of_decide_eq_true hb
        clear hb
        refine At.keep [1, 2, 5] ?_; show At _ _ _ [(1, .string (mkS p)), (2, .pointer (some ⟨b1015, 0, none⟩)), (5, .int .i64 i)] _
        refine At.reg (L := [(0, false), (1, false), (2, false), (3, false), (4, false), (5, false), (6, false), (7, false)]) (by kernel_rfl) ?_
        refine Op.pures 1 [1, 2, 5, 13] (L' := [(1, false), (2, false), (3, false), (4, false), (5, false), (6, false), (7, false)]) (e' := [(1, .string (mkS p)), (2, .pointer (some ⟨b1015, 0, none⟩)), (5, .int .i64 i), (13, .pointer (some ⟨b1015, 0, none⟩))]) (by kernel_rfl) ?_
        refine Op.load (T := 52) (x := (.tmp 13)) (o := 0) (d := 14) (n := 1) (v := .slice a_t_0 t.All.length n_t_0) (by kernel_rfl) (by kernel_rfl) (by kernel_rfl) (s_loop21017.chunk 0 rfl) (by kernel_rfl) ?_
        refine Op.pures 1 [1, 2, 5, 14, 15] (L' := [(3, false), (4, false), (5, false), (6, false), (7, false)]) (e' := [(1, .string (mkS p)), (2, .pointer (some ⟨b1015, 0, none⟩)), (5, .int .i64 i), (14, .slice a_t_0 t.All.length n_t_0), (15, .int .i64 i)]) (by kernel_rfl) ?_
        obtain ⟨x1020, hx1021⟩ : ∃ c, t.All[(i : Int).toNat]? = some c := ⟨_, List.getElem?_eq_getElem (by omega)⟩
        obtain ⟨b1022, o1023, cu1024, fz1025, ha1026, hb1027, hk1028⟩ := SlR.at_ h_t_0 _ hx1021
        cases ha1026
        refine Op.idx (T := 52) (E := 59) (sz := 6) (by_ := 72) (n := t.All.length) (c := n_t_0) (k := .i64) (x := (.tmp 14)) (ix := (.tmp 15)) (dst := 16) (bk := b1022) (o := o1023) (m := i) (by kernel_rfl) (by kernel_rfl) (by kernel_rfl) (by kernel_rfl) (by omega) (by omega) ?_
        obtain ⟨v1029, hv1030, hk1028⟩ := hk1028
        obtain ⟨a1031, n1032, rfl⟩ := hv1030.form
        refine Op.pures 1 [1, 2, 5, 17] (L' := [(5, false), (6, false), (7, false)]) (e' := [(1, .string (mkS p)), (2, .pointer (some ⟨b1015, 0, none⟩)), (5, .int .i64 i), (17, .pointer (some ⟨b1022, o1023 + (i : Int).toNat * 6, none⟩))]) (by kernel_rfl) ?_
        refine Op.load (T := 9) (x := (.tmp 17)) (o := o1023 + (i : Int).toNat * 6) (d := 18) (n := 1) (v := .string (mkS x1020.Path)) (by kernel_rfl) (by kernel_rfl) (by kernel_rfl) (s_loop21017.sub _ _ hb1027) (cut_get hk1028 0 rfl) ?_
        refine Op.pures 1 [1, 2, 5, 18, 19] (L' := [(7, false)]) (e' := [(1, .string (mkS p)), (2, .pointer (some ⟨b1015, 0, none⟩)), (5, .int .i64 i), (18, .string (mkS x1020.Path)), (19, .string (mkS p))]) (by kernel_rfl) ?_
        refine Op.val (dst := some 20) (v := .bool ((mkS x1020.Path).toList == (mkS p).toList)) (v' := .bool (x1020.Path == p)) (by kernel_rfl) (by rw [toList_mkS, toList_mkS]) ?_
        refine Op.goto 5 (by kernel_rfl) ?_
        refine At.cond (b := x1020.Path == p) (c := .tmp 20) (by kernel_rfl) (by kernel_rfl) (by kernel_rfl) 6 8 (by kernel_rfl) (by kernel_rfl) (fun hb => ?_) (fun hb => ?_)
        · have c1033 : x1020.Path = p := eq_of_beq hb
          clear hb
          refine At.keep [5] ?_; show At _ _ _ [(5, .int .i64 i)] _
          refine At.reg (L := [(0, false), (1, false)]) (by kernel_rfl) ?_
          refine Op.pures 2 [4] (L' := []) (e' := [(4, .int .i64 i)]) (by kernel_rfl) ?_
          refine Op.goto 7 (by kernel_rfl) ?_
          refine At.ret (f := Tryz.f86) (v := .int .i64 i) (by kernel_rfl) (by kernel_rfl) ?_
          have s1034 : St h g (ids []) g [] h1018 := (s_loop21017).drop
          refine hR _ _ _ _ s1034 ⟨?_, rfl, rfl⟩
          exact (eqI (by exact findAt_hit hat hx1021 (decide_eq_true c1033)))
        · have c1035 : ¬ (x1020.Path = p) := neF hb
          clear hb
          refine At.keep [1, 2, 5] ?_; show At _ _ _ [(1, .string (mkS p)), (2, .pointer (some ⟨b1015, 0, none⟩)), (5, .int .i64 i)] _
          refine At.reg (L := [(0, false), (1, false), (2, false)]) (by kernel_rfl) ?_
          refine Op.pures 1 [1, 2, 5, 11] (L' := [(1, false), (2, false)]) (e' := [(1, .string (mkS p)), (2, .pointer (some ⟨b1015, 0, none⟩)), (5, .int .i64 i), (11, .int .i64 i)]) (by kernel_rfl) ?_
          refine Op.val (dst := some 12) (v := .int .i64 (IntKind.wrap .i64 (i + 1))) (v' := .int .i64 (i + 1)) (by kernel_rfl) (wrapEq_i64 (by omega) (by omega)) ?_
          refine Op.pures 1 [1, 2, 5] (L' := []) (e' := [(1, .string (mkS p)), (2, .pointer (some ⟨b1015, 0, none⟩)), (5, .int .i64 (i + 1))]) (by kernel_rfl) ?_
          refine Op.goto 2 (by kernel_rfl) ?_
          exact ih2  (i + 1) _ (by omega) (by omega) (by omega) (by exact findAt_miss hat h0 hx1021 (decide_eq_false c1035))  s_loop21017
      · have c1036 : ¬ (i < (t.All.length : Int)) := of_decide_eq_false hb
        clear hb
        refine At.keep [] ?_; show At _ _ _ [] _
        refine At.reg (L := [(0, false)]) (by kernel_rfl) ?_
        refine Op.pures 1 [4] (L' := []) (e' := [(4, .int .i64 (-1))]) (by kernel_rfl) ?_
        refine Op.goto 10 (by kernel_rfl) ?_
        refine At.ret (f := Tryz.f86) (v := .int .i64 (-1)) (by kernel_rfl) (by kernel_rfl) ?_
        have s1037 : St h g (ids []) g [] h1018 := (s_loop21017).drop
        refine hR _ _ _ _ s1037 ⟨?_, rfl, rfl⟩
        exact (eqI (by exact findAt_end hat c1036))
  exact loop2 _  0 _ (Nat.lt_succ_self _) (by omega) (by omega) (by exact findAt_0 _ _)  s1017
theorem withR (B : World) (h : Heap) (g : GH) (hg : Sub g h) (hG : Glob g) (t : R10Tree) (v_t_0 : Value) (h_t_0 : SlR g 59 kLeaf v_t_0 t.All) (l : Leaf) (v_l_1 : Value) (h_l_1 : SlR g 5 kU8 v_l_1 l.Data) (h1 : t.All.length ≤ 1000000) :
    Spec Tryz.prog B 88 #[.agg #[v_t_0], .agg #[.string (mkS l.Path), v_l_1, .int .i64 l.Version, .int .i64 l.Owner, .int .i64 l.Next, .int .i64 l.Born]] h g [] (fun rv g' L' => ∃ v0, rv = .agg #[v0] ∧ SlR g' 59 kLeaf v0 ((⟨withL t.All l⟩ : R10Tree).All) ∧ L' = []) := by
  obtain ⟨a_t_0, n_t_0, rfl⟩ := h_t_0.form
  obtain ⟨a_l_1, n_l_1, rfl⟩ := h_l_1.form
  refine Spec.of_at (f := Tryz.f88) (e := [(0, .agg #[.slice a_t_0 t.All.length n_t_0]), (1, .agg #[.string (mkS l.Path), .slice a_l_1 l.Data.length n_l_1, .int .i64 l.Version, .int .i64 l.Owner, .int .i64 l.Next, .int .i64 l.Born])]) Tryz.func88 (by kernel_rfl) (Nat.le_of_ble_eq_true (by kernel_rfl)) (by kernel_rfl) (by kernel_rfl) ?_
  intro R hR
  have s0 := St.init hg
  refine At.reg (L := [(0, false), (1, false), (2, false)]) (by kernel_rfl) ?_
  refine Op.box (T := 75) (x := (.tmp 0)) (d := 2) (cs := #[.slice a_t_0 t.All.length n_t_0]) (by kernel_rfl) (by kernel_rfl) s0 ?_
  intro b1038 h1039 s1040
  refine Op.box (T := 59) (x := (.tmp 1)) (d := 3) (cs := #[.string (mkS l.Path), .slice a_l_1 l.Data.length n_l_1, .int .i64 l.Version, .int .i64 l.Owner, .int .i64 l.Next, .int .i64 l.Born]) (by kernel_rfl) (by kernel_rfl) s1040 ?_
  intro b1041 h1042 s1043
  refine Op.alloc (T := 75) (dst := 4) (cs := #[.slice none 0 0]) (by kernel_rfl) (by kernel_rfl) s1043 ?_
  intro b1044 h1045 s1046
  refine Op.goto 1 (by kernel_rfl) ?_
  refine At.reg (L := [(0, false), (1, false)]) (by kernel_rfl) ?_
  refine Op.lit (T := 52) (len := 0) (parts := #[]) (dst := 8) (E := 59) (ps := []) (cs := #[]) (by kernel_rfl) (by kernel_rfl) (by kernel_rfl) s1046 ?_
  intro b1047 h1048 s1049
  refine Op.pures 1 [2, 3, 4, 5] (L' := []) (e' := [(2, .pointer (some ⟨b1038, 0, none⟩)), (3, .pointer (some ⟨b1041, 0, none⟩)), (4, .pointer (some ⟨b1044, 0, none⟩)), (5, .slice (some ⟨b1047, 0, none⟩) 0 0)]) (by kernel_rfl) ?_
  refine Op.goto 2 (by kernel_rfl) ?_
  refine At.reg (L := [(0, false)]) (by kernel_rfl) ?_
  refine Op.pures 1 [2, 3, 4, 5, 6] (L' := []) (e' := [(2, .pointer (some ⟨b1038, 0, none⟩)), (3, .pointer (some ⟨b1041, 0, none⟩)), (4, .pointer (some ⟨b1044, 0, none⟩)), (5, .slice (some ⟨b1047, 0, none⟩) 0 0), (6, .bool false)]) (by kernel_rfl) ?_
  refine Op.goto 3 (by kernel_rfl) ?_
  refine At.reg (L := [(0, false)]) (by kernel_rfl) ?_
  refine Op.pures 1 [2, 3, 4, 5, 6, 7] (L' := []) (e' := [(2, .pointer (some ⟨b1038, 0, none⟩)), (3, .pointer (some ⟨b1041, 0, none⟩)), (4, .pointer (some ⟨b1044, 0, none⟩)), (5, .slice (some ⟨b1047, 0, none⟩) 0 0), (6, .bool false), (7, .int .i64 0)]) (by kernel_rfl) ?_
  refine Op.goto 4 (by kernel_rfl) ?_
  have loop4 : ∀ (m : Nat) (out : List Leaf) (put : Bool) (i : Int) (a1050 : Option Addr) (n1051 : Nat) (ch1052 : Chunk) (h1054 : Heap) (hm : t.All.length - i.toNat < m) (h0 : 0 ≤ i) (h3 : i ≤ t.All.length) (hw : withI t.All l i out put) (R1053 : Row 59 kLeaf g (.slice a1050 out.length n1051) out ch1052)    (s_loop41053 : St h g (ids []) g [ch1052, [(b1044, Obj.cells #[.slice none 0 0] 75 (0, 0))], [(b1041, Obj.cells #[.string (mkS l.Path), .slice a_l_1 l.Data.length n_l_1, .int .i64 l.Version, .int .i64 l.Owner, .int .i64 l.Next, .int .i64 l.Born] 59 (0, 0))], [(b1038, Obj.cells #[.slice a_t_0 t.All.length n_t_0] 75 (0, 0))]] h1054), At (fctx Tryz.prog B 88 Tryz.f88 R) [] 4 [(2, .pointer (some ⟨b1038, 0, none⟩)), (3, .pointer (some ⟨b1041, 0, none⟩)), (4, .pointer (some ⟨b1044, 0, none⟩)), (5, .slice a1050 out.length n1051), (6, .bool put), (7, .int .i64 i)] h1054 := by
    intro m; induction m with
    | zero => intros; omega
    | succ m ih4 =>
      intro out put i a1050 n1051 ch1052 h1054 hm h0 h3 hw R1053 s_loop41053
      refine At.reg (L := [(0, false), (1, false), (2, false), (3, false), (4, false)]) (by kernel_rfl) ?_
      refine Op.pures 2 [2, 3, 4, 5, 6, 7, 9, 10] (L' := [(2, false), (3, false), (4, false)]) (e' := [(2, .pointer (some ⟨b1038, 0, none⟩)), (3, .pointer (some ⟨b1041, 0, none⟩)), (4, .pointer (some ⟨b1044, 0, none⟩)), (5, .slice a1050 out.length n1051), (6, .bool put), (7, .int .i64 i), (9, .int .i64 i), (10, .pointer (some ⟨b1038, 0, none⟩))]) (by kernel_rfl) ?_
      refine Op.load (T := 52) (x := (.tmp 10)) (o := 0) (d := 11) (n := 1) (v := .slice a_t_0 t.All.length n_t_0) (by kernel_rfl) (by kernel_rfl) (by kernel_rfl) (s_loop41053.chunk 3 rfl) (by kernel_rfl) ?_
      refine Op.pures 2 [2, 3, 4, 5, 6, 7, 13] (L' := []) (e' := [(2, .pointer (some ⟨b1038, 0, none⟩)), (3, .pointer (some ⟨b1041, 0, none⟩)), (4, .pointer (some ⟨b1044, 0, none⟩)), (5, .slice a1050 out.length n1051), (6, .bool put), (7, .int .i64 i), (13, .bool (decide (i < (t.All.length : Int))))]) (by kernel_rfl) ?_
      refine Op.goto 5 (by kernel_rfl) ?_
      refine At.cond (b := decide (i < (t.All.length : Int))) (c := .tmp 13) (by kernel_rfl) (by kernel_rfl) (by kernel_rfl) 6 14 (by kernel_rfl) (by kernel_rfl) (fun hb => ?_) (fun hb => ?_)
      · have c1055 : i < (t.All.length : Int) := of_decide_eq_true hb
        clear hb
        refine At.keep [2, 3, 4, 5, 6, 7] ?_; show At _ _ _ [(2, .pointer (some ⟨b1038, 0, none⟩)), (3, .pointer (some ⟨b1041, 0, none⟩)), (4, .pointer (some ⟨b1044, 0, none⟩)), (5, .slice a1050 out.length n1051), (6, .bool put), (7, .int .i64 i)] _
        refine At.draw (by kernel_rfl) (fun _ => False) [(0, true), (2, true), (6, true), (1, true), (3, true), (4, true), (5, true), (7, false), (8, true)] (by kernel_rfl) ?_
        refine Op.pures 3 [2, 3, 4, 5, 6, 7, 16, 18, 22] (L' := [(1, true), (3, true), (4, true), (5, true), (7, false), (8, true)]) (e' := [(2, .pointer (some ⟨b1038, 0, none⟩)), (3, .pointer (some ⟨b1041, 0, none⟩)), (4, .pointer (some ⟨b1044, 0, none⟩)), (5, .slice a1050 out.length n1051), (6, .bool put), (7, .int .i64 i), (16, .pointer (some ⟨b1038, 0, none⟩)), (18, .int .i64 i), (22, .pointer (some ⟨b1041, 0, none⟩))]) (by kernel_rfl) ?_
        refine Op.loadF (T := 52) (x := (.tmp 16)) (o := 0) (d := 17) (n := 1) (v := .slice a_t_0 t.All.length n_t_0) (by kernel_rfl) (by kernel_rfl) (by kernel_rfl) (fun h => h) (s_loop41053.chunk 3 rfl) (by kernel_rfl) ?_
        obtain ⟨x1056, hx1057⟩ : ∃ c, t.All[(i : Int).toNat]? = some c := ⟨_, List.getElem?_eq_getElem (by omega)⟩
        obtain ⟨b1058, o1059, cu1060, fz1061, ha1062, hb1063, hk1064⟩ := SlR.at_ h_t_0 _ hx1057
        cases ha1062
        refine Op.idx (T := 52) (E := 59) (sz := 6) (by_ := 72) (n := t.All.length) (c := n_t_0) (k := .i64) (x := (.tmp 17)) (ix := (.tmp 18)) (dst := 19) (bk := b1058) (o := o1059) (m := i) (by kernel_rfl) (by kernel_rfl) (by kernel_rfl) (by kernel_rfl) (by omega) (by omega) ?_
        obtain ⟨v1065, hv1066, hk1064⟩ := hk1064
        obtain ⟨a1067, n1068, rfl⟩ := hv1066.form
        refine Op.pures 1 [2, 3, 4, 5, 6, 7, 20, 22] (L' := [(5, true), (7, false), (8, true)]) (e' := [(2, .pointer (some ⟨b1038, 0, none⟩)), (3, .pointer (some ⟨b1041, 0, none⟩)), (4, .pointer (some ⟨b1044, 0, none⟩)), (5, .slice a1050 out.length n1051), (6, .bool put), (7, .int .i64 i), (20, .pointer (some ⟨b1058, o1059 + (i : Int).toNat * 6, none⟩)), (22, .pointer (some ⟨b1041, 0, none⟩))]) (by kernel_rfl) ?_
        refine Op.loadF (T := 9) (x := (.tmp 20)) (o := o1059 + (i : Int).toNat * 6) (d := 21) (n := 1) (v := .string (mkS x1056.Path)) (by kernel_rfl) (by kernel_rfl) (by kernel_rfl) (fun h => h) (s_loop41053.sub _ _ hb1063) (cut_get hk1064 0 rfl) ?_
        refine Op.load (T := 9) (x := (.tmp 22)) (o := 0) (d := 23) (n := 1) (v := .string (mkS l.Path)) (by kernel_rfl) (by kernel_rfl) (by kernel_rfl) (s_loop41053.chunk 2 rfl) (by kernel_rfl) ?_
        refine Op.val (dst := some 24) (v := .bool ((mkS x1056.Path).toList == (mkS l.Path).toList)) (v' := .bool (x1056.Path == l.Path)) (by kernel_rfl) (by rw [toList_mkS, toList_mkS]) ?_
        refine Op.goto 7 (by kernel_rfl) ?_
        refine At.cond (b := x1056.Path == l.Path) (c := .tmp 24) (by kernel_rfl) (by kernel_rfl) (by kernel_rfl) 13 8 (by kernel_rfl) (by kernel_rfl) (fun hb => ?_) (fun hb => ?_)
        · have c1069 : x1056.Path = l.Path := eq_of_beq hb
          clear hb
          refine At.keep [2, 3, 4, 5, 6, 7] ?_; show At _ _ _ [(2, .pointer (some ⟨b1038, 0, none⟩)), (3, .pointer (some ⟨b1041, 0, none⟩)), (4, .pointer (some ⟨b1044, 0, none⟩)), (5, .slice a1050 out.length n1051), (6, .bool put), (7, .int .i64 i)] _
          refine At.reg (L := [(0, false), (1, false), (2, false)]) (by kernel_rfl) ?_
          refine Op.pures 1 [2, 3, 4, 5, 6, 7, 14] (L' := [(1, false), (2, false)]) (e' := [(2, .pointer (some ⟨b1038, 0, none⟩)), (3, .pointer (some ⟨b1041, 0, none⟩)), (4, .pointer (some ⟨b1044, 0, none⟩)), (5, .slice a1050 out.length n1051), (6, .bool put), (7, .int .i64 i), (14, .int .i64 i)]) (by kernel_rfl) ?_
          refine Op.val (dst := some 15) (v := .int .i64 (IntKind.wrap .i64 (i + 1))) (v' := .int .i64 (i + 1)) (by kernel_rfl) (wrapEq_i64 (by omega) (by omega)) ?_
          refine Op.pures 1 [2, 3, 4, 5, 6, 7] (L' := []) (e' := [(2, .pointer (some ⟨b1038, 0, none⟩)), (3, .pointer (some ⟨b1041, 0, none⟩)), (4, .pointer (some ⟨b1044, 0, none⟩)), (5, .slice a1050 out.length n1051), (6, .bool put), (7, .int .i64 (i + 1))]) (by kernel_rfl) ?_
          refine Op.goto 4 (by kernel_rfl) ?_
          exact ih4  out put (i + 1) _ _ _ _ (by omega) (by omega) (by omega) (by exact withI_skip hw h0 hx1057 (by assumption)) R1053 s_loop41053
        · have c1070 : ¬ (x1056.Path = l.Path) := neF hb
          clear hb
          refine At.keep [2, 3, 4, 5, 6, 7] ?_; show At _ _ _ [(2, .pointer (some ⟨b1038, 0, none⟩)), (3, .pointer (some ⟨b1041, 0, none⟩)), (4, .pointer (some ⟨b1044, 0, none⟩)), (5, .slice a1050 out.length n1051), (6, .bool put), (7, .int .i64 i)] _
          refine At.draw (by kernel_rfl) (fun _ => False) [(0, true), (1, true), (2, true), (3, true), (5, true), (7, true), (4, true), (6, false), (8, true), (9, true), (10, false), (11, true), (12, true)] (by kernel_rfl) ?_
          refine Op.pures 3 [2, 3, 4, 5, 6, 7, 27] (L' := [(3, true), (5, true), (7, true), (4, true), (6, false), (8, true), (9, true), (10, false), (11, true), (12, true)]) (e' := [(2, .pointer (some ⟨b1038, 0, none⟩)), (3, .pointer (some ⟨b1041, 0, none⟩)), (4, .pointer (some ⟨b1044, 0, none⟩)), (5, .slice a1050 out.length n1051), (6, .bool put), (7, .int .i64 i), (27, .bool (!put))]) (by kernel_rfl) ?_
          refine Op.ways (b := !put) ⟨fun hb => ?_, fun hb => ?_⟩
          · refine Op.cast (e' := [(2, .pointer (some ⟨b1038, 0, none⟩)), (3, .pointer (some ⟨b1041, 0, none⟩)), (4, .pointer (some ⟨b1044, 0, none⟩)), (5, .slice a1050 out.length n1051), (6, .bool put), (7, .int .i64 i), (27, .bool true)]) (by rw [hb]) ?_
            have c1071 : put = false := (notT hb)
            clear hb
            refine Op.pures 3 [2, 3, 4, 5, 6, 7, 27, 28, 30, 32] (L' := [(4, true), (6, false), (8, true), (9, true), (10, false), (11, true), (12, true)]) (e' := [(2, .pointer (some ⟨b1038, 0, none⟩)), (3, .pointer (some ⟨b1041, 0, none⟩)), (4, .pointer (some ⟨b1044, 0, none⟩)), (5, .slice a1050 out.length n1051), (6, .bool put), (7, .int .i64 i), (27, .bool true), (28, .pointer (some ⟨b1041, 0, none⟩)), (30, .pointer (some ⟨b1038, 0, none⟩)), (32, .int .i64 i)]) (by kernel_rfl) ?_
            refine Op.loadF (T := 9) (x := (.tmp 28)) (o := 0) (d := 29) (n := 1) (v := .string (mkS l.Path)) (by kernel_rfl) (by kernel_rfl) (by kernel_rfl) (fun h => h) (s_loop41053.chunk 2 rfl) (by kernel_rfl) ?_
            refine Op.load (T := 52) (x := (.tmp 30)) (o := 0) (d := 31) (n := 1) (v := .slice (some ⟨b1058, o1059, none⟩) t.All.length n_t_0) (by kernel_rfl) (by kernel_rfl) (by kernel_rfl) (s_loop41053.chunk 3 rfl) (by kernel_rfl) ?_
            obtain ⟨b1074, o1075, cu1076, fz1077, ha1078, hb1079, hk1080⟩ := SlR.at_ h_t_0 _ hx1057
            cases ha1078
            refine Op.idx (T := 52) (E := 59) (sz := 6) (by_ := 72) (n := t.All.length) (c := n_t_0) (k := .i64) (x := (.tmp 31)) (ix := (.tmp 32)) (dst := 33) (bk := b1058) (o := o1059) (m := i) (by kernel_rfl) (by kernel_rfl) (by kernel_rfl) (by kernel_rfl) (by omega) (by omega) ?_
            obtain ⟨v1081, hv1082, hk1080⟩ := hk1080
            obtain ⟨a1083, n1084, rfl⟩ := hv1082.form
            refine Op.pures 1 [2, 3, 4, 5, 6, 7, 27, 29, 34] (L' := [(10, false), (11, true), (12, true)]) (e' := [(2, .pointer (some ⟨b1038, 0, none⟩)), (3, .pointer (some ⟨b1041, 0, none⟩)), (4, .pointer (some ⟨b1044, 0, none⟩)), (5, .slice a1050 out.length n1051), (6, .bool put), (7, .int .i64 i), (27, .bool true), (29, .string (mkS l.Path)), (34, .pointer (some ⟨b1058, o1059 + (i : Int).toNat * 6, none⟩))]) (by kernel_rfl) ?_
            refine Op.load (T := 9) (x := (.tmp 34)) (o := o1059 + (i : Int).toNat * 6) (d := 35) (n := 1) (v := .string (mkS x1056.Path)) (by kernel_rfl) (by kernel_rfl) (by kernel_rfl) (s_loop41053.sub _ _ hb1079) (cut_get hk1080 0 rfl) ?_
            refine Op.val (dst := some 36) (v := .bool (Go.Op.bytesLess (mkS l.Path).toList (mkS x1056.Path).toList)) (v' := .bool (Go.Op.bytesLess l.Path x1056.Path)) (by kernel_rfl) (by rw [toList_mkS, toList_mkS]) ?_
            refine Op.pures 1 [2, 3, 4, 5, 6, 7, 37] (L' := []) (e' := [(2, .pointer (some ⟨b1038, 0, none⟩)), (3, .pointer (some ⟨b1041, 0, none⟩)), (4, .pointer (some ⟨b1044, 0, none⟩)), (5, .slice a1050 out.length n1051), (6, .bool put), (7, .int .i64 i), (37, .bool (Go.Op.bytesLess l.Path x1056.Path))]) (by kernel_rfl) ?_
            refine Op.goto 9 (by kernel_rfl) ?_
            refine At.cond (b := Go.Op.bytesLess l.Path x1056.Path) (c := .tmp 37) (by kernel_rfl) (by kernel_rfl) (by kernel_rfl) 10 12 (by kernel_rfl) (by kernel_rfl) (fun hb => ?_) (fun hb => ?_)
            · have c1085 : (Go.Op.bytesLess l.Path x1056.Path) = true := hb
              clear hb
              refine At.keep [2, 3, 4, 5, 7] ?_; show At _ _ _ [(2, .pointer (some ⟨b1038, 0, none⟩)), (3, .pointer (some ⟨b1041, 0, none⟩)), (4, .pointer (some ⟨b1044, 0, none⟩)), (5, .slice a1050 out.length n1051), (7, .int .i64 i)] _
              refine At.reg (L := [(0, false), (1, false), (2, false), (3, false), (4, false)]) (by kernel_rfl) ?_
              refine Op.pures 1 [2, 3, 4, 5, 7, 38] (L' := [(1, false), (2, false), (3, false), (4, false)]) (e' := [(2, .pointer (some ⟨b1038, 0, none⟩)), (3, .pointer (some ⟨b1041, 0, none⟩)), (4, .pointer (some ⟨b1044, 0, none⟩)), (5, .slice a1050 out.length n1051), (7, .int .i64 i), (38, .slice a1050 out.length n1051)]) (by kernel_rfl) ?_
              refine Op.loadA (T := 59) (x := (.tmp 3)) (o := 0) (d := 39) (n := 6) (vs := [.string (mkS l.Path), .slice a_l_1 l.Data.length n_l_1, .int .i64 l.Version, .int .i64 l.Owner, .int .i64 l.Next, .int .i64 l.Born]) (by kernel_rfl) (by kernel_rfl) (by kernel_rfl) (s_loop41053.chunk 2 rfl) (by kernel_rfl) rfl ?_
              refine Op.lit (T := 52) (len := 1) (parts := #[(0, (.tmp 39))]) (dst := 40) (E := 59) (ps := [(0, .agg #[.string (mkS l.Path), .slice a_l_1 l.Data.length n_l_1, .int .i64 l.Version, .int .i64 l.Owner, .int .i64 l.Next, .int .i64 l.Born])]) (cs := #[.string (mkS l.Path), .slice a_l_1 l.Data.length n_l_1, .int .i64 l.Version, .int .i64 l.Owner, .int .i64 l.Next, .int .i64 l.Born]) (by kernel_rfl) (by kernel_rfl) (by kernel_rfl) s_loop41053 ?_
              intro b1086 h1087 s1088
              refine Op.append (x := (.tmp 38)) (y := (.tmp 40)) (t := 52) (t' := 52) (dst := 41) (E := 59) (by_ := 72) (d := kLeaf) (by kernel_rfl) (by kernel_rfl) (by kernel_rfl) (by kernel_rfl) rfl R1053 s1088 1 rfl (Src.lit (m := 1) (sz := 6) (s1088.chunk 0 rfl) (news := [.string (mkS l.Path), .slice a_l_1 l.Data.length n_l_1, .int .i64 l.Version, .int .i64 l.Owner, .int .i64 l.Next, .int .i64 l.Born]) rfl rfl (by simp [Value.oneCell']) _) (ys := [l]) (⟨_, _, rfl, ⟨_, h_l_1, rfl⟩, Reads.nil⟩) rfl (by (have := withI_len hw h0 h3; simp only [List.length_append, List.length_cons, List.length_nil]; omega)) (fun _ _ _ => trivial) ?_
              intro v1089 ch1090 h1091 R1092 s1093 nn1094
              obtain ⟨a1095, n1096, rfl⟩ := R1092.form
              have s1097 := (s1093.front 0 rfl).drop
              refine Op.pures 1 [2, 3, 4, 5, 7] (L' := []) (e' := [(2, .pointer (some ⟨b1038, 0, none⟩)), (3, .pointer (some ⟨b1041, 0, none⟩)), (4, .pointer (some ⟨b1044, 0, none⟩)), (5, .slice a1095 ((out ++ ([l])).length) n1096), (7, .int .i64 i)]) (by kernel_rfl) ?_
              refine Op.goto 11 (by kernel_rfl) ?_
              refine At.reg (L := [(0, false)]) (by kernel_rfl) ?_
              refine Op.pures 1 [2, 3, 4, 5, 6, 7] (L' := []) (e' := [(2, .pointer (some ⟨b1038, 0, none⟩)), (3, .pointer (some ⟨b1041, 0, none⟩)), (4, .pointer (some ⟨b1044, 0, none⟩)), (5, .slice a1095 ((out ++ ([l])).length) n1096), (6, .bool true), (7, .int .i64 i)]) (by kernel_rfl) ?_
              refine Op.goto 12 (by kernel_rfl) ?_
              refine At.reg (L := [(0, false), (1, false), (2, false), (3, false), (4, false), (5, false), (6, false), (7, false), (8, false)]) (by kernel_rfl) ?_
              refine Op.pures 2 [2, 3, 4, 5, 6, 7, 42, 43] (L' := [(2, false), (3, false), (4, false), (5, false), (6, false), (7, false), (8, false)]) (e' := [(2, .pointer (some ⟨b1038, 0, none⟩)), (3, .pointer (some ⟨b1041, 0, none⟩)), (4, .pointer (some ⟨b1044, 0, none⟩)), (5, .slice a1095 ((out ++ ([l])).length) n1096), (6, .bool true), (7, .int .i64 i), (42, .slice a1095 ((out ++ ([l])).length) n1096), (43, .pointer (some ⟨b1038, 0, none⟩))]) (by kernel_rfl) ?_
              refine Op.load (T := 52) (x := (.tmp 43)) (o := 0) (d := 44) (n := 1) (v := .slice (some ⟨b1058, o1059, none⟩) t.All.length n_t_0) (by kernel_rfl) (by kernel_rfl) (by kernel_rfl) (s1097.chunk 3 rfl) (by kernel_rfl) ?_
              refine Op.pures 1 [2, 3, 4, 5, 6, 7, 42, 44, 45] (L' := [(4, false), (5, false), (6, false), (7, false), (8, false)]) (e' := [(2, .pointer (some ⟨b1038, 0, none⟩)), (3, .pointer (some ⟨b1041, 0, none⟩)), (4, .pointer (some ⟨b1044, 0, none⟩)), (5, .slice a1095 ((out ++ ([l])).length) n1096), (6, .bool true), (7, .int .i64 i), (42, .slice a1095 ((out ++ ([l])).length) n1096), (44, .slice (some ⟨b1058, o1059, none⟩) t.All.length n_t_0), (45, .int .i64 i)]) (by kernel_rfl) ?_
              obtain ⟨b1100, o1101, cu1102, fz1103, ha1104, hb1105, hk1106⟩ := SlR.at_ h_t_0 _ hx1057
              cases ha1104
              refine Op.idx (T := 52) (E := 59) (sz := 6) (by_ := 72) (n := t.All.length) (c := n_t_0) (k := .i64) (x := (.tmp 44)) (ix := (.tmp 45)) (dst := 46) (bk := b1058) (o := o1059) (m := i) (by kernel_rfl) (by kernel_rfl) (by kernel_rfl) (by kernel_rfl) (by omega) (by omega) ?_
              obtain ⟨v1107, hv1108, hk1106⟩ := hk1106
              obtain ⟨a1109, n1110, rfl⟩ := hv1108.form
              refine Op.loadA (T := 59) (x := (.tmp 46)) (o := o1059 + (i : Int).toNat * 6) (d := 47) (n := 6) (vs := [.string (mkS x1056.Path), .slice a1109 x1056.Data.length n1110, .int .i64 x1056.Version, .int .i64 x1056.Owner, .int .i64 x1056.Next, .int .i64 x1056.Born]) (by kernel_rfl) (by kernel_rfl) (by kernel_rfl) (s1097.sub _ _ hb1105) (hk1106) rfl ?_
              refine Op.lit (T := 52) (len := 1) (parts := #[(0, (.tmp 47))]) (dst := 48) (E := 59) (ps := [(0, .agg #[.string (mkS x1056.Path), .slice a1109 x1056.Data.length n1110, .int .i64 x1056.Version, .int .i64 x1056.Owner, .int .i64 x1056.Next, .int .i64 x1056.Born])]) (cs := #[.string (mkS x1056.Path), .slice a1109 x1056.Data.length n1110, .int .i64 x1056.Version, .int .i64 x1056.Owner, .int .i64 x1056.Next, .int .i64 x1056.Born]) (by kernel_rfl) (by kernel_rfl) (by kernel_rfl) s1097 ?_
              intro b1111 h1112 s1113
              refine Op.append (x := (.tmp 42)) (y := (.tmp 48)) (t := 52) (t' := 52) (dst := 49) (E := 59) (by_ := 72) (d := kLeaf) (by kernel_rfl) (by kernel_rfl) (by kernel_rfl) (by kernel_rfl) rfl R1092 s1113 1 rfl (Src.lit (m := 1) (sz := 6) (s1113.chunk 0 rfl) (news := [.string (mkS x1056.Path), .slice a1109 x1056.Data.length n1110, .int .i64 x1056.Version, .int .i64 x1056.Owner, .int .i64 x1056.Next, .int .i64 x1056.Born]) rfl rfl (by simp [Value.oneCell']) _) (ys := [x1056]) (⟨_, _, rfl, ⟨_, hv1108, rfl⟩, Reads.nil⟩) rfl (by (have := withI_len hw h0 h3; simp only [List.length_append, List.length_cons, List.length_nil]; omega)) (fun _ _ _ => trivial) ?_
              intro v1114 ch1115 h1116 R1117 s1118 nn1119
              obtain ⟨a1120, n1121, rfl⟩ := R1117.form
              have s1122 := (s1118.front 0 rfl).drop
              refine Op.pures 1 [2, 3, 4, 5, 6, 7] (L' := []) (e' := [(2, .pointer (some ⟨b1038, 0, none⟩)), (3, .pointer (some ⟨b1041, 0, none⟩)), (4, .pointer (some ⟨b1044, 0, none⟩)), (5, .slice a1120 (((out ++ ([l])) ++ ([x1056])).length) n1121), (6, .bool true), (7, .int .i64 i)]) (by kernel_rfl) ?_
              refine Op.goto 13 (by kernel_rfl) ?_
              refine At.reg (L := [(0, false), (1, false), (2, false)]) (by kernel_rfl) ?_
              refine Op.pures 1 [2, 3, 4, 5, 6, 7, 14] (L' := [(1, false), (2, false)]) (e' := [(2, .pointer (some ⟨b1038, 0, none⟩)), (3, .pointer (some ⟨b1041, 0, none⟩)), (4, .pointer (some ⟨b1044, 0, none⟩)), (5, .slice a1120 (((out ++ ([l])) ++ ([x1056])).length) n1121), (6, .bool true), (7, .int .i64 i), (14, .int .i64 i)]) (by kernel_rfl) ?_
              refine Op.val (dst := some 15) (v := .int .i64 (IntKind.wrap .i64 (i + 1))) (v' := .int .i64 (i + 1)) (by kernel_rfl) (wrapEq_i64 (by omega) (by omega)) ?_
              refine Op.pures 1 [2, 3, 4, 5, 6, 7] (L' := []) (e' := [(2, .pointer (some ⟨b1038, 0, none⟩)), (3, .pointer (some ⟨b1041, 0, none⟩)), (4, .pointer (some ⟨b1044, 0, none⟩)), (5, .slice a1120 (((out ++ ([l])) ++ ([x1056])).length) n1121), (6, .bool true), (7, .int .i64 (i + 1))]) (by kernel_rfl) ?_
              refine Op.goto 4 (by kernel_rfl) ?_
              exact ih4  ((out ++ ([l])) ++ ([x1056])) true (i + 1) _ _ _ _ (by omega) (by omega) (by omega) (by exact withI_put hw h0 hx1057 (by assumption) (by assumption) (by assumption)) R1117 s1122
            · have c1123 : (Go.Op.bytesLess l.Path x1056.Path) = false := hb
              clear hb
              refine At.keep [2, 3, 4, 5, 6, 7] ?_; show At _ _ _ [(2, .pointer (some ⟨b1038, 0, none⟩)), (3, .pointer (some ⟨b1041, 0, none⟩)), (4, .pointer (some ⟨b1044, 0, none⟩)), (5, .slice a1050 out.length n1051), (6, .bool put), (7, .int .i64 i)] _
              refine At.reg (L := [(0, false), (1, false), (2, false), (3, false), (4, false), (5, false), (6, false), (7, false), (8, false)]) (by kernel_rfl) ?_
              refine Op.pures 2 [2, 3, 4, 5, 6, 7, 42, 43] (L' := [(2, false), (3, false), (4, false), (5, false), (6, false), (7, false), (8, false)]) (e' := [(2, .pointer (some ⟨b1038, 0, none⟩)), (3, .pointer (some ⟨b1041, 0, none⟩)), (4, .pointer (some ⟨b1044, 0, none⟩)), (5, .slice a1050 out.length n1051), (6, .bool put), (7, .int .i64 i), (42, .slice a1050 out.length n1051), (43, .pointer (some ⟨b1038, 0, none⟩))]) (by kernel_rfl) ?_
              refine Op.load (T := 52) (x := (.tmp 43)) (o := 0) (d := 44) (n := 1) (v := .slice (some ⟨b1058, o1059, none⟩) t.All.length n_t_0) (by kernel_rfl) (by kernel_rfl) (by kernel_rfl) (s_loop41053.chunk 3 rfl) (by kernel_rfl) ?_
              refine Op.pures 1 [2, 3, 4, 5, 6, 7, 42, 44, 45] (L' := [(4, false), (5, false), (6, false), (7, false), (8, false)]) (e' := [(2, .pointer (some ⟨b1038, 0, none⟩)), (3, .pointer (some ⟨b1041, 0, none⟩)), (4, .pointer (some ⟨b1044, 0, none⟩)), (5, .slice a1050 out.length n1051), (6, .bool put), (7, .int .i64 i), (42, .slice a1050 out.length n1051), (44, .slice (some ⟨b1058, o1059, none⟩) t.All.length n_t_0), (45, .int .i64 i)]) (by kernel_rfl) ?_
              obtain ⟨b1126, o1127, cu1128, fz1129, ha1130, hb1131, hk1132⟩ := SlR.at_ h_t_0 _ hx1057
              cases ha1130
              refine Op.idx (T := 52) (E := 59) (sz := 6) (by_ := 72) (n := t.All.length) (c := n_t_0) (k := .i64) (x := (.tmp 44)) (ix := (.tmp 45)) (dst := 46) (bk := b1058) (o := o1059) (m := i) (by kernel_rfl) (by kernel_rfl) (by kernel_rfl) (by kernel_rfl) (by omega) (by omega) ?_
              obtain ⟨v1133, hv1134, hk1132⟩ := hk1132
              obtain ⟨a1135, n1136, rfl⟩ := hv1134.form
              refine Op.loadA (T := 59) (x := (.tmp 46)) (o := o1059 + (i : Int).toNat * 6) (d := 47) (n := 6) (vs := [.string (mkS x1056.Path), .slice a1135 x1056.Data.length n1136, .int .i64 x1056.Version, .int .i64 x1056.Owner, .int .i64 x1056.Next, .int .i64 x1056.Born]) (by kernel_rfl) (by kernel_rfl) (by kernel_rfl) (s_loop41053.sub _ _ hb1131) (hk1132) rfl ?_
              refine Op.lit (T := 52) (len := 1) (parts := #[(0, (.tmp 47))]) (dst := 48) (E := 59) (ps := [(0, .agg #[.string (mkS x1056.Path), .slice a1135 x1056.Data.length n1136, .int .i64 x1056.Version, .int .i64 x1056.Owner, .int .i64 x1056.Next, .int .i64 x1056.Born])]) (cs := #[.string (mkS x1056.Path), .slice a1135 x1056.Data.length n1136, .int .i64 x1056.Version, .int .i64 x1056.Owner, .int .i64 x1056.Next, .int .i64 x1056.Born]) (by kernel_rfl) (by kernel_rfl) (by kernel_rfl) s_loop41053 ?_
              intro b1137 h1138 s1139
              refine Op.append (x := (.tmp 42)) (y := (.tmp 48)) (t := 52) (t' := 52) (dst := 49) (E := 59) (by_ := 72) (d := kLeaf) (by kernel_rfl) (by kernel_rfl) (by kernel_rfl) (by kernel_rfl) rfl R1053 s1139 1 rfl (Src.lit (m := 1) (sz := 6) (s1139.chunk 0 rfl) (news := [.string (mkS x1056.Path), .slice a1135 x1056.Data.length n1136, .int .i64 x1056.Version, .int .i64 x1056.Owner, .int .i64 x1056.Next, .int .i64 x1056.Born]) rfl rfl (by simp [Value.oneCell']) _) (ys := [x1056]) (⟨_, _, rfl, ⟨_, hv1134, rfl⟩, Reads.nil⟩) rfl (by (have := withI_len hw h0 h3; simp only [List.length_append, List.length_cons, List.length_nil]; omega)) (fun _ _ _ => trivial) ?_
              intro v1140 ch1141 h1142 R1143 s1144 nn1145
              obtain ⟨a1146, n1147, rfl⟩ := R1143.form
              have s1148 := (s1144.front 0 rfl).drop
              refine Op.pures 1 [2, 3, 4, 5, 6, 7] (L' := []) (e' := [(2, .pointer (some ⟨b1038, 0, none⟩)), (3, .pointer (some ⟨b1041, 0, none⟩)), (4, .pointer (some ⟨b1044, 0, none⟩)), (5, .slice a1146 ((out ++ ([x1056])).length) n1147), (6, .bool put), (7, .int .i64 i)]) (by kernel_rfl) ?_
              refine Op.goto 13 (by kernel_rfl) ?_
              refine At.reg (L := [(0, false), (1, false), (2, false)]) (by kernel_rfl) ?_
              refine Op.pures 1 [2, 3, 4, 5, 6, 7, 14] (L' := [(1, false), (2, false)]) (e' := [(2, .pointer (some ⟨b1038, 0, none⟩)), (3, .pointer (some ⟨b1041, 0, none⟩)), (4, .pointer (some ⟨b1044, 0, none⟩)), (5, .slice a1146 ((out ++ ([x1056])).length) n1147), (6, .bool put), (7, .int .i64 i), (14, .int .i64 i)]) (by kernel_rfl) ?_
              refine Op.val (dst := some 15) (v := .int .i64 (IntKind.wrap .i64 (i + 1))) (v' := .int .i64 (i + 1)) (by kernel_rfl) (wrapEq_i64 (by omega) (by omega)) ?_
              refine Op.pures 1 [2, 3, 4, 5, 6, 7] (L' := []) (e' := [(2, .pointer (some ⟨b1038, 0, none⟩)), (3, .pointer (some ⟨b1041, 0, none⟩)), (4, .pointer (some ⟨b1044, 0, none⟩)), (5, .slice a1146 ((out ++ ([x1056])).length) n1147), (6, .bool put), (7, .int .i64 (i + 1))]) (by kernel_rfl) ?_
              refine Op.goto 4 (by kernel_rfl) ?_
              exact ih4  (out ++ ([x1056])) put (i + 1) _ _ _ _ (by omega) (by omega) (by omega) (by exact withI_f hw h0 hx1057 (by assumption) (by assumption) (by assumption)) R1143 s1148
          · refine Op.cast (e' := [(2, .pointer (some ⟨b1038, 0, none⟩)), (3, .pointer (some ⟨b1041, 0, none⟩)), (4, .pointer (some ⟨b1044, 0, none⟩)), (5, .slice a1050 out.length n1051), (6, .bool put), (7, .int .i64 i), (27, .bool false)]) (by rw [hb]) ?_
            have c1149 : put = true := (notF hb)
            clear hb
            refine Op.pures 10 [2, 3, 4, 5, 6, 7, 37] (L' := []) (e' := [(2, .pointer (some ⟨b1038, 0, none⟩)), (3, .pointer (some ⟨b1041, 0, none⟩)), (4, .pointer (some ⟨b1044, 0, none⟩)), (5, .slice a1050 out.length n1051), (6, .bool put), (7, .int .i64 i), (37, .bool false)]) (by kernel_rfl) ?_
            refine Op.goto 9 (by kernel_rfl) ?_
            refine At.condF (c := .tmp 37) (by kernel_rfl) (by kernel_rfl) (by kernel_rfl) 12 (by kernel_rfl) ?_
            refine At.reg (L := [(0, false), (1, false), (2, false), (3, false), (4, false), (5, false), (6, false), (7, false), (8, false)]) (by kernel_rfl) ?_
            refine Op.pures 2 [2, 3, 4, 5, 6, 7, 42, 43] (L' := [(2, false), (3, false), (4, false), (5, false), (6, false), (7, false), (8, false)]) (e' := [(2, .pointer (some ⟨b1038, 0, none⟩)), (3, .pointer (some ⟨b1041, 0, none⟩)), (4, .pointer (some ⟨b1044, 0, none⟩)), (5, .slice a1050 out.length n1051), (6, .bool put), (7, .int .i64 i), (42, .slice a1050 out.length n1051), (43, .pointer (some ⟨b1038, 0, none⟩))]) (by kernel_rfl) ?_
            refine Op.load (T := 52) (x := (.tmp 43)) (o := 0) (d := 44) (n := 1) (v := .slice (some ⟨b1058, o1059, none⟩) t.All.length n_t_0) (by kernel_rfl) (by kernel_rfl) (by kernel_rfl) (s_loop41053.chunk 3 rfl) (by kernel_rfl) ?_
            refine Op.pures 1 [2, 3, 4, 5, 6, 7, 42, 44, 45] (L' := [(4, false), (5, false), (6, false), (7, false), (8, false)]) (e' := [(2, .pointer (some ⟨b1038, 0, none⟩)), (3, .pointer (some ⟨b1041, 0, none⟩)), (4, .pointer (some ⟨b1044, 0, none⟩)), (5, .slice a1050 out.length n1051), (6, .bool put), (7, .int .i64 i), (42, .slice a1050 out.length n1051), (44, .slice (some ⟨b1058, o1059, none⟩) t.All.length n_t_0), (45, .int .i64 i)]) (by kernel_rfl) ?_
            obtain ⟨b1152, o1153, cu1154, fz1155, ha1156, hb1157, hk1158⟩ := SlR.at_ h_t_0 _ hx1057
            cases ha1156
            refine Op.idx (T := 52) (E := 59) (sz := 6) (by_ := 72) (n := t.All.length) (c := n_t_0) (k := .i64) (x := (.tmp 44)) (ix := (.tmp 45)) (dst := 46) (bk := b1058) (o := o1059) (m := i) (by kernel_rfl) (by kernel_rfl) (by kernel_rfl) (by kernel_rfl) (by omega) (by omega) ?_
            obtain ⟨v1159, hv1160, hk1158⟩ := hk1158
            obtain ⟨a1161, n1162, rfl⟩ := hv1160.form
            refine Op.loadA (T := 59) (x := (.tmp 46)) (o := o1059 + (i : Int).toNat * 6) (d := 47) (n := 6) (vs := [.string (mkS x1056.Path), .slice a1161 x1056.Data.length n1162, .int .i64 x1056.Version, .int .i64 x1056.Owner, .int .i64 x1056.Next, .int .i64 x1056.Born]) (by kernel_rfl) (by kernel_rfl) (by kernel_rfl) (s_loop41053.sub _ _ hb1157) (hk1158) rfl ?_
            refine Op.lit (T := 52) (len := 1) (parts := #[(0, (.tmp 47))]) (dst := 48) (E := 59) (ps := [(0, .agg #[.string (mkS x1056.Path), .slice a1161 x1056.Data.length n1162, .int .i64 x1056.Version, .int .i64 x1056.Owner, .int .i64 x1056.Next, .int .i64 x1056.Born])]) (cs := #[.string (mkS x1056.Path), .slice a1161 x1056.Data.length n1162, .int .i64 x1056.Version, .int .i64 x1056.Owner, .int .i64 x1056.Next, .int .i64 x1056.Born]) (by kernel_rfl) (by kernel_rfl) (by kernel_rfl) s_loop41053 ?_
            intro b1163 h1164 s1165
            refine Op.append (x := (.tmp 42)) (y := (.tmp 48)) (t := 52) (t' := 52) (dst := 49) (E := 59) (by_ := 72) (d := kLeaf) (by kernel_rfl) (by kernel_rfl) (by kernel_rfl) (by kernel_rfl) rfl R1053 s1165 1 rfl (Src.lit (m := 1) (sz := 6) (s1165.chunk 0 rfl) (news := [.string (mkS x1056.Path), .slice a1161 x1056.Data.length n1162, .int .i64 x1056.Version, .int .i64 x1056.Owner, .int .i64 x1056.Next, .int .i64 x1056.Born]) rfl rfl (by simp [Value.oneCell']) _) (ys := [x1056]) (⟨_, _, rfl, ⟨_, hv1160, rfl⟩, Reads.nil⟩) rfl (by (have := withI_len hw h0 h3; simp only [List.length_append, List.length_cons, List.length_nil]; omega)) (fun _ _ _ => trivial) ?_
            intro v1166 ch1167 h1168 R1169 s1170 nn1171
            obtain ⟨a1172, n1173, rfl⟩ := R1169.form
            have s1174 := (s1170.front 0 rfl).drop
            refine Op.pures 1 [2, 3, 4, 5, 6, 7] (L' := []) (e' := [(2, .pointer (some ⟨b1038, 0, none⟩)), (3, .pointer (some ⟨b1041, 0, none⟩)), (4, .pointer (some ⟨b1044, 0, none⟩)), (5, .slice a1172 ((out ++ ([x1056])).length) n1173), (6, .bool put), (7, .int .i64 i)]) (by kernel_rfl) ?_
            refine Op.goto 13 (by kernel_rfl) ?_
            refine At.reg (L := [(0, false), (1, false), (2, false)]) (by kernel_rfl) ?_
            refine Op.pures 1 [2, 3, 4, 5, 6, 7, 14] (L' := [(1, false), (2, false)]) (e' := [(2, .pointer (some ⟨b1038, 0, none⟩)), (3, .pointer (some ⟨b1041, 0, none⟩)), (4, .pointer (some ⟨b1044, 0, none⟩)), (5, .slice a1172 ((out ++ ([x1056])).length) n1173), (6, .bool put), (7, .int .i64 i), (14, .int .i64 i)]) (by kernel_rfl) ?_
            refine Op.val (dst := some 15) (v := .int .i64 (IntKind.wrap .i64 (i + 1))) (v' := .int .i64 (i + 1)) (by kernel_rfl) (wrapEq_i64 (by omega) (by omega)) ?_
            refine Op.pures 1 [2, 3, 4, 5, 6, 7] (L' := []) (e' := [(2, .pointer (some ⟨b1038, 0, none⟩)), (3, .pointer (some ⟨b1041, 0, none⟩)), (4, .pointer (some ⟨b1044, 0, none⟩)), (5, .slice a1172 ((out ++ ([x1056])).length) n1173), (6, .bool put), (7, .int .i64 (i + 1))]) (by kernel_rfl) ?_
            refine Op.goto 4 (by kernel_rfl) ?_
            exact ih4  (out ++ ([x1056])) put (i + 1) _ _ _ _ (by omega) (by omega) (by omega) (by exact withI_t hw h0 hx1057 (by assumption) (by assumption)) R1169 s1174
      · have c1175 : ¬ (i < (t.All.length : Int)) := of_decide_eq_false hb
        clear hb
        refine At.keep [2, 3, 4, 5, 6] ?_; show At _ _ _ [(2, .pointer (some ⟨b1038, 0, none⟩)), (3, .pointer (some ⟨b1041, 0, none⟩)), (4, .pointer (some ⟨b1044, 0, none⟩)), (5, .slice a1050 out.length n1051), (6, .bool put)] _
        refine At.reg (L := [(0, false), (1, false)]) (by kernel_rfl) ?_
        refine Op.pures 2 [2, 3, 4, 5, 51] (L' := []) (e' := [(2, .pointer (some ⟨b1038, 0, none⟩)), (3, .pointer (some ⟨b1041, 0, none⟩)), (4, .pointer (some ⟨b1044, 0, none⟩)), (5, .slice a1050 out.length n1051), (51, .bool (!put))]) (by kernel_rfl) ?_
        refine Op.goto 15 (by kernel_rfl) ?_
        refine At.cond (b := !put) (c := .tmp 51) (by kernel_rfl) (by kernel_rfl) (by kernel_rfl) 16 17 (by kernel_rfl) (by kernel_rfl) (fun hb => ?_) (fun hb => ?_)
        · have c1176 : put = false := (notT hb)
          clear hb
          refine At.keep [2, 3, 4, 5] ?_; show At _ _ _ [(2, .pointer (some ⟨b1038, 0, none⟩)), (3, .pointer (some ⟨b1041, 0, none⟩)), (4, .pointer (some ⟨b1044, 0, none⟩)), (5, .slice a1050 out.length n1051)] _
          refine At.reg (L := [(0, false), (1, false), (2, false), (3, false), (4, false)]) (by kernel_rfl) ?_
          refine Op.pures 1 [2, 3, 4, 5, 52] (L' := [(1, false), (2, false), (3, false), (4, false)]) (e' := [(2, .pointer (some ⟨b1038, 0, none⟩)), (3, .pointer (some ⟨b1041, 0, none⟩)), (4, .pointer (some ⟨b1044, 0, none⟩)), (5, .slice a1050 out.length n1051), (52, .slice a1050 out.length n1051)]) (by kernel_rfl) ?_
          refine Op.loadA (T := 59) (x := (.tmp 3)) (o := 0) (d := 53) (n := 6) (vs := [.string (mkS l.Path), .slice a_l_1 l.Data.length n_l_1, .int .i64 l.Version, .int .i64 l.Owner, .int .i64 l.Next, .int .i64 l.Born]) (by kernel_rfl) (by kernel_rfl) (by kernel_rfl) (s_loop41053.chunk 2 rfl) (by kernel_rfl) rfl ?_
          refine Op.lit (T := 52) (len := 1) (parts := #[(0, (.tmp 53))]) (dst := 54) (E := 59) (ps := [(0, .agg #[.string (mkS l.Path), .slice a_l_1 l.Data.length n_l_1, .int .i64 l.Version, .int .i64 l.Owner, .int .i64 l.Next, .int .i64 l.Born])]) (cs := #[.string (mkS l.Path), .slice a_l_1 l.Data.length n_l_1, .int .i64 l.Version, .int .i64 l.Owner, .int .i64 l.Next, .int .i64 l.Born]) (by kernel_rfl) (by kernel_rfl) (by kernel_rfl) s_loop41053 ?_
          intro b1177 h1178 s1179
          refine Op.append (x := (.tmp 52)) (y := (.tmp 54)) (t := 52) (t' := 52) (dst := 55) (E := 59) (by_ := 72) (d := kLeaf) (by kernel_rfl) (by kernel_rfl) (by kernel_rfl) (by kernel_rfl) rfl R1053 s1179 1 rfl (Src.lit (m := 1) (sz := 6) (s1179.chunk 0 rfl) (news := [.string (mkS l.Path), .slice a_l_1 l.Data.length n_l_1, .int .i64 l.Version, .int .i64 l.Owner, .int .i64 l.Next, .int .i64 l.Born]) rfl rfl (by simp [Value.oneCell']) _) (ys := [l]) (⟨_, _, rfl, ⟨_, h_l_1, rfl⟩, Reads.nil⟩) rfl (by (have := withI_len hw h0 h3; simp only [List.length_append, List.length_cons, List.length_nil]; omega)) (fun _ _ _ => trivial) ?_
          intro v1180 ch1181 h1182 R1183 s1184 nn1185
          obtain ⟨a1186, n1187, rfl⟩ := R1183.form
          have s1188 := (s1184.front 0 rfl).drop
          refine Op.pures 1 [2, 4, 5] (L' := []) (e' := [(2, .pointer (some ⟨b1038, 0, none⟩)), (4, .pointer (some ⟨b1044, 0, none⟩)), (5, .slice a1186 ((out ++ ([l])).length) n1187)]) (by kernel_rfl) ?_
          refine Op.goto 17 (by kernel_rfl) ?_
          refine At.reg (L := [(0, false), (1, false), (2, false)]) (by kernel_rfl) ?_
          refine Op.pures 2 [2, 4, 56, 57] (L' := [(2, false)]) (e' := [(2, .pointer (some ⟨b1038, 0, none⟩)), (4, .pointer (some ⟨b1044, 0, none⟩)), (56, .slice a1186 ((out ++ ([l])).length) n1187), (57, .pointer (some ⟨b1038, 0, none⟩))]) (by kernel_rfl) ?_
          refine Op.store (T := 52) (x := (.tmp 57)) (y := (.tmp 56)) (b := b1038) (o := 0) (vs := [.slice a1186 ((out ++ ([l])).length) n1187]) (a? := false) (n := 1) (by kernel_rfl) (by kernel_rfl) (by kernel_rfl) (by kernel_rfl) rfl (by simp [Value.oneCell']) s1188 3 rfl (Nat.le_of_ble_eq_true (by kernel_rfl)) (cs := #[.slice a_t_0 t.All.length n_t_0]) (cs' := #[.slice a1186 ((out ++ ([l])).length) n1187]) (by kernel_rfl) (fun _ => trivial) ?_
          intro h1189 s1190
          refine Op.goto 18 (by kernel_rfl) ?_
          refine At.reg (L := [(0, false), (1, false)]) (by kernel_rfl) ?_
          refine Op.loadA (T := 75) (x := (.tmp 2)) (o := 0) (d := 58) (n := 1) (vs := [.slice a1186 ((out ++ ([l])).length) n1187]) (by kernel_rfl) (by kernel_rfl) (by kernel_rfl) (s1190.chunk 3 rfl) (by kernel_rfl) rfl ?_
          refine Op.store (T := 75) (x := (.tmp 4)) (y := (.tmp 58)) (b := b1044) (o := 0) (vs := [.slice a1186 ((out ++ ([l])).length) n1187]) (a? := true) (n := 1) (by kernel_rfl) (by kernel_rfl) (by kernel_rfl) (by kernel_rfl) rfl (by simp [Value.oneCell']) s1190 1 rfl (Nat.le_of_ble_eq_true (by kernel_rfl)) (cs := #[.slice none 0 0]) (cs' := #[.slice a1186 ((out ++ ([l])).length) n1187]) (by kernel_rfl) (fun _ => trivial) ?_
          intro h1191 s1192
          refine Op.goto 19 (by kernel_rfl) ?_
          obtain ⟨g1193, s1194, hle1195, hf1196⟩ := Row.freeze R1183 (s1192.front 0 rfl)
          replace hG := hG.mono hle1195
          replace h_l_1 := h_l_1.mono hle1195
          refine At.retM (f := Tryz.f88) (vs := [.agg #[.slice a1186 ((out ++ ([l])).length) n1187]]) (rl := [.cell 4 75]) (v := .agg #[.slice a1186 ((out ++ ([l])).length) n1187]) (by kernel_rfl) (by kernel_rfl) ⟨⟨_, _, rfl, resAgg (n := 1) (by kernel_rfl) (s1194.chunk 0 rfl) (by kernel_rfl) rfl⟩, trivial⟩ rfl ?_
          have s1197 : St h g (ids []) g1193 [] h1191 := (s1194).drop.drop.drop
          refine hR _ _ _ _ s1197 ⟨(.slice a1186 ((out ++ ([l])).length) n1187), ?_, ?_, rfl⟩
          · exact rfl
          · exact slEq hf1196 (by exact withI_end0 hw c1175 (by assumption))
        · have c1198 : put = true := (notF hb)
          clear hb
          refine At.keep [2, 4, 5] ?_; show At _ _ _ [(2, .pointer (some ⟨b1038, 0, none⟩)), (4, .pointer (some ⟨b1044, 0, none⟩)), (5, .slice a1050 out.length n1051)] _
          refine At.reg (L := [(0, false), (1, false), (2, false)]) (by kernel_rfl) ?_
          refine Op.pures 2 [2, 4, 56, 57] (L' := [(2, false)]) (e' := [(2, .pointer (some ⟨b1038, 0, none⟩)), (4, .pointer (some ⟨b1044, 0, none⟩)), (56, .slice a1050 out.length n1051), (57, .pointer (some ⟨b1038, 0, none⟩))]) (by kernel_rfl) ?_
          refine Op.store (T := 52) (x := (.tmp 57)) (y := (.tmp 56)) (b := b1038) (o := 0) (vs := [.slice a1050 out.length n1051]) (a? := false) (n := 1) (by kernel_rfl) (by kernel_rfl) (by kernel_rfl) (by kernel_rfl) rfl (by simp [Value.oneCell']) s_loop41053 3 rfl (Nat.le_of_ble_eq_true (by kernel_rfl)) (cs := #[.slice a_t_0 t.All.length n_t_0]) (cs' := #[.slice a1050 out.length n1051]) (by kernel_rfl) (fun _ => trivial) ?_
          intro h1199 s1200
          refine Op.goto 18 (by kernel_rfl) ?_
          refine At.reg (L := [(0, false), (1, false)]) (by kernel_rfl) ?_
          refine Op.loadA (T := 75) (x := (.tmp 2)) (o := 0) (d := 58) (n := 1) (vs := [.slice a1050 out.length n1051]) (by kernel_rfl) (by kernel_rfl) (by kernel_rfl) (s1200.chunk 3 rfl) (by kernel_rfl) rfl ?_
          refine Op.store (T := 75) (x := (.tmp 4)) (y := (.tmp 58)) (b := b1044) (o := 0) (vs := [.slice a1050 out.length n1051]) (a? := true) (n := 1) (by kernel_rfl) (by kernel_rfl) (by kernel_rfl) (by kernel_rfl) rfl (by simp [Value.oneCell']) s1200 1 rfl (Nat.le_of_ble_eq_true (by kernel_rfl)) (cs := #[.slice none 0 0]) (cs' := #[.slice a1050 out.length n1051]) (by kernel_rfl) (fun _ => trivial) ?_
          intro h1201 s1202
          refine Op.goto 19 (by kernel_rfl) ?_
          obtain ⟨g1203, s1204, hle1205, hf1206⟩ := Row.freeze R1053 (s1202.front 0 rfl)
          replace hG := hG.mono hle1205
          replace h_l_1 := h_l_1.mono hle1205
          refine At.retM (f := Tryz.f88) (vs := [.agg #[.slice a1050 out.length n1051]]) (rl := [.cell 4 75]) (v := .agg #[.slice a1050 out.length n1051]) (by kernel_rfl) (by kernel_rfl) ⟨⟨_, _, rfl, resAgg (n := 1) (by kernel_rfl) (s1204.chunk 0 rfl) (by kernel_rfl) rfl⟩, trivial⟩ rfl ?_
          have s1207 : St h g (ids []) g1203 [] h1201 := (s1204).drop.drop.drop
          refine hR _ _ _ _ s1207 ⟨(.slice a1050 out.length n1051), ?_, ?_, rfl⟩
          · exact rfl
          · exact slEq hf1206 (by exact withI_end1 hw c1175 (by assumption))
  have R1208 : Row 59 kLeaf g (.slice (some ⟨b1047, 0, none⟩) 0 0) ([] : List Leaf) [(b1047, Obj.cells #[] 59 (0, 0))] := Row.lit (by kernel_rfl) (by unfold maxLen; decide) (by kernel_rfl) Reads.nil
  exact loop4 _  ([] : List Leaf) false 0 _ _ _ _ (Nat.lt_succ_self _) (by omega) (by omega) (by exact withI_0 _ _) R1208 s1049
theorem makeR (B : World) (h : Heap) (g : GH) (hg : Sub g h) (hG : Glob g) (t : R10Tree) (v_t_0 : Value) (h_t_0 : SlR g 59 kLeaf v_t_0 t.All) (p : List UInt8) (v_data : Value) (data : List UInt8) (h_data : SlR g 5 kU8 v_data data) (owner : Int) (born : Int) (num : Bool) (hB : TreeB t.All) (hp : p.length ≤ 100000000) (hd : data.length ≤ 1000000000) :
    Spec Tryz.prog B 44 #[.agg #[v_t_0], .string (mkS p), v_data, .int .i64 owner, .int .i64 born, .bool num] h g [] (fun rv g' L' => ∃ v0, rv = .tuple #[.agg #[v0], .string (mkS ((makeT t.All p data owner born num).2.1)), .int .i64 ((makeT t.All p data owner born num).2.2)] ∧ SlR g' 59 kLeaf v0 ((⟨(makeT t.All p data owner born num).1⟩ : R10Tree).All) ∧ L' = []) := by
  obtain ⟨a_t_0, n_t_0, rfl⟩ := h_t_0.form
  obtain ⟨a_data, n_data, rfl⟩ := h_data.form
  refine Spec.of_at (f := Tryz.f44) (e := [(0, .agg #[.slice a_t_0 t.All.length n_t_0]), (1, .string (mkS p)), (2, .slice a_data data.length n_data), (3, .int .i64 owner), (4, .int .i64 born), (5, .bool num)]) Tryz.func44 (by kernel_rfl) (Nat.le_of_ble_eq_true (by kernel_rfl)) (by kernel_rfl) (by kernel_rfl) ?_
  intro R hR
  have s0 := St.init hg
  refine At.reg (L := [(0, false), (1, false), (2, false), (3, false)]) (by kernel_rfl) ?_
  refine Op.box (T := 75) (x := (.tmp 0)) (d := 6) (cs := #[.slice a_t_0 t.All.length n_t_0]) (by kernel_rfl) (by kernel_rfl) s0 ?_
  intro b1271 h1272 s1273
  refine Op.alloc (T := 75) (dst := 12) (cs := #[.slice none 0 0]) (by kernel_rfl) (by kernel_rfl) s1273 ?_
  intro b1274 h1275 s1276
  refine Op.pures 2 [1, 2, 3, 4, 5, 6, 12] (L' := []) (e' := [(1, .string (mkS p)), (2, .slice a_data data.length n_data), (3, .int .i64 owner), (4, .int .i64 born), (5, .bool num), (6, .pointer (some ⟨b1271, 0, none⟩)), (12, .pointer (some ⟨b1274, 0, none⟩))]) (by kernel_rfl) ?_
  refine Op.goto 1 (by kernel_rfl) ?_
  refine At.reg (L := [(0, false), (1, false), (2, false), (3, false), (4, false), (5, false), (6, false)]) (by kernel_rfl) ?_
  refine Op.pures 1 [1, 2, 3, 4, 5, 6, 12, 20] (L' := [(1, false), (2, false), (3, false), (4, false), (5, false), (6, false)]) (e' := [(1, .string (mkS p)), (2, .slice a_data data.length n_data), (3, .int .i64 owner), (4, .int .i64 born), (5, .bool num), (6, .pointer (some ⟨b1271, 0, none⟩)), (12, .pointer (some ⟨b1274, 0, none⟩)), (20, .string (mkS p))]) (by kernel_rfl) ?_
  refine Op.call0 (dst := some 21) (f := 85) (args := #[.string (mkS p)]) (by kernel_rfl) s1276 (parentR _ _ _ s1276.sub hG p (by ((try dsimp only) <;> (omega))) ) ?_
  rintro _ g1279 _ h1277 hle1280 s1278 ⟨rfl, hgg, rfl⟩; subst g1279; clear hle1280
  refine Op.pures 5 [1, 2, 3, 4, 5, 6, 12, 15, 16] (L' := []) (e' := [(1, .string (mkS p)), (2, .slice a_data data.length n_data), (3, .int .i64 owner), (4, .int .i64 born), (5, .bool num), (6, .pointer (some ⟨b1271, 0, none⟩)), (12, .pointer (some ⟨b1274, 0, none⟩)), (15, .string (mkS (parentOf p))), (16, .int .i64 (cutErr p))]) (by kernel_rfl) ?_
  refine Op.goto 2 (by kernel_rfl) ?_
  refine At.reg (L := [(0, false), (1, false)]) (by kernel_rfl) ?_
  refine Op.pures 2 [1, 2, 3, 4, 5, 6, 12, 15, 16, 25] (L' := []) (e' := [(1, .string (mkS p)), (2, .slice a_data data.length n_data), (3, .int .i64 owner), (4, .int .i64 born), (5, .bool num), (6, .pointer (some ⟨b1271, 0, none⟩)), (12, .pointer (some ⟨b1274, 0, none⟩)), (15, .string (mkS (parentOf p))), (16, .int .i64 (cutErr p)), (25, .bool ((cutErr p) != (0 : Int)))]) (by kernel_rfl) ?_
  refine Op.goto 3 (by kernel_rfl) ?_
  refine At.cond (b := (cutErr p) != (0 : Int)) (c := .tmp 25) (by kernel_rfl) (by kernel_rfl) (by kernel_rfl) 4 6 (by kernel_rfl) (by kernel_rfl) (fun hb => ?_) (fun hb => ?_)
  · have c1281 : ¬ ((cutErr p) = (0 : Int)) := bneT hb
    clear hb
    refine At.keep [6, 12, 16] ?_; show At _ _ _ [(6, .pointer (some ⟨b1271, 0, none⟩)), (12, .pointer (some ⟨b1274, 0, none⟩)), (16, .int .i64 (cutErr p))] _
    refine At.reg (L := [(0, false), (1, false), (2, false), (3, false), (4, false)]) (by kernel_rfl) ?_
    refine Op.loadA (T := 75) (x := (.tmp 6)) (o := 0) (d := 26) (n := 1) (vs := [.slice a_t_0 t.All.length n_t_0]) (by kernel_rfl) (by kernel_rfl) (by kernel_rfl) (s1278.chunk 1 rfl) (by kernel_rfl) rfl ?_
    refine Op.pures 1 [12, 26, 27] (L' := [(2, false), (3, false), (4, false)]) (e' := [(12, .pointer (some ⟨b1274, 0, none⟩)), (26, .agg #[.slice a_t_0 t.All.length n_t_0]), (27, .int .i64 (cutErr p))]) (by kernel_rfl) ?_
    refine Op.store (T := 75) (x := (.tmp 12)) (y := (.tmp 26)) (b := b1274) (o := 0) (vs := [.slice a_t_0 t.All.length n_t_0]) (a? := true) (n := 1) (by kernel_rfl) (by kernel_rfl) (by kernel_rfl) (by kernel_rfl) rfl (by simp [Value.oneCell']) s1278 0 rfl (Nat.le_of_ble_eq_true (by kernel_rfl)) (cs := #[.slice none 0 0]) (cs' := #[.slice a_t_0 t.All.length n_t_0]) (by kernel_rfl) (fun _ => trivial) ?_
    intro h1282 s1283
    refine Op.pures 2 [12, 13, 14] (L' := []) (e' := [(12, .pointer (some ⟨b1274, 0, none⟩)), (13, .string (mkS [])), (14, .int .i64 (cutErr p))]) (by kernel_rfl) ?_
    refine Op.goto 5 (by kernel_rfl) ?_
    refine At.retM (f := Tryz.f44) (vs := [.agg #[.slice a_t_0 t.All.length n_t_0], .string (mkS []), .int .i64 (cutErr p)]) (rl := [.cell 12 75, .tmp 13, .tmp 14]) (v := .tuple #[.agg #[.slice a_t_0 t.All.length n_t_0], .string (mkS []), .int .i64 (cutErr p)]) (by kernel_rfl) (by kernel_rfl) ⟨⟨_, _, rfl, resAgg (n := 1) (by kernel_rfl) (s1283.chunk 0 rfl) (by kernel_rfl) rfl⟩, rfl, rfl, trivial⟩ rfl ?_
    have s1284 : St h g (ids []) g [] h1282 := (s1283).drop.drop
    refine hR _ _ _ _ s1284 ⟨(.slice a_t_0 t.All.length n_t_0), ?_, ?_, rfl⟩
    · exact eqT3 rfl (eqS (by (rw [rm_1 (by assumption)]; done))) (eqI (by (rw [rm_1 (by assumption)]; done)))
    · exact slEq h_t_0 (by (rw [rm_1 (by assumption)]; done))
  · have c1285 : (cutErr p) = (0 : Int) := bneF hb
    clear hb
    refine At.keep [1, 2, 3, 4, 5, 6, 12, 15] ?_; show At _ _ _ [(1, .string (mkS p)), (2, .slice a_data data.length n_data), (3, .int .i64 owner), (4, .int .i64 born), (5, .bool num), (6, .pointer (some ⟨b1271, 0, none⟩)), (12, .pointer (some ⟨b1274, 0, none⟩)), (15, .string (mkS (parentOf p)))] _
    refine At.reg (L := [(0, false), (1, false), (2, false)]) (by kernel_rfl) ?_
    refine Op.pures 3 [1, 2, 3, 4, 5, 6, 12, 15, 30] (L' := []) (e' := [(1, .string (mkS p)), (2, .slice a_data data.length n_data), (3, .int .i64 owner), (4, .int .i64 born), (5, .bool num), (6, .pointer (some ⟨b1271, 0, none⟩)), (12, .pointer (some ⟨b1274, 0, none⟩)), (15, .string (mkS (parentOf p))), (30, .bool (decide ((data.length : Int) > (128 : Int))))]) (by kernel_rfl) ?_
    refine Op.goto 7 (by kernel_rfl) ?_
    refine At.cond (b := decide ((data.length : Int) > (128 : Int))) (c := .tmp 30) (by kernel_rfl) (by kernel_rfl) (by kernel_rfl) 8 10 (by kernel_rfl) (by kernel_rfl) (fun hb => ?_) (fun hb => ?_)
    · have c1286 : (data.length : Int) > (128 : Int) := of_decide_eq_true hb
      clear hb
      refine At.keep [6, 12] ?_; show At _ _ _ [(6, .pointer (some ⟨b1271, 0, none⟩)), (12, .pointer (some ⟨b1274, 0, none⟩))] _
      refine At.reg (L := [(0, false), (1, false), (2, false), (3, false)]) (by kernel_rfl) ?_
      refine Op.loadA (T := 75) (x := (.tmp 6)) (o := 0) (d := 31) (n := 1) (vs := [.slice a_t_0 t.All.length n_t_0]) (by kernel_rfl) (by kernel_rfl) (by kernel_rfl) (s1278.chunk 1 rfl) (by kernel_rfl) rfl ?_
      refine Op.store (T := 75) (x := (.tmp 12)) (y := (.tmp 31)) (b := b1274) (o := 0) (vs := [.slice a_t_0 t.All.length n_t_0]) (a? := true) (n := 1) (by kernel_rfl) (by kernel_rfl) (by kernel_rfl) (by kernel_rfl) rfl (by simp [Value.oneCell']) s1278 0 rfl (Nat.le_of_ble_eq_true (by kernel_rfl)) (cs := #[.slice none 0 0]) (cs' := #[.slice a_t_0 t.All.length n_t_0]) (by kernel_rfl) (fun _ => trivial) ?_
      intro h1287 s1288
      refine Op.pures 2 [12, 13, 14] (L' := []) (e' := [(12, .pointer (some ⟨b1274, 0, none⟩)), (13, .string (mkS [])), (14, .int .i64 104)]) (by kernel_rfl) ?_
      refine Op.goto 9 (by kernel_rfl) ?_
      refine At.retM (f := Tryz.f44) (vs := [.agg #[.slice a_t_0 t.All.length n_t_0], .string (mkS []), .int .i64 104]) (rl := [.cell 12 75, .tmp 13, .tmp 14]) (v := .tuple #[.agg #[.slice a_t_0 t.All.length n_t_0], .string (mkS []), .int .i64 104]) (by kernel_rfl) (by kernel_rfl) ⟨⟨_, _, rfl, resAgg (n := 1) (by kernel_rfl) (s1288.chunk 0 rfl) (by kernel_rfl) rfl⟩, rfl, rfl, trivial⟩ rfl ?_
      have s1289 : St h g (ids []) g [] h1287 := (s1288).drop.drop
      refine hR _ _ _ _ s1289 ⟨(.slice a_t_0 t.All.length n_t_0), ?_, ?_, rfl⟩
      · exact eqT3 rfl (eqS (by (rw [rm_2 (by assumption) (by assumption)]; done))) (eqI (by (rw [rm_2 (by assumption) (by assumption)]; done)))
      · exact slEq h_t_0 (by (rw [rm_2 (by assumption) (by assumption)]; done))
    · have c1290 : ¬ ((data.length : Int) > (128 : Int)) := of_decide_eq_false hb
      clear hb
      refine At.keep [1, 2, 3, 4, 5, 6, 12, 15] ?_; show At _ _ _ [(1, .string (mkS p)), (2, .slice a_data data.length n_data), (3, .int .i64 owner), (4, .int .i64 born), (5, .bool num), (6, .pointer (some ⟨b1271, 0, none⟩)), (12, .pointer (some ⟨b1274, 0, none⟩)), (15, .string (mkS (parentOf p)))] _
      refine At.reg (L := [(0, false), (1, false), (2, false), (3, false)]) (by kernel_rfl) ?_
      refine Op.loadA (T := 75) (x := (.tmp 6)) (o := 0) (d := 32) (n := 1) (vs := [.slice a_t_0 t.All.length n_t_0]) (by kernel_rfl) (by kernel_rfl) (by kernel_rfl) (s1278.chunk 1 rfl) (by kernel_rfl) rfl ?_
      refine Op.pures 1 [1, 2, 3, 4, 5, 6, 12, 32, 33] (L' := [(2, false), (3, false)]) (e' := [(1, .string (mkS p)), (2, .slice a_data data.length n_data), (3, .int .i64 owner), (4, .int .i64 born), (5, .bool num), (6, .pointer (some ⟨b1271, 0, none⟩)), (12, .pointer (some ⟨b1274, 0, none⟩)), (32, .agg #[.slice a_t_0 t.All.length n_t_0]), (33, .string (mkS (parentOf p)))]) (by kernel_rfl) ?_
      refine Op.call0 (dst := some 34) (f := 86) (args := #[.agg #[.slice a_t_0 t.All.length n_t_0], .string (mkS (parentOf p))]) (by kernel_rfl) s1278 (atR _ _ _ s1278.sub hG t _ h_t_0 (parentOf p) (by ((try dsimp only) <;> ((have := atP_lt (ns := t.All) (p := parentOf p); have := atP_ge t.All (parentOf p); have := hB.1; omega)))) ) ?_
      rintro _ g1293 _ h1291 hle1294 s1292 ⟨rfl, hgg, rfl⟩; subst g1293; clear hle1294
      refine Op.pures 1 [1, 2, 3, 4, 5, 6, 12, 17] (L' := []) (e' := [(1, .string (mkS p)), (2, .slice a_data data.length n_data), (3, .int .i64 owner), (4, .int .i64 born), (5, .bool num), (6, .pointer (some ⟨b1271, 0, none⟩)), (12, .pointer (some ⟨b1274, 0, none⟩)), (17, .int .i64 (atP t.All (parentOf p)))]) (by kernel_rfl) ?_
      refine Op.goto 11 (by kernel_rfl) ?_
      refine At.reg (L := [(0, false), (1, false)]) (by kernel_rfl) ?_
      refine Op.pures 2 [1, 2, 3, 4, 5, 6, 12, 17, 36] (L' := []) (e' := [(1, .string (mkS p)), (2, .slice a_data data.length n_data), (3, .int .i64 owner), (4, .int .i64 born), (5, .bool num), (6, .pointer (some ⟨b1271, 0, none⟩)), (12, .pointer (some ⟨b1274, 0, none⟩)), (17, .int .i64 (atP t.All (parentOf p))), (36, .bool (decide ((atP t.All (parentOf p)) < (0 : Int))))]) (by kernel_rfl) ?_
      refine Op.goto 12 (by kernel_rfl) ?_
      refine At.cond (b := decide ((atP t.All (parentOf p)) < (0 : Int))) (c := .tmp 36) (by kernel_rfl) (by kernel_rfl) (by kernel_rfl) 13 15 (by kernel_rfl) (by kernel_rfl) (fun hb => ?_) (fun hb => ?_)
      · have c1295 : (atP t.All (parentOf p)) < (0 : Int) := of_decide_eq_true hb
        clear hb
        refine At.keep [6, 12] ?_; show At _ _ _ [(6, .pointer (some ⟨b1271, 0, none⟩)), (12, .pointer (some ⟨b1274, 0, none⟩))] _
        refine At.reg (L := [(0, false), (1, false), (2, false), (3, false)]) (by kernel_rfl) ?_
        refine Op.loadA (T := 75) (x := (.tmp 6)) (o := 0) (d := 37) (n := 1) (vs := [.slice a_t_0 t.All.length n_t_0]) (by kernel_rfl) (by kernel_rfl) (by kernel_rfl) (s1292.chunk 1 rfl) (by kernel_rfl) rfl ?_
        refine Op.store (T := 75) (x := (.tmp 12)) (y := (.tmp 37)) (b := b1274) (o := 0) (vs := [.slice a_t_0 t.All.length n_t_0]) (a? := true) (n := 1) (by kernel_rfl) (by kernel_rfl) (by kernel_rfl) (by kernel_rfl) rfl (by simp [Value.oneCell']) s1292 0 rfl (Nat.le_of_ble_eq_true (by kernel_rfl)) (cs := #[.slice none 0 0]) (cs' := #[.slice a_t_0 t.All.length n_t_0]) (by kernel_rfl) (fun _ => trivial) ?_
        intro h1296 s1297
        refine Op.pures 2 [12, 13, 14] (L' := []) (e' := [(12, .pointer (some ⟨b1274, 0, none⟩)), (13, .string (mkS [])), (14, .int .i64 100)]) (by kernel_rfl) ?_
        refine Op.goto 14 (by kernel_rfl) ?_
        refine At.retM (f := Tryz.f44) (vs := [.agg #[.slice a_t_0 t.All.length n_t_0], .string (mkS []), .int .i64 100]) (rl := [.cell 12 75, .tmp 13, .tmp 14]) (v := .tuple #[.agg #[.slice a_t_0 t.All.length n_t_0], .string (mkS []), .int .i64 100]) (by kernel_rfl) (by kernel_rfl) ⟨⟨_, _, rfl, resAgg (n := 1) (by kernel_rfl) (s1297.chunk 0 rfl) (by kernel_rfl) rfl⟩, rfl, rfl, trivial⟩ rfl ?_
        have s1298 : St h g (ids []) g [] h1296 := (s1297).drop.drop
        refine hR _ _ _ _ s1298 ⟨(.slice a_t_0 t.All.length n_t_0), ?_, ?_, rfl⟩
        · exact eqT3 rfl (eqS (by (rw [rm_3 (by assumption) (by assumption) (by assumption)]; done))) (eqI (by (rw [rm_3 (by assumption) (by assumption) (by assumption)]; done)))
        · exact slEq h_t_0 (by (rw [rm_3 (by assumption) (by assumption) (by assumption)]; done))
      · have c1299 : ¬ ((atP t.All (parentOf p)) < (0 : Int)) := of_decide_eq_false hb
        clear hb
        refine At.keep [1, 2, 3, 4, 5, 6, 12, 17] ?_; show At _ _ _ [(1, .string (mkS p)), (2, .slice a_data data.length n_data), (3, .int .i64 owner), (4, .int .i64 born), (5, .bool num), (6, .pointer (some ⟨b1271, 0, none⟩)), (12, .pointer (some ⟨b1274, 0, none⟩)), (17, .int .i64 (atP t.All (parentOf p)))] _
        refine At.reg (L := [(0, false), (1, false), (2, false), (3, false), (4, false), (5, false), (6, false)]) (by kernel_rfl) ?_
        refine Op.pures 1 [1, 2, 3, 4, 5, 6, 12, 17, 38] (L' := [(1, false), (2, false), (3, false), (4, false), (5, false), (6, false)]) (e' := [(1, .string (mkS p)), (2, .slice a_data data.length n_data), (3, .int .i64 owner), (4, .int .i64 born), (5, .bool num), (6, .pointer (some ⟨b1271, 0, none⟩)), (12, .pointer (some ⟨b1274, 0, none⟩)), (17, .int .i64 (atP t.All (parentOf p))), (38, .pointer (some ⟨b1271, 0, none⟩))]) (by kernel_rfl) ?_
        refine Op.load (T := 52) (x := (.tmp 38)) (o := 0) (d := 39) (n := 1) (v := .slice a_t_0 t.All.length n_t_0) (by kernel_rfl) (by kernel_rfl) (by kernel_rfl) (s1292.chunk 1 rfl) (by kernel_rfl) ?_
        refine Op.pures 1 [1, 2, 3, 4, 5, 6, 12, 39, 40] (L' := [(3, false), (4, false), (5, false), (6, false)]) (e' := [(1, .string (mkS p)), (2, .slice a_data data.length n_data), (3, .int .i64 owner), (4, .int .i64 born), (5, .bool num), (6, .pointer (some ⟨b1271, 0, none⟩)), (12, .pointer (some ⟨b1274, 0, none⟩)), (39, .slice a_t_0 t.All.length n_t_0), (40, .int .i64 (atP t.All (parentOf p)))]) (by kernel_rfl) ?_
        obtain ⟨x1300, hx1301⟩ : ∃ c, t.All[(atP t.All (parentOf p) : Int).toNat]? = some c := ⟨_, List.getElem?_eq_getElem (by (have := atP_lt (ns := t.All) (p := parentOf p); have := atP_ge t.All (parentOf p); have := hB.1; omega))⟩
        obtain ⟨b1302, o1303, cu1304, fz1305, ha1306, hb1307, hk1308⟩ := SlR.at_ h_t_0 _ hx1301
        cases ha1306
        refine Op.idx (T := 52) (E := 59) (sz := 6) (by_ := 72) (n := t.All.length) (c := n_t_0) (k := .i64) (x := (.tmp 39)) (ix := (.tmp 40)) (dst := 41) (bk := b1302) (o := o1303) (m := atP t.All (parentOf p)) (by kernel_rfl) (by kernel_rfl) (by kernel_rfl) (by kernel_rfl) (by omega) (by (have := atP_lt (ns := t.All) (p := parentOf p); have := atP_ge t.All (parentOf p); have := hB.1; omega)) ?_
        obtain ⟨v1309, hv1310, hk1308⟩ := hk1308
        obtain ⟨a1311, n1312, rfl⟩ := hv1310.form
        refine Op.loadA (T := 59) (x := (.tmp 41)) (o := o1303 + (atP t.All (parentOf p) : Int).toNat * 6) (d := 42) (n := 6) (vs := [.string (mkS x1300.Path), .slice a1311 x1300.Data.length n1312, .int .i64 x1300.Version, .int .i64 x1300.Owner, .int .i64 x1300.Next, .int .i64 x1300.Born]) (by kernel_rfl) (by kernel_rfl) (by kernel_rfl) (s1292.sub _ _ hb1307) (hk1308) rfl ?_
        refine Op.alloc (T := 59) (dst := 18) (cs := #[.string (mkS []), .slice none 0 0, .int .i64 0, .int .i64 0, .int .i64 0, .int .i64 0]) (by kernel_rfl) (by kernel_rfl) s1292 ?_
        intro b1313 h1314 s1315
        refine Op.store (T := 59) (x := (.tmp 18)) (y := (.tmp 42)) (b := b1313) (o := 0) (vs := [.string (mkS x1300.Path), .slice a1311 x1300.Data.length n1312, .int .i64 x1300.Version, .int .i64 x1300.Owner, .int .i64 x1300.Next, .int .i64 x1300.Born]) (a? := true) (n := 6) (by kernel_rfl) (by kernel_rfl) (by kernel_rfl) (by kernel_rfl) rfl (by simp [Value.oneCell']) s1315 0 rfl (Nat.le_of_ble_eq_true (by kernel_rfl)) (cs := #[.string (mkS []), .slice none 0 0, .int .i64 0, .int .i64 0, .int .i64 0, .int .i64 0]) (cs' := #[.string (mkS x1300.Path), .slice a1311 x1300.Data.length n1312, .int .i64 x1300.Version, .int .i64 x1300.Owner, .int .i64 x1300.Next, .int .i64 x1300.Born]) (by kernel_rfl) (fun _ => trivial) ?_
        intro h1316 s1317
        refine Op.goto 16 (by kernel_rfl) ?_
        refine At.reg (L := [(0, false), (1, false), (2, false)]) (by kernel_rfl) ?_
        refine Op.pures 1 [1, 2, 3, 4, 5, 6, 12, 18, 43] (L' := [(1, false), (2, false)]) (e' := [(1, .string (mkS p)), (2, .slice a_data data.length n_data), (3, .int .i64 owner), (4, .int .i64 born), (5, .bool num), (6, .pointer (some ⟨b1271, 0, none⟩)), (12, .pointer (some ⟨b1274, 0, none⟩)), (18, .pointer (some ⟨b1313, 0, none⟩)), (43, .pointer (some ⟨b1313, 3, none⟩))]) (by kernel_rfl) ?_
        refine Op.load (T := 3) (x := (.tmp 43)) (o := 3) (d := 44) (n := 1) (v := .int .i64 x1300.Owner) (by kernel_rfl) (by kernel_rfl) (by kernel_rfl) (s1317.chunk 0 rfl) (by kernel_rfl) ?_
        refine Op.pures 1 [1, 2, 3, 4, 5, 6, 12, 18, 45] (L' := []) (e' := [(1, .string (mkS p)), (2, .slice a_data data.length n_data), (3, .int .i64 owner), (4, .int .i64 born), (5, .bool num), (6, .pointer (some ⟨b1271, 0, none⟩)), (12, .pointer (some ⟨b1274, 0, none⟩)), (18, .pointer (some ⟨b1313, 0, none⟩)), (45, .bool (x1300.Owner != ((-1) : Int)))]) (by kernel_rfl) ?_
        refine Op.goto 17 (by kernel_rfl) ?_
        refine At.cond (b := x1300.Owner != ((-1) : Int)) (c := .tmp 45) (by kernel_rfl) (by kernel_rfl) (by kernel_rfl) 18 20 (by kernel_rfl) (by kernel_rfl) (fun hb => ?_) (fun hb => ?_)
        · have c1318 : ¬ (x1300.Owner = ((-1) : Int)) := bneT hb
          clear hb
          refine At.keep [6, 12] ?_; show At _ _ _ [(6, .pointer (some ⟨b1271, 0, none⟩)), (12, .pointer (some ⟨b1274, 0, none⟩))] _
          refine At.reg (L := [(0, false), (1, false), (2, false), (3, false)]) (by kernel_rfl) ?_
          refine Op.loadA (T := 75) (x := (.tmp 6)) (o := 0) (d := 46) (n := 1) (vs := [.slice (some ⟨b1302, o1303, none⟩) t.All.length n_t_0]) (by kernel_rfl) (by kernel_rfl) (by kernel_rfl) (s1317.chunk 2 rfl) (by kernel_rfl) rfl ?_
          refine Op.store (T := 75) (x := (.tmp 12)) (y := (.tmp 46)) (b := b1274) (o := 0) (vs := [.slice (some ⟨b1302, o1303, none⟩) t.All.length n_t_0]) (a? := true) (n := 1) (by kernel_rfl) (by kernel_rfl) (by kernel_rfl) (by kernel_rfl) rfl (by simp [Value.oneCell']) s1317 1 rfl (Nat.le_of_ble_eq_true (by kernel_rfl)) (cs := #[.slice none 0 0]) (cs' := #[.slice (some ⟨b1302, o1303, none⟩) t.All.length n_t_0]) (by kernel_rfl) (fun _ => trivial) ?_
          intro h1319 s1320
          refine Op.pures 2 [12, 13, 14] (L' := []) (e' := [(12, .pointer (some ⟨b1274, 0, none⟩)), (13, .string (mkS [])), (14, .int .i64 105)]) (by kernel_rfl) ?_
          refine Op.goto 19 (by kernel_rfl) ?_
          refine At.retM (f := Tryz.f44) (vs := [.agg #[.slice (some ⟨b1302, o1303, none⟩) t.All.length n_t_0], .string (mkS []), .int .i64 105]) (rl := [.cell 12 75, .tmp 13, .tmp 14]) (v := .tuple #[.agg #[.slice (some ⟨b1302, o1303, none⟩) t.All.length n_t_0], .string (mkS []), .int .i64 105]) (by kernel_rfl) (by kernel_rfl) ⟨⟨_, _, rfl, resAgg (n := 1) (by kernel_rfl) (s1320.chunk 1 rfl) (by kernel_rfl) rfl⟩, rfl, rfl, trivial⟩ rfl ?_
          have s1321 : St h g (ids []) g [] h1319 := (s1320).drop.drop.drop
          refine hR _ _ _ _ s1321 ⟨(.slice (some ⟨b1302, o1303, none⟩) t.All.length n_t_0), ?_, ?_, rfl⟩
          · exact eqT3 rfl (eqS (by (rw [rm_4 (by assumption) (by assumption) (atP_some (by assumption) hx1301) (by assumption)]; done))) (eqI (by (rw [rm_4 (by assumption) (by assumption) (atP_some (by assumption) hx1301) (by assumption)]; done)))
          · exact slEq h_t_0 (by (rw [rm_4 (by assumption) (by assumption) (atP_some (by assumption) hx1301) (by assumption)]; done))
        · have c1322 : x1300.Owner = ((-1) : Int) := bneF hb
          clear hb
          refine At.keep [1, 2, 3, 4, 5, 6, 12, 18] ?_; show At _ _ _ [(1, .string (mkS p)), (2, .slice a_data data.length n_data), (3, .int .i64 owner), (4, .int .i64 born), (5, .bool num), (6, .pointer (some ⟨b1271, 0, none⟩)), (12, .pointer (some ⟨b1274, 0, none⟩)), (18, .pointer (some ⟨b1313, 0, none⟩))] _
          have join28 : ∀ (m : Nat) (q : List UInt8) (un : Int) (h1323 : Heap) (hm : 0 < m) (hEN : makeE x1300 p num = 0 ∧ makeN x1300 p num = q) (hun : un = if num = true then IntKind.wrap .i64 (x1300.Next + 1) else x1300.Next)     (s_join281322 : St h g (ids []) g [[(b1313, Obj.cells #[.string (mkS x1300.Path), .slice a1311 x1300.Data.length n1312, .int .i64 x1300.Version, .int .i64 x1300.Owner, .int .i64 un, .int .i64 x1300.Born] 59 (0, 0))], [(b1274, Obj.cells #[.slice none 0 0] 75 (0, 0))], [(b1271, Obj.cells #[.slice (some ⟨b1302, o1303, none⟩) t.All.length n_t_0] 75 (0, 0))]] h1323), At (fctx Tryz.prog B 44 Tryz.f44 R) [] 28 [(1, .string (mkS q)), (2, .slice a_data data.length n_data), (3, .int .i64 owner), (4, .int .i64 born), (6, .pointer (some ⟨b1271, 0, none⟩)), (12, .pointer (some ⟨b1274, 0, none⟩)), (18, .pointer (some ⟨b1313, 0, none⟩))] h1323 := by
            intro m; induction m with
            | zero => intros; omega
            | succ m ih28 =>
              intro q un h1323 hm hEN hun s_join281322
              refine At.reg (L := [(0, false), (1, false), (2, false), (3, false)]) (by kernel_rfl) ?_
              refine Op.loadA (T := 75) (x := (.tmp 6)) (o := 0) (d := 63) (n := 1) (vs := [.slice (some ⟨b1302, o1303, none⟩) t.All.length n_t_0]) (by kernel_rfl) (by kernel_rfl) (by kernel_rfl) (s_join281322.chunk 2 rfl) (by kernel_rfl) rfl ?_
              refine Op.pures 1 [1, 2, 3, 4, 6, 12, 18, 63, 64] (L' := [(2, false), (3, false)]) (e' := [(1, .string (mkS q)), (2, .slice a_data data.length n_data), (3, .int .i64 owner), (4, .int .i64 born), (6, .pointer (some ⟨b1271, 0, none⟩)), (12, .pointer (some ⟨b1274, 0, none⟩)), (18, .pointer (some ⟨b1313, 0, none⟩)), (63, .agg #[.slice (some ⟨b1302, o1303, none⟩) t.All.length n_t_0]), (64, .string (mkS q))]) (by kernel_rfl) ?_
              refine Op.call0 (dst := some 65) (f := 86) (args := #[.agg #[.slice (some ⟨b1302, o1303, none⟩) t.All.length n_t_0], .string (mkS q)]) (by kernel_rfl) s_join281322 (atR _ _ _ s_join281322.sub hG t _ h_t_0 q (by ((try dsimp only) <;> ((have := atP_lt (ns := t.All) (p := parentOf p); have := atP_ge t.All (parentOf p); have := hB.1; omega)))) ) ?_
              rintro _ g1326 _ h1324 hle1327 s1325 ⟨rfl, hgg, rfl⟩; subst g1326; clear hle1327
              refine Op.pures 1 [1, 2, 3, 4, 6, 12, 18, 66] (L' := []) (e' := [(1, .string (mkS q)), (2, .slice a_data data.length n_data), (3, .int .i64 owner), (4, .int .i64 born), (6, .pointer (some ⟨b1271, 0, none⟩)), (12, .pointer (some ⟨b1274, 0, none⟩)), (18, .pointer (some ⟨b1313, 0, none⟩)), (66, .bool (decide ((atP t.All q) ≥ (0 : Int))))]) (by kernel_rfl) ?_
              refine Op.goto 29 (by kernel_rfl) ?_
              refine At.cond (b := decide ((atP t.All q) ≥ (0 : Int))) (c := .tmp 66) (by kernel_rfl) (by kernel_rfl) (by kernel_rfl) 30 32 (by kernel_rfl) (by kernel_rfl) (fun hb => ?_) (fun hb => ?_)
              · have c1328 : (atP t.All q) ≥ (0 : Int) := of_decide_eq_true hb
                clear hb
                refine At.keep [6, 12] ?_; show At _ _ _ [(6, .pointer (some ⟨b1271, 0, none⟩)), (12, .pointer (some ⟨b1274, 0, none⟩))] _
                refine At.reg (L := [(0, false), (1, false), (2, false), (3, false)]) (by kernel_rfl) ?_
                refine Op.loadA (T := 75) (x := (.tmp 6)) (o := 0) (d := 67) (n := 1) (vs := [.slice (some ⟨b1302, o1303, none⟩) t.All.length n_t_0]) (by kernel_rfl) (by kernel_rfl) (by kernel_rfl) (s1325.chunk 2 rfl) (by kernel_rfl) rfl ?_
                refine Op.store (T := 75) (x := (.tmp 12)) (y := (.tmp 67)) (b := b1274) (o := 0) (vs := [.slice (some ⟨b1302, o1303, none⟩) t.All.length n_t_0]) (a? := true) (n := 1) (by kernel_rfl) (by kernel_rfl) (by kernel_rfl) (by kernel_rfl) rfl (by simp [Value.oneCell']) s1325 1 rfl (Nat.le_of_ble_eq_true (by kernel_rfl)) (cs := #[.slice none 0 0]) (cs' := #[.slice (some ⟨b1302, o1303, none⟩) t.All.length n_t_0]) (by kernel_rfl) (fun _ => trivial) ?_
                intro h1329 s1330
                refine Op.pures 2 [12, 13, 14] (L' := []) (e' := [(12, .pointer (some ⟨b1274, 0, none⟩)), (13, .string (mkS [])), (14, .int .i64 101)]) (by kernel_rfl) ?_
                refine Op.goto 31 (by kernel_rfl) ?_
                refine At.retM (f := Tryz.f44) (vs := [.agg #[.slice (some ⟨b1302, o1303, none⟩) t.All.length n_t_0], .string (mkS []), .int .i64 101]) (rl := [.cell 12 75, .tmp 13, .tmp 14]) (v := .tuple #[.agg #[.slice (some ⟨b1302, o1303, none⟩) t.All.length n_t_0], .string (mkS []), .int .i64 101]) (by kernel_rfl) (by kernel_rfl) ⟨⟨_, _, rfl, resAgg (n := 1) (by kernel_rfl) (s1330.chunk 1 rfl) (by kernel_rfl) rfl⟩, rfl, rfl, trivial⟩ rfl ?_
                have s1331 : St h g (ids []) g [] h1329 := (s1330).drop.drop.drop
                refine hR _ _ _ _ s1331 ⟨(.slice (some ⟨b1302, o1303, none⟩) t.All.length n_t_0), ?_, ?_, rfl⟩
                · exact eqT3 rfl (eqS (by (rw [rm_6 (by assumption) (by assumption) (atP_some (by assumption) hx1301) (by assumption) hEN (by assumption)]; done))) (eqI (by (rw [rm_6 (by assumption) (by assumption) (atP_some (by assumption) hx1301) (by assumption) hEN (by assumption)]; done)))
                · exact slEq h_t_0 (by (rw [rm_6 (by assumption) (by assumption) (atP_some (by assumption) hx1301) (by assumption) hEN (by assumption)]; done))
              · have c1332 : ¬ ((atP t.All q) ≥ (0 : Int)) := of_decide_eq_false hb
                clear hb
                refine At.keep [1, 2, 3, 4, 6, 12, 18] ?_; show At _ _ _ [(1, .string (mkS q)), (2, .slice a_data data.length n_data), (3, .int .i64 owner), (4, .int .i64 born), (6, .pointer (some ⟨b1271, 0, none⟩)), (12, .pointer (some ⟨b1274, 0, none⟩)), (18, .pointer (some ⟨b1313, 0, none⟩))] _
                refine At.reg (L := [(0, false), (1, false), (2, false), (3, false)]) (by kernel_rfl) ?_
                refine Op.pures 1 [1, 2, 3, 4, 6, 12, 18, 68] (L' := [(1, false), (2, false), (3, false)]) (e' := [(1, .string (mkS q)), (2, .slice a_data data.length n_data), (3, .int .i64 owner), (4, .int .i64 born), (6, .pointer (some ⟨b1271, 0, none⟩)), (12, .pointer (some ⟨b1274, 0, none⟩)), (18, .pointer (some ⟨b1313, 0, none⟩)), (68, .pointer (some ⟨b1271, 0, none⟩))]) (by kernel_rfl) ?_
                refine Op.load (T := 52) (x := (.tmp 68)) (o := 0) (d := 69) (n := 1) (v := .slice (some ⟨b1302, o1303, none⟩) t.All.length n_t_0) (by kernel_rfl) (by kernel_rfl) (by kernel_rfl) (s1325.chunk 2 rfl) (by kernel_rfl) ?_
                refine Op.pures 2 [1, 2, 3, 4, 6, 12, 18, 71] (L' := []) (e' := [(1, .string (mkS q)), (2, .slice a_data data.length n_data), (3, .int .i64 owner), (4, .int .i64 born), (6, .pointer (some ⟨b1271, 0, none⟩)), (12, .pointer (some ⟨b1274, 0, none⟩)), (18, .pointer (some ⟨b1313, 0, none⟩)), (71, .bool (decide ((t.All.length : Int) ≥ (32 : Int))))]) (by kernel_rfl) ?_
                refine Op.goto 33 (by kernel_rfl) ?_
                refine At.cond (b := decide ((t.All.length : Int) ≥ (32 : Int))) (c := .tmp 71) (by kernel_rfl) (by kernel_rfl) (by kernel_rfl) 34 36 (by kernel_rfl) (by kernel_rfl) (fun hb => ?_) (fun hb => ?_)
                · have c1333 : (t.All.length : Int) ≥ (32 : Int) := of_decide_eq_true hb
                  clear hb
                  refine At.keep [6, 12] ?_; show At _ _ _ [(6, .pointer (some ⟨b1271, 0, none⟩)), (12, .pointer (some ⟨b1274, 0, none⟩))] _
                  refine At.reg (L := [(0, false), (1, false), (2, false), (3, false)]) (by kernel_rfl) ?_
                  refine Op.loadA (T := 75) (x := (.tmp 6)) (o := 0) (d := 72) (n := 1) (vs := [.slice (some ⟨b1302, o1303, none⟩) t.All.length n_t_0]) (by kernel_rfl) (by kernel_rfl) (by kernel_rfl) (s1325.chunk 2 rfl) (by kernel_rfl) rfl ?_
                  refine Op.store (T := 75) (x := (.tmp 12)) (y := (.tmp 72)) (b := b1274) (o := 0) (vs := [.slice (some ⟨b1302, o1303, none⟩) t.All.length n_t_0]) (a? := true) (n := 1) (by kernel_rfl) (by kernel_rfl) (by kernel_rfl) (by kernel_rfl) rfl (by simp [Value.oneCell']) s1325 1 rfl (Nat.le_of_ble_eq_true (by kernel_rfl)) (cs := #[.slice none 0 0]) (cs' := #[.slice (some ⟨b1302, o1303, none⟩) t.All.length n_t_0]) (by kernel_rfl) (fun _ => trivial) ?_
                  intro h1334 s1335
                  refine Op.pures 2 [12, 13, 14] (L' := []) (e' := [(12, .pointer (some ⟨b1274, 0, none⟩)), (13, .string (mkS [])), (14, .int .i64 104)]) (by kernel_rfl) ?_
                  refine Op.goto 35 (by kernel_rfl) ?_
                  refine At.retM (f := Tryz.f44) (vs := [.agg #[.slice (some ⟨b1302, o1303, none⟩) t.All.length n_t_0], .string (mkS []), .int .i64 104]) (rl := [.cell 12 75, .tmp 13, .tmp 14]) (v := .tuple #[.agg #[.slice (some ⟨b1302, o1303, none⟩) t.All.length n_t_0], .string (mkS []), .int .i64 104]) (by kernel_rfl) (by kernel_rfl) ⟨⟨_, _, rfl, resAgg (n := 1) (by kernel_rfl) (s1335.chunk 1 rfl) (by kernel_rfl) rfl⟩, rfl, rfl, trivial⟩ rfl ?_
                  have s1336 : St h g (ids []) g [] h1334 := (s1335).drop.drop.drop
                  refine hR _ _ _ _ s1336 ⟨(.slice (some ⟨b1302, o1303, none⟩) t.All.length n_t_0), ?_, ?_, rfl⟩
                  · exact eqT3 rfl (eqS (by (rw [rm_7 (by assumption) (by assumption) (atP_some (by assumption) hx1301) (by assumption) hEN (by assumption) (by assumption)]; done))) (eqI (by (rw [rm_7 (by assumption) (by assumption) (atP_some (by assumption) hx1301) (by assumption) hEN (by assumption) (by assumption)]; done)))
                  · exact slEq h_t_0 (by (rw [rm_7 (by assumption) (by assumption) (atP_some (by assumption) hx1301) (by assumption) hEN (by assumption) (by assumption)]; done))
                · have c1337 : ¬ ((t.All.length : Int) ≥ (32 : Int)) := of_decide_eq_false hb
                  clear hb
                  refine At.keep [1, 2, 3, 4, 6, 12, 18] ?_; show At _ _ _ [(1, .string (mkS q)), (2, .slice a_data data.length n_data), (3, .int .i64 owner), (4, .int .i64 born), (6, .pointer (some ⟨b1271, 0, none⟩)), (12, .pointer (some ⟨b1274, 0, none⟩)), (18, .pointer (some ⟨b1313, 0, none⟩))] _
                  have join42 : ∀ (m : Nat) (ow2 : Int) (bo2 : Int) (h1338 : Heap) (hm : 0 < m) (how : ow2 = max owner (-1)) (hbo : bo2 = max born 0)     (s_join421337 : St h g (ids []) g [[(b1313, Obj.cells #[.string (mkS x1300.Path), .slice a1311 x1300.Data.length n1312, .int .i64 x1300.Version, .int .i64 x1300.Owner, .int .i64 un, .int .i64 x1300.Born] 59 (0, 0))], [(b1274, Obj.cells #[.slice none 0 0] 75 (0, 0))], [(b1271, Obj.cells #[.slice (some ⟨b1302, o1303, none⟩) t.All.length n_t_0] 75 (0, 0))]] h1338), At (fctx Tryz.prog B 44 Tryz.f44 R) [] 42 [(1, .string (mkS q)), (2, .slice a_data data.length n_data), (3, .int .i64 ow2), (4, .int .i64 bo2), (6, .pointer (some ⟨b1271, 0, none⟩)), (12, .pointer (some ⟨b1274, 0, none⟩)), (18, .pointer (some ⟨b1313, 0, none⟩))] h1338 := by
                    intro m; induction m with
                    | zero => intros; omega
                    | succ m ih42 =>
                      intro ow2 bo2 h1338 hm how hbo s_join421337
                      refine At.reg (L := [(0, false), (1, false), (2, false), (3, false), (4, false), (5, false), (6, false), (7, false), (8, false), (9, false), (10, false), (11, false), (12, false), (13, false)]) (by kernel_rfl) ?_
                      refine Op.loadA (T := 75) (x := (.tmp 6)) (o := 0) (d := 77) (n := 1) (vs := [.slice (some ⟨b1302, o1303, none⟩) t.All.length n_t_0]) (by kernel_rfl) (by kernel_rfl) (by kernel_rfl) (s_join421337.chunk 2 rfl) (by kernel_rfl) rfl ?_
                      refine Op.loadA (T := 59) (x := (.tmp 18)) (o := 0) (d := 78) (n := 6) (vs := [.string (mkS x1300.Path), .slice a1311 x1300.Data.length n1312, .int .i64 x1300.Version, .int .i64 x1300.Owner, .int .i64 un, .int .i64 x1300.Born]) (by kernel_rfl) (by kernel_rfl) (by kernel_rfl) (s_join421337.chunk 0 rfl) (by kernel_rfl) rfl ?_
                      refine Op.call0 (dst := some 79) (f := 88) (args := #[.agg #[.slice (some ⟨b1302, o1303, none⟩) t.All.length n_t_0], .agg #[.string (mkS x1300.Path), .slice a1311 x1300.Data.length n1312, .int .i64 x1300.Version, .int .i64 x1300.Owner, .int .i64 un, .int .i64 x1300.Born]]) (by kernel_rfl) s_join421337 (withR _ _ _ s_join421337.sub hG t _ h_t_0 (⟨x1300.Path, x1300.Data, x1300.Version, x1300.Owner, un, x1300.Born⟩ : Leaf) _ hv1310 (by ((try dsimp only) <;> (omega))) ) ?_
                      rintro _ g1345 _ h1339 hle1346 s1340 ⟨v1341, rfl, hr1342, rfl⟩
                      obtain ⟨a1343, n1344, rfl⟩ := hr1342.form
                      replace hG := hG.mono hle1346
                      replace h_data := h_data.mono hle1346
                      replace h_t_0 := h_t_0.mono hle1346
                      replace hv1310 := hv1310.mono hle1346
                      refine Op.pures 2 [1, 3, 4, 12, 79, 80, 81] (L' := [(5, false), (6, false), (7, false), (8, false), (9, false), (10, false), (11, false), (12, false), (13, false)]) (e' := [(1, .string (mkS q)), (3, .int .i64 ow2), (4, .int .i64 bo2), (12, .pointer (some ⟨b1274, 0, none⟩)), (79, .agg #[.slice a1343 (((withL t.All (⟨x1300.Path, x1300.Data, x1300.Version, x1300.Owner, un, x1300.Born⟩ : Leaf))).length) n1344]), (80, .string (mkS q)), (81, .slice a_data data.length n_data)]) (by kernel_rfl) ?_
                      refine Op.call0 (dst := some 82) (f := 29) (args := #[.slice a_data data.length n_data]) (by kernel_rfl) s1340 (copyBytes _ _ _ s1340.sub hG _ _ h_data (by ((try dsimp only) <;> (omega))) ) ?_
                      rintro _ g1354 _ h1347 hle1355 s1348 ⟨v1349, ch1350, rfl, R1351, hgg, rfl⟩; subst g1354; clear hle1355
                      obtain ⟨a1352, n1353, rfl⟩ := R1351.form
                      refine Op.pures 3 [1, 12, 79, 85] (L' := [(9, false), (10, false), (11, false), (12, false), (13, false)]) (e' := [(1, .string (mkS q)), (12, .pointer (some ⟨b1274, 0, none⟩)), (79, .agg #[.slice a1343 (((withL t.All (⟨x1300.Path, x1300.Data, x1300.Version, x1300.Owner, un, x1300.Born⟩ : Leaf))).length) n1344]), (85, .agg #[.string (mkS q), .slice a1352 ((data).length) n1353, .int .i64 0, .int .i64 ow2, .int .i64 0, .int .i64 bo2])]) (by kernel_rfl) ?_
                      obtain ⟨g1356, s1357, hle1358, hf1359⟩ := Row.freeze R1351 (s1348.front 0 rfl)
                      replace hG := hG.mono hle1358
                      replace h_t_0 := h_t_0.mono hle1358
                      replace hr1342 := hr1342.mono hle1358
                      replace hv1310 := hv1310.mono hle1358
                      refine Op.call0 (dst := some 86) (f := 88) (args := #[.agg #[.slice a1343 (((withL t.All (⟨x1300.Path, x1300.Data, x1300.Version, x1300.Owner, un, x1300.Born⟩ : Leaf))).length) n1344], .agg #[.string (mkS q), .slice a1352 ((data).length) n1353, .int .i64 0, .int .i64 ow2, .int .i64 0, .int .i64 bo2]]) (by kernel_rfl) s1357 (withR _ _ _ s1357.sub hG (⟨(withL t.All (⟨x1300.Path, x1300.Data, x1300.Version, x1300.Owner, un, x1300.Born⟩ : Leaf))⟩ : R10Tree) _ hr1342 (⟨q, data, 0, ow2, 0, bo2⟩ : Leaf) _ hf1359 (by ((try dsimp only) <;> ((have h9 := fun l => withL_le t.All l; have := hB.1; exact Nat.le_trans (h9 _) (by omega))))) ) ?_
                      rintro _ g1366 _ h1360 hle1367 s1361 ⟨v1362, rfl, hr1363, rfl⟩
                      obtain ⟨a1364, n1365, rfl⟩ := hr1363.form
                      replace hG := hG.mono hle1367
                      replace h_t_0 := h_t_0.mono hle1367
                      replace hf1359 := hf1359.mono hle1367
                      replace hr1342 := hr1342.mono hle1367
                      replace hv1310 := hv1310.mono hle1367
                      refine Op.pures 1 [12, 86, 87] (L' := [(11, false), (12, false), (13, false)]) (e' := [(12, .pointer (some ⟨b1274, 0, none⟩)), (86, .agg #[.slice a1364 (((withL (withL t.All (⟨x1300.Path, x1300.Data, x1300.Version, x1300.Owner, un, x1300.Born⟩ : Leaf)) (⟨q, data, 0, ow2, 0, bo2⟩ : Leaf))).length) n1365]), (87, .string (mkS q))]) (by kernel_rfl) ?_
                      refine Op.store (T := 75) (x := (.tmp 12)) (y := (.tmp 86)) (b := b1274) (o := 0) (vs := [.slice a1364 (((withL (withL t.All (⟨x1300.Path, x1300.Data, x1300.Version, x1300.Owner, un, x1300.Born⟩ : Leaf)) (⟨q, data, 0, ow2, 0, bo2⟩ : Leaf))).length) n1365]) (a? := true) (n := 1) (by kernel_rfl) (by kernel_rfl) (by kernel_rfl) (by kernel_rfl) rfl (by simp [Value.oneCell']) s1361 1 rfl (Nat.le_of_ble_eq_true (by kernel_rfl)) (cs := #[.slice none 0 0]) (cs' := #[.slice a1364 (((withL (withL t.All (⟨x1300.Path, x1300.Data, x1300.Version, x1300.Owner, un, x1300.Born⟩ : Leaf)) (⟨q, data, 0, ow2, 0, bo2⟩ : Leaf))).length) n1365]) (by kernel_rfl) (fun _ => trivial) ?_
                      intro h1368 s1369
                      refine Op.pures 2 [12, 13, 14] (L' := []) (e' := [(12, .pointer (some ⟨b1274, 0, none⟩)), (13, .string (mkS q)), (14, .int .i64 0)]) (by kernel_rfl) ?_
                      refine Op.goto 43 (by kernel_rfl) ?_
                      refine At.retM (f := Tryz.f44) (vs := [.agg #[.slice a1364 (((withL (withL t.All (⟨x1300.Path, x1300.Data, x1300.Version, x1300.Owner, un, x1300.Born⟩ : Leaf)) (⟨q, data, 0, ow2, 0, bo2⟩ : Leaf))).length) n1365], .string (mkS q), .int .i64 0]) (rl := [.cell 12 75, .tmp 13, .tmp 14]) (v := .tuple #[.agg #[.slice a1364 (((withL (withL t.All (⟨x1300.Path, x1300.Data, x1300.Version, x1300.Owner, un, x1300.Born⟩ : Leaf)) (⟨q, data, 0, ow2, 0, bo2⟩ : Leaf))).length) n1365], .string (mkS q), .int .i64 0]) (by kernel_rfl) (by kernel_rfl) ⟨⟨_, _, rfl, resAgg (n := 1) (by kernel_rfl) (s1369.chunk 1 rfl) (by kernel_rfl) rfl⟩, rfl, rfl, trivial⟩ rfl ?_
                      have s1370 : St h g (ids []) g1366 [] h1368 := (s1369).drop.drop.drop
                      refine hR _ _ _ _ s1370 ⟨(.slice a1364 (((withL (withL t.All (⟨x1300.Path, x1300.Data, x1300.Version, x1300.Owner, un, x1300.Born⟩ : Leaf)) (⟨q, data, 0, ow2, 0, bo2⟩ : Leaf))).length) n1365), ?_, ?_, rfl⟩
                      · exact eqT3 rfl (eqS (by (rw [rm_8 (by assumption) (by assumption) (atP_some (by assumption) hx1301) (by assumption) hEN (by assumption) (by assumption)]; first | done | rfl | exact madeR hun how hbo))) (eqI (by (rw [rm_8 (by assumption) (by assumption) (atP_some (by assumption) hx1301) (by assumption) hEN (by assumption) (by assumption)]; first | done | rfl | exact madeR hun how hbo)))
                      · exact slEq hr1363 (by (rw [rm_8 (by assumption) (by assumption) (atP_some (by assumption) hx1301) (by assumption) hEN (by assumption) (by assumption)]; first | done | rfl | exact madeR hun how hbo))
                  refine At.reg (L := [(0, false), (1, false)]) (by kernel_rfl) ?_
                  refine Op.pures 2 [1, 2, 3, 4, 6, 12, 18, 74] (L' := []) (e' := [(1, .string (mkS q)), (2, .slice a_data data.length n_data), (3, .int .i64 owner), (4, .int .i64 born), (6, .pointer (some ⟨b1271, 0, none⟩)), (12, .pointer (some ⟨b1274, 0, none⟩)), (18, .pointer (some ⟨b1313, 0, none⟩)), (74, .bool (decide (owner < ((-1) : Int))))]) (by kernel_rfl) ?_
                  refine Op.goto 37 (by kernel_rfl) ?_
                  refine At.cond (b := decide (owner < ((-1) : Int))) (c := .tmp 74) (by kernel_rfl) (by kernel_rfl) (by kernel_rfl) 38 39 (by kernel_rfl) (by kernel_rfl) (fun hb => ?_) (fun hb => ?_)
                  · have c1371 : owner < ((-1) : Int) := of_decide_eq_true hb
                    clear hb
                    refine At.keep [1, 2, 4, 6, 12, 18] ?_; show At _ _ _ [(1, .string (mkS q)), (2, .slice a_data data.length n_data), (4, .int .i64 born), (6, .pointer (some ⟨b1271, 0, none⟩)), (12, .pointer (some ⟨b1274, 0, none⟩)), (18, .pointer (some ⟨b1313, 0, none⟩))] _
                    refine At.reg (L := [(0, false)]) (by kernel_rfl) ?_
                    refine Op.pures 1 [1, 2, 3, 4, 6, 12, 18] (L' := []) (e' := [(1, .string (mkS q)), (2, .slice a_data data.length n_data), (3, .int .i64 (-1)), (4, .int .i64 born), (6, .pointer (some ⟨b1271, 0, none⟩)), (12, .pointer (some ⟨b1274, 0, none⟩)), (18, .pointer (some ⟨b1313, 0, none⟩))]) (by kernel_rfl) ?_
                    refine Op.goto 39 (by kernel_rfl) ?_
                    refine At.reg (L := [(0, false), (1, false)]) (by kernel_rfl) ?_
                    refine Op.pures 2 [1, 2, 3, 4, 6, 12, 18, 76] (L' := []) (e' := [(1, .string (mkS q)), (2, .slice a_data data.length n_data), (3, .int .i64 (-1)), (4, .int .i64 born), (6, .pointer (some ⟨b1271, 0, none⟩)), (12, .pointer (some ⟨b1274, 0, none⟩)), (18, .pointer (some ⟨b1313, 0, none⟩)), (76, .bool (decide (born < (0 : Int))))]) (by kernel_rfl) ?_
                    refine Op.goto 40 (by kernel_rfl) ?_
                    refine At.cond (b := decide (born < (0 : Int))) (c := .tmp 76) (by kernel_rfl) (by kernel_rfl) (by kernel_rfl) 41 42 (by kernel_rfl) (by kernel_rfl) (fun hb => ?_) (fun hb => ?_)
                    · have c1372 : born < (0 : Int) := of_decide_eq_true hb
                      clear hb
                      refine At.keep [1, 2, 3, 6, 12, 18] ?_; show At _ _ _ [(1, .string (mkS q)), (2, .slice a_data data.length n_data), (3, .int .i64 (-1)), (6, .pointer (some ⟨b1271, 0, none⟩)), (12, .pointer (some ⟨b1274, 0, none⟩)), (18, .pointer (some ⟨b1313, 0, none⟩))] _
                      refine At.reg (L := [(0, false)]) (by kernel_rfl) ?_
                      refine Op.pures 1 [1, 2, 3, 4, 6, 12, 18] (L' := []) (e' := [(1, .string (mkS q)), (2, .slice a_data data.length n_data), (3, .int .i64 (-1)), (4, .int .i64 0), (6, .pointer (some ⟨b1271, 0, none⟩)), (12, .pointer (some ⟨b1274, 0, none⟩)), (18, .pointer (some ⟨b1313, 0, none⟩))]) (by kernel_rfl) ?_
                      refine Op.goto 42 (by kernel_rfl) ?_
                      exact join42 _  (-1) 0 _ (Nat.lt_succ_self _) (by omega) (by omega)  s1325
                    · have c1373 : ¬ (born < (0 : Int)) := of_decide_eq_false hb
                      clear hb
                      refine At.keep [1, 2, 3, 4, 6, 12, 18] ?_; show At _ _ _ [(1, .string (mkS q)), (2, .slice a_data data.length n_data), (3, .int .i64 (-1)), (4, .int .i64 born), (6, .pointer (some ⟨b1271, 0, none⟩)), (12, .pointer (some ⟨b1274, 0, none⟩)), (18, .pointer (some ⟨b1313, 0, none⟩))] _
                      exact join42 _  (-1) born _ (Nat.lt_succ_self _) (by omega) (by omega)  s1325
                  · have c1374 : ¬ (owner < ((-1) : Int)) := of_decide_eq_false hb
                    clear hb
                    refine At.keep [1, 2, 3, 4, 6, 12, 18] ?_; show At _ _ _ [(1, .string (mkS q)), (2, .slice a_data data.length n_data), (3, .int .i64 owner), (4, .int .i64 born), (6, .pointer (some ⟨b1271, 0, none⟩)), (12, .pointer (some ⟨b1274, 0, none⟩)), (18, .pointer (some ⟨b1313, 0, none⟩))] _
                    refine At.reg (L := [(0, false), (1, false)]) (by kernel_rfl) ?_
                    refine Op.pures 2 [1, 2, 3, 4, 6, 12, 18, 76] (L' := []) (e' := [(1, .string (mkS q)), (2, .slice a_data data.length n_data), (3, .int .i64 owner), (4, .int .i64 born), (6, .pointer (some ⟨b1271, 0, none⟩)), (12, .pointer (some ⟨b1274, 0, none⟩)), (18, .pointer (some ⟨b1313, 0, none⟩)), (76, .bool (decide (born < (0 : Int))))]) (by kernel_rfl) ?_
                    refine Op.goto 40 (by kernel_rfl) ?_
                    refine At.cond (b := decide (born < (0 : Int))) (c := .tmp 76) (by kernel_rfl) (by kernel_rfl) (by kernel_rfl) 41 42 (by kernel_rfl) (by kernel_rfl) (fun hb => ?_) (fun hb => ?_)
                    · have c1375 : born < (0 : Int) := of_decide_eq_true hb
                      clear hb
                      refine At.keep [1, 2, 3, 6, 12, 18] ?_; show At _ _ _ [(1, .string (mkS q)), (2, .slice a_data data.length n_data), (3, .int .i64 owner), (6, .pointer (some ⟨b1271, 0, none⟩)), (12, .pointer (some ⟨b1274, 0, none⟩)), (18, .pointer (some ⟨b1313, 0, none⟩))] _
                      refine At.reg (L := [(0, false)]) (by kernel_rfl) ?_
                      refine Op.pures 1 [1, 2, 3, 4, 6, 12, 18] (L' := []) (e' := [(1, .string (mkS q)), (2, .slice a_data data.length n_data), (3, .int .i64 owner), (4, .int .i64 0), (6, .pointer (some ⟨b1271, 0, none⟩)), (12, .pointer (some ⟨b1274, 0, none⟩)), (18, .pointer (some ⟨b1313, 0, none⟩))]) (by kernel_rfl) ?_
                      refine Op.goto 42 (by kernel_rfl) ?_
                      exact join42 _  owner 0 _ (Nat.lt_succ_self _) (by omega) (by omega)  s1325
                    · have c1376 : ¬ (born < (0 : Int)) := of_decide_eq_false hb
                      clear hb
                      refine At.keep [1, 2, 3, 4, 6, 12, 18] ?_; show At _ _ _ [(1, .string (mkS q)), (2, .slice a_data data.length n_data), (3, .int .i64 owner), (4, .int .i64 born), (6, .pointer (some ⟨b1271, 0, none⟩)), (12, .pointer (some ⟨b1274, 0, none⟩)), (18, .pointer (some ⟨b1313, 0, none⟩))] _
                      exact join42 _  owner born _ (Nat.lt_succ_self _) (by omega) (by omega)  s1325
          refine At.reg (L := [(0, false)]) (by kernel_rfl) ?_
          refine Op.pures 1 [1, 2, 3, 4, 6, 12, 18, 47] (L' := []) (e' := [(1, .string (mkS p)), (2, .slice a_data data.length n_data), (3, .int .i64 owner), (4, .int .i64 born), (6, .pointer (some ⟨b1271, 0, none⟩)), (12, .pointer (some ⟨b1274, 0, none⟩)), (18, .pointer (some ⟨b1313, 0, none⟩)), (47, .bool num)]) (by kernel_rfl) ?_
          refine Op.goto 21 (by kernel_rfl) ?_
          refine At.cond (b := num) (c := .tmp 47) (by kernel_rfl) (by kernel_rfl) (by kernel_rfl) 22 28 (by kernel_rfl) (by kernel_rfl) (fun hb => ?_) (fun hb => ?_)
          · have c1377 : num = true := hb
            clear hb
            refine At.keep [1, 2, 3, 4, 6, 12, 18] ?_; show At _ _ _ [(1, .string (mkS p)), (2, .slice a_data data.length n_data), (3, .int .i64 owner), (4, .int .i64 born), (6, .pointer (some ⟨b1271, 0, none⟩)), (12, .pointer (some ⟨b1274, 0, none⟩)), (18, .pointer (some ⟨b1313, 0, none⟩))] _
            refine At.reg (L := [(0, false), (1, false), (2, false), (3, false), (4, false), (5, false), (6, false), (7, false), (8, false)]) (by kernel_rfl) ?_
            refine Op.pures 2 [1, 2, 3, 4, 6, 12, 18, 49, 50] (L' := [(2, false), (3, false), (4, false), (5, false), (6, false), (7, false), (8, false)]) (e' := [(1, .string (mkS p)), (2, .slice a_data data.length n_data), (3, .int .i64 owner), (4, .int .i64 born), (6, .pointer (some ⟨b1271, 0, none⟩)), (12, .pointer (some ⟨b1274, 0, none⟩)), (18, .pointer (some ⟨b1313, 0, none⟩)), (49, .string (mkS p)), (50, .pointer (some ⟨b1313, 4, none⟩))]) (by kernel_rfl) ?_
            refine Op.load (T := 3) (x := (.tmp 50)) (o := 4) (d := 51) (n := 1) (v := .int .i64 x1300.Next) (by kernel_rfl) (by kernel_rfl) (by kernel_rfl) (s1317.chunk 0 rfl) (by kernel_rfl) ?_
            refine Op.call0 (dst := some 52) (f := 87) (args := #[.string (mkS p), .int .i64 x1300.Next]) (by kernel_rfl) s1317 (numberedR _ _ _ s1317.sub hG p x1300.Next (by ((try dsimp only) <;> (omega))) (by ((try dsimp only) <;> ((have := (hB.2 _ (List.mem_of_getElem? hx1301)).2.2; omega)))) (by ((try dsimp only) <;> ((have := (hB.2 _ (List.mem_of_getElem? hx1301)).2.2; omega)))) ) ?_
            rintro _ g1380 _ h1378 hle1381 s1379 ⟨rfl, hgg, rfl⟩; subst g1380; clear hle1381
            refine Op.pures 5 [1, 2, 3, 4, 6, 12, 16, 18] (L' := []) (e' := [(1, .string (mkS (numS p x1300.Next))), (2, .slice a_data data.length n_data), (3, .int .i64 owner), (4, .int .i64 born), (6, .pointer (some ⟨b1271, 0, none⟩)), (12, .pointer (some ⟨b1274, 0, none⟩)), (16, .int .i64 (numE p x1300.Next)), (18, .pointer (some ⟨b1313, 0, none⟩))]) (by kernel_rfl) ?_
            refine Op.goto 23 (by kernel_rfl) ?_
            refine At.reg (L := [(0, false), (1, false)]) (by kernel_rfl) ?_
            refine Op.pures 2 [1, 2, 3, 4, 6, 12, 16, 18, 56] (L' := []) (e' := [(1, .string (mkS (numS p x1300.Next))), (2, .slice a_data data.length n_data), (3, .int .i64 owner), (4, .int .i64 born), (6, .pointer (some ⟨b1271, 0, none⟩)), (12, .pointer (some ⟨b1274, 0, none⟩)), (16, .int .i64 (numE p x1300.Next)), (18, .pointer (some ⟨b1313, 0, none⟩)), (56, .bool ((numE p x1300.Next) != (0 : Int)))]) (by kernel_rfl) ?_
            refine Op.goto 24 (by kernel_rfl) ?_
            refine At.cond (b := (numE p x1300.Next) != (0 : Int)) (c := .tmp 56) (by kernel_rfl) (by kernel_rfl) (by kernel_rfl) 25 27 (by kernel_rfl) (by kernel_rfl) (fun hb => ?_) (fun hb => ?_)
            · have c1382 : ¬ ((numE p x1300.Next) = (0 : Int)) := bneT hb
              clear hb
              refine At.keep [6, 12, 16] ?_; show At _ _ _ [(6, .pointer (some ⟨b1271, 0, none⟩)), (12, .pointer (some ⟨b1274, 0, none⟩)), (16, .int .i64 (numE p x1300.Next))] _
              refine At.reg (L := [(0, false), (1, false), (2, false), (3, false), (4, false)]) (by kernel_rfl) ?_
              refine Op.loadA (T := 75) (x := (.tmp 6)) (o := 0) (d := 57) (n := 1) (vs := [.slice (some ⟨b1302, o1303, none⟩) t.All.length n_t_0]) (by kernel_rfl) (by kernel_rfl) (by kernel_rfl) (s1379.chunk 2 rfl) (by kernel_rfl) rfl ?_
              refine Op.pures 1 [12, 57, 58] (L' := [(2, false), (3, false), (4, false)]) (e' := [(12, .pointer (some ⟨b1274, 0, none⟩)), (57, .agg #[.slice (some ⟨b1302, o1303, none⟩) t.All.length n_t_0]), (58, .int .i64 (numE p x1300.Next))]) (by kernel_rfl) ?_
              refine Op.store (T := 75) (x := (.tmp 12)) (y := (.tmp 57)) (b := b1274) (o := 0) (vs := [.slice (some ⟨b1302, o1303, none⟩) t.All.length n_t_0]) (a? := true) (n := 1) (by kernel_rfl) (by kernel_rfl) (by kernel_rfl) (by kernel_rfl) rfl (by simp [Value.oneCell']) s1379 1 rfl (Nat.le_of_ble_eq_true (by kernel_rfl)) (cs := #[.slice none 0 0]) (cs' := #[.slice (some ⟨b1302, o1303, none⟩) t.All.length n_t_0]) (by kernel_rfl) (fun _ => trivial) ?_
              intro h1383 s1384
              refine Op.pures 2 [12, 13, 14] (L' := []) (e' := [(12, .pointer (some ⟨b1274, 0, none⟩)), (13, .string (mkS [])), (14, .int .i64 (numE p x1300.Next))]) (by kernel_rfl) ?_
              refine Op.goto 26 (by kernel_rfl) ?_
              refine At.retM (f := Tryz.f44) (vs := [.agg #[.slice (some ⟨b1302, o1303, none⟩) t.All.length n_t_0], .string (mkS []), .int .i64 (numE p x1300.Next)]) (rl := [.cell 12 75, .tmp 13, .tmp 14]) (v := .tuple #[.agg #[.slice (some ⟨b1302, o1303, none⟩) t.All.length n_t_0], .string (mkS []), .int .i64 (numE p x1300.Next)]) (by kernel_rfl) (by kernel_rfl) ⟨⟨_, _, rfl, resAgg (n := 1) (by kernel_rfl) (s1384.chunk 1 rfl) (by kernel_rfl) rfl⟩, rfl, rfl, trivial⟩ rfl ?_
              have s1385 : St h g (ids []) g [] h1383 := (s1384).drop.drop.drop
              refine hR _ _ _ _ s1385 ⟨(.slice (some ⟨b1302, o1303, none⟩) t.All.length n_t_0), ?_, ?_, rfl⟩
              · exact eqT3 rfl (eqS (by (rw [rm_5 (by assumption) (by assumption) (atP_some (by assumption) hx1301) (by assumption) (by assumption) (by assumption)]; done))) (eqI (by (rw [rm_5 (by assumption) (by assumption) (atP_some (by assumption) hx1301) (by assumption) (by assumption) (by assumption)]; done)))
              · exact slEq h_t_0 (by (rw [rm_5 (by assumption) (by assumption) (atP_some (by assumption) hx1301) (by assumption) (by assumption) (by assumption)]; done))
            · have c1386 : (numE p x1300.Next) = (0 : Int) := bneF hb
              clear hb
              refine At.keep [1, 2, 3, 4, 6, 12, 18] ?_; show At _ _ _ [(1, .string (mkS (numS p x1300.Next))), (2, .slice a_data data.length n_data), (3, .int .i64 owner), (4, .int .i64 born), (6, .pointer (some ⟨b1271, 0, none⟩)), (12, .pointer (some ⟨b1274, 0, none⟩)), (18, .pointer (some ⟨b1313, 0, none⟩))] _
              refine At.reg (L := [(0, false), (1, false), (2, false), (3, false), (4, false)]) (by kernel_rfl) ?_
              refine Op.pures 1 [1, 2, 3, 4, 6, 12, 18, 59] (L' := [(1, false), (2, false), (3, false), (4, false)]) (e' := [(1, .string (mkS (numS p x1300.Next))), (2, .slice a_data data.length n_data), (3, .int .i64 owner), (4, .int .i64 born), (6, .pointer (some ⟨b1271, 0, none⟩)), (12, .pointer (some ⟨b1274, 0, none⟩)), (18, .pointer (some ⟨b1313, 0, none⟩)), (59, .pointer (some ⟨b1313, 4, none⟩))]) (by kernel_rfl) ?_
              refine Op.load (T := 3) (x := (.tmp 59)) (o := 4) (d := 60) (n := 1) (v := .int .i64 x1300.Next) (by kernel_rfl) (by kernel_rfl) (by kernel_rfl) (s1379.chunk 0 rfl) (by kernel_rfl) ?_
              refine Op.val (dst := some 61) (v := .int .i64 (IntKind.wrap .i64 (x1300.Next + 1))) (v' := .int .i64 (IntKind.wrap .i64 (x1300.Next + 1))) (by kernel_rfl) rfl ?_
              refine Op.pures 1 [1, 2, 3, 4, 6, 12, 18, 61, 62] (L' := [(4, false)]) (e' := [(1, .string (mkS (numS p x1300.Next))), (2, .slice a_data data.length n_data), (3, .int .i64 owner), (4, .int .i64 born), (6, .pointer (some ⟨b1271, 0, none⟩)), (12, .pointer (some ⟨b1274, 0, none⟩)), (18, .pointer (some ⟨b1313, 0, none⟩)), (61, .int .i64 (IntKind.wrap .i64 (x1300.Next + 1))), (62, .pointer (some ⟨b1313, 4, none⟩))]) (by kernel_rfl) ?_
              refine Op.store (T := 3) (x := (.tmp 62)) (y := (.tmp 61)) (b := b1313) (o := 4) (vs := [.int .i64 (IntKind.wrap .i64 (x1300.Next + 1))]) (a? := false) (n := 1) (by kernel_rfl) (by kernel_rfl) (by kernel_rfl) (by kernel_rfl) rfl (by simp [Value.oneCell']) s1379 0 rfl (Nat.le_of_ble_eq_true (by kernel_rfl)) (cs := #[.string (mkS x1300.Path), .slice a1311 x1300.Data.length n1312, .int .i64 x1300.Version, .int .i64 x1300.Owner, .int .i64 x1300.Next, .int .i64 x1300.Born]) (cs' := #[.string (mkS x1300.Path), .slice a1311 x1300.Data.length n1312, .int .i64 x1300.Version, .int .i64 x1300.Owner, .int .i64 (IntKind.wrap .i64 (x1300.Next + 1)), .int .i64 x1300.Born]) (by kernel_rfl) (fun _ => trivial) ?_
              intro h1387 s1388
              refine Op.goto 28 (by kernel_rfl) ?_
              refine At.keep [1, 2, 3, 4, 6, 12, 18] ?_; show At _ _ _ [(1, .string (mkS (numS p x1300.Next))), (2, .slice a_data data.length n_data), (3, .int .i64 owner), (4, .int .i64 born), (6, .pointer (some ⟨b1271, 0, none⟩)), (12, .pointer (some ⟨b1274, 0, none⟩)), (18, .pointer (some ⟨b1313, 0, none⟩))] _
              exact join28 _  (numS p x1300.Next) (IntKind.wrap .i64 (x1300.Next + 1)) _ (Nat.lt_succ_self _) (by exact mkE_t (by assumption) (by assumption)) (by (rw [if_pos (by assumption)]))  s1388
          · have c1389 : num = false := hb
            clear hb
            refine At.keep [1, 2, 3, 4, 6, 12, 18] ?_; show At _ _ _ [(1, .string (mkS p)), (2, .slice a_data data.length n_data), (3, .int .i64 owner), (4, .int .i64 born), (6, .pointer (some ⟨b1271, 0, none⟩)), (12, .pointer (some ⟨b1274, 0, none⟩)), (18, .pointer (some ⟨b1313, 0, none⟩))] _
            exact join28 _  p x1300.Next _ (Nat.lt_succ_self _) (by exact mkE_f (by assumption)) (by (rw [if_neg (Bool.eq_false_iff.1 (by assumption))]))  s1317
end Go.Proofs.YtmjebehhpojihaaGreatDoor.Sw
namespace Go.Proofs.YtmjebehhpojihaaGreatDoor.Sw
open Go
set_option maxRecDepth 100000
set_option linter.unusedVariables false
set_option linter.unusedSimpArgs false
set_option linter.deprecated false
theorem loadR (B : World) (h : Heap) (g : GH) (hg : Sub g h) (hG : Glob g) (t : R10Tree) (v_t_0 : Value) (h_t_0 : SlR g 59 kLeaf v_t_0 t.All) (v_list : Value) (list : List Leaf) (h_list : SlR g 59 kLeaf v_list list) (h1 : list.length ≤ 1000000) (hl : ∀ n ∈ list, n.Path.length ≤ 1000000 ∧ n.Data.length ≤ 1000000) :
    Spec Tryz.prog B 53 #[.agg #[v_t_0], v_list] h g [] (fun rv g' L' => ∃ v0, rv = .tuple #[.agg #[v0], .bool (loadB list)] ∧ SlR g' 59 kLeaf v0 ((⟨if loadB list = true then list else t.All⟩ : R10Tree).All) ∧ L' = []) := by
  obtain ⟨a_t_0, n_t_0, rfl⟩ := h_t_0.form
  obtain ⟨a_list, n_list, rfl⟩ := h_list.form
  refine Spec.of_at (f := Tryz.f53) (e := [(0, .agg #[.slice a_t_0 t.All.length n_t_0]), (1, .slice a_list list.length n_list)]) Tryz.func53 (by kernel_rfl) (Nat.le_of_ble_eq_true (by kernel_rfl)) (by kernel_rfl) (by kernel_rfl) ?_
  intro R hR
  have s0 := St.init hg
  refine At.reg (L := [(0, false), (1, false), (2, false)]) (by kernel_rfl) ?_
  refine Op.box (T := 75) (x := (.tmp 0)) (d := 2) (cs := #[.slice a_t_0 t.All.length n_t_0]) (by kernel_rfl) (by kernel_rfl) s0 ?_
  intro b1001 h1002 s1003
  refine Op.alloc (T := 75) (dst := 4) (cs := #[.slice none 0 0]) (by kernel_rfl) (by kernel_rfl) s1003 ?_
  intro b1004 h1005 s1006
  refine Op.pures 1 [1, 2, 4] (L' := []) (e' := [(1, .slice a_list list.length n_list), (2, .pointer (some ⟨b1001, 0, none⟩)), (4, .pointer (some ⟨b1004, 0, none⟩))]) (by kernel_rfl) ?_
  refine Op.goto 1 (by kernel_rfl) ?_
  have join5 : ∀ (m : Nat)  (h1007 : Heap) (hm : 0 < m) (hn1 : ¬ (list.length : Int) < 1) (hn2 : ¬ (list.length : Int) > 32) (hd0 : (atL list 0).Path = [47] ∧ (atL list 0).Owner = -1 ∧ (atL list 0).Born = 0)     (s_join51006 : St h g (ids []) g [[(b1004, Obj.cells #[.slice none 0 0] 75 (0, 0))], [(b1001, Obj.cells #[.slice a_t_0 t.All.length n_t_0] 75 (0, 0))]] h1007), At (fctx Tryz.prog B 53 Tryz.f53 R) [] 5 [(1, .slice a_list list.length n_list), (2, .pointer (some ⟨b1001, 0, none⟩)), (4, .pointer (some ⟨b1004, 0, none⟩))] h1007 := by
    intro m; induction m with
    | zero => intros; omega
    | succ m ih5 =>
      intro h1007 hm hn1 hn2 hd0 s_join51006
      refine At.reg (L := [(0, false), (1, false), (2, false), (3, false), (4, false)]) (by kernel_rfl) ?_
      refine Op.pures 1 [1, 2, 4, 42] (L' := [(1, false), (2, false), (3, false), (4, false)]) (e' := [(1, .slice a_list list.length n_list), (2, .pointer (some ⟨b1001, 0, none⟩)), (4, .pointer (some ⟨b1004, 0, none⟩)), (42, .slice a_list list.length n_list)]) (by kernel_rfl) ?_
      refine Op.call0 (dst := some 43) (f := 51) (args := #[.slice a_list list.length n_list]) (by kernel_rfl) s_join51006 (copyLeaves _ _ _ s_join51006.sub hG _ _ h_list (by ((try dsimp only) <;> (omega))) (by ((try dsimp only) <;> (exact fun n hn => by have := (hl n hn).2; omega))) ) ?_
      rintro _ g1014 _ h1008 hle1015 s1009 ⟨v1010, rfl, hr1011, rfl⟩
      obtain ⟨a1012, n1013, rfl⟩ := hr1011.form
      replace hG := hG.mono hle1015
      replace h_list := h_list.mono hle1015
      replace h_t_0 := h_t_0.mono hle1015
      refine Op.pures 1 [1, 2, 4, 44] (L' := [(3, false), (4, false)]) (e' := [(1, .slice a_list list.length n_list), (2, .pointer (some ⟨b1001, 0, none⟩)), (4, .pointer (some ⟨b1004, 0, none⟩)), (44, .agg #[.slice a1012 ((list).length) n1013])]) (by kernel_rfl) ?_
      refine Op.alloc (T := 75) (dst := 6) (cs := #[.slice none 0 0]) (by kernel_rfl) (by kernel_rfl) s1009 ?_
      intro b1016 h1017 s1018
      refine Op.store (T := 75) (x := (.tmp 6)) (y := (.tmp 44)) (b := b1016) (o := 0) (vs := [.slice a1012 ((list).length) n1013]) (a? := true) (n := 1) (by kernel_rfl) (by kernel_rfl) (by kernel_rfl) (by kernel_rfl) rfl (by simp [Value.oneCell']) s1018 0 rfl (Nat.le_of_ble_eq_true (by kernel_rfl)) (cs := #[.slice none 0 0]) (cs' := #[.slice a1012 ((list).length) n1013]) (by kernel_rfl) (fun _ => trivial) ?_
      intro h1019 s1020
      refine Op.goto 6 (by kernel_rfl) ?_
      refine At.reg (L := [(0, false)]) (by kernel_rfl) ?_
      refine Op.pures 1 [1, 2, 4, 6, 7] (L' := []) (e' := [(1, .slice a_list list.length n_list), (2, .pointer (some ⟨b1001, 0, none⟩)), (4, .pointer (some ⟨b1004, 0, none⟩)), (6, .pointer (some ⟨b1016, 0, none⟩)), (7, .int .i64 0)]) (by kernel_rfl) ?_
      refine Op.goto 7 (by kernel_rfl) ?_
      have loop7 : ∀ (m : Nat) (i : Int) (h1021 : Heap) (hm : list.length - i.toNat < m) (h0 : 0 ≤ i) (h3 : i ≤ list.length) (hsn : SeenR list i)     (s_loop71020 : St h g (ids []) g1014 [[(b1016, Obj.cells #[.slice a1012 ((list).length) n1013] 75 (0, 0))], [(b1004, Obj.cells #[.slice none 0 0] 75 (0, 0))], [(b1001, Obj.cells #[.slice a_t_0 t.All.length n_t_0] 75 (0, 0))]] h1021), At (fctx Tryz.prog B 53 Tryz.f53 R) [] 7 [(1, .slice a_list list.length n_list), (2, .pointer (some ⟨b1001, 0, none⟩)), (4, .pointer (some ⟨b1004, 0, none⟩)), (6, .pointer (some ⟨b1016, 0, none⟩)), (7, .int .i64 i)] h1021 := by
        intro m; induction m with
        | zero => intros; omega
        | succ m ih7 =>
          intro i h1021 hm h0 h3 hsn s_loop71020
          refine At.reg (L := [(0, false), (1, false), (2, false), (3, false)]) (by kernel_rfl) ?_
          refine Op.pures 4 [1, 2, 4, 6, 7, 48] (L' := []) (e' := [(1, .slice a_list list.length n_list), (2, .pointer (some ⟨b1001, 0, none⟩)), (4, .pointer (some ⟨b1004, 0, none⟩)), (6, .pointer (some ⟨b1016, 0, none⟩)), (7, .int .i64 i), (48, .bool (decide (i < (list.length : Int))))]) (by kernel_rfl) ?_
          refine Op.goto 8 (by kernel_rfl) ?_
          refine At.cond (b := decide (i < (list.length : Int))) (c := .tmp 48) (by kernel_rfl) (by kernel_rfl) (by kernel_rfl) 9 23 (by kernel_rfl) (by kernel_rfl) (fun hb => ?_) (fun hb => ?_)
          · have c1022 : i < (list.length : Int) := of_decide_eq_true hb
            clear hb
            refine At.keep [1, 2, 4, 6, 7] ?_; show At _ _ _ [(1, .slice a_list list.length n_list), (2, .pointer (some ⟨b1001, 0, none⟩)), (4, .pointer (some ⟨b1004, 0, none⟩)), (6, .pointer (some ⟨b1016, 0, none⟩)), (7, .int .i64 i)] _
            refine At.reg (L := [(0, false), (1, false), (2, false), (3, false), (4, false), (5, false)]) (by kernel_rfl) ?_
            refine Op.pures 2 [1, 2, 4, 6, 7, 51, 52] (L' := [(2, false), (3, false), (4, false), (5, false)]) (e' := [(1, .slice a_list list.length n_list), (2, .pointer (some ⟨b1001, 0, none⟩)), (4, .pointer (some ⟨b1004, 0, none⟩)), (6, .pointer (some ⟨b1016, 0, none⟩)), (7, .int .i64 i), (51, .slice a_list list.length n_list), (52, .int .i64 i)]) (by kernel_rfl) ?_
            obtain ⟨x1023, hx1024⟩ : ∃ c, list[(i : Int).toNat]? = some c := ⟨_, List.getElem?_eq_getElem (by omega)⟩
            obtain ⟨b1025, o1026, cu1027, fz1028, ha1029, hb1030, hk1031⟩ := SlR.at_ h_list _ hx1024
            cases ha1029
            refine Op.idx (T := 52) (E := 59) (sz := 6) (by_ := 72) (n := list.length) (c := n_list) (k := .i64) (x := (.tmp 51)) (ix := (.tmp 52)) (dst := 53) (bk := b1025) (o := o1026) (m := i) (by kernel_rfl) (by kernel_rfl) (by kernel_rfl) (by kernel_rfl) (by omega) (by omega) ?_
            obtain ⟨v1032, hv1033, hk1031⟩ := hk1031
            obtain ⟨a1034, n1035, rfl⟩ := hv1033.form
            refine Op.loadA (T := 59) (x := (.tmp 53)) (o := o1026 + (i : Int).toNat * 6) (d := 54) (n := 6) (vs := [.string (mkS x1023.Path), .slice a1034 x1023.Data.length n1035, .int .i64 x1023.Version, .int .i64 x1023.Owner, .int .i64 x1023.Next, .int .i64 x1023.Born]) (by kernel_rfl) (by kernel_rfl) (by kernel_rfl) (s_loop71020.sub _ _ hb1030) (hk1031) rfl ?_
            refine Op.alloc (T := 59) (dst := 8) (cs := #[.string (mkS []), .slice none 0 0, .int .i64 0, .int .i64 0, .int .i64 0, .int .i64 0]) (by kernel_rfl) (by kernel_rfl) s_loop71020 ?_
            intro b1036 h1037 s1038
            refine Op.store (T := 59) (x := (.tmp 8)) (y := (.tmp 54)) (b := b1036) (o := 0) (vs := [.string (mkS x1023.Path), .slice a1034 x1023.Data.length n1035, .int .i64 x1023.Version, .int .i64 x1023.Owner, .int .i64 x1023.Next, .int .i64 x1023.Born]) (a? := true) (n := 6) (by kernel_rfl) (by kernel_rfl) (by kernel_rfl) (by kernel_rfl) rfl (by simp [Value.oneCell']) s1038 0 rfl (Nat.le_of_ble_eq_true (by kernel_rfl)) (cs := #[.string (mkS []), .slice none 0 0, .int .i64 0, .int .i64 0, .int .i64 0, .int .i64 0]) (cs' := #[.string (mkS x1023.Path), .slice a1034 x1023.Data.length n1035, .int .i64 x1023.Version, .int .i64 x1023.Owner, .int .i64 x1023.Next, .int .i64 x1023.Born]) (by kernel_rfl) (fun _ => trivial) ?_
            intro h1039 s1040
            refine Op.goto 10 (by kernel_rfl) ?_
            have join14 : ∀ (m : Nat)  (h1041 : Heap) (hm : 0 < m) (hfl : -1 ≤ x1023.Owner ∧ 0 ≤ x1023.Version ∧ 0 ≤ x1023.Next ∧ 0 ≤ x1023.Born ∧ x1023.Data.length ≤ 128) (hri : ∀ y : Leaf, 0 < i → list[(i - 1).toNat]? = some y → lt8 y.Path x1023.Path = true)     (s_join141040 : St h g (ids []) g1014 [[(b1036, Obj.cells #[.string (mkS x1023.Path), .slice a1034 x1023.Data.length n1035, .int .i64 x1023.Version, .int .i64 x1023.Owner, .int .i64 x1023.Next, .int .i64 x1023.Born] 59 (0, 0))], [(b1016, Obj.cells #[.slice a1012 ((list).length) n1013] 75 (0, 0))], [(b1004, Obj.cells #[.slice none 0 0] 75 (0, 0))], [(b1001, Obj.cells #[.slice a_t_0 t.All.length n_t_0] 75 (0, 0))]] h1041), At (fctx Tryz.prog B 53 Tryz.f53 R) [] 14 [(1, .slice (some ⟨b1025, o1026, none⟩) list.length n_list), (2, .pointer (some ⟨b1001, 0, none⟩)), (4, .pointer (some ⟨b1004, 0, none⟩)), (6, .pointer (some ⟨b1016, 0, none⟩)), (7, .int .i64 i), (8, .pointer (some ⟨b1036, 0, none⟩))] h1041 := by
              intro m; induction m with
              | zero => intros; omega
              | succ m ih14 =>
                intro h1041 hm hfl hri s_join141040
                refine At.reg (L := [(0, false), (1, false)]) (by kernel_rfl) ?_
                refine Op.pures 2 [1, 2, 4, 6, 7, 8, 96] (L' := []) (e' := [(1, .slice (some ⟨b1025, o1026, none⟩) list.length n_list), (2, .pointer (some ⟨b1001, 0, none⟩)), (4, .pointer (some ⟨b1004, 0, none⟩)), (6, .pointer (some ⟨b1016, 0, none⟩)), (7, .int .i64 i), (8, .pointer (some ⟨b1036, 0, none⟩)), (96, .bool (i == (0 : Int)))]) (by kernel_rfl) ?_
                refine Op.goto 15 (by kernel_rfl) ?_
                refine At.cond (b := i == (0 : Int)) (c := .tmp 96) (by kernel_rfl) (by kernel_rfl) (by kernel_rfl) 22 16 (by kernel_rfl) (by kernel_rfl) (fun hb => ?_) (fun hb => ?_)
                · have c1042 : i = (0 : Int) := eq_of_beq hb
                  clear hb
                  refine At.keep [1, 2, 4, 6, 7] ?_; show At _ _ _ [(1, .slice (some ⟨b1025, o1026, none⟩) list.length n_list), (2, .pointer (some ⟨b1001, 0, none⟩)), (4, .pointer (some ⟨b1004, 0, none⟩)), (6, .pointer (some ⟨b1016, 0, none⟩)), (7, .int .i64 i)] _
                  have loop22 : ∀ (m : Nat)  (h1043 : Heap) (hm : 0 < m) (hup : 0 < i → cutErr x1023.Path = 0 ∧ ∃ u, findL list (parentOf x1023.Path) = some u ∧ u.Owner = -1)     (s_loop221042 : St h g (ids []) g1014 [[(b1036, Obj.cells #[.string (mkS x1023.Path), .slice a1034 x1023.Data.length n1035, .int .i64 x1023.Version, .int .i64 x1023.Owner, .int .i64 x1023.Next, .int .i64 x1023.Born] 59 (0, 0))], [(b1016, Obj.cells #[.slice a1012 ((list).length) n1013] 75 (0, 0))], [(b1004, Obj.cells #[.slice none 0 0] 75 (0, 0))], [(b1001, Obj.cells #[.slice a_t_0 t.All.length n_t_0] 75 (0, 0))]] h1043), At (fctx Tryz.prog B 53 Tryz.f53 R) [] 22 [(1, .slice (some ⟨b1025, o1026, none⟩) list.length n_list), (2, .pointer (some ⟨b1001, 0, none⟩)), (4, .pointer (some ⟨b1004, 0, none⟩)), (6, .pointer (some ⟨b1016, 0, none⟩)), (7, .int .i64 i)] h1043 := by
                    intro m; induction m with
                    | zero => intros; omega
                    | succ m ih22 =>
                      intro h1043 hm hup s_loop221042
                      refine At.reg (L := [(0, false), (1, false), (2, false)]) (by kernel_rfl) ?_
                      refine Op.pures 1 [1, 2, 4, 6, 7, 49] (L' := [(1, false), (2, false)]) (e' := [(1, .slice (some ⟨b1025, o1026, none⟩) list.length n_list), (2, .pointer (some ⟨b1001, 0, none⟩)), (4, .pointer (some ⟨b1004, 0, none⟩)), (6, .pointer (some ⟨b1016, 0, none⟩)), (7, .int .i64 i), (49, .int .i64 i)]) (by kernel_rfl) ?_
                      refine Op.val (dst := some 50) (v := .int .i64 (IntKind.wrap .i64 (i + 1))) (v' := .int .i64 (i + 1)) (by kernel_rfl) (wrapEq_i64 (by omega) (by omega)) ?_
                      refine Op.pures 1 [1, 2, 4, 6, 7] (L' := []) (e' := [(1, .slice (some ⟨b1025, o1026, none⟩) list.length n_list), (2, .pointer (some ⟨b1001, 0, none⟩)), (4, .pointer (some ⟨b1004, 0, none⟩)), (6, .pointer (some ⟨b1016, 0, none⟩)), (7, .int .i64 (i + 1))]) (by kernel_rfl) ?_
                      refine Op.goto 7 (by kernel_rfl) ?_
                      have s1044 : St h g (ids []) g1014 [[(b1016, Obj.cells #[.slice a1012 ((list).length) n1013] 75 (0, 0))], [(b1004, Obj.cells #[.slice none 0 0] 75 (0, 0))], [(b1001, Obj.cells #[.slice a_t_0 t.All.length n_t_0] 75 (0, 0))]] h1043 := (s_loop221042).drop
                      exact ih7  (i + 1) _ (by omega) (by omega) (by omega) (by exact SeenR_step hsn h0 hx1024 hfl hri hup)  s1044
                  exact loop22 _   _ (Nat.lt_succ_self _) (by exact fun hi => absurd hi (by omega))  s_join141040
                · have c1045 : ¬ (i = (0 : Int)) := neF hb
                  clear hb
                  refine At.keep [1, 2, 4, 6, 7, 8] ?_; show At _ _ _ [(1, .slice (some ⟨b1025, o1026, none⟩) list.length n_list), (2, .pointer (some ⟨b1001, 0, none⟩)), (4, .pointer (some ⟨b1004, 0, none⟩)), (6, .pointer (some ⟨b1016, 0, none⟩)), (7, .int .i64 i), (8, .pointer (some ⟨b1036, 0, none⟩))] _
                  refine At.reg (L := [(0, false), (1, false), (2, false), (3, false), (4, false), (5, false), (6, false), (7, false)]) (by kernel_rfl) ?_
                  refine Op.pures 1 [1, 2, 4, 6, 7, 98] (L' := [(1, false), (2, false), (3, false), (4, false), (5, false), (6, false), (7, false)]) (e' := [(1, .slice (some ⟨b1025, o1026, none⟩) list.length n_list), (2, .pointer (some ⟨b1001, 0, none⟩)), (4, .pointer (some ⟨b1004, 0, none⟩)), (6, .pointer (some ⟨b1016, 0, none⟩)), (7, .int .i64 i), (98, .pointer (some ⟨b1036, 0, none⟩))]) (by kernel_rfl) ?_
                  refine Op.load (T := 9) (x := (.tmp 98)) (o := 0) (d := 99) (n := 1) (v := .string (mkS x1023.Path)) (by kernel_rfl) (by kernel_rfl) (by kernel_rfl) (s_join141040.chunk 0 rfl) (by kernel_rfl) ?_
                  refine Op.call0 (dst := some 100) (f := 85) (args := #[.string (mkS x1023.Path)]) (by kernel_rfl) s_join141040 (parentR _ _ _ s_join141040.sub hG x1023.Path (by ((try dsimp only) <;> ((have := (hl _ (List.mem_of_getElem? hx1024)).1; omega)))) ) ?_
                  rintro _ g1048 _ h1046 hle1049 s1047 ⟨rfl, hgg, rfl⟩; subst g1048; clear hle1049
                  refine Op.pures 5 [1, 2, 4, 6, 7, 9, 10] (L' := []) (e' := [(1, .slice (some ⟨b1025, o1026, none⟩) list.length n_list), (2, .pointer (some ⟨b1001, 0, none⟩)), (4, .pointer (some ⟨b1004, 0, none⟩)), (6, .pointer (some ⟨b1016, 0, none⟩)), (7, .int .i64 i), (9, .string (mkS (parentOf x1023.Path))), (10, .int .i64 (cutErr x1023.Path))]) (by kernel_rfl) ?_
                  refine Op.goto 17 (by kernel_rfl) ?_
                  refine At.reg (L := [(0, false), (1, false), (2, false), (3, false)]) (by kernel_rfl) ?_
                  refine Op.loadA (T := 75) (x := (.tmp 6)) (o := 0) (d := 103) (n := 1) (vs := [.slice a1012 ((list).length) n1013]) (by kernel_rfl) (by kernel_rfl) (by kernel_rfl) (s1047.chunk 1 rfl) (by kernel_rfl) rfl ?_
                  refine Op.pures 1 [1, 2, 4, 6, 7, 10, 103, 104] (L' := [(2, false), (3, false)]) (e' := [(1, .slice (some ⟨b1025, o1026, none⟩) list.length n_list), (2, .pointer (some ⟨b1001, 0, none⟩)), (4, .pointer (some ⟨b1004, 0, none⟩)), (6, .pointer (some ⟨b1016, 0, none⟩)), (7, .int .i64 i), (10, .int .i64 (cutErr x1023.Path)), (103, .agg #[.slice a1012 ((list).length) n1013]), (104, .string (mkS (parentOf x1023.Path)))]) (by kernel_rfl) ?_
                  refine Op.call0 (dst := some 105) (f := 86) (args := #[.agg #[.slice a1012 ((list).length) n1013], .string (mkS (parentOf x1023.Path))]) (by kernel_rfl) s1047 (atR _ _ _ s1047.sub hG (⟨list⟩ : R10Tree) _ hr1011 (parentOf x1023.Path) (by ((try dsimp only) <;> (omega))) ) ?_
                  rintro _ g1052 _ h1050 hle1053 s1051 ⟨rfl, hgg, rfl⟩; subst g1052; clear hle1053
                  refine Op.pures 1 [1, 2, 4, 6, 7, 10, 11] (L' := []) (e' := [(1, .slice (some ⟨b1025, o1026, none⟩) list.length n_list), (2, .pointer (some ⟨b1001, 0, none⟩)), (4, .pointer (some ⟨b1004, 0, none⟩)), (6, .pointer (some ⟨b1016, 0, none⟩)), (7, .int .i64 i), (10, .int .i64 (cutErr x1023.Path)), (11, .int .i64 (atP list (parentOf x1023.Path)))]) (by kernel_rfl) ?_
                  refine Op.goto 18 (by kernel_rfl) ?_
                  refine At.reg (L := [(0, false), (1, false), (2, false), (3, false), (4, false), (5, false), (6, false), (7, false), (8, false), (9, false), (10, false), (11, false), (12, false), (13, false), (14, false)]) (by kernel_rfl) ?_
                  refine Op.pures 3 [1, 2, 4, 6, 7, 11, 108] (L' := [(3, false), (4, false), (5, false), (6, false), (7, false), (8, false), (9, false), (10, false), (11, false), (12, false), (13, false), (14, false)]) (e' := [(1, .slice (some ⟨b1025, o1026, none⟩) list.length n_list), (2, .pointer (some ⟨b1001, 0, none⟩)), (4, .pointer (some ⟨b1004, 0, none⟩)), (6, .pointer (some ⟨b1016, 0, none⟩)), (7, .int .i64 i), (11, .int .i64 (atP list (parentOf x1023.Path))), (108, .bool ((cutErr x1023.Path) != (0 : Int)))]) (by kernel_rfl) ?_
                  refine Op.ways (b := (cutErr x1023.Path) != (0 : Int)) ⟨fun hb => ?_, fun hb => ?_⟩
                  · refine Op.cast (e' := [(1, .slice (some ⟨b1025, o1026, none⟩) list.length n_list), (2, .pointer (some ⟨b1001, 0, none⟩)), (4, .pointer (some ⟨b1004, 0, none⟩)), (6, .pointer (some ⟨b1016, 0, none⟩)), (7, .int .i64 i), (11, .int .i64 (atP list (parentOf x1023.Path))), (108, .bool true)]) (by rw [hb]) ?_
                    have c1054 : ¬ ((cutErr x1023.Path) = (0 : Int)) := bneT hb
                    clear hb
                    refine Op.pures 12 [1, 2, 4, 6, 7, 120] (L' := []) (e' := [(1, .slice (some ⟨b1025, o1026, none⟩) list.length n_list), (2, .pointer (some ⟨b1001, 0, none⟩)), (4, .pointer (some ⟨b1004, 0, none⟩)), (6, .pointer (some ⟨b1016, 0, none⟩)), (7, .int .i64 i), (120, .bool true)]) (by kernel_rfl) ?_
                    refine Op.goto 19 (by kernel_rfl) ?_
                    refine At.condT (c := .tmp 120) (by kernel_rfl) (by kernel_rfl) (by kernel_rfl) 20 (by kernel_rfl) ?_
                    refine At.reg (L := [(0, false), (1, false), (2, false)]) (by kernel_rfl) ?_
                    refine Op.loadA (T := 75) (x := (.tmp 2)) (o := 0) (d := 121) (n := 1) (vs := [.slice a_t_0 t.All.length n_t_0]) (by kernel_rfl) (by kernel_rfl) (by kernel_rfl) (s1051.chunk 3 rfl) (by kernel_rfl) rfl ?_
                    refine Op.store (T := 75) (x := (.tmp 4)) (y := (.tmp 121)) (b := b1004) (o := 0) (vs := [.slice a_t_0 t.All.length n_t_0]) (a? := true) (n := 1) (by kernel_rfl) (by kernel_rfl) (by kernel_rfl) (by kernel_rfl) rfl (by simp [Value.oneCell']) s1051 2 rfl (Nat.le_of_ble_eq_true (by kernel_rfl)) (cs := #[.slice none 0 0]) (cs' := #[.slice a_t_0 t.All.length n_t_0]) (by kernel_rfl) (fun _ => trivial) ?_
                    intro h1055 s1056
                    refine Op.pures 1 [4, 5] (L' := []) (e' := [(4, .pointer (some ⟨b1004, 0, none⟩)), (5, .bool false)]) (by kernel_rfl) ?_
                    refine Op.goto 21 (by kernel_rfl) ?_
                    refine At.retM (f := Tryz.f53) (vs := [.agg #[.slice a_t_0 t.All.length n_t_0], .bool false]) (rl := [.cell 4 75, .tmp 5]) (v := .tuple #[.agg #[.slice a_t_0 t.All.length n_t_0], .bool false]) (by kernel_rfl) (by kernel_rfl) ⟨⟨_, _, rfl, resAgg (n := 1) (by kernel_rfl) (s1056.chunk 2 rfl) (by kernel_rfl) rfl⟩, rfl, trivial⟩ rfl ?_
                    have s1057 : St h g (ids []) g1014 [] h1055 := (s1056).drop.drop.drop.drop
                    refine hR _ _ _ _ s1057 ⟨(.slice a_t_0 t.All.length n_t_0), ?_, ?_, rfl⟩
                    · exact eqT2 rfl (eqB (by exact ld_cut (by omega) hx1024 (by assumption)))
                    · exact slEq h_t_0 (by (rw [← ld_cut (by omega) hx1024 (by assumption)]; rfl))
                  · refine Op.cast (e' := [(1, .slice (some ⟨b1025, o1026, none⟩) list.length n_list), (2, .pointer (some ⟨b1001, 0, none⟩)), (4, .pointer (some ⟨b1004, 0, none⟩)), (6, .pointer (some ⟨b1016, 0, none⟩)), (7, .int .i64 i), (11, .int .i64 (atP list (parentOf x1023.Path))), (108, .bool false)]) (by rw [hb]) ?_
                    have c1058 : (cutErr x1023.Path) = (0 : Int) := bneF hb
                    clear hb
                    refine Op.pures 4 [1, 2, 4, 6, 7, 11, 112] (L' := [(7, false), (8, false), (9, false), (10, false), (11, false), (12, false), (13, false), (14, false)]) (e' := [(1, .slice (some ⟨b1025, o1026, none⟩) list.length n_list), (2, .pointer (some ⟨b1001, 0, none⟩)), (4, .pointer (some ⟨b1004, 0, none⟩)), (6, .pointer (some ⟨b1016, 0, none⟩)), (7, .int .i64 i), (11, .int .i64 (atP list (parentOf x1023.Path))), (112, .bool (decide ((atP list (parentOf x1023.Path)) < (0 : Int))))]) (by kernel_rfl) ?_
                    refine Op.ways (b := decide ((atP list (parentOf x1023.Path)) < (0 : Int))) ⟨fun hb => ?_, fun hb => ?_⟩
                    · refine Op.cast (e' := [(1, .slice (some ⟨b1025, o1026, none⟩) list.length n_list), (2, .pointer (some ⟨b1001, 0, none⟩)), (4, .pointer (some ⟨b1004, 0, none⟩)), (6, .pointer (some ⟨b1016, 0, none⟩)), (7, .int .i64 i), (11, .int .i64 (atP list (parentOf x1023.Path))), (112, .bool true)]) (by rw [hb]) ?_
                      have c1059 : (atP list (parentOf x1023.Path)) < (0 : Int) := of_decide_eq_true hb
                      clear hb
                      refine Op.pures 8 [1, 2, 4, 6, 7, 120] (L' := []) (e' := [(1, .slice (some ⟨b1025, o1026, none⟩) list.length n_list), (2, .pointer (some ⟨b1001, 0, none⟩)), (4, .pointer (some ⟨b1004, 0, none⟩)), (6, .pointer (some ⟨b1016, 0, none⟩)), (7, .int .i64 i), (120, .bool true)]) (by kernel_rfl) ?_
                      refine Op.goto 19 (by kernel_rfl) ?_
                      refine At.condT (c := .tmp 120) (by kernel_rfl) (by kernel_rfl) (by kernel_rfl) 20 (by kernel_rfl) ?_
                      refine At.reg (L := [(0, false), (1, false), (2, false)]) (by kernel_rfl) ?_
                      refine Op.loadA (T := 75) (x := (.tmp 2)) (o := 0) (d := 121) (n := 1) (vs := [.slice a_t_0 t.All.length n_t_0]) (by kernel_rfl) (by kernel_rfl) (by kernel_rfl) (s1051.chunk 3 rfl) (by kernel_rfl) rfl ?_
                      refine Op.store (T := 75) (x := (.tmp 4)) (y := (.tmp 121)) (b := b1004) (o := 0) (vs := [.slice a_t_0 t.All.length n_t_0]) (a? := true) (n := 1) (by kernel_rfl) (by kernel_rfl) (by kernel_rfl) (by kernel_rfl) rfl (by simp [Value.oneCell']) s1051 2 rfl (Nat.le_of_ble_eq_true (by kernel_rfl)) (cs := #[.slice none 0 0]) (cs' := #[.slice a_t_0 t.All.length n_t_0]) (by kernel_rfl) (fun _ => trivial) ?_
                      intro h1060 s1061
                      refine Op.pures 1 [4, 5] (L' := []) (e' := [(4, .pointer (some ⟨b1004, 0, none⟩)), (5, .bool false)]) (by kernel_rfl) ?_
                      refine Op.goto 21 (by kernel_rfl) ?_
                      refine At.retM (f := Tryz.f53) (vs := [.agg #[.slice a_t_0 t.All.length n_t_0], .bool false]) (rl := [.cell 4 75, .tmp 5]) (v := .tuple #[.agg #[.slice a_t_0 t.All.length n_t_0], .bool false]) (by kernel_rfl) (by kernel_rfl) ⟨⟨_, _, rfl, resAgg (n := 1) (by kernel_rfl) (s1061.chunk 2 rfl) (by kernel_rfl) rfl⟩, rfl, trivial⟩ rfl ?_
                      have s1062 : St h g (ids []) g1014 [] h1060 := (s1061).drop.drop.drop.drop
                      refine hR _ _ _ _ s1062 ⟨(.slice a_t_0 t.All.length n_t_0), ?_, ?_, rfl⟩
                      · exact eqT2 rfl (eqB (by exact ld_none (by omega) hx1024 (atP_none (by assumption))))
                      · exact slEq h_t_0 (by (rw [← ld_none (by omega) hx1024 (atP_none (by assumption))]; rfl))
                    · refine Op.cast (e' := [(1, .slice (some ⟨b1025, o1026, none⟩) list.length n_list), (2, .pointer (some ⟨b1001, 0, none⟩)), (4, .pointer (some ⟨b1004, 0, none⟩)), (6, .pointer (some ⟨b1016, 0, none⟩)), (7, .int .i64 i), (11, .int .i64 (atP list (parentOf x1023.Path))), (112, .bool false)]) (by rw [hb]) ?_
                      have c1063 : ¬ ((atP list (parentOf x1023.Path)) < (0 : Int)) := of_decide_eq_false hb
                      clear hb
                      refine Op.pures 1 [1, 2, 4, 6, 7, 11, 112, 113] (L' := [(8, false), (9, false), (10, false), (11, false), (12, false), (13, false), (14, false)]) (e' := [(1, .slice (some ⟨b1025, o1026, none⟩) list.length n_list), (2, .pointer (some ⟨b1001, 0, none⟩)), (4, .pointer (some ⟨b1004, 0, none⟩)), (6, .pointer (some ⟨b1016, 0, none⟩)), (7, .int .i64 i), (11, .int .i64 (atP list (parentOf x1023.Path))), (112, .bool false), (113, .pointer (some ⟨b1016, 0, none⟩))]) (by kernel_rfl) ?_
                      refine Op.load (T := 52) (x := (.tmp 113)) (o := 0) (d := 114) (n := 1) (v := .slice a1012 ((list).length) n1013) (by kernel_rfl) (by kernel_rfl) (by kernel_rfl) (s1051.chunk 1 rfl) (by kernel_rfl) ?_
                      refine Op.pures 1 [1, 2, 4, 6, 7, 112, 114, 115] (L' := [(10, false), (11, false), (12, false), (13, false), (14, false)]) (e' := [(1, .slice (some ⟨b1025, o1026, none⟩) list.length n_list), (2, .pointer (some ⟨b1001, 0, none⟩)), (4, .pointer (some ⟨b1004, 0, none⟩)), (6, .pointer (some ⟨b1016, 0, none⟩)), (7, .int .i64 i), (112, .bool false), (114, .slice a1012 ((list).length) n1013), (115, .int .i64 (atP list (parentOf x1023.Path)))]) (by kernel_rfl) ?_
                      obtain ⟨x1064, hx1065⟩ : ∃ c, list[(atP list (parentOf x1023.Path) : Int).toNat]? = some c := ⟨_, List.getElem?_eq_getElem (by (have := atP_lt (ns := list) (p := parentOf x1023.Path); omega))⟩
                      obtain ⟨b1066, o1067, cu1068, fz1069, ha1070, hb1071, hk1072⟩ := SlR.at_ hr1011 _ hx1065
                      cases ha1070
                      refine Op.idx (T := 52) (E := 59) (sz := 6) (by_ := 72) (n := ((list).length)) (c := n1013) (k := .i64) (x := (.tmp 114)) (ix := (.tmp 115)) (dst := 116) (bk := b1066) (o := o1067) (m := atP list (parentOf x1023.Path)) (by kernel_rfl) (by kernel_rfl) (by kernel_rfl) (by kernel_rfl) (by omega) (by (have := atP_lt (ns := list) (p := parentOf x1023.Path); omega)) ?_
                      obtain ⟨v1073, hv1074, hk1072⟩ := hk1072
                      obtain ⟨a1075, n1076, rfl⟩ := hv1074.form
                      refine Op.pures 1 [1, 2, 4, 6, 7, 112, 117] (L' := [(12, false), (13, false), (14, false)]) (e' := [(1, .slice (some ⟨b1025, o1026, none⟩) list.length n_list), (2, .pointer (some ⟨b1001, 0, none⟩)), (4, .pointer (some ⟨b1004, 0, none⟩)), (6, .pointer (some ⟨b1016, 0, none⟩)), (7, .int .i64 i), (112, .bool false), (117, .pointer (some ⟨b1066, o1067 + (atP list (parentOf x1023.Path) : Int).toNat * 6 + 3, none⟩))]) (by kernel_rfl) ?_
                      refine Op.load (T := 3) (x := (.tmp 117)) (o := o1067 + (atP list (parentOf x1023.Path) : Int).toNat * 6 + 3) (d := 118) (n := 1) (v := .int .i64 x1064.Owner) (by kernel_rfl) (by kernel_rfl) (by kernel_rfl) (s1051.sub _ _ hb1071) (cut_get hk1072 3 rfl) ?_
                      refine Op.pures 2 [1, 2, 4, 6, 7, 120] (L' := []) (e' := [(1, .slice (some ⟨b1025, o1026, none⟩) list.length n_list), (2, .pointer (some ⟨b1001, 0, none⟩)), (4, .pointer (some ⟨b1004, 0, none⟩)), (6, .pointer (some ⟨b1016, 0, none⟩)), (7, .int .i64 i), (120, .bool (x1064.Owner != ((-1) : Int)))]) (by kernel_rfl) ?_
                      refine Op.goto 19 (by kernel_rfl) ?_
                      refine At.cond (b := x1064.Owner != ((-1) : Int)) (c := .tmp 120) (by kernel_rfl) (by kernel_rfl) (by kernel_rfl) 20 22 (by kernel_rfl) (by kernel_rfl) (fun hb => ?_) (fun hb => ?_)
                      · have c1077 : ¬ (x1064.Owner = ((-1) : Int)) := bneT hb
                        clear hb
                        refine At.keep [2, 4] ?_; show At _ _ _ [(2, .pointer (some ⟨b1001, 0, none⟩)), (4, .pointer (some ⟨b1004, 0, none⟩))] _
                        refine At.reg (L := [(0, false), (1, false), (2, false)]) (by kernel_rfl) ?_
                        refine Op.loadA (T := 75) (x := (.tmp 2)) (o := 0) (d := 121) (n := 1) (vs := [.slice a_t_0 t.All.length n_t_0]) (by kernel_rfl) (by kernel_rfl) (by kernel_rfl) (s1051.chunk 3 rfl) (by kernel_rfl) rfl ?_
                        refine Op.store (T := 75) (x := (.tmp 4)) (y := (.tmp 121)) (b := b1004) (o := 0) (vs := [.slice a_t_0 t.All.length n_t_0]) (a? := true) (n := 1) (by kernel_rfl) (by kernel_rfl) (by kernel_rfl) (by kernel_rfl) rfl (by simp [Value.oneCell']) s1051 2 rfl (Nat.le_of_ble_eq_true (by kernel_rfl)) (cs := #[.slice none 0 0]) (cs' := #[.slice a_t_0 t.All.length n_t_0]) (by kernel_rfl) (fun _ => trivial) ?_
                        intro h1078 s1079
                        refine Op.pures 1 [4, 5] (L' := []) (e' := [(4, .pointer (some ⟨b1004, 0, none⟩)), (5, .bool false)]) (by kernel_rfl) ?_
                        refine Op.goto 21 (by kernel_rfl) ?_
                        refine At.retM (f := Tryz.f53) (vs := [.agg #[.slice a_t_0 t.All.length n_t_0], .bool false]) (rl := [.cell 4 75, .tmp 5]) (v := .tuple #[.agg #[.slice a_t_0 t.All.length n_t_0], .bool false]) (by kernel_rfl) (by kernel_rfl) ⟨⟨_, _, rfl, resAgg (n := 1) (by kernel_rfl) (s1079.chunk 2 rfl) (by kernel_rfl) rfl⟩, rfl, trivial⟩ rfl ?_
                        have s1080 : St h g (ids []) g1014 [] h1078 := (s1079).drop.drop.drop.drop
                        refine hR _ _ _ _ s1080 ⟨(.slice a_t_0 t.All.length n_t_0), ?_, ?_, rfl⟩
                        · exact eqT2 rfl (eqB (by exact ld_brief (by omega) hx1024 (atP_some (by assumption) hx1065) (by assumption)))
                        · exact slEq h_t_0 (by (rw [← ld_brief (by omega) hx1024 (atP_some (by assumption) hx1065) (by assumption)]; rfl))
                      · have c1081 : x1064.Owner = ((-1) : Int) := bneF hb
                        clear hb
                        refine At.keep [1, 2, 4, 6, 7] ?_; show At _ _ _ [(1, .slice (some ⟨b1025, o1026, none⟩) list.length n_list), (2, .pointer (some ⟨b1001, 0, none⟩)), (4, .pointer (some ⟨b1004, 0, none⟩)), (6, .pointer (some ⟨b1016, 0, none⟩)), (7, .int .i64 i)] _
                        have loop22 : ∀ (m : Nat)  (h1082 : Heap) (hm : 0 < m) (hup : 0 < i → cutErr x1023.Path = 0 ∧ ∃ u, findL list (parentOf x1023.Path) = some u ∧ u.Owner = -1)     (s_loop221081 : St h g (ids []) g1014 [[(b1036, Obj.cells #[.string (mkS x1023.Path), .slice a1034 x1023.Data.length n1035, .int .i64 x1023.Version, .int .i64 x1023.Owner, .int .i64 x1023.Next, .int .i64 x1023.Born] 59 (0, 0))], [(b1016, Obj.cells #[.slice (some ⟨b1066, o1067, none⟩) ((list).length) n1013] 75 (0, 0))], [(b1004, Obj.cells #[.slice none 0 0] 75 (0, 0))], [(b1001, Obj.cells #[.slice a_t_0 t.All.length n_t_0] 75 (0, 0))]] h1082), At (fctx Tryz.prog B 53 Tryz.f53 R) [] 22 [(1, .slice (some ⟨b1025, o1026, none⟩) list.length n_list), (2, .pointer (some ⟨b1001, 0, none⟩)), (4, .pointer (some ⟨b1004, 0, none⟩)), (6, .pointer (some ⟨b1016, 0, none⟩)), (7, .int .i64 i)] h1082 := by
                          intro m; induction m with
                          | zero => intros; omega
                          | succ m ih22 =>
                            intro h1082 hm hup s_loop221081
                            refine At.reg (L := [(0, false), (1, false), (2, false)]) (by kernel_rfl) ?_
                            refine Op.pures 1 [1, 2, 4, 6, 7, 49] (L' := [(1, false), (2, false)]) (e' := [(1, .slice (some ⟨b1025, o1026, none⟩) list.length n_list), (2, .pointer (some ⟨b1001, 0, none⟩)), (4, .pointer (some ⟨b1004, 0, none⟩)), (6, .pointer (some ⟨b1016, 0, none⟩)), (7, .int .i64 i), (49, .int .i64 i)]) (by kernel_rfl) ?_
                            refine Op.val (dst := some 50) (v := .int .i64 (IntKind.wrap .i64 (i + 1))) (v' := .int .i64 (i + 1)) (by kernel_rfl) (wrapEq_i64 (by omega) (by omega)) ?_
                            refine Op.pures 1 [1, 2, 4, 6, 7] (L' := []) (e' := [(1, .slice (some ⟨b1025, o1026, none⟩) list.length n_list), (2, .pointer (some ⟨b1001, 0, none⟩)), (4, .pointer (some ⟨b1004, 0, none⟩)), (6, .pointer (some ⟨b1016, 0, none⟩)), (7, .int .i64 (i + 1))]) (by kernel_rfl) ?_
                            refine Op.goto 7 (by kernel_rfl) ?_
                            have s1083 : St h g (ids []) g1014 [[(b1016, Obj.cells #[.slice (some ⟨b1066, o1067, none⟩) ((list).length) n1013] 75 (0, 0))], [(b1004, Obj.cells #[.slice none 0 0] 75 (0, 0))], [(b1001, Obj.cells #[.slice a_t_0 t.All.length n_t_0] 75 (0, 0))]] h1082 := (s_loop221081).drop
                            exact ih7  (i + 1) _ (by omega) (by omega) (by omega) (by exact SeenR_step hsn h0 hx1024 hfl hri hup)  s1083
                        exact loop22 _   _ (Nat.lt_succ_self _) (by exact fun _ => ⟨by assumption, _, atP_some (by assumption) hx1065, by assumption⟩)  s1051
            refine At.draw (by kernel_rfl) (fun _ => False) [(0, true), (1, false), (2, true), (3, true), (4, true), (5, false), (6, true), (7, true), (8, true), (9, true), (10, false), (11, true), (12, true), (13, true), (14, true), (15, false), (16, true), (17, true), (18, true), (19, true), (20, false), (21, true), (22, true), (23, true), (24, true), (25, true), (26, true), (27, true), (28, true), (29, true), (30, true), (31, true), (32, true), (34, true), (33, true), (35, false), (36, true), (37, true), (38, true)] (by kernel_rfl) ?_
            refine Op.pures 1 [1, 2, 4, 6, 7, 8, 55] (L' := [(1, false), (2, true), (3, true), (4, true), (5, false), (6, true), (7, true), (8, true), (9, true), (10, false), (11, true), (12, true), (13, true), (14, true), (15, false), (16, true), (17, true), (18, true), (19, true), (20, false), (21, true), (22, true), (23, true), (24, true), (25, true), (26, true), (27, true), (28, true), (29, true), (30, true), (31, true), (32, true), (34, true), (33, true), (35, false), (36, true), (37, true), (38, true)]) (e' := [(1, .slice (some ⟨b1025, o1026, none⟩) list.length n_list), (2, .pointer (some ⟨b1001, 0, none⟩)), (4, .pointer (some ⟨b1004, 0, none⟩)), (6, .pointer (some ⟨b1016, 0, none⟩)), (7, .int .i64 i), (8, .pointer (some ⟨b1036, 0, none⟩)), (55, .pointer (some ⟨b1036, 3, none⟩))]) (by kernel_rfl) ?_
            refine Op.load (T := 3) (x := (.tmp 55)) (o := 3) (d := 56) (n := 1) (v := .int .i64 x1023.Owner) (by kernel_rfl) (by kernel_rfl) (by kernel_rfl) (s1040.chunk 0 rfl) (by kernel_rfl) ?_
            refine Op.pures 2 [1, 2, 4, 6, 7, 8, 58] (L' := [(4, true), (5, false), (6, true), (7, true), (8, true), (9, true), (10, false), (11, true), (12, true), (13, true), (14, true), (15, false), (16, true), (17, true), (18, true), (19, true), (20, false), (21, true), (22, true), (23, true), (24, true), (25, true), (26, true), (27, true), (28, true), (29, true), (30, true), (31, true), (32, true), (34, true), (33, true), (35, false), (36, true), (37, true), (38, true)]) (e' := [(1, .slice (some ⟨b1025, o1026, none⟩) list.length n_list), (2, .pointer (some ⟨b1001, 0, none⟩)), (4, .pointer (some ⟨b1004, 0, none⟩)), (6, .pointer (some ⟨b1016, 0, none⟩)), (7, .int .i64 i), (8, .pointer (some ⟨b1036, 0, none⟩)), (58, .bool (decide (x1023.Owner < ((-1) : Int))))]) (by kernel_rfl) ?_
            refine Op.ways (b := decide (x1023.Owner < ((-1) : Int))) ⟨fun hb => ?_, fun hb => ?_⟩
            · refine Op.cast (e' := [(1, .slice (some ⟨b1025, o1026, none⟩) list.length n_list), (2, .pointer (some ⟨b1001, 0, none⟩)), (4, .pointer (some ⟨b1004, 0, none⟩)), (6, .pointer (some ⟨b1016, 0, none⟩)), (7, .int .i64 i), (8, .pointer (some ⟨b1036, 0, none⟩)), (58, .bool true)]) (by rw [hb]) ?_
              have c1084 : x1023.Owner < ((-1) : Int) := of_decide_eq_true hb
              clear hb
              refine Op.pures 35 [1, 2, 4, 6, 7, 8, 93] (L' := []) (e' := [(1, .slice (some ⟨b1025, o1026, none⟩) list.length n_list), (2, .pointer (some ⟨b1001, 0, none⟩)), (4, .pointer (some ⟨b1004, 0, none⟩)), (6, .pointer (some ⟨b1016, 0, none⟩)), (7, .int .i64 i), (8, .pointer (some ⟨b1036, 0, none⟩)), (93, .bool true)]) (by kernel_rfl) ?_
              refine Op.goto 11 (by kernel_rfl) ?_
              refine At.condT (c := .tmp 93) (by kernel_rfl) (by kernel_rfl) (by kernel_rfl) 12 (by kernel_rfl) ?_
              refine At.reg (L := [(0, false), (1, false), (2, false)]) (by kernel_rfl) ?_
              refine Op.loadA (T := 75) (x := (.tmp 2)) (o := 0) (d := 94) (n := 1) (vs := [.slice a_t_0 t.All.length n_t_0]) (by kernel_rfl) (by kernel_rfl) (by kernel_rfl) (s1040.chunk 3 rfl) (by kernel_rfl) rfl ?_
              refine Op.store (T := 75) (x := (.tmp 4)) (y := (.tmp 94)) (b := b1004) (o := 0) (vs := [.slice a_t_0 t.All.length n_t_0]) (a? := true) (n := 1) (by kernel_rfl) (by kernel_rfl) (by kernel_rfl) (by kernel_rfl) rfl (by simp [Value.oneCell']) s1040 2 rfl (Nat.le_of_ble_eq_true (by kernel_rfl)) (cs := #[.slice none 0 0]) (cs' := #[.slice a_t_0 t.All.length n_t_0]) (by kernel_rfl) (fun _ => trivial) ?_
              intro h1085 s1086
              refine Op.pures 1 [4, 5] (L' := []) (e' := [(4, .pointer (some ⟨b1004, 0, none⟩)), (5, .bool false)]) (by kernel_rfl) ?_
              refine Op.goto 13 (by kernel_rfl) ?_
              refine At.retM (f := Tryz.f53) (vs := [.agg #[.slice a_t_0 t.All.length n_t_0], .bool false]) (rl := [.cell 4 75, .tmp 5]) (v := .tuple #[.agg #[.slice a_t_0 t.All.length n_t_0], .bool false]) (by kernel_rfl) (by kernel_rfl) ⟨⟨_, _, rfl, resAgg (n := 1) (by kernel_rfl) (s1086.chunk 2 rfl) (by kernel_rfl) rfl⟩, rfl, trivial⟩ rfl ?_
              have s1087 : St h g (ids []) g1014 [] h1085 := (s1086).drop.drop.drop.drop
              refine hR _ _ _ _ s1087 ⟨(.slice a_t_0 t.All.length n_t_0), ?_, ?_, rfl⟩
              · exact eqT2 rfl (eqB (by exact ld_field hx1024 (by first | exact .inl (by assumption) | exact .inr (.inl (by assumption)) | exact .inr (.inr (.inl (by assumption))) | exact .inr (.inr (.inr (.inl (by assumption)))) | exact .inr (.inr (.inr (.inr (by assumption)))))))
              · exact slEq h_t_0 (by (rw [← ld_field hx1024 (by first | exact .inl (by assumption) | exact .inr (.inl (by assumption)) | exact .inr (.inr (.inl (by assumption))) | exact .inr (.inr (.inr (.inl (by assumption)))) | exact .inr (.inr (.inr (.inr (by assumption)))))]; rfl))
            · refine Op.cast (e' := [(1, .slice (some ⟨b1025, o1026, none⟩) list.length n_list), (2, .pointer (some ⟨b1001, 0, none⟩)), (4, .pointer (some ⟨b1004, 0, none⟩)), (6, .pointer (some ⟨b1016, 0, none⟩)), (7, .int .i64 i), (8, .pointer (some ⟨b1036, 0, none⟩)), (58, .bool false)]) (by rw [hb]) ?_
              have c1088 : ¬ (x1023.Owner < ((-1) : Int)) := of_decide_eq_false hb
              clear hb
              refine Op.pures 1 [1, 2, 4, 6, 7, 8, 58, 59] (L' := [(5, false), (6, true), (7, true), (8, true), (9, true), (10, false), (11, true), (12, true), (13, true), (14, true), (15, false), (16, true), (17, true), (18, true), (19, true), (20, false), (21, true), (22, true), (23, true), (24, true), (25, true), (26, true), (27, true), (28, true), (29, true), (30, true), (31, true), (32, true), (34, true), (33, true), (35, false), (36, true), (37, true), (38, true)]) (e' := [(1, .slice (some ⟨b1025, o1026, none⟩) list.length n_list), (2, .pointer (some ⟨b1001, 0, none⟩)), (4, .pointer (some ⟨b1004, 0, none⟩)), (6, .pointer (some ⟨b1016, 0, none⟩)), (7, .int .i64 i), (8, .pointer (some ⟨b1036, 0, none⟩)), (58, .bool false), (59, .pointer (some ⟨b1036, 2, none⟩))]) (by kernel_rfl) ?_
              refine Op.load (T := 3) (x := (.tmp 59)) (o := 2) (d := 60) (n := 1) (v := .int .i64 x1023.Version) (by kernel_rfl) (by kernel_rfl) (by kernel_rfl) (s1040.chunk 0 rfl) (by kernel_rfl) ?_
              refine Op.pures 3 [1, 2, 4, 6, 7, 8, 63] (L' := [(9, true), (10, false), (11, true), (12, true), (13, true), (14, true), (15, false), (16, true), (17, true), (18, true), (19, true), (20, false), (21, true), (22, true), (23, true), (24, true), (25, true), (26, true), (27, true), (28, true), (29, true), (30, true), (31, true), (32, true), (34, true), (33, true), (35, false), (36, true), (37, true), (38, true)]) (e' := [(1, .slice (some ⟨b1025, o1026, none⟩) list.length n_list), (2, .pointer (some ⟨b1001, 0, none⟩)), (4, .pointer (some ⟨b1004, 0, none⟩)), (6, .pointer (some ⟨b1016, 0, none⟩)), (7, .int .i64 i), (8, .pointer (some ⟨b1036, 0, none⟩)), (63, .bool (decide (x1023.Version < (0 : Int))))]) (by kernel_rfl) ?_
              refine Op.ways (b := decide (x1023.Version < (0 : Int))) ⟨fun hb => ?_, fun hb => ?_⟩
              · refine Op.cast (e' := [(1, .slice (some ⟨b1025, o1026, none⟩) list.length n_list), (2, .pointer (some ⟨b1001, 0, none⟩)), (4, .pointer (some ⟨b1004, 0, none⟩)), (6, .pointer (some ⟨b1016, 0, none⟩)), (7, .int .i64 i), (8, .pointer (some ⟨b1036, 0, none⟩)), (63, .bool true)]) (by rw [hb]) ?_
                have c1089 : x1023.Version < (0 : Int) := of_decide_eq_true hb
                clear hb
                refine Op.pures 30 [1, 2, 4, 6, 7, 8, 93] (L' := []) (e' := [(1, .slice (some ⟨b1025, o1026, none⟩) list.length n_list), (2, .pointer (some ⟨b1001, 0, none⟩)), (4, .pointer (some ⟨b1004, 0, none⟩)), (6, .pointer (some ⟨b1016, 0, none⟩)), (7, .int .i64 i), (8, .pointer (some ⟨b1036, 0, none⟩)), (93, .bool true)]) (by kernel_rfl) ?_
                refine Op.goto 11 (by kernel_rfl) ?_
                refine At.condT (c := .tmp 93) (by kernel_rfl) (by kernel_rfl) (by kernel_rfl) 12 (by kernel_rfl) ?_
                refine At.reg (L := [(0, false), (1, false), (2, false)]) (by kernel_rfl) ?_
                refine Op.loadA (T := 75) (x := (.tmp 2)) (o := 0) (d := 94) (n := 1) (vs := [.slice a_t_0 t.All.length n_t_0]) (by kernel_rfl) (by kernel_rfl) (by kernel_rfl) (s1040.chunk 3 rfl) (by kernel_rfl) rfl ?_
                refine Op.store (T := 75) (x := (.tmp 4)) (y := (.tmp 94)) (b := b1004) (o := 0) (vs := [.slice a_t_0 t.All.length n_t_0]) (a? := true) (n := 1) (by kernel_rfl) (by kernel_rfl) (by kernel_rfl) (by kernel_rfl) rfl (by simp [Value.oneCell']) s1040 2 rfl (Nat.le_of_ble_eq_true (by kernel_rfl)) (cs := #[.slice none 0 0]) (cs' := #[.slice a_t_0 t.All.length n_t_0]) (by kernel_rfl) (fun _ => trivial) ?_
                intro h1090 s1091
                refine Op.pures 1 [4, 5] (L' := []) (e' := [(4, .pointer (some ⟨b1004, 0, none⟩)), (5, .bool false)]) (by kernel_rfl) ?_
                refine Op.goto 13 (by kernel_rfl) ?_
                refine At.retM (f := Tryz.f53) (vs := [.agg #[.slice a_t_0 t.All.length n_t_0], .bool false]) (rl := [.cell 4 75, .tmp 5]) (v := .tuple #[.agg #[.slice a_t_0 t.All.length n_t_0], .bool false]) (by kernel_rfl) (by kernel_rfl) ⟨⟨_, _, rfl, resAgg (n := 1) (by kernel_rfl) (s1091.chunk 2 rfl) (by kernel_rfl) rfl⟩, rfl, trivial⟩ rfl ?_
                have s1092 : St h g (ids []) g1014 [] h1090 := (s1091).drop.drop.drop.drop
                refine hR _ _ _ _ s1092 ⟨(.slice a_t_0 t.All.length n_t_0), ?_, ?_, rfl⟩
                · exact eqT2 rfl (eqB (by exact ld_field hx1024 (by first | exact .inl (by assumption) | exact .inr (.inl (by assumption)) | exact .inr (.inr (.inl (by assumption))) | exact .inr (.inr (.inr (.inl (by assumption)))) | exact .inr (.inr (.inr (.inr (by assumption)))))))
                · exact slEq h_t_0 (by (rw [← ld_field hx1024 (by first | exact .inl (by assumption) | exact .inr (.inl (by assumption)) | exact .inr (.inr (.inl (by assumption))) | exact .inr (.inr (.inr (.inl (by assumption)))) | exact .inr (.inr (.inr (.inr (by assumption)))))]; rfl))
              · refine Op.cast (e' := [(1, .slice (some ⟨b1025, o1026, none⟩) list.length n_list), (2, .pointer (some ⟨b1001, 0, none⟩)), (4, .pointer (some ⟨b1004, 0, none⟩)), (6, .pointer (some ⟨b1016, 0, none⟩)), (7, .int .i64 i), (8, .pointer (some ⟨b1036, 0, none⟩)), (63, .bool false)]) (by rw [hb]) ?_
                have c1093 : ¬ (x1023.Version < (0 : Int)) := of_decide_eq_false hb
                clear hb
                refine Op.pures 1 [1, 2, 4, 6, 7, 8, 63, 64] (L' := [(10, false), (11, true), (12, true), (13, true), (14, true), (15, false), (16, true), (17, true), (18, true), (19, true), (20, false), (21, true), (22, true), (23, true), (24, true), (25, true), (26, true), (27, true), (28, true), (29, true), (30, true), (31, true), (32, true), (34, true), (33, true), (35, false), (36, true), (37, true), (38, true)]) (e' := [(1, .slice (some ⟨b1025, o1026, none⟩) list.length n_list), (2, .pointer (some ⟨b1001, 0, none⟩)), (4, .pointer (some ⟨b1004, 0, none⟩)), (6, .pointer (some ⟨b1016, 0, none⟩)), (7, .int .i64 i), (8, .pointer (some ⟨b1036, 0, none⟩)), (63, .bool false), (64, .pointer (some ⟨b1036, 4, none⟩))]) (by kernel_rfl) ?_
                refine Op.load (T := 3) (x := (.tmp 64)) (o := 4) (d := 65) (n := 1) (v := .int .i64 x1023.Next) (by kernel_rfl) (by kernel_rfl) (by kernel_rfl) (s1040.chunk 0 rfl) (by kernel_rfl) ?_
                refine Op.pures 3 [1, 2, 4, 6, 7, 8, 68] (L' := [(14, true), (15, false), (16, true), (17, true), (18, true), (19, true), (20, false), (21, true), (22, true), (23, true), (24, true), (25, true), (26, true), (27, true), (28, true), (29, true), (30, true), (31, true), (32, true), (34, true), (33, true), (35, false), (36, true), (37, true), (38, true)]) (e' := [(1, .slice (some ⟨b1025, o1026, none⟩) list.length n_list), (2, .pointer (some ⟨b1001, 0, none⟩)), (4, .pointer (some ⟨b1004, 0, none⟩)), (6, .pointer (some ⟨b1016, 0, none⟩)), (7, .int .i64 i), (8, .pointer (some ⟨b1036, 0, none⟩)), (68, .bool (decide (x1023.Next < (0 : Int))))]) (by kernel_rfl) ?_
                refine Op.ways (b := decide (x1023.Next < (0 : Int))) ⟨fun hb => ?_, fun hb => ?_⟩
                · refine Op.cast (e' := [(1, .slice (some ⟨b1025, o1026, none⟩) list.length n_list), (2, .pointer (some ⟨b1001, 0, none⟩)), (4, .pointer (some ⟨b1004, 0, none⟩)), (6, .pointer (some ⟨b1016, 0, none⟩)), (7, .int .i64 i), (8, .pointer (some ⟨b1036, 0, none⟩)), (68, .bool true)]) (by rw [hb]) ?_
                  have c1094 : x1023.Next < (0 : Int) := of_decide_eq_true hb
                  clear hb
                  refine Op.pures 25 [1, 2, 4, 6, 7, 8, 93] (L' := []) (e' := [(1, .slice (some ⟨b1025, o1026, none⟩) list.length n_list), (2, .pointer (some ⟨b1001, 0, none⟩)), (4, .pointer (some ⟨b1004, 0, none⟩)), (6, .pointer (some ⟨b1016, 0, none⟩)), (7, .int .i64 i), (8, .pointer (some ⟨b1036, 0, none⟩)), (93, .bool true)]) (by kernel_rfl) ?_
                  refine Op.goto 11 (by kernel_rfl) ?_
                  refine At.condT (c := .tmp 93) (by kernel_rfl) (by kernel_rfl) (by kernel_rfl) 12 (by kernel_rfl) ?_
                  refine At.reg (L := [(0, false), (1, false), (2, false)]) (by kernel_rfl) ?_
                  refine Op.loadA (T := 75) (x := (.tmp 2)) (o := 0) (d := 94) (n := 1) (vs := [.slice a_t_0 t.All.length n_t_0]) (by kernel_rfl) (by kernel_rfl) (by kernel_rfl) (s1040.chunk 3 rfl) (by kernel_rfl) rfl ?_
                  refine Op.store (T := 75) (x := (.tmp 4)) (y := (.tmp 94)) (b := b1004) (o := 0) (vs := [.slice a_t_0 t.All.length n_t_0]) (a? := true) (n := 1) (by kernel_rfl) (by kernel_rfl) (by kernel_rfl) (by kernel_rfl) rfl (by simp [Value.oneCell']) s1040 2 rfl (Nat.le_of_ble_eq_true (by kernel_rfl)) (cs := #[.slice none 0 0]) (cs' := #[.slice a_t_0 t.All.length n_t_0]) (by kernel_rfl) (fun _ => trivial) ?_
                  intro h1095 s1096
                  refine Op.pures 1 [4, 5] (L' := []) (e' := [(4, .pointer (some ⟨b1004, 0, none⟩)), (5, .bool false)]) (by kernel_rfl) ?_
                  refine Op.goto 13 (by kernel_rfl) ?_
                  refine At.retM (f := Tryz.f53) (vs := [.agg #[.slice a_t_0 t.All.length n_t_0], .bool false]) (rl := [.cell 4 75, .tmp 5]) (v := .tuple #[.agg #[.slice a_t_0 t.All.length n_t_0], .bool false]) (by kernel_rfl) (by kernel_rfl) ⟨⟨_, _, rfl, resAgg (n := 1) (by kernel_rfl) (s1096.chunk 2 rfl) (by kernel_rfl) rfl⟩, rfl, trivial⟩ rfl ?_
                  have s1097 : St h g (ids []) g1014 [] h1095 := (s1096).drop.drop.drop.drop
                  refine hR _ _ _ _ s1097 ⟨(.slice a_t_0 t.All.length n_t_0), ?_, ?_, rfl⟩
                  · exact eqT2 rfl (eqB (by exact ld_field hx1024 (by first | exact .inl (by assumption) | exact .inr (.inl (by assumption)) | exact .inr (.inr (.inl (by assumption))) | exact .inr (.inr (.inr (.inl (by assumption)))) | exact .inr (.inr (.inr (.inr (by assumption)))))))
                  · exact slEq h_t_0 (by (rw [← ld_field hx1024 (by first | exact .inl (by assumption) | exact .inr (.inl (by assumption)) | exact .inr (.inr (.inl (by assumption))) | exact .inr (.inr (.inr (.inl (by assumption)))) | exact .inr (.inr (.inr (.inr (by assumption)))))]; rfl))
                · refine Op.cast (e' := [(1, .slice (some ⟨b1025, o1026, none⟩) list.length n_list), (2, .pointer (some ⟨b1001, 0, none⟩)), (4, .pointer (some ⟨b1004, 0, none⟩)), (6, .pointer (some ⟨b1016, 0, none⟩)), (7, .int .i64 i), (8, .pointer (some ⟨b1036, 0, none⟩)), (68, .bool false)]) (by rw [hb]) ?_
                  have c1098 : ¬ (x1023.Next < (0 : Int)) := of_decide_eq_false hb
                  clear hb
                  refine Op.pures 1 [1, 2, 4, 6, 7, 8, 68, 69] (L' := [(15, false), (16, true), (17, true), (18, true), (19, true), (20, false), (21, true), (22, true), (23, true), (24, true), (25, true), (26, true), (27, true), (28, true), (29, true), (30, true), (31, true), (32, true), (34, true), (33, true), (35, false), (36, true), (37, true), (38, true)]) (e' := [(1, .slice (some ⟨b1025, o1026, none⟩) list.length n_list), (2, .pointer (some ⟨b1001, 0, none⟩)), (4, .pointer (some ⟨b1004, 0, none⟩)), (6, .pointer (some ⟨b1016, 0, none⟩)), (7, .int .i64 i), (8, .pointer (some ⟨b1036, 0, none⟩)), (68, .bool false), (69, .pointer (some ⟨b1036, 5, none⟩))]) (by kernel_rfl) ?_
                  refine Op.load (T := 3) (x := (.tmp 69)) (o := 5) (d := 70) (n := 1) (v := .int .i64 x1023.Born) (by kernel_rfl) (by kernel_rfl) (by kernel_rfl) (s1040.chunk 0 rfl) (by kernel_rfl) ?_
                  refine Op.pures 3 [1, 2, 4, 6, 7, 8, 73] (L' := [(19, true), (20, false), (21, true), (22, true), (23, true), (24, true), (25, true), (26, true), (27, true), (28, true), (29, true), (30, true), (31, true), (32, true), (34, true), (33, true), (35, false), (36, true), (37, true), (38, true)]) (e' := [(1, .slice (some ⟨b1025, o1026, none⟩) list.length n_list), (2, .pointer (some ⟨b1001, 0, none⟩)), (4, .pointer (some ⟨b1004, 0, none⟩)), (6, .pointer (some ⟨b1016, 0, none⟩)), (7, .int .i64 i), (8, .pointer (some ⟨b1036, 0, none⟩)), (73, .bool (decide (x1023.Born < (0 : Int))))]) (by kernel_rfl) ?_
                  refine Op.ways (b := decide (x1023.Born < (0 : Int))) ⟨fun hb => ?_, fun hb => ?_⟩
                  · refine Op.cast (e' := [(1, .slice (some ⟨b1025, o1026, none⟩) list.length n_list), (2, .pointer (some ⟨b1001, 0, none⟩)), (4, .pointer (some ⟨b1004, 0, none⟩)), (6, .pointer (some ⟨b1016, 0, none⟩)), (7, .int .i64 i), (8, .pointer (some ⟨b1036, 0, none⟩)), (73, .bool true)]) (by rw [hb]) ?_
                    have c1099 : x1023.Born < (0 : Int) := of_decide_eq_true hb
                    clear hb
                    refine Op.pures 20 [1, 2, 4, 6, 7, 8, 93] (L' := []) (e' := [(1, .slice (some ⟨b1025, o1026, none⟩) list.length n_list), (2, .pointer (some ⟨b1001, 0, none⟩)), (4, .pointer (some ⟨b1004, 0, none⟩)), (6, .pointer (some ⟨b1016, 0, none⟩)), (7, .int .i64 i), (8, .pointer (some ⟨b1036, 0, none⟩)), (93, .bool true)]) (by kernel_rfl) ?_
                    refine Op.goto 11 (by kernel_rfl) ?_
                    refine At.condT (c := .tmp 93) (by kernel_rfl) (by kernel_rfl) (by kernel_rfl) 12 (by kernel_rfl) ?_
                    refine At.reg (L := [(0, false), (1, false), (2, false)]) (by kernel_rfl) ?_
                    refine Op.loadA (T := 75) (x := (.tmp 2)) (o := 0) (d := 94) (n := 1) (vs := [.slice a_t_0 t.All.length n_t_0]) (by kernel_rfl) (by kernel_rfl) (by kernel_rfl) (s1040.chunk 3 rfl) (by kernel_rfl) rfl ?_
                    refine Op.store (T := 75) (x := (.tmp 4)) (y := (.tmp 94)) (b := b1004) (o := 0) (vs := [.slice a_t_0 t.All.length n_t_0]) (a? := true) (n := 1) (by kernel_rfl) (by kernel_rfl) (by kernel_rfl) (by kernel_rfl) rfl (by simp [Value.oneCell']) s1040 2 rfl (Nat.le_of_ble_eq_true (by kernel_rfl)) (cs := #[.slice none 0 0]) (cs' := #[.slice a_t_0 t.All.length n_t_0]) (by kernel_rfl) (fun _ => trivial) ?_
                    intro h1100 s1101
                    refine Op.pures 1 [4, 5] (L' := []) (e' := [(4, .pointer (some ⟨b1004, 0, none⟩)), (5, .bool false)]) (by kernel_rfl) ?_
                    refine Op.goto 13 (by kernel_rfl) ?_
                    refine At.retM (f := Tryz.f53) (vs := [.agg #[.slice a_t_0 t.All.length n_t_0], .bool false]) (rl := [.cell 4 75, .tmp 5]) (v := .tuple #[.agg #[.slice a_t_0 t.All.length n_t_0], .bool false]) (by kernel_rfl) (by kernel_rfl) ⟨⟨_, _, rfl, resAgg (n := 1) (by kernel_rfl) (s1101.chunk 2 rfl) (by kernel_rfl) rfl⟩, rfl, trivial⟩ rfl ?_
                    have s1102 : St h g (ids []) g1014 [] h1100 := (s1101).drop.drop.drop.drop
                    refine hR _ _ _ _ s1102 ⟨(.slice a_t_0 t.All.length n_t_0), ?_, ?_, rfl⟩
                    · exact eqT2 rfl (eqB (by exact ld_field hx1024 (by first | exact .inl (by assumption) | exact .inr (.inl (by assumption)) | exact .inr (.inr (.inl (by assumption))) | exact .inr (.inr (.inr (.inl (by assumption)))) | exact .inr (.inr (.inr (.inr (by assumption)))))))
                    · exact slEq h_t_0 (by (rw [← ld_field hx1024 (by first | exact .inl (by assumption) | exact .inr (.inl (by assumption)) | exact .inr (.inr (.inl (by assumption))) | exact .inr (.inr (.inr (.inl (by assumption)))) | exact .inr (.inr (.inr (.inr (by assumption)))))]; rfl))
                  · refine Op.cast (e' := [(1, .slice (some ⟨b1025, o1026, none⟩) list.length n_list), (2, .pointer (some ⟨b1001, 0, none⟩)), (4, .pointer (some ⟨b1004, 0, none⟩)), (6, .pointer (some ⟨b1016, 0, none⟩)), (7, .int .i64 i), (8, .pointer (some ⟨b1036, 0, none⟩)), (73, .bool false)]) (by rw [hb]) ?_
                    have c1103 : ¬ (x1023.Born < (0 : Int)) := of_decide_eq_false hb
                    clear hb
                    refine Op.pures 1 [1, 2, 4, 6, 7, 8, 73, 74] (L' := [(20, false), (21, true), (22, true), (23, true), (24, true), (25, true), (26, true), (27, true), (28, true), (29, true), (30, true), (31, true), (32, true), (34, true), (33, true), (35, false), (36, true), (37, true), (38, true)]) (e' := [(1, .slice (some ⟨b1025, o1026, none⟩) list.length n_list), (2, .pointer (some ⟨b1001, 0, none⟩)), (4, .pointer (some ⟨b1004, 0, none⟩)), (6, .pointer (some ⟨b1016, 0, none⟩)), (7, .int .i64 i), (8, .pointer (some ⟨b1036, 0, none⟩)), (73, .bool false), (74, .pointer (some ⟨b1036, 1, none⟩))]) (by kernel_rfl) ?_
                    refine Op.load (T := 29) (x := (.tmp 74)) (o := 1) (d := 75) (n := 1) (v := .slice a1034 x1023.Data.length n1035) (by kernel_rfl) (by kernel_rfl) (by kernel_rfl) (s1040.chunk 0 rfl) (by kernel_rfl) ?_
                    refine Op.pures 4 [1, 2, 4, 6, 7, 8, 79] (L' := [(25, true), (26, true), (27, true), (28, true), (29, true), (30, true), (31, true), (32, true), (34, true), (33, true), (35, false), (36, true), (37, true), (38, true)]) (e' := [(1, .slice (some ⟨b1025, o1026, none⟩) list.length n_list), (2, .pointer (some ⟨b1001, 0, none⟩)), (4, .pointer (some ⟨b1004, 0, none⟩)), (6, .pointer (some ⟨b1016, 0, none⟩)), (7, .int .i64 i), (8, .pointer (some ⟨b1036, 0, none⟩)), (79, .bool (decide ((x1023.Data.length : Int) > (128 : Int))))]) (by kernel_rfl) ?_
                    refine Op.ways (b := decide ((x1023.Data.length : Int) > (128 : Int))) ⟨fun hb => ?_, fun hb => ?_⟩
                    · refine Op.cast (e' := [(1, .slice (some ⟨b1025, o1026, none⟩) list.length n_list), (2, .pointer (some ⟨b1001, 0, none⟩)), (4, .pointer (some ⟨b1004, 0, none⟩)), (6, .pointer (some ⟨b1016, 0, none⟩)), (7, .int .i64 i), (8, .pointer (some ⟨b1036, 0, none⟩)), (79, .bool true)]) (by rw [hb]) ?_
                      have c1104 : (x1023.Data.length : Int) > (128 : Int) := of_decide_eq_true hb
                      clear hb
                      refine Op.pures 14 [1, 2, 4, 6, 7, 8, 93] (L' := []) (e' := [(1, .slice (some ⟨b1025, o1026, none⟩) list.length n_list), (2, .pointer (some ⟨b1001, 0, none⟩)), (4, .pointer (some ⟨b1004, 0, none⟩)), (6, .pointer (some ⟨b1016, 0, none⟩)), (7, .int .i64 i), (8, .pointer (some ⟨b1036, 0, none⟩)), (93, .bool true)]) (by kernel_rfl) ?_
                      refine Op.goto 11 (by kernel_rfl) ?_
                      refine At.condT (c := .tmp 93) (by kernel_rfl) (by kernel_rfl) (by kernel_rfl) 12 (by kernel_rfl) ?_
                      refine At.reg (L := [(0, false), (1, false), (2, false)]) (by kernel_rfl) ?_
                      refine Op.loadA (T := 75) (x := (.tmp 2)) (o := 0) (d := 94) (n := 1) (vs := [.slice a_t_0 t.All.length n_t_0]) (by kernel_rfl) (by kernel_rfl) (by kernel_rfl) (s1040.chunk 3 rfl) (by kernel_rfl) rfl ?_
                      refine Op.store (T := 75) (x := (.tmp 4)) (y := (.tmp 94)) (b := b1004) (o := 0) (vs := [.slice a_t_0 t.All.length n_t_0]) (a? := true) (n := 1) (by kernel_rfl) (by kernel_rfl) (by kernel_rfl) (by kernel_rfl) rfl (by simp [Value.oneCell']) s1040 2 rfl (Nat.le_of_ble_eq_true (by kernel_rfl)) (cs := #[.slice none 0 0]) (cs' := #[.slice a_t_0 t.All.length n_t_0]) (by kernel_rfl) (fun _ => trivial) ?_
                      intro h1105 s1106
                      refine Op.pures 1 [4, 5] (L' := []) (e' := [(4, .pointer (some ⟨b1004, 0, none⟩)), (5, .bool false)]) (by kernel_rfl) ?_
                      refine Op.goto 13 (by kernel_rfl) ?_
                      refine At.retM (f := Tryz.f53) (vs := [.agg #[.slice a_t_0 t.All.length n_t_0], .bool false]) (rl := [.cell 4 75, .tmp 5]) (v := .tuple #[.agg #[.slice a_t_0 t.All.length n_t_0], .bool false]) (by kernel_rfl) (by kernel_rfl) ⟨⟨_, _, rfl, resAgg (n := 1) (by kernel_rfl) (s1106.chunk 2 rfl) (by kernel_rfl) rfl⟩, rfl, trivial⟩ rfl ?_
                      have s1107 : St h g (ids []) g1014 [] h1105 := (s1106).drop.drop.drop.drop
                      refine hR _ _ _ _ s1107 ⟨(.slice a_t_0 t.All.length n_t_0), ?_, ?_, rfl⟩
                      · exact eqT2 rfl (eqB (by exact ld_field hx1024 (by first | exact .inl (by assumption) | exact .inr (.inl (by assumption)) | exact .inr (.inr (.inl (by assumption))) | exact .inr (.inr (.inr (.inl (by assumption)))) | exact .inr (.inr (.inr (.inr (by assumption)))))))
                      · exact slEq h_t_0 (by (rw [← ld_field hx1024 (by first | exact .inl (by assumption) | exact .inr (.inl (by assumption)) | exact .inr (.inr (.inl (by assumption))) | exact .inr (.inr (.inr (.inl (by assumption)))) | exact .inr (.inr (.inr (.inr (by assumption)))))]; rfl))
                    · refine Op.cast (e' := [(1, .slice (some ⟨b1025, o1026, none⟩) list.length n_list), (2, .pointer (some ⟨b1001, 0, none⟩)), (4, .pointer (some ⟨b1004, 0, none⟩)), (6, .pointer (some ⟨b1016, 0, none⟩)), (7, .int .i64 i), (8, .pointer (some ⟨b1036, 0, none⟩)), (79, .bool false)]) (by rw [hb]) ?_
                      have c1108 : ¬ ((x1023.Data.length : Int) > (128 : Int)) := of_decide_eq_false hb
                      clear hb
                      refine Op.pures 3 [1, 2, 4, 6, 7, 8, 79, 82] (L' := [(28, true), (29, true), (30, true), (31, true), (32, true), (34, true), (33, true), (35, false), (36, true), (37, true), (38, true)]) (e' := [(1, .slice (some ⟨b1025, o1026, none⟩) list.length n_list), (2, .pointer (some ⟨b1001, 0, none⟩)), (4, .pointer (some ⟨b1004, 0, none⟩)), (6, .pointer (some ⟨b1016, 0, none⟩)), (7, .int .i64 i), (8, .pointer (some ⟨b1036, 0, none⟩)), (79, .bool false), (82, .bool (decide (i > (0 : Int))))]) (by kernel_rfl) ?_
                      refine Op.ways (b := decide (i > (0 : Int))) ⟨fun hb => ?_, fun hb => ?_⟩
                      · refine Op.cast (e' := [(1, .slice (some ⟨b1025, o1026, none⟩) list.length n_list), (2, .pointer (some ⟨b1001, 0, none⟩)), (4, .pointer (some ⟨b1004, 0, none⟩)), (6, .pointer (some ⟨b1016, 0, none⟩)), (7, .int .i64 i), (8, .pointer (some ⟨b1036, 0, none⟩)), (79, .bool false), (82, .bool true)]) (by rw [hb]) ?_
                        have c1109 : i > (0 : Int) := of_decide_eq_true hb
                        clear hb
                        refine Op.pures 2 [1, 2, 4, 6, 7, 8, 79, 82, 83, 84] (L' := [(30, true), (31, true), (32, true), (34, true), (33, true), (35, false), (36, true), (37, true), (38, true)]) (e' := [(1, .slice (some ⟨b1025, o1026, none⟩) list.length n_list), (2, .pointer (some ⟨b1001, 0, none⟩)), (4, .pointer (some ⟨b1004, 0, none⟩)), (6, .pointer (some ⟨b1016, 0, none⟩)), (7, .int .i64 i), (8, .pointer (some ⟨b1036, 0, none⟩)), (79, .bool false), (82, .bool true), (83, .slice (some ⟨b1025, o1026, none⟩) list.length n_list), (84, .int .i64 i)]) (by kernel_rfl) ?_
                        refine Op.val (dst := some 85) (v := .int .i64 (IntKind.wrap .i64 (i - 1))) (v' := .int .i64 (i - 1)) (by kernel_rfl) (wrapEq_i64 (by omega) (by omega)) ?_
                        obtain ⟨x1110, hx1111⟩ : ∃ c, list[(i - 1 : Int).toNat]? = some c := ⟨_, List.getElem?_eq_getElem (by omega)⟩
                        obtain ⟨b1112, o1113, cu1114, fz1115, ha1116, hb1117, hk1118⟩ := SlR.at_ h_list _ hx1111
                        cases ha1116
                        refine Op.idx (T := 52) (E := 59) (sz := 6) (by_ := 72) (n := list.length) (c := n_list) (k := .i64) (x := (.tmp 83)) (ix := (.tmp 85)) (dst := 86) (bk := b1025) (o := o1026) (m := i - 1) (by kernel_rfl) (by kernel_rfl) (by kernel_rfl) (by kernel_rfl) (by omega) (by omega) ?_
                        obtain ⟨v1119, hv1120, hk1118⟩ := hk1118
                        obtain ⟨a1121, n1122, rfl⟩ := hv1120.form
                        refine Op.pures 2 [1, 2, 4, 6, 7, 8, 79, 82, 87, 89] (L' := [(33, true), (35, false), (36, true), (37, true), (38, true)]) (e' := [(1, .slice (some ⟨b1025, o1026, none⟩) list.length n_list), (2, .pointer (some ⟨b1001, 0, none⟩)), (4, .pointer (some ⟨b1004, 0, none⟩)), (6, .pointer (some ⟨b1016, 0, none⟩)), (7, .int .i64 i), (8, .pointer (some ⟨b1036, 0, none⟩)), (79, .bool false), (82, .bool true), (87, .pointer (some ⟨b1025, o1026 + (i - 1 : Int).toNat * 6, none⟩)), (89, .pointer (some ⟨b1036, 0, none⟩))]) (by kernel_rfl) ?_
                        refine Op.loadF (T := 9) (x := (.tmp 87)) (o := o1026 + (i - 1 : Int).toNat * 6) (d := 88) (n := 1) (v := .string (mkS x1110.Path)) (by kernel_rfl) (by kernel_rfl) (by kernel_rfl) (fun h => h) (s1040.sub _ _ hb1117) (cut_get hk1118 0 rfl) ?_
                        refine Op.load (T := 9) (x := (.tmp 89)) (o := 0) (d := 90) (n := 1) (v := .string (mkS x1023.Path)) (by kernel_rfl) (by kernel_rfl) (by kernel_rfl) (s1040.chunk 0 rfl) (by kernel_rfl) ?_
                        refine Op.val (dst := some 91) (v := .bool (!(Go.Op.bytesLess (mkS x1110.Path).toList (mkS x1023.Path).toList))) (v' := .bool (!(Go.Op.bytesLess x1110.Path x1023.Path))) (by kernel_rfl) (by rw [toList_mkS, toList_mkS]) ?_
                        refine Op.pures 2 [1, 2, 4, 6, 7, 8, 93] (L' := []) (e' := [(1, .slice (some ⟨b1025, o1026, none⟩) list.length n_list), (2, .pointer (some ⟨b1001, 0, none⟩)), (4, .pointer (some ⟨b1004, 0, none⟩)), (6, .pointer (some ⟨b1016, 0, none⟩)), (7, .int .i64 i), (8, .pointer (some ⟨b1036, 0, none⟩)), (93, .bool (!(Go.Op.bytesLess x1110.Path x1023.Path)))]) (by kernel_rfl) ?_
                        refine Op.goto 11 (by kernel_rfl) ?_
                        refine At.cond (b := !(Go.Op.bytesLess x1110.Path x1023.Path)) (c := .tmp 93) (by kernel_rfl) (by kernel_rfl) (by kernel_rfl) 12 14 (by kernel_rfl) (by kernel_rfl) (fun hb => ?_) (fun hb => ?_)
                        · have c1123 : (Go.Op.bytesLess x1110.Path x1023.Path) = false := (notT hb)
                          clear hb
                          refine At.keep [2, 4] ?_; show At _ _ _ [(2, .pointer (some ⟨b1001, 0, none⟩)), (4, .pointer (some ⟨b1004, 0, none⟩))] _
                          refine At.reg (L := [(0, false), (1, false), (2, false)]) (by kernel_rfl) ?_
                          refine Op.loadA (T := 75) (x := (.tmp 2)) (o := 0) (d := 94) (n := 1) (vs := [.slice a_t_0 t.All.length n_t_0]) (by kernel_rfl) (by kernel_rfl) (by kernel_rfl) (s1040.chunk 3 rfl) (by kernel_rfl) rfl ?_
                          refine Op.store (T := 75) (x := (.tmp 4)) (y := (.tmp 94)) (b := b1004) (o := 0) (vs := [.slice a_t_0 t.All.length n_t_0]) (a? := true) (n := 1) (by kernel_rfl) (by kernel_rfl) (by kernel_rfl) (by kernel_rfl) rfl (by simp [Value.oneCell']) s1040 2 rfl (Nat.le_of_ble_eq_true (by kernel_rfl)) (cs := #[.slice none 0 0]) (cs' := #[.slice a_t_0 t.All.length n_t_0]) (by kernel_rfl) (fun _ => trivial) ?_
                          intro h1124 s1125
                          refine Op.pures 1 [4, 5] (L' := []) (e' := [(4, .pointer (some ⟨b1004, 0, none⟩)), (5, .bool false)]) (by kernel_rfl) ?_
                          refine Op.goto 13 (by kernel_rfl) ?_
                          refine At.retM (f := Tryz.f53) (vs := [.agg #[.slice a_t_0 t.All.length n_t_0], .bool false]) (rl := [.cell 4 75, .tmp 5]) (v := .tuple #[.agg #[.slice a_t_0 t.All.length n_t_0], .bool false]) (by kernel_rfl) (by kernel_rfl) ⟨⟨_, _, rfl, resAgg (n := 1) (by kernel_rfl) (s1125.chunk 2 rfl) (by kernel_rfl) rfl⟩, rfl, trivial⟩ rfl ?_
                          have s1126 : St h g (ids []) g1014 [] h1124 := (s1125).drop.drop.drop.drop
                          refine hR _ _ _ _ s1126 ⟨(.slice a_t_0 t.All.length n_t_0), ?_, ?_, rfl⟩
                          · exact eqT2 rfl (eqB (by exact ld_rise (by omega) hx1024 hx1111 (by assumption)))
                          · exact slEq h_t_0 (by (rw [← ld_rise (by omega) hx1024 hx1111 (by assumption)]; rfl))
                        · have c1127 : (Go.Op.bytesLess x1110.Path x1023.Path) = true := (notF hb)
                          clear hb
                          refine At.keep [1, 2, 4, 6, 7, 8] ?_; show At _ _ _ [(1, .slice (some ⟨b1025, o1026, none⟩) list.length n_list), (2, .pointer (some ⟨b1001, 0, none⟩)), (4, .pointer (some ⟨b1004, 0, none⟩)), (6, .pointer (some ⟨b1016, 0, none⟩)), (7, .int .i64 i), (8, .pointer (some ⟨b1036, 0, none⟩))] _
                          exact join14 _   _ (Nat.lt_succ_self _) (by exact ⟨by omega, by omega, by omega, by omega, by omega⟩) (by (intro y _ hy; rw [hx1111] at hy; cases hy; exact c1127))  s1040
                      · refine Op.cast (e' := [(1, .slice (some ⟨b1025, o1026, none⟩) list.length n_list), (2, .pointer (some ⟨b1001, 0, none⟩)), (4, .pointer (some ⟨b1004, 0, none⟩)), (6, .pointer (some ⟨b1016, 0, none⟩)), (7, .int .i64 i), (8, .pointer (some ⟨b1036, 0, none⟩)), (79, .bool false), (82, .bool false)]) (by rw [hb]) ?_
                        have c1128 : ¬ (i > (0 : Int)) := of_decide_eq_false hb
                        clear hb
                        refine Op.pures 11 [1, 2, 4, 6, 7, 8, 93] (L' := []) (e' := [(1, .slice (some ⟨b1025, o1026, none⟩) list.length n_list), (2, .pointer (some ⟨b1001, 0, none⟩)), (4, .pointer (some ⟨b1004, 0, none⟩)), (6, .pointer (some ⟨b1016, 0, none⟩)), (7, .int .i64 i), (8, .pointer (some ⟨b1036, 0, none⟩)), (93, .bool false)]) (by kernel_rfl) ?_
                        refine Op.goto 11 (by kernel_rfl) ?_
                        refine At.condF (c := .tmp 93) (by kernel_rfl) (by kernel_rfl) (by kernel_rfl) 14 (by kernel_rfl) ?_
                        refine At.keep [1, 2, 4, 6, 7, 8] ?_; show At _ _ _ [(1, .slice (some ⟨b1025, o1026, none⟩) list.length n_list), (2, .pointer (some ⟨b1001, 0, none⟩)), (4, .pointer (some ⟨b1004, 0, none⟩)), (6, .pointer (some ⟨b1016, 0, none⟩)), (7, .int .i64 i), (8, .pointer (some ⟨b1036, 0, none⟩))] _
                        exact join14 _   _ (Nat.lt_succ_self _) (by exact ⟨by omega, by omega, by omega, by omega, by omega⟩) (by exact fun y hi => absurd hi (by omega))  s1040
          · have c1129 : ¬ (i < (list.length : Int)) := of_decide_eq_false hb
            clear hb
            refine At.keep [4, 6] ?_; show At _ _ _ [(4, .pointer (some ⟨b1004, 0, none⟩)), (6, .pointer (some ⟨b1016, 0, none⟩))] _
            refine At.reg (L := [(0, false), (1, false), (2, false)]) (by kernel_rfl) ?_
            refine Op.loadA (T := 75) (x := (.tmp 6)) (o := 0) (d := 122) (n := 1) (vs := [.slice a1012 ((list).length) n1013]) (by kernel_rfl) (by kernel_rfl) (by kernel_rfl) (s_loop71020.chunk 0 rfl) (by kernel_rfl) rfl ?_
            refine Op.store (T := 75) (x := (.tmp 4)) (y := (.tmp 122)) (b := b1004) (o := 0) (vs := [.slice a1012 ((list).length) n1013]) (a? := true) (n := 1) (by kernel_rfl) (by kernel_rfl) (by kernel_rfl) (by kernel_rfl) rfl (by simp [Value.oneCell']) s_loop71020 1 rfl (Nat.le_of_ble_eq_true (by kernel_rfl)) (cs := #[.slice none 0 0]) (cs' := #[.slice a1012 ((list).length) n1013]) (by kernel_rfl) (fun _ => trivial) ?_
            intro h1130 s1131
            refine Op.pures 1 [4, 5] (L' := []) (e' := [(4, .pointer (some ⟨b1004, 0, none⟩)), (5, .bool true)]) (by kernel_rfl) ?_
            refine Op.goto 24 (by kernel_rfl) ?_
            refine At.retM (f := Tryz.f53) (vs := [.agg #[.slice a1012 ((list).length) n1013], .bool true]) (rl := [.cell 4 75, .tmp 5]) (v := .tuple #[.agg #[.slice a1012 ((list).length) n1013], .bool true]) (by kernel_rfl) (by kernel_rfl) ⟨⟨_, _, rfl, resAgg (n := 1) (by kernel_rfl) (s1131.chunk 1 rfl) (by kernel_rfl) rfl⟩, rfl, trivial⟩ rfl ?_
            have s1132 : St h g (ids []) g1014 [] h1130 := (s1131).drop.drop.drop
            refine hR _ _ _ _ s1132 ⟨(.slice a1012 ((list).length) n1013), ?_, ?_, rfl⟩
            · exact eqT2 rfl (eqB (by exact ld_all2 hsn (by assumption) hn1 hn2 hd0))
            · exact slEq hr1011 (by (rw [← ld_all2 hsn (by assumption) hn1 hn2 hd0]; rfl))
      exact loop7 _  0 _ (Nat.lt_succ_self _) (by omega) (by omega) (by exact SeenR_0 _)  s1020
  refine At.reg (L := [(0, false), (1, false), (2, false), (3, false), (4, false), (5, false), (6, false), (7, false), (8, false), (9, false), (10, false), (11, false), (12, false), (13, false), (14, false), (15, false), (16, false), (17, false), (18, false), (19, false), (20, false), (21, false), (22, false), (23, false), (24, false), (25, false), (26, false), (27, false), (28, false)]) (by kernel_rfl) ?_
  refine Op.pures 4 [1, 2, 4, 15] (L' := [(4, false), (5, false), (6, false), (7, false), (8, false), (9, false), (10, false), (11, false), (12, false), (13, false), (14, false), (15, false), (16, false), (17, false), (18, false), (19, false), (20, false), (21, false), (22, false), (23, false), (24, false), (25, false), (26, false), (27, false), (28, false)]) (e' := [(1, .slice a_list list.length n_list), (2, .pointer (some ⟨b1001, 0, none⟩)), (4, .pointer (some ⟨b1004, 0, none⟩)), (15, .bool (decide ((list.length : Int) < (1 : Int))))]) (by kernel_rfl) ?_
  refine Op.ways (b := decide ((list.length : Int) < (1 : Int))) ⟨fun hb => ?_, fun hb => ?_⟩
  · refine Op.cast (e' := [(1, .slice a_list list.length n_list), (2, .pointer (some ⟨b1001, 0, none⟩)), (4, .pointer (some ⟨b1004, 0, none⟩)), (15, .bool true)]) (by rw [hb]) ?_
    have c1133 : (list.length : Int) < (1 : Int) := of_decide_eq_true hb
    clear hb
    refine Op.pures 25 [1, 2, 4, 40] (L' := []) (e' := [(1, .slice a_list list.length n_list), (2, .pointer (some ⟨b1001, 0, none⟩)), (4, .pointer (some ⟨b1004, 0, none⟩)), (40, .bool true)]) (by kernel_rfl) ?_
    refine Op.goto 2 (by kernel_rfl) ?_
    refine At.condT (c := .tmp 40) (by kernel_rfl) (by kernel_rfl) (by kernel_rfl) 3 (by kernel_rfl) ?_
    refine At.reg (L := [(0, false), (1, false), (2, false)]) (by kernel_rfl) ?_
    refine Op.loadA (T := 75) (x := (.tmp 2)) (o := 0) (d := 41) (n := 1) (vs := [.slice a_t_0 t.All.length n_t_0]) (by kernel_rfl) (by kernel_rfl) (by kernel_rfl) (s1006.chunk 1 rfl) (by kernel_rfl) rfl ?_
    refine Op.store (T := 75) (x := (.tmp 4)) (y := (.tmp 41)) (b := b1004) (o := 0) (vs := [.slice a_t_0 t.All.length n_t_0]) (a? := true) (n := 1) (by kernel_rfl) (by kernel_rfl) (by kernel_rfl) (by kernel_rfl) rfl (by simp [Value.oneCell']) s1006 0 rfl (Nat.le_of_ble_eq_true (by kernel_rfl)) (cs := #[.slice none 0 0]) (cs' := #[.slice a_t_0 t.All.length n_t_0]) (by kernel_rfl) (fun _ => trivial) ?_
    intro h1134 s1135
    refine Op.pures 1 [4, 5] (L' := []) (e' := [(4, .pointer (some ⟨b1004, 0, none⟩)), (5, .bool false)]) (by kernel_rfl) ?_
    refine Op.goto 4 (by kernel_rfl) ?_
    refine At.retM (f := Tryz.f53) (vs := [.agg #[.slice a_t_0 t.All.length n_t_0], .bool false]) (rl := [.cell 4 75, .tmp 5]) (v := .tuple #[.agg #[.slice a_t_0 t.All.length n_t_0], .bool false]) (by kernel_rfl) (by kernel_rfl) ⟨⟨_, _, rfl, resAgg (n := 1) (by kernel_rfl) (s1135.chunk 0 rfl) (by kernel_rfl) rfl⟩, rfl, trivial⟩ rfl ?_
    have s1136 : St h g (ids []) g [] h1134 := (s1135).drop.drop
    refine hR _ _ _ _ s1136 ⟨(.slice a_t_0 t.All.length n_t_0), ?_, ?_, rfl⟩
    · exact eqT2 rfl (eqB (by exact load_len (by omega)))
    · exact slEq h_t_0 (by (rw [← load_len (by omega)]; rfl))
  · refine Op.cast (e' := [(1, .slice a_list list.length n_list), (2, .pointer (some ⟨b1001, 0, none⟩)), (4, .pointer (some ⟨b1004, 0, none⟩)), (15, .bool false)]) (by rw [hb]) ?_
    have c1137 : ¬ ((list.length : Int) < (1 : Int)) := of_decide_eq_false hb
    clear hb
    refine Op.pures 5 [1, 2, 4, 20] (L' := [(9, false), (10, false), (11, false), (12, false), (13, false), (14, false), (15, false), (16, false), (17, false), (18, false), (19, false), (20, false), (21, false), (22, false), (23, false), (24, false), (25, false), (26, false), (27, false), (28, false)]) (e' := [(1, .slice a_list list.length n_list), (2, .pointer (some ⟨b1001, 0, none⟩)), (4, .pointer (some ⟨b1004, 0, none⟩)), (20, .bool (decide ((list.length : Int) > (32 : Int))))]) (by kernel_rfl) ?_
    refine Op.ways (b := decide ((list.length : Int) > (32 : Int))) ⟨fun hb => ?_, fun hb => ?_⟩
    · refine Op.cast (e' := [(1, .slice a_list list.length n_list), (2, .pointer (some ⟨b1001, 0, none⟩)), (4, .pointer (some ⟨b1004, 0, none⟩)), (20, .bool true)]) (by rw [hb]) ?_
      have c1138 : (list.length : Int) > (32 : Int) := of_decide_eq_true hb
      clear hb
      refine Op.pures 20 [1, 2, 4, 40] (L' := []) (e' := [(1, .slice a_list list.length n_list), (2, .pointer (some ⟨b1001, 0, none⟩)), (4, .pointer (some ⟨b1004, 0, none⟩)), (40, .bool true)]) (by kernel_rfl) ?_
      refine Op.goto 2 (by kernel_rfl) ?_
      refine At.condT (c := .tmp 40) (by kernel_rfl) (by kernel_rfl) (by kernel_rfl) 3 (by kernel_rfl) ?_
      refine At.reg (L := [(0, false), (1, false), (2, false)]) (by kernel_rfl) ?_
      refine Op.loadA (T := 75) (x := (.tmp 2)) (o := 0) (d := 41) (n := 1) (vs := [.slice a_t_0 t.All.length n_t_0]) (by kernel_rfl) (by kernel_rfl) (by kernel_rfl) (s1006.chunk 1 rfl) (by kernel_rfl) rfl ?_
      refine Op.store (T := 75) (x := (.tmp 4)) (y := (.tmp 41)) (b := b1004) (o := 0) (vs := [.slice a_t_0 t.All.length n_t_0]) (a? := true) (n := 1) (by kernel_rfl) (by kernel_rfl) (by kernel_rfl) (by kernel_rfl) rfl (by simp [Value.oneCell']) s1006 0 rfl (Nat.le_of_ble_eq_true (by kernel_rfl)) (cs := #[.slice none 0 0]) (cs' := #[.slice a_t_0 t.All.length n_t_0]) (by kernel_rfl) (fun _ => trivial) ?_
      intro h1139 s1140
      refine Op.pures 1 [4, 5] (L' := []) (e' := [(4, .pointer (some ⟨b1004, 0, none⟩)), (5, .bool false)]) (by kernel_rfl) ?_
      refine Op.goto 4 (by kernel_rfl) ?_
      refine At.retM (f := Tryz.f53) (vs := [.agg #[.slice a_t_0 t.All.length n_t_0], .bool false]) (rl := [.cell 4 75, .tmp 5]) (v := .tuple #[.agg #[.slice a_t_0 t.All.length n_t_0], .bool false]) (by kernel_rfl) (by kernel_rfl) ⟨⟨_, _, rfl, resAgg (n := 1) (by kernel_rfl) (s1140.chunk 0 rfl) (by kernel_rfl) rfl⟩, rfl, trivial⟩ rfl ?_
      have s1141 : St h g (ids []) g [] h1139 := (s1140).drop.drop
      refine hR _ _ _ _ s1141 ⟨(.slice a_t_0 t.All.length n_t_0), ?_, ?_, rfl⟩
      · exact eqT2 rfl (eqB (by exact load_len (by omega)))
      · exact slEq h_t_0 (by (rw [← load_len (by omega)]; rfl))
    · refine Op.cast (e' := [(1, .slice a_list list.length n_list), (2, .pointer (some ⟨b1001, 0, none⟩)), (4, .pointer (some ⟨b1004, 0, none⟩)), (20, .bool false)]) (by rw [hb]) ?_
      have c1142 : ¬ ((list.length : Int) > (32 : Int)) := of_decide_eq_false hb
      clear hb
      refine Op.pures 1 [1, 2, 4, 20, 21] (L' := [(10, false), (11, false), (12, false), (13, false), (14, false), (15, false), (16, false), (17, false), (18, false), (19, false), (20, false), (21, false), (22, false), (23, false), (24, false), (25, false), (26, false), (27, false), (28, false)]) (e' := [(1, .slice a_list list.length n_list), (2, .pointer (some ⟨b1001, 0, none⟩)), (4, .pointer (some ⟨b1004, 0, none⟩)), (20, .bool false), (21, .slice a_list list.length n_list)]) (by kernel_rfl) ?_
      obtain ⟨x1143, hx1144⟩ : ∃ c, list[(0 : Int).toNat]? = some c := ⟨_, List.getElem?_eq_getElem (by omega)⟩
      obtain ⟨b1145, o1146, cu1147, fz1148, ha1149, hb1150, hk1151⟩ := SlR.at_ h_list _ hx1144
      cases ha1149
      refine Op.idx (T := 52) (E := 59) (sz := 6) (by_ := 72) (n := list.length) (c := n_list) (k := .i64) (x := (.tmp 21)) (ix := (.const (.int .i64 0))) (dst := 22) (bk := b1145) (o := o1146) (m := 0) (by kernel_rfl) (by kernel_rfl) (by kernel_rfl) (by kernel_rfl) (by omega) (by omega) ?_
      obtain ⟨v1152, hv1153, hk1151⟩ := hk1151
      obtain ⟨a1154, n1155, rfl⟩ := hv1153.form
      refine Op.pures 1 [1, 2, 4, 20, 23] (L' := [(12, false), (13, false), (14, false), (15, false), (16, false), (17, false), (18, false), (19, false), (20, false), (21, false), (22, false), (23, false), (24, false), (25, false), (26, false), (27, false), (28, false)]) (e' := [(1, .slice (some ⟨b1145, o1146, none⟩) list.length n_list), (2, .pointer (some ⟨b1001, 0, none⟩)), (4, .pointer (some ⟨b1004, 0, none⟩)), (20, .bool false), (23, .pointer (some ⟨b1145, o1146 + (0 : Int).toNat * 6, none⟩))]) (by kernel_rfl) ?_
      refine Op.load (T := 9) (x := (.tmp 23)) (o := o1146 + (0 : Int).toNat * 6) (d := 24) (n := 1) (v := .string (mkS x1143.Path)) (by kernel_rfl) (by kernel_rfl) (by kernel_rfl) (s1006.sub _ _ hb1150) (cut_get hk1151 0 rfl) ?_
      refine Op.val (dst := some 25) (v := .bool (!((mkS x1143.Path).toList == (mkS ([47])).toList))) (v' := .bool (!(x1143.Path == ([47])))) (by kernel_rfl) (by rw [toList_mkS, toList_mkS]) ?_
      refine Op.pures 2 [1, 2, 4, 27] (L' := [(16, false), (17, false), (18, false), (19, false), (20, false), (21, false), (22, false), (23, false), (24, false), (25, false), (26, false), (27, false), (28, false)]) (e' := [(1, .slice (some ⟨b1145, o1146, none⟩) list.length n_list), (2, .pointer (some ⟨b1001, 0, none⟩)), (4, .pointer (some ⟨b1004, 0, none⟩)), (27, .bool (!(x1143.Path == ([47]))))]) (by kernel_rfl) ?_
      refine Op.ways (b := !(x1143.Path == ([47]))) ⟨fun hb => ?_, fun hb => ?_⟩
      · refine Op.cast (e' := [(1, .slice (some ⟨b1145, o1146, none⟩) list.length n_list), (2, .pointer (some ⟨b1001, 0, none⟩)), (4, .pointer (some ⟨b1004, 0, none⟩)), (27, .bool true)]) (by rw [hb]) ?_
        have c1156 : ¬ (x1143.Path = ([47])) := neF (notT hb)
        clear hb
        refine Op.pures 13 [1, 2, 4, 40] (L' := []) (e' := [(1, .slice (some ⟨b1145, o1146, none⟩) list.length n_list), (2, .pointer (some ⟨b1001, 0, none⟩)), (4, .pointer (some ⟨b1004, 0, none⟩)), (40, .bool true)]) (by kernel_rfl) ?_
        refine Op.goto 2 (by kernel_rfl) ?_
        refine At.condT (c := .tmp 40) (by kernel_rfl) (by kernel_rfl) (by kernel_rfl) 3 (by kernel_rfl) ?_
        refine At.reg (L := [(0, false), (1, false), (2, false)]) (by kernel_rfl) ?_
        refine Op.loadA (T := 75) (x := (.tmp 2)) (o := 0) (d := 41) (n := 1) (vs := [.slice a_t_0 t.All.length n_t_0]) (by kernel_rfl) (by kernel_rfl) (by kernel_rfl) (s1006.chunk 1 rfl) (by kernel_rfl) rfl ?_
        refine Op.store (T := 75) (x := (.tmp 4)) (y := (.tmp 41)) (b := b1004) (o := 0) (vs := [.slice a_t_0 t.All.length n_t_0]) (a? := true) (n := 1) (by kernel_rfl) (by kernel_rfl) (by kernel_rfl) (by kernel_rfl) rfl (by simp [Value.oneCell']) s1006 0 rfl (Nat.le_of_ble_eq_true (by kernel_rfl)) (cs := #[.slice none 0 0]) (cs' := #[.slice a_t_0 t.All.length n_t_0]) (by kernel_rfl) (fun _ => trivial) ?_
        intro h1157 s1158
        refine Op.pures 1 [4, 5] (L' := []) (e' := [(4, .pointer (some ⟨b1004, 0, none⟩)), (5, .bool false)]) (by kernel_rfl) ?_
        refine Op.goto 4 (by kernel_rfl) ?_
        refine At.retM (f := Tryz.f53) (vs := [.agg #[.slice a_t_0 t.All.length n_t_0], .bool false]) (rl := [.cell 4 75, .tmp 5]) (v := .tuple #[.agg #[.slice a_t_0 t.All.length n_t_0], .bool false]) (by kernel_rfl) (by kernel_rfl) ⟨⟨_, _, rfl, resAgg (n := 1) (by kernel_rfl) (s1158.chunk 0 rfl) (by kernel_rfl) rfl⟩, rfl, trivial⟩ rfl ?_
        have s1159 : St h g (ids []) g [] h1157 := (s1158).drop.drop
        refine hR _ _ _ _ s1159 ⟨(.slice a_t_0 t.All.length n_t_0), ?_, ?_, rfl⟩
        · exact eqT2 rfl (eqB (by exact ld_head hx1144 (by first | exact .inl (by assumption) | exact .inr (.inl (by assumption)) | exact .inr (.inr (by assumption)))))
        · exact slEq h_t_0 (by (rw [← ld_head hx1144 (by first | exact .inl (by assumption) | exact .inr (.inl (by assumption)) | exact .inr (.inr (by assumption)))]; rfl))
      · refine Op.cast (e' := [(1, .slice (some ⟨b1145, o1146, none⟩) list.length n_list), (2, .pointer (some ⟨b1001, 0, none⟩)), (4, .pointer (some ⟨b1004, 0, none⟩)), (27, .bool false)]) (by rw [hb]) ?_
        have c1160 : x1143.Path = ([47]) := eq_of_beq (notF hb)
        clear hb
        refine Op.pures 1 [1, 2, 4, 27, 28] (L' := [(17, false), (18, false), (19, false), (20, false), (21, false), (22, false), (23, false), (24, false), (25, false), (26, false), (27, false), (28, false)]) (e' := [(1, .slice (some ⟨b1145, o1146, none⟩) list.length n_list), (2, .pointer (some ⟨b1001, 0, none⟩)), (4, .pointer (some ⟨b1004, 0, none⟩)), (27, .bool false), (28, .slice (some ⟨b1145, o1146, none⟩) list.length n_list)]) (by kernel_rfl) ?_
        obtain ⟨b1163, o1164, cu1165, fz1166, ha1167, hb1168, hk1169⟩ := SlR.at_ h_list _ hx1144
        cases ha1167
        refine Op.idx (T := 52) (E := 59) (sz := 6) (by_ := 72) (n := list.length) (c := n_list) (k := .i64) (x := (.tmp 28)) (ix := (.const (.int .i64 0))) (dst := 29) (bk := b1145) (o := o1146) (m := 0) (by kernel_rfl) (by kernel_rfl) (by kernel_rfl) (by kernel_rfl) (by omega) (by omega) ?_
        obtain ⟨v1170, hv1171, hk1169⟩ := hk1169
        obtain ⟨a1172, n1173, rfl⟩ := hv1171.form
        refine Op.pures 1 [1, 2, 4, 27, 30] (L' := [(19, false), (20, false), (21, false), (22, false), (23, false), (24, false), (25, false), (26, false), (27, false), (28, false)]) (e' := [(1, .slice (some ⟨b1145, o1146, none⟩) list.length n_list), (2, .pointer (some ⟨b1001, 0, none⟩)), (4, .pointer (some ⟨b1004, 0, none⟩)), (27, .bool false), (30, .pointer (some ⟨b1145, o1146 + (0 : Int).toNat * 6 + 3, none⟩))]) (by kernel_rfl) ?_
        refine Op.load (T := 3) (x := (.tmp 30)) (o := o1146 + (0 : Int).toNat * 6 + 3) (d := 31) (n := 1) (v := .int .i64 x1143.Owner) (by kernel_rfl) (by kernel_rfl) (by kernel_rfl) (s1006.sub _ _ hb1168) (cut_get hk1169 3 rfl) ?_
        refine Op.pures 3 [1, 2, 4, 34] (L' := [(23, false), (24, false), (25, false), (26, false), (27, false), (28, false)]) (e' := [(1, .slice (some ⟨b1145, o1146, none⟩) list.length n_list), (2, .pointer (some ⟨b1001, 0, none⟩)), (4, .pointer (some ⟨b1004, 0, none⟩)), (34, .bool (x1143.Owner != ((-1) : Int)))]) (by kernel_rfl) ?_
        refine Op.ways (b := x1143.Owner != ((-1) : Int)) ⟨fun hb => ?_, fun hb => ?_⟩
        · refine Op.cast (e' := [(1, .slice (some ⟨b1145, o1146, none⟩) list.length n_list), (2, .pointer (some ⟨b1001, 0, none⟩)), (4, .pointer (some ⟨b1004, 0, none⟩)), (34, .bool true)]) (by rw [hb]) ?_
          have c1174 : ¬ (x1143.Owner = ((-1) : Int)) := bneT hb
          clear hb
          refine Op.pures 6 [1, 2, 4, 40] (L' := []) (e' := [(1, .slice (some ⟨b1145, o1146, none⟩) list.length n_list), (2, .pointer (some ⟨b1001, 0, none⟩)), (4, .pointer (some ⟨b1004, 0, none⟩)), (40, .bool true)]) (by kernel_rfl) ?_
          refine Op.goto 2 (by kernel_rfl) ?_
          refine At.condT (c := .tmp 40) (by kernel_rfl) (by kernel_rfl) (by kernel_rfl) 3 (by kernel_rfl) ?_
          refine At.reg (L := [(0, false), (1, false), (2, false)]) (by kernel_rfl) ?_
          refine Op.loadA (T := 75) (x := (.tmp 2)) (o := 0) (d := 41) (n := 1) (vs := [.slice a_t_0 t.All.length n_t_0]) (by kernel_rfl) (by kernel_rfl) (by kernel_rfl) (s1006.chunk 1 rfl) (by kernel_rfl) rfl ?_
          refine Op.store (T := 75) (x := (.tmp 4)) (y := (.tmp 41)) (b := b1004) (o := 0) (vs := [.slice a_t_0 t.All.length n_t_0]) (a? := true) (n := 1) (by kernel_rfl) (by kernel_rfl) (by kernel_rfl) (by kernel_rfl) rfl (by simp [Value.oneCell']) s1006 0 rfl (Nat.le_of_ble_eq_true (by kernel_rfl)) (cs := #[.slice none 0 0]) (cs' := #[.slice a_t_0 t.All.length n_t_0]) (by kernel_rfl) (fun _ => trivial) ?_
          intro h1175 s1176
          refine Op.pures 1 [4, 5] (L' := []) (e' := [(4, .pointer (some ⟨b1004, 0, none⟩)), (5, .bool false)]) (by kernel_rfl) ?_
          refine Op.goto 4 (by kernel_rfl) ?_
          refine At.retM (f := Tryz.f53) (vs := [.agg #[.slice a_t_0 t.All.length n_t_0], .bool false]) (rl := [.cell 4 75, .tmp 5]) (v := .tuple #[.agg #[.slice a_t_0 t.All.length n_t_0], .bool false]) (by kernel_rfl) (by kernel_rfl) ⟨⟨_, _, rfl, resAgg (n := 1) (by kernel_rfl) (s1176.chunk 0 rfl) (by kernel_rfl) rfl⟩, rfl, trivial⟩ rfl ?_
          have s1177 : St h g (ids []) g [] h1175 := (s1176).drop.drop
          refine hR _ _ _ _ s1177 ⟨(.slice a_t_0 t.All.length n_t_0), ?_, ?_, rfl⟩
          · exact eqT2 rfl (eqB (by exact ld_head hx1144 (by first | exact .inl (by assumption) | exact .inr (.inl (by assumption)) | exact .inr (.inr (by assumption)))))
          · exact slEq h_t_0 (by (rw [← ld_head hx1144 (by first | exact .inl (by assumption) | exact .inr (.inl (by assumption)) | exact .inr (.inr (by assumption)))]; rfl))
        · refine Op.cast (e' := [(1, .slice (some ⟨b1145, o1146, none⟩) list.length n_list), (2, .pointer (some ⟨b1001, 0, none⟩)), (4, .pointer (some ⟨b1004, 0, none⟩)), (34, .bool false)]) (by rw [hb]) ?_
          have c1178 : x1143.Owner = ((-1) : Int) := bneF hb
          clear hb
          refine Op.pures 1 [1, 2, 4, 34, 35] (L' := [(24, false), (25, false), (26, false), (27, false), (28, false)]) (e' := [(1, .slice (some ⟨b1145, o1146, none⟩) list.length n_list), (2, .pointer (some ⟨b1001, 0, none⟩)), (4, .pointer (some ⟨b1004, 0, none⟩)), (34, .bool false), (35, .slice (some ⟨b1145, o1146, none⟩) list.length n_list)]) (by kernel_rfl) ?_
          obtain ⟨b1181, o1182, cu1183, fz1184, ha1185, hb1186, hk1187⟩ := SlR.at_ h_list _ hx1144
          cases ha1185
          refine Op.idx (T := 52) (E := 59) (sz := 6) (by_ := 72) (n := list.length) (c := n_list) (k := .i64) (x := (.tmp 35)) (ix := (.const (.int .i64 0))) (dst := 36) (bk := b1145) (o := o1146) (m := 0) (by kernel_rfl) (by kernel_rfl) (by kernel_rfl) (by kernel_rfl) (by omega) (by omega) ?_
          obtain ⟨v1188, hv1189, hk1187⟩ := hk1187
          obtain ⟨a1190, n1191, rfl⟩ := hv1189.form
          refine Op.pures 1 [1, 2, 4, 34, 37] (L' := [(26, false), (27, false), (28, false)]) (e' := [(1, .slice (some ⟨b1145, o1146, none⟩) list.length n_list), (2, .pointer (some ⟨b1001, 0, none⟩)), (4, .pointer (some ⟨b1004, 0, none⟩)), (34, .bool false), (37, .pointer (some ⟨b1145, o1146 + (0 : Int).toNat * 6 + 5, none⟩))]) (by kernel_rfl) ?_
          refine Op.load (T := 3) (x := (.tmp 37)) (o := o1146 + (0 : Int).toNat * 6 + 5) (d := 38) (n := 1) (v := .int .i64 x1143.Born) (by kernel_rfl) (by kernel_rfl) (by kernel_rfl) (s1006.sub _ _ hb1186) (cut_get hk1187 5 rfl) ?_
          refine Op.pures 2 [1, 2, 4, 40] (L' := []) (e' := [(1, .slice (some ⟨b1145, o1146, none⟩) list.length n_list), (2, .pointer (some ⟨b1001, 0, none⟩)), (4, .pointer (some ⟨b1004, 0, none⟩)), (40, .bool (x1143.Born != (0 : Int)))]) (by kernel_rfl) ?_
          refine Op.goto 2 (by kernel_rfl) ?_
          refine At.cond (b := x1143.Born != (0 : Int)) (c := .tmp 40) (by kernel_rfl) (by kernel_rfl) (by kernel_rfl) 3 5 (by kernel_rfl) (by kernel_rfl) (fun hb => ?_) (fun hb => ?_)
          · have c1192 : ¬ (x1143.Born = (0 : Int)) := bneT hb
            clear hb
            refine At.keep [2, 4] ?_; show At _ _ _ [(2, .pointer (some ⟨b1001, 0, none⟩)), (4, .pointer (some ⟨b1004, 0, none⟩))] _
            refine At.reg (L := [(0, false), (1, false), (2, false)]) (by kernel_rfl) ?_
            refine Op.loadA (T := 75) (x := (.tmp 2)) (o := 0) (d := 41) (n := 1) (vs := [.slice a_t_0 t.All.length n_t_0]) (by kernel_rfl) (by kernel_rfl) (by kernel_rfl) (s1006.chunk 1 rfl) (by kernel_rfl) rfl ?_
            refine Op.store (T := 75) (x := (.tmp 4)) (y := (.tmp 41)) (b := b1004) (o := 0) (vs := [.slice a_t_0 t.All.length n_t_0]) (a? := true) (n := 1) (by kernel_rfl) (by kernel_rfl) (by kernel_rfl) (by kernel_rfl) rfl (by simp [Value.oneCell']) s1006 0 rfl (Nat.le_of_ble_eq_true (by kernel_rfl)) (cs := #[.slice none 0 0]) (cs' := #[.slice a_t_0 t.All.length n_t_0]) (by kernel_rfl) (fun _ => trivial) ?_
            intro h1193 s1194
            refine Op.pures 1 [4, 5] (L' := []) (e' := [(4, .pointer (some ⟨b1004, 0, none⟩)), (5, .bool false)]) (by kernel_rfl) ?_
            refine Op.goto 4 (by kernel_rfl) ?_
            refine At.retM (f := Tryz.f53) (vs := [.agg #[.slice a_t_0 t.All.length n_t_0], .bool false]) (rl := [.cell 4 75, .tmp 5]) (v := .tuple #[.agg #[.slice a_t_0 t.All.length n_t_0], .bool false]) (by kernel_rfl) (by kernel_rfl) ⟨⟨_, _, rfl, resAgg (n := 1) (by kernel_rfl) (s1194.chunk 0 rfl) (by kernel_rfl) rfl⟩, rfl, trivial⟩ rfl ?_
            have s1195 : St h g (ids []) g [] h1193 := (s1194).drop.drop
            refine hR _ _ _ _ s1195 ⟨(.slice a_t_0 t.All.length n_t_0), ?_, ?_, rfl⟩
            · exact eqT2 rfl (eqB (by exact ld_head hx1144 (by first | exact .inl (by assumption) | exact .inr (.inl (by assumption)) | exact .inr (.inr (by assumption)))))
            · exact slEq h_t_0 (by (rw [← ld_head hx1144 (by first | exact .inl (by assumption) | exact .inr (.inl (by assumption)) | exact .inr (.inr (by assumption)))]; rfl))
          · have c1196 : x1143.Born = (0 : Int) := bneF hb
            clear hb
            refine At.keep [1, 2, 4] ?_; show At _ _ _ [(1, .slice (some ⟨b1145, o1146, none⟩) list.length n_list), (2, .pointer (some ⟨b1001, 0, none⟩)), (4, .pointer (some ⟨b1004, 0, none⟩))] _
            exact join5 _   _ (Nat.lt_succ_self _) (by omega) (by omega) (by rw [atL_eq (i := 0) hx1144]; exact ⟨by assumption, by assumption, by assumption⟩)  s1006
end Go.Proofs.YtmjebehhpojihaaGreatDoor.Sw
namespace Go.Proofs.YtmjebehhpojihaaGreatDoor.Sw
set_option linter.unusedVariables false
set_option linter.unusedSimpArgs false
set_option linter.deprecated false
open Go
def al1 : List Leaf := [⟨[47], [], 0, -1, 0, 0⟩, ⟨[47, 113], [], 0, -1, 0, 1⟩]
def al2 : List Leaf := [⟨[47], [], 0, -1, 0, 0⟩, ⟨[47, 113], [], 0, -1, 1, 1⟩, ⟨[47, 113, 47, 116, 45, 48, 48, 48, 48, 48], [120], 0, 3, 0, 2⟩]
theorem al_1 : makeT [⟨[47], [], 0, -1, 0, 0⟩] [47, 113] [] (-1) 1 false = (al1, [47, 113], 0) := by decide +kernel
theorem al_num : numS [47, 113, 47, 116, 45] 0 = [47, 113, 47, 116, 45, 48, 48, 48, 48, 48] ∧ numE [47, 113, 47, 116, 45] 0 = 0 := by
  have h : numOk [47, 113, 47, 116, 45] 0 = true := by decide +kernel
  have hd : dig5 0 = [48, 48, 48, 48, 48] := by rw [← low_dig (by decide) (by decide)]; decide +kernel
  unfold numS numE
  rw [if_pos h, if_pos h, hd]
  decide +kernel
theorem al_2 : makeT al1 [47, 113, 47, 116, 45] [120] 3 2 true = (al2, [47, 113, 47, 116, 45, 48, 48, 48, 48, 48], 0) := by
  have h := rm_8 (ns := al1) (p := [47, 113, 47, 116, 45]) (data := [120]) (owner := 3) (born := 2) (num := true) (up := ⟨[47, 113], [], 0, -1, 0, 1⟩) (q := [47, 113, 47, 116, 45, 48, 48, 48, 48, 48])
    (by decide +kernel) (by decide) (by decide +kernel) rfl ⟨al_num.2, al_num.1⟩ (by decide +kernel) (by decide +kernel)
  rw [h]
  have : madeL al1 ⟨[47, 113], [], 0, -1, 0, 1⟩ [47, 113, 47, 116, 45, 48, 48, 48, 48, 48] [120] 3 2 true = al2 := by decide +kernel
  rw [this]
theorem al_3 : getT al2 [47, 113, 47, 116, 45, 48, 48, 48, 48, 48] = (⟨[47, 113, 47, 116, 45, 48, 48, 48, 48, 48], [120], 0, 3, 0, 2⟩, 0) := by decide +kernel
theorem al_4 : dropT al2 [47, 113] (-1) = (al2, 103) := by decide +kernel
theorem al_b0 : TreeB [⟨[47], [], 0, -1, 0, 0⟩] := (TreeOk.new).b (by decide)
theorem al_b1 : TreeB al1 := ⟨by decide, by decide⟩
theorem al_b2 : TreeB al2 := ⟨by decide, by decide⟩
def opZ (o : L10Op) : Int := (1 + (o.Path.length : Int)) + (o.Data.length : Int)
def grN : List L10Op → Int → Int
  | [], n => n
  | o :: r, n => if n ≤ 100000 then grN r (n + opZ o) else n
theorem gr_step {l : List L10Op} {i n : Int} {o : L10Op} (h : grN l 0 = grN (l.drop i.toNat) n) (h0 : 0 ≤ i) (hx : l[i.toNat]? = some o) (hn : n ≤ 100000) : grN l 0 = grN (l.drop (i + 1).toNat) (n + opZ o) := by
  rw [h, drop_at hx, toNat_succ h0, grN, if_pos hn]
theorem gr_end1 {l : List L10Op} {i n : Int} (h : grN l 0 = grN (l.drop i.toNat) n) (hi : ¬ (i < (l.length : Int))) : n = grN l 0 := by
  rw [h, List.drop_eq_nil_of_le (by omega)]; rfl
theorem gr_end2 {l : List L10Op} {i n : Int} (h : grN l 0 = grN (l.drop i.toNat) n) (hn : ¬ (n ≤ 100000)) : n = grN l 0 := by
  rw [h]
  cases l.drop i.toNat with
  | nil => rfl
  | cons o r => rw [grN, if_neg hn]
theorem grN_ge : ∀ (l : List L10Op) (n : Int), n ≤ grN l n
  | [], n => by simp [grN]
  | o :: r, n => by
    unfold grN
    split
    · have := grN_ge r (n + opZ o)
      unfold opZ at *
      omega
    · omega
def greatB (l : List L10Op) : Bool := decide (grN l 0 > 10000) || decide ((l.length : Int) > 150)
theorem gr_mem : ∀ (l : List L10Op) (n : Int), 0 ≤ n → grN l n ≤ 10000 → ∀ o ∈ l, o.Path.length ≤ 10000 ∧ o.Data.length ≤ 10000
  | [], n, _, _, o, ho => absurd ho (by simp)
  | q :: r, n, h0, h, o, ho => by
    unfold grN at h
    split at h
    · have hz : 0 ≤ opZ q := by unfold opZ; omega
      rcases List.mem_cons.1 ho with rfl | ho
      · have := grN_ge r (n + opZ o)
        unfold opZ at *
        omega
      · exact gr_mem r (n + opZ q) (by omega) h o ho
    · omega
theorem small {l : List L10Op} (h : greatB l = false) : l.length ≤ 150 ∧ ∀ o ∈ l, o.Path.length ≤ 10000 ∧ o.Data.length ≤ 10000 := by
  unfold greatB at h
  rw [Bool.or_eq_false_iff] at h
  have h1 := of_decide_eq_false h.1
  have h2 := of_decide_eq_false h.2
  exact ⟨by omega, gr_mem l 0 (by omega) (by omega)⟩
theorem greatB_1 {l : List L10Op} {n : Int} (h : n = grN l 0) (hn : n > 10000) : true = greatB l := by
  unfold greatB; rw [← h, decide_eq_true hn]; rfl
theorem greatB_2 {l : List L10Op} {n : Int} (h : n = grN l 0) (hn : ¬ n > 10000) : decide ((l.length : Int) > 150) = greatB l := by
  unfold greatB; rw [← h, decide_eq_false hn]; rfl
section
variable {k : Int} {ns : List Leaf} {p : Str}
theorem sz_step {list : List Leaf} {q : Int} {x : Leaf} (h : ∀ n ∈ list.take q.toNat, n.Path.length ≤ 1000 ∧ n.Data.length ≤ 1000) (h0 : 0 ≤ q) (hx : list[q.toNat]? = some x) (hs : ¬ ((x.Data.length : Int) + (x.Path.length : Int) > 1000)) :
    ∀ n ∈ list.take (q + 1).toNat, n.Path.length ≤ 1000 ∧ n.Data.length ≤ 1000 := by
  rw [toNat_succ h0, take_at hx]
  intro n hn
  rcases List.mem_append.1 hn with hn | hn
  · exact h n hn
  · rw [List.mem_singleton] at hn
    subst hn
    omega
theorem sz_end {list : List Leaf} {q : Int} (h : ∀ n ∈ list.take q.toNat, n.Path.length ≤ 1000 ∧ n.Data.length ≤ 1000) (hi : ¬ q < list.length) : ∀ n ∈ list, n.Path.length ≤ 1000 ∧ n.Data.length ≤ 1000 := by rwa [List.take_of_length_le (by omega)] at h
theorem right_path2 {seen : List Leaf} {l : Leaf} (h : rightL seen l = true) : l.Path.length ≤ 64 ∧ l.Data.length ≤ 128 := by
  unfold rightL at h
  simp only [Bool.and_eq_true, decide_eq_true_eq] at h
  refine ⟨?_, h.1.2⟩
  have h := h.2
  split at h
  · simp only [Bool.and_eq_true, decide_eq_true_eq] at h
    rw [h.1.1]; decide
  · simp only [Bool.and_eq_true, decide_eq_true_eq] at h
    exact cut_len h.1
theorem load_tb {list : List Leaf} (H : TreeOk k ns) (hk : k ≤ 1000000) (hs : ∀ n ∈ list, n.Path.length ≤ 2000000 ∧ n.Data.length ≤ 2000000 ∧ -9223372036854775808 ≤ n.Next ∧ n.Next ≤ 9223372036854775807) : TreeB (if loadB list = true then list else ns) := by
  split
  · rename_i h
    obtain ⟨h1, h2⟩ := load_iff.1 h
    refine ⟨by omega, fun n hn => ?_⟩
    obtain ⟨j, hj⟩ := List.mem_iff_getElem?.1 hn
    have := right_path2 (h2 j n hj).1
    exact ⟨this.1, this.2, (hs n hn).2.2⟩
  · exact H.b hk
section
variable {cur : List Leaf} {ow : List Int} {j z : Int} {inn : Bool} {x : Leaf}
end
section
variable {j z n : Int} {x y : Leaf} {q : Str}
end
section
variable {x last : Str} {m z a : Int} {c : List Leaf} {n : Leaf}
end
end
end Go.Proofs.YtmjebehhpojihaaGreatDoor.Sw
namespace Go.Proofs.YtmjebehhpojihaaGreatDoor.Sw
set_option linter.unusedVariables false
set_option linter.unusedSimpArgs false
set_option linter.deprecated false
open Go
section
variable {C : Ctx} {ds : List Deferred} {i j : Nat} {r : Heap} {M : Nat → Prop} {Ls : List (Nat × Bool)} {e : Env} {h : Heap}
variable {h0 : Heap} {g0 : GH} {S0 : Nat → Prop} {g : GH} {L : List Chunk}
theorem Op.convLit {dst : Nat} {T E : TypeId} {x : Operand} {b n : Nat} {cs : Array Value} {xs : List UInt8} (ho : nextDO C i j e = some (some dst, .convert T T x)) (hT : C.P.underlying T = some (.slice E)) (hE : C.P.underlying E = some (.int .u8))
    (hx : e.ev x = .slice (some ⟨b, 0, none⟩) n n) (hn : xs.length = n) (s : St h0 g0 S0 g ([(b, .cells cs E (0, 0))] :: L) h) (hr : Reads kU8 g xs (cut cs 0 (xs.length * kU8.sz))) (hM : b < r.size → M b)
    (K : ∀ g' h', gle g g' → St h0 g0 S0 g' L h' → SlR g' E kU8 (.slice (some ⟨b, 0, none⟩) n n) xs → Op C ds i r M Ls ((dst, .slice (some ⟨b, 0, none⟩) n n) :: e) h') : Op C ds i r M ((j, false) :: Ls) e h := by
  obtain ⟨o', h1, h2, h3⟩ := nextDO_spec ho
  have hb := s.chunk 0 rfl
  let f : Obj → Obj := fun | .cells c elem (lo, hi) => .cells c elem (if lo == hi then (cs.size, cs.size + 1) else (min lo cs.size, max hi (cs.size + 1))) | o => o
  have u : Upd h b (.cells cs E (cs.size, cs.size + 1)) (h.modify b f) := Upd.modify f hb
  refine Op.run h1 (R := fun nx h' => nx = .value (.slice (some ⟨b, 0, none⟩) n n) ∧ h' = h.modify b f) ?_ ?_
  · intro w is
    have hbw : w.heap[b]? = some (.cells cs E (0, 0)) := by rw [is.heap]; exact hb
    have hsh : w.shape? b = some (E, cs.size) := by unfold World.shape?; rw [hbw]
    refine ⟨_, w.freeze ⟨b, cs.size, none⟩ 1, ?_, ⟨rfl, is.os, is.tape, is.output⟩, rfl, ?_⟩
    · unfold semOf execOp
      simp only [h3, hx, Sem.run_bind]
      simp [convert, run_underlying hT, run_underlying hE, markStringish, hsh]
    · unfold World.freeze
      rw [if_neg (by decide)]
      rw [← is.heap]
      rfl
  · rintro _ _ ⟨rfl, rfl⟩
    refine ⟨_, rfl, u.keep hM, ?_⟩
    rw [h2]
    obtain ⟨s', hle⟩ := (s.upd u).freeze
    refine K _ _ hle s' ⟨_, _, by rw [hn], by omega, fun _ => ⟨b, 0, cs, (E, cs.size, cs.size + 1), rfl, gadd_one _ _, hr.mono hle⟩⟩
end
end Go.Proofs.YtmjebehhpojihaaGreatDoor.Sw
