/- Lemmas for a law of this seat: what the functions compute, and plain facts of it. Own text. -/
import Derived.Test.YtmjebehhpojihaaGreatDoorTStepsL
namespace Go.Proofs.YtmjebehhpojihaaGreatDoor.Sw
open Go
set_option maxRecDepth 100000
set_option linter.unusedVariables false
set_option linter.unusedSimpArgs false
set_option linter.deprecated false
theorem withL_le (ns : List Leaf) (l : Leaf) : (withL ns l).length ≤ ns.length + 1 := by
 rw [(withL_perm ns l).length_eq, List.length_cons]
 have := List.length_filter_le (fun n : Leaf => !decide (n.Path = l.Path)) ns
 unfold delL
 omega
theorem newR (B : World) (h : Heap) (g : GH) (hg : Sub g h) (hG : Glob g)   :
  Spec Tryz.prog B 42 #[] h g [] (fun rv g' L' => ∃ v0, rv = .agg #[v0] ∧ SlR g' 59 kLeaf v0 ((⟨[(⟨[47], [], 0, -1, 0, 0⟩ : Leaf)]⟩ : R10Tree).All) ∧ L' = []) := by
 refine Spec.of_at (f := Tryz.f42) (e := []) Tryz.func42 (by kernel_rfl) (Nat.le_of_ble_eq_true (by kernel_rfl)) (by kernel_rfl) (by kernel_rfl) ?_
 intro R hR
 have s0 := St.init hg
 refine At.reg (L := [(0, false)]) (by kernel_rfl) ?_
 refine Op.alloc (T := 75) (dst := 0) (cs := #[.slice none 0 0]) (by kernel_rfl) (by kernel_rfl) s0 ?_
 intro b1001 h1002 s1003
 refine Op.goto 1 (by kernel_rfl) ?_
 refine At.reg (L := [(0, false), (1, false), (2, false), (3, false)]) (by kernel_rfl) ?_
 refine Op.pures 1 [0, 1] (L' := [(1, false), (2, false), (3, false)]) (e' := [(0, .pointer (some ⟨b1001, 0, none⟩)), (1, .agg #[.string (mkS ([47])), .slice none 0 0, .int .i64 0, .int .i64 (-1), .int .i64 0, .int .i64 0])]) (by kernel_rfl) ?_
 refine Op.lit (T := 52) (len := 1) (parts := #[(0, (.tmp 1))]) (dst := 2) (E := 59) (ps := [(0, .agg #[.string (mkS ([47])), .slice none 0 0, .int .i64 0, .int .i64 (-1), .int .i64 0, .int .i64 0])]) (cs := #[.string (mkS ([47])), .slice none 0 0, .int .i64 0, .int .i64 (-1), .int .i64 0, .int .i64 0]) (by kernel_rfl) (by kernel_rfl) (by kernel_rfl) s1003 ?_
 intro b1004 h1005 s1006
 refine Op.pures 1 [0, 3] (L' := [(3, false)]) (e' := [(0, .pointer (some ⟨b1001, 0, none⟩)), (3, .agg #[.slice (some ⟨b1004, 0, none⟩) 1 1])]) (by kernel_rfl) ?_
 refine Op.store (T := 75) (x := (.tmp 0)) (y := (.tmp 3)) (b := b1001) (o := 0) (vs := [.slice (some ⟨b1004, 0, none⟩) 1 1]) (a? := true) (n := 1) (by kernel_rfl) (by kernel_rfl) (by kernel_rfl) (by kernel_rfl) rfl (by simp [Value.oneCell']) s1006 1 rfl (Nat.le_of_ble_eq_true (by kernel_rfl)) (cs := #[.slice none 0 0]) (cs' := #[.slice (some ⟨b1004, 0, none⟩) 1 1]) (by kernel_rfl) (fun _ => trivial) ?_
 intro h1007 s1008
 refine Op.goto 2 (by kernel_rfl) ?_
 have R1009 : Row 59 kLeaf g (.slice (some ⟨b1004, 0, none⟩) 1 1) [(⟨[47], [], 0, (-1), 0, 0⟩ : Leaf)] [(b1004, Obj.cells #[.string (mkS ([47])), .slice none 0 0, .int .i64 0, .int .i64 (-1), .int .i64 0, .int .i64 0] 59 (0, 0))] := Row.lit (by kernel_rfl) (by unfold maxLen; decide) (by kernel_rfl) ⟨_, _, rfl, ⟨_, (SlR.nil _ _ _), rfl⟩, Reads.nil⟩
 obtain ⟨g1010, s1011, hle1012, hf1013⟩ := Row.freeze R1009 (s1008.front 0 rfl)
 replace hG := hG.mono hle1012
 refine At.retM (f := Tryz.f42) (vs := [.agg #[.slice (some ⟨b1004, 0, none⟩) 1 1]]) (rl := [.cell 0 75]) (v := .agg #[.slice (some ⟨b1004, 0, none⟩) 1 1]) (by kernel_rfl) (by kernel_rfl) ⟨⟨_, _, rfl, resAgg (n := 1) (by kernel_rfl) (s1011.chunk 0 rfl) (by kernel_rfl) rfl⟩, trivial⟩ rfl ?_
 have s1014 : St h g (ids []) g1010 [] h1007 := (s1011).drop
 refine hR _ _ _ _ s1014 ⟨(.slice (some ⟨b1004, 0, none⟩) 1 1), ?_, ?_, rfl⟩
 ·exact rfl
 ·exact slEq hf1013 (by rfl)
theorem atR (B : World) (h : Heap) (g : GH) (hg : Sub g h) (hG : Glob g) (t : R10Tree) (v_t_0 : Value) (h_t_0 : SlR g 59 kLeaf v_t_0 t.All) (p : List UInt8) (h1 : t.All.length ≤ 1000000000) :
  Spec Tryz.prog B 86 #[.agg #[v_t_0], .string (mkS p)] h g [] (fun rv g' L' => rv = .int .i64 (atP t.All p) ∧ g' = g ∧ L' = []) := by
 obtain ⟨a_t_0, n_t_0, rfl⟩ := h_t_0.form
 refine Spec.of_at (f := Tryz.f86) (e := [(0, .agg #[.slice a_t_0 t.All.length n_t_0]), (1, .string (mkS p))]) Tryz.func86 (by kernel_rfl) (Nat.le_of_ble_eq_true (by kernel_rfl)) (by kernel_rfl) (by kernel_rfl) ?_
 intro R hR
 have s0 := St.init hg
 refine At.reg (L := [(0, false), (1, false)]) (by kernel_rfl) ?_
 refine Op.box (T := 75) (x := (.tmp 0)) (d := 2) (cs := #[.slice a_t_0 t.All.length n_t_0]) (by kernel_rfl) (by kernel_rfl) s0 ?_
 intro b1015 h1016 s1017
 refine Op.pures 1 [1, 2] (L' := []) (e' := [(1, .string (mkS p)), (2, .pointer (some ⟨b1015, 0, none⟩))]) (by kernel_rfl) ?_
 refine Op.goto 1 (by kernel_rfl) ?_
 refine At.reg (L := [(0, false)]) (by kernel_rfl) ?_
 refine Op.pures 1 [1, 2, 5] (L' := []) (e' := [(1, .string (mkS p)), (2, .pointer (some ⟨b1015, 0, none⟩)), (5, .int .i64 0)]) (by kernel_rfl) ?_
 refine Op.goto 2 (by kernel_rfl) ?_
 have loop2 : ∀ (m : Nat) (i : Int) (h1018 : Heap) (hm : t.All.length - i.toNat < m) (h0 : 0 ≤ i) (h3 : i ≤ t.All.length) (hat : findAt (fun n : Leaf => decide (n.Path = p)) t.All i)     (s_loop21017 : St h g (ids []) g [[(b1015, Obj.cells #[.slice a_t_0 t.All.length n_t_0] 75 (0, 0))]] h1018), At (fctx Tryz.prog B 86 Tryz.f86 R) [] 2 [(1, .string (mkS p)), (2, .pointer (some ⟨b1015, 0, none⟩)), (5, .int .i64 i)] h1018 := by
  intro m; induction m with
  | zero => intros; omega
  | succ m ih2 =>
   intro i h1018 hm h0 h3 hat s_loop21017
   refine At.reg (L := [(0, false), (1, false), (2, false), (3, false), (4, false)]) (by kernel_rfl) ?_
   refine Op.pures 2 [1, 2, 5, 6, 7] (L' := [(2, false), (3, false), (4, false)]) (e' := [(1, .string (mkS p)), (2, .pointer (some ⟨b1015, 0, none⟩)), (5, .int .i64 i), (6, .int .i64 i), (7, .pointer (some ⟨b1015, 0, none⟩))]) (by kernel_rfl) ?_
   refine Op.load (T := 52) (x := (.tmp 7)) (o := 0) (d := 8) (n := 1) (v := .slice a_t_0 t.All.length n_t_0) (by kernel_rfl) (by kernel_rfl) (by kernel_rfl) (s_loop21017.chunk 0 rfl) (by kernel_rfl) ?_
   refine Op.pures 2 [1, 2, 5, 10] (L' := []) (e' := [(1, .string (mkS p)), (2, .pointer (some ⟨b1015, 0, none⟩)), (5, .int .i64 i), (10, .bool (decide (i < (t.All.length : Int))))]) (by kernel_rfl) ?_
   refine Op.goto 3 (by kernel_rfl) ?_
   refine At.cond (b := decide (i < (t.All.length : Int))) (c := .tmp 10) (by kernel_rfl) (by kernel_rfl) (by kernel_rfl) 4 9 (by kernel_rfl) (by kernel_rfl) (fun hb => ?_) (fun hb => ?_)
   ·have c1019 : i < (t.All.length : Int) := of_decide_eq_true hb
    clear hb
    refine At.keep [1, 2, 5] ?_; show At _ _ _ [(1, .string (mkS p)), (2, .pointer (some ⟨b1015, 0, none⟩)), (5, .int .i64 i)] _
    refine At.reg (L := [(0, false), (1, false), (2, false), (3, false), (4, false), (5, false), (6, false), (7, false)]) (by kernel_rfl) ?_
    refine Op.pures 1 [1, 2, 5, 13] (L' := [(1, false), (2, false), (3, false), (4, false), (5, false), (6, false), (7, false)]) (e' := [(1, .string (mkS p)), (2, .pointer (some ⟨b1015, 0, none⟩)), (5, .int .i64 i), (13, .pointer (some ⟨b1015, 0, none⟩))]) (by kernel_rfl) ?_
    refine Op.load (T := 52) (x := (.tmp 13)) (o := 0) (d := 14) (n := 1) (v := .slice a_t_0 t.All.length n_t_0) (by kernel_rfl) (by kernel_rfl) (by kernel_rfl) (s_loop21017.chunk 0 rfl) (by kernel_rfl) ?_
    refine Op.pures 1 [1, 2, 5, 14, 15] (L' := [(3, false), (4, false), (5, false), (6, false), (7, false)]) (e' := [(1, .string (mkS p)), (2, .pointer (some ⟨b1015, 0, none⟩)), (5, .int .i64 i), (14, .slice a_t_0 t.All.length n_t_0), (15, .int .i64 i)]) (by kernel_rfl) ?_
    obtain ⟨x1020, hx1021⟩ : ∃ c, t.All[(i : Int).toNat]? = some c := ⟨_, List.getElem?_eq_getElem (by omega)⟩
    obtain ⟨b1022, o1023, cu1024, fz1025, ha1026, hb1027, hk1028⟩ := SlR.at_ h_t_0 _ hx1021
    cases ha1026
    refine Op.idx (T := 52) (E := 59) (sz := 6) (by_ := 72) (n := t.All.length) (c := n_t_0) (k := .i64) (x := (.tmp 14)) (ix := (.tmp 15)) (dst := 16) (bk := b1022) (o := o1023) (m := i) (by kernel_rfl) (by kernel_rfl) (by kernel_rfl) (by kernel_rfl) (by omega) (by omega) ?_
    obtain ⟨v1029, hv1030, hk1028⟩ := hk1028
    obtain ⟨a1031, n1032, rfl⟩ := hv1030.form
    refine Op.pures 1 [1, 2, 5, 17] (L' := [(5, false), (6, false), (7, false)]) (e' := [(1, .string (mkS p)), (2, .pointer (some ⟨b1015, 0, none⟩)), (5, .int .i64 i), (17, .pointer (some ⟨b1022, o1023 + (i : Int).toNat * 6, none⟩))]) (by kernel_rfl) ?_
    refine Op.load (T := 9) (x := (.tmp 17)) (o := o1023 + (i : Int).toNat * 6) (d := 18) (n := 1) (v := .string (mkS x1020.Path)) (by kernel_rfl) (by kernel_rfl) (by kernel_rfl) (s_loop21017.sub _ _ hb1027) (cut_get hk1028 0 rfl) ?_
    refine Op.pures 1 [1, 2, 5, 18, 19] (L' := [(7, false)]) (e' := [(1, .string (mkS p)), (2, .pointer (some ⟨b1015, 0, none⟩)), (5, .int .i64 i), (18, .string (mkS x1020.Path)), (19, .string (mkS p))]) (by kernel_rfl) ?_
    refine Op.val (dst := some 20) (v := .bool ((mkS x1020.Path).toList == (mkS p).toList)) (v' := .bool (x1020.Path == p)) (by kernel_rfl) (by rw [toList_mkS, toList_mkS]) ?_
    refine Op.goto 5 (by kernel_rfl) ?_
    refine At.cond (b := x1020.Path == p) (c := .tmp 20) (by kernel_rfl) (by kernel_rfl) (by kernel_rfl) 6 8 (by kernel_rfl) (by kernel_rfl) (fun hb => ?_) (fun hb => ?_)
    ·have c1033 : x1020.Path = p := eq_of_beq hb
     clear hb
     refine At.keep [5] ?_; show At _ _ _ [(5, .int .i64 i)] _
     refine At.reg (L := [(0, false), (1, false)]) (by kernel_rfl) ?_
     refine Op.pures 2 [4] (L' := []) (e' := [(4, .int .i64 i)]) (by kernel_rfl) ?_
     refine Op.goto 7 (by kernel_rfl) ?_
     refine At.ret (f := Tryz.f86) (v := .int .i64 i) (by kernel_rfl) (by kernel_rfl) ?_
     have s1034 : St h g (ids []) g [] h1018 := (s_loop21017).drop
     refine hR _ _ _ _ s1034 ⟨?_, rfl, rfl⟩
     exact (eqI (by exact findAt_hit hat hx1021 (decide_eq_true c1033)))
    ·have c1035 : ¬ (x1020.Path = p) := neF hb
     clear hb
     refine At.keep [1, 2, 5] ?_; show At _ _ _ [(1, .string (mkS p)), (2, .pointer (some ⟨b1015, 0, none⟩)), (5, .int .i64 i)] _
     refine At.reg (L := [(0, false), (1, false), (2, false)]) (by kernel_rfl) ?_
     refine Op.pures 1 [1, 2, 5, 11] (L' := [(1, false), (2, false)]) (e' := [(1, .string (mkS p)), (2, .pointer (some ⟨b1015, 0, none⟩)), (5, .int .i64 i), (11, .int .i64 i)]) (by kernel_rfl) ?_
     refine Op.val (dst := some 12) (v := .int .i64 (IntKind.wrap .i64 (i + 1))) (v' := .int .i64 (i + 1)) (by kernel_rfl) (wrapEq_i64 (by omega) (by omega)) ?_
     refine Op.pures 1 [1, 2, 5] (L' := []) (e' := [(1, .string (mkS p)), (2, .pointer (some ⟨b1015, 0, none⟩)), (5, .int .i64 (i + 1))]) (by kernel_rfl) ?_
     refine Op.goto 2 (by kernel_rfl) ?_
     exact ih2  (i + 1) _ (by omega) (by omega) (by omega) (by exact findAt_miss hat h0 hx1021 (decide_eq_false c1035))  s_loop21017
   ·have c1036 : ¬ (i < (t.All.length : Int)) := of_decide_eq_false hb
    clear hb
    refine At.keep [] ?_; show At _ _ _ [] _
    refine At.reg (L := [(0, false)]) (by kernel_rfl) ?_
    refine Op.pures 1 [4] (L' := []) (e' := [(4, .int .i64 (-1))]) (by kernel_rfl) ?_
    refine Op.goto 10 (by kernel_rfl) ?_
    refine At.ret (f := Tryz.f86) (v := .int .i64 (-1)) (by kernel_rfl) (by kernel_rfl) ?_
    have s1037 : St h g (ids []) g [] h1018 := (s_loop21017).drop
    refine hR _ _ _ _ s1037 ⟨?_, rfl, rfl⟩
    exact (eqI (by exact findAt_end hat c1036))
 exact loop2 _  0 _ (Nat.lt_succ_self _) (by omega) (by omega) (by exact findAt_0 _ _)  s1017
theorem withR (B : World) (h : Heap) (g : GH) (hg : Sub g h) (hG : Glob g) (t : R10Tree) (v_t_0 : Value) (h_t_0 : SlR g 59 kLeaf v_t_0 t.All) (l : Leaf) (v_l_1 : Value) (h_l_1 : SlR g 5 kU8 v_l_1 l.Data) (h1 : t.All.length ≤ 1000000) :
  Spec Tryz.prog B 88 #[.agg #[v_t_0], .agg #[.string (mkS l.Path), v_l_1, .int .i64 l.Version, .int .i64 l.Owner, .int .i64 l.Next, .int .i64 l.Born]] h g [] (fun rv g' L' => ∃ v0, rv = .agg #[v0] ∧ SlR g' 59 kLeaf v0 ((⟨withL t.All l⟩ : R10Tree).All) ∧ L' = []) := by
 obtain ⟨a_t_0, n_t_0, rfl⟩ := h_t_0.form
 obtain ⟨a_l_1, n_l_1, rfl⟩ := h_l_1.form
 refine Spec.of_at (f := Tryz.f88) (e := [(0, .agg #[.slice a_t_0 t.All.length n_t_0]), (1, .agg #[.string (mkS l.Path), .slice a_l_1 l.Data.length n_l_1, .int .i64 l.Version, .int .i64 l.Owner, .int .i64 l.Next, .int .i64 l.Born])]) Tryz.func88 (by kernel_rfl) (Nat.le_of_ble_eq_true (by kernel_rfl)) (by kernel_rfl) (by kernel_rfl) ?_
 intro R hR
 have s0 := St.init hg
 refine At.reg (L := [(0, false), (1, false), (2, false)]) (by kernel_rfl) ?_
 refine Op.box (T := 75) (x := (.tmp 0)) (d := 2) (cs := #[.slice a_t_0 t.All.length n_t_0]) (by kernel_rfl) (by kernel_rfl) s0 ?_
 intro b1038 h1039 s1040
 refine Op.box (T := 59) (x := (.tmp 1)) (d := 3) (cs := #[.string (mkS l.Path), .slice a_l_1 l.Data.length n_l_1, .int .i64 l.Version, .int .i64 l.Owner, .int .i64 l.Next, .int .i64 l.Born]) (by kernel_rfl) (by kernel_rfl) s1040 ?_
 intro b1041 h1042 s1043
 refine Op.alloc (T := 75) (dst := 4) (cs := #[.slice none 0 0]) (by kernel_rfl) (by kernel_rfl) s1043 ?_
 intro b1044 h1045 s1046
 refine Op.goto 1 (by kernel_rfl) ?_
 refine At.reg (L := [(0, false), (1, false)]) (by kernel_rfl) ?_
 refine Op.lit (T := 52) (len := 0) (parts := #[]) (dst := 8) (E := 59) (ps := []) (cs := #[]) (by kernel_rfl) (by kernel_rfl) (by kernel_rfl) s1046 ?_
 intro b1047 h1048 s1049
 refine Op.pures 1 [2, 3, 4, 5] (L' := []) (e' := [(2, .pointer (some ⟨b1038, 0, none⟩)), (3, .pointer (some ⟨b1041, 0, none⟩)), (4, .pointer (some ⟨b1044, 0, none⟩)), (5, .slice (some ⟨b1047, 0, none⟩) 0 0)]) (by kernel_rfl) ?_
 refine Op.goto 2 (by kernel_rfl) ?_
 refine At.reg (L := [(0, false)]) (by kernel_rfl) ?_
 refine Op.pures 1 [2, 3, 4, 5, 6] (L' := []) (e' := [(2, .pointer (some ⟨b1038, 0, none⟩)), (3, .pointer (some ⟨b1041, 0, none⟩)), (4, .pointer (some ⟨b1044, 0, none⟩)), (5, .slice (some ⟨b1047, 0, none⟩) 0 0), (6, .bool false)]) (by kernel_rfl) ?_
 refine Op.goto 3 (by kernel_rfl) ?_
 refine At.reg (L := [(0, false)]) (by kernel_rfl) ?_
 refine Op.pures 1 [2, 3, 4, 5, 6, 7] (L' := []) (e' := [(2, .pointer (some ⟨b1038, 0, none⟩)), (3, .pointer (some ⟨b1041, 0, none⟩)), (4, .pointer (some ⟨b1044, 0, none⟩)), (5, .slice (some ⟨b1047, 0, none⟩) 0 0), (6, .bool false), (7, .int .i64 0)]) (by kernel_rfl) ?_
 refine Op.goto 4 (by kernel_rfl) ?_
 have loop4 : ∀ (m : Nat) (out : List Leaf) (put : Bool) (i : Int) (a1050 : Option Addr) (n1051 : Nat) (ch1052 : Chunk) (h1054 : Heap) (hm : t.All.length - i.toNat < m) (h0 : 0 ≤ i) (h3 : i ≤ t.All.length) (hw : withI t.All l i out put) (R1053 : Row 59 kLeaf g (.slice a1050 out.length n1051) out ch1052)    (s_loop41053 : St h g (ids []) g [ch1052, [(b1044, Obj.cells #[.slice none 0 0] 75 (0, 0))], [(b1041, Obj.cells #[.string (mkS l.Path), .slice a_l_1 l.Data.length n_l_1, .int .i64 l.Version, .int .i64 l.Owner, .int .i64 l.Next, .int .i64 l.Born] 59 (0, 0))], [(b1038, Obj.cells #[.slice a_t_0 t.All.length n_t_0] 75 (0, 0))]] h1054), At (fctx Tryz.prog B 88 Tryz.f88 R) [] 4 [(2, .pointer (some ⟨b1038, 0, none⟩)), (3, .pointer (some ⟨b1041, 0, none⟩)), (4, .pointer (some ⟨b1044, 0, none⟩)), (5, .slice a1050 out.length n1051), (6, .bool put), (7, .int .i64 i)] h1054 := by
  intro m; induction m with
  | zero => intros; omega
  | succ m ih4 =>
   intro out put i a1050 n1051 ch1052 h1054 hm h0 h3 hw R1053 s_loop41053
   refine At.reg (L := [(0, false), (1, false), (2, false), (3, false), (4, false)]) (by kernel_rfl) ?_
   refine Op.pures 2 [2, 3, 4, 5, 6, 7, 9, 10] (L' := [(2, false), (3, false), (4, false)]) (e' := [(2, .pointer (some ⟨b1038, 0, none⟩)), (3, .pointer (some ⟨b1041, 0, none⟩)), (4, .pointer (some ⟨b1044, 0, none⟩)), (5, .slice a1050 out.length n1051), (6, .bool put), (7, .int .i64 i), (9, .int .i64 i), (10, .pointer (some ⟨b1038, 0, none⟩))]) (by kernel_rfl) ?_
   refine Op.load (T := 52) (x := (.tmp 10)) (o := 0) (d := 11) (n := 1) (v := .slice a_t_0 t.All.length n_t_0) (by kernel_rfl) (by kernel_rfl) (by kernel_rfl) (s_loop41053.chunk 3 rfl) (by kernel_rfl) ?_
   refine Op.pures 2 [2, 3, 4, 5, 6, 7, 13] (L' := []) (e' := [(2, .pointer (some ⟨b1038, 0, none⟩)), (3, .pointer (some ⟨b1041, 0, none⟩)), (4, .pointer (some ⟨b1044, 0, none⟩)), (5, .slice a1050 out.length n1051), (6, .bool put), (7, .int .i64 i), (13, .bool (decide (i < (t.All.length : Int))))]) (by kernel_rfl) ?_
   refine Op.goto 5 (by kernel_rfl) ?_
   refine At.cond (b := decide (i < (t.All.length : Int))) (c := .tmp 13) (by kernel_rfl) (by kernel_rfl) (by kernel_rfl) 6 14 (by kernel_rfl) (by kernel_rfl) (fun hb => ?_) (fun hb => ?_)
   ·have c1055 : i < (t.All.length : Int) := of_decide_eq_true hb
    clear hb
    refine At.keep [2, 3, 4, 5, 6, 7] ?_; show At _ _ _ [(2, .pointer (some ⟨b1038, 0, none⟩)), (3, .pointer (some ⟨b1041, 0, none⟩)), (4, .pointer (some ⟨b1044, 0, none⟩)), (5, .slice a1050 out.length n1051), (6, .bool put), (7, .int .i64 i)] _
    refine At.draw (by kernel_rfl) (fun _ => False) [(0, true), (2, true), (6, true), (1, true), (3, true), (4, true), (5, true), (7, false), (8, true)] (by kernel_rfl) ?_
    refine Op.pures 3 [2, 3, 4, 5, 6, 7, 16, 18, 22] (L' := [(1, true), (3, true), (4, true), (5, true), (7, false), (8, true)]) (e' := [(2, .pointer (some ⟨b1038, 0, none⟩)), (3, .pointer (some ⟨b1041, 0, none⟩)), (4, .pointer (some ⟨b1044, 0, none⟩)), (5, .slice a1050 out.length n1051), (6, .bool put), (7, .int .i64 i), (16, .pointer (some ⟨b1038, 0, none⟩)), (18, .int .i64 i), (22, .pointer (some ⟨b1041, 0, none⟩))]) (by kernel_rfl) ?_
    refine Op.loadF (T := 52) (x := (.tmp 16)) (o := 0) (d := 17) (n := 1) (v := .slice a_t_0 t.All.length n_t_0) (by kernel_rfl) (by kernel_rfl) (by kernel_rfl) (fun h => h) (s_loop41053.chunk 3 rfl) (by kernel_rfl) ?_
    obtain ⟨x1056, hx1057⟩ : ∃ c, t.All[(i : Int).toNat]? = some c := ⟨_, List.getElem?_eq_getElem (by omega)⟩
    obtain ⟨b1058, o1059, cu1060, fz1061, ha1062, hb1063, hk1064⟩ := SlR.at_ h_t_0 _ hx1057
    cases ha1062
    refine Op.idx (T := 52) (E := 59) (sz := 6) (by_ := 72) (n := t.All.length) (c := n_t_0) (k := .i64) (x := (.tmp 17)) (ix := (.tmp 18)) (dst := 19) (bk := b1058) (o := o1059) (m := i) (by kernel_rfl) (by kernel_rfl) (by kernel_rfl) (by kernel_rfl) (by omega) (by omega) ?_
    obtain ⟨v1065, hv1066, hk1064⟩ := hk1064
    obtain ⟨a1067, n1068, rfl⟩ := hv1066.form
    refine Op.pures 1 [2, 3, 4, 5, 6, 7, 20, 22] (L' := [(5, true), (7, false), (8, true)]) (e' := [(2, .pointer (some ⟨b1038, 0, none⟩)), (3, .pointer (some ⟨b1041, 0, none⟩)), (4, .pointer (some ⟨b1044, 0, none⟩)), (5, .slice a1050 out.length n1051), (6, .bool put), (7, .int .i64 i), (20, .pointer (some ⟨b1058, o1059 + (i : Int).toNat * 6, none⟩)), (22, .pointer (some ⟨b1041, 0, none⟩))]) (by kernel_rfl) ?_
    refine Op.loadF (T := 9) (x := (.tmp 20)) (o := o1059 + (i : Int).toNat * 6) (d := 21) (n := 1) (v := .string (mkS x1056.Path)) (by kernel_rfl) (by kernel_rfl) (by kernel_rfl) (fun h => h) (s_loop41053.sub _ _ hb1063) (cut_get hk1064 0 rfl) ?_
    refine Op.load (T := 9) (x := (.tmp 22)) (o := 0) (d := 23) (n := 1) (v := .string (mkS l.Path)) (by kernel_rfl) (by kernel_rfl) (by kernel_rfl) (s_loop41053.chunk 2 rfl) (by kernel_rfl) ?_
    refine Op.val (dst := some 24) (v := .bool ((mkS x1056.Path).toList == (mkS l.Path).toList)) (v' := .bool (x1056.Path == l.Path)) (by kernel_rfl) (by rw [toList_mkS, toList_mkS]) ?_
    refine Op.goto 7 (by kernel_rfl) ?_
    refine At.cond (b := x1056.Path == l.Path) (c := .tmp 24) (by kernel_rfl) (by kernel_rfl) (by kernel_rfl) 13 8 (by kernel_rfl) (by kernel_rfl) (fun hb => ?_) (fun hb => ?_)
    ·have c1069 : x1056.Path = l.Path := eq_of_beq hb
     clear hb
     refine At.keep [2, 3, 4, 5, 6, 7] ?_; show At _ _ _ [(2, .pointer (some ⟨b1038, 0, none⟩)), (3, .pointer (some ⟨b1041, 0, none⟩)), (4, .pointer (some ⟨b1044, 0, none⟩)), (5, .slice a1050 out.length n1051), (6, .bool put), (7, .int .i64 i)] _
     refine At.reg (L := [(0, false), (1, false), (2, false)]) (by kernel_rfl) ?_
     refine Op.pures 1 [2, 3, 4, 5, 6, 7, 14] (L' := [(1, false), (2, false)]) (e' := [(2, .pointer (some ⟨b1038, 0, none⟩)), (3, .pointer (some ⟨b1041, 0, none⟩)), (4, .pointer (some ⟨b1044, 0, none⟩)), (5, .slice a1050 out.length n1051), (6, .bool put), (7, .int .i64 i), (14, .int .i64 i)]) (by kernel_rfl) ?_
     refine Op.val (dst := some 15) (v := .int .i64 (IntKind.wrap .i64 (i + 1))) (v' := .int .i64 (i + 1)) (by kernel_rfl) (wrapEq_i64 (by omega) (by omega)) ?_
     refine Op.pures 1 [2, 3, 4, 5, 6, 7] (L' := []) (e' := [(2, .pointer (some ⟨b1038, 0, none⟩)), (3, .pointer (some ⟨b1041, 0, none⟩)), (4, .pointer (some ⟨b1044, 0, none⟩)), (5, .slice a1050 out.length n1051), (6, .bool put), (7, .int .i64 (i + 1))]) (by kernel_rfl) ?_
     refine Op.goto 4 (by kernel_rfl) ?_
     exact ih4  out put (i + 1) _ _ _ _ (by omega) (by omega) (by omega) (by exact withI_skip hw h0 hx1057 (by assumption)) R1053 s_loop41053
    ·have c1070 : ¬ (x1056.Path = l.Path) := neF hb
     clear hb
     refine At.keep [2, 3, 4, 5, 6, 7] ?_; show At _ _ _ [(2, .pointer (some ⟨b1038, 0, none⟩)), (3, .pointer (some ⟨b1041, 0, none⟩)), (4, .pointer (some ⟨b1044, 0, none⟩)), (5, .slice a1050 out.length n1051), (6, .bool put), (7, .int .i64 i)] _
     refine At.draw (by kernel_rfl) (fun _ => False) [(0, true), (1, true), (2, true), (3, true), (5, true), (7, true), (4, true), (6, false), (8, true), (9, true), (10, false), (11, true), (12, true)] (by kernel_rfl) ?_
     refine Op.pures 3 [2, 3, 4, 5, 6, 7, 27] (L' := [(3, true), (5, true), (7, true), (4, true), (6, false), (8, true), (9, true), (10, false), (11, true), (12, true)]) (e' := [(2, .pointer (some ⟨b1038, 0, none⟩)), (3, .pointer (some ⟨b1041, 0, none⟩)), (4, .pointer (some ⟨b1044, 0, none⟩)), (5, .slice a1050 out.length n1051), (6, .bool put), (7, .int .i64 i), (27, .bool (!put))]) (by kernel_rfl) ?_
     refine Op.ways (b := !put) ⟨fun hb => ?_, fun hb => ?_⟩
     ·refine Op.cast (e' := [(2, .pointer (some ⟨b1038, 0, none⟩)), (3, .pointer (some ⟨b1041, 0, none⟩)), (4, .pointer (some ⟨b1044, 0, none⟩)), (5, .slice a1050 out.length n1051), (6, .bool put), (7, .int .i64 i), (27, .bool true)]) (by rw [hb]) ?_
      have c1071 : put = false := (notT hb)
      clear hb
      refine Op.pures 3 [2, 3, 4, 5, 6, 7, 27, 28, 30, 32] (L' := [(4, true), (6, false), (8, true), (9, true), (10, false), (11, true), (12, true)]) (e' := [(2, .pointer (some ⟨b1038, 0, none⟩)), (3, .pointer (some ⟨b1041, 0, none⟩)), (4, .pointer (some ⟨b1044, 0, none⟩)), (5, .slice a1050 out.length n1051), (6, .bool put), (7, .int .i64 i), (27, .bool true), (28, .pointer (some ⟨b1041, 0, none⟩)), (30, .pointer (some ⟨b1038, 0, none⟩)), (32, .int .i64 i)]) (by kernel_rfl) ?_
      refine Op.loadF (T := 9) (x := (.tmp 28)) (o := 0) (d := 29) (n := 1) (v := .string (mkS l.Path)) (by kernel_rfl) (by kernel_rfl) (by kernel_rfl) (fun h => h) (s_loop41053.chunk 2 rfl) (by kernel_rfl) ?_
      refine Op.load (T := 52) (x := (.tmp 30)) (o := 0) (d := 31) (n := 1) (v := .slice (some ⟨b1058, o1059, none⟩) t.All.length n_t_0) (by kernel_rfl) (by kernel_rfl) (by kernel_rfl) (s_loop41053.chunk 3 rfl) (by kernel_rfl) ?_
      obtain ⟨b1074, o1075, cu1076, fz1077, ha1078, hb1079, hk1080⟩ := SlR.at_ h_t_0 _ hx1057
      cases ha1078
      refine Op.idx (T := 52) (E := 59) (sz := 6) (by_ := 72) (n := t.All.length) (c := n_t_0) (k := .i64) (x := (.tmp 31)) (ix := (.tmp 32)) (dst := 33) (bk := b1058) (o := o1059) (m := i) (by kernel_rfl) (by kernel_rfl) (by kernel_rfl) (by kernel_rfl) (by omega) (by omega) ?_
      obtain ⟨v1081, hv1082, hk1080⟩ := hk1080
      obtain ⟨a1083, n1084, rfl⟩ := hv1082.form
      refine Op.pures 1 [2, 3, 4, 5, 6, 7, 27, 29, 34] (L' := [(10, false), (11, true), (12, true)]) (e' := [(2, .pointer (some ⟨b1038, 0, none⟩)), (3, .pointer (some ⟨b1041, 0, none⟩)), (4, .pointer (some ⟨b1044, 0, none⟩)), (5, .slice a1050 out.length n1051), (6, .bool put), (7, .int .i64 i), (27, .bool true), (29, .string (mkS l.Path)), (34, .pointer (some ⟨b1058, o1059 + (i : Int).toNat * 6, none⟩))]) (by kernel_rfl) ?_
      refine Op.load (T := 9) (x := (.tmp 34)) (o := o1059 + (i : Int).toNat * 6) (d := 35) (n := 1) (v := .string (mkS x1056.Path)) (by kernel_rfl) (by kernel_rfl) (by kernel_rfl) (s_loop41053.sub _ _ hb1079) (cut_get hk1080 0 rfl) ?_
      refine Op.val (dst := some 36) (v := .bool (Go.Op.bytesLess (mkS l.Path).toList (mkS x1056.Path).toList)) (v' := .bool (Go.Op.bytesLess l.Path x1056.Path)) (by kernel_rfl) (by rw [toList_mkS, toList_mkS]) ?_
      refine Op.pures 1 [2, 3, 4, 5, 6, 7, 37] (L' := []) (e' := [(2, .pointer (some ⟨b1038, 0, none⟩)), (3, .pointer (some ⟨b1041, 0, none⟩)), (4, .pointer (some ⟨b1044, 0, none⟩)), (5, .slice a1050 out.length n1051), (6, .bool put), (7, .int .i64 i), (37, .bool (Go.Op.bytesLess l.Path x1056.Path))]) (by kernel_rfl) ?_
      refine Op.goto 9 (by kernel_rfl) ?_
      refine At.cond (b := Go.Op.bytesLess l.Path x1056.Path) (c := .tmp 37) (by kernel_rfl) (by kernel_rfl) (by kernel_rfl) 10 12 (by kernel_rfl) (by kernel_rfl) (fun hb => ?_) (fun hb => ?_)
      ·have c1085 : (Go.Op.bytesLess l.Path x1056.Path) = true := hb
       clear hb
       refine At.keep [2, 3, 4, 5, 7] ?_; show At _ _ _ [(2, .pointer (some ⟨b1038, 0, none⟩)), (3, .pointer (some ⟨b1041, 0, none⟩)), (4, .pointer (some ⟨b1044, 0, none⟩)), (5, .slice a1050 out.length n1051), (7, .int .i64 i)] _
       refine At.reg (L := [(0, false), (1, false), (2, false), (3, false), (4, false)]) (by kernel_rfl) ?_
       refine Op.pures 1 [2, 3, 4, 5, 7, 38] (L' := [(1, false), (2, false), (3, false), (4, false)]) (e' := [(2, .pointer (some ⟨b1038, 0, none⟩)), (3, .pointer (some ⟨b1041, 0, none⟩)), (4, .pointer (some ⟨b1044, 0, none⟩)), (5, .slice a1050 out.length n1051), (7, .int .i64 i), (38, .slice a1050 out.length n1051)]) (by kernel_rfl) ?_
       refine Op.loadA (T := 59) (x := (.tmp 3)) (o := 0) (d := 39) (n := 6) (vs := [.string (mkS l.Path), .slice a_l_1 l.Data.length n_l_1, .int .i64 l.Version, .int .i64 l.Owner, .int .i64 l.Next, .int .i64 l.Born]) (by kernel_rfl) (by kernel_rfl) (by kernel_rfl) (s_loop41053.chunk 2 rfl) (by kernel_rfl) rfl ?_
       refine Op.lit (T := 52) (len := 1) (parts := #[(0, (.tmp 39))]) (dst := 40) (E := 59) (ps := [(0, .agg #[.string (mkS l.Path), .slice a_l_1 l.Data.length n_l_1, .int .i64 l.Version, .int .i64 l.Owner, .int .i64 l.Next, .int .i64 l.Born])]) (cs := #[.string (mkS l.Path), .slice a_l_1 l.Data.length n_l_1, .int .i64 l.Version, .int .i64 l.Owner, .int .i64 l.Next, .int .i64 l.Born]) (by kernel_rfl) (by kernel_rfl) (by kernel_rfl) s_loop41053 ?_
       intro b1086 h1087 s1088
       refine Op.append (x := (.tmp 38)) (y := (.tmp 40)) (t := 52) (t' := 52) (dst := 41) (E := 59) (by_ := 72) (d := kLeaf) (by kernel_rfl) (by kernel_rfl) (by kernel_rfl) (by kernel_rfl) rfl R1053 s1088 1 rfl (Src.lit (m := 1) (sz := 6) (s1088.chunk 0 rfl) (news := [.string (mkS l.Path), .slice a_l_1 l.Data.length n_l_1, .int .i64 l.Version, .int .i64 l.Owner, .int .i64 l.Next, .int .i64 l.Born]) rfl rfl (by simp [Value.oneCell']) _) (ys := [l]) (⟨_, _, rfl, ⟨_, h_l_1, rfl⟩, Reads.nil⟩) rfl (by (have := withI_len hw h0 h3; simp only [List.length_append, List.length_cons, List.length_nil]; omega)) (fun _ _ _ => trivial) ?_
       intro v1089 ch1090 h1091 R1092 s1093 nn1094
       obtain ⟨a1095, n1096, rfl⟩ := R1092.form
       have s1097 := (s1093.front 0 rfl).drop
       refine Op.pures 1 [2, 3, 4, 5, 7] (L' := []) (e' := [(2, .pointer (some ⟨b1038, 0, none⟩)), (3, .pointer (some ⟨b1041, 0, none⟩)), (4, .pointer (some ⟨b1044, 0, none⟩)), (5, .slice a1095 ((out ++ ([l])).length) n1096), (7, .int .i64 i)]) (by kernel_rfl) ?_
       refine Op.goto 11 (by kernel_rfl) ?_
       refine At.reg (L := [(0, false)]) (by kernel_rfl) ?_
       refine Op.pures 1 [2, 3, 4, 5, 6, 7] (L' := []) (e' := [(2, .pointer (some ⟨b1038, 0, none⟩)), (3, .pointer (some ⟨b1041, 0, none⟩)), (4, .pointer (some ⟨b1044, 0, none⟩)), (5, .slice a1095 ((out ++ ([l])).length) n1096), (6, .bool true), (7, .int .i64 i)]) (by kernel_rfl) ?_
       refine Op.goto 12 (by kernel_rfl) ?_
       refine At.reg (L := [(0, false), (1, false), (2, false), (3, false), (4, false), (5, false), (6, false), (7, false), (8, false)]) (by kernel_rfl) ?_
       refine Op.pures 2 [2, 3, 4, 5, 6, 7, 42, 43] (L' := [(2, false), (3, false), (4, false), (5, false), (6, false), (7, false), (8, false)]) (e' := [(2, .pointer (some ⟨b1038, 0, none⟩)), (3, .pointer (some ⟨b1041, 0, none⟩)), (4, .pointer (some ⟨b1044, 0, none⟩)), (5, .slice a1095 ((out ++ ([l])).length) n1096), (6, .bool true), (7, .int .i64 i), (42, .slice a1095 ((out ++ ([l])).length) n1096), (43, .pointer (some ⟨b1038, 0, none⟩))]) (by kernel_rfl) ?_
       refine Op.load (T := 52) (x := (.tmp 43)) (o := 0) (d := 44) (n := 1) (v := .slice (some ⟨b1058, o1059, none⟩) t.All.length n_t_0) (by kernel_rfl) (by kernel_rfl) (by kernel_rfl) (s1097.chunk 3 rfl) (by kernel_rfl) ?_
       refine Op.pures 1 [2, 3, 4, 5, 6, 7, 42, 44, 45] (L' := [(4, false), (5, false), (6, false), (7, false), (8, false)]) (e' := [(2, .pointer (some ⟨b1038, 0, none⟩)), (3, .pointer (some ⟨b1041, 0, none⟩)), (4, .pointer (some ⟨b1044, 0, none⟩)), (5, .slice a1095 ((out ++ ([l])).length) n1096), (6, .bool true), (7, .int .i64 i), (42, .slice a1095 ((out ++ ([l])).length) n1096), (44, .slice (some ⟨b1058, o1059, none⟩) t.All.length n_t_0), (45, .int .i64 i)]) (by kernel_rfl) ?_
       obtain ⟨b1100, o1101, cu1102, fz1103, ha1104, hb1105, hk1106⟩ := SlR.at_ h_t_0 _ hx1057
       cases ha1104
       refine Op.idx (T := 52) (E := 59) (sz := 6) (by_ := 72) (n := t.All.length) (c := n_t_0) (k := .i64) (x := (.tmp 44)) (ix := (.tmp 45)) (dst := 46) (bk := b1058) (o := o1059) (m := i) (by kernel_rfl) (by kernel_rfl) (by kernel_rfl) (by kernel_rfl) (by omega) (by omega) ?_
       obtain ⟨v1107, hv1108, hk1106⟩ := hk1106
       obtain ⟨a1109, n1110, rfl⟩ := hv1108.form
       refine Op.loadA (T := 59) (x := (.tmp 46)) (o := o1059 + (i : Int).toNat * 6) (d := 47) (n := 6) (vs := [.string (mkS x1056.Path), .slice a1109 x1056.Data.length n1110, .int .i64 x1056.Version, .int .i64 x1056.Owner, .int .i64 x1056.Next, .int .i64 x1056.Born]) (by kernel_rfl) (by kernel_rfl) (by kernel_rfl) (s1097.sub _ _ hb1105) (hk1106) rfl ?_
       refine Op.lit (T := 52) (len := 1) (parts := #[(0, (.tmp 47))]) (dst := 48) (E := 59) (ps := [(0, .agg #[.string (mkS x1056.Path), .slice a1109 x1056.Data.length n1110, .int .i64 x1056.Version, .int .i64 x1056.Owner, .int .i64 x1056.Next, .int .i64 x1056.Born])]) (cs := #[.string (mkS x1056.Path), .slice a1109 x1056.Data.length n1110, .int .i64 x1056.Version, .int .i64 x1056.Owner, .int .i64 x1056.Next, .int .i64 x1056.Born]) (by kernel_rfl) (by kernel_rfl) (by kernel_rfl) s1097 ?_
       intro b1111 h1112 s1113
       refine Op.append (x := (.tmp 42)) (y := (.tmp 48)) (t := 52) (t' := 52) (dst := 49) (E := 59) (by_ := 72) (d := kLeaf) (by kernel_rfl) (by kernel_rfl) (by kernel_rfl) (by kernel_rfl) rfl R1092 s1113 1 rfl (Src.lit (m := 1) (sz := 6) (s1113.chunk 0 rfl) (news := [.string (mkS x1056.Path), .slice a1109 x1056.Data.length n1110, .int .i64 x1056.Version, .int .i64 x1056.Owner, .int .i64 x1056.Next, .int .i64 x1056.Born]) rfl rfl (by simp [Value.oneCell']) _) (ys := [x1056]) (⟨_, _, rfl, ⟨_, hv1108, rfl⟩, Reads.nil⟩) rfl (by (have := withI_len hw h0 h3; simp only [List.length_append, List.length_cons, List.length_nil]; omega)) (fun _ _ _ => trivial) ?_
       intro v1114 ch1115 h1116 R1117 s1118 nn1119
       obtain ⟨a1120, n1121, rfl⟩ := R1117.form
       have s1122 := (s1118.front 0 rfl).drop
       refine Op.pures 1 [2, 3, 4, 5, 6, 7] (L' := []) (e' := [(2, .pointer (some ⟨b1038, 0, none⟩)), (3, .pointer (some ⟨b1041, 0, none⟩)), (4, .pointer (some ⟨b1044, 0, none⟩)), (5, .slice a1120 (((out ++ ([l])) ++ ([x1056])).length) n1121), (6, .bool true), (7, .int .i64 i)]) (by kernel_rfl) ?_
       refine Op.goto 13 (by kernel_rfl) ?_
       refine At.reg (L := [(0, false), (1, false), (2, false)]) (by kernel_rfl) ?_
       refine Op.pures 1 [2, 3, 4, 5, 6, 7, 14] (L' := [(1, false), (2, false)]) (e' := [(2, .pointer (some ⟨b1038, 0, none⟩)), (3, .pointer (some ⟨b1041, 0, none⟩)), (4, .pointer (some ⟨b1044, 0, none⟩)), (5, .slice a1120 (((out ++ ([l])) ++ ([x1056])).length) n1121), (6, .bool true), (7, .int .i64 i), (14, .int .i64 i)]) (by kernel_rfl) ?_
       refine Op.val (dst := some 15) (v := .int .i64 (IntKind.wrap .i64 (i + 1))) (v' := .int .i64 (i + 1)) (by kernel_rfl) (wrapEq_i64 (by omega) (by omega)) ?_
       refine Op.pures 1 [2, 3, 4, 5, 6, 7] (L' := []) (e' := [(2, .pointer (some ⟨b1038, 0, none⟩)), (3, .pointer (some ⟨b1041, 0, none⟩)), (4, .pointer (some ⟨b1044, 0, none⟩)), (5, .slice a1120 (((out ++ ([l])) ++ ([x1056])).length) n1121), (6, .bool true), (7, .int .i64 (i + 1))]) (by kernel_rfl) ?_
       refine Op.goto 4 (by kernel_rfl) ?_
       exact ih4  ((out ++ ([l])) ++ ([x1056])) true (i + 1) _ _ _ _ (by omega) (by omega) (by omega) (by exact withI_put hw h0 hx1057 (by assumption) (by assumption) (by assumption)) R1117 s1122
      ·have c1123 : (Go.Op.bytesLess l.Path x1056.Path) = false := hb
       clear hb
       refine At.keep [2, 3, 4, 5, 6, 7] ?_; show At _ _ _ [(2, .pointer (some ⟨b1038, 0, none⟩)), (3, .pointer (some ⟨b1041, 0, none⟩)), (4, .pointer (some ⟨b1044, 0, none⟩)), (5, .slice a1050 out.length n1051), (6, .bool put), (7, .int .i64 i)] _
       refine At.reg (L := [(0, false), (1, false), (2, false), (3, false), (4, false), (5, false), (6, false), (7, false), (8, false)]) (by kernel_rfl) ?_
       refine Op.pures 2 [2, 3, 4, 5, 6, 7, 42, 43] (L' := [(2, false), (3, false), (4, false), (5, false), (6, false), (7, false), (8, false)]) (e' := [(2, .pointer (some ⟨b1038, 0, none⟩)), (3, .pointer (some ⟨b1041, 0, none⟩)), (4, .pointer (some ⟨b1044, 0, none⟩)), (5, .slice a1050 out.length n1051), (6, .bool put), (7, .int .i64 i), (42, .slice a1050 out.length n1051), (43, .pointer (some ⟨b1038, 0, none⟩))]) (by kernel_rfl) ?_
       refine Op.load (T := 52) (x := (.tmp 43)) (o := 0) (d := 44) (n := 1) (v := .slice (some ⟨b1058, o1059, none⟩) t.All.length n_t_0) (by kernel_rfl) (by kernel_rfl) (by kernel_rfl) (s_loop41053.chunk 3 rfl) (by kernel_rfl) ?_
       refine Op.pures 1 [2, 3, 4, 5, 6, 7, 42, 44, 45] (L' := [(4, false), (5, false), (6, false), (7, false), (8, false)]) (e' := [(2, .pointer (some ⟨b1038, 0, none⟩)), (3, .pointer (some ⟨b1041, 0, none⟩)), (4, .pointer (some ⟨b1044, 0, none⟩)), (5, .slice a1050 out.length n1051), (6, .bool put), (7, .int .i64 i), (42, .slice a1050 out.length n1051), (44, .slice (some ⟨b1058, o1059, none⟩) t.All.length n_t_0), (45, .int .i64 i)]) (by kernel_rfl) ?_
       obtain ⟨b1126, o1127, cu1128, fz1129, ha1130, hb1131, hk1132⟩ := SlR.at_ h_t_0 _ hx1057
       cases ha1130
       refine Op.idx (T := 52) (E := 59) (sz := 6) (by_ := 72) (n := t.All.length) (c := n_t_0) (k := .i64) (x := (.tmp 44)) (ix := (.tmp 45)) (dst := 46) (bk := b1058) (o := o1059) (m := i) (by kernel_rfl) (by kernel_rfl) (by kernel_rfl) (by kernel_rfl) (by omega) (by omega) ?_
       obtain ⟨v1133, hv1134, hk1132⟩ := hk1132
       obtain ⟨a1135, n1136, rfl⟩ := hv1134.form
       refine Op.loadA (T := 59) (x := (.tmp 46)) (o := o1059 + (i : Int).toNat * 6) (d := 47) (n := 6) (vs := [.string (mkS x1056.Path), .slice a1135 x1056.Data.length n1136, .int .i64 x1056.Version, .int .i64 x1056.Owner, .int .i64 x1056.Next, .int .i64 x1056.Born]) (by kernel_rfl) (by kernel_rfl) (by kernel_rfl) (s_loop41053.sub _ _ hb1131) (hk1132) rfl ?_
       refine Op.lit (T := 52) (len := 1) (parts := #[(0, (.tmp 47))]) (dst := 48) (E := 59) (ps := [(0, .agg #[.string (mkS x1056.Path), .slice a1135 x1056.Data.length n1136, .int .i64 x1056.Version, .int .i64 x1056.Owner, .int .i64 x1056.Next, .int .i64 x1056.Born])]) (cs := #[.string (mkS x1056.Path), .slice a1135 x1056.Data.length n1136, .int .i64 x1056.Version, .int .i64 x1056.Owner, .int .i64 x1056.Next, .int .i64 x1056.Born]) (by kernel_rfl) (by kernel_rfl) (by kernel_rfl) s_loop41053 ?_
       intro b1137 h1138 s1139
       refine Op.append (x := (.tmp 42)) (y := (.tmp 48)) (t := 52) (t' := 52) (dst := 49) (E := 59) (by_ := 72) (d := kLeaf) (by kernel_rfl) (by kernel_rfl) (by kernel_rfl) (by kernel_rfl) rfl R1053 s1139 1 rfl (Src.lit (m := 1) (sz := 6) (s1139.chunk 0 rfl) (news := [.string (mkS x1056.Path), .slice a1135 x1056.Data.length n1136, .int .i64 x1056.Version, .int .i64 x1056.Owner, .int .i64 x1056.Next, .int .i64 x1056.Born]) rfl rfl (by simp [Value.oneCell']) _) (ys := [x1056]) (⟨_, _, rfl, ⟨_, hv1134, rfl⟩, Reads.nil⟩) rfl (by (have := withI_len hw h0 h3; simp only [List.length_append, List.length_cons, List.length_nil]; omega)) (fun _ _ _ => trivial) ?_
       intro v1140 ch1141 h1142 R1143 s1144 nn1145
       obtain ⟨a1146, n1147, rfl⟩ := R1143.form
       have s1148 := (s1144.front 0 rfl).drop
       refine Op.pures 1 [2, 3, 4, 5, 6, 7] (L' := []) (e' := [(2, .pointer (some ⟨b1038, 0, none⟩)), (3, .pointer (some ⟨b1041, 0, none⟩)), (4, .pointer (some ⟨b1044, 0, none⟩)), (5, .slice a1146 ((out ++ ([x1056])).length) n1147), (6, .bool put), (7, .int .i64 i)]) (by kernel_rfl) ?_
       refine Op.goto 13 (by kernel_rfl) ?_
       refine At.reg (L := [(0, false), (1, false), (2, false)]) (by kernel_rfl) ?_
       refine Op.pures 1 [2, 3, 4, 5, 6, 7, 14] (L' := [(1, false), (2, false)]) (e' := [(2, .pointer (some ⟨b1038, 0, none⟩)), (3, .pointer (some ⟨b1041, 0, none⟩)), (4, .pointer (some ⟨b1044, 0, none⟩)), (5, .slice a1146 ((out ++ ([x1056])).length) n1147), (6, .bool put), (7, .int .i64 i), (14, .int .i64 i)]) (by kernel_rfl) ?_
       refine Op.val (dst := some 15) (v := .int .i64 (IntKind.wrap .i64 (i + 1))) (v' := .int .i64 (i + 1)) (by kernel_rfl) (wrapEq_i64 (by omega) (by omega)) ?_
       refine Op.pures 1 [2, 3, 4, 5, 6, 7] (L' := []) (e' := [(2, .pointer (some ⟨b1038, 0, none⟩)), (3, .pointer (some ⟨b1041, 0, none⟩)), (4, .pointer (some ⟨b1044, 0, none⟩)), (5, .slice a1146 ((out ++ ([x1056])).length) n1147), (6, .bool put), (7, .int .i64 (i + 1))]) (by kernel_rfl) ?_
       refine Op.goto 4 (by kernel_rfl) ?_
       exact ih4  (out ++ ([x1056])) put (i + 1) _ _ _ _ (by omega) (by omega) (by omega) (by exact withI_f hw h0 hx1057 (by assumption) (by assumption) (by assumption)) R1143 s1148
     ·refine Op.cast (e' := [(2, .pointer (some ⟨b1038, 0, none⟩)), (3, .pointer (some ⟨b1041, 0, none⟩)), (4, .pointer (some ⟨b1044, 0, none⟩)), (5, .slice a1050 out.length n1051), (6, .bool put), (7, .int .i64 i), (27, .bool false)]) (by rw [hb]) ?_
      have c1149 : put = true := (notF hb)
      clear hb
      refine Op.pures 10 [2, 3, 4, 5, 6, 7, 37] (L' := []) (e' := [(2, .pointer (some ⟨b1038, 0, none⟩)), (3, .pointer (some ⟨b1041, 0, none⟩)), (4, .pointer (some ⟨b1044, 0, none⟩)), (5, .slice a1050 out.length n1051), (6, .bool put), (7, .int .i64 i), (37, .bool false)]) (by kernel_rfl) ?_
      refine Op.goto 9 (by kernel_rfl) ?_
      refine At.condF (c := .tmp 37) (by kernel_rfl) (by kernel_rfl) (by kernel_rfl) 12 (by kernel_rfl) ?_
      refine At.reg (L := [(0, false), (1, false), (2, false), (3, false), (4, false), (5, false), (6, false), (7, false), (8, false)]) (by kernel_rfl) ?_
      refine Op.pures 2 [2, 3, 4, 5, 6, 7, 42, 43] (L' := [(2, false), (3, false), (4, false), (5, false), (6, false), (7, false), (8, false)]) (e' := [(2, .pointer (some ⟨b1038, 0, none⟩)), (3, .pointer (some ⟨b1041, 0, none⟩)), (4, .pointer (some ⟨b1044, 0, none⟩)), (5, .slice a1050 out.length n1051), (6, .bool put), (7, .int .i64 i), (42, .slice a1050 out.length n1051), (43, .pointer (some ⟨b1038, 0, none⟩))]) (by kernel_rfl) ?_
      refine Op.load (T := 52) (x := (.tmp 43)) (o := 0) (d := 44) (n := 1) (v := .slice (some ⟨b1058, o1059, none⟩) t.All.length n_t_0) (by kernel_rfl) (by kernel_rfl) (by kernel_rfl) (s_loop41053.chunk 3 rfl) (by kernel_rfl) ?_
      refine Op.pures 1 [2, 3, 4, 5, 6, 7, 42, 44, 45] (L' := [(4, false), (5, false), (6, false), (7, false), (8, false)]) (e' := [(2, .pointer (some ⟨b1038, 0, none⟩)), (3, .pointer (some ⟨b1041, 0, none⟩)), (4, .pointer (some ⟨b1044, 0, none⟩)), (5, .slice a1050 out.length n1051), (6, .bool put), (7, .int .i64 i), (42, .slice a1050 out.length n1051), (44, .slice (some ⟨b1058, o1059, none⟩) t.All.length n_t_0), (45, .int .i64 i)]) (by kernel_rfl) ?_
      obtain ⟨b1152, o1153, cu1154, fz1155, ha1156, hb1157, hk1158⟩ := SlR.at_ h_t_0 _ hx1057
      cases ha1156
      refine Op.idx (T := 52) (E := 59) (sz := 6) (by_ := 72) (n := t.All.length) (c := n_t_0) (k := .i64) (x := (.tmp 44)) (ix := (.tmp 45)) (dst := 46) (bk := b1058) (o := o1059) (m := i) (by kernel_rfl) (by kernel_rfl) (by kernel_rfl) (by kernel_rfl) (by omega) (by omega) ?_
      obtain ⟨v1159, hv1160, hk1158⟩ := hk1158
      obtain ⟨a1161, n1162, rfl⟩ := hv1160.form
      refine Op.loadA (T := 59) (x := (.tmp 46)) (o := o1059 + (i : Int).toNat * 6) (d := 47) (n := 6) (vs := [.string (mkS x1056.Path), .slice a1161 x1056.Data.length n1162, .int .i64 x1056.Version, .int .i64 x1056.Owner, .int .i64 x1056.Next, .int .i64 x1056.Born]) (by kernel_rfl) (by kernel_rfl) (by kernel_rfl) (s_loop41053.sub _ _ hb1157) (hk1158) rfl ?_
      refine Op.lit (T := 52) (len := 1) (parts := #[(0, (.tmp 47))]) (dst := 48) (E := 59) (ps := [(0, .agg #[.string (mkS x1056.Path), .slice a1161 x1056.Data.length n1162, .int .i64 x1056.Version, .int .i64 x1056.Owner, .int .i64 x1056.Next, .int .i64 x1056.Born])]) (cs := #[.string (mkS x1056.Path), .slice a1161 x1056.Data.length n1162, .int .i64 x1056.Version, .int .i64 x1056.Owner, .int .i64 x1056.Next, .int .i64 x1056.Born]) (by kernel_rfl) (by kernel_rfl) (by kernel_rfl) s_loop41053 ?_
      intro b1163 h1164 s1165
      refine Op.append (x := (.tmp 42)) (y := (.tmp 48)) (t := 52) (t' := 52) (dst := 49) (E := 59) (by_ := 72) (d := kLeaf) (by kernel_rfl) (by kernel_rfl) (by kernel_rfl) (by kernel_rfl) rfl R1053 s1165 1 rfl (Src.lit (m := 1) (sz := 6) (s1165.chunk 0 rfl) (news := [.string (mkS x1056.Path), .slice a1161 x1056.Data.length n1162, .int .i64 x1056.Version, .int .i64 x1056.Owner, .int .i64 x1056.Next, .int .i64 x1056.Born]) rfl rfl (by simp [Value.oneCell']) _) (ys := [x1056]) (⟨_, _, rfl, ⟨_, hv1160, rfl⟩, Reads.nil⟩) rfl (by (have := withI_len hw h0 h3; simp only [List.length_append, List.length_cons, List.length_nil]; omega)) (fun _ _ _ => trivial) ?_
      intro v1166 ch1167 h1168 R1169 s1170 nn1171
      obtain ⟨a1172, n1173, rfl⟩ := R1169.form
      have s1174 := (s1170.front 0 rfl).drop
      refine Op.pures 1 [2, 3, 4, 5, 6, 7] (L' := []) (e' := [(2, .pointer (some ⟨b1038, 0, none⟩)), (3, .pointer (some ⟨b1041, 0, none⟩)), (4, .pointer (some ⟨b1044, 0, none⟩)), (5, .slice a1172 ((out ++ ([x1056])).length) n1173), (6, .bool put), (7, .int .i64 i)]) (by kernel_rfl) ?_
      refine Op.goto 13 (by kernel_rfl) ?_
      refine At.reg (L := [(0, false), (1, false), (2, false)]) (by kernel_rfl) ?_
      refine Op.pures 1 [2, 3, 4, 5, 6, 7, 14] (L' := [(1, false), (2, false)]) (e' := [(2, .pointer (some ⟨b1038, 0, none⟩)), (3, .pointer (some ⟨b1041, 0, none⟩)), (4, .pointer (some ⟨b1044, 0, none⟩)), (5, .slice a1172 ((out ++ ([x1056])).length) n1173), (6, .bool put), (7, .int .i64 i), (14, .int .i64 i)]) (by kernel_rfl) ?_
      refine Op.val (dst := some 15) (v := .int .i64 (IntKind.wrap .i64 (i + 1))) (v' := .int .i64 (i + 1)) (by kernel_rfl) (wrapEq_i64 (by omega) (by omega)) ?_
      refine Op.pures 1 [2, 3, 4, 5, 6, 7] (L' := []) (e' := [(2, .pointer (some ⟨b1038, 0, none⟩)), (3, .pointer (some ⟨b1041, 0, none⟩)), (4, .pointer (some ⟨b1044, 0, none⟩)), (5, .slice a1172 ((out ++ ([x1056])).length) n1173), (6, .bool put), (7, .int .i64 (i + 1))]) (by kernel_rfl) ?_
      refine Op.goto 4 (by kernel_rfl) ?_
      exact ih4  (out ++ ([x1056])) put (i + 1) _ _ _ _ (by omega) (by omega) (by omega) (by exact withI_t hw h0 hx1057 (by assumption) (by assumption)) R1169 s1174
   ·have c1175 : ¬ (i < (t.All.length : Int)) := of_decide_eq_false hb
    clear hb
    refine At.keep [2, 3, 4, 5, 6] ?_; show At _ _ _ [(2, .pointer (some ⟨b1038, 0, none⟩)), (3, .pointer (some ⟨b1041, 0, none⟩)), (4, .pointer (some ⟨b1044, 0, none⟩)), (5, .slice a1050 out.length n1051), (6, .bool put)] _
    refine At.reg (L := [(0, false), (1, false)]) (by kernel_rfl) ?_
    refine Op.pures 2 [2, 3, 4, 5, 51] (L' := []) (e' := [(2, .pointer (some ⟨b1038, 0, none⟩)), (3, .pointer (some ⟨b1041, 0, none⟩)), (4, .pointer (some ⟨b1044, 0, none⟩)), (5, .slice a1050 out.length n1051), (51, .bool (!put))]) (by kernel_rfl) ?_
    refine Op.goto 15 (by kernel_rfl) ?_
    refine At.cond (b := !put) (c := .tmp 51) (by kernel_rfl) (by kernel_rfl) (by kernel_rfl) 16 17 (by kernel_rfl) (by kernel_rfl) (fun hb => ?_) (fun hb => ?_)
    ·have c1176 : put = false := (notT hb)
     clear hb
     refine At.keep [2, 3, 4, 5] ?_; show At _ _ _ [(2, .pointer (some ⟨b1038, 0, none⟩)), (3, .pointer (some ⟨b1041, 0, none⟩)), (4, .pointer (some ⟨b1044, 0, none⟩)), (5, .slice a1050 out.length n1051)] _
     refine At.reg (L := [(0, false), (1, false), (2, false), (3, false), (4, false)]) (by kernel_rfl) ?_
     refine Op.pures 1 [2, 3, 4, 5, 52] (L' := [(1, false), (2, false), (3, false), (4, false)]) (e' := [(2, .pointer (some ⟨b1038, 0, none⟩)), (3, .pointer (some ⟨b1041, 0, none⟩)), (4, .pointer (some ⟨b1044, 0, none⟩)), (5, .slice a1050 out.length n1051), (52, .slice a1050 out.length n1051)]) (by kernel_rfl) ?_
     refine Op.loadA (T := 59) (x := (.tmp 3)) (o := 0) (d := 53) (n := 6) (vs := [.string (mkS l.Path), .slice a_l_1 l.Data.length n_l_1, .int .i64 l.Version, .int .i64 l.Owner, .int .i64 l.Next, .int .i64 l.Born]) (by kernel_rfl) (by kernel_rfl) (by kernel_rfl) (s_loop41053.chunk 2 rfl) (by kernel_rfl) rfl ?_
     refine Op.lit (T := 52) (len := 1) (parts := #[(0, (.tmp 53))]) (dst := 54) (E := 59) (ps := [(0, .agg #[.string (mkS l.Path), .slice a_l_1 l.Data.length n_l_1, .int .i64 l.Version, .int .i64 l.Owner, .int .i64 l.Next, .int .i64 l.Born])]) (cs := #[.string (mkS l.Path), .slice a_l_1 l.Data.length n_l_1, .int .i64 l.Version, .int .i64 l.Owner, .int .i64 l.Next, .int .i64 l.Born]) (by kernel_rfl) (by kernel_rfl) (by kernel_rfl) s_loop41053 ?_
     intro b1177 h1178 s1179
     refine Op.append (x := (.tmp 52)) (y := (.tmp 54)) (t := 52) (t' := 52) (dst := 55) (E := 59) (by_ := 72) (d := kLeaf) (by kernel_rfl) (by kernel_rfl) (by kernel_rfl) (by kernel_rfl) rfl R1053 s1179 1 rfl (Src.lit (m := 1) (sz := 6) (s1179.chunk 0 rfl) (news := [.string (mkS l.Path), .slice a_l_1 l.Data.length n_l_1, .int .i64 l.Version, .int .i64 l.Owner, .int .i64 l.Next, .int .i64 l.Born]) rfl rfl (by simp [Value.oneCell']) _) (ys := [l]) (⟨_, _, rfl, ⟨_, h_l_1, rfl⟩, Reads.nil⟩) rfl (by (have := withI_len hw h0 h3; simp only [List.length_append, List.length_cons, List.length_nil]; omega)) (fun _ _ _ => trivial) ?_
     intro v1180 ch1181 h1182 R1183 s1184 nn1185
     obtain ⟨a1186, n1187, rfl⟩ := R1183.form
     have s1188 := (s1184.front 0 rfl).drop
     refine Op.pures 1 [2, 4, 5] (L' := []) (e' := [(2, .pointer (some ⟨b1038, 0, none⟩)), (4, .pointer (some ⟨b1044, 0, none⟩)), (5, .slice a1186 ((out ++ ([l])).length) n1187)]) (by kernel_rfl) ?_
     refine Op.goto 17 (by kernel_rfl) ?_
     refine At.reg (L := [(0, false), (1, false), (2, false)]) (by kernel_rfl) ?_
     refine Op.pures 2 [2, 4, 56, 57] (L' := [(2, false)]) (e' := [(2, .pointer (some ⟨b1038, 0, none⟩)), (4, .pointer (some ⟨b1044, 0, none⟩)), (56, .slice a1186 ((out ++ ([l])).length) n1187), (57, .pointer (some ⟨b1038, 0, none⟩))]) (by kernel_rfl) ?_
     refine Op.store (T := 52) (x := (.tmp 57)) (y := (.tmp 56)) (b := b1038) (o := 0) (vs := [.slice a1186 ((out ++ ([l])).length) n1187]) (a? := false) (n := 1) (by kernel_rfl) (by kernel_rfl) (by kernel_rfl) (by kernel_rfl) rfl (by simp [Value.oneCell']) s1188 3 rfl (Nat.le_of_ble_eq_true (by kernel_rfl)) (cs := #[.slice a_t_0 t.All.length n_t_0]) (cs' := #[.slice a1186 ((out ++ ([l])).length) n1187]) (by kernel_rfl) (fun _ => trivial) ?_
     intro h1189 s1190
     refine Op.goto 18 (by kernel_rfl) ?_
     refine At.reg (L := [(0, false), (1, false)]) (by kernel_rfl) ?_
     refine Op.loadA (T := 75) (x := (.tmp 2)) (o := 0) (d := 58) (n := 1) (vs := [.slice a1186 ((out ++ ([l])).length) n1187]) (by kernel_rfl) (by kernel_rfl) (by kernel_rfl) (s1190.chunk 3 rfl) (by kernel_rfl) rfl ?_
     refine Op.store (T := 75) (x := (.tmp 4)) (y := (.tmp 58)) (b := b1044) (o := 0) (vs := [.slice a1186 ((out ++ ([l])).length) n1187]) (a? := true) (n := 1) (by kernel_rfl) (by kernel_rfl) (by kernel_rfl) (by kernel_rfl) rfl (by simp [Value.oneCell']) s1190 1 rfl (Nat.le_of_ble_eq_true (by kernel_rfl)) (cs := #[.slice none 0 0]) (cs' := #[.slice a1186 ((out ++ ([l])).length) n1187]) (by kernel_rfl) (fun _ => trivial) ?_
     intro h1191 s1192
     refine Op.goto 19 (by kernel_rfl) ?_
     obtain ⟨g1193, s1194, hle1195, hf1196⟩ := Row.freeze R1183 (s1192.front 0 rfl)
     replace hG := hG.mono hle1195
     replace h_l_1 := h_l_1.mono hle1195
     refine At.retM (f := Tryz.f88) (vs := [.agg #[.slice a1186 ((out ++ ([l])).length) n1187]]) (rl := [.cell 4 75]) (v := .agg #[.slice a1186 ((out ++ ([l])).length) n1187]) (by kernel_rfl) (by kernel_rfl) ⟨⟨_, _, rfl, resAgg (n := 1) (by kernel_rfl) (s1194.chunk 0 rfl) (by kernel_rfl) rfl⟩, trivial⟩ rfl ?_
     have s1197 : St h g (ids []) g1193 [] h1191 := (s1194).drop.drop.drop
     refine hR _ _ _ _ s1197 ⟨(.slice a1186 ((out ++ ([l])).length) n1187), ?_, ?_, rfl⟩
     ·exact rfl
     ·exact slEq hf1196 (by exact withI_end0 hw c1175 (by assumption))
    ·have c1198 : put = true := (notF hb)
     clear hb
     refine At.keep [2, 4, 5] ?_; show At _ _ _ [(2, .pointer (some ⟨b1038, 0, none⟩)), (4, .pointer (some ⟨b1044, 0, none⟩)), (5, .slice a1050 out.length n1051)] _
     refine At.reg (L := [(0, false), (1, false), (2, false)]) (by kernel_rfl) ?_
     refine Op.pures 2 [2, 4, 56, 57] (L' := [(2, false)]) (e' := [(2, .pointer (some ⟨b1038, 0, none⟩)), (4, .pointer (some ⟨b1044, 0, none⟩)), (56, .slice a1050 out.length n1051), (57, .pointer (some ⟨b1038, 0, none⟩))]) (by kernel_rfl) ?_
     refine Op.store (T := 52) (x := (.tmp 57)) (y := (.tmp 56)) (b := b1038) (o := 0) (vs := [.slice a1050 out.length n1051]) (a? := false) (n := 1) (by kernel_rfl) (by kernel_rfl) (by kernel_rfl) (by kernel_rfl) rfl (by simp [Value.oneCell']) s_loop41053 3 rfl (Nat.le_of_ble_eq_true (by kernel_rfl)) (cs := #[.slice a_t_0 t.All.length n_t_0]) (cs' := #[.slice a1050 out.length n1051]) (by kernel_rfl) (fun _ => trivial) ?_
     intro h1199 s1200
     refine Op.goto 18 (by kernel_rfl) ?_
     refine At.reg (L := [(0, false), (1, false)]) (by kernel_rfl) ?_
     refine Op.loadA (T := 75) (x := (.tmp 2)) (o := 0) (d := 58) (n := 1) (vs := [.slice a1050 out.length n1051]) (by kernel_rfl) (by kernel_rfl) (by kernel_rfl) (s1200.chunk 3 rfl) (by kernel_rfl) rfl ?_
     refine Op.store (T := 75) (x := (.tmp 4)) (y := (.tmp 58)) (b := b1044) (o := 0) (vs := [.slice a1050 out.length n1051]) (a? := true) (n := 1) (by kernel_rfl) (by kernel_rfl) (by kernel_rfl) (by kernel_rfl) rfl (by simp [Value.oneCell']) s1200 1 rfl (Nat.le_of_ble_eq_true (by kernel_rfl)) (cs := #[.slice none 0 0]) (cs' := #[.slice a1050 out.length n1051]) (by kernel_rfl) (fun _ => trivial) ?_
     intro h1201 s1202
     refine Op.goto 19 (by kernel_rfl) ?_
     obtain ⟨g1203, s1204, hle1205, hf1206⟩ := Row.freeze R1053 (s1202.front 0 rfl)
     replace hG := hG.mono hle1205
     replace h_l_1 := h_l_1.mono hle1205
     refine At.retM (f := Tryz.f88) (vs := [.agg #[.slice a1050 out.length n1051]]) (rl := [.cell 4 75]) (v := .agg #[.slice a1050 out.length n1051]) (by kernel_rfl) (by kernel_rfl) ⟨⟨_, _, rfl, resAgg (n := 1) (by kernel_rfl) (s1204.chunk 0 rfl) (by kernel_rfl) rfl⟩, trivial⟩ rfl ?_
     have s1207 : St h g (ids []) g1203 [] h1201 := (s1204).drop.drop.drop
     refine hR _ _ _ _ s1207 ⟨(.slice a1050 out.length n1051), ?_, ?_, rfl⟩
     ·exact rfl
     ·exact slEq hf1206 (by exact withI_end1 hw c1175 (by assumption))
 have R1208 : Row 59 kLeaf g (.slice (some ⟨b1047, 0, none⟩) 0 0) ([] : List Leaf) [(b1047, Obj.cells #[] 59 (0, 0))] := Row.lit (by kernel_rfl) (by unfold maxLen; decide) (by kernel_rfl) Reads.nil
 exact loop4 _  ([] : List Leaf) false 0 _ _ _ _ (Nat.lt_succ_self _) (by omega) (by omega) (by exact withI_0 _ _) R1208 s1049
theorem kidsR (B : World) (h : Heap) (g : GH) (hg : Sub g h) (hG : Glob g) (t : R10Tree) (v_t_0 : Value) (h_t_0 : SlR g 59 kLeaf v_t_0 t.All) (p : List UInt8) (h1 : t.All.length ≤ 1000000) (hp : ∀ n ∈ t.All, n.Path.length ≤ 1000000000) :
  Spec Tryz.prog B 89 #[.agg #[v_t_0], .string (mkS p)] h g [] (fun rv g' L' => ∃ v0 k0, rv = v0 ∧ Row 9 kStr g' v0 (kidsL t.All p) k0 ∧ g' = g ∧ L' = [k0]) := by
 obtain ⟨a_t_0, n_t_0, rfl⟩ := h_t_0.form
 refine Spec.of_at (f := Tryz.f89) (e := [(0, .agg #[.slice a_t_0 t.All.length n_t_0]), (1, .string (mkS p))]) Tryz.func89 (by kernel_rfl) (Nat.le_of_ble_eq_true (by kernel_rfl)) (by kernel_rfl) (by kernel_rfl) ?_
 intro R hR
 have s0 := St.init hg
 refine At.reg (L := [(0, false), (1, false)]) (by kernel_rfl) ?_
 refine Op.box (T := 75) (x := (.tmp 0)) (d := 2) (cs := #[.slice a_t_0 t.All.length n_t_0]) (by kernel_rfl) (by kernel_rfl) s0 ?_
 intro b1209 h1210 s1211
 refine Op.pures 1 [1, 2] (L' := []) (e' := [(1, .string (mkS p)), (2, .pointer (some ⟨b1209, 0, none⟩))]) (by kernel_rfl) ?_
 refine Op.goto 1 (by kernel_rfl) ?_
 refine At.reg (L := [(0, false), (1, false)]) (by kernel_rfl) ?_
 refine Op.lit (T := 54) (len := 0) (parts := #[]) (dst := 9) (E := 9) (ps := []) (cs := #[]) (by kernel_rfl) (by kernel_rfl) (by kernel_rfl) s1211 ?_
 intro b1212 h1213 s1214
 refine Op.pures 1 [1, 2, 5] (L' := []) (e' := [(1, .string (mkS p)), (2, .pointer (some ⟨b1209, 0, none⟩)), (5, .slice (some ⟨b1212, 0, none⟩) 0 0)]) (by kernel_rfl) ?_
 refine Op.goto 2 (by kernel_rfl) ?_
 refine At.reg (L := [(0, false)]) (by kernel_rfl) ?_
 refine Op.pures 1 [1, 2, 5, 6] (L' := []) (e' := [(1, .string (mkS p)), (2, .pointer (some ⟨b1209, 0, none⟩)), (5, .slice (some ⟨b1212, 0, none⟩) 0 0), (6, .int .i64 0)]) (by kernel_rfl) ?_
 refine Op.goto 3 (by kernel_rfl) ?_
 have loop3 : ∀ (m : Nat) (out : List Str) (i : Int) (a1215 : Option Addr) (n1216 : Nat) (ch1217 : Chunk) (h1219 : Heap) (hm : t.All.length - i.toNat < m) (h0 : 0 ≤ i) (h3 : i ≤ t.All.length) (ho : out = kidsL (t.All.take i.toNat) p) (R1218 : Row 9 kStr g (.slice a1215 out.length n1216) out ch1217)    (s_loop31218 : St h g (ids []) g [ch1217, [(b1209, Obj.cells #[.slice a_t_0 t.All.length n_t_0] 75 (0, 0))]] h1219), At (fctx Tryz.prog B 89 Tryz.f89 R) [] 3 [(1, .string (mkS p)), (2, .pointer (some ⟨b1209, 0, none⟩)), (5, .slice a1215 out.length n1216), (6, .int .i64 i)] h1219 := by
  intro m; induction m with
  | zero => intros; omega
  | succ m ih3 =>
   intro out i a1215 n1216 ch1217 h1219 hm h0 h3 ho R1218 s_loop31218
   refine At.reg (L := [(0, false), (1, false), (2, false), (3, false), (4, false)]) (by kernel_rfl) ?_
   refine Op.pures 2 [1, 2, 5, 6, 10, 11] (L' := [(2, false), (3, false), (4, false)]) (e' := [(1, .string (mkS p)), (2, .pointer (some ⟨b1209, 0, none⟩)), (5, .slice a1215 out.length n1216), (6, .int .i64 i), (10, .int .i64 i), (11, .pointer (some ⟨b1209, 0, none⟩))]) (by kernel_rfl) ?_
   refine Op.load (T := 52) (x := (.tmp 11)) (o := 0) (d := 12) (n := 1) (v := .slice a_t_0 t.All.length n_t_0) (by kernel_rfl) (by kernel_rfl) (by kernel_rfl) (s_loop31218.chunk 1 rfl) (by kernel_rfl) ?_
   refine Op.pures 2 [1, 2, 5, 6, 14] (L' := []) (e' := [(1, .string (mkS p)), (2, .pointer (some ⟨b1209, 0, none⟩)), (5, .slice a1215 out.length n1216), (6, .int .i64 i), (14, .bool (decide (i < (t.All.length : Int))))]) (by kernel_rfl) ?_
   refine Op.goto 4 (by kernel_rfl) ?_
   refine At.cond (b := decide (i < (t.All.length : Int))) (c := .tmp 14) (by kernel_rfl) (by kernel_rfl) (by kernel_rfl) 5 10 (by kernel_rfl) (by kernel_rfl) (fun hb => ?_) (fun hb => ?_)
   ·have c1220 : i < (t.All.length : Int) := of_decide_eq_true hb
    clear hb
    refine At.keep [1, 2, 5, 6] ?_; show At _ _ _ [(1, .string (mkS p)), (2, .pointer (some ⟨b1209, 0, none⟩)), (5, .slice a1215 out.length n1216), (6, .int .i64 i)] _
    refine At.reg (L := [(0, false), (1, false), (2, false), (3, false), (4, false), (5, false), (6, false), (7, false), (8, false), (9, false), (10, false), (11, false)]) (by kernel_rfl) ?_
    refine Op.pures 1 [1, 2, 5, 6, 18] (L' := [(1, false), (2, false), (3, false), (4, false), (5, false), (6, false), (7, false), (8, false), (9, false), (10, false), (11, false)]) (e' := [(1, .string (mkS p)), (2, .pointer (some ⟨b1209, 0, none⟩)), (5, .slice a1215 out.length n1216), (6, .int .i64 i), (18, .pointer (some ⟨b1209, 0, none⟩))]) (by kernel_rfl) ?_
    refine Op.load (T := 52) (x := (.tmp 18)) (o := 0) (d := 19) (n := 1) (v := .slice a_t_0 t.All.length n_t_0) (by kernel_rfl) (by kernel_rfl) (by kernel_rfl) (s_loop31218.chunk 1 rfl) (by kernel_rfl) ?_
    refine Op.pures 1 [1, 2, 5, 6, 19, 20] (L' := [(3, false), (4, false), (5, false), (6, false), (7, false), (8, false), (9, false), (10, false), (11, false)]) (e' := [(1, .string (mkS p)), (2, .pointer (some ⟨b1209, 0, none⟩)), (5, .slice a1215 out.length n1216), (6, .int .i64 i), (19, .slice a_t_0 t.All.length n_t_0), (20, .int .i64 i)]) (by kernel_rfl) ?_
    obtain ⟨x1221, hx1222⟩ : ∃ c, t.All[(i : Int).toNat]? = some c := ⟨_, List.getElem?_eq_getElem (by omega)⟩
    obtain ⟨b1223, o1224, cu1225, fz1226, ha1227, hb1228, hk1229⟩ := SlR.at_ h_t_0 _ hx1222
    cases ha1227
    refine Op.idx (T := 52) (E := 59) (sz := 6) (by_ := 72) (n := t.All.length) (c := n_t_0) (k := .i64) (x := (.tmp 19)) (ix := (.tmp 20)) (dst := 21) (bk := b1223) (o := o1224) (m := i) (by kernel_rfl) (by kernel_rfl) (by kernel_rfl) (by kernel_rfl) (by omega) (by omega) ?_
    obtain ⟨v1230, hv1231, hk1229⟩ := hk1229
    obtain ⟨a1232, n1233, rfl⟩ := hv1231.form
    refine Op.pures 1 [1, 2, 5, 6, 22] (L' := [(5, false), (6, false), (7, false), (8, false), (9, false), (10, false), (11, false)]) (e' := [(1, .string (mkS p)), (2, .pointer (some ⟨b1209, 0, none⟩)), (5, .slice a1215 out.length n1216), (6, .int .i64 i), (22, .pointer (some ⟨b1223, o1224 + (i : Int).toNat * 6, none⟩))]) (by kernel_rfl) ?_
    refine Op.load (T := 9) (x := (.tmp 22)) (o := o1224 + (i : Int).toNat * 6) (d := 23) (n := 1) (v := .string (mkS x1221.Path)) (by kernel_rfl) (by kernel_rfl) (by kernel_rfl) (s_loop31218.sub _ _ hb1228) (cut_get hk1229 0 rfl) ?_
    refine Op.call0 (dst := some 24) (f := 85) (args := #[.string (mkS x1221.Path)]) (by kernel_rfl) s_loop31218 (parentR _ _ _ s_loop31218.sub hG x1221.Path (by ((try dsimp only) <;> (exact hp _ (List.mem_of_getElem? hx1222)))) ) ?_
    rintro _ g1236 _ h1234 hle1237 s1235 ⟨rfl, hgg, rfl⟩; subst g1236; clear hle1237
    refine Op.pures 5 [1, 2, 5, 6, 7, 8] (L' := []) (e' := [(1, .string (mkS p)), (2, .pointer (some ⟨b1209, 0, none⟩)), (5, .slice a1215 out.length n1216), (6, .int .i64 i), (7, .string (mkS (parentOf x1221.Path))), (8, .int .i64 (cutErr x1221.Path))]) (by kernel_rfl) ?_
    refine Op.goto 6 (by kernel_rfl) ?_
    refine At.reg (L := [(0, false), (1, false), (2, false), (3, false), (4, false), (5, false), (6, false)]) (by kernel_rfl) ?_
    refine Op.pures 3 [1, 2, 5, 6, 7, 29] (L' := [(3, false), (4, false), (5, false), (6, false)]) (e' := [(1, .string (mkS p)), (2, .pointer (some ⟨b1209, 0, none⟩)), (5, .slice a1215 out.length n1216), (6, .int .i64 i), (7, .string (mkS (parentOf x1221.Path))), (29, .bool ((cutErr x1221.Path) == (0 : Int)))]) (by kernel_rfl) ?_
    refine Op.ways (b := (cutErr x1221.Path) == (0 : Int)) ⟨fun hb => ?_, fun hb => ?_⟩
    ·refine Op.cast (e' := [(1, .string (mkS p)), (2, .pointer (some ⟨b1209, 0, none⟩)), (5, .slice a1215 out.length n1216), (6, .int .i64 i), (7, .string (mkS (parentOf x1221.Path))), (29, .bool true)]) (by rw [hb]) ?_
     have c1238 : (cutErr x1221.Path) = (0 : Int) := eq_of_beq hb
     clear hb
     refine Op.pures 2 [1, 2, 5, 6, 29, 30, 31] (L' := [(5, false), (6, false)]) (e' := [(1, .string (mkS p)), (2, .pointer (some ⟨b1209, 0, none⟩)), (5, .slice a1215 out.length n1216), (6, .int .i64 i), (29, .bool true), (30, .string (mkS (parentOf x1221.Path))), (31, .string (mkS p))]) (by kernel_rfl) ?_
     refine Op.val (dst := some 32) (v := .bool ((mkS (parentOf x1221.Path)).toList == (mkS p).toList)) (v' := .bool ((parentOf x1221.Path) == p)) (by kernel_rfl) (by rw [toList_mkS, toList_mkS]) ?_
     refine Op.pures 1 [1, 2, 5, 6, 33] (L' := []) (e' := [(1, .string (mkS p)), (2, .pointer (some ⟨b1209, 0, none⟩)), (5, .slice a1215 out.length n1216), (6, .int .i64 i), (33, .bool ((parentOf x1221.Path) == p))]) (by kernel_rfl) ?_
     refine Op.goto 7 (by kernel_rfl) ?_
     refine At.cond (b := (parentOf x1221.Path) == p) (c := .tmp 33) (by kernel_rfl) (by kernel_rfl) (by kernel_rfl) 8 9 (by kernel_rfl) (by kernel_rfl) (fun hb => ?_) (fun hb => ?_)
     ·have c1239 : (parentOf x1221.Path) = p := eq_of_beq hb
      clear hb
      refine At.keep [1, 2, 5, 6] ?_; show At _ _ _ [(1, .string (mkS p)), (2, .pointer (some ⟨b1209, 0, none⟩)), (5, .slice a1215 out.length n1216), (6, .int .i64 i)] _
      refine At.reg (L := [(0, false), (1, false), (2, false), (3, false), (4, false), (5, false), (6, false), (7, false), (8, false), (9, false)]) (by kernel_rfl) ?_
      refine Op.pures 2 [1, 2, 5, 6, 34, 35] (L' := [(2, false), (3, false), (4, false), (5, false), (6, false), (7, false), (8, false), (9, false)]) (e' := [(1, .string (mkS p)), (2, .pointer (some ⟨b1209, 0, none⟩)), (5, .slice a1215 out.length n1216), (6, .int .i64 i), (34, .slice a1215 out.length n1216), (35, .pointer (some ⟨b1209, 0, none⟩))]) (by kernel_rfl) ?_
      refine Op.load (T := 52) (x := (.tmp 35)) (o := 0) (d := 36) (n := 1) (v := .slice (some ⟨b1223, o1224, none⟩) t.All.length n_t_0) (by kernel_rfl) (by kernel_rfl) (by kernel_rfl) (s1235.chunk 1 rfl) (by kernel_rfl) ?_
      refine Op.pures 1 [1, 2, 5, 6, 34, 36, 37] (L' := [(4, false), (5, false), (6, false), (7, false), (8, false), (9, false)]) (e' := [(1, .string (mkS p)), (2, .pointer (some ⟨b1209, 0, none⟩)), (5, .slice a1215 out.length n1216), (6, .int .i64 i), (34, .slice a1215 out.length n1216), (36, .slice (some ⟨b1223, o1224, none⟩) t.All.length n_t_0), (37, .int .i64 i)]) (by kernel_rfl) ?_
      obtain ⟨b1242, o1243, cu1244, fz1245, ha1246, hb1247, hk1248⟩ := SlR.at_ h_t_0 _ hx1222
      cases ha1246
      refine Op.idx (T := 52) (E := 59) (sz := 6) (by_ := 72) (n := t.All.length) (c := n_t_0) (k := .i64) (x := (.tmp 36)) (ix := (.tmp 37)) (dst := 38) (bk := b1223) (o := o1224) (m := i) (by kernel_rfl) (by kernel_rfl) (by kernel_rfl) (by kernel_rfl) (by omega) (by omega) ?_
      obtain ⟨v1249, hv1250, hk1248⟩ := hk1248
      obtain ⟨a1251, n1252, rfl⟩ := hv1250.form
      refine Op.pures 1 [1, 2, 5, 6, 34, 39] (L' := [(6, false), (7, false), (8, false), (9, false)]) (e' := [(1, .string (mkS p)), (2, .pointer (some ⟨b1209, 0, none⟩)), (5, .slice a1215 out.length n1216), (6, .int .i64 i), (34, .slice a1215 out.length n1216), (39, .pointer (some ⟨b1223, o1224 + (i : Int).toNat * 6, none⟩))]) (by kernel_rfl) ?_
      refine Op.load (T := 9) (x := (.tmp 39)) (o := o1224 + (i : Int).toNat * 6) (d := 40) (n := 1) (v := .string (mkS x1221.Path)) (by kernel_rfl) (by kernel_rfl) (by kernel_rfl) (s1235.sub _ _ hb1247) (cut_get hk1248 0 rfl) ?_
      refine Op.lit (T := 54) (len := 1) (parts := #[(0, (.tmp 40))]) (dst := 41) (E := 9) (ps := [(0, .string (mkS x1221.Path))]) (cs := #[.string (mkS x1221.Path)]) (by kernel_rfl) (by kernel_rfl) (by kernel_rfl) s1235 ?_
      intro b1253 h1254 s1255
      refine Op.append (x := (.tmp 34)) (y := (.tmp 41)) (t := 54) (t' := 54) (dst := 42) (E := 9) (by_ := 16) (d := kStr) (by kernel_rfl) (by kernel_rfl) (by kernel_rfl) (by kernel_rfl) rfl R1218 s1255 1 rfl (Src.lit (m := 1) (sz := 1) (s1255.chunk 0 rfl) (news := [.string (mkS x1221.Path)]) rfl rfl (by simp [Value.oneCell']) _) (ys := [x1221.Path]) (⟨_, _, rfl, rfl, Reads.nil⟩) rfl (by (have := kids_len2 ho; simp only [List.length_cons, List.length_nil]; omega)) (fun _ _ _ => trivial) ?_
      intro v1256 ch1257 h1258 R1259 s1260 nn1261
      obtain ⟨a1262, n1263, rfl⟩ := R1259.form
      have s1264 := (s1260.front 0 rfl).drop
      refine Op.pures 1 [1, 2, 5, 6] (L' := []) (e' := [(1, .string (mkS p)), (2, .pointer (some ⟨b1209, 0, none⟩)), (5, .slice a1262 ((out ++ ([x1221.Path])).length) n1263), (6, .int .i64 i)]) (by kernel_rfl) ?_
      refine Op.goto 9 (by kernel_rfl) ?_
      refine At.reg (L := [(0, false), (1, false), (2, false)]) (by kernel_rfl) ?_
      refine Op.pures 1 [1, 2, 5, 6, 15] (L' := [(1, false), (2, false)]) (e' := [(1, .string (mkS p)), (2, .pointer (some ⟨b1209, 0, none⟩)), (5, .slice a1262 ((out ++ ([x1221.Path])).length) n1263), (6, .int .i64 i), (15, .int .i64 i)]) (by kernel_rfl) ?_
      refine Op.val (dst := some 16) (v := .int .i64 (IntKind.wrap .i64 (i + 1))) (v' := .int .i64 (i + 1)) (by kernel_rfl) (wrapEq_i64 (by omega) (by omega)) ?_
      refine Op.pures 1 [1, 2, 5, 6] (L' := []) (e' := [(1, .string (mkS p)), (2, .pointer (some ⟨b1209, 0, none⟩)), (5, .slice a1262 ((out ++ ([x1221.Path])).length) n1263), (6, .int .i64 (i + 1))]) (by kernel_rfl) ?_
      refine Op.goto 3 (by kernel_rfl) ?_
      exact ih3  (out ++ ([x1221.Path])) (i + 1) _ _ _ _ (by omega) (by omega) (by omega) (by exact kidI_in ho h0 hx1222 (by assumption) (by assumption)) R1259 s1264
     ·have c1265 : ¬ ((parentOf x1221.Path) = p) := neF hb
      clear hb
      refine At.keep [1, 2, 5, 6] ?_; show At _ _ _ [(1, .string (mkS p)), (2, .pointer (some ⟨b1209, 0, none⟩)), (5, .slice a1215 out.length n1216), (6, .int .i64 i)] _
      refine At.reg (L := [(0, false), (1, false), (2, false)]) (by kernel_rfl) ?_
      refine Op.pures 1 [1, 2, 5, 6, 15] (L' := [(1, false), (2, false)]) (e' := [(1, .string (mkS p)), (2, .pointer (some ⟨b1209, 0, none⟩)), (5, .slice a1215 out.length n1216), (6, .int .i64 i), (15, .int .i64 i)]) (by kernel_rfl) ?_
      refine Op.val (dst := some 16) (v := .int .i64 (IntKind.wrap .i64 (i + 1))) (v' := .int .i64 (i + 1)) (by kernel_rfl) (wrapEq_i64 (by omega) (by omega)) ?_
      refine Op.pures 1 [1, 2, 5, 6] (L' := []) (e' := [(1, .string (mkS p)), (2, .pointer (some ⟨b1209, 0, none⟩)), (5, .slice a1215 out.length n1216), (6, .int .i64 (i + 1))]) (by kernel_rfl) ?_
      refine Op.goto 3 (by kernel_rfl) ?_
      exact ih3  out (i + 1) _ _ _ _ (by omega) (by omega) (by omega) (by exact kidI_out2 ho h0 hx1222 (by assumption)) R1218 s1235
    ·refine Op.cast (e' := [(1, .string (mkS p)), (2, .pointer (some ⟨b1209, 0, none⟩)), (5, .slice a1215 out.length n1216), (6, .int .i64 i), (7, .string (mkS (parentOf x1221.Path))), (29, .bool false)]) (by rw [hb]) ?_
     have c1266 : ¬ ((cutErr x1221.Path) = (0 : Int)) := neF hb
     clear hb
     refine Op.pures 4 [1, 2, 5, 6, 33] (L' := []) (e' := [(1, .string (mkS p)), (2, .pointer (some ⟨b1209, 0, none⟩)), (5, .slice a1215 out.length n1216), (6, .int .i64 i), (33, .bool false)]) (by kernel_rfl) ?_
     refine Op.goto 7 (by kernel_rfl) ?_
     refine At.condF (c := .tmp 33) (by kernel_rfl) (by kernel_rfl) (by kernel_rfl) 9 (by kernel_rfl) ?_
     refine At.reg (L := [(0, false), (1, false), (2, false)]) (by kernel_rfl) ?_
     refine Op.pures 1 [1, 2, 5, 6, 15] (L' := [(1, false), (2, false)]) (e' := [(1, .string (mkS p)), (2, .pointer (some ⟨b1209, 0, none⟩)), (5, .slice a1215 out.length n1216), (6, .int .i64 i), (15, .int .i64 i)]) (by kernel_rfl) ?_
     refine Op.val (dst := some 16) (v := .int .i64 (IntKind.wrap .i64 (i + 1))) (v' := .int .i64 (i + 1)) (by kernel_rfl) (wrapEq_i64 (by omega) (by omega)) ?_
     refine Op.pures 1 [1, 2, 5, 6] (L' := []) (e' := [(1, .string (mkS p)), (2, .pointer (some ⟨b1209, 0, none⟩)), (5, .slice a1215 out.length n1216), (6, .int .i64 (i + 1))]) (by kernel_rfl) ?_
     refine Op.goto 3 (by kernel_rfl) ?_
     exact ih3  out (i + 1) _ _ _ _ (by omega) (by omega) (by omega) (by exact kidI_out1 ho h0 hx1222 (by assumption)) R1218 s1235
   ·have c1267 : ¬ (i < (t.All.length : Int)) := of_decide_eq_false hb
    clear hb
    refine At.keep [5] ?_; show At _ _ _ [(5, .slice a1215 out.length n1216)] _
    refine At.reg (L := [(0, false), (1, false)]) (by kernel_rfl) ?_
    refine Op.pures 2 [4] (L' := []) (e' := [(4, .slice a1215 out.length n1216)]) (by kernel_rfl) ?_
    refine Op.goto 11 (by kernel_rfl) ?_
    refine At.ret (f := Tryz.f89) (v := .slice a1215 out.length n1216) (by kernel_rfl) (by kernel_rfl) ?_
    have s1268 : St h g (ids []) g [[(b1209, Obj.cells #[.slice a_t_0 t.All.length n_t_0] 75 (0, 0))], ch1217] h1219 := ((s_loop31218.front 0 rfl).front 1 rfl)
    have s1269 : St h g (ids []) g [ch1217] h1219 := (s1268).drop
    refine hR _ _ _ _ s1269 ⟨(.slice a1215 out.length n1216), ch1217, ?_, ?_, rfl, rfl⟩
    ·exact rfl
    ·exact rowEq R1218 (by exact kidI_end ho c1267)
 have R1270 : Row 9 kStr g (.slice (some ⟨b1212, 0, none⟩) 0 0) ([] : List (List UInt8)) [(b1212, Obj.cells #[] 9 (0, 0))] := Row.lit (by kernel_rfl) (by unfold maxLen; decide) (by kernel_rfl) Reads.nil
 exact loop3 _  ([] : List (List UInt8)) 0 _ _ _ _ (Nat.lt_succ_self _) (by omega) (by omega) (by rfl) R1270 s1214
theorem makeR (B : World) (h : Heap) (g : GH) (hg : Sub g h) (hG : Glob g) (t : R10Tree) (v_t_0 : Value) (h_t_0 : SlR g 59 kLeaf v_t_0 t.All) (p : List UInt8) (v_data : Value) (data : List UInt8) (h_data : SlR g 5 kU8 v_data data) (owner : Int) (born : Int) (num : Bool) (hB : TreeB t.All) (hp : p.length ≤ 100000000) (hd : data.length ≤ 1000000000) :
  Spec Tryz.prog B 44 #[.agg #[v_t_0], .string (mkS p), v_data, .int .i64 owner, .int .i64 born, .bool num] h g [] (fun rv g' L' => ∃ v0, rv = .tuple #[.agg #[v0], .string (mkS ((makeT t.All p data owner born num).2.1)), .int .i64 ((makeT t.All p data owner born num).2.2)] ∧ SlR g' 59 kLeaf v0 ((⟨(makeT t.All p data owner born num).1⟩ : R10Tree).All) ∧ L' = []) := by
 obtain ⟨a_t_0, n_t_0, rfl⟩ := h_t_0.form
 obtain ⟨a_data, n_data, rfl⟩ := h_data.form
 refine Spec.of_at (f := Tryz.f44) (e := [(0, .agg #[.slice a_t_0 t.All.length n_t_0]), (1, .string (mkS p)), (2, .slice a_data data.length n_data), (3, .int .i64 owner), (4, .int .i64 born), (5, .bool num)]) Tryz.func44 (by kernel_rfl) (Nat.le_of_ble_eq_true (by kernel_rfl)) (by kernel_rfl) (by kernel_rfl) ?_
 intro R hR
 have s0 := St.init hg
 refine At.reg (L := [(0, false), (1, false), (2, false), (3, false)]) (by kernel_rfl) ?_
 refine Op.box (T := 75) (x := (.tmp 0)) (d := 6) (cs := #[.slice a_t_0 t.All.length n_t_0]) (by kernel_rfl) (by kernel_rfl) s0 ?_
 intro b1271 h1272 s1273
 refine Op.alloc (T := 75) (dst := 12) (cs := #[.slice none 0 0]) (by kernel_rfl) (by kernel_rfl) s1273 ?_
 intro b1274 h1275 s1276
 refine Op.pures 2 [1, 2, 3, 4, 5, 6, 12] (L' := []) (e' := [(1, .string (mkS p)), (2, .slice a_data data.length n_data), (3, .int .i64 owner), (4, .int .i64 born), (5, .bool num), (6, .pointer (some ⟨b1271, 0, none⟩)), (12, .pointer (some ⟨b1274, 0, none⟩))]) (by kernel_rfl) ?_
 refine Op.goto 1 (by kernel_rfl) ?_
 refine At.reg (L := [(0, false), (1, false), (2, false), (3, false), (4, false), (5, false), (6, false)]) (by kernel_rfl) ?_
 refine Op.pures 1 [1, 2, 3, 4, 5, 6, 12, 20] (L' := [(1, false), (2, false), (3, false), (4, false), (5, false), (6, false)]) (e' := [(1, .string (mkS p)), (2, .slice a_data data.length n_data), (3, .int .i64 owner), (4, .int .i64 born), (5, .bool num), (6, .pointer (some ⟨b1271, 0, none⟩)), (12, .pointer (some ⟨b1274, 0, none⟩)), (20, .string (mkS p))]) (by kernel_rfl) ?_
 refine Op.call0 (dst := some 21) (f := 85) (args := #[.string (mkS p)]) (by kernel_rfl) s1276 (parentR _ _ _ s1276.sub hG p (by ((try dsimp only) <;> (omega))) ) ?_
 rintro _ g1279 _ h1277 hle1280 s1278 ⟨rfl, hgg, rfl⟩; subst g1279; clear hle1280
 refine Op.pures 5 [1, 2, 3, 4, 5, 6, 12, 15, 16] (L' := []) (e' := [(1, .string (mkS p)), (2, .slice a_data data.length n_data), (3, .int .i64 owner), (4, .int .i64 born), (5, .bool num), (6, .pointer (some ⟨b1271, 0, none⟩)), (12, .pointer (some ⟨b1274, 0, none⟩)), (15, .string (mkS (parentOf p))), (16, .int .i64 (cutErr p))]) (by kernel_rfl) ?_
 refine Op.goto 2 (by kernel_rfl) ?_
 refine At.reg (L := [(0, false), (1, false)]) (by kernel_rfl) ?_
 refine Op.pures 2 [1, 2, 3, 4, 5, 6, 12, 15, 16, 25] (L' := []) (e' := [(1, .string (mkS p)), (2, .slice a_data data.length n_data), (3, .int .i64 owner), (4, .int .i64 born), (5, .bool num), (6, .pointer (some ⟨b1271, 0, none⟩)), (12, .pointer (some ⟨b1274, 0, none⟩)), (15, .string (mkS (parentOf p))), (16, .int .i64 (cutErr p)), (25, .bool ((cutErr p) != (0 : Int)))]) (by kernel_rfl) ?_
 refine Op.goto 3 (by kernel_rfl) ?_
 refine At.cond (b := (cutErr p) != (0 : Int)) (c := .tmp 25) (by kernel_rfl) (by kernel_rfl) (by kernel_rfl) 4 6 (by kernel_rfl) (by kernel_rfl) (fun hb => ?_) (fun hb => ?_)
 ·have c1281 : ¬ ((cutErr p) = (0 : Int)) := bneT hb
  clear hb
  refine At.keep [6, 12, 16] ?_; show At _ _ _ [(6, .pointer (some ⟨b1271, 0, none⟩)), (12, .pointer (some ⟨b1274, 0, none⟩)), (16, .int .i64 (cutErr p))] _
  refine At.reg (L := [(0, false), (1, false), (2, false), (3, false), (4, false)]) (by kernel_rfl) ?_
  refine Op.loadA (T := 75) (x := (.tmp 6)) (o := 0) (d := 26) (n := 1) (vs := [.slice a_t_0 t.All.length n_t_0]) (by kernel_rfl) (by kernel_rfl) (by kernel_rfl) (s1278.chunk 1 rfl) (by kernel_rfl) rfl ?_
  refine Op.pures 1 [12, 26, 27] (L' := [(2, false), (3, false), (4, false)]) (e' := [(12, .pointer (some ⟨b1274, 0, none⟩)), (26, .agg #[.slice a_t_0 t.All.length n_t_0]), (27, .int .i64 (cutErr p))]) (by kernel_rfl) ?_
  refine Op.store (T := 75) (x := (.tmp 12)) (y := (.tmp 26)) (b := b1274) (o := 0) (vs := [.slice a_t_0 t.All.length n_t_0]) (a? := true) (n := 1) (by kernel_rfl) (by kernel_rfl) (by kernel_rfl) (by kernel_rfl) rfl (by simp [Value.oneCell']) s1278 0 rfl (Nat.le_of_ble_eq_true (by kernel_rfl)) (cs := #[.slice none 0 0]) (cs' := #[.slice a_t_0 t.All.length n_t_0]) (by kernel_rfl) (fun _ => trivial) ?_
  intro h1282 s1283
  refine Op.pures 2 [12, 13, 14] (L' := []) (e' := [(12, .pointer (some ⟨b1274, 0, none⟩)), (13, .string (mkS [])), (14, .int .i64 (cutErr p))]) (by kernel_rfl) ?_
  refine Op.goto 5 (by kernel_rfl) ?_
  refine At.retM (f := Tryz.f44) (vs := [.agg #[.slice a_t_0 t.All.length n_t_0], .string (mkS []), .int .i64 (cutErr p)]) (rl := [.cell 12 75, .tmp 13, .tmp 14]) (v := .tuple #[.agg #[.slice a_t_0 t.All.length n_t_0], .string (mkS []), .int .i64 (cutErr p)]) (by kernel_rfl) (by kernel_rfl) ⟨⟨_, _, rfl, resAgg (n := 1) (by kernel_rfl) (s1283.chunk 0 rfl) (by kernel_rfl) rfl⟩, rfl, rfl, trivial⟩ rfl ?_
  have s1284 : St h g (ids []) g [] h1282 := (s1283).drop.drop
  refine hR _ _ _ _ s1284 ⟨(.slice a_t_0 t.All.length n_t_0), ?_, ?_, rfl⟩
  ·exact eqT3 rfl (eqS (by (rw [rm_1 (by assumption)]; done))) (eqI (by (rw [rm_1 (by assumption)]; done)))
  ·exact slEq h_t_0 (by (rw [rm_1 (by assumption)]; done))
 ·have c1285 : (cutErr p) = (0 : Int) := bneF hb
  clear hb
  refine At.keep [1, 2, 3, 4, 5, 6, 12, 15] ?_; show At _ _ _ [(1, .string (mkS p)), (2, .slice a_data data.length n_data), (3, .int .i64 owner), (4, .int .i64 born), (5, .bool num), (6, .pointer (some ⟨b1271, 0, none⟩)), (12, .pointer (some ⟨b1274, 0, none⟩)), (15, .string (mkS (parentOf p)))] _
  refine At.reg (L := [(0, false), (1, false), (2, false)]) (by kernel_rfl) ?_
  refine Op.pures 3 [1, 2, 3, 4, 5, 6, 12, 15, 30] (L' := []) (e' := [(1, .string (mkS p)), (2, .slice a_data data.length n_data), (3, .int .i64 owner), (4, .int .i64 born), (5, .bool num), (6, .pointer (some ⟨b1271, 0, none⟩)), (12, .pointer (some ⟨b1274, 0, none⟩)), (15, .string (mkS (parentOf p))), (30, .bool (decide ((data.length : Int) > (128 : Int))))]) (by kernel_rfl) ?_
  refine Op.goto 7 (by kernel_rfl) ?_
  refine At.cond (b := decide ((data.length : Int) > (128 : Int))) (c := .tmp 30) (by kernel_rfl) (by kernel_rfl) (by kernel_rfl) 8 10 (by kernel_rfl) (by kernel_rfl) (fun hb => ?_) (fun hb => ?_)
  ·have c1286 : (data.length : Int) > (128 : Int) := of_decide_eq_true hb
   clear hb
   refine At.keep [6, 12] ?_; show At _ _ _ [(6, .pointer (some ⟨b1271, 0, none⟩)), (12, .pointer (some ⟨b1274, 0, none⟩))] _
   refine At.reg (L := [(0, false), (1, false), (2, false), (3, false)]) (by kernel_rfl) ?_
   refine Op.loadA (T := 75) (x := (.tmp 6)) (o := 0) (d := 31) (n := 1) (vs := [.slice a_t_0 t.All.length n_t_0]) (by kernel_rfl) (by kernel_rfl) (by kernel_rfl) (s1278.chunk 1 rfl) (by kernel_rfl) rfl ?_
   refine Op.store (T := 75) (x := (.tmp 12)) (y := (.tmp 31)) (b := b1274) (o := 0) (vs := [.slice a_t_0 t.All.length n_t_0]) (a? := true) (n := 1) (by kernel_rfl) (by kernel_rfl) (by kernel_rfl) (by kernel_rfl) rfl (by simp [Value.oneCell']) s1278 0 rfl (Nat.le_of_ble_eq_true (by kernel_rfl)) (cs := #[.slice none 0 0]) (cs' := #[.slice a_t_0 t.All.length n_t_0]) (by kernel_rfl) (fun _ => trivial) ?_
   intro h1287 s1288
   refine Op.pures 2 [12, 13, 14] (L' := []) (e' := [(12, .pointer (some ⟨b1274, 0, none⟩)), (13, .string (mkS [])), (14, .int .i64 104)]) (by kernel_rfl) ?_
   refine Op.goto 9 (by kernel_rfl) ?_
   refine At.retM (f := Tryz.f44) (vs := [.agg #[.slice a_t_0 t.All.length n_t_0], .string (mkS []), .int .i64 104]) (rl := [.cell 12 75, .tmp 13, .tmp 14]) (v := .tuple #[.agg #[.slice a_t_0 t.All.length n_t_0], .string (mkS []), .int .i64 104]) (by kernel_rfl) (by kernel_rfl) ⟨⟨_, _, rfl, resAgg (n := 1) (by kernel_rfl) (s1288.chunk 0 rfl) (by kernel_rfl) rfl⟩, rfl, rfl, trivial⟩ rfl ?_
   have s1289 : St h g (ids []) g [] h1287 := (s1288).drop.drop
   refine hR _ _ _ _ s1289 ⟨(.slice a_t_0 t.All.length n_t_0), ?_, ?_, rfl⟩
   ·exact eqT3 rfl (eqS (by (rw [rm_2 (by assumption) (by assumption)]; done))) (eqI (by (rw [rm_2 (by assumption) (by assumption)]; done)))
   ·exact slEq h_t_0 (by (rw [rm_2 (by assumption) (by assumption)]; done))
  ·have c1290 : ¬ ((data.length : Int) > (128 : Int)) := of_decide_eq_false hb
   clear hb
   refine At.keep [1, 2, 3, 4, 5, 6, 12, 15] ?_; show At _ _ _ [(1, .string (mkS p)), (2, .slice a_data data.length n_data), (3, .int .i64 owner), (4, .int .i64 born), (5, .bool num), (6, .pointer (some ⟨b1271, 0, none⟩)), (12, .pointer (some ⟨b1274, 0, none⟩)), (15, .string (mkS (parentOf p)))] _
   refine At.reg (L := [(0, false), (1, false), (2, false), (3, false)]) (by kernel_rfl) ?_
   refine Op.loadA (T := 75) (x := (.tmp 6)) (o := 0) (d := 32) (n := 1) (vs := [.slice a_t_0 t.All.length n_t_0]) (by kernel_rfl) (by kernel_rfl) (by kernel_rfl) (s1278.chunk 1 rfl) (by kernel_rfl) rfl ?_
   refine Op.pures 1 [1, 2, 3, 4, 5, 6, 12, 32, 33] (L' := [(2, false), (3, false)]) (e' := [(1, .string (mkS p)), (2, .slice a_data data.length n_data), (3, .int .i64 owner), (4, .int .i64 born), (5, .bool num), (6, .pointer (some ⟨b1271, 0, none⟩)), (12, .pointer (some ⟨b1274, 0, none⟩)), (32, .agg #[.slice a_t_0 t.All.length n_t_0]), (33, .string (mkS (parentOf p)))]) (by kernel_rfl) ?_
   refine Op.call0 (dst := some 34) (f := 86) (args := #[.agg #[.slice a_t_0 t.All.length n_t_0], .string (mkS (parentOf p))]) (by kernel_rfl) s1278 (atR _ _ _ s1278.sub hG t _ h_t_0 (parentOf p) (by ((try dsimp only) <;> ((have := atP_lt (ns := t.All) (p := parentOf p); have := atP_ge t.All (parentOf p); have := hB.1; omega)))) ) ?_
   rintro _ g1293 _ h1291 hle1294 s1292 ⟨rfl, hgg, rfl⟩; subst g1293; clear hle1294
   refine Op.pures 1 [1, 2, 3, 4, 5, 6, 12, 17] (L' := []) (e' := [(1, .string (mkS p)), (2, .slice a_data data.length n_data), (3, .int .i64 owner), (4, .int .i64 born), (5, .bool num), (6, .pointer (some ⟨b1271, 0, none⟩)), (12, .pointer (some ⟨b1274, 0, none⟩)), (17, .int .i64 (atP t.All (parentOf p)))]) (by kernel_rfl) ?_
   refine Op.goto 11 (by kernel_rfl) ?_
   refine At.reg (L := [(0, false), (1, false)]) (by kernel_rfl) ?_
   refine Op.pures 2 [1, 2, 3, 4, 5, 6, 12, 17, 36] (L' := []) (e' := [(1, .string (mkS p)), (2, .slice a_data data.length n_data), (3, .int .i64 owner), (4, .int .i64 born), (5, .bool num), (6, .pointer (some ⟨b1271, 0, none⟩)), (12, .pointer (some ⟨b1274, 0, none⟩)), (17, .int .i64 (atP t.All (parentOf p))), (36, .bool (decide ((atP t.All (parentOf p)) < (0 : Int))))]) (by kernel_rfl) ?_
   refine Op.goto 12 (by kernel_rfl) ?_
   refine At.cond (b := decide ((atP t.All (parentOf p)) < (0 : Int))) (c := .tmp 36) (by kernel_rfl) (by kernel_rfl) (by kernel_rfl) 13 15 (by kernel_rfl) (by kernel_rfl) (fun hb => ?_) (fun hb => ?_)
   ·have c1295 : (atP t.All (parentOf p)) < (0 : Int) := of_decide_eq_true hb
    clear hb
    refine At.keep [6, 12] ?_; show At _ _ _ [(6, .pointer (some ⟨b1271, 0, none⟩)), (12, .pointer (some ⟨b1274, 0, none⟩))] _
    refine At.reg (L := [(0, false), (1, false), (2, false), (3, false)]) (by kernel_rfl) ?_
    refine Op.loadA (T := 75) (x := (.tmp 6)) (o := 0) (d := 37) (n := 1) (vs := [.slice a_t_0 t.All.length n_t_0]) (by kernel_rfl) (by kernel_rfl) (by kernel_rfl) (s1292.chunk 1 rfl) (by kernel_rfl) rfl ?_
    refine Op.store (T := 75) (x := (.tmp 12)) (y := (.tmp 37)) (b := b1274) (o := 0) (vs := [.slice a_t_0 t.All.length n_t_0]) (a? := true) (n := 1) (by kernel_rfl) (by kernel_rfl) (by kernel_rfl) (by kernel_rfl) rfl (by simp [Value.oneCell']) s1292 0 rfl (Nat.le_of_ble_eq_true (by kernel_rfl)) (cs := #[.slice none 0 0]) (cs' := #[.slice a_t_0 t.All.length n_t_0]) (by kernel_rfl) (fun _ => trivial) ?_
    intro h1296 s1297
    refine Op.pures 2 [12, 13, 14] (L' := []) (e' := [(12, .pointer (some ⟨b1274, 0, none⟩)), (13, .string (mkS [])), (14, .int .i64 100)]) (by kernel_rfl) ?_
    refine Op.goto 14 (by kernel_rfl) ?_
    refine At.retM (f := Tryz.f44) (vs := [.agg #[.slice a_t_0 t.All.length n_t_0], .string (mkS []), .int .i64 100]) (rl := [.cell 12 75, .tmp 13, .tmp 14]) (v := .tuple #[.agg #[.slice a_t_0 t.All.length n_t_0], .string (mkS []), .int .i64 100]) (by kernel_rfl) (by kernel_rfl) ⟨⟨_, _, rfl, resAgg (n := 1) (by kernel_rfl) (s1297.chunk 0 rfl) (by kernel_rfl) rfl⟩, rfl, rfl, trivial⟩ rfl ?_
    have s1298 : St h g (ids []) g [] h1296 := (s1297).drop.drop
    refine hR _ _ _ _ s1298 ⟨(.slice a_t_0 t.All.length n_t_0), ?_, ?_, rfl⟩
    ·exact eqT3 rfl (eqS (by (rw [rm_3 (by assumption) (by assumption) (by assumption)]; done))) (eqI (by (rw [rm_3 (by assumption) (by assumption) (by assumption)]; done)))
    ·exact slEq h_t_0 (by (rw [rm_3 (by assumption) (by assumption) (by assumption)]; done))
   ·have c1299 : ¬ ((atP t.All (parentOf p)) < (0 : Int)) := of_decide_eq_false hb
    clear hb
    refine At.keep [1, 2, 3, 4, 5, 6, 12, 17] ?_; show At _ _ _ [(1, .string (mkS p)), (2, .slice a_data data.length n_data), (3, .int .i64 owner), (4, .int .i64 born), (5, .bool num), (6, .pointer (some ⟨b1271, 0, none⟩)), (12, .pointer (some ⟨b1274, 0, none⟩)), (17, .int .i64 (atP t.All (parentOf p)))] _
    refine At.reg (L := [(0, false), (1, false), (2, false), (3, false), (4, false), (5, false), (6, false)]) (by kernel_rfl) ?_
    refine Op.pures 1 [1, 2, 3, 4, 5, 6, 12, 17, 38] (L' := [(1, false), (2, false), (3, false), (4, false), (5, false), (6, false)]) (e' := [(1, .string (mkS p)), (2, .slice a_data data.length n_data), (3, .int .i64 owner), (4, .int .i64 born), (5, .bool num), (6, .pointer (some ⟨b1271, 0, none⟩)), (12, .pointer (some ⟨b1274, 0, none⟩)), (17, .int .i64 (atP t.All (parentOf p))), (38, .pointer (some ⟨b1271, 0, none⟩))]) (by kernel_rfl) ?_
    refine Op.load (T := 52) (x := (.tmp 38)) (o := 0) (d := 39) (n := 1) (v := .slice a_t_0 t.All.length n_t_0) (by kernel_rfl) (by kernel_rfl) (by kernel_rfl) (s1292.chunk 1 rfl) (by kernel_rfl) ?_
    refine Op.pures 1 [1, 2, 3, 4, 5, 6, 12, 39, 40] (L' := [(3, false), (4, false), (5, false), (6, false)]) (e' := [(1, .string (mkS p)), (2, .slice a_data data.length n_data), (3, .int .i64 owner), (4, .int .i64 born), (5, .bool num), (6, .pointer (some ⟨b1271, 0, none⟩)), (12, .pointer (some ⟨b1274, 0, none⟩)), (39, .slice a_t_0 t.All.length n_t_0), (40, .int .i64 (atP t.All (parentOf p)))]) (by kernel_rfl) ?_
    obtain ⟨x1300, hx1301⟩ : ∃ c, t.All[(atP t.All (parentOf p) : Int).toNat]? = some c := ⟨_, List.getElem?_eq_getElem (by (have := atP_lt (ns := t.All) (p := parentOf p); have := atP_ge t.All (parentOf p); have := hB.1; omega))⟩
    obtain ⟨b1302, o1303, cu1304, fz1305, ha1306, hb1307, hk1308⟩ := SlR.at_ h_t_0 _ hx1301
    cases ha1306
    refine Op.idx (T := 52) (E := 59) (sz := 6) (by_ := 72) (n := t.All.length) (c := n_t_0) (k := .i64) (x := (.tmp 39)) (ix := (.tmp 40)) (dst := 41) (bk := b1302) (o := o1303) (m := atP t.All (parentOf p)) (by kernel_rfl) (by kernel_rfl) (by kernel_rfl) (by kernel_rfl) (by omega) (by (have := atP_lt (ns := t.All) (p := parentOf p); have := atP_ge t.All (parentOf p); have := hB.1; omega)) ?_
    obtain ⟨v1309, hv1310, hk1308⟩ := hk1308
    obtain ⟨a1311, n1312, rfl⟩ := hv1310.form
    refine Op.loadA (T := 59) (x := (.tmp 41)) (o := o1303 + (atP t.All (parentOf p) : Int).toNat * 6) (d := 42) (n := 6) (vs := [.string (mkS x1300.Path), .slice a1311 x1300.Data.length n1312, .int .i64 x1300.Version, .int .i64 x1300.Owner, .int .i64 x1300.Next, .int .i64 x1300.Born]) (by kernel_rfl) (by kernel_rfl) (by kernel_rfl) (s1292.sub _ _ hb1307) (hk1308) rfl ?_
    refine Op.alloc (T := 59) (dst := 18) (cs := #[.string (mkS []), .slice none 0 0, .int .i64 0, .int .i64 0, .int .i64 0, .int .i64 0]) (by kernel_rfl) (by kernel_rfl) s1292 ?_
    intro b1313 h1314 s1315
    refine Op.store (T := 59) (x := (.tmp 18)) (y := (.tmp 42)) (b := b1313) (o := 0) (vs := [.string (mkS x1300.Path), .slice a1311 x1300.Data.length n1312, .int .i64 x1300.Version, .int .i64 x1300.Owner, .int .i64 x1300.Next, .int .i64 x1300.Born]) (a? := true) (n := 6) (by kernel_rfl) (by kernel_rfl) (by kernel_rfl) (by kernel_rfl) rfl (by simp [Value.oneCell']) s1315 0 rfl (Nat.le_of_ble_eq_true (by kernel_rfl)) (cs := #[.string (mkS []), .slice none 0 0, .int .i64 0, .int .i64 0, .int .i64 0, .int .i64 0]) (cs' := #[.string (mkS x1300.Path), .slice a1311 x1300.Data.length n1312, .int .i64 x1300.Version, .int .i64 x1300.Owner, .int .i64 x1300.Next, .int .i64 x1300.Born]) (by kernel_rfl) (fun _ => trivial) ?_
    intro h1316 s1317
    refine Op.goto 16 (by kernel_rfl) ?_
    refine At.reg (L := [(0, false), (1, false), (2, false)]) (by kernel_rfl) ?_
    refine Op.pures 1 [1, 2, 3, 4, 5, 6, 12, 18, 43] (L' := [(1, false), (2, false)]) (e' := [(1, .string (mkS p)), (2, .slice a_data data.length n_data), (3, .int .i64 owner), (4, .int .i64 born), (5, .bool num), (6, .pointer (some ⟨b1271, 0, none⟩)), (12, .pointer (some ⟨b1274, 0, none⟩)), (18, .pointer (some ⟨b1313, 0, none⟩)), (43, .pointer (some ⟨b1313, 3, none⟩))]) (by kernel_rfl) ?_
    refine Op.load (T := 3) (x := (.tmp 43)) (o := 3) (d := 44) (n := 1) (v := .int .i64 x1300.Owner) (by kernel_rfl) (by kernel_rfl) (by kernel_rfl) (s1317.chunk 0 rfl) (by kernel_rfl) ?_
    refine Op.pures 1 [1, 2, 3, 4, 5, 6, 12, 18, 45] (L' := []) (e' := [(1, .string (mkS p)), (2, .slice a_data data.length n_data), (3, .int .i64 owner), (4, .int .i64 born), (5, .bool num), (6, .pointer (some ⟨b1271, 0, none⟩)), (12, .pointer (some ⟨b1274, 0, none⟩)), (18, .pointer (some ⟨b1313, 0, none⟩)), (45, .bool (x1300.Owner != ((-1) : Int)))]) (by kernel_rfl) ?_
    refine Op.goto 17 (by kernel_rfl) ?_
    refine At.cond (b := x1300.Owner != ((-1) : Int)) (c := .tmp 45) (by kernel_rfl) (by kernel_rfl) (by kernel_rfl) 18 20 (by kernel_rfl) (by kernel_rfl) (fun hb => ?_) (fun hb => ?_)
    ·have c1318 : ¬ (x1300.Owner = ((-1) : Int)) := bneT hb
     clear hb
     refine At.keep [6, 12] ?_; show At _ _ _ [(6, .pointer (some ⟨b1271, 0, none⟩)), (12, .pointer (some ⟨b1274, 0, none⟩))] _
     refine At.reg (L := [(0, false), (1, false), (2, false), (3, false)]) (by kernel_rfl) ?_
     refine Op.loadA (T := 75) (x := (.tmp 6)) (o := 0) (d := 46) (n := 1) (vs := [.slice (some ⟨b1302, o1303, none⟩) t.All.length n_t_0]) (by kernel_rfl) (by kernel_rfl) (by kernel_rfl) (s1317.chunk 2 rfl) (by kernel_rfl) rfl ?_
     refine Op.store (T := 75) (x := (.tmp 12)) (y := (.tmp 46)) (b := b1274) (o := 0) (vs := [.slice (some ⟨b1302, o1303, none⟩) t.All.length n_t_0]) (a? := true) (n := 1) (by kernel_rfl) (by kernel_rfl) (by kernel_rfl) (by kernel_rfl) rfl (by simp [Value.oneCell']) s1317 1 rfl (Nat.le_of_ble_eq_true (by kernel_rfl)) (cs := #[.slice none 0 0]) (cs' := #[.slice (some ⟨b1302, o1303, none⟩) t.All.length n_t_0]) (by kernel_rfl) (fun _ => trivial) ?_
     intro h1319 s1320
     refine Op.pures 2 [12, 13, 14] (L' := []) (e' := [(12, .pointer (some ⟨b1274, 0, none⟩)), (13, .string (mkS [])), (14, .int .i64 105)]) (by kernel_rfl) ?_
     refine Op.goto 19 (by kernel_rfl) ?_
     refine At.retM (f := Tryz.f44) (vs := [.agg #[.slice (some ⟨b1302, o1303, none⟩) t.All.length n_t_0], .string (mkS []), .int .i64 105]) (rl := [.cell 12 75, .tmp 13, .tmp 14]) (v := .tuple #[.agg #[.slice (some ⟨b1302, o1303, none⟩) t.All.length n_t_0], .string (mkS []), .int .i64 105]) (by kernel_rfl) (by kernel_rfl) ⟨⟨_, _, rfl, resAgg (n := 1) (by kernel_rfl) (s1320.chunk 1 rfl) (by kernel_rfl) rfl⟩, rfl, rfl, trivial⟩ rfl ?_
     have s1321 : St h g (ids []) g [] h1319 := (s1320).drop.drop.drop
     refine hR _ _ _ _ s1321 ⟨(.slice (some ⟨b1302, o1303, none⟩) t.All.length n_t_0), ?_, ?_, rfl⟩
     ·exact eqT3 rfl (eqS (by (rw [rm_4 (by assumption) (by assumption) (atP_some (by assumption) hx1301) (by assumption)]; done))) (eqI (by (rw [rm_4 (by assumption) (by assumption) (atP_some (by assumption) hx1301) (by assumption)]; done)))
     ·exact slEq h_t_0 (by (rw [rm_4 (by assumption) (by assumption) (atP_some (by assumption) hx1301) (by assumption)]; done))
    ·have c1322 : x1300.Owner = ((-1) : Int) := bneF hb
     clear hb
     refine At.keep [1, 2, 3, 4, 5, 6, 12, 18] ?_; show At _ _ _ [(1, .string (mkS p)), (2, .slice a_data data.length n_data), (3, .int .i64 owner), (4, .int .i64 born), (5, .bool num), (6, .pointer (some ⟨b1271, 0, none⟩)), (12, .pointer (some ⟨b1274, 0, none⟩)), (18, .pointer (some ⟨b1313, 0, none⟩))] _
     have join28 : ∀ (m : Nat) (q : List UInt8) (un : Int) (h1323 : Heap) (hm : 0 < m) (hEN : makeE x1300 p num = 0 ∧ makeN x1300 p num = q) (hun : un = if num = true then IntKind.wrap .i64 (x1300.Next + 1) else x1300.Next)     (s_join281322 : St h g (ids []) g [[(b1313, Obj.cells #[.string (mkS x1300.Path), .slice a1311 x1300.Data.length n1312, .int .i64 x1300.Version, .int .i64 x1300.Owner, .int .i64 un, .int .i64 x1300.Born] 59 (0, 0))], [(b1274, Obj.cells #[.slice none 0 0] 75 (0, 0))], [(b1271, Obj.cells #[.slice (some ⟨b1302, o1303, none⟩) t.All.length n_t_0] 75 (0, 0))]] h1323), At (fctx Tryz.prog B 44 Tryz.f44 R) [] 28 [(1, .string (mkS q)), (2, .slice a_data data.length n_data), (3, .int .i64 owner), (4, .int .i64 born), (6, .pointer (some ⟨b1271, 0, none⟩)), (12, .pointer (some ⟨b1274, 0, none⟩)), (18, .pointer (some ⟨b1313, 0, none⟩))] h1323 := by
      intro m; induction m with
      | zero => intros; omega
      | succ m ih28 =>
       intro q un h1323 hm hEN hun s_join281322
       refine At.reg (L := [(0, false), (1, false), (2, false), (3, false)]) (by kernel_rfl) ?_
       refine Op.loadA (T := 75) (x := (.tmp 6)) (o := 0) (d := 63) (n := 1) (vs := [.slice (some ⟨b1302, o1303, none⟩) t.All.length n_t_0]) (by kernel_rfl) (by kernel_rfl) (by kernel_rfl) (s_join281322.chunk 2 rfl) (by kernel_rfl) rfl ?_
       refine Op.pures 1 [1, 2, 3, 4, 6, 12, 18, 63, 64] (L' := [(2, false), (3, false)]) (e' := [(1, .string (mkS q)), (2, .slice a_data data.length n_data), (3, .int .i64 owner), (4, .int .i64 born), (6, .pointer (some ⟨b1271, 0, none⟩)), (12, .pointer (some ⟨b1274, 0, none⟩)), (18, .pointer (some ⟨b1313, 0, none⟩)), (63, .agg #[.slice (some ⟨b1302, o1303, none⟩) t.All.length n_t_0]), (64, .string (mkS q))]) (by kernel_rfl) ?_
       refine Op.call0 (dst := some 65) (f := 86) (args := #[.agg #[.slice (some ⟨b1302, o1303, none⟩) t.All.length n_t_0], .string (mkS q)]) (by kernel_rfl) s_join281322 (atR _ _ _ s_join281322.sub hG t _ h_t_0 q (by ((try dsimp only) <;> ((have := atP_lt (ns := t.All) (p := parentOf p); have := atP_ge t.All (parentOf p); have := hB.1; omega)))) ) ?_
       rintro _ g1326 _ h1324 hle1327 s1325 ⟨rfl, hgg, rfl⟩; subst g1326; clear hle1327
       refine Op.pures 1 [1, 2, 3, 4, 6, 12, 18, 66] (L' := []) (e' := [(1, .string (mkS q)), (2, .slice a_data data.length n_data), (3, .int .i64 owner), (4, .int .i64 born), (6, .pointer (some ⟨b1271, 0, none⟩)), (12, .pointer (some ⟨b1274, 0, none⟩)), (18, .pointer (some ⟨b1313, 0, none⟩)), (66, .bool (decide ((atP t.All q) ≥ (0 : Int))))]) (by kernel_rfl) ?_
       refine Op.goto 29 (by kernel_rfl) ?_
       refine At.cond (b := decide ((atP t.All q) ≥ (0 : Int))) (c := .tmp 66) (by kernel_rfl) (by kernel_rfl) (by kernel_rfl) 30 32 (by kernel_rfl) (by kernel_rfl) (fun hb => ?_) (fun hb => ?_)
       ·have c1328 : (atP t.All q) ≥ (0 : Int) := of_decide_eq_true hb
        clear hb
        refine At.keep [6, 12] ?_; show At _ _ _ [(6, .pointer (some ⟨b1271, 0, none⟩)), (12, .pointer (some ⟨b1274, 0, none⟩))] _
        refine At.reg (L := [(0, false), (1, false), (2, false), (3, false)]) (by kernel_rfl) ?_
        refine Op.loadA (T := 75) (x := (.tmp 6)) (o := 0) (d := 67) (n := 1) (vs := [.slice (some ⟨b1302, o1303, none⟩) t.All.length n_t_0]) (by kernel_rfl) (by kernel_rfl) (by kernel_rfl) (s1325.chunk 2 rfl) (by kernel_rfl) rfl ?_
        refine Op.store (T := 75) (x := (.tmp 12)) (y := (.tmp 67)) (b := b1274) (o := 0) (vs := [.slice (some ⟨b1302, o1303, none⟩) t.All.length n_t_0]) (a? := true) (n := 1) (by kernel_rfl) (by kernel_rfl) (by kernel_rfl) (by kernel_rfl) rfl (by simp [Value.oneCell']) s1325 1 rfl (Nat.le_of_ble_eq_true (by kernel_rfl)) (cs := #[.slice none 0 0]) (cs' := #[.slice (some ⟨b1302, o1303, none⟩) t.All.length n_t_0]) (by kernel_rfl) (fun _ => trivial) ?_
        intro h1329 s1330
        refine Op.pures 2 [12, 13, 14] (L' := []) (e' := [(12, .pointer (some ⟨b1274, 0, none⟩)), (13, .string (mkS [])), (14, .int .i64 101)]) (by kernel_rfl) ?_
        refine Op.goto 31 (by kernel_rfl) ?_
        refine At.retM (f := Tryz.f44) (vs := [.agg #[.slice (some ⟨b1302, o1303, none⟩) t.All.length n_t_0], .string (mkS []), .int .i64 101]) (rl := [.cell 12 75, .tmp 13, .tmp 14]) (v := .tuple #[.agg #[.slice (some ⟨b1302, o1303, none⟩) t.All.length n_t_0], .string (mkS []), .int .i64 101]) (by kernel_rfl) (by kernel_rfl) ⟨⟨_, _, rfl, resAgg (n := 1) (by kernel_rfl) (s1330.chunk 1 rfl) (by kernel_rfl) rfl⟩, rfl, rfl, trivial⟩ rfl ?_
        have s1331 : St h g (ids []) g [] h1329 := (s1330).drop.drop.drop
        refine hR _ _ _ _ s1331 ⟨(.slice (some ⟨b1302, o1303, none⟩) t.All.length n_t_0), ?_, ?_, rfl⟩
        ·exact eqT3 rfl (eqS (by (rw [rm_6 (by assumption) (by assumption) (atP_some (by assumption) hx1301) (by assumption) hEN (by assumption)]; done))) (eqI (by (rw [rm_6 (by assumption) (by assumption) (atP_some (by assumption) hx1301) (by assumption) hEN (by assumption)]; done)))
        ·exact slEq h_t_0 (by (rw [rm_6 (by assumption) (by assumption) (atP_some (by assumption) hx1301) (by assumption) hEN (by assumption)]; done))
       ·have c1332 : ¬ ((atP t.All q) ≥ (0 : Int)) := of_decide_eq_false hb
        clear hb
        refine At.keep [1, 2, 3, 4, 6, 12, 18] ?_; show At _ _ _ [(1, .string (mkS q)), (2, .slice a_data data.length n_data), (3, .int .i64 owner), (4, .int .i64 born), (6, .pointer (some ⟨b1271, 0, none⟩)), (12, .pointer (some ⟨b1274, 0, none⟩)), (18, .pointer (some ⟨b1313, 0, none⟩))] _
        refine At.reg (L := [(0, false), (1, false), (2, false), (3, false)]) (by kernel_rfl) ?_
        refine Op.pures 1 [1, 2, 3, 4, 6, 12, 18, 68] (L' := [(1, false), (2, false), (3, false)]) (e' := [(1, .string (mkS q)), (2, .slice a_data data.length n_data), (3, .int .i64 owner), (4, .int .i64 born), (6, .pointer (some ⟨b1271, 0, none⟩)), (12, .pointer (some ⟨b1274, 0, none⟩)), (18, .pointer (some ⟨b1313, 0, none⟩)), (68, .pointer (some ⟨b1271, 0, none⟩))]) (by kernel_rfl) ?_
        refine Op.load (T := 52) (x := (.tmp 68)) (o := 0) (d := 69) (n := 1) (v := .slice (some ⟨b1302, o1303, none⟩) t.All.length n_t_0) (by kernel_rfl) (by kernel_rfl) (by kernel_rfl) (s1325.chunk 2 rfl) (by kernel_rfl) ?_
        refine Op.pures 2 [1, 2, 3, 4, 6, 12, 18, 71] (L' := []) (e' := [(1, .string (mkS q)), (2, .slice a_data data.length n_data), (3, .int .i64 owner), (4, .int .i64 born), (6, .pointer (some ⟨b1271, 0, none⟩)), (12, .pointer (some ⟨b1274, 0, none⟩)), (18, .pointer (some ⟨b1313, 0, none⟩)), (71, .bool (decide ((t.All.length : Int) ≥ (32 : Int))))]) (by kernel_rfl) ?_
        refine Op.goto 33 (by kernel_rfl) ?_
        refine At.cond (b := decide ((t.All.length : Int) ≥ (32 : Int))) (c := .tmp 71) (by kernel_rfl) (by kernel_rfl) (by kernel_rfl) 34 36 (by kernel_rfl) (by kernel_rfl) (fun hb => ?_) (fun hb => ?_)
        ·have c1333 : (t.All.length : Int) ≥ (32 : Int) := of_decide_eq_true hb
         clear hb
         refine At.keep [6, 12] ?_; show At _ _ _ [(6, .pointer (some ⟨b1271, 0, none⟩)), (12, .pointer (some ⟨b1274, 0, none⟩))] _
         refine At.reg (L := [(0, false), (1, false), (2, false), (3, false)]) (by kernel_rfl) ?_
         refine Op.loadA (T := 75) (x := (.tmp 6)) (o := 0) (d := 72) (n := 1) (vs := [.slice (some ⟨b1302, o1303, none⟩) t.All.length n_t_0]) (by kernel_rfl) (by kernel_rfl) (by kernel_rfl) (s1325.chunk 2 rfl) (by kernel_rfl) rfl ?_
         refine Op.store (T := 75) (x := (.tmp 12)) (y := (.tmp 72)) (b := b1274) (o := 0) (vs := [.slice (some ⟨b1302, o1303, none⟩) t.All.length n_t_0]) (a? := true) (n := 1) (by kernel_rfl) (by kernel_rfl) (by kernel_rfl) (by kernel_rfl) rfl (by simp [Value.oneCell']) s1325 1 rfl (Nat.le_of_ble_eq_true (by kernel_rfl)) (cs := #[.slice none 0 0]) (cs' := #[.slice (some ⟨b1302, o1303, none⟩) t.All.length n_t_0]) (by kernel_rfl) (fun _ => trivial) ?_
         intro h1334 s1335
         refine Op.pures 2 [12, 13, 14] (L' := []) (e' := [(12, .pointer (some ⟨b1274, 0, none⟩)), (13, .string (mkS [])), (14, .int .i64 104)]) (by kernel_rfl) ?_
         refine Op.goto 35 (by kernel_rfl) ?_
         refine At.retM (f := Tryz.f44) (vs := [.agg #[.slice (some ⟨b1302, o1303, none⟩) t.All.length n_t_0], .string (mkS []), .int .i64 104]) (rl := [.cell 12 75, .tmp 13, .tmp 14]) (v := .tuple #[.agg #[.slice (some ⟨b1302, o1303, none⟩) t.All.length n_t_0], .string (mkS []), .int .i64 104]) (by kernel_rfl) (by kernel_rfl) ⟨⟨_, _, rfl, resAgg (n := 1) (by kernel_rfl) (s1335.chunk 1 rfl) (by kernel_rfl) rfl⟩, rfl, rfl, trivial⟩ rfl ?_
         have s1336 : St h g (ids []) g [] h1334 := (s1335).drop.drop.drop
         refine hR _ _ _ _ s1336 ⟨(.slice (some ⟨b1302, o1303, none⟩) t.All.length n_t_0), ?_, ?_, rfl⟩
         ·exact eqT3 rfl (eqS (by (rw [rm_7 (by assumption) (by assumption) (atP_some (by assumption) hx1301) (by assumption) hEN (by assumption) (by assumption)]; done))) (eqI (by (rw [rm_7 (by assumption) (by assumption) (atP_some (by assumption) hx1301) (by assumption) hEN (by assumption) (by assumption)]; done)))
         ·exact slEq h_t_0 (by (rw [rm_7 (by assumption) (by assumption) (atP_some (by assumption) hx1301) (by assumption) hEN (by assumption) (by assumption)]; done))
        ·have c1337 : ¬ ((t.All.length : Int) ≥ (32 : Int)) := of_decide_eq_false hb
         clear hb
         refine At.keep [1, 2, 3, 4, 6, 12, 18] ?_; show At _ _ _ [(1, .string (mkS q)), (2, .slice a_data data.length n_data), (3, .int .i64 owner), (4, .int .i64 born), (6, .pointer (some ⟨b1271, 0, none⟩)), (12, .pointer (some ⟨b1274, 0, none⟩)), (18, .pointer (some ⟨b1313, 0, none⟩))] _
         have join42 : ∀ (m : Nat) (ow2 : Int) (bo2 : Int) (h1338 : Heap) (hm : 0 < m) (how : ow2 = max owner (-1)) (hbo : bo2 = max born 0)     (s_join421337 : St h g (ids []) g [[(b1313, Obj.cells #[.string (mkS x1300.Path), .slice a1311 x1300.Data.length n1312, .int .i64 x1300.Version, .int .i64 x1300.Owner, .int .i64 un, .int .i64 x1300.Born] 59 (0, 0))], [(b1274, Obj.cells #[.slice none 0 0] 75 (0, 0))], [(b1271, Obj.cells #[.slice (some ⟨b1302, o1303, none⟩) t.All.length n_t_0] 75 (0, 0))]] h1338), At (fctx Tryz.prog B 44 Tryz.f44 R) [] 42 [(1, .string (mkS q)), (2, .slice a_data data.length n_data), (3, .int .i64 ow2), (4, .int .i64 bo2), (6, .pointer (some ⟨b1271, 0, none⟩)), (12, .pointer (some ⟨b1274, 0, none⟩)), (18, .pointer (some ⟨b1313, 0, none⟩))] h1338 := by
          intro m; induction m with
          | zero => intros; omega
          | succ m ih42 =>
           intro ow2 bo2 h1338 hm how hbo s_join421337
           refine At.reg (L := [(0, false), (1, false), (2, false), (3, false), (4, false), (5, false), (6, false), (7, false), (8, false), (9, false), (10, false), (11, false), (12, false), (13, false)]) (by kernel_rfl) ?_
           refine Op.loadA (T := 75) (x := (.tmp 6)) (o := 0) (d := 77) (n := 1) (vs := [.slice (some ⟨b1302, o1303, none⟩) t.All.length n_t_0]) (by kernel_rfl) (by kernel_rfl) (by kernel_rfl) (s_join421337.chunk 2 rfl) (by kernel_rfl) rfl ?_
           refine Op.loadA (T := 59) (x := (.tmp 18)) (o := 0) (d := 78) (n := 6) (vs := [.string (mkS x1300.Path), .slice a1311 x1300.Data.length n1312, .int .i64 x1300.Version, .int .i64 x1300.Owner, .int .i64 un, .int .i64 x1300.Born]) (by kernel_rfl) (by kernel_rfl) (by kernel_rfl) (s_join421337.chunk 0 rfl) (by kernel_rfl) rfl ?_
           refine Op.call0 (dst := some 79) (f := 88) (args := #[.agg #[.slice (some ⟨b1302, o1303, none⟩) t.All.length n_t_0], .agg #[.string (mkS x1300.Path), .slice a1311 x1300.Data.length n1312, .int .i64 x1300.Version, .int .i64 x1300.Owner, .int .i64 un, .int .i64 x1300.Born]]) (by kernel_rfl) s_join421337 (withR _ _ _ s_join421337.sub hG t _ h_t_0 (⟨x1300.Path, x1300.Data, x1300.Version, x1300.Owner, un, x1300.Born⟩ : Leaf) _ hv1310 (by ((try dsimp only) <;> (omega))) ) ?_
           rintro _ g1345 _ h1339 hle1346 s1340 ⟨v1341, rfl, hr1342, rfl⟩
           obtain ⟨a1343, n1344, rfl⟩ := hr1342.form
           replace hG := hG.mono hle1346
           replace h_data := h_data.mono hle1346
           replace h_t_0 := h_t_0.mono hle1346
           replace hv1310 := hv1310.mono hle1346
           refine Op.pures 2 [1, 3, 4, 12, 79, 80, 81] (L' := [(5, false), (6, false), (7, false), (8, false), (9, false), (10, false), (11, false), (12, false), (13, false)]) (e' := [(1, .string (mkS q)), (3, .int .i64 ow2), (4, .int .i64 bo2), (12, .pointer (some ⟨b1274, 0, none⟩)), (79, .agg #[.slice a1343 (((withL t.All (⟨x1300.Path, x1300.Data, x1300.Version, x1300.Owner, un, x1300.Born⟩ : Leaf))).length) n1344]), (80, .string (mkS q)), (81, .slice a_data data.length n_data)]) (by kernel_rfl) ?_
           refine Op.call0 (dst := some 82) (f := 29) (args := #[.slice a_data data.length n_data]) (by kernel_rfl) s1340 (copyBytes _ _ _ s1340.sub hG _ _ h_data (by ((try dsimp only) <;> (omega))) ) ?_
           rintro _ g1354 _ h1347 hle1355 s1348 ⟨v1349, ch1350, rfl, R1351, hgg, rfl⟩; subst g1354; clear hle1355
           obtain ⟨a1352, n1353, rfl⟩ := R1351.form
           refine Op.pures 3 [1, 12, 79, 85] (L' := [(9, false), (10, false), (11, false), (12, false), (13, false)]) (e' := [(1, .string (mkS q)), (12, .pointer (some ⟨b1274, 0, none⟩)), (79, .agg #[.slice a1343 (((withL t.All (⟨x1300.Path, x1300.Data, x1300.Version, x1300.Owner, un, x1300.Born⟩ : Leaf))).length) n1344]), (85, .agg #[.string (mkS q), .slice a1352 ((data).length) n1353, .int .i64 0, .int .i64 ow2, .int .i64 0, .int .i64 bo2])]) (by kernel_rfl) ?_
           obtain ⟨g1356, s1357, hle1358, hf1359⟩ := Row.freeze R1351 (s1348.front 0 rfl)
           replace hG := hG.mono hle1358
           replace h_t_0 := h_t_0.mono hle1358
           replace hr1342 := hr1342.mono hle1358
           replace hv1310 := hv1310.mono hle1358
           refine Op.call0 (dst := some 86) (f := 88) (args := #[.agg #[.slice a1343 (((withL t.All (⟨x1300.Path, x1300.Data, x1300.Version, x1300.Owner, un, x1300.Born⟩ : Leaf))).length) n1344], .agg #[.string (mkS q), .slice a1352 ((data).length) n1353, .int .i64 0, .int .i64 ow2, .int .i64 0, .int .i64 bo2]]) (by kernel_rfl) s1357 (withR _ _ _ s1357.sub hG (⟨(withL t.All (⟨x1300.Path, x1300.Data, x1300.Version, x1300.Owner, un, x1300.Born⟩ : Leaf))⟩ : R10Tree) _ hr1342 (⟨q, data, 0, ow2, 0, bo2⟩ : Leaf) _ hf1359 (by ((try dsimp only) <;> ((have h9 := fun l => withL_le t.All l; have := hB.1; exact Nat.le_trans (h9 _) (by omega))))) ) ?_
           rintro _ g1366 _ h1360 hle1367 s1361 ⟨v1362, rfl, hr1363, rfl⟩
           obtain ⟨a1364, n1365, rfl⟩ := hr1363.form
           replace hG := hG.mono hle1367
           replace h_t_0 := h_t_0.mono hle1367
           replace hf1359 := hf1359.mono hle1367
           replace hr1342 := hr1342.mono hle1367
           replace hv1310 := hv1310.mono hle1367
           refine Op.pures 1 [12, 86, 87] (L' := [(11, false), (12, false), (13, false)]) (e' := [(12, .pointer (some ⟨b1274, 0, none⟩)), (86, .agg #[.slice a1364 (((withL (withL t.All (⟨x1300.Path, x1300.Data, x1300.Version, x1300.Owner, un, x1300.Born⟩ : Leaf)) (⟨q, data, 0, ow2, 0, bo2⟩ : Leaf))).length) n1365]), (87, .string (mkS q))]) (by kernel_rfl) ?_
           refine Op.store (T := 75) (x := (.tmp 12)) (y := (.tmp 86)) (b := b1274) (o := 0) (vs := [.slice a1364 (((withL (withL t.All (⟨x1300.Path, x1300.Data, x1300.Version, x1300.Owner, un, x1300.Born⟩ : Leaf)) (⟨q, data, 0, ow2, 0, bo2⟩ : Leaf))).length) n1365]) (a? := true) (n := 1) (by kernel_rfl) (by kernel_rfl) (by kernel_rfl) (by kernel_rfl) rfl (by simp [Value.oneCell']) s1361 1 rfl (Nat.le_of_ble_eq_true (by kernel_rfl)) (cs := #[.slice none 0 0]) (cs' := #[.slice a1364 (((withL (withL t.All (⟨x1300.Path, x1300.Data, x1300.Version, x1300.Owner, un, x1300.Born⟩ : Leaf)) (⟨q, data, 0, ow2, 0, bo2⟩ : Leaf))).length) n1365]) (by kernel_rfl) (fun _ => trivial) ?_
           intro h1368 s1369
           refine Op.pures 2 [12, 13, 14] (L' := []) (e' := [(12, .pointer (some ⟨b1274, 0, none⟩)), (13, .string (mkS q)), (14, .int .i64 0)]) (by kernel_rfl) ?_
           refine Op.goto 43 (by kernel_rfl) ?_
           refine At.retM (f := Tryz.f44) (vs := [.agg #[.slice a1364 (((withL (withL t.All (⟨x1300.Path, x1300.Data, x1300.Version, x1300.Owner, un, x1300.Born⟩ : Leaf)) (⟨q, data, 0, ow2, 0, bo2⟩ : Leaf))).length) n1365], .string (mkS q), .int .i64 0]) (rl := [.cell 12 75, .tmp 13, .tmp 14]) (v := .tuple #[.agg #[.slice a1364 (((withL (withL t.All (⟨x1300.Path, x1300.Data, x1300.Version, x1300.Owner, un, x1300.Born⟩ : Leaf)) (⟨q, data, 0, ow2, 0, bo2⟩ : Leaf))).length) n1365], .string (mkS q), .int .i64 0]) (by kernel_rfl) (by kernel_rfl) ⟨⟨_, _, rfl, resAgg (n := 1) (by kernel_rfl) (s1369.chunk 1 rfl) (by kernel_rfl) rfl⟩, rfl, rfl, trivial⟩ rfl ?_
           have s1370 : St h g (ids []) g1366 [] h1368 := (s1369).drop.drop.drop
           refine hR _ _ _ _ s1370 ⟨(.slice a1364 (((withL (withL t.All (⟨x1300.Path, x1300.Data, x1300.Version, x1300.Owner, un, x1300.Born⟩ : Leaf)) (⟨q, data, 0, ow2, 0, bo2⟩ : Leaf))).length) n1365), ?_, ?_, rfl⟩
           ·exact eqT3 rfl (eqS (by (rw [rm_8 (by assumption) (by assumption) (atP_some (by assumption) hx1301) (by assumption) hEN (by assumption) (by assumption)]; first | done | rfl | exact madeR hun how hbo))) (eqI (by (rw [rm_8 (by assumption) (by assumption) (atP_some (by assumption) hx1301) (by assumption) hEN (by assumption) (by assumption)]; first | done | rfl | exact madeR hun how hbo)))
           ·exact slEq hr1363 (by (rw [rm_8 (by assumption) (by assumption) (atP_some (by assumption) hx1301) (by assumption) hEN (by assumption) (by assumption)]; first | done | rfl | exact madeR hun how hbo))
         refine At.reg (L := [(0, false), (1, false)]) (by kernel_rfl) ?_
         refine Op.pures 2 [1, 2, 3, 4, 6, 12, 18, 74] (L' := []) (e' := [(1, .string (mkS q)), (2, .slice a_data data.length n_data), (3, .int .i64 owner), (4, .int .i64 born), (6, .pointer (some ⟨b1271, 0, none⟩)), (12, .pointer (some ⟨b1274, 0, none⟩)), (18, .pointer (some ⟨b1313, 0, none⟩)), (74, .bool (decide (owner < ((-1) : Int))))]) (by kernel_rfl) ?_
         refine Op.goto 37 (by kernel_rfl) ?_
         refine At.cond (b := decide (owner < ((-1) : Int))) (c := .tmp 74) (by kernel_rfl) (by kernel_rfl) (by kernel_rfl) 38 39 (by kernel_rfl) (by kernel_rfl) (fun hb => ?_) (fun hb => ?_)
         ·have c1371 : owner < ((-1) : Int) := of_decide_eq_true hb
          clear hb
          refine At.keep [1, 2, 4, 6, 12, 18] ?_; show At _ _ _ [(1, .string (mkS q)), (2, .slice a_data data.length n_data), (4, .int .i64 born), (6, .pointer (some ⟨b1271, 0, none⟩)), (12, .pointer (some ⟨b1274, 0, none⟩)), (18, .pointer (some ⟨b1313, 0, none⟩))] _
          refine At.reg (L := [(0, false)]) (by kernel_rfl) ?_
          refine Op.pures 1 [1, 2, 3, 4, 6, 12, 18] (L' := []) (e' := [(1, .string (mkS q)), (2, .slice a_data data.length n_data), (3, .int .i64 (-1)), (4, .int .i64 born), (6, .pointer (some ⟨b1271, 0, none⟩)), (12, .pointer (some ⟨b1274, 0, none⟩)), (18, .pointer (some ⟨b1313, 0, none⟩))]) (by kernel_rfl) ?_
          refine Op.goto 39 (by kernel_rfl) ?_
          refine At.reg (L := [(0, false), (1, false)]) (by kernel_rfl) ?_
          refine Op.pures 2 [1, 2, 3, 4, 6, 12, 18, 76] (L' := []) (e' := [(1, .string (mkS q)), (2, .slice a_data data.length n_data), (3, .int .i64 (-1)), (4, .int .i64 born), (6, .pointer (some ⟨b1271, 0, none⟩)), (12, .pointer (some ⟨b1274, 0, none⟩)), (18, .pointer (some ⟨b1313, 0, none⟩)), (76, .bool (decide (born < (0 : Int))))]) (by kernel_rfl) ?_
          refine Op.goto 40 (by kernel_rfl) ?_
          refine At.cond (b := decide (born < (0 : Int))) (c := .tmp 76) (by kernel_rfl) (by kernel_rfl) (by kernel_rfl) 41 42 (by kernel_rfl) (by kernel_rfl) (fun hb => ?_) (fun hb => ?_)
          ·have c1372 : born < (0 : Int) := of_decide_eq_true hb
           clear hb
           refine At.keep [1, 2, 3, 6, 12, 18] ?_; show At _ _ _ [(1, .string (mkS q)), (2, .slice a_data data.length n_data), (3, .int .i64 (-1)), (6, .pointer (some ⟨b1271, 0, none⟩)), (12, .pointer (some ⟨b1274, 0, none⟩)), (18, .pointer (some ⟨b1313, 0, none⟩))] _
           refine At.reg (L := [(0, false)]) (by kernel_rfl) ?_
           refine Op.pures 1 [1, 2, 3, 4, 6, 12, 18] (L' := []) (e' := [(1, .string (mkS q)), (2, .slice a_data data.length n_data), (3, .int .i64 (-1)), (4, .int .i64 0), (6, .pointer (some ⟨b1271, 0, none⟩)), (12, .pointer (some ⟨b1274, 0, none⟩)), (18, .pointer (some ⟨b1313, 0, none⟩))]) (by kernel_rfl) ?_
           refine Op.goto 42 (by kernel_rfl) ?_
           exact join42 _  (-1) 0 _ (Nat.lt_succ_self _) (by omega) (by omega)  s1325
          ·have c1373 : ¬ (born < (0 : Int)) := of_decide_eq_false hb
           clear hb
           refine At.keep [1, 2, 3, 4, 6, 12, 18] ?_; show At _ _ _ [(1, .string (mkS q)), (2, .slice a_data data.length n_data), (3, .int .i64 (-1)), (4, .int .i64 born), (6, .pointer (some ⟨b1271, 0, none⟩)), (12, .pointer (some ⟨b1274, 0, none⟩)), (18, .pointer (some ⟨b1313, 0, none⟩))] _
           exact join42 _  (-1) born _ (Nat.lt_succ_self _) (by omega) (by omega)  s1325
         ·have c1374 : ¬ (owner < ((-1) : Int)) := of_decide_eq_false hb
          clear hb
          refine At.keep [1, 2, 3, 4, 6, 12, 18] ?_; show At _ _ _ [(1, .string (mkS q)), (2, .slice a_data data.length n_data), (3, .int .i64 owner), (4, .int .i64 born), (6, .pointer (some ⟨b1271, 0, none⟩)), (12, .pointer (some ⟨b1274, 0, none⟩)), (18, .pointer (some ⟨b1313, 0, none⟩))] _
          refine At.reg (L := [(0, false), (1, false)]) (by kernel_rfl) ?_
          refine Op.pures 2 [1, 2, 3, 4, 6, 12, 18, 76] (L' := []) (e' := [(1, .string (mkS q)), (2, .slice a_data data.length n_data), (3, .int .i64 owner), (4, .int .i64 born), (6, .pointer (some ⟨b1271, 0, none⟩)), (12, .pointer (some ⟨b1274, 0, none⟩)), (18, .pointer (some ⟨b1313, 0, none⟩)), (76, .bool (decide (born < (0 : Int))))]) (by kernel_rfl) ?_
          refine Op.goto 40 (by kernel_rfl) ?_
          refine At.cond (b := decide (born < (0 : Int))) (c := .tmp 76) (by kernel_rfl) (by kernel_rfl) (by kernel_rfl) 41 42 (by kernel_rfl) (by kernel_rfl) (fun hb => ?_) (fun hb => ?_)
          ·have c1375 : born < (0 : Int) := of_decide_eq_true hb
           clear hb
           refine At.keep [1, 2, 3, 6, 12, 18] ?_; show At _ _ _ [(1, .string (mkS q)), (2, .slice a_data data.length n_data), (3, .int .i64 owner), (6, .pointer (some ⟨b1271, 0, none⟩)), (12, .pointer (some ⟨b1274, 0, none⟩)), (18, .pointer (some ⟨b1313, 0, none⟩))] _
           refine At.reg (L := [(0, false)]) (by kernel_rfl) ?_
           refine Op.pures 1 [1, 2, 3, 4, 6, 12, 18] (L' := []) (e' := [(1, .string (mkS q)), (2, .slice a_data data.length n_data), (3, .int .i64 owner), (4, .int .i64 0), (6, .pointer (some ⟨b1271, 0, none⟩)), (12, .pointer (some ⟨b1274, 0, none⟩)), (18, .pointer (some ⟨b1313, 0, none⟩))]) (by kernel_rfl) ?_
           refine Op.goto 42 (by kernel_rfl) ?_
           exact join42 _  owner 0 _ (Nat.lt_succ_self _) (by omega) (by omega)  s1325
          ·have c1376 : ¬ (born < (0 : Int)) := of_decide_eq_false hb
           clear hb
           refine At.keep [1, 2, 3, 4, 6, 12, 18] ?_; show At _ _ _ [(1, .string (mkS q)), (2, .slice a_data data.length n_data), (3, .int .i64 owner), (4, .int .i64 born), (6, .pointer (some ⟨b1271, 0, none⟩)), (12, .pointer (some ⟨b1274, 0, none⟩)), (18, .pointer (some ⟨b1313, 0, none⟩))] _
           exact join42 _  owner born _ (Nat.lt_succ_self _) (by omega) (by omega)  s1325
     refine At.reg (L := [(0, false)]) (by kernel_rfl) ?_
     refine Op.pures 1 [1, 2, 3, 4, 6, 12, 18, 47] (L' := []) (e' := [(1, .string (mkS p)), (2, .slice a_data data.length n_data), (3, .int .i64 owner), (4, .int .i64 born), (6, .pointer (some ⟨b1271, 0, none⟩)), (12, .pointer (some ⟨b1274, 0, none⟩)), (18, .pointer (some ⟨b1313, 0, none⟩)), (47, .bool num)]) (by kernel_rfl) ?_
     refine Op.goto 21 (by kernel_rfl) ?_
     refine At.cond (b := num) (c := .tmp 47) (by kernel_rfl) (by kernel_rfl) (by kernel_rfl) 22 28 (by kernel_rfl) (by kernel_rfl) (fun hb => ?_) (fun hb => ?_)
     ·have c1377 : num = true := hb
      clear hb
      refine At.keep [1, 2, 3, 4, 6, 12, 18] ?_; show At _ _ _ [(1, .string (mkS p)), (2, .slice a_data data.length n_data), (3, .int .i64 owner), (4, .int .i64 born), (6, .pointer (some ⟨b1271, 0, none⟩)), (12, .pointer (some ⟨b1274, 0, none⟩)), (18, .pointer (some ⟨b1313, 0, none⟩))] _
      refine At.reg (L := [(0, false), (1, false), (2, false), (3, false), (4, false), (5, false), (6, false), (7, false), (8, false)]) (by kernel_rfl) ?_
      refine Op.pures 2 [1, 2, 3, 4, 6, 12, 18, 49, 50] (L' := [(2, false), (3, false), (4, false), (5, false), (6, false), (7, false), (8, false)]) (e' := [(1, .string (mkS p)), (2, .slice a_data data.length n_data), (3, .int .i64 owner), (4, .int .i64 born), (6, .pointer (some ⟨b1271, 0, none⟩)), (12, .pointer (some ⟨b1274, 0, none⟩)), (18, .pointer (some ⟨b1313, 0, none⟩)), (49, .string (mkS p)), (50, .pointer (some ⟨b1313, 4, none⟩))]) (by kernel_rfl) ?_
      refine Op.load (T := 3) (x := (.tmp 50)) (o := 4) (d := 51) (n := 1) (v := .int .i64 x1300.Next) (by kernel_rfl) (by kernel_rfl) (by kernel_rfl) (s1317.chunk 0 rfl) (by kernel_rfl) ?_
      refine Op.call0 (dst := some 52) (f := 87) (args := #[.string (mkS p), .int .i64 x1300.Next]) (by kernel_rfl) s1317 (numberedR _ _ _ s1317.sub hG p x1300.Next (by ((try dsimp only) <;> (omega))) (by ((try dsimp only) <;> ((have := (hB.2 _ (List.mem_of_getElem? hx1301)).2.2; omega)))) (by ((try dsimp only) <;> ((have := (hB.2 _ (List.mem_of_getElem? hx1301)).2.2; omega)))) ) ?_
      rintro _ g1380 _ h1378 hle1381 s1379 ⟨rfl, hgg, rfl⟩; subst g1380; clear hle1381
      refine Op.pures 5 [1, 2, 3, 4, 6, 12, 16, 18] (L' := []) (e' := [(1, .string (mkS (numS p x1300.Next))), (2, .slice a_data data.length n_data), (3, .int .i64 owner), (4, .int .i64 born), (6, .pointer (some ⟨b1271, 0, none⟩)), (12, .pointer (some ⟨b1274, 0, none⟩)), (16, .int .i64 (numE p x1300.Next)), (18, .pointer (some ⟨b1313, 0, none⟩))]) (by kernel_rfl) ?_
      refine Op.goto 23 (by kernel_rfl) ?_
      refine At.reg (L := [(0, false), (1, false)]) (by kernel_rfl) ?_
      refine Op.pures 2 [1, 2, 3, 4, 6, 12, 16, 18, 56] (L' := []) (e' := [(1, .string (mkS (numS p x1300.Next))), (2, .slice a_data data.length n_data), (3, .int .i64 owner), (4, .int .i64 born), (6, .pointer (some ⟨b1271, 0, none⟩)), (12, .pointer (some ⟨b1274, 0, none⟩)), (16, .int .i64 (numE p x1300.Next)), (18, .pointer (some ⟨b1313, 0, none⟩)), (56, .bool ((numE p x1300.Next) != (0 : Int)))]) (by kernel_rfl) ?_
      refine Op.goto 24 (by kernel_rfl) ?_
      refine At.cond (b := (numE p x1300.Next) != (0 : Int)) (c := .tmp 56) (by kernel_rfl) (by kernel_rfl) (by kernel_rfl) 25 27 (by kernel_rfl) (by kernel_rfl) (fun hb => ?_) (fun hb => ?_)
      ·have c1382 : ¬ ((numE p x1300.Next) = (0 : Int)) := bneT hb
       clear hb
       refine At.keep [6, 12, 16] ?_; show At _ _ _ [(6, .pointer (some ⟨b1271, 0, none⟩)), (12, .pointer (some ⟨b1274, 0, none⟩)), (16, .int .i64 (numE p x1300.Next))] _
       refine At.reg (L := [(0, false), (1, false), (2, false), (3, false), (4, false)]) (by kernel_rfl) ?_
       refine Op.loadA (T := 75) (x := (.tmp 6)) (o := 0) (d := 57) (n := 1) (vs := [.slice (some ⟨b1302, o1303, none⟩) t.All.length n_t_0]) (by kernel_rfl) (by kernel_rfl) (by kernel_rfl) (s1379.chunk 2 rfl) (by kernel_rfl) rfl ?_
       refine Op.pures 1 [12, 57, 58] (L' := [(2, false), (3, false), (4, false)]) (e' := [(12, .pointer (some ⟨b1274, 0, none⟩)), (57, .agg #[.slice (some ⟨b1302, o1303, none⟩) t.All.length n_t_0]), (58, .int .i64 (numE p x1300.Next))]) (by kernel_rfl) ?_
       refine Op.store (T := 75) (x := (.tmp 12)) (y := (.tmp 57)) (b := b1274) (o := 0) (vs := [.slice (some ⟨b1302, o1303, none⟩) t.All.length n_t_0]) (a? := true) (n := 1) (by kernel_rfl) (by kernel_rfl) (by kernel_rfl) (by kernel_rfl) rfl (by simp [Value.oneCell']) s1379 1 rfl (Nat.le_of_ble_eq_true (by kernel_rfl)) (cs := #[.slice none 0 0]) (cs' := #[.slice (some ⟨b1302, o1303, none⟩) t.All.length n_t_0]) (by kernel_rfl) (fun _ => trivial) ?_
       intro h1383 s1384
       refine Op.pures 2 [12, 13, 14] (L' := []) (e' := [(12, .pointer (some ⟨b1274, 0, none⟩)), (13, .string (mkS [])), (14, .int .i64 (numE p x1300.Next))]) (by kernel_rfl) ?_
       refine Op.goto 26 (by kernel_rfl) ?_
       refine At.retM (f := Tryz.f44) (vs := [.agg #[.slice (some ⟨b1302, o1303, none⟩) t.All.length n_t_0], .string (mkS []), .int .i64 (numE p x1300.Next)]) (rl := [.cell 12 75, .tmp 13, .tmp 14]) (v := .tuple #[.agg #[.slice (some ⟨b1302, o1303, none⟩) t.All.length n_t_0], .string (mkS []), .int .i64 (numE p x1300.Next)]) (by kernel_rfl) (by kernel_rfl) ⟨⟨_, _, rfl, resAgg (n := 1) (by kernel_rfl) (s1384.chunk 1 rfl) (by kernel_rfl) rfl⟩, rfl, rfl, trivial⟩ rfl ?_
       have s1385 : St h g (ids []) g [] h1383 := (s1384).drop.drop.drop
       refine hR _ _ _ _ s1385 ⟨(.slice (some ⟨b1302, o1303, none⟩) t.All.length n_t_0), ?_, ?_, rfl⟩
       ·exact eqT3 rfl (eqS (by (rw [rm_5 (by assumption) (by assumption) (atP_some (by assumption) hx1301) (by assumption) (by assumption) (by assumption)]; done))) (eqI (by (rw [rm_5 (by assumption) (by assumption) (atP_some (by assumption) hx1301) (by assumption) (by assumption) (by assumption)]; done)))
       ·exact slEq h_t_0 (by (rw [rm_5 (by assumption) (by assumption) (atP_some (by assumption) hx1301) (by assumption) (by assumption) (by assumption)]; done))
      ·have c1386 : (numE p x1300.Next) = (0 : Int) := bneF hb
       clear hb
       refine At.keep [1, 2, 3, 4, 6, 12, 18] ?_; show At _ _ _ [(1, .string (mkS (numS p x1300.Next))), (2, .slice a_data data.length n_data), (3, .int .i64 owner), (4, .int .i64 born), (6, .pointer (some ⟨b1271, 0, none⟩)), (12, .pointer (some ⟨b1274, 0, none⟩)), (18, .pointer (some ⟨b1313, 0, none⟩))] _
       refine At.reg (L := [(0, false), (1, false), (2, false), (3, false), (4, false)]) (by kernel_rfl) ?_
       refine Op.pures 1 [1, 2, 3, 4, 6, 12, 18, 59] (L' := [(1, false), (2, false), (3, false), (4, false)]) (e' := [(1, .string (mkS (numS p x1300.Next))), (2, .slice a_data data.length n_data), (3, .int .i64 owner), (4, .int .i64 born), (6, .pointer (some ⟨b1271, 0, none⟩)), (12, .pointer (some ⟨b1274, 0, none⟩)), (18, .pointer (some ⟨b1313, 0, none⟩)), (59, .pointer (some ⟨b1313, 4, none⟩))]) (by kernel_rfl) ?_
       refine Op.load (T := 3) (x := (.tmp 59)) (o := 4) (d := 60) (n := 1) (v := .int .i64 x1300.Next) (by kernel_rfl) (by kernel_rfl) (by kernel_rfl) (s1379.chunk 0 rfl) (by kernel_rfl) ?_
       refine Op.val (dst := some 61) (v := .int .i64 (IntKind.wrap .i64 (x1300.Next + 1))) (v' := .int .i64 (IntKind.wrap .i64 (x1300.Next + 1))) (by kernel_rfl) rfl ?_
       refine Op.pures 1 [1, 2, 3, 4, 6, 12, 18, 61, 62] (L' := [(4, false)]) (e' := [(1, .string (mkS (numS p x1300.Next))), (2, .slice a_data data.length n_data), (3, .int .i64 owner), (4, .int .i64 born), (6, .pointer (some ⟨b1271, 0, none⟩)), (12, .pointer (some ⟨b1274, 0, none⟩)), (18, .pointer (some ⟨b1313, 0, none⟩)), (61, .int .i64 (IntKind.wrap .i64 (x1300.Next + 1))), (62, .pointer (some ⟨b1313, 4, none⟩))]) (by kernel_rfl) ?_
       refine Op.store (T := 3) (x := (.tmp 62)) (y := (.tmp 61)) (b := b1313) (o := 4) (vs := [.int .i64 (IntKind.wrap .i64 (x1300.Next + 1))]) (a? := false) (n := 1) (by kernel_rfl) (by kernel_rfl) (by kernel_rfl) (by kernel_rfl) rfl (by simp [Value.oneCell']) s1379 0 rfl (Nat.le_of_ble_eq_true (by kernel_rfl)) (cs := #[.string (mkS x1300.Path), .slice a1311 x1300.Data.length n1312, .int .i64 x1300.Version, .int .i64 x1300.Owner, .int .i64 x1300.Next, .int .i64 x1300.Born]) (cs' := #[.string (mkS x1300.Path), .slice a1311 x1300.Data.length n1312, .int .i64 x1300.Version, .int .i64 x1300.Owner, .int .i64 (IntKind.wrap .i64 (x1300.Next + 1)), .int .i64 x1300.Born]) (by kernel_rfl) (fun _ => trivial) ?_
       intro h1387 s1388
       refine Op.goto 28 (by kernel_rfl) ?_
       refine At.keep [1, 2, 3, 4, 6, 12, 18] ?_; show At _ _ _ [(1, .string (mkS (numS p x1300.Next))), (2, .slice a_data data.length n_data), (3, .int .i64 owner), (4, .int .i64 born), (6, .pointer (some ⟨b1271, 0, none⟩)), (12, .pointer (some ⟨b1274, 0, none⟩)), (18, .pointer (some ⟨b1313, 0, none⟩))] _
       exact join28 _  (numS p x1300.Next) (IntKind.wrap .i64 (x1300.Next + 1)) _ (Nat.lt_succ_self _) (by exact mkE_t (by assumption) (by assumption)) (by (rw [if_pos (by assumption)]))  s1388
     ·have c1389 : num = false := hb
      clear hb
      refine At.keep [1, 2, 3, 4, 6, 12, 18] ?_; show At _ _ _ [(1, .string (mkS p)), (2, .slice a_data data.length n_data), (3, .int .i64 owner), (4, .int .i64 born), (6, .pointer (some ⟨b1271, 0, none⟩)), (12, .pointer (some ⟨b1274, 0, none⟩)), (18, .pointer (some ⟨b1313, 0, none⟩))] _
      exact join28 _  p x1300.Next _ (Nat.lt_succ_self _) (by exact mkE_f (by assumption)) (by (rw [if_neg (Bool.eq_false_iff.1 (by assumption))]))  s1317
theorem dropR (B : World) (h : Heap) (g : GH) (hg : Sub g h) (hG : Glob g) (t : R10Tree) (v_t_0 : Value) (h_t_0 : SlR g 59 kLeaf v_t_0 t.All) (p : List UInt8) (ver : Int) (hB : TreeB t.All) (hs0 : SortL t.All) (hp : p.length ≤ 1000000000) :
  Spec Tryz.prog B 45 #[.agg #[v_t_0], .string (mkS p), .int .i64 ver] h g [] (fun rv g' L' => ∃ v0, rv = .tuple #[.agg #[v0], .int .i64 ((dropT t.All p ver).2)] ∧ SlR g' 59 kLeaf v0 ((⟨(dropT t.All p ver).1⟩ : R10Tree).All) ∧ L' = []) := by
 obtain ⟨a_t_0, n_t_0, rfl⟩ := h_t_0.form
 refine Spec.of_at (f := Tryz.f45) (e := [(0, .agg #[.slice a_t_0 t.All.length n_t_0]), (1, .string (mkS p)), (2, .int .i64 ver)]) Tryz.func45 (by kernel_rfl) (Nat.le_of_ble_eq_true (by kernel_rfl)) (by kernel_rfl) (by kernel_rfl) ?_
 intro R hR
 have s0 := St.init hg
 refine At.reg (L := [(0, false), (1, false), (2, false)]) (by kernel_rfl) ?_
 refine Op.box (T := 75) (x := (.tmp 0)) (d := 3) (cs := #[.slice a_t_0 t.All.length n_t_0]) (by kernel_rfl) (by kernel_rfl) s0 ?_
 intro b1390 h1391 s1392
 refine Op.alloc (T := 75) (dst := 6) (cs := #[.slice none 0 0]) (by kernel_rfl) (by kernel_rfl) s1392 ?_
 intro b1393 h1394 s1395
 refine Op.pures 1 [1, 2, 3, 6] (L' := []) (e' := [(1, .string (mkS p)), (2, .int .i64 ver), (3, .pointer (some ⟨b1390, 0, none⟩)), (6, .pointer (some ⟨b1393, 0, none⟩))]) (by kernel_rfl) ?_
 refine Op.goto 1 (by kernel_rfl) ?_
 refine At.reg (L := [(0, false), (1, false), (2, false), (3, false), (4, false), (5, false), (6, false)]) (by kernel_rfl) ?_
 refine Op.pures 1 [1, 2, 3, 6, 13] (L' := [(1, false), (2, false), (3, false), (4, false), (5, false), (6, false)]) (e' := [(1, .string (mkS p)), (2, .int .i64 ver), (3, .pointer (some ⟨b1390, 0, none⟩)), (6, .pointer (some ⟨b1393, 0, none⟩)), (13, .string (mkS p))]) (by kernel_rfl) ?_
 refine Op.call0 (dst := some 14) (f := 85) (args := #[.string (mkS p)]) (by kernel_rfl) s1395 (parentR _ _ _ s1395.sub hG p (by ((try dsimp only) <;> (omega))) ) ?_
 rintro _ g1398 _ h1396 hle1399 s1397 ⟨rfl, hgg, rfl⟩; subst g1398; clear hle1399
 refine Op.pures 5 [1, 2, 3, 6, 9] (L' := []) (e' := [(1, .string (mkS p)), (2, .int .i64 ver), (3, .pointer (some ⟨b1390, 0, none⟩)), (6, .pointer (some ⟨b1393, 0, none⟩)), (9, .int .i64 (cutErr p))]) (by kernel_rfl) ?_
 refine Op.goto 2 (by kernel_rfl) ?_
 refine At.reg (L := [(0, false), (1, false)]) (by kernel_rfl) ?_
 refine Op.pures 2 [1, 2, 3, 6, 9, 18] (L' := []) (e' := [(1, .string (mkS p)), (2, .int .i64 ver), (3, .pointer (some ⟨b1390, 0, none⟩)), (6, .pointer (some ⟨b1393, 0, none⟩)), (9, .int .i64 (cutErr p)), (18, .bool ((cutErr p) != (0 : Int)))]) (by kernel_rfl) ?_
 refine Op.goto 3 (by kernel_rfl) ?_
 refine At.cond (b := (cutErr p) != (0 : Int)) (c := .tmp 18) (by kernel_rfl) (by kernel_rfl) (by kernel_rfl) 4 6 (by kernel_rfl) (by kernel_rfl) (fun hb => ?_) (fun hb => ?_)
 ·have c1400 : ¬ ((cutErr p) = (0 : Int)) := bneT hb
  clear hb
  refine At.keep [3, 6, 9] ?_; show At _ _ _ [(3, .pointer (some ⟨b1390, 0, none⟩)), (6, .pointer (some ⟨b1393, 0, none⟩)), (9, .int .i64 (cutErr p))] _
  refine At.reg (L := [(0, false), (1, false), (2, false), (3, false)]) (by kernel_rfl) ?_
  refine Op.loadA (T := 75) (x := (.tmp 3)) (o := 0) (d := 19) (n := 1) (vs := [.slice a_t_0 t.All.length n_t_0]) (by kernel_rfl) (by kernel_rfl) (by kernel_rfl) (s1397.chunk 1 rfl) (by kernel_rfl) rfl ?_
  refine Op.pures 1 [6, 19, 20] (L' := [(2, false), (3, false)]) (e' := [(6, .pointer (some ⟨b1393, 0, none⟩)), (19, .agg #[.slice a_t_0 t.All.length n_t_0]), (20, .int .i64 (cutErr p))]) (by kernel_rfl) ?_
  refine Op.store (T := 75) (x := (.tmp 6)) (y := (.tmp 19)) (b := b1393) (o := 0) (vs := [.slice a_t_0 t.All.length n_t_0]) (a? := true) (n := 1) (by kernel_rfl) (by kernel_rfl) (by kernel_rfl) (by kernel_rfl) rfl (by simp [Value.oneCell']) s1397 0 rfl (Nat.le_of_ble_eq_true (by kernel_rfl)) (cs := #[.slice none 0 0]) (cs' := #[.slice a_t_0 t.All.length n_t_0]) (by kernel_rfl) (fun _ => trivial) ?_
  intro h1401 s1402
  refine Op.pures 1 [6, 7] (L' := []) (e' := [(6, .pointer (some ⟨b1393, 0, none⟩)), (7, .int .i64 (cutErr p))]) (by kernel_rfl) ?_
  refine Op.goto 5 (by kernel_rfl) ?_
  refine At.retM (f := Tryz.f45) (vs := [.agg #[.slice a_t_0 t.All.length n_t_0], .int .i64 (cutErr p)]) (rl := [.cell 6 75, .tmp 7]) (v := .tuple #[.agg #[.slice a_t_0 t.All.length n_t_0], .int .i64 (cutErr p)]) (by kernel_rfl) (by kernel_rfl) ⟨⟨_, _, rfl, resAgg (n := 1) (by kernel_rfl) (s1402.chunk 0 rfl) (by kernel_rfl) rfl⟩, rfl, trivial⟩ rfl ?_
  have s1403 : St h g (ids []) g [] h1401 := (s1402).drop.drop
  refine hR _ _ _ _ s1403 ⟨(.slice a_t_0 t.All.length n_t_0), ?_, ?_, rfl⟩
  ·exact eqT2 rfl (eqI (by (rw [dropT_1 (by assumption)]; done)))
  ·exact slEq h_t_0 (by (rw [dropT_1 (by assumption)]; done))
 ·have c1404 : (cutErr p) = (0 : Int) := bneF hb
  clear hb
  refine At.keep [1, 2, 3, 6] ?_; show At _ _ _ [(1, .string (mkS p)), (2, .int .i64 ver), (3, .pointer (some ⟨b1390, 0, none⟩)), (6, .pointer (some ⟨b1393, 0, none⟩))] _
  refine At.reg (L := [(0, false), (1, false), (2, false), (3, false)]) (by kernel_rfl) ?_
  refine Op.loadA (T := 75) (x := (.tmp 3)) (o := 0) (d := 21) (n := 1) (vs := [.slice a_t_0 t.All.length n_t_0]) (by kernel_rfl) (by kernel_rfl) (by kernel_rfl) (s1397.chunk 1 rfl) (by kernel_rfl) rfl ?_
  refine Op.pures 1 [1, 2, 3, 6, 21, 22] (L' := [(2, false), (3, false)]) (e' := [(1, .string (mkS p)), (2, .int .i64 ver), (3, .pointer (some ⟨b1390, 0, none⟩)), (6, .pointer (some ⟨b1393, 0, none⟩)), (21, .agg #[.slice a_t_0 t.All.length n_t_0]), (22, .string (mkS p))]) (by kernel_rfl) ?_
  refine Op.call0 (dst := some 23) (f := 86) (args := #[.agg #[.slice a_t_0 t.All.length n_t_0], .string (mkS p)]) (by kernel_rfl) s1397 (atR _ _ _ s1397.sub hG t _ h_t_0 p (by ((try dsimp only) <;> ((have := atP_lt (ns := t.All) (p := p); have := atP_ge t.All (p); have := hB.1; omega)))) ) ?_
  rintro _ g1407 _ h1405 hle1408 s1406 ⟨rfl, hgg, rfl⟩; subst g1407; clear hle1408
  refine Op.pures 1 [1, 2, 3, 6, 10] (L' := []) (e' := [(1, .string (mkS p)), (2, .int .i64 ver), (3, .pointer (some ⟨b1390, 0, none⟩)), (6, .pointer (some ⟨b1393, 0, none⟩)), (10, .int .i64 (atP t.All p))]) (by kernel_rfl) ?_
  refine Op.goto 7 (by kernel_rfl) ?_
  refine At.reg (L := [(0, false), (1, false)]) (by kernel_rfl) ?_
  refine Op.pures 2 [1, 2, 3, 6, 10, 25] (L' := []) (e' := [(1, .string (mkS p)), (2, .int .i64 ver), (3, .pointer (some ⟨b1390, 0, none⟩)), (6, .pointer (some ⟨b1393, 0, none⟩)), (10, .int .i64 (atP t.All p)), (25, .bool (decide ((atP t.All p) < (0 : Int))))]) (by kernel_rfl) ?_
  refine Op.goto 8 (by kernel_rfl) ?_
  refine At.cond (b := decide ((atP t.All p) < (0 : Int))) (c := .tmp 25) (by kernel_rfl) (by kernel_rfl) (by kernel_rfl) 9 11 (by kernel_rfl) (by kernel_rfl) (fun hb => ?_) (fun hb => ?_)
  ·have c1409 : (atP t.All p) < (0 : Int) := of_decide_eq_true hb
   clear hb
   refine At.keep [3, 6] ?_; show At _ _ _ [(3, .pointer (some ⟨b1390, 0, none⟩)), (6, .pointer (some ⟨b1393, 0, none⟩))] _
   refine At.reg (L := [(0, false), (1, false), (2, false)]) (by kernel_rfl) ?_
   refine Op.loadA (T := 75) (x := (.tmp 3)) (o := 0) (d := 26) (n := 1) (vs := [.slice a_t_0 t.All.length n_t_0]) (by kernel_rfl) (by kernel_rfl) (by kernel_rfl) (s1406.chunk 1 rfl) (by kernel_rfl) rfl ?_
   refine Op.store (T := 75) (x := (.tmp 6)) (y := (.tmp 26)) (b := b1393) (o := 0) (vs := [.slice a_t_0 t.All.length n_t_0]) (a? := true) (n := 1) (by kernel_rfl) (by kernel_rfl) (by kernel_rfl) (by kernel_rfl) rfl (by simp [Value.oneCell']) s1406 0 rfl (Nat.le_of_ble_eq_true (by kernel_rfl)) (cs := #[.slice none 0 0]) (cs' := #[.slice a_t_0 t.All.length n_t_0]) (by kernel_rfl) (fun _ => trivial) ?_
   intro h1410 s1411
   refine Op.pures 1 [6, 7] (L' := []) (e' := [(6, .pointer (some ⟨b1393, 0, none⟩)), (7, .int .i64 100)]) (by kernel_rfl) ?_
   refine Op.goto 10 (by kernel_rfl) ?_
   refine At.retM (f := Tryz.f45) (vs := [.agg #[.slice a_t_0 t.All.length n_t_0], .int .i64 100]) (rl := [.cell 6 75, .tmp 7]) (v := .tuple #[.agg #[.slice a_t_0 t.All.length n_t_0], .int .i64 100]) (by kernel_rfl) (by kernel_rfl) ⟨⟨_, _, rfl, resAgg (n := 1) (by kernel_rfl) (s1411.chunk 0 rfl) (by kernel_rfl) rfl⟩, rfl, trivial⟩ rfl ?_
   have s1412 : St h g (ids []) g [] h1410 := (s1411).drop.drop
   refine hR _ _ _ _ s1412 ⟨(.slice a_t_0 t.All.length n_t_0), ?_, ?_, rfl⟩
   ·exact eqT2 rfl (eqI (by (rw [dr_2 (by assumption) (by assumption)]; done)))
   ·exact slEq h_t_0 (by (rw [dr_2 (by assumption) (by assumption)]; done))
  ·have c1413 : ¬ ((atP t.All p) < (0 : Int)) := of_decide_eq_false hb
   clear hb
   refine At.keep [1, 2, 3, 6, 10] ?_; show At _ _ _ [(1, .string (mkS p)), (2, .int .i64 ver), (3, .pointer (some ⟨b1390, 0, none⟩)), (6, .pointer (some ⟨b1393, 0, none⟩)), (10, .int .i64 (atP t.All p))] _
   have join15 : ∀ (m : Nat)  (h1414 : Heap) (hm : 0 < m) (hvo : ¬ (ver ≥ 0 ∧ (atL t.All (atP t.All p)).Version ≠ ver))     (s_join151413 : St h g (ids []) g [[(b1393, Obj.cells #[.slice none 0 0] 75 (0, 0))], [(b1390, Obj.cells #[.slice a_t_0 t.All.length n_t_0] 75 (0, 0))]] h1414), At (fctx Tryz.prog B 45 Tryz.f45 R) [] 15 [(1, .string (mkS p)), (3, .pointer (some ⟨b1390, 0, none⟩)), (6, .pointer (some ⟨b1393, 0, none⟩)), (10, .int .i64 (atP t.All p))] h1414 := by
    intro m; induction m with
    | zero => intros; omega
    | succ m ih15 =>
     intro h1414 hm hvo s_join151413
     refine At.reg (L := [(0, false), (1, false), (2, false), (3, false), (4, false)]) (by kernel_rfl) ?_
     refine Op.loadA (T := 75) (x := (.tmp 3)) (o := 0) (d := 40) (n := 1) (vs := [.slice a_t_0 t.All.length n_t_0]) (by kernel_rfl) (by kernel_rfl) (by kernel_rfl) (s_join151413.chunk 1 rfl) (by kernel_rfl) rfl ?_
     refine Op.pures 1 [3, 6, 10, 40, 41] (L' := [(2, false), (3, false), (4, false)]) (e' := [(3, .pointer (some ⟨b1390, 0, none⟩)), (6, .pointer (some ⟨b1393, 0, none⟩)), (10, .int .i64 (atP t.All p)), (40, .agg #[.slice a_t_0 t.All.length n_t_0]), (41, .string (mkS p))]) (by kernel_rfl) ?_
     refine Op.call0 (dst := some 42) (f := 89) (args := #[.agg #[.slice a_t_0 t.All.length n_t_0], .string (mkS p)]) (by kernel_rfl) s_join151413 (kidsR _ _ _ s_join151413.sub hG t _ h_t_0 p (by ((try dsimp only) <;> ((have := atP_lt (ns := t.All) (p := p); have := atP_ge t.All (p); have := hB.1; omega)))) (by ((try dsimp only) <;> (exact fun n hn => by have := (hB.2 n hn).1; omega))) ) ?_
     rintro _ g1422 _ h1415 hle1423 s1416 ⟨v1417, ch1418, rfl, R1419, hgg, rfl⟩; subst g1422; clear hle1423
     obtain ⟨a1420, n1421, rfl⟩ := R1419.form
     refine Op.pures 2 [3, 6, 10, 44] (L' := []) (e' := [(3, .pointer (some ⟨b1390, 0, none⟩)), (6, .pointer (some ⟨b1393, 0, none⟩)), (10, .int .i64 (atP t.All p)), (44, .bool (decide (((kidsL t.All p).length : Int) > (0 : Int))))]) (by kernel_rfl) ?_
     refine Op.goto 16 (by kernel_rfl) ?_
     refine At.cond (b := decide (((kidsL t.All p).length : Int) > (0 : Int))) (c := .tmp 44) (by kernel_rfl) (by kernel_rfl) (by kernel_rfl) 17 19 (by kernel_rfl) (by kernel_rfl) (fun hb => ?_) (fun hb => ?_)
     ·have c1424 : ((kidsL t.All p).length : Int) > (0 : Int) := of_decide_eq_true hb
      clear hb
      refine At.keep [3, 6] ?_; show At _ _ _ [(3, .pointer (some ⟨b1390, 0, none⟩)), (6, .pointer (some ⟨b1393, 0, none⟩))] _
      refine At.reg (L := [(0, false), (1, false), (2, false)]) (by kernel_rfl) ?_
      refine Op.loadA (T := 75) (x := (.tmp 3)) (o := 0) (d := 45) (n := 1) (vs := [.slice a_t_0 t.All.length n_t_0]) (by kernel_rfl) (by kernel_rfl) (by kernel_rfl) (s1416.chunk 2 rfl) (by kernel_rfl) rfl ?_
      refine Op.store (T := 75) (x := (.tmp 6)) (y := (.tmp 45)) (b := b1393) (o := 0) (vs := [.slice a_t_0 t.All.length n_t_0]) (a? := true) (n := 1) (by kernel_rfl) (by kernel_rfl) (by kernel_rfl) (by kernel_rfl) rfl (by simp [Value.oneCell']) s1416 1 rfl (Nat.le_of_ble_eq_true (by kernel_rfl)) (cs := #[.slice none 0 0]) (cs' := #[.slice a_t_0 t.All.length n_t_0]) (by kernel_rfl) (fun _ => trivial) ?_
      intro h1425 s1426
      refine Op.pures 1 [6, 7] (L' := []) (e' := [(6, .pointer (some ⟨b1393, 0, none⟩)), (7, .int .i64 103)]) (by kernel_rfl) ?_
      refine Op.goto 18 (by kernel_rfl) ?_
      refine At.retM (f := Tryz.f45) (vs := [.agg #[.slice a_t_0 t.All.length n_t_0], .int .i64 103]) (rl := [.cell 6 75, .tmp 7]) (v := .tuple #[.agg #[.slice a_t_0 t.All.length n_t_0], .int .i64 103]) (by kernel_rfl) (by kernel_rfl) ⟨⟨_, _, rfl, resAgg (n := 1) (by kernel_rfl) (s1426.chunk 1 rfl) (by kernel_rfl) rfl⟩, rfl, trivial⟩ rfl ?_
      have s1427 : St h g (ids []) g [] h1425 := (s1426).drop.drop.drop
      refine hR _ _ _ _ s1427 ⟨(.slice a_t_0 t.All.length n_t_0), ?_, ?_, rfl⟩
      ·exact eqT2 rfl (eqI (by (rw [dr_4 (by assumption) (atP_atL (by assumption)) hvo (by assumption)]; done)))
      ·exact slEq h_t_0 (by (rw [dr_4 (by assumption) (atP_atL (by assumption)) hvo (by assumption)]; done))
     ·have c1428 : ¬ (((kidsL t.All p).length : Int) > (0 : Int)) := of_decide_eq_false hb
      clear hb
      refine At.keep [3, 6, 10] ?_; show At _ _ _ [(3, .pointer (some ⟨b1390, 0, none⟩)), (6, .pointer (some ⟨b1393, 0, none⟩)), (10, .int .i64 (atP t.All p))] _
      refine At.reg (L := [(0, false), (1, false), (2, false), (3, false), (4, false), (5, false), (6, false)]) (by kernel_rfl) ?_
      refine Op.lit (T := 52) (len := 0) (parts := #[]) (dst := 46) (E := 59) (ps := []) (cs := #[]) (by kernel_rfl) (by kernel_rfl) (by kernel_rfl) s1416 ?_
      intro b1429 h1430 s1431
      refine Op.pures 1 [3, 6, 10, 46, 47] (L' := [(2, false), (3, false), (4, false), (5, false), (6, false)]) (e' := [(3, .pointer (some ⟨b1390, 0, none⟩)), (6, .pointer (some ⟨b1393, 0, none⟩)), (10, .int .i64 (atP t.All p)), (46, .slice (some ⟨b1429, 0, none⟩) 0 0), (47, .pointer (some ⟨b1390, 0, none⟩))]) (by kernel_rfl) ?_
      refine Op.load (T := 52) (x := (.tmp 47)) (o := 0) (d := 48) (n := 1) (v := .slice a_t_0 t.All.length n_t_0) (by kernel_rfl) (by kernel_rfl) (by kernel_rfl) (s1431.chunk 3 rfl) (by kernel_rfl) ?_
      refine Op.pures 1 [3, 6, 10, 46, 48, 49] (L' := [(4, false), (5, false), (6, false)]) (e' := [(3, .pointer (some ⟨b1390, 0, none⟩)), (6, .pointer (some ⟨b1393, 0, none⟩)), (10, .int .i64 (atP t.All p)), (46, .slice (some ⟨b1429, 0, none⟩) 0 0), (48, .slice a_t_0 t.All.length n_t_0), (49, .int .i64 (atP t.All p))]) (by kernel_rfl) ?_
      refine Op.slHiD (T := 52) (E := 59) (by_ := 72) (x := (.tmp 48)) (ao := a_t_0) (n := t.All.length) (c := n_t_0) (dst := 50) (d := kLeaf) (hi := (.tmp 49)) (k := .i64) (m := atP t.All p) (by kernel_rfl) (by kernel_rfl) (by kernel_rfl) (by kernel_rfl) h_t_0 (by omega) (by (have := atP_lt (ns := t.All) (p := p); have := atP_ge t.All (p); have := hB.1; omega)) ?_
      intro v1432 hr1433
      obtain ⟨a1434, n1435, rfl⟩ := hr1433.form
      have R1436 : Row 59 kLeaf g (.slice (some ⟨b1429, 0, none⟩) 0 0) ([] : List Leaf) [(b1429, Obj.cells #[] 59 (0, 0))] := Row.lit (by kernel_rfl) (by unfold maxLen; decide) (by kernel_rfl) Reads.nil
      obtain ⟨ns1437, hs1438, hr1439⟩ := Src.slice (P := Tryz.prog) (hr1433.toH s1431.sub)
      refine Op.append (x := (.tmp 46)) (y := (.tmp 50)) (t := 52) (t' := 52) (dst := 51) (E := 59) (by_ := 72) (d := kLeaf) (by kernel_rfl) (by kernel_rfl) (by kernel_rfl) (by kernel_rfl) rfl R1436 s1431 0 rfl hs1438 (ys := t.All.take (atP t.All p : Int).toNat) hr1439 rfl (by (have := hB.1; have := atP_lt (ns := t.All) (p := p); simp only [List.length_take, List.length_drop, List.length_append, List.nil_append, List.length_nil] at *; omega)) (fun _ _ _ => trivial) ?_
      intro v1440 ch1441 h1442 R1443 s1444 nn1445
      obtain ⟨a1446, n1447, rfl⟩ := R1443.form
      refine Op.pures 1 [3, 6, 10, 11] (L' := []) (e' := [(3, .pointer (some ⟨b1390, 0, none⟩)), (6, .pointer (some ⟨b1393, 0, none⟩)), (10, .int .i64 (atP t.All p)), (11, .slice a1446 ((([] : List Leaf) ++ (t.All.take (atP t.All p : Int).toNat)).length) n1447)]) (by kernel_rfl) ?_
      refine Op.goto 20 (by kernel_rfl) ?_
      refine At.reg (L := [(0, false), (1, false), (2, false), (3, false), (4, false), (5, false), (6, false), (7, false), (8, false)]) (by kernel_rfl) ?_
      refine Op.pures 2 [3, 6, 10, 52, 53] (L' := [(2, false), (3, false), (4, false), (5, false), (6, false), (7, false), (8, false)]) (e' := [(3, .pointer (some ⟨b1390, 0, none⟩)), (6, .pointer (some ⟨b1393, 0, none⟩)), (10, .int .i64 (atP t.All p)), (52, .slice a1446 ((([] : List Leaf) ++ (t.All.take (atP t.All p : Int).toNat)).length) n1447), (53, .pointer (some ⟨b1390, 0, none⟩))]) (by kernel_rfl) ?_
      refine Op.load (T := 52) (x := (.tmp 53)) (o := 0) (d := 54) (n := 1) (v := .slice a_t_0 t.All.length n_t_0) (by kernel_rfl) (by kernel_rfl) (by kernel_rfl) (s1444.chunk 3 rfl) (by kernel_rfl) ?_
      refine Op.pures 1 [3, 6, 52, 54, 55] (L' := [(4, false), (5, false), (6, false), (7, false), (8, false)]) (e' := [(3, .pointer (some ⟨b1390, 0, none⟩)), (6, .pointer (some ⟨b1393, 0, none⟩)), (52, .slice a1446 ((([] : List Leaf) ++ (t.All.take (atP t.All p : Int).toNat)).length) n1447), (54, .slice a_t_0 t.All.length n_t_0), (55, .int .i64 (atP t.All p))]) (by kernel_rfl) ?_
      refine Op.val (dst := some 56) (v := .int .i64 (IntKind.wrap .i64 ((atP t.All p) + 1))) (v' := .int .i64 ((atP t.All p) + 1)) (by kernel_rfl) (wrapEq_i64 (by omega) (by (have := atP_lt (ns := t.All) (p := p); have := atP_ge t.All (p); have := hB.1; omega))) ?_
      refine Op.slLoD (T := 52) (E := 59) (by_ := 72) (x := (.tmp 54)) (ao := a_t_0) (n := t.All.length) (c := n_t_0) (dst := 57) (d := kLeaf) (lo := (.tmp 56)) (k := .i64) (m := (atP t.All p) + 1) (by kernel_rfl) (by kernel_rfl) (by kernel_rfl) (by kernel_rfl) h_t_0 (by omega) (by (have := atP_lt (ns := t.All) (p := p); have := atP_ge t.All (p); have := hB.1; omega)) ?_
      intro v1448 hr1449
      obtain ⟨a1450, n1451, rfl⟩ := hr1449.form
      obtain ⟨ns1452, hs1453, hr1454⟩ := Src.slice (P := Tryz.prog) (hr1449.toH s1444.sub)
      refine Op.append (x := (.tmp 52)) (y := (.tmp 57)) (t := 52) (t' := 52) (dst := 58) (E := 59) (by_ := 72) (d := kLeaf) (by kernel_rfl) (by kernel_rfl) (by kernel_rfl) (by kernel_rfl) rfl R1443 s1444 0 rfl hs1453 (ys := t.All.drop ((atP t.All p) + 1 : Int).toNat) hr1454 rfl (by (have := hB.1; have := atP_lt (ns := t.All) (p := p); simp only [List.length_take, List.length_drop, List.length_append, List.nil_append, List.length_nil] at *; omega)) (fun _ _ _ => trivial) ?_
      intro v1455 ch1456 h1457 R1458 s1459 nn1460
      obtain ⟨a1461, n1462, rfl⟩ := R1458.form
      refine Op.pures 1 [3, 6, 58, 59] (L' := [(8, false)]) (e' := [(3, .pointer (some ⟨b1390, 0, none⟩)), (6, .pointer (some ⟨b1393, 0, none⟩)), (58, .slice a1461 (((([] : List Leaf) ++ (t.All.take (atP t.All p : Int).toNat)) ++ (t.All.drop ((atP t.All p) + 1 : Int).toNat)).length) n1462), (59, .pointer (some ⟨b1390, 0, none⟩))]) (by kernel_rfl) ?_
      refine Op.store (T := 52) (x := (.tmp 59)) (y := (.tmp 58)) (b := b1390) (o := 0) (vs := [.slice a1461 (((([] : List Leaf) ++ (t.All.take (atP t.All p : Int).toNat)) ++ (t.All.drop ((atP t.All p) + 1 : Int).toNat)).length) n1462]) (a? := false) (n := 1) (by kernel_rfl) (by kernel_rfl) (by kernel_rfl) (by kernel_rfl) rfl (by simp [Value.oneCell']) s1459 3 rfl (Nat.le_of_ble_eq_true (by kernel_rfl)) (cs := #[.slice a_t_0 t.All.length n_t_0]) (cs' := #[.slice a1461 (((([] : List Leaf) ++ (t.All.take (atP t.All p : Int).toNat)) ++ (t.All.drop ((atP t.All p) + 1 : Int).toNat)).length) n1462]) (by kernel_rfl) (fun _ => trivial) ?_
      intro h1463 s1464
      refine Op.goto 21 (by kernel_rfl) ?_
      refine At.reg (L := [(0, false), (1, false), (2, false)]) (by kernel_rfl) ?_
      refine Op.loadA (T := 75) (x := (.tmp 3)) (o := 0) (d := 60) (n := 1) (vs := [.slice a1461 (((([] : List Leaf) ++ (t.All.take (atP t.All p : Int).toNat)) ++ (t.All.drop ((atP t.All p) + 1 : Int).toNat)).length) n1462]) (by kernel_rfl) (by kernel_rfl) (by kernel_rfl) (s1464.chunk 3 rfl) (by kernel_rfl) rfl ?_
      refine Op.store (T := 75) (x := (.tmp 6)) (y := (.tmp 60)) (b := b1393) (o := 0) (vs := [.slice a1461 (((([] : List Leaf) ++ (t.All.take (atP t.All p : Int).toNat)) ++ (t.All.drop ((atP t.All p) + 1 : Int).toNat)).length) n1462]) (a? := true) (n := 1) (by kernel_rfl) (by kernel_rfl) (by kernel_rfl) (by kernel_rfl) rfl (by simp [Value.oneCell']) s1464 2 rfl (Nat.le_of_ble_eq_true (by kernel_rfl)) (cs := #[.slice none 0 0]) (cs' := #[.slice a1461 (((([] : List Leaf) ++ (t.All.take (atP t.All p : Int).toNat)) ++ (t.All.drop ((atP t.All p) + 1 : Int).toNat)).length) n1462]) (by kernel_rfl) (fun _ => trivial) ?_
      intro h1465 s1466
      refine Op.pures 1 [6, 7] (L' := []) (e' := [(6, .pointer (some ⟨b1393, 0, none⟩)), (7, .int .i64 0)]) (by kernel_rfl) ?_
      refine Op.goto 22 (by kernel_rfl) ?_
      obtain ⟨g1467, s1468, hle1469, hf1470⟩ := Row.freeze R1458 (s1466.front 0 rfl)
      replace R1419 := R1419.mono hle1469
      replace hG := hG.mono hle1469
      refine At.retM (f := Tryz.f45) (vs := [.agg #[.slice a1461 (((([] : List Leaf) ++ (t.All.take (atP t.All p : Int).toNat)) ++ (t.All.drop ((atP t.All p) + 1 : Int).toNat)).length) n1462], .int .i64 0]) (rl := [.cell 6 75, .tmp 7]) (v := .tuple #[.agg #[.slice a1461 (((([] : List Leaf) ++ (t.All.take (atP t.All p : Int).toNat)) ++ (t.All.drop ((atP t.All p) + 1 : Int).toNat)).length) n1462], .int .i64 0]) (by kernel_rfl) (by kernel_rfl) ⟨⟨_, _, rfl, resAgg (n := 1) (by kernel_rfl) (s1468.chunk 1 rfl) (by kernel_rfl) rfl⟩, rfl, trivial⟩ rfl ?_
      have s1471 : St h g (ids []) g1467 [] h1465 := (s1468).drop.drop.drop
      refine hR _ _ _ _ s1471 ⟨(.slice a1461 (((([] : List Leaf) ++ (t.All.take (atP t.All p : Int).toNat)) ++ (t.All.drop ((atP t.All p) + 1 : Int).toNat)).length) n1462), ?_, ?_, rfl⟩
      ·exact eqT2 rfl (eqI (by (rw [dr_5 (by assumption) (atP_atL (by assumption)) hvo (by assumption)]; first | done | rfl | (simp only [List.nil_append]; exact dr_del hs0 (by assumption)))))
      ·exact slEq hf1470 (by (rw [dr_5 (by assumption) (atP_atL (by assumption)) hvo (by assumption)]; first | done | rfl | (simp only [List.nil_append]; exact dr_del hs0 (by assumption))))
   refine At.reg (L := [(0, false), (1, false), (2, false), (3, false), (4, false), (5, false), (6, false), (7, false), (8, false), (9, false), (10, false), (11, false)]) (by kernel_rfl) ?_
   refine Op.pures 3 [1, 2, 3, 6, 10, 29] (L' := [(3, false), (4, false), (5, false), (6, false), (7, false), (8, false), (9, false), (10, false), (11, false)]) (e' := [(1, .string (mkS p)), (2, .int .i64 ver), (3, .pointer (some ⟨b1390, 0, none⟩)), (6, .pointer (some ⟨b1393, 0, none⟩)), (10, .int .i64 (atP t.All p)), (29, .bool (decide (ver ≥ (0 : Int))))]) (by kernel_rfl) ?_
   refine Op.ways (b := decide (ver ≥ (0 : Int))) ⟨fun hb => ?_, fun hb => ?_⟩
   ·refine Op.cast (e' := [(1, .string (mkS p)), (2, .int .i64 ver), (3, .pointer (some ⟨b1390, 0, none⟩)), (6, .pointer (some ⟨b1393, 0, none⟩)), (10, .int .i64 (atP t.All p)), (29, .bool true)]) (by rw [hb]) ?_
    have c1472 : ver ≥ (0 : Int) := of_decide_eq_true hb
    clear hb
    refine Op.pures 1 [1, 2, 3, 6, 10, 29, 30] (L' := [(4, false), (5, false), (6, false), (7, false), (8, false), (9, false), (10, false), (11, false)]) (e' := [(1, .string (mkS p)), (2, .int .i64 ver), (3, .pointer (some ⟨b1390, 0, none⟩)), (6, .pointer (some ⟨b1393, 0, none⟩)), (10, .int .i64 (atP t.All p)), (29, .bool true), (30, .pointer (some ⟨b1390, 0, none⟩))]) (by kernel_rfl) ?_
    refine Op.load (T := 52) (x := (.tmp 30)) (o := 0) (d := 31) (n := 1) (v := .slice a_t_0 t.All.length n_t_0) (by kernel_rfl) (by kernel_rfl) (by kernel_rfl) (s1406.chunk 1 rfl) (by kernel_rfl) ?_
    refine Op.pures 1 [1, 2, 3, 6, 10, 29, 31, 32] (L' := [(6, false), (7, false), (8, false), (9, false), (10, false), (11, false)]) (e' := [(1, .string (mkS p)), (2, .int .i64 ver), (3, .pointer (some ⟨b1390, 0, none⟩)), (6, .pointer (some ⟨b1393, 0, none⟩)), (10, .int .i64 (atP t.All p)), (29, .bool true), (31, .slice a_t_0 t.All.length n_t_0), (32, .int .i64 (atP t.All p))]) (by kernel_rfl) ?_
    obtain ⟨x1473, hx1474⟩ : ∃ c, t.All[(atP t.All p : Int).toNat]? = some c := ⟨_, List.getElem?_eq_getElem (by (have := atP_lt (ns := t.All) (p := p); have := atP_ge t.All (p); have := hB.1; omega))⟩
    obtain ⟨b1475, o1476, cu1477, fz1478, ha1479, hb1480, hk1481⟩ := SlR.at_ h_t_0 _ hx1474
    cases ha1479
    refine Op.idx (T := 52) (E := 59) (sz := 6) (by_ := 72) (n := t.All.length) (c := n_t_0) (k := .i64) (x := (.tmp 31)) (ix := (.tmp 32)) (dst := 33) (bk := b1475) (o := o1476) (m := atP t.All p) (by kernel_rfl) (by kernel_rfl) (by kernel_rfl) (by kernel_rfl) (by omega) (by (have := atP_lt (ns := t.All) (p := p); have := atP_ge t.All (p); have := hB.1; omega)) ?_
    obtain ⟨v1482, hv1483, hk1481⟩ := hk1481
    obtain ⟨a1484, n1485, rfl⟩ := hv1483.form
    refine Op.pures 1 [1, 2, 3, 6, 10, 29, 34] (L' := [(8, false), (9, false), (10, false), (11, false)]) (e' := [(1, .string (mkS p)), (2, .int .i64 ver), (3, .pointer (some ⟨b1390, 0, none⟩)), (6, .pointer (some ⟨b1393, 0, none⟩)), (10, .int .i64 (atP t.All p)), (29, .bool true), (34, .pointer (some ⟨b1475, o1476 + (atP t.All p : Int).toNat * 6 + 2, none⟩))]) (by kernel_rfl) ?_
    refine Op.load (T := 3) (x := (.tmp 34)) (o := o1476 + (atP t.All p : Int).toNat * 6 + 2) (d := 35) (n := 1) (v := .int .i64 x1473.Version) (by kernel_rfl) (by kernel_rfl) (by kernel_rfl) (s1406.sub _ _ hb1480) (cut_get hk1481 2 rfl) ?_
    refine Op.pures 3 [1, 3, 6, 10, 38] (L' := []) (e' := [(1, .string (mkS p)), (3, .pointer (some ⟨b1390, 0, none⟩)), (6, .pointer (some ⟨b1393, 0, none⟩)), (10, .int .i64 (atP t.All p)), (38, .bool (x1473.Version != ver))]) (by kernel_rfl) ?_
    refine Op.goto 12 (by kernel_rfl) ?_
    refine At.cond (b := x1473.Version != ver) (c := .tmp 38) (by kernel_rfl) (by kernel_rfl) (by kernel_rfl) 13 15 (by kernel_rfl) (by kernel_rfl) (fun hb => ?_) (fun hb => ?_)
    ·have c1486 : ¬ (x1473.Version = ver) := bneT hb
     clear hb
     refine At.keep [3, 6] ?_; show At _ _ _ [(3, .pointer (some ⟨b1390, 0, none⟩)), (6, .pointer (some ⟨b1393, 0, none⟩))] _
     refine At.reg (L := [(0, false), (1, false), (2, false)]) (by kernel_rfl) ?_
     refine Op.loadA (T := 75) (x := (.tmp 3)) (o := 0) (d := 39) (n := 1) (vs := [.slice (some ⟨b1475, o1476, none⟩) t.All.length n_t_0]) (by kernel_rfl) (by kernel_rfl) (by kernel_rfl) (s1406.chunk 1 rfl) (by kernel_rfl) rfl ?_
     refine Op.store (T := 75) (x := (.tmp 6)) (y := (.tmp 39)) (b := b1393) (o := 0) (vs := [.slice (some ⟨b1475, o1476, none⟩) t.All.length n_t_0]) (a? := true) (n := 1) (by kernel_rfl) (by kernel_rfl) (by kernel_rfl) (by kernel_rfl) rfl (by simp [Value.oneCell']) s1406 0 rfl (Nat.le_of_ble_eq_true (by kernel_rfl)) (cs := #[.slice none 0 0]) (cs' := #[.slice (some ⟨b1475, o1476, none⟩) t.All.length n_t_0]) (by kernel_rfl) (fun _ => trivial) ?_
     intro h1487 s1488
     refine Op.pures 1 [6, 7] (L' := []) (e' := [(6, .pointer (some ⟨b1393, 0, none⟩)), (7, .int .i64 102)]) (by kernel_rfl) ?_
     refine Op.goto 14 (by kernel_rfl) ?_
     refine At.retM (f := Tryz.f45) (vs := [.agg #[.slice (some ⟨b1475, o1476, none⟩) t.All.length n_t_0], .int .i64 102]) (rl := [.cell 6 75, .tmp 7]) (v := .tuple #[.agg #[.slice (some ⟨b1475, o1476, none⟩) t.All.length n_t_0], .int .i64 102]) (by kernel_rfl) (by kernel_rfl) ⟨⟨_, _, rfl, resAgg (n := 1) (by kernel_rfl) (s1488.chunk 0 rfl) (by kernel_rfl) rfl⟩, rfl, trivial⟩ rfl ?_
     have s1489 : St h g (ids []) g [] h1487 := (s1488).drop.drop
     refine hR _ _ _ _ s1489 ⟨(.slice (some ⟨b1475, o1476, none⟩) t.All.length n_t_0), ?_, ?_, rfl⟩
     ·exact eqT2 rfl (eqI (by (rw [dr_3 (by assumption) (atP_some (by assumption) hx1474) (by assumption) (by assumption)]; done)))
     ·exact slEq h_t_0 (by (rw [dr_3 (by assumption) (atP_some (by assumption) hx1474) (by assumption) (by assumption)]; done))
    ·have c1490 : x1473.Version = ver := bneF hb
     clear hb
     refine At.keep [1, 3, 6, 10] ?_; show At _ _ _ [(1, .string (mkS p)), (3, .pointer (some ⟨b1390, 0, none⟩)), (6, .pointer (some ⟨b1393, 0, none⟩)), (10, .int .i64 (atP t.All p))] _
     exact join15 _   _ (Nat.lt_succ_self _) (by (obtain ⟨y9, hy9, _⟩ := atP_some' (by assumption); rw [atL_eq hy9]; first | exact ver_ok1 (by assumption) | (have e9 := Option.some.inj (hy9.symm.trans hx1474); rw [e9]; exact ver_ok2 (by assumption))))  s1406
   ·refine Op.cast (e' := [(1, .string (mkS p)), (2, .int .i64 ver), (3, .pointer (some ⟨b1390, 0, none⟩)), (6, .pointer (some ⟨b1393, 0, none⟩)), (10, .int .i64 (atP t.All p)), (29, .bool false)]) (by rw [hb]) ?_
    have c1491 : ¬ (ver ≥ (0 : Int)) := of_decide_eq_false hb
    clear hb
    refine Op.pures 9 [1, 3, 6, 10, 38] (L' := []) (e' := [(1, .string (mkS p)), (3, .pointer (some ⟨b1390, 0, none⟩)), (6, .pointer (some ⟨b1393, 0, none⟩)), (10, .int .i64 (atP t.All p)), (38, .bool false)]) (by kernel_rfl) ?_
    refine Op.goto 12 (by kernel_rfl) ?_
    refine At.condF (c := .tmp 38) (by kernel_rfl) (by kernel_rfl) (by kernel_rfl) 15 (by kernel_rfl) ?_
    refine At.keep [1, 3, 6, 10] ?_; show At _ _ _ [(1, .string (mkS p)), (3, .pointer (some ⟨b1390, 0, none⟩)), (6, .pointer (some ⟨b1393, 0, none⟩)), (10, .int .i64 (atP t.All p))] _
    exact join15 _   _ (Nat.lt_succ_self _) (by (obtain ⟨y9, hy9, _⟩ := atP_some' (by assumption); rw [atL_eq hy9]; first | exact ver_ok1 (by assumption) | (have e9 := Option.some.inj (hy9.symm.trans {hx0}); rw [e9]; exact ver_ok2 (by assumption))))  s1406
theorem setR (B : World) (h : Heap) (g : GH) (hg : Sub g h) (hG : Glob g) (t : R10Tree) (v_t_0 : Value) (h_t_0 : SlR g 59 kLeaf v_t_0 t.All) (p : List UInt8) (v_data : Value) (data : List UInt8) (h_data : SlR g 5 kU8 v_data data) (ver : Int) (hB : TreeB t.All) (hp : p.length ≤ 1000000000) (hd : data.length ≤ 1000000000) :
  Spec Tryz.prog B 46 #[.agg #[v_t_0], .string (mkS p), v_data, .int .i64 ver] h g [] (fun rv g' L' => ∃ v0, rv = .tuple #[.agg #[v0], .int .i64 ((setT t.All p data ver).2.1), .int .i64 ((setT t.All p data ver).2.2)] ∧ SlR g' 59 kLeaf v0 ((⟨(setT t.All p data ver).1⟩ : R10Tree).All) ∧ L' = []) := by
 obtain ⟨a_t_0, n_t_0, rfl⟩ := h_t_0.form
 obtain ⟨a_data, n_data, rfl⟩ := h_data.form
 refine Spec.of_at (f := Tryz.f46) (e := [(0, .agg #[.slice a_t_0 t.All.length n_t_0]), (1, .string (mkS p)), (2, .slice a_data data.length n_data), (3, .int .i64 ver)]) Tryz.func46 (by kernel_rfl) (Nat.le_of_ble_eq_true (by kernel_rfl)) (by kernel_rfl) (by kernel_rfl) ?_
 intro R hR
 have s0 := St.init hg
 refine At.reg (L := [(0, false), (1, false), (2, false), (3, false)]) (by kernel_rfl) ?_
 refine Op.box (T := 75) (x := (.tmp 0)) (d := 4) (cs := #[.slice a_t_0 t.All.length n_t_0]) (by kernel_rfl) (by kernel_rfl) s0 ?_
 intro b1492 h1493 s1494
 refine Op.alloc (T := 75) (dst := 8) (cs := #[.slice none 0 0]) (by kernel_rfl) (by kernel_rfl) s1494 ?_
 intro b1495 h1496 s1497
 refine Op.pures 2 [1, 2, 3, 4, 8] (L' := []) (e' := [(1, .string (mkS p)), (2, .slice a_data data.length n_data), (3, .int .i64 ver), (4, .pointer (some ⟨b1492, 0, none⟩)), (8, .pointer (some ⟨b1495, 0, none⟩))]) (by kernel_rfl) ?_
 refine Op.goto 1 (by kernel_rfl) ?_
 refine At.reg (L := [(0, false), (1, false), (2, false)]) (by kernel_rfl) ?_
 refine Op.pures 1 [1, 2, 3, 4, 8, 13] (L' := [(1, false), (2, false)]) (e' := [(1, .string (mkS p)), (2, .slice a_data data.length n_data), (3, .int .i64 ver), (4, .pointer (some ⟨b1492, 0, none⟩)), (8, .pointer (some ⟨b1495, 0, none⟩)), (13, .string (mkS p))]) (by kernel_rfl) ?_
 refine Op.call0 (dst := some 14) (f := 90) (args := #[.string (mkS p)]) (by kernel_rfl) s1497 (checkR _ _ _ s1497.sub hG p (by ((try dsimp only) <;> (omega))) ) ?_
 rintro _ g1500 _ h1498 hle1501 s1499 ⟨rfl, hgg, rfl⟩; subst g1500; clear hle1501
 refine Op.pures 1 [1, 2, 3, 4, 8, 15] (L' := []) (e' := [(1, .string (mkS p)), (2, .slice a_data data.length n_data), (3, .int .i64 ver), (4, .pointer (some ⟨b1492, 0, none⟩)), (8, .pointer (some ⟨b1495, 0, none⟩)), (15, .bool ((pErr p) != (0 : Int)))]) (by kernel_rfl) ?_
 refine Op.goto 2 (by kernel_rfl) ?_
 refine At.cond (b := (pErr p) != (0 : Int)) (c := .tmp 15) (by kernel_rfl) (by kernel_rfl) (by kernel_rfl) 3 5 (by kernel_rfl) (by kernel_rfl) (fun hb => ?_) (fun hb => ?_)
 ·have c1502 : ¬ ((pErr p) = (0 : Int)) := bneT hb
  clear hb
  refine At.keep [4, 8] ?_; show At _ _ _ [(4, .pointer (some ⟨b1492, 0, none⟩)), (8, .pointer (some ⟨b1495, 0, none⟩))] _
  refine At.reg (L := [(0, false), (1, false), (2, false), (3, false)]) (by kernel_rfl) ?_
  refine Op.loadA (T := 75) (x := (.tmp 4)) (o := 0) (d := 16) (n := 1) (vs := [.slice a_t_0 t.All.length n_t_0]) (by kernel_rfl) (by kernel_rfl) (by kernel_rfl) (s1499.chunk 1 rfl) (by kernel_rfl) rfl ?_
  refine Op.store (T := 75) (x := (.tmp 8)) (y := (.tmp 16)) (b := b1495) (o := 0) (vs := [.slice a_t_0 t.All.length n_t_0]) (a? := true) (n := 1) (by kernel_rfl) (by kernel_rfl) (by kernel_rfl) (by kernel_rfl) rfl (by simp [Value.oneCell']) s1499 0 rfl (Nat.le_of_ble_eq_true (by kernel_rfl)) (cs := #[.slice none 0 0]) (cs' := #[.slice a_t_0 t.All.length n_t_0]) (by kernel_rfl) (fun _ => trivial) ?_
  intro h1503 s1504
  refine Op.pures 2 [8, 9, 10] (L' := []) (e' := [(8, .pointer (some ⟨b1495, 0, none⟩)), (9, .int .i64 0), (10, .int .i64 90)]) (by kernel_rfl) ?_
  refine Op.goto 4 (by kernel_rfl) ?_
  refine At.retM (f := Tryz.f46) (vs := [.agg #[.slice a_t_0 t.All.length n_t_0], .int .i64 0, .int .i64 90]) (rl := [.cell 8 75, .tmp 9, .tmp 10]) (v := .tuple #[.agg #[.slice a_t_0 t.All.length n_t_0], .int .i64 0, .int .i64 90]) (by kernel_rfl) (by kernel_rfl) ⟨⟨_, _, rfl, resAgg (n := 1) (by kernel_rfl) (s1504.chunk 0 rfl) (by kernel_rfl) rfl⟩, rfl, rfl, trivial⟩ rfl ?_
  have s1505 : St h g (ids []) g [] h1503 := (s1504).drop.drop
  refine hR _ _ _ _ s1505 ⟨(.slice a_t_0 t.All.length n_t_0), ?_, ?_, rfl⟩
  ·exact eqT3 rfl (eqI (by (rw [st_1 (by assumption)]; done))) (eqI (by (rw [st_1 (by assumption)]; done)))
  ·exact slEq h_t_0 (by (rw [st_1 (by assumption)]; done))
 ·have c1506 : (pErr p) = (0 : Int) := bneF hb
  clear hb
  refine At.keep [1, 2, 3, 4, 8] ?_; show At _ _ _ [(1, .string (mkS p)), (2, .slice a_data data.length n_data), (3, .int .i64 ver), (4, .pointer (some ⟨b1492, 0, none⟩)), (8, .pointer (some ⟨b1495, 0, none⟩))] _
  refine At.reg (L := [(0, false), (1, false), (2, false), (3, false)]) (by kernel_rfl) ?_
  refine Op.loadA (T := 75) (x := (.tmp 4)) (o := 0) (d := 17) (n := 1) (vs := [.slice a_t_0 t.All.length n_t_0]) (by kernel_rfl) (by kernel_rfl) (by kernel_rfl) (s1499.chunk 1 rfl) (by kernel_rfl) rfl ?_
  refine Op.pures 1 [2, 3, 4, 8, 17, 18] (L' := [(2, false), (3, false)]) (e' := [(2, .slice a_data data.length n_data), (3, .int .i64 ver), (4, .pointer (some ⟨b1492, 0, none⟩)), (8, .pointer (some ⟨b1495, 0, none⟩)), (17, .agg #[.slice a_t_0 t.All.length n_t_0]), (18, .string (mkS p))]) (by kernel_rfl) ?_
  refine Op.call0 (dst := some 19) (f := 86) (args := #[.agg #[.slice a_t_0 t.All.length n_t_0], .string (mkS p)]) (by kernel_rfl) s1499 (atR _ _ _ s1499.sub hG t _ h_t_0 p (by ((try dsimp only) <;> ((have := atP_lt (ns := t.All) (p := p); have := atP_ge t.All (p); have := hB.1; omega)))) ) ?_
  rintro _ g1509 _ h1507 hle1510 s1508 ⟨rfl, hgg, rfl⟩; subst g1509; clear hle1510
  refine Op.pures 1 [2, 3, 4, 8, 11] (L' := []) (e' := [(2, .slice a_data data.length n_data), (3, .int .i64 ver), (4, .pointer (some ⟨b1492, 0, none⟩)), (8, .pointer (some ⟨b1495, 0, none⟩)), (11, .int .i64 (atP t.All p))]) (by kernel_rfl) ?_
  refine Op.goto 6 (by kernel_rfl) ?_
  refine At.reg (L := [(0, false), (1, false)]) (by kernel_rfl) ?_
  refine Op.pures 2 [2, 3, 4, 8, 11, 21] (L' := []) (e' := [(2, .slice a_data data.length n_data), (3, .int .i64 ver), (4, .pointer (some ⟨b1492, 0, none⟩)), (8, .pointer (some ⟨b1495, 0, none⟩)), (11, .int .i64 (atP t.All p)), (21, .bool (decide ((atP t.All p) < (0 : Int))))]) (by kernel_rfl) ?_
  refine Op.goto 7 (by kernel_rfl) ?_
  refine At.cond (b := decide ((atP t.All p) < (0 : Int))) (c := .tmp 21) (by kernel_rfl) (by kernel_rfl) (by kernel_rfl) 8 10 (by kernel_rfl) (by kernel_rfl) (fun hb => ?_) (fun hb => ?_)
  ·have c1511 : (atP t.All p) < (0 : Int) := of_decide_eq_true hb
   clear hb
   refine At.keep [4, 8] ?_; show At _ _ _ [(4, .pointer (some ⟨b1492, 0, none⟩)), (8, .pointer (some ⟨b1495, 0, none⟩))] _
   refine At.reg (L := [(0, false), (1, false), (2, false), (3, false)]) (by kernel_rfl) ?_
   refine Op.loadA (T := 75) (x := (.tmp 4)) (o := 0) (d := 22) (n := 1) (vs := [.slice a_t_0 t.All.length n_t_0]) (by kernel_rfl) (by kernel_rfl) (by kernel_rfl) (s1508.chunk 1 rfl) (by kernel_rfl) rfl ?_
   refine Op.store (T := 75) (x := (.tmp 8)) (y := (.tmp 22)) (b := b1495) (o := 0) (vs := [.slice a_t_0 t.All.length n_t_0]) (a? := true) (n := 1) (by kernel_rfl) (by kernel_rfl) (by kernel_rfl) (by kernel_rfl) rfl (by simp [Value.oneCell']) s1508 0 rfl (Nat.le_of_ble_eq_true (by kernel_rfl)) (cs := #[.slice none 0 0]) (cs' := #[.slice a_t_0 t.All.length n_t_0]) (by kernel_rfl) (fun _ => trivial) ?_
   intro h1512 s1513
   refine Op.pures 2 [8, 9, 10] (L' := []) (e' := [(8, .pointer (some ⟨b1495, 0, none⟩)), (9, .int .i64 0), (10, .int .i64 100)]) (by kernel_rfl) ?_
   refine Op.goto 9 (by kernel_rfl) ?_
   refine At.retM (f := Tryz.f46) (vs := [.agg #[.slice a_t_0 t.All.length n_t_0], .int .i64 0, .int .i64 100]) (rl := [.cell 8 75, .tmp 9, .tmp 10]) (v := .tuple #[.agg #[.slice a_t_0 t.All.length n_t_0], .int .i64 0, .int .i64 100]) (by kernel_rfl) (by kernel_rfl) ⟨⟨_, _, rfl, resAgg (n := 1) (by kernel_rfl) (s1513.chunk 0 rfl) (by kernel_rfl) rfl⟩, rfl, rfl, trivial⟩ rfl ?_
   have s1514 : St h g (ids []) g [] h1512 := (s1513).drop.drop
   refine hR _ _ _ _ s1514 ⟨(.slice a_t_0 t.All.length n_t_0), ?_, ?_, rfl⟩
   ·exact eqT3 rfl (eqI (by (rw [st_2 (by assumption) (by assumption)]; done))) (eqI (by (rw [st_2 (by assumption) (by assumption)]; done)))
   ·exact slEq h_t_0 (by (rw [st_2 (by assumption) (by assumption)]; done))
  ·have c1515 : ¬ ((atP t.All p) < (0 : Int)) := of_decide_eq_false hb
   clear hb
   refine At.keep [2, 3, 4, 8, 11] ?_; show At _ _ _ [(2, .slice a_data data.length n_data), (3, .int .i64 ver), (4, .pointer (some ⟨b1492, 0, none⟩)), (8, .pointer (some ⟨b1495, 0, none⟩)), (11, .int .i64 (atP t.All p))] _
   refine At.reg (L := [(0, false), (1, false), (2, false), (3, false), (4, false), (5, false), (6, false)]) (by kernel_rfl) ?_
   refine Op.pures 1 [2, 3, 4, 8, 11, 23] (L' := [(1, false), (2, false), (3, false), (4, false), (5, false), (6, false)]) (e' := [(2, .slice a_data data.length n_data), (3, .int .i64 ver), (4, .pointer (some ⟨b1492, 0, none⟩)), (8, .pointer (some ⟨b1495, 0, none⟩)), (11, .int .i64 (atP t.All p)), (23, .pointer (some ⟨b1492, 0, none⟩))]) (by kernel_rfl) ?_
   refine Op.load (T := 52) (x := (.tmp 23)) (o := 0) (d := 24) (n := 1) (v := .slice a_t_0 t.All.length n_t_0) (by kernel_rfl) (by kernel_rfl) (by kernel_rfl) (s1508.chunk 1 rfl) (by kernel_rfl) ?_
   refine Op.pures 1 [2, 3, 4, 8, 24, 25] (L' := [(3, false), (4, false), (5, false), (6, false)]) (e' := [(2, .slice a_data data.length n_data), (3, .int .i64 ver), (4, .pointer (some ⟨b1492, 0, none⟩)), (8, .pointer (some ⟨b1495, 0, none⟩)), (24, .slice a_t_0 t.All.length n_t_0), (25, .int .i64 (atP t.All p))]) (by kernel_rfl) ?_
   obtain ⟨x1516, hx1517⟩ : ∃ c, t.All[(atP t.All p : Int).toNat]? = some c := ⟨_, List.getElem?_eq_getElem (by (have := atP_lt (ns := t.All) (p := p); have := atP_ge t.All (p); have := hB.1; omega))⟩
   obtain ⟨b1518, o1519, cu1520, fz1521, ha1522, hb1523, hk1524⟩ := SlR.at_ h_t_0 _ hx1517
   cases ha1522
   refine Op.idx (T := 52) (E := 59) (sz := 6) (by_ := 72) (n := t.All.length) (c := n_t_0) (k := .i64) (x := (.tmp 24)) (ix := (.tmp 25)) (dst := 26) (bk := b1518) (o := o1519) (m := atP t.All p) (by kernel_rfl) (by kernel_rfl) (by kernel_rfl) (by kernel_rfl) (by omega) (by (have := atP_lt (ns := t.All) (p := p); have := atP_ge t.All (p); have := hB.1; omega)) ?_
   obtain ⟨v1525, hv1526, hk1524⟩ := hk1524
   obtain ⟨a1527, n1528, rfl⟩ := hv1526.form
   refine Op.loadA (T := 59) (x := (.tmp 26)) (o := o1519 + (atP t.All p : Int).toNat * 6) (d := 27) (n := 6) (vs := [.string (mkS x1516.Path), .slice a1527 x1516.Data.length n1528, .int .i64 x1516.Version, .int .i64 x1516.Owner, .int .i64 x1516.Next, .int .i64 x1516.Born]) (by kernel_rfl) (by kernel_rfl) (by kernel_rfl) (s1508.sub _ _ hb1523) (hk1524) rfl ?_
   refine Op.alloc (T := 59) (dst := 12) (cs := #[.string (mkS []), .slice none 0 0, .int .i64 0, .int .i64 0, .int .i64 0, .int .i64 0]) (by kernel_rfl) (by kernel_rfl) s1508 ?_
   intro b1529 h1530 s1531
   refine Op.store (T := 59) (x := (.tmp 12)) (y := (.tmp 27)) (b := b1529) (o := 0) (vs := [.string (mkS x1516.Path), .slice a1527 x1516.Data.length n1528, .int .i64 x1516.Version, .int .i64 x1516.Owner, .int .i64 x1516.Next, .int .i64 x1516.Born]) (a? := true) (n := 6) (by kernel_rfl) (by kernel_rfl) (by kernel_rfl) (by kernel_rfl) rfl (by simp [Value.oneCell']) s1531 0 rfl (Nat.le_of_ble_eq_true (by kernel_rfl)) (cs := #[.string (mkS []), .slice none 0 0, .int .i64 0, .int .i64 0, .int .i64 0, .int .i64 0]) (cs' := #[.string (mkS x1516.Path), .slice a1527 x1516.Data.length n1528, .int .i64 x1516.Version, .int .i64 x1516.Owner, .int .i64 x1516.Next, .int .i64 x1516.Born]) (by kernel_rfl) (fun _ => trivial) ?_
   intro h1532 s1533
   refine Op.goto 11 (by kernel_rfl) ?_
   have join15 : ∀ (m : Nat)  (h1534 : Heap) (hm : 0 < m) (hvo : ¬ (ver ≥ 0 ∧ x1516.Version ≠ ver))     (s_join151533 : St h g (ids []) g [[(b1529, Obj.cells #[.string (mkS x1516.Path), .slice a1527 x1516.Data.length n1528, .int .i64 x1516.Version, .int .i64 x1516.Owner, .int .i64 x1516.Next, .int .i64 x1516.Born] 59 (0, 0))], [(b1495, Obj.cells #[.slice none 0 0] 75 (0, 0))], [(b1492, Obj.cells #[.slice (some ⟨b1518, o1519, none⟩) t.All.length n_t_0] 75 (0, 0))]] h1534), At (fctx Tryz.prog B 46 Tryz.f46 R) [] 15 [(2, .slice a_data data.length n_data), (4, .pointer (some ⟨b1492, 0, none⟩)), (8, .pointer (some ⟨b1495, 0, none⟩)), (12, .pointer (some ⟨b1529, 0, none⟩))] h1534 := by
    intro m; induction m with
    | zero => intros; omega
    | succ m ih15 =>
     intro h1534 hm hvo s_join151533
     refine At.reg (L := [(0, false), (1, false), (2, false)]) (by kernel_rfl) ?_
     refine Op.pures 3 [2, 4, 8, 12, 39] (L' := []) (e' := [(2, .slice a_data data.length n_data), (4, .pointer (some ⟨b1492, 0, none⟩)), (8, .pointer (some ⟨b1495, 0, none⟩)), (12, .pointer (some ⟨b1529, 0, none⟩)), (39, .bool (decide ((data.length : Int) > (128 : Int))))]) (by kernel_rfl) ?_
     refine Op.goto 16 (by kernel_rfl) ?_
     refine At.cond (b := decide ((data.length : Int) > (128 : Int))) (c := .tmp 39) (by kernel_rfl) (by kernel_rfl) (by kernel_rfl) 17 19 (by kernel_rfl) (by kernel_rfl) (fun hb => ?_) (fun hb => ?_)
     ·have c1535 : (data.length : Int) > (128 : Int) := of_decide_eq_true hb
      clear hb
      refine At.keep [4, 8] ?_; show At _ _ _ [(4, .pointer (some ⟨b1492, 0, none⟩)), (8, .pointer (some ⟨b1495, 0, none⟩))] _
      refine At.reg (L := [(0, false), (1, false), (2, false), (3, false)]) (by kernel_rfl) ?_
      refine Op.loadA (T := 75) (x := (.tmp 4)) (o := 0) (d := 40) (n := 1) (vs := [.slice (some ⟨b1518, o1519, none⟩) t.All.length n_t_0]) (by kernel_rfl) (by kernel_rfl) (by kernel_rfl) (s_join151533.chunk 2 rfl) (by kernel_rfl) rfl ?_
      refine Op.store (T := 75) (x := (.tmp 8)) (y := (.tmp 40)) (b := b1495) (o := 0) (vs := [.slice (some ⟨b1518, o1519, none⟩) t.All.length n_t_0]) (a? := true) (n := 1) (by kernel_rfl) (by kernel_rfl) (by kernel_rfl) (by kernel_rfl) rfl (by simp [Value.oneCell']) s_join151533 1 rfl (Nat.le_of_ble_eq_true (by kernel_rfl)) (cs := #[.slice none 0 0]) (cs' := #[.slice (some ⟨b1518, o1519, none⟩) t.All.length n_t_0]) (by kernel_rfl) (fun _ => trivial) ?_
      intro h1536 s1537
      refine Op.pures 2 [8, 9, 10] (L' := []) (e' := [(8, .pointer (some ⟨b1495, 0, none⟩)), (9, .int .i64 0), (10, .int .i64 104)]) (by kernel_rfl) ?_
      refine Op.goto 18 (by kernel_rfl) ?_
      refine At.retM (f := Tryz.f46) (vs := [.agg #[.slice (some ⟨b1518, o1519, none⟩) t.All.length n_t_0], .int .i64 0, .int .i64 104]) (rl := [.cell 8 75, .tmp 9, .tmp 10]) (v := .tuple #[.agg #[.slice (some ⟨b1518, o1519, none⟩) t.All.length n_t_0], .int .i64 0, .int .i64 104]) (by kernel_rfl) (by kernel_rfl) ⟨⟨_, _, rfl, resAgg (n := 1) (by kernel_rfl) (s1537.chunk 1 rfl) (by kernel_rfl) rfl⟩, rfl, rfl, trivial⟩ rfl ?_
      have s1538 : St h g (ids []) g [] h1536 := (s1537).drop.drop.drop
      refine hR _ _ _ _ s1538 ⟨(.slice (some ⟨b1518, o1519, none⟩) t.All.length n_t_0), ?_, ?_, rfl⟩
      ·exact eqT3 rfl (eqI (by (rw [st_4 (by assumption) (atP_some (by assumption) hx1517) hvo (by assumption)]; done))) (eqI (by (rw [st_4 (by assumption) (atP_some (by assumption) hx1517) hvo (by assumption)]; done)))
      ·exact slEq h_t_0 (by (rw [st_4 (by assumption) (atP_some (by assumption) hx1517) hvo (by assumption)]; done))
     ·have c1539 : ¬ ((data.length : Int) > (128 : Int)) := of_decide_eq_false hb
      clear hb
      refine At.keep [2, 4, 8, 12] ?_; show At _ _ _ [(2, .slice a_data data.length n_data), (4, .pointer (some ⟨b1492, 0, none⟩)), (8, .pointer (some ⟨b1495, 0, none⟩)), (12, .pointer (some ⟨b1529, 0, none⟩))] _
      refine At.reg (L := [(0, false), (1, false), (2, false), (3, false)]) (by kernel_rfl) ?_
      refine Op.pures 1 [4, 8, 12, 41] (L' := [(1, false), (2, false), (3, false)]) (e' := [(4, .pointer (some ⟨b1492, 0, none⟩)), (8, .pointer (some ⟨b1495, 0, none⟩)), (12, .pointer (some ⟨b1529, 0, none⟩)), (41, .slice a_data data.length n_data)]) (by kernel_rfl) ?_
      refine Op.call0 (dst := some 42) (f := 29) (args := #[.slice a_data data.length n_data]) (by kernel_rfl) s_join151533 (copyBytes _ _ _ s_join151533.sub hG _ _ h_data (by ((try dsimp only) <;> (omega))) ) ?_
      rintro _ g1547 _ h1540 hle1548 s1541 ⟨v1542, ch1543, rfl, R1544, hgg, rfl⟩; subst g1547; clear hle1548
      obtain ⟨a1545, n1546, rfl⟩ := R1544.form
      refine Op.pures 1 [4, 8, 12, 42, 43] (L' := [(3, false)]) (e' := [(4, .pointer (some ⟨b1492, 0, none⟩)), (8, .pointer (some ⟨b1495, 0, none⟩)), (12, .pointer (some ⟨b1529, 0, none⟩)), (42, .slice a1545 ((data).length) n1546), (43, .pointer (some ⟨b1529, 1, none⟩))]) (by kernel_rfl) ?_
      refine Op.store (T := 29) (x := (.tmp 43)) (y := (.tmp 42)) (b := b1529) (o := 1) (vs := [.slice a1545 ((data).length) n1546]) (a? := false) (n := 1) (by kernel_rfl) (by kernel_rfl) (by kernel_rfl) (by kernel_rfl) rfl (by simp [Value.oneCell']) s1541 1 rfl (Nat.le_of_ble_eq_true (by kernel_rfl)) (cs := #[.string (mkS x1516.Path), .slice a1527 x1516.Data.length n1528, .int .i64 x1516.Version, .int .i64 x1516.Owner, .int .i64 x1516.Next, .int .i64 x1516.Born]) (cs' := #[.string (mkS x1516.Path), .slice a1545 ((data).length) n1546, .int .i64 x1516.Version, .int .i64 x1516.Owner, .int .i64 x1516.Next, .int .i64 x1516.Born]) (by kernel_rfl) (fun _ => trivial) ?_
      intro h1549 s1550
      refine Op.goto 20 (by kernel_rfl) ?_
      refine At.reg (L := [(0, false), (1, false), (2, false), (3, false), (4, false)]) (by kernel_rfl) ?_
      refine Op.pures 1 [4, 8, 12, 44] (L' := [(1, false), (2, false), (3, false), (4, false)]) (e' := [(4, .pointer (some ⟨b1492, 0, none⟩)), (8, .pointer (some ⟨b1495, 0, none⟩)), (12, .pointer (some ⟨b1529, 0, none⟩)), (44, .pointer (some ⟨b1529, 2, none⟩))]) (by kernel_rfl) ?_
      refine Op.load (T := 3) (x := (.tmp 44)) (o := 2) (d := 45) (n := 1) (v := .int .i64 x1516.Version) (by kernel_rfl) (by kernel_rfl) (by kernel_rfl) (s1550.chunk 1 rfl) (by kernel_rfl) ?_
      refine Op.val (dst := some 46) (v := .int .i64 (IntKind.wrap .i64 (x1516.Version + 1))) (v' := .int .i64 (IntKind.wrap .i64 (x1516.Version + 1))) (by kernel_rfl) rfl ?_
      refine Op.pures 1 [4, 8, 12, 46, 47] (L' := [(4, false)]) (e' := [(4, .pointer (some ⟨b1492, 0, none⟩)), (8, .pointer (some ⟨b1495, 0, none⟩)), (12, .pointer (some ⟨b1529, 0, none⟩)), (46, .int .i64 (IntKind.wrap .i64 (x1516.Version + 1))), (47, .pointer (some ⟨b1529, 2, none⟩))]) (by kernel_rfl) ?_
      refine Op.store (T := 3) (x := (.tmp 47)) (y := (.tmp 46)) (b := b1529) (o := 2) (vs := [.int .i64 (IntKind.wrap .i64 (x1516.Version + 1))]) (a? := false) (n := 1) (by kernel_rfl) (by kernel_rfl) (by kernel_rfl) (by kernel_rfl) rfl (by simp [Value.oneCell']) s1550 1 rfl (Nat.le_of_ble_eq_true (by kernel_rfl)) (cs := #[.string (mkS x1516.Path), .slice a1545 ((data).length) n1546, .int .i64 x1516.Version, .int .i64 x1516.Owner, .int .i64 x1516.Next, .int .i64 x1516.Born]) (cs' := #[.string (mkS x1516.Path), .slice a1545 ((data).length) n1546, .int .i64 (IntKind.wrap .i64 (x1516.Version + 1)), .int .i64 x1516.Owner, .int .i64 x1516.Next, .int .i64 x1516.Born]) (by kernel_rfl) (fun _ => trivial) ?_
      intro h1551 s1552
      refine Op.goto 21 (by kernel_rfl) ?_
      obtain ⟨g1553, s1554, hle1555, hf1556⟩ := Row.freeze R1544 (s1552.front 0 rfl)
      replace hG := hG.mono hle1555
      replace h_t_0 := h_t_0.mono hle1555
      refine At.draw (by kernel_rfl) (ids [[(b1495, Obj.cells #[.slice none 0 0] 75 (0, 0))]]) [(3, true), (0, true), (1, true), (4, true), (2, false), (5, false), (6, true), (7, true)] (by kernel_rfl) ?_
      refine Op.pures 1 [4, 8, 12, 51] (L' := [(0, true), (1, true), (4, true), (2, false), (5, false), (6, true), (7, true)]) (e' := [(4, .pointer (some ⟨b1492, 0, none⟩)), (8, .pointer (some ⟨b1495, 0, none⟩)), (12, .pointer (some ⟨b1529, 0, none⟩)), (51, .pointer (some ⟨b1529, 2, none⟩))]) (by kernel_rfl) ?_
      refine Op.loadAF (T := 75) (x := (.tmp 4)) (o := 0) (d := 48) (n := 1) (vs := [.slice (some ⟨b1518, o1519, none⟩) t.All.length n_t_0]) (by kernel_rfl) (by kernel_rfl) (by kernel_rfl) (fun h => (ids_or h).elim (s1554.apart 2 1 rfl rfl rfl) (fun h => absurd h (ids_nil _))) (s1554.chunk 2 rfl) (by kernel_rfl) rfl ?_
      refine Op.loadAF (T := 59) (x := (.tmp 12)) (o := 0) (d := 49) (n := 6) (vs := [.string (mkS x1516.Path), .slice a1545 ((data).length) n1546, .int .i64 (IntKind.wrap .i64 (x1516.Version + 1)), .int .i64 x1516.Owner, .int .i64 x1516.Next, .int .i64 x1516.Born]) (by kernel_rfl) (by kernel_rfl) (by kernel_rfl) (fun h => (ids_or h).elim (s1554.apart 0 1 rfl rfl rfl) (fun h => absurd h (ids_nil _))) (s1554.chunk 0 rfl) (by kernel_rfl) rfl ?_
      refine Op.loadF (T := 3) (x := (.tmp 51)) (o := 2) (d := 52) (n := 1) (v := .int .i64 (IntKind.wrap .i64 (x1516.Version + 1))) (by kernel_rfl) (by kernel_rfl) (by kernel_rfl) (fun h => (ids_or h).elim (s1554.apart 0 1 rfl rfl rfl) (fun h => absurd h (ids_nil _))) (s1554.chunk 0 rfl) (by kernel_rfl) ?_
      refine Op.call0 (dst := some 50) (f := 88) (args := #[.agg #[.slice (some ⟨b1518, o1519, none⟩) t.All.length n_t_0], .agg #[.string (mkS x1516.Path), .slice a1545 ((data).length) n1546, .int .i64 (IntKind.wrap .i64 (x1516.Version + 1)), .int .i64 x1516.Owner, .int .i64 x1516.Next, .int .i64 x1516.Born]]) (by kernel_rfl) s1554 (withR _ _ _ s1554.sub hG t _ h_t_0 (⟨x1516.Path, data, IntKind.wrap .i64 (x1516.Version + 1), x1516.Owner, x1516.Next, x1516.Born⟩ : Leaf) _ hf1556 (by ((try dsimp only) <;> ((have := atP_lt (ns := t.All) (p := p); have := atP_ge t.All (p); have := hB.1; omega)))) ) ?_
      rintro _ g1563 _ h1557 hle1564 s1558 ⟨v1559, rfl, hr1560, rfl⟩
      obtain ⟨a1561, n1562, rfl⟩ := hr1560.form
      replace hG := hG.mono hle1564
      replace h_t_0 := h_t_0.mono hle1564
      replace hf1556 := hf1556.mono hle1564
      refine Op.store (T := 75) (x := (.tmp 8)) (y := (.tmp 50)) (b := b1495) (o := 0) (vs := [.slice a1561 (((withL t.All (⟨x1516.Path, data, IntKind.wrap .i64 (x1516.Version + 1), x1516.Owner, x1516.Next, x1516.Born⟩ : Leaf))).length) n1562]) (a? := true) (n := 1) (by kernel_rfl) (by kernel_rfl) (by kernel_rfl) (by kernel_rfl) rfl (by simp [Value.oneCell']) s1558 1 rfl (Nat.le_of_ble_eq_true (by kernel_rfl)) (cs := #[.slice none 0 0]) (cs' := #[.slice a1561 (((withL t.All (⟨x1516.Path, data, IntKind.wrap .i64 (x1516.Version + 1), x1516.Owner, x1516.Next, x1516.Born⟩ : Leaf))).length) n1562]) (by kernel_rfl) (fun _ => ⟨(b1495, Obj.cells #[.slice none 0 0] 75 (0, 0)), by simp, rfl⟩) ?_
      intro h1565 s1566
      refine Op.pures 2 [8, 9, 10] (L' := []) (e' := [(8, .pointer (some ⟨b1495, 0, none⟩)), (9, .int .i64 (IntKind.wrap .i64 (x1516.Version + 1))), (10, .int .i64 0)]) (by kernel_rfl) ?_
      refine Op.goto 22 (by kernel_rfl) ?_
      refine At.retM (f := Tryz.f46) (vs := [.agg #[.slice a1561 (((withL t.All (⟨x1516.Path, data, IntKind.wrap .i64 (x1516.Version + 1), x1516.Owner, x1516.Next, x1516.Born⟩ : Leaf))).length) n1562], .int .i64 (IntKind.wrap .i64 (x1516.Version + 1)), .int .i64 0]) (rl := [.cell 8 75, .tmp 9, .tmp 10]) (v := .tuple #[.agg #[.slice a1561 (((withL t.All (⟨x1516.Path, data, IntKind.wrap .i64 (x1516.Version + 1), x1516.Owner, x1516.Next, x1516.Born⟩ : Leaf))).length) n1562], .int .i64 (IntKind.wrap .i64 (x1516.Version + 1)), .int .i64 0]) (by kernel_rfl) (by kernel_rfl) ⟨⟨_, _, rfl, resAgg (n := 1) (by kernel_rfl) (s1566.chunk 1 rfl) (by kernel_rfl) rfl⟩, rfl, rfl, trivial⟩ rfl ?_
      have s1567 : St h g (ids []) g1563 [] h1565 := (s1566).drop.drop.drop
      refine hR _ _ _ _ s1567 ⟨(.slice a1561 (((withL t.All (⟨x1516.Path, data, IntKind.wrap .i64 (x1516.Version + 1), x1516.Owner, x1516.Next, x1516.Born⟩ : Leaf))).length) n1562), ?_, ?_, rfl⟩
      ·exact eqT3 rfl (eqI (by (rw [st_5 (by assumption) (atP_some (by assumption) hx1517) hvo (by assumption)]; done))) (eqI (by (rw [st_5 (by assumption) (atP_some (by assumption) hx1517) hvo (by assumption)]; done)))
      ·exact slEq hr1560 (by (rw [st_5 (by assumption) (atP_some (by assumption) hx1517) hvo (by assumption)]; done))
   refine At.reg (L := [(0, false), (1, false), (2, false), (3, false), (4, false), (5, false), (6, false), (7, false)]) (by kernel_rfl) ?_
   refine Op.pures 3 [2, 3, 4, 8, 12, 30] (L' := [(3, false), (4, false), (5, false), (6, false), (7, false)]) (e' := [(2, .slice a_data data.length n_data), (3, .int .i64 ver), (4, .pointer (some ⟨b1492, 0, none⟩)), (8, .pointer (some ⟨b1495, 0, none⟩)), (12, .pointer (some ⟨b1529, 0, none⟩)), (30, .bool (decide (ver ≥ (0 : Int))))]) (by kernel_rfl) ?_
   refine Op.ways (b := decide (ver ≥ (0 : Int))) ⟨fun hb => ?_, fun hb => ?_⟩
   ·refine Op.cast (e' := [(2, .slice a_data data.length n_data), (3, .int .i64 ver), (4, .pointer (some ⟨b1492, 0, none⟩)), (8, .pointer (some ⟨b1495, 0, none⟩)), (12, .pointer (some ⟨b1529, 0, none⟩)), (30, .bool true)]) (by rw [hb]) ?_
    have c1568 : ver ≥ (0 : Int) := of_decide_eq_true hb
    clear hb
    refine Op.pures 1 [2, 3, 4, 8, 12, 30, 31] (L' := [(4, false), (5, false), (6, false), (7, false)]) (e' := [(2, .slice a_data data.length n_data), (3, .int .i64 ver), (4, .pointer (some ⟨b1492, 0, none⟩)), (8, .pointer (some ⟨b1495, 0, none⟩)), (12, .pointer (some ⟨b1529, 0, none⟩)), (30, .bool true), (31, .pointer (some ⟨b1529, 2, none⟩))]) (by kernel_rfl) ?_
    refine Op.load (T := 3) (x := (.tmp 31)) (o := 2) (d := 32) (n := 1) (v := .int .i64 x1516.Version) (by kernel_rfl) (by kernel_rfl) (by kernel_rfl) (s1533.chunk 0 rfl) (by kernel_rfl) ?_
    refine Op.pures 3 [2, 4, 8, 12, 35] (L' := []) (e' := [(2, .slice a_data data.length n_data), (4, .pointer (some ⟨b1492, 0, none⟩)), (8, .pointer (some ⟨b1495, 0, none⟩)), (12, .pointer (some ⟨b1529, 0, none⟩)), (35, .bool (x1516.Version != ver))]) (by kernel_rfl) ?_
    refine Op.goto 12 (by kernel_rfl) ?_
    refine At.cond (b := x1516.Version != ver) (c := .tmp 35) (by kernel_rfl) (by kernel_rfl) (by kernel_rfl) 13 15 (by kernel_rfl) (by kernel_rfl) (fun hb => ?_) (fun hb => ?_)
    ·have c1569 : ¬ (x1516.Version = ver) := bneT hb
     clear hb
     refine At.keep [4, 8] ?_; show At _ _ _ [(4, .pointer (some ⟨b1492, 0, none⟩)), (8, .pointer (some ⟨b1495, 0, none⟩))] _
     refine At.reg (L := [(0, false), (1, false), (2, false), (3, false)]) (by kernel_rfl) ?_
     refine Op.loadA (T := 75) (x := (.tmp 4)) (o := 0) (d := 36) (n := 1) (vs := [.slice (some ⟨b1518, o1519, none⟩) t.All.length n_t_0]) (by kernel_rfl) (by kernel_rfl) (by kernel_rfl) (s1533.chunk 2 rfl) (by kernel_rfl) rfl ?_
     refine Op.store (T := 75) (x := (.tmp 8)) (y := (.tmp 36)) (b := b1495) (o := 0) (vs := [.slice (some ⟨b1518, o1519, none⟩) t.All.length n_t_0]) (a? := true) (n := 1) (by kernel_rfl) (by kernel_rfl) (by kernel_rfl) (by kernel_rfl) rfl (by simp [Value.oneCell']) s1533 1 rfl (Nat.le_of_ble_eq_true (by kernel_rfl)) (cs := #[.slice none 0 0]) (cs' := #[.slice (some ⟨b1518, o1519, none⟩) t.All.length n_t_0]) (by kernel_rfl) (fun _ => trivial) ?_
     intro h1570 s1571
     refine Op.pures 2 [8, 9, 10] (L' := []) (e' := [(8, .pointer (some ⟨b1495, 0, none⟩)), (9, .int .i64 0), (10, .int .i64 102)]) (by kernel_rfl) ?_
     refine Op.goto 14 (by kernel_rfl) ?_
     refine At.retM (f := Tryz.f46) (vs := [.agg #[.slice (some ⟨b1518, o1519, none⟩) t.All.length n_t_0], .int .i64 0, .int .i64 102]) (rl := [.cell 8 75, .tmp 9, .tmp 10]) (v := .tuple #[.agg #[.slice (some ⟨b1518, o1519, none⟩) t.All.length n_t_0], .int .i64 0, .int .i64 102]) (by kernel_rfl) (by kernel_rfl) ⟨⟨_, _, rfl, resAgg (n := 1) (by kernel_rfl) (s1571.chunk 1 rfl) (by kernel_rfl) rfl⟩, rfl, rfl, trivial⟩ rfl ?_
     have s1572 : St h g (ids []) g [] h1570 := (s1571).drop.drop.drop
     refine hR _ _ _ _ s1572 ⟨(.slice (some ⟨b1518, o1519, none⟩) t.All.length n_t_0), ?_, ?_, rfl⟩
     ·exact eqT3 rfl (eqI (by (rw [st_3 (by assumption) (atP_some (by assumption) hx1517) (by assumption) (by assumption)]; done))) (eqI (by (rw [st_3 (by assumption) (atP_some (by assumption) hx1517) (by assumption) (by assumption)]; done)))
     ·exact slEq h_t_0 (by (rw [st_3 (by assumption) (atP_some (by assumption) hx1517) (by assumption) (by assumption)]; done))
    ·have c1573 : x1516.Version = ver := bneF hb
     clear hb
     refine At.keep [2, 4, 8, 12] ?_; show At _ _ _ [(2, .slice a_data data.length n_data), (4, .pointer (some ⟨b1492, 0, none⟩)), (8, .pointer (some ⟨b1495, 0, none⟩)), (12, .pointer (some ⟨b1529, 0, none⟩))] _
     exact join15 _   _ (Nat.lt_succ_self _) (by exact ver_ok2 (by assumption))  s1533
   ·refine Op.cast (e' := [(2, .slice a_data data.length n_data), (3, .int .i64 ver), (4, .pointer (some ⟨b1492, 0, none⟩)), (8, .pointer (some ⟨b1495, 0, none⟩)), (12, .pointer (some ⟨b1529, 0, none⟩)), (30, .bool false)]) (by rw [hb]) ?_
    have c1574 : ¬ (ver ≥ (0 : Int)) := of_decide_eq_false hb
    clear hb
    refine Op.pures 5 [2, 4, 8, 12, 35] (L' := []) (e' := [(2, .slice a_data data.length n_data), (4, .pointer (some ⟨b1492, 0, none⟩)), (8, .pointer (some ⟨b1495, 0, none⟩)), (12, .pointer (some ⟨b1529, 0, none⟩)), (35, .bool false)]) (by kernel_rfl) ?_
    refine Op.goto 12 (by kernel_rfl) ?_
    refine At.condF (c := .tmp 35) (by kernel_rfl) (by kernel_rfl) (by kernel_rfl) 15 (by kernel_rfl) ?_
    refine At.keep [2, 4, 8, 12] ?_; show At _ _ _ [(2, .slice a_data data.length n_data), (4, .pointer (some ⟨b1492, 0, none⟩)), (8, .pointer (some ⟨b1495, 0, none⟩)), (12, .pointer (some ⟨b1529, 0, none⟩))] _
    exact join15 _   _ (Nat.lt_succ_self _) (by exact ver_ok1 (by assumption))  s1533
theorem getR (B : World) (h : Heap) (g : GH) (hg : Sub g h) (hG : Glob g) (t : R10Tree) (v_t_0 : Value) (h_t_0 : SlR g 59 kLeaf v_t_0 t.All) (p : List UInt8) (hB : TreeB t.All) (hp : p.length ≤ 1000000000) :
  Spec Tryz.prog B 47 #[.agg #[v_t_0], .string (mkS p)] h g [] (fun rv g' L' => ∃ v0, rv = .tuple #[.agg #[.string (mkS (((getT t.All p).1).Path)), v0, .int .i64 (((getT t.All p).1).Version), .int .i64 (((getT t.All p).1).Owner), .int .i64 (((getT t.All p).1).Next), .int .i64 (((getT t.All p).1).Born)], .int .i64 ((getT t.All p).2)] ∧ SlR g' 5 kU8 v0 (((getT t.All p).1).Data) ∧ L' = []) := by
 obtain ⟨a_t_0, n_t_0, rfl⟩ := h_t_0.form
 refine Spec.of_at (f := Tryz.f47) (e := [(0, .agg #[.slice a_t_0 t.All.length n_t_0]), (1, .string (mkS p))]) Tryz.func47 (by kernel_rfl) (Nat.le_of_ble_eq_true (by kernel_rfl)) (by kernel_rfl) (by kernel_rfl) ?_
 intro R hR
 have s0 := St.init hg
 refine At.reg (L := [(0, false), (1, false), (2, false)]) (by kernel_rfl) ?_
 refine Op.box (T := 75) (x := (.tmp 0)) (d := 2) (cs := #[.slice a_t_0 t.All.length n_t_0]) (by kernel_rfl) (by kernel_rfl) s0 ?_
 intro b1575 h1576 s1577
 refine Op.alloc (T := 59) (dst := 4) (cs := #[.string (mkS []), .slice none 0 0, .int .i64 0, .int .i64 0, .int .i64 0, .int .i64 0]) (by kernel_rfl) (by kernel_rfl) s1577 ?_
 intro b1578 h1579 s1580
 refine Op.pures 1 [1, 2, 4] (L' := []) (e' := [(1, .string (mkS p)), (2, .pointer (some ⟨b1575, 0, none⟩)), (4, .pointer (some ⟨b1578, 0, none⟩))]) (by kernel_rfl) ?_
 refine Op.goto 1 (by kernel_rfl) ?_
 refine At.reg (L := [(0, false), (1, false), (2, false)]) (by kernel_rfl) ?_
 refine Op.pures 1 [1, 2, 4, 7] (L' := [(1, false), (2, false)]) (e' := [(1, .string (mkS p)), (2, .pointer (some ⟨b1575, 0, none⟩)), (4, .pointer (some ⟨b1578, 0, none⟩)), (7, .string (mkS p))]) (by kernel_rfl) ?_
 refine Op.call0 (dst := some 8) (f := 90) (args := #[.string (mkS p)]) (by kernel_rfl) s1580 (checkR _ _ _ s1580.sub hG p (by ((try dsimp only) <;> (omega))) ) ?_
 rintro _ g1583 _ h1581 hle1584 s1582 ⟨rfl, hgg, rfl⟩; subst g1583; clear hle1584
 refine Op.pures 1 [1, 2, 4, 9] (L' := []) (e' := [(1, .string (mkS p)), (2, .pointer (some ⟨b1575, 0, none⟩)), (4, .pointer (some ⟨b1578, 0, none⟩)), (9, .bool ((pErr p) != (0 : Int)))]) (by kernel_rfl) ?_
 refine Op.goto 2 (by kernel_rfl) ?_
 refine At.cond (b := (pErr p) != (0 : Int)) (c := .tmp 9) (by kernel_rfl) (by kernel_rfl) (by kernel_rfl) 3 5 (by kernel_rfl) (by kernel_rfl) (fun hb => ?_) (fun hb => ?_)
 ·have c1585 : ¬ ((pErr p) = (0 : Int)) := bneT hb
  clear hb
  refine At.keep [4] ?_; show At _ _ _ [(4, .pointer (some ⟨b1578, 0, none⟩))] _
  refine At.reg (L := [(0, false), (1, false), (2, false)]) (by kernel_rfl) ?_
  refine Op.pures 1 [4, 10] (L' := [(1, false), (2, false)]) (e' := [(4, .pointer (some ⟨b1578, 0, none⟩)), (10, .agg #[.string (mkS []), .slice none 0 0, .int .i64 0, .int .i64 0, .int .i64 0, .int .i64 0])]) (by kernel_rfl) ?_
  refine Op.store (T := 59) (x := (.tmp 4)) (y := (.tmp 10)) (b := b1578) (o := 0) (vs := [.string (mkS []), .slice none 0 0, .int .i64 0, .int .i64 0, .int .i64 0, .int .i64 0]) (a? := true) (n := 6) (by kernel_rfl) (by kernel_rfl) (by kernel_rfl) (by kernel_rfl) rfl (by simp [Value.oneCell']) s1582 0 rfl (Nat.le_of_ble_eq_true (by kernel_rfl)) (cs := #[.string (mkS []), .slice none 0 0, .int .i64 0, .int .i64 0, .int .i64 0, .int .i64 0]) (cs' := #[.string (mkS []), .slice none 0 0, .int .i64 0, .int .i64 0, .int .i64 0, .int .i64 0]) (by kernel_rfl) (fun _ => trivial) ?_
  intro h1586 s1587
  refine Op.pures 1 [4, 5] (L' := []) (e' := [(4, .pointer (some ⟨b1578, 0, none⟩)), (5, .int .i64 90)]) (by kernel_rfl) ?_
  refine Op.goto 4 (by kernel_rfl) ?_
  refine At.retM (f := Tryz.f47) (vs := [.agg #[.string (mkS []), .slice none 0 0, .int .i64 0, .int .i64 0, .int .i64 0, .int .i64 0], .int .i64 90]) (rl := [.cell 4 59, .tmp 5]) (v := .tuple #[.agg #[.string (mkS []), .slice none 0 0, .int .i64 0, .int .i64 0, .int .i64 0, .int .i64 0], .int .i64 90]) (by kernel_rfl) (by kernel_rfl) ⟨⟨_, _, rfl, resAgg (n := 6) (by kernel_rfl) (s1587.chunk 0 rfl) (by kernel_rfl) rfl⟩, rfl, trivial⟩ rfl ?_
  have s1588 : St h g (ids []) g [] h1586 := (s1587).drop.drop
  refine hR _ _ _ _ s1588 ⟨(.slice none 0 0), ?_, ?_, rfl⟩
  ·exact eqT2 (by (rw [gt_1 (by assumption)]; done)) (eqI (by (rw [gt_1 (by assumption)]; done)))
  ·exact slEq (SlR.empty _ _ _ _ _) (by (rw [gt_1 (by assumption)]; done))
 ·have c1589 : (pErr p) = (0 : Int) := bneF hb
  clear hb
  refine At.keep [1, 2, 4] ?_; show At _ _ _ [(1, .string (mkS p)), (2, .pointer (some ⟨b1575, 0, none⟩)), (4, .pointer (some ⟨b1578, 0, none⟩))] _
  refine At.reg (L := [(0, false), (1, false), (2, false), (3, false)]) (by kernel_rfl) ?_
  refine Op.loadA (T := 75) (x := (.tmp 2)) (o := 0) (d := 11) (n := 1) (vs := [.slice a_t_0 t.All.length n_t_0]) (by kernel_rfl) (by kernel_rfl) (by kernel_rfl) (s1582.chunk 1 rfl) (by kernel_rfl) rfl ?_
  refine Op.pures 1 [2, 4, 11, 12] (L' := [(2, false), (3, false)]) (e' := [(2, .pointer (some ⟨b1575, 0, none⟩)), (4, .pointer (some ⟨b1578, 0, none⟩)), (11, .agg #[.slice a_t_0 t.All.length n_t_0]), (12, .string (mkS p))]) (by kernel_rfl) ?_
  refine Op.call0 (dst := some 13) (f := 86) (args := #[.agg #[.slice a_t_0 t.All.length n_t_0], .string (mkS p)]) (by kernel_rfl) s1582 (atR _ _ _ s1582.sub hG t _ h_t_0 p (by ((try dsimp only) <;> ((have := atP_lt (ns := t.All) (p := p); have := atP_ge t.All (p); have := hB.1; omega)))) ) ?_
  rintro _ g1592 _ h1590 hle1593 s1591 ⟨rfl, hgg, rfl⟩; subst g1592; clear hle1593
  refine Op.pures 1 [2, 4, 6] (L' := []) (e' := [(2, .pointer (some ⟨b1575, 0, none⟩)), (4, .pointer (some ⟨b1578, 0, none⟩)), (6, .int .i64 (atP t.All p))]) (by kernel_rfl) ?_
  refine Op.goto 6 (by kernel_rfl) ?_
  refine At.reg (L := [(0, false), (1, false)]) (by kernel_rfl) ?_
  refine Op.pures 2 [2, 4, 6, 15] (L' := []) (e' := [(2, .pointer (some ⟨b1575, 0, none⟩)), (4, .pointer (some ⟨b1578, 0, none⟩)), (6, .int .i64 (atP t.All p)), (15, .bool (decide ((atP t.All p) < (0 : Int))))]) (by kernel_rfl) ?_
  refine Op.goto 7 (by kernel_rfl) ?_
  refine At.cond (b := decide ((atP t.All p) < (0 : Int))) (c := .tmp 15) (by kernel_rfl) (by kernel_rfl) (by kernel_rfl) 8 10 (by kernel_rfl) (by kernel_rfl) (fun hb => ?_) (fun hb => ?_)
  ·have c1594 : (atP t.All p) < (0 : Int) := of_decide_eq_true hb
   clear hb
   refine At.keep [4] ?_; show At _ _ _ [(4, .pointer (some ⟨b1578, 0, none⟩))] _
   refine At.reg (L := [(0, false), (1, false), (2, false)]) (by kernel_rfl) ?_
   refine Op.pures 1 [4, 16] (L' := [(1, false), (2, false)]) (e' := [(4, .pointer (some ⟨b1578, 0, none⟩)), (16, .agg #[.string (mkS []), .slice none 0 0, .int .i64 0, .int .i64 0, .int .i64 0, .int .i64 0])]) (by kernel_rfl) ?_
   refine Op.store (T := 59) (x := (.tmp 4)) (y := (.tmp 16)) (b := b1578) (o := 0) (vs := [.string (mkS []), .slice none 0 0, .int .i64 0, .int .i64 0, .int .i64 0, .int .i64 0]) (a? := true) (n := 6) (by kernel_rfl) (by kernel_rfl) (by kernel_rfl) (by kernel_rfl) rfl (by simp [Value.oneCell']) s1591 0 rfl (Nat.le_of_ble_eq_true (by kernel_rfl)) (cs := #[.string (mkS []), .slice none 0 0, .int .i64 0, .int .i64 0, .int .i64 0, .int .i64 0]) (cs' := #[.string (mkS []), .slice none 0 0, .int .i64 0, .int .i64 0, .int .i64 0, .int .i64 0]) (by kernel_rfl) (fun _ => trivial) ?_
   intro h1595 s1596
   refine Op.pures 1 [4, 5] (L' := []) (e' := [(4, .pointer (some ⟨b1578, 0, none⟩)), (5, .int .i64 100)]) (by kernel_rfl) ?_
   refine Op.goto 9 (by kernel_rfl) ?_
   refine At.retM (f := Tryz.f47) (vs := [.agg #[.string (mkS []), .slice none 0 0, .int .i64 0, .int .i64 0, .int .i64 0, .int .i64 0], .int .i64 100]) (rl := [.cell 4 59, .tmp 5]) (v := .tuple #[.agg #[.string (mkS []), .slice none 0 0, .int .i64 0, .int .i64 0, .int .i64 0, .int .i64 0], .int .i64 100]) (by kernel_rfl) (by kernel_rfl) ⟨⟨_, _, rfl, resAgg (n := 6) (by kernel_rfl) (s1596.chunk 0 rfl) (by kernel_rfl) rfl⟩, rfl, trivial⟩ rfl ?_
   have s1597 : St h g (ids []) g [] h1595 := (s1596).drop.drop
   refine hR _ _ _ _ s1597 ⟨(.slice none 0 0), ?_, ?_, rfl⟩
   ·exact eqT2 (by (rw [gt_2 (by assumption) (by assumption)]; done)) (eqI (by (rw [gt_2 (by assumption) (by assumption)]; done)))
   ·exact slEq (SlR.empty _ _ _ _ _) (by (rw [gt_2 (by assumption) (by assumption)]; done))
  ·have c1598 : ¬ ((atP t.All p) < (0 : Int)) := of_decide_eq_false hb
   clear hb
   refine At.keep [2, 4, 6] ?_; show At _ _ _ [(2, .pointer (some ⟨b1575, 0, none⟩)), (4, .pointer (some ⟨b1578, 0, none⟩)), (6, .int .i64 (atP t.All p))] _
   refine At.reg (L := [(0, false), (1, false), (2, false), (3, false), (4, false), (5, false), (6, false), (7, false), (8, false), (9, false), (10, false)]) (by kernel_rfl) ?_
   refine Op.pures 1 [4, 6, 17] (L' := [(1, false), (2, false), (3, false), (4, false), (5, false), (6, false), (7, false), (8, false), (9, false), (10, false)]) (e' := [(4, .pointer (some ⟨b1578, 0, none⟩)), (6, .int .i64 (atP t.All p)), (17, .pointer (some ⟨b1575, 0, none⟩))]) (by kernel_rfl) ?_
   refine Op.load (T := 52) (x := (.tmp 17)) (o := 0) (d := 18) (n := 1) (v := .slice a_t_0 t.All.length n_t_0) (by kernel_rfl) (by kernel_rfl) (by kernel_rfl) (s1591.chunk 1 rfl) (by kernel_rfl) ?_
   refine Op.pures 2 [4, 18, 19, 20] (L' := [(4, false), (5, false), (6, false), (7, false), (8, false), (9, false), (10, false)]) (e' := [(4, .pointer (some ⟨b1578, 0, none⟩)), (18, .slice a_t_0 t.All.length n_t_0), (19, .int .i64 (atP t.All p)), (20, .int .i64 (atP t.All p))]) (by kernel_rfl) ?_
   refine Op.val (dst := some 21) (v := .int .i64 (IntKind.wrap .i64 ((atP t.All p) + 1))) (v' := .int .i64 ((atP t.All p) + 1)) (by kernel_rfl) (wrapEq_i64 (by omega) (by (have := atP_lt (ns := t.All) (p := p); have := atP_ge t.All (p); have := hB.1; omega))) ?_
   refine Op.slLoHiD (T := 52) (E := 59) (by_ := 72) (x := (.tmp 18)) (ao := a_t_0) (n := t.All.length) (c := n_t_0) (dst := 22) (d := kLeaf) (lo := (.tmp 19)) (hi := (.tmp 21)) (k := .i64) (k' := .i64) (m := atP t.All p) (m' := (atP t.All p) + 1) (by kernel_rfl) (by kernel_rfl) (by kernel_rfl) (by kernel_rfl) (by kernel_rfl) h_t_0 (by omega) (by omega) (by (have := atP_lt (ns := t.All) (p := p); have := atP_ge t.All (p); have := hB.1; omega)) ?_
   intro v1599 hr1600
   obtain ⟨a1601, n1602, rfl⟩ := hr1600.form
   refine Op.call0 (dst := some 23) (f := 51) (args := #[.slice a1601 (((t.All.take ((atP t.All p) + 1 : Int).toNat).drop (atP t.All p : Int).toNat).length) n1602]) (by kernel_rfl) s1591 (copyLeaves _ _ _ s1591.sub hG _ _ hr1600 (by ((try dsimp only) <;> ((have := atP_lt (ns := t.All) (p := p); simp only [List.length_take, List.length_drop]; have := hB.1; omega)))) (by ((try dsimp only) <;> ((intro n hn; have h7 := List.mem_of_mem_drop hn; have h8 := List.mem_of_mem_take h7; have := (hB.2 n h8).2.1; omega)))) ) ?_
   rintro _ g1609 _ h1603 hle1610 s1604 ⟨v1605, rfl, hr1606, rfl⟩
   obtain ⟨a1607, n1608, rfl⟩ := hr1606.form
   replace hG := hG.mono hle1610
   replace h_t_0 := h_t_0.mono hle1610
   replace hr1600 := hr1600.mono hle1610
   obtain ⟨x1611, hx1612⟩ : ∃ c, ((t.All.take ((atP t.All p) + 1 : Int).toNat).drop (atP t.All p : Int).toNat)[(0 : Int).toNat]? = some c := ⟨_, List.getElem?_eq_getElem (by (have := atP_lt (ns := t.All) (p := p); simp only [List.length_take, List.length_drop]; have := hB.1; omega))⟩
   obtain ⟨b1613, o1614, cu1615, fz1616, ha1617, hb1618, hk1619⟩ := SlR.at_ hr1606 _ hx1612
   cases ha1617
   refine Op.idx (T := 52) (E := 59) (sz := 6) (by_ := 72) (n := ((((t.All.take ((atP t.All p) + 1 : Int).toNat).drop (atP t.All p : Int).toNat)).length)) (c := n1608) (k := .i64) (x := (.tmp 23)) (ix := (.const (.int .i64 0))) (dst := 24) (bk := b1613) (o := o1614) (m := 0) (by kernel_rfl) (by kernel_rfl) (by kernel_rfl) (by kernel_rfl) (by omega) (by (have := atP_lt (ns := t.All) (p := p); simp only [List.length_take, List.length_drop]; have := hB.1; omega)) ?_
   obtain ⟨v1620, hv1621, hk1619⟩ := hk1619
   obtain ⟨a1622, n1623, rfl⟩ := hv1621.form
   refine Op.loadA (T := 59) (x := (.tmp 24)) (o := o1614 + (0 : Int).toNat * 6) (d := 25) (n := 6) (vs := [.string (mkS x1611.Path), .slice a1622 x1611.Data.length n1623, .int .i64 x1611.Version, .int .i64 x1611.Owner, .int .i64 x1611.Next, .int .i64 x1611.Born]) (by kernel_rfl) (by kernel_rfl) (by kernel_rfl) (s1604.sub _ _ hb1618) (hk1619) rfl ?_
   refine Op.store (T := 59) (x := (.tmp 4)) (y := (.tmp 25)) (b := b1578) (o := 0) (vs := [.string (mkS x1611.Path), .slice a1622 x1611.Data.length n1623, .int .i64 x1611.Version, .int .i64 x1611.Owner, .int .i64 x1611.Next, .int .i64 x1611.Born]) (a? := true) (n := 6) (by kernel_rfl) (by kernel_rfl) (by kernel_rfl) (by kernel_rfl) rfl (by simp [Value.oneCell']) s1604 0 rfl (Nat.le_of_ble_eq_true (by kernel_rfl)) (cs := #[.string (mkS []), .slice none 0 0, .int .i64 0, .int .i64 0, .int .i64 0, .int .i64 0]) (cs' := #[.string (mkS x1611.Path), .slice a1622 x1611.Data.length n1623, .int .i64 x1611.Version, .int .i64 x1611.Owner, .int .i64 x1611.Next, .int .i64 x1611.Born]) (by kernel_rfl) (fun _ => trivial) ?_
   intro h1624 s1625
   refine Op.pures 1 [4, 5] (L' := []) (e' := [(4, .pointer (some ⟨b1578, 0, none⟩)), (5, .int .i64 0)]) (by kernel_rfl) ?_
   refine Op.goto 11 (by kernel_rfl) ?_
   refine At.retM (f := Tryz.f47) (vs := [.agg #[.string (mkS x1611.Path), .slice a1622 x1611.Data.length n1623, .int .i64 x1611.Version, .int .i64 x1611.Owner, .int .i64 x1611.Next, .int .i64 x1611.Born], .int .i64 0]) (rl := [.cell 4 59, .tmp 5]) (v := .tuple #[.agg #[.string (mkS x1611.Path), .slice a1622 x1611.Data.length n1623, .int .i64 x1611.Version, .int .i64 x1611.Owner, .int .i64 x1611.Next, .int .i64 x1611.Born], .int .i64 0]) (by kernel_rfl) (by kernel_rfl) ⟨⟨_, _, rfl, resAgg (n := 6) (by kernel_rfl) (s1625.chunk 0 rfl) (by kernel_rfl) rfl⟩, rfl, trivial⟩ rfl ?_
   have s1626 : St h g (ids []) g1609 [] h1624 := (s1625).drop.drop
   refine hR _ _ _ _ s1626 ⟨(.slice a1622 x1611.Data.length n1623), ?_, ?_, rfl⟩
   ·exact eqT2 (by (rw [gt_3 (by assumption) (by assumption) hx1612]; done)) (eqI (by (rw [gt_3 (by assumption) (by assumption) hx1612]; done)))
   ·exact slEq hv1621 (by (rw [gt_3 (by assumption) (by assumption) hx1612]; done))
theorem kidsTR (B : World) (h : Heap) (g : GH) (hg : Sub g h) (hG : Glob g) (t : R10Tree) (v_t_0 : Value) (h_t_0 : SlR g 59 kLeaf v_t_0 t.All) (p : List UInt8) (hB : TreeB t.All) (hp : p.length ≤ 1000000000) :
  Spec Tryz.prog B 48 #[.agg #[v_t_0], .string (mkS p)] h g [] (fun rv g' L' => ∃ v0 k0, rv = .tuple #[v0, .int .i64 ((kidsT t.All p).2)] ∧ Row 9 kStr g' v0 ((kidsT t.All p).1) k0 ∧ L' = [k0]) := by
 obtain ⟨a_t_0, n_t_0, rfl⟩ := h_t_0.form
 refine Spec.of_at (f := Tryz.f48) (e := [(0, .agg #[.slice a_t_0 t.All.length n_t_0]), (1, .string (mkS p))]) Tryz.func48 (by kernel_rfl) (Nat.le_of_ble_eq_true (by kernel_rfl)) (by kernel_rfl) (by kernel_rfl) ?_
 intro R hR
 have s0 := St.init hg
 refine At.reg (L := [(0, false), (1, false), (2, false)]) (by kernel_rfl) ?_
 refine Op.box (T := 75) (x := (.tmp 0)) (d := 2) (cs := #[.slice a_t_0 t.All.length n_t_0]) (by kernel_rfl) (by kernel_rfl) s0 ?_
 intro b1627 h1628 s1629
 refine Op.pures 2 [1, 2] (L' := []) (e' := [(1, .string (mkS p)), (2, .pointer (some ⟨b1627, 0, none⟩))]) (by kernel_rfl) ?_
 refine Op.goto 1 (by kernel_rfl) ?_
 refine At.reg (L := [(0, false), (1, false), (2, false), (3, false), (4, false), (5, false), (6, false), (7, false), (8, false)]) (by kernel_rfl) ?_
 refine Op.loadA (T := 75) (x := (.tmp 2)) (o := 0) (d := 9) (n := 1) (vs := [.slice a_t_0 t.All.length n_t_0]) (by kernel_rfl) (by kernel_rfl) (by kernel_rfl) (s1629.chunk 0 rfl) (by kernel_rfl) rfl ?_
 refine Op.pures 1 [1, 2, 9, 10] (L' := [(2, false), (3, false), (4, false), (5, false), (6, false), (7, false), (8, false)]) (e' := [(1, .string (mkS p)), (2, .pointer (some ⟨b1627, 0, none⟩)), (9, .agg #[.slice a_t_0 t.All.length n_t_0]), (10, .string (mkS p))]) (by kernel_rfl) ?_
 refine Op.call0 (dst := some 11) (f := 47) (args := #[.agg #[.slice a_t_0 t.All.length n_t_0], .string (mkS p)]) (by kernel_rfl) s1629 (getR _ _ _ s1629.sub hG t _ h_t_0 p (by ((try dsimp only) <;> (omega))) (by ((try dsimp only) <;> (omega))) ) ?_
 rintro _ g1636 _ h1630 hle1637 s1631 ⟨v1632, rfl, hr1633, rfl⟩
 obtain ⟨a1634, n1635, rfl⟩ := hr1633.form
 replace hG := hG.mono hle1637
 replace h_t_0 := h_t_0.mono hle1637
 refine Op.pures 3 [1, 2, 12, 13] (L' := [(6, false), (7, false), (8, false)]) (e' := [(1, .string (mkS p)), (2, .pointer (some ⟨b1627, 0, none⟩)), (12, .agg #[.string (mkS (((getT t.All p).1).Path)), .slice a1634 ((((getT t.All p).1).Data).length) n1635, .int .i64 (((getT t.All p).1).Version), .int .i64 (((getT t.All p).1).Owner), .int .i64 (((getT t.All p).1).Next), .int .i64 (((getT t.All p).1).Born)]), (13, .int .i64 ((getT t.All p).2))]) (by kernel_rfl) ?_
 refine Op.alloc (T := 59) (dst := 6) (cs := #[.string (mkS []), .slice none 0 0, .int .i64 0, .int .i64 0, .int .i64 0, .int .i64 0]) (by kernel_rfl) (by kernel_rfl) s1631 ?_
 intro b1638 h1639 s1640
 refine Op.store (T := 59) (x := (.tmp 6)) (y := (.tmp 12)) (b := b1638) (o := 0) (vs := [.string (mkS (((getT t.All p).1).Path)), .slice a1634 ((((getT t.All p).1).Data).length) n1635, .int .i64 (((getT t.All p).1).Version), .int .i64 (((getT t.All p).1).Owner), .int .i64 (((getT t.All p).1).Next), .int .i64 (((getT t.All p).1).Born)]) (a? := true) (n := 6) (by kernel_rfl) (by kernel_rfl) (by kernel_rfl) (by kernel_rfl) rfl (by simp [Value.oneCell']) s1640 0 rfl (Nat.le_of_ble_eq_true (by kernel_rfl)) (cs := #[.string (mkS []), .slice none 0 0, .int .i64 0, .int .i64 0, .int .i64 0, .int .i64 0]) (cs' := #[.string (mkS (((getT t.All p).1).Path)), .slice a1634 ((((getT t.All p).1).Data).length) n1635, .int .i64 (((getT t.All p).1).Version), .int .i64 (((getT t.All p).1).Owner), .int .i64 (((getT t.All p).1).Next), .int .i64 (((getT t.All p).1).Born)]) (by kernel_rfl) (fun _ => trivial) ?_
 intro h1641 s1642
 refine Op.pures 1 [1, 2, 7] (L' := []) (e' := [(1, .string (mkS p)), (2, .pointer (some ⟨b1627, 0, none⟩)), (7, .int .i64 ((getT t.All p).2))]) (by kernel_rfl) ?_
 refine Op.goto 2 (by kernel_rfl) ?_
 refine At.reg (L := [(0, false), (1, false)]) (by kernel_rfl) ?_
 refine Op.pures 2 [1, 2, 7, 15] (L' := []) (e' := [(1, .string (mkS p)), (2, .pointer (some ⟨b1627, 0, none⟩)), (7, .int .i64 ((getT t.All p).2)), (15, .bool (((getT t.All p).2) != (0 : Int)))]) (by kernel_rfl) ?_
 refine Op.goto 3 (by kernel_rfl) ?_
 refine At.cond (b := ((getT t.All p).2) != (0 : Int)) (c := .tmp 15) (by kernel_rfl) (by kernel_rfl) (by kernel_rfl) 4 6 (by kernel_rfl) (by kernel_rfl) (fun hb => ?_) (fun hb => ?_)
 ·have c1643 : ¬ (((getT t.All p).2) = (0 : Int)) := bneT hb
  clear hb
  refine At.keep [7] ?_; show At _ _ _ [(7, .int .i64 ((getT t.All p).2))] _
  refine At.reg (L := [(0, false), (1, false), (2, false)]) (by kernel_rfl) ?_
  refine Op.pures 3 [4, 5] (L' := []) (e' := [(4, .slice none 0 0), (5, .int .i64 ((getT t.All p).2))]) (by kernel_rfl) ?_
  refine Op.goto 5 (by kernel_rfl) ?_
  have R1644 := Row.zero 9 kStr g1636 none
  have s1645 : St h g (ids []) g1636 ([] :: [[(b1638, Obj.cells #[.string (mkS (((getT t.All p).1).Path)), .slice a1634 ((((getT t.All p).1).Data).length) n1635, .int .i64 (((getT t.All p).1).Version), .int .i64 (((getT t.All p).1).Owner), .int .i64 (((getT t.All p).1).Next), .int .i64 (((getT t.All p).1).Born)] 59 (0, 0))], [(b1627, Obj.cells #[.slice a_t_0 t.All.length n_t_0] 75 (0, 0))]]) h1641 := St.flat (L := [[(b1638, Obj.cells #[.string (mkS (((getT t.All p).1).Path)), .slice a1634 ((((getT t.All p).1).Data).length) n1635, .int .i64 (((getT t.All p).1).Version), .int .i64 (((getT t.All p).1).Owner), .int .i64 (((getT t.All p).1).Next), .int .i64 (((getT t.All p).1).Born)] 59 (0, 0))], [(b1627, Obj.cells #[.slice a_t_0 t.All.length n_t_0] 75 (0, 0))]]) rfl s1642
  refine At.ret (f := Tryz.f48) (v := .tuple #[.slice none 0 0, .int .i64 ((getT t.All p).2)]) (by kernel_rfl) (by kernel_rfl) ?_
  have s1646 : St h g (ids []) g1636 [[(b1638, Obj.cells #[.string (mkS (((getT t.All p).1).Path)), .slice a1634 ((((getT t.All p).1).Data).length) n1635, .int .i64 (((getT t.All p).1).Version), .int .i64 (((getT t.All p).1).Owner), .int .i64 (((getT t.All p).1).Next), .int .i64 (((getT t.All p).1).Born)] 59 (0, 0))], [(b1627, Obj.cells #[.slice a_t_0 t.All.length n_t_0] 75 (0, 0))], []] h1641 := (((s1645.front 0 rfl).front 2 rfl).front 2 rfl)
  have s1647 : St h g (ids []) g1636 [[]] h1641 := (s1646).drop.drop
  refine hR _ _ _ _ s1647 ⟨(.slice none 0 0), [], ?_, ?_, rfl⟩
  ·exact eqT2 rfl (eqI (by (rw [kt_1 (by assumption)]; done)))
  ·exact rowEq R1644 (by (rw [kt_1 (by assumption)]; done))
 ·have c1648 : ((getT t.All p).2) = (0 : Int) := bneF hb
  clear hb
  refine At.keep [1, 2] ?_; show At _ _ _ [(1, .string (mkS p)), (2, .pointer (some ⟨b1627, 0, none⟩))] _
  refine At.reg (L := [(0, false), (1, false), (2, false), (3, false), (4, false)]) (by kernel_rfl) ?_
  refine Op.loadA (T := 75) (x := (.tmp 2)) (o := 0) (d := 17) (n := 1) (vs := [.slice a_t_0 t.All.length n_t_0]) (by kernel_rfl) (by kernel_rfl) (by kernel_rfl) (s1642.chunk 1 rfl) (by kernel_rfl) rfl ?_
  refine Op.pures 1 [17, 18] (L' := [(2, false), (3, false), (4, false)]) (e' := [(17, .agg #[.slice a_t_0 t.All.length n_t_0]), (18, .string (mkS p))]) (by kernel_rfl) ?_
  refine Op.call0 (dst := some 19) (f := 89) (args := #[.agg #[.slice a_t_0 t.All.length n_t_0], .string (mkS p)]) (by kernel_rfl) s1642 (kidsR _ _ _ s1642.sub hG t _ h_t_0 p (by ((try dsimp only) <;> ((have := hB.1; omega)))) (by ((try dsimp only) <;> (exact fun n hn => by have := (hB.2 n hn).1; omega))) ) ?_
  rintro _ g1656 _ h1649 hle1657 s1650 ⟨v1651, ch1652, rfl, R1653, hgg, rfl⟩; subst g1656; clear hle1657
  obtain ⟨a1654, n1655, rfl⟩ := R1653.form
  refine Op.pures 2 [4, 5] (L' := []) (e' := [(4, .slice a1654 ((kidsL t.All p).length) n1655), (5, .int .i64 0)]) (by kernel_rfl) ?_
  refine Op.goto 7 (by kernel_rfl) ?_
  refine At.ret (f := Tryz.f48) (v := .tuple #[.slice a1654 ((kidsL t.All p).length) n1655, .int .i64 0]) (by kernel_rfl) (by kernel_rfl) ?_
  have s1658 : St h g (ids []) g1636 [[(b1638, Obj.cells #[.string (mkS (((getT t.All p).1).Path)), .slice a1634 ((((getT t.All p).1).Data).length) n1635, .int .i64 (((getT t.All p).1).Version), .int .i64 (((getT t.All p).1).Owner), .int .i64 (((getT t.All p).1).Next), .int .i64 (((getT t.All p).1).Born)] 59 (0, 0))], [(b1627, Obj.cells #[.slice a_t_0 t.All.length n_t_0] 75 (0, 0))], ch1652] h1649 := (((s1650.front 0 rfl).front 2 rfl).front 2 rfl)
  have s1659 : St h g (ids []) g1636 [ch1652] h1649 := (s1658).drop.drop
  refine hR _ _ _ _ s1659 ⟨(.slice a1654 ((kidsL t.All p).length) n1655), ch1652, ?_, ?_, rfl⟩
  ·exact eqT2 rfl (eqI (by (rw [kt_2 (by assumption)]; done)))
  ·exact rowEq R1653 (by (rw [kt_2 (by assumption)]; done))
theorem ownedR (B : World) (h : Heap) (g : GH) (hg : Sub g h) (hG : Glob g) (t : R10Tree) (v_t_0 : Value) (h_t_0 : SlR g 59 kLeaf v_t_0 t.All) (v_ow : Value) (ow : List Int) (h_ow : SlR g 3 (kInt .i64) v_ow ow) (hB : TreeB t.All) (how : ow.length ≤ 1000000000) :
  Spec Tryz.prog B 50 #[.agg #[v_t_0], v_ow] h g [] (fun rv g' L' => ∃ v0 k0, rv = v0 ∧ Row 9 kStr g' v0 (ownedL t.All ow) k0 ∧ g' = g ∧ L' = [k0]) := by
 obtain ⟨a_t_0, n_t_0, rfl⟩ := h_t_0.form
 obtain ⟨a_ow, n_ow, rfl⟩ := h_ow.form
 refine Spec.of_at (f := Tryz.f50) (e := [(0, .agg #[.slice a_t_0 t.All.length n_t_0]), (1, .slice a_ow ow.length n_ow)]) Tryz.func50 (by kernel_rfl) (Nat.le_of_ble_eq_true (by kernel_rfl)) (by kernel_rfl) (by kernel_rfl) ?_
 intro R hR
 have s0 := St.init hg
 refine At.reg (L := [(0, false), (1, false)]) (by kernel_rfl) ?_
 refine Op.box (T := 75) (x := (.tmp 0)) (d := 2) (cs := #[.slice a_t_0 t.All.length n_t_0]) (by kernel_rfl) (by kernel_rfl) s0 ?_
 intro b1660 h1661 s1662
 refine Op.pures 1 [1, 2] (L' := []) (e' := [(1, .slice a_ow ow.length n_ow), (2, .pointer (some ⟨b1660, 0, none⟩))]) (by kernel_rfl) ?_
 refine Op.goto 1 (by kernel_rfl) ?_
 refine At.reg (L := [(0, false), (1, false)]) (by kernel_rfl) ?_
 refine Op.lit (T := 54) (len := 0) (parts := #[]) (dst := 9) (E := 9) (ps := []) (cs := #[]) (by kernel_rfl) (by kernel_rfl) (by kernel_rfl) s1662 ?_
 intro b1663 h1664 s1665
 refine Op.pures 1 [1, 2, 5] (L' := []) (e' := [(1, .slice a_ow ow.length n_ow), (2, .pointer (some ⟨b1660, 0, none⟩)), (5, .slice (some ⟨b1663, 0, none⟩) 0 0)]) (by kernel_rfl) ?_
 refine Op.goto 2 (by kernel_rfl) ?_
 refine At.reg (L := [(0, false), (1, false), (2, false), (3, false), (4, false)]) (by kernel_rfl) ?_
 refine Op.pures 1 [1, 2, 5, 10] (L' := [(1, false), (2, false), (3, false), (4, false)]) (e' := [(1, .slice a_ow ow.length n_ow), (2, .pointer (some ⟨b1660, 0, none⟩)), (5, .slice (some ⟨b1663, 0, none⟩) 0 0), (10, .pointer (some ⟨b1660, 0, none⟩))]) (by kernel_rfl) ?_
 refine Op.load (T := 52) (x := (.tmp 10)) (o := 0) (d := 11) (n := 1) (v := .slice a_t_0 t.All.length n_t_0) (by kernel_rfl) (by kernel_rfl) (by kernel_rfl) (s1665.chunk 1 rfl) (by kernel_rfl) ?_
 refine Op.pures 1 [1, 2, 5, 12] (L' := [(3, false), (4, false)]) (e' := [(1, .slice a_ow ow.length n_ow), (2, .pointer (some ⟨b1660, 0, none⟩)), (5, .slice (some ⟨b1663, 0, none⟩) 0 0), (12, .int .i64 (t.All.length : Int))]) (by kernel_rfl) ?_
 refine Op.val (dst := some 13) (v := .int .i64 (IntKind.wrap .i64 ((t.All.length : Int) - 1))) (v' := .int .i64 ((t.All.length : Int) - 1)) (by kernel_rfl) (wrapEq_i64 (by omega) (by (have := hB.1; omega))) ?_
 refine Op.pures 1 [1, 2, 5, 6] (L' := []) (e' := [(1, .slice a_ow ow.length n_ow), (2, .pointer (some ⟨b1660, 0, none⟩)), (5, .slice (some ⟨b1663, 0, none⟩) 0 0), (6, .int .i64 ((t.All.length : Int) - 1))]) (by kernel_rfl) ?_
 refine Op.goto 3 (by kernel_rfl) ?_
 have loop3 : ∀ (m : Nat) (out : List Str) (i : Int) (a1666 : Option Addr) (n1667 : Nat) (ch1668 : Chunk) (h1670 : Heap) (hm : (i + 1).toNat < m) (h0 : -1 ≤ i) (h3 : i < t.All.length) (ho : ownI t.All ow i out) (R1669 : Row 9 kStr g (.slice a1666 out.length n1667) out ch1668)    (s_loop31669 : St h g (ids []) g [ch1668, [(b1660, Obj.cells #[.slice a_t_0 t.All.length n_t_0] 75 (0, 0))]] h1670), At (fctx Tryz.prog B 50 Tryz.f50 R) [] 3 [(1, .slice a_ow ow.length n_ow), (2, .pointer (some ⟨b1660, 0, none⟩)), (5, .slice a1666 out.length n1667), (6, .int .i64 i)] h1670 := by
  intro m; induction m with
  | zero => intros; omega
  | succ m ih3 =>
   intro out i a1666 n1667 ch1668 h1670 hm h0 h3 ho R1669 s_loop31669
   refine At.reg (L := [(0, false), (1, false)]) (by kernel_rfl) ?_
   refine Op.pures 2 [1, 2, 5, 6, 15] (L' := []) (e' := [(1, .slice a_ow ow.length n_ow), (2, .pointer (some ⟨b1660, 0, none⟩)), (5, .slice a1666 out.length n1667), (6, .int .i64 i), (15, .bool (decide (i ≥ (0 : Int))))]) (by kernel_rfl) ?_
   refine Op.goto 4 (by kernel_rfl) ?_
   refine At.cond (b := decide (i ≥ (0 : Int))) (c := .tmp 15) (by kernel_rfl) (by kernel_rfl) (by kernel_rfl) 5 15 (by kernel_rfl) (by kernel_rfl) (fun hb => ?_) (fun hb => ?_)
   ·have c1671 : i ≥ (0 : Int) := of_decide_eq_true hb
    clear hb
    refine At.keep [1, 2, 5, 6] ?_; show At _ _ _ [(1, .slice a_ow ow.length n_ow), (2, .pointer (some ⟨b1660, 0, none⟩)), (5, .slice a1666 out.length n1667), (6, .int .i64 i)] _
    refine At.reg (L := [(0, false)]) (by kernel_rfl) ?_
    refine Op.pures 1 [1, 2, 5, 6, 7] (L' := []) (e' := [(1, .slice a_ow ow.length n_ow), (2, .pointer (some ⟨b1660, 0, none⟩)), (5, .slice a1666 out.length n1667), (6, .int .i64 i), (7, .bool false)]) (by kernel_rfl) ?_
    refine Op.goto 6 (by kernel_rfl) ?_
    refine At.reg (L := [(0, false)]) (by kernel_rfl) ?_
    refine Op.pures 1 [1, 2, 5, 6, 7, 8] (L' := []) (e' := [(1, .slice a_ow ow.length n_ow), (2, .pointer (some ⟨b1660, 0, none⟩)), (5, .slice a1666 out.length n1667), (6, .int .i64 i), (7, .bool false), (8, .int .i64 0)]) (by kernel_rfl) ?_
    refine Op.goto 7 (by kernel_rfl) ?_
    have loop7 : ∀ (m : Nat) (inn : Bool) (k : Int) (h1672 : Heap) (hm : ow.length - k.toNat < m) (h4 : 0 ≤ k) (h5 : k ≤ ow.length) (hin : inn = (ow.take k.toNat).any (fun c => decide (c = (atL t.All i).Owner)))     (s_loop71671 : St h g (ids []) g [ch1668, [(b1660, Obj.cells #[.slice a_t_0 t.All.length n_t_0] 75 (0, 0))]] h1672), At (fctx Tryz.prog B 50 Tryz.f50 R) [] 7 [(1, .slice a_ow ow.length n_ow), (2, .pointer (some ⟨b1660, 0, none⟩)), (5, .slice a1666 out.length n1667), (6, .int .i64 i), (7, .bool inn), (8, .int .i64 k)] h1672 := by
     intro m; induction m with
     | zero => intros; omega
     | succ m ih7 =>
      intro inn k h1672 hm h4 h5 hin s_loop71671
      refine At.reg (L := [(0, false), (1, false), (2, false), (3, false)]) (by kernel_rfl) ?_
      refine Op.pures 4 [1, 2, 5, 6, 7, 8, 21] (L' := []) (e' := [(1, .slice a_ow ow.length n_ow), (2, .pointer (some ⟨b1660, 0, none⟩)), (5, .slice a1666 out.length n1667), (6, .int .i64 i), (7, .bool inn), (8, .int .i64 k), (21, .bool (decide (k < (ow.length : Int))))]) (by kernel_rfl) ?_
      refine Op.goto 8 (by kernel_rfl) ?_
      refine At.cond (b := decide (k < (ow.length : Int))) (c := .tmp 21) (by kernel_rfl) (by kernel_rfl) (by kernel_rfl) 9 11 (by kernel_rfl) (by kernel_rfl) (fun hb => ?_) (fun hb => ?_)
      ·have c1673 : k < (ow.length : Int) := of_decide_eq_true hb
       clear hb
       refine At.keep [1, 2, 5, 6, 7, 8] ?_; show At _ _ _ [(1, .slice a_ow ow.length n_ow), (2, .pointer (some ⟨b1660, 0, none⟩)), (5, .slice a1666 out.length n1667), (6, .int .i64 i), (7, .bool inn), (8, .int .i64 k)] _
       refine At.draw (by kernel_rfl) (fun _ => False) [(0, true), (1, true), (2, true), (3, true), (4, true), (6, true), (8, true), (5, true), (7, false), (9, true), (10, true), (11, false), (12, true), (13, true), (14, true)] (by kernel_rfl) ?_
       refine Op.pures 2 [1, 2, 5, 6, 7, 8, 25] (L' := [(2, true), (3, true), (4, true), (6, true), (8, true), (5, true), (7, false), (9, true), (10, true), (11, false), (12, true), (13, true), (14, true)]) (e' := [(1, .slice a_ow ow.length n_ow), (2, .pointer (some ⟨b1660, 0, none⟩)), (5, .slice a1666 out.length n1667), (6, .int .i64 i), (7, .bool inn), (8, .int .i64 k), (25, .bool inn)]) (by kernel_rfl) ?_
       refine Op.ways (b := inn) ⟨fun hb => ?_, fun hb => ?_⟩
       ·refine Op.cast (e' := [(1, .slice a_ow ow.length n_ow), (2, .pointer (some ⟨b1660, 0, none⟩)), (5, .slice a1666 out.length n1667), (6, .int .i64 i), (7, .bool true), (8, .int .i64 k), (25, .bool true)]) (by rw [hb]) ?_
        have c1674 : inn = true := hb
        clear hb
        refine Op.pures 13 [1, 2, 5, 6, 7, 8] (L' := []) (e' := [(1, .slice a_ow ow.length n_ow), (2, .pointer (some ⟨b1660, 0, none⟩)), (5, .slice a1666 out.length n1667), (6, .int .i64 i), (7, .bool true), (8, .int .i64 k)]) (by kernel_rfl) ?_
        refine Op.goto 10 (by kernel_rfl) ?_
        refine At.reg (L := [(0, false), (1, false), (2, false)]) (by kernel_rfl) ?_
        refine Op.pures 1 [1, 2, 5, 6, 7, 8, 22] (L' := [(1, false), (2, false)]) (e' := [(1, .slice a_ow ow.length n_ow), (2, .pointer (some ⟨b1660, 0, none⟩)), (5, .slice a1666 out.length n1667), (6, .int .i64 i), (7, .bool true), (8, .int .i64 k), (22, .int .i64 k)]) (by kernel_rfl) ?_
        refine Op.val (dst := some 23) (v := .int .i64 (IntKind.wrap .i64 (k + 1))) (v' := .int .i64 (k + 1)) (by kernel_rfl) (wrapEq_i64 (by omega) (by omega)) ?_
        refine Op.pures 1 [1, 2, 5, 6, 7, 8] (L' := []) (e' := [(1, .slice a_ow ow.length n_ow), (2, .pointer (some ⟨b1660, 0, none⟩)), (5, .slice a1666 out.length n1667), (6, .int .i64 i), (7, .bool true), (8, .int .i64 (k + 1))]) (by kernel_rfl) ?_
        refine Op.goto 7 (by kernel_rfl) ?_
        exact ih7  true (k + 1) _ (by omega) (by omega) (by omega) (by exact anyO_t hin h4 (by assumption))  s_loop71671
       ·refine Op.cast (e' := [(1, .slice a_ow ow.length n_ow), (2, .pointer (some ⟨b1660, 0, none⟩)), (5, .slice a1666 out.length n1667), (6, .int .i64 i), (7, .bool false), (8, .int .i64 k), (25, .bool false)]) (by rw [hb]) ?_
        have c1675 : inn = false := hb
        clear hb
        refine Op.pures 2 [1, 2, 5, 6, 7, 8, 25, 26, 27] (L' := [(4, true), (6, true), (8, true), (5, true), (7, false), (9, true), (10, true), (11, false), (12, true), (13, true), (14, true)]) (e' := [(1, .slice a_ow ow.length n_ow), (2, .pointer (some ⟨b1660, 0, none⟩)), (5, .slice a1666 out.length n1667), (6, .int .i64 i), (7, .bool false), (8, .int .i64 k), (25, .bool false), (26, .slice a_ow ow.length n_ow), (27, .int .i64 k)]) (by kernel_rfl) ?_
        obtain ⟨x1676, hx1677⟩ : ∃ c, ow[(k : Int).toNat]? = some c := ⟨_, List.getElem?_eq_getElem (by omega)⟩
        obtain ⟨b1678, o1679, cu1680, fz1681, ha1682, hb1683, hk1684⟩ := SlR.at_ h_ow _ hx1677
        cases ha1682
        refine Op.idx (T := 44) (E := 3) (sz := 1) (by_ := 8) (n := ow.length) (c := n_ow) (k := .i64) (x := (.tmp 26)) (ix := (.tmp 27)) (dst := 28) (bk := b1678) (o := o1679) (m := k) (by kernel_rfl) (by kernel_rfl) (by kernel_rfl) (by kernel_rfl) (by omega) (by omega) ?_
        replace hk1684 : cut _ _ _ = [.int .i64 x1676] := hk1684
        refine Op.pures 2 [1, 2, 5, 6, 7, 8, 25, 28, 30, 32] (L' := [(5, true), (7, false), (9, true), (10, true), (11, false), (12, true), (13, true), (14, true)]) (e' := [(1, .slice (some ⟨b1678, o1679, none⟩) ow.length n_ow), (2, .pointer (some ⟨b1660, 0, none⟩)), (5, .slice a1666 out.length n1667), (6, .int .i64 i), (7, .bool false), (8, .int .i64 k), (25, .bool false), (28, .pointer (some ⟨b1678, o1679 + (k : Int).toNat * 1, none⟩)), (30, .pointer (some ⟨b1660, 0, none⟩)), (32, .int .i64 i)]) (by kernel_rfl) ?_
        refine Op.loadF (T := 3) (x := (.tmp 28)) (o := o1679 + (k : Int).toNat * 1) (d := 29) (n := 1) (v := .int .i64 x1676) (by kernel_rfl) (by kernel_rfl) (by kernel_rfl) (fun h => h) (s_loop71671.sub _ _ hb1683) (cut_get hk1684 0 rfl) ?_
        refine Op.load (T := 52) (x := (.tmp 30)) (o := 0) (d := 31) (n := 1) (v := .slice a_t_0 t.All.length n_t_0) (by kernel_rfl) (by kernel_rfl) (by kernel_rfl) (s_loop71671.chunk 1 rfl) (by kernel_rfl) ?_
        obtain ⟨x1685, hx1686⟩ : ∃ c, t.All[(i : Int).toNat]? = some c := ⟨_, List.getElem?_eq_getElem (by omega)⟩
        obtain ⟨b1687, o1688, cu1689, fz1690, ha1691, hb1692, hk1693⟩ := SlR.at_ h_t_0 _ hx1686
        cases ha1691
        refine Op.idx (T := 52) (E := 59) (sz := 6) (by_ := 72) (n := t.All.length) (c := n_t_0) (k := .i64) (x := (.tmp 31)) (ix := (.tmp 32)) (dst := 33) (bk := b1687) (o := o1688) (m := i) (by kernel_rfl) (by kernel_rfl) (by kernel_rfl) (by kernel_rfl) (by omega) (by omega) ?_
        obtain ⟨v1694, hv1695, hk1693⟩ := hk1693
        obtain ⟨a1696, n1697, rfl⟩ := hv1695.form
        refine Op.pures 1 [1, 2, 5, 6, 7, 8, 25, 29, 34] (L' := [(11, false), (12, true), (13, true), (14, true)]) (e' := [(1, .slice (some ⟨b1678, o1679, none⟩) ow.length n_ow), (2, .pointer (some ⟨b1660, 0, none⟩)), (5, .slice a1666 out.length n1667), (6, .int .i64 i), (7, .bool false), (8, .int .i64 k), (25, .bool false), (29, .int .i64 x1676), (34, .pointer (some ⟨b1687, o1688 + (i : Int).toNat * 6 + 3, none⟩))]) (by kernel_rfl) ?_
        refine Op.load (T := 3) (x := (.tmp 34)) (o := o1688 + (i : Int).toNat * 6 + 3) (d := 35) (n := 1) (v := .int .i64 x1685.Owner) (by kernel_rfl) (by kernel_rfl) (by kernel_rfl) (s_loop71671.sub _ _ hb1692) (cut_get hk1693 3 rfl) ?_
        refine Op.pures 3 [1, 2, 5, 6, 7, 8] (L' := []) (e' := [(1, .slice (some ⟨b1678, o1679, none⟩) ow.length n_ow), (2, .pointer (some ⟨b1660, 0, none⟩)), (5, .slice a1666 out.length n1667), (6, .int .i64 i), (7, .bool (x1676 == x1685.Owner)), (8, .int .i64 k)]) (by kernel_rfl) ?_
        refine Op.goto 10 (by kernel_rfl) ?_
        refine At.reg (L := [(0, false), (1, false), (2, false)]) (by kernel_rfl) ?_
        refine Op.pures 1 [1, 2, 5, 6, 7, 8, 22] (L' := [(1, false), (2, false)]) (e' := [(1, .slice (some ⟨b1678, o1679, none⟩) ow.length n_ow), (2, .pointer (some ⟨b1660, 0, none⟩)), (5, .slice a1666 out.length n1667), (6, .int .i64 i), (7, .bool (x1676 == x1685.Owner)), (8, .int .i64 k), (22, .int .i64 k)]) (by kernel_rfl) ?_
        refine Op.val (dst := some 23) (v := .int .i64 (IntKind.wrap .i64 (k + 1))) (v' := .int .i64 (k + 1)) (by kernel_rfl) (wrapEq_i64 (by omega) (by omega)) ?_
        refine Op.pures 1 [1, 2, 5, 6, 7, 8] (L' := []) (e' := [(1, .slice (some ⟨b1678, o1679, none⟩) ow.length n_ow), (2, .pointer (some ⟨b1660, 0, none⟩)), (5, .slice a1666 out.length n1667), (6, .int .i64 i), (7, .bool (x1676 == x1685.Owner)), (8, .int .i64 (k + 1))]) (by kernel_rfl) ?_
        refine Op.goto 7 (by kernel_rfl) ?_
        exact ih7  (x1676 == x1685.Owner) (k + 1) _ (by omega) (by omega) (by omega) (by exact anyO_s hin (by assumption) h4 hx1677 hx1686)  s_loop71671
      ·have c1698 : ¬ (k < (ow.length : Int)) := of_decide_eq_false hb
       clear hb
       refine At.keep [1, 2, 5, 6, 7] ?_; show At _ _ _ [(1, .slice a_ow ow.length n_ow), (2, .pointer (some ⟨b1660, 0, none⟩)), (5, .slice a1666 out.length n1667), (6, .int .i64 i), (7, .bool inn)] _
       refine At.reg (L := [(0, false)]) (by kernel_rfl) ?_
       refine Op.pures 1 [1, 2, 5, 6, 38] (L' := []) (e' := [(1, .slice a_ow ow.length n_ow), (2, .pointer (some ⟨b1660, 0, none⟩)), (5, .slice a1666 out.length n1667), (6, .int .i64 i), (38, .bool inn)]) (by kernel_rfl) ?_
       refine Op.goto 12 (by kernel_rfl) ?_
       refine At.cond (b := inn) (c := .tmp 38) (by kernel_rfl) (by kernel_rfl) (by kernel_rfl) 13 14 (by kernel_rfl) (by kernel_rfl) (fun hb => ?_) (fun hb => ?_)
       ·have c1699 : inn = true := hb
        clear hb
        refine At.keep [1, 2, 5, 6] ?_; show At _ _ _ [(1, .slice a_ow ow.length n_ow), (2, .pointer (some ⟨b1660, 0, none⟩)), (5, .slice a1666 out.length n1667), (6, .int .i64 i)] _
        refine At.reg (L := [(0, false), (1, false), (2, false), (3, false), (4, false), (5, false), (6, false), (7, false), (8, false), (9, false)]) (by kernel_rfl) ?_
        refine Op.pures 2 [1, 2, 5, 6, 39, 40] (L' := [(2, false), (3, false), (4, false), (5, false), (6, false), (7, false), (8, false), (9, false)]) (e' := [(1, .slice a_ow ow.length n_ow), (2, .pointer (some ⟨b1660, 0, none⟩)), (5, .slice a1666 out.length n1667), (6, .int .i64 i), (39, .slice a1666 out.length n1667), (40, .pointer (some ⟨b1660, 0, none⟩))]) (by kernel_rfl) ?_
        refine Op.load (T := 52) (x := (.tmp 40)) (o := 0) (d := 41) (n := 1) (v := .slice a_t_0 t.All.length n_t_0) (by kernel_rfl) (by kernel_rfl) (by kernel_rfl) (s_loop71671.chunk 1 rfl) (by kernel_rfl) ?_
        refine Op.pures 1 [1, 2, 5, 6, 39, 41, 42] (L' := [(4, false), (5, false), (6, false), (7, false), (8, false), (9, false)]) (e' := [(1, .slice a_ow ow.length n_ow), (2, .pointer (some ⟨b1660, 0, none⟩)), (5, .slice a1666 out.length n1667), (6, .int .i64 i), (39, .slice a1666 out.length n1667), (41, .slice a_t_0 t.All.length n_t_0), (42, .int .i64 i)]) (by kernel_rfl) ?_
        obtain ⟨x1700, hx1701⟩ : ∃ c, t.All[(i : Int).toNat]? = some c := ⟨_, List.getElem?_eq_getElem (by omega)⟩
        obtain ⟨b1702, o1703, cu1704, fz1705, ha1706, hb1707, hk1708⟩ := SlR.at_ h_t_0 _ hx1701
        cases ha1706
        refine Op.idx (T := 52) (E := 59) (sz := 6) (by_ := 72) (n := t.All.length) (c := n_t_0) (k := .i64) (x := (.tmp 41)) (ix := (.tmp 42)) (dst := 43) (bk := b1702) (o := o1703) (m := i) (by kernel_rfl) (by kernel_rfl) (by kernel_rfl) (by kernel_rfl) (by omega) (by omega) ?_
        obtain ⟨v1709, hv1710, hk1708⟩ := hk1708
        obtain ⟨a1711, n1712, rfl⟩ := hv1710.form
        refine Op.pures 1 [1, 2, 5, 6, 39, 44] (L' := [(6, false), (7, false), (8, false), (9, false)]) (e' := [(1, .slice a_ow ow.length n_ow), (2, .pointer (some ⟨b1660, 0, none⟩)), (5, .slice a1666 out.length n1667), (6, .int .i64 i), (39, .slice a1666 out.length n1667), (44, .pointer (some ⟨b1702, o1703 + (i : Int).toNat * 6, none⟩))]) (by kernel_rfl) ?_
        refine Op.load (T := 9) (x := (.tmp 44)) (o := o1703 + (i : Int).toNat * 6) (d := 45) (n := 1) (v := .string (mkS x1700.Path)) (by kernel_rfl) (by kernel_rfl) (by kernel_rfl) (s_loop71671.sub _ _ hb1707) (cut_get hk1708 0 rfl) ?_
        refine Op.lit (T := 54) (len := 1) (parts := #[(0, (.tmp 45))]) (dst := 46) (E := 9) (ps := [(0, .string (mkS x1700.Path))]) (cs := #[.string (mkS x1700.Path)]) (by kernel_rfl) (by kernel_rfl) (by kernel_rfl) s_loop71671 ?_
        intro b1713 h1714 s1715
        refine Op.append (x := (.tmp 39)) (y := (.tmp 46)) (t := 54) (t' := 54) (dst := 47) (E := 9) (by_ := 16) (d := kStr) (by kernel_rfl) (by kernel_rfl) (by kernel_rfl) (by kernel_rfl) rfl R1669 s1715 1 rfl (Src.lit (m := 1) (sz := 1) (s1715.chunk 0 rfl) (news := [.string (mkS x1700.Path)]) rfl rfl (by simp [Value.oneCell']) _) (ys := [x1700.Path]) (⟨_, _, rfl, rfl, Reads.nil⟩) rfl (by (have := ownI_len ho; have := hB.1; simp only [List.length_cons, List.length_nil]; omega)) (fun _ _ _ => trivial) ?_
        intro v1716 ch1717 h1718 R1719 s1720 nn1721
        obtain ⟨a1722, n1723, rfl⟩ := R1719.form
        have s1724 := (s1720.front 0 rfl).drop
        refine Op.pures 1 [1, 2, 5, 6] (L' := []) (e' := [(1, .slice a_ow ow.length n_ow), (2, .pointer (some ⟨b1660, 0, none⟩)), (5, .slice a1722 ((out ++ ([x1700.Path])).length) n1723), (6, .int .i64 i)]) (by kernel_rfl) ?_
        refine Op.goto 14 (by kernel_rfl) ?_
        refine At.reg (L := [(0, false), (1, false), (2, false)]) (by kernel_rfl) ?_
        refine Op.pures 1 [1, 2, 5, 6, 16] (L' := [(1, false), (2, false)]) (e' := [(1, .slice a_ow ow.length n_ow), (2, .pointer (some ⟨b1660, 0, none⟩)), (5, .slice a1722 ((out ++ ([x1700.Path])).length) n1723), (6, .int .i64 i), (16, .int .i64 i)]) (by kernel_rfl) ?_
        refine Op.val (dst := some 17) (v := .int .i64 (IntKind.wrap .i64 (i - 1))) (v' := .int .i64 (i - 1)) (by kernel_rfl) (wrapEq_i64 (by omega) (by (have := hB.1; omega))) ?_
        refine Op.pures 1 [1, 2, 5, 6] (L' := []) (e' := [(1, .slice a_ow ow.length n_ow), (2, .pointer (some ⟨b1660, 0, none⟩)), (5, .slice a1722 ((out ++ ([x1700.Path])).length) n1723), (6, .int .i64 (i - 1))]) (by kernel_rfl) ?_
        refine Op.goto 3 (by kernel_rfl) ?_
        exact ih3  (out ++ ([x1700.Path])) (i - 1) _ _ _ _ (by omega) (by omega) (by omega) (by exact ownI_in ho (by omega) hx1701 hin (by assumption) (by assumption)) R1719 s1724
       ·have c1725 : inn = false := hb
        clear hb
        refine At.keep [1, 2, 5, 6] ?_; show At _ _ _ [(1, .slice a_ow ow.length n_ow), (2, .pointer (some ⟨b1660, 0, none⟩)), (5, .slice a1666 out.length n1667), (6, .int .i64 i)] _
        refine At.reg (L := [(0, false), (1, false), (2, false)]) (by kernel_rfl) ?_
        refine Op.pures 1 [1, 2, 5, 6, 16] (L' := [(1, false), (2, false)]) (e' := [(1, .slice a_ow ow.length n_ow), (2, .pointer (some ⟨b1660, 0, none⟩)), (5, .slice a1666 out.length n1667), (6, .int .i64 i), (16, .int .i64 i)]) (by kernel_rfl) ?_
        refine Op.val (dst := some 17) (v := .int .i64 (IntKind.wrap .i64 (i - 1))) (v' := .int .i64 (i - 1)) (by kernel_rfl) (wrapEq_i64 (by omega) (by (have := hB.1; omega))) ?_
        refine Op.pures 1 [1, 2, 5, 6] (L' := []) (e' := [(1, .slice a_ow ow.length n_ow), (2, .pointer (some ⟨b1660, 0, none⟩)), (5, .slice a1666 out.length n1667), (6, .int .i64 (i - 1))]) (by kernel_rfl) ?_
        refine Op.goto 3 (by kernel_rfl) ?_
        exact ih3  out (i - 1) _ _ _ _ (by omega) (by omega) (by omega) (by exact ownI_out ho (by omega) (by omega) hin (by assumption) (by assumption)) R1669 s_loop71671
    exact loop7 _  false 0 _ (Nat.lt_succ_self _) (by omega) (by omega) (by rfl)  s_loop31669
   ·have c1726 : ¬ (i ≥ (0 : Int)) := of_decide_eq_false hb
    clear hb
    refine At.keep [5] ?_; show At _ _ _ [(5, .slice a1666 out.length n1667)] _
    refine At.reg (L := [(0, false), (1, false)]) (by kernel_rfl) ?_
    refine Op.pures 2 [4] (L' := []) (e' := [(4, .slice a1666 out.length n1667)]) (by kernel_rfl) ?_
    refine Op.goto 16 (by kernel_rfl) ?_
    refine At.ret (f := Tryz.f50) (v := .slice a1666 out.length n1667) (by kernel_rfl) (by kernel_rfl) ?_
    have s1727 : St h g (ids []) g [[(b1660, Obj.cells #[.slice a_t_0 t.All.length n_t_0] 75 (0, 0))], ch1668] h1670 := ((s_loop31669.front 0 rfl).front 1 rfl)
    have s1728 : St h g (ids []) g [ch1668] h1670 := (s1727).drop
    refine hR _ _ _ _ s1728 ⟨(.slice a1666 out.length n1667), ch1668, ?_, ?_, rfl, rfl⟩
    ·exact rfl
    ·exact rowEq R1669 (by exact ownI_end ho (by assumption) h0)
 have R1729 : Row 9 kStr g (.slice (some ⟨b1663, 0, none⟩) 0 0) ([] : List (List UInt8)) [(b1663, Obj.cells #[] 9 (0, 0))] := Row.lit (by kernel_rfl) (by unfold maxLen; decide) (by kernel_rfl) Reads.nil
 exact loop3 _  ([] : List (List UInt8)) ((t.All.length : Int) - 1) _ _ _ _ (Nat.lt_succ_self _) (by omega) (by omega) (by exact ownI_0 _ _) R1729 s1665
end Go.Proofs.YtmjebehhpojihaaGreatDoor.Sw
namespace Go.Proofs.YtmjebehhpojihaaGreatDoor.Sw
set_option linter.unusedVariables false
set_option linter.unusedSimpArgs false
set_option linter.deprecated false
open Go
def al1 : List Leaf := [⟨[47], [], 0, -1, 0, 0⟩, ⟨[47, 113], [], 0, -1, 0, 1⟩]
def al2 : List Leaf := [⟨[47], [], 0, -1, 0, 0⟩, ⟨[47, 113], [], 0, -1, 1, 1⟩, ⟨[47, 113, 47, 116, 45, 48, 48, 48, 48, 48], [120], 0, 3, 0, 2⟩]
theorem al_1 : makeT [⟨[47], [], 0, -1, 0, 0⟩] [47, 113] [] (-1) 1 false = (al1, [47, 113], 0) := by decide +kernel
theorem al_num : numS [47, 113, 47, 116, 45] 0 = [47, 113, 47, 116, 45, 48, 48, 48, 48, 48] ∧ numE [47, 113, 47, 116, 45] 0 = 0 := by
  have h : numOk [47, 113, 47, 116, 45] 0 = true := by decide +kernel
  have hd : dig5 0 = [48, 48, 48, 48, 48] := by rw [← low_dig (by decide) (by decide)]; decide +kernel
  unfold numS numE
  rw [if_pos h, if_pos h, hd]
  decide +kernel
theorem al_2 : makeT al1 [47, 113, 47, 116, 45] [120] 3 2 true = (al2, [47, 113, 47, 116, 45, 48, 48, 48, 48, 48], 0) := by
  have h := rm_8 (ns := al1) (p := [47, 113, 47, 116, 45]) (data := [120]) (owner := 3) (born := 2) (num := true) (up := ⟨[47, 113], [], 0, -1, 0, 1⟩) (q := [47, 113, 47, 116, 45, 48, 48, 48, 48, 48])
    (by decide +kernel) (by decide) (by decide +kernel) rfl ⟨al_num.2, al_num.1⟩ (by decide +kernel) (by decide +kernel)
  rw [h]
  have : madeL al1 ⟨[47, 113], [], 0, -1, 0, 1⟩ [47, 113, 47, 116, 45, 48, 48, 48, 48, 48] [120] 3 2 true = al2 := by decide +kernel
  rw [this]
theorem al_3 : getT al2 [47, 113, 47, 116, 45, 48, 48, 48, 48, 48] = (⟨[47, 113, 47, 116, 45, 48, 48, 48, 48, 48], [120], 0, 3, 0, 2⟩, 0) := by decide +kernel
theorem al_4 : dropT al2 [47, 113] (-1) = (al2, 103) := by decide +kernel
theorem al_b0 : TreeB [⟨[47], [], 0, -1, 0, 0⟩] := (TreeOk.new).b (by decide)
theorem al_b1 : TreeB al1 := ⟨by decide, by decide⟩
theorem al_b2 : TreeB al2 := ⟨by decide, by decide⟩
def opZ (o : L10Op) : Int := (1 + (o.Path.length : Int)) + (o.Data.length : Int)
def grN : List L10Op → Int → Int
  | [], n => n
  | o :: r, n => if n ≤ 100000 then grN r (n + opZ o) else n
theorem gr_step {l : List L10Op} {i n : Int} {o : L10Op} (h : grN l 0 = grN (l.drop i.toNat) n) (h0 : 0 ≤ i) (hx : l[i.toNat]? = some o) (hn : n ≤ 100000) : grN l 0 = grN (l.drop (i + 1).toNat) (n + opZ o) := by
  rw [h, drop_at hx, toNat_succ h0, grN, if_pos hn]
theorem gr_end1 {l : List L10Op} {i n : Int} (h : grN l 0 = grN (l.drop i.toNat) n) (hi : ¬ (i < (l.length : Int))) : n = grN l 0 := by
  rw [h, List.drop_eq_nil_of_le (by omega)]; rfl
theorem gr_end2 {l : List L10Op} {i n : Int} (h : grN l 0 = grN (l.drop i.toNat) n) (hn : ¬ (n ≤ 100000)) : n = grN l 0 := by
  rw [h]
  cases l.drop i.toNat with
  | nil => rfl
  | cons o r => rw [grN, if_neg hn]
theorem grN_ge : ∀ (l : List L10Op) (n : Int), n ≤ grN l n
  | [], n => by simp [grN]
  | o :: r, n => by
    unfold grN
    split
    · have := grN_ge r (n + opZ o)
      unfold opZ at *
      omega
    · omega
def greatB (l : List L10Op) : Bool := decide (grN l 0 > 10000) || decide ((l.length : Int) > 150)
theorem gr_mem : ∀ (l : List L10Op) (n : Int), 0 ≤ n → grN l n ≤ 10000 → ∀ o ∈ l, o.Path.length ≤ 10000 ∧ o.Data.length ≤ 10000
  | [], n, _, _, o, ho => absurd ho (by simp)
  | q :: r, n, h0, h, o, ho => by
    unfold grN at h
    split at h
    · have hz : 0 ≤ opZ q := by unfold opZ; omega
      rcases List.mem_cons.1 ho with rfl | ho
      · have := grN_ge r (n + opZ o)
        unfold opZ at *
        omega
      · exact gr_mem r (n + opZ q) (by omega) h o ho
    · omega
theorem small {l : List L10Op} (h : greatB l = false) : l.length ≤ 150 ∧ ∀ o ∈ l, o.Path.length ≤ 10000 ∧ o.Data.length ≤ 10000 := by
  unfold greatB at h
  rw [Bool.or_eq_false_iff] at h
  have h1 := of_decide_eq_false h.1
  have h2 := of_decide_eq_false h.2
  exact ⟨by omega, gr_mem l 0 (by omega) (by omega)⟩
theorem greatB_1 {l : List L10Op} {n : Int} (h : n = grN l 0) (hn : n > 10000) : true = greatB l := by
  unfold greatB; rw [← h, decide_eq_true hn]; rfl
theorem greatB_2 {l : List L10Op} {n : Int} (h : n = grN l 0) (hn : ¬ n > 10000) : decide ((l.length : Int) > 150) = greatB l := by
  unfold greatB; rw [← h, decide_eq_false hn]; rfl
theorem take_spare (d : Str) : (d ++ marks8).take ((d.length : Int)).toNat = d := by simp
theorem u8wr (n : Int) : 0 ≤ IntKind.wrap .u8 n ∧ IntKind.wrap .u8 n ≤ 255 := by rw [IntKind.wrap_u8]; omega
section
variable {k : Int} {ns : List Leaf} {p : Str}
theorem kids_yes2 (h : (getT ns p).2 = 0) : (kidsT ns p).1 = kidsL ns p := by rw [kt_2 h]
theorem kidsT_len (ns : List Leaf) (p : Str) : ((kidsT ns p).1).length ≤ ns.length := by
  by_cases h : (getT ns p).2 = 0
  · rw [kids_yes2 h]; exact kidsL_len ns p
  · rw [kt_1 h]; exact Nat.zero_le _
theorem getT_data {ns : List Leaf} (h : TreeB ns) (p : Str) : ((getT ns p).1).Data.length ≤ 128 := by
  unfold getT
  split
  · split
    · exact Nat.zero_le _
    · rename_i l hf; exact h.data hf
  · exact Nat.zero_le _
section
variable {cur : List Leaf} {ow : List Int} {j z : Int} {inn : Bool} {x : Leaf}
theorem ownL_len (ns : List Leaf) (ow : List Int) : (ownedL ns ow).length ≤ ns.length := by
  unfold ownedL
  rw [List.length_reverse, List.length_map]
  exact List.length_filter_le _ _
end
section
variable {j z n : Int} {x y : Leaf} {q : Str}
end
section
variable {x last : Str} {m z a : Int} {c : List Leaf} {n : Leaf}
end
section
variable {A af : List Leaf} {z : Int} {x : Leaf} {up : Str} {num : Bool}
end
section
variable {upl : Leaf} {q p data d dd : Str} {n1 : List Leaf} {num : Bool}
theorem Back.g2 (H : Back k ns p data num q upl n1) : (getT n1 q).2 = 0 ∧ (getT n1 q).1.Data = data ∧ (getT n1 q).1.Version = 0 ∧ (getT n1 q).1.Born = 5 := by
  rw [H.get]; exact ⟨rfl, rfl, rfl, rfl⟩
theorem Back.s1 (H : Back k ns p data num q upl n1) (h : d.length ≤ 128) : (setT n1 q d 0).2.2 = 0 ∧ (setT n1 q d 0).2.1 = 1 := by
  rw [H.set d h]; exact ⟨rfl, rfl⟩
theorem Back.s2 (H : Back k ns p data num q upl n1) (h : d.length ≤ 128) : (setT (withL n1 ⟨q, d, 1, -1, 0, 5⟩) q dd 0).2.2 = 102 := by
  rw [H.set2 d dd h]
theorem Back.d1 (H : Back k ns p data num q upl n1) (h : d.length ≤ 128) : (dropT (withL n1 ⟨q, d, 1, -1, 0, 5⟩) q 0).2 = 102 := by
  rw [H.drop1 d h]
theorem Back.d2 (H : Back k ns p data num q upl n1) (h : d.length ≤ 128) : (dropT (dropT (withL n1 ⟨q, d, 1, -1, 0, 5⟩) q 0).1 q 1).2 = 0 := by
  rw [H.drop1 d h]
  show (dropT (withL n1 ⟨q, d, 1, -1, 0, 5⟩) q 1).2 = 0
  rw [H.drop2 d h]
end
end
end Go.Proofs.YtmjebehhpojihaaGreatDoor.Sw
namespace Go.Proofs.YtmjebehhpojihaaGreatDoor.Sw
set_option linter.unusedVariables false
set_option linter.unusedSimpArgs false
set_option linter.deprecated false
open Go
section
variable {C : Ctx} {ds : List Deferred} {i j : Nat} {r : Heap} {M : Nat → Prop} {Ls : List (Nat × Bool)} {e : Env} {h : Heap}
variable {h0 : Heap} {g0 : GH} {S0 : Nat → Prop} {g : GH} {L : List Chunk}
theorem Op.convLit {dst : Nat} {T E : TypeId} {x : Operand} {b n : Nat} {cs : Array Value} {xs : List UInt8} (ho : nextDO C i j e = some (some dst, .convert T T x)) (hT : C.P.underlying T = some (.slice E)) (hE : C.P.underlying E = some (.int .u8))
    (hx : e.ev x = .slice (some ⟨b, 0, none⟩) n n) (hn : xs.length = n) (s : St h0 g0 S0 g ([(b, .cells cs E (0, 0))] :: L) h) (hr : Reads kU8 g xs (cut cs 0 (xs.length * kU8.sz))) (hM : b < r.size → M b)
    (K : ∀ g' h', gle g g' → St h0 g0 S0 g' L h' → SlR g' E kU8 (.slice (some ⟨b, 0, none⟩) n n) xs → Op C ds i r M Ls ((dst, .slice (some ⟨b, 0, none⟩) n n) :: e) h') : Op C ds i r M ((j, false) :: Ls) e h := by
  obtain ⟨o', h1, h2, h3⟩ := nextDO_spec ho
  have hb := s.chunk 0 rfl
  let f : Obj → Obj := fun | .cells c elem (lo, hi) => .cells c elem (if lo == hi then (cs.size, cs.size + 1) else (min lo cs.size, max hi (cs.size + 1))) | o => o
  have u : Upd h b (.cells cs E (cs.size, cs.size + 1)) (h.modify b f) := Upd.modify f hb
  refine Op.run h1 (R := fun nx h' => nx = .value (.slice (some ⟨b, 0, none⟩) n n) ∧ h' = h.modify b f) ?_ ?_
  · intro w is
    have hbw : w.heap[b]? = some (.cells cs E (0, 0)) := by rw [is.heap]; exact hb
    have hsh : w.shape? b = some (E, cs.size) := by unfold World.shape?; rw [hbw]
    refine ⟨_, w.freeze ⟨b, cs.size, none⟩ 1, ?_, ⟨rfl, is.os, is.tape, is.output⟩, rfl, ?_⟩
    · unfold semOf execOp
      simp only [h3, hx, Sem.run_bind]
      simp [convert, run_underlying hT, run_underlying hE, markStringish, hsh]
    · unfold World.freeze
      rw [if_neg (by decide)]
      rw [← is.heap]
      rfl
  · rintro _ _ ⟨rfl, rfl⟩
    refine ⟨_, rfl, u.keep hM, ?_⟩
    rw [h2]
    obtain ⟨s', hle⟩ := (s.upd u).freeze
    refine K _ _ hle s' ⟨_, _, by rw [hn], by omega, fun _ => ⟨b, 0, cs, (E, cs.size, cs.size + 1), rfl, gadd_one _ _, hr.mono hle⟩⟩
end
theorem Deep.row {h0 : Heap} {g0 : GH} {S0 : Nat → Prop} {g : GH} {L : List Chunk} {h : Heap} {α : Type} {T : TypeId} {d : Kd α} {v : Value} {xs : List α} {c dc : Chunk} (hr : Row T d (gadd gE dc) v xs c) (s : St h0 g0 S0 g (c :: dc :: L) h) :
    ∃ g', St h0 g0 S0 g' (c :: L) h ∧ gle g g' ∧ Row T d g' v xs c := by
  have s1 := s.perm (L' := dc :: c :: L) (List.Perm.swap _ _ _)
  obtain ⟨s2, hl2⟩ := St.freeze s1
  exact ⟨_, s2, hl2, hr.mono (gadd_le fun p hp => s1.sep p (by simp [hp]))⟩
end Go.Proofs.YtmjebehhpojihaaGreatDoor.Sw
