/- Lemmas for a law of this seat: what the functions compute, and plain facts of it. Own text. -/
import Derived.Test.YtmjebehhpojihaaGreatDoorTStepsJ
namespace Go.Proofs.YtmjebehhpojihaaGreatDoor.Sw
open Go
set_option maxRecDepth 100000
set_option linter.unusedVariables false
set_option linter.unusedSimpArgs false
set_option linter.deprecated false
theorem sameTexts (B : World) (h : Heap) (g : GH) (hg : Sub g h) (hG : Glob g) (v_a : Value) (a : List (List UInt8)) (h_a : SlR g 9 kStr v_a a) (v_b : Value) (b : List (List UInt8)) (h_b : SlR g 9 kStr v_b b) (h1 : a.length ≤ 1000000000) :
  Spec Tryz.prog B 38 #[v_a, v_b] h g [] (fun rv g' L' => rv = .bool (decide (a = b)) ∧ g' = g ∧ L' = []) := by
 obtain ⟨a_a, n_a, rfl⟩ := h_a.form
 obtain ⟨a_b, n_b, rfl⟩ := h_b.form
 refine Spec.of_at (f := Tryz.f38) (e := [(0, .slice a_a a.length n_a), (1, .slice a_b b.length n_b)]) Tryz.func38 (by kernel_rfl) (Nat.le_of_ble_eq_true (by kernel_rfl)) (by kernel_rfl) (by kernel_rfl) ?_
 intro R hR
 have s0 := St.init hg
 refine At.reg (L := [(0, false)]) (by kernel_rfl) ?_
 refine Op.pures 1 [0, 1] (L' := []) (e' := [(0, .slice a_a a.length n_a), (1, .slice a_b b.length n_b)]) (by kernel_rfl) ?_
 refine Op.goto 1 (by kernel_rfl) ?_
 refine At.reg (L := [(0, false), (1, false), (2, false), (3, false), (4, false)]) (by kernel_rfl) ?_
 refine Op.pures 5 [0, 1, 10] (L' := []) (e' := [(0, .slice a_a a.length n_a), (1, .slice a_b b.length n_b), (10, .bool ((a.length : Int) != (b.length : Int)))]) (by kernel_rfl) ?_
 refine Op.goto 2 (by kernel_rfl) ?_
 refine At.cond (b := (a.length : Int) != (b.length : Int)) (c := .tmp 10) (by kernel_rfl) (by kernel_rfl) (by kernel_rfl) 3 5 (by kernel_rfl) (by kernel_rfl) (fun hb => ?_) (fun hb => ?_)
 ·have c1001 : ¬ ((a.length : Int) = (b.length : Int)) := bneT hb
  clear hb
  refine At.keep [] ?_; show At _ _ _ [] _
  refine At.reg (L := [(0, false)]) (by kernel_rfl) ?_
  refine Op.pures 1 [4] (L' := []) (e' := [(4, .bool false)]) (by kernel_rfl) ?_
  refine Op.goto 4 (by kernel_rfl) ?_
  refine At.ret (f := Tryz.f38) (v := .bool false) (by kernel_rfl) (by kernel_rfl) ?_
  refine hR _ _ _ _ s0 ⟨?_, rfl, rfl⟩
  exact (eqB (by exact sameE_len (by assumption)))
 ·have c1002 : (a.length : Int) = (b.length : Int) := bneF hb
  clear hb
  refine At.keep [0, 1] ?_; show At _ _ _ [(0, .slice a_a a.length n_a), (1, .slice a_b b.length n_b)] _
  refine At.reg (L := [(0, false)]) (by kernel_rfl) ?_
  refine Op.pures 1 [0, 1, 5] (L' := []) (e' := [(0, .slice a_a a.length n_a), (1, .slice a_b b.length n_b), (5, .int .i64 0)]) (by kernel_rfl) ?_
  refine Op.goto 6 (by kernel_rfl) ?_
  have loop6 : ∀ (m : Nat) (i : Int) (h1003 : Heap) (hm : a.length - i.toNat < m) (h0 : 0 ≤ i) (h2 : i ≤ a.length) (ht : a.take i.toNat = b.take i.toNat)     (s_loop61002 : St h g (ids []) g [] h1003), At (fctx Tryz.prog B 38 Tryz.f38 R) [] 6 [(0, .slice a_a a.length n_a), (1, .slice a_b b.length n_b), (5, .int .i64 i)] h1003 := by
   intro m; induction m with
   | zero => intros; omega
   | succ m ih6 =>
    intro i h1003 hm h0 h2 ht s_loop61002
    refine At.reg (L := [(0, false), (1, false), (2, false), (3, false)]) (by kernel_rfl) ?_
    refine Op.pures 4 [0, 1, 5, 14] (L' := []) (e' := [(0, .slice a_a a.length n_a), (1, .slice a_b b.length n_b), (5, .int .i64 i), (14, .bool (decide (i < (a.length : Int))))]) (by kernel_rfl) ?_
    refine Op.goto 7 (by kernel_rfl) ?_
    refine At.cond (b := decide (i < (a.length : Int))) (c := .tmp 14) (by kernel_rfl) (by kernel_rfl) (by kernel_rfl) 8 13 (by kernel_rfl) (by kernel_rfl) (fun hb => ?_) (fun hb => ?_)
    ·have c1004 : i < (a.length : Int) := of_decide_eq_true hb
     clear hb
     refine At.keep [0, 1, 5] ?_; show At _ _ _ [(0, .slice a_a a.length n_a), (1, .slice a_b b.length n_b), (5, .int .i64 i)] _
     refine At.draw (by kernel_rfl) (fun _ => False) [(0, true), (1, true), (2, true), (4, true), (5, true), (6, true), (3, true), (7, false), (8, true)] (by kernel_rfl) ?_
     refine Op.pures 2 [0, 1, 5, 17, 18] (L' := [(2, true), (4, true), (5, true), (6, true), (3, true), (7, false), (8, true)]) (e' := [(0, .slice a_a a.length n_a), (1, .slice a_b b.length n_b), (5, .int .i64 i), (17, .slice a_a a.length n_a), (18, .int .i64 i)]) (by kernel_rfl) ?_
     obtain ⟨x1005, hx1006⟩ : ∃ c, a[(i : Int).toNat]? = some c := ⟨_, List.getElem?_eq_getElem (by omega)⟩
     obtain ⟨b1007, o1008, cu1009, fz1010, ha1011, hb1012, hk1013⟩ := SlR.at_ h_a _ hx1006
     cases ha1011
     refine Op.idx (T := 54) (E := 9) (sz := 1) (by_ := 16) (n := a.length) (c := n_a) (k := .i64) (x := (.tmp 17)) (ix := (.tmp 18)) (dst := 19) (bk := b1007) (o := o1008) (m := i) (by kernel_rfl) (by kernel_rfl) (by kernel_rfl) (by kernel_rfl) (by omega) (by omega) ?_
     replace hk1013 : cut _ _ _ = [.string (mkS x1005)] := hk1013
     refine Op.pures 2 [0, 1, 5, 19, 21, 22] (L' := [(6, true), (3, true), (7, false), (8, true)]) (e' := [(0, .slice (some ⟨b1007, o1008, none⟩) a.length n_a), (1, .slice a_b b.length n_b), (5, .int .i64 i), (19, .pointer (some ⟨b1007, o1008 + (i : Int).toNat * 1, none⟩)), (21, .slice a_b b.length n_b), (22, .int .i64 i)]) (by kernel_rfl) ?_
     obtain ⟨x1014, hx1015⟩ : ∃ c, b[(i : Int).toNat]? = some c := ⟨_, List.getElem?_eq_getElem (by omega)⟩
     obtain ⟨b1016, o1017, cu1018, fz1019, ha1020, hb1021, hk1022⟩ := SlR.at_ h_b _ hx1015
     cases ha1020
     refine Op.idx (T := 54) (E := 9) (sz := 1) (by_ := 16) (n := b.length) (c := n_b) (k := .i64) (x := (.tmp 21)) (ix := (.tmp 22)) (dst := 23) (bk := b1016) (o := o1017) (m := i) (by kernel_rfl) (by kernel_rfl) (by kernel_rfl) (by kernel_rfl) (by omega) (by omega) ?_
     replace hk1022 : cut _ _ _ = [.string (mkS x1014)] := hk1022
     refine Op.loadF (T := 9) (x := (.tmp 19)) (o := o1008 + (i : Int).toNat * 1) (d := 20) (n := 1) (v := .string (mkS x1005)) (by kernel_rfl) (by kernel_rfl) (by kernel_rfl) (fun h => h) (s_loop61002.sub _ _ hb1012) (cut_get hk1013 0 rfl) ?_
     refine Op.load (T := 9) (x := (.tmp 23)) (o := o1017 + (i : Int).toNat * 1) (d := 24) (n := 1) (v := .string (mkS x1014)) (by kernel_rfl) (by kernel_rfl) (by kernel_rfl) (s_loop61002.sub _ _ hb1021) (cut_get hk1022 0 rfl) ?_
     refine Op.val (dst := some 25) (v := .bool (!((mkS x1005).toList == (mkS x1014).toList))) (v' := .bool (!(x1005 == x1014))) (by kernel_rfl) (by rw [toList_mkS, toList_mkS]) ?_
     refine Op.goto 9 (by kernel_rfl) ?_
     refine At.cond (b := !(x1005 == x1014)) (c := .tmp 25) (by kernel_rfl) (by kernel_rfl) (by kernel_rfl) 10 12 (by kernel_rfl) (by kernel_rfl) (fun hb => ?_) (fun hb => ?_)
     ·have c1023 : ¬ (x1005 = x1014) := neF (notT hb)
      clear hb
      refine At.keep [] ?_; show At _ _ _ [] _
      refine At.reg (L := [(0, false)]) (by kernel_rfl) ?_
      refine Op.pures 1 [4] (L' := []) (e' := [(4, .bool false)]) (by kernel_rfl) ?_
      refine Op.goto 11 (by kernel_rfl) ?_
      refine At.ret (f := Tryz.f38) (v := .bool false) (by kernel_rfl) (by kernel_rfl) ?_
      refine hR _ _ _ _ s_loop61002 ⟨?_, rfl, rfl⟩
      exact (eqB (by exact sameE_ne hx1006 hx1015 c1023))
     ·have c1024 : x1005 = x1014 := eq_of_beq (notF hb)
      clear hb
      refine At.keep [0, 1, 5] ?_; show At _ _ _ [(0, .slice (some ⟨b1007, o1008, none⟩) a.length n_a), (1, .slice (some ⟨b1016, o1017, none⟩) b.length n_b), (5, .int .i64 i)] _
      refine At.reg (L := [(0, false), (1, false), (2, false)]) (by kernel_rfl) ?_
      refine Op.pures 1 [0, 1, 5, 15] (L' := [(1, false), (2, false)]) (e' := [(0, .slice (some ⟨b1007, o1008, none⟩) a.length n_a), (1, .slice (some ⟨b1016, o1017, none⟩) b.length n_b), (5, .int .i64 i), (15, .int .i64 i)]) (by kernel_rfl) ?_
      refine Op.val (dst := some 16) (v := .int .i64 (IntKind.wrap .i64 (i + 1))) (v' := .int .i64 (i + 1)) (by kernel_rfl) (wrapEq_i64 (by omega) (by omega)) ?_
      refine Op.pures 1 [0, 1, 5] (L' := []) (e' := [(0, .slice (some ⟨b1007, o1008, none⟩) a.length n_a), (1, .slice (some ⟨b1016, o1017, none⟩) b.length n_b), (5, .int .i64 (i + 1))]) (by kernel_rfl) ?_
      refine Op.goto 6 (by kernel_rfl) ?_
      exact ih6  (i + 1) _ (by omega) (by omega) (by omega) (by exact take_step ht h0 hx1006 hx1015 c1024)  s_loop61002
    ·have c1025 : ¬ (i < (a.length : Int)) := of_decide_eq_false hb
     clear hb
     refine At.keep [] ?_; show At _ _ _ [] _
     refine At.reg (L := [(0, false)]) (by kernel_rfl) ?_
     refine Op.pures 1 [4] (L' := []) (e' := [(4, .bool true)]) (by kernel_rfl) ?_
     refine Op.goto 14 (by kernel_rfl) ?_
     refine At.ret (f := Tryz.f38) (v := .bool true) (by kernel_rfl) (by kernel_rfl) ?_
     refine hR _ _ _ _ s_loop61002 ⟨?_, rfl, rfl⟩
     exact (eqB (by exact sameE_end (by assumption) c1025 ht))
  exact loop6 _  0 _ (Nat.lt_succ_self _) (by omega) (by omega) (by rfl)  s0
theorem partR (B : World) (h : Heap) (g : GH) (hg : Sub g h) (hG : Glob g) (s : List UInt8) (hlen : s.length ≤ 1000000000) :
  Spec Tryz.prog B 162 #[.string (mkS s)] h g [] (fun rv g' L' => rv = .bool (okPart s) ∧ g' = g ∧ L' = []) := by
 refine Spec.of_at (f := Tryz.f162) (e := [(0, .string (mkS s))]) Tryz.func162 (by kernel_rfl) (Nat.le_of_ble_eq_true (by kernel_rfl)) (by kernel_rfl) (by kernel_rfl) ?_
 intro R hR
 have s0 := St.init hg
 refine At.reg (L := [(0, false)]) (by kernel_rfl) ?_
 refine Op.pures 1 [0] (L' := []) (e' := [(0, .string (mkS s))]) (by kernel_rfl) ?_
 refine Op.goto 1 (by kernel_rfl) ?_
 refine At.reg (L := [(0, false)]) (by kernel_rfl) ?_
 refine Op.pures 1 [0, 3] (L' := []) (e' := [(0, .string (mkS s)), (3, .int .i64 0)]) (by kernel_rfl) ?_
 refine Op.goto 2 (by kernel_rfl) ?_
 have loop2 : ∀ (m : Nat) (i : Int) (h1026 : Heap) (hm : s.length - i.toNat < m) (h0 : 0 ≤ i) (h2 : i ≤ s.length) (ha : allTo s i)     (s_loop21025 : St h g (ids []) g [] h1026), At (fctx Tryz.prog B 162 Tryz.f162 R) [] 2 [(0, .string (mkS s)), (3, .int .i64 i)] h1026 := by
  intro m; induction m with
  | zero => intros; omega
  | succ m ih2 =>
   intro i h1026 hm h0 h2 ha s_loop21025
   refine At.reg (L := [(0, false), (1, false), (2, false), (3, false)]) (by kernel_rfl) ?_
   refine Op.pures 4 [0, 3, 8] (L' := []) (e' := [(0, .string (mkS s)), (3, .int .i64 i), (8, .bool (decide (i < (s.length : Int))))]) (by kernel_rfl) ?_
   refine Op.goto 3 (by kernel_rfl) ?_
   refine At.cond (b := decide (i < (s.length : Int))) (c := .tmp 8) (by kernel_rfl) (by kernel_rfl) (by kernel_rfl) 4 10 (by kernel_rfl) (by kernel_rfl) (fun hb => ?_) (fun hb => ?_)
   ·have c1027 : i < (s.length : Int) := of_decide_eq_true hb
    clear hb
    refine At.keep [0, 3] ?_; show At _ _ _ [(0, .string (mkS s)), (3, .int .i64 i)] _
    refine At.reg (L := [(0, false), (1, false), (2, false), (3, false)]) (by kernel_rfl) ?_
    refine Op.pures 2 [0, 3, 11, 12] (L' := [(2, false), (3, false)]) (e' := [(0, .string (mkS s)), (3, .int .i64 i), (11, .string (mkS s)), (12, .int .i64 i)]) (by kernel_rfl) ?_
    obtain ⟨x1028, hx1029⟩ : ∃ c, s[(i : Int).toNat]? = some c := ⟨_, List.getElem?_eq_getElem (by omega)⟩
    refine Op.strIdx (T := 9) (k := .i64) (x := (.tmp 11)) (ix := (.tmp 12)) (dst := 13) (l := s) (n := i) (by kernel_rfl) (by kernel_rfl) (by kernel_rfl) (by kernel_rfl) (by omega) hx1029 ?_
    refine Op.pures 1 [0, 3, 4] (L' := []) (e' := [(0, .string (mkS s)), (3, .int .i64 i), (4, .int .u8 (x1028.toNat : Int))]) (by kernel_rfl) ?_
    refine Op.goto 5 (by kernel_rfl) ?_
    refine At.reg (L := [(0, false), (1, false), (2, false), (3, false), (4, false), (5, false), (6, false), (7, false), (8, false), (9, false), (10, false), (11, false), (12, false), (13, false), (14, false), (15, false), (16, false), (17, false), (18, false), (19, false), (20, false), (21, false), (22, false)]) (by kernel_rfl) ?_
    refine Op.pures 3 [0, 3, 4, 16] (L' := [(3, false), (4, false), (5, false), (6, false), (7, false), (8, false), (9, false), (10, false), (11, false), (12, false), (13, false), (14, false), (15, false), (16, false), (17, false), (18, false), (19, false), (20, false), (21, false), (22, false)]) (e' := [(0, .string (mkS s)), (3, .int .i64 i), (4, .int .u8 (x1028.toNat : Int)), (16, .bool (decide ((x1028.toNat : Int) ≥ (97 : Int))))]) (by kernel_rfl) ?_
    refine Op.ways (b := decide ((x1028.toNat : Int) ≥ (97 : Int))) ⟨fun hb => ?_, fun hb => ?_⟩
    ·refine Op.cast (e' := [(0, .string (mkS s)), (3, .int .i64 i), (4, .int .u8 (x1028.toNat : Int)), (16, .bool true)]) (by rw [hb]) ?_
     have c1030 : (x1028.toNat : Int) ≥ (97 : Int) := of_decide_eq_true hb
     clear hb
     refine Op.pures 4 [0, 3, 4, 20] (L' := [(7, false), (8, false), (9, false), (10, false), (11, false), (12, false), (13, false), (14, false), (15, false), (16, false), (17, false), (18, false), (19, false), (20, false), (21, false), (22, false)]) (e' := [(0, .string (mkS s)), (3, .int .i64 i), (4, .int .u8 (x1028.toNat : Int)), (20, .bool (decide ((x1028.toNat : Int) ≤ (122 : Int))))]) (by kernel_rfl) ?_
     refine Op.ways (b := decide ((x1028.toNat : Int) ≤ (122 : Int))) ⟨fun hb => ?_, fun hb => ?_⟩
     ·refine Op.cast (e' := [(0, .string (mkS s)), (3, .int .i64 i), (4, .int .u8 (x1028.toNat : Int)), (20, .bool true)]) (by rw [hb]) ?_
      have c1031 : (x1028.toNat : Int) ≤ (122 : Int) := of_decide_eq_true hb
      clear hb
      refine Op.pures 16 [0, 3, 36] (L' := []) (e' := [(0, .string (mkS s)), (3, .int .i64 i), (36, .bool false)]) (by kernel_rfl) ?_
      refine Op.goto 6 (by kernel_rfl) ?_
      refine At.condF (c := .tmp 36) (by kernel_rfl) (by kernel_rfl) (by kernel_rfl) 9 (by kernel_rfl) ?_
      refine At.reg (L := [(0, false), (1, false), (2, false)]) (by kernel_rfl) ?_
      refine Op.pures 1 [0, 3, 9] (L' := [(1, false), (2, false)]) (e' := [(0, .string (mkS s)), (3, .int .i64 i), (9, .int .i64 i)]) (by kernel_rfl) ?_
      refine Op.val (dst := some 10) (v := .int .i64 (IntKind.wrap .i64 (i + 1))) (v' := .int .i64 (i + 1)) (by kernel_rfl) (wrapEq_i64 (by omega) (by omega)) ?_
      refine Op.pures 1 [0, 3] (L' := []) (e' := [(0, .string (mkS s)), (3, .int .i64 (i + 1))]) (by kernel_rfl) ?_
      refine Op.goto 2 (by kernel_rfl) ?_
      exact ih2  (i + 1) _ (by omega) (by omega) (by omega) (by exact allTo_step ha hx1029 (by simp [sgn]; omega) h0)  s_loop21025
     ·refine Op.cast (e' := [(0, .string (mkS s)), (3, .int .i64 i), (4, .int .u8 (x1028.toNat : Int)), (20, .bool false)]) (by rw [hb]) ?_
      have c1032 : ¬ ((x1028.toNat : Int) ≤ (122 : Int)) := of_decide_eq_false hb
      clear hb
      refine Op.pures 3 [0, 3, 4, 20, 23] (L' := [(10, false), (11, false), (12, false), (13, false), (14, false), (15, false), (16, false), (17, false), (18, false), (19, false), (20, false), (21, false), (22, false)]) (e' := [(0, .string (mkS s)), (3, .int .i64 i), (4, .int .u8 (x1028.toNat : Int)), (20, .bool false), (23, .bool (decide ((x1028.toNat : Int) ≥ (48 : Int))))]) (by kernel_rfl) ?_
      refine Op.ways (b := decide ((x1028.toNat : Int) ≥ (48 : Int))) ⟨fun hb => ?_, fun hb => ?_⟩
      ·refine Op.cast (e' := [(0, .string (mkS s)), (3, .int .i64 i), (4, .int .u8 (x1028.toNat : Int)), (20, .bool false), (23, .bool true)]) (by rw [hb]) ?_
       have c1033 : (x1028.toNat : Int) ≥ (48 : Int) := of_decide_eq_true hb
       clear hb
       refine Op.pures 5 [0, 3, 4, 28] (L' := [(15, false), (16, false), (17, false), (18, false), (19, false), (20, false), (21, false), (22, false)]) (e' := [(0, .string (mkS s)), (3, .int .i64 i), (4, .int .u8 (x1028.toNat : Int)), (28, .bool (decide ((x1028.toNat : Int) ≤ (57 : Int))))]) (by kernel_rfl) ?_
       refine Op.ways (b := decide ((x1028.toNat : Int) ≤ (57 : Int))) ⟨fun hb => ?_, fun hb => ?_⟩
       ·refine Op.cast (e' := [(0, .string (mkS s)), (3, .int .i64 i), (4, .int .u8 (x1028.toNat : Int)), (28, .bool true)]) (by rw [hb]) ?_
        have c1034 : (x1028.toNat : Int) ≤ (57 : Int) := of_decide_eq_true hb
        clear hb
        refine Op.pures 8 [0, 3, 36] (L' := []) (e' := [(0, .string (mkS s)), (3, .int .i64 i), (36, .bool false)]) (by kernel_rfl) ?_
        refine Op.goto 6 (by kernel_rfl) ?_
        refine At.condF (c := .tmp 36) (by kernel_rfl) (by kernel_rfl) (by kernel_rfl) 9 (by kernel_rfl) ?_
        refine At.reg (L := [(0, false), (1, false), (2, false)]) (by kernel_rfl) ?_
        refine Op.pures 1 [0, 3, 9] (L' := [(1, false), (2, false)]) (e' := [(0, .string (mkS s)), (3, .int .i64 i), (9, .int .i64 i)]) (by kernel_rfl) ?_
        refine Op.val (dst := some 10) (v := .int .i64 (IntKind.wrap .i64 (i + 1))) (v' := .int .i64 (i + 1)) (by kernel_rfl) (wrapEq_i64 (by omega) (by omega)) ?_
        refine Op.pures 1 [0, 3] (L' := []) (e' := [(0, .string (mkS s)), (3, .int .i64 (i + 1))]) (by kernel_rfl) ?_
        refine Op.goto 2 (by kernel_rfl) ?_
        exact ih2  (i + 1) _ (by omega) (by omega) (by omega) (by exact allTo_step ha hx1029 (by simp [sgn]; omega) h0)  s_loop21025
       ·refine Op.cast (e' := [(0, .string (mkS s)), (3, .int .i64 i), (4, .int .u8 (x1028.toNat : Int)), (28, .bool false)]) (by rw [hb]) ?_
        have c1035 : ¬ ((x1028.toNat : Int) ≤ (57 : Int)) := of_decide_eq_false hb
        clear hb
        refine Op.pures 4 [0, 3, 4, 32] (L' := [(19, false), (20, false), (21, false), (22, false)]) (e' := [(0, .string (mkS s)), (3, .int .i64 i), (4, .int .u8 (x1028.toNat : Int)), (32, .bool ((x1028.toNat : Int) == (45 : Int)))]) (by kernel_rfl) ?_
        refine Op.ways (b := (x1028.toNat : Int) == (45 : Int)) ⟨fun hb => ?_, fun hb => ?_⟩
        ·refine Op.cast (e' := [(0, .string (mkS s)), (3, .int .i64 i), (4, .int .u8 (x1028.toNat : Int)), (32, .bool true)]) (by rw [hb]) ?_
         have c1036 : (x1028.toNat : Int) = (45 : Int) := eq_of_beq hb
         clear hb
         refine Op.pures 4 [0, 3, 36] (L' := []) (e' := [(0, .string (mkS s)), (3, .int .i64 i), (36, .bool false)]) (by kernel_rfl) ?_
         refine Op.goto 6 (by kernel_rfl) ?_
         refine At.condF (c := .tmp 36) (by kernel_rfl) (by kernel_rfl) (by kernel_rfl) 9 (by kernel_rfl) ?_
         refine At.reg (L := [(0, false), (1, false), (2, false)]) (by kernel_rfl) ?_
         refine Op.pures 1 [0, 3, 9] (L' := [(1, false), (2, false)]) (e' := [(0, .string (mkS s)), (3, .int .i64 i), (9, .int .i64 i)]) (by kernel_rfl) ?_
         refine Op.val (dst := some 10) (v := .int .i64 (IntKind.wrap .i64 (i + 1))) (v' := .int .i64 (i + 1)) (by kernel_rfl) (wrapEq_i64 (by omega) (by omega)) ?_
         refine Op.pures 1 [0, 3] (L' := []) (e' := [(0, .string (mkS s)), (3, .int .i64 (i + 1))]) (by kernel_rfl) ?_
         refine Op.goto 2 (by kernel_rfl) ?_
         exact ih2  (i + 1) _ (by omega) (by omega) (by omega) (by exact allTo_step ha hx1029 (by simp [sgn]; omega) h0)  s_loop21025
        ·refine Op.cast (e' := [(0, .string (mkS s)), (3, .int .i64 i), (4, .int .u8 (x1028.toNat : Int)), (32, .bool false)]) (by rw [hb]) ?_
         have c1037 : ¬ ((x1028.toNat : Int) = (45 : Int)) := neF hb
         clear hb
         refine Op.pures 4 [0, 3, 36] (L' := []) (e' := [(0, .string (mkS s)), (3, .int .i64 i), (36, .bool (!((x1028.toNat : Int) == (95 : Int))))]) (by kernel_rfl) ?_
         refine Op.goto 6 (by kernel_rfl) ?_
         refine At.cond (b := !((x1028.toNat : Int) == (95 : Int))) (c := .tmp 36) (by kernel_rfl) (by kernel_rfl) (by kernel_rfl) 7 9 (by kernel_rfl) (by kernel_rfl) (fun hb => ?_) (fun hb => ?_)
         ·have c1038 : ¬ ((x1028.toNat : Int) = (95 : Int)) := neF (notT hb)
          clear hb
          refine At.keep [] ?_; show At _ _ _ [] _
          refine At.reg (L := [(0, false)]) (by kernel_rfl) ?_
          refine Op.pures 1 [2] (L' := []) (e' := [(2, .bool false)]) (by kernel_rfl) ?_
          refine Op.goto 8 (by kernel_rfl) ?_
          refine At.ret (f := Tryz.f162) (v := .bool false) (by kernel_rfl) (by kernel_rfl) ?_
          refine hR _ _ _ _ s_loop21025 ⟨?_, rfl, rfl⟩
          exact (eqB (by exact part_bad hx1029 (by simp [sgn]; omega)))
         ·have c1039 : (x1028.toNat : Int) = (95 : Int) := eq_of_beq (notF hb)
          clear hb
          refine At.keep [0, 3] ?_; show At _ _ _ [(0, .string (mkS s)), (3, .int .i64 i)] _
          refine At.reg (L := [(0, false), (1, false), (2, false)]) (by kernel_rfl) ?_
          refine Op.pures 1 [0, 3, 9] (L' := [(1, false), (2, false)]) (e' := [(0, .string (mkS s)), (3, .int .i64 i), (9, .int .i64 i)]) (by kernel_rfl) ?_
          refine Op.val (dst := some 10) (v := .int .i64 (IntKind.wrap .i64 (i + 1))) (v' := .int .i64 (i + 1)) (by kernel_rfl) (wrapEq_i64 (by omega) (by omega)) ?_
          refine Op.pures 1 [0, 3] (L' := []) (e' := [(0, .string (mkS s)), (3, .int .i64 (i + 1))]) (by kernel_rfl) ?_
          refine Op.goto 2 (by kernel_rfl) ?_
          exact ih2  (i + 1) _ (by omega) (by omega) (by omega) (by exact allTo_step ha hx1029 (by simp [sgn]; omega) h0)  s_loop21025
      ·refine Op.cast (e' := [(0, .string (mkS s)), (3, .int .i64 i), (4, .int .u8 (x1028.toNat : Int)), (20, .bool false), (23, .bool false)]) (by rw [hb]) ?_
       have c1040 : ¬ ((x1028.toNat : Int) ≥ (48 : Int)) := of_decide_eq_false hb
       clear hb
       refine Op.pures 9 [0, 3, 4, 32] (L' := [(19, false), (20, false), (21, false), (22, false)]) (e' := [(0, .string (mkS s)), (3, .int .i64 i), (4, .int .u8 (x1028.toNat : Int)), (32, .bool ((x1028.toNat : Int) == (45 : Int)))]) (by kernel_rfl) ?_
       refine Op.ways (b := (x1028.toNat : Int) == (45 : Int)) ⟨fun hb => ?_, fun hb => ?_⟩
       ·refine Op.cast (e' := [(0, .string (mkS s)), (3, .int .i64 i), (4, .int .u8 (x1028.toNat : Int)), (32, .bool true)]) (by rw [hb]) ?_
        have c1041 : (x1028.toNat : Int) = (45 : Int) := eq_of_beq hb
        clear hb
        refine Op.pures 4 [0, 3, 36] (L' := []) (e' := [(0, .string (mkS s)), (3, .int .i64 i), (36, .bool false)]) (by kernel_rfl) ?_
        refine Op.goto 6 (by kernel_rfl) ?_
        refine At.condF (c := .tmp 36) (by kernel_rfl) (by kernel_rfl) (by kernel_rfl) 9 (by kernel_rfl) ?_
        refine At.reg (L := [(0, false), (1, false), (2, false)]) (by kernel_rfl) ?_
        refine Op.pures 1 [0, 3, 9] (L' := [(1, false), (2, false)]) (e' := [(0, .string (mkS s)), (3, .int .i64 i), (9, .int .i64 i)]) (by kernel_rfl) ?_
        refine Op.val (dst := some 10) (v := .int .i64 (IntKind.wrap .i64 (i + 1))) (v' := .int .i64 (i + 1)) (by kernel_rfl) (wrapEq_i64 (by omega) (by omega)) ?_
        refine Op.pures 1 [0, 3] (L' := []) (e' := [(0, .string (mkS s)), (3, .int .i64 (i + 1))]) (by kernel_rfl) ?_
        refine Op.goto 2 (by kernel_rfl) ?_
        exact ih2  (i + 1) _ (by omega) (by omega) (by omega) (by exact allTo_step ha hx1029 (by simp [sgn]; omega) h0)  s_loop21025
       ·refine Op.cast (e' := [(0, .string (mkS s)), (3, .int .i64 i), (4, .int .u8 (x1028.toNat : Int)), (32, .bool false)]) (by rw [hb]) ?_
        have c1042 : ¬ ((x1028.toNat : Int) = (45 : Int)) := neF hb
        clear hb
        refine Op.pures 4 [0, 3, 36] (L' := []) (e' := [(0, .string (mkS s)), (3, .int .i64 i), (36, .bool (!((x1028.toNat : Int) == (95 : Int))))]) (by kernel_rfl) ?_
        refine Op.goto 6 (by kernel_rfl) ?_
        refine At.cond (b := !((x1028.toNat : Int) == (95 : Int))) (c := .tmp 36) (by kernel_rfl) (by kernel_rfl) (by kernel_rfl) 7 9 (by kernel_rfl) (by kernel_rfl) (fun hb => ?_) (fun hb => ?_)
        ·have c1043 : ¬ ((x1028.toNat : Int) = (95 : Int)) := neF (notT hb)
         clear hb
         refine At.keep [] ?_; show At _ _ _ [] _
         refine At.reg (L := [(0, false)]) (by kernel_rfl) ?_
         refine Op.pures 1 [2] (L' := []) (e' := [(2, .bool false)]) (by kernel_rfl) ?_
         refine Op.goto 8 (by kernel_rfl) ?_
         refine At.ret (f := Tryz.f162) (v := .bool false) (by kernel_rfl) (by kernel_rfl) ?_
         refine hR _ _ _ _ s_loop21025 ⟨?_, rfl, rfl⟩
         exact (eqB (by exact part_bad hx1029 (by simp [sgn]; omega)))
        ·have c1044 : (x1028.toNat : Int) = (95 : Int) := eq_of_beq (notF hb)
         clear hb
         refine At.keep [0, 3] ?_; show At _ _ _ [(0, .string (mkS s)), (3, .int .i64 i)] _
         refine At.reg (L := [(0, false), (1, false), (2, false)]) (by kernel_rfl) ?_
         refine Op.pures 1 [0, 3, 9] (L' := [(1, false), (2, false)]) (e' := [(0, .string (mkS s)), (3, .int .i64 i), (9, .int .i64 i)]) (by kernel_rfl) ?_
         refine Op.val (dst := some 10) (v := .int .i64 (IntKind.wrap .i64 (i + 1))) (v' := .int .i64 (i + 1)) (by kernel_rfl) (wrapEq_i64 (by omega) (by omega)) ?_
         refine Op.pures 1 [0, 3] (L' := []) (e' := [(0, .string (mkS s)), (3, .int .i64 (i + 1))]) (by kernel_rfl) ?_
         refine Op.goto 2 (by kernel_rfl) ?_
         exact ih2  (i + 1) _ (by omega) (by omega) (by omega) (by exact allTo_step ha hx1029 (by simp [sgn]; omega) h0)  s_loop21025
    ·refine Op.cast (e' := [(0, .string (mkS s)), (3, .int .i64 i), (4, .int .u8 (x1028.toNat : Int)), (16, .bool false)]) (by rw [hb]) ?_
     have c1045 : ¬ ((x1028.toNat : Int) ≥ (97 : Int)) := of_decide_eq_false hb
     clear hb
     refine Op.pures 7 [0, 3, 4, 20, 23] (L' := [(10, false), (11, false), (12, false), (13, false), (14, false), (15, false), (16, false), (17, false), (18, false), (19, false), (20, false), (21, false), (22, false)]) (e' := [(0, .string (mkS s)), (3, .int .i64 i), (4, .int .u8 (x1028.toNat : Int)), (20, .bool false), (23, .bool (decide ((x1028.toNat : Int) ≥ (48 : Int))))]) (by kernel_rfl) ?_
     refine Op.ways (b := decide ((x1028.toNat : Int) ≥ (48 : Int))) ⟨fun hb => ?_, fun hb => ?_⟩
     ·refine Op.cast (e' := [(0, .string (mkS s)), (3, .int .i64 i), (4, .int .u8 (x1028.toNat : Int)), (20, .bool false), (23, .bool true)]) (by rw [hb]) ?_
      have c1046 : (x1028.toNat : Int) ≥ (48 : Int) := of_decide_eq_true hb
      clear hb
      refine Op.pures 5 [0, 3, 4, 28] (L' := [(15, false), (16, false), (17, false), (18, false), (19, false), (20, false), (21, false), (22, false)]) (e' := [(0, .string (mkS s)), (3, .int .i64 i), (4, .int .u8 (x1028.toNat : Int)), (28, .bool (decide ((x1028.toNat : Int) ≤ (57 : Int))))]) (by kernel_rfl) ?_
      refine Op.ways (b := decide ((x1028.toNat : Int) ≤ (57 : Int))) ⟨fun hb => ?_, fun hb => ?_⟩
      ·refine Op.cast (e' := [(0, .string (mkS s)), (3, .int .i64 i), (4, .int .u8 (x1028.toNat : Int)), (28, .bool true)]) (by rw [hb]) ?_
       have c1047 : (x1028.toNat : Int) ≤ (57 : Int) := of_decide_eq_true hb
       clear hb
       refine Op.pures 8 [0, 3, 36] (L' := []) (e' := [(0, .string (mkS s)), (3, .int .i64 i), (36, .bool false)]) (by kernel_rfl) ?_
       refine Op.goto 6 (by kernel_rfl) ?_
       refine At.condF (c := .tmp 36) (by kernel_rfl) (by kernel_rfl) (by kernel_rfl) 9 (by kernel_rfl) ?_
       refine At.reg (L := [(0, false), (1, false), (2, false)]) (by kernel_rfl) ?_
       refine Op.pures 1 [0, 3, 9] (L' := [(1, false), (2, false)]) (e' := [(0, .string (mkS s)), (3, .int .i64 i), (9, .int .i64 i)]) (by kernel_rfl) ?_
       refine Op.val (dst := some 10) (v := .int .i64 (IntKind.wrap .i64 (i + 1))) (v' := .int .i64 (i + 1)) (by kernel_rfl) (wrapEq_i64 (by omega) (by omega)) ?_
       refine Op.pures 1 [0, 3] (L' := []) (e' := [(0, .string (mkS s)), (3, .int .i64 (i + 1))]) (by kernel_rfl) ?_
       refine Op.goto 2 (by kernel_rfl) ?_
       exact ih2  (i + 1) _ (by omega) (by omega) (by omega) (by exact allTo_step ha hx1029 (by simp [sgn]; omega) h0)  s_loop21025
      ·refine Op.cast (e' := [(0, .string (mkS s)), (3, .int .i64 i), (4, .int .u8 (x1028.toNat : Int)), (28, .bool false)]) (by rw [hb]) ?_
       have c1048 : ¬ ((x1028.toNat : Int) ≤ (57 : Int)) := of_decide_eq_false hb
       clear hb
       refine Op.pures 4 [0, 3, 4, 32] (L' := [(19, false), (20, false), (21, false), (22, false)]) (e' := [(0, .string (mkS s)), (3, .int .i64 i), (4, .int .u8 (x1028.toNat : Int)), (32, .bool ((x1028.toNat : Int) == (45 : Int)))]) (by kernel_rfl) ?_
       refine Op.ways (b := (x1028.toNat : Int) == (45 : Int)) ⟨fun hb => ?_, fun hb => ?_⟩
       ·refine Op.cast (e' := [(0, .string (mkS s)), (3, .int .i64 i), (4, .int .u8 (x1028.toNat : Int)), (32, .bool true)]) (by rw [hb]) ?_
        have c1049 : (x1028.toNat : Int) = (45 : Int) := eq_of_beq hb
        clear hb
        refine Op.pures 4 [0, 3, 36] (L' := []) (e' := [(0, .string (mkS s)), (3, .int .i64 i), (36, .bool false)]) (by kernel_rfl) ?_
        refine Op.goto 6 (by kernel_rfl) ?_
        refine At.condF (c := .tmp 36) (by kernel_rfl) (by kernel_rfl) (by kernel_rfl) 9 (by kernel_rfl) ?_
        refine At.reg (L := [(0, false), (1, false), (2, false)]) (by kernel_rfl) ?_
        refine Op.pures 1 [0, 3, 9] (L' := [(1, false), (2, false)]) (e' := [(0, .string (mkS s)), (3, .int .i64 i), (9, .int .i64 i)]) (by kernel_rfl) ?_
        refine Op.val (dst := some 10) (v := .int .i64 (IntKind.wrap .i64 (i + 1))) (v' := .int .i64 (i + 1)) (by kernel_rfl) (wrapEq_i64 (by omega) (by omega)) ?_
        refine Op.pures 1 [0, 3] (L' := []) (e' := [(0, .string (mkS s)), (3, .int .i64 (i + 1))]) (by kernel_rfl) ?_
        refine Op.goto 2 (by kernel_rfl) ?_
        exact ih2  (i + 1) _ (by omega) (by omega) (by omega) (by exact allTo_step ha hx1029 (by simp [sgn]; omega) h0)  s_loop21025
       ·refine Op.cast (e' := [(0, .string (mkS s)), (3, .int .i64 i), (4, .int .u8 (x1028.toNat : Int)), (32, .bool false)]) (by rw [hb]) ?_
        have c1050 : ¬ ((x1028.toNat : Int) = (45 : Int)) := neF hb
        clear hb
        refine Op.pures 4 [0, 3, 36] (L' := []) (e' := [(0, .string (mkS s)), (3, .int .i64 i), (36, .bool (!((x1028.toNat : Int) == (95 : Int))))]) (by kernel_rfl) ?_
        refine Op.goto 6 (by kernel_rfl) ?_
        refine At.cond (b := !((x1028.toNat : Int) == (95 : Int))) (c := .tmp 36) (by kernel_rfl) (by kernel_rfl) (by kernel_rfl) 7 9 (by kernel_rfl) (by kernel_rfl) (fun hb => ?_) (fun hb => ?_)
        ·have c1051 : ¬ ((x1028.toNat : Int) = (95 : Int)) := neF (notT hb)
         clear hb
         refine At.keep [] ?_; show At _ _ _ [] _
         refine At.reg (L := [(0, false)]) (by kernel_rfl) ?_
         refine Op.pures 1 [2] (L' := []) (e' := [(2, .bool false)]) (by kernel_rfl) ?_
         refine Op.goto 8 (by kernel_rfl) ?_
         refine At.ret (f := Tryz.f162) (v := .bool false) (by kernel_rfl) (by kernel_rfl) ?_
         refine hR _ _ _ _ s_loop21025 ⟨?_, rfl, rfl⟩
         exact (eqB (by exact part_bad hx1029 (by simp [sgn]; omega)))
        ·have c1052 : (x1028.toNat : Int) = (95 : Int) := eq_of_beq (notF hb)
         clear hb
         refine At.keep [0, 3] ?_; show At _ _ _ [(0, .string (mkS s)), (3, .int .i64 i)] _
         refine At.reg (L := [(0, false), (1, false), (2, false)]) (by kernel_rfl) ?_
         refine Op.pures 1 [0, 3, 9] (L' := [(1, false), (2, false)]) (e' := [(0, .string (mkS s)), (3, .int .i64 i), (9, .int .i64 i)]) (by kernel_rfl) ?_
         refine Op.val (dst := some 10) (v := .int .i64 (IntKind.wrap .i64 (i + 1))) (v' := .int .i64 (i + 1)) (by kernel_rfl) (wrapEq_i64 (by omega) (by omega)) ?_
         refine Op.pures 1 [0, 3] (L' := []) (e' := [(0, .string (mkS s)), (3, .int .i64 (i + 1))]) (by kernel_rfl) ?_
         refine Op.goto 2 (by kernel_rfl) ?_
         exact ih2  (i + 1) _ (by omega) (by omega) (by omega) (by exact allTo_step ha hx1029 (by simp [sgn]; omega) h0)  s_loop21025
     ·refine Op.cast (e' := [(0, .string (mkS s)), (3, .int .i64 i), (4, .int .u8 (x1028.toNat : Int)), (20, .bool false), (23, .bool false)]) (by rw [hb]) ?_
      have c1053 : ¬ ((x1028.toNat : Int) ≥ (48 : Int)) := of_decide_eq_false hb
      clear hb
      refine Op.pures 9 [0, 3, 4, 32] (L' := [(19, false), (20, false), (21, false), (22, false)]) (e' := [(0, .string (mkS s)), (3, .int .i64 i), (4, .int .u8 (x1028.toNat : Int)), (32, .bool ((x1028.toNat : Int) == (45 : Int)))]) (by kernel_rfl) ?_
      refine Op.ways (b := (x1028.toNat : Int) == (45 : Int)) ⟨fun hb => ?_, fun hb => ?_⟩
      ·refine Op.cast (e' := [(0, .string (mkS s)), (3, .int .i64 i), (4, .int .u8 (x1028.toNat : Int)), (32, .bool true)]) (by rw [hb]) ?_
       have c1054 : (x1028.toNat : Int) = (45 : Int) := eq_of_beq hb
       clear hb
       refine Op.pures 4 [0, 3, 36] (L' := []) (e' := [(0, .string (mkS s)), (3, .int .i64 i), (36, .bool false)]) (by kernel_rfl) ?_
       refine Op.goto 6 (by kernel_rfl) ?_
       refine At.condF (c := .tmp 36) (by kernel_rfl) (by kernel_rfl) (by kernel_rfl) 9 (by kernel_rfl) ?_
       refine At.reg (L := [(0, false), (1, false), (2, false)]) (by kernel_rfl) ?_
       refine Op.pures 1 [0, 3, 9] (L' := [(1, false), (2, false)]) (e' := [(0, .string (mkS s)), (3, .int .i64 i), (9, .int .i64 i)]) (by kernel_rfl) ?_
       refine Op.val (dst := some 10) (v := .int .i64 (IntKind.wrap .i64 (i + 1))) (v' := .int .i64 (i + 1)) (by kernel_rfl) (wrapEq_i64 (by omega) (by omega)) ?_
       refine Op.pures 1 [0, 3] (L' := []) (e' := [(0, .string (mkS s)), (3, .int .i64 (i + 1))]) (by kernel_rfl) ?_
       refine Op.goto 2 (by kernel_rfl) ?_
       exact ih2  (i + 1) _ (by omega) (by omega) (by omega) (by exact allTo_step ha hx1029 (by simp [sgn]; omega) h0)  s_loop21025
      ·refine Op.cast (e' := [(0, .string (mkS s)), (3, .int .i64 i), (4, .int .u8 (x1028.toNat : Int)), (32, .bool false)]) (by rw [hb]) ?_
       have c1055 : ¬ ((x1028.toNat : Int) = (45 : Int)) := neF hb
       clear hb
       refine Op.pures 4 [0, 3, 36] (L' := []) (e' := [(0, .string (mkS s)), (3, .int .i64 i), (36, .bool (!((x1028.toNat : Int) == (95 : Int))))]) (by kernel_rfl) ?_
       refine Op.goto 6 (by kernel_rfl) ?_
       refine At.cond (b := !((x1028.toNat : Int) == (95 : Int))) (c := .tmp 36) (by kernel_rfl) (by kernel_rfl) (by kernel_rfl) 7 9 (by kernel_rfl) (by kernel_rfl) (fun hb => ?_) (fun hb => ?_)
       ·have c1056 : ¬ ((x1028.toNat : Int) = (95 : Int)) := neF (notT hb)
        clear hb
        refine At.keep [] ?_; show At _ _ _ [] _
        refine At.reg (L := [(0, false)]) (by kernel_rfl) ?_
        refine Op.pures 1 [2] (L' := []) (e' := [(2, .bool false)]) (by kernel_rfl) ?_
        refine Op.goto 8 (by kernel_rfl) ?_
        refine At.ret (f := Tryz.f162) (v := .bool false) (by kernel_rfl) (by kernel_rfl) ?_
        refine hR _ _ _ _ s_loop21025 ⟨?_, rfl, rfl⟩
        exact (eqB (by exact part_bad hx1029 (by simp [sgn]; omega)))
       ·have c1057 : (x1028.toNat : Int) = (95 : Int) := eq_of_beq (notF hb)
        clear hb
        refine At.keep [0, 3] ?_; show At _ _ _ [(0, .string (mkS s)), (3, .int .i64 i)] _
        refine At.reg (L := [(0, false), (1, false), (2, false)]) (by kernel_rfl) ?_
        refine Op.pures 1 [0, 3, 9] (L' := [(1, false), (2, false)]) (e' := [(0, .string (mkS s)), (3, .int .i64 i), (9, .int .i64 i)]) (by kernel_rfl) ?_
        refine Op.val (dst := some 10) (v := .int .i64 (IntKind.wrap .i64 (i + 1))) (v' := .int .i64 (i + 1)) (by kernel_rfl) (wrapEq_i64 (by omega) (by omega)) ?_
        refine Op.pures 1 [0, 3] (L' := []) (e' := [(0, .string (mkS s)), (3, .int .i64 (i + 1))]) (by kernel_rfl) ?_
        refine Op.goto 2 (by kernel_rfl) ?_
        exact ih2  (i + 1) _ (by omega) (by omega) (by omega) (by exact allTo_step ha hx1029 (by simp [sgn]; omega) h0)  s_loop21025
   ·have c1058 : ¬ (i < (s.length : Int)) := of_decide_eq_false hb
    clear hb
    refine At.keep [0] ?_; show At _ _ _ [(0, .string (mkS s))] _
    refine At.reg (L := [(0, false), (1, false), (2, false), (3, false), (4, false), (5, false), (6, false), (7, false), (8, false)]) (by kernel_rfl) ?_
    refine Op.pures 4 [0, 40] (L' := [(4, false), (5, false), (6, false), (7, false), (8, false)]) (e' := [(0, .string (mkS s)), (40, .bool (decide ((s.length : Int) ≥ (1 : Int))))]) (by kernel_rfl) ?_
    refine Op.ways (b := decide ((s.length : Int) ≥ (1 : Int))) ⟨fun hb => ?_, fun hb => ?_⟩
    ·refine Op.cast (e' := [(0, .string (mkS s)), (40, .bool true)]) (by rw [hb]) ?_
     have c1059 : (s.length : Int) ≥ (1 : Int) := of_decide_eq_true hb
     clear hb
     refine Op.pures 5 [2] (L' := []) (e' := [(2, .bool (decide ((s.length : Int) ≤ (16 : Int))))]) (by kernel_rfl) ?_
     refine Op.goto 11 (by kernel_rfl) ?_
     refine At.ret (f := Tryz.f162) (v := .bool (decide ((s.length : Int) ≤ (16 : Int)))) (by kernel_rfl) (by kernel_rfl) ?_
     refine hR _ _ _ _ s_loop21025 ⟨?_, rfl, rfl⟩
     exact (eqB (by exact part_end ha c1058 c1059))
    ·refine Op.cast (e' := [(0, .string (mkS s)), (40, .bool false)]) (by rw [hb]) ?_
     have c1060 : ¬ ((s.length : Int) ≥ (1 : Int)) := of_decide_eq_false hb
     clear hb
     refine Op.pures 5 [2] (L' := []) (e' := [(2, .bool false)]) (by kernel_rfl) ?_
     refine Op.goto 11 (by kernel_rfl) ?_
     refine At.ret (f := Tryz.f162) (v := .bool false) (by kernel_rfl) (by kernel_rfl) ?_
     refine hR _ _ _ _ s_loop21025 ⟨?_, rfl, rfl⟩
     exact (eqB (by exact part_end0 c1060))
 exact loop2 _  0 _ (Nat.lt_succ_self _) (by omega) (by omega) (by exact allTo_0 _)  s0
theorem wholeR (B : World) (h : Heap) (g : GH) (hg : Sub g h) (hG : Glob g) (v_l : Value) (l : List (List UInt8)) (h_l : SlR g 9 kStr v_l l) (hl : l.length ≤ 1000000000) (hL : (joined l).length ≤ 10000000000) :
  Spec Tryz.prog B 130 #[v_l] h g [] (fun rv g' L' => rv = .string (mkS (joined l)) ∧ g' = g ∧ L' = []) := by
 obtain ⟨a_l, n_l, rfl⟩ := h_l.form
 refine Spec.of_at (f := Tryz.f130) (e := [(0, .slice a_l l.length n_l)]) Tryz.func130 (by kernel_rfl) (Nat.le_of_ble_eq_true (by kernel_rfl)) (by kernel_rfl) (by kernel_rfl) ?_
 intro R hR
 have s0 := St.init hg
 refine At.reg (L := [(0, false)]) (by kernel_rfl) ?_
 refine Op.pures 1 [0] (L' := []) (e' := [(0, .slice a_l l.length n_l)]) (by kernel_rfl) ?_
 refine Op.goto 1 (by kernel_rfl) ?_
 refine At.reg (L := [(0, false)]) (by kernel_rfl) ?_
 refine Op.pures 1 [0, 3] (L' := []) (e' := [(0, .slice a_l l.length n_l), (3, .string (mkS []))]) (by kernel_rfl) ?_
 refine Op.goto 2 (by kernel_rfl) ?_
 refine At.reg (L := [(0, false)]) (by kernel_rfl) ?_
 refine Op.pures 1 [0, 3, 4] (L' := []) (e' := [(0, .slice a_l l.length n_l), (3, .string (mkS [])), (4, .int .i64 0)]) (by kernel_rfl) ?_
 refine Op.goto 3 (by kernel_rfl) ?_
 have loop3 : ∀ (m : Nat) (out : List UInt8) (i : Int) (h1061 : Heap) (hm : l.length - i.toNat < m) (h0 : 0 ≤ i) (h2 : i ≤ l.length) (ho : out = wh (l.take i.toNat))     (s_loop31060 : St h g (ids []) g [] h1061), At (fctx Tryz.prog B 130 Tryz.f130 R) [] 3 [(0, .slice a_l l.length n_l), (3, .string (mkS out)), (4, .int .i64 i)] h1061 := by
  intro m; induction m with
  | zero => intros; omega
  | succ m ih3 =>
   intro out i h1061 hm h0 h2 ho s_loop31060
   refine At.reg (L := [(0, false), (1, false), (2, false), (3, false)]) (by kernel_rfl) ?_
   refine Op.pures 4 [0, 3, 4, 8] (L' := []) (e' := [(0, .slice a_l l.length n_l), (3, .string (mkS out)), (4, .int .i64 i), (8, .bool (decide (i < (l.length : Int))))]) (by kernel_rfl) ?_
   refine Op.goto 4 (by kernel_rfl) ?_
   refine At.cond (b := decide (i < (l.length : Int))) (c := .tmp 8) (by kernel_rfl) (by kernel_rfl) (by kernel_rfl) 5 7 (by kernel_rfl) (by kernel_rfl) (fun hb => ?_) (fun hb => ?_)
   ·have c1062 : i < (l.length : Int) := of_decide_eq_true hb
    clear hb
    refine At.keep [0, 3, 4] ?_; show At _ _ _ [(0, .slice a_l l.length n_l), (3, .string (mkS out)), (4, .int .i64 i)] _
    refine At.reg (L := [(0, false), (1, false), (2, false), (3, false), (4, false), (5, false), (6, false), (7, false)]) (by kernel_rfl) ?_
    refine Op.pures 3 [0, 3, 4, 11, 12, 13] (L' := [(3, false), (4, false), (5, false), (6, false), (7, false)]) (e' := [(0, .slice a_l l.length n_l), (3, .string (mkS out)), (4, .int .i64 i), (11, .string (mkS out)), (12, .slice a_l l.length n_l), (13, .int .i64 i)]) (by kernel_rfl) ?_
    obtain ⟨x1063, hx1064⟩ : ∃ c, l[(i : Int).toNat]? = some c := ⟨_, List.getElem?_eq_getElem (by omega)⟩
    obtain ⟨b1065, o1066, cu1067, fz1068, ha1069, hb1070, hk1071⟩ := SlR.at_ h_l _ hx1064
    cases ha1069
    refine Op.idx (T := 54) (E := 9) (sz := 1) (by_ := 16) (n := l.length) (c := n_l) (k := .i64) (x := (.tmp 12)) (ix := (.tmp 13)) (dst := 14) (bk := b1065) (o := o1066) (m := i) (by kernel_rfl) (by kernel_rfl) (by kernel_rfl) (by kernel_rfl) (by omega) (by omega) ?_
    replace hk1071 : cut _ _ _ = [.string (mkS x1063)] := hk1071
    refine Op.load (T := 9) (x := (.tmp 14)) (o := o1066 + (i : Int).toNat * 1) (d := 15) (n := 1) (v := .string (mkS x1063)) (by kernel_rfl) (by kernel_rfl) (by kernel_rfl) (s_loop31060.sub _ _ hb1070) (cut_get hk1071 0 rfl) ?_
    refine Op.strAdd (T := 9) (T' := 9) (x := (.const (.string (mkS ([47]))))) (y := (.tmp 15)) (dst := 16) (l := [47]) (m := x1063) (by kernel_rfl) (by kernel_rfl) (by kernel_rfl) (by (have hb := wh_bound ho h0 hx1064; simp only [List.length_append, List.length_cons, List.length_nil]; omega)) ?_
    refine Op.strAdd (T := 9) (T' := 9) (x := (.tmp 11)) (y := (.tmp 16)) (dst := 17) (l := out) (m := ([47]) ++ x1063) (by kernel_rfl) (by kernel_rfl) (by kernel_rfl) (by (have hb := wh_bound ho h0 hx1064; simp only [List.length_append, List.length_cons, List.length_nil]; omega)) ?_
    refine Op.pures 1 [0, 3, 4] (L' := []) (e' := [(0, .slice (some ⟨b1065, o1066, none⟩) l.length n_l), (3, .string (mkS (out ++ (([47]) ++ x1063)))), (4, .int .i64 i)]) (by kernel_rfl) ?_
    refine Op.goto 6 (by kernel_rfl) ?_
    refine At.reg (L := [(0, false), (1, false), (2, false)]) (by kernel_rfl) ?_
    refine Op.pures 1 [0, 3, 4, 9] (L' := [(1, false), (2, false)]) (e' := [(0, .slice (some ⟨b1065, o1066, none⟩) l.length n_l), (3, .string (mkS (out ++ (([47]) ++ x1063)))), (4, .int .i64 i), (9, .int .i64 i)]) (by kernel_rfl) ?_
    refine Op.val (dst := some 10) (v := .int .i64 (IntKind.wrap .i64 (i + 1))) (v' := .int .i64 (i + 1)) (by kernel_rfl) (wrapEq_i64 (by omega) (by omega)) ?_
    refine Op.pures 1 [0, 3, 4] (L' := []) (e' := [(0, .slice (some ⟨b1065, o1066, none⟩) l.length n_l), (3, .string (mkS (out ++ (([47]) ++ x1063)))), (4, .int .i64 (i + 1))]) (by kernel_rfl) ?_
    refine Op.goto 3 (by kernel_rfl) ?_
    exact ih3  (out ++ (([47]) ++ x1063)) (i + 1) _ (by omega) (by omega) (by omega) (by exact wh_step ho h0 hx1064)  s_loop31060
   ·have c1072 : ¬ (i < (l.length : Int)) := of_decide_eq_false hb
    clear hb
    refine At.keep [3] ?_; show At _ _ _ [(3, .string (mkS out))] _
    refine At.reg (L := [(0, false), (1, false)]) (by kernel_rfl) ?_
    refine Op.pures 1 [3, 18] (L' := [(1, false)]) (e' := [(3, .string (mkS out)), (18, .string (mkS out))]) (by kernel_rfl) ?_
    refine Op.val (dst := some 19) (v := .bool ((mkS out).toList == (mkS []).toList)) (v' := .bool (out == ([] : List UInt8))) (by kernel_rfl) (by rw [toList_mkS, toList_mkS]) ?_
    refine Op.goto 8 (by kernel_rfl) ?_
    refine At.cond (b := out == ([] : List UInt8)) (c := .tmp 19) (by kernel_rfl) (by kernel_rfl) (by kernel_rfl) 9 11 (by kernel_rfl) (by kernel_rfl) (fun hb => ?_) (fun hb => ?_)
    ·have c1073 : out = ([] : List UInt8) := eq_of_beq hb
     clear hb
     refine At.keep [] ?_; show At _ _ _ [] _
     refine At.reg (L := [(0, false)]) (by kernel_rfl) ?_
     refine Op.pures 1 [2] (L' := []) (e' := [(2, .string (mkS ([47])))]) (by kernel_rfl) ?_
     refine Op.goto 10 (by kernel_rfl) ?_
     refine At.ret (f := Tryz.f130) (v := .string (mkS ([47]))) (by kernel_rfl) (by kernel_rfl) ?_
     refine hR _ _ _ _ s_loop31060 ⟨?_, rfl, rfl⟩
     exact (eqS (by exact wh_end0 ho c1072 c1073))
    ·have c1074 : ¬ (out = ([] : List UInt8)) := neF hb
     clear hb
     refine At.keep [3] ?_; show At _ _ _ [(3, .string (mkS out))] _
     refine At.reg (L := [(0, false), (1, false)]) (by kernel_rfl) ?_
     refine Op.pures 2 [2] (L' := []) (e' := [(2, .string (mkS out))]) (by kernel_rfl) ?_
     refine Op.goto 12 (by kernel_rfl) ?_
     refine At.ret (f := Tryz.f130) (v := .string (mkS out)) (by kernel_rfl) (by kernel_rfl) ?_
     refine hR _ _ _ _ s_loop31060 ⟨?_, rfl, rfl⟩
     exact (eqS (by exact wh_end1 ho c1072 c1074))
 exact loop3 _  [] 0 _ (Nat.lt_succ_self _) (by omega) (by omega) (by rfl)  s0
theorem partsR (B : World) (h : Heap) (g : GH) (hg : Sub g h) (hG : Glob g) (p : List UInt8) (hlen : p.length ≤ 1000000000) :
  Spec Tryz.prog B 129 #[.string (mkS p)] h g [] (fun rv g' L' => ∃ v0, rv = .tuple #[v0, .int .i64 (pErr p)] ∧ SlR g' 9 kStr v0 (pList p) ∧ L' = []) := by
 refine Spec.of_at (f := Tryz.f129) (e := [(0, .string (mkS p))]) Tryz.func129 (by kernel_rfl) (Nat.le_of_ble_eq_true (by kernel_rfl)) (by kernel_rfl) (by kernel_rfl) ?_
 intro R hR
 have s0 := St.init hg
 refine At.reg (L := [(0, false), (1, false)]) (by kernel_rfl) ?_
 refine Op.pures 2 [0] (L' := []) (e' := [(0, .string (mkS p))]) (by kernel_rfl) ?_
 refine Op.goto 1 (by kernel_rfl) ?_
 refine At.reg (L := [(0, false), (1, false), (2, false), (3, false), (4, false), (5, false), (6, false), (7, false), (8, false), (9, false), (10, false), (11, false), (12, false)]) (by kernel_rfl) ?_
 refine Op.pures 4 [0, 10] (L' := [(4, false), (5, false), (6, false), (7, false), (8, false), (9, false), (10, false), (11, false), (12, false)]) (e' := [(0, .string (mkS p)), (10, .bool (decide ((p.length : Int) < (1 : Int))))]) (by kernel_rfl) ?_
 refine Op.ways (b := decide ((p.length : Int) < (1 : Int))) ⟨fun hb => ?_, fun hb => ?_⟩
 ·refine Op.cast (e' := [(0, .string (mkS p)), (10, .bool true)]) (by rw [hb]) ?_
  have c1075 : (p.length : Int) < (1 : Int) := of_decide_eq_true hb
  clear hb
  refine Op.pures 9 [0, 19] (L' := []) (e' := [(0, .string (mkS p)), (19, .bool true)]) (by kernel_rfl) ?_
  refine Op.goto 2 (by kernel_rfl) ?_
  refine At.condT (c := .tmp 19) (by kernel_rfl) (by kernel_rfl) (by kernel_rfl) 3 (by kernel_rfl) ?_
  refine At.reg (L := [(0, false), (1, false)]) (by kernel_rfl) ?_
  refine Op.pures 2 [2, 3] (L' := []) (e' := [(2, .slice none 0 0), (3, .int .i64 90)]) (by kernel_rfl) ?_
  refine Op.goto 4 (by kernel_rfl) ?_
  refine At.ret (f := Tryz.f129) (v := .tuple #[.slice none 0 0, .int .i64 90]) (by kernel_rfl) (by kernel_rfl) ?_
  refine hR _ _ _ _ s0 ⟨(.slice none 0 0), ?_, ?_, rfl⟩
  ·exact eqT2 rfl (eqI (by exact (no_ok (noR1 (by assumption))).2))
  ·exact slEq (SlR.empty _ _ _ _ _) (by exact (no_ok (noR1 (by assumption))).1)
 ·refine Op.cast (e' := [(0, .string (mkS p)), (10, .bool false)]) (by rw [hb]) ?_
  have c1076 : ¬ ((p.length : Int) < (1 : Int)) := of_decide_eq_false hb
  clear hb
  refine Op.pures 5 [0, 15] (L' := [(9, false), (10, false), (11, false), (12, false)]) (e' := [(0, .string (mkS p)), (15, .bool (decide ((p.length : Int) > (64 : Int))))]) (by kernel_rfl) ?_
  refine Op.ways (b := decide ((p.length : Int) > (64 : Int))) ⟨fun hb => ?_, fun hb => ?_⟩
  ·refine Op.cast (e' := [(0, .string (mkS p)), (15, .bool true)]) (by rw [hb]) ?_
   have c1077 : (p.length : Int) > (64 : Int) := of_decide_eq_true hb
   clear hb
   refine Op.pures 4 [0, 19] (L' := []) (e' := [(0, .string (mkS p)), (19, .bool true)]) (by kernel_rfl) ?_
   refine Op.goto 2 (by kernel_rfl) ?_
   refine At.condT (c := .tmp 19) (by kernel_rfl) (by kernel_rfl) (by kernel_rfl) 3 (by kernel_rfl) ?_
   refine At.reg (L := [(0, false), (1, false)]) (by kernel_rfl) ?_
   refine Op.pures 2 [2, 3] (L' := []) (e' := [(2, .slice none 0 0), (3, .int .i64 90)]) (by kernel_rfl) ?_
   refine Op.goto 4 (by kernel_rfl) ?_
   refine At.ret (f := Tryz.f129) (v := .tuple #[.slice none 0 0, .int .i64 90]) (by kernel_rfl) (by kernel_rfl) ?_
   refine hR _ _ _ _ s0 ⟨(.slice none 0 0), ?_, ?_, rfl⟩
   ·exact eqT2 rfl (eqI (by exact (no_ok (pOk_long (by omega))).2))
   ·exact slEq (SlR.empty _ _ _ _ _) (by exact (no_ok (pOk_long (by omega))).1)
  ·refine Op.cast (e' := [(0, .string (mkS p)), (15, .bool false)]) (by rw [hb]) ?_
   have c1078 : ¬ ((p.length : Int) > (64 : Int)) := of_decide_eq_false hb
   clear hb
   refine Op.pures 1 [0, 15, 16] (L' := [(10, false), (11, false), (12, false)]) (e' := [(0, .string (mkS p)), (15, .bool false), (16, .string (mkS p))]) (by kernel_rfl) ?_
   obtain ⟨x1079, hx1080⟩ : ∃ c, p[(0 : Int).toNat]? = some c := ⟨_, List.getElem?_eq_getElem (by omega)⟩
   refine Op.strIdx (T := 9) (k := .i64) (x := (.tmp 16)) (ix := (.const (.int .i64 0))) (dst := 17) (l := p) (n := 0) (by kernel_rfl) (by kernel_rfl) (by kernel_rfl) (by kernel_rfl) (by omega) hx1080 ?_
   refine Op.pures 2 [0, 19] (L' := []) (e' := [(0, .string (mkS p)), (19, .bool ((x1079.toNat : Int) != (47 : Int)))]) (by kernel_rfl) ?_
   refine Op.goto 2 (by kernel_rfl) ?_
   refine At.cond (b := (x1079.toNat : Int) != (47 : Int)) (c := .tmp 19) (by kernel_rfl) (by kernel_rfl) (by kernel_rfl) 3 5 (by kernel_rfl) (by kernel_rfl) (fun hb => ?_) (fun hb => ?_)
   ·have c1081 : ¬ ((x1079.toNat : Int) = (47 : Int)) := bneT hb
    clear hb
    refine At.keep [] ?_; show At _ _ _ [] _
    refine At.reg (L := [(0, false), (1, false)]) (by kernel_rfl) ?_
    refine Op.pures 2 [2, 3] (L' := []) (e' := [(2, .slice none 0 0), (3, .int .i64 90)]) (by kernel_rfl) ?_
    refine Op.goto 4 (by kernel_rfl) ?_
    refine At.ret (f := Tryz.f129) (v := .tuple #[.slice none 0 0, .int .i64 90]) (by kernel_rfl) (by kernel_rfl) ?_
    refine hR _ _ _ _ s0 ⟨(.slice none 0 0), ?_, ?_, rfl⟩
    ·exact eqT2 rfl (eqI (by exact (no_ok (noR3 hx1080 (by assumption))).2))
    ·exact slEq (SlR.empty _ _ _ _ _) (by exact (no_ok (noR3 hx1080 (by assumption))).1)
   ·have c1082 : (x1079.toNat : Int) = (47 : Int) := bneF hb
    clear hb
    refine At.keep [0] ?_; show At _ _ _ [(0, .string (mkS p))] _
    refine At.reg (L := [(0, false), (1, false)]) (by kernel_rfl) ?_
    refine Op.lit (T := 54) (len := 0) (parts := #[]) (dst := 20) (E := 9) (ps := []) (cs := #[]) (by kernel_rfl) (by kernel_rfl) (by kernel_rfl) s0 ?_
    intro b1083 h1084 s1085
    refine Op.pures 1 [0, 4] (L' := []) (e' := [(0, .string (mkS p)), (4, .slice (some ⟨b1083, 0, none⟩) 0 0)]) (by kernel_rfl) ?_
    refine Op.goto 6 (by kernel_rfl) ?_
    refine At.reg (L := [(0, false), (1, false)]) (by kernel_rfl) ?_
    refine Op.pures 1 [0, 4, 21] (L' := [(1, false)]) (e' := [(0, .string (mkS p)), (4, .slice (some ⟨b1083, 0, none⟩) 0 0), (21, .string (mkS p))]) (by kernel_rfl) ?_
    refine Op.val (dst := some 22) (v := .bool ((mkS p).toList == (mkS ([47])).toList)) (v' := .bool (p == ([47]))) (by kernel_rfl) (by rw [toList_mkS, toList_mkS]) ?_
    refine Op.goto 7 (by kernel_rfl) ?_
    refine At.cond (b := p == ([47])) (c := .tmp 22) (by kernel_rfl) (by kernel_rfl) (by kernel_rfl) 8 10 (by kernel_rfl) (by kernel_rfl) (fun hb => ?_) (fun hb => ?_)
    ·have c1086 : p = ([47]) := eq_of_beq hb
     clear hb
     refine At.keep [4] ?_; show At _ _ _ [(4, .slice (some ⟨b1083, 0, none⟩) 0 0)] _
     refine At.reg (L := [(0, false), (1, false), (2, false)]) (by kernel_rfl) ?_
     refine Op.pures 3 [2, 3] (L' := []) (e' := [(2, .slice (some ⟨b1083, 0, none⟩) 0 0), (3, .int .i64 0)]) (by kernel_rfl) ?_
     refine Op.goto 9 (by kernel_rfl) ?_
     have R1087 : Row 9 kStr g (.slice (some ⟨b1083, 0, none⟩) 0 0) ([] : List (List UInt8)) [(b1083, Obj.cells #[] 9 (0, 0))] := Row.lit (by kernel_rfl) (by unfold maxLen; decide) (by kernel_rfl) Reads.nil
     obtain ⟨g1088, s1089, hle1090, hf1091⟩ := Row.freeze R1087 (s1085.front 0 rfl)
     replace hG := hG.mono hle1090
     refine At.ret (f := Tryz.f129) (v := .tuple #[.slice (some ⟨b1083, 0, none⟩) 0 0, .int .i64 0]) (by kernel_rfl) (by kernel_rfl) ?_
     refine hR _ _ _ _ s1089 ⟨(.slice (some ⟨b1083, 0, none⟩) 0 0), ?_, ?_, rfl⟩
     ·exact eqT2 rfl (eqI (by exact (parts_47 (by assumption)).2))
     ·exact slEq hf1091 (by exact (parts_47 (by assumption)).1)
    ·have c1092 : ¬ (p = ([47])) := neF hb
     clear hb
     refine At.keep [0, 4] ?_; show At _ _ _ [(0, .string (mkS p)), (4, .slice (some ⟨b1083, 0, none⟩) 0 0)] _
     refine At.reg (L := [(0, false)]) (by kernel_rfl) ?_
     refine Op.pures 1 [0, 4, 5] (L' := []) (e' := [(0, .string (mkS p)), (4, .slice (some ⟨b1083, 0, none⟩) 0 0), (5, .int .i64 1)]) (by kernel_rfl) ?_
     refine Op.goto 11 (by kernel_rfl) ?_
     refine At.reg (L := [(0, false)]) (by kernel_rfl) ?_
     refine Op.pures 1 [0, 4, 5, 6] (L' := []) (e' := [(0, .string (mkS p)), (4, .slice (some ⟨b1083, 0, none⟩) 0 0), (5, .int .i64 1), (6, .int .i64 1)]) (by kernel_rfl) ?_
     refine Op.goto 12 (by kernel_rfl) ?_
     have loop12 : ∀ (m : Nat) (out : List (List UInt8)) (fr : Int) (i : Int) (a1093 : Option Addr) (n1094 : Nat) (ch1095 : Chunk) (h1097 : Heap) (hm : p.length + 1 - i.toNat < m) (h1 : 1 ≤ i) (h2 : i ≤ p.length + 1) (hf0 : 1 ≤ fr) (hf : fr ≤ i) (ho : (out.length : Int) ≤ i) (hP : PInv p out fr i) (R1096 : Row 9 kStr g (.slice a1093 out.length n1094) out ch1095)    (s_loop121096 : St h g (ids []) g [ch1095] h1097), At (fctx Tryz.prog B 129 Tryz.f129 R) [] 12 [(0, .string (mkS p)), (4, .slice a1093 out.length n1094), (5, .int .i64 fr), (6, .int .i64 i)] h1097 := by
      intro m; induction m with
      | zero => intros; omega
      | succ m ih12 =>
       intro out fr i a1093 n1094 ch1095 h1097 hm h1 h2 hf0 hf ho hP R1096 s_loop121096
       refine At.reg (L := [(0, false), (1, false), (2, false), (3, false)]) (by kernel_rfl) ?_
       refine Op.pures 4 [0, 4, 5, 6, 27] (L' := []) (e' := [(0, .string (mkS p)), (4, .slice a1093 out.length n1094), (5, .int .i64 fr), (6, .int .i64 i), (27, .bool (decide (i ≤ (p.length : Int))))]) (by kernel_rfl) ?_
       refine Op.goto 13 (by kernel_rfl) ?_
       refine At.cond (b := decide (i ≤ (p.length : Int))) (c := .tmp 27) (by kernel_rfl) (by kernel_rfl) (by kernel_rfl) 14 23 (by kernel_rfl) (by kernel_rfl) (fun hb => ?_) (fun hb => ?_)
       ·have c1098 : i ≤ (p.length : Int) := of_decide_eq_true hb
        clear hb
        refine At.keep [0, 4, 5, 6] ?_; show At _ _ _ [(0, .string (mkS p)), (4, .slice a1093 out.length n1094), (5, .int .i64 fr), (6, .int .i64 i)] _
        refine At.reg (L := [(0, false), (1, false), (2, false), (3, false), (4, false), (5, false), (6, false), (7, false), (8, false), (9, false)]) (by kernel_rfl) ?_
        refine Op.pures 5 [0, 4, 5, 6, 34] (L' := [(5, false), (6, false), (7, false), (8, false), (9, false)]) (e' := [(0, .string (mkS p)), (4, .slice a1093 out.length n1094), (5, .int .i64 fr), (6, .int .i64 i), (34, .bool (i == (p.length : Int)))]) (by kernel_rfl) ?_
        refine Op.ways (b := i == (p.length : Int)) ⟨fun hb => ?_, fun hb => ?_⟩
        ·refine Op.cast (e' := [(0, .string (mkS p)), (4, .slice a1093 out.length n1094), (5, .int .i64 fr), (6, .int .i64 i), (34, .bool true)]) (by rw [hb]) ?_
         have c1099 : i = (p.length : Int) := eq_of_beq hb
         clear hb
         refine Op.pures 5 [0, 4, 5, 6, 39] (L' := []) (e' := [(0, .string (mkS p)), (4, .slice a1093 out.length n1094), (5, .int .i64 fr), (6, .int .i64 i), (39, .bool true)]) (by kernel_rfl) ?_
         refine Op.goto 15 (by kernel_rfl) ?_
         refine At.condT (c := .tmp 39) (by kernel_rfl) (by kernel_rfl) (by kernel_rfl) 16 (by kernel_rfl) ?_
         refine At.reg (L := [(0, false), (1, false), (2, false), (3, false), (4, false), (5, false)]) (by kernel_rfl) ?_
         refine Op.pures 3 [0, 4, 5, 6, 40, 41, 42] (L' := [(3, false), (4, false), (5, false)]) (e' := [(0, .string (mkS p)), (4, .slice a1093 out.length n1094), (5, .int .i64 fr), (6, .int .i64 i), (40, .string (mkS p)), (41, .int .i64 fr), (42, .int .i64 i)]) (by kernel_rfl) ?_
         refine Op.strLoHi (T := 9) (k := .i64) (k' := .i64) (x := (.tmp 40)) (lo := (.tmp 41)) (hi := (.tmp 42)) (dst := 43) (l := p) (n := fr) (m := i) (by kernel_rfl) (by kernel_rfl) (by kernel_rfl) (by kernel_rfl) (by kernel_rfl) (by omega) (by omega) (by omega) ?_
         refine Op.call0 (dst := some 44) (f := 162) (args := #[.string (mkS ((p.take (i : Int).toNat).drop (fr : Int).toNat))]) (by kernel_rfl) s_loop121096 (partR _ _ _ s_loop121096.sub hG ((p.take (i : Int).toNat).drop (fr : Int).toNat) (by ((try dsimp only) <;> ((simp only [List.length_append, List.length_cons, List.length_nil, List.length_take, List.length_drop]; omega)))) ) ?_
         rintro _ g1102 _ h1100 hle1103 s1101 ⟨rfl, hgg, rfl⟩; subst g1102; clear hle1103
         refine Op.pures 1 [0, 4, 5, 6, 45] (L' := []) (e' := [(0, .string (mkS p)), (4, .slice a1093 out.length n1094), (5, .int .i64 fr), (6, .int .i64 i), (45, .bool (!(okPart ((p.take (i : Int).toNat).drop (fr : Int).toNat))))]) (by kernel_rfl) ?_
         refine Op.goto 17 (by kernel_rfl) ?_
         refine At.cond (b := !(okPart ((p.take (i : Int).toNat).drop (fr : Int).toNat))) (c := .tmp 45) (by kernel_rfl) (by kernel_rfl) (by kernel_rfl) 18 20 (by kernel_rfl) (by kernel_rfl) (fun hb => ?_) (fun hb => ?_)
         ·have c1104 : (okPart ((p.take (i : Int).toNat).drop (fr : Int).toNat)) = false := (notT hb)
          clear hb
          refine At.keep [] ?_; show At _ _ _ [] _
          refine At.reg (L := [(0, false), (1, false)]) (by kernel_rfl) ?_
          refine Op.pures 2 [2, 3] (L' := []) (e' := [(2, .slice none 0 0), (3, .int .i64 90)]) (by kernel_rfl) ?_
          refine Op.goto 19 (by kernel_rfl) ?_
          refine At.ret (f := Tryz.f129) (v := .tuple #[.slice none 0 0, .int .i64 90]) (by kernel_rfl) (by kernel_rfl) ?_
          have s1105 : St h g (ids []) g [] h1100 := (s1101).drop
          refine hR _ _ _ _ s1105 ⟨(.slice none 0 0), ?_, ?_, rfl⟩
          ·exact eqT2 rfl (eqI (by exact (no_ok (PInv_bad hP (by assumption) (by first | exact .inl (by assumption) | exact .inr ⟨_, {hx0}, by assumption⟩) (by assumption) (by assumption))).2))
          ·exact slEq (SlR.empty _ _ _ _ _) (by exact (no_ok (PInv_bad hP (by assumption) (by first | exact .inl (by assumption) | exact .inr ⟨_, {hx0}, by assumption⟩) (by assumption) (by assumption))).1)
         ·have c1106 : (okPart ((p.take (i : Int).toNat).drop (fr : Int).toNat)) = true := (notF hb)
          clear hb
          refine At.keep [0, 4, 5, 6] ?_; show At _ _ _ [(0, .string (mkS p)), (4, .slice a1093 out.length n1094), (5, .int .i64 fr), (6, .int .i64 i)] _
          refine At.reg (L := [(0, false), (1, false), (2, false), (3, false), (4, false), (5, false), (6, false), (7, false)]) (by kernel_rfl) ?_
          refine Op.pures 4 [0, 4, 6, 46, 47, 48, 49] (L' := [(4, false), (5, false), (6, false), (7, false)]) (e' := [(0, .string (mkS p)), (4, .slice a1093 out.length n1094), (6, .int .i64 i), (46, .slice a1093 out.length n1094), (47, .string (mkS p)), (48, .int .i64 fr), (49, .int .i64 i)]) (by kernel_rfl) ?_
          refine Op.strLoHi (T := 9) (k := .i64) (k' := .i64) (x := (.tmp 47)) (lo := (.tmp 48)) (hi := (.tmp 49)) (dst := 50) (l := p) (n := fr) (m := i) (by kernel_rfl) (by kernel_rfl) (by kernel_rfl) (by kernel_rfl) (by kernel_rfl) (by omega) (by omega) (by omega) ?_
          refine Op.lit (T := 54) (len := 1) (parts := #[(0, (.tmp 50))]) (dst := 51) (E := 9) (ps := [(0, .string (mkS ((p.take (i : Int).toNat).drop (fr : Int).toNat)))]) (cs := #[.string (mkS ((p.take (i : Int).toNat).drop (fr : Int).toNat))]) (by kernel_rfl) (by kernel_rfl) (by kernel_rfl) s1101 ?_
          intro b1107 h1108 s1109
          refine Op.append (x := (.tmp 46)) (y := (.tmp 51)) (t := 54) (t' := 54) (dst := 52) (E := 9) (by_ := 16) (d := kStr) (by kernel_rfl) (by kernel_rfl) (by kernel_rfl) (by kernel_rfl) rfl R1096 s1109 1 rfl (Src.lit (m := 1) (sz := 1) (s1109.chunk 0 rfl) (news := [.string (mkS ((p.take (i : Int).toNat).drop (fr : Int).toNat))]) rfl rfl (by simp [Value.oneCell']) _) (ys := [(p.take (i : Int).toNat).drop (fr : Int).toNat]) (⟨_, _, rfl, rfl, Reads.nil⟩) rfl (by (simp only [List.length_append, List.length_cons, List.length_nil, List.length_take, List.length_drop]; omega)) (fun _ _ _ => trivial) ?_
          intro v1110 ch1111 h1112 R1113 s1114 nn1115
          obtain ⟨a1116, n1117, rfl⟩ := R1113.form
          have s1118 := (s1114.front 0 rfl).drop
          refine Op.pures 1 [0, 4, 6] (L' := []) (e' := [(0, .string (mkS p)), (4, .slice a1116 ((out ++ ([(p.take (i : Int).toNat).drop (fr : Int).toNat])).length) n1117), (6, .int .i64 i)]) (by kernel_rfl) ?_
          refine Op.goto 21 (by kernel_rfl) ?_
          refine At.reg (L := [(0, false), (1, false), (2, false)]) (by kernel_rfl) ?_
          refine Op.pures 1 [0, 4, 6, 53] (L' := [(1, false), (2, false)]) (e' := [(0, .string (mkS p)), (4, .slice a1116 ((out ++ ([(p.take (i : Int).toNat).drop (fr : Int).toNat])).length) n1117), (6, .int .i64 i), (53, .int .i64 i)]) (by kernel_rfl) ?_
          refine Op.val (dst := some 54) (v := .int .i64 (IntKind.wrap .i64 (i + 1))) (v' := .int .i64 (i + 1)) (by kernel_rfl) (wrapEq_i64 (by omega) (by omega)) ?_
          refine Op.pures 1 [0, 4, 5, 6] (L' := []) (e' := [(0, .string (mkS p)), (4, .slice a1116 ((out ++ ([(p.take (i : Int).toNat).drop (fr : Int).toNat])).length) n1117), (5, .int .i64 (i + 1)), (6, .int .i64 i)]) (by kernel_rfl) ?_
          refine Op.goto 22 (by kernel_rfl) ?_
          refine At.reg (L := [(0, false), (1, false), (2, false)]) (by kernel_rfl) ?_
          refine Op.pures 1 [0, 4, 5, 6, 28] (L' := [(1, false), (2, false)]) (e' := [(0, .string (mkS p)), (4, .slice a1116 ((out ++ ([(p.take (i : Int).toNat).drop (fr : Int).toNat])).length) n1117), (5, .int .i64 (i + 1)), (6, .int .i64 i), (28, .int .i64 i)]) (by kernel_rfl) ?_
          refine Op.val (dst := some 29) (v := .int .i64 (IntKind.wrap .i64 (i + 1))) (v' := .int .i64 (i + 1)) (by kernel_rfl) (wrapEq_i64 (by omega) (by omega)) ?_
          refine Op.pures 1 [0, 4, 5, 6] (L' := []) (e' := [(0, .string (mkS p)), (4, .slice a1116 ((out ++ ([(p.take (i : Int).toNat).drop (fr : Int).toNat])).length) n1117), (5, .int .i64 (i + 1)), (6, .int .i64 (i + 1))]) (by kernel_rfl) ?_
          refine Op.goto 12 (by kernel_rfl) ?_
          exact ih12  (out ++ ([(p.take (i : Int).toNat).drop (fr : Int).toNat])) (i + 1) (i + 1) _ _ _ _ (by omega) (by omega) (by omega) (by omega) (by omega) (by (simp only [List.length_append, List.length_cons, List.length_nil, List.length_take, List.length_drop]; omega)) (by exact PInv_next hP (by assumption) (by first | exact .inl (by assumption) | exact .inr ⟨_, {hx0}, by assumption⟩) (by assumption)) R1113 s1118
        ·refine Op.cast (e' := [(0, .string (mkS p)), (4, .slice a1093 out.length n1094), (5, .int .i64 fr), (6, .int .i64 i), (34, .bool false)]) (by rw [hb]) ?_
         have c1119 : ¬ (i = (p.length : Int)) := neF hb
         clear hb
         refine Op.pures 2 [0, 4, 5, 6, 34, 35, 36] (L' := [(7, false), (8, false), (9, false)]) (e' := [(0, .string (mkS p)), (4, .slice a1093 out.length n1094), (5, .int .i64 fr), (6, .int .i64 i), (34, .bool false), (35, .string (mkS p)), (36, .int .i64 i)]) (by kernel_rfl) ?_
         obtain ⟨x1120, hx1121⟩ : ∃ c, p[(i : Int).toNat]? = some c := ⟨_, List.getElem?_eq_getElem (by omega)⟩
         refine Op.strIdx (T := 9) (k := .i64) (x := (.tmp 35)) (ix := (.tmp 36)) (dst := 37) (l := p) (n := i) (by kernel_rfl) (by kernel_rfl) (by kernel_rfl) (by kernel_rfl) (by omega) hx1121 ?_
         refine Op.pures 2 [0, 4, 5, 6, 39] (L' := []) (e' := [(0, .string (mkS p)), (4, .slice a1093 out.length n1094), (5, .int .i64 fr), (6, .int .i64 i), (39, .bool ((x1120.toNat : Int) == (47 : Int)))]) (by kernel_rfl) ?_
         refine Op.goto 15 (by kernel_rfl) ?_
         refine At.cond (b := (x1120.toNat : Int) == (47 : Int)) (c := .tmp 39) (by kernel_rfl) (by kernel_rfl) (by kernel_rfl) 16 22 (by kernel_rfl) (by kernel_rfl) (fun hb => ?_) (fun hb => ?_)
         ·have c1122 : (x1120.toNat : Int) = (47 : Int) := eq_of_beq hb
          clear hb
          refine At.keep [0, 4, 5, 6] ?_; show At _ _ _ [(0, .string (mkS p)), (4, .slice a1093 out.length n1094), (5, .int .i64 fr), (6, .int .i64 i)] _
          refine At.reg (L := [(0, false), (1, false), (2, false), (3, false), (4, false), (5, false)]) (by kernel_rfl) ?_
          refine Op.pures 3 [0, 4, 5, 6, 40, 41, 42] (L' := [(3, false), (4, false), (5, false)]) (e' := [(0, .string (mkS p)), (4, .slice a1093 out.length n1094), (5, .int .i64 fr), (6, .int .i64 i), (40, .string (mkS p)), (41, .int .i64 fr), (42, .int .i64 i)]) (by kernel_rfl) ?_
          refine Op.strLoHi (T := 9) (k := .i64) (k' := .i64) (x := (.tmp 40)) (lo := (.tmp 41)) (hi := (.tmp 42)) (dst := 43) (l := p) (n := fr) (m := i) (by kernel_rfl) (by kernel_rfl) (by kernel_rfl) (by kernel_rfl) (by kernel_rfl) (by omega) (by omega) (by omega) ?_
          refine Op.call0 (dst := some 44) (f := 162) (args := #[.string (mkS ((p.take (i : Int).toNat).drop (fr : Int).toNat))]) (by kernel_rfl) s_loop121096 (partR _ _ _ s_loop121096.sub hG ((p.take (i : Int).toNat).drop (fr : Int).toNat) (by ((try dsimp only) <;> ((simp only [List.length_append, List.length_cons, List.length_nil, List.length_take, List.length_drop]; omega)))) ) ?_
          rintro _ g1125 _ h1123 hle1126 s1124 ⟨rfl, hgg, rfl⟩; subst g1125; clear hle1126
          refine Op.pures 1 [0, 4, 5, 6, 45] (L' := []) (e' := [(0, .string (mkS p)), (4, .slice a1093 out.length n1094), (5, .int .i64 fr), (6, .int .i64 i), (45, .bool (!(okPart ((p.take (i : Int).toNat).drop (fr : Int).toNat))))]) (by kernel_rfl) ?_
          refine Op.goto 17 (by kernel_rfl) ?_
          refine At.cond (b := !(okPart ((p.take (i : Int).toNat).drop (fr : Int).toNat))) (c := .tmp 45) (by kernel_rfl) (by kernel_rfl) (by kernel_rfl) 18 20 (by kernel_rfl) (by kernel_rfl) (fun hb => ?_) (fun hb => ?_)
          ·have c1127 : (okPart ((p.take (i : Int).toNat).drop (fr : Int).toNat)) = false := (notT hb)
           clear hb
           refine At.keep [] ?_; show At _ _ _ [] _
           refine At.reg (L := [(0, false), (1, false)]) (by kernel_rfl) ?_
           refine Op.pures 2 [2, 3] (L' := []) (e' := [(2, .slice none 0 0), (3, .int .i64 90)]) (by kernel_rfl) ?_
           refine Op.goto 19 (by kernel_rfl) ?_
           refine At.ret (f := Tryz.f129) (v := .tuple #[.slice none 0 0, .int .i64 90]) (by kernel_rfl) (by kernel_rfl) ?_
           have s1128 : St h g (ids []) g [] h1123 := (s1124).drop
           refine hR _ _ _ _ s1128 ⟨(.slice none 0 0), ?_, ?_, rfl⟩
           ·exact eqT2 rfl (eqI (by exact (no_ok (PInv_bad hP (by assumption) (by first | exact .inl (by assumption) | exact .inr ⟨_, hx1121, by assumption⟩) (by assumption) (by assumption))).2))
           ·exact slEq (SlR.empty _ _ _ _ _) (by exact (no_ok (PInv_bad hP (by assumption) (by first | exact .inl (by assumption) | exact .inr ⟨_, hx1121, by assumption⟩) (by assumption) (by assumption))).1)
          ·have c1129 : (okPart ((p.take (i : Int).toNat).drop (fr : Int).toNat)) = true := (notF hb)
           clear hb
           refine At.keep [0, 4, 5, 6] ?_; show At _ _ _ [(0, .string (mkS p)), (4, .slice a1093 out.length n1094), (5, .int .i64 fr), (6, .int .i64 i)] _
           refine At.reg (L := [(0, false), (1, false), (2, false), (3, false), (4, false), (5, false), (6, false), (7, false)]) (by kernel_rfl) ?_
           refine Op.pures 4 [0, 4, 6, 46, 47, 48, 49] (L' := [(4, false), (5, false), (6, false), (7, false)]) (e' := [(0, .string (mkS p)), (4, .slice a1093 out.length n1094), (6, .int .i64 i), (46, .slice a1093 out.length n1094), (47, .string (mkS p)), (48, .int .i64 fr), (49, .int .i64 i)]) (by kernel_rfl) ?_
           refine Op.strLoHi (T := 9) (k := .i64) (k' := .i64) (x := (.tmp 47)) (lo := (.tmp 48)) (hi := (.tmp 49)) (dst := 50) (l := p) (n := fr) (m := i) (by kernel_rfl) (by kernel_rfl) (by kernel_rfl) (by kernel_rfl) (by kernel_rfl) (by omega) (by omega) (by omega) ?_
           refine Op.lit (T := 54) (len := 1) (parts := #[(0, (.tmp 50))]) (dst := 51) (E := 9) (ps := [(0, .string (mkS ((p.take (i : Int).toNat).drop (fr : Int).toNat)))]) (cs := #[.string (mkS ((p.take (i : Int).toNat).drop (fr : Int).toNat))]) (by kernel_rfl) (by kernel_rfl) (by kernel_rfl) s1124 ?_
           intro b1130 h1131 s1132
           refine Op.append (x := (.tmp 46)) (y := (.tmp 51)) (t := 54) (t' := 54) (dst := 52) (E := 9) (by_ := 16) (d := kStr) (by kernel_rfl) (by kernel_rfl) (by kernel_rfl) (by kernel_rfl) rfl R1096 s1132 1 rfl (Src.lit (m := 1) (sz := 1) (s1132.chunk 0 rfl) (news := [.string (mkS ((p.take (i : Int).toNat).drop (fr : Int).toNat))]) rfl rfl (by simp [Value.oneCell']) _) (ys := [(p.take (i : Int).toNat).drop (fr : Int).toNat]) (⟨_, _, rfl, rfl, Reads.nil⟩) rfl (by (simp only [List.length_append, List.length_cons, List.length_nil, List.length_take, List.length_drop]; omega)) (fun _ _ _ => trivial) ?_
           intro v1133 ch1134 h1135 R1136 s1137 nn1138
           obtain ⟨a1139, n1140, rfl⟩ := R1136.form
           have s1141 := (s1137.front 0 rfl).drop
           refine Op.pures 1 [0, 4, 6] (L' := []) (e' := [(0, .string (mkS p)), (4, .slice a1139 ((out ++ ([(p.take (i : Int).toNat).drop (fr : Int).toNat])).length) n1140), (6, .int .i64 i)]) (by kernel_rfl) ?_
           refine Op.goto 21 (by kernel_rfl) ?_
           refine At.reg (L := [(0, false), (1, false), (2, false)]) (by kernel_rfl) ?_
           refine Op.pures 1 [0, 4, 6, 53] (L' := [(1, false), (2, false)]) (e' := [(0, .string (mkS p)), (4, .slice a1139 ((out ++ ([(p.take (i : Int).toNat).drop (fr : Int).toNat])).length) n1140), (6, .int .i64 i), (53, .int .i64 i)]) (by kernel_rfl) ?_
           refine Op.val (dst := some 54) (v := .int .i64 (IntKind.wrap .i64 (i + 1))) (v' := .int .i64 (i + 1)) (by kernel_rfl) (wrapEq_i64 (by omega) (by omega)) ?_
           refine Op.pures 1 [0, 4, 5, 6] (L' := []) (e' := [(0, .string (mkS p)), (4, .slice a1139 ((out ++ ([(p.take (i : Int).toNat).drop (fr : Int).toNat])).length) n1140), (5, .int .i64 (i + 1)), (6, .int .i64 i)]) (by kernel_rfl) ?_
           refine Op.goto 22 (by kernel_rfl) ?_
           refine At.reg (L := [(0, false), (1, false), (2, false)]) (by kernel_rfl) ?_
           refine Op.pures 1 [0, 4, 5, 6, 28] (L' := [(1, false), (2, false)]) (e' := [(0, .string (mkS p)), (4, .slice a1139 ((out ++ ([(p.take (i : Int).toNat).drop (fr : Int).toNat])).length) n1140), (5, .int .i64 (i + 1)), (6, .int .i64 i), (28, .int .i64 i)]) (by kernel_rfl) ?_
           refine Op.val (dst := some 29) (v := .int .i64 (IntKind.wrap .i64 (i + 1))) (v' := .int .i64 (i + 1)) (by kernel_rfl) (wrapEq_i64 (by omega) (by omega)) ?_
           refine Op.pures 1 [0, 4, 5, 6] (L' := []) (e' := [(0, .string (mkS p)), (4, .slice a1139 ((out ++ ([(p.take (i : Int).toNat).drop (fr : Int).toNat])).length) n1140), (5, .int .i64 (i + 1)), (6, .int .i64 (i + 1))]) (by kernel_rfl) ?_
           refine Op.goto 12 (by kernel_rfl) ?_
           exact ih12  (out ++ ([(p.take (i : Int).toNat).drop (fr : Int).toNat])) (i + 1) (i + 1) _ _ _ _ (by omega) (by omega) (by omega) (by omega) (by omega) (by (simp only [List.length_append, List.length_cons, List.length_nil, List.length_take, List.length_drop]; omega)) (by exact PInv_next hP (by assumption) (by first | exact .inl (by assumption) | exact .inr ⟨_, hx1121, by assumption⟩) (by assumption)) R1136 s1141
         ·have c1142 : ¬ ((x1120.toNat : Int) = (47 : Int)) := neF hb
          clear hb
          refine At.keep [0, 4, 5, 6] ?_; show At _ _ _ [(0, .string (mkS p)), (4, .slice a1093 out.length n1094), (5, .int .i64 fr), (6, .int .i64 i)] _
          refine At.reg (L := [(0, false), (1, false), (2, false)]) (by kernel_rfl) ?_
          refine Op.pures 1 [0, 4, 5, 6, 28] (L' := [(1, false), (2, false)]) (e' := [(0, .string (mkS p)), (4, .slice a1093 out.length n1094), (5, .int .i64 fr), (6, .int .i64 i), (28, .int .i64 i)]) (by kernel_rfl) ?_
          refine Op.val (dst := some 29) (v := .int .i64 (IntKind.wrap .i64 (i + 1))) (v' := .int .i64 (i + 1)) (by kernel_rfl) (wrapEq_i64 (by omega) (by omega)) ?_
          refine Op.pures 1 [0, 4, 5, 6] (L' := []) (e' := [(0, .string (mkS p)), (4, .slice a1093 out.length n1094), (5, .int .i64 fr), (6, .int .i64 (i + 1))]) (by kernel_rfl) ?_
          refine Op.goto 12 (by kernel_rfl) ?_
          exact ih12  out fr (i + 1) _ _ _ _ (by omega) (by omega) (by omega) (by omega) (by omega) (by omega) (by exact PInv_miss hP (by assumption) (by assumption) hx1121 (by assumption)) R1096 s_loop121096
       ·have c1143 : ¬ (i ≤ (p.length : Int)) := of_decide_eq_false hb
        clear hb
        refine At.keep [4] ?_; show At _ _ _ [(4, .slice a1093 out.length n1094)] _
        refine At.reg (L := [(0, false), (1, false), (2, false)]) (by kernel_rfl) ?_
        refine Op.pures 3 [2, 3] (L' := []) (e' := [(2, .slice a1093 out.length n1094), (3, .int .i64 0)]) (by kernel_rfl) ?_
        refine Op.goto 24 (by kernel_rfl) ?_
        obtain ⟨g1144, s1145, hle1146, hf1147⟩ := Row.freeze R1096 (s_loop121096.front 0 rfl)
        replace hG := hG.mono hle1146
        refine At.ret (f := Tryz.f129) (v := .tuple #[.slice a1093 out.length n1094, .int .i64 0]) (by kernel_rfl) (by kernel_rfl) ?_
        refine hR _ _ _ _ s1145 ⟨(.slice a1093 out.length n1094), ?_, ?_, rfl⟩
        ·exact eqT2 rfl (eqI (by exact (PInv_end hP (by assumption) (by assumption) (head_at (by assumption) (by assumption)) (by assumption)).2))
        ·exact slEq hf1147 (by exact (PInv_end hP (by assumption) (by assumption) (head_at (by assumption) (by assumption)) (by assumption)).1)
     have R1148 : Row 9 kStr g (.slice (some ⟨b1083, 0, none⟩) 0 0) ([] : List (List UInt8)) [(b1083, Obj.cells #[] 9 (0, 0))] := Row.lit (by kernel_rfl) (by unfold maxLen; decide) (by kernel_rfl) Reads.nil
     exact loop12 _  ([] : List (List UInt8)) 1 1 _ _ _ _ (Nat.lt_succ_self _) (by omega) (by omega) (by omega) (by omega) (by decide) (by exact PInv_0 (by omega)) R1148 s1085
theorem checkR (B : World) (h : Heap) (g : GH) (hg : Sub g h) (hG : Glob g) (p : List UInt8) (hlen : p.length ≤ 1000000000) :
  Spec Tryz.prog B 90 #[.string (mkS p)] h g [] (fun rv g' L' => rv = .int .i64 (pErr p) ∧ g' = g ∧ L' = []) := by
 refine Spec.of_at (f := Tryz.f90) (e := [(0, .string (mkS p))]) Tryz.func90 (by kernel_rfl) (Nat.le_of_ble_eq_true (by kernel_rfl)) (by kernel_rfl) (by kernel_rfl) ?_
 intro R hR
 have s0 := St.init hg
 refine At.reg (L := [(0, false)]) (by kernel_rfl) ?_
 refine Op.pures 1 [0] (L' := []) (e' := [(0, .string (mkS p))]) (by kernel_rfl) ?_
 refine Op.goto 1 (by kernel_rfl) ?_
 refine At.reg (L := [(0, false), (1, false), (2, false), (3, false), (4, false), (5, false), (6, false)]) (by kernel_rfl) ?_
 refine Op.pures 1 [6] (L' := [(1, false), (2, false), (3, false), (4, false), (5, false), (6, false)]) (e' := [(6, .string (mkS p))]) (by kernel_rfl) ?_
 refine Op.call0 (dst := some 7) (f := 129) (args := #[.string (mkS p)]) (by kernel_rfl) s0 (partsR _ _ _ s0.sub hG p (by ((try dsimp only) <;> (omega))) ) ?_
 rintro _ g1155 _ h1149 hle1156 s1150 ⟨v1151, rfl, hr1152, rfl⟩
 obtain ⟨a1153, n1154, rfl⟩ := hr1152.form
 replace hG := hG.mono hle1156
 refine Op.pures 5 [4] (L' := []) (e' := [(4, .int .i64 (pErr p))]) (by kernel_rfl) ?_
 refine Op.goto 2 (by kernel_rfl) ?_
 refine At.reg (L := [(0, false), (1, false)]) (by kernel_rfl) ?_
 refine Op.pures 2 [2] (L' := []) (e' := [(2, .int .i64 (pErr p))]) (by kernel_rfl) ?_
 refine Op.goto 3 (by kernel_rfl) ?_
 refine At.ret (f := Tryz.f90) (v := .int .i64 (pErr p)) (by kernel_rfl) (by kernel_rfl) ?_
 have s1157 : St h g (ids []) g [] h1149 := s1150.unfrz
 refine hR _ _ _ _ s1157 ⟨?_, rfl, rfl⟩
 exact (eqI (by rfl))
theorem parentR (B : World) (h : Heap) (g : GH) (hg : Sub g h) (hG : Glob g) (p : List UInt8) (hlen : p.length ≤ 1000000000) :
  Spec Tryz.prog B 85 #[.string (mkS p)] h g [] (fun rv g' L' => rv = .tuple #[.string (mkS (parentOf p)), .int .i64 (cutErr p)] ∧ g' = g ∧ L' = []) := by
 refine Spec.of_at (f := Tryz.f85) (e := [(0, .string (mkS p))]) Tryz.func85 (by kernel_rfl) (Nat.le_of_ble_eq_true (by kernel_rfl)) (by kernel_rfl) (by kernel_rfl) ?_
 intro R hR
 have s0 := St.init hg
 refine At.reg (L := [(0, false), (1, false)]) (by kernel_rfl) ?_
 refine Op.pures 2 [0] (L' := []) (e' := [(0, .string (mkS p))]) (by kernel_rfl) ?_
 refine Op.goto 1 (by kernel_rfl) ?_
 refine At.reg (L := [(0, false), (1, false), (2, false), (3, false), (4, false), (5, false), (6, false)]) (by kernel_rfl) ?_
 refine Op.pures 1 [7] (L' := [(1, false), (2, false), (3, false), (4, false), (5, false), (6, false)]) (e' := [(7, .string (mkS p))]) (by kernel_rfl) ?_
 refine Op.call0 (dst := some 8) (f := 129) (args := #[.string (mkS p)]) (by kernel_rfl) s0 (partsR _ _ _ s0.sub hG p (by ((try dsimp only) <;> ((have := pList_len p; omega)))) ) ?_
 rintro _ g1164 _ h1158 hle1165 s1159 ⟨v1160, rfl, hr1161, rfl⟩
 obtain ⟨a1162, n1163, rfl⟩ := hr1161.form
 replace hG := hG.mono hle1165
 refine Op.pures 5 [4, 5] (L' := []) (e' := [(4, .slice a1162 ((pList p).length) n1163), (5, .int .i64 (pErr p))]) (by kernel_rfl) ?_
 refine Op.goto 2 (by kernel_rfl) ?_
 refine At.reg (L := [(0, false), (1, false), (2, false), (3, false), (4, false), (5, false), (6, false)]) (by kernel_rfl) ?_
 refine Op.pures 3 [4, 13] (L' := [(3, false), (4, false), (5, false), (6, false)]) (e' := [(4, .slice a1162 ((pList p).length) n1163), (13, .bool ((pErr p) != (0 : Int)))]) (by kernel_rfl) ?_
 refine Op.ways (b := (pErr p) != (0 : Int)) ⟨fun hb => ?_, fun hb => ?_⟩
 ·refine Op.cast (e' := [(4, .slice a1162 ((pList p).length) n1163), (13, .bool true)]) (by rw [hb]) ?_
  have c1166 : ¬ ((pErr p) = (0 : Int)) := bneT hb
  clear hb
  refine Op.pures 4 [4, 17] (L' := []) (e' := [(4, .slice a1162 ((pList p).length) n1163), (17, .bool true)]) (by kernel_rfl) ?_
  refine Op.goto 3 (by kernel_rfl) ?_
  refine At.condT (c := .tmp 17) (by kernel_rfl) (by kernel_rfl) (by kernel_rfl) 4 (by kernel_rfl) ?_
  refine At.reg (L := [(0, false), (1, false)]) (by kernel_rfl) ?_
  refine Op.pures 2 [2, 3] (L' := []) (e' := [(2, .string (mkS [])), (3, .int .i64 90)]) (by kernel_rfl) ?_
  refine Op.goto 5 (by kernel_rfl) ?_
  refine At.ret (f := Tryz.f85) (v := .tuple #[.string (mkS []), .int .i64 90]) (by kernel_rfl) (by kernel_rfl) ?_
  have s1167 : St h g (ids []) g [] h1158 := s1159.unfrz
  refine hR _ _ _ _ s1167 ⟨?_, rfl, rfl⟩
  exact eqT2 (eqS (by exact (parentR_no (pList_no (by assumption))).1)) (eqI (by exact (parentR_no (pList_no (by assumption))).2.1))
 ·refine Op.cast (e' := [(4, .slice a1162 ((pList p).length) n1163), (13, .bool false)]) (by rw [hb]) ?_
  have c1168 : (pErr p) = (0 : Int) := bneF hb
  clear hb
  refine Op.pures 4 [4, 17] (L' := []) (e' := [(4, .slice a1162 ((pList p).length) n1163), (17, .bool (((pList p).length : Int) == (0 : Int)))]) (by kernel_rfl) ?_
  refine Op.goto 3 (by kernel_rfl) ?_
  refine At.cond (b := ((pList p).length : Int) == (0 : Int)) (c := .tmp 17) (by kernel_rfl) (by kernel_rfl) (by kernel_rfl) 4 6 (by kernel_rfl) (by kernel_rfl) (fun hb => ?_) (fun hb => ?_)
  ·have c1169 : ((pList p).length : Int) = (0 : Int) := eq_of_beq hb
   clear hb
   refine At.keep [] ?_; show At _ _ _ [] _
   refine At.reg (L := [(0, false), (1, false)]) (by kernel_rfl) ?_
   refine Op.pures 2 [2, 3] (L' := []) (e' := [(2, .string (mkS [])), (3, .int .i64 90)]) (by kernel_rfl) ?_
   refine Op.goto 5 (by kernel_rfl) ?_
   refine At.ret (f := Tryz.f85) (v := .tuple #[.string (mkS []), .int .i64 90]) (by kernel_rfl) (by kernel_rfl) ?_
   have s1170 : St h g (ids []) g [] h1158 := s1159.unfrz
   refine hR _ _ _ _ s1170 ⟨?_, rfl, rfl⟩
   exact eqT2 (eqS (by exact (parentR_no (nil_len (by assumption))).1)) (eqI (by exact (parentR_no (nil_len (by assumption))).2.1))
  ·have c1171 : ¬ (((pList p).length : Int) = (0 : Int)) := neF hb
   clear hb
   refine At.keep [4] ?_; show At _ _ _ [(4, .slice a1162 ((pList p).length) n1163)] _
   refine At.reg (L := [(0, false), (1, false), (2, false), (3, false), (4, false), (5, false), (6, false), (7, false)]) (by kernel_rfl) ?_
   refine Op.pures 3 [18, 20] (L' := [(3, false), (4, false), (5, false), (6, false), (7, false)]) (e' := [(18, .slice a1162 ((pList p).length) n1163), (20, .int .i64 ((pList p).length : Int))]) (by kernel_rfl) ?_
   refine Op.val (dst := some 21) (v := .int .i64 (IntKind.wrap .i64 (((pList p).length : Int) - 1))) (v' := .int .i64 (((pList p).length : Int) - 1)) (by kernel_rfl) (wrapEq_i64 (by (have := pList_len p; omega)) (by (have := pList_len p; omega))) ?_
   refine Op.slHiD (T := 54) (E := 9) (by_ := 16) (x := (.tmp 18)) (ao := a1162) (n := ((pList p).length)) (c := n1163) (dst := 22) (d := kStr) (hi := (.tmp 21)) (k := .i64) (m := ((pList p).length : Int) - 1) (by kernel_rfl) (by kernel_rfl) (by kernel_rfl) (by kernel_rfl) hr1161 (by (have := pList_len p; omega)) (by (have := pList_len p; omega)) ?_
   intro v1172 hr1173
   obtain ⟨a1174, n1175, rfl⟩ := hr1173.form
   refine Op.call0 (dst := some 23) (f := 130) (args := #[.slice a1174 (((pList p).take (((pList p).length : Int) - 1 : Int).toNat).length) n1175]) (by kernel_rfl) s1159 (wholeR _ _ _ s1159.sub hG _ _ hr1173 (by ((try dsimp only) <;> ((have := pList_len p; simp only [List.length_take]; omega)))) (by ((try dsimp only) <;> ((rw [take_last rfl (by assumption)]; have := pDrop_len p; simp only [joined, List.length_cons]; omega)))) ) ?_
   rintro _ g1178 _ h1176 hle1179 s1177 ⟨rfl, hgg, rfl⟩; subst g1178; clear hle1179
   refine Op.pures 2 [2, 3] (L' := []) (e' := [(2, .string (mkS (joined ((pList p).take (((pList p).length : Int) - 1 : Int).toNat)))), (3, .int .i64 0)]) (by kernel_rfl) ?_
   refine Op.goto 7 (by kernel_rfl) ?_
   refine At.ret (f := Tryz.f85) (v := .tuple #[.string (mkS (joined ((pList p).take (((pList p).length : Int) - 1 : Int).toNat))), .int .i64 0]) (by kernel_rfl) (by kernel_rfl) ?_
   have s1180 : St h g (ids []) g [] h1176 := s1177.unfrz
   refine hR _ _ _ _ s1180 ⟨?_, rfl, rfl⟩
   exact eqT2 (eqS (by exact (parentR_ok (by assumption)).1)) (eqI (by exact (parentR_ok (by assumption)).2))
theorem nameR (B : World) (h : Heap) (g : GH) (hg : Sub g h) (hG : Glob g) (p : List UInt8) (hlen : p.length ≤ 1000000000) :
  Spec Tryz.prog B 131 #[.string (mkS p)] h g [] (fun rv g' L' => rv = .tuple #[.string (mkS (nameOf p)), .int .i64 (cutErr p)] ∧ g' = g ∧ L' = []) := by
 refine Spec.of_at (f := Tryz.f131) (e := [(0, .string (mkS p))]) Tryz.func131 (by kernel_rfl) (Nat.le_of_ble_eq_true (by kernel_rfl)) (by kernel_rfl) (by kernel_rfl) ?_
 intro R hR
 have s0 := St.init hg
 refine At.reg (L := [(0, false), (1, false)]) (by kernel_rfl) ?_
 refine Op.pures 2 [0] (L' := []) (e' := [(0, .string (mkS p))]) (by kernel_rfl) ?_
 refine Op.goto 1 (by kernel_rfl) ?_
 refine At.reg (L := [(0, false), (1, false), (2, false), (3, false), (4, false), (5, false), (6, false)]) (by kernel_rfl) ?_
 refine Op.pures 1 [7] (L' := [(1, false), (2, false), (3, false), (4, false), (5, false), (6, false)]) (e' := [(7, .string (mkS p))]) (by kernel_rfl) ?_
 refine Op.call0 (dst := some 8) (f := 129) (args := #[.string (mkS p)]) (by kernel_rfl) s0 (partsR _ _ _ s0.sub hG p (by ((try dsimp only) <;> ((have := pList_len p; omega)))) ) ?_
 rintro _ g1187 _ h1181 hle1188 s1182 ⟨v1183, rfl, hr1184, rfl⟩
 obtain ⟨a1185, n1186, rfl⟩ := hr1184.form
 replace hG := hG.mono hle1188
 refine Op.pures 5 [4, 5] (L' := []) (e' := [(4, .slice a1185 ((pList p).length) n1186), (5, .int .i64 (pErr p))]) (by kernel_rfl) ?_
 refine Op.goto 2 (by kernel_rfl) ?_
 refine At.reg (L := [(0, false), (1, false), (2, false), (3, false), (4, false), (5, false), (6, false)]) (by kernel_rfl) ?_
 refine Op.pures 3 [4, 13] (L' := [(3, false), (4, false), (5, false), (6, false)]) (e' := [(4, .slice a1185 ((pList p).length) n1186), (13, .bool ((pErr p) != (0 : Int)))]) (by kernel_rfl) ?_
 refine Op.ways (b := (pErr p) != (0 : Int)) ⟨fun hb => ?_, fun hb => ?_⟩
 ·refine Op.cast (e' := [(4, .slice a1185 ((pList p).length) n1186), (13, .bool true)]) (by rw [hb]) ?_
  have c1189 : ¬ ((pErr p) = (0 : Int)) := bneT hb
  clear hb
  refine Op.pures 4 [4, 17] (L' := []) (e' := [(4, .slice a1185 ((pList p).length) n1186), (17, .bool true)]) (by kernel_rfl) ?_
  refine Op.goto 3 (by kernel_rfl) ?_
  refine At.condT (c := .tmp 17) (by kernel_rfl) (by kernel_rfl) (by kernel_rfl) 4 (by kernel_rfl) ?_
  refine At.reg (L := [(0, false), (1, false)]) (by kernel_rfl) ?_
  refine Op.pures 2 [2, 3] (L' := []) (e' := [(2, .string (mkS [])), (3, .int .i64 90)]) (by kernel_rfl) ?_
  refine Op.goto 5 (by kernel_rfl) ?_
  refine At.ret (f := Tryz.f131) (v := .tuple #[.string (mkS []), .int .i64 90]) (by kernel_rfl) (by kernel_rfl) ?_
  have s1190 : St h g (ids []) g [] h1181 := s1182.unfrz
  refine hR _ _ _ _ s1190 ⟨?_, rfl, rfl⟩
  exact eqT2 (eqS (by exact (parentR_no (pList_no (by assumption))).2.2)) (eqI (by exact (parentR_no (pList_no (by assumption))).2.1))
 ·refine Op.cast (e' := [(4, .slice a1185 ((pList p).length) n1186), (13, .bool false)]) (by rw [hb]) ?_
  have c1191 : (pErr p) = (0 : Int) := bneF hb
  clear hb
  refine Op.pures 4 [4, 17] (L' := []) (e' := [(4, .slice a1185 ((pList p).length) n1186), (17, .bool (((pList p).length : Int) == (0 : Int)))]) (by kernel_rfl) ?_
  refine Op.goto 3 (by kernel_rfl) ?_
  refine At.cond (b := ((pList p).length : Int) == (0 : Int)) (c := .tmp 17) (by kernel_rfl) (by kernel_rfl) (by kernel_rfl) 4 6 (by kernel_rfl) (by kernel_rfl) (fun hb => ?_) (fun hb => ?_)
  ·have c1192 : ((pList p).length : Int) = (0 : Int) := eq_of_beq hb
   clear hb
   refine At.keep [] ?_; show At _ _ _ [] _
   refine At.reg (L := [(0, false), (1, false)]) (by kernel_rfl) ?_
   refine Op.pures 2 [2, 3] (L' := []) (e' := [(2, .string (mkS [])), (3, .int .i64 90)]) (by kernel_rfl) ?_
   refine Op.goto 5 (by kernel_rfl) ?_
   refine At.ret (f := Tryz.f131) (v := .tuple #[.string (mkS []), .int .i64 90]) (by kernel_rfl) (by kernel_rfl) ?_
   have s1193 : St h g (ids []) g [] h1181 := s1182.unfrz
   refine hR _ _ _ _ s1193 ⟨?_, rfl, rfl⟩
   exact eqT2 (eqS (by exact (parentR_no (nil_len (by assumption))).2.2)) (eqI (by exact (parentR_no (nil_len (by assumption))).2.1))
  ·have c1194 : ¬ (((pList p).length : Int) = (0 : Int)) := neF hb
   clear hb
   refine At.keep [4] ?_; show At _ _ _ [(4, .slice a1185 ((pList p).length) n1186)] _
   refine At.reg (L := [(0, false), (1, false), (2, false), (3, false), (4, false), (5, false), (6, false), (7, false)]) (by kernel_rfl) ?_
   refine Op.pures 3 [18, 20] (L' := [(3, false), (4, false), (5, false), (6, false), (7, false)]) (e' := [(18, .slice a1185 ((pList p).length) n1186), (20, .int .i64 ((pList p).length : Int))]) (by kernel_rfl) ?_
   refine Op.val (dst := some 21) (v := .int .i64 (IntKind.wrap .i64 (((pList p).length : Int) - 1))) (v' := .int .i64 (((pList p).length : Int) - 1)) (by kernel_rfl) (wrapEq_i64 (by (have := pList_len p; omega)) (by (have := pList_len p; omega))) ?_
   obtain ⟨x1195, hx1196⟩ : ∃ c, (pList p)[(((pList p).length : Int) - 1 : Int).toNat]? = some c := ⟨_, List.getElem?_eq_getElem (by (have := pList_len p; omega))⟩
   obtain ⟨b1197, o1198, cu1199, fz1200, ha1201, hb1202, hk1203⟩ := SlR.at_ hr1184 _ hx1196
   cases ha1201
   refine Op.idx (T := 54) (E := 9) (sz := 1) (by_ := 16) (n := ((pList p).length)) (c := n1186) (k := .i64) (x := (.tmp 18)) (ix := (.tmp 21)) (dst := 22) (bk := b1197) (o := o1198) (m := ((pList p).length : Int) - 1) (by kernel_rfl) (by kernel_rfl) (by kernel_rfl) (by kernel_rfl) (by (have := pList_len p; omega)) (by (have := pList_len p; omega)) ?_
   replace hk1203 : cut _ _ _ = [.string (mkS x1195)] := hk1203
   refine Op.load (T := 9) (x := (.tmp 22)) (o := o1198 + (((pList p).length : Int) - 1 : Int).toNat * 1) (d := 23) (n := 1) (v := .string (mkS x1195)) (by kernel_rfl) (by kernel_rfl) (by kernel_rfl) (s1182.sub _ _ hb1202) (cut_get hk1203 0 rfl) ?_
   refine Op.pures 2 [2, 3] (L' := []) (e' := [(2, .string (mkS x1195)), (3, .int .i64 0)]) (by kernel_rfl) ?_
   refine Op.goto 7 (by kernel_rfl) ?_
   refine At.ret (f := Tryz.f131) (v := .tuple #[.string (mkS x1195), .int .i64 0]) (by kernel_rfl) (by kernel_rfl) ?_
   have s1204 : St h g (ids []) g [] h1181 := s1182.unfrz
   refine hR _ _ _ _ s1204 ⟨?_, rfl, rfl⟩
   exact eqT2 (eqS (by exact getLast_of hx1196 (by have := pList_len p; omega))) (eqI (by exact (cutErr_0 (by omega)).symm))
end Go.Proofs.YtmjebehhpojihaaGreatDoor.Sw
namespace Go.Proofs.YtmjebehhpojihaaGreatDoor.Sw
open Go
set_option maxRecDepth 100000
set_option linter.unusedVariables false
set_option linter.unusedSimpArgs false
set_option linter.deprecated false
theorem numberedR (B : World) (h : Heap) (g : GH) (hg : Sub g h) (hG : Glob g) (p : List UInt8) (n : Int) (hlen : p.length ≤ 100000000) (hn0 : -9223372036854775808 ≤ n) (hn1 : n ≤ 9223372036854775807) :
  Spec Tryz.prog B 87 #[.string (mkS p), .int .i64 n] h g [] (fun rv g' L' => rv = .tuple #[.string (mkS (numS p n)), .int .i64 (numE p n)] ∧ g' = g ∧ L' = []) := by
 refine Spec.of_at (f := Tryz.f87) (e := [(0, .string (mkS p)), (1, .int .i64 n)]) Tryz.func87 (by kernel_rfl) (Nat.le_of_ble_eq_true (by kernel_rfl)) (by kernel_rfl) (by kernel_rfl) ?_
 intro R hR
 have s0 := St.init hg
 refine At.reg (L := [(0, false), (1, false)]) (by kernel_rfl) ?_
 refine Op.pures 2 [0, 1] (L' := []) (e' := [(0, .string (mkS p)), (1, .int .i64 n)]) (by kernel_rfl) ?_
 refine Op.goto 1 (by kernel_rfl) ?_
 refine At.reg (L := [(0, false), (1, false), (2, false), (3, false), (4, false), (5, false), (6, false)]) (by kernel_rfl) ?_
 refine Op.pures 1 [0, 1, 12] (L' := [(1, false), (2, false), (3, false), (4, false), (5, false), (6, false)]) (e' := [(0, .string (mkS p)), (1, .int .i64 n), (12, .string (mkS p))]) (by kernel_rfl) ?_
 refine Op.call0 (dst := some 13) (f := 131) (args := #[.string (mkS p)]) (by kernel_rfl) s0 (nameR _ _ _ s0.sub hG p (by ((try dsimp only) <;> (omega))) ) ?_
 rintro _ g1003 _ h1001 hle1004 s1002 ⟨rfl, hgg, rfl⟩; subst g1003; clear hle1004
 refine Op.pures 5 [0, 1, 7] (L' := []) (e' := [(0, .string (mkS p)), (1, .int .i64 n), (7, .int .i64 (cutErr p))]) (by kernel_rfl) ?_
 refine Op.goto 2 (by kernel_rfl) ?_
 refine At.reg (L := [(0, false), (1, false), (2, false), (3, false), (4, false), (5, false), (6, false), (7, false), (8, false), (9, false)]) (by kernel_rfl) ?_
 refine Op.pures 3 [0, 1, 18] (L' := [(3, false), (4, false), (5, false), (6, false), (7, false), (8, false), (9, false)]) (e' := [(0, .string (mkS p)), (1, .int .i64 n), (18, .bool ((cutErr p) != (0 : Int)))]) (by kernel_rfl) ?_
 refine Op.ways (b := (cutErr p) != (0 : Int)) ⟨fun hb => ?_, fun hb => ?_⟩
 ·refine Op.cast (e' := [(0, .string (mkS p)), (1, .int .i64 n), (18, .bool true)]) (by rw [hb]) ?_
  have c1005 : ¬ ((cutErr p) = (0 : Int)) := bneT hb
  clear hb
  refine Op.pures 7 [0, 1, 25] (L' := []) (e' := [(0, .string (mkS p)), (1, .int .i64 n), (25, .bool true)]) (by kernel_rfl) ?_
  refine Op.goto 3 (by kernel_rfl) ?_
  refine At.condT (c := .tmp 25) (by kernel_rfl) (by kernel_rfl) (by kernel_rfl) 4 (by kernel_rfl) ?_
  refine At.reg (L := [(0, false), (1, false)]) (by kernel_rfl) ?_
  refine Op.pures 2 [4, 5] (L' := []) (e' := [(4, .string (mkS [])), (5, .int .i64 90)]) (by kernel_rfl) ?_
  refine Op.goto 5 (by kernel_rfl) ?_
  refine At.ret (f := Tryz.f87) (v := .tuple #[.string (mkS []), .int .i64 90]) (by kernel_rfl) (by kernel_rfl) ?_
  refine hR _ _ _ _ s1002 ⟨?_, rfl, rfl⟩
  exact eqT2 (eqS (by exact (num_no (numOk_f1 (by assumption))).1)) (eqI (by exact (num_no (numOk_f1 (by assumption))).2))
 ·refine Op.cast (e' := [(0, .string (mkS p)), (1, .int .i64 n), (18, .bool false)]) (by rw [hb]) ?_
  have c1006 : (cutErr p) = (0 : Int) := bneF hb
  clear hb
  refine Op.pures 4 [0, 1, 22] (L' := [(7, false), (8, false), (9, false)]) (e' := [(0, .string (mkS p)), (1, .int .i64 n), (22, .bool (decide (n < (0 : Int))))]) (by kernel_rfl) ?_
  refine Op.ways (b := decide (n < (0 : Int))) ⟨fun hb => ?_, fun hb => ?_⟩
  ·refine Op.cast (e' := [(0, .string (mkS p)), (1, .int .i64 n), (22, .bool true)]) (by rw [hb]) ?_
   have c1007 : n < (0 : Int) := of_decide_eq_true hb
   clear hb
   refine Op.pures 3 [0, 1, 25] (L' := []) (e' := [(0, .string (mkS p)), (1, .int .i64 n), (25, .bool true)]) (by kernel_rfl) ?_
   refine Op.goto 3 (by kernel_rfl) ?_
   refine At.condT (c := .tmp 25) (by kernel_rfl) (by kernel_rfl) (by kernel_rfl) 4 (by kernel_rfl) ?_
   refine At.reg (L := [(0, false), (1, false)]) (by kernel_rfl) ?_
   refine Op.pures 2 [4, 5] (L' := []) (e' := [(4, .string (mkS [])), (5, .int .i64 90)]) (by kernel_rfl) ?_
   refine Op.goto 5 (by kernel_rfl) ?_
   refine At.ret (f := Tryz.f87) (v := .tuple #[.string (mkS []), .int .i64 90]) (by kernel_rfl) (by kernel_rfl) ?_
   refine hR _ _ _ _ s1002 ⟨?_, rfl, rfl⟩
   exact eqT2 (eqS (by exact (num_no (numOk_f2 (by assumption))).1)) (eqI (by exact (num_no (numOk_f2 (by assumption))).2))
  ·refine Op.cast (e' := [(0, .string (mkS p)), (1, .int .i64 n), (22, .bool false)]) (by rw [hb]) ?_
   have c1008 : ¬ (n < (0 : Int)) := of_decide_eq_false hb
   clear hb
   refine Op.pures 3 [0, 1, 25] (L' := []) (e' := [(0, .string (mkS p)), (1, .int .i64 n), (25, .bool (decide (n > (99999 : Int))))]) (by kernel_rfl) ?_
   refine Op.goto 3 (by kernel_rfl) ?_
   refine At.cond (b := decide (n > (99999 : Int))) (c := .tmp 25) (by kernel_rfl) (by kernel_rfl) (by kernel_rfl) 4 6 (by kernel_rfl) (by kernel_rfl) (fun hb => ?_) (fun hb => ?_)
   ·have c1009 : n > (99999 : Int) := of_decide_eq_true hb
    clear hb
    refine At.keep [] ?_; show At _ _ _ [] _
    refine At.reg (L := [(0, false), (1, false)]) (by kernel_rfl) ?_
    refine Op.pures 2 [4, 5] (L' := []) (e' := [(4, .string (mkS [])), (5, .int .i64 90)]) (by kernel_rfl) ?_
    refine Op.goto 5 (by kernel_rfl) ?_
    refine At.ret (f := Tryz.f87) (v := .tuple #[.string (mkS []), .int .i64 90]) (by kernel_rfl) (by kernel_rfl) ?_
    refine hR _ _ _ _ s1002 ⟨?_, rfl, rfl⟩
    exact eqT2 (eqS (by exact (num_no (numOk_f3 (by assumption))).1)) (eqI (by exact (num_no (numOk_f3 (by assumption))).2))
   ·have c1010 : ¬ (n > (99999 : Int)) := of_decide_eq_false hb
    clear hb
    refine At.keep [0, 1] ?_; show At _ _ _ [(0, .string (mkS p)), (1, .int .i64 n)] _
    refine At.reg (L := [(0, false), (1, false)]) (by kernel_rfl) ?_
    refine Op.lit (T := 29) (len := 5) (parts := #[(0, (.const (.int .u8 0))), (1, (.const (.int .u8 0))), (2, (.const (.int .u8 0))), (3, (.const (.int .u8 0))), (4, (.const (.int .u8 0)))]) (dst := 26) (E := 5) (ps := [(0, .int .u8 0), (1, .int .u8 0), (2, .int .u8 0), (3, .int .u8 0), (4, .int .u8 0)]) (cs := #[.int .u8 0, .int .u8 0, .int .u8 0, .int .u8 0, .int .u8 0]) (by kernel_rfl) (by kernel_rfl) (by kernel_rfl) s1002 ?_
    intro b1011 h1012 s1013
    refine Op.pures 1 [0, 1, 8] (L' := []) (e' := [(0, .string (mkS p)), (1, .int .i64 n), (8, .slice (some ⟨b1011, 0, none⟩) 5 5)]) (by kernel_rfl) ?_
    refine Op.goto 7 (by kernel_rfl) ?_
    refine At.reg (L := [(0, false)]) (by kernel_rfl) ?_
    refine Op.pures 1 [0, 1, 8, 9] (L' := []) (e' := [(0, .string (mkS p)), (1, .int .i64 n), (8, .slice (some ⟨b1011, 0, none⟩) 5 5), (9, .int .i64 4)]) (by kernel_rfl) ?_
    refine Op.goto 8 (by kernel_rfl) ?_
    have loop8 : ∀ (m : Nat) (q : Int) (dd : List UInt8) (i : Int) (a1014 : Option Addr) (n1015 : Nat) (ch1016 : Chunk) (h1018 : Heap) (hm : (i + 1).toNat < m) (h0 : -1 ≤ i) (h2 : i ≤ 4) (hq0 : 0 ≤ q) (hq1 : q ≤ 99999) (hl5 : dd.length = 5) (hD : DInv n dd q i) (R1017 : Row 5 kU8 g (.slice a1014 dd.length n1015) dd ch1016)    (s_loop81017 : St h g (ids []) g [ch1016] h1018), At (fctx Tryz.prog B 87 Tryz.f87 R) [] 8 [(0, .string (mkS p)), (1, .int .i64 q), (8, .slice a1014 dd.length n1015), (9, .int .i64 i)] h1018 := by
     intro m; induction m with
     | zero => intros; omega
     | succ m ih8 =>
      intro q dd i a1014 n1015 ch1016 h1018 hm h0 h2 hq0 hq1 hl5 hD R1017 s_loop81017
      refine At.reg (L := [(0, false), (1, false)]) (by kernel_rfl) ?_
      refine Op.pures 2 [0, 1, 8, 9, 28] (L' := []) (e' := [(0, .string (mkS p)), (1, .int .i64 q), (8, .slice a1014 dd.length n1015), (9, .int .i64 i), (28, .bool (decide (i ≥ (0 : Int))))]) (by kernel_rfl) ?_
      refine Op.goto 9 (by kernel_rfl) ?_
      refine At.cond (b := decide (i ≥ (0 : Int))) (c := .tmp 28) (by kernel_rfl) (by kernel_rfl) (by kernel_rfl) 10 13 (by kernel_rfl) (by kernel_rfl) (fun hb => ?_) (fun hb => ?_)
      ·have c1019 : i ≥ (0 : Int) := of_decide_eq_true hb
       clear hb
       refine At.keep [0, 1, 8, 9] ?_; show At _ _ _ [(0, .string (mkS p)), (1, .int .i64 q), (8, .slice a1014 dd.length n1015), (9, .int .i64 i)] _
       refine At.reg (L := [(0, false), (1, false), (2, false), (3, false), (4, false), (5, false), (6, false), (7, false)]) (by kernel_rfl) ?_
       refine Op.pures 3 [0, 1, 8, 9, 31, 32, 33] (L' := [(3, false), (4, false), (5, false), (6, false), (7, false)]) (e' := [(0, .string (mkS p)), (1, .int .i64 q), (8, .slice a1014 dd.length n1015), (9, .int .i64 i), (31, .slice a1014 dd.length n1015), (32, .int .i64 i), (33, .int .i64 q)]) (by kernel_rfl) ?_
       refine Op.val (dst := some 34) (v := .int .i64 (Int.tmod q (10 : Int))) (v' := .int .i64 (q % (10 : Int))) (by kernel_rfl) (remEq (by omega)) ?_
       refine Op.val (dst := some 35) (v := .int .i64 (IntKind.wrap .i64 ((48 : Int) + (q % 10)))) (v' := .int .i64 ((48 : Int) + (q % 10))) (by kernel_rfl) (wrapEq_i64 (by omega) (by omega)) ?_
       refine Op.val (dst := some 36) (v := .int .u8 (IntKind.wrap .u8 ((48 : Int) + (q % 10)))) (v' := .int .u8 ((48 : Int) + (q % 10))) (by kernel_rfl) (wrapEq_u8 (by omega) (by omega)) ?_
       obtain ⟨x1020, hx1021⟩ : ∃ c, dd[(i : Int).toNat]? = some c := ⟨_, List.getElem?_eq_getElem (by omega)⟩
       obtain ⟨b1022, o1023, cu1024, fz1025, ha1026, hb1027, hk1028⟩ := SlH.at_ (R1017.toH s_loop81017 0 rfl) _ hx1021
       cases ha1026
       refine Op.idx (T := 29) (E := 5) (sz := 1) (by_ := 1) (n := dd.length) (c := n1015) (k := .i64) (x := (.tmp 31)) (ix := (.tmp 32)) (dst := 37) (bk := b1022) (o := o1023) (m := i) (by kernel_rfl) (by kernel_rfl) (by kernel_rfl) (by kernel_rfl) (by omega) (by omega) ?_
       replace hk1028 : cut _ _ _ = [.int .u8 (x1020.toNat : Int)] := hk1028
       obtain ⟨_, _, cap1029, cu1030, rs1031, ev1032, ec1033, h1034, h1035, h1036, h1037⟩ := R1017.cases (Nat.lt_of_le_of_lt (Nat.zero_le _) (List.getElem?_eq_some_iff.1 hx1021).1)
       cases ev1032; subst ec1033
       have hi1041 := (List.getElem?_eq_some_iff.1 hx1021).1
       have ha1042 := Nat.mul_le_mul_right 1 (Nat.le_trans (Nat.succ_le_of_lt hi1041) (Nat.le_trans (Nat.le_add_right _ _) (Nat.le_of_eq h1034)))
       refine Op.store (T := 5) (x := (.tmp 37)) (y := (.tmp 36)) (b := b1022) (o := o1023 + (i : Int).toNat * 1) (vs := [.int .u8 ((48 : Int) + (q % 10))]) (a? := false) (n := 1) (by kernel_rfl) (by kernel_rfl) (by kernel_rfl) (by kernel_rfl) rfl (by simp [Value.oneCell']) s_loop81017 0 rfl (by simp only [Nat.succ_mul] at ha1042; simp only [show (kU8).sz = 1 from rfl] at h1036; omega) (cs := cu1030) (cs' := splice cu1030 (o1023 + (i : Int).toNat * 1) [.int .u8 ((48 : Int) + (q % 10))]) rfl (fun _ => trivial) ?_
       intro h1038 s1039
       have R1040 := Row.put (T := 5) (b := b1022) h1034 h1035 h1036 h1037 _ hi1041 (x := (UInt8.ofNat ((48 : Int) + (q % 10) : Int).toNat)) (vs := [.int .u8 ((48 : Int) + (q % 10))]) (u8K (by omega) (by omega))
       refine Op.pures 0 [0, 1, 8, 9] (L' := []) (e' := [(0, .string (mkS p)), (1, .int .i64 q), (8, .slice (some ⟨b1022, o1023, none⟩) dd.length n1015), (9, .int .i64 i)]) (by kernel_rfl) ?_
       refine Op.cast (e' := [(0, .string (mkS p)), (1, .int .i64 q), (8, .slice (some ⟨b1022, o1023, none⟩) ((dd.set (i : Int).toNat (UInt8.ofNat ((48 : Int) + (q % 10) : Int).toNat)).length) n1015), (9, .int .i64 i)]) (by simp only [List.length_set]) ?_
       refine Op.goto 11 (by kernel_rfl) ?_
       refine At.reg (L := [(0, false), (1, false), (2, false)]) (by kernel_rfl) ?_
       refine Op.pures 1 [0, 1, 8, 9, 38] (L' := [(1, false), (2, false)]) (e' := [(0, .string (mkS p)), (1, .int .i64 q), (8, .slice (some ⟨b1022, o1023, none⟩) ((dd.set (i : Int).toNat (UInt8.ofNat ((48 : Int) + (q % 10) : Int).toNat)).length) n1015), (9, .int .i64 i), (38, .int .i64 q)]) (by kernel_rfl) ?_
       refine Op.val (dst := some 39) (v := .int .i64 (IntKind.wrap .i64 (Int.tdiv q (10 : Int)))) (v' := .int .i64 (q / (10 : Int))) (by kernel_rfl) (quoEq (by omega) (by omega) (by omega)) ?_
       refine Op.pures 1 [0, 1, 8, 9] (L' := []) (e' := [(0, .string (mkS p)), (1, .int .i64 (q / 10)), (8, .slice (some ⟨b1022, o1023, none⟩) ((dd.set (i : Int).toNat (UInt8.ofNat ((48 : Int) + (q % 10) : Int).toNat)).length) n1015), (9, .int .i64 i)]) (by kernel_rfl) ?_
       refine Op.goto 12 (by kernel_rfl) ?_
       refine At.reg (L := [(0, false), (1, false), (2, false)]) (by kernel_rfl) ?_
       refine Op.pures 1 [0, 1, 8, 9, 29] (L' := [(1, false), (2, false)]) (e' := [(0, .string (mkS p)), (1, .int .i64 (q / 10)), (8, .slice (some ⟨b1022, o1023, none⟩) ((dd.set (i : Int).toNat (UInt8.ofNat ((48 : Int) + (q % 10) : Int).toNat)).length) n1015), (9, .int .i64 i), (29, .int .i64 i)]) (by kernel_rfl) ?_
       refine Op.val (dst := some 30) (v := .int .i64 (IntKind.wrap .i64 (i - 1))) (v' := .int .i64 (i - 1)) (by kernel_rfl) (wrapEq_i64 (by omega) (by omega)) ?_
       refine Op.pures 1 [0, 1, 8, 9] (L' := []) (e' := [(0, .string (mkS p)), (1, .int .i64 (q / 10)), (8, .slice (some ⟨b1022, o1023, none⟩) ((dd.set (i : Int).toNat (UInt8.ofNat ((48 : Int) + (q % 10) : Int).toNat)).length) n1015), (9, .int .i64 (i - 1))]) (by kernel_rfl) ?_
       refine Op.goto 8 (by kernel_rfl) ?_
       exact ih8  (q / 10) (dd.set (i : Int).toNat (UInt8.ofNat ((48 : Int) + (q % 10) : Int).toNat)) (i - 1) _ _ _ _ (by omega) (by omega) (by omega) (by omega) (by omega) (by rw [List.length_set]; exact hl5) (by exact DInv_step hD (by omega) (by omega)) R1040 s1039
      ·have c1043 : ¬ (i ≥ (0 : Int)) := of_decide_eq_false hb
       clear hb
       refine At.keep [0, 8] ?_; show At _ _ _ [(0, .string (mkS p)), (8, .slice a1014 dd.length n1015)] _
       refine At.reg (L := [(0, false), (1, false), (2, false), (3, false), (4, false)]) (by kernel_rfl) ?_
       refine Op.pures 2 [40, 41] (L' := [(2, false), (3, false), (4, false)]) (e' := [(40, .string (mkS p)), (41, .slice a1014 dd.length n1015)]) (by kernel_rfl) ?_
       refine Op.ofBytes (T := 29) (S := 9) (E := 5) (x := (.tmp 41)) (dst := 42) (l := dd) (by kernel_rfl) (by kernel_rfl) (by kernel_rfl) (by kernel_rfl) (by kernel_rfl) (R1017.toH s_loop81017 0 rfl) ?_
       refine Op.strAdd (T := 9) (T' := 9) (x := (.tmp 40)) (y := (.tmp 42)) (dst := 43) (l := p) (m := dd) (by kernel_rfl) (by kernel_rfl) (by kernel_rfl) (by omega) ?_
       refine Op.pures 1 [10] (L' := []) (e' := [(10, .string (mkS (p ++ dd)))]) (by kernel_rfl) ?_
       refine Op.goto 14 (by kernel_rfl) ?_
       refine At.reg (L := [(0, false), (1, false), (2, false)]) (by kernel_rfl) ?_
       refine Op.pures 1 [10, 44] (L' := [(1, false), (2, false)]) (e' := [(10, .string (mkS (p ++ dd))), (44, .string (mkS (p ++ dd)))]) (by kernel_rfl) ?_
       refine Op.call0 (dst := some 45) (f := 90) (args := #[.string (mkS (p ++ dd))]) (by kernel_rfl) s_loop81017 (checkR _ _ _ s_loop81017.sub hG (p ++ dd) (by ((try dsimp only) <;> ((simp only [List.length_append]; omega)))) ) ?_
       rintro _ g1046 _ h1044 hle1047 s1045 ⟨rfl, hgg, rfl⟩; subst g1046; clear hle1047
       refine Op.pures 1 [10, 46] (L' := []) (e' := [(10, .string (mkS (p ++ dd))), (46, .bool ((pErr (p ++ dd)) != (0 : Int)))]) (by kernel_rfl) ?_
       refine Op.goto 15 (by kernel_rfl) ?_
       refine At.cond (b := (pErr (p ++ dd)) != (0 : Int)) (c := .tmp 46) (by kernel_rfl) (by kernel_rfl) (by kernel_rfl) 16 18 (by kernel_rfl) (by kernel_rfl) (fun hb => ?_) (fun hb => ?_)
       ·have c1048 : ¬ ((pErr (p ++ dd)) = (0 : Int)) := bneT hb
        clear hb
        refine At.keep [] ?_; show At _ _ _ [] _
        refine At.reg (L := [(0, false), (1, false)]) (by kernel_rfl) ?_
        refine Op.pures 2 [4, 5] (L' := []) (e' := [(4, .string (mkS [])), (5, .int .i64 90)]) (by kernel_rfl) ?_
        refine Op.goto 17 (by kernel_rfl) ?_
        refine At.ret (f := Tryz.f87) (v := .tuple #[.string (mkS []), .int .i64 90]) (by kernel_rfl) (by kernel_rfl) ?_
        have s1049 : St h g (ids []) g [] h1044 := (s1045).drop
        refine hR _ _ _ _ s1049 ⟨?_, rfl, rfl⟩
        exact eqT2 (eqS (by exact (numR_bad (numOk_t (by assumption) (by assumption) (by assumption)) ((DInv_end hD (by assumption) (by omega)).trans (low_dig (by omega) (by omega))) (by assumption)).1)) (eqI (by exact (numR_bad (numOk_t (by assumption) (by assumption) (by assumption)) ((DInv_end hD (by assumption) (by omega)).trans (low_dig (by omega) (by omega))) (by assumption)).2))
       ·have c1050 : (pErr (p ++ dd)) = (0 : Int) := bneF hb
        clear hb
        refine At.keep [10] ?_; show At _ _ _ [(10, .string (mkS (p ++ dd)))] _
        refine At.reg (L := [(0, false), (1, false), (2, false)]) (by kernel_rfl) ?_
        refine Op.pures 3 [4, 5] (L' := []) (e' := [(4, .string (mkS (p ++ dd))), (5, .int .i64 0)]) (by kernel_rfl) ?_
        refine Op.goto 19 (by kernel_rfl) ?_
        refine At.ret (f := Tryz.f87) (v := .tuple #[.string (mkS (p ++ dd)), .int .i64 0]) (by kernel_rfl) (by kernel_rfl) ?_
        have s1051 : St h g (ids []) g [] h1044 := (s1045).drop
        refine hR _ _ _ _ s1051 ⟨?_, rfl, rfl⟩
        exact eqT2 (eqS (by exact (numR_ok (numOk_t (by assumption) (by assumption) (by assumption)) ((DInv_end hD (by assumption) (by omega)).trans (low_dig (by omega) (by omega))) (by assumption)).1)) (eqI (by exact (numR_ok (numOk_t (by assumption) (by assumption) (by assumption)) ((DInv_end hD (by assumption) (by omega)).trans (low_dig (by omega) (by omega))) (by assumption)).2))
    have R1052 : Row 5 kU8 g (.slice (some ⟨b1011, 0, none⟩) 5 5) [(0 : UInt8), (0 : UInt8), (0 : UInt8), (0 : UInt8), (0 : UInt8)] [(b1011, Obj.cells #[.int .u8 0, .int .u8 0, .int .u8 0, .int .u8 0, .int .u8 0] 5 (0, 0))] := Row.lit (by kernel_rfl) (by unfold maxLen; decide) (by kernel_rfl) ⟨_, _, rfl, rfl, ⟨_, _, rfl, rfl, ⟨_, _, rfl, rfl, ⟨_, _, rfl, rfl, ⟨_, _, rfl, rfl, Reads.nil⟩⟩⟩⟩⟩
    exact loop8 _  n ([(0 : UInt8), (0 : UInt8), (0 : UInt8), (0 : UInt8), (0 : UInt8)]) 4 _ _ _ _ (Nat.lt_succ_self _) (by omega) (by omega) (by omega) (by omega) (by rfl) (by exact DInv_0 (by omega)) R1052 s1013
end Go.Proofs.YtmjebehhpojihaaGreatDoor.Sw
namespace Go.Proofs.YtmjebehhpojihaaGreatDoor.Sw
open Go
set_option maxRecDepth 100000
set_option linter.unusedVariables false
set_option linter.unusedSimpArgs false
set_option linter.deprecated false
theorem keys_seq (g0 : GH) (b_x m_x : Nat) (x : List Leaf) (hb_x : g0 b_x = some (.cells #[.map (some m_x)] 126 (0, 0))) (o_x : VLm g0 m_x x)  : SeqOk Tryz.prog g0 154 #[.pointer (some ⟨b_x, 0, none⟩)] enS (fun full => full.Perm (x.map (·.Path))) := by
 intro B h g l I go c hgg hg hG hY hgo0 hI0 hs
 replace hb_x := hgg _ _ hb_x
 replace o_x := o_x.mono hgg
 refine Spec.of_at (f := Tryz.f154) (e := [(0, .func (.yield l) #[] #[]), (1, .pointer (some ⟨b_x, 0, none⟩))]) Tryz.func154 (by kernel_rfl) (Nat.le_of_ble_eq_true (by kernel_rfl)) (by kernel_rfl) (by kernel_rfl) ?_
 intro R hR
 refine At.reg (L := [(0, false), (1, false)]) (by kernel_rfl) ?_
 refine Op.load (T := 126) (x := (.tmp 1)) (o := 0) (d := 4) (n := 1) (v := .map (some m_x)) (by kernel_rfl) (by kernel_rfl) (by kernel_rfl) (hs.sub _ _ hb_x) (by kernel_rfl) ?_
 obtain ⟨es1001, clk1002, ks1003, hm1004, hR1005, hl1006, hp1007, hh1008, hk1009⟩ := VLm.open_ o_x
 refine Op.rangeM (d := .string) (z := .pointer none) (mt := 126) (x := (.tmp 4)) (dst := 5) (m := m_x) (by kernel_rfl) (by kernel_rfl) (by kernel_rfl) (hs.sub _ _ hm1004) hR1005 hs ?_
 intro it1010 o1011 h1012 hM1013 s1014
 refine Op.goto 1 (by kernel_rfl) ?_
 have loop1 : ∀ (m : Nat) (g1018 : GH) (hleg1018 : gle g g1018) (vs : List (Str × Value)) (rs : List (Str × Value)) (c1 : Chunk) (o1 : Obj) (h1017 : Heap) (hm : rs.length < m) (hgo : go (vs.map (·.1)) = true) (hpre : pre1 go (vs.map (·.1))) (hpm : (vs ++ rs).Perm ks1003)    (hI1015 : I (vs.map (·.1)) g1018 c1) (hM1016 : MIt encS es1001 clk1002 m_x vs rs o1) (s_loop11016 : St h g (ids [c]) g1018 [[(it1010, o1)], c1] h1017), At (fctx Tryz.prog B 154 Tryz.f154 R) [] 1 [(0, .func (.yield l) #[] #[]), (5, .pointer (some ⟨it1010, 0, none⟩))] h1017 := by
  intro m; induction m with
  | zero => intros; omega
  | succ m ih1 =>
   intro g1018 hleg1018 vs rs c1 o1 h1017 hm hgo hpre hpm hI1015 hM1016 s_loop11016
   replace hG := hG.mono hleg1018
   replace hY := hY.mono hleg1018
   replace o_x := o_x.mono hleg1018
   replace hb_x := hleg1018 _ _ hb_x
   replace hm1004 := hleg1018 _ _ hm1004
   refine At.reg (L := [(0, false), (1, false)]) (by kernel_rfl) ?_
   refine Op.nextM (x := (.tmp 5)) (dst := 6) (it := it1010) (m := m_x) (by kernel_rfl) (by kernel_rfl) (s_loop11016.sub _ _ hm1004) hR1005 hM1016 s_loop11016 0 rfl (fun _ => trivial) ⟨fun hrs1025 => ?_, fun ra1019 k1020 v1021 rb1022 o1023 h1024 hrs1025 hM1026 s1027 => ?_⟩
   ·refine Op.pures 1 [0, 5, 7] (L' := []) (e' := [(0, .func (.yield l) #[] #[]), (5, .pointer (some ⟨it1010, 0, none⟩)), (7, .bool false)]) (by kernel_rfl) ?_
    refine Op.goto 2 (by kernel_rfl) ?_
    refine At.condF (c := .tmp 7) (by kernel_rfl) (by kernel_rfl) (by kernel_rfl) 7 (by kernel_rfl) ?_
    refine At.ret (f := Tryz.f154) (v := .tuple #[]) (by kernel_rfl) (by kernel_rfl) ?_
    have s1028 : St h g (ids [c]) g1018 [c1] h1017 := (s_loop11016).drop
    refine hR _ _ _ _ s1028 ⟨(vs.map (·.1)), vs.map (·.1), c1, rfl, by exact ord_end hpm hrs1025 hp1007, by exact List.prefix_refl _, by exact fun _ => rfl, by exact hpre, rfl, hI1015⟩
   ·refine Op.pures 1 [0, 5, 7] (L' := []) (e' := [(0, .func (.yield l) #[] #[]), (5, .pointer (some ⟨it1010, 0, none⟩)), (7, .bool true)]) (by kernel_rfl) ?_
    refine Op.goto 2 (by kernel_rfl) ?_
    refine At.condT (c := .tmp 7) (by kernel_rfl) (by kernel_rfl) (by kernel_rfl) 3 (by kernel_rfl) ?_
    refine At.reg (L := [(0, false), (1, false), (2, false)]) (by kernel_rfl) ?_
    refine Op.entryM (x := (.tmp 5)) (dst := 8) (it := it1010) (m := m_x) (vs := vs) (k := k1020) (v := v1021) (by kernel_rfl) (by kernel_rfl) (s1027.sub _ _ hm1004) hR1005 hM1026 (s1027.chunk 0 rfl) ?_
    refine Op.pures 2 [0, 3, 5] (L' := []) (e' := [(0, .func (.yield l) #[] #[]), (3, .string (mkS k1020)), (5, .pointer (some ⟨it1010, 0, none⟩))]) (by kernel_rfl) ?_
    refine Op.goto 4 (by kernel_rfl) ?_
    refine At.reg (L := [(0, false), (1, false), (2, false), (3, false)]) (by kernel_rfl) ?_
    refine Op.pures 2 [0, 5, 10, 11] (L' := [(2, false), (3, false)]) (e' := [(0, .func (.yield l) #[] #[]), (5, .pointer (some ⟨it1010, 0, none⟩)), (10, .func (.yield l) #[] #[]), (11, .string (mkS k1020))]) (by kernel_rfl) ?_
    have s1029 : St h g (ids [c]) g1018 [c1, [(it1010, o1023)]] h1024 := ((s1027.front 0 rfl).front 1 rfl)
    refine Op.yield (dst := some 12) (x := (.tmp 10)) (ops := #[(.tmp 11)]) (ts := #[9]) (l := l) (args := #[.string (mkS k1020)]) (Lc := [c1]) (L := [[(it1010, o1023)]]) (by kernel_rfl) (by kernel_rfl) (by kernel_rfl) s1029 (hY _ _ (vs.map (·.1)) k1020 _ _ (by repeat (first | assumption | exact gle.refl _ | apply gle.trans)) hG (by exact hgo) (by rfl) ⟨((vs ++ [(k1020, v1021)]) ++ (ra1019 ++ rb1022)).map (·.1), by exact ord_stop hpm hrs1025 hp1007, by exact ⟨(ra1019 ++ rb1022).map (·.1), by simp⟩⟩ hI1015 (St.part (Lc := [c1]) (L := [[(it1010, o1023)]]) s1029)) (fun _ _ _ => trivial) ?_
    rintro _ g1031 _ h1032 hle1033 s1034 ⟨c1035, rfl, rfl, hI1036⟩
    replace hG := hG.mono hle1033
    replace hY := hY.mono hle1033
    replace o_x := o_x.mono hle1033
    replace hb_x := hle1033 _ _ hb_x
    replace hm1004 := hle1033 _ _ hm1004
    refine Op.pures 1 [0, 5, 13] (L' := []) (e' := [(0, .func (.yield l) #[] #[]), (5, .pointer (some ⟨it1010, 0, none⟩)), (13, .bool (!(go (vs.map (·.1) ++ [k1020]))))]) (by kernel_rfl) ?_
    refine Op.goto 5 (by kernel_rfl) ?_
    refine At.cond (b := !(go (vs.map (·.1) ++ [k1020]))) (c := .tmp 13) (by kernel_rfl) (by kernel_rfl) (by kernel_rfl) 6 1 (by kernel_rfl) (by kernel_rfl) (fun hb => ?_) (fun hb => ?_)
    ·have c1038 : (go (vs.map (·.1) ++ [k1020])) = false := (notT hb)
     clear hb
     refine At.keep [] ?_; show At _ _ _ [] _
     refine At.ret (f := Tryz.f154) (v := .tuple #[]) (by kernel_rfl) (by kernel_rfl) ?_
     have s1039 : St h g (ids [c]) g1031 [[(it1010, o1023)], c1035] h1032 := ((s1034.front 0 rfl).front 1 rfl)
     have s1040 : St h g (ids [c]) g1031 [c1035] h1032 := (s1039).drop
     refine hR _ _ _ _ s1040 ⟨((vs ++ [(k1020, v1021)]) ++ (ra1019 ++ rb1022)).map (·.1), vs.map (·.1) ++ [k1020], c1035, rfl, by exact ord_stop hpm hrs1025 hp1007, by exact ⟨(ra1019 ++ rb1022).map (·.1), by simp⟩, by exact fun h => absurd h (Bool.eq_false_iff.1 c1038), by exact pre_step hpre hgo, rfl, hI1036⟩
    ·have c1041 : (go (vs.map (·.1) ++ [k1020])) = true := (notF hb)
     clear hb
     refine At.keep [0, 5] ?_; show At _ _ _ [(0, .func (.yield l) #[] #[]), (5, .pointer (some ⟨it1010, 0, none⟩))] _
     have s1042 : St h g (ids [c]) g1031 [[(it1010, o1023)], c1035] h1032 := ((s1034.front 0 rfl).front 1 rfl)
     exact ih1 _ (gle.trans hleg1018 (by repeat (first | assumption | apply gle.trans))) (vs ++ [(k1020, v1021)]) (ra1019 ++ rb1022) c1035 o1023 _ (by have hz := congrArg List.length hrs1025; simp only [List.length_append, List.length_cons] at hz ⊢; omega) (by simpa using c1041) (by simpa using pre_step (x := k1020) hpre hgo) (by exact perm_step hpm hrs1025) (by simpa using hI1036) hM1026 s1042
 refine At.keep [0, 5] ?_; show At _ _ _ [(0, .func (.yield l) #[] #[]), (5, .pointer (some ⟨it1010, 0, none⟩))] _
 exact loop1 _ _ (gle.refl _) [] ks1003 c o1011 _ (Nat.lt_succ_self _) (by exact hgo0) (by exact pre_0 go) (by exact List.Perm.refl _) (by exact hI0) hM1013 s1014
theorem kids_seq (g0 : GH) (b_t t_t : Nat) (t : List Leaf) (hb_t : g0 b_t = some (.cells #[.pointer (some ⟨t_t, 0, none⟩)] 46 (0, 0))) (o_t : VTree g0 t_t t) (b_p : Nat) (p : Str) (hb_p : g0 b_p = some (.cells #[.string (mkS p)] 9 (0, 0)))  : SeqOk Tryz.prog g0 124 #[.pointer (some ⟨b_t, 0, none⟩), .pointer (some ⟨b_p, 0, none⟩)] enS (fun full => full.Perm (kidsL t p)) := by
 intro B h g l I go c hgg hg hG hY hgo0 hI0 hs
 replace hb_t := hgg _ _ hb_t
 replace o_t := o_t.mono hgg
 replace hb_p := hgg _ _ hb_p
 refine Spec.of_at (f := Tryz.f124) (e := [(0, .func (.yield l) #[] #[]), (1, .pointer (some ⟨b_t, 0, none⟩)), (2, .pointer (some ⟨b_p, 0, none⟩))]) Tryz.func124 (by kernel_rfl) (Nat.le_of_ble_eq_true (by kernel_rfl)) (by kernel_rfl) (by kernel_rfl) ?_
 intro R hR
 refine At.reg (L := [(0, false), (1, false), (2, false), (3, false), (4, false)]) (by kernel_rfl) ?_
 refine Op.load (T := 46) (x := (.tmp 1)) (o := 0) (d := 7) (n := 1) (v := .pointer (some ⟨t_t, 0, none⟩)) (by kernel_rfl) (by kernel_rfl) (by kernel_rfl) (hs.sub _ _ hb_t) (by kernel_rfl) ?_
 refine Op.pures 2 [0, 2, 9] (L' := [(3, false), (4, false)]) (e' := [(0, .func (.yield l) #[] #[]), (2, .pointer (some ⟨b_p, 0, none⟩)), (9, .pointer (some ⟨t_t, 0, none⟩))]) (by kernel_rfl) ?_
 obtain ⟨mb1043, hb1044, om1045⟩ := o_t
 have o_t : VTree g t_t t := ⟨mb1043, hb1044, om1045⟩
 refine Op.load (T := 126) (x := (.tmp 9)) (o := 0) (d := 10) (n := 1) (v := .map (some mb1043)) (by kernel_rfl) (by kernel_rfl) (by kernel_rfl) (hs.sub _ _ hb1044) (by kernel_rfl) ?_
 obtain ⟨es1046, clk1047, ks1048, hm1049, hR1050, hl1051, hp1052, hh1053, hk1054⟩ := VLm.open_ om1045
 refine Op.rangeM (d := .string) (z := .pointer none) (mt := 126) (x := (.tmp 10)) (dst := 11) (m := mb1043) (by kernel_rfl) (by kernel_rfl) (by kernel_rfl) (hs.sub _ _ hm1049) hR1050 hs ?_
 intro it1055 o1056 h1057 hM1058 s1059
 refine Op.goto 1 (by kernel_rfl) ?_
 have loop1 : ∀ (m : Nat) (g1063 : GH) (hleg1063 : gle g g1063) (vs : List (Str × Value)) (rs : List (Str × Value)) (c1 : Chunk) (o1 : Obj) (h1062 : Heap) (hm : rs.length < m) (hgo : go ((vs.map (·.1)).filter (kidQ p)) = true) (hpre : pre1 go ((vs.map (·.1)).filter (kidQ p))) (hpm : (vs ++ rs).Perm ks1048)    (hI1060 : I ((vs.map (·.1)).filter (kidQ p)) g1063 c1) (hM1061 : MIt encS es1046 clk1047 mb1043 vs rs o1) (s_loop11061 : St h g (ids [c]) g1063 [[(it1055, o1)], c1] h1062), At (fctx Tryz.prog B 124 Tryz.f124 R) [] 1 [(0, .func (.yield l) #[] #[]), (2, .pointer (some ⟨b_p, 0, none⟩)), (11, .pointer (some ⟨it1055, 0, none⟩))] h1062 := by
  intro m; induction m with
  | zero => intros; omega
  | succ m ih1 =>
   intro g1063 hleg1063 vs rs c1 o1 h1062 hm hgo hpre hpm hI1060 hM1061 s_loop11061
   replace hG := hG.mono hleg1063
   replace hY := hY.mono hleg1063
   replace o_t := o_t.mono hleg1063
   replace om1045 := om1045.mono hleg1063
   replace hb_t := hleg1063 _ _ hb_t
   replace hb_p := hleg1063 _ _ hb_p
   replace hb1044 := hleg1063 _ _ hb1044
   replace hm1049 := hleg1063 _ _ hm1049
   refine At.reg (L := [(0, false), (1, false)]) (by kernel_rfl) ?_
   refine Op.nextM (x := (.tmp 11)) (dst := 12) (it := it1055) (m := mb1043) (by kernel_rfl) (by kernel_rfl) (s_loop11061.sub _ _ hm1049) hR1050 hM1061 s_loop11061 0 rfl (fun _ => trivial) ⟨fun hrs1070 => ?_, fun ra1064 k1065 v1066 rb1067 o1068 h1069 hrs1070 hM1071 s1072 => ?_⟩
   ·refine Op.pures 1 [0, 2, 11, 13] (L' := []) (e' := [(0, .func (.yield l) #[] #[]), (2, .pointer (some ⟨b_p, 0, none⟩)), (11, .pointer (some ⟨it1055, 0, none⟩)), (13, .bool false)]) (by kernel_rfl) ?_
    refine Op.goto 2 (by kernel_rfl) ?_
    refine At.condF (c := .tmp 13) (by kernel_rfl) (by kernel_rfl) (by kernel_rfl) 8 (by kernel_rfl) ?_
    refine At.ret (f := Tryz.f124) (v := .tuple #[]) (by kernel_rfl) (by kernel_rfl) ?_
    have s1073 : St h g (ids [c]) g1063 [c1] h1062 := (s_loop11061).drop
    refine hR _ _ _ _ s1073 ⟨((vs.map (·.1)).filter (kidQ p)), (vs.map (·.1)).filter (kidQ p), c1, rfl, by exact kids_perm (ord_end hpm hrs1070 hp1052), by exact List.prefix_refl _, by exact fun _ => rfl, by exact hpre, rfl, hI1060⟩
   ·refine Op.pures 1 [0, 2, 11, 13] (L' := []) (e' := [(0, .func (.yield l) #[] #[]), (2, .pointer (some ⟨b_p, 0, none⟩)), (11, .pointer (some ⟨it1055, 0, none⟩)), (13, .bool true)]) (by kernel_rfl) ?_
    refine Op.goto 2 (by kernel_rfl) ?_
    refine At.condT (c := .tmp 13) (by kernel_rfl) (by kernel_rfl) (by kernel_rfl) 3 (by kernel_rfl) ?_
    refine At.reg (L := [(0, false), (1, false), (2, false)]) (by kernel_rfl) ?_
    refine Op.entryM (x := (.tmp 11)) (dst := 14) (it := it1055) (m := mb1043) (vs := vs) (k := k1065) (v := v1066) (by kernel_rfl) (by kernel_rfl) (s1072.sub _ _ hm1049) hR1050 hM1071 (s1072.chunk 0 rfl) ?_
    refine Op.pures 2 [0, 2, 4, 11] (L' := []) (e' := [(0, .func (.yield l) #[] #[]), (2, .pointer (some ⟨b_p, 0, none⟩)), (4, .string (mkS k1065)), (11, .pointer (some ⟨it1055, 0, none⟩))]) (by kernel_rfl) ?_
    refine Op.goto 4 (by kernel_rfl) ?_
    refine At.reg (L := [(0, false), (1, false), (2, false), (3, false), (4, false), (5, false), (6, false)]) (by kernel_rfl) ?_
    refine Op.pures 1 [0, 2, 4, 11, 17] (L' := [(1, false), (2, false), (3, false), (4, false), (5, false), (6, false)]) (e' := [(0, .func (.yield l) #[] #[]), (2, .pointer (some ⟨b_p, 0, none⟩)), (4, .string (mkS k1065)), (11, .pointer (some ⟨it1055, 0, none⟩)), (17, .string (mkS k1065))]) (by kernel_rfl) ?_
    refine Op.call0 (dst := some 18) (f := 36) (args := #[.string (mkS k1065)]) (by kernel_rfl) s1072 (parentP _ _ _ s1072.sub hG k1065 (by ((try dsimp only) <;> ((have := short_of hh1053 hpm hrs1070; omega)))) ) ?_
    rintro _ g1076 _ h1074 hle1077 s1075 ⟨rfl, hgg, rfl⟩; subst g1076; clear hle1077
    refine Op.pures 5 [0, 2, 4, 5, 6, 11] (L' := []) (e' := [(0, .func (.yield l) #[] #[]), (2, .pointer (some ⟨b_p, 0, none⟩)), (4, .string (mkS k1065)), (5, .string (mkS (parentOf k1065))), (6, .int .i64 (cutErr k1065)), (11, .pointer (some ⟨it1055, 0, none⟩))]) (by kernel_rfl) ?_
    refine Op.goto 5 (by kernel_rfl) ?_
    refine At.reg (L := [(0, false), (1, false), (2, false), (3, false), (4, false), (5, false), (6, false), (7, false), (8, false), (9, false), (10, false), (11, false), (12, false)]) (by kernel_rfl) ?_
    refine Op.pures 3 [0, 2, 4, 5, 11, 23] (L' := [(3, false), (4, false), (5, false), (6, false), (7, false), (8, false), (9, false), (10, false), (11, false), (12, false)]) (e' := [(0, .func (.yield l) #[] #[]), (2, .pointer (some ⟨b_p, 0, none⟩)), (4, .string (mkS k1065)), (5, .string (mkS (parentOf k1065))), (11, .pointer (some ⟨it1055, 0, none⟩)), (23, .bool ((cutErr k1065) == (0 : Int)))]) (by kernel_rfl) ?_
    refine Op.ways (b := (cutErr k1065) == (0 : Int)) ⟨fun hb => ?_, fun hb => ?_⟩
    ·refine Op.cast (e' := [(0, .func (.yield l) #[] #[]), (2, .pointer (some ⟨b_p, 0, none⟩)), (4, .string (mkS k1065)), (5, .string (mkS (parentOf k1065))), (11, .pointer (some ⟨it1055, 0, none⟩)), (23, .bool true)]) (by rw [hb]) ?_
     have c1078 : (cutErr k1065) = (0 : Int) := eq_of_beq hb
     clear hb
     refine Op.pures 1 [0, 2, 4, 11, 23, 24] (L' := [(4, false), (5, false), (6, false), (7, false), (8, false), (9, false), (10, false), (11, false), (12, false)]) (e' := [(0, .func (.yield l) #[] #[]), (2, .pointer (some ⟨b_p, 0, none⟩)), (4, .string (mkS k1065)), (11, .pointer (some ⟨it1055, 0, none⟩)), (23, .bool true), (24, .string (mkS (parentOf k1065)))]) (by kernel_rfl) ?_
     refine Op.load (T := 9) (x := (.tmp 2)) (o := 0) (d := 25) (n := 1) (v := .string (mkS p)) (by kernel_rfl) (by kernel_rfl) (by kernel_rfl) (s1075.sub _ _ hb_p) (by kernel_rfl) ?_
     refine Op.val (dst := some 26) (v := .bool ((mkS (parentOf k1065)).toList == (mkS p).toList)) (v' := .bool ((parentOf k1065) == p)) (by kernel_rfl) (by rw [toList_mkS, toList_mkS]) ?_
     refine Op.pures 2 [0, 2, 4, 11, 28] (L' := [(8, false), (9, false), (10, false), (11, false), (12, false)]) (e' := [(0, .func (.yield l) #[] #[]), (2, .pointer (some ⟨b_p, 0, none⟩)), (4, .string (mkS k1065)), (11, .pointer (some ⟨it1055, 0, none⟩)), (28, .bool ((parentOf k1065) == p))]) (by kernel_rfl) ?_
     refine Op.ways (b := (parentOf k1065) == p) ⟨fun hb => ?_, fun hb => ?_⟩
     ·refine Op.cast (e' := [(0, .func (.yield l) #[] #[]), (2, .pointer (some ⟨b_p, 0, none⟩)), (4, .string (mkS k1065)), (11, .pointer (some ⟨it1055, 0, none⟩)), (28, .bool true)]) (by rw [hb]) ?_
      have c1079 : (parentOf k1065) = p := eq_of_beq hb
      clear hb
      refine Op.pures 2 [0, 2, 11, 28, 29, 30] (L' := [(10, false), (11, false), (12, false)]) (e' := [(0, .func (.yield l) #[] #[]), (2, .pointer (some ⟨b_p, 0, none⟩)), (11, .pointer (some ⟨it1055, 0, none⟩)), (28, .bool true), (29, .func (.yield l) #[] #[]), (30, .string (mkS k1065))]) (by kernel_rfl) ?_
      have s1080 : St h g (ids [c]) g1063 [c1, [(it1055, o1068)]] h1074 := ((s1075.front 0 rfl).front 1 rfl)
      refine Op.yield (dst := some 31) (x := (.tmp 29)) (ops := #[(.tmp 30)]) (ts := #[9]) (l := l) (args := #[.string (mkS k1065)]) (Lc := [c1]) (L := [[(it1055, o1068)]]) (by kernel_rfl) (by kernel_rfl) (by kernel_rfl) s1080 (hY _ _ ((vs.map (·.1)).filter (kidQ p)) k1065 _ _ (by repeat (first | assumption | exact gle.refl _ | apply gle.trans)) hG (by exact hgo) (by rfl) ⟨(((vs ++ [(k1065, v1066)]) ++ (ra1064 ++ rb1067)).map (·.1)).filter (kidQ p), by exact kids_perm (ord_stop hpm hrs1070 hp1052), by exact kids_pre (by assumption) (by assumption)⟩ hI1060 (St.part (Lc := [c1]) (L := [[(it1055, o1068)]]) s1080)) (fun _ _ _ => trivial) ?_
      rintro _ g1082 _ h1083 hle1084 s1085 ⟨c1086, rfl, rfl, hI1087⟩
      replace hG := hG.mono hle1084
      replace hY := hY.mono hle1084
      replace o_t := o_t.mono hle1084
      replace om1045 := om1045.mono hle1084
      replace hb_t := hle1084 _ _ hb_t
      replace hb_p := hle1084 _ _ hb_p
      replace hb1044 := hle1084 _ _ hb1044
      replace hm1049 := hle1084 _ _ hm1049
      refine Op.pures 2 [0, 2, 11, 33] (L' := []) (e' := [(0, .func (.yield l) #[] #[]), (2, .pointer (some ⟨b_p, 0, none⟩)), (11, .pointer (some ⟨it1055, 0, none⟩)), (33, .bool (!(go ((vs.map (·.1)).filter (kidQ p) ++ [k1065]))))]) (by kernel_rfl) ?_
      refine Op.goto 6 (by kernel_rfl) ?_
      refine At.cond (b := !(go ((vs.map (·.1)).filter (kidQ p) ++ [k1065]))) (c := .tmp 33) (by kernel_rfl) (by kernel_rfl) (by kernel_rfl) 7 1 (by kernel_rfl) (by kernel_rfl) (fun hb => ?_) (fun hb => ?_)
      ·have c1089 : (go ((vs.map (·.1)).filter (kidQ p) ++ [k1065])) = false := (notT hb)
       clear hb
       refine At.keep [] ?_; show At _ _ _ [] _
       refine At.ret (f := Tryz.f124) (v := .tuple #[]) (by kernel_rfl) (by kernel_rfl) ?_
       have s1090 : St h g (ids [c]) g1082 [[(it1055, o1068)], c1086] h1083 := ((s1085.front 0 rfl).front 1 rfl)
       have s1091 : St h g (ids [c]) g1082 [c1086] h1083 := (s1090).drop
       refine hR _ _ _ _ s1091 ⟨(((vs ++ [(k1065, v1066)]) ++ (ra1064 ++ rb1067)).map (·.1)).filter (kidQ p), (vs.map (·.1)).filter (kidQ p) ++ [k1065], c1086, rfl, by exact kids_perm (ord_stop hpm hrs1070 hp1052), by exact kids_pre (by assumption) (by assumption), by exact fun h => absurd h (Bool.eq_false_iff.1 (by assumption)), by exact pre_step hpre hgo, rfl, hI1087⟩
      ·have c1092 : (go ((vs.map (·.1)).filter (kidQ p) ++ [k1065])) = true := (notF hb)
       clear hb
       refine At.keep [0, 2, 11] ?_; show At _ _ _ [(0, .func (.yield l) #[] #[]), (2, .pointer (some ⟨b_p, 0, none⟩)), (11, .pointer (some ⟨it1055, 0, none⟩))] _
       have s1093 : St h g (ids [c]) g1082 [[(it1055, o1068)], c1086] h1083 := ((s1085.front 0 rfl).front 1 rfl)
       exact ih1 _ (gle.trans hleg1063 (by repeat (first | assumption | apply gle.trans))) (vs ++ [(k1065, v1066)]) (ra1064 ++ rb1067) c1086 o1068 _ (by have hz := congrArg List.length hrs1070; simp only [List.length_append, List.length_cons] at hz ⊢; omega) (by (rw [hist_yes (by assumption) (by assumption)]; assumption)) (by (rw [hist_yes (by assumption) (by assumption)]; exact pre_step hpre hgo)) (by exact perm_step hpm hrs1070) (by (rw [hist_yes (by assumption) (by assumption)]; exact hI1087)) hM1071 s1093
     ·refine Op.cast (e' := [(0, .func (.yield l) #[] #[]), (2, .pointer (some ⟨b_p, 0, none⟩)), (4, .string (mkS k1065)), (11, .pointer (some ⟨it1055, 0, none⟩)), (28, .bool false)]) (by rw [hb]) ?_
      have c1094 : ¬ ((parentOf k1065) = p) := neF hb
      clear hb
      refine Op.pures 5 [0, 2, 11, 33] (L' := []) (e' := [(0, .func (.yield l) #[] #[]), (2, .pointer (some ⟨b_p, 0, none⟩)), (11, .pointer (some ⟨it1055, 0, none⟩)), (33, .bool false)]) (by kernel_rfl) ?_
      refine Op.goto 6 (by kernel_rfl) ?_
      refine At.condF (c := .tmp 33) (by kernel_rfl) (by kernel_rfl) (by kernel_rfl) 1 (by kernel_rfl) ?_
      refine At.keep [0, 2, 11] ?_; show At _ _ _ [(0, .func (.yield l) #[] #[]), (2, .pointer (some ⟨b_p, 0, none⟩)), (11, .pointer (some ⟨it1055, 0, none⟩))] _
      exact ih1 _ hleg1063 (vs ++ [(k1065, v1066)]) (ra1064 ++ rb1067) c1 o1068 _ (by have hz := congrArg List.length hrs1070; simp only [List.length_append, List.length_cons] at hz ⊢; omega) (by (rw [hist_no2 (by assumption)]; assumption)) (by (rw [hist_no2 (by assumption)]; exact hpre)) (by exact perm_step hpm hrs1070) (by (rw [hist_no2 (by assumption)]; exact hI1060)) hM1071 s1075
    ·refine Op.cast (e' := [(0, .func (.yield l) #[] #[]), (2, .pointer (some ⟨b_p, 0, none⟩)), (4, .string (mkS k1065)), (5, .string (mkS (parentOf k1065))), (11, .pointer (some ⟨it1055, 0, none⟩)), (23, .bool false)]) (by rw [hb]) ?_
     have c1095 : ¬ ((cutErr k1065) = (0 : Int)) := neF hb
     clear hb
     refine Op.pures 10 [0, 2, 11, 33] (L' := []) (e' := [(0, .func (.yield l) #[] #[]), (2, .pointer (some ⟨b_p, 0, none⟩)), (11, .pointer (some ⟨it1055, 0, none⟩)), (33, .bool false)]) (by kernel_rfl) ?_
     refine Op.goto 6 (by kernel_rfl) ?_
     refine At.condF (c := .tmp 33) (by kernel_rfl) (by kernel_rfl) (by kernel_rfl) 1 (by kernel_rfl) ?_
     refine At.keep [0, 2, 11] ?_; show At _ _ _ [(0, .func (.yield l) #[] #[]), (2, .pointer (some ⟨b_p, 0, none⟩)), (11, .pointer (some ⟨it1055, 0, none⟩))] _
     exact ih1 _ hleg1063 (vs ++ [(k1065, v1066)]) (ra1064 ++ rb1067) c1 o1068 _ (by have hz := congrArg List.length hrs1070; simp only [List.length_append, List.length_cons] at hz ⊢; omega) (by (rw [hist_no1 (by assumption)]; assumption)) (by (rw [hist_no1 (by assumption)]; exact hpre)) (by exact perm_step hpm hrs1070) (by (rw [hist_no1 (by assumption)]; exact hI1060)) hM1071 s1075
 refine At.keep [0, 2, 11] ?_; show At _ _ _ [(0, .func (.yield l) #[] #[]), (2, .pointer (some ⟨b_p, 0, none⟩)), (11, .pointer (some ⟨it1055, 0, none⟩))] _
 exact loop1 _ _ (gle.refl _) [] ks1048 c o1056 _ (Nat.lt_succ_self _) (by exact hgo0) (by exact pre_0 go) (by exact List.Perm.refl _) (by exact hI0) hM1058 s1059
theorem back_seq (g0 : GH) (b_s : Nat) (v_s : Value) (s : List (List UInt8)) (hb_s : g0 b_s = some (.cells #[v_s] 54 (0, 0))) (h_s : SlR g0 9 kStr v_s s) (hlen : s.length ≤ 1000000000) : SeqOk Tryz.prog g0 122 #[.pointer (some ⟨b_s, 0, none⟩)] enP (fun full => full = s.reverse) := by
 intro B h g l I go c hgg hg hG hY hgo0 hI0 hs
 obtain ⟨a_s, n_s, rfl⟩ := h_s.form
 replace hb_s := hgg _ _ hb_s
 replace h_s := h_s.mono hgg
 refine Spec.of_at (f := Tryz.f122) (e := [(0, .func (.yield l) #[] #[]), (1, .pointer (some ⟨b_s, 0, none⟩))]) Tryz.func122 (by kernel_rfl) (Nat.le_of_ble_eq_true (by kernel_rfl)) (by kernel_rfl) (by kernel_rfl) ?_
 intro R hR
 refine At.reg (L := [(0, false), (1, false), (2, false), (3, false)]) (by kernel_rfl) ?_
 refine Op.load (T := 54) (x := (.tmp 1)) (o := 0) (d := 4) (n := 1) (v := .slice a_s s.length n_s) (by kernel_rfl) (by kernel_rfl) (by kernel_rfl) (hs.sub _ _ hb_s) (by kernel_rfl) ?_
 refine Op.pures 1 [0, 1, 5] (L' := [(2, false), (3, false)]) (e' := [(0, .func (.yield l) #[] #[]), (1, .pointer (some ⟨b_s, 0, none⟩)), (5, .int .i64 (s.length : Int))]) (by kernel_rfl) ?_
 refine Op.val (dst := some 6) (v := .int .i64 (IntKind.wrap .i64 ((s.length : Int) - 1))) (v' := .int .i64 ((s.length : Int) - 1)) (by kernel_rfl) (wrapEq_i64 (by omega) (by omega)) ?_
 refine Op.pures 1 [0, 1, 3] (L' := []) (e' := [(0, .func (.yield l) #[] #[]), (1, .pointer (some ⟨b_s, 0, none⟩)), (3, .int .i64 ((s.length : Int) - 1))]) (by kernel_rfl) ?_
 refine Op.goto 1 (by kernel_rfl) ?_
 have loop1 : ∀ (m : Nat) (g1098 : GH) (hleg1098 : gle g g1098) (i : Int) (c1 : Chunk) (h1097 : Heap) (hm : (i + 1).toNat < m) (h0 : -1 ≤ i) (h1 : i < s.length) (hgo : go (s.drop (i + 1).toNat).reverse = true) (hpre : pre1 go (s.drop (i + 1).toNat).reverse)    (hI1096 : I ((s.drop (i + 1).toNat).reverse) g1098 c1) (s_loop11096 : St h g (ids [c]) g1098 [c1] h1097), At (fctx Tryz.prog B 122 Tryz.f122 R) [] 1 [(0, .func (.yield l) #[] #[]), (1, .pointer (some ⟨b_s, 0, none⟩)), (3, .int .i64 i)] h1097 := by
  intro m; induction m with
  | zero => intros; omega
  | succ m ih1 =>
   intro g1098 hleg1098 i c1 h1097 hm h0 h1 hgo hpre hI1096 s_loop11096
   replace hG := hG.mono hleg1098
   replace hY := hY.mono hleg1098
   replace h_s := h_s.mono hleg1098
   replace hb_s := hleg1098 _ _ hb_s
   refine At.reg (L := [(0, false), (1, false)]) (by kernel_rfl) ?_
   refine Op.pures 2 [0, 1, 3, 8] (L' := []) (e' := [(0, .func (.yield l) #[] #[]), (1, .pointer (some ⟨b_s, 0, none⟩)), (3, .int .i64 i), (8, .bool (decide (i ≥ (0 : Int))))]) (by kernel_rfl) ?_
   refine Op.goto 2 (by kernel_rfl) ?_
   refine At.cond (b := decide (i ≥ (0 : Int))) (c := .tmp 8) (by kernel_rfl) (by kernel_rfl) (by kernel_rfl) 3 7 (by kernel_rfl) (by kernel_rfl) (fun hb => ?_) (fun hb => ?_)
   ·have c1099 : i ≥ (0 : Int) := of_decide_eq_true hb
    clear hb
    refine At.keep [0, 1, 3] ?_; show At _ _ _ [(0, .func (.yield l) #[] #[]), (1, .pointer (some ⟨b_s, 0, none⟩)), (3, .int .i64 i)] _
    refine At.reg (L := [(0, false), (1, false), (2, false), (3, false), (4, false), (5, false), (6, false), (7, false)]) (by kernel_rfl) ?_
    refine Op.pures 2 [0, 1, 3, 11, 12] (L' := [(2, false), (3, false), (4, false), (5, false), (6, false), (7, false)]) (e' := [(0, .func (.yield l) #[] #[]), (1, .pointer (some ⟨b_s, 0, none⟩)), (3, .int .i64 i), (11, .func (.yield l) #[] #[]), (12, .int .i64 i)]) (by kernel_rfl) ?_
    refine Op.load (T := 54) (x := (.tmp 1)) (o := 0) (d := 13) (n := 1) (v := .slice a_s s.length n_s) (by kernel_rfl) (by kernel_rfl) (by kernel_rfl) (s_loop11096.sub _ _ hb_s) (by kernel_rfl) ?_
    refine Op.pures 1 [0, 1, 3, 11, 12, 13, 14] (L' := [(4, false), (5, false), (6, false), (7, false)]) (e' := [(0, .func (.yield l) #[] #[]), (1, .pointer (some ⟨b_s, 0, none⟩)), (3, .int .i64 i), (11, .func (.yield l) #[] #[]), (12, .int .i64 i), (13, .slice a_s s.length n_s), (14, .int .i64 i)]) (by kernel_rfl) ?_
    obtain ⟨x1100, hx1101⟩ : ∃ c, s[(i : Int).toNat]? = some c := ⟨_, List.getElem?_eq_getElem (by omega)⟩
    obtain ⟨b1102, o1103, cu1104, fz1105, ha1106, hb1107, hk1108⟩ := SlR.at_ h_s _ hx1101
    cases ha1106
    refine Op.idx (T := 54) (E := 9) (sz := 1) (by_ := 16) (n := s.length) (c := n_s) (k := .i64) (x := (.tmp 13)) (ix := (.tmp 14)) (dst := 15) (bk := b1102) (o := o1103) (m := i) (by kernel_rfl) (by kernel_rfl) (by kernel_rfl) (by kernel_rfl) (by omega) (by omega) ?_
    replace hk1108 : cut _ _ _ = [.string (mkS x1100)] := hk1108
    refine Op.load (T := 9) (x := (.tmp 15)) (o := o1103 + (i : Int).toNat * 1) (d := 16) (n := 1) (v := .string (mkS x1100)) (by kernel_rfl) (by kernel_rfl) (by kernel_rfl) (s_loop11096.sub _ _ hb1107) (cut_get hk1108 0 rfl) ?_
    refine Op.yield (dst := some 17) (x := (.tmp 11)) (ops := #[(.tmp 12), (.tmp 16)]) (ts := #[3, 9]) (l := l) (args := #[.int .i64 i, .string (mkS x1100)]) (Lc := [c1]) (L := []) (by kernel_rfl) (by kernel_rfl) (by kernel_rfl) s_loop11096 (hY _ _ ((s.drop (i + 1).toNat).reverse) x1100 _ _ (by repeat (first | assumption | exact gle.refl _ | apply gle.trans)) hG (by exact hgo) (by exact ⟨_, rfl⟩) ⟨s.reverse, by rfl, by (rw [← back_1 (by omega) hx1101]; exact back_pre _ _)⟩ hI1096 (St.part (Lc := [c1]) (L := []) s_loop11096)) (fun _ _ _ => trivial) ?_
    rintro _ g1110 _ h1111 hle1112 s1113 ⟨c1114, rfl, rfl, hI1115⟩
    replace hb1107 := hle1112 _ _ hb1107
    replace hG := hG.mono hle1112
    replace hY := hY.mono hle1112
    replace h_s := h_s.mono hle1112
    replace hb_s := hle1112 _ _ hb_s
    refine Op.pures 1 [0, 1, 3, 18] (L' := []) (e' := [(0, .func (.yield l) #[] #[]), (1, .pointer (some ⟨b_s, 0, none⟩)), (3, .int .i64 i), (18, .bool (!(go ((s.drop (i + 1).toNat).reverse ++ [x1100]))))]) (by kernel_rfl) ?_
    refine Op.goto 4 (by kernel_rfl) ?_
    refine At.cond (b := !(go ((s.drop (i + 1).toNat).reverse ++ [x1100]))) (c := .tmp 18) (by kernel_rfl) (by kernel_rfl) (by kernel_rfl) 5 6 (by kernel_rfl) (by kernel_rfl) (fun hb => ?_) (fun hb => ?_)
    ·have c1117 : (go ((s.drop (i + 1).toNat).reverse ++ [x1100])) = false := (notT hb)
     clear hb
     refine At.keep [] ?_; show At _ _ _ [] _
     refine At.ret (f := Tryz.f122) (v := .tuple #[]) (by kernel_rfl) (by kernel_rfl) ?_
     refine hR _ _ _ _ s1113 ⟨s.reverse, (s.drop (i + 1).toNat).reverse ++ [x1100], c1114, rfl, by rfl, by (rw [← back_1 (by omega) hx1101]; exact back_pre _ _), by exact fun h => absurd h (Bool.eq_false_iff.1 (by assumption)), by exact pre_step hpre hgo, rfl, hI1115⟩
    ·have c1118 : (go ((s.drop (i + 1).toNat).reverse ++ [x1100])) = true := (notF hb)
     clear hb
     refine At.keep [0, 1, 3] ?_; show At _ _ _ [(0, .func (.yield l) #[] #[]), (1, .pointer (some ⟨b_s, 0, none⟩)), (3, .int .i64 i)] _
     refine At.reg (L := [(0, false), (1, false), (2, false)]) (by kernel_rfl) ?_
     refine Op.pures 1 [0, 1, 3, 9] (L' := [(1, false), (2, false)]) (e' := [(0, .func (.yield l) #[] #[]), (1, .pointer (some ⟨b_s, 0, none⟩)), (3, .int .i64 i), (9, .int .i64 i)]) (by kernel_rfl) ?_
     refine Op.val (dst := some 10) (v := .int .i64 (IntKind.wrap .i64 (i - 1))) (v' := .int .i64 (i - 1)) (by kernel_rfl) (wrapEq_i64 (by omega) (by omega)) ?_
     refine Op.pures 1 [0, 1, 3] (L' := []) (e' := [(0, .func (.yield l) #[] #[]), (1, .pointer (some ⟨b_s, 0, none⟩)), (3, .int .i64 (i - 1))]) (by kernel_rfl) ?_
     refine Op.goto 1 (by kernel_rfl) ?_
     exact ih1 _ (gle.trans hleg1098 (by repeat (first | assumption | apply gle.trans))) (i - 1) c1114 _ (by omega) (by omega) (by omega) (by rw [back_1 (by omega) hx1101]; assumption) (by rw [back_1 (by omega) hx1101]; exact pre_step hpre hgo) (by rw [back_1 (by omega) hx1101]; exact hI1115) s1113
   ·have c1119 : ¬ (i ≥ (0 : Int)) := of_decide_eq_false hb
    clear hb
    refine At.keep [] ?_; show At _ _ _ [] _
    refine At.ret (f := Tryz.f122) (v := .tuple #[]) (by kernel_rfl) (by kernel_rfl) ?_
    refine hR _ _ _ _ s_loop11096 ⟨((s.drop (i + 1).toNat).reverse), (s.drop (i + 1).toNat).reverse, c1, rfl, by exact back_end (by omega) (by omega), by exact List.prefix_refl _, by exact fun _ => rfl, by exact hpre, rfl, hI1096⟩
 exact loop1 _ _ (gle.refl _) ((s.length : Int) - 1) c _ (Nat.lt_succ_self _) (by omega) (by omega) (by rw [back_0]; exact hgo0) (by rw [back_0]; exact pre_0 go) (by rw [back_0]; exact hI0) hs
theorem keysF (B : World) (h : Heap) (g : GH) (hg : Sub g h) (hG : Glob g) (m_x : Nat) (x : List Leaf) (o_x : VLm g m_x x)  :
  Spec Tryz.prog B 121 #[.map (some m_x)] h g [] (fun rv g' L' => ∃ f0 cp0, rv = .func (.func f0) #[] cp0 ∧ Enterable Tryz.prog f0 ∧ SeqOk Tryz.prog g' f0 cp0 enS (fun full => full.Perm (x.map (·.Path))) ∧ L' = []) := by
 refine Spec.of_at (f := Tryz.f121) (e := [(0, .map (some m_x))]) Tryz.func121 (by kernel_rfl) (Nat.le_of_ble_eq_true (by kernel_rfl)) (by kernel_rfl) (by kernel_rfl) ?_
 intro R hR
 have s0 := St.init hg
 refine At.reg (L := [(0, false), (1, false)]) (by kernel_rfl) ?_
 refine Op.box (T := 126) (x := (.tmp 0)) (d := 1) (cs := #[.map (some m_x)]) (by kernel_rfl) (by kernel_rfl) s0 ?_
 intro b1120 h1121 s1122
 refine Op.pures 1 [1] (L' := []) (e' := [(1, .pointer (some ⟨b1120, 0, none⟩))]) (by kernel_rfl) ?_
 refine Op.goto 1 (by kernel_rfl) ?_
 refine At.reg (L := [(0, false), (1, false)]) (by kernel_rfl) ?_
 refine Op.pures 2 [2] (L' := []) (e' := [(2, .func (.func 154) #[] #[.pointer (some ⟨b1120, 0, none⟩)])]) (by kernel_rfl) ?_
 refine Op.goto 2 (by kernel_rfl) ?_
 obtain ⟨s1124, hle1125⟩ := St.freeze (s1122.front 0 rfl)
 have hb1126 := gadd_one (g := g) b1120 (.cells #[.map (some m_x)] 126 (0, 0))
 generalize hg_g1123 : gadd g _ = g1123 at s1124 hle1125 hb1126; clear hg_g1123
 replace hG := hG.mono hle1125
 replace o_x := o_x.mono hle1125
 refine At.ret (f := Tryz.f121) (v := .func (.func 154) #[] #[.pointer (some ⟨b1120, 0, none⟩)]) (by kernel_rfl) (by kernel_rfl) ?_
 refine hR _ _ _ _ s1124 ⟨154, #[.pointer (some ⟨b1120, 0, none⟩)], ?_, ?_, ?_, rfl⟩
 ·exact rfl
 ·exact Enterable.of (by kernel_rfl)
 ·exact keys_seq _ b1120 m_x x hb1126 o_x 
theorem kidsF (B : World) (h : Heap) (g : GH) (hg : Sub g h) (hG : Glob g) (b_t : Nat) (t : List Leaf) (o_t : VTree g b_t t) (p : List UInt8)  :
  Spec Tryz.prog B 80 #[.pointer (some ⟨b_t, 0, none⟩), .string (mkS p)] h g [] (fun rv g' L' => ∃ f0 cp0, rv = .func (.func f0) #[] cp0 ∧ Enterable Tryz.prog f0 ∧ SeqOk Tryz.prog g' f0 cp0 enS (fun full => full.Perm (kidsL t p)) ∧ L' = []) := by
 refine Spec.of_at (f := Tryz.f80) (e := [(0, .pointer (some ⟨b_t, 0, none⟩)), (1, .string (mkS p))]) Tryz.func80 (by kernel_rfl) (Nat.le_of_ble_eq_true (by kernel_rfl)) (by kernel_rfl) (by kernel_rfl) ?_
 intro R hR
 have s0 := St.init hg
 refine At.reg (L := [(0, false), (1, false), (2, false)]) (by kernel_rfl) ?_
 refine Op.box (T := 46) (x := (.tmp 0)) (d := 2) (cs := #[.pointer (some ⟨b_t, 0, none⟩)]) (by kernel_rfl) (by kernel_rfl) s0 ?_
 intro b1127 h1128 s1129
 refine Op.box (T := 9) (x := (.tmp 1)) (d := 3) (cs := #[.string (mkS p)]) (by kernel_rfl) (by kernel_rfl) s1129 ?_
 intro b1130 h1131 s1132
 refine Op.pures 1 [2, 3] (L' := []) (e' := [(2, .pointer (some ⟨b1127, 0, none⟩)), (3, .pointer (some ⟨b1130, 0, none⟩))]) (by kernel_rfl) ?_
 refine Op.goto 1 (by kernel_rfl) ?_
 refine At.reg (L := [(0, false), (1, false)]) (by kernel_rfl) ?_
 refine Op.pures 2 [4] (L' := []) (e' := [(4, .func (.func 124) #[] #[.pointer (some ⟨b1127, 0, none⟩), .pointer (some ⟨b1130, 0, none⟩)])]) (by kernel_rfl) ?_
 refine Op.goto 2 (by kernel_rfl) ?_
 obtain ⟨s1134, hle1135⟩ := St.freeze (s1132.front 1 rfl)
 have hb1136 := gadd_one (g := g) b1127 (.cells #[.pointer (some ⟨b_t, 0, none⟩)] 46 (0, 0))
 generalize hg_g1133 : gadd g _ = g1133 at s1134 hle1135 hb1136; clear hg_g1133
 replace hG := hG.mono hle1135
 replace o_t := o_t.mono hle1135
 obtain ⟨s1138, hle1139⟩ := St.freeze (s1134.front 0 rfl)
 have hb1140 := gadd_one (g := g1133) b1130 (.cells #[.string (mkS p)] 9 (0, 0))
 generalize hg_g1137 : gadd g1133 _ = g1137 at s1138 hle1139 hb1140; clear hg_g1137
 replace hG := hG.mono hle1139
 replace o_t := o_t.mono hle1139
 replace hb1136 := hle1139 _ _ hb1136
 refine At.ret (f := Tryz.f80) (v := .func (.func 124) #[] #[.pointer (some ⟨b1127, 0, none⟩), .pointer (some ⟨b1130, 0, none⟩)]) (by kernel_rfl) (by kernel_rfl) ?_
 refine hR _ _ _ _ s1138 ⟨124, #[.pointer (some ⟨b1127, 0, none⟩), .pointer (some ⟨b1130, 0, none⟩)], ?_, ?_, ?_, rfl⟩
 ·exact rfl
 ·exact Enterable.of (by kernel_rfl)
 ·exact kids_seq _ b1127 b_t t hb1136 o_t b1130 p hb1140 
theorem backF (B : World) (h : Heap) (g : GH) (hg : Sub g h) (hG : Glob g) (v_s : Value) (s : List (List UInt8)) (h_s : SlR g 9 kStr v_s s) (hlen : s.length ≤ 1000000000) :
  Spec Tryz.prog B 77 #[v_s] h g [] (fun rv g' L' => ∃ f0 cp0, rv = .func (.func f0) #[] cp0 ∧ Enterable Tryz.prog f0 ∧ SeqOk Tryz.prog g' f0 cp0 enP (fun full => full = s.reverse) ∧ L' = []) := by
 obtain ⟨a_s, n_s, rfl⟩ := h_s.form
 refine Spec.of_at (f := Tryz.f77) (e := [(0, .slice a_s s.length n_s)]) Tryz.func77 (by kernel_rfl) (Nat.le_of_ble_eq_true (by kernel_rfl)) (by kernel_rfl) (by kernel_rfl) ?_
 intro R hR
 have s0 := St.init hg
 refine At.reg (L := [(0, false), (1, false)]) (by kernel_rfl) ?_
 refine Op.box (T := 54) (x := (.tmp 0)) (d := 1) (cs := #[.slice a_s s.length n_s]) (by kernel_rfl) (by kernel_rfl) s0 ?_
 intro b1141 h1142 s1143
 refine Op.pures 1 [1] (L' := []) (e' := [(1, .pointer (some ⟨b1141, 0, none⟩))]) (by kernel_rfl) ?_
 refine Op.goto 1 (by kernel_rfl) ?_
 refine At.reg (L := [(0, false), (1, false)]) (by kernel_rfl) ?_
 refine Op.pures 2 [2] (L' := []) (e' := [(2, .func (.func 122) #[] #[.pointer (some ⟨b1141, 0, none⟩)])]) (by kernel_rfl) ?_
 refine Op.goto 2 (by kernel_rfl) ?_
 obtain ⟨s1145, hle1146⟩ := St.freeze (s1143.front 0 rfl)
 have hb1147 := gadd_one (g := g) b1141 (.cells #[.slice a_s s.length n_s] 54 (0, 0))
 generalize hg_g1144 : gadd g _ = g1144 at s1145 hle1146 hb1147; clear hg_g1144
 replace hG := hG.mono hle1146
 replace h_s := h_s.mono hle1146
 refine At.ret (f := Tryz.f77) (v := .func (.func 122) #[] #[.pointer (some ⟨b1141, 0, none⟩)]) (by kernel_rfl) (by kernel_rfl) ?_
 refine hR _ _ _ _ s1145 ⟨122, #[.pointer (some ⟨b1141, 0, none⟩)], ?_, ?_, ?_, rfl⟩
 ·exact rfl
 ·exact Enterable.of (by kernel_rfl)
 ·exact back_seq _ b1141 _ s hb1147 h_s (by assumption)
theorem appendSeq (B : World) (h : Heap) (g : GH) (hg : Sub g h) (hG : Glob g) (f_q : Nat) (cp_q : Array Value) (q : List Str) (e_q : Enterable Tryz.prog f_q) (h_q : SeqOk Tryz.prog g f_q cp_q enS (fun full => full.Perm q)) (hq : q.length ≤ 1000000000) :
  Spec Tryz.prog B 159 #[.slice none 0 0, .func (.func f_q) #[] cp_q] h g [] (fun rv g' L' => ∃ r0 v0 k0, rv = v0 ∧ r0.Perm q ∧ Row 9 kStr g' v0 r0 k0 ∧ g' = g ∧ L' = [k0]) := by
 refine Spec.of_at (f := Tryz.f159) (e := [(0, .slice none 0 0), (1, .func (.func f_q) #[] cp_q)]) Tryz.func159 (by kernel_rfl) (Nat.le_of_ble_eq_true (by kernel_rfl)) (by kernel_rfl) (by kernel_rfl) ?_
 intro R hR
 have s0 := St.init hg
 refine At.reg (L := [(0, false), (1, false)]) (by kernel_rfl) ?_
 refine Op.box (T := 54) (x := (.tmp 0)) (d := 2) (cs := #[.slice none 0 0]) (by kernel_rfl) (by kernel_rfl) s0 ?_
 intro b1148 h1149 s1150
 refine Op.pures 1 [1, 2, 4] (L' := []) (e' := [(1, .func (.func f_q) #[] cp_q), (2, .pointer (some ⟨b1148, 0, none⟩)), (4, .slice none 0 0)]) (by kernel_rfl) ?_
 refine Op.goto 1 (by kernel_rfl) ?_
 refine At.reg (L := [(0, false)]) (by kernel_rfl) ?_
 refine Op.pures 1 [2, 4, 6] (L' := []) (e' := [(2, .pointer (some ⟨b1148, 0, none⟩)), (4, .slice none 0 0), (6, .func (.func f_q) #[] cp_q)]) (by kernel_rfl) ?_
 refine Op.goto 2 (by kernel_rfl) ?_
 refine At.keep [2, 4, 6] ?_; show At _ _ _ [(2, .pointer (some ⟨b1148, 0, none⟩)), (4, .slice none 0 0), (6, .func (.func f_q) #[] cp_q)] _
 have R1152 := Row.zero 9 kStr g none
 have s1151 : St h g (ids []) g ([] :: [[(b1148, Obj.cells #[.slice none 0 0] 54 (0, 0))]]) h1149 := St.flat (L := [[(b1148, Obj.cells #[.slice none 0 0] 54 (0, 0))]]) rfl s1150
 refine At.rangeFunc (x := (.tmp 6)) (f := f_q) (cp := cp_q) (by kernel_rfl) rfl (by kernel_rfl) (by kernel_rfl) e_q s1151 ?_
 intro r1153 l1154 tm1155 h1156 ft1157 s1158
 have s1159 : St h g (ids []) g [[(l1154, .loop (mkL (mkQ 159 tm1155 (pt (codeOf Tryz.f159) 2) r1153) none))], [(b1148, Obj.cells #[.slice none (([] : List (List UInt8)).length) 0] 54 (0, 0))], [], [(r1153, .deferred (some []))]] h1156 := ((((s1158.front 1 rfl).front 2 rfl).front 3 rfl).front 3 rfl)
 have s1160 : St h g (ids []) g [(([(l1154, .loop (mkL (mkQ 159 tm1155 (pt (codeOf Tryz.f159) 2) r1153) none))] : Chunk) ++ ([(b1148, Obj.cells #[.slice none (([] : List (List UInt8)).length) 0] 54 (0, 0))] : Chunk) ++ ([] : Chunk) : Chunk), [(r1153, .deferred (some []))]] h1156 := St.flat (L := [[(l1154, .loop (mkL (mkQ 159 tm1155 (pt (codeOf Tryz.f159) 2) r1153) none))], [(b1148, Obj.cells #[.slice none (([] : List (List UInt8)).length) 0] 54 (0, 0))], [], [(r1153, .deferred (some []))]]) (by simp only [List.flatten_cons, List.flatten_nil, List.append_assoc, List.cons_append, List.nil_append, List.append_nil]) s1159
 obtain ⟨I1161, hI1162⟩ : ∃ I : List Str → GH → Chunk → Prop, I = (fun xs g2 c2 => ∃ (out : List Str) (ao_out : Option Addr) (n_out : Nat) (k_out : Chunk), c2 = (([(l1154, .loop (mkL (mkQ 159 tm1155 (pt (codeOf Tryz.f159) 2) r1153) none))] : Chunk) ++ ([(b1148, Obj.cells #[.slice ao_out out.length n_out] 54 (0, 0))] : Chunk) ++ (k_out : Chunk) : Chunk) ∧ Row 9 kStr g2 (.slice ao_out out.length n_out) out k_out ∧ out = xs) := ⟨_, rfl⟩
 have hY1163 : Yld Tryz.prog B l1154 enS (fun full => full.Perm q) (fun _ => true) I1161 g := by
  intro h1164 g1165 xs1166 x1167 args1168 c1169 hgg1170 hG1171 hgo1172 hen1173 hfp1174 hI1175 hs1176
  rw [hI1162] at hI1175
  obtain ⟨out1177, ao1178, n1179, k1180, rfl, R1181, ho1182⟩ := hI1175
  obtain rfl := hen1173
  have hlen : out1177.length + 1 ≤ q.length := by (obtain ⟨full, h1, h2⟩ := hfp1174; have h3 := h2.length_le; have h4 := h1.length_eq; rw [ho1182]; simp only [List.length_append, List.length_cons, List.length_nil] at h3; omega)
  have s1183 : St h1164 g1165 (ids [(([(l1154, .loop (mkL (mkQ 159 tm1155 (pt (codeOf Tryz.f159) 2) r1153) none))] : Chunk) ++ ([(b1148, Obj.cells #[.slice ao1178 out1177.length n1179] 54 (0, 0))] : Chunk) ++ (k1180 : Chunk) : Chunk)]) g1165 [[(l1154, .loop (mkL (mkQ 159 tm1155 (pt (codeOf Tryz.f159) 2) r1153) none))], [(b1148, Obj.cells #[.slice ao1178 out1177.length n1179] 54 (0, 0))], k1180] h1164 := St.flat (by simp only [List.flatten_cons, List.flatten_nil, List.append_assoc, List.cons_append, List.nil_append, List.append_nil]) hs1176
  replace hG := hG.mono hgg1170
  replace h_q := h_q.mono hgg1170
  refine YSpec.of_at (n := Tryz.f159.ntmps) (e0 := [(2, .pointer (some ⟨b1148, 0, none⟩)), (4, .slice none 0 0), (6, .func (.func f_q) #[] cp_q)]) (e := [(7, .string (mkS x1167)), (2, .pointer (some ⟨b1148, 0, none⟩)), (4, .slice none 0 0), (6, .func (.func f_q) #[] cp_q)]) (s1183.chunk 0 rfl) ft1157 (by kernel_rfl) (by kernel_rfl) (by kernel_rfl) (by kernel_rfl) ?_
  intro R2 hR2
  refine At.reg (L := [(0, false)]) (by kernel_rfl) ?_
  refine Op.pures 1 [2, 5] (L' := []) (e' := [(2, .pointer (some ⟨b1148, 0, none⟩)), (5, .string (mkS x1167))]) (by kernel_rfl) ?_
  refine Op.goto 1 (by kernel_rfl) ?_
  refine At.beginRound rfl (by kernel_rfl) s1183 0 rfl 2 (by kernel_rfl) ?_
  intro h1184 s1185
  refine At.reg (L := [(0, false), (1, false), (2, false), (3, false), (4, false)]) (by kernel_rfl) ?_
  refine Op.load (T := 54) (x := (.tmp 2)) (o := 0) (d := 8) (n := 1) (v := .slice ao1178 out1177.length n1179) (by kernel_rfl) (by kernel_rfl) (by kernel_rfl) (s1185.chunk 1 rfl) (by kernel_rfl) ?_
  refine Op.pures 1 [2, 8, 9] (L' := [(2, false), (3, false), (4, false)]) (e' := [(2, .pointer (some ⟨b1148, 0, none⟩)), (8, .slice ao1178 out1177.length n1179), (9, .string (mkS x1167))]) (by kernel_rfl) ?_
  refine Op.lit (T := 54) (len := 1) (parts := #[(0, (.tmp 9))]) (dst := 10) (E := 9) (ps := [(0, .string (mkS x1167))]) (cs := #[.string (mkS x1167)]) (by kernel_rfl) (by kernel_rfl) (by kernel_rfl) s1185 ?_
  intro b1186 h1187 s1188
  refine Op.append (x := (.tmp 8)) (y := (.tmp 10)) (t := 54) (t' := 54) (dst := 11) (E := 9) (by_ := 16) (d := kStr) (by kernel_rfl) (by kernel_rfl) (by kernel_rfl) (by kernel_rfl) rfl R1181 s1188 3 rfl (Src.lit (m := 1) (sz := 1) (s1188.chunk 0 rfl) (news := [.string (mkS x1167)]) rfl rfl (by simp [Value.oneCell']) _) (ys := [x1167]) (⟨_, _, rfl, rfl, Reads.nil⟩) rfl (by (simp only [List.length_cons, List.length_nil]; omega)) (fun _ _ _ => trivial) ?_
  intro v1189 ch1190 h1191 R1192 s1193 nn1194
  obtain ⟨a1195, n1196, rfl⟩ := R1192.form
  have s1197 := (s1193.front 0 rfl).drop
  refine Op.store (T := 54) (x := (.tmp 2)) (y := (.tmp 11)) (b := b1148) (o := 0) (vs := [.slice a1195 ((out1177 ++ ([x1167])).length) n1196]) (a? := false) (n := 1) (by kernel_rfl) (by kernel_rfl) (by kernel_rfl) (by kernel_rfl) rfl (by simp [Value.oneCell']) s1197 1 rfl (Nat.le_of_ble_eq_true (by kernel_rfl)) (cs := #[.slice ao1178 out1177.length n1179]) (cs' := #[.slice a1195 ((out1177 ++ ([x1167])).length) n1196]) (by kernel_rfl) (fun _ => trivial) ?_
  intro h1198 s1199
  refine Op.goto 3 (by kernel_rfl) ?_
  refine At.roundEnd (j := none) (by kernel_rfl) s1199 0 rfl ?_
  intro h1200 s1201
  have s1202 : St h1164 g1165 (ids [(([(l1154, .loop (mkL (mkQ 159 tm1155 (pt (codeOf Tryz.f159) 2) r1153) none))] : Chunk) ++ ([(b1148, Obj.cells #[.slice ao1178 out1177.length n1179] 54 (0, 0))] : Chunk) ++ (k1180 : Chunk) : Chunk)]) g1165 [(([(l1154, .loop (mkL (mkQ 159 tm1155 (pt (codeOf Tryz.f159) 2) r1153) none))] : Chunk) ++ ([(b1148, Obj.cells #[.slice a1195 ((out1177 ++ ([x1167])).length) n1196] 54 (0, 0))] : Chunk) ++ (ch1190 : Chunk) : Chunk)] h1200 := St.flat (L := [[(l1154, .loop (mkL (mkQ 159 tm1155 (pt (codeOf Tryz.f159) 2) r1153) none))], [(b1148, Obj.cells #[.slice a1195 ((out1177 ++ ([x1167])).length) n1196] 54 (0, 0))], ch1190]) (by simp only [List.flatten_cons, List.flatten_nil, List.append_assoc, List.cons_append, List.nil_append, List.append_nil]) s1201
  refine hR2 _ _ _ _ s1202 ⟨_, by rfl, rfl, ?_⟩
  rw [hI1162]; exact ⟨(out1177 ++ ([x1167])), a1195, n1196, ch1190, rfl, R1192, (by rw [ho1182])⟩
 refine AtIn.call (Lc := [(([(l1154, .loop (mkL (mkQ 159 tm1155 (pt (codeOf Tryz.f159) 2) r1153) none))] : Chunk) ++ ([(b1148, Obj.cells #[.slice none (([] : List (List UInt8)).length) 0] 54 (0, 0))] : Chunk) ++ ([] : Chunk) : Chunk)]) (L := [[(r1153, .deferred (some []))]]) s1160 (h_q B _ _ _ I1161 (fun _ => true) _ (gle.refl _) s1160.sub hG hY1163 rfl (by rw [hI1162]; exact ⟨([] : List (List UInt8)), none, 0, [], rfl, R1152, (by rfl)⟩) (St.part (Lc := [(([(l1154, .loop (mkL (mkQ 159 tm1155 (pt (codeOf Tryz.f159) 2) r1153) none))] : Chunk) ++ ([(b1148, Obj.cells #[.slice none (([] : List (List UInt8)).length) 0] 54 (0, 0))] : Chunk) ++ ([] : Chunk) : Chunk)]) (L := [[(r1153, .deferred (some []))]]) s1160)) ?_
 rintro _ g1203 _ h1204 hle1205 s1206 ⟨full1207, xs1208, c1209, rfl, ho1210, hp1211, hf1212, hpr1213, rfl, hI1214⟩
 replace hG := hG.mono hle1205
 replace h_q := h_q.mono hle1205
 have hx := hf1212 rfl; subst hx
 rw [hI1162] at hI1214
 obtain ⟨out1215, ao1216, n1217, k1218, rfl, R1219, ho1220⟩ := hI1214
 have s1221 : St h g (ids []) g1203 [[(l1154, .loop (mkL (mkQ 159 tm1155 (pt (codeOf Tryz.f159) 2) r1153) none))], [(b1148, Obj.cells #[.slice ao1216 out1215.length n1217] 54 (0, 0))], k1218, [(r1153, .deferred (some []))]] h1204 := St.flat (by simp only [List.flatten_cons, List.flatten_nil, List.append_assoc, List.cons_append, List.nil_append, List.append_nil]) s1206
 refine AtI.endLoop (j := none) s1221 0 rfl ?_
 intro h1222 s1223
 have s1224 := s1223.drop
 refine AtI.at_ 3 (by kernel_rfl) ?_
 refine At.reg (L := [(0, false), (1, false)]) (by kernel_rfl) ?_
 refine Op.load (T := 54) (x := (.tmp 2)) (o := 0) (d := 12) (n := 1) (v := .slice ao1216 out1215.length n1217) (by kernel_rfl) (by kernel_rfl) (by kernel_rfl) (s1224.chunk 0 rfl) (by kernel_rfl) ?_
 refine Op.pures 1 [4] (L' := []) (e' := [(4, .slice ao1216 out1215.length n1217)]) (by kernel_rfl) ?_
 refine Op.goto 4 (by kernel_rfl) ?_
 have s1225 : St h g (ids []) g1203 [[(r1153, .deferred (some []))], [(b1148, Obj.cells #[.slice ao1216 out1215.length n1217] 54 (0, 0))], k1218] h1222 := (((s1224.front 1 rfl).front 1 rfl).front 2 rfl)
 refine At.ofI (AtI.retD (L := [[(b1148, Obj.cells #[.slice ao1216 out1215.length n1217] 54 (0, 0))], k1218]) (f := Tryz.f159) (v := .slice ao1216 out1215.length n1217) [r1153] (by kernel_rfl) (by kernel_rfl) s1225 ?_)
 intro h1226 s1227
 have s1228 : St h g (ids []) g1203 [k1218] h1226 := (s1227).drop
 have s1229 : St h g (ids []) g [k1218] h1226 := s1228.unfrz
 replace R1219 := R1219.flat (fun _ _ _ _ h => h) (g' := g)
 refine hR _ _ _ _ s1229 ⟨out1215, (.slice ao1216 out1215.length n1217), k1218, ?_, ?_, ?_, rfl, rfl⟩
 ·exact rfl
 ·rw [ho1220]; assumption
 ·exact R1219
theorem collectS (B : World) (h : Heap) (g : GH) (hg : Sub g h) (hG : Glob g) (f_q : Nat) (cp_q : Array Value) (q : List Str) (e_q : Enterable Tryz.prog f_q) (h_q : SeqOk Tryz.prog g f_q cp_q enS (fun full => full.Perm q)) (hq : q.length ≤ 1000000000) :
  Spec Tryz.prog B 127 #[.func (.func f_q) #[] cp_q] h g [] (fun rv g' L' => ∃ r0 v0 k0, rv = v0 ∧ r0.Perm q ∧ Row 9 kStr g' v0 r0 k0 ∧ g' = g ∧ L' = [k0]) := by
 refine Spec.of_at (f := Tryz.f127) (e := [(0, .func (.func f_q) #[] cp_q)]) Tryz.func127 (by kernel_rfl) (Nat.le_of_ble_eq_true (by kernel_rfl)) (by kernel_rfl) (by kernel_rfl) ?_
 intro R hR
 have s0 := St.init hg
 refine At.reg (L := [(0, false)]) (by kernel_rfl) ?_
 refine Op.pures 1 [0] (L' := []) (e' := [(0, .func (.func f_q) #[] cp_q)]) (by kernel_rfl) ?_
 refine Op.goto 1 (by kernel_rfl) ?_
 refine At.reg (L := [(0, false), (1, false), (2, false)]) (by kernel_rfl) ?_
 refine Op.pures 1 [3] (L' := [(1, false), (2, false)]) (e' := [(3, .func (.func f_q) #[] cp_q)]) (by kernel_rfl) ?_
 refine Op.call0 (dst := some 4) (f := 159) (args := #[.slice none 0 0, .func (.func f_q) #[] cp_q]) (by kernel_rfl) s0 (appendSeq _ _ _ s0.sub hG f_q cp_q q e_q h_q (by ((try dsimp only) <;> (assumption))) ) ?_
 rintro _ g1239 _ h1230 hle1240 s1231 ⟨r1232, v1233, ch1234, rfl, hp1235, R1236, hgg, rfl⟩; subst g1239; clear hle1240
 obtain ⟨a1237, n1238, rfl⟩ := R1236.form
 refine Op.pures 1 [2] (L' := []) (e' := [(2, .slice a1237 r1232.length n1238)]) (by kernel_rfl) ?_
 refine Op.goto 2 (by kernel_rfl) ?_
 refine At.ret (f := Tryz.f127) (v := .slice a1237 r1232.length n1238) (by kernel_rfl) (by kernel_rfl) ?_
 refine hR _ _ _ _ s1231 ⟨r1232, (.slice a1237 r1232.length n1238), ch1234, ?_, ?_, ?_, rfl, rfl⟩
 ·exact rfl
 ·assumption
 ·exact R1236
theorem sortedS (B : World) (h : Heap) (g : GH) (hg : Sub g h) (hG : Glob g) (f_q : Nat) (cp_q : Array Value) (q : List Str) (e_q : Enterable Tryz.prog f_q) (h_q : SeqOk Tryz.prog g f_q cp_q enS (fun full => full.Perm q)) (hq : q.length ≤ 1000000000) :
  Spec Tryz.prog B 84 #[.func (.func f_q) #[] cp_q] h g [] (fun rv g' L' => ∃ v0 k0, rv = v0 ∧ Row 9 kStr g' v0 (sortS q) k0 ∧ g' = g ∧ L' = [k0]) := by
 refine Spec.of_at (f := Tryz.f84) (e := [(0, .func (.func f_q) #[] cp_q)]) Tryz.func84 (by kernel_rfl) (Nat.le_of_ble_eq_true (by kernel_rfl)) (by kernel_rfl) (by kernel_rfl) ?_
 intro R hR
 have s0 := St.init hg
 refine At.reg (L := [(0, false)]) (by kernel_rfl) ?_
 refine Op.pures 1 [0] (L' := []) (e' := [(0, .func (.func f_q) #[] cp_q)]) (by kernel_rfl) ?_
 refine Op.goto 1 (by kernel_rfl) ?_
 refine At.reg (L := [(0, false), (1, false), (2, false)]) (by kernel_rfl) ?_
 refine Op.pures 1 [4] (L' := [(1, false), (2, false)]) (e' := [(4, .func (.func f_q) #[] cp_q)]) (by kernel_rfl) ?_
 refine Op.call0 (dst := some 5) (f := 127) (args := #[.func (.func f_q) #[] cp_q]) (by kernel_rfl) s0 (collectS _ _ _ s0.sub hG f_q cp_q q e_q h_q (by ((try dsimp only) <;> (assumption))) ) ?_
 rintro _ g1250 _ h1241 hle1251 s1242 ⟨r1243, v1244, ch1245, rfl, hp1246, R1247, hgg, rfl⟩; subst g1250; clear hle1251
 obtain ⟨a1248, n1249, rfl⟩ := R1247.form
 refine Op.pures 1 [3] (L' := []) (e' := [(3, .slice a1248 r1243.length n1249)]) (by kernel_rfl) ?_
 refine Op.goto 2 (by kernel_rfl) ?_
 refine At.reg (L := [(0, false), (1, false)]) (by kernel_rfl) ?_
 refine Op.pures 1 [3, 6] (L' := [(1, false)]) (e' := [(3, .slice a1248 r1243.length n1249), (6, .slice a1248 r1243.length n1249)]) (by kernel_rfl) ?_
 refine Op.call (dst := some 7) (f := 128) (args := #[.slice a1248 r1243.length n1249]) (Lc := [ch1245]) (L := []) (by kernel_rfl) s1242 (sort_spec _ _ _ s1242.sub _ r1243 _ R1247 (by (have := List.Perm.length_eq hp1246; omega)) (St.part (Lc := [ch1245]) (L := []) s1242)) (fun _ _ _ => trivial) ?_
 rintro _ g1252 _ h1253 hle1254 s1255 ⟨rfl, hgg1258, c1256, R1257, rfl⟩; subst g1252; clear hle1254
 refine Op.goto 3 (by kernel_rfl) ?_
 refine At.reg (L := [(0, false), (1, false)]) (by kernel_rfl) ?_
 refine Op.pures 2 [2] (L' := []) (e' := [(2, .slice a1248 r1243.length n1249)]) (by kernel_rfl) ?_
 refine Op.goto 4 (by kernel_rfl) ?_
 refine At.ret (f := Tryz.f84) (v := .slice a1248 r1243.length n1249) (by kernel_rfl) (by kernel_rfl) ?_
 refine hR _ _ _ _ s1255 ⟨(.slice a1248 r1243.length n1249), c1256, ?_, ?_, rfl, rfl⟩
 ·exact rfl
 ·exact rowEq R1257 (by exact sort_eq hp1246)
theorem sortedT (B : World) (h : Heap) (g : GH) (hg : Sub g h) (hG : Glob g) (b_t : Nat) (t : List Leaf) (o_t : VTree g b_t t) (hn : t.length ≤ 1000000000) :
  Spec Tryz.prog B 75 #[.pointer (some ⟨b_t, 0, none⟩)] h g [] (fun rv g' L' => ∃ v0 k0, rv = v0 ∧ Row 9 kStr g' v0 (t.map (·.Path)) k0 ∧ g' = g ∧ L' = [k0]) := by
 refine Spec.of_at (f := Tryz.f75) (e := [(0, .pointer (some ⟨b_t, 0, none⟩))]) Tryz.func75 (by kernel_rfl) (Nat.le_of_ble_eq_true (by kernel_rfl)) (by kernel_rfl) (by kernel_rfl) ?_
 intro R hR
 have s0 := St.init hg
 refine At.reg (L := [(0, false)]) (by kernel_rfl) ?_
 refine Op.pures 1 [0] (L' := []) (e' := [(0, .pointer (some ⟨b_t, 0, none⟩))]) (by kernel_rfl) ?_
 refine Op.goto 1 (by kernel_rfl) ?_
 refine At.reg (L := [(0, false), (1, false), (2, false), (3, false), (4, false), (5, false), (6, false)]) (by kernel_rfl) ?_
 refine Op.pures 3 [5] (L' := [(3, false), (4, false), (5, false), (6, false)]) (e' := [(5, .pointer (some ⟨b_t, 0, none⟩))]) (by kernel_rfl) ?_
 obtain ⟨mb1259, hb1260, om1261⟩ := o_t
 have o_t : VTree g b_t t := ⟨mb1259, hb1260, om1261⟩
 refine Op.load (T := 126) (x := (.tmp 5)) (o := 0) (d := 6) (n := 1) (v := .map (some mb1259)) (by kernel_rfl) (by kernel_rfl) (by kernel_rfl) (s0.sub _ _ hb1260) (by kernel_rfl) ?_
 refine Op.call0 (dst := some 7) (f := 121) (args := #[.map (some mb1259)]) (by kernel_rfl) s0 (keysF _ _ _ s0.sub hG mb1259 t om1261  ) ?_
 rintro _ g1268 _ h1262 hle1269 s1263 ⟨f1264, cp1265, rfl, e1266, hq1267, rfl⟩
 replace hG := hG.mono hle1269
 replace o_t := o_t.mono hle1269
 replace om1261 := om1261.mono hle1269
 replace hb1260 := hle1269 _ _ hb1260
 refine Op.call0 (dst := some 8) (f := 84) (args := #[.func (.func f1264) #[] cp1265]) (by kernel_rfl) s1263 (sortedS _ _ _ s1263.sub hG f1264 cp1265 (t.map (·.Path)) e1266 hq1267 (by ((try dsimp only) <;> ((simp only [List.length_map]; assumption)))) ) ?_
 rintro _ g1277 _ h1270 hle1278 s1271 ⟨v1272, ch1273, rfl, R1274, hgg, rfl⟩; subst g1277; clear hle1278
 obtain ⟨a1275, n1276, rfl⟩ := R1274.form
 refine Op.pures 1 [2] (L' := []) (e' := [(2, .slice a1275 ((sortS (t.map (·.Path))).length) n1276)]) (by kernel_rfl) ?_
 refine Op.goto 2 (by kernel_rfl) ?_
 refine At.ret (f := Tryz.f75) (v := .slice a1275 ((sortS (t.map (·.Path))).length) n1276) (by kernel_rfl) (by kernel_rfl) ?_
 have s1279 : St h g (ids []) g [ch1273] h1270 := s1271.unfrz
 replace R1274 := R1274.flat (fun _ _ _ _ h => h) (g' := g)
 refine hR _ _ _ _ s1279 ⟨(.slice a1275 ((sortS (t.map (·.Path))).length) n1276), ch1273, ?_, ?_, rfl, rfl⟩
 ·exact rfl
 ·exact rowEq R1274 (by exact sort_self (paths_sorted o_t.sort))
end Go.Proofs.YtmjebehhpojihaaGreatDoor.Sw
namespace Go.Proofs.YtmjebehhpojihaaGreatDoor.Sw
open Go
set_option maxRecDepth 100000
set_option linter.unusedVariables false
set_option linter.unusedSimpArgs false
set_option linter.deprecated false
theorem findT (B : World) (h : Heap) (g : GH) (hg : Sub g h) (hG : Glob g) (b_t : Nat) (t : List Leaf) (o_t : VTree g b_t t) (p : List UInt8) (hp : p.length ≤ 1000000000) :
  Spec Tryz.prog B 81 #[.pointer (some ⟨b_t, 0, none⟩), .string (mkS p)] h g [] (fun rv g' L' => g' = g ∧ L' = [] ∧ ((rv = .tuple #[.pointer none, .int .i64 (findE t p)] ∧ (findE t p) ≠ 0) ∨ ∃ b l v mb, rv = .tuple #[.pointer (some ⟨b, 0, none⟩), .int .i64 0] ∧ (findE t p) = 0 ∧ findL t p = some l ∧ g b_t = some (.cells #[.map (some mb)] TT (0, 0)) ∧ g b = some (.cells (cellsL l v) TL (0, 0)) ∧ SlR g 5 kU8 v l.Data ∧ LeafAt g mb l b)) := by
 refine Spec.of_at (f := Tryz.f81) (e := [(0, .pointer (some ⟨b_t, 0, none⟩)), (1, .string (mkS p))]) Tryz.func81 (by kernel_rfl) (Nat.le_of_ble_eq_true (by kernel_rfl)) (by kernel_rfl) (by kernel_rfl) ?_
 intro R hR
 have s0 := St.init hg
 refine At.reg (L := [(0, false), (1, false)]) (by kernel_rfl) ?_
 refine Op.pures 2 [0, 1] (L' := []) (e' := [(0, .pointer (some ⟨b_t, 0, none⟩)), (1, .string (mkS p))]) (by kernel_rfl) ?_
 refine Op.goto 1 (by kernel_rfl) ?_
 refine At.reg (L := [(0, false), (1, false), (2, false)]) (by kernel_rfl) ?_
 refine Op.pures 1 [0, 1, 9] (L' := [(1, false), (2, false)]) (e' := [(0, .pointer (some ⟨b_t, 0, none⟩)), (1, .string (mkS p)), (9, .string (mkS p))]) (by kernel_rfl) ?_
 refine Op.call0 (dst := some 10) (f := 125) (args := #[.string (mkS p)]) (by kernel_rfl) s0 (checkP _ _ _ s0.sub hG p (by ((try dsimp only) <;> (omega))) ) ?_
 rintro _ g1003 _ h1001 hle1004 s1002 ⟨rfl, hgg, rfl⟩; subst g1003; clear hle1004
 refine Op.pures 1 [0, 1, 6] (L' := []) (e' := [(0, .pointer (some ⟨b_t, 0, none⟩)), (1, .string (mkS p)), (6, .int .i64 (pErr p))]) (by kernel_rfl) ?_
 refine Op.goto 2 (by kernel_rfl) ?_
 refine At.reg (L := [(0, false), (1, false)]) (by kernel_rfl) ?_
 refine Op.pures 2 [0, 1, 6, 12] (L' := []) (e' := [(0, .pointer (some ⟨b_t, 0, none⟩)), (1, .string (mkS p)), (6, .int .i64 (pErr p)), (12, .bool ((pErr p) != (0 : Int)))]) (by kernel_rfl) ?_
 refine Op.goto 3 (by kernel_rfl) ?_
 refine At.cond (b := (pErr p) != (0 : Int)) (c := .tmp 12) (by kernel_rfl) (by kernel_rfl) (by kernel_rfl) 4 6 (by kernel_rfl) (by kernel_rfl) (fun hb => ?_) (fun hb => ?_)
 ·have c1005 : ¬ ((pErr p) = (0 : Int)) := bneT hb
  clear hb
  refine At.keep [6] ?_; show At _ _ _ [(6, .int .i64 (pErr p))] _
  refine At.reg (L := [(0, false), (1, false), (2, false)]) (by kernel_rfl) ?_
  refine Op.pures 3 [4, 5] (L' := []) (e' := [(4, .pointer none), (5, .int .i64 (pErr p))]) (by kernel_rfl) ?_
  refine Op.goto 5 (by kernel_rfl) ?_
  refine At.ret (f := Tryz.f81) (v := .tuple #[.pointer none, .int .i64 (pErr p)]) (by kernel_rfl) (by kernel_rfl) ?_
  have hE1006 : (findE t p) = (pErr p) := by first | exact findE_1 (by assumption) | exact findE_2 (by assumption) (by assumption) | exact findE_3 (by assumption) (by assumption)
  exact hR _ _ _ _ s1002 ⟨rfl, rfl, .inl ⟨by rw [hE1006], by rw [hE1006]; first | assumption | decide | omega⟩⟩
 ·have c1007 : (pErr p) = (0 : Int) := bneF hb
  clear hb
  refine At.keep [0, 1] ?_; show At _ _ _ [(0, .pointer (some ⟨b_t, 0, none⟩)), (1, .string (mkS p))] _
  refine At.reg (L := [(0, false), (1, false), (2, false), (3, false), (4, false), (5, false), (6, false), (7, false), (8, false), (9, false), (10, false)]) (by kernel_rfl) ?_
  refine Op.pures 3 [1, 17] (L' := [(3, false), (4, false), (5, false), (6, false), (7, false), (8, false), (9, false), (10, false)]) (e' := [(1, .string (mkS p)), (17, .pointer (some ⟨b_t, 0, none⟩))]) (by kernel_rfl) ?_
  obtain ⟨mb1008, hb1009, om1010⟩ := o_t
  have o_t : VTree g b_t t := ⟨mb1008, hb1009, om1010⟩
  refine Op.load (T := 126) (x := (.tmp 17)) (o := 0) (d := 18) (n := 1) (v := .map (some mb1008)) (by kernel_rfl) (by kernel_rfl) (by kernel_rfl) (s1002.sub _ _ hb1009) (by kernel_rfl) ?_
  refine Op.pures 1 [18, 19] (L' := [(5, false), (6, false), (7, false), (8, false), (9, false), (10, false)]) (e' := [(18, .map (some mb1008)), (19, .string (mkS p))]) (by kernel_rfl) ?_
  obtain ⟨es1011, clk1012, ks1013, hm1014, hR1015, hl1016, hp1017, hh1018, hk1019⟩ := VLm.open_ om1010
  rcases hk1019 p with ⟨hf1023, hl1024⟩ | ⟨b1020, l1021, v1022, hf1023, hl1024, hb1025, hd1026, ha1027⟩
  ·refine Op.lookNone (ok := true) (d := .string) (mt := 126) (x := (.tmp 18)) (ix := (.tmp 19)) (dst := 20) (k := p) (m := mb1008) (z := .pointer none) (by kernel_rfl) (by kernel_rfl) keyS (by kernel_rfl) (by kernel_rfl) (s1002.sub _ _ hm1014) hR1015 hl1024 ?_
   refine Op.pures 5 [7, 8] (L' := []) (e' := [(7, .pointer none), (8, .bool false)]) (by kernel_rfl) ?_
   refine Op.goto 7 (by kernel_rfl) ?_
   refine At.reg (L := [(0, false), (1, false)]) (by kernel_rfl) ?_
   refine Op.pures 2 [7, 24] (L' := []) (e' := [(7, .pointer none), (24, .bool true)]) (by kernel_rfl) ?_
   refine Op.goto 8 (by kernel_rfl) ?_
   refine At.condT (c := .tmp 24) (by kernel_rfl) (by kernel_rfl) (by kernel_rfl) 9 (by kernel_rfl) ?_
   refine At.reg (L := [(0, false), (1, false)]) (by kernel_rfl) ?_
   refine Op.pures 2 [4, 5] (L' := []) (e' := [(4, .pointer none), (5, .int .i64 100)]) (by kernel_rfl) ?_
   refine Op.goto 10 (by kernel_rfl) ?_
   refine At.ret (f := Tryz.f81) (v := .tuple #[.pointer none, .int .i64 100]) (by kernel_rfl) (by kernel_rfl) ?_
   have hE1028 : (findE t p) = (100 : Int) := by first | exact findE_1 (by assumption) | exact findE_2 (by assumption) (by assumption) | exact findE_3 (by assumption) (by assumption)
   exact hR _ _ _ _ s1002 ⟨rfl, rfl, .inl ⟨by rw [hE1028], by rw [hE1028]; first | assumption | decide | omega⟩⟩
  ·obtain ⟨a1029, n1030, rfl⟩ := hd1026.form
   refine Op.lookSome (ok := true) (d := .string) (mt := 126) (x := (.tmp 18)) (ix := (.tmp 19)) (dst := 20) (k := p) (m := mb1008) (v := .pointer (some ⟨b1020, 0, none⟩)) (z := .pointer none) (by kernel_rfl) (by kernel_rfl) keyS (by kernel_rfl) (by kernel_rfl) (s1002.sub _ _ hm1014) hR1015 hl1024 ?_
   refine Op.pures 5 [7, 8] (L' := []) (e' := [(7, .pointer (some ⟨b1020, 0, none⟩)), (8, .bool true)]) (by kernel_rfl) ?_
   refine Op.goto 7 (by kernel_rfl) ?_
   refine At.reg (L := [(0, false), (1, false)]) (by kernel_rfl) ?_
   refine Op.pures 2 [7, 24] (L' := []) (e' := [(7, .pointer (some ⟨b1020, 0, none⟩)), (24, .bool false)]) (by kernel_rfl) ?_
   refine Op.goto 8 (by kernel_rfl) ?_
   refine At.condF (c := .tmp 24) (by kernel_rfl) (by kernel_rfl) (by kernel_rfl) 11 (by kernel_rfl) ?_
   refine At.reg (L := [(0, false), (1, false), (2, false)]) (by kernel_rfl) ?_
   refine Op.pures 3 [4, 5] (L' := []) (e' := [(4, .pointer (some ⟨b1020, 0, none⟩)), (5, .int .i64 0)]) (by kernel_rfl) ?_
   refine Op.goto 12 (by kernel_rfl) ?_
   refine At.ret (f := Tryz.f81) (v := .tuple #[.pointer (some ⟨b1020, 0, none⟩), .int .i64 0]) (by kernel_rfl) (by kernel_rfl) ?_
   have hE1031 : (findE t p) = (0 : Int) := by first | exact findE_1 (by assumption) | exact findE_2 (by assumption) (by assumption) | exact findE_3 (by assumption) (by assumption)
   exact hR _ _ _ _ s1002 ⟨rfl, rfl, .inr ⟨b1020, l1021, _, mb1008, rfl, hE1031, by assumption, hb1009, hb1025, hd1026, ha1027⟩⟩
theorem verT (B : World) (h : Heap) (g : GH) (hg : Sub g h) (hG : Glob g) (b_t : Nat) (t : List Leaf) (o_t : VTree g b_t t) (p : List UInt8) (ver : Int) (hp : p.length ≤ 1000000000) :
  Spec Tryz.prog B 79 #[.pointer (some ⟨b_t, 0, none⟩), .string (mkS p), .int .i64 ver] h g [] (fun rv g' L' => g' = g ∧ L' = [] ∧ ((rv = .tuple #[.pointer none, .int .i64 (verE t p ver)] ∧ (verE t p ver) ≠ 0) ∨ ∃ b l v mb, rv = .tuple #[.pointer (some ⟨b, 0, none⟩), .int .i64 0] ∧ (verE t p ver) = 0 ∧ findL t p = some l ∧ g b_t = some (.cells #[.map (some mb)] TT (0, 0)) ∧ g b = some (.cells (cellsL l v) TL (0, 0)) ∧ SlR g 5 kU8 v l.Data ∧ LeafAt g mb l b)) := by
 refine Spec.of_at (f := Tryz.f79) (e := [(0, .pointer (some ⟨b_t, 0, none⟩)), (1, .string (mkS p)), (2, .int .i64 ver)]) Tryz.func79 (by kernel_rfl) (Nat.le_of_ble_eq_true (by kernel_rfl)) (by kernel_rfl) (by kernel_rfl) ?_
 intro R hR
 have s0 := St.init hg
 refine At.reg (L := [(0, false), (1, false)]) (by kernel_rfl) ?_
 refine Op.pures 2 [0, 1, 2] (L' := []) (e' := [(0, .pointer (some ⟨b_t, 0, none⟩)), (1, .string (mkS p)), (2, .int .i64 ver)]) (by kernel_rfl) ?_
 refine Op.goto 1 (by kernel_rfl) ?_
 refine At.reg (L := [(0, false), (1, false), (2, false), (3, false), (4, false), (5, false), (6, false), (7, false)]) (by kernel_rfl) ?_
 refine Op.pures 2 [2, 11, 12] (L' := [(2, false), (3, false), (4, false), (5, false), (6, false), (7, false)]) (e' := [(2, .int .i64 ver), (11, .pointer (some ⟨b_t, 0, none⟩)), (12, .string (mkS p))]) (by kernel_rfl) ?_
 refine Op.call0 (dst := some 13) (f := 81) (args := #[.pointer (some ⟨b_t, 0, none⟩), .string (mkS p)]) (by kernel_rfl) s0 (findT _ _ _ s0.sub hG b_t t o_t p (by ((try dsimp only) <;> (omega))) ) ?_
 rintro v1034 g1036 _ h1032 hle1037 s1033 ⟨hgg, rfl, hp1035⟩; subst g1036; clear hle1037
 rcases hp1035 with ⟨rfl, hne1038⟩ | ⟨b1039, l1040, v1041, mb1042, rfl, hE1043, hF1044, hbt1045, hb1046, hd1047, ha1048⟩
 ·have k1049 : ((findE t p) != (0 : Int)) = true := bne_iff_ne.2 hne1038
  have k1050 : ((findE t p) == (0 : Int)) = false := beq_eq_false_iff_ne.2 hne1038
  refine Op.pures 5 [2, 8, 9] (L' := []) (e' := [(2, .int .i64 ver), (8, .pointer none), (9, .int .i64 (findE t p))]) (by kernel_rfl) ?_
  refine Op.goto 2 (by kernel_rfl) ?_
  refine At.reg (L := [(0, false), (1, false), (2, false), (3, false), (4, false), (5, false), (6, false), (7, false), (8, false), (9, false), (10, false), (11, false), (12, false), (13, false)]) (by kernel_rfl) ?_
  refine Op.pures 3 [2, 8, 9, 18] (L' := [(3, false), (4, false), (5, false), (6, false), (7, false), (8, false), (9, false), (10, false), (11, false), (12, false), (13, false)]) (e' := [(2, .int .i64 ver), (8, .pointer none), (9, .int .i64 (findE t p)), (18, .bool ((findE t p) == (0 : Int)))]) (by kernel_rfl) ?_
  refine Op.ways (b := (findE t p) == (0 : Int)) ⟨fun hb => ?_, fun hb => ?_⟩
  ·exact Bool.noConfusion (hb.symm.trans k1050)
  ·refine Op.cast (e' := [(2, .int .i64 ver), (8, .pointer none), (9, .int .i64 (findE t p)), (18, .bool false)]) (by rw [hb]) ?_
   have c1051 : ¬ ((findE t p) = (0 : Int)) := neF hb
   clear hb
   refine Op.pures 11 [8, 9, 29] (L' := []) (e' := [(8, .pointer none), (9, .int .i64 (findE t p)), (29, .bool false)]) (by kernel_rfl) ?_
   refine Op.goto 3 (by kernel_rfl) ?_
   refine At.condF (c := .tmp 29) (by kernel_rfl) (by kernel_rfl) (by kernel_rfl) 6 (by kernel_rfl) ?_
   refine At.reg (L := [(0, false), (1, false), (2, false), (3, false)]) (by kernel_rfl) ?_
   refine Op.pures 4 [6, 7] (L' := []) (e' := [(6, .pointer none), (7, .int .i64 (findE t p))]) (by kernel_rfl) ?_
   refine Op.goto 7 (by kernel_rfl) ?_
   refine At.ret (f := Tryz.f79) (v := .tuple #[.pointer none, .int .i64 (findE t p)]) (by kernel_rfl) (by kernel_rfl) ?_
   have hE1052 : (verE t p ver) = (findE t p) := by first | exact verE_1 (by assumption) | exact verE_2 (by assumption) (by assumption) (by assumption) (by assumption) | exact verE_3 (by assumption) (by assumption) (by assumption) | exact verE_4 (by assumption) (by assumption) (by assumption)
   exact hR _ _ _ _ s1033 ⟨rfl, rfl, .inl ⟨by rw [hE1052], by rw [hE1052]; first | assumption | decide | omega⟩⟩
 ·obtain ⟨a1053, n1054, rfl⟩ := hd1047.form
  refine Op.pures 5 [2, 8, 9] (L' := []) (e' := [(2, .int .i64 ver), (8, .pointer (some ⟨b1039, 0, none⟩)), (9, .int .i64 0)]) (by kernel_rfl) ?_
  refine Op.goto 2 (by kernel_rfl) ?_
  refine At.reg (L := [(0, false), (1, false), (2, false), (3, false), (4, false), (5, false), (6, false), (7, false), (8, false), (9, false), (10, false), (11, false), (12, false), (13, false)]) (by kernel_rfl) ?_
  refine Op.pures 7 [2, 8, 9, 22] (L' := [(7, false), (8, false), (9, false), (10, false), (11, false), (12, false), (13, false)]) (e' := [(2, .int .i64 ver), (8, .pointer (some ⟨b1039, 0, none⟩)), (9, .int .i64 0), (22, .bool (decide (ver ≥ (0 : Int))))]) (by kernel_rfl) ?_
  refine Op.ways (b := decide (ver ≥ (0 : Int))) ⟨fun hb => ?_, fun hb => ?_⟩
  ·refine Op.cast (e' := [(2, .int .i64 ver), (8, .pointer (some ⟨b1039, 0, none⟩)), (9, .int .i64 0), (22, .bool true)]) (by rw [hb]) ?_
   have c1055 : ver ≥ (0 : Int) := of_decide_eq_true hb
   clear hb
   refine Op.pures 3 [2, 8, 9, 22, 25] (L' := [(10, false), (11, false), (12, false), (13, false)]) (e' := [(2, .int .i64 ver), (8, .pointer (some ⟨b1039, 0, none⟩)), (9, .int .i64 0), (22, .bool true), (25, .pointer (some ⟨b1039, 2, none⟩))]) (by kernel_rfl) ?_
   refine Op.load (T := 3) (x := (.tmp 25)) (o := 2) (d := 26) (n := 1) (v := .int .i64 l1040.Version) (by kernel_rfl) (by kernel_rfl) (by kernel_rfl) (s1033.sub _ _ hb1046) (by kernel_rfl) ?_
   refine Op.pures 3 [8, 9, 29] (L' := []) (e' := [(8, .pointer (some ⟨b1039, 0, none⟩)), (9, .int .i64 0), (29, .bool (l1040.Version != ver))]) (by kernel_rfl) ?_
   refine Op.goto 3 (by kernel_rfl) ?_
   refine At.cond (b := l1040.Version != ver) (c := .tmp 29) (by kernel_rfl) (by kernel_rfl) (by kernel_rfl) 4 6 (by kernel_rfl) (by kernel_rfl) (fun hb => ?_) (fun hb => ?_)
   ·have c1056 : ¬ (l1040.Version = ver) := bneT hb
    clear hb
    refine At.keep [] ?_; show At _ _ _ [] _
    refine At.reg (L := [(0, false), (1, false)]) (by kernel_rfl) ?_
    refine Op.pures 2 [6, 7] (L' := []) (e' := [(6, .pointer none), (7, .int .i64 102)]) (by kernel_rfl) ?_
    refine Op.goto 5 (by kernel_rfl) ?_
    refine At.ret (f := Tryz.f79) (v := .tuple #[.pointer none, .int .i64 102]) (by kernel_rfl) (by kernel_rfl) ?_
    have hE1057 : (verE t p ver) = (102 : Int) := by first | exact verE_1 (by assumption) | exact verE_2 (by assumption) (by assumption) (by assumption) (by assumption) | exact verE_3 (by assumption) (by assumption) (by assumption) | exact verE_4 (by assumption) (by assumption) (by assumption)
    exact hR _ _ _ _ s1033 ⟨rfl, rfl, .inl ⟨by rw [hE1057], by rw [hE1057]; first | assumption | decide | omega⟩⟩
   ·have c1058 : l1040.Version = ver := bneF hb
    clear hb
    refine At.keep [8, 9] ?_; show At _ _ _ [(8, .pointer (some ⟨b1039, 0, none⟩)), (9, .int .i64 0)] _
    refine At.reg (L := [(0, false), (1, false), (2, false), (3, false)]) (by kernel_rfl) ?_
    refine Op.pures 4 [6, 7] (L' := []) (e' := [(6, .pointer (some ⟨b1039, 0, none⟩)), (7, .int .i64 0)]) (by kernel_rfl) ?_
    refine Op.goto 7 (by kernel_rfl) ?_
    refine At.ret (f := Tryz.f79) (v := .tuple #[.pointer (some ⟨b1039, 0, none⟩), .int .i64 0]) (by kernel_rfl) (by kernel_rfl) ?_
    have hE1059 : (verE t p ver) = (0 : Int) := by first | exact verE_1 (by assumption) | exact verE_2 (by assumption) (by assumption) (by assumption) (by assumption) | exact verE_3 (by assumption) (by assumption) (by assumption) | exact verE_4 (by assumption) (by assumption) (by assumption)
    exact hR _ _ _ _ s1033 ⟨rfl, rfl, .inr ⟨b1039, l1040, _, mb1042, rfl, hE1059, by assumption, hbt1045, hb1046, hd1047, ha1048⟩⟩
  ·refine Op.cast (e' := [(2, .int .i64 ver), (8, .pointer (some ⟨b1039, 0, none⟩)), (9, .int .i64 0), (22, .bool false)]) (by rw [hb]) ?_
   have c1060 : ¬ (ver ≥ (0 : Int)) := of_decide_eq_false hb
   clear hb
   refine Op.pures 7 [8, 9, 29] (L' := []) (e' := [(8, .pointer (some ⟨b1039, 0, none⟩)), (9, .int .i64 0), (29, .bool false)]) (by kernel_rfl) ?_
   refine Op.goto 3 (by kernel_rfl) ?_
   refine At.condF (c := .tmp 29) (by kernel_rfl) (by kernel_rfl) (by kernel_rfl) 6 (by kernel_rfl) ?_
   refine At.reg (L := [(0, false), (1, false), (2, false), (3, false)]) (by kernel_rfl) ?_
   refine Op.pures 4 [6, 7] (L' := []) (e' := [(6, .pointer (some ⟨b1039, 0, none⟩)), (7, .int .i64 0)]) (by kernel_rfl) ?_
   refine Op.goto 7 (by kernel_rfl) ?_
   refine At.ret (f := Tryz.f79) (v := .tuple #[.pointer (some ⟨b1039, 0, none⟩), .int .i64 0]) (by kernel_rfl) (by kernel_rfl) ?_
   have hE1061 : (verE t p ver) = (0 : Int) := by first | exact verE_1 (by assumption) | exact verE_2 (by assumption) (by assumption) (by assumption) (by assumption) | exact verE_3 (by assumption) (by assumption) (by assumption) | exact verE_4 (by assumption) (by assumption) (by assumption)
   exact hR _ _ _ _ s1033 ⟨rfl, rfl, .inr ⟨b1039, l1040, _, mb1042, rfl, hE1061, by assumption, hbt1045, hb1046, hd1047, ha1048⟩⟩
theorem parT (B : World) (h : Heap) (g : GH) (hg : Sub g h) (hG : Glob g) (b_t : Nat) (t : List Leaf) (o_t : VTree g b_t t) (p : List UInt8) (v_data : Value) (data : List UInt8) (h_data : SlR g 5 kU8 v_data data) (hp : p.length ≤ 1000000000) :
  Spec Tryz.prog B 72 #[.pointer (some ⟨b_t, 0, none⟩), .string (mkS p), v_data] h g [] (fun rv g' L' => g' = g ∧ L' = [] ∧ ((rv = .tuple #[.pointer none, .int .i64 (parE t p data)] ∧ (parE t p data) ≠ 0) ∨ ∃ b l v mb, rv = .tuple #[.pointer (some ⟨b, 0, none⟩), .int .i64 0] ∧ (parE t p data) = 0 ∧ findL t (parentOf p) = some l ∧ g b_t = some (.cells #[.map (some mb)] TT (0, 0)) ∧ g b = some (.cells (cellsL l v) TL (0, 0)) ∧ SlR g 5 kU8 v l.Data ∧ LeafAt g mb l b)) := by
 obtain ⟨a_data, n_data, rfl⟩ := h_data.form
 refine Spec.of_at (f := Tryz.f72) (e := [(0, .pointer (some ⟨b_t, 0, none⟩)), (1, .string (mkS p)), (2, .slice a_data data.length n_data)]) Tryz.func72 (by kernel_rfl) (Nat.le_of_ble_eq_true (by kernel_rfl)) (by kernel_rfl) (by kernel_rfl) ?_
 intro R hR
 have s0 := St.init hg
 refine At.reg (L := [(0, false), (1, false)]) (by kernel_rfl) ?_
 refine Op.pures 2 [0, 1, 2] (L' := []) (e' := [(0, .pointer (some ⟨b_t, 0, none⟩)), (1, .string (mkS p)), (2, .slice a_data data.length n_data)]) (by kernel_rfl) ?_
 refine Op.goto 1 (by kernel_rfl) ?_
 refine At.reg (L := [(0, false), (1, false), (2, false), (3, false), (4, false), (5, false), (6, false)]) (by kernel_rfl) ?_
 refine Op.pures 1 [0, 2, 13] (L' := [(1, false), (2, false), (3, false), (4, false), (5, false), (6, false)]) (e' := [(0, .pointer (some ⟨b_t, 0, none⟩)), (2, .slice a_data data.length n_data), (13, .string (mkS p))]) (by kernel_rfl) ?_
 refine Op.call0 (dst := some 14) (f := 36) (args := #[.string (mkS p)]) (by kernel_rfl) s0 (parentP _ _ _ s0.sub hG p (by ((try dsimp only) <;> (omega))) ) ?_
 rintro _ g1064 _ h1062 hle1065 s1063 ⟨rfl, hgg, rfl⟩; subst g1064; clear hle1065
 refine Op.pures 5 [0, 2, 8, 9] (L' := []) (e' := [(0, .pointer (some ⟨b_t, 0, none⟩)), (2, .slice a_data data.length n_data), (8, .string (mkS (parentOf p))), (9, .int .i64 (cutErr p))]) (by kernel_rfl) ?_
 refine Op.goto 2 (by kernel_rfl) ?_
 refine At.reg (L := [(0, false), (1, false), (2, false)]) (by kernel_rfl) ?_
 refine Op.pures 3 [0, 2, 8, 9, 17] (L' := []) (e' := [(0, .pointer (some ⟨b_t, 0, none⟩)), (2, .slice a_data data.length n_data), (8, .string (mkS (parentOf p))), (9, .int .i64 (cutErr p)), (17, .bool ((cutErr p) != (0 : Int)))]) (by kernel_rfl) ?_
 refine Op.goto 3 (by kernel_rfl) ?_
 refine At.cond (b := (cutErr p) != (0 : Int)) (c := .tmp 17) (by kernel_rfl) (by kernel_rfl) (by kernel_rfl) 4 6 (by kernel_rfl) (by kernel_rfl) (fun hb => ?_) (fun hb => ?_)
 ·have c1066 : ¬ ((cutErr p) = (0 : Int)) := bneT hb
  clear hb
  refine At.keep [9] ?_; show At _ _ _ [(9, .int .i64 (cutErr p))] _
  refine At.reg (L := [(0, false), (1, false), (2, false)]) (by kernel_rfl) ?_
  refine Op.pures 3 [6, 7] (L' := []) (e' := [(6, .pointer none), (7, .int .i64 (cutErr p))]) (by kernel_rfl) ?_
  refine Op.goto 5 (by kernel_rfl) ?_
  refine At.ret (f := Tryz.f72) (v := .tuple #[.pointer none, .int .i64 (cutErr p)]) (by kernel_rfl) (by kernel_rfl) ?_
  have hE1067 : (parE t p data) = (cutErr p) := by first | exact parE_1 (by assumption) | exact parE_2 (by assumption) (by assumption) | exact parE_3 (by assumption) (by assumption) (by assumption) | exact parE_4 (by assumption) (by assumption) (by assumption) (by assumption) | exact parE_5 (by assumption) (by assumption) (by assumption) (by assumption)
  exact hR _ _ _ _ s1063 ⟨rfl, rfl, .inl ⟨by rw [hE1067], by rw [hE1067]; first | assumption | decide | omega⟩⟩
 ·have c1068 : (cutErr p) = (0 : Int) := bneF hb
  clear hb
  refine At.keep [0, 2, 8] ?_; show At _ _ _ [(0, .pointer (some ⟨b_t, 0, none⟩)), (2, .slice a_data data.length n_data), (8, .string (mkS (parentOf p)))] _
  refine At.reg (L := [(0, false), (1, false), (2, false), (3, false)]) (by kernel_rfl) ?_
  refine Op.pures 4 [0, 8, 21] (L' := []) (e' := [(0, .pointer (some ⟨b_t, 0, none⟩)), (8, .string (mkS (parentOf p))), (21, .bool (decide ((data.length : Int) > (128 : Int))))]) (by kernel_rfl) ?_
  refine Op.goto 7 (by kernel_rfl) ?_
  refine At.cond (b := decide ((data.length : Int) > (128 : Int))) (c := .tmp 21) (by kernel_rfl) (by kernel_rfl) (by kernel_rfl) 8 10 (by kernel_rfl) (by kernel_rfl) (fun hb => ?_) (fun hb => ?_)
  ·have c1069 : (data.length : Int) > (128 : Int) := of_decide_eq_true hb
   clear hb
   refine At.keep [] ?_; show At _ _ _ [] _
   refine At.reg (L := [(0, false), (1, false)]) (by kernel_rfl) ?_
   refine Op.pures 2 [6, 7] (L' := []) (e' := [(6, .pointer none), (7, .int .i64 104)]) (by kernel_rfl) ?_
   refine Op.goto 5 (by kernel_rfl) ?_
   refine At.ret (f := Tryz.f72) (v := .tuple #[.pointer none, .int .i64 104]) (by kernel_rfl) (by kernel_rfl) ?_
   have hE1070 : (parE t p data) = (104 : Int) := by first | exact parE_1 (by assumption) | exact parE_2 (by assumption) (by assumption) | exact parE_3 (by assumption) (by assumption) (by assumption) | exact parE_4 (by assumption) (by assumption) (by assumption) (by assumption) | exact parE_5 (by assumption) (by assumption) (by assumption) (by assumption)
   exact hR _ _ _ _ s1063 ⟨rfl, rfl, .inl ⟨by rw [hE1070], by rw [hE1070]; first | assumption | decide | omega⟩⟩
  ·have c1071 : ¬ ((data.length : Int) > (128 : Int)) := of_decide_eq_false hb
   clear hb
   refine At.keep [0, 8] ?_; show At _ _ _ [(0, .pointer (some ⟨b_t, 0, none⟩)), (8, .string (mkS (parentOf p)))] _
   refine At.reg (L := [(0, false), (1, false), (2, false), (3, false), (4, false), (5, false), (6, false), (7, false), (8, false), (9, false), (10, false)]) (by kernel_rfl) ?_
   refine Op.pures 3 [8, 28] (L' := [(3, false), (4, false), (5, false), (6, false), (7, false), (8, false), (9, false), (10, false)]) (e' := [(8, .string (mkS (parentOf p))), (28, .pointer (some ⟨b_t, 0, none⟩))]) (by kernel_rfl) ?_
   obtain ⟨mb1072, hb1073, om1074⟩ := o_t
   have o_t : VTree g b_t t := ⟨mb1072, hb1073, om1074⟩
   refine Op.load (T := 126) (x := (.tmp 28)) (o := 0) (d := 29) (n := 1) (v := .map (some mb1072)) (by kernel_rfl) (by kernel_rfl) (by kernel_rfl) (s1063.sub _ _ hb1073) (by kernel_rfl) ?_
   refine Op.pures 1 [29, 30] (L' := [(5, false), (6, false), (7, false), (8, false), (9, false), (10, false)]) (e' := [(29, .map (some mb1072)), (30, .string (mkS (parentOf p)))]) (by kernel_rfl) ?_
   obtain ⟨es1075, clk1076, ks1077, hm1078, hR1079, hl1080, hp1081, hh1082, hk1083⟩ := VLm.open_ om1074
   rcases hk1083 (parentOf p) with ⟨hf1087, hl1088⟩ | ⟨b1084, l1085, v1086, hf1087, hl1088, hb1089, hd1090, ha1091⟩
   ·refine Op.lookNone (ok := true) (d := .string) (mt := 126) (x := (.tmp 29)) (ix := (.tmp 30)) (dst := 31) (k := (parentOf p)) (m := mb1072) (z := .pointer none) (by kernel_rfl) (by kernel_rfl) keyS (by kernel_rfl) (by kernel_rfl) (s1063.sub _ _ hm1078) hR1079 hl1088 ?_
    refine Op.pures 5 [10, 11] (L' := []) (e' := [(10, .pointer none), (11, .bool false)]) (by kernel_rfl) ?_
    refine Op.goto 11 (by kernel_rfl) ?_
    refine At.reg (L := [(0, false), (1, false), (2, false)]) (by kernel_rfl) ?_
    refine Op.pures 3 [10, 34] (L' := []) (e' := [(10, .pointer none), (34, .bool true)]) (by kernel_rfl) ?_
    refine Op.goto 12 (by kernel_rfl) ?_
    refine At.condT (c := .tmp 34) (by kernel_rfl) (by kernel_rfl) (by kernel_rfl) 13 (by kernel_rfl) ?_
    refine At.reg (L := [(0, false), (1, false)]) (by kernel_rfl) ?_
    refine Op.pures 2 [6, 7] (L' := []) (e' := [(6, .pointer none), (7, .int .i64 100)]) (by kernel_rfl) ?_
    refine Op.goto 14 (by kernel_rfl) ?_
    refine At.ret (f := Tryz.f72) (v := .tuple #[.pointer none, .int .i64 100]) (by kernel_rfl) (by kernel_rfl) ?_
    have hE1092 : (parE t p data) = (100 : Int) := by first | exact parE_1 (by assumption) | exact parE_2 (by assumption) (by assumption) | exact parE_3 (by assumption) (by assumption) (by assumption) | exact parE_4 (by assumption) (by assumption) (by assumption) (by assumption) | exact parE_5 (by assumption) (by assumption) (by assumption) (by assumption)
    exact hR _ _ _ _ s1063 ⟨rfl, rfl, .inl ⟨by rw [hE1092], by rw [hE1092]; first | assumption | decide | omega⟩⟩
   ·obtain ⟨a1093, n1094, rfl⟩ := hd1090.form
    refine Op.lookSome (ok := true) (d := .string) (mt := 126) (x := (.tmp 29)) (ix := (.tmp 30)) (dst := 31) (k := (parentOf p)) (m := mb1072) (v := .pointer (some ⟨b1084, 0, none⟩)) (z := .pointer none) (by kernel_rfl) (by kernel_rfl) keyS (by kernel_rfl) (by kernel_rfl) (s1063.sub _ _ hm1078) hR1079 hl1088 ?_
    refine Op.pures 5 [10, 11] (L' := []) (e' := [(10, .pointer (some ⟨b1084, 0, none⟩)), (11, .bool true)]) (by kernel_rfl) ?_
    refine Op.goto 11 (by kernel_rfl) ?_
    refine At.reg (L := [(0, false), (1, false), (2, false)]) (by kernel_rfl) ?_
    refine Op.pures 3 [10, 34] (L' := []) (e' := [(10, .pointer (some ⟨b1084, 0, none⟩)), (34, .bool false)]) (by kernel_rfl) ?_
    refine Op.goto 12 (by kernel_rfl) ?_
    refine At.condF (c := .tmp 34) (by kernel_rfl) (by kernel_rfl) (by kernel_rfl) 15 (by kernel_rfl) ?_
    refine At.reg (L := [(0, false), (1, false), (2, false), (3, false), (4, false), (5, false)]) (by kernel_rfl) ?_
    refine Op.pures 3 [10, 40] (L' := [(3, false), (4, false), (5, false)]) (e' := [(10, .pointer (some ⟨b1084, 0, none⟩)), (40, .pointer (some ⟨b1084, 3, none⟩))]) (by kernel_rfl) ?_
    refine Op.load (T := 3) (x := (.tmp 40)) (o := 3) (d := 41) (n := 1) (v := .int .i64 l1085.Owner) (by kernel_rfl) (by kernel_rfl) (by kernel_rfl) (s1063.sub _ _ hb1089) (by kernel_rfl) ?_
    refine Op.pures 2 [10, 37] (L' := []) (e' := [(10, .pointer (some ⟨b1084, 0, none⟩)), (37, .bool (l1085.Owner != ((-1) : Int)))]) (by kernel_rfl) ?_
    refine Op.goto 16 (by kernel_rfl) ?_
    refine At.cond (b := l1085.Owner != ((-1) : Int)) (c := .tmp 37) (by kernel_rfl) (by kernel_rfl) (by kernel_rfl) 17 19 (by kernel_rfl) (by kernel_rfl) (fun hb => ?_) (fun hb => ?_)
    ·have c1095 : ¬ (l1085.Owner = ((-1) : Int)) := bneT hb
     clear hb
     refine At.keep [] ?_; show At _ _ _ [] _
     refine At.reg (L := [(0, false), (1, false)]) (by kernel_rfl) ?_
     refine Op.pures 2 [6, 7] (L' := []) (e' := [(6, .pointer none), (7, .int .i64 105)]) (by kernel_rfl) ?_
     refine Op.goto 14 (by kernel_rfl) ?_
     refine At.ret (f := Tryz.f72) (v := .tuple #[.pointer none, .int .i64 105]) (by kernel_rfl) (by kernel_rfl) ?_
     have hE1096 : (parE t p data) = (105 : Int) := by first | exact parE_1 (by assumption) | exact parE_2 (by assumption) (by assumption) | exact parE_3 (by assumption) (by assumption) (by assumption) | exact parE_4 (by assumption) (by assumption) (by assumption) (by assumption) | exact parE_5 (by assumption) (by assumption) (by assumption) (by assumption)
     exact hR _ _ _ _ s1063 ⟨rfl, rfl, .inl ⟨by rw [hE1096], by rw [hE1096]; first | assumption | decide | omega⟩⟩
    ·have c1097 : l1085.Owner = ((-1) : Int) := bneF hb
     clear hb
     refine At.keep [10] ?_; show At _ _ _ [(10, .pointer (some ⟨b1084, 0, none⟩))] _
     refine At.reg (L := [(0, false), (1, false), (2, false)]) (by kernel_rfl) ?_
     refine Op.pures 3 [6, 7] (L' := []) (e' := [(6, .pointer (some ⟨b1084, 0, none⟩)), (7, .int .i64 0)]) (by kernel_rfl) ?_
     refine Op.goto 20 (by kernel_rfl) ?_
     refine At.ret (f := Tryz.f72) (v := .tuple #[.pointer (some ⟨b1084, 0, none⟩), .int .i64 0]) (by kernel_rfl) (by kernel_rfl) ?_
     have hE1098 : (parE t p data) = (0 : Int) := by first | exact parE_1 (by assumption) | exact parE_2 (by assumption) (by assumption) | exact parE_3 (by assumption) (by assumption) (by assumption) | exact parE_4 (by assumption) (by assumption) (by assumption) (by assumption) | exact parE_5 (by assumption) (by assumption) (by assumption) (by assumption)
     exact hR _ _ _ _ s1063 ⟨rfl, rfl, .inr ⟨b1084, l1085, _, mb1072, rfl, hE1098, by assumption, hb1073, hb1089, hd1090, ha1091⟩⟩
end Go.Proofs.YtmjebehhpojihaaGreatDoor.Sw
namespace Go.Proofs.YtmjebehhpojihaaGreatDoor.Sw
open Go
set_option maxRecDepth 100000
set_option linter.unusedVariables false
set_option linter.unusedSimpArgs false
set_option linter.deprecated false
theorem cloneB (B : World) (h : Heap) (g : GH) (hg : Sub g h) (hG : Glob g) (v_s : Value) (s : List UInt8) (h_s : SlR g 5 kU8 v_s s) (hl : s.length ≤ 1000000000) :
  Spec Tryz.prog B 74 #[v_s] h g [] (fun rv g' L' => ∃ v0 k0, rv = v0 ∧ Row 5 kU8 g' v0 s k0 ∧ g' = g ∧ L' = [k0]) := by
 obtain ⟨a_s, n_s, rfl⟩ := h_s.form
 refine Spec.of_at (f := Tryz.f74) (e := [(0, .slice a_s s.length n_s)]) Tryz.func74 (by kernel_rfl) (Nat.le_of_ble_eq_true (by kernel_rfl)) (by kernel_rfl) (by kernel_rfl) ?_
 intro R hR
 have s0 := St.init hg
 refine At.reg (L := [(0, false)]) (by kernel_rfl) ?_
 refine Op.pures 1 [0] (L' := []) (e' := [(0, .slice a_s s.length n_s)]) (by kernel_rfl) ?_
 refine Op.goto 1 (by kernel_rfl) ?_
 refine At.reg (L := [(0, false), (1, false)]) (by kernel_rfl) ?_
 refine Op.pures 1 [0, 3] (L' := [(1, false)]) (e' := [(0, .slice a_s s.length n_s), (3, .slice a_s s.length n_s)]) (by kernel_rfl) ?_
 rcases a_s with _ | a1001
 ·refine Op.val (dst := some 4) (v := .bool true) (v' := .bool true) (by kernel_rfl) rfl ?_
  refine Op.goto 2 (by kernel_rfl) ?_
  refine At.condT (c := .tmp 4) (by kernel_rfl) (by kernel_rfl) (by kernel_rfl) 3 (by kernel_rfl) ?_
  refine At.reg (L := [(0, false)]) (by kernel_rfl) ?_
  refine Op.pures 1 [2] (L' := []) (e' := [(2, .slice none 0 0)]) (by kernel_rfl) ?_
  refine Op.goto 4 (by kernel_rfl) ?_
  have R1002 := Row.zero 5 kU8 g none
  have s1003 : St h g (ids []) g ([] :: []) h := St.flat (L := []) rfl s0
  refine At.ret (f := Tryz.f74) (v := .slice none 0 0) (by kernel_rfl) (by kernel_rfl) ?_
  refine hR _ _ _ _ s1003 ⟨(.slice none 0 0), [], ?_, ?_, rfl, rfl⟩
  ·exact rfl
  ·exact rowEq R1002 (by exact (SlR.none_nil h_s).symm)
 ·refine Op.val (dst := some 4) (v := .bool false) (v' := .bool false) (by kernel_rfl) rfl ?_
  refine Op.goto 2 (by kernel_rfl) ?_
  refine At.condF (c := .tmp 4) (by kernel_rfl) (by kernel_rfl) (by kernel_rfl) 5 (by kernel_rfl) ?_
  refine At.reg (L := [(0, false), (1, false), (2, false), (3, false)]) (by kernel_rfl) ?_
  refine Op.lit (T := 29) (len := 0) (parts := #[]) (dst := 5) (E := 5) (ps := []) (cs := #[]) (by kernel_rfl) (by kernel_rfl) (by kernel_rfl) s0 ?_
  intro b1004 h1005 s1006
  refine Op.pures 1 [5, 6] (L' := [(2, false), (3, false)]) (e' := [(5, .slice (some ⟨b1004, 0, none⟩) 0 0), (6, .slice (some a1001) s.length n_s)]) (by kernel_rfl) ?_
  have R1007 : Row 5 kU8 g (.slice (some ⟨b1004, 0, none⟩) 0 0) ([] : List UInt8) [(b1004, Obj.cells #[] 5 (0, 0))] := Row.lit (by kernel_rfl) (by unfold maxLen; decide) (by kernel_rfl) Reads.nil
  obtain ⟨ns1008, hs1009, hr1010⟩ := Src.slice (P := Tryz.prog) (h_s.toH s1006.sub)
  refine Op.append (x := (.tmp 5)) (y := (.tmp 6)) (t := 29) (t' := 29) (dst := 7) (E := 5) (by_ := 1) (d := kU8) (by kernel_rfl) (by kernel_rfl) (by kernel_rfl) (by kernel_rfl) rfl R1007 s1006 0 rfl hs1009 (ys := s) hr1010 rfl (by (simp only [List.length_nil]; omega)) (fun _ _ _ => trivial) ?_
  intro v1011 ch1012 h1013 R1014 s1015 nn1016
  obtain ⟨a1017, n1018, rfl⟩ := R1014.form
  refine Op.pures 1 [2] (L' := []) (e' := [(2, .slice a1017 ((([] : List UInt8) ++ s).length) n1018)]) (by kernel_rfl) ?_
  refine Op.goto 6 (by kernel_rfl) ?_
  refine At.ret (f := Tryz.f74) (v := .slice a1017 ((([] : List UInt8) ++ s).length) n1018) (by kernel_rfl) (by kernel_rfl) ?_
  refine hR _ _ _ _ s1015 ⟨(.slice a1017 ((([] : List UInt8) ++ s).length) n1018), ch1012, ?_, ?_, rfl, rfl⟩
  ·exact rfl
  ·exact rowEq R1014 (by (simp; done))
theorem clonedT (B : World) (h : Heap) (g : GH) (hg : Sub g h) (hG : Glob g) (l : Leaf) (v_l_1 : Value) (h_l_1 : SlR g 5 kU8 v_l_1 l.Data) (b_l : Nat) (hb_l : g b_l = some (.cells #[.string (mkS l.Path), v_l_1, .int .i64 l.Version, .int .i64 l.Owner, .int .i64 l.Next, .int .i64 l.Born] 59 (0, 0))) (hl : l.Data.length ≤ 1000000000) :
  Spec Tryz.prog B 76 #[.pointer (some ⟨b_l, 0, none⟩)] h g [] (fun rv g' L' => ∃ v0 k0_0, rv = .agg #[.string (mkS l.Path), v0, .int .i64 l.Version, .int .i64 l.Owner, .int .i64 l.Next, .int .i64 l.Born] ∧ Row 5 kU8 g' v0 l.Data k0_0 ∧ g' = g ∧ L' = [k0_0]) := by
 obtain ⟨a_l_1, n_l_1, rfl⟩ := h_l_1.form
 refine Spec.of_at (f := Tryz.f76) (e := [(0, .pointer (some ⟨b_l, 0, none⟩))]) Tryz.func76 (by kernel_rfl) (Nat.le_of_ble_eq_true (by kernel_rfl)) (by kernel_rfl) (by kernel_rfl) ?_
 intro R hR
 have s0 := St.init hg
 refine At.reg (L := [(0, false)]) (by kernel_rfl) ?_
 refine Op.alloc (T := 59) (dst := 2) (cs := #[.string (mkS []), .slice none 0 0, .int .i64 0, .int .i64 0, .int .i64 0, .int .i64 0]) (by kernel_rfl) (by kernel_rfl) s0 ?_
 intro b1019 h1020 s1021
 refine Op.goto 1 (by kernel_rfl) ?_
 refine At.reg (L := [(0, false), (1, false), (2, false), (3, false), (4, false)]) (by kernel_rfl) ?_
 refine Op.pures 2 [0, 2, 5] (L' := [(2, false), (3, false), (4, false)]) (e' := [(0, .pointer (some ⟨b_l, 0, none⟩)), (2, .pointer (some ⟨b1019, 0, none⟩)), (5, .pointer (some ⟨b_l, 0, none⟩))]) (by kernel_rfl) ?_
 refine Op.loadA (T := 59) (x := (.tmp 5)) (o := 0) (d := 6) (n := 6) (vs := [.string (mkS l.Path), .slice a_l_1 l.Data.length n_l_1, .int .i64 l.Version, .int .i64 l.Owner, .int .i64 l.Next, .int .i64 l.Born]) (by kernel_rfl) (by kernel_rfl) (by kernel_rfl) (s1021.sub _ _ hb_l) (by kernel_rfl) rfl ?_
 refine Op.alloc (T := 59) (dst := 3) (cs := #[.string (mkS []), .slice none 0 0, .int .i64 0, .int .i64 0, .int .i64 0, .int .i64 0]) (by kernel_rfl) (by kernel_rfl) s1021 ?_
 intro b1022 h1023 s1024
 refine Op.store (T := 59) (x := (.tmp 3)) (y := (.tmp 6)) (b := b1022) (o := 0) (vs := [.string (mkS l.Path), .slice a_l_1 l.Data.length n_l_1, .int .i64 l.Version, .int .i64 l.Owner, .int .i64 l.Next, .int .i64 l.Born]) (a? := true) (n := 6) (by kernel_rfl) (by kernel_rfl) (by kernel_rfl) (by kernel_rfl) rfl (by simp [Value.oneCell']) s1024 0 rfl (Nat.le_of_ble_eq_true (by kernel_rfl)) (cs := #[.string (mkS []), .slice none 0 0, .int .i64 0, .int .i64 0, .int .i64 0, .int .i64 0]) (cs' := #[.string (mkS l.Path), .slice a_l_1 l.Data.length n_l_1, .int .i64 l.Version, .int .i64 l.Owner, .int .i64 l.Next, .int .i64 l.Born]) (by kernel_rfl) (fun _ => trivial) ?_
 intro h1025 s1026
 refine Op.goto 2 (by kernel_rfl) ?_
 refine At.reg (L := [(0, false), (1, false), (2, false), (3, false), (4, false), (5, false), (6, false)]) (by kernel_rfl) ?_
 refine Op.pures 3 [2, 3, 9] (L' := [(3, false), (4, false), (5, false), (6, false)]) (e' := [(2, .pointer (some ⟨b1019, 0, none⟩)), (3, .pointer (some ⟨b1022, 0, none⟩)), (9, .pointer (some ⟨b_l, 1, none⟩))]) (by kernel_rfl) ?_
 refine Op.load (T := 29) (x := (.tmp 9)) (o := 1) (d := 10) (n := 1) (v := .slice a_l_1 l.Data.length n_l_1) (by kernel_rfl) (by kernel_rfl) (by kernel_rfl) (s1026.sub _ _ hb_l) (by kernel_rfl) ?_
 refine Op.call0 (dst := some 11) (f := 74) (args := #[.slice a_l_1 l.Data.length n_l_1]) (by kernel_rfl) s1026 (cloneB _ _ _ s1026.sub hG _ _ h_l_1 (by ((try dsimp only) <;> (omega))) ) ?_
 rintro _ g1034 _ h1027 hle1035 s1028 ⟨v1029, ch1030, rfl, R1031, hgg, rfl⟩; subst g1034; clear hle1035
 obtain ⟨a1032, n1033, rfl⟩ := R1031.form
 refine Op.pures 1 [2, 3, 11, 12] (L' := [(6, false)]) (e' := [(2, .pointer (some ⟨b1019, 0, none⟩)), (3, .pointer (some ⟨b1022, 0, none⟩)), (11, .slice a1032 ((l.Data).length) n1033), (12, .pointer (some ⟨b1022, 1, none⟩))]) (by kernel_rfl) ?_
 refine Op.store (T := 29) (x := (.tmp 12)) (y := (.tmp 11)) (b := b1022) (o := 1) (vs := [.slice a1032 ((l.Data).length) n1033]) (a? := false) (n := 1) (by kernel_rfl) (by kernel_rfl) (by kernel_rfl) (by kernel_rfl) rfl (by simp [Value.oneCell']) s1028 1 rfl (Nat.le_of_ble_eq_true (by kernel_rfl)) (cs := #[.string (mkS l.Path), .slice a_l_1 l.Data.length n_l_1, .int .i64 l.Version, .int .i64 l.Owner, .int .i64 l.Next, .int .i64 l.Born]) (cs' := #[.string (mkS l.Path), .slice a1032 ((l.Data).length) n1033, .int .i64 l.Version, .int .i64 l.Owner, .int .i64 l.Next, .int .i64 l.Born]) (by kernel_rfl) (fun _ => trivial) ?_
 intro h1036 s1037
 refine Op.goto 3 (by kernel_rfl) ?_
 refine At.reg (L := [(0, false), (1, false)]) (by kernel_rfl) ?_
 refine Op.loadA (T := 59) (x := (.tmp 3)) (o := 0) (d := 13) (n := 6) (vs := [.string (mkS l.Path), .slice a1032 ((l.Data).length) n1033, .int .i64 l.Version, .int .i64 l.Owner, .int .i64 l.Next, .int .i64 l.Born]) (by kernel_rfl) (by kernel_rfl) (by kernel_rfl) (s1037.chunk 1 rfl) (by kernel_rfl) rfl ?_
 refine Op.store (T := 59) (x := (.tmp 2)) (y := (.tmp 13)) (b := b1019) (o := 0) (vs := [.string (mkS l.Path), .slice a1032 ((l.Data).length) n1033, .int .i64 l.Version, .int .i64 l.Owner, .int .i64 l.Next, .int .i64 l.Born]) (a? := true) (n := 6) (by kernel_rfl) (by kernel_rfl) (by kernel_rfl) (by kernel_rfl) rfl (by simp [Value.oneCell']) s1037 2 rfl (Nat.le_of_ble_eq_true (by kernel_rfl)) (cs := #[.string (mkS []), .slice none 0 0, .int .i64 0, .int .i64 0, .int .i64 0, .int .i64 0]) (cs' := #[.string (mkS l.Path), .slice a1032 ((l.Data).length) n1033, .int .i64 l.Version, .int .i64 l.Owner, .int .i64 l.Next, .int .i64 l.Born]) (by kernel_rfl) (fun _ => trivial) ?_
 intro h1038 s1039
 refine Op.goto 4 (by kernel_rfl) ?_
 refine At.retM (f := Tryz.f76) (vs := [.agg #[.string (mkS l.Path), .slice a1032 ((l.Data).length) n1033, .int .i64 l.Version, .int .i64 l.Owner, .int .i64 l.Next, .int .i64 l.Born]]) (rl := [.cell 2 59]) (v := .agg #[.string (mkS l.Path), .slice a1032 ((l.Data).length) n1033, .int .i64 l.Version, .int .i64 l.Owner, .int .i64 l.Next, .int .i64 l.Born]) (by kernel_rfl) (by kernel_rfl) ⟨⟨_, _, rfl, resAgg (n := 6) (by kernel_rfl) (s1039.chunk 2 rfl) (by kernel_rfl) rfl⟩, trivial⟩ rfl ?_
 have s1040 : St h g (ids []) g [[(b1022, Obj.cells #[.string (mkS l.Path), .slice a1032 ((l.Data).length) n1033, .int .i64 l.Version, .int .i64 l.Owner, .int .i64 l.Next, .int .i64 l.Born] 59 (0, 0))], [(b1019, Obj.cells #[.string (mkS l.Path), .slice a1032 ((l.Data).length) n1033, .int .i64 l.Version, .int .i64 l.Owner, .int .i64 l.Next, .int .i64 l.Born] 59 (0, 0))], ch1030] h1038 := (((s1039.front 0 rfl).front 2 rfl).front 2 rfl)
 have s1041 : St h g (ids []) g [ch1030] h1038 := (s1040).drop.drop
 refine hR _ _ _ _ s1041 ⟨(.slice a1032 ((l.Data).length) n1033), ch1030, ?_, ?_, rfl, rfl⟩
 ·exact (by rfl)
 ·exact rowEq R1031 (by rfl)
theorem getF (B : World) (h : Heap) (g : GH) (hg : Sub g h) (hG : Glob g) (b_t : Nat) (t : List Leaf) (o_t : VTree g b_t t) (p : List UInt8) (hB : TreeB t) (hp : p.length ≤ 1000000000) :
  Spec Tryz.prog B 34 #[.pointer (some ⟨b_t, 0, none⟩), .string (mkS p)] h g [] (fun rv g' L' => ∃ v0 k0_0, rv = .tuple #[.agg #[.string (mkS (((getT t p).1).Path)), v0, .int .i64 (((getT t p).1).Version), .int .i64 (((getT t p).1).Owner), .int .i64 (((getT t p).1).Next), .int .i64 (((getT t p).1).Born)], .int .i64 ((getT t p).2)] ∧ Row 5 kU8 g' v0 (((getT t p).1).Data) k0_0 ∧ g' = g ∧ L' = [k0_0]) := by
 refine Spec.of_at (f := Tryz.f34) (e := [(0, .pointer (some ⟨b_t, 0, none⟩)), (1, .string (mkS p))]) Tryz.func34 (by kernel_rfl) (Nat.le_of_ble_eq_true (by kernel_rfl)) (by kernel_rfl) (by kernel_rfl) ?_
 intro R hR
 have s0 := St.init hg
 refine At.reg (L := [(0, false), (1, false)]) (by kernel_rfl) ?_
 refine Op.alloc (T := 59) (dst := 4) (cs := #[.string (mkS []), .slice none 0 0, .int .i64 0, .int .i64 0, .int .i64 0, .int .i64 0]) (by kernel_rfl) (by kernel_rfl) s0 ?_
 intro b1042 h1043 s1044
 refine Op.pures 1 [0, 1, 4] (L' := []) (e' := [(0, .pointer (some ⟨b_t, 0, none⟩)), (1, .string (mkS p)), (4, .pointer (some ⟨b1042, 0, none⟩))]) (by kernel_rfl) ?_
 refine Op.goto 1 (by kernel_rfl) ?_
 refine At.reg (L := [(0, false), (1, false), (2, false), (3, false), (4, false), (5, false), (6, false), (7, false)]) (by kernel_rfl) ?_
 refine Op.pures 2 [4, 9, 10] (L' := [(2, false), (3, false), (4, false), (5, false), (6, false), (7, false)]) (e' := [(4, .pointer (some ⟨b1042, 0, none⟩)), (9, .pointer (some ⟨b_t, 0, none⟩)), (10, .string (mkS p))]) (by kernel_rfl) ?_
 refine Op.call0 (dst := some 11) (f := 81) (args := #[.pointer (some ⟨b_t, 0, none⟩), .string (mkS p)]) (by kernel_rfl) s1044 (findT _ _ _ s1044.sub hG b_t t o_t p (by ((try dsimp only) <;> (omega))) ) ?_
 rintro v1047 g1049 _ h1045 hle1050 s1046 ⟨hgg, rfl, hp1048⟩; subst g1049; clear hle1050
 rcases hp1048 with ⟨rfl, hne1051⟩ | ⟨b1052, l1053, v1054, mb1055, rfl, hE1056, hF1057, hbt1058, hb1059, hd1060, ha1061⟩
 ·have k1062 : ((findE t p) != (0 : Int)) = true := bne_iff_ne.2 hne1051
  have k1063 : ((findE t p) == (0 : Int)) = false := beq_eq_false_iff_ne.2 hne1051
  refine Op.pures 5 [4, 6, 7] (L' := []) (e' := [(4, .pointer (some ⟨b1042, 0, none⟩)), (6, .pointer none), (7, .int .i64 (findE t p))]) (by kernel_rfl) ?_
  refine Op.goto 2 (by kernel_rfl) ?_
  refine At.reg (L := [(0, false), (1, false)]) (by kernel_rfl) ?_
  refine Op.pures 2 [4, 6, 7, 15] (L' := []) (e' := [(4, .pointer (some ⟨b1042, 0, none⟩)), (6, .pointer none), (7, .int .i64 (findE t p)), (15, .bool ((findE t p) != (0 : Int)))]) (by kernel_rfl) ?_
  refine Op.goto 3 (by kernel_rfl) ?_
  refine At.cond (b := (findE t p) != (0 : Int)) (c := .tmp 15) (by kernel_rfl) (by kernel_rfl) (by kernel_rfl) 4 6 (by kernel_rfl) (by kernel_rfl) (fun hb => ?_) (fun hb => ?_)
  ·have c1064 : ¬ ((findE t p) = (0 : Int)) := bneT hb
   clear hb
   refine At.keep [4, 7] ?_; show At _ _ _ [(4, .pointer (some ⟨b1042, 0, none⟩)), (7, .int .i64 (findE t p))] _
   refine At.reg (L := [(0, false), (1, false), (2, false), (3, false)]) (by kernel_rfl) ?_
   refine Op.pures 2 [4, 16, 17] (L' := [(2, false), (3, false)]) (e' := [(4, .pointer (some ⟨b1042, 0, none⟩)), (16, .agg #[.string (mkS []), .slice none 0 0, .int .i64 0, .int .i64 0, .int .i64 0, .int .i64 0]), (17, .int .i64 (findE t p))]) (by kernel_rfl) ?_
   refine Op.store (T := 59) (x := (.tmp 4)) (y := (.tmp 16)) (b := b1042) (o := 0) (vs := [.string (mkS []), .slice none 0 0, .int .i64 0, .int .i64 0, .int .i64 0, .int .i64 0]) (a? := true) (n := 6) (by kernel_rfl) (by kernel_rfl) (by kernel_rfl) (by kernel_rfl) rfl (by simp [Value.oneCell']) s1046 0 rfl (Nat.le_of_ble_eq_true (by kernel_rfl)) (cs := #[.string (mkS []), .slice none 0 0, .int .i64 0, .int .i64 0, .int .i64 0, .int .i64 0]) (cs' := #[.string (mkS []), .slice none 0 0, .int .i64 0, .int .i64 0, .int .i64 0, .int .i64 0]) (by kernel_rfl) (fun _ => trivial) ?_
   intro h1065 s1066
   refine Op.pures 1 [4, 5] (L' := []) (e' := [(4, .pointer (some ⟨b1042, 0, none⟩)), (5, .int .i64 (findE t p))]) (by kernel_rfl) ?_
   refine Op.goto 5 (by kernel_rfl) ?_
   have R1067 := Row.zero 5 kU8 g none
   have s1068 : St h g (ids []) g ([] :: [[(b1042, Obj.cells #[.string (mkS []), .slice none 0 0, .int .i64 0, .int .i64 0, .int .i64 0, .int .i64 0] 59 (0, 0))]]) h1065 := St.flat (L := [[(b1042, Obj.cells #[.string (mkS []), .slice none 0 0, .int .i64 0, .int .i64 0, .int .i64 0, .int .i64 0] 59 (0, 0))]]) rfl s1066
   refine At.retM (f := Tryz.f34) (vs := [.agg #[.string (mkS []), .slice none 0 0, .int .i64 0, .int .i64 0, .int .i64 0, .int .i64 0], .int .i64 (findE t p)]) (rl := [.cell 4 59, .tmp 5]) (v := .tuple #[.agg #[.string (mkS []), .slice none 0 0, .int .i64 0, .int .i64 0, .int .i64 0, .int .i64 0], .int .i64 (findE t p)]) (by kernel_rfl) (by kernel_rfl) ⟨⟨_, _, rfl, resAgg (n := 6) (by kernel_rfl) (s1068.chunk 1 rfl) (by kernel_rfl) rfl⟩, rfl, trivial⟩ rfl ?_
   have s1069 : St h g (ids []) g [[(b1042, Obj.cells #[.string (mkS []), .slice none 0 0, .int .i64 0, .int .i64 0, .int .i64 0, .int .i64 0] 59 (0, 0))], []] h1065 := ((s1068.front 0 rfl).front 1 rfl)
   have s1070 : St h g (ids []) g [[]] h1065 := (s1069).drop
   refine hR _ _ _ _ s1070 ⟨(.slice none 0 0), [], ?_, ?_, rfl, rfl⟩
   ·exact eqT2 (by (rw [getT_1 (by assumption)]; rfl)) (eqI (by (rw [getT_1 (by assumption)]; done)))
   ·exact rowEq R1067 (by (rw [getT_1 (by assumption)]; rfl))
  ·exact Bool.noConfusion (k1062.symm.trans hb)
 ·obtain ⟨a1071, n1072, rfl⟩ := hd1060.form
  refine Op.pures 5 [4, 6, 7] (L' := []) (e' := [(4, .pointer (some ⟨b1042, 0, none⟩)), (6, .pointer (some ⟨b1052, 0, none⟩)), (7, .int .i64 0)]) (by kernel_rfl) ?_
  refine Op.goto 2 (by kernel_rfl) ?_
  refine At.reg (L := [(0, false), (1, false)]) (by kernel_rfl) ?_
  refine Op.pures 2 [4, 6, 7, 15] (L' := []) (e' := [(4, .pointer (some ⟨b1042, 0, none⟩)), (6, .pointer (some ⟨b1052, 0, none⟩)), (7, .int .i64 0), (15, .bool false)]) (by kernel_rfl) ?_
  refine Op.goto 3 (by kernel_rfl) ?_
  refine At.condF (c := .tmp 15) (by kernel_rfl) (by kernel_rfl) (by kernel_rfl) 6 (by kernel_rfl) ?_
  refine At.reg (L := [(0, false), (1, false), (2, false), (3, false)]) (by kernel_rfl) ?_
  refine Op.pures 1 [4, 18] (L' := [(1, false), (2, false), (3, false)]) (e' := [(4, .pointer (some ⟨b1042, 0, none⟩)), (18, .pointer (some ⟨b1052, 0, none⟩))]) (by kernel_rfl) ?_
  refine Op.call0 (dst := some 19) (f := 76) (args := #[.pointer (some ⟨b1052, 0, none⟩)]) (by kernel_rfl) s1046 (clonedT _ _ _ s1046.sub hG l1053 _ hd1060 b1052 hb1059 (by ((try dsimp only) <;> ((have := TreeB.data hB (by assumption); omega)))) ) ?_
  rintro _ g1080 _ h1073 hle1081 s1074 ⟨v1075, ch1076, rfl, R1077, hgg, rfl⟩; subst g1080; clear hle1081
  obtain ⟨a1078, n1079, rfl⟩ := R1077.form
  refine Op.store (T := 59) (x := (.tmp 4)) (y := (.tmp 19)) (b := b1042) (o := 0) (vs := [.string (mkS l1053.Path), .slice a1078 ((l1053.Data).length) n1079, .int .i64 l1053.Version, .int .i64 l1053.Owner, .int .i64 l1053.Next, .int .i64 l1053.Born]) (a? := true) (n := 6) (by kernel_rfl) (by kernel_rfl) (by kernel_rfl) (by kernel_rfl) rfl (by simp [Value.oneCell']) s1074 1 rfl (Nat.le_of_ble_eq_true (by kernel_rfl)) (cs := #[.string (mkS []), .slice none 0 0, .int .i64 0, .int .i64 0, .int .i64 0, .int .i64 0]) (cs' := #[.string (mkS l1053.Path), .slice a1078 ((l1053.Data).length) n1079, .int .i64 l1053.Version, .int .i64 l1053.Owner, .int .i64 l1053.Next, .int .i64 l1053.Born]) (by kernel_rfl) (fun _ => trivial) ?_
  intro h1082 s1083
  refine Op.pures 1 [4, 5] (L' := []) (e' := [(4, .pointer (some ⟨b1042, 0, none⟩)), (5, .int .i64 0)]) (by kernel_rfl) ?_
  refine Op.goto 7 (by kernel_rfl) ?_
  refine At.retM (f := Tryz.f34) (vs := [.agg #[.string (mkS l1053.Path), .slice a1078 ((l1053.Data).length) n1079, .int .i64 l1053.Version, .int .i64 l1053.Owner, .int .i64 l1053.Next, .int .i64 l1053.Born], .int .i64 0]) (rl := [.cell 4 59, .tmp 5]) (v := .tuple #[.agg #[.string (mkS l1053.Path), .slice a1078 ((l1053.Data).length) n1079, .int .i64 l1053.Version, .int .i64 l1053.Owner, .int .i64 l1053.Next, .int .i64 l1053.Born], .int .i64 0]) (by kernel_rfl) (by kernel_rfl) ⟨⟨_, _, rfl, resAgg (n := 6) (by kernel_rfl) (s1083.chunk 1 rfl) (by kernel_rfl) rfl⟩, rfl, trivial⟩ rfl ?_
  have s1084 : St h g (ids []) g [[(b1042, Obj.cells #[.string (mkS l1053.Path), .slice a1078 ((l1053.Data).length) n1079, .int .i64 l1053.Version, .int .i64 l1053.Owner, .int .i64 l1053.Next, .int .i64 l1053.Born] 59 (0, 0))], ch1076] h1082 := ((s1083.front 0 rfl).front 1 rfl)
  have s1085 : St h g (ids []) g [ch1076] h1082 := (s1084).drop
  refine hR _ _ _ _ s1085 ⟨(.slice a1078 ((l1053.Data).length) n1079), ch1076, ?_, ?_, rfl, rfl⟩
  ·exact eqT2 (by (rw [getT_2 (by assumption) (by assumption)]; done)) (eqI (by (rw [getT_2 (by assumption) (by assumption)]; done)))
  ·exact rowEq R1077 (by (rw [getT_2 (by assumption) (by assumption)]; done))
theorem kidsG (B : World) (h : Heap) (g : GH) (hg : Sub g h) (hG : Glob g) (b_t : Nat) (t : List Leaf) (o_t : VTree g b_t t) (p : List UInt8) (hB : TreeB t) (hp : p.length ≤ 1000000000) :
  Spec Tryz.prog B 37 #[.pointer (some ⟨b_t, 0, none⟩), .string (mkS p)] h g [] (fun rv g' L' => ∃ v0 k0, rv = .tuple #[v0, .int .i64 ((kidsT t p).2)] ∧ Row 9 kStr g' v0 ((kidsT t p).1) k0 ∧ g' = g ∧ L' = [k0]) := by
 refine Spec.of_at (f := Tryz.f37) (e := [(0, .pointer (some ⟨b_t, 0, none⟩)), (1, .string (mkS p))]) Tryz.func37 (by kernel_rfl) (Nat.le_of_ble_eq_true (by kernel_rfl)) (by kernel_rfl) (by kernel_rfl) ?_
 intro R hR
 have s0 := St.init hg
 refine At.reg (L := [(0, false), (1, false)]) (by kernel_rfl) ?_
 refine Op.pures 2 [0, 1] (L' := []) (e' := [(0, .pointer (some ⟨b_t, 0, none⟩)), (1, .string (mkS p))]) (by kernel_rfl) ?_
 refine Op.goto 1 (by kernel_rfl) ?_
 refine At.reg (L := [(0, false), (1, false), (2, false), (3, false), (4, false), (5, false), (6, false), (7, false)]) (by kernel_rfl) ?_
 refine Op.pures 2 [0, 1, 9, 10] (L' := [(2, false), (3, false), (4, false), (5, false), (6, false), (7, false)]) (e' := [(0, .pointer (some ⟨b_t, 0, none⟩)), (1, .string (mkS p)), (9, .pointer (some ⟨b_t, 0, none⟩)), (10, .string (mkS p))]) (by kernel_rfl) ?_
 refine Op.call0 (dst := some 11) (f := 81) (args := #[.pointer (some ⟨b_t, 0, none⟩), .string (mkS p)]) (by kernel_rfl) s0 (findT _ _ _ s0.sub hG b_t t o_t p (by ((try dsimp only) <;> (omega))) ) ?_
 rintro v1088 g1090 _ h1086 hle1091 s1087 ⟨hgg, rfl, hp1089⟩; subst g1090; clear hle1091
 rcases hp1089 with ⟨rfl, hne1092⟩ | ⟨b1093, l1094, v1095, mb1096, rfl, hE1097, hF1098, hbt1099, hb1100, hd1101, ha1102⟩
 ·have k1103 : ((findE t p) != (0 : Int)) = true := bne_iff_ne.2 hne1092
  have k1104 : ((findE t p) == (0 : Int)) = false := beq_eq_false_iff_ne.2 hne1092
  refine Op.pures 5 [0, 1, 7] (L' := []) (e' := [(0, .pointer (some ⟨b_t, 0, none⟩)), (1, .string (mkS p)), (7, .int .i64 (findE t p))]) (by kernel_rfl) ?_
  refine Op.goto 2 (by kernel_rfl) ?_
  refine At.reg (L := [(0, false), (1, false)]) (by kernel_rfl) ?_
  refine Op.pures 2 [0, 1, 7, 15] (L' := []) (e' := [(0, .pointer (some ⟨b_t, 0, none⟩)), (1, .string (mkS p)), (7, .int .i64 (findE t p)), (15, .bool ((findE t p) != (0 : Int)))]) (by kernel_rfl) ?_
  refine Op.goto 3 (by kernel_rfl) ?_
  refine At.cond (b := (findE t p) != (0 : Int)) (c := .tmp 15) (by kernel_rfl) (by kernel_rfl) (by kernel_rfl) 4 6 (by kernel_rfl) (by kernel_rfl) (fun hb => ?_) (fun hb => ?_)
  ·have c1105 : ¬ ((findE t p) = (0 : Int)) := bneT hb
   clear hb
   refine At.keep [7] ?_; show At _ _ _ [(7, .int .i64 (findE t p))] _
   refine At.reg (L := [(0, false), (1, false), (2, false)]) (by kernel_rfl) ?_
   refine Op.pures 3 [4, 5] (L' := []) (e' := [(4, .slice none 0 0), (5, .int .i64 (findE t p))]) (by kernel_rfl) ?_
   refine Op.goto 5 (by kernel_rfl) ?_
   have R1106 := Row.zero 9 kStr g none
   have s1107 : St h g (ids []) g ([] :: []) h1086 := St.flat (L := []) rfl s1087
   refine At.ret (f := Tryz.f37) (v := .tuple #[.slice none 0 0, .int .i64 (findE t p)]) (by kernel_rfl) (by kernel_rfl) ?_
   refine hR _ _ _ _ s1107 ⟨(.slice none 0 0), [], ?_, ?_, rfl, rfl⟩
   ·exact eqT2 rfl (eqI (by (rw [kidsT_1 (by assumption)]; done)))
   ·exact rowEq R1106 (by (rw [kidsT_1 (by assumption)]; done))
  ·exact Bool.noConfusion (k1103.symm.trans hb)
 ·obtain ⟨a1108, n1109, rfl⟩ := hd1101.form
  refine Op.pures 5 [0, 1, 7] (L' := []) (e' := [(0, .pointer (some ⟨b_t, 0, none⟩)), (1, .string (mkS p)), (7, .int .i64 0)]) (by kernel_rfl) ?_
  refine Op.goto 2 (by kernel_rfl) ?_
  refine At.reg (L := [(0, false), (1, false)]) (by kernel_rfl) ?_
  refine Op.pures 2 [0, 1, 7, 15] (L' := []) (e' := [(0, .pointer (some ⟨b_t, 0, none⟩)), (1, .string (mkS p)), (7, .int .i64 0), (15, .bool false)]) (by kernel_rfl) ?_
  refine Op.goto 3 (by kernel_rfl) ?_
  refine At.condF (c := .tmp 15) (by kernel_rfl) (by kernel_rfl) (by kernel_rfl) 6 (by kernel_rfl) ?_
  refine At.reg (L := [(0, false), (1, false), (2, false), (3, false), (4, false), (5, false)]) (by kernel_rfl) ?_
  refine Op.pures 2 [17, 18] (L' := [(2, false), (3, false), (4, false), (5, false)]) (e' := [(17, .pointer (some ⟨b_t, 0, none⟩)), (18, .string (mkS p))]) (by kernel_rfl) ?_
  refine Op.call0 (dst := some 19) (f := 80) (args := #[.pointer (some ⟨b_t, 0, none⟩), .string (mkS p)]) (by kernel_rfl) s1087 (kidsF _ _ _ s1087.sub hG b_t t o_t p  ) ?_
  rintro _ g1116 _ h1110 hle1117 s1111 ⟨f1112, cp1113, rfl, e1114, hq1115, rfl⟩
  replace hG := hG.mono hle1117
  replace ha1102 := ha1102.mono hle1117
  replace hd1101 := hd1101.mono hle1117
  replace o_t := o_t.mono hle1117
  replace hb1100 := hle1117 _ _ hb1100
  replace hbt1099 := hle1117 _ _ hbt1099
  refine Op.call0 (dst := some 20) (f := 84) (args := #[.func (.func f1112) #[] cp1113]) (by kernel_rfl) s1111 (sortedS _ _ _ s1111.sub hG f1112 cp1113 (kidsL t p) e1114 hq1115 (by ((try dsimp only) <;> ((have := kidsL_len t p; have := hB.1; omega)))) ) ?_
  rintro _ g1125 _ h1118 hle1126 s1119 ⟨v1120, ch1121, rfl, R1122, hgg, rfl⟩; subst g1125; clear hle1126
  obtain ⟨a1123, n1124, rfl⟩ := R1122.form
  refine Op.pures 2 [4, 5] (L' := []) (e' := [(4, .slice a1123 ((sortS (kidsL t p)).length) n1124), (5, .int .i64 0)]) (by kernel_rfl) ?_
  refine Op.goto 7 (by kernel_rfl) ?_
  refine At.ret (f := Tryz.f37) (v := .tuple #[.slice a1123 ((sortS (kidsL t p)).length) n1124, .int .i64 0]) (by kernel_rfl) (by kernel_rfl) ?_
  have s1127 : St h g (ids []) g [ch1121] h1118 := s1119.unfrz
  replace R1122 := R1122.flat (fun _ _ _ _ h => h) (g' := g)
  refine hR _ _ _ _ s1127 ⟨(.slice a1123 ((sortS (kidsL t p)).length) n1124), ch1121, ?_, ?_, rfl, rfl⟩
  ·exact eqT2 rfl (eqI (by (rw [kidsT_2 (by assumption) (by assumption)]; done)))
  ·exact rowEq R1122 (by (rw [kidsT_2 (by assumption) (by assumption)]; exact sort_kids (List.Perm.refl _) o_t.sort))
theorem allF (B : World) (h : Heap) (g : GH) (hg : Sub g h) (hG : Glob g) (b_t : Nat) (t : List Leaf) (o_t : VTree g b_t t) (hB : TreeB t) :
  Spec Tryz.prog B 30 #[.pointer (some ⟨b_t, 0, none⟩)] h g [] (fun rv g' L' => ∃ v0 k0 d0, rv = v0 ∧ Row 59 kLeaf (gadd gE d0) v0 t k0 ∧ g' = g ∧ L' = [k0, d0]) := by
 refine Spec.of_at (f := Tryz.f30) (e := [(0, .pointer (some ⟨b_t, 0, none⟩))]) Tryz.func30 (by kernel_rfl) (Nat.le_of_ble_eq_true (by kernel_rfl)) (by kernel_rfl) (by kernel_rfl) ?_
 intro R hR
 have s0 := St.init hg
 refine At.reg (L := [(0, false)]) (by kernel_rfl) ?_
 refine Op.pures 1 [0] (L' := []) (e' := [(0, .pointer (some ⟨b_t, 0, none⟩))]) (by kernel_rfl) ?_
 refine Op.goto 1 (by kernel_rfl) ?_
 refine At.reg (L := [(0, false)]) (by kernel_rfl) ?_
 refine Op.pures 1 [0, 3] (L' := []) (e' := [(0, .pointer (some ⟨b_t, 0, none⟩)), (3, .slice none 0 0)]) (by kernel_rfl) ?_
 refine Op.goto 2 (by kernel_rfl) ?_
 refine At.reg (L := [(0, false), (1, false), (2, false), (3, false)]) (by kernel_rfl) ?_
 refine Op.pures 1 [0, 3, 6] (L' := [(1, false), (2, false), (3, false)]) (e' := [(0, .pointer (some ⟨b_t, 0, none⟩)), (3, .slice none 0 0), (6, .pointer (some ⟨b_t, 0, none⟩))]) (by kernel_rfl) ?_
 refine Op.call0 (dst := some 7) (f := 75) (args := #[.pointer (some ⟨b_t, 0, none⟩)]) (by kernel_rfl) s0 (sortedT _ _ _ s0.sub hG b_t t o_t (by ((try dsimp only) <;> ((have := hB.1; omega)))) ) ?_
 rintro _ g1135 _ h1128 hle1136 s1129 ⟨v1130, ch1131, rfl, R1132, hgg, rfl⟩; subst g1135; clear hle1136
 obtain ⟨a1133, n1134, rfl⟩ := R1132.form
 refine Op.pures 2 [0, 3, 7, 8, 9] (L' := []) (e' := [(0, .pointer (some ⟨b_t, 0, none⟩)), (3, .slice none 0 0), (7, .slice a1133 ((t.map (·.Path)).length) n1134), (8, .int .i64 ((t.map (·.Path)).length : Int)), (9, .int .i64 0)]) (by kernel_rfl) ?_
 refine Op.goto 3 (by kernel_rfl) ?_
 have R1143 := Row.zero 59 kLeaf (gadd gE []) none
 have s1142 : St h g (ids []) g ([] :: [] :: [ch1131]) h1128 := St.flat (L := [ch1131]) rfl s1129
 have loop3 : ∀ (m : Nat) (out : List Leaf) (i : Int) (a1137 : Option Addr) (n1138 : Nat) (ch1139 : Chunk) (dc1140 : Chunk) (h1144 : Heap) (hm : (t.map (·.Path)).length - i.toNat < m) (h0 : 0 ≤ i) (h1 : i ≤ (t.map (·.Path)).length) (ho : out = t.take i.toNat)    (R1141 : Row 59 kLeaf (gadd gE dc1140) (.slice a1137 out.length n1138) out ch1139) (s_loop31143 : St h g (ids []) g [ch1139, dc1140, ch1131] h1144), At (fctx Tryz.prog B 30 Tryz.f30 R) [] 3 [(0, .pointer (some ⟨b_t, 0, none⟩)), (3, .slice a1137 out.length n1138), (7, .slice a1133 ((t.map (·.Path)).length) n1134), (8, .int .i64 ((t.map (·.Path)).length : Int)), (9, .int .i64 i)] h1144 := by
  intro m; induction m with
  | zero => intros; omega
  | succ m ih3 =>
   intro out i a1137 n1138 ch1139 dc1140 h1144 hm h0 h1 ho R1141 s_loop31143
   refine At.reg (L := [(0, false)]) (by kernel_rfl) ?_
   refine Op.pures 1 [0, 3, 7, 8, 9, 10] (L' := []) (e' := [(0, .pointer (some ⟨b_t, 0, none⟩)), (3, .slice a1137 out.length n1138), (7, .slice a1133 ((t.map (·.Path)).length) n1134), (8, .int .i64 ((t.map (·.Path)).length : Int)), (9, .int .i64 i), (10, .bool (decide (i < ((t.map (·.Path)).length : Int))))]) (by kernel_rfl) ?_
   refine Op.goto 4 (by kernel_rfl) ?_
   refine At.cond (b := decide (i < ((t.map (·.Path)).length : Int))) (c := .tmp 10) (by kernel_rfl) (by kernel_rfl) (by kernel_rfl) 5 8 (by kernel_rfl) (by kernel_rfl) (fun hb => ?_) (fun hb => ?_)
   ·have c1145 : i < ((t.map (·.Path)).length : Int) := of_decide_eq_true hb
    clear hb
    refine At.keep [0, 3, 7, 8, 9] ?_; show At _ _ _ [(0, .pointer (some ⟨b_t, 0, none⟩)), (3, .slice a1137 out.length n1138), (7, .slice a1133 ((t.map (·.Path)).length) n1134), (8, .int .i64 ((t.map (·.Path)).length : Int)), (9, .int .i64 i)] _
    refine At.reg (L := [(0, false), (1, false), (2, false)]) (by kernel_rfl) ?_
    obtain ⟨x1146, hx1147⟩ : ∃ c, (t.map (·.Path))[(i : Int).toNat]? = some c := ⟨_, List.getElem?_eq_getElem (by omega)⟩
    obtain ⟨b1148, o1149, cu1150, fz1151, ha1152, hb1153, hk1154⟩ := SlH.at_ (R1132.toH s_loop31143 2 rfl) _ hx1147
    cases ha1152
    refine Op.idx (T := 54) (E := 9) (sz := 1) (by_ := 16) (n := ((t.map (·.Path)).length)) (c := n1134) (k := .i64) (x := (.tmp 7)) (ix := (.tmp 9)) (dst := 11) (bk := b1148) (o := o1149) (m := i) (by kernel_rfl) (by kernel_rfl) (by kernel_rfl) (by kernel_rfl) (by omega) (by omega) ?_
    replace hk1154 : cut _ _ _ = [.string (mkS x1146)] := hk1154
    refine Op.load (T := 9) (x := (.tmp 11)) (o := o1149 + (i : Int).toNat * 1) (d := 12) (n := 1) (v := .string (mkS x1146)) (by kernel_rfl) (by kernel_rfl) (by kernel_rfl) hb1153 (cut_get hk1154 0 rfl) ?_
    refine Op.pures 1 [0, 3, 5, 7, 8, 9] (L' := []) (e' := [(0, .pointer (some ⟨b_t, 0, none⟩)), (3, .slice a1137 out.length n1138), (5, .string (mkS x1146)), (7, .slice (some ⟨b1148, o1149, none⟩) ((t.map (·.Path)).length) n1134), (8, .int .i64 ((t.map (·.Path)).length : Int)), (9, .int .i64 i)]) (by kernel_rfl) ?_
    refine Op.goto 6 (by kernel_rfl) ?_
    refine At.reg (L := [(0, false), (1, false), (2, false), (3, false), (4, false), (5, false), (6, false), (7, false), (8, false), (9, false), (10, false)]) (by kernel_rfl) ?_
    refine Op.pures 4 [0, 3, 5, 7, 8, 9, 13, 16] (L' := [(4, false), (5, false), (6, false), (7, false), (8, false), (9, false), (10, false)]) (e' := [(0, .pointer (some ⟨b_t, 0, none⟩)), (3, .slice a1137 out.length n1138), (5, .string (mkS x1146)), (7, .slice (some ⟨b1148, o1149, none⟩) ((t.map (·.Path)).length) n1134), (8, .int .i64 ((t.map (·.Path)).length : Int)), (9, .int .i64 i), (13, .slice a1137 out.length n1138), (16, .pointer (some ⟨b_t, 0, none⟩))]) (by kernel_rfl) ?_
    obtain ⟨mb1155, hb1156, om1157⟩ := o_t
    have o_t : VTree g b_t t := ⟨mb1155, hb1156, om1157⟩
    refine Op.load (T := 126) (x := (.tmp 16)) (o := 0) (d := 17) (n := 1) (v := .map (some mb1155)) (by kernel_rfl) (by kernel_rfl) (by kernel_rfl) (s_loop31143.sub _ _ hb1156) (by kernel_rfl) ?_
    refine Op.pures 1 [0, 3, 7, 8, 9, 13, 17, 18] (L' := [(6, false), (7, false), (8, false), (9, false), (10, false)]) (e' := [(0, .pointer (some ⟨b_t, 0, none⟩)), (3, .slice a1137 out.length n1138), (7, .slice (some ⟨b1148, o1149, none⟩) ((t.map (·.Path)).length) n1134), (8, .int .i64 ((t.map (·.Path)).length : Int)), (9, .int .i64 i), (13, .slice a1137 out.length n1138), (17, .map (some mb1155)), (18, .string (mkS x1146))]) (by kernel_rfl) ?_
    obtain ⟨es1158, clk1159, ks1160, hm1161, hR1162, hl1163, hp1164, hh1165, hk1166⟩ := VLm.open_ om1157
    rcases hk1166 x1146 with ⟨hf1170, hl1171⟩ | ⟨b1167, l1168, v1169, hf1170, hl1171, hb1172, hd1173, ha1174⟩
    ·exfalso; exact all_none o_t.sort hx1147 (by assumption)
    ·obtain ⟨a1175, n1176, rfl⟩ := hd1173.form
     refine Op.lookSome (ok := false) (d := .string) (mt := 126) (x := (.tmp 17)) (ix := (.tmp 18)) (dst := 19) (k := x1146) (m := mb1155) (v := .pointer (some ⟨b1167, 0, none⟩)) (z := .pointer none) (by kernel_rfl) (by kernel_rfl) keyS (by kernel_rfl) (by kernel_rfl) (s_loop31143.sub _ _ hm1161) hR1162 hl1171 ?_
     refine Op.call0 (dst := some 20) (f := 76) (args := #[.pointer (some ⟨b1167, 0, none⟩)]) (by kernel_rfl) s_loop31143 (clonedT _ _ _ s_loop31143.sub hG l1168 _ hd1173 b1167 hb1172 (by ((try dsimp only) <;> ((have := TreeB.data hB (by assumption); omega)))) ) ?_
     rintro _ g1184 _ h1177 hle1185 s1178 ⟨v1179, ch1180, rfl, R1181, hgg, rfl⟩; subst g1184; clear hle1185
     obtain ⟨a1182, n1183, rfl⟩ := R1181.form
     refine Op.lit (T := 52) (len := 1) (parts := #[(0, (.tmp 20))]) (dst := 21) (E := 59) (ps := [(0, .agg #[.string (mkS l1168.Path), .slice a1182 ((l1168.Data).length) n1183, .int .i64 l1168.Version, .int .i64 l1168.Owner, .int .i64 l1168.Next, .int .i64 l1168.Born])]) (cs := #[.string (mkS l1168.Path), .slice a1182 ((l1168.Data).length) n1183, .int .i64 l1168.Version, .int .i64 l1168.Owner, .int .i64 l1168.Next, .int .i64 l1168.Born]) (by kernel_rfl) (by kernel_rfl) (by kernel_rfl) s1178 ?_
     intro b1186 h1187 s1188
     have s1189 : St h g (ids []) g [dc1140, ch1180, ch1139, [(b1186, Obj.cells #[.string (mkS l1168.Path), .slice a1182 ((l1168.Data).length) n1183, .int .i64 l1168.Version, .int .i64 l1168.Owner, .int .i64 l1168.Next, .int .i64 l1168.Born] 59 (0, 0))], ch1131] h1187 := ((((s1188.front 0 rfl).front 2 rfl).front 2 rfl).front 3 rfl)
     have hn1190 := St.keysAt (A := (dc1140 ++ ch1180 : Chunk)) s1189 (by rw [List.flatten_cons, List.flatten_cons, ← List.append_assoc]; exact List.sublist_append_left _ _)
     have hd1191 := row_in (C := (dc1140 ++ ch1180 : Chunk)) (R1181.flat (fun _ _ _ _ h => h)) hn1190 (by intro p hp; simp [hp])
     have hr1192 := R1141.mono (gadd_app (c := dc1140) (c' := ch1180))
     have s1193 : St h g (ids []) g [(dc1140 ++ ch1180 : Chunk), ch1139, [(b1186, Obj.cells #[.string (mkS l1168.Path), .slice a1182 ((l1168.Data).length) n1183, .int .i64 l1168.Version, .int .i64 l1168.Owner, .int .i64 l1168.Next, .int .i64 l1168.Born] 59 (0, 0))], ch1131] h1187 := St.flat (L := [dc1140, ch1180, ch1139, [(b1186, Obj.cells #[.string (mkS l1168.Path), .slice a1182 ((l1168.Data).length) n1183, .int .i64 l1168.Version, .int .i64 l1168.Owner, .int .i64 l1168.Next, .int .i64 l1168.Born] 59 (0, 0))], ch1131]) (by simp only [List.flatten_cons, List.flatten_nil, List.append_assoc, List.cons_append, List.nil_append, List.append_nil]) s1189
     refine Op.append (x := (.tmp 13)) (y := (.tmp 21)) (t := 52) (t' := 52) (dst := 22) (E := 59) (by_ := 72) (d := kLeaf) (by kernel_rfl) (by kernel_rfl) (by kernel_rfl) (by kernel_rfl) rfl hr1192 s1193 1 rfl (Src.lit (m := 1) (sz := 6) (s1193.chunk 2 rfl) (news := [.string (mkS l1168.Path), .slice a1182 ((l1168.Data).length) n1183, .int .i64 l1168.Version, .int .i64 l1168.Owner, .int .i64 l1168.Next, .int .i64 l1168.Born]) rfl rfl (by simp [Value.oneCell']) _) (ys := [l1168]) ⟨_, _, rfl, ⟨_, hd1191, rfl⟩, Reads.nil⟩ rfl (by (have h1 := congrArg List.length ho; have := hB.1; simp only [List.length_take, List.length_map, List.length_cons, List.length_nil] at *; omega)) (fun _ _ _ => trivial) ?_
     intro v1194 ch1195 h1196 R1197 s1198 nn1199
     obtain ⟨a1200, n1201, rfl⟩ := R1197.form
     have s1202 := (s1198.front 2 rfl).drop
     refine Op.pures 1 [0, 3, 7, 8, 9] (L' := []) (e' := [(0, .pointer (some ⟨b_t, 0, none⟩)), (3, .slice a1200 ((out ++ ([l1168])).length) n1201), (7, .slice (some ⟨b1148, o1149, none⟩) ((t.map (·.Path)).length) n1134), (8, .int .i64 ((t.map (·.Path)).length : Int)), (9, .int .i64 i)]) (by kernel_rfl) ?_
     refine Op.goto 7 (by kernel_rfl) ?_
     refine At.reg (L := [(0, false), (1, false)]) (by kernel_rfl) ?_
     refine Op.val (dst := some 23) (v := .int .i64 (IntKind.wrap .i64 (i + 1))) (v' := .int .i64 (i + 1)) (by kernel_rfl) (wrapEq_i64 (by omega) (by (simp only [List.length_map] at *; have := hB.1; omega))) ?_
     refine Op.pures 1 [0, 3, 7, 8, 9] (L' := []) (e' := [(0, .pointer (some ⟨b_t, 0, none⟩)), (3, .slice a1200 ((out ++ ([l1168])).length) n1201), (7, .slice (some ⟨b1148, o1149, none⟩) ((t.map (·.Path)).length) n1134), (8, .int .i64 ((t.map (·.Path)).length : Int)), (9, .int .i64 (i + 1))]) (by kernel_rfl) ?_
     refine Op.goto 3 (by kernel_rfl) ?_
     have s1203 : St h g (ids []) g [ch1195, (dc1140 ++ ch1180 : Chunk), ch1131] h1196 := ((s1202.front 0 rfl).front 1 rfl)
     exact ih3  (out ++ ([l1168])) (i + 1) _ _ _ _ _ (by omega) (by omega) (by omega) (by exact all_step o_t.sort h0 hx1147 (by assumption) ho) R1197 s1203
   ·have c1204 : ¬ (i < ((t.map (·.Path)).length : Int)) := of_decide_eq_false hb
    clear hb
    refine At.keep [3] ?_; show At _ _ _ [(3, .slice a1137 out.length n1138)] _
    refine At.reg (L := [(0, false), (1, false)]) (by kernel_rfl) ?_
    refine Op.pures 2 [2] (L' := []) (e' := [(2, .slice a1137 out.length n1138)]) (by kernel_rfl) ?_
    refine Op.goto 9 (by kernel_rfl) ?_
    refine At.ret (f := Tryz.f30) (v := .slice a1137 out.length n1138) (by kernel_rfl) (by kernel_rfl) ?_
    have s1205 : St h g (ids []) g [ch1131, ch1139, dc1140] h1144 := (((s_loop31143.front 1 rfl).front 1 rfl).front 2 rfl)
    have s1206 : St h g (ids []) g [ch1139, dc1140] h1144 := (s1205).drop
    refine hR _ _ _ _ s1206 ⟨(.slice a1137 out.length n1138), ch1139, dc1140, ?_, ?_, rfl, rfl⟩
    ·exact rfl
    ·exact rowEq R1141 (by (rw [ho, List.take_of_length_le]; simp only [List.length_map] at *; omega))
 exact loop3 _  ([] : List Leaf) 0 _ _ _ _ _ (Nat.lt_succ_self _) (by omega) (by omega) (by rfl) R1143 s1142
end Go.Proofs.YtmjebehhpojihaaGreatDoor.Sw
namespace Go.Proofs.YtmjebehhpojihaaGreatDoor.Sw
open Go
set_option maxRecDepth 100000
set_option linter.unusedVariables false
set_option linter.unusedSimpArgs false
set_option linter.deprecated false
theorem indexI (B : World) (h : Heap) (g : GH) (hg : Sub g h) (hG : Glob g) (v_l : Value) (l : List Int) (h_l : SlR g 3 (kInt .i64) v_l l) (k0 : Int) (hlen : l.length ≤ 1000000000) :
  Spec Tryz.prog B 123 #[v_l, .int .i64 k0] h g [] (fun rv g' L' => rv = .int .i64 (findI (fun z => decide (k0 = z)) l) ∧ g' = g ∧ L' = []) := by
 obtain ⟨a_l, n_l, rfl⟩ := h_l.form
 refine Spec.of_at (f := Tryz.f123) (e := [(0, .slice a_l l.length n_l), (1, .int .i64 k0)]) Tryz.func123 (by kernel_rfl) (Nat.le_of_ble_eq_true (by kernel_rfl)) (by kernel_rfl) (by kernel_rfl) ?_
 intro R hR
 have s0 := St.init hg
 refine At.reg (L := [(0, false)]) (by kernel_rfl) ?_
 refine Op.pures 1 [0, 1] (L' := []) (e' := [(0, .slice a_l l.length n_l), (1, .int .i64 k0)]) (by kernel_rfl) ?_
 refine Op.goto 1 (by kernel_rfl) ?_
 refine At.reg (L := [(0, false), (1, false), (2, false)]) (by kernel_rfl) ?_
 refine Op.pures 3 [0, 1, 7, 8] (L' := []) (e' := [(0, .slice a_l l.length n_l), (1, .int .i64 k0), (7, .int .i64 (l.length : Int)), (8, .int .i64 0)]) (by kernel_rfl) ?_
 refine Op.goto 2 (by kernel_rfl) ?_
 have loop2 : ∀ (m : Nat) (i : Int) (h1001 : Heap) (hm : l.length - i.toNat < m) (h0 : 0 ≤ i) (h1 : i ≤ l.length) (hat : findAt (fun z => decide (k0 = z)) l i)     (s_loop21000 : St h g (ids []) g [] h1001), At (fctx Tryz.prog B 123 Tryz.f123 R) [] 2 [(0, .slice a_l l.length n_l), (1, .int .i64 k0), (7, .int .i64 (l.length : Int)), (8, .int .i64 i)] h1001 := by
  intro m; induction m with
  | zero => intros; omega
  | succ m ih2 =>
   intro i h1001 hm h0 h1 hat s_loop21000
   refine At.reg (L := [(0, false)]) (by kernel_rfl) ?_
   refine Op.pures 1 [0, 1, 7, 8, 9] (L' := []) (e' := [(0, .slice a_l l.length n_l), (1, .int .i64 k0), (7, .int .i64 (l.length : Int)), (8, .int .i64 i), (9, .bool (decide (i < (l.length : Int))))]) (by kernel_rfl) ?_
   refine Op.goto 3 (by kernel_rfl) ?_
   refine At.cond (b := decide (i < (l.length : Int))) (c := .tmp 9) (by kernel_rfl) (by kernel_rfl) (by kernel_rfl) 4 10 (by kernel_rfl) (by kernel_rfl) (fun hb => ?_) (fun hb => ?_)
   ·have c1002 : i < (l.length : Int) := of_decide_eq_true hb
    clear hb
    refine At.keep [0, 1, 7, 8] ?_; show At _ _ _ [(0, .slice a_l l.length n_l), (1, .int .i64 k0), (7, .int .i64 (l.length : Int)), (8, .int .i64 i)] _
    refine At.reg (L := [(0, false), (1, false)]) (by kernel_rfl) ?_
    refine Op.pures 2 [0, 1, 5, 7, 8] (L' := []) (e' := [(0, .slice a_l l.length n_l), (1, .int .i64 k0), (5, .int .i64 i), (7, .int .i64 (l.length : Int)), (8, .int .i64 i)]) (by kernel_rfl) ?_
    refine Op.goto 5 (by kernel_rfl) ?_
    refine At.reg (L := [(0, false), (1, false), (2, false), (3, false), (4, false), (5, false)]) (by kernel_rfl) ?_
    refine Op.pures 3 [0, 1, 5, 7, 8, 11, 12, 13] (L' := [(3, false), (4, false), (5, false)]) (e' := [(0, .slice a_l l.length n_l), (1, .int .i64 k0), (5, .int .i64 i), (7, .int .i64 (l.length : Int)), (8, .int .i64 i), (11, .int .i64 k0), (12, .slice a_l l.length n_l), (13, .int .i64 i)]) (by kernel_rfl) ?_
    obtain ⟨x1003, hx1004⟩ : ∃ c, l[(i : Int).toNat]? = some c := ⟨_, List.getElem?_eq_getElem (by omega)⟩
    obtain ⟨b1005, o1006, cu1007, fz1008, ha1009, hb1010, hk1011⟩ := SlR.at_ h_l _ hx1004
    cases ha1009
    refine Op.idx (T := 44) (E := 3) (sz := 1) (by_ := 8) (n := l.length) (c := n_l) (k := .i64) (x := (.tmp 12)) (ix := (.tmp 13)) (dst := 14) (bk := b1005) (o := o1006) (m := i) (by kernel_rfl) (by kernel_rfl) (by kernel_rfl) (by kernel_rfl) (by omega) (by omega) ?_
    replace hk1011 : cut _ _ _ = [.int .i64 x1003] := hk1011
    refine Op.load (T := 3) (x := (.tmp 14)) (o := o1006 + (i : Int).toNat * 1) (d := 15) (n := 1) (v := .int .i64 x1003) (by kernel_rfl) (by kernel_rfl) (by kernel_rfl) (s_loop21000.sub _ _ hb1010) (cut_get hk1011 0 rfl) ?_
    refine Op.pures 1 [0, 1, 5, 7, 8, 16] (L' := []) (e' := [(0, .slice (some ⟨b1005, o1006, none⟩) l.length n_l), (1, .int .i64 k0), (5, .int .i64 i), (7, .int .i64 (l.length : Int)), (8, .int .i64 i), (16, .bool (k0 == x1003))]) (by kernel_rfl) ?_
    refine Op.goto 6 (by kernel_rfl) ?_
    refine At.cond (b := k0 == x1003) (c := .tmp 16) (by kernel_rfl) (by kernel_rfl) (by kernel_rfl) 7 9 (by kernel_rfl) (by kernel_rfl) (fun hb => ?_) (fun hb => ?_)
    ·have c1012 : k0 = x1003 := eq_of_beq hb
     clear hb
     refine At.keep [5] ?_; show At _ _ _ [(5, .int .i64 i)] _
     refine At.reg (L := [(0, false), (1, false)]) (by kernel_rfl) ?_
     refine Op.pures 2 [4] (L' := []) (e' := [(4, .int .i64 i)]) (by kernel_rfl) ?_
     refine Op.goto 8 (by kernel_rfl) ?_
     refine At.ret (f := Tryz.f123) (v := .int .i64 i) (by kernel_rfl) (by kernel_rfl) ?_
     refine hR _ _ _ _ s_loop21000 ⟨?_, rfl, rfl⟩
     exact (eqI (by exact findAt_hit hat hx1004 (decide_eq_true c1012)))
    ·have c1013 : ¬ (k0 = x1003) := neF hb
     clear hb
     refine At.keep [0, 1, 7, 8] ?_; show At _ _ _ [(0, .slice (some ⟨b1005, o1006, none⟩) l.length n_l), (1, .int .i64 k0), (7, .int .i64 (l.length : Int)), (8, .int .i64 i)] _
     refine At.reg (L := [(0, false), (1, false)]) (by kernel_rfl) ?_
     refine Op.val (dst := some 18) (v := .int .i64 (IntKind.wrap .i64 (i + 1))) (v' := .int .i64 (i + 1)) (by kernel_rfl) (wrapEq_i64 (by omega) (by omega)) ?_
     refine Op.pures 1 [0, 1, 7, 8] (L' := []) (e' := [(0, .slice (some ⟨b1005, o1006, none⟩) l.length n_l), (1, .int .i64 k0), (7, .int .i64 (l.length : Int)), (8, .int .i64 (i + 1))]) (by kernel_rfl) ?_
     refine Op.goto 2 (by kernel_rfl) ?_
     exact ih2  (i + 1) _ (by omega) (by omega) (by omega) (by exact findAt_miss hat h0 hx1004 (decide_eq_false c1013))  s_loop21000
   ·have c1014 : ¬ (i < (l.length : Int)) := of_decide_eq_false hb
    clear hb
    refine At.keep [] ?_; show At _ _ _ [] _
    refine At.reg (L := [(0, false)]) (by kernel_rfl) ?_
    refine Op.pures 1 [4] (L' := []) (e' := [(4, .int .i64 (-1))]) (by kernel_rfl) ?_
    refine Op.goto 11 (by kernel_rfl) ?_
    refine At.ret (f := Tryz.f123) (v := .int .i64 (-1)) (by kernel_rfl) (by kernel_rfl) ?_
    refine hR _ _ _ _ s_loop21000 ⟨?_, rfl, rfl⟩
    exact (eqI (by exact findAt_end hat c1014))
 exact loop2 _  0 _ (Nat.lt_succ_self _) (by omega) (by omega) (by exact findAt_0 _ _)  s0
theorem containsI (B : World) (h : Heap) (g : GH) (hg : Sub g h) (hG : Glob g) (v_l : Value) (l : List Int) (h_l : SlR g 3 (kInt .i64) v_l l) (k0 : Int) (hlen : l.length ≤ 1000000000) :
  Spec Tryz.prog B 78 #[v_l, .int .i64 k0] h g [] (fun rv g' L' => rv = .bool (l.any (fun z => decide (k0 = z))) ∧ g' = g ∧ L' = []) := by
 obtain ⟨a_l, n_l, rfl⟩ := h_l.form
 refine Spec.of_at (f := Tryz.f78) (e := [(0, .slice a_l l.length n_l), (1, .int .i64 k0)]) Tryz.func78 (by kernel_rfl) (Nat.le_of_ble_eq_true (by kernel_rfl)) (by kernel_rfl) (by kernel_rfl) ?_
 intro R hR
 have s0 := St.init hg
 refine At.reg (L := [(0, false)]) (by kernel_rfl) ?_
 refine Op.pures 1 [0, 1] (L' := []) (e' := [(0, .slice a_l l.length n_l), (1, .int .i64 k0)]) (by kernel_rfl) ?_
 refine Op.goto 1 (by kernel_rfl) ?_
 refine At.reg (L := [(0, false), (1, false), (2, false), (3, false), (4, false)]) (by kernel_rfl) ?_
 refine Op.pures 2 [5, 6] (L' := [(2, false), (3, false), (4, false)]) (e' := [(5, .slice a_l l.length n_l), (6, .int .i64 k0)]) (by kernel_rfl) ?_
 refine Op.call0 (dst := some 7) (f := 123) (args := #[.slice a_l l.length n_l, .int .i64 k0]) (by kernel_rfl) s0 (indexI _ _ _ s0.sub hG _ _ h_l k0 (by ((try dsimp only) <;> (omega))) ) ?_
 rintro _ g1017 _ h1015 hle1018 s1016 ⟨rfl, hgg, rfl⟩; subst g1017; clear hle1018
 refine Op.pures 2 [4] (L' := []) (e' := [(4, .bool (decide ((findI (fun z => decide (k0 = z)) l) ≥ (0 : Int))))]) (by kernel_rfl) ?_
 refine Op.goto 2 (by kernel_rfl) ?_
 refine At.ret (f := Tryz.f78) (v := .bool (decide ((findI (fun z => decide (k0 = z)) l) ≥ (0 : Int)))) (by kernel_rfl) (by kernel_rfl) ?_
 refine hR _ _ _ _ s1016 ⟨?_, rfl, rfl⟩
 exact (eqB (by exact findI_any _ _))
theorem ownedF (B : World) (h : Heap) (g : GH) (hg : Sub g h) (hG : Glob g) (b_t : Nat) (t : List Leaf) (o_t : VTree g b_t t) (v_ow : Value) (ow : List Int) (h_ow : SlR g 3 (kInt .i64) v_ow ow) (hB : TreeB t) (how : ow.length ≤ 1000000000) :
  Spec Tryz.prog B 31 #[.pointer (some ⟨b_t, 0, none⟩), v_ow] h g [] (fun rv g' L' => ∃ v0 k0, rv = v0 ∧ Row 9 kStr g' v0 (ownedL t ow) k0 ∧ g' = g ∧ L' = [k0]) := by
 obtain ⟨a_ow, n_ow, rfl⟩ := h_ow.form
 refine Spec.of_at (f := Tryz.f31) (e := [(0, .pointer (some ⟨b_t, 0, none⟩)), (1, .slice a_ow ow.length n_ow)]) Tryz.func31 (by kernel_rfl) (Nat.le_of_ble_eq_true (by kernel_rfl)) (by kernel_rfl) (by kernel_rfl) ?_
 intro R hR
 have s0 := St.init hg
 refine At.reg (L := [(0, false), (1, false), (2, false)]) (by kernel_rfl) ?_
 refine Op.box (T := 46) (x := (.tmp 0)) (d := 2) (cs := #[.pointer (some ⟨b_t, 0, none⟩)]) (by kernel_rfl) (by kernel_rfl) s0 ?_
 intro b1019 h1020 s1021
 refine Op.box (T := 44) (x := (.tmp 1)) (d := 3) (cs := #[.slice a_ow ow.length n_ow]) (by kernel_rfl) (by kernel_rfl) s1021 ?_
 intro b1022 h1023 s1024
 refine Op.pures 1 [2, 3, 4] (L' := []) (e' := [(2, .pointer (some ⟨b1019, 0, none⟩)), (3, .pointer (some ⟨b1022, 0, none⟩)), (4, .slice none 0 0)]) (by kernel_rfl) ?_
 refine Op.goto 1 (by kernel_rfl) ?_
 refine At.reg (L := [(0, false)]) (by kernel_rfl) ?_
 refine Op.alloc (T := 54) (dst := 5) (cs := #[.slice none 0 0]) (by kernel_rfl) (by kernel_rfl) s1024 ?_
 intro b1025 h1026 s1027
 refine Op.goto 2 (by kernel_rfl) ?_
 refine At.reg (L := [(0, false), (1, false), (2, false)]) (by kernel_rfl) ?_
 refine Op.load (T := 46) (x := (.tmp 2)) (o := 0) (d := 8) (n := 1) (v := .pointer (some ⟨b_t, 0, none⟩)) (by kernel_rfl) (by kernel_rfl) (by kernel_rfl) (s1027.chunk 2 rfl) (by kernel_rfl) ?_
 refine Op.call0 (dst := some 9) (f := 75) (args := #[.pointer (some ⟨b_t, 0, none⟩)]) (by kernel_rfl) s1027 (sortedT _ _ _ s1027.sub hG b_t t o_t (by ((try dsimp only) <;> ((have := hB.1; omega)))) ) ?_
 rintro _ g1035 _ h1028 hle1036 s1029 ⟨v1030, ch1031, rfl, R1032, hgg, rfl⟩; subst g1035; clear hle1036
 obtain ⟨a1033, n1034, rfl⟩ := R1032.form
 obtain ⟨g1037, s1038, hle1039, hf1040⟩ := Row.freeze R1032 (s1029.front 0 rfl)
 replace hG := hG.mono hle1039
 replace h_ow := h_ow.mono hle1039
 replace o_t := o_t.mono hle1039
 refine Op.call0 (dst := some 10) (f := 77) (args := #[.slice a1033 ((t.map (·.Path)).length) n1034]) (by kernel_rfl) s1038 (backF _ _ _ s1038.sub hG _ _ hf1040 (by ((try dsimp only) <;> ((simp only [List.length_map]; have := hB.1; omega)))) ) ?_
 rintro _ g1047 _ h1041 hle1048 s1042 ⟨f1043, cp1044, rfl, e1045, hq1046, rfl⟩
 replace hG := hG.mono hle1048
 replace h_ow := h_ow.mono hle1048
 replace hf1040 := hf1040.mono hle1048
 replace o_t := o_t.mono hle1048
 refine Op.goto 3 (by kernel_rfl) ?_
 refine At.keep [2, 3, 4, 5, 10] ?_; show At _ _ _ [(2, .pointer (some ⟨b1019, 0, none⟩)), (3, .pointer (some ⟨b1022, 0, none⟩)), (4, .slice none 0 0), (5, .pointer (some ⟨b1025, 0, none⟩)), (10, .func (.func f1043) #[] cp1044)] _
 obtain ⟨s1050, hle1051⟩ := St.freeze (s1042.front 2 rfl)
 have hb1052 := gadd_one (g := g1047) b1019 (.cells #[.pointer (some ⟨b_t, 0, none⟩)] 46 (0, 0))
 generalize hg_g1049 : gadd g1047 _ = g1049 at s1050 hle1051 hb1052; clear hg_g1049
 replace hG := hG.mono hle1051
 replace h_ow := h_ow.mono hle1051
 replace hq1046 := hq1046.mono hle1051
 replace o_t := o_t.mono hle1051
 obtain ⟨s1054, hle1055⟩ := St.freeze (s1050.front 1 rfl)
 have hb1056 := gadd_one (g := g1049) b1022 (.cells #[.slice a_ow ow.length n_ow] 44 (0, 0))
 generalize hg_g1053 : gadd g1049 _ = g1053 at s1054 hle1055 hb1056; clear hg_g1053
 replace hG := hG.mono hle1055
 replace h_ow := h_ow.mono hle1055
 replace hq1046 := hq1046.mono hle1055
 replace o_t := o_t.mono hle1055
 replace hb1052 := hle1055 _ _ hb1052
 have R1058 := Row.zero 9 kStr g1053 none
 have s1057 : St h g (ids []) g1053 ([] :: [[(b1025, Obj.cells #[.slice none 0 0] 54 (0, 0))]]) h1041 := St.flat (L := [[(b1025, Obj.cells #[.slice none 0 0] 54 (0, 0))]]) rfl s1054
 refine At.rangeFunc (x := (.tmp 10)) (f := f1043) (cp := cp1044) (by kernel_rfl) rfl (by kernel_rfl) (by kernel_rfl) e1045 s1057 ?_
 intro r1059 l1060 tm1061 h1062 ft1063 s1064
 have s1065 : St h g (ids []) g1053 [[(l1060, .loop (mkL (mkQ 31 tm1061 (pt (codeOf Tryz.f31) 3) r1059) none))], [(b1025, Obj.cells #[.slice none (([] : List (List UInt8)).length) 0] 54 (0, 0))], [], [(r1059, .deferred (some []))]] h1062 := ((((s1064.front 1 rfl).front 2 rfl).front 3 rfl).front 3 rfl)
 have s1066 : St h g (ids []) g1053 [(([(l1060, .loop (mkL (mkQ 31 tm1061 (pt (codeOf Tryz.f31) 3) r1059) none))] : Chunk) ++ ([(b1025, Obj.cells #[.slice none (([] : List (List UInt8)).length) 0] 54 (0, 0))] : Chunk) ++ ([] : Chunk) : Chunk), [(r1059, .deferred (some []))]] h1062 := St.flat (L := [[(l1060, .loop (mkL (mkQ 31 tm1061 (pt (codeOf Tryz.f31) 3) r1059) none))], [(b1025, Obj.cells #[.slice none (([] : List (List UInt8)).length) 0] 54 (0, 0))], [], [(r1059, .deferred (some []))]]) (by simp only [List.flatten_cons, List.flatten_nil, List.append_assoc, List.cons_append, List.nil_append, List.append_nil]) s1065
 obtain ⟨I1067, hI1068⟩ : ∃ I : List Str → GH → Chunk → Prop, I = (fun xs g2 c2 => ∃ (out : List Str) (ao_out : Option Addr) (n_out : Nat) (k_out : Chunk), c2 = (([(l1060, .loop (mkL (mkQ 31 tm1061 (pt (codeOf Tryz.f31) 3) r1059) none))] : Chunk) ++ ([(b1025, Obj.cells #[.slice ao_out out.length n_out] 54 (0, 0))] : Chunk) ++ (k_out : Chunk) : Chunk) ∧ Row 9 kStr g2 (.slice ao_out out.length n_out) out k_out ∧ out = xs.filter fun q => match findL t q with | some n => ow.any (fun o => decide (n.Owner = o)) | none => false) := ⟨_, rfl⟩
 have hY1069 : Yld Tryz.prog B l1060 enP (fun full => full = (t.map (·.Path)).reverse) (fun _ => true) I1067 g1053 := by
  intro h1070 g1071 xs1072 x1073 args1074 c1075 hgg1076 hG1077 hgo1078 hen1079 hfp1080 hI1081 hs1082
  rw [hI1068] at hI1081
  obtain ⟨out1083, ao1084, n1085, k1086, rfl, R1087, ho1088⟩ := hI1081
  obtain ⟨i1089, rfl⟩ := hen1079
  obtain ⟨_, rfl, hpf⟩ := hfp1080
  have s1090 : St h1070 g1071 (ids [(([(l1060, .loop (mkL (mkQ 31 tm1061 (pt (codeOf Tryz.f31) 3) r1059) none))] : Chunk) ++ ([(b1025, Obj.cells #[.slice ao1084 out1083.length n1085] 54 (0, 0))] : Chunk) ++ (k1086 : Chunk) : Chunk)]) g1071 [[(l1060, .loop (mkL (mkQ 31 tm1061 (pt (codeOf Tryz.f31) 3) r1059) none))], [(b1025, Obj.cells #[.slice ao1084 out1083.length n1085] 54 (0, 0))], k1086] h1070 := St.flat (by simp only [List.flatten_cons, List.flatten_nil, List.append_assoc, List.cons_append, List.nil_append, List.append_nil]) hs1082
  replace hG := hG.mono hgg1076
  replace h_ow := h_ow.mono hgg1076
  replace hq1046 := hq1046.mono hgg1076
  replace o_t := o_t.mono hgg1076
  replace hb1052 := hgg1076 _ _ hb1052
  replace hb1056 := hgg1076 _ _ hb1056
  refine YSpec.of_at (n := Tryz.f31.ntmps) (e0 := [(2, .pointer (some ⟨b1019, 0, none⟩)), (3, .pointer (some ⟨b1022, 0, none⟩)), (4, .slice none 0 0), (5, .pointer (some ⟨b1025, 0, none⟩)), (10, .func (.func f1043) #[] cp1044)]) (e := [(12, .string (mkS x1073)), (11, .int .i64 i1089), (2, .pointer (some ⟨b1019, 0, none⟩)), (3, .pointer (some ⟨b1022, 0, none⟩)), (4, .slice none 0 0), (5, .pointer (some ⟨b1025, 0, none⟩)), (10, .func (.func f1043) #[] cp1044)]) (s1090.chunk 0 rfl) ft1063 (by kernel_rfl) (by kernel_rfl) (by kernel_rfl) (by kernel_rfl) ?_
  intro R2 hR2
  refine At.reg (L := [(0, false)]) (by kernel_rfl) ?_
  refine Op.pures 1 [2, 3, 5, 7] (L' := []) (e' := [(2, .pointer (some ⟨b1019, 0, none⟩)), (3, .pointer (some ⟨b1022, 0, none⟩)), (5, .pointer (some ⟨b1025, 0, none⟩)), (7, .string (mkS x1073))]) (by kernel_rfl) ?_
  refine Op.goto 1 (by kernel_rfl) ?_
  refine At.beginRound rfl (by kernel_rfl) s1090 0 rfl 2 (by kernel_rfl) ?_
  intro h1091 s1092
  refine At.draw (by kernel_rfl) (fun _ => False) [(5, true), (0, true), (1, false), (2, true), (3, true), (4, false), (6, false), (7, true), (8, true), (9, false), (10, false)] (by kernel_rfl) ?_
  refine Op.pures 1 [2, 3, 5, 7, 18] (L' := [(0, true), (1, false), (2, true), (3, true), (4, false), (6, false), (7, true), (8, true), (9, false), (10, false)]) (e' := [(2, .pointer (some ⟨b1019, 0, none⟩)), (3, .pointer (some ⟨b1022, 0, none⟩)), (5, .pointer (some ⟨b1025, 0, none⟩)), (7, .string (mkS x1073)), (18, .string (mkS x1073))]) (by kernel_rfl) ?_
  refine Op.loadF (T := 44) (x := (.tmp 3)) (o := 0) (d := 13) (n := 1) (v := .slice a_ow ow.length n_ow) (by kernel_rfl) (by kernel_rfl) (by kernel_rfl) (fun h => h) (s1092.sub _ _ hb1056) (by kernel_rfl) ?_
  refine Op.load (T := 46) (x := (.tmp 2)) (o := 0) (d := 14) (n := 1) (v := .pointer (some ⟨b_t, 0, none⟩)) (by kernel_rfl) (by kernel_rfl) (by kernel_rfl) (s1092.sub _ _ hb1052) (by kernel_rfl) ?_
  refine Op.pures 2 [5, 7, 13, 16, 18] (L' := [(4, false), (6, false), (7, true), (8, true), (9, false), (10, false)]) (e' := [(5, .pointer (some ⟨b1025, 0, none⟩)), (7, .string (mkS x1073)), (13, .slice a_ow ow.length n_ow), (16, .pointer (some ⟨b_t, 0, none⟩)), (18, .string (mkS x1073))]) (by kernel_rfl) ?_
  obtain ⟨mb1093, hb1094, om1095⟩ := o_t
  have o_t : VTree g1071 b_t t := ⟨mb1093, hb1094, om1095⟩
  refine Op.load (T := 126) (x := (.tmp 16)) (o := 0) (d := 17) (n := 1) (v := .map (some mb1093)) (by kernel_rfl) (by kernel_rfl) (by kernel_rfl) (s1092.sub _ _ hb1094) (by kernel_rfl) ?_
  obtain ⟨es1096, clk1097, ks1098, hm1099, hR1100, hl1101, hp1102, hh1103, hk1104⟩ := VLm.open_ om1095
  rcases hk1104 x1073 with ⟨hf1108, hl1109⟩ | ⟨b1105, l1106, v1107, hf1108, hl1109, hb1110, hd1111, ha1112⟩
  ·exfalso; exact mem_find o_t.sort hpf (by assumption)
  ·obtain ⟨a1113, n1114, rfl⟩ := hd1111.form
   refine Op.lookSome (ok := false) (d := .string) (mt := 126) (x := (.tmp 17)) (ix := (.tmp 18)) (dst := 19) (k := x1073) (m := mb1093) (v := .pointer (some ⟨b1105, 0, none⟩)) (z := .pointer none) (by kernel_rfl) (by kernel_rfl) keyS (by kernel_rfl) (by kernel_rfl) (s1092.sub _ _ hm1099) hR1100 hl1109 ?_
   refine Op.pures 2 [5, 7, 13, 21] (L' := [(9, false), (10, false)]) (e' := [(5, .pointer (some ⟨b1025, 0, none⟩)), (7, .string (mkS x1073)), (13, .slice a_ow ow.length n_ow), (21, .pointer (some ⟨b1105, 3, none⟩))]) (by kernel_rfl) ?_
   refine Op.load (T := 3) (x := (.tmp 21)) (o := 3) (d := 22) (n := 1) (v := .int .i64 l1106.Owner) (by kernel_rfl) (by kernel_rfl) (by kernel_rfl) (s1092.sub _ _ hb1110) (by kernel_rfl) ?_
   refine Op.call0 (dst := some 23) (f := 78) (args := #[.slice a_ow ow.length n_ow, .int .i64 l1106.Owner]) (by kernel_rfl) s1092 (containsI _ _ _ s1092.sub hG _ _ h_ow l1106.Owner (by ((try dsimp only) <;> (omega))) ) ?_
   rintro _ g1117 _ h1115 hle1118 s1116 ⟨rfl, hgg, rfl⟩; subst g1117; clear hle1118
   refine Op.goto 3 (by kernel_rfl) ?_
   refine At.cond (b := ow.any (fun z => decide (l1106.Owner = z))) (c := .tmp 23) (by kernel_rfl) (by kernel_rfl) (by kernel_rfl) 4 5 (by kernel_rfl) (by kernel_rfl) (fun hb => ?_) (fun hb => ?_)
   ·have c1119 : (ow.any (fun z => decide (l1106.Owner = z))) = true := hb
    clear hb
    refine At.keep [5, 7] ?_; show At _ _ _ [(5, .pointer (some ⟨b1025, 0, none⟩)), (7, .string (mkS x1073))] _
    refine At.reg (L := [(0, false), (1, false), (2, false), (3, false), (4, false)]) (by kernel_rfl) ?_
    refine Op.load (T := 54) (x := (.tmp 5)) (o := 0) (d := 24) (n := 1) (v := .slice ao1084 out1083.length n1085) (by kernel_rfl) (by kernel_rfl) (by kernel_rfl) (s1116.chunk 1 rfl) (by kernel_rfl) ?_
    refine Op.pures 1 [5, 24, 25] (L' := [(2, false), (3, false), (4, false)]) (e' := [(5, .pointer (some ⟨b1025, 0, none⟩)), (24, .slice ao1084 out1083.length n1085), (25, .string (mkS x1073))]) (by kernel_rfl) ?_
    refine Op.lit (T := 54) (len := 1) (parts := #[(0, (.tmp 25))]) (dst := 26) (E := 9) (ps := [(0, .string (mkS x1073))]) (cs := #[.string (mkS x1073)]) (by kernel_rfl) (by kernel_rfl) (by kernel_rfl) s1116 ?_
    intro b1120 h1121 s1122
    refine Op.append (x := (.tmp 24)) (y := (.tmp 26)) (t := 54) (t' := 54) (dst := 27) (E := 9) (by_ := 16) (d := kStr) (by kernel_rfl) (by kernel_rfl) (by kernel_rfl) (by kernel_rfl) rfl R1087 s1122 3 rfl (Src.lit (m := 1) (sz := 1) (s1122.chunk 0 rfl) (news := [.string (mkS x1073)]) rfl rfl (by simp [Value.oneCell']) _) (ys := [x1073]) (⟨_, _, rfl, rfl, Reads.nil⟩) rfl (by (have h1 := congrArg List.length ho1088; have h2 := hpf.length_le; have := hB.1; simp only [List.length_reverse, List.length_map, List.length_append, List.length_cons, List.length_nil] at *; have h3 := List.length_filter_le (fun q => match findL t q with | some n => ow.any (fun o => decide (n.Owner = o)) | none => false) xs1072; omega)) (fun _ _ _ => trivial) ?_
    intro v1123 ch1124 h1125 R1126 s1127 nn1128
    obtain ⟨a1129, n1130, rfl⟩ := R1126.form
    have s1131 := (s1127.front 0 rfl).drop
    refine Op.store (T := 54) (x := (.tmp 5)) (y := (.tmp 27)) (b := b1025) (o := 0) (vs := [.slice a1129 ((out1083 ++ ([x1073])).length) n1130]) (a? := false) (n := 1) (by kernel_rfl) (by kernel_rfl) (by kernel_rfl) (by kernel_rfl) rfl (by simp [Value.oneCell']) s1131 1 rfl (Nat.le_of_ble_eq_true (by kernel_rfl)) (cs := #[.slice ao1084 out1083.length n1085]) (cs' := #[.slice a1129 ((out1083 ++ ([x1073])).length) n1130]) (by kernel_rfl) (fun _ => trivial) ?_
    intro h1132 s1133
    refine Op.goto 5 (by kernel_rfl) ?_
    refine At.roundEnd (j := none) (by kernel_rfl) s1133 0 rfl ?_
    intro h1134 s1135
    have s1136 : St h1070 g1071 (ids [(([(l1060, .loop (mkL (mkQ 31 tm1061 (pt (codeOf Tryz.f31) 3) r1059) none))] : Chunk) ++ ([(b1025, Obj.cells #[.slice ao1084 out1083.length n1085] 54 (0, 0))] : Chunk) ++ (k1086 : Chunk) : Chunk)]) g1071 [(([(l1060, .loop (mkL (mkQ 31 tm1061 (pt (codeOf Tryz.f31) 3) r1059) none))] : Chunk) ++ ([(b1025, Obj.cells #[.slice a1129 ((out1083 ++ ([x1073])).length) n1130] 54 (0, 0))] : Chunk) ++ (ch1124 : Chunk) : Chunk)] h1134 := St.flat (L := [[(l1060, .loop (mkL (mkQ 31 tm1061 (pt (codeOf Tryz.f31) 3) r1059) none))], [(b1025, Obj.cells #[.slice a1129 ((out1083 ++ ([x1073])).length) n1130] 54 (0, 0))], ch1124]) (by simp only [List.flatten_cons, List.flatten_nil, List.append_assoc, List.cons_append, List.nil_append, List.append_nil]) s1135
    refine hR2 _ _ _ _ s1136 ⟨_, by rfl, rfl, ?_⟩
    rw [hI1068]; exact ⟨(out1083 ++ ([x1073])), a1129, n1130, ch1124, rfl, R1126, (by (have h1 := owned_step o_t.sort hpf (by assumption) ho1088; rw [if_pos (by assumption)] at h1; exact h1))⟩
   ·have c1137 : (ow.any (fun z => decide (l1106.Owner = z))) = false := hb
    clear hb
    refine At.keep [5] ?_; show At _ _ _ [(5, .pointer (some ⟨b1025, 0, none⟩))] _
    refine At.roundEnd (j := none) (by kernel_rfl) s1116 0 rfl ?_
    intro h1138 s1139
    have s1140 : St h1070 g1071 (ids [(([(l1060, .loop (mkL (mkQ 31 tm1061 (pt (codeOf Tryz.f31) 3) r1059) none))] : Chunk) ++ ([(b1025, Obj.cells #[.slice ao1084 out1083.length n1085] 54 (0, 0))] : Chunk) ++ (k1086 : Chunk) : Chunk)]) g1071 [(([(l1060, .loop (mkL (mkQ 31 tm1061 (pt (codeOf Tryz.f31) 3) r1059) none))] : Chunk) ++ ([(b1025, Obj.cells #[.slice ao1084 out1083.length n1085] 54 (0, 0))] : Chunk) ++ (k1086 : Chunk) : Chunk)] h1138 := St.flat (L := [[(l1060, .loop (mkL (mkQ 31 tm1061 (pt (codeOf Tryz.f31) 3) r1059) none))], [(b1025, Obj.cells #[.slice ao1084 out1083.length n1085] 54 (0, 0))], k1086]) (by simp only [List.flatten_cons, List.flatten_nil, List.append_assoc, List.cons_append, List.nil_append, List.append_nil]) s1139
    refine hR2 _ _ _ _ s1140 ⟨_, by rfl, rfl, ?_⟩
    rw [hI1068]; exact ⟨out1083, ao1084, n1085, k1086, rfl, R1087, (by (have h1 := owned_step o_t.sort hpf (by assumption) ho1088; rw [if_neg (Bool.eq_false_iff.1 (by assumption))] at h1; exact h1))⟩
 refine AtIn.call (Lc := [(([(l1060, .loop (mkL (mkQ 31 tm1061 (pt (codeOf Tryz.f31) 3) r1059) none))] : Chunk) ++ ([(b1025, Obj.cells #[.slice none (([] : List (List UInt8)).length) 0] 54 (0, 0))] : Chunk) ++ ([] : Chunk) : Chunk)]) (L := [[(r1059, .deferred (some []))]]) s1066 (hq1046 B _ _ _ I1067 (fun _ => true) _ (gle.refl _) s1066.sub hG hY1069 rfl (by rw [hI1068]; exact ⟨([] : List (List UInt8)), none, 0, [], rfl, R1058, (by rfl)⟩) (St.part (Lc := [(([(l1060, .loop (mkL (mkQ 31 tm1061 (pt (codeOf Tryz.f31) 3) r1059) none))] : Chunk) ++ ([(b1025, Obj.cells #[.slice none (([] : List (List UInt8)).length) 0] 54 (0, 0))] : Chunk) ++ ([] : Chunk) : Chunk)]) (L := [[(r1059, .deferred (some []))]]) s1066)) ?_
 rintro _ g1141 _ h1142 hle1143 s1144 ⟨full1145, xs1146, c1147, rfl, ho1148, hp1149, hf1150, hpr1151, rfl, hI1152⟩
 replace hG := hG.mono hle1143
 replace h_ow := h_ow.mono hle1143
 replace hq1046 := hq1046.mono hle1143
 replace o_t := o_t.mono hle1143
 replace hb1052 := hle1143 _ _ hb1052
 replace hb1056 := hle1143 _ _ hb1056
 have hx := hf1150 rfl; subst hx
 rw [hI1068] at hI1152
 obtain ⟨out1153, ao1154, n1155, k1156, rfl, R1157, ho1158⟩ := hI1152
 have s1159 : St h g (ids []) g1141 [[(l1060, .loop (mkL (mkQ 31 tm1061 (pt (codeOf Tryz.f31) 3) r1059) none))], [(b1025, Obj.cells #[.slice ao1154 out1153.length n1155] 54 (0, 0))], k1156, [(r1059, .deferred (some []))]] h1142 := St.flat (by simp only [List.flatten_cons, List.flatten_nil, List.append_assoc, List.cons_append, List.nil_append, List.append_nil]) s1144
 refine AtI.endLoop (j := none) s1159 0 rfl ?_
 intro h1160 s1161
 have s1162 := s1161.drop
 refine AtI.at_ 4 (by kernel_rfl) ?_
 refine At.reg (L := [(0, false), (1, false)]) (by kernel_rfl) ?_
 refine Op.load (T := 54) (x := (.tmp 5)) (o := 0) (d := 28) (n := 1) (v := .slice ao1154 out1153.length n1155) (by kernel_rfl) (by kernel_rfl) (by kernel_rfl) (s1162.chunk 0 rfl) (by kernel_rfl) ?_
 refine Op.pures 1 [4] (L' := []) (e' := [(4, .slice ao1154 out1153.length n1155)]) (by kernel_rfl) ?_
 refine Op.goto 5 (by kernel_rfl) ?_
 have s1163 : St h g (ids []) g1141 [[(r1059, .deferred (some []))], [(b1025, Obj.cells #[.slice ao1154 out1153.length n1155] 54 (0, 0))], k1156] h1160 := (((s1162.front 1 rfl).front 1 rfl).front 2 rfl)
 refine At.ofI (AtI.retD (L := [[(b1025, Obj.cells #[.slice ao1154 out1153.length n1155] 54 (0, 0))], k1156]) (f := Tryz.f31) (v := .slice ao1154 out1153.length n1155) [r1059] (by kernel_rfl) (by kernel_rfl) s1163 ?_)
 intro h1164 s1165
 have s1166 : St h g (ids []) g1141 [k1156] h1164 := (s1165).drop
 have s1167 : St h g (ids []) g [k1156] h1164 := s1166.unfrz
 replace R1157 := R1157.flat (fun _ _ _ _ h => h) (g' := g)
 refine hR _ _ _ _ s1167 ⟨(.slice ao1154 out1153.length n1155), k1156, ?_, ?_, rfl, rfl⟩
 ·exact rfl
 ·exact rowEq R1157 (by rw [ho1158, ho1148]; exact owned_end o_t.sort)
end Go.Proofs.YtmjebehhpojihaaGreatDoor.Sw
namespace Go.Proofs.YtmjebehhpojihaaGreatDoor.Sw
set_option linter.unusedVariables false
set_option linter.unusedSimpArgs false
set_option linter.deprecated false
open Go
def OpenLm (ks : List (Str × Value)) (F : Chunk) (ns : List Leaf) : Prop := ∃ ms : List LMem, ks = ksOf ms ∧ F.Perm (flM ms) ∧ RowsM ms ∧ (ms.map (·.l)).Perm ns ∧ SortL ns ∧ ∀ n ∈ ns, n.Path.length ≤ 64
theorem St.forget {h0 : Heap} {g0 : GH} {S0 : Nat → Prop} {g g1 : GH} {L : List Chunk} {h : Heap} (s : St h0 g0 S0 g L h) (h1 : gle g0 g1) (h2 : gle g1 g) : St h0 g0 S0 g1 L h :=
  ⟨s.size, s.frame, h1, fun b hb => s.new b (by obtain ⟨x, hx⟩ := Option.ne_none_iff_exists'.1 hb; rw [h2 _ _ hx]; simp), fun b o hb => s.sub b o (h2 _ _ hb), s.has, s.nodup,
    fun p hp => (by cases hg : g1 p.1 with
      | none => rfl
      | some x => have := h2 _ _ hg; rw [s.sep p hp] at this; cases this), s.own⟩
section
variable {g : GH} {mb : Nat} {ns : List Leaf} {c F : Chunk} {es : Array MapEntry} {clk : Nat} {ks : List (Str × Value)}
theorem IsLm.open_ (h : IsLm g mb ns c) : ∃ es clk ks F, c.Perm ((mb, .map es clk) :: F) ∧ MapR encS es clk ks ∧ OpenLm ks F ns := by
  obtain ⟨es, clk, ms, hp, ⟨h1, h2, h3, h4⟩, hr⟩ := h
  exact ⟨es, clk, ksOf ms, flM ms, hp, h1, ms, rfl, List.Perm.refl _, hr, h2, h3, h4⟩
theorem OpenLm.close (h : OpenLm ks F ns) (hR : MapR encS es clk ks) (hc : c.Perm ((mb, .map es clk) :: F)) : IsLm g mb ns c := by
  obtain ⟨ms, rfl, hF, hr, h2, h3, h4⟩ := h
  exact ⟨es, clk, ms, hc.trans (hF.cons _), ⟨hR, h2, h3, h4⟩, hr⟩
theorem OpenLm.nil : OpenLm [] [] [] := ⟨[], rfl, List.Perm.refl _, fun m hm => absurd hm (by simp), List.Perm.refl _, List.Pairwise.nil, fun n hn => absurd hn (by simp)⟩
theorem OpenLm.sort (h : OpenLm ks F ns) : SortL ns := by obtain ⟨_, _, _, _, _, h3, _⟩ := h; exact h3
theorem OpenLm.len (h : OpenLm ks F ns) : ks.length = ns.length := by
  obtain ⟨ms, rfl, _, _, h2, _⟩ := h
  have := h2.length_eq
  simpa [ksOf] using this
theorem OpenLm.look (h : OpenLm ks F ns) (p : Str) : (lookK ks p).isSome = (findL ns p).isSome := by
  obtain ⟨ms, rfl, hF, hr, h2, h3, h4⟩ := h
  have hn : (ms.map (·.l.Path)).Nodup := by
    have := (h2.map (·.Path)).nodup_iff.2 h3.nodup
    simpa [List.map_map, Function.comp_def] using this
  rcases ks_look hn p with ⟨h5, h6⟩ | ⟨m, _, h5, h6⟩
  · rw [h6, ← findL_perm h2 h3.nodup, h5]; rfl
  · rw [h6, ← findL_perm h2 h3.nodup, h5]; rfl
theorem flM_app (a b : List LMem) : flM (a ++ b) = flM a ++ flM b := by simp [flM]
theorem flM_perm {a b : List LMem} (h : a.Perm b) : (flM a).Perm (flM b) := (h.map chM).flatten
theorem OpenLm.ins (h : OpenLm ks F ns) {l : Leaf} {v : Value} {b : Nat} {ck : Chunk} (hf : findL ns l.Path = none) (hr : Row 5 kU8 g v l.Data ck) (hl : l.Path.length ≤ 64) :
    OpenLm (updK ks l.Path (.pointer (some ⟨b, 0, none⟩))) ((b, .cells (cellsL l v) TL (0, 0)) :: ck ++ F) (withL ns l) := by
  obtain ⟨ms, rfl, hF, hrs, h2, h3, h4⟩ := h
  have hno : ∀ p ∈ ksOf ms, p.1 ≠ l.Path := by
    intro p hp
    obtain ⟨m, hm, rfl⟩ := List.mem_map.1 hp
    exact findL_none.1 hf m.l (h2.mem_iff.1 (List.mem_map.2 ⟨m, hm, rfl⟩))
  have hd : delL ns l.Path = ns := delL_none hf
  have hw : (withL ns l).Perm (l :: ns) := by have := withL_perm ns l; rwa [hd] at this
  refine ⟨ms ++ [⟨b, l, v, ck⟩], ?_, ?_, ?_, ?_, withL_sort h3 l, ?_⟩
  · unfold updK
    rw [if_neg (by
      rw [List.any_eq_true]
      rintro ⟨p, hp, e⟩
      exact hno p hp (by simpa using e))]
    simp [ksOf]
  · rw [flM_app]
    have : flM [⟨b, l, v, ck⟩] = (b, .cells (cellsL l v) TL (0, 0)) :: ck := by simp [flM, chM]
    rw [this]
    exact (List.perm_append_comm).trans (hF.append_right _)
  · intro m hm
    rcases List.mem_append.1 hm with hm | hm
    · exact hrs m hm
    · rw [List.mem_singleton] at hm
      subst hm
      exact hr.flat (fun _ _ _ _ h => h)
  · rw [List.map_append]
    exact ((List.perm_append_comm).trans (h2.cons l)).trans hw.symm
  · intro n hn
    rcases List.mem_cons.1 (hw.mem_iff.1 hn) with rfl | hn
    · exact hl
    · exact h4 n hn
theorem OpenLm.del (h : OpenLm ks F ns) (p : Str) : ∃ F' D, F.Perm (F' ++ D) ∧ OpenLm (delK ks p) F' (delL ns p) := by
  obtain ⟨ms, rfl, hF, hrs, h2, h3, h4⟩ := h
  refine ⟨flM (ms.filter fun m => !decide (m.l.Path = p)), flM (ms.filter fun m => !(!decide (m.l.Path = p))), ?_, ms.filter fun m => !decide (m.l.Path = p), ?_, List.Perm.refl _, fun m hm => hrs m (List.mem_filter.1 hm).1, ?_, delL_sort h3 p, fun n hn => h4 n (List.mem_filter.1 hn).1⟩
  · refine hF.trans ?_
    rw [← flM_app]
    exact flM_perm (List.filter_append_perm _ _).symm
  · unfold delK ksOf
    rw [List.filter_map]
    rfl
  · have := h2.filter fun n => !decide (n.Path = p)
    rw [List.filter_map] at this
    exact this
theorem OpenLm.at_ (h : OpenLm ks F ns) {l : Leaf} {b : Nat} (hR : MapR encS es clk ks) (hf : findL ns l.Path = some l) (he : ∃ e ∈ es.toList, e.key = encS l.Path ∧ e.val = .pointer (some ⟨b, 0, none⟩)) :
    ∃ v c1 F', F.Perm ((b, .cells (cellsL l v) TL (0, 0)) :: c1 ++ F') ∧ Row 5 kU8 g v l.Data c1 ∧
      ∀ (l' : Leaf) (v' : Value) (c1' : Chunk), l'.Path = l.Path → Row 5 kU8 g v' l'.Data c1' → OpenLm ks ((b, .cells (cellsL l' v') TL (0, 0)) :: c1' ++ F') (withL ns l') := by
  obtain ⟨ms, rfl, hF, hrs, h2, h3, h4⟩ := h
  have hn : (ms.map (·.l.Path)).Nodup := by
    have := (h2.map (·.Path)).nodup_iff.2 h3.nodup
    simpa [List.map_map, Function.comp_def] using this
  obtain ⟨e, he1, he2, he3⟩ := he
  obtain ⟨m, hm, hml, hmb⟩ : ∃ m ∈ ms, m.l = l ∧ m.b = b := by
    have : (e.key, e.val) ∈ es.toList.map (fun e => (e.key, e.val)) := List.mem_map.2 ⟨e, he1, rfl⟩
    rw [hR.1] at this
    obtain ⟨q, hq, eq⟩ := List.mem_map.1 this
    obtain ⟨m, hm, rfl⟩ := List.mem_map.1 hq
    simp only [Prod.mk.injEq, he2, he3, Value.pointer.injEq, Option.some.injEq, Addr.mk.injEq] at eq
    have hp : m.l.Path = l.Path := keyS.inj _ _ eq.1
    have h6 : findL (ms.map (·.l)) m.l.Path = some m.l := findL_of (by simpa [List.map_map, Function.comp_def] using hn) (List.mem_map.2 ⟨m, hm, rfl⟩)
    rw [findL_perm h2 h3.nodup, hp, hf] at h6
    exact ⟨m, hm, (Option.some.inj h6).symm, eq.2.1⟩
  subst hml hmb
  obtain ⟨a, d, rfl⟩ := List.append_of_mem hm
  refine ⟨m.v, m.c, flM (a ++ d), ?_, (hrs m hm).flat (fun _ _ _ _ h => h), ?_⟩
  · refine hF.trans ((flM_perm (List.perm_middle)).trans ?_)
    exact List.Perm.refl _
  · intro l' v' c1' hp hr'
    refine ⟨a ++ ⟨m.b, l', v', c1'⟩ :: d, ?_, ?_, ?_, ?_, withL_sort h3 l', ?_⟩
    · simp [ksOf, hp]
    · exact (flM_perm (List.perm_middle (a := (⟨m.b, l', v', c1'⟩ : LMem)) (l₁ := a) (l₂ := d)).symm)
    · intro q hq
      rcases List.mem_append.1 hq with hq | hq
      · exact hrs q (by simp [hq])
      · rcases List.mem_cons.1 hq with rfl | hq
        · exact hr'.flat (fun _ _ _ _ h => h)
        · exact hrs q (by simp [hq])
    · rw [List.map_append, List.map_cons] at h2 ⊢
      have h7 : (m.l :: ((a.map (·.l)) ++ d.map (·.l))).Perm ns := (List.perm_middle.symm).trans h2
      have h8 : delL ns l'.Path = delL ns m.l.Path := by rw [hp]
      have h9 : ((a.map (·.l)) ++ d.map (·.l)).Perm (delL ns m.l.Path) := by
        have h10 := h7.filter fun n => !decide (n.Path = m.l.Path)
        rw [List.filter_cons] at h10
        simp only [decide_true, Bool.not_true, Bool.false_eq_true, if_false] at h10
        have h11 : (((a.map (·.l)) ++ d.map (·.l)).filter fun n => !decide (n.Path = m.l.Path)) = (a.map (·.l)) ++ d.map (·.l) := by
          rw [List.filter_eq_self]
          intro n hn'
          have hnd : ((m.l :: ((a.map (·.l)) ++ d.map (·.l))).map (fun n : Leaf => n.Path)).Nodup := (h7.map (fun n : Leaf => n.Path)).nodup_iff.2 h3.nodup
          rw [List.map_cons] at hnd
          have := (List.nodup_cons.1 hnd).1
          simp only [Bool.not_eq_true', decide_eq_false_iff_not]
          exact fun e => this (e ▸ List.mem_map.2 ⟨n, hn', rfl⟩)
        rw [h11] at h10
        exact h10
      refine (List.perm_middle).trans (((h9.cons l').trans ?_))
      have := (withL_perm ns l').symm
      rwa [h8] at this
    · intro n hn'
      rcases List.mem_cons.1 ((withL_perm ns l').mem_iff.1 hn') with rfl | hn'
      · rw [hp]; exact h4 m.l (h2.mem_iff.1 (by simp))
      · exact h4 n (List.mem_filter.1 hn').1
theorem leaf_own {h0 : Heap} {g0 : GH} {S0 : Nat → Prop} {L : List Chunk} {h : Heap} {C : Chunk} {bt b0 mb' b : Nat} {l : Leaf} {T : TypeId} (s : St h0 g0 S0 g (C :: L) h) (h1 : (bt, Obj.cells #[.map (some b0)] T (0, 0)) ∈ C) (h2 : (b0, Obj.map es clk) ∈ C)
    (h3 : gadd g C bt = some (.cells #[.map (some mb')] T (0, 0))) (h4 : LeafAt (gadd g C) mb' l b) : ∃ e ∈ es.toList, e.key = encS l.Path ∧ e.val = .pointer (some ⟨b, 0, none⟩) := by
  have h5 := gadd_mem (g := g) s.keys h1
  rw [h3] at h5
  simp only [Option.some.injEq, Obj.cells.injEq, and_true, Array.mk.injEq, List.cons.injEq, Value.map.injEq] at h5
  subst h5
  obtain ⟨es', clk', h6, h7⟩ := h4
  have h8 := gadd_mem (g := g) s.keys h2
  rw [h6] at h8
  simp only [Option.some.injEq, Obj.map.injEq] at h8
  obtain ⟨rfl, _⟩ := h8
  exact h7
end
end Go.Proofs.YtmjebehhpojihaaGreatDoor.Sw
