/- Walks of the functions that are named below: what each computes, as plain Lean words. Printed by a program of our own. -/
import Derived.Test.YtphonojjgnbpfaaDoorSwPath2
import Derived.Test.YtphonojjgnbpfaaDoorSwTypes
import Derived.Test.YtphonojjgnbpfaaDoorSwWatchP
namespace Go.Proofs.YtphonojjgnbpfaaDoor.Sw
open Go
set_option maxRecDepth 100000
set_option linter.unusedVariables false
set_option linter.unusedSimpArgs false
set_option linter.deprecated false


/-- cmp.isNaN[string] -/
theorem isNaNS (B : World) (h : Heap) (g : GH) (hg : Sub g h) (hG : Glob g) (x : List UInt8)  :
    Spec Tryd.prog B 97 #[.string (mkS x)] h g [] (fun rv g' L' => rv = .bool false ∧ g' = g ∧ L' = []) := by
  refine Spec.of_at (f := Tryd.f97) (e := [(0, .string (mkS x))]) Tryd.func97 (by kernel_rfl) (Nat.le_of_ble_eq_true (by kernel_rfl)) (by kernel_rfl) (by kernel_rfl) ?_
  intro R hR
  have s0 := St.init hg
  refine At.reg (L := [(0, false)]) (by kernel_rfl) ?_
  refine Op.pures 1 [0] (L' := []) (e' := [(0, .string (mkS x))]) (by kernel_rfl) ?_
  refine Op.goto 1 (by kernel_rfl) ?_
  refine At.reg (L := [(0, false), (1, false), (2, false), (3, false)]) (by kernel_rfl) ?_
  refine Op.pures 2 [3, 4] (L' := [(2, false), (3, false)]) (e' := [(3, .string (mkS x)), (4, .string (mkS x))]) (by kernel_rfl) ?_
  refine Op.val (dst := some 5) (v := .bool (!((mkS x).toList == (mkS x).toList))) (v' := .bool false) (by kernel_rfl) (by simp) ?_
  refine Op.pures 1 [2] (L' := []) (e' := [(2, .bool false)]) (by kernel_rfl) ?_
  refine Op.goto 2 (by kernel_rfl) ?_
  refine At.ret (f := Tryd.f97) (v := .bool false) (by kernel_rfl) (by kernel_rfl) ?_
  refine hR _ _ _ _ s0 ⟨?_, rfl, rfl⟩
  exact (eqB (by rfl))

/-- cmp.isNaN[int] -/
theorem isNaNI (B : World) (h : Heap) (g : GH) (hg : Sub g h) (hG : Glob g) (x : Int)  :
    Spec Tryd.prog B 98 #[.int .i64 x] h g [] (fun rv g' L' => rv = .bool false ∧ g' = g ∧ L' = []) := by
  refine Spec.of_at (f := Tryd.f98) (e := [(0, .int .i64 x)]) Tryd.func98 (by kernel_rfl) (Nat.le_of_ble_eq_true (by kernel_rfl)) (by kernel_rfl) (by kernel_rfl) ?_
  intro R hR
  have s0 := St.init hg
  refine At.reg (L := [(0, false)]) (by kernel_rfl) ?_
  refine Op.pures 1 [0] (L' := []) (e' := [(0, .int .i64 x)]) (by kernel_rfl) ?_
  refine Op.goto 1 (by kernel_rfl) ?_
  refine At.reg (L := [(0, false), (1, false), (2, false), (3, false)]) (by kernel_rfl) ?_
  refine Op.pures 2 [3, 4] (L' := [(2, false), (3, false)]) (e' := [(3, .int .i64 x), (4, .int .i64 x)]) (by kernel_rfl) ?_
  refine Op.val (dst := some 5) (v := .bool (x != x)) (v' := .bool false) (by kernel_rfl) (by simp) ?_
  refine Op.pures 1 [2] (L' := []) (e' := [(2, .bool false)]) (by kernel_rfl) ?_
  refine Op.goto 2 (by kernel_rfl) ?_
  refine At.ret (f := Tryd.f98) (v := .bool false) (by kernel_rfl) (by kernel_rfl) ?_
  refine hR _ _ _ _ s0 ⟨?_, rfl, rfl⟩
  exact (eqB (by rfl))

/-- cmp.Compare[string] -/
theorem cmpS_ (B : World) (h : Heap) (g : GH) (hg : Sub g h) (hG : Glob g) (x : List UInt8) (y : List UInt8)  :
    Spec Tryd.prog B 76 #[.string (mkS x), .string (mkS y)] h g [] (fun rv g' L' => rv = .int .i64 (cmpS x y) ∧ g' = g ∧ L' = []) := by
  refine Spec.of_at (f := Tryd.f76) (e := [(0, .string (mkS x)), (1, .string (mkS y))]) Tryd.func76 (by kernel_rfl) (Nat.le_of_ble_eq_true (by kernel_rfl)) (by kernel_rfl) (by kernel_rfl) ?_
  intro R hR
  have s0 := St.init hg
  refine At.reg (L := [(0, false)]) (by kernel_rfl) ?_
  refine Op.pures 1 [0, 1] (L' := []) (e' := [(0, .string (mkS x)), (1, .string (mkS y))]) (by kernel_rfl) ?_
  refine Op.goto 1 (by kernel_rfl) ?_
  refine At.reg (L := [(0, false), (1, false), (2, false)]) (by kernel_rfl) ?_
  refine Op.pures 1 [0, 1, 7] (L' := [(1, false), (2, false)]) (e' := [(0, .string (mkS x)), (1, .string (mkS y)), (7, .string (mkS x))]) (by kernel_rfl) ?_
  refine Op.call0 (dst := some 8) (f := 97) (args := #[.string (mkS x)]) (by kernel_rfl) s0 (isNaNS _ _ _ s0.sub hG x  ) ?_
  rintro _ g1638 _ h1636 hle1639 s1637 ⟨rfl, hgg, rfl⟩; subst g1638; clear hle1639
  refine Op.pures 1 [0, 1, 5] (L' := []) (e' := [(0, .string (mkS x)), (1, .string (mkS y)), (5, .bool false)]) (by kernel_rfl) ?_
  refine Op.goto 2 (by kernel_rfl) ?_
  refine At.reg (L := [(0, false), (1, false), (2, false)]) (by kernel_rfl) ?_
  refine Op.pures 1 [0, 1, 5, 9] (L' := [(1, false), (2, false)]) (e' := [(0, .string (mkS x)), (1, .string (mkS y)), (5, .bool false), (9, .string (mkS y))]) (by kernel_rfl) ?_
  refine Op.call0 (dst := some 10) (f := 97) (args := #[.string (mkS y)]) (by kernel_rfl) s1637 (isNaNS _ _ _ s1637.sub hG y  ) ?_
  rintro _ g1642 _ h1640 hle1643 s1641 ⟨rfl, hgg, rfl⟩; subst g1642; clear hle1643
  refine Op.pures 1 [0, 1, 5, 6] (L' := []) (e' := [(0, .string (mkS x)), (1, .string (mkS y)), (5, .bool false), (6, .bool false)]) (by kernel_rfl) ?_
  refine Op.goto 3 (by kernel_rfl) ?_
  refine At.reg (L := [(0, false)]) (by kernel_rfl) ?_
  refine Op.pures 1 [0, 1, 6, 11] (L' := []) (e' := [(0, .string (mkS x)), (1, .string (mkS y)), (6, .bool false), (11, .bool false)]) (by kernel_rfl) ?_
  refine Op.goto 4 (by kernel_rfl) ?_
  refine At.condF (c := .tmp 11) (by kernel_rfl) (by kernel_rfl) (by kernel_rfl) 11 (by kernel_rfl) ?_
  refine At.reg (L := [(0, false)]) (by kernel_rfl) ?_
  refine Op.pures 1 [0, 1, 13] (L' := []) (e' := [(0, .string (mkS x)), (1, .string (mkS y)), (13, .bool false)]) (by kernel_rfl) ?_
  refine Op.goto 12 (by kernel_rfl) ?_
  refine At.condF (c := .tmp 13) (by kernel_rfl) (by kernel_rfl) (by kernel_rfl) 15 (by kernel_rfl) ?_
  refine At.reg (L := [(0, false), (1, false), (2, false)]) (by kernel_rfl) ?_
  refine Op.pures 2 [0, 1, 14, 15] (L' := [(2, false)]) (e' := [(0, .string (mkS x)), (1, .string (mkS y)), (14, .string (mkS x)), (15, .string (mkS y))]) (by kernel_rfl) ?_
  refine Op.val (dst := some 16) (v := .bool (Go.Op.bytesLess (mkS x).toList (mkS y).toList)) (v' := .bool (Go.Op.bytesLess x y)) (by kernel_rfl) (by rw [toList_mkS, toList_mkS]) ?_
  refine Op.goto 16 (by kernel_rfl) ?_
  refine At.cond (b := Go.Op.bytesLess x y) (c := .tmp 16) (by kernel_rfl) (by kernel_rfl) (by kernel_rfl) 17 19 (by kernel_rfl) (by kernel_rfl) (fun hb => ?_) (fun hb => ?_)
  · have c1644 : (Go.Op.bytesLess x y) = true := hb
    clear hb
    refine At.keep [] ?_; show At _ _ _ [] _
    refine At.reg (L := [(0, false)]) (by kernel_rfl) ?_
    refine Op.pures 1 [4] (L' := []) (e' := [(4, .int .i64 (-1))]) (by kernel_rfl) ?_
    refine Op.goto 18 (by kernel_rfl) ?_
    refine At.ret (f := Tryd.f76) (v := .int .i64 (-1)) (by kernel_rfl) (by kernel_rfl) ?_
    refine hR _ _ _ _ s1641 ⟨?_, rfl, rfl⟩
    exact (eqI (by first | exact cmpS_a c1644 | exact cmpS_b c1644 {c1} | exact cmpS_c c1644 {c1}))
  · have c1645 : (Go.Op.bytesLess x y) = false := hb
    clear hb
    refine At.keep [0, 1] ?_; show At _ _ _ [(0, .string (mkS x)), (1, .string (mkS y))] _
    refine At.reg (L := [(0, false), (1, false), (2, false)]) (by kernel_rfl) ?_
    refine Op.pures 2 [17, 18] (L' := [(2, false)]) (e' := [(17, .string (mkS x)), (18, .string (mkS y))]) (by kernel_rfl) ?_
    refine Op.val (dst := some 19) (v := .bool (!(Go.Op.bytesLess (mkS x).toList (mkS y).toList || (mkS x).toList == (mkS y).toList))) (v' := .bool (!(Go.Op.bytesLess x y || x == y))) (by kernel_rfl) (by rw [toList_mkS, toList_mkS]) ?_
    refine Op.goto 20 (by kernel_rfl) ?_
    refine At.cond (b := !(Go.Op.bytesLess x y || x == y)) (c := .tmp 19) (by kernel_rfl) (by kernel_rfl) (by kernel_rfl) 21 23 (by kernel_rfl) (by kernel_rfl) (fun hb => ?_) (fun hb => ?_)
    · have c1646 : (Go.Op.bytesLess x y || x == y) = false := (notT hb)
      clear hb
      refine At.keep [] ?_; show At _ _ _ [] _
      refine At.reg (L := [(0, false)]) (by kernel_rfl) ?_
      refine Op.pures 1 [4] (L' := []) (e' := [(4, .int .i64 1)]) (by kernel_rfl) ?_
      refine Op.goto 22 (by kernel_rfl) ?_
      refine At.ret (f := Tryd.f76) (v := .int .i64 1) (by kernel_rfl) (by kernel_rfl) ?_
      refine hR _ _ _ _ s1641 ⟨?_, rfl, rfl⟩
      exact (eqI (by first | exact cmpS_a c1645 | exact cmpS_b c1645 c1646 | exact cmpS_c c1645 c1646))
    · have c1647 : (Go.Op.bytesLess x y || x == y) = true := (notF hb)
      clear hb
      refine At.keep [] ?_; show At _ _ _ [] _
      refine At.reg (L := [(0, false)]) (by kernel_rfl) ?_
      refine Op.pures 1 [4] (L' := []) (e' := [(4, .int .i64 0)]) (by kernel_rfl) ?_
      refine Op.goto 24 (by kernel_rfl) ?_
      refine At.ret (f := Tryd.f76) (v := .int .i64 0) (by kernel_rfl) (by kernel_rfl) ?_
      refine hR _ _ _ _ s1641 ⟨?_, rfl, rfl⟩
      exact (eqI (by first | exact cmpS_a c1645 | exact cmpS_b c1645 c1647 | exact cmpS_c c1645 c1647))

/-- cmp.Compare[int] -/
theorem cmpI_ (B : World) (h : Heap) (g : GH) (hg : Sub g h) (hG : Glob g) (x : Int) (y : Int)  :
    Spec Tryd.prog B 77 #[.int .i64 x, .int .i64 y] h g [] (fun rv g' L' => rv = .int .i64 (cmpI x y) ∧ g' = g ∧ L' = []) := by
  refine Spec.of_at (f := Tryd.f77) (e := [(0, .int .i64 x), (1, .int .i64 y)]) Tryd.func77 (by kernel_rfl) (Nat.le_of_ble_eq_true (by kernel_rfl)) (by kernel_rfl) (by kernel_rfl) ?_
  intro R hR
  have s0 := St.init hg
  refine At.reg (L := [(0, false)]) (by kernel_rfl) ?_
  refine Op.pures 1 [0, 1] (L' := []) (e' := [(0, .int .i64 x), (1, .int .i64 y)]) (by kernel_rfl) ?_
  refine Op.goto 1 (by kernel_rfl) ?_
  refine At.reg (L := [(0, false), (1, false), (2, false)]) (by kernel_rfl) ?_
  refine Op.pures 1 [0, 1, 7] (L' := [(1, false), (2, false)]) (e' := [(0, .int .i64 x), (1, .int .i64 y), (7, .int .i64 x)]) (by kernel_rfl) ?_
  refine Op.call0 (dst := some 8) (f := 98) (args := #[.int .i64 x]) (by kernel_rfl) s0 (isNaNI _ _ _ s0.sub hG x  ) ?_
  rintro _ g1650 _ h1648 hle1651 s1649 ⟨rfl, hgg, rfl⟩; subst g1650; clear hle1651
  refine Op.pures 1 [0, 1, 5] (L' := []) (e' := [(0, .int .i64 x), (1, .int .i64 y), (5, .bool false)]) (by kernel_rfl) ?_
  refine Op.goto 2 (by kernel_rfl) ?_
  refine At.reg (L := [(0, false), (1, false), (2, false)]) (by kernel_rfl) ?_
  refine Op.pures 1 [0, 1, 5, 9] (L' := [(1, false), (2, false)]) (e' := [(0, .int .i64 x), (1, .int .i64 y), (5, .bool false), (9, .int .i64 y)]) (by kernel_rfl) ?_
  refine Op.call0 (dst := some 10) (f := 98) (args := #[.int .i64 y]) (by kernel_rfl) s1649 (isNaNI _ _ _ s1649.sub hG y  ) ?_
  rintro _ g1654 _ h1652 hle1655 s1653 ⟨rfl, hgg, rfl⟩; subst g1654; clear hle1655
  refine Op.pures 1 [0, 1, 5, 6] (L' := []) (e' := [(0, .int .i64 x), (1, .int .i64 y), (5, .bool false), (6, .bool false)]) (by kernel_rfl) ?_
  refine Op.goto 3 (by kernel_rfl) ?_
  refine At.reg (L := [(0, false)]) (by kernel_rfl) ?_
  refine Op.pures 1 [0, 1, 6, 11] (L' := []) (e' := [(0, .int .i64 x), (1, .int .i64 y), (6, .bool false), (11, .bool false)]) (by kernel_rfl) ?_
  refine Op.goto 4 (by kernel_rfl) ?_
  refine At.condF (c := .tmp 11) (by kernel_rfl) (by kernel_rfl) (by kernel_rfl) 11 (by kernel_rfl) ?_
  refine At.reg (L := [(0, false)]) (by kernel_rfl) ?_
  refine Op.pures 1 [0, 1, 13] (L' := []) (e' := [(0, .int .i64 x), (1, .int .i64 y), (13, .bool false)]) (by kernel_rfl) ?_
  refine Op.goto 12 (by kernel_rfl) ?_
  refine At.condF (c := .tmp 13) (by kernel_rfl) (by kernel_rfl) (by kernel_rfl) 15 (by kernel_rfl) ?_
  refine At.reg (L := [(0, false), (1, false), (2, false)]) (by kernel_rfl) ?_
  refine Op.pures 3 [0, 1, 16] (L' := []) (e' := [(0, .int .i64 x), (1, .int .i64 y), (16, .bool (decide (x < y)))]) (by kernel_rfl) ?_
  refine Op.goto 16 (by kernel_rfl) ?_
  refine At.cond (b := decide (x < y)) (c := .tmp 16) (by kernel_rfl) (by kernel_rfl) (by kernel_rfl) 17 19 (by kernel_rfl) (by kernel_rfl) (fun hb => ?_) (fun hb => ?_)
  · have c1656 : x < y := of_decide_eq_true hb
    clear hb
    refine At.keep [] ?_; show At _ _ _ [] _
    refine At.reg (L := [(0, false)]) (by kernel_rfl) ?_
    refine Op.pures 1 [4] (L' := []) (e' := [(4, .int .i64 (-1))]) (by kernel_rfl) ?_
    refine Op.goto 18 (by kernel_rfl) ?_
    refine At.ret (f := Tryd.f77) (v := .int .i64 (-1)) (by kernel_rfl) (by kernel_rfl) ?_
    refine hR _ _ _ _ s1653 ⟨?_, rfl, rfl⟩
    exact (eqI (by first | (unfold cmpI; rw [if_pos (by assumption)]) | (unfold cmpI; rw [if_neg (by assumption), if_pos (by assumption)]) | (unfold cmpI; rw [if_neg (by assumption), if_neg (by assumption)])))
  · have c1657 : ¬ (x < y) := of_decide_eq_false hb
    clear hb
    refine At.keep [0, 1] ?_; show At _ _ _ [(0, .int .i64 x), (1, .int .i64 y)] _
    refine At.reg (L := [(0, false), (1, false), (2, false)]) (by kernel_rfl) ?_
    refine Op.pures 3 [19] (L' := []) (e' := [(19, .bool (decide (x > y)))]) (by kernel_rfl) ?_
    refine Op.goto 20 (by kernel_rfl) ?_
    refine At.cond (b := decide (x > y)) (c := .tmp 19) (by kernel_rfl) (by kernel_rfl) (by kernel_rfl) 21 23 (by kernel_rfl) (by kernel_rfl) (fun hb => ?_) (fun hb => ?_)
    · have c1658 : x > y := of_decide_eq_true hb
      clear hb
      refine At.keep [] ?_; show At _ _ _ [] _
      refine At.reg (L := [(0, false)]) (by kernel_rfl) ?_
      refine Op.pures 1 [4] (L' := []) (e' := [(4, .int .i64 1)]) (by kernel_rfl) ?_
      refine Op.goto 22 (by kernel_rfl) ?_
      refine At.ret (f := Tryd.f77) (v := .int .i64 1) (by kernel_rfl) (by kernel_rfl) ?_
      refine hR _ _ _ _ s1653 ⟨?_, rfl, rfl⟩
      exact (eqI (by first | (unfold cmpI; rw [if_pos (by assumption)]) | (unfold cmpI; rw [if_neg (by assumption), if_pos (by assumption)]) | (unfold cmpI; rw [if_neg (by assumption), if_neg (by assumption)])))
    · have c1659 : ¬ (x > y) := of_decide_eq_false hb
      clear hb
      refine At.keep [] ?_; show At _ _ _ [] _
      refine At.reg (L := [(0, false)]) (by kernel_rfl) ?_
      refine Op.pures 1 [4] (L' := []) (e' := [(4, .int .i64 0)]) (by kernel_rfl) ?_
      refine Op.goto 24 (by kernel_rfl) ?_
      refine At.ret (f := Tryd.f77) (v := .int .i64 0) (by kernel_rfl) (by kernel_rfl) ?_
      refine hR _ _ _ _ s1653 ⟨?_, rfl, rfl⟩
      exact (eqI (by first | (unfold cmpI; rw [if_pos (by assumption)]) | (unfold cmpI; rw [if_neg (by assumption), if_pos (by assumption)]) | (unfold cmpI; rw [if_neg (by assumption), if_neg (by assumption)])))

/-- cmp.Or[int] -/
theorem cmpOr (B : World) (h : Heap) (g : GH) (hg : Sub g h) (hG : Glob g) (v_l : Value) (l : List Int) (h_l : SlR g 3 (kInt .i64) v_l l) (hl : l.length ≤ 1000000000) :
    Spec Tryd.prog B 75 #[v_l] h g [] (fun rv g' L' => rv = .int .i64 (orI l) ∧ g' = g ∧ L' = []) := by
  obtain ⟨a_l, n_l, rfl⟩ := h_l.form
  refine Spec.of_at (f := Tryd.f75) (e := [(0, .slice a_l l.length n_l)]) Tryd.func75 (by kernel_rfl) (Nat.le_of_ble_eq_true (by kernel_rfl)) (by kernel_rfl) (by kernel_rfl) ?_
  intro R hR
  have s0 := St.init hg
  refine At.reg (L := [(0, false)]) (by kernel_rfl) ?_
  refine Op.pures 1 [0] (L' := []) (e' := [(0, .slice a_l l.length n_l)]) (by kernel_rfl) ?_
  refine Op.goto 1 (by kernel_rfl) ?_
  refine At.reg (L := [(0, false)]) (by kernel_rfl) ?_
  refine Op.pures 1 [0, 3] (L' := []) (e' := [(0, .slice a_l l.length n_l), (3, .int .i64 0)]) (by kernel_rfl) ?_
  refine Op.goto 2 (by kernel_rfl) ?_
  refine At.reg (L := [(0, false), (1, false), (2, false)]) (by kernel_rfl) ?_
  refine Op.pures 3 [3, 6, 7, 8] (L' := []) (e' := [(3, .int .i64 0), (6, .slice a_l l.length n_l), (7, .int .i64 (l.length : Int)), (8, .int .i64 0)]) (by kernel_rfl) ?_
  refine Op.goto 3 (by kernel_rfl) ?_
  have loop3 : ∀ (m : Nat) (i : Int) (h1660 : Heap) (hm : l.length - i.toNat < m) (h0 : 0 ≤ i) (h2 : i ≤ l.length) (hz : orI l = orI (l.drop i.toNat))    (s_loop31659 : St h g (ids []) g [] h1660), At (fctx Tryd.prog B 75 Tryd.f75 R) [] 3 [(3, .int .i64 0), (6, .slice a_l l.length n_l), (7, .int .i64 (l.length : Int)), (8, .int .i64 i)] h1660 := by
    intro m; induction m with
    | zero => intros; omega
    | succ m ih3 =>
      intro i h1660 hm h0 h2 hz s_loop31659
      refine At.reg (L := [(0, false)]) (by kernel_rfl) ?_
      refine Op.pures 1 [3, 6, 7, 8, 9] (L' := []) (e' := [(3, .int .i64 0), (6, .slice a_l l.length n_l), (7, .int .i64 (l.length : Int)), (8, .int .i64 i), (9, .bool (decide (i < (l.length : Int))))]) (by kernel_rfl) ?_
      refine Op.goto 4 (by kernel_rfl) ?_
      refine At.cond (b := decide (i < (l.length : Int))) (c := .tmp 9) (by kernel_rfl) (by kernel_rfl) (by kernel_rfl) 5 11 (by kernel_rfl) (by kernel_rfl) (fun hb => ?_) (fun hb => ?_)
      · have c1661 : i < (l.length : Int) := of_decide_eq_true hb
        clear hb
        refine At.keep [3, 6, 7, 8] ?_; show At _ _ _ [(3, .int .i64 0), (6, .slice a_l l.length n_l), (7, .int .i64 (l.length : Int)), (8, .int .i64 i)] _
        refine At.reg (L := [(0, false), (1, false), (2, false)]) (by kernel_rfl) ?_
        obtain ⟨x1662, hx1663⟩ : ∃ c, l[(i : Int).toNat]? = some c := ⟨_, List.getElem?_eq_getElem (by omega)⟩
        obtain ⟨b1664, o1665, cu1666, fz1667, ha1668, hb1669, hk1670⟩ := SlR.at_ h_l _ hx1663
        cases ha1668
        refine Op.idx (T := 38) (E := 3) (sz := 1) (by_ := 8) (n := l.length) (c := n_l) (k := .i64) (x := (.tmp 6)) (ix := (.tmp 8)) (dst := 10) (bk := b1664) (o := o1665) (m := i) (by kernel_rfl) (by kernel_rfl) (by kernel_rfl) (by kernel_rfl) (by omega) (by omega) ?_
        replace hk1670 : cut _ _ _ = [.int .i64 x1662] := hk1670
        refine Op.load (T := 3) (x := (.tmp 10)) (o := o1665 + (i : Int).toNat * 1) (d := 11) (n := 1) (v := .int .i64 x1662) (by kernel_rfl) (by kernel_rfl) (by kernel_rfl) (s_loop31659.sub _ _ hb1669) (cut_get hk1670 0 rfl) ?_
        refine Op.pures 1 [3, 5, 6, 7, 8] (L' := []) (e' := [(3, .int .i64 0), (5, .int .i64 x1662), (6, .slice (some ⟨b1664, o1665, none⟩) l.length n_l), (7, .int .i64 (l.length : Int)), (8, .int .i64 i)]) (by kernel_rfl) ?_
        refine Op.goto 6 (by kernel_rfl) ?_
        refine At.reg (L := [(0, false), (1, false), (2, false)]) (by kernel_rfl) ?_
        refine Op.pures 3 [3, 5, 6, 7, 8, 14] (L' := []) (e' := [(3, .int .i64 0), (5, .int .i64 x1662), (6, .slice (some ⟨b1664, o1665, none⟩) l.length n_l), (7, .int .i64 (l.length : Int)), (8, .int .i64 i), (14, .bool (x1662 != (0 : Int)))]) (by kernel_rfl) ?_
        refine Op.goto 7 (by kernel_rfl) ?_
        refine At.cond (b := x1662 != (0 : Int)) (c := .tmp 14) (by kernel_rfl) (by kernel_rfl) (by kernel_rfl) 8 10 (by kernel_rfl) (by kernel_rfl) (fun hb => ?_) (fun hb => ?_)
        · have c1671 : ¬ (x1662 = (0 : Int)) := bneT hb
          clear hb
          refine At.keep [5] ?_; show At _ _ _ [(5, .int .i64 x1662)] _
          refine At.reg (L := [(0, false), (1, false)]) (by kernel_rfl) ?_
          refine Op.pures 2 [2] (L' := []) (e' := [(2, .int .i64 x1662)]) (by kernel_rfl) ?_
          refine Op.goto 9 (by kernel_rfl) ?_
          refine At.ret (f := Tryd.f75) (v := .int .i64 x1662) (by kernel_rfl) (by kernel_rfl) ?_
          refine hR _ _ _ _ s_loop31659 ⟨?_, rfl, rfl⟩
          exact (eqI (by exact orI_hit hz hx1663 c1671))
        · have c1672 : x1662 = (0 : Int) := bneF hb
          clear hb
          refine At.keep [3, 6, 7, 8] ?_; show At _ _ _ [(3, .int .i64 0), (6, .slice (some ⟨b1664, o1665, none⟩) l.length n_l), (7, .int .i64 (l.length : Int)), (8, .int .i64 i)] _
          refine At.reg (L := [(0, false), (1, false)]) (by kernel_rfl) ?_
          refine Op.val (dst := some 16) (v := .int .i64 (IntKind.wrap .i64 (i + 1))) (v' := .int .i64 (i + 1)) (by kernel_rfl) (wrapEq_i64 (by omega) (by omega)) ?_
          refine Op.pures 1 [3, 6, 7, 8] (L' := []) (e' := [(3, .int .i64 0), (6, .slice (some ⟨b1664, o1665, none⟩) l.length n_l), (7, .int .i64 (l.length : Int)), (8, .int .i64 (i + 1))]) (by kernel_rfl) ?_
          refine Op.goto 3 (by kernel_rfl) ?_
          exact ih3  (i + 1) _ (by omega) (by omega) (by omega) (by exact orI_step hz h0 hx1663 c1672)  s_loop31659
      · have c1673 : ¬ (i < (l.length : Int)) := of_decide_eq_false hb
        clear hb
        refine At.keep [3] ?_; show At _ _ _ [(3, .int .i64 0)] _
        refine At.reg (L := [(0, false), (1, false)]) (by kernel_rfl) ?_
        refine Op.pures 2 [2] (L' := []) (e' := [(2, .int .i64 0)]) (by kernel_rfl) ?_
        refine Op.goto 12 (by kernel_rfl) ?_
        refine At.ret (f := Tryd.f75) (v := .int .i64 0) (by kernel_rfl) (by kernel_rfl) ?_
        refine hR _ _ _ _ s_loop31659 ⟨?_, rfl, rfl⟩
        exact (eqI (by exact orI_end hz c1673))
  exact loop3 _  0 _ (Nat.lt_succ_self _) (by omega) (by omega) (by rfl)  s0

/-- stanchion/watch.order -/
theorem orderW_ (B : World) (h : Heap) (g : GH) (hg : Sub g h) (hG : Glob g) (a : Watch) (b : Watch)  :
    Spec Tryd.prog B 49 #[.agg #[.int .i64 a.Client, .int .i64 a.Kind, .string (mkS a.Path)], .agg #[.int .i64 b.Client, .int .i64 b.Kind, .string (mkS b.Path)]] h g [] (fun rv g' L' => rv = .int .i64 (ordW a b) ∧ g' = g ∧ L' = []) := by
  refine Spec.of_at (f := Tryd.f49) (e := [(0, .agg #[.int .i64 a.Client, .int .i64 a.Kind, .string (mkS a.Path)]), (1, .agg #[.int .i64 b.Client, .int .i64 b.Kind, .string (mkS b.Path)])]) Tryd.func49 (by kernel_rfl) (Nat.le_of_ble_eq_true (by kernel_rfl)) (by kernel_rfl) (by kernel_rfl) ?_
  intro R hR
  have s0 := St.init hg
  refine At.reg (L := [(0, false), (1, false), (2, false)]) (by kernel_rfl) ?_
  refine Op.box (T := 27) (x := (.tmp 0)) (d := 2) (cs := #[.int .i64 a.Client, .int .i64 a.Kind, .string (mkS a.Path)]) (by kernel_rfl) (by kernel_rfl) s0 ?_
  intro b1674 h1675 s1676
  refine Op.box (T := 27) (x := (.tmp 1)) (d := 3) (cs := #[.int .i64 b.Client, .int .i64 b.Kind, .string (mkS b.Path)]) (by kernel_rfl) (by kernel_rfl) s1676 ?_
  intro b1677 h1678 s1679
  refine Op.pures 1 [2, 3] (L' := []) (e' := [(2, .pointer (some ⟨b1674, 0, none⟩)), (3, .pointer (some ⟨b1677, 0, none⟩))]) (by kernel_rfl) ?_
  refine Op.goto 1 (by kernel_rfl) ?_
  refine At.draw (by kernel_rfl) (fun _ => False) [(0, true), (2, true), (5, true), (7, true), (10, true), (12, true), (1, true), (3, true), (6, true), (8, true), (11, true), (13, true), (4, false), (9, false), (14, false), (15, false), (16, false), (17, true)] (by kernel_rfl) ?_
  refine Op.pures 6 [5, 7, 10, 12, 15, 17] (L' := [(1, true), (3, true), (6, true), (8, true), (11, true), (13, true), (4, false), (9, false), (14, false), (15, false), (16, false), (17, true)]) (e' := [(5, .pointer (some ⟨b1674, 2, none⟩)), (7, .pointer (some ⟨b1677, 2, none⟩)), (10, .pointer (some ⟨b1674, 1, none⟩)), (12, .pointer (some ⟨b1677, 1, none⟩)), (15, .pointer (some ⟨b1674, 0, none⟩)), (17, .pointer (some ⟨b1677, 0, none⟩))]) (by kernel_rfl) ?_
  refine Op.loadF (T := 9) (x := (.tmp 5)) (o := 2) (d := 6) (n := 1) (v := .string (mkS a.Path)) (by kernel_rfl) (by kernel_rfl) (by kernel_rfl) (fun h => h) (s1679.chunk 1 rfl) (by kernel_rfl) ?_
  refine Op.loadF (T := 9) (x := (.tmp 7)) (o := 2) (d := 8) (n := 1) (v := .string (mkS b.Path)) (by kernel_rfl) (by kernel_rfl) (by kernel_rfl) (fun h => h) (s1679.chunk 0 rfl) (by kernel_rfl) ?_
  refine Op.loadF (T := 3) (x := (.tmp 10)) (o := 1) (d := 11) (n := 1) (v := .int .i64 a.Kind) (by kernel_rfl) (by kernel_rfl) (by kernel_rfl) (fun h => h) (s1679.chunk 1 rfl) (by kernel_rfl) ?_
  refine Op.loadF (T := 3) (x := (.tmp 12)) (o := 1) (d := 13) (n := 1) (v := .int .i64 b.Kind) (by kernel_rfl) (by kernel_rfl) (by kernel_rfl) (fun h => h) (s1679.chunk 0 rfl) (by kernel_rfl) ?_
  refine Op.loadF (T := 3) (x := (.tmp 15)) (o := 0) (d := 16) (n := 1) (v := .int .i64 a.Client) (by kernel_rfl) (by kernel_rfl) (by kernel_rfl) (fun h => h) (s1679.chunk 1 rfl) (by kernel_rfl) ?_
  refine Op.loadF (T := 3) (x := (.tmp 17)) (o := 0) (d := 18) (n := 1) (v := .int .i64 b.Client) (by kernel_rfl) (by kernel_rfl) (by kernel_rfl) (fun h => h) (s1679.chunk 0 rfl) (by kernel_rfl) ?_
  refine Op.call0 (dst := some 9) (f := 76) (args := #[.string (mkS a.Path), .string (mkS b.Path)]) (by kernel_rfl) s1679 (cmpS_ _ _ _ s1679.sub hG a.Path b.Path  ) ?_
  rintro _ g1682 _ h1680 hle1683 s1681 ⟨rfl, hgg, rfl⟩; subst g1682; clear hle1683
  refine Op.call0 (dst := some 14) (f := 77) (args := #[.int .i64 a.Kind, .int .i64 b.Kind]) (by kernel_rfl) s1681 (cmpI_ _ _ _ s1681.sub hG a.Kind b.Kind  ) ?_
  rintro _ g1686 _ h1684 hle1687 s1685 ⟨rfl, hgg, rfl⟩; subst g1686; clear hle1687
  refine Op.call0 (dst := some 19) (f := 77) (args := #[.int .i64 a.Client, .int .i64 b.Client]) (by kernel_rfl) s1685 (cmpI_ _ _ _ s1685.sub hG a.Client b.Client  ) ?_
  rintro _ g1690 _ h1688 hle1691 s1689 ⟨rfl, hgg, rfl⟩; subst g1690; clear hle1691
  refine Op.lit (T := 38) (len := 3) (parts := #[(0, (.tmp 9)), (1, (.tmp 14)), (2, (.tmp 19))]) (dst := 20) (E := 3) (ps := [(0, .int .i64 (cmpS a.Path b.Path)), (1, .int .i64 (cmpI a.Kind b.Kind)), (2, .int .i64 (cmpI a.Client b.Client))]) (cs := #[.int .i64 (cmpS a.Path b.Path), .int .i64 (cmpI a.Kind b.Kind), .int .i64 (cmpI a.Client b.Client)]) (by kernel_rfl) (by kernel_rfl) (by kernel_rfl) s1689 ?_
  intro b1692 h1693 s1694
  have R1695 : Row 3 (kInt .i64) g (.slice (some ⟨b1692, 0, none⟩) 3 3) [cmpS a.Path b.Path, cmpI a.Kind b.Kind, cmpI a.Client b.Client] [(b1692, Obj.cells #[.int .i64 (cmpS a.Path b.Path), .int .i64 (cmpI a.Kind b.Kind), .int .i64 (cmpI a.Client b.Client)] 3 (0, 0))] := Row.lit (by kernel_rfl) (by unfold maxLen; decide) (by kernel_rfl) ⟨_, _, rfl, rfl, ⟨_, _, rfl, rfl, ⟨_, _, rfl, rfl, Reads.nil⟩⟩⟩
  have hl1696 := s1694.frzle
  have hz1697 := R1695.frz s1694
  refine Op.lend (dst := some 21) (f := 75) (args := #[.slice (some ⟨b1692, 0, none⟩) 3 3]) (cf := ([(b1692, Obj.cells #[.int .i64 (cmpS a.Path b.Path), .int .i64 (cmpI a.Kind b.Kind), .int .i64 (cmpI a.Client b.Client)] 3 (0, 0))] : Chunk)) (Lc := []) (L := [[(b1677, Obj.cells #[.int .i64 b.Client, .int .i64 b.Kind, .string (mkS b.Path)] 27 (0, 0))], [(b1674, Obj.cells #[.int .i64 a.Client, .int .i64 a.Kind, .string (mkS a.Path)] 27 (0, 0))]]) (by kernel_rfl) s1694 (cmpOr _ _ _ s1694.frzsub (hG.mono hl1696) _ _ hz1697 (by ((try dsimp only) <;> (first | omega | (simp; done)))) ) (fun _ _ _ hp => by obtain ⟨_, hgg, _⟩ := hp; exact hgg) (fun _ _ h => absurd h (ids_nil _)) ?_
  rintro _ _ h1698 s1699 ⟨rfl, hgg, rfl⟩; clear hgg
  refine Op.pures 1 [4] (L' := []) (e' := [(4, .int .i64 (orI ([cmpS a.Path b.Path, cmpI a.Kind b.Kind, cmpI a.Client b.Client])))]) (by kernel_rfl) ?_
  refine Op.goto 2 (by kernel_rfl) ?_
  refine At.ret (f := Tryd.f49) (v := .int .i64 (orI ([cmpS a.Path b.Path, cmpI a.Kind b.Kind, cmpI a.Client b.Client]))) (by kernel_rfl) (by kernel_rfl) ?_
  have s1702 : St h g (ids []) g [] h1698 := (s1699).drop.drop.drop
  refine hR _ _ _ _ s1702 ⟨?_, rfl, rfl⟩
  exact (eqI (by rfl))

/-- slices.Index[[]string,string] -/
theorem indexS (B : World) (h : Heap) (g : GH) (hg : Sub g h) (hG : Glob g) (v_l : Value) (l : List (List UInt8)) (h_l : SlR g 9 kStr v_l l) (k0 : List UInt8) (hlen : l.length ≤ 1000000000) :
    Spec Tryd.prog B 82 #[v_l, .string (mkS k0)] h g [] (fun rv g' L' => rv = .int .i64 (findI (fun z => decide (k0 = z)) l) ∧ g' = g ∧ L' = []) := by
  obtain ⟨a_l, n_l, rfl⟩ := h_l.form
  refine Spec.of_at (f := Tryd.f82) (e := [(0, .slice a_l l.length n_l), (1, .string (mkS k0))]) Tryd.func82 (by kernel_rfl) (Nat.le_of_ble_eq_true (by kernel_rfl)) (by kernel_rfl) (by kernel_rfl) ?_
  intro R hR
  have s0 := St.init hg
  refine At.reg (L := [(0, false)]) (by kernel_rfl) ?_
  refine Op.pures 1 [0, 1] (L' := []) (e' := [(0, .slice a_l l.length n_l), (1, .string (mkS k0))]) (by kernel_rfl) ?_
  refine Op.goto 1 (by kernel_rfl) ?_
  refine At.reg (L := [(0, false), (1, false), (2, false)]) (by kernel_rfl) ?_
  refine Op.pures 3 [0, 1, 7, 8] (L' := []) (e' := [(0, .slice a_l l.length n_l), (1, .string (mkS k0)), (7, .int .i64 (l.length : Int)), (8, .int .i64 0)]) (by kernel_rfl) ?_
  refine Op.goto 2 (by kernel_rfl) ?_
  have loop2 : ∀ (m : Nat) (i : Int) (h1703 : Heap) (hm : l.length - i.toNat < m) (h0 : 0 ≤ i) (h1 : i ≤ l.length) (hat : findAt (fun z => decide (k0 = z)) l i)    (s_loop21702 : St h g (ids []) g [] h1703), At (fctx Tryd.prog B 82 Tryd.f82 R) [] 2 [(0, .slice a_l l.length n_l), (1, .string (mkS k0)), (7, .int .i64 (l.length : Int)), (8, .int .i64 i)] h1703 := by
    intro m; induction m with
    | zero => intros; omega
    | succ m ih2 =>
      intro i h1703 hm h0 h1 hat s_loop21702
      refine At.reg (L := [(0, false)]) (by kernel_rfl) ?_
      refine Op.pures 1 [0, 1, 7, 8, 9] (L' := []) (e' := [(0, .slice a_l l.length n_l), (1, .string (mkS k0)), (7, .int .i64 (l.length : Int)), (8, .int .i64 i), (9, .bool (decide (i < (l.length : Int))))]) (by kernel_rfl) ?_
      refine Op.goto 3 (by kernel_rfl) ?_
      refine At.cond (b := decide (i < (l.length : Int))) (c := .tmp 9) (by kernel_rfl) (by kernel_rfl) (by kernel_rfl) 4 10 (by kernel_rfl) (by kernel_rfl) (fun hb => ?_) (fun hb => ?_)
      · have c1704 : i < (l.length : Int) := of_decide_eq_true hb
        clear hb
        refine At.keep [0, 1, 7, 8] ?_; show At _ _ _ [(0, .slice a_l l.length n_l), (1, .string (mkS k0)), (7, .int .i64 (l.length : Int)), (8, .int .i64 i)] _
        refine At.reg (L := [(0, false), (1, false)]) (by kernel_rfl) ?_
        refine Op.pures 2 [0, 1, 5, 7, 8] (L' := []) (e' := [(0, .slice a_l l.length n_l), (1, .string (mkS k0)), (5, .int .i64 i), (7, .int .i64 (l.length : Int)), (8, .int .i64 i)]) (by kernel_rfl) ?_
        refine Op.goto 5 (by kernel_rfl) ?_
        refine At.reg (L := [(0, false), (1, false), (2, false), (3, false), (4, false), (5, false)]) (by kernel_rfl) ?_
        refine Op.pures 3 [0, 1, 5, 7, 8, 11, 12, 13] (L' := [(3, false), (4, false), (5, false)]) (e' := [(0, .slice a_l l.length n_l), (1, .string (mkS k0)), (5, .int .i64 i), (7, .int .i64 (l.length : Int)), (8, .int .i64 i), (11, .string (mkS k0)), (12, .slice a_l l.length n_l), (13, .int .i64 i)]) (by kernel_rfl) ?_
        obtain ⟨x1705, hx1706⟩ : ∃ c, l[(i : Int).toNat]? = some c := ⟨_, List.getElem?_eq_getElem (by omega)⟩
        obtain ⟨b1707, o1708, cu1709, fz1710, ha1711, hb1712, hk1713⟩ := SlR.at_ h_l _ hx1706
        cases ha1711
        refine Op.idx (T := 37) (E := 9) (sz := 1) (by_ := 16) (n := l.length) (c := n_l) (k := .i64) (x := (.tmp 12)) (ix := (.tmp 13)) (dst := 14) (bk := b1707) (o := o1708) (m := i) (by kernel_rfl) (by kernel_rfl) (by kernel_rfl) (by kernel_rfl) (by omega) (by omega) ?_
        replace hk1713 : cut _ _ _ = [.string (mkS x1705)] := hk1713
        refine Op.load (T := 9) (x := (.tmp 14)) (o := o1708 + (i : Int).toNat * 1) (d := 15) (n := 1) (v := .string (mkS x1705)) (by kernel_rfl) (by kernel_rfl) (by kernel_rfl) (s_loop21702.sub _ _ hb1712) (cut_get hk1713 0 rfl) ?_
        refine Op.val (dst := some 16) (v := .bool ((mkS k0).toList == (mkS x1705).toList)) (v' := .bool (k0 == x1705)) (by kernel_rfl) (by rw [toList_mkS, toList_mkS]) ?_
        refine Op.goto 6 (by kernel_rfl) ?_
        refine At.cond (b := k0 == x1705) (c := .tmp 16) (by kernel_rfl) (by kernel_rfl) (by kernel_rfl) 7 9 (by kernel_rfl) (by kernel_rfl) (fun hb => ?_) (fun hb => ?_)
        · have c1714 : k0 = x1705 := eq_of_beq hb
          clear hb
          refine At.keep [5] ?_; show At _ _ _ [(5, .int .i64 i)] _
          refine At.reg (L := [(0, false), (1, false)]) (by kernel_rfl) ?_
          refine Op.pures 2 [4] (L' := []) (e' := [(4, .int .i64 i)]) (by kernel_rfl) ?_
          refine Op.goto 8 (by kernel_rfl) ?_
          refine At.ret (f := Tryd.f82) (v := .int .i64 i) (by kernel_rfl) (by kernel_rfl) ?_
          refine hR _ _ _ _ s_loop21702 ⟨?_, rfl, rfl⟩
          exact (eqI (by exact findAt_hit hat hx1706 (decide_eq_true c1714)))
        · have c1715 : ¬ (k0 = x1705) := neF hb
          clear hb
          refine At.keep [0, 1, 7, 8] ?_; show At _ _ _ [(0, .slice (some ⟨b1707, o1708, none⟩) l.length n_l), (1, .string (mkS k0)), (7, .int .i64 (l.length : Int)), (8, .int .i64 i)] _
          refine At.reg (L := [(0, false), (1, false)]) (by kernel_rfl) ?_
          refine Op.val (dst := some 18) (v := .int .i64 (IntKind.wrap .i64 (i + 1))) (v' := .int .i64 (i + 1)) (by kernel_rfl) (wrapEq_i64 (by omega) (by omega)) ?_
          refine Op.pures 1 [0, 1, 7, 8] (L' := []) (e' := [(0, .slice (some ⟨b1707, o1708, none⟩) l.length n_l), (1, .string (mkS k0)), (7, .int .i64 (l.length : Int)), (8, .int .i64 (i + 1))]) (by kernel_rfl) ?_
          refine Op.goto 2 (by kernel_rfl) ?_
          exact ih2  (i + 1) _ (by omega) (by omega) (by omega) (by exact findAt_miss hat h0 hx1706 (decide_eq_false c1715))  s_loop21702
      · have c1716 : ¬ (i < (l.length : Int)) := of_decide_eq_false hb
        clear hb
        refine At.keep [] ?_; show At _ _ _ [] _
        refine At.reg (L := [(0, false)]) (by kernel_rfl) ?_
        refine Op.pures 1 [4] (L' := []) (e' := [(4, .int .i64 (-1))]) (by kernel_rfl) ?_
        refine Op.goto 11 (by kernel_rfl) ?_
        refine At.ret (f := Tryd.f82) (v := .int .i64 (-1)) (by kernel_rfl) (by kernel_rfl) ?_
        refine hR _ _ _ _ s_loop21702 ⟨?_, rfl, rfl⟩
        exact (eqI (by exact findAt_end hat c1716))
  exact loop2 _  0 _ (Nat.lt_succ_self _) (by omega) (by omega) (by exact findAt_0 _ _)  s0

/-- slices.Index[[]int,int] -/
theorem indexI (B : World) (h : Heap) (g : GH) (hg : Sub g h) (hG : Glob g) (v_l : Value) (l : List Int) (h_l : SlR g 3 (kInt .i64) v_l l) (k0 : Int) (hlen : l.length ≤ 1000000000) :
    Spec Tryd.prog B 83 #[v_l, .int .i64 k0] h g [] (fun rv g' L' => rv = .int .i64 (findI (fun z => decide (k0 = z)) l) ∧ g' = g ∧ L' = []) := by
  obtain ⟨a_l, n_l, rfl⟩ := h_l.form
  refine Spec.of_at (f := Tryd.f83) (e := [(0, .slice a_l l.length n_l), (1, .int .i64 k0)]) Tryd.func83 (by kernel_rfl) (Nat.le_of_ble_eq_true (by kernel_rfl)) (by kernel_rfl) (by kernel_rfl) ?_
  intro R hR
  have s0 := St.init hg
  refine At.reg (L := [(0, false)]) (by kernel_rfl) ?_
  refine Op.pures 1 [0, 1] (L' := []) (e' := [(0, .slice a_l l.length n_l), (1, .int .i64 k0)]) (by kernel_rfl) ?_
  refine Op.goto 1 (by kernel_rfl) ?_
  refine At.reg (L := [(0, false), (1, false), (2, false)]) (by kernel_rfl) ?_
  refine Op.pures 3 [0, 1, 7, 8] (L' := []) (e' := [(0, .slice a_l l.length n_l), (1, .int .i64 k0), (7, .int .i64 (l.length : Int)), (8, .int .i64 0)]) (by kernel_rfl) ?_
  refine Op.goto 2 (by kernel_rfl) ?_
  have loop2 : ∀ (m : Nat) (i : Int) (h1717 : Heap) (hm : l.length - i.toNat < m) (h0 : 0 ≤ i) (h1 : i ≤ l.length) (hat : findAt (fun z => decide (k0 = z)) l i)    (s_loop21716 : St h g (ids []) g [] h1717), At (fctx Tryd.prog B 83 Tryd.f83 R) [] 2 [(0, .slice a_l l.length n_l), (1, .int .i64 k0), (7, .int .i64 (l.length : Int)), (8, .int .i64 i)] h1717 := by
    intro m; induction m with
    | zero => intros; omega
    | succ m ih2 =>
      intro i h1717 hm h0 h1 hat s_loop21716
      refine At.reg (L := [(0, false)]) (by kernel_rfl) ?_
      refine Op.pures 1 [0, 1, 7, 8, 9] (L' := []) (e' := [(0, .slice a_l l.length n_l), (1, .int .i64 k0), (7, .int .i64 (l.length : Int)), (8, .int .i64 i), (9, .bool (decide (i < (l.length : Int))))]) (by kernel_rfl) ?_
      refine Op.goto 3 (by kernel_rfl) ?_
      refine At.cond (b := decide (i < (l.length : Int))) (c := .tmp 9) (by kernel_rfl) (by kernel_rfl) (by kernel_rfl) 4 10 (by kernel_rfl) (by kernel_rfl) (fun hb => ?_) (fun hb => ?_)
      · have c1718 : i < (l.length : Int) := of_decide_eq_true hb
        clear hb
        refine At.keep [0, 1, 7, 8] ?_; show At _ _ _ [(0, .slice a_l l.length n_l), (1, .int .i64 k0), (7, .int .i64 (l.length : Int)), (8, .int .i64 i)] _
        refine At.reg (L := [(0, false), (1, false)]) (by kernel_rfl) ?_
        refine Op.pures 2 [0, 1, 5, 7, 8] (L' := []) (e' := [(0, .slice a_l l.length n_l), (1, .int .i64 k0), (5, .int .i64 i), (7, .int .i64 (l.length : Int)), (8, .int .i64 i)]) (by kernel_rfl) ?_
        refine Op.goto 5 (by kernel_rfl) ?_
        refine At.reg (L := [(0, false), (1, false), (2, false), (3, false), (4, false), (5, false)]) (by kernel_rfl) ?_
        refine Op.pures 3 [0, 1, 5, 7, 8, 11, 12, 13] (L' := [(3, false), (4, false), (5, false)]) (e' := [(0, .slice a_l l.length n_l), (1, .int .i64 k0), (5, .int .i64 i), (7, .int .i64 (l.length : Int)), (8, .int .i64 i), (11, .int .i64 k0), (12, .slice a_l l.length n_l), (13, .int .i64 i)]) (by kernel_rfl) ?_
        obtain ⟨x1719, hx1720⟩ : ∃ c, l[(i : Int).toNat]? = some c := ⟨_, List.getElem?_eq_getElem (by omega)⟩
        obtain ⟨b1721, o1722, cu1723, fz1724, ha1725, hb1726, hk1727⟩ := SlR.at_ h_l _ hx1720
        cases ha1725
        refine Op.idx (T := 38) (E := 3) (sz := 1) (by_ := 8) (n := l.length) (c := n_l) (k := .i64) (x := (.tmp 12)) (ix := (.tmp 13)) (dst := 14) (bk := b1721) (o := o1722) (m := i) (by kernel_rfl) (by kernel_rfl) (by kernel_rfl) (by kernel_rfl) (by omega) (by omega) ?_
        replace hk1727 : cut _ _ _ = [.int .i64 x1719] := hk1727
        refine Op.load (T := 3) (x := (.tmp 14)) (o := o1722 + (i : Int).toNat * 1) (d := 15) (n := 1) (v := .int .i64 x1719) (by kernel_rfl) (by kernel_rfl) (by kernel_rfl) (s_loop21716.sub _ _ hb1726) (cut_get hk1727 0 rfl) ?_
        refine Op.pures 1 [0, 1, 5, 7, 8, 16] (L' := []) (e' := [(0, .slice (some ⟨b1721, o1722, none⟩) l.length n_l), (1, .int .i64 k0), (5, .int .i64 i), (7, .int .i64 (l.length : Int)), (8, .int .i64 i), (16, .bool (k0 == x1719))]) (by kernel_rfl) ?_
        refine Op.goto 6 (by kernel_rfl) ?_
        refine At.cond (b := k0 == x1719) (c := .tmp 16) (by kernel_rfl) (by kernel_rfl) (by kernel_rfl) 7 9 (by kernel_rfl) (by kernel_rfl) (fun hb => ?_) (fun hb => ?_)
        · have c1728 : k0 = x1719 := eq_of_beq hb
          clear hb
          refine At.keep [5] ?_; show At _ _ _ [(5, .int .i64 i)] _
          refine At.reg (L := [(0, false), (1, false)]) (by kernel_rfl) ?_
          refine Op.pures 2 [4] (L' := []) (e' := [(4, .int .i64 i)]) (by kernel_rfl) ?_
          refine Op.goto 8 (by kernel_rfl) ?_
          refine At.ret (f := Tryd.f83) (v := .int .i64 i) (by kernel_rfl) (by kernel_rfl) ?_
          refine hR _ _ _ _ s_loop21716 ⟨?_, rfl, rfl⟩
          exact (eqI (by exact findAt_hit hat hx1720 (decide_eq_true c1728)))
        · have c1729 : ¬ (k0 = x1719) := neF hb
          clear hb
          refine At.keep [0, 1, 7, 8] ?_; show At _ _ _ [(0, .slice (some ⟨b1721, o1722, none⟩) l.length n_l), (1, .int .i64 k0), (7, .int .i64 (l.length : Int)), (8, .int .i64 i)] _
          refine At.reg (L := [(0, false), (1, false)]) (by kernel_rfl) ?_
          refine Op.val (dst := some 18) (v := .int .i64 (IntKind.wrap .i64 (i + 1))) (v' := .int .i64 (i + 1)) (by kernel_rfl) (wrapEq_i64 (by omega) (by omega)) ?_
          refine Op.pures 1 [0, 1, 7, 8] (L' := []) (e' := [(0, .slice (some ⟨b1721, o1722, none⟩) l.length n_l), (1, .int .i64 k0), (7, .int .i64 (l.length : Int)), (8, .int .i64 (i + 1))]) (by kernel_rfl) ?_
          refine Op.goto 2 (by kernel_rfl) ?_
          exact ih2  (i + 1) _ (by omega) (by omega) (by omega) (by exact findAt_miss hat h0 hx1720 (decide_eq_false c1729))  s_loop21716
      · have c1730 : ¬ (i < (l.length : Int)) := of_decide_eq_false hb
        clear hb
        refine At.keep [] ?_; show At _ _ _ [] _
        refine At.reg (L := [(0, false)]) (by kernel_rfl) ?_
        refine Op.pures 1 [4] (L' := []) (e' := [(4, .int .i64 (-1))]) (by kernel_rfl) ?_
        refine Op.goto 11 (by kernel_rfl) ?_
        refine At.ret (f := Tryd.f83) (v := .int .i64 (-1)) (by kernel_rfl) (by kernel_rfl) ?_
        refine hR _ _ _ _ s_loop21716 ⟨?_, rfl, rfl⟩
        exact (eqI (by exact findAt_end hat c1730))
  exact loop2 _  0 _ (Nat.lt_succ_self _) (by omega) (by omega) (by exact findAt_0 _ _)  s0

/-- slices.Contains[[]string,string] -/
theorem containsS (B : World) (h : Heap) (g : GH) (hg : Sub g h) (hG : Glob g) (v_l : Value) (l : List (List UInt8)) (h_l : SlR g 9 kStr v_l l) (k0 : List UInt8) (hlen : l.length ≤ 1000000000) :
    Spec Tryd.prog B 57 #[v_l, .string (mkS k0)] h g [] (fun rv g' L' => rv = .bool (l.any (fun z => decide (k0 = z))) ∧ g' = g ∧ L' = []) := by
  obtain ⟨a_l, n_l, rfl⟩ := h_l.form
  refine Spec.of_at (f := Tryd.f57) (e := [(0, .slice a_l l.length n_l), (1, .string (mkS k0))]) Tryd.func57 (by kernel_rfl) (Nat.le_of_ble_eq_true (by kernel_rfl)) (by kernel_rfl) (by kernel_rfl) ?_
  intro R hR
  have s0 := St.init hg
  refine At.reg (L := [(0, false)]) (by kernel_rfl) ?_
  refine Op.pures 1 [0, 1] (L' := []) (e' := [(0, .slice a_l l.length n_l), (1, .string (mkS k0))]) (by kernel_rfl) ?_
  refine Op.goto 1 (by kernel_rfl) ?_
  refine At.reg (L := [(0, false), (1, false), (2, false), (3, false), (4, false)]) (by kernel_rfl) ?_
  refine Op.pures 2 [5, 6] (L' := [(2, false), (3, false), (4, false)]) (e' := [(5, .slice a_l l.length n_l), (6, .string (mkS k0))]) (by kernel_rfl) ?_
  refine Op.call0 (dst := some 7) (f := 82) (args := #[.slice a_l l.length n_l, .string (mkS k0)]) (by kernel_rfl) s0 (indexS _ _ _ s0.sub hG _ _ h_l k0 (by ((try dsimp only) <;> (omega))) ) ?_
  rintro _ g1733 _ h1731 hle1734 s1732 ⟨rfl, hgg, rfl⟩; subst g1733; clear hle1734
  refine Op.pures 2 [4] (L' := []) (e' := [(4, .bool (decide ((findI (fun z => decide (k0 = z)) l) ≥ (0 : Int))))]) (by kernel_rfl) ?_
  refine Op.goto 2 (by kernel_rfl) ?_
  refine At.ret (f := Tryd.f57) (v := .bool (decide ((findI (fun z => decide (k0 = z)) l) ≥ (0 : Int)))) (by kernel_rfl) (by kernel_rfl) ?_
  refine hR _ _ _ _ s1732 ⟨?_, rfl, rfl⟩
  exact (eqB (by exact findI_any _ _))

/-- slices.Contains[[]int,int] -/
theorem containsI (B : World) (h : Heap) (g : GH) (hg : Sub g h) (hG : Glob g) (v_l : Value) (l : List Int) (h_l : SlR g 3 (kInt .i64) v_l l) (k0 : Int) (hlen : l.length ≤ 1000000000) :
    Spec Tryd.prog B 59 #[v_l, .int .i64 k0] h g [] (fun rv g' L' => rv = .bool (l.any (fun z => decide (k0 = z))) ∧ g' = g ∧ L' = []) := by
  obtain ⟨a_l, n_l, rfl⟩ := h_l.form
  refine Spec.of_at (f := Tryd.f59) (e := [(0, .slice a_l l.length n_l), (1, .int .i64 k0)]) Tryd.func59 (by kernel_rfl) (Nat.le_of_ble_eq_true (by kernel_rfl)) (by kernel_rfl) (by kernel_rfl) ?_
  intro R hR
  have s0 := St.init hg
  refine At.reg (L := [(0, false)]) (by kernel_rfl) ?_
  refine Op.pures 1 [0, 1] (L' := []) (e' := [(0, .slice a_l l.length n_l), (1, .int .i64 k0)]) (by kernel_rfl) ?_
  refine Op.goto 1 (by kernel_rfl) ?_
  refine At.reg (L := [(0, false), (1, false), (2, false), (3, false), (4, false)]) (by kernel_rfl) ?_
  refine Op.pures 2 [5, 6] (L' := [(2, false), (3, false), (4, false)]) (e' := [(5, .slice a_l l.length n_l), (6, .int .i64 k0)]) (by kernel_rfl) ?_
  refine Op.call0 (dst := some 7) (f := 83) (args := #[.slice a_l l.length n_l, .int .i64 k0]) (by kernel_rfl) s0 (indexI _ _ _ s0.sub hG _ _ h_l k0 (by ((try dsimp only) <;> (omega))) ) ?_
  rintro _ g1737 _ h1735 hle1738 s1736 ⟨rfl, hgg, rfl⟩; subst g1737; clear hle1738
  refine Op.pures 2 [4] (L' := []) (e' := [(4, .bool (decide ((findI (fun z => decide (k0 = z)) l) ≥ (0 : Int))))]) (by kernel_rfl) ?_
  refine Op.goto 2 (by kernel_rfl) ?_
  refine At.ret (f := Tryd.f59) (v := .bool (decide ((findI (fun z => decide (k0 = z)) l) ≥ (0 : Int)))) (by kernel_rfl) (by kernel_rfl) ?_
  refine hR _ _ _ _ s1736 ⟨?_, rfl, rfl⟩
  exact (eqB (by exact findI_any _ _))

/-- slices.Clone[[]stanchion/api.Watch,stanchion/api.Watch] -/
theorem cloneW (B : World) (h : Heap) (g : GH) (hg : Sub g h) (hG : Glob g) (v_s : Value) (s : List Watch) (h_s : SlR g 27 kWatch v_s s) (hl : s.length ≤ 1000000000) :
    Spec Tryd.prog B 52 #[v_s] h g [] (fun rv g' L' => ∃ v0 k0, rv = v0 ∧ Row 27 kWatch g' v0 s k0 ∧ g' = g ∧ L' = [k0]) := by
  obtain ⟨a_s, n_s, rfl⟩ := h_s.form
  refine Spec.of_at (f := Tryd.f52) (e := [(0, .slice a_s s.length n_s)]) Tryd.func52 (by kernel_rfl) (Nat.le_of_ble_eq_true (by kernel_rfl)) (by kernel_rfl) (by kernel_rfl) ?_
  intro R hR
  have s0 := St.init hg
  refine At.reg (L := [(0, false)]) (by kernel_rfl) ?_
  refine Op.pures 1 [0] (L' := []) (e' := [(0, .slice a_s s.length n_s)]) (by kernel_rfl) ?_
  refine Op.goto 1 (by kernel_rfl) ?_
  refine At.reg (L := [(0, false), (1, false)]) (by kernel_rfl) ?_
  refine Op.pures 1 [0, 3] (L' := [(1, false)]) (e' := [(0, .slice a_s s.length n_s), (3, .slice a_s s.length n_s)]) (by kernel_rfl) ?_
  rcases a_s with _ | a1739
  · refine Op.val (dst := some 4) (v := .bool true) (v' := .bool true) (by kernel_rfl) rfl ?_
    refine Op.goto 2 (by kernel_rfl) ?_
    refine At.condT (c := .tmp 4) (by kernel_rfl) (by kernel_rfl) (by kernel_rfl) 3 (by kernel_rfl) ?_
    refine At.reg (L := [(0, false)]) (by kernel_rfl) ?_
    refine Op.pures 1 [2] (L' := []) (e' := [(2, .slice none 0 0)]) (by kernel_rfl) ?_
    refine Op.goto 4 (by kernel_rfl) ?_
    have R1740 := Row.zero 27 kWatch g none
    have s1741 : St h g (ids []) g ([] :: []) h := St.flat (L := []) rfl s0
    refine At.ret (f := Tryd.f52) (v := .slice none 0 0) (by kernel_rfl) (by kernel_rfl) ?_
    refine hR _ _ _ _ s1741 ⟨(.slice none 0 0), [], ?_, ?_, rfl, rfl⟩
    · exact rfl
    · exact rowEq R1740 (by first | exact (SlR.none_nil h_s).symm | (simp; done))
  · refine Op.val (dst := some 4) (v := .bool false) (v' := .bool false) (by kernel_rfl) rfl ?_
    refine Op.goto 2 (by kernel_rfl) ?_
    refine At.condF (c := .tmp 4) (by kernel_rfl) (by kernel_rfl) (by kernel_rfl) 5 (by kernel_rfl) ?_
    refine At.reg (L := [(0, false), (1, false), (2, false), (3, false)]) (by kernel_rfl) ?_
    refine Op.lit (T := 22) (len := 0) (parts := #[]) (dst := 5) (E := 27) (ps := []) (cs := #[]) (by kernel_rfl) (by kernel_rfl) (by kernel_rfl) s0 ?_
    intro b1742 h1743 s1744
    refine Op.pures 1 [5, 6] (L' := [(2, false), (3, false)]) (e' := [(5, .slice (some ⟨b1742, 0, none⟩) 0 0), (6, .slice (some a1739) s.length n_s)]) (by kernel_rfl) ?_
    have R1745 : Row 27 kWatch g (.slice (some ⟨b1742, 0, none⟩) 0 0) ([] : List Watch) [(b1742, Obj.cells #[] 27 (0, 0))] := Row.lit (by kernel_rfl) (by unfold maxLen; decide) (by kernel_rfl) Reads.nil
    obtain ⟨ns1746, hs1747, hr1748⟩ := Src.slice (P := Tryd.prog) (h_s.toH s1744.sub)
    refine Op.append (x := (.tmp 5)) (y := (.tmp 6)) (t := 22) (t' := 22) (dst := 7) (E := 27) (by_ := 32) (d := kWatch) (by kernel_rfl) (by kernel_rfl) (by kernel_rfl) (by kernel_rfl) rfl R1745 s1744 0 rfl hs1747 (ys := s) hr1748 rfl (by first | omega | (simp only [List.length_nil]; omega)) (fun _ _ _ => trivial) ?_
    intro v1749 ch1750 h1751 R1752 s1753 nn1754
    obtain ⟨a1755, n1756, rfl⟩ := R1752.form
    refine Op.pures 1 [2] (L' := []) (e' := [(2, .slice a1755 ((([] : List Watch) ++ s).length) n1756)]) (by kernel_rfl) ?_
    refine Op.goto 6 (by kernel_rfl) ?_
    refine At.ret (f := Tryd.f52) (v := .slice a1755 ((([] : List Watch) ++ s).length) n1756) (by kernel_rfl) (by kernel_rfl) ?_
    refine hR _ _ _ _ s1753 ⟨(.slice a1755 ((([] : List Watch) ++ s).length) n1756), ch1750, ?_, ?_, rfl, rfl⟩
    · exact rfl
    · exact rowEq R1752 (by first | exact (SlR.none_nil h_s).symm | (simp; done))

/-- stanchion/stanchionref11.of -/
theorem of11 (B : World) (h : Heap) (g : GH) (hg : Sub g h) (hG : Glob g) (v_list : Value) (list : List Watch) (h_list : SlR g 27 kWatch v_list list) (client : Int) (hlen : list.length ≤ 1000000000) :
    Spec Tryd.prog B 54 #[v_list, .int .i64 client] h g [] (fun rv g' L' => rv = .int .i64 (cnt client list : Int) ∧ g' = g ∧ L' = []) := by
  obtain ⟨a_list, n_list, rfl⟩ := h_list.form
  refine Spec.of_at (f := Tryd.f54) (e := [(0, .slice a_list list.length n_list), (1, .int .i64 client)]) Tryd.func54 (by kernel_rfl) (Nat.le_of_ble_eq_true (by kernel_rfl)) (by kernel_rfl) (by kernel_rfl) ?_
  intro R hR
  have s0 := St.init hg
  refine At.reg (L := [(0, false)]) (by kernel_rfl) ?_
  refine Op.pures 1 [0, 1] (L' := []) (e' := [(0, .slice a_list list.length n_list), (1, .int .i64 client)]) (by kernel_rfl) ?_
  refine Op.goto 1 (by kernel_rfl) ?_
  refine At.reg (L := [(0, false)]) (by kernel_rfl) ?_
  refine Op.pures 1 [0, 1, 5] (L' := []) (e' := [(0, .slice a_list list.length n_list), (1, .int .i64 client), (5, .int .i64 0)]) (by kernel_rfl) ?_
  refine Op.goto 2 (by kernel_rfl) ?_
  refine At.reg (L := [(0, false)]) (by kernel_rfl) ?_
  refine Op.pures 1 [0, 1, 5, 6] (L' := []) (e' := [(0, .slice a_list list.length n_list), (1, .int .i64 client), (5, .int .i64 0), (6, .int .i64 0)]) (by kernel_rfl) ?_
  refine Op.goto 3 (by kernel_rfl) ?_
  have loop3 : ∀ (m : Nat) (n : Int) (i : Int) (h1757 : Heap) (hm : list.length - i.toNat < m) (h0 : 0 ≤ i) (h1 : i ≤ list.length) (hn0 : 0 ≤ n) (hn1 : n ≤ i) (hn : n + (cnt client (list.drop i.toNat) : Int) = cnt client list)    (s_loop31756 : St h g (ids []) g [] h1757), At (fctx Tryd.prog B 54 Tryd.f54 R) [] 3 [(0, .slice a_list list.length n_list), (1, .int .i64 client), (5, .int .i64 n), (6, .int .i64 i)] h1757 := by
    intro m; induction m with
    | zero => intros; omega
    | succ m ih3 =>
      intro n i h1757 hm h0 h1 hn0 hn1 hn s_loop31756
      refine At.reg (L := [(0, false), (1, false), (2, false), (3, false)]) (by kernel_rfl) ?_
      refine Op.pures 4 [0, 1, 5, 6, 10] (L' := []) (e' := [(0, .slice a_list list.length n_list), (1, .int .i64 client), (5, .int .i64 n), (6, .int .i64 i), (10, .bool (decide (i < (list.length : Int))))]) (by kernel_rfl) ?_
      refine Op.goto 4 (by kernel_rfl) ?_
      refine At.cond (b := decide (i < (list.length : Int))) (c := .tmp 10) (by kernel_rfl) (by kernel_rfl) (by kernel_rfl) 5 9 (by kernel_rfl) (by kernel_rfl) (fun hb => ?_) (fun hb => ?_)
      · have c1758 : i < (list.length : Int) := of_decide_eq_true hb
        clear hb
        refine At.keep [0, 1, 5, 6] ?_; show At _ _ _ [(0, .slice a_list list.length n_list), (1, .int .i64 client), (5, .int .i64 n), (6, .int .i64 i)] _
        refine At.reg (L := [(0, false), (1, false), (2, false), (3, false), (4, false), (5, false), (6, false)]) (by kernel_rfl) ?_
        refine Op.pures 2 [0, 1, 5, 6, 13, 14] (L' := [(2, false), (3, false), (4, false), (5, false), (6, false)]) (e' := [(0, .slice a_list list.length n_list), (1, .int .i64 client), (5, .int .i64 n), (6, .int .i64 i), (13, .slice a_list list.length n_list), (14, .int .i64 i)]) (by kernel_rfl) ?_
        obtain ⟨x1759, hx1760⟩ : ∃ c, list[(i : Int).toNat]? = some c := ⟨_, List.getElem?_eq_getElem (by omega)⟩
        obtain ⟨b1761, o1762, cu1763, fz1764, ha1765, hb1766, hk1767⟩ := SlR.at_ h_list _ hx1760
        cases ha1765
        refine Op.idx (T := 22) (E := 27) (sz := 3) (by_ := 32) (n := list.length) (c := n_list) (k := .i64) (x := (.tmp 13)) (ix := (.tmp 14)) (dst := 15) (bk := b1761) (o := o1762) (m := i) (by kernel_rfl) (by kernel_rfl) (by kernel_rfl) (by kernel_rfl) (by omega) (by omega) ?_
        replace hk1767 : cut _ _ _ = [.int .i64 x1759.Client, .int .i64 x1759.Kind, .string (mkS x1759.Path)] := hk1767
        refine Op.pures 1 [0, 1, 5, 6, 16] (L' := [(4, false), (5, false), (6, false)]) (e' := [(0, .slice (some ⟨b1761, o1762, none⟩) list.length n_list), (1, .int .i64 client), (5, .int .i64 n), (6, .int .i64 i), (16, .pointer (some ⟨b1761, o1762 + (i : Int).toNat * 3, none⟩))]) (by kernel_rfl) ?_
        refine Op.load (T := 3) (x := (.tmp 16)) (o := o1762 + (i : Int).toNat * 3) (d := 17) (n := 1) (v := .int .i64 x1759.Client) (by kernel_rfl) (by kernel_rfl) (by kernel_rfl) (s_loop31756.sub _ _ hb1766) (cut_get hk1767 0 rfl) ?_
        refine Op.pures 2 [0, 1, 5, 6, 19] (L' := []) (e' := [(0, .slice (some ⟨b1761, o1762, none⟩) list.length n_list), (1, .int .i64 client), (5, .int .i64 n), (6, .int .i64 i), (19, .bool (x1759.Client == client))]) (by kernel_rfl) ?_
        refine Op.goto 6 (by kernel_rfl) ?_
        refine At.cond (b := x1759.Client == client) (c := .tmp 19) (by kernel_rfl) (by kernel_rfl) (by kernel_rfl) 7 8 (by kernel_rfl) (by kernel_rfl) (fun hb => ?_) (fun hb => ?_)
        · have c1768 : x1759.Client = client := eq_of_beq hb
          clear hb
          refine At.keep [0, 1, 5, 6] ?_; show At _ _ _ [(0, .slice (some ⟨b1761, o1762, none⟩) list.length n_list), (1, .int .i64 client), (5, .int .i64 n), (6, .int .i64 i)] _
          refine At.reg (L := [(0, false), (1, false), (2, false)]) (by kernel_rfl) ?_
          refine Op.pures 1 [0, 1, 5, 6, 20] (L' := [(1, false), (2, false)]) (e' := [(0, .slice (some ⟨b1761, o1762, none⟩) list.length n_list), (1, .int .i64 client), (5, .int .i64 n), (6, .int .i64 i), (20, .int .i64 n)]) (by kernel_rfl) ?_
          refine Op.val (dst := some 21) (v := .int .i64 (IntKind.wrap .i64 (n + 1))) (v' := .int .i64 (n + 1)) (by kernel_rfl) (wrapEq_i64 (by omega) (by omega)) ?_
          refine Op.pures 1 [0, 1, 5, 6] (L' := []) (e' := [(0, .slice (some ⟨b1761, o1762, none⟩) list.length n_list), (1, .int .i64 client), (5, .int .i64 (n + 1)), (6, .int .i64 i)]) (by kernel_rfl) ?_
          refine Op.goto 8 (by kernel_rfl) ?_
          refine At.reg (L := [(0, false), (1, false), (2, false)]) (by kernel_rfl) ?_
          refine Op.pures 1 [0, 1, 5, 6, 11] (L' := [(1, false), (2, false)]) (e' := [(0, .slice (some ⟨b1761, o1762, none⟩) list.length n_list), (1, .int .i64 client), (5, .int .i64 (n + 1)), (6, .int .i64 i), (11, .int .i64 i)]) (by kernel_rfl) ?_
          refine Op.val (dst := some 12) (v := .int .i64 (IntKind.wrap .i64 (i + 1))) (v' := .int .i64 (i + 1)) (by kernel_rfl) (wrapEq_i64 (by omega) (by omega)) ?_
          refine Op.pures 1 [0, 1, 5, 6] (L' := []) (e' := [(0, .slice (some ⟨b1761, o1762, none⟩) list.length n_list), (1, .int .i64 client), (5, .int .i64 (n + 1)), (6, .int .i64 (i + 1))]) (by kernel_rfl) ?_
          refine Op.goto 3 (by kernel_rfl) ?_
          exact ih3  (n + 1) (i + 1) _ (by omega) (by omega) (by omega) (by omega) (by omega) (by first | exact cnt_hit hn h0 hx1760 c1768 | exact cnt_miss hn h0 hx1760 c1768)  s_loop31756
        · have c1769 : ¬ (x1759.Client = client) := neF hb
          clear hb
          refine At.keep [0, 1, 5, 6] ?_; show At _ _ _ [(0, .slice (some ⟨b1761, o1762, none⟩) list.length n_list), (1, .int .i64 client), (5, .int .i64 n), (6, .int .i64 i)] _
          refine At.reg (L := [(0, false), (1, false), (2, false)]) (by kernel_rfl) ?_
          refine Op.pures 1 [0, 1, 5, 6, 11] (L' := [(1, false), (2, false)]) (e' := [(0, .slice (some ⟨b1761, o1762, none⟩) list.length n_list), (1, .int .i64 client), (5, .int .i64 n), (6, .int .i64 i), (11, .int .i64 i)]) (by kernel_rfl) ?_
          refine Op.val (dst := some 12) (v := .int .i64 (IntKind.wrap .i64 (i + 1))) (v' := .int .i64 (i + 1)) (by kernel_rfl) (wrapEq_i64 (by omega) (by omega)) ?_
          refine Op.pures 1 [0, 1, 5, 6] (L' := []) (e' := [(0, .slice (some ⟨b1761, o1762, none⟩) list.length n_list), (1, .int .i64 client), (5, .int .i64 n), (6, .int .i64 (i + 1))]) (by kernel_rfl) ?_
          refine Op.goto 3 (by kernel_rfl) ?_
          exact ih3  n (i + 1) _ (by omega) (by omega) (by omega) (by omega) (by omega) (by first | exact cnt_hit hn h0 hx1760 c1769 | exact cnt_miss hn h0 hx1760 c1769)  s_loop31756
      · have c1770 : ¬ (i < (list.length : Int)) := of_decide_eq_false hb
        clear hb
        refine At.keep [5] ?_; show At _ _ _ [(5, .int .i64 n)] _
        refine At.reg (L := [(0, false), (1, false)]) (by kernel_rfl) ?_
        refine Op.pures 2 [4] (L' := []) (e' := [(4, .int .i64 n)]) (by kernel_rfl) ?_
        refine Op.goto 10 (by kernel_rfl) ?_
        refine At.ret (f := Tryd.f54) (v := .int .i64 n) (by kernel_rfl) (by kernel_rfl) ?_
        refine hR _ _ _ _ s_loop31756 ⟨?_, rfl, rfl⟩
        exact (eqI (by exact cnt_end hn c1770))
  exact loop3 _  0 0 _ (Nat.lt_succ_self _) (by omega) (by omega) (by omega) (by omega) (by simp)  s0

/-- stanchion/watch.count -/
theorem countW (B : World) (h : Heap) (g : GH) (hg : Sub g h) (hG : Glob g) (v_list : Value) (list : List Watch) (h_list : SlR g 27 kWatch v_list list) (client : Int) (hlen : list.length ≤ 1000000000) :
    Spec Tryd.prog B 50 #[v_list, .int .i64 client] h g [] (fun rv g' L' => rv = .int .i64 (cnt client list : Int) ∧ g' = g ∧ L' = []) := by
  obtain ⟨a_list, n_list, rfl⟩ := h_list.form
  refine Spec.of_at (f := Tryd.f50) (e := [(0, .slice a_list list.length n_list), (1, .int .i64 client)]) Tryd.func50 (by kernel_rfl) (Nat.le_of_ble_eq_true (by kernel_rfl)) (by kernel_rfl) (by kernel_rfl) ?_
  intro R hR
  have s0 := St.init hg
  refine At.reg (L := [(0, false)]) (by kernel_rfl) ?_
  refine Op.pures 1 [0, 1] (L' := []) (e' := [(0, .slice a_list list.length n_list), (1, .int .i64 client)]) (by kernel_rfl) ?_
  refine Op.goto 1 (by kernel_rfl) ?_
  refine At.reg (L := [(0, false)]) (by kernel_rfl) ?_
  refine Op.pures 1 [0, 1, 5] (L' := []) (e' := [(0, .slice a_list list.length n_list), (1, .int .i64 client), (5, .int .i64 0)]) (by kernel_rfl) ?_
  refine Op.goto 2 (by kernel_rfl) ?_
  refine At.reg (L := [(0, false), (1, false), (2, false)]) (by kernel_rfl) ?_
  refine Op.pures 3 [1, 5, 8, 9, 10] (L' := []) (e' := [(1, .int .i64 client), (5, .int .i64 0), (8, .slice a_list list.length n_list), (9, .int .i64 (list.length : Int)), (10, .int .i64 0)]) (by kernel_rfl) ?_
  refine Op.goto 3 (by kernel_rfl) ?_
  have loop3 : ∀ (m : Nat) (n : Int) (i : Int) (h1771 : Heap) (hm : list.length - i.toNat < m) (h0 : 0 ≤ i) (h1 : i ≤ list.length) (hn0 : 0 ≤ n) (hn1 : n ≤ i) (hn : n + (cnt client (list.drop i.toNat) : Int) = cnt client list)    (s_loop31770 : St h g (ids []) g [] h1771), At (fctx Tryd.prog B 50 Tryd.f50 R) [] 3 [(1, .int .i64 client), (5, .int .i64 n), (8, .slice a_list list.length n_list), (9, .int .i64 (list.length : Int)), (10, .int .i64 i)] h1771 := by
    intro m; induction m with
    | zero => intros; omega
    | succ m ih3 =>
      intro n i h1771 hm h0 h1 hn0 hn1 hn s_loop31770
      refine At.reg (L := [(0, false)]) (by kernel_rfl) ?_
      refine Op.pures 1 [1, 5, 8, 9, 10, 11] (L' := []) (e' := [(1, .int .i64 client), (5, .int .i64 n), (8, .slice a_list list.length n_list), (9, .int .i64 (list.length : Int)), (10, .int .i64 i), (11, .bool (decide (i < (list.length : Int))))]) (by kernel_rfl) ?_
      refine Op.goto 4 (by kernel_rfl) ?_
      refine At.cond (b := decide (i < (list.length : Int))) (c := .tmp 11) (by kernel_rfl) (by kernel_rfl) (by kernel_rfl) 5 10 (by kernel_rfl) (by kernel_rfl) (fun hb => ?_) (fun hb => ?_)
      · have c1772 : i < (list.length : Int) := of_decide_eq_true hb
        clear hb
        refine At.keep [1, 5, 8, 9, 10] ?_; show At _ _ _ [(1, .int .i64 client), (5, .int .i64 n), (8, .slice a_list list.length n_list), (9, .int .i64 (list.length : Int)), (10, .int .i64 i)] _
        refine At.reg (L := [(0, false), (1, false), (2, false), (3, false)]) (by kernel_rfl) ?_
        obtain ⟨x1773, hx1774⟩ : ∃ c, list[(i : Int).toNat]? = some c := ⟨_, List.getElem?_eq_getElem (by omega)⟩
        obtain ⟨b1775, o1776, cu1777, fz1778, ha1779, hb1780, hk1781⟩ := SlR.at_ h_list _ hx1774
        cases ha1779
        refine Op.idx (T := 22) (E := 27) (sz := 3) (by_ := 32) (n := list.length) (c := n_list) (k := .i64) (x := (.tmp 8)) (ix := (.tmp 10)) (dst := 12) (bk := b1775) (o := o1776) (m := i) (by kernel_rfl) (by kernel_rfl) (by kernel_rfl) (by kernel_rfl) (by omega) (by omega) ?_
        replace hk1781 : cut _ _ _ = [.int .i64 x1773.Client, .int .i64 x1773.Kind, .string (mkS x1773.Path)] := hk1781
        refine Op.loadA (T := 27) (x := (.tmp 12)) (o := o1776 + (i : Int).toNat * 3) (d := 13) (n := 3) (vs := [.int .i64 x1773.Client, .int .i64 x1773.Kind, .string (mkS x1773.Path)]) (by kernel_rfl) (by kernel_rfl) (by kernel_rfl) (s_loop31770.sub _ _ hb1780) (hk1781) rfl ?_
        refine Op.alloc (T := 27) (dst := 7) (cs := #[.int .i64 0, .int .i64 0, .string (mkS [])]) (by kernel_rfl) (by kernel_rfl) s_loop31770 ?_
        intro b1782 h1783 s1784
        refine Op.store (T := 27) (x := (.tmp 7)) (y := (.tmp 13)) (b := b1782) (o := 0) (vs := [.int .i64 x1773.Client, .int .i64 x1773.Kind, .string (mkS x1773.Path)]) (a? := true) (n := 3) (by kernel_rfl) (by kernel_rfl) (by kernel_rfl) (by kernel_rfl) rfl (by simp [Value.oneCell']) s1784 0 rfl (Nat.le_of_ble_eq_true (by kernel_rfl)) (cs := #[.int .i64 0, .int .i64 0, .string (mkS [])]) (cs' := #[.int .i64 x1773.Client, .int .i64 x1773.Kind, .string (mkS x1773.Path)]) (by kernel_rfl) (fun _ => trivial) ?_
        intro h1785 s1786
        refine Op.goto 6 (by kernel_rfl) ?_
        refine At.reg (L := [(0, false), (1, false), (2, false), (3, false)]) (by kernel_rfl) ?_
        refine Op.pures 1 [1, 5, 8, 9, 10, 14] (L' := [(1, false), (2, false), (3, false)]) (e' := [(1, .int .i64 client), (5, .int .i64 n), (8, .slice (some ⟨b1775, o1776, none⟩) list.length n_list), (9, .int .i64 (list.length : Int)), (10, .int .i64 i), (14, .pointer (some ⟨b1782, 0, none⟩))]) (by kernel_rfl) ?_
        refine Op.load (T := 3) (x := (.tmp 14)) (o := 0) (d := 15) (n := 1) (v := .int .i64 x1773.Client) (by kernel_rfl) (by kernel_rfl) (by kernel_rfl) (s1786.chunk 0 rfl) (by kernel_rfl) ?_
        refine Op.pures 2 [1, 5, 8, 9, 10, 17] (L' := []) (e' := [(1, .int .i64 client), (5, .int .i64 n), (8, .slice (some ⟨b1775, o1776, none⟩) list.length n_list), (9, .int .i64 (list.length : Int)), (10, .int .i64 i), (17, .bool (x1773.Client == client))]) (by kernel_rfl) ?_
        refine Op.goto 7 (by kernel_rfl) ?_
        refine At.cond (b := x1773.Client == client) (c := .tmp 17) (by kernel_rfl) (by kernel_rfl) (by kernel_rfl) 8 9 (by kernel_rfl) (by kernel_rfl) (fun hb => ?_) (fun hb => ?_)
        · have c1787 : x1773.Client = client := eq_of_beq hb
          clear hb
          refine At.keep [1, 5, 8, 9, 10] ?_; show At _ _ _ [(1, .int .i64 client), (5, .int .i64 n), (8, .slice (some ⟨b1775, o1776, none⟩) list.length n_list), (9, .int .i64 (list.length : Int)), (10, .int .i64 i)] _
          refine At.reg (L := [(0, false), (1, false), (2, false)]) (by kernel_rfl) ?_
          refine Op.pures 1 [1, 5, 8, 9, 10, 18] (L' := [(1, false), (2, false)]) (e' := [(1, .int .i64 client), (5, .int .i64 n), (8, .slice (some ⟨b1775, o1776, none⟩) list.length n_list), (9, .int .i64 (list.length : Int)), (10, .int .i64 i), (18, .int .i64 n)]) (by kernel_rfl) ?_
          refine Op.val (dst := some 19) (v := .int .i64 (IntKind.wrap .i64 (n + 1))) (v' := .int .i64 (n + 1)) (by kernel_rfl) (wrapEq_i64 (by omega) (by omega)) ?_
          refine Op.pures 1 [1, 5, 8, 9, 10] (L' := []) (e' := [(1, .int .i64 client), (5, .int .i64 (n + 1)), (8, .slice (some ⟨b1775, o1776, none⟩) list.length n_list), (9, .int .i64 (list.length : Int)), (10, .int .i64 i)]) (by kernel_rfl) ?_
          refine Op.goto 9 (by kernel_rfl) ?_
          refine At.reg (L := [(0, false), (1, false)]) (by kernel_rfl) ?_
          refine Op.val (dst := some 20) (v := .int .i64 (IntKind.wrap .i64 (i + 1))) (v' := .int .i64 (i + 1)) (by kernel_rfl) (wrapEq_i64 (by omega) (by omega)) ?_
          refine Op.pures 1 [1, 5, 8, 9, 10] (L' := []) (e' := [(1, .int .i64 client), (5, .int .i64 (n + 1)), (8, .slice (some ⟨b1775, o1776, none⟩) list.length n_list), (9, .int .i64 (list.length : Int)), (10, .int .i64 (i + 1))]) (by kernel_rfl) ?_
          refine Op.goto 3 (by kernel_rfl) ?_
          have s1788 : St h g (ids []) g [] h1785 := (s1786).drop
          exact ih3  (n + 1) (i + 1) _ (by omega) (by omega) (by omega) (by omega) (by omega) (by first | exact cnt_hit hn h0 hx1774 c1787 | exact cnt_miss hn h0 hx1774 c1787)  s1788
        · have c1789 : ¬ (x1773.Client = client) := neF hb
          clear hb
          refine At.keep [1, 5, 8, 9, 10] ?_; show At _ _ _ [(1, .int .i64 client), (5, .int .i64 n), (8, .slice (some ⟨b1775, o1776, none⟩) list.length n_list), (9, .int .i64 (list.length : Int)), (10, .int .i64 i)] _
          refine At.reg (L := [(0, false), (1, false)]) (by kernel_rfl) ?_
          refine Op.val (dst := some 20) (v := .int .i64 (IntKind.wrap .i64 (i + 1))) (v' := .int .i64 (i + 1)) (by kernel_rfl) (wrapEq_i64 (by omega) (by omega)) ?_
          refine Op.pures 1 [1, 5, 8, 9, 10] (L' := []) (e' := [(1, .int .i64 client), (5, .int .i64 n), (8, .slice (some ⟨b1775, o1776, none⟩) list.length n_list), (9, .int .i64 (list.length : Int)), (10, .int .i64 (i + 1))]) (by kernel_rfl) ?_
          refine Op.goto 3 (by kernel_rfl) ?_
          have s1790 : St h g (ids []) g [] h1785 := (s1786).drop
          exact ih3  n (i + 1) _ (by omega) (by omega) (by omega) (by omega) (by omega) (by first | exact cnt_hit hn h0 hx1774 c1789 | exact cnt_miss hn h0 hx1774 c1789)  s1790
      · have c1791 : ¬ (i < (list.length : Int)) := of_decide_eq_false hb
        clear hb
        refine At.keep [5] ?_; show At _ _ _ [(5, .int .i64 n)] _
        refine At.reg (L := [(0, false), (1, false)]) (by kernel_rfl) ?_
        refine Op.pures 2 [4] (L' := []) (e' := [(4, .int .i64 n)]) (by kernel_rfl) ?_
        refine Op.goto 11 (by kernel_rfl) ?_
        refine At.ret (f := Tryd.f50) (v := .int .i64 n) (by kernel_rfl) (by kernel_rfl) ?_
        refine hR _ _ _ _ s_loop31770 ⟨?_, rfl, rfl⟩
        exact (eqI (by exact cnt_end hn c1791))
  exact loop3 _  0 0 _ (Nat.lt_succ_self _) (by omega) (by omega) (by omega) (by omega) (by simp)  s0

/-- stanchion/stanchionref11.less -/
theorem less11 (B : World) (h : Heap) (g : GH) (hg : Sub g h) (hG : Glob g) (a : Watch) (b : Watch)  :
    Spec Tryd.prog B 53 #[.agg #[.int .i64 a.Client, .int .i64 a.Kind, .string (mkS a.Path)], .agg #[.int .i64 b.Client, .int .i64 b.Kind, .string (mkS b.Path)]] h g [] (fun rv g' L' => rv = .bool (lessW a b) ∧ g' = g ∧ L' = []) := by
  refine Spec.of_at (f := Tryd.f53) (e := [(0, .agg #[.int .i64 a.Client, .int .i64 a.Kind, .string (mkS a.Path)]), (1, .agg #[.int .i64 b.Client, .int .i64 b.Kind, .string (mkS b.Path)])]) Tryd.func53 (by kernel_rfl) (Nat.le_of_ble_eq_true (by kernel_rfl)) (by kernel_rfl) (by kernel_rfl) ?_
  intro R hR
  have s0 := St.init hg
  refine At.reg (L := [(0, false), (1, false), (2, false)]) (by kernel_rfl) ?_
  refine Op.box (T := 27) (x := (.tmp 0)) (d := 2) (cs := #[.int .i64 a.Client, .int .i64 a.Kind, .string (mkS a.Path)]) (by kernel_rfl) (by kernel_rfl) s0 ?_
  intro b1792 h1793 s1794
  refine Op.box (T := 27) (x := (.tmp 1)) (d := 3) (cs := #[.int .i64 b.Client, .int .i64 b.Kind, .string (mkS b.Path)]) (by kernel_rfl) (by kernel_rfl) s1794 ?_
  intro b1795 h1796 s1797
  refine Op.pures 1 [2, 3] (L' := []) (e' := [(2, .pointer (some ⟨b1792, 0, none⟩)), (3, .pointer (some ⟨b1795, 0, none⟩))]) (by kernel_rfl) ?_
  refine Op.goto 1 (by kernel_rfl) ?_
  refine At.reg (L := [(0, false), (1, false), (2, false), (3, false), (4, false)]) (by kernel_rfl) ?_
  refine Op.pures 1 [2, 3, 5] (L' := [(1, false), (2, false), (3, false), (4, false)]) (e' := [(2, .pointer (some ⟨b1792, 0, none⟩)), (3, .pointer (some ⟨b1795, 0, none⟩)), (5, .pointer (some ⟨b1792, 2, none⟩))]) (by kernel_rfl) ?_
  refine Op.load (T := 9) (x := (.tmp 5)) (o := 2) (d := 6) (n := 1) (v := .string (mkS a.Path)) (by kernel_rfl) (by kernel_rfl) (by kernel_rfl) (s1797.chunk 1 rfl) (by kernel_rfl) ?_
  refine Op.pures 1 [2, 3, 6, 7] (L' := [(3, false), (4, false)]) (e' := [(2, .pointer (some ⟨b1792, 0, none⟩)), (3, .pointer (some ⟨b1795, 0, none⟩)), (6, .string (mkS a.Path)), (7, .pointer (some ⟨b1795, 2, none⟩))]) (by kernel_rfl) ?_
  refine Op.load (T := 9) (x := (.tmp 7)) (o := 2) (d := 8) (n := 1) (v := .string (mkS b.Path)) (by kernel_rfl) (by kernel_rfl) (by kernel_rfl) (s1797.chunk 0 rfl) (by kernel_rfl) ?_
  refine Op.val (dst := some 9) (v := .bool (!((mkS a.Path).toList == (mkS b.Path).toList))) (v' := .bool (!(a.Path == b.Path))) (by kernel_rfl) (by rw [toList_mkS, toList_mkS]) ?_
  refine Op.goto 2 (by kernel_rfl) ?_
  refine At.cond (b := !(a.Path == b.Path)) (c := .tmp 9) (by kernel_rfl) (by kernel_rfl) (by kernel_rfl) 3 5 (by kernel_rfl) (by kernel_rfl) (fun hb => ?_) (fun hb => ?_)
  · have c1798 : ¬ (a.Path = b.Path) := neF (notT hb)
    clear hb
    refine At.keep [2, 3] ?_; show At _ _ _ [(2, .pointer (some ⟨b1792, 0, none⟩)), (3, .pointer (some ⟨b1795, 0, none⟩))] _
    refine At.reg (L := [(0, false), (1, false), (2, false), (3, false), (4, false), (5, false)]) (by kernel_rfl) ?_
    refine Op.pures 1 [3, 10] (L' := [(1, false), (2, false), (3, false), (4, false), (5, false)]) (e' := [(3, .pointer (some ⟨b1795, 0, none⟩)), (10, .pointer (some ⟨b1792, 2, none⟩))]) (by kernel_rfl) ?_
    refine Op.load (T := 9) (x := (.tmp 10)) (o := 2) (d := 11) (n := 1) (v := .string (mkS a.Path)) (by kernel_rfl) (by kernel_rfl) (by kernel_rfl) (s1797.chunk 1 rfl) (by kernel_rfl) ?_
    refine Op.pures 1 [11, 12] (L' := [(3, false), (4, false), (5, false)]) (e' := [(11, .string (mkS a.Path)), (12, .pointer (some ⟨b1795, 2, none⟩))]) (by kernel_rfl) ?_
    refine Op.load (T := 9) (x := (.tmp 12)) (o := 2) (d := 13) (n := 1) (v := .string (mkS b.Path)) (by kernel_rfl) (by kernel_rfl) (by kernel_rfl) (s1797.chunk 0 rfl) (by kernel_rfl) ?_
    refine Op.val (dst := some 14) (v := .bool (Go.Op.bytesLess (mkS a.Path).toList (mkS b.Path).toList)) (v' := .bool (Go.Op.bytesLess a.Path b.Path)) (by kernel_rfl) (by rw [toList_mkS, toList_mkS]) ?_
    refine Op.pures 1 [4] (L' := []) (e' := [(4, .bool (Go.Op.bytesLess a.Path b.Path))]) (by kernel_rfl) ?_
    refine Op.goto 4 (by kernel_rfl) ?_
    refine At.ret (f := Tryd.f53) (v := .bool (Go.Op.bytesLess a.Path b.Path)) (by kernel_rfl) (by kernel_rfl) ?_
    have s1799 : St h g (ids []) g [] h1796 := (s1797).drop.drop
    refine hR _ _ _ _ s1799 ⟨?_, rfl, rfl⟩
    exact (eqB (by simp_all [lessW]))
  · have c1800 : a.Path = b.Path := eq_of_beq (notF hb)
    clear hb
    refine At.keep [2, 3] ?_; show At _ _ _ [(2, .pointer (some ⟨b1792, 0, none⟩)), (3, .pointer (some ⟨b1795, 0, none⟩))] _
    refine At.reg (L := [(0, false), (1, false), (2, false), (3, false), (4, false)]) (by kernel_rfl) ?_
    refine Op.pures 1 [2, 3, 15] (L' := [(1, false), (2, false), (3, false), (4, false)]) (e' := [(2, .pointer (some ⟨b1792, 0, none⟩)), (3, .pointer (some ⟨b1795, 0, none⟩)), (15, .pointer (some ⟨b1792, 1, none⟩))]) (by kernel_rfl) ?_
    refine Op.load (T := 3) (x := (.tmp 15)) (o := 1) (d := 16) (n := 1) (v := .int .i64 a.Kind) (by kernel_rfl) (by kernel_rfl) (by kernel_rfl) (s1797.chunk 1 rfl) (by kernel_rfl) ?_
    refine Op.pures 1 [2, 3, 16, 17] (L' := [(3, false), (4, false)]) (e' := [(2, .pointer (some ⟨b1792, 0, none⟩)), (3, .pointer (some ⟨b1795, 0, none⟩)), (16, .int .i64 a.Kind), (17, .pointer (some ⟨b1795, 1, none⟩))]) (by kernel_rfl) ?_
    refine Op.load (T := 3) (x := (.tmp 17)) (o := 1) (d := 18) (n := 1) (v := .int .i64 b.Kind) (by kernel_rfl) (by kernel_rfl) (by kernel_rfl) (s1797.chunk 0 rfl) (by kernel_rfl) ?_
    refine Op.pures 1 [2, 3, 19] (L' := []) (e' := [(2, .pointer (some ⟨b1792, 0, none⟩)), (3, .pointer (some ⟨b1795, 0, none⟩)), (19, .bool (a.Kind != b.Kind))]) (by kernel_rfl) ?_
    refine Op.goto 6 (by kernel_rfl) ?_
    refine At.cond (b := a.Kind != b.Kind) (c := .tmp 19) (by kernel_rfl) (by kernel_rfl) (by kernel_rfl) 7 9 (by kernel_rfl) (by kernel_rfl) (fun hb => ?_) (fun hb => ?_)
    · have c1801 : ¬ (a.Kind = b.Kind) := bneT hb
      clear hb
      refine At.keep [2, 3] ?_; show At _ _ _ [(2, .pointer (some ⟨b1792, 0, none⟩)), (3, .pointer (some ⟨b1795, 0, none⟩))] _
      refine At.reg (L := [(0, false), (1, false), (2, false), (3, false), (4, false), (5, false)]) (by kernel_rfl) ?_
      refine Op.pures 1 [3, 20] (L' := [(1, false), (2, false), (3, false), (4, false), (5, false)]) (e' := [(3, .pointer (some ⟨b1795, 0, none⟩)), (20, .pointer (some ⟨b1792, 1, none⟩))]) (by kernel_rfl) ?_
      refine Op.load (T := 3) (x := (.tmp 20)) (o := 1) (d := 21) (n := 1) (v := .int .i64 a.Kind) (by kernel_rfl) (by kernel_rfl) (by kernel_rfl) (s1797.chunk 1 rfl) (by kernel_rfl) ?_
      refine Op.pures 1 [21, 22] (L' := [(3, false), (4, false), (5, false)]) (e' := [(21, .int .i64 a.Kind), (22, .pointer (some ⟨b1795, 1, none⟩))]) (by kernel_rfl) ?_
      refine Op.load (T := 3) (x := (.tmp 22)) (o := 1) (d := 23) (n := 1) (v := .int .i64 b.Kind) (by kernel_rfl) (by kernel_rfl) (by kernel_rfl) (s1797.chunk 0 rfl) (by kernel_rfl) ?_
      refine Op.pures 2 [4] (L' := []) (e' := [(4, .bool (decide (a.Kind < b.Kind)))]) (by kernel_rfl) ?_
      refine Op.goto 8 (by kernel_rfl) ?_
      refine At.ret (f := Tryd.f53) (v := .bool (decide (a.Kind < b.Kind))) (by kernel_rfl) (by kernel_rfl) ?_
      have s1802 : St h g (ids []) g [] h1796 := (s1797).drop.drop
      refine hR _ _ _ _ s1802 ⟨?_, rfl, rfl⟩
      exact (eqB (by simp_all [lessW]))
    · have c1803 : a.Kind = b.Kind := bneF hb
      clear hb
      refine At.keep [2, 3] ?_; show At _ _ _ [(2, .pointer (some ⟨b1792, 0, none⟩)), (3, .pointer (some ⟨b1795, 0, none⟩))] _
      refine At.reg (L := [(0, false), (1, false), (2, false), (3, false), (4, false), (5, false)]) (by kernel_rfl) ?_
      refine Op.pures 1 [3, 25] (L' := [(1, false), (2, false), (3, false), (4, false), (5, false)]) (e' := [(3, .pointer (some ⟨b1795, 0, none⟩)), (25, .pointer (some ⟨b1792, 0, none⟩))]) (by kernel_rfl) ?_
      refine Op.load (T := 3) (x := (.tmp 25)) (o := 0) (d := 26) (n := 1) (v := .int .i64 a.Client) (by kernel_rfl) (by kernel_rfl) (by kernel_rfl) (s1797.chunk 1 rfl) (by kernel_rfl) ?_
      refine Op.pures 1 [26, 27] (L' := [(3, false), (4, false), (5, false)]) (e' := [(26, .int .i64 a.Client), (27, .pointer (some ⟨b1795, 0, none⟩))]) (by kernel_rfl) ?_
      refine Op.load (T := 3) (x := (.tmp 27)) (o := 0) (d := 28) (n := 1) (v := .int .i64 b.Client) (by kernel_rfl) (by kernel_rfl) (by kernel_rfl) (s1797.chunk 0 rfl) (by kernel_rfl) ?_
      refine Op.pures 2 [4] (L' := []) (e' := [(4, .bool (decide (a.Client < b.Client)))]) (by kernel_rfl) ?_
      refine Op.goto 10 (by kernel_rfl) ?_
      refine At.ret (f := Tryd.f53) (v := .bool (decide (a.Client < b.Client))) (by kernel_rfl) (by kernel_rfl) ?_
      have s1804 : St h g (ids []) g [] h1796 := (s1797).drop.drop
      refine hR _ _ _ _ s1804 ⟨?_, rfl, rfl⟩
      exact (eqB (by simp_all [lessW]))

/-- stanchion/stanchionref00.CopyInts -/
theorem copyInts (B : World) (h : Heap) (g : GH) (hg : Sub g h) (hG : Glob g) (v_s : Value) (s : List Int) (h_s : SlR g 3 (kInt .i64) v_s s) (h1 : s.length ≤ 1000000000) :
    Spec Tryd.prog B 28 #[v_s] h g [] (fun rv g' L' => ∃ v0 k0, rv = v0 ∧ Row 3 (kInt .i64) g' v0 s k0 ∧ g' = g ∧ L' = [k0]) := by
  obtain ⟨a_s, n_s, rfl⟩ := h_s.form
  refine Spec.of_at (f := Tryd.f28) (e := [(0, .slice a_s s.length n_s)]) Tryd.func28 (by kernel_rfl) (Nat.le_of_ble_eq_true (by kernel_rfl)) (by kernel_rfl) (by kernel_rfl) ?_
  intro R hR
  have s0 := St.init hg
  refine At.reg (L := [(0, false)]) (by kernel_rfl) ?_
  refine Op.pures 1 [0] (L' := []) (e' := [(0, .slice a_s s.length n_s)]) (by kernel_rfl) ?_
  refine Op.goto 1 (by kernel_rfl) ?_
  refine At.reg (L := [(0, false), (1, false)]) (by kernel_rfl) ?_
  refine Op.lit (T := 38) (len := 0) (parts := #[]) (dst := 4) (E := 3) (ps := []) (cs := #[]) (by kernel_rfl) (by kernel_rfl) (by kernel_rfl) s0 ?_
  intro b1805 h1806 s1807
  refine Op.pures 1 [0, 3] (L' := []) (e' := [(0, .slice a_s s.length n_s), (3, .slice (some ⟨b1805, 0, none⟩) 0 0)]) (by kernel_rfl) ?_
  refine Op.goto 2 (by kernel_rfl) ?_
  refine At.reg (L := [(0, false), (1, false), (2, false), (3, false)]) (by kernel_rfl) ?_
  refine Op.pures 2 [3, 5, 6] (L' := [(2, false), (3, false)]) (e' := [(3, .slice (some ⟨b1805, 0, none⟩) 0 0), (5, .slice (some ⟨b1805, 0, none⟩) 0 0), (6, .slice a_s s.length n_s)]) (by kernel_rfl) ?_
  have R1808 : Row 3 (kInt .i64) g (.slice (some ⟨b1805, 0, none⟩) 0 0) ([] : List Int) [(b1805, Obj.cells #[] 3 (0, 0))] := Row.lit (by kernel_rfl) (by unfold maxLen; decide) (by kernel_rfl) Reads.nil
  obtain ⟨ns1809, hs1810, hr1811⟩ := Src.slice (P := Tryd.prog) (h_s.toH s1807.sub)
  refine Op.append (x := (.tmp 5)) (y := (.tmp 6)) (t := 38) (t' := 38) (dst := 7) (E := 3) (by_ := 8) (d := (kInt .i64)) (by kernel_rfl) (by kernel_rfl) (by kernel_rfl) (by kernel_rfl) rfl R1808 s1807 0 rfl hs1810 (ys := s) hr1811 rfl (by first | omega | (simp only [List.length_append, List.length_cons, List.length_nil, List.length_take, List.length_drop]; omega)) (fun _ _ _ => trivial) ?_
  intro v1812 ch1813 h1814 R1815 s1816 nn1817
  obtain ⟨a1818, n1819, rfl⟩ := R1815.form
  refine Op.pures 1 [3] (L' := []) (e' := [(3, .slice a1818 ((([] : List Int) ++ s).length) n1819)]) (by kernel_rfl) ?_
  refine Op.goto 3 (by kernel_rfl) ?_
  refine At.reg (L := [(0, false), (1, false)]) (by kernel_rfl) ?_
  refine Op.pures 2 [2] (L' := []) (e' := [(2, .slice a1818 ((([] : List Int) ++ s).length) n1819)]) (by kernel_rfl) ?_
  refine Op.goto 4 (by kernel_rfl) ?_
  refine At.ret (f := Tryd.f28) (v := .slice a1818 ((([] : List Int) ++ s).length) n1819) (by kernel_rfl) (by kernel_rfl) ?_
  refine hR _ _ _ _ s1816 ⟨(.slice a1818 ((([] : List Int) ++ s).length) n1819), ch1813, ?_, ?_, rfl, rfl⟩
  · exact rfl
  · exact rowEq R1815 (by simp)

/-- stanchion/stanchionref00.CopyWatches -/
theorem copyWatches (B : World) (h : Heap) (g : GH) (hg : Sub g h) (hG : Glob g) (v_s : Value) (s : List Watch) (h_s : SlR g 27 kWatch v_s s) (h1 : s.length ≤ 1000000000) :
    Spec Tryd.prog B 30 #[v_s] h g [] (fun rv g' L' => ∃ v0 k0, rv = v0 ∧ Row 27 kWatch g' v0 s k0 ∧ g' = g ∧ L' = [k0]) := by
  obtain ⟨a_s, n_s, rfl⟩ := h_s.form
  refine Spec.of_at (f := Tryd.f30) (e := [(0, .slice a_s s.length n_s)]) Tryd.func30 (by kernel_rfl) (Nat.le_of_ble_eq_true (by kernel_rfl)) (by kernel_rfl) (by kernel_rfl) ?_
  intro R hR
  have s0 := St.init hg
  refine At.reg (L := [(0, false)]) (by kernel_rfl) ?_
  refine Op.pures 1 [0] (L' := []) (e' := [(0, .slice a_s s.length n_s)]) (by kernel_rfl) ?_
  refine Op.goto 1 (by kernel_rfl) ?_
  refine At.reg (L := [(0, false), (1, false)]) (by kernel_rfl) ?_
  refine Op.lit (T := 22) (len := 0) (parts := #[]) (dst := 4) (E := 27) (ps := []) (cs := #[]) (by kernel_rfl) (by kernel_rfl) (by kernel_rfl) s0 ?_
  intro b1820 h1821 s1822
  refine Op.pures 1 [0, 3] (L' := []) (e' := [(0, .slice a_s s.length n_s), (3, .slice (some ⟨b1820, 0, none⟩) 0 0)]) (by kernel_rfl) ?_
  refine Op.goto 2 (by kernel_rfl) ?_
  refine At.reg (L := [(0, false), (1, false), (2, false), (3, false)]) (by kernel_rfl) ?_
  refine Op.pures 2 [3, 5, 6] (L' := [(2, false), (3, false)]) (e' := [(3, .slice (some ⟨b1820, 0, none⟩) 0 0), (5, .slice (some ⟨b1820, 0, none⟩) 0 0), (6, .slice a_s s.length n_s)]) (by kernel_rfl) ?_
  have R1823 : Row 27 kWatch g (.slice (some ⟨b1820, 0, none⟩) 0 0) ([] : List Watch) [(b1820, Obj.cells #[] 27 (0, 0))] := Row.lit (by kernel_rfl) (by unfold maxLen; decide) (by kernel_rfl) Reads.nil
  obtain ⟨ns1824, hs1825, hr1826⟩ := Src.slice (P := Tryd.prog) (h_s.toH s1822.sub)
  refine Op.append (x := (.tmp 5)) (y := (.tmp 6)) (t := 22) (t' := 22) (dst := 7) (E := 27) (by_ := 32) (d := kWatch) (by kernel_rfl) (by kernel_rfl) (by kernel_rfl) (by kernel_rfl) rfl R1823 s1822 0 rfl hs1825 (ys := s) hr1826 rfl (by first | omega | (simp only [List.length_append, List.length_cons, List.length_nil, List.length_take, List.length_drop]; omega)) (fun _ _ _ => trivial) ?_
  intro v1827 ch1828 h1829 R1830 s1831 nn1832
  obtain ⟨a1833, n1834, rfl⟩ := R1830.form
  refine Op.pures 1 [3] (L' := []) (e' := [(3, .slice a1833 ((([] : List Watch) ++ s).length) n1834)]) (by kernel_rfl) ?_
  refine Op.goto 3 (by kernel_rfl) ?_
  refine At.reg (L := [(0, false), (1, false)]) (by kernel_rfl) ?_
  refine Op.pures 2 [2] (L' := []) (e' := [(2, .slice a1833 ((([] : List Watch) ++ s).length) n1834)]) (by kernel_rfl) ?_
  refine Op.goto 4 (by kernel_rfl) ?_
  refine At.ret (f := Tryd.f30) (v := .slice a1833 ((([] : List Watch) ++ s).length) n1834) (by kernel_rfl) (by kernel_rfl) ?_
  refine hR _ _ _ _ s1831 ⟨(.slice a1833 ((([] : List Watch) ++ s).length) n1834), ch1828, ?_, ?_, rfl, rfl⟩
  · exact rfl
  · exact rowEq R1830 (by simp)

/-- stanchion/stanchionref00.SameWatches -/
theorem sameWatches (B : World) (h : Heap) (g : GH) (hg : Sub g h) (hG : Glob g) (v_a : Value) (a : List Watch) (h_a : SlR g 27 kWatch v_a a) (v_b : Value) (b : List Watch) (h_b : SlR g 27 kWatch v_b b) (h1 : a.length ≤ 1000000000) :
    Spec Tryd.prog B 17 #[v_a, v_b] h g [] (fun rv g' L' => rv = .bool (decide (a = b)) ∧ g' = g ∧ L' = []) := by
  obtain ⟨a_a, n_a, rfl⟩ := h_a.form
  obtain ⟨a_b, n_b, rfl⟩ := h_b.form
  refine Spec.of_at (f := Tryd.f17) (e := [(0, .slice a_a a.length n_a), (1, .slice a_b b.length n_b)]) Tryd.func17 (by kernel_rfl) (Nat.le_of_ble_eq_true (by kernel_rfl)) (by kernel_rfl) (by kernel_rfl) ?_
  intro R hR
  have s0 := St.init hg
  refine At.reg (L := [(0, false)]) (by kernel_rfl) ?_
  refine Op.pures 1 [0, 1] (L' := []) (e' := [(0, .slice a_a a.length n_a), (1, .slice a_b b.length n_b)]) (by kernel_rfl) ?_
  refine Op.goto 1 (by kernel_rfl) ?_
  refine At.reg (L := [(0, false), (1, false), (2, false), (3, false), (4, false)]) (by kernel_rfl) ?_
  refine Op.pures 5 [0, 1, 10] (L' := []) (e' := [(0, .slice a_a a.length n_a), (1, .slice a_b b.length n_b), (10, .bool ((a.length : Int) != (b.length : Int)))]) (by kernel_rfl) ?_
  refine Op.goto 2 (by kernel_rfl) ?_
  refine At.cond (b := (a.length : Int) != (b.length : Int)) (c := .tmp 10) (by kernel_rfl) (by kernel_rfl) (by kernel_rfl) 3 5 (by kernel_rfl) (by kernel_rfl) (fun hb => ?_) (fun hb => ?_)
  · have c1835 : ¬ ((a.length : Int) = (b.length : Int)) := bneT hb
    clear hb
    refine At.keep [] ?_; show At _ _ _ [] _
    refine At.reg (L := [(0, false)]) (by kernel_rfl) ?_
    refine Op.pures 1 [4] (L' := []) (e' := [(4, .bool false)]) (by kernel_rfl) ?_
    refine Op.goto 4 (by kernel_rfl) ?_
    refine At.ret (f := Tryd.f17) (v := .bool false) (by kernel_rfl) (by kernel_rfl) ?_
    refine hR _ _ _ _ s0 ⟨?_, rfl, rfl⟩
    exact (eqB (by exact sameE_len (by assumption)))
  · have c1836 : (a.length : Int) = (b.length : Int) := bneF hb
    clear hb
    refine At.keep [0, 1] ?_; show At _ _ _ [(0, .slice a_a a.length n_a), (1, .slice a_b b.length n_b)] _
    refine At.reg (L := [(0, false)]) (by kernel_rfl) ?_
    refine Op.pures 1 [0, 1, 5] (L' := []) (e' := [(0, .slice a_a a.length n_a), (1, .slice a_b b.length n_b), (5, .int .i64 0)]) (by kernel_rfl) ?_
    refine Op.goto 6 (by kernel_rfl) ?_
    have loop6 : ∀ (m : Nat) (i : Int) (h1837 : Heap) (hm : a.length - i.toNat < m) (h0 : 0 ≤ i) (h2 : i ≤ a.length) (ht : a.take i.toNat = b.take i.toNat)    (s_loop61836 : St h g (ids []) g [] h1837), At (fctx Tryd.prog B 17 Tryd.f17 R) [] 6 [(0, .slice a_a a.length n_a), (1, .slice a_b b.length n_b), (5, .int .i64 i)] h1837 := by
      intro m; induction m with
      | zero => intros; omega
      | succ m ih6 =>
        intro i h1837 hm h0 h2 ht s_loop61836
        refine At.reg (L := [(0, false), (1, false), (2, false), (3, false)]) (by kernel_rfl) ?_
        refine Op.pures 4 [0, 1, 5, 14] (L' := []) (e' := [(0, .slice a_a a.length n_a), (1, .slice a_b b.length n_b), (5, .int .i64 i), (14, .bool (decide (i < (a.length : Int))))]) (by kernel_rfl) ?_
        refine Op.goto 7 (by kernel_rfl) ?_
        refine At.cond (b := decide (i < (a.length : Int))) (c := .tmp 14) (by kernel_rfl) (by kernel_rfl) (by kernel_rfl) 8 13 (by kernel_rfl) (by kernel_rfl) (fun hb => ?_) (fun hb => ?_)
        · have c1838 : i < (a.length : Int) := of_decide_eq_true hb
          clear hb
          refine At.keep [0, 1, 5] ?_; show At _ _ _ [(0, .slice a_a a.length n_a), (1, .slice a_b b.length n_b), (5, .int .i64 i)] _
          refine At.draw (by kernel_rfl) (fun _ => False) [(0, true), (1, true), (2, true), (4, true), (5, true), (6, true), (3, true), (7, false), (8, true)] (by kernel_rfl) ?_
          refine Op.pures 2 [0, 1, 5, 17, 18] (L' := [(2, true), (4, true), (5, true), (6, true), (3, true), (7, false), (8, true)]) (e' := [(0, .slice a_a a.length n_a), (1, .slice a_b b.length n_b), (5, .int .i64 i), (17, .slice a_a a.length n_a), (18, .int .i64 i)]) (by kernel_rfl) ?_
          obtain ⟨x1839, hx1840⟩ : ∃ c, a[(i : Int).toNat]? = some c := ⟨_, List.getElem?_eq_getElem (by omega)⟩
          obtain ⟨b1841, o1842, cu1843, fz1844, ha1845, hb1846, hk1847⟩ := SlR.at_ h_a _ hx1840
          cases ha1845
          refine Op.idx (T := 22) (E := 27) (sz := 3) (by_ := 32) (n := a.length) (c := n_a) (k := .i64) (x := (.tmp 17)) (ix := (.tmp 18)) (dst := 19) (bk := b1841) (o := o1842) (m := i) (by kernel_rfl) (by kernel_rfl) (by kernel_rfl) (by kernel_rfl) (by omega) (by omega) ?_
          replace hk1847 : cut _ _ _ = [.int .i64 x1839.Client, .int .i64 x1839.Kind, .string (mkS x1839.Path)] := hk1847
          refine Op.pures 2 [0, 1, 5, 19, 21, 22] (L' := [(6, true), (3, true), (7, false), (8, true)]) (e' := [(0, .slice (some ⟨b1841, o1842, none⟩) a.length n_a), (1, .slice a_b b.length n_b), (5, .int .i64 i), (19, .pointer (some ⟨b1841, o1842 + (i : Int).toNat * 3, none⟩)), (21, .slice a_b b.length n_b), (22, .int .i64 i)]) (by kernel_rfl) ?_
          obtain ⟨x1848, hx1849⟩ : ∃ c, b[(i : Int).toNat]? = some c := ⟨_, List.getElem?_eq_getElem (by omega)⟩
          obtain ⟨b1850, o1851, cu1852, fz1853, ha1854, hb1855, hk1856⟩ := SlR.at_ h_b _ hx1849
          cases ha1854
          refine Op.idx (T := 22) (E := 27) (sz := 3) (by_ := 32) (n := b.length) (c := n_b) (k := .i64) (x := (.tmp 21)) (ix := (.tmp 22)) (dst := 23) (bk := b1850) (o := o1851) (m := i) (by kernel_rfl) (by kernel_rfl) (by kernel_rfl) (by kernel_rfl) (by omega) (by omega) ?_
          replace hk1856 : cut _ _ _ = [.int .i64 x1848.Client, .int .i64 x1848.Kind, .string (mkS x1848.Path)] := hk1856
          refine Op.loadAF (T := 27) (x := (.tmp 19)) (o := o1842 + (i : Int).toNat * 3) (d := 20) (n := 3) (vs := [.int .i64 x1839.Client, .int .i64 x1839.Kind, .string (mkS x1839.Path)]) (by kernel_rfl) (by kernel_rfl) (by kernel_rfl) (fun h => h) (s_loop61836.sub _ _ hb1846) (hk1847) rfl ?_
          refine Op.loadA (T := 27) (x := (.tmp 23)) (o := o1851 + (i : Int).toNat * 3) (d := 24) (n := 3) (vs := [.int .i64 x1848.Client, .int .i64 x1848.Kind, .string (mkS x1848.Path)]) (by kernel_rfl) (by kernel_rfl) (by kernel_rfl) (s_loop61836.sub _ _ hb1855) (hk1856) rfl ?_
          refine Op.eqAgg (T := 27) (T' := 27) (x := (.tmp 20)) (y := (.tmp 24)) (neq := true) (dst := 25) (xs := #[.int .i64 x1839.Client, .int .i64 x1839.Kind, .string (mkS x1839.Path)]) (ys := #[.int .i64 x1848.Client, .int .i64 x1848.Kind, .string (mkS x1848.Path)]) (q := ((x1839.Client == x1848.Client) && ((x1839.Kind == x1848.Kind) && ((mkS x1839.Path == mkS x1848.Path) && true)))) (q' := !(decide (x1839 = x1848))) (by kernel_rfl) (by kernel_rfl) (by kernel_rfl) (by kernel_rfl) (by kernel_rfl) (congrArg (fun z => !z) (eqT_Watch x1839 x1848)) ?_
          refine Op.goto 9 (by kernel_rfl) ?_
          refine At.cond (b := !(decide (x1839 = x1848))) (c := .tmp 25) (by kernel_rfl) (by kernel_rfl) (by kernel_rfl) 10 12 (by kernel_rfl) (by kernel_rfl) (fun hb => ?_) (fun hb => ?_)
          · have c1857 : ¬ (x1839 = x1848) := of_decide_eq_false (notT hb)
            clear hb
            refine At.keep [] ?_; show At _ _ _ [] _
            refine At.reg (L := [(0, false)]) (by kernel_rfl) ?_
            refine Op.pures 1 [4] (L' := []) (e' := [(4, .bool false)]) (by kernel_rfl) ?_
            refine Op.goto 11 (by kernel_rfl) ?_
            refine At.ret (f := Tryd.f17) (v := .bool false) (by kernel_rfl) (by kernel_rfl) ?_
            refine hR _ _ _ _ s_loop61836 ⟨?_, rfl, rfl⟩
            exact (eqB (by exact sameE_ne hx1840 hx1849 c1857))
          · have c1858 : x1839 = x1848 := of_decide_eq_true (notF hb)
            clear hb
            refine At.keep [0, 1, 5] ?_; show At _ _ _ [(0, .slice (some ⟨b1841, o1842, none⟩) a.length n_a), (1, .slice (some ⟨b1850, o1851, none⟩) b.length n_b), (5, .int .i64 i)] _
            refine At.reg (L := [(0, false), (1, false), (2, false)]) (by kernel_rfl) ?_
            refine Op.pures 1 [0, 1, 5, 15] (L' := [(1, false), (2, false)]) (e' := [(0, .slice (some ⟨b1841, o1842, none⟩) a.length n_a), (1, .slice (some ⟨b1850, o1851, none⟩) b.length n_b), (5, .int .i64 i), (15, .int .i64 i)]) (by kernel_rfl) ?_
            refine Op.val (dst := some 16) (v := .int .i64 (IntKind.wrap .i64 (i + 1))) (v' := .int .i64 (i + 1)) (by kernel_rfl) (wrapEq_i64 (by omega) (by omega)) ?_
            refine Op.pures 1 [0, 1, 5] (L' := []) (e' := [(0, .slice (some ⟨b1841, o1842, none⟩) a.length n_a), (1, .slice (some ⟨b1850, o1851, none⟩) b.length n_b), (5, .int .i64 (i + 1))]) (by kernel_rfl) ?_
            refine Op.goto 6 (by kernel_rfl) ?_
            exact ih6  (i + 1) _ (by omega) (by omega) (by omega) (by exact take_step ht h0 hx1840 hx1849 c1858)  s_loop61836
        · have c1859 : ¬ (i < (a.length : Int)) := of_decide_eq_false hb
          clear hb
          refine At.keep [] ?_; show At _ _ _ [] _
          refine At.reg (L := [(0, false)]) (by kernel_rfl) ?_
          refine Op.pures 1 [4] (L' := []) (e' := [(4, .bool true)]) (by kernel_rfl) ?_
          refine Op.goto 14 (by kernel_rfl) ?_
          refine At.ret (f := Tryd.f17) (v := .bool true) (by kernel_rfl) (by kernel_rfl) ?_
          refine hR _ _ _ _ s_loop61836 ⟨?_, rfl, rfl⟩
          exact (eqB (by exact sameE_end (by assumption) c1859 ht))
    exact loop6 _  0 _ (Nat.lt_succ_self _) (by omega) (by omega) (by rfl)  s0

/-- stanchion/watch.Right -/
theorem rightW_ (B : World) (h : Heap) (g : GH) (hg : Sub g h) (hG : Glob g) (w : Watch) (hlen : w.Path.length ≤ 1000000000) :
    Spec Tryd.prog B 21 #[.agg #[.int .i64 w.Client, .int .i64 w.Kind, .string (mkS w.Path)]] h g [] (fun rv g' L' => rv = .bool (rightW w) ∧ g' = g ∧ L' = []) := by
  refine Spec.of_at (f := Tryd.f21) (e := [(0, .agg #[.int .i64 w.Client, .int .i64 w.Kind, .string (mkS w.Path)])]) Tryd.func21 (by kernel_rfl) (Nat.le_of_ble_eq_true (by kernel_rfl)) (by kernel_rfl) (by kernel_rfl) ?_
  intro R hR
  have s0 := St.init hg
  refine At.reg (L := [(0, false), (1, false)]) (by kernel_rfl) ?_
  refine Op.box (T := 27) (x := (.tmp 0)) (d := 1) (cs := #[.int .i64 w.Client, .int .i64 w.Kind, .string (mkS w.Path)]) (by kernel_rfl) (by kernel_rfl) s0 ?_
  intro b1860 h1861 s1862
  refine Op.pures 1 [1] (L' := []) (e' := [(1, .pointer (some ⟨b1860, 0, none⟩))]) (by kernel_rfl) ?_
  refine Op.goto 1 (by kernel_rfl) ?_
  refine At.reg (L := [(0, false), (1, false), (2, false), (3, false), (4, false), (5, false), (6, false), (7, false), (8, false), (9, false), (10, false), (11, false), (12, false), (13, false), (14, false), (15, false), (16, false), (17, false), (18, false), (19, false), (20, false), (21, false), (22, false), (23, false), (24, false)]) (by kernel_rfl) ?_
  refine Op.pures 1 [1, 3] (L' := [(1, false), (2, false), (3, false), (4, false), (5, false), (6, false), (7, false), (8, false), (9, false), (10, false), (11, false), (12, false), (13, false), (14, false), (15, false), (16, false), (17, false), (18, false), (19, false), (20, false), (21, false), (22, false), (23, false), (24, false)]) (e' := [(1, .pointer (some ⟨b1860, 0, none⟩)), (3, .pointer (some ⟨b1860, 0, none⟩))]) (by kernel_rfl) ?_
  refine Op.load (T := 3) (x := (.tmp 3)) (o := 0) (d := 4) (n := 1) (v := .int .i64 w.Client) (by kernel_rfl) (by kernel_rfl) (by kernel_rfl) (s1862.chunk 0 rfl) (by kernel_rfl) ?_
  refine Op.pures 2 [1, 6] (L' := [(4, false), (5, false), (6, false), (7, false), (8, false), (9, false), (10, false), (11, false), (12, false), (13, false), (14, false), (15, false), (16, false), (17, false), (18, false), (19, false), (20, false), (21, false), (22, false), (23, false), (24, false)]) (e' := [(1, .pointer (some ⟨b1860, 0, none⟩)), (6, .bool (decide (w.Client ≥ (0 : Int))))]) (by kernel_rfl) ?_
  refine Op.ways (b := decide (w.Client ≥ (0 : Int))) ⟨fun hb => ?_, fun hb => ?_⟩
  · refine Op.cast (e' := [(1, .pointer (some ⟨b1860, 0, none⟩)), (6, .bool true)]) (by rw [hb]) ?_
    have c1863 : w.Client ≥ (0 : Int) := of_decide_eq_true hb
    clear hb
    refine Op.pures 1 [1, 6, 7] (L' := [(5, false), (6, false), (7, false), (8, false), (9, false), (10, false), (11, false), (12, false), (13, false), (14, false), (15, false), (16, false), (17, false), (18, false), (19, false), (20, false), (21, false), (22, false), (23, false), (24, false)]) (e' := [(1, .pointer (some ⟨b1860, 0, none⟩)), (6, .bool true), (7, .pointer (some ⟨b1860, 0, none⟩))]) (by kernel_rfl) ?_
    refine Op.load (T := 3) (x := (.tmp 7)) (o := 0) (d := 8) (n := 1) (v := .int .i64 w.Client) (by kernel_rfl) (by kernel_rfl) (by kernel_rfl) (s1862.chunk 0 rfl) (by kernel_rfl) ?_
    refine Op.pures 3 [1, 11] (L' := [(9, false), (10, false), (11, false), (12, false), (13, false), (14, false), (15, false), (16, false), (17, false), (18, false), (19, false), (20, false), (21, false), (22, false), (23, false), (24, false)]) (e' := [(1, .pointer (some ⟨b1860, 0, none⟩)), (11, .bool (decide (w.Client < (8 : Int))))]) (by kernel_rfl) ?_
    refine Op.ways (b := decide (w.Client < (8 : Int))) ⟨fun hb => ?_, fun hb => ?_⟩
    · refine Op.cast (e' := [(1, .pointer (some ⟨b1860, 0, none⟩)), (11, .bool true)]) (by rw [hb]) ?_
      have c1864 : w.Client < (8 : Int) := of_decide_eq_true hb
      clear hb
      refine Op.pures 1 [1, 11, 12] (L' := [(10, false), (11, false), (12, false), (13, false), (14, false), (15, false), (16, false), (17, false), (18, false), (19, false), (20, false), (21, false), (22, false), (23, false), (24, false)]) (e' := [(1, .pointer (some ⟨b1860, 0, none⟩)), (11, .bool true), (12, .pointer (some ⟨b1860, 1, none⟩))]) (by kernel_rfl) ?_
      refine Op.load (T := 3) (x := (.tmp 12)) (o := 1) (d := 13) (n := 1) (v := .int .i64 w.Kind) (by kernel_rfl) (by kernel_rfl) (by kernel_rfl) (s1862.chunk 0 rfl) (by kernel_rfl) ?_
      refine Op.pures 2 [1, 11, 15] (L' := [(13, false), (14, false), (15, false), (16, false), (17, false), (18, false), (19, false), (20, false), (21, false), (22, false), (23, false), (24, false)]) (e' := [(1, .pointer (some ⟨b1860, 0, none⟩)), (11, .bool true), (15, .bool (w.Kind == (1 : Int)))]) (by kernel_rfl) ?_
      refine Op.ways (b := w.Kind == (1 : Int)) ⟨fun hb => ?_, fun hb => ?_⟩
      · refine Op.cast (e' := [(1, .pointer (some ⟨b1860, 0, none⟩)), (11, .bool true), (15, .bool true)]) (by rw [hb]) ?_
        have c1865 : w.Kind = (1 : Int) := eq_of_beq hb
        clear hb
        refine Op.pures 7 [21, 22] (L' := [(20, false), (21, false), (22, false), (23, false), (24, false)]) (e' := [(21, .bool true), (22, .pointer (some ⟨b1860, 2, none⟩))]) (by kernel_rfl) ?_
        refine Op.load (T := 9) (x := (.tmp 22)) (o := 2) (d := 23) (n := 1) (v := .string (mkS w.Path)) (by kernel_rfl) (by kernel_rfl) (by kernel_rfl) (s1862.chunk 0 rfl) (by kernel_rfl) ?_
        refine Op.call0 (dst := some 24) (f := 38) (args := #[.string (mkS w.Path)]) (by kernel_rfl) s1862 (checkP _ _ _ s1862.sub hG w.Path (by ((try dsimp only) <;> (omega))) ) ?_
        rintro _ g1868 _ h1866 hle1869 s1867 ⟨rfl, hgg, rfl⟩; subst g1868; clear hle1869
        refine Op.pures 3 [2] (L' := []) (e' := [(2, .bool ((pErr w.Path) == (0 : Int)))]) (by kernel_rfl) ?_
        refine Op.goto 2 (by kernel_rfl) ?_
        refine At.ret (f := Tryd.f21) (v := .bool ((pErr w.Path) == (0 : Int))) (by kernel_rfl) (by kernel_rfl) ?_
        have s1870 : St h g (ids []) g [] h1866 := (s1867).drop
        refine hR _ _ _ _ s1870 ⟨?_, rfl, rfl⟩
        exact (eqB (by first | (simp [rightW, *]; done) | (simp [rightW]; omega)))
      · refine Op.cast (e' := [(1, .pointer (some ⟨b1860, 0, none⟩)), (11, .bool true), (15, .bool false)]) (by rw [hb]) ?_
        have c1871 : ¬ (w.Kind = (1 : Int)) := neF hb
        clear hb
        refine Op.pures 1 [1, 11, 15, 16] (L' := [(14, false), (15, false), (16, false), (17, false), (18, false), (19, false), (20, false), (21, false), (22, false), (23, false), (24, false)]) (e' := [(1, .pointer (some ⟨b1860, 0, none⟩)), (11, .bool true), (15, .bool false), (16, .pointer (some ⟨b1860, 1, none⟩))]) (by kernel_rfl) ?_
        refine Op.load (T := 3) (x := (.tmp 16)) (o := 1) (d := 17) (n := 1) (v := .int .i64 w.Kind) (by kernel_rfl) (by kernel_rfl) (by kernel_rfl) (s1862.chunk 0 rfl) (by kernel_rfl) ?_
        refine Op.pures 4 [1, 21] (L' := [(19, false), (20, false), (21, false), (22, false), (23, false), (24, false)]) (e' := [(1, .pointer (some ⟨b1860, 0, none⟩)), (21, .bool (w.Kind == (2 : Int)))]) (by kernel_rfl) ?_
        refine Op.ways (b := w.Kind == (2 : Int)) ⟨fun hb => ?_, fun hb => ?_⟩
        · refine Op.cast (e' := [(1, .pointer (some ⟨b1860, 0, none⟩)), (21, .bool true)]) (by rw [hb]) ?_
          have c1872 : w.Kind = (2 : Int) := eq_of_beq hb
          clear hb
          refine Op.pures 1 [21, 22] (L' := [(20, false), (21, false), (22, false), (23, false), (24, false)]) (e' := [(21, .bool true), (22, .pointer (some ⟨b1860, 2, none⟩))]) (by kernel_rfl) ?_
          refine Op.load (T := 9) (x := (.tmp 22)) (o := 2) (d := 23) (n := 1) (v := .string (mkS w.Path)) (by kernel_rfl) (by kernel_rfl) (by kernel_rfl) (s1862.chunk 0 rfl) (by kernel_rfl) ?_
          refine Op.call0 (dst := some 24) (f := 38) (args := #[.string (mkS w.Path)]) (by kernel_rfl) s1862 (checkP _ _ _ s1862.sub hG w.Path (by ((try dsimp only) <;> (omega))) ) ?_
          rintro _ g1875 _ h1873 hle1876 s1874 ⟨rfl, hgg, rfl⟩; subst g1875; clear hle1876
          refine Op.pures 3 [2] (L' := []) (e' := [(2, .bool ((pErr w.Path) == (0 : Int)))]) (by kernel_rfl) ?_
          refine Op.goto 2 (by kernel_rfl) ?_
          refine At.ret (f := Tryd.f21) (v := .bool ((pErr w.Path) == (0 : Int))) (by kernel_rfl) (by kernel_rfl) ?_
          have s1877 : St h g (ids []) g [] h1873 := (s1874).drop
          refine hR _ _ _ _ s1877 ⟨?_, rfl, rfl⟩
          exact (eqB (by first | (simp [rightW, *]; done) | (simp [rightW]; omega)))
        · refine Op.cast (e' := [(1, .pointer (some ⟨b1860, 0, none⟩)), (21, .bool false)]) (by rw [hb]) ?_
          have c1878 : ¬ (w.Kind = (2 : Int)) := neF hb
          clear hb
          refine Op.pures 6 [2] (L' := []) (e' := [(2, .bool false)]) (by kernel_rfl) ?_
          refine Op.goto 2 (by kernel_rfl) ?_
          refine At.ret (f := Tryd.f21) (v := .bool false) (by kernel_rfl) (by kernel_rfl) ?_
          have s1879 : St h g (ids []) g [] h1861 := (s1862).drop
          refine hR _ _ _ _ s1879 ⟨?_, rfl, rfl⟩
          exact (eqB (by first | (simp [rightW, *]; done) | (simp [rightW]; omega)))
    · refine Op.cast (e' := [(1, .pointer (some ⟨b1860, 0, none⟩)), (11, .bool false)]) (by rw [hb]) ?_
      have c1880 : ¬ (w.Client < (8 : Int)) := of_decide_eq_false hb
      clear hb
      refine Op.pures 16 [2] (L' := []) (e' := [(2, .bool false)]) (by kernel_rfl) ?_
      refine Op.goto 2 (by kernel_rfl) ?_
      refine At.ret (f := Tryd.f21) (v := .bool false) (by kernel_rfl) (by kernel_rfl) ?_
      have s1881 : St h g (ids []) g [] h1861 := (s1862).drop
      refine hR _ _ _ _ s1881 ⟨?_, rfl, rfl⟩
      exact (eqB (by first | (simp [rightW, *]; done) | (simp [rightW]; omega)))
  · refine Op.cast (e' := [(1, .pointer (some ⟨b1860, 0, none⟩)), (6, .bool false)]) (by rw [hb]) ?_
    have c1882 : ¬ (w.Client ≥ (0 : Int)) := of_decide_eq_false hb
    clear hb
    refine Op.pures 21 [2] (L' := []) (e' := [(2, .bool false)]) (by kernel_rfl) ?_
    refine Op.goto 2 (by kernel_rfl) ?_
    refine At.ret (f := Tryd.f21) (v := .bool false) (by kernel_rfl) (by kernel_rfl) ?_
    have s1883 : St h g (ids []) g [] h1861 := (s1862).drop
    refine hR _ _ _ _ s1883 ⟨?_, rfl, rfl⟩
    exact (eqB (by first | (simp [rightW, *]; done) | (simp [rightW]; omega)))

/-- stanchion/stanchionref11.Right -/
theorem right11 (B : World) (h : Heap) (g : GH) (hg : Sub g h) (hG : Glob g) (w : Watch) (hlen : w.Path.length ≤ 1000000000) :
    Spec Tryd.prog B 22 #[.agg #[.int .i64 w.Client, .int .i64 w.Kind, .string (mkS w.Path)]] h g [] (fun rv g' L' => rv = .bool (rightW w) ∧ g' = g ∧ L' = []) := by
  refine Spec.of_at (f := Tryd.f22) (e := [(0, .agg #[.int .i64 w.Client, .int .i64 w.Kind, .string (mkS w.Path)])]) Tryd.func22 (by kernel_rfl) (Nat.le_of_ble_eq_true (by kernel_rfl)) (by kernel_rfl) (by kernel_rfl) ?_
  intro R hR
  have s0 := St.init hg
  refine At.reg (L := [(0, false), (1, false)]) (by kernel_rfl) ?_
  refine Op.box (T := 27) (x := (.tmp 0)) (d := 1) (cs := #[.int .i64 w.Client, .int .i64 w.Kind, .string (mkS w.Path)]) (by kernel_rfl) (by kernel_rfl) s0 ?_
  intro b1884 h1885 s1886
  refine Op.pures 1 [1] (L' := []) (e' := [(1, .pointer (some ⟨b1884, 0, none⟩))]) (by kernel_rfl) ?_
  refine Op.goto 1 (by kernel_rfl) ?_
  refine At.reg (L := [(0, false), (1, false), (2, false), (3, false), (4, false), (5, false), (6, false), (7, false), (8, false), (9, false), (10, false), (11, false), (12, false), (13, false), (14, false), (15, false), (16, false), (17, false), (18, false), (19, false), (20, false), (21, false), (22, false), (23, false), (24, false)]) (by kernel_rfl) ?_
  refine Op.pures 1 [1, 3] (L' := [(1, false), (2, false), (3, false), (4, false), (5, false), (6, false), (7, false), (8, false), (9, false), (10, false), (11, false), (12, false), (13, false), (14, false), (15, false), (16, false), (17, false), (18, false), (19, false), (20, false), (21, false), (22, false), (23, false), (24, false)]) (e' := [(1, .pointer (some ⟨b1884, 0, none⟩)), (3, .pointer (some ⟨b1884, 0, none⟩))]) (by kernel_rfl) ?_
  refine Op.load (T := 3) (x := (.tmp 3)) (o := 0) (d := 4) (n := 1) (v := .int .i64 w.Client) (by kernel_rfl) (by kernel_rfl) (by kernel_rfl) (s1886.chunk 0 rfl) (by kernel_rfl) ?_
  refine Op.pures 2 [1, 6] (L' := [(4, false), (5, false), (6, false), (7, false), (8, false), (9, false), (10, false), (11, false), (12, false), (13, false), (14, false), (15, false), (16, false), (17, false), (18, false), (19, false), (20, false), (21, false), (22, false), (23, false), (24, false)]) (e' := [(1, .pointer (some ⟨b1884, 0, none⟩)), (6, .bool (decide (w.Client ≥ (0 : Int))))]) (by kernel_rfl) ?_
  refine Op.ways (b := decide (w.Client ≥ (0 : Int))) ⟨fun hb => ?_, fun hb => ?_⟩
  · refine Op.cast (e' := [(1, .pointer (some ⟨b1884, 0, none⟩)), (6, .bool true)]) (by rw [hb]) ?_
    have c1887 : w.Client ≥ (0 : Int) := of_decide_eq_true hb
    clear hb
    refine Op.pures 1 [1, 6, 7] (L' := [(5, false), (6, false), (7, false), (8, false), (9, false), (10, false), (11, false), (12, false), (13, false), (14, false), (15, false), (16, false), (17, false), (18, false), (19, false), (20, false), (21, false), (22, false), (23, false), (24, false)]) (e' := [(1, .pointer (some ⟨b1884, 0, none⟩)), (6, .bool true), (7, .pointer (some ⟨b1884, 0, none⟩))]) (by kernel_rfl) ?_
    refine Op.load (T := 3) (x := (.tmp 7)) (o := 0) (d := 8) (n := 1) (v := .int .i64 w.Client) (by kernel_rfl) (by kernel_rfl) (by kernel_rfl) (s1886.chunk 0 rfl) (by kernel_rfl) ?_
    refine Op.pures 3 [1, 11] (L' := [(9, false), (10, false), (11, false), (12, false), (13, false), (14, false), (15, false), (16, false), (17, false), (18, false), (19, false), (20, false), (21, false), (22, false), (23, false), (24, false)]) (e' := [(1, .pointer (some ⟨b1884, 0, none⟩)), (11, .bool (decide (w.Client < (8 : Int))))]) (by kernel_rfl) ?_
    refine Op.ways (b := decide (w.Client < (8 : Int))) ⟨fun hb => ?_, fun hb => ?_⟩
    · refine Op.cast (e' := [(1, .pointer (some ⟨b1884, 0, none⟩)), (11, .bool true)]) (by rw [hb]) ?_
      have c1888 : w.Client < (8 : Int) := of_decide_eq_true hb
      clear hb
      refine Op.pures 1 [1, 11, 12] (L' := [(10, false), (11, false), (12, false), (13, false), (14, false), (15, false), (16, false), (17, false), (18, false), (19, false), (20, false), (21, false), (22, false), (23, false), (24, false)]) (e' := [(1, .pointer (some ⟨b1884, 0, none⟩)), (11, .bool true), (12, .pointer (some ⟨b1884, 1, none⟩))]) (by kernel_rfl) ?_
      refine Op.load (T := 3) (x := (.tmp 12)) (o := 1) (d := 13) (n := 1) (v := .int .i64 w.Kind) (by kernel_rfl) (by kernel_rfl) (by kernel_rfl) (s1886.chunk 0 rfl) (by kernel_rfl) ?_
      refine Op.pures 2 [1, 11, 15] (L' := [(13, false), (14, false), (15, false), (16, false), (17, false), (18, false), (19, false), (20, false), (21, false), (22, false), (23, false), (24, false)]) (e' := [(1, .pointer (some ⟨b1884, 0, none⟩)), (11, .bool true), (15, .bool (w.Kind == (1 : Int)))]) (by kernel_rfl) ?_
      refine Op.ways (b := w.Kind == (1 : Int)) ⟨fun hb => ?_, fun hb => ?_⟩
      · refine Op.cast (e' := [(1, .pointer (some ⟨b1884, 0, none⟩)), (11, .bool true), (15, .bool true)]) (by rw [hb]) ?_
        have c1889 : w.Kind = (1 : Int) := eq_of_beq hb
        clear hb
        refine Op.pures 7 [21, 22] (L' := [(20, false), (21, false), (22, false), (23, false), (24, false)]) (e' := [(21, .bool true), (22, .pointer (some ⟨b1884, 2, none⟩))]) (by kernel_rfl) ?_
        refine Op.load (T := 9) (x := (.tmp 22)) (o := 2) (d := 23) (n := 1) (v := .string (mkS w.Path)) (by kernel_rfl) (by kernel_rfl) (by kernel_rfl) (s1886.chunk 0 rfl) (by kernel_rfl) ?_
        refine Op.call0 (dst := some 24) (f := 39) (args := #[.string (mkS w.Path)]) (by kernel_rfl) s1886 (checkR _ _ _ s1886.sub hG w.Path (by ((try dsimp only) <;> (omega))) ) ?_
        rintro _ g1892 _ h1890 hle1893 s1891 ⟨rfl, hgg, rfl⟩; subst g1892; clear hle1893
        refine Op.pures 3 [2] (L' := []) (e' := [(2, .bool ((pErr w.Path) == (0 : Int)))]) (by kernel_rfl) ?_
        refine Op.goto 2 (by kernel_rfl) ?_
        refine At.ret (f := Tryd.f22) (v := .bool ((pErr w.Path) == (0 : Int))) (by kernel_rfl) (by kernel_rfl) ?_
        have s1894 : St h g (ids []) g [] h1890 := (s1891).drop
        refine hR _ _ _ _ s1894 ⟨?_, rfl, rfl⟩
        exact (eqB (by first | (simp [rightW, *]; done) | (simp [rightW]; omega)))
      · refine Op.cast (e' := [(1, .pointer (some ⟨b1884, 0, none⟩)), (11, .bool true), (15, .bool false)]) (by rw [hb]) ?_
        have c1895 : ¬ (w.Kind = (1 : Int)) := neF hb
        clear hb
        refine Op.pures 1 [1, 11, 15, 16] (L' := [(14, false), (15, false), (16, false), (17, false), (18, false), (19, false), (20, false), (21, false), (22, false), (23, false), (24, false)]) (e' := [(1, .pointer (some ⟨b1884, 0, none⟩)), (11, .bool true), (15, .bool false), (16, .pointer (some ⟨b1884, 1, none⟩))]) (by kernel_rfl) ?_
        refine Op.load (T := 3) (x := (.tmp 16)) (o := 1) (d := 17) (n := 1) (v := .int .i64 w.Kind) (by kernel_rfl) (by kernel_rfl) (by kernel_rfl) (s1886.chunk 0 rfl) (by kernel_rfl) ?_
        refine Op.pures 4 [1, 21] (L' := [(19, false), (20, false), (21, false), (22, false), (23, false), (24, false)]) (e' := [(1, .pointer (some ⟨b1884, 0, none⟩)), (21, .bool (w.Kind == (2 : Int)))]) (by kernel_rfl) ?_
        refine Op.ways (b := w.Kind == (2 : Int)) ⟨fun hb => ?_, fun hb => ?_⟩
        · refine Op.cast (e' := [(1, .pointer (some ⟨b1884, 0, none⟩)), (21, .bool true)]) (by rw [hb]) ?_
          have c1896 : w.Kind = (2 : Int) := eq_of_beq hb
          clear hb
          refine Op.pures 1 [21, 22] (L' := [(20, false), (21, false), (22, false), (23, false), (24, false)]) (e' := [(21, .bool true), (22, .pointer (some ⟨b1884, 2, none⟩))]) (by kernel_rfl) ?_
          refine Op.load (T := 9) (x := (.tmp 22)) (o := 2) (d := 23) (n := 1) (v := .string (mkS w.Path)) (by kernel_rfl) (by kernel_rfl) (by kernel_rfl) (s1886.chunk 0 rfl) (by kernel_rfl) ?_
          refine Op.call0 (dst := some 24) (f := 39) (args := #[.string (mkS w.Path)]) (by kernel_rfl) s1886 (checkR _ _ _ s1886.sub hG w.Path (by ((try dsimp only) <;> (omega))) ) ?_
          rintro _ g1899 _ h1897 hle1900 s1898 ⟨rfl, hgg, rfl⟩; subst g1899; clear hle1900
          refine Op.pures 3 [2] (L' := []) (e' := [(2, .bool ((pErr w.Path) == (0 : Int)))]) (by kernel_rfl) ?_
          refine Op.goto 2 (by kernel_rfl) ?_
          refine At.ret (f := Tryd.f22) (v := .bool ((pErr w.Path) == (0 : Int))) (by kernel_rfl) (by kernel_rfl) ?_
          have s1901 : St h g (ids []) g [] h1897 := (s1898).drop
          refine hR _ _ _ _ s1901 ⟨?_, rfl, rfl⟩
          exact (eqB (by first | (simp [rightW, *]; done) | (simp [rightW]; omega)))
        · refine Op.cast (e' := [(1, .pointer (some ⟨b1884, 0, none⟩)), (21, .bool false)]) (by rw [hb]) ?_
          have c1902 : ¬ (w.Kind = (2 : Int)) := neF hb
          clear hb
          refine Op.pures 6 [2] (L' := []) (e' := [(2, .bool false)]) (by kernel_rfl) ?_
          refine Op.goto 2 (by kernel_rfl) ?_
          refine At.ret (f := Tryd.f22) (v := .bool false) (by kernel_rfl) (by kernel_rfl) ?_
          have s1903 : St h g (ids []) g [] h1885 := (s1886).drop
          refine hR _ _ _ _ s1903 ⟨?_, rfl, rfl⟩
          exact (eqB (by first | (simp [rightW, *]; done) | (simp [rightW]; omega)))
    · refine Op.cast (e' := [(1, .pointer (some ⟨b1884, 0, none⟩)), (11, .bool false)]) (by rw [hb]) ?_
      have c1904 : ¬ (w.Client < (8 : Int)) := of_decide_eq_false hb
      clear hb
      refine Op.pures 16 [2] (L' := []) (e' := [(2, .bool false)]) (by kernel_rfl) ?_
      refine Op.goto 2 (by kernel_rfl) ?_
      refine At.ret (f := Tryd.f22) (v := .bool false) (by kernel_rfl) (by kernel_rfl) ?_
      have s1905 : St h g (ids []) g [] h1885 := (s1886).drop
      refine hR _ _ _ _ s1905 ⟨?_, rfl, rfl⟩
      exact (eqB (by first | (simp [rightW, *]; done) | (simp [rightW]; omega)))
  · refine Op.cast (e' := [(1, .pointer (some ⟨b1884, 0, none⟩)), (6, .bool false)]) (by rw [hb]) ?_
    have c1906 : ¬ (w.Client ≥ (0 : Int)) := of_decide_eq_false hb
    clear hb
    refine Op.pures 21 [2] (L' := []) (e' := [(2, .bool false)]) (by kernel_rfl) ?_
    refine Op.goto 2 (by kernel_rfl) ?_
    refine At.ret (f := Tryd.f22) (v := .bool false) (by kernel_rfl) (by kernel_rfl) ?_
    have s1907 : St h g (ids []) g [] h1885 := (s1886).drop
    refine hR _ _ _ _ s1907 ⟨?_, rfl, rfl⟩
    exact (eqB (by first | (simp [rightW, *]; done) | (simp [rightW]; omega)))

end Go.Proofs.YtphonojjgnbpfaaDoor.Sw
