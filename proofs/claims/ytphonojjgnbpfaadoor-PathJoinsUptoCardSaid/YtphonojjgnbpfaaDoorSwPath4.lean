/- Walks of the functions that are named below: what each computes, as plain Lean words. Printed by a program of our own. -/
import Derived.Test.YtphonojjgnbpfaaDoorSwPath3
namespace Go.Proofs.YtphonojjgnbpfaaDoor.Sw
open Go
set_option maxRecDepth 100000
set_option linter.unusedVariables false
set_option linter.unusedSimpArgs false
set_option linter.deprecated false


/-- stanchion/stanchionlaw09.PathAnswers -/
theorem lawAnswers (B : World) (h : Heap) (g : GH) (hg : Sub g h) (hG : Glob g) (p : List UInt8) (top : List UInt8) (n : Int) (hP : Pow10 g) (hp : p.length ≤ 2000000) (ht : top.length ≤ 2000000) (hn0 : -9223372036854775808 ≤ n) (hn1 : n ≤ 9223372036854775807) :
    Spec Tryd.prog B 8 #[.string (mkS p), .string (mkS top), .int .i64 n] h g [] (fun v g' L' => v = .bool true ∧ g' = g ∧ L' = []) := by
  refine Spec.of_at (f := Tryd.f8) (e := [(0, .string (mkS p)), (1, .string (mkS top)), (2, .int .i64 n)]) Tryd.func8 (by kernel_rfl) (Nat.le_of_ble_eq_true (by kernel_rfl)) (by kernel_rfl) (by kernel_rfl) ?_
  intro R hR
  have s0 := St.init hg
  refine At.reg (L := [(0, false)]) (by kernel_rfl) ?_
  refine Op.pures 1 [0, 1, 2] (L' := []) (e' := [(0, .string (mkS p)), (1, .string (mkS top)), (2, .int .i64 n)]) (by kernel_rfl) ?_
  refine Op.goto 1 (by kernel_rfl) ?_
  refine At.reg (L := [(0, false), (1, false)]) (by kernel_rfl) ?_
  refine Op.call0 (dst := some 19) (f := 33) (args := #[]) (by kernel_rfl) s0 (alive09 _ _ _ s0.sub hG  hP) ?_
  rintro _ g742 _ h740 hle743 s741 ⟨rfl, hgg, rfl⟩; subst g742; clear hle743
  refine Op.pures 1 [0, 1, 2, 20] (L' := []) (e' := [(0, .string (mkS p)), (1, .string (mkS top)), (2, .int .i64 n), (20, .bool false)]) (by kernel_rfl) ?_
  refine Op.goto 2 (by kernel_rfl) ?_
  refine At.condF (c := .tmp 20) (by kernel_rfl) (by kernel_rfl) (by kernel_rfl) 5 (by kernel_rfl) ?_
  refine At.reg (L := [(0, false), (1, false), (2, false), (3, false), (4, false), (5, false)]) (by kernel_rfl) ?_
  refine Op.pures 4 [0, 1, 2, 22, 24] (L' := [(4, false), (5, false)]) (e' := [(0, .string (mkS p)), (1, .string (mkS top)), (2, .int .i64 n), (22, .int .i64 (p.length : Int)), (24, .int .i64 (top.length : Int))]) (by kernel_rfl) ?_
  refine Op.val (dst := some 25) (v := .int .i64 (IntKind.wrap .i64 ((p.length : Int) + (top.length : Int)))) (v' := .int .i64 ((p.length : Int) + (top.length : Int))) (by kernel_rfl) (wrapEq_i64 (by first | omega | (have := pList_len p; omega)) (by first | omega | (have := pList_len p; omega))) ?_
  refine Op.pures 1 [0, 1, 2, 26] (L' := []) (e' := [(0, .string (mkS p)), (1, .string (mkS top)), (2, .int .i64 n), (26, .bool (decide (((p.length : Int) + (top.length : Int)) > (5000 : Int))))]) (by kernel_rfl) ?_
  refine Op.goto 6 (by kernel_rfl) ?_
  refine At.cond (b := decide (((p.length : Int) + (top.length : Int)) > (5000 : Int))) (c := .tmp 26) (by kernel_rfl) (by kernel_rfl) (by kernel_rfl) 7 9 (by kernel_rfl) (by kernel_rfl) (fun hb => ?_) (fun hb => ?_)
  · have c744 : ((p.length : Int) + (top.length : Int)) > (5000 : Int) := of_decide_eq_true hb
    clear hb
    refine At.keep [] ?_; show At _ _ _ [] _
    refine At.reg (L := [(0, false)]) (by kernel_rfl) ?_
    refine Op.pures 1 [6] (L' := []) (e' := [(6, .bool true)]) (by kernel_rfl) ?_
    refine Op.goto 8 (by kernel_rfl) ?_
    refine At.ret (f := Tryd.f8) (v := .bool true) (by kernel_rfl) (by kernel_rfl) ?_
    refine hR _ _ _ _ s741.fin ⟨?_, rfl, rfl⟩
    exact (eqB (by first | rfl | exact absurd rfl c744 | exact absurd (withinB_eq p top) c744 | exact absurd (decide_eq_true rfl) (Bool.eq_false_iff.1 c744)))
  · have c745 : ¬ (((p.length : Int) + (top.length : Int)) > (5000 : Int)) := of_decide_eq_false hb
    clear hb
    refine At.keep [0, 1, 2] ?_; show At _ _ _ [(0, .string (mkS p)), (1, .string (mkS top)), (2, .int .i64 n)] _
    refine At.reg (L := [(0, false), (1, false), (2, false), (3, false), (4, false), (5, false), (6, false)]) (by kernel_rfl) ?_
    refine Op.pures 1 [0, 1, 2, 28] (L' := [(1, false), (2, false), (3, false), (4, false), (5, false), (6, false)]) (e' := [(0, .string (mkS p)), (1, .string (mkS top)), (2, .int .i64 n), (28, .string (mkS p))]) (by kernel_rfl) ?_
    refine Op.call0 (dst := some 29) (f := 34) (args := #[.string (mkS p)]) (by kernel_rfl) s741 (parentP _ _ _ s741.sub hG p (by first | omega | (have := pList_len p; omega))) ?_
    rintro _ g748 _ h746 hle749 s747 ⟨rfl, hgg, rfl⟩; subst g748; clear hle749
    refine Op.pures 5 [0, 1, 2, 7, 8] (L' := []) (e' := [(0, .string (mkS p)), (1, .string (mkS top)), (2, .int .i64 n), (7, .string (mkS (parentOf p))), (8, .int .i64 (cutErr p))]) (by kernel_rfl) ?_
    refine Op.goto 10 (by kernel_rfl) ?_
    refine At.reg (L := [(0, false), (1, false), (2, false), (3, false), (4, false), (5, false), (6, false)]) (by kernel_rfl) ?_
    refine Op.pures 1 [0, 1, 2, 7, 8, 33] (L' := [(1, false), (2, false), (3, false), (4, false), (5, false), (6, false)]) (e' := [(0, .string (mkS p)), (1, .string (mkS top)), (2, .int .i64 n), (7, .string (mkS (parentOf p))), (8, .int .i64 (cutErr p)), (33, .string (mkS p))]) (by kernel_rfl) ?_
    refine Op.call0 (dst := some 34) (f := 35) (args := #[.string (mkS p)]) (by kernel_rfl) s747 (parentR _ _ _ s747.sub hG p (by first | omega | (have := pList_len p; omega))) ?_
    rintro _ g752 _ h750 hle753 s751 ⟨rfl, hgg, rfl⟩; subst g752; clear hle753
    refine Op.pures 5 [0, 1, 2, 7, 8, 9, 10] (L' := []) (e' := [(0, .string (mkS p)), (1, .string (mkS top)), (2, .int .i64 n), (7, .string (mkS (parentOf p))), (8, .int .i64 (cutErr p)), (9, .string (mkS (parentOf p))), (10, .int .i64 (cutErr p))]) (by kernel_rfl) ?_
    refine Op.goto 11 (by kernel_rfl) ?_
    refine At.reg (L := [(0, false), (1, false), (2, false), (3, false), (4, false), (5, false), (6, false)]) (by kernel_rfl) ?_
    refine Op.pures 1 [0, 1, 2, 7, 8, 9, 10, 38] (L' := [(1, false), (2, false), (3, false), (4, false), (5, false), (6, false)]) (e' := [(0, .string (mkS p)), (1, .string (mkS top)), (2, .int .i64 n), (7, .string (mkS (parentOf p))), (8, .int .i64 (cutErr p)), (9, .string (mkS (parentOf p))), (10, .int .i64 (cutErr p)), (38, .string (mkS p))]) (by kernel_rfl) ?_
    refine Op.call0 (dst := some 39) (f := 36) (args := #[.string (mkS p)]) (by kernel_rfl) s751 (nameP _ _ _ s751.sub hG p (by first | omega | (have := pList_len p; omega))) ?_
    rintro _ g756 _ h754 hle757 s755 ⟨rfl, hgg, rfl⟩; subst g756; clear hle757
    refine Op.pures 5 [0, 1, 2, 7, 8, 9, 10, 11, 12] (L' := []) (e' := [(0, .string (mkS p)), (1, .string (mkS top)), (2, .int .i64 n), (7, .string (mkS (parentOf p))), (8, .int .i64 (cutErr p)), (9, .string (mkS (parentOf p))), (10, .int .i64 (cutErr p)), (11, .string (mkS (nameOf p))), (12, .int .i64 (cutErr p))]) (by kernel_rfl) ?_
    refine Op.goto 12 (by kernel_rfl) ?_
    refine At.reg (L := [(0, false), (1, false), (2, false), (3, false), (4, false), (5, false), (6, false)]) (by kernel_rfl) ?_
    refine Op.pures 1 [0, 1, 2, 7, 8, 9, 10, 11, 12, 43] (L' := [(1, false), (2, false), (3, false), (4, false), (5, false), (6, false)]) (e' := [(0, .string (mkS p)), (1, .string (mkS top)), (2, .int .i64 n), (7, .string (mkS (parentOf p))), (8, .int .i64 (cutErr p)), (9, .string (mkS (parentOf p))), (10, .int .i64 (cutErr p)), (11, .string (mkS (nameOf p))), (12, .int .i64 (cutErr p)), (43, .string (mkS p))]) (by kernel_rfl) ?_
    refine Op.call0 (dst := some 44) (f := 37) (args := #[.string (mkS p)]) (by kernel_rfl) s755 (nameR _ _ _ s755.sub hG p (by first | omega | (have := pList_len p; omega))) ?_
    rintro _ g760 _ h758 hle761 s759 ⟨rfl, hgg, rfl⟩; subst g760; clear hle761
    refine Op.pures 5 [0, 1, 2, 7, 8, 9, 10, 11, 12, 13, 14] (L' := []) (e' := [(0, .string (mkS p)), (1, .string (mkS top)), (2, .int .i64 n), (7, .string (mkS (parentOf p))), (8, .int .i64 (cutErr p)), (9, .string (mkS (parentOf p))), (10, .int .i64 (cutErr p)), (11, .string (mkS (nameOf p))), (12, .int .i64 (cutErr p)), (13, .string (mkS (nameOf p))), (14, .int .i64 (cutErr p))]) (by kernel_rfl) ?_
    refine Op.goto 13 (by kernel_rfl) ?_
    refine At.reg (L := [(0, false), (1, false), (2, false), (3, false), (4, false), (5, false), (6, false), (7, false), (8, false), (9, false), (10, false), (11, false), (12, false), (13, false), (14, false), (15, false), (16, false), (17, false), (18, false), (19, false), (20, false), (21, false), (22, false), (23, false), (24, false), (25, false), (26, false), (27, false), (28, false), (29, false), (30, false), (31, false), (32, false), (33, false)]) (by kernel_rfl) ?_
    refine Op.pures 2 [0, 1, 2, 8, 10, 11, 12, 13, 14, 47, 48] (L' := [(2, false), (3, false), (4, false), (5, false), (6, false), (7, false), (8, false), (9, false), (10, false), (11, false), (12, false), (13, false), (14, false), (15, false), (16, false), (17, false), (18, false), (19, false), (20, false), (21, false), (22, false), (23, false), (24, false), (25, false), (26, false), (27, false), (28, false), (29, false), (30, false), (31, false), (32, false), (33, false)]) (e' := [(0, .string (mkS p)), (1, .string (mkS top)), (2, .int .i64 n), (8, .int .i64 (cutErr p)), (10, .int .i64 (cutErr p)), (11, .string (mkS (nameOf p))), (12, .int .i64 (cutErr p)), (13, .string (mkS (nameOf p))), (14, .int .i64 (cutErr p)), (47, .string (mkS (parentOf p))), (48, .string (mkS (parentOf p)))]) (by kernel_rfl) ?_
    refine Op.val (dst := some 49) (v := .bool (!((mkS (parentOf p)).toList == (mkS (parentOf p)).toList))) (v' := .bool false) (by kernel_rfl) (by simp) ?_
    refine Op.pures 3 [0, 1, 2, 11, 12, 13, 14, 50, 51, 52] (L' := [(6, false), (7, false), (8, false), (9, false), (10, false), (11, false), (12, false), (13, false), (14, false), (15, false), (16, false), (17, false), (18, false), (19, false), (20, false), (21, false), (22, false), (23, false), (24, false), (25, false), (26, false), (27, false), (28, false), (29, false), (30, false), (31, false), (32, false), (33, false)]) (e' := [(0, .string (mkS p)), (1, .string (mkS top)), (2, .int .i64 n), (11, .string (mkS (nameOf p))), (12, .int .i64 (cutErr p)), (13, .string (mkS (nameOf p))), (14, .int .i64 (cutErr p)), (50, .bool false), (51, .int .i64 (cutErr p)), (52, .int .i64 (cutErr p))]) (by kernel_rfl) ?_
    refine Op.val (dst := some 53) (v := .bool ((cutErr p) != (cutErr p))) (v' := .bool false) (by kernel_rfl) (by simp) ?_
    refine Op.pures 4 [0, 1, 2, 12, 14, 55, 56, 57] (L' := [(11, false), (12, false), (13, false), (14, false), (15, false), (16, false), (17, false), (18, false), (19, false), (20, false), (21, false), (22, false), (23, false), (24, false), (25, false), (26, false), (27, false), (28, false), (29, false), (30, false), (31, false), (32, false), (33, false)]) (e' := [(0, .string (mkS p)), (1, .string (mkS top)), (2, .int .i64 n), (12, .int .i64 (cutErr p)), (14, .int .i64 (cutErr p)), (55, .bool false), (56, .string (mkS (nameOf p))), (57, .string (mkS (nameOf p)))]) (by kernel_rfl) ?_
    refine Op.val (dst := some 58) (v := .bool (!((mkS (nameOf p)).toList == (mkS (nameOf p)).toList))) (v' := .bool false) (by kernel_rfl) (by simp) ?_
    refine Op.pures 4 [0, 1, 2, 60, 61, 62] (L' := [(16, false), (17, false), (18, false), (19, false), (20, false), (21, false), (22, false), (23, false), (24, false), (25, false), (26, false), (27, false), (28, false), (29, false), (30, false), (31, false), (32, false), (33, false)]) (e' := [(0, .string (mkS p)), (1, .string (mkS top)), (2, .int .i64 n), (60, .bool false), (61, .int .i64 (cutErr p)), (62, .int .i64 (cutErr p))]) (by kernel_rfl) ?_
    refine Op.val (dst := some 63) (v := .bool ((cutErr p) != (cutErr p))) (v' := .bool false) (by kernel_rfl) (by simp) ?_
    refine Op.pures 3 [0, 1, 2, 65, 66] (L' := [(20, false), (21, false), (22, false), (23, false), (24, false), (25, false), (26, false), (27, false), (28, false), (29, false), (30, false), (31, false), (32, false), (33, false)]) (e' := [(0, .string (mkS p)), (1, .string (mkS top)), (2, .int .i64 n), (65, .bool false), (66, .string (mkS p))]) (by kernel_rfl) ?_
    refine Op.call0 (dst := some 67) (f := 38) (args := #[.string (mkS p)]) (by kernel_rfl) s759 (checkP _ _ _ s759.sub hG p (by first | omega | (have := pList_len p; omega))) ?_
    rintro _ g764 _ h762 hle765 s763 ⟨rfl, hgg, rfl⟩; subst g764; clear hle765
    refine Op.pures 1 [0, 1, 2, 65, 67, 68] (L' := [(22, false), (23, false), (24, false), (25, false), (26, false), (27, false), (28, false), (29, false), (30, false), (31, false), (32, false), (33, false)]) (e' := [(0, .string (mkS p)), (1, .string (mkS top)), (2, .int .i64 n), (65, .bool false), (67, .int .i64 (pErr p)), (68, .string (mkS p))]) (by kernel_rfl) ?_
    refine Op.call0 (dst := some 69) (f := 39) (args := #[.string (mkS p)]) (by kernel_rfl) s763 (checkR _ _ _ s763.sub hG p (by first | omega | (have := pList_len p; omega))) ?_
    rintro _ g768 _ h766 hle769 s767 ⟨rfl, hgg, rfl⟩; subst g768; clear hle769
    refine Op.val (dst := some 70) (v := .bool ((pErr p) != (pErr p))) (v' := .bool false) (by kernel_rfl) (by simp) ?_
    refine Op.pures 4 [0, 1, 2, 72, 73, 74] (L' := [(28, false), (29, false), (30, false), (31, false), (32, false), (33, false)]) (e' := [(0, .string (mkS p)), (1, .string (mkS top)), (2, .int .i64 n), (72, .bool false), (73, .string (mkS p)), (74, .string (mkS top))]) (by kernel_rfl) ?_
    refine Op.call0 (dst := some 75) (f := 40) (args := #[.string (mkS p), .string (mkS top)]) (by kernel_rfl) s767 (withinP _ _ _ s767.sub hG p top (by first | omega | (have := pList_len p; omega)) (by first | omega | (have := pList_len p; omega))) ?_
    rintro _ g772 _ h770 hle773 s771 ⟨rfl, hgg, rfl⟩; subst g772; clear hle773
    refine Op.pures 2 [0, 2, 72, 75, 76, 77] (L' := [(31, false), (32, false), (33, false)]) (e' := [(0, .string (mkS p)), (2, .int .i64 n), (72, .bool false), (75, .bool (withinB p top)), (76, .string (mkS p)), (77, .string (mkS top))]) (by kernel_rfl) ?_
    refine Op.call0 (dst := some 78) (f := 41) (args := #[.string (mkS p), .string (mkS top)]) (by kernel_rfl) s771 (withinRf _ _ _ s771.sub hG p top (by first | omega | (have := pList_len p; omega)) (by first | omega | (have := pList_len p; omega))) ?_
    rintro _ g776 _ h774 hle777 s775 ⟨rfl, hgg, rfl⟩; subst g776; clear hle777
    refine Op.pures 2 [0, 2, 80] (L' := []) (e' := [(0, .string (mkS p)), (2, .int .i64 n), (80, .bool ((withinB p top) != (withinR p top)))]) (by kernel_rfl) ?_
    refine Op.goto 14 (by kernel_rfl) ?_
    refine At.cond (b := (withinB p top) != (withinR p top)) (c := .tmp 80) (by kernel_rfl) (by kernel_rfl) (by kernel_rfl) 15 17 (by kernel_rfl) (by kernel_rfl) (fun hb => ?_) (fun hb => ?_)
    · have c778 : ¬ ((withinB p top) = (withinR p top)) := bneT hb
      clear hb
      refine At.keep [] ?_; show At _ _ _ [] _
      exfalso; exact absurd (withinB_eq p top) c778
    · have c779 : (withinB p top) = (withinR p top) := bneF hb
      clear hb
      refine At.keep [0, 2] ?_; show At _ _ _ [(0, .string (mkS p)), (2, .int .i64 n)] _
      refine At.reg (L := [(0, false), (1, false), (2, false), (3, false), (4, false), (5, false), (6, false)]) (by kernel_rfl) ?_
      refine Op.pures 1 [0, 2, 82] (L' := [(1, false), (2, false), (3, false), (4, false), (5, false), (6, false)]) (e' := [(0, .string (mkS p)), (2, .int .i64 n), (82, .string (mkS p))]) (by kernel_rfl) ?_
      refine Op.call0 (dst := some 83) (f := 42) (args := #[.string (mkS p)]) (by kernel_rfl) s775 (partsP _ _ _ s775.sub hG p (by first | omega | (have := pList_len p; omega))) ?_
      rintro _ g786 _ h780 hle787 s781 ⟨v782, rfl, hr783, rfl⟩
      obtain ⟨a784, n785, rfl⟩ := hr783.form
      replace hG := hG.mono hle787
      replace hP := hP.mono hle787
      refine Op.pures 5 [0, 2, 8, 15] (L' := []) (e' := [(0, .string (mkS p)), (2, .int .i64 n), (8, .int .i64 (pErr p)), (15, .slice a784 ((pList p).length) n785)]) (by kernel_rfl) ?_
      refine Op.goto 18 (by kernel_rfl) ?_
      refine At.reg (L := [(0, false), (1, false), (2, false), (3, false), (4, false), (5, false), (6, false)]) (by kernel_rfl) ?_
      refine Op.pures 1 [0, 2, 8, 15, 87] (L' := [(1, false), (2, false), (3, false), (4, false), (5, false), (6, false)]) (e' := [(0, .string (mkS p)), (2, .int .i64 n), (8, .int .i64 (pErr p)), (15, .slice a784 ((pList p).length) n785), (87, .string (mkS p))]) (by kernel_rfl) ?_
      refine Op.call0 (dst := some 88) (f := 43) (args := #[.string (mkS p)]) (by kernel_rfl) s781 (partsR _ _ _ s781.sub hG p (by first | omega | (have := pList_len p; omega))) ?_
      rintro _ g794 _ h788 hle795 s789 ⟨v790, rfl, hr791, rfl⟩
      obtain ⟨a792, n793, rfl⟩ := hr791.form
      replace hG := hG.mono hle795
      replace hP := hP.mono hle795
      replace hr783 := hr783.mono hle795
      refine Op.pures 5 [0, 2, 8, 10, 15, 16] (L' := []) (e' := [(0, .string (mkS p)), (2, .int .i64 n), (8, .int .i64 (pErr p)), (10, .int .i64 (pErr p)), (15, .slice a784 ((pList p).length) n785), (16, .slice a792 ((pList p).length) n793)]) (by kernel_rfl) ?_
      refine Op.goto 19 (by kernel_rfl) ?_
      refine At.reg (L := [(0, false), (1, false), (2, false), (3, false), (4, false), (5, false), (6, false), (7, false)]) (by kernel_rfl) ?_
      refine Op.pures 2 [0, 2, 8, 10, 15, 16, 92, 93] (L' := [(2, false), (3, false), (4, false), (5, false), (6, false), (7, false)]) (e' := [(0, .string (mkS p)), (2, .int .i64 n), (8, .int .i64 (pErr p)), (10, .int .i64 (pErr p)), (15, .slice a784 ((pList p).length) n785), (16, .slice a792 ((pList p).length) n793), (92, .string (mkS p)), (93, .int .i64 n)]) (by kernel_rfl) ?_
      refine Op.call0 (dst := some 94) (f := 44) (args := #[.string (mkS p), .int .i64 n]) (by kernel_rfl) s789 (numberedP _ _ _ s789.sub hG p n hP (by first | omega | (have := pList_len p; omega)) (by first | omega | (have := pList_len p; omega)) (by first | omega | (have := pList_len p; omega))) ?_
      rintro _ g798 _ h796 hle799 s797 ⟨rfl, hgg, rfl⟩; subst g798; clear hle799
      refine Op.pures 5 [0, 2, 8, 10, 12, 15, 16, 17] (L' := []) (e' := [(0, .string (mkS p)), (2, .int .i64 n), (8, .int .i64 (pErr p)), (10, .int .i64 (pErr p)), (12, .int .i64 (numE p n)), (15, .slice a784 ((pList p).length) n785), (16, .slice a792 ((pList p).length) n793), (17, .string (mkS (numS p n)))]) (by kernel_rfl) ?_
      refine Op.goto 20 (by kernel_rfl) ?_
      refine At.reg (L := [(0, false), (1, false), (2, false), (3, false), (4, false), (5, false), (6, false), (7, false)]) (by kernel_rfl) ?_
      refine Op.pures 2 [8, 10, 12, 15, 16, 17, 98, 99] (L' := [(2, false), (3, false), (4, false), (5, false), (6, false), (7, false)]) (e' := [(8, .int .i64 (pErr p)), (10, .int .i64 (pErr p)), (12, .int .i64 (numE p n)), (15, .slice a784 ((pList p).length) n785), (16, .slice a792 ((pList p).length) n793), (17, .string (mkS (numS p n))), (98, .string (mkS p)), (99, .int .i64 n)]) (by kernel_rfl) ?_
      refine Op.call0 (dst := some 100) (f := 45) (args := #[.string (mkS p), .int .i64 n]) (by kernel_rfl) s797 (numberedR _ _ _ s797.sub hG p n (by first | omega | (have := pList_len p; omega)) (by first | omega | (have := pList_len p; omega)) (by first | omega | (have := pList_len p; omega))) ?_
      rintro _ g802 _ h800 hle803 s801 ⟨rfl, hgg, rfl⟩; subst g802; clear hle803
      refine Op.pures 5 [8, 10, 12, 14, 15, 16, 17, 18] (L' := []) (e' := [(8, .int .i64 (pErr p)), (10, .int .i64 (pErr p)), (12, .int .i64 (numE p n)), (14, .int .i64 (numE p n)), (15, .slice a784 ((pList p).length) n785), (16, .slice a792 ((pList p).length) n793), (17, .string (mkS (numS p n))), (18, .string (mkS (numS p n)))]) (by kernel_rfl) ?_
      refine Op.goto 21 (by kernel_rfl) ?_
      refine At.reg (L := [(0, false), (1, false), (2, false), (3, false), (4, false), (5, false), (6, false), (7, false), (8, false), (9, false), (10, false), (11, false), (12, false), (13, false), (14, false), (15, false), (16, false), (17, false), (18, false)]) (by kernel_rfl) ?_
      refine Op.pures 2 [8, 10, 12, 14, 17, 18, 103, 104] (L' := [(2, false), (3, false), (4, false), (5, false), (6, false), (7, false), (8, false), (9, false), (10, false), (11, false), (12, false), (13, false), (14, false), (15, false), (16, false), (17, false), (18, false)]) (e' := [(8, .int .i64 (pErr p)), (10, .int .i64 (pErr p)), (12, .int .i64 (numE p n)), (14, .int .i64 (numE p n)), (17, .string (mkS (numS p n))), (18, .string (mkS (numS p n))), (103, .slice a784 ((pList p).length) n785), (104, .slice a792 ((pList p).length) n793)]) (by kernel_rfl) ?_
      refine Op.call0 (dst := some 105) (f := 26) (args := #[.slice a784 ((pList p).length) n785, .slice a792 ((pList p).length) n793]) (by kernel_rfl) s801 (sameTexts _ _ _ s801.sub hG _ _ hr783 _ _ hr791 (by first | omega | (have := pList_len p; omega))) ?_
      rintro _ g806 _ h804 hle807 s805 ⟨rfl, hgg, rfl⟩; subst g806; clear hle807
      refine Op.pures 1 [8, 10, 12, 14, 17, 18, 106] (L' := [(4, false), (5, false), (6, false), (7, false), (8, false), (9, false), (10, false), (11, false), (12, false), (13, false), (14, false), (15, false), (16, false), (17, false), (18, false)]) (e' := [(8, .int .i64 (pErr p)), (10, .int .i64 (pErr p)), (12, .int .i64 (numE p n)), (14, .int .i64 (numE p n)), (17, .string (mkS (numS p n))), (18, .string (mkS (numS p n))), (106, .bool (decide ((pList p) = (pList p))))]) (by kernel_rfl) ?_
      refine Op.ways (b := decide ((pList p) = (pList p))) ⟨fun hb => ?_, fun hb => ?_⟩
      · refine Op.cast (e' := [(8, .int .i64 (pErr p)), (10, .int .i64 (pErr p)), (12, .int .i64 (numE p n)), (14, .int .i64 (numE p n)), (17, .string (mkS (numS p n))), (18, .string (mkS (numS p n))), (106, .bool true)]) (by rw [hb]) ?_
        have c808 : (pList p) = (pList p) := of_decide_eq_true hb
        clear hb
        refine Op.pures 2 [12, 14, 17, 18, 106, 107, 108] (L' := [(6, false), (7, false), (8, false), (9, false), (10, false), (11, false), (12, false), (13, false), (14, false), (15, false), (16, false), (17, false), (18, false)]) (e' := [(12, .int .i64 (numE p n)), (14, .int .i64 (numE p n)), (17, .string (mkS (numS p n))), (18, .string (mkS (numS p n))), (106, .bool true), (107, .int .i64 (pErr p)), (108, .int .i64 (pErr p))]) (by kernel_rfl) ?_
        refine Op.val (dst := some 109) (v := .bool ((pErr p) == (pErr p))) (v' := .bool true) (by kernel_rfl) (by simp) ?_
        refine Op.pures 4 [12, 14, 111, 112, 113] (L' := [(11, false), (12, false), (13, false), (14, false), (15, false), (16, false), (17, false), (18, false)]) (e' := [(12, .int .i64 (numE p n)), (14, .int .i64 (numE p n)), (111, .bool true), (112, .string (mkS (numS p n))), (113, .string (mkS (numS p n)))]) (by kernel_rfl) ?_
        refine Op.val (dst := some 114) (v := .bool ((mkS (numS p n)).toList == (mkS (numS p n)).toList)) (v' := .bool true) (by kernel_rfl) (by simp) ?_
        refine Op.pures 4 [116, 117, 118] (L' := [(16, false), (17, false), (18, false)]) (e' := [(116, .bool true), (117, .int .i64 (numE p n)), (118, .int .i64 (numE p n))]) (by kernel_rfl) ?_
        refine Op.val (dst := some 119) (v := .bool ((numE p n) == (numE p n))) (v' := .bool true) (by kernel_rfl) (by simp) ?_
        refine Op.pures 2 [6] (L' := []) (e' := [(6, .bool true)]) (by kernel_rfl) ?_
        refine Op.goto 22 (by kernel_rfl) ?_
        refine At.ret (f := Tryd.f8) (v := .bool true) (by kernel_rfl) (by kernel_rfl) ?_
        refine hR _ _ _ _ s805.fin ⟨?_, rfl, rfl⟩
        exact (eqB (by first | rfl | exact absurd rfl c808 | exact absurd (withinB_eq p top) c808 | exact absurd (decide_eq_true rfl) (Bool.eq_false_iff.1 c808)))
      · refine Op.cast (e' := [(8, .int .i64 (pErr p)), (10, .int .i64 (pErr p)), (12, .int .i64 (numE p n)), (14, .int .i64 (numE p n)), (17, .string (mkS (numS p n))), (18, .string (mkS (numS p n))), (106, .bool false)]) (by rw [hb]) ?_
        have c809 : ¬ ((pList p) = (pList p)) := of_decide_eq_false hb
        clear hb
        refine Op.pures 15 [6] (L' := []) (e' := [(6, .bool false)]) (by kernel_rfl) ?_
        refine Op.goto 22 (by kernel_rfl) ?_
        refine At.ret (f := Tryd.f8) (v := .bool false) (by kernel_rfl) (by kernel_rfl) ?_
        refine hR _ _ _ _ s805.fin ⟨?_, rfl, rfl⟩
        exact (eqB (by first | rfl | exact absurd rfl c809 | exact absurd (withinB_eq p top) c809 | exact absurd (decide_eq_true rfl) (Bool.eq_false_iff.1 c809)))

/-- stanchion/stanchionlaw09.PathJoins -/
theorem lawJoins (B : World) (h : Heap) (g : GH) (hg : Sub g h) (hG : Glob g) (p : List UInt8) (v_parts : Value) (parts : List (List UInt8)) (h_parts : SlR g 9 kStr v_parts parts) (hP : Pow10 g) (hp : p.length ≤ 2000000) (hpl : parts.length ≤ 2000000) (hall : ∀ x ∈ parts, x.length ≤ 1000000000) :
    Spec Tryd.prog B 9 #[.string (mkS p), v_parts] h g [] (fun v g' L' => v = .bool true ∧ g' = g ∧ L' = []) := by
  obtain ⟨a_parts, n_parts, rfl⟩ := h_parts.form
  refine Spec.of_at (f := Tryd.f9) (e := [(0, .string (mkS p)), (1, .slice a_parts parts.length n_parts)]) Tryd.func9 (by kernel_rfl) (Nat.le_of_ble_eq_true (by kernel_rfl)) (by kernel_rfl) (by kernel_rfl) ?_
  intro R hR
  have s0 := St.init hg
  refine At.reg (L := [(0, false)]) (by kernel_rfl) ?_
  refine Op.pures 1 [0, 1] (L' := []) (e' := [(0, .string (mkS p)), (1, .slice a_parts parts.length n_parts)]) (by kernel_rfl) ?_
  refine Op.goto 1 (by kernel_rfl) ?_
  refine At.reg (L := [(0, false), (1, false)]) (by kernel_rfl) ?_
  refine Op.call0 (dst := some 10) (f := 33) (args := #[]) (by kernel_rfl) s0 (alive09 _ _ _ s0.sub hG  hP) ?_
  rintro _ g812 _ h810 hle813 s811 ⟨rfl, hgg, rfl⟩; subst g812; clear hle813
  refine Op.pures 1 [0, 1, 11] (L' := []) (e' := [(0, .string (mkS p)), (1, .slice a_parts parts.length n_parts), (11, .bool false)]) (by kernel_rfl) ?_
  refine Op.goto 2 (by kernel_rfl) ?_
  refine At.condF (c := .tmp 11) (by kernel_rfl) (by kernel_rfl) (by kernel_rfl) 5 (by kernel_rfl) ?_
  refine At.reg (L := [(0, false), (1, false), (2, false), (3, false), (4, false), (5, false), (6, false), (7, false)]) (by kernel_rfl) ?_
  refine Op.pures 4 [0, 1, 15] (L' := [(4, false), (5, false), (6, false), (7, false)]) (e' := [(0, .string (mkS p)), (1, .slice a_parts parts.length n_parts), (15, .bool (decide ((p.length : Int) > (5000 : Int))))]) (by kernel_rfl) ?_
  refine Op.ways (b := decide ((p.length : Int) > (5000 : Int))) ⟨fun hb => ?_, fun hb => ?_⟩
  · refine Op.cast (e' := [(0, .string (mkS p)), (1, .slice a_parts parts.length n_parts), (15, .bool true)]) (by rw [hb]) ?_
    have c814 : (p.length : Int) > (5000 : Int) := of_decide_eq_true hb
    clear hb
    refine Op.pures 4 [0, 1, 19] (L' := []) (e' := [(0, .string (mkS p)), (1, .slice a_parts parts.length n_parts), (19, .bool true)]) (by kernel_rfl) ?_
    refine Op.goto 6 (by kernel_rfl) ?_
    refine At.condT (c := .tmp 19) (by kernel_rfl) (by kernel_rfl) (by kernel_rfl) 7 (by kernel_rfl) ?_
    refine At.reg (L := [(0, false)]) (by kernel_rfl) ?_
    refine Op.pures 1 [4] (L' := []) (e' := [(4, .bool true)]) (by kernel_rfl) ?_
    refine Op.goto 8 (by kernel_rfl) ?_
    refine At.ret (f := Tryd.f9) (v := .bool true) (by kernel_rfl) (by kernel_rfl) ?_
    refine hR _ _ _ _ s811.fin ⟨?_, rfl, rfl⟩
    exact (eqB (by first | rfl | exact absurd rfl c814 | exact decide_eq_true rfl))
  · refine Op.cast (e' := [(0, .string (mkS p)), (1, .slice a_parts parts.length n_parts), (15, .bool false)]) (by rw [hb]) ?_
    have c815 : ¬ ((p.length : Int) > (5000 : Int)) := of_decide_eq_false hb
    clear hb
    refine Op.pures 4 [0, 1, 19] (L' := []) (e' := [(0, .string (mkS p)), (1, .slice a_parts parts.length n_parts), (19, .bool (decide ((parts.length : Int) > (200 : Int))))]) (by kernel_rfl) ?_
    refine Op.goto 6 (by kernel_rfl) ?_
    refine At.cond (b := decide ((parts.length : Int) > (200 : Int))) (c := .tmp 19) (by kernel_rfl) (by kernel_rfl) (by kernel_rfl) 7 9 (by kernel_rfl) (by kernel_rfl) (fun hb => ?_) (fun hb => ?_)
    · have c816 : (parts.length : Int) > (200 : Int) := of_decide_eq_true hb
      clear hb
      refine At.keep [] ?_; show At _ _ _ [] _
      refine At.reg (L := [(0, false)]) (by kernel_rfl) ?_
      refine Op.pures 1 [4] (L' := []) (e' := [(4, .bool true)]) (by kernel_rfl) ?_
      refine Op.goto 8 (by kernel_rfl) ?_
      refine At.ret (f := Tryd.f9) (v := .bool true) (by kernel_rfl) (by kernel_rfl) ?_
      refine hR _ _ _ _ s811.fin ⟨?_, rfl, rfl⟩
      exact (eqB (by first | rfl | exact absurd rfl c816 | exact decide_eq_true rfl))
    · have c817 : ¬ ((parts.length : Int) > (200 : Int)) := of_decide_eq_false hb
      clear hb
      refine At.keep [0, 1] ?_; show At _ _ _ [(0, .string (mkS p)), (1, .slice a_parts parts.length n_parts)] _
      refine At.reg (L := [(0, false), (1, false), (2, false)]) (by kernel_rfl) ?_
      refine Op.pures 1 [0, 1, 20] (L' := [(1, false), (2, false)]) (e' := [(0, .string (mkS p)), (1, .slice a_parts parts.length n_parts), (20, .slice a_parts parts.length n_parts)]) (by kernel_rfl) ?_
      refine Op.call0 (dst := some 21) (f := 23) (args := #[.slice a_parts parts.length n_parts]) (by kernel_rfl) s811 (copyTexts _ _ _ s811.sub hG _ _ h_parts (by first | omega | assumption)) ?_
      rintro _ g824 _ h818 hle825 s819 ⟨v820, rfl, hr821, rfl⟩
      obtain ⟨a822, n823, rfl⟩ := hr821.form
      replace hG := hG.mono hle825
      replace hP := hP.mono hle825
      replace h_parts := h_parts.mono hle825
      refine Op.pures 1 [0, 1, 5] (L' := []) (e' := [(0, .string (mkS p)), (1, .slice a_parts parts.length n_parts), (5, .slice a822 ((parts).length) n823)]) (by kernel_rfl) ?_
      refine Op.goto 10 (by kernel_rfl) ?_
      refine At.reg (L := [(0, false), (1, false), (2, false), (3, false), (4, false), (5, false), (6, false), (7, false)]) (by kernel_rfl) ?_
      refine Op.pures 2 [0, 1, 5, 23, 24] (L' := [(2, false), (3, false), (4, false), (5, false), (6, false), (7, false)]) (e' := [(0, .string (mkS p)), (1, .slice a_parts parts.length n_parts), (5, .slice a822 ((parts).length) n823), (23, .string (mkS p)), (24, .slice a822 ((parts).length) n823)]) (by kernel_rfl) ?_
      refine Op.call0 (dst := some 25) (f := 46) (args := #[.string (mkS p), .slice a822 ((parts).length) n823]) (by kernel_rfl) s819 (joinP _ _ _ s819.sub hG p _ _ hr821 (by first | omega | assumption) (by first | omega | assumption) (by first | omega | assumption)) ?_
      rintro _ g828 _ h826 hle829 s827 ⟨rfl, hgg, rfl⟩; subst g828; clear hle829
      refine Op.pures 5 [0, 1, 5, 6, 7] (L' := []) (e' := [(0, .string (mkS p)), (1, .slice a_parts parts.length n_parts), (5, .slice a822 ((parts).length) n823), (6, .string (mkS (joinS p parts))), (7, .int .i64 (joinE p parts))]) (by kernel_rfl) ?_
      refine Op.goto 11 (by kernel_rfl) ?_
      refine At.reg (L := [(0, false), (1, false), (2, false), (3, false), (4, false), (5, false), (6, false), (7, false)]) (by kernel_rfl) ?_
      refine Op.pures 2 [1, 5, 6, 7, 29, 30] (L' := [(2, false), (3, false), (4, false), (5, false), (6, false), (7, false)]) (e' := [(1, .slice a_parts parts.length n_parts), (5, .slice a822 ((parts).length) n823), (6, .string (mkS (joinS p parts))), (7, .int .i64 (joinE p parts)), (29, .string (mkS p)), (30, .slice a_parts parts.length n_parts)]) (by kernel_rfl) ?_
      refine Op.call0 (dst := some 31) (f := 47) (args := #[.string (mkS p), .slice a_parts parts.length n_parts]) (by kernel_rfl) s827 (joinR _ _ _ s827.sub hG p _ _ h_parts (by first | omega | assumption) (by first | omega | assumption)) ?_
      rintro _ g832 _ h830 hle833 s831 ⟨rfl, hgg, rfl⟩; subst g832; clear hle833
      refine Op.pures 5 [1, 5, 6, 7, 8, 9] (L' := []) (e' := [(1, .slice a_parts parts.length n_parts), (5, .slice a822 ((parts).length) n823), (6, .string (mkS (joinS p parts))), (7, .int .i64 (joinE p parts)), (8, .string (mkS (joinS p parts))), (9, .int .i64 (joinE p parts))]) (by kernel_rfl) ?_
      refine Op.goto 12 (by kernel_rfl) ?_
      refine At.reg (L := [(0, false), (1, false), (2, false), (3, false), (4, false), (5, false), (6, false), (7, false), (8, false), (9, false), (10, false), (11, false), (12, false), (13, false)]) (by kernel_rfl) ?_
      refine Op.pures 2 [1, 5, 7, 9, 34, 35] (L' := [(2, false), (3, false), (4, false), (5, false), (6, false), (7, false), (8, false), (9, false), (10, false), (11, false), (12, false), (13, false)]) (e' := [(1, .slice a_parts parts.length n_parts), (5, .slice a822 ((parts).length) n823), (7, .int .i64 (joinE p parts)), (9, .int .i64 (joinE p parts)), (34, .string (mkS (joinS p parts))), (35, .string (mkS (joinS p parts)))]) (by kernel_rfl) ?_
      refine Op.val (dst := some 36) (v := .bool ((mkS (joinS p parts)).toList == (mkS (joinS p parts)).toList)) (v' := .bool true) (by kernel_rfl) (by simp) ?_
      refine Op.pures 3 [1, 5, 37, 38, 39] (L' := [(6, false), (7, false), (8, false), (9, false), (10, false), (11, false), (12, false), (13, false)]) (e' := [(1, .slice a_parts parts.length n_parts), (5, .slice a822 ((parts).length) n823), (37, .bool true), (38, .int .i64 (joinE p parts)), (39, .int .i64 (joinE p parts))]) (by kernel_rfl) ?_
      refine Op.val (dst := some 40) (v := .bool ((joinE p parts) == (joinE p parts))) (v' := .bool true) (by kernel_rfl) (by simp) ?_
      refine Op.pures 4 [42, 43, 44] (L' := [(11, false), (12, false), (13, false)]) (e' := [(42, .bool true), (43, .slice a822 ((parts).length) n823), (44, .slice a_parts parts.length n_parts)]) (by kernel_rfl) ?_
      refine Op.call0 (dst := some 45) (f := 26) (args := #[.slice a822 ((parts).length) n823, .slice a_parts parts.length n_parts]) (by kernel_rfl) s831 (sameTexts _ _ _ s831.sub hG _ _ hr821 _ _ h_parts (by first | omega | assumption)) ?_
      rintro _ g836 _ h834 hle837 s835 ⟨rfl, hgg, rfl⟩; subst g836; clear hle837
      refine Op.pures 2 [4] (L' := []) (e' := [(4, .bool (decide (parts = parts)))]) (by kernel_rfl) ?_
      refine Op.goto 13 (by kernel_rfl) ?_
      refine At.ret (f := Tryd.f9) (v := .bool (decide (parts = parts))) (by kernel_rfl) (by kernel_rfl) ?_
      refine hR _ _ _ _ s835.fin ⟨?_, rfl, rfl⟩
      exact (eqB (by first | rfl | exact absurd rfl c817 | exact decide_eq_true rfl))

/-- stanchion/stanchionlaw09.PathBounds -/
theorem lawBounds (B : World) (h : Heap) (g : GH) (hg : Sub g h) (hG : Glob g) (p : List UInt8) (hP : Pow10 g) (hp : p.length ≤ 2000000) :
    Spec Tryd.prog B 13 #[.string (mkS p)] h g [] (fun v g' L' => v = .bool true ∧ g' = g ∧ L' = []) := by
  refine Spec.of_at (f := Tryd.f13) (e := [(0, .string (mkS p))]) Tryd.func13 (by kernel_rfl) (Nat.le_of_ble_eq_true (by kernel_rfl)) (by kernel_rfl) (by kernel_rfl) ?_
  intro R hR
  have s0 := St.init hg
  refine At.reg (L := [(0, false)]) (by kernel_rfl) ?_
  refine Op.pures 1 [0] (L' := []) (e' := [(0, .string (mkS p))]) (by kernel_rfl) ?_
  refine Op.goto 1 (by kernel_rfl) ?_
  refine At.reg (L := [(0, false), (1, false)]) (by kernel_rfl) ?_
  refine Op.call0 (dst := some 7) (f := 33) (args := #[]) (by kernel_rfl) s0 (alive09 _ _ _ s0.sub hG  hP) ?_
  rintro _ g840 _ h838 hle841 s839 ⟨rfl, hgg, rfl⟩; subst g840; clear hle841
  refine Op.pures 1 [0, 8] (L' := []) (e' := [(0, .string (mkS p)), (8, .bool false)]) (by kernel_rfl) ?_
  refine Op.goto 2 (by kernel_rfl) ?_
  refine At.condF (c := .tmp 8) (by kernel_rfl) (by kernel_rfl) (by kernel_rfl) 5 (by kernel_rfl) ?_
  refine At.reg (L := [(0, false), (1, false), (2, false)]) (by kernel_rfl) ?_
  refine Op.pures 3 [0, 11] (L' := []) (e' := [(0, .string (mkS p)), (11, .bool (decide ((p.length : Int) > (5000 : Int))))]) (by kernel_rfl) ?_
  refine Op.goto 6 (by kernel_rfl) ?_
  refine At.cond (b := decide ((p.length : Int) > (5000 : Int))) (c := .tmp 11) (by kernel_rfl) (by kernel_rfl) (by kernel_rfl) 7 9 (by kernel_rfl) (by kernel_rfl) (fun hb => ?_) (fun hb => ?_)
  · have c842 : (p.length : Int) > (5000 : Int) := of_decide_eq_true hb
    clear hb
    refine At.keep [] ?_; show At _ _ _ [] _
    refine At.reg (L := [(0, false)]) (by kernel_rfl) ?_
    refine Op.pures 1 [2] (L' := []) (e' := [(2, .bool true)]) (by kernel_rfl) ?_
    refine Op.goto 8 (by kernel_rfl) ?_
    refine At.ret (f := Tryd.f13) (v := .bool true) (by kernel_rfl) (by kernel_rfl) ?_
    refine hR _ _ _ _ s839.fin ⟨?_, rfl, rfl⟩
    exact (eqB (by first | rfl | exact absurd rfl c842 | exact absurd (pErr_90 (by assumption)) c842 | exact pList_0 (by assumption) | exact absurd c842 (pPart_1 {hx0}) | exact absurd c842 (pPart_16 {hx0}) | exact absurd (b_sum hn (by assumption) (by assumption) (by assumption)) c842 | exact absurd (b_one (by assumption) (by assumption)) c842 | (exfalso; have h64 := p_len64 (p := p) (by assumption); omega) | (exfalso; omega) | exact beq_iff_eq.2 (by assumption)))
  · have c843 : ¬ ((p.length : Int) > (5000 : Int)) := of_decide_eq_false hb
    clear hb
    refine At.keep [0] ?_; show At _ _ _ [(0, .string (mkS p))] _
    refine At.reg (L := [(0, false), (1, false), (2, false), (3, false), (4, false), (5, false), (6, false)]) (by kernel_rfl) ?_
    refine Op.pures 1 [0, 13] (L' := [(1, false), (2, false), (3, false), (4, false), (5, false), (6, false)]) (e' := [(0, .string (mkS p)), (13, .string (mkS p))]) (by kernel_rfl) ?_
    refine Op.call0 (dst := some 14) (f := 42) (args := #[.string (mkS p)]) (by kernel_rfl) s839 (partsP _ _ _ s839.sub hG p (by first | omega | (have := pList_len p; omega) | (have h16 := pPart_16 {hx0}; have h1 := wh_le p (Int.toNat i); have := pList_len p; omega))) ?_
    rintro _ g850 _ h844 hle851 s845 ⟨v846, rfl, hr847, rfl⟩
    obtain ⟨a848, n849, rfl⟩ := hr847.form
    replace hG := hG.mono hle851
    replace hP := hP.mono hle851
    refine Op.pures 5 [0, 3, 4] (L' := []) (e' := [(0, .string (mkS p)), (3, .slice a848 ((pList p).length) n849), (4, .int .i64 (pErr p))]) (by kernel_rfl) ?_
    refine Op.goto 10 (by kernel_rfl) ?_
    refine At.reg (L := [(0, false), (1, false)]) (by kernel_rfl) ?_
    refine Op.pures 2 [0, 3, 4, 18] (L' := []) (e' := [(0, .string (mkS p)), (3, .slice a848 ((pList p).length) n849), (4, .int .i64 (pErr p)), (18, .bool ((pErr p) != (0 : Int)))]) (by kernel_rfl) ?_
    refine Op.goto 11 (by kernel_rfl) ?_
    refine At.cond (b := (pErr p) != (0 : Int)) (c := .tmp 18) (by kernel_rfl) (by kernel_rfl) (by kernel_rfl) 12 14 (by kernel_rfl) (by kernel_rfl) (fun hb => ?_) (fun hb => ?_)
    · have c852 : ¬ ((pErr p) = (0 : Int)) := bneT hb
      clear hb
      refine At.keep [0, 3, 4] ?_; show At _ _ _ [(0, .string (mkS p)), (3, .slice a848 ((pList p).length) n849), (4, .int .i64 (pErr p))] _
      refine At.reg (L := [(0, false), (1, false), (2, false), (3, false), (4, false), (5, false), (6, false), (7, false), (8, false), (9, false), (10, false), (11, false), (12, false)]) (by kernel_rfl) ?_
      refine Op.pures 3 [0, 3, 21] (L' := [(3, false), (4, false), (5, false), (6, false), (7, false), (8, false), (9, false), (10, false), (11, false), (12, false)]) (e' := [(0, .string (mkS p)), (3, .slice a848 ((pList p).length) n849), (21, .bool ((pErr p) == (90 : Int)))]) (by kernel_rfl) ?_
      refine Op.ways (b := (pErr p) == (90 : Int)) ⟨fun hb => ?_, fun hb => ?_⟩
      · refine Op.cast (e' := [(0, .string (mkS p)), (3, .slice a848 ((pList p).length) n849), (21, .bool true)]) (by rw [hb]) ?_
        have c853 : (pErr p) = (90 : Int) := eq_of_beq hb
        clear hb
        refine Op.pures 1 [3, 21, 22] (L' := [(4, false), (5, false), (6, false), (7, false), (8, false), (9, false), (10, false), (11, false), (12, false)]) (e' := [(3, .slice a848 ((pList p).length) n849), (21, .bool true), (22, .string (mkS p))]) (by kernel_rfl) ?_
        refine Op.call0 (dst := some 23) (f := 38) (args := #[.string (mkS p)]) (by kernel_rfl) s845 (checkP _ _ _ s845.sub hG p (by first | omega | (have := pList_len p; omega) | (have h16 := pPart_16 {hx0}; have h1 := wh_le p (Int.toNat i); have := pList_len p; omega))) ?_
        rintro _ g856 _ h854 hle857 s855 ⟨rfl, hgg, rfl⟩; subst g856; clear hle857
        refine Op.pures 3 [3, 26] (L' := [(8, false), (9, false), (10, false), (11, false), (12, false)]) (e' := [(3, .slice a848 ((pList p).length) n849), (26, .bool ((pErr p) == (90 : Int)))]) (by kernel_rfl) ?_
        refine Op.ways (b := (pErr p) == (90 : Int)) ⟨fun hb => ?_, fun hb => ?_⟩
        · refine Op.cast (e' := [(3, .slice a848 ((pList p).length) n849), (26, .bool true)]) (by rw [hb]) ?_
          have c858 : (pErr p) = (90 : Int) := eq_of_beq hb
          clear hb
          refine Op.pures 5 [2] (L' := []) (e' := [(2, .bool (((pList p).length : Int) == (0 : Int)))]) (by kernel_rfl) ?_
          refine Op.goto 13 (by kernel_rfl) ?_
          refine At.ret (f := Tryd.f13) (v := .bool (((pList p).length : Int) == (0 : Int))) (by kernel_rfl) (by kernel_rfl) ?_
          refine hR _ _ _ _ s855.fin ⟨?_, rfl, rfl⟩
          exact (eqB (by first | rfl | exact absurd rfl c858 | exact absurd (pErr_90 (by assumption)) c858 | exact pList_0 (by assumption) | exact absurd c858 (pPart_1 {hx0}) | exact absurd c858 (pPart_16 {hx0}) | exact absurd (b_sum hn (by assumption) (by assumption) (by assumption)) c858 | exact absurd (b_one (by assumption) (by assumption)) c858 | (exfalso; have h64 := p_len64 (p := p) (by assumption); omega) | (exfalso; omega) | exact beq_iff_eq.2 (by assumption)))
        · refine Op.cast (e' := [(3, .slice a848 ((pList p).length) n849), (26, .bool false)]) (by rw [hb]) ?_
          have c859 : ¬ ((pErr p) = (90 : Int)) := neF hb
          clear hb
          refine Op.pures 5 [2] (L' := []) (e' := [(2, .bool false)]) (by kernel_rfl) ?_
          refine Op.goto 13 (by kernel_rfl) ?_
          refine At.ret (f := Tryd.f13) (v := .bool false) (by kernel_rfl) (by kernel_rfl) ?_
          refine hR _ _ _ _ s855.fin ⟨?_, rfl, rfl⟩
          exact (eqB (by first | rfl | exact absurd rfl c859 | exact absurd (pErr_90 (by assumption)) c859 | exact pList_0 (by assumption) | exact absurd c859 (pPart_1 {hx0}) | exact absurd c859 (pPart_16 {hx0}) | exact absurd (b_sum hn (by assumption) (by assumption) (by assumption)) c859 | exact absurd (b_one (by assumption) (by assumption)) c859 | (exfalso; have h64 := p_len64 (p := p) (by assumption); omega) | (exfalso; omega) | exact beq_iff_eq.2 (by assumption)))
      · refine Op.cast (e' := [(0, .string (mkS p)), (3, .slice a848 ((pList p).length) n849), (21, .bool false)]) (by rw [hb]) ?_
        have c860 : ¬ ((pErr p) = (90 : Int)) := neF hb
        clear hb
        refine Op.pures 10 [2] (L' := []) (e' := [(2, .bool false)]) (by kernel_rfl) ?_
        refine Op.goto 13 (by kernel_rfl) ?_
        refine At.ret (f := Tryd.f13) (v := .bool false) (by kernel_rfl) (by kernel_rfl) ?_
        refine hR _ _ _ _ s845.fin ⟨?_, rfl, rfl⟩
        exact (eqB (by first | rfl | exact absurd rfl c860 | exact absurd (pErr_90 (by assumption)) c860 | exact pList_0 (by assumption) | exact absurd c860 (pPart_1 {hx0}) | exact absurd c860 (pPart_16 {hx0}) | exact absurd (b_sum hn (by assumption) (by assumption) (by assumption)) c860 | exact absurd (b_one (by assumption) (by assumption)) c860 | (exfalso; have h64 := p_len64 (p := p) (by assumption); omega) | (exfalso; omega) | exact beq_iff_eq.2 (by assumption)))
    · have c861 : (pErr p) = (0 : Int) := bneF hb
      clear hb
      refine At.keep [0, 3] ?_; show At _ _ _ [(0, .string (mkS p)), (3, .slice a848 ((pList p).length) n849)] _
      refine At.reg (L := [(0, false)]) (by kernel_rfl) ?_
      refine Op.pures 1 [0, 3, 5] (L' := []) (e' := [(0, .string (mkS p)), (3, .slice a848 ((pList p).length) n849), (5, .int .i64 0)]) (by kernel_rfl) ?_
      refine Op.goto 15 (by kernel_rfl) ?_
      refine At.reg (L := [(0, false)]) (by kernel_rfl) ?_
      refine Op.pures 1 [0, 3, 5, 6] (L' := []) (e' := [(0, .string (mkS p)), (3, .slice a848 ((pList p).length) n849), (5, .int .i64 0), (6, .int .i64 0)]) (by kernel_rfl) ?_
      refine Op.goto 16 (by kernel_rfl) ?_
      have loop16 : ∀ (m : Nat) (n : Int) (i : Int) (h862 : Heap) (hm : (pList p).length - i.toNat < m) (h0 : 0 ≤ i) (h2 : i ≤ (pList p).length) (hn : n = ((wh ((pList p).take i.toNat)).length : Int))  (s_loop16861 : St h g (ids []) g850 [] h862), At (fctx Tryd.prog B 13 Tryd.f13 R) [] 16 [(0, .string (mkS p)), (3, .slice a848 ((pList p).length) n849), (5, .int .i64 n), (6, .int .i64 i)] h862 := by
        intro m; induction m with
        | zero => intros; omega
        | succ m ih16 =>
          intro n i h862 hm h0 h2 hn s_loop16861
          refine At.reg (L := [(0, false), (1, false), (2, false), (3, false)]) (by kernel_rfl) ?_
          refine Op.pures 4 [0, 3, 5, 6, 34] (L' := []) (e' := [(0, .string (mkS p)), (3, .slice a848 ((pList p).length) n849), (5, .int .i64 n), (6, .int .i64 i), (34, .bool (decide (i < ((pList p).length : Int))))]) (by kernel_rfl) ?_
          refine Op.goto 17 (by kernel_rfl) ?_
          refine At.cond (b := decide (i < ((pList p).length : Int))) (c := .tmp 34) (by kernel_rfl) (by kernel_rfl) (by kernel_rfl) 18 24 (by kernel_rfl) (by kernel_rfl) (fun hb => ?_) (fun hb => ?_)
          · have c863 : i < ((pList p).length : Int) := of_decide_eq_true hb
            clear hb
            refine At.keep [0, 3, 5, 6] ?_; show At _ _ _ [(0, .string (mkS p)), (3, .slice a848 ((pList p).length) n849), (5, .int .i64 n), (6, .int .i64 i)] _
            refine At.reg (L := [(0, false), (1, false), (2, false), (3, false), (4, false), (5, false), (6, false), (7, false), (8, false), (9, false), (10, false), (11, false), (12, false), (13, false)]) (by kernel_rfl) ?_
            refine Op.pures 2 [0, 3, 5, 6, 37, 38] (L' := [(2, false), (3, false), (4, false), (5, false), (6, false), (7, false), (8, false), (9, false), (10, false), (11, false), (12, false), (13, false)]) (e' := [(0, .string (mkS p)), (3, .slice a848 ((pList p).length) n849), (5, .int .i64 n), (6, .int .i64 i), (37, .slice a848 ((pList p).length) n849), (38, .int .i64 i)]) (by kernel_rfl) ?_
            obtain ⟨x864, hx865⟩ : ∃ c, (pList p)[(i : Int).toNat]? = some c := ⟨_, List.getElem?_eq_getElem (by first | omega | (have := pList_len p; omega) | (have h16 := pPart_16 {hx0}; have h1 := wh_le p (Int.toNat i); have := pList_len p; omega))⟩
            obtain ⟨b866, o867, cu868, fz869, ha870, hb871, hk872⟩ := SlH.at_ (hr847.toH s_loop16861.sub) _ hx865
            cases ha870
            refine Op.idx (T := 37) (E := 9) (sz := 1) (by_ := 16) (n := ((pList p).length)) (c := n849) (k := .i64) (x := (.tmp 37)) (ix := (.tmp 38)) (dst := 39) (bk := b866) (o := o867) (m := i) (by kernel_rfl) (by kernel_rfl) (by kernel_rfl) (by kernel_rfl) (by first | omega | (have := pList_len p; omega) | (have h16 := pPart_16 {hx0}; have h1 := wh_le p (Int.toNat i); have := pList_len p; omega)) (by first | omega | (have := pList_len p; omega) | (have h16 := pPart_16 {hx0}; have h1 := wh_le p (Int.toNat i); have := pList_len p; omega)) ?_
            replace hk872 : cut _ _ _ = [.string (mkS x864)] := hk872
            refine Op.load (T := 9) (x := (.tmp 39)) (o := o867 + (i : Int).toNat * 1) (d := 40) (n := 1) (v := .string (mkS x864)) (by kernel_rfl) (by kernel_rfl) (by kernel_rfl) hb871 (cut_get hk872 0 rfl) ?_
            refine Op.pures 3 [0, 3, 5, 6, 43] (L' := [(7, false), (8, false), (9, false), (10, false), (11, false), (12, false), (13, false)]) (e' := [(0, .string (mkS p)), (3, .slice (some ⟨b866, o867, none⟩) ((pList p).length) n849), (5, .int .i64 n), (6, .int .i64 i), (43, .bool (decide ((x864.length : Int) < (1 : Int))))]) (by kernel_rfl) ?_
            refine Op.ways (b := decide ((x864.length : Int) < (1 : Int))) ⟨fun hb => ?_, fun hb => ?_⟩
            · refine Op.cast (e' := [(0, .string (mkS p)), (3, .slice (some ⟨b866, o867, none⟩) ((pList p).length) n849), (5, .int .i64 n), (6, .int .i64 i), (43, .bool true)]) (by rw [hb]) ?_
              have c873 : (x864.length : Int) < (1 : Int) := of_decide_eq_true hb
              clear hb
              refine Op.pures 7 [0, 3, 5, 6, 50] (L' := []) (e' := [(0, .string (mkS p)), (3, .slice (some ⟨b866, o867, none⟩) ((pList p).length) n849), (5, .int .i64 n), (6, .int .i64 i), (50, .bool true)]) (by kernel_rfl) ?_
              refine Op.goto 19 (by kernel_rfl) ?_
              refine At.condT (c := .tmp 50) (by kernel_rfl) (by kernel_rfl) (by kernel_rfl) 20 (by kernel_rfl) ?_
              refine At.reg (L := [(0, false)]) (by kernel_rfl) ?_
              refine Op.pures 1 [2] (L' := []) (e' := [(2, .bool false)]) (by kernel_rfl) ?_
              refine Op.goto 21 (by kernel_rfl) ?_
              refine At.ret (f := Tryd.f13) (v := .bool false) (by kernel_rfl) (by kernel_rfl) ?_
              refine hR _ _ _ _ s_loop16861.fin ⟨?_, rfl, rfl⟩
              exact (eqB (by first | rfl | exact absurd rfl c873 | exact absurd (pErr_90 (by assumption)) c873 | exact pList_0 (by assumption) | exact absurd c873 (pPart_1 hx865) | exact absurd c873 (pPart_16 hx865) | exact absurd (b_sum hn (by assumption) (by assumption) (by assumption)) c873 | exact absurd (b_one (by assumption) (by assumption)) c873 | (exfalso; have h64 := p_len64 (p := p) (by assumption); omega) | (exfalso; omega) | exact beq_iff_eq.2 (by assumption)))
            · refine Op.cast (e' := [(0, .string (mkS p)), (3, .slice (some ⟨b866, o867, none⟩) ((pList p).length) n849), (5, .int .i64 n), (6, .int .i64 i), (43, .bool false)]) (by rw [hb]) ?_
              have c874 : ¬ ((x864.length : Int) < (1 : Int)) := of_decide_eq_false hb
              clear hb
              refine Op.pures 2 [0, 3, 5, 6, 43, 44, 45] (L' := [(9, false), (10, false), (11, false), (12, false), (13, false)]) (e' := [(0, .string (mkS p)), (3, .slice (some ⟨b866, o867, none⟩) ((pList p).length) n849), (5, .int .i64 n), (6, .int .i64 i), (43, .bool false), (44, .slice (some ⟨b866, o867, none⟩) ((pList p).length) n849), (45, .int .i64 i)]) (by kernel_rfl) ?_
              obtain ⟨b877, o878, cu879, fz880, ha881, hb882, hk883⟩ := SlH.at_ (hr847.toH s_loop16861.sub) _ hx865
              cases ha881
              refine Op.idx (T := 37) (E := 9) (sz := 1) (by_ := 16) (n := ((pList p).length)) (c := n849) (k := .i64) (x := (.tmp 44)) (ix := (.tmp 45)) (dst := 46) (bk := b866) (o := o867) (m := i) (by kernel_rfl) (by kernel_rfl) (by kernel_rfl) (by kernel_rfl) (by first | omega | (have := pList_len p; omega) | (have h16 := pPart_16 hx865; have h1 := wh_le p (Int.toNat i); have := pList_len p; omega)) (by first | omega | (have := pList_len p; omega) | (have h16 := pPart_16 hx865; have h1 := wh_le p (Int.toNat i); have := pList_len p; omega)) ?_
              replace hk883 : cut _ _ _ = [.string (mkS x864)] := hk883
              refine Op.load (T := 9) (x := (.tmp 46)) (o := o867 + (i : Int).toNat * 1) (d := 47) (n := 1) (v := .string (mkS x864)) (by kernel_rfl) (by kernel_rfl) (by kernel_rfl) hb882 (cut_get hk883 0 rfl) ?_
              refine Op.pures 3 [0, 3, 5, 6, 50] (L' := []) (e' := [(0, .string (mkS p)), (3, .slice (some ⟨b866, o867, none⟩) ((pList p).length) n849), (5, .int .i64 n), (6, .int .i64 i), (50, .bool (decide ((x864.length : Int) > (16 : Int))))]) (by kernel_rfl) ?_
              refine Op.goto 19 (by kernel_rfl) ?_
              refine At.cond (b := decide ((x864.length : Int) > (16 : Int))) (c := .tmp 50) (by kernel_rfl) (by kernel_rfl) (by kernel_rfl) 20 22 (by kernel_rfl) (by kernel_rfl) (fun hb => ?_) (fun hb => ?_)
              · have c884 : (x864.length : Int) > (16 : Int) := of_decide_eq_true hb
                clear hb
                refine At.keep [] ?_; show At _ _ _ [] _
                refine At.reg (L := [(0, false)]) (by kernel_rfl) ?_
                refine Op.pures 1 [2] (L' := []) (e' := [(2, .bool false)]) (by kernel_rfl) ?_
                refine Op.goto 21 (by kernel_rfl) ?_
                refine At.ret (f := Tryd.f13) (v := .bool false) (by kernel_rfl) (by kernel_rfl) ?_
                refine hR _ _ _ _ s_loop16861.fin ⟨?_, rfl, rfl⟩
                exact (eqB (by first | rfl | exact absurd rfl c884 | exact absurd (pErr_90 (by assumption)) c884 | exact pList_0 (by assumption) | exact absurd c884 (pPart_1 hx865) | exact absurd c884 (pPart_16 hx865) | exact absurd (b_sum hn (by assumption) (by assumption) (by assumption)) c884 | exact absurd (b_one (by assumption) (by assumption)) c884 | (exfalso; have h64 := p_len64 (p := p) (by assumption); omega) | (exfalso; omega) | exact beq_iff_eq.2 (by assumption)))
              · have c885 : ¬ ((x864.length : Int) > (16 : Int)) := of_decide_eq_false hb
                clear hb
                refine At.keep [0, 3, 5, 6] ?_; show At _ _ _ [(0, .string (mkS p)), (3, .slice (some ⟨b866, o867, none⟩) ((pList p).length) n849), (5, .int .i64 n), (6, .int .i64 i)] _
                refine At.reg (L := [(0, false), (1, false), (2, false), (3, false), (4, false), (5, false), (6, false), (7, false), (8, false)]) (by kernel_rfl) ?_
                refine Op.pures 3 [0, 3, 5, 6, 51, 52, 53] (L' := [(3, false), (4, false), (5, false), (6, false), (7, false), (8, false)]) (e' := [(0, .string (mkS p)), (3, .slice (some ⟨b866, o867, none⟩) ((pList p).length) n849), (5, .int .i64 n), (6, .int .i64 i), (51, .int .i64 n), (52, .slice (some ⟨b866, o867, none⟩) ((pList p).length) n849), (53, .int .i64 i)]) (by kernel_rfl) ?_
                obtain ⟨b888, o889, cu890, fz891, ha892, hb893, hk894⟩ := SlH.at_ (hr847.toH s_loop16861.sub) _ hx865
                cases ha892
                refine Op.idx (T := 37) (E := 9) (sz := 1) (by_ := 16) (n := ((pList p).length)) (c := n849) (k := .i64) (x := (.tmp 52)) (ix := (.tmp 53)) (dst := 54) (bk := b866) (o := o867) (m := i) (by kernel_rfl) (by kernel_rfl) (by kernel_rfl) (by kernel_rfl) (by first | omega | (have := pList_len p; omega) | (have h16 := pPart_16 hx865; have h1 := wh_le p (Int.toNat i); have := pList_len p; omega)) (by first | omega | (have := pList_len p; omega) | (have h16 := pPart_16 hx865; have h1 := wh_le p (Int.toNat i); have := pList_len p; omega)) ?_
                replace hk894 : cut _ _ _ = [.string (mkS x864)] := hk894
                refine Op.load (T := 9) (x := (.tmp 54)) (o := o867 + (i : Int).toNat * 1) (d := 55) (n := 1) (v := .string (mkS x864)) (by kernel_rfl) (by kernel_rfl) (by kernel_rfl) hb893 (cut_get hk894 0 rfl) ?_
                refine Op.pures 1 [0, 3, 5, 6, 51, 56] (L' := [(6, false), (7, false), (8, false)]) (e' := [(0, .string (mkS p)), (3, .slice (some ⟨b866, o867, none⟩) ((pList p).length) n849), (5, .int .i64 n), (6, .int .i64 i), (51, .int .i64 n), (56, .int .i64 (x864.length : Int))]) (by kernel_rfl) ?_
                refine Op.val (dst := some 57) (v := .int .i64 (IntKind.wrap .i64 ((1 : Int) + (x864.length : Int)))) (v' := .int .i64 ((1 : Int) + (x864.length : Int))) (by kernel_rfl) (wrapEq_i64 (by first | omega | (have := pList_len p; omega) | (have h16 := pPart_16 hx865; have h1 := wh_le p (Int.toNat i); have := pList_len p; omega)) (by first | omega | (have := pList_len p; omega) | (have h16 := pPart_16 hx865; have h1 := wh_le p (Int.toNat i); have := pList_len p; omega))) ?_
                refine Op.val (dst := some 58) (v := .int .i64 (IntKind.wrap .i64 (n + ((1 : Int) + (x864.length : Int))))) (v' := .int .i64 (n + ((1 : Int) + (x864.length : Int)))) (by kernel_rfl) (wrapEq_i64 (by first | omega | (have := pList_len p; omega) | (have h16 := pPart_16 hx865; have h1 := wh_le p (Int.toNat i); have := pList_len p; omega)) (by first | omega | (have := pList_len p; omega) | (have h16 := pPart_16 hx865; have h1 := wh_le p (Int.toNat i); have := pList_len p; omega))) ?_
                refine Op.pures 1 [0, 3, 5, 6] (L' := []) (e' := [(0, .string (mkS p)), (3, .slice (some ⟨b866, o867, none⟩) ((pList p).length) n849), (5, .int .i64 (n + ((1 : Int) + (x864.length : Int)))), (6, .int .i64 i)]) (by kernel_rfl) ?_
                refine Op.goto 23 (by kernel_rfl) ?_
                refine At.reg (L := [(0, false), (1, false), (2, false)]) (by kernel_rfl) ?_
                refine Op.pures 1 [0, 3, 5, 6, 35] (L' := [(1, false), (2, false)]) (e' := [(0, .string (mkS p)), (3, .slice (some ⟨b866, o867, none⟩) ((pList p).length) n849), (5, .int .i64 (n + ((1 : Int) + (x864.length : Int)))), (6, .int .i64 i), (35, .int .i64 i)]) (by kernel_rfl) ?_
                refine Op.val (dst := some 36) (v := .int .i64 (IntKind.wrap .i64 (i + 1))) (v' := .int .i64 (i + 1)) (by kernel_rfl) (wrapEq_i64 (by first | omega | (have := pList_len p; omega) | (have h16 := pPart_16 hx865; have h1 := wh_le p (Int.toNat i); have := pList_len p; omega)) (by first | omega | (have := pList_len p; omega) | (have h16 := pPart_16 hx865; have h1 := wh_le p (Int.toNat i); have := pList_len p; omega))) ?_
                refine Op.pures 1 [0, 3, 5, 6] (L' := []) (e' := [(0, .string (mkS p)), (3, .slice (some ⟨b866, o867, none⟩) ((pList p).length) n849), (5, .int .i64 (n + ((1 : Int) + (x864.length : Int)))), (6, .int .i64 (i + 1))]) (by kernel_rfl) ?_
                refine Op.goto 16 (by kernel_rfl) ?_
                exact ih16  (n + ((1 : Int) + (x864.length : Int))) (i + 1) _ (by omega) (by first | omega | (have := pList_len p; omega) | (have h16 := pPart_16 hx865; have h1 := wh_le p (Int.toNat i); have := pList_len p; omega)) (by first | omega | (have := pList_len p; omega) | (have h16 := pPart_16 hx865; have h1 := wh_le p (Int.toNat i); have := pList_len p; omega)) (by exact wh_sum hn h0 hx865)  s_loop16861
          · have c895 : ¬ (i < ((pList p).length : Int)) := of_decide_eq_false hb
            clear hb
            refine At.keep [0, 3, 5] ?_; show At _ _ _ [(0, .string (mkS p)), (3, .slice a848 ((pList p).length) n849), (5, .int .i64 n)] _
            refine At.reg (L := [(0, false), (1, false), (2, false)]) (by kernel_rfl) ?_
            refine Op.pures 3 [0, 5, 61] (L' := []) (e' := [(0, .string (mkS p)), (5, .int .i64 n), (61, .bool (((pList p).length : Int) == (0 : Int)))]) (by kernel_rfl) ?_
            refine Op.goto 25 (by kernel_rfl) ?_
            refine At.cond (b := ((pList p).length : Int) == (0 : Int)) (c := .tmp 61) (by kernel_rfl) (by kernel_rfl) (by kernel_rfl) 26 27 (by kernel_rfl) (by kernel_rfl) (fun hb => ?_) (fun hb => ?_)
            · have c896 : ((pList p).length : Int) = (0 : Int) := eq_of_beq hb
              clear hb
              refine At.keep [0] ?_; show At _ _ _ [(0, .string (mkS p))] _
              refine At.reg (L := [(0, false)]) (by kernel_rfl) ?_
              refine Op.pures 1 [0, 5] (L' := []) (e' := [(0, .string (mkS p)), (5, .int .i64 1)]) (by kernel_rfl) ?_
              refine Op.goto 27 (by kernel_rfl) ?_
              refine At.reg (L := [(0, false), (1, false), (2, false), (3, false), (4, false), (5, false), (6, false), (7, false), (8, false), (9, false), (10, false), (11, false), (12, false), (13, false)]) (by kernel_rfl) ?_
              refine Op.pures 5 [0, 5, 66] (L' := [(5, false), (6, false), (7, false), (8, false), (9, false), (10, false), (11, false), (12, false), (13, false)]) (e' := [(0, .string (mkS p)), (5, .int .i64 1), (66, .bool ((1 : Int) == (p.length : Int)))]) (by kernel_rfl) ?_
              refine Op.ways (b := (1 : Int) == (p.length : Int)) ⟨fun hb => ?_, fun hb => ?_⟩
              · refine Op.cast (e' := [(0, .string (mkS p)), (5, .int .i64 1), (66, .bool true)]) (by rw [hb]) ?_
                have c897 : (1 : Int) = (p.length : Int) := eq_of_beq hb
                clear hb
                refine Op.pures 4 [0, 70] (L' := [(9, false), (10, false), (11, false), (12, false), (13, false)]) (e' := [(0, .string (mkS p)), (70, .bool (decide ((1 : Int) ≤ (64 : Int))))]) (by kernel_rfl) ?_
                refine Op.ways (b := decide ((1 : Int) ≤ (64 : Int))) ⟨fun hb => ?_, fun hb => ?_⟩
                · refine Op.cast (e' := [(0, .string (mkS p)), (70, .bool true)]) (by rw [hb]) ?_
                  have c898 : (1 : Int) ≤ (64 : Int) := of_decide_eq_true hb
                  clear hb
                  refine Op.pures 1 [70, 71] (L' := [(10, false), (11, false), (12, false), (13, false)]) (e' := [(70, .bool true), (71, .string (mkS p))]) (by kernel_rfl) ?_
                  refine Op.call0 (dst := some 72) (f := 38) (args := #[.string (mkS p)]) (by kernel_rfl) s_loop16861 (checkP _ _ _ s_loop16861.sub hG p (by first | omega | (have := pList_len p; omega) | (have h16 := pPart_16 {hx0}; have h1 := wh_le p (Int.toNat i); have := pList_len p; omega))) ?_
                  rintro _ g901 _ h899 hle902 s900 ⟨rfl, hgg, rfl⟩; subst g901; clear hle902
                  refine Op.pures 3 [2] (L' := []) (e' := [(2, .bool ((pErr p) == (0 : Int)))]) (by kernel_rfl) ?_
                  refine Op.goto 28 (by kernel_rfl) ?_
                  refine At.ret (f := Tryd.f13) (v := .bool ((pErr p) == (0 : Int))) (by kernel_rfl) (by kernel_rfl) ?_
                  refine hR _ _ _ _ s900.fin ⟨?_, rfl, rfl⟩
                  exact (eqB (by first | rfl | exact absurd rfl c898 | exact absurd (pErr_90 (by assumption)) c898 | exact pList_0 (by assumption) | exact absurd c898 (pPart_1 {hx0}) | exact absurd c898 (pPart_16 {hx0}) | exact absurd (b_sum hn (by assumption) (by assumption) (by assumption)) c898 | exact absurd (b_one (by assumption) (by assumption)) c898 | (exfalso; have h64 := p_len64 (p := p) (by assumption); omega) | (exfalso; omega) | exact beq_iff_eq.2 (by assumption)))
                · refine Op.cast (e' := [(0, .string (mkS p)), (70, .bool false)]) (by rw [hb]) ?_
                  have c903 : ¬ ((1 : Int) ≤ (64 : Int)) := of_decide_eq_false hb
                  clear hb
                  refine Op.pures 5 [2] (L' := []) (e' := [(2, .bool false)]) (by kernel_rfl) ?_
                  refine Op.goto 28 (by kernel_rfl) ?_
                  refine At.ret (f := Tryd.f13) (v := .bool false) (by kernel_rfl) (by kernel_rfl) ?_
                  refine hR _ _ _ _ s_loop16861.fin ⟨?_, rfl, rfl⟩
                  exact (eqB (by first | rfl | exact absurd rfl c903 | exact absurd (pErr_90 (by assumption)) c903 | exact pList_0 (by assumption) | exact absurd c903 (pPart_1 {hx0}) | exact absurd c903 (pPart_16 {hx0}) | exact absurd (b_sum hn (by assumption) (by assumption) (by assumption)) c903 | exact absurd (b_one (by assumption) (by assumption)) c903 | (exfalso; have h64 := p_len64 (p := p) (by assumption); omega) | (exfalso; omega) | exact beq_iff_eq.2 (by assumption)))
              · refine Op.cast (e' := [(0, .string (mkS p)), (5, .int .i64 1), (66, .bool false)]) (by rw [hb]) ?_
                have c904 : ¬ ((1 : Int) = (p.length : Int)) := neF hb
                clear hb
                refine Op.pures 9 [2] (L' := []) (e' := [(2, .bool false)]) (by kernel_rfl) ?_
                refine Op.goto 28 (by kernel_rfl) ?_
                refine At.ret (f := Tryd.f13) (v := .bool false) (by kernel_rfl) (by kernel_rfl) ?_
                refine hR _ _ _ _ s_loop16861.fin ⟨?_, rfl, rfl⟩
                exact (eqB (by first | rfl | exact absurd rfl c904 | exact absurd (pErr_90 (by assumption)) c904 | exact pList_0 (by assumption) | exact absurd c904 (pPart_1 {hx0}) | exact absurd c904 (pPart_16 {hx0}) | exact absurd (b_sum hn (by assumption) (by assumption) (by assumption)) c904 | exact absurd (b_one (by assumption) (by assumption)) c904 | (exfalso; have h64 := p_len64 (p := p) (by assumption); omega) | (exfalso; omega) | exact beq_iff_eq.2 (by assumption)))
            · have c905 : ¬ (((pList p).length : Int) = (0 : Int)) := neF hb
              clear hb
              refine At.keep [0, 5] ?_; show At _ _ _ [(0, .string (mkS p)), (5, .int .i64 n)] _
              refine At.reg (L := [(0, false), (1, false), (2, false), (3, false), (4, false), (5, false), (6, false), (7, false), (8, false), (9, false), (10, false), (11, false), (12, false), (13, false)]) (by kernel_rfl) ?_
              refine Op.pures 5 [0, 5, 66] (L' := [(5, false), (6, false), (7, false), (8, false), (9, false), (10, false), (11, false), (12, false), (13, false)]) (e' := [(0, .string (mkS p)), (5, .int .i64 n), (66, .bool (n == (p.length : Int)))]) (by kernel_rfl) ?_
              refine Op.ways (b := n == (p.length : Int)) ⟨fun hb => ?_, fun hb => ?_⟩
              · refine Op.cast (e' := [(0, .string (mkS p)), (5, .int .i64 n), (66, .bool true)]) (by rw [hb]) ?_
                have c906 : n = (p.length : Int) := eq_of_beq hb
                clear hb
                refine Op.pures 4 [0, 70] (L' := [(9, false), (10, false), (11, false), (12, false), (13, false)]) (e' := [(0, .string (mkS p)), (70, .bool (decide (n ≤ (64 : Int))))]) (by kernel_rfl) ?_
                refine Op.ways (b := decide (n ≤ (64 : Int))) ⟨fun hb => ?_, fun hb => ?_⟩
                · refine Op.cast (e' := [(0, .string (mkS p)), (70, .bool true)]) (by rw [hb]) ?_
                  have c907 : n ≤ (64 : Int) := of_decide_eq_true hb
                  clear hb
                  refine Op.pures 1 [70, 71] (L' := [(10, false), (11, false), (12, false), (13, false)]) (e' := [(70, .bool true), (71, .string (mkS p))]) (by kernel_rfl) ?_
                  refine Op.call0 (dst := some 72) (f := 38) (args := #[.string (mkS p)]) (by kernel_rfl) s_loop16861 (checkP _ _ _ s_loop16861.sub hG p (by first | omega | (have := pList_len p; omega) | (have h16 := pPart_16 {hx0}; have h1 := wh_le p (Int.toNat i); have := pList_len p; omega))) ?_
                  rintro _ g910 _ h908 hle911 s909 ⟨rfl, hgg, rfl⟩; subst g910; clear hle911
                  refine Op.pures 3 [2] (L' := []) (e' := [(2, .bool ((pErr p) == (0 : Int)))]) (by kernel_rfl) ?_
                  refine Op.goto 28 (by kernel_rfl) ?_
                  refine At.ret (f := Tryd.f13) (v := .bool ((pErr p) == (0 : Int))) (by kernel_rfl) (by kernel_rfl) ?_
                  refine hR _ _ _ _ s909.fin ⟨?_, rfl, rfl⟩
                  exact (eqB (by first | rfl | exact absurd rfl c907 | exact absurd (pErr_90 (by assumption)) c907 | exact pList_0 (by assumption) | exact absurd c907 (pPart_1 {hx0}) | exact absurd c907 (pPart_16 {hx0}) | exact absurd (b_sum hn (by assumption) (by assumption) (by assumption)) c907 | exact absurd (b_one (by assumption) (by assumption)) c907 | (exfalso; have h64 := p_len64 (p := p) (by assumption); omega) | (exfalso; omega) | exact beq_iff_eq.2 (by assumption)))
                · refine Op.cast (e' := [(0, .string (mkS p)), (70, .bool false)]) (by rw [hb]) ?_
                  have c912 : ¬ (n ≤ (64 : Int)) := of_decide_eq_false hb
                  clear hb
                  refine Op.pures 5 [2] (L' := []) (e' := [(2, .bool false)]) (by kernel_rfl) ?_
                  refine Op.goto 28 (by kernel_rfl) ?_
                  refine At.ret (f := Tryd.f13) (v := .bool false) (by kernel_rfl) (by kernel_rfl) ?_
                  refine hR _ _ _ _ s_loop16861.fin ⟨?_, rfl, rfl⟩
                  exact (eqB (by first | rfl | exact absurd rfl c912 | exact absurd (pErr_90 (by assumption)) c912 | exact pList_0 (by assumption) | exact absurd c912 (pPart_1 {hx0}) | exact absurd c912 (pPart_16 {hx0}) | exact absurd (b_sum hn (by assumption) (by assumption) (by assumption)) c912 | exact absurd (b_one (by assumption) (by assumption)) c912 | (exfalso; have h64 := p_len64 (p := p) (by assumption); omega) | (exfalso; omega) | exact beq_iff_eq.2 (by assumption)))
              · refine Op.cast (e' := [(0, .string (mkS p)), (5, .int .i64 n), (66, .bool false)]) (by rw [hb]) ?_
                have c913 : ¬ (n = (p.length : Int)) := neF hb
                clear hb
                refine Op.pures 9 [2] (L' := []) (e' := [(2, .bool false)]) (by kernel_rfl) ?_
                refine Op.goto 28 (by kernel_rfl) ?_
                refine At.ret (f := Tryd.f13) (v := .bool false) (by kernel_rfl) (by kernel_rfl) ?_
                refine hR _ _ _ _ s_loop16861.fin ⟨?_, rfl, rfl⟩
                exact (eqB (by first | rfl | exact absurd rfl c913 | exact absurd (pErr_90 (by assumption)) c913 | exact pList_0 (by assumption) | exact absurd c913 (pPart_1 {hx0}) | exact absurd c913 (pPart_16 {hx0}) | exact absurd (b_sum hn (by assumption) (by assumption) (by assumption)) c913 | exact absurd (b_one (by assumption) (by assumption)) c913 | (exfalso; have h64 := p_len64 (p := p) (by assumption); omega) | (exfalso; omega) | exact beq_iff_eq.2 (by assumption)))
      exact loop16 _  0 0 _ (Nat.lt_succ_self _) (by first | omega | (have := pList_len p; omega) | (have h16 := pPart_16 {hx0}; have h1 := wh_le p (Int.toNat i); have := pList_len p; omega)) (by first | omega | (have := pList_len p; omega) | (have h16 := pPart_16 {hx0}; have h1 := wh_le p (Int.toNat i); have := pList_len p; omega)) (by rfl)  s845

end Go.Proofs.YtphonojjgnbpfaaDoor.Sw
