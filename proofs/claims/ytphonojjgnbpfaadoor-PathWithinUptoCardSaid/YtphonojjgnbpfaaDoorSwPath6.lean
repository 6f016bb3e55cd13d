/- Walks of the functions that are named below: what each computes, as plain Lean words. Printed by a program of our own. -/
import Derived.Test.YtphonojjgnbpfaaDoorSwPath3
import Derived.Test.YtphonojjgnbpfaaDoorSwPathS
namespace Go.Proofs.YtphonojjgnbpfaaDoor.Sw
open Go
set_option maxRecDepth 100000
set_option linter.unusedVariables false
set_option linter.unusedSimpArgs false
set_option linter.deprecated false


/-- stanchion/stanchionlaw09.PathWithin -/
theorem lawWithin (B : World) (h : Heap) (g : GH) (hg : Sub g h) (hG : Glob g) (a : List UInt8) (b : List UInt8) (c : List UInt8) (hP : Pow10 g) (h1 : a.length ≤ 2000000) (h2 : b.length ≤ 2000000) (h3 : c.length ≤ 2000000) :
    Spec Tryd.prog B 12 #[.string (mkS a), .string (mkS b), .string (mkS c)] h g [] (fun v g' L' => v = .bool true ∧ g' = g ∧ L' = []) := by
  refine Spec.of_at (f := Tryd.f12) (e := [(0, .string (mkS a)), (1, .string (mkS b)), (2, .string (mkS c))]) Tryd.func12 (by kernel_rfl) (Nat.le_of_ble_eq_true (by kernel_rfl)) (by kernel_rfl) (by kernel_rfl) ?_
  intro R hR
  have s0 := St.init hg
  refine At.reg (L := [(0, false)]) (by kernel_rfl) ?_
  refine Op.pures 1 [0, 1, 2] (L' := []) (e' := [(0, .string (mkS a)), (1, .string (mkS b)), (2, .string (mkS c))]) (by kernel_rfl) ?_
  refine Op.goto 1 (by kernel_rfl) ?_
  refine At.reg (L := [(0, false), (1, false)]) (by kernel_rfl) ?_
  refine Op.call0 (dst := some 11) (f := 33) (args := #[]) (by kernel_rfl) s0 (alive09 _ _ _ s0.sub hG  hP) ?_
  rintro _ g966 _ h964 hle967 s965 ⟨rfl, hgg, rfl⟩; subst g966; clear hle967
  refine Op.pures 1 [0, 1, 2, 12] (L' := []) (e' := [(0, .string (mkS a)), (1, .string (mkS b)), (2, .string (mkS c)), (12, .bool false)]) (by kernel_rfl) ?_
  refine Op.goto 2 (by kernel_rfl) ?_
  refine At.condF (c := .tmp 12) (by kernel_rfl) (by kernel_rfl) (by kernel_rfl) 5 (by kernel_rfl) ?_
  refine At.reg (L := [(0, false), (1, false), (2, false), (3, false), (4, false), (5, false), (6, false), (7, false), (8, false)]) (by kernel_rfl) ?_
  refine Op.pures 4 [0, 1, 2, 14, 16] (L' := [(4, false), (5, false), (6, false), (7, false), (8, false)]) (e' := [(0, .string (mkS a)), (1, .string (mkS b)), (2, .string (mkS c)), (14, .int .i64 (a.length : Int)), (16, .int .i64 (b.length : Int))]) (by kernel_rfl) ?_
  refine Op.val (dst := some 17) (v := .int .i64 (IntKind.wrap .i64 ((a.length : Int) + (b.length : Int)))) (v' := .int .i64 ((a.length : Int) + (b.length : Int))) (by kernel_rfl) (wrapEq_i64 (by first | omega | (have := w_len (a := a) (b := b) (by assumption); have := pList_len a; have := pList_len b; omega) | (have := pList_len a; simp only [List.length_take]; omega) | (have := pList_len a; omega)) (by first | omega | (have := w_len (a := a) (b := b) (by assumption); have := pList_len a; have := pList_len b; omega) | (have := pList_len a; simp only [List.length_take]; omega) | (have := pList_len a; omega))) ?_
  refine Op.pures 2 [0, 1, 2, 17, 19] (L' := [(7, false), (8, false)]) (e' := [(0, .string (mkS a)), (1, .string (mkS b)), (2, .string (mkS c)), (17, .int .i64 ((a.length : Int) + (b.length : Int))), (19, .int .i64 (c.length : Int))]) (by kernel_rfl) ?_
  refine Op.val (dst := some 20) (v := .int .i64 (IntKind.wrap .i64 (((a.length : Int) + (b.length : Int)) + (c.length : Int)))) (v' := .int .i64 (((a.length : Int) + (b.length : Int)) + (c.length : Int))) (by kernel_rfl) (wrapEq_i64 (by first | omega | (have := w_len (a := a) (b := b) (by assumption); have := pList_len a; have := pList_len b; omega) | (have := pList_len a; simp only [List.length_take]; omega) | (have := pList_len a; omega)) (by first | omega | (have := w_len (a := a) (b := b) (by assumption); have := pList_len a; have := pList_len b; omega) | (have := pList_len a; simp only [List.length_take]; omega) | (have := pList_len a; omega))) ?_
  refine Op.pures 1 [0, 1, 2, 21] (L' := []) (e' := [(0, .string (mkS a)), (1, .string (mkS b)), (2, .string (mkS c)), (21, .bool (decide ((((a.length : Int) + (b.length : Int)) + (c.length : Int)) > (5000 : Int))))]) (by kernel_rfl) ?_
  refine Op.goto 6 (by kernel_rfl) ?_
  refine At.cond (b := decide ((((a.length : Int) + (b.length : Int)) + (c.length : Int)) > (5000 : Int))) (c := .tmp 21) (by kernel_rfl) (by kernel_rfl) (by kernel_rfl) 7 9 (by kernel_rfl) (by kernel_rfl) (fun hb => ?_) (fun hb => ?_)
  · have c968 : (((a.length : Int) + (b.length : Int)) + (c.length : Int)) > (5000 : Int) := of_decide_eq_true hb
    clear hb
    refine At.keep [] ?_; show At _ _ _ [] _
    refine At.reg (L := [(0, false)]) (by kernel_rfl) ?_
    refine Op.pures 1 [6] (L' := []) (e' := [(6, .bool true)]) (by kernel_rfl) ?_
    refine Op.goto 8 (by kernel_rfl) ?_
    refine At.ret (f := Tryd.f12) (v := .bool true) (by kernel_rfl) (by kernel_rfl) ?_
    refine hR _ _ _ _ s965.fin ⟨?_, rfl, rfl⟩
    exact (eqB (by first | rfl | contradiction | exact absurd (w_trans (by assumption) (by assumption)) (Bool.eq_false_iff.1 c968) | exact absurd (w_anti (by assumption) (by assumption)) c968 | exact absurd (w_ok (by assumption)).1 (by assumption) | exact absurd (w_ok (by assumption)).2.1 (by assumption) | exact absurd (w_len (by assumption)) c968 | exact decide_eq_true (w_take (by assumption)) | (rw [← within_n1 (by assumption)]; rfl) | (rw [← within_n2 (by assumption)]; rfl)))
  · have c969 : ¬ ((((a.length : Int) + (b.length : Int)) + (c.length : Int)) > (5000 : Int)) := of_decide_eq_false hb
    clear hb
    refine At.keep [0, 1, 2] ?_; show At _ _ _ [(0, .string (mkS a)), (1, .string (mkS b)), (2, .string (mkS c))] _
    refine At.reg (L := [(0, false), (1, false), (2, false), (3, false), (4, false), (5, false), (6, false), (7, false), (8, false), (9, false), (10, false), (11, false), (12, false), (13, false)]) (by kernel_rfl) ?_
    refine Op.pures 2 [0, 1, 2, 22, 23] (L' := [(2, false), (3, false), (4, false), (5, false), (6, false), (7, false), (8, false), (9, false), (10, false), (11, false), (12, false), (13, false)]) (e' := [(0, .string (mkS a)), (1, .string (mkS b)), (2, .string (mkS c)), (22, .string (mkS a)), (23, .string (mkS b))]) (by kernel_rfl) ?_
    refine Op.call0 (dst := some 24) (f := 40) (args := #[.string (mkS a), .string (mkS b)]) (by kernel_rfl) s965 (withinP _ _ _ s965.sub hG a b (by first | omega | (have := w_len (a := a) (b := b) (by assumption); have := pList_len a; have := pList_len b; omega) | (have := pList_len a; simp only [List.length_take]; omega) | (have := pList_len a; omega)) (by first | omega | (have := w_len (a := a) (b := b) (by assumption); have := pList_len a; have := pList_len b; omega) | (have := pList_len a; simp only [List.length_take]; omega) | (have := pList_len a; omega))) ?_
    rintro _ g972 _ h970 hle973 s971 ⟨rfl, hgg, rfl⟩; subst g972; clear hle973
    refine Op.pures 1 [0, 1, 2, 25] (L' := [(4, false), (5, false), (6, false), (7, false), (8, false), (9, false), (10, false), (11, false), (12, false), (13, false)]) (e' := [(0, .string (mkS a)), (1, .string (mkS b)), (2, .string (mkS c)), (25, .bool (withinB a b))]) (by kernel_rfl) ?_
    refine Op.ways (b := withinB a b) ⟨fun hb => ?_, fun hb => ?_⟩
    · refine Op.cast (e' := [(0, .string (mkS a)), (1, .string (mkS b)), (2, .string (mkS c)), (25, .bool true)]) (by rw [hb]) ?_
      have c974 : (withinB a b) = true := hb
      clear hb
      refine Op.pures 2 [0, 1, 2, 25, 26, 27] (L' := [(6, false), (7, false), (8, false), (9, false), (10, false), (11, false), (12, false), (13, false)]) (e' := [(0, .string (mkS a)), (1, .string (mkS b)), (2, .string (mkS c)), (25, .bool true), (26, .string (mkS b)), (27, .string (mkS c))]) (by kernel_rfl) ?_
      refine Op.call0 (dst := some 28) (f := 40) (args := #[.string (mkS b), .string (mkS c)]) (by kernel_rfl) s971 (withinP _ _ _ s971.sub hG b c (by first | omega | (have := w_len (a := a) (b := b) (by assumption); have := pList_len a; have := pList_len b; omega) | (have := pList_len a; simp only [List.length_take]; omega) | (have := pList_len a; omega)) (by first | omega | (have := w_len (a := a) (b := b) (by assumption); have := pList_len a; have := pList_len b; omega) | (have := pList_len a; simp only [List.length_take]; omega) | (have := pList_len a; omega))) ?_
      rintro _ g977 _ h975 hle978 s976 ⟨rfl, hgg, rfl⟩; subst g977; clear hle978
      refine Op.pures 2 [0, 1, 2, 30] (L' := [(9, false), (10, false), (11, false), (12, false), (13, false)]) (e' := [(0, .string (mkS a)), (1, .string (mkS b)), (2, .string (mkS c)), (30, .bool (withinB b c))]) (by kernel_rfl) ?_
      refine Op.ways (b := withinB b c) ⟨fun hb => ?_, fun hb => ?_⟩
      · refine Op.cast (e' := [(0, .string (mkS a)), (1, .string (mkS b)), (2, .string (mkS c)), (30, .bool true)]) (by rw [hb]) ?_
        have c979 : (withinB b c) = true := hb
        clear hb
        refine Op.pures 2 [0, 1, 30, 31, 32] (L' := [(11, false), (12, false), (13, false)]) (e' := [(0, .string (mkS a)), (1, .string (mkS b)), (30, .bool true), (31, .string (mkS a)), (32, .string (mkS c))]) (by kernel_rfl) ?_
        refine Op.call0 (dst := some 33) (f := 40) (args := #[.string (mkS a), .string (mkS c)]) (by kernel_rfl) s976 (withinP _ _ _ s976.sub hG a c (by first | omega | (have := w_len (a := a) (b := b) (by assumption); have := pList_len a; have := pList_len b; omega) | (have := pList_len a; simp only [List.length_take]; omega) | (have := pList_len a; omega)) (by first | omega | (have := w_len (a := a) (b := b) (by assumption); have := pList_len a; have := pList_len b; omega) | (have := pList_len a; simp only [List.length_take]; omega) | (have := pList_len a; omega))) ?_
        rintro _ g982 _ h980 hle983 s981 ⟨rfl, hgg, rfl⟩; subst g982; clear hle983
        refine Op.pures 2 [0, 1, 35] (L' := []) (e' := [(0, .string (mkS a)), (1, .string (mkS b)), (35, .bool (!(withinB a c)))]) (by kernel_rfl) ?_
        refine Op.goto 10 (by kernel_rfl) ?_
        refine At.cond (b := !(withinB a c)) (c := .tmp 35) (by kernel_rfl) (by kernel_rfl) (by kernel_rfl) 11 13 (by kernel_rfl) (by kernel_rfl) (fun hb => ?_) (fun hb => ?_)
        · have c984 : (withinB a c) = false := (notT hb)
          clear hb
          refine At.keep [] ?_; show At _ _ _ [] _
          refine At.reg (L := [(0, false)]) (by kernel_rfl) ?_
          refine Op.pures 1 [6] (L' := []) (e' := [(6, .bool false)]) (by kernel_rfl) ?_
          refine Op.goto 12 (by kernel_rfl) ?_
          refine At.ret (f := Tryd.f12) (v := .bool false) (by kernel_rfl) (by kernel_rfl) ?_
          refine hR _ _ _ _ s981.fin ⟨?_, rfl, rfl⟩
          exact (eqB (by first | rfl | contradiction | exact absurd (w_trans (by assumption) (by assumption)) (Bool.eq_false_iff.1 c984) | exact absurd (w_anti (by assumption) (by assumption)) c984 | exact absurd (w_ok (by assumption)).1 (by assumption) | exact absurd (w_ok (by assumption)).2.1 (by assumption) | exact absurd (w_len (by assumption)) c984 | exact decide_eq_true (w_take (by assumption)) | (rw [← within_n1 (by assumption)]; rfl) | (rw [← within_n2 (by assumption)]; rfl)))
        · have c985 : (withinB a c) = true := (notF hb)
          clear hb
          refine At.keep [0, 1] ?_; show At _ _ _ [(0, .string (mkS a)), (1, .string (mkS b))] _
          refine At.reg (L := [(0, false), (1, false), (2, false), (3, false), (4, false), (5, false), (6, false), (7, false), (8, false), (9, false), (10, false), (11, false), (12, false)]) (by kernel_rfl) ?_
          refine Op.pures 2 [0, 1, 36, 37] (L' := [(2, false), (3, false), (4, false), (5, false), (6, false), (7, false), (8, false), (9, false), (10, false), (11, false), (12, false)]) (e' := [(0, .string (mkS a)), (1, .string (mkS b)), (36, .string (mkS a)), (37, .string (mkS b))]) (by kernel_rfl) ?_
          refine Op.call0 (dst := some 38) (f := 40) (args := #[.string (mkS a), .string (mkS b)]) (by kernel_rfl) s981 (withinP _ _ _ s981.sub hG a b (by first | omega | (have := w_len (a := a) (b := b) (by assumption); have := pList_len a; have := pList_len b; omega) | (have := pList_len a; simp only [List.length_take]; omega) | (have := pList_len a; omega)) (by first | omega | (have := w_len (a := a) (b := b) (by assumption); have := pList_len a; have := pList_len b; omega) | (have := pList_len a; simp only [List.length_take]; omega) | (have := pList_len a; omega))) ?_
          rintro _ g988 _ h986 hle989 s987 ⟨rfl, hgg, rfl⟩; subst g988; clear hle989
          refine Op.pures 1 [0, 1, 39] (L' := [(4, false), (5, false), (6, false), (7, false), (8, false), (9, false), (10, false), (11, false), (12, false)]) (e' := [(0, .string (mkS a)), (1, .string (mkS b)), (39, .bool (withinB a b))]) (by kernel_rfl) ?_
          refine Op.ways (b := withinB a b) ⟨fun hb => ?_, fun hb => ?_⟩
          · refine Op.cast (e' := [(0, .string (mkS a)), (1, .string (mkS b)), (39, .bool true)]) (by rw [hb]) ?_
            have c990 : (withinB a b) = true := hb
            clear hb
            refine Op.pures 2 [0, 1, 39, 40, 41] (L' := [(6, false), (7, false), (8, false), (9, false), (10, false), (11, false), (12, false)]) (e' := [(0, .string (mkS a)), (1, .string (mkS b)), (39, .bool true), (40, .string (mkS b)), (41, .string (mkS a))]) (by kernel_rfl) ?_
            refine Op.call0 (dst := some 42) (f := 40) (args := #[.string (mkS b), .string (mkS a)]) (by kernel_rfl) s987 (withinP _ _ _ s987.sub hG b a (by first | omega | (have := w_len (a := a) (b := b) (by assumption); have := pList_len a; have := pList_len b; omega) | (have := pList_len a; simp only [List.length_take]; omega) | (have := pList_len a; omega)) (by first | omega | (have := w_len (a := a) (b := b) (by assumption); have := pList_len a; have := pList_len b; omega) | (have := pList_len a; simp only [List.length_take]; omega) | (have := pList_len a; omega))) ?_
            rintro _ g993 _ h991 hle994 s992 ⟨rfl, hgg, rfl⟩; subst g993; clear hle994
            refine Op.pures 2 [0, 1, 44] (L' := [(9, false), (10, false), (11, false), (12, false)]) (e' := [(0, .string (mkS a)), (1, .string (mkS b)), (44, .bool (withinB b a))]) (by kernel_rfl) ?_
            refine Op.ways (b := withinB b a) ⟨fun hb => ?_, fun hb => ?_⟩
            · refine Op.cast (e' := [(0, .string (mkS a)), (1, .string (mkS b)), (44, .bool true)]) (by rw [hb]) ?_
              have c995 : (withinB b a) = true := hb
              clear hb
              refine Op.pures 2 [0, 1, 44, 45, 46] (L' := [(11, false), (12, false)]) (e' := [(0, .string (mkS a)), (1, .string (mkS b)), (44, .bool true), (45, .string (mkS a)), (46, .string (mkS b))]) (by kernel_rfl) ?_
              refine Op.val (dst := some 47) (v := .bool (!((mkS a).toList == (mkS b).toList))) (v' := .bool (!(a == b))) (by kernel_rfl) (by rw [toList_mkS, toList_mkS]) ?_
              refine Op.pures 1 [0, 1, 48] (L' := []) (e' := [(0, .string (mkS a)), (1, .string (mkS b)), (48, .bool (!(a == b)))]) (by kernel_rfl) ?_
              refine Op.goto 14 (by kernel_rfl) ?_
              refine At.cond (b := !(a == b)) (c := .tmp 48) (by kernel_rfl) (by kernel_rfl) (by kernel_rfl) 15 17 (by kernel_rfl) (by kernel_rfl) (fun hb => ?_) (fun hb => ?_)
              · have c996 : ¬ (a = b) := neF (notT hb)
                clear hb
                refine At.keep [] ?_; show At _ _ _ [] _
                refine At.reg (L := [(0, false)]) (by kernel_rfl) ?_
                refine Op.pures 1 [6] (L' := []) (e' := [(6, .bool false)]) (by kernel_rfl) ?_
                refine Op.goto 16 (by kernel_rfl) ?_
                refine At.ret (f := Tryd.f12) (v := .bool false) (by kernel_rfl) (by kernel_rfl) ?_
                refine hR _ _ _ _ s992.fin ⟨?_, rfl, rfl⟩
                exact (eqB (by first | rfl | contradiction | exact absurd (w_trans (by assumption) (by assumption)) (Bool.eq_false_iff.1 c996) | exact absurd (w_anti (by assumption) (by assumption)) c996 | exact absurd (w_ok (by assumption)).1 (by assumption) | exact absurd (w_ok (by assumption)).2.1 (by assumption) | exact absurd (w_len (by assumption)) c996 | exact decide_eq_true (w_take (by assumption)) | (rw [← within_n1 (by assumption)]; rfl) | (rw [← within_n2 (by assumption)]; rfl)))
              · have c997 : a = b := eq_of_beq (notF hb)
                clear hb
                refine At.keep [0, 1] ?_; show At _ _ _ [(0, .string (mkS a)), (1, .string (mkS b))] _
                refine At.reg (L := [(0, false), (1, false), (2, false), (3, false), (4, false), (5, false), (6, false)]) (by kernel_rfl) ?_
                refine Op.pures 1 [0, 1, 50] (L' := [(1, false), (2, false), (3, false), (4, false), (5, false), (6, false)]) (e' := [(0, .string (mkS a)), (1, .string (mkS b)), (50, .string (mkS a))]) (by kernel_rfl) ?_
                refine Op.call0 (dst := some 51) (f := 42) (args := #[.string (mkS a)]) (by kernel_rfl) s992 (partsP _ _ _ s992.sub hG a (by first | omega | (have := w_len (a := a) (b := b) (by assumption); have := pList_len a; have := pList_len b; omega) | (have := pList_len a; simp only [List.length_take]; omega) | (have := pList_len a; omega))) ?_
                rintro _ g1004 _ h998 hle1005 s999 ⟨v1000, rfl, hr1001, rfl⟩
                obtain ⟨a1002, n1003, rfl⟩ := hr1001.form
                replace hG := hG.mono hle1005
                replace hP := hP.mono hle1005
                refine Op.pures 5 [0, 1, 7, 8] (L' := []) (e' := [(0, .string (mkS a)), (1, .string (mkS b)), (7, .slice a1002 ((pList a).length) n1003), (8, .int .i64 (pErr a))]) (by kernel_rfl) ?_
                refine Op.goto 18 (by kernel_rfl) ?_
                refine At.reg (L := [(0, false), (1, false), (2, false), (3, false), (4, false), (5, false), (6, false)]) (by kernel_rfl) ?_
                refine Op.pures 1 [0, 1, 7, 8, 55] (L' := [(1, false), (2, false), (3, false), (4, false), (5, false), (6, false)]) (e' := [(0, .string (mkS a)), (1, .string (mkS b)), (7, .slice a1002 ((pList a).length) n1003), (8, .int .i64 (pErr a)), (55, .string (mkS b))]) (by kernel_rfl) ?_
                refine Op.call0 (dst := some 56) (f := 42) (args := #[.string (mkS b)]) (by kernel_rfl) s999 (partsP _ _ _ s999.sub hG b (by first | omega | (have := w_len (a := a) (b := b) (by assumption); have := pList_len a; have := pList_len b; omega) | (have := pList_len a; simp only [List.length_take]; omega) | (have := pList_len a; omega))) ?_
                rintro _ g1012 _ h1006 hle1013 s1007 ⟨v1008, rfl, hr1009, rfl⟩
                obtain ⟨a1010, n1011, rfl⟩ := hr1009.form
                replace hG := hG.mono hle1013
                replace hP := hP.mono hle1013
                replace hr1001 := hr1001.mono hle1013
                refine Op.pures 5 [0, 1, 7, 8, 9, 10] (L' := []) (e' := [(0, .string (mkS a)), (1, .string (mkS b)), (7, .slice a1002 ((pList a).length) n1003), (8, .int .i64 (pErr a)), (9, .slice a1010 ((pList b).length) n1011), (10, .int .i64 (pErr b))]) (by kernel_rfl) ?_
                refine Op.goto 19 (by kernel_rfl) ?_
                refine At.reg (L := [(0, false), (1, false), (2, false), (3, false), (4, false), (5, false)]) (by kernel_rfl) ?_
                refine Op.pures 3 [0, 1, 7, 9, 10, 61] (L' := [(3, false), (4, false), (5, false)]) (e' := [(0, .string (mkS a)), (1, .string (mkS b)), (7, .slice a1002 ((pList a).length) n1003), (9, .slice a1010 ((pList b).length) n1011), (10, .int .i64 (pErr b)), (61, .bool ((pErr a) != (0 : Int)))]) (by kernel_rfl) ?_
                refine Op.ways (b := (pErr a) != (0 : Int)) ⟨fun hb => ?_, fun hb => ?_⟩
                · refine Op.cast (e' := [(0, .string (mkS a)), (1, .string (mkS b)), (7, .slice a1002 ((pList a).length) n1003), (9, .slice a1010 ((pList b).length) n1011), (10, .int .i64 (pErr b)), (61, .bool true)]) (by rw [hb]) ?_
                  have c1014 : ¬ ((pErr a) = (0 : Int)) := bneT hb
                  clear hb
                  refine Op.pures 3 [0, 1, 7, 9, 64] (L' := []) (e' := [(0, .string (mkS a)), (1, .string (mkS b)), (7, .slice a1002 ((pList a).length) n1003), (9, .slice a1010 ((pList b).length) n1011), (64, .bool true)]) (by kernel_rfl) ?_
                  refine Op.goto 20 (by kernel_rfl) ?_
                  refine At.condT (c := .tmp 64) (by kernel_rfl) (by kernel_rfl) (by kernel_rfl) 21 (by kernel_rfl) ?_
                  refine At.reg (L := [(0, false), (1, false), (2, false), (3, false), (4, false), (5, false), (6, false), (7, false), (8, false), (9, false), (10, false)]) (by kernel_rfl) ?_
                  refine Op.pures 2 [0, 1, 65, 66] (L' := [(2, false), (3, false), (4, false), (5, false), (6, false), (7, false), (8, false), (9, false), (10, false)]) (e' := [(0, .string (mkS a)), (1, .string (mkS b)), (65, .string (mkS a)), (66, .string (mkS b))]) (by kernel_rfl) ?_
                  refine Op.call0 (dst := some 67) (f := 40) (args := #[.string (mkS a), .string (mkS b)]) (by kernel_rfl) s1007 (withinP _ _ _ s1007.sub hG a b (by first | omega | (have := w_len (a := a) (b := b) (by assumption); have := pList_len a; have := pList_len b; omega) | (have := pList_len a; simp only [List.length_take]; omega) | (have := pList_len a; omega)) (by first | omega | (have := w_len (a := a) (b := b) (by assumption); have := pList_len a; have := pList_len b; omega) | (have := pList_len a; simp only [List.length_take]; omega) | (have := pList_len a; omega))) ?_
                  rintro _ g1017 _ h1015 hle1018 s1016 ⟨rfl, hgg, rfl⟩; subst g1017; clear hle1018
                  refine Op.pures 2 [0, 1, 69] (L' := [(5, false), (6, false), (7, false), (8, false), (9, false), (10, false)]) (e' := [(0, .string (mkS a)), (1, .string (mkS b)), (69, .bool (!(withinB a b)))]) (by kernel_rfl) ?_
                  refine Op.ways (b := !(withinB a b)) ⟨fun hb => ?_, fun hb => ?_⟩
                  · refine Op.cast (e' := [(0, .string (mkS a)), (1, .string (mkS b)), (69, .bool true)]) (by rw [hb]) ?_
                    have c1019 : (withinB a b) = false := (notT hb)
                    clear hb
                    refine Op.pures 2 [69, 70, 71] (L' := [(7, false), (8, false), (9, false), (10, false)]) (e' := [(69, .bool true), (70, .string (mkS b)), (71, .string (mkS a))]) (by kernel_rfl) ?_
                    refine Op.call0 (dst := some 72) (f := 40) (args := #[.string (mkS b), .string (mkS a)]) (by kernel_rfl) s1016 (withinP _ _ _ s1016.sub hG b a (by first | omega | (have := w_len (a := a) (b := b) (by assumption); have := pList_len a; have := pList_len b; omega) | (have := pList_len a; simp only [List.length_take]; omega) | (have := pList_len a; omega)) (by first | omega | (have := w_len (a := a) (b := b) (by assumption); have := pList_len a; have := pList_len b; omega) | (have := pList_len a; simp only [List.length_take]; omega) | (have := pList_len a; omega))) ?_
                    rintro _ g1022 _ h1020 hle1023 s1021 ⟨rfl, hgg, rfl⟩; subst g1022; clear hle1023
                    refine Op.pures 3 [6] (L' := []) (e' := [(6, .bool (!(withinB b a)))]) (by kernel_rfl) ?_
                    refine Op.goto 22 (by kernel_rfl) ?_
                    refine At.ret (f := Tryd.f12) (v := .bool (!(withinB b a))) (by kernel_rfl) (by kernel_rfl) ?_
                    refine hR _ _ _ _ s1021.fin ⟨?_, rfl, rfl⟩
                    exact (eqB (by first | rfl | contradiction | exact absurd (w_trans (by assumption) (by assumption)) (Bool.eq_false_iff.1 c1019) | exact absurd (w_anti (by assumption) (by assumption)) c1019 | exact absurd (w_ok (by assumption)).1 (by assumption) | exact absurd (w_ok (by assumption)).2.1 (by assumption) | exact absurd (w_len (by assumption)) c1019 | exact decide_eq_true (w_take (by assumption)) | (rw [← within_n1 (by assumption)]; rfl) | (rw [← within_n2 (by assumption)]; rfl)))
                  · refine Op.cast (e' := [(0, .string (mkS a)), (1, .string (mkS b)), (69, .bool false)]) (by rw [hb]) ?_
                    have c1024 : (withinB a b) = true := (notF hb)
                    clear hb
                    refine Op.pures 6 [6] (L' := []) (e' := [(6, .bool false)]) (by kernel_rfl) ?_
                    refine Op.goto 22 (by kernel_rfl) ?_
                    refine At.ret (f := Tryd.f12) (v := .bool false) (by kernel_rfl) (by kernel_rfl) ?_
                    refine hR _ _ _ _ s1016.fin ⟨?_, rfl, rfl⟩
                    exact (eqB (by first | rfl | contradiction | exact absurd (w_trans (by assumption) (by assumption)) (Bool.eq_false_iff.1 c1024) | exact absurd (w_anti (by assumption) (by assumption)) c1024 | exact absurd (w_ok (by assumption)).1 (by assumption) | exact absurd (w_ok (by assumption)).2.1 (by assumption) | exact absurd (w_len (by assumption)) c1024 | exact decide_eq_true (w_take (by assumption)) | (rw [← within_n1 (by assumption)]; rfl) | (rw [← within_n2 (by assumption)]; rfl)))
                · refine Op.cast (e' := [(0, .string (mkS a)), (1, .string (mkS b)), (7, .slice a1002 ((pList a).length) n1003), (9, .slice a1010 ((pList b).length) n1011), (10, .int .i64 (pErr b)), (61, .bool false)]) (by rw [hb]) ?_
                  have c1025 : (pErr a) = (0 : Int) := bneF hb
                  clear hb
                  refine Op.pures 3 [0, 1, 7, 9, 64] (L' := []) (e' := [(0, .string (mkS a)), (1, .string (mkS b)), (7, .slice a1002 ((pList a).length) n1003), (9, .slice a1010 ((pList b).length) n1011), (64, .bool ((pErr b) != (0 : Int)))]) (by kernel_rfl) ?_
                  refine Op.goto 20 (by kernel_rfl) ?_
                  refine At.cond (b := (pErr b) != (0 : Int)) (c := .tmp 64) (by kernel_rfl) (by kernel_rfl) (by kernel_rfl) 21 23 (by kernel_rfl) (by kernel_rfl) (fun hb => ?_) (fun hb => ?_)
                  · have c1026 : ¬ ((pErr b) = (0 : Int)) := bneT hb
                    clear hb
                    refine At.keep [0, 1] ?_; show At _ _ _ [(0, .string (mkS a)), (1, .string (mkS b))] _
                    refine At.reg (L := [(0, false), (1, false), (2, false), (3, false), (4, false), (5, false), (6, false), (7, false), (8, false), (9, false), (10, false)]) (by kernel_rfl) ?_
                    refine Op.pures 2 [0, 1, 65, 66] (L' := [(2, false), (3, false), (4, false), (5, false), (6, false), (7, false), (8, false), (9, false), (10, false)]) (e' := [(0, .string (mkS a)), (1, .string (mkS b)), (65, .string (mkS a)), (66, .string (mkS b))]) (by kernel_rfl) ?_
                    refine Op.call0 (dst := some 67) (f := 40) (args := #[.string (mkS a), .string (mkS b)]) (by kernel_rfl) s1007 (withinP _ _ _ s1007.sub hG a b (by first | omega | (have := w_len (a := a) (b := b) (by assumption); have := pList_len a; have := pList_len b; omega) | (have := pList_len a; simp only [List.length_take]; omega) | (have := pList_len a; omega)) (by first | omega | (have := w_len (a := a) (b := b) (by assumption); have := pList_len a; have := pList_len b; omega) | (have := pList_len a; simp only [List.length_take]; omega) | (have := pList_len a; omega))) ?_
                    rintro _ g1029 _ h1027 hle1030 s1028 ⟨rfl, hgg, rfl⟩; subst g1029; clear hle1030
                    refine Op.pures 2 [0, 1, 69] (L' := [(5, false), (6, false), (7, false), (8, false), (9, false), (10, false)]) (e' := [(0, .string (mkS a)), (1, .string (mkS b)), (69, .bool (!(withinB a b)))]) (by kernel_rfl) ?_
                    refine Op.ways (b := !(withinB a b)) ⟨fun hb => ?_, fun hb => ?_⟩
                    · refine Op.cast (e' := [(0, .string (mkS a)), (1, .string (mkS b)), (69, .bool true)]) (by rw [hb]) ?_
                      have c1031 : (withinB a b) = false := (notT hb)
                      clear hb
                      refine Op.pures 2 [69, 70, 71] (L' := [(7, false), (8, false), (9, false), (10, false)]) (e' := [(69, .bool true), (70, .string (mkS b)), (71, .string (mkS a))]) (by kernel_rfl) ?_
                      refine Op.call0 (dst := some 72) (f := 40) (args := #[.string (mkS b), .string (mkS a)]) (by kernel_rfl) s1028 (withinP _ _ _ s1028.sub hG b a (by first | omega | (have := w_len (a := a) (b := b) (by assumption); have := pList_len a; have := pList_len b; omega) | (have := pList_len a; simp only [List.length_take]; omega) | (have := pList_len a; omega)) (by first | omega | (have := w_len (a := a) (b := b) (by assumption); have := pList_len a; have := pList_len b; omega) | (have := pList_len a; simp only [List.length_take]; omega) | (have := pList_len a; omega))) ?_
                      rintro _ g1034 _ h1032 hle1035 s1033 ⟨rfl, hgg, rfl⟩; subst g1034; clear hle1035
                      refine Op.pures 3 [6] (L' := []) (e' := [(6, .bool (!(withinB b a)))]) (by kernel_rfl) ?_
                      refine Op.goto 22 (by kernel_rfl) ?_
                      refine At.ret (f := Tryd.f12) (v := .bool (!(withinB b a))) (by kernel_rfl) (by kernel_rfl) ?_
                      refine hR _ _ _ _ s1033.fin ⟨?_, rfl, rfl⟩
                      exact (eqB (by first | rfl | contradiction | exact absurd (w_trans (by assumption) (by assumption)) (Bool.eq_false_iff.1 c1031) | exact absurd (w_anti (by assumption) (by assumption)) c1031 | exact absurd (w_ok (by assumption)).1 (by assumption) | exact absurd (w_ok (by assumption)).2.1 (by assumption) | exact absurd (w_len (by assumption)) c1031 | exact decide_eq_true (w_take (by assumption)) | (rw [← within_n1 (by assumption)]; rfl) | (rw [← within_n2 (by assumption)]; rfl)))
                    · refine Op.cast (e' := [(0, .string (mkS a)), (1, .string (mkS b)), (69, .bool false)]) (by rw [hb]) ?_
                      have c1036 : (withinB a b) = true := (notF hb)
                      clear hb
                      refine Op.pures 6 [6] (L' := []) (e' := [(6, .bool false)]) (by kernel_rfl) ?_
                      refine Op.goto 22 (by kernel_rfl) ?_
                      refine At.ret (f := Tryd.f12) (v := .bool false) (by kernel_rfl) (by kernel_rfl) ?_
                      refine hR _ _ _ _ s1028.fin ⟨?_, rfl, rfl⟩
                      exact (eqB (by first | rfl | contradiction | exact absurd (w_trans (by assumption) (by assumption)) (Bool.eq_false_iff.1 c1036) | exact absurd (w_anti (by assumption) (by assumption)) c1036 | exact absurd (w_ok (by assumption)).1 (by assumption) | exact absurd (w_ok (by assumption)).2.1 (by assumption) | exact absurd (w_len (by assumption)) c1036 | exact decide_eq_true (w_take (by assumption)) | (rw [← within_n1 (by assumption)]; rfl) | (rw [← within_n2 (by assumption)]; rfl)))
                  · have c1037 : (pErr b) = (0 : Int) := bneF hb
                    clear hb
                    refine At.keep [0, 1, 7, 9] ?_; show At _ _ _ [(0, .string (mkS a)), (1, .string (mkS b)), (7, .slice a1002 ((pList a).length) n1003), (9, .slice a1010 ((pList b).length) n1011)] _
                    refine At.reg (L := [(0, false), (1, false), (2, false), (3, false), (4, false), (5, false), (6, false), (7, false), (8, false), (9, false), (10, false), (11, false), (12, false), (13, false), (14, false), (15, false), (16, false), (17, false), (18, false), (19, false)]) (by kernel_rfl) ?_
                    refine Op.pures 2 [7, 9, 75, 76] (L' := [(2, false), (3, false), (4, false), (5, false), (6, false), (7, false), (8, false), (9, false), (10, false), (11, false), (12, false), (13, false), (14, false), (15, false), (16, false), (17, false), (18, false), (19, false)]) (e' := [(7, .slice a1002 ((pList a).length) n1003), (9, .slice a1010 ((pList b).length) n1011), (75, .string (mkS a)), (76, .string (mkS b))]) (by kernel_rfl) ?_
                    refine Op.call0 (dst := some 77) (f := 40) (args := #[.string (mkS a), .string (mkS b)]) (by kernel_rfl) s1007 (withinP _ _ _ s1007.sub hG a b (by first | omega | (have := w_len (a := a) (b := b) (by assumption); have := pList_len a; have := pList_len b; omega) | (have := pList_len a; simp only [List.length_take]; omega) | (have := pList_len a; omega)) (by first | omega | (have := w_len (a := a) (b := b) (by assumption); have := pList_len a; have := pList_len b; omega) | (have := pList_len a; simp only [List.length_take]; omega) | (have := pList_len a; omega))) ?_
                    rintro _ g1040 _ h1038 hle1041 s1039 ⟨rfl, hgg, rfl⟩; subst g1040; clear hle1041
                    refine Op.pures 2 [7, 9, 79] (L' := [(5, false), (6, false), (7, false), (8, false), (9, false), (10, false), (11, false), (12, false), (13, false), (14, false), (15, false), (16, false), (17, false), (18, false), (19, false)]) (e' := [(7, .slice a1002 ((pList a).length) n1003), (9, .slice a1010 ((pList b).length) n1011), (79, .bool (!(withinB a b)))]) (by kernel_rfl) ?_
                    refine Op.ways (b := !(withinB a b)) ⟨fun hb => ?_, fun hb => ?_⟩
                    · refine Op.cast (e' := [(7, .slice a1002 ((pList a).length) n1003), (9, .slice a1010 ((pList b).length) n1011), (79, .bool true)]) (by rw [hb]) ?_
                      have c1042 : (withinB a b) = false := (notT hb)
                      clear hb
                      refine Op.pures 15 [6] (L' := []) (e' := [(6, .bool true)]) (by kernel_rfl) ?_
                      refine Op.goto 24 (by kernel_rfl) ?_
                      refine At.ret (f := Tryd.f12) (v := .bool true) (by kernel_rfl) (by kernel_rfl) ?_
                      refine hR _ _ _ _ s1039.fin ⟨?_, rfl, rfl⟩
                      exact (eqB (by first | rfl | contradiction | exact absurd (w_trans (by assumption) (by assumption)) (Bool.eq_false_iff.1 c1042) | exact absurd (w_anti (by assumption) (by assumption)) c1042 | exact absurd (w_ok (by assumption)).1 (by assumption) | exact absurd (w_ok (by assumption)).2.1 (by assumption) | exact absurd (w_len (by assumption)) c1042 | exact decide_eq_true (w_take (by assumption)) | (rw [← within_n1 (by assumption)]; rfl) | (rw [← within_n2 (by assumption)]; rfl)))
                    · refine Op.cast (e' := [(7, .slice a1002 ((pList a).length) n1003), (9, .slice a1010 ((pList b).length) n1011), (79, .bool false)]) (by rw [hb]) ?_
                      have c1043 : (withinB a b) = true := (notF hb)
                      clear hb
                      refine Op.pures 6 [7, 9, 79, 85] (L' := [(11, false), (12, false), (13, false), (14, false), (15, false), (16, false), (17, false), (18, false), (19, false)]) (e' := [(7, .slice a1002 ((pList a).length) n1003), (9, .slice a1010 ((pList b).length) n1011), (79, .bool false), (85, .bool (decide (((pList a).length : Int) ≥ ((pList b).length : Int))))]) (by kernel_rfl) ?_
                      refine Op.ways (b := decide (((pList a).length : Int) ≥ ((pList b).length : Int))) ⟨fun hb => ?_, fun hb => ?_⟩
                      · refine Op.cast (e' := [(7, .slice a1002 ((pList a).length) n1003), (9, .slice a1010 ((pList b).length) n1011), (79, .bool false), (85, .bool true)]) (by rw [hb]) ?_
                        have c1044 : ((pList a).length : Int) ≥ ((pList b).length : Int) := of_decide_eq_true hb
                        clear hb
                        refine Op.pures 3 [9, 79, 85, 86, 88] (L' := [(14, false), (15, false), (16, false), (17, false), (18, false), (19, false)]) (e' := [(9, .slice a1010 ((pList b).length) n1011), (79, .bool false), (85, .bool true), (86, .slice a1002 ((pList a).length) n1003), (88, .int .i64 ((pList b).length : Int))]) (by kernel_rfl) ?_
                        refine Op.slHiD (T := 37) (E := 9) (by_ := 16) (x := (.tmp 86)) (ao := a1002) (n := ((pList a).length)) (c := n1003) (dst := 89) (d := kStr) (hi := (.tmp 88)) (k := .i64) (m := ((pList b).length : Int)) (by kernel_rfl) (by kernel_rfl) (by kernel_rfl) (by kernel_rfl) hr1001 (by first | omega | (have := w_len (a := a) (b := b) (by assumption); have := pList_len a; have := pList_len b; omega) | (have := pList_len a; simp only [List.length_take]; omega) | (have := pList_len a; omega)) (by first | omega | (have := w_len (a := a) (b := b) (by assumption); have := pList_len a; have := pList_len b; omega) | (have := pList_len a; simp only [List.length_take]; omega) | (have := pList_len a; omega)) ?_
                        intro v1045 hr1046
                        obtain ⟨a1047, n1048, rfl⟩ := hr1046.form
                        refine Op.pures 1 [79, 85, 89, 90] (L' := [(16, false), (17, false), (18, false), (19, false)]) (e' := [(79, .bool false), (85, .bool true), (89, .slice a1047 (((pList a).take (((pList b).length : Int) : Int).toNat).length) n1048), (90, .slice a1010 ((pList b).length) n1011)]) (by kernel_rfl) ?_
                        refine Op.call0 (dst := some 91) (f := 26) (args := #[.slice a1047 (((pList a).take (((pList b).length : Int) : Int).toNat).length) n1048, .slice a1010 ((pList b).length) n1011]) (by kernel_rfl) s1039 (sameTexts _ _ _ s1039.sub hG _ _ hr1046 _ _ hr1009 (by first | omega | (have := w_len (a := a) (b := b) (by assumption); have := pList_len a; have := pList_len b; omega) | (have := pList_len a; simp only [List.length_take]; omega) | (have := pList_len a; omega))) ?_
                        rintro _ g1051 _ h1049 hle1052 s1050 ⟨rfl, hgg, rfl⟩; subst g1051; clear hle1052
                        refine Op.pures 3 [6] (L' := []) (e' := [(6, .bool (decide (((pList a).take (((pList b).length : Int) : Int).toNat) = (pList b))))]) (by kernel_rfl) ?_
                        refine Op.goto 24 (by kernel_rfl) ?_
                        refine At.ret (f := Tryd.f12) (v := .bool (decide (((pList a).take (((pList b).length : Int) : Int).toNat) = (pList b)))) (by kernel_rfl) (by kernel_rfl) ?_
                        refine hR _ _ _ _ s1050.fin ⟨?_, rfl, rfl⟩
                        exact (eqB (by first | rfl | contradiction | exact absurd (w_trans (by assumption) (by assumption)) (Bool.eq_false_iff.1 c1044) | exact absurd (w_anti (by assumption) (by assumption)) c1044 | exact absurd (w_ok (by assumption)).1 (by assumption) | exact absurd (w_ok (by assumption)).2.1 (by assumption) | exact absurd (w_len (by assumption)) c1044 | exact decide_eq_true (w_take (by assumption)) | (rw [← within_n1 (by assumption)]; rfl) | (rw [← within_n2 (by assumption)]; rfl)))
                      · refine Op.cast (e' := [(7, .slice a1002 ((pList a).length) n1003), (9, .slice a1010 ((pList b).length) n1011), (79, .bool false), (85, .bool false)]) (by rw [hb]) ?_
                        have c1053 : ¬ (((pList a).length : Int) ≥ ((pList b).length : Int)) := of_decide_eq_false hb
                        clear hb
                        refine Op.pures 9 [6] (L' := []) (e' := [(6, .bool false)]) (by kernel_rfl) ?_
                        refine Op.goto 24 (by kernel_rfl) ?_
                        refine At.ret (f := Tryd.f12) (v := .bool false) (by kernel_rfl) (by kernel_rfl) ?_
                        refine hR _ _ _ _ s1039.fin ⟨?_, rfl, rfl⟩
                        exact (eqB (by first | rfl | contradiction | exact absurd (w_trans (by assumption) (by assumption)) (Bool.eq_false_iff.1 c1053) | exact absurd (w_anti (by assumption) (by assumption)) c1053 | exact absurd (w_ok (by assumption)).1 (by assumption) | exact absurd (w_ok (by assumption)).2.1 (by assumption) | exact absurd (w_len (by assumption)) c1053 | exact decide_eq_true (w_take (by assumption)) | (rw [← within_n1 (by assumption)]; rfl) | (rw [← within_n2 (by assumption)]; rfl)))
            · refine Op.cast (e' := [(0, .string (mkS a)), (1, .string (mkS b)), (44, .bool false)]) (by rw [hb]) ?_
              have c1054 : (withinB b a) = false := hb
              clear hb
              refine Op.pures 4 [0, 1, 48] (L' := []) (e' := [(0, .string (mkS a)), (1, .string (mkS b)), (48, .bool false)]) (by kernel_rfl) ?_
              refine Op.goto 14 (by kernel_rfl) ?_
              refine At.condF (c := .tmp 48) (by kernel_rfl) (by kernel_rfl) (by kernel_rfl) 17 (by kernel_rfl) ?_
              refine At.reg (L := [(0, false), (1, false), (2, false), (3, false), (4, false), (5, false), (6, false)]) (by kernel_rfl) ?_
              refine Op.pures 1 [0, 1, 50] (L' := [(1, false), (2, false), (3, false), (4, false), (5, false), (6, false)]) (e' := [(0, .string (mkS a)), (1, .string (mkS b)), (50, .string (mkS a))]) (by kernel_rfl) ?_
              refine Op.call0 (dst := some 51) (f := 42) (args := #[.string (mkS a)]) (by kernel_rfl) s992 (partsP _ _ _ s992.sub hG a (by first | omega | (have := w_len (a := a) (b := b) (by assumption); have := pList_len a; have := pList_len b; omega) | (have := pList_len a; simp only [List.length_take]; omega) | (have := pList_len a; omega))) ?_
              rintro _ g1061 _ h1055 hle1062 s1056 ⟨v1057, rfl, hr1058, rfl⟩
              obtain ⟨a1059, n1060, rfl⟩ := hr1058.form
              replace hG := hG.mono hle1062
              replace hP := hP.mono hle1062
              refine Op.pures 5 [0, 1, 7, 8] (L' := []) (e' := [(0, .string (mkS a)), (1, .string (mkS b)), (7, .slice a1059 ((pList a).length) n1060), (8, .int .i64 (pErr a))]) (by kernel_rfl) ?_
              refine Op.goto 18 (by kernel_rfl) ?_
              refine At.reg (L := [(0, false), (1, false), (2, false), (3, false), (4, false), (5, false), (6, false)]) (by kernel_rfl) ?_
              refine Op.pures 1 [0, 1, 7, 8, 55] (L' := [(1, false), (2, false), (3, false), (4, false), (5, false), (6, false)]) (e' := [(0, .string (mkS a)), (1, .string (mkS b)), (7, .slice a1059 ((pList a).length) n1060), (8, .int .i64 (pErr a)), (55, .string (mkS b))]) (by kernel_rfl) ?_
              refine Op.call0 (dst := some 56) (f := 42) (args := #[.string (mkS b)]) (by kernel_rfl) s1056 (partsP _ _ _ s1056.sub hG b (by first | omega | (have := w_len (a := a) (b := b) (by assumption); have := pList_len a; have := pList_len b; omega) | (have := pList_len a; simp only [List.length_take]; omega) | (have := pList_len a; omega))) ?_
              rintro _ g1069 _ h1063 hle1070 s1064 ⟨v1065, rfl, hr1066, rfl⟩
              obtain ⟨a1067, n1068, rfl⟩ := hr1066.form
              replace hG := hG.mono hle1070
              replace hP := hP.mono hle1070
              replace hr1058 := hr1058.mono hle1070
              refine Op.pures 5 [0, 1, 7, 8, 9, 10] (L' := []) (e' := [(0, .string (mkS a)), (1, .string (mkS b)), (7, .slice a1059 ((pList a).length) n1060), (8, .int .i64 (pErr a)), (9, .slice a1067 ((pList b).length) n1068), (10, .int .i64 (pErr b))]) (by kernel_rfl) ?_
              refine Op.goto 19 (by kernel_rfl) ?_
              refine At.reg (L := [(0, false), (1, false), (2, false), (3, false), (4, false), (5, false)]) (by kernel_rfl) ?_
              refine Op.pures 3 [0, 1, 7, 9, 10, 61] (L' := [(3, false), (4, false), (5, false)]) (e' := [(0, .string (mkS a)), (1, .string (mkS b)), (7, .slice a1059 ((pList a).length) n1060), (9, .slice a1067 ((pList b).length) n1068), (10, .int .i64 (pErr b)), (61, .bool ((pErr a) != (0 : Int)))]) (by kernel_rfl) ?_
              refine Op.ways (b := (pErr a) != (0 : Int)) ⟨fun hb => ?_, fun hb => ?_⟩
              · refine Op.cast (e' := [(0, .string (mkS a)), (1, .string (mkS b)), (7, .slice a1059 ((pList a).length) n1060), (9, .slice a1067 ((pList b).length) n1068), (10, .int .i64 (pErr b)), (61, .bool true)]) (by rw [hb]) ?_
                have c1071 : ¬ ((pErr a) = (0 : Int)) := bneT hb
                clear hb
                refine Op.pures 3 [0, 1, 7, 9, 64] (L' := []) (e' := [(0, .string (mkS a)), (1, .string (mkS b)), (7, .slice a1059 ((pList a).length) n1060), (9, .slice a1067 ((pList b).length) n1068), (64, .bool true)]) (by kernel_rfl) ?_
                refine Op.goto 20 (by kernel_rfl) ?_
                refine At.condT (c := .tmp 64) (by kernel_rfl) (by kernel_rfl) (by kernel_rfl) 21 (by kernel_rfl) ?_
                refine At.reg (L := [(0, false), (1, false), (2, false), (3, false), (4, false), (5, false), (6, false), (7, false), (8, false), (9, false), (10, false)]) (by kernel_rfl) ?_
                refine Op.pures 2 [0, 1, 65, 66] (L' := [(2, false), (3, false), (4, false), (5, false), (6, false), (7, false), (8, false), (9, false), (10, false)]) (e' := [(0, .string (mkS a)), (1, .string (mkS b)), (65, .string (mkS a)), (66, .string (mkS b))]) (by kernel_rfl) ?_
                refine Op.call0 (dst := some 67) (f := 40) (args := #[.string (mkS a), .string (mkS b)]) (by kernel_rfl) s1064 (withinP _ _ _ s1064.sub hG a b (by first | omega | (have := w_len (a := a) (b := b) (by assumption); have := pList_len a; have := pList_len b; omega) | (have := pList_len a; simp only [List.length_take]; omega) | (have := pList_len a; omega)) (by first | omega | (have := w_len (a := a) (b := b) (by assumption); have := pList_len a; have := pList_len b; omega) | (have := pList_len a; simp only [List.length_take]; omega) | (have := pList_len a; omega))) ?_
                rintro _ g1074 _ h1072 hle1075 s1073 ⟨rfl, hgg, rfl⟩; subst g1074; clear hle1075
                refine Op.pures 2 [0, 1, 69] (L' := [(5, false), (6, false), (7, false), (8, false), (9, false), (10, false)]) (e' := [(0, .string (mkS a)), (1, .string (mkS b)), (69, .bool (!(withinB a b)))]) (by kernel_rfl) ?_
                refine Op.ways (b := !(withinB a b)) ⟨fun hb => ?_, fun hb => ?_⟩
                · refine Op.cast (e' := [(0, .string (mkS a)), (1, .string (mkS b)), (69, .bool true)]) (by rw [hb]) ?_
                  have c1076 : (withinB a b) = false := (notT hb)
                  clear hb
                  refine Op.pures 2 [69, 70, 71] (L' := [(7, false), (8, false), (9, false), (10, false)]) (e' := [(69, .bool true), (70, .string (mkS b)), (71, .string (mkS a))]) (by kernel_rfl) ?_
                  refine Op.call0 (dst := some 72) (f := 40) (args := #[.string (mkS b), .string (mkS a)]) (by kernel_rfl) s1073 (withinP _ _ _ s1073.sub hG b a (by first | omega | (have := w_len (a := a) (b := b) (by assumption); have := pList_len a; have := pList_len b; omega) | (have := pList_len a; simp only [List.length_take]; omega) | (have := pList_len a; omega)) (by first | omega | (have := w_len (a := a) (b := b) (by assumption); have := pList_len a; have := pList_len b; omega) | (have := pList_len a; simp only [List.length_take]; omega) | (have := pList_len a; omega))) ?_
                  rintro _ g1079 _ h1077 hle1080 s1078 ⟨rfl, hgg, rfl⟩; subst g1079; clear hle1080
                  refine Op.pures 3 [6] (L' := []) (e' := [(6, .bool (!(withinB b a)))]) (by kernel_rfl) ?_
                  refine Op.goto 22 (by kernel_rfl) ?_
                  refine At.ret (f := Tryd.f12) (v := .bool (!(withinB b a))) (by kernel_rfl) (by kernel_rfl) ?_
                  refine hR _ _ _ _ s1078.fin ⟨?_, rfl, rfl⟩
                  exact (eqB (by first | rfl | contradiction | exact absurd (w_trans (by assumption) (by assumption)) (Bool.eq_false_iff.1 c1076) | exact absurd (w_anti (by assumption) (by assumption)) c1076 | exact absurd (w_ok (by assumption)).1 (by assumption) | exact absurd (w_ok (by assumption)).2.1 (by assumption) | exact absurd (w_len (by assumption)) c1076 | exact decide_eq_true (w_take (by assumption)) | (rw [← within_n1 (by assumption)]; rfl) | (rw [← within_n2 (by assumption)]; rfl)))
                · refine Op.cast (e' := [(0, .string (mkS a)), (1, .string (mkS b)), (69, .bool false)]) (by rw [hb]) ?_
                  have c1081 : (withinB a b) = true := (notF hb)
                  clear hb
                  refine Op.pures 6 [6] (L' := []) (e' := [(6, .bool false)]) (by kernel_rfl) ?_
                  refine Op.goto 22 (by kernel_rfl) ?_
                  refine At.ret (f := Tryd.f12) (v := .bool false) (by kernel_rfl) (by kernel_rfl) ?_
                  refine hR _ _ _ _ s1073.fin ⟨?_, rfl, rfl⟩
                  exact (eqB (by first | rfl | contradiction | exact absurd (w_trans (by assumption) (by assumption)) (Bool.eq_false_iff.1 c1081) | exact absurd (w_anti (by assumption) (by assumption)) c1081 | exact absurd (w_ok (by assumption)).1 (by assumption) | exact absurd (w_ok (by assumption)).2.1 (by assumption) | exact absurd (w_len (by assumption)) c1081 | exact decide_eq_true (w_take (by assumption)) | (rw [← within_n1 (by assumption)]; rfl) | (rw [← within_n2 (by assumption)]; rfl)))
              · refine Op.cast (e' := [(0, .string (mkS a)), (1, .string (mkS b)), (7, .slice a1059 ((pList a).length) n1060), (9, .slice a1067 ((pList b).length) n1068), (10, .int .i64 (pErr b)), (61, .bool false)]) (by rw [hb]) ?_
                have c1082 : (pErr a) = (0 : Int) := bneF hb
                clear hb
                refine Op.pures 3 [0, 1, 7, 9, 64] (L' := []) (e' := [(0, .string (mkS a)), (1, .string (mkS b)), (7, .slice a1059 ((pList a).length) n1060), (9, .slice a1067 ((pList b).length) n1068), (64, .bool ((pErr b) != (0 : Int)))]) (by kernel_rfl) ?_
                refine Op.goto 20 (by kernel_rfl) ?_
                refine At.cond (b := (pErr b) != (0 : Int)) (c := .tmp 64) (by kernel_rfl) (by kernel_rfl) (by kernel_rfl) 21 23 (by kernel_rfl) (by kernel_rfl) (fun hb => ?_) (fun hb => ?_)
                · have c1083 : ¬ ((pErr b) = (0 : Int)) := bneT hb
                  clear hb
                  refine At.keep [0, 1] ?_; show At _ _ _ [(0, .string (mkS a)), (1, .string (mkS b))] _
                  refine At.reg (L := [(0, false), (1, false), (2, false), (3, false), (4, false), (5, false), (6, false), (7, false), (8, false), (9, false), (10, false)]) (by kernel_rfl) ?_
                  refine Op.pures 2 [0, 1, 65, 66] (L' := [(2, false), (3, false), (4, false), (5, false), (6, false), (7, false), (8, false), (9, false), (10, false)]) (e' := [(0, .string (mkS a)), (1, .string (mkS b)), (65, .string (mkS a)), (66, .string (mkS b))]) (by kernel_rfl) ?_
                  refine Op.call0 (dst := some 67) (f := 40) (args := #[.string (mkS a), .string (mkS b)]) (by kernel_rfl) s1064 (withinP _ _ _ s1064.sub hG a b (by first | omega | (have := w_len (a := a) (b := b) (by assumption); have := pList_len a; have := pList_len b; omega) | (have := pList_len a; simp only [List.length_take]; omega) | (have := pList_len a; omega)) (by first | omega | (have := w_len (a := a) (b := b) (by assumption); have := pList_len a; have := pList_len b; omega) | (have := pList_len a; simp only [List.length_take]; omega) | (have := pList_len a; omega))) ?_
                  rintro _ g1086 _ h1084 hle1087 s1085 ⟨rfl, hgg, rfl⟩; subst g1086; clear hle1087
                  refine Op.pures 2 [0, 1, 69] (L' := [(5, false), (6, false), (7, false), (8, false), (9, false), (10, false)]) (e' := [(0, .string (mkS a)), (1, .string (mkS b)), (69, .bool (!(withinB a b)))]) (by kernel_rfl) ?_
                  refine Op.ways (b := !(withinB a b)) ⟨fun hb => ?_, fun hb => ?_⟩
                  · refine Op.cast (e' := [(0, .string (mkS a)), (1, .string (mkS b)), (69, .bool true)]) (by rw [hb]) ?_
                    have c1088 : (withinB a b) = false := (notT hb)
                    clear hb
                    refine Op.pures 2 [69, 70, 71] (L' := [(7, false), (8, false), (9, false), (10, false)]) (e' := [(69, .bool true), (70, .string (mkS b)), (71, .string (mkS a))]) (by kernel_rfl) ?_
                    refine Op.call0 (dst := some 72) (f := 40) (args := #[.string (mkS b), .string (mkS a)]) (by kernel_rfl) s1085 (withinP _ _ _ s1085.sub hG b a (by first | omega | (have := w_len (a := a) (b := b) (by assumption); have := pList_len a; have := pList_len b; omega) | (have := pList_len a; simp only [List.length_take]; omega) | (have := pList_len a; omega)) (by first | omega | (have := w_len (a := a) (b := b) (by assumption); have := pList_len a; have := pList_len b; omega) | (have := pList_len a; simp only [List.length_take]; omega) | (have := pList_len a; omega))) ?_
                    rintro _ g1091 _ h1089 hle1092 s1090 ⟨rfl, hgg, rfl⟩; subst g1091; clear hle1092
                    refine Op.pures 3 [6] (L' := []) (e' := [(6, .bool (!(withinB b a)))]) (by kernel_rfl) ?_
                    refine Op.goto 22 (by kernel_rfl) ?_
                    refine At.ret (f := Tryd.f12) (v := .bool (!(withinB b a))) (by kernel_rfl) (by kernel_rfl) ?_
                    refine hR _ _ _ _ s1090.fin ⟨?_, rfl, rfl⟩
                    exact (eqB (by first | rfl | contradiction | exact absurd (w_trans (by assumption) (by assumption)) (Bool.eq_false_iff.1 c1088) | exact absurd (w_anti (by assumption) (by assumption)) c1088 | exact absurd (w_ok (by assumption)).1 (by assumption) | exact absurd (w_ok (by assumption)).2.1 (by assumption) | exact absurd (w_len (by assumption)) c1088 | exact decide_eq_true (w_take (by assumption)) | (rw [← within_n1 (by assumption)]; rfl) | (rw [← within_n2 (by assumption)]; rfl)))
                  · refine Op.cast (e' := [(0, .string (mkS a)), (1, .string (mkS b)), (69, .bool false)]) (by rw [hb]) ?_
                    have c1093 : (withinB a b) = true := (notF hb)
                    clear hb
                    refine Op.pures 6 [6] (L' := []) (e' := [(6, .bool false)]) (by kernel_rfl) ?_
                    refine Op.goto 22 (by kernel_rfl) ?_
                    refine At.ret (f := Tryd.f12) (v := .bool false) (by kernel_rfl) (by kernel_rfl) ?_
                    refine hR _ _ _ _ s1085.fin ⟨?_, rfl, rfl⟩
                    exact (eqB (by first | rfl | contradiction | exact absurd (w_trans (by assumption) (by assumption)) (Bool.eq_false_iff.1 c1093) | exact absurd (w_anti (by assumption) (by assumption)) c1093 | exact absurd (w_ok (by assumption)).1 (by assumption) | exact absurd (w_ok (by assumption)).2.1 (by assumption) | exact absurd (w_len (by assumption)) c1093 | exact decide_eq_true (w_take (by assumption)) | (rw [← within_n1 (by assumption)]; rfl) | (rw [← within_n2 (by assumption)]; rfl)))
                · have c1094 : (pErr b) = (0 : Int) := bneF hb
                  clear hb
                  refine At.keep [0, 1, 7, 9] ?_; show At _ _ _ [(0, .string (mkS a)), (1, .string (mkS b)), (7, .slice a1059 ((pList a).length) n1060), (9, .slice a1067 ((pList b).length) n1068)] _
                  refine At.reg (L := [(0, false), (1, false), (2, false), (3, false), (4, false), (5, false), (6, false), (7, false), (8, false), (9, false), (10, false), (11, false), (12, false), (13, false), (14, false), (15, false), (16, false), (17, false), (18, false), (19, false)]) (by kernel_rfl) ?_
                  refine Op.pures 2 [7, 9, 75, 76] (L' := [(2, false), (3, false), (4, false), (5, false), (6, false), (7, false), (8, false), (9, false), (10, false), (11, false), (12, false), (13, false), (14, false), (15, false), (16, false), (17, false), (18, false), (19, false)]) (e' := [(7, .slice a1059 ((pList a).length) n1060), (9, .slice a1067 ((pList b).length) n1068), (75, .string (mkS a)), (76, .string (mkS b))]) (by kernel_rfl) ?_
                  refine Op.call0 (dst := some 77) (f := 40) (args := #[.string (mkS a), .string (mkS b)]) (by kernel_rfl) s1064 (withinP _ _ _ s1064.sub hG a b (by first | omega | (have := w_len (a := a) (b := b) (by assumption); have := pList_len a; have := pList_len b; omega) | (have := pList_len a; simp only [List.length_take]; omega) | (have := pList_len a; omega)) (by first | omega | (have := w_len (a := a) (b := b) (by assumption); have := pList_len a; have := pList_len b; omega) | (have := pList_len a; simp only [List.length_take]; omega) | (have := pList_len a; omega))) ?_
                  rintro _ g1097 _ h1095 hle1098 s1096 ⟨rfl, hgg, rfl⟩; subst g1097; clear hle1098
                  refine Op.pures 2 [7, 9, 79] (L' := [(5, false), (6, false), (7, false), (8, false), (9, false), (10, false), (11, false), (12, false), (13, false), (14, false), (15, false), (16, false), (17, false), (18, false), (19, false)]) (e' := [(7, .slice a1059 ((pList a).length) n1060), (9, .slice a1067 ((pList b).length) n1068), (79, .bool (!(withinB a b)))]) (by kernel_rfl) ?_
                  refine Op.ways (b := !(withinB a b)) ⟨fun hb => ?_, fun hb => ?_⟩
                  · refine Op.cast (e' := [(7, .slice a1059 ((pList a).length) n1060), (9, .slice a1067 ((pList b).length) n1068), (79, .bool true)]) (by rw [hb]) ?_
                    have c1099 : (withinB a b) = false := (notT hb)
                    clear hb
                    refine Op.pures 15 [6] (L' := []) (e' := [(6, .bool true)]) (by kernel_rfl) ?_
                    refine Op.goto 24 (by kernel_rfl) ?_
                    refine At.ret (f := Tryd.f12) (v := .bool true) (by kernel_rfl) (by kernel_rfl) ?_
                    refine hR _ _ _ _ s1096.fin ⟨?_, rfl, rfl⟩
                    exact (eqB (by first | rfl | contradiction | exact absurd (w_trans (by assumption) (by assumption)) (Bool.eq_false_iff.1 c1099) | exact absurd (w_anti (by assumption) (by assumption)) c1099 | exact absurd (w_ok (by assumption)).1 (by assumption) | exact absurd (w_ok (by assumption)).2.1 (by assumption) | exact absurd (w_len (by assumption)) c1099 | exact decide_eq_true (w_take (by assumption)) | (rw [← within_n1 (by assumption)]; rfl) | (rw [← within_n2 (by assumption)]; rfl)))
                  · refine Op.cast (e' := [(7, .slice a1059 ((pList a).length) n1060), (9, .slice a1067 ((pList b).length) n1068), (79, .bool false)]) (by rw [hb]) ?_
                    have c1100 : (withinB a b) = true := (notF hb)
                    clear hb
                    refine Op.pures 6 [7, 9, 79, 85] (L' := [(11, false), (12, false), (13, false), (14, false), (15, false), (16, false), (17, false), (18, false), (19, false)]) (e' := [(7, .slice a1059 ((pList a).length) n1060), (9, .slice a1067 ((pList b).length) n1068), (79, .bool false), (85, .bool (decide (((pList a).length : Int) ≥ ((pList b).length : Int))))]) (by kernel_rfl) ?_
                    refine Op.ways (b := decide (((pList a).length : Int) ≥ ((pList b).length : Int))) ⟨fun hb => ?_, fun hb => ?_⟩
                    · refine Op.cast (e' := [(7, .slice a1059 ((pList a).length) n1060), (9, .slice a1067 ((pList b).length) n1068), (79, .bool false), (85, .bool true)]) (by rw [hb]) ?_
                      have c1101 : ((pList a).length : Int) ≥ ((pList b).length : Int) := of_decide_eq_true hb
                      clear hb
                      refine Op.pures 3 [9, 79, 85, 86, 88] (L' := [(14, false), (15, false), (16, false), (17, false), (18, false), (19, false)]) (e' := [(9, .slice a1067 ((pList b).length) n1068), (79, .bool false), (85, .bool true), (86, .slice a1059 ((pList a).length) n1060), (88, .int .i64 ((pList b).length : Int))]) (by kernel_rfl) ?_
                      refine Op.slHiD (T := 37) (E := 9) (by_ := 16) (x := (.tmp 86)) (ao := a1059) (n := ((pList a).length)) (c := n1060) (dst := 89) (d := kStr) (hi := (.tmp 88)) (k := .i64) (m := ((pList b).length : Int)) (by kernel_rfl) (by kernel_rfl) (by kernel_rfl) (by kernel_rfl) hr1058 (by first | omega | (have := w_len (a := a) (b := b) (by assumption); have := pList_len a; have := pList_len b; omega) | (have := pList_len a; simp only [List.length_take]; omega) | (have := pList_len a; omega)) (by first | omega | (have := w_len (a := a) (b := b) (by assumption); have := pList_len a; have := pList_len b; omega) | (have := pList_len a; simp only [List.length_take]; omega) | (have := pList_len a; omega)) ?_
                      intro v1102 hr1103
                      obtain ⟨a1104, n1105, rfl⟩ := hr1103.form
                      refine Op.pures 1 [79, 85, 89, 90] (L' := [(16, false), (17, false), (18, false), (19, false)]) (e' := [(79, .bool false), (85, .bool true), (89, .slice a1104 (((pList a).take (((pList b).length : Int) : Int).toNat).length) n1105), (90, .slice a1067 ((pList b).length) n1068)]) (by kernel_rfl) ?_
                      refine Op.call0 (dst := some 91) (f := 26) (args := #[.slice a1104 (((pList a).take (((pList b).length : Int) : Int).toNat).length) n1105, .slice a1067 ((pList b).length) n1068]) (by kernel_rfl) s1096 (sameTexts _ _ _ s1096.sub hG _ _ hr1103 _ _ hr1066 (by first | omega | (have := w_len (a := a) (b := b) (by assumption); have := pList_len a; have := pList_len b; omega) | (have := pList_len a; simp only [List.length_take]; omega) | (have := pList_len a; omega))) ?_
                      rintro _ g1108 _ h1106 hle1109 s1107 ⟨rfl, hgg, rfl⟩; subst g1108; clear hle1109
                      refine Op.pures 3 [6] (L' := []) (e' := [(6, .bool (decide (((pList a).take (((pList b).length : Int) : Int).toNat) = (pList b))))]) (by kernel_rfl) ?_
                      refine Op.goto 24 (by kernel_rfl) ?_
                      refine At.ret (f := Tryd.f12) (v := .bool (decide (((pList a).take (((pList b).length : Int) : Int).toNat) = (pList b)))) (by kernel_rfl) (by kernel_rfl) ?_
                      refine hR _ _ _ _ s1107.fin ⟨?_, rfl, rfl⟩
                      exact (eqB (by first | rfl | contradiction | exact absurd (w_trans (by assumption) (by assumption)) (Bool.eq_false_iff.1 c1101) | exact absurd (w_anti (by assumption) (by assumption)) c1101 | exact absurd (w_ok (by assumption)).1 (by assumption) | exact absurd (w_ok (by assumption)).2.1 (by assumption) | exact absurd (w_len (by assumption)) c1101 | exact decide_eq_true (w_take (by assumption)) | (rw [← within_n1 (by assumption)]; rfl) | (rw [← within_n2 (by assumption)]; rfl)))
                    · refine Op.cast (e' := [(7, .slice a1059 ((pList a).length) n1060), (9, .slice a1067 ((pList b).length) n1068), (79, .bool false), (85, .bool false)]) (by rw [hb]) ?_
                      have c1110 : ¬ (((pList a).length : Int) ≥ ((pList b).length : Int)) := of_decide_eq_false hb
                      clear hb
                      refine Op.pures 9 [6] (L' := []) (e' := [(6, .bool false)]) (by kernel_rfl) ?_
                      refine Op.goto 24 (by kernel_rfl) ?_
                      refine At.ret (f := Tryd.f12) (v := .bool false) (by kernel_rfl) (by kernel_rfl) ?_
                      refine hR _ _ _ _ s1096.fin ⟨?_, rfl, rfl⟩
                      exact (eqB (by first | rfl | contradiction | exact absurd (w_trans (by assumption) (by assumption)) (Bool.eq_false_iff.1 c1110) | exact absurd (w_anti (by assumption) (by assumption)) c1110 | exact absurd (w_ok (by assumption)).1 (by assumption) | exact absurd (w_ok (by assumption)).2.1 (by assumption) | exact absurd (w_len (by assumption)) c1110 | exact decide_eq_true (w_take (by assumption)) | (rw [← within_n1 (by assumption)]; rfl) | (rw [← within_n2 (by assumption)]; rfl)))
          · exact Bool.noConfusion (c974.symm.trans hb)
      · refine Op.cast (e' := [(0, .string (mkS a)), (1, .string (mkS b)), (2, .string (mkS c)), (30, .bool false)]) (by rw [hb]) ?_
        have c1111 : (withinB b c) = false := hb
        clear hb
        refine Op.pures 5 [0, 1, 35] (L' := []) (e' := [(0, .string (mkS a)), (1, .string (mkS b)), (35, .bool false)]) (by kernel_rfl) ?_
        refine Op.goto 10 (by kernel_rfl) ?_
        refine At.condF (c := .tmp 35) (by kernel_rfl) (by kernel_rfl) (by kernel_rfl) 13 (by kernel_rfl) ?_
        refine At.reg (L := [(0, false), (1, false), (2, false), (3, false), (4, false), (5, false), (6, false), (7, false), (8, false), (9, false), (10, false), (11, false), (12, false)]) (by kernel_rfl) ?_
        refine Op.pures 2 [0, 1, 36, 37] (L' := [(2, false), (3, false), (4, false), (5, false), (6, false), (7, false), (8, false), (9, false), (10, false), (11, false), (12, false)]) (e' := [(0, .string (mkS a)), (1, .string (mkS b)), (36, .string (mkS a)), (37, .string (mkS b))]) (by kernel_rfl) ?_
        refine Op.call0 (dst := some 38) (f := 40) (args := #[.string (mkS a), .string (mkS b)]) (by kernel_rfl) s976 (withinP _ _ _ s976.sub hG a b (by first | omega | (have := w_len (a := a) (b := b) (by assumption); have := pList_len a; have := pList_len b; omega) | (have := pList_len a; simp only [List.length_take]; omega) | (have := pList_len a; omega)) (by first | omega | (have := w_len (a := a) (b := b) (by assumption); have := pList_len a; have := pList_len b; omega) | (have := pList_len a; simp only [List.length_take]; omega) | (have := pList_len a; omega))) ?_
        rintro _ g1114 _ h1112 hle1115 s1113 ⟨rfl, hgg, rfl⟩; subst g1114; clear hle1115
        refine Op.pures 1 [0, 1, 39] (L' := [(4, false), (5, false), (6, false), (7, false), (8, false), (9, false), (10, false), (11, false), (12, false)]) (e' := [(0, .string (mkS a)), (1, .string (mkS b)), (39, .bool (withinB a b))]) (by kernel_rfl) ?_
        refine Op.ways (b := withinB a b) ⟨fun hb => ?_, fun hb => ?_⟩
        · refine Op.cast (e' := [(0, .string (mkS a)), (1, .string (mkS b)), (39, .bool true)]) (by rw [hb]) ?_
          have c1116 : (withinB a b) = true := hb
          clear hb
          refine Op.pures 2 [0, 1, 39, 40, 41] (L' := [(6, false), (7, false), (8, false), (9, false), (10, false), (11, false), (12, false)]) (e' := [(0, .string (mkS a)), (1, .string (mkS b)), (39, .bool true), (40, .string (mkS b)), (41, .string (mkS a))]) (by kernel_rfl) ?_
          refine Op.call0 (dst := some 42) (f := 40) (args := #[.string (mkS b), .string (mkS a)]) (by kernel_rfl) s1113 (withinP _ _ _ s1113.sub hG b a (by first | omega | (have := w_len (a := a) (b := b) (by assumption); have := pList_len a; have := pList_len b; omega) | (have := pList_len a; simp only [List.length_take]; omega) | (have := pList_len a; omega)) (by first | omega | (have := w_len (a := a) (b := b) (by assumption); have := pList_len a; have := pList_len b; omega) | (have := pList_len a; simp only [List.length_take]; omega) | (have := pList_len a; omega))) ?_
          rintro _ g1119 _ h1117 hle1120 s1118 ⟨rfl, hgg, rfl⟩; subst g1119; clear hle1120
          refine Op.pures 2 [0, 1, 44] (L' := [(9, false), (10, false), (11, false), (12, false)]) (e' := [(0, .string (mkS a)), (1, .string (mkS b)), (44, .bool (withinB b a))]) (by kernel_rfl) ?_
          refine Op.ways (b := withinB b a) ⟨fun hb => ?_, fun hb => ?_⟩
          · refine Op.cast (e' := [(0, .string (mkS a)), (1, .string (mkS b)), (44, .bool true)]) (by rw [hb]) ?_
            have c1121 : (withinB b a) = true := hb
            clear hb
            refine Op.pures 2 [0, 1, 44, 45, 46] (L' := [(11, false), (12, false)]) (e' := [(0, .string (mkS a)), (1, .string (mkS b)), (44, .bool true), (45, .string (mkS a)), (46, .string (mkS b))]) (by kernel_rfl) ?_
            refine Op.val (dst := some 47) (v := .bool (!((mkS a).toList == (mkS b).toList))) (v' := .bool (!(a == b))) (by kernel_rfl) (by rw [toList_mkS, toList_mkS]) ?_
            refine Op.pures 1 [0, 1, 48] (L' := []) (e' := [(0, .string (mkS a)), (1, .string (mkS b)), (48, .bool (!(a == b)))]) (by kernel_rfl) ?_
            refine Op.goto 14 (by kernel_rfl) ?_
            refine At.cond (b := !(a == b)) (c := .tmp 48) (by kernel_rfl) (by kernel_rfl) (by kernel_rfl) 15 17 (by kernel_rfl) (by kernel_rfl) (fun hb => ?_) (fun hb => ?_)
            · have c1122 : ¬ (a = b) := neF (notT hb)
              clear hb
              refine At.keep [] ?_; show At _ _ _ [] _
              refine At.reg (L := [(0, false)]) (by kernel_rfl) ?_
              refine Op.pures 1 [6] (L' := []) (e' := [(6, .bool false)]) (by kernel_rfl) ?_
              refine Op.goto 16 (by kernel_rfl) ?_
              refine At.ret (f := Tryd.f12) (v := .bool false) (by kernel_rfl) (by kernel_rfl) ?_
              refine hR _ _ _ _ s1118.fin ⟨?_, rfl, rfl⟩
              exact (eqB (by first | rfl | contradiction | exact absurd (w_trans (by assumption) (by assumption)) (Bool.eq_false_iff.1 c1122) | exact absurd (w_anti (by assumption) (by assumption)) c1122 | exact absurd (w_ok (by assumption)).1 (by assumption) | exact absurd (w_ok (by assumption)).2.1 (by assumption) | exact absurd (w_len (by assumption)) c1122 | exact decide_eq_true (w_take (by assumption)) | (rw [← within_n1 (by assumption)]; rfl) | (rw [← within_n2 (by assumption)]; rfl)))
            · have c1123 : a = b := eq_of_beq (notF hb)
              clear hb
              refine At.keep [0, 1] ?_; show At _ _ _ [(0, .string (mkS a)), (1, .string (mkS b))] _
              refine At.reg (L := [(0, false), (1, false), (2, false), (3, false), (4, false), (5, false), (6, false)]) (by kernel_rfl) ?_
              refine Op.pures 1 [0, 1, 50] (L' := [(1, false), (2, false), (3, false), (4, false), (5, false), (6, false)]) (e' := [(0, .string (mkS a)), (1, .string (mkS b)), (50, .string (mkS a))]) (by kernel_rfl) ?_
              refine Op.call0 (dst := some 51) (f := 42) (args := #[.string (mkS a)]) (by kernel_rfl) s1118 (partsP _ _ _ s1118.sub hG a (by first | omega | (have := w_len (a := a) (b := b) (by assumption); have := pList_len a; have := pList_len b; omega) | (have := pList_len a; simp only [List.length_take]; omega) | (have := pList_len a; omega))) ?_
              rintro _ g1130 _ h1124 hle1131 s1125 ⟨v1126, rfl, hr1127, rfl⟩
              obtain ⟨a1128, n1129, rfl⟩ := hr1127.form
              replace hG := hG.mono hle1131
              replace hP := hP.mono hle1131
              refine Op.pures 5 [0, 1, 7, 8] (L' := []) (e' := [(0, .string (mkS a)), (1, .string (mkS b)), (7, .slice a1128 ((pList a).length) n1129), (8, .int .i64 (pErr a))]) (by kernel_rfl) ?_
              refine Op.goto 18 (by kernel_rfl) ?_
              refine At.reg (L := [(0, false), (1, false), (2, false), (3, false), (4, false), (5, false), (6, false)]) (by kernel_rfl) ?_
              refine Op.pures 1 [0, 1, 7, 8, 55] (L' := [(1, false), (2, false), (3, false), (4, false), (5, false), (6, false)]) (e' := [(0, .string (mkS a)), (1, .string (mkS b)), (7, .slice a1128 ((pList a).length) n1129), (8, .int .i64 (pErr a)), (55, .string (mkS b))]) (by kernel_rfl) ?_
              refine Op.call0 (dst := some 56) (f := 42) (args := #[.string (mkS b)]) (by kernel_rfl) s1125 (partsP _ _ _ s1125.sub hG b (by first | omega | (have := w_len (a := a) (b := b) (by assumption); have := pList_len a; have := pList_len b; omega) | (have := pList_len a; simp only [List.length_take]; omega) | (have := pList_len a; omega))) ?_
              rintro _ g1138 _ h1132 hle1139 s1133 ⟨v1134, rfl, hr1135, rfl⟩
              obtain ⟨a1136, n1137, rfl⟩ := hr1135.form
              replace hG := hG.mono hle1139
              replace hP := hP.mono hle1139
              replace hr1127 := hr1127.mono hle1139
              refine Op.pures 5 [0, 1, 7, 8, 9, 10] (L' := []) (e' := [(0, .string (mkS a)), (1, .string (mkS b)), (7, .slice a1128 ((pList a).length) n1129), (8, .int .i64 (pErr a)), (9, .slice a1136 ((pList b).length) n1137), (10, .int .i64 (pErr b))]) (by kernel_rfl) ?_
              refine Op.goto 19 (by kernel_rfl) ?_
              refine At.reg (L := [(0, false), (1, false), (2, false), (3, false), (4, false), (5, false)]) (by kernel_rfl) ?_
              refine Op.pures 3 [0, 1, 7, 9, 10, 61] (L' := [(3, false), (4, false), (5, false)]) (e' := [(0, .string (mkS a)), (1, .string (mkS b)), (7, .slice a1128 ((pList a).length) n1129), (9, .slice a1136 ((pList b).length) n1137), (10, .int .i64 (pErr b)), (61, .bool ((pErr a) != (0 : Int)))]) (by kernel_rfl) ?_
              refine Op.ways (b := (pErr a) != (0 : Int)) ⟨fun hb => ?_, fun hb => ?_⟩
              · refine Op.cast (e' := [(0, .string (mkS a)), (1, .string (mkS b)), (7, .slice a1128 ((pList a).length) n1129), (9, .slice a1136 ((pList b).length) n1137), (10, .int .i64 (pErr b)), (61, .bool true)]) (by rw [hb]) ?_
                have c1140 : ¬ ((pErr a) = (0 : Int)) := bneT hb
                clear hb
                refine Op.pures 3 [0, 1, 7, 9, 64] (L' := []) (e' := [(0, .string (mkS a)), (1, .string (mkS b)), (7, .slice a1128 ((pList a).length) n1129), (9, .slice a1136 ((pList b).length) n1137), (64, .bool true)]) (by kernel_rfl) ?_
                refine Op.goto 20 (by kernel_rfl) ?_
                refine At.condT (c := .tmp 64) (by kernel_rfl) (by kernel_rfl) (by kernel_rfl) 21 (by kernel_rfl) ?_
                refine At.reg (L := [(0, false), (1, false), (2, false), (3, false), (4, false), (5, false), (6, false), (7, false), (8, false), (9, false), (10, false)]) (by kernel_rfl) ?_
                refine Op.pures 2 [0, 1, 65, 66] (L' := [(2, false), (3, false), (4, false), (5, false), (6, false), (7, false), (8, false), (9, false), (10, false)]) (e' := [(0, .string (mkS a)), (1, .string (mkS b)), (65, .string (mkS a)), (66, .string (mkS b))]) (by kernel_rfl) ?_
                refine Op.call0 (dst := some 67) (f := 40) (args := #[.string (mkS a), .string (mkS b)]) (by kernel_rfl) s1133 (withinP _ _ _ s1133.sub hG a b (by first | omega | (have := w_len (a := a) (b := b) (by assumption); have := pList_len a; have := pList_len b; omega) | (have := pList_len a; simp only [List.length_take]; omega) | (have := pList_len a; omega)) (by first | omega | (have := w_len (a := a) (b := b) (by assumption); have := pList_len a; have := pList_len b; omega) | (have := pList_len a; simp only [List.length_take]; omega) | (have := pList_len a; omega))) ?_
                rintro _ g1143 _ h1141 hle1144 s1142 ⟨rfl, hgg, rfl⟩; subst g1143; clear hle1144
                refine Op.pures 2 [0, 1, 69] (L' := [(5, false), (6, false), (7, false), (8, false), (9, false), (10, false)]) (e' := [(0, .string (mkS a)), (1, .string (mkS b)), (69, .bool (!(withinB a b)))]) (by kernel_rfl) ?_
                refine Op.ways (b := !(withinB a b)) ⟨fun hb => ?_, fun hb => ?_⟩
                · refine Op.cast (e' := [(0, .string (mkS a)), (1, .string (mkS b)), (69, .bool true)]) (by rw [hb]) ?_
                  have c1145 : (withinB a b) = false := (notT hb)
                  clear hb
                  refine Op.pures 2 [69, 70, 71] (L' := [(7, false), (8, false), (9, false), (10, false)]) (e' := [(69, .bool true), (70, .string (mkS b)), (71, .string (mkS a))]) (by kernel_rfl) ?_
                  refine Op.call0 (dst := some 72) (f := 40) (args := #[.string (mkS b), .string (mkS a)]) (by kernel_rfl) s1142 (withinP _ _ _ s1142.sub hG b a (by first | omega | (have := w_len (a := a) (b := b) (by assumption); have := pList_len a; have := pList_len b; omega) | (have := pList_len a; simp only [List.length_take]; omega) | (have := pList_len a; omega)) (by first | omega | (have := w_len (a := a) (b := b) (by assumption); have := pList_len a; have := pList_len b; omega) | (have := pList_len a; simp only [List.length_take]; omega) | (have := pList_len a; omega))) ?_
                  rintro _ g1148 _ h1146 hle1149 s1147 ⟨rfl, hgg, rfl⟩; subst g1148; clear hle1149
                  refine Op.pures 3 [6] (L' := []) (e' := [(6, .bool (!(withinB b a)))]) (by kernel_rfl) ?_
                  refine Op.goto 22 (by kernel_rfl) ?_
                  refine At.ret (f := Tryd.f12) (v := .bool (!(withinB b a))) (by kernel_rfl) (by kernel_rfl) ?_
                  refine hR _ _ _ _ s1147.fin ⟨?_, rfl, rfl⟩
                  exact (eqB (by first | rfl | contradiction | exact absurd (w_trans (by assumption) (by assumption)) (Bool.eq_false_iff.1 c1145) | exact absurd (w_anti (by assumption) (by assumption)) c1145 | exact absurd (w_ok (by assumption)).1 (by assumption) | exact absurd (w_ok (by assumption)).2.1 (by assumption) | exact absurd (w_len (by assumption)) c1145 | exact decide_eq_true (w_take (by assumption)) | (rw [← within_n1 (by assumption)]; rfl) | (rw [← within_n2 (by assumption)]; rfl)))
                · refine Op.cast (e' := [(0, .string (mkS a)), (1, .string (mkS b)), (69, .bool false)]) (by rw [hb]) ?_
                  have c1150 : (withinB a b) = true := (notF hb)
                  clear hb
                  refine Op.pures 6 [6] (L' := []) (e' := [(6, .bool false)]) (by kernel_rfl) ?_
                  refine Op.goto 22 (by kernel_rfl) ?_
                  refine At.ret (f := Tryd.f12) (v := .bool false) (by kernel_rfl) (by kernel_rfl) ?_
                  refine hR _ _ _ _ s1142.fin ⟨?_, rfl, rfl⟩
                  exact (eqB (by first | rfl | contradiction | exact absurd (w_trans (by assumption) (by assumption)) (Bool.eq_false_iff.1 c1150) | exact absurd (w_anti (by assumption) (by assumption)) c1150 | exact absurd (w_ok (by assumption)).1 (by assumption) | exact absurd (w_ok (by assumption)).2.1 (by assumption) | exact absurd (w_len (by assumption)) c1150 | exact decide_eq_true (w_take (by assumption)) | (rw [← within_n1 (by assumption)]; rfl) | (rw [← within_n2 (by assumption)]; rfl)))
              · refine Op.cast (e' := [(0, .string (mkS a)), (1, .string (mkS b)), (7, .slice a1128 ((pList a).length) n1129), (9, .slice a1136 ((pList b).length) n1137), (10, .int .i64 (pErr b)), (61, .bool false)]) (by rw [hb]) ?_
                have c1151 : (pErr a) = (0 : Int) := bneF hb
                clear hb
                refine Op.pures 3 [0, 1, 7, 9, 64] (L' := []) (e' := [(0, .string (mkS a)), (1, .string (mkS b)), (7, .slice a1128 ((pList a).length) n1129), (9, .slice a1136 ((pList b).length) n1137), (64, .bool ((pErr b) != (0 : Int)))]) (by kernel_rfl) ?_
                refine Op.goto 20 (by kernel_rfl) ?_
                refine At.cond (b := (pErr b) != (0 : Int)) (c := .tmp 64) (by kernel_rfl) (by kernel_rfl) (by kernel_rfl) 21 23 (by kernel_rfl) (by kernel_rfl) (fun hb => ?_) (fun hb => ?_)
                · have c1152 : ¬ ((pErr b) = (0 : Int)) := bneT hb
                  clear hb
                  refine At.keep [0, 1] ?_; show At _ _ _ [(0, .string (mkS a)), (1, .string (mkS b))] _
                  refine At.reg (L := [(0, false), (1, false), (2, false), (3, false), (4, false), (5, false), (6, false), (7, false), (8, false), (9, false), (10, false)]) (by kernel_rfl) ?_
                  refine Op.pures 2 [0, 1, 65, 66] (L' := [(2, false), (3, false), (4, false), (5, false), (6, false), (7, false), (8, false), (9, false), (10, false)]) (e' := [(0, .string (mkS a)), (1, .string (mkS b)), (65, .string (mkS a)), (66, .string (mkS b))]) (by kernel_rfl) ?_
                  refine Op.call0 (dst := some 67) (f := 40) (args := #[.string (mkS a), .string (mkS b)]) (by kernel_rfl) s1133 (withinP _ _ _ s1133.sub hG a b (by first | omega | (have := w_len (a := a) (b := b) (by assumption); have := pList_len a; have := pList_len b; omega) | (have := pList_len a; simp only [List.length_take]; omega) | (have := pList_len a; omega)) (by first | omega | (have := w_len (a := a) (b := b) (by assumption); have := pList_len a; have := pList_len b; omega) | (have := pList_len a; simp only [List.length_take]; omega) | (have := pList_len a; omega))) ?_
                  rintro _ g1155 _ h1153 hle1156 s1154 ⟨rfl, hgg, rfl⟩; subst g1155; clear hle1156
                  refine Op.pures 2 [0, 1, 69] (L' := [(5, false), (6, false), (7, false), (8, false), (9, false), (10, false)]) (e' := [(0, .string (mkS a)), (1, .string (mkS b)), (69, .bool (!(withinB a b)))]) (by kernel_rfl) ?_
                  refine Op.ways (b := !(withinB a b)) ⟨fun hb => ?_, fun hb => ?_⟩
                  · refine Op.cast (e' := [(0, .string (mkS a)), (1, .string (mkS b)), (69, .bool true)]) (by rw [hb]) ?_
                    have c1157 : (withinB a b) = false := (notT hb)
                    clear hb
                    refine Op.pures 2 [69, 70, 71] (L' := [(7, false), (8, false), (9, false), (10, false)]) (e' := [(69, .bool true), (70, .string (mkS b)), (71, .string (mkS a))]) (by kernel_rfl) ?_
                    refine Op.call0 (dst := some 72) (f := 40) (args := #[.string (mkS b), .string (mkS a)]) (by kernel_rfl) s1154 (withinP _ _ _ s1154.sub hG b a (by first | omega | (have := w_len (a := a) (b := b) (by assumption); have := pList_len a; have := pList_len b; omega) | (have := pList_len a; simp only [List.length_take]; omega) | (have := pList_len a; omega)) (by first | omega | (have := w_len (a := a) (b := b) (by assumption); have := pList_len a; have := pList_len b; omega) | (have := pList_len a; simp only [List.length_take]; omega) | (have := pList_len a; omega))) ?_
                    rintro _ g1160 _ h1158 hle1161 s1159 ⟨rfl, hgg, rfl⟩; subst g1160; clear hle1161
                    refine Op.pures 3 [6] (L' := []) (e' := [(6, .bool (!(withinB b a)))]) (by kernel_rfl) ?_
                    refine Op.goto 22 (by kernel_rfl) ?_
                    refine At.ret (f := Tryd.f12) (v := .bool (!(withinB b a))) (by kernel_rfl) (by kernel_rfl) ?_
                    refine hR _ _ _ _ s1159.fin ⟨?_, rfl, rfl⟩
                    exact (eqB (by first | rfl | contradiction | exact absurd (w_trans (by assumption) (by assumption)) (Bool.eq_false_iff.1 c1157) | exact absurd (w_anti (by assumption) (by assumption)) c1157 | exact absurd (w_ok (by assumption)).1 (by assumption) | exact absurd (w_ok (by assumption)).2.1 (by assumption) | exact absurd (w_len (by assumption)) c1157 | exact decide_eq_true (w_take (by assumption)) | (rw [← within_n1 (by assumption)]; rfl) | (rw [← within_n2 (by assumption)]; rfl)))
                  · refine Op.cast (e' := [(0, .string (mkS a)), (1, .string (mkS b)), (69, .bool false)]) (by rw [hb]) ?_
                    have c1162 : (withinB a b) = true := (notF hb)
                    clear hb
                    refine Op.pures 6 [6] (L' := []) (e' := [(6, .bool false)]) (by kernel_rfl) ?_
                    refine Op.goto 22 (by kernel_rfl) ?_
                    refine At.ret (f := Tryd.f12) (v := .bool false) (by kernel_rfl) (by kernel_rfl) ?_
                    refine hR _ _ _ _ s1154.fin ⟨?_, rfl, rfl⟩
                    exact (eqB (by first | rfl | contradiction | exact absurd (w_trans (by assumption) (by assumption)) (Bool.eq_false_iff.1 c1162) | exact absurd (w_anti (by assumption) (by assumption)) c1162 | exact absurd (w_ok (by assumption)).1 (by assumption) | exact absurd (w_ok (by assumption)).2.1 (by assumption) | exact absurd (w_len (by assumption)) c1162 | exact decide_eq_true (w_take (by assumption)) | (rw [← within_n1 (by assumption)]; rfl) | (rw [← within_n2 (by assumption)]; rfl)))
                · have c1163 : (pErr b) = (0 : Int) := bneF hb
                  clear hb
                  refine At.keep [0, 1, 7, 9] ?_; show At _ _ _ [(0, .string (mkS a)), (1, .string (mkS b)), (7, .slice a1128 ((pList a).length) n1129), (9, .slice a1136 ((pList b).length) n1137)] _
                  refine At.reg (L := [(0, false), (1, false), (2, false), (3, false), (4, false), (5, false), (6, false), (7, false), (8, false), (9, false), (10, false), (11, false), (12, false), (13, false), (14, false), (15, false), (16, false), (17, false), (18, false), (19, false)]) (by kernel_rfl) ?_
                  refine Op.pures 2 [7, 9, 75, 76] (L' := [(2, false), (3, false), (4, false), (5, false), (6, false), (7, false), (8, false), (9, false), (10, false), (11, false), (12, false), (13, false), (14, false), (15, false), (16, false), (17, false), (18, false), (19, false)]) (e' := [(7, .slice a1128 ((pList a).length) n1129), (9, .slice a1136 ((pList b).length) n1137), (75, .string (mkS a)), (76, .string (mkS b))]) (by kernel_rfl) ?_
                  refine Op.call0 (dst := some 77) (f := 40) (args := #[.string (mkS a), .string (mkS b)]) (by kernel_rfl) s1133 (withinP _ _ _ s1133.sub hG a b (by first | omega | (have := w_len (a := a) (b := b) (by assumption); have := pList_len a; have := pList_len b; omega) | (have := pList_len a; simp only [List.length_take]; omega) | (have := pList_len a; omega)) (by first | omega | (have := w_len (a := a) (b := b) (by assumption); have := pList_len a; have := pList_len b; omega) | (have := pList_len a; simp only [List.length_take]; omega) | (have := pList_len a; omega))) ?_
                  rintro _ g1166 _ h1164 hle1167 s1165 ⟨rfl, hgg, rfl⟩; subst g1166; clear hle1167
                  refine Op.pures 2 [7, 9, 79] (L' := [(5, false), (6, false), (7, false), (8, false), (9, false), (10, false), (11, false), (12, false), (13, false), (14, false), (15, false), (16, false), (17, false), (18, false), (19, false)]) (e' := [(7, .slice a1128 ((pList a).length) n1129), (9, .slice a1136 ((pList b).length) n1137), (79, .bool (!(withinB a b)))]) (by kernel_rfl) ?_
                  refine Op.ways (b := !(withinB a b)) ⟨fun hb => ?_, fun hb => ?_⟩
                  · refine Op.cast (e' := [(7, .slice a1128 ((pList a).length) n1129), (9, .slice a1136 ((pList b).length) n1137), (79, .bool true)]) (by rw [hb]) ?_
                    have c1168 : (withinB a b) = false := (notT hb)
                    clear hb
                    refine Op.pures 15 [6] (L' := []) (e' := [(6, .bool true)]) (by kernel_rfl) ?_
                    refine Op.goto 24 (by kernel_rfl) ?_
                    refine At.ret (f := Tryd.f12) (v := .bool true) (by kernel_rfl) (by kernel_rfl) ?_
                    refine hR _ _ _ _ s1165.fin ⟨?_, rfl, rfl⟩
                    exact (eqB (by first | rfl | contradiction | exact absurd (w_trans (by assumption) (by assumption)) (Bool.eq_false_iff.1 c1168) | exact absurd (w_anti (by assumption) (by assumption)) c1168 | exact absurd (w_ok (by assumption)).1 (by assumption) | exact absurd (w_ok (by assumption)).2.1 (by assumption) | exact absurd (w_len (by assumption)) c1168 | exact decide_eq_true (w_take (by assumption)) | (rw [← within_n1 (by assumption)]; rfl) | (rw [← within_n2 (by assumption)]; rfl)))
                  · refine Op.cast (e' := [(7, .slice a1128 ((pList a).length) n1129), (9, .slice a1136 ((pList b).length) n1137), (79, .bool false)]) (by rw [hb]) ?_
                    have c1169 : (withinB a b) = true := (notF hb)
                    clear hb
                    refine Op.pures 6 [7, 9, 79, 85] (L' := [(11, false), (12, false), (13, false), (14, false), (15, false), (16, false), (17, false), (18, false), (19, false)]) (e' := [(7, .slice a1128 ((pList a).length) n1129), (9, .slice a1136 ((pList b).length) n1137), (79, .bool false), (85, .bool (decide (((pList a).length : Int) ≥ ((pList b).length : Int))))]) (by kernel_rfl) ?_
                    refine Op.ways (b := decide (((pList a).length : Int) ≥ ((pList b).length : Int))) ⟨fun hb => ?_, fun hb => ?_⟩
                    · refine Op.cast (e' := [(7, .slice a1128 ((pList a).length) n1129), (9, .slice a1136 ((pList b).length) n1137), (79, .bool false), (85, .bool true)]) (by rw [hb]) ?_
                      have c1170 : ((pList a).length : Int) ≥ ((pList b).length : Int) := of_decide_eq_true hb
                      clear hb
                      refine Op.pures 3 [9, 79, 85, 86, 88] (L' := [(14, false), (15, false), (16, false), (17, false), (18, false), (19, false)]) (e' := [(9, .slice a1136 ((pList b).length) n1137), (79, .bool false), (85, .bool true), (86, .slice a1128 ((pList a).length) n1129), (88, .int .i64 ((pList b).length : Int))]) (by kernel_rfl) ?_
                      refine Op.slHiD (T := 37) (E := 9) (by_ := 16) (x := (.tmp 86)) (ao := a1128) (n := ((pList a).length)) (c := n1129) (dst := 89) (d := kStr) (hi := (.tmp 88)) (k := .i64) (m := ((pList b).length : Int)) (by kernel_rfl) (by kernel_rfl) (by kernel_rfl) (by kernel_rfl) hr1127 (by first | omega | (have := w_len (a := a) (b := b) (by assumption); have := pList_len a; have := pList_len b; omega) | (have := pList_len a; simp only [List.length_take]; omega) | (have := pList_len a; omega)) (by first | omega | (have := w_len (a := a) (b := b) (by assumption); have := pList_len a; have := pList_len b; omega) | (have := pList_len a; simp only [List.length_take]; omega) | (have := pList_len a; omega)) ?_
                      intro v1171 hr1172
                      obtain ⟨a1173, n1174, rfl⟩ := hr1172.form
                      refine Op.pures 1 [79, 85, 89, 90] (L' := [(16, false), (17, false), (18, false), (19, false)]) (e' := [(79, .bool false), (85, .bool true), (89, .slice a1173 (((pList a).take (((pList b).length : Int) : Int).toNat).length) n1174), (90, .slice a1136 ((pList b).length) n1137)]) (by kernel_rfl) ?_
                      refine Op.call0 (dst := some 91) (f := 26) (args := #[.slice a1173 (((pList a).take (((pList b).length : Int) : Int).toNat).length) n1174, .slice a1136 ((pList b).length) n1137]) (by kernel_rfl) s1165 (sameTexts _ _ _ s1165.sub hG _ _ hr1172 _ _ hr1135 (by first | omega | (have := w_len (a := a) (b := b) (by assumption); have := pList_len a; have := pList_len b; omega) | (have := pList_len a; simp only [List.length_take]; omega) | (have := pList_len a; omega))) ?_
                      rintro _ g1177 _ h1175 hle1178 s1176 ⟨rfl, hgg, rfl⟩; subst g1177; clear hle1178
                      refine Op.pures 3 [6] (L' := []) (e' := [(6, .bool (decide (((pList a).take (((pList b).length : Int) : Int).toNat) = (pList b))))]) (by kernel_rfl) ?_
                      refine Op.goto 24 (by kernel_rfl) ?_
                      refine At.ret (f := Tryd.f12) (v := .bool (decide (((pList a).take (((pList b).length : Int) : Int).toNat) = (pList b)))) (by kernel_rfl) (by kernel_rfl) ?_
                      refine hR _ _ _ _ s1176.fin ⟨?_, rfl, rfl⟩
                      exact (eqB (by first | rfl | contradiction | exact absurd (w_trans (by assumption) (by assumption)) (Bool.eq_false_iff.1 c1170) | exact absurd (w_anti (by assumption) (by assumption)) c1170 | exact absurd (w_ok (by assumption)).1 (by assumption) | exact absurd (w_ok (by assumption)).2.1 (by assumption) | exact absurd (w_len (by assumption)) c1170 | exact decide_eq_true (w_take (by assumption)) | (rw [← within_n1 (by assumption)]; rfl) | (rw [← within_n2 (by assumption)]; rfl)))
                    · refine Op.cast (e' := [(7, .slice a1128 ((pList a).length) n1129), (9, .slice a1136 ((pList b).length) n1137), (79, .bool false), (85, .bool false)]) (by rw [hb]) ?_
                      have c1179 : ¬ (((pList a).length : Int) ≥ ((pList b).length : Int)) := of_decide_eq_false hb
                      clear hb
                      refine Op.pures 9 [6] (L' := []) (e' := [(6, .bool false)]) (by kernel_rfl) ?_
                      refine Op.goto 24 (by kernel_rfl) ?_
                      refine At.ret (f := Tryd.f12) (v := .bool false) (by kernel_rfl) (by kernel_rfl) ?_
                      refine hR _ _ _ _ s1165.fin ⟨?_, rfl, rfl⟩
                      exact (eqB (by first | rfl | contradiction | exact absurd (w_trans (by assumption) (by assumption)) (Bool.eq_false_iff.1 c1179) | exact absurd (w_anti (by assumption) (by assumption)) c1179 | exact absurd (w_ok (by assumption)).1 (by assumption) | exact absurd (w_ok (by assumption)).2.1 (by assumption) | exact absurd (w_len (by assumption)) c1179 | exact decide_eq_true (w_take (by assumption)) | (rw [← within_n1 (by assumption)]; rfl) | (rw [← within_n2 (by assumption)]; rfl)))
          · refine Op.cast (e' := [(0, .string (mkS a)), (1, .string (mkS b)), (44, .bool false)]) (by rw [hb]) ?_
            have c1180 : (withinB b a) = false := hb
            clear hb
            refine Op.pures 4 [0, 1, 48] (L' := []) (e' := [(0, .string (mkS a)), (1, .string (mkS b)), (48, .bool false)]) (by kernel_rfl) ?_
            refine Op.goto 14 (by kernel_rfl) ?_
            refine At.condF (c := .tmp 48) (by kernel_rfl) (by kernel_rfl) (by kernel_rfl) 17 (by kernel_rfl) ?_
            refine At.reg (L := [(0, false), (1, false), (2, false), (3, false), (4, false), (5, false), (6, false)]) (by kernel_rfl) ?_
            refine Op.pures 1 [0, 1, 50] (L' := [(1, false), (2, false), (3, false), (4, false), (5, false), (6, false)]) (e' := [(0, .string (mkS a)), (1, .string (mkS b)), (50, .string (mkS a))]) (by kernel_rfl) ?_
            refine Op.call0 (dst := some 51) (f := 42) (args := #[.string (mkS a)]) (by kernel_rfl) s1118 (partsP _ _ _ s1118.sub hG a (by first | omega | (have := w_len (a := a) (b := b) (by assumption); have := pList_len a; have := pList_len b; omega) | (have := pList_len a; simp only [List.length_take]; omega) | (have := pList_len a; omega))) ?_
            rintro _ g1187 _ h1181 hle1188 s1182 ⟨v1183, rfl, hr1184, rfl⟩
            obtain ⟨a1185, n1186, rfl⟩ := hr1184.form
            replace hG := hG.mono hle1188
            replace hP := hP.mono hle1188
            refine Op.pures 5 [0, 1, 7, 8] (L' := []) (e' := [(0, .string (mkS a)), (1, .string (mkS b)), (7, .slice a1185 ((pList a).length) n1186), (8, .int .i64 (pErr a))]) (by kernel_rfl) ?_
            refine Op.goto 18 (by kernel_rfl) ?_
            refine At.reg (L := [(0, false), (1, false), (2, false), (3, false), (4, false), (5, false), (6, false)]) (by kernel_rfl) ?_
            refine Op.pures 1 [0, 1, 7, 8, 55] (L' := [(1, false), (2, false), (3, false), (4, false), (5, false), (6, false)]) (e' := [(0, .string (mkS a)), (1, .string (mkS b)), (7, .slice a1185 ((pList a).length) n1186), (8, .int .i64 (pErr a)), (55, .string (mkS b))]) (by kernel_rfl) ?_
            refine Op.call0 (dst := some 56) (f := 42) (args := #[.string (mkS b)]) (by kernel_rfl) s1182 (partsP _ _ _ s1182.sub hG b (by first | omega | (have := w_len (a := a) (b := b) (by assumption); have := pList_len a; have := pList_len b; omega) | (have := pList_len a; simp only [List.length_take]; omega) | (have := pList_len a; omega))) ?_
            rintro _ g1195 _ h1189 hle1196 s1190 ⟨v1191, rfl, hr1192, rfl⟩
            obtain ⟨a1193, n1194, rfl⟩ := hr1192.form
            replace hG := hG.mono hle1196
            replace hP := hP.mono hle1196
            replace hr1184 := hr1184.mono hle1196
            refine Op.pures 5 [0, 1, 7, 8, 9, 10] (L' := []) (e' := [(0, .string (mkS a)), (1, .string (mkS b)), (7, .slice a1185 ((pList a).length) n1186), (8, .int .i64 (pErr a)), (9, .slice a1193 ((pList b).length) n1194), (10, .int .i64 (pErr b))]) (by kernel_rfl) ?_
            refine Op.goto 19 (by kernel_rfl) ?_
            refine At.reg (L := [(0, false), (1, false), (2, false), (3, false), (4, false), (5, false)]) (by kernel_rfl) ?_
            refine Op.pures 3 [0, 1, 7, 9, 10, 61] (L' := [(3, false), (4, false), (5, false)]) (e' := [(0, .string (mkS a)), (1, .string (mkS b)), (7, .slice a1185 ((pList a).length) n1186), (9, .slice a1193 ((pList b).length) n1194), (10, .int .i64 (pErr b)), (61, .bool ((pErr a) != (0 : Int)))]) (by kernel_rfl) ?_
            refine Op.ways (b := (pErr a) != (0 : Int)) ⟨fun hb => ?_, fun hb => ?_⟩
            · refine Op.cast (e' := [(0, .string (mkS a)), (1, .string (mkS b)), (7, .slice a1185 ((pList a).length) n1186), (9, .slice a1193 ((pList b).length) n1194), (10, .int .i64 (pErr b)), (61, .bool true)]) (by rw [hb]) ?_
              have c1197 : ¬ ((pErr a) = (0 : Int)) := bneT hb
              clear hb
              refine Op.pures 3 [0, 1, 7, 9, 64] (L' := []) (e' := [(0, .string (mkS a)), (1, .string (mkS b)), (7, .slice a1185 ((pList a).length) n1186), (9, .slice a1193 ((pList b).length) n1194), (64, .bool true)]) (by kernel_rfl) ?_
              refine Op.goto 20 (by kernel_rfl) ?_
              refine At.condT (c := .tmp 64) (by kernel_rfl) (by kernel_rfl) (by kernel_rfl) 21 (by kernel_rfl) ?_
              refine At.reg (L := [(0, false), (1, false), (2, false), (3, false), (4, false), (5, false), (6, false), (7, false), (8, false), (9, false), (10, false)]) (by kernel_rfl) ?_
              refine Op.pures 2 [0, 1, 65, 66] (L' := [(2, false), (3, false), (4, false), (5, false), (6, false), (7, false), (8, false), (9, false), (10, false)]) (e' := [(0, .string (mkS a)), (1, .string (mkS b)), (65, .string (mkS a)), (66, .string (mkS b))]) (by kernel_rfl) ?_
              refine Op.call0 (dst := some 67) (f := 40) (args := #[.string (mkS a), .string (mkS b)]) (by kernel_rfl) s1190 (withinP _ _ _ s1190.sub hG a b (by first | omega | (have := w_len (a := a) (b := b) (by assumption); have := pList_len a; have := pList_len b; omega) | (have := pList_len a; simp only [List.length_take]; omega) | (have := pList_len a; omega)) (by first | omega | (have := w_len (a := a) (b := b) (by assumption); have := pList_len a; have := pList_len b; omega) | (have := pList_len a; simp only [List.length_take]; omega) | (have := pList_len a; omega))) ?_
              rintro _ g1200 _ h1198 hle1201 s1199 ⟨rfl, hgg, rfl⟩; subst g1200; clear hle1201
              refine Op.pures 2 [0, 1, 69] (L' := [(5, false), (6, false), (7, false), (8, false), (9, false), (10, false)]) (e' := [(0, .string (mkS a)), (1, .string (mkS b)), (69, .bool (!(withinB a b)))]) (by kernel_rfl) ?_
              refine Op.ways (b := !(withinB a b)) ⟨fun hb => ?_, fun hb => ?_⟩
              · refine Op.cast (e' := [(0, .string (mkS a)), (1, .string (mkS b)), (69, .bool true)]) (by rw [hb]) ?_
                have c1202 : (withinB a b) = false := (notT hb)
                clear hb
                refine Op.pures 2 [69, 70, 71] (L' := [(7, false), (8, false), (9, false), (10, false)]) (e' := [(69, .bool true), (70, .string (mkS b)), (71, .string (mkS a))]) (by kernel_rfl) ?_
                refine Op.call0 (dst := some 72) (f := 40) (args := #[.string (mkS b), .string (mkS a)]) (by kernel_rfl) s1199 (withinP _ _ _ s1199.sub hG b a (by first | omega | (have := w_len (a := a) (b := b) (by assumption); have := pList_len a; have := pList_len b; omega) | (have := pList_len a; simp only [List.length_take]; omega) | (have := pList_len a; omega)) (by first | omega | (have := w_len (a := a) (b := b) (by assumption); have := pList_len a; have := pList_len b; omega) | (have := pList_len a; simp only [List.length_take]; omega) | (have := pList_len a; omega))) ?_
                rintro _ g1205 _ h1203 hle1206 s1204 ⟨rfl, hgg, rfl⟩; subst g1205; clear hle1206
                refine Op.pures 3 [6] (L' := []) (e' := [(6, .bool (!(withinB b a)))]) (by kernel_rfl) ?_
                refine Op.goto 22 (by kernel_rfl) ?_
                refine At.ret (f := Tryd.f12) (v := .bool (!(withinB b a))) (by kernel_rfl) (by kernel_rfl) ?_
                refine hR _ _ _ _ s1204.fin ⟨?_, rfl, rfl⟩
                exact (eqB (by first | rfl | contradiction | exact absurd (w_trans (by assumption) (by assumption)) (Bool.eq_false_iff.1 c1202) | exact absurd (w_anti (by assumption) (by assumption)) c1202 | exact absurd (w_ok (by assumption)).1 (by assumption) | exact absurd (w_ok (by assumption)).2.1 (by assumption) | exact absurd (w_len (by assumption)) c1202 | exact decide_eq_true (w_take (by assumption)) | (rw [← within_n1 (by assumption)]; rfl) | (rw [← within_n2 (by assumption)]; rfl)))
              · refine Op.cast (e' := [(0, .string (mkS a)), (1, .string (mkS b)), (69, .bool false)]) (by rw [hb]) ?_
                have c1207 : (withinB a b) = true := (notF hb)
                clear hb
                refine Op.pures 6 [6] (L' := []) (e' := [(6, .bool false)]) (by kernel_rfl) ?_
                refine Op.goto 22 (by kernel_rfl) ?_
                refine At.ret (f := Tryd.f12) (v := .bool false) (by kernel_rfl) (by kernel_rfl) ?_
                refine hR _ _ _ _ s1199.fin ⟨?_, rfl, rfl⟩
                exact (eqB (by first | rfl | contradiction | exact absurd (w_trans (by assumption) (by assumption)) (Bool.eq_false_iff.1 c1207) | exact absurd (w_anti (by assumption) (by assumption)) c1207 | exact absurd (w_ok (by assumption)).1 (by assumption) | exact absurd (w_ok (by assumption)).2.1 (by assumption) | exact absurd (w_len (by assumption)) c1207 | exact decide_eq_true (w_take (by assumption)) | (rw [← within_n1 (by assumption)]; rfl) | (rw [← within_n2 (by assumption)]; rfl)))
            · refine Op.cast (e' := [(0, .string (mkS a)), (1, .string (mkS b)), (7, .slice a1185 ((pList a).length) n1186), (9, .slice a1193 ((pList b).length) n1194), (10, .int .i64 (pErr b)), (61, .bool false)]) (by rw [hb]) ?_
              have c1208 : (pErr a) = (0 : Int) := bneF hb
              clear hb
              refine Op.pures 3 [0, 1, 7, 9, 64] (L' := []) (e' := [(0, .string (mkS a)), (1, .string (mkS b)), (7, .slice a1185 ((pList a).length) n1186), (9, .slice a1193 ((pList b).length) n1194), (64, .bool ((pErr b) != (0 : Int)))]) (by kernel_rfl) ?_
              refine Op.goto 20 (by kernel_rfl) ?_
              refine At.cond (b := (pErr b) != (0 : Int)) (c := .tmp 64) (by kernel_rfl) (by kernel_rfl) (by kernel_rfl) 21 23 (by kernel_rfl) (by kernel_rfl) (fun hb => ?_) (fun hb => ?_)
              · have c1209 : ¬ ((pErr b) = (0 : Int)) := bneT hb
                clear hb
                refine At.keep [0, 1] ?_; show At _ _ _ [(0, .string (mkS a)), (1, .string (mkS b))] _
                refine At.reg (L := [(0, false), (1, false), (2, false), (3, false), (4, false), (5, false), (6, false), (7, false), (8, false), (9, false), (10, false)]) (by kernel_rfl) ?_
                refine Op.pures 2 [0, 1, 65, 66] (L' := [(2, false), (3, false), (4, false), (5, false), (6, false), (7, false), (8, false), (9, false), (10, false)]) (e' := [(0, .string (mkS a)), (1, .string (mkS b)), (65, .string (mkS a)), (66, .string (mkS b))]) (by kernel_rfl) ?_
                refine Op.call0 (dst := some 67) (f := 40) (args := #[.string (mkS a), .string (mkS b)]) (by kernel_rfl) s1190 (withinP _ _ _ s1190.sub hG a b (by first | omega | (have := w_len (a := a) (b := b) (by assumption); have := pList_len a; have := pList_len b; omega) | (have := pList_len a; simp only [List.length_take]; omega) | (have := pList_len a; omega)) (by first | omega | (have := w_len (a := a) (b := b) (by assumption); have := pList_len a; have := pList_len b; omega) | (have := pList_len a; simp only [List.length_take]; omega) | (have := pList_len a; omega))) ?_
                rintro _ g1212 _ h1210 hle1213 s1211 ⟨rfl, hgg, rfl⟩; subst g1212; clear hle1213
                refine Op.pures 2 [0, 1, 69] (L' := [(5, false), (6, false), (7, false), (8, false), (9, false), (10, false)]) (e' := [(0, .string (mkS a)), (1, .string (mkS b)), (69, .bool (!(withinB a b)))]) (by kernel_rfl) ?_
                refine Op.ways (b := !(withinB a b)) ⟨fun hb => ?_, fun hb => ?_⟩
                · refine Op.cast (e' := [(0, .string (mkS a)), (1, .string (mkS b)), (69, .bool true)]) (by rw [hb]) ?_
                  have c1214 : (withinB a b) = false := (notT hb)
                  clear hb
                  refine Op.pures 2 [69, 70, 71] (L' := [(7, false), (8, false), (9, false), (10, false)]) (e' := [(69, .bool true), (70, .string (mkS b)), (71, .string (mkS a))]) (by kernel_rfl) ?_
                  refine Op.call0 (dst := some 72) (f := 40) (args := #[.string (mkS b), .string (mkS a)]) (by kernel_rfl) s1211 (withinP _ _ _ s1211.sub hG b a (by first | omega | (have := w_len (a := a) (b := b) (by assumption); have := pList_len a; have := pList_len b; omega) | (have := pList_len a; simp only [List.length_take]; omega) | (have := pList_len a; omega)) (by first | omega | (have := w_len (a := a) (b := b) (by assumption); have := pList_len a; have := pList_len b; omega) | (have := pList_len a; simp only [List.length_take]; omega) | (have := pList_len a; omega))) ?_
                  rintro _ g1217 _ h1215 hle1218 s1216 ⟨rfl, hgg, rfl⟩; subst g1217; clear hle1218
                  refine Op.pures 3 [6] (L' := []) (e' := [(6, .bool (!(withinB b a)))]) (by kernel_rfl) ?_
                  refine Op.goto 22 (by kernel_rfl) ?_
                  refine At.ret (f := Tryd.f12) (v := .bool (!(withinB b a))) (by kernel_rfl) (by kernel_rfl) ?_
                  refine hR _ _ _ _ s1216.fin ⟨?_, rfl, rfl⟩
                  exact (eqB (by first | rfl | contradiction | exact absurd (w_trans (by assumption) (by assumption)) (Bool.eq_false_iff.1 c1214) | exact absurd (w_anti (by assumption) (by assumption)) c1214 | exact absurd (w_ok (by assumption)).1 (by assumption) | exact absurd (w_ok (by assumption)).2.1 (by assumption) | exact absurd (w_len (by assumption)) c1214 | exact decide_eq_true (w_take (by assumption)) | (rw [← within_n1 (by assumption)]; rfl) | (rw [← within_n2 (by assumption)]; rfl)))
                · refine Op.cast (e' := [(0, .string (mkS a)), (1, .string (mkS b)), (69, .bool false)]) (by rw [hb]) ?_
                  have c1219 : (withinB a b) = true := (notF hb)
                  clear hb
                  refine Op.pures 6 [6] (L' := []) (e' := [(6, .bool false)]) (by kernel_rfl) ?_
                  refine Op.goto 22 (by kernel_rfl) ?_
                  refine At.ret (f := Tryd.f12) (v := .bool false) (by kernel_rfl) (by kernel_rfl) ?_
                  refine hR _ _ _ _ s1211.fin ⟨?_, rfl, rfl⟩
                  exact (eqB (by first | rfl | contradiction | exact absurd (w_trans (by assumption) (by assumption)) (Bool.eq_false_iff.1 c1219) | exact absurd (w_anti (by assumption) (by assumption)) c1219 | exact absurd (w_ok (by assumption)).1 (by assumption) | exact absurd (w_ok (by assumption)).2.1 (by assumption) | exact absurd (w_len (by assumption)) c1219 | exact decide_eq_true (w_take (by assumption)) | (rw [← within_n1 (by assumption)]; rfl) | (rw [← within_n2 (by assumption)]; rfl)))
              · have c1220 : (pErr b) = (0 : Int) := bneF hb
                clear hb
                refine At.keep [0, 1, 7, 9] ?_; show At _ _ _ [(0, .string (mkS a)), (1, .string (mkS b)), (7, .slice a1185 ((pList a).length) n1186), (9, .slice a1193 ((pList b).length) n1194)] _
                refine At.reg (L := [(0, false), (1, false), (2, false), (3, false), (4, false), (5, false), (6, false), (7, false), (8, false), (9, false), (10, false), (11, false), (12, false), (13, false), (14, false), (15, false), (16, false), (17, false), (18, false), (19, false)]) (by kernel_rfl) ?_
                refine Op.pures 2 [7, 9, 75, 76] (L' := [(2, false), (3, false), (4, false), (5, false), (6, false), (7, false), (8, false), (9, false), (10, false), (11, false), (12, false), (13, false), (14, false), (15, false), (16, false), (17, false), (18, false), (19, false)]) (e' := [(7, .slice a1185 ((pList a).length) n1186), (9, .slice a1193 ((pList b).length) n1194), (75, .string (mkS a)), (76, .string (mkS b))]) (by kernel_rfl) ?_
                refine Op.call0 (dst := some 77) (f := 40) (args := #[.string (mkS a), .string (mkS b)]) (by kernel_rfl) s1190 (withinP _ _ _ s1190.sub hG a b (by first | omega | (have := w_len (a := a) (b := b) (by assumption); have := pList_len a; have := pList_len b; omega) | (have := pList_len a; simp only [List.length_take]; omega) | (have := pList_len a; omega)) (by first | omega | (have := w_len (a := a) (b := b) (by assumption); have := pList_len a; have := pList_len b; omega) | (have := pList_len a; simp only [List.length_take]; omega) | (have := pList_len a; omega))) ?_
                rintro _ g1223 _ h1221 hle1224 s1222 ⟨rfl, hgg, rfl⟩; subst g1223; clear hle1224
                refine Op.pures 2 [7, 9, 79] (L' := [(5, false), (6, false), (7, false), (8, false), (9, false), (10, false), (11, false), (12, false), (13, false), (14, false), (15, false), (16, false), (17, false), (18, false), (19, false)]) (e' := [(7, .slice a1185 ((pList a).length) n1186), (9, .slice a1193 ((pList b).length) n1194), (79, .bool (!(withinB a b)))]) (by kernel_rfl) ?_
                refine Op.ways (b := !(withinB a b)) ⟨fun hb => ?_, fun hb => ?_⟩
                · refine Op.cast (e' := [(7, .slice a1185 ((pList a).length) n1186), (9, .slice a1193 ((pList b).length) n1194), (79, .bool true)]) (by rw [hb]) ?_
                  have c1225 : (withinB a b) = false := (notT hb)
                  clear hb
                  refine Op.pures 15 [6] (L' := []) (e' := [(6, .bool true)]) (by kernel_rfl) ?_
                  refine Op.goto 24 (by kernel_rfl) ?_
                  refine At.ret (f := Tryd.f12) (v := .bool true) (by kernel_rfl) (by kernel_rfl) ?_
                  refine hR _ _ _ _ s1222.fin ⟨?_, rfl, rfl⟩
                  exact (eqB (by first | rfl | contradiction | exact absurd (w_trans (by assumption) (by assumption)) (Bool.eq_false_iff.1 c1225) | exact absurd (w_anti (by assumption) (by assumption)) c1225 | exact absurd (w_ok (by assumption)).1 (by assumption) | exact absurd (w_ok (by assumption)).2.1 (by assumption) | exact absurd (w_len (by assumption)) c1225 | exact decide_eq_true (w_take (by assumption)) | (rw [← within_n1 (by assumption)]; rfl) | (rw [← within_n2 (by assumption)]; rfl)))
                · refine Op.cast (e' := [(7, .slice a1185 ((pList a).length) n1186), (9, .slice a1193 ((pList b).length) n1194), (79, .bool false)]) (by rw [hb]) ?_
                  have c1226 : (withinB a b) = true := (notF hb)
                  clear hb
                  refine Op.pures 6 [7, 9, 79, 85] (L' := [(11, false), (12, false), (13, false), (14, false), (15, false), (16, false), (17, false), (18, false), (19, false)]) (e' := [(7, .slice a1185 ((pList a).length) n1186), (9, .slice a1193 ((pList b).length) n1194), (79, .bool false), (85, .bool (decide (((pList a).length : Int) ≥ ((pList b).length : Int))))]) (by kernel_rfl) ?_
                  refine Op.ways (b := decide (((pList a).length : Int) ≥ ((pList b).length : Int))) ⟨fun hb => ?_, fun hb => ?_⟩
                  · refine Op.cast (e' := [(7, .slice a1185 ((pList a).length) n1186), (9, .slice a1193 ((pList b).length) n1194), (79, .bool false), (85, .bool true)]) (by rw [hb]) ?_
                    have c1227 : ((pList a).length : Int) ≥ ((pList b).length : Int) := of_decide_eq_true hb
                    clear hb
                    refine Op.pures 3 [9, 79, 85, 86, 88] (L' := [(14, false), (15, false), (16, false), (17, false), (18, false), (19, false)]) (e' := [(9, .slice a1193 ((pList b).length) n1194), (79, .bool false), (85, .bool true), (86, .slice a1185 ((pList a).length) n1186), (88, .int .i64 ((pList b).length : Int))]) (by kernel_rfl) ?_
                    refine Op.slHiD (T := 37) (E := 9) (by_ := 16) (x := (.tmp 86)) (ao := a1185) (n := ((pList a).length)) (c := n1186) (dst := 89) (d := kStr) (hi := (.tmp 88)) (k := .i64) (m := ((pList b).length : Int)) (by kernel_rfl) (by kernel_rfl) (by kernel_rfl) (by kernel_rfl) hr1184 (by first | omega | (have := w_len (a := a) (b := b) (by assumption); have := pList_len a; have := pList_len b; omega) | (have := pList_len a; simp only [List.length_take]; omega) | (have := pList_len a; omega)) (by first | omega | (have := w_len (a := a) (b := b) (by assumption); have := pList_len a; have := pList_len b; omega) | (have := pList_len a; simp only [List.length_take]; omega) | (have := pList_len a; omega)) ?_
                    intro v1228 hr1229
                    obtain ⟨a1230, n1231, rfl⟩ := hr1229.form
                    refine Op.pures 1 [79, 85, 89, 90] (L' := [(16, false), (17, false), (18, false), (19, false)]) (e' := [(79, .bool false), (85, .bool true), (89, .slice a1230 (((pList a).take (((pList b).length : Int) : Int).toNat).length) n1231), (90, .slice a1193 ((pList b).length) n1194)]) (by kernel_rfl) ?_
                    refine Op.call0 (dst := some 91) (f := 26) (args := #[.slice a1230 (((pList a).take (((pList b).length : Int) : Int).toNat).length) n1231, .slice a1193 ((pList b).length) n1194]) (by kernel_rfl) s1222 (sameTexts _ _ _ s1222.sub hG _ _ hr1229 _ _ hr1192 (by first | omega | (have := w_len (a := a) (b := b) (by assumption); have := pList_len a; have := pList_len b; omega) | (have := pList_len a; simp only [List.length_take]; omega) | (have := pList_len a; omega))) ?_
                    rintro _ g1234 _ h1232 hle1235 s1233 ⟨rfl, hgg, rfl⟩; subst g1234; clear hle1235
                    refine Op.pures 3 [6] (L' := []) (e' := [(6, .bool (decide (((pList a).take (((pList b).length : Int) : Int).toNat) = (pList b))))]) (by kernel_rfl) ?_
                    refine Op.goto 24 (by kernel_rfl) ?_
                    refine At.ret (f := Tryd.f12) (v := .bool (decide (((pList a).take (((pList b).length : Int) : Int).toNat) = (pList b)))) (by kernel_rfl) (by kernel_rfl) ?_
                    refine hR _ _ _ _ s1233.fin ⟨?_, rfl, rfl⟩
                    exact (eqB (by first | rfl | contradiction | exact absurd (w_trans (by assumption) (by assumption)) (Bool.eq_false_iff.1 c1227) | exact absurd (w_anti (by assumption) (by assumption)) c1227 | exact absurd (w_ok (by assumption)).1 (by assumption) | exact absurd (w_ok (by assumption)).2.1 (by assumption) | exact absurd (w_len (by assumption)) c1227 | exact decide_eq_true (w_take (by assumption)) | (rw [← within_n1 (by assumption)]; rfl) | (rw [← within_n2 (by assumption)]; rfl)))
                  · refine Op.cast (e' := [(7, .slice a1185 ((pList a).length) n1186), (9, .slice a1193 ((pList b).length) n1194), (79, .bool false), (85, .bool false)]) (by rw [hb]) ?_
                    have c1236 : ¬ (((pList a).length : Int) ≥ ((pList b).length : Int)) := of_decide_eq_false hb
                    clear hb
                    refine Op.pures 9 [6] (L' := []) (e' := [(6, .bool false)]) (by kernel_rfl) ?_
                    refine Op.goto 24 (by kernel_rfl) ?_
                    refine At.ret (f := Tryd.f12) (v := .bool false) (by kernel_rfl) (by kernel_rfl) ?_
                    refine hR _ _ _ _ s1222.fin ⟨?_, rfl, rfl⟩
                    exact (eqB (by first | rfl | contradiction | exact absurd (w_trans (by assumption) (by assumption)) (Bool.eq_false_iff.1 c1236) | exact absurd (w_anti (by assumption) (by assumption)) c1236 | exact absurd (w_ok (by assumption)).1 (by assumption) | exact absurd (w_ok (by assumption)).2.1 (by assumption) | exact absurd (w_len (by assumption)) c1236 | exact decide_eq_true (w_take (by assumption)) | (rw [← within_n1 (by assumption)]; rfl) | (rw [← within_n2 (by assumption)]; rfl)))
        · exact Bool.noConfusion (c974.symm.trans hb)
    · refine Op.cast (e' := [(0, .string (mkS a)), (1, .string (mkS b)), (2, .string (mkS c)), (25, .bool false)]) (by rw [hb]) ?_
      have c1237 : (withinB a b) = false := hb
      clear hb
      refine Op.pures 10 [0, 1, 35] (L' := []) (e' := [(0, .string (mkS a)), (1, .string (mkS b)), (35, .bool false)]) (by kernel_rfl) ?_
      refine Op.goto 10 (by kernel_rfl) ?_
      refine At.condF (c := .tmp 35) (by kernel_rfl) (by kernel_rfl) (by kernel_rfl) 13 (by kernel_rfl) ?_
      refine At.reg (L := [(0, false), (1, false), (2, false), (3, false), (4, false), (5, false), (6, false), (7, false), (8, false), (9, false), (10, false), (11, false), (12, false)]) (by kernel_rfl) ?_
      refine Op.pures 2 [0, 1, 36, 37] (L' := [(2, false), (3, false), (4, false), (5, false), (6, false), (7, false), (8, false), (9, false), (10, false), (11, false), (12, false)]) (e' := [(0, .string (mkS a)), (1, .string (mkS b)), (36, .string (mkS a)), (37, .string (mkS b))]) (by kernel_rfl) ?_
      refine Op.call0 (dst := some 38) (f := 40) (args := #[.string (mkS a), .string (mkS b)]) (by kernel_rfl) s971 (withinP _ _ _ s971.sub hG a b (by first | omega | (have := w_len (a := a) (b := b) (by assumption); have := pList_len a; have := pList_len b; omega) | (have := pList_len a; simp only [List.length_take]; omega) | (have := pList_len a; omega)) (by first | omega | (have := w_len (a := a) (b := b) (by assumption); have := pList_len a; have := pList_len b; omega) | (have := pList_len a; simp only [List.length_take]; omega) | (have := pList_len a; omega))) ?_
      rintro _ g1240 _ h1238 hle1241 s1239 ⟨rfl, hgg, rfl⟩; subst g1240; clear hle1241
      refine Op.pures 1 [0, 1, 39] (L' := [(4, false), (5, false), (6, false), (7, false), (8, false), (9, false), (10, false), (11, false), (12, false)]) (e' := [(0, .string (mkS a)), (1, .string (mkS b)), (39, .bool (withinB a b))]) (by kernel_rfl) ?_
      refine Op.ways (b := withinB a b) ⟨fun hb => ?_, fun hb => ?_⟩
      · exact Bool.noConfusion (hb.symm.trans c1237)
      · refine Op.cast (e' := [(0, .string (mkS a)), (1, .string (mkS b)), (39, .bool false)]) (by rw [hb]) ?_
        have c1242 : (withinB a b) = false := hb
        clear hb
        refine Op.pures 9 [0, 1, 48] (L' := []) (e' := [(0, .string (mkS a)), (1, .string (mkS b)), (48, .bool false)]) (by kernel_rfl) ?_
        refine Op.goto 14 (by kernel_rfl) ?_
        refine At.condF (c := .tmp 48) (by kernel_rfl) (by kernel_rfl) (by kernel_rfl) 17 (by kernel_rfl) ?_
        refine At.reg (L := [(0, false), (1, false), (2, false), (3, false), (4, false), (5, false), (6, false)]) (by kernel_rfl) ?_
        refine Op.pures 1 [0, 1, 50] (L' := [(1, false), (2, false), (3, false), (4, false), (5, false), (6, false)]) (e' := [(0, .string (mkS a)), (1, .string (mkS b)), (50, .string (mkS a))]) (by kernel_rfl) ?_
        refine Op.call0 (dst := some 51) (f := 42) (args := #[.string (mkS a)]) (by kernel_rfl) s1239 (partsP _ _ _ s1239.sub hG a (by first | omega | (have := w_len (a := a) (b := b) (by assumption); have := pList_len a; have := pList_len b; omega) | (have := pList_len a; simp only [List.length_take]; omega) | (have := pList_len a; omega))) ?_
        rintro _ g1249 _ h1243 hle1250 s1244 ⟨v1245, rfl, hr1246, rfl⟩
        obtain ⟨a1247, n1248, rfl⟩ := hr1246.form
        replace hG := hG.mono hle1250
        replace hP := hP.mono hle1250
        refine Op.pures 5 [0, 1, 7, 8] (L' := []) (e' := [(0, .string (mkS a)), (1, .string (mkS b)), (7, .slice a1247 ((pList a).length) n1248), (8, .int .i64 (pErr a))]) (by kernel_rfl) ?_
        refine Op.goto 18 (by kernel_rfl) ?_
        refine At.reg (L := [(0, false), (1, false), (2, false), (3, false), (4, false), (5, false), (6, false)]) (by kernel_rfl) ?_
        refine Op.pures 1 [0, 1, 7, 8, 55] (L' := [(1, false), (2, false), (3, false), (4, false), (5, false), (6, false)]) (e' := [(0, .string (mkS a)), (1, .string (mkS b)), (7, .slice a1247 ((pList a).length) n1248), (8, .int .i64 (pErr a)), (55, .string (mkS b))]) (by kernel_rfl) ?_
        refine Op.call0 (dst := some 56) (f := 42) (args := #[.string (mkS b)]) (by kernel_rfl) s1244 (partsP _ _ _ s1244.sub hG b (by first | omega | (have := w_len (a := a) (b := b) (by assumption); have := pList_len a; have := pList_len b; omega) | (have := pList_len a; simp only [List.length_take]; omega) | (have := pList_len a; omega))) ?_
        rintro _ g1257 _ h1251 hle1258 s1252 ⟨v1253, rfl, hr1254, rfl⟩
        obtain ⟨a1255, n1256, rfl⟩ := hr1254.form
        replace hG := hG.mono hle1258
        replace hP := hP.mono hle1258
        replace hr1246 := hr1246.mono hle1258
        refine Op.pures 5 [0, 1, 7, 8, 9, 10] (L' := []) (e' := [(0, .string (mkS a)), (1, .string (mkS b)), (7, .slice a1247 ((pList a).length) n1248), (8, .int .i64 (pErr a)), (9, .slice a1255 ((pList b).length) n1256), (10, .int .i64 (pErr b))]) (by kernel_rfl) ?_
        refine Op.goto 19 (by kernel_rfl) ?_
        refine At.reg (L := [(0, false), (1, false), (2, false), (3, false), (4, false), (5, false)]) (by kernel_rfl) ?_
        refine Op.pures 3 [0, 1, 7, 9, 10, 61] (L' := [(3, false), (4, false), (5, false)]) (e' := [(0, .string (mkS a)), (1, .string (mkS b)), (7, .slice a1247 ((pList a).length) n1248), (9, .slice a1255 ((pList b).length) n1256), (10, .int .i64 (pErr b)), (61, .bool ((pErr a) != (0 : Int)))]) (by kernel_rfl) ?_
        refine Op.ways (b := (pErr a) != (0 : Int)) ⟨fun hb => ?_, fun hb => ?_⟩
        · refine Op.cast (e' := [(0, .string (mkS a)), (1, .string (mkS b)), (7, .slice a1247 ((pList a).length) n1248), (9, .slice a1255 ((pList b).length) n1256), (10, .int .i64 (pErr b)), (61, .bool true)]) (by rw [hb]) ?_
          have c1259 : ¬ ((pErr a) = (0 : Int)) := bneT hb
          clear hb
          refine Op.pures 3 [0, 1, 7, 9, 64] (L' := []) (e' := [(0, .string (mkS a)), (1, .string (mkS b)), (7, .slice a1247 ((pList a).length) n1248), (9, .slice a1255 ((pList b).length) n1256), (64, .bool true)]) (by kernel_rfl) ?_
          refine Op.goto 20 (by kernel_rfl) ?_
          refine At.condT (c := .tmp 64) (by kernel_rfl) (by kernel_rfl) (by kernel_rfl) 21 (by kernel_rfl) ?_
          refine At.reg (L := [(0, false), (1, false), (2, false), (3, false), (4, false), (5, false), (6, false), (7, false), (8, false), (9, false), (10, false)]) (by kernel_rfl) ?_
          refine Op.pures 2 [0, 1, 65, 66] (L' := [(2, false), (3, false), (4, false), (5, false), (6, false), (7, false), (8, false), (9, false), (10, false)]) (e' := [(0, .string (mkS a)), (1, .string (mkS b)), (65, .string (mkS a)), (66, .string (mkS b))]) (by kernel_rfl) ?_
          refine Op.call0 (dst := some 67) (f := 40) (args := #[.string (mkS a), .string (mkS b)]) (by kernel_rfl) s1252 (withinP _ _ _ s1252.sub hG a b (by first | omega | (have := w_len (a := a) (b := b) (by assumption); have := pList_len a; have := pList_len b; omega) | (have := pList_len a; simp only [List.length_take]; omega) | (have := pList_len a; omega)) (by first | omega | (have := w_len (a := a) (b := b) (by assumption); have := pList_len a; have := pList_len b; omega) | (have := pList_len a; simp only [List.length_take]; omega) | (have := pList_len a; omega))) ?_
          rintro _ g1262 _ h1260 hle1263 s1261 ⟨rfl, hgg, rfl⟩; subst g1262; clear hle1263
          refine Op.pures 2 [0, 1, 69] (L' := [(5, false), (6, false), (7, false), (8, false), (9, false), (10, false)]) (e' := [(0, .string (mkS a)), (1, .string (mkS b)), (69, .bool (!(withinB a b)))]) (by kernel_rfl) ?_
          refine Op.ways (b := !(withinB a b)) ⟨fun hb => ?_, fun hb => ?_⟩
          · refine Op.cast (e' := [(0, .string (mkS a)), (1, .string (mkS b)), (69, .bool true)]) (by rw [hb]) ?_
            have c1264 : (withinB a b) = false := (notT hb)
            clear hb
            refine Op.pures 2 [69, 70, 71] (L' := [(7, false), (8, false), (9, false), (10, false)]) (e' := [(69, .bool true), (70, .string (mkS b)), (71, .string (mkS a))]) (by kernel_rfl) ?_
            refine Op.call0 (dst := some 72) (f := 40) (args := #[.string (mkS b), .string (mkS a)]) (by kernel_rfl) s1261 (withinP _ _ _ s1261.sub hG b a (by first | omega | (have := w_len (a := a) (b := b) (by assumption); have := pList_len a; have := pList_len b; omega) | (have := pList_len a; simp only [List.length_take]; omega) | (have := pList_len a; omega)) (by first | omega | (have := w_len (a := a) (b := b) (by assumption); have := pList_len a; have := pList_len b; omega) | (have := pList_len a; simp only [List.length_take]; omega) | (have := pList_len a; omega))) ?_
            rintro _ g1267 _ h1265 hle1268 s1266 ⟨rfl, hgg, rfl⟩; subst g1267; clear hle1268
            refine Op.pures 3 [6] (L' := []) (e' := [(6, .bool (!(withinB b a)))]) (by kernel_rfl) ?_
            refine Op.goto 22 (by kernel_rfl) ?_
            refine At.ret (f := Tryd.f12) (v := .bool (!(withinB b a))) (by kernel_rfl) (by kernel_rfl) ?_
            refine hR _ _ _ _ s1266.fin ⟨?_, rfl, rfl⟩
            exact (eqB (by first | rfl | contradiction | exact absurd (w_trans (by assumption) (by assumption)) (Bool.eq_false_iff.1 c1264) | exact absurd (w_anti (by assumption) (by assumption)) c1264 | exact absurd (w_ok (by assumption)).1 (by assumption) | exact absurd (w_ok (by assumption)).2.1 (by assumption) | exact absurd (w_len (by assumption)) c1264 | exact decide_eq_true (w_take (by assumption)) | (rw [← within_n1 (by assumption)]; rfl) | (rw [← within_n2 (by assumption)]; rfl)))
          · refine Op.cast (e' := [(0, .string (mkS a)), (1, .string (mkS b)), (69, .bool false)]) (by rw [hb]) ?_
            have c1269 : (withinB a b) = true := (notF hb)
            clear hb
            refine Op.pures 6 [6] (L' := []) (e' := [(6, .bool false)]) (by kernel_rfl) ?_
            refine Op.goto 22 (by kernel_rfl) ?_
            refine At.ret (f := Tryd.f12) (v := .bool false) (by kernel_rfl) (by kernel_rfl) ?_
            refine hR _ _ _ _ s1261.fin ⟨?_, rfl, rfl⟩
            exact (eqB (by first | rfl | contradiction | exact absurd (w_trans (by assumption) (by assumption)) (Bool.eq_false_iff.1 c1269) | exact absurd (w_anti (by assumption) (by assumption)) c1269 | exact absurd (w_ok (by assumption)).1 (by assumption) | exact absurd (w_ok (by assumption)).2.1 (by assumption) | exact absurd (w_len (by assumption)) c1269 | exact decide_eq_true (w_take (by assumption)) | (rw [← within_n1 (by assumption)]; rfl) | (rw [← within_n2 (by assumption)]; rfl)))
        · refine Op.cast (e' := [(0, .string (mkS a)), (1, .string (mkS b)), (7, .slice a1247 ((pList a).length) n1248), (9, .slice a1255 ((pList b).length) n1256), (10, .int .i64 (pErr b)), (61, .bool false)]) (by rw [hb]) ?_
          have c1270 : (pErr a) = (0 : Int) := bneF hb
          clear hb
          refine Op.pures 3 [0, 1, 7, 9, 64] (L' := []) (e' := [(0, .string (mkS a)), (1, .string (mkS b)), (7, .slice a1247 ((pList a).length) n1248), (9, .slice a1255 ((pList b).length) n1256), (64, .bool ((pErr b) != (0 : Int)))]) (by kernel_rfl) ?_
          refine Op.goto 20 (by kernel_rfl) ?_
          refine At.cond (b := (pErr b) != (0 : Int)) (c := .tmp 64) (by kernel_rfl) (by kernel_rfl) (by kernel_rfl) 21 23 (by kernel_rfl) (by kernel_rfl) (fun hb => ?_) (fun hb => ?_)
          · have c1271 : ¬ ((pErr b) = (0 : Int)) := bneT hb
            clear hb
            refine At.keep [0, 1] ?_; show At _ _ _ [(0, .string (mkS a)), (1, .string (mkS b))] _
            refine At.reg (L := [(0, false), (1, false), (2, false), (3, false), (4, false), (5, false), (6, false), (7, false), (8, false), (9, false), (10, false)]) (by kernel_rfl) ?_
            refine Op.pures 2 [0, 1, 65, 66] (L' := [(2, false), (3, false), (4, false), (5, false), (6, false), (7, false), (8, false), (9, false), (10, false)]) (e' := [(0, .string (mkS a)), (1, .string (mkS b)), (65, .string (mkS a)), (66, .string (mkS b))]) (by kernel_rfl) ?_
            refine Op.call0 (dst := some 67) (f := 40) (args := #[.string (mkS a), .string (mkS b)]) (by kernel_rfl) s1252 (withinP _ _ _ s1252.sub hG a b (by first | omega | (have := w_len (a := a) (b := b) (by assumption); have := pList_len a; have := pList_len b; omega) | (have := pList_len a; simp only [List.length_take]; omega) | (have := pList_len a; omega)) (by first | omega | (have := w_len (a := a) (b := b) (by assumption); have := pList_len a; have := pList_len b; omega) | (have := pList_len a; simp only [List.length_take]; omega) | (have := pList_len a; omega))) ?_
            rintro _ g1274 _ h1272 hle1275 s1273 ⟨rfl, hgg, rfl⟩; subst g1274; clear hle1275
            refine Op.pures 2 [0, 1, 69] (L' := [(5, false), (6, false), (7, false), (8, false), (9, false), (10, false)]) (e' := [(0, .string (mkS a)), (1, .string (mkS b)), (69, .bool (!(withinB a b)))]) (by kernel_rfl) ?_
            refine Op.ways (b := !(withinB a b)) ⟨fun hb => ?_, fun hb => ?_⟩
            · refine Op.cast (e' := [(0, .string (mkS a)), (1, .string (mkS b)), (69, .bool true)]) (by rw [hb]) ?_
              have c1276 : (withinB a b) = false := (notT hb)
              clear hb
              refine Op.pures 2 [69, 70, 71] (L' := [(7, false), (8, false), (9, false), (10, false)]) (e' := [(69, .bool true), (70, .string (mkS b)), (71, .string (mkS a))]) (by kernel_rfl) ?_
              refine Op.call0 (dst := some 72) (f := 40) (args := #[.string (mkS b), .string (mkS a)]) (by kernel_rfl) s1273 (withinP _ _ _ s1273.sub hG b a (by first | omega | (have := w_len (a := a) (b := b) (by assumption); have := pList_len a; have := pList_len b; omega) | (have := pList_len a; simp only [List.length_take]; omega) | (have := pList_len a; omega)) (by first | omega | (have := w_len (a := a) (b := b) (by assumption); have := pList_len a; have := pList_len b; omega) | (have := pList_len a; simp only [List.length_take]; omega) | (have := pList_len a; omega))) ?_
              rintro _ g1279 _ h1277 hle1280 s1278 ⟨rfl, hgg, rfl⟩; subst g1279; clear hle1280
              refine Op.pures 3 [6] (L' := []) (e' := [(6, .bool (!(withinB b a)))]) (by kernel_rfl) ?_
              refine Op.goto 22 (by kernel_rfl) ?_
              refine At.ret (f := Tryd.f12) (v := .bool (!(withinB b a))) (by kernel_rfl) (by kernel_rfl) ?_
              refine hR _ _ _ _ s1278.fin ⟨?_, rfl, rfl⟩
              exact (eqB (by first | rfl | contradiction | exact absurd (w_trans (by assumption) (by assumption)) (Bool.eq_false_iff.1 c1276) | exact absurd (w_anti (by assumption) (by assumption)) c1276 | exact absurd (w_ok (by assumption)).1 (by assumption) | exact absurd (w_ok (by assumption)).2.1 (by assumption) | exact absurd (w_len (by assumption)) c1276 | exact decide_eq_true (w_take (by assumption)) | (rw [← within_n1 (by assumption)]; rfl) | (rw [← within_n2 (by assumption)]; rfl)))
            · refine Op.cast (e' := [(0, .string (mkS a)), (1, .string (mkS b)), (69, .bool false)]) (by rw [hb]) ?_
              have c1281 : (withinB a b) = true := (notF hb)
              clear hb
              refine Op.pures 6 [6] (L' := []) (e' := [(6, .bool false)]) (by kernel_rfl) ?_
              refine Op.goto 22 (by kernel_rfl) ?_
              refine At.ret (f := Tryd.f12) (v := .bool false) (by kernel_rfl) (by kernel_rfl) ?_
              refine hR _ _ _ _ s1273.fin ⟨?_, rfl, rfl⟩
              exact (eqB (by first | rfl | contradiction | exact absurd (w_trans (by assumption) (by assumption)) (Bool.eq_false_iff.1 c1281) | exact absurd (w_anti (by assumption) (by assumption)) c1281 | exact absurd (w_ok (by assumption)).1 (by assumption) | exact absurd (w_ok (by assumption)).2.1 (by assumption) | exact absurd (w_len (by assumption)) c1281 | exact decide_eq_true (w_take (by assumption)) | (rw [← within_n1 (by assumption)]; rfl) | (rw [← within_n2 (by assumption)]; rfl)))
          · have c1282 : (pErr b) = (0 : Int) := bneF hb
            clear hb
            refine At.keep [0, 1, 7, 9] ?_; show At _ _ _ [(0, .string (mkS a)), (1, .string (mkS b)), (7, .slice a1247 ((pList a).length) n1248), (9, .slice a1255 ((pList b).length) n1256)] _
            refine At.reg (L := [(0, false), (1, false), (2, false), (3, false), (4, false), (5, false), (6, false), (7, false), (8, false), (9, false), (10, false), (11, false), (12, false), (13, false), (14, false), (15, false), (16, false), (17, false), (18, false), (19, false)]) (by kernel_rfl) ?_
            refine Op.pures 2 [7, 9, 75, 76] (L' := [(2, false), (3, false), (4, false), (5, false), (6, false), (7, false), (8, false), (9, false), (10, false), (11, false), (12, false), (13, false), (14, false), (15, false), (16, false), (17, false), (18, false), (19, false)]) (e' := [(7, .slice a1247 ((pList a).length) n1248), (9, .slice a1255 ((pList b).length) n1256), (75, .string (mkS a)), (76, .string (mkS b))]) (by kernel_rfl) ?_
            refine Op.call0 (dst := some 77) (f := 40) (args := #[.string (mkS a), .string (mkS b)]) (by kernel_rfl) s1252 (withinP _ _ _ s1252.sub hG a b (by first | omega | (have := w_len (a := a) (b := b) (by assumption); have := pList_len a; have := pList_len b; omega) | (have := pList_len a; simp only [List.length_take]; omega) | (have := pList_len a; omega)) (by first | omega | (have := w_len (a := a) (b := b) (by assumption); have := pList_len a; have := pList_len b; omega) | (have := pList_len a; simp only [List.length_take]; omega) | (have := pList_len a; omega))) ?_
            rintro _ g1285 _ h1283 hle1286 s1284 ⟨rfl, hgg, rfl⟩; subst g1285; clear hle1286
            refine Op.pures 2 [7, 9, 79] (L' := [(5, false), (6, false), (7, false), (8, false), (9, false), (10, false), (11, false), (12, false), (13, false), (14, false), (15, false), (16, false), (17, false), (18, false), (19, false)]) (e' := [(7, .slice a1247 ((pList a).length) n1248), (9, .slice a1255 ((pList b).length) n1256), (79, .bool (!(withinB a b)))]) (by kernel_rfl) ?_
            refine Op.ways (b := !(withinB a b)) ⟨fun hb => ?_, fun hb => ?_⟩
            · refine Op.cast (e' := [(7, .slice a1247 ((pList a).length) n1248), (9, .slice a1255 ((pList b).length) n1256), (79, .bool true)]) (by rw [hb]) ?_
              have c1287 : (withinB a b) = false := (notT hb)
              clear hb
              refine Op.pures 15 [6] (L' := []) (e' := [(6, .bool true)]) (by kernel_rfl) ?_
              refine Op.goto 24 (by kernel_rfl) ?_
              refine At.ret (f := Tryd.f12) (v := .bool true) (by kernel_rfl) (by kernel_rfl) ?_
              refine hR _ _ _ _ s1284.fin ⟨?_, rfl, rfl⟩
              exact (eqB (by first | rfl | contradiction | exact absurd (w_trans (by assumption) (by assumption)) (Bool.eq_false_iff.1 c1287) | exact absurd (w_anti (by assumption) (by assumption)) c1287 | exact absurd (w_ok (by assumption)).1 (by assumption) | exact absurd (w_ok (by assumption)).2.1 (by assumption) | exact absurd (w_len (by assumption)) c1287 | exact decide_eq_true (w_take (by assumption)) | (rw [← within_n1 (by assumption)]; rfl) | (rw [← within_n2 (by assumption)]; rfl)))
            · refine Op.cast (e' := [(7, .slice a1247 ((pList a).length) n1248), (9, .slice a1255 ((pList b).length) n1256), (79, .bool false)]) (by rw [hb]) ?_
              have c1288 : (withinB a b) = true := (notF hb)
              clear hb
              refine Op.pures 6 [7, 9, 79, 85] (L' := [(11, false), (12, false), (13, false), (14, false), (15, false), (16, false), (17, false), (18, false), (19, false)]) (e' := [(7, .slice a1247 ((pList a).length) n1248), (9, .slice a1255 ((pList b).length) n1256), (79, .bool false), (85, .bool (decide (((pList a).length : Int) ≥ ((pList b).length : Int))))]) (by kernel_rfl) ?_
              refine Op.ways (b := decide (((pList a).length : Int) ≥ ((pList b).length : Int))) ⟨fun hb => ?_, fun hb => ?_⟩
              · refine Op.cast (e' := [(7, .slice a1247 ((pList a).length) n1248), (9, .slice a1255 ((pList b).length) n1256), (79, .bool false), (85, .bool true)]) (by rw [hb]) ?_
                have c1289 : ((pList a).length : Int) ≥ ((pList b).length : Int) := of_decide_eq_true hb
                clear hb
                refine Op.pures 3 [9, 79, 85, 86, 88] (L' := [(14, false), (15, false), (16, false), (17, false), (18, false), (19, false)]) (e' := [(9, .slice a1255 ((pList b).length) n1256), (79, .bool false), (85, .bool true), (86, .slice a1247 ((pList a).length) n1248), (88, .int .i64 ((pList b).length : Int))]) (by kernel_rfl) ?_
                refine Op.slHiD (T := 37) (E := 9) (by_ := 16) (x := (.tmp 86)) (ao := a1247) (n := ((pList a).length)) (c := n1248) (dst := 89) (d := kStr) (hi := (.tmp 88)) (k := .i64) (m := ((pList b).length : Int)) (by kernel_rfl) (by kernel_rfl) (by kernel_rfl) (by kernel_rfl) hr1246 (by first | omega | (have := w_len (a := a) (b := b) (by assumption); have := pList_len a; have := pList_len b; omega) | (have := pList_len a; simp only [List.length_take]; omega) | (have := pList_len a; omega)) (by first | omega | (have := w_len (a := a) (b := b) (by assumption); have := pList_len a; have := pList_len b; omega) | (have := pList_len a; simp only [List.length_take]; omega) | (have := pList_len a; omega)) ?_
                intro v1290 hr1291
                obtain ⟨a1292, n1293, rfl⟩ := hr1291.form
                refine Op.pures 1 [79, 85, 89, 90] (L' := [(16, false), (17, false), (18, false), (19, false)]) (e' := [(79, .bool false), (85, .bool true), (89, .slice a1292 (((pList a).take (((pList b).length : Int) : Int).toNat).length) n1293), (90, .slice a1255 ((pList b).length) n1256)]) (by kernel_rfl) ?_
                refine Op.call0 (dst := some 91) (f := 26) (args := #[.slice a1292 (((pList a).take (((pList b).length : Int) : Int).toNat).length) n1293, .slice a1255 ((pList b).length) n1256]) (by kernel_rfl) s1284 (sameTexts _ _ _ s1284.sub hG _ _ hr1291 _ _ hr1254 (by first | omega | (have := w_len (a := a) (b := b) (by assumption); have := pList_len a; have := pList_len b; omega) | (have := pList_len a; simp only [List.length_take]; omega) | (have := pList_len a; omega))) ?_
                rintro _ g1296 _ h1294 hle1297 s1295 ⟨rfl, hgg, rfl⟩; subst g1296; clear hle1297
                refine Op.pures 3 [6] (L' := []) (e' := [(6, .bool (decide (((pList a).take (((pList b).length : Int) : Int).toNat) = (pList b))))]) (by kernel_rfl) ?_
                refine Op.goto 24 (by kernel_rfl) ?_
                refine At.ret (f := Tryd.f12) (v := .bool (decide (((pList a).take (((pList b).length : Int) : Int).toNat) = (pList b)))) (by kernel_rfl) (by kernel_rfl) ?_
                refine hR _ _ _ _ s1295.fin ⟨?_, rfl, rfl⟩
                exact (eqB (by first | rfl | contradiction | exact absurd (w_trans (by assumption) (by assumption)) (Bool.eq_false_iff.1 c1289) | exact absurd (w_anti (by assumption) (by assumption)) c1289 | exact absurd (w_ok (by assumption)).1 (by assumption) | exact absurd (w_ok (by assumption)).2.1 (by assumption) | exact absurd (w_len (by assumption)) c1289 | exact decide_eq_true (w_take (by assumption)) | (rw [← within_n1 (by assumption)]; rfl) | (rw [← within_n2 (by assumption)]; rfl)))
              · refine Op.cast (e' := [(7, .slice a1247 ((pList a).length) n1248), (9, .slice a1255 ((pList b).length) n1256), (79, .bool false), (85, .bool false)]) (by rw [hb]) ?_
                have c1298 : ¬ (((pList a).length : Int) ≥ ((pList b).length : Int)) := of_decide_eq_false hb
                clear hb
                refine Op.pures 9 [6] (L' := []) (e' := [(6, .bool false)]) (by kernel_rfl) ?_
                refine Op.goto 24 (by kernel_rfl) ?_
                refine At.ret (f := Tryd.f12) (v := .bool false) (by kernel_rfl) (by kernel_rfl) ?_
                refine hR _ _ _ _ s1284.fin ⟨?_, rfl, rfl⟩
                exact (eqB (by first | rfl | contradiction | exact absurd (w_trans (by assumption) (by assumption)) (Bool.eq_false_iff.1 c1298) | exact absurd (w_anti (by assumption) (by assumption)) c1298 | exact absurd (w_ok (by assumption)).1 (by assumption) | exact absurd (w_ok (by assumption)).2.1 (by assumption) | exact absurd (w_len (by assumption)) c1298 | exact decide_eq_true (w_take (by assumption)) | (rw [← within_n1 (by assumption)]; rfl) | (rw [← within_n2 (by assumption)]; rfl)))

end Go.Proofs.YtphonojjgnbpfaaDoor.Sw
