/- Walks of the functions that are named below: what each computes, as plain Lean words. Printed by a program of our own. -/
import Derived.Test.YtphonojjgnbpfaaDoorSwPath3
import Derived.Test.YtphonojjgnbpfaaDoorSwPathS
namespace Go.Proofs.YtphonojjgnbpfaaDoor.Sw
open Go
set_option maxRecDepth 100000
set_option linter.unusedVariables false
set_option linter.unusedSimpArgs false
set_option linter.deprecated false


/-- stanchion/stanchionlaw09.PathNumbers -/
theorem lawNumbers (B : World) (h : Heap) (g : GH) (hg : Sub g h) (hG : Glob g) (p : List UInt8) (n : Int) (m : Int) (hP : Pow10 g) (hp : p.length ≤ 2000000) (hn0 : -9223372036854775808 ≤ n) (hn1 : n ≤ 9223372036854775807) (hm0 : -9223372036854775808 ≤ m) (hm1 : m ≤ 9223372036854775807) :
    Spec Tryd.prog B 11 #[.string (mkS p), .int .i64 n, .int .i64 m] h g [] (fun v g' L' => v = .bool true ∧ g' = g ∧ L' = []) := by
  refine Spec.of_at (f := Tryd.f11) (e := [(0, .string (mkS p)), (1, .int .i64 n), (2, .int .i64 m)]) Tryd.func11 (by kernel_rfl) (Nat.le_of_ble_eq_true (by kernel_rfl)) (by kernel_rfl) (by kernel_rfl) ?_
  intro R hR
  have s0 := St.init hg
  refine At.reg (L := [(0, false)]) (by kernel_rfl) ?_
  refine Op.pures 1 [0, 1, 2] (L' := []) (e' := [(0, .string (mkS p)), (1, .int .i64 n), (2, .int .i64 m)]) (by kernel_rfl) ?_
  refine Op.goto 1 (by kernel_rfl) ?_
  refine At.reg (L := [(0, false), (1, false)]) (by kernel_rfl) ?_
  refine Op.call0 (dst := some 11) (f := 33) (args := #[]) (by kernel_rfl) s0 (alive09 _ _ _ s0.sub hG  hP) ?_
  rintro _ g916 _ h914 hle917 s915 ⟨rfl, hgg, rfl⟩; subst g916; clear hle917
  refine Op.pures 1 [0, 1, 2, 12] (L' := []) (e' := [(0, .string (mkS p)), (1, .int .i64 n), (2, .int .i64 m), (12, .bool false)]) (by kernel_rfl) ?_
  refine Op.goto 2 (by kernel_rfl) ?_
  refine At.condF (c := .tmp 12) (by kernel_rfl) (by kernel_rfl) (by kernel_rfl) 5 (by kernel_rfl) ?_
  refine At.reg (L := [(0, false), (1, false), (2, false)]) (by kernel_rfl) ?_
  refine Op.pures 3 [0, 1, 2, 15] (L' := []) (e' := [(0, .string (mkS p)), (1, .int .i64 n), (2, .int .i64 m), (15, .bool (decide ((p.length : Int) > (5000 : Int))))]) (by kernel_rfl) ?_
  refine Op.goto 6 (by kernel_rfl) ?_
  refine At.cond (b := decide ((p.length : Int) > (5000 : Int))) (c := .tmp 15) (by kernel_rfl) (by kernel_rfl) (by kernel_rfl) 7 9 (by kernel_rfl) (by kernel_rfl) (fun hb => ?_) (fun hb => ?_)
  · have c918 : (p.length : Int) > (5000 : Int) := of_decide_eq_true hb
    clear hb
    refine At.keep [] ?_; show At _ _ _ [] _
    refine At.reg (L := [(0, false)]) (by kernel_rfl) ?_
    refine Op.pures 1 [6] (L' := []) (e' := [(6, .bool true)]) (by kernel_rfl) ?_
    refine Op.goto 8 (by kernel_rfl) ?_
    refine At.ret (f := Tryd.f11) (v := .bool true) (by kernel_rfl) (by kernel_rfl) ?_
    refine hR _ _ _ _ s915.fin ⟨?_, rfl, rfl⟩
    exact (eqB (by first | rfl | contradiction | exact absurd (numE_90 (by assumption)).1 c918 | exact absurd (numE_90 (by assumption)).2 c918 | exact beq_iff_eq.2 (numE_90 (by assumption)).1 | exact beq_iff_eq.2 (num_len (by assumption)) | exact absurd (beq_iff_eq.2 (num_lt (by assumption) (by assumption))) (Bool.eq_false_iff.1 c918) | exact absurd (num_lt (by assumption) (by assumption)) c918 | exact absurd (num_eq (by assumption) (by assumption)) c918 | exact absurd (beq_iff_eq.2 (num_eq (by assumption) (by assumption))) (Bool.eq_false_iff.1 c918)))
  · have c919 : ¬ ((p.length : Int) > (5000 : Int)) := of_decide_eq_false hb
    clear hb
    refine At.keep [0, 1, 2] ?_; show At _ _ _ [(0, .string (mkS p)), (1, .int .i64 n), (2, .int .i64 m)] _
    refine At.reg (L := [(0, false), (1, false), (2, false), (3, false), (4, false), (5, false), (6, false), (7, false)]) (by kernel_rfl) ?_
    refine Op.pures 2 [0, 1, 2, 17, 18] (L' := [(2, false), (3, false), (4, false), (5, false), (6, false), (7, false)]) (e' := [(0, .string (mkS p)), (1, .int .i64 n), (2, .int .i64 m), (17, .string (mkS p)), (18, .int .i64 n)]) (by kernel_rfl) ?_
    refine Op.call0 (dst := some 19) (f := 44) (args := #[.string (mkS p), .int .i64 n]) (by kernel_rfl) s915 (numberedP _ _ _ s915.sub hG p n hP (by first | omega | (have := numS_len p n (by omega); have := numS_len p m (by omega); omega)) (by first | omega | (have := numS_len p n (by omega); have := numS_len p m (by omega); omega)) (by first | omega | (have := numS_len p n (by omega); have := numS_len p m (by omega); omega))) ?_
    rintro _ g922 _ h920 hle923 s921 ⟨rfl, hgg, rfl⟩; subst g922; clear hle923
    refine Op.pures 5 [0, 1, 2, 7, 8] (L' := []) (e' := [(0, .string (mkS p)), (1, .int .i64 n), (2, .int .i64 m), (7, .string (mkS (numS p n))), (8, .int .i64 (numE p n))]) (by kernel_rfl) ?_
    refine Op.goto 10 (by kernel_rfl) ?_
    refine At.reg (L := [(0, false), (1, false), (2, false), (3, false), (4, false), (5, false), (6, false), (7, false)]) (by kernel_rfl) ?_
    refine Op.pures 2 [0, 1, 2, 7, 8, 23, 24] (L' := [(2, false), (3, false), (4, false), (5, false), (6, false), (7, false)]) (e' := [(0, .string (mkS p)), (1, .int .i64 n), (2, .int .i64 m), (7, .string (mkS (numS p n))), (8, .int .i64 (numE p n)), (23, .string (mkS p)), (24, .int .i64 m)]) (by kernel_rfl) ?_
    refine Op.call0 (dst := some 25) (f := 44) (args := #[.string (mkS p), .int .i64 m]) (by kernel_rfl) s921 (numberedP _ _ _ s921.sub hG p m hP (by first | omega | (have := numS_len p n (by omega); have := numS_len p m (by omega); omega)) (by first | omega | (have := numS_len p n (by omega); have := numS_len p m (by omega); omega)) (by first | omega | (have := numS_len p n (by omega); have := numS_len p m (by omega); omega))) ?_
    rintro _ g926 _ h924 hle927 s925 ⟨rfl, hgg, rfl⟩; subst g926; clear hle927
    refine Op.pures 5 [0, 1, 2, 7, 8, 9, 10] (L' := []) (e' := [(0, .string (mkS p)), (1, .int .i64 n), (2, .int .i64 m), (7, .string (mkS (numS p n))), (8, .int .i64 (numE p n)), (9, .string (mkS (numS p m))), (10, .int .i64 (numE p m))]) (by kernel_rfl) ?_
    refine Op.goto 11 (by kernel_rfl) ?_
    refine At.reg (L := [(0, false), (1, false), (2, false), (3, false), (4, false), (5, false)]) (by kernel_rfl) ?_
    refine Op.pures 3 [0, 1, 2, 7, 8, 9, 10, 30] (L' := [(3, false), (4, false), (5, false)]) (e' := [(0, .string (mkS p)), (1, .int .i64 n), (2, .int .i64 m), (7, .string (mkS (numS p n))), (8, .int .i64 (numE p n)), (9, .string (mkS (numS p m))), (10, .int .i64 (numE p m)), (30, .bool ((numE p n) != (0 : Int)))]) (by kernel_rfl) ?_
    refine Op.ways (b := (numE p n) != (0 : Int)) ⟨fun hb => ?_, fun hb => ?_⟩
    · refine Op.cast (e' := [(0, .string (mkS p)), (1, .int .i64 n), (2, .int .i64 m), (7, .string (mkS (numS p n))), (8, .int .i64 (numE p n)), (9, .string (mkS (numS p m))), (10, .int .i64 (numE p m)), (30, .bool true)]) (by rw [hb]) ?_
      have c928 : ¬ ((numE p n) = (0 : Int)) := bneT hb
      clear hb
      refine Op.pures 3 [0, 1, 2, 7, 8, 9, 10, 33] (L' := []) (e' := [(0, .string (mkS p)), (1, .int .i64 n), (2, .int .i64 m), (7, .string (mkS (numS p n))), (8, .int .i64 (numE p n)), (9, .string (mkS (numS p m))), (10, .int .i64 (numE p m)), (33, .bool true)]) (by kernel_rfl) ?_
      refine Op.goto 12 (by kernel_rfl) ?_
      refine At.condT (c := .tmp 33) (by kernel_rfl) (by kernel_rfl) (by kernel_rfl) 13 (by kernel_rfl) ?_
      refine At.reg (L := [(0, false), (1, false), (2, false), (3, false), (4, false), (5, false), (6, false), (7, false), (8, false), (9, false), (10, false), (11, false), (12, false), (13, false), (14, false), (15, false), (16, false), (17, false), (18, false), (19, false), (20, false), (21, false), (22, false)]) (by kernel_rfl) ?_
      refine Op.pures 3 [7, 8, 9, 10, 36] (L' := [(3, false), (4, false), (5, false), (6, false), (7, false), (8, false), (9, false), (10, false), (11, false), (12, false), (13, false), (14, false), (15, false), (16, false), (17, false), (18, false), (19, false), (20, false), (21, false), (22, false)]) (e' := [(7, .string (mkS (numS p n))), (8, .int .i64 (numE p n)), (9, .string (mkS (numS p m))), (10, .int .i64 (numE p m)), (36, .bool ((numE p n) == (0 : Int)))]) (by kernel_rfl) ?_
      refine Op.ways (b := (numE p n) == (0 : Int)) ⟨fun hb => ?_, fun hb => ?_⟩
      · refine Op.cast (e' := [(7, .string (mkS (numS p n))), (8, .int .i64 (numE p n)), (9, .string (mkS (numS p m))), (10, .int .i64 (numE p m)), (36, .bool true)]) (by rw [hb]) ?_
        have c929 : (numE p n) = (0 : Int) := eq_of_beq hb
        clear hb
        refine Op.pures 11 [9, 10, 44, 47] (L' := [(14, false), (15, false), (16, false), (17, false), (18, false), (19, false), (20, false), (21, false), (22, false)]) (e' := [(9, .string (mkS (numS p m))), (10, .int .i64 (numE p m)), (44, .bool true), (47, .bool ((numE p m) == (0 : Int)))]) (by kernel_rfl) ?_
        refine Op.ways (b := (numE p m) == (0 : Int)) ⟨fun hb => ?_, fun hb => ?_⟩
        · refine Op.cast (e' := [(9, .string (mkS (numS p m))), (10, .int .i64 (numE p m)), (44, .bool true), (47, .bool true)]) (by rw [hb]) ?_
          have c930 : (numE p m) = (0 : Int) := eq_of_beq hb
          clear hb
          refine Op.pures 9 [6] (L' := []) (e' := [(6, .bool true)]) (by kernel_rfl) ?_
          refine Op.goto 14 (by kernel_rfl) ?_
          refine At.ret (f := Tryd.f11) (v := .bool true) (by kernel_rfl) (by kernel_rfl) ?_
          refine hR _ _ _ _ s925.fin ⟨?_, rfl, rfl⟩
          exact (eqB (by first | rfl | contradiction | exact absurd (numE_90 (by assumption)).1 c930 | exact absurd (numE_90 (by assumption)).2 c930 | exact beq_iff_eq.2 (numE_90 (by assumption)).1 | exact beq_iff_eq.2 (num_len (by assumption)) | exact absurd (beq_iff_eq.2 (num_lt (by assumption) (by assumption))) (Bool.eq_false_iff.1 c930) | exact absurd (num_lt (by assumption) (by assumption)) c930 | exact absurd (num_eq (by assumption) (by assumption)) c930 | exact absurd (beq_iff_eq.2 (num_eq (by assumption) (by assumption))) (Bool.eq_false_iff.1 c930)))
        · refine Op.cast (e' := [(9, .string (mkS (numS p m))), (10, .int .i64 (numE p m)), (44, .bool true), (47, .bool false)]) (by rw [hb]) ?_
          have c931 : ¬ ((numE p m) = (0 : Int)) := neF hb
          clear hb
          refine Op.pures 1 [10, 44, 47, 48] (L' := [(15, false), (16, false), (17, false), (18, false), (19, false), (20, false), (21, false), (22, false)]) (e' := [(10, .int .i64 (numE p m)), (44, .bool true), (47, .bool false), (48, .string (mkS (numS p m)))]) (by kernel_rfl) ?_
          refine Op.val (dst := some 49) (v := .bool ((mkS (numS p m)).toList == (mkS []).toList)) (v' := .bool ((numS p m) == ([] : List UInt8))) (by kernel_rfl) (by rw [toList_mkS, toList_mkS]) ?_
          refine Op.pures 1 [10, 44, 47, 50] (L' := [(17, false), (18, false), (19, false), (20, false), (21, false), (22, false)]) (e' := [(10, .int .i64 (numE p m)), (44, .bool true), (47, .bool false), (50, .bool ((numS p m) == ([] : List UInt8)))]) (by kernel_rfl) ?_
          refine Op.ways (b := (numS p m) == ([] : List UInt8)) ⟨fun hb => ?_, fun hb => ?_⟩
          · refine Op.cast (e' := [(10, .int .i64 (numE p m)), (44, .bool true), (47, .bool false), (50, .bool true)]) (by rw [hb]) ?_
            have c932 : (numS p m) = ([] : List UInt8) := eq_of_beq hb
            clear hb
            refine Op.pures 6 [6] (L' := []) (e' := [(6, .bool ((numE p m) == (90 : Int)))]) (by kernel_rfl) ?_
            refine Op.goto 14 (by kernel_rfl) ?_
            refine At.ret (f := Tryd.f11) (v := .bool ((numE p m) == (90 : Int))) (by kernel_rfl) (by kernel_rfl) ?_
            refine hR _ _ _ _ s925.fin ⟨?_, rfl, rfl⟩
            exact (eqB (by first | rfl | contradiction | exact absurd (numE_90 (by assumption)).1 c932 | exact absurd (numE_90 (by assumption)).2 c932 | exact beq_iff_eq.2 (numE_90 (by assumption)).1 | exact beq_iff_eq.2 (num_len (by assumption)) | exact absurd (beq_iff_eq.2 (num_lt (by assumption) (by assumption))) (Bool.eq_false_iff.1 c932) | exact absurd (num_lt (by assumption) (by assumption)) c932 | exact absurd (num_eq (by assumption) (by assumption)) c932 | exact absurd (beq_iff_eq.2 (num_eq (by assumption) (by assumption))) (Bool.eq_false_iff.1 c932)))
          · refine Op.cast (e' := [(10, .int .i64 (numE p m)), (44, .bool true), (47, .bool false), (50, .bool false)]) (by rw [hb]) ?_
            have c933 : ¬ ((numS p m) = ([] : List UInt8)) := neF hb
            clear hb
            refine Op.pures 6 [6] (L' := []) (e' := [(6, .bool false)]) (by kernel_rfl) ?_
            refine Op.goto 14 (by kernel_rfl) ?_
            refine At.ret (f := Tryd.f11) (v := .bool false) (by kernel_rfl) (by kernel_rfl) ?_
            refine hR _ _ _ _ s925.fin ⟨?_, rfl, rfl⟩
            exact (eqB (by first | rfl | contradiction | exact absurd (numE_90 (by assumption)).1 c933 | exact absurd (numE_90 (by assumption)).2 c933 | exact beq_iff_eq.2 (numE_90 (by assumption)).1 | exact beq_iff_eq.2 (num_len (by assumption)) | exact absurd (beq_iff_eq.2 (num_lt (by assumption) (by assumption))) (Bool.eq_false_iff.1 c933) | exact absurd (num_lt (by assumption) (by assumption)) c933 | exact absurd (num_eq (by assumption) (by assumption)) c933 | exact absurd (beq_iff_eq.2 (num_eq (by assumption) (by assumption))) (Bool.eq_false_iff.1 c933)))
      · refine Op.cast (e' := [(7, .string (mkS (numS p n))), (8, .int .i64 (numE p n)), (9, .string (mkS (numS p m))), (10, .int .i64 (numE p m)), (36, .bool false)]) (by rw [hb]) ?_
        have c934 : ¬ ((numE p n) = (0 : Int)) := neF hb
        clear hb
        refine Op.pures 1 [8, 9, 10, 36, 37] (L' := [(4, false), (5, false), (6, false), (7, false), (8, false), (9, false), (10, false), (11, false), (12, false), (13, false), (14, false), (15, false), (16, false), (17, false), (18, false), (19, false), (20, false), (21, false), (22, false)]) (e' := [(8, .int .i64 (numE p n)), (9, .string (mkS (numS p m))), (10, .int .i64 (numE p m)), (36, .bool false), (37, .string (mkS (numS p n)))]) (by kernel_rfl) ?_
        refine Op.val (dst := some 38) (v := .bool ((mkS (numS p n)).toList == (mkS []).toList)) (v' := .bool ((numS p n) == ([] : List UInt8))) (by kernel_rfl) (by rw [toList_mkS, toList_mkS]) ?_
        refine Op.pures 1 [8, 9, 10, 36, 39] (L' := [(6, false), (7, false), (8, false), (9, false), (10, false), (11, false), (12, false), (13, false), (14, false), (15, false), (16, false), (17, false), (18, false), (19, false), (20, false), (21, false), (22, false)]) (e' := [(8, .int .i64 (numE p n)), (9, .string (mkS (numS p m))), (10, .int .i64 (numE p m)), (36, .bool false), (39, .bool ((numS p n) == ([] : List UInt8)))]) (by kernel_rfl) ?_
        refine Op.ways (b := (numS p n) == ([] : List UInt8)) ⟨fun hb => ?_, fun hb => ?_⟩
        · refine Op.cast (e' := [(8, .int .i64 (numE p n)), (9, .string (mkS (numS p m))), (10, .int .i64 (numE p m)), (36, .bool false), (39, .bool true)]) (by rw [hb]) ?_
          have c935 : (numS p n) = ([] : List UInt8) := eq_of_beq hb
          clear hb
          refine Op.pures 5 [9, 10, 44] (L' := [(11, false), (12, false), (13, false), (14, false), (15, false), (16, false), (17, false), (18, false), (19, false), (20, false), (21, false), (22, false)]) (e' := [(9, .string (mkS (numS p m))), (10, .int .i64 (numE p m)), (44, .bool ((numE p n) == (90 : Int)))]) (by kernel_rfl) ?_
          refine Op.ways (b := (numE p n) == (90 : Int)) ⟨fun hb => ?_, fun hb => ?_⟩
          · refine Op.cast (e' := [(9, .string (mkS (numS p m))), (10, .int .i64 (numE p m)), (44, .bool true)]) (by rw [hb]) ?_
            have c936 : (numE p n) = (90 : Int) := eq_of_beq hb
            clear hb
            refine Op.pures 3 [9, 10, 44, 47] (L' := [(14, false), (15, false), (16, false), (17, false), (18, false), (19, false), (20, false), (21, false), (22, false)]) (e' := [(9, .string (mkS (numS p m))), (10, .int .i64 (numE p m)), (44, .bool true), (47, .bool ((numE p m) == (0 : Int)))]) (by kernel_rfl) ?_
            refine Op.ways (b := (numE p m) == (0 : Int)) ⟨fun hb => ?_, fun hb => ?_⟩
            · refine Op.cast (e' := [(9, .string (mkS (numS p m))), (10, .int .i64 (numE p m)), (44, .bool true), (47, .bool true)]) (by rw [hb]) ?_
              have c937 : (numE p m) = (0 : Int) := eq_of_beq hb
              clear hb
              refine Op.pures 9 [6] (L' := []) (e' := [(6, .bool true)]) (by kernel_rfl) ?_
              refine Op.goto 14 (by kernel_rfl) ?_
              refine At.ret (f := Tryd.f11) (v := .bool true) (by kernel_rfl) (by kernel_rfl) ?_
              refine hR _ _ _ _ s925.fin ⟨?_, rfl, rfl⟩
              exact (eqB (by first | rfl | contradiction | exact absurd (numE_90 (by assumption)).1 c937 | exact absurd (numE_90 (by assumption)).2 c937 | exact beq_iff_eq.2 (numE_90 (by assumption)).1 | exact beq_iff_eq.2 (num_len (by assumption)) | exact absurd (beq_iff_eq.2 (num_lt (by assumption) (by assumption))) (Bool.eq_false_iff.1 c937) | exact absurd (num_lt (by assumption) (by assumption)) c937 | exact absurd (num_eq (by assumption) (by assumption)) c937 | exact absurd (beq_iff_eq.2 (num_eq (by assumption) (by assumption))) (Bool.eq_false_iff.1 c937)))
            · refine Op.cast (e' := [(9, .string (mkS (numS p m))), (10, .int .i64 (numE p m)), (44, .bool true), (47, .bool false)]) (by rw [hb]) ?_
              have c938 : ¬ ((numE p m) = (0 : Int)) := neF hb
              clear hb
              refine Op.pures 1 [10, 44, 47, 48] (L' := [(15, false), (16, false), (17, false), (18, false), (19, false), (20, false), (21, false), (22, false)]) (e' := [(10, .int .i64 (numE p m)), (44, .bool true), (47, .bool false), (48, .string (mkS (numS p m)))]) (by kernel_rfl) ?_
              refine Op.val (dst := some 49) (v := .bool ((mkS (numS p m)).toList == (mkS []).toList)) (v' := .bool ((numS p m) == ([] : List UInt8))) (by kernel_rfl) (by rw [toList_mkS, toList_mkS]) ?_
              refine Op.pures 1 [10, 44, 47, 50] (L' := [(17, false), (18, false), (19, false), (20, false), (21, false), (22, false)]) (e' := [(10, .int .i64 (numE p m)), (44, .bool true), (47, .bool false), (50, .bool ((numS p m) == ([] : List UInt8)))]) (by kernel_rfl) ?_
              refine Op.ways (b := (numS p m) == ([] : List UInt8)) ⟨fun hb => ?_, fun hb => ?_⟩
              · refine Op.cast (e' := [(10, .int .i64 (numE p m)), (44, .bool true), (47, .bool false), (50, .bool true)]) (by rw [hb]) ?_
                have c939 : (numS p m) = ([] : List UInt8) := eq_of_beq hb
                clear hb
                refine Op.pures 6 [6] (L' := []) (e' := [(6, .bool ((numE p m) == (90 : Int)))]) (by kernel_rfl) ?_
                refine Op.goto 14 (by kernel_rfl) ?_
                refine At.ret (f := Tryd.f11) (v := .bool ((numE p m) == (90 : Int))) (by kernel_rfl) (by kernel_rfl) ?_
                refine hR _ _ _ _ s925.fin ⟨?_, rfl, rfl⟩
                exact (eqB (by first | rfl | contradiction | exact absurd (numE_90 (by assumption)).1 c939 | exact absurd (numE_90 (by assumption)).2 c939 | exact beq_iff_eq.2 (numE_90 (by assumption)).1 | exact beq_iff_eq.2 (num_len (by assumption)) | exact absurd (beq_iff_eq.2 (num_lt (by assumption) (by assumption))) (Bool.eq_false_iff.1 c939) | exact absurd (num_lt (by assumption) (by assumption)) c939 | exact absurd (num_eq (by assumption) (by assumption)) c939 | exact absurd (beq_iff_eq.2 (num_eq (by assumption) (by assumption))) (Bool.eq_false_iff.1 c939)))
              · refine Op.cast (e' := [(10, .int .i64 (numE p m)), (44, .bool true), (47, .bool false), (50, .bool false)]) (by rw [hb]) ?_
                have c940 : ¬ ((numS p m) = ([] : List UInt8)) := neF hb
                clear hb
                refine Op.pures 6 [6] (L' := []) (e' := [(6, .bool false)]) (by kernel_rfl) ?_
                refine Op.goto 14 (by kernel_rfl) ?_
                refine At.ret (f := Tryd.f11) (v := .bool false) (by kernel_rfl) (by kernel_rfl) ?_
                refine hR _ _ _ _ s925.fin ⟨?_, rfl, rfl⟩
                exact (eqB (by first | rfl | contradiction | exact absurd (numE_90 (by assumption)).1 c940 | exact absurd (numE_90 (by assumption)).2 c940 | exact beq_iff_eq.2 (numE_90 (by assumption)).1 | exact beq_iff_eq.2 (num_len (by assumption)) | exact absurd (beq_iff_eq.2 (num_lt (by assumption) (by assumption))) (Bool.eq_false_iff.1 c940) | exact absurd (num_lt (by assumption) (by assumption)) c940 | exact absurd (num_eq (by assumption) (by assumption)) c940 | exact absurd (beq_iff_eq.2 (num_eq (by assumption) (by assumption))) (Bool.eq_false_iff.1 c940)))
          · refine Op.cast (e' := [(9, .string (mkS (numS p m))), (10, .int .i64 (numE p m)), (44, .bool false)]) (by rw [hb]) ?_
            have c941 : ¬ ((numE p n) = (90 : Int)) := neF hb
            clear hb
            refine Op.pures 12 [6] (L' := []) (e' := [(6, .bool false)]) (by kernel_rfl) ?_
            refine Op.goto 14 (by kernel_rfl) ?_
            refine At.ret (f := Tryd.f11) (v := .bool false) (by kernel_rfl) (by kernel_rfl) ?_
            refine hR _ _ _ _ s925.fin ⟨?_, rfl, rfl⟩
            exact (eqB (by first | rfl | contradiction | exact absurd (numE_90 (by assumption)).1 c941 | exact absurd (numE_90 (by assumption)).2 c941 | exact beq_iff_eq.2 (numE_90 (by assumption)).1 | exact beq_iff_eq.2 (num_len (by assumption)) | exact absurd (beq_iff_eq.2 (num_lt (by assumption) (by assumption))) (Bool.eq_false_iff.1 c941) | exact absurd (num_lt (by assumption) (by assumption)) c941 | exact absurd (num_eq (by assumption) (by assumption)) c941 | exact absurd (beq_iff_eq.2 (num_eq (by assumption) (by assumption))) (Bool.eq_false_iff.1 c941)))
        · refine Op.cast (e' := [(8, .int .i64 (numE p n)), (9, .string (mkS (numS p m))), (10, .int .i64 (numE p m)), (36, .bool false), (39, .bool false)]) (by rw [hb]) ?_
          have c942 : ¬ ((numS p n) = ([] : List UInt8)) := neF hb
          clear hb
          refine Op.pures 17 [6] (L' := []) (e' := [(6, .bool false)]) (by kernel_rfl) ?_
          refine Op.goto 14 (by kernel_rfl) ?_
          refine At.ret (f := Tryd.f11) (v := .bool false) (by kernel_rfl) (by kernel_rfl) ?_
          refine hR _ _ _ _ s925.fin ⟨?_, rfl, rfl⟩
          exact (eqB (by first | rfl | contradiction | exact absurd (numE_90 (by assumption)).1 c942 | exact absurd (numE_90 (by assumption)).2 c942 | exact beq_iff_eq.2 (numE_90 (by assumption)).1 | exact beq_iff_eq.2 (num_len (by assumption)) | exact absurd (beq_iff_eq.2 (num_lt (by assumption) (by assumption))) (Bool.eq_false_iff.1 c942) | exact absurd (num_lt (by assumption) (by assumption)) c942 | exact absurd (num_eq (by assumption) (by assumption)) c942 | exact absurd (beq_iff_eq.2 (num_eq (by assumption) (by assumption))) (Bool.eq_false_iff.1 c942)))
    · refine Op.cast (e' := [(0, .string (mkS p)), (1, .int .i64 n), (2, .int .i64 m), (7, .string (mkS (numS p n))), (8, .int .i64 (numE p n)), (9, .string (mkS (numS p m))), (10, .int .i64 (numE p m)), (30, .bool false)]) (by rw [hb]) ?_
      have c943 : (numE p n) = (0 : Int) := bneF hb
      clear hb
      refine Op.pures 3 [0, 1, 2, 7, 8, 9, 10, 33] (L' := []) (e' := [(0, .string (mkS p)), (1, .int .i64 n), (2, .int .i64 m), (7, .string (mkS (numS p n))), (8, .int .i64 (numE p n)), (9, .string (mkS (numS p m))), (10, .int .i64 (numE p m)), (33, .bool ((numE p m) != (0 : Int)))]) (by kernel_rfl) ?_
      refine Op.goto 12 (by kernel_rfl) ?_
      refine At.cond (b := (numE p m) != (0 : Int)) (c := .tmp 33) (by kernel_rfl) (by kernel_rfl) (by kernel_rfl) 13 15 (by kernel_rfl) (by kernel_rfl) (fun hb => ?_) (fun hb => ?_)
      · have c944 : ¬ ((numE p m) = (0 : Int)) := bneT hb
        clear hb
        refine At.keep [7, 8, 9, 10] ?_; show At _ _ _ [(7, .string (mkS (numS p n))), (8, .int .i64 (numE p n)), (9, .string (mkS (numS p m))), (10, .int .i64 (numE p m))] _
        refine At.reg (L := [(0, false), (1, false), (2, false), (3, false), (4, false), (5, false), (6, false), (7, false), (8, false), (9, false), (10, false), (11, false), (12, false), (13, false), (14, false), (15, false), (16, false), (17, false), (18, false), (19, false), (20, false), (21, false), (22, false)]) (by kernel_rfl) ?_
        refine Op.pures 3 [7, 8, 9, 10, 36] (L' := [(3, false), (4, false), (5, false), (6, false), (7, false), (8, false), (9, false), (10, false), (11, false), (12, false), (13, false), (14, false), (15, false), (16, false), (17, false), (18, false), (19, false), (20, false), (21, false), (22, false)]) (e' := [(7, .string (mkS (numS p n))), (8, .int .i64 (numE p n)), (9, .string (mkS (numS p m))), (10, .int .i64 (numE p m)), (36, .bool ((numE p n) == (0 : Int)))]) (by kernel_rfl) ?_
        refine Op.ways (b := (numE p n) == (0 : Int)) ⟨fun hb => ?_, fun hb => ?_⟩
        · refine Op.cast (e' := [(7, .string (mkS (numS p n))), (8, .int .i64 (numE p n)), (9, .string (mkS (numS p m))), (10, .int .i64 (numE p m)), (36, .bool true)]) (by rw [hb]) ?_
          have c945 : (numE p n) = (0 : Int) := eq_of_beq hb
          clear hb
          refine Op.pures 11 [9, 10, 44, 47] (L' := [(14, false), (15, false), (16, false), (17, false), (18, false), (19, false), (20, false), (21, false), (22, false)]) (e' := [(9, .string (mkS (numS p m))), (10, .int .i64 (numE p m)), (44, .bool true), (47, .bool ((numE p m) == (0 : Int)))]) (by kernel_rfl) ?_
          refine Op.ways (b := (numE p m) == (0 : Int)) ⟨fun hb => ?_, fun hb => ?_⟩
          · refine Op.cast (e' := [(9, .string (mkS (numS p m))), (10, .int .i64 (numE p m)), (44, .bool true), (47, .bool true)]) (by rw [hb]) ?_
            have c946 : (numE p m) = (0 : Int) := eq_of_beq hb
            clear hb
            refine Op.pures 9 [6] (L' := []) (e' := [(6, .bool true)]) (by kernel_rfl) ?_
            refine Op.goto 14 (by kernel_rfl) ?_
            refine At.ret (f := Tryd.f11) (v := .bool true) (by kernel_rfl) (by kernel_rfl) ?_
            refine hR _ _ _ _ s925.fin ⟨?_, rfl, rfl⟩
            exact (eqB (by first | rfl | contradiction | exact absurd (numE_90 (by assumption)).1 c946 | exact absurd (numE_90 (by assumption)).2 c946 | exact beq_iff_eq.2 (numE_90 (by assumption)).1 | exact beq_iff_eq.2 (num_len (by assumption)) | exact absurd (beq_iff_eq.2 (num_lt (by assumption) (by assumption))) (Bool.eq_false_iff.1 c946) | exact absurd (num_lt (by assumption) (by assumption)) c946 | exact absurd (num_eq (by assumption) (by assumption)) c946 | exact absurd (beq_iff_eq.2 (num_eq (by assumption) (by assumption))) (Bool.eq_false_iff.1 c946)))
          · refine Op.cast (e' := [(9, .string (mkS (numS p m))), (10, .int .i64 (numE p m)), (44, .bool true), (47, .bool false)]) (by rw [hb]) ?_
            have c947 : ¬ ((numE p m) = (0 : Int)) := neF hb
            clear hb
            refine Op.pures 1 [10, 44, 47, 48] (L' := [(15, false), (16, false), (17, false), (18, false), (19, false), (20, false), (21, false), (22, false)]) (e' := [(10, .int .i64 (numE p m)), (44, .bool true), (47, .bool false), (48, .string (mkS (numS p m)))]) (by kernel_rfl) ?_
            refine Op.val (dst := some 49) (v := .bool ((mkS (numS p m)).toList == (mkS []).toList)) (v' := .bool ((numS p m) == ([] : List UInt8))) (by kernel_rfl) (by rw [toList_mkS, toList_mkS]) ?_
            refine Op.pures 1 [10, 44, 47, 50] (L' := [(17, false), (18, false), (19, false), (20, false), (21, false), (22, false)]) (e' := [(10, .int .i64 (numE p m)), (44, .bool true), (47, .bool false), (50, .bool ((numS p m) == ([] : List UInt8)))]) (by kernel_rfl) ?_
            refine Op.ways (b := (numS p m) == ([] : List UInt8)) ⟨fun hb => ?_, fun hb => ?_⟩
            · refine Op.cast (e' := [(10, .int .i64 (numE p m)), (44, .bool true), (47, .bool false), (50, .bool true)]) (by rw [hb]) ?_
              have c948 : (numS p m) = ([] : List UInt8) := eq_of_beq hb
              clear hb
              refine Op.pures 6 [6] (L' := []) (e' := [(6, .bool ((numE p m) == (90 : Int)))]) (by kernel_rfl) ?_
              refine Op.goto 14 (by kernel_rfl) ?_
              refine At.ret (f := Tryd.f11) (v := .bool ((numE p m) == (90 : Int))) (by kernel_rfl) (by kernel_rfl) ?_
              refine hR _ _ _ _ s925.fin ⟨?_, rfl, rfl⟩
              exact (eqB (by first | rfl | contradiction | exact absurd (numE_90 (by assumption)).1 c948 | exact absurd (numE_90 (by assumption)).2 c948 | exact beq_iff_eq.2 (numE_90 (by assumption)).1 | exact beq_iff_eq.2 (num_len (by assumption)) | exact absurd (beq_iff_eq.2 (num_lt (by assumption) (by assumption))) (Bool.eq_false_iff.1 c948) | exact absurd (num_lt (by assumption) (by assumption)) c948 | exact absurd (num_eq (by assumption) (by assumption)) c948 | exact absurd (beq_iff_eq.2 (num_eq (by assumption) (by assumption))) (Bool.eq_false_iff.1 c948)))
            · refine Op.cast (e' := [(10, .int .i64 (numE p m)), (44, .bool true), (47, .bool false), (50, .bool false)]) (by rw [hb]) ?_
              have c949 : ¬ ((numS p m) = ([] : List UInt8)) := neF hb
              clear hb
              refine Op.pures 6 [6] (L' := []) (e' := [(6, .bool false)]) (by kernel_rfl) ?_
              refine Op.goto 14 (by kernel_rfl) ?_
              refine At.ret (f := Tryd.f11) (v := .bool false) (by kernel_rfl) (by kernel_rfl) ?_
              refine hR _ _ _ _ s925.fin ⟨?_, rfl, rfl⟩
              exact (eqB (by first | rfl | contradiction | exact absurd (numE_90 (by assumption)).1 c949 | exact absurd (numE_90 (by assumption)).2 c949 | exact beq_iff_eq.2 (numE_90 (by assumption)).1 | exact beq_iff_eq.2 (num_len (by assumption)) | exact absurd (beq_iff_eq.2 (num_lt (by assumption) (by assumption))) (Bool.eq_false_iff.1 c949) | exact absurd (num_lt (by assumption) (by assumption)) c949 | exact absurd (num_eq (by assumption) (by assumption)) c949 | exact absurd (beq_iff_eq.2 (num_eq (by assumption) (by assumption))) (Bool.eq_false_iff.1 c949)))
        · refine Op.cast (e' := [(7, .string (mkS (numS p n))), (8, .int .i64 (numE p n)), (9, .string (mkS (numS p m))), (10, .int .i64 (numE p m)), (36, .bool false)]) (by rw [hb]) ?_
          have c950 : ¬ ((numE p n) = (0 : Int)) := neF hb
          clear hb
          refine Op.pures 1 [8, 9, 10, 36, 37] (L' := [(4, false), (5, false), (6, false), (7, false), (8, false), (9, false), (10, false), (11, false), (12, false), (13, false), (14, false), (15, false), (16, false), (17, false), (18, false), (19, false), (20, false), (21, false), (22, false)]) (e' := [(8, .int .i64 (numE p n)), (9, .string (mkS (numS p m))), (10, .int .i64 (numE p m)), (36, .bool false), (37, .string (mkS (numS p n)))]) (by kernel_rfl) ?_
          refine Op.val (dst := some 38) (v := .bool ((mkS (numS p n)).toList == (mkS []).toList)) (v' := .bool ((numS p n) == ([] : List UInt8))) (by kernel_rfl) (by rw [toList_mkS, toList_mkS]) ?_
          refine Op.pures 1 [8, 9, 10, 36, 39] (L' := [(6, false), (7, false), (8, false), (9, false), (10, false), (11, false), (12, false), (13, false), (14, false), (15, false), (16, false), (17, false), (18, false), (19, false), (20, false), (21, false), (22, false)]) (e' := [(8, .int .i64 (numE p n)), (9, .string (mkS (numS p m))), (10, .int .i64 (numE p m)), (36, .bool false), (39, .bool ((numS p n) == ([] : List UInt8)))]) (by kernel_rfl) ?_
          refine Op.ways (b := (numS p n) == ([] : List UInt8)) ⟨fun hb => ?_, fun hb => ?_⟩
          · refine Op.cast (e' := [(8, .int .i64 (numE p n)), (9, .string (mkS (numS p m))), (10, .int .i64 (numE p m)), (36, .bool false), (39, .bool true)]) (by rw [hb]) ?_
            have c951 : (numS p n) = ([] : List UInt8) := eq_of_beq hb
            clear hb
            refine Op.pures 5 [9, 10, 44] (L' := [(11, false), (12, false), (13, false), (14, false), (15, false), (16, false), (17, false), (18, false), (19, false), (20, false), (21, false), (22, false)]) (e' := [(9, .string (mkS (numS p m))), (10, .int .i64 (numE p m)), (44, .bool ((numE p n) == (90 : Int)))]) (by kernel_rfl) ?_
            refine Op.ways (b := (numE p n) == (90 : Int)) ⟨fun hb => ?_, fun hb => ?_⟩
            · refine Op.cast (e' := [(9, .string (mkS (numS p m))), (10, .int .i64 (numE p m)), (44, .bool true)]) (by rw [hb]) ?_
              have c952 : (numE p n) = (90 : Int) := eq_of_beq hb
              clear hb
              refine Op.pures 3 [9, 10, 44, 47] (L' := [(14, false), (15, false), (16, false), (17, false), (18, false), (19, false), (20, false), (21, false), (22, false)]) (e' := [(9, .string (mkS (numS p m))), (10, .int .i64 (numE p m)), (44, .bool true), (47, .bool ((numE p m) == (0 : Int)))]) (by kernel_rfl) ?_
              refine Op.ways (b := (numE p m) == (0 : Int)) ⟨fun hb => ?_, fun hb => ?_⟩
              · refine Op.cast (e' := [(9, .string (mkS (numS p m))), (10, .int .i64 (numE p m)), (44, .bool true), (47, .bool true)]) (by rw [hb]) ?_
                have c953 : (numE p m) = (0 : Int) := eq_of_beq hb
                clear hb
                refine Op.pures 9 [6] (L' := []) (e' := [(6, .bool true)]) (by kernel_rfl) ?_
                refine Op.goto 14 (by kernel_rfl) ?_
                refine At.ret (f := Tryd.f11) (v := .bool true) (by kernel_rfl) (by kernel_rfl) ?_
                refine hR _ _ _ _ s925.fin ⟨?_, rfl, rfl⟩
                exact (eqB (by first | rfl | contradiction | exact absurd (numE_90 (by assumption)).1 c953 | exact absurd (numE_90 (by assumption)).2 c953 | exact beq_iff_eq.2 (numE_90 (by assumption)).1 | exact beq_iff_eq.2 (num_len (by assumption)) | exact absurd (beq_iff_eq.2 (num_lt (by assumption) (by assumption))) (Bool.eq_false_iff.1 c953) | exact absurd (num_lt (by assumption) (by assumption)) c953 | exact absurd (num_eq (by assumption) (by assumption)) c953 | exact absurd (beq_iff_eq.2 (num_eq (by assumption) (by assumption))) (Bool.eq_false_iff.1 c953)))
              · refine Op.cast (e' := [(9, .string (mkS (numS p m))), (10, .int .i64 (numE p m)), (44, .bool true), (47, .bool false)]) (by rw [hb]) ?_
                have c954 : ¬ ((numE p m) = (0 : Int)) := neF hb
                clear hb
                refine Op.pures 1 [10, 44, 47, 48] (L' := [(15, false), (16, false), (17, false), (18, false), (19, false), (20, false), (21, false), (22, false)]) (e' := [(10, .int .i64 (numE p m)), (44, .bool true), (47, .bool false), (48, .string (mkS (numS p m)))]) (by kernel_rfl) ?_
                refine Op.val (dst := some 49) (v := .bool ((mkS (numS p m)).toList == (mkS []).toList)) (v' := .bool ((numS p m) == ([] : List UInt8))) (by kernel_rfl) (by rw [toList_mkS, toList_mkS]) ?_
                refine Op.pures 1 [10, 44, 47, 50] (L' := [(17, false), (18, false), (19, false), (20, false), (21, false), (22, false)]) (e' := [(10, .int .i64 (numE p m)), (44, .bool true), (47, .bool false), (50, .bool ((numS p m) == ([] : List UInt8)))]) (by kernel_rfl) ?_
                refine Op.ways (b := (numS p m) == ([] : List UInt8)) ⟨fun hb => ?_, fun hb => ?_⟩
                · refine Op.cast (e' := [(10, .int .i64 (numE p m)), (44, .bool true), (47, .bool false), (50, .bool true)]) (by rw [hb]) ?_
                  have c955 : (numS p m) = ([] : List UInt8) := eq_of_beq hb
                  clear hb
                  refine Op.pures 6 [6] (L' := []) (e' := [(6, .bool ((numE p m) == (90 : Int)))]) (by kernel_rfl) ?_
                  refine Op.goto 14 (by kernel_rfl) ?_
                  refine At.ret (f := Tryd.f11) (v := .bool ((numE p m) == (90 : Int))) (by kernel_rfl) (by kernel_rfl) ?_
                  refine hR _ _ _ _ s925.fin ⟨?_, rfl, rfl⟩
                  exact (eqB (by first | rfl | contradiction | exact absurd (numE_90 (by assumption)).1 c955 | exact absurd (numE_90 (by assumption)).2 c955 | exact beq_iff_eq.2 (numE_90 (by assumption)).1 | exact beq_iff_eq.2 (num_len (by assumption)) | exact absurd (beq_iff_eq.2 (num_lt (by assumption) (by assumption))) (Bool.eq_false_iff.1 c955) | exact absurd (num_lt (by assumption) (by assumption)) c955 | exact absurd (num_eq (by assumption) (by assumption)) c955 | exact absurd (beq_iff_eq.2 (num_eq (by assumption) (by assumption))) (Bool.eq_false_iff.1 c955)))
                · refine Op.cast (e' := [(10, .int .i64 (numE p m)), (44, .bool true), (47, .bool false), (50, .bool false)]) (by rw [hb]) ?_
                  have c956 : ¬ ((numS p m) = ([] : List UInt8)) := neF hb
                  clear hb
                  refine Op.pures 6 [6] (L' := []) (e' := [(6, .bool false)]) (by kernel_rfl) ?_
                  refine Op.goto 14 (by kernel_rfl) ?_
                  refine At.ret (f := Tryd.f11) (v := .bool false) (by kernel_rfl) (by kernel_rfl) ?_
                  refine hR _ _ _ _ s925.fin ⟨?_, rfl, rfl⟩
                  exact (eqB (by first | rfl | contradiction | exact absurd (numE_90 (by assumption)).1 c956 | exact absurd (numE_90 (by assumption)).2 c956 | exact beq_iff_eq.2 (numE_90 (by assumption)).1 | exact beq_iff_eq.2 (num_len (by assumption)) | exact absurd (beq_iff_eq.2 (num_lt (by assumption) (by assumption))) (Bool.eq_false_iff.1 c956) | exact absurd (num_lt (by assumption) (by assumption)) c956 | exact absurd (num_eq (by assumption) (by assumption)) c956 | exact absurd (beq_iff_eq.2 (num_eq (by assumption) (by assumption))) (Bool.eq_false_iff.1 c956)))
            · refine Op.cast (e' := [(9, .string (mkS (numS p m))), (10, .int .i64 (numE p m)), (44, .bool false)]) (by rw [hb]) ?_
              have c957 : ¬ ((numE p n) = (90 : Int)) := neF hb
              clear hb
              refine Op.pures 12 [6] (L' := []) (e' := [(6, .bool false)]) (by kernel_rfl) ?_
              refine Op.goto 14 (by kernel_rfl) ?_
              refine At.ret (f := Tryd.f11) (v := .bool false) (by kernel_rfl) (by kernel_rfl) ?_
              refine hR _ _ _ _ s925.fin ⟨?_, rfl, rfl⟩
              exact (eqB (by first | rfl | contradiction | exact absurd (numE_90 (by assumption)).1 c957 | exact absurd (numE_90 (by assumption)).2 c957 | exact beq_iff_eq.2 (numE_90 (by assumption)).1 | exact beq_iff_eq.2 (num_len (by assumption)) | exact absurd (beq_iff_eq.2 (num_lt (by assumption) (by assumption))) (Bool.eq_false_iff.1 c957) | exact absurd (num_lt (by assumption) (by assumption)) c957 | exact absurd (num_eq (by assumption) (by assumption)) c957 | exact absurd (beq_iff_eq.2 (num_eq (by assumption) (by assumption))) (Bool.eq_false_iff.1 c957)))
          · refine Op.cast (e' := [(8, .int .i64 (numE p n)), (9, .string (mkS (numS p m))), (10, .int .i64 (numE p m)), (36, .bool false), (39, .bool false)]) (by rw [hb]) ?_
            have c958 : ¬ ((numS p n) = ([] : List UInt8)) := neF hb
            clear hb
            refine Op.pures 17 [6] (L' := []) (e' := [(6, .bool false)]) (by kernel_rfl) ?_
            refine Op.goto 14 (by kernel_rfl) ?_
            refine At.ret (f := Tryd.f11) (v := .bool false) (by kernel_rfl) (by kernel_rfl) ?_
            refine hR _ _ _ _ s925.fin ⟨?_, rfl, rfl⟩
            exact (eqB (by first | rfl | contradiction | exact absurd (numE_90 (by assumption)).1 c958 | exact absurd (numE_90 (by assumption)).2 c958 | exact beq_iff_eq.2 (numE_90 (by assumption)).1 | exact beq_iff_eq.2 (num_len (by assumption)) | exact absurd (beq_iff_eq.2 (num_lt (by assumption) (by assumption))) (Bool.eq_false_iff.1 c958) | exact absurd (num_lt (by assumption) (by assumption)) c958 | exact absurd (num_eq (by assumption) (by assumption)) c958 | exact absurd (beq_iff_eq.2 (num_eq (by assumption) (by assumption))) (Bool.eq_false_iff.1 c958)))
      · have c959 : (numE p m) = (0 : Int) := bneF hb
        clear hb
        refine At.keep [0, 1, 2, 7, 9] ?_; show At _ _ _ [(0, .string (mkS p)), (1, .int .i64 n), (2, .int .i64 m), (7, .string (mkS (numS p n))), (9, .string (mkS (numS p m)))] _
        refine At.reg (L := [(0, false), (1, false), (2, false), (3, false), (4, false), (5, false), (6, false), (7, false), (8, false), (9, false), (10, false), (11, false), (12, false), (13, false), (14, false), (15, false), (16, false), (17, false), (18, false), (19, false), (20, false), (21, false), (22, false), (23, false), (24, false)]) (by kernel_rfl) ?_
        refine Op.pures 2 [0, 1, 2, 7, 9, 56, 57] (L' := [(2, false), (3, false), (4, false), (5, false), (6, false), (7, false), (8, false), (9, false), (10, false), (11, false), (12, false), (13, false), (14, false), (15, false), (16, false), (17, false), (18, false), (19, false), (20, false), (21, false), (22, false), (23, false), (24, false)]) (e' := [(0, .string (mkS p)), (1, .int .i64 n), (2, .int .i64 m), (7, .string (mkS (numS p n))), (9, .string (mkS (numS p m))), (56, .string (mkS (numS p n))), (57, .string (mkS (numS p m)))]) (by kernel_rfl) ?_
        refine Op.val (dst := some 58) (v := .bool (Go.Op.bytesLess (mkS (numS p n)).toList (mkS (numS p m)).toList)) (v' := .bool (Go.Op.bytesLess (numS p n) (numS p m))) (by kernel_rfl) (by rw [toList_mkS, toList_mkS]) ?_
        refine Op.pures 5 [0, 1, 2, 7, 9, 63] (L' := [(8, false), (9, false), (10, false), (11, false), (12, false), (13, false), (14, false), (15, false), (16, false), (17, false), (18, false), (19, false), (20, false), (21, false), (22, false), (23, false), (24, false)]) (e' := [(0, .string (mkS p)), (1, .int .i64 n), (2, .int .i64 m), (7, .string (mkS (numS p n))), (9, .string (mkS (numS p m))), (63, .bool ((Go.Op.bytesLess (numS p n) (numS p m)) == (decide (n < m))))]) (by kernel_rfl) ?_
        refine Op.ways (b := (Go.Op.bytesLess (numS p n) (numS p m)) == (decide (n < m))) ⟨fun hb => ?_, fun hb => ?_⟩
        · refine Op.cast (e' := [(0, .string (mkS p)), (1, .int .i64 n), (2, .int .i64 m), (7, .string (mkS (numS p n))), (9, .string (mkS (numS p m))), (63, .bool true)]) (by rw [hb]) ?_
          have c960 : (Go.Op.bytesLess (numS p n) (numS p m)) = (decide (n < m)) := eq_of_beq hb
          clear hb
          refine Op.pures 2 [0, 1, 2, 7, 63, 64, 65] (L' := [(10, false), (11, false), (12, false), (13, false), (14, false), (15, false), (16, false), (17, false), (18, false), (19, false), (20, false), (21, false), (22, false), (23, false), (24, false)]) (e' := [(0, .string (mkS p)), (1, .int .i64 n), (2, .int .i64 m), (7, .string (mkS (numS p n))), (63, .bool true), (64, .string (mkS (numS p n))), (65, .string (mkS (numS p m)))]) (by kernel_rfl) ?_
          refine Op.val (dst := some 66) (v := .bool ((mkS (numS p n)).toList == (mkS (numS p m)).toList)) (v' := .bool ((numS p n) == (numS p m))) (by kernel_rfl) (by rw [toList_mkS, toList_mkS]) ?_
          refine Op.pures 6 [0, 7, 72] (L' := [(17, false), (18, false), (19, false), (20, false), (21, false), (22, false), (23, false), (24, false)]) (e' := [(0, .string (mkS p)), (7, .string (mkS (numS p n))), (72, .bool (((numS p n) == (numS p m)) == (n == m)))]) (by kernel_rfl) ?_
          refine Op.ways (b := ((numS p n) == (numS p m)) == (n == m)) ⟨fun hb => ?_, fun hb => ?_⟩
          · refine Op.cast (e' := [(0, .string (mkS p)), (7, .string (mkS (numS p n))), (72, .bool true)]) (by rw [hb]) ?_
            have c961 : ((numS p n) == (numS p m)) = (n == m) := eq_of_beq hb
            clear hb
            refine Op.pures 4 [72, 74, 76] (L' := [(21, false), (22, false), (23, false), (24, false)]) (e' := [(72, .bool true), (74, .int .i64 ((numS p n).length : Int)), (76, .int .i64 (p.length : Int))]) (by kernel_rfl) ?_
            refine Op.val (dst := some 77) (v := .int .i64 (IntKind.wrap .i64 ((p.length : Int) + 5))) (v' := .int .i64 ((p.length : Int) + 5)) (by kernel_rfl) (wrapEq_i64 (by first | omega | (have := numS_len p n (by omega); have := numS_len p m (by omega); omega)) (by first | omega | (have := numS_len p n (by omega); have := numS_len p m (by omega); omega))) ?_
            refine Op.pures 3 [6] (L' := []) (e' := [(6, .bool (((numS p n).length : Int) == ((p.length : Int) + 5)))]) (by kernel_rfl) ?_
            refine Op.goto 16 (by kernel_rfl) ?_
            refine At.ret (f := Tryd.f11) (v := .bool (((numS p n).length : Int) == ((p.length : Int) + 5))) (by kernel_rfl) (by kernel_rfl) ?_
            refine hR _ _ _ _ s925.fin ⟨?_, rfl, rfl⟩
            exact (eqB (by first | rfl | contradiction | exact absurd (numE_90 (by assumption)).1 c961 | exact absurd (numE_90 (by assumption)).2 c961 | exact beq_iff_eq.2 (numE_90 (by assumption)).1 | exact beq_iff_eq.2 (num_len (by assumption)) | exact absurd (beq_iff_eq.2 (num_lt (by assumption) (by assumption))) (Bool.eq_false_iff.1 c961) | exact absurd (num_lt (by assumption) (by assumption)) c961 | exact absurd (num_eq (by assumption) (by assumption)) c961 | exact absurd (beq_iff_eq.2 (num_eq (by assumption) (by assumption))) (Bool.eq_false_iff.1 c961)))
          · refine Op.cast (e' := [(0, .string (mkS p)), (7, .string (mkS (numS p n))), (72, .bool false)]) (by rw [hb]) ?_
            have c962 : ¬ (((numS p n) == (numS p m)) = (n == m)) := neF hb
            clear hb
            refine Op.pures 8 [6] (L' := []) (e' := [(6, .bool false)]) (by kernel_rfl) ?_
            refine Op.goto 16 (by kernel_rfl) ?_
            refine At.ret (f := Tryd.f11) (v := .bool false) (by kernel_rfl) (by kernel_rfl) ?_
            refine hR _ _ _ _ s925.fin ⟨?_, rfl, rfl⟩
            exact (eqB (by first | rfl | contradiction | exact absurd (numE_90 (by assumption)).1 c962 | exact absurd (numE_90 (by assumption)).2 c962 | exact beq_iff_eq.2 (numE_90 (by assumption)).1 | exact beq_iff_eq.2 (num_len (by assumption)) | exact absurd (beq_iff_eq.2 (num_lt (by assumption) (by assumption))) (Bool.eq_false_iff.1 c962) | exact absurd (num_lt (by assumption) (by assumption)) c962 | exact absurd (num_eq (by assumption) (by assumption)) c962 | exact absurd (beq_iff_eq.2 (num_eq (by assumption) (by assumption))) (Bool.eq_false_iff.1 c962)))
        · refine Op.cast (e' := [(0, .string (mkS p)), (1, .int .i64 n), (2, .int .i64 m), (7, .string (mkS (numS p n))), (9, .string (mkS (numS p m))), (63, .bool false)]) (by rw [hb]) ?_
          have c963 : ¬ ((Go.Op.bytesLess (numS p n) (numS p m)) = (decide (n < m))) := neF hb
          clear hb
          refine Op.pures 17 [6] (L' := []) (e' := [(6, .bool false)]) (by kernel_rfl) ?_
          refine Op.goto 16 (by kernel_rfl) ?_
          refine At.ret (f := Tryd.f11) (v := .bool false) (by kernel_rfl) (by kernel_rfl) ?_
          refine hR _ _ _ _ s925.fin ⟨?_, rfl, rfl⟩
          exact (eqB (by first | rfl | contradiction | exact absurd (numE_90 (by assumption)).1 c963 | exact absurd (numE_90 (by assumption)).2 c963 | exact beq_iff_eq.2 (numE_90 (by assumption)).1 | exact beq_iff_eq.2 (num_len (by assumption)) | exact absurd (beq_iff_eq.2 (num_lt (by assumption) (by assumption))) (Bool.eq_false_iff.1 c963) | exact absurd (num_lt (by assumption) (by assumption)) c963 | exact absurd (num_eq (by assumption) (by assumption)) c963 | exact absurd (beq_iff_eq.2 (num_eq (by assumption) (by assumption))) (Bool.eq_false_iff.1 c963)))

end Go.Proofs.YtphonojjgnbpfaaDoor.Sw
