/- Walks of the functions that are named below: what each computes, as plain Lean words. Printed by a program of our own. -/
import Derived.Test.YtphonojjgnbpfaaDoorSwMid
import Derived.Test.YtphonojjgnbpfaaDoorSwLib
import Derived.Test.YtphonojjgnbpfaaDoorSwTypes
import Derived.Test.YtphonojjgnbpfaaDoorSwPathP
namespace Go.Proofs.YtphonojjgnbpfaaDoor.Sw
open Go
set_option maxRecDepth 100000
set_option linter.unusedVariables false
set_option linter.unusedSimpArgs false
set_option linter.deprecated false


/-- internal/stringslite.HasPrefix -/
theorem hasPrefixL (B : World) (h : Heap) (g : GH) (hg : Sub g h) (hG : Glob g) (s : List UInt8) (p : List UInt8)  :
    Spec Tryd.prog B 85 #[.string (mkS s), .string (mkS p)] h g [] (fun rv g' L' => rv = .bool (p.isPrefixOf s) ∧ g' = g ∧ L' = []) := by
  refine Spec.of_at (f := Tryd.f85) (e := [(0, .string (mkS s)), (1, .string (mkS p))]) Tryd.func85 (by kernel_rfl) (Nat.le_of_ble_eq_true (by kernel_rfl)) (by kernel_rfl) (by kernel_rfl) ?_
  intro R hR
  have s0 := St.init hg
  refine At.reg (L := [(0, false)]) (by kernel_rfl) ?_
  refine Op.pures 1 [0, 1] (L' := []) (e' := [(0, .string (mkS s)), (1, .string (mkS p))]) (by kernel_rfl) ?_
  refine Op.goto 1 (by kernel_rfl) ?_
  refine At.reg (L := [(0, false), (1, false), (2, false), (3, false), (4, false), (5, false), (6, false), (7, false), (8, false), (9, false), (10, false), (11, false), (12, false), (13, false)]) (by kernel_rfl) ?_
  refine Op.pures 6 [0, 1, 10] (L' := [(6, false), (7, false), (8, false), (9, false), (10, false), (11, false), (12, false), (13, false)]) (e' := [(0, .string (mkS s)), (1, .string (mkS p)), (10, .bool (decide ((s.length : Int) ≥ (p.length : Int))))]) (by kernel_rfl) ?_
  refine Op.ways (b := decide ((s.length : Int) ≥ (p.length : Int))) ⟨fun hb => ?_, fun hb => ?_⟩
  · refine Op.cast (e' := [(0, .string (mkS s)), (1, .string (mkS p)), (10, .bool true)]) (by rw [hb]) ?_
    have c1 : (s.length : Int) ≥ (p.length : Int) := of_decide_eq_true hb
    clear hb
    refine Op.pures 3 [1, 10, 11, 13] (L' := [(9, false), (10, false), (11, false), (12, false), (13, false)]) (e' := [(1, .string (mkS p)), (10, .bool true), (11, .string (mkS s)), (13, .int .i64 (p.length : Int))]) (by kernel_rfl) ?_
    refine Op.strHi (T := 9) (k := .i64) (x := (.tmp 11)) (hi := (.tmp 13)) (dst := 14) (l := s) (n := (p.length : Int)) (by kernel_rfl) (by kernel_rfl) (by kernel_rfl) (by kernel_rfl) (by omega) (by omega) ?_
    refine Op.pures 1 [10, 14, 15] (L' := [(11, false), (12, false), (13, false)]) (e' := [(10, .bool true), (14, .string (mkS (s.take ((p.length : Int) : Int).toNat))), (15, .string (mkS p))]) (by kernel_rfl) ?_
    refine Op.val (dst := some 16) (v := .bool ((mkS (s.take ((p.length : Int) : Int).toNat)).toList == (mkS p).toList)) (v' := .bool ((s.take ((p.length : Int) : Int).toNat) == p)) (by kernel_rfl) (by rw [toList_mkS, toList_mkS]) ?_
    refine Op.pures 2 [4] (L' := []) (e' := [(4, .bool ((s.take ((p.length : Int) : Int).toNat) == p))]) (by kernel_rfl) ?_
    refine Op.goto 2 (by kernel_rfl) ?_
    refine At.ret (f := Tryd.f85) (v := .bool ((s.take ((p.length : Int) : Int).toNat) == p)) (by kernel_rfl) (by kernel_rfl) ?_
    refine hR _ _ _ _ s0 ⟨?_, rfl, rfl⟩
    exact (eqB (by first | exact hasP1 | exact (hasP2 (by omega)).symm))
  · refine Op.cast (e' := [(0, .string (mkS s)), (1, .string (mkS p)), (10, .bool false)]) (by rw [hb]) ?_
    have c2 : ¬ ((s.length : Int) ≥ (p.length : Int)) := of_decide_eq_false hb
    clear hb
    refine Op.pures 8 [4] (L' := []) (e' := [(4, .bool false)]) (by kernel_rfl) ?_
    refine Op.goto 2 (by kernel_rfl) ?_
    refine At.ret (f := Tryd.f85) (v := .bool false) (by kernel_rfl) (by kernel_rfl) ?_
    refine hR _ _ _ _ s0 ⟨?_, rfl, rfl⟩
    exact (eqB (by first | exact hasP1 | exact (hasP2 (by omega)).symm))

/-- strings.HasPrefix -/
theorem hasPrefix (B : World) (h : Heap) (g : GH) (hg : Sub g h) (hG : Glob g) (s : List UInt8) (p : List UInt8)  :
    Spec Tryd.prog B 63 #[.string (mkS s), .string (mkS p)] h g [] (fun rv g' L' => rv = .bool (p.isPrefixOf s) ∧ g' = g ∧ L' = []) := by
  refine Spec.of_at (f := Tryd.f63) (e := [(0, .string (mkS s)), (1, .string (mkS p))]) Tryd.func63 (by kernel_rfl) (Nat.le_of_ble_eq_true (by kernel_rfl)) (by kernel_rfl) (by kernel_rfl) ?_
  intro R hR
  have s0 := St.init hg
  refine At.reg (L := [(0, false)]) (by kernel_rfl) ?_
  refine Op.pures 1 [0, 1] (L' := []) (e' := [(0, .string (mkS s)), (1, .string (mkS p))]) (by kernel_rfl) ?_
  refine Op.goto 1 (by kernel_rfl) ?_
  refine At.reg (L := [(0, false), (1, false), (2, false), (3, false)]) (by kernel_rfl) ?_
  refine Op.pures 2 [5, 6] (L' := [(2, false), (3, false)]) (e' := [(5, .string (mkS s)), (6, .string (mkS p))]) (by kernel_rfl) ?_
  refine Op.call0 (dst := some 7) (f := 85) (args := #[.string (mkS s), .string (mkS p)]) (by kernel_rfl) s0 (hasPrefixL _ _ _ s0.sub hG s p  ) ?_
  rintro _ g5 _ h3 hle6 s4 ⟨rfl, hgg, rfl⟩; subst g5; clear hle6
  refine Op.pures 1 [4] (L' := []) (e' := [(4, .bool (p.isPrefixOf s))]) (by kernel_rfl) ?_
  refine Op.goto 2 (by kernel_rfl) ?_
  refine At.ret (f := Tryd.f63) (v := .bool (p.isPrefixOf s)) (by kernel_rfl) (by kernel_rfl) ?_
  refine hR _ _ _ _ s4 ⟨?_, rfl, rfl⟩
  exact (eqB (by rfl))

/-- internal/stringslite.CutPrefix -/
theorem cutPrefixL (B : World) (h : Heap) (g : GH) (hg : Sub g h) (hG : Glob g) (s : List UInt8) (p : List UInt8)  :
    Spec Tryd.prog B 86 #[.string (mkS s), .string (mkS p)] h g [] (fun rv g' L' => rv = .tuple #[.string (mkS (if p.isPrefixOf s = true then s.drop p.length else s)), .bool (p.isPrefixOf s)] ∧ g' = g ∧ L' = []) := by
  refine Spec.of_at (f := Tryd.f86) (e := [(0, .string (mkS s)), (1, .string (mkS p))]) Tryd.func86 (by kernel_rfl) (Nat.le_of_ble_eq_true (by kernel_rfl)) (by kernel_rfl) (by kernel_rfl) ?_
  intro R hR
  have s0 := St.init hg
  refine At.reg (L := [(0, false), (1, false)]) (by kernel_rfl) ?_
  refine Op.pures 2 [0, 1] (L' := []) (e' := [(0, .string (mkS s)), (1, .string (mkS p))]) (by kernel_rfl) ?_
  refine Op.goto 1 (by kernel_rfl) ?_
  refine At.reg (L := [(0, false), (1, false), (2, false), (3, false)]) (by kernel_rfl) ?_
  refine Op.pures 2 [0, 1, 6, 7] (L' := [(2, false), (3, false)]) (e' := [(0, .string (mkS s)), (1, .string (mkS p)), (6, .string (mkS s)), (7, .string (mkS p))]) (by kernel_rfl) ?_
  refine Op.call0 (dst := some 8) (f := 85) (args := #[.string (mkS s), .string (mkS p)]) (by kernel_rfl) s0 (hasPrefixL _ _ _ s0.sub hG s p  ) ?_
  rintro _ g9 _ h7 hle10 s8 ⟨rfl, hgg, rfl⟩; subst g9; clear hle10
  refine Op.pures 1 [0, 1, 9] (L' := []) (e' := [(0, .string (mkS s)), (1, .string (mkS p)), (9, .bool (!(p.isPrefixOf s)))]) (by kernel_rfl) ?_
  refine Op.goto 2 (by kernel_rfl) ?_
  refine At.cond (b := !(p.isPrefixOf s)) (c := .tmp 9) (by kernel_rfl) (by kernel_rfl) (by kernel_rfl) 3 5 (by kernel_rfl) (by kernel_rfl) (fun hb => ?_) (fun hb => ?_)
  · have c11 : (p.isPrefixOf s) = false := (notT hb)
    clear hb
    refine At.keep [0] ?_; show At _ _ _ [(0, .string (mkS s))] _
    refine At.reg (L := [(0, false), (1, false), (2, false)]) (by kernel_rfl) ?_
    refine Op.pures 3 [4, 5] (L' := []) (e' := [(4, .string (mkS s)), (5, .bool false)]) (by kernel_rfl) ?_
    refine Op.goto 4 (by kernel_rfl) ?_
    refine At.ret (f := Tryd.f86) (v := .tuple #[.string (mkS s), .bool false]) (by kernel_rfl) (by kernel_rfl) ?_
    refine hR _ _ _ _ s8 ⟨?_, rfl, rfl⟩
    exact eqT2 (eqS (by simp_all)) (eqB (by simp_all))
  · have c12 : (p.isPrefixOf s) = true := (notF hb)
    clear hb
    refine At.keep [0, 1] ?_; show At _ _ _ [(0, .string (mkS s)), (1, .string (mkS p))] _
    refine At.reg (L := [(0, false), (1, false), (2, false), (3, false), (4, false), (5, false)]) (by kernel_rfl) ?_
    refine Op.pures 3 [11, 13] (L' := [(3, false), (4, false), (5, false)]) (e' := [(11, .string (mkS s)), (13, .int .i64 (p.length : Int))]) (by kernel_rfl) ?_
    refine Op.strLo (T := 9) (k := .i64) (x := (.tmp 11)) (lo := (.tmp 13)) (dst := 14) (l := s) (n := (p.length : Int)) (by kernel_rfl) (by kernel_rfl) (by kernel_rfl) (by kernel_rfl) (by have := hasP_len c12; omega) (by have := hasP_len c12; omega) ?_
    refine Op.pures 2 [4, 5] (L' := []) (e' := [(4, .string (mkS (s.drop ((p.length : Int) : Int).toNat))), (5, .bool true)]) (by kernel_rfl) ?_
    refine Op.goto 6 (by kernel_rfl) ?_
    refine At.ret (f := Tryd.f86) (v := .tuple #[.string (mkS (s.drop ((p.length : Int) : Int).toNat)), .bool true]) (by kernel_rfl) (by kernel_rfl) ?_
    refine hR _ _ _ _ s8 ⟨?_, rfl, rfl⟩
    exact eqT2 (eqS (by simp_all)) (eqB (by simp_all))

/-- strings.CutPrefix -/
theorem cutPrefix (B : World) (h : Heap) (g : GH) (hg : Sub g h) (hG : Glob g) (s : List UInt8) (p : List UInt8)  :
    Spec Tryd.prog B 64 #[.string (mkS s), .string (mkS p)] h g [] (fun rv g' L' => rv = .tuple #[.string (mkS (if p.isPrefixOf s = true then s.drop p.length else s)), .bool (p.isPrefixOf s)] ∧ g' = g ∧ L' = []) := by
  refine Spec.of_at (f := Tryd.f64) (e := [(0, .string (mkS s)), (1, .string (mkS p))]) Tryd.func64 (by kernel_rfl) (Nat.le_of_ble_eq_true (by kernel_rfl)) (by kernel_rfl) (by kernel_rfl) ?_
  intro R hR
  have s0 := St.init hg
  refine At.reg (L := [(0, false), (1, false)]) (by kernel_rfl) ?_
  refine Op.pures 2 [0, 1] (L' := []) (e' := [(0, .string (mkS s)), (1, .string (mkS p))]) (by kernel_rfl) ?_
  refine Op.goto 1 (by kernel_rfl) ?_
  refine At.reg (L := [(0, false), (1, false), (2, false), (3, false), (4, false), (5, false), (6, false)]) (by kernel_rfl) ?_
  refine Op.pures 2 [6, 7] (L' := [(2, false), (3, false), (4, false), (5, false), (6, false)]) (e' := [(6, .string (mkS s)), (7, .string (mkS p))]) (by kernel_rfl) ?_
  refine Op.call0 (dst := some 8) (f := 86) (args := #[.string (mkS s), .string (mkS p)]) (by kernel_rfl) s0 (cutPrefixL _ _ _ s0.sub hG s p  ) ?_
  rintro _ g15 _ h13 hle16 s14 ⟨rfl, hgg, rfl⟩; subst g15; clear hle16
  refine Op.pures 4 [4, 5] (L' := []) (e' := [(4, .string (mkS (if p.isPrefixOf s = true then s.drop p.length else s))), (5, .bool (p.isPrefixOf s))]) (by kernel_rfl) ?_
  refine Op.goto 2 (by kernel_rfl) ?_
  refine At.ret (f := Tryd.f64) (v := .tuple #[.string (mkS (if p.isPrefixOf s = true then s.drop p.length else s)), .bool (p.isPrefixOf s)]) (by kernel_rfl) (by kernel_rfl) ?_
  refine hR _ _ _ _ s14 ⟨?_, rfl, rfl⟩
  exact eqT2 (eqS (by rfl)) (eqB (by rfl))

/-- stanchion/path.part -/
theorem partP (B : World) (h : Heap) (g : GH) (hg : Sub g h) (hG : Glob g) (s : List UInt8) (hlen : s.length ≤ 1000000000) :
    Spec Tryd.prog B 68 #[.string (mkS s)] h g [] (fun rv g' L' => rv = .bool (okPart s) ∧ g' = g ∧ L' = []) := by
  refine Spec.of_at (f := Tryd.f68) (e := [(0, .string (mkS s))]) Tryd.func68 (by kernel_rfl) (Nat.le_of_ble_eq_true (by kernel_rfl)) (by kernel_rfl) (by kernel_rfl) ?_
  intro R hR
  have s0 := St.init hg
  refine At.reg (L := [(0, false)]) (by kernel_rfl) ?_
  refine Op.pures 1 [0] (L' := []) (e' := [(0, .string (mkS s))]) (by kernel_rfl) ?_
  refine Op.goto 1 (by kernel_rfl) ?_
  refine At.reg (L := [(0, false), (1, false), (2, false), (3, false), (4, false), (5, false), (6, false), (7, false), (8, false), (9, false), (10, false), (11, false), (12, false)]) (by kernel_rfl) ?_
  refine Op.pures 1 [0, 3] (L' := [(1, false), (2, false), (3, false), (4, false), (5, false), (6, false), (7, false), (8, false), (9, false), (10, false), (11, false), (12, false)]) (e' := [(0, .string (mkS s)), (3, .string (mkS s))]) (by kernel_rfl) ?_
  refine Op.val (dst := some 4) (v := .bool (!((mkS s).toList == (mkS []).toList))) (v' := .bool (!(s == ([] : List UInt8)))) (by kernel_rfl) (by rw [toList_mkS, toList_mkS]) ?_
  refine Op.pures 1 [0, 5] (L' := [(3, false), (4, false), (5, false), (6, false), (7, false), (8, false), (9, false), (10, false), (11, false), (12, false)]) (e' := [(0, .string (mkS s)), (5, .bool (!(s == ([] : List UInt8))))]) (by kernel_rfl) ?_
  refine Op.ways (b := !(s == ([] : List UInt8))) ⟨fun hb => ?_, fun hb => ?_⟩
  · refine Op.cast (e' := [(0, .string (mkS s)), (5, .bool true)]) (by rw [hb]) ?_
    have c17 : ¬ (s = ([] : List UInt8)) := neF (notT hb)
    clear hb
    refine Op.pures 5 [0, 10] (L' := [(8, false), (9, false), (10, false), (11, false), (12, false)]) (e' := [(0, .string (mkS s)), (10, .bool (decide ((s.length : Int) ≤ (16 : Int))))]) (by kernel_rfl) ?_
    refine Op.ways (b := decide ((s.length : Int) ≤ (16 : Int))) ⟨fun hb => ?_, fun hb => ?_⟩
    · refine Op.cast (e' := [(0, .string (mkS s)), (10, .bool true)]) (by rw [hb]) ?_
      have c18 : (s.length : Int) ≤ (16 : Int) := of_decide_eq_true hb
      clear hb
      refine Op.pures 1 [10, 11] (L' := [(9, false), (10, false), (11, false), (12, false)]) (e' := [(10, .bool true), (11, .string (mkS s))]) (by kernel_rfl) ?_
      refine Op.call0 (dst := some 12) (f := 89) (args := #[.string (mkS s), .string (mkS ([97, 98, 99, 100, 101, 102, 103, 104, 105, 106, 107, 108, 109, 110, 111, 112, 113, 114, 115, 116, 117, 118, 119, 120, 121, 122, 48, 49, 50, 51, 52, 53, 54, 55, 56, 57, 45, 95]))]) (by kernel_rfl) s0 (trim_spec _ _ _ s0.sub hG s ([97, 98, 99, 100, 101, 102, 103, 104, 105, 106, 107, 108, 109, 110, 111, 112, 113, 114, 115, 116, 117, 118, 119, 120, 121, 122, 48, 49, 50, 51, 52, 53, 54, 55, 56, 57, 45, 95]) (by ((try dsimp only) <;> (first | omega | decide | exact asciiAll (by decide)))) (by ((try dsimp only) <;> (first | omega | decide | exact asciiAll (by decide)))) (by ((try dsimp only) <;> (first | omega | decide | exact asciiAll (by decide)))) ) ?_
      rintro _ g21 _ h19 hle22 s20 ⟨rfl, hgg, rfl⟩; subst g21; clear hle22
      refine Op.val (dst := some 13) (v := .bool ((mkS (Lib.trimS s ([97, 98, 99, 100, 101, 102, 103, 104, 105, 106, 107, 108, 109, 110, 111, 112, 113, 114, 115, 116, 117, 118, 119, 120, 121, 122, 48, 49, 50, 51, 52, 53, 54, 55, 56, 57, 45, 95]))).toList == (mkS []).toList)) (v' := .bool ((Lib.trimS s ([97, 98, 99, 100, 101, 102, 103, 104, 105, 106, 107, 108, 109, 110, 111, 112, 113, 114, 115, 116, 117, 118, 119, 120, 121, 122, 48, 49, 50, 51, 52, 53, 54, 55, 56, 57, 45, 95])) == ([] : List UInt8))) (by kernel_rfl) (by rw [toList_mkS, toList_mkS]) ?_
      refine Op.pures 2 [2] (L' := []) (e' := [(2, .bool ((Lib.trimS s ([97, 98, 99, 100, 101, 102, 103, 104, 105, 106, 107, 108, 109, 110, 111, 112, 113, 114, 115, 116, 117, 118, 119, 120, 121, 122, 48, 49, 50, 51, 52, 53, 54, 55, 56, 57, 45, 95])) == ([] : List UInt8)))]) (by kernel_rfl) ?_
      refine Op.goto 2 (by kernel_rfl) ?_
      refine At.ret (f := Tryd.f68) (v := .bool ((Lib.trimS s ([97, 98, 99, 100, 101, 102, 103, 104, 105, 106, 107, 108, 109, 110, 111, 112, 113, 114, 115, 116, 117, 118, 119, 120, 121, 122, 48, 49, 50, 51, 52, 53, 54, 55, 56, 57, 45, 95])) == ([] : List UInt8))) (by kernel_rfl) (by kernel_rfl) ?_
      refine hR _ _ _ _ s20 ⟨?_, rfl, rfl⟩
      exact (eqB (by first | exact part_t c17 c18 | exact part_l c18 | (subst c17; exact part_0)))
    · refine Op.cast (e' := [(0, .string (mkS s)), (10, .bool false)]) (by rw [hb]) ?_
      have c23 : ¬ ((s.length : Int) ≤ (16 : Int)) := of_decide_eq_false hb
      clear hb
      refine Op.pures 5 [2] (L' := []) (e' := [(2, .bool false)]) (by kernel_rfl) ?_
      refine Op.goto 2 (by kernel_rfl) ?_
      refine At.ret (f := Tryd.f68) (v := .bool false) (by kernel_rfl) (by kernel_rfl) ?_
      refine hR _ _ _ _ s0 ⟨?_, rfl, rfl⟩
      exact (eqB (by first | exact part_t c17 c23 | exact part_l c23 | (subst c17; exact part_0)))
  · refine Op.cast (e' := [(0, .string (mkS s)), (5, .bool false)]) (by rw [hb]) ?_
    have c24 : s = ([] : List UInt8) := eq_of_beq (notF hb)
    clear hb
    refine Op.pures 10 [2] (L' := []) (e' := [(2, .bool false)]) (by kernel_rfl) ?_
    refine Op.goto 2 (by kernel_rfl) ?_
    refine At.ret (f := Tryd.f68) (v := .bool false) (by kernel_rfl) (by kernel_rfl) ?_
    refine hR _ _ _ _ s0 ⟨?_, rfl, rfl⟩
    exact (eqB (by first | exact part_t c24 {c1} | exact part_l {c1} | (subst c24; exact part_0)))

/-- stanchion/path.Parts$1 -/
theorem parts1 (B : World) (h : Heap) (g : GH) (hg : Sub g h) (hG : Glob g) (s : List UInt8) (hlen : s.length ≤ 1000000000) :
    Spec Tryd.prog B 67 #[.string (mkS s)] h g [] (fun rv g' L' => rv = .bool (!okPart s) ∧ g' = g ∧ L' = []) := by
  refine Spec.of_at (f := Tryd.f67) (e := [(0, .string (mkS s))]) Tryd.func67 (by kernel_rfl) (Nat.le_of_ble_eq_true (by kernel_rfl)) (by kernel_rfl) (by kernel_rfl) ?_
  intro R hR
  have s0 := St.init hg
  refine At.reg (L := [(0, false)]) (by kernel_rfl) ?_
  refine Op.pures 1 [0] (L' := []) (e' := [(0, .string (mkS s))]) (by kernel_rfl) ?_
  refine Op.goto 1 (by kernel_rfl) ?_
  refine At.reg (L := [(0, false), (1, false), (2, false), (3, false)]) (by kernel_rfl) ?_
  refine Op.pures 1 [3] (L' := [(1, false), (2, false), (3, false)]) (e' := [(3, .string (mkS s))]) (by kernel_rfl) ?_
  refine Op.call0 (dst := some 4) (f := 68) (args := #[.string (mkS s)]) (by kernel_rfl) s0 (partP _ _ _ s0.sub hG s (by ((try dsimp only) <;> (omega))) ) ?_
  rintro _ g27 _ h25 hle28 s26 ⟨rfl, hgg, rfl⟩; subst g27; clear hle28
  refine Op.pures 2 [2] (L' := []) (e' := [(2, .bool (!(okPart s)))]) (by kernel_rfl) ?_
  refine Op.goto 2 (by kernel_rfl) ?_
  refine At.ret (f := Tryd.f67) (v := .bool (!(okPart s))) (by kernel_rfl) (by kernel_rfl) ?_
  refine hR _ _ _ _ s26 ⟨?_, rfl, rfl⟩
  exact (eqB (by rfl))

/-- stanchion/path.Join$1 -/
theorem join1 (B : World) (h : Heap) (g : GH) (hg : Sub g h) (hG : Glob g) (s : List UInt8) (hlen : s.length ≤ 1000000000) :
    Spec Tryd.prog B 73 #[.string (mkS s)] h g [] (fun rv g' L' => rv = .bool (!okPart s) ∧ g' = g ∧ L' = []) := by
  refine Spec.of_at (f := Tryd.f73) (e := [(0, .string (mkS s))]) Tryd.func73 (by kernel_rfl) (Nat.le_of_ble_eq_true (by kernel_rfl)) (by kernel_rfl) (by kernel_rfl) ?_
  intro R hR
  have s0 := St.init hg
  refine At.reg (L := [(0, false)]) (by kernel_rfl) ?_
  refine Op.pures 1 [0] (L' := []) (e' := [(0, .string (mkS s))]) (by kernel_rfl) ?_
  refine Op.goto 1 (by kernel_rfl) ?_
  refine At.reg (L := [(0, false), (1, false), (2, false), (3, false)]) (by kernel_rfl) ?_
  refine Op.pures 1 [3] (L' := [(1, false), (2, false), (3, false)]) (e' := [(3, .string (mkS s))]) (by kernel_rfl) ?_
  refine Op.call0 (dst := some 4) (f := 68) (args := #[.string (mkS s)]) (by kernel_rfl) s0 (partP _ _ _ s0.sub hG s (by ((try dsimp only) <;> (omega))) ) ?_
  rintro _ g31 _ h29 hle32 s30 ⟨rfl, hgg, rfl⟩; subst g31; clear hle32
  refine Op.pures 2 [2] (L' := []) (e' := [(2, .bool (!(okPart s)))]) (by kernel_rfl) ?_
  refine Op.goto 2 (by kernel_rfl) ?_
  refine At.ret (f := Tryd.f73) (v := .bool (!(okPart s))) (by kernel_rfl) (by kernel_rfl) ?_
  refine hR _ _ _ _ s30 ⟨?_, rfl, rfl⟩
  exact (eqB (by rfl))

/-- slices.IndexFunc[[]string,string] -/
theorem indexFuncS (B : World) (h : Heap) (g : GH) (hg : Sub g h) (hG : Glob g) (v_l : Value) (l : List (List UInt8)) (h_l : SlR g 9 kStr v_l l) (f : Nat) (q : (List UInt8) → Bool) (hf : Enterable Tryd.prog f) (hq : ∀ (B : World) (h : Heap) (g : GH), Sub g h → Glob g → ∀ (x : List UInt8), x.length ≤ 1000000000 → Spec Tryd.prog B f #[.string (mkS x)] h g [] (fun v g' L' => v = .bool (q x) ∧ g' = g ∧ L' = [])) (hall : ∀ x ∈ l, x.length ≤ 1000000000) (hlen : l.length ≤ 1000000000) :
    Spec Tryd.prog B 88 #[v_l, .func (.func f) #[] #[]] h g [] (fun rv g' L' => rv = .int .i64 (findI q l) ∧ g' = g ∧ L' = []) := by
  obtain ⟨a_l, n_l, rfl⟩ := h_l.form
  refine Spec.of_at (f := Tryd.f88) (e := [(0, .slice a_l l.length n_l), (1, .func (.func f) #[] #[])]) Tryd.func88 (by kernel_rfl) (Nat.le_of_ble_eq_true (by kernel_rfl)) (by kernel_rfl) (by kernel_rfl) ?_
  intro R hR
  have s0 := St.init hg
  refine At.reg (L := [(0, false)]) (by kernel_rfl) ?_
  refine Op.pures 1 [0, 1] (L' := []) (e' := [(0, .slice a_l l.length n_l), (1, .func (.func f) #[] #[])]) (by kernel_rfl) ?_
  refine Op.goto 1 (by kernel_rfl) ?_
  refine At.reg (L := [(0, false), (1, false), (2, false)]) (by kernel_rfl) ?_
  refine Op.pures 3 [0, 1, 7, 8] (L' := []) (e' := [(0, .slice a_l l.length n_l), (1, .func (.func f) #[] #[]), (7, .int .i64 (l.length : Int)), (8, .int .i64 0)]) (by kernel_rfl) ?_
  refine Op.goto 2 (by kernel_rfl) ?_
  have loop2 : ∀ (m : Nat) (i : Int) (h33 : Heap) (hm : l.length - i.toNat < m) (h0 : 0 ≤ i) (h1 : i ≤ l.length) (hat : findAt q l i)    (s_loop232 : St h g (ids []) g [] h33), At (fctx Tryd.prog B 88 Tryd.f88 R) [] 2 [(0, .slice a_l l.length n_l), (1, .func (.func f) #[] #[]), (7, .int .i64 (l.length : Int)), (8, .int .i64 i)] h33 := by
    intro m; induction m with
    | zero => intros; omega
    | succ m ih2 =>
      intro i h33 hm h0 h1 hat s_loop232
      refine At.reg (L := [(0, false)]) (by kernel_rfl) ?_
      refine Op.pures 1 [0, 1, 7, 8, 9] (L' := []) (e' := [(0, .slice a_l l.length n_l), (1, .func (.func f) #[] #[]), (7, .int .i64 (l.length : Int)), (8, .int .i64 i), (9, .bool (decide (i < (l.length : Int))))]) (by kernel_rfl) ?_
      refine Op.goto 3 (by kernel_rfl) ?_
      refine At.cond (b := decide (i < (l.length : Int))) (c := .tmp 9) (by kernel_rfl) (by kernel_rfl) (by kernel_rfl) 4 10 (by kernel_rfl) (by kernel_rfl) (fun hb => ?_) (fun hb => ?_)
      · have c34 : i < (l.length : Int) := of_decide_eq_true hb
        clear hb
        refine At.keep [0, 1, 7, 8] ?_; show At _ _ _ [(0, .slice a_l l.length n_l), (1, .func (.func f) #[] #[]), (7, .int .i64 (l.length : Int)), (8, .int .i64 i)] _
        refine At.reg (L := [(0, false), (1, false)]) (by kernel_rfl) ?_
        refine Op.pures 2 [0, 1, 5, 7, 8] (L' := []) (e' := [(0, .slice a_l l.length n_l), (1, .func (.func f) #[] #[]), (5, .int .i64 i), (7, .int .i64 (l.length : Int)), (8, .int .i64 i)]) (by kernel_rfl) ?_
        refine Op.goto 5 (by kernel_rfl) ?_
        refine At.reg (L := [(0, false), (1, false), (2, false), (3, false), (4, false), (5, false)]) (by kernel_rfl) ?_
        refine Op.pures 3 [0, 1, 5, 7, 8, 11, 12, 13] (L' := [(3, false), (4, false), (5, false)]) (e' := [(0, .slice a_l l.length n_l), (1, .func (.func f) #[] #[]), (5, .int .i64 i), (7, .int .i64 (l.length : Int)), (8, .int .i64 i), (11, .func (.func f) #[] #[]), (12, .slice a_l l.length n_l), (13, .int .i64 i)]) (by kernel_rfl) ?_
        obtain ⟨x35, hx36⟩ : ∃ c, l[(i : Int).toNat]? = some c := ⟨_, List.getElem?_eq_getElem (by omega)⟩
        obtain ⟨b37, o38, cu39, fz40, ha41, hb42, hk43⟩ := SlR.at_ h_l _ hx36
        cases ha41
        refine Op.idx (T := 37) (E := 9) (sz := 1) (by_ := 16) (n := l.length) (c := n_l) (k := .i64) (x := (.tmp 12)) (ix := (.tmp 13)) (dst := 14) (bk := b37) (o := o38) (m := i) (by kernel_rfl) (by kernel_rfl) (by kernel_rfl) (by kernel_rfl) (by omega) (by omega) ?_
        replace hk43 : cut _ _ _ = [.string (mkS x35)] := hk43
        refine Op.load (T := 9) (x := (.tmp 14)) (o := o38 + (i : Int).toNat * 1) (d := 15) (n := 1) (v := .string (mkS x35)) (by kernel_rfl) (by kernel_rfl) (by kernel_rfl) (s_loop232.sub _ _ hb42) (cut_get hk43 0 rfl) ?_
        refine Op.callV (dst := some 16) (x := (.tmp 11)) (ops := #[(.tmp 15)]) (ts := #[9]) (f := f) (first := #[]) (cap := #[]) (Lc := []) (L := []) (args := #[.string (mkS x35)]) (by kernel_rfl) (by kernel_rfl) hf (by kernel_rfl) s_loop232 (hq _ _ _ s_loop232.sub hG x35 (by ((try dsimp only) <;> (exact hall _ (List.mem_of_getElem? hx36)))) ) (fun _ _ h => absurd h (ids_nil _)) ?_
        rintro _ g46 _ h44 hle47 s45 ⟨rfl, hgg, rfl⟩; subst g46; clear hle47
        refine Op.goto 6 (by kernel_rfl) ?_
        refine At.cond (b := q x35) (c := .tmp 16) (by kernel_rfl) (by kernel_rfl) (by kernel_rfl) 7 9 (by kernel_rfl) (by kernel_rfl) (fun hb => ?_) (fun hb => ?_)
        · have c48 : (q x35) = true := hb
          clear hb
          refine At.keep [5] ?_; show At _ _ _ [(5, .int .i64 i)] _
          refine At.reg (L := [(0, false), (1, false)]) (by kernel_rfl) ?_
          refine Op.pures 2 [4] (L' := []) (e' := [(4, .int .i64 i)]) (by kernel_rfl) ?_
          refine Op.goto 8 (by kernel_rfl) ?_
          refine At.ret (f := Tryd.f88) (v := .int .i64 i) (by kernel_rfl) (by kernel_rfl) ?_
          refine hR _ _ _ _ s45 ⟨?_, rfl, rfl⟩
          exact (eqI (by exact findAt_hit hat hx36 c48))
        · have c49 : (q x35) = false := hb
          clear hb
          refine At.keep [0, 1, 7, 8] ?_; show At _ _ _ [(0, .slice (some ⟨b37, o38, none⟩) l.length n_l), (1, .func (.func f) #[] #[]), (7, .int .i64 (l.length : Int)), (8, .int .i64 i)] _
          refine At.reg (L := [(0, false), (1, false)]) (by kernel_rfl) ?_
          refine Op.val (dst := some 18) (v := .int .i64 (IntKind.wrap .i64 (i + 1))) (v' := .int .i64 (i + 1)) (by kernel_rfl) (wrapEq_i64 (by omega) (by omega)) ?_
          refine Op.pures 1 [0, 1, 7, 8] (L' := []) (e' := [(0, .slice (some ⟨b37, o38, none⟩) l.length n_l), (1, .func (.func f) #[] #[]), (7, .int .i64 (l.length : Int)), (8, .int .i64 (i + 1))]) (by kernel_rfl) ?_
          refine Op.goto 2 (by kernel_rfl) ?_
          exact ih2  (i + 1) _ (by omega) (by omega) (by omega) (by exact findAt_miss hat h0 hx36 c49)  s45
      · have c50 : ¬ (i < (l.length : Int)) := of_decide_eq_false hb
        clear hb
        refine At.keep [] ?_; show At _ _ _ [] _
        refine At.reg (L := [(0, false)]) (by kernel_rfl) ?_
        refine Op.pures 1 [4] (L' := []) (e' := [(4, .int .i64 (-1))]) (by kernel_rfl) ?_
        refine Op.goto 11 (by kernel_rfl) ?_
        refine At.ret (f := Tryd.f88) (v := .int .i64 (-1)) (by kernel_rfl) (by kernel_rfl) ?_
        refine hR _ _ _ _ s_loop232 ⟨?_, rfl, rfl⟩
        exact (eqI (by exact findAt_end hat c50))
  exact loop2 _  0 _ (Nat.lt_succ_self _) (by omega) (by omega) (by exact findAt_0 _ _)  s0

/-- slices.ContainsFunc[[]string,string] -/
theorem containsFuncS (B : World) (h : Heap) (g : GH) (hg : Sub g h) (hG : Glob g) (v_l : Value) (l : List (List UInt8)) (h_l : SlR g 9 kStr v_l l) (f : Nat) (q : (List UInt8) → Bool) (hf : Enterable Tryd.prog f) (hq : ∀ (B : World) (h : Heap) (g : GH), Sub g h → Glob g → ∀ (x : List UInt8), x.length ≤ 1000000000 → Spec Tryd.prog B f #[.string (mkS x)] h g [] (fun v g' L' => v = .bool (q x) ∧ g' = g ∧ L' = [])) (hall : ∀ x ∈ l, x.length ≤ 1000000000) (hlen : l.length ≤ 1000000000) :
    Spec Tryd.prog B 66 #[v_l, .func (.func f) #[] #[]] h g [] (fun rv g' L' => rv = .bool (l.any q) ∧ g' = g ∧ L' = []) := by
  obtain ⟨a_l, n_l, rfl⟩ := h_l.form
  refine Spec.of_at (f := Tryd.f66) (e := [(0, .slice a_l l.length n_l), (1, .func (.func f) #[] #[])]) Tryd.func66 (by kernel_rfl) (Nat.le_of_ble_eq_true (by kernel_rfl)) (by kernel_rfl) (by kernel_rfl) ?_
  intro R hR
  have s0 := St.init hg
  refine At.reg (L := [(0, false)]) (by kernel_rfl) ?_
  refine Op.pures 1 [0, 1] (L' := []) (e' := [(0, .slice a_l l.length n_l), (1, .func (.func f) #[] #[])]) (by kernel_rfl) ?_
  refine Op.goto 1 (by kernel_rfl) ?_
  refine At.reg (L := [(0, false), (1, false), (2, false), (3, false), (4, false)]) (by kernel_rfl) ?_
  refine Op.pures 2 [5, 6] (L' := [(2, false), (3, false), (4, false)]) (e' := [(5, .slice a_l l.length n_l), (6, .func (.func f) #[] #[])]) (by kernel_rfl) ?_
  refine Op.call0 (dst := some 7) (f := 88) (args := #[.slice a_l l.length n_l, .func (.func f) #[] #[]]) (by kernel_rfl) s0 (indexFuncS _ _ _ s0.sub hG _ _ h_l f (fun x => q x) hf (fun B h g hg hG x => hq B h g hg hG x) (by ((try dsimp only) <;> (first | assumption | omega))) (by ((try dsimp only) <;> (first | assumption | omega))) ) ?_
  rintro _ g53 _ h51 hle54 s52 ⟨rfl, hgg, rfl⟩; subst g53; clear hle54
  refine Op.pures 2 [4] (L' := []) (e' := [(4, .bool (decide ((findI (fun x => q x) l) ≥ (0 : Int))))]) (by kernel_rfl) ?_
  refine Op.goto 2 (by kernel_rfl) ?_
  refine At.ret (f := Tryd.f66) (v := .bool (decide ((findI (fun x => q x) l) ≥ (0 : Int)))) (by kernel_rfl) (by kernel_rfl) ?_
  refine hR _ _ _ _ s52 ⟨?_, rfl, rfl⟩
  exact (eqB (by first | exact findI_any _ _))

/-- stanchion/path.Parts -/
theorem partsP (B : World) (h : Heap) (g : GH) (hg : Sub g h) (hG : Glob g) (p : List UInt8) (hlen : p.length ≤ 1000000000) :
    Spec Tryd.prog B 42 #[.string (mkS p)] h g [] (fun rv g' L' => ∃ v0, rv = .tuple #[v0, .int .i64 (pErr p)] ∧ SlR g' 9 kStr v0 (pList p) ∧ L' = []) := by
  refine Spec.of_at (f := Tryd.f42) (e := [(0, .string (mkS p))]) Tryd.func42 (by kernel_rfl) (Nat.le_of_ble_eq_true (by kernel_rfl)) (by kernel_rfl) (by kernel_rfl) ?_
  intro R hR
  have s0 := St.init hg
  refine At.reg (L := [(0, false), (1, false)]) (by kernel_rfl) ?_
  refine Op.pures 2 [0] (L' := []) (e' := [(0, .string (mkS p))]) (by kernel_rfl) ?_
  refine Op.goto 1 (by kernel_rfl) ?_
  refine At.reg (L := [(0, false), (1, false), (2, false), (3, false), (4, false), (5, false), (6, false)]) (by kernel_rfl) ?_
  refine Op.pures 1 [0, 8] (L' := [(1, false), (2, false), (3, false), (4, false), (5, false), (6, false)]) (e' := [(0, .string (mkS p)), (8, .string (mkS p))]) (by kernel_rfl) ?_
  refine Op.call0 (dst := some 9) (f := 64) (args := #[.string (mkS p), .string (mkS ([47]))]) (by kernel_rfl) s0 (cutPrefix _ _ _ s0.sub hG p ([47])  ) ?_
  rintro _ g57 _ h55 hle58 s56 ⟨rfl, hgg, rfl⟩; subst g57; clear hle58
  refine Op.pures 5 [0, 4, 5] (L' := []) (e' := [(0, .string (mkS p)), (4, .string (mkS (if ([47]).isPrefixOf p = true then p.drop ([47]).length else p))), (5, .bool (([47]).isPrefixOf p))]) (by kernel_rfl) ?_
  refine Op.goto 2 (by kernel_rfl) ?_
  refine At.reg (L := [(0, false), (1, false), (2, false), (3, false), (4, false), (5, false), (6, false)]) (by kernel_rfl) ?_
  refine Op.pures 3 [0, 4, 14] (L' := [(3, false), (4, false), (5, false), (6, false)]) (e' := [(0, .string (mkS p)), (4, .string (mkS (if ([47]).isPrefixOf p = true then p.drop ([47]).length else p))), (14, .bool (!(([47]).isPrefixOf p)))]) (by kernel_rfl) ?_
  refine Op.ways (b := !(([47]).isPrefixOf p)) ⟨fun hb => ?_, fun hb => ?_⟩
  · refine Op.cast (e' := [(0, .string (mkS p)), (4, .string (mkS (if ([47]).isPrefixOf p = true then p.drop ([47]).length else p))), (14, .bool true)]) (by rw [hb]) ?_
    have c59 : (([47]).isPrefixOf p) = false := (notT hb)
    clear hb
    refine Op.pures 4 [4, 18] (L' := []) (e' := [(4, .string (mkS (if ([47]).isPrefixOf p = true then p.drop ([47]).length else p))), (18, .bool true)]) (by kernel_rfl) ?_
    refine Op.goto 3 (by kernel_rfl) ?_
    refine At.condT (c := .tmp 18) (by kernel_rfl) (by kernel_rfl) (by kernel_rfl) 4 (by kernel_rfl) ?_
    refine At.reg (L := [(0, false), (1, false)]) (by kernel_rfl) ?_
    refine Op.pures 2 [2, 3] (L' := []) (e' := [(2, .slice none 0 0), (3, .int .i64 90)]) (by kernel_rfl) ?_
    refine Op.goto 5 (by kernel_rfl) ?_
    refine At.ret (f := Tryd.f42) (v := .tuple #[.slice none 0 0, .int .i64 90]) (by kernel_rfl) (by kernel_rfl) ?_
    refine hR _ _ _ _ s56 ⟨(.slice none 0 0), ?_, ?_, rfl⟩
    · exact eqT2 rfl (eqI (by first | exact (no_ok (pOk_no c59)).1 | exact (no_ok (pOk_no c59)).2 | exact (no_ok (pOk_long (by omega))).1 | exact (no_ok (pOk_long (by omega))).2))
    · exact slEq (SlR.empty _ _ _ _ _) (by first | exact (no_ok (pOk_no c59)).1 | exact (no_ok (pOk_no c59)).2 | exact (no_ok (pOk_long (by omega))).1 | exact (no_ok (pOk_long (by omega))).2)
  · refine Op.cast (e' := [(0, .string (mkS p)), (4, .string (mkS (if ([47]).isPrefixOf p = true then p.drop ([47]).length else p))), (14, .bool false)]) (by rw [hb]) ?_
    have c60 : (([47]).isPrefixOf p) = true := (notF hb)
    clear hb
    refine Op.pures 4 [4, 18] (L' := []) (e' := [(4, .string (mkS (if ([47]).isPrefixOf p = true then p.drop ([47]).length else p))), (18, .bool (decide ((p.length : Int) > (64 : Int))))]) (by kernel_rfl) ?_
    refine Op.goto 3 (by kernel_rfl) ?_
    refine At.cond (b := decide ((p.length : Int) > (64 : Int))) (c := .tmp 18) (by kernel_rfl) (by kernel_rfl) (by kernel_rfl) 4 6 (by kernel_rfl) (by kernel_rfl) (fun hb => ?_) (fun hb => ?_)
    · have c61 : (p.length : Int) > (64 : Int) := of_decide_eq_true hb
      clear hb
      refine At.keep [] ?_; show At _ _ _ [] _
      refine At.reg (L := [(0, false), (1, false)]) (by kernel_rfl) ?_
      refine Op.pures 2 [2, 3] (L' := []) (e' := [(2, .slice none 0 0), (3, .int .i64 90)]) (by kernel_rfl) ?_
      refine Op.goto 5 (by kernel_rfl) ?_
      refine At.ret (f := Tryd.f42) (v := .tuple #[.slice none 0 0, .int .i64 90]) (by kernel_rfl) (by kernel_rfl) ?_
      refine hR _ _ _ _ s56 ⟨(.slice none 0 0), ?_, ?_, rfl⟩
      · exact eqT2 rfl (eqI (by first | exact (no_ok (pOk_no c60)).1 | exact (no_ok (pOk_no c60)).2 | exact (no_ok (pOk_long (by omega))).1 | exact (no_ok (pOk_long (by omega))).2))
      · exact slEq (SlR.empty _ _ _ _ _) (by first | exact (no_ok (pOk_no c60)).1 | exact (no_ok (pOk_no c60)).2 | exact (no_ok (pOk_long (by omega))).1 | exact (no_ok (pOk_long (by omega))).2)
    · have c62 : ¬ ((p.length : Int) > (64 : Int)) := of_decide_eq_false hb
      clear hb
      refine At.keep [4] ?_; show At _ _ _ [(4, .string (mkS (if ([47]).isPrefixOf p = true then p.drop ([47]).length else p)))] _
      refine At.reg (L := [(0, false), (1, false)]) (by kernel_rfl) ?_
      refine Op.pures 1 [4, 19] (L' := [(1, false)]) (e' := [(4, .string (mkS (if ([47]).isPrefixOf p = true then p.drop ([47]).length else p))), (19, .string (mkS (if ([47]).isPrefixOf p = true then p.drop ([47]).length else p)))]) (by kernel_rfl) ?_
      refine Op.val (dst := some 20) (v := .bool ((mkS (if ([47]).isPrefixOf p = true then p.drop ([47]).length else p)).toList == (mkS []).toList)) (v' := .bool ((if ([47]).isPrefixOf p = true then p.drop ([47]).length else p) == ([] : List UInt8))) (by kernel_rfl) (by rw [toList_mkS, toList_mkS]) ?_
      refine Op.goto 7 (by kernel_rfl) ?_
      refine At.cond (b := (if ([47]).isPrefixOf p = true then p.drop ([47]).length else p) == ([] : List UInt8)) (c := .tmp 20) (by kernel_rfl) (by kernel_rfl) (by kernel_rfl) 8 10 (by kernel_rfl) (by kernel_rfl) (fun hb => ?_) (fun hb => ?_)
      · have c63 : (if ([47]).isPrefixOf p = true then p.drop ([47]).length else p) = ([] : List UInt8) := eq_of_beq hb
        clear hb
        refine At.keep [] ?_; show At _ _ _ [] _
        refine At.reg (L := [(0, false), (1, false)]) (by kernel_rfl) ?_
        refine Op.pures 2 [2, 3] (L' := []) (e' := [(2, .slice none 0 0), (3, .int .i64 0)]) (by kernel_rfl) ?_
        refine Op.goto 9 (by kernel_rfl) ?_
        refine At.ret (f := Tryd.f42) (v := .tuple #[.slice none 0 0, .int .i64 0]) (by kernel_rfl) (by kernel_rfl) ?_
        refine hR _ _ _ _ s56 ⟨(.slice none 0 0), ?_, ?_, rfl⟩
        · exact eqT2 rfl (eqI (by first | exact (parts_0 c60 c62 c63).1 | exact (parts_0 c60 c62 c63).2))
        · exact slEq (SlR.empty _ _ _ _ _) (by first | exact (parts_0 c60 c62 c63).1 | exact (parts_0 c60 c62 c63).2)
      · have c64 : ¬ ((if ([47]).isPrefixOf p = true then p.drop ([47]).length else p) = ([] : List UInt8)) := neF hb
        clear hb
        refine At.keep [4] ?_; show At _ _ _ [(4, .string (mkS (if ([47]).isPrefixOf p = true then p.drop ([47]).length else p)))] _
        refine At.reg (L := [(0, false), (1, false), (2, false)]) (by kernel_rfl) ?_
        refine Op.pures 1 [21] (L' := [(1, false), (2, false)]) (e' := [(21, .string (mkS (if ([47]).isPrefixOf p = true then p.drop ([47]).length else p)))]) (by kernel_rfl) ?_
        refine Op.call0 (dst := some 22) (f := 65) (args := #[.string (mkS (if ([47]).isPrefixOf p = true then p.drop ([47]).length else p)), .string (mkS ([47]))]) (by kernel_rfl) s56 (split_spec _ _ _ s56.sub hG (if ([47]).isPrefixOf p = true then p.drop ([47]).length else p) 47 (by ((try dsimp only) <;> (have := restOf_len p; unfold restOf at this; omega))) ) ?_
        rintro _ g71 _ h65 hle72 s66 ⟨v67, rfl, hr68, rfl⟩
        obtain ⟨a69, n70, rfl⟩ := hr68.form
        replace hG := hG.mono hle72
        refine Op.pures 1 [6] (L' := []) (e' := [(6, .slice a69 ((splitOn 47 (if ([47]).isPrefixOf p = true then p.drop ([47]).length else p)).length) n70)]) (by kernel_rfl) ?_
        refine Op.goto 11 (by kernel_rfl) ?_
        refine At.reg (L := [(0, false), (1, false)]) (by kernel_rfl) ?_
        refine Op.pures 1 [6, 23] (L' := [(1, false)]) (e' := [(6, .slice a69 ((splitOn 47 (if ([47]).isPrefixOf p = true then p.drop ([47]).length else p)).length) n70), (23, .slice a69 ((splitOn 47 (if ([47]).isPrefixOf p = true then p.drop ([47]).length else p)).length) n70)]) (by kernel_rfl) ?_
        refine Op.call0 (dst := some 24) (f := 66) (args := #[.slice a69 ((splitOn 47 (if ([47]).isPrefixOf p = true then p.drop ([47]).length else p)).length) n70, .func (.func 67) #[] #[]]) (by kernel_rfl) s66 (containsFuncS _ _ _ s66.sub hG _ _ hr68 67 (fun s => !okPart s) (Enterable.of (by kernel_rfl)) (fun B h g hg hG s => parts1 B h g hg hG s) (by ((try dsimp only) <;> (first | exact fun x hx => Nat.le_trans (splitOn_memlen 47 _ x hx) (Nat.le_trans (restOf_len p) hlen) | (have h1 := splitOn_len 47 (restOf p); have h2 := restOf_len p; unfold restOf at h1 h2; unfold pErr at *; omega)))) (by ((try dsimp only) <;> (first | exact fun x hx => Nat.le_trans (splitOn_memlen 47 _ x hx) (Nat.le_trans (restOf_len p) hlen) | (have h1 := splitOn_len 47 (restOf p); have h2 := restOf_len p; unfold restOf at h1 h2; unfold pErr at *; omega)))) ) ?_
        rintro _ g75 _ h73 hle76 s74 ⟨rfl, hgg, rfl⟩; subst g75; clear hle76
        refine Op.goto 12 (by kernel_rfl) ?_
        refine At.cond (b := (splitOn 47 (if ([47]).isPrefixOf p = true then p.drop ([47]).length else p)).any (fun s => !okPart s)) (c := .tmp 24) (by kernel_rfl) (by kernel_rfl) (by kernel_rfl) 13 15 (by kernel_rfl) (by kernel_rfl) (fun hb => ?_) (fun hb => ?_)
        · have c77 : ((splitOn 47 (if ([47]).isPrefixOf p = true then p.drop ([47]).length else p)).any (fun s => !okPart s)) = true := hb
          clear hb
          refine At.keep [] ?_; show At _ _ _ [] _
          refine At.reg (L := [(0, false), (1, false)]) (by kernel_rfl) ?_
          refine Op.pures 2 [2, 3] (L' := []) (e' := [(2, .slice none 0 0), (3, .int .i64 90)]) (by kernel_rfl) ?_
          refine Op.goto 14 (by kernel_rfl) ?_
          refine At.ret (f := Tryd.f42) (v := .tuple #[.slice none 0 0, .int .i64 90]) (by kernel_rfl) (by kernel_rfl) ?_
          refine hR _ _ _ _ s74 ⟨(.slice none 0 0), ?_, ?_, rfl⟩
          · exact eqT2 rfl (eqI (by first | exact (no_ok (parts_1 c60 c62 c64 c77)).1 | exact (no_ok (parts_1 c60 c62 c64 c77)).2))
          · exact slEq (SlR.empty _ _ _ _ _) (by first | exact (no_ok (parts_1 c60 c62 c64 c77)).1 | exact (no_ok (parts_1 c60 c62 c64 c77)).2)
        · have c78 : ((splitOn 47 (if ([47]).isPrefixOf p = true then p.drop ([47]).length else p)).any (fun s => !okPart s)) = false := hb
          clear hb
          refine At.keep [6] ?_; show At _ _ _ [(6, .slice a69 ((splitOn 47 (if ([47]).isPrefixOf p = true then p.drop ([47]).length else p)).length) n70)] _
          refine At.reg (L := [(0, false), (1, false), (2, false)]) (by kernel_rfl) ?_
          refine Op.pures 3 [2, 3] (L' := []) (e' := [(2, .slice a69 ((splitOn 47 (if ([47]).isPrefixOf p = true then p.drop ([47]).length else p)).length) n70), (3, .int .i64 0)]) (by kernel_rfl) ?_
          refine Op.goto 16 (by kernel_rfl) ?_
          refine At.ret (f := Tryd.f42) (v := .tuple #[.slice a69 ((splitOn 47 (if ([47]).isPrefixOf p = true then p.drop ([47]).length else p)).length) n70, .int .i64 0]) (by kernel_rfl) (by kernel_rfl) ?_
          refine hR _ _ _ _ s74 ⟨(.slice a69 ((splitOn 47 (if ([47]).isPrefixOf p = true then p.drop ([47]).length else p)).length) n70), ?_, ?_, rfl⟩
          · exact eqT2 rfl (eqI (by first | exact (parts_2 c60 c62 c64 c78).1 | exact (parts_2 c60 c62 c64 c78).2))
          · exact slEq hr68 (by first | exact (parts_2 c60 c62 c64 c78).1 | exact (parts_2 c60 c62 c64 c78).2)

/-- stanchion/path.Check -/
theorem checkP (B : World) (h : Heap) (g : GH) (hg : Sub g h) (hG : Glob g) (p : List UInt8) (hlen : p.length ≤ 1000000000) :
    Spec Tryd.prog B 38 #[.string (mkS p)] h g [] (fun rv g' L' => rv = .int .i64 (pErr p) ∧ g' = g ∧ L' = []) := by
  refine Spec.of_at (f := Tryd.f38) (e := [(0, .string (mkS p))]) Tryd.func38 (by kernel_rfl) (Nat.le_of_ble_eq_true (by kernel_rfl)) (by kernel_rfl) (by kernel_rfl) ?_
  intro R hR
  have s0 := St.init hg
  refine At.reg (L := [(0, false)]) (by kernel_rfl) ?_
  refine Op.pures 1 [0] (L' := []) (e' := [(0, .string (mkS p))]) (by kernel_rfl) ?_
  refine Op.goto 1 (by kernel_rfl) ?_
  refine At.reg (L := [(0, false), (1, false), (2, false), (3, false), (4, false), (5, false), (6, false)]) (by kernel_rfl) ?_
  refine Op.pures 1 [6] (L' := [(1, false), (2, false), (3, false), (4, false), (5, false), (6, false)]) (e' := [(6, .string (mkS p))]) (by kernel_rfl) ?_
  refine Op.call0 (dst := some 7) (f := 42) (args := #[.string (mkS p)]) (by kernel_rfl) s0 (partsP _ _ _ s0.sub hG p (by ((try dsimp only) <;> (omega))) ) ?_
  rintro _ g85 _ h79 hle86 s80 ⟨v81, rfl, hr82, rfl⟩
  obtain ⟨a83, n84, rfl⟩ := hr82.form
  replace hG := hG.mono hle86
  refine Op.pures 5 [4] (L' := []) (e' := [(4, .int .i64 (pErr p))]) (by kernel_rfl) ?_
  refine Op.goto 2 (by kernel_rfl) ?_
  refine At.reg (L := [(0, false), (1, false)]) (by kernel_rfl) ?_
  refine Op.pures 2 [2] (L' := []) (e' := [(2, .int .i64 (pErr p))]) (by kernel_rfl) ?_
  refine Op.goto 3 (by kernel_rfl) ?_
  refine At.ret (f := Tryd.f38) (v := .int .i64 (pErr p)) (by kernel_rfl) (by kernel_rfl) ?_
  have s87 : St h g (ids []) g [] h79 := s80.unfrz
  refine hR _ _ _ _ s87 ⟨?_, rfl, rfl⟩
  exact (eqI (by rfl))

/-- stanchion/path.cut -/
theorem cutP (B : World) (h : Heap) (g : GH) (hg : Sub g h) (hG : Glob g) (p : List UInt8) (hlen : p.length ≤ 1000000000) :
    Spec Tryd.prog B 60 #[.string (mkS p)] h g [] (fun rv g' L' => ∃ v0, rv = .tuple #[v0, .string (mkS (lastOf (pList p))), .int .i64 (cutErr p)] ∧ SlR g' 9 kStr v0 ((pList p).dropLast) ∧ L' = []) := by
  refine Spec.of_at (f := Tryd.f60) (e := [(0, .string (mkS p))]) Tryd.func60 (by kernel_rfl) (Nat.le_of_ble_eq_true (by kernel_rfl)) (by kernel_rfl) (by kernel_rfl) ?_
  intro R hR
  have s0 := St.init hg
  refine At.reg (L := [(0, false), (1, false), (2, false)]) (by kernel_rfl) ?_
  refine Op.pures 3 [0] (L' := []) (e' := [(0, .string (mkS p))]) (by kernel_rfl) ?_
  refine Op.goto 1 (by kernel_rfl) ?_
  refine At.reg (L := [(0, false), (1, false), (2, false), (3, false), (4, false), (5, false), (6, false)]) (by kernel_rfl) ?_
  refine Op.pures 1 [8] (L' := [(1, false), (2, false), (3, false), (4, false), (5, false), (6, false)]) (e' := [(8, .string (mkS p))]) (by kernel_rfl) ?_
  refine Op.call0 (dst := some 9) (f := 42) (args := #[.string (mkS p)]) (by kernel_rfl) s0 (partsP _ _ _ s0.sub hG p (by ((try dsimp only) <;> ((have := pList_len p; omega)))) ) ?_
  rintro _ g94 _ h88 hle95 s89 ⟨v90, rfl, hr91, rfl⟩
  obtain ⟨a92, n93, rfl⟩ := hr91.form
  replace hG := hG.mono hle95
  refine Op.pures 5 [5, 6] (L' := []) (e' := [(5, .slice a92 ((pList p).length) n93), (6, .int .i64 (pErr p))]) (by kernel_rfl) ?_
  refine Op.goto 2 (by kernel_rfl) ?_
  refine At.reg (L := [(0, false), (1, false), (2, false), (3, false), (4, false), (5, false), (6, false)]) (by kernel_rfl) ?_
  refine Op.pures 3 [5, 14] (L' := [(3, false), (4, false), (5, false), (6, false)]) (e' := [(5, .slice a92 ((pList p).length) n93), (14, .bool ((pErr p) != (0 : Int)))]) (by kernel_rfl) ?_
  refine Op.ways (b := (pErr p) != (0 : Int)) ⟨fun hb => ?_, fun hb => ?_⟩
  · refine Op.cast (e' := [(5, .slice a92 ((pList p).length) n93), (14, .bool true)]) (by rw [hb]) ?_
    have c96 : ¬ ((pErr p) = (0 : Int)) := bneT hb
    clear hb
    refine Op.pures 4 [5, 18] (L' := []) (e' := [(5, .slice a92 ((pList p).length) n93), (18, .bool true)]) (by kernel_rfl) ?_
    refine Op.goto 3 (by kernel_rfl) ?_
    refine At.condT (c := .tmp 18) (by kernel_rfl) (by kernel_rfl) (by kernel_rfl) 4 (by kernel_rfl) ?_
    refine At.reg (L := [(0, false), (1, false), (2, false)]) (by kernel_rfl) ?_
    refine Op.pures 3 [2, 3, 4] (L' := []) (e' := [(2, .slice none 0 0), (3, .string (mkS [])), (4, .int .i64 90)]) (by kernel_rfl) ?_
    refine Op.goto 5 (by kernel_rfl) ?_
    refine At.ret (f := Tryd.f60) (v := .tuple #[.slice none 0 0, .string (mkS []), .int .i64 90]) (by kernel_rfl) (by kernel_rfl) ?_
    refine hR _ _ _ _ s89 ⟨(.slice none 0 0), ?_, ?_, rfl⟩
    · exact eqT3 rfl (eqS (by first | exact (cut_no (pList_no c96)).1 | exact (cut_no (pList_no c96)).2.1 | exact (cut_no (pList_no c96)).2.2 | exact (cut_no (List.eq_nil_of_length_eq_zero (by omega))).1 | exact (cut_no (List.eq_nil_of_length_eq_zero (by omega))).2.1 | exact (cut_no (List.eq_nil_of_length_eq_zero (by omega))).2.2)) (eqI (by first | exact (cut_no (pList_no c96)).1 | exact (cut_no (pList_no c96)).2.1 | exact (cut_no (pList_no c96)).2.2 | exact (cut_no (List.eq_nil_of_length_eq_zero (by omega))).1 | exact (cut_no (List.eq_nil_of_length_eq_zero (by omega))).2.1 | exact (cut_no (List.eq_nil_of_length_eq_zero (by omega))).2.2))
    · exact slEq (SlR.empty _ _ _ _ _) (by first | exact (cut_no (pList_no c96)).1 | exact (cut_no (pList_no c96)).2.1 | exact (cut_no (pList_no c96)).2.2 | exact (cut_no (List.eq_nil_of_length_eq_zero (by omega))).1 | exact (cut_no (List.eq_nil_of_length_eq_zero (by omega))).2.1 | exact (cut_no (List.eq_nil_of_length_eq_zero (by omega))).2.2)
  · refine Op.cast (e' := [(5, .slice a92 ((pList p).length) n93), (14, .bool false)]) (by rw [hb]) ?_
    have c97 : (pErr p) = (0 : Int) := bneF hb
    clear hb
    refine Op.pures 4 [5, 18] (L' := []) (e' := [(5, .slice a92 ((pList p).length) n93), (18, .bool (((pList p).length : Int) == (0 : Int)))]) (by kernel_rfl) ?_
    refine Op.goto 3 (by kernel_rfl) ?_
    refine At.cond (b := ((pList p).length : Int) == (0 : Int)) (c := .tmp 18) (by kernel_rfl) (by kernel_rfl) (by kernel_rfl) 4 6 (by kernel_rfl) (by kernel_rfl) (fun hb => ?_) (fun hb => ?_)
    · have c98 : ((pList p).length : Int) = (0 : Int) := eq_of_beq hb
      clear hb
      refine At.keep [] ?_; show At _ _ _ [] _
      refine At.reg (L := [(0, false), (1, false), (2, false)]) (by kernel_rfl) ?_
      refine Op.pures 3 [2, 3, 4] (L' := []) (e' := [(2, .slice none 0 0), (3, .string (mkS [])), (4, .int .i64 90)]) (by kernel_rfl) ?_
      refine Op.goto 5 (by kernel_rfl) ?_
      refine At.ret (f := Tryd.f60) (v := .tuple #[.slice none 0 0, .string (mkS []), .int .i64 90]) (by kernel_rfl) (by kernel_rfl) ?_
      refine hR _ _ _ _ s89 ⟨(.slice none 0 0), ?_, ?_, rfl⟩
      · exact eqT3 rfl (eqS (by first | exact (cut_no (pList_no c97)).1 | exact (cut_no (pList_no c97)).2.1 | exact (cut_no (pList_no c97)).2.2 | exact (cut_no (List.eq_nil_of_length_eq_zero (by omega))).1 | exact (cut_no (List.eq_nil_of_length_eq_zero (by omega))).2.1 | exact (cut_no (List.eq_nil_of_length_eq_zero (by omega))).2.2)) (eqI (by first | exact (cut_no (pList_no c97)).1 | exact (cut_no (pList_no c97)).2.1 | exact (cut_no (pList_no c97)).2.2 | exact (cut_no (List.eq_nil_of_length_eq_zero (by omega))).1 | exact (cut_no (List.eq_nil_of_length_eq_zero (by omega))).2.1 | exact (cut_no (List.eq_nil_of_length_eq_zero (by omega))).2.2))
      · exact slEq (SlR.empty _ _ _ _ _) (by first | exact (cut_no (pList_no c97)).1 | exact (cut_no (pList_no c97)).2.1 | exact (cut_no (pList_no c97)).2.2 | exact (cut_no (List.eq_nil_of_length_eq_zero (by omega))).1 | exact (cut_no (List.eq_nil_of_length_eq_zero (by omega))).2.1 | exact (cut_no (List.eq_nil_of_length_eq_zero (by omega))).2.2)
    · have c99 : ¬ (((pList p).length : Int) = (0 : Int)) := neF hb
      clear hb
      refine At.keep [5] ?_; show At _ _ _ [(5, .slice a92 ((pList p).length) n93)] _
      refine At.draw (by kernel_rfl) (fun _ => False) [(0, true), (1, true), (2, true), (3, true), (4, true), (5, true), (6, true), (7, true), (8, true), (9, true), (11, true), (10, false), (12, true), (13, true)] (by kernel_rfl) ?_
      refine Op.pures 3 [5, 19, 21] (L' := [(3, true), (4, true), (5, true), (6, true), (7, true), (8, true), (9, true), (11, true), (10, false), (12, true), (13, true)]) (e' := [(5, .slice a92 ((pList p).length) n93), (19, .slice a92 ((pList p).length) n93), (21, .int .i64 ((pList p).length : Int))]) (by kernel_rfl) ?_
      refine Op.val (dst := some 22) (v := .int .i64 (IntKind.wrap .i64 (((pList p).length : Int) - 1))) (v' := .int .i64 (((pList p).length : Int) - 1)) (by kernel_rfl) (wrapEq_i64 (by (have := pList_len p; omega)) (by (have := pList_len p; omega))) ?_
      refine Op.slHiD (T := 37) (E := 9) (by_ := 16) (x := (.tmp 19)) (ao := a92) (n := ((pList p).length)) (c := n93) (dst := 23) (d := kStr) (hi := (.tmp 22)) (k := .i64) (m := ((pList p).length : Int) - 1) (by kernel_rfl) (by kernel_rfl) (by kernel_rfl) (by kernel_rfl) hr91 (by (have := pList_len p; omega)) (by (have := pList_len p; omega)) ?_
      intro v100 hr101
      obtain ⟨a102, n103, rfl⟩ := hr101.form
      refine Op.pures 3 [23, 24, 26] (L' := [(8, true), (9, true), (11, true), (10, false), (12, true), (13, true)]) (e' := [(23, .slice a102 (((pList p).take (((pList p).length : Int) - 1 : Int).toNat).length) n103), (24, .slice a92 ((pList p).length) n93), (26, .int .i64 ((pList p).length : Int))]) (by kernel_rfl) ?_
      refine Op.val (dst := some 27) (v := .int .i64 (IntKind.wrap .i64 (((pList p).length : Int) - 1))) (v' := .int .i64 (((pList p).length : Int) - 1)) (by kernel_rfl) (wrapEq_i64 (by (have := pList_len p; omega)) (by (have := pList_len p; omega))) ?_
      obtain ⟨x104, hx105⟩ : ∃ c, (pList p)[(((pList p).length : Int) - 1 : Int).toNat]? = some c := ⟨_, List.getElem?_eq_getElem (by (have := pList_len p; omega))⟩
      obtain ⟨b106, o107, cu108, fz109, ha110, hb111, hk112⟩ := SlR.at_ hr91 _ hx105
      cases ha110
      refine Op.idx (T := 37) (E := 9) (sz := 1) (by_ := 16) (n := ((pList p).length)) (c := n93) (k := .i64) (x := (.tmp 24)) (ix := (.tmp 27)) (dst := 28) (bk := b106) (o := o107) (m := ((pList p).length : Int) - 1) (by kernel_rfl) (by kernel_rfl) (by kernel_rfl) (by kernel_rfl) (by (have := pList_len p; omega)) (by (have := pList_len p; omega)) ?_
      replace hk112 : cut _ _ _ = [.string (mkS x104)] := hk112
      refine Op.pures 1 [2, 28] (L' := [(10, false), (12, true), (13, true)]) (e' := [(2, .slice a102 (((pList p).take (((pList p).length : Int) - 1 : Int).toNat).length) n103), (28, .pointer (some ⟨b106, o107 + (((pList p).length : Int) - 1 : Int).toNat * 1, none⟩))]) (by kernel_rfl) ?_
      refine Op.load (T := 9) (x := (.tmp 28)) (o := o107 + (((pList p).length : Int) - 1 : Int).toNat * 1) (d := 29) (n := 1) (v := .string (mkS x104)) (by kernel_rfl) (by kernel_rfl) (by kernel_rfl) (s89.sub _ _ hb111) (cut_get hk112 0 rfl) ?_
      refine Op.pures 2 [2, 3, 4] (L' := []) (e' := [(2, .slice a102 (((pList p).take (((pList p).length : Int) - 1 : Int).toNat).length) n103), (3, .string (mkS x104)), (4, .int .i64 0)]) (by kernel_rfl) ?_
      refine Op.goto 7 (by kernel_rfl) ?_
      refine At.ret (f := Tryd.f60) (v := .tuple #[.slice a102 (((pList p).take (((pList p).length : Int) - 1 : Int).toNat).length) n103, .string (mkS x104), .int .i64 0]) (by kernel_rfl) (by kernel_rfl) ?_
      refine hR _ _ _ _ s89 ⟨(.slice a102 (((pList p).take (((pList p).length : Int) - 1 : Int).toNat).length) n103), ?_, ?_, rfl⟩
      · exact eqT3 rfl (eqS (by first | exact take_last rfl c99 | exact getLast_of hx105 (by have := pList_len p; omega) | exact (cutErr_0 (by omega)).symm)) (eqI (by first | exact take_last rfl c99 | exact getLast_of hx105 (by have := pList_len p; omega) | exact (cutErr_0 (by omega)).symm))
      · exact slEq hr101 (by first | exact take_last rfl c99 | exact getLast_of hx105 (by have := pList_len p; omega) | exact (cutErr_0 (by omega)).symm)

/-- stanchion/path.joined -/
theorem joinedP (B : World) (h : Heap) (g : GH) (hg : Sub g h) (hG : Glob g) (v_l : Value) (l : List (List UInt8)) (h_l : SlR g 9 kStr v_l l) (h64 : l.length ≤ 1000000000) (hL : (joinC 47 l).length ≤ 1000000000) :
    Spec Tryd.prog B 61 #[v_l] h g [] (fun rv g' L' => rv = .string (mkS (joined l)) ∧ g' = g ∧ L' = []) := by
  obtain ⟨a_l, n_l, rfl⟩ := h_l.form
  refine Spec.of_at (f := Tryd.f61) (e := [(0, .slice a_l l.length n_l)]) Tryd.func61 (by kernel_rfl) (Nat.le_of_ble_eq_true (by kernel_rfl)) (by kernel_rfl) (by kernel_rfl) ?_
  intro R hR
  have s0 := St.init hg
  refine At.reg (L := [(0, false)]) (by kernel_rfl) ?_
  refine Op.pures 1 [0] (L' := []) (e' := [(0, .slice a_l l.length n_l)]) (by kernel_rfl) ?_
  refine Op.goto 1 (by kernel_rfl) ?_
  refine At.reg (L := [(0, false), (1, false), (2, false), (3, false)]) (by kernel_rfl) ?_
  refine Op.pures 1 [3] (L' := [(1, false), (2, false), (3, false)]) (e' := [(3, .slice a_l l.length n_l)]) (by kernel_rfl) ?_
  refine Op.call0 (dst := some 4) (f := 84) (args := #[.slice a_l l.length n_l, .string (mkS ([47]))]) (by kernel_rfl) s0 (join_spec _ _ _ s0.sub hG _ _ h_l ([47]) (by ((try dsimp only) <;> (first | (rw [joinE_L]; omega) | omega))) (by ((try dsimp only) <;> (first | (rw [joinE_L]; omega) | omega))) ) ?_
  rintro _ g115 _ h113 hle116 s114 ⟨rfl, hgg, rfl⟩; subst g115; clear hle116
  refine Op.strAdd (T := 9) (T' := 9) (x := (.const (.string (mkS ([47]))))) (y := (.tmp 4)) (dst := 5) (l := [47]) (m := Lib.join l ([47])) (by kernel_rfl) (by kernel_rfl) (by kernel_rfl) (by rw [joinE_L]; simp; omega) ?_
  refine Op.pures 1 [2] (L' := []) (e' := [(2, .string (mkS (([47]) ++ (Lib.join l ([47])))))]) (by kernel_rfl) ?_
  refine Op.goto 2 (by kernel_rfl) ?_
  refine At.ret (f := Tryd.f61) (v := .string (mkS (([47]) ++ (Lib.join l ([47]))))) (by kernel_rfl) (by kernel_rfl) ?_
  refine hR _ _ _ _ s114 ⟨?_, rfl, rfl⟩
  exact (eqS (by rw [joinE_L]; rfl))

/-- stanchion/path.Parent -/
theorem parentP (B : World) (h : Heap) (g : GH) (hg : Sub g h) (hG : Glob g) (p : List UInt8) (hlen : p.length ≤ 1000000000) :
    Spec Tryd.prog B 34 #[.string (mkS p)] h g [] (fun rv g' L' => rv = .tuple #[.string (mkS (parentOf p)), .int .i64 (cutErr p)] ∧ g' = g ∧ L' = []) := by
  refine Spec.of_at (f := Tryd.f34) (e := [(0, .string (mkS p))]) Tryd.func34 (by kernel_rfl) (Nat.le_of_ble_eq_true (by kernel_rfl)) (by kernel_rfl) (by kernel_rfl) ?_
  intro R hR
  have s0 := St.init hg
  refine At.reg (L := [(0, false), (1, false)]) (by kernel_rfl) ?_
  refine Op.pures 2 [0] (L' := []) (e' := [(0, .string (mkS p))]) (by kernel_rfl) ?_
  refine Op.goto 1 (by kernel_rfl) ?_
  refine At.reg (L := [(0, false), (1, false), (2, false), (3, false), (4, false), (5, false), (6, false), (7, false), (8, false)]) (by kernel_rfl) ?_
  refine Op.pures 1 [8] (L' := [(1, false), (2, false), (3, false), (4, false), (5, false), (6, false), (7, false), (8, false)]) (e' := [(8, .string (mkS p))]) (by kernel_rfl) ?_
  refine Op.call0 (dst := some 9) (f := 60) (args := #[.string (mkS p)]) (by kernel_rfl) s0 (cutP _ _ _ s0.sub hG p (by ((try dsimp only) <;> (omega))) ) ?_
  rintro _ g123 _ h117 hle124 s118 ⟨v119, rfl, hr120, rfl⟩
  obtain ⟨a121, n122, rfl⟩ := hr120.form
  replace hG := hG.mono hle124
  refine Op.pures 7 [4, 6] (L' := []) (e' := [(4, .slice a121 (((pList p).dropLast).length) n122), (6, .int .i64 (cutErr p))]) (by kernel_rfl) ?_
  refine Op.goto 2 (by kernel_rfl) ?_
  refine At.reg (L := [(0, false), (1, false)]) (by kernel_rfl) ?_
  refine Op.pures 2 [4, 6, 14] (L' := []) (e' := [(4, .slice a121 (((pList p).dropLast).length) n122), (6, .int .i64 (cutErr p)), (14, .bool ((cutErr p) != (0 : Int)))]) (by kernel_rfl) ?_
  refine Op.goto 3 (by kernel_rfl) ?_
  refine At.cond (b := (cutErr p) != (0 : Int)) (c := .tmp 14) (by kernel_rfl) (by kernel_rfl) (by kernel_rfl) 4 6 (by kernel_rfl) (by kernel_rfl) (fun hb => ?_) (fun hb => ?_)
  · have c125 : ¬ ((cutErr p) = (0 : Int)) := bneT hb
    clear hb
    refine At.keep [6] ?_; show At _ _ _ [(6, .int .i64 (cutErr p))] _
    refine At.reg (L := [(0, false), (1, false), (2, false)]) (by kernel_rfl) ?_
    refine Op.pures 3 [2, 3] (L' := []) (e' := [(2, .string (mkS [])), (3, .int .i64 (cutErr p))]) (by kernel_rfl) ?_
    refine Op.goto 5 (by kernel_rfl) ?_
    refine At.ret (f := Tryd.f34) (v := .tuple #[.string (mkS []), .int .i64 (cutErr p)]) (by kernel_rfl) (by kernel_rfl) ?_
    have s126 : St h g (ids []) g [] h117 := s118.unfrz
    refine hR _ _ _ _ s126 ⟨?_, rfl, rfl⟩
    exact eqT2 (eqS (by first | rfl | exact parent_no c125)) (eqI (by first | rfl | exact parent_no c125))
  · have c127 : (cutErr p) = (0 : Int) := bneF hb
    clear hb
    refine At.keep [4] ?_; show At _ _ _ [(4, .slice a121 (((pList p).dropLast).length) n122)] _
    refine At.reg (L := [(0, false), (1, false), (2, false), (3, false)]) (by kernel_rfl) ?_
    refine Op.pures 1 [16] (L' := [(1, false), (2, false), (3, false)]) (e' := [(16, .slice a121 (((pList p).dropLast).length) n122)]) (by kernel_rfl) ?_
    refine Op.call0 (dst := some 17) (f := 61) (args := #[.slice a121 (((pList p).dropLast).length) n122]) (by kernel_rfl) s118 (joinedP _ _ _ s118.sub hG _ _ hr120 (by ((try dsimp only) <;> (first | exact Nat.le_trans (pDropL_len p) (by omega) | exact Nat.le_trans (pDrop_len p) hlen))) (by ((try dsimp only) <;> (first | exact Nat.le_trans (pDropL_len p) (by omega) | exact Nat.le_trans (pDrop_len p) hlen))) ) ?_
    rintro _ g130 _ h128 hle131 s129 ⟨rfl, hgg, rfl⟩; subst g130; clear hle131
    refine Op.pures 2 [2, 3] (L' := []) (e' := [(2, .string (mkS (joined ((pList p).dropLast)))), (3, .int .i64 0)]) (by kernel_rfl) ?_
    refine Op.goto 7 (by kernel_rfl) ?_
    refine At.ret (f := Tryd.f34) (v := .tuple #[.string (mkS (joined ((pList p).dropLast))), .int .i64 0]) (by kernel_rfl) (by kernel_rfl) ?_
    have s132 : St h g (ids []) g [] h128 := s129.unfrz
    refine hR _ _ _ _ s132 ⟨?_, rfl, rfl⟩
    exact eqT2 (eqS (by first | exact parent_ok c127 | exact c127.symm)) (eqI (by first | exact parent_ok c127 | exact c127.symm))

/-- stanchion/path.Name -/
theorem nameP (B : World) (h : Heap) (g : GH) (hg : Sub g h) (hG : Glob g) (p : List UInt8) (hlen : p.length ≤ 1000000000) :
    Spec Tryd.prog B 36 #[.string (mkS p)] h g [] (fun rv g' L' => rv = .tuple #[.string (mkS (nameOf p)), .int .i64 (cutErr p)] ∧ g' = g ∧ L' = []) := by
  refine Spec.of_at (f := Tryd.f36) (e := [(0, .string (mkS p))]) Tryd.func36 (by kernel_rfl) (Nat.le_of_ble_eq_true (by kernel_rfl)) (by kernel_rfl) (by kernel_rfl) ?_
  intro R hR
  have s0 := St.init hg
  refine At.reg (L := [(0, false), (1, false)]) (by kernel_rfl) ?_
  refine Op.pures 2 [0] (L' := []) (e' := [(0, .string (mkS p))]) (by kernel_rfl) ?_
  refine Op.goto 1 (by kernel_rfl) ?_
  refine At.reg (L := [(0, false), (1, false), (2, false), (3, false), (4, false), (5, false), (6, false), (7, false), (8, false)]) (by kernel_rfl) ?_
  refine Op.pures 1 [8] (L' := [(1, false), (2, false), (3, false), (4, false), (5, false), (6, false), (7, false), (8, false)]) (e' := [(8, .string (mkS p))]) (by kernel_rfl) ?_
  refine Op.call0 (dst := some 9) (f := 60) (args := #[.string (mkS p)]) (by kernel_rfl) s0 (cutP _ _ _ s0.sub hG p (by ((try dsimp only) <;> (omega))) ) ?_
  rintro _ g139 _ h133 hle140 s134 ⟨v135, rfl, hr136, rfl⟩
  obtain ⟨a137, n138, rfl⟩ := hr136.form
  replace hG := hG.mono hle140
  refine Op.pures 7 [5, 6] (L' := []) (e' := [(5, .string (mkS (lastOf (pList p)))), (6, .int .i64 (cutErr p))]) (by kernel_rfl) ?_
  refine Op.goto 2 (by kernel_rfl) ?_
  refine At.reg (L := [(0, false), (1, false), (2, false), (3, false)]) (by kernel_rfl) ?_
  refine Op.pures 4 [2, 3] (L' := []) (e' := [(2, .string (mkS (lastOf (pList p)))), (3, .int .i64 (cutErr p))]) (by kernel_rfl) ?_
  refine Op.goto 3 (by kernel_rfl) ?_
  refine At.ret (f := Tryd.f36) (v := .tuple #[.string (mkS (lastOf (pList p))), .int .i64 (cutErr p)]) (by kernel_rfl) (by kernel_rfl) ?_
  have s141 : St h g (ids []) g [] h133 := s134.unfrz
  refine hR _ _ _ _ s141 ⟨?_, rfl, rfl⟩
  exact eqT2 (eqS (by rfl)) (eqI (by rfl))

/-- stanchion/path.checked -/
theorem checkedP (B : World) (h : Heap) (g : GH) (hg : Sub g h) (hG : Glob g) (p : List UInt8) (hlen : p.length ≤ 1000000000) :
    Spec Tryd.prog B 71 #[.string (mkS p)] h g [] (fun rv g' L' => rv = .tuple #[.string (mkS (checkedS p)), .int .i64 (pErr p)] ∧ g' = g ∧ L' = []) := by
  refine Spec.of_at (f := Tryd.f71) (e := [(0, .string (mkS p))]) Tryd.func71 (by kernel_rfl) (Nat.le_of_ble_eq_true (by kernel_rfl)) (by kernel_rfl) (by kernel_rfl) ?_
  intro R hR
  have s0 := St.init hg
  refine At.reg (L := [(0, false), (1, false)]) (by kernel_rfl) ?_
  refine Op.pures 2 [0] (L' := []) (e' := [(0, .string (mkS p))]) (by kernel_rfl) ?_
  refine Op.goto 1 (by kernel_rfl) ?_
  refine At.reg (L := [(0, false), (1, false), (2, false)]) (by kernel_rfl) ?_
  refine Op.pures 1 [0, 5] (L' := [(1, false), (2, false)]) (e' := [(0, .string (mkS p)), (5, .string (mkS p))]) (by kernel_rfl) ?_
  refine Op.call0 (dst := some 6) (f := 38) (args := #[.string (mkS p)]) (by kernel_rfl) s0 (checkP _ _ _ s0.sub hG p (by ((try dsimp only) <;> (omega))) ) ?_
  rintro _ g144 _ h142 hle145 s143 ⟨rfl, hgg, rfl⟩; subst g144; clear hle145
  refine Op.pures 1 [0, 4] (L' := []) (e' := [(0, .string (mkS p)), (4, .int .i64 (pErr p))]) (by kernel_rfl) ?_
  refine Op.goto 2 (by kernel_rfl) ?_
  refine At.reg (L := [(0, false), (1, false)]) (by kernel_rfl) ?_
  refine Op.pures 2 [0, 4, 8] (L' := []) (e' := [(0, .string (mkS p)), (4, .int .i64 (pErr p)), (8, .bool ((pErr p) != (0 : Int)))]) (by kernel_rfl) ?_
  refine Op.goto 3 (by kernel_rfl) ?_
  refine At.cond (b := (pErr p) != (0 : Int)) (c := .tmp 8) (by kernel_rfl) (by kernel_rfl) (by kernel_rfl) 4 6 (by kernel_rfl) (by kernel_rfl) (fun hb => ?_) (fun hb => ?_)
  · have c146 : ¬ ((pErr p) = (0 : Int)) := bneT hb
    clear hb
    refine At.keep [4] ?_; show At _ _ _ [(4, .int .i64 (pErr p))] _
    refine At.reg (L := [(0, false), (1, false), (2, false)]) (by kernel_rfl) ?_
    refine Op.pures 3 [2, 3] (L' := []) (e' := [(2, .string (mkS [])), (3, .int .i64 (pErr p))]) (by kernel_rfl) ?_
    refine Op.goto 5 (by kernel_rfl) ?_
    refine At.ret (f := Tryd.f71) (v := .tuple #[.string (mkS []), .int .i64 (pErr p)]) (by kernel_rfl) (by kernel_rfl) ?_
    refine hR _ _ _ _ s143 ⟨?_, rfl, rfl⟩
    exact eqT2 (eqS (by first | rfl | exact checked_no c146 | exact (checked_ok c146).1 | exact (checked_ok c146).2)) (eqI (by first | rfl | exact checked_no c146 | exact (checked_ok c146).1 | exact (checked_ok c146).2))
  · have c147 : (pErr p) = (0 : Int) := bneF hb
    clear hb
    refine At.keep [0] ?_; show At _ _ _ [(0, .string (mkS p))] _
    refine At.reg (L := [(0, false), (1, false), (2, false)]) (by kernel_rfl) ?_
    refine Op.pures 3 [2, 3] (L' := []) (e' := [(2, .string (mkS p)), (3, .int .i64 0)]) (by kernel_rfl) ?_
    refine Op.goto 7 (by kernel_rfl) ?_
    refine At.ret (f := Tryd.f71) (v := .tuple #[.string (mkS p), .int .i64 0]) (by kernel_rfl) (by kernel_rfl) ?_
    refine hR _ _ _ _ s143 ⟨?_, rfl, rfl⟩
    exact eqT2 (eqS (by first | rfl | exact checked_no c147 | exact (checked_ok c147).1 | exact (checked_ok c147).2)) (eqI (by first | rfl | exact checked_no c147 | exact (checked_ok c147).1 | exact (checked_ok c147).2))

/-- stanchion/path.Within -/
theorem withinP (B : World) (h : Heap) (g : GH) (hg : Sub g h) (hG : Glob g) (p : List UInt8) (top : List UInt8) (h1 : p.length ≤ 1000000000) (h2 : top.length ≤ 1000000000) :
    Spec Tryd.prog B 40 #[.string (mkS p), .string (mkS top)] h g [] (fun rv g' L' => rv = .bool (withinB p top) ∧ g' = g ∧ L' = []) := by
  refine Spec.of_at (f := Tryd.f40) (e := [(0, .string (mkS p)), (1, .string (mkS top))]) Tryd.func40 (by kernel_rfl) (Nat.le_of_ble_eq_true (by kernel_rfl)) (by kernel_rfl) (by kernel_rfl) ?_
  intro R hR
  have s0 := St.init hg
  refine At.reg (L := [(0, false)]) (by kernel_rfl) ?_
  refine Op.pures 1 [0, 1] (L' := []) (e' := [(0, .string (mkS p)), (1, .string (mkS top))]) (by kernel_rfl) ?_
  refine Op.goto 1 (by kernel_rfl) ?_
  refine At.reg (L := [(0, false), (1, false), (2, false), (3, false), (4, false), (5, false), (6, false), (7, false)]) (by kernel_rfl) ?_
  refine Op.pures 1 [0, 1, 5] (L' := [(1, false), (2, false), (3, false), (4, false), (5, false), (6, false), (7, false)]) (e' := [(0, .string (mkS p)), (1, .string (mkS top)), (5, .string (mkS p))]) (by kernel_rfl) ?_
  refine Op.call0 (dst := some 6) (f := 38) (args := #[.string (mkS p)]) (by kernel_rfl) s0 (checkP _ _ _ s0.sub hG p (by ((try dsimp only) <;> (first | omega | (simp only [List.length_append, List.length_cons, List.length_nil, List.length_take, List.length_drop]; omega)))) ) ?_
  rintro _ g150 _ h148 hle151 s149 ⟨rfl, hgg, rfl⟩; subst g150; clear hle151
  refine Op.pures 2 [0, 1, 8] (L' := [(4, false), (5, false), (6, false), (7, false)]) (e' := [(0, .string (mkS p)), (1, .string (mkS top)), (8, .bool ((pErr p) != (0 : Int)))]) (by kernel_rfl) ?_
  refine Op.ways (b := (pErr p) != (0 : Int)) ⟨fun hb => ?_, fun hb => ?_⟩
  · refine Op.cast (e' := [(0, .string (mkS p)), (1, .string (mkS top)), (8, .bool true)]) (by rw [hb]) ?_
    have c152 : ¬ ((pErr p) = (0 : Int)) := bneT hb
    clear hb
    refine Op.pures 4 [0, 1, 12] (L' := []) (e' := [(0, .string (mkS p)), (1, .string (mkS top)), (12, .bool true)]) (by kernel_rfl) ?_
    refine Op.goto 2 (by kernel_rfl) ?_
    refine At.condT (c := .tmp 12) (by kernel_rfl) (by kernel_rfl) (by kernel_rfl) 3 (by kernel_rfl) ?_
    refine At.reg (L := [(0, false)]) (by kernel_rfl) ?_
    refine Op.pures 1 [4] (L' := []) (e' := [(4, .bool false)]) (by kernel_rfl) ?_
    refine Op.goto 4 (by kernel_rfl) ?_
    refine At.ret (f := Tryd.f40) (v := .bool false) (by kernel_rfl) (by kernel_rfl) ?_
    refine hR _ _ _ _ s149 ⟨?_, rfl, rfl⟩
    exact (eqB (by first | exact within_n1 (by assumption) | exact within_n2 (by assumption) | exact within_a (by assumption) (by assumption) (by assumption) | exact within_b (by assumption) (by assumption) (by assumption) | exact within_c (by assumption) (by assumption) (by assumption) (by assumption)))
  · refine Op.cast (e' := [(0, .string (mkS p)), (1, .string (mkS top)), (8, .bool false)]) (by rw [hb]) ?_
    have c153 : (pErr p) = (0 : Int) := bneF hb
    clear hb
    refine Op.pures 1 [0, 1, 8, 9] (L' := [(5, false), (6, false), (7, false)]) (e' := [(0, .string (mkS p)), (1, .string (mkS top)), (8, .bool false), (9, .string (mkS top))]) (by kernel_rfl) ?_
    refine Op.call0 (dst := some 10) (f := 38) (args := #[.string (mkS top)]) (by kernel_rfl) s149 (checkP _ _ _ s149.sub hG top (by ((try dsimp only) <;> (first | omega | (simp only [List.length_append, List.length_cons, List.length_nil, List.length_take, List.length_drop]; omega)))) ) ?_
    rintro _ g156 _ h154 hle157 s155 ⟨rfl, hgg, rfl⟩; subst g156; clear hle157
    refine Op.pures 2 [0, 1, 12] (L' := []) (e' := [(0, .string (mkS p)), (1, .string (mkS top)), (12, .bool ((pErr top) != (0 : Int)))]) (by kernel_rfl) ?_
    refine Op.goto 2 (by kernel_rfl) ?_
    refine At.cond (b := (pErr top) != (0 : Int)) (c := .tmp 12) (by kernel_rfl) (by kernel_rfl) (by kernel_rfl) 3 5 (by kernel_rfl) (by kernel_rfl) (fun hb => ?_) (fun hb => ?_)
    · have c158 : ¬ ((pErr top) = (0 : Int)) := bneT hb
      clear hb
      refine At.keep [] ?_; show At _ _ _ [] _
      refine At.reg (L := [(0, false)]) (by kernel_rfl) ?_
      refine Op.pures 1 [4] (L' := []) (e' := [(4, .bool false)]) (by kernel_rfl) ?_
      refine Op.goto 4 (by kernel_rfl) ?_
      refine At.ret (f := Tryd.f40) (v := .bool false) (by kernel_rfl) (by kernel_rfl) ?_
      refine hR _ _ _ _ s155 ⟨?_, rfl, rfl⟩
      exact (eqB (by first | exact within_n1 (by assumption) | exact within_n2 (by assumption) | exact within_a (by assumption) (by assumption) (by assumption) | exact within_b (by assumption) (by assumption) (by assumption) | exact within_c (by assumption) (by assumption) (by assumption) (by assumption)))
    · have c159 : (pErr top) = (0 : Int) := bneF hb
      clear hb
      refine At.keep [0, 1] ?_; show At _ _ _ [(0, .string (mkS p)), (1, .string (mkS top))] _
      refine At.reg (L := [(0, false), (1, false), (2, false), (3, false), (4, false), (5, false), (6, false), (7, false), (8, false), (9, false), (10, false), (11, false), (12, false), (13, false)]) (by kernel_rfl) ?_
      refine Op.pures 2 [0, 1, 13, 14] (L' := [(2, false), (3, false), (4, false), (5, false), (6, false), (7, false), (8, false), (9, false), (10, false), (11, false), (12, false), (13, false)]) (e' := [(0, .string (mkS p)), (1, .string (mkS top)), (13, .string (mkS p)), (14, .string (mkS top))]) (by kernel_rfl) ?_
      refine Op.val (dst := some 15) (v := .bool ((mkS p).toList == (mkS top).toList)) (v' := .bool (p == top)) (by kernel_rfl) (by rw [toList_mkS, toList_mkS]) ?_
      refine Op.pures 1 [0, 1, 16] (L' := [(4, false), (5, false), (6, false), (7, false), (8, false), (9, false), (10, false), (11, false), (12, false), (13, false)]) (e' := [(0, .string (mkS p)), (1, .string (mkS top)), (16, .bool (p == top))]) (by kernel_rfl) ?_
      refine Op.ways (b := p == top) ⟨fun hb => ?_, fun hb => ?_⟩
      · refine Op.cast (e' := [(0, .string (mkS p)), (1, .string (mkS top)), (16, .bool true)]) (by rw [hb]) ?_
        have c160 : p = top := eq_of_beq hb
        clear hb
        refine Op.pures 10 [4] (L' := []) (e' := [(4, .bool true)]) (by kernel_rfl) ?_
        refine Op.goto 6 (by kernel_rfl) ?_
        refine At.ret (f := Tryd.f40) (v := .bool true) (by kernel_rfl) (by kernel_rfl) ?_
        refine hR _ _ _ _ s155 ⟨?_, rfl, rfl⟩
        exact (eqB (by first | exact within_n1 (by assumption) | exact within_n2 (by assumption) | exact within_a (by assumption) (by assumption) (by assumption) | exact within_b (by assumption) (by assumption) (by assumption) | exact within_c (by assumption) (by assumption) (by assumption) (by assumption)))
      · refine Op.cast (e' := [(0, .string (mkS p)), (1, .string (mkS top)), (16, .bool false)]) (by rw [hb]) ?_
        have c161 : ¬ (p = top) := neF hb
        clear hb
        refine Op.pures 1 [0, 1, 16, 17] (L' := [(5, false), (6, false), (7, false), (8, false), (9, false), (10, false), (11, false), (12, false), (13, false)]) (e' := [(0, .string (mkS p)), (1, .string (mkS top)), (16, .bool false), (17, .string (mkS top))]) (by kernel_rfl) ?_
        refine Op.val (dst := some 18) (v := .bool ((mkS top).toList == (mkS ([47])).toList)) (v' := .bool (top == ([47]))) (by kernel_rfl) (by rw [toList_mkS, toList_mkS]) ?_
        refine Op.pures 2 [0, 1, 20] (L' := [(8, false), (9, false), (10, false), (11, false), (12, false), (13, false)]) (e' := [(0, .string (mkS p)), (1, .string (mkS top)), (20, .bool (top == ([47])))]) (by kernel_rfl) ?_
        refine Op.ways (b := top == ([47])) ⟨fun hb => ?_, fun hb => ?_⟩
        · refine Op.cast (e' := [(0, .string (mkS p)), (1, .string (mkS top)), (20, .bool true)]) (by rw [hb]) ?_
          have c162 : top = ([47]) := eq_of_beq hb
          clear hb
          refine Op.pures 6 [4] (L' := []) (e' := [(4, .bool true)]) (by kernel_rfl) ?_
          refine Op.goto 6 (by kernel_rfl) ?_
          refine At.ret (f := Tryd.f40) (v := .bool true) (by kernel_rfl) (by kernel_rfl) ?_
          refine hR _ _ _ _ s155 ⟨?_, rfl, rfl⟩
          exact (eqB (by first | exact within_n1 (by assumption) | exact within_n2 (by assumption) | exact within_a (by assumption) (by assumption) (by assumption) | exact within_b (by assumption) (by assumption) (by assumption) | exact within_c (by assumption) (by assumption) (by assumption) (by assumption)))
        · refine Op.cast (e' := [(0, .string (mkS p)), (1, .string (mkS top)), (20, .bool false)]) (by rw [hb]) ?_
          have c163 : ¬ (top = ([47])) := neF hb
          clear hb
          refine Op.pures 2 [20, 21, 22] (L' := [(10, false), (11, false), (12, false), (13, false)]) (e' := [(20, .bool false), (21, .string (mkS p)), (22, .string (mkS top))]) (by kernel_rfl) ?_
          refine Op.strAdd (T := 9) (T' := 9) (x := (.tmp 22)) (y := (.const (.string (mkS ([47]))))) (dst := 23) (l := top) (m := [47]) (by kernel_rfl) (by kernel_rfl) (by kernel_rfl) (by first | omega | (simp only [List.length_append, List.length_cons, List.length_nil, List.length_take, List.length_drop]; omega)) ?_
          refine Op.call0 (dst := some 24) (f := 63) (args := #[.string (mkS p), .string (mkS (top ++ ([47])))]) (by kernel_rfl) s155 (hasPrefix _ _ _ s155.sub hG p (top ++ ([47]))  ) ?_
          rintro _ g166 _ h164 hle167 s165 ⟨rfl, hgg, rfl⟩; subst g166; clear hle167
          refine Op.pures 2 [4] (L' := []) (e' := [(4, .bool ((top ++ ([47])).isPrefixOf p))]) (by kernel_rfl) ?_
          refine Op.goto 6 (by kernel_rfl) ?_
          refine At.ret (f := Tryd.f40) (v := .bool ((top ++ ([47])).isPrefixOf p)) (by kernel_rfl) (by kernel_rfl) ?_
          refine hR _ _ _ _ s165 ⟨?_, rfl, rfl⟩
          exact (eqB (by first | exact within_n1 (by assumption) | exact within_n2 (by assumption) | exact within_a (by assumption) (by assumption) (by assumption) | exact within_b (by assumption) (by assumption) (by assumption) | exact within_c (by assumption) (by assumption) (by assumption) (by assumption)))

/-- stanchion/path.Numbered -/
theorem numberedP (B : World) (h : Heap) (g : GH) (hg : Sub g h) (hG : Glob g) (p : List UInt8) (n : Int) (hP : Pow10 g) (hlen : p.length ≤ 100000000) (hn0 : -9223372036854775808 ≤ n) (hn1 : n ≤ 9223372036854775807) :
    Spec Tryd.prog B 44 #[.string (mkS p), .int .i64 n] h g [] (fun rv g' L' => rv = .tuple #[.string (mkS (numS p n)), .int .i64 (numE p n)] ∧ g' = g ∧ L' = []) := by
  refine Spec.of_at (f := Tryd.f44) (e := [(0, .string (mkS p)), (1, .int .i64 n)]) Tryd.func44 (by kernel_rfl) (Nat.le_of_ble_eq_true (by kernel_rfl)) (by kernel_rfl) (by kernel_rfl) ?_
  intro R hR
  have s0 := St.init hg
  refine At.reg (L := [(0, false), (1, false)]) (by kernel_rfl) ?_
  refine Op.pures 2 [0, 1] (L' := []) (e' := [(0, .string (mkS p)), (1, .int .i64 n)]) (by kernel_rfl) ?_
  refine Op.goto 1 (by kernel_rfl) ?_
  refine At.reg (L := [(0, false), (1, false), (2, false), (3, false), (4, false), (5, false), (6, false), (7, false), (8, false)]) (by kernel_rfl) ?_
  refine Op.pures 1 [0, 1, 11] (L' := [(1, false), (2, false), (3, false), (4, false), (5, false), (6, false), (7, false), (8, false)]) (e' := [(0, .string (mkS p)), (1, .int .i64 n), (11, .string (mkS p))]) (by kernel_rfl) ?_
  refine Op.call0 (dst := some 12) (f := 60) (args := #[.string (mkS p)]) (by kernel_rfl) s0 (cutP _ _ _ s0.sub hG p (by ((try dsimp only) <;> (first | omega | (have hi := itoa_len (n := n) (by omega) (by omega); omega) | (have hi := itoa_len (n := n) (by omega) (by omega); simp only [List.length_append, Lib.repeatL_length, List.length_singleton, Nat.mul_one, Nat.one_mul]; omega)))) ) ?_
  rintro _ g174 _ h168 hle175 s169 ⟨v170, rfl, hr171, rfl⟩
  obtain ⟨a172, n173, rfl⟩ := hr171.form
  replace hG := hG.mono hle175
  replace hP := hP.mono hle175
  refine Op.pures 7 [0, 1, 8] (L' := []) (e' := [(0, .string (mkS p)), (1, .int .i64 n), (8, .int .i64 (cutErr p))]) (by kernel_rfl) ?_
  refine Op.goto 2 (by kernel_rfl) ?_
  refine At.reg (L := [(0, false), (1, false), (2, false), (3, false), (4, false), (5, false), (6, false), (7, false), (8, false), (9, false)]) (by kernel_rfl) ?_
  refine Op.pures 3 [0, 1, 18] (L' := [(3, false), (4, false), (5, false), (6, false), (7, false), (8, false), (9, false)]) (e' := [(0, .string (mkS p)), (1, .int .i64 n), (18, .bool ((cutErr p) != (0 : Int)))]) (by kernel_rfl) ?_
  refine Op.ways (b := (cutErr p) != (0 : Int)) ⟨fun hb => ?_, fun hb => ?_⟩
  · refine Op.cast (e' := [(0, .string (mkS p)), (1, .int .i64 n), (18, .bool true)]) (by rw [hb]) ?_
    have c176 : ¬ ((cutErr p) = (0 : Int)) := bneT hb
    clear hb
    refine Op.pures 7 [0, 1, 25] (L' := []) (e' := [(0, .string (mkS p)), (1, .int .i64 n), (25, .bool true)]) (by kernel_rfl) ?_
    refine Op.goto 3 (by kernel_rfl) ?_
    refine At.condT (c := .tmp 25) (by kernel_rfl) (by kernel_rfl) (by kernel_rfl) 4 (by kernel_rfl) ?_
    refine At.reg (L := [(0, false), (1, false)]) (by kernel_rfl) ?_
    refine Op.pures 2 [4, 5] (L' := []) (e' := [(4, .string (mkS [])), (5, .int .i64 90)]) (by kernel_rfl) ?_
    refine Op.goto 5 (by kernel_rfl) ?_
    refine At.ret (f := Tryd.f44) (v := .tuple #[.string (mkS []), .int .i64 90]) (by kernel_rfl) (by kernel_rfl) ?_
    have s177 : St h g (ids []) g [] h168 := s169.unfrz
    refine hR _ _ _ _ s177 ⟨?_, rfl, rfl⟩
    exact eqT2 (eqS (by first | exact (num_no (numOk_f1 (by assumption))).1 | exact (num_no (numOk_f1 (by assumption))).2 | exact (num_no (numOk_f2 (by assumption))).1 | exact (num_no (numOk_f2 (by assumption))).2 | exact (num_no (numOk_f3 (by assumption))).1 | exact (num_no (numOk_f3 (by assumption))).2| exact (num_yes (numOk_t (by assumption) (by assumption) (by assumption)) (by omega)).1 | exact (num_yes (numOk_t (by assumption) (by assumption) (by assumption)) (by omega)).2)) (eqI (by first | exact (num_no (numOk_f1 (by assumption))).1 | exact (num_no (numOk_f1 (by assumption))).2 | exact (num_no (numOk_f2 (by assumption))).1 | exact (num_no (numOk_f2 (by assumption))).2 | exact (num_no (numOk_f3 (by assumption))).1 | exact (num_no (numOk_f3 (by assumption))).2| exact (num_yes (numOk_t (by assumption) (by assumption) (by assumption)) (by omega)).1 | exact (num_yes (numOk_t (by assumption) (by assumption) (by assumption)) (by omega)).2))
  · refine Op.cast (e' := [(0, .string (mkS p)), (1, .int .i64 n), (18, .bool false)]) (by rw [hb]) ?_
    have c178 : (cutErr p) = (0 : Int) := bneF hb
    clear hb
    refine Op.pures 4 [0, 1, 22] (L' := [(7, false), (8, false), (9, false)]) (e' := [(0, .string (mkS p)), (1, .int .i64 n), (22, .bool (decide (n < (0 : Int))))]) (by kernel_rfl) ?_
    refine Op.ways (b := decide (n < (0 : Int))) ⟨fun hb => ?_, fun hb => ?_⟩
    · refine Op.cast (e' := [(0, .string (mkS p)), (1, .int .i64 n), (22, .bool true)]) (by rw [hb]) ?_
      have c179 : n < (0 : Int) := of_decide_eq_true hb
      clear hb
      refine Op.pures 3 [0, 1, 25] (L' := []) (e' := [(0, .string (mkS p)), (1, .int .i64 n), (25, .bool true)]) (by kernel_rfl) ?_
      refine Op.goto 3 (by kernel_rfl) ?_
      refine At.condT (c := .tmp 25) (by kernel_rfl) (by kernel_rfl) (by kernel_rfl) 4 (by kernel_rfl) ?_
      refine At.reg (L := [(0, false), (1, false)]) (by kernel_rfl) ?_
      refine Op.pures 2 [4, 5] (L' := []) (e' := [(4, .string (mkS [])), (5, .int .i64 90)]) (by kernel_rfl) ?_
      refine Op.goto 5 (by kernel_rfl) ?_
      refine At.ret (f := Tryd.f44) (v := .tuple #[.string (mkS []), .int .i64 90]) (by kernel_rfl) (by kernel_rfl) ?_
      have s180 : St h g (ids []) g [] h168 := s169.unfrz
      refine hR _ _ _ _ s180 ⟨?_, rfl, rfl⟩
      exact eqT2 (eqS (by first | exact (num_no (numOk_f1 (by assumption))).1 | exact (num_no (numOk_f1 (by assumption))).2 | exact (num_no (numOk_f2 (by assumption))).1 | exact (num_no (numOk_f2 (by assumption))).2 | exact (num_no (numOk_f3 (by assumption))).1 | exact (num_no (numOk_f3 (by assumption))).2| exact (num_yes (numOk_t (by assumption) (by assumption) (by assumption)) (by omega)).1 | exact (num_yes (numOk_t (by assumption) (by assumption) (by assumption)) (by omega)).2)) (eqI (by first | exact (num_no (numOk_f1 (by assumption))).1 | exact (num_no (numOk_f1 (by assumption))).2 | exact (num_no (numOk_f2 (by assumption))).1 | exact (num_no (numOk_f2 (by assumption))).2 | exact (num_no (numOk_f3 (by assumption))).1 | exact (num_no (numOk_f3 (by assumption))).2| exact (num_yes (numOk_t (by assumption) (by assumption) (by assumption)) (by omega)).1 | exact (num_yes (numOk_t (by assumption) (by assumption) (by assumption)) (by omega)).2))
    · refine Op.cast (e' := [(0, .string (mkS p)), (1, .int .i64 n), (22, .bool false)]) (by rw [hb]) ?_
      have c181 : ¬ (n < (0 : Int)) := of_decide_eq_false hb
      clear hb
      refine Op.pures 3 [0, 1, 25] (L' := []) (e' := [(0, .string (mkS p)), (1, .int .i64 n), (25, .bool (decide (n > (99999 : Int))))]) (by kernel_rfl) ?_
      refine Op.goto 3 (by kernel_rfl) ?_
      refine At.cond (b := decide (n > (99999 : Int))) (c := .tmp 25) (by kernel_rfl) (by kernel_rfl) (by kernel_rfl) 4 6 (by kernel_rfl) (by kernel_rfl) (fun hb => ?_) (fun hb => ?_)
      · have c182 : n > (99999 : Int) := of_decide_eq_true hb
        clear hb
        refine At.keep [] ?_; show At _ _ _ [] _
        refine At.reg (L := [(0, false), (1, false)]) (by kernel_rfl) ?_
        refine Op.pures 2 [4, 5] (L' := []) (e' := [(4, .string (mkS [])), (5, .int .i64 90)]) (by kernel_rfl) ?_
        refine Op.goto 5 (by kernel_rfl) ?_
        refine At.ret (f := Tryd.f44) (v := .tuple #[.string (mkS []), .int .i64 90]) (by kernel_rfl) (by kernel_rfl) ?_
        have s183 : St h g (ids []) g [] h168 := s169.unfrz
        refine hR _ _ _ _ s183 ⟨?_, rfl, rfl⟩
        exact eqT2 (eqS (by first | exact (num_no (numOk_f1 (by assumption))).1 | exact (num_no (numOk_f1 (by assumption))).2 | exact (num_no (numOk_f2 (by assumption))).1 | exact (num_no (numOk_f2 (by assumption))).2 | exact (num_no (numOk_f3 (by assumption))).1 | exact (num_no (numOk_f3 (by assumption))).2| exact (num_yes (numOk_t (by assumption) (by assumption) (by assumption)) (by omega)).1 | exact (num_yes (numOk_t (by assumption) (by assumption) (by assumption)) (by omega)).2)) (eqI (by first | exact (num_no (numOk_f1 (by assumption))).1 | exact (num_no (numOk_f1 (by assumption))).2 | exact (num_no (numOk_f2 (by assumption))).1 | exact (num_no (numOk_f2 (by assumption))).2 | exact (num_no (numOk_f3 (by assumption))).1 | exact (num_no (numOk_f3 (by assumption))).2| exact (num_yes (numOk_t (by assumption) (by assumption) (by assumption)) (by omega)).1 | exact (num_yes (numOk_t (by assumption) (by assumption) (by assumption)) (by omega)).2))
      · have c184 : ¬ (n > (99999 : Int)) := of_decide_eq_false hb
        clear hb
        refine At.keep [0, 1] ?_; show At _ _ _ [(0, .string (mkS p)), (1, .int .i64 n)] _
        refine At.reg (L := [(0, false), (1, false), (2, false)]) (by kernel_rfl) ?_
        refine Op.pures 1 [0, 26] (L' := [(1, false), (2, false)]) (e' := [(0, .string (mkS p)), (26, .int .i64 n)]) (by kernel_rfl) ?_
        refine Op.call0 (dst := some 27) (f := 70) (args := #[.int .i64 n]) (by kernel_rfl) s169 (itoa_spec _ _ _ s169.sub hG n hP (by ((try dsimp only) <;> (first | omega | (have hi := itoa_len (n := n) (by omega) (by omega); omega) | (have hi := itoa_len (n := n) (by omega) (by omega); simp only [List.length_append, Lib.repeatL_length, List.length_singleton, Nat.mul_one, Nat.one_mul]; omega)))) (by ((try dsimp only) <;> (first | omega | (have hi := itoa_len (n := n) (by omega) (by omega); omega) | (have hi := itoa_len (n := n) (by omega) (by omega); simp only [List.length_append, Lib.repeatL_length, List.length_singleton, Nat.mul_one, Nat.one_mul]; omega)))) ) ?_
        rintro _ g187 _ h185 hle188 s186 ⟨rfl, hgg, rfl⟩; subst g187; clear hle188
        refine Op.pures 1 [0, 9] (L' := []) (e' := [(0, .string (mkS p)), (9, .string (mkS (Lib.itoa n)))]) (by kernel_rfl) ?_
        refine Op.goto 7 (by kernel_rfl) ?_
        refine At.reg (L := [(0, false), (1, false), (2, false), (3, false), (4, false), (5, false), (6, false), (7, false), (8, false), (9, false), (10, false), (11, false), (12, false)]) (by kernel_rfl) ?_
        refine Op.pures 3 [9, 28, 30] (L' := [(3, false), (4, false), (5, false), (6, false), (7, false), (8, false), (9, false), (10, false), (11, false), (12, false)]) (e' := [(9, .string (mkS (Lib.itoa n))), (28, .string (mkS p)), (30, .int .i64 ((Lib.itoa n).length : Int))]) (by kernel_rfl) ?_
        refine Op.val (dst := some 31) (v := .int .i64 (IntKind.wrap .i64 ((5 : Int) - ((Lib.itoa n).length : Int)))) (v' := .int .i64 ((5 : Int) - ((Lib.itoa n).length : Int))) (by kernel_rfl) (wrapEq_i64 (by first | omega | (have hi := itoa_len (n := n) (by omega) (by omega); omega) | (have hi := itoa_len (n := n) (by omega) (by omega); simp only [List.length_append, Lib.repeatL_length, List.length_singleton, Nat.mul_one, Nat.one_mul]; omega)) (by first | omega | (have hi := itoa_len (n := n) (by omega) (by omega); omega) | (have hi := itoa_len (n := n) (by omega) (by omega); simp only [List.length_append, Lib.repeatL_length, List.length_singleton, Nat.mul_one, Nat.one_mul]; omega))) ?_
        refine Op.call0 (dst := some 32) (f := 72) (args := #[.string (mkS ([48])), .int .i64 ((5 : Int) - ((Lib.itoa n).length : Int))]) (by kernel_rfl) s186 (repeat_spec _ _ _ s186.sub hG ([48]) ((5 : Int) - ((Lib.itoa n).length : Int)) (by ((try dsimp only) <;> (first | omega | (have hi := itoa_len (n := n) (by omega) (by omega); omega) | (have hi := itoa_len (n := n) (by omega) (by omega); simp only [List.length_append, Lib.repeatL_length, List.length_singleton, Nat.mul_one, Nat.one_mul]; omega)))) (by ((try dsimp only) <;> (first | omega | (have hi := itoa_len (n := n) (by omega) (by omega); omega) | (have hi := itoa_len (n := n) (by omega) (by omega); simp only [List.length_append, Lib.repeatL_length, List.length_singleton, Nat.mul_one, Nat.one_mul]; omega)))) (by ((try dsimp only) <;> (first | omega | (have hi := itoa_len (n := n) (by omega) (by omega); omega) | (have hi := itoa_len (n := n) (by omega) (by omega); simp only [List.length_append, Lib.repeatL_length, List.length_singleton, Nat.mul_one, Nat.one_mul]; omega)))) ) ?_
        rintro _ g191 _ h189 hle192 s190 ⟨rfl, hgg, rfl⟩; subst g191; clear hle192
        refine Op.strAdd (T := 9) (T' := 9) (x := (.tmp 28)) (y := (.tmp 32)) (dst := 33) (l := p) (m := Lib.repeatL ([48]) (((5 : Int) - ((Lib.itoa n).length : Int) : Int).toNat)) (by kernel_rfl) (by kernel_rfl) (by kernel_rfl) (by first | omega | (have hi := itoa_len (n := n) (by omega) (by omega); omega) | (have hi := itoa_len (n := n) (by omega) (by omega); simp only [List.length_append, Lib.repeatL_length, List.length_singleton, Nat.mul_one, Nat.one_mul]; omega)) ?_
        refine Op.pures 1 [33, 34] (L' := [(7, false), (8, false), (9, false), (10, false), (11, false), (12, false)]) (e' := [(33, .string (mkS (p ++ (Lib.repeatL ([48]) (((5 : Int) - ((Lib.itoa n).length : Int) : Int).toNat))))), (34, .string (mkS (Lib.itoa n)))]) (by kernel_rfl) ?_
        refine Op.strAdd (T := 9) (T' := 9) (x := (.tmp 33)) (y := (.tmp 34)) (dst := 35) (l := p ++ (Lib.repeatL ([48]) (((5 : Int) - ((Lib.itoa n).length : Int) : Int).toNat))) (m := Lib.itoa n) (by kernel_rfl) (by kernel_rfl) (by kernel_rfl) (by first | omega | (have hi := itoa_len (n := n) (by omega) (by omega); omega) | (have hi := itoa_len (n := n) (by omega) (by omega); simp only [List.length_append, Lib.repeatL_length, List.length_singleton, Nat.mul_one, Nat.one_mul]; omega)) ?_
        refine Op.call0 (dst := some 36) (f := 71) (args := #[.string (mkS ((p ++ (Lib.repeatL ([48]) (((5 : Int) - ((Lib.itoa n).length : Int) : Int).toNat))) ++ (Lib.itoa n)))]) (by kernel_rfl) s190 (checkedP _ _ _ s190.sub hG ((p ++ (Lib.repeatL ([48]) (((5 : Int) - ((Lib.itoa n).length : Int) : Int).toNat))) ++ (Lib.itoa n)) (by ((try dsimp only) <;> (first | omega | (have hi := itoa_len (n := n) (by omega) (by omega); omega) | (have hi := itoa_len (n := n) (by omega) (by omega); simp only [List.length_append, Lib.repeatL_length, List.length_singleton, Nat.mul_one, Nat.one_mul]; omega)))) ) ?_
        rintro _ g195 _ h193 hle196 s194 ⟨rfl, hgg, rfl⟩; subst g195; clear hle196
        refine Op.pures 4 [4, 5] (L' := []) (e' := [(4, .string (mkS (checkedS ((p ++ (Lib.repeatL ([48]) (((5 : Int) - ((Lib.itoa n).length : Int) : Int).toNat))) ++ (Lib.itoa n))))), (5, .int .i64 (pErr ((p ++ (Lib.repeatL ([48]) (((5 : Int) - ((Lib.itoa n).length : Int) : Int).toNat))) ++ (Lib.itoa n))))]) (by kernel_rfl) ?_
        refine Op.goto 8 (by kernel_rfl) ?_
        refine At.ret (f := Tryd.f44) (v := .tuple #[.string (mkS (checkedS ((p ++ (Lib.repeatL ([48]) (((5 : Int) - ((Lib.itoa n).length : Int) : Int).toNat))) ++ (Lib.itoa n)))), .int .i64 (pErr ((p ++ (Lib.repeatL ([48]) (((5 : Int) - ((Lib.itoa n).length : Int) : Int).toNat))) ++ (Lib.itoa n)))]) (by kernel_rfl) (by kernel_rfl) ?_
        have s197 : St h g (ids []) g [] h193 := s194.unfrz
        refine hR _ _ _ _ s197 ⟨?_, rfl, rfl⟩
        exact eqT2 (eqS (by first | exact (num_no (numOk_f1 (by assumption))).1 | exact (num_no (numOk_f1 (by assumption))).2 | exact (num_no (numOk_f2 (by assumption))).1 | exact (num_no (numOk_f2 (by assumption))).2 | exact (num_no (numOk_f3 (by assumption))).1 | exact (num_no (numOk_f3 (by assumption))).2| exact (num_yes (numOk_t (by assumption) (by assumption) (by assumption)) (by omega)).1 | exact (num_yes (numOk_t (by assumption) (by assumption) (by assumption)) (by omega)).2)) (eqI (by first | exact (num_no (numOk_f1 (by assumption))).1 | exact (num_no (numOk_f1 (by assumption))).2 | exact (num_no (numOk_f2 (by assumption))).1 | exact (num_no (numOk_f2 (by assumption))).2 | exact (num_no (numOk_f3 (by assumption))).1 | exact (num_no (numOk_f3 (by assumption))).2| exact (num_yes (numOk_t (by assumption) (by assumption) (by assumption)) (by omega)).1 | exact (num_yes (numOk_t (by assumption) (by assumption) (by assumption)) (by omega)).2))

end Go.Proofs.YtphonojjgnbpfaaDoor.Sw
