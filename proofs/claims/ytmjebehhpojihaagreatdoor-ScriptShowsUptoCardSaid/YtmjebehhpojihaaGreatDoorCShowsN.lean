/- Lemmas for a law of this seat: what the functions compute, and plain facts of it. Own text. -/
import Derived.Test.YtmjebehhpojihaaGreatDoorCShowsM
namespace Go.Proofs.YtmjebehhpojihaaGreatDoor.Sw
open Go
set_option maxRecDepth 100000
set_option linter.unusedVariables false
set_option linter.unusedSimpArgs false
set_option linter.deprecated false
theorem copyBytesU (B : World) (h : Heap) (g : GH) (hg : Sub g h) (hG : Glob g) (v_s : Value) (s : List UInt8) (h_s : SlR g 5 kU8 v_s s) (h1 : s.length ≤ 1000000000) :
  Spec Tryz.prog B 29 #[v_s] h g [] (fun rv g' L' => ∃ v0 k0, rv = v0 ∧ Row 5 kU8 g' v0 s k0 ∧ g' = g ∧ L' = [k0]) := by
 obtain ⟨a_s, n_s, rfl⟩ := h_s.form
 refine Spec.at' Tryz.func29 ?_
 intro R hR
 have s0 := St.init hg
 refine At.go 1 1 [] ?_
 refine At.rg 2 ?_
 refine Op.lit (T := 29) (len := 0) (parts := #[]) (dst := 4) (E := 5) (ps := []) (cs := #[]) (by kernel_rfl) (by kernel_rfl) (by kernel_rfl) s0 ?_
 intro b20 h21 s22
 refine Op.pg 2 [(3, .slice (some ⟨b20, 0, none⟩) 0 0)] ?_
 refine At.rp 4 2 [(5, .slice (some ⟨b20, 0, none⟩) 0 0), (6, .slice a_s s.length n_s)] ?_
 have R23 : Row 5 kU8 g (.slice (some ⟨b20, 0, none⟩) 0 0) ([] : List UInt8) [(b20, Obj.cells #[] 5 (0, 0))] := Row.lit (by kernel_rfl) (by unfold maxLen; decide) (by kernel_rfl) Reads.nil
 obtain ⟨ns24, hs25, hr26⟩ := Src.slice (P := Tryz.prog) (h_s.toH s22.sub)
 refine Op.append (x := (.tmp 5)) (y := (.tmp 6)) (t := 29) (t' := 29) (dst := 7) (E := 5) (by_ := 1) (d := kU8) (by kernel_rfl) (by kernel_rfl) (by kernel_rfl) (by kernel_rfl) rfl R23 s22 0 rfl hs25 (ys := s) hr26 rfl (by (simp only [List.length_nil]; omega)) (fun _ _ _ => trivial) ?_
 intro v27 ch28 h29 R30 s31 nn32
 obtain ⟨a33, n34, rfl⟩ := R30.form
 refine Op.pg 3 [(3, .slice a33 ((([] : List UInt8) ++ s).length) n34)] ?_
 refine At.go 4 2 [(2, .slice a33 ((([] : List UInt8) ++ s).length) n34)] ?_
 refine At.rt (.slice a33 ((([] : List UInt8) ++ s).length) n34) ?_
 refine hR _ _ _ _ s31 ⟨(.slice a33 ((([] : List UInt8) ++ s).length) n34), ch28, ?_, ?_, rfl, rfl⟩
 ·exact rfl
 ·exact rowEq R30 (by simp)
theorem copyIntsU (B : World) (h : Heap) (g : GH) (hg : Sub g h) (hG : Glob g) (v_s : Value) (s : List Int) (h_s : SlR g 3 (kInt .i64) v_s s) (h1 : s.length ≤ 1000000000) :
  Spec Tryz.prog B 32 #[v_s] h g [] (fun rv g' L' => ∃ v0 k0, rv = v0 ∧ Row 3 (kInt .i64) g' v0 s k0 ∧ g' = g ∧ L' = [k0]) := by
 obtain ⟨a_s, n_s, rfl⟩ := h_s.form
 refine Spec.at' Tryz.func32 ?_
 intro R hR
 have s0 := St.init hg
 refine At.go 1 1 [] ?_
 refine At.rg 2 ?_
 refine Op.lit (T := 44) (len := 0) (parts := #[]) (dst := 4) (E := 3) (ps := []) (cs := #[]) (by kernel_rfl) (by kernel_rfl) (by kernel_rfl) s0 ?_
 intro b20 h21 s22
 refine Op.pg 2 [(3, .slice (some ⟨b20, 0, none⟩) 0 0)] ?_
 refine At.rp 4 2 [(5, .slice (some ⟨b20, 0, none⟩) 0 0), (6, .slice a_s s.length n_s)] ?_
 have R23 : Row 3 (kInt .i64) g (.slice (some ⟨b20, 0, none⟩) 0 0) ([] : List Int) [(b20, Obj.cells #[] 3 (0, 0))] := Row.lit (by kernel_rfl) (by unfold maxLen; decide) (by kernel_rfl) Reads.nil
 obtain ⟨ns24, hs25, hr26⟩ := Src.slice (P := Tryz.prog) (h_s.toH s22.sub)
 refine Op.append (x := (.tmp 5)) (y := (.tmp 6)) (t := 44) (t' := 44) (dst := 7) (E := 3) (by_ := 8) (d := (kInt .i64)) (by kernel_rfl) (by kernel_rfl) (by kernel_rfl) (by kernel_rfl) rfl R23 s22 0 rfl hs25 (ys := s) hr26 rfl (by (simp only [List.length_nil]; omega)) (fun _ _ _ => trivial) ?_
 intro v27 ch28 h29 R30 s31 nn32
 obtain ⟨a33, n34, rfl⟩ := R30.form
 refine Op.pg 3 [(3, .slice a33 ((([] : List Int) ++ s).length) n34)] ?_
 refine At.go 4 2 [(2, .slice a33 ((([] : List Int) ++ s).length) n34)] ?_
 refine At.rt (.slice a33 ((([] : List Int) ++ s).length) n34) ?_
 refine hR _ _ _ _ s31 ⟨(.slice a33 ((([] : List Int) ++ s).length) n34), ch28, ?_, ?_, rfl, rfl⟩
 ·exact rfl
 ·exact rowEq R30 (by simp)
theorem sameBytesU (B : World) (h : Heap) (g : GH) (hg : Sub g h) (hG : Glob g) (v_a : Value) (a : List UInt8) (h_a : SlR g 5 kU8 v_a a) (v_b : Value) (b : List UInt8) (h_b : SlR g 5 kU8 v_b b) (h1 : a.length ≤ 1000000000) :
  Spec Tryz.prog B 40 #[v_a, v_b] h g [] (fun rv g' L' => rv = .bool (decide (a = b)) ∧ g' = g ∧ L' = []) := by
 obtain ⟨a_a, n_a, rfl⟩ := h_a.form
 obtain ⟨a_b, n_b, rfl⟩ := h_b.form
 refine Spec.at' Tryz.func40 ?_
 intro R hR
 have s0 := St.init hg
 refine At.go 1 1 [] ?_
 refine At.go 2 5 [(10, .bool ((a.length : Int) != (b.length : Int)))] ?_
 refine At.if' ((a.length : Int) != (b.length : Int)) 10 3 5 (fun c20 => ?_) (fun c21 => ?_)
 ·replace c20 := bneT c20
  refine At.go 4 1 [(4, .bool false)] ?_
  refine At.rt (.bool false) ?_
  refine hR _ _ _ _ s0 ⟨?_, rfl, rfl⟩
  exact (eqB (by exact sameE_len (by assumption)))
 ·replace c21 := bneF c21
  refine At.go 6 1 [(5, .int .i64 0)] ?_
  have loop6 : ∀ (m : Nat) (i : Int) (h23 : Heap) (hm : a.length - i.toNat < m) (h0 : 0 ≤ i) (h2 : i ≤ a.length) (ht : a.take i.toNat = b.take i.toNat)     (s22 : St h g (ids []) g [] h23), At (fctx Tryz.prog B 40 Tryz.f40 R) [] 6 [(0, .slice a_a a.length n_a), (1, .slice a_b b.length n_b), (5, .int .i64 i)] h23 := by
   intro m; induction m with
   | zero => intros; omega
   | succ m ih6 =>
    intro i h23 hm h0 h2 ht s22
    refine At.go 7 4 [(14, .bool (decide (i < (a.length : Int))))] ?_
    refine At.if' (decide (i < (a.length : Int))) 14 8 13 (fun c24 => ?_) (fun c25 => ?_)
    ·replace c24 := of_decide_eq_true c24
     refine At.draw (by kernel_rfl) (fun _ => False) [(0, true), (1, true), (2, true), (4, true), (5, true), (6, true), (3, true), (7, false), (8, true)] (by kernel_rfl) ?_
     refine Op.px 2 [(17, .slice a_a a.length n_a), (18, .int .i64 i)] ?_
     obtain ⟨x26, hx27⟩ := getAt (l := a) (i := i) (by omega)
     obtain ⟨b28, o29, cu30, fz31, ha32, hb33, hk34⟩ := SlR.at_ h_a _ hx27
     cases ha32
     refine Op.ix 29 5 1 1 a.length n_a (.tmp 17) (.tmp 18) 19 b28 o29 i (by omega) (by omega) ?_
     replace hk34 : cut _ _ _ = [.int .u8 (x26.toNat : Int)] := hk34
     refine Op.px 2 [(21, .slice a_b b.length n_b), (22, .int .i64 i)] ?_
     obtain ⟨x35, hx36⟩ := getAt (l := b) (i := i) (by omega)
     obtain ⟨b37, o38, cu39, fz40, ha41, hb42, hk43⟩ := SlR.at_ h_b _ hx36
     cases ha41
     refine Op.ix 29 5 1 1 b.length n_b (.tmp 21) (.tmp 22) 23 b37 o38 i (by omega) (by omega) ?_
     replace hk43 : cut _ _ _ = [.int .u8 (x35.toNat : Int)] := hk43
     refine Op.loadF (T := 5) (x := (.tmp 19)) (o := o29 + (i : Int).toNat * 1) (d := 20) (n := 1) (v := .int .u8 (x26.toNat : Int)) (by kernel_rfl) (by kernel_rfl) (by kernel_rfl) (fun h => h) (s22.sub _ _ hb33) (cut_get hk34 0 rfl) ?_
     refine Op.ld (n := 1) 5 (.tmp 23) 24 (o38 + (i : Int).toNat * 1) (.int .u8 (x35.toNat : Int)) (s22.sub _ _ hb42) ?_ (hv := (cut_get hk43 0 rfl))
     refine Op.pg 9 [(25, .bool ((x26.toNat : Int) != (x35.toNat : Int)))] ?_
     refine At.if' ((x26.toNat : Int) != (x35.toNat : Int)) 25 10 12 (fun c44 => ?_) (fun c45 => ?_)
     ·replace c44 := bneT c44
      refine At.go 11 1 [(4, .bool false)] ?_
      refine At.rt (.bool false) ?_
      refine hR _ _ _ _ s22 ⟨?_, rfl, rfl⟩
      exact (eqB (by exact sameE_ne hx27 hx36 (u8_ne c44)))
     ·replace c45 := bneF c45
      refine At.rp 3 1 [(15, .int .i64 i)] ?_
      refine Op.v64 16 (i + 1) (by omega) (by omega) ?_
      refine Op.pg 6 [(5, .int .i64 (i + 1))] ?_
      refine At.kp [(0, .slice (some ⟨b28, o29, none⟩) a.length n_a), (1, .slice (some ⟨b37, o38, none⟩) b.length n_b), (5, .int .i64 (i + 1))] ?_
      exact ih6  (i + 1) _ (by omega) (by omega) (by omega) (by exact take_step ht h0 hx27 hx36 (u8_eq c45))  s22
    ·replace c25 := of_decide_eq_false c25
     refine At.go 14 1 [(4, .bool true)] ?_
     refine At.rt (.bool true) ?_
     refine hR _ _ _ _ s22 ⟨?_, rfl, rfl⟩
     exact (eqB (by exact sameE_end (by assumption) c25 ht))
  refine At.kp [(0, .slice a_a a.length n_a), (1, .slice a_b b.length n_b), (5, .int .i64 0)] ?_
  exact loop6 _  0 _ (Nat.lt_succ_self _) (by omega) (by omega) (by rfl)  s0
theorem sameIntsU (B : World) (h : Heap) (g : GH) (hg : Sub g h) (hG : Glob g) (v_a : Value) (a : List Int) (h_a : SlR g 3 (kInt .i64) v_a a) (v_b : Value) (b : List Int) (h_b : SlR g 3 (kInt .i64) v_b b) (h1 : a.length ≤ 1000000000) :
  Spec Tryz.prog B 60 #[v_a, v_b] h g [] (fun rv g' L' => rv = .bool (decide (a = b)) ∧ g' = g ∧ L' = []) := by
 obtain ⟨a_a, n_a, rfl⟩ := h_a.form
 obtain ⟨a_b, n_b, rfl⟩ := h_b.form
 refine Spec.at' Tryz.func60 ?_
 intro R hR
 have s0 := St.init hg
 refine At.go 1 1 [] ?_
 refine At.go 2 5 [(10, .bool ((a.length : Int) != (b.length : Int)))] ?_
 refine At.if' ((a.length : Int) != (b.length : Int)) 10 3 5 (fun c20 => ?_) (fun c21 => ?_)
 ·replace c20 := bneT c20
  refine At.go 4 1 [(4, .bool false)] ?_
  refine At.rt (.bool false) ?_
  refine hR _ _ _ _ s0 ⟨?_, rfl, rfl⟩
  exact (eqB (by exact sameE_len (by assumption)))
 ·replace c21 := bneF c21
  refine At.go 6 1 [(5, .int .i64 0)] ?_
  have loop6 : ∀ (m : Nat) (i : Int) (h23 : Heap) (hm : a.length - i.toNat < m) (h0 : 0 ≤ i) (h2 : i ≤ a.length) (ht : a.take i.toNat = b.take i.toNat)     (s22 : St h g (ids []) g [] h23), At (fctx Tryz.prog B 60 Tryz.f60 R) [] 6 [(0, .slice a_a a.length n_a), (1, .slice a_b b.length n_b), (5, .int .i64 i)] h23 := by
   intro m; induction m with
   | zero => intros; omega
   | succ m ih6 =>
    intro i h23 hm h0 h2 ht s22
    refine At.go 7 4 [(14, .bool (decide (i < (a.length : Int))))] ?_
    refine At.if' (decide (i < (a.length : Int))) 14 8 13 (fun c24 => ?_) (fun c25 => ?_)
    ·replace c24 := of_decide_eq_true c24
     refine At.draw (by kernel_rfl) (fun _ => False) [(0, true), (1, true), (2, true), (4, true), (5, true), (6, true), (3, true), (7, false), (8, true)] (by kernel_rfl) ?_
     refine Op.px 2 [(17, .slice a_a a.length n_a), (18, .int .i64 i)] ?_
     obtain ⟨x26, hx27⟩ := getAt (l := a) (i := i) (by omega)
     obtain ⟨b28, o29, cu30, fz31, ha32, hb33, hk34⟩ := SlR.at_ h_a _ hx27
     cases ha32
     refine Op.ix 44 3 1 8 a.length n_a (.tmp 17) (.tmp 18) 19 b28 o29 i (by omega) (by omega) ?_
     replace hk34 : cut _ _ _ = [.int .i64 x26] := hk34
     refine Op.px 2 [(21, .slice a_b b.length n_b), (22, .int .i64 i)] ?_
     obtain ⟨x35, hx36⟩ := getAt (l := b) (i := i) (by omega)
     obtain ⟨b37, o38, cu39, fz40, ha41, hb42, hk43⟩ := SlR.at_ h_b _ hx36
     cases ha41
     refine Op.ix 44 3 1 8 b.length n_b (.tmp 21) (.tmp 22) 23 b37 o38 i (by omega) (by omega) ?_
     replace hk43 : cut _ _ _ = [.int .i64 x35] := hk43
     refine Op.loadF (T := 3) (x := (.tmp 19)) (o := o29 + (i : Int).toNat * 1) (d := 20) (n := 1) (v := .int .i64 x26) (by kernel_rfl) (by kernel_rfl) (by kernel_rfl) (fun h => h) (s22.sub _ _ hb33) (cut_get hk34 0 rfl) ?_
     refine Op.ld (n := 1) 3 (.tmp 23) 24 (o38 + (i : Int).toNat * 1) (.int .i64 x35) (s22.sub _ _ hb42) ?_ (hv := (cut_get hk43 0 rfl))
     refine Op.pg 9 [(25, .bool (x26 != x35))] ?_
     refine At.if' (x26 != x35) 25 10 12 (fun c44 => ?_) (fun c45 => ?_)
     ·replace c44 := bneT c44
      refine At.go 11 1 [(4, .bool false)] ?_
      refine At.rt (.bool false) ?_
      refine hR _ _ _ _ s22 ⟨?_, rfl, rfl⟩
      exact (eqB (by exact sameE_ne hx27 hx36 (c44)))
     ·replace c45 := bneF c45
      refine At.rp 3 1 [(15, .int .i64 i)] ?_
      refine Op.v64 16 (i + 1) (by omega) (by omega) ?_
      refine Op.pg 6 [(5, .int .i64 (i + 1))] ?_
      refine At.kp [(0, .slice (some ⟨b28, o29, none⟩) a.length n_a), (1, .slice (some ⟨b37, o38, none⟩) b.length n_b), (5, .int .i64 (i + 1))] ?_
      exact ih6  (i + 1) _ (by omega) (by omega) (by omega) (by exact take_step ht h0 hx27 hx36 (c45))  s22
    ·replace c25 := of_decide_eq_false c25
     refine At.go 14 1 [(4, .bool true)] ?_
     refine At.rt (.bool true) ?_
     refine hR _ _ _ _ s22 ⟨?_, rfl, rfl⟩
     exact (eqB (by exact sameE_end (by assumption) c25 ht))
  refine At.kp [(0, .slice a_a a.length n_a), (1, .slice a_b b.length n_b), (5, .int .i64 0)] ?_
  exact loop6 _  0 _ (Nat.lt_succ_self _) (by omega) (by omega) (by rfl)  s0
theorem copyStep (B : World) (h : Heap) (g : GH) (hg : Sub g h) (hG : Glob g) (s : Step) (v_s_6 : Value) (h_s_6 : SlR g 5 kU8 v_s_6 s.Data) (v_s_7 : Value) (h_s_7 : SlR g 3 (kInt .i64) v_s_7 s.Keeps) (h1 : s.Data.length ≤ 1000000000) (h2 : s.Keeps.length ≤ 1000000000) :
  Spec Tryz.prog B 61 #[.agg #[.int .i64 s.Kind, .int .i64 s.Role, .int .i64 s.K, .int .i64 s.Power, .int .i64 s.Node.Role, .int .i64 s.Node.N, v_s_6, v_s_7]] h g [] (fun rv g' L' => ∃ v0 k0_0 v1 k0_1, rv = .agg #[.int .i64 s.Kind, .int .i64 s.Role, .int .i64 s.K, .int .i64 s.Power, .int .i64 s.Node.Role, .int .i64 s.Node.N, v0, v1] ∧ Row 5 kU8 g' v0 s.Data k0_0 ∧ Row 3 (kInt .i64) g' v1 s.Keeps k0_1 ∧ g' = g ∧ L' = [k0_0, k0_1]) := by
 obtain ⟨a_s_6, n_s_6, rfl⟩ := h_s_6.form
 obtain ⟨a_s_7, n_s_7, rfl⟩ := h_s_7.form
 refine Spec.at' Tryz.func61 ?_
 intro R hR
 have s0 := St.init hg
 refine At.rg 2 ?_
 refine Op.box (T := 94) (x := (.tmp 0)) (d := 1) (cs := #[.int .i64 s.Kind, .int .i64 s.Role, .int .i64 s.K, .int .i64 s.Power, .int .i64 s.Node.Role, .int .i64 s.Node.N, .slice a_s_6 s.Data.length n_s_6, .slice a_s_7 s.Keeps.length n_s_7]) (by kernel_rfl) (by kernel_rfl) s0 ?_
 intro b20 h21 s22
 refine Op.al 2 94 #[.int .i64 0, .int .i64 0, .int .i64 0, .int .i64 0, .int .i64 0, .int .i64 0, .slice none 0 0, .slice none 0 0] s22 ?_
 intro b23 h24 s25
 refine Op.gt 1 ?_
 refine At.rp 5 1 [(3, .pointer (some ⟨b20, 6, none⟩))] ?_
 refine Op.ld (n := 1) 29 (.tmp 3) 4 6 (.slice a_s_6 s.Data.length n_s_6) (s25.chunk 1 rfl) ?_
 refine Op.c0 (some 5) (copyBytesU _ _ _ s25.sub hG _ _ h_s_6 (by ((try dsimp only) <;> (omega))) ) s25 ?_
 rintro _ g33 _ h26 hle34 s27 ⟨v28, ch29, rfl, R30, hgg, rfl⟩; subst g33; clear hle34
 obtain ⟨a31, n32, rfl⟩ := R30.form
 refine Op.px 1 [(6, .pointer (some ⟨b20, 6, none⟩))] ?_
 refine Op.s1 29 (.tmp 6) (.tmp 5) 6 (.slice a31 ((s.Data).length) n32) 2 #[.int .i64 s.Kind, .int .i64 s.Role, .int .i64 s.K, .int .i64 s.Power, .int .i64 s.Node.Role, .int .i64 s.Node.N, .slice a31 ((s.Data).length) n32, .slice a_s_7 s.Keeps.length n_s_7] s27 (fun _ => trivial) ?_
 intro h35 s36
 refine Op.gt 2 ?_
 refine At.rp 5 1 [(7, .pointer (some ⟨b20, 7, none⟩))] ?_
 refine Op.ld (n := 1) 44 (.tmp 7) 8 7 (.slice a_s_7 s.Keeps.length n_s_7) (s36.chunk 2 rfl) ?_
 refine Op.c0 (some 9) (copyIntsU _ _ _ s36.sub hG _ _ h_s_7 (by ((try dsimp only) <;> (omega))) ) s36 ?_
 rintro _ g44 _ h37 hle45 s38 ⟨v39, ch40, rfl, R41, hgg, rfl⟩; subst g44; clear hle45
 obtain ⟨a42, n43, rfl⟩ := R41.form
 refine Op.px 1 [(10, .pointer (some ⟨b20, 7, none⟩))] ?_
 refine Op.s1 44 (.tmp 10) (.tmp 9) 7 (.slice a42 ((s.Keeps).length) n43) 3 #[.int .i64 s.Kind, .int .i64 s.Role, .int .i64 s.K, .int .i64 s.Power, .int .i64 s.Node.Role, .int .i64 s.Node.N, .slice a31 ((s.Data).length) n32, .slice a42 ((s.Keeps).length) n43] s38 (fun _ => trivial) ?_
 intro h46 s47
 refine Op.gt 3 ?_
 refine At.rg 2 ?_
 refine Op.la 94 (.tmp 1) 11 0 8 [.int .i64 s.Kind, .int .i64 s.Role, .int .i64 s.K, .int .i64 s.Power, .int .i64 s.Node.Role, .int .i64 s.Node.N, .slice a31 ((s.Data).length) n32, .slice a42 ((s.Keeps).length) n43] (s47.chunk 3 rfl) ?_
 refine Op.store (T := 94) (x := (.tmp 2)) (y := (.tmp 11)) (b := b23) (o := 0) (vs := [.int .i64 s.Kind, .int .i64 s.Role, .int .i64 s.K, .int .i64 s.Power, .int .i64 s.Node.Role, .int .i64 s.Node.N, .slice a31 ((s.Data).length) n32, .slice a42 ((s.Keeps).length) n43]) (a? := true) (n := 8) (by kernel_rfl) (by kernel_rfl) (by kernel_rfl) (by kernel_rfl) rfl (by simp [Value.oneCell']) s47 2 rfl (Nat.le_of_ble_eq_true (by kernel_rfl)) (cs := #[.int .i64 0, .int .i64 0, .int .i64 0, .int .i64 0, .int .i64 0, .int .i64 0, .slice none 0 0, .slice none 0 0]) (cs' := #[.int .i64 s.Kind, .int .i64 s.Role, .int .i64 s.K, .int .i64 s.Power, .int .i64 s.Node.Role, .int .i64 s.Node.N, .slice a31 ((s.Data).length) n32, .slice a42 ((s.Keeps).length) n43]) (by kernel_rfl) (fun _ => trivial) ?_
 intro h48 s49
 refine Op.gt 4 ?_
 refine At.retM (f := Tryz.f61) (vs := [.agg #[.int .i64 s.Kind, .int .i64 s.Role, .int .i64 s.K, .int .i64 s.Power, .int .i64 s.Node.Role, .int .i64 s.Node.N, .slice a31 ((s.Data).length) n32, .slice a42 ((s.Keeps).length) n43]]) (rl := [.cell 2 94]) (v := .agg #[.int .i64 s.Kind, .int .i64 s.Role, .int .i64 s.K, .int .i64 s.Power, .int .i64 s.Node.Role, .int .i64 s.Node.N, .slice a31 ((s.Data).length) n32, .slice a42 ((s.Keeps).length) n43]) (by kernel_rfl) (by kernel_rfl) ⟨⟨_, _, rfl, resAgg (n := 8) (by kernel_rfl) (s49.chunk 2 rfl) (by kernel_rfl) rfl⟩, trivial⟩ rfl ?_
 have s50 := (((s49.front 0 rfl).front 1 rfl).front 3 rfl).front 3 rfl
 have s51 := s50.drop.drop
 refine hR _ _ _ _ s51 ⟨(.slice a31 ((s.Data).length) n32), ch29, (.slice a42 ((s.Keeps).length) n43), ch40, ?_, ?_, ?_, rfl, rfl⟩
 ·exact (by rfl)
 ·exact rowEq R30 (by rfl)
 ·exact rowEq R41 (by rfl)
theorem sameSteps (B : World) (h : Heap) (g : GH) (hg : Sub g h) (hG : Glob g) (v_a : Value) (a : List Step) (h_a : SlR g 94 kStep v_a a) (v_b : Value) (b : List Step) (h_b : SlR g 94 kStep v_b b) (h1 : a.length ≤ 1000000000) (hd : ∀ x ∈ a, x.Data.length ≤ 1000000000 ∧ x.Keeps.length ≤ 1000000000) :
  Spec Tryz.prog B 17 #[v_a, v_b] h g [] (fun rv g' L' => rv = .bool (decide (a = b)) ∧ g' = g ∧ L' = []) := by
 obtain ⟨a_a, n_a, rfl⟩ := h_a.form
 obtain ⟨a_b, n_b, rfl⟩ := h_b.form
 refine Spec.at' Tryz.func17 ?_
 intro R hR
 have s0 := St.init hg
 refine At.go 1 1 [] ?_
 refine At.go 2 5 [(12, .bool ((a.length : Int) != (b.length : Int)))] ?_
 refine At.if' ((a.length : Int) != (b.length : Int)) 12 3 5 (fun c20 => ?_) (fun c21 => ?_)
 ·replace c20 := bneT c20
  refine At.go 4 1 [(4, .bool false)] ?_
  refine At.rt (.bool false) ?_
  refine hR _ _ _ _ s0 ⟨?_, rfl, rfl⟩
  exact (eqB (by exact sameE_len (by assumption)))
 ·replace c21 := bneF c21
  refine At.go 6 1 [(5, .int .i64 0)] ?_
  have loop6 : ∀ (m : Nat) (i : Int) (h23 : Heap) (hm : a.length - i.toNat < m) (h0 : 0 ≤ i) (h2 : i ≤ a.length) (ht : a.take i.toNat = b.take i.toNat)     (s22 : St h g (ids []) g [] h23), At (fctx Tryz.prog B 17 Tryz.f17 R) [] 6 [(0, .slice a_a a.length n_a), (1, .slice a_b b.length n_b), (5, .int .i64 i)] h23 := by
   intro m; induction m with
   | zero => intros; omega
   | succ m ih6 =>
    intro i h23 hm h0 h2 ht s22
    refine At.go 7 4 [(16, .bool (decide (i < (a.length : Int))))] ?_
    refine At.if' (decide (i < (a.length : Int))) 16 8 15 (fun c24 => ?_) (fun c25 => ?_)
    ·replace c24 := of_decide_eq_true c24
     refine At.rp 6 2 [(19, .slice a_a a.length n_a), (20, .int .i64 i)] ?_
     obtain ⟨x26, hx27⟩ := getAt (l := a) (i := i) (by omega)
     obtain ⟨b28, o29, cu30, fz31, ha32, hb33, hk34⟩ := SlR.at_ h_a _ hx27
     cases ha32
     refine Op.ix 23 94 8 96 a.length n_a (.tmp 19) (.tmp 20) 21 b28 o29 i (by omega) (by omega) ?_
     obtain ⟨v35, v37, hv36, hv38, hk34⟩ := hk34
     obtain ⟨a39, n40, rfl⟩ := hv36.form
     obtain ⟨a41, n42, rfl⟩ := hv38.form
     refine Op.la 94 (.tmp 21) 22 (o29 + (i : Int).toNat * 8) 8 [.int .i64 x26.Kind, .int .i64 x26.Role, .int .i64 x26.K, .int .i64 x26.Power, .int .i64 x26.Node.Role, .int .i64 x26.Node.N, .slice a39 x26.Data.length n40, .slice a41 x26.Keeps.length n42] (s22.sub _ _ hb33) ?_ (hv := (hk34))
     refine Op.al 6 94 #[.int .i64 0, .int .i64 0, .int .i64 0, .int .i64 0, .int .i64 0, .int .i64 0, .slice none 0 0, .slice none 0 0] s22 ?_
     intro b43 h44 s45
     refine Op.store (T := 94) (x := (.tmp 6)) (y := (.tmp 22)) (b := b43) (o := 0) (vs := [.int .i64 x26.Kind, .int .i64 x26.Role, .int .i64 x26.K, .int .i64 x26.Power, .int .i64 x26.Node.Role, .int .i64 x26.Node.N, .slice a39 x26.Data.length n40, .slice a41 x26.Keeps.length n42]) (a? := true) (n := 8) (by kernel_rfl) (by kernel_rfl) (by kernel_rfl) (by kernel_rfl) rfl (by simp [Value.oneCell']) s45 0 rfl (Nat.le_of_ble_eq_true (by kernel_rfl)) (cs := #[.int .i64 0, .int .i64 0, .int .i64 0, .int .i64 0, .int .i64 0, .int .i64 0, .slice none 0 0, .slice none 0 0]) (cs' := #[.int .i64 x26.Kind, .int .i64 x26.Role, .int .i64 x26.K, .int .i64 x26.Power, .int .i64 x26.Node.Role, .int .i64 x26.Node.N, .slice a39 x26.Data.length n40, .slice a41 x26.Keeps.length n42]) (by kernel_rfl) (fun _ => trivial) ?_
     intro h46 s47
     refine Op.gt 9 ?_
     refine At.rp 6 2 [(23, .slice a_b b.length n_b), (24, .int .i64 i)] ?_
     obtain ⟨x48, hx49⟩ := getAt (l := b) (i := i) (by omega)
     obtain ⟨b50, o51, cu52, fz53, ha54, hb55, hk56⟩ := SlR.at_ h_b _ hx49
     cases ha54
     refine Op.ix 23 94 8 96 b.length n_b (.tmp 23) (.tmp 24) 25 b50 o51 i (by omega) (by omega) ?_
     obtain ⟨v57, v59, hv58, hv60, hk56⟩ := hk56
     obtain ⟨a61, n62, rfl⟩ := hv58.form
     obtain ⟨a63, n64, rfl⟩ := hv60.form
     refine Op.la 94 (.tmp 25) 26 (o51 + (i : Int).toNat * 8) 8 [.int .i64 x48.Kind, .int .i64 x48.Role, .int .i64 x48.K, .int .i64 x48.Power, .int .i64 x48.Node.Role, .int .i64 x48.Node.N, .slice a61 x48.Data.length n62, .slice a63 x48.Keeps.length n64] (s47.sub _ _ hb55) ?_ (hv := (hk56))
     refine Op.al 7 94 #[.int .i64 0, .int .i64 0, .int .i64 0, .int .i64 0, .int .i64 0, .int .i64 0, .slice none 0 0, .slice none 0 0] s47 ?_
     intro b65 h66 s67
     refine Op.store (T := 94) (x := (.tmp 7)) (y := (.tmp 26)) (b := b65) (o := 0) (vs := [.int .i64 x48.Kind, .int .i64 x48.Role, .int .i64 x48.K, .int .i64 x48.Power, .int .i64 x48.Node.Role, .int .i64 x48.Node.N, .slice a61 x48.Data.length n62, .slice a63 x48.Keeps.length n64]) (a? := true) (n := 8) (by kernel_rfl) (by kernel_rfl) (by kernel_rfl) (by kernel_rfl) rfl (by simp [Value.oneCell']) s67 0 rfl (Nat.le_of_ble_eq_true (by kernel_rfl)) (cs := #[.int .i64 0, .int .i64 0, .int .i64 0, .int .i64 0, .int .i64 0, .int .i64 0, .slice none 0 0, .slice none 0 0]) (cs' := #[.int .i64 x48.Kind, .int .i64 x48.Role, .int .i64 x48.K, .int .i64 x48.Power, .int .i64 x48.Node.Role, .int .i64 x48.Node.N, .slice a61 x48.Data.length n62, .slice a63 x48.Keeps.length n64]) (by kernel_rfl) (fun _ => trivial) ?_
     intro h68 s69
     refine Op.gt 10 ?_
     refine At.rp 49 1 [(27, .pointer (some ⟨b43, 0, none⟩))] ?_
     refine Op.ld (n := 1) 3 (.tmp 27) 28 0 (.int .i64 x26.Kind) (s69.chunk 1 rfl) ?_
     refine Op.px 1 [(29, .pointer (some ⟨b65, 0, none⟩))] ?_
     refine Op.ld (n := 1) 3 (.tmp 29) 30 0 (.int .i64 x48.Kind) (s69.chunk 0 rfl) ?_
     refine Op.px 2 [(32, .bool (x26.Kind != x48.Kind))] ?_
     refine Op.wb (x26.Kind != x48.Kind) 32 (fun c70 => ?_) (fun c71 => ?_)
     ·replace c70 := bneT c70
      refine Op.pg 11 [(75, .bool true)] ?_
      refine At.ifT 75 12 ?_
      refine At.go 13 1 [(4, .bool false)] ?_
      refine At.rt (.bool false) ?_
      have s72 := s69.drop.drop
      refine hR _ _ _ _ s72 ⟨?_, rfl, rfl⟩
      exact (eqB (by exact sameE_ne hx27 hx49 (stN ((.inl (by first | assumption | exact of_decide_eq_false (by assumption)))))))
     ·replace c71 := bneF c71
      refine Op.px 1 [(33, .pointer (some ⟨b43, 1, none⟩))] ?_
      refine Op.ld (n := 1) 3 (.tmp 33) 34 1 (.int .i64 x26.Role) (s69.chunk 1 rfl) ?_
      refine Op.px 1 [(35, .pointer (some ⟨b65, 1, none⟩))] ?_
      refine Op.ld (n := 1) 3 (.tmp 35) 36 1 (.int .i64 x48.Role) (s69.chunk 0 rfl) ?_
      refine Op.px 3 [(39, .bool (x26.Role != x48.Role))] ?_
      refine Op.wb (x26.Role != x48.Role) 39 (fun c73 => ?_) (fun c74 => ?_)
      ·replace c73 := bneT c73
       refine Op.pg 11 [(75, .bool true)] ?_
       refine At.ifT 75 12 ?_
       refine At.go 13 1 [(4, .bool false)] ?_
       refine At.rt (.bool false) ?_
       have s75 := s69.drop.drop
       refine hR _ _ _ _ s75 ⟨?_, rfl, rfl⟩
       exact (eqB (by exact sameE_ne hx27 hx49 (stN (.inr ((.inl (by first | assumption | exact of_decide_eq_false (by assumption))))))))
      ·replace c74 := bneF c74
       refine Op.px 1 [(40, .pointer (some ⟨b43, 2, none⟩))] ?_
       refine Op.ld (n := 1) 3 (.tmp 40) 41 2 (.int .i64 x26.K) (s69.chunk 1 rfl) ?_
       refine Op.px 1 [(42, .pointer (some ⟨b65, 2, none⟩))] ?_
       refine Op.ld (n := 1) 3 (.tmp 42) 43 2 (.int .i64 x48.K) (s69.chunk 0 rfl) ?_
       refine Op.px 3 [(46, .bool (x26.K != x48.K))] ?_
       refine Op.wb (x26.K != x48.K) 46 (fun c76 => ?_) (fun c77 => ?_)
       ·replace c76 := bneT c76
        refine Op.pg 11 [(75, .bool true)] ?_
        refine At.ifT 75 12 ?_
        refine At.go 13 1 [(4, .bool false)] ?_
        refine At.rt (.bool false) ?_
        have s78 := s69.drop.drop
        refine hR _ _ _ _ s78 ⟨?_, rfl, rfl⟩
        exact (eqB (by exact sameE_ne hx27 hx49 (stN (.inr (.inr ((.inl (by first | assumption | exact of_decide_eq_false (by assumption)))))))))
       ·replace c77 := bneF c77
        refine Op.px 1 [(47, .pointer (some ⟨b43, 3, none⟩))] ?_
        refine Op.ld (n := 1) 3 (.tmp 47) 48 3 (.int .i64 x26.Power) (s69.chunk 1 rfl) ?_
        refine Op.px 1 [(49, .pointer (some ⟨b65, 3, none⟩))] ?_
        refine Op.ld (n := 1) 3 (.tmp 49) 50 3 (.int .i64 x48.Power) (s69.chunk 0 rfl) ?_
        refine Op.px 3 [(53, .bool (x26.Power != x48.Power))] ?_
        refine Op.wb (x26.Power != x48.Power) 53 (fun c79 => ?_) (fun c80 => ?_)
        ·replace c79 := bneT c79
         refine Op.pg 11 [(75, .bool true)] ?_
         refine At.ifT 75 12 ?_
         refine At.go 13 1 [(4, .bool false)] ?_
         refine At.rt (.bool false) ?_
         have s81 := s69.drop.drop
         refine hR _ _ _ _ s81 ⟨?_, rfl, rfl⟩
         exact (eqB (by exact sameE_ne hx27 hx49 (stN (.inr (.inr (.inr ((.inl (by first | assumption | exact of_decide_eq_false (by assumption))))))))))
        ·replace c80 := bneF c80
         refine Op.px 1 [(54, .pointer (some ⟨b43, 4, none⟩))] ?_
         refine Op.la 92 (.tmp 54) 55 4 2 [.int .i64 x26.Node.Role, .int .i64 x26.Node.N] (s69.chunk 1 rfl) ?_
         refine Op.px 1 [(56, .pointer (some ⟨b65, 4, none⟩))] ?_
         refine Op.la 92 (.tmp 56) 57 4 2 [.int .i64 x48.Node.Role, .int .i64 x48.Node.N] (s69.chunk 0 rfl) ?_
         refine Op.eqAgg (T := 92) (T' := 92) (x := (.tmp 55)) (y := (.tmp 57)) (neq := true) (dst := 58) (xs := #[.int .i64 x26.Node.Role, .int .i64 x26.Node.N]) (ys := #[.int .i64 x48.Node.Role, .int .i64 x48.Node.N]) (q := ((x26.Node.Role == x48.Node.Role) && ((x26.Node.N == x48.Node.N) && true))) (q' := !(decide (x26.Node = x48.Node))) (by kernel_rfl) (by kernel_rfl) (by kernel_rfl) (by kernel_rfl) (by kernel_rfl) (congrArg (fun z => !z) (eqT_Id x26.Node x48.Node)) ?_
         refine Op.px 2 [(60, .bool (!(decide (x26.Node = x48.Node))))] ?_
         refine Op.wb (!(decide (x26.Node = x48.Node))) 60 (fun c82 => ?_) (fun c83 => ?_)
         ·replace c82 := of_decide_eq_false (notT c82)
          refine Op.pg 11 [(75, .bool true)] ?_
          refine At.ifT 75 12 ?_
          refine At.go 13 1 [(4, .bool false)] ?_
          refine At.rt (.bool false) ?_
          have s84 := s69.drop.drop
          refine hR _ _ _ _ s84 ⟨?_, rfl, rfl⟩
          exact (eqB (by exact sameE_ne hx27 hx49 (stN (.inr (.inr (.inr (.inr ((.inl (by first | assumption | exact of_decide_eq_false (by assumption)))))))))))
         ·replace c83 := of_decide_eq_true (notF c83)
          refine Op.px 1 [(61, .pointer (some ⟨b43, 6, none⟩))] ?_
          refine Op.ld (n := 1) 29 (.tmp 61) 62 6 (.slice a39 x26.Data.length n40) (s69.chunk 1 rfl) ?_
          refine Op.px 1 [(63, .pointer (some ⟨b65, 6, none⟩))] ?_
          refine Op.ld (n := 1) 29 (.tmp 63) 64 6 (.slice a61 x48.Data.length n62) (s69.chunk 0 rfl) ?_
          refine Op.c1 65 (sameBytesU _ _ _ s69.sub hG _ _ hv36 _ _ hv58 (by ((try dsimp only) <;> (exact (hd _ (List.mem_of_getElem? hx27)).1))) ) s69 ?_
          intro h85 s86
          refine Op.px 3 [(68, .bool (!(decide (x26.Data = x48.Data))))] ?_
          refine Op.wb (!(decide (x26.Data = x48.Data))) 68 (fun c89 => ?_) (fun c90 => ?_)
          ·replace c89 := of_decide_eq_false (notT c89)
           refine Op.pg 11 [(75, .bool true)] ?_
           refine At.ifT 75 12 ?_
           refine At.go 13 1 [(4, .bool false)] ?_
           refine At.rt (.bool false) ?_
           have s91 := s86.drop.drop
           refine hR _ _ _ _ s91 ⟨?_, rfl, rfl⟩
           exact (eqB (by exact sameE_ne hx27 hx49 (stN (.inr (.inr (.inr (.inr (.inr ((.inl (by first | assumption | exact of_decide_eq_false (by assumption))))))))))))
          ·replace c90 := of_decide_eq_true (notF c90)
           refine Op.px 1 [(69, .pointer (some ⟨b43, 7, none⟩))] ?_
           refine Op.ld (n := 1) 44 (.tmp 69) 70 7 (.slice a41 x26.Keeps.length n42) (s86.chunk 1 rfl) ?_
           refine Op.px 1 [(71, .pointer (some ⟨b65, 7, none⟩))] ?_
           refine Op.ld (n := 1) 44 (.tmp 71) 72 7 (.slice a63 x48.Keeps.length n64) (s86.chunk 0 rfl) ?_
           refine Op.c1 73 (sameIntsU _ _ _ s86.sub hG _ _ hv38 _ _ hv60 (by ((try dsimp only) <;> (exact (hd _ (List.mem_of_getElem? hx27)).2))) ) s86 ?_
           intro h92 s93
           refine Op.pg 11 [(75, .bool (!(decide (x26.Keeps = x48.Keeps))))] ?_
           refine At.if' (!(decide (x26.Keeps = x48.Keeps))) 75 12 14 (fun c96 => ?_) (fun c97 => ?_)
           ·replace c96 := of_decide_eq_false (notT c96)
            refine At.go 13 1 [(4, .bool false)] ?_
            refine At.rt (.bool false) ?_
            have s98 := s93.drop.drop
            refine hR _ _ _ _ s98 ⟨?_, rfl, rfl⟩
            exact (eqB (by exact sameE_ne hx27 hx49 (stN (.inr (.inr (.inr (.inr (.inr (.inr (((by first | assumption | exact of_decide_eq_false (by assumption)))))))))))))
           ·replace c97 := of_decide_eq_true (notF c97)
            refine At.rp 3 1 [(17, .int .i64 i)] ?_
            refine Op.v64 18 (i + 1) (by omega) (by omega) ?_
            refine Op.pg 6 [(5, .int .i64 (i + 1))] ?_
            refine At.kp [(0, .slice (some ⟨b28, o29, none⟩) a.length n_a), (1, .slice (some ⟨b50, o51, none⟩) b.length n_b), (5, .int .i64 (i + 1))] ?_
            have s99 := s93.drop.drop
            exact ih6  (i + 1) _ (by omega) (by omega) (by omega) (by exact take_step ht h0 hx27 hx49 (stY (by assumption) (by assumption) (by assumption) (by assumption) (by assumption) (by assumption) (by assumption)))  s99
    ·replace c25 := of_decide_eq_false c25
     refine At.go 16 1 [(4, .bool true)] ?_
     refine At.rt (.bool true) ?_
     refine hR _ _ _ _ s22 ⟨?_, rfl, rfl⟩
     exact (eqB (by exact sameE_end (by assumption) c25 ht))
  refine At.kp [(0, .slice a_a a.length n_a), (1, .slice a_b b.length n_b), (5, .int .i64 0)] ?_
  exact loop6 _  0 _ (Nat.lt_succ_self _) (by omega) (by omega) (by rfl)  s0
theorem copyEvents (B : World) (h : Heap) (g : GH) (hg : Sub g h) (hG : Glob g) (v_s : Value) (s : List Event) (h_s : SlR g 31 kEvent v_s s) (h1 : s.length ≤ 1000000) (hd : ∀ n ∈ s, n.Op.length ≤ 1000000000 ∧ n.Answer.length ≤ 1000000000) :
  Spec Tryz.prog B 23 #[v_s] h g [] (fun rv g' L' => ∃ v0 k0, rv = v0 ∧ Row 31 kEvent g' v0 s k0 ∧ L' = [k0]) := by
 obtain ⟨a_s, n_s, rfl⟩ := h_s.form
 refine Spec.at' Tryz.func23 ?_
 intro R hR
 have s0 := St.init hg
 refine At.go 1 1 [] ?_
 refine At.rg 2 ?_
 refine Op.lit (T := 38) (len := 0) (parts := #[]) (dst := 6) (E := 31) (ps := []) (cs := #[]) (by kernel_rfl) (by kernel_rfl) (by kernel_rfl) s0 ?_
 intro b20 h21 s22
 refine Op.pg 2 [(3, .slice (some ⟨b20, 0, none⟩) 0 0)] ?_
 refine At.go 3 1 [(4, .int .i64 0)] ?_
 have loop3 : ∀ (m : Nat) (g29 : GH) (hleg29 : gle g g29) (out : List Event) (i : Int) (a23 : Option Addr) (n24 : Nat) (ch25 : Chunk) (h28 : Heap) (hm : s.length - i.toNat < m) (h0 : 0 ≤ i) (h2 : i ≤ s.length) (ho : out = s.take i.toNat) (R26 : Row 31 kEvent g29 (.slice a23 out.length n24) out ch25)    (s27 : St h g (ids []) g29 [ch25] h28), At (fctx Tryz.prog B 23 Tryz.f23 R) [] 3 [(0, .slice a_s s.length n_s), (3, .slice a23 out.length n24), (4, .int .i64 i)] h28 := by
  intro m; induction m with
  | zero => intros; omega
  | succ m ih3 =>
   intro g29 hleg29 out i a23 n24 ch25 h28 hm h0 h2 ho R26 s27
   replace hG := hG.mono hleg29
   replace h_s := h_s.mono hleg29
   refine At.go 4 4 [(10, .bool (decide (i < (s.length : Int))))] ?_
   refine At.if' (decide (i < (s.length : Int))) 10 5 10 (fun c30 => ?_) (fun c31 => ?_)
   ·replace c30 := of_decide_eq_true c30
    refine At.rp 6 2 [(13, .slice a_s s.length n_s), (14, .int .i64 i)] ?_
    obtain ⟨x32, hx33⟩ := getAt (l := s) (i := i) (by omega)
    obtain ⟨b34, o35, cu36, fz37, ha38, hb39, hk40⟩ := SlR.at_ h_s _ hx33
    cases ha38
    refine Op.ix 38 31 6 80 s.length n_s (.tmp 13) (.tmp 14) 15 b34 o35 i (by omega) (by omega) ?_
    obtain ⟨v41, v43, hv42, hv44, hk40⟩ := hk40
    obtain ⟨a45, n46, rfl⟩ := hv42.form
    obtain ⟨a47, n48, rfl⟩ := hv44.form
    refine Op.la 31 (.tmp 15) 16 (o35 + (i : Int).toNat * 6) 6 [.int .i64 x32.Client, .int .i64 x32.Stamp, .int .i64 x32.Asked, .int .i64 x32.Answered, .slice a45 x32.Op.length n46, .slice a47 x32.Answer.length n48] (s27.sub _ _ hb39) ?_ (hv := (hk40))
    refine Op.al 5 31 #[.int .i64 0, .int .i64 0, .int .i64 0, .int .i64 0, .slice none 0 0, .slice none 0 0] s27 ?_
    intro b49 h50 s51
    refine Op.store (T := 31) (x := (.tmp 5)) (y := (.tmp 16)) (b := b49) (o := 0) (vs := [.int .i64 x32.Client, .int .i64 x32.Stamp, .int .i64 x32.Asked, .int .i64 x32.Answered, .slice a45 x32.Op.length n46, .slice a47 x32.Answer.length n48]) (a? := true) (n := 6) (by kernel_rfl) (by kernel_rfl) (by kernel_rfl) (by kernel_rfl) rfl (by simp [Value.oneCell']) s51 0 rfl (Nat.le_of_ble_eq_true (by kernel_rfl)) (cs := #[.int .i64 0, .int .i64 0, .int .i64 0, .int .i64 0, .slice none 0 0, .slice none 0 0]) (cs' := #[.int .i64 x32.Client, .int .i64 x32.Stamp, .int .i64 x32.Asked, .int .i64 x32.Answered, .slice a45 x32.Op.length n46, .slice a47 x32.Answer.length n48]) (by kernel_rfl) (fun _ => trivial) ?_
    intro h52 s53
    refine Op.gt 6 ?_
    refine At.rp 5 1 [(17, .pointer (some ⟨b49, 4, none⟩))] ?_
    refine Op.ld (n := 1) 29 (.tmp 17) 18 4 (.slice a45 x32.Op.length n46) (s53.chunk 0 rfl) ?_
    refine Op.c0 (some 19) (copyBytesU _ _ _ s53.sub hG _ _ hv42 (by ((try dsimp only) <;> (exact (hd _ (List.mem_of_getElem? hx33)).1))) ) s53 ?_
    rintro _ g61 _ h54 hle62 s55 ⟨v56, ch57, rfl, R58, hgg, rfl⟩; subst g61; clear hle62
    obtain ⟨a59, n60, rfl⟩ := R58.form
    refine Op.px 1 [(20, .pointer (some ⟨b49, 4, none⟩))] ?_
    refine Op.s1 29 (.tmp 20) (.tmp 19) 4 (.slice a59 ((x32.Op).length) n60) 1 #[.int .i64 x32.Client, .int .i64 x32.Stamp, .int .i64 x32.Asked, .int .i64 x32.Answered, .slice a59 ((x32.Op).length) n60, .slice a47 x32.Answer.length n48] s55 (fun _ => trivial) ?_
    intro h63 s64
    refine Op.gt 7 ?_
    refine At.rp 5 1 [(21, .pointer (some ⟨b49, 5, none⟩))] ?_
    refine Op.ld (n := 1) 29 (.tmp 21) 22 5 (.slice a47 x32.Answer.length n48) (s64.chunk 1 rfl) ?_
    refine Op.c0 (some 23) (copyBytesU _ _ _ s64.sub hG _ _ hv44 (by ((try dsimp only) <;> (exact (hd _ (List.mem_of_getElem? hx33)).2))) ) s64 ?_
    rintro _ g72 _ h65 hle73 s66 ⟨v67, ch68, rfl, R69, hgg, rfl⟩; subst g72; clear hle73
    obtain ⟨a70, n71, rfl⟩ := R69.form
    refine Op.px 1 [(24, .pointer (some ⟨b49, 5, none⟩))] ?_
    refine Op.s1 29 (.tmp 24) (.tmp 23) 5 (.slice a70 ((x32.Answer).length) n71) 2 #[.int .i64 x32.Client, .int .i64 x32.Stamp, .int .i64 x32.Asked, .int .i64 x32.Answered, .slice a59 ((x32.Op).length) n60, .slice a70 ((x32.Answer).length) n71] s66 (fun _ => trivial) ?_
    intro h74 s75
    refine Op.gt 8 ?_
    obtain ⟨g76, s77, hle78, hf79⟩ := Row.freeze R58 (s75.front 1 rfl)
    replace R26 := R26.mono hle78
    replace R69 := R69.mono hle78
    replace hG := hG.mono hle78
    replace h_s := h_s.mono hle78
    obtain ⟨g80, s81, hle82, hf83⟩ := Row.freeze R69 (s77.front 0 rfl)
    replace R26 := R26.mono hle82
    replace hG := hG.mono hle82
    replace h_s := h_s.mono hle82
    replace hf79 := hf79.mono hle82
    refine At.rp 5 1 [(25, .slice a23 out.length n24)] ?_
    refine Op.la 31 (.tmp 5) 26 0 6 [.int .i64 x32.Client, .int .i64 x32.Stamp, .int .i64 x32.Asked, .int .i64 x32.Answered, .slice a59 ((x32.Op).length) n60, .slice a70 ((x32.Answer).length) n71] (s81.chunk 0 rfl) ?_
    refine Op.lit (T := 38) (len := 1) (parts := #[(0, (.tmp 26))]) (dst := 27) (E := 31) (ps := [(0, .agg #[.int .i64 x32.Client, .int .i64 x32.Stamp, .int .i64 x32.Asked, .int .i64 x32.Answered, .slice a59 ((x32.Op).length) n60, .slice a70 ((x32.Answer).length) n71])]) (cs := #[.int .i64 x32.Client, .int .i64 x32.Stamp, .int .i64 x32.Asked, .int .i64 x32.Answered, .slice a59 ((x32.Op).length) n60, .slice a70 ((x32.Answer).length) n71]) (by kernel_rfl) (by kernel_rfl) (by kernel_rfl) s81 ?_
    intro b84 h85 s86
    refine Op.append (x := (.tmp 25)) (y := (.tmp 27)) (t := 38) (t' := 38) (dst := 28) (E := 31) (by_ := 80) (d := kEvent) (by kernel_rfl) (by kernel_rfl) (by kernel_rfl) (by kernel_rfl) rfl R26 s86 2 rfl (Src.lit (m := 1) (sz := 6) (s86.chunk 0 rfl) (news := [.int .i64 x32.Client, .int .i64 x32.Stamp, .int .i64 x32.Asked, .int .i64 x32.Answered, .slice a59 ((x32.Op).length) n60, .slice a70 ((x32.Answer).length) n71]) rfl rfl (by simp [Value.oneCell']) _) (ys := [x32]) (⟨_, _, rfl, ⟨_, _, hf79, hf83, rfl⟩, Reads.nil⟩) rfl (by (have hz := congrArg List.length ho; simp only [List.length_take, List.length_cons, List.length_nil] at *; omega)) (fun _ _ _ => trivial) ?_
    intro v87 ch88 h89 R90 s91 nn92
    obtain ⟨a93, n94, rfl⟩ := R90.form
    have s95 := (s91.front 0 rfl).drop
    refine Op.pg 9 [(3, .slice a93 ((out ++ ([x32])).length) n94)] ?_
    refine At.rp 3 1 [(11, .int .i64 i)] ?_
    refine Op.v64 12 (i + 1) (by omega) (by omega) ?_
    refine Op.pg 3 [(4, .int .i64 (i + 1))] ?_
    refine At.kp [(0, .slice (some ⟨b34, o35, none⟩) s.length n_s), (3, .slice a93 ((out ++ ([x32])).length) n94), (4, .int .i64 (i + 1))] ?_
    have s96 := s95.drop
    exact ih3 _ (gle.trans hleg29 (by repeat (first | assumption | apply gle.trans))) (out ++ ([x32])) (i + 1) _ _ _ _ (by omega) (by omega) (by omega) (by rw [toNat_succ h0, take_at hx33, ho]) R90 s96
   ·replace c31 := of_decide_eq_false c31
    refine At.go 11 2 [(2, .slice a23 out.length n24)] ?_
    refine At.rt (.slice a23 out.length n24) ?_
    refine hR _ _ _ _ s27 ⟨(.slice a23 out.length n24), ch25, ?_, ?_, rfl⟩
    ·exact rfl
    ·exact rowEq R26 (by rw [ho, List.take_of_length_le (by omega)])
 refine At.kp [(0, .slice a_s s.length n_s), (3, .slice (some ⟨b20, 0, none⟩) 0 0), (4, .int .i64 0)] ?_
 have R97 : Row 31 kEvent g (.slice (some ⟨b20, 0, none⟩) 0 0) ([] : List Event) [(b20, Obj.cells #[] 31 (0, 0))] := Row.lit (by kernel_rfl) (by unfold maxLen; decide) (by kernel_rfl) Reads.nil
 exact loop3 _ _ (gle.refl _) ([] : List Event) 0 _ _ _ _ (Nat.lt_succ_self _) (by omega) (by omega) (by rfl) R97 s22
theorem parseR (B : World) (h : Heap) (g : GH) (hg : Sub g h) (hG : Glob g) (tx : List UInt8) (hs : tx.length ≤ 100000000) :
  Spec Tryz.prog B 16 #[.string (mkS tx)] h g [] (fun rv g' L' => ∃ v0 k0, rv = .tuple #[v0, .int .i64 ((parseW tx).2.1), .int .i64 ((parseW tx).2.2)] ∧ Row 94 kStep g' v0 ((parseW tx).1) k0 ∧ L' = [k0]) := by
 refine Spec.at' Tryz.func16 ?_
 intro R hR
 have s0 := St.init hg
 refine At.go 1 3 [] ?_
 refine At.rg 2 ?_
 refine Op.lit (T := 23) (len := 0) (parts := #[]) (dst := 11) (E := 94) (ps := []) (cs := #[]) (by kernel_rfl) (by kernel_rfl) (by kernel_rfl) s0 ?_
 intro b20 h21 s22
 refine Op.pg 2 [(5, .slice (some ⟨b20, 0, none⟩) 0 0)] ?_
 refine At.go 3 1 [(6, .int .i64 0)] ?_
 have loop3 : ∀ (m : Nat) (g29 : GH) (hleg29 : gle g g29) (s : List UInt8) (out : List Step) (n : Int) (a23 : Option Addr) (n24 : Nat) (ch25 : Chunk) (h28 : Heap) (hm : s.length < m) (n0 : 0 ≤ n) (hns : n + s.length ≤ tx.length) (hon : out.length ≤ n) (hP : parseW tx = parseG (linesW s) n out) (R26 : Row 94 kStep g29 (.slice a23 out.length n24) out ch25)    (s27 : St h g (ids []) g29 [ch25] h28), At (fctx Tryz.prog B 16 Tryz.f16 R) [] 3 [(0, .string (mkS s)), (5, .slice a23 out.length n24), (6, .int .i64 n)] h28 := by
  intro m; induction m with
  | zero => intros; omega
  | succ m ih3 =>
   intro g29 hleg29 s out n a23 n24 ch25 h28 hm n0 hns hon hP R26 s27
   replace hG := hG.mono hleg29
   refine At.go 4 3 [(14, .bool (decide ((s.length : Int) > (0 : Int))))] ?_
   refine At.if' (decide ((s.length : Int) > (0 : Int))) 14 5 23 (fun c30 => ?_) (fun c31 => ?_)
   ·replace c30 := of_decide_eq_true c30
    have join14 : ∀ (m : Nat) (s2 : List UInt8) (l : List UInt8) (h33 : Heap) (hm : 0 < m) (hl : l.length ≤ 100000000) (hn2 : n + 1 + s2.length ≤ tx.length) (hs2 : s2.length < s.length) (hJ : parseW tx = parseG (l :: linesW s2) n out)     (s32 : St h g (ids []) g29 [ch25] h33), At (fctx Tryz.prog B 16 Tryz.f16 R) [] 14 [(0, .string (mkS s2)), (5, .slice a23 out.length n24), (6, .int .i64 n), (8, .string (mkS l))] h33 := by
     intro m; induction m with
     | zero => intros; omega
     | succ m ih14 =>
      intro s2 l h33 hm hl hn2 hs2 hJ s32
      refine At.rp 3 1 [(38, .int .i64 n)] ?_
      refine Op.v64 39 (n + 1) (by omega) (by omega) ?_
      refine Op.pg 15 [(6, .int .i64 (n + 1))] ?_
      refine At.rp 7 1 [(40, .string (mkS l))] ?_
      refine Op.vl 41 (.bool ((mkS l).toList == (mkS []).toList)) (.bool (l == ([] : List UInt8))) (by rw [toList_mkS, toList_mkS]) ?_
      refine Op.px 1 [(42, .bool (l == ([] : List UInt8)))] ?_
      refine Op.wb (l == ([] : List UInt8)) 42 (fun c34 => ?_) (fun c35 => ?_)
      ·replace c34 := eq_of_beq c34
       refine Op.pg 16 [(46, .bool true)] ?_
       refine At.ifT 46 3 ?_
       refine At.kp [(0, .string (mkS s2)), (5, .slice a23 out.length n24), (6, .int .i64 (n + 1))] ?_
       exact ih3 _ hleg29 s2 out (n + 1) _ _ _ _ (by omega) (by omega) (by omega) (by omega) (by exact parse_skip1 hJ (by assumption)) R26 s32
      ·replace c35 := neF c35
       refine Op.px 1 [(43, .string (mkS l))] ?_
       obtain ⟨x36, hx37⟩ := getAt (l := l) (i := 0) (by (have : 0 < l.length := List.length_pos_iff.2 (by assumption); omega))
       refine Op.si 9 (.tmp 43) (.const (.int .i64 0)) 44 l 0 (by omega) hx37 ?_
       refine Op.pg 16 [(46, .bool ((x36.toNat : Int) == (35 : Int)))] ?_
       refine At.if' ((x36.toNat : Int) == (35 : Int)) 46 3 17 (fun c38 => ?_) (fun c39 => ?_)
       ·replace c38 := eq_of_beq c38
        refine At.kp [(0, .string (mkS s2)), (5, .slice a23 out.length n24), (6, .int .i64 (n + 1))] ?_
        exact ih3 _ hleg29 s2 out (n + 1) _ _ _ _ (by omega) (by omega) (by omega) (by omega) (by exact parse_skip2 hJ (by assumption) hx37 (by assumption)) R26 s32
       ·replace c39 := neF c39
        refine At.rp 8 1 [(48, .string (mkS l))] ?_
        refine Op.c0 (some 49) (lineR_ _ _ _ s32.sub hG l (by ((try dsimp only) <;> (omega))) ) s32 ?_
        rintro _ g52 _ h40 hle53 s41 ⟨v42, ch43, v47, ch48, rfl, R44, R49, hgg, rfl⟩; subst g52; clear hle53
        obtain ⟨a45, n46, rfl⟩ := R44.form
        obtain ⟨a50, n51, rfl⟩ := R49.form
        refine Op.px 3 [(50, .agg #[.int .i64 (((lineR l).1).Kind), .int .i64 (((lineR l).1).Role), .int .i64 (((lineR l).1).K), .int .i64 (((lineR l).1).Power), .int .i64 (((lineR l).1).Node.Role), .int .i64 (((lineR l).1).Node.N), .slice a45 ((((lineR l).1).Data).length) n46, .slice a50 ((((lineR l).1).Keeps).length) n51]), (51, .bool ((lineR l).2))] ?_
        refine Op.al 9 94 #[.int .i64 0, .int .i64 0, .int .i64 0, .int .i64 0, .int .i64 0, .int .i64 0, .slice none 0 0, .slice none 0 0] s41 ?_
        intro b54 h55 s56
        refine Op.store (T := 94) (x := (.tmp 9)) (y := (.tmp 50)) (b := b54) (o := 0) (vs := [.int .i64 (((lineR l).1).Kind), .int .i64 (((lineR l).1).Role), .int .i64 (((lineR l).1).K), .int .i64 (((lineR l).1).Power), .int .i64 (((lineR l).1).Node.Role), .int .i64 (((lineR l).1).Node.N), .slice a45 ((((lineR l).1).Data).length) n46, .slice a50 ((((lineR l).1).Keeps).length) n51]) (a? := true) (n := 8) (by kernel_rfl) (by kernel_rfl) (by kernel_rfl) (by kernel_rfl) rfl (by simp [Value.oneCell']) s56 0 rfl (Nat.le_of_ble_eq_true (by kernel_rfl)) (cs := #[.int .i64 0, .int .i64 0, .int .i64 0, .int .i64 0, .int .i64 0, .int .i64 0, .slice none 0 0, .slice none 0 0]) (cs' := #[.int .i64 (((lineR l).1).Kind), .int .i64 (((lineR l).1).Role), .int .i64 (((lineR l).1).K), .int .i64 (((lineR l).1).Power), .int .i64 (((lineR l).1).Node.Role), .int .i64 (((lineR l).1).Node.N), .slice a45 ((((lineR l).1).Data).length) n46, .slice a50 ((((lineR l).1).Keeps).length) n51]) (by kernel_rfl) (fun _ => trivial) ?_
        intro h57 s58
        refine Op.pg 18 [(10, .bool ((lineR l).2))] ?_
        refine At.go 19 2 [(53, .bool (!((lineR l).2)))] ?_
        refine At.if' (!((lineR l).2)) 53 20 22 (fun c59 => ?_) (fun c60 => ?_)
        ·replace c59 := (notT c59)
         refine At.go 21 4 [(2, .slice none 0 0), (3, .int .i64 (n + 1)), (4, .int .i64 240)] ?_
         have R61 := Row.zero 94 kStep g29 none
         have s62 := s58.nl
         refine At.rt (.tuple #[.slice none 0 0, .int .i64 (n + 1), .int .i64 240]) ?_
         have s63 := ((((s62.front 0 rfl).front 4 rfl).front 4 rfl).front 4 rfl).front 4 rfl
         have s64 := s63.drop.drop.drop.drop
         refine hR _ _ _ _ s64 ⟨(.slice none 0 0), [], ?_, ?_, rfl⟩
         ·exact eqT3 rfl (eqI (by exact (proj3 (parse_bad hJ (skip_no (by assumption) hx37 (by assumption)) (by assumption))).2.1)) (eqI (by exact (proj3 (parse_bad hJ (skip_no (by assumption) hx37 (by assumption)) (by assumption))).2.2))
         ·exact rowEq R61 (by exact (proj3 (parse_bad hJ (skip_no (by assumption) hx37 (by assumption)) (by assumption))).1)
        ·replace c60 := (notF c60)
         obtain ⟨g65, s66, hle67, hf68⟩ := Row.freeze R44 (s58.front 1 rfl)
         replace R26 := R26.mono hle67
         replace R49 := R49.mono hle67
         replace hG := hG.mono hle67
         obtain ⟨g69, s70, hle71, hf72⟩ := Row.freeze R49 (s66.front 1 rfl)
         replace R26 := R26.mono hle71
         replace hG := hG.mono hle71
         replace hf68 := hf68.mono hle71
         refine At.rp 5 1 [(55, .slice a23 out.length n24)] ?_
         refine Op.la 94 (.tmp 9) 56 0 8 [.int .i64 (((lineR l).1).Kind), .int .i64 (((lineR l).1).Role), .int .i64 (((lineR l).1).K), .int .i64 (((lineR l).1).Power), .int .i64 (((lineR l).1).Node.Role), .int .i64 (((lineR l).1).Node.N), .slice a45 ((((lineR l).1).Data).length) n46, .slice a50 ((((lineR l).1).Keeps).length) n51] (s70.chunk 0 rfl) ?_
         refine Op.lit (T := 23) (len := 1) (parts := #[(0, (.tmp 56))]) (dst := 57) (E := 94) (ps := [(0, .agg #[.int .i64 (((lineR l).1).Kind), .int .i64 (((lineR l).1).Role), .int .i64 (((lineR l).1).K), .int .i64 (((lineR l).1).Power), .int .i64 (((lineR l).1).Node.Role), .int .i64 (((lineR l).1).Node.N), .slice a45 ((((lineR l).1).Data).length) n46, .slice a50 ((((lineR l).1).Keeps).length) n51])]) (cs := #[.int .i64 (((lineR l).1).Kind), .int .i64 (((lineR l).1).Role), .int .i64 (((lineR l).1).K), .int .i64 (((lineR l).1).Power), .int .i64 (((lineR l).1).Node.Role), .int .i64 (((lineR l).1).Node.N), .slice a45 ((((lineR l).1).Data).length) n46, .slice a50 ((((lineR l).1).Keeps).length) n51]) (by kernel_rfl) (by kernel_rfl) (by kernel_rfl) s70 ?_
         intro b73 h74 s75
         refine Op.append (x := (.tmp 55)) (y := (.tmp 57)) (t := 23) (t' := 23) (dst := 58) (E := 94) (by_ := 96) (d := kStep) (by kernel_rfl) (by kernel_rfl) (by kernel_rfl) (by kernel_rfl) rfl R26 s75 2 rfl (Src.lit (m := 1) (sz := 8) (s75.chunk 0 rfl) (news := [.int .i64 (((lineR l).1).Kind), .int .i64 (((lineR l).1).Role), .int .i64 (((lineR l).1).K), .int .i64 (((lineR l).1).Power), .int .i64 (((lineR l).1).Node.Role), .int .i64 (((lineR l).1).Node.N), .slice a45 ((((lineR l).1).Data).length) n46, .slice a50 ((((lineR l).1).Keeps).length) n51]) rfl rfl (by simp [Value.oneCell']) _) (ys := [((lineR l).1)]) (⟨_, _, rfl, ⟨_, _, hf68, hf72, rfl⟩, Reads.nil⟩) rfl (by (simp only [List.length_cons, List.length_nil]; omega)) (fun _ _ _ => trivial) ?_
         intro v76 ch77 h78 R79 s80 nn81
         obtain ⟨a82, n83, rfl⟩ := R79.form
         have s84 := (s80.front 0 rfl).drop
         refine Op.pg 3 [(5, .slice a82 ((out ++ ([((lineR l).1)])).length) n83)] ?_
         refine At.kp [(0, .string (mkS s2)), (5, .slice a82 ((out ++ ([((lineR l).1)])).length) n83), (6, .int .i64 (n + 1))] ?_
         have s85 := s84.drop
         exact ih3 _ (gle.trans hleg29 (by repeat (first | assumption | apply gle.trans))) s2 (out ++ ([((lineR l).1)])) (n + 1) _ _ _ _ (by omega) (by omega) (by omega) (by (simp only [List.length_append, List.length_cons, List.length_nil]; omega)) (by exact parse_add hJ (skip_no (by assumption) hx37 (by assumption)) (by assumption)) R79 s85
    refine At.go 6 1 [(7, .int .i64 0)] ?_
    have loop6 : ∀ (m : Nat) (k : Int) (h87 : Heap) (hm : s.length - k.toNat < m) (k0 : 0 ≤ k) (kL : k ≤ s.length) (hk : 10 ∉ s.take k.toNat)     (s86 : St h g (ids []) g29 [ch25] h87), At (fctx Tryz.prog B 16 Tryz.f16 R) [] 6 [(0, .string (mkS s)), (5, .slice a23 out.length n24), (6, .int .i64 n), (7, .int .i64 k)] h87 := by
     intro m; induction m with
     | zero => intros; omega
     | succ m ih6 =>
      intro k h87 hm k0 kL hk s86
      refine At.rp 10 5 [(19, .bool (decide (k < (s.length : Int))))] ?_
      refine Op.wb (decide (k < (s.length : Int))) 19 (fun c88 => ?_) (fun c89 => ?_)
      ·replace c88 := of_decide_eq_true c88
       refine Op.px 2 [(20, .string (mkS s)), (21, .int .i64 k)] ?_
       obtain ⟨x90, hx91⟩ := getAt (l := s) (i := k) (by omega)
       refine Op.si 9 (.tmp 20) (.tmp 21) 22 s k (by omega) hx91 ?_
       refine Op.pg 7 [(24, .bool ((x90.toNat : Int) != (10 : Int)))] ?_
       refine At.if' ((x90.toNat : Int) != (10 : Int)) 24 8 9 (fun c92 => ?_) (fun c93 => ?_)
       ·replace c92 := bneT c92
        refine At.rp 3 1 [(25, .int .i64 k)] ?_
        refine Op.v64 26 (k + 1) (by omega) (by omega) ?_
        refine Op.pg 6 [(7, .int .i64 (k + 1))] ?_
        refine At.kp [(0, .string (mkS s)), (5, .slice a23 out.length n24), (6, .int .i64 n), (7, .int .i64 (k + 1))] ?_
        exact ih6  (k + 1) _ (by omega) (by omega) (by omega) (by exact scan_step hk k0 hx91 (by assumption))  s86
       ·replace c93 := bneF c93
        refine At.rp 4 2 [(27, .string (mkS s)), (28, .int .i64 k)] ?_
        refine Op.strHi (T := 9) (k := .i64) (x := (.tmp 27)) (hi := (.tmp 28)) (dst := 29) (l := s) (n := k) (by kernel_rfl) (by kernel_rfl) (by kernel_rfl) (by kernel_rfl) (by omega) (by omega) ?_
        refine Op.pg 10 [(8, .string (mkS (s.take (k : Int).toNat)))] ?_
        refine At.rp 4 2 [(30, .string (mkS s)), (31, .int .i64 k)] ?_
        refine Op.strLo (T := 9) (k := .i64) (x := (.tmp 30)) (lo := (.tmp 31)) (dst := 32) (l := s) (n := k) (by kernel_rfl) (by kernel_rfl) (by kernel_rfl) (by kernel_rfl) (by omega) (by omega) ?_
        refine Op.pg 11 [(0, .string (mkS (s.drop (k : Int).toNat)))] ?_
        refine At.go 12 3 [(35, .bool (decide (((s.drop (k : Int).toNat).length : Int) > (0 : Int))))] ?_
        refine At.if' (decide (((s.drop (k : Int).toNat).length : Int) > (0 : Int))) 35 13 14 (fun c94 => ?_) (fun c95 => ?_)
        ·replace c94 := of_decide_eq_true c94
         refine At.rp 3 1 [(36, .string (mkS (s.drop (k : Int).toNat)))] ?_
         refine Op.strLo (T := 9) (k := .i64) (x := (.tmp 36)) (lo := (.const (.int .i64 1))) (dst := 37) (l := s.drop (k : Int).toNat) (n := 1) (by kernel_rfl) (by kernel_rfl) (by kernel_rfl) (by kernel_rfl) (by omega) (by omega) ?_
         refine Op.pg 14 [(0, .string (mkS ((s.drop (k : Int).toNat).drop (1 : Int).toNat)))] ?_
         refine At.kp [(0, .string (mkS ((s.drop (k : Int).toNat).drop (1 : Int).toNat))), (5, .slice a23 out.length n24), (6, .int .i64 n), (8, .string (mkS (s.take (k : Int).toNat)))] ?_
         exact join14 _  ((s.drop (k : Int).toNat).drop (1 : Int).toNat) (s.take (k : Int).toNat) _ (Nat.lt_succ_self _) (by (rw [List.length_take]; omega)) (by (simp only [List.length_drop] at *; omega)) (by (simp only [List.length_drop] at *; omega)) (by (rw [← cut_hit hk hx91 (by assumption)]; exact hP))  s86
        ·replace c95 := of_decide_eq_false c95
         refine At.kp [(0, .string (mkS (s.drop (k : Int).toNat))), (5, .slice a23 out.length n24), (6, .int .i64 n), (8, .string (mkS (s.take (k : Int).toNat)))] ?_
         exact join14 _  (s.drop (k : Int).toNat) (s.take (k : Int).toNat) _ (Nat.lt_succ_self _) (by (rw [List.length_take]; omega)) (by (simp only [List.length_drop] at *; omega)) (by (simp only [List.length_drop] at *; omega)) (by (exfalso; simp only [List.length_drop] at *; omega))  s86
      ·replace c89 := of_decide_eq_false c89
       refine Op.pg 7 [(24, .bool false)] ?_
       refine At.ifF 24 9 ?_
       refine At.rp 4 2 [(27, .string (mkS s)), (28, .int .i64 k)] ?_
       refine Op.strHi (T := 9) (k := .i64) (x := (.tmp 27)) (hi := (.tmp 28)) (dst := 29) (l := s) (n := k) (by kernel_rfl) (by kernel_rfl) (by kernel_rfl) (by kernel_rfl) (by omega) (by omega) ?_
       refine Op.pg 10 [(8, .string (mkS (s.take (k : Int).toNat)))] ?_
       refine At.rp 4 2 [(30, .string (mkS s)), (31, .int .i64 k)] ?_
       refine Op.strLo (T := 9) (k := .i64) (x := (.tmp 30)) (lo := (.tmp 31)) (dst := 32) (l := s) (n := k) (by kernel_rfl) (by kernel_rfl) (by kernel_rfl) (by kernel_rfl) (by omega) (by omega) ?_
       refine Op.pg 11 [(0, .string (mkS (s.drop (k : Int).toNat)))] ?_
       refine At.go 12 3 [(35, .bool (decide (((s.drop (k : Int).toNat).length : Int) > (0 : Int))))] ?_
       refine At.if' (decide (((s.drop (k : Int).toNat).length : Int) > (0 : Int))) 35 13 14 (fun c96 => ?_) (fun c97 => ?_)
       ·replace c96 := of_decide_eq_true c96
        refine At.rp 3 1 [(36, .string (mkS (s.drop (k : Int).toNat)))] ?_
        refine Op.strLo (T := 9) (k := .i64) (x := (.tmp 36)) (lo := (.const (.int .i64 1))) (dst := 37) (l := s.drop (k : Int).toNat) (n := 1) (by kernel_rfl) (by kernel_rfl) (by kernel_rfl) (by kernel_rfl) (by omega) (by omega) ?_
        refine Op.pg 14 [(0, .string (mkS ((s.drop (k : Int).toNat).drop (1 : Int).toNat)))] ?_
        refine At.kp [(0, .string (mkS ((s.drop (k : Int).toNat).drop (1 : Int).toNat))), (5, .slice a23 out.length n24), (6, .int .i64 n), (8, .string (mkS (s.take (k : Int).toNat)))] ?_
        exact join14 _  ((s.drop (k : Int).toNat).drop (1 : Int).toNat) (s.take (k : Int).toNat) _ (Nat.lt_succ_self _) (by (rw [List.length_take]; omega)) (by (simp only [List.length_drop] at *; omega)) (by (simp only [List.length_drop] at *; omega)) (by (exfalso; simp only [List.length_drop] at *; omega))  s86
       ·replace c97 := of_decide_eq_false c97
        refine At.kp [(0, .string (mkS (s.drop (k : Int).toNat))), (5, .slice a23 out.length n24), (6, .int .i64 n), (8, .string (mkS (s.take (k : Int).toNat)))] ?_
        exact join14 _  (s.drop (k : Int).toNat) (s.take (k : Int).toNat) _ (Nat.lt_succ_self _) (by (rw [List.length_take]; omega)) (by (simp only [List.length_drop] at *; omega)) (by (simp only [List.length_drop] at *; omega)) (by (rw [← cut_miss hk (by assumption) (by assumption)]; exact hP))  s86
    refine At.kp [(0, .string (mkS s)), (5, .slice a23 out.length n24), (6, .int .i64 n), (7, .int .i64 0)] ?_
    exact loop6 _  0 _ (Nat.lt_succ_self _) (by omega) (by omega) (by exact scan_0 _)  s27
   ·replace c31 := of_decide_eq_false c31
    refine At.go 24 4 [(2, .slice a23 out.length n24), (3, .int .i64 0), (4, .int .i64 0)] ?_
    refine At.rt (.tuple #[.slice a23 out.length n24, .int .i64 0, .int .i64 0]) ?_
    refine hR _ _ _ _ s27 ⟨(.slice a23 out.length n24), ch25, ?_, ?_, rfl⟩
    ·exact eqT3 rfl (eqI (by exact (proj3 (parse_end hP (by assumption))).2.1)) (eqI (by exact (proj3 (parse_end hP (by assumption))).2.2))
    ·exact rowEq R26 (by exact (proj3 (parse_end hP (by assumption))).1)
 refine At.kp [(0, .string (mkS tx)), (5, .slice (some ⟨b20, 0, none⟩) 0 0), (6, .int .i64 0)] ?_
 have R98 : Row 94 kStep g (.slice (some ⟨b20, 0, none⟩) 0 0) ([] : List Step) [(b20, Obj.cells #[] 94 (0, 0))] := Row.lit (by kernel_rfl) (by unfold maxLen; decide) (by kernel_rfl) Reads.nil
 exact loop3 _ _ (gle.refl _) tx ([] : List Step) 0 _ _ _ _ (Nat.lt_succ_self _) (by omega) (by omega) (by (simp only [List.length_nil]; omega)) (by rfl) R98 s22
end Go.Proofs.YtmjebehhpojihaaGreatDoor.Sw
namespace Go.Proofs.YtmjebehhpojihaaGreatDoor.Sw
set_option linter.unusedVariables false
set_option linter.unusedSimpArgs false
set_option linter.deprecated false
open Go
def numB (v : Int) : Prop := -999999999 ≤ v ∧ v ≤ 999999999
def stB (D K : Nat) (st : Step) : Prop := (0 ≤ st.Kind ∧ st.Kind ≤ 9) ∧ (0 ≤ st.Role ∧ st.Role ≤ 4) ∧ numB st.K ∧ numB st.Power ∧ (0 ≤ st.Node.Role ∧ st.Node.Role ≤ 4) ∧ numB st.Node.N ∧ st.Data.length ≤ D ∧ st.Keeps.length ≤ K ∧ ∀ k ∈ st.Keeps, numB k
theorem numB_0 : numB 0 := ⟨by decide, by decide⟩
theorem numW_b (w : List UInt8) : numB ((numW w).getD 0) := by
  unfold numW
  split
  · exact numB_0
  · split
    · rename_i h
      show numB ((sgnW w).1 * valD 0 (sgnW w).2)
      generalize hd : (sgnW w).2 = d at h
      have ok := h
      unfold okD at ok
      simp only [Bool.and_eq_true, decide_eq_true_eq] at ok
      have hv := valD_le d ok.2
      have hp : 10 ^ d.length ≤ 10 ^ 9 := Nat.pow_le_pow_right (by decide) ok.1.1.2
      have hq : ((10 ^ d.length : Nat) : Int) ≤ 1000000000 := by omega
      have hs : (sgnW w).1 = 1 ∨ (sgnW w).1 = -1 := by unfold sgnW; split; exact .inr rfl; exact .inl rfl
      unfold numB
      rcases hs with e | e <;> rw [e] <;> omega
    · exact numB_0
theorem unhexL_len : ∀ (n : Nat) (w o : List UInt8), w.length ≤ n → unhexL w = some o → 2 * o.length ≤ w.length
  | _, [], o, _, h => by simp [unhexL] at h; subst h; simp
  | _, [_], o, _, h => by cases h
  | 0, _ :: _ :: _, _, hn, _ => by simp at hn
  | n + 1, a :: b :: r, o, hn, h => by
    rw [unhexL] at h
    split at h
    · cases h
    · obtain ⟨x, hx, rfl⟩ := Option.map_eq_some_iff.1 h
      have := unhexL_len n r x (by simp at hn; omega) hx
      simp at this ⊢
      omega
theorem unhexW_len (w : List UInt8) : ((unhexW w).getD []).length ≤ w.length := by
  unfold unhexW
  split
  · simp
  · split
    · simp
    · cases h : unhexL w with
      | none => simp
      | some o => have := unhexL_len _ w o (Nat.le_refl _) h; simp; omega
theorem setW_b {D K : Nat} {st : Step} {w : List UInt8} (c : UInt8) (h : stB D K st) (hw : w.length ≤ D) : stB D K (setW c st w).1 := by
  obtain ⟨h1, h2, h3, h4, h5, h6, h7, h8, h9⟩ := h
  have hr := roleW_b w
  have hn := numW_b w
  have hu := unhexW_len w
  unfold setW
  repeat' split
  · exact ⟨h1, h2, h3, h4, hr, h6, h7, h8, h9⟩
  · exact ⟨h1, h2, h3, h4, h5, hn, h7, h8, h9⟩
  · exact ⟨h1, hr, h3, h4, h5, h6, h7, h8, h9⟩
  · exact ⟨h1, h2, hn, h4, h5, h6, h7, h8, h9⟩
  · exact ⟨h1, h2, h3, hn, h5, h6, h7, h8, h9⟩
  · exact ⟨h1, h2, h3, h4, h5, h6, by show ((unhexW w).getD []).length ≤ D; omega, h8, h9⟩
  · exact ⟨h1, h2, h3, h4, h5, h6, h7, h8, h9⟩
theorem stB.mono {D K D' K' : Nat} {st : Step} (h : stB D K st) (hd : D ≤ D') (hk : K ≤ K') : stB D' K' st := by
  obtain ⟨h1, h2, h3, h4, h5, h6, h7, h8, h9⟩ := h
  exact ⟨h1, h2, h3, h4, h5, h6, by omega, by omega, h9⟩
theorem addK_b {D K : Nat} {st : Step} {v : Int} (h : stB D K st) (hv : numB v) : stB D (K + 1) (addK st v) := by
  obtain ⟨h1, h2, h3, h4, h5, h6, h7, h8, h9⟩ := h
  refine ⟨h1, h2, h3, h4, h5, h6, h7, by show (st.Keeps ++ [v]).length ≤ K + 1; simp; omega, fun k hk => ?_⟩
  rcases List.mem_append.1 (show k ∈ st.Keeps ++ [v] from hk) with hk | hk
  · exact h9 k hk
  · rw [List.mem_singleton.1 hk]; exact hv
theorem keepsR_b {D : Nat} : ∀ (r : List (List UInt8)) (K : Nat) (st : Step), stB D K st → stB D (K + r.length) (keepsR r st).1
  | [], K, st, h => h
  | w :: r, K, st, h => by
    have h2 := addK_b h (numW_b w)
    rw [keepsR]
    split
    · have := keepsR_b r (K + 1) _ h2
      rw [List.length_cons]
      exact this.mono (Nat.le_refl _) (by omega)
    · exact h2.mono (Nat.le_refl _) (by rw [List.length_cons]; omega)
theorem zStep_b {D K : Nat} : stB D K zStep := ⟨by decide, by decide, numB_0, numB_0, by decide, numB_0, Nat.zero_le _, Nat.zero_le _, by intro k hk; cases hk⟩
theorem fillR_b {D : Nat} : ∀ (f : List UInt8) (r : List (List UInt8)) (K : Nat) (st : Step), stB D K st → (∀ w ∈ r, w.length ≤ D) → stB D (K + r.length) (fillR f r st).1
  | [], r, K, st, h, _ => h.mono (Nat.le_refl _) (by omega)
  | c :: f, r, K, st, h, hr => by
    rw [fillR_cons]
    split
    · have h2 := keepsR_b r K st h
      split
      · exact (fillR_b f [] _ _ h2 (by intro w hw; cases hw)).mono (Nat.le_refl _) (by simp)
      · exact h2
    · rcases r with _ | ⟨w, r⟩
      · exact zStep_b
      · have h2 := setW_b c h (hr w (by simp))
        show stB D (K + (r.length + 1)) (if (setW c st w).2 then fillR f r (setW c st w).1 else setW c st w).1
        split
        · exact (fillR_b f r K _ h2 (fun w hw => hr w (by simp [hw]))).mono (Nat.le_refl _) (by omega)
        · exact h2.mono (Nat.le_refl _) (by omega)
theorem initS_B {k : Nat} (h : k < 9) : stB 0 0 (initS k) := by
  refine ⟨⟨?_, ?_⟩, ⟨by show (0 : Int) ≤ 0; decide, by show (0 : Int) ≤ 4; decide⟩, numB_0, numB_0, ?_, numB_0, Nat.le_refl _, Nat.le_refl _, fun k hk => by cases hk⟩
  · show (0 : Int) ≤ k + 1; omega
  · show (k : Int) + 1 ≤ 9; omega
  · show (0 : Int) ≤ (if k = 0 then 4 else if k = 7 then 2 else 0) ∧ (if k = 0 then (4 : Int) else if k = 7 then 2 else 0) ≤ 4
    repeat' split
    all_goals decide
theorem cmdI_lt {w : List UInt8} {k : Nat} (h : cmdI w = some k) : k < 9 := by
  unfold cmdI at h
  exact List.mem_range.1 (List.mem_of_find?_eq_some h)
theorem lineR_b (l : List UInt8) : stB l.length (l.length + 1) (lineR l).1 := by
  unfold lineR
  split
  · exact zStep_b
  · rename_i k hk
    have := fillR_b (D := l.length) (cmdF k) (splitOn 32 l).tail 0 _ ((initS_B (cmdI_lt hk)).mono (Nat.zero_le _) (Nat.le_refl _)) (fun w hw => by
      obtain ⟨i, hi⟩ := List.getElem?_of_mem (List.mem_of_mem_tail hw)
      exact split_el hi)
    refine this.mono (Nat.le_refl _) ?_
    have h2 := split_len l
    rw [List.length_tail]
    omega
theorem split10_el {s w : List UInt8} (hm : w ∈ splitOn 10 s) : w.length ≤ s.length := by
  revert w
  induction s with
  | nil => intro w hw; simp [splitOn] at hw; subst hw; simp
  | cons a s ih =>
    intro w hw
    unfold splitOn at hw
    split at hw
    · rcases List.mem_cons.1 hw with rfl | hw
      · simp
      · have := ih hw; simp; omega
    · split at hw
      · rename_i x y hxy
        rcases List.mem_cons.1 hw with rfl | hw
        · have := ih (w := x) (by rw [hxy]; simp); simp; omega
        · have := ih (w := w) (by rw [hxy]; simp [hw]); simp; omega
      · rename_i hx; exact absurd hx (splitOn_ne _ _)
theorem lines_el {s w : List UInt8} (hm : w ∈ linesW s) : w.length ≤ s.length := by
  unfold linesW at hm
  split at hm
  · exact split10_el (List.dropLast_subset _ hm)
  · exact split10_el hm
theorem lines_len (s : List UInt8) : (linesW s).length ≤ s.length + 1 := by
  have h : (splitOn 10 s).length ≤ s.length + 1 := by rw [splitOn_length]; have := List.count_le_length (a := 10) (l := s); omega
  unfold linesW
  split
  · rw [List.length_dropLast]; omega
  · exact h
theorem parseG_b {D : Nat} : ∀ (L : List (List UInt8)) (n : Int) (out : List Step), (∀ l ∈ L, l.length ≤ D) → (∀ x ∈ out, stB D (D + 1) x) → (∀ x ∈ (parseG L n out).1, stB D (D + 1) x) ∧ (parseG L n out).1.length ≤ out.length + L.length
  | [], n, out, _, ho => ⟨ho, by simp [parseG]⟩
  | l :: L, n, out, hl, ho => by
    rw [parseG]
    have hl2 : ∀ l ∈ L, l.length ≤ D := fun x hx => hl x (by simp [hx])
    split
    · have := parseG_b L (n + 1) out hl2 ho
      exact ⟨this.1, by rw [List.length_cons]; omega⟩
    · split
      · have := parseG_b L (n + 1) (out ++ [(lineR l).1]) hl2 (fun x hx => by
          rcases List.mem_append.1 hx with hx | hx
          · exact ho x hx
          · rw [List.mem_singleton.1 hx]
            have h3 := hl l (by simp)
            exact (lineR_b l).mono h3 (by omega))
        rw [List.length_append] at this
        exact ⟨this.1, by rw [List.length_cons]; have := this.2; simp at this; omega⟩
      · exact ⟨fun x hx => (by cases hx), by simp⟩
theorem parse_b (s : List UInt8) : (∀ x ∈ (parseW s).1, stB s.length (s.length + 1) x) ∧ (parseW s).1.length ≤ s.length + 1 := by
  have := parseG_b (D := s.length) (linesW s) 0 [] (fun l hl => lines_el hl) (fun x hx => by cases hx)
  have h2 := lines_len s
  exact ⟨this.1, by have h3 := this.2; simp at h3; unfold parseW; omega⟩
theorem stB.ok {D K : Nat} {st : Step} (h : stB D K st) (hd : D ≤ 100000) (hk : K ≤ 100000) : stOk st := by
  obtain ⟨h1, h2, h3, h4, h5, h6, h7, h8, h9⟩ := h
  unfold numB at *
  refine ⟨by omega, by omega, by omega, by omega, by omega, by omega, by omega, by omega, fun k hk => ?_⟩
  have := h9 k hk
  omega
theorem keeps_flat {ks : List Int} (h : ∀ k ∈ ks, -9223372036854775808 ≤ k ∧ k ≤ 9223372036854775807) : (ks.flatMap fun k => 32 :: Lib.itoa k).length ≤ 21 * ks.length := by
  induction ks with
  | nil => simp
  | cons k ks ih =>
    have h1 := itoa_len20 (h k (by simp)).1 (h k (by simp)).2
    have h2 := ih (fun k hk => h k (by simp [hk]))
    rw [List.flatMap_cons, List.length_append, List.length_cons, List.length_cons]
    omega
theorem bitW_len {st : Step} (ho : stOk st) (c : UInt8) : (bitW st c).length ≤ 2200000 := by
  have hq := ho
  obtain ⟨h1, h2, h3, h4, h5, h6, h7, h8, h9⟩ := ho
  unfold bitW
  split
  · rw [List.length_cons]
    unfold wordW
    have a1 := roleS_len st.Node.Role
    have a2 := itoa_len20 h6.1 h6.2
    have a3 := roleS_len st.Role
    have a4 := itoa_len20 h3.1 h3.2
    have a5 := itoa_len20 h4.1 h4.2
    have a6 := hexW_len st.Data
    repeat' split
    all_goals omega
  · have := keeps_flat h9
    omega
theorem flat_len {st : Step} (ho : stOk st) : ∀ f : List UInt8, (f.flatMap (bitW st)).length ≤ 2200000 * f.length
  | [] => by simp
  | c :: f => by
    have h1 := bitW_len ho c
    have h2 := flat_len ho f
    rw [List.flatMap_cons, List.length_append, List.length_cons]
    omega
theorem textW_len {st : Step} (ho : stOk st) : (textW st).length ≤ 13300000 := by
  unfold textW
  split
  · simp
  · rename_i h
    have h1 := cmdF_len (k := st.Kind - 1) ⟨by omega, by omega⟩
    have h2 := cmdK_len (k := st.Kind - 1) ⟨by omega, by omega⟩
    rw [cmdF_eq] at h1
    rw [cmdK_eq] at h2
    have h3 := flat_len ho (cmdF (st.Kind - 1).toNat)
    rw [List.length_append]
    omega
end Go.Proofs.YtmjebehhpojihaaGreatDoor.Sw
namespace Go.Proofs.YtmjebehhpojihaaGreatDoor.Sw
open Go
set_option maxRecDepth 100000
set_option linter.unusedVariables false
set_option linter.unusedSimpArgs false
set_option linter.deprecated false
theorem showR24 (B : World) (h : Heap) (g : GH) (hg : Sub g h) (hG : Glob g) (v_list : Value) (list : List Step) (h_list : SlR g 94 kStep v_list list) (hl : list.length ≤ 100000) (hst : ∀ st ∈ list, stOk st) :
  Spec Tryz.prog B 21 #[v_list] h g [] (fun rv g' L' => rv = .tuple #[.string (mkS ((showW list).1)), .int .i64 ((showW list).2)] ∧ g' = g ∧ L' = []) := by
 obtain ⟨a_list, n_list, rfl⟩ := h_list.form
 refine Spec.at' Tryz.func21 ?_
 intro R hR
 have s0 := St.init hg
 refine At.go 1 2 [] ?_
 refine At.rg 2 ?_
 refine Op.lit (T := 29) (len := 0) (parts := #[]) (dst := 10) (E := 5) (ps := []) (cs := #[]) (by kernel_rfl) (by kernel_rfl) (by kernel_rfl) s0 ?_
 intro b20 h21 s22
 refine Op.pg 2 [(4, .slice (some ⟨b20, 0, none⟩) 0 0)] ?_
 refine At.go 3 1 [(5, .int .i64 0)] ?_
 have loop3 : ∀ (m : Nat) (g29 : GH) (hleg29 : gle g g29) (out : List UInt8) (i : Int) (a23 : Option Addr) (n24 : Nat) (ch25 : Chunk) (h28 : Heap) (hm : list.length - i.toNat < m) (h0 : 0 ≤ i) (hi : i ≤ list.length) (hol : out.length ≤ i * 13300001) (hS : shI list out i) (R26 : Row 5 kU8 g29 (.slice a23 out.length n24) out ch25)    (s27 : St h g (ids []) g29 [ch25] h28), At (fctx Tryz.prog B 21 Tryz.f21 R) [] 3 [(0, .slice a_list list.length n_list), (4, .slice a23 out.length n24), (5, .int .i64 i)] h28 := by
  intro m; induction m with
  | zero => intros; omega
  | succ m ih3 =>
   intro g29 hleg29 out i a23 n24 ch25 h28 hm h0 hi hol hS R26 s27
   replace hG := hG.mono hleg29
   replace h_list := h_list.mono hleg29
   refine At.go 4 4 [(14, .bool (decide (i < (list.length : Int))))] ?_
   refine At.if' (decide (i < (list.length : Int))) 14 5 13 (fun c30 => ?_) (fun c31 => ?_)
   ·replace c30 := of_decide_eq_true c30
    refine At.rp 6 2 [(17, .slice a_list list.length n_list), (18, .int .i64 i)] ?_
    obtain ⟨x32, hx33⟩ := getAt (l := list) (i := i) (by omega)
    obtain ⟨b34, o35, cu36, fz37, ha38, hb39, hk40⟩ := SlR.at_ h_list _ hx33
    cases ha38
    refine Op.ix 23 94 8 96 list.length n_list (.tmp 17) (.tmp 18) 19 b34 o35 i (by omega) (by omega) ?_
    obtain ⟨v41, v43, hv42, hv44, hk40⟩ := hk40
    obtain ⟨a45, n46, rfl⟩ := hv42.form
    obtain ⟨a47, n48, rfl⟩ := hv44.form
    refine Op.la 94 (.tmp 19) 20 (o35 + (i : Int).toNat * 8) 8 [.int .i64 x32.Kind, .int .i64 x32.Role, .int .i64 x32.K, .int .i64 x32.Power, .int .i64 x32.Node.Role, .int .i64 x32.Node.N, .slice a45 x32.Data.length n46, .slice a47 x32.Keeps.length n48] (s27.sub _ _ hb39) ?_ (hv := (hk40))
    refine Op.c1 21 (textR _ _ _ s27.sub hG x32 _ hv42 _ hv44 (by ((try dsimp only) <;> (exact hst _ (List.mem_of_getElem? hx33)))) ) s27 ?_
    intro h49 s50
    refine Op.pg 6 [(6, .string (mkS (textW x32)))] ?_
    refine At.rp 9 1 [(23, .string (mkS (textW x32)))] ?_
    refine Op.c0 (some 24) (parseR _ _ _ s50.sub hG (textW x32) (by ((try dsimp only) <;> ((have h7 := textW_len (hst x32 (List.mem_of_getElem? hx33)); omega)))) ) s50 ?_
    rintro _ g60 _ h53 hle61 s54 ⟨v55, ch56, rfl, R57, rfl⟩
    obtain ⟨a58, n59, rfl⟩ := R57.form
    replace R26 := R26.mono hle61
    replace hG := hG.mono hle61
    replace h_list := h_list.mono hle61
    refine Op.pg 7 [(7, .slice a58 (((parseW (textW x32)).1).length) n59), (9, .int .i64 ((parseW (textW x32)).2.2))] ?_
    refine At.rp 17 3 [(30, .bool (((parseW (textW x32)).2.2) != (0 : Int)))] ?_
    refine Op.wb (((parseW (textW x32)).2.2) != (0 : Int)) 30 (fun c62 => ?_) (fun c63 => ?_)
    ·replace c62 := bneT c62
     refine Op.pg 8 [(44, .bool true)] ?_
     refine At.ifT 44 9 ?_
     refine At.go 10 2 [(2, .string (mkS [])), (3, .int .i64 240)] ?_
     refine At.rt (.tuple #[.string (mkS []), .int .i64 240]) ?_
     have s64 := s54.drop.drop
     have s65 : St h g (ids []) g [] h53 := s64.unfrz
     refine hR _ _ _ _ s65 ⟨?_, rfl, rfl⟩
     exact eqT2 (eqS (by exact (show_bad hx33 (by first | exact okS_1 (by assumption) | exact okS_2 (by assumption) | exact okS_3 hx33 h0 (decide_eq_false (by assumption)))).1)) (eqI (by exact (show_bad hx33 (by first | exact okS_1 (by assumption) | exact okS_2 (by assumption) | exact okS_3 hx33 h0 (decide_eq_false (by assumption)))).2))
    ·replace c63 := bneF c63
     refine Op.px 5 [(35, .bool ((((parseW (textW x32)).1).length : Int) != (1 : Int)))] ?_
     refine Op.wb ((((parseW (textW x32)).1).length : Int) != (1 : Int)) 35 (fun c66 => ?_) (fun c67 => ?_)
     ·replace c66 := bneT c66
      refine Op.pg 8 [(44, .bool true)] ?_
      refine At.ifT 44 9 ?_
      refine At.go 10 2 [(2, .string (mkS [])), (3, .int .i64 240)] ?_
      refine At.rt (.tuple #[.string (mkS []), .int .i64 240]) ?_
      have s68 := s54.drop.drop
      have s69 : St h g (ids []) g [] h53 := s68.unfrz
      refine hR _ _ _ _ s69 ⟨?_, rfl, rfl⟩
      exact eqT2 (eqS (by exact (show_bad hx33 (by first | exact okS_1 (by assumption) | exact okS_2 (by assumption) | exact okS_3 hx33 h0 (decide_eq_false (by assumption)))).1)) (eqI (by exact (show_bad hx33 (by first | exact okS_1 (by assumption) | exact okS_2 (by assumption) | exact okS_3 hx33 h0 (decide_eq_false (by assumption)))).2))
     ·replace c67 := bneF c67
      refine Op.px 4 [(36, .slice a58 (((parseW (textW x32)).1).length) n59), (37, .slice (some ⟨b34, o35, none⟩) list.length n_list), (38, .int .i64 i), (39, .int .i64 i)] ?_
      refine Op.v64 40 (i + 1) (by omega) (by omega) ?_
      refine Op.slLoHiD (T := 23) (E := 94) (by_ := 96) (x := (.tmp 37)) (ao := (some ⟨b34, o35, none⟩)) (n := list.length) (c := n_list) (dst := 41) (d := kStep) (lo := (.tmp 38)) (hi := (.tmp 40)) (k := .i64) (k' := .i64) (m := i) (m' := i + 1) (by kernel_rfl) (by kernel_rfl) (by kernel_rfl) (by kernel_rfl) (by kernel_rfl) h_list (by omega) (by omega) (by omega) ?_
      intro v70 hr71
      obtain ⟨a72, n73, rfl⟩ := hr71.form
      have hl74 := s54.frzle
      have hz75 := R57.frz s54
      refine Op.lend (dst := some 42) (f := 17) (args := #[.slice a58 (((parseW (textW x32)).1).length) n59, .slice a72 (((list.take (i + 1 : Int).toNat).drop (i : Int).toNat).length) n73]) (cf := (ch56 : Chunk)) (Lc := []) (L := [ch25]) (by kernel_rfl) s54 (sameSteps _ _ _ s54.frzsub (hG.mono hl74) _ _ hz75 _ _ (hr71.mono hl74) (by ((try dsimp only) <;> (omega))) (by ((try dsimp only) <;> (exact (fun x hx => by have h7 := textW_len (hst x32 (List.mem_of_getElem? hx33)); obtain ⟨_, _, _, _, _, _, h8, h9, _⟩ := (parse_b (textW x32)).1 x hx; constructor <;> omega)))) ) (fun _ _ _ hp => by obtain ⟨_, hgg, _⟩ := hp; exact hgg) (fun _ _ h => absurd h (ids_nil _)) ?_
      rintro _ _ h76 s77 ⟨rfl, hgg, rfl⟩; clear hgg
      refine Op.pg 8 [(44, .bool (!(decide (((parseW (textW x32)).1) = ((list.take (i + 1 : Int).toNat).drop (i : Int).toNat)))))] ?_
      refine At.if' (!(decide (((parseW (textW x32)).1) = ((list.take (i + 1 : Int).toNat).drop (i : Int).toNat)))) 44 9 11 (fun c80 => ?_) (fun c81 => ?_)
      ·replace c80 := of_decide_eq_false (notT c80)
       refine At.go 10 2 [(2, .string (mkS [])), (3, .int .i64 240)] ?_
       refine At.rt (.tuple #[.string (mkS []), .int .i64 240]) ?_
       have s82 := s77.drop.drop
       have s83 : St h g (ids []) g [] h76 := s82.unfrz
       refine hR _ _ _ _ s83 ⟨?_, rfl, rfl⟩
       exact eqT2 (eqS (by exact (show_bad hx33 (by first | exact okS_1 (by assumption) | exact okS_2 (by assumption) | exact okS_3 hx33 h0 (decide_eq_false (by assumption)))).1)) (eqI (by exact (show_bad hx33 (by first | exact okS_1 (by assumption) | exact okS_2 (by assumption) | exact okS_3 hx33 h0 (decide_eq_false (by assumption)))).2))
      ·replace c81 := of_decide_eq_true (notF c81)
       refine At.rp 6 2 [(45, .slice a23 out.length n24), (46, .string (mkS (textW x32)))] ?_
       refine Op.sa 9 9 (.tmp 46) (.const (.string (mkS ([10])))) 47 (textW x32) ([10]) (by (have h7 := textW_len (hst x32 (List.mem_of_getElem? hx33)); (simp only [List.length_append, List.length_cons, List.length_nil]; omega))) ?_
       refine Op.toBytes (S := 9) (T := 29) (E := 5) (x := (.tmp 47)) (dst := 48) (l := (textW x32) ++ ([10])) (by kernel_rfl) (by kernel_rfl) (by kernel_rfl) (by kernel_rfl) (by kernel_rfl) (by (have h7 := textW_len (hst x32 (List.mem_of_getElem? hx33)); (simp only [List.length_append, List.length_cons, List.length_nil]; omega))) s77 ?_
       intro v84 ch85 h86 R87 s88
       obtain ⟨a89, n90, rfl⟩ := R87.form
       obtain ⟨ns91, hs92, hr93⟩ := Src.slice (P := Tryz.prog) (R87.toH s88 0 rfl)
       refine Op.append (x := (.tmp 45)) (y := (.tmp 48)) (t := 29) (t' := 29) (dst := 49) (E := 5) (by_ := 1) (d := kU8) (by kernel_rfl) (by kernel_rfl) (by kernel_rfl) (by kernel_rfl) rfl R26 s88 2 rfl hs92 (ys := (textW x32) ++ ([10])) hr93 rfl (by (have h7 := textW_len (hst x32 (List.mem_of_getElem? hx33)); (simp only [List.length_append, List.length_cons, List.length_nil]; omega))) (fun _ _ _ => trivial) ?_
       intro v94 ch95 h96 R97 s98 nn99
       obtain ⟨a100, n101, rfl⟩ := R97.form
       refine Op.pg 12 [(4, .slice a100 ((out ++ ((textW x32) ++ ([10]))).length) n101)] ?_
       refine At.rp 3 1 [(15, .int .i64 i)] ?_
       refine Op.v64 16 (i + 1) (by omega) (by omega) ?_
       refine Op.pg 3 [(5, .int .i64 (i + 1))] ?_
       refine At.kp [(0, .slice (some ⟨b34, o35, none⟩) list.length n_list), (4, .slice a100 ((out ++ ((textW x32) ++ ([10]))).length) n101), (5, .int .i64 (i + 1))] ?_
       have s102 := s98.drop.drop
       exact ih3 _ (gle.trans hleg29 (by repeat (first | assumption | apply gle.trans))) (out ++ ((textW x32) ++ ([10]))) (i + 1) _ _ _ _ (by omega) (by omega) (by omega) (by (have h7 := textW_len (hst x32 (List.mem_of_getElem? hx33)); (simp only [List.length_append, List.length_cons, List.length_nil]; omega))) (by exact shI_step hS h0 hx33 (okS_y hx33 h0 (by assumption) (decide_eq_true (by assumption)))) R97 s102
   ·replace c31 := of_decide_eq_false c31
    refine At.rp 4 1 [(50, .slice a23 out.length n24)] ?_
    refine Op.ofBytes (T := 29) (S := 9) (E := 5) (x := (.tmp 50)) (dst := 51) (l := out) (by kernel_rfl) (by kernel_rfl) (by kernel_rfl) (by kernel_rfl) (by kernel_rfl) (R26.toH s27 0 rfl) ?_
    refine Op.pg 14 [(2, .string (mkS out)), (3, .int .i64 0)] ?_
    refine At.rt (.tuple #[.string (mkS out), .int .i64 0]) ?_
    have s103 := s27.drop
    have s104 : St h g (ids []) g [] h28 := s103.unfrz
    refine hR _ _ _ _ s104 ⟨?_, rfl, rfl⟩
    exact eqT2 (eqS (by exact (shI_end hS (by assumption)).1)) (eqI (by exact (shI_end hS (by assumption)).2))
 refine At.kp [(0, .slice a_list list.length n_list), (4, .slice (some ⟨b20, 0, none⟩) 0 0), (5, .int .i64 0)] ?_
 have R105 : Row 5 kU8 g (.slice (some ⟨b20, 0, none⟩) 0 0) ([] : List UInt8) [(b20, Obj.cells #[] 5 (0, 0))] := Row.lit (by kernel_rfl) (by unfold maxLen; decide) (by kernel_rfl) Reads.nil
 exact loop3 _ _ (gle.refl _) ([] : List UInt8) 0 _ _ _ _ (Nat.lt_succ_self _) (by omega) (by omega) (by (simp only [List.length_nil]; omega)) (by exact shI_0 _) R105 s22
theorem tellR24 (B : World) (h : Heap) (g : GH) (hg : Sub g h) (hG : Glob g) (e : Event) (v_e_4 : Value) (h_e_4 : SlR g 5 kU8 v_e_4 e.Op) (v_e_5 : Value) (h_e_5 : SlR g 5 kU8 v_e_5 e.Answer) (he : evOk e) :
  Spec Tryz.prog B 24 #[.agg #[.int .i64 e.Client, .int .i64 e.Stamp, .int .i64 e.Asked, .int .i64 e.Answered, v_e_4, v_e_5]] h g [] (fun rv g' L' => rv = .string (mkS (tellW e)) ∧ g' = g ∧ L' = []) := by
 obtain ⟨a_e_4, n_e_4, rfl⟩ := h_e_4.form
 obtain ⟨a_e_5, n_e_5, rfl⟩ := h_e_5.form
 refine Spec.at' Tryz.func24 ?_
 intro R hR
 have s0 := St.init hg
 refine At.rg 2 ?_
 refine Op.box (T := 31) (x := (.tmp 0)) (d := 1) (cs := #[.int .i64 e.Client, .int .i64 e.Stamp, .int .i64 e.Asked, .int .i64 e.Answered, .slice a_e_4 e.Op.length n_e_4, .slice a_e_5 e.Answer.length n_e_5]) (by kernel_rfl) (by kernel_rfl) s0 ?_
 intro b20 h21 s22
 refine Op.pg 1 [] ?_
 refine At.draw (by kernel_rfl) (fun _ => False) [(0, true), (4, true), (9, true), (14, true), (19, true), (24, true), (1, true), (5, true), (10, true), (15, true), (20, true), (25, true), (2, false), (3, true), (6, false), (7, true), (8, true), (11, false), (12, true), (13, true), (16, false), (17, true), (18, true), (21, false), (22, true), (23, true), (26, false), (27, true), (28, true)] (by kernel_rfl) ?_
 refine Op.px 6 [(3, .pointer (some ⟨b20, 0, none⟩)), (7, .pointer (some ⟨b20, 1, none⟩)), (12, .pointer (some ⟨b20, 2, none⟩)), (17, .pointer (some ⟨b20, 3, none⟩)), (22, .pointer (some ⟨b20, 4, none⟩)), (27, .pointer (some ⟨b20, 5, none⟩))] ?_
 refine Op.loadF (T := 3) (x := (.tmp 3)) (o := 0) (d := 4) (n := 1) (v := .int .i64 e.Client) (by kernel_rfl) (by kernel_rfl) (by kernel_rfl) (fun h => h) (s22.chunk 0 rfl) (by kernel_rfl) ?_
 refine Op.loadF (T := 3) (x := (.tmp 7)) (o := 1) (d := 8) (n := 1) (v := .int .i64 e.Stamp) (by kernel_rfl) (by kernel_rfl) (by kernel_rfl) (fun h => h) (s22.chunk 0 rfl) (by kernel_rfl) ?_
 refine Op.loadF (T := 3) (x := (.tmp 12)) (o := 2) (d := 13) (n := 1) (v := .int .i64 e.Asked) (by kernel_rfl) (by kernel_rfl) (by kernel_rfl) (fun h => h) (s22.chunk 0 rfl) (by kernel_rfl) ?_
 refine Op.loadF (T := 3) (x := (.tmp 17)) (o := 3) (d := 18) (n := 1) (v := .int .i64 e.Answered) (by kernel_rfl) (by kernel_rfl) (by kernel_rfl) (fun h => h) (s22.chunk 0 rfl) (by kernel_rfl) ?_
 refine Op.loadF (T := 29) (x := (.tmp 22)) (o := 4) (d := 23) (n := 1) (v := .slice a_e_4 e.Op.length n_e_4) (by kernel_rfl) (by kernel_rfl) (by kernel_rfl) (fun h => h) (s22.chunk 0 rfl) (by kernel_rfl) ?_
 refine Op.loadF (T := 29) (x := (.tmp 27)) (o := 5) (d := 28) (n := 1) (v := .slice a_e_5 e.Answer.length n_e_5) (by kernel_rfl) (by kernel_rfl) (by kernel_rfl) (fun h => h) (s22.chunk 0 rfl) (by kernel_rfl) ?_
 refine Op.c1 5 (showR _ _ _ s22.sub hG e.Client (by ((try dsimp only) <;> ((unfold evOk at he; omega)))) (by ((try dsimp only) <;> ((unfold evOk at he; omega)))) ) s22 ?_
 intro h23 s24
 refine Op.sa 9 9 (.tmp 5) (.const (.string (mkS ([32])))) 6 (Lib.itoa e.Client) ([32]) (by (have a1 := itoa_len20 (v := e.Client) (by unfold evOk at he; omega) (by unfold evOk at he; omega); have a2 := itoa_len20 (v := e.Stamp) (by unfold evOk at he; omega) (by unfold evOk at he; omega); have a3 := itoa_len20 (v := e.Asked) (by unfold evOk at he; omega) (by unfold evOk at he; omega); have a4 := itoa_len20 (v := e.Answered) (by unfold evOk at he; omega) (by unfold evOk at he; omega); have a5 := hexW_len e.Op; have a6 := hexW_len e.Answer; unfold evOk at he; simp only [List.length_append, List.length_cons, List.length_nil]; omega)) ?_
 refine Op.c1 9 (showR _ _ _ s24.sub hG e.Stamp (by ((try dsimp only) <;> ((unfold evOk at he; omega)))) (by ((try dsimp only) <;> ((unfold evOk at he; omega)))) ) s24 ?_
 intro h27 s28
 refine Op.sa 9 9 (.tmp 6) (.tmp 9) 10 ((Lib.itoa e.Client) ++ ([32])) (Lib.itoa e.Stamp) (by (have a1 := itoa_len20 (v := e.Client) (by unfold evOk at he; omega) (by unfold evOk at he; omega); have a2 := itoa_len20 (v := e.Stamp) (by unfold evOk at he; omega) (by unfold evOk at he; omega); have a3 := itoa_len20 (v := e.Asked) (by unfold evOk at he; omega) (by unfold evOk at he; omega); have a4 := itoa_len20 (v := e.Answered) (by unfold evOk at he; omega) (by unfold evOk at he; omega); have a5 := hexW_len e.Op; have a6 := hexW_len e.Answer; unfold evOk at he; simp only [List.length_append, List.length_cons, List.length_nil]; omega)) ?_
 refine Op.sa 9 9 (.tmp 10) (.const (.string (mkS ([32])))) 11 (((Lib.itoa e.Client) ++ ([32])) ++ (Lib.itoa e.Stamp)) ([32]) (by (have a1 := itoa_len20 (v := e.Client) (by unfold evOk at he; omega) (by unfold evOk at he; omega); have a2 := itoa_len20 (v := e.Stamp) (by unfold evOk at he; omega) (by unfold evOk at he; omega); have a3 := itoa_len20 (v := e.Asked) (by unfold evOk at he; omega) (by unfold evOk at he; omega); have a4 := itoa_len20 (v := e.Answered) (by unfold evOk at he; omega) (by unfold evOk at he; omega); have a5 := hexW_len e.Op; have a6 := hexW_len e.Answer; unfold evOk at he; simp only [List.length_append, List.length_cons, List.length_nil]; omega)) ?_
 refine Op.c1 14 (showR _ _ _ s28.sub hG e.Asked (by ((try dsimp only) <;> ((unfold evOk at he; omega)))) (by ((try dsimp only) <;> ((unfold evOk at he; omega)))) ) s28 ?_
 intro h31 s32
 refine Op.sa 9 9 (.tmp 11) (.tmp 14) 15 ((((Lib.itoa e.Client) ++ ([32])) ++ (Lib.itoa e.Stamp)) ++ ([32])) (Lib.itoa e.Asked) (by (have a1 := itoa_len20 (v := e.Client) (by unfold evOk at he; omega) (by unfold evOk at he; omega); have a2 := itoa_len20 (v := e.Stamp) (by unfold evOk at he; omega) (by unfold evOk at he; omega); have a3 := itoa_len20 (v := e.Asked) (by unfold evOk at he; omega) (by unfold evOk at he; omega); have a4 := itoa_len20 (v := e.Answered) (by unfold evOk at he; omega) (by unfold evOk at he; omega); have a5 := hexW_len e.Op; have a6 := hexW_len e.Answer; unfold evOk at he; simp only [List.length_append, List.length_cons, List.length_nil]; omega)) ?_
 refine Op.sa 9 9 (.tmp 15) (.const (.string (mkS ([32])))) 16 (((((Lib.itoa e.Client) ++ ([32])) ++ (Lib.itoa e.Stamp)) ++ ([32])) ++ (Lib.itoa e.Asked)) ([32]) (by (have a1 := itoa_len20 (v := e.Client) (by unfold evOk at he; omega) (by unfold evOk at he; omega); have a2 := itoa_len20 (v := e.Stamp) (by unfold evOk at he; omega) (by unfold evOk at he; omega); have a3 := itoa_len20 (v := e.Asked) (by unfold evOk at he; omega) (by unfold evOk at he; omega); have a4 := itoa_len20 (v := e.Answered) (by unfold evOk at he; omega) (by unfold evOk at he; omega); have a5 := hexW_len e.Op; have a6 := hexW_len e.Answer; unfold evOk at he; simp only [List.length_append, List.length_cons, List.length_nil]; omega)) ?_
 refine Op.c1 19 (showR _ _ _ s32.sub hG e.Answered (by ((try dsimp only) <;> ((unfold evOk at he; omega)))) (by ((try dsimp only) <;> ((unfold evOk at he; omega)))) ) s32 ?_
 intro h35 s36
 refine Op.sa 9 9 (.tmp 16) (.tmp 19) 20 ((((((Lib.itoa e.Client) ++ ([32])) ++ (Lib.itoa e.Stamp)) ++ ([32])) ++ (Lib.itoa e.Asked)) ++ ([32])) (Lib.itoa e.Answered) (by (have a1 := itoa_len20 (v := e.Client) (by unfold evOk at he; omega) (by unfold evOk at he; omega); have a2 := itoa_len20 (v := e.Stamp) (by unfold evOk at he; omega) (by unfold evOk at he; omega); have a3 := itoa_len20 (v := e.Asked) (by unfold evOk at he; omega) (by unfold evOk at he; omega); have a4 := itoa_len20 (v := e.Answered) (by unfold evOk at he; omega) (by unfold evOk at he; omega); have a5 := hexW_len e.Op; have a6 := hexW_len e.Answer; unfold evOk at he; simp only [List.length_append, List.length_cons, List.length_nil]; omega)) ?_
 refine Op.sa 9 9 (.tmp 20) (.const (.string (mkS ([32])))) 21 (((((((Lib.itoa e.Client) ++ ([32])) ++ (Lib.itoa e.Stamp)) ++ ([32])) ++ (Lib.itoa e.Asked)) ++ ([32])) ++ (Lib.itoa e.Answered)) ([32]) (by (have a1 := itoa_len20 (v := e.Client) (by unfold evOk at he; omega) (by unfold evOk at he; omega); have a2 := itoa_len20 (v := e.Stamp) (by unfold evOk at he; omega) (by unfold evOk at he; omega); have a3 := itoa_len20 (v := e.Asked) (by unfold evOk at he; omega) (by unfold evOk at he; omega); have a4 := itoa_len20 (v := e.Answered) (by unfold evOk at he; omega) (by unfold evOk at he; omega); have a5 := hexW_len e.Op; have a6 := hexW_len e.Answer; unfold evOk at he; simp only [List.length_append, List.length_cons, List.length_nil]; omega)) ?_
 refine Op.c1 24 (hexR _ _ _ s36.sub hG _ _ h_e_4 (by ((try dsimp only) <;> ((unfold evOk at he; omega)))) ) s36 ?_
 intro h39 s40
 refine Op.sa 9 9 (.tmp 21) (.tmp 24) 25 ((((((((Lib.itoa e.Client) ++ ([32])) ++ (Lib.itoa e.Stamp)) ++ ([32])) ++ (Lib.itoa e.Asked)) ++ ([32])) ++ (Lib.itoa e.Answered)) ++ ([32])) (hexW e.Op) (by (have a1 := itoa_len20 (v := e.Client) (by unfold evOk at he; omega) (by unfold evOk at he; omega); have a2 := itoa_len20 (v := e.Stamp) (by unfold evOk at he; omega) (by unfold evOk at he; omega); have a3 := itoa_len20 (v := e.Asked) (by unfold evOk at he; omega) (by unfold evOk at he; omega); have a4 := itoa_len20 (v := e.Answered) (by unfold evOk at he; omega) (by unfold evOk at he; omega); have a5 := hexW_len e.Op; have a6 := hexW_len e.Answer; unfold evOk at he; simp only [List.length_append, List.length_cons, List.length_nil]; omega)) ?_
 refine Op.sa 9 9 (.tmp 25) (.const (.string (mkS ([32])))) 26 (((((((((Lib.itoa e.Client) ++ ([32])) ++ (Lib.itoa e.Stamp)) ++ ([32])) ++ (Lib.itoa e.Asked)) ++ ([32])) ++ (Lib.itoa e.Answered)) ++ ([32])) ++ (hexW e.Op)) ([32]) (by (have a1 := itoa_len20 (v := e.Client) (by unfold evOk at he; omega) (by unfold evOk at he; omega); have a2 := itoa_len20 (v := e.Stamp) (by unfold evOk at he; omega) (by unfold evOk at he; omega); have a3 := itoa_len20 (v := e.Asked) (by unfold evOk at he; omega) (by unfold evOk at he; omega); have a4 := itoa_len20 (v := e.Answered) (by unfold evOk at he; omega) (by unfold evOk at he; omega); have a5 := hexW_len e.Op; have a6 := hexW_len e.Answer; unfold evOk at he; simp only [List.length_append, List.length_cons, List.length_nil]; omega)) ?_
 refine Op.c1 29 (hexR _ _ _ s40.sub hG _ _ h_e_5 (by ((try dsimp only) <;> ((unfold evOk at he; omega)))) ) s40 ?_
 intro h43 s44
 refine Op.sa 9 9 (.tmp 26) (.tmp 29) 30 ((((((((((Lib.itoa e.Client) ++ ([32])) ++ (Lib.itoa e.Stamp)) ++ ([32])) ++ (Lib.itoa e.Asked)) ++ ([32])) ++ (Lib.itoa e.Answered)) ++ ([32])) ++ (hexW e.Op)) ++ ([32])) (hexW e.Answer) (by (have a1 := itoa_len20 (v := e.Client) (by unfold evOk at he; omega) (by unfold evOk at he; omega); have a2 := itoa_len20 (v := e.Stamp) (by unfold evOk at he; omega) (by unfold evOk at he; omega); have a3 := itoa_len20 (v := e.Asked) (by unfold evOk at he; omega) (by unfold evOk at he; omega); have a4 := itoa_len20 (v := e.Answered) (by unfold evOk at he; omega) (by unfold evOk at he; omega); have a5 := hexW_len e.Op; have a6 := hexW_len e.Answer; unfold evOk at he; simp only [List.length_append, List.length_cons, List.length_nil]; omega)) ?_
 refine Op.pg 2 [(2, .string (mkS (((((((((((Lib.itoa e.Client) ++ ([32])) ++ (Lib.itoa e.Stamp)) ++ ([32])) ++ (Lib.itoa e.Asked)) ++ ([32])) ++ (Lib.itoa e.Answered)) ++ ([32])) ++ (hexW e.Op)) ++ ([32])) ++ (hexW e.Answer))))] ?_
 refine At.rt (.string (mkS (((((((((((Lib.itoa e.Client) ++ ([32])) ++ (Lib.itoa e.Stamp)) ++ ([32])) ++ (Lib.itoa e.Asked)) ++ ([32])) ++ (Lib.itoa e.Answered)) ++ ([32])) ++ (hexW e.Op)) ++ ([32])) ++ (hexW e.Answer)))) ?_
 have s47 := s44.drop
 refine hR _ _ _ _ s47 ⟨?_, rfl, rfl⟩
 exact (eqS (by rfl))
end Go.Proofs.YtmjebehhpojihaaGreatDoor.Sw
