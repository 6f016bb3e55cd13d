/- Lemmas for a law of this seat: what the functions compute, and plain facts of it. Own text. -/
import Derived.Test.YtmjebehhpojihaaGreatDoorTStepsK
namespace Go.Proofs.YtmjebehhpojihaaGreatDoor.Sw
open Go
set_option maxRecDepth 100000
set_option linter.unusedVariables false
set_option linter.unusedSimpArgs false
set_option linter.deprecated false
def IsTree (g : GH) (b : Nat) (x : List Leaf) (c : Chunk) : Prop := ∃ b0 c0, c = (b, .cells #[.map (some b0)] 128 (0, 0)) :: (c0) ∧ IsLm g b0 x c0
theorem IsTree.mono {g g' : GH} {b : Nat} {x : List Leaf} {c : Chunk} (h : IsTree g b x c) (hg : gle g g') : IsTree g' b x c := by
 obtain ⟨b0, c0, e, h0⟩ := h
 exact ⟨b0, c0, e, h0.mono hg⟩
theorem IsTree.eq {g : GH} {b : Nat} {x y : List Leaf} {c : Chunk} (h : IsTree g b x c) (e : x = y) : IsTree g b y c := e ▸ h
theorem IsTree.flat {g g' : GH} {b : Nat} {x : List Leaf} {c : Chunk} (h : IsTree g b x c) : IsTree g' b x c := by
 obtain ⟨b0, c0, e, h0⟩ := h
 exact ⟨b0, c0, e, h0.flat⟩
theorem IsTree.sort {g : GH} {b : Nat} {ns : List Leaf} {c : Chunk} (H : IsTree g b ns c) : SortL ns := by
 obtain ⟨b0, c0, rfl, es, clk, ms, _, h1, _⟩ := H
 exact h1.2.2.1
theorem IsTree.frz {h0 : Heap} {g0 : GH} {S0 : Nat → Prop} {g : GH} {L : List Chunk} {h : Heap} {C c : Chunk} {b : Nat} {ns : List Leaf} (H : IsTree g b ns c) (s : St h0 g0 S0 g (C :: L) h) (hc : ∀ p ∈ c, p ∈ C) : VTree (gadd g C) b ns := by
 obtain ⟨b0, c0, rfl, h1⟩ := H
 exact ⟨b0, gadd_mem s.keys (hc _ (.head _)), h1.frz s fun p hp => hc p (.tail _ hp)⟩
theorem newT (B : World) (h : Heap) (g : GH) (hg : Sub g h) (hG : Glob g)   :
  Spec Tryz.prog B 27 #[] h g [] (fun rv g' L' => ∃ b0 k0, rv = .pointer (some ⟨b0, 0, none⟩) ∧ IsTree g' b0 ([⟨[47], [], 0, -1, 0, 0⟩]) k0 ∧ g' = g ∧ L' = [k0]) := by
 refine Spec.of_at (f := Tryz.f27) (e := []) Tryz.func27 (by kernel_rfl) (Nat.le_of_ble_eq_true (by kernel_rfl)) (by kernel_rfl) (by kernel_rfl) ?_
 intro R hR
 have s0 := St.init hg
 refine At.reg (L := [(0, false)]) (by kernel_rfl) ?_
 refine Op.pures 1 [] (L' := []) (e' := []) (by kernel_rfl) ?_
 refine Op.goto 1 (by kernel_rfl) ?_
 refine At.reg (L := [(0, false), (1, false), (2, false), (3, false), (4, false), (5, false), (6, false), (7, false)]) (by kernel_rfl) ?_
 refine Op.makeMap (mt := 126) (dst := 1) (by kernel_rfl) s0 ?_
 intro m1001 h1002 s1003
 have s1004 : St h g (ids []) g [[(m1001, .map #[] 0)], []] h1002 := St.flat (L := [[(m1001, .map #[] 0)]]) rfl s1003
 have hR1005 : MapR encS #[] 0 ([] : List (Str × Value)) := MapR.empty _ _
 have hO1006 := OpenLm.nil
 refine Op.pures 1 [1, 2] (L' := [(2, false), (3, false), (4, false), (5, false), (6, false), (7, false)]) (e' := [(1, .map (some m1001)), (2, .agg #[.string (mkS ([47])), .slice none 0 0, .int .i64 0, .int .i64 (-1), .int .i64 0, .int .i64 0])]) (by kernel_rfl) ?_
 refine Op.box (T := 59) (x := (.tmp 2)) (d := 3) (cs := #[.string (mkS ([47])), .slice none 0 0, .int .i64 0, .int .i64 (-1), .int .i64 0, .int .i64 0]) (by kernel_rfl) (by kernel_rfl) s1004 ?_
 intro b1007 h1008 s1009
 have R1010 := Row.zero 5 kU8 g none
 have s1011 : St h g (ids []) g ([] :: [[(b1007, Obj.cells #[.string (mkS ([47])), .slice none 0 0, .int .i64 0, .int .i64 (-1), .int .i64 0, .int .i64 0] 59 (0, 0))], [(m1001, .map #[] 0)], []]) h1008 := St.flat (L := [[(b1007, Obj.cells #[.string (mkS ([47])), .slice none 0 0, .int .i64 0, .int .i64 (-1), .int .i64 0, .int .i64 0] 59 (0, 0))], [(m1001, .map #[] 0)], []]) rfl s1009
 refine Op.mapSet (d := .string) (z := .pointer none) (mt := 126) (x := (.tmp 1)) (ix := (.const (.string (mkS ([47]))))) (y := (.tmp 3)) (k := ([47])) (v := .pointer (some ⟨b1007, 0, none⟩)) (.inr (by kernel_rfl)) (by kernel_rfl) keyS (by kernel_rfl) (by kernel_rfl) (by kernel_rfl) s1011 2 rfl hR1005 (fun _ => trivial) ?_
 intro es1012 clk1013 h1014 hR1015 s1016
 have hO1017 : OpenLm (updK [] ([47]) (.pointer (some ⟨b1007, 0, none⟩))) ((b1007, .cells #[.string (mkS ([47])), .slice none 0 0, .int .i64 0, .int .i64 (-1), .int .i64 0, .int .i64 0] 59 (0, 0)) :: [] ++ [] : Chunk) (withL ([] : List Leaf) (⟨[47], ([] : List UInt8), 0, (-1), 0, 0⟩ : Leaf)) := hO1006.ins (g := g) (l := (⟨[47], ([] : List UInt8), 0, (-1), 0, 0⟩ : Leaf)) (by rfl) R1010 (by decide)
 have s1019 : St h g (ids []) g [[(m1001, .map es1012 clk1013)], [(b1007, Obj.cells #[.string (mkS ([47])), .slice none 0 0, .int .i64 0, .int .i64 (-1), .int .i64 0, .int .i64 0] 59 (0, 0))], [], []] h1014 := (((s1016.front 0 rfl).front 1 rfl).front 2 rfl)
 have s1018 : St h g (ids []) g [[(m1001, .map es1012 clk1013)], ((b1007, .cells #[.string (mkS ([47])), .slice none 0 0, .int .i64 0, .int .i64 (-1), .int .i64 0, .int .i64 0] 59 (0, 0)) :: [] ++ [] : Chunk)] h1014 := St.flat (L := [[(m1001, .map es1012 clk1013)], [(b1007, Obj.cells #[.string (mkS ([47])), .slice none 0 0, .int .i64 0, .int .i64 (-1), .int .i64 0, .int .i64 0] 59 (0, 0))], [], []]) (by simp only [List.flatten_cons, List.flatten_nil, List.append_assoc, List.cons_append, List.nil_append, List.append_nil]) s1019
 refine Op.pures 2 [5] (L' := [(6, false), (7, false)]) (e' := [(5, .agg #[.map (some m1001)])]) (by kernel_rfl) ?_
 refine Op.box (T := 128) (x := (.tmp 5)) (d := 6) (cs := #[.map (some m1001)]) (by kernel_rfl) (by kernel_rfl) s1018 ?_
 intro b1020 h1021 s1022
 refine Op.pures 1 [0] (L' := []) (e' := [(0, .pointer (some ⟨b1020, 0, none⟩))]) (by kernel_rfl) ?_
 refine Op.goto 2 (by kernel_rfl) ?_
 have s1023 : St h g (ids []) g [[(m1001, .map es1012 clk1013)], ((b1007, .cells #[.string (mkS ([47])), .slice none 0 0, .int .i64 0, .int .i64 (-1), .int .i64 0, .int .i64 0] 59 (0, 0)) :: [] ++ [] : Chunk), [(b1020, Obj.cells #[.map (some m1001)] 128 (0, 0))]] h1021 := (((s1022.front 0 rfl).front 2 rfl).front 2 rfl)
 obtain ⟨c1024, o1025, s1026⟩ : ∃ c, IsLm g m1001 (withL ([] : List Leaf) (⟨[47], ([] : List UInt8), 0, (-1), 0, 0⟩ : Leaf)) c ∧ St h g (ids []) g (c :: [[(b1020, Obj.cells #[.map (some m1001)] 128 (0, 0))]]) h1021 := ⟨_, hO1017.close hR1015 (List.Perm.refl _), St.flat (L := [(m1001, .map es1012 clk1013)] :: ((b1007, .cells #[.string (mkS ([47])), .slice none 0 0, .int .i64 0, .int .i64 (-1), .int .i64 0, .int .i64 0] 59 (0, 0)) :: [] ++ [] : Chunk) :: [[(b1020, Obj.cells #[.map (some m1001)] 128 (0, 0))]]) (by simp only [List.flatten_cons, List.append_assoc, List.cons_append, List.nil_append, List.append_nil]) s1023⟩
 have s1027 : St h g (ids []) g [[(b1020, Obj.cells #[.map (some m1001)] 128 (0, 0))], c1024] h1021 := ((s1026.front 0 rfl).front 1 rfl)
 obtain ⟨c1028, o1029, s1030⟩ : ∃ c, IsTree g b1020 (withL ([] : List Leaf) (⟨[47], ([] : List UInt8), 0, (-1), 0, 0⟩ : Leaf)) c ∧ St h g (ids []) g (c :: []) h1021 := ⟨_, ⟨_, _, rfl, o1025⟩, St.flat (L := [[(b1020, Obj.cells #[.map (some m1001)] 128 (0, 0))], c1024]) (by simp only [List.flatten_cons, List.append_assoc, List.cons_append, List.nil_append, List.append_nil]) s1027⟩
 refine At.ret (f := Tryz.f27) (v := .pointer (some ⟨b1020, 0, none⟩)) (by kernel_rfl) (by kernel_rfl) ?_
 refine hR _ _ _ _ s1030 ⟨b1020, c1028, ?_, ?_, rfl, rfl⟩
 ·exact rfl
 ·exact o1029.eq (by rfl)
end Go.Proofs.YtmjebehhpojihaaGreatDoor.Sw
namespace Go.Proofs.YtmjebehhpojihaaGreatDoor.Sw
open Go
set_option maxRecDepth 100000
set_option linter.unusedVariables false
set_option linter.unusedSimpArgs false
set_option linter.deprecated false
theorem setF (B : World) (h : Heap) (g : GH) (hg : Sub g h) (hG : Glob g) (b_t : Nat) (t : List Leaf) (c_t : Chunk) (o_t : IsTree g b_t t c_t) (p : List UInt8) (v_data : Value) (data : List UInt8) (h_data : SlR g 5 kU8 v_data data) (ver : Int) (hB : TreeB t) (hp : p.length ≤ 1000000000) (hd : data.length ≤ 1000000000) (hs : St h g (ids [c_t]) g [c_t] h) :
  Spec Tryz.prog B 41 #[.pointer (some ⟨b_t, 0, none⟩), .string (mkS p), v_data, .int .i64 ver] h g [c_t] (fun rv g' L' => ∃ k_t, rv = .tuple #[.int .i64 ((setT t p data ver).2.1), .int .i64 ((setT t p data ver).2.2)] ∧ IsTree g' b_t ((setT t p data ver).1) k_t ∧ g' = g ∧ L' = [k_t]) := by
 obtain ⟨a_data, n_data, rfl⟩ := h_data.form
 refine Spec.of_at (f := Tryz.f41) (e := [(0, .pointer (some ⟨b_t, 0, none⟩)), (1, .string (mkS p)), (2, .slice a_data data.length n_data), (3, .int .i64 ver)]) Tryz.func41 (by kernel_rfl) (Nat.le_of_ble_eq_true (by kernel_rfl)) (by kernel_rfl) (by kernel_rfl) ?_
 intro R hR
 refine At.reg (L := [(0, false), (1, false)]) (by kernel_rfl) ?_
 refine Op.pures 2 [0, 1, 2, 3] (L' := []) (e' := [(0, .pointer (some ⟨b_t, 0, none⟩)), (1, .string (mkS p)), (2, .slice a_data data.length n_data), (3, .int .i64 ver)]) (by kernel_rfl) ?_
 refine Op.goto 1 (by kernel_rfl) ?_
 refine At.reg (L := [(0, false), (1, false), (2, false), (3, false), (4, false), (5, false), (6, false), (7, false), (8, false)]) (by kernel_rfl) ?_
 refine Op.pures 3 [2, 13, 14, 15] (L' := [(3, false), (4, false), (5, false), (6, false), (7, false), (8, false)]) (e' := [(2, .slice a_data data.length n_data), (13, .pointer (some ⟨b_t, 0, none⟩)), (14, .string (mkS p)), (15, .int .i64 ver)]) (by kernel_rfl) ?_
 have hl1001 := hs.frzle
 have hz1002 := IsTree.frz o_t hs (by intro p hp; simp only [List.mem_append, hp, true_or, or_true])
 refine Op.lend (dst := some 16) (f := 79) (args := #[.pointer (some ⟨b_t, 0, none⟩), .string (mkS p), .int .i64 ver]) (cf := (c_t : Chunk)) (Lc := []) (L := []) (by kernel_rfl) hs (verT _ _ _ hs.frzsub (hG.mono hl1001) b_t t hz1002 p ver (by ((try dsimp only) <;> (omega))) ) (fun _ _ _ hp => by obtain ⟨hgg, _, _⟩ := hp; exact hgg) (fun _ _ h => absurd h (ids_nil _)) ?_
 rintro v1005 _ h1003 s1004 ⟨hgg, rfl, hp1006⟩; clear hgg
 rcases hp1006 with ⟨rfl, hne1009⟩ | ⟨b1010, l1011, v1012, mb1013, rfl, hE1014, hF1015, hbt1016, hb1017, hd1018, ha1019⟩
 ·have k1020 : ((verE t p ver) != (0 : Int)) = true := bne_iff_ne.2 hne1009
  have k1021 : ((verE t p ver) == (0 : Int)) = false := beq_eq_false_iff_ne.2 hne1009
  refine Op.pures 5 [2, 10, 11] (L' := []) (e' := [(2, .slice a_data data.length n_data), (10, .pointer none), (11, .int .i64 (verE t p ver))]) (by kernel_rfl) ?_
  refine Op.goto 2 (by kernel_rfl) ?_
  refine At.reg (L := [(0, false), (1, false), (2, false)]) (by kernel_rfl) ?_
  refine Op.pures 3 [2, 10, 11, 19] (L' := []) (e' := [(2, .slice a_data data.length n_data), (10, .pointer none), (11, .int .i64 (verE t p ver)), (19, .bool ((verE t p ver) != (0 : Int)))]) (by kernel_rfl) ?_
  refine Op.goto 3 (by kernel_rfl) ?_
  refine At.cond (b := (verE t p ver) != (0 : Int)) (c := .tmp 19) (by kernel_rfl) (by kernel_rfl) (by kernel_rfl) 4 6 (by kernel_rfl) (by kernel_rfl) (fun hb => ?_) (fun hb => ?_)
  ·have c1022 : ¬ ((verE t p ver) = (0 : Int)) := bneT hb
   clear hb
   refine At.keep [11] ?_; show At _ _ _ [(11, .int .i64 (verE t p ver))] _
   refine At.reg (L := [(0, false), (1, false), (2, false)]) (by kernel_rfl) ?_
   refine Op.pures 3 [8, 9] (L' := []) (e' := [(8, .int .i64 0), (9, .int .i64 (verE t p ver))]) (by kernel_rfl) ?_
   refine Op.goto 5 (by kernel_rfl) ?_
   refine At.ret (f := Tryz.f41) (v := .tuple #[.int .i64 0, .int .i64 (verE t p ver)]) (by kernel_rfl) (by kernel_rfl) ?_
   refine hR _ _ _ _ s1004 ⟨c_t, ?_, ?_, rfl, rfl⟩
   ·exact eqT2 (eqI (by (rw [setT_1 (by assumption)]; done))) (eqI (by (rw [setT_1 (by assumption)]; done)))
   ·exact o_t.eq (by (rw [setT_1 (by assumption)]; done))
  ·exact Bool.noConfusion (k1020.symm.trans hb)
 ·refine Op.pures 5 [2, 10, 11] (L' := []) (e' := [(2, .slice a_data data.length n_data), (10, .pointer (some ⟨b1010, 0, none⟩)), (11, .int .i64 0)]) (by kernel_rfl) ?_
  refine Op.goto 2 (by kernel_rfl) ?_
  refine At.reg (L := [(0, false), (1, false), (2, false)]) (by kernel_rfl) ?_
  refine Op.pures 3 [2, 10, 11, 19] (L' := []) (e' := [(2, .slice a_data data.length n_data), (10, .pointer (some ⟨b1010, 0, none⟩)), (11, .int .i64 0), (19, .bool false)]) (by kernel_rfl) ?_
  refine Op.goto 3 (by kernel_rfl) ?_
  refine At.condF (c := .tmp 19) (by kernel_rfl) (by kernel_rfl) (by kernel_rfl) 6 (by kernel_rfl) ?_
  refine At.reg (L := [(0, false), (1, false), (2, false), (3, false)]) (by kernel_rfl) ?_
  refine Op.pures 4 [2, 10, 23] (L' := []) (e' := [(2, .slice a_data data.length n_data), (10, .pointer (some ⟨b1010, 0, none⟩)), (23, .bool (decide ((data.length : Int) > (128 : Int))))]) (by kernel_rfl) ?_
  refine Op.goto 7 (by kernel_rfl) ?_
  refine At.cond (b := decide ((data.length : Int) > (128 : Int))) (c := .tmp 23) (by kernel_rfl) (by kernel_rfl) (by kernel_rfl) 8 10 (by kernel_rfl) (by kernel_rfl) (fun hb => ?_) (fun hb => ?_)
  ·have c1023 : (data.length : Int) > (128 : Int) := of_decide_eq_true hb
   clear hb
   refine At.keep [] ?_; show At _ _ _ [] _
   refine At.reg (L := [(0, false), (1, false)]) (by kernel_rfl) ?_
   refine Op.pures 2 [8, 9] (L' := []) (e' := [(8, .int .i64 0), (9, .int .i64 104)]) (by kernel_rfl) ?_
   refine Op.goto 5 (by kernel_rfl) ?_
   refine At.ret (f := Tryz.f41) (v := .tuple #[.int .i64 0, .int .i64 104]) (by kernel_rfl) (by kernel_rfl) ?_
   refine hR _ _ _ _ s1004 ⟨c_t, ?_, ?_, rfl, rfl⟩
   ·exact eqT2 (eqI (by (rw [setT_3 (by assumption) (by assumption) (by assumption)]; done))) (eqI (by (rw [setT_3 (by assumption) (by assumption) (by assumption)]; done)))
   ·exact o_t.eq (by (rw [setT_3 (by assumption) (by assumption) (by assumption)]; done))
  ·have c1024 : ¬ ((data.length : Int) > (128 : Int)) := of_decide_eq_false hb
   clear hb
   refine At.keep [2, 10] ?_; show At _ _ _ [(2, .slice a_data data.length n_data), (10, .pointer (some ⟨b1010, 0, none⟩))] _
   refine At.reg (L := [(0, false), (1, false), (2, false), (3, false), (4, false), (5, false)]) (by kernel_rfl) ?_
   refine Op.pures 2 [10, 27, 28] (L' := [(2, false), (3, false), (4, false), (5, false)]) (e' := [(10, .pointer (some ⟨b1010, 0, none⟩)), (27, .pointer (some ⟨b1010, 0, none⟩)), (28, .slice a_data data.length n_data)]) (by kernel_rfl) ?_
   refine Op.call0 (dst := some 29) (f := 74) (args := #[.slice a_data data.length n_data]) (by kernel_rfl) s1004 (cloneB _ _ _ s1004.sub hG _ _ h_data (by ((try dsimp only) <;> (omega))) ) ?_
   rintro _ g1032 _ h1025 hle1033 s1026 ⟨v1027, ch1028, rfl, R1029, hgg, rfl⟩; subst g1032; clear hle1033
   obtain ⟨a1030, n1031, rfl⟩ := R1029.form
   refine Op.pures 2 [10, 29, 31] (L' := [(5, false)]) (e' := [(10, .pointer (some ⟨b1010, 0, none⟩)), (29, .slice a1030 ((data).length) n1031), (31, .pointer (some ⟨b1010, 1, none⟩))]) (by kernel_rfl) ?_
   obtain ⟨b1034, c1035, e1036, R1037⟩ := o_t
   have s1038 : St h g (ids [c_t]) g [c_t, ch1028] h1025 := ((s1026.front 0 rfl).front 1 rfl)
   have s1039 : St h g (ids [c_t]) g [[(b_t, Obj.cells #[.map (some b1034)] 128 (0, 0))], c1035, ch1028] h1025 := St.flat (L := [c_t, ch1028]) (by rw [e1036]; simp only [List.flatten_cons, List.append_assoc, List.cons_append, List.nil_append, List.append_nil]) s1038
   have s1040 : St h g (ids [c_t]) g [c1035, [(b_t, Obj.cells #[.map (some b1034)] 128 (0, 0))], ch1028] h1025 := ((s1039.front 0 rfl).front 1 rfl)
   obtain ⟨es1041, clk1042, ks1043, F1044, hp1045, hR1046, hO1047⟩ := IsLm.open_ R1037
   have s1048 : St h g (ids [c_t]) g ([(b1034, .map es1041 clk1042)] :: F1044 :: [[(b_t, Obj.cells #[.map (some b1034)] 128 (0, 0))], ch1028]) h1025 := St.permF (L := c1035 :: [[(b_t, Obj.cells #[.map (some b1034)] 128 (0, 0))], ch1028]) (hp1045.append_right _) s1040
   obtain ⟨v1049, c1050, F1051, hpF1052, R1053, hset1054⟩ := hO1047.at_ (g := g) (l := l1011) (b := b1010) hR1046 (by rw [(findL_some hF1015).2]; exact hF1015) (leaf_own (es := es1041) (clk := clk1042) (C := (c_t : Chunk)) (b0 := b1034) hs (by simp [e1036]) (by simp [e1036, hp1045.mem_iff]) hbt1016 ha1019)
   obtain ⟨a1056, n1057, rfl⟩ := R1053.form
   have s1058 : St h g (ids [c_t]) g [F1044, [(b1034, .map es1041 clk1042)], [(b_t, Obj.cells #[.map (some b1034)] 128 (0, 0))], ch1028] h1025 := ((s1048.front 0 rfl).front 1 rfl)
   have s1055 : St h g (ids [c_t]) g [[(b1010, Obj.cells #[.string (mkS l1011.Path), .slice a1056 l1011.Data.length n1057, .int .i64 l1011.Version, .int .i64 l1011.Owner, .int .i64 l1011.Next, .int .i64 l1011.Born] 59 (0, 0))], c1050, F1051, [(b1034, .map es1041 clk1042)], [(b_t, Obj.cells #[.map (some b1034)] 128 (0, 0))], ch1028] h1025 := St.permF (L := F1044 :: [[(b1034, .map es1041 clk1042)], [(b_t, Obj.cells #[.map (some b1034)] 128 (0, 0))], ch1028]) (by have hq := hpF1052.append_right (List.flatten [[(b1034, .map es1041 clk1042)], [(b_t, Obj.cells #[.map (some b1034)] 128 (0, 0))], ch1028]); simpa only [List.flatten_cons, List.flatten_nil, List.append_assoc, List.cons_append, List.nil_append, List.append_nil] using hq) s1058
   refine Op.store (T := 29) (x := (.tmp 31)) (y := (.tmp 29)) (b := b1010) (o := 1) (vs := [.slice a1030 ((data).length) n1031]) (a? := false) (n := 1) (by kernel_rfl) (by kernel_rfl) (by kernel_rfl) (by kernel_rfl) rfl (by simp [Value.oneCell']) s1055 0 rfl (Nat.le_of_ble_eq_true (by kernel_rfl)) (cs := #[.string (mkS l1011.Path), .slice a1056 l1011.Data.length n1057, .int .i64 l1011.Version, .int .i64 l1011.Owner, .int .i64 l1011.Next, .int .i64 l1011.Born]) (cs' := #[.string (mkS l1011.Path), .slice a1030 ((data).length) n1031, .int .i64 l1011.Version, .int .i64 l1011.Owner, .int .i64 l1011.Next, .int .i64 l1011.Born]) (by kernel_rfl) (fun _ => trivial) ?_
   intro h1059 s1060
   refine Op.goto 11 (by kernel_rfl) ?_
   refine At.reg (L := [(0, false), (1, false), (2, false), (3, false), (4, false), (5, false), (6, false), (7, false)]) (by kernel_rfl) ?_
   refine Op.pures 3 [10, 32, 34] (L' := [(3, false), (4, false), (5, false), (6, false), (7, false)]) (e' := [(10, .pointer (some ⟨b1010, 0, none⟩)), (32, .pointer (some ⟨b1010, 0, none⟩)), (34, .pointer (some ⟨b1010, 2, none⟩))]) (by kernel_rfl) ?_
   refine Op.load (T := 3) (x := (.tmp 34)) (o := 2) (d := 35) (n := 1) (v := .int .i64 l1011.Version) (by kernel_rfl) (by kernel_rfl) (by kernel_rfl) (s1060.chunk 0 rfl) (by kernel_rfl) ?_
   refine Op.val (dst := some 36) (v := .int .i64 (IntKind.wrap .i64 (l1011.Version + 1))) (v' := .int .i64 (IntKind.wrap .i64 (l1011.Version + 1))) (by kernel_rfl) rfl ?_
   refine Op.pures 2 [10, 36, 38] (L' := [(7, false)]) (e' := [(10, .pointer (some ⟨b1010, 0, none⟩)), (36, .int .i64 (IntKind.wrap .i64 (l1011.Version + 1))), (38, .pointer (some ⟨b1010, 2, none⟩))]) (by kernel_rfl) ?_
   refine Op.store (T := 3) (x := (.tmp 38)) (y := (.tmp 36)) (b := b1010) (o := 2) (vs := [.int .i64 (IntKind.wrap .i64 (l1011.Version + 1))]) (a? := false) (n := 1) (by kernel_rfl) (by kernel_rfl) (by kernel_rfl) (by kernel_rfl) rfl (by simp [Value.oneCell']) s1060 0 rfl (Nat.le_of_ble_eq_true (by kernel_rfl)) (cs := #[.string (mkS l1011.Path), .slice a1030 ((data).length) n1031, .int .i64 l1011.Version, .int .i64 l1011.Owner, .int .i64 l1011.Next, .int .i64 l1011.Born]) (cs' := #[.string (mkS l1011.Path), .slice a1030 ((data).length) n1031, .int .i64 (IntKind.wrap .i64 (l1011.Version + 1)), .int .i64 l1011.Owner, .int .i64 l1011.Next, .int .i64 l1011.Born]) (by kernel_rfl) (fun _ => trivial) ?_
   intro h1061 s1062
   refine Op.goto 12 (by kernel_rfl) ?_
   refine At.reg (L := [(0, false), (1, false), (2, false), (3, false), (4, false), (5, false)]) (by kernel_rfl) ?_
   refine Op.pures 3 [41] (L' := [(3, false), (4, false), (5, false)]) (e' := [(41, .pointer (some ⟨b1010, 2, none⟩))]) (by kernel_rfl) ?_
   refine Op.load (T := 3) (x := (.tmp 41)) (o := 2) (d := 42) (n := 1) (v := .int .i64 (IntKind.wrap .i64 (l1011.Version + 1))) (by kernel_rfl) (by kernel_rfl) (by kernel_rfl) (s1062.chunk 0 rfl) (by kernel_rfl) ?_
   refine Op.pures 2 [8, 9] (L' := []) (e' := [(8, .int .i64 (IntKind.wrap .i64 (l1011.Version + 1))), (9, .int .i64 0)]) (by kernel_rfl) ?_
   refine Op.goto 13 (by kernel_rfl) ?_
   have hO1063 : OpenLm ks1043 ((b1010, .cells #[.string (mkS l1011.Path), .slice a1030 ((data).length) n1031, .int .i64 (IntKind.wrap .i64 (l1011.Version + 1)), .int .i64 l1011.Owner, .int .i64 l1011.Next, .int .i64 l1011.Born] 59 (0, 0)) :: ch1028 ++ F1051 : Chunk) (withL t (⟨l1011.Path, data, IntKind.wrap .i64 (l1011.Version + 1), l1011.Owner, l1011.Next, l1011.Born⟩ : Leaf)) := hset1054 (⟨l1011.Path, data, IntKind.wrap .i64 (l1011.Version + 1), l1011.Owner, l1011.Next, l1011.Born⟩ : Leaf) _ _ rfl R1029
   have s1065 : St h g (ids [c_t]) g [[(b1010, Obj.cells #[.string (mkS l1011.Path), .slice a1030 ((data).length) n1031, .int .i64 (IntKind.wrap .i64 (l1011.Version + 1)), .int .i64 l1011.Owner, .int .i64 l1011.Next, .int .i64 l1011.Born] 59 (0, 0))], ch1028, F1051, c1050, [(b1034, .map es1041 clk1042)], [(b_t, Obj.cells #[.map (some b1034)] 128 (0, 0))]] h1061 := ((((((s1062.front 4 rfl).front 4 rfl).front 3 rfl).front 4 rfl).front 5 rfl).front 5 rfl)
   have s1064 : St h g (ids [c_t]) g [((b1010, .cells #[.string (mkS l1011.Path), .slice a1030 ((data).length) n1031, .int .i64 (IntKind.wrap .i64 (l1011.Version + 1)), .int .i64 l1011.Owner, .int .i64 l1011.Next, .int .i64 l1011.Born] 59 (0, 0)) :: ch1028 ++ F1051 : Chunk), c1050, [(b1034, .map es1041 clk1042)], [(b_t, Obj.cells #[.map (some b1034)] 128 (0, 0))]] h1061 := St.flat (L := [[(b1010, Obj.cells #[.string (mkS l1011.Path), .slice a1030 ((data).length) n1031, .int .i64 (IntKind.wrap .i64 (l1011.Version + 1)), .int .i64 l1011.Owner, .int .i64 l1011.Next, .int .i64 l1011.Born] 59 (0, 0))], ch1028, F1051, c1050, [(b1034, .map es1041 clk1042)], [(b_t, Obj.cells #[.map (some b1034)] 128 (0, 0))]]) (by simp only [List.flatten_cons, List.flatten_nil, List.append_assoc, List.cons_append, List.nil_append, List.append_nil]) s1065
   have s1066 : St h g (ids [c_t]) g [[(b1034, .map es1041 clk1042)], ((b1010, .cells #[.string (mkS l1011.Path), .slice a1030 ((data).length) n1031, .int .i64 (IntKind.wrap .i64 (l1011.Version + 1)), .int .i64 l1011.Owner, .int .i64 l1011.Next, .int .i64 l1011.Born] 59 (0, 0)) :: ch1028 ++ F1051 : Chunk), c1050, [(b_t, Obj.cells #[.map (some b1034)] 128 (0, 0))]] h1061 := (((s1064.front 1 rfl).front 1 rfl).front 2 rfl)
   obtain ⟨c1067, o1068, s1069⟩ : ∃ c, IsLm g b1034 (withL t (⟨l1011.Path, data, IntKind.wrap .i64 (l1011.Version + 1), l1011.Owner, l1011.Next, l1011.Born⟩ : Leaf)) c ∧ St h g (ids [c_t]) g (c :: [c1050, [(b_t, Obj.cells #[.map (some b1034)] 128 (0, 0))]]) h1061 := ⟨_, hO1063.close hR1046 (List.Perm.refl _), St.flat (L := [(b1034, .map es1041 clk1042)] :: ((b1010, .cells #[.string (mkS l1011.Path), .slice a1030 ((data).length) n1031, .int .i64 (IntKind.wrap .i64 (l1011.Version + 1)), .int .i64 l1011.Owner, .int .i64 l1011.Next, .int .i64 l1011.Born] 59 (0, 0)) :: ch1028 ++ F1051 : Chunk) :: [c1050, [(b_t, Obj.cells #[.map (some b1034)] 128 (0, 0))]]) (by simp only [List.flatten_cons, List.append_assoc, List.cons_append, List.nil_append, List.append_nil]) s1066⟩
   have s1070 : St h g (ids [c_t]) g [[(b_t, Obj.cells #[.map (some b1034)] 128 (0, 0))], c1067, c1050] h1061 := (((s1069.front 1 rfl).front 1 rfl).front 2 rfl)
   obtain ⟨c1071, o1072, s1073⟩ : ∃ c, IsTree g b_t (withL t (⟨l1011.Path, data, IntKind.wrap .i64 (l1011.Version + 1), l1011.Owner, l1011.Next, l1011.Born⟩ : Leaf)) c ∧ St h g (ids [c_t]) g (c :: [c1050]) h1061 := ⟨_, ⟨_, _, rfl, o1068⟩, St.flat (L := [[(b_t, Obj.cells #[.map (some b1034)] 128 (0, 0))], c1067, c1050]) (by simp only [List.flatten_cons, List.append_assoc, List.cons_append, List.nil_append, List.append_nil]) s1070⟩
   refine At.ret (f := Tryz.f41) (v := .tuple #[.int .i64 (IntKind.wrap .i64 (l1011.Version + 1)), .int .i64 0]) (by kernel_rfl) (by kernel_rfl) ?_
   have s1074 : St h g (ids [c_t]) g [c1050, c1071] h1061 := ((s1073.front 0 rfl).front 1 rfl)
   have s1075 : St h g (ids [c_t]) g [c1071] h1061 := (s1074).drop
   refine hR _ _ _ _ s1075 ⟨c1071, ?_, ?_, rfl, rfl⟩
   ·exact eqT2 (eqI (by (rw [setT_4 (by assumption) (by assumption) (by assumption)]; done))) (eqI (by (rw [setT_4 (by assumption) (by assumption) (by assumption)]; done)))
   ·exact o1072.eq (by (rw [setT_4 (by assumption) (by assumption) (by assumption)]; done))
end Go.Proofs.YtmjebehhpojihaaGreatDoor.Sw
namespace Go.Proofs.YtmjebehhpojihaaGreatDoor.Sw
open Go
set_option maxRecDepth 100000
set_option linter.unusedVariables false
set_option linter.unusedSimpArgs false
set_option linter.deprecated false
theorem with_none2 {ns : List Leaf} {p q : Str} {up : Leaf} (hf : findL ns p = some up) (hq : findL ns q = none) (v : Int) : findL (withL ns ⟨up.Path, up.Data, up.Version, up.Owner, v, up.Born⟩) q = none := with_none (up := up) hf hq rfl
theorem makeF (B : World) (h : Heap) (g : GH) (hg : Sub g h) (hG : Glob g) (b_t : Nat) (t : List Leaf) (c_t : Chunk) (o_t : IsTree g b_t t c_t) (p : List UInt8) (v_data : Value) (data : List UInt8) (h_data : SlR g 5 kU8 v_data data) (owner : Int) (born : Int) (num : Bool) (hP : Pow10 g) (hB : TreeB t) (hp : p.length ≤ 100000000) (hd : data.length ≤ 1000000000) (hs : St h g (ids [c_t]) g [c_t] h) :
  Spec Tryz.prog B 28 #[.pointer (some ⟨b_t, 0, none⟩), .string (mkS p), v_data, .int .i64 owner, .int .i64 born, .bool num] h g [c_t] (fun rv g' L' => ∃ k_t, rv = .tuple #[.string (mkS ((makeT t p data owner born num).2.1)), .int .i64 ((makeT t p data owner born num).2.2)] ∧ IsTree g' b_t ((makeT t p data owner born num).1) k_t ∧ g' = g ∧ L' = [k_t]) := by
 obtain ⟨a_data, n_data, rfl⟩ := h_data.form
 have hsort := o_t.sort
 refine Spec.of_at (f := Tryz.f28) (e := [(0, .pointer (some ⟨b_t, 0, none⟩)), (1, .string (mkS p)), (2, .slice a_data data.length n_data), (3, .int .i64 owner), (4, .int .i64 born), (5, .bool num)]) Tryz.func28 (by kernel_rfl) (Nat.le_of_ble_eq_true (by kernel_rfl)) (by kernel_rfl) (by kernel_rfl) ?_
 intro R hR
 refine At.reg (L := [(0, false), (1, false)]) (by kernel_rfl) ?_
 refine Op.pures 2 [0, 1, 2, 3, 4, 5] (L' := []) (e' := [(0, .pointer (some ⟨b_t, 0, none⟩)), (1, .string (mkS p)), (2, .slice a_data data.length n_data), (3, .int .i64 owner), (4, .int .i64 born), (5, .bool num)]) (by kernel_rfl) ?_
 refine Op.goto 1 (by kernel_rfl) ?_
 refine At.reg (L := [(0, false), (1, false), (2, false), (3, false), (4, false), (5, false), (6, false), (7, false), (8, false)]) (by kernel_rfl) ?_
 refine Op.pures 3 [0, 1, 2, 3, 4, 5, 19, 20, 21] (L' := [(3, false), (4, false), (5, false), (6, false), (7, false), (8, false)]) (e' := [(0, .pointer (some ⟨b_t, 0, none⟩)), (1, .string (mkS p)), (2, .slice a_data data.length n_data), (3, .int .i64 owner), (4, .int .i64 born), (5, .bool num), (19, .pointer (some ⟨b_t, 0, none⟩)), (20, .string (mkS p)), (21, .slice a_data data.length n_data)]) (by kernel_rfl) ?_
 have hl1001 := hs.frzle
 have hz1002 := IsTree.frz o_t hs (by intro p hp; simp only [List.mem_append, hp, true_or, or_true])
 refine Op.lend (dst := some 22) (f := 72) (args := #[.pointer (some ⟨b_t, 0, none⟩), .string (mkS p), .slice a_data data.length n_data]) (cf := (c_t : Chunk)) (Lc := []) (L := []) (by kernel_rfl) hs (parT _ _ _ hs.frzsub (hG.mono hl1001) b_t t hz1002 p _ _ (h_data.mono hl1001) (by ((try dsimp only) <;> (omega))) ) (fun _ _ _ hp => by obtain ⟨hgg, _, _⟩ := hp; exact hgg) (fun _ _ h => absurd h (ids_nil _)) ?_
 rintro v1005 _ h1003 s1004 ⟨hgg, rfl, hp1006⟩; clear hgg
 rcases hp1006 with ⟨rfl, hne1009⟩ | ⟨b1010, l1011, v1012, mb1013, rfl, hE1014, hF1015, hbt1016, hb1017, hd1018, ha1019⟩
 ·have k1020 : ((parE t p data) != (0 : Int)) = true := bne_iff_ne.2 hne1009
  have k1021 : ((parE t p data) == (0 : Int)) = false := beq_eq_false_iff_ne.2 hne1009
  refine Op.pures 5 [0, 1, 2, 3, 4, 5, 14, 15] (L' := []) (e' := [(0, .pointer (some ⟨b_t, 0, none⟩)), (1, .string (mkS p)), (2, .slice a_data data.length n_data), (3, .int .i64 owner), (4, .int .i64 born), (5, .bool num), (14, .pointer none), (15, .int .i64 (parE t p data))]) (by kernel_rfl) ?_
  refine Op.goto 2 (by kernel_rfl) ?_
  refine At.reg (L := [(0, false), (1, false)]) (by kernel_rfl) ?_
  refine Op.pures 2 [0, 1, 2, 3, 4, 5, 14, 15, 26] (L' := []) (e' := [(0, .pointer (some ⟨b_t, 0, none⟩)), (1, .string (mkS p)), (2, .slice a_data data.length n_data), (3, .int .i64 owner), (4, .int .i64 born), (5, .bool num), (14, .pointer none), (15, .int .i64 (parE t p data)), (26, .bool ((parE t p data) != (0 : Int)))]) (by kernel_rfl) ?_
  refine Op.goto 3 (by kernel_rfl) ?_
  refine At.cond (b := (parE t p data) != (0 : Int)) (c := .tmp 26) (by kernel_rfl) (by kernel_rfl) (by kernel_rfl) 4 6 (by kernel_rfl) (by kernel_rfl) (fun hb => ?_) (fun hb => ?_)
  ·have c1022 : ¬ ((parE t p data) = (0 : Int)) := bneT hb
   clear hb
   refine At.keep [15] ?_; show At _ _ _ [(15, .int .i64 (parE t p data))] _
   refine At.reg (L := [(0, false), (1, false), (2, false)]) (by kernel_rfl) ?_
   refine Op.pures 3 [12, 13] (L' := []) (e' := [(12, .string (mkS [])), (13, .int .i64 (parE t p data))]) (by kernel_rfl) ?_
   refine Op.goto 5 (by kernel_rfl) ?_
   refine At.ret (f := Tryz.f28) (v := .tuple #[.string (mkS []), .int .i64 (parE t p data)]) (by kernel_rfl) (by kernel_rfl) ?_
   refine hR _ _ _ _ s1004 ⟨c_t, ?_, ?_, rfl, rfl⟩
   ·exact eqT2 (eqS (by (rw [mk_1 (by assumption)]; done))) (eqI (by (rw [mk_1 (by assumption)]; done)))
   ·exact o_t.eq (by (rw [mk_1 (by assumption)]; done))
  ·exact Bool.noConfusion (k1020.symm.trans hb)
 ·refine Op.pures 5 [0, 1, 2, 3, 4, 5, 14, 15] (L' := []) (e' := [(0, .pointer (some ⟨b_t, 0, none⟩)), (1, .string (mkS p)), (2, .slice a_data data.length n_data), (3, .int .i64 owner), (4, .int .i64 born), (5, .bool num), (14, .pointer (some ⟨b1010, 0, none⟩)), (15, .int .i64 0)]) (by kernel_rfl) ?_
  refine Op.goto 2 (by kernel_rfl) ?_
  refine At.reg (L := [(0, false), (1, false)]) (by kernel_rfl) ?_
  refine Op.pures 2 [0, 1, 2, 3, 4, 5, 14, 15, 26] (L' := []) (e' := [(0, .pointer (some ⟨b_t, 0, none⟩)), (1, .string (mkS p)), (2, .slice a_data data.length n_data), (3, .int .i64 owner), (4, .int .i64 born), (5, .bool num), (14, .pointer (some ⟨b1010, 0, none⟩)), (15, .int .i64 0), (26, .bool false)]) (by kernel_rfl) ?_
  refine Op.goto 3 (by kernel_rfl) ?_
  refine At.condF (c := .tmp 26) (by kernel_rfl) (by kernel_rfl) (by kernel_rfl) 6 (by kernel_rfl) ?_
  refine At.reg (L := [(0, false)]) (by kernel_rfl) ?_
  refine Op.pures 1 [0, 1, 2, 3, 4, 5, 14, 28] (L' := []) (e' := [(0, .pointer (some ⟨b_t, 0, none⟩)), (1, .string (mkS p)), (2, .slice a_data data.length n_data), (3, .int .i64 owner), (4, .int .i64 born), (5, .bool num), (14, .pointer (some ⟨b1010, 0, none⟩)), (28, .bool num)]) (by kernel_rfl) ?_
  refine Op.goto 7 (by kernel_rfl) ?_
  refine At.cond (b := num) (c := .tmp 28) (by kernel_rfl) (by kernel_rfl) (by kernel_rfl) 8 13 (by kernel_rfl) (by kernel_rfl) (fun hb => ?_) (fun hb => ?_)
  ·have c1023 : num = true := hb
   clear hb
   refine At.keep [0, 1, 2, 3, 4, 5, 14] ?_; show At _ _ _ [(0, .pointer (some ⟨b_t, 0, none⟩)), (1, .string (mkS p)), (2, .slice a_data data.length n_data), (3, .int .i64 owner), (4, .int .i64 born), (5, .bool num), (14, .pointer (some ⟨b1010, 0, none⟩))] _
   refine At.reg (L := [(0, false), (1, false), (2, false), (3, false), (4, false), (5, false), (6, false), (7, false), (8, false), (9, false), (10, false)]) (by kernel_rfl) ?_
   refine Op.pures 4 [0, 1, 2, 3, 4, 5, 14, 30, 33] (L' := [(4, false), (5, false), (6, false), (7, false), (8, false), (9, false), (10, false)]) (e' := [(0, .pointer (some ⟨b_t, 0, none⟩)), (1, .string (mkS p)), (2, .slice a_data data.length n_data), (3, .int .i64 owner), (4, .int .i64 born), (5, .bool num), (14, .pointer (some ⟨b1010, 0, none⟩)), (30, .string (mkS p)), (33, .pointer (some ⟨b1010, 4, none⟩))]) (by kernel_rfl) ?_
   obtain ⟨b1024, c1025, e1026, R1027⟩ := o_t
   have s1028 : St h g (ids [c_t]) g [[(b_t, Obj.cells #[.map (some b1024)] 128 (0, 0))], c1025] h1003 := St.flat (L := [c_t]) (by rw [e1026]; simp only [List.flatten_cons, List.append_assoc, List.cons_append, List.nil_append, List.append_nil]) s1004
   have s1029 : St h g (ids [c_t]) g [c1025, [(b_t, Obj.cells #[.map (some b1024)] 128 (0, 0))]] h1003 := ((s1028.front 0 rfl).front 1 rfl)
   obtain ⟨es1030, clk1031, ks1032, F1033, hp1034, hR1035, hO1036⟩ := IsLm.open_ R1027
   have s1037 : St h g (ids [c_t]) g ([(b1024, .map es1030 clk1031)] :: F1033 :: [[(b_t, Obj.cells #[.map (some b1024)] 128 (0, 0))]]) h1003 := St.permF (L := c1025 :: [[(b_t, Obj.cells #[.map (some b1024)] 128 (0, 0))]]) (hp1034.append_right _) s1029
   obtain ⟨v1038, c1039, F1040, hpF1041, R1042, hset1043⟩ := hO1036.at_ (g := g) (l := l1011) (b := b1010) hR1035 (by rw [(findL_some hF1015).2]; exact hF1015) (leaf_own (es := es1030) (clk := clk1031) (C := (c_t : Chunk)) (b0 := b1024) hs (by simp [e1026]) (by simp [e1026, hp1034.mem_iff]) hbt1016 ha1019)
   obtain ⟨a1045, n1046, rfl⟩ := R1042.form
   have s1047 : St h g (ids [c_t]) g [F1033, [(b1024, .map es1030 clk1031)], [(b_t, Obj.cells #[.map (some b1024)] 128 (0, 0))]] h1003 := ((s1037.front 0 rfl).front 1 rfl)
   have s1044 : St h g (ids [c_t]) g [[(b1010, Obj.cells #[.string (mkS l1011.Path), .slice a1045 l1011.Data.length n1046, .int .i64 l1011.Version, .int .i64 l1011.Owner, .int .i64 l1011.Next, .int .i64 l1011.Born] 59 (0, 0))], c1039, F1040, [(b1024, .map es1030 clk1031)], [(b_t, Obj.cells #[.map (some b1024)] 128 (0, 0))]] h1003 := St.permF (L := F1033 :: [[(b1024, .map es1030 clk1031)], [(b_t, Obj.cells #[.map (some b1024)] 128 (0, 0))]]) (by have hq := hpF1041.append_right (List.flatten [[(b1024, .map es1030 clk1031)], [(b_t, Obj.cells #[.map (some b1024)] 128 (0, 0))]]); simpa only [List.flatten_cons, List.flatten_nil, List.append_assoc, List.cons_append, List.nil_append, List.append_nil] using hq) s1047
   refine Op.load (T := 3) (x := (.tmp 33)) (o := 4) (d := 34) (n := 1) (v := .int .i64 l1011.Next) (by kernel_rfl) (by kernel_rfl) (by kernel_rfl) (s1044.chunk 0 rfl) (by kernel_rfl) ?_
   refine Op.call0 (dst := some 35) (f := 73) (args := #[.string (mkS p), .int .i64 l1011.Next]) (by kernel_rfl) s1044 (numberedP _ _ _ s1044.sub hG p l1011.Next hP (by ((try dsimp only) <;> ((have := TreeB.next hB (by assumption); omega)))) (by ((try dsimp only) <;> ((have := TreeB.next hB (by assumption); omega)))) (by ((try dsimp only) <;> ((have := TreeB.next hB (by assumption); omega)))) ) ?_
   rintro _ g1050 _ h1048 hle1051 s1049 ⟨rfl, hgg, rfl⟩; subst g1050; clear hle1051
   refine Op.pures 5 [0, 1, 2, 3, 4, 5, 14, 15] (L' := []) (e' := [(0, .pointer (some ⟨b_t, 0, none⟩)), (1, .string (mkS (numS p l1011.Next))), (2, .slice a_data data.length n_data), (3, .int .i64 owner), (4, .int .i64 born), (5, .bool num), (14, .pointer (some ⟨b1010, 0, none⟩)), (15, .int .i64 (numE p l1011.Next))]) (by kernel_rfl) ?_
   refine Op.goto 9 (by kernel_rfl) ?_
   refine At.reg (L := [(0, false), (1, false)]) (by kernel_rfl) ?_
   refine Op.pures 2 [0, 1, 2, 3, 4, 5, 14, 15, 39] (L' := []) (e' := [(0, .pointer (some ⟨b_t, 0, none⟩)), (1, .string (mkS (numS p l1011.Next))), (2, .slice a_data data.length n_data), (3, .int .i64 owner), (4, .int .i64 born), (5, .bool num), (14, .pointer (some ⟨b1010, 0, none⟩)), (15, .int .i64 (numE p l1011.Next)), (39, .bool ((numE p l1011.Next) != (0 : Int)))]) (by kernel_rfl) ?_
   refine Op.goto 10 (by kernel_rfl) ?_
   refine At.cond (b := (numE p l1011.Next) != (0 : Int)) (c := .tmp 39) (by kernel_rfl) (by kernel_rfl) (by kernel_rfl) 11 13 (by kernel_rfl) (by kernel_rfl) (fun hb => ?_) (fun hb => ?_)
   ·have c1052 : ¬ ((numE p l1011.Next) = (0 : Int)) := bneT hb
    clear hb
    refine At.keep [15] ?_; show At _ _ _ [(15, .int .i64 (numE p l1011.Next))] _
    refine At.reg (L := [(0, false), (1, false), (2, false)]) (by kernel_rfl) ?_
    refine Op.pures 3 [12, 13] (L' := []) (e' := [(12, .string (mkS [])), (13, .int .i64 (numE p l1011.Next))]) (by kernel_rfl) ?_
    refine Op.goto 12 (by kernel_rfl) ?_
    have hO1053 : OpenLm ks1032 ((b1010, .cells #[.string (mkS l1011.Path), .slice a1045 l1011.Data.length n1046, .int .i64 l1011.Version, .int .i64 l1011.Owner, .int .i64 l1011.Next, .int .i64 l1011.Born] 59 (0, 0)) :: c1039 ++ F1040 : Chunk) t := by have hq := hset1043 l1011 _ _ rfl R1042; rwa [withL_same hO1036.sort (by rw [(findL_some hF1015).2]; exact hF1015)] at hq
    have s1054 : St h g (ids [c_t]) g [((b1010, .cells #[.string (mkS l1011.Path), .slice a1045 l1011.Data.length n1046, .int .i64 l1011.Version, .int .i64 l1011.Owner, .int .i64 l1011.Next, .int .i64 l1011.Born] 59 (0, 0)) :: c1039 ++ F1040 : Chunk), [(b1024, .map es1030 clk1031)], [(b_t, Obj.cells #[.map (some b1024)] 128 (0, 0))]] h1048 := St.flat (L := [[(b1010, Obj.cells #[.string (mkS l1011.Path), .slice a1045 l1011.Data.length n1046, .int .i64 l1011.Version, .int .i64 l1011.Owner, .int .i64 l1011.Next, .int .i64 l1011.Born] 59 (0, 0))], c1039, F1040, [(b1024, .map es1030 clk1031)], [(b_t, Obj.cells #[.map (some b1024)] 128 (0, 0))]]) (by simp only [List.flatten_cons, List.flatten_nil, List.append_assoc, List.cons_append, List.nil_append, List.append_nil]) s1049
    have s1055 : St h g (ids [c_t]) g [[(b1024, .map es1030 clk1031)], ((b1010, .cells #[.string (mkS l1011.Path), .slice a1045 l1011.Data.length n1046, .int .i64 l1011.Version, .int .i64 l1011.Owner, .int .i64 l1011.Next, .int .i64 l1011.Born] 59 (0, 0)) :: c1039 ++ F1040 : Chunk), [(b_t, Obj.cells #[.map (some b1024)] 128 (0, 0))]] h1048 := ((s1054.front 0 rfl).front 1 rfl)
    obtain ⟨c1056, o1057, s1058⟩ : ∃ c, IsLm g b1024 t c ∧ St h g (ids [c_t]) g (c :: [[(b_t, Obj.cells #[.map (some b1024)] 128 (0, 0))]]) h1048 := ⟨_, hO1053.close hR1035 (List.Perm.refl _), St.flat (L := [(b1024, .map es1030 clk1031)] :: ((b1010, .cells #[.string (mkS l1011.Path), .slice a1045 l1011.Data.length n1046, .int .i64 l1011.Version, .int .i64 l1011.Owner, .int .i64 l1011.Next, .int .i64 l1011.Born] 59 (0, 0)) :: c1039 ++ F1040 : Chunk) :: [[(b_t, Obj.cells #[.map (some b1024)] 128 (0, 0))]]) (by simp only [List.flatten_cons, List.append_assoc, List.cons_append, List.nil_append, List.append_nil]) s1055⟩
    have s1059 : St h g (ids [c_t]) g [[(b_t, Obj.cells #[.map (some b1024)] 128 (0, 0))], c1056] h1048 := ((s1058.front 0 rfl).front 1 rfl)
    obtain ⟨c1060, o1061, s1062⟩ : ∃ c, IsTree g b_t t c ∧ St h g (ids [c_t]) g (c :: []) h1048 := ⟨_, ⟨_, _, rfl, o1057⟩, St.flat (L := [[(b_t, Obj.cells #[.map (some b1024)] 128 (0, 0))], c1056]) (by simp only [List.flatten_cons, List.append_assoc, List.cons_append, List.nil_append, List.append_nil]) s1059⟩
    refine At.ret (f := Tryz.f28) (v := .tuple #[.string (mkS []), .int .i64 (numE p l1011.Next)]) (by kernel_rfl) (by kernel_rfl) ?_
    refine hR _ _ _ _ s1062 ⟨c1060, ?_, ?_, rfl, rfl⟩
    ·exact eqT2 (eqS (by (rw [mk_2 (by assumption) (by assumption) (by assumption) (by assumption)]; done))) (eqI (by (rw [mk_2 (by assumption) (by assumption) (by assumption) (by assumption)]; done)))
    ·exact o1061.eq (by (rw [mk_2 (by assumption) (by assumption) (by assumption) (by assumption)]; done))
   ·have c1063 : (numE p l1011.Next) = (0 : Int) := bneF hb
    clear hb
    refine At.keep [0, 1, 2, 3, 4, 5, 14] ?_; show At _ _ _ [(0, .pointer (some ⟨b_t, 0, none⟩)), (1, .string (mkS (numS p l1011.Next))), (2, .slice a_data data.length n_data), (3, .int .i64 owner), (4, .int .i64 born), (5, .bool num), (14, .pointer (some ⟨b1010, 0, none⟩))] _
    refine At.reg (L := [(0, false), (1, false), (2, false), (3, false), (4, false), (5, false), (6, false), (7, false), (8, false), (9, false), (10, false)]) (by kernel_rfl) ?_
    refine Op.pures 3 [0, 1, 2, 3, 4, 5, 14, 44] (L' := [(3, false), (4, false), (5, false), (6, false), (7, false), (8, false), (9, false), (10, false)]) (e' := [(0, .pointer (some ⟨b_t, 0, none⟩)), (1, .string (mkS (numS p l1011.Next))), (2, .slice a_data data.length n_data), (3, .int .i64 owner), (4, .int .i64 born), (5, .bool num), (14, .pointer (some ⟨b1010, 0, none⟩)), (44, .pointer (some ⟨b_t, 0, none⟩))]) (by kernel_rfl) ?_
    refine Op.load (T := 126) (x := (.tmp 44)) (o := 0) (d := 45) (n := 1) (v := .map (some b1024)) (by kernel_rfl) (by kernel_rfl) (by kernel_rfl) (s1049.chunk 4 rfl) (by kernel_rfl) ?_
    refine Op.pures 1 [0, 1, 2, 3, 4, 5, 14, 45, 46] (L' := [(5, false), (6, false), (7, false), (8, false), (9, false), (10, false)]) (e' := [(0, .pointer (some ⟨b_t, 0, none⟩)), (1, .string (mkS (numS p l1011.Next))), (2, .slice a_data data.length n_data), (3, .int .i64 owner), (4, .int .i64 born), (5, .bool num), (14, .pointer (some ⟨b1010, 0, none⟩)), (45, .map (some b1024)), (46, .string (mkS (numS p l1011.Next)))]) (by kernel_rfl) ?_
    obtain ⟨ov1064, hov1065⟩ : ∃ o, lookK ks1032 (numS p l1011.Next) = o := ⟨_, rfl⟩
    have hs1066 := hO1036.look (numS p l1011.Next)
    rw [hov1065] at hs1066
    rcases ov1064 with _ | v1067
    ·have hf1068 : findL t (numS p l1011.Next) = none := by cases hq : findL t (numS p l1011.Next) with | none => rfl | some _ => (rw [hq] at hs1066; cases hs1066)
     refine Op.lookNone (ok := true) (d := .string) (mt := 126) (x := (.tmp 45)) (ix := (.tmp 46)) (dst := 47) (k := (numS p l1011.Next)) (m := b1024) (z := .pointer none) (by kernel_rfl) (by kernel_rfl) keyS (by kernel_rfl) (by kernel_rfl) (s1049.chunk 3 rfl) hR1035 hov1065 ?_
     refine Op.pures 5 [0, 1, 2, 3, 4, 5, 14, 17] (L' := []) (e' := [(0, .pointer (some ⟨b_t, 0, none⟩)), (1, .string (mkS (numS p l1011.Next))), (2, .slice a_data data.length n_data), (3, .int .i64 owner), (4, .int .i64 born), (5, .bool num), (14, .pointer (some ⟨b1010, 0, none⟩)), (17, .bool false)]) (by kernel_rfl) ?_
     refine Op.goto 14 (by kernel_rfl) ?_
     refine At.reg (L := [(0, false)]) (by kernel_rfl) ?_
     refine Op.pures 1 [0, 1, 2, 3, 4, 5, 14, 50] (L' := []) (e' := [(0, .pointer (some ⟨b_t, 0, none⟩)), (1, .string (mkS (numS p l1011.Next))), (2, .slice a_data data.length n_data), (3, .int .i64 owner), (4, .int .i64 born), (5, .bool num), (14, .pointer (some ⟨b1010, 0, none⟩)), (50, .bool false)]) (by kernel_rfl) ?_
     refine Op.goto 15 (by kernel_rfl) ?_
     refine At.condF (c := .tmp 50) (by kernel_rfl) (by kernel_rfl) (by kernel_rfl) 18 (by kernel_rfl) ?_
     refine At.reg (L := [(0, false), (1, false), (2, false), (3, false), (4, false), (5, false)]) (by kernel_rfl) ?_
     refine Op.pures 3 [0, 1, 2, 3, 4, 5, 14, 53] (L' := [(3, false), (4, false), (5, false)]) (e' := [(0, .pointer (some ⟨b_t, 0, none⟩)), (1, .string (mkS (numS p l1011.Next))), (2, .slice a_data data.length n_data), (3, .int .i64 owner), (4, .int .i64 born), (5, .bool num), (14, .pointer (some ⟨b1010, 0, none⟩)), (53, .pointer (some ⟨b_t, 0, none⟩))]) (by kernel_rfl) ?_
     refine Op.load (T := 126) (x := (.tmp 53)) (o := 0) (d := 54) (n := 1) (v := .map (some b1024)) (by kernel_rfl) (by kernel_rfl) (by kernel_rfl) (s1049.chunk 4 rfl) (by kernel_rfl) ?_
     refine Op.mapLen (d := .string) (mt := 126) (x := (.tmp 54)) (dst := 55) (m := b1024) (z := .pointer none) (by kernel_rfl) (by kernel_rfl) (by kernel_rfl) rfl (s1049.chunk 3 rfl) hR1035 hO1036.len ?_
     refine Op.pures 1 [0, 1, 2, 3, 4, 5, 14, 56] (L' := []) (e' := [(0, .pointer (some ⟨b_t, 0, none⟩)), (1, .string (mkS (numS p l1011.Next))), (2, .slice a_data data.length n_data), (3, .int .i64 owner), (4, .int .i64 born), (5, .bool num), (14, .pointer (some ⟨b1010, 0, none⟩)), (56, .bool (decide ((t.length : Int) ≥ (32 : Int))))]) (by kernel_rfl) ?_
     refine Op.goto 19 (by kernel_rfl) ?_
     refine At.cond (b := decide ((t.length : Int) ≥ (32 : Int))) (c := .tmp 56) (by kernel_rfl) (by kernel_rfl) (by kernel_rfl) 20 22 (by kernel_rfl) (by kernel_rfl) (fun hb => ?_) (fun hb => ?_)
     ·have c1069 : (t.length : Int) ≥ (32 : Int) := of_decide_eq_true hb
      clear hb
      refine At.keep [] ?_; show At _ _ _ [] _
      refine At.reg (L := [(0, false), (1, false)]) (by kernel_rfl) ?_
      refine Op.pures 2 [12, 13] (L' := []) (e' := [(12, .string (mkS [])), (13, .int .i64 104)]) (by kernel_rfl) ?_
      refine Op.goto 21 (by kernel_rfl) ?_
      have hO1070 : OpenLm ks1032 ((b1010, .cells #[.string (mkS l1011.Path), .slice a1045 l1011.Data.length n1046, .int .i64 l1011.Version, .int .i64 l1011.Owner, .int .i64 l1011.Next, .int .i64 l1011.Born] 59 (0, 0)) :: c1039 ++ F1040 : Chunk) t := by have hq := hset1043 l1011 _ _ rfl R1042; rwa [withL_same hO1036.sort (by rw [(findL_some hF1015).2]; exact hF1015)] at hq
      have s1071 : St h g (ids [c_t]) g [((b1010, .cells #[.string (mkS l1011.Path), .slice a1045 l1011.Data.length n1046, .int .i64 l1011.Version, .int .i64 l1011.Owner, .int .i64 l1011.Next, .int .i64 l1011.Born] 59 (0, 0)) :: c1039 ++ F1040 : Chunk), [(b1024, .map es1030 clk1031)], [(b_t, Obj.cells #[.map (some b1024)] 128 (0, 0))]] h1048 := St.flat (L := [[(b1010, Obj.cells #[.string (mkS l1011.Path), .slice a1045 l1011.Data.length n1046, .int .i64 l1011.Version, .int .i64 l1011.Owner, .int .i64 l1011.Next, .int .i64 l1011.Born] 59 (0, 0))], c1039, F1040, [(b1024, .map es1030 clk1031)], [(b_t, Obj.cells #[.map (some b1024)] 128 (0, 0))]]) (by simp only [List.flatten_cons, List.flatten_nil, List.append_assoc, List.cons_append, List.nil_append, List.append_nil]) s1049
      have s1072 : St h g (ids [c_t]) g [[(b1024, .map es1030 clk1031)], ((b1010, .cells #[.string (mkS l1011.Path), .slice a1045 l1011.Data.length n1046, .int .i64 l1011.Version, .int .i64 l1011.Owner, .int .i64 l1011.Next, .int .i64 l1011.Born] 59 (0, 0)) :: c1039 ++ F1040 : Chunk), [(b_t, Obj.cells #[.map (some b1024)] 128 (0, 0))]] h1048 := ((s1071.front 0 rfl).front 1 rfl)
      obtain ⟨c1073, o1074, s1075⟩ : ∃ c, IsLm g b1024 t c ∧ St h g (ids [c_t]) g (c :: [[(b_t, Obj.cells #[.map (some b1024)] 128 (0, 0))]]) h1048 := ⟨_, hO1070.close hR1035 (List.Perm.refl _), St.flat (L := [(b1024, .map es1030 clk1031)] :: ((b1010, .cells #[.string (mkS l1011.Path), .slice a1045 l1011.Data.length n1046, .int .i64 l1011.Version, .int .i64 l1011.Owner, .int .i64 l1011.Next, .int .i64 l1011.Born] 59 (0, 0)) :: c1039 ++ F1040 : Chunk) :: [[(b_t, Obj.cells #[.map (some b1024)] 128 (0, 0))]]) (by simp only [List.flatten_cons, List.append_assoc, List.cons_append, List.nil_append, List.append_nil]) s1072⟩
      have s1076 : St h g (ids [c_t]) g [[(b_t, Obj.cells #[.map (some b1024)] 128 (0, 0))], c1073] h1048 := ((s1075.front 0 rfl).front 1 rfl)
      obtain ⟨c1077, o1078, s1079⟩ : ∃ c, IsTree g b_t t c ∧ St h g (ids [c_t]) g (c :: []) h1048 := ⟨_, ⟨_, _, rfl, o1074⟩, St.flat (L := [[(b_t, Obj.cells #[.map (some b1024)] 128 (0, 0))], c1073]) (by simp only [List.flatten_cons, List.append_assoc, List.cons_append, List.nil_append, List.append_nil]) s1076⟩
      refine At.ret (f := Tryz.f28) (v := .tuple #[.string (mkS []), .int .i64 104]) (by kernel_rfl) (by kernel_rfl) ?_
      refine hR _ _ _ _ s1079 ⟨c1077, ?_, ?_, rfl, rfl⟩
      ·exact eqT2 (eqS (by (rw [mk_4 (by assumption) (by assumption) (by simp [makeE, *]) (by simp [makeN, *] <;> rfl) (by assumption) (by assumption)]; done))) (eqI (by (rw [mk_4 (by assumption) (by assumption) (by simp [makeE, *]) (by simp [makeN, *] <;> rfl) (by assumption) (by assumption)]; done)))
      ·exact o1078.eq (by (rw [mk_4 (by assumption) (by assumption) (by simp [makeE, *]) (by simp [makeN, *] <;> rfl) (by assumption) (by assumption)]; done))
     ·have c1080 : ¬ ((t.length : Int) ≥ (32 : Int)) := of_decide_eq_false hb
      clear hb
      refine At.keep [0, 1, 2, 3, 4, 5, 14] ?_; show At _ _ _ [(0, .pointer (some ⟨b_t, 0, none⟩)), (1, .string (mkS (numS p l1011.Next))), (2, .slice a_data data.length n_data), (3, .int .i64 owner), (4, .int .i64 born), (5, .bool num), (14, .pointer (some ⟨b1010, 0, none⟩))] _
      refine At.reg (L := [(0, false)]) (by kernel_rfl) ?_
      refine Op.pures 1 [0, 1, 2, 3, 4, 14, 57] (L' := []) (e' := [(0, .pointer (some ⟨b_t, 0, none⟩)), (1, .string (mkS (numS p l1011.Next))), (2, .slice a_data data.length n_data), (3, .int .i64 owner), (4, .int .i64 born), (14, .pointer (some ⟨b1010, 0, none⟩)), (57, .bool num)]) (by kernel_rfl) ?_
      refine Op.goto 23 (by kernel_rfl) ?_
      refine At.cond (b := num) (c := .tmp 57) (by kernel_rfl) (by kernel_rfl) (by kernel_rfl) 24 25 (by kernel_rfl) (by kernel_rfl) (fun hb => ?_) (fun hb => ?_)
      ·have c1081 : num = true := hb
       clear hb
       refine At.keep [0, 1, 2, 3, 4, 14] ?_; show At _ _ _ [(0, .pointer (some ⟨b_t, 0, none⟩)), (1, .string (mkS (numS p l1011.Next))), (2, .slice a_data data.length n_data), (3, .int .i64 owner), (4, .int .i64 born), (14, .pointer (some ⟨b1010, 0, none⟩))] _
       refine At.reg (L := [(0, false), (1, false), (2, false), (3, false), (4, false), (5, false), (6, false), (7, false)]) (by kernel_rfl) ?_
       refine Op.pures 3 [0, 1, 2, 3, 4, 58, 60] (L' := [(3, false), (4, false), (5, false), (6, false), (7, false)]) (e' := [(0, .pointer (some ⟨b_t, 0, none⟩)), (1, .string (mkS (numS p l1011.Next))), (2, .slice a_data data.length n_data), (3, .int .i64 owner), (4, .int .i64 born), (58, .pointer (some ⟨b1010, 0, none⟩)), (60, .pointer (some ⟨b1010, 4, none⟩))]) (by kernel_rfl) ?_
       refine Op.load (T := 3) (x := (.tmp 60)) (o := 4) (d := 61) (n := 1) (v := .int .i64 l1011.Next) (by kernel_rfl) (by kernel_rfl) (by kernel_rfl) (s1049.chunk 0 rfl) (by kernel_rfl) ?_
       refine Op.val (dst := some 62) (v := .int .i64 (IntKind.wrap .i64 (l1011.Next + 1))) (v' := .int .i64 (IntKind.wrap .i64 (l1011.Next + 1))) (by kernel_rfl) rfl ?_
       refine Op.pures 2 [0, 1, 2, 3, 4, 62, 64] (L' := [(7, false)]) (e' := [(0, .pointer (some ⟨b_t, 0, none⟩)), (1, .string (mkS (numS p l1011.Next))), (2, .slice a_data data.length n_data), (3, .int .i64 owner), (4, .int .i64 born), (62, .int .i64 (IntKind.wrap .i64 (l1011.Next + 1))), (64, .pointer (some ⟨b1010, 4, none⟩))]) (by kernel_rfl) ?_
       refine Op.store (T := 3) (x := (.tmp 64)) (y := (.tmp 62)) (b := b1010) (o := 4) (vs := [.int .i64 (IntKind.wrap .i64 (l1011.Next + 1))]) (a? := false) (n := 1) (by kernel_rfl) (by kernel_rfl) (by kernel_rfl) (by kernel_rfl) rfl (by simp [Value.oneCell']) s1049 0 rfl (Nat.le_of_ble_eq_true (by kernel_rfl)) (cs := #[.string (mkS l1011.Path), .slice a1045 l1011.Data.length n1046, .int .i64 l1011.Version, .int .i64 l1011.Owner, .int .i64 l1011.Next, .int .i64 l1011.Born]) (cs' := #[.string (mkS l1011.Path), .slice a1045 l1011.Data.length n1046, .int .i64 l1011.Version, .int .i64 l1011.Owner, .int .i64 (IntKind.wrap .i64 (l1011.Next + 1)), .int .i64 l1011.Born]) (by kernel_rfl) (fun _ => trivial) ?_
       intro h1082 s1083
       refine Op.goto 25 (by kernel_rfl) ?_
       refine At.draw (by kernel_rfl) (fun _ => False) [(0, true), (1, true), (2, true), (4, true), (5, true), (6, true), (8, true), (9, true), (10, true), (11, true), (3, true), (7, false), (12, true), (13, false), (1014, false), (14, false)] (by kernel_rfl) ?_
       refine Op.pures 7 [1, 4, 67, 69, 70, 71, 73] (L' := [(9, true), (10, true), (11, true), (3, true), (7, false), (12, true), (13, false), (1014, false), (14, false)]) (e' := [(1, .string (mkS (numS p l1011.Next))), (4, .int .i64 born), (67, .pointer (some ⟨b_t, 0, none⟩)), (69, .string (mkS (numS p l1011.Next))), (70, .string (mkS (numS p l1011.Next))), (71, .slice a_data data.length n_data), (73, .int .i64 owner)]) (by kernel_rfl) ?_
       refine Op.val (dst := some 74) (v := .int .i64 (if ((-1) : Int) > owner then ((-1) : Int) else owner)) (v' := .int .i64 (max owner ((-1) : Int))) (by kernel_rfl) (maxEq _ _) ?_
       refine Op.pures 1 [1, 67, 69, 70, 71, 74, 75] (L' := [(11, true), (3, true), (7, false), (12, true), (13, false), (1014, false), (14, false)]) (e' := [(1, .string (mkS (numS p l1011.Next))), (67, .pointer (some ⟨b_t, 0, none⟩)), (69, .string (mkS (numS p l1011.Next))), (70, .string (mkS (numS p l1011.Next))), (71, .slice a_data data.length n_data), (74, .int .i64 (max owner ((-1) : Int))), (75, .int .i64 born)]) (by kernel_rfl) ?_
       refine Op.val (dst := some 76) (v := .int .i64 (if (0 : Int) > born then (0 : Int) else born)) (v' := .int .i64 (max born (0 : Int))) (by kernel_rfl) (maxEq _ _) ?_
       refine Op.loadF (T := 126) (x := (.tmp 67)) (o := 0) (d := 68) (n := 1) (v := .map (some b1024)) (by kernel_rfl) (by kernel_rfl) (by kernel_rfl) (fun h => h) (s1083.chunk 4 rfl) (by kernel_rfl) ?_
       refine Op.call0 (dst := some 72) (f := 74) (args := #[.slice a_data data.length n_data]) (by kernel_rfl) s1083 (cloneB _ _ _ s1083.sub hG _ _ h_data (by ((try dsimp only) <;> (omega))) ) ?_
       rintro _ g1091 _ h1084 hle1092 s1085 ⟨v1086, ch1087, rfl, R1088, hgg, rfl⟩; subst g1091; clear hle1092
       obtain ⟨a1089, n1090, rfl⟩ := R1088.form
       refine Op.pures 1 [1, 68, 69, 77] (L' := [(13, false), (1014, false), (14, false)]) (e' := [(1, .string (mkS (numS p l1011.Next))), (68, .map (some b1024)), (69, .string (mkS (numS p l1011.Next))), (77, .agg #[.string (mkS (numS p l1011.Next)), .slice a1089 ((data).length) n1090, .int .i64 0, .int .i64 (max owner ((-1) : Int)), .int .i64 0, .int .i64 (max born (0 : Int))])]) (by kernel_rfl) ?_
       refine Op.box (T := 59) (x := (.tmp 77)) (d := 78) (cs := #[.string (mkS (numS p l1011.Next)), .slice a1089 ((data).length) n1090, .int .i64 0, .int .i64 (max owner ((-1) : Int)), .int .i64 0, .int .i64 (max born (0 : Int))]) (by kernel_rfl) (by kernel_rfl) s1085 ?_
       intro b1093 h1094 s1095
       refine Op.barrier (by kernel_rfl) ?_
       have hO1096 : OpenLm ks1032 ((b1010, .cells #[.string (mkS l1011.Path), .slice a1045 l1011.Data.length n1046, .int .i64 l1011.Version, .int .i64 l1011.Owner, .int .i64 (IntKind.wrap .i64 (l1011.Next + 1)), .int .i64 l1011.Born] 59 (0, 0)) :: c1039 ++ F1040 : Chunk) (withL t (⟨l1011.Path, l1011.Data, l1011.Version, l1011.Owner, IntKind.wrap .i64 (l1011.Next + 1), l1011.Born⟩ : Leaf)) := hset1043 (⟨l1011.Path, l1011.Data, l1011.Version, l1011.Owner, IntKind.wrap .i64 (l1011.Next + 1), l1011.Born⟩ : Leaf) _ _ rfl R1042
       have s1098 : St h g (ids [c_t]) g [[(b1010, Obj.cells #[.string (mkS l1011.Path), .slice a1045 l1011.Data.length n1046, .int .i64 l1011.Version, .int .i64 l1011.Owner, .int .i64 (IntKind.wrap .i64 (l1011.Next + 1)), .int .i64 l1011.Born] 59 (0, 0))], c1039, F1040, [(b1093, Obj.cells #[.string (mkS (numS p l1011.Next)), .slice a1089 ((data).length) n1090, .int .i64 0, .int .i64 (max owner ((-1) : Int)), .int .i64 0, .int .i64 (max born (0 : Int))] 59 (0, 0))], ch1087, [(b1024, .map es1030 clk1031)], [(b_t, Obj.cells #[.map (some b1024)] 128 (0, 0))]] h1094 := (((((s1095.front 1 rfl).front 1 rfl).front 4 rfl).front 4 rfl).front 4 rfl)
       have s1097 : St h g (ids [c_t]) g [((b1010, .cells #[.string (mkS l1011.Path), .slice a1045 l1011.Data.length n1046, .int .i64 l1011.Version, .int .i64 l1011.Owner, .int .i64 (IntKind.wrap .i64 (l1011.Next + 1)), .int .i64 l1011.Born] 59 (0, 0)) :: c1039 ++ F1040 : Chunk), [(b1093, Obj.cells #[.string (mkS (numS p l1011.Next)), .slice a1089 ((data).length) n1090, .int .i64 0, .int .i64 (max owner ((-1) : Int)), .int .i64 0, .int .i64 (max born (0 : Int))] 59 (0, 0))], ch1087, [(b1024, .map es1030 clk1031)], [(b_t, Obj.cells #[.map (some b1024)] 128 (0, 0))]] h1094 := St.flat (L := [[(b1010, Obj.cells #[.string (mkS l1011.Path), .slice a1045 l1011.Data.length n1046, .int .i64 l1011.Version, .int .i64 l1011.Owner, .int .i64 (IntKind.wrap .i64 (l1011.Next + 1)), .int .i64 l1011.Born] 59 (0, 0))], c1039, F1040, [(b1093, Obj.cells #[.string (mkS (numS p l1011.Next)), .slice a1089 ((data).length) n1090, .int .i64 0, .int .i64 (max owner ((-1) : Int)), .int .i64 0, .int .i64 (max born (0 : Int))] 59 (0, 0))], ch1087, [(b1024, .map es1030 clk1031)], [(b_t, Obj.cells #[.map (some b1024)] 128 (0, 0))]]) (by simp only [List.flatten_cons, List.flatten_nil, List.append_assoc, List.cons_append, List.nil_append, List.append_nil]) s1098
       refine Op.mapSet (d := .string) (z := .pointer none) (mt := 126) (x := (.tmp 68)) (ix := (.tmp 69)) (y := (.tmp 78)) (k := (numS p l1011.Next)) (v := .pointer (some ⟨b1093, 0, none⟩)) (.inl (by kernel_rfl)) (by kernel_rfl) keyS (by kernel_rfl) (by kernel_rfl) (by kernel_rfl) s1097 3 rfl hR1035 (fun _ => trivial) ?_
       intro es1099 clk1100 h1101 hR1102 s1103
       have hO1104 : OpenLm (updK ks1032 (numS p l1011.Next) (.pointer (some ⟨b1093, 0, none⟩))) ((b1093, .cells #[.string (mkS (numS p l1011.Next)), .slice a1089 ((data).length) n1090, .int .i64 0, .int .i64 (max owner ((-1) : Int)), .int .i64 0, .int .i64 (max born (0 : Int))] 59 (0, 0)) :: ch1087 ++ ((b1010, .cells #[.string (mkS l1011.Path), .slice a1045 l1011.Data.length n1046, .int .i64 l1011.Version, .int .i64 l1011.Owner, .int .i64 (IntKind.wrap .i64 (l1011.Next + 1)), .int .i64 l1011.Born] 59 (0, 0)) :: c1039 ++ F1040 : Chunk) : Chunk) (withL (withL t (⟨l1011.Path, l1011.Data, l1011.Version, l1011.Owner, IntKind.wrap .i64 (l1011.Next + 1), l1011.Born⟩ : Leaf)) (⟨numS p l1011.Next, data, 0, max owner ((-1) : Int), 0, max born (0 : Int)⟩ : Leaf)) := hO1096.ins (g := g) (l := (⟨numS p l1011.Next, data, 0, max owner ((-1) : Int), 0, max born (0 : Int)⟩ : Leaf)) (by exact with_none2 (p := parentOf p) (by assumption) (by assumption) _) R1088 (by exact numS_le _ _)
       have s1106 : St h g (ids [c_t]) g [[(b1024, .map es1099 clk1100)], [(b1093, Obj.cells #[.string (mkS (numS p l1011.Next)), .slice a1089 ((data).length) n1090, .int .i64 0, .int .i64 (max owner ((-1) : Int)), .int .i64 0, .int .i64 (max born (0 : Int))] 59 (0, 0))], ch1087, ((b1010, .cells #[.string (mkS l1011.Path), .slice a1045 l1011.Data.length n1046, .int .i64 l1011.Version, .int .i64 l1011.Owner, .int .i64 (IntKind.wrap .i64 (l1011.Next + 1)), .int .i64 l1011.Born] 59 (0, 0)) :: c1039 ++ F1040 : Chunk), [(b_t, Obj.cells #[.map (some b1024)] 128 (0, 0))]] h1101 := ((((s1103.front 0 rfl).front 2 rfl).front 2 rfl).front 3 rfl)
       have s1105 : St h g (ids [c_t]) g [[(b1024, .map es1099 clk1100)], ((b1093, .cells #[.string (mkS (numS p l1011.Next)), .slice a1089 ((data).length) n1090, .int .i64 0, .int .i64 (max owner ((-1) : Int)), .int .i64 0, .int .i64 (max born (0 : Int))] 59 (0, 0)) :: ch1087 ++ ((b1010, .cells #[.string (mkS l1011.Path), .slice a1045 l1011.Data.length n1046, .int .i64 l1011.Version, .int .i64 l1011.Owner, .int .i64 (IntKind.wrap .i64 (l1011.Next + 1)), .int .i64 l1011.Born] 59 (0, 0)) :: c1039 ++ F1040 : Chunk) : Chunk), [(b_t, Obj.cells #[.map (some b1024)] 128 (0, 0))]] h1101 := St.flat (L := [[(b1024, .map es1099 clk1100)], [(b1093, Obj.cells #[.string (mkS (numS p l1011.Next)), .slice a1089 ((data).length) n1090, .int .i64 0, .int .i64 (max owner ((-1) : Int)), .int .i64 0, .int .i64 (max born (0 : Int))] 59 (0, 0))], ch1087, ((b1010, .cells #[.string (mkS l1011.Path), .slice a1045 l1011.Data.length n1046, .int .i64 l1011.Version, .int .i64 l1011.Owner, .int .i64 (IntKind.wrap .i64 (l1011.Next + 1)), .int .i64 l1011.Born] 59 (0, 0)) :: c1039 ++ F1040 : Chunk), [(b_t, Obj.cells #[.map (some b1024)] 128 (0, 0))]]) (by simp only [List.flatten_cons, List.flatten_nil, List.append_assoc, List.cons_append, List.nil_append, List.append_nil]) s1106
       refine Op.goto 26 (by kernel_rfl) ?_
       refine At.reg (L := [(0, false), (1, false), (2, false)]) (by kernel_rfl) ?_
       refine Op.pures 3 [12, 13] (L' := []) (e' := [(12, .string (mkS (numS p l1011.Next))), (13, .int .i64 0)]) (by kernel_rfl) ?_
       refine Op.goto 27 (by kernel_rfl) ?_
       obtain ⟨c1107, o1108, s1109⟩ : ∃ c, IsLm g b1024 (withL (withL t (⟨l1011.Path, l1011.Data, l1011.Version, l1011.Owner, IntKind.wrap .i64 (l1011.Next + 1), l1011.Born⟩ : Leaf)) (⟨numS p l1011.Next, data, 0, max owner ((-1) : Int), 0, max born (0 : Int)⟩ : Leaf)) c ∧ St h g (ids [c_t]) g (c :: [[(b_t, Obj.cells #[.map (some b1024)] 128 (0, 0))]]) h1101 := ⟨_, hO1104.close hR1102 (List.Perm.refl _), St.flat (L := [(b1024, .map es1099 clk1100)] :: ((b1093, .cells #[.string (mkS (numS p l1011.Next)), .slice a1089 ((data).length) n1090, .int .i64 0, .int .i64 (max owner ((-1) : Int)), .int .i64 0, .int .i64 (max born (0 : Int))] 59 (0, 0)) :: ch1087 ++ ((b1010, .cells #[.string (mkS l1011.Path), .slice a1045 l1011.Data.length n1046, .int .i64 l1011.Version, .int .i64 l1011.Owner, .int .i64 (IntKind.wrap .i64 (l1011.Next + 1)), .int .i64 l1011.Born] 59 (0, 0)) :: c1039 ++ F1040 : Chunk) : Chunk) :: [[(b_t, Obj.cells #[.map (some b1024)] 128 (0, 0))]]) (by simp only [List.flatten_cons, List.append_assoc, List.cons_append, List.nil_append, List.append_nil]) s1105⟩
       have s1110 : St h g (ids [c_t]) g [[(b_t, Obj.cells #[.map (some b1024)] 128 (0, 0))], c1107] h1101 := ((s1109.front 0 rfl).front 1 rfl)
       obtain ⟨c1111, o1112, s1113⟩ : ∃ c, IsTree g b_t (withL (withL t (⟨l1011.Path, l1011.Data, l1011.Version, l1011.Owner, IntKind.wrap .i64 (l1011.Next + 1), l1011.Born⟩ : Leaf)) (⟨numS p l1011.Next, data, 0, max owner ((-1) : Int), 0, max born (0 : Int)⟩ : Leaf)) c ∧ St h g (ids [c_t]) g (c :: []) h1101 := ⟨_, ⟨_, _, rfl, o1108⟩, St.flat (L := [[(b_t, Obj.cells #[.map (some b1024)] 128 (0, 0))], c1107]) (by simp only [List.flatten_cons, List.append_assoc, List.cons_append, List.nil_append, List.append_nil]) s1110⟩
       refine At.ret (f := Tryz.f28) (v := .tuple #[.string (mkS (numS p l1011.Next)), .int .i64 0]) (by kernel_rfl) (by kernel_rfl) ?_
       refine hR _ _ _ _ s1113 ⟨c1111, ?_, ?_, rfl, rfl⟩
       ·exact eqT2 (eqS (by (rw [mk_5 (by assumption) (by assumption) (by simp [makeE, *]) (by simp [makeN, *] <;> rfl) (by assumption) (by assumption)]; done))) (eqI (by (rw [mk_5 (by assumption) (by assumption) (by simp [makeE, *]) (by simp [makeN, *] <;> rfl) (by assumption) (by assumption)]; done)))
       ·exact o1112.eq (by (rw [mk_5 (by assumption) (by assumption) (by simp [makeE, *]) (by simp [makeN, *] <;> rfl) (by assumption) (by assumption)]; exact (madeL_1 (by assumption)).symm))
      ·exact Bool.noConfusion (c1023.symm.trans hb)
    ·have hf1114 : (findL t (numS p l1011.Next)).isSome = true := hs1066.symm
     refine Op.lookSome (ok := true) (d := .string) (mt := 126) (x := (.tmp 45)) (ix := (.tmp 46)) (dst := 47) (k := (numS p l1011.Next)) (m := b1024) (z := .pointer none) (by kernel_rfl) (by kernel_rfl) keyS (by kernel_rfl) (by kernel_rfl) (s1049.chunk 3 rfl) hR1035 hov1065 ?_
     refine Op.pures 5 [0, 1, 2, 3, 4, 5, 14, 17] (L' := []) (e' := [(0, .pointer (some ⟨b_t, 0, none⟩)), (1, .string (mkS (numS p l1011.Next))), (2, .slice a_data data.length n_data), (3, .int .i64 owner), (4, .int .i64 born), (5, .bool num), (14, .pointer (some ⟨b1010, 0, none⟩)), (17, .bool true)]) (by kernel_rfl) ?_
     refine Op.goto 14 (by kernel_rfl) ?_
     refine At.reg (L := [(0, false)]) (by kernel_rfl) ?_
     refine Op.pures 1 [0, 1, 2, 3, 4, 5, 14, 50] (L' := []) (e' := [(0, .pointer (some ⟨b_t, 0, none⟩)), (1, .string (mkS (numS p l1011.Next))), (2, .slice a_data data.length n_data), (3, .int .i64 owner), (4, .int .i64 born), (5, .bool num), (14, .pointer (some ⟨b1010, 0, none⟩)), (50, .bool true)]) (by kernel_rfl) ?_
     refine Op.goto 15 (by kernel_rfl) ?_
     refine At.condT (c := .tmp 50) (by kernel_rfl) (by kernel_rfl) (by kernel_rfl) 16 (by kernel_rfl) ?_
     refine At.reg (L := [(0, false), (1, false)]) (by kernel_rfl) ?_
     refine Op.pures 2 [12, 13] (L' := []) (e' := [(12, .string (mkS [])), (13, .int .i64 101)]) (by kernel_rfl) ?_
     refine Op.goto 17 (by kernel_rfl) ?_
     have hO1115 : OpenLm ks1032 ((b1010, .cells #[.string (mkS l1011.Path), .slice a1045 l1011.Data.length n1046, .int .i64 l1011.Version, .int .i64 l1011.Owner, .int .i64 l1011.Next, .int .i64 l1011.Born] 59 (0, 0)) :: c1039 ++ F1040 : Chunk) t := by have hq := hset1043 l1011 _ _ rfl R1042; rwa [withL_same hO1036.sort (by rw [(findL_some hF1015).2]; exact hF1015)] at hq
     have s1116 : St h g (ids [c_t]) g [((b1010, .cells #[.string (mkS l1011.Path), .slice a1045 l1011.Data.length n1046, .int .i64 l1011.Version, .int .i64 l1011.Owner, .int .i64 l1011.Next, .int .i64 l1011.Born] 59 (0, 0)) :: c1039 ++ F1040 : Chunk), [(b1024, .map es1030 clk1031)], [(b_t, Obj.cells #[.map (some b1024)] 128 (0, 0))]] h1048 := St.flat (L := [[(b1010, Obj.cells #[.string (mkS l1011.Path), .slice a1045 l1011.Data.length n1046, .int .i64 l1011.Version, .int .i64 l1011.Owner, .int .i64 l1011.Next, .int .i64 l1011.Born] 59 (0, 0))], c1039, F1040, [(b1024, .map es1030 clk1031)], [(b_t, Obj.cells #[.map (some b1024)] 128 (0, 0))]]) (by simp only [List.flatten_cons, List.flatten_nil, List.append_assoc, List.cons_append, List.nil_append, List.append_nil]) s1049
     have s1117 : St h g (ids [c_t]) g [[(b1024, .map es1030 clk1031)], ((b1010, .cells #[.string (mkS l1011.Path), .slice a1045 l1011.Data.length n1046, .int .i64 l1011.Version, .int .i64 l1011.Owner, .int .i64 l1011.Next, .int .i64 l1011.Born] 59 (0, 0)) :: c1039 ++ F1040 : Chunk), [(b_t, Obj.cells #[.map (some b1024)] 128 (0, 0))]] h1048 := ((s1116.front 0 rfl).front 1 rfl)
     obtain ⟨c1118, o1119, s1120⟩ : ∃ c, IsLm g b1024 t c ∧ St h g (ids [c_t]) g (c :: [[(b_t, Obj.cells #[.map (some b1024)] 128 (0, 0))]]) h1048 := ⟨_, hO1115.close hR1035 (List.Perm.refl _), St.flat (L := [(b1024, .map es1030 clk1031)] :: ((b1010, .cells #[.string (mkS l1011.Path), .slice a1045 l1011.Data.length n1046, .int .i64 l1011.Version, .int .i64 l1011.Owner, .int .i64 l1011.Next, .int .i64 l1011.Born] 59 (0, 0)) :: c1039 ++ F1040 : Chunk) :: [[(b_t, Obj.cells #[.map (some b1024)] 128 (0, 0))]]) (by simp only [List.flatten_cons, List.append_assoc, List.cons_append, List.nil_append, List.append_nil]) s1117⟩
     have s1121 : St h g (ids [c_t]) g [[(b_t, Obj.cells #[.map (some b1024)] 128 (0, 0))], c1118] h1048 := ((s1120.front 0 rfl).front 1 rfl)
     obtain ⟨c1122, o1123, s1124⟩ : ∃ c, IsTree g b_t t c ∧ St h g (ids [c_t]) g (c :: []) h1048 := ⟨_, ⟨_, _, rfl, o1119⟩, St.flat (L := [[(b_t, Obj.cells #[.map (some b1024)] 128 (0, 0))], c1118]) (by simp only [List.flatten_cons, List.append_assoc, List.cons_append, List.nil_append, List.append_nil]) s1121⟩
     refine At.ret (f := Tryz.f28) (v := .tuple #[.string (mkS []), .int .i64 101]) (by kernel_rfl) (by kernel_rfl) ?_
     refine hR _ _ _ _ s1124 ⟨c1122, ?_, ?_, rfl, rfl⟩
     ·exact eqT2 (eqS (by (rw [mk_3 (by assumption) (by assumption) (by simp [makeE, *]) (by simp [makeN, *] <;> rfl) (by assumption)]; done))) (eqI (by (rw [mk_3 (by assumption) (by assumption) (by simp [makeE, *]) (by simp [makeN, *] <;> rfl) (by assumption)]; done)))
     ·exact o1123.eq (by (rw [mk_3 (by assumption) (by assumption) (by simp [makeE, *]) (by simp [makeN, *] <;> rfl) (by assumption)]; done))
  ·have c1125 : num = false := hb
   clear hb
   refine At.keep [0, 1, 2, 3, 4, 5, 14] ?_; show At _ _ _ [(0, .pointer (some ⟨b_t, 0, none⟩)), (1, .string (mkS p)), (2, .slice a_data data.length n_data), (3, .int .i64 owner), (4, .int .i64 born), (5, .bool num), (14, .pointer (some ⟨b1010, 0, none⟩))] _
   refine At.reg (L := [(0, false), (1, false), (2, false), (3, false), (4, false), (5, false), (6, false), (7, false), (8, false), (9, false), (10, false)]) (by kernel_rfl) ?_
   refine Op.pures 3 [0, 1, 2, 3, 4, 5, 14, 44] (L' := [(3, false), (4, false), (5, false), (6, false), (7, false), (8, false), (9, false), (10, false)]) (e' := [(0, .pointer (some ⟨b_t, 0, none⟩)), (1, .string (mkS p)), (2, .slice a_data data.length n_data), (3, .int .i64 owner), (4, .int .i64 born), (5, .bool num), (14, .pointer (some ⟨b1010, 0, none⟩)), (44, .pointer (some ⟨b_t, 0, none⟩))]) (by kernel_rfl) ?_
   obtain ⟨b1126, c1127, e1128, R1129⟩ := o_t
   have s1130 : St h g (ids [c_t]) g [[(b_t, Obj.cells #[.map (some b1126)] 128 (0, 0))], c1127] h1003 := St.flat (L := [c_t]) (by rw [e1128]; simp only [List.flatten_cons, List.append_assoc, List.cons_append, List.nil_append, List.append_nil]) s1004
   refine Op.load (T := 126) (x := (.tmp 44)) (o := 0) (d := 45) (n := 1) (v := .map (some b1126)) (by kernel_rfl) (by kernel_rfl) (by kernel_rfl) (s1130.chunk 0 rfl) (by kernel_rfl) ?_
   refine Op.pures 1 [0, 1, 2, 3, 4, 5, 14, 45, 46] (L' := [(5, false), (6, false), (7, false), (8, false), (9, false), (10, false)]) (e' := [(0, .pointer (some ⟨b_t, 0, none⟩)), (1, .string (mkS p)), (2, .slice a_data data.length n_data), (3, .int .i64 owner), (4, .int .i64 born), (5, .bool num), (14, .pointer (some ⟨b1010, 0, none⟩)), (45, .map (some b1126)), (46, .string (mkS p))]) (by kernel_rfl) ?_
   have s1131 : St h g (ids [c_t]) g [c1127, [(b_t, Obj.cells #[.map (some b1126)] 128 (0, 0))]] h1003 := ((s1130.front 0 rfl).front 1 rfl)
   obtain ⟨es1132, clk1133, ks1134, F1135, hp1136, hR1137, hO1138⟩ := IsLm.open_ R1129
   have s1139 : St h g (ids [c_t]) g ([(b1126, .map es1132 clk1133)] :: F1135 :: [[(b_t, Obj.cells #[.map (some b1126)] 128 (0, 0))]]) h1003 := St.permF (L := c1127 :: [[(b_t, Obj.cells #[.map (some b1126)] 128 (0, 0))]]) (hp1136.append_right _) s1131
   obtain ⟨ov1140, hov1141⟩ : ∃ o, lookK ks1134 p = o := ⟨_, rfl⟩
   have hs1142 := hO1138.look p
   rw [hov1141] at hs1142
   rcases ov1140 with _ | v1143
   ·have hf1144 : findL t p = none := by cases hq : findL t p with | none => rfl | some _ => (rw [hq] at hs1142; cases hs1142)
    refine Op.lookNone (ok := true) (d := .string) (mt := 126) (x := (.tmp 45)) (ix := (.tmp 46)) (dst := 47) (k := p) (m := b1126) (z := .pointer none) (by kernel_rfl) (by kernel_rfl) keyS (by kernel_rfl) (by kernel_rfl) (s1139.chunk 0 rfl) hR1137 hov1141 ?_
    refine Op.pures 5 [0, 1, 2, 3, 4, 5, 14, 17] (L' := []) (e' := [(0, .pointer (some ⟨b_t, 0, none⟩)), (1, .string (mkS p)), (2, .slice a_data data.length n_data), (3, .int .i64 owner), (4, .int .i64 born), (5, .bool num), (14, .pointer (some ⟨b1010, 0, none⟩)), (17, .bool false)]) (by kernel_rfl) ?_
    refine Op.goto 14 (by kernel_rfl) ?_
    refine At.reg (L := [(0, false)]) (by kernel_rfl) ?_
    refine Op.pures 1 [0, 1, 2, 3, 4, 5, 14, 50] (L' := []) (e' := [(0, .pointer (some ⟨b_t, 0, none⟩)), (1, .string (mkS p)), (2, .slice a_data data.length n_data), (3, .int .i64 owner), (4, .int .i64 born), (5, .bool num), (14, .pointer (some ⟨b1010, 0, none⟩)), (50, .bool false)]) (by kernel_rfl) ?_
    refine Op.goto 15 (by kernel_rfl) ?_
    refine At.condF (c := .tmp 50) (by kernel_rfl) (by kernel_rfl) (by kernel_rfl) 18 (by kernel_rfl) ?_
    refine At.reg (L := [(0, false), (1, false), (2, false), (3, false), (4, false), (5, false)]) (by kernel_rfl) ?_
    refine Op.pures 3 [0, 1, 2, 3, 4, 5, 14, 53] (L' := [(3, false), (4, false), (5, false)]) (e' := [(0, .pointer (some ⟨b_t, 0, none⟩)), (1, .string (mkS p)), (2, .slice a_data data.length n_data), (3, .int .i64 owner), (4, .int .i64 born), (5, .bool num), (14, .pointer (some ⟨b1010, 0, none⟩)), (53, .pointer (some ⟨b_t, 0, none⟩))]) (by kernel_rfl) ?_
    refine Op.load (T := 126) (x := (.tmp 53)) (o := 0) (d := 54) (n := 1) (v := .map (some b1126)) (by kernel_rfl) (by kernel_rfl) (by kernel_rfl) (s1139.chunk 2 rfl) (by kernel_rfl) ?_
    refine Op.mapLen (d := .string) (mt := 126) (x := (.tmp 54)) (dst := 55) (m := b1126) (z := .pointer none) (by kernel_rfl) (by kernel_rfl) (by kernel_rfl) rfl (s1139.chunk 0 rfl) hR1137 hO1138.len ?_
    refine Op.pures 1 [0, 1, 2, 3, 4, 5, 14, 56] (L' := []) (e' := [(0, .pointer (some ⟨b_t, 0, none⟩)), (1, .string (mkS p)), (2, .slice a_data data.length n_data), (3, .int .i64 owner), (4, .int .i64 born), (5, .bool num), (14, .pointer (some ⟨b1010, 0, none⟩)), (56, .bool (decide ((t.length : Int) ≥ (32 : Int))))]) (by kernel_rfl) ?_
    refine Op.goto 19 (by kernel_rfl) ?_
    refine At.cond (b := decide ((t.length : Int) ≥ (32 : Int))) (c := .tmp 56) (by kernel_rfl) (by kernel_rfl) (by kernel_rfl) 20 22 (by kernel_rfl) (by kernel_rfl) (fun hb => ?_) (fun hb => ?_)
    ·have c1145 : (t.length : Int) ≥ (32 : Int) := of_decide_eq_true hb
     clear hb
     refine At.keep [] ?_; show At _ _ _ [] _
     refine At.reg (L := [(0, false), (1, false)]) (by kernel_rfl) ?_
     refine Op.pures 2 [12, 13] (L' := []) (e' := [(12, .string (mkS [])), (13, .int .i64 104)]) (by kernel_rfl) ?_
     refine Op.goto 21 (by kernel_rfl) ?_
     obtain ⟨c1146, o1147, s1148⟩ : ∃ c, IsLm g b1126 t c ∧ St h g (ids [c_t]) g (c :: [[(b_t, Obj.cells #[.map (some b1126)] 128 (0, 0))]]) h1003 := ⟨_, hO1138.close hR1137 (List.Perm.refl _), St.flat (L := [(b1126, .map es1132 clk1133)] :: F1135 :: [[(b_t, Obj.cells #[.map (some b1126)] 128 (0, 0))]]) (by simp only [List.flatten_cons, List.append_assoc, List.cons_append, List.nil_append, List.append_nil]) s1139⟩
     have s1149 : St h g (ids [c_t]) g [[(b_t, Obj.cells #[.map (some b1126)] 128 (0, 0))], c1146] h1003 := ((s1148.front 0 rfl).front 1 rfl)
     obtain ⟨c1150, o1151, s1152⟩ : ∃ c, IsTree g b_t t c ∧ St h g (ids [c_t]) g (c :: []) h1003 := ⟨_, ⟨_, _, rfl, o1147⟩, St.flat (L := [[(b_t, Obj.cells #[.map (some b1126)] 128 (0, 0))], c1146]) (by simp only [List.flatten_cons, List.append_assoc, List.cons_append, List.nil_append, List.append_nil]) s1149⟩
     refine At.ret (f := Tryz.f28) (v := .tuple #[.string (mkS []), .int .i64 104]) (by kernel_rfl) (by kernel_rfl) ?_
     refine hR _ _ _ _ s1152 ⟨c1150, ?_, ?_, rfl, rfl⟩
     ·exact eqT2 (eqS (by (rw [mk_4 (by assumption) (by assumption) (by simp [makeE, *]) (by simp [makeN, *] <;> rfl) (by assumption) (by assumption)]; done))) (eqI (by (rw [mk_4 (by assumption) (by assumption) (by simp [makeE, *]) (by simp [makeN, *] <;> rfl) (by assumption) (by assumption)]; done)))
     ·exact o1151.eq (by (rw [mk_4 (by assumption) (by assumption) (by simp [makeE, *]) (by simp [makeN, *] <;> rfl) (by assumption) (by assumption)]; done))
    ·have c1153 : ¬ ((t.length : Int) ≥ (32 : Int)) := of_decide_eq_false hb
     clear hb
     refine At.keep [0, 1, 2, 3, 4, 5, 14] ?_; show At _ _ _ [(0, .pointer (some ⟨b_t, 0, none⟩)), (1, .string (mkS p)), (2, .slice a_data data.length n_data), (3, .int .i64 owner), (4, .int .i64 born), (5, .bool num), (14, .pointer (some ⟨b1010, 0, none⟩))] _
     refine At.reg (L := [(0, false)]) (by kernel_rfl) ?_
     refine Op.pures 1 [0, 1, 2, 3, 4, 14, 57] (L' := []) (e' := [(0, .pointer (some ⟨b_t, 0, none⟩)), (1, .string (mkS p)), (2, .slice a_data data.length n_data), (3, .int .i64 owner), (4, .int .i64 born), (14, .pointer (some ⟨b1010, 0, none⟩)), (57, .bool num)]) (by kernel_rfl) ?_
     refine Op.goto 23 (by kernel_rfl) ?_
     refine At.cond (b := num) (c := .tmp 57) (by kernel_rfl) (by kernel_rfl) (by kernel_rfl) 24 25 (by kernel_rfl) (by kernel_rfl) (fun hb => ?_) (fun hb => ?_)
     ·exact Bool.noConfusion (hb.symm.trans c1125)
     ·have c1154 : num = false := hb
      clear hb
      refine At.keep [0, 1, 2, 3, 4] ?_; show At _ _ _ [(0, .pointer (some ⟨b_t, 0, none⟩)), (1, .string (mkS p)), (2, .slice a_data data.length n_data), (3, .int .i64 owner), (4, .int .i64 born)] _
      refine At.draw (by kernel_rfl) (fun _ => False) [(0, true), (1, true), (2, true), (4, true), (5, true), (6, true), (8, true), (9, true), (10, true), (11, true), (3, true), (7, false), (12, true), (13, false), (1014, false), (14, false)] (by kernel_rfl) ?_
      refine Op.pures 7 [1, 4, 67, 69, 70, 71, 73] (L' := [(9, true), (10, true), (11, true), (3, true), (7, false), (12, true), (13, false), (1014, false), (14, false)]) (e' := [(1, .string (mkS p)), (4, .int .i64 born), (67, .pointer (some ⟨b_t, 0, none⟩)), (69, .string (mkS p)), (70, .string (mkS p)), (71, .slice a_data data.length n_data), (73, .int .i64 owner)]) (by kernel_rfl) ?_
      refine Op.val (dst := some 74) (v := .int .i64 (if ((-1) : Int) > owner then ((-1) : Int) else owner)) (v' := .int .i64 (max owner ((-1) : Int))) (by kernel_rfl) (maxEq _ _) ?_
      refine Op.pures 1 [1, 67, 69, 70, 71, 74, 75] (L' := [(11, true), (3, true), (7, false), (12, true), (13, false), (1014, false), (14, false)]) (e' := [(1, .string (mkS p)), (67, .pointer (some ⟨b_t, 0, none⟩)), (69, .string (mkS p)), (70, .string (mkS p)), (71, .slice a_data data.length n_data), (74, .int .i64 (max owner ((-1) : Int))), (75, .int .i64 born)]) (by kernel_rfl) ?_
      refine Op.val (dst := some 76) (v := .int .i64 (if (0 : Int) > born then (0 : Int) else born)) (v' := .int .i64 (max born (0 : Int))) (by kernel_rfl) (maxEq _ _) ?_
      refine Op.loadF (T := 126) (x := (.tmp 67)) (o := 0) (d := 68) (n := 1) (v := .map (some b1126)) (by kernel_rfl) (by kernel_rfl) (by kernel_rfl) (fun h => h) (s1139.chunk 2 rfl) (by kernel_rfl) ?_
      refine Op.call0 (dst := some 72) (f := 74) (args := #[.slice a_data data.length n_data]) (by kernel_rfl) s1139 (cloneB _ _ _ s1139.sub hG _ _ h_data (by ((try dsimp only) <;> (omega))) ) ?_
      rintro _ g1162 _ h1155 hle1163 s1156 ⟨v1157, ch1158, rfl, R1159, hgg, rfl⟩; subst g1162; clear hle1163
      obtain ⟨a1160, n1161, rfl⟩ := R1159.form
      refine Op.pures 1 [1, 68, 69, 77] (L' := [(13, false), (1014, false), (14, false)]) (e' := [(1, .string (mkS p)), (68, .map (some b1126)), (69, .string (mkS p)), (77, .agg #[.string (mkS p), .slice a1160 ((data).length) n1161, .int .i64 0, .int .i64 (max owner ((-1) : Int)), .int .i64 0, .int .i64 (max born (0 : Int))])]) (by kernel_rfl) ?_
      refine Op.box (T := 59) (x := (.tmp 77)) (d := 78) (cs := #[.string (mkS p), .slice a1160 ((data).length) n1161, .int .i64 0, .int .i64 (max owner ((-1) : Int)), .int .i64 0, .int .i64 (max born (0 : Int))]) (by kernel_rfl) (by kernel_rfl) s1156 ?_
      intro b1164 h1165 s1166
      refine Op.barrier (by kernel_rfl) ?_
      refine Op.mapSet (d := .string) (z := .pointer none) (mt := 126) (x := (.tmp 68)) (ix := (.tmp 69)) (y := (.tmp 78)) (k := p) (v := .pointer (some ⟨b1164, 0, none⟩)) (.inl (by kernel_rfl)) (by kernel_rfl) keyS (by kernel_rfl) (by kernel_rfl) (by kernel_rfl) s1166 2 rfl hR1137 (fun _ => trivial) ?_
      intro es1167 clk1168 h1169 hR1170 s1171
      have hO1172 : OpenLm (updK ks1134 p (.pointer (some ⟨b1164, 0, none⟩))) ((b1164, .cells #[.string (mkS p), .slice a1160 ((data).length) n1161, .int .i64 0, .int .i64 (max owner ((-1) : Int)), .int .i64 0, .int .i64 (max born (0 : Int))] 59 (0, 0)) :: ch1158 ++ F1135 : Chunk) (withL t (⟨p, data, 0, max owner ((-1) : Int), 0, max born (0 : Int)⟩ : Leaf)) := hO1138.ins (g := g) (l := (⟨p, data, 0, max owner ((-1) : Int), 0, max born (0 : Int)⟩ : Leaf)) (by assumption) R1159 (by exact cut_len (par_0 (by assumption) (by assumption)).1)
      have s1174 : St h g (ids [c_t]) g [[(b1126, .map es1167 clk1168)], [(b1164, Obj.cells #[.string (mkS p), .slice a1160 ((data).length) n1161, .int .i64 0, .int .i64 (max owner ((-1) : Int)), .int .i64 0, .int .i64 (max born (0 : Int))] 59 (0, 0))], ch1158, F1135, [(b_t, Obj.cells #[.map (some b1126)] 128 (0, 0))]] h1169 := (((s1171.front 1 rfl).front 1 rfl).front 2 rfl)
      have s1173 : St h g (ids [c_t]) g [[(b1126, .map es1167 clk1168)], ((b1164, .cells #[.string (mkS p), .slice a1160 ((data).length) n1161, .int .i64 0, .int .i64 (max owner ((-1) : Int)), .int .i64 0, .int .i64 (max born (0 : Int))] 59 (0, 0)) :: ch1158 ++ F1135 : Chunk), [(b_t, Obj.cells #[.map (some b1126)] 128 (0, 0))]] h1169 := St.flat (L := [[(b1126, .map es1167 clk1168)], [(b1164, Obj.cells #[.string (mkS p), .slice a1160 ((data).length) n1161, .int .i64 0, .int .i64 (max owner ((-1) : Int)), .int .i64 0, .int .i64 (max born (0 : Int))] 59 (0, 0))], ch1158, F1135, [(b_t, Obj.cells #[.map (some b1126)] 128 (0, 0))]]) (by simp only [List.flatten_cons, List.flatten_nil, List.append_assoc, List.cons_append, List.nil_append, List.append_nil]) s1174
      refine Op.goto 26 (by kernel_rfl) ?_
      refine At.reg (L := [(0, false), (1, false), (2, false)]) (by kernel_rfl) ?_
      refine Op.pures 3 [12, 13] (L' := []) (e' := [(12, .string (mkS p)), (13, .int .i64 0)]) (by kernel_rfl) ?_
      refine Op.goto 27 (by kernel_rfl) ?_
      obtain ⟨c1175, o1176, s1177⟩ : ∃ c, IsLm g b1126 (withL t (⟨p, data, 0, max owner ((-1) : Int), 0, max born (0 : Int)⟩ : Leaf)) c ∧ St h g (ids [c_t]) g (c :: [[(b_t, Obj.cells #[.map (some b1126)] 128 (0, 0))]]) h1169 := ⟨_, hO1172.close hR1170 (List.Perm.refl _), St.flat (L := [(b1126, .map es1167 clk1168)] :: ((b1164, .cells #[.string (mkS p), .slice a1160 ((data).length) n1161, .int .i64 0, .int .i64 (max owner ((-1) : Int)), .int .i64 0, .int .i64 (max born (0 : Int))] 59 (0, 0)) :: ch1158 ++ F1135 : Chunk) :: [[(b_t, Obj.cells #[.map (some b1126)] 128 (0, 0))]]) (by simp only [List.flatten_cons, List.append_assoc, List.cons_append, List.nil_append, List.append_nil]) s1173⟩
      have s1178 : St h g (ids [c_t]) g [[(b_t, Obj.cells #[.map (some b1126)] 128 (0, 0))], c1175] h1169 := ((s1177.front 0 rfl).front 1 rfl)
      obtain ⟨c1179, o1180, s1181⟩ : ∃ c, IsTree g b_t (withL t (⟨p, data, 0, max owner ((-1) : Int), 0, max born (0 : Int)⟩ : Leaf)) c ∧ St h g (ids [c_t]) g (c :: []) h1169 := ⟨_, ⟨_, _, rfl, o1176⟩, St.flat (L := [[(b_t, Obj.cells #[.map (some b1126)] 128 (0, 0))], c1175]) (by simp only [List.flatten_cons, List.append_assoc, List.cons_append, List.nil_append, List.append_nil]) s1178⟩
      refine At.ret (f := Tryz.f28) (v := .tuple #[.string (mkS p), .int .i64 0]) (by kernel_rfl) (by kernel_rfl) ?_
      refine hR _ _ _ _ s1181 ⟨c1179, ?_, ?_, rfl, rfl⟩
      ·exact eqT2 (eqS (by (rw [mk_5 (by assumption) (by assumption) (by simp [makeE, *]) (by simp [makeN, *] <;> rfl) (by assumption) (by assumption)]; done))) (eqI (by (rw [mk_5 (by assumption) (by assumption) (by simp [makeE, *]) (by simp [makeN, *] <;> rfl) (by assumption) (by assumption)]; done)))
      ·exact o1180.eq (by (rw [mk_5 (by assumption) (by assumption) (by simp [makeE, *]) (by simp [makeN, *] <;> rfl) (by assumption) (by assumption)]; exact (madeL_0 (by assumption) hsort (by assumption)).symm))
   ·have hf1182 : (findL t p).isSome = true := hs1142.symm
    refine Op.lookSome (ok := true) (d := .string) (mt := 126) (x := (.tmp 45)) (ix := (.tmp 46)) (dst := 47) (k := p) (m := b1126) (z := .pointer none) (by kernel_rfl) (by kernel_rfl) keyS (by kernel_rfl) (by kernel_rfl) (s1139.chunk 0 rfl) hR1137 hov1141 ?_
    refine Op.pures 5 [0, 1, 2, 3, 4, 5, 14, 17] (L' := []) (e' := [(0, .pointer (some ⟨b_t, 0, none⟩)), (1, .string (mkS p)), (2, .slice a_data data.length n_data), (3, .int .i64 owner), (4, .int .i64 born), (5, .bool num), (14, .pointer (some ⟨b1010, 0, none⟩)), (17, .bool true)]) (by kernel_rfl) ?_
    refine Op.goto 14 (by kernel_rfl) ?_
    refine At.reg (L := [(0, false)]) (by kernel_rfl) ?_
    refine Op.pures 1 [0, 1, 2, 3, 4, 5, 14, 50] (L' := []) (e' := [(0, .pointer (some ⟨b_t, 0, none⟩)), (1, .string (mkS p)), (2, .slice a_data data.length n_data), (3, .int .i64 owner), (4, .int .i64 born), (5, .bool num), (14, .pointer (some ⟨b1010, 0, none⟩)), (50, .bool true)]) (by kernel_rfl) ?_
    refine Op.goto 15 (by kernel_rfl) ?_
    refine At.condT (c := .tmp 50) (by kernel_rfl) (by kernel_rfl) (by kernel_rfl) 16 (by kernel_rfl) ?_
    refine At.reg (L := [(0, false), (1, false)]) (by kernel_rfl) ?_
    refine Op.pures 2 [12, 13] (L' := []) (e' := [(12, .string (mkS [])), (13, .int .i64 101)]) (by kernel_rfl) ?_
    refine Op.goto 17 (by kernel_rfl) ?_
    obtain ⟨c1183, o1184, s1185⟩ : ∃ c, IsLm g b1126 t c ∧ St h g (ids [c_t]) g (c :: [[(b_t, Obj.cells #[.map (some b1126)] 128 (0, 0))]]) h1003 := ⟨_, hO1138.close hR1137 (List.Perm.refl _), St.flat (L := [(b1126, .map es1132 clk1133)] :: F1135 :: [[(b_t, Obj.cells #[.map (some b1126)] 128 (0, 0))]]) (by simp only [List.flatten_cons, List.append_assoc, List.cons_append, List.nil_append, List.append_nil]) s1139⟩
    have s1186 : St h g (ids [c_t]) g [[(b_t, Obj.cells #[.map (some b1126)] 128 (0, 0))], c1183] h1003 := ((s1185.front 0 rfl).front 1 rfl)
    obtain ⟨c1187, o1188, s1189⟩ : ∃ c, IsTree g b_t t c ∧ St h g (ids [c_t]) g (c :: []) h1003 := ⟨_, ⟨_, _, rfl, o1184⟩, St.flat (L := [[(b_t, Obj.cells #[.map (some b1126)] 128 (0, 0))], c1183]) (by simp only [List.flatten_cons, List.append_assoc, List.cons_append, List.nil_append, List.append_nil]) s1186⟩
    refine At.ret (f := Tryz.f28) (v := .tuple #[.string (mkS []), .int .i64 101]) (by kernel_rfl) (by kernel_rfl) ?_
    refine hR _ _ _ _ s1189 ⟨c1187, ?_, ?_, rfl, rfl⟩
    ·exact eqT2 (eqS (by (rw [mk_3 (by assumption) (by assumption) (by simp [makeE, *]) (by simp [makeN, *] <;> rfl) (by assumption)]; done))) (eqI (by (rw [mk_3 (by assumption) (by assumption) (by simp [makeE, *]) (by simp [makeN, *] <;> rfl) (by assumption)]; done)))
    ·exact o1188.eq (by (rw [mk_3 (by assumption) (by assumption) (by simp [makeE, *]) (by simp [makeN, *] <;> rfl) (by assumption)]; done))
end Go.Proofs.YtmjebehhpojihaaGreatDoor.Sw
namespace Go.Proofs.YtmjebehhpojihaaGreatDoor.Sw
set_option linter.unusedVariables false
set_option linter.unusedSimpArgs false
set_option linter.deprecated false
open Go
theorem cut_ok {p : Str} (h : cutErr p = 0) : pOk p = true := by
  cases hp : pOk p with
  | true => rfl
  | false =>
    have : pList p = [] := by unfold pList; rw [hp]; rfl
    exact absurd h (cutErr_90 this)
theorem cut_root : ¬ cutErr [47] = 0 := by decide
theorem cut_ne47 {p : Str} (h : cutErr p = 0) : p ≠ [47] := fun e => cut_root (e ▸ h)
theorem joinC_app (c : UInt8) : ∀ (l : List Str) (x d : Str), joinC c (l ++ [x]) ++ d = joinC c (l ++ [x ++ d])
  | [], x, d => by simp [joinC]
  | [a], x, d => by simp [joinC]
  | a :: b :: l, x, d => by
    have := joinC_app c (b :: l) x d
    simp only [List.cons_append, joinC, List.append_assoc] at this ⊢
    rw [this]
theorem low_no47 : ∀ (k n : Nat), 47 ∉ low k n
  | 0, n => by simp [low]
  | k + 1, n => by
    have hd : ∀ a : Nat, a < 10 → (47 : UInt8) ≠ UInt8.ofNat (48 + a) := by decide
    unfold low
    rw [List.mem_cons, not_or]
    exact ⟨hd _ (Nat.mod_lt _ (by decide)), low_no47 k n⟩
theorem num_parent {p : Str} {n : Int} (h : numE p n = 0) : cutErr (numS p n) = 0 ∧ parentOf (numS p n) = parentOf p ∧ pOk (numS p n) = true := by
  obtain ⟨h0, h1, hs⟩ := num_parts h
  have hok : numOk p n = true := by
    cases hk : numOk p n with
    | true => rfl
    | false => have := (num_no hk).2; rw [h] at this; cases this
  have hne : pList p ≠ [] := by
    unfold numOk at hok
    simp only [Bool.and_eq_true, decide_eq_true_eq] at hok
    exact hok.1
  have hp : pOk p = true := by
    cases hk : pOk p with
    | true => rfl
    | false => exact absurd (by unfold pList; rw [hk]; rfl) hne
  have hq : pOk (numS p n) = true := by
    unfold numE at h
    rw [if_pos hok] at h
    have := pErr_ok.1 h
    unfold numS
    rw [if_pos hok]
    unfold checkedS
    rw [if_pos this]
    exact this
  have hl := last_cat hne
  have hpp := pJoined hp
  have hj : numS p n = joined ((pList p).dropLast ++ [lastOf (pList p) ++ low 5 n.toNat]) := by
    rw [hs]
    conv => lhs; rw [← hpp, ← hl]
    unfold joined
    rw [List.cons_append, joinC_app]
  have hq47 : numS p n ≠ [47] := by
    intro e
    have h2 := num_len h
    rw [e] at h2
    simp at h2
    omega
  have hlist : pList (numS p n) = (pList p).dropLast ++ [lastOf (pList p) ++ low 5 n.toNat] := by
    unfold pList
    rw [if_pos hq, if_neg hq47]
    conv => lhs; rw [hj]
    show splitOn 47 (joinC 47 _) = _
    refine splitOn_joinC 47 _ (by simp) ?_
    intro x hx
    rcases List.mem_append.1 hx with hx | hx
    · exact okPart_no47 (pList_ok p x (List.dropLast_subset _ hx))
    · rw [List.mem_singleton] at hx
      subst hx
      rw [List.mem_append, not_or]
      have hin : lastOf (pList p) ∈ (pList p).dropLast ++ [lastOf (pList p)] := by simp
      rw [hl] at hin
      exact ⟨okPart_no47 (pList_ok p _ hin), low_no47 _ _⟩
  refine ⟨?_, ?_, hq⟩
  · refine cutErr_0 ?_
    rw [hlist]
    simp
  · unfold parentOf
    rw [if_neg hne, if_neg (by rw [hlist]; simp), hlist]
    simp
def NodeOk (k : Int) (ns : List Leaf) (n : Leaf) : Prop :=
  pOk n.Path = true ∧ n.Data.length ≤ 128 ∧ -1 ≤ n.Owner ∧ (0 ≤ n.Version ∧ n.Version ≤ k) ∧ (0 ≤ n.Next ∧ n.Next ≤ k) ∧ 0 ≤ n.Born ∧ (n.Path = [47] ∧ n.Owner = -1 ∧ n.Born = 0 ∨ cutErr n.Path = 0 ∧ ∃ u ∈ ns, u.Path = parentOf n.Path ∧ u.Owner = -1)
structure TreeOk (k : Int) (ns : List Leaf) : Prop where
  sort : SortL ns
  len : ns.length ≤ 32
  root : ∃ r ∈ ns, r.Path = [47]
  node : ∀ n ∈ ns, NodeOk k ns n
theorem TreeOk.mono {k k' : Int} {ns : List Leaf} (H : TreeOk k ns) (h : k ≤ k') : TreeOk k' ns :=
  ⟨H.sort, H.len, H.root, fun n hn => by
    obtain ⟨h1, h2, h3, h4, h5, h6, h7⟩ := H.node n hn
    exact ⟨h1, h2, h3, ⟨h4.1, by omega⟩, ⟨h5.1, by omega⟩, h6, h7⟩⟩
theorem TreeOk.new : TreeOk 0 [⟨[47], [], 0, -1, 0, 0⟩] :=
  ⟨List.pairwise_singleton _ _, by decide, ⟨_, .head _, rfl⟩, fun n hn => by
    rw [List.mem_singleton] at hn
    subst hn
    exact ⟨by decide, by decide, by decide, by decide, by decide, by decide, .inl ⟨rfl, rfl, rfl⟩⟩⟩
theorem TreeOk.b {k : Int} {ns : List Leaf} (H : TreeOk k ns) (hk : k ≤ 1000000) : TreeB ns :=
  ⟨by have := H.len; omega, fun n hn => by
    obtain ⟨h1, h2, h3, h4, h5, h6, h7⟩ := H.node n hn
    exact ⟨pOk_len h1, h2, by omega, by omega⟩⟩
theorem mem_with {ns : List Leaf} {l n : Leaf} : n ∈ withL ns l ↔ n = l ∨ n ∈ ns ∧ n.Path ≠ l.Path := by
  rw [(withL_perm ns l).mem_iff, List.mem_cons]
  unfold delL
  rw [List.mem_filter]
  simp
theorem mem_del {ns : List Leaf} {p : Str} {n : Leaf} : n ∈ delL ns p ↔ n ∈ ns ∧ n.Path ≠ p := by
  unfold delL
  rw [List.mem_filter]
  simp
theorem SortL.uniq {ns : List Leaf} (h : SortL ns) {a b : Leaf} (ha : a ∈ ns) (hb : b ∈ ns) (e : a.Path = b.Path) : a = b := by
  have h1 := findL_of h.nodup ha
  have h2 := findL_of h.nodup hb
  rw [e, h2] at h1
  exact (Option.some.inj h1).symm
theorem delL_len {ns : List Leaf} (hs : SortL ns) {u : Leaf} (hu : u ∈ ns) : (delL ns u.Path).length + 1 = ns.length := by
  have hn := hs.nodup
  clear hs
  induction ns with
  | nil => cases hu
  | cons n ns ih =>
    rw [List.map_cons, List.nodup_cons] at hn
    rcases List.mem_cons.1 hu with rfl | hu
    · have : delL (u :: ns) u.Path = ns := by
        unfold delL
        rw [List.filter_cons]
        simp only [decide_true, Bool.not_true, Bool.false_eq_true, if_false]
        exact delL_none (findL_none.2 fun x hx e => hn.1 (e ▸ List.mem_map.2 ⟨x, hx, rfl⟩))
      rw [this, List.length_cons]
    · have hne : n.Path ≠ u.Path := fun e => hn.1 (e ▸ List.mem_map.2 ⟨u, hu, rfl⟩)
      have : delL (n :: ns) u.Path = n :: delL ns u.Path := by
        unfold delL
        rw [List.filter_cons]
        simp [hne]
      rw [this, List.length_cons, List.length_cons, ih hu hn.2]
theorem withL_len {ns : List Leaf} (hs : SortL ns) {u l : Leaf} (hu : u ∈ ns) (e : l.Path = u.Path) : (withL ns l).length = ns.length := by
  rw [(withL_perm ns l).length_eq, List.length_cons, e, delL_len hs hu]
theorem withL_len1 {ns : List Leaf} {l : Leaf} (h : findL ns l.Path = none) : (withL ns l).length = ns.length + 1 := by
  rw [(withL_perm ns l).length_eq, List.length_cons, delL_none h]
theorem TreeOk.put {k : Int} {ns : List Leaf} (H : TreeOk k ns) {u l : Leaf} (hu : u ∈ ns) (hp : l.Path = u.Path) (ho : l.Owner = u.Owner) (hb : l.Born = u.Born) (hd : l.Data.length ≤ 128) (hv : 0 ≤ l.Version ∧ l.Version ≤ k) (hn : 0 ≤ l.Next ∧ l.Next ≤ k) : TreeOk k (withL ns l) := by
  have hmem : ∀ x ∈ ns, ∃ y ∈ withL ns l, y.Path = x.Path ∧ y.Owner = x.Owner := fun x hx => by
    by_cases e : x.Path = l.Path
    · have : x = u := H.sort.uniq hx hu (e.trans hp)
      subst this
      exact ⟨l, mem_with.2 (.inl rfl), hp, ho⟩
    · exact ⟨x, mem_with.2 (.inr ⟨hx, e⟩), rfl, rfl⟩
  refine ⟨withL_sort H.sort l, by rw [withL_len H.sort hu hp]; exact H.len, ?_, fun n hn' => ?_⟩
  · obtain ⟨r, hr, er⟩ := H.root
    obtain ⟨y, hy, e, _⟩ := hmem r hr
    exact ⟨y, hy, e.trans er⟩
  · have hup : ∀ {q : Str}, (∃ u ∈ ns, u.Path = q ∧ u.Owner = -1) → ∃ u ∈ withL ns l, u.Path = q ∧ u.Owner = -1 := by
      rintro q ⟨x, hx, h1, h2⟩
      obtain ⟨y, hy, e1, e2⟩ := hmem x hx
      exact ⟨y, hy, e1.trans h1, e2.trans h2⟩
    rcases mem_with.1 hn' with rfl | ⟨hn', _⟩
    · obtain ⟨h1, h2, h3, h4, h5, h6, h7⟩ := H.node u hu
      refine ⟨hp ▸ h1, hd, ho ▸ h3, hv, hn, hb ▸ h6, ?_⟩
      rw [hp, ho, hb]
      exact h7.imp id fun h => ⟨h.1, hup h.2⟩
    · obtain ⟨h1, h2, h3, h4, h5, h6, h7⟩ := H.node n hn'
      exact ⟨h1, h2, h3, h4, h5, h6, h7.imp id fun h => ⟨h.1, hup h.2⟩⟩
theorem TreeOk.add {k : Int} {ns : List Leaf} (H : TreeOk k ns) {l : Leaf} (hl : ns.length < 32) (hf : findL ns l.Path = none) (hc : cutErr l.Path = 0) (hu : ∃ u ∈ ns, u.Path = parentOf l.Path ∧ u.Owner = -1) (hd : l.Data.length ≤ 128) (ho : -1 ≤ l.Owner) (hv : 0 ≤ l.Version ∧ l.Version ≤ k) (hn : 0 ≤ l.Next ∧ l.Next ≤ k) (hb : 0 ≤ l.Born) :
    TreeOk k (withL ns l) := by
  have hmem : ∀ x ∈ ns, x ∈ withL ns l := fun x hx => mem_with.2 (.inr ⟨hx, findL_none.1 hf x hx⟩)
  have hup : ∀ {q : Str}, (∃ u ∈ ns, u.Path = q ∧ u.Owner = -1) → ∃ u ∈ withL ns l, u.Path = q ∧ u.Owner = -1 := fun ⟨x, hx, h⟩ => ⟨x, hmem x hx, h⟩
  refine ⟨withL_sort H.sort l, by rw [withL_len1 hf]; omega, ?_, fun n hn' => ?_⟩
  · obtain ⟨r, hr, er⟩ := H.root
    exact ⟨r, hmem r hr, er⟩
  · rcases mem_with.1 hn' with rfl | ⟨hn', _⟩
    · exact ⟨cut_ok hc, hd, ho, hv, hn, hb, .inr ⟨hc, hup hu⟩⟩
    · obtain ⟨h1, h2, h3, h4, h5, h6, h7⟩ := H.node n hn'
      exact ⟨h1, h2, h3, h4, h5, h6, h7.imp id fun h => ⟨h.1, hup h.2⟩⟩
theorem kids_mem {ns : List Leaf} {p q : Str} : q ∈ kidsL ns p ↔ ∃ n ∈ ns, n.Path = q ∧ cutErr q = 0 ∧ parentOf q = p := by
  unfold kidsL kidB
  rw [List.mem_map]
  constructor
  · rintro ⟨n, hn, rfl⟩
    rw [List.mem_filter] at hn
    simp only [Bool.and_eq_true, decide_eq_true_eq] at hn
    exact ⟨n, hn.1, rfl, hn.2⟩
  · rintro ⟨n, hn, rfl, h⟩
    exact ⟨n, List.mem_filter.2 ⟨hn, by simpa using h⟩, rfl⟩
theorem kids_none {ns : List Leaf} {p : Str} (h : kidsL ns p = []) {n : Leaf} (hn : n ∈ ns) (hc : cutErr n.Path = 0) : parentOf n.Path ≠ p := fun e => by
  have : n.Path ∈ kidsL ns p := kids_mem.2 ⟨n, hn, rfl, hc, e⟩
  rw [h] at this
  cases this
theorem TreeOk.del {k : Int} {ns : List Leaf} (H : TreeOk k ns) {p : Str} (hp : p ≠ [47]) (hk : kidsL ns p = []) : TreeOk k (delL ns p) := by
  refine ⟨delL_sort H.sort p, Nat.le_trans (List.length_filter_le _ _) H.len, ?_, fun n hn => ?_⟩
  · obtain ⟨r, hr, er⟩ := H.root
    exact ⟨r, mem_del.2 ⟨hr, er ▸ hp.symm⟩, er⟩
  · obtain ⟨hn, hne⟩ := mem_del.1 hn
    obtain ⟨h1, h2, h3, h4, h5, h6, h7⟩ := H.node n hn
    refine ⟨h1, h2, h3, h4, h5, h6, h7.imp id fun h => ⟨h.1, ?_⟩⟩
    obtain ⟨u, hu, e1, e2⟩ := h.2
    exact ⟨u, mem_del.2 ⟨hu, fun e => kids_none hk hn h.1 (e1.symm.trans e)⟩, e1, e2⟩
theorem wrapI {x : Int} (h0 : -9223372036854775808 ≤ x) (h1 : x ≤ 9223372036854775807) : IntKind.wrap .i64 x = x := by
  have := wrapEq_i64 h0 h1
  injection this
theorem wrapS {x : Int} (h0 : 0 ≤ x) (h1 : x ≤ 1000000) : IntKind.wrap .i64 (x + 1) = x + 1 := wrapI (by omega) (by omega)
section
variable {k : Int} {ns : List Leaf} {p data : Str} {owner born ver : Int} {num : Bool}
theorem make_ok (h : (makeT ns p data owner born num).2.2 = 0) : ∃ up, cutErr p = 0 ∧ data.length ≤ 128 ∧ findL ns (parentOf p) = some up ∧ up.Owner = -1 ∧ makeE up p num = 0 ∧ findL ns (makeN up p num) = none ∧ ns.length < 32 ∧
    makeT ns p data owner born num = (madeL ns up (makeN up p num) data owner born num, makeN up p num, 0) := by
  unfold makeT at h ⊢
  by_cases h1 : cutErr p = 0
  · simp only [h1, ne_eq, not_true_eq_false, if_false] at h ⊢
    by_cases h2 : data.length > 128
    · simp [h2] at h
    · simp only [h2, if_false] at h ⊢
      cases hf : findL ns (parentOf p) with
      | none => simp [hf] at h
      | some up =>
        simp only [hf] at h ⊢
        by_cases h3 : up.Owner = -1
        · simp only [h3, ne_eq, not_true_eq_false, if_false] at h ⊢
          by_cases h4 : makeE up p num = 0
          · simp only [h4, ne_eq, not_true_eq_false, if_false] at h ⊢
            cases hq : findL ns (makeN up p num) with
            | some _ => simp [hq] at h
            | none =>
              simp only [hq] at h ⊢
              by_cases h5 : ns.length ≥ 32
              · simp [h5] at h
              · simp only [h5, if_false]
                exact ⟨up, trivial, by omega, rfl, h3, h4, hq, by omega, rfl⟩
          · simp [h4] at h
        · simp [h3] at h
  · simp [h1] at h
theorem make_no (h : (makeT ns p data owner born num).2.2 ≠ 0) : (makeT ns p data owner born num).1 = ns ∧ (makeT ns p data owner born num).2.1 = [] := by
  unfold makeT at h ⊢
  by_cases h1 : cutErr p = 0
  · simp only [h1, ne_eq, not_true_eq_false, if_false] at h ⊢
    by_cases h2 : data.length > 128
    · simp [h2]
    · simp only [h2, if_false] at h ⊢
      cases hf : findL ns (parentOf p) with
      | none => simp
      | some up =>
        simp only [hf] at h ⊢
        by_cases h3 : up.Owner = -1
        · simp only [h3, ne_eq, not_true_eq_false, if_false] at h ⊢
          by_cases h4 : makeE up p num = 0
          · simp only [h4, ne_eq, not_true_eq_false, if_false] at h ⊢
            cases hq : findL ns (makeN up p num) with
            | some _ => simp
            | none =>
              simp only [hq] at h ⊢
              by_cases h5 : ns.length ≥ 32
              · simp [h5]
              · simp [h5] at h
          · simp [h4]
        · simp [h3]
  · simp [h1]
theorem made_place {up : Leaf} (hc : cutErr p = 0) (he : makeE up p num = 0) : cutErr (makeN up p num) = 0 ∧ parentOf (makeN up p num) = parentOf p := by
  unfold makeE makeN at *
  cases num with
  | false => exact ⟨hc, rfl⟩
  | true =>
    simp only [if_true] at he ⊢
    exact ⟨(num_parent he).1, (num_parent he).2.1⟩
def upL (ns : List Leaf) (up : Leaf) (num : Bool) : List Leaf := withL ns (if num then { up with Next := IntKind.wrap .i64 (up.Next + 1) } else up)
theorem upL_ok (H : TreeOk k ns) (hk : k ≤ 100000) {up : Leaf} (hu : up ∈ ns) : TreeOk (k + 1) (upL ns up num) := by
  obtain ⟨h1, h2, h3, h4, h5, h6, h7⟩ := H.node up hu
  have H1 := H.mono (k' := k + 1) (by omega)
  unfold upL
  cases num with
  | false => exact H1.put hu rfl rfl rfl h2 ⟨h4.1, by show up.Version ≤ k + 1; omega⟩ ⟨h5.1, by show up.Next ≤ k + 1; omega⟩
  | true =>
    simp only [if_true]
    rw [wrapS h5.1 (by omega)]
    exact H1.put hu rfl rfl rfl h2 ⟨h4.1, by show up.Version ≤ k + 1; omega⟩ ⟨by show 0 ≤ up.Next + 1; omega, by show up.Next + 1 ≤ k + 1; omega⟩
theorem upL_none {up : Leaf} {q : Str} (hu : up ∈ ns) (hq : findL ns q = none) : findL (upL ns up num) q = none := by
  rw [findL_none] at hq ⊢
  intro n hn
  unfold upL at hn
  rcases mem_with.1 hn with rfl | ⟨hn, _⟩
  · cases num with
    | false => exact hq up hu
    | true => exact hq up hu
  · exact hq n hn
theorem upL_len (hs : SortL ns) {up : Leaf} (hu : up ∈ ns) : (upL ns up num).length = ns.length := by
  unfold upL
  cases num with
  | false => exact withL_len hs hu rfl
  | true => exact withL_len hs hu rfl
theorem upL_up {up : Leaf} : ∃ u ∈ upL ns up num, u.Path = up.Path ∧ u.Owner = up.Owner := by
  unfold upL
  cases num with
  | false => exact ⟨_, mem_with.2 (.inl rfl), rfl, rfl⟩
  | true => exact ⟨_, mem_with.2 (.inl rfl), rfl, rfl⟩
theorem madeL_eq {up : Leaf} {q : Str} : madeL ns up q data owner born num = withL (upL ns up num) ⟨q, data, 0, max owner (-1), 0, max born 0⟩ := rfl
theorem TreeOk.make (H : TreeOk k ns) (hk : k ≤ 100000) (hk0 : 0 ≤ k) : TreeOk (k + 1) (makeT ns p data owner born num).1 := by
  by_cases h : (makeT ns p data owner born num).2.2 = 0
  · obtain ⟨up, hc, hd, hf, ho, he, hq, hl, e⟩ := make_ok h
    rw [e]
    obtain ⟨hu, hup⟩ := findL_some hf
    show TreeOk (k + 1) (madeL ns up (makeN up p num) data owner born num)
    rw [madeL_eq]
    obtain ⟨h1, h2⟩ := made_place hc he
    refine (upL_ok H hk hu).add (by rw [upL_len H.sort hu]; exact hl) (upL_none hu hq) h1 ?_ hd (Int.le_max_right _ _) ⟨by simp, by simp; omega⟩ ⟨by simp, by simp; omega⟩ (Int.le_max_right _ _)
    obtain ⟨u, hu1, e1, e2⟩ := upL_up (ns := ns) (up := up) (num := num)
    exact ⟨u, hu1, by rw [e1, hup]; exact h2.symm, e2.trans ho⟩
  · rw [(make_no h).1]
    exact H.mono (by omega)
theorem drop_ok (h : (dropT ns p ver).2 = 0) : ∃ l, cutErr p = 0 ∧ findL ns p = some l ∧ kidsL ns p = [] ∧ dropT ns p ver = (delL ns p, 0) := by
  unfold dropT at h ⊢
  by_cases h1 : cutErr p = 0
  · simp only [h1, ne_eq, not_true_eq_false, if_false] at h ⊢
    cases hf : findL ns p with
    | none => simp [hf] at h
    | some l =>
      simp only [hf] at h ⊢
      by_cases h2 : ver ≥ 0 ∧ l.Version ≠ ver
      · rw [if_pos h2] at h; cases h
      · rw [if_neg h2] at h ⊢
        by_cases h3 : kidsL ns p = []
        · exact ⟨l, trivial, rfl, h3, by simp [h3]⟩
        · rw [if_pos h3] at h; cases h
  · simp [h1] at h
theorem drop_no (h : (dropT ns p ver).2 ≠ 0) : (dropT ns p ver).1 = ns := by
  unfold dropT at h ⊢
  split
  · rfl
  · rename_i h1
    rw [if_neg h1] at h
    split
    · rfl
    · rename_i l hf
      simp only [hf] at h
      split
      · rfl
      · rename_i h2
        rw [if_neg h2] at h
        split
        · rfl
        · rename_i h3
          rw [if_neg h3] at h
          exact absurd rfl h
theorem TreeOk.drop (H : TreeOk k ns) : TreeOk k (dropT ns p ver).1 := by
  by_cases h : (dropT ns p ver).2 = 0
  · obtain ⟨l, hc, hf, hk, e⟩ := drop_ok h
    rw [e]
    exact H.del (cut_ne47 hc) hk
  · rw [drop_no h]; exact H
theorem TreeOk.set (H : TreeOk k ns) (hk : k ≤ 100000) : TreeOk (k + 1) (setT ns p data ver).1 := by
  have H1 := H.mono (k' := k + 1) (by omega)
  unfold setT
  split
  · exact H1
  · split
    · exact H1
    · rename_i l hf
      split
      · exact H1
      · split
        · exact H1
        · rename_i hd
          obtain ⟨hu, _⟩ := findL_some hf
          obtain ⟨h1, h2, h3, h4, h5, h6, h7⟩ := H.node l hu
          rw [wrapS h4.1 (by omega)]
          exact H1.put hu rfl rfl rfl (by show data.length ≤ 128; omega) ⟨by show 0 ≤ l.Version + 1; omega, by show l.Version + 1 ≤ k + 1; omega⟩ ⟨h5.1, by show l.Next ≤ k + 1; omega⟩
end
section
variable {k : Int} {ns : List Leaf}
theorem TreeOk.find (H : TreeOk k ns) {n : Leaf} (hn : n ∈ ns) : findE ns n.Path = 0 := findE_3 (pErr_ok.2 (H.node n hn).1) (findL_of H.sort.nodup hn)
theorem TreeOk.get (H : TreeOk k ns) {n : Leaf} (hn : n ∈ ns) : getT ns n.Path = (n, 0) := getT_2 (H.find hn) (findL_of H.sort.nodup hn)
end
end Go.Proofs.YtmjebehhpojihaaGreatDoor.Sw
namespace Go.Proofs.YtmjebehhpojihaaGreatDoor.Sw
open Go
set_option maxRecDepth 100000
set_option linter.unusedVariables false
set_option linter.unusedSimpArgs false
set_option linter.deprecated false
theorem drop_kids0 {full ks : List Str} (h : full.Perm ks) (hf : [] = full) : ks = [] := by subst hf; exact h.symm.eq_nil
theorem drop_kids1 {full ks : List Str} {x : Str} {xs : List Str} (h : full.Perm ks) (hp : x :: xs <+: full) : ks ≠ [] := by
 rintro rfl
 have h1 := hp.length_le
 rw [h.length_eq] at h1
 simp at h1
def dropPend {α : Type} (xs : List α) : Option Code := if xs.isEmpty = true then none else some .ret
theorem dropPend_0 {α : Type} {xs : List α} (h : xs.isEmpty = true) : dropPend xs = none := by unfold dropPend; rw [if_pos h]
theorem dropPend_1 {α : Type} (xs : List α) (x : α) : dropPend (xs ++ [x]) = some .ret := by unfold dropPend; rw [if_neg]; simp
theorem drop_go {α : Type} (xs : List α) (x : α) : Value.bool (some Code.ret : Option Code).isNone = Value.bool (xs ++ [x]).isEmpty := by simp
theorem dropT_1 {ns : List Leaf} {p : Str} {ver : Int} (h : ¬ cutErr p = 0) : dropT ns p ver = (ns, cutErr p) := by unfold dropT; rw [if_pos h]
theorem dropT_0 {ns : List Leaf} {p : Str} {ver : Int} (h : cutErr p = 0) (hp : pErr p = 0) (hv : verE ns p ver ≠ 0) : dropT ns p ver = (ns, verE ns p ver) := by
 unfold verE findE at *; unfold dropT
 simp only [h, hp, ne_eq, not_true_eq_false, if_false] at *
 cases hf : findL ns p with
 | none => simp [hf]
 | some l => simp only [hf] at *; split at hv <;> simp_all
theorem dropT_2 {ns : List Leaf} {p : Str} {ver : Int} {l : Leaf} (h : cutErr p = 0) (hv : verE ns p ver = 0) (hf : findL ns p = some l) : dropT ns p ver = if kidsL ns p ≠ [] then (ns, 103) else (delL ns p, 0) := by
 obtain ⟨_, h2⟩ := setT_2 hv hf
 unfold dropT
 rw [if_neg (by simpa using h), hf]
 simp only []
 rw [if_neg h2]
theorem dropF (B : World) (h : Heap) (g : GH) (hg : Sub g h) (hG : Glob g) (b_t : Nat) (t : List Leaf) (c_t : Chunk) (o_t : IsTree g b_t t c_t) (p : List UInt8) (ver : Int) (hB : TreeB t) (hp : p.length ≤ 1000000000) (hs : St h g (ids [c_t]) g [c_t] h) :
  Spec Tryz.prog B 33 #[.pointer (some ⟨b_t, 0, none⟩), .string (mkS p), .int .i64 ver] h g [c_t] (fun rv g' L' => ∃ k_t, rv = .int .i64 ((dropT t p ver).2) ∧ IsTree g' b_t ((dropT t p ver).1) k_t ∧ g' = g ∧ L' = [k_t]) := by
 refine Spec.of_at (f := Tryz.f33) (e := [(0, .pointer (some ⟨b_t, 0, none⟩)), (1, .string (mkS p)), (2, .int .i64 ver)]) Tryz.func33 (by kernel_rfl) (Nat.le_of_ble_eq_true (by kernel_rfl)) (by kernel_rfl) (by kernel_rfl) ?_
 intro R hR
 refine At.reg (L := [(0, false)]) (by kernel_rfl) ?_
 refine Op.alloc (T := 24) (dst := 6) (cs := #[.int .i64 0]) (by kernel_rfl) (by kernel_rfl) hs ?_
 intro b1001 h1002 s1003
 refine Op.goto 1 (by kernel_rfl) ?_
 refine At.reg (L := [(0, false), (1, false), (2, false), (3, false), (4, false), (5, false), (6, false)]) (by kernel_rfl) ?_
 refine Op.pures 1 [0, 1, 2, 6, 12] (L' := [(1, false), (2, false), (3, false), (4, false), (5, false), (6, false)]) (e' := [(0, .pointer (some ⟨b_t, 0, none⟩)), (1, .string (mkS p)), (2, .int .i64 ver), (6, .pointer (some ⟨b1001, 0, none⟩)), (12, .string (mkS p))]) (by kernel_rfl) ?_
 refine Op.call0 (dst := some 13) (f := 36) (args := #[.string (mkS p)]) (by kernel_rfl) s1003 (parentP _ _ _ s1003.sub hG p (by ((try dsimp only) <;> (omega))) ) ?_
 rintro _ g1006 _ h1004 hle1007 s1005 ⟨rfl, hgg, rfl⟩; subst g1006; clear hle1007
 refine Op.pures 5 [0, 1, 2, 6, 8] (L' := []) (e' := [(0, .pointer (some ⟨b_t, 0, none⟩)), (1, .string (mkS p)), (2, .int .i64 ver), (6, .pointer (some ⟨b1001, 0, none⟩)), (8, .int .i64 (cutErr p))]) (by kernel_rfl) ?_
 refine Op.goto 2 (by kernel_rfl) ?_
 refine At.reg (L := [(0, false), (1, false)]) (by kernel_rfl) ?_
 refine Op.pures 2 [0, 1, 2, 6, 8, 17] (L' := []) (e' := [(0, .pointer (some ⟨b_t, 0, none⟩)), (1, .string (mkS p)), (2, .int .i64 ver), (6, .pointer (some ⟨b1001, 0, none⟩)), (8, .int .i64 (cutErr p)), (17, .bool ((cutErr p) != (0 : Int)))]) (by kernel_rfl) ?_
 refine Op.goto 3 (by kernel_rfl) ?_
 refine At.cond (b := (cutErr p) != (0 : Int)) (c := .tmp 17) (by kernel_rfl) (by kernel_rfl) (by kernel_rfl) 4 6 (by kernel_rfl) (by kernel_rfl) (fun hb => ?_) (fun hb => ?_)
 ·have c1008 : ¬ ((cutErr p) = (0 : Int)) := bneT hb
  clear hb
  refine At.keep [6, 8] ?_; show At _ _ _ [(6, .pointer (some ⟨b1001, 0, none⟩)), (8, .int .i64 (cutErr p))] _
  refine At.reg (L := [(0, false), (1, false)]) (by kernel_rfl) ?_
  refine Op.pures 1 [6, 18] (L' := [(1, false)]) (e' := [(6, .pointer (some ⟨b1001, 0, none⟩)), (18, .int .i64 (cutErr p))]) (by kernel_rfl) ?_
  refine Op.store (T := 24) (x := (.tmp 6)) (y := (.tmp 18)) (b := b1001) (o := 0) (vs := [.int .i64 (cutErr p)]) (a? := false) (n := 1) (by kernel_rfl) (by kernel_rfl) (by kernel_rfl) (by kernel_rfl) rfl (by simp [Value.oneCell']) s1005 0 rfl (Nat.le_of_ble_eq_true (by kernel_rfl)) (cs := #[.int .i64 0]) (cs' := #[.int .i64 (cutErr p)]) (by kernel_rfl) (fun _ => trivial) ?_
  intro h1009 s1010
  refine Op.goto 5 (by kernel_rfl) ?_
  refine At.retM (f := Tryz.f33) (vs := [.int .i64 (cutErr p)]) (rl := [.cell 6 24]) (v := .int .i64 (cutErr p)) (by kernel_rfl) (by kernel_rfl) ⟨⟨_, _, rfl, resOne (n := 1) (by kernel_rfl) (s1010.chunk 0 rfl) (by kernel_rfl)⟩, trivial⟩ rfl ?_
  have s1011 : St h g (ids [c_t]) g [c_t] h1009 := (s1010).drop
  refine hR _ _ _ _ s1011 ⟨c_t, ?_, ?_, rfl, rfl⟩
  ·exact (eqI (by (rw [dropT_1 (by assumption)]; done)))
  ·exact o_t.eq (by (rw [dropT_1 (by assumption)]; done))
 ·have c1012 : (cutErr p) = (0 : Int) := bneF hb
  clear hb
  refine At.keep [0, 1, 2, 6] ?_; show At _ _ _ [(0, .pointer (some ⟨b_t, 0, none⟩)), (1, .string (mkS p)), (2, .int .i64 ver), (6, .pointer (some ⟨b1001, 0, none⟩))] _
  refine At.reg (L := [(0, false), (1, false), (2, false), (3, false), (4, false), (5, false), (6, false), (7, false), (8, false)]) (by kernel_rfl) ?_
  refine Op.pures 3 [0, 1, 6, 20, 21, 22] (L' := [(3, false), (4, false), (5, false), (6, false), (7, false), (8, false)]) (e' := [(0, .pointer (some ⟨b_t, 0, none⟩)), (1, .string (mkS p)), (6, .pointer (some ⟨b1001, 0, none⟩)), (20, .pointer (some ⟨b_t, 0, none⟩)), (21, .string (mkS p)), (22, .int .i64 ver)]) (by kernel_rfl) ?_
  have s1013 : St h g (ids [c_t]) g [c_t, [(b1001, Obj.cells #[.int .i64 0] 24 (0, 0))]] h1004 := ((s1005.front 0 rfl).front 1 rfl)
  have hl1014 := s1013.frzle
  have hz1015 := IsTree.frz o_t s1013 (by intro p hp; simp only [List.mem_append, hp, true_or, or_true])
  refine Op.lend (dst := some 23) (f := 79) (args := #[.pointer (some ⟨b_t, 0, none⟩), .string (mkS p), .int .i64 ver]) (cf := (c_t : Chunk)) (Lc := []) (L := [[(b1001, Obj.cells #[.int .i64 0] 24 (0, 0))]]) (by kernel_rfl) s1013 (verT _ _ _ s1013.frzsub (hG.mono hl1014) b_t t hz1015 p ver (by ((try dsimp only) <;> (omega))) ) (fun _ _ _ hp => by obtain ⟨hgg, _, _⟩ := hp; exact hgg) (fun _ _ h => absurd h (ids_nil _)) ?_
  rintro v1018 _ h1016 s1017 ⟨hgg, rfl, hp1019⟩; clear hgg
  rcases hp1019 with ⟨rfl, hne1022⟩ | ⟨b1023, l1024, v1025, mb1026, rfl, hE1027, hF1028, hbt1029, hb1030, hd1031, ha1032⟩
  ·have k1033 : ((verE t p ver) != (0 : Int)) = true := bne_iff_ne.2 hne1022
   have k1034 : ((verE t p ver) == (0 : Int)) = false := beq_eq_false_iff_ne.2 hne1022
   refine Op.pures 5 [0, 1, 6, 10] (L' := []) (e' := [(0, .pointer (some ⟨b_t, 0, none⟩)), (1, .string (mkS p)), (6, .pointer (some ⟨b1001, 0, none⟩)), (10, .int .i64 (verE t p ver))]) (by kernel_rfl) ?_
   refine Op.goto 7 (by kernel_rfl) ?_
   refine At.reg (L := [(0, false), (1, false)]) (by kernel_rfl) ?_
   refine Op.pures 2 [0, 1, 6, 10, 27] (L' := []) (e' := [(0, .pointer (some ⟨b_t, 0, none⟩)), (1, .string (mkS p)), (6, .pointer (some ⟨b1001, 0, none⟩)), (10, .int .i64 (verE t p ver)), (27, .bool ((verE t p ver) != (0 : Int)))]) (by kernel_rfl) ?_
   refine Op.goto 8 (by kernel_rfl) ?_
   refine At.cond (b := (verE t p ver) != (0 : Int)) (c := .tmp 27) (by kernel_rfl) (by kernel_rfl) (by kernel_rfl) 9 11 (by kernel_rfl) (by kernel_rfl) (fun hb => ?_) (fun hb => ?_)
   ·have c1035 : ¬ ((verE t p ver) = (0 : Int)) := bneT hb
    clear hb
    refine At.keep [6, 10] ?_; show At _ _ _ [(6, .pointer (some ⟨b1001, 0, none⟩)), (10, .int .i64 (verE t p ver))] _
    refine At.reg (L := [(0, false), (1, false)]) (by kernel_rfl) ?_
    refine Op.pures 1 [6, 28] (L' := [(1, false)]) (e' := [(6, .pointer (some ⟨b1001, 0, none⟩)), (28, .int .i64 (verE t p ver))]) (by kernel_rfl) ?_
    refine Op.store (T := 24) (x := (.tmp 6)) (y := (.tmp 28)) (b := b1001) (o := 0) (vs := [.int .i64 (verE t p ver)]) (a? := false) (n := 1) (by kernel_rfl) (by kernel_rfl) (by kernel_rfl) (by kernel_rfl) rfl (by simp [Value.oneCell']) s1017 1 rfl (Nat.le_of_ble_eq_true (by kernel_rfl)) (cs := #[.int .i64 0]) (cs' := #[.int .i64 (verE t p ver)]) (by kernel_rfl) (fun _ => trivial) ?_
    intro h1036 s1037
    refine Op.goto 10 (by kernel_rfl) ?_
    refine At.retM (f := Tryz.f33) (vs := [.int .i64 (verE t p ver)]) (rl := [.cell 6 24]) (v := .int .i64 (verE t p ver)) (by kernel_rfl) (by kernel_rfl) ⟨⟨_, _, rfl, resOne (n := 1) (by kernel_rfl) (s1037.chunk 1 rfl) (by kernel_rfl)⟩, trivial⟩ rfl ?_
    have s1038 : St h g (ids [c_t]) g [[(b1001, Obj.cells #[.int .i64 (verE t p ver)] 24 (0, 0))], c_t] h1036 := ((s1037.front 0 rfl).front 1 rfl)
    have s1039 : St h g (ids [c_t]) g [c_t] h1036 := (s1038).drop
    refine hR _ _ _ _ s1039 ⟨c_t, ?_, ?_, rfl, rfl⟩
    ·exact (eqI (by (rw [dropT_0 (by assumption) (pErr_ok.2 (cut_ok (by assumption))) (by assumption)]; done)))
    ·exact o_t.eq (by (rw [dropT_0 (by assumption) (pErr_ok.2 (cut_ok (by assumption))) (by assumption)]; done))
   ·exact Bool.noConfusion (k1033.symm.trans hb)
  ·refine Op.pures 5 [0, 1, 6, 10] (L' := []) (e' := [(0, .pointer (some ⟨b_t, 0, none⟩)), (1, .string (mkS p)), (6, .pointer (some ⟨b1001, 0, none⟩)), (10, .int .i64 0)]) (by kernel_rfl) ?_
   refine Op.goto 7 (by kernel_rfl) ?_
   refine At.reg (L := [(0, false), (1, false)]) (by kernel_rfl) ?_
   refine Op.pures 2 [0, 1, 6, 10, 27] (L' := []) (e' := [(0, .pointer (some ⟨b_t, 0, none⟩)), (1, .string (mkS p)), (6, .pointer (some ⟨b1001, 0, none⟩)), (10, .int .i64 0), (27, .bool false)]) (by kernel_rfl) ?_
   refine Op.goto 8 (by kernel_rfl) ?_
   refine At.condF (c := .tmp 27) (by kernel_rfl) (by kernel_rfl) (by kernel_rfl) 11 (by kernel_rfl) ?_
   have hz1040 := IsTree.frz o_t s1017 (fun p hp => hp)
   have s1041 := s1017.freeze.1
   have hle1042 := s1017.freeze.2
   replace hG := hG.mono hle1042
   refine At.reg (L := [(0, false), (1, false), (2, false)]) (by kernel_rfl) ?_
   refine Op.pures 2 [0, 1, 6, 29, 30] (L' := [(2, false)]) (e' := [(0, .pointer (some ⟨b_t, 0, none⟩)), (1, .string (mkS p)), (6, .pointer (some ⟨b1001, 0, none⟩)), (29, .pointer (some ⟨b_t, 0, none⟩)), (30, .string (mkS p))]) (by kernel_rfl) ?_
   refine Op.call0 (dst := some 31) (f := 80) (args := #[.pointer (some ⟨b_t, 0, none⟩), .string (mkS p)]) (by kernel_rfl) s1041 (kidsF _ _ _ s1041.sub hG b_t t hz1040 p  ) ?_
   rintro _ g1049 _ h1043 hle1050 s1044 ⟨f1045, cp1046, rfl, e1047, hq1048, rfl⟩
   replace hG := hG.mono hle1050
   replace hz1040 := hz1040.mono hle1050
   refine Op.goto 12 (by kernel_rfl) ?_
   refine At.keep [0, 1, 6, 31] ?_; show At _ _ _ [(0, .pointer (some ⟨b_t, 0, none⟩)), (1, .string (mkS p)), (6, .pointer (some ⟨b1001, 0, none⟩)), (31, .func (.func f1045) #[] cp1046)] _
   refine At.rangeFunc (x := (.tmp 31)) (f := f1045) (cp := cp1046) (by kernel_rfl) rfl (by kernel_rfl) (by kernel_rfl) e1047 s1044 ?_
   intro r1051 l1052 tm1053 h1054 ft1055 s1056
   have s1057 : St h g (ids [c_t]) g1049 [[(l1052, .loop (mkL (mkQ 33 tm1053 (pt (codeOf Tryz.f33) 12) r1051) none))], [(b1001, Obj.cells #[.int .i64 0] 24 (0, 0))], [(r1051, .deferred (some []))]] h1054 := (((s1056.front 1 rfl).front 2 rfl).front 2 rfl)
   have s1058 : St h g (ids [c_t]) g1049 [(([(l1052, .loop (mkL (mkQ 33 tm1053 (pt (codeOf Tryz.f33) 12) r1051) none))] : Chunk) ++ ([(b1001, Obj.cells #[.int .i64 0] 24 (0, 0))] : Chunk) : Chunk), [(r1051, .deferred (some []))]] h1054 := St.flat (L := [[(l1052, .loop (mkL (mkQ 33 tm1053 (pt (codeOf Tryz.f33) 12) r1051) none))], [(b1001, Obj.cells #[.int .i64 0] 24 (0, 0))], [(r1051, .deferred (some []))]]) (by simp only [List.flatten_cons, List.flatten_nil, List.append_assoc, List.cons_append, List.nil_append, List.append_nil]) s1057
   obtain ⟨I1059, hI1060⟩ : ∃ I : List Str → GH → Chunk → Prop, I = (fun xs g2 c2 => ∃ (rc : Int), c2 = (([(l1052, .loop (mkL (mkQ 33 tm1053 (pt (codeOf Tryz.f33) 12) r1051) (dropPend xs)))] : Chunk) ++ ([(b1001, Obj.cells #[.int .i64 rc] 24 (0, 0))] : Chunk) : Chunk) ∧ (xs ≠ [] → rc = 103)) := ⟨_, rfl⟩
   have hY1061 : Yld Tryz.prog B l1052 enS (fun full => full.Perm (kidsL t p)) (fun xs => xs.isEmpty) I1059 g1049 := by
    intro h1062 g1063 xs1064 x1065 args1066 c1067 hgg1068 hG1069 hgo1070 hen1071 hfp1072 hI1073 hs1074
    rw [hI1060] at hI1073
    obtain ⟨rc1075, rfl, hrc1076⟩ := hI1073
    obtain rfl := hen1071
    rw [show (dropPend xs1064) = none from by exact dropPend_0 hgo1070] at hs1074 ⊢
    have s1077 : St h1062 g1063 (ids [(([(l1052, .loop (mkL (mkQ 33 tm1053 (pt (codeOf Tryz.f33) 12) r1051) none))] : Chunk) ++ ([(b1001, Obj.cells #[.int .i64 rc1075] 24 (0, 0))] : Chunk) : Chunk)]) g1063 [[(l1052, .loop (mkL (mkQ 33 tm1053 (pt (codeOf Tryz.f33) 12) r1051) none))], [(b1001, Obj.cells #[.int .i64 rc1075] 24 (0, 0))]] h1062 := St.flat (by simp only [List.flatten_cons, List.flatten_nil, List.append_assoc, List.cons_append, List.nil_append, List.append_nil]) hs1074
    replace hG := hG.mono hgg1068
    replace hq1048 := hq1048.mono hgg1068
    replace hz1040 := hz1040.mono hgg1068
    refine YSpec.of_at (n := Tryz.f33.ntmps) (e0 := [(0, .pointer (some ⟨b_t, 0, none⟩)), (1, .string (mkS p)), (6, .pointer (some ⟨b1001, 0, none⟩)), (31, .func (.func f1045) #[] cp1046)]) (e := [(32, .string (mkS x1065)), (0, .pointer (some ⟨b_t, 0, none⟩)), (1, .string (mkS p)), (6, .pointer (some ⟨b1001, 0, none⟩)), (31, .func (.func f1045) #[] cp1046)]) (s1077.chunk 0 rfl) ft1055 (by kernel_rfl) (by kernel_rfl) (by kernel_rfl) (by kernel_rfl) ?_
    intro R2 hR2
    refine At.beginRound rfl (by kernel_rfl) s1077 0 rfl 1 (by kernel_rfl) ?_
    intro h1078 s1079
    refine At.reg (L := [(0, false)]) (by kernel_rfl) ?_
    refine Op.store (T := 24) (x := (.tmp 6)) (y := (.const (.int .i64 103))) (b := b1001) (o := 0) (vs := [.int .i64 103]) (a? := false) (n := 1) (by kernel_rfl) (by kernel_rfl) (by kernel_rfl) (by kernel_rfl) rfl (by simp [Value.oneCell']) s1079 1 rfl (Nat.le_of_ble_eq_true (by kernel_rfl)) (cs := #[.int .i64 rc1075]) (cs' := #[.int .i64 103]) (by kernel_rfl) (fun _ => trivial) ?_
    intro h1080 s1081
    refine Op.goto 2 (by kernel_rfl) ?_
    refine At.roundEnd (j := (some .ret)) (by kernel_rfl) s1081 0 rfl ?_
    intro h1082 s1083
    have s1084 : St h1062 g1063 (ids [(([(l1052, .loop (mkL (mkQ 33 tm1053 (pt (codeOf Tryz.f33) 12) r1051) none))] : Chunk) ++ ([(b1001, Obj.cells #[.int .i64 rc1075] 24 (0, 0))] : Chunk) : Chunk)]) g1063 [(([(l1052, .loop (mkL (mkQ 33 tm1053 (pt (codeOf Tryz.f33) 12) r1051) (some .ret)))] : Chunk) ++ ([(b1001, Obj.cells #[.int .i64 103] 24 (0, 0))] : Chunk) : Chunk)] h1082 := St.flat (L := [[(l1052, .loop (mkL (mkQ 33 tm1053 (pt (codeOf Tryz.f33) 12) r1051) (some .ret)))], [(b1001, Obj.cells #[.int .i64 103] 24 (0, 0))]]) (by simp only [List.flatten_cons, List.flatten_nil, List.append_assoc, List.cons_append, List.nil_append, List.append_nil]) s1083
    refine hR2 _ _ _ _ s1084 ⟨_, by exact drop_go _ _, rfl, ?_⟩
    rw [← dropPend_1 xs1064 x1065]
    rw [hI1060]; exact ⟨103, rfl, (by exact fun _ => rfl)⟩
   refine AtIn.call (Lc := [(([(l1052, .loop (mkL (mkQ 33 tm1053 (pt (codeOf Tryz.f33) 12) r1051) none))] : Chunk) ++ ([(b1001, Obj.cells #[.int .i64 0] 24 (0, 0))] : Chunk) : Chunk)]) (L := [[(r1051, .deferred (some []))]]) s1058 (hq1048 B _ _ _ I1059 (fun xs => xs.isEmpty) _ (gle.refl _) s1058.sub hG hY1061 rfl (by rw [hI1060]; exact ⟨0, rfl, (by exact fun h => absurd rfl h)⟩) (St.part (Lc := [(([(l1052, .loop (mkL (mkQ 33 tm1053 (pt (codeOf Tryz.f33) 12) r1051) none))] : Chunk) ++ ([(b1001, Obj.cells #[.int .i64 0] 24 (0, 0))] : Chunk) : Chunk)]) (L := [[(r1051, .deferred (some []))]]) s1058)) ?_
   rintro _ g1085 _ h1086 hle1087 s1088 ⟨full1089, xs1090, c1091, rfl, ho1092, hp1093, hf1094, hpr1095, rfl, hI1096⟩
   replace hG := hG.mono hle1087
   replace hq1048 := hq1048.mono hle1087
   replace hz1040 := hz1040.mono hle1087
   rcases xs1090 with _ | ⟨x0, xs0⟩
   ·have hkid : kidsL t p = [] := drop_kids0 ho1092 (hf1094 rfl)
    rw [hI1060] at hI1096
    obtain ⟨rc1097, rfl, hrc1098⟩ := hI1096
    rw [show (dropPend []) = none from by rfl] at s1088
    have s1099 : St h g (ids [c_t]) g1085 [[(l1052, .loop (mkL (mkQ 33 tm1053 (pt (codeOf Tryz.f33) 12) r1051) none))], [(b1001, Obj.cells #[.int .i64 rc1097] 24 (0, 0))], [(r1051, .deferred (some []))]] h1086 := St.flat (by simp only [List.flatten_cons, List.flatten_nil, List.append_assoc, List.cons_append, List.nil_append, List.append_nil]) s1088
    refine AtI.endLoop (j := none) s1099 0 rfl ?_
    intro h1100 s1101
    have s1102 := s1101.drop
    refine AtI.at_ 13 (by kernel_rfl) ?_
    have s1103 : St h g (ids [c_t]) g (c_t :: [[(b1001, Obj.cells #[.int .i64 rc1097] 24 (0, 0))], [(r1051, .deferred (some []))]]) h1100 := s1017.thaw (s1102.forget (gle.trans s1017.le s1017.frzle) (by repeat (first | assumption | exact gle.refl _ | apply gle.trans)))
    refine At.reg (L := [(0, false), (1, false), (2, false), (3, false), (4, false), (5, false)]) (by kernel_rfl) ?_
    refine Op.pures 3 [1, 6, 35] (L' := [(3, false), (4, false), (5, false)]) (e' := [(1, .string (mkS p)), (6, .pointer (some ⟨b1001, 0, none⟩)), (35, .pointer (some ⟨b_t, 0, none⟩))]) (by kernel_rfl) ?_
    obtain ⟨b1104, c1105, e1106, R1107⟩ := o_t
    have s1108 : St h g (ids [c_t]) g [[(b_t, Obj.cells #[.map (some b1104)] 128 (0, 0))], c1105, [(b1001, Obj.cells #[.int .i64 rc1097] 24 (0, 0))], [(r1051, .deferred (some []))]] h1100 := St.flat (L := [c_t, [(b1001, Obj.cells #[.int .i64 rc1097] 24 (0, 0))], [(r1051, .deferred (some []))]]) (by rw [e1106]; simp only [List.flatten_cons, List.append_assoc, List.cons_append, List.nil_append, List.append_nil]) s1103
    refine Op.load (T := 126) (x := (.tmp 35)) (o := 0) (d := 36) (n := 1) (v := .map (some b1104)) (by kernel_rfl) (by kernel_rfl) (by kernel_rfl) (s1108.chunk 0 rfl) (by kernel_rfl) ?_
    refine Op.pures 1 [6, 36, 37] (L' := [(5, false)]) (e' := [(6, .pointer (some ⟨b1001, 0, none⟩)), (36, .map (some b1104)), (37, .string (mkS p))]) (by kernel_rfl) ?_
    have s1109 : St h g (ids [c_t]) g [c1105, [(b_t, Obj.cells #[.map (some b1104)] 128 (0, 0))], [(b1001, Obj.cells #[.int .i64 rc1097] 24 (0, 0))], [(r1051, .deferred (some []))]] h1100 := ((s1108.front 0 rfl).front 1 rfl)
    obtain ⟨es1110, clk1111, ks1112, F1113, hp1114, hR1115, hO1116⟩ := IsLm.open_ R1107
    have s1117 : St h g (ids [c_t]) g ([(b1104, .map es1110 clk1111)] :: F1113 :: [[(b_t, Obj.cells #[.map (some b1104)] 128 (0, 0))], [(b1001, Obj.cells #[.int .i64 rc1097] 24 (0, 0))], [(r1051, .deferred (some []))]]) h1100 := St.permF (L := c1105 :: [[(b_t, Obj.cells #[.map (some b1104)] 128 (0, 0))], [(b1001, Obj.cells #[.int .i64 rc1097] 24 (0, 0))], [(r1051, .deferred (some []))]]) (hp1114.append_right _) s1109
    obtain ⟨F1118, D1119, hpF1120, hO1121⟩ := hO1116.del p
    refine Op.mapDel (d := .string) (z := .pointer none) (mt := 126) (kt := 9) (x := (.tmp 36)) (ix := (.tmp 37)) (dst := none) (k := p) (by kernel_rfl) (by kernel_rfl) keyS (by kernel_rfl) (by kernel_rfl) s1117 0 rfl hR1115 (fun _ => trivial) ?_
    intro es1123 h1124 hR1125 s1126
    have s1127 : St h g (ids [c_t]) g [F1113, [(b1104, .map es1123 clk1111)], [(b_t, Obj.cells #[.map (some b1104)] 128 (0, 0))], [(b1001, Obj.cells #[.int .i64 rc1097] 24 (0, 0))], [(r1051, .deferred (some []))]] h1124 := ((s1126.front 0 rfl).front 1 rfl)
    have s1122 : St h g (ids [c_t]) g [F1118, D1119, [(b1104, .map es1123 clk1111)], [(b_t, Obj.cells #[.map (some b1104)] 128 (0, 0))], [(b1001, Obj.cells #[.int .i64 rc1097] 24 (0, 0))], [(r1051, .deferred (some []))]] h1124 := St.permF (L := F1113 :: [[(b1104, .map es1123 clk1111)], [(b_t, Obj.cells #[.map (some b1104)] 128 (0, 0))], [(b1001, Obj.cells #[.int .i64 rc1097] 24 (0, 0))], [(r1051, .deferred (some []))]]) (by have hq := hpF1120.append_right (List.flatten [[(b1104, .map es1123 clk1111)], [(b_t, Obj.cells #[.map (some b1104)] 128 (0, 0))], [(b1001, Obj.cells #[.int .i64 rc1097] 24 (0, 0))], [(r1051, .deferred (some []))]]); simpa only [List.flatten_cons, List.flatten_nil, List.append_assoc, List.cons_append, List.nil_append, List.append_nil] using hq) s1127
    refine Op.goto 14 (by kernel_rfl) ?_
    refine At.reg (L := [(0, false)]) (by kernel_rfl) ?_
    refine Op.store (T := 24) (x := (.tmp 6)) (y := (.const (.int .i64 0))) (b := b1001) (o := 0) (vs := [.int .i64 0]) (a? := false) (n := 1) (by kernel_rfl) (by kernel_rfl) (by kernel_rfl) (by kernel_rfl) rfl (by simp [Value.oneCell']) s1122 4 rfl (Nat.le_of_ble_eq_true (by kernel_rfl)) (cs := #[.int .i64 rc1097]) (cs' := #[.int .i64 0]) (by kernel_rfl) (fun _ => trivial) ?_
    intro h1128 s1129
    refine Op.goto 15 (by kernel_rfl) ?_
    have s1130 : St h g (ids [c_t]) g [[(b1104, .map es1123 clk1111)], F1118, D1119, [(b_t, Obj.cells #[.map (some b1104)] 128 (0, 0))], [(b1001, Obj.cells #[.int .i64 0] 24 (0, 0))], [(r1051, .deferred (some []))]] h1128 := (((s1129.front 1 rfl).front 1 rfl).front 2 rfl)
    obtain ⟨c1131, o1132, s1133⟩ : ∃ c, IsLm g b1104 (delL t p) c ∧ St h g (ids [c_t]) g (c :: [D1119, [(b_t, Obj.cells #[.map (some b1104)] 128 (0, 0))], [(b1001, Obj.cells #[.int .i64 0] 24 (0, 0))], [(r1051, .deferred (some []))]]) h1128 := ⟨_, hO1121.close hR1125 (List.Perm.refl _), St.flat (L := [(b1104, .map es1123 clk1111)] :: F1118 :: [D1119, [(b_t, Obj.cells #[.map (some b1104)] 128 (0, 0))], [(b1001, Obj.cells #[.int .i64 0] 24 (0, 0))], [(r1051, .deferred (some []))]]) (by simp only [List.flatten_cons, List.append_assoc, List.cons_append, List.nil_append, List.append_nil]) s1130⟩
    have s1134 : St h g (ids [c_t]) g [[(b_t, Obj.cells #[.map (some b1104)] 128 (0, 0))], c1131, D1119, [(b1001, Obj.cells #[.int .i64 0] 24 (0, 0))], [(r1051, .deferred (some []))]] h1128 := (((s1133.front 1 rfl).front 1 rfl).front 2 rfl)
    obtain ⟨c1135, o1136, s1137⟩ : ∃ c, IsTree g b_t (delL t p) c ∧ St h g (ids [c_t]) g (c :: [D1119, [(b1001, Obj.cells #[.int .i64 0] 24 (0, 0))], [(r1051, .deferred (some []))]]) h1128 := ⟨_, ⟨_, _, rfl, o1132⟩, St.flat (L := [[(b_t, Obj.cells #[.map (some b1104)] 128 (0, 0))], c1131, D1119, [(b1001, Obj.cells #[.int .i64 0] 24 (0, 0))], [(r1051, .deferred (some []))]]) (by simp only [List.flatten_cons, List.append_assoc, List.cons_append, List.nil_append, List.append_nil]) s1134⟩
    have s1138 : St h g (ids [c_t]) g [[(r1051, .deferred (some []))], c1135, D1119, [(b1001, Obj.cells #[.int .i64 0] 24 (0, 0))]] h1128 := ((((s1137.front 2 rfl).front 2 rfl).front 2 rfl).front 3 rfl)
    refine At.ofI (AtI.retMD (L := [c1135, D1119, [(b1001, Obj.cells #[.int .i64 0] 24 (0, 0))]]) (f := Tryz.f33) (vs := [.int .i64 0]) (rl := [.cell 6 24]) (v := .int .i64 0) [r1051] (by kernel_rfl) (by kernel_rfl) rfl s1138 ?_)
    intro h1139 s1140
    refine ⟨⟨⟨_, _, rfl, resOne (n := 1) (by kernel_rfl) (s1140.chunk 2 rfl) (by kernel_rfl)⟩, trivial⟩, ?_⟩
    have s1141 : St h g (ids [c_t]) g [D1119, [(b1001, Obj.cells #[.int .i64 0] 24 (0, 0))], c1135] h1139 := (((s1140.front 0 rfl).front 2 rfl).front 2 rfl)
    have s1142 : St h g (ids [c_t]) g [c1135] h1139 := (s1141).drop.drop
    refine hR _ _ _ _ s1142 ⟨c1135, ?_, ?_, rfl, rfl⟩
    ·exact (eqI (by (rw [dropT_2 (by assumption) (by assumption) (by assumption), if_neg (fun h => h hkid)]; done)))
    ·exact o1136.eq (by (rw [dropT_2 (by assumption) (by assumption) (by assumption), if_neg (fun h => h hkid)]; done))
   ·have hkid : kidsL t p ≠ [] := drop_kids1 ho1092 hp1093
    rw [hI1060] at hI1096
    obtain ⟨rc1143, rfl, hrc1144⟩ := hI1096
    rw [show (dropPend (x0 :: xs0)) = (some .ret) from by rfl] at s1088
    have s1145 : St h g (ids [c_t]) g1085 [[(l1052, .loop (mkL (mkQ 33 tm1053 (pt (codeOf Tryz.f33) 12) r1051) (some .ret)))], [(b1001, Obj.cells #[.int .i64 rc1143] 24 (0, 0))], [(r1051, .deferred (some []))]] h1086 := St.flat (by simp only [List.flatten_cons, List.flatten_nil, List.append_assoc, List.cons_append, List.nil_append, List.append_nil]) s1088
    refine AtI.endLoop (j := (some .ret)) s1145 0 rfl ?_
    intro h1146 s1147
    have s1148 := s1147.drop
    have s1149 : St h g (ids [c_t]) g (c_t :: [[(b1001, Obj.cells #[.int .i64 rc1143] 24 (0, 0))], [(r1051, .deferred (some []))]]) h1146 := s1017.thaw (s1148.forget (gle.trans s1017.le s1017.frzle) (by repeat (first | assumption | exact gle.refl _ | apply gle.trans)))
    have s1150 : St h g (ids [c_t]) g [[(r1051, .deferred (some []))], c_t, [(b1001, Obj.cells #[.int .i64 rc1143] 24 (0, 0))]] h1146 := (((s1149.front 1 rfl).front 1 rfl).front 2 rfl)
    refine AtI.retMD (L := [c_t, [(b1001, Obj.cells #[.int .i64 rc1143] 24 (0, 0))]]) (f := Tryz.f33) (vs := [.int .i64 rc1143]) (rl := [.cell 6 24]) (v := .int .i64 rc1143) [r1051] (by kernel_rfl) (by kernel_rfl) rfl s1150 ?_
    intro h1151 s1152
    refine ⟨⟨⟨_, _, rfl, resOne (n := 1) (by kernel_rfl) (s1152.chunk 1 rfl) (by kernel_rfl)⟩, trivial⟩, ?_⟩
    have s1153 : St h g (ids [c_t]) g [[(b1001, Obj.cells #[.int .i64 rc1143] 24 (0, 0))], c_t] h1151 := ((s1152.front 0 rfl).front 1 rfl)
    have s1154 : St h g (ids [c_t]) g [c_t] h1151 := (s1153).drop
    refine hR _ _ _ _ s1154 ⟨c_t, ?_, ?_, rfl, rfl⟩
    ·exact (eqI (by (rw [dropT_2 (by assumption) (by assumption) (by assumption), if_pos hkid]; exact hrc1144 (by simp))))
    ·exact o_t.eq (by (rw [dropT_2 (by assumption) (by assumption) (by assumption), if_pos hkid]; done))
end Go.Proofs.YtmjebehhpojihaaGreatDoor.Sw
namespace Go.Proofs.YtmjebehhpojihaaGreatDoor.Sw
set_option linter.unusedVariables false
set_option linter.unusedSimpArgs false
set_option linter.deprecated false
open Go
def atP (ns : List Leaf) (p : Str) : Int := findI (fun n => decide (n.Path = p)) ns
theorem atP_ge (ns : List Leaf) (p : Str) : -1 ≤ atP ns p := findI_ge _ _
theorem atP_cons (n : Leaf) (ns : List Leaf) (p : Str) : atP (n :: ns) p = if n.Path = p then 0 else if atP ns p < 0 then -1 else atP ns p + 1 := by
  unfold atP
  conv => lhs; unfold findI
  by_cases h : n.Path = p <;> simp [h]
theorem findL_cons (n : Leaf) (ns : List Leaf) (p : Str) : findL (n :: ns) p = if n.Path = p then some n else findL ns p := by
  unfold findL
  rw [List.find?_cons]
  by_cases h : n.Path = p <;> simp [h]
theorem atP_spec : ∀ (ns : List Leaf) (p : Str), (atP ns p = -1 ∧ findL ns p = none) ∨ (0 ≤ atP ns p ∧ atP ns p < ns.length ∧ ∃ x, ns[(atP ns p).toNat]? = some x ∧ findL ns p = some x)
  | [], p => .inl ⟨rfl, rfl⟩
  | n :: ns, p => by
    have ih := atP_spec ns p
    rw [atP_cons, findL_cons]
    by_cases h : n.Path = p
    · refine .inr ?_
      rw [if_pos h, if_pos h]
      exact ⟨by omega, by rw [List.length_cons]; omega, n, rfl, rfl⟩
    · rw [if_neg h, if_neg h]
      rcases ih with ⟨h1, h2⟩ | ⟨h1, h2, x, h3, h4⟩
      · rw [h1]
        exact .inl ⟨rfl, h2⟩
      · refine .inr ?_
        rw [if_neg (by omega)]
        refine ⟨by omega, by rw [List.length_cons]; omega, x, ?_, h4⟩
        rw [toNat_succ h1]
        exact h3
theorem atP_none {ns : List Leaf} {p : Str} (h : atP ns p < 0) : findL ns p = none := by
  rcases atP_spec ns p with ⟨_, h2⟩ | ⟨h1, _⟩
  · exact h2
  · omega
theorem atP_lt {ns : List Leaf} {p : Str} : atP ns p < ns.length := by
  rcases atP_spec ns p with ⟨h1, _⟩ | ⟨_, h, _⟩
  · rw [h1]; omega
  · exact h
theorem atP_some {ns : List Leaf} {p : Str} {x : Leaf} (h : ¬ atP ns p < 0) (hx : ns[(atP ns p).toNat]? = some x) : findL ns p = some x := by
  rcases atP_spec ns p with ⟨h1, _⟩ | ⟨_, _, y, h3, h4⟩
  · omega
  · rw [hx] at h3; cases h3; exact h4
theorem atP_isSome {ns : List Leaf} {p : Str} (h : atP ns p ≥ 0) : (findL ns p).isSome = true := by
  rcases atP_spec ns p with ⟨h1, _⟩ | ⟨_, _, y, h3, h4⟩
  · omega
  · rw [h4]; rfl
theorem atP_no {ns : List Leaf} {p : Str} (h : ¬ atP ns p ≥ 0) : findL ns p = none := atP_none (by omega)
def withI (ns : List Leaf) (l : Leaf) (i : Int) (out : List Leaf) (put : Bool) : Prop := (if put = true then out ++ delL (ns.drop i.toNat) l.Path else out ++ insL l (delL (ns.drop i.toNat) l.Path)) = withL ns l
theorem withI_0 (ns : List Leaf) (l : Leaf) : withI ns l 0 [] false := rfl
section
variable {ns out : List Leaf} {l x : Leaf} {i : Int} {put : Bool}
theorem drop_cons (h0 : 0 ≤ i) (hx : ns[i.toNat]? = some x) : ns.drop i.toNat = x :: ns.drop (i + 1).toNat := by
  rw [toNat_succ h0]
  obtain ⟨h1, h2⟩ := List.getElem?_eq_some_iff.1 hx
  rw [List.drop_eq_getElem_cons h1, h2]
theorem del_same (r : List Leaf) (h : x.Path = l.Path) : delL (x :: r) l.Path = delL r l.Path := by unfold delL; rw [List.filter_cons]; simp [h]
theorem del_other (r : List Leaf) (h : ¬ x.Path = l.Path) : delL (x :: r) l.Path = x :: delL r l.Path := by unfold delL; rw [List.filter_cons]; simp [h]
theorem withI_skip (H : withI ns l i out put) (h0 : 0 ≤ i) (hx : ns[i.toNat]? = some x) (h : x.Path = l.Path) : withI ns l (i + 1) out put := by
  unfold withI at *
  rw [drop_cons h0 hx, del_same _ h] at H
  exact H
theorem withI_put (H : withI ns l i out put) (h0 : 0 ≤ i) (hx : ns[i.toNat]? = some x) (h : ¬ x.Path = l.Path) (hp : put = false) (hl : Go.Op.bytesLess l.Path x.Path = true) : withI ns l (i + 1) ((out ++ [l]) ++ [x]) true := by
  unfold withI at *
  rw [drop_cons h0 hx, del_other _ h] at H
  subst hp
  simp only [Bool.false_eq_true, if_false, if_true] at H ⊢
  rw [← H]
  unfold insL
  rw [if_pos (show lt8 l.Path x.Path = true from hl)]
  simp
theorem withI_t (H : withI ns l i out put) (h0 : 0 ≤ i) (hx : ns[i.toNat]? = some x) (h : ¬ x.Path = l.Path) (hp : put = true) : withI ns l (i + 1) (out ++ [x]) put := by
  unfold withI at *
  rw [drop_cons h0 hx, del_other _ h] at H
  subst hp
  simp only [if_true] at H ⊢
  rw [← H]
  simp
theorem withI_f (H : withI ns l i out put) (h0 : 0 ≤ i) (hx : ns[i.toNat]? = some x) (h : ¬ x.Path = l.Path) (hp : put = false) (hl : Go.Op.bytesLess l.Path x.Path = false) : withI ns l (i + 1) (out ++ [x]) put := by
  unfold withI at *
  rw [drop_cons h0 hx, del_other _ h] at H
  subst hp
  simp only [Bool.false_eq_true, if_false] at H ⊢
  rw [← H]
  conv => rhs; unfold insL
  rw [if_neg (by unfold lt8; rw [hl]; simp)]
  simp
theorem withI_end1 (H : withI ns l i out put) (hi : ¬ i < ns.length) (hp : put = true) : out = withL ns l := by
  unfold withI at H
  rw [List.drop_eq_nil_of_le (by omega)] at H
  subst hp
  simpa [delL] using H
theorem withI_end0 (H : withI ns l i out put) (hi : ¬ i < ns.length) (hp : put = false) : out ++ [l] = withL ns l := by
  unfold withI at H
  rw [List.drop_eq_nil_of_le (by omega)] at H
  subst hp
  simpa [delL, insL] using H
theorem withI_len (H : withI ns l i out put) (h0 : 0 ≤ i) (hi : i ≤ ns.length) : out.length ≤ ns.length + 1 := by
  have h1 := congrArg List.length H
  have h2 : (withL ns l).length ≤ ns.length + 1 := by
    rw [(withL_perm ns l).length_eq, List.length_cons]
    have := List.length_filter_le (fun n : Leaf => !decide (n.Path = l.Path)) ns
    unfold delL
    omega
  split at h1 <;> rw [List.length_append] at h1 <;> omega
end
theorem kidI_in {ns : List Leaf} {p : Str} {i : Int} {x : Leaf} {out : List Str} (H : out = kidsL (ns.take i.toNat) p) (h0 : 0 ≤ i) (hx : ns[i.toNat]? = some x) (h1 : cutErr x.Path = 0) (h2 : parentOf x.Path = p) : out ++ [x.Path] = kidsL (ns.take (i + 1).toNat) p := by
  rw [toNat_succ h0, take_at hx, H]
  unfold kidsL
  rw [List.filter_append, List.map_append]
  simp [kidB, h1, h2]
theorem kidI_out1 {ns : List Leaf} {p : Str} {i : Int} {x : Leaf} {out : List Str} (H : out = kidsL (ns.take i.toNat) p) (h0 : 0 ≤ i) (hx : ns[i.toNat]? = some x) (h1 : ¬ cutErr x.Path = 0) : out = kidsL (ns.take (i + 1).toNat) p := by
  rw [toNat_succ h0, take_at hx, H]
  unfold kidsL
  rw [List.filter_append, List.map_append]
  simp [kidB, h1]
theorem kidI_out2 {ns : List Leaf} {p : Str} {i : Int} {x : Leaf} {out : List Str} (H : out = kidsL (ns.take i.toNat) p) (h0 : 0 ≤ i) (hx : ns[i.toNat]? = some x) (h2 : ¬ parentOf x.Path = p) : out = kidsL (ns.take (i + 1).toNat) p := by
  rw [toNat_succ h0, take_at hx, H]
  unfold kidsL
  rw [List.filter_append, List.map_append]
  simp [kidB, h2]
theorem kidI_end {ns : List Leaf} {p : Str} {i : Int} {out : List Str} (H : out = kidsL (ns.take i.toNat) p) (hi : ¬ i < ns.length) : out = kidsL ns p := by rw [H, List.take_of_length_le (by omega)]
def ownI (ns : List Leaf) (ow : List Int) (i : Int) (out : List Str) : Prop := out = ownedL (ns.drop (i + 1).toNat) ow
theorem ownI_0 (ns : List Leaf) (ow : List Int) : ownI ns ow ((ns.length : Int) - 1) [] := by
  unfold ownI
  rw [List.drop_eq_nil_of_le (by omega)]
  rfl
theorem ownI_step {ns : List Leaf} {ow : List Int} {i : Int} {x : Leaf} {out : List Str} (H : ownI ns ow i out) (h0 : 0 ≤ i) (hx : ns[i.toNat]? = some x) :
    ownI ns ow (i - 1) (if (ow.any fun o => decide (o = x.Owner)) = true then out ++ [x.Path] else out) := by
  unfold ownI at *
  have : (i - 1 + 1).toNat = i.toNat := by omega
  rw [this, drop_cons h0 hx, H]
  unfold ownedL
  rw [List.filter_cons]
  have h1 : (ow.any fun o => decide (x.Owner = o)) = ow.any fun o => decide (o = x.Owner) := by
    congr 1; funext o; simp [eq_comm]
  rw [h1]
  split <;> simp
def atL (ns : List Leaf) (i : Int) : Leaf := ns.getD i.toNat leaf0
theorem atL_eq {ns : List Leaf} {i : Int} {x : Leaf} (hx : ns[i.toNat]? = some x) : atL ns i = x := by simp [atL, List.getD, hx]
theorem anyO_t {α : Type} {q : α → Bool} {l : List α} {k : Int} {b : Bool} (h : b = (l.take k.toNat).any q) (h0 : 0 ≤ k) (hb : b = true) : true = (l.take (k + 1).toNat).any q := by
  subst hb
  rw [toNat_succ h0, List.take_add_one, List.any_append, ← h, Bool.true_or]
theorem anyO_s {ns : List Leaf} {l : List Int} {k i : Int} {b : Bool} {o : Int} {x : Leaf} (h : b = (l.take k.toNat).any (fun c => decide (c = (atL ns i).Owner))) (hb : b = false) (h0 : 0 ≤ k) (hx : l[k.toNat]? = some o) (hy : ns[i.toNat]? = some x) : (o == x.Owner) = (l.take (k + 1).toNat).any (fun c => decide (c = (atL ns i).Owner)) := by
  subst hb
  rw [toNat_succ h0, take_at hx, List.any_append, ← h, atL_eq hy]
  rw [Bool.eq_iff_iff]
  simp
theorem ownI_in {ns : List Leaf} {ow : List Int} {i k : Int} {x : Leaf} {out : List Str} {b : Bool} (H : ownI ns ow i out) (h0 : 0 ≤ i) (hx : ns[i.toNat]? = some x) (h : b = (ow.take k.toNat).any (fun c => decide (c = (atL ns i).Owner))) (hk : ¬ k < ow.length) (hb : b = true) : ownI ns ow (i - 1) (out ++ [x.Path]) := by
  have h1 := ownI_step H h0 hx
  rw [List.take_of_length_le (by omega), atL_eq hx, hb] at h
  rwa [← h, if_pos rfl] at h1
theorem ownI_out {ns : List Leaf} {ow : List Int} {i k : Int} {out : List Str} {b : Bool} (H : ownI ns ow i out) (h0 : 0 ≤ i) (hi : i < ns.length) (h : b = (ow.take k.toNat).any (fun c => decide (c = (atL ns i).Owner))) (hk : ¬ k < ow.length) (hb : b = false) : ownI ns ow (i - 1) out := by
  have hx : ns[i.toNat]? = some (ns[i.toNat]'(by omega)) := List.getElem?_eq_getElem _
  have h1 := ownI_step H h0 hx
  rw [List.take_of_length_le (by omega), atL_eq hx, hb] at h
  rwa [← h, if_neg (by simp)] at h1
theorem ownI_end {ns : List Leaf} {ow : List Int} {i : Int} {out : List Str} (H : ownI ns ow i out) (hi : ¬ i ≥ 0) (h : -1 ≤ i) : out = ownedL ns ow := by
  unfold ownI at H
  have : (i + 1).toNat = 0 := by omega
  rw [this] at H
  simpa using H
theorem ownI_len {ns : List Leaf} {ow : List Int} {i : Int} {out : List Str} (H : ownI ns ow i out) : out.length ≤ ns.length := by
  rw [H]
  unfold ownedL
  rw [List.length_reverse, List.length_map]
  exact Nat.le_trans (List.length_filter_le _ _) (by rw [List.length_drop]; omega)
theorem kids_len2 {ns : List Leaf} {p : Str} {i : Int} {out : List Str} (H : out = kidsL (ns.take i.toNat) p) : out.length ≤ ns.length := by
  rw [H]
  exact Nat.le_trans (kidsL_len _ _) (by rw [List.length_take]; omega)
theorem takeCut {ns : List Leaf} (hs : SortL ns) {k : Nat} {x : Leaf} (hx : ns[k]? = some x) : ns.take k ++ ns.drop (k + 1) = delL ns x.Path := by
  have hn := hs.nodup
  clear hs
  induction ns generalizing k with
  | nil => cases hx
  | cons n ns ih =>
    rw [List.map_cons, List.nodup_cons] at hn
    cases k with
    | zero =>
      simp only [List.getElem?_cons_zero, Option.some.injEq] at hx
      subst hx
      have : delL (n :: ns) n.Path = ns := by
        unfold delL
        rw [List.filter_cons]
        simp only [decide_true, Bool.not_true, Bool.false_eq_true, if_false]
        exact delL_none (findL_none.2 fun x hx e => hn.1 (e ▸ List.mem_map.2 ⟨x, hx, rfl⟩))
      rw [this]
      simp
    | succ k =>
      simp only [List.getElem?_cons_succ] at hx
      have hne : n.Path ≠ x.Path := fun e => hn.1 (e ▸ List.mem_map.2 ⟨x, List.mem_of_getElem? hx, rfl⟩)
      have : delL (n :: ns) x.Path = n :: delL ns x.Path := by
        unfold delL
        rw [List.filter_cons]
        simp [hne]
      rw [this, ← ih hx hn.2]
      simp
section
variable {ns : List Leaf} {p data q : Str} {owner born ver o' b' : Int} {num : Bool} {up x : Leaf} {k : Int}
theorem rm_1 (h : ¬ cutErr p = 0) : makeT ns p data owner born num = (ns, [], cutErr p) := by unfold makeT; rw [if_pos h]
theorem rm_2 (h : cutErr p = 0) (h2 : (data.length : Int) > 128) : makeT ns p data owner born num = (ns, [], 104) := by
  unfold makeT; rw [if_neg (by simpa using h), if_pos (by omega)]
theorem rm_3 (h : cutErr p = 0) (h2 : ¬ (data.length : Int) > 128) (h3 : atP ns (parentOf p) < 0) : makeT ns p data owner born num = (ns, [], 100) := by
  unfold makeT; rw [if_neg (by simpa using h), if_neg (by omega), atP_none h3]
theorem rm_4 (h : cutErr p = 0) (h2 : ¬ (data.length : Int) > 128) (h3 : findL ns (parentOf p) = some up) (h4 : ¬ up.Owner = -1) : makeT ns p data owner born num = (ns, [], 105) := by
  unfold makeT; rw [if_neg (by simpa using h), if_neg (by omega), h3]; exact if_pos h4
theorem rm_5 (h : cutErr p = 0) (h2 : ¬ (data.length : Int) > 128) (h3 : findL ns (parentOf p) = some up) (h4 : up.Owner = -1) (hn : num = true) (he : ¬ numE p up.Next = 0) : makeT ns p data owner born num = (ns, [], numE p up.Next) :=
  mk_2 (parE_5 h h2 h3 h4) h3 hn he
theorem mkE_f (hn : num = false) : makeE up p num = 0 ∧ makeN up p num = p := by subst hn; exact ⟨rfl, rfl⟩
theorem mkE_t (hn : num = true) (he : numE p up.Next = 0) : makeE up p num = 0 ∧ makeN up p num = numS p up.Next := by subst hn; exact ⟨he, rfl⟩
theorem rm_6 (h : cutErr p = 0) (h2 : ¬ (data.length : Int) > 128) (h3 : findL ns (parentOf p) = some up) (h4 : up.Owner = -1) (h5 : makeE up p num = 0 ∧ makeN up p num = q) (h6 : atP ns q ≥ 0) : makeT ns p data owner born num = (ns, [], 101) :=
  mk_3 (parE_5 h h2 h3 h4) h3 h5.1 h5.2 (atP_isSome h6)
theorem rm_7 (h : cutErr p = 0) (h2 : ¬ (data.length : Int) > 128) (h3 : findL ns (parentOf p) = some up) (h4 : up.Owner = -1) (h5 : makeE up p num = 0 ∧ makeN up p num = q) (h6 : ¬ atP ns q ≥ 0) (hl : (ns.length : Int) ≥ 32) : makeT ns p data owner born num = (ns, [], 104) :=
  mk_4 (parE_5 h h2 h3 h4) h3 h5.1 h5.2 (atP_no h6) hl
theorem rm_8 (h : cutErr p = 0) (h2 : ¬ (data.length : Int) > 128) (h3 : findL ns (parentOf p) = some up) (h4 : up.Owner = -1) (h5 : makeE up p num = 0 ∧ makeN up p num = q) (h6 : ¬ atP ns q ≥ 0) (hl : ¬ (ns.length : Int) ≥ 32) : makeT ns p data owner born num = (madeL ns up q data owner born num, q, 0) :=
  mk_5 (parE_5 h h2 h3 h4) h3 h5.1 h5.2 (atP_no h6) hl
theorem madeR {un : Int} (hu : un = if num = true then IntKind.wrap .i64 (up.Next + 1) else up.Next) (ho : o' = max owner (-1)) (hb : b' = max born 0) : withL (withL ns ⟨up.Path, up.Data, up.Version, up.Owner, un, up.Born⟩) ⟨q, data, 0, o', 0, b'⟩ = madeL ns up q data owner born num := by
  subst hu ho hb
  cases num <;> rfl
theorem dr_2 (h : cutErr p = 0) (h2 : atP ns p < 0) : dropT ns p ver = (ns, 100) := by unfold dropT; rw [if_neg (by simpa using h), atP_none h2]
theorem dr_3 (h : cutErr p = 0) (h2 : findL ns p = some x) (h3 : ver ≥ 0) (h4 : ¬ x.Version = ver) : dropT ns p ver = (ns, 102) := by
  unfold dropT; rw [if_neg (by simpa using h), h2]; exact if_pos ⟨h3, h4⟩
theorem dr_4 (h : cutErr p = 0) (h2 : findL ns p = some x) (h3 : ¬ (ver ≥ 0 ∧ x.Version ≠ ver)) (h4 : ((kidsL ns p).length : Int) > 0) : dropT ns p ver = (ns, 103) := by
  unfold dropT
  rw [if_neg (by simpa using h), h2]
  simp only []
  rw [if_neg h3, if_pos (fun e => by rw [e] at h4; simp at h4)]
theorem dr_5 (h : cutErr p = 0) (h2 : findL ns p = some x) (h3 : ¬ (ver ≥ 0 ∧ x.Version ≠ ver)) (h4 : ¬ ((kidsL ns p).length : Int) > 0) : dropT ns p ver = (delL ns p, 0) := by
  unfold dropT
  rw [if_neg (by simpa using h), h2]
  simp only []
  rw [if_neg h3, if_neg]
  intro e
  have := List.length_pos_iff.2 e
  omega
theorem ver_ok1 (h : ¬ ver ≥ 0) : ¬ (ver ≥ 0 ∧ x.Version ≠ ver) := fun e => h e.1
theorem ver_ok2 (h : x.Version = ver) : ¬ (ver ≥ 0 ∧ x.Version ≠ ver) := fun e => e.2 h
theorem atP_some' (h : ¬ atP ns p < 0) : ∃ x, ns[(atP ns p).toNat]? = some x ∧ findL ns p = some x := by
  rcases atP_spec ns p with ⟨h1, _⟩ | ⟨_, _, y, h3, h4⟩
  · omega
  · exact ⟨y, h3, h4⟩
theorem atP_atL (h : ¬ atP ns p < 0) : findL ns p = some (atL ns (atP ns p)) := by
  obtain ⟨x, h1, h2⟩ := atP_some' h
  rw [atL_eq h1]; exact h2
theorem dr_del (hs : SortL ns) (h : ¬ atP ns p < 0) : ns.take (atP ns p).toNat ++ ns.drop (atP ns p + 1).toNat = delL ns p := by
  obtain ⟨x, h1, h2⟩ := atP_some' h
  have := takeCut hs h1
  rw [(findL_some h2).2] at this
  rw [← this, toNat_succ (by omega)]
theorem st_1 (h : ¬ pErr p = 0) : setT ns p data ver = (ns, 0, 90) := by unfold setT; rw [if_pos h, pErr_90 h]
theorem st_2 (h : pErr p = 0) (h2 : atP ns p < 0) : setT ns p data ver = (ns, 0, 100) := by unfold setT; rw [if_neg (by simpa using h), atP_none h2]
theorem st_3 (h : pErr p = 0) (h2 : findL ns p = some x) (h3 : ver ≥ 0) (h4 : ¬ x.Version = ver) : setT ns p data ver = (ns, 0, 102) := by
  unfold setT; rw [if_neg (by simpa using h), h2]; exact if_pos ⟨h3, h4⟩
theorem st_4 (h : pErr p = 0) (h2 : findL ns p = some x) (h3 : ¬ (ver ≥ 0 ∧ x.Version ≠ ver)) (h4 : (data.length : Int) > 128) : setT ns p data ver = (ns, 0, 104) := by
  unfold setT
  rw [if_neg (by simpa using h), h2]
  simp only []
  rw [if_neg h3, if_pos (by omega)]
theorem st_5 (h : pErr p = 0) (h2 : findL ns p = some x) (h3 : ¬ (ver ≥ 0 ∧ x.Version ≠ ver)) (h4 : ¬ (data.length : Int) > 128) : setT ns p data ver = (withL ns ⟨x.Path, data, IntKind.wrap .i64 (x.Version + 1), x.Owner, x.Next, x.Born⟩, IntKind.wrap .i64 (x.Version + 1), 0) := by
  unfold setT
  rw [if_neg (by simpa using h), h2]
  simp only []
  rw [if_neg h3, if_neg (by omega)]
theorem gt_1 (h : ¬ pErr p = 0) : getT ns p = (⟨[], [], 0, 0, 0, 0⟩, 90) := by unfold getT; rw [if_neg h, pErr_90 h]; rfl
theorem gt_2 (h : pErr p = 0) (h2 : atP ns p < 0) : getT ns p = (⟨[], [], 0, 0, 0, 0⟩, 100) := by unfold getT; rw [if_pos h, atP_none h2]; rfl
theorem gt_3 (h : pErr p = 0) (h2 : ¬ atP ns p < 0) (hx : ((ns.take (atP ns p + 1).toNat).drop (atP ns p).toNat)[(0 : Int).toNat]? = some x) : getT ns p = (x, 0) := by
  obtain ⟨y, h3, h4⟩ := atP_some' h2
  have : ((ns.take (atP ns p + 1).toNat).drop (atP ns p).toNat)[(0 : Int).toNat]? = some y := by
    rw [List.getElem?_drop, List.getElem?_take]
    simp only [Int.toNat_zero, Nat.add_zero]
    rw [if_pos (by omega), h3]
  rw [this] at hx
  cases hx
  unfold getT
  rw [if_pos h, h4]
theorem kt_1 (h : ¬ (getT ns p).2 = 0) : kidsT ns p = ([], (getT ns p).2) := by
  unfold getT at h ⊢; unfold kidsT
  by_cases hp : pErr p = 0
  · rw [if_pos hp] at h ⊢
    rw [if_neg (by simpa using hp)]
    cases hf : findL ns p with
    | none => rfl
    | some l => rw [hf] at h; exact absurd rfl h
  · rw [if_neg hp, if_pos hp]
theorem kt_2 (h : (getT ns p).2 = 0) : kidsT ns p = (kidsL ns p, 0) := by
  unfold getT at h; unfold kidsT
  by_cases hp : pErr p = 0
  · rw [if_pos hp] at h
    rw [if_neg (by simpa using hp)]
    cases hf : findL ns p with
    | none => rw [hf] at h; cases h
    | some l => rfl
  · rw [if_neg hp] at h; exact absurd h hp
theorem u8_eq {a b : UInt8} (h : (a.toNat : Int) = (b.toNat : Int)) : a = b := UInt8.toNat_inj.1 (by omega)
theorem u8_ne {a b : UInt8} (h : ¬ (a.toNat : Int) = (b.toNat : Int)) : ¬ a = b := fun e => h (by rw [e])
theorem leaf_eq (a b : Leaf) : decide (a = b) = (decide (a.Path = b.Path) && (decide (a.Data = b.Data) && (decide (a.Version = b.Version) && (decide (a.Owner = b.Owner) && (decide (a.Next = b.Next) && decide (a.Born = b.Born)))))) := by
  obtain ⟨a1, a2, a3, a4, a5, a6⟩ := a
  obtain ⟨b1, b2, b3, b4, b5, b6⟩ := b
  rw [Bool.eq_iff_iff]
  simp [Leaf.mk.injEq]
theorem lfN {a b : Leaf} (h : ¬ a.Path = b.Path ∨ ¬ a.Data = b.Data ∨ ¬ a.Version = b.Version ∨ ¬ a.Owner = b.Owner ∨ ¬ a.Next = b.Next) : false = decide (a = b) := by
  refine (decide_eq_false fun e => ?_).symm
  subst e
  rcases h with h | h | h | h | h
  all_goals exact h rfl
theorem lfY {a b : Leaf} (h1 : a.Path = b.Path) (h2 : a.Data = b.Data) (h3 : a.Version = b.Version) (h4 : a.Owner = b.Owner) (h5 : a.Next = b.Next) : (a.Born == b.Born) = decide (a = b) := by
  rw [leaf_eq, decide_eq_true h2, decide_eq_true h1, decide_eq_true h3, decide_eq_true h4, decide_eq_true h5]
  simp only [Bool.true_and]
  rw [Bool.eq_iff_iff]
  simp
def marks8 : Str := [201, 202, 203, 204, 205, 206, 207, 208]
theorem spare_step {b out : Str} {i : Int} (h : out = b ++ marks8.take i.toNat) (h0 : 0 ≤ i) (hi : i < 8) : out ++ [UInt8.ofNat (201 + i).toNat] = b ++ marks8.take (i + 1).toNat := by
  obtain ⟨n, rfl⟩ : ∃ n : Nat, i = n := ⟨i.toNat, by omega⟩
  rw [h, List.append_assoc]
  congr 1
  have hn : n < 8 := by omega
  have e1 : ((n : Int)).toNat = n := by omega
  have e2 : ((n : Int) + 1).toNat = n + 1 := by omega
  have e3 : (201 + (n : Int)).toNat = 201 + n := by omega
  rw [e1, e2, e3]
  have : ∀ m : Nat, m < 8 → marks8.take m ++ [UInt8.ofNat (201 + m)] = marks8.take (m + 1) := by decide
  exact this n hn
end
section
variable {list : List Leaf} {i : Int} {l x : Leaf}
end
section
variable {list : List Leaf} {i : Int} {l x : Leaf}
end
end Go.Proofs.YtmjebehhpojihaaGreatDoor.Sw
namespace Go.Proofs.YtmjebehhpojihaaGreatDoor.Sw
set_option linter.unusedVariables false
set_option linter.unusedSimpArgs false
set_option linter.deprecated false
open Go
section
variable {k : Int} {ns : List Leaf} {ow : List Int}
end
section
variable {k : Int} {ns : List Leaf} {p data : Str} {num : Bool}
structure Back (k : Int) (ns : List Leaf) (p data : Str) (num : Bool) (q : Str) (up : Leaf) (n1 : List Leaf) : Prop where
  make : makeT ns p data (-1) 5 num = (n1, q, 0)
  ok : TreeOk (k + 1) n1
  get : getT n1 q = (⟨q, data, 0, -1, 0, 5⟩, 0)
  len : n1.length = ns.length + 1
  set : ∀ d : Str, d.length ≤ 128 → setT n1 q d 0 = (withL n1 ⟨q, d, 1, -1, 0, 5⟩, 1, 0)
  ok2 : ∀ d : Str, d.length ≤ 128 → TreeOk (k + 2) (withL n1 ⟨q, d, 1, -1, 0, 5⟩)
  set2 : ∀ d d2 : Str, d.length ≤ 128 → setT (withL n1 ⟨q, d, 1, -1, 0, 5⟩) q d2 0 = (withL n1 ⟨q, d, 1, -1, 0, 5⟩, 0, 102)
  drop1 : ∀ d : Str, d.length ≤ 128 → dropT (withL n1 ⟨q, d, 1, -1, 0, 5⟩) q 0 = (withL n1 ⟨q, d, 1, -1, 0, 5⟩, 102)
  drop2 : ∀ d : Str, d.length ≤ 128 → dropT (withL n1 ⟨q, d, 1, -1, 0, 5⟩) q 1 = (upL ns up num, 0)
  up : up ∈ ns ∧ parentOf q = up.Path ∧ cutErr q = 0
end
section
variable {k : Int} {ns : List Leaf}
end
end Go.Proofs.YtmjebehhpojihaaGreatDoor.Sw
namespace Go.Proofs.YtmjebehhpojihaaGreatDoor.Sw
open Go
set_option maxRecDepth 100000
set_option linter.unusedVariables false
set_option linter.unusedSimpArgs false
set_option linter.deprecated false
theorem copyBytes (B : World) (h : Heap) (g : GH) (hg : Sub g h) (hG : Glob g) (v_s : Value) (s : List UInt8) (h_s : SlR g 5 kU8 v_s s) (h1 : s.length ≤ 1000000000) :
  Spec Tryz.prog B 29 #[v_s] h g [] (fun rv g' L' => ∃ v0 k0, rv = v0 ∧ Row 5 kU8 g' v0 s k0 ∧ g' = g ∧ L' = [k0]) := by
 obtain ⟨a_s, n_s, rfl⟩ := h_s.form
 refine Spec.of_at (f := Tryz.f29) (e := [(0, .slice a_s s.length n_s)]) Tryz.func29 (by kernel_rfl) (Nat.le_of_ble_eq_true (by kernel_rfl)) (by kernel_rfl) (by kernel_rfl) ?_
 intro R hR
 have s0 := St.init hg
 refine At.reg (L := [(0, false)]) (by kernel_rfl) ?_
 refine Op.pures 1 [0] (L' := []) (e' := [(0, .slice a_s s.length n_s)]) (by kernel_rfl) ?_
 refine Op.goto 1 (by kernel_rfl) ?_
 refine At.reg (L := [(0, false), (1, false)]) (by kernel_rfl) ?_
 refine Op.lit (T := 29) (len := 0) (parts := #[]) (dst := 4) (E := 5) (ps := []) (cs := #[]) (by kernel_rfl) (by kernel_rfl) (by kernel_rfl) s0 ?_
 intro b1001 h1002 s1003
 refine Op.pures 1 [0, 3] (L' := []) (e' := [(0, .slice a_s s.length n_s), (3, .slice (some ⟨b1001, 0, none⟩) 0 0)]) (by kernel_rfl) ?_
 refine Op.goto 2 (by kernel_rfl) ?_
 refine At.reg (L := [(0, false), (1, false), (2, false), (3, false)]) (by kernel_rfl) ?_
 refine Op.pures 2 [3, 5, 6] (L' := [(2, false), (3, false)]) (e' := [(3, .slice (some ⟨b1001, 0, none⟩) 0 0), (5, .slice (some ⟨b1001, 0, none⟩) 0 0), (6, .slice a_s s.length n_s)]) (by kernel_rfl) ?_
 have R1004 : Row 5 kU8 g (.slice (some ⟨b1001, 0, none⟩) 0 0) ([] : List UInt8) [(b1001, Obj.cells #[] 5 (0, 0))] := Row.lit (by kernel_rfl) (by unfold maxLen; decide) (by kernel_rfl) Reads.nil
 obtain ⟨ns1005, hs1006, hr1007⟩ := Src.slice (P := Tryz.prog) (h_s.toH s1003.sub)
 refine Op.append (x := (.tmp 5)) (y := (.tmp 6)) (t := 29) (t' := 29) (dst := 7) (E := 5) (by_ := 1) (d := kU8) (by kernel_rfl) (by kernel_rfl) (by kernel_rfl) (by kernel_rfl) rfl R1004 s1003 0 rfl hs1006 (ys := s) hr1007 rfl (by (simp only [List.length_append, List.length_cons, List.length_nil, List.length_take, List.length_drop]; omega)) (fun _ _ _ => trivial) ?_
 intro v1008 ch1009 h1010 R1011 s1012 nn1013
 obtain ⟨a1014, n1015, rfl⟩ := R1011.form
 refine Op.pures 1 [3] (L' := []) (e' := [(3, .slice a1014 ((([] : List UInt8) ++ s).length) n1015)]) (by kernel_rfl) ?_
 refine Op.goto 3 (by kernel_rfl) ?_
 refine At.reg (L := [(0, false), (1, false)]) (by kernel_rfl) ?_
 refine Op.pures 2 [2] (L' := []) (e' := [(2, .slice a1014 ((([] : List UInt8) ++ s).length) n1015)]) (by kernel_rfl) ?_
 refine Op.goto 4 (by kernel_rfl) ?_
 refine At.ret (f := Tryz.f29) (v := .slice a1014 ((([] : List UInt8) ++ s).length) n1015) (by kernel_rfl) (by kernel_rfl) ?_
 refine hR _ _ _ _ s1012 ⟨(.slice a1014 ((([] : List UInt8) ++ s).length) n1015), ch1009, ?_, ?_, rfl, rfl⟩
 ·exact rfl
 ·exact rowEq R1011 (by simp)
theorem copyInts (B : World) (h : Heap) (g : GH) (hg : Sub g h) (hG : Glob g) (v_s : Value) (s : List Int) (h_s : SlR g 3 (kInt .i64) v_s s) (h1 : s.length ≤ 1000000000) :
  Spec Tryz.prog B 32 #[v_s] h g [] (fun rv g' L' => ∃ v0 k0, rv = v0 ∧ Row 3 (kInt .i64) g' v0 s k0 ∧ g' = g ∧ L' = [k0]) := by
 obtain ⟨a_s, n_s, rfl⟩ := h_s.form
 refine Spec.of_at (f := Tryz.f32) (e := [(0, .slice a_s s.length n_s)]) Tryz.func32 (by kernel_rfl) (Nat.le_of_ble_eq_true (by kernel_rfl)) (by kernel_rfl) (by kernel_rfl) ?_
 intro R hR
 have s0 := St.init hg
 refine At.reg (L := [(0, false)]) (by kernel_rfl) ?_
 refine Op.pures 1 [0] (L' := []) (e' := [(0, .slice a_s s.length n_s)]) (by kernel_rfl) ?_
 refine Op.goto 1 (by kernel_rfl) ?_
 refine At.reg (L := [(0, false), (1, false)]) (by kernel_rfl) ?_
 refine Op.lit (T := 44) (len := 0) (parts := #[]) (dst := 4) (E := 3) (ps := []) (cs := #[]) (by kernel_rfl) (by kernel_rfl) (by kernel_rfl) s0 ?_
 intro b1016 h1017 s1018
 refine Op.pures 1 [0, 3] (L' := []) (e' := [(0, .slice a_s s.length n_s), (3, .slice (some ⟨b1016, 0, none⟩) 0 0)]) (by kernel_rfl) ?_
 refine Op.goto 2 (by kernel_rfl) ?_
 refine At.reg (L := [(0, false), (1, false), (2, false), (3, false)]) (by kernel_rfl) ?_
 refine Op.pures 2 [3, 5, 6] (L' := [(2, false), (3, false)]) (e' := [(3, .slice (some ⟨b1016, 0, none⟩) 0 0), (5, .slice (some ⟨b1016, 0, none⟩) 0 0), (6, .slice a_s s.length n_s)]) (by kernel_rfl) ?_
 have R1019 : Row 3 (kInt .i64) g (.slice (some ⟨b1016, 0, none⟩) 0 0) ([] : List Int) [(b1016, Obj.cells #[] 3 (0, 0))] := Row.lit (by kernel_rfl) (by unfold maxLen; decide) (by kernel_rfl) Reads.nil
 obtain ⟨ns1020, hs1021, hr1022⟩ := Src.slice (P := Tryz.prog) (h_s.toH s1018.sub)
 refine Op.append (x := (.tmp 5)) (y := (.tmp 6)) (t := 44) (t' := 44) (dst := 7) (E := 3) (by_ := 8) (d := (kInt .i64)) (by kernel_rfl) (by kernel_rfl) (by kernel_rfl) (by kernel_rfl) rfl R1019 s1018 0 rfl hs1021 (ys := s) hr1022 rfl (by (simp only [List.length_append, List.length_cons, List.length_nil, List.length_take, List.length_drop]; omega)) (fun _ _ _ => trivial) ?_
 intro v1023 ch1024 h1025 R1026 s1027 nn1028
 obtain ⟨a1029, n1030, rfl⟩ := R1026.form
 refine Op.pures 1 [3] (L' := []) (e' := [(3, .slice a1029 ((([] : List Int) ++ s).length) n1030)]) (by kernel_rfl) ?_
 refine Op.goto 3 (by kernel_rfl) ?_
 refine At.reg (L := [(0, false), (1, false)]) (by kernel_rfl) ?_
 refine Op.pures 2 [2] (L' := []) (e' := [(2, .slice a1029 ((([] : List Int) ++ s).length) n1030)]) (by kernel_rfl) ?_
 refine Op.goto 4 (by kernel_rfl) ?_
 refine At.ret (f := Tryz.f32) (v := .slice a1029 ((([] : List Int) ++ s).length) n1030) (by kernel_rfl) (by kernel_rfl) ?_
 refine hR _ _ _ _ s1027 ⟨(.slice a1029 ((([] : List Int) ++ s).length) n1030), ch1024, ?_, ?_, rfl, rfl⟩
 ·exact rfl
 ·exact rowEq R1026 (by simp)
theorem sameBytes (B : World) (h : Heap) (g : GH) (hg : Sub g h) (hG : Glob g) (v_a : Value) (a : List UInt8) (h_a : SlR g 5 kU8 v_a a) (v_b : Value) (b : List UInt8) (h_b : SlR g 5 kU8 v_b b) (h1 : a.length ≤ 1000000000) :
  Spec Tryz.prog B 40 #[v_a, v_b] h g [] (fun rv g' L' => rv = .bool (decide (a = b)) ∧ g' = g ∧ L' = []) := by
 obtain ⟨a_a, n_a, rfl⟩ := h_a.form
 obtain ⟨a_b, n_b, rfl⟩ := h_b.form
 refine Spec.of_at (f := Tryz.f40) (e := [(0, .slice a_a a.length n_a), (1, .slice a_b b.length n_b)]) Tryz.func40 (by kernel_rfl) (Nat.le_of_ble_eq_true (by kernel_rfl)) (by kernel_rfl) (by kernel_rfl) ?_
 intro R hR
 have s0 := St.init hg
 refine At.reg (L := [(0, false)]) (by kernel_rfl) ?_
 refine Op.pures 1 [0, 1] (L' := []) (e' := [(0, .slice a_a a.length n_a), (1, .slice a_b b.length n_b)]) (by kernel_rfl) ?_
 refine Op.goto 1 (by kernel_rfl) ?_
 refine At.reg (L := [(0, false), (1, false), (2, false), (3, false), (4, false)]) (by kernel_rfl) ?_
 refine Op.pures 5 [0, 1, 10] (L' := []) (e' := [(0, .slice a_a a.length n_a), (1, .slice a_b b.length n_b), (10, .bool ((a.length : Int) != (b.length : Int)))]) (by kernel_rfl) ?_
 refine Op.goto 2 (by kernel_rfl) ?_
 refine At.cond (b := (a.length : Int) != (b.length : Int)) (c := .tmp 10) (by kernel_rfl) (by kernel_rfl) (by kernel_rfl) 3 5 (by kernel_rfl) (by kernel_rfl) (fun hb => ?_) (fun hb => ?_)
 ·have c1031 : ¬ ((a.length : Int) = (b.length : Int)) := bneT hb
  clear hb
  refine At.keep [] ?_; show At _ _ _ [] _
  refine At.reg (L := [(0, false)]) (by kernel_rfl) ?_
  refine Op.pures 1 [4] (L' := []) (e' := [(4, .bool false)]) (by kernel_rfl) ?_
  refine Op.goto 4 (by kernel_rfl) ?_
  refine At.ret (f := Tryz.f40) (v := .bool false) (by kernel_rfl) (by kernel_rfl) ?_
  refine hR _ _ _ _ s0 ⟨?_, rfl, rfl⟩
  exact (eqB (by exact sameE_len (by assumption)))
 ·have c1032 : (a.length : Int) = (b.length : Int) := bneF hb
  clear hb
  refine At.keep [0, 1] ?_; show At _ _ _ [(0, .slice a_a a.length n_a), (1, .slice a_b b.length n_b)] _
  refine At.reg (L := [(0, false)]) (by kernel_rfl) ?_
  refine Op.pures 1 [0, 1, 5] (L' := []) (e' := [(0, .slice a_a a.length n_a), (1, .slice a_b b.length n_b), (5, .int .i64 0)]) (by kernel_rfl) ?_
  refine Op.goto 6 (by kernel_rfl) ?_
  have loop6 : ∀ (m : Nat) (i : Int) (h1033 : Heap) (hm : a.length - i.toNat < m) (h0 : 0 ≤ i) (h2 : i ≤ a.length) (ht : a.take i.toNat = b.take i.toNat)     (s_loop61032 : St h g (ids []) g [] h1033), At (fctx Tryz.prog B 40 Tryz.f40 R) [] 6 [(0, .slice a_a a.length n_a), (1, .slice a_b b.length n_b), (5, .int .i64 i)] h1033 := by
   intro m; induction m with
   | zero => intros; omega
   | succ m ih6 =>
    intro i h1033 hm h0 h2 ht s_loop61032
    refine At.reg (L := [(0, false), (1, false), (2, false), (3, false)]) (by kernel_rfl) ?_
    refine Op.pures 4 [0, 1, 5, 14] (L' := []) (e' := [(0, .slice a_a a.length n_a), (1, .slice a_b b.length n_b), (5, .int .i64 i), (14, .bool (decide (i < (a.length : Int))))]) (by kernel_rfl) ?_
    refine Op.goto 7 (by kernel_rfl) ?_
    refine At.cond (b := decide (i < (a.length : Int))) (c := .tmp 14) (by kernel_rfl) (by kernel_rfl) (by kernel_rfl) 8 13 (by kernel_rfl) (by kernel_rfl) (fun hb => ?_) (fun hb => ?_)
    ·have c1034 : i < (a.length : Int) := of_decide_eq_true hb
     clear hb
     refine At.keep [0, 1, 5] ?_; show At _ _ _ [(0, .slice a_a a.length n_a), (1, .slice a_b b.length n_b), (5, .int .i64 i)] _
     refine At.draw (by kernel_rfl) (fun _ => False) [(0, true), (1, true), (2, true), (4, true), (5, true), (6, true), (3, true), (7, false), (8, true)] (by kernel_rfl) ?_
     refine Op.pures 2 [0, 1, 5, 17, 18] (L' := [(2, true), (4, true), (5, true), (6, true), (3, true), (7, false), (8, true)]) (e' := [(0, .slice a_a a.length n_a), (1, .slice a_b b.length n_b), (5, .int .i64 i), (17, .slice a_a a.length n_a), (18, .int .i64 i)]) (by kernel_rfl) ?_
     obtain ⟨x1035, hx1036⟩ : ∃ c, a[(i : Int).toNat]? = some c := ⟨_, List.getElem?_eq_getElem (by omega)⟩
     obtain ⟨b1037, o1038, cu1039, fz1040, ha1041, hb1042, hk1043⟩ := SlR.at_ h_a _ hx1036
     cases ha1041
     refine Op.idx (T := 29) (E := 5) (sz := 1) (by_ := 1) (n := a.length) (c := n_a) (k := .i64) (x := (.tmp 17)) (ix := (.tmp 18)) (dst := 19) (bk := b1037) (o := o1038) (m := i) (by kernel_rfl) (by kernel_rfl) (by kernel_rfl) (by kernel_rfl) (by omega) (by omega) ?_
     replace hk1043 : cut _ _ _ = [.int .u8 (x1035.toNat : Int)] := hk1043
     refine Op.pures 2 [0, 1, 5, 19, 21, 22] (L' := [(6, true), (3, true), (7, false), (8, true)]) (e' := [(0, .slice (some ⟨b1037, o1038, none⟩) a.length n_a), (1, .slice a_b b.length n_b), (5, .int .i64 i), (19, .pointer (some ⟨b1037, o1038 + (i : Int).toNat * 1, none⟩)), (21, .slice a_b b.length n_b), (22, .int .i64 i)]) (by kernel_rfl) ?_
     obtain ⟨x1044, hx1045⟩ : ∃ c, b[(i : Int).toNat]? = some c := ⟨_, List.getElem?_eq_getElem (by omega)⟩
     obtain ⟨b1046, o1047, cu1048, fz1049, ha1050, hb1051, hk1052⟩ := SlR.at_ h_b _ hx1045
     cases ha1050
     refine Op.idx (T := 29) (E := 5) (sz := 1) (by_ := 1) (n := b.length) (c := n_b) (k := .i64) (x := (.tmp 21)) (ix := (.tmp 22)) (dst := 23) (bk := b1046) (o := o1047) (m := i) (by kernel_rfl) (by kernel_rfl) (by kernel_rfl) (by kernel_rfl) (by omega) (by omega) ?_
     replace hk1052 : cut _ _ _ = [.int .u8 (x1044.toNat : Int)] := hk1052
     refine Op.loadF (T := 5) (x := (.tmp 19)) (o := o1038 + (i : Int).toNat * 1) (d := 20) (n := 1) (v := .int .u8 (x1035.toNat : Int)) (by kernel_rfl) (by kernel_rfl) (by kernel_rfl) (fun h => h) (s_loop61032.sub _ _ hb1042) (cut_get hk1043 0 rfl) ?_
     refine Op.load (T := 5) (x := (.tmp 23)) (o := o1047 + (i : Int).toNat * 1) (d := 24) (n := 1) (v := .int .u8 (x1044.toNat : Int)) (by kernel_rfl) (by kernel_rfl) (by kernel_rfl) (s_loop61032.sub _ _ hb1051) (cut_get hk1052 0 rfl) ?_
     refine Op.pures 1 [0, 1, 5, 25] (L' := []) (e' := [(0, .slice (some ⟨b1037, o1038, none⟩) a.length n_a), (1, .slice (some ⟨b1046, o1047, none⟩) b.length n_b), (5, .int .i64 i), (25, .bool ((x1035.toNat : Int) != (x1044.toNat : Int)))]) (by kernel_rfl) ?_
     refine Op.goto 9 (by kernel_rfl) ?_
     refine At.cond (b := (x1035.toNat : Int) != (x1044.toNat : Int)) (c := .tmp 25) (by kernel_rfl) (by kernel_rfl) (by kernel_rfl) 10 12 (by kernel_rfl) (by kernel_rfl) (fun hb => ?_) (fun hb => ?_)
     ·have c1053 : ¬ ((x1035.toNat : Int) = (x1044.toNat : Int)) := bneT hb
      clear hb
      refine At.keep [] ?_; show At _ _ _ [] _
      refine At.reg (L := [(0, false)]) (by kernel_rfl) ?_
      refine Op.pures 1 [4] (L' := []) (e' := [(4, .bool false)]) (by kernel_rfl) ?_
      refine Op.goto 11 (by kernel_rfl) ?_
      refine At.ret (f := Tryz.f40) (v := .bool false) (by kernel_rfl) (by kernel_rfl) ?_
      refine hR _ _ _ _ s_loop61032 ⟨?_, rfl, rfl⟩
      exact (eqB (by exact sameE_ne hx1036 hx1045 (u8_ne c1053)))
     ·have c1054 : (x1035.toNat : Int) = (x1044.toNat : Int) := bneF hb
      clear hb
      refine At.keep [0, 1, 5] ?_; show At _ _ _ [(0, .slice (some ⟨b1037, o1038, none⟩) a.length n_a), (1, .slice (some ⟨b1046, o1047, none⟩) b.length n_b), (5, .int .i64 i)] _
      refine At.reg (L := [(0, false), (1, false), (2, false)]) (by kernel_rfl) ?_
      refine Op.pures 1 [0, 1, 5, 15] (L' := [(1, false), (2, false)]) (e' := [(0, .slice (some ⟨b1037, o1038, none⟩) a.length n_a), (1, .slice (some ⟨b1046, o1047, none⟩) b.length n_b), (5, .int .i64 i), (15, .int .i64 i)]) (by kernel_rfl) ?_
      refine Op.val (dst := some 16) (v := .int .i64 (IntKind.wrap .i64 (i + 1))) (v' := .int .i64 (i + 1)) (by kernel_rfl) (wrapEq_i64 (by omega) (by omega)) ?_
      refine Op.pures 1 [0, 1, 5] (L' := []) (e' := [(0, .slice (some ⟨b1037, o1038, none⟩) a.length n_a), (1, .slice (some ⟨b1046, o1047, none⟩) b.length n_b), (5, .int .i64 (i + 1))]) (by kernel_rfl) ?_
      refine Op.goto 6 (by kernel_rfl) ?_
      exact ih6  (i + 1) _ (by omega) (by omega) (by omega) (by exact take_step ht h0 hx1036 hx1045 (u8_eq c1054))  s_loop61032
    ·have c1055 : ¬ (i < (a.length : Int)) := of_decide_eq_false hb
     clear hb
     refine At.keep [] ?_; show At _ _ _ [] _
     refine At.reg (L := [(0, false)]) (by kernel_rfl) ?_
     refine Op.pures 1 [4] (L' := []) (e' := [(4, .bool true)]) (by kernel_rfl) ?_
     refine Op.goto 14 (by kernel_rfl) ?_
     refine At.ret (f := Tryz.f40) (v := .bool true) (by kernel_rfl) (by kernel_rfl) ?_
     refine hR _ _ _ _ s_loop61032 ⟨?_, rfl, rfl⟩
     exact (eqB (by exact sameE_end (by assumption) c1055 ht))
  exact loop6 _  0 _ (Nat.lt_succ_self _) (by omega) (by omega) (by rfl)  s0
theorem spareB (B : World) (h : Heap) (g : GH) (hg : Sub g h) (hG : Glob g) (v_b : Value) (b : List UInt8) (h_b : SlR g 5 kU8 v_b b) (h1 : b.length ≤ 1000000000) :
  Spec Tryz.prog B 43 #[v_b] h g [] (fun rv g' L' => ∃ v0 k0, rv = v0 ∧ Row 5 kU8 g' v0 (b ++ marks8) k0 ∧ g' = g ∧ L' = [k0]) := by
 obtain ⟨a_b, n_b, rfl⟩ := h_b.form
 refine Spec.of_at (f := Tryz.f43) (e := [(0, .slice a_b b.length n_b)]) Tryz.func43 (by kernel_rfl) (Nat.le_of_ble_eq_true (by kernel_rfl)) (by kernel_rfl) (by kernel_rfl) ?_
 intro R hR
 have s0 := St.init hg
 refine At.reg (L := [(0, false)]) (by kernel_rfl) ?_
 refine Op.pures 1 [0] (L' := []) (e' := [(0, .slice a_b b.length n_b)]) (by kernel_rfl) ?_
 refine Op.goto 1 (by kernel_rfl) ?_
 refine At.reg (L := [(0, false), (1, false), (2, false)]) (by kernel_rfl) ?_
 refine Op.pures 1 [5] (L' := [(1, false), (2, false)]) (e' := [(5, .slice a_b b.length n_b)]) (by kernel_rfl) ?_
 refine Op.call0 (dst := some 6) (f := 29) (args := #[.slice a_b b.length n_b]) (by kernel_rfl) s0 (copyBytes _ _ _ s0.sub hG _ _ h_b (by ((try dsimp only) <;> (omega))) ) ?_
 rintro _ g1063 _ h1056 hle1064 s1057 ⟨v1058, ch1059, rfl, R1060, hgg, rfl⟩; subst g1063; clear hle1064
 obtain ⟨a1061, n1062, rfl⟩ := R1060.form
 refine Op.pures 1 [3] (L' := []) (e' := [(3, .slice a1061 ((b).length) n1062)]) (by kernel_rfl) ?_
 refine Op.goto 2 (by kernel_rfl) ?_
 refine At.reg (L := [(0, false)]) (by kernel_rfl) ?_
 refine Op.pures 1 [3, 4] (L' := []) (e' := [(3, .slice a1061 ((b).length) n1062), (4, .int .i64 0)]) (by kernel_rfl) ?_
 refine Op.goto 3 (by kernel_rfl) ?_
 have loop3 : ∀ (m : Nat) (out : List UInt8) (i : Int) (a1065 : Option Addr) (n1066 : Nat) (ch1067 : Chunk) (h1069 : Heap) (hm : 8 - i.toNat < m) (h0 : 0 ≤ i) (h2 : i ≤ 8) (ho : out = b ++ marks8.take i.toNat) (R1068 : Row 5 kU8 g (.slice a1065 out.length n1066) out ch1067)    (s_loop31068 : St h g (ids []) g [ch1067] h1069), At (fctx Tryz.prog B 43 Tryz.f43 R) [] 3 [(3, .slice a1065 out.length n1066), (4, .int .i64 i)] h1069 := by
  intro m; induction m with
  | zero => intros; omega
  | succ m ih3 =>
   intro out i a1065 n1066 ch1067 h1069 hm h0 h2 ho R1068 s_loop31068
   refine At.reg (L := [(0, false), (1, false)]) (by kernel_rfl) ?_
   refine Op.pures 2 [3, 4, 8] (L' := []) (e' := [(3, .slice a1065 out.length n1066), (4, .int .i64 i), (8, .bool (decide (i < (8 : Int))))]) (by kernel_rfl) ?_
   refine Op.goto 4 (by kernel_rfl) ?_
   refine At.cond (b := decide (i < (8 : Int))) (c := .tmp 8) (by kernel_rfl) (by kernel_rfl) (by kernel_rfl) 5 7 (by kernel_rfl) (by kernel_rfl) (fun hb => ?_) (fun hb => ?_)
   ·have c1070 : i < (8 : Int) := of_decide_eq_true hb
    clear hb
    refine At.keep [3, 4] ?_; show At _ _ _ [(3, .slice a1065 out.length n1066), (4, .int .i64 i)] _
    refine At.reg (L := [(0, false), (1, false), (2, false), (3, false), (4, false), (5, false), (6, false)]) (by kernel_rfl) ?_
    refine Op.pures 2 [3, 4, 11, 12] (L' := [(2, false), (3, false), (4, false), (5, false), (6, false)]) (e' := [(3, .slice a1065 out.length n1066), (4, .int .i64 i), (11, .slice a1065 out.length n1066), (12, .int .i64 i)]) (by kernel_rfl) ?_
    refine Op.val (dst := some 13) (v := .int .i64 (IntKind.wrap .i64 ((201 : Int) + i))) (v' := .int .i64 ((201 : Int) + i)) (by kernel_rfl) (wrapEq_i64 (by omega) (by omega)) ?_
    refine Op.val (dst := some 14) (v := .int .u8 (IntKind.wrap .u8 ((201 : Int) + i))) (v' := .int .u8 ((201 : Int) + i)) (by kernel_rfl) (wrapEq_u8 (by omega) (by omega)) ?_
    refine Op.lit (T := 29) (len := 1) (parts := #[(0, (.tmp 14))]) (dst := 15) (E := 5) (ps := [(0, .int .u8 ((201 : Int) + i))]) (cs := #[.int .u8 ((201 : Int) + i)]) (by kernel_rfl) (by kernel_rfl) (by kernel_rfl) s_loop31068 ?_
    intro b1071 h1072 s1073
    refine Op.append (x := (.tmp 11)) (y := (.tmp 15)) (t := 29) (t' := 29) (dst := 16) (E := 5) (by_ := 1) (d := kU8) (by kernel_rfl) (by kernel_rfl) (by kernel_rfl) (by kernel_rfl) rfl R1068 s1073 1 rfl (Src.lit (m := 1) (sz := 1) (s1073.chunk 0 rfl) (news := [.int .u8 ((201 : Int) + i)]) rfl rfl (by simp [Value.oneCell']) _) (ys := [(UInt8.ofNat ((201 : Int) + i : Int).toNat)]) (⟨_, _, rfl, (u8K (by omega) (by omega)), Reads.nil⟩) rfl (by (have hz := congrArg List.length ho; simp only [List.length_append, List.length_take, List.length_cons, List.length_nil] at *; omega)) (fun _ _ _ => trivial) ?_
    intro v1074 ch1075 h1076 R1077 s1078 nn1079
    obtain ⟨a1080, n1081, rfl⟩ := R1077.form
    have s1082 := (s1078.front 0 rfl).drop
    refine Op.pures 1 [3, 4] (L' := []) (e' := [(3, .slice a1080 ((out ++ ([(UInt8.ofNat ((201 : Int) + i : Int).toNat)])).length) n1081), (4, .int .i64 i)]) (by kernel_rfl) ?_
    refine Op.goto 6 (by kernel_rfl) ?_
    refine At.reg (L := [(0, false), (1, false), (2, false)]) (by kernel_rfl) ?_
    refine Op.pures 1 [3, 4, 9] (L' := [(1, false), (2, false)]) (e' := [(3, .slice a1080 ((out ++ ([(UInt8.ofNat ((201 : Int) + i : Int).toNat)])).length) n1081), (4, .int .i64 i), (9, .int .i64 i)]) (by kernel_rfl) ?_
    refine Op.val (dst := some 10) (v := .int .i64 (IntKind.wrap .i64 (i + 1))) (v' := .int .i64 (i + 1)) (by kernel_rfl) (wrapEq_i64 (by omega) (by omega)) ?_
    refine Op.pures 1 [3, 4] (L' := []) (e' := [(3, .slice a1080 ((out ++ ([(UInt8.ofNat ((201 : Int) + i : Int).toNat)])).length) n1081), (4, .int .i64 (i + 1))]) (by kernel_rfl) ?_
    refine Op.goto 3 (by kernel_rfl) ?_
    exact ih3  (out ++ ([(UInt8.ofNat ((201 : Int) + i : Int).toNat)])) (i + 1) _ _ _ _ (by omega) (by omega) (by omega) (by exact spare_step ho h0 (by omega)) R1077 s1082
   ·have c1083 : ¬ (i < (8 : Int)) := of_decide_eq_false hb
    clear hb
    refine At.keep [3] ?_; show At _ _ _ [(3, .slice a1065 out.length n1066)] _
    refine At.reg (L := [(0, false), (1, false)]) (by kernel_rfl) ?_
    refine Op.pures 2 [2] (L' := []) (e' := [(2, .slice a1065 out.length n1066)]) (by kernel_rfl) ?_
    refine Op.goto 8 (by kernel_rfl) ?_
    refine At.ret (f := Tryz.f43) (v := .slice a1065 out.length n1066) (by kernel_rfl) (by kernel_rfl) ?_
    refine hR _ _ _ _ s_loop31068 ⟨(.slice a1065 out.length n1066), ch1067, ?_, ?_, rfl, rfl⟩
    ·exact rfl
    ·exact rowEq R1068 (by (rw [ho, show i.toNat = 8 by omega]; rfl))
 exact loop3 _  b 0 _ _ _ _ (Nat.lt_succ_self _) (by omega) (by omega) (by simp) R1060 s1057
theorem copyLeaves (B : World) (h : Heap) (g : GH) (hg : Sub g h) (hG : Glob g) (v_s : Value) (s : List Leaf) (h_s : SlR g 59 kLeaf v_s s) (h1 : s.length ≤ 1000000) (hd : ∀ n ∈ s, n.Data.length ≤ 1000000000) :
  Spec Tryz.prog B 51 #[v_s] h g [] (fun rv g' L' => ∃ v0, rv = v0 ∧ SlR g' 59 kLeaf v0 s ∧ L' = []) := by
 obtain ⟨a_s, n_s, rfl⟩ := h_s.form
 refine Spec.of_at (f := Tryz.f51) (e := [(0, .slice a_s s.length n_s)]) Tryz.func51 (by kernel_rfl) (Nat.le_of_ble_eq_true (by kernel_rfl)) (by kernel_rfl) (by kernel_rfl) ?_
 intro R hR
 have s0 := St.init hg
 refine At.reg (L := [(0, false)]) (by kernel_rfl) ?_
 refine Op.pures 1 [0] (L' := []) (e' := [(0, .slice a_s s.length n_s)]) (by kernel_rfl) ?_
 refine Op.goto 1 (by kernel_rfl) ?_
 refine At.reg (L := [(0, false), (1, false)]) (by kernel_rfl) ?_
 refine Op.lit (T := 52) (len := 0) (parts := #[]) (dst := 6) (E := 59) (ps := []) (cs := #[]) (by kernel_rfl) (by kernel_rfl) (by kernel_rfl) s0 ?_
 intro b1084 h1085 s1086
 refine Op.pures 1 [0, 3] (L' := []) (e' := [(0, .slice a_s s.length n_s), (3, .slice (some ⟨b1084, 0, none⟩) 0 0)]) (by kernel_rfl) ?_
 refine Op.goto 2 (by kernel_rfl) ?_
 refine At.reg (L := [(0, false)]) (by kernel_rfl) ?_
 refine Op.pures 1 [0, 3, 4] (L' := []) (e' := [(0, .slice a_s s.length n_s), (3, .slice (some ⟨b1084, 0, none⟩) 0 0), (4, .int .i64 0)]) (by kernel_rfl) ?_
 refine Op.goto 3 (by kernel_rfl) ?_
 have loop3 : ∀ (m : Nat) (g1092 : GH) (hleg1092 : gle g g1092) (out : List Leaf) (i : Int) (a1087 : Option Addr) (n1088 : Nat) (ch1089 : Chunk) (h1091 : Heap) (hm : s.length - i.toNat < m) (h0 : 0 ≤ i) (h2 : i ≤ s.length) (ho : out = s.take i.toNat) (R1090 : Row 59 kLeaf g1092 (.slice a1087 out.length n1088) out ch1089)    (s_loop31090 : St h g (ids []) g1092 [ch1089] h1091), At (fctx Tryz.prog B 51 Tryz.f51 R) [] 3 [(0, .slice a_s s.length n_s), (3, .slice a1087 out.length n1088), (4, .int .i64 i)] h1091 := by
  intro m; induction m with
  | zero => intros; omega
  | succ m ih3 =>
   intro g1092 hleg1092 out i a1087 n1088 ch1089 h1091 hm h0 h2 ho R1090 s_loop31090
   replace hG := hG.mono hleg1092
   replace h_s := h_s.mono hleg1092
   refine At.reg (L := [(0, false), (1, false), (2, false), (3, false)]) (by kernel_rfl) ?_
   refine Op.pures 4 [0, 3, 4, 10] (L' := []) (e' := [(0, .slice a_s s.length n_s), (3, .slice a1087 out.length n1088), (4, .int .i64 i), (10, .bool (decide (i < (s.length : Int))))]) (by kernel_rfl) ?_
   refine Op.goto 4 (by kernel_rfl) ?_
   refine At.cond (b := decide (i < (s.length : Int))) (c := .tmp 10) (by kernel_rfl) (by kernel_rfl) (by kernel_rfl) 5 9 (by kernel_rfl) (by kernel_rfl) (fun hb => ?_) (fun hb => ?_)
   ·have c1093 : i < (s.length : Int) := of_decide_eq_true hb
    clear hb
    refine At.keep [0, 3, 4] ?_; show At _ _ _ [(0, .slice a_s s.length n_s), (3, .slice a1087 out.length n1088), (4, .int .i64 i)] _
    refine At.reg (L := [(0, false), (1, false), (2, false), (3, false), (4, false), (5, false)]) (by kernel_rfl) ?_
    refine Op.pures 2 [0, 3, 4, 13, 14] (L' := [(2, false), (3, false), (4, false), (5, false)]) (e' := [(0, .slice a_s s.length n_s), (3, .slice a1087 out.length n1088), (4, .int .i64 i), (13, .slice a_s s.length n_s), (14, .int .i64 i)]) (by kernel_rfl) ?_
    obtain ⟨x1094, hx1095⟩ : ∃ c, s[(i : Int).toNat]? = some c := ⟨_, List.getElem?_eq_getElem (by omega)⟩
    obtain ⟨b1096, o1097, cu1098, fz1099, ha1100, hb1101, hk1102⟩ := SlR.at_ h_s _ hx1095
    cases ha1100
    refine Op.idx (T := 52) (E := 59) (sz := 6) (by_ := 72) (n := s.length) (c := n_s) (k := .i64) (x := (.tmp 13)) (ix := (.tmp 14)) (dst := 15) (bk := b1096) (o := o1097) (m := i) (by kernel_rfl) (by kernel_rfl) (by kernel_rfl) (by kernel_rfl) (by omega) (by omega) ?_
    obtain ⟨v1103, hv1104, hk1102⟩ := hk1102
    obtain ⟨a1105, n1106, rfl⟩ := hv1104.form
    refine Op.loadA (T := 59) (x := (.tmp 15)) (o := o1097 + (i : Int).toNat * 6) (d := 16) (n := 6) (vs := [.string (mkS x1094.Path), .slice a1105 x1094.Data.length n1106, .int .i64 x1094.Version, .int .i64 x1094.Owner, .int .i64 x1094.Next, .int .i64 x1094.Born]) (by kernel_rfl) (by kernel_rfl) (by kernel_rfl) (s_loop31090.sub _ _ hb1101) (hk1102) rfl ?_
    refine Op.alloc (T := 59) (dst := 5) (cs := #[.string (mkS []), .slice none 0 0, .int .i64 0, .int .i64 0, .int .i64 0, .int .i64 0]) (by kernel_rfl) (by kernel_rfl) s_loop31090 ?_
    intro b1107 h1108 s1109
    refine Op.store (T := 59) (x := (.tmp 5)) (y := (.tmp 16)) (b := b1107) (o := 0) (vs := [.string (mkS x1094.Path), .slice a1105 x1094.Data.length n1106, .int .i64 x1094.Version, .int .i64 x1094.Owner, .int .i64 x1094.Next, .int .i64 x1094.Born]) (a? := true) (n := 6) (by kernel_rfl) (by kernel_rfl) (by kernel_rfl) (by kernel_rfl) rfl (by simp [Value.oneCell']) s1109 0 rfl (Nat.le_of_ble_eq_true (by kernel_rfl)) (cs := #[.string (mkS []), .slice none 0 0, .int .i64 0, .int .i64 0, .int .i64 0, .int .i64 0]) (cs' := #[.string (mkS x1094.Path), .slice a1105 x1094.Data.length n1106, .int .i64 x1094.Version, .int .i64 x1094.Owner, .int .i64 x1094.Next, .int .i64 x1094.Born]) (by kernel_rfl) (fun _ => trivial) ?_
    intro h1110 s1111
    refine Op.goto 6 (by kernel_rfl) ?_
    refine At.reg (L := [(0, false), (1, false), (2, false), (3, false), (4, false)]) (by kernel_rfl) ?_
    refine Op.pures 1 [0, 3, 4, 5, 17] (L' := [(1, false), (2, false), (3, false), (4, false)]) (e' := [(0, .slice (some ⟨b1096, o1097, none⟩) s.length n_s), (3, .slice a1087 out.length n1088), (4, .int .i64 i), (5, .pointer (some ⟨b1107, 0, none⟩)), (17, .pointer (some ⟨b1107, 1, none⟩))]) (by kernel_rfl) ?_
    refine Op.load (T := 29) (x := (.tmp 17)) (o := 1) (d := 18) (n := 1) (v := .slice a1105 x1094.Data.length n1106) (by kernel_rfl) (by kernel_rfl) (by kernel_rfl) (s1111.chunk 0 rfl) (by kernel_rfl) ?_
    refine Op.call0 (dst := some 19) (f := 29) (args := #[.slice a1105 x1094.Data.length n1106]) (by kernel_rfl) s1111 (copyBytes _ _ _ s1111.sub hG _ _ hv1104 (by ((try dsimp only) <;> (exact hd _ (List.mem_of_getElem? hx1095)))) ) ?_
    rintro _ g1119 _ h1112 hle1120 s1113 ⟨v1114, ch1115, rfl, R1116, hgg, rfl⟩; subst g1119; clear hle1120
    obtain ⟨a1117, n1118, rfl⟩ := R1116.form
    refine Op.pures 1 [0, 3, 4, 5, 19, 20] (L' := [(4, false)]) (e' := [(0, .slice (some ⟨b1096, o1097, none⟩) s.length n_s), (3, .slice a1087 out.length n1088), (4, .int .i64 i), (5, .pointer (some ⟨b1107, 0, none⟩)), (19, .slice a1117 ((x1094.Data).length) n1118), (20, .pointer (some ⟨b1107, 1, none⟩))]) (by kernel_rfl) ?_
    refine Op.store (T := 29) (x := (.tmp 20)) (y := (.tmp 19)) (b := b1107) (o := 1) (vs := [.slice a1117 ((x1094.Data).length) n1118]) (a? := false) (n := 1) (by kernel_rfl) (by kernel_rfl) (by kernel_rfl) (by kernel_rfl) rfl (by simp [Value.oneCell']) s1113 1 rfl (Nat.le_of_ble_eq_true (by kernel_rfl)) (cs := #[.string (mkS x1094.Path), .slice a1105 x1094.Data.length n1106, .int .i64 x1094.Version, .int .i64 x1094.Owner, .int .i64 x1094.Next, .int .i64 x1094.Born]) (cs' := #[.string (mkS x1094.Path), .slice a1117 ((x1094.Data).length) n1118, .int .i64 x1094.Version, .int .i64 x1094.Owner, .int .i64 x1094.Next, .int .i64 x1094.Born]) (by kernel_rfl) (fun _ => trivial) ?_
    intro h1121 s1122
    refine Op.goto 7 (by kernel_rfl) ?_
    obtain ⟨g1123, s1124, hle1125, hf1126⟩ := Row.freeze R1116 (s1122.front 0 rfl)
    replace R1090 := R1090.mono hle1125
    replace hG := hG.mono hle1125
    replace h_s := h_s.mono hle1125
    refine At.reg (L := [(0, false), (1, false), (2, false), (3, false), (4, false)]) (by kernel_rfl) ?_
    refine Op.pures 1 [0, 3, 4, 5, 21] (L' := [(1, false), (2, false), (3, false), (4, false)]) (e' := [(0, .slice (some ⟨b1096, o1097, none⟩) s.length n_s), (3, .slice a1087 out.length n1088), (4, .int .i64 i), (5, .pointer (some ⟨b1107, 0, none⟩)), (21, .slice a1087 out.length n1088)]) (by kernel_rfl) ?_
    refine Op.loadA (T := 59) (x := (.tmp 5)) (o := 0) (d := 22) (n := 6) (vs := [.string (mkS x1094.Path), .slice a1117 ((x1094.Data).length) n1118, .int .i64 x1094.Version, .int .i64 x1094.Owner, .int .i64 x1094.Next, .int .i64 x1094.Born]) (by kernel_rfl) (by kernel_rfl) (by kernel_rfl) (s1124.chunk 0 rfl) (by kernel_rfl) rfl ?_
    refine Op.lit (T := 52) (len := 1) (parts := #[(0, (.tmp 22))]) (dst := 23) (E := 59) (ps := [(0, .agg #[.string (mkS x1094.Path), .slice a1117 ((x1094.Data).length) n1118, .int .i64 x1094.Version, .int .i64 x1094.Owner, .int .i64 x1094.Next, .int .i64 x1094.Born])]) (cs := #[.string (mkS x1094.Path), .slice a1117 ((x1094.Data).length) n1118, .int .i64 x1094.Version, .int .i64 x1094.Owner, .int .i64 x1094.Next, .int .i64 x1094.Born]) (by kernel_rfl) (by kernel_rfl) (by kernel_rfl) s1124 ?_
    intro b1127 h1128 s1129
    refine Op.append (x := (.tmp 21)) (y := (.tmp 23)) (t := 52) (t' := 52) (dst := 24) (E := 59) (by_ := 72) (d := kLeaf) (by kernel_rfl) (by kernel_rfl) (by kernel_rfl) (by kernel_rfl) rfl R1090 s1129 2 rfl (Src.lit (m := 1) (sz := 6) (s1129.chunk 0 rfl) (news := [.string (mkS x1094.Path), .slice a1117 ((x1094.Data).length) n1118, .int .i64 x1094.Version, .int .i64 x1094.Owner, .int .i64 x1094.Next, .int .i64 x1094.Born]) rfl rfl (by simp [Value.oneCell']) _) (ys := [x1094]) (⟨_, _, rfl, ⟨_, hf1126, rfl⟩, Reads.nil⟩) rfl (by (have hz := congrArg List.length ho; simp only [List.length_take, List.length_cons, List.length_nil] at *; omega)) (fun _ _ _ => trivial) ?_
    intro v1130 ch1131 h1132 R1133 s1134 nn1135
    obtain ⟨a1136, n1137, rfl⟩ := R1133.form
    have s1138 := (s1134.front 0 rfl).drop
    refine Op.pures 1 [0, 3, 4] (L' := []) (e' := [(0, .slice (some ⟨b1096, o1097, none⟩) s.length n_s), (3, .slice a1136 ((out ++ ([x1094])).length) n1137), (4, .int .i64 i)]) (by kernel_rfl) ?_
    refine Op.goto 8 (by kernel_rfl) ?_
    refine At.reg (L := [(0, false), (1, false), (2, false)]) (by kernel_rfl) ?_
    refine Op.pures 1 [0, 3, 4, 11] (L' := [(1, false), (2, false)]) (e' := [(0, .slice (some ⟨b1096, o1097, none⟩) s.length n_s), (3, .slice a1136 ((out ++ ([x1094])).length) n1137), (4, .int .i64 i), (11, .int .i64 i)]) (by kernel_rfl) ?_
    refine Op.val (dst := some 12) (v := .int .i64 (IntKind.wrap .i64 (i + 1))) (v' := .int .i64 (i + 1)) (by kernel_rfl) (wrapEq_i64 (by omega) (by omega)) ?_
    refine Op.pures 1 [0, 3, 4] (L' := []) (e' := [(0, .slice (some ⟨b1096, o1097, none⟩) s.length n_s), (3, .slice a1136 ((out ++ ([x1094])).length) n1137), (4, .int .i64 (i + 1))]) (by kernel_rfl) ?_
    refine Op.goto 3 (by kernel_rfl) ?_
    have s1139 : St h g (ids []) g1123 [ch1131] h1132 := (s1138).drop
    exact ih3 _ (gle.trans hleg1092 (by repeat (first | assumption | apply gle.trans))) (out ++ ([x1094])) (i + 1) _ _ _ _ (by omega) (by omega) (by omega) (by rw [toNat_succ h0, take_at hx1095, ho]) R1133 s1139
   ·have c1140 : ¬ (i < (s.length : Int)) := of_decide_eq_false hb
    clear hb
    refine At.keep [3] ?_; show At _ _ _ [(3, .slice a1087 out.length n1088)] _
    refine At.reg (L := [(0, false), (1, false)]) (by kernel_rfl) ?_
    refine Op.pures 2 [2] (L' := []) (e' := [(2, .slice a1087 out.length n1088)]) (by kernel_rfl) ?_
    refine Op.goto 10 (by kernel_rfl) ?_
    obtain ⟨g1141, s1142, hle1143, hf1144⟩ := Row.freeze R1090 (s_loop31090.front 0 rfl)
    replace hG := hG.mono hle1143
    refine At.ret (f := Tryz.f51) (v := .slice a1087 out.length n1088) (by kernel_rfl) (by kernel_rfl) ?_
    refine hR _ _ _ _ s1142 ⟨(.slice a1087 out.length n1088), ?_, ?_, rfl⟩
    ·exact rfl
    ·exact slEq hf1144 (by rw [ho, List.take_of_length_le (by omega)])
 have R1145 : Row 59 kLeaf g (.slice (some ⟨b1084, 0, none⟩) 0 0) ([] : List Leaf) [(b1084, Obj.cells #[] 59 (0, 0))] := Row.lit (by kernel_rfl) (by unfold maxLen; decide) (by kernel_rfl) Reads.nil
 exact loop3 _ _ (gle.refl _) ([] : List Leaf) 0 _ _ _ _ (Nat.lt_succ_self _) (by omega) (by omega) (by rfl) R1145 s1086
theorem sameLeaf (B : World) (h : Heap) (g : GH) (hg : Sub g h) (hG : Glob g) (a : Leaf) (v_a_1 : Value) (h_a_1 : SlR g 5 kU8 v_a_1 a.Data) (b : Leaf) (v_b_1 : Value) (h_b_1 : SlR g 5 kU8 v_b_1 b.Data) (h1 : a.Data.length ≤ 1000000000) :
  Spec Tryz.prog B 35 #[.agg #[.string (mkS a.Path), v_a_1, .int .i64 a.Version, .int .i64 a.Owner, .int .i64 a.Next, .int .i64 a.Born], .agg #[.string (mkS b.Path), v_b_1, .int .i64 b.Version, .int .i64 b.Owner, .int .i64 b.Next, .int .i64 b.Born]] h g [] (fun rv g' L' => rv = .bool (decide (a = b)) ∧ g' = g ∧ L' = []) := by
 obtain ⟨a_a_1, n_a_1, rfl⟩ := h_a_1.form
 obtain ⟨a_b_1, n_b_1, rfl⟩ := h_b_1.form
 refine Spec.of_at (f := Tryz.f35) (e := [(0, .agg #[.string (mkS a.Path), .slice a_a_1 a.Data.length n_a_1, .int .i64 a.Version, .int .i64 a.Owner, .int .i64 a.Next, .int .i64 a.Born]), (1, .agg #[.string (mkS b.Path), .slice a_b_1 b.Data.length n_b_1, .int .i64 b.Version, .int .i64 b.Owner, .int .i64 b.Next, .int .i64 b.Born])]) Tryz.func35 (by kernel_rfl) (Nat.le_of_ble_eq_true (by kernel_rfl)) (by kernel_rfl) (by kernel_rfl) ?_
 intro R hR
 have s0 := St.init hg
 refine At.reg (L := [(0, false), (1, false), (2, false)]) (by kernel_rfl) ?_
 refine Op.box (T := 59) (x := (.tmp 0)) (d := 2) (cs := #[.string (mkS a.Path), .slice a_a_1 a.Data.length n_a_1, .int .i64 a.Version, .int .i64 a.Owner, .int .i64 a.Next, .int .i64 a.Born]) (by kernel_rfl) (by kernel_rfl) s0 ?_
 intro b1146 h1147 s1148
 refine Op.box (T := 59) (x := (.tmp 1)) (d := 3) (cs := #[.string (mkS b.Path), .slice a_b_1 b.Data.length n_b_1, .int .i64 b.Version, .int .i64 b.Owner, .int .i64 b.Next, .int .i64 b.Born]) (by kernel_rfl) (by kernel_rfl) s1148 ?_
 intro b1149 h1150 s1151
 refine Op.pures 1 [2, 3] (L' := []) (e' := [(2, .pointer (some ⟨b1146, 0, none⟩)), (3, .pointer (some ⟨b1149, 0, none⟩))]) (by kernel_rfl) ?_
 refine Op.goto 1 (by kernel_rfl) ?_
 refine At.reg (L := [(0, false), (1, false), (2, false), (3, false), (4, false), (5, false), (6, false), (7, false), (8, false), (9, false), (10, false), (11, false), (12, false), (13, false), (14, false), (15, false), (16, false), (17, false), (18, false), (19, false), (20, false), (21, false), (22, false), (23, false), (24, false), (25, false), (26, false), (27, false), (28, false), (29, false), (30, false), (31, false), (32, false), (33, false), (34, false), (35, false), (36, false), (37, false), (38, false), (39, false), (40, false)]) (by kernel_rfl) ?_
 refine Op.pures 1 [2, 3, 5] (L' := [(1, false), (2, false), (3, false), (4, false), (5, false), (6, false), (7, false), (8, false), (9, false), (10, false), (11, false), (12, false), (13, false), (14, false), (15, false), (16, false), (17, false), (18, false), (19, false), (20, false), (21, false), (22, false), (23, false), (24, false), (25, false), (26, false), (27, false), (28, false), (29, false), (30, false), (31, false), (32, false), (33, false), (34, false), (35, false), (36, false), (37, false), (38, false), (39, false), (40, false)]) (e' := [(2, .pointer (some ⟨b1146, 0, none⟩)), (3, .pointer (some ⟨b1149, 0, none⟩)), (5, .pointer (some ⟨b1146, 0, none⟩))]) (by kernel_rfl) ?_
 refine Op.load (T := 9) (x := (.tmp 5)) (o := 0) (d := 6) (n := 1) (v := .string (mkS a.Path)) (by kernel_rfl) (by kernel_rfl) (by kernel_rfl) (s1151.chunk 1 rfl) (by kernel_rfl) ?_
 refine Op.pures 1 [2, 3, 6, 7] (L' := [(3, false), (4, false), (5, false), (6, false), (7, false), (8, false), (9, false), (10, false), (11, false), (12, false), (13, false), (14, false), (15, false), (16, false), (17, false), (18, false), (19, false), (20, false), (21, false), (22, false), (23, false), (24, false), (25, false), (26, false), (27, false), (28, false), (29, false), (30, false), (31, false), (32, false), (33, false), (34, false), (35, false), (36, false), (37, false), (38, false), (39, false), (40, false)]) (e' := [(2, .pointer (some ⟨b1146, 0, none⟩)), (3, .pointer (some ⟨b1149, 0, none⟩)), (6, .string (mkS a.Path)), (7, .pointer (some ⟨b1149, 0, none⟩))]) (by kernel_rfl) ?_
 refine Op.load (T := 9) (x := (.tmp 7)) (o := 0) (d := 8) (n := 1) (v := .string (mkS b.Path)) (by kernel_rfl) (by kernel_rfl) (by kernel_rfl) (s1151.chunk 0 rfl) (by kernel_rfl) ?_
 refine Op.val (dst := some 9) (v := .bool ((mkS a.Path).toList == (mkS b.Path).toList)) (v' := .bool (a.Path == b.Path)) (by kernel_rfl) (by rw [toList_mkS, toList_mkS]) ?_
 refine Op.pures 1 [2, 3, 10] (L' := [(6, false), (7, false), (8, false), (9, false), (10, false), (11, false), (12, false), (13, false), (14, false), (15, false), (16, false), (17, false), (18, false), (19, false), (20, false), (21, false), (22, false), (23, false), (24, false), (25, false), (26, false), (27, false), (28, false), (29, false), (30, false), (31, false), (32, false), (33, false), (34, false), (35, false), (36, false), (37, false), (38, false), (39, false), (40, false)]) (e' := [(2, .pointer (some ⟨b1146, 0, none⟩)), (3, .pointer (some ⟨b1149, 0, none⟩)), (10, .bool (a.Path == b.Path))]) (by kernel_rfl) ?_
 refine Op.ways (b := a.Path == b.Path) ⟨fun hb => ?_, fun hb => ?_⟩
 ·refine Op.cast (e' := [(2, .pointer (some ⟨b1146, 0, none⟩)), (3, .pointer (some ⟨b1149, 0, none⟩)), (10, .bool true)]) (by rw [hb]) ?_
  have c1152 : a.Path = b.Path := eq_of_beq hb
  clear hb
  refine Op.pures 1 [2, 3, 10, 11] (L' := [(7, false), (8, false), (9, false), (10, false), (11, false), (12, false), (13, false), (14, false), (15, false), (16, false), (17, false), (18, false), (19, false), (20, false), (21, false), (22, false), (23, false), (24, false), (25, false), (26, false), (27, false), (28, false), (29, false), (30, false), (31, false), (32, false), (33, false), (34, false), (35, false), (36, false), (37, false), (38, false), (39, false), (40, false)]) (e' := [(2, .pointer (some ⟨b1146, 0, none⟩)), (3, .pointer (some ⟨b1149, 0, none⟩)), (10, .bool true), (11, .pointer (some ⟨b1146, 1, none⟩))]) (by kernel_rfl) ?_
  refine Op.load (T := 29) (x := (.tmp 11)) (o := 1) (d := 12) (n := 1) (v := .slice a_a_1 a.Data.length n_a_1) (by kernel_rfl) (by kernel_rfl) (by kernel_rfl) (s1151.chunk 1 rfl) (by kernel_rfl) ?_
  refine Op.pures 1 [2, 3, 10, 12, 13] (L' := [(9, false), (10, false), (11, false), (12, false), (13, false), (14, false), (15, false), (16, false), (17, false), (18, false), (19, false), (20, false), (21, false), (22, false), (23, false), (24, false), (25, false), (26, false), (27, false), (28, false), (29, false), (30, false), (31, false), (32, false), (33, false), (34, false), (35, false), (36, false), (37, false), (38, false), (39, false), (40, false)]) (e' := [(2, .pointer (some ⟨b1146, 0, none⟩)), (3, .pointer (some ⟨b1149, 0, none⟩)), (10, .bool true), (12, .slice a_a_1 a.Data.length n_a_1), (13, .pointer (some ⟨b1149, 1, none⟩))]) (by kernel_rfl) ?_
  refine Op.load (T := 29) (x := (.tmp 13)) (o := 1) (d := 14) (n := 1) (v := .slice a_b_1 b.Data.length n_b_1) (by kernel_rfl) (by kernel_rfl) (by kernel_rfl) (s1151.chunk 0 rfl) (by kernel_rfl) ?_
  refine Op.call0 (dst := some 15) (f := 40) (args := #[.slice a_a_1 a.Data.length n_a_1, .slice a_b_1 b.Data.length n_b_1]) (by kernel_rfl) s1151 (sameBytes _ _ _ s1151.sub hG _ _ h_a_1 _ _ h_b_1 (by ((try dsimp only) <;> (omega))) ) ?_
  rintro _ g1155 _ h1153 hle1156 s1154 ⟨rfl, hgg, rfl⟩; subst g1155; clear hle1156
  refine Op.pures 2 [2, 3, 17] (L' := [(13, false), (14, false), (15, false), (16, false), (17, false), (18, false), (19, false), (20, false), (21, false), (22, false), (23, false), (24, false), (25, false), (26, false), (27, false), (28, false), (29, false), (30, false), (31, false), (32, false), (33, false), (34, false), (35, false), (36, false), (37, false), (38, false), (39, false), (40, false)]) (e' := [(2, .pointer (some ⟨b1146, 0, none⟩)), (3, .pointer (some ⟨b1149, 0, none⟩)), (17, .bool (decide (a.Data = b.Data)))]) (by kernel_rfl) ?_
  refine Op.ways (b := decide (a.Data = b.Data)) ⟨fun hb => ?_, fun hb => ?_⟩
  ·refine Op.cast (e' := [(2, .pointer (some ⟨b1146, 0, none⟩)), (3, .pointer (some ⟨b1149, 0, none⟩)), (17, .bool true)]) (by rw [hb]) ?_
   have c1157 : a.Data = b.Data := of_decide_eq_true hb
   clear hb
   refine Op.pures 1 [2, 3, 17, 18] (L' := [(14, false), (15, false), (16, false), (17, false), (18, false), (19, false), (20, false), (21, false), (22, false), (23, false), (24, false), (25, false), (26, false), (27, false), (28, false), (29, false), (30, false), (31, false), (32, false), (33, false), (34, false), (35, false), (36, false), (37, false), (38, false), (39, false), (40, false)]) (e' := [(2, .pointer (some ⟨b1146, 0, none⟩)), (3, .pointer (some ⟨b1149, 0, none⟩)), (17, .bool true), (18, .pointer (some ⟨b1146, 2, none⟩))]) (by kernel_rfl) ?_
   refine Op.load (T := 3) (x := (.tmp 18)) (o := 2) (d := 19) (n := 1) (v := .int .i64 a.Version) (by kernel_rfl) (by kernel_rfl) (by kernel_rfl) (s1154.chunk 1 rfl) (by kernel_rfl) ?_
   refine Op.pures 1 [2, 3, 17, 19, 20] (L' := [(16, false), (17, false), (18, false), (19, false), (20, false), (21, false), (22, false), (23, false), (24, false), (25, false), (26, false), (27, false), (28, false), (29, false), (30, false), (31, false), (32, false), (33, false), (34, false), (35, false), (36, false), (37, false), (38, false), (39, false), (40, false)]) (e' := [(2, .pointer (some ⟨b1146, 0, none⟩)), (3, .pointer (some ⟨b1149, 0, none⟩)), (17, .bool true), (19, .int .i64 a.Version), (20, .pointer (some ⟨b1149, 2, none⟩))]) (by kernel_rfl) ?_
   refine Op.load (T := 3) (x := (.tmp 20)) (o := 2) (d := 21) (n := 1) (v := .int .i64 b.Version) (by kernel_rfl) (by kernel_rfl) (by kernel_rfl) (s1154.chunk 0 rfl) (by kernel_rfl) ?_
   refine Op.pures 3 [2, 3, 24] (L' := [(20, false), (21, false), (22, false), (23, false), (24, false), (25, false), (26, false), (27, false), (28, false), (29, false), (30, false), (31, false), (32, false), (33, false), (34, false), (35, false), (36, false), (37, false), (38, false), (39, false), (40, false)]) (e' := [(2, .pointer (some ⟨b1146, 0, none⟩)), (3, .pointer (some ⟨b1149, 0, none⟩)), (24, .bool (a.Version == b.Version))]) (by kernel_rfl) ?_
   refine Op.ways (b := a.Version == b.Version) ⟨fun hb => ?_, fun hb => ?_⟩
   ·refine Op.cast (e' := [(2, .pointer (some ⟨b1146, 0, none⟩)), (3, .pointer (some ⟨b1149, 0, none⟩)), (24, .bool true)]) (by rw [hb]) ?_
    have c1158 : a.Version = b.Version := eq_of_beq hb
    clear hb
    refine Op.pures 1 [2, 3, 24, 25] (L' := [(21, false), (22, false), (23, false), (24, false), (25, false), (26, false), (27, false), (28, false), (29, false), (30, false), (31, false), (32, false), (33, false), (34, false), (35, false), (36, false), (37, false), (38, false), (39, false), (40, false)]) (e' := [(2, .pointer (some ⟨b1146, 0, none⟩)), (3, .pointer (some ⟨b1149, 0, none⟩)), (24, .bool true), (25, .pointer (some ⟨b1146, 3, none⟩))]) (by kernel_rfl) ?_
    refine Op.load (T := 3) (x := (.tmp 25)) (o := 3) (d := 26) (n := 1) (v := .int .i64 a.Owner) (by kernel_rfl) (by kernel_rfl) (by kernel_rfl) (s1154.chunk 1 rfl) (by kernel_rfl) ?_
    refine Op.pures 1 [2, 3, 24, 26, 27] (L' := [(23, false), (24, false), (25, false), (26, false), (27, false), (28, false), (29, false), (30, false), (31, false), (32, false), (33, false), (34, false), (35, false), (36, false), (37, false), (38, false), (39, false), (40, false)]) (e' := [(2, .pointer (some ⟨b1146, 0, none⟩)), (3, .pointer (some ⟨b1149, 0, none⟩)), (24, .bool true), (26, .int .i64 a.Owner), (27, .pointer (some ⟨b1149, 3, none⟩))]) (by kernel_rfl) ?_
    refine Op.load (T := 3) (x := (.tmp 27)) (o := 3) (d := 28) (n := 1) (v := .int .i64 b.Owner) (by kernel_rfl) (by kernel_rfl) (by kernel_rfl) (s1154.chunk 0 rfl) (by kernel_rfl) ?_
    refine Op.pures 3 [2, 3, 31] (L' := [(27, false), (28, false), (29, false), (30, false), (31, false), (32, false), (33, false), (34, false), (35, false), (36, false), (37, false), (38, false), (39, false), (40, false)]) (e' := [(2, .pointer (some ⟨b1146, 0, none⟩)), (3, .pointer (some ⟨b1149, 0, none⟩)), (31, .bool (a.Owner == b.Owner))]) (by kernel_rfl) ?_
    refine Op.ways (b := a.Owner == b.Owner) ⟨fun hb => ?_, fun hb => ?_⟩
    ·refine Op.cast (e' := [(2, .pointer (some ⟨b1146, 0, none⟩)), (3, .pointer (some ⟨b1149, 0, none⟩)), (31, .bool true)]) (by rw [hb]) ?_
     have c1159 : a.Owner = b.Owner := eq_of_beq hb
     clear hb
     refine Op.pures 1 [2, 3, 31, 32] (L' := [(28, false), (29, false), (30, false), (31, false), (32, false), (33, false), (34, false), (35, false), (36, false), (37, false), (38, false), (39, false), (40, false)]) (e' := [(2, .pointer (some ⟨b1146, 0, none⟩)), (3, .pointer (some ⟨b1149, 0, none⟩)), (31, .bool true), (32, .pointer (some ⟨b1146, 4, none⟩))]) (by kernel_rfl) ?_
     refine Op.load (T := 3) (x := (.tmp 32)) (o := 4) (d := 33) (n := 1) (v := .int .i64 a.Next) (by kernel_rfl) (by kernel_rfl) (by kernel_rfl) (s1154.chunk 1 rfl) (by kernel_rfl) ?_
     refine Op.pures 1 [2, 3, 31, 33, 34] (L' := [(30, false), (31, false), (32, false), (33, false), (34, false), (35, false), (36, false), (37, false), (38, false), (39, false), (40, false)]) (e' := [(2, .pointer (some ⟨b1146, 0, none⟩)), (3, .pointer (some ⟨b1149, 0, none⟩)), (31, .bool true), (33, .int .i64 a.Next), (34, .pointer (some ⟨b1149, 4, none⟩))]) (by kernel_rfl) ?_
     refine Op.load (T := 3) (x := (.tmp 34)) (o := 4) (d := 35) (n := 1) (v := .int .i64 b.Next) (by kernel_rfl) (by kernel_rfl) (by kernel_rfl) (s1154.chunk 0 rfl) (by kernel_rfl) ?_
     refine Op.pures 3 [2, 3, 38] (L' := [(34, false), (35, false), (36, false), (37, false), (38, false), (39, false), (40, false)]) (e' := [(2, .pointer (some ⟨b1146, 0, none⟩)), (3, .pointer (some ⟨b1149, 0, none⟩)), (38, .bool (a.Next == b.Next))]) (by kernel_rfl) ?_
     refine Op.ways (b := a.Next == b.Next) ⟨fun hb => ?_, fun hb => ?_⟩
     ·refine Op.cast (e' := [(2, .pointer (some ⟨b1146, 0, none⟩)), (3, .pointer (some ⟨b1149, 0, none⟩)), (38, .bool true)]) (by rw [hb]) ?_
      have c1160 : a.Next = b.Next := eq_of_beq hb
      clear hb
      refine Op.pures 1 [3, 38, 39] (L' := [(35, false), (36, false), (37, false), (38, false), (39, false), (40, false)]) (e' := [(3, .pointer (some ⟨b1149, 0, none⟩)), (38, .bool true), (39, .pointer (some ⟨b1146, 5, none⟩))]) (by kernel_rfl) ?_
      refine Op.load (T := 3) (x := (.tmp 39)) (o := 5) (d := 40) (n := 1) (v := .int .i64 a.Born) (by kernel_rfl) (by kernel_rfl) (by kernel_rfl) (s1154.chunk 1 rfl) (by kernel_rfl) ?_
      refine Op.pures 1 [38, 40, 41] (L' := [(37, false), (38, false), (39, false), (40, false)]) (e' := [(38, .bool true), (40, .int .i64 a.Born), (41, .pointer (some ⟨b1149, 5, none⟩))]) (by kernel_rfl) ?_
      refine Op.load (T := 3) (x := (.tmp 41)) (o := 5) (d := 42) (n := 1) (v := .int .i64 b.Born) (by kernel_rfl) (by kernel_rfl) (by kernel_rfl) (s1154.chunk 0 rfl) (by kernel_rfl) ?_
      refine Op.pures 3 [4] (L' := []) (e' := [(4, .bool (a.Born == b.Born))]) (by kernel_rfl) ?_
      refine Op.goto 2 (by kernel_rfl) ?_
      refine At.ret (f := Tryz.f35) (v := .bool (a.Born == b.Born)) (by kernel_rfl) (by kernel_rfl) ?_
      have s1161 : St h g (ids []) g [] h1153 := (s1154).drop.drop
      refine hR _ _ _ _ s1161 ⟨?_, rfl, rfl⟩
      exact (eqB (by exact lfY (by assumption) (by assumption) (by assumption) (by assumption) (by assumption)))
     ·refine Op.cast (e' := [(2, .pointer (some ⟨b1146, 0, none⟩)), (3, .pointer (some ⟨b1149, 0, none⟩)), (38, .bool false)]) (by rw [hb]) ?_
      have c1162 : ¬ (a.Next = b.Next) := neF hb
      clear hb
      refine Op.pures 7 [4] (L' := []) (e' := [(4, .bool false)]) (by kernel_rfl) ?_
      refine Op.goto 2 (by kernel_rfl) ?_
      refine At.ret (f := Tryz.f35) (v := .bool false) (by kernel_rfl) (by kernel_rfl) ?_
      have s1163 : St h g (ids []) g [] h1153 := (s1154).drop.drop
      refine hR _ _ _ _ s1163 ⟨?_, rfl, rfl⟩
      exact (eqB (by exact lfN (.inr (.inr (.inr (.inr (by assumption)))))))
    ·refine Op.cast (e' := [(2, .pointer (some ⟨b1146, 0, none⟩)), (3, .pointer (some ⟨b1149, 0, none⟩)), (31, .bool false)]) (by rw [hb]) ?_
     have c1164 : ¬ (a.Owner = b.Owner) := neF hb
     clear hb
     refine Op.pures 14 [4] (L' := []) (e' := [(4, .bool false)]) (by kernel_rfl) ?_
     refine Op.goto 2 (by kernel_rfl) ?_
     refine At.ret (f := Tryz.f35) (v := .bool false) (by kernel_rfl) (by kernel_rfl) ?_
     have s1165 : St h g (ids []) g [] h1153 := (s1154).drop.drop
     refine hR _ _ _ _ s1165 ⟨?_, rfl, rfl⟩
     exact (eqB (by exact lfN (.inr (.inr (.inr (.inl (by assumption)))))))
   ·refine Op.cast (e' := [(2, .pointer (some ⟨b1146, 0, none⟩)), (3, .pointer (some ⟨b1149, 0, none⟩)), (24, .bool false)]) (by rw [hb]) ?_
    have c1166 : ¬ (a.Version = b.Version) := neF hb
    clear hb
    refine Op.pures 21 [4] (L' := []) (e' := [(4, .bool false)]) (by kernel_rfl) ?_
    refine Op.goto 2 (by kernel_rfl) ?_
    refine At.ret (f := Tryz.f35) (v := .bool false) (by kernel_rfl) (by kernel_rfl) ?_
    have s1167 : St h g (ids []) g [] h1153 := (s1154).drop.drop
    refine hR _ _ _ _ s1167 ⟨?_, rfl, rfl⟩
    exact (eqB (by exact lfN (.inr (.inr (.inl (by assumption))))))
  ·refine Op.cast (e' := [(2, .pointer (some ⟨b1146, 0, none⟩)), (3, .pointer (some ⟨b1149, 0, none⟩)), (17, .bool false)]) (by rw [hb]) ?_
   have c1168 : ¬ (a.Data = b.Data) := of_decide_eq_false hb
   clear hb
   refine Op.pures 28 [4] (L' := []) (e' := [(4, .bool false)]) (by kernel_rfl) ?_
   refine Op.goto 2 (by kernel_rfl) ?_
   refine At.ret (f := Tryz.f35) (v := .bool false) (by kernel_rfl) (by kernel_rfl) ?_
   have s1169 : St h g (ids []) g [] h1153 := (s1154).drop.drop
   refine hR _ _ _ _ s1169 ⟨?_, rfl, rfl⟩
   exact (eqB (by exact lfN (.inr (.inl (by assumption)))))
 ·refine Op.cast (e' := [(2, .pointer (some ⟨b1146, 0, none⟩)), (3, .pointer (some ⟨b1149, 0, none⟩)), (10, .bool false)]) (by rw [hb]) ?_
  have c1170 : ¬ (a.Path = b.Path) := neF hb
  clear hb
  refine Op.pures 35 [4] (L' := []) (e' := [(4, .bool false)]) (by kernel_rfl) ?_
  refine Op.goto 2 (by kernel_rfl) ?_
  refine At.ret (f := Tryz.f35) (v := .bool false) (by kernel_rfl) (by kernel_rfl) ?_
  have s1171 : St h g (ids []) g [] h1150 := (s1151).drop.drop
  refine hR _ _ _ _ s1171 ⟨?_, rfl, rfl⟩
  exact (eqB (by exact lfN (.inl (by assumption))))
theorem sameLeaves (B : World) (h : Heap) (g : GH) (hg : Sub g h) (hG : Glob g) (v_a : Value) (a : List Leaf) (h_a : SlR g 59 kLeaf v_a a) (v_b : Value) (b : List Leaf) (h_b : SlR g 59 kLeaf v_b b) (h1 : a.length ≤ 1000000000) (hd : ∀ n ∈ a, n.Data.length ≤ 1000000000) :
  Spec Tryz.prog B 39 #[v_a, v_b] h g [] (fun rv g' L' => rv = .bool (decide (a = b)) ∧ g' = g ∧ L' = []) := by
 obtain ⟨a_a, n_a, rfl⟩ := h_a.form
 obtain ⟨a_b, n_b, rfl⟩ := h_b.form
 refine Spec.of_at (f := Tryz.f39) (e := [(0, .slice a_a a.length n_a), (1, .slice a_b b.length n_b)]) Tryz.func39 (by kernel_rfl) (Nat.le_of_ble_eq_true (by kernel_rfl)) (by kernel_rfl) (by kernel_rfl) ?_
 intro R hR
 have s0 := St.init hg
 refine At.reg (L := [(0, false)]) (by kernel_rfl) ?_
 refine Op.pures 1 [0, 1] (L' := []) (e' := [(0, .slice a_a a.length n_a), (1, .slice a_b b.length n_b)]) (by kernel_rfl) ?_
 refine Op.goto 1 (by kernel_rfl) ?_
 refine At.reg (L := [(0, false), (1, false), (2, false), (3, false), (4, false)]) (by kernel_rfl) ?_
 refine Op.pures 5 [0, 1, 10] (L' := []) (e' := [(0, .slice a_a a.length n_a), (1, .slice a_b b.length n_b), (10, .bool ((a.length : Int) != (b.length : Int)))]) (by kernel_rfl) ?_
 refine Op.goto 2 (by kernel_rfl) ?_
 refine At.cond (b := (a.length : Int) != (b.length : Int)) (c := .tmp 10) (by kernel_rfl) (by kernel_rfl) (by kernel_rfl) 3 5 (by kernel_rfl) (by kernel_rfl) (fun hb => ?_) (fun hb => ?_)
 ·have c1172 : ¬ ((a.length : Int) = (b.length : Int)) := bneT hb
  clear hb
  refine At.keep [] ?_; show At _ _ _ [] _
  refine At.reg (L := [(0, false)]) (by kernel_rfl) ?_
  refine Op.pures 1 [4] (L' := []) (e' := [(4, .bool false)]) (by kernel_rfl) ?_
  refine Op.goto 4 (by kernel_rfl) ?_
  refine At.ret (f := Tryz.f39) (v := .bool false) (by kernel_rfl) (by kernel_rfl) ?_
  refine hR _ _ _ _ s0 ⟨?_, rfl, rfl⟩
  exact (eqB (by exact sameE_len (by assumption)))
 ·have c1173 : (a.length : Int) = (b.length : Int) := bneF hb
  clear hb
  refine At.keep [0, 1] ?_; show At _ _ _ [(0, .slice a_a a.length n_a), (1, .slice a_b b.length n_b)] _
  refine At.reg (L := [(0, false)]) (by kernel_rfl) ?_
  refine Op.pures 1 [0, 1, 5] (L' := []) (e' := [(0, .slice a_a a.length n_a), (1, .slice a_b b.length n_b), (5, .int .i64 0)]) (by kernel_rfl) ?_
  refine Op.goto 6 (by kernel_rfl) ?_
  have loop6 : ∀ (m : Nat) (i : Int) (h1174 : Heap) (hm : a.length - i.toNat < m) (h0 : 0 ≤ i) (h2 : i ≤ a.length) (ht : a.take i.toNat = b.take i.toNat)     (s_loop61173 : St h g (ids []) g [] h1174), At (fctx Tryz.prog B 39 Tryz.f39 R) [] 6 [(0, .slice a_a a.length n_a), (1, .slice a_b b.length n_b), (5, .int .i64 i)] h1174 := by
   intro m; induction m with
   | zero => intros; omega
   | succ m ih6 =>
    intro i h1174 hm h0 h2 ht s_loop61173
    refine At.reg (L := [(0, false), (1, false), (2, false), (3, false)]) (by kernel_rfl) ?_
    refine Op.pures 4 [0, 1, 5, 14] (L' := []) (e' := [(0, .slice a_a a.length n_a), (1, .slice a_b b.length n_b), (5, .int .i64 i), (14, .bool (decide (i < (a.length : Int))))]) (by kernel_rfl) ?_
    refine Op.goto 7 (by kernel_rfl) ?_
    refine At.cond (b := decide (i < (a.length : Int))) (c := .tmp 14) (by kernel_rfl) (by kernel_rfl) (by kernel_rfl) 8 13 (by kernel_rfl) (by kernel_rfl) (fun hb => ?_) (fun hb => ?_)
    ·have c1175 : i < (a.length : Int) := of_decide_eq_true hb
     clear hb
     refine At.keep [0, 1, 5] ?_; show At _ _ _ [(0, .slice a_a a.length n_a), (1, .slice a_b b.length n_b), (5, .int .i64 i)] _
     refine At.draw (by kernel_rfl) (fun _ => False) [(0, true), (1, true), (2, true), (4, true), (5, true), (6, true), (3, true), (7, false), (8, false), (9, true)] (by kernel_rfl) ?_
     refine Op.pures 2 [0, 1, 5, 17, 18] (L' := [(2, true), (4, true), (5, true), (6, true), (3, true), (7, false), (8, false), (9, true)]) (e' := [(0, .slice a_a a.length n_a), (1, .slice a_b b.length n_b), (5, .int .i64 i), (17, .slice a_a a.length n_a), (18, .int .i64 i)]) (by kernel_rfl) ?_
     obtain ⟨x1176, hx1177⟩ : ∃ c, a[(i : Int).toNat]? = some c := ⟨_, List.getElem?_eq_getElem (by omega)⟩
     obtain ⟨b1178, o1179, cu1180, fz1181, ha1182, hb1183, hk1184⟩ := SlR.at_ h_a _ hx1177
     cases ha1182
     refine Op.idx (T := 52) (E := 59) (sz := 6) (by_ := 72) (n := a.length) (c := n_a) (k := .i64) (x := (.tmp 17)) (ix := (.tmp 18)) (dst := 19) (bk := b1178) (o := o1179) (m := i) (by kernel_rfl) (by kernel_rfl) (by kernel_rfl) (by kernel_rfl) (by omega) (by omega) ?_
     obtain ⟨v1185, hv1186, hk1184⟩ := hk1184
     obtain ⟨a1187, n1188, rfl⟩ := hv1186.form
     refine Op.pures 2 [0, 1, 5, 19, 21, 22] (L' := [(6, true), (3, true), (7, false), (8, false), (9, true)]) (e' := [(0, .slice (some ⟨b1178, o1179, none⟩) a.length n_a), (1, .slice a_b b.length n_b), (5, .int .i64 i), (19, .pointer (some ⟨b1178, o1179 + (i : Int).toNat * 6, none⟩)), (21, .slice a_b b.length n_b), (22, .int .i64 i)]) (by kernel_rfl) ?_
     obtain ⟨x1189, hx1190⟩ : ∃ c, b[(i : Int).toNat]? = some c := ⟨_, List.getElem?_eq_getElem (by omega)⟩
     obtain ⟨b1191, o1192, cu1193, fz1194, ha1195, hb1196, hk1197⟩ := SlR.at_ h_b _ hx1190
     cases ha1195
     refine Op.idx (T := 52) (E := 59) (sz := 6) (by_ := 72) (n := b.length) (c := n_b) (k := .i64) (x := (.tmp 21)) (ix := (.tmp 22)) (dst := 23) (bk := b1191) (o := o1192) (m := i) (by kernel_rfl) (by kernel_rfl) (by kernel_rfl) (by kernel_rfl) (by omega) (by omega) ?_
     obtain ⟨v1198, hv1199, hk1197⟩ := hk1197
     obtain ⟨a1200, n1201, rfl⟩ := hv1199.form
     refine Op.loadAF (T := 59) (x := (.tmp 19)) (o := o1179 + (i : Int).toNat * 6) (d := 20) (n := 6) (vs := [.string (mkS x1176.Path), .slice a1187 x1176.Data.length n1188, .int .i64 x1176.Version, .int .i64 x1176.Owner, .int .i64 x1176.Next, .int .i64 x1176.Born]) (by kernel_rfl) (by kernel_rfl) (by kernel_rfl) (fun h => h) (s_loop61173.sub _ _ hb1183) (hk1184) rfl ?_
     refine Op.loadA (T := 59) (x := (.tmp 23)) (o := o1192 + (i : Int).toNat * 6) (d := 24) (n := 6) (vs := [.string (mkS x1189.Path), .slice a1200 x1189.Data.length n1201, .int .i64 x1189.Version, .int .i64 x1189.Owner, .int .i64 x1189.Next, .int .i64 x1189.Born]) (by kernel_rfl) (by kernel_rfl) (by kernel_rfl) (s_loop61173.sub _ _ hb1196) (hk1197) rfl ?_
     refine Op.call0 (dst := some 25) (f := 35) (args := #[.agg #[.string (mkS x1176.Path), .slice a1187 x1176.Data.length n1188, .int .i64 x1176.Version, .int .i64 x1176.Owner, .int .i64 x1176.Next, .int .i64 x1176.Born], .agg #[.string (mkS x1189.Path), .slice a1200 x1189.Data.length n1201, .int .i64 x1189.Version, .int .i64 x1189.Owner, .int .i64 x1189.Next, .int .i64 x1189.Born]]) (by kernel_rfl) s_loop61173 (sameLeaf _ _ _ s_loop61173.sub hG x1176 _ hv1186 x1189 _ hv1199 (by ((try dsimp only) <;> (exact hd _ (List.mem_of_getElem? hx1177)))) ) ?_
     rintro _ g1204 _ h1202 hle1205 s1203 ⟨rfl, hgg, rfl⟩; subst g1204; clear hle1205
     refine Op.pures 1 [0, 1, 5, 26] (L' := []) (e' := [(0, .slice (some ⟨b1178, o1179, none⟩) a.length n_a), (1, .slice (some ⟨b1191, o1192, none⟩) b.length n_b), (5, .int .i64 i), (26, .bool (!(decide (x1176 = x1189))))]) (by kernel_rfl) ?_
     refine Op.goto 9 (by kernel_rfl) ?_
     refine At.cond (b := !(decide (x1176 = x1189))) (c := .tmp 26) (by kernel_rfl) (by kernel_rfl) (by kernel_rfl) 10 12 (by kernel_rfl) (by kernel_rfl) (fun hb => ?_) (fun hb => ?_)
     ·have c1206 : ¬ (x1176 = x1189) := of_decide_eq_false (notT hb)
      clear hb
      refine At.keep [] ?_; show At _ _ _ [] _
      refine At.reg (L := [(0, false)]) (by kernel_rfl) ?_
      refine Op.pures 1 [4] (L' := []) (e' := [(4, .bool false)]) (by kernel_rfl) ?_
      refine Op.goto 11 (by kernel_rfl) ?_
      refine At.ret (f := Tryz.f39) (v := .bool false) (by kernel_rfl) (by kernel_rfl) ?_
      refine hR _ _ _ _ s1203 ⟨?_, rfl, rfl⟩
      exact (eqB (by exact sameE_ne hx1177 hx1190 (c1206)))
     ·have c1207 : x1176 = x1189 := of_decide_eq_true (notF hb)
      clear hb
      refine At.keep [0, 1, 5] ?_; show At _ _ _ [(0, .slice (some ⟨b1178, o1179, none⟩) a.length n_a), (1, .slice (some ⟨b1191, o1192, none⟩) b.length n_b), (5, .int .i64 i)] _
      refine At.reg (L := [(0, false), (1, false), (2, false)]) (by kernel_rfl) ?_
      refine Op.pures 1 [0, 1, 5, 15] (L' := [(1, false), (2, false)]) (e' := [(0, .slice (some ⟨b1178, o1179, none⟩) a.length n_a), (1, .slice (some ⟨b1191, o1192, none⟩) b.length n_b), (5, .int .i64 i), (15, .int .i64 i)]) (by kernel_rfl) ?_
      refine Op.val (dst := some 16) (v := .int .i64 (IntKind.wrap .i64 (i + 1))) (v' := .int .i64 (i + 1)) (by kernel_rfl) (wrapEq_i64 (by omega) (by omega)) ?_
      refine Op.pures 1 [0, 1, 5] (L' := []) (e' := [(0, .slice (some ⟨b1178, o1179, none⟩) a.length n_a), (1, .slice (some ⟨b1191, o1192, none⟩) b.length n_b), (5, .int .i64 (i + 1))]) (by kernel_rfl) ?_
      refine Op.goto 6 (by kernel_rfl) ?_
      exact ih6  (i + 1) _ (by omega) (by omega) (by omega) (by exact take_step ht h0 hx1177 hx1190 (c1207))  s1203
    ·have c1208 : ¬ (i < (a.length : Int)) := of_decide_eq_false hb
     clear hb
     refine At.keep [] ?_; show At _ _ _ [] _
     refine At.reg (L := [(0, false)]) (by kernel_rfl) ?_
     refine Op.pures 1 [4] (L' := []) (e' := [(4, .bool true)]) (by kernel_rfl) ?_
     refine Op.goto 14 (by kernel_rfl) ?_
     refine At.ret (f := Tryz.f39) (v := .bool true) (by kernel_rfl) (by kernel_rfl) ?_
     refine hR _ _ _ _ s_loop61173 ⟨?_, rfl, rfl⟩
     exact (eqB (by exact sameE_end (by assumption) c1208 ht))
  exact loop6 _  0 _ (Nat.lt_succ_self _) (by omega) (by omega) (by rfl)  s0
end Go.Proofs.YtmjebehhpojihaaGreatDoor.Sw
