/- Walks of the functions that are named below: what each computes, as plain Lean words. Printed by a program of our own. -/
import Derived.Test.YtphonojjgnbpfaaDoorSwWatch3
import Derived.Test.YtphonojjgnbpfaaDoorSwWatchR
namespace Go.Proofs.YtphonojjgnbpfaaDoor.Sw
open Go
set_option maxRecDepth 100000
set_option linter.unusedVariables false
set_option linter.unusedSimpArgs false
set_option linter.deprecated false


/-- (stanchion/stanchionref11.Table).Add -/
theorem add11 (B : World) (h : Heap) (g : GH) (hg : Sub g h) (hG : Glob g) (t : R11Table) (v_t_0 : Value) (h_t_0 : SlR g 27 kWatch v_t_0 t.All) (w : Watch) (h1 : t.All.length ≤ 1000000) (hw : w.Path.length ≤ 1000000000) :
    Spec Tryd.prog B 20 #[.agg #[v_t_0], .agg #[.int .i64 w.Client, .int .i64 w.Kind, .string (mkS w.Path)]] h g [] (fun rv g' L' => ∃ v0, rv = .tuple #[.agg #[v0], .int .i64 (addE t.All w)] ∧ SlR g' 27 kWatch v0 ((⟨addL t.All w⟩ : R11Table).All) ∧ L' = []) := by
  obtain ⟨a_t_0, n_t_0, rfl⟩ := h_t_0.form
  refine Spec.of_at (f := Tryd.f20) (e := [(0, .agg #[.slice a_t_0 t.All.length n_t_0]), (1, .agg #[.int .i64 w.Client, .int .i64 w.Kind, .string (mkS w.Path)])]) Tryd.func20 (by kernel_rfl) (Nat.le_of_ble_eq_true (by kernel_rfl)) (by kernel_rfl) (by kernel_rfl) ?_
  intro R hR
  have s0 := St.init hg
  refine At.reg (L := [(0, false), (1, false), (2, false), (3, false)]) (by kernel_rfl) ?_
  refine Op.box (T := 36) (x := (.tmp 0)) (d := 2) (cs := #[.slice a_t_0 t.All.length n_t_0]) (by kernel_rfl) (by kernel_rfl) s0 ?_
  intro b2803 h2804 s2805
  refine Op.box (T := 27) (x := (.tmp 1)) (d := 3) (cs := #[.int .i64 w.Client, .int .i64 w.Kind, .string (mkS w.Path)]) (by kernel_rfl) (by kernel_rfl) s2805 ?_
  intro b2806 h2807 s2808
  refine Op.alloc (T := 36) (dst := 4) (cs := #[.slice none 0 0]) (by kernel_rfl) (by kernel_rfl) s2808 ?_
  intro b2809 h2810 s2811
  refine Op.pures 1 [2, 3, 4] (L' := []) (e' := [(2, .pointer (some ⟨b2803, 0, none⟩)), (3, .pointer (some ⟨b2806, 0, none⟩)), (4, .pointer (some ⟨b2809, 0, none⟩))]) (by kernel_rfl) ?_
  refine Op.goto 1 (by kernel_rfl) ?_
  refine At.reg (L := [(0, false), (1, false), (2, false)]) (by kernel_rfl) ?_
  refine Op.loadA (T := 27) (x := (.tmp 3)) (o := 0) (d := 9) (n := 3) (vs := [.int .i64 w.Client, .int .i64 w.Kind, .string (mkS w.Path)]) (by kernel_rfl) (by kernel_rfl) (by kernel_rfl) (s2811.chunk 1 rfl) (by kernel_rfl) rfl ?_
  refine Op.call0 (dst := some 10) (f := 22) (args := #[.agg #[.int .i64 w.Client, .int .i64 w.Kind, .string (mkS w.Path)]]) (by kernel_rfl) s2811 (right11 _ _ _ s2811.sub hG w (by ((try dsimp only) <;> (first | omega | assumption | (have := hA.len h0 h3; simp only [List.length_cons, List.length_nil]; omega) | (have := hA.len h0 h3; simp only [List.length_append, List.length_cons, List.length_nil]; omega) | (have := hA.len h0 (by omega); omega)))) ) ?_
  rintro _ g2814 _ h2812 hle2815 s2813 ⟨rfl, hgg, rfl⟩; subst g2814; clear hle2815
  refine Op.pures 1 [2, 3, 4, 11] (L' := []) (e' := [(2, .pointer (some ⟨b2803, 0, none⟩)), (3, .pointer (some ⟨b2806, 0, none⟩)), (4, .pointer (some ⟨b2809, 0, none⟩)), (11, .bool (!(rightW w)))]) (by kernel_rfl) ?_
  refine Op.goto 2 (by kernel_rfl) ?_
  refine At.cond (b := !(rightW w)) (c := .tmp 11) (by kernel_rfl) (by kernel_rfl) (by kernel_rfl) 3 5 (by kernel_rfl) (by kernel_rfl) (fun hb => ?_) (fun hb => ?_)
  · have c2816 : (rightW w) = false := (notT hb)
    clear hb
    refine At.keep [2, 4] ?_; show At _ _ _ [(2, .pointer (some ⟨b2803, 0, none⟩)), (4, .pointer (some ⟨b2809, 0, none⟩))] _
    refine At.reg (L := [(0, false), (1, false), (2, false)]) (by kernel_rfl) ?_
    refine Op.loadA (T := 36) (x := (.tmp 2)) (o := 0) (d := 12) (n := 1) (vs := [.slice a_t_0 t.All.length n_t_0]) (by kernel_rfl) (by kernel_rfl) (by kernel_rfl) (s2813.chunk 2 rfl) (by kernel_rfl) rfl ?_
    refine Op.store (T := 36) (x := (.tmp 4)) (y := (.tmp 12)) (b := b2809) (o := 0) (vs := [.slice a_t_0 t.All.length n_t_0]) (a? := true) (n := 1) (by kernel_rfl) (by kernel_rfl) (by kernel_rfl) (by kernel_rfl) rfl (by simp [Value.oneCell']) s2813 0 rfl (Nat.le_of_ble_eq_true (by kernel_rfl)) (cs := #[.slice none 0 0]) (cs' := #[.slice a_t_0 t.All.length n_t_0]) (by kernel_rfl) (fun _ => trivial) ?_
    intro h2817 s2818
    refine Op.pures 1 [4, 5] (L' := []) (e' := [(4, .pointer (some ⟨b2809, 0, none⟩)), (5, .int .i64 90)]) (by kernel_rfl) ?_
    refine Op.goto 4 (by kernel_rfl) ?_
    refine At.retM (f := Tryd.f20) (vs := [.agg #[.slice a_t_0 t.All.length n_t_0], .int .i64 90]) (rl := [.cell 4 36, .tmp 5]) (v := .tuple #[.agg #[.slice a_t_0 t.All.length n_t_0], .int .i64 90]) (by kernel_rfl) (by kernel_rfl) ⟨⟨_, _, rfl, resAgg (n := 1) (by kernel_rfl) (s2818.chunk 0 rfl) (by kernel_rfl) rfl⟩, rfl, trivial⟩ rfl ?_
    have s2819 : St h g (ids []) g [] h2817 := (s2818).drop.drop.drop
    refine hR _ _ _ _ s2819 ⟨(.slice a_t_0 t.All.length n_t_0), ?_, ?_, rfl⟩
    · exact eqT2 rfl (eqI (by first | exact (add_90 (by assumption)).1 | exact (add_90 (by assumption)).2 | exact (add_has (by assumption) (has_at {hx0} (by assumption))).1 | exact (add_has (by assumption) (has_at {hx0} (by assumption))).2 | exact (add_104 (by assumption) (hA.has (by assumption)) (by assumption)).1 | exact (add_104 (by assumption) (hA.has (by assumption)) (by assumption)).2 | exact (add_ok (by assumption) (hA.has (by assumption)) (by assumption)).2 | (rw [(AddI_end hA (by assumption)).1 (by assumption)]; exact (add_ok (by assumption) (hA.has (by assumption)) (by assumption)).1) | (rw [(AddI_end hA (by assumption)).2 (by assumption)]; exact (add_ok (by assumption) (hA.has (by assumption)) (by assumption)).1)))
    · exact slEq h_t_0 (by first | exact (add_90 (by assumption)).1 | exact (add_90 (by assumption)).2 | exact (add_has (by assumption) (has_at {hx0} (by assumption))).1 | exact (add_has (by assumption) (has_at {hx0} (by assumption))).2 | exact (add_104 (by assumption) (hA.has (by assumption)) (by assumption)).1 | exact (add_104 (by assumption) (hA.has (by assumption)) (by assumption)).2 | exact (add_ok (by assumption) (hA.has (by assumption)) (by assumption)).2 | (rw [(AddI_end hA (by assumption)).1 (by assumption)]; exact (add_ok (by assumption) (hA.has (by assumption)) (by assumption)).1) | (rw [(AddI_end hA (by assumption)).2 (by assumption)]; exact (add_ok (by assumption) (hA.has (by assumption)) (by assumption)).1))
  · have c2820 : (rightW w) = true := (notF hb)
    clear hb
    refine At.keep [2, 3, 4] ?_; show At _ _ _ [(2, .pointer (some ⟨b2803, 0, none⟩)), (3, .pointer (some ⟨b2806, 0, none⟩)), (4, .pointer (some ⟨b2809, 0, none⟩))] _
    refine At.reg (L := [(0, false), (1, false)]) (by kernel_rfl) ?_
    refine Op.lit (T := 22) (len := 0) (parts := #[]) (dst := 13) (E := 27) (ps := []) (cs := #[]) (by kernel_rfl) (by kernel_rfl) (by kernel_rfl) s2813 ?_
    intro b2821 h2822 s2823
    refine Op.pures 1 [2, 3, 4, 6] (L' := []) (e' := [(2, .pointer (some ⟨b2803, 0, none⟩)), (3, .pointer (some ⟨b2806, 0, none⟩)), (4, .pointer (some ⟨b2809, 0, none⟩)), (6, .slice (some ⟨b2821, 0, none⟩) 0 0)]) (by kernel_rfl) ?_
    refine Op.goto 6 (by kernel_rfl) ?_
    refine At.reg (L := [(0, false)]) (by kernel_rfl) ?_
    refine Op.pures 1 [2, 3, 4, 6, 7] (L' := []) (e' := [(2, .pointer (some ⟨b2803, 0, none⟩)), (3, .pointer (some ⟨b2806, 0, none⟩)), (4, .pointer (some ⟨b2809, 0, none⟩)), (6, .slice (some ⟨b2821, 0, none⟩) 0 0), (7, .bool false)]) (by kernel_rfl) ?_
    refine Op.goto 7 (by kernel_rfl) ?_
    refine At.reg (L := [(0, false)]) (by kernel_rfl) ?_
    refine Op.pures 1 [2, 3, 4, 6, 7, 8] (L' := []) (e' := [(2, .pointer (some ⟨b2803, 0, none⟩)), (3, .pointer (some ⟨b2806, 0, none⟩)), (4, .pointer (some ⟨b2809, 0, none⟩)), (6, .slice (some ⟨b2821, 0, none⟩) 0 0), (7, .bool false), (8, .int .i64 0)]) (by kernel_rfl) ?_
    refine Op.goto 8 (by kernel_rfl) ?_
    have loop8 : ∀ (m : Nat) (out : List Watch) (put : Bool) (i : Int) (a2824 : Option Addr) (n2825 : Nat) (ch2826 : Chunk) (h2828 : Heap) (hm : t.All.length - i.toNat < m) (h0 : 0 ≤ i) (h3 : i ≤ t.All.length) (hA : AddI t.All out w put i) (R2827 : Row 27 kWatch g (.slice a2824 out.length n2825) out ch2826)   (s_loop82827 : St h g (ids []) g [ch2826, [(b2809, Obj.cells #[.slice none 0 0] 36 (0, 0))], [(b2806, Obj.cells #[.int .i64 w.Client, .int .i64 w.Kind, .string (mkS w.Path)] 27 (0, 0))], [(b2803, Obj.cells #[.slice a_t_0 t.All.length n_t_0] 36 (0, 0))]] h2828), At (fctx Tryd.prog B 20 Tryd.f20 R) [] 8 [(2, .pointer (some ⟨b2803, 0, none⟩)), (3, .pointer (some ⟨b2806, 0, none⟩)), (4, .pointer (some ⟨b2809, 0, none⟩)), (6, .slice a2824 out.length n2825), (7, .bool put), (8, .int .i64 i)] h2828 := by
      intro m; induction m with
      | zero => intros; omega
      | succ m ih8 =>
        intro out put i a2824 n2825 ch2826 h2828 hm h0 h3 hA R2827 s_loop82827
        refine At.reg (L := [(0, false), (1, false), (2, false), (3, false), (4, false)]) (by kernel_rfl) ?_
        refine Op.pures 2 [2, 3, 4, 6, 7, 8, 14, 15] (L' := [(2, false), (3, false), (4, false)]) (e' := [(2, .pointer (some ⟨b2803, 0, none⟩)), (3, .pointer (some ⟨b2806, 0, none⟩)), (4, .pointer (some ⟨b2809, 0, none⟩)), (6, .slice a2824 out.length n2825), (7, .bool put), (8, .int .i64 i), (14, .int .i64 i), (15, .pointer (some ⟨b2803, 0, none⟩))]) (by kernel_rfl) ?_
        refine Op.load (T := 22) (x := (.tmp 15)) (o := 0) (d := 16) (n := 1) (v := .slice a_t_0 t.All.length n_t_0) (by kernel_rfl) (by kernel_rfl) (by kernel_rfl) (s_loop82827.chunk 3 rfl) (by kernel_rfl) ?_
        refine Op.pures 2 [2, 3, 4, 6, 7, 8, 18] (L' := []) (e' := [(2, .pointer (some ⟨b2803, 0, none⟩)), (3, .pointer (some ⟨b2806, 0, none⟩)), (4, .pointer (some ⟨b2809, 0, none⟩)), (6, .slice a2824 out.length n2825), (7, .bool put), (8, .int .i64 i), (18, .bool (decide (i < (t.All.length : Int))))]) (by kernel_rfl) ?_
        refine Op.goto 9 (by kernel_rfl) ?_
        refine At.cond (b := decide (i < (t.All.length : Int))) (c := .tmp 18) (by kernel_rfl) (by kernel_rfl) (by kernel_rfl) 10 20 (by kernel_rfl) (by kernel_rfl) (fun hb => ?_) (fun hb => ?_)
        · have c2829 : i < (t.All.length : Int) := of_decide_eq_true hb
          clear hb
          refine At.keep [2, 3, 4, 6, 7, 8] ?_; show At _ _ _ [(2, .pointer (some ⟨b2803, 0, none⟩)), (3, .pointer (some ⟨b2806, 0, none⟩)), (4, .pointer (some ⟨b2809, 0, none⟩)), (6, .slice a2824 out.length n2825), (7, .bool put), (8, .int .i64 i)] _
          refine At.draw (by kernel_rfl) (fun _ => False) [(0, true), (2, true), (1, true), (3, true), (4, true), (5, false), (6, true)] (by kernel_rfl) ?_
          refine Op.pures 2 [2, 3, 4, 6, 7, 8, 21, 23] (L' := [(1, true), (3, true), (4, true), (5, false), (6, true)]) (e' := [(2, .pointer (some ⟨b2803, 0, none⟩)), (3, .pointer (some ⟨b2806, 0, none⟩)), (4, .pointer (some ⟨b2809, 0, none⟩)), (6, .slice a2824 out.length n2825), (7, .bool put), (8, .int .i64 i), (21, .pointer (some ⟨b2803, 0, none⟩)), (23, .int .i64 i)]) (by kernel_rfl) ?_
          refine Op.loadF (T := 22) (x := (.tmp 21)) (o := 0) (d := 22) (n := 1) (v := .slice a_t_0 t.All.length n_t_0) (by kernel_rfl) (by kernel_rfl) (by kernel_rfl) (fun h => h) (s_loop82827.chunk 3 rfl) (by kernel_rfl) ?_
          obtain ⟨x2830, hx2831⟩ : ∃ c, t.All[(i : Int).toNat]? = some c := ⟨_, List.getElem?_eq_getElem (by first | omega | assumption | (have := hA.len h0 h3; simp only [List.length_cons, List.length_nil]; omega) | (have := hA.len h0 h3; simp only [List.length_append, List.length_cons, List.length_nil]; omega) | (have := hA.len h0 (by omega); omega))⟩
          obtain ⟨b2832, o2833, cu2834, fz2835, ha2836, hb2837, hk2838⟩ := SlR.at_ h_t_0 _ hx2831
          cases ha2836
          refine Op.idx (T := 22) (E := 27) (sz := 3) (by_ := 32) (n := t.All.length) (c := n_t_0) (k := .i64) (x := (.tmp 22)) (ix := (.tmp 23)) (dst := 24) (bk := b2832) (o := o2833) (m := i) (by kernel_rfl) (by kernel_rfl) (by kernel_rfl) (by kernel_rfl) (by first | omega | assumption | (have := hA.len h0 h3; simp only [List.length_cons, List.length_nil]; omega) | (have := hA.len h0 h3; simp only [List.length_append, List.length_cons, List.length_nil]; omega) | (have := hA.len h0 (by omega); omega)) (by first | omega | assumption | (have := hA.len h0 h3; simp only [List.length_cons, List.length_nil]; omega) | (have := hA.len h0 h3; simp only [List.length_append, List.length_cons, List.length_nil]; omega) | (have := hA.len h0 (by omega); omega)) ?_
          replace hk2838 : cut _ _ _ = [.int .i64 x2830.Client, .int .i64 x2830.Kind, .string (mkS x2830.Path)] := hk2838
          refine Op.loadAF (T := 27) (x := (.tmp 24)) (o := o2833 + (i : Int).toNat * 3) (d := 25) (n := 3) (vs := [.int .i64 x2830.Client, .int .i64 x2830.Kind, .string (mkS x2830.Path)]) (by kernel_rfl) (by kernel_rfl) (by kernel_rfl) (fun h => h) (s_loop82827.sub _ _ hb2837) (hk2838) rfl ?_
          refine Op.loadA (T := 27) (x := (.tmp 3)) (o := 0) (d := 26) (n := 3) (vs := [.int .i64 w.Client, .int .i64 w.Kind, .string (mkS w.Path)]) (by kernel_rfl) (by kernel_rfl) (by kernel_rfl) (s_loop82827.chunk 2 rfl) (by kernel_rfl) rfl ?_
          refine Op.eqAgg (T := 27) (T' := 27) (x := (.tmp 25)) (y := (.tmp 26)) (neq := false) (dst := 27) (xs := #[.int .i64 x2830.Client, .int .i64 x2830.Kind, .string (mkS x2830.Path)]) (ys := #[.int .i64 w.Client, .int .i64 w.Kind, .string (mkS w.Path)]) (q := ((x2830.Client == w.Client) && ((x2830.Kind == w.Kind) && ((mkS x2830.Path == mkS w.Path) && true)))) (q' := decide (x2830 = w)) (by kernel_rfl) (by kernel_rfl) (by kernel_rfl) (by kernel_rfl) (by kernel_rfl) (eqT_Watch x2830 w) ?_
          refine Op.goto 11 (by kernel_rfl) ?_
          refine At.cond (b := decide (x2830 = w)) (c := .tmp 27) (by kernel_rfl) (by kernel_rfl) (by kernel_rfl) 12 14 (by kernel_rfl) (by kernel_rfl) (fun hb => ?_) (fun hb => ?_)
          · have c2839 : x2830 = w := of_decide_eq_true hb
            clear hb
            refine At.keep [2, 4] ?_; show At _ _ _ [(2, .pointer (some ⟨b2803, 0, none⟩)), (4, .pointer (some ⟨b2809, 0, none⟩))] _
            refine At.reg (L := [(0, false), (1, false), (2, false)]) (by kernel_rfl) ?_
            refine Op.loadA (T := 36) (x := (.tmp 2)) (o := 0) (d := 28) (n := 1) (vs := [.slice (some ⟨b2832, o2833, none⟩) t.All.length n_t_0]) (by kernel_rfl) (by kernel_rfl) (by kernel_rfl) (s_loop82827.chunk 3 rfl) (by kernel_rfl) rfl ?_
            refine Op.store (T := 36) (x := (.tmp 4)) (y := (.tmp 28)) (b := b2809) (o := 0) (vs := [.slice (some ⟨b2832, o2833, none⟩) t.All.length n_t_0]) (a? := true) (n := 1) (by kernel_rfl) (by kernel_rfl) (by kernel_rfl) (by kernel_rfl) rfl (by simp [Value.oneCell']) s_loop82827 1 rfl (Nat.le_of_ble_eq_true (by kernel_rfl)) (cs := #[.slice none 0 0]) (cs' := #[.slice (some ⟨b2832, o2833, none⟩) t.All.length n_t_0]) (by kernel_rfl) (fun _ => trivial) ?_
            intro h2840 s2841
            refine Op.pures 1 [4, 5] (L' := []) (e' := [(4, .pointer (some ⟨b2809, 0, none⟩)), (5, .int .i64 0)]) (by kernel_rfl) ?_
            refine Op.goto 13 (by kernel_rfl) ?_
            refine At.retM (f := Tryd.f20) (vs := [.agg #[.slice (some ⟨b2832, o2833, none⟩) t.All.length n_t_0], .int .i64 0]) (rl := [.cell 4 36, .tmp 5]) (v := .tuple #[.agg #[.slice (some ⟨b2832, o2833, none⟩) t.All.length n_t_0], .int .i64 0]) (by kernel_rfl) (by kernel_rfl) ⟨⟨_, _, rfl, resAgg (n := 1) (by kernel_rfl) (s2841.chunk 1 rfl) (by kernel_rfl) rfl⟩, rfl, trivial⟩ rfl ?_
            have s2842 : St h g (ids []) g [] h2840 := (s2841).drop.drop.drop.drop
            refine hR _ _ _ _ s2842 ⟨(.slice (some ⟨b2832, o2833, none⟩) t.All.length n_t_0), ?_, ?_, rfl⟩
            · exact eqT2 rfl (eqI (by first | exact (add_90 (by assumption)).1 | exact (add_90 (by assumption)).2 | exact (add_has (by assumption) (has_at hx2831 (by assumption))).1 | exact (add_has (by assumption) (has_at hx2831 (by assumption))).2 | exact (add_104 (by assumption) (hA.has (by assumption)) (by assumption)).1 | exact (add_104 (by assumption) (hA.has (by assumption)) (by assumption)).2 | exact (add_ok (by assumption) (hA.has (by assumption)) (by assumption)).2 | (rw [(AddI_end hA (by assumption)).1 (by assumption)]; exact (add_ok (by assumption) (hA.has (by assumption)) (by assumption)).1) | (rw [(AddI_end hA (by assumption)).2 (by assumption)]; exact (add_ok (by assumption) (hA.has (by assumption)) (by assumption)).1)))
            · exact slEq h_t_0 (by first | exact (add_90 (by assumption)).1 | exact (add_90 (by assumption)).2 | exact (add_has (by assumption) (has_at hx2831 (by assumption))).1 | exact (add_has (by assumption) (has_at hx2831 (by assumption))).2 | exact (add_104 (by assumption) (hA.has (by assumption)) (by assumption)).1 | exact (add_104 (by assumption) (hA.has (by assumption)) (by assumption)).2 | exact (add_ok (by assumption) (hA.has (by assumption)) (by assumption)).2 | (rw [(AddI_end hA (by assumption)).1 (by assumption)]; exact (add_ok (by assumption) (hA.has (by assumption)) (by assumption)).1) | (rw [(AddI_end hA (by assumption)).2 (by assumption)]; exact (add_ok (by assumption) (hA.has (by assumption)) (by assumption)).1))
          · have c2843 : ¬ (x2830 = w) := of_decide_eq_false hb
            clear hb
            refine At.keep [2, 3, 4, 6, 7, 8] ?_; show At _ _ _ [(2, .pointer (some ⟨b2803, 0, none⟩)), (3, .pointer (some ⟨b2806, 0, none⟩)), (4, .pointer (some ⟨b2809, 0, none⟩)), (6, .slice a2824 out.length n2825), (7, .bool put), (8, .int .i64 i)] _
            refine At.draw (by kernel_rfl) (fun _ => False) [(0, true), (1, true), (2, true), (4, true), (6, true), (3, true), (5, false), (7, true), (8, false), (9, false), (10, true)] (by kernel_rfl) ?_
            refine Op.pures 3 [2, 3, 4, 6, 7, 8, 31] (L' := [(4, true), (6, true), (3, true), (5, false), (7, true), (8, false), (9, false), (10, true)]) (e' := [(2, .pointer (some ⟨b2803, 0, none⟩)), (3, .pointer (some ⟨b2806, 0, none⟩)), (4, .pointer (some ⟨b2809, 0, none⟩)), (6, .slice a2824 out.length n2825), (7, .bool put), (8, .int .i64 i), (31, .bool (!put))]) (by kernel_rfl) ?_
            refine Op.ways (b := !put) ⟨fun hb => ?_, fun hb => ?_⟩
            · refine Op.cast (e' := [(2, .pointer (some ⟨b2803, 0, none⟩)), (3, .pointer (some ⟨b2806, 0, none⟩)), (4, .pointer (some ⟨b2809, 0, none⟩)), (6, .slice a2824 out.length n2825), (7, .bool put), (8, .int .i64 i), (31, .bool true)]) (by rw [hb]) ?_
              have c2844 : put = false := (notT hb)
              clear hb
              refine Op.pures 2 [2, 3, 4, 6, 7, 8, 31, 33, 35] (L' := [(3, true), (5, false), (7, true), (8, false), (9, false), (10, true)]) (e' := [(2, .pointer (some ⟨b2803, 0, none⟩)), (3, .pointer (some ⟨b2806, 0, none⟩)), (4, .pointer (some ⟨b2809, 0, none⟩)), (6, .slice a2824 out.length n2825), (7, .bool put), (8, .int .i64 i), (31, .bool true), (33, .pointer (some ⟨b2803, 0, none⟩)), (35, .int .i64 i)]) (by kernel_rfl) ?_
              refine Op.loadAF (T := 27) (x := (.tmp 3)) (o := 0) (d := 32) (n := 3) (vs := [.int .i64 w.Client, .int .i64 w.Kind, .string (mkS w.Path)]) (by kernel_rfl) (by kernel_rfl) (by kernel_rfl) (fun h => h) (s_loop82827.chunk 2 rfl) (by kernel_rfl) rfl ?_
              refine Op.load (T := 22) (x := (.tmp 33)) (o := 0) (d := 34) (n := 1) (v := .slice (some ⟨b2832, o2833, none⟩) t.All.length n_t_0) (by kernel_rfl) (by kernel_rfl) (by kernel_rfl) (s_loop82827.chunk 3 rfl) (by kernel_rfl) ?_
              obtain ⟨b2847, o2848, cu2849, fz2850, ha2851, hb2852, hk2853⟩ := SlR.at_ h_t_0 _ hx2831
              cases ha2851
              refine Op.idx (T := 22) (E := 27) (sz := 3) (by_ := 32) (n := t.All.length) (c := n_t_0) (k := .i64) (x := (.tmp 34)) (ix := (.tmp 35)) (dst := 36) (bk := b2832) (o := o2833) (m := i) (by kernel_rfl) (by kernel_rfl) (by kernel_rfl) (by kernel_rfl) (by first | omega | assumption | (have := hA.len h0 h3; simp only [List.length_cons, List.length_nil]; omega) | (have := hA.len h0 h3; simp only [List.length_append, List.length_cons, List.length_nil]; omega) | (have := hA.len h0 (by omega); omega)) (by first | omega | assumption | (have := hA.len h0 h3; simp only [List.length_cons, List.length_nil]; omega) | (have := hA.len h0 h3; simp only [List.length_append, List.length_cons, List.length_nil]; omega) | (have := hA.len h0 (by omega); omega)) ?_
              replace hk2853 : cut _ _ _ = [.int .i64 x2830.Client, .int .i64 x2830.Kind, .string (mkS x2830.Path)] := hk2853
              refine Op.loadA (T := 27) (x := (.tmp 36)) (o := o2833 + (i : Int).toNat * 3) (d := 37) (n := 3) (vs := [.int .i64 x2830.Client, .int .i64 x2830.Kind, .string (mkS x2830.Path)]) (by kernel_rfl) (by kernel_rfl) (by kernel_rfl) (s_loop82827.sub _ _ hb2852) (hk2853) rfl ?_
              refine Op.call0 (dst := some 38) (f := 53) (args := #[.agg #[.int .i64 w.Client, .int .i64 w.Kind, .string (mkS w.Path)], .agg #[.int .i64 x2830.Client, .int .i64 x2830.Kind, .string (mkS x2830.Path)]]) (by kernel_rfl) s_loop82827 (less11 _ _ _ s_loop82827.sub hG w x2830  ) ?_
              rintro _ g2856 _ h2854 hle2857 s2855 ⟨rfl, hgg, rfl⟩; subst g2856; clear hle2857
              refine Op.pures 1 [2, 3, 4, 6, 7, 8, 39] (L' := []) (e' := [(2, .pointer (some ⟨b2803, 0, none⟩)), (3, .pointer (some ⟨b2806, 0, none⟩)), (4, .pointer (some ⟨b2809, 0, none⟩)), (6, .slice a2824 out.length n2825), (7, .bool put), (8, .int .i64 i), (39, .bool (lessW w x2830))]) (by kernel_rfl) ?_
              refine Op.goto 15 (by kernel_rfl) ?_
              refine At.cond (b := lessW w x2830) (c := .tmp 39) (by kernel_rfl) (by kernel_rfl) (by kernel_rfl) 16 18 (by kernel_rfl) (by kernel_rfl) (fun hb => ?_) (fun hb => ?_)
              · have c2858 : (lessW w x2830) = true := hb
                clear hb
                refine At.keep [2, 3, 4, 6, 8] ?_; show At _ _ _ [(2, .pointer (some ⟨b2803, 0, none⟩)), (3, .pointer (some ⟨b2806, 0, none⟩)), (4, .pointer (some ⟨b2809, 0, none⟩)), (6, .slice a2824 out.length n2825), (8, .int .i64 i)] _
                refine At.reg (L := [(0, false), (1, false), (2, false), (3, false), (4, false)]) (by kernel_rfl) ?_
                refine Op.pures 1 [2, 3, 4, 6, 8, 40] (L' := [(1, false), (2, false), (3, false), (4, false)]) (e' := [(2, .pointer (some ⟨b2803, 0, none⟩)), (3, .pointer (some ⟨b2806, 0, none⟩)), (4, .pointer (some ⟨b2809, 0, none⟩)), (6, .slice a2824 out.length n2825), (8, .int .i64 i), (40, .slice a2824 out.length n2825)]) (by kernel_rfl) ?_
                refine Op.loadA (T := 27) (x := (.tmp 3)) (o := 0) (d := 41) (n := 3) (vs := [.int .i64 w.Client, .int .i64 w.Kind, .string (mkS w.Path)]) (by kernel_rfl) (by kernel_rfl) (by kernel_rfl) (s2855.chunk 2 rfl) (by kernel_rfl) rfl ?_
                refine Op.lit (T := 22) (len := 1) (parts := #[(0, (.tmp 41))]) (dst := 42) (E := 27) (ps := [(0, .agg #[.int .i64 w.Client, .int .i64 w.Kind, .string (mkS w.Path)])]) (cs := #[.int .i64 w.Client, .int .i64 w.Kind, .string (mkS w.Path)]) (by kernel_rfl) (by kernel_rfl) (by kernel_rfl) s2855 ?_
                intro b2859 h2860 s2861
                refine Op.append (x := (.tmp 40)) (y := (.tmp 42)) (t := 22) (t' := 22) (dst := 43) (E := 27) (by_ := 32) (d := kWatch) (by kernel_rfl) (by kernel_rfl) (by kernel_rfl) (by kernel_rfl) rfl R2827 s2861 1 rfl (Src.lit (m := 1) (sz := 3) (s2861.chunk 0 rfl) (news := [.int .i64 w.Client, .int .i64 w.Kind, .string (mkS w.Path)]) rfl rfl (by simp [Value.oneCell']) _) (ys := [w]) (⟨_, _, rfl, rfl, Reads.nil⟩) rfl (by first | omega | assumption | (have := hA.len h0 h3; simp only [List.length_cons, List.length_nil]; omega) | (have := hA.len h0 h3; simp only [List.length_append, List.length_cons, List.length_nil]; omega) | (have := hA.len h0 (by omega); omega)) (fun _ _ _ => trivial) ?_
                intro v2862 ch2863 h2864 R2865 s2866 nn2867
                obtain ⟨a2868, n2869, rfl⟩ := R2865.form
                have s2870 := (s2866.front 0 rfl).drop
                refine Op.pures 1 [2, 3, 4, 6, 8] (L' := []) (e' := [(2, .pointer (some ⟨b2803, 0, none⟩)), (3, .pointer (some ⟨b2806, 0, none⟩)), (4, .pointer (some ⟨b2809, 0, none⟩)), (6, .slice a2868 ((out ++ ([w])).length) n2869), (8, .int .i64 i)]) (by kernel_rfl) ?_
                refine Op.goto 17 (by kernel_rfl) ?_
                refine At.reg (L := [(0, false)]) (by kernel_rfl) ?_
                refine Op.pures 1 [2, 3, 4, 6, 7, 8] (L' := []) (e' := [(2, .pointer (some ⟨b2803, 0, none⟩)), (3, .pointer (some ⟨b2806, 0, none⟩)), (4, .pointer (some ⟨b2809, 0, none⟩)), (6, .slice a2868 ((out ++ ([w])).length) n2869), (7, .bool true), (8, .int .i64 i)]) (by kernel_rfl) ?_
                refine Op.goto 18 (by kernel_rfl) ?_
                refine At.reg (L := [(0, false), (1, false), (2, false), (3, false), (4, false), (5, false), (6, false), (7, false), (8, false)]) (by kernel_rfl) ?_
                refine Op.pures 2 [2, 3, 4, 6, 7, 8, 44, 45] (L' := [(2, false), (3, false), (4, false), (5, false), (6, false), (7, false), (8, false)]) (e' := [(2, .pointer (some ⟨b2803, 0, none⟩)), (3, .pointer (some ⟨b2806, 0, none⟩)), (4, .pointer (some ⟨b2809, 0, none⟩)), (6, .slice a2868 ((out ++ ([w])).length) n2869), (7, .bool true), (8, .int .i64 i), (44, .slice a2868 ((out ++ ([w])).length) n2869), (45, .pointer (some ⟨b2803, 0, none⟩))]) (by kernel_rfl) ?_
                refine Op.load (T := 22) (x := (.tmp 45)) (o := 0) (d := 46) (n := 1) (v := .slice (some ⟨b2832, o2833, none⟩) t.All.length n_t_0) (by kernel_rfl) (by kernel_rfl) (by kernel_rfl) (s2870.chunk 3 rfl) (by kernel_rfl) ?_
                refine Op.pures 1 [2, 3, 4, 6, 7, 8, 44, 46, 47] (L' := [(4, false), (5, false), (6, false), (7, false), (8, false)]) (e' := [(2, .pointer (some ⟨b2803, 0, none⟩)), (3, .pointer (some ⟨b2806, 0, none⟩)), (4, .pointer (some ⟨b2809, 0, none⟩)), (6, .slice a2868 ((out ++ ([w])).length) n2869), (7, .bool true), (8, .int .i64 i), (44, .slice a2868 ((out ++ ([w])).length) n2869), (46, .slice (some ⟨b2832, o2833, none⟩) t.All.length n_t_0), (47, .int .i64 i)]) (by kernel_rfl) ?_
                obtain ⟨b2873, o2874, cu2875, fz2876, ha2877, hb2878, hk2879⟩ := SlR.at_ h_t_0 _ hx2831
                cases ha2877
                refine Op.idx (T := 22) (E := 27) (sz := 3) (by_ := 32) (n := t.All.length) (c := n_t_0) (k := .i64) (x := (.tmp 46)) (ix := (.tmp 47)) (dst := 48) (bk := b2832) (o := o2833) (m := i) (by kernel_rfl) (by kernel_rfl) (by kernel_rfl) (by kernel_rfl) (by first | omega | assumption | (have := hA.len h0 h3; simp only [List.length_cons, List.length_nil]; omega) | (have := hA.len h0 h3; simp only [List.length_append, List.length_cons, List.length_nil]; omega) | (have := hA.len h0 (by omega); omega)) (by first | omega | assumption | (have := hA.len h0 h3; simp only [List.length_cons, List.length_nil]; omega) | (have := hA.len h0 h3; simp only [List.length_append, List.length_cons, List.length_nil]; omega) | (have := hA.len h0 (by omega); omega)) ?_
                replace hk2879 : cut _ _ _ = [.int .i64 x2830.Client, .int .i64 x2830.Kind, .string (mkS x2830.Path)] := hk2879
                refine Op.loadA (T := 27) (x := (.tmp 48)) (o := o2833 + (i : Int).toNat * 3) (d := 49) (n := 3) (vs := [.int .i64 x2830.Client, .int .i64 x2830.Kind, .string (mkS x2830.Path)]) (by kernel_rfl) (by kernel_rfl) (by kernel_rfl) (s2870.sub _ _ hb2878) (hk2879) rfl ?_
                refine Op.lit (T := 22) (len := 1) (parts := #[(0, (.tmp 49))]) (dst := 50) (E := 27) (ps := [(0, .agg #[.int .i64 x2830.Client, .int .i64 x2830.Kind, .string (mkS x2830.Path)])]) (cs := #[.int .i64 x2830.Client, .int .i64 x2830.Kind, .string (mkS x2830.Path)]) (by kernel_rfl) (by kernel_rfl) (by kernel_rfl) s2870 ?_
                intro b2880 h2881 s2882
                refine Op.append (x := (.tmp 44)) (y := (.tmp 50)) (t := 22) (t' := 22) (dst := 51) (E := 27) (by_ := 32) (d := kWatch) (by kernel_rfl) (by kernel_rfl) (by kernel_rfl) (by kernel_rfl) rfl R2865 s2882 1 rfl (Src.lit (m := 1) (sz := 3) (s2882.chunk 0 rfl) (news := [.int .i64 x2830.Client, .int .i64 x2830.Kind, .string (mkS x2830.Path)]) rfl rfl (by simp [Value.oneCell']) _) (ys := [x2830]) (⟨_, _, rfl, rfl, Reads.nil⟩) rfl (by first | omega | assumption | (have := hA.len h0 h3; simp only [List.length_cons, List.length_nil]; omega) | (have := hA.len h0 h3; simp only [List.length_append, List.length_cons, List.length_nil]; omega) | (have := hA.len h0 (by omega); omega)) (fun _ _ _ => trivial) ?_
                intro v2883 ch2884 h2885 R2886 s2887 nn2888
                obtain ⟨a2889, n2890, rfl⟩ := R2886.form
                have s2891 := (s2887.front 0 rfl).drop
                refine Op.pures 1 [2, 3, 4, 6, 7, 8] (L' := []) (e' := [(2, .pointer (some ⟨b2803, 0, none⟩)), (3, .pointer (some ⟨b2806, 0, none⟩)), (4, .pointer (some ⟨b2809, 0, none⟩)), (6, .slice a2889 (((out ++ ([w])) ++ ([x2830])).length) n2890), (7, .bool true), (8, .int .i64 i)]) (by kernel_rfl) ?_
                refine Op.goto 19 (by kernel_rfl) ?_
                refine At.reg (L := [(0, false), (1, false), (2, false)]) (by kernel_rfl) ?_
                refine Op.pures 1 [2, 3, 4, 6, 7, 8, 19] (L' := [(1, false), (2, false)]) (e' := [(2, .pointer (some ⟨b2803, 0, none⟩)), (3, .pointer (some ⟨b2806, 0, none⟩)), (4, .pointer (some ⟨b2809, 0, none⟩)), (6, .slice a2889 (((out ++ ([w])) ++ ([x2830])).length) n2890), (7, .bool true), (8, .int .i64 i), (19, .int .i64 i)]) (by kernel_rfl) ?_
                refine Op.val (dst := some 20) (v := .int .i64 (IntKind.wrap .i64 (i + 1))) (v' := .int .i64 (i + 1)) (by kernel_rfl) (wrapEq_i64 (by first | omega | assumption | (have := hA.len h0 h3; simp only [List.length_cons, List.length_nil]; omega) | (have := hA.len h0 h3; simp only [List.length_append, List.length_cons, List.length_nil]; omega) | (have := hA.len h0 (by omega); omega)) (by first | omega | assumption | (have := hA.len h0 h3; simp only [List.length_cons, List.length_nil]; omega) | (have := hA.len h0 h3; simp only [List.length_append, List.length_cons, List.length_nil]; omega) | (have := hA.len h0 (by omega); omega))) ?_
                refine Op.pures 1 [2, 3, 4, 6, 7, 8] (L' := []) (e' := [(2, .pointer (some ⟨b2803, 0, none⟩)), (3, .pointer (some ⟨b2806, 0, none⟩)), (4, .pointer (some ⟨b2809, 0, none⟩)), (6, .slice a2889 (((out ++ ([w])) ++ ([x2830])).length) n2890), (7, .bool true), (8, .int .i64 (i + 1))]) (by kernel_rfl) ?_
                refine Op.goto 8 (by kernel_rfl) ?_
                exact ih8  ((out ++ ([w])) ++ ([x2830])) true (i + 1) _ _ _ _ (by omega) (by first | omega | assumption | (have := hA.len h0 h3; simp only [List.length_cons, List.length_nil]; omega) | (have := hA.len h0 h3; simp only [List.length_append, List.length_cons, List.length_nil]; omega) | (have := hA.len h0 (by omega); omega)) (by first | omega | assumption | (have := hA.len h0 h3; simp only [List.length_cons, List.length_nil]; omega) | (have := hA.len h0 h3; simp only [List.length_append, List.length_cons, List.length_nil]; omega) | (have := hA.len h0 (by omega); omega)) (by first | exact AddI_put hA h0 hx2831 (by assumption) (by assumption) (by assumption) | exact AddI_no hA h0 hx2831 (by assumption) (by assumption) | exact AddI_yes hA h0 hx2831 (by assumption) (by assumption)) R2886 s2891
              · have c2892 : (lessW w x2830) = false := hb
                clear hb
                refine At.keep [2, 3, 4, 6, 7, 8] ?_; show At _ _ _ [(2, .pointer (some ⟨b2803, 0, none⟩)), (3, .pointer (some ⟨b2806, 0, none⟩)), (4, .pointer (some ⟨b2809, 0, none⟩)), (6, .slice a2824 out.length n2825), (7, .bool put), (8, .int .i64 i)] _
                refine At.reg (L := [(0, false), (1, false), (2, false), (3, false), (4, false), (5, false), (6, false), (7, false), (8, false)]) (by kernel_rfl) ?_
                refine Op.pures 2 [2, 3, 4, 6, 7, 8, 44, 45] (L' := [(2, false), (3, false), (4, false), (5, false), (6, false), (7, false), (8, false)]) (e' := [(2, .pointer (some ⟨b2803, 0, none⟩)), (3, .pointer (some ⟨b2806, 0, none⟩)), (4, .pointer (some ⟨b2809, 0, none⟩)), (6, .slice a2824 out.length n2825), (7, .bool put), (8, .int .i64 i), (44, .slice a2824 out.length n2825), (45, .pointer (some ⟨b2803, 0, none⟩))]) (by kernel_rfl) ?_
                refine Op.load (T := 22) (x := (.tmp 45)) (o := 0) (d := 46) (n := 1) (v := .slice (some ⟨b2832, o2833, none⟩) t.All.length n_t_0) (by kernel_rfl) (by kernel_rfl) (by kernel_rfl) (s2855.chunk 3 rfl) (by kernel_rfl) ?_
                refine Op.pures 1 [2, 3, 4, 6, 7, 8, 44, 46, 47] (L' := [(4, false), (5, false), (6, false), (7, false), (8, false)]) (e' := [(2, .pointer (some ⟨b2803, 0, none⟩)), (3, .pointer (some ⟨b2806, 0, none⟩)), (4, .pointer (some ⟨b2809, 0, none⟩)), (6, .slice a2824 out.length n2825), (7, .bool put), (8, .int .i64 i), (44, .slice a2824 out.length n2825), (46, .slice (some ⟨b2832, o2833, none⟩) t.All.length n_t_0), (47, .int .i64 i)]) (by kernel_rfl) ?_
                obtain ⟨b2895, o2896, cu2897, fz2898, ha2899, hb2900, hk2901⟩ := SlR.at_ h_t_0 _ hx2831
                cases ha2899
                refine Op.idx (T := 22) (E := 27) (sz := 3) (by_ := 32) (n := t.All.length) (c := n_t_0) (k := .i64) (x := (.tmp 46)) (ix := (.tmp 47)) (dst := 48) (bk := b2832) (o := o2833) (m := i) (by kernel_rfl) (by kernel_rfl) (by kernel_rfl) (by kernel_rfl) (by first | omega | assumption | (have := hA.len h0 h3; simp only [List.length_cons, List.length_nil]; omega) | (have := hA.len h0 h3; simp only [List.length_append, List.length_cons, List.length_nil]; omega) | (have := hA.len h0 (by omega); omega)) (by first | omega | assumption | (have := hA.len h0 h3; simp only [List.length_cons, List.length_nil]; omega) | (have := hA.len h0 h3; simp only [List.length_append, List.length_cons, List.length_nil]; omega) | (have := hA.len h0 (by omega); omega)) ?_
                replace hk2901 : cut _ _ _ = [.int .i64 x2830.Client, .int .i64 x2830.Kind, .string (mkS x2830.Path)] := hk2901
                refine Op.loadA (T := 27) (x := (.tmp 48)) (o := o2833 + (i : Int).toNat * 3) (d := 49) (n := 3) (vs := [.int .i64 x2830.Client, .int .i64 x2830.Kind, .string (mkS x2830.Path)]) (by kernel_rfl) (by kernel_rfl) (by kernel_rfl) (s2855.sub _ _ hb2900) (hk2901) rfl ?_
                refine Op.lit (T := 22) (len := 1) (parts := #[(0, (.tmp 49))]) (dst := 50) (E := 27) (ps := [(0, .agg #[.int .i64 x2830.Client, .int .i64 x2830.Kind, .string (mkS x2830.Path)])]) (cs := #[.int .i64 x2830.Client, .int .i64 x2830.Kind, .string (mkS x2830.Path)]) (by kernel_rfl) (by kernel_rfl) (by kernel_rfl) s2855 ?_
                intro b2902 h2903 s2904
                refine Op.append (x := (.tmp 44)) (y := (.tmp 50)) (t := 22) (t' := 22) (dst := 51) (E := 27) (by_ := 32) (d := kWatch) (by kernel_rfl) (by kernel_rfl) (by kernel_rfl) (by kernel_rfl) rfl R2827 s2904 1 rfl (Src.lit (m := 1) (sz := 3) (s2904.chunk 0 rfl) (news := [.int .i64 x2830.Client, .int .i64 x2830.Kind, .string (mkS x2830.Path)]) rfl rfl (by simp [Value.oneCell']) _) (ys := [x2830]) (⟨_, _, rfl, rfl, Reads.nil⟩) rfl (by first | omega | assumption | (have := hA.len h0 h3; simp only [List.length_cons, List.length_nil]; omega) | (have := hA.len h0 h3; simp only [List.length_append, List.length_cons, List.length_nil]; omega) | (have := hA.len h0 (by omega); omega)) (fun _ _ _ => trivial) ?_
                intro v2905 ch2906 h2907 R2908 s2909 nn2910
                obtain ⟨a2911, n2912, rfl⟩ := R2908.form
                have s2913 := (s2909.front 0 rfl).drop
                refine Op.pures 1 [2, 3, 4, 6, 7, 8] (L' := []) (e' := [(2, .pointer (some ⟨b2803, 0, none⟩)), (3, .pointer (some ⟨b2806, 0, none⟩)), (4, .pointer (some ⟨b2809, 0, none⟩)), (6, .slice a2911 ((out ++ ([x2830])).length) n2912), (7, .bool put), (8, .int .i64 i)]) (by kernel_rfl) ?_
                refine Op.goto 19 (by kernel_rfl) ?_
                refine At.reg (L := [(0, false), (1, false), (2, false)]) (by kernel_rfl) ?_
                refine Op.pures 1 [2, 3, 4, 6, 7, 8, 19] (L' := [(1, false), (2, false)]) (e' := [(2, .pointer (some ⟨b2803, 0, none⟩)), (3, .pointer (some ⟨b2806, 0, none⟩)), (4, .pointer (some ⟨b2809, 0, none⟩)), (6, .slice a2911 ((out ++ ([x2830])).length) n2912), (7, .bool put), (8, .int .i64 i), (19, .int .i64 i)]) (by kernel_rfl) ?_
                refine Op.val (dst := some 20) (v := .int .i64 (IntKind.wrap .i64 (i + 1))) (v' := .int .i64 (i + 1)) (by kernel_rfl) (wrapEq_i64 (by first | omega | assumption | (have := hA.len h0 h3; simp only [List.length_cons, List.length_nil]; omega) | (have := hA.len h0 h3; simp only [List.length_append, List.length_cons, List.length_nil]; omega) | (have := hA.len h0 (by omega); omega)) (by first | omega | assumption | (have := hA.len h0 h3; simp only [List.length_cons, List.length_nil]; omega) | (have := hA.len h0 h3; simp only [List.length_append, List.length_cons, List.length_nil]; omega) | (have := hA.len h0 (by omega); omega))) ?_
                refine Op.pures 1 [2, 3, 4, 6, 7, 8] (L' := []) (e' := [(2, .pointer (some ⟨b2803, 0, none⟩)), (3, .pointer (some ⟨b2806, 0, none⟩)), (4, .pointer (some ⟨b2809, 0, none⟩)), (6, .slice a2911 ((out ++ ([x2830])).length) n2912), (7, .bool put), (8, .int .i64 (i + 1))]) (by kernel_rfl) ?_
                refine Op.goto 8 (by kernel_rfl) ?_
                exact ih8  (out ++ ([x2830])) put (i + 1) _ _ _ _ (by omega) (by first | omega | assumption | (have := hA.len h0 h3; simp only [List.length_cons, List.length_nil]; omega) | (have := hA.len h0 h3; simp only [List.length_append, List.length_cons, List.length_nil]; omega) | (have := hA.len h0 (by omega); omega)) (by first | omega | assumption | (have := hA.len h0 h3; simp only [List.length_cons, List.length_nil]; omega) | (have := hA.len h0 h3; simp only [List.length_append, List.length_cons, List.length_nil]; omega) | (have := hA.len h0 (by omega); omega)) (by first | exact AddI_put hA h0 hx2831 (by assumption) (by assumption) (by assumption) | exact AddI_no hA h0 hx2831 (by assumption) (by assumption) | exact AddI_yes hA h0 hx2831 (by assumption) (by assumption)) R2908 s2913
            · refine Op.cast (e' := [(2, .pointer (some ⟨b2803, 0, none⟩)), (3, .pointer (some ⟨b2806, 0, none⟩)), (4, .pointer (some ⟨b2809, 0, none⟩)), (6, .slice a2824 out.length n2825), (7, .bool put), (8, .int .i64 i), (31, .bool false)]) (by rw [hb]) ?_
              have c2914 : put = true := (notF hb)
              clear hb
              refine Op.pures 8 [2, 3, 4, 6, 7, 8, 39] (L' := []) (e' := [(2, .pointer (some ⟨b2803, 0, none⟩)), (3, .pointer (some ⟨b2806, 0, none⟩)), (4, .pointer (some ⟨b2809, 0, none⟩)), (6, .slice a2824 out.length n2825), (7, .bool put), (8, .int .i64 i), (39, .bool false)]) (by kernel_rfl) ?_
              refine Op.goto 15 (by kernel_rfl) ?_
              refine At.condF (c := .tmp 39) (by kernel_rfl) (by kernel_rfl) (by kernel_rfl) 18 (by kernel_rfl) ?_
              refine At.reg (L := [(0, false), (1, false), (2, false), (3, false), (4, false), (5, false), (6, false), (7, false), (8, false)]) (by kernel_rfl) ?_
              refine Op.pures 2 [2, 3, 4, 6, 7, 8, 44, 45] (L' := [(2, false), (3, false), (4, false), (5, false), (6, false), (7, false), (8, false)]) (e' := [(2, .pointer (some ⟨b2803, 0, none⟩)), (3, .pointer (some ⟨b2806, 0, none⟩)), (4, .pointer (some ⟨b2809, 0, none⟩)), (6, .slice a2824 out.length n2825), (7, .bool put), (8, .int .i64 i), (44, .slice a2824 out.length n2825), (45, .pointer (some ⟨b2803, 0, none⟩))]) (by kernel_rfl) ?_
              refine Op.load (T := 22) (x := (.tmp 45)) (o := 0) (d := 46) (n := 1) (v := .slice (some ⟨b2832, o2833, none⟩) t.All.length n_t_0) (by kernel_rfl) (by kernel_rfl) (by kernel_rfl) (s_loop82827.chunk 3 rfl) (by kernel_rfl) ?_
              refine Op.pures 1 [2, 3, 4, 6, 7, 8, 44, 46, 47] (L' := [(4, false), (5, false), (6, false), (7, false), (8, false)]) (e' := [(2, .pointer (some ⟨b2803, 0, none⟩)), (3, .pointer (some ⟨b2806, 0, none⟩)), (4, .pointer (some ⟨b2809, 0, none⟩)), (6, .slice a2824 out.length n2825), (7, .bool put), (8, .int .i64 i), (44, .slice a2824 out.length n2825), (46, .slice (some ⟨b2832, o2833, none⟩) t.All.length n_t_0), (47, .int .i64 i)]) (by kernel_rfl) ?_
              obtain ⟨b2917, o2918, cu2919, fz2920, ha2921, hb2922, hk2923⟩ := SlR.at_ h_t_0 _ hx2831
              cases ha2921
              refine Op.idx (T := 22) (E := 27) (sz := 3) (by_ := 32) (n := t.All.length) (c := n_t_0) (k := .i64) (x := (.tmp 46)) (ix := (.tmp 47)) (dst := 48) (bk := b2832) (o := o2833) (m := i) (by kernel_rfl) (by kernel_rfl) (by kernel_rfl) (by kernel_rfl) (by first | omega | assumption | (have := hA.len h0 h3; simp only [List.length_cons, List.length_nil]; omega) | (have := hA.len h0 h3; simp only [List.length_append, List.length_cons, List.length_nil]; omega) | (have := hA.len h0 (by omega); omega)) (by first | omega | assumption | (have := hA.len h0 h3; simp only [List.length_cons, List.length_nil]; omega) | (have := hA.len h0 h3; simp only [List.length_append, List.length_cons, List.length_nil]; omega) | (have := hA.len h0 (by omega); omega)) ?_
              replace hk2923 : cut _ _ _ = [.int .i64 x2830.Client, .int .i64 x2830.Kind, .string (mkS x2830.Path)] := hk2923
              refine Op.loadA (T := 27) (x := (.tmp 48)) (o := o2833 + (i : Int).toNat * 3) (d := 49) (n := 3) (vs := [.int .i64 x2830.Client, .int .i64 x2830.Kind, .string (mkS x2830.Path)]) (by kernel_rfl) (by kernel_rfl) (by kernel_rfl) (s_loop82827.sub _ _ hb2922) (hk2923) rfl ?_
              refine Op.lit (T := 22) (len := 1) (parts := #[(0, (.tmp 49))]) (dst := 50) (E := 27) (ps := [(0, .agg #[.int .i64 x2830.Client, .int .i64 x2830.Kind, .string (mkS x2830.Path)])]) (cs := #[.int .i64 x2830.Client, .int .i64 x2830.Kind, .string (mkS x2830.Path)]) (by kernel_rfl) (by kernel_rfl) (by kernel_rfl) s_loop82827 ?_
              intro b2924 h2925 s2926
              refine Op.append (x := (.tmp 44)) (y := (.tmp 50)) (t := 22) (t' := 22) (dst := 51) (E := 27) (by_ := 32) (d := kWatch) (by kernel_rfl) (by kernel_rfl) (by kernel_rfl) (by kernel_rfl) rfl R2827 s2926 1 rfl (Src.lit (m := 1) (sz := 3) (s2926.chunk 0 rfl) (news := [.int .i64 x2830.Client, .int .i64 x2830.Kind, .string (mkS x2830.Path)]) rfl rfl (by simp [Value.oneCell']) _) (ys := [x2830]) (⟨_, _, rfl, rfl, Reads.nil⟩) rfl (by first | omega | assumption | (have := hA.len h0 h3; simp only [List.length_cons, List.length_nil]; omega) | (have := hA.len h0 h3; simp only [List.length_append, List.length_cons, List.length_nil]; omega) | (have := hA.len h0 (by omega); omega)) (fun _ _ _ => trivial) ?_
              intro v2927 ch2928 h2929 R2930 s2931 nn2932
              obtain ⟨a2933, n2934, rfl⟩ := R2930.form
              have s2935 := (s2931.front 0 rfl).drop
              refine Op.pures 1 [2, 3, 4, 6, 7, 8] (L' := []) (e' := [(2, .pointer (some ⟨b2803, 0, none⟩)), (3, .pointer (some ⟨b2806, 0, none⟩)), (4, .pointer (some ⟨b2809, 0, none⟩)), (6, .slice a2933 ((out ++ ([x2830])).length) n2934), (7, .bool put), (8, .int .i64 i)]) (by kernel_rfl) ?_
              refine Op.goto 19 (by kernel_rfl) ?_
              refine At.reg (L := [(0, false), (1, false), (2, false)]) (by kernel_rfl) ?_
              refine Op.pures 1 [2, 3, 4, 6, 7, 8, 19] (L' := [(1, false), (2, false)]) (e' := [(2, .pointer (some ⟨b2803, 0, none⟩)), (3, .pointer (some ⟨b2806, 0, none⟩)), (4, .pointer (some ⟨b2809, 0, none⟩)), (6, .slice a2933 ((out ++ ([x2830])).length) n2934), (7, .bool put), (8, .int .i64 i), (19, .int .i64 i)]) (by kernel_rfl) ?_
              refine Op.val (dst := some 20) (v := .int .i64 (IntKind.wrap .i64 (i + 1))) (v' := .int .i64 (i + 1)) (by kernel_rfl) (wrapEq_i64 (by first | omega | assumption | (have := hA.len h0 h3; simp only [List.length_cons, List.length_nil]; omega) | (have := hA.len h0 h3; simp only [List.length_append, List.length_cons, List.length_nil]; omega) | (have := hA.len h0 (by omega); omega)) (by first | omega | assumption | (have := hA.len h0 h3; simp only [List.length_cons, List.length_nil]; omega) | (have := hA.len h0 h3; simp only [List.length_append, List.length_cons, List.length_nil]; omega) | (have := hA.len h0 (by omega); omega))) ?_
              refine Op.pures 1 [2, 3, 4, 6, 7, 8] (L' := []) (e' := [(2, .pointer (some ⟨b2803, 0, none⟩)), (3, .pointer (some ⟨b2806, 0, none⟩)), (4, .pointer (some ⟨b2809, 0, none⟩)), (6, .slice a2933 ((out ++ ([x2830])).length) n2934), (7, .bool put), (8, .int .i64 (i + 1))]) (by kernel_rfl) ?_
              refine Op.goto 8 (by kernel_rfl) ?_
              exact ih8  (out ++ ([x2830])) put (i + 1) _ _ _ _ (by omega) (by first | omega | assumption | (have := hA.len h0 h3; simp only [List.length_cons, List.length_nil]; omega) | (have := hA.len h0 h3; simp only [List.length_append, List.length_cons, List.length_nil]; omega) | (have := hA.len h0 (by omega); omega)) (by first | omega | assumption | (have := hA.len h0 h3; simp only [List.length_cons, List.length_nil]; omega) | (have := hA.len h0 h3; simp only [List.length_append, List.length_cons, List.length_nil]; omega) | (have := hA.len h0 (by omega); omega)) (by first | exact AddI_put hA h0 hx2831 (by assumption) (by assumption) (by assumption) | exact AddI_no hA h0 hx2831 (by assumption) (by assumption) | exact AddI_yes hA h0 hx2831 (by assumption) (by assumption)) R2930 s2935
        · have c2936 : ¬ (i < (t.All.length : Int)) := of_decide_eq_false hb
          clear hb
          refine At.keep [2, 3, 4, 6, 7] ?_; show At _ _ _ [(2, .pointer (some ⟨b2803, 0, none⟩)), (3, .pointer (some ⟨b2806, 0, none⟩)), (4, .pointer (some ⟨b2809, 0, none⟩)), (6, .slice a2824 out.length n2825), (7, .bool put)] _
          refine At.reg (L := [(0, false), (1, false), (2, false), (3, false), (4, false), (5, false)]) (by kernel_rfl) ?_
          refine Op.pures 1 [2, 3, 4, 6, 7, 52] (L' := [(1, false), (2, false), (3, false), (4, false), (5, false)]) (e' := [(2, .pointer (some ⟨b2803, 0, none⟩)), (3, .pointer (some ⟨b2806, 0, none⟩)), (4, .pointer (some ⟨b2809, 0, none⟩)), (6, .slice a2824 out.length n2825), (7, .bool put), (52, .pointer (some ⟨b2803, 0, none⟩))]) (by kernel_rfl) ?_
          refine Op.load (T := 22) (x := (.tmp 52)) (o := 0) (d := 53) (n := 1) (v := .slice a_t_0 t.All.length n_t_0) (by kernel_rfl) (by kernel_rfl) (by kernel_rfl) (s_loop82827.chunk 3 rfl) (by kernel_rfl) ?_
          refine Op.pures 1 [2, 3, 4, 6, 7, 53, 54] (L' := [(3, false), (4, false), (5, false)]) (e' := [(2, .pointer (some ⟨b2803, 0, none⟩)), (3, .pointer (some ⟨b2806, 0, none⟩)), (4, .pointer (some ⟨b2809, 0, none⟩)), (6, .slice a2824 out.length n2825), (7, .bool put), (53, .slice a_t_0 t.All.length n_t_0), (54, .pointer (some ⟨b2806, 0, none⟩))]) (by kernel_rfl) ?_
          refine Op.load (T := 3) (x := (.tmp 54)) (o := 0) (d := 55) (n := 1) (v := .int .i64 w.Client) (by kernel_rfl) (by kernel_rfl) (by kernel_rfl) (s_loop82827.chunk 2 rfl) (by kernel_rfl) ?_
          refine Op.call0 (dst := some 56) (f := 54) (args := #[.slice a_t_0 t.All.length n_t_0, .int .i64 w.Client]) (by kernel_rfl) s_loop82827 (of11 _ _ _ s_loop82827.sub hG _ _ h_t_0 w.Client (by ((try dsimp only) <;> (first | omega | assumption | (have := hA.len h0 h3; simp only [List.length_cons, List.length_nil]; omega) | (have := hA.len h0 h3; simp only [List.length_append, List.length_cons, List.length_nil]; omega) | (have := hA.len h0 (by omega); omega)))) ) ?_
          rintro _ g2939 _ h2937 hle2940 s2938 ⟨rfl, hgg, rfl⟩; subst g2939; clear hle2940
          refine Op.pures 1 [2, 3, 4, 6, 7, 57] (L' := []) (e' := [(2, .pointer (some ⟨b2803, 0, none⟩)), (3, .pointer (some ⟨b2806, 0, none⟩)), (4, .pointer (some ⟨b2809, 0, none⟩)), (6, .slice a2824 out.length n2825), (7, .bool put), (57, .bool (decide ((cnt w.Client t.All : Int) ≥ (8 : Int))))]) (by kernel_rfl) ?_
          refine Op.goto 21 (by kernel_rfl) ?_
          refine At.cond (b := decide ((cnt w.Client t.All : Int) ≥ (8 : Int))) (c := .tmp 57) (by kernel_rfl) (by kernel_rfl) (by kernel_rfl) 22 24 (by kernel_rfl) (by kernel_rfl) (fun hb => ?_) (fun hb => ?_)
          · have c2941 : (cnt w.Client t.All : Int) ≥ (8 : Int) := of_decide_eq_true hb
            clear hb
            refine At.keep [2, 4] ?_; show At _ _ _ [(2, .pointer (some ⟨b2803, 0, none⟩)), (4, .pointer (some ⟨b2809, 0, none⟩))] _
            refine At.reg (L := [(0, false), (1, false), (2, false)]) (by kernel_rfl) ?_
            refine Op.loadA (T := 36) (x := (.tmp 2)) (o := 0) (d := 58) (n := 1) (vs := [.slice a_t_0 t.All.length n_t_0]) (by kernel_rfl) (by kernel_rfl) (by kernel_rfl) (s2938.chunk 3 rfl) (by kernel_rfl) rfl ?_
            refine Op.store (T := 36) (x := (.tmp 4)) (y := (.tmp 58)) (b := b2809) (o := 0) (vs := [.slice a_t_0 t.All.length n_t_0]) (a? := true) (n := 1) (by kernel_rfl) (by kernel_rfl) (by kernel_rfl) (by kernel_rfl) rfl (by simp [Value.oneCell']) s2938 1 rfl (Nat.le_of_ble_eq_true (by kernel_rfl)) (cs := #[.slice none 0 0]) (cs' := #[.slice a_t_0 t.All.length n_t_0]) (by kernel_rfl) (fun _ => trivial) ?_
            intro h2942 s2943
            refine Op.pures 1 [4, 5] (L' := []) (e' := [(4, .pointer (some ⟨b2809, 0, none⟩)), (5, .int .i64 104)]) (by kernel_rfl) ?_
            refine Op.goto 23 (by kernel_rfl) ?_
            refine At.retM (f := Tryd.f20) (vs := [.agg #[.slice a_t_0 t.All.length n_t_0], .int .i64 104]) (rl := [.cell 4 36, .tmp 5]) (v := .tuple #[.agg #[.slice a_t_0 t.All.length n_t_0], .int .i64 104]) (by kernel_rfl) (by kernel_rfl) ⟨⟨_, _, rfl, resAgg (n := 1) (by kernel_rfl) (s2943.chunk 1 rfl) (by kernel_rfl) rfl⟩, rfl, trivial⟩ rfl ?_
            have s2944 : St h g (ids []) g [] h2942 := (s2943).drop.drop.drop.drop
            refine hR _ _ _ _ s2944 ⟨(.slice a_t_0 t.All.length n_t_0), ?_, ?_, rfl⟩
            · exact eqT2 rfl (eqI (by first | exact (add_90 (by assumption)).1 | exact (add_90 (by assumption)).2 | exact (add_has (by assumption) (has_at {hx0} (by assumption))).1 | exact (add_has (by assumption) (has_at {hx0} (by assumption))).2 | exact (add_104 (by assumption) (hA.has (by assumption)) (by assumption)).1 | exact (add_104 (by assumption) (hA.has (by assumption)) (by assumption)).2 | exact (add_ok (by assumption) (hA.has (by assumption)) (by assumption)).2 | (rw [(AddI_end hA (by assumption)).1 (by assumption)]; exact (add_ok (by assumption) (hA.has (by assumption)) (by assumption)).1) | (rw [(AddI_end hA (by assumption)).2 (by assumption)]; exact (add_ok (by assumption) (hA.has (by assumption)) (by assumption)).1)))
            · exact slEq h_t_0 (by first | exact (add_90 (by assumption)).1 | exact (add_90 (by assumption)).2 | exact (add_has (by assumption) (has_at {hx0} (by assumption))).1 | exact (add_has (by assumption) (has_at {hx0} (by assumption))).2 | exact (add_104 (by assumption) (hA.has (by assumption)) (by assumption)).1 | exact (add_104 (by assumption) (hA.has (by assumption)) (by assumption)).2 | exact (add_ok (by assumption) (hA.has (by assumption)) (by assumption)).2 | (rw [(AddI_end hA (by assumption)).1 (by assumption)]; exact (add_ok (by assumption) (hA.has (by assumption)) (by assumption)).1) | (rw [(AddI_end hA (by assumption)).2 (by assumption)]; exact (add_ok (by assumption) (hA.has (by assumption)) (by assumption)).1))
          · have c2945 : ¬ ((cnt w.Client t.All : Int) ≥ (8 : Int)) := of_decide_eq_false hb
            clear hb
            refine At.keep [2, 3, 4, 6, 7] ?_; show At _ _ _ [(2, .pointer (some ⟨b2803, 0, none⟩)), (3, .pointer (some ⟨b2806, 0, none⟩)), (4, .pointer (some ⟨b2809, 0, none⟩)), (6, .slice a2824 out.length n2825), (7, .bool put)] _
            refine At.reg (L := [(0, false), (1, false)]) (by kernel_rfl) ?_
            refine Op.pures 2 [2, 3, 4, 6, 60] (L' := []) (e' := [(2, .pointer (some ⟨b2803, 0, none⟩)), (3, .pointer (some ⟨b2806, 0, none⟩)), (4, .pointer (some ⟨b2809, 0, none⟩)), (6, .slice a2824 out.length n2825), (60, .bool (!put))]) (by kernel_rfl) ?_
            refine Op.goto 25 (by kernel_rfl) ?_
            refine At.cond (b := !put) (c := .tmp 60) (by kernel_rfl) (by kernel_rfl) (by kernel_rfl) 26 27 (by kernel_rfl) (by kernel_rfl) (fun hb => ?_) (fun hb => ?_)
            · have c2946 : put = false := (notT hb)
              clear hb
              refine At.keep [2, 3, 4, 6] ?_; show At _ _ _ [(2, .pointer (some ⟨b2803, 0, none⟩)), (3, .pointer (some ⟨b2806, 0, none⟩)), (4, .pointer (some ⟨b2809, 0, none⟩)), (6, .slice a2824 out.length n2825)] _
              refine At.reg (L := [(0, false), (1, false), (2, false), (3, false), (4, false)]) (by kernel_rfl) ?_
              refine Op.pures 1 [2, 3, 4, 6, 61] (L' := [(1, false), (2, false), (3, false), (4, false)]) (e' := [(2, .pointer (some ⟨b2803, 0, none⟩)), (3, .pointer (some ⟨b2806, 0, none⟩)), (4, .pointer (some ⟨b2809, 0, none⟩)), (6, .slice a2824 out.length n2825), (61, .slice a2824 out.length n2825)]) (by kernel_rfl) ?_
              refine Op.loadA (T := 27) (x := (.tmp 3)) (o := 0) (d := 62) (n := 3) (vs := [.int .i64 w.Client, .int .i64 w.Kind, .string (mkS w.Path)]) (by kernel_rfl) (by kernel_rfl) (by kernel_rfl) (s2938.chunk 2 rfl) (by kernel_rfl) rfl ?_
              refine Op.lit (T := 22) (len := 1) (parts := #[(0, (.tmp 62))]) (dst := 63) (E := 27) (ps := [(0, .agg #[.int .i64 w.Client, .int .i64 w.Kind, .string (mkS w.Path)])]) (cs := #[.int .i64 w.Client, .int .i64 w.Kind, .string (mkS w.Path)]) (by kernel_rfl) (by kernel_rfl) (by kernel_rfl) s2938 ?_
              intro b2947 h2948 s2949
              refine Op.append (x := (.tmp 61)) (y := (.tmp 63)) (t := 22) (t' := 22) (dst := 64) (E := 27) (by_ := 32) (d := kWatch) (by kernel_rfl) (by kernel_rfl) (by kernel_rfl) (by kernel_rfl) rfl R2827 s2949 1 rfl (Src.lit (m := 1) (sz := 3) (s2949.chunk 0 rfl) (news := [.int .i64 w.Client, .int .i64 w.Kind, .string (mkS w.Path)]) rfl rfl (by simp [Value.oneCell']) _) (ys := [w]) (⟨_, _, rfl, rfl, Reads.nil⟩) rfl (by first | omega | assumption | (have := hA.len h0 h3; simp only [List.length_cons, List.length_nil]; omega) | (have := hA.len h0 h3; simp only [List.length_append, List.length_cons, List.length_nil]; omega) | (have := hA.len h0 (by omega); omega)) (fun _ _ _ => trivial) ?_
              intro v2950 ch2951 h2952 R2953 s2954 nn2955
              obtain ⟨a2956, n2957, rfl⟩ := R2953.form
              have s2958 := (s2954.front 0 rfl).drop
              refine Op.pures 1 [2, 4, 6] (L' := []) (e' := [(2, .pointer (some ⟨b2803, 0, none⟩)), (4, .pointer (some ⟨b2809, 0, none⟩)), (6, .slice a2956 ((out ++ ([w])).length) n2957)]) (by kernel_rfl) ?_
              refine Op.goto 27 (by kernel_rfl) ?_
              refine At.reg (L := [(0, false), (1, false), (2, false)]) (by kernel_rfl) ?_
              refine Op.pures 2 [2, 4, 65, 66] (L' := [(2, false)]) (e' := [(2, .pointer (some ⟨b2803, 0, none⟩)), (4, .pointer (some ⟨b2809, 0, none⟩)), (65, .slice a2956 ((out ++ ([w])).length) n2957), (66, .pointer (some ⟨b2803, 0, none⟩))]) (by kernel_rfl) ?_
              refine Op.store (T := 22) (x := (.tmp 66)) (y := (.tmp 65)) (b := b2803) (o := 0) (vs := [.slice a2956 ((out ++ ([w])).length) n2957]) (a? := false) (n := 1) (by kernel_rfl) (by kernel_rfl) (by kernel_rfl) (by kernel_rfl) rfl (by simp [Value.oneCell']) s2958 3 rfl (Nat.le_of_ble_eq_true (by kernel_rfl)) (cs := #[.slice a_t_0 t.All.length n_t_0]) (cs' := #[.slice a2956 ((out ++ ([w])).length) n2957]) (by kernel_rfl) (fun _ => trivial) ?_
              intro h2959 s2960
              refine Op.goto 28 (by kernel_rfl) ?_
              refine At.reg (L := [(0, false), (1, false), (2, false)]) (by kernel_rfl) ?_
              refine Op.loadA (T := 36) (x := (.tmp 2)) (o := 0) (d := 67) (n := 1) (vs := [.slice a2956 ((out ++ ([w])).length) n2957]) (by kernel_rfl) (by kernel_rfl) (by kernel_rfl) (s2960.chunk 3 rfl) (by kernel_rfl) rfl ?_
              refine Op.store (T := 36) (x := (.tmp 4)) (y := (.tmp 67)) (b := b2809) (o := 0) (vs := [.slice a2956 ((out ++ ([w])).length) n2957]) (a? := true) (n := 1) (by kernel_rfl) (by kernel_rfl) (by kernel_rfl) (by kernel_rfl) rfl (by simp [Value.oneCell']) s2960 1 rfl (Nat.le_of_ble_eq_true (by kernel_rfl)) (cs := #[.slice none 0 0]) (cs' := #[.slice a2956 ((out ++ ([w])).length) n2957]) (by kernel_rfl) (fun _ => trivial) ?_
              intro h2961 s2962
              refine Op.pures 1 [4, 5] (L' := []) (e' := [(4, .pointer (some ⟨b2809, 0, none⟩)), (5, .int .i64 0)]) (by kernel_rfl) ?_
              refine Op.goto 29 (by kernel_rfl) ?_
              obtain ⟨g2963, s2964, hle2965, hf2966⟩ := Row.freeze R2953 (s2962.front 0 rfl)
              replace hG := hG.mono hle2965
              refine At.retM (f := Tryd.f20) (vs := [.agg #[.slice a2956 ((out ++ ([w])).length) n2957], .int .i64 0]) (rl := [.cell 4 36, .tmp 5]) (v := .tuple #[.agg #[.slice a2956 ((out ++ ([w])).length) n2957], .int .i64 0]) (by kernel_rfl) (by kernel_rfl) ⟨⟨_, _, rfl, resAgg (n := 1) (by kernel_rfl) (s2964.chunk 0 rfl) (by kernel_rfl) rfl⟩, rfl, trivial⟩ rfl ?_
              have s2967 : St h g (ids []) g2963 [] h2961 := (s2964).drop.drop.drop
              refine hR _ _ _ _ s2967 ⟨(.slice a2956 ((out ++ ([w])).length) n2957), ?_, ?_, rfl⟩
              · exact eqT2 rfl (eqI (by first | exact (add_90 (by assumption)).1 | exact (add_90 (by assumption)).2 | exact (add_has (by assumption) (has_at {hx0} (by assumption))).1 | exact (add_has (by assumption) (has_at {hx0} (by assumption))).2 | exact (add_104 (by assumption) (hA.has (by assumption)) (by assumption)).1 | exact (add_104 (by assumption) (hA.has (by assumption)) (by assumption)).2 | exact (add_ok (by assumption) (hA.has (by assumption)) (by assumption)).2 | (rw [(AddI_end hA (by assumption)).1 (by assumption)]; exact (add_ok (by assumption) (hA.has (by assumption)) (by assumption)).1) | (rw [(AddI_end hA (by assumption)).2 (by assumption)]; exact (add_ok (by assumption) (hA.has (by assumption)) (by assumption)).1)))
              · exact slEq hf2966 (by first | exact (add_90 (by assumption)).1 | exact (add_90 (by assumption)).2 | exact (add_has (by assumption) (has_at {hx0} (by assumption))).1 | exact (add_has (by assumption) (has_at {hx0} (by assumption))).2 | exact (add_104 (by assumption) (hA.has (by assumption)) (by assumption)).1 | exact (add_104 (by assumption) (hA.has (by assumption)) (by assumption)).2 | exact (add_ok (by assumption) (hA.has (by assumption)) (by assumption)).2 | (rw [(AddI_end hA (by assumption)).1 (by assumption)]; exact (add_ok (by assumption) (hA.has (by assumption)) (by assumption)).1) | (rw [(AddI_end hA (by assumption)).2 (by assumption)]; exact (add_ok (by assumption) (hA.has (by assumption)) (by assumption)).1))
            · have c2968 : put = true := (notF hb)
              clear hb
              refine At.keep [2, 4, 6] ?_; show At _ _ _ [(2, .pointer (some ⟨b2803, 0, none⟩)), (4, .pointer (some ⟨b2809, 0, none⟩)), (6, .slice a2824 out.length n2825)] _
              refine At.reg (L := [(0, false), (1, false), (2, false)]) (by kernel_rfl) ?_
              refine Op.pures 2 [2, 4, 65, 66] (L' := [(2, false)]) (e' := [(2, .pointer (some ⟨b2803, 0, none⟩)), (4, .pointer (some ⟨b2809, 0, none⟩)), (65, .slice a2824 out.length n2825), (66, .pointer (some ⟨b2803, 0, none⟩))]) (by kernel_rfl) ?_
              refine Op.store (T := 22) (x := (.tmp 66)) (y := (.tmp 65)) (b := b2803) (o := 0) (vs := [.slice a2824 out.length n2825]) (a? := false) (n := 1) (by kernel_rfl) (by kernel_rfl) (by kernel_rfl) (by kernel_rfl) rfl (by simp [Value.oneCell']) s2938 3 rfl (Nat.le_of_ble_eq_true (by kernel_rfl)) (cs := #[.slice a_t_0 t.All.length n_t_0]) (cs' := #[.slice a2824 out.length n2825]) (by kernel_rfl) (fun _ => trivial) ?_
              intro h2969 s2970
              refine Op.goto 28 (by kernel_rfl) ?_
              refine At.reg (L := [(0, false), (1, false), (2, false)]) (by kernel_rfl) ?_
              refine Op.loadA (T := 36) (x := (.tmp 2)) (o := 0) (d := 67) (n := 1) (vs := [.slice a2824 out.length n2825]) (by kernel_rfl) (by kernel_rfl) (by kernel_rfl) (s2970.chunk 3 rfl) (by kernel_rfl) rfl ?_
              refine Op.store (T := 36) (x := (.tmp 4)) (y := (.tmp 67)) (b := b2809) (o := 0) (vs := [.slice a2824 out.length n2825]) (a? := true) (n := 1) (by kernel_rfl) (by kernel_rfl) (by kernel_rfl) (by kernel_rfl) rfl (by simp [Value.oneCell']) s2970 1 rfl (Nat.le_of_ble_eq_true (by kernel_rfl)) (cs := #[.slice none 0 0]) (cs' := #[.slice a2824 out.length n2825]) (by kernel_rfl) (fun _ => trivial) ?_
              intro h2971 s2972
              refine Op.pures 1 [4, 5] (L' := []) (e' := [(4, .pointer (some ⟨b2809, 0, none⟩)), (5, .int .i64 0)]) (by kernel_rfl) ?_
              refine Op.goto 29 (by kernel_rfl) ?_
              obtain ⟨g2973, s2974, hle2975, hf2976⟩ := Row.freeze R2827 (s2972.front 0 rfl)
              replace hG := hG.mono hle2975
              refine At.retM (f := Tryd.f20) (vs := [.agg #[.slice a2824 out.length n2825], .int .i64 0]) (rl := [.cell 4 36, .tmp 5]) (v := .tuple #[.agg #[.slice a2824 out.length n2825], .int .i64 0]) (by kernel_rfl) (by kernel_rfl) ⟨⟨_, _, rfl, resAgg (n := 1) (by kernel_rfl) (s2974.chunk 0 rfl) (by kernel_rfl) rfl⟩, rfl, trivial⟩ rfl ?_
              have s2977 : St h g (ids []) g2973 [] h2971 := (s2974).drop.drop.drop
              refine hR _ _ _ _ s2977 ⟨(.slice a2824 out.length n2825), ?_, ?_, rfl⟩
              · exact eqT2 rfl (eqI (by first | exact (add_90 (by assumption)).1 | exact (add_90 (by assumption)).2 | exact (add_has (by assumption) (has_at {hx0} (by assumption))).1 | exact (add_has (by assumption) (has_at {hx0} (by assumption))).2 | exact (add_104 (by assumption) (hA.has (by assumption)) (by assumption)).1 | exact (add_104 (by assumption) (hA.has (by assumption)) (by assumption)).2 | exact (add_ok (by assumption) (hA.has (by assumption)) (by assumption)).2 | (rw [(AddI_end hA (by assumption)).1 (by assumption)]; exact (add_ok (by assumption) (hA.has (by assumption)) (by assumption)).1) | (rw [(AddI_end hA (by assumption)).2 (by assumption)]; exact (add_ok (by assumption) (hA.has (by assumption)) (by assumption)).1)))
              · exact slEq hf2976 (by first | exact (add_90 (by assumption)).1 | exact (add_90 (by assumption)).2 | exact (add_has (by assumption) (has_at {hx0} (by assumption))).1 | exact (add_has (by assumption) (has_at {hx0} (by assumption))).2 | exact (add_104 (by assumption) (hA.has (by assumption)) (by assumption)).1 | exact (add_104 (by assumption) (hA.has (by assumption)) (by assumption)).2 | exact (add_ok (by assumption) (hA.has (by assumption)) (by assumption)).2 | (rw [(AddI_end hA (by assumption)).1 (by assumption)]; exact (add_ok (by assumption) (hA.has (by assumption)) (by assumption)).1) | (rw [(AddI_end hA (by assumption)).2 (by assumption)]; exact (add_ok (by assumption) (hA.has (by assumption)) (by assumption)).1))
    have R2978 : Row 27 kWatch g (.slice (some ⟨b2821, 0, none⟩) 0 0) ([] : List Watch) [(b2821, Obj.cells #[] 27 (0, 0))] := Row.lit (by kernel_rfl) (by unfold maxLen; decide) (by kernel_rfl) Reads.nil
    exact loop8 _  ([] : List Watch) false 0 _ _ _ _ (Nat.lt_succ_self _) (by first | omega | assumption | (have := hA.len h0 h3; simp only [List.length_cons, List.length_nil]; omega) | (have := hA.len h0 h3; simp only [List.length_append, List.length_cons, List.length_nil]; omega) | (have := hA.len h0 (by omega); omega)) (by first | omega | assumption | (have := hA.len h0 h3; simp only [List.length_cons, List.length_nil]; omega) | (have := hA.len h0 h3; simp only [List.length_append, List.length_cons, List.length_nil]; omega) | (have := hA.len h0 (by omega); omega)) (by exact AddI_0) R2978 s2823

/-- (stanchion/stanchionref11.Table).Load -/
theorem load11 (B : World) (h : Heap) (g : GH) (hg : Sub g h) (hG : Glob g) (t : R11Table) (v_t_0 : Value) (h_t_0 : SlR g 27 kWatch v_t_0 t.All) (v_list : Value) (list : List Watch) (h_list : SlR g 27 kWatch v_list list) (h1 : list.length ≤ 1000000) (hw : ∀ w ∈ list, w.Path.length ≤ 1000000000) :
    Spec Tryd.prog B 32 #[.agg #[v_t_0], v_list] h g [] (fun rv g' L' => ∃ v0, rv = .tuple #[.agg #[v0], .bool (loadB list)] ∧ SlR g' 27 kWatch v0 ((⟨loadL t.All list⟩ : R11Table).All) ∧ L' = []) := by
  obtain ⟨a_t_0, n_t_0, rfl⟩ := h_t_0.form
  obtain ⟨a_list, n_list, rfl⟩ := h_list.form
  refine Spec.of_at (f := Tryd.f32) (e := [(0, .agg #[.slice a_t_0 t.All.length n_t_0]), (1, .slice a_list list.length n_list)]) Tryd.func32 (by kernel_rfl) (Nat.le_of_ble_eq_true (by kernel_rfl)) (by kernel_rfl) (by kernel_rfl) ?_
  intro R hR
  have s0 := St.init hg
  refine At.reg (L := [(0, false), (1, false), (2, false)]) (by kernel_rfl) ?_
  refine Op.box (T := 36) (x := (.tmp 0)) (d := 2) (cs := #[.slice a_t_0 t.All.length n_t_0]) (by kernel_rfl) (by kernel_rfl) s0 ?_
  intro b2979 h2980 s2981
  refine Op.alloc (T := 36) (dst := 4) (cs := #[.slice none 0 0]) (by kernel_rfl) (by kernel_rfl) s2981 ?_
  intro b2982 h2983 s2984
  refine Op.pures 1 [1, 2, 4] (L' := []) (e' := [(1, .slice a_list list.length n_list), (2, .pointer (some ⟨b2979, 0, none⟩)), (4, .pointer (some ⟨b2982, 0, none⟩))]) (by kernel_rfl) ?_
  refine Op.goto 1 (by kernel_rfl) ?_
  refine At.reg (L := [(0, false)]) (by kernel_rfl) ?_
  refine Op.pures 1 [1, 2, 4, 6] (L' := []) (e' := [(1, .slice a_list list.length n_list), (2, .pointer (some ⟨b2979, 0, none⟩)), (4, .pointer (some ⟨b2982, 0, none⟩)), (6, .int .i64 0)]) (by kernel_rfl) ?_
  refine Op.goto 2 (by kernel_rfl) ?_
  have loop2 : ∀ (m : Nat) (i : Int) (h2985 : Heap) (hm : list.length - i.toNat < m) (h0 : 0 ≤ i) (h3 : i ≤ list.length) (hk : okTo11 list i)    (s_loop22984 : St h g (ids []) g [[(b2982, Obj.cells #[.slice none 0 0] 36 (0, 0))], [(b2979, Obj.cells #[.slice a_t_0 t.All.length n_t_0] 36 (0, 0))]] h2985), At (fctx Tryd.prog B 32 Tryd.f32 R) [] 2 [(1, .slice a_list list.length n_list), (2, .pointer (some ⟨b2979, 0, none⟩)), (4, .pointer (some ⟨b2982, 0, none⟩)), (6, .int .i64 i)] h2985 := by
    intro m; induction m with
    | zero => intros; omega
    | succ m ih2 =>
      intro i h2985 hm h0 h3 hk s_loop22984
      refine At.reg (L := [(0, false), (1, false), (2, false), (3, false)]) (by kernel_rfl) ?_
      refine Op.pures 4 [1, 2, 4, 6, 10] (L' := []) (e' := [(1, .slice a_list list.length n_list), (2, .pointer (some ⟨b2979, 0, none⟩)), (4, .pointer (some ⟨b2982, 0, none⟩)), (6, .int .i64 i), (10, .bool (decide (i < (list.length : Int))))]) (by kernel_rfl) ?_
      refine Op.goto 3 (by kernel_rfl) ?_
      refine At.cond (b := decide (i < (list.length : Int))) (c := .tmp 10) (by kernel_rfl) (by kernel_rfl) (by kernel_rfl) 4 9 (by kernel_rfl) (by kernel_rfl) (fun hb => ?_) (fun hb => ?_)
      · have c2986 : i < (list.length : Int) := of_decide_eq_true hb
        clear hb
        refine At.keep [1, 2, 4, 6] ?_; show At _ _ _ [(1, .slice a_list list.length n_list), (2, .pointer (some ⟨b2979, 0, none⟩)), (4, .pointer (some ⟨b2982, 0, none⟩)), (6, .int .i64 i)] _
        refine At.draw (by kernel_rfl) (fun _ => False) [(0, true), (1, true), (2, true), (3, false), (4, false), (5, true), (6, true), (7, true), (8, true), (9, true), (10, true), (11, true), (12, true), (13, true), (15, true), (16, true), (17, true), (14, true), (18, false), (19, false), (20, true), (21, true), (22, true), (23, true), (24, true), (25, true), (26, true), (27, true), (28, true), (29, false), (30, false), (31, true), (32, true)] (by kernel_rfl) ?_
        refine Op.pures 2 [1, 2, 4, 6, 13, 14] (L' := [(2, true), (3, false), (4, false), (5, true), (6, true), (7, true), (8, true), (9, true), (10, true), (11, true), (12, true), (13, true), (15, true), (16, true), (17, true), (14, true), (18, false), (19, false), (20, true), (21, true), (22, true), (23, true), (24, true), (25, true), (26, true), (27, true), (28, true), (29, false), (30, false), (31, true), (32, true)]) (e' := [(1, .slice a_list list.length n_list), (2, .pointer (some ⟨b2979, 0, none⟩)), (4, .pointer (some ⟨b2982, 0, none⟩)), (6, .int .i64 i), (13, .slice a_list list.length n_list), (14, .int .i64 i)]) (by kernel_rfl) ?_
        obtain ⟨x2987, hx2988⟩ : ∃ c, list[(i : Int).toNat]? = some c := ⟨_, List.getElem?_eq_getElem (by first | omega | exact hw _ (List.mem_of_getElem? {hx0}))⟩
        obtain ⟨b2989, o2990, cu2991, fz2992, ha2993, hb2994, hk2995⟩ := SlR.at_ h_list _ hx2988
        cases ha2993
        refine Op.idx (T := 22) (E := 27) (sz := 3) (by_ := 32) (n := list.length) (c := n_list) (k := .i64) (x := (.tmp 13)) (ix := (.tmp 14)) (dst := 15) (bk := b2989) (o := o2990) (m := i) (by kernel_rfl) (by kernel_rfl) (by kernel_rfl) (by kernel_rfl) (by first | omega | exact hw _ (List.mem_of_getElem? {hx0})) (by first | omega | exact hw _ (List.mem_of_getElem? {hx0})) ?_
        replace hk2995 : cut _ _ _ = [.int .i64 x2987.Client, .int .i64 x2987.Kind, .string (mkS x2987.Path)] := hk2995
        refine Op.loadA (T := 27) (x := (.tmp 15)) (o := o2990 + (i : Int).toNat * 3) (d := 16) (n := 3) (vs := [.int .i64 x2987.Client, .int .i64 x2987.Kind, .string (mkS x2987.Path)]) (by kernel_rfl) (by kernel_rfl) (by kernel_rfl) (s_loop22984.sub _ _ hb2994) (hk2995) rfl ?_
        refine Op.call0 (dst := some 17) (f := 22) (args := #[.agg #[.int .i64 x2987.Client, .int .i64 x2987.Kind, .string (mkS x2987.Path)]]) (by kernel_rfl) s_loop22984 (right11 _ _ _ s_loop22984.sub hG x2987 (by ((try dsimp only) <;> (first | omega | exact hw _ (List.mem_of_getElem? hx2988)))) ) ?_
        rintro _ g2998 _ h2996 hle2999 s2997 ⟨rfl, hgg, rfl⟩; subst g2998; clear hle2999
        refine Op.pures 2 [1, 2, 4, 6, 19] (L' := [(7, true), (8, true), (9, true), (10, true), (11, true), (12, true), (13, true), (15, true), (16, true), (17, true), (14, true), (18, false), (19, false), (20, true), (21, true), (22, true), (23, true), (24, true), (25, true), (26, true), (27, true), (28, true), (29, false), (30, false), (31, true), (32, true)]) (e' := [(1, .slice (some ⟨b2989, o2990, none⟩) list.length n_list), (2, .pointer (some ⟨b2979, 0, none⟩)), (4, .pointer (some ⟨b2982, 0, none⟩)), (6, .int .i64 i), (19, .bool (!(rightW x2987)))]) (by kernel_rfl) ?_
        refine Op.ways (b := !(rightW x2987)) ⟨fun hb => ?_, fun hb => ?_⟩
        · refine Op.cast (e' := [(1, .slice (some ⟨b2989, o2990, none⟩) list.length n_list), (2, .pointer (some ⟨b2979, 0, none⟩)), (4, .pointer (some ⟨b2982, 0, none⟩)), (6, .int .i64 i), (19, .bool true)]) (by rw [hb]) ?_
          have c3000 : (rightW x2987) = false := (notT hb)
          clear hb
          refine Op.pures 26 [1, 2, 4, 6, 45] (L' := []) (e' := [(1, .slice (some ⟨b2989, o2990, none⟩) list.length n_list), (2, .pointer (some ⟨b2979, 0, none⟩)), (4, .pointer (some ⟨b2982, 0, none⟩)), (6, .int .i64 i), (45, .bool true)]) (by kernel_rfl) ?_
          refine Op.goto 5 (by kernel_rfl) ?_
          refine At.condT (c := .tmp 45) (by kernel_rfl) (by kernel_rfl) (by kernel_rfl) 6 (by kernel_rfl) ?_
          refine At.reg (L := [(0, false), (1, false), (2, false)]) (by kernel_rfl) ?_
          refine Op.loadA (T := 36) (x := (.tmp 2)) (o := 0) (d := 46) (n := 1) (vs := [.slice a_t_0 t.All.length n_t_0]) (by kernel_rfl) (by kernel_rfl) (by kernel_rfl) (s2997.chunk 1 rfl) (by kernel_rfl) rfl ?_
          refine Op.store (T := 36) (x := (.tmp 4)) (y := (.tmp 46)) (b := b2982) (o := 0) (vs := [.slice a_t_0 t.All.length n_t_0]) (a? := true) (n := 1) (by kernel_rfl) (by kernel_rfl) (by kernel_rfl) (by kernel_rfl) rfl (by simp [Value.oneCell']) s2997 0 rfl (Nat.le_of_ble_eq_true (by kernel_rfl)) (cs := #[.slice none 0 0]) (cs' := #[.slice a_t_0 t.All.length n_t_0]) (by kernel_rfl) (fun _ => trivial) ?_
          intro h3001 s3002
          refine Op.pures 1 [4, 5] (L' := []) (e' := [(4, .pointer (some ⟨b2982, 0, none⟩)), (5, .bool false)]) (by kernel_rfl) ?_
          refine Op.goto 7 (by kernel_rfl) ?_
          refine At.retM (f := Tryd.f32) (vs := [.agg #[.slice a_t_0 t.All.length n_t_0], .bool false]) (rl := [.cell 4 36, .tmp 5]) (v := .tuple #[.agg #[.slice a_t_0 t.All.length n_t_0], .bool false]) (by kernel_rfl) (by kernel_rfl) ⟨⟨_, _, rfl, resAgg (n := 1) (by kernel_rfl) (s3002.chunk 0 rfl) (by kernel_rfl) rfl⟩, rfl, trivial⟩ rfl ?_
          have s3003 : St h g (ids []) g [] h3001 := (s3002).drop.drop
          refine hR _ _ _ _ s3003 ⟨(.slice a_t_0 t.All.length n_t_0), ?_, ?_, rfl⟩
          · exact eqT2 rfl (eqB (by first | exact (loadB_f h0 hx2988 (stepB_1 hx2988 (by assumption))).symm | exact (loadB_f h0 hx2988 (stepB_2 (by omega) hx2988 {hx1} (by assumption))).symm | exact (loadB_f h0 hx2988 (stepB_3 hx2988 (by omega))).symm | exact (loadB_t hk (by assumption)).symm | (unfold loadL; rw [if_neg (Bool.eq_false_iff.1 (loadB_f h0 hx2988 (stepB_1 hx2988 (by assumption))))]) | (unfold loadL; rw [if_neg (Bool.eq_false_iff.1 (loadB_f h0 hx2988 (stepB_2 (by omega) hx2988 {hx1} (by assumption))))]) | (unfold loadL; rw [if_neg (Bool.eq_false_iff.1 (loadB_f h0 hx2988 (stepB_3 hx2988 (by omega))))]) | (unfold loadL; rw [if_pos (loadB_t hk (by assumption))])))
          · exact slEq h_t_0 (by first | exact (loadB_f h0 hx2988 (stepB_1 hx2988 (by assumption))).symm | exact (loadB_f h0 hx2988 (stepB_2 (by omega) hx2988 {hx1} (by assumption))).symm | exact (loadB_f h0 hx2988 (stepB_3 hx2988 (by omega))).symm | exact (loadB_t hk (by assumption)).symm | (unfold loadL; rw [if_neg (Bool.eq_false_iff.1 (loadB_f h0 hx2988 (stepB_1 hx2988 (by assumption))))]) | (unfold loadL; rw [if_neg (Bool.eq_false_iff.1 (loadB_f h0 hx2988 (stepB_2 (by omega) hx2988 {hx1} (by assumption))))]) | (unfold loadL; rw [if_neg (Bool.eq_false_iff.1 (loadB_f h0 hx2988 (stepB_3 hx2988 (by omega))))]) | (unfold loadL; rw [if_pos (loadB_t hk (by assumption))]))
        · refine Op.cast (e' := [(1, .slice (some ⟨b2989, o2990, none⟩) list.length n_list), (2, .pointer (some ⟨b2979, 0, none⟩)), (4, .pointer (some ⟨b2982, 0, none⟩)), (6, .int .i64 i), (19, .bool false)]) (by rw [hb]) ?_
          have c3004 : (rightW x2987) = true := (notF hb)
          clear hb
          refine Op.pures 3 [1, 2, 4, 6, 19, 22] (L' := [(10, true), (11, true), (12, true), (13, true), (15, true), (16, true), (17, true), (14, true), (18, false), (19, false), (20, true), (21, true), (22, true), (23, true), (24, true), (25, true), (26, true), (27, true), (28, true), (29, false), (30, false), (31, true), (32, true)]) (e' := [(1, .slice (some ⟨b2989, o2990, none⟩) list.length n_list), (2, .pointer (some ⟨b2979, 0, none⟩)), (4, .pointer (some ⟨b2982, 0, none⟩)), (6, .int .i64 i), (19, .bool false), (22, .bool (decide (i > (0 : Int))))]) (by kernel_rfl) ?_
          refine Op.ways (b := decide (i > (0 : Int))) ⟨fun hb => ?_, fun hb => ?_⟩
          · refine Op.cast (e' := [(1, .slice (some ⟨b2989, o2990, none⟩) list.length n_list), (2, .pointer (some ⟨b2979, 0, none⟩)), (4, .pointer (some ⟨b2982, 0, none⟩)), (6, .int .i64 i), (19, .bool false), (22, .bool true)]) (by rw [hb]) ?_
            have c3005 : i > (0 : Int) := of_decide_eq_true hb
            clear hb
            refine Op.pures 2 [1, 2, 4, 6, 19, 22, 23, 24] (L' := [(12, true), (13, true), (15, true), (16, true), (17, true), (14, true), (18, false), (19, false), (20, true), (21, true), (22, true), (23, true), (24, true), (25, true), (26, true), (27, true), (28, true), (29, false), (30, false), (31, true), (32, true)]) (e' := [(1, .slice (some ⟨b2989, o2990, none⟩) list.length n_list), (2, .pointer (some ⟨b2979, 0, none⟩)), (4, .pointer (some ⟨b2982, 0, none⟩)), (6, .int .i64 i), (19, .bool false), (22, .bool true), (23, .slice (some ⟨b2989, o2990, none⟩) list.length n_list), (24, .int .i64 i)]) (by kernel_rfl) ?_
            refine Op.val (dst := some 25) (v := .int .i64 (IntKind.wrap .i64 (i - 1))) (v' := .int .i64 (i - 1)) (by kernel_rfl) (wrapEq_i64 (by first | omega | exact hw _ (List.mem_of_getElem? hx2988)) (by first | omega | exact hw _ (List.mem_of_getElem? hx2988))) ?_
            obtain ⟨x3006, hx3007⟩ : ∃ c, list[(i - 1 : Int).toNat]? = some c := ⟨_, List.getElem?_eq_getElem (by first | omega | exact hw _ (List.mem_of_getElem? hx2988))⟩
            obtain ⟨b3008, o3009, cu3010, fz3011, ha3012, hb3013, hk3014⟩ := SlR.at_ h_list _ hx3007
            cases ha3012
            refine Op.idx (T := 22) (E := 27) (sz := 3) (by_ := 32) (n := list.length) (c := n_list) (k := .i64) (x := (.tmp 23)) (ix := (.tmp 25)) (dst := 26) (bk := b2989) (o := o2990) (m := i - 1) (by kernel_rfl) (by kernel_rfl) (by kernel_rfl) (by kernel_rfl) (by first | omega | exact hw _ (List.mem_of_getElem? hx2988)) (by first | omega | exact hw _ (List.mem_of_getElem? hx2988)) ?_
            replace hk3014 : cut _ _ _ = [.int .i64 x3006.Client, .int .i64 x3006.Kind, .string (mkS x3006.Path)] := hk3014
            refine Op.pures 2 [1, 2, 4, 6, 19, 22, 26, 28, 29] (L' := [(17, true), (14, true), (18, false), (19, false), (20, true), (21, true), (22, true), (23, true), (24, true), (25, true), (26, true), (27, true), (28, true), (29, false), (30, false), (31, true), (32, true)]) (e' := [(1, .slice (some ⟨b2989, o2990, none⟩) list.length n_list), (2, .pointer (some ⟨b2979, 0, none⟩)), (4, .pointer (some ⟨b2982, 0, none⟩)), (6, .int .i64 i), (19, .bool false), (22, .bool true), (26, .pointer (some ⟨b2989, o2990 + (i - 1 : Int).toNat * 3, none⟩)), (28, .slice (some ⟨b2989, o2990, none⟩) list.length n_list), (29, .int .i64 i)]) (by kernel_rfl) ?_
            obtain ⟨b3017, o3018, cu3019, fz3020, ha3021, hb3022, hk3023⟩ := SlR.at_ h_list _ hx2988
            cases ha3021
            refine Op.idx (T := 22) (E := 27) (sz := 3) (by_ := 32) (n := list.length) (c := n_list) (k := .i64) (x := (.tmp 28)) (ix := (.tmp 29)) (dst := 30) (bk := b2989) (o := o2990) (m := i) (by kernel_rfl) (by kernel_rfl) (by kernel_rfl) (by kernel_rfl) (by first | omega | exact hw _ (List.mem_of_getElem? hx2988)) (by first | omega | exact hw _ (List.mem_of_getElem? hx2988)) ?_
            replace hk3023 : cut _ _ _ = [.int .i64 x2987.Client, .int .i64 x2987.Kind, .string (mkS x2987.Path)] := hk3023
            refine Op.loadAF (T := 27) (x := (.tmp 26)) (o := o2990 + (i - 1 : Int).toNat * 3) (d := 27) (n := 3) (vs := [.int .i64 x3006.Client, .int .i64 x3006.Kind, .string (mkS x3006.Path)]) (by kernel_rfl) (by kernel_rfl) (by kernel_rfl) (fun h => h) (s_loop22984.sub _ _ hb3013) (hk3014) rfl ?_
            refine Op.loadA (T := 27) (x := (.tmp 30)) (o := o2990 + (i : Int).toNat * 3) (d := 31) (n := 3) (vs := [.int .i64 x2987.Client, .int .i64 x2987.Kind, .string (mkS x2987.Path)]) (by kernel_rfl) (by kernel_rfl) (by kernel_rfl) (s2997.sub _ _ hb3022) (hk3023) rfl ?_
            refine Op.call0 (dst := some 32) (f := 53) (args := #[.agg #[.int .i64 x3006.Client, .int .i64 x3006.Kind, .string (mkS x3006.Path)], .agg #[.int .i64 x2987.Client, .int .i64 x2987.Kind, .string (mkS x2987.Path)]]) (by kernel_rfl) s2997 (less11 _ _ _ s2997.sub hG x3006 x2987  ) ?_
            rintro _ g3026 _ h3024 hle3027 s3025 ⟨rfl, hgg, rfl⟩; subst g3026; clear hle3027
            refine Op.pures 4 [1, 2, 4, 6, 36] (L' := [(24, true), (25, true), (26, true), (27, true), (28, true), (29, false), (30, false), (31, true), (32, true)]) (e' := [(1, .slice (some ⟨b2989, o2990, none⟩) list.length n_list), (2, .pointer (some ⟨b2979, 0, none⟩)), (4, .pointer (some ⟨b2982, 0, none⟩)), (6, .int .i64 i), (36, .bool (!(lessW x3006 x2987)))]) (by kernel_rfl) ?_
            refine Op.ways (b := !(lessW x3006 x2987)) ⟨fun hb => ?_, fun hb => ?_⟩
            · refine Op.cast (e' := [(1, .slice (some ⟨b2989, o2990, none⟩) list.length n_list), (2, .pointer (some ⟨b2979, 0, none⟩)), (4, .pointer (some ⟨b2982, 0, none⟩)), (6, .int .i64 i), (36, .bool true)]) (by rw [hb]) ?_
              have c3028 : (lessW x3006 x2987) = false := (notT hb)
              clear hb
              refine Op.pures 9 [1, 2, 4, 6, 45] (L' := []) (e' := [(1, .slice (some ⟨b2989, o2990, none⟩) list.length n_list), (2, .pointer (some ⟨b2979, 0, none⟩)), (4, .pointer (some ⟨b2982, 0, none⟩)), (6, .int .i64 i), (45, .bool true)]) (by kernel_rfl) ?_
              refine Op.goto 5 (by kernel_rfl) ?_
              refine At.condT (c := .tmp 45) (by kernel_rfl) (by kernel_rfl) (by kernel_rfl) 6 (by kernel_rfl) ?_
              refine At.reg (L := [(0, false), (1, false), (2, false)]) (by kernel_rfl) ?_
              refine Op.loadA (T := 36) (x := (.tmp 2)) (o := 0) (d := 46) (n := 1) (vs := [.slice a_t_0 t.All.length n_t_0]) (by kernel_rfl) (by kernel_rfl) (by kernel_rfl) (s3025.chunk 1 rfl) (by kernel_rfl) rfl ?_
              refine Op.store (T := 36) (x := (.tmp 4)) (y := (.tmp 46)) (b := b2982) (o := 0) (vs := [.slice a_t_0 t.All.length n_t_0]) (a? := true) (n := 1) (by kernel_rfl) (by kernel_rfl) (by kernel_rfl) (by kernel_rfl) rfl (by simp [Value.oneCell']) s3025 0 rfl (Nat.le_of_ble_eq_true (by kernel_rfl)) (cs := #[.slice none 0 0]) (cs' := #[.slice a_t_0 t.All.length n_t_0]) (by kernel_rfl) (fun _ => trivial) ?_
              intro h3029 s3030
              refine Op.pures 1 [4, 5] (L' := []) (e' := [(4, .pointer (some ⟨b2982, 0, none⟩)), (5, .bool false)]) (by kernel_rfl) ?_
              refine Op.goto 7 (by kernel_rfl) ?_
              refine At.retM (f := Tryd.f32) (vs := [.agg #[.slice a_t_0 t.All.length n_t_0], .bool false]) (rl := [.cell 4 36, .tmp 5]) (v := .tuple #[.agg #[.slice a_t_0 t.All.length n_t_0], .bool false]) (by kernel_rfl) (by kernel_rfl) ⟨⟨_, _, rfl, resAgg (n := 1) (by kernel_rfl) (s3030.chunk 0 rfl) (by kernel_rfl) rfl⟩, rfl, trivial⟩ rfl ?_
              have s3031 : St h g (ids []) g [] h3029 := (s3030).drop.drop
              refine hR _ _ _ _ s3031 ⟨(.slice a_t_0 t.All.length n_t_0), ?_, ?_, rfl⟩
              · exact eqT2 rfl (eqB (by first | exact (loadB_f h0 hx2988 (stepB_1 hx2988 (by assumption))).symm | exact (loadB_f h0 hx2988 (stepB_2 (by omega) hx2988 hx3007 (by assumption))).symm | exact (loadB_f h0 hx2988 (stepB_3 hx2988 (by omega))).symm | exact (loadB_t hk (by assumption)).symm | (unfold loadL; rw [if_neg (Bool.eq_false_iff.1 (loadB_f h0 hx2988 (stepB_1 hx2988 (by assumption))))]) | (unfold loadL; rw [if_neg (Bool.eq_false_iff.1 (loadB_f h0 hx2988 (stepB_2 (by omega) hx2988 hx3007 (by assumption))))]) | (unfold loadL; rw [if_neg (Bool.eq_false_iff.1 (loadB_f h0 hx2988 (stepB_3 hx2988 (by omega))))]) | (unfold loadL; rw [if_pos (loadB_t hk (by assumption))])))
              · exact slEq h_t_0 (by first | exact (loadB_f h0 hx2988 (stepB_1 hx2988 (by assumption))).symm | exact (loadB_f h0 hx2988 (stepB_2 (by omega) hx2988 hx3007 (by assumption))).symm | exact (loadB_f h0 hx2988 (stepB_3 hx2988 (by omega))).symm | exact (loadB_t hk (by assumption)).symm | (unfold loadL; rw [if_neg (Bool.eq_false_iff.1 (loadB_f h0 hx2988 (stepB_1 hx2988 (by assumption))))]) | (unfold loadL; rw [if_neg (Bool.eq_false_iff.1 (loadB_f h0 hx2988 (stepB_2 (by omega) hx2988 hx3007 (by assumption))))]) | (unfold loadL; rw [if_neg (Bool.eq_false_iff.1 (loadB_f h0 hx2988 (stepB_3 hx2988 (by omega))))]) | (unfold loadL; rw [if_pos (loadB_t hk (by assumption))]))
            · refine Op.cast (e' := [(1, .slice (some ⟨b2989, o2990, none⟩) list.length n_list), (2, .pointer (some ⟨b2979, 0, none⟩)), (4, .pointer (some ⟨b2982, 0, none⟩)), (6, .int .i64 i), (36, .bool false)]) (by rw [hb]) ?_
              have c3032 : (lessW x3006 x2987) = true := (notF hb)
              clear hb
              refine Op.pures 3 [1, 2, 4, 6, 36, 37, 38, 39] (L' := [(27, true), (28, true), (29, false), (30, false), (31, true), (32, true)]) (e' := [(1, .slice (some ⟨b2989, o2990, none⟩) list.length n_list), (2, .pointer (some ⟨b2979, 0, none⟩)), (4, .pointer (some ⟨b2982, 0, none⟩)), (6, .int .i64 i), (36, .bool false), (37, .slice (some ⟨b2989, o2990, none⟩) list.length n_list), (38, .slice (some ⟨b2989, o2990, none⟩) list.length n_list), (39, .int .i64 i)]) (by kernel_rfl) ?_
              obtain ⟨b3035, o3036, cu3037, fz3038, ha3039, hb3040, hk3041⟩ := SlR.at_ h_list _ hx2988
              cases ha3039
              refine Op.idx (T := 22) (E := 27) (sz := 3) (by_ := 32) (n := list.length) (c := n_list) (k := .i64) (x := (.tmp 38)) (ix := (.tmp 39)) (dst := 40) (bk := b2989) (o := o2990) (m := i) (by kernel_rfl) (by kernel_rfl) (by kernel_rfl) (by kernel_rfl) (by first | omega | exact hw _ (List.mem_of_getElem? hx2988)) (by first | omega | exact hw _ (List.mem_of_getElem? hx2988)) ?_
              replace hk3041 : cut _ _ _ = [.int .i64 x2987.Client, .int .i64 x2987.Kind, .string (mkS x2987.Path)] := hk3041
              refine Op.pures 1 [1, 2, 4, 6, 36, 37, 41] (L' := [(29, false), (30, false), (31, true), (32, true)]) (e' := [(1, .slice (some ⟨b2989, o2990, none⟩) list.length n_list), (2, .pointer (some ⟨b2979, 0, none⟩)), (4, .pointer (some ⟨b2982, 0, none⟩)), (6, .int .i64 i), (36, .bool false), (37, .slice (some ⟨b2989, o2990, none⟩) list.length n_list), (41, .pointer (some ⟨b2989, o2990 + (i : Int).toNat * 3, none⟩))]) (by kernel_rfl) ?_
              refine Op.load (T := 3) (x := (.tmp 41)) (o := o2990 + (i : Int).toNat * 3) (d := 42) (n := 1) (v := .int .i64 x2987.Client) (by kernel_rfl) (by kernel_rfl) (by kernel_rfl) (s3025.sub _ _ hb3040) (cut_get hk3041 0 rfl) ?_
              refine Op.call0 (dst := some 43) (f := 54) (args := #[.slice (some ⟨b2989, o2990, none⟩) list.length n_list, .int .i64 x2987.Client]) (by kernel_rfl) s3025 (of11 _ _ _ s3025.sub hG _ _ h_list x2987.Client (by ((try dsimp only) <;> (first | omega | exact hw _ (List.mem_of_getElem? hx2988)))) ) ?_
              rintro _ g3044 _ h3042 hle3045 s3043 ⟨rfl, hgg, rfl⟩; subst g3044; clear hle3045
              refine Op.pures 2 [1, 2, 4, 6, 45] (L' := []) (e' := [(1, .slice (some ⟨b2989, o2990, none⟩) list.length n_list), (2, .pointer (some ⟨b2979, 0, none⟩)), (4, .pointer (some ⟨b2982, 0, none⟩)), (6, .int .i64 i), (45, .bool (decide ((cnt x2987.Client list : Int) > (8 : Int))))]) (by kernel_rfl) ?_
              refine Op.goto 5 (by kernel_rfl) ?_
              refine At.cond (b := decide ((cnt x2987.Client list : Int) > (8 : Int))) (c := .tmp 45) (by kernel_rfl) (by kernel_rfl) (by kernel_rfl) 6 8 (by kernel_rfl) (by kernel_rfl) (fun hb => ?_) (fun hb => ?_)
              · have c3046 : (cnt x2987.Client list : Int) > (8 : Int) := of_decide_eq_true hb
                clear hb
                refine At.keep [2, 4] ?_; show At _ _ _ [(2, .pointer (some ⟨b2979, 0, none⟩)), (4, .pointer (some ⟨b2982, 0, none⟩))] _
                refine At.reg (L := [(0, false), (1, false), (2, false)]) (by kernel_rfl) ?_
                refine Op.loadA (T := 36) (x := (.tmp 2)) (o := 0) (d := 46) (n := 1) (vs := [.slice a_t_0 t.All.length n_t_0]) (by kernel_rfl) (by kernel_rfl) (by kernel_rfl) (s3043.chunk 1 rfl) (by kernel_rfl) rfl ?_
                refine Op.store (T := 36) (x := (.tmp 4)) (y := (.tmp 46)) (b := b2982) (o := 0) (vs := [.slice a_t_0 t.All.length n_t_0]) (a? := true) (n := 1) (by kernel_rfl) (by kernel_rfl) (by kernel_rfl) (by kernel_rfl) rfl (by simp [Value.oneCell']) s3043 0 rfl (Nat.le_of_ble_eq_true (by kernel_rfl)) (cs := #[.slice none 0 0]) (cs' := #[.slice a_t_0 t.All.length n_t_0]) (by kernel_rfl) (fun _ => trivial) ?_
                intro h3047 s3048
                refine Op.pures 1 [4, 5] (L' := []) (e' := [(4, .pointer (some ⟨b2982, 0, none⟩)), (5, .bool false)]) (by kernel_rfl) ?_
                refine Op.goto 7 (by kernel_rfl) ?_
                refine At.retM (f := Tryd.f32) (vs := [.agg #[.slice a_t_0 t.All.length n_t_0], .bool false]) (rl := [.cell 4 36, .tmp 5]) (v := .tuple #[.agg #[.slice a_t_0 t.All.length n_t_0], .bool false]) (by kernel_rfl) (by kernel_rfl) ⟨⟨_, _, rfl, resAgg (n := 1) (by kernel_rfl) (s3048.chunk 0 rfl) (by kernel_rfl) rfl⟩, rfl, trivial⟩ rfl ?_
                have s3049 : St h g (ids []) g [] h3047 := (s3048).drop.drop
                refine hR _ _ _ _ s3049 ⟨(.slice a_t_0 t.All.length n_t_0), ?_, ?_, rfl⟩
                · exact eqT2 rfl (eqB (by first | exact (loadB_f h0 hx2988 (stepB_1 hx2988 (by assumption))).symm | exact (loadB_f h0 hx2988 (stepB_2 (by omega) hx2988 hx3007 (by assumption))).symm | exact (loadB_f h0 hx2988 (stepB_3 hx2988 (by omega))).symm | exact (loadB_t hk (by assumption)).symm | (unfold loadL; rw [if_neg (Bool.eq_false_iff.1 (loadB_f h0 hx2988 (stepB_1 hx2988 (by assumption))))]) | (unfold loadL; rw [if_neg (Bool.eq_false_iff.1 (loadB_f h0 hx2988 (stepB_2 (by omega) hx2988 hx3007 (by assumption))))]) | (unfold loadL; rw [if_neg (Bool.eq_false_iff.1 (loadB_f h0 hx2988 (stepB_3 hx2988 (by omega))))]) | (unfold loadL; rw [if_pos (loadB_t hk (by assumption))])))
                · exact slEq h_t_0 (by first | exact (loadB_f h0 hx2988 (stepB_1 hx2988 (by assumption))).symm | exact (loadB_f h0 hx2988 (stepB_2 (by omega) hx2988 hx3007 (by assumption))).symm | exact (loadB_f h0 hx2988 (stepB_3 hx2988 (by omega))).symm | exact (loadB_t hk (by assumption)).symm | (unfold loadL; rw [if_neg (Bool.eq_false_iff.1 (loadB_f h0 hx2988 (stepB_1 hx2988 (by assumption))))]) | (unfold loadL; rw [if_neg (Bool.eq_false_iff.1 (loadB_f h0 hx2988 (stepB_2 (by omega) hx2988 hx3007 (by assumption))))]) | (unfold loadL; rw [if_neg (Bool.eq_false_iff.1 (loadB_f h0 hx2988 (stepB_3 hx2988 (by omega))))]) | (unfold loadL; rw [if_pos (loadB_t hk (by assumption))]))
              · have c3050 : ¬ ((cnt x2987.Client list : Int) > (8 : Int)) := of_decide_eq_false hb
                clear hb
                refine At.keep [1, 2, 4, 6] ?_; show At _ _ _ [(1, .slice (some ⟨b2989, o2990, none⟩) list.length n_list), (2, .pointer (some ⟨b2979, 0, none⟩)), (4, .pointer (some ⟨b2982, 0, none⟩)), (6, .int .i64 i)] _
                refine At.reg (L := [(0, false), (1, false), (2, false)]) (by kernel_rfl) ?_
                refine Op.pures 1 [1, 2, 4, 6, 11] (L' := [(1, false), (2, false)]) (e' := [(1, .slice (some ⟨b2989, o2990, none⟩) list.length n_list), (2, .pointer (some ⟨b2979, 0, none⟩)), (4, .pointer (some ⟨b2982, 0, none⟩)), (6, .int .i64 i), (11, .int .i64 i)]) (by kernel_rfl) ?_
                refine Op.val (dst := some 12) (v := .int .i64 (IntKind.wrap .i64 (i + 1))) (v' := .int .i64 (i + 1)) (by kernel_rfl) (wrapEq_i64 (by first | omega | exact hw _ (List.mem_of_getElem? hx2988)) (by first | omega | exact hw _ (List.mem_of_getElem? hx2988))) ?_
                refine Op.pures 1 [1, 2, 4, 6] (L' := []) (e' := [(1, .slice (some ⟨b2989, o2990, none⟩) list.length n_list), (2, .pointer (some ⟨b2979, 0, none⟩)), (4, .pointer (some ⟨b2982, 0, none⟩)), (6, .int .i64 (i + 1))]) (by kernel_rfl) ?_
                refine Op.goto 2 (by kernel_rfl) ?_
                exact ih2  (i + 1) _ (by omega) (by first | omega | exact hw _ (List.mem_of_getElem? hx2988)) (by first | omega | exact hw _ (List.mem_of_getElem? hx2988)) (by first | exact okTo11_step hk h0 (stepB_t0 hx2988 (by assumption) (by omega) (by omega)) | exact okTo11_step hk h0 (stepB_t1 hx2988 (by assumption) (by omega) hx3007 (by assumption) (by omega)))  s3043
          · refine Op.cast (e' := [(1, .slice (some ⟨b2989, o2990, none⟩) list.length n_list), (2, .pointer (some ⟨b2979, 0, none⟩)), (4, .pointer (some ⟨b2982, 0, none⟩)), (6, .int .i64 i), (19, .bool false), (22, .bool false)]) (by rw [hb]) ?_
            have c3051 : ¬ (i > (0 : Int)) := of_decide_eq_false hb
            clear hb
            refine Op.pures 17 [1, 2, 4, 6, 36, 37, 38, 39] (L' := [(27, true), (28, true), (29, false), (30, false), (31, true), (32, true)]) (e' := [(1, .slice (some ⟨b2989, o2990, none⟩) list.length n_list), (2, .pointer (some ⟨b2979, 0, none⟩)), (4, .pointer (some ⟨b2982, 0, none⟩)), (6, .int .i64 i), (36, .bool false), (37, .slice (some ⟨b2989, o2990, none⟩) list.length n_list), (38, .slice (some ⟨b2989, o2990, none⟩) list.length n_list), (39, .int .i64 i)]) (by kernel_rfl) ?_
            obtain ⟨b3054, o3055, cu3056, fz3057, ha3058, hb3059, hk3060⟩ := SlR.at_ h_list _ hx2988
            cases ha3058
            refine Op.idx (T := 22) (E := 27) (sz := 3) (by_ := 32) (n := list.length) (c := n_list) (k := .i64) (x := (.tmp 38)) (ix := (.tmp 39)) (dst := 40) (bk := b2989) (o := o2990) (m := i) (by kernel_rfl) (by kernel_rfl) (by kernel_rfl) (by kernel_rfl) (by first | omega | exact hw _ (List.mem_of_getElem? hx2988)) (by first | omega | exact hw _ (List.mem_of_getElem? hx2988)) ?_
            replace hk3060 : cut _ _ _ = [.int .i64 x2987.Client, .int .i64 x2987.Kind, .string (mkS x2987.Path)] := hk3060
            refine Op.pures 1 [1, 2, 4, 6, 36, 37, 41] (L' := [(29, false), (30, false), (31, true), (32, true)]) (e' := [(1, .slice (some ⟨b2989, o2990, none⟩) list.length n_list), (2, .pointer (some ⟨b2979, 0, none⟩)), (4, .pointer (some ⟨b2982, 0, none⟩)), (6, .int .i64 i), (36, .bool false), (37, .slice (some ⟨b2989, o2990, none⟩) list.length n_list), (41, .pointer (some ⟨b2989, o2990 + (i : Int).toNat * 3, none⟩))]) (by kernel_rfl) ?_
            refine Op.load (T := 3) (x := (.tmp 41)) (o := o2990 + (i : Int).toNat * 3) (d := 42) (n := 1) (v := .int .i64 x2987.Client) (by kernel_rfl) (by kernel_rfl) (by kernel_rfl) (s2997.sub _ _ hb3059) (cut_get hk3060 0 rfl) ?_
            refine Op.call0 (dst := some 43) (f := 54) (args := #[.slice (some ⟨b2989, o2990, none⟩) list.length n_list, .int .i64 x2987.Client]) (by kernel_rfl) s2997 (of11 _ _ _ s2997.sub hG _ _ h_list x2987.Client (by ((try dsimp only) <;> (first | omega | exact hw _ (List.mem_of_getElem? hx2988)))) ) ?_
            rintro _ g3063 _ h3061 hle3064 s3062 ⟨rfl, hgg, rfl⟩; subst g3063; clear hle3064
            refine Op.pures 2 [1, 2, 4, 6, 45] (L' := []) (e' := [(1, .slice (some ⟨b2989, o2990, none⟩) list.length n_list), (2, .pointer (some ⟨b2979, 0, none⟩)), (4, .pointer (some ⟨b2982, 0, none⟩)), (6, .int .i64 i), (45, .bool (decide ((cnt x2987.Client list : Int) > (8 : Int))))]) (by kernel_rfl) ?_
            refine Op.goto 5 (by kernel_rfl) ?_
            refine At.cond (b := decide ((cnt x2987.Client list : Int) > (8 : Int))) (c := .tmp 45) (by kernel_rfl) (by kernel_rfl) (by kernel_rfl) 6 8 (by kernel_rfl) (by kernel_rfl) (fun hb => ?_) (fun hb => ?_)
            · have c3065 : (cnt x2987.Client list : Int) > (8 : Int) := of_decide_eq_true hb
              clear hb
              refine At.keep [2, 4] ?_; show At _ _ _ [(2, .pointer (some ⟨b2979, 0, none⟩)), (4, .pointer (some ⟨b2982, 0, none⟩))] _
              refine At.reg (L := [(0, false), (1, false), (2, false)]) (by kernel_rfl) ?_
              refine Op.loadA (T := 36) (x := (.tmp 2)) (o := 0) (d := 46) (n := 1) (vs := [.slice a_t_0 t.All.length n_t_0]) (by kernel_rfl) (by kernel_rfl) (by kernel_rfl) (s3062.chunk 1 rfl) (by kernel_rfl) rfl ?_
              refine Op.store (T := 36) (x := (.tmp 4)) (y := (.tmp 46)) (b := b2982) (o := 0) (vs := [.slice a_t_0 t.All.length n_t_0]) (a? := true) (n := 1) (by kernel_rfl) (by kernel_rfl) (by kernel_rfl) (by kernel_rfl) rfl (by simp [Value.oneCell']) s3062 0 rfl (Nat.le_of_ble_eq_true (by kernel_rfl)) (cs := #[.slice none 0 0]) (cs' := #[.slice a_t_0 t.All.length n_t_0]) (by kernel_rfl) (fun _ => trivial) ?_
              intro h3066 s3067
              refine Op.pures 1 [4, 5] (L' := []) (e' := [(4, .pointer (some ⟨b2982, 0, none⟩)), (5, .bool false)]) (by kernel_rfl) ?_
              refine Op.goto 7 (by kernel_rfl) ?_
              refine At.retM (f := Tryd.f32) (vs := [.agg #[.slice a_t_0 t.All.length n_t_0], .bool false]) (rl := [.cell 4 36, .tmp 5]) (v := .tuple #[.agg #[.slice a_t_0 t.All.length n_t_0], .bool false]) (by kernel_rfl) (by kernel_rfl) ⟨⟨_, _, rfl, resAgg (n := 1) (by kernel_rfl) (s3067.chunk 0 rfl) (by kernel_rfl) rfl⟩, rfl, trivial⟩ rfl ?_
              have s3068 : St h g (ids []) g [] h3066 := (s3067).drop.drop
              refine hR _ _ _ _ s3068 ⟨(.slice a_t_0 t.All.length n_t_0), ?_, ?_, rfl⟩
              · exact eqT2 rfl (eqB (by first | exact (loadB_f h0 hx2988 (stepB_1 hx2988 (by assumption))).symm | exact (loadB_f h0 hx2988 (stepB_2 (by omega) hx2988 {hx1} (by assumption))).symm | exact (loadB_f h0 hx2988 (stepB_3 hx2988 (by omega))).symm | exact (loadB_t hk (by assumption)).symm | (unfold loadL; rw [if_neg (Bool.eq_false_iff.1 (loadB_f h0 hx2988 (stepB_1 hx2988 (by assumption))))]) | (unfold loadL; rw [if_neg (Bool.eq_false_iff.1 (loadB_f h0 hx2988 (stepB_2 (by omega) hx2988 {hx1} (by assumption))))]) | (unfold loadL; rw [if_neg (Bool.eq_false_iff.1 (loadB_f h0 hx2988 (stepB_3 hx2988 (by omega))))]) | (unfold loadL; rw [if_pos (loadB_t hk (by assumption))])))
              · exact slEq h_t_0 (by first | exact (loadB_f h0 hx2988 (stepB_1 hx2988 (by assumption))).symm | exact (loadB_f h0 hx2988 (stepB_2 (by omega) hx2988 {hx1} (by assumption))).symm | exact (loadB_f h0 hx2988 (stepB_3 hx2988 (by omega))).symm | exact (loadB_t hk (by assumption)).symm | (unfold loadL; rw [if_neg (Bool.eq_false_iff.1 (loadB_f h0 hx2988 (stepB_1 hx2988 (by assumption))))]) | (unfold loadL; rw [if_neg (Bool.eq_false_iff.1 (loadB_f h0 hx2988 (stepB_2 (by omega) hx2988 {hx1} (by assumption))))]) | (unfold loadL; rw [if_neg (Bool.eq_false_iff.1 (loadB_f h0 hx2988 (stepB_3 hx2988 (by omega))))]) | (unfold loadL; rw [if_pos (loadB_t hk (by assumption))]))
            · have c3069 : ¬ ((cnt x2987.Client list : Int) > (8 : Int)) := of_decide_eq_false hb
              clear hb
              refine At.keep [1, 2, 4, 6] ?_; show At _ _ _ [(1, .slice (some ⟨b2989, o2990, none⟩) list.length n_list), (2, .pointer (some ⟨b2979, 0, none⟩)), (4, .pointer (some ⟨b2982, 0, none⟩)), (6, .int .i64 i)] _
              refine At.reg (L := [(0, false), (1, false), (2, false)]) (by kernel_rfl) ?_
              refine Op.pures 1 [1, 2, 4, 6, 11] (L' := [(1, false), (2, false)]) (e' := [(1, .slice (some ⟨b2989, o2990, none⟩) list.length n_list), (2, .pointer (some ⟨b2979, 0, none⟩)), (4, .pointer (some ⟨b2982, 0, none⟩)), (6, .int .i64 i), (11, .int .i64 i)]) (by kernel_rfl) ?_
              refine Op.val (dst := some 12) (v := .int .i64 (IntKind.wrap .i64 (i + 1))) (v' := .int .i64 (i + 1)) (by kernel_rfl) (wrapEq_i64 (by first | omega | exact hw _ (List.mem_of_getElem? hx2988)) (by first | omega | exact hw _ (List.mem_of_getElem? hx2988))) ?_
              refine Op.pures 1 [1, 2, 4, 6] (L' := []) (e' := [(1, .slice (some ⟨b2989, o2990, none⟩) list.length n_list), (2, .pointer (some ⟨b2979, 0, none⟩)), (4, .pointer (some ⟨b2982, 0, none⟩)), (6, .int .i64 (i + 1))]) (by kernel_rfl) ?_
              refine Op.goto 2 (by kernel_rfl) ?_
              exact ih2  (i + 1) _ (by omega) (by first | omega | exact hw _ (List.mem_of_getElem? hx2988)) (by first | omega | exact hw _ (List.mem_of_getElem? hx2988)) (by first | exact okTo11_step hk h0 (stepB_t0 hx2988 (by assumption) (by omega) (by omega)) | exact okTo11_step hk h0 (stepB_t1 hx2988 (by assumption) (by omega) {hx1} (by assumption) (by omega)))  s3062
      · have c3070 : ¬ (i < (list.length : Int)) := of_decide_eq_false hb
        clear hb
        refine At.keep [1, 2, 4] ?_; show At _ _ _ [(1, .slice a_list list.length n_list), (2, .pointer (some ⟨b2979, 0, none⟩)), (4, .pointer (some ⟨b2982, 0, none⟩))] _
        refine At.reg (L := [(0, false), (1, false), (2, false), (3, false)]) (by kernel_rfl) ?_
        refine Op.pures 1 [2, 4, 47] (L' := [(1, false), (2, false), (3, false)]) (e' := [(2, .pointer (some ⟨b2979, 0, none⟩)), (4, .pointer (some ⟨b2982, 0, none⟩)), (47, .slice a_list list.length n_list)]) (by kernel_rfl) ?_
        refine Op.call0 (dst := some 48) (f := 30) (args := #[.slice a_list list.length n_list]) (by kernel_rfl) s_loop22984 (copyWatches _ _ _ s_loop22984.sub hG _ _ h_list (by ((try dsimp only) <;> (first | omega | exact hw _ (List.mem_of_getElem? {hx0})))) ) ?_
        rintro _ g3078 _ h3071 hle3079 s3072 ⟨v3073, ch3074, rfl, R3075, hgg, rfl⟩; subst g3078; clear hle3079
        obtain ⟨a3076, n3077, rfl⟩ := R3075.form
        refine Op.pures 1 [2, 4, 48, 49] (L' := [(3, false)]) (e' := [(2, .pointer (some ⟨b2979, 0, none⟩)), (4, .pointer (some ⟨b2982, 0, none⟩)), (48, .slice a3076 ((list).length) n3077), (49, .pointer (some ⟨b2979, 0, none⟩))]) (by kernel_rfl) ?_
        refine Op.store (T := 22) (x := (.tmp 49)) (y := (.tmp 48)) (b := b2979) (o := 0) (vs := [.slice a3076 ((list).length) n3077]) (a? := false) (n := 1) (by kernel_rfl) (by kernel_rfl) (by kernel_rfl) (by kernel_rfl) rfl (by simp [Value.oneCell']) s3072 2 rfl (Nat.le_of_ble_eq_true (by kernel_rfl)) (cs := #[.slice a_t_0 t.All.length n_t_0]) (cs' := #[.slice a3076 ((list).length) n3077]) (by kernel_rfl) (fun _ => trivial) ?_
        intro h3080 s3081
        refine Op.goto 10 (by kernel_rfl) ?_
        refine At.reg (L := [(0, false), (1, false), (2, false)]) (by kernel_rfl) ?_
        refine Op.loadA (T := 36) (x := (.tmp 2)) (o := 0) (d := 50) (n := 1) (vs := [.slice a3076 ((list).length) n3077]) (by kernel_rfl) (by kernel_rfl) (by kernel_rfl) (s3081.chunk 2 rfl) (by kernel_rfl) rfl ?_
        refine Op.store (T := 36) (x := (.tmp 4)) (y := (.tmp 50)) (b := b2982) (o := 0) (vs := [.slice a3076 ((list).length) n3077]) (a? := true) (n := 1) (by kernel_rfl) (by kernel_rfl) (by kernel_rfl) (by kernel_rfl) rfl (by simp [Value.oneCell']) s3081 1 rfl (Nat.le_of_ble_eq_true (by kernel_rfl)) (cs := #[.slice none 0 0]) (cs' := #[.slice a3076 ((list).length) n3077]) (by kernel_rfl) (fun _ => trivial) ?_
        intro h3082 s3083
        refine Op.pures 1 [4, 5] (L' := []) (e' := [(4, .pointer (some ⟨b2982, 0, none⟩)), (5, .bool true)]) (by kernel_rfl) ?_
        refine Op.goto 11 (by kernel_rfl) ?_
        obtain ⟨g3084, s3085, hle3086, hf3087⟩ := Row.freeze R3075 (s3083.front 0 rfl)
        replace hG := hG.mono hle3086
        refine At.retM (f := Tryd.f32) (vs := [.agg #[.slice a3076 ((list).length) n3077], .bool true]) (rl := [.cell 4 36, .tmp 5]) (v := .tuple #[.agg #[.slice a3076 ((list).length) n3077], .bool true]) (by kernel_rfl) (by kernel_rfl) ⟨⟨_, _, rfl, resAgg (n := 1) (by kernel_rfl) (s3085.chunk 0 rfl) (by kernel_rfl) rfl⟩, rfl, trivial⟩ rfl ?_
        have s3088 : St h g (ids []) g3084 [] h3082 := (s3085).drop.drop
        refine hR _ _ _ _ s3088 ⟨(.slice a3076 ((list).length) n3077), ?_, ?_, rfl⟩
        · exact eqT2 rfl (eqB (by first | exact (loadB_f h0 {hx0} (stepB_1 {hx0} (by assumption))).symm | exact (loadB_f h0 {hx0} (stepB_2 (by omega) {hx0} {hx1} (by assumption))).symm | exact (loadB_f h0 {hx0} (stepB_3 {hx0} (by omega))).symm | exact (loadB_t hk (by assumption)).symm | (unfold loadL; rw [if_neg (Bool.eq_false_iff.1 (loadB_f h0 {hx0} (stepB_1 {hx0} (by assumption))))]) | (unfold loadL; rw [if_neg (Bool.eq_false_iff.1 (loadB_f h0 {hx0} (stepB_2 (by omega) {hx0} {hx1} (by assumption))))]) | (unfold loadL; rw [if_neg (Bool.eq_false_iff.1 (loadB_f h0 {hx0} (stepB_3 {hx0} (by omega))))]) | (unfold loadL; rw [if_pos (loadB_t hk (by assumption))])))
        · exact slEq hf3087 (by first | exact (loadB_f h0 {hx0} (stepB_1 {hx0} (by assumption))).symm | exact (loadB_f h0 {hx0} (stepB_2 (by omega) {hx0} {hx1} (by assumption))).symm | exact (loadB_f h0 {hx0} (stepB_3 {hx0} (by omega))).symm | exact (loadB_t hk (by assumption)).symm | (unfold loadL; rw [if_neg (Bool.eq_false_iff.1 (loadB_f h0 {hx0} (stepB_1 {hx0} (by assumption))))]) | (unfold loadL; rw [if_neg (Bool.eq_false_iff.1 (loadB_f h0 {hx0} (stepB_2 (by omega) {hx0} {hx1} (by assumption))))]) | (unfold loadL; rw [if_neg (Bool.eq_false_iff.1 (loadB_f h0 {hx0} (stepB_3 {hx0} (by omega))))]) | (unfold loadL; rw [if_pos (loadB_t hk (by assumption))]))
  exact loop2 _  0 _ (Nat.lt_succ_self _) (by first | omega | exact hw _ (List.mem_of_getElem? {hx0})) (by first | omega | exact hw _ (List.mem_of_getElem? {hx0})) (by exact okTo11_0 _)  s2984

/-- stanchion/stanchionlaw11.alive -/
theorem alive11 (B : World) (h : Heap) (g : GH) (hg : Sub g h) (hG : Glob g)   :
    Spec Tryd.prog B 14 #[] h g [] (fun rv g' L' => rv = .bool true ∧ g' = g ∧ L' = []) := by
  refine Spec.of_at (f := Tryd.f14) (e := []) Tryd.func14 (by kernel_rfl) (Nat.le_of_ble_eq_true (by kernel_rfl)) (by kernel_rfl) (by kernel_rfl) ?_
  intro R hR
  have s0 := St.init hg
  refine At.reg (L := [(0, false)]) (by kernel_rfl) ?_
  refine Op.pures 1 [] (L' := []) (e' := []) (by kernel_rfl) ?_
  refine Op.goto 1 (by kernel_rfl) ?_
  refine At.reg (L := [(0, false), (1, false)]) (by kernel_rfl) ?_
  refine Op.call0 (dst := some 4) (f := 15) (args := #[]) (by kernel_rfl) s0 (newT _ _ _ s0.sub hG   ) ?_
  rintro _ g3094 _ h3089 hle3095 s3090 ⟨b3091, c3092, rfl, o3093, hgg, rfl⟩; subst g3094; clear hle3095
  refine Op.pures 1 [1] (L' := []) (e' := [(1, .pointer (some ⟨b3091, 0, none⟩))]) (by kernel_rfl) ?_
  refine Op.goto 2 (by kernel_rfl) ?_
  refine At.reg (L := [(0, false), (1, false), (2, false)]) (by kernel_rfl) ?_
  refine Op.pures 1 [1, 5] (L' := [(1, false), (2, false)]) (e' := [(1, .pointer (some ⟨b3091, 0, none⟩)), (5, .agg #[.int .i64 1, .int .i64 1, .string (mkS ([47, 97]))])]) (by kernel_rfl) ?_
  refine Op.alloc (T := 27) (dst := 2) (cs := #[.int .i64 0, .int .i64 0, .string (mkS [])]) (by kernel_rfl) (by kernel_rfl) s3090 ?_
  intro b3096 h3097 s3098
  refine Op.store (T := 27) (x := (.tmp 2)) (y := (.tmp 5)) (b := b3096) (o := 0) (vs := [.int .i64 1, .int .i64 1, .string (mkS ([47, 97]))]) (a? := true) (n := 3) (by kernel_rfl) (by kernel_rfl) (by kernel_rfl) (by kernel_rfl) rfl (by simp [Value.oneCell']) s3098 0 rfl (Nat.le_of_ble_eq_true (by kernel_rfl)) (cs := #[.int .i64 0, .int .i64 0, .string (mkS [])]) (cs' := #[.int .i64 1, .int .i64 1, .string (mkS ([47, 97]))]) (by kernel_rfl) (fun _ => trivial) ?_
  intro h3099 s3100
  refine Op.goto 3 (by kernel_rfl) ?_
  refine At.reg (L := [(0, false), (1, false), (2, false), (3, false), (4, false), (5, false), (6, false), (7, false), (8, false), (9, false), (10, false), (11, false), (12, false), (13, false), (14, false), (15, false), (16, false), (17, false), (18, false), (19, false)]) (by kernel_rfl) ?_
  refine Op.pures 4 [1, 2, 8, 9] (L' := [(4, false), (5, false), (6, false), (7, false), (8, false), (9, false), (10, false), (11, false), (12, false), (13, false), (14, false), (15, false), (16, false), (17, false), (18, false), (19, false)]) (e' := [(1, .pointer (some ⟨b3091, 0, none⟩)), (2, .pointer (some ⟨b3096, 0, none⟩)), (8, .bool false), (9, .pointer (some ⟨b3091, 0, none⟩))]) (by kernel_rfl) ?_
  refine Op.loadA (T := 27) (x := (.tmp 2)) (o := 0) (d := 10) (n := 3) (vs := [.int .i64 1, .int .i64 1, .string (mkS ([47, 97]))]) (by kernel_rfl) (by kernel_rfl) (by kernel_rfl) (s3100.chunk 0 rfl) (by kernel_rfl) rfl ?_
  have s3101 : St h g (ids []) g [c3092, [(b3096, Obj.cells #[.int .i64 1, .int .i64 1, .string (mkS ([47, 97]))] 27 (0, 0))]] h3099 := ((s3100.front 0 rfl).front 1 rfl)
  refine Op.call (dst := some 11) (f := 16) (args := #[.pointer (some ⟨b3091, 0, none⟩), .agg #[.int .i64 1, .int .i64 1, .string (mkS ([47, 97]))]]) (Lc := [c3092]) (L := [[(b3096, Obj.cells #[.int .i64 1, .int .i64 1, .string (mkS ([47, 97]))] 27 (0, 0))]]) (by kernel_rfl) s3101 (addT _ _ _ s3101.sub hG b3091 [] _ o3093 (⟨1, 1, [47, 97]⟩ : Watch) (by ((try dsimp only) <;> (first | omega | decide | exact SortW.nil | exact addL_sort SortW.nil | exact addL_sort (addL_sort SortW.nil) | (decide +kernel)))) (by ((try dsimp only) <;> (first | omega | decide | exact SortW.nil | exact addL_sort SortW.nil | exact addL_sort (addL_sort SortW.nil) | (decide +kernel)))) (by ((try dsimp only) <;> (first | omega | decide | exact SortW.nil | exact addL_sort SortW.nil | exact addL_sort (addL_sort SortW.nil) | (decide +kernel)))) (St.part (Lc := [c3092]) (L := [[(b3096, Obj.cells #[.int .i64 1, .int .i64 1, .string (mkS ([47, 97]))] 27 (0, 0))]]) s3101)) (fun _ _ _ => trivial) ?_
  rintro _ g3106 _ h3102 hle3107 s3103 ⟨c3104, rfl, o3105, hgg, rfl⟩; subst g3106; clear hle3107
  refine Op.pures 3 [1, 2, 14] (L' := [(9, false), (10, false), (11, false), (12, false), (13, false), (14, false), (15, false), (16, false), (17, false), (18, false), (19, false)]) (e' := [(1, .pointer (some ⟨b3091, 0, none⟩)), (2, .pointer (some ⟨b3096, 0, none⟩)), (14, .bool ((addE [] (⟨1, 1, [47, 97]⟩ : Watch)) != (0 : Int)))]) (by kernel_rfl) ?_
  refine Op.ways (b := (addE [] (⟨1, 1, [47, 97]⟩ : Watch)) != (0 : Int)) ⟨fun hb => ?_, fun hb => ?_⟩
  · refine Op.cast (e' := [(1, .pointer (some ⟨b3091, 0, none⟩)), (2, .pointer (some ⟨b3096, 0, none⟩)), (14, .bool true)]) (by rw [hb]) ?_
    have c3108 : ¬ ((addE [] (⟨1, 1, [47, 97]⟩ : Watch)) = (0 : Int)) := bneT hb
    clear hb
    refine Op.pures 11 [1, 2, 25] (L' := []) (e' := [(1, .pointer (some ⟨b3091, 0, none⟩)), (2, .pointer (some ⟨b3096, 0, none⟩)), (25, .bool true)]) (by kernel_rfl) ?_
    refine Op.goto 4 (by kernel_rfl) ?_
    refine At.condT (c := .tmp 25) (by kernel_rfl) (by kernel_rfl) (by kernel_rfl) 5 (by kernel_rfl) ?_
    refine At.reg (L := [(0, false)]) (by kernel_rfl) ?_
    refine Op.pures 1 [0] (L' := []) (e' := [(0, .bool false)]) (by kernel_rfl) ?_
    refine Op.goto 6 (by kernel_rfl) ?_
    refine At.ret (f := Tryd.f14) (v := .bool false) (by kernel_rfl) (by kernel_rfl) ?_
    have s3109 : St h g (ids []) g [] h3102 := (s3103).drop.drop
    refine hR _ _ _ _ s3109 ⟨?_, rfl, rfl⟩
    exact (eqB (by first | rfl | contradiction | exact absurd (by decide +kernel) c3108 | exact absurd c3108 (by decide +kernel) | decide +kernel))
  · refine Op.cast (e' := [(1, .pointer (some ⟨b3091, 0, none⟩)), (2, .pointer (some ⟨b3096, 0, none⟩)), (14, .bool false)]) (by rw [hb]) ?_
    have c3110 : (addE [] (⟨1, 1, [47, 97]⟩ : Watch)) = (0 : Int) := bneF hb
    clear hb
    refine Op.pures 1 [1, 2, 14, 15] (L' := [(10, false), (11, false), (12, false), (13, false), (14, false), (15, false), (16, false), (17, false), (18, false), (19, false)]) (e' := [(1, .pointer (some ⟨b3091, 0, none⟩)), (2, .pointer (some ⟨b3096, 0, none⟩)), (14, .bool false), (15, .pointer (some ⟨b3091, 0, none⟩))]) (by kernel_rfl) ?_
    refine Op.loadA (T := 27) (x := (.tmp 2)) (o := 0) (d := 16) (n := 3) (vs := [.int .i64 1, .int .i64 1, .string (mkS ([47, 97]))]) (by kernel_rfl) (by kernel_rfl) (by kernel_rfl) (s3103.chunk 1 rfl) (by kernel_rfl) rfl ?_
    refine Op.call (dst := some 17) (f := 16) (args := #[.pointer (some ⟨b3091, 0, none⟩), .agg #[.int .i64 1, .int .i64 1, .string (mkS ([47, 97]))]]) (Lc := [c3104]) (L := [[(b3096, Obj.cells #[.int .i64 1, .int .i64 1, .string (mkS ([47, 97]))] 27 (0, 0))]]) (by kernel_rfl) s3103 (addT _ _ _ s3103.sub hG b3091 (addL [] (⟨1, 1, [47, 97]⟩ : Watch)) _ o3105 (⟨1, 1, [47, 97]⟩ : Watch) (by ((try dsimp only) <;> (first | omega | decide | exact SortW.nil | exact addL_sort SortW.nil | exact addL_sort (addL_sort SortW.nil) | (decide +kernel)))) (by ((try dsimp only) <;> (first | omega | decide | exact SortW.nil | exact addL_sort SortW.nil | exact addL_sort (addL_sort SortW.nil) | (decide +kernel)))) (by ((try dsimp only) <;> (first | omega | decide | exact SortW.nil | exact addL_sort SortW.nil | exact addL_sort (addL_sort SortW.nil) | (decide +kernel)))) (St.part (Lc := [c3104]) (L := [[(b3096, Obj.cells #[.int .i64 1, .int .i64 1, .string (mkS ([47, 97]))] 27 (0, 0))]]) s3103)) (fun _ _ _ => trivial) ?_
    rintro _ g3115 _ h3111 hle3116 s3112 ⟨c3113, rfl, o3114, hgg, rfl⟩; subst g3115; clear hle3116
    refine Op.pures 3 [1, 2, 20] (L' := [(15, false), (16, false), (17, false), (18, false), (19, false)]) (e' := [(1, .pointer (some ⟨b3091, 0, none⟩)), (2, .pointer (some ⟨b3096, 0, none⟩)), (20, .bool ((addE (addL [] (⟨1, 1, [47, 97]⟩ : Watch)) (⟨1, 1, [47, 97]⟩ : Watch)) != (0 : Int)))]) (by kernel_rfl) ?_
    refine Op.ways (b := (addE (addL [] (⟨1, 1, [47, 97]⟩ : Watch)) (⟨1, 1, [47, 97]⟩ : Watch)) != (0 : Int)) ⟨fun hb => ?_, fun hb => ?_⟩
    · refine Op.cast (e' := [(1, .pointer (some ⟨b3091, 0, none⟩)), (2, .pointer (some ⟨b3096, 0, none⟩)), (20, .bool true)]) (by rw [hb]) ?_
      have c3117 : ¬ ((addE (addL [] (⟨1, 1, [47, 97]⟩ : Watch)) (⟨1, 1, [47, 97]⟩ : Watch)) = (0 : Int)) := bneT hb
      clear hb
      refine Op.pures 5 [1, 2, 25] (L' := []) (e' := [(1, .pointer (some ⟨b3091, 0, none⟩)), (2, .pointer (some ⟨b3096, 0, none⟩)), (25, .bool true)]) (by kernel_rfl) ?_
      refine Op.goto 4 (by kernel_rfl) ?_
      refine At.condT (c := .tmp 25) (by kernel_rfl) (by kernel_rfl) (by kernel_rfl) 5 (by kernel_rfl) ?_
      refine At.reg (L := [(0, false)]) (by kernel_rfl) ?_
      refine Op.pures 1 [0] (L' := []) (e' := [(0, .bool false)]) (by kernel_rfl) ?_
      refine Op.goto 6 (by kernel_rfl) ?_
      refine At.ret (f := Tryd.f14) (v := .bool false) (by kernel_rfl) (by kernel_rfl) ?_
      have s3118 : St h g (ids []) g [] h3111 := (s3112).drop.drop
      refine hR _ _ _ _ s3118 ⟨?_, rfl, rfl⟩
      exact (eqB (by first | rfl | contradiction | exact absurd (by decide +kernel) c3117 | exact absurd c3117 (by decide +kernel) | decide +kernel))
    · refine Op.cast (e' := [(1, .pointer (some ⟨b3091, 0, none⟩)), (2, .pointer (some ⟨b3096, 0, none⟩)), (20, .bool false)]) (by rw [hb]) ?_
      have c3119 : (addE (addL [] (⟨1, 1, [47, 97]⟩ : Watch)) (⟨1, 1, [47, 97]⟩ : Watch)) = (0 : Int) := bneF hb
      clear hb
      refine Op.pures 1 [1, 2, 20, 21] (L' := [(16, false), (17, false), (18, false), (19, false)]) (e' := [(1, .pointer (some ⟨b3091, 0, none⟩)), (2, .pointer (some ⟨b3096, 0, none⟩)), (20, .bool false), (21, .pointer (some ⟨b3091, 0, none⟩))]) (by kernel_rfl) ?_
      refine Op.call (dst := some 22) (f := 18) (args := #[.pointer (some ⟨b3091, 0, none⟩)]) (Lc := [c3113]) (L := [[(b3096, Obj.cells #[.int .i64 1, .int .i64 1, .string (mkS ([47, 97]))] 27 (0, 0))]]) (by kernel_rfl) s3112 (allT _ _ _ s3112.sub hG b3091 (addL (addL [] (⟨1, 1, [47, 97]⟩ : Watch)) (⟨1, 1, [47, 97]⟩ : Watch)) _ o3114 (by ((try dsimp only) <;> (first | omega | decide | exact SortW.nil | exact addL_sort SortW.nil | exact addL_sort (addL_sort SortW.nil) | (decide +kernel)))) (St.part (Lc := [c3113]) (L := [[(b3096, Obj.cells #[.int .i64 1, .int .i64 1, .string (mkS ([47, 97]))] 27 (0, 0))]]) s3112)) (fun _ _ _ => trivial) ?_
      rintro _ g3129 _ h3120 hle3130 s3121 ⟨v3122, ch3123, c3127, rfl, R3124, o3128, hgg, rfl⟩; subst g3129; clear hle3130
      obtain ⟨a3125, n3126, rfl⟩ := R3124.form
      refine Op.pures 3 [1, 2, 25] (L' := []) (e' := [(1, .pointer (some ⟨b3091, 0, none⟩)), (2, .pointer (some ⟨b3096, 0, none⟩)), (25, .bool ((((addL (addL [] (⟨1, 1, [47, 97]⟩ : Watch)) (⟨1, 1, [47, 97]⟩ : Watch))).length : Int) != (1 : Int)))]) (by kernel_rfl) ?_
      refine Op.goto 4 (by kernel_rfl) ?_
      refine At.cond (b := (((addL (addL [] (⟨1, 1, [47, 97]⟩ : Watch)) (⟨1, 1, [47, 97]⟩ : Watch))).length : Int) != (1 : Int)) (c := .tmp 25) (by kernel_rfl) (by kernel_rfl) (by kernel_rfl) 5 7 (by kernel_rfl) (by kernel_rfl) (fun hb => ?_) (fun hb => ?_)
      · have c3131 : ¬ ((((addL (addL [] (⟨1, 1, [47, 97]⟩ : Watch)) (⟨1, 1, [47, 97]⟩ : Watch))).length : Int) = (1 : Int)) := bneT hb
        clear hb
        refine At.keep [] ?_; show At _ _ _ [] _
        refine At.reg (L := [(0, false)]) (by kernel_rfl) ?_
        refine Op.pures 1 [0] (L' := []) (e' := [(0, .bool false)]) (by kernel_rfl) ?_
        refine Op.goto 6 (by kernel_rfl) ?_
        refine At.ret (f := Tryd.f14) (v := .bool false) (by kernel_rfl) (by kernel_rfl) ?_
        have s3132 : St h g (ids []) g [] h3120 := (s3121).drop.drop.drop
        refine hR _ _ _ _ s3132 ⟨?_, rfl, rfl⟩
        exact (eqB (by first | rfl | contradiction | exact absurd (by decide +kernel) c3131 | exact absurd c3131 (by decide +kernel) | decide +kernel))
      · have c3133 : (((addL (addL [] (⟨1, 1, [47, 97]⟩ : Watch)) (⟨1, 1, [47, 97]⟩ : Watch))).length : Int) = (1 : Int) := bneF hb
        clear hb
        refine At.keep [1, 2] ?_; show At _ _ _ [(1, .pointer (some ⟨b3091, 0, none⟩)), (2, .pointer (some ⟨b3096, 0, none⟩))] _
        refine At.reg (L := [(0, false), (1, false), (2, false), (3, false)]) (by kernel_rfl) ?_
        refine Op.pures 1 [1, 2, 26] (L' := [(1, false), (2, false), (3, false)]) (e' := [(1, .pointer (some ⟨b3091, 0, none⟩)), (2, .pointer (some ⟨b3096, 0, none⟩)), (26, .pointer (some ⟨b3091, 0, none⟩))]) (by kernel_rfl) ?_
        refine Op.lit (T := 37) (len := 2) (parts := #[(0, (.const (.string (mkS ([47, 98]))))), (1, (.const (.string (mkS ([47, 97])))))]) (dst := 27) (E := 9) (ps := [(0, .string (mkS ([47, 98]))), (1, .string (mkS ([47, 97])))]) (cs := #[.string (mkS ([47, 98])), .string (mkS ([47, 97]))]) (by kernel_rfl) (by kernel_rfl) (by kernel_rfl) s3121 ?_
        intro b3134 h3135 s3136
        have R3137 : Row 9 kStr g (.slice (some ⟨b3134, 0, none⟩) 2 2) [[47, 98], [47, 97]] [(b3134, Obj.cells #[.string (mkS ([47, 98])), .string (mkS ([47, 97]))] 9 (0, 0))] := Row.lit (by kernel_rfl) (by unfold maxLen; decide) (by kernel_rfl) ⟨_, _, rfl, rfl, ⟨_, _, rfl, rfl, Reads.nil⟩⟩
        have hl3138 := s3136.frzle
        have hz3139 := R3137.frz s3136
        refine Op.lend (dst := some 28) (f := 25) (args := #[.pointer (some ⟨b3091, 0, none⟩), .int .i64 1, .slice (some ⟨b3134, 0, none⟩) 2 2]) (cf := ([(b3134, Obj.cells #[.string (mkS ([47, 98])), .string (mkS ([47, 97]))] 9 (0, 0))] : Chunk)) (Lc := [c3127]) (L := [ch3123, [(b3096, Obj.cells #[.int .i64 1, .int .i64 1, .string (mkS ([47, 97]))] 27 (0, 0))]]) (by kernel_rfl) s3136 (fireT _ _ _ s3136.frzsub (hG.mono hl3138) b3091 (addL (addL [] (⟨1, 1, [47, 97]⟩ : Watch)) (⟨1, 1, [47, 97]⟩ : Watch)) _ (o3128.mono hl3138) 1 _ _ hz3139 (by ((try dsimp only) <;> (first | omega | decide | exact SortW.nil | exact addL_sort SortW.nil | exact addL_sort (addL_sort SortW.nil) | (decide +kernel)))) (by ((try dsimp only) <;> (first | omega | decide | exact SortW.nil | exact addL_sort SortW.nil | exact addL_sort (addL_sort SortW.nil) | (decide +kernel)))) (St.part (Lc := [c3127]) (L := [ch3123, [(b3096, Obj.cells #[.int .i64 1, .int .i64 1, .string (mkS ([47, 97]))] 27 (0, 0))]]) s3136.freeze.1)) (fun _ _ _ hp => by obtain ⟨_, _, _, _, _, _, hgg, _⟩ := hp; exact hgg) (fun _ _ _ => trivial) ?_
        rintro _ _ h3140 s3141 ⟨v3142, ch3143, c3147, rfl, R3144, o3148, hgg, rfl⟩; clear hgg
        obtain ⟨a3145, n3146, rfl⟩ := R3144.form
        replace R3144 := R3144.flat (fun _ _ _ _ h => h) (g' := g)
        replace o3148 := o3148.flat (g' := g)
        refine Op.pures 1 [1, 2, 3] (L' := []) (e' := [(1, .pointer (some ⟨b3091, 0, none⟩)), (2, .pointer (some ⟨b3096, 0, none⟩)), (3, .slice a3145 (((List.filter (qFire 1 ([[47, 98], [47, 97]])) (addL (addL [] (⟨1, 1, [47, 97]⟩ : Watch)) (⟨1, 1, [47, 97]⟩ : Watch)))).length) n3146)]) (by kernel_rfl) ?_
        refine Op.goto 8 (by kernel_rfl) ?_
        refine At.reg (L := [(0, false), (1, false), (2, false), (3, false), (4, false), (5, false), (6, false), (7, false), (8, false), (9, false), (10, false), (11, false), (12, false), (13, false), (14, false), (15, false)]) (by kernel_rfl) ?_
        refine Op.pures 1 [1, 2, 29] (L' := [(1, false), (2, false), (3, false), (4, false), (5, false), (6, false), (7, false), (8, false), (9, false), (10, false), (11, false), (12, false), (13, false), (14, false), (15, false)]) (e' := [(1, .pointer (some ⟨b3091, 0, none⟩)), (2, .pointer (some ⟨b3096, 0, none⟩)), (29, .slice a3145 (((List.filter (qFire 1 ([[47, 98], [47, 97]])) (addL (addL [] (⟨1, 1, [47, 97]⟩ : Watch)) (⟨1, 1, [47, 97]⟩ : Watch)))).length) n3146)]) (by kernel_rfl) ?_
        refine Op.loadA (T := 27) (x := (.tmp 2)) (o := 0) (d := 30) (n := 3) (vs := [.int .i64 1, .int .i64 1, .string (mkS ([47, 97]))]) (by kernel_rfl) (by kernel_rfl) (by kernel_rfl) (s3141.chunk 4 rfl) (by kernel_rfl) rfl ?_
        refine Op.lit (T := 22) (len := 1) (parts := #[(0, (.tmp 30))]) (dst := 31) (E := 27) (ps := [(0, .agg #[.int .i64 1, .int .i64 1, .string (mkS ([47, 97]))])]) (cs := #[.int .i64 1, .int .i64 1, .string (mkS ([47, 97]))]) (by kernel_rfl) (by kernel_rfl) (by kernel_rfl) s3141 ?_
        intro b3151 h3152 s3153
        have R3154 : Row 27 kWatch g (.slice (some ⟨b3151, 0, none⟩) 1 1) [(⟨1, 1, [47, 97]⟩ : Watch)] [(b3151, Obj.cells #[.int .i64 1, .int .i64 1, .string (mkS ([47, 97]))] 27 (0, 0))] := Row.lit (by kernel_rfl) (by unfold maxLen; decide) (by kernel_rfl) ⟨_, _, rfl, rfl, Reads.nil⟩
        have s3155 : St h g (ids []) g [ch3143, [(b3151, Obj.cells #[.int .i64 1, .int .i64 1, .string (mkS ([47, 97]))] 27 (0, 0))], [(b3134, Obj.cells #[.string (mkS ([47, 98])), .string (mkS ([47, 97]))] 9 (0, 0))], c3147, ch3123, [(b3096, Obj.cells #[.int .i64 1, .int .i64 1, .string (mkS ([47, 97]))] 27 (0, 0))]] h3152 := ((((s3153.front 2 rfl).front 2 rfl).front 2 rfl).front 3 rfl)
        have s3156 : St h g (ids []) g ((ch3143 ++ [(b3151, Obj.cells #[.int .i64 1, .int .i64 1, .string (mkS ([47, 97]))] 27 (0, 0))] : Chunk) :: [[(b3134, Obj.cells #[.string (mkS ([47, 98])), .string (mkS ([47, 97]))] 9 (0, 0))], c3147, ch3123, [(b3096, Obj.cells #[.int .i64 1, .int .i64 1, .string (mkS ([47, 97]))] 27 (0, 0))]]) h3152 := St.flat (by simp only [List.flatten_cons, List.append_assoc, List.cons_append, List.nil_append, List.append_nil]) s3155
        have hl3157 := s3156.frzle
        have hz3158 := R3144.frzIn (c := (ch3143 ++ [(b3151, Obj.cells #[.int .i64 1, .int .i64 1, .string (mkS ([47, 97]))] 27 (0, 0))] : Chunk)) s3156 (by intro p hp; simp [List.mem_append, hp])
        have hz3159 := R3154.frzIn (c := (ch3143 ++ [(b3151, Obj.cells #[.int .i64 1, .int .i64 1, .string (mkS ([47, 97]))] 27 (0, 0))] : Chunk)) s3156 (by intro p hp; simp [List.mem_append, hp])
        refine Op.lend (dst := some 32) (f := 17) (args := #[.slice a3145 (((List.filter (qFire 1 ([[47, 98], [47, 97]])) (addL (addL [] (⟨1, 1, [47, 97]⟩ : Watch)) (⟨1, 1, [47, 97]⟩ : Watch)))).length) n3146, .slice (some ⟨b3151, 0, none⟩) 1 1]) (cf := (ch3143 ++ [(b3151, Obj.cells #[.int .i64 1, .int .i64 1, .string (mkS ([47, 97]))] 27 (0, 0))] : Chunk)) (Lc := []) (L := [[(b3134, Obj.cells #[.string (mkS ([47, 98])), .string (mkS ([47, 97]))] 9 (0, 0))], c3147, ch3123, [(b3096, Obj.cells #[.int .i64 1, .int .i64 1, .string (mkS ([47, 97]))] 27 (0, 0))]]) (by kernel_rfl) s3156 (sameWatches _ _ _ s3156.frzsub (hG.mono hl3157) _ _ hz3158 _ _ hz3159 (by ((try dsimp only) <;> (first | omega | decide | exact SortW.nil | exact addL_sort SortW.nil | exact addL_sort (addL_sort SortW.nil) | (decide +kernel)))) ) (fun _ _ _ hp => by obtain ⟨_, hgg, _⟩ := hp; exact hgg) (fun _ _ h => absurd h (ids_nil _)) ?_
        rintro _ _ h3160 s3161 ⟨rfl, hgg, rfl⟩; clear hgg
        have s3164 : St h g (ids []) g [ch3143, [(b3151, Obj.cells #[.int .i64 1, .int .i64 1, .string (mkS ([47, 97]))] 27 (0, 0))], [(b3134, Obj.cells #[.string (mkS ([47, 98])), .string (mkS ([47, 97]))] 9 (0, 0))], c3147, ch3123, [(b3096, Obj.cells #[.int .i64 1, .int .i64 1, .string (mkS ([47, 97]))] 27 (0, 0))]] h3160 := St.flat (by simp only [List.flatten_cons, List.append_assoc, List.cons_append, List.nil_append, List.append_nil]) s3161
        refine Op.pures 1 [1, 2, 33] (L' := [(5, false), (6, false), (7, false), (8, false), (9, false), (10, false), (11, false), (12, false), (13, false), (14, false), (15, false)]) (e' := [(1, .pointer (some ⟨b3091, 0, none⟩)), (2, .pointer (some ⟨b3096, 0, none⟩)), (33, .bool (decide ((List.filter (qFire 1 ([[47, 98], [47, 97]])) (addL (addL [] (⟨1, 1, [47, 97]⟩ : Watch)) (⟨1, 1, [47, 97]⟩ : Watch))) = ([(⟨1, 1, [47, 97]⟩ : Watch)]))))]) (by kernel_rfl) ?_
        refine Op.ways (b := decide ((List.filter (qFire 1 ([[47, 98], [47, 97]])) (addL (addL [] (⟨1, 1, [47, 97]⟩ : Watch)) (⟨1, 1, [47, 97]⟩ : Watch))) = ([(⟨1, 1, [47, 97]⟩ : Watch)]))) ⟨fun hb => ?_, fun hb => ?_⟩
        · refine Op.cast (e' := [(1, .pointer (some ⟨b3091, 0, none⟩)), (2, .pointer (some ⟨b3096, 0, none⟩)), (33, .bool true)]) (by rw [hb]) ?_
          have c3165 : (List.filter (qFire 1 ([[47, 98], [47, 97]])) (addL (addL [] (⟨1, 1, [47, 97]⟩ : Watch)) (⟨1, 1, [47, 97]⟩ : Watch))) = ([(⟨1, 1, [47, 97]⟩ : Watch)]) := of_decide_eq_true hb
          clear hb
          refine Op.pures 1 [2, 33, 34] (L' := [(6, false), (7, false), (8, false), (9, false), (10, false), (11, false), (12, false), (13, false), (14, false), (15, false)]) (e' := [(2, .pointer (some ⟨b3096, 0, none⟩)), (33, .bool true), (34, .pointer (some ⟨b3091, 0, none⟩))]) (by kernel_rfl) ?_
          refine Op.lit (T := 37) (len := 1) (parts := #[(0, (.const (.string (mkS ([47, 97])))))]) (dst := 35) (E := 9) (ps := [(0, .string (mkS ([47, 97])))]) (cs := #[.string (mkS ([47, 97]))]) (by kernel_rfl) (by kernel_rfl) (by kernel_rfl) s3164 ?_
          intro b3166 h3167 s3168
          have R3169 : Row 9 kStr g (.slice (some ⟨b3166, 0, none⟩) 1 1) [[47, 97]] [(b3166, Obj.cells #[.string (mkS ([47, 97]))] 9 (0, 0))] := Row.lit (by kernel_rfl) (by unfold maxLen; decide) (by kernel_rfl) ⟨_, _, rfl, rfl, Reads.nil⟩
          have s3170 : St h g (ids []) g [[(b3166, Obj.cells #[.string (mkS ([47, 97]))] 9 (0, 0))], c3147, ch3143, [(b3151, Obj.cells #[.int .i64 1, .int .i64 1, .string (mkS ([47, 97]))] 27 (0, 0))], [(b3134, Obj.cells #[.string (mkS ([47, 98])), .string (mkS ([47, 97]))] 9 (0, 0))], ch3123, [(b3096, Obj.cells #[.int .i64 1, .int .i64 1, .string (mkS ([47, 97]))] 27 (0, 0))]] h3167 := (((((s3168.front 3 rfl).front 3 rfl).front 3 rfl).front 4 rfl).front 4 rfl)
          have hl3171 := s3170.frzle
          have hz3172 := R3169.frz s3170
          refine Op.lend (dst := some 36) (f := 25) (args := #[.pointer (some ⟨b3091, 0, none⟩), .int .i64 1, .slice (some ⟨b3166, 0, none⟩) 1 1]) (cf := ([(b3166, Obj.cells #[.string (mkS ([47, 97]))] 9 (0, 0))] : Chunk)) (Lc := [c3147]) (L := [ch3143, [(b3151, Obj.cells #[.int .i64 1, .int .i64 1, .string (mkS ([47, 97]))] 27 (0, 0))], [(b3134, Obj.cells #[.string (mkS ([47, 98])), .string (mkS ([47, 97]))] 9 (0, 0))], ch3123, [(b3096, Obj.cells #[.int .i64 1, .int .i64 1, .string (mkS ([47, 97]))] 27 (0, 0))]]) (by kernel_rfl) s3170 (fireT _ _ _ s3170.frzsub (hG.mono hl3171) b3091 (List.filter (fun w => !qFire 1 ([[47, 98], [47, 97]]) w) (addL (addL [] (⟨1, 1, [47, 97]⟩ : Watch)) (⟨1, 1, [47, 97]⟩ : Watch))) _ (o3148.mono hl3171) 1 _ _ hz3172 (by ((try dsimp only) <;> (first | omega | decide | exact SortW.nil | exact addL_sort SortW.nil | exact addL_sort (addL_sort SortW.nil) | (decide +kernel)))) (by ((try dsimp only) <;> (first | omega | decide | exact SortW.nil | exact addL_sort SortW.nil | exact addL_sort (addL_sort SortW.nil) | (decide +kernel)))) (St.part (Lc := [c3147]) (L := [ch3143, [(b3151, Obj.cells #[.int .i64 1, .int .i64 1, .string (mkS ([47, 97]))] 27 (0, 0))], [(b3134, Obj.cells #[.string (mkS ([47, 98])), .string (mkS ([47, 97]))] 9 (0, 0))], ch3123, [(b3096, Obj.cells #[.int .i64 1, .int .i64 1, .string (mkS ([47, 97]))] 27 (0, 0))]]) s3170.freeze.1)) (fun _ _ _ hp => by obtain ⟨_, _, _, _, _, _, hgg, _⟩ := hp; exact hgg) (fun _ _ _ => trivial) ?_
          rintro _ _ h3173 s3174 ⟨v3175, ch3176, c3180, rfl, R3177, o3181, hgg, rfl⟩; clear hgg
          obtain ⟨a3178, n3179, rfl⟩ := R3177.form
          replace R3177 := R3177.flat (fun _ _ _ _ h => h) (g' := g)
          replace o3181 := o3181.flat (g' := g)
          refine Op.pures 4 [2, 40] (L' := [(12, false), (13, false), (14, false), (15, false)]) (e' := [(2, .pointer (some ⟨b3096, 0, none⟩)), (40, .bool ((((List.filter (qFire 1 ([[47, 97]])) (List.filter (fun w => !qFire 1 ([[47, 98], [47, 97]]) w) (addL (addL [] (⟨1, 1, [47, 97]⟩ : Watch)) (⟨1, 1, [47, 97]⟩ : Watch))))).length : Int) == (0 : Int)))]) (by kernel_rfl) ?_
          refine Op.ways (b := (((List.filter (qFire 1 ([[47, 97]])) (List.filter (fun w => !qFire 1 ([[47, 98], [47, 97]]) w) (addL (addL [] (⟨1, 1, [47, 97]⟩ : Watch)) (⟨1, 1, [47, 97]⟩ : Watch))))).length : Int) == (0 : Int)) ⟨fun hb => ?_, fun hb => ?_⟩
          · refine Op.cast (e' := [(2, .pointer (some ⟨b3096, 0, none⟩)), (40, .bool true)]) (by rw [hb]) ?_
            have c3184 : (((List.filter (qFire 1 ([[47, 97]])) (List.filter (fun w => !qFire 1 ([[47, 98], [47, 97]]) w) (addL (addL [] (⟨1, 1, [47, 97]⟩ : Watch)) (⟨1, 1, [47, 97]⟩ : Watch))))).length : Int) = (0 : Int) := eq_of_beq hb
            clear hb
            refine Op.loadA (T := 27) (x := (.tmp 2)) (o := 0) (d := 41) (n := 3) (vs := [.int .i64 1, .int .i64 1, .string (mkS ([47, 97]))]) (by kernel_rfl) (by kernel_rfl) (by kernel_rfl) (s3174.chunk 7 rfl) (by kernel_rfl) rfl ?_
            refine Op.call0 (dst := some 42) (f := 21) (args := #[.agg #[.int .i64 1, .int .i64 1, .string (mkS ([47, 97]))]]) (by kernel_rfl) s3174 (rightW_ _ _ _ s3174.sub hG (⟨1, 1, [47, 97]⟩ : Watch) (by ((try dsimp only) <;> (first | omega | decide | exact SortW.nil | exact addL_sort SortW.nil | exact addL_sort (addL_sort SortW.nil) | (decide +kernel)))) ) ?_
            rintro _ g3187 _ h3185 hle3188 s3186 ⟨rfl, hgg, rfl⟩; subst g3187; clear hle3188
            refine Op.pures 2 [0] (L' := []) (e' := [(0, .bool (rightW (⟨1, 1, [47, 97]⟩ : Watch)))]) (by kernel_rfl) ?_
            refine Op.goto 9 (by kernel_rfl) ?_
            refine At.ret (f := Tryd.f14) (v := .bool (rightW (⟨1, 1, [47, 97]⟩ : Watch))) (by kernel_rfl) (by kernel_rfl) ?_
            have s3189 : St h g (ids []) g [] h3185 := (s3186).drop.drop.drop.drop.drop.drop.drop.drop
            refine hR _ _ _ _ s3189 ⟨?_, rfl, rfl⟩
            exact (eqB (by first | rfl | contradiction | exact absurd (by decide +kernel) c3184 | exact absurd c3184 (by decide +kernel) | decide +kernel))
          · refine Op.cast (e' := [(2, .pointer (some ⟨b3096, 0, none⟩)), (40, .bool false)]) (by rw [hb]) ?_
            have c3190 : ¬ ((((List.filter (qFire 1 ([[47, 97]])) (List.filter (fun w => !qFire 1 ([[47, 98], [47, 97]]) w) (addL (addL [] (⟨1, 1, [47, 97]⟩ : Watch)) (⟨1, 1, [47, 97]⟩ : Watch))))).length : Int) = (0 : Int)) := neF hb
            clear hb
            refine Op.pures 4 [0] (L' := []) (e' := [(0, .bool false)]) (by kernel_rfl) ?_
            refine Op.goto 9 (by kernel_rfl) ?_
            refine At.ret (f := Tryd.f14) (v := .bool false) (by kernel_rfl) (by kernel_rfl) ?_
            have s3191 : St h g (ids []) g [] h3173 := (s3174).drop.drop.drop.drop.drop.drop.drop.drop
            refine hR _ _ _ _ s3191 ⟨?_, rfl, rfl⟩
            exact (eqB (by first | rfl | contradiction | exact absurd (by decide +kernel) c3190 | exact absurd c3190 (by decide +kernel) | decide +kernel))
        · refine Op.cast (e' := [(1, .pointer (some ⟨b3091, 0, none⟩)), (2, .pointer (some ⟨b3096, 0, none⟩)), (33, .bool false)]) (by rw [hb]) ?_
          have c3192 : ¬ ((List.filter (qFire 1 ([[47, 98], [47, 97]])) (addL (addL [] (⟨1, 1, [47, 97]⟩ : Watch)) (⟨1, 1, [47, 97]⟩ : Watch))) = ([(⟨1, 1, [47, 97]⟩ : Watch)])) := of_decide_eq_false hb
          clear hb
          refine Op.pures 11 [0] (L' := []) (e' := [(0, .bool false)]) (by kernel_rfl) ?_
          refine Op.goto 9 (by kernel_rfl) ?_
          refine At.ret (f := Tryd.f14) (v := .bool false) (by kernel_rfl) (by kernel_rfl) ?_
          have s3193 : St h g (ids []) g [] h3160 := (s3164).drop.drop.drop.drop.drop.drop
          refine hR _ _ _ _ s3193 ⟨?_, rfl, rfl⟩
          exact (eqB (by first | rfl | contradiction | exact absurd (by decide +kernel) c3192 | exact absurd c3192 (by decide +kernel) | decide +kernel))

end Go.Proofs.YtphonojjgnbpfaaDoor.Sw
