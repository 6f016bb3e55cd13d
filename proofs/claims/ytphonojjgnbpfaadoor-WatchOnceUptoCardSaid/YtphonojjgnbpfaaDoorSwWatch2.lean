/- Walks of the functions that are named below: what each computes, as plain Lean words. Printed by a program of our own. -/
import Derived.Test.YtphonojjgnbpfaaDoorSwWatch1
namespace Go.Proofs.YtphonojjgnbpfaaDoor.Sw
open Go
set_option maxRecDepth 100000
set_option linter.unusedVariables false
set_option linter.unusedSimpArgs false
set_option linter.deprecated false


/-- (stanchion/stanchionref11.Table).Drop -/
theorem drop11 (B : World) (h : Heap) (g : GH) (hg : Sub g h) (hG : Glob g) (t : R11Table) (v_t_0 : Value) (h_t_0 : SlR g 27 kWatch v_t_0 t.All) (v_clients : Value) (clients : List Int) (h_clients : SlR g 3 (kInt .i64) v_clients clients) (h1 : t.All.length ≤ 1000000) (h2 : clients.length ≤ 1000000) :
    Spec Tryd.prog B 29 #[.agg #[v_t_0], v_clients] h g [] (fun rv g' L' => ∃ v0, rv = .agg #[v0] ∧ SlR g' 27 kWatch v0 ((⟨t.All.filter (fun w => !qDrop clients w)⟩ : R11Table).All) ∧ L' = []) := by
  obtain ⟨a_t_0, n_t_0, rfl⟩ := h_t_0.form
  obtain ⟨a_clients, n_clients, rfl⟩ := h_clients.form
  refine Spec.of_at (f := Tryd.f29) (e := [(0, .agg #[.slice a_t_0 t.All.length n_t_0]), (1, .slice a_clients clients.length n_clients)]) Tryd.func29 (by kernel_rfl) (Nat.le_of_ble_eq_true (by kernel_rfl)) (by kernel_rfl) (by kernel_rfl) ?_
  intro R hR
  have s0 := St.init hg
  refine At.reg (L := [(0, false), (1, false)]) (by kernel_rfl) ?_
  refine Op.box (T := 36) (x := (.tmp 0)) (d := 2) (cs := #[.slice a_t_0 t.All.length n_t_0]) (by kernel_rfl) (by kernel_rfl) s0 ?_
  intro b1908 h1909 s1910
  refine Op.alloc (T := 36) (dst := 4) (cs := #[.slice none 0 0]) (by kernel_rfl) (by kernel_rfl) s1910 ?_
  intro b1911 h1912 s1913
  refine Op.goto 1 (by kernel_rfl) ?_
  refine At.reg (L := [(0, false), (1, false)]) (by kernel_rfl) ?_
  refine Op.lit (T := 22) (len := 0) (parts := #[]) (dst := 9) (E := 27) (ps := []) (cs := #[]) (by kernel_rfl) (by kernel_rfl) (by kernel_rfl) s1913 ?_
  intro b1914 h1915 s1916
  refine Op.pures 1 [1, 2, 4, 5] (L' := []) (e' := [(1, .slice a_clients clients.length n_clients), (2, .pointer (some ⟨b1908, 0, none⟩)), (4, .pointer (some ⟨b1911, 0, none⟩)), (5, .slice (some ⟨b1914, 0, none⟩) 0 0)]) (by kernel_rfl) ?_
  refine Op.goto 2 (by kernel_rfl) ?_
  refine At.reg (L := [(0, false)]) (by kernel_rfl) ?_
  refine Op.pures 1 [1, 2, 4, 5, 6] (L' := []) (e' := [(1, .slice a_clients clients.length n_clients), (2, .pointer (some ⟨b1908, 0, none⟩)), (4, .pointer (some ⟨b1911, 0, none⟩)), (5, .slice (some ⟨b1914, 0, none⟩) 0 0), (6, .int .i64 0)]) (by kernel_rfl) ?_
  refine Op.goto 3 (by kernel_rfl) ?_
  have loop3 : ∀ (m : Nat) (out : List Watch) (i : Int) (a1917 : Option Addr) (n1918 : Nat) (ch1919 : Chunk) (h1921 : Heap) (hm : t.All.length - i.toNat < m) (h0 : 0 ≤ i) (h3 : i ≤ t.All.length) (ho : out = (t.All.take i.toNat).filter (fun w => !clients.any (fun c => decide (c = w.Client)))) (R1920 : Row 27 kWatch g (.slice a1917 out.length n1918) out ch1919)   (s_loop31920 : St h g (ids []) g [ch1919, [(b1911, Obj.cells #[.slice none 0 0] 36 (0, 0))], [(b1908, Obj.cells #[.slice a_t_0 t.All.length n_t_0] 36 (0, 0))]] h1921), At (fctx Tryd.prog B 29 Tryd.f29 R) [] 3 [(1, .slice a_clients clients.length n_clients), (2, .pointer (some ⟨b1908, 0, none⟩)), (4, .pointer (some ⟨b1911, 0, none⟩)), (5, .slice a1917 out.length n1918), (6, .int .i64 i)] h1921 := by
    intro m; induction m with
    | zero => intros; omega
    | succ m ih3 =>
      intro out i a1917 n1918 ch1919 h1921 hm h0 h3 ho R1920 s_loop31920
      refine At.reg (L := [(0, false), (1, false), (2, false), (3, false), (4, false)]) (by kernel_rfl) ?_
      refine Op.pures 2 [1, 2, 4, 5, 6, 10, 11] (L' := [(2, false), (3, false), (4, false)]) (e' := [(1, .slice a_clients clients.length n_clients), (2, .pointer (some ⟨b1908, 0, none⟩)), (4, .pointer (some ⟨b1911, 0, none⟩)), (5, .slice a1917 out.length n1918), (6, .int .i64 i), (10, .int .i64 i), (11, .pointer (some ⟨b1908, 0, none⟩))]) (by kernel_rfl) ?_
      refine Op.load (T := 22) (x := (.tmp 11)) (o := 0) (d := 12) (n := 1) (v := .slice a_t_0 t.All.length n_t_0) (by kernel_rfl) (by kernel_rfl) (by kernel_rfl) (s_loop31920.chunk 2 rfl) (by kernel_rfl) ?_
      refine Op.pures 2 [1, 2, 4, 5, 6, 14] (L' := []) (e' := [(1, .slice a_clients clients.length n_clients), (2, .pointer (some ⟨b1908, 0, none⟩)), (4, .pointer (some ⟨b1911, 0, none⟩)), (5, .slice a1917 out.length n1918), (6, .int .i64 i), (14, .bool (decide (i < (t.All.length : Int))))]) (by kernel_rfl) ?_
      refine Op.goto 4 (by kernel_rfl) ?_
      refine At.cond (b := decide (i < (t.All.length : Int))) (c := .tmp 14) (by kernel_rfl) (by kernel_rfl) (by kernel_rfl) 5 15 (by kernel_rfl) (by kernel_rfl) (fun hb => ?_) (fun hb => ?_)
      · have c1922 : i < (t.All.length : Int) := of_decide_eq_true hb
        clear hb
        refine At.keep [1, 2, 4, 5, 6] ?_; show At _ _ _ [(1, .slice a_clients clients.length n_clients), (2, .pointer (some ⟨b1908, 0, none⟩)), (4, .pointer (some ⟨b1911, 0, none⟩)), (5, .slice a1917 out.length n1918), (6, .int .i64 i)] _
        refine At.reg (L := [(0, false)]) (by kernel_rfl) ?_
        refine Op.pures 1 [1, 2, 4, 5, 6, 7] (L' := []) (e' := [(1, .slice a_clients clients.length n_clients), (2, .pointer (some ⟨b1908, 0, none⟩)), (4, .pointer (some ⟨b1911, 0, none⟩)), (5, .slice a1917 out.length n1918), (6, .int .i64 i), (7, .bool false)]) (by kernel_rfl) ?_
        refine Op.goto 6 (by kernel_rfl) ?_
        refine At.reg (L := [(0, false)]) (by kernel_rfl) ?_
        refine Op.pures 1 [1, 2, 4, 5, 6, 7, 8] (L' := []) (e' := [(1, .slice a_clients clients.length n_clients), (2, .pointer (some ⟨b1908, 0, none⟩)), (4, .pointer (some ⟨b1911, 0, none⟩)), (5, .slice a1917 out.length n1918), (6, .int .i64 i), (7, .bool false), (8, .int .i64 0)]) (by kernel_rfl) ?_
        refine Op.goto 7 (by kernel_rfl) ?_
        have loop7 : ∀ (m : Nat) (inn : Bool) (k : Int) (h1923 : Heap) (hm : clients.length - k.toNat < m) (h4 : 0 ≤ k) (h5 : k ≤ clients.length) (hin : inn = (clients.take k.toNat).any (fun c => decide (c = (atW t.All i).Client)))    (s_loop71922 : St h g (ids []) g [ch1919, [(b1911, Obj.cells #[.slice none 0 0] 36 (0, 0))], [(b1908, Obj.cells #[.slice a_t_0 t.All.length n_t_0] 36 (0, 0))]] h1923), At (fctx Tryd.prog B 29 Tryd.f29 R) [] 7 [(1, .slice a_clients clients.length n_clients), (2, .pointer (some ⟨b1908, 0, none⟩)), (4, .pointer (some ⟨b1911, 0, none⟩)), (5, .slice a1917 out.length n1918), (6, .int .i64 i), (7, .bool inn), (8, .int .i64 k)] h1923 := by
          intro m; induction m with
          | zero => intros; omega
          | succ m ih7 =>
            intro inn k h1923 hm h4 h5 hin s_loop71922
            refine At.reg (L := [(0, false), (1, false), (2, false), (3, false)]) (by kernel_rfl) ?_
            refine Op.pures 4 [1, 2, 4, 5, 6, 7, 8, 20] (L' := []) (e' := [(1, .slice a_clients clients.length n_clients), (2, .pointer (some ⟨b1908, 0, none⟩)), (4, .pointer (some ⟨b1911, 0, none⟩)), (5, .slice a1917 out.length n1918), (6, .int .i64 i), (7, .bool inn), (8, .int .i64 k), (20, .bool (decide (k < (clients.length : Int))))]) (by kernel_rfl) ?_
            refine Op.goto 8 (by kernel_rfl) ?_
            refine At.cond (b := decide (k < (clients.length : Int))) (c := .tmp 20) (by kernel_rfl) (by kernel_rfl) (by kernel_rfl) 9 11 (by kernel_rfl) (by kernel_rfl) (fun hb => ?_) (fun hb => ?_)
            · have c1924 : k < (clients.length : Int) := of_decide_eq_true hb
              clear hb
              refine At.keep [1, 2, 4, 5, 6, 7, 8] ?_; show At _ _ _ [(1, .slice a_clients clients.length n_clients), (2, .pointer (some ⟨b1908, 0, none⟩)), (4, .pointer (some ⟨b1911, 0, none⟩)), (5, .slice a1917 out.length n1918), (6, .int .i64 i), (7, .bool inn), (8, .int .i64 k)] _
              refine At.draw (by kernel_rfl) (fun _ => False) [(0, true), (1, true), (2, true), (3, true), (4, true), (6, true), (8, true), (5, true), (7, false), (9, true), (10, true), (11, false), (12, true), (13, true), (14, true)] (by kernel_rfl) ?_
              refine Op.pures 2 [1, 2, 4, 5, 6, 7, 8, 24] (L' := [(2, true), (3, true), (4, true), (6, true), (8, true), (5, true), (7, false), (9, true), (10, true), (11, false), (12, true), (13, true), (14, true)]) (e' := [(1, .slice a_clients clients.length n_clients), (2, .pointer (some ⟨b1908, 0, none⟩)), (4, .pointer (some ⟨b1911, 0, none⟩)), (5, .slice a1917 out.length n1918), (6, .int .i64 i), (7, .bool inn), (8, .int .i64 k), (24, .bool inn)]) (by kernel_rfl) ?_
              refine Op.ways (b := inn) ⟨fun hb => ?_, fun hb => ?_⟩
              · refine Op.cast (e' := [(1, .slice a_clients clients.length n_clients), (2, .pointer (some ⟨b1908, 0, none⟩)), (4, .pointer (some ⟨b1911, 0, none⟩)), (5, .slice a1917 out.length n1918), (6, .int .i64 i), (7, .bool true), (8, .int .i64 k), (24, .bool true)]) (by rw [hb]) ?_
                have c1925 : inn = true := hb
                clear hb
                refine Op.pures 13 [1, 2, 4, 5, 6, 7, 8] (L' := []) (e' := [(1, .slice a_clients clients.length n_clients), (2, .pointer (some ⟨b1908, 0, none⟩)), (4, .pointer (some ⟨b1911, 0, none⟩)), (5, .slice a1917 out.length n1918), (6, .int .i64 i), (7, .bool true), (8, .int .i64 k)]) (by kernel_rfl) ?_
                refine Op.goto 10 (by kernel_rfl) ?_
                refine At.reg (L := [(0, false), (1, false), (2, false)]) (by kernel_rfl) ?_
                refine Op.pures 1 [1, 2, 4, 5, 6, 7, 8, 21] (L' := [(1, false), (2, false)]) (e' := [(1, .slice a_clients clients.length n_clients), (2, .pointer (some ⟨b1908, 0, none⟩)), (4, .pointer (some ⟨b1911, 0, none⟩)), (5, .slice a1917 out.length n1918), (6, .int .i64 i), (7, .bool true), (8, .int .i64 k), (21, .int .i64 k)]) (by kernel_rfl) ?_
                refine Op.val (dst := some 22) (v := .int .i64 (IntKind.wrap .i64 (k + 1))) (v' := .int .i64 (k + 1)) (by kernel_rfl) (wrapEq_i64 (by first | omega | (have := filtLen ho; omega) | (have := filtLen ho; simp only [List.length_cons, List.length_nil]; omega)) (by first | omega | (have := filtLen ho; omega) | (have := filtLen ho; simp only [List.length_cons, List.length_nil]; omega))) ?_
                refine Op.pures 1 [1, 2, 4, 5, 6, 7, 8] (L' := []) (e' := [(1, .slice a_clients clients.length n_clients), (2, .pointer (some ⟨b1908, 0, none⟩)), (4, .pointer (some ⟨b1911, 0, none⟩)), (5, .slice a1917 out.length n1918), (6, .int .i64 i), (7, .bool true), (8, .int .i64 (k + 1))]) (by kernel_rfl) ?_
                refine Op.goto 7 (by kernel_rfl) ?_
                exact ih7  true (k + 1) _ (by omega) (by first | omega | (have := filtLen ho; omega) | (have := filtLen ho; simp only [List.length_cons, List.length_nil]; omega)) (by first | omega | (have := filtLen ho; omega) | (have := filtLen ho; simp only [List.length_cons, List.length_nil]; omega)) (by first | exact any_t hin h4 (by assumption) | exact any_s hin (by assumption) h4 {hx0} (by rw [atW_eq {hx1}]; exact beq_dec _ _))  s_loop71922
              · refine Op.cast (e' := [(1, .slice a_clients clients.length n_clients), (2, .pointer (some ⟨b1908, 0, none⟩)), (4, .pointer (some ⟨b1911, 0, none⟩)), (5, .slice a1917 out.length n1918), (6, .int .i64 i), (7, .bool false), (8, .int .i64 k), (24, .bool false)]) (by rw [hb]) ?_
                have c1926 : inn = false := hb
                clear hb
                refine Op.pures 2 [1, 2, 4, 5, 6, 7, 8, 24, 25, 26] (L' := [(4, true), (6, true), (8, true), (5, true), (7, false), (9, true), (10, true), (11, false), (12, true), (13, true), (14, true)]) (e' := [(1, .slice a_clients clients.length n_clients), (2, .pointer (some ⟨b1908, 0, none⟩)), (4, .pointer (some ⟨b1911, 0, none⟩)), (5, .slice a1917 out.length n1918), (6, .int .i64 i), (7, .bool false), (8, .int .i64 k), (24, .bool false), (25, .slice a_clients clients.length n_clients), (26, .int .i64 k)]) (by kernel_rfl) ?_
                obtain ⟨x1927, hx1928⟩ : ∃ c, clients[(k : Int).toNat]? = some c := ⟨_, List.getElem?_eq_getElem (by first | omega | (have := filtLen ho; omega) | (have := filtLen ho; simp only [List.length_cons, List.length_nil]; omega))⟩
                obtain ⟨b1929, o1930, cu1931, fz1932, ha1933, hb1934, hk1935⟩ := SlR.at_ h_clients _ hx1928
                cases ha1933
                refine Op.idx (T := 38) (E := 3) (sz := 1) (by_ := 8) (n := clients.length) (c := n_clients) (k := .i64) (x := (.tmp 25)) (ix := (.tmp 26)) (dst := 27) (bk := b1929) (o := o1930) (m := k) (by kernel_rfl) (by kernel_rfl) (by kernel_rfl) (by kernel_rfl) (by first | omega | (have := filtLen ho; omega) | (have := filtLen ho; simp only [List.length_cons, List.length_nil]; omega)) (by first | omega | (have := filtLen ho; omega) | (have := filtLen ho; simp only [List.length_cons, List.length_nil]; omega)) ?_
                replace hk1935 : cut _ _ _ = [.int .i64 x1927] := hk1935
                refine Op.pures 2 [1, 2, 4, 5, 6, 7, 8, 24, 27, 29, 31] (L' := [(5, true), (7, false), (9, true), (10, true), (11, false), (12, true), (13, true), (14, true)]) (e' := [(1, .slice (some ⟨b1929, o1930, none⟩) clients.length n_clients), (2, .pointer (some ⟨b1908, 0, none⟩)), (4, .pointer (some ⟨b1911, 0, none⟩)), (5, .slice a1917 out.length n1918), (6, .int .i64 i), (7, .bool false), (8, .int .i64 k), (24, .bool false), (27, .pointer (some ⟨b1929, o1930 + (k : Int).toNat * 1, none⟩)), (29, .pointer (some ⟨b1908, 0, none⟩)), (31, .int .i64 i)]) (by kernel_rfl) ?_
                refine Op.loadF (T := 3) (x := (.tmp 27)) (o := o1930 + (k : Int).toNat * 1) (d := 28) (n := 1) (v := .int .i64 x1927) (by kernel_rfl) (by kernel_rfl) (by kernel_rfl) (fun h => h) (s_loop71922.sub _ _ hb1934) (cut_get hk1935 0 rfl) ?_
                refine Op.load (T := 22) (x := (.tmp 29)) (o := 0) (d := 30) (n := 1) (v := .slice a_t_0 t.All.length n_t_0) (by kernel_rfl) (by kernel_rfl) (by kernel_rfl) (s_loop71922.chunk 2 rfl) (by kernel_rfl) ?_
                obtain ⟨x1936, hx1937⟩ : ∃ c, t.All[(i : Int).toNat]? = some c := ⟨_, List.getElem?_eq_getElem (by first | omega | (have := filtLen ho; omega) | (have := filtLen ho; simp only [List.length_cons, List.length_nil]; omega))⟩
                obtain ⟨b1938, o1939, cu1940, fz1941, ha1942, hb1943, hk1944⟩ := SlR.at_ h_t_0 _ hx1937
                cases ha1942
                refine Op.idx (T := 22) (E := 27) (sz := 3) (by_ := 32) (n := t.All.length) (c := n_t_0) (k := .i64) (x := (.tmp 30)) (ix := (.tmp 31)) (dst := 32) (bk := b1938) (o := o1939) (m := i) (by kernel_rfl) (by kernel_rfl) (by kernel_rfl) (by kernel_rfl) (by first | omega | (have := filtLen ho; omega) | (have := filtLen ho; simp only [List.length_cons, List.length_nil]; omega)) (by first | omega | (have := filtLen ho; omega) | (have := filtLen ho; simp only [List.length_cons, List.length_nil]; omega)) ?_
                replace hk1944 : cut _ _ _ = [.int .i64 x1936.Client, .int .i64 x1936.Kind, .string (mkS x1936.Path)] := hk1944
                refine Op.pures 1 [1, 2, 4, 5, 6, 7, 8, 24, 28, 33] (L' := [(11, false), (12, true), (13, true), (14, true)]) (e' := [(1, .slice (some ⟨b1929, o1930, none⟩) clients.length n_clients), (2, .pointer (some ⟨b1908, 0, none⟩)), (4, .pointer (some ⟨b1911, 0, none⟩)), (5, .slice a1917 out.length n1918), (6, .int .i64 i), (7, .bool false), (8, .int .i64 k), (24, .bool false), (28, .int .i64 x1927), (33, .pointer (some ⟨b1938, o1939 + (i : Int).toNat * 3, none⟩))]) (by kernel_rfl) ?_
                refine Op.load (T := 3) (x := (.tmp 33)) (o := o1939 + (i : Int).toNat * 3) (d := 34) (n := 1) (v := .int .i64 x1936.Client) (by kernel_rfl) (by kernel_rfl) (by kernel_rfl) (s_loop71922.sub _ _ hb1943) (cut_get hk1944 0 rfl) ?_
                refine Op.pures 3 [1, 2, 4, 5, 6, 7, 8] (L' := []) (e' := [(1, .slice (some ⟨b1929, o1930, none⟩) clients.length n_clients), (2, .pointer (some ⟨b1908, 0, none⟩)), (4, .pointer (some ⟨b1911, 0, none⟩)), (5, .slice a1917 out.length n1918), (6, .int .i64 i), (7, .bool (x1927 == x1936.Client)), (8, .int .i64 k)]) (by kernel_rfl) ?_
                refine Op.goto 10 (by kernel_rfl) ?_
                refine At.reg (L := [(0, false), (1, false), (2, false)]) (by kernel_rfl) ?_
                refine Op.pures 1 [1, 2, 4, 5, 6, 7, 8, 21] (L' := [(1, false), (2, false)]) (e' := [(1, .slice (some ⟨b1929, o1930, none⟩) clients.length n_clients), (2, .pointer (some ⟨b1908, 0, none⟩)), (4, .pointer (some ⟨b1911, 0, none⟩)), (5, .slice a1917 out.length n1918), (6, .int .i64 i), (7, .bool (x1927 == x1936.Client)), (8, .int .i64 k), (21, .int .i64 k)]) (by kernel_rfl) ?_
                refine Op.val (dst := some 22) (v := .int .i64 (IntKind.wrap .i64 (k + 1))) (v' := .int .i64 (k + 1)) (by kernel_rfl) (wrapEq_i64 (by first | omega | (have := filtLen ho; omega) | (have := filtLen ho; simp only [List.length_cons, List.length_nil]; omega)) (by first | omega | (have := filtLen ho; omega) | (have := filtLen ho; simp only [List.length_cons, List.length_nil]; omega))) ?_
                refine Op.pures 1 [1, 2, 4, 5, 6, 7, 8] (L' := []) (e' := [(1, .slice (some ⟨b1929, o1930, none⟩) clients.length n_clients), (2, .pointer (some ⟨b1908, 0, none⟩)), (4, .pointer (some ⟨b1911, 0, none⟩)), (5, .slice a1917 out.length n1918), (6, .int .i64 i), (7, .bool (x1927 == x1936.Client)), (8, .int .i64 (k + 1))]) (by kernel_rfl) ?_
                refine Op.goto 7 (by kernel_rfl) ?_
                exact ih7  (x1927 == x1936.Client) (k + 1) _ (by omega) (by first | omega | (have := filtLen ho; omega) | (have := filtLen ho; simp only [List.length_cons, List.length_nil]; omega)) (by first | omega | (have := filtLen ho; omega) | (have := filtLen ho; simp only [List.length_cons, List.length_nil]; omega)) (by first | exact any_t hin h4 (by assumption) | exact any_s hin (by assumption) h4 hx1928 (by rw [atW_eq hx1937]; exact beq_dec _ _))  s_loop71922
            · have c1945 : ¬ (k < (clients.length : Int)) := of_decide_eq_false hb
              clear hb
              refine At.keep [1, 2, 4, 5, 6, 7] ?_; show At _ _ _ [(1, .slice a_clients clients.length n_clients), (2, .pointer (some ⟨b1908, 0, none⟩)), (4, .pointer (some ⟨b1911, 0, none⟩)), (5, .slice a1917 out.length n1918), (6, .int .i64 i), (7, .bool inn)] _
              refine At.reg (L := [(0, false), (1, false)]) (by kernel_rfl) ?_
              refine Op.pures 2 [1, 2, 4, 5, 6, 38] (L' := []) (e' := [(1, .slice a_clients clients.length n_clients), (2, .pointer (some ⟨b1908, 0, none⟩)), (4, .pointer (some ⟨b1911, 0, none⟩)), (5, .slice a1917 out.length n1918), (6, .int .i64 i), (38, .bool (!inn))]) (by kernel_rfl) ?_
              refine Op.goto 12 (by kernel_rfl) ?_
              refine At.cond (b := !inn) (c := .tmp 38) (by kernel_rfl) (by kernel_rfl) (by kernel_rfl) 13 14 (by kernel_rfl) (by kernel_rfl) (fun hb => ?_) (fun hb => ?_)
              · have c1946 : inn = false := (notT hb)
                clear hb
                refine At.keep [1, 2, 4, 5, 6] ?_; show At _ _ _ [(1, .slice a_clients clients.length n_clients), (2, .pointer (some ⟨b1908, 0, none⟩)), (4, .pointer (some ⟨b1911, 0, none⟩)), (5, .slice a1917 out.length n1918), (6, .int .i64 i)] _
                refine At.reg (L := [(0, false), (1, false), (2, false), (3, false), (4, false), (5, false), (6, false), (7, false), (8, false)]) (by kernel_rfl) ?_
                refine Op.pures 2 [1, 2, 4, 5, 6, 39, 40] (L' := [(2, false), (3, false), (4, false), (5, false), (6, false), (7, false), (8, false)]) (e' := [(1, .slice a_clients clients.length n_clients), (2, .pointer (some ⟨b1908, 0, none⟩)), (4, .pointer (some ⟨b1911, 0, none⟩)), (5, .slice a1917 out.length n1918), (6, .int .i64 i), (39, .slice a1917 out.length n1918), (40, .pointer (some ⟨b1908, 0, none⟩))]) (by kernel_rfl) ?_
                refine Op.load (T := 22) (x := (.tmp 40)) (o := 0) (d := 41) (n := 1) (v := .slice a_t_0 t.All.length n_t_0) (by kernel_rfl) (by kernel_rfl) (by kernel_rfl) (s_loop71922.chunk 2 rfl) (by kernel_rfl) ?_
                refine Op.pures 1 [1, 2, 4, 5, 6, 39, 41, 42] (L' := [(4, false), (5, false), (6, false), (7, false), (8, false)]) (e' := [(1, .slice a_clients clients.length n_clients), (2, .pointer (some ⟨b1908, 0, none⟩)), (4, .pointer (some ⟨b1911, 0, none⟩)), (5, .slice a1917 out.length n1918), (6, .int .i64 i), (39, .slice a1917 out.length n1918), (41, .slice a_t_0 t.All.length n_t_0), (42, .int .i64 i)]) (by kernel_rfl) ?_
                obtain ⟨x1947, hx1948⟩ : ∃ c, t.All[(i : Int).toNat]? = some c := ⟨_, List.getElem?_eq_getElem (by first | omega | (have := filtLen ho; omega) | (have := filtLen ho; simp only [List.length_cons, List.length_nil]; omega))⟩
                obtain ⟨b1949, o1950, cu1951, fz1952, ha1953, hb1954, hk1955⟩ := SlR.at_ h_t_0 _ hx1948
                cases ha1953
                refine Op.idx (T := 22) (E := 27) (sz := 3) (by_ := 32) (n := t.All.length) (c := n_t_0) (k := .i64) (x := (.tmp 41)) (ix := (.tmp 42)) (dst := 43) (bk := b1949) (o := o1950) (m := i) (by kernel_rfl) (by kernel_rfl) (by kernel_rfl) (by kernel_rfl) (by first | omega | (have := filtLen ho; omega) | (have := filtLen ho; simp only [List.length_cons, List.length_nil]; omega)) (by first | omega | (have := filtLen ho; omega) | (have := filtLen ho; simp only [List.length_cons, List.length_nil]; omega)) ?_
                replace hk1955 : cut _ _ _ = [.int .i64 x1947.Client, .int .i64 x1947.Kind, .string (mkS x1947.Path)] := hk1955
                refine Op.loadA (T := 27) (x := (.tmp 43)) (o := o1950 + (i : Int).toNat * 3) (d := 44) (n := 3) (vs := [.int .i64 x1947.Client, .int .i64 x1947.Kind, .string (mkS x1947.Path)]) (by kernel_rfl) (by kernel_rfl) (by kernel_rfl) (s_loop71922.sub _ _ hb1954) (hk1955) rfl ?_
                refine Op.lit (T := 22) (len := 1) (parts := #[(0, (.tmp 44))]) (dst := 45) (E := 27) (ps := [(0, .agg #[.int .i64 x1947.Client, .int .i64 x1947.Kind, .string (mkS x1947.Path)])]) (cs := #[.int .i64 x1947.Client, .int .i64 x1947.Kind, .string (mkS x1947.Path)]) (by kernel_rfl) (by kernel_rfl) (by kernel_rfl) s_loop71922 ?_
                intro b1956 h1957 s1958
                refine Op.append (x := (.tmp 39)) (y := (.tmp 45)) (t := 22) (t' := 22) (dst := 46) (E := 27) (by_ := 32) (d := kWatch) (by kernel_rfl) (by kernel_rfl) (by kernel_rfl) (by kernel_rfl) rfl R1920 s1958 1 rfl (Src.lit (m := 1) (sz := 3) (s1958.chunk 0 rfl) (news := [.int .i64 x1947.Client, .int .i64 x1947.Kind, .string (mkS x1947.Path)]) rfl rfl (by simp [Value.oneCell']) _) (ys := [x1947]) (⟨_, _, rfl, rfl, Reads.nil⟩) rfl (by first | omega | (have := filtLen ho; omega) | (have := filtLen ho; simp only [List.length_cons, List.length_nil]; omega)) (fun _ _ _ => trivial) ?_
                intro v1959 ch1960 h1961 R1962 s1963 nn1964
                obtain ⟨a1965, n1966, rfl⟩ := R1962.form
                have s1967 := (s1963.front 0 rfl).drop
                refine Op.pures 1 [1, 2, 4, 5, 6] (L' := []) (e' := [(1, .slice a_clients clients.length n_clients), (2, .pointer (some ⟨b1908, 0, none⟩)), (4, .pointer (some ⟨b1911, 0, none⟩)), (5, .slice a1965 ((out ++ ([x1947])).length) n1966), (6, .int .i64 i)]) (by kernel_rfl) ?_
                refine Op.goto 14 (by kernel_rfl) ?_
                refine At.reg (L := [(0, false), (1, false), (2, false)]) (by kernel_rfl) ?_
                refine Op.pures 1 [1, 2, 4, 5, 6, 15] (L' := [(1, false), (2, false)]) (e' := [(1, .slice a_clients clients.length n_clients), (2, .pointer (some ⟨b1908, 0, none⟩)), (4, .pointer (some ⟨b1911, 0, none⟩)), (5, .slice a1965 ((out ++ ([x1947])).length) n1966), (6, .int .i64 i), (15, .int .i64 i)]) (by kernel_rfl) ?_
                refine Op.val (dst := some 16) (v := .int .i64 (IntKind.wrap .i64 (i + 1))) (v' := .int .i64 (i + 1)) (by kernel_rfl) (wrapEq_i64 (by first | omega | (have := filtLen ho; omega) | (have := filtLen ho; simp only [List.length_cons, List.length_nil]; omega)) (by first | omega | (have := filtLen ho; omega) | (have := filtLen ho; simp only [List.length_cons, List.length_nil]; omega))) ?_
                refine Op.pures 1 [1, 2, 4, 5, 6] (L' := []) (e' := [(1, .slice a_clients clients.length n_clients), (2, .pointer (some ⟨b1908, 0, none⟩)), (4, .pointer (some ⟨b1911, 0, none⟩)), (5, .slice a1965 ((out ++ ([x1947])).length) n1966), (6, .int .i64 (i + 1))]) (by kernel_rfl) ?_
                refine Op.goto 3 (by kernel_rfl) ?_
                exact ih3  (out ++ ([x1947])) (i + 1) _ _ _ _ (by omega) (by first | omega | (have := filtLen ho; omega) | (have := filtLen ho; simp only [List.length_cons, List.length_nil]; omega)) (by first | omega | (have := filtLen ho; omega) | (have := filtLen ho; simp only [List.length_cons, List.length_nil]; omega)) (by first | exact drop_in ho h0 (by assumption) hin (by assumption) (by assumption) | exact drop_out ho h0 (by assumption) hin (by assumption) (by assumption)) R1962 s1967
              · have c1968 : inn = true := (notF hb)
                clear hb
                refine At.keep [1, 2, 4, 5, 6] ?_; show At _ _ _ [(1, .slice a_clients clients.length n_clients), (2, .pointer (some ⟨b1908, 0, none⟩)), (4, .pointer (some ⟨b1911, 0, none⟩)), (5, .slice a1917 out.length n1918), (6, .int .i64 i)] _
                refine At.reg (L := [(0, false), (1, false), (2, false)]) (by kernel_rfl) ?_
                refine Op.pures 1 [1, 2, 4, 5, 6, 15] (L' := [(1, false), (2, false)]) (e' := [(1, .slice a_clients clients.length n_clients), (2, .pointer (some ⟨b1908, 0, none⟩)), (4, .pointer (some ⟨b1911, 0, none⟩)), (5, .slice a1917 out.length n1918), (6, .int .i64 i), (15, .int .i64 i)]) (by kernel_rfl) ?_
                refine Op.val (dst := some 16) (v := .int .i64 (IntKind.wrap .i64 (i + 1))) (v' := .int .i64 (i + 1)) (by kernel_rfl) (wrapEq_i64 (by first | omega | (have := filtLen ho; omega) | (have := filtLen ho; simp only [List.length_cons, List.length_nil]; omega)) (by first | omega | (have := filtLen ho; omega) | (have := filtLen ho; simp only [List.length_cons, List.length_nil]; omega))) ?_
                refine Op.pures 1 [1, 2, 4, 5, 6] (L' := []) (e' := [(1, .slice a_clients clients.length n_clients), (2, .pointer (some ⟨b1908, 0, none⟩)), (4, .pointer (some ⟨b1911, 0, none⟩)), (5, .slice a1917 out.length n1918), (6, .int .i64 (i + 1))]) (by kernel_rfl) ?_
                refine Op.goto 3 (by kernel_rfl) ?_
                exact ih3  out (i + 1) _ _ _ _ (by omega) (by first | omega | (have := filtLen ho; omega) | (have := filtLen ho; simp only [List.length_cons, List.length_nil]; omega)) (by first | omega | (have := filtLen ho; omega) | (have := filtLen ho; simp only [List.length_cons, List.length_nil]; omega)) (by first | exact drop_in ho h0 (by assumption) hin (by assumption) (by assumption) | exact drop_out ho h0 (by assumption) hin (by assumption) (by assumption)) R1920 s_loop71922
        exact loop7 _  false 0 _ (Nat.lt_succ_self _) (by first | omega | (have := filtLen ho; omega) | (have := filtLen ho; simp only [List.length_cons, List.length_nil]; omega)) (by first | omega | (have := filtLen ho; omega) | (have := filtLen ho; simp only [List.length_cons, List.length_nil]; omega)) (by rfl)  s_loop31920
      · have c1969 : ¬ (i < (t.All.length : Int)) := of_decide_eq_false hb
        clear hb
        refine At.keep [2, 4, 5] ?_; show At _ _ _ [(2, .pointer (some ⟨b1908, 0, none⟩)), (4, .pointer (some ⟨b1911, 0, none⟩)), (5, .slice a1917 out.length n1918)] _
        refine At.reg (L := [(0, false), (1, false), (2, false)]) (by kernel_rfl) ?_
        refine Op.pures 2 [2, 4, 47, 48] (L' := [(2, false)]) (e' := [(2, .pointer (some ⟨b1908, 0, none⟩)), (4, .pointer (some ⟨b1911, 0, none⟩)), (47, .slice a1917 out.length n1918), (48, .pointer (some ⟨b1908, 0, none⟩))]) (by kernel_rfl) ?_
        refine Op.store (T := 22) (x := (.tmp 48)) (y := (.tmp 47)) (b := b1908) (o := 0) (vs := [.slice a1917 out.length n1918]) (a? := false) (n := 1) (by kernel_rfl) (by kernel_rfl) (by kernel_rfl) (by kernel_rfl) rfl (by simp [Value.oneCell']) s_loop31920 2 rfl (Nat.le_of_ble_eq_true (by kernel_rfl)) (cs := #[.slice a_t_0 t.All.length n_t_0]) (cs' := #[.slice a1917 out.length n1918]) (by kernel_rfl) (fun _ => trivial) ?_
        intro h1970 s1971
        refine Op.goto 16 (by kernel_rfl) ?_
        refine At.reg (L := [(0, false), (1, false)]) (by kernel_rfl) ?_
        refine Op.loadA (T := 36) (x := (.tmp 2)) (o := 0) (d := 49) (n := 1) (vs := [.slice a1917 out.length n1918]) (by kernel_rfl) (by kernel_rfl) (by kernel_rfl) (s1971.chunk 2 rfl) (by kernel_rfl) rfl ?_
        refine Op.store (T := 36) (x := (.tmp 4)) (y := (.tmp 49)) (b := b1911) (o := 0) (vs := [.slice a1917 out.length n1918]) (a? := true) (n := 1) (by kernel_rfl) (by kernel_rfl) (by kernel_rfl) (by kernel_rfl) rfl (by simp [Value.oneCell']) s1971 1 rfl (Nat.le_of_ble_eq_true (by kernel_rfl)) (cs := #[.slice none 0 0]) (cs' := #[.slice a1917 out.length n1918]) (by kernel_rfl) (fun _ => trivial) ?_
        intro h1972 s1973
        refine Op.goto 17 (by kernel_rfl) ?_
        obtain ⟨g1974, s1975, hle1976, hf1977⟩ := Row.freeze R1920 (s1973.front 0 rfl)
        replace hG := hG.mono hle1976
        refine At.retM (f := Tryd.f29) (vs := [.agg #[.slice a1917 out.length n1918]]) (rl := [.cell 4 36]) (v := .agg #[.slice a1917 out.length n1918]) (by kernel_rfl) (by kernel_rfl) ⟨⟨_, _, rfl, resAgg (n := 1) (by kernel_rfl) (s1975.chunk 0 rfl) (by kernel_rfl) rfl⟩, trivial⟩ rfl ?_
        have s1978 : St h g (ids []) g1974 [] h1972 := (s1975).drop.drop
        refine hR _ _ _ _ s1978 ⟨(.slice a1917 out.length n1918), ?_, ?_, rfl⟩
        · exact rfl
        · exact slEq hf1977 (by exact filt_end ho c1969)
  have R1979 : Row 27 kWatch g (.slice (some ⟨b1914, 0, none⟩) 0 0) ([] : List Watch) [(b1914, Obj.cells #[] 27 (0, 0))] := Row.lit (by kernel_rfl) (by unfold maxLen; decide) (by kernel_rfl) Reads.nil
  exact loop3 _  ([] : List Watch) 0 _ _ _ _ (Nat.lt_succ_self _) (by first | omega | (have := filtLen ho; omega) | (have := filtLen ho; simp only [List.length_cons, List.length_nil]; omega)) (by first | omega | (have := filtLen ho; omega) | (have := filtLen ho; simp only [List.length_cons, List.length_nil]; omega)) (by rfl) R1979 s1916

/-- (stanchion/stanchionref11.Table).Fire -/
theorem fire11 (B : World) (h : Heap) (g : GH) (hg : Sub g h) (hG : Glob g) (t : R11Table) (v_t_0 : Value) (h_t_0 : SlR g 27 kWatch v_t_0 t.All) (kind : Int) (v_paths : Value) (paths : List (List UInt8)) (h_paths : SlR g 9 kStr v_paths paths) (h1 : t.All.length ≤ 1000000) (h2 : paths.length ≤ 1000000) :
    Spec Tryd.prog B 24 #[.agg #[v_t_0], .int .i64 kind, v_paths] h g [] (fun rv g' L' => ∃ v0 v1, rv = .tuple #[.agg #[v0], v1] ∧ SlR g' 27 kWatch v0 ((⟨t.All.filter (fun w => !qFire kind paths w)⟩ : R11Table).All) ∧ SlR g' 27 kWatch v1 (t.All.filter (fun w => qFire kind paths w)) ∧ L' = []) := by
  obtain ⟨a_t_0, n_t_0, rfl⟩ := h_t_0.form
  obtain ⟨a_paths, n_paths, rfl⟩ := h_paths.form
  refine Spec.of_at (f := Tryd.f24) (e := [(0, .agg #[.slice a_t_0 t.All.length n_t_0]), (1, .int .i64 kind), (2, .slice a_paths paths.length n_paths)]) Tryd.func24 (by kernel_rfl) (Nat.le_of_ble_eq_true (by kernel_rfl)) (by kernel_rfl) (by kernel_rfl) ?_
  intro R hR
  have s0 := St.init hg
  refine At.reg (L := [(0, false), (1, false), (2, false)]) (by kernel_rfl) ?_
  refine Op.box (T := 36) (x := (.tmp 0)) (d := 3) (cs := #[.slice a_t_0 t.All.length n_t_0]) (by kernel_rfl) (by kernel_rfl) s0 ?_
  intro b1980 h1981 s1982
  refine Op.alloc (T := 36) (dst := 6) (cs := #[.slice none 0 0]) (by kernel_rfl) (by kernel_rfl) s1982 ?_
  intro b1983 h1984 s1985
  refine Op.pures 1 [1, 2, 3, 6] (L' := []) (e' := [(1, .int .i64 kind), (2, .slice a_paths paths.length n_paths), (3, .pointer (some ⟨b1980, 0, none⟩)), (6, .pointer (some ⟨b1983, 0, none⟩))]) (by kernel_rfl) ?_
  refine Op.goto 1 (by kernel_rfl) ?_
  refine At.reg (L := [(0, false), (1, false)]) (by kernel_rfl) ?_
  refine Op.lit (T := 22) (len := 0) (parts := #[]) (dst := 13) (E := 27) (ps := []) (cs := #[]) (by kernel_rfl) (by kernel_rfl) (by kernel_rfl) s1985 ?_
  intro b1986 h1987 s1988
  refine Op.pures 1 [1, 2, 3, 6, 8] (L' := []) (e' := [(1, .int .i64 kind), (2, .slice a_paths paths.length n_paths), (3, .pointer (some ⟨b1980, 0, none⟩)), (6, .pointer (some ⟨b1983, 0, none⟩)), (8, .slice (some ⟨b1986, 0, none⟩) 0 0)]) (by kernel_rfl) ?_
  refine Op.goto 2 (by kernel_rfl) ?_
  refine At.reg (L := [(0, false), (1, false)]) (by kernel_rfl) ?_
  refine Op.lit (T := 22) (len := 0) (parts := #[]) (dst := 14) (E := 27) (ps := []) (cs := #[]) (by kernel_rfl) (by kernel_rfl) (by kernel_rfl) s1988 ?_
  intro b1989 h1990 s1991
  refine Op.pures 1 [1, 2, 3, 6, 8, 9] (L' := []) (e' := [(1, .int .i64 kind), (2, .slice a_paths paths.length n_paths), (3, .pointer (some ⟨b1980, 0, none⟩)), (6, .pointer (some ⟨b1983, 0, none⟩)), (8, .slice (some ⟨b1986, 0, none⟩) 0 0), (9, .slice (some ⟨b1989, 0, none⟩) 0 0)]) (by kernel_rfl) ?_
  refine Op.goto 3 (by kernel_rfl) ?_
  refine At.reg (L := [(0, false)]) (by kernel_rfl) ?_
  refine Op.pures 1 [1, 2, 3, 6, 8, 9, 10] (L' := []) (e' := [(1, .int .i64 kind), (2, .slice a_paths paths.length n_paths), (3, .pointer (some ⟨b1980, 0, none⟩)), (6, .pointer (some ⟨b1983, 0, none⟩)), (8, .slice (some ⟨b1986, 0, none⟩) 0 0), (9, .slice (some ⟨b1989, 0, none⟩) 0 0), (10, .int .i64 0)]) (by kernel_rfl) ?_
  refine Op.goto 4 (by kernel_rfl) ?_
  have loop4 : ∀ (m : Nat) (out : List Watch) (lf : List Watch) (i : Int) (a1992 : Option Addr) (n1993 : Nat) (ch1994 : Chunk) (a1996 : Option Addr) (n1997 : Nat) (ch1998 : Chunk) (h2000 : Heap) (hm : t.All.length - i.toNat < m) (h0 : 0 ≤ i) (h3 : i ≤ t.All.length) (ho : out = (t.All.take i.toNat).filter (fun w => qFire kind paths w)) (hl : lf = (t.All.take i.toNat).filter (fun w => !qFire kind paths w)) (R1995 : Row 27 kWatch g (.slice a1992 out.length n1993) out ch1994) (R1999 : Row 27 kWatch g (.slice a1996 lf.length n1997) lf ch1998)   (s_loop41999 : St h g (ids []) g [ch1998, ch1994, [(b1983, Obj.cells #[.slice none 0 0] 36 (0, 0))], [(b1980, Obj.cells #[.slice a_t_0 t.All.length n_t_0] 36 (0, 0))]] h2000), At (fctx Tryd.prog B 24 Tryd.f24 R) [] 4 [(1, .int .i64 kind), (2, .slice a_paths paths.length n_paths), (3, .pointer (some ⟨b1980, 0, none⟩)), (6, .pointer (some ⟨b1983, 0, none⟩)), (8, .slice a1992 out.length n1993), (9, .slice a1996 lf.length n1997), (10, .int .i64 i)] h2000 := by
    intro m; induction m with
    | zero => intros; omega
    | succ m ih4 =>
      intro out lf i a1992 n1993 ch1994 a1996 n1997 ch1998 h2000 hm h0 h3 ho hl R1995 R1999 s_loop41999
      refine At.reg (L := [(0, false), (1, false), (2, false), (3, false), (4, false)]) (by kernel_rfl) ?_
      refine Op.pures 2 [1, 2, 3, 6, 8, 9, 10, 15, 16] (L' := [(2, false), (3, false), (4, false)]) (e' := [(1, .int .i64 kind), (2, .slice a_paths paths.length n_paths), (3, .pointer (some ⟨b1980, 0, none⟩)), (6, .pointer (some ⟨b1983, 0, none⟩)), (8, .slice a1992 out.length n1993), (9, .slice a1996 lf.length n1997), (10, .int .i64 i), (15, .int .i64 i), (16, .pointer (some ⟨b1980, 0, none⟩))]) (by kernel_rfl) ?_
      refine Op.load (T := 22) (x := (.tmp 16)) (o := 0) (d := 17) (n := 1) (v := .slice a_t_0 t.All.length n_t_0) (by kernel_rfl) (by kernel_rfl) (by kernel_rfl) (s_loop41999.chunk 3 rfl) (by kernel_rfl) ?_
      refine Op.pures 2 [1, 2, 3, 6, 8, 9, 10, 19] (L' := []) (e' := [(1, .int .i64 kind), (2, .slice a_paths paths.length n_paths), (3, .pointer (some ⟨b1980, 0, none⟩)), (6, .pointer (some ⟨b1983, 0, none⟩)), (8, .slice a1992 out.length n1993), (9, .slice a1996 lf.length n1997), (10, .int .i64 i), (19, .bool (decide (i < (t.All.length : Int))))]) (by kernel_rfl) ?_
      refine Op.goto 5 (by kernel_rfl) ?_
      refine At.cond (b := decide (i < (t.All.length : Int))) (c := .tmp 19) (by kernel_rfl) (by kernel_rfl) (by kernel_rfl) 6 17 (by kernel_rfl) (by kernel_rfl) (fun hb => ?_) (fun hb => ?_)
      · have c2001 : i < (t.All.length : Int) := of_decide_eq_true hb
        clear hb
        refine At.keep [1, 2, 3, 6, 8, 9, 10] ?_; show At _ _ _ [(1, .int .i64 kind), (2, .slice a_paths paths.length n_paths), (3, .pointer (some ⟨b1980, 0, none⟩)), (6, .pointer (some ⟨b1983, 0, none⟩)), (8, .slice a1992 out.length n1993), (9, .slice a1996 lf.length n1997), (10, .int .i64 i)] _
        refine At.reg (L := [(0, false)]) (by kernel_rfl) ?_
        refine Op.pures 1 [1, 2, 3, 6, 8, 9, 10, 11] (L' := []) (e' := [(1, .int .i64 kind), (2, .slice a_paths paths.length n_paths), (3, .pointer (some ⟨b1980, 0, none⟩)), (6, .pointer (some ⟨b1983, 0, none⟩)), (8, .slice a1992 out.length n1993), (9, .slice a1996 lf.length n1997), (10, .int .i64 i), (11, .bool false)]) (by kernel_rfl) ?_
        refine Op.goto 7 (by kernel_rfl) ?_
        refine At.reg (L := [(0, false)]) (by kernel_rfl) ?_
        refine Op.pures 1 [1, 2, 3, 6, 8, 9, 10, 11, 12] (L' := []) (e' := [(1, .int .i64 kind), (2, .slice a_paths paths.length n_paths), (3, .pointer (some ⟨b1980, 0, none⟩)), (6, .pointer (some ⟨b1983, 0, none⟩)), (8, .slice a1992 out.length n1993), (9, .slice a1996 lf.length n1997), (10, .int .i64 i), (11, .bool false), (12, .int .i64 0)]) (by kernel_rfl) ?_
        refine Op.goto 8 (by kernel_rfl) ?_
        have loop8 : ∀ (m : Nat) (inn : Bool) (k : Int) (h2002 : Heap) (hm : paths.length - k.toNat < m) (h4 : 0 ≤ k) (h5 : k ≤ paths.length) (hin : inn = (paths.take k.toNat).any (fun p => decide (p = (atW t.All i).Path)))    (s_loop82001 : St h g (ids []) g [ch1998, ch1994, [(b1983, Obj.cells #[.slice none 0 0] 36 (0, 0))], [(b1980, Obj.cells #[.slice a_t_0 t.All.length n_t_0] 36 (0, 0))]] h2002), At (fctx Tryd.prog B 24 Tryd.f24 R) [] 8 [(1, .int .i64 kind), (2, .slice a_paths paths.length n_paths), (3, .pointer (some ⟨b1980, 0, none⟩)), (6, .pointer (some ⟨b1983, 0, none⟩)), (8, .slice a1992 out.length n1993), (9, .slice a1996 lf.length n1997), (10, .int .i64 i), (11, .bool inn), (12, .int .i64 k)] h2002 := by
          intro m; induction m with
          | zero => intros; omega
          | succ m ih8 =>
            intro inn k h2002 hm h4 h5 hin s_loop82001
            refine At.reg (L := [(0, false), (1, false), (2, false), (3, false)]) (by kernel_rfl) ?_
            refine Op.pures 4 [1, 2, 3, 6, 8, 9, 10, 11, 12, 25] (L' := []) (e' := [(1, .int .i64 kind), (2, .slice a_paths paths.length n_paths), (3, .pointer (some ⟨b1980, 0, none⟩)), (6, .pointer (some ⟨b1983, 0, none⟩)), (8, .slice a1992 out.length n1993), (9, .slice a1996 lf.length n1997), (10, .int .i64 i), (11, .bool inn), (12, .int .i64 k), (25, .bool (decide (k < (paths.length : Int))))]) (by kernel_rfl) ?_
            refine Op.goto 9 (by kernel_rfl) ?_
            refine At.cond (b := decide (k < (paths.length : Int))) (c := .tmp 25) (by kernel_rfl) (by kernel_rfl) (by kernel_rfl) 10 12 (by kernel_rfl) (by kernel_rfl) (fun hb => ?_) (fun hb => ?_)
            · have c2003 : k < (paths.length : Int) := of_decide_eq_true hb
              clear hb
              refine At.keep [1, 2, 3, 6, 8, 9, 10, 11, 12] ?_; show At _ _ _ [(1, .int .i64 kind), (2, .slice a_paths paths.length n_paths), (3, .pointer (some ⟨b1980, 0, none⟩)), (6, .pointer (some ⟨b1983, 0, none⟩)), (8, .slice a1992 out.length n1993), (9, .slice a1996 lf.length n1997), (10, .int .i64 i), (11, .bool inn), (12, .int .i64 k)] _
              refine At.draw (by kernel_rfl) (fun _ => False) [(0, true), (1, true), (2, true), (3, true), (4, true), (6, true), (8, true), (5, true), (7, false), (9, true), (10, true), (11, false), (12, true), (13, true), (14, true)] (by kernel_rfl) ?_
              refine Op.pures 2 [1, 2, 3, 6, 8, 9, 10, 11, 12, 29] (L' := [(2, true), (3, true), (4, true), (6, true), (8, true), (5, true), (7, false), (9, true), (10, true), (11, false), (12, true), (13, true), (14, true)]) (e' := [(1, .int .i64 kind), (2, .slice a_paths paths.length n_paths), (3, .pointer (some ⟨b1980, 0, none⟩)), (6, .pointer (some ⟨b1983, 0, none⟩)), (8, .slice a1992 out.length n1993), (9, .slice a1996 lf.length n1997), (10, .int .i64 i), (11, .bool inn), (12, .int .i64 k), (29, .bool inn)]) (by kernel_rfl) ?_
              refine Op.ways (b := inn) ⟨fun hb => ?_, fun hb => ?_⟩
              · refine Op.cast (e' := [(1, .int .i64 kind), (2, .slice a_paths paths.length n_paths), (3, .pointer (some ⟨b1980, 0, none⟩)), (6, .pointer (some ⟨b1983, 0, none⟩)), (8, .slice a1992 out.length n1993), (9, .slice a1996 lf.length n1997), (10, .int .i64 i), (11, .bool true), (12, .int .i64 k), (29, .bool true)]) (by rw [hb]) ?_
                have c2004 : inn = true := hb
                clear hb
                refine Op.pures 13 [1, 2, 3, 6, 8, 9, 10, 11, 12] (L' := []) (e' := [(1, .int .i64 kind), (2, .slice a_paths paths.length n_paths), (3, .pointer (some ⟨b1980, 0, none⟩)), (6, .pointer (some ⟨b1983, 0, none⟩)), (8, .slice a1992 out.length n1993), (9, .slice a1996 lf.length n1997), (10, .int .i64 i), (11, .bool true), (12, .int .i64 k)]) (by kernel_rfl) ?_
                refine Op.goto 11 (by kernel_rfl) ?_
                refine At.reg (L := [(0, false), (1, false), (2, false)]) (by kernel_rfl) ?_
                refine Op.pures 1 [1, 2, 3, 6, 8, 9, 10, 11, 12, 26] (L' := [(1, false), (2, false)]) (e' := [(1, .int .i64 kind), (2, .slice a_paths paths.length n_paths), (3, .pointer (some ⟨b1980, 0, none⟩)), (6, .pointer (some ⟨b1983, 0, none⟩)), (8, .slice a1992 out.length n1993), (9, .slice a1996 lf.length n1997), (10, .int .i64 i), (11, .bool true), (12, .int .i64 k), (26, .int .i64 k)]) (by kernel_rfl) ?_
                refine Op.val (dst := some 27) (v := .int .i64 (IntKind.wrap .i64 (k + 1))) (v' := .int .i64 (k + 1)) (by kernel_rfl) (wrapEq_i64 (by first | omega | (have := filtLen ho; have := filtLen hl; omega) | (have := filtLen ho; have := filtLen hl; simp only [List.length_cons, List.length_nil]; omega)) (by first | omega | (have := filtLen ho; have := filtLen hl; omega) | (have := filtLen ho; have := filtLen hl; simp only [List.length_cons, List.length_nil]; omega))) ?_
                refine Op.pures 1 [1, 2, 3, 6, 8, 9, 10, 11, 12] (L' := []) (e' := [(1, .int .i64 kind), (2, .slice a_paths paths.length n_paths), (3, .pointer (some ⟨b1980, 0, none⟩)), (6, .pointer (some ⟨b1983, 0, none⟩)), (8, .slice a1992 out.length n1993), (9, .slice a1996 lf.length n1997), (10, .int .i64 i), (11, .bool true), (12, .int .i64 (k + 1))]) (by kernel_rfl) ?_
                refine Op.goto 8 (by kernel_rfl) ?_
                exact ih8  true (k + 1) _ (by omega) (by first | omega | (have := filtLen ho; have := filtLen hl; omega) | (have := filtLen ho; have := filtLen hl; simp only [List.length_cons, List.length_nil]; omega)) (by first | omega | (have := filtLen ho; have := filtLen hl; omega) | (have := filtLen ho; have := filtLen hl; simp only [List.length_cons, List.length_nil]; omega)) (by first | exact any_t hin h4 (by assumption) | exact any_s hin (by assumption) h4 {hx0} (by rw [atW_eq {hx1}]; exact beq_decL _ _))  s_loop82001
              · refine Op.cast (e' := [(1, .int .i64 kind), (2, .slice a_paths paths.length n_paths), (3, .pointer (some ⟨b1980, 0, none⟩)), (6, .pointer (some ⟨b1983, 0, none⟩)), (8, .slice a1992 out.length n1993), (9, .slice a1996 lf.length n1997), (10, .int .i64 i), (11, .bool false), (12, .int .i64 k), (29, .bool false)]) (by rw [hb]) ?_
                have c2005 : inn = false := hb
                clear hb
                refine Op.pures 2 [1, 2, 3, 6, 8, 9, 10, 11, 12, 29, 30, 31] (L' := [(4, true), (6, true), (8, true), (5, true), (7, false), (9, true), (10, true), (11, false), (12, true), (13, true), (14, true)]) (e' := [(1, .int .i64 kind), (2, .slice a_paths paths.length n_paths), (3, .pointer (some ⟨b1980, 0, none⟩)), (6, .pointer (some ⟨b1983, 0, none⟩)), (8, .slice a1992 out.length n1993), (9, .slice a1996 lf.length n1997), (10, .int .i64 i), (11, .bool false), (12, .int .i64 k), (29, .bool false), (30, .slice a_paths paths.length n_paths), (31, .int .i64 k)]) (by kernel_rfl) ?_
                obtain ⟨x2006, hx2007⟩ : ∃ c, paths[(k : Int).toNat]? = some c := ⟨_, List.getElem?_eq_getElem (by first | omega | (have := filtLen ho; have := filtLen hl; omega) | (have := filtLen ho; have := filtLen hl; simp only [List.length_cons, List.length_nil]; omega))⟩
                obtain ⟨b2008, o2009, cu2010, fz2011, ha2012, hb2013, hk2014⟩ := SlR.at_ h_paths _ hx2007
                cases ha2012
                refine Op.idx (T := 37) (E := 9) (sz := 1) (by_ := 16) (n := paths.length) (c := n_paths) (k := .i64) (x := (.tmp 30)) (ix := (.tmp 31)) (dst := 32) (bk := b2008) (o := o2009) (m := k) (by kernel_rfl) (by kernel_rfl) (by kernel_rfl) (by kernel_rfl) (by first | omega | (have := filtLen ho; have := filtLen hl; omega) | (have := filtLen ho; have := filtLen hl; simp only [List.length_cons, List.length_nil]; omega)) (by first | omega | (have := filtLen ho; have := filtLen hl; omega) | (have := filtLen ho; have := filtLen hl; simp only [List.length_cons, List.length_nil]; omega)) ?_
                replace hk2014 : cut _ _ _ = [.string (mkS x2006)] := hk2014
                refine Op.pures 2 [1, 2, 3, 6, 8, 9, 10, 11, 12, 29, 32, 34, 36] (L' := [(5, true), (7, false), (9, true), (10, true), (11, false), (12, true), (13, true), (14, true)]) (e' := [(1, .int .i64 kind), (2, .slice (some ⟨b2008, o2009, none⟩) paths.length n_paths), (3, .pointer (some ⟨b1980, 0, none⟩)), (6, .pointer (some ⟨b1983, 0, none⟩)), (8, .slice a1992 out.length n1993), (9, .slice a1996 lf.length n1997), (10, .int .i64 i), (11, .bool false), (12, .int .i64 k), (29, .bool false), (32, .pointer (some ⟨b2008, o2009 + (k : Int).toNat * 1, none⟩)), (34, .pointer (some ⟨b1980, 0, none⟩)), (36, .int .i64 i)]) (by kernel_rfl) ?_
                refine Op.loadF (T := 9) (x := (.tmp 32)) (o := o2009 + (k : Int).toNat * 1) (d := 33) (n := 1) (v := .string (mkS x2006)) (by kernel_rfl) (by kernel_rfl) (by kernel_rfl) (fun h => h) (s_loop82001.sub _ _ hb2013) (cut_get hk2014 0 rfl) ?_
                refine Op.load (T := 22) (x := (.tmp 34)) (o := 0) (d := 35) (n := 1) (v := .slice a_t_0 t.All.length n_t_0) (by kernel_rfl) (by kernel_rfl) (by kernel_rfl) (s_loop82001.chunk 3 rfl) (by kernel_rfl) ?_
                obtain ⟨x2015, hx2016⟩ : ∃ c, t.All[(i : Int).toNat]? = some c := ⟨_, List.getElem?_eq_getElem (by first | omega | (have := filtLen ho; have := filtLen hl; omega) | (have := filtLen ho; have := filtLen hl; simp only [List.length_cons, List.length_nil]; omega))⟩
                obtain ⟨b2017, o2018, cu2019, fz2020, ha2021, hb2022, hk2023⟩ := SlR.at_ h_t_0 _ hx2016
                cases ha2021
                refine Op.idx (T := 22) (E := 27) (sz := 3) (by_ := 32) (n := t.All.length) (c := n_t_0) (k := .i64) (x := (.tmp 35)) (ix := (.tmp 36)) (dst := 37) (bk := b2017) (o := o2018) (m := i) (by kernel_rfl) (by kernel_rfl) (by kernel_rfl) (by kernel_rfl) (by first | omega | (have := filtLen ho; have := filtLen hl; omega) | (have := filtLen ho; have := filtLen hl; simp only [List.length_cons, List.length_nil]; omega)) (by first | omega | (have := filtLen ho; have := filtLen hl; omega) | (have := filtLen ho; have := filtLen hl; simp only [List.length_cons, List.length_nil]; omega)) ?_
                replace hk2023 : cut _ _ _ = [.int .i64 x2015.Client, .int .i64 x2015.Kind, .string (mkS x2015.Path)] := hk2023
                refine Op.pures 1 [1, 2, 3, 6, 8, 9, 10, 11, 12, 29, 33, 38] (L' := [(11, false), (12, true), (13, true), (14, true)]) (e' := [(1, .int .i64 kind), (2, .slice (some ⟨b2008, o2009, none⟩) paths.length n_paths), (3, .pointer (some ⟨b1980, 0, none⟩)), (6, .pointer (some ⟨b1983, 0, none⟩)), (8, .slice a1992 out.length n1993), (9, .slice a1996 lf.length n1997), (10, .int .i64 i), (11, .bool false), (12, .int .i64 k), (29, .bool false), (33, .string (mkS x2006)), (38, .pointer (some ⟨b2017, o2018 + (i : Int).toNat * 3 + 2, none⟩))]) (by kernel_rfl) ?_
                refine Op.load (T := 9) (x := (.tmp 38)) (o := o2018 + (i : Int).toNat * 3 + 2) (d := 39) (n := 1) (v := .string (mkS x2015.Path)) (by kernel_rfl) (by kernel_rfl) (by kernel_rfl) (s_loop82001.sub _ _ hb2022) (cut_get hk2023 2 rfl) ?_
                refine Op.val (dst := some 40) (v := .bool ((mkS x2006).toList == (mkS x2015.Path).toList)) (v' := .bool (x2006 == x2015.Path)) (by kernel_rfl) (by rw [toList_mkS, toList_mkS]) ?_
                refine Op.pures 2 [1, 2, 3, 6, 8, 9, 10, 11, 12] (L' := []) (e' := [(1, .int .i64 kind), (2, .slice (some ⟨b2008, o2009, none⟩) paths.length n_paths), (3, .pointer (some ⟨b1980, 0, none⟩)), (6, .pointer (some ⟨b1983, 0, none⟩)), (8, .slice a1992 out.length n1993), (9, .slice a1996 lf.length n1997), (10, .int .i64 i), (11, .bool (x2006 == x2015.Path)), (12, .int .i64 k)]) (by kernel_rfl) ?_
                refine Op.goto 11 (by kernel_rfl) ?_
                refine At.reg (L := [(0, false), (1, false), (2, false)]) (by kernel_rfl) ?_
                refine Op.pures 1 [1, 2, 3, 6, 8, 9, 10, 11, 12, 26] (L' := [(1, false), (2, false)]) (e' := [(1, .int .i64 kind), (2, .slice (some ⟨b2008, o2009, none⟩) paths.length n_paths), (3, .pointer (some ⟨b1980, 0, none⟩)), (6, .pointer (some ⟨b1983, 0, none⟩)), (8, .slice a1992 out.length n1993), (9, .slice a1996 lf.length n1997), (10, .int .i64 i), (11, .bool (x2006 == x2015.Path)), (12, .int .i64 k), (26, .int .i64 k)]) (by kernel_rfl) ?_
                refine Op.val (dst := some 27) (v := .int .i64 (IntKind.wrap .i64 (k + 1))) (v' := .int .i64 (k + 1)) (by kernel_rfl) (wrapEq_i64 (by first | omega | (have := filtLen ho; have := filtLen hl; omega) | (have := filtLen ho; have := filtLen hl; simp only [List.length_cons, List.length_nil]; omega)) (by first | omega | (have := filtLen ho; have := filtLen hl; omega) | (have := filtLen ho; have := filtLen hl; simp only [List.length_cons, List.length_nil]; omega))) ?_
                refine Op.pures 1 [1, 2, 3, 6, 8, 9, 10, 11, 12] (L' := []) (e' := [(1, .int .i64 kind), (2, .slice (some ⟨b2008, o2009, none⟩) paths.length n_paths), (3, .pointer (some ⟨b1980, 0, none⟩)), (6, .pointer (some ⟨b1983, 0, none⟩)), (8, .slice a1992 out.length n1993), (9, .slice a1996 lf.length n1997), (10, .int .i64 i), (11, .bool (x2006 == x2015.Path)), (12, .int .i64 (k + 1))]) (by kernel_rfl) ?_
                refine Op.goto 8 (by kernel_rfl) ?_
                exact ih8  (x2006 == x2015.Path) (k + 1) _ (by omega) (by first | omega | (have := filtLen ho; have := filtLen hl; omega) | (have := filtLen ho; have := filtLen hl; simp only [List.length_cons, List.length_nil]; omega)) (by first | omega | (have := filtLen ho; have := filtLen hl; omega) | (have := filtLen ho; have := filtLen hl; simp only [List.length_cons, List.length_nil]; omega)) (by first | exact any_t hin h4 (by assumption) | exact any_s hin (by assumption) h4 hx2007 (by rw [atW_eq hx2016]; exact beq_decL _ _))  s_loop82001
            · have c2024 : ¬ (k < (paths.length : Int)) := of_decide_eq_false hb
              clear hb
              refine At.keep [1, 2, 3, 6, 8, 9, 10, 11] ?_; show At _ _ _ [(1, .int .i64 kind), (2, .slice a_paths paths.length n_paths), (3, .pointer (some ⟨b1980, 0, none⟩)), (6, .pointer (some ⟨b1983, 0, none⟩)), (8, .slice a1992 out.length n1993), (9, .slice a1996 lf.length n1997), (10, .int .i64 i), (11, .bool inn)] _
              refine At.reg (L := [(0, false), (1, false), (2, false), (3, false), (4, false), (5, false), (6, false), (7, false), (8, false), (9, false), (10, false)]) (by kernel_rfl) ?_
              refine Op.pures 2 [1, 2, 3, 6, 8, 9, 10, 43] (L' := [(2, false), (3, false), (4, false), (5, false), (6, false), (7, false), (8, false), (9, false), (10, false)]) (e' := [(1, .int .i64 kind), (2, .slice a_paths paths.length n_paths), (3, .pointer (some ⟨b1980, 0, none⟩)), (6, .pointer (some ⟨b1983, 0, none⟩)), (8, .slice a1992 out.length n1993), (9, .slice a1996 lf.length n1997), (10, .int .i64 i), (43, .bool inn)]) (by kernel_rfl) ?_
              refine Op.ways (b := inn) ⟨fun hb => ?_, fun hb => ?_⟩
              · refine Op.cast (e' := [(1, .int .i64 kind), (2, .slice a_paths paths.length n_paths), (3, .pointer (some ⟨b1980, 0, none⟩)), (6, .pointer (some ⟨b1983, 0, none⟩)), (8, .slice a1992 out.length n1993), (9, .slice a1996 lf.length n1997), (10, .int .i64 i), (43, .bool true)]) (by rw [hb]) ?_
                have c2025 : inn = true := hb
                clear hb
                refine Op.pures 1 [1, 2, 3, 6, 8, 9, 10, 43, 44] (L' := [(3, false), (4, false), (5, false), (6, false), (7, false), (8, false), (9, false), (10, false)]) (e' := [(1, .int .i64 kind), (2, .slice a_paths paths.length n_paths), (3, .pointer (some ⟨b1980, 0, none⟩)), (6, .pointer (some ⟨b1983, 0, none⟩)), (8, .slice a1992 out.length n1993), (9, .slice a1996 lf.length n1997), (10, .int .i64 i), (43, .bool true), (44, .pointer (some ⟨b1980, 0, none⟩))]) (by kernel_rfl) ?_
                refine Op.load (T := 22) (x := (.tmp 44)) (o := 0) (d := 45) (n := 1) (v := .slice a_t_0 t.All.length n_t_0) (by kernel_rfl) (by kernel_rfl) (by kernel_rfl) (s_loop82001.chunk 3 rfl) (by kernel_rfl) ?_
                refine Op.pures 1 [1, 2, 3, 6, 8, 9, 10, 43, 45, 46] (L' := [(5, false), (6, false), (7, false), (8, false), (9, false), (10, false)]) (e' := [(1, .int .i64 kind), (2, .slice a_paths paths.length n_paths), (3, .pointer (some ⟨b1980, 0, none⟩)), (6, .pointer (some ⟨b1983, 0, none⟩)), (8, .slice a1992 out.length n1993), (9, .slice a1996 lf.length n1997), (10, .int .i64 i), (43, .bool true), (45, .slice a_t_0 t.All.length n_t_0), (46, .int .i64 i)]) (by kernel_rfl) ?_
                obtain ⟨x2026, hx2027⟩ : ∃ c, t.All[(i : Int).toNat]? = some c := ⟨_, List.getElem?_eq_getElem (by first | omega | (have := filtLen ho; have := filtLen hl; omega) | (have := filtLen ho; have := filtLen hl; simp only [List.length_cons, List.length_nil]; omega))⟩
                obtain ⟨b2028, o2029, cu2030, fz2031, ha2032, hb2033, hk2034⟩ := SlR.at_ h_t_0 _ hx2027
                cases ha2032
                refine Op.idx (T := 22) (E := 27) (sz := 3) (by_ := 32) (n := t.All.length) (c := n_t_0) (k := .i64) (x := (.tmp 45)) (ix := (.tmp 46)) (dst := 47) (bk := b2028) (o := o2029) (m := i) (by kernel_rfl) (by kernel_rfl) (by kernel_rfl) (by kernel_rfl) (by first | omega | (have := filtLen ho; have := filtLen hl; omega) | (have := filtLen ho; have := filtLen hl; simp only [List.length_cons, List.length_nil]; omega)) (by first | omega | (have := filtLen ho; have := filtLen hl; omega) | (have := filtLen ho; have := filtLen hl; simp only [List.length_cons, List.length_nil]; omega)) ?_
                replace hk2034 : cut _ _ _ = [.int .i64 x2026.Client, .int .i64 x2026.Kind, .string (mkS x2026.Path)] := hk2034
                refine Op.pures 1 [1, 2, 3, 6, 8, 9, 10, 43, 48] (L' := [(7, false), (8, false), (9, false), (10, false)]) (e' := [(1, .int .i64 kind), (2, .slice a_paths paths.length n_paths), (3, .pointer (some ⟨b1980, 0, none⟩)), (6, .pointer (some ⟨b1983, 0, none⟩)), (8, .slice a1992 out.length n1993), (9, .slice a1996 lf.length n1997), (10, .int .i64 i), (43, .bool true), (48, .pointer (some ⟨b2028, o2029 + (i : Int).toNat * 3 + 1, none⟩))]) (by kernel_rfl) ?_
                refine Op.load (T := 3) (x := (.tmp 48)) (o := o2029 + (i : Int).toNat * 3 + 1) (d := 49) (n := 1) (v := .int .i64 x2026.Kind) (by kernel_rfl) (by kernel_rfl) (by kernel_rfl) (s_loop82001.sub _ _ hb2033) (cut_get hk2034 1 rfl) ?_
                refine Op.pures 3 [1, 2, 3, 6, 8, 9, 10, 52] (L' := []) (e' := [(1, .int .i64 kind), (2, .slice a_paths paths.length n_paths), (3, .pointer (some ⟨b1980, 0, none⟩)), (6, .pointer (some ⟨b1983, 0, none⟩)), (8, .slice a1992 out.length n1993), (9, .slice a1996 lf.length n1997), (10, .int .i64 i), (52, .bool (x2026.Kind == kind))]) (by kernel_rfl) ?_
                refine Op.goto 13 (by kernel_rfl) ?_
                refine At.cond (b := x2026.Kind == kind) (c := .tmp 52) (by kernel_rfl) (by kernel_rfl) (by kernel_rfl) 14 15 (by kernel_rfl) (by kernel_rfl) (fun hb => ?_) (fun hb => ?_)
                · have c2035 : x2026.Kind = kind := eq_of_beq hb
                  clear hb
                  refine At.keep [1, 2, 3, 6, 8, 9, 10] ?_; show At _ _ _ [(1, .int .i64 kind), (2, .slice a_paths paths.length n_paths), (3, .pointer (some ⟨b1980, 0, none⟩)), (6, .pointer (some ⟨b1983, 0, none⟩)), (8, .slice a1992 out.length n1993), (9, .slice a1996 lf.length n1997), (10, .int .i64 i)] _
                  refine At.reg (L := [(0, false), (1, false), (2, false), (3, false), (4, false), (5, false), (6, false), (7, false), (8, false)]) (by kernel_rfl) ?_
                  refine Op.pures 2 [1, 2, 3, 6, 8, 9, 10, 53, 54] (L' := [(2, false), (3, false), (4, false), (5, false), (6, false), (7, false), (8, false)]) (e' := [(1, .int .i64 kind), (2, .slice a_paths paths.length n_paths), (3, .pointer (some ⟨b1980, 0, none⟩)), (6, .pointer (some ⟨b1983, 0, none⟩)), (8, .slice a1992 out.length n1993), (9, .slice a1996 lf.length n1997), (10, .int .i64 i), (53, .slice a1992 out.length n1993), (54, .pointer (some ⟨b1980, 0, none⟩))]) (by kernel_rfl) ?_
                  refine Op.load (T := 22) (x := (.tmp 54)) (o := 0) (d := 55) (n := 1) (v := .slice (some ⟨b2028, o2029, none⟩) t.All.length n_t_0) (by kernel_rfl) (by kernel_rfl) (by kernel_rfl) (s_loop82001.chunk 3 rfl) (by kernel_rfl) ?_
                  refine Op.pures 1 [1, 2, 3, 6, 8, 9, 10, 53, 55, 56] (L' := [(4, false), (5, false), (6, false), (7, false), (8, false)]) (e' := [(1, .int .i64 kind), (2, .slice a_paths paths.length n_paths), (3, .pointer (some ⟨b1980, 0, none⟩)), (6, .pointer (some ⟨b1983, 0, none⟩)), (8, .slice a1992 out.length n1993), (9, .slice a1996 lf.length n1997), (10, .int .i64 i), (53, .slice a1992 out.length n1993), (55, .slice (some ⟨b2028, o2029, none⟩) t.All.length n_t_0), (56, .int .i64 i)]) (by kernel_rfl) ?_
                  obtain ⟨b2038, o2039, cu2040, fz2041, ha2042, hb2043, hk2044⟩ := SlR.at_ h_t_0 _ hx2027
                  cases ha2042
                  refine Op.idx (T := 22) (E := 27) (sz := 3) (by_ := 32) (n := t.All.length) (c := n_t_0) (k := .i64) (x := (.tmp 55)) (ix := (.tmp 56)) (dst := 57) (bk := b2028) (o := o2029) (m := i) (by kernel_rfl) (by kernel_rfl) (by kernel_rfl) (by kernel_rfl) (by first | omega | (have := filtLen ho; have := filtLen hl; omega) | (have := filtLen ho; have := filtLen hl; simp only [List.length_cons, List.length_nil]; omega)) (by first | omega | (have := filtLen ho; have := filtLen hl; omega) | (have := filtLen ho; have := filtLen hl; simp only [List.length_cons, List.length_nil]; omega)) ?_
                  replace hk2044 : cut _ _ _ = [.int .i64 x2026.Client, .int .i64 x2026.Kind, .string (mkS x2026.Path)] := hk2044
                  refine Op.loadA (T := 27) (x := (.tmp 57)) (o := o2029 + (i : Int).toNat * 3) (d := 58) (n := 3) (vs := [.int .i64 x2026.Client, .int .i64 x2026.Kind, .string (mkS x2026.Path)]) (by kernel_rfl) (by kernel_rfl) (by kernel_rfl) (s_loop82001.sub _ _ hb2043) (hk2044) rfl ?_
                  refine Op.lit (T := 22) (len := 1) (parts := #[(0, (.tmp 58))]) (dst := 59) (E := 27) (ps := [(0, .agg #[.int .i64 x2026.Client, .int .i64 x2026.Kind, .string (mkS x2026.Path)])]) (cs := #[.int .i64 x2026.Client, .int .i64 x2026.Kind, .string (mkS x2026.Path)]) (by kernel_rfl) (by kernel_rfl) (by kernel_rfl) s_loop82001 ?_
                  intro b2045 h2046 s2047
                  refine Op.append (x := (.tmp 53)) (y := (.tmp 59)) (t := 22) (t' := 22) (dst := 60) (E := 27) (by_ := 32) (d := kWatch) (by kernel_rfl) (by kernel_rfl) (by kernel_rfl) (by kernel_rfl) rfl R1995 s2047 2 rfl (Src.lit (m := 1) (sz := 3) (s2047.chunk 0 rfl) (news := [.int .i64 x2026.Client, .int .i64 x2026.Kind, .string (mkS x2026.Path)]) rfl rfl (by simp [Value.oneCell']) _) (ys := [x2026]) (⟨_, _, rfl, rfl, Reads.nil⟩) rfl (by first | omega | (have := filtLen ho; have := filtLen hl; omega) | (have := filtLen ho; have := filtLen hl; simp only [List.length_cons, List.length_nil]; omega)) (fun _ _ _ => trivial) ?_
                  intro v2048 ch2049 h2050 R2051 s2052 nn2053
                  obtain ⟨a2054, n2055, rfl⟩ := R2051.form
                  have s2056 := (s2052.front 0 rfl).drop
                  refine Op.pures 1 [1, 2, 3, 6, 8, 9, 10] (L' := []) (e' := [(1, .int .i64 kind), (2, .slice a_paths paths.length n_paths), (3, .pointer (some ⟨b1980, 0, none⟩)), (6, .pointer (some ⟨b1983, 0, none⟩)), (8, .slice a2054 ((out ++ ([x2026])).length) n2055), (9, .slice a1996 lf.length n1997), (10, .int .i64 i)]) (by kernel_rfl) ?_
                  refine Op.goto 16 (by kernel_rfl) ?_
                  refine At.reg (L := [(0, false), (1, false), (2, false)]) (by kernel_rfl) ?_
                  refine Op.pures 1 [1, 2, 3, 6, 8, 9, 10, 20] (L' := [(1, false), (2, false)]) (e' := [(1, .int .i64 kind), (2, .slice a_paths paths.length n_paths), (3, .pointer (some ⟨b1980, 0, none⟩)), (6, .pointer (some ⟨b1983, 0, none⟩)), (8, .slice a2054 ((out ++ ([x2026])).length) n2055), (9, .slice a1996 lf.length n1997), (10, .int .i64 i), (20, .int .i64 i)]) (by kernel_rfl) ?_
                  refine Op.val (dst := some 21) (v := .int .i64 (IntKind.wrap .i64 (i + 1))) (v' := .int .i64 (i + 1)) (by kernel_rfl) (wrapEq_i64 (by first | omega | (have := filtLen ho; have := filtLen hl; omega) | (have := filtLen ho; have := filtLen hl; simp only [List.length_cons, List.length_nil]; omega)) (by first | omega | (have := filtLen ho; have := filtLen hl; omega) | (have := filtLen ho; have := filtLen hl; simp only [List.length_cons, List.length_nil]; omega))) ?_
                  refine Op.pures 1 [1, 2, 3, 6, 8, 9, 10] (L' := []) (e' := [(1, .int .i64 kind), (2, .slice a_paths paths.length n_paths), (3, .pointer (some ⟨b1980, 0, none⟩)), (6, .pointer (some ⟨b1983, 0, none⟩)), (8, .slice a2054 ((out ++ ([x2026])).length) n2055), (9, .slice a1996 lf.length n1997), (10, .int .i64 (i + 1))]) (by kernel_rfl) ?_
                  refine Op.goto 4 (by kernel_rfl) ?_
                  exact ih4  (out ++ ([x2026])) lf (i + 1) _ _ _ _ _ _ _ (by omega) (by first | omega | (have := filtLen ho; have := filtLen hl; omega) | (have := filtLen ho; have := filtLen hl; simp only [List.length_cons, List.length_nil]; omega)) (by first | omega | (have := filtLen ho; have := filtLen hl; omega) | (have := filtLen ho; have := filtLen hl; simp only [List.length_cons, List.length_nil]; omega)) (by first | exact filt_in ho h0 (by assumption) (fire_t (by assumption) hin (by assumption) (by assumption) (by assumption)) | exact filt_out ho h0 (by assumption) (fire_f1 (by assumption) hin (by assumption) (by assumption)) | exact filt_out ho h0 (by assumption) (fire_f2 (by assumption))) (by first | exact filt_out hl h0 (by assumption) (by rw [fire_t (by assumption) hin (by assumption) (by assumption) (by assumption)]; rfl) | exact filt_in hl h0 (by assumption) (by rw [fire_f1 (by assumption) hin (by assumption) (by assumption)]; rfl) | exact filt_in hl h0 (by assumption) (by rw [fire_f2 (by assumption)]; rfl)) R2051 R1999 s2056
                · have c2057 : ¬ (x2026.Kind = kind) := neF hb
                  clear hb
                  refine At.keep [1, 2, 3, 6, 8, 9, 10] ?_; show At _ _ _ [(1, .int .i64 kind), (2, .slice a_paths paths.length n_paths), (3, .pointer (some ⟨b1980, 0, none⟩)), (6, .pointer (some ⟨b1983, 0, none⟩)), (8, .slice a1992 out.length n1993), (9, .slice a1996 lf.length n1997), (10, .int .i64 i)] _
                  refine At.reg (L := [(0, false), (1, false), (2, false), (3, false), (4, false), (5, false), (6, false), (7, false), (8, false)]) (by kernel_rfl) ?_
                  refine Op.pures 2 [1, 2, 3, 6, 8, 9, 10, 61, 62] (L' := [(2, false), (3, false), (4, false), (5, false), (6, false), (7, false), (8, false)]) (e' := [(1, .int .i64 kind), (2, .slice a_paths paths.length n_paths), (3, .pointer (some ⟨b1980, 0, none⟩)), (6, .pointer (some ⟨b1983, 0, none⟩)), (8, .slice a1992 out.length n1993), (9, .slice a1996 lf.length n1997), (10, .int .i64 i), (61, .slice a1996 lf.length n1997), (62, .pointer (some ⟨b1980, 0, none⟩))]) (by kernel_rfl) ?_
                  refine Op.load (T := 22) (x := (.tmp 62)) (o := 0) (d := 63) (n := 1) (v := .slice (some ⟨b2028, o2029, none⟩) t.All.length n_t_0) (by kernel_rfl) (by kernel_rfl) (by kernel_rfl) (s_loop82001.chunk 3 rfl) (by kernel_rfl) ?_
                  refine Op.pures 1 [1, 2, 3, 6, 8, 9, 10, 61, 63, 64] (L' := [(4, false), (5, false), (6, false), (7, false), (8, false)]) (e' := [(1, .int .i64 kind), (2, .slice a_paths paths.length n_paths), (3, .pointer (some ⟨b1980, 0, none⟩)), (6, .pointer (some ⟨b1983, 0, none⟩)), (8, .slice a1992 out.length n1993), (9, .slice a1996 lf.length n1997), (10, .int .i64 i), (61, .slice a1996 lf.length n1997), (63, .slice (some ⟨b2028, o2029, none⟩) t.All.length n_t_0), (64, .int .i64 i)]) (by kernel_rfl) ?_
                  obtain ⟨b2060, o2061, cu2062, fz2063, ha2064, hb2065, hk2066⟩ := SlR.at_ h_t_0 _ hx2027
                  cases ha2064
                  refine Op.idx (T := 22) (E := 27) (sz := 3) (by_ := 32) (n := t.All.length) (c := n_t_0) (k := .i64) (x := (.tmp 63)) (ix := (.tmp 64)) (dst := 65) (bk := b2028) (o := o2029) (m := i) (by kernel_rfl) (by kernel_rfl) (by kernel_rfl) (by kernel_rfl) (by first | omega | (have := filtLen ho; have := filtLen hl; omega) | (have := filtLen ho; have := filtLen hl; simp only [List.length_cons, List.length_nil]; omega)) (by first | omega | (have := filtLen ho; have := filtLen hl; omega) | (have := filtLen ho; have := filtLen hl; simp only [List.length_cons, List.length_nil]; omega)) ?_
                  replace hk2066 : cut _ _ _ = [.int .i64 x2026.Client, .int .i64 x2026.Kind, .string (mkS x2026.Path)] := hk2066
                  refine Op.loadA (T := 27) (x := (.tmp 65)) (o := o2029 + (i : Int).toNat * 3) (d := 66) (n := 3) (vs := [.int .i64 x2026.Client, .int .i64 x2026.Kind, .string (mkS x2026.Path)]) (by kernel_rfl) (by kernel_rfl) (by kernel_rfl) (s_loop82001.sub _ _ hb2065) (hk2066) rfl ?_
                  refine Op.lit (T := 22) (len := 1) (parts := #[(0, (.tmp 66))]) (dst := 67) (E := 27) (ps := [(0, .agg #[.int .i64 x2026.Client, .int .i64 x2026.Kind, .string (mkS x2026.Path)])]) (cs := #[.int .i64 x2026.Client, .int .i64 x2026.Kind, .string (mkS x2026.Path)]) (by kernel_rfl) (by kernel_rfl) (by kernel_rfl) s_loop82001 ?_
                  intro b2067 h2068 s2069
                  refine Op.append (x := (.tmp 61)) (y := (.tmp 67)) (t := 22) (t' := 22) (dst := 68) (E := 27) (by_ := 32) (d := kWatch) (by kernel_rfl) (by kernel_rfl) (by kernel_rfl) (by kernel_rfl) rfl R1999 s2069 1 rfl (Src.lit (m := 1) (sz := 3) (s2069.chunk 0 rfl) (news := [.int .i64 x2026.Client, .int .i64 x2026.Kind, .string (mkS x2026.Path)]) rfl rfl (by simp [Value.oneCell']) _) (ys := [x2026]) (⟨_, _, rfl, rfl, Reads.nil⟩) rfl (by first | omega | (have := filtLen ho; have := filtLen hl; omega) | (have := filtLen ho; have := filtLen hl; simp only [List.length_cons, List.length_nil]; omega)) (fun _ _ _ => trivial) ?_
                  intro v2070 ch2071 h2072 R2073 s2074 nn2075
                  obtain ⟨a2076, n2077, rfl⟩ := R2073.form
                  have s2078 := (s2074.front 0 rfl).drop
                  refine Op.pures 1 [1, 2, 3, 6, 8, 9, 10] (L' := []) (e' := [(1, .int .i64 kind), (2, .slice a_paths paths.length n_paths), (3, .pointer (some ⟨b1980, 0, none⟩)), (6, .pointer (some ⟨b1983, 0, none⟩)), (8, .slice a1992 out.length n1993), (9, .slice a2076 ((lf ++ ([x2026])).length) n2077), (10, .int .i64 i)]) (by kernel_rfl) ?_
                  refine Op.goto 16 (by kernel_rfl) ?_
                  refine At.reg (L := [(0, false), (1, false), (2, false)]) (by kernel_rfl) ?_
                  refine Op.pures 1 [1, 2, 3, 6, 8, 9, 10, 20] (L' := [(1, false), (2, false)]) (e' := [(1, .int .i64 kind), (2, .slice a_paths paths.length n_paths), (3, .pointer (some ⟨b1980, 0, none⟩)), (6, .pointer (some ⟨b1983, 0, none⟩)), (8, .slice a1992 out.length n1993), (9, .slice a2076 ((lf ++ ([x2026])).length) n2077), (10, .int .i64 i), (20, .int .i64 i)]) (by kernel_rfl) ?_
                  refine Op.val (dst := some 21) (v := .int .i64 (IntKind.wrap .i64 (i + 1))) (v' := .int .i64 (i + 1)) (by kernel_rfl) (wrapEq_i64 (by first | omega | (have := filtLen ho; have := filtLen hl; omega) | (have := filtLen ho; have := filtLen hl; simp only [List.length_cons, List.length_nil]; omega)) (by first | omega | (have := filtLen ho; have := filtLen hl; omega) | (have := filtLen ho; have := filtLen hl; simp only [List.length_cons, List.length_nil]; omega))) ?_
                  refine Op.pures 1 [1, 2, 3, 6, 8, 9, 10] (L' := []) (e' := [(1, .int .i64 kind), (2, .slice a_paths paths.length n_paths), (3, .pointer (some ⟨b1980, 0, none⟩)), (6, .pointer (some ⟨b1983, 0, none⟩)), (8, .slice a1992 out.length n1993), (9, .slice a2076 ((lf ++ ([x2026])).length) n2077), (10, .int .i64 (i + 1))]) (by kernel_rfl) ?_
                  refine Op.goto 4 (by kernel_rfl) ?_
                  exact ih4  out (lf ++ ([x2026])) (i + 1) _ _ _ _ _ _ _ (by omega) (by first | omega | (have := filtLen ho; have := filtLen hl; omega) | (have := filtLen ho; have := filtLen hl; simp only [List.length_cons, List.length_nil]; omega)) (by first | omega | (have := filtLen ho; have := filtLen hl; omega) | (have := filtLen ho; have := filtLen hl; simp only [List.length_cons, List.length_nil]; omega)) (by first | exact filt_in ho h0 (by assumption) (fire_t (by assumption) hin (by assumption) (by assumption) (by assumption)) | exact filt_out ho h0 (by assumption) (fire_f1 (by assumption) hin (by assumption) (by assumption)) | exact filt_out ho h0 (by assumption) (fire_f2 (by assumption))) (by first | exact filt_out hl h0 (by assumption) (by rw [fire_t (by assumption) hin (by assumption) (by assumption) (by assumption)]; rfl) | exact filt_in hl h0 (by assumption) (by rw [fire_f1 (by assumption) hin (by assumption) (by assumption)]; rfl) | exact filt_in hl h0 (by assumption) (by rw [fire_f2 (by assumption)]; rfl)) R1995 R2073 s2078
              · refine Op.cast (e' := [(1, .int .i64 kind), (2, .slice a_paths paths.length n_paths), (3, .pointer (some ⟨b1980, 0, none⟩)), (6, .pointer (some ⟨b1983, 0, none⟩)), (8, .slice a1992 out.length n1993), (9, .slice a1996 lf.length n1997), (10, .int .i64 i), (43, .bool false)]) (by rw [hb]) ?_
                have c2079 : inn = false := hb
                clear hb
                refine Op.pures 9 [1, 2, 3, 6, 8, 9, 10, 52] (L' := []) (e' := [(1, .int .i64 kind), (2, .slice a_paths paths.length n_paths), (3, .pointer (some ⟨b1980, 0, none⟩)), (6, .pointer (some ⟨b1983, 0, none⟩)), (8, .slice a1992 out.length n1993), (9, .slice a1996 lf.length n1997), (10, .int .i64 i), (52, .bool false)]) (by kernel_rfl) ?_
                refine Op.goto 13 (by kernel_rfl) ?_
                refine At.condF (c := .tmp 52) (by kernel_rfl) (by kernel_rfl) (by kernel_rfl) 15 (by kernel_rfl) ?_
                refine At.reg (L := [(0, false), (1, false), (2, false), (3, false), (4, false), (5, false), (6, false), (7, false), (8, false)]) (by kernel_rfl) ?_
                refine Op.pures 2 [1, 2, 3, 6, 8, 9, 10, 61, 62] (L' := [(2, false), (3, false), (4, false), (5, false), (6, false), (7, false), (8, false)]) (e' := [(1, .int .i64 kind), (2, .slice a_paths paths.length n_paths), (3, .pointer (some ⟨b1980, 0, none⟩)), (6, .pointer (some ⟨b1983, 0, none⟩)), (8, .slice a1992 out.length n1993), (9, .slice a1996 lf.length n1997), (10, .int .i64 i), (61, .slice a1996 lf.length n1997), (62, .pointer (some ⟨b1980, 0, none⟩))]) (by kernel_rfl) ?_
                refine Op.load (T := 22) (x := (.tmp 62)) (o := 0) (d := 63) (n := 1) (v := .slice a_t_0 t.All.length n_t_0) (by kernel_rfl) (by kernel_rfl) (by kernel_rfl) (s_loop82001.chunk 3 rfl) (by kernel_rfl) ?_
                refine Op.pures 1 [1, 2, 3, 6, 8, 9, 10, 61, 63, 64] (L' := [(4, false), (5, false), (6, false), (7, false), (8, false)]) (e' := [(1, .int .i64 kind), (2, .slice a_paths paths.length n_paths), (3, .pointer (some ⟨b1980, 0, none⟩)), (6, .pointer (some ⟨b1983, 0, none⟩)), (8, .slice a1992 out.length n1993), (9, .slice a1996 lf.length n1997), (10, .int .i64 i), (61, .slice a1996 lf.length n1997), (63, .slice a_t_0 t.All.length n_t_0), (64, .int .i64 i)]) (by kernel_rfl) ?_
                obtain ⟨x2080, hx2081⟩ : ∃ c, t.All[(i : Int).toNat]? = some c := ⟨_, List.getElem?_eq_getElem (by first | omega | (have := filtLen ho; have := filtLen hl; omega) | (have := filtLen ho; have := filtLen hl; simp only [List.length_cons, List.length_nil]; omega))⟩
                obtain ⟨b2082, o2083, cu2084, fz2085, ha2086, hb2087, hk2088⟩ := SlR.at_ h_t_0 _ hx2081
                cases ha2086
                refine Op.idx (T := 22) (E := 27) (sz := 3) (by_ := 32) (n := t.All.length) (c := n_t_0) (k := .i64) (x := (.tmp 63)) (ix := (.tmp 64)) (dst := 65) (bk := b2082) (o := o2083) (m := i) (by kernel_rfl) (by kernel_rfl) (by kernel_rfl) (by kernel_rfl) (by first | omega | (have := filtLen ho; have := filtLen hl; omega) | (have := filtLen ho; have := filtLen hl; simp only [List.length_cons, List.length_nil]; omega)) (by first | omega | (have := filtLen ho; have := filtLen hl; omega) | (have := filtLen ho; have := filtLen hl; simp only [List.length_cons, List.length_nil]; omega)) ?_
                replace hk2088 : cut _ _ _ = [.int .i64 x2080.Client, .int .i64 x2080.Kind, .string (mkS x2080.Path)] := hk2088
                refine Op.loadA (T := 27) (x := (.tmp 65)) (o := o2083 + (i : Int).toNat * 3) (d := 66) (n := 3) (vs := [.int .i64 x2080.Client, .int .i64 x2080.Kind, .string (mkS x2080.Path)]) (by kernel_rfl) (by kernel_rfl) (by kernel_rfl) (s_loop82001.sub _ _ hb2087) (hk2088) rfl ?_
                refine Op.lit (T := 22) (len := 1) (parts := #[(0, (.tmp 66))]) (dst := 67) (E := 27) (ps := [(0, .agg #[.int .i64 x2080.Client, .int .i64 x2080.Kind, .string (mkS x2080.Path)])]) (cs := #[.int .i64 x2080.Client, .int .i64 x2080.Kind, .string (mkS x2080.Path)]) (by kernel_rfl) (by kernel_rfl) (by kernel_rfl) s_loop82001 ?_
                intro b2089 h2090 s2091
                refine Op.append (x := (.tmp 61)) (y := (.tmp 67)) (t := 22) (t' := 22) (dst := 68) (E := 27) (by_ := 32) (d := kWatch) (by kernel_rfl) (by kernel_rfl) (by kernel_rfl) (by kernel_rfl) rfl R1999 s2091 1 rfl (Src.lit (m := 1) (sz := 3) (s2091.chunk 0 rfl) (news := [.int .i64 x2080.Client, .int .i64 x2080.Kind, .string (mkS x2080.Path)]) rfl rfl (by simp [Value.oneCell']) _) (ys := [x2080]) (⟨_, _, rfl, rfl, Reads.nil⟩) rfl (by first | omega | (have := filtLen ho; have := filtLen hl; omega) | (have := filtLen ho; have := filtLen hl; simp only [List.length_cons, List.length_nil]; omega)) (fun _ _ _ => trivial) ?_
                intro v2092 ch2093 h2094 R2095 s2096 nn2097
                obtain ⟨a2098, n2099, rfl⟩ := R2095.form
                have s2100 := (s2096.front 0 rfl).drop
                refine Op.pures 1 [1, 2, 3, 6, 8, 9, 10] (L' := []) (e' := [(1, .int .i64 kind), (2, .slice a_paths paths.length n_paths), (3, .pointer (some ⟨b1980, 0, none⟩)), (6, .pointer (some ⟨b1983, 0, none⟩)), (8, .slice a1992 out.length n1993), (9, .slice a2098 ((lf ++ ([x2080])).length) n2099), (10, .int .i64 i)]) (by kernel_rfl) ?_
                refine Op.goto 16 (by kernel_rfl) ?_
                refine At.reg (L := [(0, false), (1, false), (2, false)]) (by kernel_rfl) ?_
                refine Op.pures 1 [1, 2, 3, 6, 8, 9, 10, 20] (L' := [(1, false), (2, false)]) (e' := [(1, .int .i64 kind), (2, .slice a_paths paths.length n_paths), (3, .pointer (some ⟨b1980, 0, none⟩)), (6, .pointer (some ⟨b1983, 0, none⟩)), (8, .slice a1992 out.length n1993), (9, .slice a2098 ((lf ++ ([x2080])).length) n2099), (10, .int .i64 i), (20, .int .i64 i)]) (by kernel_rfl) ?_
                refine Op.val (dst := some 21) (v := .int .i64 (IntKind.wrap .i64 (i + 1))) (v' := .int .i64 (i + 1)) (by kernel_rfl) (wrapEq_i64 (by first | omega | (have := filtLen ho; have := filtLen hl; omega) | (have := filtLen ho; have := filtLen hl; simp only [List.length_cons, List.length_nil]; omega)) (by first | omega | (have := filtLen ho; have := filtLen hl; omega) | (have := filtLen ho; have := filtLen hl; simp only [List.length_cons, List.length_nil]; omega))) ?_
                refine Op.pures 1 [1, 2, 3, 6, 8, 9, 10] (L' := []) (e' := [(1, .int .i64 kind), (2, .slice a_paths paths.length n_paths), (3, .pointer (some ⟨b1980, 0, none⟩)), (6, .pointer (some ⟨b1983, 0, none⟩)), (8, .slice a1992 out.length n1993), (9, .slice a2098 ((lf ++ ([x2080])).length) n2099), (10, .int .i64 (i + 1))]) (by kernel_rfl) ?_
                refine Op.goto 4 (by kernel_rfl) ?_
                exact ih4  out (lf ++ ([x2080])) (i + 1) _ _ _ _ _ _ _ (by omega) (by first | omega | (have := filtLen ho; have := filtLen hl; omega) | (have := filtLen ho; have := filtLen hl; simp only [List.length_cons, List.length_nil]; omega)) (by first | omega | (have := filtLen ho; have := filtLen hl; omega) | (have := filtLen ho; have := filtLen hl; simp only [List.length_cons, List.length_nil]; omega)) (by first | exact filt_in ho h0 (by assumption) (fire_t (by assumption) hin (by assumption) (by assumption) (by assumption)) | exact filt_out ho h0 (by assumption) (fire_f1 (by assumption) hin (by assumption) (by assumption)) | exact filt_out ho h0 (by assumption) (fire_f2 (by assumption))) (by first | exact filt_out hl h0 (by assumption) (by rw [fire_t (by assumption) hin (by assumption) (by assumption) (by assumption)]; rfl) | exact filt_in hl h0 (by assumption) (by rw [fire_f1 (by assumption) hin (by assumption) (by assumption)]; rfl) | exact filt_in hl h0 (by assumption) (by rw [fire_f2 (by assumption)]; rfl)) R1995 R2095 s2100
        exact loop8 _  false 0 _ (Nat.lt_succ_self _) (by first | omega | (have := filtLen ho; have := filtLen hl; omega) | (have := filtLen ho; have := filtLen hl; simp only [List.length_cons, List.length_nil]; omega)) (by first | omega | (have := filtLen ho; have := filtLen hl; omega) | (have := filtLen ho; have := filtLen hl; simp only [List.length_cons, List.length_nil]; omega)) (by rfl)  s_loop41999
      · have c2101 : ¬ (i < (t.All.length : Int)) := of_decide_eq_false hb
        clear hb
        refine At.keep [3, 6, 8, 9] ?_; show At _ _ _ [(3, .pointer (some ⟨b1980, 0, none⟩)), (6, .pointer (some ⟨b1983, 0, none⟩)), (8, .slice a1992 out.length n1993), (9, .slice a1996 lf.length n1997)] _
        refine At.reg (L := [(0, false), (1, false), (2, false)]) (by kernel_rfl) ?_
        refine Op.pures 2 [3, 6, 8, 69, 70] (L' := [(2, false)]) (e' := [(3, .pointer (some ⟨b1980, 0, none⟩)), (6, .pointer (some ⟨b1983, 0, none⟩)), (8, .slice a1992 out.length n1993), (69, .slice a1996 lf.length n1997), (70, .pointer (some ⟨b1980, 0, none⟩))]) (by kernel_rfl) ?_
        refine Op.store (T := 22) (x := (.tmp 70)) (y := (.tmp 69)) (b := b1980) (o := 0) (vs := [.slice a1996 lf.length n1997]) (a? := false) (n := 1) (by kernel_rfl) (by kernel_rfl) (by kernel_rfl) (by kernel_rfl) rfl (by simp [Value.oneCell']) s_loop41999 3 rfl (Nat.le_of_ble_eq_true (by kernel_rfl)) (cs := #[.slice a_t_0 t.All.length n_t_0]) (cs' := #[.slice a1996 lf.length n1997]) (by kernel_rfl) (fun _ => trivial) ?_
        intro h2102 s2103
        refine Op.goto 18 (by kernel_rfl) ?_
        refine At.reg (L := [(0, false), (1, false), (2, false), (3, false)]) (by kernel_rfl) ?_
        refine Op.loadA (T := 36) (x := (.tmp 3)) (o := 0) (d := 71) (n := 1) (vs := [.slice a1996 lf.length n1997]) (by kernel_rfl) (by kernel_rfl) (by kernel_rfl) (s2103.chunk 3 rfl) (by kernel_rfl) rfl ?_
        refine Op.pures 1 [6, 71, 72] (L' := [(2, false), (3, false)]) (e' := [(6, .pointer (some ⟨b1983, 0, none⟩)), (71, .agg #[.slice a1996 lf.length n1997]), (72, .slice a1992 out.length n1993)]) (by kernel_rfl) ?_
        refine Op.store (T := 36) (x := (.tmp 6)) (y := (.tmp 71)) (b := b1983) (o := 0) (vs := [.slice a1996 lf.length n1997]) (a? := true) (n := 1) (by kernel_rfl) (by kernel_rfl) (by kernel_rfl) (by kernel_rfl) rfl (by simp [Value.oneCell']) s2103 2 rfl (Nat.le_of_ble_eq_true (by kernel_rfl)) (cs := #[.slice none 0 0]) (cs' := #[.slice a1996 lf.length n1997]) (by kernel_rfl) (fun _ => trivial) ?_
        intro h2104 s2105
        refine Op.pures 1 [6, 7] (L' := []) (e' := [(6, .pointer (some ⟨b1983, 0, none⟩)), (7, .slice a1992 out.length n1993)]) (by kernel_rfl) ?_
        refine Op.goto 19 (by kernel_rfl) ?_
        obtain ⟨g2106, s2107, hle2108, hf2109⟩ := Row.freeze R1999 (s2105.front 0 rfl)
        replace R1995 := R1995.mono hle2108
        replace hG := hG.mono hle2108
        obtain ⟨g2110, s2111, hle2112, hf2113⟩ := Row.freeze R1995 (s2107.front 0 rfl)
        replace hG := hG.mono hle2112
        replace hf2109 := hf2109.mono hle2112
        refine At.retM (f := Tryd.f24) (vs := [.agg #[.slice a1996 lf.length n1997], .slice a1992 out.length n1993]) (rl := [.cell 6 36, .tmp 7]) (v := .tuple #[.agg #[.slice a1996 lf.length n1997], .slice a1992 out.length n1993]) (by kernel_rfl) (by kernel_rfl) ⟨⟨_, _, rfl, resAgg (n := 1) (by kernel_rfl) (s2111.chunk 0 rfl) (by kernel_rfl) rfl⟩, rfl, trivial⟩ rfl ?_
        have s2114 : St h g (ids []) g2110 [] h2104 := (s2111).drop.drop
        refine hR _ _ _ _ s2114 ⟨(.slice a1996 lf.length n1997), (.slice a1992 out.length n1993), ?_, ?_, ?_, rfl⟩
        · exact eqT2 rfl rfl
        · exact slEq hf2109 (by first | exact filt_end ho c2101 | exact filt_end hl c2101)
        · exact slEq hf2113 (by first | exact filt_end ho c2101 | exact filt_end hl c2101)
  have R2115 : Row 27 kWatch g (.slice (some ⟨b1986, 0, none⟩) 0 0) ([] : List Watch) [(b1986, Obj.cells #[] 27 (0, 0))] := Row.lit (by kernel_rfl) (by unfold maxLen; decide) (by kernel_rfl) Reads.nil
  have R2116 : Row 27 kWatch g (.slice (some ⟨b1989, 0, none⟩) 0 0) ([] : List Watch) [(b1989, Obj.cells #[] 27 (0, 0))] := Row.lit (by kernel_rfl) (by unfold maxLen; decide) (by kernel_rfl) Reads.nil
  exact loop4 _  ([] : List Watch) ([] : List Watch) 0 _ _ _ _ _ _ _ (Nat.lt_succ_self _) (by first | omega | (have := filtLen ho; have := filtLen hl; omega) | (have := filtLen ho; have := filtLen hl; simp only [List.length_cons, List.length_nil]; omega)) (by first | omega | (have := filtLen ho; have := filtLen hl; omega) | (have := filtLen ho; have := filtLen hl; simp only [List.length_cons, List.length_nil]; omega)) (by rfl) (by rfl) R2115 R2116 s1991

/-- stanchion/stanchionlaw11.great -/
theorem great11 (B : World) (h : Heap) (g : GH) (hg : Sub g h) (hG : Glob g) (v_script : Value) (script : List L11Op) (h_script : SlR g 40 kL11Op v_script script) (h1 : script.length ≤ 2000000) (hb : ∀ o ∈ script, o.Paths.length ≤ 2000000 ∧ o.Clients.length ≤ 2000000 ∧ o.Watch.Path.length ≤ 2000000) :
    Spec Tryd.prog B 19 #[v_script] h g [] (fun rv g' L' => rv = .bool (decide (greatN script 0 > 5000)) ∧ g' = g ∧ L' = []) := by
  obtain ⟨a_script, n_script, rfl⟩ := h_script.form
  refine Spec.of_at (f := Tryd.f19) (e := [(0, .slice a_script script.length n_script)]) Tryd.func19 (by kernel_rfl) (Nat.le_of_ble_eq_true (by kernel_rfl)) (by kernel_rfl) (by kernel_rfl) ?_
  intro R hR
  have s0 := St.init hg
  refine At.reg (L := [(0, false)]) (by kernel_rfl) ?_
  refine Op.pures 1 [0] (L' := []) (e' := [(0, .slice a_script script.length n_script)]) (by kernel_rfl) ?_
  refine Op.goto 1 (by kernel_rfl) ?_
  refine At.reg (L := [(0, false)]) (by kernel_rfl) ?_
  refine Op.pures 1 [0, 3] (L' := []) (e' := [(0, .slice a_script script.length n_script), (3, .int .i64 0)]) (by kernel_rfl) ?_
  refine Op.goto 2 (by kernel_rfl) ?_
  refine At.reg (L := [(0, false)]) (by kernel_rfl) ?_
  refine Op.pures 1 [0, 3, 4] (L' := []) (e' := [(0, .slice a_script script.length n_script), (3, .int .i64 0), (4, .int .i64 0)]) (by kernel_rfl) ?_
  refine Op.goto 3 (by kernel_rfl) ?_
  have loop3 : ∀ (m : Nat) (n : Int) (i : Int) (h2117 : Heap) (hm : script.length - i.toNat < m) (h0 : 0 ≤ i) (h3 : i ≤ script.length) (hn0 : 0 ≤ n) (hn1 : n ≤ 6100002) (hg : greatN script 0 = greatN (script.drop i.toNat) n)    (s_loop32116 : St h g (ids []) g [] h2117), At (fctx Tryd.prog B 19 Tryd.f19 R) [] 3 [(0, .slice a_script script.length n_script), (3, .int .i64 n), (4, .int .i64 i)] h2117 := by
    intro m; induction m with
    | zero => intros; omega
    | succ m ih3 =>
      intro n i h2117 hm h0 h3 hn0 hn1 hg s_loop32116
      refine At.reg (L := [(0, false), (1, false), (2, false), (3, false), (4, false), (5, false), (6, false), (7, false)]) (by kernel_rfl) ?_
      refine Op.pures 5 [0, 3, 4, 9] (L' := [(5, false), (6, false), (7, false)]) (e' := [(0, .slice a_script script.length n_script), (3, .int .i64 n), (4, .int .i64 i), (9, .bool (decide (i < (script.length : Int))))]) (by kernel_rfl) ?_
      refine Op.ways (b := decide (i < (script.length : Int))) ⟨fun hb => ?_, fun hb => ?_⟩
      · refine Op.cast (e' := [(0, .slice a_script script.length n_script), (3, .int .i64 n), (4, .int .i64 i), (9, .bool true)]) (by rw [hb]) ?_
        have c2118 : i < (script.length : Int) := of_decide_eq_true hb
        clear hb
        refine Op.pures 3 [0, 3, 4, 12] (L' := []) (e' := [(0, .slice a_script script.length n_script), (3, .int .i64 n), (4, .int .i64 i), (12, .bool (decide (n ≤ (100000 : Int))))]) (by kernel_rfl) ?_
        refine Op.goto 4 (by kernel_rfl) ?_
        refine At.cond (b := decide (n ≤ (100000 : Int))) (c := .tmp 12) (by kernel_rfl) (by kernel_rfl) (by kernel_rfl) 5 7 (by kernel_rfl) (by kernel_rfl) (fun hb => ?_) (fun hb => ?_)
        · have c2119 : n ≤ (100000 : Int) := of_decide_eq_true hb
          clear hb
          refine At.keep [0, 3, 4] ?_; show At _ _ _ [(0, .slice a_script script.length n_script), (3, .int .i64 n), (4, .int .i64 i)] _
          refine At.draw (by kernel_rfl) (fun _ => False) [(0, true), (1, true), (2, true), (3, true), (4, true), (8, true), (9, true), (10, true), (11, true), (15, true), (16, true), (17, true), (18, true), (19, true), (5, true), (6, true), (7, true), (12, true), (13, true), (14, true), (20, false), (21, true), (22, true), (23, true), (24, true)] (by kernel_rfl) ?_
          refine Op.pures 3 [0, 3, 4, 15, 16, 17] (L' := [(3, true), (4, true), (8, true), (9, true), (10, true), (11, true), (15, true), (16, true), (17, true), (18, true), (19, true), (5, true), (6, true), (7, true), (12, true), (13, true), (14, true), (20, false), (21, true), (22, true), (23, true), (24, true)]) (e' := [(0, .slice a_script script.length n_script), (3, .int .i64 n), (4, .int .i64 i), (15, .int .i64 n), (16, .slice a_script script.length n_script), (17, .int .i64 i)]) (by kernel_rfl) ?_
          obtain ⟨x2120, hx2121⟩ : ∃ c, script[(i : Int).toNat]? = some c := ⟨_, List.getElem?_eq_getElem (by first | omega | (have hbb := hb _ (List.mem_of_getElem? {hx0}); omega))⟩
          obtain ⟨b2122, o2123, cu2124, fz2125, ha2126, hb2127, hk2128⟩ := SlR.at_ h_script _ hx2121
          cases ha2126
          refine Op.idx (T := 33) (E := 40) (sz := 6) (by_ := 88) (n := script.length) (c := n_script) (k := .i64) (x := (.tmp 16)) (ix := (.tmp 17)) (dst := 18) (bk := b2122) (o := o2123) (m := i) (by kernel_rfl) (by kernel_rfl) (by kernel_rfl) (by kernel_rfl) (by first | omega | (have hbb := hb _ (List.mem_of_getElem? {hx0}); omega)) (by first | omega | (have hbb := hb _ (List.mem_of_getElem? {hx0}); omega)) ?_
          obtain ⟨v2129, v2131, hv2130, hv2132, hk2128⟩ := hk2128
          obtain ⟨a2133, n2134, rfl⟩ := hv2130.form
          obtain ⟨a2135, n2136, rfl⟩ := hv2132.form
          refine Op.pures 3 [0, 3, 4, 15, 19, 23, 24] (L' := [(10, true), (11, true), (15, true), (16, true), (17, true), (18, true), (19, true), (5, true), (6, true), (7, true), (12, true), (13, true), (14, true), (20, false), (21, true), (22, true), (23, true), (24, true)]) (e' := [(0, .slice (some ⟨b2122, o2123, none⟩) script.length n_script), (3, .int .i64 n), (4, .int .i64 i), (15, .int .i64 n), (19, .pointer (some ⟨b2122, o2123 + (i : Int).toNat * 6 + 4, none⟩)), (23, .slice (some ⟨b2122, o2123, none⟩) script.length n_script), (24, .int .i64 i)]) (by kernel_rfl) ?_
          obtain ⟨b2139, o2140, cu2141, fz2142, ha2143, hb2144, hk2145⟩ := SlR.at_ h_script _ hx2121
          cases ha2143
          refine Op.idx (T := 33) (E := 40) (sz := 6) (by_ := 88) (n := script.length) (c := n_script) (k := .i64) (x := (.tmp 23)) (ix := (.tmp 24)) (dst := 25) (bk := b2122) (o := o2123) (m := i) (by kernel_rfl) (by kernel_rfl) (by kernel_rfl) (by kernel_rfl) (by first | omega | (have hbb := hb _ (List.mem_of_getElem? hx2121); omega)) (by first | omega | (have hbb := hb _ (List.mem_of_getElem? hx2121); omega)) ?_
          obtain ⟨v2146, v2148, hv2147, hv2149, hk2145⟩ := hk2145
          obtain ⟨a2150, n2151, rfl⟩ := hv2147.form
          obtain ⟨a2152, n2153, rfl⟩ := hv2149.form
          refine Op.pures 3 [0, 3, 4, 15, 19, 26, 30, 31] (L' := [(17, true), (18, true), (19, true), (5, true), (6, true), (7, true), (12, true), (13, true), (14, true), (20, false), (21, true), (22, true), (23, true), (24, true)]) (e' := [(0, .slice (some ⟨b2122, o2123, none⟩) script.length n_script), (3, .int .i64 n), (4, .int .i64 i), (15, .int .i64 n), (19, .pointer (some ⟨b2122, o2123 + (i : Int).toNat * 6 + 4, none⟩)), (26, .pointer (some ⟨b2122, o2123 + (i : Int).toNat * 6 + 5, none⟩)), (30, .slice (some ⟨b2122, o2123, none⟩) script.length n_script), (31, .int .i64 i)]) (by kernel_rfl) ?_
          obtain ⟨b2156, o2157, cu2158, fz2159, ha2160, hb2161, hk2162⟩ := SlR.at_ h_script _ hx2121
          cases ha2160
          refine Op.idx (T := 33) (E := 40) (sz := 6) (by_ := 88) (n := script.length) (c := n_script) (k := .i64) (x := (.tmp 30)) (ix := (.tmp 31)) (dst := 32) (bk := b2122) (o := o2123) (m := i) (by kernel_rfl) (by kernel_rfl) (by kernel_rfl) (by kernel_rfl) (by first | omega | (have hbb := hb _ (List.mem_of_getElem? hx2121); omega)) (by first | omega | (have hbb := hb _ (List.mem_of_getElem? hx2121); omega)) ?_
          obtain ⟨v2163, v2165, hv2164, hv2166, hk2162⟩ := hk2162
          obtain ⟨a2167, n2168, rfl⟩ := hv2164.form
          obtain ⟨a2169, n2170, rfl⟩ := hv2166.form
          refine Op.pures 2 [0, 3, 4, 15, 19, 26, 34] (L' := [(5, true), (6, true), (7, true), (12, true), (13, true), (14, true), (20, false), (21, true), (22, true), (23, true), (24, true)]) (e' := [(0, .slice (some ⟨b2122, o2123, none⟩) script.length n_script), (3, .int .i64 n), (4, .int .i64 i), (15, .int .i64 n), (19, .pointer (some ⟨b2122, o2123 + (i : Int).toNat * 6 + 4, none⟩)), (26, .pointer (some ⟨b2122, o2123 + (i : Int).toNat * 6 + 5, none⟩)), (34, .pointer (some ⟨b2122, o2123 + (i : Int).toNat * 6 + 1 + 2, none⟩))]) (by kernel_rfl) ?_
          refine Op.loadF (T := 37) (x := (.tmp 19)) (o := o2123 + (i : Int).toNat * 6 + 4) (d := 20) (n := 1) (v := .slice a2133 x2120.Paths.length n2134) (by kernel_rfl) (by kernel_rfl) (by kernel_rfl) (fun h => h) (s_loop32116.sub _ _ hb2127) (cut_get hk2128 4 rfl) ?_
          refine Op.pures 1 [0, 3, 4, 15, 21, 26, 34] (L' := [(7, true), (12, true), (13, true), (14, true), (20, false), (21, true), (22, true), (23, true), (24, true)]) (e' := [(0, .slice (some ⟨b2122, o2123, none⟩) script.length n_script), (3, .int .i64 n), (4, .int .i64 i), (15, .int .i64 n), (21, .int .i64 (x2120.Paths.length : Int)), (26, .pointer (some ⟨b2122, o2123 + (i : Int).toNat * 6 + 5, none⟩)), (34, .pointer (some ⟨b2122, o2123 + (i : Int).toNat * 6 + 1 + 2, none⟩))]) (by kernel_rfl) ?_
          refine Op.val (dst := some 22) (v := .int .i64 (IntKind.wrap .i64 ((1 : Int) + (x2120.Paths.length : Int)))) (v' := .int .i64 ((1 : Int) + (x2120.Paths.length : Int))) (by kernel_rfl) (wrapEq_i64 (by first | omega | (have hbb := hb _ (List.mem_of_getElem? hx2121); omega)) (by first | omega | (have hbb := hb _ (List.mem_of_getElem? hx2121); omega))) ?_
          refine Op.loadF (T := 38) (x := (.tmp 26)) (o := o2123 + (i : Int).toNat * 6 + 5) (d := 27) (n := 1) (v := .slice a2152 x2120.Clients.length n2153) (by kernel_rfl) (by kernel_rfl) (by kernel_rfl) (fun h => h) (s_loop32116.sub _ _ hb2144) (cut_get hk2145 5 rfl) ?_
          refine Op.pures 1 [0, 3, 4, 15, 22, 28, 34] (L' := [(14, true), (20, false), (21, true), (22, true), (23, true), (24, true)]) (e' := [(0, .slice (some ⟨b2122, o2123, none⟩) script.length n_script), (3, .int .i64 n), (4, .int .i64 i), (15, .int .i64 n), (22, .int .i64 ((1 : Int) + (x2120.Paths.length : Int))), (28, .int .i64 (x2120.Clients.length : Int)), (34, .pointer (some ⟨b2122, o2123 + (i : Int).toNat * 6 + 1 + 2, none⟩))]) (by kernel_rfl) ?_
          refine Op.val (dst := some 29) (v := .int .i64 (IntKind.wrap .i64 (((1 : Int) + (x2120.Paths.length : Int)) + (x2120.Clients.length : Int)))) (v' := .int .i64 (((1 : Int) + (x2120.Paths.length : Int)) + (x2120.Clients.length : Int))) (by kernel_rfl) (wrapEq_i64 (by first | omega | (have hbb := hb _ (List.mem_of_getElem? hx2121); omega)) (by first | omega | (have hbb := hb _ (List.mem_of_getElem? hx2121); omega))) ?_
          refine Op.load (T := 9) (x := (.tmp 34)) (o := o2123 + (i : Int).toNat * 6 + 1 + 2) (d := 35) (n := 1) (v := .string (mkS x2120.Watch.Path)) (by kernel_rfl) (by kernel_rfl) (by kernel_rfl) (s_loop32116.sub _ _ hb2161) (cut_get hk2162 3 rfl) ?_
          refine Op.pures 1 [0, 3, 4, 15, 29, 36] (L' := [(22, true), (23, true), (24, true)]) (e' := [(0, .slice (some ⟨b2122, o2123, none⟩) script.length n_script), (3, .int .i64 n), (4, .int .i64 i), (15, .int .i64 n), (29, .int .i64 (((1 : Int) + (x2120.Paths.length : Int)) + (x2120.Clients.length : Int))), (36, .int .i64 (x2120.Watch.Path.length : Int))]) (by kernel_rfl) ?_
          refine Op.val (dst := some 37) (v := .int .i64 (IntKind.wrap .i64 ((((1 : Int) + (x2120.Paths.length : Int)) + (x2120.Clients.length : Int)) + (x2120.Watch.Path.length : Int)))) (v' := .int .i64 ((((1 : Int) + (x2120.Paths.length : Int)) + (x2120.Clients.length : Int)) + (x2120.Watch.Path.length : Int))) (by kernel_rfl) (wrapEq_i64 (by first | omega | (have hbb := hb _ (List.mem_of_getElem? hx2121); omega)) (by first | omega | (have hbb := hb _ (List.mem_of_getElem? hx2121); omega))) ?_
          refine Op.val (dst := some 38) (v := .int .i64 (IntKind.wrap .i64 (n + ((((1 : Int) + (x2120.Paths.length : Int)) + (x2120.Clients.length : Int)) + (x2120.Watch.Path.length : Int))))) (v' := .int .i64 (n + ((((1 : Int) + (x2120.Paths.length : Int)) + (x2120.Clients.length : Int)) + (x2120.Watch.Path.length : Int)))) (by kernel_rfl) (wrapEq_i64 (by first | omega | (have hbb := hb _ (List.mem_of_getElem? hx2121); omega)) (by first | omega | (have hbb := hb _ (List.mem_of_getElem? hx2121); omega))) ?_
          refine Op.pures 1 [0, 3, 4] (L' := []) (e' := [(0, .slice (some ⟨b2122, o2123, none⟩) script.length n_script), (3, .int .i64 (n + ((((1 : Int) + (x2120.Paths.length : Int)) + (x2120.Clients.length : Int)) + (x2120.Watch.Path.length : Int)))), (4, .int .i64 i)]) (by kernel_rfl) ?_
          refine Op.goto 6 (by kernel_rfl) ?_
          refine At.reg (L := [(0, false), (1, false), (2, false)]) (by kernel_rfl) ?_
          refine Op.pures 1 [0, 3, 4, 13] (L' := [(1, false), (2, false)]) (e' := [(0, .slice (some ⟨b2122, o2123, none⟩) script.length n_script), (3, .int .i64 (n + ((((1 : Int) + (x2120.Paths.length : Int)) + (x2120.Clients.length : Int)) + (x2120.Watch.Path.length : Int)))), (4, .int .i64 i), (13, .int .i64 i)]) (by kernel_rfl) ?_
          refine Op.val (dst := some 14) (v := .int .i64 (IntKind.wrap .i64 (i + 1))) (v' := .int .i64 (i + 1)) (by kernel_rfl) (wrapEq_i64 (by first | omega | (have hbb := hb _ (List.mem_of_getElem? hx2121); omega)) (by first | omega | (have hbb := hb _ (List.mem_of_getElem? hx2121); omega))) ?_
          refine Op.pures 1 [0, 3, 4] (L' := []) (e' := [(0, .slice (some ⟨b2122, o2123, none⟩) script.length n_script), (3, .int .i64 (n + ((((1 : Int) + (x2120.Paths.length : Int)) + (x2120.Clients.length : Int)) + (x2120.Watch.Path.length : Int)))), (4, .int .i64 (i + 1))]) (by kernel_rfl) ?_
          refine Op.goto 3 (by kernel_rfl) ?_
          exact ih3  (n + ((((1 : Int) + (x2120.Paths.length : Int)) + (x2120.Clients.length : Int)) + (x2120.Watch.Path.length : Int))) (i + 1) _ (by omega) (by first | omega | (have hbb := hb _ (List.mem_of_getElem? hx2121); omega)) (by first | omega | (have hbb := hb _ (List.mem_of_getElem? hx2121); omega)) (by first | omega | (have hbb := hb _ (List.mem_of_getElem? hx2121); omega)) (by first | omega | (have hbb := hb _ (List.mem_of_getElem? hx2121); omega)) (by exact great_step hg h0 hx2121 (by assumption))  s_loop32116
        · have c2171 : ¬ (n ≤ (100000 : Int)) := of_decide_eq_false hb
          clear hb
          refine At.keep [3] ?_; show At _ _ _ [(3, .int .i64 n)] _
          refine At.reg (L := [(0, false), (1, false), (2, false)]) (by kernel_rfl) ?_
          refine Op.pures 3 [2] (L' := []) (e' := [(2, .bool (decide (n > (5000 : Int))))]) (by kernel_rfl) ?_
          refine Op.goto 8 (by kernel_rfl) ?_
          refine At.ret (f := Tryd.f19) (v := .bool (decide (n > (5000 : Int)))) (by kernel_rfl) (by kernel_rfl) ?_
          refine hR _ _ _ _ s_loop32116 ⟨?_, rfl, rfl⟩
          exact (eqB (by first | rw [great_end1 hg (by assumption)] | rw [great_end2 hg (by assumption)]))
      · refine Op.cast (e' := [(0, .slice a_script script.length n_script), (3, .int .i64 n), (4, .int .i64 i), (9, .bool false)]) (by rw [hb]) ?_
        have c2172 : ¬ (i < (script.length : Int)) := of_decide_eq_false hb
        clear hb
        refine Op.pures 3 [0, 3, 4, 12] (L' := []) (e' := [(0, .slice a_script script.length n_script), (3, .int .i64 n), (4, .int .i64 i), (12, .bool false)]) (by kernel_rfl) ?_
        refine Op.goto 4 (by kernel_rfl) ?_
        refine At.condF (c := .tmp 12) (by kernel_rfl) (by kernel_rfl) (by kernel_rfl) 7 (by kernel_rfl) ?_
        refine At.reg (L := [(0, false), (1, false), (2, false)]) (by kernel_rfl) ?_
        refine Op.pures 3 [2] (L' := []) (e' := [(2, .bool (decide (n > (5000 : Int))))]) (by kernel_rfl) ?_
        refine Op.goto 8 (by kernel_rfl) ?_
        refine At.ret (f := Tryd.f19) (v := .bool (decide (n > (5000 : Int)))) (by kernel_rfl) (by kernel_rfl) ?_
        refine hR _ _ _ _ s_loop32116 ⟨?_, rfl, rfl⟩
        exact (eqB (by first | rw [great_end1 hg (by assumption)] | rw [great_end2 hg (by assumption)]))
  exact loop3 _  0 0 _ (Nat.lt_succ_self _) (by first | omega | (have hbb := hb _ (List.mem_of_getElem? {hx0}); omega)) (by first | omega | (have hbb := hb _ (List.mem_of_getElem? {hx0}); omega)) (by first | omega | (have hbb := hb _ (List.mem_of_getElem? {hx0}); omega)) (by first | omega | (have hbb := hb _ (List.mem_of_getElem? {hx0}); omega)) (by rfl)  s0

end Go.Proofs.YtphonojjgnbpfaaDoor.Sw
