/- Walks of the functions that are named below: what each computes, as plain Lean words. Printed by a program of our own. -/
import Derived.Test.YtphonojjgnbpfaaDoorSwWatch2
import Derived.Test.YtphonojjgnbpfaaDoorSwWatchQ
namespace Go.Proofs.YtphonojjgnbpfaaDoor.Sw
open Go
set_option maxRecDepth 100000
set_option linter.unusedVariables false
set_option linter.unusedSimpArgs false
set_option linter.deprecated false
def IsTab (g : GH) (b : Nat) (x : List Watch) (c : Chunk) : Prop := ∃ v0 c0, c = (b, .cells #[v0] 73 (0, 0)) :: (c0) ∧ Row 27 kWatch g v0 x c0
theorem IsTab.mono {g g' : GH} {b : Nat} {x : List Watch} {c : Chunk} (h : IsTab g b x c) (hg : gle g g') : IsTab g' b x c := by
  obtain ⟨v0, c0, e, h0⟩ := h
  exact ⟨v0, c0, e, h0.mono hg⟩
theorem IsTab.eq {g : GH} {b : Nat} {x y : List Watch} {c : Chunk} (h : IsTab g b x c) (e : x = y) : IsTab g b y c := e ▸ h
theorem IsTab.flat {g g' : GH} {b : Nat} {x : List Watch} {c : Chunk} (h : IsTab g b x c) : IsTab g' b x c := by
  obtain ⟨v0, c0, e, h0⟩ := h
  exact ⟨v0, c0, e, h0.flat (fun _ _ _ _ h => h)⟩
def IsOutW (g : GH) (b : Nat) (x : List Watch) (c : Chunk) : Prop := ∃ v0 c0, c = (b, .cells #[v0] 22 (0, 0)) :: (c0) ∧ Row 27 kWatch g v0 x c0
theorem IsOutW.mono {g g' : GH} {b : Nat} {x : List Watch} {c : Chunk} (h : IsOutW g b x c) (hg : gle g g') : IsOutW g' b x c := by
  obtain ⟨v0, c0, e, h0⟩ := h
  exact ⟨v0, c0, e, h0.mono hg⟩
theorem IsOutW.eq {g : GH} {b : Nat} {x y : List Watch} {c : Chunk} (h : IsOutW g b x c) (e : x = y) : IsOutW g b y c := e ▸ h
theorem IsOutW.flat {g g' : GH} {b : Nat} {x : List Watch} {c : Chunk} (h : IsOutW g b x c) : IsOutW g' b x c := by
  obtain ⟨v0, c0, e, h0⟩ := h
  exact ⟨v0, c0, e, h0.flat (fun _ _ _ _ h => h)⟩


/-- slices.BinarySearchFunc[[]stanchion/api.Watch,stanchion/api.Watch,stanchion/api.Watch] -/
theorem searchW (B : World) (h : Heap) (g : GH) (hg : Sub g h) (hG : Glob g) (v_x : Value) (x : List Watch) (h_x : SlR g 27 kWatch v_x x) (target : Watch) (hs0 : SortW x) (hlen : x.length ≤ 1000000000) :
    Spec Tryd.prog B 48 #[v_x, .agg #[.int .i64 target.Client, .int .i64 target.Kind, .string (mkS target.Path)], .func (.func 49) #[] #[]] h g [] (fun rv g' L' => rv = .tuple #[.int .i64 (posW x target : Int), .bool (hasW x target)] ∧ g' = g ∧ L' = []) := by
  obtain ⟨a_x, n_x, rfl⟩ := h_x.form
  refine Spec.of_at (f := Tryd.f48) (e := [(0, .slice a_x x.length n_x), (1, .agg #[.int .i64 target.Client, .int .i64 target.Kind, .string (mkS target.Path)]), (2, .func (.func 49) #[] #[])]) Tryd.func48 (by kernel_rfl) (Nat.le_of_ble_eq_true (by kernel_rfl)) (by kernel_rfl) (by kernel_rfl) ?_
  intro R hR
  have s0 := St.init hg
  refine At.reg (L := [(0, false), (1, false), (2, false)]) (by kernel_rfl) ?_
  refine Op.box (T := 27) (x := (.tmp 1)) (d := 4) (cs := #[.int .i64 target.Client, .int .i64 target.Kind, .string (mkS target.Path)]) (by kernel_rfl) (by kernel_rfl) s0 ?_
  intro b2173 h2174 s2175
  refine Op.pures 2 [0, 2, 4] (L' := []) (e' := [(0, .slice a_x x.length n_x), (2, .func (.func 49) #[] #[]), (4, .pointer (some ⟨b2173, 0, none⟩))]) (by kernel_rfl) ?_
  refine Op.goto 1 (by kernel_rfl) ?_
  refine At.reg (L := [(0, false), (1, false), (2, false)]) (by kernel_rfl) ?_
  refine Op.pures 3 [0, 2, 4, 8] (L' := []) (e' := [(0, .slice a_x x.length n_x), (2, .func (.func 49) #[] #[]), (4, .pointer (some ⟨b2173, 0, none⟩)), (8, .int .i64 (x.length : Int))]) (by kernel_rfl) ?_
  refine Op.goto 2 (by kernel_rfl) ?_
  refine At.reg (L := [(0, false), (1, false), (2, false)]) (by kernel_rfl) ?_
  refine Op.pures 3 [0, 2, 4, 8, 9, 10] (L' := []) (e' := [(0, .slice a_x x.length n_x), (2, .func (.func 49) #[] #[]), (4, .pointer (some ⟨b2173, 0, none⟩)), (8, .int .i64 (x.length : Int)), (9, .int .i64 0), (10, .int .i64 (x.length : Int))]) (by kernel_rfl) ?_
  refine Op.goto 3 (by kernel_rfl) ?_
  have loop3 : ∀ (m : Nat) (i : Int) (jj : Int) (h2176 : Heap) (hm : (jj - i).toNat < m) (h0 : 0 ≤ i) (h1 : i ≤ jj) (h2 : jj ≤ x.length) (hl : Lo x target i) (hh : Hi x target jj)    (s_loop32175 : St h g (ids []) g [[(b2173, Obj.cells #[.int .i64 target.Client, .int .i64 target.Kind, .string (mkS target.Path)] 27 (0, 0))]] h2176), At (fctx Tryd.prog B 48 Tryd.f48 R) [] 3 [(0, .slice a_x x.length n_x), (2, .func (.func 49) #[] #[]), (4, .pointer (some ⟨b2173, 0, none⟩)), (8, .int .i64 (x.length : Int)), (9, .int .i64 i), (10, .int .i64 jj)] h2176 := by
    intro m; induction m with
    | zero => intros; omega
    | succ m ih3 =>
      intro i jj h2176 hm h0 h1 h2 hl hh s_loop32175
      refine At.reg (L := [(0, false), (1, false), (2, false)]) (by kernel_rfl) ?_
      refine Op.pures 3 [0, 2, 4, 8, 9, 10, 17] (L' := []) (e' := [(0, .slice a_x x.length n_x), (2, .func (.func 49) #[] #[]), (4, .pointer (some ⟨b2173, 0, none⟩)), (8, .int .i64 (x.length : Int)), (9, .int .i64 i), (10, .int .i64 jj), (17, .bool (decide (i < jj)))]) (by kernel_rfl) ?_
      refine Op.goto 4 (by kernel_rfl) ?_
      refine At.cond (b := decide (i < jj)) (c := .tmp 17) (by kernel_rfl) (by kernel_rfl) (by kernel_rfl) 5 10 (by kernel_rfl) (by kernel_rfl) (fun hb => ?_) (fun hb => ?_)
      · have c2177 : i < jj := of_decide_eq_true hb
        clear hb
        refine At.keep [0, 2, 4, 8, 9, 10] ?_; show At _ _ _ [(0, .slice a_x x.length n_x), (2, .func (.func 49) #[] #[]), (4, .pointer (some ⟨b2173, 0, none⟩)), (8, .int .i64 (x.length : Int)), (9, .int .i64 i), (10, .int .i64 jj)] _
        refine At.reg (L := [(0, false), (1, false), (2, false), (3, false), (4, false), (5, false), (6, false)]) (by kernel_rfl) ?_
        refine Op.pures 2 [0, 2, 4, 8, 9, 10, 18, 19] (L' := [(2, false), (3, false), (4, false), (5, false), (6, false)]) (e' := [(0, .slice a_x x.length n_x), (2, .func (.func 49) #[] #[]), (4, .pointer (some ⟨b2173, 0, none⟩)), (8, .int .i64 (x.length : Int)), (9, .int .i64 i), (10, .int .i64 jj), (18, .int .i64 i), (19, .int .i64 jj)]) (by kernel_rfl) ?_
        refine Op.val (dst := some 20) (v := .int .i64 (IntKind.wrap .i64 (i + jj))) (v' := .int .i64 (i + jj)) (by kernel_rfl) (wrapEq_i64 (by first | omega | assumption) (by first | omega | assumption)) ?_
        refine Op.val (dst := some 21) (v := .int .u64 (IntKind.wrap .u64 (i + jj))) (v' := .int .u64 (i + jj)) (by kernel_rfl) (wrapEq_u64 (by first | omega | assumption) (by first | omega | assumption)) ?_
        refine Op.val (dst := some 22) (v := .int .u64 (Int.fdiv (i + jj) (2 ^ 1))) (v' := .int .u64 ((i + jj) / 2)) (by kernel_rfl) (shrEq _ _ _ rfl (by decide)) ?_
        refine Op.val (dst := some 23) (v := .int .i64 (IntKind.wrap .i64 ((i + jj) / 2))) (v' := .int .i64 ((i + jj) / 2)) (by kernel_rfl) (wrapEq_i64 (by first | omega | assumption) (by first | omega | assumption)) ?_
        refine Op.pures 1 [0, 2, 4, 8, 9, 10, 11] (L' := []) (e' := [(0, .slice a_x x.length n_x), (2, .func (.func 49) #[] #[]), (4, .pointer (some ⟨b2173, 0, none⟩)), (8, .int .i64 (x.length : Int)), (9, .int .i64 i), (10, .int .i64 jj), (11, .int .i64 ((i + jj) / 2))]) (by kernel_rfl) ?_
        refine Op.goto 6 (by kernel_rfl) ?_
        refine At.draw (by kernel_rfl) (fun _ => False) [(0, true), (1, true), (2, true), (3, true), (4, true), (5, false), (6, false), (7, true)] (by kernel_rfl) ?_
        refine Op.pures 3 [0, 2, 4, 8, 9, 10, 11, 24, 25, 26] (L' := [(3, true), (4, true), (5, false), (6, false), (7, true)]) (e' := [(0, .slice a_x x.length n_x), (2, .func (.func 49) #[] #[]), (4, .pointer (some ⟨b2173, 0, none⟩)), (8, .int .i64 (x.length : Int)), (9, .int .i64 i), (10, .int .i64 jj), (11, .int .i64 ((i + jj) / 2)), (24, .func (.func 49) #[] #[]), (25, .slice a_x x.length n_x), (26, .int .i64 ((i + jj) / 2))]) (by kernel_rfl) ?_
        obtain ⟨x2178, hx2179⟩ : ∃ c, x[((i + jj) / 2 : Int).toNat]? = some c := ⟨_, List.getElem?_eq_getElem (by first | omega | assumption)⟩
        obtain ⟨b2180, o2181, cu2182, fz2183, ha2184, hb2185, hk2186⟩ := SlR.at_ h_x _ hx2179
        cases ha2184
        refine Op.idx (T := 22) (E := 27) (sz := 3) (by_ := 32) (n := x.length) (c := n_x) (k := .i64) (x := (.tmp 25)) (ix := (.tmp 26)) (dst := 27) (bk := b2180) (o := o2181) (m := (i + jj) / 2) (by kernel_rfl) (by kernel_rfl) (by kernel_rfl) (by kernel_rfl) (by first | omega | assumption) (by first | omega | assumption) ?_
        replace hk2186 : cut _ _ _ = [.int .i64 x2178.Client, .int .i64 x2178.Kind, .string (mkS x2178.Path)] := hk2186
        refine Op.loadAF (T := 27) (x := (.tmp 27)) (o := o2181 + ((i + jj) / 2 : Int).toNat * 3) (d := 28) (n := 3) (vs := [.int .i64 x2178.Client, .int .i64 x2178.Kind, .string (mkS x2178.Path)]) (by kernel_rfl) (by kernel_rfl) (by kernel_rfl) (fun h => h) (s_loop32175.sub _ _ hb2185) (hk2186) rfl ?_
        refine Op.loadA (T := 27) (x := (.tmp 4)) (o := 0) (d := 29) (n := 3) (vs := [.int .i64 target.Client, .int .i64 target.Kind, .string (mkS target.Path)]) (by kernel_rfl) (by kernel_rfl) (by kernel_rfl) (s_loop32175.chunk 0 rfl) (by kernel_rfl) rfl ?_
        refine Op.callV (dst := some 30) (x := (.tmp 24)) (ops := #[(.tmp 28), (.tmp 29)]) (ts := #[27, 27]) (f := 49) (first := #[]) (cap := #[]) (Lc := []) (L := [[(b2173, Obj.cells #[.int .i64 target.Client, .int .i64 target.Kind, .string (mkS target.Path)] 27 (0, 0))]]) (args := #[.agg #[.int .i64 x2178.Client, .int .i64 x2178.Kind, .string (mkS x2178.Path)], .agg #[.int .i64 target.Client, .int .i64 target.Kind, .string (mkS target.Path)]]) (by kernel_rfl) (by kernel_rfl) (Enterable.of (by kernel_rfl)) (by kernel_rfl) s_loop32175 (orderW_ _ _ _ s_loop32175.sub hG x2178 target  ) (fun _ _ h => absurd h (ids_nil _)) ?_
        rintro _ g2189 _ h2187 hle2190 s2188 ⟨rfl, hgg, rfl⟩; subst g2189; clear hle2190
        refine Op.pures 1 [0, 2, 4, 8, 9, 10, 11, 31] (L' := []) (e' := [(0, .slice (some ⟨b2180, o2181, none⟩) x.length n_x), (2, .func (.func 49) #[] #[]), (4, .pointer (some ⟨b2173, 0, none⟩)), (8, .int .i64 (x.length : Int)), (9, .int .i64 i), (10, .int .i64 jj), (11, .int .i64 ((i + jj) / 2)), (31, .bool (decide ((ordW x2178 target) < (0 : Int))))]) (by kernel_rfl) ?_
        refine Op.goto 7 (by kernel_rfl) ?_
        refine At.cond (b := decide ((ordW x2178 target) < (0 : Int))) (c := .tmp 31) (by kernel_rfl) (by kernel_rfl) (by kernel_rfl) 8 9 (by kernel_rfl) (by kernel_rfl) (fun hb => ?_) (fun hb => ?_)
        · have c2191 : (ordW x2178 target) < (0 : Int) := of_decide_eq_true hb
          clear hb
          refine At.keep [0, 2, 4, 8, 10, 11] ?_; show At _ _ _ [(0, .slice (some ⟨b2180, o2181, none⟩) x.length n_x), (2, .func (.func 49) #[] #[]), (4, .pointer (some ⟨b2173, 0, none⟩)), (8, .int .i64 (x.length : Int)), (10, .int .i64 jj), (11, .int .i64 ((i + jj) / 2))] _
          refine At.reg (L := [(0, false), (1, false), (2, false)]) (by kernel_rfl) ?_
          refine Op.pures 1 [0, 2, 4, 8, 10, 32] (L' := [(1, false), (2, false)]) (e' := [(0, .slice (some ⟨b2180, o2181, none⟩) x.length n_x), (2, .func (.func 49) #[] #[]), (4, .pointer (some ⟨b2173, 0, none⟩)), (8, .int .i64 (x.length : Int)), (10, .int .i64 jj), (32, .int .i64 ((i + jj) / 2))]) (by kernel_rfl) ?_
          refine Op.val (dst := some 33) (v := .int .i64 (IntKind.wrap .i64 (((i + jj) / 2) + 1))) (v' := .int .i64 (((i + jj) / 2) + 1)) (by kernel_rfl) (wrapEq_i64 (by first | omega | assumption) (by first | omega | assumption)) ?_
          refine Op.pures 1 [0, 2, 4, 8, 9, 10] (L' := []) (e' := [(0, .slice (some ⟨b2180, o2181, none⟩) x.length n_x), (2, .func (.func 49) #[] #[]), (4, .pointer (some ⟨b2173, 0, none⟩)), (8, .int .i64 (x.length : Int)), (9, .int .i64 (((i + jj) / 2) + 1)), (10, .int .i64 jj)]) (by kernel_rfl) ?_
          refine Op.goto 3 (by kernel_rfl) ?_
          exact ih3  (((i + jj) / 2) + 1) jj _ (by omega) (by first | omega | assumption) (by first | omega | assumption) (by first | omega | assumption) (by first | assumption | exact Lo_step hs0 hl (by omega) hx2179 c2191) (by first | assumption | exact Hi_step hs0 (by omega) hx2179 c2191)  s2188
        · have c2192 : ¬ ((ordW x2178 target) < (0 : Int)) := of_decide_eq_false hb
          clear hb
          refine At.keep [0, 2, 4, 8, 9, 11] ?_; show At _ _ _ [(0, .slice (some ⟨b2180, o2181, none⟩) x.length n_x), (2, .func (.func 49) #[] #[]), (4, .pointer (some ⟨b2173, 0, none⟩)), (8, .int .i64 (x.length : Int)), (9, .int .i64 i), (11, .int .i64 ((i + jj) / 2))] _
          refine At.reg (L := [(0, false), (1, false)]) (by kernel_rfl) ?_
          refine Op.pures 2 [0, 2, 4, 8, 9, 10] (L' := []) (e' := [(0, .slice (some ⟨b2180, o2181, none⟩) x.length n_x), (2, .func (.func 49) #[] #[]), (4, .pointer (some ⟨b2173, 0, none⟩)), (8, .int .i64 (x.length : Int)), (9, .int .i64 i), (10, .int .i64 ((i + jj) / 2))]) (by kernel_rfl) ?_
          refine Op.goto 3 (by kernel_rfl) ?_
          exact ih3  i ((i + jj) / 2) _ (by omega) (by first | omega | assumption) (by first | omega | assumption) (by first | omega | assumption) (by first | assumption | exact Lo_step hs0 hl (by omega) hx2179 c2192) (by first | assumption | exact Hi_step hs0 (by omega) hx2179 c2192)  s2188
      · have c2193 : ¬ (i < jj) := of_decide_eq_false hb
        clear hb
        refine At.keep [0, 2, 4, 8, 9] ?_; show At _ _ _ [(0, .slice a_x x.length n_x), (2, .func (.func 49) #[] #[]), (4, .pointer (some ⟨b2173, 0, none⟩)), (8, .int .i64 (x.length : Int)), (9, .int .i64 i)] _
        refine At.draw (by kernel_rfl) (fun _ => False) [(0, true), (1, true), (2, true), (3, true), (4, true), (5, true), (6, true), (7, true), (8, true), (9, true), (10, false), (11, false), (12, true), (13, true), (14, true), (15, true)] (by kernel_rfl) ?_
        refine Op.pures 5 [0, 2, 4, 9, 35, 39] (L' := [(5, true), (6, true), (7, true), (8, true), (9, true), (10, false), (11, false), (12, true), (13, true), (14, true), (15, true)]) (e' := [(0, .slice a_x x.length n_x), (2, .func (.func 49) #[] #[]), (4, .pointer (some ⟨b2173, 0, none⟩)), (9, .int .i64 i), (35, .int .i64 i), (39, .bool (decide (i < (x.length : Int))))]) (by kernel_rfl) ?_
        refine Op.ways (b := decide (i < (x.length : Int))) ⟨fun hb => ?_, fun hb => ?_⟩
        · refine Op.cast (e' := [(0, .slice a_x x.length n_x), (2, .func (.func 49) #[] #[]), (4, .pointer (some ⟨b2173, 0, none⟩)), (9, .int .i64 i), (35, .int .i64 i), (39, .bool true)]) (by rw [hb]) ?_
          have c2194 : i < (x.length : Int) := of_decide_eq_true hb
          clear hb
          refine Op.pures 3 [4, 35, 39, 40, 41, 42] (L' := [(8, true), (9, true), (10, false), (11, false), (12, true), (13, true), (14, true), (15, true)]) (e' := [(4, .pointer (some ⟨b2173, 0, none⟩)), (35, .int .i64 i), (39, .bool true), (40, .func (.func 49) #[] #[]), (41, .slice a_x x.length n_x), (42, .int .i64 i)]) (by kernel_rfl) ?_
          obtain ⟨x2195, hx2196⟩ : ∃ c, x[(i : Int).toNat]? = some c := ⟨_, List.getElem?_eq_getElem (by first | omega | assumption)⟩
          obtain ⟨b2197, o2198, cu2199, fz2200, ha2201, hb2202, hk2203⟩ := SlR.at_ h_x _ hx2196
          cases ha2201
          refine Op.idx (T := 22) (E := 27) (sz := 3) (by_ := 32) (n := x.length) (c := n_x) (k := .i64) (x := (.tmp 41)) (ix := (.tmp 42)) (dst := 43) (bk := b2197) (o := o2198) (m := i) (by kernel_rfl) (by kernel_rfl) (by kernel_rfl) (by kernel_rfl) (by first | omega | assumption) (by first | omega | assumption) ?_
          replace hk2203 : cut _ _ _ = [.int .i64 x2195.Client, .int .i64 x2195.Kind, .string (mkS x2195.Path)] := hk2203
          refine Op.loadAF (T := 27) (x := (.tmp 43)) (o := o2198 + (i : Int).toNat * 3) (d := 44) (n := 3) (vs := [.int .i64 x2195.Client, .int .i64 x2195.Kind, .string (mkS x2195.Path)]) (by kernel_rfl) (by kernel_rfl) (by kernel_rfl) (fun h => h) (s_loop32175.sub _ _ hb2202) (hk2203) rfl ?_
          refine Op.loadA (T := 27) (x := (.tmp 4)) (o := 0) (d := 45) (n := 3) (vs := [.int .i64 target.Client, .int .i64 target.Kind, .string (mkS target.Path)]) (by kernel_rfl) (by kernel_rfl) (by kernel_rfl) (s_loop32175.chunk 0 rfl) (by kernel_rfl) rfl ?_
          refine Op.callV (dst := some 46) (x := (.tmp 40)) (ops := #[(.tmp 44), (.tmp 45)]) (ts := #[27, 27]) (f := 49) (first := #[]) (cap := #[]) (Lc := []) (L := [[(b2173, Obj.cells #[.int .i64 target.Client, .int .i64 target.Kind, .string (mkS target.Path)] 27 (0, 0))]]) (args := #[.agg #[.int .i64 x2195.Client, .int .i64 x2195.Kind, .string (mkS x2195.Path)], .agg #[.int .i64 target.Client, .int .i64 target.Kind, .string (mkS target.Path)]]) (by kernel_rfl) (by kernel_rfl) (Enterable.of (by kernel_rfl)) (by kernel_rfl) s_loop32175 (orderW_ _ _ _ s_loop32175.sub hG x2195 target  ) (fun _ _ h => absurd h (ids_nil _)) ?_
          rintro _ g2206 _ h2204 hle2207 s2205 ⟨rfl, hgg, rfl⟩; subst g2206; clear hle2207
          refine Op.pures 4 [6, 7] (L' := []) (e' := [(6, .int .i64 i), (7, .bool ((ordW x2195 target) == (0 : Int)))]) (by kernel_rfl) ?_
          refine Op.goto 11 (by kernel_rfl) ?_
          refine At.ret (f := Tryd.f48) (v := .tuple #[.int .i64 i, .bool ((ordW x2195 target) == (0 : Int))]) (by kernel_rfl) (by kernel_rfl) ?_
          have s2208 : St h g (ids []) g [] h2204 := (s2205).drop
          refine hR _ _ _ _ s2208 ⟨?_, rfl, rfl⟩
          exact eqT2 (eqI (by first | exact posW_of h0 (by omega) hl (by have e : i = jj := (by omega); rw [e]; exact hh) | exact bs_val h0 hs0 hl (by have e : i = jj := (by omega); rw [e]; exact hh) hx2196 rfl | exact bs_out h0 hs0 hl (by have e : i = jj := (by omega); rw [e]; exact hh) c2194)) (eqB (by first | exact posW_of h0 (by omega) hl (by have e : i = jj := (by omega); rw [e]; exact hh) | exact bs_val h0 hs0 hl (by have e : i = jj := (by omega); rw [e]; exact hh) hx2196 rfl | exact bs_out h0 hs0 hl (by have e : i = jj := (by omega); rw [e]; exact hh) c2194))
        · refine Op.cast (e' := [(0, .slice a_x x.length n_x), (2, .func (.func 49) #[] #[]), (4, .pointer (some ⟨b2173, 0, none⟩)), (9, .int .i64 i), (35, .int .i64 i), (39, .bool false)]) (by rw [hb]) ?_
          have c2209 : ¬ (i < (x.length : Int)) := of_decide_eq_false hb
          clear hb
          refine Op.pures 11 [6, 7] (L' := []) (e' := [(6, .int .i64 i), (7, .bool false)]) (by kernel_rfl) ?_
          refine Op.goto 11 (by kernel_rfl) ?_
          refine At.ret (f := Tryd.f48) (v := .tuple #[.int .i64 i, .bool false]) (by kernel_rfl) (by kernel_rfl) ?_
          have s2210 : St h g (ids []) g [] h2176 := (s_loop32175).drop
          refine hR _ _ _ _ s2210 ⟨?_, rfl, rfl⟩
          exact eqT2 (eqI (by first | exact posW_of h0 (by omega) hl (by have e : i = jj := (by omega); rw [e]; exact hh) | exact bs_val h0 hs0 hl (by have e : i = jj := (by omega); rw [e]; exact hh) {hx0} rfl | exact bs_out h0 hs0 hl (by have e : i = jj := (by omega); rw [e]; exact hh) c2209)) (eqB (by first | exact posW_of h0 (by omega) hl (by have e : i = jj := (by omega); rw [e]; exact hh) | exact bs_val h0 hs0 hl (by have e : i = jj := (by omega); rw [e]; exact hh) {hx0} rfl | exact bs_out h0 hs0 hl (by have e : i = jj := (by omega); rw [e]; exact hh) c2209))
  exact loop3 _  0 (x.length : Int) _ (Nat.lt_succ_self _) (by first | omega | assumption) (by first | omega | assumption) (by first | omega | assumption) (by exact Lo_0 _ _) (by exact Hi_n _ _)  s2175

/-- slices.Insert[[]stanchion/api.Watch,stanchion/api.Watch] -/
theorem insertW (B : World) (h : Heap) (g : GH) (hg : Sub g h) (hG : Glob g) (v_s : Value) (s : List Watch) (c_s : Chunk) (h_s : Row 27 kWatch g v_s s c_s) (i : Int) (v_v : Value) (v : List Watch) (c_v : Chunk) (h_v : Row 27 kWatch g v_v v c_v) (h0 : 0 ≤ i) (hi : i ≤ s.length) (h1 : s.length ≤ 1000000) (h2 : v.length ≤ 1000000) (hs : St h g (ids [c_s, c_v]) g [c_s, c_v] h) :
    Spec Tryd.prog B 51 #[v_s, .int .i64 i, v_v] h g [c_s, c_v] (fun rv g' L' => ∃ v0 k0, rv = v0 ∧ Row 27 kWatch g' v0 (insAt s i v) k0 ∧ g' = g ∧ L' = [k0]) := by
  obtain ⟨a_s, n_s, rfl⟩ := h_s.form
  obtain ⟨a_v, n_v, rfl⟩ := h_v.form
  refine Spec.of_at (f := Tryd.f51) (e := [(0, .slice a_s s.length n_s), (1, .int .i64 i), (2, .slice a_v v.length n_v)]) Tryd.func51 (by kernel_rfl) (Nat.le_of_ble_eq_true (by kernel_rfl)) (by kernel_rfl) (by kernel_rfl) ?_
  intro R hR
  refine At.reg (L := [(0, false)]) (by kernel_rfl) ?_
  refine Op.pures 1 [0, 1, 2] (L' := []) (e' := [(0, .slice a_s s.length n_s), (1, .int .i64 i), (2, .slice a_v v.length n_v)]) (by kernel_rfl) ?_
  refine Op.goto 1 (by kernel_rfl) ?_
  refine At.reg (L := [(0, false), (1, false), (2, false)]) (by kernel_rfl) ?_
  refine Op.pures 2 [0, 1, 2, 10, 11] (L' := [(2, false)]) (e' := [(0, .slice a_s s.length n_s), (1, .int .i64 i), (2, .slice a_v v.length n_v), (10, .slice a_s s.length n_s), (11, .int .i64 i)]) (by kernel_rfl) ?_
  refine Op.slLo (T := 22) (E := 27) (sz := 3) (by_ := 32) (x := (.tmp 10)) (lo := (.tmp 11)) (ao := a_s) (n := s.length) (c := n_s) (dst := 12) (k := .i64) (m := i) (by kernel_rfl) (by kernel_rfl) (by kernel_rfl) (by kernel_rfl) (by first | omega | (simp only [List.length_take] at *; omega)) (by first | omega | (simp only [List.length_take] at *; omega)) ?_
  refine Op.goto 2 (by kernel_rfl) ?_
  refine At.reg (L := [(0, false), (1, false), (2, false)]) (by kernel_rfl) ?_
  refine Op.pures 3 [0, 1, 2, 7] (L' := []) (e' := [(0, .slice a_s s.length n_s), (1, .int .i64 i), (2, .slice a_v v.length n_v), (7, .int .i64 (v.length : Int))]) (by kernel_rfl) ?_
  refine Op.goto 3 (by kernel_rfl) ?_
  refine At.reg (L := [(0, false), (1, false)]) (by kernel_rfl) ?_
  refine Op.pures 2 [0, 1, 2, 7, 16] (L' := []) (e' := [(0, .slice a_s s.length n_s), (1, .int .i64 i), (2, .slice a_v v.length n_v), (7, .int .i64 (v.length : Int)), (16, .bool ((v.length : Int) == (0 : Int)))]) (by kernel_rfl) ?_
  refine Op.goto 4 (by kernel_rfl) ?_
  refine At.cond (b := (v.length : Int) == (0 : Int)) (c := .tmp 16) (by kernel_rfl) (by kernel_rfl) (by kernel_rfl) 5 7 (by kernel_rfl) (by kernel_rfl) (fun hb => ?_) (fun hb => ?_)
  · have c2215 : (v.length : Int) = (0 : Int) := eq_of_beq hb
    clear hb
    refine At.keep [0] ?_; show At _ _ _ [(0, .slice a_s s.length n_s)] _
    refine At.reg (L := [(0, false), (1, false)]) (by kernel_rfl) ?_
    refine Op.pures 2 [6] (L' := []) (e' := [(6, .slice a_s s.length n_s)]) (by kernel_rfl) ?_
    refine Op.goto 6 (by kernel_rfl) ?_
    refine At.ret (f := Tryd.f51) (v := .slice a_s s.length n_s) (by kernel_rfl) (by kernel_rfl) ?_
    have s2216 : St h g (ids [c_s, c_v]) g [c_v, c_s] h := ((hs.front 0 rfl).front 1 rfl)
    have s2217 : St h g (ids [c_s, c_v]) g [c_s] h := (s2216).drop
    refine hR _ _ _ _ s2217 ⟨(.slice a_s s.length n_s), c_s, ?_, ?_, rfl, rfl⟩
    · exact rfl
    · exact rowEq h_s (by first | exact ins_nil (by omega) | exact ins_end (by omega) | (subst_vars; exact ins_grow h0 hi rfl rfl) | (subst_vars; exact ins_place h0 hi rfl (by omega) (by assumption) (by omega)))
  · have c2218 : ¬ ((v.length : Int) = (0 : Int)) := neF hb
    clear hb
    refine At.keep [0, 1, 2, 7] ?_; show At _ _ _ [(0, .slice a_s s.length n_s), (1, .int .i64 i), (2, .slice a_v v.length n_v), (7, .int .i64 (v.length : Int))] _
    refine At.reg (L := [(0, false), (1, false), (2, false)]) (by kernel_rfl) ?_
    refine Op.pures 3 [0, 1, 2, 7, 8] (L' := []) (e' := [(0, .slice a_s s.length n_s), (1, .int .i64 i), (2, .slice a_v v.length n_v), (7, .int .i64 (v.length : Int)), (8, .int .i64 (s.length : Int))]) (by kernel_rfl) ?_
    refine Op.goto 8 (by kernel_rfl) ?_
    refine At.reg (L := [(0, false), (1, false), (2, false)]) (by kernel_rfl) ?_
    refine Op.pures 3 [0, 1, 2, 7, 8, 22] (L' := []) (e' := [(0, .slice a_s s.length n_s), (1, .int .i64 i), (2, .slice a_v v.length n_v), (7, .int .i64 (v.length : Int)), (8, .int .i64 (s.length : Int)), (22, .bool (i == (s.length : Int)))]) (by kernel_rfl) ?_
    refine Op.goto 9 (by kernel_rfl) ?_
    refine At.cond (b := i == (s.length : Int)) (c := .tmp 22) (by kernel_rfl) (by kernel_rfl) (by kernel_rfl) 10 12 (by kernel_rfl) (by kernel_rfl) (fun hb => ?_) (fun hb => ?_)
    · have c2219 : i = (s.length : Int) := eq_of_beq hb
      clear hb
      refine At.keep [0, 2] ?_; show At _ _ _ [(0, .slice a_s s.length n_s), (2, .slice a_v v.length n_v)] _
      refine At.reg (L := [(0, false), (1, false), (2, false), (3, false)]) (by kernel_rfl) ?_
      refine Op.pures 2 [23, 24] (L' := [(2, false), (3, false)]) (e' := [(23, .slice a_s s.length n_s), (24, .slice a_v v.length n_v)]) (by kernel_rfl) ?_
      obtain ⟨ns2220, hs2221, hr2222⟩ := Src.slice (P := Tryd.prog) (h_v.toH hs 1 rfl)
      refine Op.append (x := (.tmp 23)) (y := (.tmp 24)) (t := 22) (t' := 22) (dst := 25) (E := 27) (by_ := 32) (d := kWatch) (by kernel_rfl) (by kernel_rfl) (by kernel_rfl) (by kernel_rfl) rfl h_s hs 0 rfl hs2221 (ys := v) hr2222 rfl (by first | omega | (simp only [List.length_take] at *; omega)) (fun _ _ _ => trivial) ?_
      intro v2223 ch2224 h2225 R2226 s2227 nn2228
      obtain ⟨a2229, n2230, rfl⟩ := R2226.form
      refine Op.pures 1 [6] (L' := []) (e' := [(6, .slice a2229 ((s ++ v).length) n2230)]) (by kernel_rfl) ?_
      refine Op.goto 11 (by kernel_rfl) ?_
      refine At.ret (f := Tryd.f51) (v := .slice a2229 ((s ++ v).length) n2230) (by kernel_rfl) (by kernel_rfl) ?_
      have s2231 : St h g (ids [c_s, c_v]) g [c_v, ch2224] h2225 := ((s2227.front 0 rfl).front 1 rfl)
      have s2232 : St h g (ids [c_s, c_v]) g [ch2224] h2225 := (s2231).drop
      refine hR _ _ _ _ s2232 ⟨(.slice a2229 ((s ++ v).length) n2230), ch2224, ?_, ?_, rfl, rfl⟩
      · exact rfl
      · exact rowEq R2226 (by first | exact ins_nil (by omega) | exact ins_end (by omega) | (subst_vars; exact ins_grow h0 hi rfl rfl) | (subst_vars; exact ins_place h0 hi rfl (by omega) (by assumption) (by omega)))
    · have c2233 : ¬ (i = (s.length : Int)) := neF hb
      clear hb
      refine At.keep [0, 1, 2, 7, 8] ?_; show At _ _ _ [(0, .slice a_s s.length n_s), (1, .int .i64 i), (2, .slice a_v v.length n_v), (7, .int .i64 (v.length : Int)), (8, .int .i64 (s.length : Int))] _
      refine At.reg (L := [(0, false), (1, false), (2, false), (3, false), (4, false), (5, false)]) (by kernel_rfl) ?_
      refine Op.pures 2 [0, 1, 2, 7, 8, 26, 27] (L' := [(2, false), (3, false), (4, false), (5, false)]) (e' := [(0, .slice a_s s.length n_s), (1, .int .i64 i), (2, .slice a_v v.length n_v), (7, .int .i64 (v.length : Int)), (8, .int .i64 (s.length : Int)), (26, .int .i64 (s.length : Int)), (27, .int .i64 (v.length : Int))]) (by kernel_rfl) ?_
      refine Op.val (dst := some 28) (v := .int .i64 (IntKind.wrap .i64 ((s.length : Int) + (v.length : Int)))) (v' := .int .i64 ((s.length : Int) + (v.length : Int))) (by kernel_rfl) (wrapEq_i64 (by first | omega | (simp only [List.length_take] at *; omega)) (by first | omega | (simp only [List.length_take] at *; omega))) ?_
      refine Op.pures 3 [0, 1, 2, 7, 8, 31] (L' := []) (e' := [(0, .slice a_s s.length n_s), (1, .int .i64 i), (2, .slice a_v v.length n_v), (7, .int .i64 (v.length : Int)), (8, .int .i64 (s.length : Int)), (31, .bool (decide (((s.length : Int) + (v.length : Int)) > (n_s : Int))))]) (by kernel_rfl) ?_
      refine Op.goto 13 (by kernel_rfl) ?_
      refine At.cond (b := decide (((s.length : Int) + (v.length : Int)) > (n_s : Int))) (c := .tmp 31) (by kernel_rfl) (by kernel_rfl) (by kernel_rfl) 14 19 (by kernel_rfl) (by kernel_rfl) (fun hb => ?_) (fun hb => ?_)
      · have c2234 : ((s.length : Int) + (v.length : Int)) > (n_s : Int) := of_decide_eq_true hb
        clear hb
        refine At.keep [0, 1, 2, 7, 8] ?_; show At _ _ _ [(0, .slice a_s s.length n_s), (1, .int .i64 i), (2, .slice a_v v.length n_v), (7, .int .i64 (v.length : Int)), (8, .int .i64 (s.length : Int))] _
        refine At.reg (L := [(0, false), (1, false), (2, false), (3, false), (4, false), (5, false), (6, false), (7, false), (8, false), (9, false)]) (by kernel_rfl) ?_
        refine Op.pures 2 [0, 1, 2, 7, 8, 32, 33] (L' := [(2, false), (3, false), (4, false), (5, false), (6, false), (7, false), (8, false), (9, false)]) (e' := [(0, .slice a_s s.length n_s), (1, .int .i64 i), (2, .slice a_v v.length n_v), (7, .int .i64 (v.length : Int)), (8, .int .i64 (s.length : Int)), (32, .slice a_s s.length n_s), (33, .int .i64 i)]) (by kernel_rfl) ?_
        have hc2240 := h_s.capLe
        have R2239 := h_s.take (i : Int).toNat (by first | omega | (simp only [List.length_take] at *; omega))
        refine Op.slHi (T := 22) (E := 27) (sz := 3) (by_ := 32) (x := (.tmp 32)) (hi := (.tmp 33)) (ao := a_s) (n := s.length) (c := n_s) (dst := 34) (k := .i64) (m := i) (by kernel_rfl) (by kernel_rfl) (by kernel_rfl) (by kernel_rfl) (by first | omega | (simp only [List.length_take] at *; omega)) (by first | omega | (simp only [List.length_take] at *; omega)) ?_
        refine Op.pures 2 [0, 1, 2, 7, 34, 35, 36] (L' := [(5, false), (6, false), (7, false), (8, false), (9, false)]) (e' := [(0, .slice a_s s.length n_s), (1, .int .i64 i), (2, .slice a_v v.length n_v), (7, .int .i64 (v.length : Int)), (34, .slice (subAddr a_s 0 n_s 3) ((i : Int).toNat) n_s), (35, .int .i64 (s.length : Int)), (36, .int .i64 (v.length : Int))]) (by kernel_rfl) ?_
        refine Op.val (dst := some 37) (v := .int .i64 (IntKind.wrap .i64 ((s.length : Int) + (v.length : Int)))) (v' := .int .i64 ((s.length : Int) + (v.length : Int))) (by kernel_rfl) (wrapEq_i64 (by first | omega | (simp only [List.length_take] at *; omega)) (by first | omega | (simp only [List.length_take] at *; omega))) ?_
        refine Op.pures 1 [0, 1, 2, 7, 34, 37, 38] (L' := [(7, false), (8, false), (9, false)]) (e' := [(0, .slice a_s s.length n_s), (1, .int .i64 i), (2, .slice a_v v.length n_v), (7, .int .i64 (v.length : Int)), (34, .slice (subAddr a_s 0 n_s 3) ((i : Int).toNat) n_s), (37, .int .i64 ((s.length : Int) + (v.length : Int))), (38, .int .i64 i)]) (by kernel_rfl) ?_
        refine Op.val (dst := some 39) (v := .int .i64 (IntKind.wrap .i64 (((s.length : Int) + (v.length : Int)) - i))) (v' := .int .i64 (((s.length : Int) + (v.length : Int)) - i)) (by kernel_rfl) (wrapEq_i64 (by first | omega | (simp only [List.length_take] at *; omega)) (by first | omega | (simp only [List.length_take] at *; omega))) ?_
        refine Op.appZ (x := (.tmp 34)) (y := (.tmp 39)) (t := 22) (t' := 3) (dst := 40) (E := 27) (by_ := 32) (d := kWatch) (ao := (subAddr a_s 0 n_s 3)) (n := ((i : Int).toNat)) (cap := n_s) (xs := (s.take (i : Int).toNat)) (m := ((s.length : Int) + (v.length : Int)) - i) (by kernel_rfl) (by kernel_rfl) (by kernel_rfl) (by kernel_rfl) (by kernel_rfl) (R2239.toH hs 0 rfl) (by kernel_rfl) (by first | omega | (simp only [List.length_take] at *; omega)) (by first | omega | (simp only [List.length_take] at *; omega)) (by first | omega | (simp only [List.length_take] at *; omega)) hs ?_
        intro b2241 h2242 ch2243 n2244 cu2245 R2246 ce2248 s2247
        have hl2250 : ((s.take (i : Int).toNat) ++ List.replicate (((s.length : Int) + (v.length : Int)) - i : Int).toNat (Kd.zv kWatch)).length = (s.take (i : Int).toNat).length + (((s.length : Int) + (v.length : Int)) - i : Int).toNat := by rw [List.length_append, List.length_replicate]
        generalize hE2249 : (s.take (i : Int).toNat) ++ List.replicate (((s.length : Int) + (v.length : Int)) - i : Int).toNat (Kd.zv kWatch) = ys2251 at R2246 hl2250
        refine Op.pures 1 [0, 1, 2, 7, 9] (L' := []) (e' := [(0, .slice a_s s.length n_s), (1, .int .i64 i), (2, .slice a_v v.length n_v), (7, .int .i64 (v.length : Int)), (9, .slice (some ⟨b2241, 0, none⟩) ((s.take (i : Int).toNat).length + (((s.length : Int) + (v.length : Int)) - i : Int).toNat) n2244)]) (by kernel_rfl) ?_
        refine Op.goto 15 (by kernel_rfl) ?_
        refine At.reg (L := [(0, false), (1, false), (2, false), (3, false), (4, false)]) (by kernel_rfl) ?_
        refine Op.pures 2 [0, 1, 2, 7, 9, 41, 42] (L' := [(2, false), (3, false), (4, false)]) (e' := [(0, .slice a_s s.length n_s), (1, .int .i64 i), (2, .slice a_v v.length n_v), (7, .int .i64 (v.length : Int)), (9, .slice (some ⟨b2241, 0, none⟩) ((s.take (i : Int).toNat).length + (((s.length : Int) + (v.length : Int)) - i : Int).toNat) n2244), (41, .slice (some ⟨b2241, 0, none⟩) ((s.take (i : Int).toNat).length + (((s.length : Int) + (v.length : Int)) - i : Int).toNat) n2244), (42, .int .i64 i)]) (by kernel_rfl) ?_
        refine Op.slLo (T := 22) (E := 27) (sz := 3) (by_ := 32) (x := (.tmp 41)) (lo := (.tmp 42)) (ao := (some ⟨b2241, 0, none⟩)) (n := ((s.take (i : Int).toNat).length + (((s.length : Int) + (v.length : Int)) - i : Int).toNat)) (c := n2244) (dst := 43) (k := .i64) (m := i) (by kernel_rfl) (by kernel_rfl) (by kernel_rfl) (by kernel_rfl) (by first | omega | (simp only [List.length_take] at *; omega)) (by first | omega | (simp only [List.length_take] at *; omega)) ?_
        refine Op.pures 1 [0, 1, 7, 9, 43, 44] (L' := [(4, false)]) (e' := [(0, .slice a_s s.length n_s), (1, .int .i64 i), (7, .int .i64 (v.length : Int)), (9, .slice (some ⟨b2241, 0, none⟩) ((s.take (i : Int).toNat).length + (((s.length : Int) + (v.length : Int)) - i : Int).toNat) n2244), (43, .slice (subAddr (some ⟨b2241, 0, none⟩) (i : Int).toNat n2244 3) ((s.take (i : Int).toNat).length + (((s.length : Int) + (v.length : Int)) - i : Int).toNat - (i : Int).toNat) (n2244 - (i : Int).toNat)), (44, .slice a_v v.length n_v)]) (by kernel_rfl) ?_
        obtain ⟨ns2256, hs2257, hr2258⟩ := Src.slice (P := Tryd.prog) (h_v.toH s2247 2 rfl)
        refine Op.copyO (x := (.tmp 43)) (y := (.tmp 44)) (t := 22) (t' := 22) (dst := 45) (E := 27) (by_ := 32) (d := kWatch) (ao := (some ⟨b2241, 0, none⟩)) (n := ((s.take (i : Int).toNat).length + (((s.length : Int) + (v.length : Int)) - i : Int).toNat)) (c := n2244) (lo := (i : Int).toNat) (ys := v) (by kernel_rfl) (by kernel_rfl) (by kernel_rfl) R2246 (by first | omega | (simp only [List.length_take] at *; omega)) s2247 0 rfl hs2257 hr2258 rfl (fun _ _ _ => trivial) ?_
        intro ch2259 h2260 R2261 s2262
        have hl2263 := putAt_lenT (xs := ys2251) (ys := v) (lo := (i : Int).toNat) (by first | omega | (simp only [List.length_take] at *; omega))
        generalize hE2264 : putAt ys2251 (i : Int).toNat (List.take (ys2251.length - (i : Int).toNat) v) = ys2265 at R2261 hl2263
        refine Op.goto 16 (by kernel_rfl) ?_
        refine At.draw (by kernel_rfl) (fun _ => False) [(0, true), (1, true), (2, true), (3, true), (4, true), (5, true), (6, true), (7, true), (1008, false), (8, false)] (by kernel_rfl) ?_
        refine Op.pures 3 [0, 1, 9, 46, 47, 48] (L' := [(3, true), (4, true), (5, true), (6, true), (7, true), (1008, false), (8, false)]) (e' := [(0, .slice a_s s.length n_s), (1, .int .i64 i), (9, .slice (some ⟨b2241, 0, none⟩) ((s.take (i : Int).toNat).length + (((s.length : Int) + (v.length : Int)) - i : Int).toNat) n2244), (46, .slice (some ⟨b2241, 0, none⟩) ((s.take (i : Int).toNat).length + (((s.length : Int) + (v.length : Int)) - i : Int).toNat) n2244), (47, .int .i64 i), (48, .int .i64 (v.length : Int))]) (by kernel_rfl) ?_
        refine Op.val (dst := some 49) (v := .int .i64 (IntKind.wrap .i64 (i + (v.length : Int)))) (v' := .int .i64 (i + (v.length : Int))) (by kernel_rfl) (wrapEq_i64 (by first | omega | (simp only [List.length_take] at *; omega)) (by first | omega | (simp only [List.length_take] at *; omega))) ?_
        refine Op.slLo (T := 22) (E := 27) (sz := 3) (by_ := 32) (x := (.tmp 46)) (lo := (.tmp 49)) (ao := (some ⟨b2241, 0, none⟩)) (n := ((s.take (i : Int).toNat).length + (((s.length : Int) + (v.length : Int)) - i : Int).toNat)) (c := n2244) (dst := 50) (k := .i64) (m := i + (v.length : Int)) (by kernel_rfl) (by kernel_rfl) (by kernel_rfl) (by kernel_rfl) (by first | omega | (simp only [List.length_take] at *; omega)) (by first | omega | (simp only [List.length_take] at *; omega)) ?_
        refine Op.pures 2 [9, 50, 51, 52] (L' := [(7, true), (1008, false), (8, false)]) (e' := [(9, .slice (some ⟨b2241, 0, none⟩) ((s.take (i : Int).toNat).length + (((s.length : Int) + (v.length : Int)) - i : Int).toNat) n2244), (50, .slice (subAddr (some ⟨b2241, 0, none⟩) (i + (v.length : Int) : Int).toNat n2244 3) ((s.take (i : Int).toNat).length + (((s.length : Int) + (v.length : Int)) - i : Int).toNat - (i + (v.length : Int) : Int).toNat) (n2244 - (i + (v.length : Int) : Int).toNat)), (51, .slice a_s s.length n_s), (52, .int .i64 i)]) (by kernel_rfl) ?_
        refine Op.slLo (T := 22) (E := 27) (sz := 3) (by_ := 32) (x := (.tmp 51)) (lo := (.tmp 52)) (ao := a_s) (n := s.length) (c := n_s) (dst := 53) (k := .i64) (m := i) (by kernel_rfl) (by kernel_rfl) (by kernel_rfl) (by kernel_rfl) (by first | omega | (simp only [List.length_take] at *; omega)) (by first | omega | (simp only [List.length_take] at *; omega)) ?_
        refine Op.barrier (by kernel_rfl) ?_
        obtain ⟨ns2274, hs2275, hr2276⟩ := Src.slice (P := Tryd.prog) (SlH.subLo (h_s.toH s2262 1 rfl) (i : Int).toNat (by first | omega | (simp only [List.length_take] at *; omega)))
        refine Op.copyO (x := (.tmp 50)) (y := (.tmp 53)) (t := 22) (t' := 22) (dst := 54) (E := 27) (by_ := 32) (d := kWatch) (ao := (some ⟨b2241, 0, none⟩)) (n := ((s.take (i : Int).toNat).length + (((s.length : Int) + (v.length : Int)) - i : Int).toNat)) (c := n2244) (lo := (i + (v.length : Int) : Int).toNat) (ys := s.drop (i : Int).toNat) (by kernel_rfl) (by kernel_rfl) (by kernel_rfl) R2261 (by first | omega | (simp only [List.length_take] at *; omega)) s2262 0 rfl hs2275 hr2276 rfl (fun _ _ _ => trivial) ?_
        intro ch2277 h2278 R2279 s2280
        have hl2281 := putAt_lenT (xs := ys2265) (ys := s.drop (i : Int).toNat) (lo := (i + (v.length : Int) : Int).toNat) (by first | omega | (simp only [List.length_take] at *; omega))
        generalize hE2282 : putAt ys2265 (i + (v.length : Int) : Int).toNat (List.take (ys2265.length - (i + (v.length : Int) : Int).toNat) (s.drop (i : Int).toNat)) = ys2283 at R2279 hl2281
        refine Op.goto 17 (by kernel_rfl) ?_
        refine At.reg (L := [(0, false), (1, false)]) (by kernel_rfl) ?_
        refine Op.pures 2 [6] (L' := []) (e' := [(6, .slice (some ⟨b2241, 0, none⟩) ((s.take (i : Int).toNat).length + (((s.length : Int) + (v.length : Int)) - i : Int).toNat) n2244)]) (by kernel_rfl) ?_
        refine Op.goto 18 (by kernel_rfl) ?_
        refine At.ret (f := Tryd.f51) (v := .slice (some ⟨b2241, 0, none⟩) ((s.take (i : Int).toNat).length + (((s.length : Int) + (v.length : Int)) - i : Int).toNat) n2244) (by kernel_rfl) (by kernel_rfl) ?_
        have s2284 : St h g (ids [c_s, c_v]) g [c_s, c_v, ch2277] h2278 := (((s2280.front 0 rfl).front 2 rfl).front 2 rfl)
        have s2285 : St h g (ids [c_s, c_v]) g [ch2277] h2278 := (s2284).drop.drop
        refine hR _ _ _ _ s2285 ⟨(.slice (some ⟨b2241, 0, none⟩) ((s.take (i : Int).toNat).length + (((s.length : Int) + (v.length : Int)) - i : Int).toNat) n2244), ch2277, ?_, ?_, rfl, rfl⟩
        · exact rfl
        · exact rowEq R2279 (by first | exact ins_nil (by omega) | exact ins_end (by omega) | (subst_vars; exact ins_grow h0 hi rfl rfl) | (subst_vars; exact ins_place h0 hi rfl (by omega) (by assumption) (by omega)))
      · have c2286 : ¬ (((s.length : Int) + (v.length : Int)) > (n_s : Int)) := of_decide_eq_false hb
        clear hb
        refine At.keep [0, 1, 2, 7, 8] ?_; show At _ _ _ [(0, .slice a_s s.length n_s), (1, .int .i64 i), (2, .slice a_v v.length n_v), (7, .int .i64 (v.length : Int)), (8, .int .i64 (s.length : Int))] _
        refine At.reg (L := [(0, false), (1, false), (2, false), (3, false), (4, false), (5, false)]) (by kernel_rfl) ?_
        refine Op.pures 3 [0, 1, 2, 7, 8, 56, 57, 58] (L' := [(3, false), (4, false), (5, false)]) (e' := [(0, .slice a_s s.length n_s), (1, .int .i64 i), (2, .slice a_v v.length n_v), (7, .int .i64 (v.length : Int)), (8, .int .i64 (s.length : Int)), (56, .slice a_s s.length n_s), (57, .int .i64 (s.length : Int)), (58, .int .i64 (v.length : Int))]) (by kernel_rfl) ?_
        refine Op.val (dst := some 59) (v := .int .i64 (IntKind.wrap .i64 ((s.length : Int) + (v.length : Int)))) (v' := .int .i64 ((s.length : Int) + (v.length : Int))) (by kernel_rfl) (wrapEq_i64 (by first | omega | (simp only [List.length_take] at *; omega)) (by first | omega | (simp only [List.length_take] at *; omega))) ?_
        obtain ⟨zs2287, R2288, hl2289, ht2290⟩ := Row.reslice h_s ((s.length : Int) + (v.length : Int) : Int).toNat (by first | omega | (simp only [List.length_take] at *; omega))
        refine Op.slHi (T := 22) (E := 27) (sz := 3) (by_ := 32) (x := (.tmp 56)) (hi := (.tmp 59)) (ao := a_s) (n := s.length) (c := n_s) (dst := 60) (k := .i64) (m := (s.length : Int) + (v.length : Int)) (by kernel_rfl) (by kernel_rfl) (by kernel_rfl) (by kernel_rfl) (by first | omega | (simp only [List.length_take] at *; omega)) (by first | omega | (simp only [List.length_take] at *; omega)) ?_
        refine Op.pures 1 [0, 1, 2, 7, 8] (L' := []) (e' := [(0, .slice (subAddr a_s 0 n_s 3) (((s.length : Int) + (v.length : Int) : Int).toNat) n_s), (1, .int .i64 i), (2, .slice a_v v.length n_v), (7, .int .i64 (v.length : Int)), (8, .int .i64 (s.length : Int))]) (by kernel_rfl) ?_
        refine Op.goto 20 (by kernel_rfl) ?_
        refine At.reg (L := [(0, false), (1, false), (2, false), (3, false), (4, false), (5, false), (6, false), (7, false)]) (by kernel_rfl) ?_
        refine Op.pures 4 [0, 1, 2, 7, 8, 61, 62, 63, 64] (L' := [(4, false), (5, false), (6, false), (7, false)]) (e' := [(0, .slice (subAddr a_s 0 n_s 3) (((s.length : Int) + (v.length : Int) : Int).toNat) n_s), (1, .int .i64 i), (2, .slice a_v v.length n_v), (7, .int .i64 (v.length : Int)), (8, .int .i64 (s.length : Int)), (61, .slice a_v v.length n_v), (62, .slice (subAddr a_s 0 n_s 3) (((s.length : Int) + (v.length : Int) : Int).toNat) n_s), (63, .int .i64 i), (64, .int .i64 (v.length : Int))]) (by kernel_rfl) ?_
        refine Op.val (dst := some 65) (v := .int .i64 (IntKind.wrap .i64 (i + (v.length : Int)))) (v' := .int .i64 (i + (v.length : Int))) (by kernel_rfl) (wrapEq_i64 (by first | omega | (simp only [List.length_take] at *; omega)) (by first | omega | (simp only [List.length_take] at *; omega))) ?_
        refine Op.slLo (T := 22) (E := 27) (sz := 3) (by_ := 32) (x := (.tmp 62)) (lo := (.tmp 65)) (ao := (subAddr a_s 0 n_s 3)) (n := (((s.length : Int) + (v.length : Int) : Int).toNat)) (c := n_s) (dst := 66) (k := .i64) (m := i + (v.length : Int)) (by kernel_rfl) (by kernel_rfl) (by kernel_rfl) (by kernel_rfl) (by first | omega | (simp only [List.length_take] at *; omega)) (by first | omega | (simp only [List.length_take] at *; omega)) ?_
        obtain ⟨b2304, o2305, cap2295, cu2296, rs2297, ev2298, ec2299, h2300, h2301, h2302, h2303⟩ := h_v.cases (by omega)
        obtain ⟨b2315, o2316, cap2306, cu2307, rs2308, ev2309, ec2310, h2311, h2312, h2313, h2314⟩ := R2288.cases (by omega)
        have s2317 := hs
        rw [ec2299, ec2310] at s2317
        have ev22982 := ev2298; have ev23092 := ev2309
        have hx2318 : a_v = some ⟨b2304, o2305, none⟩ := by injection ev2298
        have hy2319 : ∃ o2, (subAddr (subAddr a_s 0 n_s 3) (i + (v.length : Int) : Int).toNat n_s 3) = some ⟨b2315, o2, none⟩ := by injection ev2309 with hq _ _; exact subAddr_of hq _ _ _
        refine Op.overlaps (f := 78) (x := (.tmp 61)) (y := (.tmp 66)) (t := 22) (tb := 4) (E := 27) (sz := 3) (by_ := 32) (dst := 67) (ts := #[22, 22]) (b1 := b2304) (o1 := o2305) (n1 := v.length) (c1 := n_v) (b2 := b2315) (n2 := (((s.length : Int) + (v.length : Int) : Int).toNat - (i + (v.length : Int) : Int).toNat)) (c2 := (n_s - (i + (v.length : Int) : Int).toNat)) (a2 := (subAddr (subAddr a_s 0 n_s 3) (i + (v.length : Int) : Int).toNat n_s 3)) (by kernel_rfl) (by kernel_rfl) (by kernel_rfl) (by rw [← hx2318]; kernel_rfl) (by kernel_rfl) hy2319 (s2317.chunk 1 rfl) (s2317.chunk 0 rfl) (fun h => s2317.ne 0 1 rfl rfl rfl h.symm) ?_ ?_
        · have hcap := h2311; have hle := h2313; have hlen : 0 < zs2287.length := by omega
          have hmul := Nat.mul_le_mul_right (Kd.sz kWatch) (show 1 ≤ cap2306 by omega)
          simp only [show (kWatch).sz = 3 from rfl] at hmul hle; omega
        clear ev22982 ev23092
        refine Op.pures 1 [0, 1, 2, 7, 8, 68] (L' := []) (e' := [(0, .slice (subAddr a_s 0 n_s 3) (((s.length : Int) + (v.length : Int) : Int).toNat) n_s), (1, .int .i64 i), (2, .slice a_v v.length n_v), (7, .int .i64 (v.length : Int)), (8, .int .i64 (s.length : Int)), (68, .bool true)]) (by kernel_rfl) ?_
        refine Op.goto 21 (by kernel_rfl) ?_
        refine At.condT (c := .tmp 68) (by kernel_rfl) (by kernel_rfl) (by kernel_rfl) 22 (by kernel_rfl) ?_
        refine At.draw (by kernel_rfl) (fun _ => False) [(0, true), (1, true), (2, true), (3, true), (4, true), (5, true), (6, true), (7, true), (1008, false), (8, false)] (by kernel_rfl) ?_
        refine Op.pures 3 [0, 1, 2, 69, 70, 71] (L' := [(3, true), (4, true), (5, true), (6, true), (7, true), (1008, false), (8, false)]) (e' := [(0, .slice (subAddr a_s 0 n_s 3) (((s.length : Int) + (v.length : Int) : Int).toNat) n_s), (1, .int .i64 i), (2, .slice a_v v.length n_v), (69, .slice (subAddr a_s 0 n_s 3) (((s.length : Int) + (v.length : Int) : Int).toNat) n_s), (70, .int .i64 i), (71, .int .i64 (v.length : Int))]) (by kernel_rfl) ?_
        refine Op.val (dst := some 72) (v := .int .i64 (IntKind.wrap .i64 (i + (v.length : Int)))) (v' := .int .i64 (i + (v.length : Int))) (by kernel_rfl) (wrapEq_i64 (by first | omega | (simp only [List.length_take] at *; omega)) (by first | omega | (simp only [List.length_take] at *; omega))) ?_
        refine Op.slLo (T := 22) (E := 27) (sz := 3) (by_ := 32) (x := (.tmp 69)) (lo := (.tmp 72)) (ao := (subAddr a_s 0 n_s 3)) (n := (((s.length : Int) + (v.length : Int) : Int).toNat)) (c := n_s) (dst := 73) (k := .i64) (m := i + (v.length : Int)) (by kernel_rfl) (by kernel_rfl) (by kernel_rfl) (by kernel_rfl) (by first | omega | (simp only [List.length_take] at *; omega)) (by first | omega | (simp only [List.length_take] at *; omega)) ?_
        refine Op.pures 2 [0, 1, 2, 73, 74, 75] (L' := [(7, true), (1008, false), (8, false)]) (e' := [(0, .slice (subAddr a_s 0 n_s 3) (((s.length : Int) + (v.length : Int) : Int).toNat) n_s), (1, .int .i64 i), (2, .slice a_v v.length n_v), (73, .slice (subAddr (subAddr a_s 0 n_s 3) (i + (v.length : Int) : Int).toNat n_s 3) (((s.length : Int) + (v.length : Int) : Int).toNat - (i + (v.length : Int) : Int).toNat) (n_s - (i + (v.length : Int) : Int).toNat)), (74, .slice (subAddr a_s 0 n_s 3) (((s.length : Int) + (v.length : Int) : Int).toNat) n_s), (75, .int .i64 i)]) (by kernel_rfl) ?_
        refine Op.slLo (T := 22) (E := 27) (sz := 3) (by_ := 32) (x := (.tmp 74)) (lo := (.tmp 75)) (ao := (subAddr a_s 0 n_s 3)) (n := (((s.length : Int) + (v.length : Int) : Int).toNat)) (c := n_s) (dst := 76) (k := .i64) (m := i) (by kernel_rfl) (by kernel_rfl) (by kernel_rfl) (by kernel_rfl) (by first | omega | (simp only [List.length_take] at *; omega)) (by first | omega | (simp only [List.length_take] at *; omega)) ?_
        refine Op.barrier (by kernel_rfl) ?_
        obtain ⟨ns2328, hs2329, hr2330⟩ := Src.slice (P := Tryd.prog) (SlH.subLo (R2288.toH hs 0 rfl) (i : Int).toNat (by first | omega | (simp only [List.length_take] at *; omega)))
        refine Op.copyO (x := (.tmp 73)) (y := (.tmp 76)) (t := 22) (t' := 22) (dst := 77) (E := 27) (by_ := 32) (d := kWatch) (ao := (subAddr a_s 0 n_s 3)) (n := (((s.length : Int) + (v.length : Int) : Int).toNat)) (c := n_s) (lo := (i + (v.length : Int) : Int).toNat) (ys := zs2287.drop (i : Int).toNat) (by kernel_rfl) (by kernel_rfl) (by kernel_rfl) R2288 (by first | omega | (simp only [List.length_take] at *; omega)) hs 0 rfl hs2329 hr2330 rfl (fun _ _ _ => trivial) ?_
        intro ch2331 h2332 R2333 s2334
        have hl2335 := putAt_lenT (xs := zs2287) (ys := zs2287.drop (i : Int).toNat) (lo := (i + (v.length : Int) : Int).toNat) (by first | omega | (simp only [List.length_take] at *; omega))
        generalize hE2336 : putAt zs2287 (i + (v.length : Int) : Int).toNat (List.take (zs2287.length - (i + (v.length : Int) : Int).toNat) (zs2287.drop (i : Int).toNat)) = ys2337 at R2333 hl2335
        refine Op.goto 23 (by kernel_rfl) ?_
        refine At.reg (L := [(0, false), (1, false), (2, false), (3, false), (4, false)]) (by kernel_rfl) ?_
        refine Op.pures 2 [0, 2, 78, 79] (L' := [(2, false), (3, false), (4, false)]) (e' := [(0, .slice (subAddr a_s 0 n_s 3) (((s.length : Int) + (v.length : Int) : Int).toNat) n_s), (2, .slice a_v v.length n_v), (78, .slice (subAddr a_s 0 n_s 3) (((s.length : Int) + (v.length : Int) : Int).toNat) n_s), (79, .int .i64 i)]) (by kernel_rfl) ?_
        refine Op.slLo (T := 22) (E := 27) (sz := 3) (by_ := 32) (x := (.tmp 78)) (lo := (.tmp 79)) (ao := (subAddr a_s 0 n_s 3)) (n := (((s.length : Int) + (v.length : Int) : Int).toNat)) (c := n_s) (dst := 80) (k := .i64) (m := i) (by kernel_rfl) (by kernel_rfl) (by kernel_rfl) (by kernel_rfl) (by first | omega | (simp only [List.length_take] at *; omega)) (by first | omega | (simp only [List.length_take] at *; omega)) ?_
        refine Op.pures 1 [0, 80, 81] (L' := [(4, false)]) (e' := [(0, .slice (subAddr a_s 0 n_s 3) (((s.length : Int) + (v.length : Int) : Int).toNat) n_s), (80, .slice (subAddr (subAddr a_s 0 n_s 3) (i : Int).toNat n_s 3) (((s.length : Int) + (v.length : Int) : Int).toNat - (i : Int).toNat) (n_s - (i : Int).toNat)), (81, .slice a_v v.length n_v)]) (by kernel_rfl) ?_
        obtain ⟨ns2342, hs2343, hr2344⟩ := Src.slice (P := Tryd.prog) (h_v.toH s2334 1 rfl)
        refine Op.copyO (x := (.tmp 80)) (y := (.tmp 81)) (t := 22) (t' := 22) (dst := 82) (E := 27) (by_ := 32) (d := kWatch) (ao := (subAddr a_s 0 n_s 3)) (n := (((s.length : Int) + (v.length : Int) : Int).toNat)) (c := n_s) (lo := (i : Int).toNat) (ys := v) (by kernel_rfl) (by kernel_rfl) (by kernel_rfl) R2333 (by first | omega | (simp only [List.length_take] at *; omega)) s2334 0 rfl hs2343 hr2344 rfl (fun _ _ _ => trivial) ?_
        intro ch2345 h2346 R2347 s2348
        have hl2349 := putAt_lenT (xs := ys2337) (ys := v) (lo := (i : Int).toNat) (by first | omega | (simp only [List.length_take] at *; omega))
        generalize hE2350 : putAt ys2337 (i : Int).toNat (List.take (ys2337.length - (i : Int).toNat) v) = ys2351 at R2347 hl2349
        refine Op.goto 24 (by kernel_rfl) ?_
        refine At.reg (L := [(0, false), (1, false)]) (by kernel_rfl) ?_
        refine Op.pures 2 [6] (L' := []) (e' := [(6, .slice (subAddr a_s 0 n_s 3) (((s.length : Int) + (v.length : Int) : Int).toNat) n_s)]) (by kernel_rfl) ?_
        refine Op.goto 25 (by kernel_rfl) ?_
        refine At.ret (f := Tryd.f51) (v := .slice (subAddr a_s 0 n_s 3) (((s.length : Int) + (v.length : Int) : Int).toNat) n_s) (by kernel_rfl) (by kernel_rfl) ?_
        have s2352 : St h g (ids [c_s, c_v]) g [c_v, ch2345] h2346 := ((s2348.front 0 rfl).front 1 rfl)
        have s2353 : St h g (ids [c_s, c_v]) g [ch2345] h2346 := (s2352).drop
        refine hR _ _ _ _ s2353 ⟨(.slice (subAddr a_s 0 n_s 3) (((s.length : Int) + (v.length : Int) : Int).toNat) n_s), ch2345, ?_, ?_, rfl, rfl⟩
        · exact rfl
        · exact rowEq R2347 (by first | exact ins_nil (by omega) | exact ins_end (by omega) | (subst_vars; exact ins_grow h0 hi rfl rfl) | (subst_vars; exact ins_place h0 hi rfl (by omega) (by assumption) (by omega)))

/-- (*stanchion/watch.Table).take$1 -/
theorem takeRule (B : World) (h : Heap) (g : GH) (hg : Sub g h) (hG : Glob g) (w : Watch) (f_rule : Nat) (cp_rule : Array Value) (rule : Watch → Bool) (e_rule : Enterable Tryd.prog f_rule) (h_rule : PredOk Tryd.prog g f_rule cp_rule (fun x : Watch => .agg #[.int .i64 x.Client, .int .i64 x.Kind, .string (mkS x.Path)]) (fun _ => True) rule) (b_rule : Nat) (hb_rule : g b_rule = some (.cells #[.func (.func f_rule) #[] cp_rule] 43 (0, 0))) (b_out : Nat) (out : List Watch) (c_out : Chunk) (o_out : IsOutW g b_out out c_out) (h1 : out.length ≤ 1000000) (hs : St h g (ids [c_out]) g [c_out] h) :
    Spec Tryd.prog B 81 #[.agg #[.int .i64 w.Client, .int .i64 w.Kind, .string (mkS w.Path)], .pointer (some ⟨b_rule, 0, none⟩), .pointer (some ⟨b_out, 0, none⟩)] h g [c_out] (fun rv g' L' => ∃ k_out, rv = .bool (rule w) ∧ IsOutW g' b_out (if rule w = true then out ++ [w] else out) k_out ∧ g' = g ∧ L' = [k_out]) := by
  refine Spec.of_at (f := Tryd.f81) (e := [(0, .agg #[.int .i64 w.Client, .int .i64 w.Kind, .string (mkS w.Path)]), (1, .pointer (some ⟨b_rule, 0, none⟩)), (2, .pointer (some ⟨b_out, 0, none⟩))]) Tryd.func81 (by kernel_rfl) (Nat.le_of_ble_eq_true (by kernel_rfl)) (by kernel_rfl) (by kernel_rfl) ?_
  intro R hR
  refine At.reg (L := [(0, false), (1, false)]) (by kernel_rfl) ?_
  refine Op.box (T := 27) (x := (.tmp 0)) (d := 3) (cs := #[.int .i64 w.Client, .int .i64 w.Kind, .string (mkS w.Path)]) (by kernel_rfl) (by kernel_rfl) hs ?_
  intro b2354 h2355 s2356
  refine Op.pures 1 [1, 2, 3] (L' := []) (e' := [(1, .pointer (some ⟨b_rule, 0, none⟩)), (2, .pointer (some ⟨b_out, 0, none⟩)), (3, .pointer (some ⟨b2354, 0, none⟩))]) (by kernel_rfl) ?_
  refine Op.goto 1 (by kernel_rfl) ?_
  refine At.reg (L := [(0, false), (1, false), (2, false), (3, false)]) (by kernel_rfl) ?_
  refine Op.load (T := 43) (x := (.tmp 1)) (o := 0) (d := 6) (n := 1) (v := .func (.func f_rule) #[] cp_rule) (by kernel_rfl) (by kernel_rfl) (by kernel_rfl) (s2356.sub _ _ hb_rule) (by kernel_rfl) ?_
  refine Op.loadA (T := 27) (x := (.tmp 3)) (o := 0) (d := 7) (n := 3) (vs := [.int .i64 w.Client, .int .i64 w.Kind, .string (mkS w.Path)]) (by kernel_rfl) (by kernel_rfl) (by kernel_rfl) (s2356.chunk 0 rfl) (by kernel_rfl) rfl ?_
  refine Op.callV (dst := some 8) (x := (.tmp 6)) (ops := #[(.tmp 7)]) (ts := #[27]) (f := f_rule) (first := #[]) (cap := cp_rule) (Lc := []) (L := [[(b2354, Obj.cells #[.int .i64 w.Client, .int .i64 w.Kind, .string (mkS w.Path)] 27 (0, 0))], c_out]) (args := ((#[.agg #[.int .i64 w.Client, .int .i64 w.Kind, .string (mkS w.Path)]] : Array Value) ++ cp_rule)) (by kernel_rfl) (by kernel_rfl) e_rule (args1 (by kernel_rfl)) s2356 (h_rule _ _ _ (gle.refl _) s2356.sub hG w (by ((try dsimp only) <;> (first | omega | trivial | (simp only [List.length_cons, List.length_nil]; omega))))) (fun _ _ h => absurd h (ids_nil _)) ?_
  rintro _ g2359 _ h2357 hle2360 s2358 ⟨rfl, hgg, rfl⟩; subst g2359; clear hle2360
  refine Op.pures 1 [2, 3, 5] (L' := []) (e' := [(2, .pointer (some ⟨b_out, 0, none⟩)), (3, .pointer (some ⟨b2354, 0, none⟩)), (5, .bool (rule w))]) (by kernel_rfl) ?_
  refine Op.goto 2 (by kernel_rfl) ?_
  refine At.reg (L := [(0, false)]) (by kernel_rfl) ?_
  refine Op.pures 1 [2, 3, 5, 9] (L' := []) (e' := [(2, .pointer (some ⟨b_out, 0, none⟩)), (3, .pointer (some ⟨b2354, 0, none⟩)), (5, .bool (rule w)), (9, .bool (rule w))]) (by kernel_rfl) ?_
  refine Op.goto 3 (by kernel_rfl) ?_
  refine At.cond (b := rule w) (c := .tmp 9) (by kernel_rfl) (by kernel_rfl) (by kernel_rfl) 4 5 (by kernel_rfl) (by kernel_rfl) (fun hb => ?_) (fun hb => ?_)
  · have c2361 : (rule w) = true := hb
    clear hb
    refine At.keep [2, 3, 5] ?_; show At _ _ _ [(2, .pointer (some ⟨b_out, 0, none⟩)), (3, .pointer (some ⟨b2354, 0, none⟩)), (5, .bool (rule w))] _
    refine At.reg (L := [(0, false), (1, false), (2, false), (3, false), (4, false)]) (by kernel_rfl) ?_
    obtain ⟨v2362, c2363, e2364, R2365⟩ := o_out
    obtain ⟨a2366, n2367, rfl⟩ := R2365.form
    have s2368 : St h g (ids [c_out]) g [c_out, [(b2354, Obj.cells #[.int .i64 w.Client, .int .i64 w.Kind, .string (mkS w.Path)] 27 (0, 0))]] h2357 := ((s2358.front 0 rfl).front 1 rfl)
    have s2369 : St h g (ids [c_out]) g [[(b_out, Obj.cells #[.slice a2366 out.length n2367] 22 (0, 0))], c2363, [(b2354, Obj.cells #[.int .i64 w.Client, .int .i64 w.Kind, .string (mkS w.Path)] 27 (0, 0))]] h2357 := St.flat (L := [c_out, [(b2354, Obj.cells #[.int .i64 w.Client, .int .i64 w.Kind, .string (mkS w.Path)] 27 (0, 0))]]) (by rw [e2364]; simp only [List.flatten_cons, List.append_assoc, List.cons_append, List.nil_append, List.append_nil]) s2368
    refine Op.load (T := 22) (x := (.tmp 2)) (o := 0) (d := 10) (n := 1) (v := .slice a2366 out.length n2367) (by kernel_rfl) (by kernel_rfl) (by kernel_rfl) (s2369.chunk 0 rfl) (by kernel_rfl) ?_
    refine Op.loadA (T := 27) (x := (.tmp 3)) (o := 0) (d := 11) (n := 3) (vs := [.int .i64 w.Client, .int .i64 w.Kind, .string (mkS w.Path)]) (by kernel_rfl) (by kernel_rfl) (by kernel_rfl) (s2369.chunk 2 rfl) (by kernel_rfl) rfl ?_
    refine Op.lit (T := 22) (len := 1) (parts := #[(0, (.tmp 11))]) (dst := 12) (E := 27) (ps := [(0, .agg #[.int .i64 w.Client, .int .i64 w.Kind, .string (mkS w.Path)])]) (cs := #[.int .i64 w.Client, .int .i64 w.Kind, .string (mkS w.Path)]) (by kernel_rfl) (by kernel_rfl) (by kernel_rfl) s2369 ?_
    intro b2370 h2371 s2372
    refine Op.append (x := (.tmp 10)) (y := (.tmp 12)) (t := 22) (t' := 22) (dst := 13) (E := 27) (by_ := 32) (d := kWatch) (by kernel_rfl) (by kernel_rfl) (by kernel_rfl) (by kernel_rfl) rfl R2365 s2372 2 rfl (Src.lit (m := 1) (sz := 3) (s2372.chunk 0 rfl) (news := [.int .i64 w.Client, .int .i64 w.Kind, .string (mkS w.Path)]) rfl rfl (by simp [Value.oneCell']) _) (ys := [w]) (⟨_, _, rfl, rfl, Reads.nil⟩) rfl (by first | omega | trivial | (simp only [List.length_cons, List.length_nil]; omega)) (fun _ _ _ => trivial) ?_
    intro v2373 ch2374 h2375 R2376 s2377 nn2378
    obtain ⟨a2379, n2380, rfl⟩ := R2376.form
    have s2381 := (s2377.front 0 rfl).drop
    refine Op.store (T := 22) (x := (.tmp 2)) (y := (.tmp 13)) (b := b_out) (o := 0) (vs := [.slice a2379 ((out ++ ([w])).length) n2380]) (a? := false) (n := 1) (by kernel_rfl) (by kernel_rfl) (by kernel_rfl) (by kernel_rfl) rfl (by simp [Value.oneCell']) s2381 0 rfl (Nat.le_of_ble_eq_true (by kernel_rfl)) (cs := #[.slice a2366 out.length n2367]) (cs' := #[.slice a2379 ((out ++ ([w])).length) n2380]) (by kernel_rfl) (fun _ => trivial) ?_
    intro h2382 s2383
    refine Op.goto 5 (by kernel_rfl) ?_
    refine At.reg (L := [(0, false), (1, false)]) (by kernel_rfl) ?_
    refine Op.pures 2 [4] (L' := []) (e' := [(4, .bool (rule w))]) (by kernel_rfl) ?_
    refine Op.goto 6 (by kernel_rfl) ?_
    obtain ⟨c2384, o2385, s2386⟩ : ∃ c, IsOutW g b_out (out ++ ([w])) c ∧ St h g (ids [c_out]) g (c :: [[(b2354, Obj.cells #[.int .i64 w.Client, .int .i64 w.Kind, .string (mkS w.Path)] 27 (0, 0))]]) h2382 := ⟨_, ⟨_, _, rfl, R2376⟩, St.flat (L := [[(b_out, Obj.cells #[.slice a2379 ((out ++ ([w])).length) n2380] 22 (0, 0))], ch2374, [(b2354, Obj.cells #[.int .i64 w.Client, .int .i64 w.Kind, .string (mkS w.Path)] 27 (0, 0))]]) (by simp only [List.flatten_cons, List.append_assoc, List.cons_append, List.nil_append, List.append_nil]) s2383⟩
    refine At.ret (f := Tryd.f81) (v := .bool (rule w)) (by kernel_rfl) (by kernel_rfl) ?_
    have s2387 : St h g (ids [c_out]) g [[(b2354, Obj.cells #[.int .i64 w.Client, .int .i64 w.Kind, .string (mkS w.Path)] 27 (0, 0))], c2384] h2382 := ((s2386.front 0 rfl).front 1 rfl)
    have s2388 : St h g (ids [c_out]) g [c2384] h2382 := (s2387).drop
    refine hR _ _ _ _ s2388 ⟨c2384, ?_, ?_, rfl, rfl⟩
    · exact (eqB (by first | rfl | (rw [if_pos (by assumption)]; done) | (rw [if_neg (Bool.eq_false_iff.1 (by assumption))]; done)))
    · exact o2385.eq (by first | rfl | (rw [if_pos (by assumption)]; done) | (rw [if_neg (Bool.eq_false_iff.1 (by assumption))]; done))
  · have c2389 : (rule w) = false := hb
    clear hb
    refine At.keep [5] ?_; show At _ _ _ [(5, .bool (rule w))] _
    refine At.reg (L := [(0, false), (1, false)]) (by kernel_rfl) ?_
    refine Op.pures 2 [4] (L' := []) (e' := [(4, .bool (rule w))]) (by kernel_rfl) ?_
    refine Op.goto 6 (by kernel_rfl) ?_
    refine At.ret (f := Tryd.f81) (v := .bool (rule w)) (by kernel_rfl) (by kernel_rfl) ?_
    have s2390 : St h g (ids [c_out]) g [c_out] h2357 := (s2358).drop
    refine hR _ _ _ _ s2390 ⟨c_out, ?_, ?_, rfl, rfl⟩
    · exact (eqB (by first | rfl | (rw [if_pos (by assumption)]; done) | (rw [if_neg (Bool.eq_false_iff.1 (by assumption))]; done)))
    · exact o_out.eq (by first | rfl | (rw [if_pos (by assumption)]; done) | (rw [if_neg (Bool.eq_false_iff.1 (by assumption))]; done))

/-- slices.IndexFunc[[]stanchion/api.Watch,stanchion/api.Watch] -/
theorem indexF (B : World) (h : Heap) (g : GH) (hg : Sub g h) (hG : Glob g) (v_s : Value) (s : List Watch) (h_s : SlR g 27 kWatch v_s s) (f_rule : Nat) (cp_rule : Array Value) (rule : Watch → Bool) (e_rule : Enterable Tryd.prog f_rule) (h_rule : PredOk Tryd.prog g f_rule cp_rule (fun x : Watch => .agg #[.int .i64 x.Client, .int .i64 x.Kind, .string (mkS x.Path)]) (fun _ => True) rule) (b_rule : Nat) (hb_rule : g b_rule = some (.cells #[.func (.func f_rule) #[] cp_rule] 43 (0, 0))) (b_out : Nat) (out : List Watch) (c_out : Chunk) (o_out : IsOutW g b_out out c_out) (h1 : s.length ≤ 1000000) (h2 : out.length ≤ 1000000) (hs : St h g (ids [c_out]) g [c_out] h) :
    Spec Tryd.prog B 100 #[v_s, .func (.func 81) #[] #[.pointer (some ⟨b_rule, 0, none⟩), .pointer (some ⟨b_out, 0, none⟩)]] h g [c_out] (fun rv g' L' => ∃ k_out, rv = .int .i64 (findI rule s) ∧ IsOutW g' b_out (out ++ (List.find? rule s).toList) k_out ∧ g' = g ∧ L' = [k_out]) := by
  obtain ⟨a_s, n_s, rfl⟩ := h_s.form
  refine Spec.of_at (f := Tryd.f100) (e := [(0, .slice a_s s.length n_s), (1, .func (.func 81) #[] #[.pointer (some ⟨b_rule, 0, none⟩), .pointer (some ⟨b_out, 0, none⟩)])]) Tryd.func100 (by kernel_rfl) (Nat.le_of_ble_eq_true (by kernel_rfl)) (by kernel_rfl) (by kernel_rfl) ?_
  intro R hR
  refine At.reg (L := [(0, false)]) (by kernel_rfl) ?_
  refine Op.pures 1 [0, 1] (L' := []) (e' := [(0, .slice a_s s.length n_s), (1, .func (.func 81) #[] #[.pointer (some ⟨b_rule, 0, none⟩), .pointer (some ⟨b_out, 0, none⟩)])]) (by kernel_rfl) ?_
  refine Op.goto 1 (by kernel_rfl) ?_
  refine At.reg (L := [(0, false), (1, false), (2, false)]) (by kernel_rfl) ?_
  refine Op.pures 3 [0, 1, 7, 8] (L' := []) (e' := [(0, .slice a_s s.length n_s), (1, .func (.func 81) #[] #[.pointer (some ⟨b_rule, 0, none⟩), .pointer (some ⟨b_out, 0, none⟩)]), (7, .int .i64 (s.length : Int)), (8, .int .i64 0)]) (by kernel_rfl) ?_
  refine Op.goto 2 (by kernel_rfl) ?_
  have loop2 : ∀ (m : Nat) (i : Int) (o2 : List Watch) (c2391 : Chunk) (h2393 : Heap) (hm : s.length - i.toNat < m) (h0 : 0 ≤ i) (h3 : i ≤ s.length) (hat : findAt rule s i) (ho : o2 = out)  (o2392 : IsOutW g b_out o2 c2391)  (s_loop22392 : St h g (ids [c_out]) g [c2391] h2393), At (fctx Tryd.prog B 100 Tryd.f100 R) [] 2 [(0, .slice a_s s.length n_s), (1, .func (.func 81) #[] #[.pointer (some ⟨b_rule, 0, none⟩), .pointer (some ⟨b_out, 0, none⟩)]), (7, .int .i64 (s.length : Int)), (8, .int .i64 i)] h2393 := by
    intro m; induction m with
    | zero => intros; omega
    | succ m ih2 =>
      intro i o2 c2391 h2393 hm h0 h3 hat ho o2392 s_loop22392
      refine At.reg (L := [(0, false)]) (by kernel_rfl) ?_
      refine Op.pures 1 [0, 1, 7, 8, 9] (L' := []) (e' := [(0, .slice a_s s.length n_s), (1, .func (.func 81) #[] #[.pointer (some ⟨b_rule, 0, none⟩), .pointer (some ⟨b_out, 0, none⟩)]), (7, .int .i64 (s.length : Int)), (8, .int .i64 i), (9, .bool (decide (i < (s.length : Int))))]) (by kernel_rfl) ?_
      refine Op.goto 3 (by kernel_rfl) ?_
      refine At.cond (b := decide (i < (s.length : Int))) (c := .tmp 9) (by kernel_rfl) (by kernel_rfl) (by kernel_rfl) 4 10 (by kernel_rfl) (by kernel_rfl) (fun hb => ?_) (fun hb => ?_)
      · have c2394 : i < (s.length : Int) := of_decide_eq_true hb
        clear hb
        refine At.keep [0, 1, 7, 8] ?_; show At _ _ _ [(0, .slice a_s s.length n_s), (1, .func (.func 81) #[] #[.pointer (some ⟨b_rule, 0, none⟩), .pointer (some ⟨b_out, 0, none⟩)]), (7, .int .i64 (s.length : Int)), (8, .int .i64 i)] _
        refine At.reg (L := [(0, false), (1, false)]) (by kernel_rfl) ?_
        refine Op.pures 2 [0, 1, 5, 7, 8] (L' := []) (e' := [(0, .slice a_s s.length n_s), (1, .func (.func 81) #[] #[.pointer (some ⟨b_rule, 0, none⟩), .pointer (some ⟨b_out, 0, none⟩)]), (5, .int .i64 i), (7, .int .i64 (s.length : Int)), (8, .int .i64 i)]) (by kernel_rfl) ?_
        refine Op.goto 5 (by kernel_rfl) ?_
        refine At.reg (L := [(0, false), (1, false), (2, false), (3, false), (4, false), (5, false)]) (by kernel_rfl) ?_
        refine Op.pures 3 [0, 1, 5, 7, 8, 11, 12, 13] (L' := [(3, false), (4, false), (5, false)]) (e' := [(0, .slice a_s s.length n_s), (1, .func (.func 81) #[] #[.pointer (some ⟨b_rule, 0, none⟩), .pointer (some ⟨b_out, 0, none⟩)]), (5, .int .i64 i), (7, .int .i64 (s.length : Int)), (8, .int .i64 i), (11, .func (.func 81) #[] #[.pointer (some ⟨b_rule, 0, none⟩), .pointer (some ⟨b_out, 0, none⟩)]), (12, .slice a_s s.length n_s), (13, .int .i64 i)]) (by kernel_rfl) ?_
        obtain ⟨x2395, hx2396⟩ : ∃ c, s[(i : Int).toNat]? = some c := ⟨_, List.getElem?_eq_getElem (by first | omega | (subst ho; omega))⟩
        obtain ⟨b2397, o2398, cu2399, fz2400, ha2401, hb2402, hk2403⟩ := SlR.at_ h_s _ hx2396
        cases ha2401
        refine Op.idx (T := 22) (E := 27) (sz := 3) (by_ := 32) (n := s.length) (c := n_s) (k := .i64) (x := (.tmp 12)) (ix := (.tmp 13)) (dst := 14) (bk := b2397) (o := o2398) (m := i) (by kernel_rfl) (by kernel_rfl) (by kernel_rfl) (by kernel_rfl) (by first | omega | (subst ho; omega)) (by first | omega | (subst ho; omega)) ?_
        replace hk2403 : cut _ _ _ = [.int .i64 x2395.Client, .int .i64 x2395.Kind, .string (mkS x2395.Path)] := hk2403
        refine Op.loadA (T := 27) (x := (.tmp 14)) (o := o2398 + (i : Int).toNat * 3) (d := 15) (n := 3) (vs := [.int .i64 x2395.Client, .int .i64 x2395.Kind, .string (mkS x2395.Path)]) (by kernel_rfl) (by kernel_rfl) (by kernel_rfl) (s_loop22392.sub _ _ hb2402) (hk2403) rfl ?_
        refine Op.callV (dst := some 16) (x := (.tmp 11)) (ops := #[(.tmp 15)]) (ts := #[27]) (f := 81) (first := #[]) (cap := #[.pointer (some ⟨b_rule, 0, none⟩), .pointer (some ⟨b_out, 0, none⟩)]) (Lc := [c2391]) (L := []) (args := #[.agg #[.int .i64 x2395.Client, .int .i64 x2395.Kind, .string (mkS x2395.Path)], .pointer (some ⟨b_rule, 0, none⟩), .pointer (some ⟨b_out, 0, none⟩)]) (by kernel_rfl) (by kernel_rfl) (Enterable.of (by kernel_rfl)) (by kernel_rfl) s_loop22392 (takeRule _ _ _ s_loop22392.sub hG x2395 f_rule cp_rule rule e_rule h_rule b_rule hb_rule b_out o2 _ o2392 (by ((try dsimp only) <;> (first | omega | (subst ho; omega)))) (St.part (Lc := [c2391]) (L := []) s_loop22392)) (fun _ _ _ => trivial) ?_
        rintro _ g2408 _ h2404 hle2409 s2405 ⟨c2406, rfl, o2407, hgg, rfl⟩; subst g2408; clear hle2409
        refine Op.goto 6 (by kernel_rfl) ?_
        refine At.cond (b := rule x2395) (c := .tmp 16) (by kernel_rfl) (by kernel_rfl) (by kernel_rfl) 7 9 (by kernel_rfl) (by kernel_rfl) (fun hb => ?_) (fun hb => ?_)
        · have c2410 : (rule x2395) = true := hb
          clear hb
          refine At.keep [5] ?_; show At _ _ _ [(5, .int .i64 i)] _
          refine At.reg (L := [(0, false), (1, false)]) (by kernel_rfl) ?_
          refine Op.pures 2 [4] (L' := []) (e' := [(4, .int .i64 i)]) (by kernel_rfl) ?_
          refine Op.goto 8 (by kernel_rfl) ?_
          refine At.ret (f := Tryd.f100) (v := .int .i64 i) (by kernel_rfl) (by kernel_rfl) ?_
          refine hR _ _ _ _ s2405 ⟨c2406, ?_, ?_, rfl, rfl⟩
          · exact (eqI (by first | exact findAt_hit hat hx2396 c2410 | exact findAt_end hat c2410 | (subst ho; rw [if_pos c2410]; exact find_hit hat hx2396 c2410 h0) | (subst ho; exact find_end hat c2410)))
          · exact o2407.eq (by first | exact findAt_hit hat hx2396 c2410 | exact findAt_end hat c2410 | (subst ho; rw [if_pos c2410]; exact find_hit hat hx2396 c2410 h0) | (subst ho; exact find_end hat c2410))
        · have c2411 : (rule x2395) = false := hb
          clear hb
          refine At.keep [0, 1, 7, 8] ?_; show At _ _ _ [(0, .slice (some ⟨b2397, o2398, none⟩) s.length n_s), (1, .func (.func 81) #[] #[.pointer (some ⟨b_rule, 0, none⟩), .pointer (some ⟨b_out, 0, none⟩)]), (7, .int .i64 (s.length : Int)), (8, .int .i64 i)] _
          refine At.reg (L := [(0, false), (1, false)]) (by kernel_rfl) ?_
          refine Op.val (dst := some 18) (v := .int .i64 (IntKind.wrap .i64 (i + 1))) (v' := .int .i64 (i + 1)) (by kernel_rfl) (wrapEq_i64 (by first | omega | (subst ho; omega)) (by first | omega | (subst ho; omega))) ?_
          refine Op.pures 1 [0, 1, 7, 8] (L' := []) (e' := [(0, .slice (some ⟨b2397, o2398, none⟩) s.length n_s), (1, .func (.func 81) #[] #[.pointer (some ⟨b_rule, 0, none⟩), .pointer (some ⟨b_out, 0, none⟩)]), (7, .int .i64 (s.length : Int)), (8, .int .i64 (i + 1))]) (by kernel_rfl) ?_
          refine Op.goto 2 (by kernel_rfl) ?_
          exact ih2  (i + 1) (if rule x2395 = true then o2 ++ [x2395] else o2) _ _ (by omega) (by first | omega | (subst ho; omega)) (by first | omega | (subst ho; omega)) (by exact findAt_miss hat h0 hx2396 c2411) (by rw [if_neg (Bool.eq_false_iff.1 c2411)]; exact ho) o2407 s2405
      · have c2412 : ¬ (i < (s.length : Int)) := of_decide_eq_false hb
        clear hb
        refine At.keep [] ?_; show At _ _ _ [] _
        refine At.reg (L := [(0, false)]) (by kernel_rfl) ?_
        refine Op.pures 1 [4] (L' := []) (e' := [(4, .int .i64 (-1))]) (by kernel_rfl) ?_
        refine Op.goto 11 (by kernel_rfl) ?_
        refine At.ret (f := Tryd.f100) (v := .int .i64 (-1)) (by kernel_rfl) (by kernel_rfl) ?_
        refine hR _ _ _ _ s_loop22392 ⟨c2391, ?_, ?_, rfl, rfl⟩
        · exact (eqI (by first | exact findAt_hit hat {hx0} c2412 | exact findAt_end hat c2412 | (subst ho; rw [if_pos c2412]; exact find_hit hat {hx0} c2412 h0) | (subst ho; exact find_end hat c2412)))
        · exact o2392.eq (by first | exact findAt_hit hat {hx0} c2412 | exact findAt_end hat c2412 | (subst ho; rw [if_pos c2412]; exact find_hit hat {hx0} c2412 h0) | (subst ho; exact find_end hat c2412))
  exact loop2 _  0 out _ _ (Nat.lt_succ_self _) (by first | omega | (subst ho; omega)) (by first | omega | (subst ho; omega)) (by exact findAt_0 _ _) (by rfl) o_out hs

/-- slices.DeleteFunc[[]stanchion/api.Watch,stanchion/api.Watch] -/
theorem deleteF (B : World) (h : Heap) (g : GH) (hg : Sub g h) (hG : Glob g) (v_s : Value) (s : List Watch) (c_s : Chunk) (h_s : Row 27 kWatch g v_s s c_s) (f_rule : Nat) (cp_rule : Array Value) (rule : Watch → Bool) (e_rule : Enterable Tryd.prog f_rule) (h_rule : PredOk Tryd.prog g f_rule cp_rule (fun x : Watch => .agg #[.int .i64 x.Client, .int .i64 x.Kind, .string (mkS x.Path)]) (fun _ => True) rule) (b_rule : Nat) (hb_rule : g b_rule = some (.cells #[.func (.func f_rule) #[] cp_rule] 43 (0, 0))) (b_out : Nat) (out : List Watch) (c_out : Chunk) (o_out : IsOutW g b_out out c_out) (h1 : s.length ≤ 1000000) (h2 : out.length + s.length ≤ 1000000) (hs : St h g (ids [c_s, c_out]) g [c_s, c_out] h) :
    Spec Tryd.prog B 80 #[v_s, .func (.func 81) #[] #[.pointer (some ⟨b_rule, 0, none⟩), .pointer (some ⟨b_out, 0, none⟩)]] h g [c_s, c_out] (fun rv g' L' => ∃ v0 k0 k_out, rv = v0 ∧ Row 27 kWatch g' v0 (List.filter (fun w => !rule w) s) k0 ∧ IsOutW g' b_out (out ++ List.filter rule s) k_out ∧ g' = g ∧ L' = [k_out, k0]) := by
  obtain ⟨a_s, n_s, rfl⟩ := h_s.form
  refine Spec.of_at (f := Tryd.f80) (e := [(0, .slice a_s s.length n_s), (1, .func (.func 81) #[] #[.pointer (some ⟨b_rule, 0, none⟩), .pointer (some ⟨b_out, 0, none⟩)])]) Tryd.func80 (by kernel_rfl) (Nat.le_of_ble_eq_true (by kernel_rfl)) (by kernel_rfl) (by kernel_rfl) ?_
  intro R hR
  refine At.reg (L := [(0, false)]) (by kernel_rfl) ?_
  refine Op.pures 1 [0, 1] (L' := []) (e' := [(0, .slice a_s s.length n_s), (1, .func (.func 81) #[] #[.pointer (some ⟨b_rule, 0, none⟩), .pointer (some ⟨b_out, 0, none⟩)])]) (by kernel_rfl) ?_
  refine Op.goto 1 (by kernel_rfl) ?_
  refine At.reg (L := [(0, false), (1, false), (2, false), (3, false)]) (by kernel_rfl) ?_
  refine Op.pures 2 [0, 1, 8, 9] (L' := [(2, false), (3, false)]) (e' := [(0, .slice a_s s.length n_s), (1, .func (.func 81) #[] #[.pointer (some ⟨b_rule, 0, none⟩), .pointer (some ⟨b_out, 0, none⟩)]), (8, .slice a_s s.length n_s), (9, .func (.func 81) #[] #[.pointer (some ⟨b_rule, 0, none⟩), .pointer (some ⟨b_out, 0, none⟩)])]) (by kernel_rfl) ?_
  have hl2413 := hs.frzle
  have hz2414 := h_s.frz hs
  refine Op.lend (dst := some 10) (f := 100) (args := #[.slice a_s s.length n_s, .func (.func 81) #[] #[.pointer (some ⟨b_rule, 0, none⟩), .pointer (some ⟨b_out, 0, none⟩)]]) (cf := (c_s : Chunk)) (Lc := [c_out]) (L := []) (by kernel_rfl) hs (indexF _ _ _ hs.frzsub (hG.mono hl2413) _ _ hz2414 f_rule cp_rule rule e_rule (h_rule.mono hl2413) b_rule (hl2413 _ _ hb_rule) b_out out _ (o_out.mono hl2413) (by ((try dsimp only) <;> (first | omega | (have := (findI_hit {cl}).2.2; omega) | (have := hD.len; omega) | (have := hD.len; have := DelI_len hD h0; omega)))) (by ((try dsimp only) <;> (first | omega | (have := (findI_hit {cl}).2.2; omega) | (have := hD.len; omega) | (have := hD.len; have := DelI_len hD h0; omega)))) (St.part (Lc := [c_out]) (L := []) hs.freeze.1)) (fun _ _ _ hp => by obtain ⟨_, _, _, hgg, _⟩ := hp; exact hgg) (fun _ _ _ => trivial) ?_
  rintro _ _ h2415 s2416 ⟨c2417, rfl, o2418, hgg, rfl⟩; clear hgg
  replace o2418 := o2418.flat (g' := g)
  refine Op.pures 1 [0, 1, 5] (L' := []) (e' := [(0, .slice a_s s.length n_s), (1, .func (.func 81) #[] #[.pointer (some ⟨b_rule, 0, none⟩), .pointer (some ⟨b_out, 0, none⟩)]), (5, .int .i64 (findI rule s))]) (by kernel_rfl) ?_
  refine Op.goto 2 (by kernel_rfl) ?_
  refine At.reg (L := [(0, false), (1, false)]) (by kernel_rfl) ?_
  refine Op.pures 2 [0, 1, 5, 12] (L' := []) (e' := [(0, .slice a_s s.length n_s), (1, .func (.func 81) #[] #[.pointer (some ⟨b_rule, 0, none⟩), .pointer (some ⟨b_out, 0, none⟩)]), (5, .int .i64 (findI rule s)), (12, .bool ((findI rule s) == ((-1) : Int)))]) (by kernel_rfl) ?_
  refine Op.goto 3 (by kernel_rfl) ?_
  refine At.cond (b := (findI rule s) == ((-1) : Int)) (c := .tmp 12) (by kernel_rfl) (by kernel_rfl) (by kernel_rfl) 4 6 (by kernel_rfl) (by kernel_rfl) (fun hb => ?_) (fun hb => ?_)
  · have c2421 : (findI rule s) = ((-1) : Int) := eq_of_beq hb
    clear hb
    refine At.keep [0] ?_; show At _ _ _ [(0, .slice a_s s.length n_s)] _
    refine At.reg (L := [(0, false), (1, false)]) (by kernel_rfl) ?_
    refine Op.pures 2 [4] (L' := []) (e' := [(4, .slice a_s s.length n_s)]) (by kernel_rfl) ?_
    refine Op.goto 5 (by kernel_rfl) ?_
    refine At.ret (f := Tryd.f80) (v := .slice a_s s.length n_s) (by kernel_rfl) (by kernel_rfl) ?_
    have s2422 : St h g (ids [c_s, c_out]) g [c2417, c_s] h2415 := ((s2416.front 0 rfl).front 1 rfl)
    refine hR _ _ _ _ s2422 ⟨(.slice a_s s.length n_s), c_s, c2417, ?_, ?_, ?_, rfl, rfl⟩
    · exact rfl
    · exact rowEq h_s (by first | exact (filter_not (findI_none (by assumption)).1).symm | (rw [(findI_none (by assumption)).1, (findI_none (by assumption)).2]; rfl) | (subst_vars; exact (DelI_end hD c2421 h0 (by have := hD.len; omega) _).1) | exact (DelI_end hD c2421 h0 (by have := hD.len; omega) []).2)
    · exact o2418.eq (by first | exact (filter_not (findI_none (by assumption)).1).symm | (rw [(findI_none (by assumption)).1, (findI_none (by assumption)).2]; rfl) | (subst_vars; exact (DelI_end hD c2421 h0 (by have := hD.len; omega) _).1) | exact (DelI_end hD c2421 h0 (by have := hD.len; omega) []).2)
  · have c2423 : ¬ ((findI rule s) = ((-1) : Int)) := neF hb
    clear hb
    refine At.keep [0, 1, 5] ?_; show At _ _ _ [(0, .slice a_s s.length n_s), (1, .func (.func 81) #[] #[.pointer (some ⟨b_rule, 0, none⟩), .pointer (some ⟨b_out, 0, none⟩)]), (5, .int .i64 (findI rule s))] _
    refine At.reg (L := [(0, false), (1, false), (2, false)]) (by kernel_rfl) ?_
    refine Op.pures 1 [0, 1, 5, 14] (L' := [(1, false), (2, false)]) (e' := [(0, .slice a_s s.length n_s), (1, .func (.func 81) #[] #[.pointer (some ⟨b_rule, 0, none⟩), .pointer (some ⟨b_out, 0, none⟩)]), (5, .int .i64 (findI rule s)), (14, .int .i64 (findI rule s))]) (by kernel_rfl) ?_
    refine Op.val (dst := some 15) (v := .int .i64 (IntKind.wrap .i64 ((findI rule s) + 1))) (v' := .int .i64 ((findI rule s) + 1)) (by kernel_rfl) (wrapEq_i64 (by first | omega | (have := (findI_hit c2423).2.2; omega) | (have := hD.len; omega) | (have := hD.len; have := DelI_len hD h0; omega)) (by first | omega | (have := (findI_hit c2423).2.2; omega) | (have := hD.len; omega) | (have := hD.len; have := DelI_len hD h0; omega))) ?_
    refine Op.pures 1 [0, 1, 5, 6] (L' := []) (e' := [(0, .slice a_s s.length n_s), (1, .func (.func 81) #[] #[.pointer (some ⟨b_rule, 0, none⟩), .pointer (some ⟨b_out, 0, none⟩)]), (5, .int .i64 (findI rule s)), (6, .int .i64 ((findI rule s) + 1))]) (by kernel_rfl) ?_
    refine Op.goto 7 (by kernel_rfl) ?_
    have loop7 : ∀ (m : Nat) (i : Int) (k : Int) (ys : List Watch) (o2 : List Watch) (a2424 : Option Addr) (n2425 : Nat) (ch2426 : Chunk) (c2428 : Chunk) (h2430 : Heap) (hm : s.length - k.toNat < m) (h0 : 0 ≤ i) (h3 : i < k) (h4 : k ≤ s.length) (hD : DelI s ys o2 out rule i k) (R2427 : Row 27 kWatch g (.slice a2424 ys.length n2425) ys ch2426) (o2429 : IsOutW g b_out o2 c2428)  (s_loop72429 : St h g (ids [c_s, c_out]) g [ch2426, c2428] h2430), At (fctx Tryd.prog B 80 Tryd.f80 R) [] 7 [(0, .slice a2424 ys.length n2425), (1, .func (.func 81) #[] #[.pointer (some ⟨b_rule, 0, none⟩), .pointer (some ⟨b_out, 0, none⟩)]), (5, .int .i64 i), (6, .int .i64 k)] h2430 := by
      intro m; induction m with
      | zero => intros; omega
      | succ m ih7 =>
        intro i k ys o2 a2424 n2425 ch2426 c2428 h2430 hm h0 h3 h4 hD R2427 o2429 s_loop72429
        refine At.reg (L := [(0, false), (1, false), (2, false), (3, false)]) (by kernel_rfl) ?_
        refine Op.pures 4 [0, 1, 5, 6, 19] (L' := []) (e' := [(0, .slice a2424 ys.length n2425), (1, .func (.func 81) #[] #[.pointer (some ⟨b_rule, 0, none⟩), .pointer (some ⟨b_out, 0, none⟩)]), (5, .int .i64 i), (6, .int .i64 k), (19, .bool (decide (k < (ys.length : Int))))]) (by kernel_rfl) ?_
        refine Op.goto 8 (by kernel_rfl) ?_
        refine At.cond (b := decide (k < (ys.length : Int))) (c := .tmp 19) (by kernel_rfl) (by kernel_rfl) (by kernel_rfl) 9 15 (by kernel_rfl) (by kernel_rfl) (fun hb => ?_) (fun hb => ?_)
        · have c2431 : k < (ys.length : Int) := of_decide_eq_true hb
          clear hb
          refine At.keep [0, 1, 5, 6] ?_; show At _ _ _ [(0, .slice a2424 ys.length n2425), (1, .func (.func 81) #[] #[.pointer (some ⟨b_rule, 0, none⟩), .pointer (some ⟨b_out, 0, none⟩)]), (5, .int .i64 i), (6, .int .i64 k)] _
          refine At.reg (L := [(0, false), (1, false), (2, false), (3, false), (4, false), (5, false)]) (by kernel_rfl) ?_
          refine Op.pures 2 [0, 1, 5, 6, 22, 23] (L' := [(2, false), (3, false), (4, false), (5, false)]) (e' := [(0, .slice a2424 ys.length n2425), (1, .func (.func 81) #[] #[.pointer (some ⟨b_rule, 0, none⟩), .pointer (some ⟨b_out, 0, none⟩)]), (5, .int .i64 i), (6, .int .i64 k), (22, .slice a2424 ys.length n2425), (23, .int .i64 k)]) (by kernel_rfl) ?_
          obtain ⟨x2432, hx2433⟩ : ∃ c, ys[(k : Int).toNat]? = some c := ⟨_, List.getElem?_eq_getElem (by first | omega | (have := (findI_hit c2431).2.2; omega) | (have := hD.len; omega) | (have := hD.len; have := DelI_len hD h0; omega))⟩
          obtain ⟨b2434, o2435, cu2436, fz2437, ha2438, hb2439, hk2440⟩ := SlH.at_ (R2427.toH s_loop72429 0 rfl) _ hx2433
          cases ha2438
          refine Op.idx (T := 22) (E := 27) (sz := 3) (by_ := 32) (n := ys.length) (c := n2425) (k := .i64) (x := (.tmp 22)) (ix := (.tmp 23)) (dst := 24) (bk := b2434) (o := o2435) (m := k) (by kernel_rfl) (by kernel_rfl) (by kernel_rfl) (by kernel_rfl) (by first | omega | (have := (findI_hit c2431).2.2; omega) | (have := hD.len; omega) | (have := hD.len; have := DelI_len hD h0; omega)) (by first | omega | (have := (findI_hit c2431).2.2; omega) | (have := hD.len; omega) | (have := hD.len; have := DelI_len hD h0; omega)) ?_
          replace hk2440 : cut _ _ _ = [.int .i64 x2432.Client, .int .i64 x2432.Kind, .string (mkS x2432.Path)] := hk2440
          refine Op.loadA (T := 27) (x := (.tmp 24)) (o := o2435 + (k : Int).toNat * 3) (d := 25) (n := 3) (vs := [.int .i64 x2432.Client, .int .i64 x2432.Kind, .string (mkS x2432.Path)]) (by kernel_rfl) (by kernel_rfl) (by kernel_rfl) hb2439 (hk2440) rfl ?_
          refine Op.alloc (T := 27) (dst := 7) (cs := #[.int .i64 0, .int .i64 0, .string (mkS [])]) (by kernel_rfl) (by kernel_rfl) s_loop72429 ?_
          intro b2441 h2442 s2443
          refine Op.store (T := 27) (x := (.tmp 7)) (y := (.tmp 25)) (b := b2441) (o := 0) (vs := [.int .i64 x2432.Client, .int .i64 x2432.Kind, .string (mkS x2432.Path)]) (a? := true) (n := 3) (by kernel_rfl) (by kernel_rfl) (by kernel_rfl) (by kernel_rfl) rfl (by simp [Value.oneCell']) s2443 0 rfl (Nat.le_of_ble_eq_true (by kernel_rfl)) (cs := #[.int .i64 0, .int .i64 0, .string (mkS [])]) (cs' := #[.int .i64 x2432.Client, .int .i64 x2432.Kind, .string (mkS x2432.Path)]) (by kernel_rfl) (fun _ => trivial) ?_
          intro h2444 s2445
          refine Op.goto 10 (by kernel_rfl) ?_
          refine At.reg (L := [(0, false), (1, false), (2, false), (3, false)]) (by kernel_rfl) ?_
          refine Op.pures 1 [0, 1, 5, 6, 7, 26] (L' := [(1, false), (2, false), (3, false)]) (e' := [(0, .slice (some ⟨b2434, o2435, none⟩) ys.length n2425), (1, .func (.func 81) #[] #[.pointer (some ⟨b_rule, 0, none⟩), .pointer (some ⟨b_out, 0, none⟩)]), (5, .int .i64 i), (6, .int .i64 k), (7, .pointer (some ⟨b2441, 0, none⟩)), (26, .func (.func 81) #[] #[.pointer (some ⟨b_rule, 0, none⟩), .pointer (some ⟨b_out, 0, none⟩)])]) (by kernel_rfl) ?_
          refine Op.loadA (T := 27) (x := (.tmp 7)) (o := 0) (d := 27) (n := 3) (vs := [.int .i64 x2432.Client, .int .i64 x2432.Kind, .string (mkS x2432.Path)]) (by kernel_rfl) (by kernel_rfl) (by kernel_rfl) (s2445.chunk 0 rfl) (by kernel_rfl) rfl ?_
          have s2446 : St h g (ids [c_s, c_out]) g [c2428, [(b2441, Obj.cells #[.int .i64 x2432.Client, .int .i64 x2432.Kind, .string (mkS x2432.Path)] 27 (0, 0))], ch2426] h2444 := (((s2445.front 1 rfl).front 1 rfl).front 2 rfl)
          refine Op.callV (dst := some 28) (x := (.tmp 26)) (ops := #[(.tmp 27)]) (ts := #[27]) (f := 81) (first := #[]) (cap := #[.pointer (some ⟨b_rule, 0, none⟩), .pointer (some ⟨b_out, 0, none⟩)]) (Lc := [c2428]) (L := [[(b2441, Obj.cells #[.int .i64 x2432.Client, .int .i64 x2432.Kind, .string (mkS x2432.Path)] 27 (0, 0))], ch2426]) (args := #[.agg #[.int .i64 x2432.Client, .int .i64 x2432.Kind, .string (mkS x2432.Path)], .pointer (some ⟨b_rule, 0, none⟩), .pointer (some ⟨b_out, 0, none⟩)]) (by kernel_rfl) (by kernel_rfl) (Enterable.of (by kernel_rfl)) (by kernel_rfl) s2446 (takeRule _ _ _ s2446.sub hG x2432 f_rule cp_rule rule e_rule h_rule b_rule hb_rule b_out o2 _ o2429 (by ((try dsimp only) <;> (first | omega | (have := (findI_hit c2431).2.2; omega) | (have := hD.len; omega) | (have := hD.len; have := DelI_len hD h0; omega)))) (St.part (Lc := [c2428]) (L := [[(b2441, Obj.cells #[.int .i64 x2432.Client, .int .i64 x2432.Kind, .string (mkS x2432.Path)] 27 (0, 0))], ch2426]) s2446)) (fun _ _ _ => trivial) ?_
          rintro _ g2451 _ h2447 hle2452 s2448 ⟨c2449, rfl, o2450, hgg, rfl⟩; subst g2451; clear hle2452
          refine Op.pures 1 [0, 1, 5, 6, 7, 29] (L' := []) (e' := [(0, .slice (some ⟨b2434, o2435, none⟩) ys.length n2425), (1, .func (.func 81) #[] #[.pointer (some ⟨b_rule, 0, none⟩), .pointer (some ⟨b_out, 0, none⟩)]), (5, .int .i64 i), (6, .int .i64 k), (7, .pointer (some ⟨b2441, 0, none⟩)), (29, .bool (!(rule x2432)))]) (by kernel_rfl) ?_
          refine Op.goto 11 (by kernel_rfl) ?_
          refine At.cond (b := !(rule x2432)) (c := .tmp 29) (by kernel_rfl) (by kernel_rfl) (by kernel_rfl) 12 14 (by kernel_rfl) (by kernel_rfl) (fun hb => ?_) (fun hb => ?_)
          · have c2453 : (rule x2432) = false := (notT hb)
            clear hb
            refine At.keep [0, 1, 5, 6, 7] ?_; show At _ _ _ [(0, .slice (some ⟨b2434, o2435, none⟩) ys.length n2425), (1, .func (.func 81) #[] #[.pointer (some ⟨b_rule, 0, none⟩), .pointer (some ⟨b_out, 0, none⟩)]), (5, .int .i64 i), (6, .int .i64 k), (7, .pointer (some ⟨b2441, 0, none⟩))] _
            refine At.reg (L := [(0, false), (1, false), (2, false), (3, false), (4, false)]) (by kernel_rfl) ?_
            refine Op.pures 2 [0, 1, 5, 6, 7, 30, 31] (L' := [(2, false), (3, false), (4, false)]) (e' := [(0, .slice (some ⟨b2434, o2435, none⟩) ys.length n2425), (1, .func (.func 81) #[] #[.pointer (some ⟨b_rule, 0, none⟩), .pointer (some ⟨b_out, 0, none⟩)]), (5, .int .i64 i), (6, .int .i64 k), (7, .pointer (some ⟨b2441, 0, none⟩)), (30, .slice (some ⟨b2434, o2435, none⟩) ys.length n2425), (31, .int .i64 i)]) (by kernel_rfl) ?_
            refine Op.loadA (T := 27) (x := (.tmp 7)) (o := 0) (d := 32) (n := 3) (vs := [.int .i64 x2432.Client, .int .i64 x2432.Kind, .string (mkS x2432.Path)]) (by kernel_rfl) (by kernel_rfl) (by kernel_rfl) (s2448.chunk 1 rfl) (by kernel_rfl) rfl ?_
            obtain ⟨x2454, hx2455⟩ : ∃ c, ys[(i : Int).toNat]? = some c := ⟨_, List.getElem?_eq_getElem (by first | omega | (have := (findI_hit c2453).2.2; omega) | (have := hD.len; omega) | (have := hD.len; have := DelI_len hD h0; omega))⟩
            obtain ⟨b2456, o2457, cu2458, fz2459, ha2460, hb2461, hk2462⟩ := SlH.at_ (R2427.toH s2448 2 rfl) _ hx2455
            cases ha2460
            refine Op.idx (T := 22) (E := 27) (sz := 3) (by_ := 32) (n := ys.length) (c := n2425) (k := .i64) (x := (.tmp 30)) (ix := (.tmp 31)) (dst := 33) (bk := b2434) (o := o2435) (m := i) (by kernel_rfl) (by kernel_rfl) (by kernel_rfl) (by kernel_rfl) (by first | omega | (have := (findI_hit c2453).2.2; omega) | (have := hD.len; omega) | (have := hD.len; have := DelI_len hD h0; omega)) (by first | omega | (have := (findI_hit c2453).2.2; omega) | (have := hD.len; omega) | (have := hD.len; have := DelI_len hD h0; omega)) ?_
            replace hk2462 : cut _ _ _ = [.int .i64 x2454.Client, .int .i64 x2454.Kind, .string (mkS x2454.Path)] := hk2462
            obtain ⟨_, _, cap2463, cu2464, rs2465, ev2466, ec2467, h2468, h2469, h2470, h2471⟩ := R2427.cases (Nat.lt_of_le_of_lt (Nat.zero_le _) (List.getElem?_eq_some_iff.1 hx2455).1)
            cases ev2466; subst ec2467
            have hi2475 := (List.getElem?_eq_some_iff.1 hx2455).1
            have ha2476 := Nat.mul_le_mul_right 3 (Nat.le_trans (Nat.succ_le_of_lt hi2475) (Nat.le_trans (Nat.le_add_right _ _) (Nat.le_of_eq h2468)))
            refine Op.store (T := 27) (x := (.tmp 33)) (y := (.tmp 32)) (b := b2434) (o := o2435 + (i : Int).toNat * 3) (vs := [.int .i64 x2432.Client, .int .i64 x2432.Kind, .string (mkS x2432.Path)]) (a? := true) (n := 3) (by kernel_rfl) (by kernel_rfl) (by kernel_rfl) (by kernel_rfl) rfl (by simp [Value.oneCell']) s2448 2 rfl (by simp only [Nat.succ_mul] at ha2476; simp only [show (kWatch).sz = 3 from rfl] at h2470; omega) (cs := cu2464) (cs' := splice cu2464 (o2435 + (i : Int).toNat * 3) [.int .i64 x2432.Client, .int .i64 x2432.Kind, .string (mkS x2432.Path)]) rfl (fun _ => trivial) ?_
            intro h2472 s2473
            have R2474 := Row.put (T := 27) (b := b2434) h2468 h2469 h2470 h2471 _ hi2475 (x := x2432) (vs := [.int .i64 x2432.Client, .int .i64 x2432.Kind, .string (mkS x2432.Path)]) rfl
            refine Op.pures 0 [0, 1, 5, 6] (L' := []) (e' := [(0, .slice (some ⟨b2434, o2435, none⟩) ys.length n2425), (1, .func (.func 81) #[] #[.pointer (some ⟨b_rule, 0, none⟩), .pointer (some ⟨b_out, 0, none⟩)]), (5, .int .i64 i), (6, .int .i64 k)]) (by kernel_rfl) ?_
            refine Op.cast (e' := [(0, .slice (some ⟨b2434, o2435, none⟩) ((ys.set (i : Int).toNat x2432).length) n2425), (1, .func (.func 81) #[] #[.pointer (some ⟨b_rule, 0, none⟩), .pointer (some ⟨b_out, 0, none⟩)]), (5, .int .i64 i), (6, .int .i64 k)]) (by simp only [List.length_set]) ?_
            refine Op.goto 13 (by kernel_rfl) ?_
            refine At.reg (L := [(0, false), (1, false), (2, false)]) (by kernel_rfl) ?_
            refine Op.pures 1 [0, 1, 5, 6, 34] (L' := [(1, false), (2, false)]) (e' := [(0, .slice (some ⟨b2434, o2435, none⟩) ((ys.set (i : Int).toNat x2432).length) n2425), (1, .func (.func 81) #[] #[.pointer (some ⟨b_rule, 0, none⟩), .pointer (some ⟨b_out, 0, none⟩)]), (5, .int .i64 i), (6, .int .i64 k), (34, .int .i64 i)]) (by kernel_rfl) ?_
            refine Op.val (dst := some 35) (v := .int .i64 (IntKind.wrap .i64 (i + 1))) (v' := .int .i64 (i + 1)) (by kernel_rfl) (wrapEq_i64 (by first | omega | (have := (findI_hit c2453).2.2; omega) | (have := hD.len; omega) | (have := hD.len; have := DelI_len hD h0; omega)) (by first | omega | (have := (findI_hit c2453).2.2; omega) | (have := hD.len; omega) | (have := hD.len; have := DelI_len hD h0; omega))) ?_
            refine Op.pures 1 [0, 1, 5, 6] (L' := []) (e' := [(0, .slice (some ⟨b2434, o2435, none⟩) ((ys.set (i : Int).toNat x2432).length) n2425), (1, .func (.func 81) #[] #[.pointer (some ⟨b_rule, 0, none⟩), .pointer (some ⟨b_out, 0, none⟩)]), (5, .int .i64 (i + 1)), (6, .int .i64 k)]) (by kernel_rfl) ?_
            refine Op.goto 14 (by kernel_rfl) ?_
            refine At.reg (L := [(0, false), (1, false), (2, false)]) (by kernel_rfl) ?_
            refine Op.pures 1 [0, 1, 5, 6, 20] (L' := [(1, false), (2, false)]) (e' := [(0, .slice (some ⟨b2434, o2435, none⟩) ((ys.set (i : Int).toNat x2432).length) n2425), (1, .func (.func 81) #[] #[.pointer (some ⟨b_rule, 0, none⟩), .pointer (some ⟨b_out, 0, none⟩)]), (5, .int .i64 (i + 1)), (6, .int .i64 k), (20, .int .i64 k)]) (by kernel_rfl) ?_
            refine Op.val (dst := some 21) (v := .int .i64 (IntKind.wrap .i64 (k + 1))) (v' := .int .i64 (k + 1)) (by kernel_rfl) (wrapEq_i64 (by first | omega | (have := (findI_hit c2453).2.2; omega) | (have := hD.len; omega) | (have := hD.len; have := DelI_len hD h0; omega)) (by first | omega | (have := (findI_hit c2453).2.2; omega) | (have := hD.len; omega) | (have := hD.len; have := DelI_len hD h0; omega))) ?_
            refine Op.pures 1 [0, 1, 5, 6] (L' := []) (e' := [(0, .slice (some ⟨b2434, o2435, none⟩) ((ys.set (i : Int).toNat x2432).length) n2425), (1, .func (.func 81) #[] #[.pointer (some ⟨b_rule, 0, none⟩), .pointer (some ⟨b_out, 0, none⟩)]), (5, .int .i64 (i + 1)), (6, .int .i64 (k + 1))]) (by kernel_rfl) ?_
            refine Op.goto 7 (by kernel_rfl) ?_
            have s2477 : St h g (ids [c_s, c_out]) g [[(b2441, Obj.cells #[.int .i64 x2432.Client, .int .i64 x2432.Kind, .string (mkS x2432.Path)] 27 (0, 0))], [(b2434, Obj.cells (splice cu2464 (o2435 + (i : Int).toNat * 3) [.int .i64 x2432.Client, .int .i64 x2432.Kind, .string (mkS x2432.Path)]) 27 (0, 0))], c2449] h2472 := (((s2473.front 0 rfl).front 2 rfl).front 2 rfl)
            have s2478 : St h g (ids [c_s, c_out]) g [[(b2434, Obj.cells (splice cu2464 (o2435 + (i : Int).toNat * 3) [.int .i64 x2432.Client, .int .i64 x2432.Kind, .string (mkS x2432.Path)]) 27 (0, 0))], c2449] h2472 := (s2477).drop
            exact ih7  (i + 1) (k + 1) (ys.set (i : Int).toNat x2432) (if rule x2432 = true then o2 ++ [x2432] else o2) _ _ _ _ _ (by (have := hD.len; omega)) (by first | omega | (have := (findI_hit c2453).2.2; omega) | (have := hD.len; omega) | (have := hD.len; have := DelI_len hD h0; omega)) (by first | omega | (have := (findI_hit c2453).2.2; omega) | (have := hD.len; omega) | (have := hD.len; have := DelI_len hD h0; omega)) (by first | omega | (have := (findI_hit c2453).2.2; omega) | (have := hD.len; omega) | (have := hD.len; have := DelI_len hD h0; omega)) (by first | (rw [if_neg (Bool.eq_false_iff.1 c2453)]; exact DelI_keep hD h0 (by omega) hx2433 c2453) | (rw [if_pos c2453]; exact DelI_drop hD (by omega) hx2433 c2453)) R2474 o2450 s2478
          · have c2479 : (rule x2432) = true := (notF hb)
            clear hb
            refine At.keep [0, 1, 5, 6] ?_; show At _ _ _ [(0, .slice (some ⟨b2434, o2435, none⟩) ys.length n2425), (1, .func (.func 81) #[] #[.pointer (some ⟨b_rule, 0, none⟩), .pointer (some ⟨b_out, 0, none⟩)]), (5, .int .i64 i), (6, .int .i64 k)] _
            refine At.reg (L := [(0, false), (1, false), (2, false)]) (by kernel_rfl) ?_
            refine Op.pures 1 [0, 1, 5, 6, 20] (L' := [(1, false), (2, false)]) (e' := [(0, .slice (some ⟨b2434, o2435, none⟩) ys.length n2425), (1, .func (.func 81) #[] #[.pointer (some ⟨b_rule, 0, none⟩), .pointer (some ⟨b_out, 0, none⟩)]), (5, .int .i64 i), (6, .int .i64 k), (20, .int .i64 k)]) (by kernel_rfl) ?_
            refine Op.val (dst := some 21) (v := .int .i64 (IntKind.wrap .i64 (k + 1))) (v' := .int .i64 (k + 1)) (by kernel_rfl) (wrapEq_i64 (by first | omega | (have := (findI_hit c2479).2.2; omega) | (have := hD.len; omega) | (have := hD.len; have := DelI_len hD h0; omega)) (by first | omega | (have := (findI_hit c2479).2.2; omega) | (have := hD.len; omega) | (have := hD.len; have := DelI_len hD h0; omega))) ?_
            refine Op.pures 1 [0, 1, 5, 6] (L' := []) (e' := [(0, .slice (some ⟨b2434, o2435, none⟩) ys.length n2425), (1, .func (.func 81) #[] #[.pointer (some ⟨b_rule, 0, none⟩), .pointer (some ⟨b_out, 0, none⟩)]), (5, .int .i64 i), (6, .int .i64 (k + 1))]) (by kernel_rfl) ?_
            refine Op.goto 7 (by kernel_rfl) ?_
            have s2480 : St h g (ids [c_s, c_out]) g [[(b2441, Obj.cells #[.int .i64 x2432.Client, .int .i64 x2432.Kind, .string (mkS x2432.Path)] 27 (0, 0))], ch2426, c2449] h2447 := (((s2448.front 0 rfl).front 2 rfl).front 2 rfl)
            have s2481 : St h g (ids [c_s, c_out]) g [ch2426, c2449] h2447 := (s2480).drop
            exact ih7  i (k + 1) ys (if rule x2432 = true then o2 ++ [x2432] else o2) _ _ _ _ _ (by (have := hD.len; omega)) (by first | omega | (have := (findI_hit c2479).2.2; omega) | (have := hD.len; omega) | (have := hD.len; have := DelI_len hD h0; omega)) (by first | omega | (have := (findI_hit c2479).2.2; omega) | (have := hD.len; omega) | (have := hD.len; have := DelI_len hD h0; omega)) (by first | omega | (have := (findI_hit c2479).2.2; omega) | (have := hD.len; omega) | (have := hD.len; have := DelI_len hD h0; omega)) (by first | (rw [if_neg (Bool.eq_false_iff.1 c2479)]; exact DelI_keep hD h0 (by omega) hx2433 c2479) | (rw [if_pos c2479]; exact DelI_drop hD (by omega) hx2433 c2479)) R2427 o2450 s2481
        · have c2482 : ¬ (k < (ys.length : Int)) := of_decide_eq_false hb
          clear hb
          refine At.keep [0, 5] ?_; show At _ _ _ [(0, .slice a2424 ys.length n2425), (5, .int .i64 i)] _
          refine At.reg (L := [(0, false), (1, false), (2, false), (3, false)]) (by kernel_rfl) ?_
          refine Op.pures 2 [0, 5, 36, 37] (L' := [(2, false), (3, false)]) (e' := [(0, .slice a2424 ys.length n2425), (5, .int .i64 i), (36, .slice a2424 ys.length n2425), (37, .int .i64 i)]) (by kernel_rfl) ?_
          refine Op.slLo (T := 22) (E := 27) (sz := 3) (by_ := 32) (x := (.tmp 36)) (lo := (.tmp 37)) (ao := a2424) (n := ys.length) (c := n2425) (dst := 38) (k := .i64) (m := i) (by kernel_rfl) (by kernel_rfl) (by kernel_rfl) (by kernel_rfl) (by first | omega | (have := (findI_hit c2482).2.2; omega) | (have := hD.len; omega) | (have := hD.len; have := DelI_len hD h0; omega)) (by first | omega | (have := (findI_hit c2482).2.2; omega) | (have := hD.len; omega) | (have := hD.len; have := DelI_len hD h0; omega)) ?_
          refine Op.clearO (x := (.tmp 38)) (t := 22) (E := 27) (by_ := 32) (d := kWatch) (ao := a2424) (n := ys.length) (c := n2425) (lo := (i : Int).toNat) (by kernel_rfl) (by kernel_rfl) (by kernel_rfl) (by kernel_rfl) R2427 (by first | omega | (have := (findI_hit c2482).2.2; omega) | (have := hD.len; omega) | (have := hD.len; have := DelI_len hD h0; omega)) s_loop72429 0 rfl (fun _ _ _ => trivial) ?_
          intro ch2487 h2488 R2489 s2490
          have hl2491 := putAt_lenR (xs := ys) (z := Kd.zv kWatch) (lo := (i : Int).toNat) (by first | omega | (have := (findI_hit c2482).2.2; omega) | (have := hD.len; omega) | (have := hD.len; have := DelI_len hD h0; omega))
          generalize hE2492 : putAt ys (i : Int).toNat (List.replicate (ys.length - (i : Int).toNat) (Kd.zv kWatch)) = ys2493 at R2489 hl2491
          refine Op.goto 16 (by kernel_rfl) ?_
          refine At.reg (L := [(0, false), (1, false), (2, false), (3, false)]) (by kernel_rfl) ?_
          refine Op.pures 2 [39, 40] (L' := [(2, false), (3, false)]) (e' := [(39, .slice a2424 ys.length n2425), (40, .int .i64 i)]) (by kernel_rfl) ?_
          have hc2499 := R2489.capLe
          have R2498 := R2489.take (i : Int).toNat (by first | omega | (have := (findI_hit c2482).2.2; omega) | (have := hD.len; omega) | (have := hD.len; have := DelI_len hD h0; omega))
          refine Op.slHi (T := 22) (E := 27) (sz := 3) (by_ := 32) (x := (.tmp 39)) (hi := (.tmp 40)) (ao := a2424) (n := ys.length) (c := n2425) (dst := 41) (k := .i64) (m := i) (by kernel_rfl) (by kernel_rfl) (by kernel_rfl) (by kernel_rfl) (by first | omega | (have := (findI_hit c2482).2.2; omega) | (have := hD.len; omega) | (have := hD.len; have := DelI_len hD h0; omega)) (by first | omega | (have := (findI_hit c2482).2.2; omega) | (have := hD.len; omega) | (have := hD.len; have := DelI_len hD h0; omega)) ?_
          refine Op.pures 1 [4] (L' := []) (e' := [(4, .slice (subAddr a2424 0 n2425 3) ((i : Int).toNat) n2425)]) (by kernel_rfl) ?_
          refine Op.goto 17 (by kernel_rfl) ?_
          refine At.ret (f := Tryd.f80) (v := .slice (subAddr a2424 0 n2425 3) ((i : Int).toNat) n2425) (by kernel_rfl) (by kernel_rfl) ?_
          have s2500 : St h g (ids [c_s, c_out]) g [c2428, ch2487] h2488 := ((s2490.front 0 rfl).front 1 rfl)
          refine hR _ _ _ _ s2500 ⟨(.slice (subAddr a2424 0 n2425 3) ((i : Int).toNat) n2425), ch2487, c2428, ?_, ?_, ?_, rfl, rfl⟩
          · exact rfl
          · exact rowEq R2498 (by first | exact (filter_not (findI_none (by assumption)).1).symm | (rw [(findI_none (by assumption)).1, (findI_none (by assumption)).2]; rfl) | (subst_vars; exact (DelI_end hD c2482 h0 (by have := hD.len; omega) _).1) | exact (DelI_end hD c2482 h0 (by have := hD.len; omega) []).2)
          · exact o2429.eq (by first | exact (filter_not (findI_none (by assumption)).1).symm | (rw [(findI_none (by assumption)).1, (findI_none (by assumption)).2]; rfl) | (subst_vars; exact (DelI_end hD c2482 h0 (by have := hD.len; omega) _).1) | exact (DelI_end hD c2482 h0 (by have := hD.len; omega) []).2)
    exact loop7 _  (findI rule s) ((findI rule s) + 1) s (out ++ (List.find? rule s).toList) _ _ _ _ _ (Nat.lt_succ_self _) (by exact (findI_hit c2423).2.2.1) (by first | omega | (have := (findI_hit c2423).2.2; omega) | (have := hD.len; omega) | (have := hD.len; have := DelI_len hD h0; omega)) (by (have := (findI_hit c2423).2.2.2; omega)) (by exact DelI_0 c2423) h_s o2418 s2416

/-- (*stanchion/watch.Table).take -/
theorem take_ (B : World) (h : Heap) (g : GH) (hg : Sub g h) (hG : Glob g) (b_t : Nat) (t : List Watch) (c_t : Chunk) (o_t : IsTab g b_t t c_t) (f_rule : Nat) (cp_rule : Array Value) (rule : Watch → Bool) (e_rule : Enterable Tryd.prog f_rule) (h_rule : PredOk Tryd.prog g f_rule cp_rule (fun x : Watch => .agg #[.int .i64 x.Client, .int .i64 x.Kind, .string (mkS x.Path)]) (fun _ => True) rule) (h1 : t.length ≤ 1000000) (hs : St h g (ids [c_t]) g [c_t] h) :
    Spec Tryd.prog B 55 #[.pointer (some ⟨b_t, 0, none⟩), .func (.func f_rule) #[] cp_rule] h g [c_t] (fun rv g' L' => ∃ v0 k0 k_t, rv = v0 ∧ Row 27 kWatch g' v0 (List.filter rule t) k0 ∧ IsTab g' b_t (List.filter (fun w => !rule w) t) k_t ∧ g' = g ∧ L' = [k_t, k0]) := by
  refine Spec.of_at (f := Tryd.f55) (e := [(0, .pointer (some ⟨b_t, 0, none⟩)), (1, .func (.func f_rule) #[] cp_rule)]) Tryd.func55 (by kernel_rfl) (Nat.le_of_ble_eq_true (by kernel_rfl)) (by kernel_rfl) (by kernel_rfl) ?_
  intro R hR
  refine At.reg (L := [(0, false), (1, false)]) (by kernel_rfl) ?_
  refine Op.box (T := 43) (x := (.tmp 1)) (d := 3) (cs := #[.func (.func f_rule) #[] cp_rule]) (by kernel_rfl) (by kernel_rfl) hs ?_
  intro b2501 h2502 s2503
  refine Op.pures 1 [0, 3] (L' := []) (e' := [(0, .pointer (some ⟨b_t, 0, none⟩)), (3, .pointer (some ⟨b2501, 0, none⟩))]) (by kernel_rfl) ?_
  refine Op.goto 1 (by kernel_rfl) ?_
  refine At.reg (L := [(0, false)]) (by kernel_rfl) ?_
  refine Op.alloc (T := 22) (dst := 5) (cs := #[.slice none 0 0]) (by kernel_rfl) (by kernel_rfl) s2503 ?_
  intro b2504 h2505 s2506
  refine Op.goto 2 (by kernel_rfl) ?_
  refine At.reg (L := [(0, false), (1, false), (2, false), (3, false), (4, false), (5, false), (6, false), (7, false), (8, false), (9, false)]) (by kernel_rfl) ?_
  refine Op.pures 4 [3, 5, 6, 9] (L' := [(4, false), (5, false), (6, false), (7, false), (8, false), (9, false)]) (e' := [(3, .pointer (some ⟨b2501, 0, none⟩)), (5, .pointer (some ⟨b2504, 0, none⟩)), (6, .pointer (some ⟨b_t, 0, none⟩)), (9, .pointer (some ⟨b_t, 0, none⟩))]) (by kernel_rfl) ?_
  obtain ⟨v2507, c2508, e2509, R2510⟩ := o_t
  obtain ⟨a2511, n2512, rfl⟩ := R2510.form
  have s2513 : St h g (ids [c_t]) g [c_t, [(b2504, Obj.cells #[.slice none 0 0] 22 (0, 0))], [(b2501, Obj.cells #[.func (.func f_rule) #[] cp_rule] 43 (0, 0))]] h2505 := (((s2506.front 1 rfl).front 1 rfl).front 2 rfl)
  have s2514 : St h g (ids [c_t]) g [[(b_t, Obj.cells #[.slice a2511 t.length n2512] 73 (0, 0))], c2508, [(b2504, Obj.cells #[.slice none 0 0] 22 (0, 0))], [(b2501, Obj.cells #[.func (.func f_rule) #[] cp_rule] 43 (0, 0))]] h2505 := St.flat (L := [c_t, [(b2504, Obj.cells #[.slice none 0 0] 22 (0, 0))], [(b2501, Obj.cells #[.func (.func f_rule) #[] cp_rule] 43 (0, 0))]]) (by rw [e2509]; simp only [List.flatten_cons, List.append_assoc, List.cons_append, List.nil_append, List.append_nil]) s2513
  refine Op.load (T := 22) (x := (.tmp 9)) (o := 0) (d := 10) (n := 1) (v := .slice a2511 t.length n2512) (by kernel_rfl) (by kernel_rfl) (by kernel_rfl) (s2514.chunk 0 rfl) (by kernel_rfl) ?_
  refine Op.pures 1 [5, 6, 10, 11] (L' := [(6, false), (7, false), (8, false), (9, false)]) (e' := [(5, .pointer (some ⟨b2504, 0, none⟩)), (6, .pointer (some ⟨b_t, 0, none⟩)), (10, .slice a2511 t.length n2512), (11, .func (.func 81) #[] #[.pointer (some ⟨b2501, 0, none⟩), .pointer (some ⟨b2504, 0, none⟩)])]) (by kernel_rfl) ?_
  obtain ⟨s2516, hle2517⟩ := St.freeze (s2514.front 3 rfl)
  have hb2518 := gadd_one (g := g) b2501 (.cells #[.func (.func f_rule) #[] cp_rule] 43 (0, 0))
  generalize hg_g2515 : gadd g _ = g2515 at s2516 hle2517 hb2518; clear hg_g2515
  replace R2510 := R2510.mono hle2517
  replace hG := hG.mono hle2517
  replace h_rule := h_rule.mono hle2517
  have R2519 := Row.nil 27 kWatch g2515
  have s2520 : St h g (ids [c_t]) g2515 ([] :: [[(b_t, Obj.cells #[.slice a2511 t.length n2512] 73 (0, 0))], c2508, [(b2504, Obj.cells #[.slice none 0 0] 22 (0, 0))]]) h2505 := St.flat (L := [[(b_t, Obj.cells #[.slice a2511 t.length n2512] 73 (0, 0))], c2508, [(b2504, Obj.cells #[.slice none 0 0] 22 (0, 0))]]) rfl s2516
  have s2521 : St h g (ids [c_t]) g2515 [[(b2504, Obj.cells #[.slice none 0 0] 22 (0, 0))], [], [(b_t, Obj.cells #[.slice a2511 t.length n2512] 73 (0, 0))], c2508] h2505 := ((((s2520.front 2 rfl).front 2 rfl).front 2 rfl).front 3 rfl)
  obtain ⟨c2522, o2523, s2524⟩ : ∃ c, IsOutW g2515 b2504 ([] : List Watch) c ∧ St h g (ids [c_t]) g2515 (c :: [[(b_t, Obj.cells #[.slice a2511 t.length n2512] 73 (0, 0))], c2508]) h2505 := ⟨_, ⟨_, _, rfl, R2519⟩, St.flat (L := [[(b2504, Obj.cells #[.slice none 0 0] 22 (0, 0))], [], [(b_t, Obj.cells #[.slice a2511 t.length n2512] 73 (0, 0))], c2508]) (by simp only [List.flatten_cons, List.append_assoc, List.cons_append, List.nil_append, List.append_nil]) s2521⟩
  have s2525 : St h g (ids [c_t]) g2515 [c2508, c2522, [(b_t, Obj.cells #[.slice a2511 t.length n2512] 73 (0, 0))]] h2505 := (((s2524.front 1 rfl).front 1 rfl).front 2 rfl)
  refine Op.call (dst := some 12) (f := 80) (args := #[.slice a2511 t.length n2512, .func (.func 81) #[] #[.pointer (some ⟨b2501, 0, none⟩), .pointer (some ⟨b2504, 0, none⟩)]]) (Lc := [c2508, c2522]) (L := [[(b_t, Obj.cells #[.slice a2511 t.length n2512] 73 (0, 0))]]) (by kernel_rfl) s2525 (deleteF _ _ _ s2525.sub hG _ t _ R2510 f_rule cp_rule rule e_rule h_rule b2501 hb2518 b2504 ([] : List Watch) _ o2523 (by ((try dsimp only) <;> (first | omega | (simp only [List.length_nil]; omega)))) (by ((try dsimp only) <;> (first | omega | (simp only [List.length_nil]; omega)))) (St.part (Lc := [c2508, c2522]) (L := [[(b_t, Obj.cells #[.slice a2511 t.length n2512] 73 (0, 0))]]) s2525)) (fun _ _ _ => trivial) ?_
  rintro _ g2535 _ h2526 hle2536 s2527 ⟨v2528, ch2529, c2533, rfl, R2530, o2534, hgg, rfl⟩; subst g2535; clear hle2536
  obtain ⟨a2531, n2532, rfl⟩ := R2530.form
  refine Op.pures 2 [5, 12, 14] (L' := [(9, false)]) (e' := [(5, .pointer (some ⟨b2504, 0, none⟩)), (12, .slice a2531 (((List.filter (fun w => !rule w) t)).length) n2532), (14, .pointer (some ⟨b_t, 0, none⟩))]) (by kernel_rfl) ?_
  refine Op.store (T := 22) (x := (.tmp 14)) (y := (.tmp 12)) (b := b_t) (o := 0) (vs := [.slice a2531 (((List.filter (fun w => !rule w) t)).length) n2532]) (a? := false) (n := 1) (by kernel_rfl) (by kernel_rfl) (by kernel_rfl) (by kernel_rfl) rfl (by simp [Value.oneCell']) s2527 2 rfl (Nat.le_of_ble_eq_true (by kernel_rfl)) (cs := #[.slice a2511 t.length n2512]) (cs' := #[.slice a2531 (((List.filter (fun w => !rule w) t)).length) n2532]) (by kernel_rfl) (fun _ => trivial) ?_
  intro h2537 s2538
  refine Op.goto 3 (by kernel_rfl) ?_
  refine At.reg (L := [(0, false), (1, false)]) (by kernel_rfl) ?_
  obtain ⟨v2539, c2540, e2541, R2542⟩ := o2534
  obtain ⟨a2543, n2544, rfl⟩ := R2542.form
  have s2545 : St h g (ids [c_t]) g2515 [[(b2504, Obj.cells #[.slice a2543 ((([] : List Watch) ++ List.filter rule t).length) n2544] 22 (0, 0))], c2540, ch2529, [(b_t, Obj.cells #[.slice a2531 (((List.filter (fun w => !rule w) t)).length) n2532] 73 (0, 0))]] h2537 := St.flat (L := [c2533, ch2529, [(b_t, Obj.cells #[.slice a2531 (((List.filter (fun w => !rule w) t)).length) n2532] 73 (0, 0))]]) (by rw [e2541]; simp only [List.flatten_cons, List.append_assoc, List.cons_append, List.nil_append, List.append_nil]) s2538
  refine Op.load (T := 22) (x := (.tmp 5)) (o := 0) (d := 15) (n := 1) (v := .slice a2543 ((([] : List Watch) ++ List.filter rule t).length) n2544) (by kernel_rfl) (by kernel_rfl) (by kernel_rfl) (s2545.chunk 0 rfl) (by kernel_rfl) ?_
  refine Op.pures 1 [4] (L' := []) (e' := [(4, .slice a2543 ((([] : List Watch) ++ List.filter rule t).length) n2544)]) (by kernel_rfl) ?_
  refine Op.goto 4 (by kernel_rfl) ?_
  have s2546 : St h g (ids [c_t]) g2515 [[(b_t, Obj.cells #[.slice a2531 (((List.filter (fun w => !rule w) t)).length) n2532] 73 (0, 0))], ch2529, [(b2504, Obj.cells #[.slice a2543 ((([] : List Watch) ++ List.filter rule t).length) n2544] 22 (0, 0))], c2540] h2537 := ((((s2545.front 1 rfl).front 1 rfl).front 2 rfl).front 3 rfl)
  obtain ⟨c2547, o2548, s2549⟩ : ∃ c, IsTab g2515 b_t (List.filter (fun w => !rule w) t) c ∧ St h g (ids [c_t]) g2515 (c :: [[(b2504, Obj.cells #[.slice a2543 ((([] : List Watch) ++ List.filter rule t).length) n2544] 22 (0, 0))], c2540]) h2537 := ⟨_, ⟨_, _, rfl, R2530⟩, St.flat (L := [[(b_t, Obj.cells #[.slice a2531 (((List.filter (fun w => !rule w) t)).length) n2532] 73 (0, 0))], ch2529, [(b2504, Obj.cells #[.slice a2543 ((([] : List Watch) ++ List.filter rule t).length) n2544] 22 (0, 0))], c2540]) (by simp only [List.flatten_cons, List.append_assoc, List.cons_append, List.nil_append, List.append_nil]) s2546⟩
  refine At.ret (f := Tryd.f55) (v := .slice a2543 ((([] : List Watch) ++ List.filter rule t).length) n2544) (by kernel_rfl) (by kernel_rfl) ?_
  have s2550 : St h g (ids [c_t]) g2515 [[(b2504, Obj.cells #[.slice a2543 ((([] : List Watch) ++ List.filter rule t).length) n2544] 22 (0, 0))], c2547, c2540] h2537 := ((s2549.front 0 rfl).front 1 rfl)
  have s2551 : St h g (ids [c_t]) g2515 [c2547, c2540] h2537 := (s2550).drop
  have s2552 : St h g (ids [c_t]) g [c2547, c2540] h2537 := s2551.unfrz
  replace o2548 := o2548.flat (g' := g)
  replace R2542 := R2542.flat (fun _ _ _ _ h => h) (g' := g)
  refine hR _ _ _ _ s2552 ⟨(.slice a2543 ((([] : List Watch) ++ List.filter rule t).length) n2544), c2540, c2547, ?_, ?_, ?_, rfl, rfl⟩
  · exact rfl
  · exact rowEq R2542 (by simp)
  · exact o2548.eq (by simp)

/-- (*stanchion/watch.Table).Fire$1 -/
theorem fireRule (B : World) (h : Heap) (g : GH) (hg : Sub g h) (hG : Glob g) (w : Watch) (kind : Int) (b_kind : Nat) (hb_kind : g b_kind = some (.cells #[.int .i64 kind] 3 (0, 0))) (v_paths : Value) (paths : List (List UInt8)) (h_paths : SlR g 9 kStr v_paths paths) (b_paths : Nat) (hb_paths : g b_paths = some (.cells #[v_paths] 37 (0, 0))) (hok : True) (hp : paths.length ≤ 1000000000) :
    Spec Tryd.prog B 56 #[.agg #[.int .i64 w.Client, .int .i64 w.Kind, .string (mkS w.Path)], .pointer (some ⟨b_kind, 0, none⟩), .pointer (some ⟨b_paths, 0, none⟩)] h g [] (fun rv g' L' => rv = .bool (qFire kind paths w) ∧ g' = g ∧ L' = []) := by
  obtain ⟨a_paths, n_paths, rfl⟩ := h_paths.form
  refine Spec.of_at (f := Tryd.f56) (e := [(0, .agg #[.int .i64 w.Client, .int .i64 w.Kind, .string (mkS w.Path)]), (1, .pointer (some ⟨b_kind, 0, none⟩)), (2, .pointer (some ⟨b_paths, 0, none⟩))]) Tryd.func56 (by kernel_rfl) (Nat.le_of_ble_eq_true (by kernel_rfl)) (by kernel_rfl) (by kernel_rfl) ?_
  intro R hR
  have s0 := St.init hg
  refine At.reg (L := [(0, false), (1, false)]) (by kernel_rfl) ?_
  refine Op.box (T := 27) (x := (.tmp 0)) (d := 3) (cs := #[.int .i64 w.Client, .int .i64 w.Kind, .string (mkS w.Path)]) (by kernel_rfl) (by kernel_rfl) s0 ?_
  intro b2553 h2554 s2555
  refine Op.pures 1 [1, 2, 3] (L' := []) (e' := [(1, .pointer (some ⟨b_kind, 0, none⟩)), (2, .pointer (some ⟨b_paths, 0, none⟩)), (3, .pointer (some ⟨b2553, 0, none⟩))]) (by kernel_rfl) ?_
  refine Op.goto 1 (by kernel_rfl) ?_
  refine At.reg (L := [(0, false), (1, false), (2, false), (3, false), (4, false), (5, false), (6, false), (7, false), (8, false), (9, false), (10, false)]) (by kernel_rfl) ?_
  refine Op.pures 1 [1, 2, 3, 5] (L' := [(1, false), (2, false), (3, false), (4, false), (5, false), (6, false), (7, false), (8, false), (9, false), (10, false)]) (e' := [(1, .pointer (some ⟨b_kind, 0, none⟩)), (2, .pointer (some ⟨b_paths, 0, none⟩)), (3, .pointer (some ⟨b2553, 0, none⟩)), (5, .pointer (some ⟨b2553, 1, none⟩))]) (by kernel_rfl) ?_
  refine Op.load (T := 3) (x := (.tmp 5)) (o := 1) (d := 6) (n := 1) (v := .int .i64 w.Kind) (by kernel_rfl) (by kernel_rfl) (by kernel_rfl) (s2555.chunk 0 rfl) (by kernel_rfl) ?_
  refine Op.load (T := 3) (x := (.tmp 1)) (o := 0) (d := 7) (n := 1) (v := .int .i64 kind) (by kernel_rfl) (by kernel_rfl) (by kernel_rfl) (s2555.sub _ _ hb_kind) (by kernel_rfl) ?_
  refine Op.pures 2 [2, 3, 9] (L' := [(5, false), (6, false), (7, false), (8, false), (9, false), (10, false)]) (e' := [(2, .pointer (some ⟨b_paths, 0, none⟩)), (3, .pointer (some ⟨b2553, 0, none⟩)), (9, .bool (w.Kind == kind))]) (by kernel_rfl) ?_
  refine Op.ways (b := w.Kind == kind) ⟨fun hb => ?_, fun hb => ?_⟩
  · refine Op.cast (e' := [(2, .pointer (some ⟨b_paths, 0, none⟩)), (3, .pointer (some ⟨b2553, 0, none⟩)), (9, .bool true)]) (by rw [hb]) ?_
    have c2556 : w.Kind = kind := eq_of_beq hb
    clear hb
    refine Op.load (T := 37) (x := (.tmp 2)) (o := 0) (d := 10) (n := 1) (v := .slice a_paths paths.length n_paths) (by kernel_rfl) (by kernel_rfl) (by kernel_rfl) (s2555.sub _ _ hb_paths) (by kernel_rfl) ?_
    refine Op.pures 1 [9, 10, 11] (L' := [(7, false), (8, false), (9, false), (10, false)]) (e' := [(9, .bool true), (10, .slice a_paths paths.length n_paths), (11, .pointer (some ⟨b2553, 2, none⟩))]) (by kernel_rfl) ?_
    refine Op.load (T := 9) (x := (.tmp 11)) (o := 2) (d := 12) (n := 1) (v := .string (mkS w.Path)) (by kernel_rfl) (by kernel_rfl) (by kernel_rfl) (s2555.chunk 0 rfl) (by kernel_rfl) ?_
    refine Op.call0 (dst := some 13) (f := 57) (args := #[.slice a_paths paths.length n_paths, .string (mkS w.Path)]) (by kernel_rfl) s2555 (containsS _ _ _ s2555.sub hG _ _ h_paths w.Path (by ((try dsimp only) <;> (omega))) ) ?_
    rintro _ g2559 _ h2557 hle2560 s2558 ⟨rfl, hgg, rfl⟩; subst g2559; clear hle2560
    refine Op.pures 2 [4] (L' := []) (e' := [(4, .bool (paths.any (fun z => decide (w.Path = z))))]) (by kernel_rfl) ?_
    refine Op.goto 2 (by kernel_rfl) ?_
    refine At.ret (f := Tryd.f56) (v := .bool (paths.any (fun z => decide (w.Path = z)))) (by kernel_rfl) (by kernel_rfl) ?_
    have s2561 : St h g (ids []) g [] h2557 := (s2558).drop
    refine hR _ _ _ _ s2561 ⟨?_, rfl, rfl⟩
    exact (eqB (by first | exact qFire_t c2556 | exact qFire_f c2556))
  · refine Op.cast (e' := [(2, .pointer (some ⟨b_paths, 0, none⟩)), (3, .pointer (some ⟨b2553, 0, none⟩)), (9, .bool false)]) (by rw [hb]) ?_
    have c2562 : ¬ (w.Kind = kind) := neF hb
    clear hb
    refine Op.pures 6 [4] (L' := []) (e' := [(4, .bool false)]) (by kernel_rfl) ?_
    refine Op.goto 2 (by kernel_rfl) ?_
    refine At.ret (f := Tryd.f56) (v := .bool false) (by kernel_rfl) (by kernel_rfl) ?_
    have s2563 : St h g (ids []) g [] h2554 := (s2555).drop
    refine hR _ _ _ _ s2563 ⟨?_, rfl, rfl⟩
    exact (eqB (by first | exact qFire_t c2562 | exact qFire_f c2562))

/-- (*stanchion/watch.Table).Drop$1 -/
theorem dropRule (B : World) (h : Heap) (g : GH) (hg : Sub g h) (hG : Glob g) (w : Watch) (v_clients : Value) (clients : List Int) (h_clients : SlR g 3 (kInt .i64) v_clients clients) (b_clients : Nat) (hb_clients : g b_clients = some (.cells #[v_clients] 38 (0, 0))) (hok : True) (hp : clients.length ≤ 1000000000) :
    Spec Tryd.prog B 58 #[.agg #[.int .i64 w.Client, .int .i64 w.Kind, .string (mkS w.Path)], .pointer (some ⟨b_clients, 0, none⟩)] h g [] (fun rv g' L' => rv = .bool (qDrop clients w) ∧ g' = g ∧ L' = []) := by
  obtain ⟨a_clients, n_clients, rfl⟩ := h_clients.form
  refine Spec.of_at (f := Tryd.f58) (e := [(0, .agg #[.int .i64 w.Client, .int .i64 w.Kind, .string (mkS w.Path)]), (1, .pointer (some ⟨b_clients, 0, none⟩))]) Tryd.func58 (by kernel_rfl) (Nat.le_of_ble_eq_true (by kernel_rfl)) (by kernel_rfl) (by kernel_rfl) ?_
  intro R hR
  have s0 := St.init hg
  refine At.reg (L := [(0, false), (1, false)]) (by kernel_rfl) ?_
  refine Op.box (T := 27) (x := (.tmp 0)) (d := 2) (cs := #[.int .i64 w.Client, .int .i64 w.Kind, .string (mkS w.Path)]) (by kernel_rfl) (by kernel_rfl) s0 ?_
  intro b2564 h2565 s2566
  refine Op.pures 1 [1, 2] (L' := []) (e' := [(1, .pointer (some ⟨b_clients, 0, none⟩)), (2, .pointer (some ⟨b2564, 0, none⟩))]) (by kernel_rfl) ?_
  refine Op.goto 1 (by kernel_rfl) ?_
  refine At.reg (L := [(0, false), (1, false), (2, false), (3, false), (4, false)]) (by kernel_rfl) ?_
  refine Op.load (T := 38) (x := (.tmp 1)) (o := 0) (d := 4) (n := 1) (v := .slice a_clients clients.length n_clients) (by kernel_rfl) (by kernel_rfl) (by kernel_rfl) (s2566.sub _ _ hb_clients) (by kernel_rfl) ?_
  refine Op.pures 1 [4, 5] (L' := [(2, false), (3, false), (4, false)]) (e' := [(4, .slice a_clients clients.length n_clients), (5, .pointer (some ⟨b2564, 0, none⟩))]) (by kernel_rfl) ?_
  refine Op.load (T := 3) (x := (.tmp 5)) (o := 0) (d := 6) (n := 1) (v := .int .i64 w.Client) (by kernel_rfl) (by kernel_rfl) (by kernel_rfl) (s2566.chunk 0 rfl) (by kernel_rfl) ?_
  refine Op.call0 (dst := some 7) (f := 59) (args := #[.slice a_clients clients.length n_clients, .int .i64 w.Client]) (by kernel_rfl) s2566 (containsI _ _ _ s2566.sub hG _ _ h_clients w.Client (by ((try dsimp only) <;> (omega))) ) ?_
  rintro _ g2569 _ h2567 hle2570 s2568 ⟨rfl, hgg, rfl⟩; subst g2569; clear hle2570
  refine Op.pures 1 [3] (L' := []) (e' := [(3, .bool (clients.any (fun z => decide (w.Client = z))))]) (by kernel_rfl) ?_
  refine Op.goto 2 (by kernel_rfl) ?_
  refine At.ret (f := Tryd.f58) (v := .bool (clients.any (fun z => decide (w.Client = z)))) (by kernel_rfl) (by kernel_rfl) ?_
  have s2571 : St h g (ids []) g [] h2567 := (s2568).drop
  refine hR _ _ _ _ s2571 ⟨?_, rfl, rfl⟩
  exact (eqB (by exact qDrop_eq _ _))

/-- (*stanchion/watch.Table).Fire -/
theorem fireT (B : World) (h : Heap) (g : GH) (hg : Sub g h) (hG : Glob g) (b_t : Nat) (t : List Watch) (c_t : Chunk) (o_t : IsTab g b_t t c_t) (kind : Int) (v_paths : Value) (paths : List (List UInt8)) (h_paths : SlR g 9 kStr v_paths paths) (h1 : t.length ≤ 1000000) (h2 : paths.length ≤ 1000000) (hs : St h g (ids [c_t]) g [c_t] h) :
    Spec Tryd.prog B 25 #[.pointer (some ⟨b_t, 0, none⟩), .int .i64 kind, v_paths] h g [c_t] (fun rv g' L' => ∃ v0 k0 k_t, rv = v0 ∧ Row 27 kWatch g' v0 (List.filter (qFire kind paths) t) k0 ∧ IsTab g' b_t (List.filter (fun w => !qFire kind paths w) t) k_t ∧ g' = g ∧ L' = [k_t, k0]) := by
  obtain ⟨a_paths, n_paths, rfl⟩ := h_paths.form
  refine Spec.of_at (f := Tryd.f25) (e := [(0, .pointer (some ⟨b_t, 0, none⟩)), (1, .int .i64 kind), (2, .slice a_paths paths.length n_paths)]) Tryd.func25 (by kernel_rfl) (Nat.le_of_ble_eq_true (by kernel_rfl)) (by kernel_rfl) (by kernel_rfl) ?_
  intro R hR
  refine At.reg (L := [(0, false), (1, false), (2, false)]) (by kernel_rfl) ?_
  refine Op.box (T := 3) (x := (.tmp 1)) (d := 4) (cs := #[.int .i64 kind]) (by kernel_rfl) (by kernel_rfl) hs ?_
  intro b2572 h2573 s2574
  refine Op.box (T := 37) (x := (.tmp 2)) (d := 5) (cs := #[.slice a_paths paths.length n_paths]) (by kernel_rfl) (by kernel_rfl) s2574 ?_
  intro b2575 h2576 s2577
  refine Op.pures 1 [0, 4, 5] (L' := []) (e' := [(0, .pointer (some ⟨b_t, 0, none⟩)), (4, .pointer (some ⟨b2572, 0, none⟩)), (5, .pointer (some ⟨b2575, 0, none⟩))]) (by kernel_rfl) ?_
  refine Op.goto 1 (by kernel_rfl) ?_
  refine At.reg (L := [(0, false), (1, false), (2, false), (3, false)]) (by kernel_rfl) ?_
  refine Op.pures 2 [7, 8] (L' := [(2, false), (3, false)]) (e' := [(7, .pointer (some ⟨b_t, 0, none⟩)), (8, .func (.func 56) #[] #[.pointer (some ⟨b2572, 0, none⟩), .pointer (some ⟨b2575, 0, none⟩)])]) (by kernel_rfl) ?_
  obtain ⟨s2579, hle2580⟩ := St.freeze (s2577.front 1 rfl)
  have hb2581 := gadd_one (g := g) b2572 (.cells #[.int .i64 kind] 3 (0, 0))
  generalize hg_g2578 : gadd g _ = g2578 at s2579 hle2580 hb2581; clear hg_g2578
  replace hG := hG.mono hle2580
  replace h_paths := h_paths.mono hle2580
  replace o_t := o_t.mono hle2580
  obtain ⟨s2583, hle2584⟩ := St.freeze (s2579.front 0 rfl)
  have hb2585 := gadd_one (g := g2578) b2575 (.cells #[.slice a_paths paths.length n_paths] 37 (0, 0))
  generalize hg_g2582 : gadd g2578 _ = g2582 at s2583 hle2584 hb2585; clear hg_g2582
  replace hG := hG.mono hle2584
  replace h_paths := h_paths.mono hle2584
  replace o_t := o_t.mono hle2584
  replace hb2581 := hle2584 _ _ hb2581
  refine Op.call (dst := some 9) (f := 55) (args := #[.pointer (some ⟨b_t, 0, none⟩), .func (.func 56) #[] #[.pointer (some ⟨b2572, 0, none⟩), .pointer (some ⟨b2575, 0, none⟩)]]) (Lc := [c_t]) (L := []) (by kernel_rfl) s2583 (take_ _ _ _ s2583.sub hG b_t t _ o_t 56 #[.pointer (some ⟨b2572, 0, none⟩), .pointer (some ⟨b2575, 0, none⟩)] (fun x => qFire kind paths x) (Enterable.of (by kernel_rfl)) (fun B h g2 hle hs hG2 x hok => Spec.args (by rfl) (fireRule B h g2 hs hG2 x kind b2572 (hle _ _ hb2581) _ _ (h_paths.mono hle) b2575 (hle _ _ hb2585) hok (by omega))) (by ((try dsimp only) <;> (omega))) (St.part (Lc := [c_t]) (L := []) s2583)) (fun _ _ _ => trivial) ?_
  rintro _ g2595 _ h2586 hle2596 s2587 ⟨v2588, ch2589, c2593, rfl, R2590, o2594, hgg, rfl⟩; subst g2595; clear hle2596
  obtain ⟨a2591, n2592, rfl⟩ := R2590.form
  refine Op.pures 1 [6] (L' := []) (e' := [(6, .slice a2591 (((List.filter (fun x => qFire kind paths x) t)).length) n2592)]) (by kernel_rfl) ?_
  refine Op.goto 2 (by kernel_rfl) ?_
  refine At.ret (f := Tryd.f25) (v := .slice a2591 (((List.filter (fun x => qFire kind paths x) t)).length) n2592) (by kernel_rfl) (by kernel_rfl) ?_
  have s2597 : St h g (ids [c_t]) g [c2593, ch2589] h2586 := s2587.unfrz
  replace o2594 := o2594.flat (g' := g)
  replace R2590 := R2590.flat (fun _ _ _ _ h => h) (g' := g)
  refine hR _ _ _ _ s2597 ⟨(.slice a2591 (((List.filter (fun x => qFire kind paths x) t)).length) n2592), ch2589, c2593, ?_, ?_, ?_, rfl, rfl⟩
  · exact rfl
  · exact rowEq R2590 (by rfl)
  · exact o2594.eq (by rfl)

/-- (*stanchion/watch.Table).Drop -/
theorem dropT (B : World) (h : Heap) (g : GH) (hg : Sub g h) (hG : Glob g) (b_t : Nat) (t : List Watch) (c_t : Chunk) (o_t : IsTab g b_t t c_t) (v_clients : Value) (clients : List Int) (h_clients : SlR g 3 (kInt .i64) v_clients clients) (h1 : t.length ≤ 1000000) (h2 : clients.length ≤ 1000000) (hs : St h g (ids [c_t]) g [c_t] h) :
    Spec Tryd.prog B 27 #[.pointer (some ⟨b_t, 0, none⟩), v_clients] h g [c_t] (fun rv g' L' => ∃ k_t, rv = .tuple #[] ∧ IsTab g' b_t (List.filter (fun w => !qDrop clients w) t) k_t ∧ g' = g ∧ L' = [k_t]) := by
  obtain ⟨a_clients, n_clients, rfl⟩ := h_clients.form
  refine Spec.of_at (f := Tryd.f27) (e := [(0, .pointer (some ⟨b_t, 0, none⟩)), (1, .slice a_clients clients.length n_clients)]) Tryd.func27 (by kernel_rfl) (Nat.le_of_ble_eq_true (by kernel_rfl)) (by kernel_rfl) (by kernel_rfl) ?_
  intro R hR
  refine At.reg (L := [(0, false)]) (by kernel_rfl) ?_
  refine Op.box (T := 38) (x := (.tmp 1)) (d := 3) (cs := #[.slice a_clients clients.length n_clients]) (by kernel_rfl) (by kernel_rfl) hs ?_
  intro b2598 h2599 s2600
  refine Op.goto 1 (by kernel_rfl) ?_
  refine At.reg (L := [(0, false), (1, false), (2, false)]) (by kernel_rfl) ?_
  refine Op.pures 2 [4, 5] (L' := [(2, false)]) (e' := [(4, .pointer (some ⟨b_t, 0, none⟩)), (5, .func (.func 58) #[] #[.pointer (some ⟨b2598, 0, none⟩)])]) (by kernel_rfl) ?_
  obtain ⟨s2602, hle2603⟩ := St.freeze (s2600.front 0 rfl)
  have hb2604 := gadd_one (g := g) b2598 (.cells #[.slice a_clients clients.length n_clients] 38 (0, 0))
  generalize hg_g2601 : gadd g _ = g2601 at s2602 hle2603 hb2604; clear hg_g2601
  replace hG := hG.mono hle2603
  replace h_clients := h_clients.mono hle2603
  replace o_t := o_t.mono hle2603
  refine Op.call (dst := some 6) (f := 55) (args := #[.pointer (some ⟨b_t, 0, none⟩), .func (.func 58) #[] #[.pointer (some ⟨b2598, 0, none⟩)]]) (Lc := [c_t]) (L := []) (by kernel_rfl) s2602 (take_ _ _ _ s2602.sub hG b_t t _ o_t 58 #[.pointer (some ⟨b2598, 0, none⟩)] (fun x => qDrop clients x) (Enterable.of (by kernel_rfl)) (fun B h g2 hle hs hG2 x hok => Spec.args (by rfl) (dropRule B h g2 hs hG2 x _ _ (h_clients.mono hle) b2598 (hle _ _ hb2604) hok (by omega))) (by ((try dsimp only) <;> (omega))) (St.part (Lc := [c_t]) (L := []) s2602)) (fun _ _ _ => trivial) ?_
  rintro _ g2614 _ h2605 hle2615 s2606 ⟨v2607, ch2608, c2612, rfl, R2609, o2613, hgg, rfl⟩; subst g2614; clear hle2615
  obtain ⟨a2610, n2611, rfl⟩ := R2609.form
  refine Op.goto 2 (by kernel_rfl) ?_
  refine At.ret (f := Tryd.f27) (v := .tuple #[]) (by kernel_rfl) (by kernel_rfl) ?_
  have s2616 : St h g (ids [c_t]) g2601 [ch2608, c2612] h2605 := ((s2606.front 0 rfl).front 1 rfl)
  have s2617 : St h g (ids [c_t]) g2601 [c2612] h2605 := (s2616).drop
  have s2618 : St h g (ids [c_t]) g [c2612] h2605 := s2617.unfrz
  replace o2613 := o2613.flat (g' := g)
  refine hR _ _ _ _ s2618 ⟨c2612, ?_, ?_, rfl, rfl⟩
  · rfl
  · exact o2613.eq (by rfl)

/-- stanchion/watch.New -/
theorem newT (B : World) (h : Heap) (g : GH) (hg : Sub g h) (hG : Glob g)   :
    Spec Tryd.prog B 15 #[] h g [] (fun rv g' L' => ∃ b0 k0, rv = .pointer (some ⟨b0, 0, none⟩) ∧ IsTab g' b0 [] k0 ∧ g' = g ∧ L' = [k0]) := by
  refine Spec.of_at (f := Tryd.f15) (e := []) Tryd.func15 (by kernel_rfl) (Nat.le_of_ble_eq_true (by kernel_rfl)) (by kernel_rfl) (by kernel_rfl) ?_
  intro R hR
  have s0 := St.init hg
  refine At.reg (L := [(0, false)]) (by kernel_rfl) ?_
  refine Op.pures 1 [] (L' := []) (e' := []) (by kernel_rfl) ?_
  refine Op.goto 1 (by kernel_rfl) ?_
  refine At.reg (L := [(0, false), (1, false), (2, false)]) (by kernel_rfl) ?_
  refine Op.pures 1 [1] (L' := [(1, false), (2, false)]) (e' := [(1, .agg #[.slice none 0 0])]) (by kernel_rfl) ?_
  refine Op.box (T := 73) (x := (.tmp 1)) (d := 2) (cs := #[.slice none 0 0]) (by kernel_rfl) (by kernel_rfl) s0 ?_
  intro b2619 h2620 s2621
  refine Op.pures 1 [0] (L' := []) (e' := [(0, .pointer (some ⟨b2619, 0, none⟩))]) (by kernel_rfl) ?_
  refine Op.goto 2 (by kernel_rfl) ?_
  have R2622 := Row.nil 27 kWatch g
  have s2623 : St h g (ids []) g ([] :: [[(b2619, Obj.cells #[.slice none 0 0] 73 (0, 0))]]) h2620 := St.flat (L := [[(b2619, Obj.cells #[.slice none 0 0] 73 (0, 0))]]) rfl s2621
  have s2624 : St h g (ids []) g [[(b2619, Obj.cells #[.slice none 0 0] 73 (0, 0))], []] h2620 := ((s2623.front 0 rfl).front 1 rfl)
  obtain ⟨c2625, o2626, s2627⟩ : ∃ c, IsTab g b2619 ([] : List Watch) c ∧ St h g (ids []) g (c :: []) h2620 := ⟨_, ⟨_, _, rfl, R2622⟩, St.flat (L := [[(b2619, Obj.cells #[.slice none 0 0] 73 (0, 0))], []]) (by simp only [List.flatten_cons, List.append_assoc, List.cons_append, List.nil_append, List.append_nil]) s2624⟩
  refine At.ret (f := Tryd.f15) (v := .pointer (some ⟨b2619, 0, none⟩)) (by kernel_rfl) (by kernel_rfl) ?_
  refine hR _ _ _ _ s2627 ⟨b2619, c2625, ?_, ?_, rfl, rfl⟩
  · exact rfl
  · exact o2626.eq (by rfl)

/-- (*stanchion/watch.Table).All -/
theorem allT (B : World) (h : Heap) (g : GH) (hg : Sub g h) (hG : Glob g) (b_t : Nat) (t : List Watch) (c_t : Chunk) (o_t : IsTab g b_t t c_t) (h1 : t.length ≤ 1000000) (hs : St h g (ids [c_t]) g [c_t] h) :
    Spec Tryd.prog B 18 #[.pointer (some ⟨b_t, 0, none⟩)] h g [c_t] (fun rv g' L' => ∃ v0 k0 k_t, rv = v0 ∧ Row 27 kWatch g' v0 t k0 ∧ IsTab g' b_t t k_t ∧ g' = g ∧ L' = [k_t, k0]) := by
  refine Spec.of_at (f := Tryd.f18) (e := [(0, .pointer (some ⟨b_t, 0, none⟩))]) Tryd.func18 (by kernel_rfl) (Nat.le_of_ble_eq_true (by kernel_rfl)) (by kernel_rfl) (by kernel_rfl) ?_
  intro R hR
  refine At.reg (L := [(0, false)]) (by kernel_rfl) ?_
  refine Op.pures 1 [0] (L' := []) (e' := [(0, .pointer (some ⟨b_t, 0, none⟩))]) (by kernel_rfl) ?_
  refine Op.goto 1 (by kernel_rfl) ?_
  refine At.reg (L := [(0, false), (1, false), (2, false), (3, false), (4, false), (5, false)]) (by kernel_rfl) ?_
  refine Op.pures 3 [5] (L' := [(3, false), (4, false), (5, false)]) (e' := [(5, .pointer (some ⟨b_t, 0, none⟩))]) (by kernel_rfl) ?_
  obtain ⟨v2628, c2629, e2630, R2631⟩ := o_t
  obtain ⟨a2632, n2633, rfl⟩ := R2631.form
  have s2634 : St h g (ids [c_t]) g [[(b_t, Obj.cells #[.slice a2632 t.length n2633] 73 (0, 0))], c2629] h := St.flat (L := [c_t]) (by rw [e2630]; simp only [List.flatten_cons, List.append_assoc, List.cons_append, List.nil_append, List.append_nil]) hs
  refine Op.load (T := 22) (x := (.tmp 5)) (o := 0) (d := 6) (n := 1) (v := .slice a2632 t.length n2633) (by kernel_rfl) (by kernel_rfl) (by kernel_rfl) (s2634.chunk 0 rfl) (by kernel_rfl) ?_
  have s2635 : St h g (ids [c_t]) g [c2629, [(b_t, Obj.cells #[.slice a2632 t.length n2633] 73 (0, 0))]] h := ((s2634.front 0 rfl).front 1 rfl)
  have hl2636 := s2635.frzle
  have hz2637 := R2631.frz s2635
  refine Op.lend (dst := some 7) (f := 52) (args := #[.slice a2632 t.length n2633]) (cf := (c2629 : Chunk)) (Lc := []) (L := [[(b_t, Obj.cells #[.slice a2632 t.length n2633] 73 (0, 0))]]) (by kernel_rfl) s2635 (cloneW _ _ _ s2635.frzsub (hG.mono hl2636) _ _ hz2637 (by ((try dsimp only) <;> (omega))) ) (fun _ _ _ hp => by obtain ⟨_, _, _, _, hgg, _⟩ := hp; exact hgg) (fun _ _ h => absurd h (ids_nil _)) ?_
  rintro _ _ h2638 s2639 ⟨v2640, ch2641, rfl, R2642, hgg, rfl⟩; clear hgg
  obtain ⟨a2643, n2644, rfl⟩ := R2642.form
  replace R2642 := R2642.flat (fun _ _ _ _ h => h) (g' := g)
  refine Op.pures 1 [2] (L' := []) (e' := [(2, .slice a2643 ((t).length) n2644)]) (by kernel_rfl) ?_
  refine Op.goto 2 (by kernel_rfl) ?_
  have s2647 : St h g (ids [c_t]) g [[(b_t, Obj.cells #[.slice a2632 t.length n2633] 73 (0, 0))], c2629, ch2641] h2638 := (((s2639.front 1 rfl).front 1 rfl).front 2 rfl)
  obtain ⟨c2648, o2649, s2650⟩ : ∃ c, IsTab g b_t t c ∧ St h g (ids [c_t]) g (c :: [ch2641]) h2638 := ⟨_, ⟨_, _, rfl, R2631⟩, St.flat (L := [[(b_t, Obj.cells #[.slice a2632 t.length n2633] 73 (0, 0))], c2629, ch2641]) (by simp only [List.flatten_cons, List.append_assoc, List.cons_append, List.nil_append, List.append_nil]) s2647⟩
  refine At.ret (f := Tryd.f18) (v := .slice a2643 ((t).length) n2644) (by kernel_rfl) (by kernel_rfl) ?_
  refine hR _ _ _ _ s2650 ⟨(.slice a2643 ((t).length) n2644), ch2641, c2648, ?_, ?_, ?_, rfl, rfl⟩
  · exact rfl
  · exact rowEq R2642 (by rfl)
  · exact o2649.eq (by rfl)

/-- (*stanchion/watch.Table).Add -/
theorem addT (B : World) (h : Heap) (g : GH) (hg : Sub g h) (hG : Glob g) (b_t : Nat) (t : List Watch) (c_t : Chunk) (o_t : IsTab g b_t t c_t) (w : Watch) (h1 : t.length ≤ 1000000) (hw : w.Path.length ≤ 1000000000) (hs0 : SortW t) (hs : St h g (ids [c_t]) g [c_t] h) :
    Spec Tryd.prog B 16 #[.pointer (some ⟨b_t, 0, none⟩), .agg #[.int .i64 w.Client, .int .i64 w.Kind, .string (mkS w.Path)]] h g [c_t] (fun rv g' L' => ∃ k_t, rv = .int .i64 (addE t w) ∧ IsTab g' b_t (addL t w) k_t ∧ g' = g ∧ L' = [k_t]) := by
  refine Spec.of_at (f := Tryd.f16) (e := [(0, .pointer (some ⟨b_t, 0, none⟩)), (1, .agg #[.int .i64 w.Client, .int .i64 w.Kind, .string (mkS w.Path)])]) Tryd.func16 (by kernel_rfl) (Nat.le_of_ble_eq_true (by kernel_rfl)) (by kernel_rfl) (by kernel_rfl) ?_
  intro R hR
  refine At.reg (L := [(0, false), (1, false)]) (by kernel_rfl) ?_
  refine Op.box (T := 27) (x := (.tmp 1)) (d := 3) (cs := #[.int .i64 w.Client, .int .i64 w.Kind, .string (mkS w.Path)]) (by kernel_rfl) (by kernel_rfl) hs ?_
  intro b2651 h2652 s2653
  refine Op.pures 1 [0, 3] (L' := []) (e' := [(0, .pointer (some ⟨b_t, 0, none⟩)), (3, .pointer (some ⟨b2651, 0, none⟩))]) (by kernel_rfl) ?_
  refine Op.goto 1 (by kernel_rfl) ?_
  refine At.reg (L := [(0, false), (1, false), (2, false)]) (by kernel_rfl) ?_
  refine Op.loadA (T := 27) (x := (.tmp 3)) (o := 0) (d := 7) (n := 3) (vs := [.int .i64 w.Client, .int .i64 w.Kind, .string (mkS w.Path)]) (by kernel_rfl) (by kernel_rfl) (by kernel_rfl) (s2653.chunk 0 rfl) (by kernel_rfl) rfl ?_
  refine Op.call0 (dst := some 8) (f := 21) (args := #[.agg #[.int .i64 w.Client, .int .i64 w.Kind, .string (mkS w.Path)]]) (by kernel_rfl) s2653 (rightW_ _ _ _ s2653.sub hG w (by ((try dsimp only) <;> (first | omega | assumption | (have := posW_le t w; omega) | (simp only [List.length_cons, List.length_nil]; omega)))) ) ?_
  rintro _ g2656 _ h2654 hle2657 s2655 ⟨rfl, hgg, rfl⟩; subst g2656; clear hle2657
  refine Op.pures 1 [0, 3, 9] (L' := []) (e' := [(0, .pointer (some ⟨b_t, 0, none⟩)), (3, .pointer (some ⟨b2651, 0, none⟩)), (9, .bool (!(rightW w)))]) (by kernel_rfl) ?_
  refine Op.goto 2 (by kernel_rfl) ?_
  refine At.cond (b := !(rightW w)) (c := .tmp 9) (by kernel_rfl) (by kernel_rfl) (by kernel_rfl) 3 5 (by kernel_rfl) (by kernel_rfl) (fun hb => ?_) (fun hb => ?_)
  · have c2658 : (rightW w) = false := (notT hb)
    clear hb
    refine At.keep [] ?_; show At _ _ _ [] _
    refine At.reg (L := [(0, false)]) (by kernel_rfl) ?_
    refine Op.pures 1 [4] (L' := []) (e' := [(4, .int .i64 90)]) (by kernel_rfl) ?_
    refine Op.goto 4 (by kernel_rfl) ?_
    refine At.ret (f := Tryd.f16) (v := .int .i64 90) (by kernel_rfl) (by kernel_rfl) ?_
    have s2659 : St h g (ids [c_t]) g [c_t] h2654 := (s2655).drop
    refine hR _ _ _ _ s2659 ⟨c_t, ?_, ?_, rfl, rfl⟩
    · exact (eqI (by first | (unfold addE; simp [*]; done) | (unfold addL; simp [*]; done)))
    · exact o_t.eq (by first | (unfold addE; simp [*]; done) | (unfold addL; simp [*]; done))
  · have c2660 : (rightW w) = true := (notF hb)
    clear hb
    refine At.keep [0, 3] ?_; show At _ _ _ [(0, .pointer (some ⟨b_t, 0, none⟩)), (3, .pointer (some ⟨b2651, 0, none⟩))] _
    obtain ⟨v2661, c2662, e2663, R2664⟩ := o_t
    obtain ⟨a2665, n2666, rfl⟩ := R2664.form
    have s2667 : St h g (ids [c_t]) g [c_t, [(b2651, Obj.cells #[.int .i64 w.Client, .int .i64 w.Kind, .string (mkS w.Path)] 27 (0, 0))]] h2654 := ((s2655.front 0 rfl).front 1 rfl)
    have s2668 : St h g (ids [c_t]) g [[(b_t, Obj.cells #[.slice a2665 t.length n2666] 73 (0, 0))], c2662, [(b2651, Obj.cells #[.int .i64 w.Client, .int .i64 w.Kind, .string (mkS w.Path)] 27 (0, 0))]] h2654 := St.flat (L := [c_t, [(b2651, Obj.cells #[.int .i64 w.Client, .int .i64 w.Kind, .string (mkS w.Path)] 27 (0, 0))]]) (by rw [e2663]; simp only [List.flatten_cons, List.append_assoc, List.cons_append, List.nil_append, List.append_nil]) s2667
    refine At.draw (by kernel_rfl) (fun _ => False) [(0, true), (1, true), (2, true), (3, true), (4, false), (5, false), (6, true), (7, true), (8, true), (9, true), (10, true)] (by kernel_rfl) ?_
    refine Op.pures 3 [0, 3, 13] (L' := [(3, true), (4, false), (5, false), (6, true), (7, true), (8, true), (9, true), (10, true)]) (e' := [(0, .pointer (some ⟨b_t, 0, none⟩)), (3, .pointer (some ⟨b2651, 0, none⟩)), (13, .pointer (some ⟨b_t, 0, none⟩))]) (by kernel_rfl) ?_
    refine Op.loadF (T := 22) (x := (.tmp 13)) (o := 0) (d := 14) (n := 1) (v := .slice a2665 t.length n2666) (by kernel_rfl) (by kernel_rfl) (by kernel_rfl) (fun h => h) (s2668.chunk 0 rfl) (by kernel_rfl) ?_
    refine Op.loadA (T := 27) (x := (.tmp 3)) (o := 0) (d := 15) (n := 3) (vs := [.int .i64 w.Client, .int .i64 w.Kind, .string (mkS w.Path)]) (by kernel_rfl) (by kernel_rfl) (by kernel_rfl) (s2668.chunk 2 rfl) (by kernel_rfl) rfl ?_
    have s2669 : St h g (ids [c_t]) g [c2662, [(b_t, Obj.cells #[.slice a2665 t.length n2666] 73 (0, 0))], [(b2651, Obj.cells #[.int .i64 w.Client, .int .i64 w.Kind, .string (mkS w.Path)] 27 (0, 0))]] h2654 := ((s2668.front 0 rfl).front 1 rfl)
    have hl2670 := s2669.frzle
    have hz2671 := R2664.frz s2669
    refine Op.lend (dst := some 16) (f := 48) (args := #[.slice a2665 t.length n2666, .agg #[.int .i64 w.Client, .int .i64 w.Kind, .string (mkS w.Path)], .func (.func 49) #[] #[]]) (cf := (c2662 : Chunk)) (Lc := []) (L := [[(b_t, Obj.cells #[.slice a2665 t.length n2666] 73 (0, 0))], [(b2651, Obj.cells #[.int .i64 w.Client, .int .i64 w.Kind, .string (mkS w.Path)] 27 (0, 0))]]) (by kernel_rfl) s2669 (searchW _ _ _ s2669.frzsub (hG.mono hl2670) _ _ hz2671 w (by ((try dsimp only) <;> (first | omega | assumption | (have := posW_le t w; omega) | (simp only [List.length_cons, List.length_nil]; omega)))) (by ((try dsimp only) <;> (first | omega | assumption | (have := posW_le t w; omega) | (simp only [List.length_cons, List.length_nil]; omega)))) ) (fun _ _ _ hp => by obtain ⟨_, hgg, _⟩ := hp; exact hgg) (fun _ _ h => absurd h (ids_nil _)) ?_
    rintro _ _ h2672 s2673 ⟨rfl, hgg, rfl⟩; clear hgg
    refine Op.pures 5 [0, 3, 5, 6] (L' := []) (e' := [(0, .pointer (some ⟨b_t, 0, none⟩)), (3, .pointer (some ⟨b2651, 0, none⟩)), (5, .int .i64 (posW t w : Int)), (6, .bool (hasW t w))]) (by kernel_rfl) ?_
    refine Op.goto 6 (by kernel_rfl) ?_
    refine At.reg (L := [(0, false), (1, false)]) (by kernel_rfl) ?_
    refine Op.pures 2 [0, 3, 5, 19] (L' := []) (e' := [(0, .pointer (some ⟨b_t, 0, none⟩)), (3, .pointer (some ⟨b2651, 0, none⟩)), (5, .int .i64 (posW t w : Int)), (19, .bool (hasW t w))]) (by kernel_rfl) ?_
    refine Op.goto 7 (by kernel_rfl) ?_
    refine At.cond (b := hasW t w) (c := .tmp 19) (by kernel_rfl) (by kernel_rfl) (by kernel_rfl) 8 10 (by kernel_rfl) (by kernel_rfl) (fun hb => ?_) (fun hb => ?_)
    · have c2676 : (hasW t w) = true := hb
      clear hb
      refine At.keep [] ?_; show At _ _ _ [] _
      refine At.reg (L := [(0, false)]) (by kernel_rfl) ?_
      refine Op.pures 1 [4] (L' := []) (e' := [(4, .int .i64 0)]) (by kernel_rfl) ?_
      refine Op.goto 9 (by kernel_rfl) ?_
      have s2677 : St h g (ids [c_t]) g [[(b_t, Obj.cells #[.slice a2665 t.length n2666] 73 (0, 0))], c2662, [(b2651, Obj.cells #[.int .i64 w.Client, .int .i64 w.Kind, .string (mkS w.Path)] 27 (0, 0))]] h2672 := ((s2673.front 0 rfl).front 1 rfl)
      obtain ⟨c2678, o2679, s2680⟩ : ∃ c, IsTab g b_t t c ∧ St h g (ids [c_t]) g (c :: [[(b2651, Obj.cells #[.int .i64 w.Client, .int .i64 w.Kind, .string (mkS w.Path)] 27 (0, 0))]]) h2672 := ⟨_, ⟨_, _, rfl, R2664⟩, St.flat (L := [[(b_t, Obj.cells #[.slice a2665 t.length n2666] 73 (0, 0))], c2662, [(b2651, Obj.cells #[.int .i64 w.Client, .int .i64 w.Kind, .string (mkS w.Path)] 27 (0, 0))]]) (by simp only [List.flatten_cons, List.append_assoc, List.cons_append, List.nil_append, List.append_nil]) s2677⟩
      refine At.ret (f := Tryd.f16) (v := .int .i64 0) (by kernel_rfl) (by kernel_rfl) ?_
      have s2681 : St h g (ids [c_t]) g [[(b2651, Obj.cells #[.int .i64 w.Client, .int .i64 w.Kind, .string (mkS w.Path)] 27 (0, 0))], c2678] h2672 := ((s2680.front 0 rfl).front 1 rfl)
      have s2682 : St h g (ids [c_t]) g [c2678] h2672 := (s2681).drop
      refine hR _ _ _ _ s2682 ⟨c2678, ?_, ?_, rfl, rfl⟩
      · exact (eqI (by first | (unfold addE; simp [*]; done) | (unfold addL; simp [*]; done)))
      · exact o2679.eq (by first | (unfold addE; simp [*]; done) | (unfold addL; simp [*]; done))
    · have c2683 : (hasW t w) = false := hb
      clear hb
      refine At.keep [0, 3, 5] ?_; show At _ _ _ [(0, .pointer (some ⟨b_t, 0, none⟩)), (3, .pointer (some ⟨b2651, 0, none⟩)), (5, .int .i64 (posW t w : Int))] _
      refine At.draw (by kernel_rfl) (fun _ => False) [(0, true), (1, true), (2, true), (4, true), (3, true), (5, false), (6, false), (7, true), (8, true)] (by kernel_rfl) ?_
      refine Op.pures 4 [0, 3, 5, 24, 26] (L' := [(3, true), (5, false), (6, false), (7, true), (8, true)]) (e' := [(0, .pointer (some ⟨b_t, 0, none⟩)), (3, .pointer (some ⟨b2651, 0, none⟩)), (5, .int .i64 (posW t w : Int)), (24, .pointer (some ⟨b_t, 0, none⟩)), (26, .pointer (some ⟨b2651, 0, none⟩))]) (by kernel_rfl) ?_
      refine Op.loadF (T := 22) (x := (.tmp 24)) (o := 0) (d := 25) (n := 1) (v := .slice a2665 t.length n2666) (by kernel_rfl) (by kernel_rfl) (by kernel_rfl) (fun h => h) (s2673.chunk 1 rfl) (by kernel_rfl) ?_
      refine Op.load (T := 3) (x := (.tmp 26)) (o := 0) (d := 27) (n := 1) (v := .int .i64 w.Client) (by kernel_rfl) (by kernel_rfl) (by kernel_rfl) (s2673.chunk 2 rfl) (by kernel_rfl) ?_
      have hl2684 := s2673.frzle
      have hz2685 := R2664.frz s2673
      refine Op.lend (dst := some 28) (f := 50) (args := #[.slice a2665 t.length n2666, .int .i64 w.Client]) (cf := (c2662 : Chunk)) (Lc := []) (L := [[(b_t, Obj.cells #[.slice a2665 t.length n2666] 73 (0, 0))], [(b2651, Obj.cells #[.int .i64 w.Client, .int .i64 w.Kind, .string (mkS w.Path)] 27 (0, 0))]]) (by kernel_rfl) s2673 (countW _ _ _ s2673.frzsub (hG.mono hl2684) _ _ hz2685 w.Client (by ((try dsimp only) <;> (first | omega | assumption | (have := posW_le t w; omega) | (simp only [List.length_cons, List.length_nil]; omega)))) ) (fun _ _ _ hp => by obtain ⟨_, hgg, _⟩ := hp; exact hgg) (fun _ _ h => absurd h (ids_nil _)) ?_
      rintro _ _ h2686 s2687 ⟨rfl, hgg, rfl⟩; clear hgg
      refine Op.pures 2 [0, 3, 5, 21] (L' := []) (e' := [(0, .pointer (some ⟨b_t, 0, none⟩)), (3, .pointer (some ⟨b2651, 0, none⟩)), (5, .int .i64 (posW t w : Int)), (21, .bool (decide ((cnt w.Client t : Int) ≥ (8 : Int))))]) (by kernel_rfl) ?_
      refine Op.goto 11 (by kernel_rfl) ?_
      refine At.cond (b := decide ((cnt w.Client t : Int) ≥ (8 : Int))) (c := .tmp 21) (by kernel_rfl) (by kernel_rfl) (by kernel_rfl) 12 14 (by kernel_rfl) (by kernel_rfl) (fun hb => ?_) (fun hb => ?_)
      · have c2690 : (cnt w.Client t : Int) ≥ (8 : Int) := of_decide_eq_true hb
        clear hb
        refine At.keep [] ?_; show At _ _ _ [] _
        refine At.reg (L := [(0, false)]) (by kernel_rfl) ?_
        refine Op.pures 1 [4] (L' := []) (e' := [(4, .int .i64 104)]) (by kernel_rfl) ?_
        refine Op.goto 9 (by kernel_rfl) ?_
        have s2691 : St h g (ids [c_t]) g [[(b_t, Obj.cells #[.slice a2665 t.length n2666] 73 (0, 0))], c2662, [(b2651, Obj.cells #[.int .i64 w.Client, .int .i64 w.Kind, .string (mkS w.Path)] 27 (0, 0))]] h2686 := ((s2687.front 0 rfl).front 1 rfl)
        obtain ⟨c2692, o2693, s2694⟩ : ∃ c, IsTab g b_t t c ∧ St h g (ids [c_t]) g (c :: [[(b2651, Obj.cells #[.int .i64 w.Client, .int .i64 w.Kind, .string (mkS w.Path)] 27 (0, 0))]]) h2686 := ⟨_, ⟨_, _, rfl, R2664⟩, St.flat (L := [[(b_t, Obj.cells #[.slice a2665 t.length n2666] 73 (0, 0))], c2662, [(b2651, Obj.cells #[.int .i64 w.Client, .int .i64 w.Kind, .string (mkS w.Path)] 27 (0, 0))]]) (by simp only [List.flatten_cons, List.append_assoc, List.cons_append, List.nil_append, List.append_nil]) s2691⟩
        refine At.ret (f := Tryd.f16) (v := .int .i64 104) (by kernel_rfl) (by kernel_rfl) ?_
        have s2695 : St h g (ids [c_t]) g [[(b2651, Obj.cells #[.int .i64 w.Client, .int .i64 w.Kind, .string (mkS w.Path)] 27 (0, 0))], c2692] h2686 := ((s2694.front 0 rfl).front 1 rfl)
        have s2696 : St h g (ids [c_t]) g [c2692] h2686 := (s2695).drop
        refine hR _ _ _ _ s2696 ⟨c2692, ?_, ?_, rfl, rfl⟩
        · exact (eqI (by first | (unfold addE; simp [*]; done) | (unfold addL; simp [*]; done)))
        · exact o2693.eq (by first | (unfold addE; simp [*]; done) | (unfold addL; simp [*]; done))
      · have c2697 : ¬ ((cnt w.Client t : Int) ≥ (8 : Int)) := of_decide_eq_false hb
        clear hb
        refine At.keep [0, 3, 5] ?_; show At _ _ _ [(0, .pointer (some ⟨b_t, 0, none⟩)), (3, .pointer (some ⟨b2651, 0, none⟩)), (5, .int .i64 (posW t w : Int))] _
        refine At.draw (by kernel_rfl) (fun _ => False) [(0, true), (1, true), (2, true), (3, true), (5, true), (4, true), (6, false), (7, false), (1008, false), (8, false), (9, true), (10, true), (11, false)] (by kernel_rfl) ?_
        refine Op.pures 5 [3, 30, 33, 35] (L' := [(4, true), (6, false), (7, false), (1008, false), (8, false), (9, true), (10, true), (11, false)]) (e' := [(3, .pointer (some ⟨b2651, 0, none⟩)), (30, .pointer (some ⟨b_t, 0, none⟩)), (33, .pointer (some ⟨b_t, 0, none⟩)), (35, .int .i64 (posW t w : Int))]) (by kernel_rfl) ?_
        refine Op.loadF (T := 22) (x := (.tmp 33)) (o := 0) (d := 34) (n := 1) (v := .slice a2665 t.length n2666) (by kernel_rfl) (by kernel_rfl) (by kernel_rfl) (fun h => h) (s2687.chunk 1 rfl) (by kernel_rfl) ?_
        refine Op.loadA (T := 27) (x := (.tmp 3)) (o := 0) (d := 36) (n := 3) (vs := [.int .i64 w.Client, .int .i64 w.Kind, .string (mkS w.Path)]) (by kernel_rfl) (by kernel_rfl) (by kernel_rfl) (s2687.chunk 2 rfl) (by kernel_rfl) rfl ?_
        refine Op.lit (T := 22) (len := 1) (parts := #[(0, (.tmp 36))]) (dst := 37) (E := 27) (ps := [(0, .agg #[.int .i64 w.Client, .int .i64 w.Kind, .string (mkS w.Path)])]) (cs := #[.int .i64 w.Client, .int .i64 w.Kind, .string (mkS w.Path)]) (by kernel_rfl) (by kernel_rfl) (by kernel_rfl) s2687 ?_
        intro b2698 h2699 s2700
        refine Op.barrier (by kernel_rfl) ?_
        have R2701 : Row 27 kWatch g (.slice (some ⟨b2698, 0, none⟩) 1 1) [w] [(b2698, Obj.cells #[.int .i64 w.Client, .int .i64 w.Kind, .string (mkS w.Path)] 27 (0, 0))] := Row.lit (by kernel_rfl) (by unfold maxLen; decide) (by kernel_rfl) ⟨_, _, rfl, rfl, Reads.nil⟩
        have s2702 : St h g (ids [c_t]) g [c2662, [(b2698, Obj.cells #[.int .i64 w.Client, .int .i64 w.Kind, .string (mkS w.Path)] 27 (0, 0))], [(b_t, Obj.cells #[.slice a2665 t.length n2666] 73 (0, 0))], [(b2651, Obj.cells #[.int .i64 w.Client, .int .i64 w.Kind, .string (mkS w.Path)] 27 (0, 0))]] h2699 := ((s2700.front 0 rfl).front 1 rfl)
        refine Op.call (dst := some 38) (f := 51) (args := #[.slice a2665 t.length n2666, .int .i64 (posW t w : Int), .slice (some ⟨b2698, 0, none⟩) 1 1]) (Lc := [c2662, [(b2698, Obj.cells #[.int .i64 w.Client, .int .i64 w.Kind, .string (mkS w.Path)] 27 (0, 0))]]) (L := [[(b_t, Obj.cells #[.slice a2665 t.length n2666] 73 (0, 0))], [(b2651, Obj.cells #[.int .i64 w.Client, .int .i64 w.Kind, .string (mkS w.Path)] 27 (0, 0))]]) (by kernel_rfl) s2702 (insertW _ _ _ s2702.sub hG _ t _ R2664 (posW t w : Int) _ ([w]) _ R2701 (by ((try dsimp only) <;> (first | omega | assumption | (have := posW_le t w; omega) | (simp only [List.length_cons, List.length_nil]; omega)))) (by ((try dsimp only) <;> (first | omega | assumption | (have := posW_le t w; omega) | (simp only [List.length_cons, List.length_nil]; omega)))) (by ((try dsimp only) <;> (first | omega | assumption | (have := posW_le t w; omega) | (simp only [List.length_cons, List.length_nil]; omega)))) (by ((try dsimp only) <;> (first | omega | assumption | (have := posW_le t w; omega) | (simp only [List.length_cons, List.length_nil]; omega)))) (St.part (Lc := [c2662, [(b2698, Obj.cells #[.int .i64 w.Client, .int .i64 w.Kind, .string (mkS w.Path)] 27 (0, 0))]]) (L := [[(b_t, Obj.cells #[.slice a2665 t.length n2666] 73 (0, 0))], [(b2651, Obj.cells #[.int .i64 w.Client, .int .i64 w.Kind, .string (mkS w.Path)] 27 (0, 0))]]) s2702)) (fun _ _ _ => trivial) ?_
        rintro _ g2710 _ h2703 hle2711 s2704 ⟨v2705, ch2706, rfl, R2707, hgg, rfl⟩; subst g2710; clear hle2711
        obtain ⟨a2708, n2709, rfl⟩ := R2707.form
        refine Op.pures 2 [38, 40] (L' := [(11, false)]) (e' := [(38, .slice a2708 ((insAt t (posW t w : Int) ([w])).length) n2709), (40, .pointer (some ⟨b_t, 0, none⟩))]) (by kernel_rfl) ?_
        refine Op.store (T := 22) (x := (.tmp 40)) (y := (.tmp 38)) (b := b_t) (o := 0) (vs := [.slice a2708 ((insAt t (posW t w : Int) ([w])).length) n2709]) (a? := false) (n := 1) (by kernel_rfl) (by kernel_rfl) (by kernel_rfl) (by kernel_rfl) rfl (by simp [Value.oneCell']) s2704 1 rfl (Nat.le_of_ble_eq_true (by kernel_rfl)) (cs := #[.slice a2665 t.length n2666]) (cs' := #[.slice a2708 ((insAt t (posW t w : Int) ([w])).length) n2709]) (by kernel_rfl) (fun _ => trivial) ?_
        intro h2712 s2713
        refine Op.goto 15 (by kernel_rfl) ?_
        refine At.reg (L := [(0, false)]) (by kernel_rfl) ?_
        refine Op.pures 1 [4] (L' := []) (e' := [(4, .int .i64 0)]) (by kernel_rfl) ?_
        refine Op.goto 16 (by kernel_rfl) ?_
        have s2714 : St h g (ids [c_t]) g [[(b_t, Obj.cells #[.slice a2708 ((insAt t (posW t w : Int) ([w])).length) n2709] 73 (0, 0))], ch2706, [(b2651, Obj.cells #[.int .i64 w.Client, .int .i64 w.Kind, .string (mkS w.Path)] 27 (0, 0))]] h2712 := ((s2713.front 0 rfl).front 1 rfl)
        obtain ⟨c2715, o2716, s2717⟩ : ∃ c, IsTab g b_t (insAt t (posW t w : Int) ([w])) c ∧ St h g (ids [c_t]) g (c :: [[(b2651, Obj.cells #[.int .i64 w.Client, .int .i64 w.Kind, .string (mkS w.Path)] 27 (0, 0))]]) h2712 := ⟨_, ⟨_, _, rfl, R2707⟩, St.flat (L := [[(b_t, Obj.cells #[.slice a2708 ((insAt t (posW t w : Int) ([w])).length) n2709] 73 (0, 0))], ch2706, [(b2651, Obj.cells #[.int .i64 w.Client, .int .i64 w.Kind, .string (mkS w.Path)] 27 (0, 0))]]) (by simp only [List.flatten_cons, List.append_assoc, List.cons_append, List.nil_append, List.append_nil]) s2714⟩
        refine At.ret (f := Tryd.f16) (v := .int .i64 0) (by kernel_rfl) (by kernel_rfl) ?_
        have s2718 : St h g (ids [c_t]) g [[(b2651, Obj.cells #[.int .i64 w.Client, .int .i64 w.Kind, .string (mkS w.Path)] 27 (0, 0))], c2715] h2712 := ((s2717.front 0 rfl).front 1 rfl)
        have s2719 : St h g (ids [c_t]) g [c2715] h2712 := (s2718).drop
        refine hR _ _ _ _ s2719 ⟨c2715, ?_, ?_, rfl, rfl⟩
        · exact (eqI (by first | (unfold addE; simp [*]; done) | (unfold addL; simp [*]; done)))
        · exact o2716.eq (by first | (unfold addE; simp [*]; done) | (unfold addL; simp [*]; done))

/-- (*stanchion/watch.Table).Load -/
theorem loadT (B : World) (h : Heap) (g : GH) (hg : Sub g h) (hG : Glob g) (b_t : Nat) (t : List Watch) (c_t : Chunk) (o_t : IsTab g b_t t c_t) (v_list : Value) (list : List Watch) (h_list : SlR g 27 kWatch v_list list) (h1 : list.length ≤ 1000000) (hw : ∀ w ∈ list, w.Path.length ≤ 1000000000) (hs : St h g (ids [c_t]) g [c_t] h) :
    Spec Tryd.prog B 31 #[.pointer (some ⟨b_t, 0, none⟩), v_list] h g [c_t] (fun rv g' L' => ∃ k_t, rv = .bool (loadB list) ∧ IsTab g' b_t (loadL t list) k_t ∧ g' = g ∧ L' = [k_t]) := by
  obtain ⟨a_list, n_list, rfl⟩ := h_list.form
  refine Spec.of_at (f := Tryd.f31) (e := [(0, .pointer (some ⟨b_t, 0, none⟩)), (1, .slice a_list list.length n_list)]) Tryd.func31 (by kernel_rfl) (Nat.le_of_ble_eq_true (by kernel_rfl)) (by kernel_rfl) (by kernel_rfl) ?_
  intro R hR
  refine At.reg (L := [(0, false)]) (by kernel_rfl) ?_
  refine Op.pures 1 [0, 1] (L' := []) (e' := [(0, .pointer (some ⟨b_t, 0, none⟩)), (1, .slice a_list list.length n_list)]) (by kernel_rfl) ?_
  refine Op.goto 1 (by kernel_rfl) ?_
  refine At.reg (L := [(0, false), (1, false), (2, false)]) (by kernel_rfl) ?_
  refine Op.pures 3 [0, 1, 7, 8, 9] (L' := []) (e' := [(0, .pointer (some ⟨b_t, 0, none⟩)), (1, .slice a_list list.length n_list), (7, .slice a_list list.length n_list), (8, .int .i64 (list.length : Int)), (9, .int .i64 0)]) (by kernel_rfl) ?_
  refine Op.goto 2 (by kernel_rfl) ?_
  have loop2 : ∀ (m : Nat) (i : Int) (h2720 : Heap) (hm : list.length - i.toNat < m) (h0 : 0 ≤ i) (h3 : i ≤ list.length) (hk : okTo11 list i)    (s_loop22719 : St h g (ids [c_t]) g [c_t] h2720), At (fctx Tryd.prog B 31 Tryd.f31 R) [] 2 [(0, .pointer (some ⟨b_t, 0, none⟩)), (1, .slice a_list list.length n_list), (7, .slice a_list list.length n_list), (8, .int .i64 (list.length : Int)), (9, .int .i64 i)] h2720 := by
    intro m; induction m with
    | zero => intros; omega
    | succ m ih2 =>
      intro i h2720 hm h0 h3 hk s_loop22719
      refine At.reg (L := [(0, false)]) (by kernel_rfl) ?_
      refine Op.pures 1 [0, 1, 7, 8, 9, 10] (L' := []) (e' := [(0, .pointer (some ⟨b_t, 0, none⟩)), (1, .slice a_list list.length n_list), (7, .slice a_list list.length n_list), (8, .int .i64 (list.length : Int)), (9, .int .i64 i), (10, .bool (decide (i < (list.length : Int))))]) (by kernel_rfl) ?_
      refine Op.goto 3 (by kernel_rfl) ?_
      refine At.cond (b := decide (i < (list.length : Int))) (c := .tmp 10) (by kernel_rfl) (by kernel_rfl) (by kernel_rfl) 4 10 (by kernel_rfl) (by kernel_rfl) (fun hb => ?_) (fun hb => ?_)
      · have c2721 : i < (list.length : Int) := of_decide_eq_true hb
        clear hb
        refine At.keep [0, 1, 7, 8, 9] ?_; show At _ _ _ [(0, .pointer (some ⟨b_t, 0, none⟩)), (1, .slice a_list list.length n_list), (7, .slice a_list list.length n_list), (8, .int .i64 (list.length : Int)), (9, .int .i64 i)] _
        refine At.reg (L := [(0, false), (1, false), (2, false), (3, false), (4, false), (5, false)]) (by kernel_rfl) ?_
        refine Op.pures 1 [0, 1, 7, 8, 9, 11] (L' := [(1, false), (2, false), (3, false), (4, false), (5, false)]) (e' := [(0, .pointer (some ⟨b_t, 0, none⟩)), (1, .slice a_list list.length n_list), (7, .slice a_list list.length n_list), (8, .int .i64 (list.length : Int)), (9, .int .i64 i), (11, .int .i64 i)]) (by kernel_rfl) ?_
        obtain ⟨x2722, hx2723⟩ : ∃ c, list[(i : Int).toNat]? = some c := ⟨_, List.getElem?_eq_getElem (by first | omega | exact hw _ (List.mem_of_getElem? {hx0}))⟩
        obtain ⟨b2724, o2725, cu2726, fz2727, ha2728, hb2729, hk2730⟩ := SlR.at_ h_list _ hx2723
        cases ha2728
        refine Op.idx (T := 22) (E := 27) (sz := 3) (by_ := 32) (n := list.length) (c := n_list) (k := .i64) (x := (.tmp 7)) (ix := (.tmp 9)) (dst := 12) (bk := b2724) (o := o2725) (m := i) (by kernel_rfl) (by kernel_rfl) (by kernel_rfl) (by kernel_rfl) (by first | omega | exact hw _ (List.mem_of_getElem? {hx0})) (by first | omega | exact hw _ (List.mem_of_getElem? {hx0})) ?_
        replace hk2730 : cut _ _ _ = [.int .i64 x2722.Client, .int .i64 x2722.Kind, .string (mkS x2722.Path)] := hk2730
        refine Op.loadA (T := 27) (x := (.tmp 12)) (o := o2725 + (i : Int).toNat * 3) (d := 13) (n := 3) (vs := [.int .i64 x2722.Client, .int .i64 x2722.Kind, .string (mkS x2722.Path)]) (by kernel_rfl) (by kernel_rfl) (by kernel_rfl) (s_loop22719.sub _ _ hb2729) (hk2730) rfl ?_
        refine Op.alloc (T := 27) (dst := 6) (cs := #[.int .i64 0, .int .i64 0, .string (mkS [])]) (by kernel_rfl) (by kernel_rfl) s_loop22719 ?_
        intro b2731 h2732 s2733
        refine Op.pures 1 [0, 1, 5, 6, 7, 8, 9, 13] (L' := [(5, false)]) (e' := [(0, .pointer (some ⟨b_t, 0, none⟩)), (1, .slice (some ⟨b2724, o2725, none⟩) list.length n_list), (5, .int .i64 i), (6, .pointer (some ⟨b2731, 0, none⟩)), (7, .slice (some ⟨b2724, o2725, none⟩) list.length n_list), (8, .int .i64 (list.length : Int)), (9, .int .i64 i), (13, .agg #[.int .i64 x2722.Client, .int .i64 x2722.Kind, .string (mkS x2722.Path)])]) (by kernel_rfl) ?_
        refine Op.store (T := 27) (x := (.tmp 6)) (y := (.tmp 13)) (b := b2731) (o := 0) (vs := [.int .i64 x2722.Client, .int .i64 x2722.Kind, .string (mkS x2722.Path)]) (a? := true) (n := 3) (by kernel_rfl) (by kernel_rfl) (by kernel_rfl) (by kernel_rfl) rfl (by simp [Value.oneCell']) s2733 0 rfl (Nat.le_of_ble_eq_true (by kernel_rfl)) (cs := #[.int .i64 0, .int .i64 0, .string (mkS [])]) (cs' := #[.int .i64 x2722.Client, .int .i64 x2722.Kind, .string (mkS x2722.Path)]) (by kernel_rfl) (fun _ => trivial) ?_
        intro h2734 s2735
        refine Op.goto 5 (by kernel_rfl) ?_
        refine At.draw (by kernel_rfl) (fun _ => False) [(0, false), (1, false), (2, true), (3, true), (4, true), (5, true), (6, true), (7, true), (8, true), (9, true), (10, true), (11, true), (12, false), (13, false), (14, true), (15, true), (16, true), (17, true), (18, true), (19, true), (20, false), (21, false), (22, true), (23, true)] (by kernel_rfl) ?_
        refine Op.loadA (T := 27) (x := (.tmp 6)) (o := 0) (d := 14) (n := 3) (vs := [.int .i64 x2722.Client, .int .i64 x2722.Kind, .string (mkS x2722.Path)]) (by kernel_rfl) (by kernel_rfl) (by kernel_rfl) (s2735.chunk 0 rfl) (by kernel_rfl) rfl ?_
        refine Op.call0 (dst := some 15) (f := 21) (args := #[.agg #[.int .i64 x2722.Client, .int .i64 x2722.Kind, .string (mkS x2722.Path)]]) (by kernel_rfl) s2735 (rightW_ _ _ _ s2735.sub hG x2722 (by ((try dsimp only) <;> (first | omega | exact hw _ (List.mem_of_getElem? hx2723)))) ) ?_
        rintro _ g2738 _ h2736 hle2739 s2737 ⟨rfl, hgg, rfl⟩; subst g2738; clear hle2739
        refine Op.pures 2 [0, 1, 5, 6, 7, 8, 9, 17] (L' := [(4, true), (5, true), (6, true), (7, true), (8, true), (9, true), (10, true), (11, true), (12, false), (13, false), (14, true), (15, true), (16, true), (17, true), (18, true), (19, true), (20, false), (21, false), (22, true), (23, true)]) (e' := [(0, .pointer (some ⟨b_t, 0, none⟩)), (1, .slice (some ⟨b2724, o2725, none⟩) list.length n_list), (5, .int .i64 i), (6, .pointer (some ⟨b2731, 0, none⟩)), (7, .slice (some ⟨b2724, o2725, none⟩) list.length n_list), (8, .int .i64 (list.length : Int)), (9, .int .i64 i), (17, .bool (!(rightW x2722)))]) (by kernel_rfl) ?_
        refine Op.ways (b := !(rightW x2722)) ⟨fun hb => ?_, fun hb => ?_⟩
        · refine Op.cast (e' := [(0, .pointer (some ⟨b_t, 0, none⟩)), (1, .slice (some ⟨b2724, o2725, none⟩) list.length n_list), (5, .int .i64 i), (6, .pointer (some ⟨b2731, 0, none⟩)), (7, .slice (some ⟨b2724, o2725, none⟩) list.length n_list), (8, .int .i64 (list.length : Int)), (9, .int .i64 i), (17, .bool true)]) (by rw [hb]) ?_
          have c2740 : (rightW x2722) = false := (notT hb)
          clear hb
          refine Op.pures 20 [0, 1, 7, 8, 9, 37] (L' := []) (e' := [(0, .pointer (some ⟨b_t, 0, none⟩)), (1, .slice (some ⟨b2724, o2725, none⟩) list.length n_list), (7, .slice (some ⟨b2724, o2725, none⟩) list.length n_list), (8, .int .i64 (list.length : Int)), (9, .int .i64 i), (37, .bool true)]) (by kernel_rfl) ?_
          refine Op.goto 6 (by kernel_rfl) ?_
          refine At.condT (c := .tmp 37) (by kernel_rfl) (by kernel_rfl) (by kernel_rfl) 7 (by kernel_rfl) ?_
          refine At.reg (L := [(0, false)]) (by kernel_rfl) ?_
          refine Op.pures 1 [4] (L' := []) (e' := [(4, .bool false)]) (by kernel_rfl) ?_
          refine Op.goto 8 (by kernel_rfl) ?_
          refine At.ret (f := Tryd.f31) (v := .bool false) (by kernel_rfl) (by kernel_rfl) ?_
          have s2741 : St h g (ids [c_t]) g [c_t] h2736 := (s2737).drop
          refine hR _ _ _ _ s2741 ⟨c_t, ?_, ?_, rfl, rfl⟩
          · exact (eqB (by first | exact (loadB_f h0 hx2723 (stepB_1 hx2723 (by assumption))).symm | exact (loadB_f h0 hx2723 (stepB_2 (by omega) hx2723 {hx1} (ord_ge (by assumption)))).symm | exact (loadB_f h0 hx2723 (stepB_3 hx2723 (by omega))).symm | exact (loadB_t hk c2740).symm | (unfold loadL; rw [if_neg (Bool.eq_false_iff.1 (loadB_f h0 hx2723 (stepB_1 hx2723 (by assumption))))]) | (unfold loadL; rw [if_neg (Bool.eq_false_iff.1 (loadB_f h0 hx2723 (stepB_2 (by omega) hx2723 {hx1} (ord_ge (by assumption)))))]) | (unfold loadL; rw [if_neg (Bool.eq_false_iff.1 (loadB_f h0 hx2723 (stepB_3 hx2723 (by omega))))]) | (unfold loadL; rw [if_pos (loadB_t hk c2740)])))
          · exact o_t.eq (by first | exact (loadB_f h0 hx2723 (stepB_1 hx2723 (by assumption))).symm | exact (loadB_f h0 hx2723 (stepB_2 (by omega) hx2723 {hx1} (ord_ge (by assumption)))).symm | exact (loadB_f h0 hx2723 (stepB_3 hx2723 (by omega))).symm | exact (loadB_t hk c2740).symm | (unfold loadL; rw [if_neg (Bool.eq_false_iff.1 (loadB_f h0 hx2723 (stepB_1 hx2723 (by assumption))))]) | (unfold loadL; rw [if_neg (Bool.eq_false_iff.1 (loadB_f h0 hx2723 (stepB_2 (by omega) hx2723 {hx1} (ord_ge (by assumption)))))]) | (unfold loadL; rw [if_neg (Bool.eq_false_iff.1 (loadB_f h0 hx2723 (stepB_3 hx2723 (by omega))))]) | (unfold loadL; rw [if_pos (loadB_t hk c2740)]))
        · refine Op.cast (e' := [(0, .pointer (some ⟨b_t, 0, none⟩)), (1, .slice (some ⟨b2724, o2725, none⟩) list.length n_list), (5, .int .i64 i), (6, .pointer (some ⟨b2731, 0, none⟩)), (7, .slice (some ⟨b2724, o2725, none⟩) list.length n_list), (8, .int .i64 (list.length : Int)), (9, .int .i64 i), (17, .bool false)]) (by rw [hb]) ?_
          have c2742 : (rightW x2722) = true := (notF hb)
          clear hb
          refine Op.pures 3 [0, 1, 5, 6, 7, 8, 9, 17, 20] (L' := [(7, true), (8, true), (9, true), (10, true), (11, true), (12, false), (13, false), (14, true), (15, true), (16, true), (17, true), (18, true), (19, true), (20, false), (21, false), (22, true), (23, true)]) (e' := [(0, .pointer (some ⟨b_t, 0, none⟩)), (1, .slice (some ⟨b2724, o2725, none⟩) list.length n_list), (5, .int .i64 i), (6, .pointer (some ⟨b2731, 0, none⟩)), (7, .slice (some ⟨b2724, o2725, none⟩) list.length n_list), (8, .int .i64 (list.length : Int)), (9, .int .i64 i), (17, .bool false), (20, .bool (decide (i > (0 : Int))))]) (by kernel_rfl) ?_
          refine Op.ways (b := decide (i > (0 : Int))) ⟨fun hb => ?_, fun hb => ?_⟩
          · refine Op.cast (e' := [(0, .pointer (some ⟨b_t, 0, none⟩)), (1, .slice (some ⟨b2724, o2725, none⟩) list.length n_list), (5, .int .i64 i), (6, .pointer (some ⟨b2731, 0, none⟩)), (7, .slice (some ⟨b2724, o2725, none⟩) list.length n_list), (8, .int .i64 (list.length : Int)), (9, .int .i64 i), (17, .bool false), (20, .bool true)]) (by rw [hb]) ?_
            have c2743 : i > (0 : Int) := of_decide_eq_true hb
            clear hb
            refine Op.pures 2 [0, 1, 6, 7, 8, 9, 17, 20, 21, 22] (L' := [(9, true), (10, true), (11, true), (12, false), (13, false), (14, true), (15, true), (16, true), (17, true), (18, true), (19, true), (20, false), (21, false), (22, true), (23, true)]) (e' := [(0, .pointer (some ⟨b_t, 0, none⟩)), (1, .slice (some ⟨b2724, o2725, none⟩) list.length n_list), (6, .pointer (some ⟨b2731, 0, none⟩)), (7, .slice (some ⟨b2724, o2725, none⟩) list.length n_list), (8, .int .i64 (list.length : Int)), (9, .int .i64 i), (17, .bool false), (20, .bool true), (21, .slice (some ⟨b2724, o2725, none⟩) list.length n_list), (22, .int .i64 i)]) (by kernel_rfl) ?_
            refine Op.val (dst := some 23) (v := .int .i64 (IntKind.wrap .i64 (i - 1))) (v' := .int .i64 (i - 1)) (by kernel_rfl) (wrapEq_i64 (by first | omega | exact hw _ (List.mem_of_getElem? hx2723)) (by first | omega | exact hw _ (List.mem_of_getElem? hx2723))) ?_
            obtain ⟨x2744, hx2745⟩ : ∃ c, list[(i - 1 : Int).toNat]? = some c := ⟨_, List.getElem?_eq_getElem (by first | omega | exact hw _ (List.mem_of_getElem? hx2723))⟩
            obtain ⟨b2746, o2747, cu2748, fz2749, ha2750, hb2751, hk2752⟩ := SlR.at_ h_list _ hx2745
            cases ha2750
            refine Op.idx (T := 22) (E := 27) (sz := 3) (by_ := 32) (n := list.length) (c := n_list) (k := .i64) (x := (.tmp 21)) (ix := (.tmp 23)) (dst := 24) (bk := b2724) (o := o2725) (m := i - 1) (by kernel_rfl) (by kernel_rfl) (by kernel_rfl) (by kernel_rfl) (by first | omega | exact hw _ (List.mem_of_getElem? hx2723)) (by first | omega | exact hw _ (List.mem_of_getElem? hx2723)) ?_
            replace hk2752 : cut _ _ _ = [.int .i64 x2744.Client, .int .i64 x2744.Kind, .string (mkS x2744.Path)] := hk2752
            refine Op.loadAF (T := 27) (x := (.tmp 24)) (o := o2725 + (i - 1 : Int).toNat * 3) (d := 25) (n := 3) (vs := [.int .i64 x2744.Client, .int .i64 x2744.Kind, .string (mkS x2744.Path)]) (by kernel_rfl) (by kernel_rfl) (by kernel_rfl) (fun h => h) (s2735.sub _ _ hb2751) (hk2752) rfl ?_
            refine Op.loadA (T := 27) (x := (.tmp 6)) (o := 0) (d := 26) (n := 3) (vs := [.int .i64 x2722.Client, .int .i64 x2722.Kind, .string (mkS x2722.Path)]) (by kernel_rfl) (by kernel_rfl) (by kernel_rfl) (s2737.chunk 0 rfl) (by kernel_rfl) rfl ?_
            refine Op.call0 (dst := some 27) (f := 49) (args := #[.agg #[.int .i64 x2744.Client, .int .i64 x2744.Kind, .string (mkS x2744.Path)], .agg #[.int .i64 x2722.Client, .int .i64 x2722.Kind, .string (mkS x2722.Path)]]) (by kernel_rfl) s2737 (orderW_ _ _ _ s2737.sub hG x2744 x2722  ) ?_
            rintro _ g2755 _ h2753 hle2756 s2754 ⟨rfl, hgg, rfl⟩; subst g2755; clear hle2756
            refine Op.pures 4 [0, 1, 6, 7, 8, 9, 31] (L' := [(18, true), (19, true), (20, false), (21, false), (22, true), (23, true)]) (e' := [(0, .pointer (some ⟨b_t, 0, none⟩)), (1, .slice (some ⟨b2724, o2725, none⟩) list.length n_list), (6, .pointer (some ⟨b2731, 0, none⟩)), (7, .slice (some ⟨b2724, o2725, none⟩) list.length n_list), (8, .int .i64 (list.length : Int)), (9, .int .i64 i), (31, .bool (decide ((ordW x2744 x2722) ≥ (0 : Int))))]) (by kernel_rfl) ?_
            refine Op.ways (b := decide ((ordW x2744 x2722) ≥ (0 : Int))) ⟨fun hb => ?_, fun hb => ?_⟩
            · refine Op.cast (e' := [(0, .pointer (some ⟨b_t, 0, none⟩)), (1, .slice (some ⟨b2724, o2725, none⟩) list.length n_list), (6, .pointer (some ⟨b2731, 0, none⟩)), (7, .slice (some ⟨b2724, o2725, none⟩) list.length n_list), (8, .int .i64 (list.length : Int)), (9, .int .i64 i), (31, .bool true)]) (by rw [hb]) ?_
              have c2757 : (ordW x2744 x2722) ≥ (0 : Int) := of_decide_eq_true hb
              clear hb
              refine Op.pures 6 [0, 1, 7, 8, 9, 37] (L' := []) (e' := [(0, .pointer (some ⟨b_t, 0, none⟩)), (1, .slice (some ⟨b2724, o2725, none⟩) list.length n_list), (7, .slice (some ⟨b2724, o2725, none⟩) list.length n_list), (8, .int .i64 (list.length : Int)), (9, .int .i64 i), (37, .bool true)]) (by kernel_rfl) ?_
              refine Op.goto 6 (by kernel_rfl) ?_
              refine At.condT (c := .tmp 37) (by kernel_rfl) (by kernel_rfl) (by kernel_rfl) 7 (by kernel_rfl) ?_
              refine At.reg (L := [(0, false)]) (by kernel_rfl) ?_
              refine Op.pures 1 [4] (L' := []) (e' := [(4, .bool false)]) (by kernel_rfl) ?_
              refine Op.goto 8 (by kernel_rfl) ?_
              refine At.ret (f := Tryd.f31) (v := .bool false) (by kernel_rfl) (by kernel_rfl) ?_
              have s2758 : St h g (ids [c_t]) g [c_t] h2753 := (s2754).drop
              refine hR _ _ _ _ s2758 ⟨c_t, ?_, ?_, rfl, rfl⟩
              · exact (eqB (by first | exact (loadB_f h0 hx2723 (stepB_1 hx2723 (by assumption))).symm | exact (loadB_f h0 hx2723 (stepB_2 (by omega) hx2723 hx2745 (ord_ge (by assumption)))).symm | exact (loadB_f h0 hx2723 (stepB_3 hx2723 (by omega))).symm | exact (loadB_t hk c2757).symm | (unfold loadL; rw [if_neg (Bool.eq_false_iff.1 (loadB_f h0 hx2723 (stepB_1 hx2723 (by assumption))))]) | (unfold loadL; rw [if_neg (Bool.eq_false_iff.1 (loadB_f h0 hx2723 (stepB_2 (by omega) hx2723 hx2745 (ord_ge (by assumption)))))]) | (unfold loadL; rw [if_neg (Bool.eq_false_iff.1 (loadB_f h0 hx2723 (stepB_3 hx2723 (by omega))))]) | (unfold loadL; rw [if_pos (loadB_t hk c2757)])))
              · exact o_t.eq (by first | exact (loadB_f h0 hx2723 (stepB_1 hx2723 (by assumption))).symm | exact (loadB_f h0 hx2723 (stepB_2 (by omega) hx2723 hx2745 (ord_ge (by assumption)))).symm | exact (loadB_f h0 hx2723 (stepB_3 hx2723 (by omega))).symm | exact (loadB_t hk c2757).symm | (unfold loadL; rw [if_neg (Bool.eq_false_iff.1 (loadB_f h0 hx2723 (stepB_1 hx2723 (by assumption))))]) | (unfold loadL; rw [if_neg (Bool.eq_false_iff.1 (loadB_f h0 hx2723 (stepB_2 (by omega) hx2723 hx2745 (ord_ge (by assumption)))))]) | (unfold loadL; rw [if_neg (Bool.eq_false_iff.1 (loadB_f h0 hx2723 (stepB_3 hx2723 (by omega))))]) | (unfold loadL; rw [if_pos (loadB_t hk c2757)]))
            · refine Op.cast (e' := [(0, .pointer (some ⟨b_t, 0, none⟩)), (1, .slice (some ⟨b2724, o2725, none⟩) list.length n_list), (6, .pointer (some ⟨b2731, 0, none⟩)), (7, .slice (some ⟨b2724, o2725, none⟩) list.length n_list), (8, .int .i64 (list.length : Int)), (9, .int .i64 i), (31, .bool false)]) (by rw [hb]) ?_
              have c2759 : ¬ ((ordW x2744 x2722) ≥ (0 : Int)) := of_decide_eq_false hb
              clear hb
              refine Op.pures 2 [0, 1, 7, 8, 9, 31, 32, 33] (L' := [(20, false), (21, false), (22, true), (23, true)]) (e' := [(0, .pointer (some ⟨b_t, 0, none⟩)), (1, .slice (some ⟨b2724, o2725, none⟩) list.length n_list), (7, .slice (some ⟨b2724, o2725, none⟩) list.length n_list), (8, .int .i64 (list.length : Int)), (9, .int .i64 i), (31, .bool false), (32, .slice (some ⟨b2724, o2725, none⟩) list.length n_list), (33, .pointer (some ⟨b2731, 0, none⟩))]) (by kernel_rfl) ?_
              refine Op.load (T := 3) (x := (.tmp 33)) (o := 0) (d := 34) (n := 1) (v := .int .i64 x2722.Client) (by kernel_rfl) (by kernel_rfl) (by kernel_rfl) (s2754.chunk 0 rfl) (by kernel_rfl) ?_
              refine Op.call0 (dst := some 35) (f := 50) (args := #[.slice (some ⟨b2724, o2725, none⟩) list.length n_list, .int .i64 x2722.Client]) (by kernel_rfl) s2754 (countW _ _ _ s2754.sub hG _ _ h_list x2722.Client (by ((try dsimp only) <;> (first | omega | exact hw _ (List.mem_of_getElem? hx2723)))) ) ?_
              rintro _ g2762 _ h2760 hle2763 s2761 ⟨rfl, hgg, rfl⟩; subst g2762; clear hle2763
              refine Op.pures 2 [0, 1, 7, 8, 9, 37] (L' := []) (e' := [(0, .pointer (some ⟨b_t, 0, none⟩)), (1, .slice (some ⟨b2724, o2725, none⟩) list.length n_list), (7, .slice (some ⟨b2724, o2725, none⟩) list.length n_list), (8, .int .i64 (list.length : Int)), (9, .int .i64 i), (37, .bool (decide ((cnt x2722.Client list : Int) > (8 : Int))))]) (by kernel_rfl) ?_
              refine Op.goto 6 (by kernel_rfl) ?_
              refine At.cond (b := decide ((cnt x2722.Client list : Int) > (8 : Int))) (c := .tmp 37) (by kernel_rfl) (by kernel_rfl) (by kernel_rfl) 7 9 (by kernel_rfl) (by kernel_rfl) (fun hb => ?_) (fun hb => ?_)
              · have c2764 : (cnt x2722.Client list : Int) > (8 : Int) := of_decide_eq_true hb
                clear hb
                refine At.keep [] ?_; show At _ _ _ [] _
                refine At.reg (L := [(0, false)]) (by kernel_rfl) ?_
                refine Op.pures 1 [4] (L' := []) (e' := [(4, .bool false)]) (by kernel_rfl) ?_
                refine Op.goto 8 (by kernel_rfl) ?_
                refine At.ret (f := Tryd.f31) (v := .bool false) (by kernel_rfl) (by kernel_rfl) ?_
                have s2765 : St h g (ids [c_t]) g [c_t] h2760 := (s2761).drop
                refine hR _ _ _ _ s2765 ⟨c_t, ?_, ?_, rfl, rfl⟩
                · exact (eqB (by first | exact (loadB_f h0 hx2723 (stepB_1 hx2723 (by assumption))).symm | exact (loadB_f h0 hx2723 (stepB_2 (by omega) hx2723 hx2745 (ord_ge (by assumption)))).symm | exact (loadB_f h0 hx2723 (stepB_3 hx2723 (by omega))).symm | exact (loadB_t hk c2764).symm | (unfold loadL; rw [if_neg (Bool.eq_false_iff.1 (loadB_f h0 hx2723 (stepB_1 hx2723 (by assumption))))]) | (unfold loadL; rw [if_neg (Bool.eq_false_iff.1 (loadB_f h0 hx2723 (stepB_2 (by omega) hx2723 hx2745 (ord_ge (by assumption)))))]) | (unfold loadL; rw [if_neg (Bool.eq_false_iff.1 (loadB_f h0 hx2723 (stepB_3 hx2723 (by omega))))]) | (unfold loadL; rw [if_pos (loadB_t hk c2764)])))
                · exact o_t.eq (by first | exact (loadB_f h0 hx2723 (stepB_1 hx2723 (by assumption))).symm | exact (loadB_f h0 hx2723 (stepB_2 (by omega) hx2723 hx2745 (ord_ge (by assumption)))).symm | exact (loadB_f h0 hx2723 (stepB_3 hx2723 (by omega))).symm | exact (loadB_t hk c2764).symm | (unfold loadL; rw [if_neg (Bool.eq_false_iff.1 (loadB_f h0 hx2723 (stepB_1 hx2723 (by assumption))))]) | (unfold loadL; rw [if_neg (Bool.eq_false_iff.1 (loadB_f h0 hx2723 (stepB_2 (by omega) hx2723 hx2745 (ord_ge (by assumption)))))]) | (unfold loadL; rw [if_neg (Bool.eq_false_iff.1 (loadB_f h0 hx2723 (stepB_3 hx2723 (by omega))))]) | (unfold loadL; rw [if_pos (loadB_t hk c2764)]))
              · have c2766 : ¬ ((cnt x2722.Client list : Int) > (8 : Int)) := of_decide_eq_false hb
                clear hb
                refine At.keep [0, 1, 7, 8, 9] ?_; show At _ _ _ [(0, .pointer (some ⟨b_t, 0, none⟩)), (1, .slice (some ⟨b2724, o2725, none⟩) list.length n_list), (7, .slice (some ⟨b2724, o2725, none⟩) list.length n_list), (8, .int .i64 (list.length : Int)), (9, .int .i64 i)] _
                refine At.reg (L := [(0, false), (1, false)]) (by kernel_rfl) ?_
                refine Op.val (dst := some 38) (v := .int .i64 (IntKind.wrap .i64 (i + 1))) (v' := .int .i64 (i + 1)) (by kernel_rfl) (wrapEq_i64 (by first | omega | exact hw _ (List.mem_of_getElem? hx2723)) (by first | omega | exact hw _ (List.mem_of_getElem? hx2723))) ?_
                refine Op.pures 1 [0, 1, 7, 8, 9] (L' := []) (e' := [(0, .pointer (some ⟨b_t, 0, none⟩)), (1, .slice (some ⟨b2724, o2725, none⟩) list.length n_list), (7, .slice (some ⟨b2724, o2725, none⟩) list.length n_list), (8, .int .i64 (list.length : Int)), (9, .int .i64 (i + 1))]) (by kernel_rfl) ?_
                refine Op.goto 2 (by kernel_rfl) ?_
                have s2767 : St h g (ids [c_t]) g [c_t] h2760 := (s2761).drop
                exact ih2  (i + 1) _ (by omega) (by first | omega | exact hw _ (List.mem_of_getElem? hx2723)) (by first | omega | exact hw _ (List.mem_of_getElem? hx2723)) (by first | exact okTo11_step hk h0 (stepB_t0 hx2723 (by assumption) (by omega) (by omega)) | exact okTo11_step hk h0 (stepB_t1 hx2723 (by assumption) (by omega) hx2745 (ord_lt (by assumption)) (by omega)))  s2767
          · refine Op.cast (e' := [(0, .pointer (some ⟨b_t, 0, none⟩)), (1, .slice (some ⟨b2724, o2725, none⟩) list.length n_list), (5, .int .i64 i), (6, .pointer (some ⟨b2731, 0, none⟩)), (7, .slice (some ⟨b2724, o2725, none⟩) list.length n_list), (8, .int .i64 (list.length : Int)), (9, .int .i64 i), (17, .bool false), (20, .bool false)]) (by rw [hb]) ?_
            have c2768 : ¬ (i > (0 : Int)) := of_decide_eq_false hb
            clear hb
            refine Op.pures 13 [0, 1, 7, 8, 9, 31, 32, 33] (L' := [(20, false), (21, false), (22, true), (23, true)]) (e' := [(0, .pointer (some ⟨b_t, 0, none⟩)), (1, .slice (some ⟨b2724, o2725, none⟩) list.length n_list), (7, .slice (some ⟨b2724, o2725, none⟩) list.length n_list), (8, .int .i64 (list.length : Int)), (9, .int .i64 i), (31, .bool false), (32, .slice (some ⟨b2724, o2725, none⟩) list.length n_list), (33, .pointer (some ⟨b2731, 0, none⟩))]) (by kernel_rfl) ?_
            refine Op.load (T := 3) (x := (.tmp 33)) (o := 0) (d := 34) (n := 1) (v := .int .i64 x2722.Client) (by kernel_rfl) (by kernel_rfl) (by kernel_rfl) (s2737.chunk 0 rfl) (by kernel_rfl) ?_
            refine Op.call0 (dst := some 35) (f := 50) (args := #[.slice (some ⟨b2724, o2725, none⟩) list.length n_list, .int .i64 x2722.Client]) (by kernel_rfl) s2737 (countW _ _ _ s2737.sub hG _ _ h_list x2722.Client (by ((try dsimp only) <;> (first | omega | exact hw _ (List.mem_of_getElem? hx2723)))) ) ?_
            rintro _ g2771 _ h2769 hle2772 s2770 ⟨rfl, hgg, rfl⟩; subst g2771; clear hle2772
            refine Op.pures 2 [0, 1, 7, 8, 9, 37] (L' := []) (e' := [(0, .pointer (some ⟨b_t, 0, none⟩)), (1, .slice (some ⟨b2724, o2725, none⟩) list.length n_list), (7, .slice (some ⟨b2724, o2725, none⟩) list.length n_list), (8, .int .i64 (list.length : Int)), (9, .int .i64 i), (37, .bool (decide ((cnt x2722.Client list : Int) > (8 : Int))))]) (by kernel_rfl) ?_
            refine Op.goto 6 (by kernel_rfl) ?_
            refine At.cond (b := decide ((cnt x2722.Client list : Int) > (8 : Int))) (c := .tmp 37) (by kernel_rfl) (by kernel_rfl) (by kernel_rfl) 7 9 (by kernel_rfl) (by kernel_rfl) (fun hb => ?_) (fun hb => ?_)
            · have c2773 : (cnt x2722.Client list : Int) > (8 : Int) := of_decide_eq_true hb
              clear hb
              refine At.keep [] ?_; show At _ _ _ [] _
              refine At.reg (L := [(0, false)]) (by kernel_rfl) ?_
              refine Op.pures 1 [4] (L' := []) (e' := [(4, .bool false)]) (by kernel_rfl) ?_
              refine Op.goto 8 (by kernel_rfl) ?_
              refine At.ret (f := Tryd.f31) (v := .bool false) (by kernel_rfl) (by kernel_rfl) ?_
              have s2774 : St h g (ids [c_t]) g [c_t] h2769 := (s2770).drop
              refine hR _ _ _ _ s2774 ⟨c_t, ?_, ?_, rfl, rfl⟩
              · exact (eqB (by first | exact (loadB_f h0 hx2723 (stepB_1 hx2723 (by assumption))).symm | exact (loadB_f h0 hx2723 (stepB_2 (by omega) hx2723 {hx1} (ord_ge (by assumption)))).symm | exact (loadB_f h0 hx2723 (stepB_3 hx2723 (by omega))).symm | exact (loadB_t hk c2773).symm | (unfold loadL; rw [if_neg (Bool.eq_false_iff.1 (loadB_f h0 hx2723 (stepB_1 hx2723 (by assumption))))]) | (unfold loadL; rw [if_neg (Bool.eq_false_iff.1 (loadB_f h0 hx2723 (stepB_2 (by omega) hx2723 {hx1} (ord_ge (by assumption)))))]) | (unfold loadL; rw [if_neg (Bool.eq_false_iff.1 (loadB_f h0 hx2723 (stepB_3 hx2723 (by omega))))]) | (unfold loadL; rw [if_pos (loadB_t hk c2773)])))
              · exact o_t.eq (by first | exact (loadB_f h0 hx2723 (stepB_1 hx2723 (by assumption))).symm | exact (loadB_f h0 hx2723 (stepB_2 (by omega) hx2723 {hx1} (ord_ge (by assumption)))).symm | exact (loadB_f h0 hx2723 (stepB_3 hx2723 (by omega))).symm | exact (loadB_t hk c2773).symm | (unfold loadL; rw [if_neg (Bool.eq_false_iff.1 (loadB_f h0 hx2723 (stepB_1 hx2723 (by assumption))))]) | (unfold loadL; rw [if_neg (Bool.eq_false_iff.1 (loadB_f h0 hx2723 (stepB_2 (by omega) hx2723 {hx1} (ord_ge (by assumption)))))]) | (unfold loadL; rw [if_neg (Bool.eq_false_iff.1 (loadB_f h0 hx2723 (stepB_3 hx2723 (by omega))))]) | (unfold loadL; rw [if_pos (loadB_t hk c2773)]))
            · have c2775 : ¬ ((cnt x2722.Client list : Int) > (8 : Int)) := of_decide_eq_false hb
              clear hb
              refine At.keep [0, 1, 7, 8, 9] ?_; show At _ _ _ [(0, .pointer (some ⟨b_t, 0, none⟩)), (1, .slice (some ⟨b2724, o2725, none⟩) list.length n_list), (7, .slice (some ⟨b2724, o2725, none⟩) list.length n_list), (8, .int .i64 (list.length : Int)), (9, .int .i64 i)] _
              refine At.reg (L := [(0, false), (1, false)]) (by kernel_rfl) ?_
              refine Op.val (dst := some 38) (v := .int .i64 (IntKind.wrap .i64 (i + 1))) (v' := .int .i64 (i + 1)) (by kernel_rfl) (wrapEq_i64 (by first | omega | exact hw _ (List.mem_of_getElem? hx2723)) (by first | omega | exact hw _ (List.mem_of_getElem? hx2723))) ?_
              refine Op.pures 1 [0, 1, 7, 8, 9] (L' := []) (e' := [(0, .pointer (some ⟨b_t, 0, none⟩)), (1, .slice (some ⟨b2724, o2725, none⟩) list.length n_list), (7, .slice (some ⟨b2724, o2725, none⟩) list.length n_list), (8, .int .i64 (list.length : Int)), (9, .int .i64 (i + 1))]) (by kernel_rfl) ?_
              refine Op.goto 2 (by kernel_rfl) ?_
              have s2776 : St h g (ids [c_t]) g [c_t] h2769 := (s2770).drop
              exact ih2  (i + 1) _ (by omega) (by first | omega | exact hw _ (List.mem_of_getElem? hx2723)) (by first | omega | exact hw _ (List.mem_of_getElem? hx2723)) (by first | exact okTo11_step hk h0 (stepB_t0 hx2723 (by assumption) (by omega) (by omega)) | exact okTo11_step hk h0 (stepB_t1 hx2723 (by assumption) (by omega) {hx1} (ord_lt (by assumption)) (by omega)))  s2776
      · have c2777 : ¬ (i < (list.length : Int)) := of_decide_eq_false hb
        clear hb
        refine At.keep [0, 1] ?_; show At _ _ _ [(0, .pointer (some ⟨b_t, 0, none⟩)), (1, .slice a_list list.length n_list)] _
        refine At.reg (L := [(0, false), (1, false), (2, false), (3, false), (4, false), (5, false)]) (by kernel_rfl) ?_
        refine Op.pures 2 [39, 40] (L' := [(2, false), (3, false), (4, false), (5, false)]) (e' := [(39, .pointer (some ⟨b_t, 0, none⟩)), (40, .slice a_list list.length n_list)]) (by kernel_rfl) ?_
        refine Op.call0 (dst := some 41) (f := 52) (args := #[.slice a_list list.length n_list]) (by kernel_rfl) s_loop22719 (cloneW _ _ _ s_loop22719.sub hG _ _ h_list (by ((try dsimp only) <;> (first | omega | exact hw _ (List.mem_of_getElem? {hx0})))) ) ?_
        rintro _ g2785 _ h2778 hle2786 s2779 ⟨v2780, ch2781, rfl, R2782, hgg, rfl⟩; subst g2785; clear hle2786
        obtain ⟨a2783, n2784, rfl⟩ := R2782.form
        refine Op.pures 2 [41, 43] (L' := [(5, false)]) (e' := [(41, .slice a2783 ((list).length) n2784), (43, .pointer (some ⟨b_t, 0, none⟩))]) (by kernel_rfl) ?_
        obtain ⟨v2787, c2788, e2789, R2790⟩ := o_t
        obtain ⟨a2791, n2792, rfl⟩ := R2790.form
        have s2793 : St h g (ids [c_t]) g [c_t, ch2781] h2778 := ((s2779.front 0 rfl).front 1 rfl)
        have s2794 : St h g (ids [c_t]) g [[(b_t, Obj.cells #[.slice a2791 t.length n2792] 73 (0, 0))], c2788, ch2781] h2778 := St.flat (L := [c_t, ch2781]) (by rw [e2789]; simp only [List.flatten_cons, List.append_assoc, List.cons_append, List.nil_append, List.append_nil]) s2793
        refine Op.store (T := 22) (x := (.tmp 43)) (y := (.tmp 41)) (b := b_t) (o := 0) (vs := [.slice a2783 ((list).length) n2784]) (a? := false) (n := 1) (by kernel_rfl) (by kernel_rfl) (by kernel_rfl) (by kernel_rfl) rfl (by simp [Value.oneCell']) s2794 0 rfl (Nat.le_of_ble_eq_true (by kernel_rfl)) (cs := #[.slice a2791 t.length n2792]) (cs' := #[.slice a2783 ((list).length) n2784]) (by kernel_rfl) (fun _ => trivial) ?_
        intro h2795 s2796
        refine Op.goto 11 (by kernel_rfl) ?_
        refine At.reg (L := [(0, false)]) (by kernel_rfl) ?_
        refine Op.pures 1 [4] (L' := []) (e' := [(4, .bool true)]) (by kernel_rfl) ?_
        refine Op.goto 12 (by kernel_rfl) ?_
        have s2797 : St h g (ids [c_t]) g [[(b_t, Obj.cells #[.slice a2783 ((list).length) n2784] 73 (0, 0))], ch2781, c2788] h2795 := (((s2796.front 1 rfl).front 2 rfl).front 2 rfl)
        obtain ⟨c2798, o2799, s2800⟩ : ∃ c, IsTab g b_t list c ∧ St h g (ids [c_t]) g (c :: [c2788]) h2795 := ⟨_, ⟨_, _, rfl, R2782⟩, St.flat (L := [[(b_t, Obj.cells #[.slice a2783 ((list).length) n2784] 73 (0, 0))], ch2781, c2788]) (by simp only [List.flatten_cons, List.append_assoc, List.cons_append, List.nil_append, List.append_nil]) s2797⟩
        refine At.ret (f := Tryd.f31) (v := .bool true) (by kernel_rfl) (by kernel_rfl) ?_
        have s2801 : St h g (ids [c_t]) g [c2788, c2798] h2795 := ((s2800.front 0 rfl).front 1 rfl)
        have s2802 : St h g (ids [c_t]) g [c2798] h2795 := (s2801).drop
        refine hR _ _ _ _ s2802 ⟨c2798, ?_, ?_, rfl, rfl⟩
        · exact (eqB (by first | exact (loadB_f h0 {hx0} (stepB_1 {hx0} (by assumption))).symm | exact (loadB_f h0 {hx0} (stepB_2 (by omega) {hx0} {hx1} (ord_ge (by assumption)))).symm | exact (loadB_f h0 {hx0} (stepB_3 {hx0} (by omega))).symm | exact (loadB_t hk c2777).symm | (unfold loadL; rw [if_neg (Bool.eq_false_iff.1 (loadB_f h0 {hx0} (stepB_1 {hx0} (by assumption))))]) | (unfold loadL; rw [if_neg (Bool.eq_false_iff.1 (loadB_f h0 {hx0} (stepB_2 (by omega) {hx0} {hx1} (ord_ge (by assumption)))))]) | (unfold loadL; rw [if_neg (Bool.eq_false_iff.1 (loadB_f h0 {hx0} (stepB_3 {hx0} (by omega))))]) | (unfold loadL; rw [if_pos (loadB_t hk c2777)])))
        · exact o2799.eq (by first | exact (loadB_f h0 {hx0} (stepB_1 {hx0} (by assumption))).symm | exact (loadB_f h0 {hx0} (stepB_2 (by omega) {hx0} {hx1} (ord_ge (by assumption)))).symm | exact (loadB_f h0 {hx0} (stepB_3 {hx0} (by omega))).symm | exact (loadB_t hk c2777).symm | (unfold loadL; rw [if_neg (Bool.eq_false_iff.1 (loadB_f h0 {hx0} (stepB_1 {hx0} (by assumption))))]) | (unfold loadL; rw [if_neg (Bool.eq_false_iff.1 (loadB_f h0 {hx0} (stepB_2 (by omega) {hx0} {hx1} (ord_ge (by assumption)))))]) | (unfold loadL; rw [if_neg (Bool.eq_false_iff.1 (loadB_f h0 {hx0} (stepB_3 {hx0} (by omega))))]) | (unfold loadL; rw [if_pos (loadB_t hk c2777)]))
  exact loop2 _  0 _ (Nat.lt_succ_self _) (by first | omega | exact hw _ (List.mem_of_getElem? {hx0})) (by first | omega | exact hw _ (List.mem_of_getElem? {hx0})) (by exact okTo11_0 _)  hs

end Go.Proofs.YtphonojjgnbpfaaDoor.Sw
