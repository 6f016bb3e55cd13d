/- Walks of the functions that are named below: what each computes, as plain Lean words. Printed by a program of our own. -/
import Derived.Test.YtphonojjgnbpfaaDoorSwWatch4
import Derived.Test.YtphonojjgnbpfaaDoorSwWatchS
namespace Go.Proofs.YtphonojjgnbpfaaDoor.Sw
open Go
set_option maxRecDepth 100000
set_option linter.unusedVariables false
set_option linter.unusedSimpArgs false
set_option linter.deprecated false


/-- stanchion/stanchionlaw11.WatchOrder -/
theorem lawOrder11 (B : World) (h : Heap) (g : GH) (hg : Sub g h) (hG : Glob g) (v_list : Value) (list : List Watch) (h_list : SlR g 27 kWatch v_list list) (h1 : list.length ≤ 2000000) (hb : ∀ w ∈ list, w.Path.length ≤ 2000000) :
    Spec Tryd.prog B 3 #[v_list] h g [] (fun rv g' L' => rv = .bool true ∧ g' = g ∧ L' = []) := by
  obtain ⟨a_list, n_list, rfl⟩ := h_list.form
  refine Spec.of_at (f := Tryd.f3) (e := [(0, .slice a_list list.length n_list)]) Tryd.func3 (by kernel_rfl) (Nat.le_of_ble_eq_true (by kernel_rfl)) (by kernel_rfl) (by kernel_rfl) ?_
  intro R hR
  have s0 := St.init hg
  refine At.reg (L := [(0, false)]) (by kernel_rfl) ?_
  refine Op.pures 1 [0] (L' := []) (e' := [(0, .slice a_list list.length n_list)]) (by kernel_rfl) ?_
  refine Op.goto 1 (by kernel_rfl) ?_
  refine At.reg (L := [(0, false), (1, false)]) (by kernel_rfl) ?_
  refine Op.call0 (dst := some 6) (f := 14) (args := #[]) (by kernel_rfl) s0 (alive11 _ _ _ s0.sub hG   ) ?_
  rintro _ g3472 _ h3470 hle3473 s3471 ⟨rfl, hgg, rfl⟩; subst g3472; clear hle3473
  refine Op.pures 1 [0, 7] (L' := []) (e' := [(0, .slice a_list list.length n_list), (7, .bool false)]) (by kernel_rfl) ?_
  refine Op.goto 2 (by kernel_rfl) ?_
  refine At.condF (c := .tmp 7) (by kernel_rfl) (by kernel_rfl) (by kernel_rfl) 5 (by kernel_rfl) ?_
  refine At.reg (L := [(0, false), (1, false), (2, false)]) (by kernel_rfl) ?_
  refine Op.pures 3 [0, 10] (L' := []) (e' := [(0, .slice a_list list.length n_list), (10, .bool (decide ((list.length : Int) > (8 : Int))))]) (by kernel_rfl) ?_
  refine Op.goto 6 (by kernel_rfl) ?_
  refine At.cond (b := decide ((list.length : Int) > (8 : Int))) (c := .tmp 10) (by kernel_rfl) (by kernel_rfl) (by kernel_rfl) 7 9 (by kernel_rfl) (by kernel_rfl) (fun hb => ?_) (fun hb => ?_)
  · have c3474 : (list.length : Int) > (8 : Int) := of_decide_eq_true hb
    clear hb
    refine At.keep [] ?_; show At _ _ _ [] _
    refine At.reg (L := [(0, false)]) (by kernel_rfl) ?_
    refine Op.pures 1 [2] (L' := []) (e' := [(2, .bool true)]) (by kernel_rfl) ?_
    refine Op.goto 8 (by kernel_rfl) ?_
    refine At.ret (f := Tryd.f3) (v := .bool true) (by kernel_rfl) (by kernel_rfl) ?_
    refine hR _ _ _ _ s3471 ⟨?_, rfl, rfl⟩
    exact (eqB (by first | rfl | contradiction | exact decide_eq_true (OrdI_end hO (by assumption))))
  · have c3475 : ¬ ((list.length : Int) > (8 : Int)) := of_decide_eq_false hb
    clear hb
    refine At.keep [0] ?_; show At _ _ _ [(0, .slice a_list list.length n_list)] _
    refine At.reg (L := [(0, false), (1, false)]) (by kernel_rfl) ?_
    refine Op.call0 (dst := some 11) (f := 15) (args := #[]) (by kernel_rfl) s3471 (newT _ _ _ s3471.sub hG   ) ?_
    rintro _ g3481 _ h3476 hle3482 s3477 ⟨b3478, c3479, rfl, o3480, hgg, rfl⟩; subst g3481; clear hle3482
    refine Op.pures 1 [0, 3] (L' := []) (e' := [(0, .slice a_list list.length n_list), (3, .pointer (some ⟨b3478, 0, none⟩))]) (by kernel_rfl) ?_
    refine Op.goto 10 (by kernel_rfl) ?_
    refine At.reg (L := [(0, false), (1, false)]) (by kernel_rfl) ?_
    refine Op.call0 (dst := some 12) (f := 15) (args := #[]) (by kernel_rfl) s3477 (newT _ _ _ s3477.sub hG   ) ?_
    rintro _ g3488 _ h3483 hle3489 s3484 ⟨b3485, c3486, rfl, o3487, hgg, rfl⟩; subst g3488; clear hle3489
    refine Op.pures 1 [0, 3, 4] (L' := []) (e' := [(0, .slice a_list list.length n_list), (3, .pointer (some ⟨b3478, 0, none⟩)), (4, .pointer (some ⟨b3485, 0, none⟩))]) (by kernel_rfl) ?_
    refine Op.goto 11 (by kernel_rfl) ?_
    refine At.reg (L := [(0, false), (1, false), (2, false), (3, false), (4, false), (5, false)]) (by kernel_rfl) ?_
    refine Op.pures 6 [0, 3, 4, 18] (L' := []) (e' := [(0, .slice a_list list.length n_list), (3, .pointer (some ⟨b3478, 0, none⟩)), (4, .pointer (some ⟨b3485, 0, none⟩)), (18, .bool false)]) (by kernel_rfl) ?_
    refine Op.goto 12 (by kernel_rfl) ?_
    refine At.condF (c := .tmp 18) (by kernel_rfl) (by kernel_rfl) (by kernel_rfl) 15 (by kernel_rfl) ?_
    refine At.reg (L := [(0, false)]) (by kernel_rfl) ?_
    refine Op.pures 1 [0, 3, 4, 5] (L' := []) (e' := [(0, .slice a_list list.length n_list), (3, .pointer (some ⟨b3478, 0, none⟩)), (4, .pointer (some ⟨b3485, 0, none⟩)), (5, .int .i64 0)]) (by kernel_rfl) ?_
    refine Op.goto 16 (by kernel_rfl) ?_
    have loop16 : ∀ (m : Nat) (tl : List Watch) (ul : List Watch) (i : Int) (c3490 : Chunk) (c3492 : Chunk) (h3494 : Heap) (hm : list.length - i.toNat < m) (h0 : 0 ≤ i) (h3 : i ≤ list.length) (hO : OrdI list tl ul i)  (o3491 : IsTab g b3478 tl c3490) (o3493 : IsTab g b3485 ul c3492)  (s_loop163493 : St h g (ids []) g [c3492, c3490] h3494), At (fctx Tryd.prog B 3 Tryd.f3 R) [] 16 [(0, .slice a_list list.length n_list), (3, .pointer (some ⟨b3478, 0, none⟩)), (4, .pointer (some ⟨b3485, 0, none⟩)), (5, .int .i64 i)] h3494 := by
      intro m; induction m with
      | zero => intros; omega
      | succ m ih16 =>
        intro tl ul i c3490 c3492 h3494 hm h0 h3 hO o3491 o3493 s_loop163493
        refine At.reg (L := [(0, false), (1, false), (2, false), (3, false)]) (by kernel_rfl) ?_
        refine Op.pures 4 [0, 3, 4, 5, 22] (L' := []) (e' := [(0, .slice a_list list.length n_list), (3, .pointer (some ⟨b3478, 0, none⟩)), (4, .pointer (some ⟨b3485, 0, none⟩)), (5, .int .i64 i), (22, .bool (decide (i < (list.length : Int))))]) (by kernel_rfl) ?_
        refine Op.goto 17 (by kernel_rfl) ?_
        refine At.cond (b := decide (i < (list.length : Int))) (c := .tmp 22) (by kernel_rfl) (by kernel_rfl) (by kernel_rfl) 18 25 (by kernel_rfl) (by kernel_rfl) (fun hb => ?_) (fun hb => ?_)
        · have c3495 : i < (list.length : Int) := of_decide_eq_true hb
          clear hb
          refine At.keep [0, 3, 4, 5] ?_; show At _ _ _ [(0, .slice a_list list.length n_list), (3, .pointer (some ⟨b3478, 0, none⟩)), (4, .pointer (some ⟨b3485, 0, none⟩)), (5, .int .i64 i)] _
          refine At.reg (L := [(0, false), (1, false), (2, false), (3, false), (4, false), (5, false), (6, false)]) (by kernel_rfl) ?_
          refine Op.pures 2 [0, 3, 4, 5, 25, 26] (L' := [(2, false), (3, false), (4, false), (5, false), (6, false)]) (e' := [(0, .slice a_list list.length n_list), (3, .pointer (some ⟨b3478, 0, none⟩)), (4, .pointer (some ⟨b3485, 0, none⟩)), (5, .int .i64 i), (25, .slice a_list list.length n_list), (26, .int .i64 i)]) (by kernel_rfl) ?_
          obtain ⟨x3496, hx3497⟩ : ∃ c, list[(i : Int).toNat]? = some c := ⟨_, List.getElem?_eq_getElem (by first | omega | exact hO.t.sort | exact hO.u.sort | (have a1 := hO.t.len; have a2 := hO.u.len; omega) | (have a3 := hb _ (List.mem_of_getElem? {hx0}); omega) | (have a4 := hb _ (List.mem_of_getElem? {hx1}); omega) | assumption)⟩
          obtain ⟨b3498, o3499, cu3500, fz3501, ha3502, hb3503, hk3504⟩ := SlR.at_ h_list _ hx3497
          cases ha3502
          refine Op.idx (T := 22) (E := 27) (sz := 3) (by_ := 32) (n := list.length) (c := n_list) (k := .i64) (x := (.tmp 25)) (ix := (.tmp 26)) (dst := 27) (bk := b3498) (o := o3499) (m := i) (by kernel_rfl) (by kernel_rfl) (by kernel_rfl) (by kernel_rfl) (by first | omega | exact hO.t.sort | exact hO.u.sort | (have a1 := hO.t.len; have a2 := hO.u.len; omega) | (have a3 := hb _ (List.mem_of_getElem? {hx0}); omega) | (have a4 := hb _ (List.mem_of_getElem? {hx1}); omega) | assumption) (by first | omega | exact hO.t.sort | exact hO.u.sort | (have a1 := hO.t.len; have a2 := hO.u.len; omega) | (have a3 := hb _ (List.mem_of_getElem? {hx0}); omega) | (have a4 := hb _ (List.mem_of_getElem? {hx1}); omega) | assumption) ?_
          replace hk3504 : cut _ _ _ = [.int .i64 x3496.Client, .int .i64 x3496.Kind, .string (mkS x3496.Path)] := hk3504
          refine Op.pures 1 [0, 3, 4, 5, 28] (L' := [(4, false), (5, false), (6, false)]) (e' := [(0, .slice (some ⟨b3498, o3499, none⟩) list.length n_list), (3, .pointer (some ⟨b3478, 0, none⟩)), (4, .pointer (some ⟨b3485, 0, none⟩)), (5, .int .i64 i), (28, .pointer (some ⟨b3498, o3499 + (i : Int).toNat * 3 + 2, none⟩))]) (by kernel_rfl) ?_
          refine Op.load (T := 9) (x := (.tmp 28)) (o := o3499 + (i : Int).toNat * 3 + 2) (d := 29) (n := 1) (v := .string (mkS x3496.Path)) (by kernel_rfl) (by kernel_rfl) (by kernel_rfl) (s_loop163493.sub _ _ hb3503) (cut_get hk3504 2 rfl) ?_
          refine Op.pures 2 [0, 3, 4, 5, 31] (L' := []) (e' := [(0, .slice (some ⟨b3498, o3499, none⟩) list.length n_list), (3, .pointer (some ⟨b3478, 0, none⟩)), (4, .pointer (some ⟨b3485, 0, none⟩)), (5, .int .i64 i), (31, .bool (decide ((x3496.Path.length : Int) > (1000 : Int))))]) (by kernel_rfl) ?_
          refine Op.goto 19 (by kernel_rfl) ?_
          refine At.cond (b := decide ((x3496.Path.length : Int) > (1000 : Int))) (c := .tmp 31) (by kernel_rfl) (by kernel_rfl) (by kernel_rfl) 20 22 (by kernel_rfl) (by kernel_rfl) (fun hb => ?_) (fun hb => ?_)
          · have c3505 : (x3496.Path.length : Int) > (1000 : Int) := of_decide_eq_true hb
            clear hb
            refine At.keep [] ?_; show At _ _ _ [] _
            refine At.reg (L := [(0, false)]) (by kernel_rfl) ?_
            refine Op.pures 1 [2] (L' := []) (e' := [(2, .bool true)]) (by kernel_rfl) ?_
            refine Op.goto 21 (by kernel_rfl) ?_
            refine At.ret (f := Tryd.f3) (v := .bool true) (by kernel_rfl) (by kernel_rfl) ?_
            have s3506 : St h g (ids []) g [] h3494 := (s_loop163493).drop.drop
            refine hR _ _ _ _ s3506 ⟨?_, rfl, rfl⟩
            exact (eqB (by first | rfl | contradiction | exact decide_eq_true (OrdI_end hO (by assumption))))
          · have c3507 : ¬ ((x3496.Path.length : Int) > (1000 : Int)) := of_decide_eq_false hb
            clear hb
            refine At.keep [0, 3, 4, 5] ?_; show At _ _ _ [(0, .slice (some ⟨b3498, o3499, none⟩) list.length n_list), (3, .pointer (some ⟨b3478, 0, none⟩)), (4, .pointer (some ⟨b3485, 0, none⟩)), (5, .int .i64 i)] _
            refine At.reg (L := [(0, false), (1, false), (2, false), (3, false), (4, false), (5, false)]) (by kernel_rfl) ?_
            refine Op.pures 3 [0, 3, 4, 5, 32, 33, 34] (L' := [(3, false), (4, false), (5, false)]) (e' := [(0, .slice (some ⟨b3498, o3499, none⟩) list.length n_list), (3, .pointer (some ⟨b3478, 0, none⟩)), (4, .pointer (some ⟨b3485, 0, none⟩)), (5, .int .i64 i), (32, .pointer (some ⟨b3478, 0, none⟩)), (33, .slice (some ⟨b3498, o3499, none⟩) list.length n_list), (34, .int .i64 i)]) (by kernel_rfl) ?_
            obtain ⟨b3510, o3511, cu3512, fz3513, ha3514, hb3515, hk3516⟩ := SlR.at_ h_list _ hx3497
            cases ha3514
            refine Op.idx (T := 22) (E := 27) (sz := 3) (by_ := 32) (n := list.length) (c := n_list) (k := .i64) (x := (.tmp 33)) (ix := (.tmp 34)) (dst := 35) (bk := b3498) (o := o3499) (m := i) (by kernel_rfl) (by kernel_rfl) (by kernel_rfl) (by kernel_rfl) (by first | omega | exact hO.t.sort | exact hO.u.sort | (have a1 := hO.t.len; have a2 := hO.u.len; omega) | (have a3 := hb _ (List.mem_of_getElem? hx3497); omega) | (have a4 := hb _ (List.mem_of_getElem? {hx1}); omega) | assumption) (by first | omega | exact hO.t.sort | exact hO.u.sort | (have a1 := hO.t.len; have a2 := hO.u.len; omega) | (have a3 := hb _ (List.mem_of_getElem? hx3497); omega) | (have a4 := hb _ (List.mem_of_getElem? {hx1}); omega) | assumption) ?_
            replace hk3516 : cut _ _ _ = [.int .i64 x3496.Client, .int .i64 x3496.Kind, .string (mkS x3496.Path)] := hk3516
            refine Op.loadA (T := 27) (x := (.tmp 35)) (o := o3499 + (i : Int).toNat * 3) (d := 36) (n := 3) (vs := [.int .i64 x3496.Client, .int .i64 x3496.Kind, .string (mkS x3496.Path)]) (by kernel_rfl) (by kernel_rfl) (by kernel_rfl) (s_loop163493.sub _ _ hb3515) (hk3516) rfl ?_
            have s3517 : St h g (ids []) g [c3490, c3492] h3494 := ((s_loop163493.front 0 rfl).front 1 rfl)
            refine Op.call (dst := some 37) (f := 16) (args := #[.pointer (some ⟨b3478, 0, none⟩), .agg #[.int .i64 x3496.Client, .int .i64 x3496.Kind, .string (mkS x3496.Path)]]) (Lc := [c3490]) (L := [c3492]) (by kernel_rfl) s3517 (addT _ _ _ s3517.sub hG b3478 tl _ o3491 x3496 (by ((try dsimp only) <;> (first | omega | exact hO.t.sort | exact hO.u.sort | (have a1 := hO.t.len; have a2 := hO.u.len; omega) | (have a3 := hb _ (List.mem_of_getElem? hx3497); omega) | (have a4 := hb _ (List.mem_of_getElem? {hx1}); omega) | assumption))) (by ((try dsimp only) <;> (first | omega | exact hO.t.sort | exact hO.u.sort | (have a1 := hO.t.len; have a2 := hO.u.len; omega) | (have a3 := hb _ (List.mem_of_getElem? hx3497); omega) | (have a4 := hb _ (List.mem_of_getElem? {hx1}); omega) | assumption))) (by ((try dsimp only) <;> (first | omega | exact hO.t.sort | exact hO.u.sort | (have a1 := hO.t.len; have a2 := hO.u.len; omega) | (have a3 := hb _ (List.mem_of_getElem? hx3497); omega) | (have a4 := hb _ (List.mem_of_getElem? {hx1}); omega) | assumption))) (St.part (Lc := [c3490]) (L := [c3492]) s3517)) (fun _ _ _ => trivial) ?_
            rintro _ g3522 _ h3518 hle3523 s3519 ⟨c3520, rfl, o3521, hgg, rfl⟩; subst g3522; clear hle3523
            refine Op.goto 23 (by kernel_rfl) ?_
            refine At.reg (L := [(0, false), (1, false), (2, false), (3, false), (4, false), (5, false), (6, false), (7, false), (8, false), (9, false)]) (by kernel_rfl) ?_
            refine Op.pures 4 [0, 3, 4, 5, 38, 39, 41] (L' := [(4, false), (5, false), (6, false), (7, false), (8, false), (9, false)]) (e' := [(0, .slice (some ⟨b3498, o3499, none⟩) list.length n_list), (3, .pointer (some ⟨b3478, 0, none⟩)), (4, .pointer (some ⟨b3485, 0, none⟩)), (5, .int .i64 i), (38, .pointer (some ⟨b3485, 0, none⟩)), (39, .slice (some ⟨b3498, o3499, none⟩) list.length n_list), (41, .int .i64 (list.length : Int))]) (by kernel_rfl) ?_
            refine Op.val (dst := some 42) (v := .int .i64 (IntKind.wrap .i64 ((list.length : Int) - 1))) (v' := .int .i64 ((list.length : Int) - 1)) (by kernel_rfl) (wrapEq_i64 (by first | omega | exact hO.t.sort | exact hO.u.sort | (have a1 := hO.t.len; have a2 := hO.u.len; omega) | (have a3 := hb _ (List.mem_of_getElem? hx3497); omega) | (have a4 := hb _ (List.mem_of_getElem? {hx1}); omega) | assumption) (by first | omega | exact hO.t.sort | exact hO.u.sort | (have a1 := hO.t.len; have a2 := hO.u.len; omega) | (have a3 := hb _ (List.mem_of_getElem? hx3497); omega) | (have a4 := hb _ (List.mem_of_getElem? {hx1}); omega) | assumption)) ?_
            refine Op.pures 1 [0, 3, 4, 5, 38, 39, 42, 43] (L' := [(6, false), (7, false), (8, false), (9, false)]) (e' := [(0, .slice (some ⟨b3498, o3499, none⟩) list.length n_list), (3, .pointer (some ⟨b3478, 0, none⟩)), (4, .pointer (some ⟨b3485, 0, none⟩)), (5, .int .i64 i), (38, .pointer (some ⟨b3485, 0, none⟩)), (39, .slice (some ⟨b3498, o3499, none⟩) list.length n_list), (42, .int .i64 ((list.length : Int) - 1)), (43, .int .i64 i)]) (by kernel_rfl) ?_
            refine Op.val (dst := some 44) (v := .int .i64 (IntKind.wrap .i64 (((list.length : Int) - 1) - i))) (v' := .int .i64 (((list.length : Int) - 1) - i)) (by kernel_rfl) (wrapEq_i64 (by first | omega | exact hO.t.sort | exact hO.u.sort | (have a1 := hO.t.len; have a2 := hO.u.len; omega) | (have a3 := hb _ (List.mem_of_getElem? hx3497); omega) | (have a4 := hb _ (List.mem_of_getElem? {hx1}); omega) | assumption) (by first | omega | exact hO.t.sort | exact hO.u.sort | (have a1 := hO.t.len; have a2 := hO.u.len; omega) | (have a3 := hb _ (List.mem_of_getElem? hx3497); omega) | (have a4 := hb _ (List.mem_of_getElem? {hx1}); omega) | assumption)) ?_
            obtain ⟨x3524, hx3525⟩ : ∃ c, list[(((list.length : Int) - 1) - i : Int).toNat]? = some c := ⟨_, List.getElem?_eq_getElem (by first | omega | exact hO.t.sort | exact hO.u.sort | (have a1 := hO.t.len; have a2 := hO.u.len; omega) | (have a3 := hb _ (List.mem_of_getElem? hx3497); omega) | (have a4 := hb _ (List.mem_of_getElem? {hx1}); omega) | assumption)⟩
            obtain ⟨b3526, o3527, cu3528, fz3529, ha3530, hb3531, hk3532⟩ := SlR.at_ h_list _ hx3525
            cases ha3530
            refine Op.idx (T := 22) (E := 27) (sz := 3) (by_ := 32) (n := list.length) (c := n_list) (k := .i64) (x := (.tmp 39)) (ix := (.tmp 44)) (dst := 45) (bk := b3498) (o := o3499) (m := ((list.length : Int) - 1) - i) (by kernel_rfl) (by kernel_rfl) (by kernel_rfl) (by kernel_rfl) (by first | omega | exact hO.t.sort | exact hO.u.sort | (have a1 := hO.t.len; have a2 := hO.u.len; omega) | (have a3 := hb _ (List.mem_of_getElem? hx3497); omega) | (have a4 := hb _ (List.mem_of_getElem? {hx1}); omega) | assumption) (by first | omega | exact hO.t.sort | exact hO.u.sort | (have a1 := hO.t.len; have a2 := hO.u.len; omega) | (have a3 := hb _ (List.mem_of_getElem? hx3497); omega) | (have a4 := hb _ (List.mem_of_getElem? {hx1}); omega) | assumption) ?_
            replace hk3532 : cut _ _ _ = [.int .i64 x3524.Client, .int .i64 x3524.Kind, .string (mkS x3524.Path)] := hk3532
            refine Op.loadA (T := 27) (x := (.tmp 45)) (o := o3499 + (((list.length : Int) - 1) - i : Int).toNat * 3) (d := 46) (n := 3) (vs := [.int .i64 x3524.Client, .int .i64 x3524.Kind, .string (mkS x3524.Path)]) (by kernel_rfl) (by kernel_rfl) (by kernel_rfl) (s3519.sub _ _ hb3531) (hk3532) rfl ?_
            have s3533 : St h g (ids []) g [c3492, c3520] h3518 := ((s3519.front 0 rfl).front 1 rfl)
            refine Op.call (dst := some 47) (f := 16) (args := #[.pointer (some ⟨b3485, 0, none⟩), .agg #[.int .i64 x3524.Client, .int .i64 x3524.Kind, .string (mkS x3524.Path)]]) (Lc := [c3492]) (L := [c3520]) (by kernel_rfl) s3533 (addT _ _ _ s3533.sub hG b3485 ul _ o3493 x3524 (by ((try dsimp only) <;> (first | omega | exact hO.t.sort | exact hO.u.sort | (have a1 := hO.t.len; have a2 := hO.u.len; omega) | (have a3 := hb _ (List.mem_of_getElem? hx3497); omega) | (have a4 := hb _ (List.mem_of_getElem? hx3525); omega) | assumption))) (by ((try dsimp only) <;> (first | omega | exact hO.t.sort | exact hO.u.sort | (have a1 := hO.t.len; have a2 := hO.u.len; omega) | (have a3 := hb _ (List.mem_of_getElem? hx3497); omega) | (have a4 := hb _ (List.mem_of_getElem? hx3525); omega) | assumption))) (by ((try dsimp only) <;> (first | omega | exact hO.t.sort | exact hO.u.sort | (have a1 := hO.t.len; have a2 := hO.u.len; omega) | (have a3 := hb _ (List.mem_of_getElem? hx3497); omega) | (have a4 := hb _ (List.mem_of_getElem? hx3525); omega) | assumption))) (St.part (Lc := [c3492]) (L := [c3520]) s3533)) (fun _ _ _ => trivial) ?_
            rintro _ g3538 _ h3534 hle3539 s3535 ⟨c3536, rfl, o3537, hgg, rfl⟩; subst g3538; clear hle3539
            refine Op.goto 24 (by kernel_rfl) ?_
            refine At.reg (L := [(0, false), (1, false), (2, false)]) (by kernel_rfl) ?_
            refine Op.pures 1 [0, 3, 4, 5, 23] (L' := [(1, false), (2, false)]) (e' := [(0, .slice (some ⟨b3498, o3499, none⟩) list.length n_list), (3, .pointer (some ⟨b3478, 0, none⟩)), (4, .pointer (some ⟨b3485, 0, none⟩)), (5, .int .i64 i), (23, .int .i64 i)]) (by kernel_rfl) ?_
            refine Op.val (dst := some 24) (v := .int .i64 (IntKind.wrap .i64 (i + 1))) (v' := .int .i64 (i + 1)) (by kernel_rfl) (wrapEq_i64 (by first | omega | exact hO.t.sort | exact hO.u.sort | (have a1 := hO.t.len; have a2 := hO.u.len; omega) | (have a3 := hb _ (List.mem_of_getElem? hx3497); omega) | (have a4 := hb _ (List.mem_of_getElem? hx3525); omega) | assumption) (by first | omega | exact hO.t.sort | exact hO.u.sort | (have a1 := hO.t.len; have a2 := hO.u.len; omega) | (have a3 := hb _ (List.mem_of_getElem? hx3497); omega) | (have a4 := hb _ (List.mem_of_getElem? hx3525); omega) | assumption)) ?_
            refine Op.pures 1 [0, 3, 4, 5] (L' := []) (e' := [(0, .slice (some ⟨b3498, o3499, none⟩) list.length n_list), (3, .pointer (some ⟨b3478, 0, none⟩)), (4, .pointer (some ⟨b3485, 0, none⟩)), (5, .int .i64 (i + 1))]) (by kernel_rfl) ?_
            refine Op.goto 16 (by kernel_rfl) ?_
            exact ih16  (addL tl x3496) (addL ul x3524) (i + 1) _ _ _ (by omega) (by first | omega | exact hO.t.sort | exact hO.u.sort | (have a1 := hO.t.len; have a2 := hO.u.len; omega) | (have a3 := hb _ (List.mem_of_getElem? hx3497); omega) | (have a4 := hb _ (List.mem_of_getElem? hx3525); omega) | assumption) (by first | omega | exact hO.t.sort | exact hO.u.sort | (have a1 := hO.t.len; have a2 := hO.u.len; omega) | (have a3 := hb _ (List.mem_of_getElem? hx3497); omega) | (have a4 := hb _ (List.mem_of_getElem? hx3525); omega) | assumption) (by exact OrdI_step hO h0 (by omega) (by omega) hx3497 hx3525) o3521 o3537 s3535
        · have c3540 : ¬ (i < (list.length : Int)) := of_decide_eq_false hb
          clear hb
          refine At.keep [3, 4] ?_; show At _ _ _ [(3, .pointer (some ⟨b3478, 0, none⟩)), (4, .pointer (some ⟨b3485, 0, none⟩))] _
          refine At.reg (L := [(0, false), (1, false), (2, false), (3, false), (4, false), (5, false)]) (by kernel_rfl) ?_
          refine Op.pures 1 [4, 48] (L' := [(1, false), (2, false), (3, false), (4, false), (5, false)]) (e' := [(4, .pointer (some ⟨b3485, 0, none⟩)), (48, .pointer (some ⟨b3478, 0, none⟩))]) (by kernel_rfl) ?_
          have s3541 : St h g (ids []) g [c3490, c3492] h3494 := ((s_loop163493.front 0 rfl).front 1 rfl)
          refine Op.call (dst := some 49) (f := 18) (args := #[.pointer (some ⟨b3478, 0, none⟩)]) (Lc := [c3490]) (L := [c3492]) (by kernel_rfl) s3541 (allT _ _ _ s3541.sub hG b3478 tl _ o3491 (by ((try dsimp only) <;> (first | omega | exact hO.t.sort | exact hO.u.sort | (have a1 := hO.t.len; have a2 := hO.u.len; omega) | (have a3 := hb _ (List.mem_of_getElem? {hx0}); omega) | (have a4 := hb _ (List.mem_of_getElem? {hx1}); omega) | assumption))) (St.part (Lc := [c3490]) (L := [c3492]) s3541)) (fun _ _ _ => trivial) ?_
          rintro _ g3551 _ h3542 hle3552 s3543 ⟨v3544, ch3545, c3549, rfl, R3546, o3550, hgg, rfl⟩; subst g3551; clear hle3552
          obtain ⟨a3547, n3548, rfl⟩ := R3546.form
          refine Op.pures 1 [49, 50] (L' := [(3, false), (4, false), (5, false)]) (e' := [(49, .slice a3547 ((tl).length) n3548), (50, .pointer (some ⟨b3485, 0, none⟩))]) (by kernel_rfl) ?_
          have s3553 : St h g (ids []) g [c3492, c3549, ch3545] h3542 := (((s3543.front 1 rfl).front 1 rfl).front 2 rfl)
          refine Op.call (dst := some 51) (f := 18) (args := #[.pointer (some ⟨b3485, 0, none⟩)]) (Lc := [c3492]) (L := [c3549, ch3545]) (by kernel_rfl) s3553 (allT _ _ _ s3553.sub hG b3485 ul _ o3493 (by ((try dsimp only) <;> (first | omega | exact hO.t.sort | exact hO.u.sort | (have a1 := hO.t.len; have a2 := hO.u.len; omega) | (have a3 := hb _ (List.mem_of_getElem? {hx0}); omega) | (have a4 := hb _ (List.mem_of_getElem? {hx1}); omega) | assumption))) (St.part (Lc := [c3492]) (L := [c3549, ch3545]) s3553)) (fun _ _ _ => trivial) ?_
          rintro _ g3563 _ h3554 hle3564 s3555 ⟨v3556, ch3557, c3561, rfl, R3558, o3562, hgg, rfl⟩; subst g3563; clear hle3564
          obtain ⟨a3559, n3560, rfl⟩ := R3558.form
          have s3565 : St h g (ids []) g [ch3545, ch3557, c3561, c3549] h3554 := ((((s3555.front 2 rfl).front 1 rfl).front 2 rfl).front 3 rfl)
          have s3566 : St h g (ids []) g ((ch3545 ++ ch3557 : Chunk) :: [c3561, c3549]) h3554 := St.flat (by simp only [List.flatten_cons, List.append_assoc, List.cons_append, List.nil_append, List.append_nil]) s3565
          have hl3567 := s3566.frzle
          have hz3568 := R3546.frzIn (c := (ch3545 ++ ch3557 : Chunk)) s3566 (by intro p hp; simp [List.mem_append, hp])
          have hz3569 := R3558.frzIn (c := (ch3545 ++ ch3557 : Chunk)) s3566 (by intro p hp; simp [List.mem_append, hp])
          refine Op.lend (dst := some 52) (f := 17) (args := #[.slice a3547 ((tl).length) n3548, .slice a3559 ((ul).length) n3560]) (cf := (ch3545 ++ ch3557 : Chunk)) (Lc := []) (L := [c3561, c3549]) (by kernel_rfl) s3566 (sameWatches _ _ _ s3566.frzsub (hG.mono hl3567) _ _ hz3568 _ _ hz3569 (by ((try dsimp only) <;> (first | omega | exact hO.t.sort | exact hO.u.sort | (have a1 := hO.t.len; have a2 := hO.u.len; omega) | (have a3 := hb _ (List.mem_of_getElem? {hx0}); omega) | (have a4 := hb _ (List.mem_of_getElem? {hx1}); omega) | assumption))) ) (fun _ _ _ hp => by obtain ⟨_, hgg, _⟩ := hp; exact hgg) (fun _ _ h => absurd h (ids_nil _)) ?_
          rintro _ _ h3570 s3571 ⟨rfl, hgg, rfl⟩; clear hgg
          have s3574 : St h g (ids []) g [ch3545, ch3557, c3561, c3549] h3570 := St.flat (by simp only [List.flatten_cons, List.append_assoc, List.cons_append, List.nil_append, List.append_nil]) s3571
          refine Op.pures 1 [2] (L' := []) (e' := [(2, .bool (decide (tl = ul)))]) (by kernel_rfl) ?_
          refine Op.goto 26 (by kernel_rfl) ?_
          refine At.ret (f := Tryd.f3) (v := .bool (decide (tl = ul))) (by kernel_rfl) (by kernel_rfl) ?_
          have s3575 : St h g (ids []) g [] h3570 := (s3574).drop.drop.drop.drop
          refine hR _ _ _ _ s3575 ⟨?_, rfl, rfl⟩
          exact (eqB (by first | rfl | contradiction | exact decide_eq_true (OrdI_end hO (by assumption))))
    exact loop16 _  [] [] 0 _ _ _ (Nat.lt_succ_self _) (by first | omega | exact hO.t.sort | exact hO.u.sort | (have a1 := hO.t.len; have a2 := hO.u.len; omega) | (have a3 := hb _ (List.mem_of_getElem? {hx0}); omega) | (have a4 := hb _ (List.mem_of_getElem? {hx1}); omega) | assumption) (by first | omega | exact hO.t.sort | exact hO.u.sort | (have a1 := hO.t.len; have a2 := hO.u.len; omega) | (have a3 := hb _ (List.mem_of_getElem? {hx0}); omega) | (have a4 := hb _ (List.mem_of_getElem? {hx1}); omega) | assumption) (by exact OrdI_0) o3480 o3487 s3484

end Go.Proofs.YtphonojjgnbpfaaDoor.Sw
