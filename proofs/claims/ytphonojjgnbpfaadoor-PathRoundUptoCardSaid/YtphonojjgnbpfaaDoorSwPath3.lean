/- Walks of the functions that are named below: what each computes, as plain Lean words. Printed by a program of our own. -/
import Derived.Test.YtphonojjgnbpfaaDoorSwPath2
import Derived.Test.YtphonojjgnbpfaaDoorSwPathR
namespace Go.Proofs.YtphonojjgnbpfaaDoor.Sw
open Go
set_option maxRecDepth 100000
set_option linter.unusedVariables false
set_option linter.unusedSimpArgs false
set_option linter.deprecated false


/-- slices.Grow[[]string,string] -/
theorem growS (B : World) (h : Heap) (g : GH) (hg : Sub g h) (hG : Glob g) (n : Int) (h0 : 0 ≤ n) (h1 : n ≤ 1000000000) :
    Spec Tryd.prog B 96 #[.slice none 0 0, .int .i64 n] h g [] (fun v g' L' => ∃ v0 c0, v = v0 ∧ Row 9 kStr g' v0 ([] : List (List UInt8)) c0 ∧ L' = [c0]) := by
  refine Spec.of_at (f := Tryd.f96) (e := [(0, .slice none 0 0), (1, .int .i64 n)]) Tryd.func96 (by kernel_rfl) (Nat.le_of_ble_eq_true (by kernel_rfl)) (by kernel_rfl) (by kernel_rfl) ?_
  intro R hR
  have s0 := St.init hg
  refine At.reg (L := [(0, false)]) (by kernel_rfl) ?_
  refine Op.pures 1 [0, 1] (L' := []) (e' := [(0, .slice none 0 0), (1, .int .i64 n)]) (by kernel_rfl) ?_
  refine Op.goto 1 (by kernel_rfl) ?_
  refine At.reg (L := [(0, false), (1, false)]) (by kernel_rfl) ?_
  refine Op.pures 2 [0, 1, 6] (L' := []) (e' := [(0, .slice none 0 0), (1, .int .i64 n), (6, .bool (decide (n < (0 : Int))))]) (by kernel_rfl) ?_
  refine Op.goto 2 (by kernel_rfl) ?_
  refine At.cond (b := decide (n < (0 : Int))) (c := .tmp 6) (by kernel_rfl) (by kernel_rfl) (by kernel_rfl) 3 4 (by kernel_rfl) (by kernel_rfl) (fun hb => ?_) (fun hb => ?_)
  · have c449 : n < (0 : Int) := of_decide_eq_true hb
    clear hb
    refine At.keep [0, 1] ?_; show At _ _ _ [(0, .slice none 0 0), (1, .int .i64 n)] _
    exfalso; first | omega | (simp; done) | (simp; omega)
  · have c450 : ¬ (n < (0 : Int)) := of_decide_eq_false hb
    clear hb
    refine At.keep [0, 1] ?_; show At _ _ _ [(0, .slice none 0 0), (1, .int .i64 n)] _
    refine At.reg (L := [(0, false), (1, false), (2, false), (3, false), (4, false), (5, false), (6, false), (7, false)]) (by kernel_rfl) ?_
    refine Op.pures 5 [0, 1, 8, 10, 12] (L' := [(5, false), (6, false), (7, false)]) (e' := [(0, .slice none 0 0), (1, .int .i64 n), (8, .int .i64 n), (10, .int .i64 0), (12, .int .i64 0)]) (by kernel_rfl) ?_
    refine Op.val (dst := some 13) (v := .int .i64 (IntKind.wrap .i64 ((0 : Int) - 0))) (v' := .int .i64 ((0 : Int) - 0)) (by kernel_rfl) (wrapEq_i64 (by first | omega | (simp; done) | (simp; omega)) (by first | omega | (simp; done) | (simp; omega))) ?_
    refine Op.val (dst := some 14) (v := .int .i64 (IntKind.wrap .i64 (n - ((0 : Int) - 0)))) (v' := .int .i64 (n - ((0 : Int) - 0))) (by kernel_rfl) (wrapEq_i64 (by first | omega | (simp; done) | (simp; omega)) (by first | omega | (simp; done) | (simp; omega))) ?_
    refine Op.pures 1 [0, 1] (L' := []) (e' := [(0, .slice none 0 0), (1, .int .i64 (n - ((0 : Int) - 0)))]) (by kernel_rfl) ?_
    refine Op.goto 5 (by kernel_rfl) ?_
    refine At.reg (L := [(0, false), (1, false)]) (by kernel_rfl) ?_
    refine Op.pures 2 [0, 1, 16] (L' := []) (e' := [(0, .slice none 0 0), (1, .int .i64 (n - ((0 : Int) - 0))), (16, .bool (decide ((n - ((0 : Int) - 0)) > (0 : Int))))]) (by kernel_rfl) ?_
    refine Op.goto 6 (by kernel_rfl) ?_
    refine At.cond (b := decide ((n - ((0 : Int) - 0)) > (0 : Int))) (c := .tmp 16) (by kernel_rfl) (by kernel_rfl) (by kernel_rfl) 7 8 (by kernel_rfl) (by kernel_rfl) (fun hb => ?_) (fun hb => ?_)
    · have c451 : (n - ((0 : Int) - 0)) > (0 : Int) := of_decide_eq_true hb
      clear hb
      refine At.keep [0, 1] ?_; show At _ _ _ [(0, .slice none 0 0), (1, .int .i64 (n - ((0 : Int) - 0)))] _
      refine At.reg (L := [(0, false), (1, false), (2, false), (3, false), (4, false), (5, false), (6, false), (7, false), (8, false), (9, false)]) (by kernel_rfl) ?_
      refine Op.pures 5 [0, 20, 21] (L' := [(5, false), (6, false), (7, false), (8, false), (9, false)]) (e' := [(0, .slice none 0 0), (20, .slice none 0 0), (21, .int .i64 (n - ((0 : Int) - 0)))]) (by kernel_rfl) ?_
      refine Op.appZ (x := (.tmp 20)) (y := (.tmp 21)) (t := 37) (t' := 3) (dst := 22) (E := 9) (by_ := 16) (d := kStr) (ao := none) (n := 0) (cap := 0) (xs := ([] : List (List UInt8))) (m := n - ((0 : Int) - 0)) (z := []) (zc := [.string (mkS [])]) (by kernel_rfl) (by kernel_rfl) (by kernel_rfl) (by kernel_rfl) rfl (by kernel_rfl) ⟨none, 0, rfl, Nat.zero_le _, fun h => absurd rfl h⟩ (by kernel_rfl) (by first | omega | (simp; done) | (simp; omega)) (by first | omega | (simp; done) | (simp; omega)) (by first | omega | (simp; done) | (simp; omega)) s0 ?_
      intro b452 h453 ch454 n455 cu456 R457 ce459 s458
      refine Op.pures 2 [0, 22, 24] (L' := [(8, false), (9, false)]) (e' := [(0, .slice none 0 0), (22, .slice (some ⟨b452, 0, none⟩) (([] : List (List UInt8)).length + (n - ((0 : Int) - 0) : Int).toNat) n455), (24, .int .i64 0)]) (by kernel_rfl) ?_
      refine Op.slHiO (T := 37) (E := 9) (by_ := 16) (x := (.tmp 22)) (ao := (some ⟨b452, 0, none⟩)) (n := (([] : List (List UInt8)).length + (n - ((0 : Int) - 0) : Int).toNat)) (c := n455) (dst := 25) (d := kStr) (hi := (.tmp 24)) (k := .i64) (m := 0) (by kernel_rfl) (by kernel_rfl) (by kernel_rfl) (by kernel_rfl) R457 (by first | omega | (simp; done) | (simp; omega)) (by first | omega | (simp; done) | (simp; omega)) ?_
      intro v460 hr461
      obtain ⟨a462, n463, rfl⟩ := hr461.form
      refine Op.pures 1 [0] (L' := []) (e' := [(0, .slice a462 (((([] : List (List UInt8)) ++ List.replicate (n - ((0 : Int) - 0) : Int).toNat []).take (0 : Int).toNat).length) n463)]) (by kernel_rfl) ?_
      refine Op.goto 8 (by kernel_rfl) ?_
      refine At.reg (L := [(0, false), (1, false)]) (by kernel_rfl) ?_
      refine Op.pures 2 [4] (L' := []) (e' := [(4, .slice a462 (((([] : List (List UInt8)) ++ List.replicate (n - ((0 : Int) - 0) : Int).toNat []).take (0 : Int).toNat).length) n463)]) (by kernel_rfl) ?_
      refine Op.goto 9 (by kernel_rfl) ?_
      refine At.ret (f := Tryd.f96) (v := .slice a462 (((([] : List (List UInt8)) ++ List.replicate (n - ((0 : Int) - 0) : Int).toNat []).take (0 : Int).toNat).length) n463) (by kernel_rfl) (by kernel_rfl) ?_
      refine hR _ _ _ _ (s458.front 0 rfl).only ⟨_, _, rfl, ?_, rfl⟩
      exact rowEq hr461 (by simp)
    · have c464 : ¬ ((n - ((0 : Int) - 0)) > (0 : Int)) := of_decide_eq_false hb
      clear hb
      refine At.keep [0] ?_; show At _ _ _ [(0, .slice none 0 0)] _
      refine At.reg (L := [(0, false), (1, false)]) (by kernel_rfl) ?_
      refine Op.pures 2 [4] (L' := []) (e' := [(4, .slice none 0 0)]) (by kernel_rfl) ?_
      refine Op.goto 9 (by kernel_rfl) ?_
      refine At.ret (f := Tryd.f96) (v := .slice none 0 0) (by kernel_rfl) (by kernel_rfl) ?_
      have sE := St.flat (L := []) (L' := [[]]) rfl s0.clear
      refine hR _ _ _ _ sE ⟨_, _, ?_, Row.nil _ _ _, rfl⟩
      rfl

/-- slices.Concat[[]string,string] -/
theorem concatS (B : World) (h : Heap) (g : GH) (hg : Sub g h) (hG : Glob g) (v_ls : Value) (ls : List (List (List UInt8))) (h_ls : SlR g 37 (kSl 9 kStr) v_ls ls) (h1 : ls.length ≤ 1000000000) (hT : ls.flatten.length ≤ 1000000000) :
    Spec Tryd.prog B 74 #[v_ls] h g [] (fun v g' L' => ∃ v0, v = v0 ∧ SlR g' 9 kStr v0 ls.flatten ∧ L' = []) := by
  obtain ⟨a_ls, n_ls, rfl⟩ := h_ls.form
  refine Spec.of_at (f := Tryd.f74) (e := [(0, .slice a_ls ls.length n_ls)]) Tryd.func74 (by kernel_rfl) (Nat.le_of_ble_eq_true (by kernel_rfl)) (by kernel_rfl) (by kernel_rfl) ?_
  intro R hR
  have s0 := St.init hg
  refine At.reg (L := [(0, false)]) (by kernel_rfl) ?_
  refine Op.pures 1 [0] (L' := []) (e' := [(0, .slice a_ls ls.length n_ls)]) (by kernel_rfl) ?_
  refine Op.goto 1 (by kernel_rfl) ?_
  refine At.reg (L := [(0, false)]) (by kernel_rfl) ?_
  refine Op.pures 1 [0, 3] (L' := []) (e' := [(0, .slice a_ls ls.length n_ls), (3, .int .i64 0)]) (by kernel_rfl) ?_
  refine Op.goto 2 (by kernel_rfl) ?_
  refine At.reg (L := [(0, false), (1, false), (2, false)]) (by kernel_rfl) ?_
  refine Op.pures 3 [0, 3, 9, 10, 11] (L' := []) (e' := [(0, .slice a_ls ls.length n_ls), (3, .int .i64 0), (9, .slice a_ls ls.length n_ls), (10, .int .i64 (ls.length : Int)), (11, .int .i64 0)]) (by kernel_rfl) ?_
  refine Op.goto 3 (by kernel_rfl) ?_
  have loop3 : ∀ (m : Nat) (sz : Int) (i : Int) (h465 : Heap) (hm : ls.length - i.toNat < m) (h0 : 0 ≤ i) (h2 : i ≤ ls.length) (hs : sz = ((ls.take i.toNat).flatten.length : Int))  (s_loop3464 : St h g (ids []) g [] h465), At (fctx Tryd.prog B 74 Tryd.f74 R) [] 3 [(0, .slice a_ls ls.length n_ls), (3, .int .i64 sz), (9, .slice a_ls ls.length n_ls), (10, .int .i64 (ls.length : Int)), (11, .int .i64 i)] h465 := by
    intro m; induction m with
    | zero => intros; omega
    | succ m ih3 =>
      intro sz i h465 hm h0 h2 hs s_loop3464
      refine At.reg (L := [(0, false)]) (by kernel_rfl) ?_
      refine Op.pures 1 [0, 3, 9, 10, 11, 12] (L' := []) (e' := [(0, .slice a_ls ls.length n_ls), (3, .int .i64 sz), (9, .slice a_ls ls.length n_ls), (10, .int .i64 (ls.length : Int)), (11, .int .i64 i), (12, .bool (decide (i < (ls.length : Int))))]) (by kernel_rfl) ?_
      refine Op.goto 4 (by kernel_rfl) ?_
      refine At.cond (b := decide (i < (ls.length : Int))) (c := .tmp 12) (by kernel_rfl) (by kernel_rfl) (by kernel_rfl) 5 11 (by kernel_rfl) (by kernel_rfl) (fun hb => ?_) (fun hb => ?_)
      · have c466 : i < (ls.length : Int) := of_decide_eq_true hb
        clear hb
        refine At.keep [0, 3, 9, 10, 11] ?_; show At _ _ _ [(0, .slice a_ls ls.length n_ls), (3, .int .i64 sz), (9, .slice a_ls ls.length n_ls), (10, .int .i64 (ls.length : Int)), (11, .int .i64 i)] _
        refine At.reg (L := [(0, false), (1, false), (2, false)]) (by kernel_rfl) ?_
        obtain ⟨x467, hx468⟩ : ∃ c, ls[(i : Int).toNat]? = some c := ⟨_, List.getElem?_eq_getElem (by first | omega | (have hb := flat_bound h0 {hx0}; omega) | (have hb := flat_bound h0 {hx0}; have hz := congrArg List.length hn; omega) | (have hz := flat_endn hs (by assumption); omega))⟩
        obtain ⟨b469, o470, cu471, fz472, ha473, hb474, hk475⟩ := SlH.at_ (h_ls.toH s_loop3464.sub) _ hx468
        cases ha473
        refine Op.idx (T := 119) (E := 37) (sz := 1) (by_ := 24) (n := ls.length) (c := n_ls) (k := .i64) (x := (.tmp 9)) (ix := (.tmp 11)) (dst := 13) (bk := b469) (o := o470) (m := i) (by kernel_rfl) (by kernel_rfl) (by kernel_rfl) (by kernel_rfl) (by first | omega | (have hb := flat_bound h0 {hx0}; omega) | (have hb := flat_bound h0 {hx0}; have hz := congrArg List.length hn; omega) | (have hz := flat_endn hs (by assumption); omega)) (by first | omega | (have hb := flat_bound h0 {hx0}; omega) | (have hb := flat_bound h0 {hx0}; have hz := congrArg List.length hn; omega) | (have hz := flat_endn hs (by assumption); omega)) ?_
        obtain ⟨v476, hk475, hv477⟩ := hk475
        obtain ⟨a478, n479, rfl⟩ := hv477.form
        refine Op.load (T := 37) (x := (.tmp 13)) (o := o470 + (i : Int).toNat * 1) (d := 14) (n := 1) (v := .slice a478 x467.length n479) (by kernel_rfl) (by kernel_rfl) (by kernel_rfl) hb474 (cut_get hk475 0 rfl) ?_
        refine Op.pures 1 [0, 3, 5, 9, 10, 11] (L' := []) (e' := [(0, .slice (some ⟨b469, o470, none⟩) ls.length n_ls), (3, .int .i64 sz), (5, .slice a478 x467.length n479), (9, .slice (some ⟨b469, o470, none⟩) ls.length n_ls), (10, .int .i64 (ls.length : Int)), (11, .int .i64 i)]) (by kernel_rfl) ?_
        refine Op.goto 6 (by kernel_rfl) ?_
        refine At.reg (L := [(0, false), (1, false), (2, false), (3, false), (4, false)]) (by kernel_rfl) ?_
        refine Op.pures 3 [0, 3, 9, 10, 11, 15, 17] (L' := [(3, false), (4, false)]) (e' := [(0, .slice (some ⟨b469, o470, none⟩) ls.length n_ls), (3, .int .i64 sz), (9, .slice (some ⟨b469, o470, none⟩) ls.length n_ls), (10, .int .i64 (ls.length : Int)), (11, .int .i64 i), (15, .int .i64 sz), (17, .int .i64 (x467.length : Int))]) (by kernel_rfl) ?_
        refine Op.val (dst := some 18) (v := .int .i64 (IntKind.wrap .i64 (sz + (x467.length : Int)))) (v' := .int .i64 (sz + (x467.length : Int))) (by kernel_rfl) (wrapEq_i64 (by first | omega | (have hb := flat_bound h0 hx468; omega) | (have hb := flat_bound h0 hx468; have hz := congrArg List.length hn; omega) | (have hz := flat_endn hs (by assumption); omega)) (by first | omega | (have hb := flat_bound h0 hx468; omega) | (have hb := flat_bound h0 hx468; have hz := congrArg List.length hn; omega) | (have hz := flat_endn hs (by assumption); omega))) ?_
        refine Op.pures 1 [0, 3, 9, 10, 11] (L' := []) (e' := [(0, .slice (some ⟨b469, o470, none⟩) ls.length n_ls), (3, .int .i64 (sz + (x467.length : Int))), (9, .slice (some ⟨b469, o470, none⟩) ls.length n_ls), (10, .int .i64 (ls.length : Int)), (11, .int .i64 i)]) (by kernel_rfl) ?_
        refine Op.goto 7 (by kernel_rfl) ?_
        refine At.reg (L := [(0, false), (1, false)]) (by kernel_rfl) ?_
        refine Op.pures 2 [0, 3, 9, 10, 11, 20] (L' := []) (e' := [(0, .slice (some ⟨b469, o470, none⟩) ls.length n_ls), (3, .int .i64 (sz + (x467.length : Int))), (9, .slice (some ⟨b469, o470, none⟩) ls.length n_ls), (10, .int .i64 (ls.length : Int)), (11, .int .i64 i), (20, .bool (decide ((sz + (x467.length : Int)) < (0 : Int))))]) (by kernel_rfl) ?_
        refine Op.goto 8 (by kernel_rfl) ?_
        refine At.cond (b := decide ((sz + (x467.length : Int)) < (0 : Int))) (c := .tmp 20) (by kernel_rfl) (by kernel_rfl) (by kernel_rfl) 9 10 (by kernel_rfl) (by kernel_rfl) (fun hb => ?_) (fun hb => ?_)
        · have c480 : (sz + (x467.length : Int)) < (0 : Int) := of_decide_eq_true hb
          clear hb
          refine At.keep [0, 3, 9, 10, 11] ?_; show At _ _ _ [(0, .slice (some ⟨b469, o470, none⟩) ls.length n_ls), (3, .int .i64 (sz + (x467.length : Int))), (9, .slice (some ⟨b469, o470, none⟩) ls.length n_ls), (10, .int .i64 (ls.length : Int)), (11, .int .i64 i)] _
          exfalso; first | omega | (have hb := flat_bound h0 hx468; omega) | (have hb := flat_bound h0 hx468; have hz := congrArg List.length hn; omega) | (have hz := flat_endn hs (by assumption); omega)
        · have c481 : ¬ ((sz + (x467.length : Int)) < (0 : Int)) := of_decide_eq_false hb
          clear hb
          refine At.keep [0, 3, 9, 10, 11] ?_; show At _ _ _ [(0, .slice (some ⟨b469, o470, none⟩) ls.length n_ls), (3, .int .i64 (sz + (x467.length : Int))), (9, .slice (some ⟨b469, o470, none⟩) ls.length n_ls), (10, .int .i64 (ls.length : Int)), (11, .int .i64 i)] _
          refine At.reg (L := [(0, false), (1, false)]) (by kernel_rfl) ?_
          refine Op.val (dst := some 22) (v := .int .i64 (IntKind.wrap .i64 (i + 1))) (v' := .int .i64 (i + 1)) (by kernel_rfl) (wrapEq_i64 (by first | omega | (have hb := flat_bound h0 hx468; omega) | (have hb := flat_bound h0 hx468; have hz := congrArg List.length hn; omega) | (have hz := flat_endn hs (by assumption); omega)) (by first | omega | (have hb := flat_bound h0 hx468; omega) | (have hb := flat_bound h0 hx468; have hz := congrArg List.length hn; omega) | (have hz := flat_endn hs (by assumption); omega))) ?_
          refine Op.pures 1 [0, 3, 9, 10, 11] (L' := []) (e' := [(0, .slice (some ⟨b469, o470, none⟩) ls.length n_ls), (3, .int .i64 (sz + (x467.length : Int))), (9, .slice (some ⟨b469, o470, none⟩) ls.length n_ls), (10, .int .i64 (ls.length : Int)), (11, .int .i64 (i + 1))]) (by kernel_rfl) ?_
          refine Op.goto 3 (by kernel_rfl) ?_
          exact ih3  (sz + (x467.length : Int)) (i + 1) _ (by omega) (by first | omega | (have hb := flat_bound h0 hx468; omega) | (have hb := flat_bound h0 hx468; have hz := congrArg List.length hn; omega) | (have hz := flat_endn hs (by assumption); omega)) (by first | omega | (have hb := flat_bound h0 hx468; omega) | (have hb := flat_bound h0 hx468; have hz := congrArg List.length hn; omega) | (have hz := flat_endn hs (by assumption); omega)) (by exact flat_sum hs h0 hx468)  s_loop3464
      · have c482 : ¬ (i < (ls.length : Int)) := of_decide_eq_false hb
        clear hb
        refine At.keep [0, 3] ?_; show At _ _ _ [(0, .slice a_ls ls.length n_ls), (3, .int .i64 sz)] _
        refine At.reg (L := [(0, false), (1, false), (2, false)]) (by kernel_rfl) ?_
        refine Op.pures 1 [0, 23] (L' := [(1, false), (2, false)]) (e' := [(0, .slice a_ls ls.length n_ls), (23, .int .i64 sz)]) (by kernel_rfl) ?_
        refine Op.call0 (dst := some 24) (f := 96) (args := #[.slice none 0 0, .int .i64 sz]) (by kernel_rfl) s_loop3464 (growS _ _ _ s_loop3464.sub hG sz (by first | omega | (have hb := flat_bound h0 {hx0}; omega) | (have hb := flat_bound h0 {hx0}; have hz := congrArg List.length hn; omega) | (have hz := flat_endn hs (by assumption); omega)) (by first | omega | (have hb := flat_bound h0 {hx0}; omega) | (have hb := flat_bound h0 {hx0}; have hz := congrArg List.length hn; omega) | (have hz := flat_endn hs (by assumption); omega))) ?_
        rintro _ g489 _ h483 hle490 s484 ⟨v491, ch492, rfl, R493, rfl⟩
        obtain ⟨a494, n495, rfl⟩ := R493.form
        replace hG := hG.mono hle490
        replace h_ls := h_ls.mono hle490
        refine Op.pures 1 [0, 6] (L' := []) (e' := [(0, .slice a_ls ls.length n_ls), (6, .slice a494 ((([] : List (List UInt8))).length) n495)]) (by kernel_rfl) ?_
        refine Op.goto 12 (by kernel_rfl) ?_
        refine At.reg (L := [(0, false), (1, false), (2, false)]) (by kernel_rfl) ?_
        refine Op.pures 3 [6, 25, 26, 27] (L' := []) (e' := [(6, .slice a494 ((([] : List (List UInt8))).length) n495), (25, .slice a_ls ls.length n_ls), (26, .int .i64 (ls.length : Int)), (27, .int .i64 0)]) (by kernel_rfl) ?_
        refine Op.goto 13 (by kernel_rfl) ?_
        have loop13 : ∀ (m : Nat) (nw : List (List UInt8)) (k : Int) (a496 : Option Addr) (n497 : Nat) (ch498 : Chunk) (h500 : Heap) (hm : ls.length - k.toNat < m) (h0 : 0 ≤ k) (h2 : k ≤ ls.length) (hn : nw = (ls.take k.toNat).flatten) (R499 : Row 9 kStr g489 (.slice a496 nw.length n497) nw ch498) (s_loop13499 : St h g (ids []) g489 [ch498] h500), At (fctx Tryd.prog B 74 Tryd.f74 R) [] 13 [(6, .slice a496 nw.length n497), (25, .slice a_ls ls.length n_ls), (26, .int .i64 (ls.length : Int)), (27, .int .i64 k)] h500 := by
          intro m; induction m with
          | zero => intros; omega
          | succ m ih13 =>
            intro nw k a496 n497 ch498 h500 hm h0 h2 hn R499 s_loop13499
            refine At.reg (L := [(0, false)]) (by kernel_rfl) ?_
            refine Op.pures 1 [6, 25, 26, 27, 28] (L' := []) (e' := [(6, .slice a496 nw.length n497), (25, .slice a_ls ls.length n_ls), (26, .int .i64 (ls.length : Int)), (27, .int .i64 k), (28, .bool (decide (k < (ls.length : Int))))]) (by kernel_rfl) ?_
            refine Op.goto 14 (by kernel_rfl) ?_
            refine At.cond (b := decide (k < (ls.length : Int))) (c := .tmp 28) (by kernel_rfl) (by kernel_rfl) (by kernel_rfl) 15 18 (by kernel_rfl) (by kernel_rfl) (fun hb => ?_) (fun hb => ?_)
            · have c501 : k < (ls.length : Int) := of_decide_eq_true hb
              clear hb
              refine At.keep [6, 25, 26, 27] ?_; show At _ _ _ [(6, .slice a496 nw.length n497), (25, .slice a_ls ls.length n_ls), (26, .int .i64 (ls.length : Int)), (27, .int .i64 k)] _
              refine At.reg (L := [(0, false), (1, false), (2, false)]) (by kernel_rfl) ?_
              obtain ⟨x502, hx503⟩ : ∃ c, ls[(k : Int).toNat]? = some c := ⟨_, List.getElem?_eq_getElem (by first | omega | (have hb := flat_bound h0 {hx0}; omega) | (have hb := flat_bound h0 {hx0}; have hz := congrArg List.length hn; omega) | (have hz := flat_endn hs (by assumption); omega))⟩
              obtain ⟨b504, o505, cu506, fz507, ha508, hb509, hk510⟩ := SlH.at_ (h_ls.toH s_loop13499.sub) _ hx503
              cases ha508
              refine Op.idx (T := 119) (E := 37) (sz := 1) (by_ := 24) (n := ls.length) (c := n_ls) (k := .i64) (x := (.tmp 25)) (ix := (.tmp 27)) (dst := 29) (bk := b504) (o := o505) (m := k) (by kernel_rfl) (by kernel_rfl) (by kernel_rfl) (by kernel_rfl) (by first | omega | (have hb := flat_bound h0 {hx0}; omega) | (have hb := flat_bound h0 {hx0}; have hz := congrArg List.length hn; omega) | (have hz := flat_endn hs (by assumption); omega)) (by first | omega | (have hb := flat_bound h0 {hx0}; omega) | (have hb := flat_bound h0 {hx0}; have hz := congrArg List.length hn; omega) | (have hz := flat_endn hs (by assumption); omega)) ?_
              obtain ⟨v511, hk510, hv512⟩ := hk510
              obtain ⟨a513, n514, rfl⟩ := hv512.form
              refine Op.load (T := 37) (x := (.tmp 29)) (o := o505 + (k : Int).toNat * 1) (d := 30) (n := 1) (v := .slice a513 x502.length n514) (by kernel_rfl) (by kernel_rfl) (by kernel_rfl) hb509 (cut_get hk510 0 rfl) ?_
              refine Op.pures 1 [6, 8, 25, 26, 27] (L' := []) (e' := [(6, .slice a496 nw.length n497), (8, .slice a513 x502.length n514), (25, .slice (some ⟨b504, o505, none⟩) ls.length n_ls), (26, .int .i64 (ls.length : Int)), (27, .int .i64 k)]) (by kernel_rfl) ?_
              refine Op.goto 16 (by kernel_rfl) ?_
              refine At.reg (L := [(0, false), (1, false), (2, false), (3, false)]) (by kernel_rfl) ?_
              refine Op.pures 2 [6, 25, 26, 27, 31, 32] (L' := [(2, false), (3, false)]) (e' := [(6, .slice a496 nw.length n497), (25, .slice (some ⟨b504, o505, none⟩) ls.length n_ls), (26, .int .i64 (ls.length : Int)), (27, .int .i64 k), (31, .slice a496 nw.length n497), (32, .slice a513 x502.length n514)]) (by kernel_rfl) ?_
              obtain ⟨ns515, hs516, hr517⟩ := Src.slice (P := Tryd.prog) (hv512.toH s_loop13499.sub)
              refine Op.append (x := (.tmp 31)) (y := (.tmp 32)) (t := 37) (t' := 37) (dst := 33) (E := 9) (by_ := 16) (d := kStr) (by kernel_rfl) (by kernel_rfl) (by kernel_rfl) rfl R499 s_loop13499 0 rfl hs516 (ys := x502) hr517 rfl (by first | omega | (have hb := flat_bound h0 hx503; omega) | (have hb := flat_bound h0 hx503; have hz := congrArg List.length hn; omega) | (have hz := flat_endn hs (by assumption); omega)) (fun _ _ _ => trivial) ?_
              intro v518 ch519 h520 R521 s522 nn523
              obtain ⟨a524, n525, rfl⟩ := R521.form
              refine Op.pures 1 [6, 25, 26, 27] (L' := []) (e' := [(6, .slice a524 ((nw ++ x502).length) n525), (25, .slice (some ⟨b504, o505, none⟩) ls.length n_ls), (26, .int .i64 (ls.length : Int)), (27, .int .i64 k)]) (by kernel_rfl) ?_
              refine Op.goto 17 (by kernel_rfl) ?_
              refine At.reg (L := [(0, false), (1, false)]) (by kernel_rfl) ?_
              refine Op.val (dst := some 34) (v := .int .i64 (IntKind.wrap .i64 (k + 1))) (v' := .int .i64 (k + 1)) (by kernel_rfl) (wrapEq_i64 (by first | omega | (have hb := flat_bound h0 hx503; omega) | (have hb := flat_bound h0 hx503; have hz := congrArg List.length hn; omega) | (have hz := flat_endn hs (by assumption); omega)) (by first | omega | (have hb := flat_bound h0 hx503; omega) | (have hb := flat_bound h0 hx503; have hz := congrArg List.length hn; omega) | (have hz := flat_endn hs (by assumption); omega))) ?_
              refine Op.pures 1 [6, 25, 26, 27] (L' := []) (e' := [(6, .slice a524 ((nw ++ x502).length) n525), (25, .slice (some ⟨b504, o505, none⟩) ls.length n_ls), (26, .int .i64 (ls.length : Int)), (27, .int .i64 (k + 1))]) (by kernel_rfl) ?_
              refine Op.goto 13 (by kernel_rfl) ?_
              exact ih13  (nw ++ x502) (k + 1) _ _ _ _ (by omega) (by first | omega | (have hb := flat_bound h0 hx503; omega) | (have hb := flat_bound h0 hx503; have hz := congrArg List.length hn; omega) | (have hz := flat_endn hs (by assumption); omega)) (by first | omega | (have hb := flat_bound h0 hx503; omega) | (have hb := flat_bound h0 hx503; have hz := congrArg List.length hn; omega) | (have hz := flat_endn hs (by assumption); omega)) (by exact flat_step hn h0 hx503) R521 s522
            · have c526 : ¬ (k < (ls.length : Int)) := of_decide_eq_false hb
              clear hb
              refine At.keep [6] ?_; show At _ _ _ [(6, .slice a496 nw.length n497)] _
              refine At.reg (L := [(0, false), (1, false)]) (by kernel_rfl) ?_
              refine Op.pures 2 [2] (L' := []) (e' := [(2, .slice a496 nw.length n497)]) (by kernel_rfl) ?_
              refine Op.goto 19 (by kernel_rfl) ?_
              refine At.ret (f := Tryd.f74) (v := .slice a496 nw.length n497) (by kernel_rfl) (by kernel_rfl) ?_
              obtain ⟨g527, s528, hle529, hf530⟩ := Row.freeze R499 (s_loop13499.front 0 rfl)
              replace hG := hG.mono hle529
              refine hR _ _ _ _ s528.clear ⟨(.slice a496 nw.length n497), ?_, ?_, rfl⟩
              · exact rfl
              · exact slEq hf530 (by exact flat_end hn (by assumption))
        exact loop13 _  ([] : List (List UInt8)) 0 _ _ _ _ (Nat.lt_succ_self _) (by first | omega | (have hb := flat_bound h0 {hx0}; omega) | (have hb := flat_bound h0 {hx0}; have hz := congrArg List.length hn; omega) | (have hz := flat_endn hs (by assumption); omega)) (by first | omega | (have hb := flat_bound h0 {hx0}; omega) | (have hb := flat_bound h0 {hx0}; have hz := congrArg List.length hn; omega) | (have hz := flat_endn hs (by assumption); omega)) (by rfl) R493 s484
  exact loop3 _  0 0 _ (Nat.lt_succ_self _) (by first | omega | (have hb := flat_bound h0 {hx0}; omega) | (have hb := flat_bound h0 {hx0}; have hz := congrArg List.length hn; omega) | (have hz := flat_endn hs (by assumption); omega)) (by first | omega | (have hb := flat_bound h0 {hx0}; omega) | (have hb := flat_bound h0 {hx0}; have hz := congrArg List.length hn; omega) | (have hz := flat_endn hs (by assumption); omega)) (by rfl)  s0

/-- stanchion/path.Join -/
theorem joinP (B : World) (h : Heap) (g : GH) (hg : Sub g h) (hG : Glob g) (p : List UInt8) (v_parts : Value) (parts : List (List UInt8)) (h_parts : SlR g 9 kStr v_parts parts) (hlen : p.length ≤ 1000000000) (hall : ∀ x ∈ parts, x.length ≤ 1000000000) (hpl : parts.length ≤ 10000000) :
    Spec Tryd.prog B 46 #[.string (mkS p), v_parts] h g [] (fun v g' L' => v = .tuple #[.string (mkS (joinS p parts)), .int .i64 (joinE p parts)] ∧ g' = g ∧ L' = []) := by
  obtain ⟨a_parts, n_parts, rfl⟩ := h_parts.form
  refine Spec.of_at (f := Tryd.f46) (e := [(0, .string (mkS p)), (1, .slice a_parts parts.length n_parts)]) Tryd.func46 (by kernel_rfl) (Nat.le_of_ble_eq_true (by kernel_rfl)) (by kernel_rfl) (by kernel_rfl) ?_
  intro R hR
  have s0 := St.init hg
  refine At.reg (L := [(0, false), (1, false)]) (by kernel_rfl) ?_
  refine Op.pures 2 [0, 1] (L' := []) (e' := [(0, .string (mkS p)), (1, .slice a_parts parts.length n_parts)]) (by kernel_rfl) ?_
  refine Op.goto 1 (by kernel_rfl) ?_
  refine At.reg (L := [(0, false), (1, false), (2, false), (3, false), (4, false), (5, false), (6, false)]) (by kernel_rfl) ?_
  refine Op.pures 1 [1, 9] (L' := [(1, false), (2, false), (3, false), (4, false), (5, false), (6, false)]) (e' := [(1, .slice a_parts parts.length n_parts), (9, .string (mkS p))]) (by kernel_rfl) ?_
  refine Op.call0 (dst := some 10) (f := 42) (args := #[.string (mkS p)]) (by kernel_rfl) s0 (partsP _ _ _ s0.sub hG p (by omega)) ?_
  rintro _ g537 _ h531 hle538 s532 ⟨v533, rfl, hr534, rfl⟩
  obtain ⟨a535, n536, rfl⟩ := hr534.form
  replace hG := hG.mono hle538
  replace h_parts := h_parts.mono hle538
  refine Op.pures 5 [1, 6, 7] (L' := []) (e' := [(1, .slice a_parts parts.length n_parts), (6, .slice a535 ((pList p).length) n536), (7, .int .i64 (pErr p))]) (by kernel_rfl) ?_
  refine Op.goto 2 (by kernel_rfl) ?_
  refine At.reg (L := [(0, false), (1, false), (2, false), (3, false), (4, false), (5, false)]) (by kernel_rfl) ?_
  refine Op.pures 3 [1, 6, 15] (L' := [(3, false), (4, false), (5, false)]) (e' := [(1, .slice a_parts parts.length n_parts), (6, .slice a535 ((pList p).length) n536), (15, .bool ((pErr p) != (0 : Int)))]) (by kernel_rfl) ?_
  refine Op.ways (b := (pErr p) != (0 : Int)) ⟨fun hb => ?_, fun hb => ?_⟩
  · refine Op.cast (e' := [(1, .slice a_parts parts.length n_parts), (6, .slice a535 ((pList p).length) n536), (15, .bool true)]) (by rw [hb]) ?_
    have c539 : ¬ ((pErr p) = (0 : Int)) := bneT hb
    clear hb
    refine Op.pures 3 [1, 6, 18] (L' := []) (e' := [(1, .slice a_parts parts.length n_parts), (6, .slice a535 ((pList p).length) n536), (18, .bool true)]) (by kernel_rfl) ?_
    refine Op.goto 3 (by kernel_rfl) ?_
    refine At.condT (c := .tmp 18) (by kernel_rfl) (by kernel_rfl) (by kernel_rfl) 4 (by kernel_rfl) ?_
    refine At.reg (L := [(0, false), (1, false)]) (by kernel_rfl) ?_
    refine Op.pures 2 [4, 5] (L' := []) (e' := [(4, .string (mkS [])), (5, .int .i64 90)]) (by kernel_rfl) ?_
    refine Op.goto 5 (by kernel_rfl) ?_
    refine At.ret (f := Tryd.f46) (v := .tuple #[.string (mkS []), .int .i64 90]) (by kernel_rfl) (by kernel_rfl) ?_
    refine hR _ _ _ _ s532.fin ⟨?_, rfl, rfl⟩
    exact eqT2 (eqS (by first | exact (joinP_n1 (by assumption)).1 | exact (joinP_n1 (by assumption)).2 | exact (joinP_n2 (anyBad (by assumption))).1 | exact (joinP_n2 (anyBad (by assumption))).2)) (eqI (by first | exact (joinP_n1 (by assumption)).1 | exact (joinP_n1 (by assumption)).2 | exact (joinP_n2 (anyBad (by assumption))).1 | exact (joinP_n2 (anyBad (by assumption))).2))
  · refine Op.cast (e' := [(1, .slice a_parts parts.length n_parts), (6, .slice a535 ((pList p).length) n536), (15, .bool false)]) (by rw [hb]) ?_
    have c540 : (pErr p) = (0 : Int) := bneF hb
    clear hb
    refine Op.pures 1 [1, 6, 15, 16] (L' := [(4, false), (5, false)]) (e' := [(1, .slice a_parts parts.length n_parts), (6, .slice a535 ((pList p).length) n536), (15, .bool false), (16, .slice a_parts parts.length n_parts)]) (by kernel_rfl) ?_
    refine Op.call0 (dst := some 17) (f := 66) (args := #[.slice a_parts parts.length n_parts, .func (.func 73) #[] #[]]) (by kernel_rfl) s532 (containsFuncS _ _ _ s532.sub hG _ _ h_parts 73 (fun s => !okPart s) (Enterable.of (by kernel_rfl)) (fun B h g hg hG s => join1 B h g hg hG s) (by first | assumption | omega) (by first | assumption | omega)) ?_
    rintro _ g543 _ h541 hle544 s542 ⟨rfl, hgg, rfl⟩; subst g543; clear hle544
    refine Op.pures 1 [1, 6, 18] (L' := []) (e' := [(1, .slice a_parts parts.length n_parts), (6, .slice a535 ((pList p).length) n536), (18, .bool (parts.any (fun s => !okPart s)))]) (by kernel_rfl) ?_
    refine Op.goto 3 (by kernel_rfl) ?_
    refine At.cond (b := parts.any (fun s => !okPart s)) (c := .tmp 18) (by kernel_rfl) (by kernel_rfl) (by kernel_rfl) 4 6 (by kernel_rfl) (by kernel_rfl) (fun hb => ?_) (fun hb => ?_)
    · have c545 : (parts.any (fun s => !okPart s)) = true := hb
      clear hb
      refine At.keep [] ?_; show At _ _ _ [] _
      refine At.reg (L := [(0, false), (1, false)]) (by kernel_rfl) ?_
      refine Op.pures 2 [4, 5] (L' := []) (e' := [(4, .string (mkS [])), (5, .int .i64 90)]) (by kernel_rfl) ?_
      refine Op.goto 5 (by kernel_rfl) ?_
      refine At.ret (f := Tryd.f46) (v := .tuple #[.string (mkS []), .int .i64 90]) (by kernel_rfl) (by kernel_rfl) ?_
      refine hR _ _ _ _ s542.fin ⟨?_, rfl, rfl⟩
      exact eqT2 (eqS (by first | exact (joinP_n1 (by assumption)).1 | exact (joinP_n1 (by assumption)).2 | exact (joinP_n2 (anyBad (by assumption))).1 | exact (joinP_n2 (anyBad (by assumption))).2)) (eqI (by first | exact (joinP_n1 (by assumption)).1 | exact (joinP_n1 (by assumption)).2 | exact (joinP_n2 (anyBad (by assumption))).1 | exact (joinP_n2 (anyBad (by assumption))).2))
    · have c546 : (parts.any (fun s => !okPart s)) = false := hb
      clear hb
      refine At.keep [1, 6] ?_; show At _ _ _ [(1, .slice a_parts parts.length n_parts), (6, .slice a535 ((pList p).length) n536)] _
      refine At.reg (L := [(0, false), (1, false), (2, false), (3, false), (4, false), (5, false), (6, false), (7, false), (8, false), (9, false)]) (by kernel_rfl) ?_
      refine Op.pures 2 [19, 20] (L' := [(2, false), (3, false), (4, false), (5, false), (6, false), (7, false), (8, false), (9, false)]) (e' := [(19, .slice a535 ((pList p).length) n536), (20, .slice a_parts parts.length n_parts)]) (by kernel_rfl) ?_
      refine Op.lit (T := 119) (len := 2) (parts := #[(0, (.tmp 19)), (1, (.tmp 20))]) (dst := 21) (E := 37) (ps := [(0, .slice a535 ((pList p).length) n536), (1, .slice a_parts parts.length n_parts)]) (cs := #[.slice a535 ((pList p).length) n536, .slice a_parts parts.length n_parts]) (by kernel_rfl) (by kernel_rfl) (by kernel_rfl) s542 ?_
      intro b547 h548 s549
      have R550 : Row 37 (kSl 9 kStr) g537 (.slice (some ⟨b547, 0, none⟩) 2 2) [pList p, parts] [(b547, .cells #[.slice a535 ((pList p).length) n536, .slice a_parts parts.length n_parts] 37 (0, 0))] := .inr ⟨_, _, _, _, rfl, rfl, Nat.le_of_ble_eq_true (by kernel_rfl), by unfold maxLen; decide, Nat.le_of_ble_eq_true (by kernel_rfl), ⟨_, _, rfl, ⟨_, rfl, hr534⟩, ⟨_, _, rfl, ⟨_, rfl, h_parts⟩, Reads.nil⟩⟩⟩
      obtain ⟨g551, s552, hle553, hf554⟩ := Row.freeze R550 (s549.front 0 rfl)
      replace hG := hG.mono hle553
      replace h_parts := h_parts.mono hle553
      replace hr534 := hr534.mono hle553
      refine Op.call0 (dst := some 22) (f := 74) (args := #[.slice (some ⟨b547, 0, none⟩) 2 2]) (by kernel_rfl) s552 (concatS _ _ _ s552.sub hG _ _ hf554 (by first | (have := pList_len p; simp; done) | (have := pList_len p; simp; omega)) (by first | (have := pList_len p; simp; done) | (have := pList_len p; simp; omega))) ?_
      rintro _ g561 _ h555 hle562 s556 ⟨v557, rfl, hr558, rfl⟩
      obtain ⟨a559, n560, rfl⟩ := hr558.form
      replace hG := hG.mono hle562
      replace h_parts := h_parts.mono hle562
      replace hf554 := hf554.mono hle562
      replace hr534 := hr534.mono hle562
      refine Op.call0 (dst := some 23) (f := 61) (args := #[.slice a559 ((([pList p, parts]).flatten).length) n560]) (by kernel_rfl) s556 (joinedP _ _ _ s556.sub hG _ _ hr558 (by first | (have := pList_len p; simp; omega) | (have := (joinAll_len p (noneBad (by assumption)) hpl).2; simpa using this)) (by first | (have := pList_len p; simp; omega) | (have := (joinAll_len p (noneBad (by assumption)) hpl).2; simpa using this))) ?_
      rintro _ g565 _ h563 hle566 s564 ⟨rfl, hgg, rfl⟩; subst g565; clear hle566
      refine Op.call0 (dst := some 24) (f := 71) (args := #[.string (mkS (joined (([pList p, parts]).flatten)))]) (by kernel_rfl) s564 (checkedP _ _ _ s564.sub hG (joined (([pList p, parts]).flatten)) (by (have := (joinAll_len p (noneBad (by assumption)) hpl).1; simpa using this))) ?_
      rintro _ g569 _ h567 hle570 s568 ⟨rfl, hgg, rfl⟩; subst g569; clear hle570
      refine Op.pures 4 [4, 5] (L' := []) (e' := [(4, .string (mkS (checkedS (joined (([pList p, parts]).flatten))))), (5, .int .i64 (pErr (joined (([pList p, parts]).flatten))))]) (by kernel_rfl) ?_
      refine Op.goto 7 (by kernel_rfl) ?_
      refine At.ret (f := Tryd.f46) (v := .tuple #[.string (mkS (checkedS (joined (([pList p, parts]).flatten)))), .int .i64 (pErr (joined (([pList p, parts]).flatten)))]) (by kernel_rfl) (by kernel_rfl) ?_
      refine hR _ _ _ _ s568.fin ⟨?_, rfl, rfl⟩
      exact eqT2 (eqS (by first | exact (joinP_y (by assumption) (by assumption)).1 | exact (joinP_y (by assumption) (by assumption)).2)) (eqI (by first | exact (joinP_y (by assumption) (by assumption)).1 | exact (joinP_y (by assumption) (by assumption)).2))

/-- stanchion/stanchionref09.Numbered -/
theorem numberedR (B : World) (h : Heap) (g : GH) (hg : Sub g h) (hG : Glob g) (p : List UInt8) (n : Int) (hlen : p.length ≤ 100000000) (hn0 : -9223372036854775808 ≤ n) (hn1 : n ≤ 9223372036854775807) :
    Spec Tryd.prog B 45 #[.string (mkS p), .int .i64 n] h g [] (fun v g' L' => v = .tuple #[.string (mkS (numS p n)), .int .i64 (numE p n)] ∧ g' = g ∧ L' = []) := by
  refine Spec.of_at (f := Tryd.f45) (e := [(0, .string (mkS p)), (1, .int .i64 n)]) Tryd.func45 (by kernel_rfl) (Nat.le_of_ble_eq_true (by kernel_rfl)) (by kernel_rfl) (by kernel_rfl) ?_
  intro R hR
  have s0 := St.init hg
  refine At.reg (L := [(0, false), (1, false)]) (by kernel_rfl) ?_
  refine Op.pures 2 [0, 1] (L' := []) (e' := [(0, .string (mkS p)), (1, .int .i64 n)]) (by kernel_rfl) ?_
  refine Op.goto 1 (by kernel_rfl) ?_
  refine At.reg (L := [(0, false), (1, false), (2, false), (3, false), (4, false), (5, false), (6, false)]) (by kernel_rfl) ?_
  refine Op.pures 1 [0, 1, 12] (L' := [(1, false), (2, false), (3, false), (4, false), (5, false), (6, false)]) (e' := [(0, .string (mkS p)), (1, .int .i64 n), (12, .string (mkS p))]) (by kernel_rfl) ?_
  refine Op.call0 (dst := some 13) (f := 37) (args := #[.string (mkS p)]) (by kernel_rfl) s0 (nameR _ _ _ s0.sub hG p (by first | omega | (simp only [List.length_append]; omega) | (have hz := congrArg List.length hD.1; simp only [List.length_append, List.length_replicate] at hz ⊢; omega))) ?_
  rintro _ g573 _ h571 hle574 s572 ⟨rfl, hgg, rfl⟩; subst g573; clear hle574
  refine Op.pures 5 [0, 1, 7] (L' := []) (e' := [(0, .string (mkS p)), (1, .int .i64 n), (7, .int .i64 (cutErr p))]) (by kernel_rfl) ?_
  refine Op.goto 2 (by kernel_rfl) ?_
  refine At.reg (L := [(0, false), (1, false), (2, false), (3, false), (4, false), (5, false), (6, false), (7, false), (8, false), (9, false)]) (by kernel_rfl) ?_
  refine Op.pures 3 [0, 1, 18] (L' := [(3, false), (4, false), (5, false), (6, false), (7, false), (8, false), (9, false)]) (e' := [(0, .string (mkS p)), (1, .int .i64 n), (18, .bool ((cutErr p) != (0 : Int)))]) (by kernel_rfl) ?_
  refine Op.ways (b := (cutErr p) != (0 : Int)) ⟨fun hb => ?_, fun hb => ?_⟩
  · refine Op.cast (e' := [(0, .string (mkS p)), (1, .int .i64 n), (18, .bool true)]) (by rw [hb]) ?_
    have c575 : ¬ ((cutErr p) = (0 : Int)) := bneT hb
    clear hb
    refine Op.pures 7 [0, 1, 25] (L' := []) (e' := [(0, .string (mkS p)), (1, .int .i64 n), (25, .bool true)]) (by kernel_rfl) ?_
    refine Op.goto 3 (by kernel_rfl) ?_
    refine At.condT (c := .tmp 25) (by kernel_rfl) (by kernel_rfl) (by kernel_rfl) 4 (by kernel_rfl) ?_
    refine At.reg (L := [(0, false), (1, false)]) (by kernel_rfl) ?_
    refine Op.pures 2 [4, 5] (L' := []) (e' := [(4, .string (mkS [])), (5, .int .i64 90)]) (by kernel_rfl) ?_
    refine Op.goto 5 (by kernel_rfl) ?_
    refine At.ret (f := Tryd.f45) (v := .tuple #[.string (mkS []), .int .i64 90]) (by kernel_rfl) (by kernel_rfl) ?_
    refine hR _ _ _ _ s572.fin ⟨?_, rfl, rfl⟩
    exact eqT2 (eqS (by first | exact (num_no (numOk_f1 (by assumption))).1 | exact (num_no (numOk_f1 (by assumption))).2 | exact (num_no (numOk_f2 (by assumption))).1 | exact (num_no (numOk_f2 (by assumption))).2 | exact (num_no (numOk_f3 (by assumption))).1 | exact (num_no (numOk_f3 (by assumption))).2)) (eqI (by first | exact (num_no (numOk_f1 (by assumption))).1 | exact (num_no (numOk_f1 (by assumption))).2 | exact (num_no (numOk_f2 (by assumption))).1 | exact (num_no (numOk_f2 (by assumption))).2 | exact (num_no (numOk_f3 (by assumption))).1 | exact (num_no (numOk_f3 (by assumption))).2))
  · refine Op.cast (e' := [(0, .string (mkS p)), (1, .int .i64 n), (18, .bool false)]) (by rw [hb]) ?_
    have c576 : (cutErr p) = (0 : Int) := bneF hb
    clear hb
    refine Op.pures 4 [0, 1, 22] (L' := [(7, false), (8, false), (9, false)]) (e' := [(0, .string (mkS p)), (1, .int .i64 n), (22, .bool (decide (n < (0 : Int))))]) (by kernel_rfl) ?_
    refine Op.ways (b := decide (n < (0 : Int))) ⟨fun hb => ?_, fun hb => ?_⟩
    · refine Op.cast (e' := [(0, .string (mkS p)), (1, .int .i64 n), (22, .bool true)]) (by rw [hb]) ?_
      have c577 : n < (0 : Int) := of_decide_eq_true hb
      clear hb
      refine Op.pures 3 [0, 1, 25] (L' := []) (e' := [(0, .string (mkS p)), (1, .int .i64 n), (25, .bool true)]) (by kernel_rfl) ?_
      refine Op.goto 3 (by kernel_rfl) ?_
      refine At.condT (c := .tmp 25) (by kernel_rfl) (by kernel_rfl) (by kernel_rfl) 4 (by kernel_rfl) ?_
      refine At.reg (L := [(0, false), (1, false)]) (by kernel_rfl) ?_
      refine Op.pures 2 [4, 5] (L' := []) (e' := [(4, .string (mkS [])), (5, .int .i64 90)]) (by kernel_rfl) ?_
      refine Op.goto 5 (by kernel_rfl) ?_
      refine At.ret (f := Tryd.f45) (v := .tuple #[.string (mkS []), .int .i64 90]) (by kernel_rfl) (by kernel_rfl) ?_
      refine hR _ _ _ _ s572.fin ⟨?_, rfl, rfl⟩
      exact eqT2 (eqS (by first | exact (num_no (numOk_f1 (by assumption))).1 | exact (num_no (numOk_f1 (by assumption))).2 | exact (num_no (numOk_f2 (by assumption))).1 | exact (num_no (numOk_f2 (by assumption))).2 | exact (num_no (numOk_f3 (by assumption))).1 | exact (num_no (numOk_f3 (by assumption))).2)) (eqI (by first | exact (num_no (numOk_f1 (by assumption))).1 | exact (num_no (numOk_f1 (by assumption))).2 | exact (num_no (numOk_f2 (by assumption))).1 | exact (num_no (numOk_f2 (by assumption))).2 | exact (num_no (numOk_f3 (by assumption))).1 | exact (num_no (numOk_f3 (by assumption))).2))
    · refine Op.cast (e' := [(0, .string (mkS p)), (1, .int .i64 n), (22, .bool false)]) (by rw [hb]) ?_
      have c578 : ¬ (n < (0 : Int)) := of_decide_eq_false hb
      clear hb
      refine Op.pures 3 [0, 1, 25] (L' := []) (e' := [(0, .string (mkS p)), (1, .int .i64 n), (25, .bool (decide (n > (99999 : Int))))]) (by kernel_rfl) ?_
      refine Op.goto 3 (by kernel_rfl) ?_
      refine At.cond (b := decide (n > (99999 : Int))) (c := .tmp 25) (by kernel_rfl) (by kernel_rfl) (by kernel_rfl) 4 6 (by kernel_rfl) (by kernel_rfl) (fun hb => ?_) (fun hb => ?_)
      · have c579 : n > (99999 : Int) := of_decide_eq_true hb
        clear hb
        refine At.keep [] ?_; show At _ _ _ [] _
        refine At.reg (L := [(0, false), (1, false)]) (by kernel_rfl) ?_
        refine Op.pures 2 [4, 5] (L' := []) (e' := [(4, .string (mkS [])), (5, .int .i64 90)]) (by kernel_rfl) ?_
        refine Op.goto 5 (by kernel_rfl) ?_
        refine At.ret (f := Tryd.f45) (v := .tuple #[.string (mkS []), .int .i64 90]) (by kernel_rfl) (by kernel_rfl) ?_
        refine hR _ _ _ _ s572.fin ⟨?_, rfl, rfl⟩
        exact eqT2 (eqS (by first | exact (num_no (numOk_f1 (by assumption))).1 | exact (num_no (numOk_f1 (by assumption))).2 | exact (num_no (numOk_f2 (by assumption))).1 | exact (num_no (numOk_f2 (by assumption))).2 | exact (num_no (numOk_f3 (by assumption))).1 | exact (num_no (numOk_f3 (by assumption))).2)) (eqI (by first | exact (num_no (numOk_f1 (by assumption))).1 | exact (num_no (numOk_f1 (by assumption))).2 | exact (num_no (numOk_f2 (by assumption))).1 | exact (num_no (numOk_f2 (by assumption))).2 | exact (num_no (numOk_f3 (by assumption))).1 | exact (num_no (numOk_f3 (by assumption))).2))
      · have c580 : ¬ (n > (99999 : Int)) := of_decide_eq_false hb
        clear hb
        refine At.keep [0, 1] ?_; show At _ _ _ [(0, .string (mkS p)), (1, .int .i64 n)] _
        refine At.reg (L := [(0, false), (1, false)]) (by kernel_rfl) ?_
        refine Op.lit (T := 93) (len := 5) (parts := #[(0, (.const (.int .u8 0))), (1, (.const (.int .u8 0))), (2, (.const (.int .u8 0))), (3, (.const (.int .u8 0))), (4, (.const (.int .u8 0)))]) (dst := 26) (E := 5) (ps := [(0, .int .u8 0), (1, .int .u8 0), (2, .int .u8 0), (3, .int .u8 0), (4, .int .u8 0)]) (cs := #[.int .u8 0, .int .u8 0, .int .u8 0, .int .u8 0, .int .u8 0]) (by kernel_rfl) (by kernel_rfl) (by kernel_rfl) s572 ?_
        intro b581 h582 s583
        refine Op.pures 1 [0, 1, 8] (L' := []) (e' := [(0, .string (mkS p)), (1, .int .i64 n), (8, .slice (some ⟨b581, 0, none⟩) 5 5)]) (by kernel_rfl) ?_
        refine Op.goto 7 (by kernel_rfl) ?_
        refine At.reg (L := [(0, false)]) (by kernel_rfl) ?_
        refine Op.pures 1 [0, 1, 8, 9] (L' := []) (e' := [(0, .string (mkS p)), (1, .int .i64 n), (8, .slice (some ⟨b581, 0, none⟩) 5 5), (9, .int .i64 4)]) (by kernel_rfl) ?_
        refine Op.goto 8 (by kernel_rfl) ?_
        have loop8 : ∀ (m : Nat) (q : Int) (dd : List UInt8) (i : Int) (a584 : Option Addr) (n585 : Nat) (ch586 : Chunk) (h588 : Heap) (hm : (i + 1).toNat < m) (h0 : -1 ≤ i) (h2 : i ≤ 4) (hq0 : 0 ≤ q) (hq1 : q ≤ 99999) (hl5 : dd.length = 5) (hD : DInv n dd q i) (R587 : Row 5 kU8 g (.slice a584 dd.length n585) dd ch586) (s_loop8587 : St h g (ids []) g [ch586] h588), At (fctx Tryd.prog B 45 Tryd.f45 R) [] 8 [(0, .string (mkS p)), (1, .int .i64 q), (8, .slice a584 dd.length n585), (9, .int .i64 i)] h588 := by
          intro m; induction m with
          | zero => intros; omega
          | succ m ih8 =>
            intro q dd i a584 n585 ch586 h588 hm h0 h2 hq0 hq1 hl5 hD R587 s_loop8587
            refine At.reg (L := [(0, false), (1, false)]) (by kernel_rfl) ?_
            refine Op.pures 2 [0, 1, 8, 9, 28] (L' := []) (e' := [(0, .string (mkS p)), (1, .int .i64 q), (8, .slice a584 dd.length n585), (9, .int .i64 i), (28, .bool (decide (i ≥ (0 : Int))))]) (by kernel_rfl) ?_
            refine Op.goto 9 (by kernel_rfl) ?_
            refine At.cond (b := decide (i ≥ (0 : Int))) (c := .tmp 28) (by kernel_rfl) (by kernel_rfl) (by kernel_rfl) 10 13 (by kernel_rfl) (by kernel_rfl) (fun hb => ?_) (fun hb => ?_)
            · have c589 : i ≥ (0 : Int) := of_decide_eq_true hb
              clear hb
              refine At.keep [0, 1, 8, 9] ?_; show At _ _ _ [(0, .string (mkS p)), (1, .int .i64 q), (8, .slice a584 dd.length n585), (9, .int .i64 i)] _
              refine At.reg (L := [(0, false), (1, false), (2, false), (3, false), (4, false), (5, false), (6, false), (7, false)]) (by kernel_rfl) ?_
              refine Op.pures 3 [0, 1, 8, 9, 31, 32, 33] (L' := [(3, false), (4, false), (5, false), (6, false), (7, false)]) (e' := [(0, .string (mkS p)), (1, .int .i64 q), (8, .slice a584 dd.length n585), (9, .int .i64 i), (31, .slice a584 dd.length n585), (32, .int .i64 i), (33, .int .i64 q)]) (by kernel_rfl) ?_
              refine Op.val (dst := some 34) (v := .int .i64 (Int.tmod q (10 : Int))) (v' := .int .i64 (q % (10 : Int))) (by kernel_rfl) (remEq (by first | omega | (simp only [List.length_append]; omega) | (have hz := congrArg List.length hD.1; simp only [List.length_append, List.length_replicate] at hz ⊢; omega))) ?_
              refine Op.val (dst := some 35) (v := .int .i64 (IntKind.wrap .i64 ((48 : Int) + (q % 10)))) (v' := .int .i64 ((48 : Int) + (q % 10))) (by kernel_rfl) (wrapEq_i64 (by first | omega | (simp only [List.length_append]; omega) | (have hz := congrArg List.length hD.1; simp only [List.length_append, List.length_replicate] at hz ⊢; omega)) (by first | omega | (simp only [List.length_append]; omega) | (have hz := congrArg List.length hD.1; simp only [List.length_append, List.length_replicate] at hz ⊢; omega))) ?_
              refine Op.val (dst := some 36) (v := .int .u8 (IntKind.wrap .u8 ((48 : Int) + (q % 10)))) (v' := .int .u8 ((48 : Int) + (q % 10))) (by kernel_rfl) (wrapEq_u8 (by first | omega | (simp only [List.length_append]; omega) | (have hz := congrArg List.length hD.1; simp only [List.length_append, List.length_replicate] at hz ⊢; omega)) (by first | omega | (simp only [List.length_append]; omega) | (have hz := congrArg List.length hD.1; simp only [List.length_append, List.length_replicate] at hz ⊢; omega))) ?_
              obtain ⟨x590, hx591⟩ : ∃ c, dd[(i : Int).toNat]? = some c := ⟨_, List.getElem?_eq_getElem (by first | omega | (simp only [List.length_append]; omega) | (have hz := congrArg List.length hD.1; simp only [List.length_append, List.length_replicate] at hz ⊢; omega))⟩
              obtain ⟨b592, o593, cu594, fz595, ha596, hb597, hk598⟩ := SlH.at_ (R587.toH s_loop8587 0 rfl) _ hx591
              cases ha596
              refine Op.idx (T := 93) (E := 5) (sz := 1) (by_ := 1) (n := dd.length) (c := n585) (k := .i64) (x := (.tmp 31)) (ix := (.tmp 32)) (dst := 37) (bk := b592) (o := o593) (m := i) (by kernel_rfl) (by kernel_rfl) (by kernel_rfl) (by kernel_rfl) (by first | omega | (simp only [List.length_append]; omega) | (have hz := congrArg List.length hD.1; simp only [List.length_append, List.length_replicate] at hz ⊢; omega)) (by first | omega | (simp only [List.length_append]; omega) | (have hz := congrArg List.length hD.1; simp only [List.length_append, List.length_replicate] at hz ⊢; omega)) ?_
              replace hk598 : cut _ _ _ = [.int .u8 (x590.toNat : Int)] := hk598
              obtain ⟨_, _, cap599, cu600, ev601, ec602, h603, h604, h605, h606⟩ := R587.cases (Nat.lt_of_le_of_lt (Nat.zero_le _) (List.getElem?_eq_some_iff.1 hx591).1)
              cases ev601; subst ec602
              have hi610 := (List.getElem?_eq_some_iff.1 hx591).1
              have ha611 := Nat.mul_le_mul_right 1 (Nat.le_trans hi610 h603)
              refine Op.store (T := 5) (x := (.tmp 37)) (y := (.tmp 36)) (b := b592) (o := o593 + (i : Int).toNat * 1) (vs := [.int .u8 ((48 : Int) + (q % 10))]) (a? := false) (n := 1) (by kernel_rfl) (by kernel_rfl) (by kernel_rfl) (by kernel_rfl) rfl (by simp [Value.oneCell']) s_loop8587 0 rfl (by simp only [Nat.succ_mul] at ha611; simp only [show (kU8).sz = 1 from rfl] at h605; omega) (cs := cu600) (cs' := splice cu600 (o593 + (i : Int).toNat * 1) [.int .u8 ((48 : Int) + (q % 10))]) rfl (fun _ => trivial) ?_
              intro h607 s608
              have R609 := Row.put (T := 5) (b := b592) h603 h604 h605 h606 _ hi610 (x := (UInt8.ofNat ((48 : Int) + (q % 10) : Int).toNat)) (vs := [.int .u8 ((48 : Int) + (q % 10))]) (u8K (by first | omega | (simp only [List.length_append]; omega) | (have hz := congrArg List.length hD.1; simp only [List.length_append, List.length_replicate] at hz ⊢; omega)) (by first | omega | (simp only [List.length_append]; omega) | (have hz := congrArg List.length hD.1; simp only [List.length_append, List.length_replicate] at hz ⊢; omega)))
              refine Op.pures 0 [0, 1, 8, 9] (L' := []) (e' := [(0, .string (mkS p)), (1, .int .i64 q), (8, .slice (some ⟨b592, o593, none⟩) dd.length n585), (9, .int .i64 i)]) (by kernel_rfl) ?_
              refine Op.cast (e' := [(0, .string (mkS p)), (1, .int .i64 q), (8, .slice (some ⟨b592, o593, none⟩) ((dd.set (i : Int).toNat (UInt8.ofNat ((48 : Int) + (q % 10) : Int).toNat)).length) n585), (9, .int .i64 i)]) (by simp only [List.length_set]) ?_
              refine Op.goto 11 (by kernel_rfl) ?_
              refine At.reg (L := [(0, false), (1, false), (2, false)]) (by kernel_rfl) ?_
              refine Op.pures 1 [0, 1, 8, 9, 38] (L' := [(1, false), (2, false)]) (e' := [(0, .string (mkS p)), (1, .int .i64 q), (8, .slice (some ⟨b592, o593, none⟩) ((dd.set (i : Int).toNat (UInt8.ofNat ((48 : Int) + (q % 10) : Int).toNat)).length) n585), (9, .int .i64 i), (38, .int .i64 q)]) (by kernel_rfl) ?_
              refine Op.val (dst := some 39) (v := .int .i64 (IntKind.wrap .i64 (Int.tdiv q (10 : Int)))) (v' := .int .i64 (q / (10 : Int))) (by kernel_rfl) (quoEq (by first | omega | (simp only [List.length_append]; omega) | (have hz := congrArg List.length hD.1; simp only [List.length_append, List.length_replicate] at hz ⊢; omega)) (by first | omega | (simp only [List.length_append]; omega) | (have hz := congrArg List.length hD.1; simp only [List.length_append, List.length_replicate] at hz ⊢; omega)) (by first | omega | (simp only [List.length_append]; omega) | (have hz := congrArg List.length hD.1; simp only [List.length_append, List.length_replicate] at hz ⊢; omega))) ?_
              refine Op.pures 1 [0, 1, 8, 9] (L' := []) (e' := [(0, .string (mkS p)), (1, .int .i64 (q / 10)), (8, .slice (some ⟨b592, o593, none⟩) ((dd.set (i : Int).toNat (UInt8.ofNat ((48 : Int) + (q % 10) : Int).toNat)).length) n585), (9, .int .i64 i)]) (by kernel_rfl) ?_
              refine Op.goto 12 (by kernel_rfl) ?_
              refine At.reg (L := [(0, false), (1, false), (2, false)]) (by kernel_rfl) ?_
              refine Op.pures 1 [0, 1, 8, 9, 29] (L' := [(1, false), (2, false)]) (e' := [(0, .string (mkS p)), (1, .int .i64 (q / 10)), (8, .slice (some ⟨b592, o593, none⟩) ((dd.set (i : Int).toNat (UInt8.ofNat ((48 : Int) + (q % 10) : Int).toNat)).length) n585), (9, .int .i64 i), (29, .int .i64 i)]) (by kernel_rfl) ?_
              refine Op.val (dst := some 30) (v := .int .i64 (IntKind.wrap .i64 (i - 1))) (v' := .int .i64 (i - 1)) (by kernel_rfl) (wrapEq_i64 (by first | omega | (simp only [List.length_append]; omega) | (have hz := congrArg List.length hD.1; simp only [List.length_append, List.length_replicate] at hz ⊢; omega)) (by first | omega | (simp only [List.length_append]; omega) | (have hz := congrArg List.length hD.1; simp only [List.length_append, List.length_replicate] at hz ⊢; omega))) ?_
              refine Op.pures 1 [0, 1, 8, 9] (L' := []) (e' := [(0, .string (mkS p)), (1, .int .i64 (q / 10)), (8, .slice (some ⟨b592, o593, none⟩) ((dd.set (i : Int).toNat (UInt8.ofNat ((48 : Int) + (q % 10) : Int).toNat)).length) n585), (9, .int .i64 (i - 1))]) (by kernel_rfl) ?_
              refine Op.goto 8 (by kernel_rfl) ?_
              exact ih8  (q / 10) (dd.set (i : Int).toNat (UInt8.ofNat ((48 : Int) + (q % 10) : Int).toNat)) (i - 1) _ _ _ _ (by omega) (by first | omega | (simp only [List.length_append]; omega) | (have hz := congrArg List.length hD.1; simp only [List.length_append, List.length_replicate] at hz ⊢; omega)) (by first | omega | (simp only [List.length_append]; omega) | (have hz := congrArg List.length hD.1; simp only [List.length_append, List.length_replicate] at hz ⊢; omega)) (by first | omega | (simp only [List.length_append]; omega) | (have hz := congrArg List.length hD.1; simp only [List.length_append, List.length_replicate] at hz ⊢; omega)) (by first | omega | (simp only [List.length_append]; omega) | (have hz := congrArg List.length hD.1; simp only [List.length_append, List.length_replicate] at hz ⊢; omega)) (by rw [List.length_set]; exact hl5) (by exact DInv_step hD (by omega) (by omega)) R609 s608
            · have c612 : ¬ (i ≥ (0 : Int)) := of_decide_eq_false hb
              clear hb
              refine At.keep [0, 8] ?_; show At _ _ _ [(0, .string (mkS p)), (8, .slice a584 dd.length n585)] _
              refine At.reg (L := [(0, false), (1, false), (2, false), (3, false), (4, false)]) (by kernel_rfl) ?_
              refine Op.pures 2 [40, 41] (L' := [(2, false), (3, false), (4, false)]) (e' := [(40, .string (mkS p)), (41, .slice a584 dd.length n585)]) (by kernel_rfl) ?_
              refine Op.ofBytes (T := 93) (S := 9) (E := 5) (x := (.tmp 41)) (dst := 42) (l := dd) (by kernel_rfl) (by kernel_rfl) (by kernel_rfl) (by kernel_rfl) (by kernel_rfl) (R587.toH s_loop8587 0 rfl) ?_
              refine Op.strAdd (T := 9) (T' := 9) (x := (.tmp 40)) (y := (.tmp 42)) (dst := 43) (l := p) (m := dd) (by kernel_rfl) (by kernel_rfl) (by kernel_rfl) (by first | omega | (simp only [List.length_append]; omega) | (have hz := congrArg List.length hD.1; simp only [List.length_append, List.length_replicate] at hz ⊢; omega)) ?_
              refine Op.pures 1 [10] (L' := []) (e' := [(10, .string (mkS (p ++ dd)))]) (by kernel_rfl) ?_
              refine Op.goto 14 (by kernel_rfl) ?_
              refine At.reg (L := [(0, false), (1, false), (2, false)]) (by kernel_rfl) ?_
              refine Op.pures 1 [10, 44] (L' := [(1, false), (2, false)]) (e' := [(10, .string (mkS (p ++ dd))), (44, .string (mkS (p ++ dd)))]) (by kernel_rfl) ?_
              refine Op.call0 (dst := some 45) (f := 39) (args := #[.string (mkS (p ++ dd))]) (by kernel_rfl) s_loop8587 (checkR _ _ _ s_loop8587.sub hG (p ++ dd) (by first | omega | (simp only [List.length_append]; omega) | (have hz := congrArg List.length hD.1; simp only [List.length_append, List.length_replicate] at hz ⊢; omega))) ?_
              rintro _ g615 _ h613 hle616 s614 ⟨rfl, hgg, rfl⟩; subst g615; clear hle616
              refine Op.pures 1 [10, 46] (L' := []) (e' := [(10, .string (mkS (p ++ dd))), (46, .bool ((pErr (p ++ dd)) != (0 : Int)))]) (by kernel_rfl) ?_
              refine Op.goto 15 (by kernel_rfl) ?_
              refine At.cond (b := (pErr (p ++ dd)) != (0 : Int)) (c := .tmp 46) (by kernel_rfl) (by kernel_rfl) (by kernel_rfl) 16 18 (by kernel_rfl) (by kernel_rfl) (fun hb => ?_) (fun hb => ?_)
              · have c617 : ¬ ((pErr (p ++ dd)) = (0 : Int)) := bneT hb
                clear hb
                refine At.keep [] ?_; show At _ _ _ [] _
                refine At.reg (L := [(0, false), (1, false)]) (by kernel_rfl) ?_
                refine Op.pures 2 [4, 5] (L' := []) (e' := [(4, .string (mkS [])), (5, .int .i64 90)]) (by kernel_rfl) ?_
                refine Op.goto 17 (by kernel_rfl) ?_
                refine At.ret (f := Tryd.f45) (v := .tuple #[.string (mkS []), .int .i64 90]) (by kernel_rfl) (by kernel_rfl) ?_
                refine hR _ _ _ _ s614.fin ⟨?_, rfl, rfl⟩
                exact eqT2 (eqS (by first | exact (numR_bad (numOk_t (by assumption) (by assumption) (by assumption)) ((DInv_end hD (by assumption) (by omega)).trans (low_dig (by omega) (by omega))) (by assumption)).1 | exact (numR_bad (numOk_t (by assumption) (by assumption) (by assumption)) ((DInv_end hD (by assumption) (by omega)).trans (low_dig (by omega) (by omega))) (by assumption)).2)) (eqI (by first | exact (numR_bad (numOk_t (by assumption) (by assumption) (by assumption)) ((DInv_end hD (by assumption) (by omega)).trans (low_dig (by omega) (by omega))) (by assumption)).1 | exact (numR_bad (numOk_t (by assumption) (by assumption) (by assumption)) ((DInv_end hD (by assumption) (by omega)).trans (low_dig (by omega) (by omega))) (by assumption)).2))
              · have c618 : (pErr (p ++ dd)) = (0 : Int) := bneF hb
                clear hb
                refine At.keep [10] ?_; show At _ _ _ [(10, .string (mkS (p ++ dd)))] _
                refine At.reg (L := [(0, false), (1, false), (2, false)]) (by kernel_rfl) ?_
                refine Op.pures 3 [4, 5] (L' := []) (e' := [(4, .string (mkS (p ++ dd))), (5, .int .i64 0)]) (by kernel_rfl) ?_
                refine Op.goto 19 (by kernel_rfl) ?_
                refine At.ret (f := Tryd.f45) (v := .tuple #[.string (mkS (p ++ dd)), .int .i64 0]) (by kernel_rfl) (by kernel_rfl) ?_
                refine hR _ _ _ _ s614.fin ⟨?_, rfl, rfl⟩
                exact eqT2 (eqS (by first | exact (numR_ok (numOk_t (by assumption) (by assumption) (by assumption)) ((DInv_end hD (by assumption) (by omega)).trans (low_dig (by omega) (by omega))) (by assumption)).1 | exact (numR_ok (numOk_t (by assumption) (by assumption) (by assumption)) ((DInv_end hD (by assumption) (by omega)).trans (low_dig (by omega) (by omega))) (by assumption)).2)) (eqI (by first | exact (numR_ok (numOk_t (by assumption) (by assumption) (by assumption)) ((DInv_end hD (by assumption) (by omega)).trans (low_dig (by omega) (by omega))) (by assumption)).1 | exact (numR_ok (numOk_t (by assumption) (by assumption) (by assumption)) ((DInv_end hD (by assumption) (by omega)).trans (low_dig (by omega) (by omega))) (by assumption)).2))
        have R619 : Row 5 kU8 g (.slice (some ⟨b581, 0, none⟩) 5 5) [(0 : UInt8), (0 : UInt8), (0 : UInt8), (0 : UInt8), (0 : UInt8)] [(b581, .cells #[.int .u8 0, .int .u8 0, .int .u8 0, .int .u8 0, .int .u8 0] 5 (0, 0))] := .inr ⟨_, _, _, _, rfl, rfl, Nat.le_of_ble_eq_true (by kernel_rfl), by unfold maxLen; decide, Nat.le_of_ble_eq_true (by kernel_rfl), ⟨_, _, rfl, rfl, ⟨_, _, rfl, rfl, ⟨_, _, rfl, rfl, ⟨_, _, rfl, rfl, ⟨_, _, rfl, rfl, Reads.nil⟩⟩⟩⟩⟩⟩
        exact loop8 _  n ([(0 : UInt8), (0 : UInt8), (0 : UInt8), (0 : UInt8), (0 : UInt8)]) 4 _ _ _ _ (Nat.lt_succ_self _) (by first | omega | (simp only [List.length_append]; omega) | (have hz := congrArg List.length hD.1; simp only [List.length_append, List.length_replicate] at hz ⊢; omega)) (by first | omega | (simp only [List.length_append]; omega) | (have hz := congrArg List.length hD.1; simp only [List.length_append, List.length_replicate] at hz ⊢; omega)) (by first | omega | (simp only [List.length_append]; omega) | (have hz := congrArg List.length hD.1; simp only [List.length_append, List.length_replicate] at hz ⊢; omega)) (by first | omega | (simp only [List.length_append]; omega) | (have hz := congrArg List.length hD.1; simp only [List.length_append, List.length_replicate] at hz ⊢; omega)) (by rfl) (by exact DInv_0 (by omega)) R619 s583

/-- stanchion/stanchionref09.Join -/
theorem joinR (B : World) (h : Heap) (g : GH) (hg : Sub g h) (hG : Glob g) (p : List UInt8) (v_parts : Value) (parts : List (List UInt8)) (h_parts : SlR g 9 kStr v_parts parts) (hlen : p.length ≤ 1000000000) (hall : ∀ x ∈ parts, x.length ≤ 1000000000) :
    Spec Tryd.prog B 47 #[.string (mkS p), v_parts] h g [] (fun v g' L' => v = .tuple #[.string (mkS (joinS p parts)), .int .i64 (joinE p parts)] ∧ g' = g ∧ L' = []) := by
  obtain ⟨a_parts, n_parts, rfl⟩ := h_parts.form
  refine Spec.of_at (f := Tryd.f47) (e := [(0, .string (mkS p)), (1, .slice a_parts parts.length n_parts)]) Tryd.func47 (by kernel_rfl) (Nat.le_of_ble_eq_true (by kernel_rfl)) (by kernel_rfl) (by kernel_rfl) ?_
  intro R hR
  have s0 := St.init hg
  refine At.reg (L := [(0, false), (1, false)]) (by kernel_rfl) ?_
  refine Op.pures 2 [0, 1] (L' := []) (e' := [(0, .string (mkS p)), (1, .slice a_parts parts.length n_parts)]) (by kernel_rfl) ?_
  refine Op.goto 1 (by kernel_rfl) ?_
  refine At.reg (L := [(0, false), (1, false), (2, false), (3, false), (4, false), (5, false), (6, false)]) (by kernel_rfl) ?_
  refine Op.pures 1 [1, 12] (L' := [(1, false), (2, false), (3, false), (4, false), (5, false), (6, false)]) (e' := [(1, .slice a_parts parts.length n_parts), (12, .string (mkS p))]) (by kernel_rfl) ?_
  refine Op.call0 (dst := some 13) (f := 43) (args := #[.string (mkS p)]) (by kernel_rfl) s0 (partsR _ _ _ s0.sub hG p (by first | omega | (have := pList_len p; simp only [List.nil_append, List.length_nil, List.length_append]; omega))) ?_
  rintro _ g626 _ h620 hle627 s621 ⟨v622, rfl, hr623, rfl⟩
  obtain ⟨a624, n625, rfl⟩ := hr623.form
  replace hG := hG.mono hle627
  replace h_parts := h_parts.mono hle627
  refine Op.pures 5 [1, 6, 7] (L' := []) (e' := [(1, .slice a_parts parts.length n_parts), (6, .slice a624 ((pList p).length) n625), (7, .int .i64 (pErr p))]) (by kernel_rfl) ?_
  refine Op.goto 2 (by kernel_rfl) ?_
  refine At.reg (L := [(0, false), (1, false), (2, false), (3, false), (4, false), (5, false), (6, false)]) (by kernel_rfl) ?_
  refine Op.pures 3 [1, 6, 18] (L' := [(3, false), (4, false), (5, false), (6, false)]) (e' := [(1, .slice a_parts parts.length n_parts), (6, .slice a624 ((pList p).length) n625), (18, .bool ((pErr p) != (0 : Int)))]) (by kernel_rfl) ?_
  refine Op.ways (b := (pErr p) != (0 : Int)) ⟨fun hb => ?_, fun hb => ?_⟩
  · refine Op.cast (e' := [(1, .slice a_parts parts.length n_parts), (6, .slice a624 ((pList p).length) n625), (18, .bool true)]) (by rw [hb]) ?_
    have c628 : ¬ ((pErr p) = (0 : Int)) := bneT hb
    clear hb
    refine Op.pures 4 [1, 6, 22] (L' := []) (e' := [(1, .slice a_parts parts.length n_parts), (6, .slice a624 ((pList p).length) n625), (22, .bool true)]) (by kernel_rfl) ?_
    refine Op.goto 3 (by kernel_rfl) ?_
    refine At.condT (c := .tmp 22) (by kernel_rfl) (by kernel_rfl) (by kernel_rfl) 4 (by kernel_rfl) ?_
    refine At.reg (L := [(0, false), (1, false)]) (by kernel_rfl) ?_
    refine Op.pures 2 [4, 5] (L' := []) (e' := [(4, .string (mkS [])), (5, .int .i64 90)]) (by kernel_rfl) ?_
    refine Op.goto 5 (by kernel_rfl) ?_
    refine At.ret (f := Tryd.f47) (v := .tuple #[.string (mkS []), .int .i64 90]) (by kernel_rfl) (by kernel_rfl) ?_
    refine hR _ _ _ _ s621.fin ⟨?_, rfl, rfl⟩
    exact eqT2 (eqS (by first | exact (joinP_n1 (by assumption)).1 | exact (joinP_n1 (by assumption)).2 | exact (joinR_n2 (by assumption)).1 | exact (joinR_n2 (by assumption)).2)) (eqI (by first | exact (joinP_n1 (by assumption)).1 | exact (joinP_n1 (by assumption)).2 | exact (joinR_n2 (by assumption)).1 | exact (joinR_n2 (by assumption)).2))
  · refine Op.cast (e' := [(1, .slice a_parts parts.length n_parts), (6, .slice a624 ((pList p).length) n625), (18, .bool false)]) (by rw [hb]) ?_
    have c629 : (pErr p) = (0 : Int) := bneF hb
    clear hb
    refine Op.pures 4 [1, 6, 22] (L' := []) (e' := [(1, .slice a_parts parts.length n_parts), (6, .slice a624 ((pList p).length) n625), (22, .bool (decide ((parts.length : Int) > (64 : Int))))]) (by kernel_rfl) ?_
    refine Op.goto 3 (by kernel_rfl) ?_
    refine At.cond (b := decide ((parts.length : Int) > (64 : Int))) (c := .tmp 22) (by kernel_rfl) (by kernel_rfl) (by kernel_rfl) 4 6 (by kernel_rfl) (by kernel_rfl) (fun hb => ?_) (fun hb => ?_)
    · have c630 : (parts.length : Int) > (64 : Int) := of_decide_eq_true hb
      clear hb
      refine At.keep [] ?_; show At _ _ _ [] _
      refine At.reg (L := [(0, false), (1, false)]) (by kernel_rfl) ?_
      refine Op.pures 2 [4, 5] (L' := []) (e' := [(4, .string (mkS [])), (5, .int .i64 90)]) (by kernel_rfl) ?_
      refine Op.goto 5 (by kernel_rfl) ?_
      refine At.ret (f := Tryd.f47) (v := .tuple #[.string (mkS []), .int .i64 90]) (by kernel_rfl) (by kernel_rfl) ?_
      refine hR _ _ _ _ s621.fin ⟨?_, rfl, rfl⟩
      exact eqT2 (eqS (by first | exact (joinP_n1 (by assumption)).1 | exact (joinP_n1 (by assumption)).2 | exact (joinR_n2 (by assumption)).1 | exact (joinR_n2 (by assumption)).2)) (eqI (by first | exact (joinP_n1 (by assumption)).1 | exact (joinP_n1 (by assumption)).2 | exact (joinR_n2 (by assumption)).1 | exact (joinR_n2 (by assumption)).2))
    · have c631 : ¬ ((parts.length : Int) > (64 : Int)) := of_decide_eq_false hb
      clear hb
      refine At.keep [1, 6] ?_; show At _ _ _ [(1, .slice a_parts parts.length n_parts), (6, .slice a624 ((pList p).length) n625)] _
      refine At.reg (L := [(0, false)]) (by kernel_rfl) ?_
      refine Op.pures 1 [1, 6, 8] (L' := []) (e' := [(1, .slice a_parts parts.length n_parts), (6, .slice a624 ((pList p).length) n625), (8, .int .i64 0)]) (by kernel_rfl) ?_
      refine Op.goto 7 (by kernel_rfl) ?_
      have loop7 : ∀ (m : Nat) (i : Int) (h632 : Heap) (hm : parts.length - i.toNat < m) (h0 : 0 ≤ i) (h2 : i ≤ parts.length) (hk : okTo parts i)  (s_loop7631 : St h g (ids []) g626 [] h632), At (fctx Tryd.prog B 47 Tryd.f47 R) [] 7 [(1, .slice a_parts parts.length n_parts), (6, .slice a624 ((pList p).length) n625), (8, .int .i64 i)] h632 := by
        intro m; induction m with
        | zero => intros; omega
        | succ m ih7 =>
          intro i h632 hm h0 h2 hk s_loop7631
          refine At.reg (L := [(0, false), (1, false), (2, false), (3, false)]) (by kernel_rfl) ?_
          refine Op.pures 4 [1, 6, 8, 26] (L' := []) (e' := [(1, .slice a_parts parts.length n_parts), (6, .slice a624 ((pList p).length) n625), (8, .int .i64 i), (26, .bool (decide (i < (parts.length : Int))))]) (by kernel_rfl) ?_
          refine Op.goto 8 (by kernel_rfl) ?_
          refine At.cond (b := decide (i < (parts.length : Int))) (c := .tmp 26) (by kernel_rfl) (by kernel_rfl) (by kernel_rfl) 9 14 (by kernel_rfl) (by kernel_rfl) (fun hb => ?_) (fun hb => ?_)
          · have c633 : i < (parts.length : Int) := of_decide_eq_true hb
            clear hb
            refine At.keep [1, 6, 8] ?_; show At _ _ _ [(1, .slice a_parts parts.length n_parts), (6, .slice a624 ((pList p).length) n625), (8, .int .i64 i)] _
            refine At.reg (L := [(0, false), (1, false), (2, false), (3, false), (4, false), (5, false)]) (by kernel_rfl) ?_
            refine Op.pures 2 [1, 6, 8, 29, 30] (L' := [(2, false), (3, false), (4, false), (5, false)]) (e' := [(1, .slice a_parts parts.length n_parts), (6, .slice a624 ((pList p).length) n625), (8, .int .i64 i), (29, .slice a_parts parts.length n_parts), (30, .int .i64 i)]) (by kernel_rfl) ?_
            obtain ⟨x634, hx635⟩ : ∃ c, parts[(i : Int).toNat]? = some c := ⟨_, List.getElem?_eq_getElem (by first | omega | (have := pList_len p; simp only [List.nil_append, List.length_nil, List.length_append]; omega))⟩
            obtain ⟨b636, o637, cu638, fz639, ha640, hb641, hk642⟩ := SlH.at_ (h_parts.toH s_loop7631.sub) _ hx635
            cases ha640
            refine Op.idx (T := 37) (E := 9) (sz := 1) (by_ := 16) (n := parts.length) (c := n_parts) (k := .i64) (x := (.tmp 29)) (ix := (.tmp 30)) (dst := 31) (bk := b636) (o := o637) (m := i) (by kernel_rfl) (by kernel_rfl) (by kernel_rfl) (by kernel_rfl) (by first | omega | (have := pList_len p; simp only [List.nil_append, List.length_nil, List.length_append]; omega)) (by first | omega | (have := pList_len p; simp only [List.nil_append, List.length_nil, List.length_append]; omega)) ?_
            replace hk642 : cut _ _ _ = [.string (mkS x634)] := hk642
            refine Op.load (T := 9) (x := (.tmp 31)) (o := o637 + (i : Int).toNat * 1) (d := 32) (n := 1) (v := .string (mkS x634)) (by kernel_rfl) (by kernel_rfl) (by kernel_rfl) hb641 (cut_get hk642 0 rfl) ?_
            refine Op.call0 (dst := some 33) (f := 69) (args := #[.string (mkS x634)]) (by kernel_rfl) s_loop7631 (partR _ _ _ s_loop7631.sub hG x634 (by exact hall _ (List.mem_of_getElem? hx635))) ?_
            rintro _ g645 _ h643 hle646 s644 ⟨rfl, hgg, rfl⟩; subst g645; clear hle646
            refine Op.pures 1 [1, 6, 8, 34] (L' := []) (e' := [(1, .slice (some ⟨b636, o637, none⟩) parts.length n_parts), (6, .slice a624 ((pList p).length) n625), (8, .int .i64 i), (34, .bool (!(okPart x634)))]) (by kernel_rfl) ?_
            refine Op.goto 10 (by kernel_rfl) ?_
            refine At.cond (b := !(okPart x634)) (c := .tmp 34) (by kernel_rfl) (by kernel_rfl) (by kernel_rfl) 11 13 (by kernel_rfl) (by kernel_rfl) (fun hb => ?_) (fun hb => ?_)
            · have c647 : (okPart x634) = false := (notT hb)
              clear hb
              refine At.keep [] ?_; show At _ _ _ [] _
              refine At.reg (L := [(0, false), (1, false)]) (by kernel_rfl) ?_
              refine Op.pures 2 [4, 5] (L' := []) (e' := [(4, .string (mkS [])), (5, .int .i64 90)]) (by kernel_rfl) ?_
              refine Op.goto 12 (by kernel_rfl) ?_
              refine At.ret (f := Tryd.f47) (v := .tuple #[.string (mkS []), .int .i64 90]) (by kernel_rfl) (by kernel_rfl) ?_
              refine hR _ _ _ _ s644.fin ⟨?_, rfl, rfl⟩
              exact eqT2 (eqS (by first | exact (joinP_n2 (badAt hx635 (by assumption))).1 | exact (joinP_n2 (badAt hx635 (by assumption))).2)) (eqI (by first | exact (joinP_n2 (badAt hx635 (by assumption))).1 | exact (joinP_n2 (badAt hx635 (by assumption))).2))
            · have c648 : (okPart x634) = true := (notF hb)
              clear hb
              refine At.keep [1, 6, 8] ?_; show At _ _ _ [(1, .slice (some ⟨b636, o637, none⟩) parts.length n_parts), (6, .slice a624 ((pList p).length) n625), (8, .int .i64 i)] _
              refine At.reg (L := [(0, false), (1, false), (2, false)]) (by kernel_rfl) ?_
              refine Op.pures 1 [1, 6, 8, 27] (L' := [(1, false), (2, false)]) (e' := [(1, .slice (some ⟨b636, o637, none⟩) parts.length n_parts), (6, .slice a624 ((pList p).length) n625), (8, .int .i64 i), (27, .int .i64 i)]) (by kernel_rfl) ?_
              refine Op.val (dst := some 28) (v := .int .i64 (IntKind.wrap .i64 (i + 1))) (v' := .int .i64 (i + 1)) (by kernel_rfl) (wrapEq_i64 (by first | omega | (have := pList_len p; simp only [List.nil_append, List.length_nil, List.length_append]; omega)) (by first | omega | (have := pList_len p; simp only [List.nil_append, List.length_nil, List.length_append]; omega))) ?_
              refine Op.pures 1 [1, 6, 8] (L' := []) (e' := [(1, .slice (some ⟨b636, o637, none⟩) parts.length n_parts), (6, .slice a624 ((pList p).length) n625), (8, .int .i64 (i + 1))]) (by kernel_rfl) ?_
              refine Op.goto 7 (by kernel_rfl) ?_
              exact ih7  (i + 1) _ (by omega) (by first | omega | (have := pList_len p; simp only [List.nil_append, List.length_nil, List.length_append]; omega)) (by first | omega | (have := pList_len p; simp only [List.nil_append, List.length_nil, List.length_append]; omega)) (by exact okTo_step hk h0 hx635 (by assumption))  s644
          · have c649 : ¬ (i < (parts.length : Int)) := of_decide_eq_false hb
            clear hb
            refine At.keep [1, 6] ?_; show At _ _ _ [(1, .slice a_parts parts.length n_parts), (6, .slice a624 ((pList p).length) n625)] _
            refine At.reg (L := [(0, false), (1, false), (2, false), (3, false)]) (by kernel_rfl) ?_
            refine Op.lit (T := 37) (len := 0) (parts := #[]) (dst := 35) (E := 9) (ps := []) (cs := #[]) (by kernel_rfl) (by kernel_rfl) (by kernel_rfl) s_loop7631 ?_
            intro b650 h651 s652
            refine Op.pures 1 [1, 35, 36] (L' := [(2, false), (3, false)]) (e' := [(1, .slice a_parts parts.length n_parts), (35, .slice (some ⟨b650, 0, none⟩) 0 0), (36, .slice a624 ((pList p).length) n625)]) (by kernel_rfl) ?_
            have R653 : Row 9 kStr g626 (.slice (some ⟨b650, 0, none⟩) 0 0) ([] : List (List UInt8)) [(b650, .cells #[] 9 (0, 0))] := .inr ⟨_, _, _, _, rfl, rfl, Nat.le_of_ble_eq_true (by kernel_rfl), by unfold maxLen; decide, Nat.le_of_ble_eq_true (by kernel_rfl), Reads.nil⟩
            obtain ⟨ns654, hs655, hr656⟩ := Src.slice (P := Tryd.prog) (hr623.toH s652.sub)
            refine Op.append (x := (.tmp 35)) (y := (.tmp 36)) (t := 37) (t' := 37) (dst := 37) (E := 9) (by_ := 16) (d := kStr) (by kernel_rfl) (by kernel_rfl) (by kernel_rfl) rfl R653 s652 0 rfl hs655 (ys := pList p) hr656 rfl (by first | omega | (have := pList_len p; simp only [List.nil_append, List.length_nil, List.length_append]; omega)) (fun _ _ _ => trivial) ?_
            intro v657 ch658 h659 R660 s661 nn662
            obtain ⟨a663, n664, rfl⟩ := R660.form
            refine Op.pures 1 [1, 9] (L' := []) (e' := [(1, .slice a_parts parts.length n_parts), (9, .slice a663 ((([] : List (List UInt8)) ++ (pList p)).length) n664)]) (by kernel_rfl) ?_
            refine Op.goto 15 (by kernel_rfl) ?_
            refine At.reg (L := [(0, false), (1, false), (2, false), (3, false), (4, false)]) (by kernel_rfl) ?_
            refine Op.pures 2 [38, 39] (L' := [(2, false), (3, false), (4, false)]) (e' := [(38, .slice a663 ((([] : List (List UInt8)) ++ (pList p)).length) n664), (39, .slice a_parts parts.length n_parts)]) (by kernel_rfl) ?_
            obtain ⟨ns665, hs666, hr667⟩ := Src.slice (P := Tryd.prog) (h_parts.toH s661.sub)
            refine Op.append (x := (.tmp 38)) (y := (.tmp 39)) (t := 37) (t' := 37) (dst := 40) (E := 9) (by_ := 16) (d := kStr) (by kernel_rfl) (by kernel_rfl) (by kernel_rfl) rfl R660 s661 0 rfl hs666 (ys := parts) hr667 rfl (by first | omega | (have := pList_len p; simp only [List.nil_append, List.length_nil, List.length_append]; omega)) (fun _ _ _ => trivial) ?_
            intro v668 ch669 h670 R671 s672 nn673
            obtain ⟨a674, n675, rfl⟩ := R671.form
            obtain ⟨g676, s677, hle678, hf679⟩ := Row.freeze R671 (s672.front 0 rfl)
            replace hG := hG.mono hle678
            replace h_parts := h_parts.mono hle678
            refine Op.call0 (dst := some 41) (f := 62) (args := #[.slice a674 (((([] : List (List UInt8)) ++ (pList p)) ++ parts).length) n675]) (by kernel_rfl) s677 (wholeR _ _ _ s677.sub hG _ _ hf679 (by first | (have := pList_len p; simp; omega) | (have := (joinAll_len p (okTo_end hk (by assumption)) (by omega)).1; simp only [List.nil_append]; omega)) (by first | (have := pList_len p; simp; omega) | (have := (joinAll_len p (okTo_end hk (by assumption)) (by omega)).1; simp only [List.nil_append]; omega))) ?_
            rintro _ g682 _ h680 hle683 s681 ⟨rfl, hgg, rfl⟩; subst g682; clear hle683
            refine Op.pures 1 [10] (L' := []) (e' := [(10, .string (mkS (joined ((([] : List (List UInt8)) ++ (pList p)) ++ parts))))]) (by kernel_rfl) ?_
            refine Op.goto 16 (by kernel_rfl) ?_
            refine At.reg (L := [(0, false), (1, false), (2, false)]) (by kernel_rfl) ?_
            refine Op.pures 1 [10, 42] (L' := [(1, false), (2, false)]) (e' := [(10, .string (mkS (joined ((([] : List (List UInt8)) ++ (pList p)) ++ parts)))), (42, .string (mkS (joined ((([] : List (List UInt8)) ++ (pList p)) ++ parts))))]) (by kernel_rfl) ?_
            refine Op.call0 (dst := some 43) (f := 39) (args := #[.string (mkS (joined ((([] : List (List UInt8)) ++ (pList p)) ++ parts)))]) (by kernel_rfl) s681 (checkR _ _ _ s681.sub hG (joined ((([] : List (List UInt8)) ++ (pList p)) ++ parts)) (by (have := (joinAll_len p (okTo_end hk (by assumption)) (by omega)).1; simp only [List.nil_append]; omega))) ?_
            rintro _ g686 _ h684 hle687 s685 ⟨rfl, hgg, rfl⟩; subst g686; clear hle687
            refine Op.pures 1 [10, 44] (L' := []) (e' := [(10, .string (mkS (joined ((([] : List (List UInt8)) ++ (pList p)) ++ parts)))), (44, .bool ((pErr (joined ((([] : List (List UInt8)) ++ (pList p)) ++ parts))) != (0 : Int)))]) (by kernel_rfl) ?_
            refine Op.goto 17 (by kernel_rfl) ?_
            refine At.cond (b := (pErr (joined ((([] : List (List UInt8)) ++ (pList p)) ++ parts))) != (0 : Int)) (c := .tmp 44) (by kernel_rfl) (by kernel_rfl) (by kernel_rfl) 18 20 (by kernel_rfl) (by kernel_rfl) (fun hb => ?_) (fun hb => ?_)
            · have c688 : ¬ ((pErr (joined ((([] : List (List UInt8)) ++ (pList p)) ++ parts))) = (0 : Int)) := bneT hb
              clear hb
              refine At.keep [] ?_; show At _ _ _ [] _
              refine At.reg (L := [(0, false), (1, false)]) (by kernel_rfl) ?_
              refine Op.pures 2 [4, 5] (L' := []) (e' := [(4, .string (mkS [])), (5, .int .i64 90)]) (by kernel_rfl) ?_
              refine Op.goto 19 (by kernel_rfl) ?_
              refine At.ret (f := Tryd.f47) (v := .tuple #[.string (mkS []), .int .i64 90]) (by kernel_rfl) (by kernel_rfl) ?_
              refine hR _ _ _ _ s685.fin ⟨?_, rfl, rfl⟩
              exact eqT2 (eqS (by first | exact (joinR_n4 (by assumption) (okTo_end hk (by assumption)) (by assumption)).1 | exact (joinR_n4 (by assumption) (okTo_end hk (by assumption)) (by assumption)).2)) (eqI (by first | exact (joinR_n4 (by assumption) (okTo_end hk (by assumption)) (by assumption)).1 | exact (joinR_n4 (by assumption) (okTo_end hk (by assumption)) (by assumption)).2))
            · have c689 : (pErr (joined ((([] : List (List UInt8)) ++ (pList p)) ++ parts))) = (0 : Int) := bneF hb
              clear hb
              refine At.keep [10] ?_; show At _ _ _ [(10, .string (mkS (joined ((([] : List (List UInt8)) ++ (pList p)) ++ parts))))] _
              refine At.reg (L := [(0, false), (1, false), (2, false)]) (by kernel_rfl) ?_
              refine Op.pures 3 [4, 5] (L' := []) (e' := [(4, .string (mkS (joined ((([] : List (List UInt8)) ++ (pList p)) ++ parts)))), (5, .int .i64 0)]) (by kernel_rfl) ?_
              refine Op.goto 21 (by kernel_rfl) ?_
              refine At.ret (f := Tryd.f47) (v := .tuple #[.string (mkS (joined ((([] : List (List UInt8)) ++ (pList p)) ++ parts))), .int .i64 0]) (by kernel_rfl) (by kernel_rfl) ?_
              refine hR _ _ _ _ s685.fin ⟨?_, rfl, rfl⟩
              exact eqT2 (eqS (by first | exact (joinR_y (by assumption) (okTo_end hk (by assumption)) (by assumption)).1 | exact (joinR_y (by assumption) (okTo_end hk (by assumption)) (by assumption)).2)) (eqI (by first | exact (joinR_y (by assumption) (okTo_end hk (by assumption)) (by assumption)).1 | exact (joinR_y (by assumption) (okTo_end hk (by assumption)) (by assumption)).2))
      exact loop7 _  0 _ (Nat.lt_succ_self _) (by first | omega | (have := pList_len p; simp only [List.nil_append, List.length_nil, List.length_append]; omega)) (by first | omega | (have := pList_len p; simp only [List.nil_append, List.length_nil, List.length_append]; omega)) (by exact okTo_0 _)  s621

/-- stanchion/stanchionlaw09.alive -/
theorem alive09 (B : World) (h : Heap) (g : GH) (hg : Sub g h) (hG : Glob g)  (hP : Pow10 g) :
    Spec Tryd.prog B 33 #[] h g [] (fun v g' L' => v = .bool true ∧ g' = g ∧ L' = []) := by
  refine Spec.of_at (f := Tryd.f33) (e := []) Tryd.func33 (by kernel_rfl) (Nat.le_of_ble_eq_true (by kernel_rfl)) (by kernel_rfl) (by kernel_rfl) ?_
  intro R hR
  have s0 := St.init hg
  refine At.reg (L := [(0, false)]) (by kernel_rfl) ?_
  refine Op.pures 1 [] (L' := []) (e' := []) (by kernel_rfl) ?_
  refine Op.goto 1 (by kernel_rfl) ?_
  refine At.reg (L := [(0, false), (1, false), (2, false), (3, false), (4, false), (5, false)]) (by kernel_rfl) ?_
  refine Op.call0 (dst := some 10) (f := 34) (args := #[.string (mkS ([47, 97, 47, 98]))]) (by kernel_rfl) s0 (parentP _ _ _ s0.sub hG ([47, 97, 47, 98]) (by first | omega | decide)) ?_
  rintro _ g692 _ h690 hle693 s691 ⟨rfl, hgg, rfl⟩; subst g692; clear hle693
  refine Op.pures 5 [1, 2] (L' := []) (e' := [(1, .string (mkS (parentOf ([47, 97, 47, 98])))), (2, .int .i64 (cutErr ([47, 97, 47, 98])))]) (by kernel_rfl) ?_
  refine Op.goto 2 (by kernel_rfl) ?_
  refine At.reg (L := [(0, false), (1, false), (2, false), (3, false), (4, false), (5, false)]) (by kernel_rfl) ?_
  refine Op.call0 (dst := some 14) (f := 36) (args := #[.string (mkS ([47, 97, 47, 98]))]) (by kernel_rfl) s691 (nameP _ _ _ s691.sub hG ([47, 97, 47, 98]) (by first | omega | decide)) ?_
  rintro _ g696 _ h694 hle697 s695 ⟨rfl, hgg, rfl⟩; subst g696; clear hle697
  refine Op.pures 5 [1, 2, 3, 4] (L' := []) (e' := [(1, .string (mkS (parentOf ([47, 97, 47, 98])))), (2, .int .i64 (cutErr ([47, 97, 47, 98]))), (3, .string (mkS (nameOf ([47, 97, 47, 98])))), (4, .int .i64 (cutErr ([47, 97, 47, 98])))]) (by kernel_rfl) ?_
  refine Op.goto 3 (by kernel_rfl) ?_
  refine At.reg (L := [(0, false), (1, false), (2, false), (3, false), (4, false), (5, false)]) (by kernel_rfl) ?_
  refine Op.call0 (dst := some 18) (f := 44) (args := #[.string (mkS ([47, 113, 47, 116, 45])), .int .i64 7]) (by kernel_rfl) s695 (numberedP _ _ _ s695.sub hG ([47, 113, 47, 116, 45]) 7 hP (by first | omega | decide) (by first | omega | decide) (by first | omega | decide)) ?_
  rintro _ g700 _ h698 hle701 s699 ⟨rfl, hgg, rfl⟩; subst g700; clear hle701
  refine Op.pures 5 [1, 2, 3, 4, 5, 6] (L' := []) (e' := [(1, .string (mkS (parentOf ([47, 97, 47, 98])))), (2, .int .i64 (cutErr ([47, 97, 47, 98]))), (3, .string (mkS (nameOf ([47, 97, 47, 98])))), (4, .int .i64 (cutErr ([47, 97, 47, 98]))), (5, .string (mkS (numS ([47, 113, 47, 116, 45]) 7))), (6, .int .i64 (numE ([47, 113, 47, 116, 45]) 7))]) (by kernel_rfl) ?_
  refine Op.goto 4 (by kernel_rfl) ?_
  refine At.reg (L := [(0, false), (1, false), (2, false), (3, false), (4, false), (5, false), (6, false)]) (by kernel_rfl) ?_
  refine Op.lit (T := 37) (len := 2) (parts := #[(0, (.const (.string (mkS ([120]))))), (1, (.const (.string (mkS ([121])))))]) (dst := 22) (E := 9) (ps := [(0, .string (mkS ([120]))), (1, .string (mkS ([121])))]) (cs := #[.string (mkS ([120])), .string (mkS ([121]))]) (by kernel_rfl) (by kernel_rfl) (by kernel_rfl) s699 ?_
  intro b702 h703 s704
  have R705 : Row 9 kStr g (.slice (some ⟨b702, 0, none⟩) 2 2) [[120], [121]] [(b702, .cells #[.string (mkS ([120])), .string (mkS ([121]))] 9 (0, 0))] := .inr ⟨_, _, _, _, rfl, rfl, Nat.le_of_ble_eq_true (by kernel_rfl), by unfold maxLen; decide, Nat.le_of_ble_eq_true (by kernel_rfl), ⟨_, _, rfl, rfl, ⟨_, _, rfl, rfl, Reads.nil⟩⟩⟩
  obtain ⟨g706, s707, hle708, hf709⟩ := Row.freeze R705 (s704.front 0 rfl)
  replace hG := hG.mono hle708
  replace hP := hP.mono hle708
  refine Op.call0 (dst := some 23) (f := 46) (args := #[.string (mkS ([47])), .slice (some ⟨b702, 0, none⟩) 2 2]) (by kernel_rfl) s707 (joinP _ _ _ s707.sub hG ([47]) _ _ hf709 (by first | omega | decide) (by first | omega | decide) (by first | omega | decide)) ?_
  rintro _ g712 _ h710 hle713 s711 ⟨rfl, hgg, rfl⟩; subst g712; clear hle713
  refine Op.pures 5 [1, 2, 3, 4, 5, 6, 7, 8] (L' := []) (e' := [(1, .string (mkS (parentOf ([47, 97, 47, 98])))), (2, .int .i64 (cutErr ([47, 97, 47, 98]))), (3, .string (mkS (nameOf ([47, 97, 47, 98])))), (4, .int .i64 (cutErr ([47, 97, 47, 98]))), (5, .string (mkS (numS ([47, 113, 47, 116, 45]) 7))), (6, .int .i64 (numE ([47, 113, 47, 116, 45]) 7)), (7, .string (mkS (joinS ([47]) ([[120], [121]])))), (8, .int .i64 (joinE ([47]) ([[120], [121]])))]) (by kernel_rfl) ?_
  refine Op.goto 5 (by kernel_rfl) ?_
  refine At.reg (L := [(0, false), (1, false), (2, false), (3, false), (4, false), (5, false), (6, false), (7, false), (8, false), (9, false), (10, false), (11, false), (12, false), (13, false), (14, false), (15, false), (16, false), (17, false), (18, false), (19, false), (20, false), (21, false), (22, false), (23, false), (24, false), (25, false), (26, false), (27, false), (28, false), (29, false), (30, false), (31, false), (32, false), (33, false), (34, false), (35, false), (36, false), (37, false)]) (by kernel_rfl) ?_
  refine Op.pures 3 [1, 3, 4, 5, 6, 7, 8, 28] (L' := [(3, false), (4, false), (5, false), (6, false), (7, false), (8, false), (9, false), (10, false), (11, false), (12, false), (13, false), (14, false), (15, false), (16, false), (17, false), (18, false), (19, false), (20, false), (21, false), (22, false), (23, false), (24, false), (25, false), (26, false), (27, false), (28, false), (29, false), (30, false), (31, false), (32, false), (33, false), (34, false), (35, false), (36, false), (37, false)]) (e' := [(1, .string (mkS (parentOf ([47, 97, 47, 98])))), (3, .string (mkS (nameOf ([47, 97, 47, 98])))), (4, .int .i64 (cutErr ([47, 97, 47, 98]))), (5, .string (mkS (numS ([47, 113, 47, 116, 45]) 7))), (6, .int .i64 (numE ([47, 113, 47, 116, 45]) 7)), (7, .string (mkS (joinS ([47]) ([[120], [121]])))), (8, .int .i64 (joinE ([47]) ([[120], [121]]))), (28, .bool ((cutErr ([47, 97, 47, 98])) == (0 : Int)))]) (by kernel_rfl) ?_
  refine Op.ways (b := (cutErr ([47, 97, 47, 98])) == (0 : Int)) ⟨fun hb => ?_, fun hb => ?_⟩
  · refine Op.cast (e' := [(1, .string (mkS (parentOf ([47, 97, 47, 98])))), (3, .string (mkS (nameOf ([47, 97, 47, 98])))), (4, .int .i64 (cutErr ([47, 97, 47, 98]))), (5, .string (mkS (numS ([47, 113, 47, 116, 45]) 7))), (6, .int .i64 (numE ([47, 113, 47, 116, 45]) 7)), (7, .string (mkS (joinS ([47]) ([[120], [121]])))), (8, .int .i64 (joinE ([47]) ([[120], [121]]))), (28, .bool true)]) (by rw [hb]) ?_
    have c714 : (cutErr ([47, 97, 47, 98])) = (0 : Int) := eq_of_beq hb
    clear hb
    refine Op.pures 4 [1, 3, 5, 6, 7, 8, 32] (L' := [(7, false), (8, false), (9, false), (10, false), (11, false), (12, false), (13, false), (14, false), (15, false), (16, false), (17, false), (18, false), (19, false), (20, false), (21, false), (22, false), (23, false), (24, false), (25, false), (26, false), (27, false), (28, false), (29, false), (30, false), (31, false), (32, false), (33, false), (34, false), (35, false), (36, false), (37, false)]) (e' := [(1, .string (mkS (parentOf ([47, 97, 47, 98])))), (3, .string (mkS (nameOf ([47, 97, 47, 98])))), (5, .string (mkS (numS ([47, 113, 47, 116, 45]) 7))), (6, .int .i64 (numE ([47, 113, 47, 116, 45]) 7)), (7, .string (mkS (joinS ([47]) ([[120], [121]])))), (8, .int .i64 (joinE ([47]) ([[120], [121]]))), (32, .bool ((cutErr ([47, 97, 47, 98])) == (0 : Int)))]) (by kernel_rfl) ?_
    refine Op.ways (b := (cutErr ([47, 97, 47, 98])) == (0 : Int)) ⟨fun hb => ?_, fun hb => ?_⟩
    · refine Op.cast (e' := [(1, .string (mkS (parentOf ([47, 97, 47, 98])))), (3, .string (mkS (nameOf ([47, 97, 47, 98])))), (5, .string (mkS (numS ([47, 113, 47, 116, 45]) 7))), (6, .int .i64 (numE ([47, 113, 47, 116, 45]) 7)), (7, .string (mkS (joinS ([47]) ([[120], [121]])))), (8, .int .i64 (joinE ([47]) ([[120], [121]]))), (32, .bool true)]) (by rw [hb]) ?_
      have c715 : (cutErr ([47, 97, 47, 98])) = (0 : Int) := eq_of_beq hb
      clear hb
      refine Op.pures 4 [1, 3, 5, 7, 8, 36] (L' := [(11, false), (12, false), (13, false), (14, false), (15, false), (16, false), (17, false), (18, false), (19, false), (20, false), (21, false), (22, false), (23, false), (24, false), (25, false), (26, false), (27, false), (28, false), (29, false), (30, false), (31, false), (32, false), (33, false), (34, false), (35, false), (36, false), (37, false)]) (e' := [(1, .string (mkS (parentOf ([47, 97, 47, 98])))), (3, .string (mkS (nameOf ([47, 97, 47, 98])))), (5, .string (mkS (numS ([47, 113, 47, 116, 45]) 7))), (7, .string (mkS (joinS ([47]) ([[120], [121]])))), (8, .int .i64 (joinE ([47]) ([[120], [121]]))), (36, .bool ((numE ([47, 113, 47, 116, 45]) 7) == (0 : Int)))]) (by kernel_rfl) ?_
      refine Op.ways (b := (numE ([47, 113, 47, 116, 45]) 7) == (0 : Int)) ⟨fun hb => ?_, fun hb => ?_⟩
      · refine Op.cast (e' := [(1, .string (mkS (parentOf ([47, 97, 47, 98])))), (3, .string (mkS (nameOf ([47, 97, 47, 98])))), (5, .string (mkS (numS ([47, 113, 47, 116, 45]) 7))), (7, .string (mkS (joinS ([47]) ([[120], [121]])))), (8, .int .i64 (joinE ([47]) ([[120], [121]]))), (36, .bool true)]) (by rw [hb]) ?_
        have c716 : (numE ([47, 113, 47, 116, 45]) 7) = (0 : Int) := eq_of_beq hb
        clear hb
        refine Op.pures 4 [1, 3, 5, 7, 40] (L' := [(15, false), (16, false), (17, false), (18, false), (19, false), (20, false), (21, false), (22, false), (23, false), (24, false), (25, false), (26, false), (27, false), (28, false), (29, false), (30, false), (31, false), (32, false), (33, false), (34, false), (35, false), (36, false), (37, false)]) (e' := [(1, .string (mkS (parentOf ([47, 97, 47, 98])))), (3, .string (mkS (nameOf ([47, 97, 47, 98])))), (5, .string (mkS (numS ([47, 113, 47, 116, 45]) 7))), (7, .string (mkS (joinS ([47]) ([[120], [121]])))), (40, .bool ((joinE ([47]) ([[120], [121]])) == (0 : Int)))]) (by kernel_rfl) ?_
        refine Op.ways (b := (joinE ([47]) ([[120], [121]])) == (0 : Int)) ⟨fun hb => ?_, fun hb => ?_⟩
        · refine Op.cast (e' := [(1, .string (mkS (parentOf ([47, 97, 47, 98])))), (3, .string (mkS (nameOf ([47, 97, 47, 98])))), (5, .string (mkS (numS ([47, 113, 47, 116, 45]) 7))), (7, .string (mkS (joinS ([47]) ([[120], [121]])))), (40, .bool true)]) (by rw [hb]) ?_
          have c717 : (joinE ([47]) ([[120], [121]])) = (0 : Int) := eq_of_beq hb
          clear hb
          refine Op.pures 1 [3, 5, 7, 40, 41] (L' := [(16, false), (17, false), (18, false), (19, false), (20, false), (21, false), (22, false), (23, false), (24, false), (25, false), (26, false), (27, false), (28, false), (29, false), (30, false), (31, false), (32, false), (33, false), (34, false), (35, false), (36, false), (37, false)]) (e' := [(3, .string (mkS (nameOf ([47, 97, 47, 98])))), (5, .string (mkS (numS ([47, 113, 47, 116, 45]) 7))), (7, .string (mkS (joinS ([47]) ([[120], [121]])))), (40, .bool true), (41, .string (mkS (parentOf ([47, 97, 47, 98]))))]) (by kernel_rfl) ?_
          refine Op.val (dst := some 42) (v := .bool ((mkS (parentOf ([47, 97, 47, 98]))).toList == (mkS ([47, 97])).toList)) (v' := .bool ((parentOf ([47, 97, 47, 98])) == ([47, 97]))) (by kernel_rfl) (by rw [toList_mkS, toList_mkS]) ?_
          refine Op.pures 2 [3, 5, 7, 44] (L' := [(19, false), (20, false), (21, false), (22, false), (23, false), (24, false), (25, false), (26, false), (27, false), (28, false), (29, false), (30, false), (31, false), (32, false), (33, false), (34, false), (35, false), (36, false), (37, false)]) (e' := [(3, .string (mkS (nameOf ([47, 97, 47, 98])))), (5, .string (mkS (numS ([47, 113, 47, 116, 45]) 7))), (7, .string (mkS (joinS ([47]) ([[120], [121]])))), (44, .bool ((parentOf ([47, 97, 47, 98])) == ([47, 97])))]) (by kernel_rfl) ?_
          refine Op.ways (b := (parentOf ([47, 97, 47, 98])) == ([47, 97])) ⟨fun hb => ?_, fun hb => ?_⟩
          · refine Op.cast (e' := [(3, .string (mkS (nameOf ([47, 97, 47, 98])))), (5, .string (mkS (numS ([47, 113, 47, 116, 45]) 7))), (7, .string (mkS (joinS ([47]) ([[120], [121]])))), (44, .bool true)]) (by rw [hb]) ?_
            have c718 : (parentOf ([47, 97, 47, 98])) = ([47, 97]) := eq_of_beq hb
            clear hb
            refine Op.pures 1 [5, 7, 44, 45] (L' := [(20, false), (21, false), (22, false), (23, false), (24, false), (25, false), (26, false), (27, false), (28, false), (29, false), (30, false), (31, false), (32, false), (33, false), (34, false), (35, false), (36, false), (37, false)]) (e' := [(5, .string (mkS (numS ([47, 113, 47, 116, 45]) 7))), (7, .string (mkS (joinS ([47]) ([[120], [121]])))), (44, .bool true), (45, .string (mkS (nameOf ([47, 97, 47, 98]))))]) (by kernel_rfl) ?_
            refine Op.val (dst := some 46) (v := .bool ((mkS (nameOf ([47, 97, 47, 98]))).toList == (mkS ([98])).toList)) (v' := .bool ((nameOf ([47, 97, 47, 98])) == ([98]))) (by kernel_rfl) (by rw [toList_mkS, toList_mkS]) ?_
            refine Op.pures 2 [5, 7, 48] (L' := [(23, false), (24, false), (25, false), (26, false), (27, false), (28, false), (29, false), (30, false), (31, false), (32, false), (33, false), (34, false), (35, false), (36, false), (37, false)]) (e' := [(5, .string (mkS (numS ([47, 113, 47, 116, 45]) 7))), (7, .string (mkS (joinS ([47]) ([[120], [121]])))), (48, .bool ((nameOf ([47, 97, 47, 98])) == ([98])))]) (by kernel_rfl) ?_
            refine Op.ways (b := (nameOf ([47, 97, 47, 98])) == ([98])) ⟨fun hb => ?_, fun hb => ?_⟩
            · refine Op.cast (e' := [(5, .string (mkS (numS ([47, 113, 47, 116, 45]) 7))), (7, .string (mkS (joinS ([47]) ([[120], [121]])))), (48, .bool true)]) (by rw [hb]) ?_
              have c719 : (nameOf ([47, 97, 47, 98])) = ([98]) := eq_of_beq hb
              clear hb
              refine Op.pures 1 [7, 48, 49] (L' := [(24, false), (25, false), (26, false), (27, false), (28, false), (29, false), (30, false), (31, false), (32, false), (33, false), (34, false), (35, false), (36, false), (37, false)]) (e' := [(7, .string (mkS (joinS ([47]) ([[120], [121]])))), (48, .bool true), (49, .string (mkS (numS ([47, 113, 47, 116, 45]) 7)))]) (by kernel_rfl) ?_
              refine Op.val (dst := some 50) (v := .bool ((mkS (numS ([47, 113, 47, 116, 45]) 7)).toList == (mkS ([47, 113, 47, 116, 45, 48, 48, 48, 48, 55])).toList)) (v' := .bool ((numS ([47, 113, 47, 116, 45]) 7) == ([47, 113, 47, 116, 45, 48, 48, 48, 48, 55]))) (by kernel_rfl) (by rw [toList_mkS, toList_mkS]) ?_
              refine Op.pures 2 [7, 52] (L' := [(27, false), (28, false), (29, false), (30, false), (31, false), (32, false), (33, false), (34, false), (35, false), (36, false), (37, false)]) (e' := [(7, .string (mkS (joinS ([47]) ([[120], [121]])))), (52, .bool ((numS ([47, 113, 47, 116, 45]) 7) == ([47, 113, 47, 116, 45, 48, 48, 48, 48, 55])))]) (by kernel_rfl) ?_
              refine Op.ways (b := (numS ([47, 113, 47, 116, 45]) 7) == ([47, 113, 47, 116, 45, 48, 48, 48, 48, 55])) ⟨fun hb => ?_, fun hb => ?_⟩
              · refine Op.cast (e' := [(7, .string (mkS (joinS ([47]) ([[120], [121]])))), (52, .bool true)]) (by rw [hb]) ?_
                have c720 : (numS ([47, 113, 47, 116, 45]) 7) = ([47, 113, 47, 116, 45, 48, 48, 48, 48, 55]) := eq_of_beq hb
                clear hb
                refine Op.pures 1 [52, 53] (L' := [(28, false), (29, false), (30, false), (31, false), (32, false), (33, false), (34, false), (35, false), (36, false), (37, false)]) (e' := [(52, .bool true), (53, .string (mkS (joinS ([47]) ([[120], [121]]))))]) (by kernel_rfl) ?_
                refine Op.val (dst := some 54) (v := .bool ((mkS (joinS ([47]) ([[120], [121]]))).toList == (mkS ([47, 120, 47, 121])).toList)) (v' := .bool ((joinS ([47]) ([[120], [121]])) == ([47, 120, 47, 121]))) (by kernel_rfl) (by rw [toList_mkS, toList_mkS]) ?_
                refine Op.pures 2 [56] (L' := [(31, false), (32, false), (33, false), (34, false), (35, false), (36, false), (37, false)]) (e' := [(56, .bool ((joinS ([47]) ([[120], [121]])) == ([47, 120, 47, 121])))]) (by kernel_rfl) ?_
                refine Op.ways (b := (joinS ([47]) ([[120], [121]])) == ([47, 120, 47, 121])) ⟨fun hb => ?_, fun hb => ?_⟩
                · refine Op.cast (e' := [(56, .bool true)]) (by rw [hb]) ?_
                  have c721 : (joinS ([47]) ([[120], [121]])) = ([47, 120, 47, 121]) := eq_of_beq hb
                  clear hb
                  refine Op.call0 (dst := some 57) (f := 40) (args := #[.string (mkS ([47, 97, 47, 98])), .string (mkS ([47, 97]))]) (by kernel_rfl) s711 (withinP _ _ _ s711.sub hG ([47, 97, 47, 98]) ([47, 97]) (by first | omega | decide) (by first | omega | decide)) ?_
                  rintro _ g724 _ h722 hle725 s723 ⟨rfl, hgg, rfl⟩; subst g724; clear hle725
                  refine Op.pures 2 [59] (L' := [(34, false), (35, false), (36, false), (37, false)]) (e' := [(59, .bool (withinB ([47, 97, 47, 98]) ([47, 97])))]) (by kernel_rfl) ?_
                  refine Op.ways (b := withinB ([47, 97, 47, 98]) ([47, 97])) ⟨fun hb => ?_, fun hb => ?_⟩
                  · refine Op.cast (e' := [(59, .bool true)]) (by rw [hb]) ?_
                    have c726 : (withinB ([47, 97, 47, 98]) ([47, 97])) = true := hb
                    clear hb
                    refine Op.call0 (dst := some 60) (f := 38) (args := #[.string (mkS ([97]))]) (by kernel_rfl) s723 (checkP _ _ _ s723.sub hG ([97]) (by first | omega | decide)) ?_
                    rintro _ g729 _ h727 hle730 s728 ⟨rfl, hgg, rfl⟩; subst g729; clear hle730
                    refine Op.pures 3 [0] (L' := []) (e' := [(0, .bool ((pErr ([97])) == (90 : Int)))]) (by kernel_rfl) ?_
                    refine Op.goto 6 (by kernel_rfl) ?_
                    refine At.ret (f := Tryd.f33) (v := .bool ((pErr ([97])) == (90 : Int))) (by kernel_rfl) (by kernel_rfl) ?_
                    refine hR _ _ _ _ s728.fin ⟨?_, rfl, rfl⟩
                    exact (eqB (by first | rfl | exact absurd (by decide +kernel) c726 | exact absurd (by decide +kernel) (Bool.eq_false_iff.1 c726) | exact absurd alive_num.1 c726 | exact absurd alive_num.2 c726 | decide +kernel))
                  · refine Op.cast (e' := [(59, .bool false)]) (by rw [hb]) ?_
                    have c731 : (withinB ([47, 97, 47, 98]) ([47, 97])) = false := hb
                    clear hb
                    refine Op.pures 4 [0] (L' := []) (e' := [(0, .bool false)]) (by kernel_rfl) ?_
                    refine Op.goto 6 (by kernel_rfl) ?_
                    refine At.ret (f := Tryd.f33) (v := .bool false) (by kernel_rfl) (by kernel_rfl) ?_
                    refine hR _ _ _ _ s723.fin ⟨?_, rfl, rfl⟩
                    exact (eqB (by first | rfl | exact absurd (by decide +kernel) c731 | exact absurd (by decide +kernel) (Bool.eq_false_iff.1 c731) | exact absurd alive_num.1 c731 | exact absurd alive_num.2 c731 | decide +kernel))
                · refine Op.cast (e' := [(56, .bool false)]) (by rw [hb]) ?_
                  have c732 : ¬ ((joinS ([47]) ([[120], [121]])) = ([47, 120, 47, 121])) := neF hb
                  clear hb
                  refine Op.pures 7 [0] (L' := []) (e' := [(0, .bool false)]) (by kernel_rfl) ?_
                  refine Op.goto 6 (by kernel_rfl) ?_
                  refine At.ret (f := Tryd.f33) (v := .bool false) (by kernel_rfl) (by kernel_rfl) ?_
                  refine hR _ _ _ _ s711.fin ⟨?_, rfl, rfl⟩
                  exact (eqB (by first | rfl | exact absurd (by decide +kernel) c732 | exact absurd (by decide +kernel) (Bool.eq_false_iff.1 c732) | exact absurd alive_num.1 c732 | exact absurd alive_num.2 c732 | decide +kernel))
              · refine Op.cast (e' := [(7, .string (mkS (joinS ([47]) ([[120], [121]])))), (52, .bool false)]) (by rw [hb]) ?_
                have c733 : ¬ ((numS ([47, 113, 47, 116, 45]) 7) = ([47, 113, 47, 116, 45, 48, 48, 48, 48, 55])) := neF hb
                clear hb
                refine Op.pures 11 [0] (L' := []) (e' := [(0, .bool false)]) (by kernel_rfl) ?_
                refine Op.goto 6 (by kernel_rfl) ?_
                refine At.ret (f := Tryd.f33) (v := .bool false) (by kernel_rfl) (by kernel_rfl) ?_
                refine hR _ _ _ _ s711.fin ⟨?_, rfl, rfl⟩
                exact (eqB (by first | rfl | exact absurd (by decide +kernel) c733 | exact absurd (by decide +kernel) (Bool.eq_false_iff.1 c733) | exact absurd alive_num.1 c733 | exact absurd alive_num.2 c733 | decide +kernel))
            · refine Op.cast (e' := [(5, .string (mkS (numS ([47, 113, 47, 116, 45]) 7))), (7, .string (mkS (joinS ([47]) ([[120], [121]])))), (48, .bool false)]) (by rw [hb]) ?_
              have c734 : ¬ ((nameOf ([47, 97, 47, 98])) = ([98])) := neF hb
              clear hb
              refine Op.pures 15 [0] (L' := []) (e' := [(0, .bool false)]) (by kernel_rfl) ?_
              refine Op.goto 6 (by kernel_rfl) ?_
              refine At.ret (f := Tryd.f33) (v := .bool false) (by kernel_rfl) (by kernel_rfl) ?_
              refine hR _ _ _ _ s711.fin ⟨?_, rfl, rfl⟩
              exact (eqB (by first | rfl | exact absurd (by decide +kernel) c734 | exact absurd (by decide +kernel) (Bool.eq_false_iff.1 c734) | exact absurd alive_num.1 c734 | exact absurd alive_num.2 c734 | decide +kernel))
          · refine Op.cast (e' := [(3, .string (mkS (nameOf ([47, 97, 47, 98])))), (5, .string (mkS (numS ([47, 113, 47, 116, 45]) 7))), (7, .string (mkS (joinS ([47]) ([[120], [121]])))), (44, .bool false)]) (by rw [hb]) ?_
            have c735 : ¬ ((parentOf ([47, 97, 47, 98])) = ([47, 97])) := neF hb
            clear hb
            refine Op.pures 19 [0] (L' := []) (e' := [(0, .bool false)]) (by kernel_rfl) ?_
            refine Op.goto 6 (by kernel_rfl) ?_
            refine At.ret (f := Tryd.f33) (v := .bool false) (by kernel_rfl) (by kernel_rfl) ?_
            refine hR _ _ _ _ s711.fin ⟨?_, rfl, rfl⟩
            exact (eqB (by first | rfl | exact absurd (by decide +kernel) c735 | exact absurd (by decide +kernel) (Bool.eq_false_iff.1 c735) | exact absurd alive_num.1 c735 | exact absurd alive_num.2 c735 | decide +kernel))
        · refine Op.cast (e' := [(1, .string (mkS (parentOf ([47, 97, 47, 98])))), (3, .string (mkS (nameOf ([47, 97, 47, 98])))), (5, .string (mkS (numS ([47, 113, 47, 116, 45]) 7))), (7, .string (mkS (joinS ([47]) ([[120], [121]])))), (40, .bool false)]) (by rw [hb]) ?_
          have c736 : ¬ ((joinE ([47]) ([[120], [121]])) = (0 : Int)) := neF hb
          clear hb
          refine Op.pures 23 [0] (L' := []) (e' := [(0, .bool false)]) (by kernel_rfl) ?_
          refine Op.goto 6 (by kernel_rfl) ?_
          refine At.ret (f := Tryd.f33) (v := .bool false) (by kernel_rfl) (by kernel_rfl) ?_
          refine hR _ _ _ _ s711.fin ⟨?_, rfl, rfl⟩
          exact (eqB (by first | rfl | exact absurd (by decide +kernel) c736 | exact absurd (by decide +kernel) (Bool.eq_false_iff.1 c736) | exact absurd alive_num.1 c736 | exact absurd alive_num.2 c736 | decide +kernel))
      · refine Op.cast (e' := [(1, .string (mkS (parentOf ([47, 97, 47, 98])))), (3, .string (mkS (nameOf ([47, 97, 47, 98])))), (5, .string (mkS (numS ([47, 113, 47, 116, 45]) 7))), (7, .string (mkS (joinS ([47]) ([[120], [121]])))), (8, .int .i64 (joinE ([47]) ([[120], [121]]))), (36, .bool false)]) (by rw [hb]) ?_
        have c737 : ¬ ((numE ([47, 113, 47, 116, 45]) 7) = (0 : Int)) := neF hb
        clear hb
        refine Op.pures 27 [0] (L' := []) (e' := [(0, .bool false)]) (by kernel_rfl) ?_
        refine Op.goto 6 (by kernel_rfl) ?_
        refine At.ret (f := Tryd.f33) (v := .bool false) (by kernel_rfl) (by kernel_rfl) ?_
        refine hR _ _ _ _ s711.fin ⟨?_, rfl, rfl⟩
        exact (eqB (by first | rfl | exact absurd (by decide +kernel) c737 | exact absurd (by decide +kernel) (Bool.eq_false_iff.1 c737) | exact absurd alive_num.1 c737 | exact absurd alive_num.2 c737 | decide +kernel))
    · refine Op.cast (e' := [(1, .string (mkS (parentOf ([47, 97, 47, 98])))), (3, .string (mkS (nameOf ([47, 97, 47, 98])))), (5, .string (mkS (numS ([47, 113, 47, 116, 45]) 7))), (6, .int .i64 (numE ([47, 113, 47, 116, 45]) 7)), (7, .string (mkS (joinS ([47]) ([[120], [121]])))), (8, .int .i64 (joinE ([47]) ([[120], [121]]))), (32, .bool false)]) (by rw [hb]) ?_
      have c738 : ¬ ((cutErr ([47, 97, 47, 98])) = (0 : Int)) := neF hb
      clear hb
      refine Op.pures 31 [0] (L' := []) (e' := [(0, .bool false)]) (by kernel_rfl) ?_
      refine Op.goto 6 (by kernel_rfl) ?_
      refine At.ret (f := Tryd.f33) (v := .bool false) (by kernel_rfl) (by kernel_rfl) ?_
      refine hR _ _ _ _ s711.fin ⟨?_, rfl, rfl⟩
      exact (eqB (by first | rfl | exact absurd (by decide +kernel) c738 | exact absurd (by decide +kernel) (Bool.eq_false_iff.1 c738) | exact absurd alive_num.1 c738 | exact absurd alive_num.2 c738 | decide +kernel))
  · refine Op.cast (e' := [(1, .string (mkS (parentOf ([47, 97, 47, 98])))), (3, .string (mkS (nameOf ([47, 97, 47, 98])))), (4, .int .i64 (cutErr ([47, 97, 47, 98]))), (5, .string (mkS (numS ([47, 113, 47, 116, 45]) 7))), (6, .int .i64 (numE ([47, 113, 47, 116, 45]) 7)), (7, .string (mkS (joinS ([47]) ([[120], [121]])))), (8, .int .i64 (joinE ([47]) ([[120], [121]]))), (28, .bool false)]) (by rw [hb]) ?_
    have c739 : ¬ ((cutErr ([47, 97, 47, 98])) = (0 : Int)) := neF hb
    clear hb
    refine Op.pures 35 [0] (L' := []) (e' := [(0, .bool false)]) (by kernel_rfl) ?_
    refine Op.goto 6 (by kernel_rfl) ?_
    refine At.ret (f := Tryd.f33) (v := .bool false) (by kernel_rfl) (by kernel_rfl) ?_
    refine hR _ _ _ _ s711.fin ⟨?_, rfl, rfl⟩
    exact (eqB (by first | rfl | exact absurd (by decide +kernel) c739 | exact absurd (by decide +kernel) (Bool.eq_false_iff.1 c739) | exact absurd alive_num.1 c739 | exact absurd alive_num.2 c739 | decide +kernel))

end Go.Proofs.YtphonojjgnbpfaaDoor.Sw
