/- Lemmas for a law of this seat: what the functions compute, and plain facts of it. Own text. -/
import Derived.Test.YtmjebehhpojihaaGreatDoorCShowsO
namespace Go.Proofs.YtmjebehhpojihaaGreatDoor.Sw
open Go
set_option maxRecDepth 100000
set_option linter.unusedVariables false
set_option linter.unusedSimpArgs false
set_option linter.deprecated false
theorem lines_seq (g0 : GH) (b_s : Nat) (s : Str) (hlen : s.length ≤ 1000000000) : SeqOwn Tryz.prog g0 102 b_s (.cells #[.string (mkS s)] 9 (0, 0)) enS (fun full => full = linesN s) := by
 intro B h g l I go c hgg hg hG hY hgo0 hI0 hs
 refine Spec.at' Tryz.func102 ?_
 intro R hR
 have loop0 : ∀ (m : Nat) (g23 : GH) (hleg23 : gle g g23) (sv : Str) (H : List Str) (c1 : Chunk) (h22 : Heap) (hm : sv.length < m) (hH : linesN s = H ++ linesN sv) (hgo : go H = true) (hpre : pre1 go H) (hsl : sv.length ≤ s.length)    (hI20 : I (H) g23 c1) (s21 : St h g (ids [c, [(b_s, Obj.cells #[.string (mkS s)] 9 (0, 0))]]) g23 [c1, [(b_s, Obj.cells #[.string (mkS sv)] 9 (0, 0))]] h22), At (fctx Tryz.prog B 102 Tryz.f102 R) [] 0 [(0, .func (.yield l) #[] #[]), (1, .pointer (some ⟨b_s, 0, none⟩))] h22 := by
  intro m; induction m with
  | zero => intros; omega
  | succ m ih0 =>
   intro g23 hleg23 sv H c1 h22 hm hH hgo hpre hsl hI20 s21
   replace hG := hG.mono hleg23
   replace hY := hY.mono hleg23
   refine At.rg 3 ?_
   refine Op.ld (n := 1) 9 (.tmp 1) 5 0 (.string (mkS sv)) (s21.chunk 1 rfl) ?_
   refine Op.pg 1 [(7, .bool (decide ((sv.length : Int) > (0 : Int))))] ?_
   refine At.if' (decide ((sv.length : Int) > (0 : Int))) 7 2 11 (fun c24 => ?_) (fun c25 => ?_)
   ·replace c24 := of_decide_eq_true c24
    refine At.go 3 1 [] ?_
    refine At.rg 3 ?_
    refine Op.ld (n := 1) 9 (.tmp 1) 8 0 (.string (mkS sv)) (s21.chunk 1 rfl) ?_
    refine Op.c1 9 (idxB_spec _ _ _ s21.sub hG sv 10  ) s21 ?_
    intro h26 s27
    refine Op.pg 4 [(4, .int .i64 (idxB sv 10))] ?_
    refine At.go 5 2 [(11, .bool (decide ((idxB sv 10) ≥ (0 : Int))))] ?_
    refine At.if' (decide ((idxB sv 10) ≥ (0 : Int))) 11 6 7 (fun c30 => ?_) (fun c31 => ?_)
    ·replace c30 := of_decide_eq_true c30
     refine At.draw (by kernel_rfl) (fun _ => False) [(1, true), (2, true), (5, true), (6, true), (0, true), (3, true), (8, true), (4, false), (7, true), (1009, false), (9, false)] (by kernel_rfl) ?_
     refine Op.px 1 [(13, .int .i64 (idxB sv 10))] ?_
     refine Op.v64 14 ((idxB sv 10) + 1) (by omega) (by (have := idx10_b sv; omega)) ?_
     refine Op.px 1 [(17, .int .i64 (idxB sv 10))] ?_
     refine Op.v64 18 ((idxB sv 10) + 1) (by omega) (by (have := idx10_b sv; omega)) ?_
     refine Op.loadF (T := 9) (x := (.tmp 1)) (o := 0) (d := 12) (n := 1) (v := .string (mkS sv)) (by kernel_rfl) (by kernel_rfl) (by kernel_rfl) (fun h => h) (s27.chunk 1 rfl) (by kernel_rfl) ?_
     refine Op.strHi (T := 9) (k := .i64) (x := (.tmp 12)) (hi := (.tmp 14)) (dst := 15) (l := sv) (n := (idxB sv 10) + 1) (by kernel_rfl) (by kernel_rfl) (by kernel_rfl) (by kernel_rfl) (by omega) (by (have := idx10_b sv; omega)) ?_
     refine Op.px 1 [(3, .string (mkS (sv.take ((idxB sv 10) + 1 : Int).toNat)))] ?_
     refine Op.ld (n := 1) 9 (.tmp 1) 16 0 (.string (mkS sv)) (s27.chunk 1 rfl) ?_
     refine Op.strLo (T := 9) (k := .i64) (x := (.tmp 16)) (lo := (.tmp 18)) (dst := 19) (l := sv) (n := (idxB sv 10) + 1) (by kernel_rfl) (by kernel_rfl) (by kernel_rfl) (by kernel_rfl) (by omega) (by (have := idx10_b sv; omega)) ?_
     refine Op.barrier (by kernel_rfl) ?_
     refine Op.s1 9 (.tmp 1) (.tmp 19) 0 (.string (mkS (sv.drop ((idxB sv 10) + 1 : Int).toNat))) 1 #[.string (mkS (sv.drop ((idxB sv 10) + 1 : Int).toNat))] s27 (fun _ => trivial) ?_
     intro h32 s33
     refine Op.gt 8 ?_
     refine At.rp 4 2 [(21, .func (.yield l) #[] #[]), (22, .string (mkS (sv.take ((idxB sv 10) + 1 : Int).toNat)))] ?_
     refine Op.yield (dst := some 23) (x := (.tmp 21)) (ops := #[(.tmp 22)]) (ts := #[9]) (l := l) (args := #[.string (mkS (sv.take ((idxB sv 10) + 1 : Int).toNat))]) (Lc := [c1]) (L := [[(b_s, Obj.cells #[.string (mkS (sv.drop ((idxB sv 10) + 1 : Int).toNat))] 9 (0, 0))]]) (by kernel_rfl) (by kernel_rfl) (by kernel_rfl) s33 (hY _ _ (H) (sv.take ((idxB sv 10) + 1 : Int).toNat) _ _ (by repeat (first | assumption | exact gle.refl _ | apply gle.trans)) hG (by exact hgo) (by rfl) ⟨linesN s, by rfl, by first | exact ln_pre1 hH (by assumption) | exact ln_pre2 hH (by assumption) (by assumption)⟩ hI20 (St.part (Lc := [c1]) (L := [[(b_s, Obj.cells #[.string (mkS (sv.drop ((idxB sv 10) + 1 : Int).toNat))] 9 (0, 0))]]) s33)) (fun _ _ _ => trivial) ?_
     rintro _ g35 _ h36 hle37 s38 ⟨c39, rfl, rfl, hI40⟩
     replace hG := hG.mono hle37
     replace hY := hY.mono hle37
     refine Op.pg 9 [(24, .bool (!(go (H ++ [sv.take ((idxB sv 10) + 1 : Int).toNat]))))] ?_
     refine At.if' (!(go (H ++ [sv.take ((idxB sv 10) + 1 : Int).toNat]))) 24 10 0 (fun c42 => ?_) (fun c43 => ?_)
     ·replace c42 := (notT c42)
      refine At.rt (.tuple #[]) ?_
      refine hR _ _ _ _ s38 ⟨linesN s, H ++ [sv.take ((idxB sv 10) + 1 : Int).toNat], c39, _, rfl, by rfl, by first | exact ln_pre1 hH (by assumption) | exact ln_pre2 hH (by assumption) (by assumption), by exact fun h => absurd h (Bool.eq_false_iff.1 (by assumption)), by exact pre_step hpre hgo, rfl, hI40⟩
     ·replace c43 := (notF c43)
      refine At.kp [(0, .func (.yield l) #[] #[]), (1, .pointer (some ⟨b_s, 0, none⟩))] ?_
      exact ih0 _ (gle.trans hleg23 (by repeat (first | assumption | apply gle.trans))) (sv.drop ((idxB sv 10) + 1 : Int).toNat) (H ++ [sv.take ((idxB sv 10) + 1 : Int).toNat]) c39 _ (by (have := idx10_b sv; simp only [List.length_drop]; omega)) (by exact ln_hit hH (by assumption)) (by assumption) (by exact pre_step hpre hgo) (by (simp only [List.length_drop]; omega)) (by exact hI40) s38
    ·replace c31 := of_decide_eq_false c31
     refine At.rg 3 ?_
     refine Op.ld (n := 1) 9 (.tmp 1) 20 0 (.string (mkS sv)) (s27.chunk 1 rfl) ?_
     refine Op.px 1 [(3, .string (mkS sv))] ?_
     refine Op.s1 9 (.tmp 1) (.const (.string (mkS []))) 0 (.string (mkS [])) 1 #[.string (mkS [])] s27 (fun _ => trivial) ?_
     intro h44 s45
     refine Op.gt 8 ?_
     refine At.rp 4 2 [(21, .func (.yield l) #[] #[]), (22, .string (mkS sv))] ?_
     refine Op.yield (dst := some 23) (x := (.tmp 21)) (ops := #[(.tmp 22)]) (ts := #[9]) (l := l) (args := #[.string (mkS sv)]) (Lc := [c1]) (L := [[(b_s, Obj.cells #[.string (mkS [])] 9 (0, 0))]]) (by kernel_rfl) (by kernel_rfl) (by kernel_rfl) s45 (hY _ _ (H) sv _ _ (by repeat (first | assumption | exact gle.refl _ | apply gle.trans)) hG (by exact hgo) (by rfl) ⟨linesN s, by rfl, by first | exact ln_pre1 hH (by assumption) | exact ln_pre2 hH (by assumption) (by assumption)⟩ hI20 (St.part (Lc := [c1]) (L := [[(b_s, Obj.cells #[.string (mkS [])] 9 (0, 0))]]) s45)) (fun _ _ _ => trivial) ?_
     rintro _ g47 _ h48 hle49 s50 ⟨c51, rfl, rfl, hI52⟩
     replace hG := hG.mono hle49
     replace hY := hY.mono hle49
     refine Op.pg 9 [(24, .bool (!(go (H ++ [sv]))))] ?_
     refine At.if' (!(go (H ++ [sv]))) 24 10 0 (fun c54 => ?_) (fun c55 => ?_)
     ·replace c54 := (notT c54)
      refine At.rt (.tuple #[]) ?_
      refine hR _ _ _ _ s50 ⟨linesN s, H ++ [sv], c51, _, rfl, by rfl, by first | exact ln_pre1 hH (by assumption) | exact ln_pre2 hH (by assumption) (by assumption), by exact fun h => absurd h (Bool.eq_false_iff.1 (by assumption)), by exact pre_step hpre hgo, rfl, hI52⟩
     ·replace c55 := (notF c55)
      refine At.kp [(0, .func (.yield l) #[] #[]), (1, .pointer (some ⟨b_s, 0, none⟩))] ?_
      exact ih0 _ (gle.trans hleg23 (by repeat (first | assumption | apply gle.trans))) [] (H ++ [sv]) c51 _ (by (simp only [List.length_nil]; omega)) (by exact ln_miss hH (by assumption) (by assumption)) (by assumption) (by exact pre_step hpre hgo) (by (simp only [List.length_nil]; omega)) (by exact hI52) s50
   ·replace c25 := of_decide_eq_false c25
    refine At.rt (.tuple #[]) ?_
    refine hR _ _ _ _ s21 ⟨H, H, c1, _, rfl, by exact ln_end hH (by assumption), by exact List.prefix_refl _, by exact fun _ => rfl, by exact hpre, rfl, hI20⟩
 refine At.kp [(0, .func (.yield l) #[] #[]), (1, .pointer (some ⟨b_s, 0, none⟩))] ?_
 exact loop0 _ _ (gle.refl _) s [] c _ (Nat.lt_succ_self _) (by rfl) (by exact hgo0) (by exact pre_0 go) (by omega) (by exact hI0) hs
theorem linesF_ (B : World) (h : Heap) (g : GH) (hg : Sub g h) (hG : Glob g) (s : List UInt8) (hlen : s.length ≤ 1000000000) :
  Spec Tryz.prog B 55 #[.string (mkS s)] h g [] (fun rv g' L' => ∃ b0, rv = .func (.func 102) #[] #[.pointer (some ⟨b0, 0, none⟩)] ∧ SeqOwn Tryz.prog g' 102 b0 (.cells #[.string (mkS s)] 9 (0, 0)) enS (fun full => full = linesN s) ∧ L' = [[(b0, Obj.cells #[.string (mkS s)] 9 (0, 0))]]) := by
 refine Spec.at' Tryz.func55 ?_
 intro R hR
 have s0 := St.init hg
 refine At.rg 2 ?_
 refine Op.box (T := 9) (x := (.tmp 0)) (d := 1) (cs := #[.string (mkS s)]) (by kernel_rfl) (by kernel_rfl) s0 ?_
 intro b20 h21 s22
 refine Op.pg 1 [] ?_
 refine At.go 2 2 [(2, .func (.func 102) #[] #[.pointer (some ⟨b20, 0, none⟩)])] ?_
 refine At.rt (.func (.func 102) #[] #[.pointer (some ⟨b20, 0, none⟩)]) ?_
 refine hR _ _ _ _ s22 ⟨b20, ?_, ?_, rfl⟩
 ·exact rfl
 ·exact lines_seq _ _ _ (by assumption)
end Go.Proofs.YtmjebehhpojihaaGreatDoor.Sw
namespace Go.Proofs.YtmjebehhpojihaaGreatDoor.Sw
set_option linter.unusedVariables false
set_option linter.unusedSimpArgs false
set_option linter.deprecated false
open Go
def trimL (l : List UInt8) : List UInt8 := Lib.trimSuffix l [10]
theorem parse_lines (s : List UInt8) : parseW s = parseG ((linesN s).map trimL) 0 [] := by
  unfold parseW
  rw [← lines_trim s.length s (Nat.le_refl _)]
  rfl
def goP (xs : List (List UInt8)) : Bool := decide ((parseG (xs.map trimL) 0 []).2.2 = 0)
def pendP (xs : List (List UInt8)) : Option Code := if goP xs = true then none else some .ret
def psI (xs : List (List UInt8)) (out : List Step) (n : Int) (r2 : List Step) (r3 r4 : Int) : Prop :=
  (goP xs = true → (∀ L, parseG (xs.map trimL ++ L) 0 [] = parseG L n out) ∧ r2 = []) ∧ (goP xs = false → ∀ L, parseG (xs.map trimL ++ L) 0 [] = (r2, r3, r4))
section
variable {xs full : List (List UInt8)} {x l w s : List UInt8} {out r2 : List Step} {n r3 r4 : Int} {c : UInt8} {f : scriptForm}
theorem psI_0 : psI [] [] 0 [] 0 0 := ⟨fun _ => ⟨fun L => rfl, rfl⟩, fun h => by cases h⟩
theorem ps_next (H : psI xs out n r2 r3 r4) (hg : goP xs = true) (x : List UInt8) (L : List (List UInt8)) : parseG ((xs ++ [x]).map trimL ++ L) 0 [] = parseG (trimL x :: L) n out := by
  have := (H.1 hg).1 (trimL x :: L)
  rw [← this, List.map_append, List.append_assoc]
  rfl
theorem goP_of (H : psI xs out n r2 r3 r4) (hg : goP xs = true) (x : List UInt8) : goP (xs ++ [x]) = decide ((parseG [trimL x] n out).2.2 = 0) := by
  have := ps_next H hg x []
  rw [List.append_nil] at this
  unfold goP
  rw [this]
theorem skip_y1 (h : l = []) : skipW l = true := by subst h; rfl
theorem skip_y2 (h : ¬ l = []) (hc : l[(0 : Int).toNat]? = some c) (h35 : (c.toNat : Int) = 35) : skipW l = true := by
  obtain rfl := (u8eq (d := 35)).1 h35
  rw [skip_1 h hc]; rfl
theorem go_skip (H : psI xs out n r2 r3 r4) (hg : goP xs = true) (hs : skipW (trimL x) = true) : goP (xs ++ [x]) = true := by
  rw [goP_of H hg, parseG, hs]; rfl
theorem go_ok (H : psI xs out n r2 r3 r4) (hg : goP xs = true) (hs : skipW (trimL x) = false) (hl : (lineR (trimL x)).2 = true) : goP (xs ++ [x]) = true := by
  rw [goP_of H hg, parseG, hs, hl]; rfl
theorem go_bad (H : psI xs out n r2 r3 r4) (hg : goP xs = true) (hs : skipW (trimL x) = false) (hl : (lineR (trimL x)).2 = false) : goP (xs ++ [x]) = false := by
  rw [goP_of H hg, parseG, hs, hl]; rfl
theorem ps_skip (H : psI xs out n r2 r3 r4) (hg : goP xs = true) (hs : skipW (trimL x) = true) : psI (xs ++ [x]) out (n + 1) r2 r3 r4 := by
  refine ⟨fun _ => ⟨fun L => ?_, (H.1 hg).2⟩, fun h => absurd h (by rw [go_skip H hg hs]; decide)⟩
  rw [ps_next H hg, parseG, hs]
  rfl
theorem ps_ok (H : psI xs out n r2 r3 r4) (hg : goP xs = true) (hs : skipW (trimL x) = false) (hl : (lineR (trimL x)).2 = true) {st : Step} (hst : st = (lineR (trimL x)).1) : psI (xs ++ [x]) (out ++ [st]) (n + 1) r2 r3 r4 := by
  refine ⟨fun _ => ⟨fun L => ?_, (H.1 hg).2⟩, fun h => absurd h (by rw [go_ok H hg hs hl]; decide)⟩
  rw [ps_next H hg, parseG, hs, hl, hst]
  rfl
theorem ps_bad (H : psI xs out n r2 r3 r4) (hg : goP xs = true) (hs : skipW (trimL x) = false) (hl : (lineR (trimL x)).2 = false) : psI (xs ++ [x]) out (n + 1) [] (n + 1) 240 := by
  refine ⟨fun h => absurd h (by rw [go_bad H hg hs hl]; decide), fun _ L => ?_⟩
  rw [ps_next H hg, parseG, hs, hl]
  rfl
theorem bad_1 (hw : (splitOn 32 (trimL x))[(0 : Int).toNat]? = some w) (hf : findF w = none) : (lineR (trimL x)).2 = false := line_no hw hf
theorem bad_2 (hw : (splitOn 32 (trimL x))[(0 : Int).toNat]? = some w) (hf : findF w = some f) (hr : (readS f ((splitOn 32 (trimL x)).drop (1 : Int).toNat)).2 = false) : (lineR (trimL x)).2 = false := by rw [← (read_line hw hf).1]; exact hr
theorem ok_2 (hw : (splitOn 32 (trimL x))[(0 : Int).toNat]? = some w) (hf : findF w = some f) (hr : (readS f ((splitOn 32 (trimL x)).drop (1 : Int).toNat)).2 = true) : (lineR (trimL x)).2 = true := by rw [← (read_line hw hf).1]; exact hr
theorem ok_3 (hw : (splitOn 32 (trimL x))[(0 : Int).toNat]? = some w) (hf : findF w = some f) (hr : (readS f ((splitOn 32 (trimL x)).drop (1 : Int).toNat)).2 = true) : (readS f ((splitOn 32 (trimL x)).drop (1 : Int).toNat)).1 = (lineR (trimL x)).1 := (read_line hw hf).2 (ok_2 hw hf hr)
theorem pendP_0 (h : goP xs = true) : pendP xs = none := by unfold pendP; rw [if_pos h]
theorem pendP_1 (h : goP xs = false) : pendP xs = some .ret := by unfold pendP; rw [if_neg (by rw [h]; decide)]
theorem parse_all (H : psI (linesN s) out n r2 r3 r4) (hg : goP (linesN s) = true) : parseW s = (out, 0, 0) := by
  have := (H.1 hg).1 []
  rw [List.append_nil] at this
  rw [parse_lines, this]
  rfl
theorem parse_stop (H : psI xs out n r2 r3 r4) (hg : goP xs = false) (hp : xs <+: linesN s) : parseW s = (r2, r3, r4) := by
  obtain ⟨t, ht⟩ := hp
  have := H.2 hg (t.map trimL)
  rw [← List.map_append, ht] at this
  rw [parse_lines, this]
end
theorem linesN_el : ∀ (n : Nat) (s : List UInt8), s.length ≤ n → (∀ x ∈ linesN s, x.length ≤ s.length) ∧ (linesN s).length ≤ s.length
  | 0, s, h => by
    obtain rfl : s = [] := List.eq_nil_of_length_eq_zero (by omega)
    exact ⟨fun x hx => (by cases hx), by simp [linesN_nil]⟩
  | n + 1, s, h => by
    have hb := idx10_b s
    by_cases hi : idxB s 10 ≥ 0
    · rw [linesN_hit hi]
      have ih := linesN_el n (s.drop (idxB s 10 + 1).toNat) (by rw [List.length_drop]; omega)
      rw [List.length_drop] at ih
      refine ⟨fun x hx => ?_, ?_⟩
      · rcases List.mem_cons.1 hx with rfl | hx
        · rw [List.length_take]; omega
        · have := ih.1 x hx; omega
      · rw [List.length_cons]; omega
    · by_cases hl : (s.length : Int) > 0
      · rw [linesN_miss hi hl]
        refine ⟨fun x hx => ?_, by simp; omega⟩
        rw [List.mem_singleton.1 hx]
        exact Nat.le_refl _
      · obtain rfl : s = [] := List.eq_nil_of_length_eq_zero (by omega)
        exact ⟨fun x hx => (by cases hx), by simp [linesN_nil]⟩
theorem trimL_len (l : List UInt8) : (trimL l).length ≤ l.length := by
  unfold trimL Lib.trimSuffix
  split
  · rw [List.length_take]; omega
  · exact Nat.le_refl _
theorem line_b {xs : List (List UInt8)} {x s : List UInt8} (hf : ∃ full, full = linesN s ∧ xs ++ [x] <+: full) : (trimL x).length ≤ s.length ∧ xs.length + 1 ≤ s.length ∧ x.length ≤ s.length := by
  obtain ⟨full, rfl, hp⟩ := hf
  have h := linesN_el s.length s (Nat.le_refl _)
  have h1 := h.1 x (hp.subset (by simp))
  have h2 := hp.length_le
  have h3 := trimL_len x
  rw [List.length_append] at h2
  simp at h2
  omega
theorem find_wl {w : List UInt8} {f : scriptForm} (h : findF w = some f) : f.words.length ≤ 10 := by
  unfold findF at h
  obtain ⟨⟨n, f'⟩, h1, rfl⟩ := Option.map_eq_some_iff.1 h
  have hm := List.mem_of_find?_eq_some h1
  have hall : ∀ p ∈ formsT, p.2.words.length ≤ 10 := by decide
  exact hall _ hm
theorem join_sp (a : List UInt8) : ∀ l : List (List UInt8), Lib.join (a :: l) [32] = a ++ l.flatMap fun x => 32 :: x
  | [] => by simp [Lib.join]
  | b :: l => by
    have ih := join_sp b l
    have e : Lib.join (a :: b :: l) [32] = a ++ ([32] ++ Lib.join (b :: l) [32]) := by simp [Lib.join, List.intercalate, List.intersperse]
    rw [e, ih]
    simp
def sayL (st : Step) (name : List UInt8) (f : scriptForm) : List (List UInt8) := name :: (f.words.map (fun w => wordW st w.ch) ++ if f.more then st.Keeps.map Lib.itoa else [])
theorem say_form {st : Step} {f : scriptForm} (hn : ∀ w ∈ f.words, w ≠ .nul) : ((f.words.map (·.ch) ++ tailF f.more).flatMap (bitW st)) = (f.words.map (fun w => wordW st w.ch) ++ if f.more then st.Keeps.map Lib.itoa else []).flatMap fun x => 32 :: x := by
  rw [List.flatMap_append, List.flatMap_append]
  congr 1
  · have : ∀ ws : List scriptWord, (∀ w ∈ ws, w ≠ .nul) → (ws.map (·.ch)).flatMap (bitW st) = (ws.map fun w => wordW st w.ch).flatMap fun x => 32 :: x := by
      intro ws
      induction ws with
      | nil => intro _; rfl
      | cons w ws ih =>
        intro h
        have h1 : isW w.ch := by
          have := h w (by simp)
          cases w
          case nul => exact absurd rfl this
          all_goals decide
        rw [List.map_cons, List.flatMap_cons, List.map_cons, List.flatMap_cons, ih (fun x hx => h x (by simp [hx]))]
        unfold bitW
        rw [if_pos h1]
    exact this _ hn
  · unfold tailF
    cases f.more with
    | true =>
      rw [if_pos rfl, if_pos rfl, List.flatMap_cons, List.flatMap_nil, List.append_nil]
      unfold bitW
      rw [if_neg (by decide), List.flatMap_map]
    | false => rfl
theorem formsT_at {name : List UInt8} {f : scriptForm} (h : (name, f) ∈ formsT) : ∃ k, k < 9 ∧ name = cmdK k ∧ f.kind = (k : Int) + 1 ∧ cmdF k = f.words.map (·.ch) ++ tailF f.more ∧ (∀ w ∈ f.words, w ≠ .nul) := by
  unfold formsT at h
  simp only [List.mem_cons, Prod.mk.injEq, List.not_mem_nil, or_false] at h
  rcases h with ⟨rfl, rfl⟩ | ⟨rfl, rfl⟩ | ⟨rfl, rfl⟩ | ⟨rfl, rfl⟩ | ⟨rfl, rfl⟩ | ⟨rfl, rfl⟩ | ⟨rfl, rfl⟩ | ⟨rfl, rfl⟩ | ⟨rfl, rfl⟩
  · exact ⟨0, by decide, rfl, rfl, by decide, by decide⟩
  · exact ⟨1, by decide, rfl, rfl, by decide, by decide⟩
  · exact ⟨2, by decide, rfl, rfl, by decide, by decide⟩
  · exact ⟨3, by decide, rfl, rfl, by decide, by decide⟩
  · exact ⟨4, by decide, rfl, rfl, by decide, by decide⟩
  · exact ⟨5, by decide, rfl, rfl, by decide, by decide⟩
  · exact ⟨6, by decide, rfl, rfl, by decide, by decide⟩
  · exact ⟨7, by decide, rfl, rfl, by decide, by decide⟩
  · exact ⟨8, by decide, rfl, rfl, by decide, by decide⟩
theorem line_text {st : Step} {name : List UInt8} {f : scriptForm} (h : (name, f) ∈ formsT) (hk : f.kind = st.Kind) : Lib.join (sayL st name f) [32] = textW st := by
  obtain ⟨k, h9, rfl, h2, h3, h4⟩ := formsT_at h
  have e : textW st = cmdK (st.Kind - 1).toNat ++ (cmdF (st.Kind - 1).toNat).flatMap (bitW st) := by unfold textW; exact if_neg (by omega)
  have : (st.Kind - 1).toNat = k := by omega
  unfold sayL
  rw [e, this, join_sp, ← say_form h4, ← h3]
theorem forms_nn {name : List UInt8} {f : scriptForm} (h : (name, f) ∈ formsT) : ∀ w ∈ f.words, w ≠ .nul := (formsT_at h).choose_spec.2.2.2.2
theorem forms_wl {name : List UInt8} {f : scriptForm} (h : (name, f) ∈ formsT) : f.words.length ≤ 10 := by
  have hall : ∀ p ∈ formsT, p.2.words.length ≤ 10 := by decide
  exact hall _ h
def noneI (st : Step) (vs : List (List UInt8 × Value)) : Prop := ∀ p ∈ vs, ∃ f, (p.1, f) ∈ formsT ∧ ¬ f.kind = st.Kind
theorem noneI_0 (st : Step) : noneI st [] := fun p hp => by cases hp
theorem noneI_step {st : Step} {vs : List (List UInt8 × Value)} {name : List UInt8} {v : Value} {f : scriptForm} (H : noneI st vs) (h : (name, f) ∈ formsT) (hk : ¬ f.kind = st.Kind) : noneI st (vs ++ [(name, v)]) := by
  intro p hp
  rcases List.mem_append.1 hp with hp | hp
  · exact H p hp
  · rw [List.mem_singleton.1 hp]; exact ⟨f, h, hk⟩
theorem cmdK_inj {i j : Nat} (hi : i < 9) (hj : j < 9) (h : cmdK i = cmdK j) : i = j := by
  have : ∀ a b : Fin 9, cmdK a.val = cmdK b.val → a = b := by decide
  have := this ⟨i, hi⟩ ⟨j, hj⟩ h
  exact congrArg Fin.val this
theorem text_none {st : Step} (H : ∀ q ∈ formsT, ∃ f, (q.1, f) ∈ formsT ∧ ¬ f.kind = st.Kind) : [] = textW st := by
  unfold textW
  split
  · rfl
  · rename_i hk
    exfalso
    obtain ⟨f0, h1, _⟩ := forms_at (k := (st.Kind - 1).toNat) (by omega)
    obtain ⟨f, h2, h3⟩ := H _ (List.mem_of_getElem? h1)
    obtain ⟨k, h9, h4, h5, _⟩ := formsT_at h2
    have := cmdK_inj (by omega) h9 h4
    omega
def sayI (st : Step) (name : List UInt8) (f : scriptForm) (out : List (List UInt8)) (i : Int) : Prop := out = name :: (f.words.take i.toNat).map fun w => wordW st w.ch
def kepJ (st : Step) (name : List UInt8) (f : scriptForm) (out : List (List UInt8)) (j : Int) : Prop := out = name :: (f.words.map (fun w => wordW st w.ch) ++ if f.more then (st.Keeps.take j.toNat).map Lib.itoa else [])
section
variable {st : Step} {name : List UInt8} {f : scriptForm} {out : List (List UInt8)} {i j v : Int} {w : scriptWord}
theorem sayI_0 (st : Step) (name : List UInt8) (f : scriptForm) : sayI st name f [name] 0 := by unfold sayI; simp
theorem sayI_step (H : sayI st name f out i) (h0 : 0 ≤ i) (hw : f.words[i.toNat]? = some w) : sayI st name f (out ++ [wordW st w.ch]) (i + 1) := by
  unfold sayI at *
  rw [H, toNat_succ h0, take_at hw]; simp
theorem kepJ_0 (H : sayI st name f out i) (h : ¬ i < (f.words.length : Int)) : kepJ st name f out 0 := by
  unfold sayI at H
  unfold kepJ
  rw [H, List.take_of_length_le (by omega)]
  cases f.more <;> simp
theorem kepJ_y (H : kepJ st name f out j) (h0 : 0 ≤ j) (hm : f.more = true) (hv : st.Keeps[j.toNat]? = some v) : kepJ st name f (out ++ [Lib.itoa v]) (j + 1) := by
  unfold kepJ at *
  rw [H, toNat_succ h0, take_at hv, hm]; simp
theorem kepJ_n (H : kepJ st name f out j) (hm : f.more = false) : kepJ st name f out (j + 1) := by
  unfold kepJ at *
  rw [H, hm]; simp
theorem kepJ_end (H : kepJ st name f out j) (h : ¬ j < (st.Keeps.length : Int)) : out = sayL st name f := by
  unfold kepJ at H
  rw [List.take_of_length_le (by omega)] at H
  exact H
theorem tell_join (e : Event) : Lib.join [Lib.itoa e.Client, Lib.itoa e.Stamp, Lib.itoa e.Asked, Lib.itoa e.Answered, hexW e.Op, hexW e.Answer] [32] = tellW e := by
  rw [join_sp]
  simp [tellW]
end
end Go.Proofs.YtmjebehhpojihaaGreatDoor.Sw
namespace Go.Proofs.YtmjebehhpojihaaGreatDoor.Sw
set_option linter.unusedVariables false
set_option linter.unusedSimpArgs false
set_option linter.deprecated false
open Go
def forkOk (ops : Array Oper) (kb : Nat) : List (Nat × Bool) → List (Nat × Bool) → List (Nat × Bool) → Array Bool → Bool
  | (i, true) :: P, A, B, listed => Region.free .any ops listed i && (Region.ready .any ops listed).contains i && !(Nat.beq i kb) && (!(need? ops i) || ((ops[kb]?).isNone || depOn ops 10 kb i)) && forkOk ops kb P A B (listed.setIfInBounds i true)
  | [], (i, false) :: A, (j, false) :: B, listed => !(Nat.ble 1000 i) && !(Nat.ble 1000 j) && ((Region.ready .any ops listed == [i, j]) || (Region.ready .any ops listed == [j, i])) && !(Nat.beq i kb) && !(Nat.beq j kb) &&
      seqOk ops kb false A (listed.setIfInBounds i true) && seqOk ops kb false B (listed.setIfInBounds j true)
  | _, _, _, _ => false
section
variable {P : Program} {ops : Array Oper} {S2 : World → Prop} {K : Act → World → Prop} {kb : Nat}
theorem any_of_fork : ∀ (Q A B : List (Nat × Bool)) (T : World → Prop) (listed : Array Bool) (a : Act) (w : World) (fuel : Nat), reals (Q ++ A) ≤ fuel → reals (Q ++ B) ≤ fuel → Closed ops listed → forkOk ops kb Q A B listed = true → listed.getD kb false = false →
    seqS P ops S2 T (Q ++ A) K a w → seqS P ops S2 T (Q ++ B) K a w → anyS P ops kb T K fuel listed a w := by
  intro Q
  induction Q with
  | nil =>
    intro A B T listed a w fuel hf1 hf2 hcl hok hkb hA hB
    match A, B, hok with
    | (i, false) :: A, (j, false) :: B, hok =>
      simp only [forkOk, Bool.and_eq_true, Bool.not_eq_true', Bool.or_eq_true, beq_iff_eq] at hok
      obtain ⟨⟨⟨⟨⟨⟨h1, h2⟩, h3⟩, h4⟩, h5⟩, h6⟩, h7⟩ := hok
      have hik : i ≠ kb := fun e => by subst e; simp at h4
      have hjk : j ≠ kb := fun e => by subst e; simp at h5
      obtain ⟨fuel, rfl⟩ : ∃ m, fuel = m + 1 := ⟨fuel - 1, by simp [reals, h1] at hf1; omega⟩
      have hfA : reals A ≤ fuel := by simp [reals, h1] at hf1; omega
      have hfB : reals B ≤ fuel := by simp [reals, h2] at hf2; omega
      have hir : i ∈ Region.ready .any ops listed := by rcases h3 with h3 | h3 <;> rw [h3] <;> simp
      have hjr : j ∈ Region.ready .any ops listed := by rcases h3 with h3 | h3 <;> rw [h3] <;> simp
      simp only [List.nil_append, seqS, h1, Bool.false_eq_true, if_false] at hA
      simp only [List.nil_append, seqS, h2, Bool.false_eq_true, if_false] at hB
      refine ⟨fun h0 => (by rw [h0] at hir; cases hir), fun k hk => ?_⟩
      have hkk : k = i ∨ k = j := by rcases h3 with h3 | h3 <;> rw [h3] at hk <;> simp at hk <;> omega
      rcases hkk with rfl | rfl
      · exact opS_mono (fun a' w' h' => ⟨fun _ => h'.1, any_of_seq A kb T false T _ a' w' fuel hfA (closed_set hcl hir) h6 (fun _ => ⟨rfl, by rw [getD_set_ne false hik]; exact hkb⟩) (fun hz => by cases hz) h'.2⟩) hA
      · exact opS_mono (fun a' w' h' => ⟨fun _ => h'.1, any_of_seq B kb T false T _ a' w' fuel hfB (closed_set hcl hjr) h7 (fun _ => ⟨rfl, by rw [getD_set_ne false hjk]; exact hkb⟩) (fun hz => by cases hz) h'.2⟩) hB
  | cons p Q ih =>
    obtain ⟨i, b⟩ := p
    intro A B T listed a w fuel hf1 hf2 hcl hok hkb hA hB
    cases b with
    | false => simp [forkOk] at hok
    | true =>
      obtain ⟨fuel, rfl⟩ : ∃ m, fuel = m + 1 := ⟨fuel - 1, by simp [reals] at hf1; omega⟩
      have hfA : reals (Q ++ A) ≤ fuel := by simp [reals] at hf1; omega
      have hfB : reals (Q ++ B) ≤ fuel := by simp [reals] at hf2; omega
      obtain ⟨o, v, hi, hd, hy, hS, hA⟩ := hA
      obtain ⟨o', v', hi', hd', hy', hS', hB⟩ := hB
      rw [hi] at hi'
      cases hi'
      simp only [forkOk, Bool.and_eq_true, Bool.not_eq_true', Bool.or_eq_true] at hok
      obtain ⟨⟨⟨⟨h1, h2⟩, h3⟩, h4⟩, h5⟩ := hok
      have hik : i ≠ kb := fun e => by subst e; simp at h3
      have h2 : i ∈ Region.ready .any ops listed := by simpa using h2
      have hvv : v = v' := by
        rcases hy with ⟨hw, hr⟩ | ⟨hw, rfl⟩
        · rcases hy' with ⟨_, hr'⟩ | ⟨hw', _⟩
          · have hs : (if needs o = true then T else fun _ => True) w := by split; exact hS; trivial
            have e1 := hr w hs
            have e2 := hr' w hs
            rw [e1] at e2
            cases e2
            rfl
          · rw [hw] at hw'; cases hw'
        · rcases hy' with ⟨hw', _⟩ | ⟨_, rfl⟩
          · rw [hw] at hw'; cases hw'
          · rfl
      subst hvv
      have hnext := ih A B T (listed.setIfInBounds i true) (a.put o.dst v) w fuel hfA hfB (closed_set hcl h2) h5 (by rw [getD_set_ne false hik]; exact hkb) hA hB
      cases hn : needs o with
      | false =>
        rw [hn] at hy
        exact any_first (S' := fun _ => True) hi hd hik (.inl fun _ => trivial) fuel listed a w hcl (.inl fun _ => trivial) (Region.free_spec hi h1) h2 (by simpa using hy) trivial (fun _ => hS) hnext
      | true =>
        rw [hn, if_pos rfl] at hy
        have hne : need? ops i = true := by simp [need?, hi, hn]
        rw [hne] at h4
        simp only [Bool.true_eq_false, false_or] at h4
        refine any_first (S' := T) hi hd hik (.inr ⟨fun _ h => h, fun ok hok => ?_⟩) fuel listed a w hcl (.inr hkb) (Region.free_spec hi h1) h2 hy hS (fun _ => hS) hnext
        rcases h4 with h4 | h4
        · rw [hok] at h4; simp at h4
        · exact ⟨10, h4⟩
end
section
variable {C : Ctx} {ds : List Deferred} {i : Nat} {e : Env} {h : Heap}
def drawFork (k : List Item) (Q A B : List (Nat × Bool)) : Bool := match drawOps k with
  | some ops => Nat.ble (reals (Q ++ A)) ops.size && (Nat.ble (reals (Q ++ B)) ops.size && forkOk ops (barOf A) Q A B (Array.replicate ops.size false))
  | none => false
theorem At.fork (hm : C.P.follows .mixedOrders = true) (M : Nat → Prop) (Q A B : List (Nat × Bool)) (hL : drawFork (pt C.code i) Q A B = true) (HA : Op C ds i h M (Q ++ A) e h) (HB : Op C ds i h M (Q ++ B) e h) : At C ds i e h := by
  intro a w f is
  have HA := HA a { w with drawn := w.drawn + 1 } f is.draw (Keep.refl _ _)
  have HB := HB a { w with drawn := w.drawn + 1 } f is.draw (Keep.refl _ _)
  generalize pt C.code i = k at *
  unfold drawFork at hL
  split at hL
  · rename_i ops hd
    unfold drawOps at hd
    split at hd
    · rename_i id ops' k'
      simp only [Option.some.injEq] at hd
      subst hd
      simp only [Bool.and_eq_true] at hL
      have h1 := Nat.le_of_ble_eq_true hL.1
      have h2 := Nat.le_of_ble_eq_true hL.2.1
      refine RunK.draw hm fun t => any_sound (kb := barOf A) (S := holds C h M) _ _ _ _ _ (any_of_fork Q A B _ _ _ _ _ h1 h2 ?_ hL.2.2 ?_ HA HB)
      · intro k o ho hk
        have hlt : k < ops'.size := (Array.getElem?_eq_some_iff.1 ho).1
        simp [hlt] at hk
      · simp only [Array.getD_eq_getD_getElem?, Array.getElem?_replicate]; split <;> rfl
    · cases hd
  · cases hL
end
end Go.Proofs.YtmjebehhpojihaaGreatDoor.Sw
namespace Go.Proofs.YtmjebehhpojihaaGreatDoor.Sw
open Go
set_option maxRecDepth 100000
set_option linter.unusedVariables false
set_option linter.unusedSimpArgs false
set_option linter.deprecated false
set_option maxHeartbeats 4000000 in
theorem parseS (B : World) (h : Heap) (g : GH) (hg : Sub g h) (hG : Glob g) (text : List UInt8) (hlt : text.length ≤ 20000000) :
  Spec Tryz.prog B 15 #[.string (mkS text)] h g [] (fun rv g' L' => ∃ v0 k0, rv = .tuple #[v0, .int .i64 ((parseW text).2.1), .int .i64 ((parseW text).2.2)] ∧ Row 94 kStep g' v0 ((parseW text).1) k0 ∧ L' = [k0]) := by
 refine Spec.at' Tryz.func15 ?_
 intro R hR
 have s0 := St.init hg
 refine At.rg 3 ?_
 refine Op.al 2 23 #[.slice none 0 0] s0 ?_
 intro b20 h21 s22
 refine Op.al 3 3 #[.int .i64 0] s22 ?_
 intro b23 h24 s25
 refine Op.al 4 24 #[.int .i64 0] s25 ?_
 intro b26 h27 s28
 refine Op.gt 1 ?_
 refine At.rg 1 ?_
 refine Op.al 5 23 #[.slice none 0 0] s28 ?_
 intro b29 h30 s31
 refine Op.gt 2 ?_
 refine At.rg 3 ?_
 refine Op.c0 (some 13) (formsS _ _ _ s31.sub hG   ) s31 ?_
 rintro _ g36 _ h32 hle37 s33 ⟨m34, rfl, hF35, rfl⟩
 replace hG := hG.mono hle37
 refine Op.al 6 95 #[.map none] s33 ?_
 intro b38 h39 s40
 refine Op.s1 95 (.tmp 6) (.tmp 13) 0 (.map (some m34)) 0 #[.map (some m34)] s40 (fun _ => trivial) ?_
 intro h41 s42
 refine Op.gt 3 ?_
 refine At.rg 2 ?_
 refine Op.al 7 3 #[.int .i64 0] s42 ?_
 intro b43 h44 s45
 refine Op.s1 3 (.tmp 7) (.const (.int .i64 0)) 0 (.int .i64 0) 0 #[.int .i64 0] s45 (fun _ => trivial) ?_
 intro h46 s47
 refine Op.gt 4 ?_
 refine At.rp 2 1 [(14, .string (mkS text))] ?_
 refine Op.c0 (some 15) (linesF_ _ _ _ s47.sub hG text (by ((try dsimp only) <;> (omega))) ) s47 ?_
 rintro _ g52 _ h48 hle53 s49 ⟨b50, rfl, hq51, rfl⟩
 replace hF35 := hF35.mono hle53
 replace hG := hG.mono hle53
 refine Op.gt 5 ?_
 refine At.kp [(2, .pointer (some ⟨b20, 0, none⟩)), (3, .pointer (some ⟨b23, 0, none⟩)), (4, .pointer (some ⟨b26, 0, none⟩)), (5, .pointer (some ⟨b29, 0, none⟩)), (6, .pointer (some ⟨b38, 0, none⟩)), (7, .pointer (some ⟨b43, 0, none⟩)), (15, .func (.func 102) #[] #[.pointer (some ⟨b50, 0, none⟩)])] ?_
 obtain ⟨s55, hle56⟩ := St.freeze (s49.front 2 rfl)
 have hb57 := gadd_one (g := g52) b38 (.cells #[.map (some m34)] 95 (0, 0))
 generalize hg_g54 : gadd g52 _ = g54 at s55 hle56 hb57; clear hg_g54
 replace hF35 := hF35.mono hle56
 replace hG := hG.mono hle56
 replace hq51 := hq51.mono hle56
 have R59 := Row.zero 94 kStep g54 none
 have s58 := s55.nl
 have R61 := Row.zero 94 kStep g54 none
 have s60 := s58.nl
 refine At.rangeFunc (x := (.tmp 15)) (f := 102) (cp := #[.pointer (some ⟨b50, 0, none⟩)]) (by kernel_rfl) rfl (by kernel_rfl) (by kernel_rfl) (Enterable.of (by kernel_rfl)) s60 ?_
 intro r62 l63 tm64 h65 ft66 s67
 have s68 := (((((((((s67.front 4 rfl).front 2 rfl).front 7 rfl).front 8 rfl).front 5 rfl).front 9 rfl).front 8 rfl).front 8 rfl).front 9 rfl).front 9 rfl
 have s69 : St h g (ids []) g54 [(([(l63, .loop (mkL (mkQ 15 tm64 (pt (codeOf Tryz.f15) 5) r62) none))] : Chunk) ++ ([(b29, Obj.cells #[.slice none (([] : List Step).length) 0] 23 (0, 0))] : Chunk) ++ ([] : Chunk) ++ ([(b43, Obj.cells #[.int .i64 0] 3 (0, 0))] : Chunk) ++ ([(b20, Obj.cells #[.slice none (([] : List Step).length) 0] 23 (0, 0))] : Chunk) ++ ([] : Chunk) ++ ([(b23, Obj.cells #[.int .i64 0] 3 (0, 0))] : Chunk) ++ ([(b26, Obj.cells #[.int .i64 0] 24 (0, 0))] : Chunk) : Chunk), [(r62, .deferred (some []))], [(b50, Obj.cells #[.string (mkS text)] 9 (0, 0))]] h65 := St.flat (L := [[(l63, .loop (mkL (mkQ 15 tm64 (pt (codeOf Tryz.f15) 5) r62) none))], [(b29, Obj.cells #[.slice none (([] : List Step).length) 0] 23 (0, 0))], [], [(b43, Obj.cells #[.int .i64 0] 3 (0, 0))], [(b20, Obj.cells #[.slice none (([] : List Step).length) 0] 23 (0, 0))], [], [(b23, Obj.cells #[.int .i64 0] 3 (0, 0))], [(b26, Obj.cells #[.int .i64 0] 24 (0, 0))], [(r62, .deferred (some []))], [(b50, Obj.cells #[.string (mkS text)] 9 (0, 0))]]) (by simp only [List.flatten_cons, List.flatten_nil, List.append_assoc, List.cons_append, List.nil_append, List.append_nil]) s68
 obtain ⟨I70, hI71⟩ : ∃ I : List Str → GH → Chunk → Prop, I = (fun xs g2 c2 => ∃ (out : List Step) (ao_out : Option Addr) (n_out : Nat) (k_out : Chunk) (n : Int) (r2 : List Step) (ao_r2 : Option Addr) (n_r2 : Nat) (k_r2 : Chunk) (r3 : Int) (r4 : Int), c2 = (([(l63, .loop (mkL (mkQ 15 tm64 (pt (codeOf Tryz.f15) 5) r62) (pendP xs)))] : Chunk) ++ ([(b29, Obj.cells #[.slice ao_out out.length n_out] 23 (0, 0))] : Chunk) ++ (k_out : Chunk) ++ ([(b43, Obj.cells #[.int .i64 n] 3 (0, 0))] : Chunk) ++ ([(b20, Obj.cells #[.slice ao_r2 r2.length n_r2] 23 (0, 0))] : Chunk) ++ (k_r2 : Chunk) ++ ([(b23, Obj.cells #[.int .i64 r3] 3 (0, 0))] : Chunk) ++ ([(b26, Obj.cells #[.int .i64 r4] 24 (0, 0))] : Chunk) : Chunk) ∧ Row 94 kStep g2 (.slice ao_out out.length n_out) out k_out ∧ Row 94 kStep g2 (.slice ao_r2 r2.length n_r2) r2 k_r2 ∧ psI xs out n r2 r3 r4 ∧ n = (xs.length : Int) ∧ out.length ≤ xs.length) := ⟨_, rfl⟩
 have hY72 : Yld Tryz.prog B l63 enS (fun full => full = linesN text) (goP) I70 g54 := by
  intro h73 g74 xs75 x76 args77 c78 hgg79 hG80 hgo81 hen82 hfp83 hI84 hs85
  rw [hI71] at hI84
  obtain ⟨out86, ao87, n88, k89, n91, r292, ao93, n94, k95, r397, r498, rfl, R90, R96, hI99, hn100, hol101⟩ := hI84
  obtain rfl := hen82
  have hlb := line_b hfp83
  rw [show (pendP xs75) = none from by exact pendP_0 hgo81] at hs85 ⊢
  have s102 : St h73 g74 (ids [(([(l63, .loop (mkL (mkQ 15 tm64 (pt (codeOf Tryz.f15) 5) r62) none))] : Chunk) ++ ([(b29, Obj.cells #[.slice ao87 out86.length n88] 23 (0, 0))] : Chunk) ++ (k89 : Chunk) ++ ([(b43, Obj.cells #[.int .i64 n91] 3 (0, 0))] : Chunk) ++ ([(b20, Obj.cells #[.slice ao93 r292.length n94] 23 (0, 0))] : Chunk) ++ (k95 : Chunk) ++ ([(b23, Obj.cells #[.int .i64 r397] 3 (0, 0))] : Chunk) ++ ([(b26, Obj.cells #[.int .i64 r498] 24 (0, 0))] : Chunk) : Chunk)]) g74 [[(l63, .loop (mkL (mkQ 15 tm64 (pt (codeOf Tryz.f15) 5) r62) none))], [(b29, Obj.cells #[.slice ao87 out86.length n88] 23 (0, 0))], k89, [(b43, Obj.cells #[.int .i64 n91] 3 (0, 0))], [(b20, Obj.cells #[.slice ao93 r292.length n94] 23 (0, 0))], k95, [(b23, Obj.cells #[.int .i64 r397] 3 (0, 0))], [(b26, Obj.cells #[.int .i64 r498] 24 (0, 0))]] h73 := St.flat (by simp only [List.flatten_cons, List.flatten_nil, List.append_assoc, List.cons_append, List.nil_append, List.append_nil]) hs85
  replace hF35 := hF35.mono hgg79
  replace hG := hG.mono hgg79
  replace hq51 := hq51.mono hgg79
  replace hb57 := hgg79 _ _ hb57
  refine YSpec.of_at (n := Tryz.f15.ntmps) (e0 := [(2, .pointer (some ⟨b20, 0, none⟩)), (3, .pointer (some ⟨b23, 0, none⟩)), (4, .pointer (some ⟨b26, 0, none⟩)), (5, .pointer (some ⟨b29, 0, none⟩)), (6, .pointer (some ⟨b38, 0, none⟩)), (7, .pointer (some ⟨b43, 0, none⟩)), (15, .func (.func 102) #[] #[.pointer (some ⟨b50, 0, none⟩)])]) (e := [(16, .string (mkS x76)), (2, .pointer (some ⟨b20, 0, none⟩)), (3, .pointer (some ⟨b23, 0, none⟩)), (4, .pointer (some ⟨b26, 0, none⟩)), (5, .pointer (some ⟨b29, 0, none⟩)), (6, .pointer (some ⟨b38, 0, none⟩)), (7, .pointer (some ⟨b43, 0, none⟩)), (15, .func (.func 102) #[] #[.pointer (some ⟨b50, 0, none⟩)])]) (s102.chunk 0 rfl) ft66 (by kernel_rfl) (by kernel_rfl) (by kernel_rfl) (by kernel_rfl) ?_
  intro R2 hR2
  refine At.go 1 1 [(8, .string (mkS x76))] ?_
  refine At.beginRound rfl (by kernel_rfl) s102 0 rfl 2 (by kernel_rfl) ?_
  intro h103 s104
  refine At.rg 3 ?_
  refine Op.ld (n := 1) 3 (.tmp 7) 17 0 (.int .i64 n91) (s104.chunk 3 rfl) ?_
  refine Op.v64 18 (n91 + 1) (by omega) (by omega) ?_
  refine Op.s1 3 (.tmp 7) (.tmp 18) 0 (.int .i64 (n91 + 1)) 3 #[.int .i64 (n91 + 1)] s104 (fun _ => trivial) ?_
  intro h105 s106
  refine Op.gt 3 ?_
  refine At.rp 3 1 [(19, .string (mkS x76))] ?_
  refine Op.c1 20 (trimSuf_spec _ _ _ s106.sub hG x76 [10] (by ((try dsimp only) <;> (omega))) ) s106 ?_
  intro h107 s108
  refine Op.pg 4 [(8, .string (mkS (trimL x76)))] ?_
  refine At.rp 7 1 [(21, .string (mkS (trimL x76)))] ?_
  refine Op.vl 22 (.bool ((mkS (trimL x76)).toList == (mkS []).toList)) (.bool ((trimL x76) == ([] : List UInt8))) (by rw [toList_mkS, toList_mkS]) ?_
  refine Op.px 1 [(23, .bool ((trimL x76) == ([] : List UInt8)))] ?_
  refine Op.wb ((trimL x76) == ([] : List UInt8)) 23 (fun c111 => ?_) (fun c112 => ?_)
  ·replace c111 := eq_of_beq c111
   refine Op.pg 5 [(27, .bool true)] ?_
   refine At.ifT 27 18 ?_
   refine At.roundEnd (j := none) (by kernel_rfl) s108 0 rfl ?_
   intro h113 s114
   have s115 : St h73 g74 (ids [(([(l63, .loop (mkL (mkQ 15 tm64 (pt (codeOf Tryz.f15) 5) r62) none))] : Chunk) ++ ([(b29, Obj.cells #[.slice ao87 out86.length n88] 23 (0, 0))] : Chunk) ++ (k89 : Chunk) ++ ([(b43, Obj.cells #[.int .i64 n91] 3 (0, 0))] : Chunk) ++ ([(b20, Obj.cells #[.slice ao93 r292.length n94] 23 (0, 0))] : Chunk) ++ (k95 : Chunk) ++ ([(b23, Obj.cells #[.int .i64 r397] 3 (0, 0))] : Chunk) ++ ([(b26, Obj.cells #[.int .i64 r498] 24 (0, 0))] : Chunk) : Chunk)]) g74 [(([(l63, .loop (mkL (mkQ 15 tm64 (pt (codeOf Tryz.f15) 5) r62) none))] : Chunk) ++ ([(b29, Obj.cells #[.slice ao87 out86.length n88] 23 (0, 0))] : Chunk) ++ (k89 : Chunk) ++ ([(b43, Obj.cells #[.int .i64 (n91 + 1)] 3 (0, 0))] : Chunk) ++ ([(b20, Obj.cells #[.slice ao93 r292.length n94] 23 (0, 0))] : Chunk) ++ (k95 : Chunk) ++ ([(b23, Obj.cells #[.int .i64 r397] 3 (0, 0))] : Chunk) ++ ([(b26, Obj.cells #[.int .i64 r498] 24 (0, 0))] : Chunk) : Chunk)] h113 := St.flat (L := [[(l63, .loop (mkL (mkQ 15 tm64 (pt (codeOf Tryz.f15) 5) r62) none))], [(b29, Obj.cells #[.slice ao87 out86.length n88] 23 (0, 0))], k89, [(b43, Obj.cells #[.int .i64 (n91 + 1)] 3 (0, 0))], [(b20, Obj.cells #[.slice ao93 r292.length n94] 23 (0, 0))], k95, [(b23, Obj.cells #[.int .i64 r397] 3 (0, 0))], [(b26, Obj.cells #[.int .i64 r498] 24 (0, 0))]]) (by simp only [List.flatten_cons, List.flatten_nil, List.append_assoc, List.cons_append, List.nil_append, List.append_nil]) s114
   refine hR2 _ _ _ _ s115 ⟨_, by (first | (rw [go_skip hI99 hgo81 (by exact skip_y1 (by assumption))]; rfl) | (rw [go_ok hI99 hgo81 (skip_no (by assumption) {hx0} (by assumption)) (ok_2 {hx1} (by assumption) (by assumption))]; rfl)), rfl, ?_⟩
   first | rw [← pendP_0 (go_skip hI99 hgo81 (by exact skip_y1 (by assumption)))] | rw [← pendP_0 (go_ok hI99 hgo81 (skip_no (by assumption) {hx0} (by assumption)) (ok_2 {hx1} (by assumption) (by assumption)))]
   rw [hI71]; exact ⟨out86, ao87, n88, k89, (n91 + 1), r292, ao93, n94, k95, r397, r498, rfl, R90, R96, (by exact ps_skip hI99 hgo81 (by first | exact skip_y1 (by assumption) | exact skip_y2 (by assumption) {hx0} (by assumption))), (by (rw [hn100]; simp only [List.length_append, List.length_cons, List.length_nil]; omega)), (by (simp only [List.length_append, List.length_cons, List.length_nil]; have := hol101; omega))⟩
  ·replace c112 := neF c112
   refine Op.px 1 [(24, .string (mkS (trimL x76)))] ?_
   obtain ⟨x116, hx117⟩ := getAt (l := trimL x76) (i := 0) (by (have : 0 < (trimL x76).length := List.length_pos_iff.2 (by assumption); omega))
   refine Op.si 9 (.tmp 24) (.const (.int .i64 0)) 25 (trimL x76) 0 (by omega) hx117 ?_
   refine Op.pg 5 [(27, .bool ((x116.toNat : Int) == (35 : Int)))] ?_
   refine At.if' ((x116.toNat : Int) == (35 : Int)) 27 18 6 (fun c118 => ?_) (fun c119 => ?_)
   ·replace c118 := eq_of_beq c118
    refine At.roundEnd (j := none) (by kernel_rfl) s108 0 rfl ?_
    intro h120 s121
    have s122 : St h73 g74 (ids [(([(l63, .loop (mkL (mkQ 15 tm64 (pt (codeOf Tryz.f15) 5) r62) none))] : Chunk) ++ ([(b29, Obj.cells #[.slice ao87 out86.length n88] 23 (0, 0))] : Chunk) ++ (k89 : Chunk) ++ ([(b43, Obj.cells #[.int .i64 n91] 3 (0, 0))] : Chunk) ++ ([(b20, Obj.cells #[.slice ao93 r292.length n94] 23 (0, 0))] : Chunk) ++ (k95 : Chunk) ++ ([(b23, Obj.cells #[.int .i64 r397] 3 (0, 0))] : Chunk) ++ ([(b26, Obj.cells #[.int .i64 r498] 24 (0, 0))] : Chunk) : Chunk)]) g74 [(([(l63, .loop (mkL (mkQ 15 tm64 (pt (codeOf Tryz.f15) 5) r62) none))] : Chunk) ++ ([(b29, Obj.cells #[.slice ao87 out86.length n88] 23 (0, 0))] : Chunk) ++ (k89 : Chunk) ++ ([(b43, Obj.cells #[.int .i64 (n91 + 1)] 3 (0, 0))] : Chunk) ++ ([(b20, Obj.cells #[.slice ao93 r292.length n94] 23 (0, 0))] : Chunk) ++ (k95 : Chunk) ++ ([(b23, Obj.cells #[.int .i64 r397] 3 (0, 0))] : Chunk) ++ ([(b26, Obj.cells #[.int .i64 r498] 24 (0, 0))] : Chunk) : Chunk)] h120 := St.flat (L := [[(l63, .loop (mkL (mkQ 15 tm64 (pt (codeOf Tryz.f15) 5) r62) none))], [(b29, Obj.cells #[.slice ao87 out86.length n88] 23 (0, 0))], k89, [(b43, Obj.cells #[.int .i64 (n91 + 1)] 3 (0, 0))], [(b20, Obj.cells #[.slice ao93 r292.length n94] 23 (0, 0))], k95, [(b23, Obj.cells #[.int .i64 r397] 3 (0, 0))], [(b26, Obj.cells #[.int .i64 r498] 24 (0, 0))]]) (by simp only [List.flatten_cons, List.flatten_nil, List.append_assoc, List.cons_append, List.nil_append, List.append_nil]) s121
    refine hR2 _ _ _ _ s122 ⟨_, by (first | (rw [go_skip hI99 hgo81 (by exact skip_y2 (by assumption) hx117 (by assumption))]; rfl) | (rw [go_ok hI99 hgo81 (skip_no (by assumption) hx117 (by assumption)) (ok_2 {hx1} (by assumption) (by assumption))]; rfl)), rfl, ?_⟩
    first | rw [← pendP_0 (go_skip hI99 hgo81 (by exact skip_y2 (by assumption) hx117 (by assumption)))] | rw [← pendP_0 (go_ok hI99 hgo81 (skip_no (by assumption) hx117 (by assumption)) (ok_2 {hx1} (by assumption) (by assumption)))]
    rw [hI71]; exact ⟨out86, ao87, n88, k89, (n91 + 1), r292, ao93, n94, k95, r397, r498, rfl, R90, R96, (by exact ps_skip hI99 hgo81 (by first | exact skip_y1 (by assumption) | exact skip_y2 (by assumption) hx117 (by assumption))), (by (rw [hn100]; simp only [List.length_append, List.length_cons, List.length_nil]; omega)), (by (simp only [List.length_append, List.length_cons, List.length_nil]; have := hol101; omega))⟩
   ·replace c119 := neF c119
    refine At.rp 3 1 [(28, .string (mkS (trimL x76)))] ?_
    refine Op.c0 (some 29) (split_spec _ _ _ s108.sub hG (trimL x76) 32 (by ((try dsimp only) <;> (omega))) ) s108 ?_
    rintro _ g129 _ h123 hle130 s124 ⟨v125, rfl, hr126, rfl⟩
    obtain ⟨a127, n128, rfl⟩ := hr126.form
    replace R90 := R90.mono hle130
    replace R96 := R96.mono hle130
    replace hF35 := hF35.mono hle130
    replace hG := hG.mono hle130
    replace hq51 := hq51.mono hle130
    replace hb57 := hle130 _ _ hb57
    refine Op.pg 7 [(9, .slice a127 ((splitOn 32 (trimL x76)).length) n128)] ?_
    refine At.draw (by kernel_rfl) (fun _ => False) [(1, true), (2, true), (0, true), (3, true), (4, true), (5, true), (6, true), (7, true), (8, false), (1009, false), (9, false), (10, true)] (by kernel_rfl) ?_
    refine Op.px 1 [(32, .slice a127 ((splitOn 32 (trimL x76)).length) n128)] ?_
    obtain ⟨x131, hx132⟩ := getAt (l := splitOn 32 (trimL x76)) (i := 0) (by (have := split_ne (trimL x76); omega))
    obtain ⟨b133, o134, cu135, fz136, ha137, hb138, hk139⟩ := SlR.at_ hr126 _ hx132
    cases ha137
    refine Op.ix 54 9 1 16 ((splitOn 32 (trimL x76)).length) n128 (.tmp 32) (.const (.int .i64 0)) 33 b133 o134 0 (by omega) (by (have := split_ne (trimL x76); omega)) ?_
    replace hk139 : cut _ _ _ = [.string (mkS x131)] := hk139
    refine Op.loadF (T := 95) (x := (.tmp 6)) (o := 0) (d := 31) (n := 1) (v := .map (some m34)) (by kernel_rfl) (by kernel_rfl) (by kernel_rfl) (fun h => h) (s124.sub _ _ hb57) (by kernel_rfl) ?_
    refine Op.loadF (T := 9) (x := (.tmp 33)) (o := o134 + (0 : Int).toNat * 1) (d := 34) (n := 1) (v := .string (mkS x131)) (by kernel_rfl) (by kernel_rfl) (by kernel_rfl) (fun h => h) (s124.sub _ _ hb138) (cut_get hk139 0 rfl) ?_
    obtain ⟨es140, clk141, ks142, hm143, hR144, hF145⟩ := hF35
    have hF35 : FormsOk g129 m34 := ⟨es140, clk141, ks142, hm143, hR144, hF145⟩
    rcases forms_look hF145 x131 with ⟨hf148, hl149⟩ | ⟨f146, v147, hf148, hl149, hs150⟩
    ·refine Op.lookNoneF (ok := true) (d := .string) (mt := 95) (x := (.tmp 31)) (ix := (.tmp 34)) (dst := 35) (k := x131) (m := m34) (z := (.agg #[.int .i64 0, .int .i64 0, .slice none 0 0, .bool false])) (by kernel_rfl) (by kernel_rfl) keyS (by kernel_rfl) (by kernel_rfl) (fun h => h) (s124.sub _ _ hm143) hR144 hl149 ?_
     refine Op.px 3 [(36, .agg #[.int .i64 0, .int .i64 0, .slice none 0 0, .bool false]), (37, .bool false)] ?_
     refine Op.al 10 104 #[.int .i64 0, .int .i64 0, .slice none 0 0, .bool false] s124 ?_
     intro b151 h152 s153
     refine Op.barrier (by kernel_rfl) ?_
     refine Op.store (T := 104) (x := (.tmp 10)) (y := (.tmp 36)) (b := b151) (o := 0) (vs := [.int .i64 0, .int .i64 0, .slice none 0 0, .bool false]) (a? := true) (n := 4) (by kernel_rfl) (by kernel_rfl) (by kernel_rfl) (by kernel_rfl) rfl (by simp [Value.oneCell']) s153 0 rfl (Nat.le_of_ble_eq_true (by kernel_rfl)) (cs := #[.int .i64 0, .int .i64 0, .slice none 0 0, .bool false]) (cs' := #[.int .i64 0, .int .i64 0, .slice none 0 0, .bool false]) (by kernel_rfl) (fun _ => trivial) ?_
     intro h154 s155
     refine Op.pg 8 [(11, .bool false)] ?_
     refine At.go 9 2 [(39, .bool true)] ?_
     refine At.ifT 39 10 ?_
     refine At.draw (by kernel_rfl) (ids [[(b20, Obj.cells #[.slice ao93 r292.length n94] 23 (0, 0))], [(b23, Obj.cells #[.int .i64 r397] 3 (0, 0))], [(b26, Obj.cells #[.int .i64 r498] 24 (0, 0))]]) [(0, true), (1, false), (2, false), (3, false)] (by kernel_rfl) ?_
     refine Op.loadF (T := 3) (x := (.tmp 7)) (o := 0) (d := 40) (n := 1) (v := .int .i64 (n91 + 1)) (by kernel_rfl) (by kernel_rfl) (by kernel_rfl) (fun h => (ids_or h).elim (s155.apart 4 5 rfl rfl rfl) (fun h => (ids_or h).elim (s155.apart 4 7 rfl rfl rfl) (fun h => (ids_or h).elim (s155.apart 4 8 rfl rfl rfl) (fun h => absurd h (ids_nil _))))) (s155.chunk 4 rfl) (by kernel_rfl) ?_
     refine Op.s1 23 (.tmp 2) (.const (.slice none 0 0)) 0 (.slice none 0 0) 5 #[.slice none 0 0] s155 (fun _ => ⟨(b20, Obj.cells #[.slice ao93 r292.length n94] 23 (0, 0)), by simp, rfl⟩) ?_
     intro h156 s157
     refine Op.s1 3 (.tmp 3) (.tmp 40) 0 (.int .i64 (n91 + 1)) 7 #[.int .i64 (n91 + 1)] s157 (fun _ => ⟨(b23, Obj.cells #[.int .i64 r397] 3 (0, 0)), by simp, rfl⟩) ?_
     intro h158 s159
     refine Op.s1 24 (.tmp 4) (.const (.int .i64 240)) 0 (.int .i64 240) 8 #[.int .i64 240] s159 (fun _ => ⟨(b26, Obj.cells #[.int .i64 r498] 24 (0, 0)), by simp, rfl⟩) ?_
     intro h160 s161
     refine Op.gt 11 ?_
     refine At.roundEnd (j := (some .ret)) (by kernel_rfl) s161 1 rfl ?_
     intro h162 s163
     have R165 := Row.zero 94 kStep g129 none
     have s164 := s163.nl
     have s166 := (((((((s164.front 0 rfl).front 6 rfl).front 6 rfl).front 6 rfl).front 6 rfl).front 6 rfl).front 7 rfl).front 7 rfl
     have s167 := s166.drop.drop
     have s168 : St h73 g74 (ids [(([(l63, .loop (mkL (mkQ 15 tm64 (pt (codeOf Tryz.f15) 5) r62) none))] : Chunk) ++ ([(b29, Obj.cells #[.slice ao87 out86.length n88] 23 (0, 0))] : Chunk) ++ (k89 : Chunk) ++ ([(b43, Obj.cells #[.int .i64 n91] 3 (0, 0))] : Chunk) ++ ([(b20, Obj.cells #[.slice ao93 r292.length n94] 23 (0, 0))] : Chunk) ++ (k95 : Chunk) ++ ([(b23, Obj.cells #[.int .i64 r397] 3 (0, 0))] : Chunk) ++ ([(b26, Obj.cells #[.int .i64 r498] 24 (0, 0))] : Chunk) : Chunk)]) g129 [(([(l63, .loop (mkL (mkQ 15 tm64 (pt (codeOf Tryz.f15) 5) r62) (some .ret)))] : Chunk) ++ ([(b29, Obj.cells #[.slice ao87 out86.length n88] 23 (0, 0))] : Chunk) ++ (k89 : Chunk) ++ ([(b43, Obj.cells #[.int .i64 (n91 + 1)] 3 (0, 0))] : Chunk) ++ ([(b20, Obj.cells #[.slice none (([] : List Step).length) 0] 23 (0, 0))] : Chunk) ++ ([] : Chunk) ++ ([(b23, Obj.cells #[.int .i64 (n91 + 1)] 3 (0, 0))] : Chunk) ++ ([(b26, Obj.cells #[.int .i64 240] 24 (0, 0))] : Chunk) : Chunk)] h162 := St.flat (L := [[(l63, .loop (mkL (mkQ 15 tm64 (pt (codeOf Tryz.f15) 5) r62) (some .ret)))], [(b29, Obj.cells #[.slice ao87 out86.length n88] 23 (0, 0))], k89, [(b43, Obj.cells #[.int .i64 (n91 + 1)] 3 (0, 0))], [(b20, Obj.cells #[.slice none (([] : List Step).length) 0] 23 (0, 0))], [], [(b23, Obj.cells #[.int .i64 (n91 + 1)] 3 (0, 0))], [(b26, Obj.cells #[.int .i64 240] 24 (0, 0))]]) (by simp only [List.flatten_cons, List.flatten_nil, List.append_assoc, List.cons_append, List.nil_append, List.append_nil]) s167
     refine hR2 _ _ _ _ s168 ⟨_, by (rw [go_bad hI99 hgo81 (skip_no (by assumption) hx117 (by assumption)) (by exact bad_1 hx132 (by assumption))]; rfl), rfl, ?_⟩
     rw [← pendP_1 (go_bad hI99 hgo81 (skip_no (by assumption) hx117 (by assumption)) (by exact bad_1 hx132 (by assumption)))]
     rw [hI71]; exact ⟨out86, ao87, n88, k89, (n91 + 1), ([] : List Step), none, 0, [], (n91 + 1), 240, rfl, R90, R165, (by exact ps_bad hI99 hgo81 (skip_no (by assumption) hx117 (by assumption)) (by first | exact bad_2 hx132 (by assumption) (by assumption) | exact bad_1 hx132 (by assumption))), (by (rw [hn100]; simp only [List.length_append, List.length_cons, List.length_nil]; omega)), (by (simp only [List.length_append, List.length_cons, List.length_nil]; have := hol101; omega))⟩
    ·obtain ⟨a169, n170, rfl⟩ := hs150.form
     refine Op.lookSomeF (ok := true) (d := .string) (mt := 95) (x := (.tmp 31)) (ix := (.tmp 34)) (dst := 35) (k := x131) (m := m34) (v := .agg #[.int .i64 f146.kind, .int .i64 f146.role, .slice a169 ((f146.words).length) n170, .bool f146.more]) (z := (.agg #[.int .i64 0, .int .i64 0, .slice none 0 0, .bool false])) (by kernel_rfl) (by kernel_rfl) keyS (by kernel_rfl) (by kernel_rfl) (fun h => h) (s124.sub _ _ hm143) hR144 hl149 ?_
     refine Op.px 3 [(36, .agg #[.int .i64 f146.kind, .int .i64 f146.role, .slice a169 ((f146.words).length) n170, .bool f146.more]), (37, .bool true)] ?_
     refine Op.al 10 104 #[.int .i64 0, .int .i64 0, .slice none 0 0, .bool false] s124 ?_
     intro b171 h172 s173
     refine Op.barrier (by kernel_rfl) ?_
     refine Op.store (T := 104) (x := (.tmp 10)) (y := (.tmp 36)) (b := b171) (o := 0) (vs := [.int .i64 f146.kind, .int .i64 f146.role, .slice a169 ((f146.words).length) n170, .bool f146.more]) (a? := true) (n := 4) (by kernel_rfl) (by kernel_rfl) (by kernel_rfl) (by kernel_rfl) rfl (by simp [Value.oneCell']) s173 0 rfl (Nat.le_of_ble_eq_true (by kernel_rfl)) (cs := #[.int .i64 0, .int .i64 0, .slice none 0 0, .bool false]) (cs' := #[.int .i64 f146.kind, .int .i64 f146.role, .slice a169 ((f146.words).length) n170, .bool f146.more]) (by kernel_rfl) (fun _ => trivial) ?_
     intro h174 s175
     refine Op.pg 8 [(11, .bool true)] ?_
     refine At.go 9 2 [(39, .bool false)] ?_
     refine At.ifF 39 12 ?_
     refine At.fork (by kernel_rfl) (fun _ => False) [(1, true), (2, true), (0, true)] [(3, false), (4, true), (5, true), (6, true), (7, false), (1008, false), (8, false), (9, true)] [(7, false), (3, false), (4, true), (5, true), (6, true), (1008, false), (8, false), (9, true)] (by kernel_rfl) ?_ ?_
     ·show Op _ _ _ _ _ [(1, true), (2, true), (0, true), (3, false), (4, true), (5, true), (6, true), (7, false), (1008, false), (8, false), (9, true)] _ _
      refine Op.px 1 [(43, .slice (some ⟨b133, o134, none⟩) ((splitOn 32 (trimL x76)).length) n128)] ?_
      refine Op.slLoD (T := 54) (E := 9) (by_ := 16) (x := (.tmp 43)) (ao := (some ⟨b133, o134, none⟩)) (n := ((splitOn 32 (trimL x76)).length)) (c := n128) (dst := 44) (d := kStr) (lo := (.const (.int .i64 1))) (k := .i64) (m := 1) (by kernel_rfl) (by kernel_rfl) (by kernel_rfl) (by kernel_rfl) hr126 (by omega) (by (have := split_ne (trimL x76); omega)) ?_
      intro v176 hr177
      obtain ⟨a178, n179, rfl⟩ := hr177.form
      refine Op.loadAF (T := 104) (x := (.tmp 10)) (o := 0) (d := 42) (n := 4) (vs := [.int .i64 f146.kind, .int .i64 f146.role, .slice a169 ((f146.words).length) n170, .bool f146.more]) (by kernel_rfl) (by kernel_rfl) (by kernel_rfl) (fun h => h) (s175.chunk 0 rfl) (by kernel_rfl) rfl ?_
      refine Op.c0 (some 45) (readF _ _ _ s175.sub hG f146 _ hs150 _ _ hr177 (by ((try dsimp only) <;> (exact find_nn (by assumption)))) (by ((try dsimp only) <;> ((intro x hx; obtain ⟨i, hi⟩ := List.getElem?_of_mem (List.mem_of_mem_drop hx); have := split_el hi; omega)))) (by ((try dsimp only) <;> ((have := split_len (trimL x76); simp only [List.length_drop]; omega)))) (by ((try dsimp only) <;> (exact find_wl (by assumption)))) ) s175 ?_
      rintro _ g192 _ h180 hle193 s181 ⟨v182, ch183, v187, ch188, rfl, R184, R189, hgg, rfl⟩; subst g192; clear hle193
      obtain ⟨a185, n186, rfl⟩ := R184.form
      obtain ⟨a190, n191, rfl⟩ := R189.form
      refine Op.px 3 [(46, .agg #[.int .i64 (((readS f146 ((splitOn 32 (trimL x76)).drop (1 : Int).toNat)).1).Kind), .int .i64 (((readS f146 ((splitOn 32 (trimL x76)).drop (1 : Int).toNat)).1).Role), .int .i64 (((readS f146 ((splitOn 32 (trimL x76)).drop (1 : Int).toNat)).1).K), .int .i64 (((readS f146 ((splitOn 32 (trimL x76)).drop (1 : Int).toNat)).1).Power), .int .i64 (((readS f146 ((splitOn 32 (trimL x76)).drop (1 : Int).toNat)).1).Node.Role), .int .i64 (((readS f146 ((splitOn 32 (trimL x76)).drop (1 : Int).toNat)).1).Node.N), .slice a185 ((((readS f146 ((splitOn 32 (trimL x76)).drop (1 : Int).toNat)).1).Data).length) n186, .slice a190 ((((readS f146 ((splitOn 32 (trimL x76)).drop (1 : Int).toNat)).1).Keeps).length) n191]), (47, .bool ((readS f146 ((splitOn 32 (trimL x76)).drop (1 : Int).toNat)).2))] ?_
      refine Op.al 12 94 #[.int .i64 0, .int .i64 0, .int .i64 0, .int .i64 0, .int .i64 0, .int .i64 0, .slice none 0 0, .slice none 0 0] s181 ?_
      intro b194 h195 s196
      refine Op.barrier (by kernel_rfl) ?_
      refine Op.store (T := 94) (x := (.tmp 12)) (y := (.tmp 46)) (b := b194) (o := 0) (vs := [.int .i64 (((readS f146 ((splitOn 32 (trimL x76)).drop (1 : Int).toNat)).1).Kind), .int .i64 (((readS f146 ((splitOn 32 (trimL x76)).drop (1 : Int).toNat)).1).Role), .int .i64 (((readS f146 ((splitOn 32 (trimL x76)).drop (1 : Int).toNat)).1).K), .int .i64 (((readS f146 ((splitOn 32 (trimL x76)).drop (1 : Int).toNat)).1).Power), .int .i64 (((readS f146 ((splitOn 32 (trimL x76)).drop (1 : Int).toNat)).1).Node.Role), .int .i64 (((readS f146 ((splitOn 32 (trimL x76)).drop (1 : Int).toNat)).1).Node.N), .slice a185 ((((readS f146 ((splitOn 32 (trimL x76)).drop (1 : Int).toNat)).1).Data).length) n186, .slice a190 ((((readS f146 ((splitOn 32 (trimL x76)).drop (1 : Int).toNat)).1).Keeps).length) n191]) (a? := true) (n := 8) (by kernel_rfl) (by kernel_rfl) (by kernel_rfl) (by kernel_rfl) rfl (by simp [Value.oneCell']) s196 0 rfl (Nat.le_of_ble_eq_true (by kernel_rfl)) (cs := #[.int .i64 0, .int .i64 0, .int .i64 0, .int .i64 0, .int .i64 0, .int .i64 0, .slice none 0 0, .slice none 0 0]) (cs' := #[.int .i64 (((readS f146 ((splitOn 32 (trimL x76)).drop (1 : Int).toNat)).1).Kind), .int .i64 (((readS f146 ((splitOn 32 (trimL x76)).drop (1 : Int).toNat)).1).Role), .int .i64 (((readS f146 ((splitOn 32 (trimL x76)).drop (1 : Int).toNat)).1).K), .int .i64 (((readS f146 ((splitOn 32 (trimL x76)).drop (1 : Int).toNat)).1).Power), .int .i64 (((readS f146 ((splitOn 32 (trimL x76)).drop (1 : Int).toNat)).1).Node.Role), .int .i64 (((readS f146 ((splitOn 32 (trimL x76)).drop (1 : Int).toNat)).1).Node.N), .slice a185 ((((readS f146 ((splitOn 32 (trimL x76)).drop (1 : Int).toNat)).1).Data).length) n186, .slice a190 ((((readS f146 ((splitOn 32 (trimL x76)).drop (1 : Int).toNat)).1).Keeps).length) n191]) (by kernel_rfl) (fun _ => trivial) ?_
      intro h197 s198
      refine Op.pg 13 [(11, .bool ((readS f146 ((splitOn 32 (trimL x76)).drop (1 : Int).toNat)).2))] ?_
      refine At.go 14 2 [(49, .bool (!((readS f146 ((splitOn 32 (trimL x76)).drop (1 : Int).toNat)).2)))] ?_
      refine At.if' (!((readS f146 ((splitOn 32 (trimL x76)).drop (1 : Int).toNat)).2)) 49 15 17 (fun c199 => ?_) (fun c200 => ?_)
      ·replace c199 := (notT c199)
       refine At.draw (by kernel_rfl) (ids [[(b20, Obj.cells #[.slice ao93 r292.length n94] 23 (0, 0))], [(b23, Obj.cells #[.int .i64 r397] 3 (0, 0))], [(b26, Obj.cells #[.int .i64 r498] 24 (0, 0))]]) [(0, true), (1, false), (2, false), (3, false)] (by kernel_rfl) ?_
       refine Op.loadF (T := 3) (x := (.tmp 7)) (o := 0) (d := 50) (n := 1) (v := .int .i64 (n91 + 1)) (by kernel_rfl) (by kernel_rfl) (by kernel_rfl) (fun h => (ids_or h).elim (s198.apart 7 8 rfl rfl rfl) (fun h => (ids_or h).elim (s198.apart 7 10 rfl rfl rfl) (fun h => (ids_or h).elim (s198.apart 7 11 rfl rfl rfl) (fun h => absurd h (ids_nil _))))) (s198.chunk 7 rfl) (by kernel_rfl) ?_
       refine Op.s1 23 (.tmp 2) (.const (.slice none 0 0)) 0 (.slice none 0 0) 8 #[.slice none 0 0] s198 (fun _ => ⟨(b20, Obj.cells #[.slice ao93 r292.length n94] 23 (0, 0)), by simp, rfl⟩) ?_
       intro h201 s202
       refine Op.s1 3 (.tmp 3) (.tmp 50) 0 (.int .i64 (n91 + 1)) 10 #[.int .i64 (n91 + 1)] s202 (fun _ => ⟨(b23, Obj.cells #[.int .i64 r397] 3 (0, 0)), by simp, rfl⟩) ?_
       intro h203 s204
       refine Op.s1 24 (.tmp 4) (.const (.int .i64 240)) 0 (.int .i64 240) 11 #[.int .i64 240] s204 (fun _ => ⟨(b26, Obj.cells #[.int .i64 r498] 24 (0, 0)), by simp, rfl⟩) ?_
       intro h205 s206
       refine Op.gt 16 ?_
       refine At.roundEnd (j := (some .ret)) (by kernel_rfl) s206 4 rfl ?_
       intro h207 s208
       have R210 := Row.zero 94 kStep g129 none
       have s209 := s208.nl
       have s211 := ((((((((((s209.front 0 rfl).front 9 rfl).front 9 rfl).front 9 rfl).front 9 rfl).front 9 rfl).front 10 rfl).front 10 rfl).front 10 rfl).front 10 rfl).front 10 rfl
       have s212 := s211.drop.drop.drop.drop.drop
       have s213 : St h73 g74 (ids [(([(l63, .loop (mkL (mkQ 15 tm64 (pt (codeOf Tryz.f15) 5) r62) none))] : Chunk) ++ ([(b29, Obj.cells #[.slice ao87 out86.length n88] 23 (0, 0))] : Chunk) ++ (k89 : Chunk) ++ ([(b43, Obj.cells #[.int .i64 n91] 3 (0, 0))] : Chunk) ++ ([(b20, Obj.cells #[.slice ao93 r292.length n94] 23 (0, 0))] : Chunk) ++ (k95 : Chunk) ++ ([(b23, Obj.cells #[.int .i64 r397] 3 (0, 0))] : Chunk) ++ ([(b26, Obj.cells #[.int .i64 r498] 24 (0, 0))] : Chunk) : Chunk)]) g129 [(([(l63, .loop (mkL (mkQ 15 tm64 (pt (codeOf Tryz.f15) 5) r62) (some .ret)))] : Chunk) ++ ([(b29, Obj.cells #[.slice ao87 out86.length n88] 23 (0, 0))] : Chunk) ++ (k89 : Chunk) ++ ([(b43, Obj.cells #[.int .i64 (n91 + 1)] 3 (0, 0))] : Chunk) ++ ([(b20, Obj.cells #[.slice none (([] : List Step).length) 0] 23 (0, 0))] : Chunk) ++ ([] : Chunk) ++ ([(b23, Obj.cells #[.int .i64 (n91 + 1)] 3 (0, 0))] : Chunk) ++ ([(b26, Obj.cells #[.int .i64 240] 24 (0, 0))] : Chunk) : Chunk)] h207 := St.flat (L := [[(l63, .loop (mkL (mkQ 15 tm64 (pt (codeOf Tryz.f15) 5) r62) (some .ret)))], [(b29, Obj.cells #[.slice ao87 out86.length n88] 23 (0, 0))], k89, [(b43, Obj.cells #[.int .i64 (n91 + 1)] 3 (0, 0))], [(b20, Obj.cells #[.slice none (([] : List Step).length) 0] 23 (0, 0))], [], [(b23, Obj.cells #[.int .i64 (n91 + 1)] 3 (0, 0))], [(b26, Obj.cells #[.int .i64 240] 24 (0, 0))]]) (by simp only [List.flatten_cons, List.flatten_nil, List.append_assoc, List.cons_append, List.nil_append, List.append_nil]) s212
       refine hR2 _ _ _ _ s213 ⟨_, by (rw [go_bad hI99 hgo81 (skip_no (by assumption) hx117 (by assumption)) (by exact bad_2 hx132 (by assumption) (by assumption))]; rfl), rfl, ?_⟩
       rw [← pendP_1 (go_bad hI99 hgo81 (skip_no (by assumption) hx117 (by assumption)) (by exact bad_2 hx132 (by assumption) (by assumption)))]
       rw [hI71]; exact ⟨out86, ao87, n88, k89, (n91 + 1), ([] : List Step), none, 0, [], (n91 + 1), 240, rfl, R90, R210, (by exact ps_bad hI99 hgo81 (skip_no (by assumption) hx117 (by assumption)) (by first | exact bad_2 hx132 (by assumption) (by assumption) | exact bad_1 hx132 (by assumption))), (by (rw [hn100]; simp only [List.length_append, List.length_cons, List.length_nil]; omega)), (by (simp only [List.length_append, List.length_cons, List.length_nil]; have := hol101; omega))⟩
      ·replace c200 := (notF c200)
       obtain ⟨g214, s215, hle216, hf217⟩ := Row.freeze R184 (s198.front 1 rfl)
       replace R189 := R189.mono hle216
       replace R90 := R90.mono hle216
       replace R96 := R96.mono hle216
       replace hF35 := hF35.mono hle216
       replace hG := hG.mono hle216
       replace hq51 := hq51.mono hle216
       replace hs150 := hs150.mono hle216
       replace hb57 := hle216 _ _ hb57
       obtain ⟨g218, s219, hle220, hf221⟩ := Row.freeze R189 (s215.front 1 rfl)
       replace R90 := R90.mono hle220
       replace R96 := R96.mono hle220
       replace hF35 := hF35.mono hle220
       replace hG := hG.mono hle220
       replace hf217 := hf217.mono hle220
       replace hq51 := hq51.mono hle220
       replace hs150 := hs150.mono hle220
       replace hb57 := hle220 _ _ hb57
       refine At.rg 5 ?_
       refine Op.ld (n := 1) 23 (.tmp 5) 51 0 (.slice ao87 out86.length n88) (s219.chunk 3 rfl) ?_
       refine Op.la 94 (.tmp 12) 52 0 8 [.int .i64 (((readS f146 ((splitOn 32 (trimL x76)).drop (1 : Int).toNat)).1).Kind), .int .i64 (((readS f146 ((splitOn 32 (trimL x76)).drop (1 : Int).toNat)).1).Role), .int .i64 (((readS f146 ((splitOn 32 (trimL x76)).drop (1 : Int).toNat)).1).K), .int .i64 (((readS f146 ((splitOn 32 (trimL x76)).drop (1 : Int).toNat)).1).Power), .int .i64 (((readS f146 ((splitOn 32 (trimL x76)).drop (1 : Int).toNat)).1).Node.Role), .int .i64 (((readS f146 ((splitOn 32 (trimL x76)).drop (1 : Int).toNat)).1).Node.N), .slice a185 ((((readS f146 ((splitOn 32 (trimL x76)).drop (1 : Int).toNat)).1).Data).length) n186, .slice a190 ((((readS f146 ((splitOn 32 (trimL x76)).drop (1 : Int).toNat)).1).Keeps).length) n191] (s219.chunk 0 rfl) ?_
       refine Op.lit (T := 23) (len := 1) (parts := #[(0, (.tmp 52))]) (dst := 53) (E := 94) (ps := [(0, .agg #[.int .i64 (((readS f146 ((splitOn 32 (trimL x76)).drop (1 : Int).toNat)).1).Kind), .int .i64 (((readS f146 ((splitOn 32 (trimL x76)).drop (1 : Int).toNat)).1).Role), .int .i64 (((readS f146 ((splitOn 32 (trimL x76)).drop (1 : Int).toNat)).1).K), .int .i64 (((readS f146 ((splitOn 32 (trimL x76)).drop (1 : Int).toNat)).1).Power), .int .i64 (((readS f146 ((splitOn 32 (trimL x76)).drop (1 : Int).toNat)).1).Node.Role), .int .i64 (((readS f146 ((splitOn 32 (trimL x76)).drop (1 : Int).toNat)).1).Node.N), .slice a185 ((((readS f146 ((splitOn 32 (trimL x76)).drop (1 : Int).toNat)).1).Data).length) n186, .slice a190 ((((readS f146 ((splitOn 32 (trimL x76)).drop (1 : Int).toNat)).1).Keeps).length) n191])]) (cs := #[.int .i64 (((readS f146 ((splitOn 32 (trimL x76)).drop (1 : Int).toNat)).1).Kind), .int .i64 (((readS f146 ((splitOn 32 (trimL x76)).drop (1 : Int).toNat)).1).Role), .int .i64 (((readS f146 ((splitOn 32 (trimL x76)).drop (1 : Int).toNat)).1).K), .int .i64 (((readS f146 ((splitOn 32 (trimL x76)).drop (1 : Int).toNat)).1).Power), .int .i64 (((readS f146 ((splitOn 32 (trimL x76)).drop (1 : Int).toNat)).1).Node.Role), .int .i64 (((readS f146 ((splitOn 32 (trimL x76)).drop (1 : Int).toNat)).1).Node.N), .slice a185 ((((readS f146 ((splitOn 32 (trimL x76)).drop (1 : Int).toNat)).1).Data).length) n186, .slice a190 ((((readS f146 ((splitOn 32 (trimL x76)).drop (1 : Int).toNat)).1).Keeps).length) n191]) (by kernel_rfl) (by kernel_rfl) (by kernel_rfl) s219 ?_
       intro b222 h223 s224
       refine Op.append (x := (.tmp 51)) (y := (.tmp 53)) (t := 23) (t' := 23) (dst := 54) (E := 94) (by_ := 96) (d := kStep) (by kernel_rfl) (by kernel_rfl) (by kernel_rfl) (by kernel_rfl) rfl R90 s224 5 rfl (Src.lit (m := 1) (sz := 8) (s224.chunk 0 rfl) (news := [.int .i64 (((readS f146 ((splitOn 32 (trimL x76)).drop (1 : Int).toNat)).1).Kind), .int .i64 (((readS f146 ((splitOn 32 (trimL x76)).drop (1 : Int).toNat)).1).Role), .int .i64 (((readS f146 ((splitOn 32 (trimL x76)).drop (1 : Int).toNat)).1).K), .int .i64 (((readS f146 ((splitOn 32 (trimL x76)).drop (1 : Int).toNat)).1).Power), .int .i64 (((readS f146 ((splitOn 32 (trimL x76)).drop (1 : Int).toNat)).1).Node.Role), .int .i64 (((readS f146 ((splitOn 32 (trimL x76)).drop (1 : Int).toNat)).1).Node.N), .slice a185 ((((readS f146 ((splitOn 32 (trimL x76)).drop (1 : Int).toNat)).1).Data).length) n186, .slice a190 ((((readS f146 ((splitOn 32 (trimL x76)).drop (1 : Int).toNat)).1).Keeps).length) n191]) rfl rfl (by simp [Value.oneCell']) _) (ys := [((readS f146 ((splitOn 32 (trimL x76)).drop (1 : Int).toNat)).1)]) (⟨_, _, rfl, ⟨_, _, hf217, hf221, rfl⟩, Reads.nil⟩) rfl (by (simp only [List.length_cons, List.length_nil]; omega)) (fun _ _ _ => trivial) ?_
       intro v225 ch226 h227 R228 s229 nn230
       obtain ⟨a231, n232, rfl⟩ := R228.form
       have s233 := (s229.front 0 rfl).drop
       refine Op.s1 23 (.tmp 5) (.tmp 54) 0 (.slice a231 ((out86 ++ ([((readS f146 ((splitOn 32 (trimL x76)).drop (1 : Int).toNat)).1)])).length) n232) 3 #[.slice a231 ((out86 ++ ([((readS f146 ((splitOn 32 (trimL x76)).drop (1 : Int).toNat)).1)])).length) n232] s233 (fun _ => trivial) ?_
       intro h234 s235
       refine Op.gt 18 ?_
       refine At.roundEnd (j := none) (by kernel_rfl) s235 2 rfl ?_
       intro h236 s237
       have s238 := s237.drop.drop
       have s239 : St h73 g74 (ids [(([(l63, .loop (mkL (mkQ 15 tm64 (pt (codeOf Tryz.f15) 5) r62) none))] : Chunk) ++ ([(b29, Obj.cells #[.slice ao87 out86.length n88] 23 (0, 0))] : Chunk) ++ (k89 : Chunk) ++ ([(b43, Obj.cells #[.int .i64 n91] 3 (0, 0))] : Chunk) ++ ([(b20, Obj.cells #[.slice ao93 r292.length n94] 23 (0, 0))] : Chunk) ++ (k95 : Chunk) ++ ([(b23, Obj.cells #[.int .i64 r397] 3 (0, 0))] : Chunk) ++ ([(b26, Obj.cells #[.int .i64 r498] 24 (0, 0))] : Chunk) : Chunk)]) g218 [(([(l63, .loop (mkL (mkQ 15 tm64 (pt (codeOf Tryz.f15) 5) r62) none))] : Chunk) ++ ([(b29, Obj.cells #[.slice a231 ((out86 ++ ([((readS f146 ((splitOn 32 (trimL x76)).drop (1 : Int).toNat)).1)])).length) n232] 23 (0, 0))] : Chunk) ++ (ch226 : Chunk) ++ ([(b43, Obj.cells #[.int .i64 (n91 + 1)] 3 (0, 0))] : Chunk) ++ ([(b20, Obj.cells #[.slice ao93 r292.length n94] 23 (0, 0))] : Chunk) ++ (k95 : Chunk) ++ ([(b23, Obj.cells #[.int .i64 r397] 3 (0, 0))] : Chunk) ++ ([(b26, Obj.cells #[.int .i64 r498] 24 (0, 0))] : Chunk) : Chunk)] h236 := St.flat (L := [[(l63, .loop (mkL (mkQ 15 tm64 (pt (codeOf Tryz.f15) 5) r62) none))], [(b29, Obj.cells #[.slice a231 ((out86 ++ ([((readS f146 ((splitOn 32 (trimL x76)).drop (1 : Int).toNat)).1)])).length) n232] 23 (0, 0))], ch226, [(b43, Obj.cells #[.int .i64 (n91 + 1)] 3 (0, 0))], [(b20, Obj.cells #[.slice ao93 r292.length n94] 23 (0, 0))], k95, [(b23, Obj.cells #[.int .i64 r397] 3 (0, 0))], [(b26, Obj.cells #[.int .i64 r498] 24 (0, 0))]]) (by simp only [List.flatten_cons, List.flatten_nil, List.append_assoc, List.cons_append, List.nil_append, List.append_nil]) s238
       refine hR2 _ _ _ _ s239 ⟨_, by (first | (rw [go_skip hI99 hgo81 (by first | exact skip_y1 (by assumption) | exact skip_y2 (by assumption) hx117 (by assumption))]; rfl) | (rw [go_ok hI99 hgo81 (skip_no (by assumption) hx117 (by assumption)) (ok_2 hx132 (by assumption) (by assumption))]; rfl)), rfl, ?_⟩
       first | rw [← pendP_0 (go_skip hI99 hgo81 (by first | exact skip_y1 (by assumption) | exact skip_y2 (by assumption) hx117 (by assumption)))] | rw [← pendP_0 (go_ok hI99 hgo81 (skip_no (by assumption) hx117 (by assumption)) (ok_2 hx132 (by assumption) (by assumption)))]
       rw [hI71]; exact ⟨(out86 ++ ([((readS f146 ((splitOn 32 (trimL x76)).drop (1 : Int).toNat)).1)])), a231, n232, ch226, (n91 + 1), r292, ao93, n94, k95, r397, r498, rfl, R228, R96, (by exact ps_ok hI99 hgo81 (skip_no (by assumption) hx117 (by assumption)) (ok_2 hx132 (by assumption) (by assumption)) (ok_3 hx132 (by assumption) (by assumption))), (by (rw [hn100]; simp only [List.length_append, List.length_cons, List.length_nil]; omega)), (by (simp only [List.length_append, List.length_cons, List.length_nil]; have := hol101; omega))⟩
     ·show Op _ _ _ _ _ [(1, true), (2, true), (0, true), (7, false), (3, false), (4, true), (5, true), (6, true), (1008, false), (8, false), (9, true)] _ _
      refine Op.px 1 [(43, .slice (some ⟨b133, o134, none⟩) ((splitOn 32 (trimL x76)).length) n128)] ?_
      refine Op.slLoD (T := 54) (E := 9) (by_ := 16) (x := (.tmp 43)) (ao := (some ⟨b133, o134, none⟩)) (n := ((splitOn 32 (trimL x76)).length)) (c := n128) (dst := 44) (d := kStr) (lo := (.const (.int .i64 1))) (k := .i64) (m := 1) (by kernel_rfl) (by kernel_rfl) (by kernel_rfl) (by kernel_rfl) hr126 (by omega) (by (have := split_ne (trimL x76); omega)) ?_
      intro v240 hr241
      obtain ⟨a242, n243, rfl⟩ := hr241.form
      refine Op.loadAF (T := 104) (x := (.tmp 10)) (o := 0) (d := 42) (n := 4) (vs := [.int .i64 f146.kind, .int .i64 f146.role, .slice a169 ((f146.words).length) n170, .bool f146.more]) (by kernel_rfl) (by kernel_rfl) (by kernel_rfl) (fun h => h) (s175.chunk 0 rfl) (by kernel_rfl) rfl ?_
      refine Op.al 12 94 #[.int .i64 0, .int .i64 0, .int .i64 0, .int .i64 0, .int .i64 0, .int .i64 0, .slice none 0 0, .slice none 0 0] s175 ?_
      intro b244 h245 s246
      refine Op.c0 (some 45) (readF _ _ _ s246.sub hG f146 _ hs150 _ _ hr241 (by ((try dsimp only) <;> (exact find_nn (by assumption)))) (by ((try dsimp only) <;> ((intro x hx; obtain ⟨i, hi⟩ := List.getElem?_of_mem (List.mem_of_mem_drop hx); have := split_el hi; omega)))) (by ((try dsimp only) <;> ((have := split_len (trimL x76); simp only [List.length_drop]; omega)))) (by ((try dsimp only) <;> (exact find_wl (by assumption)))) ) s246 ?_
      rintro _ g259 _ h247 hle260 s248 ⟨v249, ch250, v254, ch255, rfl, R251, R256, hgg, rfl⟩; subst g259; clear hle260
      obtain ⟨a252, n253, rfl⟩ := R251.form
      obtain ⟨a257, n258, rfl⟩ := R256.form
      refine Op.px 3 [(46, .agg #[.int .i64 (((readS f146 ((splitOn 32 (trimL x76)).drop (1 : Int).toNat)).1).Kind), .int .i64 (((readS f146 ((splitOn 32 (trimL x76)).drop (1 : Int).toNat)).1).Role), .int .i64 (((readS f146 ((splitOn 32 (trimL x76)).drop (1 : Int).toNat)).1).K), .int .i64 (((readS f146 ((splitOn 32 (trimL x76)).drop (1 : Int).toNat)).1).Power), .int .i64 (((readS f146 ((splitOn 32 (trimL x76)).drop (1 : Int).toNat)).1).Node.Role), .int .i64 (((readS f146 ((splitOn 32 (trimL x76)).drop (1 : Int).toNat)).1).Node.N), .slice a252 ((((readS f146 ((splitOn 32 (trimL x76)).drop (1 : Int).toNat)).1).Data).length) n253, .slice a257 ((((readS f146 ((splitOn 32 (trimL x76)).drop (1 : Int).toNat)).1).Keeps).length) n258]), (47, .bool ((readS f146 ((splitOn 32 (trimL x76)).drop (1 : Int).toNat)).2))] ?_
      refine Op.barrier (by kernel_rfl) ?_
      refine Op.store (T := 94) (x := (.tmp 12)) (y := (.tmp 46)) (b := b244) (o := 0) (vs := [.int .i64 (((readS f146 ((splitOn 32 (trimL x76)).drop (1 : Int).toNat)).1).Kind), .int .i64 (((readS f146 ((splitOn 32 (trimL x76)).drop (1 : Int).toNat)).1).Role), .int .i64 (((readS f146 ((splitOn 32 (trimL x76)).drop (1 : Int).toNat)).1).K), .int .i64 (((readS f146 ((splitOn 32 (trimL x76)).drop (1 : Int).toNat)).1).Power), .int .i64 (((readS f146 ((splitOn 32 (trimL x76)).drop (1 : Int).toNat)).1).Node.Role), .int .i64 (((readS f146 ((splitOn 32 (trimL x76)).drop (1 : Int).toNat)).1).Node.N), .slice a252 ((((readS f146 ((splitOn 32 (trimL x76)).drop (1 : Int).toNat)).1).Data).length) n253, .slice a257 ((((readS f146 ((splitOn 32 (trimL x76)).drop (1 : Int).toNat)).1).Keeps).length) n258]) (a? := true) (n := 8) (by kernel_rfl) (by kernel_rfl) (by kernel_rfl) (by kernel_rfl) rfl (by simp [Value.oneCell']) s248 2 rfl (Nat.le_of_ble_eq_true (by kernel_rfl)) (cs := #[.int .i64 0, .int .i64 0, .int .i64 0, .int .i64 0, .int .i64 0, .int .i64 0, .slice none 0 0, .slice none 0 0]) (cs' := #[.int .i64 (((readS f146 ((splitOn 32 (trimL x76)).drop (1 : Int).toNat)).1).Kind), .int .i64 (((readS f146 ((splitOn 32 (trimL x76)).drop (1 : Int).toNat)).1).Role), .int .i64 (((readS f146 ((splitOn 32 (trimL x76)).drop (1 : Int).toNat)).1).K), .int .i64 (((readS f146 ((splitOn 32 (trimL x76)).drop (1 : Int).toNat)).1).Power), .int .i64 (((readS f146 ((splitOn 32 (trimL x76)).drop (1 : Int).toNat)).1).Node.Role), .int .i64 (((readS f146 ((splitOn 32 (trimL x76)).drop (1 : Int).toNat)).1).Node.N), .slice a252 ((((readS f146 ((splitOn 32 (trimL x76)).drop (1 : Int).toNat)).1).Data).length) n253, .slice a257 ((((readS f146 ((splitOn 32 (trimL x76)).drop (1 : Int).toNat)).1).Keeps).length) n258]) (by kernel_rfl) (fun _ => trivial) ?_
      intro h261 s262
      refine Op.pg 13 [(11, .bool ((readS f146 ((splitOn 32 (trimL x76)).drop (1 : Int).toNat)).2))] ?_
      refine At.go 14 2 [(49, .bool (!((readS f146 ((splitOn 32 (trimL x76)).drop (1 : Int).toNat)).2)))] ?_
      refine At.if' (!((readS f146 ((splitOn 32 (trimL x76)).drop (1 : Int).toNat)).2)) 49 15 17 (fun c263 => ?_) (fun c264 => ?_)
      ·replace c263 := (notT c263)
       refine At.draw (by kernel_rfl) (ids [[(b20, Obj.cells #[.slice ao93 r292.length n94] 23 (0, 0))], [(b23, Obj.cells #[.int .i64 r397] 3 (0, 0))], [(b26, Obj.cells #[.int .i64 r498] 24 (0, 0))]]) [(0, true), (1, false), (2, false), (3, false)] (by kernel_rfl) ?_
       refine Op.loadF (T := 3) (x := (.tmp 7)) (o := 0) (d := 50) (n := 1) (v := .int .i64 (n91 + 1)) (by kernel_rfl) (by kernel_rfl) (by kernel_rfl) (fun h => (ids_or h).elim (s262.apart 7 8 rfl rfl rfl) (fun h => (ids_or h).elim (s262.apart 7 10 rfl rfl rfl) (fun h => (ids_or h).elim (s262.apart 7 11 rfl rfl rfl) (fun h => absurd h (ids_nil _))))) (s262.chunk 7 rfl) (by kernel_rfl) ?_
       refine Op.s1 23 (.tmp 2) (.const (.slice none 0 0)) 0 (.slice none 0 0) 8 #[.slice none 0 0] s262 (fun _ => ⟨(b20, Obj.cells #[.slice ao93 r292.length n94] 23 (0, 0)), by simp, rfl⟩) ?_
       intro h265 s266
       refine Op.s1 3 (.tmp 3) (.tmp 50) 0 (.int .i64 (n91 + 1)) 10 #[.int .i64 (n91 + 1)] s266 (fun _ => ⟨(b23, Obj.cells #[.int .i64 r397] 3 (0, 0)), by simp, rfl⟩) ?_
       intro h267 s268
       refine Op.s1 24 (.tmp 4) (.const (.int .i64 240)) 0 (.int .i64 240) 11 #[.int .i64 240] s268 (fun _ => ⟨(b26, Obj.cells #[.int .i64 r498] 24 (0, 0)), by simp, rfl⟩) ?_
       intro h269 s270
       refine Op.gt 16 ?_
       refine At.roundEnd (j := (some .ret)) (by kernel_rfl) s270 4 rfl ?_
       intro h271 s272
       have R274 := Row.zero 94 kStep g129 none
       have s273 := s272.nl
       have s275 := ((((((((((s273.front 0 rfl).front 9 rfl).front 9 rfl).front 9 rfl).front 9 rfl).front 9 rfl).front 10 rfl).front 10 rfl).front 10 rfl).front 10 rfl).front 10 rfl
       have s276 := s275.drop.drop.drop.drop.drop
       have s277 : St h73 g74 (ids [(([(l63, .loop (mkL (mkQ 15 tm64 (pt (codeOf Tryz.f15) 5) r62) none))] : Chunk) ++ ([(b29, Obj.cells #[.slice ao87 out86.length n88] 23 (0, 0))] : Chunk) ++ (k89 : Chunk) ++ ([(b43, Obj.cells #[.int .i64 n91] 3 (0, 0))] : Chunk) ++ ([(b20, Obj.cells #[.slice ao93 r292.length n94] 23 (0, 0))] : Chunk) ++ (k95 : Chunk) ++ ([(b23, Obj.cells #[.int .i64 r397] 3 (0, 0))] : Chunk) ++ ([(b26, Obj.cells #[.int .i64 r498] 24 (0, 0))] : Chunk) : Chunk)]) g129 [(([(l63, .loop (mkL (mkQ 15 tm64 (pt (codeOf Tryz.f15) 5) r62) (some .ret)))] : Chunk) ++ ([(b29, Obj.cells #[.slice ao87 out86.length n88] 23 (0, 0))] : Chunk) ++ (k89 : Chunk) ++ ([(b43, Obj.cells #[.int .i64 (n91 + 1)] 3 (0, 0))] : Chunk) ++ ([(b20, Obj.cells #[.slice none (([] : List Step).length) 0] 23 (0, 0))] : Chunk) ++ ([] : Chunk) ++ ([(b23, Obj.cells #[.int .i64 (n91 + 1)] 3 (0, 0))] : Chunk) ++ ([(b26, Obj.cells #[.int .i64 240] 24 (0, 0))] : Chunk) : Chunk)] h271 := St.flat (L := [[(l63, .loop (mkL (mkQ 15 tm64 (pt (codeOf Tryz.f15) 5) r62) (some .ret)))], [(b29, Obj.cells #[.slice ao87 out86.length n88] 23 (0, 0))], k89, [(b43, Obj.cells #[.int .i64 (n91 + 1)] 3 (0, 0))], [(b20, Obj.cells #[.slice none (([] : List Step).length) 0] 23 (0, 0))], [], [(b23, Obj.cells #[.int .i64 (n91 + 1)] 3 (0, 0))], [(b26, Obj.cells #[.int .i64 240] 24 (0, 0))]]) (by simp only [List.flatten_cons, List.flatten_nil, List.append_assoc, List.cons_append, List.nil_append, List.append_nil]) s276
       refine hR2 _ _ _ _ s277 ⟨_, by (rw [go_bad hI99 hgo81 (skip_no (by assumption) hx117 (by assumption)) (by exact bad_2 hx132 (by assumption) (by assumption))]; rfl), rfl, ?_⟩
       rw [← pendP_1 (go_bad hI99 hgo81 (skip_no (by assumption) hx117 (by assumption)) (by exact bad_2 hx132 (by assumption) (by assumption)))]
       rw [hI71]; exact ⟨out86, ao87, n88, k89, (n91 + 1), ([] : List Step), none, 0, [], (n91 + 1), 240, rfl, R90, R274, (by exact ps_bad hI99 hgo81 (skip_no (by assumption) hx117 (by assumption)) (by first | exact bad_2 hx132 (by assumption) (by assumption) | exact bad_1 hx132 (by assumption))), (by (rw [hn100]; simp only [List.length_append, List.length_cons, List.length_nil]; omega)), (by (simp only [List.length_append, List.length_cons, List.length_nil]; have := hol101; omega))⟩
      ·replace c264 := (notF c264)
       obtain ⟨g278, s279, hle280, hf281⟩ := Row.freeze R251 (s262.front 0 rfl)
       replace R256 := R256.mono hle280
       replace R90 := R90.mono hle280
       replace R96 := R96.mono hle280
       replace hF35 := hF35.mono hle280
       replace hG := hG.mono hle280
       replace hq51 := hq51.mono hle280
       replace hs150 := hs150.mono hle280
       replace hb57 := hle280 _ _ hb57
       obtain ⟨g282, s283, hle284, hf285⟩ := Row.freeze R256 (s279.front 0 rfl)
       replace R90 := R90.mono hle284
       replace R96 := R96.mono hle284
       replace hF35 := hF35.mono hle284
       replace hG := hG.mono hle284
       replace hf281 := hf281.mono hle284
       replace hq51 := hq51.mono hle284
       replace hs150 := hs150.mono hle284
       replace hb57 := hle284 _ _ hb57
       refine At.rg 5 ?_
       refine Op.ld (n := 1) 23 (.tmp 5) 51 0 (.slice ao87 out86.length n88) (s283.chunk 3 rfl) ?_
       refine Op.la 94 (.tmp 12) 52 0 8 [.int .i64 (((readS f146 ((splitOn 32 (trimL x76)).drop (1 : Int).toNat)).1).Kind), .int .i64 (((readS f146 ((splitOn 32 (trimL x76)).drop (1 : Int).toNat)).1).Role), .int .i64 (((readS f146 ((splitOn 32 (trimL x76)).drop (1 : Int).toNat)).1).K), .int .i64 (((readS f146 ((splitOn 32 (trimL x76)).drop (1 : Int).toNat)).1).Power), .int .i64 (((readS f146 ((splitOn 32 (trimL x76)).drop (1 : Int).toNat)).1).Node.Role), .int .i64 (((readS f146 ((splitOn 32 (trimL x76)).drop (1 : Int).toNat)).1).Node.N), .slice a252 ((((readS f146 ((splitOn 32 (trimL x76)).drop (1 : Int).toNat)).1).Data).length) n253, .slice a257 ((((readS f146 ((splitOn 32 (trimL x76)).drop (1 : Int).toNat)).1).Keeps).length) n258] (s283.chunk 0 rfl) ?_
       refine Op.lit (T := 23) (len := 1) (parts := #[(0, (.tmp 52))]) (dst := 53) (E := 94) (ps := [(0, .agg #[.int .i64 (((readS f146 ((splitOn 32 (trimL x76)).drop (1 : Int).toNat)).1).Kind), .int .i64 (((readS f146 ((splitOn 32 (trimL x76)).drop (1 : Int).toNat)).1).Role), .int .i64 (((readS f146 ((splitOn 32 (trimL x76)).drop (1 : Int).toNat)).1).K), .int .i64 (((readS f146 ((splitOn 32 (trimL x76)).drop (1 : Int).toNat)).1).Power), .int .i64 (((readS f146 ((splitOn 32 (trimL x76)).drop (1 : Int).toNat)).1).Node.Role), .int .i64 (((readS f146 ((splitOn 32 (trimL x76)).drop (1 : Int).toNat)).1).Node.N), .slice a252 ((((readS f146 ((splitOn 32 (trimL x76)).drop (1 : Int).toNat)).1).Data).length) n253, .slice a257 ((((readS f146 ((splitOn 32 (trimL x76)).drop (1 : Int).toNat)).1).Keeps).length) n258])]) (cs := #[.int .i64 (((readS f146 ((splitOn 32 (trimL x76)).drop (1 : Int).toNat)).1).Kind), .int .i64 (((readS f146 ((splitOn 32 (trimL x76)).drop (1 : Int).toNat)).1).Role), .int .i64 (((readS f146 ((splitOn 32 (trimL x76)).drop (1 : Int).toNat)).1).K), .int .i64 (((readS f146 ((splitOn 32 (trimL x76)).drop (1 : Int).toNat)).1).Power), .int .i64 (((readS f146 ((splitOn 32 (trimL x76)).drop (1 : Int).toNat)).1).Node.Role), .int .i64 (((readS f146 ((splitOn 32 (trimL x76)).drop (1 : Int).toNat)).1).Node.N), .slice a252 ((((readS f146 ((splitOn 32 (trimL x76)).drop (1 : Int).toNat)).1).Data).length) n253, .slice a257 ((((readS f146 ((splitOn 32 (trimL x76)).drop (1 : Int).toNat)).1).Keeps).length) n258]) (by kernel_rfl) (by kernel_rfl) (by kernel_rfl) s283 ?_
       intro b286 h287 s288
       refine Op.append (x := (.tmp 51)) (y := (.tmp 53)) (t := 23) (t' := 23) (dst := 54) (E := 94) (by_ := 96) (d := kStep) (by kernel_rfl) (by kernel_rfl) (by kernel_rfl) (by kernel_rfl) rfl R90 s288 5 rfl (Src.lit (m := 1) (sz := 8) (s288.chunk 0 rfl) (news := [.int .i64 (((readS f146 ((splitOn 32 (trimL x76)).drop (1 : Int).toNat)).1).Kind), .int .i64 (((readS f146 ((splitOn 32 (trimL x76)).drop (1 : Int).toNat)).1).Role), .int .i64 (((readS f146 ((splitOn 32 (trimL x76)).drop (1 : Int).toNat)).1).K), .int .i64 (((readS f146 ((splitOn 32 (trimL x76)).drop (1 : Int).toNat)).1).Power), .int .i64 (((readS f146 ((splitOn 32 (trimL x76)).drop (1 : Int).toNat)).1).Node.Role), .int .i64 (((readS f146 ((splitOn 32 (trimL x76)).drop (1 : Int).toNat)).1).Node.N), .slice a252 ((((readS f146 ((splitOn 32 (trimL x76)).drop (1 : Int).toNat)).1).Data).length) n253, .slice a257 ((((readS f146 ((splitOn 32 (trimL x76)).drop (1 : Int).toNat)).1).Keeps).length) n258]) rfl rfl (by simp [Value.oneCell']) _) (ys := [((readS f146 ((splitOn 32 (trimL x76)).drop (1 : Int).toNat)).1)]) (⟨_, _, rfl, ⟨_, _, hf281, hf285, rfl⟩, Reads.nil⟩) rfl (by (simp only [List.length_cons, List.length_nil]; omega)) (fun _ _ _ => trivial) ?_
       intro v289 ch290 h291 R292 s293 nn294
       obtain ⟨a295, n296, rfl⟩ := R292.form
       have s297 := (s293.front 0 rfl).drop
       refine Op.s1 23 (.tmp 5) (.tmp 54) 0 (.slice a295 ((out86 ++ ([((readS f146 ((splitOn 32 (trimL x76)).drop (1 : Int).toNat)).1)])).length) n296) 3 #[.slice a295 ((out86 ++ ([((readS f146 ((splitOn 32 (trimL x76)).drop (1 : Int).toNat)).1)])).length) n296] s297 (fun _ => trivial) ?_
       intro h298 s299
       refine Op.gt 18 ?_
       refine At.roundEnd (j := none) (by kernel_rfl) s299 2 rfl ?_
       intro h300 s301
       have s302 := s301.drop.drop
       have s303 : St h73 g74 (ids [(([(l63, .loop (mkL (mkQ 15 tm64 (pt (codeOf Tryz.f15) 5) r62) none))] : Chunk) ++ ([(b29, Obj.cells #[.slice ao87 out86.length n88] 23 (0, 0))] : Chunk) ++ (k89 : Chunk) ++ ([(b43, Obj.cells #[.int .i64 n91] 3 (0, 0))] : Chunk) ++ ([(b20, Obj.cells #[.slice ao93 r292.length n94] 23 (0, 0))] : Chunk) ++ (k95 : Chunk) ++ ([(b23, Obj.cells #[.int .i64 r397] 3 (0, 0))] : Chunk) ++ ([(b26, Obj.cells #[.int .i64 r498] 24 (0, 0))] : Chunk) : Chunk)]) g282 [(([(l63, .loop (mkL (mkQ 15 tm64 (pt (codeOf Tryz.f15) 5) r62) none))] : Chunk) ++ ([(b29, Obj.cells #[.slice a295 ((out86 ++ ([((readS f146 ((splitOn 32 (trimL x76)).drop (1 : Int).toNat)).1)])).length) n296] 23 (0, 0))] : Chunk) ++ (ch290 : Chunk) ++ ([(b43, Obj.cells #[.int .i64 (n91 + 1)] 3 (0, 0))] : Chunk) ++ ([(b20, Obj.cells #[.slice ao93 r292.length n94] 23 (0, 0))] : Chunk) ++ (k95 : Chunk) ++ ([(b23, Obj.cells #[.int .i64 r397] 3 (0, 0))] : Chunk) ++ ([(b26, Obj.cells #[.int .i64 r498] 24 (0, 0))] : Chunk) : Chunk)] h300 := St.flat (L := [[(l63, .loop (mkL (mkQ 15 tm64 (pt (codeOf Tryz.f15) 5) r62) none))], [(b29, Obj.cells #[.slice a295 ((out86 ++ ([((readS f146 ((splitOn 32 (trimL x76)).drop (1 : Int).toNat)).1)])).length) n296] 23 (0, 0))], ch290, [(b43, Obj.cells #[.int .i64 (n91 + 1)] 3 (0, 0))], [(b20, Obj.cells #[.slice ao93 r292.length n94] 23 (0, 0))], k95, [(b23, Obj.cells #[.int .i64 r397] 3 (0, 0))], [(b26, Obj.cells #[.int .i64 r498] 24 (0, 0))]]) (by simp only [List.flatten_cons, List.flatten_nil, List.append_assoc, List.cons_append, List.nil_append, List.append_nil]) s302
       refine hR2 _ _ _ _ s303 ⟨_, by (first | (rw [go_skip hI99 hgo81 (by first | exact skip_y1 (by assumption) | exact skip_y2 (by assumption) hx117 (by assumption))]; rfl) | (rw [go_ok hI99 hgo81 (skip_no (by assumption) hx117 (by assumption)) (ok_2 hx132 (by assumption) (by assumption))]; rfl)), rfl, ?_⟩
       first | rw [← pendP_0 (go_skip hI99 hgo81 (by first | exact skip_y1 (by assumption) | exact skip_y2 (by assumption) hx117 (by assumption)))] | rw [← pendP_0 (go_ok hI99 hgo81 (skip_no (by assumption) hx117 (by assumption)) (ok_2 hx132 (by assumption) (by assumption)))]
       rw [hI71]; exact ⟨(out86 ++ ([((readS f146 ((splitOn 32 (trimL x76)).drop (1 : Int).toNat)).1)])), a295, n296, ch290, (n91 + 1), r292, ao93, n94, k95, r397, r498, rfl, R292, R96, (by exact ps_ok hI99 hgo81 (skip_no (by assumption) hx117 (by assumption)) (ok_2 hx132 (by assumption) (by assumption)) (ok_3 hx132 (by assumption) (by assumption))), (by (rw [hn100]; simp only [List.length_append, List.length_cons, List.length_nil]; omega)), (by (simp only [List.length_append, List.length_cons, List.length_nil]; have := hol101; omega))⟩
 have s304 : St h g (ids []) g54 [(([(l63, .loop (mkL (mkQ 15 tm64 (pt (codeOf Tryz.f15) 5) r62) none))] : Chunk) ++ ([(b29, Obj.cells #[.slice none (([] : List Step).length) 0] 23 (0, 0))] : Chunk) ++ ([] : Chunk) ++ ([(b43, Obj.cells #[.int .i64 0] 3 (0, 0))] : Chunk) ++ ([(b20, Obj.cells #[.slice none (([] : List Step).length) 0] 23 (0, 0))] : Chunk) ++ ([] : Chunk) ++ ([(b23, Obj.cells #[.int .i64 0] 3 (0, 0))] : Chunk) ++ ([(b26, Obj.cells #[.int .i64 0] 24 (0, 0))] : Chunk) : Chunk), [(b50, Obj.cells #[.string (mkS text)] 9 (0, 0))], [(r62, .deferred (some []))]] h65 := (s69.front 2 rfl).front 1 rfl
 refine AtIn.call (Lc := [(([(l63, .loop (mkL (mkQ 15 tm64 (pt (codeOf Tryz.f15) 5) r62) none))] : Chunk) ++ ([(b29, Obj.cells #[.slice none (([] : List Step).length) 0] 23 (0, 0))] : Chunk) ++ ([] : Chunk) ++ ([(b43, Obj.cells #[.int .i64 0] 3 (0, 0))] : Chunk) ++ ([(b20, Obj.cells #[.slice none (([] : List Step).length) 0] 23 (0, 0))] : Chunk) ++ ([] : Chunk) ++ ([(b23, Obj.cells #[.int .i64 0] 3 (0, 0))] : Chunk) ++ ([(b26, Obj.cells #[.int .i64 0] 24 (0, 0))] : Chunk) : Chunk), [(b50, Obj.cells #[.string (mkS text)] 9 (0, 0))]]) (L := [[(r62, .deferred (some []))]]) s304 (hq51 B _ _ _ I70 (goP) _ (gle.refl _) s304.sub hG hY72 rfl (by rw [hI71]; exact ⟨([] : List Step), none, 0, [], 0, ([] : List Step), none, 0, [], 0, 0, rfl, R59, R61, (by exact psI_0), (by rfl), (by exact Nat.le_refl _)⟩) (St.part (Lc := [(([(l63, .loop (mkL (mkQ 15 tm64 (pt (codeOf Tryz.f15) 5) r62) none))] : Chunk) ++ ([(b29, Obj.cells #[.slice none (([] : List Step).length) 0] 23 (0, 0))] : Chunk) ++ ([] : Chunk) ++ ([(b43, Obj.cells #[.int .i64 0] 3 (0, 0))] : Chunk) ++ ([(b20, Obj.cells #[.slice none (([] : List Step).length) 0] 23 (0, 0))] : Chunk) ++ ([] : Chunk) ++ ([(b23, Obj.cells #[.int .i64 0] 3 (0, 0))] : Chunk) ++ ([(b26, Obj.cells #[.int .i64 0] 24 (0, 0))] : Chunk) : Chunk), [(b50, Obj.cells #[.string (mkS text)] 9 (0, 0))]]) (L := [[(r62, .deferred (some []))]]) s304)) ?_
 rintro _ g305 _ h306 hle307 s308 ⟨full309, xs310, c311, ob317, rfl, ho312, hp313, hf314, hpr315, rfl, hI316⟩
 have s318 : St h g (ids []) g305 [c311, [(r62, .deferred (some []))]] h306 := (s308.front 1 rfl).drop
 replace hF35 := hF35.mono hle307
 replace hG := hG.mono hle307
 replace hq51 := hq51.mono hle307
 replace hb57 := hle307 _ _ hb57
 have hgq : goP xs310 = true ∨ goP xs310 = false := by cases goP xs310 <;> simp
 rcases hgq with hgq | hgq
 ·have hfull := hf314 hgq
  rw [hI71] at hI316
  obtain ⟨out319, ao320, n321, k322, n324, r2325, ao326, n327, k328, r3330, r4331, rfl, R323, R329, hI332, hn333, hol334⟩ := hI316
  rw [show (pendP xs310) = none from by exact pendP_0 hgq] at s318
  have s335 : St h g (ids []) g305 [[(l63, .loop (mkL (mkQ 15 tm64 (pt (codeOf Tryz.f15) 5) r62) none))], [(b29, Obj.cells #[.slice ao320 out319.length n321] 23 (0, 0))], k322, [(b43, Obj.cells #[.int .i64 n324] 3 (0, 0))], [(b20, Obj.cells #[.slice ao326 r2325.length n327] 23 (0, 0))], k328, [(b23, Obj.cells #[.int .i64 r3330] 3 (0, 0))], [(b26, Obj.cells #[.int .i64 r4331] 24 (0, 0))], [(r62, .deferred (some []))]] h306 := St.flat (by simp only [List.flatten_cons, List.flatten_nil, List.append_assoc, List.cons_append, List.nil_append, List.append_nil]) s318
  refine AtI.endLoop (j := none) s335 0 rfl ?_
  intro h336 s337
  have s338 := s337.drop
  refine AtI.at_ 6 (by kernel_rfl) ?_
  refine At.rg 4 ?_
  refine Op.ld (n := 1) 23 (.tmp 5) 55 0 (.slice ao320 out319.length n321) (s338.chunk 0 rfl) ?_
  refine Op.s1 23 (.tmp 2) (.tmp 55) 0 (.slice ao320 out319.length n321) 3 #[.slice ao320 out319.length n321] s338 (fun _ => trivial) ?_
  intro h339 s340
  refine Op.s1 3 (.tmp 3) (.const (.int .i64 0)) 0 (.int .i64 0) 5 #[.int .i64 0] s340 (fun _ => trivial) ?_
  intro h341 s342
  refine Op.s1 24 (.tmp 4) (.const (.int .i64 0)) 0 (.int .i64 0) 6 #[.int .i64 0] s342 (fun _ => trivial) ?_
  intro h343 s344
  refine Op.gt 7 ?_
  have s345 := (((((((s344.front 6 rfl).front 6 rfl).front 6 rfl).front 6 rfl).front 6 rfl).front 6 rfl).front 6 rfl).front 7 rfl
  refine At.ofI (AtI.retMD (L := [[(b29, Obj.cells #[.slice ao320 out319.length n321] 23 (0, 0))], k322, [(b43, Obj.cells #[.int .i64 n324] 3 (0, 0))], [(b20, Obj.cells #[.slice ao320 out319.length n321] 23 (0, 0))], k328, [(b23, Obj.cells #[.int .i64 0] 3 (0, 0))], [(b26, Obj.cells #[.int .i64 0] 24 (0, 0))]]) (f := Tryz.f15) (vs := [.slice ao320 out319.length n321, .int .i64 0, .int .i64 0]) (rl := [.cell 2 23, .cell 3 3, .cell 4 24]) (v := .tuple #[.slice ao320 out319.length n321, .int .i64 0, .int .i64 0]) [r62] (by kernel_rfl) (by kernel_rfl) rfl s345 ?_)
  intro h346 s347
  refine ⟨⟨⟨_, _, rfl, resOne (n := 1) (by kernel_rfl) (s347.chunk 3 rfl) (by kernel_rfl)⟩, ⟨_, _, rfl, resOne (n := 1) (by kernel_rfl) (s347.chunk 5 rfl) (by kernel_rfl)⟩, ⟨_, _, rfl, resOne (n := 1) (by kernel_rfl) (s347.chunk 6 rfl) (by kernel_rfl)⟩, trivial⟩, ?_⟩
  have s348 := ((((((s347.front 1 rfl).front 6 rfl).front 6 rfl).front 6 rfl).front 6 rfl).front 6 rfl).front 6 rfl
  have s349 := s348.drop.drop.drop.drop.drop.drop
  refine hR _ _ _ _ s349 ⟨(.slice ao320 out319.length n321), k322, ?_, ?_, rfl⟩
  ·exact eqT3 rfl (eqI (by (subst hfull; subst ho312; first | exact (proj3 (parse_all hI332 hgq)).1 | exact (proj3 (parse_all hI332 hgq)).2.1 | exact (proj3 (parse_all hI332 hgq)).2.2))) (eqI (by (subst hfull; subst ho312; first | exact (proj3 (parse_all hI332 hgq)).1 | exact (proj3 (parse_all hI332 hgq)).2.1 | exact (proj3 (parse_all hI332 hgq)).2.2)))
  ·exact rowEq R323 (by (subst hfull; subst ho312; first | exact (proj3 (parse_all hI332 hgq)).1 | exact (proj3 (parse_all hI332 hgq)).2.1 | exact (proj3 (parse_all hI332 hgq)).2.2))
 ·rw [hI71] at hI316
  obtain ⟨out350, ao351, n352, k353, n355, r2356, ao357, n358, k359, r3361, r4362, rfl, R354, R360, hI363, hn364, hol365⟩ := hI316
  rw [show (pendP xs310) = (some .ret) from by exact pendP_1 hgq] at s318
  have s366 : St h g (ids []) g305 [[(l63, .loop (mkL (mkQ 15 tm64 (pt (codeOf Tryz.f15) 5) r62) (some .ret)))], [(b29, Obj.cells #[.slice ao351 out350.length n352] 23 (0, 0))], k353, [(b43, Obj.cells #[.int .i64 n355] 3 (0, 0))], [(b20, Obj.cells #[.slice ao357 r2356.length n358] 23 (0, 0))], k359, [(b23, Obj.cells #[.int .i64 r3361] 3 (0, 0))], [(b26, Obj.cells #[.int .i64 r4362] 24 (0, 0))], [(r62, .deferred (some []))]] h306 := St.flat (by simp only [List.flatten_cons, List.flatten_nil, List.append_assoc, List.cons_append, List.nil_append, List.append_nil]) s318
  refine AtI.endLoop (j := (some .ret)) s366 0 rfl ?_
  intro h367 s368
  have s369 := s368.drop
  have s370 := (((((((s369.front 6 rfl).front 6 rfl).front 6 rfl).front 6 rfl).front 6 rfl).front 6 rfl).front 6 rfl).front 7 rfl
  refine AtI.retMD (L := [[(b29, Obj.cells #[.slice ao351 out350.length n352] 23 (0, 0))], k353, [(b43, Obj.cells #[.int .i64 n355] 3 (0, 0))], [(b20, Obj.cells #[.slice ao357 r2356.length n358] 23 (0, 0))], k359, [(b23, Obj.cells #[.int .i64 r3361] 3 (0, 0))], [(b26, Obj.cells #[.int .i64 r4362] 24 (0, 0))]]) (f := Tryz.f15) (vs := [.slice ao357 r2356.length n358, .int .i64 r3361, .int .i64 r4362]) (rl := [.cell 2 23, .cell 3 3, .cell 4 24]) (v := .tuple #[.slice ao357 r2356.length n358, .int .i64 r3361, .int .i64 r4362]) [r62] (by kernel_rfl) (by kernel_rfl) rfl s370 ?_
  intro h371 s372
  refine ⟨⟨⟨_, _, rfl, resOne (n := 1) (by kernel_rfl) (s372.chunk 3 rfl) (by kernel_rfl)⟩, ⟨_, _, rfl, resOne (n := 1) (by kernel_rfl) (s372.chunk 5 rfl) (by kernel_rfl)⟩, ⟨_, _, rfl, resOne (n := 1) (by kernel_rfl) (s372.chunk 6 rfl) (by kernel_rfl)⟩, trivial⟩, ?_⟩
  have s373 := ((((((s372.front 4 rfl).front 6 rfl).front 6 rfl).front 6 rfl).front 6 rfl).front 6 rfl).front 6 rfl
  have s374 := s373.drop.drop.drop.drop.drop.drop
  refine hR _ _ _ _ s374 ⟨(.slice ao357 r2356.length n358), k359, ?_, ?_, rfl⟩
  ·exact eqT3 rfl (eqI (by (subst ho312; first | exact (proj3 (parse_stop hI363 hgq hp313)).1 | exact (proj3 (parse_stop hI363 hgq hp313)).2.1 | exact (proj3 (parse_stop hI363 hgq hp313)).2.2))) (eqI (by (subst ho312; first | exact (proj3 (parse_stop hI363 hgq hp313)).1 | exact (proj3 (parse_stop hI363 hgq hp313)).2.1 | exact (proj3 (parse_stop hI363 hgq hp313)).2.2)))
  ·exact rowEq R360 (by (subst ho312; first | exact (proj3 (parse_stop hI363 hgq hp313)).1 | exact (proj3 (parse_stop hI363 hgq hp313)).2.1 | exact (proj3 (parse_stop hI363 hgq hp313)).2.2))
end Go.Proofs.YtmjebehhpojihaaGreatDoor.Sw
namespace Go.Proofs.YtmjebehhpojihaaGreatDoor.Sw
set_option linter.unusedVariables false
set_option linter.unusedSimpArgs false
set_option linter.deprecated false
open Go Go.RowKit
theorem bldX : Builder.X72 Tryz.prog Tryz.lays156_ren := Tryz.Builder_Extra_156.toX72
theorem copyCheck_spec (B : World) (h : Heap) (g : GH) (hg : Sub g h) (hG : Glob g) (b : Nat) (ad : Option Addr) (had : ad = none ∨ ad = some ⟨b, 0, none⟩) (v : Value) (hs : St h g (ids [[(b, .cells #[.pointer ad, v] 113 (0, 0))]]) g [[(b, .cells #[.pointer ad, v] 113 (0, 0))]] h) :
    Spec Tryz.prog B 114 #[.pointer (some ⟨b, 0, none⟩)] h g [[(b, .cells #[.pointer ad, v] 113 (0, 0))]] fun rv g' L' => rv = .tuple #[] ∧ g' = g ∧ L' = [[(b, .cells #[.pointer (some ⟨b, 0, none⟩), v] 113 (0, 0))]] := by
  have hb := hs.chunk 0 (b := b) rfl
  intro w is
  have hbw : w.heap[b]? = some (.cells #[.pointer ad, v] 113 (0, 0)) := by rw [is.heap]; exact hb
  rcases had with rfl | rfl
  · have hc := Any.Builder_copyCheck_fresh (P := Tryz.prog) (ρ := Tryz.lays156_ren) { Tryz.lays156 with } bldX b w (by rw [cell_of is.heap, hcell_row hb]; rfl) (by unfold World.shape?; rw [hbw]; rfl) (by unfold World.frozen?; rw [hbw]; simp)
    refine Calls.mono hc fun e w' ⟨he, hw⟩ => ?_
    have e1 : w.setCell ⟨b, 0, none⟩ (.pointer (some ⟨b, 0, none⟩)) = w.setRow b (#[.pointer none, v].setIfInBounds 0 (.pointer (some ⟨b, 0, none⟩))) := setCell_eq_setRow w b 0 _ _ _ _ hbw
    rw [e1] at hw
    have u := Upd.row (cs := #[.pointer none, v].setIfInBounds 0 (.pointer (some ⟨b, 0, none⟩))) hbw
    rw [← hw, is.heap] at u
    refine ⟨_, he, ⟨rfl, by rw [hw]; exact is.os, by rw [hw]; exact is.tape, by rw [hw]; exact is.output⟩, g, _, hs.updAt 0 rfl u, rfl, rfl, rfl⟩
  · have hc := Any.Builder_copyCheck_used (P := Tryz.prog) (ρ := Tryz.lays156_ren) { Tryz.lays156 with } bldX b w (by rw [cell_of is.heap, hcell_row hb]; rfl)
    refine Calls.mono hc fun e w' ⟨he, hw⟩ => ?_
    subst hw
    exact ⟨_, he, is.again, g, _, by rw [is.heap]; exact hs, rfl, rfl, rfl⟩
def RowT {α : Type} (T : TypeId) (d : Kd α) (g : GH) (v : Value) (xs : List α) (c : Chunk) : Prop :=
  (v = .slice none 0 0 ∧ xs = [] ∧ c = []) ∨
  ∃ (b cap : Nat) (cur : Array Value) (rest : List α), v = .slice (some ⟨b, 0, none⟩) xs.length cap ∧ c = [(b, .cells cur T (0, 0))] ∧ xs.length + rest.length = cap ∧ cap ≤ maxLen ∧ cur.size = cap * d.sz ∧ Reads d g (xs ++ rest) (cut cur 0 (cap * d.sz))
section
variable {α : Type} {d : Kd α} {g g' : GH} {h : Heap} {T : TypeId} {v : Value} {xs : List α} {c : Chunk}
theorem RowT.nil (T : TypeId) (d : Kd α) (g : GH) : RowT T d g (.slice none 0 0) [] [] := .inl ⟨rfl, rfl, rfl⟩
theorem RowT.mono (hr : RowT T d g v xs c) (hg : gle g g') : RowT T d g' v xs c := by
  rcases hr with h | ⟨b, cap, cur, rest, e1, e2, h1, h2, h3, h4⟩
  · exact .inl h
  · exact .inr ⟨b, cap, cur, rest, e1, e2, h1, h2, h3, h4.mono hg⟩
theorem RowT.flat (hd : d.Flat) (hr : RowT T d g v xs c) : RowT T d g' v xs c := by
  rcases hr with h | ⟨b, cap, cur, rest, e1, e2, h1, h2, h3, h4⟩
  · exact .inl h
  · exact .inr ⟨b, cap, cur, rest, e1, e2, h1, h2, h3, reads_flat hd h4⟩
theorem RowT.form (hr : RowT T d g v xs c) : ∃ ao cap, v = .slice ao xs.length cap := by
  rcases hr with ⟨rfl, rfl, _⟩ | ⟨b, cap, cur, rest, e1, _⟩
  · exact ⟨none, 0, rfl⟩
  · exact ⟨_, _, e1⟩
end
section
variable {C : Ctx} {ds : List Deferred} {i j : Nat} {r : Heap} {M : Nat → Prop} {Ls : List (Nat × Bool)} {e : Env} {h : Heap}
variable {h0 : Heap} {g0 : GH} {S0 : Nat → Prop} {g : GH} {L L' : List Chunk}
theorem Op.appendT {α : Type} {dst : Nat} {x y : Operand} {t t' E : TypeId} {by_ : Nat} {d : Kd α} {v : Value} {xs ys : List α} {c : Chunk} {m : Nat} {news : List Value} {g1 : GH}
    (ho : nextDO C i j e = some (some dst, .call { callee := .builtin .append, args := #[x, y], argTypes := #[t, t'] })) (hI : elemI C.P t = some (E, d.sz, by_)) (ht' : notInt C.P t' = true) (hz : ((C.P.info? E).bind (·.zero)).map (·.cells.toList) = some d.zc)
    (hx : e.ev x = v) (hv : RowT E d g1 v xs c) (s : St h0 g0 S0 g L h) (k : Nat) (hk : L[k]? = some c)
    (hy : Src C.P h d.sz (e.ev y) m news) (hys : Reads d g1 ys news) (hm : ys.length = m) (hlen : (xs.length + ys.length) * by_ ≤ 140737488355328)
    (hM : ∀ p ∈ c, p.1 < r.size → M p.1)
    (K : ∀ v' c' h', RowT E d g1 v' (xs ++ ys) c' → St h0 g0 S0 g (L.set k c') h' → (v' = .slice none 0 0 → xs ++ ys = []) → Op C ds i r M Ls ((dst, v') :: e) h') : Op C ds i r M ((j, false) :: Ls) e h := by
  obtain ⟨o', h1, h2, h3⟩ := nextDO_spec ho
  obtain ⟨inf, z, I⟩ := elemI_spec hI
  subst hm
  have hzc : z.cells.toList = d.zc := by simpa [I.info, I.zero] using hz
  have hshort : xs.length + ys.length ≤ 140737488355328 := by
    have : (xs.length + ys.length) * 1 ≤ (xs.length + ys.length) * by_ := Nat.mul_le_mul_left _ I.bpos
    omega
  have sf := s.front k hk
  have hset := set_front k L c
  -- what is to be shown of the run
  refine Op.run h1 (R := fun nx h' => ∃ v' c', nx = .value v' ∧ RowT E d g1 v' (xs ++ ys) c' ∧ St h0 g0 S0 g (L.set k c') h' ∧ (v' = .slice none 0 0 → xs ++ ys = []) ∧ (Keep r M h → Keep r M h')) ?_ ?_
  · intro w is
    have hh := is.heap
    have grow : ∀ (ao : Option Addr) (cap : Nat) (olds : List Value), v = .slice ao xs.length cap → Src C.P h d.sz v xs.length olds → Reads d g1 xs olds → cap < xs.length + ys.length →
        ∃ x w', (semOf e o').run C.P w = .ok x w' ∧ Is C.B w'.heap w' ∧ ∃ v' c', x = .value v' ∧ RowT E d g1 v' (xs ++ ys) c' ∧ St h0 g0 S0 g (L.set k c') w'.heap ∧ (v' = .slice none 0 0 → xs ++ ys = []) ∧ (Keep r M h → Keep r M w'.heap) := by
      intro ao cap olds ev ho hro hg
      have hrun := run_app_grow (P := C.P) (w := w) (ty := o'.type) I ht' (ao := ao) (n := xs.length) (cap := cap) (m := ys.length) (x := e.ev y) (olds := olds) (news := news)
        (by rw [hh, ← ev]; exact ho) (by rw [hh]; exact hy) hg hlen
      have hsem := semOf_call (P := C.P) (w := w) (e := e) (v := .slice (some ⟨w.heap.size, 0, none⟩) (xs.length + ys.length) (grownCap w (xs.length + ys.length) cap E)) h3 (.inl rfl) (by
        simp only [List.map_toArray, List.map_cons, List.map_nil, hx, ev]
        exact hrun)
      refine ⟨_, _, hsem, ⟨rfl, is.os, is.tape, is.output⟩, _, [(w.heap.size, _)], rfl, .inr ⟨w.heap.size, grownCap w (xs.length + ys.length) cap E, ((olds ++ news).toArray ++ Builtin.zeroCells z.cells (grownCap w (xs.length + ys.length) cap E - (xs.length + ys.length))), List.replicate (grownCap w (xs.length + ys.length) cap E - (xs.length + ys.length)) d.zv, ?_, rfl, ?_, ?_, ?_, ?_⟩, ?_, ?_, ?_⟩
      · rw [List.length_append]
      · have hge := grownCap_ge' w (xs.length + ys.length) cap E
        rw [List.length_append, List.length_replicate]; omega
      · exact grownCap_max w _ _ _ (by unfold maxLen; omega)
      · have h1 := grownCap_ge' w (xs.length + ys.length) cap E
        simp only [Array.size_append, List.size_toArray, List.length_append, hro.len, hys.len, size_zeros, I.cells]
        rw [← Nat.add_mul, ← Nat.add_mul, Nat.add_sub_cancel' h1]
      · have hge := grownCap_ge' w (xs.length + ys.length) cap E
        have hlen2 : (xs ++ ys ++ List.replicate (grownCap w (xs.length + ys.length) cap E - (xs.length + ys.length)) d.zv).length = grownCap w (xs.length + ys.length) cap E := by simp; omega
        have := reads_cut (pre := []) (post := []) (o := 0) ((hro.append hys).append (reads_zeros d g1 z.cells hzc (grownCap w (xs.length + ys.length) cap E - (xs.length + ys.length)))) rfl ((olds ++ news).toArray ++ Builtin.zeroCells z.cells (grownCap w (xs.length + ys.length) cap E - (xs.length + ys.length))) (by simp [Array.toList_append])
        rwa [hlen2] at this
      · refine St.perm (hset _ hk) ?_
        have s1 := sf.drop.alloc (.cells ((olds ++ news).toArray ++ Builtin.zeroCells z.cells (grownCap w (xs.length + ys.length) cap E - (xs.length + ys.length))) E (0, 0))
        rw [← hh] at s1
        exact s1
      · intro hc; simp at hc
      · intro hk'; rw [← hh] at hk'; exact Keep.push _ hk'
    rcases hv with ⟨rfl, rfl, rfl⟩ | ⟨b, cap, cur, rest, rfl, rfl, hc0, hc2, hc3, hc5⟩
    · by_cases hy0 : ys.length = 0
      · have hn : ys = [] := List.eq_nil_of_length_eq_zero hy0
        subst hn
        have hsem := semOf_call (P := C.P) (w := w) (w' := w) (e := e) (v := .slice none 0 0) h3 (.inl rfl) (by
          simp only [List.map_toArray, List.map_cons, List.map_nil, hx]
          obtain ⟨d', hd, hd2⟩ := notInt_spec ht'
          have hl := hy.len w hh
          have hcs := hy.cells w hh 0 (Nat.le_refl _)
          simp only [Builtin.append_, sizeOf, typeInfo]
          simp only [List.getElem?_toArray, List.getElem?_cons_zero, List.getElem?_cons_succ, Sem.run_bind, run_program, Result.andThen_ok, run_underlying I.under, run_underlying hd, I.info, Sem.run_pure, I.size]
          cases d' <;> first | exact absurd rfl (hd2 _) | (simp [hl] ; simp at hcs ; simp [hcs, storeCells]))
        refine ⟨_, _, hsem, is.again, .slice none 0 0, [], rfl, .inl ⟨rfl, by simp, rfl⟩, ?_, fun _ => by simp, fun hk' => by rw [hh]; exact hk'⟩
        rw [hh]
        exact St.perm (hset _ hk) sf
      · refine grow none 0 [] rfl ⟨fun w _ => rfl, fun w _ k hk => ?_, by simp, by simp⟩ rfl (by simp; omega)
        obtain rfl : k = 0 := by simpa using hk
        simp [Builtin.firstCells, loadCells, loadCellsFrom]
    · have hc1 : xs.length ≤ cap := by omega
      have hc4 := reads_left hc0 hc5
      have hb : w.heap[b]? = some (.cells cur E (0, 0)) := by rw [hh]; exact s.chunk k hk
      by_cases hroom : xs.length + ys.length ≤ cap
      · have hrun := run_app_room (P := C.P) (w := w) (ty := o'.type) I ht' (o := 0) (n := xs.length) (cap := cap) (m := ys.length) (x := e.ev y) (news := news) (by rw [hh]; exact hy) hb hroom (by omega)
        have hsem := semOf_call (P := C.P) (w := w) (e := e) h3 (.inl rfl) (by
          simp only [List.map_toArray, List.map_cons, List.map_nil, hx]
          exact hrun)
        have hfit : 0 + xs.length * d.sz + ys.length * d.sz ≤ cur.size := by
          have h2 : (xs.length + ys.length) * d.sz ≤ cap * d.sz := Nat.mul_le_mul_right _ hroom
          rw [Nat.add_mul] at h2
          omega
        have hclen : cur.toList.length = cur.size := Array.length_toList
        refine ⟨_, _, hsem, ⟨rfl, is.os, is.tape, is.output⟩, _, [(b, _)], rfl, .inr ⟨b, cap, (cur.toList.take (0 + xs.length * d.sz) ++ news ++ cur.toList.drop (0 + xs.length * d.sz + news.length)).toArray, rest.drop ys.length, ?_, rfl, ?_, hc2, ?_, ?_⟩, ?_, ?_, ?_⟩
        · rw [List.length_append]
        · rw [List.length_append, List.length_drop]; omega
        · rw [List.size_toArray, List.length_append, List.length_append, List.length_take, List.length_drop, hys.len, hclen, Nat.min_eq_left (by omega)]
          omega
        · have hr2 := (hc5.parts (xs.length + ys.length) (by rw [List.length_append]; omega)).2
          have hdr : (xs ++ rest).drop (xs.length + ys.length) = rest.drop ys.length := by
            rw [List.drop_append, List.drop_eq_nil_of_le (by omega), List.nil_append, Nat.add_sub_cancel_left]
          rw [hdr] at hr2
          have hlen2 : (xs ++ ys ++ rest.drop ys.length).length = cap := by simp; omega
          have hcap2 : (xs.length + ys.length) * d.sz ≤ cap * d.sz := Nat.mul_le_mul_right _ hroom
          have := reads_cut (pre := cur.toList.take 0) (post := cur.toList.drop (0 + cap * d.sz)) (o := 0) ((hc4.append hys).append hr2) (by rw [List.length_take, hclen]; exact Nat.min_eq_left (by omega))
            ((cur.toList.take (0 + xs.length * d.sz) ++ news ++ cur.toList.drop (0 + xs.length * d.sz + news.length)).toArray) (by
              unfold cut
              rw [List.toList_toArray, List.take_add, hys.len]
              have e1 : ((cur.toList.drop 0).take (cap * d.sz)).drop ((xs.length + ys.length) * d.sz) ++ cur.toList.drop (0 + cap * d.sz) = cur.toList.drop (0 + xs.length * d.sz + ys.length * d.sz) := by
                have e2 : cur.toList.drop (0 + cap * d.sz) = (cur.toList.drop (0 + (xs.length + ys.length) * d.sz)).drop (cap * d.sz - (xs.length + ys.length) * d.sz) := by
                  rw [List.drop_drop]; congr 1; omega
                rw [List.drop_take, List.drop_drop, e2, List.take_append_drop, Nat.add_mul, Nat.add_assoc]
              simp only [List.append_assoc]
              rw [e1])
          rwa [hlen2] at this
        · exact s.updAt k hk (by have := Upd.row (cs := (cur.toList.take (0 + xs.length * d.sz) ++ news ++ cur.toList.drop (0 + xs.length * d.sz + news.length)).toArray) hb; rwa [hh] at this)
        · intro hc; simp at hc
        · intro hk'; rw [← hh] at hk'; exact Keep.row (hM (b, .cells cur E (0, 0)) (List.mem_singleton.2 rfl)) hk'
      · obtain ⟨olds, hsrc, hro⟩ := Src.slice (P := C.P) (h := h) (g := g1) (E := E) (d := d) (v := .slice (some ⟨b, 0, none⟩) xs.length cap) (ys := xs)
          ⟨_, cap, rfl, hc1, fun _ => ⟨b, 0, cur, (E, 0, 0), rfl, s.chunk k hk, hc4⟩⟩
        exact grow _ cap olds rfl hsrc hro (by omega)
  · rintro _ _ ⟨v', c', rfl, hrow, hst, hnil, hkeep⟩
    refine ⟨v', rfl, hkeep, ?_⟩
    rw [h2]
    exact K v' c' _ hrow hst hnil
end
def IsBld (g : GH) (b : Nat) (x : List UInt8) (c : Chunk) : Prop := ∃ v0 v1 c1, c = (b, .cells #[.pointer v0, v1] 113 (0, 0)) :: (c1) ∧ (v0 = none ∨ v0 = some ⟨b, 0, none⟩) ∧ RowT 5 kU8 g v1 x c1
theorem IsBld.mono {g g' : GH} {b : Nat} {x : List UInt8} {c : Chunk} (h : IsBld g b x c) (hg : gle g g') : IsBld g' b x c := by
  obtain ⟨v0, v1, c1, e, h0, h1⟩ := h
  exact ⟨v0, v1, c1, e, h0, h1.mono hg⟩
theorem IsBld.eq {g : GH} {b : Nat} {x y : List UInt8} {c : Chunk} (h : IsBld g b x c) (e : x = y) : IsBld g b y c := e ▸ h
theorem IsBld.flat {g g' : GH} {b : Nat} {x : List UInt8} {c : Chunk} (h : IsBld g b x c) : IsBld g' b x c := by
  obtain ⟨v0, v1, c1, e, h0, h1⟩ := h
  exact ⟨v0, v1, c1, e, h0, h1.flat (fun _ _ _ _ h => h)⟩
theorem St.last {h0 : Heap} {g0 : GH} {g : GH} {L : List Chunk} {h : Heap} (s : St h0 g0 (ids []) g L h) {g9 : GH} (h9 : Sub g9 h0) (hg : g0 = g9) {w w' : World} (hw : w.heap = h) (hb : Below h0.size w w') : St h0 g0 (ids []) g0 [] w'.heap := by
  subst hg
  have hfr : ∀ b, b < h0.size → w'.heap[b]? = h0[b]? := fun b hlt => by
    rw [hb.block b hlt, hw]; exact s.frame b hlt (by simp [ids])
  exact ⟨Nat.le_trans s.size (by rw [← hw]; exact hb.size), fun b hlt _ => hfr b hlt, gle.refl _, fun _ hx => .inl hx,
    fun b o ho => (by rw [hfr b (h9.lt ho)]; exact h9 b o ho), fun _ hp => (by simp at hp), by simp, fun _ hp => (by simp at hp), fun _ hp => (by simp at hp)⟩
theorem bytes_of {g : GH} : ∀ {l : List UInt8} {cs : List Value}, Reads kU8 g l cs → cs = l.map fun b => Value.int .u8 b.toNat
  | [], cs, h => h
  | b :: l, cs, h => by
    obtain ⟨c1, c2, rfl, h1, h2⟩ := h
    have h1 : c1 = [.int .u8 b.toNat] := h1
    rw [h1, bytes_of h2]
    rfl
theorem bld_string {h0 : Heap} {g0 g : GH} {L : List Chunk} {h : Heap} {b : Nat} {x : List UInt8} {c : Chunk} (hx : IsBld g b x c) (s : St h0 g0 (ids []) g (c :: L) h) (h9 : Sub g0 h0) {B w : World} (is : Is B h w) :
    Calls Tryz.prog 65 #[.pointer (some ⟨b, 0, none⟩)] w fun e w' => ∃ v, e = .returned v ∧ Is B w'.heap w' ∧ v = .string (mkS x) ∧ St h0 g0 (ids []) g0 [] w'.heap := by
  obtain ⟨v0, v1, c1, rfl, hv0, hr⟩ := hx
  have hown : ∀ p ∈ (((b, Obj.cells #[.pointer v0, v1] 113 (0, 0)) :: c1) :: L).flatten, h0.size ≤ p.1 := fun p hp => by
    rcases s.own p hp with h | h
    · exact h
    · exact absurd h (ids_nil _)
  have hb : h[b]? = some (.cells #[.pointer v0, v1] 113 (0, 0)) := s.has (b, _) (by simp)
  have hB : h0.size ≤ b := hown (b, Obj.cells #[.pointer v0, v1] 113 (0, 0)) (by simp)
  have hbw : w.heap[b]? = some (.cells #[.pointer v0, v1] 113 (0, 0)) := by rw [is.heap]; exact hb
  have hrow : w.ownsRow h0.size 5 1 v1 x.length (Lib.byteCells x) ∧ v1.ownBlock ≠ some b := by
    rcases hr with ⟨rfl, rfl, _⟩ | ⟨q, cap, cur, rest, rfl, rfl, h1, h2, h3, h4⟩
    · exact ⟨⟨by simp [Lib.byteCells], .inl ⟨rfl, rfl⟩⟩, by simp [Value.ownBlock]⟩
    · have hq : h[q]? = some (.cells cur 5 (0, 0)) := s.has (q, _) (by simp)
      have hQ : h0.size ≤ q := hown (q, Obj.cells cur 5 (0, 0)) (by simp)
      have hne : q ≠ b := by
        have := s.nodup
        simp only [List.flatten_cons, List.cons_append, List.map_cons, List.nodup_cons, List.mem_cons] at this
        intro e
        exact this.1 (by simp [e])
      refine ⟨⟨by simp [Lib.byteCells], .inr ⟨q, cap, cur, rfl, hQ, by rw [is.heap]; exact hq, by omega, h2, by simpa [kU8] using h3, ?_⟩⟩, by simp [Value.ownBlock]; exact hne⟩
      have hl := reads_left h1 h4
      have hl2 := bytes_of hl
      unfold cut at hl2
      rw [List.drop_zero] at hl2
      simpa [Lib.byteCells, kU8] using hl2
  have hlen : (Lib.byteCells x).length = x.length := by simp [Lib.byteCells]
  have hat : Lib.BuilderAt 113 5 h0.size b (.pointer v0) (Lib.byteCells x) w := ⟨hB, v1, hbw, by rw [hlen]; exact hrow.1, hrow.2⟩
  have hIs : Lib.IsBuilder 113 5 h0.size b (Lib.byteCells x) w := by
    rcases hv0 with rfl | rfl
    · exact .inl hat
    · exact .inr hat
  refine Calls.mono (Tryz.Builder_String_any h0.size b x w hIs (by rw [is.heap]; exact s.size)) fun e w' ⟨he, hbel⟩ => ?_
  exact ⟨_, he, ⟨rfl, hbel.os.trans is.os, hbel.tape.trans is.tape, hbel.output.trans is.output⟩, rfl, St.last s h9 rfl is.heap hbel⟩
section
variable {C : Ctx} {ds : List Deferred} {i j : Nat} {r : Heap} {M : Nat → Prop} {Ls : List (Nat × Bool)} {e : Env} {h : Heap}
variable {h0 : Heap} {g0 : GH} {g : GH} {L : List Chunk}
theorem Op.bldString {dst : Nat} {b : Nat} {x : List UInt8} {c : Chunk} (hP : C.P = Tryz.prog) (ho : enterOf C i j e = some (some dst, 65, #[.pointer (some ⟨b, 0, none⟩)])) (hx : IsBld g b x c) (s : St h0 g0 (ids []) g (c :: L) h) (h9 : Sub g0 h0) (hr : r = #[])
    (K : ∀ h', St h0 g0 (ids []) g0 [] h' → Op C ds i r (fun _ => True) Ls ((dst, .string (mkS x)) :: e) h') : Op C ds i r (fun _ => True) ((j, false) :: Ls) e h := by
  subst hr
  obtain ⟨o, h1, hd, hp⟩ := enterOf_spec ho
  refine Op.act h1 fun w is hk a ft => ?_
  rw [pureVal_run _ hp w]
  have H := bld_string hx s h9 is
  rw [← hP] at H
  refine Calls.mono H fun en w' ⟨v, he, is', hv, s'⟩ => ?_
  subst hv
  refine ⟨_, he, ⟨Keep.any _, is'⟩, (dst, .string (mkS x)) :: e, ?_, K _ s'⟩
  have := ft.putO (nextOp_spec h1).2.2.2.1 (.string (mkS x))
  rw [hd] at this
  rw [hd]
  exact this
end
end Go.Proofs.YtmjebehhpojihaaGreatDoor.Sw
namespace Go.Proofs.YtmjebehhpojihaaGreatDoor.Sw
open Go
set_option maxRecDepth 100000
set_option linter.unusedVariables false
set_option linter.unusedSimpArgs false
set_option linter.deprecated false
theorem same_last {a b : Step} (h1 : a.Kind = b.Kind) (h2 : a.Role = b.Role) (h3 : a.K = b.K) (h4 : a.Power = b.Power) (h5 : a.Node = b.Node) (h6 : a.Data = b.Data) : decide (a.Keeps = b.Keeps) = decide (a = b) := by
 rw [step_eq, decide_eq_true h1, decide_eq_true h2, decide_eq_true h3, decide_eq_true h4, decide_eq_true h5, decide_eq_true h6]
 simp
theorem forms_memA {g : GH} {name : Str} {v : Value} : ∀ {ks : List (Str × Value)} {T : List (Str × scriptForm)}, All2 (EntOk g) ks T → (name, v) ∈ ks → ∃ f vn, v = .agg #[.int .i64 f.kind, .int .i64 f.role, vn, .bool f.more] ∧ (name, f) ∈ T ∧ SlR g 153 kscriptWord vn f.words
 | _, _, .nil, h => by cases h
 | _, _, .cons (a := p) (b := q) h ht, hm => by
  rcases List.mem_cons.1 hm with rfl | hm
  ·obtain ⟨h1, vn, h2, h3⟩ := h
   exact ⟨q.2, vn, h2, by rw [show name = q.1 from h1]; simp, h3⟩
  ·obtain ⟨f, vn, e1, e2, e3⟩ := forms_memA ht hm
   exact ⟨f, vn, e1, List.mem_cons_of_mem _ e2, e3⟩
theorem forms_mem {g : GH} {ks vs rs ra rb : List (Str × Value)} {name : Str} {v : Value} {T : List (Str × scriptForm)} (h : All2 (EntOk g) ks T) (hpm : (vs ++ rs).Perm ks) (hrs : rs = ra ++ (name, v) :: rb) : ∃ f vn, v = .agg #[.int .i64 f.kind, .int .i64 f.role, vn, .bool f.more] ∧ (name, f) ∈ T ∧ SlR g 153 kscriptWord vn f.words :=
 forms_memA h (hpm.subset (by rw [hrs]; simp))
theorem All2.mono {g g' : GH} {ks : List (Str × Value)} {T : List (Str × scriptForm)} (h : All2 (EntOk g) ks T) (hg : gle g g') : All2 (EntOk g') ks T := by
 induction h with
 | nil => exact .nil
 | cons h _ ih => exact .cons (h.mono hg) ih
theorem none_all {g : GH} {ks vs rs : List (Str × Value)} {st : Step} (hF : All2 (EntOk g) ks formsT) (hpm : (vs ++ rs).Perm ks) (hr : rs = []) (H : noneI st vs) : ∀ q ∈ formsT, ∃ f, (q.1, f) ∈ formsT ∧ ¬ f.kind = st.Kind := by
 subst hr
 rw [List.append_nil] at hpm
 have key : ∀ {T : List (Str × scriptForm)} {ks : List (Str × Value)}, All2 (EntOk g) ks T → ∀ q ∈ T, ∃ p ∈ ks, p.1 = q.1 := by
  intro T ks h
  induction h with
  | nil => intro q hq; cases hq
  | cons h _ ih =>
   intro q hq
   rcases List.mem_cons.1 hq with rfl | hq
   ·exact ⟨_, List.mem_cons_self, h.1⟩
   ·obtain ⟨p, hp, e⟩ := ih q hq
    exact ⟨p, List.mem_cons_of_mem _ hp, e⟩
 intro q hq
 obtain ⟨p, hp, e⟩ := key hF q hq
 obtain ⟨f, h1, h2⟩ := H p (hpm.symm.subset hp)
 exact ⟨f, by rw [← e]; exact h1, h2⟩
theorem okS_y1 {st x : Step} (h1 : (parseW (textW st)).2.2 = 0) (hx : (parseW (textW st)).1[(0 : Int).toNat]? = some x) (hl : ((parseW (textW st)).1.length : Int) = 1) (h : decide (x = st) = true) : okS st = true := by
 obtain rfl := of_decide_eq_true h
 have : (parseW (textW x)).1 = [x] := by
  match hq : (parseW (textW x)).1, hl, hx with
  | [y], _, hx => simp at hx; rw [hx]
 unfold okS
 rw [decide_eq_true this, decide_eq_true h1]
 rfl
theorem okS_4 {st x : Step} (hx : (parseW (textW st)).1[(0 : Int).toNat]? = some x) (h : decide (x = st) = false) : okS st = false := by
 have hn := of_decide_eq_false h
 have : ¬ (parseW (textW st)).1 = [st] := fun e => by rw [e] at hx; simp at hx; exact hn hx.symm
 unfold okS
 rw [decide_eq_false this, Bool.false_and]
theorem tellW_len {e : Event} (he : evOk e) : (tellW e).length ≤ 1000000 := by
 obtain ⟨h1, h2, h3, h4, h5, h6⟩ := he
 have a1 := itoa_len20 h1.1 h1.2
 have a2 := itoa_len20 h2.1 h2.2
 have a3 := itoa_len20 h3.1 h3.2
 have a4 := itoa_len20 h4.1 h4.2
 have a5 := hexW_len e.Op
 have a6 := hexW_len e.Answer
 unfold tellW
 simp only [List.length_append, List.length_cons, List.length_nil]
 omega
theorem equalB (B : World) (h : Heap) (g : GH) (hg : Sub g h) (hG : Glob g) (v_a : Value) (a : List UInt8) (h_a : SlR g 5 kU8 v_a a) (v_b : Value) (b : List UInt8) (h_b : SlR g 5 kU8 v_b b) (h1 : a.length ≤ 1000000000) :
  Spec Tryz.prog B 112 #[v_a, v_b] h g [] (fun rv g' L' => rv = .bool (decide (a = b)) ∧ g' = g ∧ L' = []) := by
 obtain ⟨a_a, n_a, rfl⟩ := h_a.form
 obtain ⟨a_b, n_b, rfl⟩ := h_b.form
 refine Spec.at' Tryz.func112 ?_
 intro R hR
 have s0 := St.init hg
 refine At.go 1 1 [] ?_
 refine At.go 2 5 [(10, .bool ((a.length : Int) != (b.length : Int)))] ?_
 refine At.if' ((a.length : Int) != (b.length : Int)) 10 3 5 (fun c20 => ?_) (fun c21 => ?_)
 ·replace c20 := bneT c20
  refine At.go 4 1 [(4, .bool false)] ?_
  refine At.rt (.bool false) ?_
  refine hR _ _ _ _ s0 ⟨?_, rfl, rfl⟩
  exact (eqB (by exact sameE_len (by assumption)))
 ·replace c21 := bneF c21
  refine At.go 6 3 [(12, .int .i64 (a.length : Int)), (13, .int .i64 0)] ?_
  have loop6 : ∀ (m : Nat) (i : Int) (h23 : Heap) (hm : a.length - i.toNat < m) (h0 : 0 ≤ i) (h2 : i ≤ a.length) (ht : a.take i.toNat = b.take i.toNat)     (s22 : St h g (ids []) g [] h23), At (fctx Tryz.prog B 112 Tryz.f112 R) [] 6 [(0, .slice a_a a.length n_a), (1, .slice a_b b.length n_b), (12, .int .i64 (a.length : Int)), (13, .int .i64 i)] h23 := by
   intro m; induction m with
   | zero => intros; omega
   | succ m ih6 =>
    intro i h23 hm h0 h2 ht s22
    refine At.go 7 1 [(14, .bool (decide (i < (a.length : Int))))] ?_
    refine At.if' (decide (i < (a.length : Int))) 14 8 14 (fun c24 => ?_) (fun c25 => ?_)
    ·replace c24 := of_decide_eq_true c24
     refine At.go 9 2 [(5, .int .i64 i)] ?_
     refine At.draw (by kernel_rfl) (fun _ => False) [(0, true), (1, true), (2, true), (4, true), (5, true), (6, true), (3, true), (7, false), (8, true)] (by kernel_rfl) ?_
     refine Op.px 2 [(16, .slice a_a a.length n_a), (17, .int .i64 i)] ?_
     obtain ⟨x26, hx27⟩ := getAt (l := a) (i := i) (by omega)
     obtain ⟨b28, o29, cu30, fz31, ha32, hb33, hk34⟩ := SlR.at_ h_a _ hx27
     cases ha32
     refine Op.ix 29 5 1 1 a.length n_a (.tmp 16) (.tmp 17) 18 b28 o29 i (by omega) (by omega) ?_
     replace hk34 : cut _ _ _ = [.int .u8 (x26.toNat : Int)] := hk34
     refine Op.px 2 [(20, .slice a_b b.length n_b), (21, .int .i64 i)] ?_
     obtain ⟨x35, hx36⟩ := getAt (l := b) (i := i) (by omega)
     obtain ⟨b37, o38, cu39, fz40, ha41, hb42, hk43⟩ := SlR.at_ h_b _ hx36
     cases ha41
     refine Op.ix 29 5 1 1 b.length n_b (.tmp 20) (.tmp 21) 22 b37 o38 i (by omega) (by omega) ?_
     replace hk43 : cut _ _ _ = [.int .u8 (x35.toNat : Int)] := hk43
     refine Op.loadF (T := 5) (x := (.tmp 18)) (o := o29 + (i : Int).toNat * 1) (d := 19) (n := 1) (v := .int .u8 (x26.toNat : Int)) (by kernel_rfl) (by kernel_rfl) (by kernel_rfl) (fun h => h) (s22.sub _ _ hb33) (cut_get hk34 0 rfl) ?_
     refine Op.ld (n := 1) 5 (.tmp 22) 23 (o38 + (i : Int).toNat * 1) (.int .u8 (x35.toNat : Int)) (s22.sub _ _ hb42) ?_ (hv := (cut_get hk43 0 rfl))
     refine Op.pg 10 [(24, .bool ((x26.toNat : Int) != (x35.toNat : Int)))] ?_
     refine At.if' ((x26.toNat : Int) != (x35.toNat : Int)) 24 11 13 (fun c44 => ?_) (fun c45 => ?_)
     ·replace c44 := bneT c44
      refine At.go 12 1 [(4, .bool false)] ?_
      refine At.rt (.bool false) ?_
      refine hR _ _ _ _ s22 ⟨?_, rfl, rfl⟩
      exact (eqB (by exact sameE_ne hx27 hx36 (u8_ne (by assumption))))
     ·replace c45 := bneF c45
      refine At.rg 2 ?_
      refine Op.v64 25 (i + 1) (by omega) (by omega) ?_
      refine Op.pg 6 [(13, .int .i64 (i + 1))] ?_
      refine At.kp [(0, .slice (some ⟨b28, o29, none⟩) a.length n_a), (1, .slice (some ⟨b37, o38, none⟩) b.length n_b), (12, .int .i64 (a.length : Int)), (13, .int .i64 (i + 1))] ?_
      exact ih6  (i + 1) _ (by omega) (by omega) (by omega) (by exact take_step ht h0 hx27 hx36 (u8_eq (by assumption)))  s22
    ·replace c25 := of_decide_eq_false c25
     refine At.go 15 1 [(4, .bool true)] ?_
     refine At.rt (.bool true) ?_
     refine hR _ _ _ _ s22 ⟨?_, rfl, rfl⟩
     exact (eqB (by exact sameE_end (by assumption) c25 ht))
  refine At.kp [(0, .slice a_a a.length n_a), (1, .slice a_b b.length n_b), (12, .int .i64 (a.length : Int)), (13, .int .i64 0)] ?_
  exact loop6 _  0 _ (Nat.lt_succ_self _) (by omega) (by omega) (by rfl)  s0
theorem equalI (B : World) (h : Heap) (g : GH) (hg : Sub g h) (hG : Glob g) (v_a : Value) (a : List Int) (h_a : SlR g 3 (kInt .i64) v_a a) (v_b : Value) (b : List Int) (h_b : SlR g 3 (kInt .i64) v_b b) (h1 : a.length ≤ 1000000000) :
  Spec Tryz.prog B 113 #[v_a, v_b] h g [] (fun rv g' L' => rv = .bool (decide (a = b)) ∧ g' = g ∧ L' = []) := by
 obtain ⟨a_a, n_a, rfl⟩ := h_a.form
 obtain ⟨a_b, n_b, rfl⟩ := h_b.form
 refine Spec.at' Tryz.func113 ?_
 intro R hR
 have s0 := St.init hg
 refine At.go 1 1 [] ?_
 refine At.go 2 5 [(10, .bool ((a.length : Int) != (b.length : Int)))] ?_
 refine At.if' ((a.length : Int) != (b.length : Int)) 10 3 5 (fun c20 => ?_) (fun c21 => ?_)
 ·replace c20 := bneT c20
  refine At.go 4 1 [(4, .bool false)] ?_
  refine At.rt (.bool false) ?_
  refine hR _ _ _ _ s0 ⟨?_, rfl, rfl⟩
  exact (eqB (by exact sameE_len (by assumption)))
 ·replace c21 := bneF c21
  refine At.go 6 3 [(12, .int .i64 (a.length : Int)), (13, .int .i64 0)] ?_
  have loop6 : ∀ (m : Nat) (i : Int) (h23 : Heap) (hm : a.length - i.toNat < m) (h0 : 0 ≤ i) (h2 : i ≤ a.length) (ht : a.take i.toNat = b.take i.toNat)     (s22 : St h g (ids []) g [] h23), At (fctx Tryz.prog B 113 Tryz.f113 R) [] 6 [(0, .slice a_a a.length n_a), (1, .slice a_b b.length n_b), (12, .int .i64 (a.length : Int)), (13, .int .i64 i)] h23 := by
   intro m; induction m with
   | zero => intros; omega
   | succ m ih6 =>
    intro i h23 hm h0 h2 ht s22
    refine At.go 7 1 [(14, .bool (decide (i < (a.length : Int))))] ?_
    refine At.if' (decide (i < (a.length : Int))) 14 8 14 (fun c24 => ?_) (fun c25 => ?_)
    ·replace c24 := of_decide_eq_true c24
     refine At.go 9 2 [(5, .int .i64 i)] ?_
     refine At.draw (by kernel_rfl) (fun _ => False) [(0, true), (1, true), (2, true), (4, true), (5, true), (6, true), (3, true), (7, false), (8, true)] (by kernel_rfl) ?_
     refine Op.px 2 [(16, .slice a_a a.length n_a), (17, .int .i64 i)] ?_
     obtain ⟨x26, hx27⟩ := getAt (l := a) (i := i) (by omega)
     obtain ⟨b28, o29, cu30, fz31, ha32, hb33, hk34⟩ := SlR.at_ h_a _ hx27
     cases ha32
     refine Op.ix 44 3 1 8 a.length n_a (.tmp 16) (.tmp 17) 18 b28 o29 i (by omega) (by omega) ?_
     replace hk34 : cut _ _ _ = [.int .i64 x26] := hk34
     refine Op.px 2 [(20, .slice a_b b.length n_b), (21, .int .i64 i)] ?_
     obtain ⟨x35, hx36⟩ := getAt (l := b) (i := i) (by omega)
     obtain ⟨b37, o38, cu39, fz40, ha41, hb42, hk43⟩ := SlR.at_ h_b _ hx36
     cases ha41
     refine Op.ix 44 3 1 8 b.length n_b (.tmp 20) (.tmp 21) 22 b37 o38 i (by omega) (by omega) ?_
     replace hk43 : cut _ _ _ = [.int .i64 x35] := hk43
     refine Op.loadF (T := 3) (x := (.tmp 18)) (o := o29 + (i : Int).toNat * 1) (d := 19) (n := 1) (v := .int .i64 x26) (by kernel_rfl) (by kernel_rfl) (by kernel_rfl) (fun h => h) (s22.sub _ _ hb33) (cut_get hk34 0 rfl) ?_
     refine Op.ld (n := 1) 3 (.tmp 22) 23 (o38 + (i : Int).toNat * 1) (.int .i64 x35) (s22.sub _ _ hb42) ?_ (hv := (cut_get hk43 0 rfl))
     refine Op.pg 10 [(24, .bool (x26 != x35))] ?_
     refine At.if' (x26 != x35) 24 11 13 (fun c44 => ?_) (fun c45 => ?_)
     ·replace c44 := bneT c44
      refine At.go 12 1 [(4, .bool false)] ?_
      refine At.rt (.bool false) ?_
      refine hR _ _ _ _ s22 ⟨?_, rfl, rfl⟩
      exact (eqB (by exact sameE_ne hx27 hx36 (by assumption)))
     ·replace c45 := bneF c45
      refine At.rg 2 ?_
      refine Op.v64 25 (i + 1) (by omega) (by omega) ?_
      refine Op.pg 6 [(13, .int .i64 (i + 1))] ?_
      refine At.kp [(0, .slice (some ⟨b28, o29, none⟩) a.length n_a), (1, .slice (some ⟨b37, o38, none⟩) b.length n_b), (12, .int .i64 (a.length : Int)), (13, .int .i64 (i + 1))] ?_
      exact ih6  (i + 1) _ (by omega) (by omega) (by omega) (by exact take_step ht h0 hx27 hx36 (by assumption))  s22
    ·replace c25 := of_decide_eq_false c25
     refine At.go 15 1 [(4, .bool true)] ?_
     refine At.rt (.bool true) ?_
     refine hR _ _ _ _ s22 ⟨?_, rfl, rfl⟩
     exact (eqB (by exact sameE_end (by assumption) c25 ht))
  refine At.kp [(0, .slice a_a a.length n_a), (1, .slice a_b b.length n_b), (12, .int .i64 (a.length : Int)), (13, .int .i64 0)] ?_
  exact loop6 _  0 _ (Nat.lt_succ_self _) (by omega) (by omega) (by rfl)  s0
theorem sameS (B : World) (h : Heap) (g : GH) (hg : Sub g h) (hG : Glob g) (a : Step) (v_a_6 : Value) (h_a_6 : SlR g 5 kU8 v_a_6 a.Data) (v_a_7 : Value) (h_a_7 : SlR g 3 (kInt .i64) v_a_7 a.Keeps) (b : Step) (v_b_6 : Value) (h_b_6 : SlR g 5 kU8 v_b_6 b.Data) (v_b_7 : Value) (h_b_7 : SlR g 3 (kInt .i64) v_b_7 b.Keeps) (h1 : a.Data.length ≤ 1000000000) (h2 : a.Keeps.length ≤ 1000000000) :
  Spec Tryz.prog B 63 #[.agg #[.int .i64 a.Kind, .int .i64 a.Role, .int .i64 a.K, .int .i64 a.Power, .int .i64 a.Node.Role, .int .i64 a.Node.N, v_a_6, v_a_7], .agg #[.int .i64 b.Kind, .int .i64 b.Role, .int .i64 b.K, .int .i64 b.Power, .int .i64 b.Node.Role, .int .i64 b.Node.N, v_b_6, v_b_7]] h g [] (fun rv g' L' => rv = .bool (decide (a = b)) ∧ g' = g ∧ L' = []) := by
 obtain ⟨a_a_6, n_a_6, rfl⟩ := h_a_6.form
 obtain ⟨a_a_7, n_a_7, rfl⟩ := h_a_7.form
 obtain ⟨a_b_6, n_b_6, rfl⟩ := h_b_6.form
 obtain ⟨a_b_7, n_b_7, rfl⟩ := h_b_7.form
 refine Spec.at' Tryz.func63 ?_
 intro R hR
 have s0 := St.init hg
 refine At.rg 3 ?_
 refine Op.box (T := 94) (x := (.tmp 0)) (d := 2) (cs := #[.int .i64 a.Kind, .int .i64 a.Role, .int .i64 a.K, .int .i64 a.Power, .int .i64 a.Node.Role, .int .i64 a.Node.N, .slice a_a_6 a.Data.length n_a_6, .slice a_a_7 a.Keeps.length n_a_7]) (by kernel_rfl) (by kernel_rfl) s0 ?_
 intro b20 h21 s22
 refine Op.box (T := 94) (x := (.tmp 1)) (d := 3) (cs := #[.int .i64 b.Kind, .int .i64 b.Role, .int .i64 b.K, .int .i64 b.Power, .int .i64 b.Node.Role, .int .i64 b.Node.N, .slice a_b_6 b.Data.length n_b_6, .slice a_b_7 b.Keeps.length n_b_7]) (by kernel_rfl) (by kernel_rfl) s22 ?_
 intro b23 h24 s25
 refine Op.pg 1 [] ?_
 refine At.rp 48 1 [(5, .pointer (some ⟨b20, 0, none⟩))] ?_
 refine Op.ld (n := 1) 3 (.tmp 5) 6 0 (.int .i64 a.Kind) (s25.chunk 1 rfl) ?_
 refine Op.px 1 [(7, .pointer (some ⟨b23, 0, none⟩))] ?_
 refine Op.ld (n := 1) 3 (.tmp 7) 8 0 (.int .i64 b.Kind) (s25.chunk 0 rfl) ?_
 refine Op.px 2 [(10, .bool (a.Kind == b.Kind))] ?_
 refine Op.wb (a.Kind == b.Kind) 10 (fun c26 => ?_) (fun c27 => ?_)
 ·replace c26 := eq_of_beq c26
  refine Op.px 1 [(11, .pointer (some ⟨b20, 1, none⟩))] ?_
  refine Op.ld (n := 1) 3 (.tmp 11) 12 1 (.int .i64 a.Role) (s25.chunk 1 rfl) ?_
  refine Op.px 1 [(13, .pointer (some ⟨b23, 1, none⟩))] ?_
  refine Op.ld (n := 1) 3 (.tmp 13) 14 1 (.int .i64 b.Role) (s25.chunk 0 rfl) ?_
  refine Op.px 3 [(17, .bool (a.Role == b.Role))] ?_
  refine Op.wb (a.Role == b.Role) 17 (fun c28 => ?_) (fun c29 => ?_)
  ·replace c28 := eq_of_beq c28
   refine Op.px 1 [(18, .pointer (some ⟨b20, 2, none⟩))] ?_
   refine Op.ld (n := 1) 3 (.tmp 18) 19 2 (.int .i64 a.K) (s25.chunk 1 rfl) ?_
   refine Op.px 1 [(20, .pointer (some ⟨b23, 2, none⟩))] ?_
   refine Op.ld (n := 1) 3 (.tmp 20) 21 2 (.int .i64 b.K) (s25.chunk 0 rfl) ?_
   refine Op.px 3 [(24, .bool (a.K == b.K))] ?_
   refine Op.wb (a.K == b.K) 24 (fun c30 => ?_) (fun c31 => ?_)
   ·replace c30 := eq_of_beq c30
    refine Op.px 1 [(25, .pointer (some ⟨b20, 3, none⟩))] ?_
    refine Op.ld (n := 1) 3 (.tmp 25) 26 3 (.int .i64 a.Power) (s25.chunk 1 rfl) ?_
    refine Op.px 1 [(27, .pointer (some ⟨b23, 3, none⟩))] ?_
    refine Op.ld (n := 1) 3 (.tmp 27) 28 3 (.int .i64 b.Power) (s25.chunk 0 rfl) ?_
    refine Op.px 3 [(31, .bool (a.Power == b.Power))] ?_
    refine Op.wb (a.Power == b.Power) 31 (fun c32 => ?_) (fun c33 => ?_)
    ·replace c32 := eq_of_beq c32
     refine Op.px 1 [(32, .pointer (some ⟨b20, 4, none⟩))] ?_
     refine Op.la 92 (.tmp 32) 33 4 2 [.int .i64 a.Node.Role, .int .i64 a.Node.N] (s25.chunk 1 rfl) ?_
     refine Op.px 1 [(34, .pointer (some ⟨b23, 4, none⟩))] ?_
     refine Op.la 92 (.tmp 34) 35 4 2 [.int .i64 b.Node.Role, .int .i64 b.Node.N] (s25.chunk 0 rfl) ?_
     refine Op.eqAgg (T := 92) (T' := 92) (x := (.tmp 33)) (y := (.tmp 35)) (neq := false) (dst := 36) (xs := #[.int .i64 a.Node.Role, .int .i64 a.Node.N]) (ys := #[.int .i64 b.Node.Role, .int .i64 b.Node.N]) (q := ((a.Node.Role == b.Node.Role) && ((a.Node.N == b.Node.N) && true))) (q' := decide (a.Node = b.Node)) (by kernel_rfl) (by kernel_rfl) (by kernel_rfl) (by kernel_rfl) (by kernel_rfl) (eqT_Id a.Node b.Node) ?_
     refine Op.px 2 [(38, .bool (decide (a.Node = b.Node)))] ?_
     refine Op.wb (decide (a.Node = b.Node)) 38 (fun c34 => ?_) (fun c35 => ?_)
     ·replace c34 := of_decide_eq_true c34
      refine Op.px 1 [(39, .pointer (some ⟨b20, 6, none⟩))] ?_
      refine Op.ld (n := 1) 29 (.tmp 39) 40 6 (.slice a_a_6 a.Data.length n_a_6) (s25.chunk 1 rfl) ?_
      refine Op.px 1 [(41, .pointer (some ⟨b23, 6, none⟩))] ?_
      refine Op.ld (n := 1) 29 (.tmp 41) 42 6 (.slice a_b_6 b.Data.length n_b_6) (s25.chunk 0 rfl) ?_
      refine Op.c1 43 (equalB _ _ _ s25.sub hG _ _ h_a_6 _ _ h_b_6 (by ((try dsimp only) <;> (omega))) ) s25 ?_
      intro h36 s37
      refine Op.px 2 [(45, .bool (decide (a.Data = b.Data)))] ?_
      refine Op.wb (decide (a.Data = b.Data)) 45 (fun c40 => ?_) (fun c41 => ?_)
      ·replace c40 := of_decide_eq_true c40
       refine Op.px 1 [(46, .pointer (some ⟨b20, 7, none⟩))] ?_
       refine Op.ld (n := 1) 44 (.tmp 46) 47 7 (.slice a_a_7 a.Keeps.length n_a_7) (s37.chunk 1 rfl) ?_
       refine Op.px 1 [(48, .pointer (some ⟨b23, 7, none⟩))] ?_
       refine Op.ld (n := 1) 44 (.tmp 48) 49 7 (.slice a_b_7 b.Keeps.length n_b_7) (s37.chunk 0 rfl) ?_
       refine Op.c1 50 (equalI _ _ _ s37.sub hG _ _ h_a_7 _ _ h_b_7 (by ((try dsimp only) <;> (omega))) ) s37 ?_
       intro h42 s43
       refine Op.pg 2 [(4, .bool (decide (a.Keeps = b.Keeps)))] ?_
       refine At.rt (.bool (decide (a.Keeps = b.Keeps))) ?_
       have s46 := s43.drop.drop
       refine hR _ _ _ _ s46 ⟨?_, rfl, rfl⟩
       exact (eqB (by exact same_last (by assumption) (by assumption) (by assumption) (by assumption) (by first | assumption | exact of_decide_eq_true (by assumption)) (by first | assumption | exact of_decide_eq_true (by assumption))))
      ·replace c41 := of_decide_eq_false c41
       refine Op.pg 2 [(4, .bool false)] ?_
       refine At.rt (.bool false) ?_
       have s47 := s37.drop.drop
       refine hR _ _ _ _ s47 ⟨?_, rfl, rfl⟩
       exact (eqB (by exact (decide_eq_false (stN (.inr (.inr (.inr (.inr (.inr (.inl (by first | assumption | exact of_decide_eq_false (by assumption)))))))))).symm))
     ·replace c35 := of_decide_eq_false c35
      refine Op.pg 2 [(4, .bool false)] ?_
      refine At.rt (.bool false) ?_
      have s48 := s25.drop.drop
      refine hR _ _ _ _ s48 ⟨?_, rfl, rfl⟩
      exact (eqB (by exact (decide_eq_false (stN (.inr (.inr (.inr (.inr (.inl (by first | assumption | exact of_decide_eq_false (by assumption))))))))).symm))
    ·replace c33 := neF c33
     refine Op.pg 2 [(4, .bool false)] ?_
     refine At.rt (.bool false) ?_
     have s49 := s25.drop.drop
     refine hR _ _ _ _ s49 ⟨?_, rfl, rfl⟩
     exact (eqB (by exact (decide_eq_false (stN (.inr (.inr (.inr (.inl (by first | assumption | exact of_decide_eq_false (by assumption)))))))).symm))
   ·replace c31 := neF c31
    refine Op.pg 2 [(4, .bool false)] ?_
    refine At.rt (.bool false) ?_
    have s50 := s25.drop.drop
    refine hR _ _ _ _ s50 ⟨?_, rfl, rfl⟩
    exact (eqB (by exact (decide_eq_false (stN (.inr (.inr (.inl (by first | assumption | exact of_decide_eq_false (by assumption))))))).symm))
  ·replace c29 := neF c29
   refine Op.pg 2 [(4, .bool false)] ?_
   refine At.rt (.bool false) ?_
   have s51 := s25.drop.drop
   refine hR _ _ _ _ s51 ⟨?_, rfl, rfl⟩
   exact (eqB (by exact (decide_eq_false (stN (.inr (.inl (by first | assumption | exact of_decide_eq_false (by assumption)))))).symm))
 ·replace c27 := neF c27
  refine Op.pg 2 [(4, .bool false)] ?_
  refine At.rt (.bool false) ?_
  have s52 := s25.drop.drop
  refine hR _ _ _ _ s52 ⟨?_, rfl, rfl⟩
  exact (eqB (by exact (decide_eq_false (stN (.inl (by first | assumption | exact of_decide_eq_false (by assumption))))).symm))
set_option maxHeartbeats 2000000 in
theorem lineS (B : World) (h : Heap) (g : GH) (hg : Sub g h) (hG : Glob g) (st : Step) (v_st_6 : Value) (h_st_6 : SlR g 5 kU8 v_st_6 st.Data) (v_st_7 : Value) (h_st_7 : SlR g 3 (kInt .i64) v_st_7 st.Keeps) (hP : Pow10 g) (ho : stOk st) :
  Spec Tryz.prog B 62 #[.agg #[.int .i64 st.Kind, .int .i64 st.Role, .int .i64 st.K, .int .i64 st.Power, .int .i64 st.Node.Role, .int .i64 st.Node.N, v_st_6, v_st_7]] h g [] (fun rv g' L' => rv = .string (mkS (textW st)) ∧ L' = []) := by
 obtain ⟨a_st_6, n_st_6, rfl⟩ := h_st_6.form
 obtain ⟨a_st_7, n_st_7, rfl⟩ := h_st_7.form
 refine Spec.at' Tryz.func62 ?_
 intro R hR
 have s0 := St.init hg
 refine At.rg 2 ?_
 refine Op.box (T := 94) (x := (.tmp 0)) (d := 1) (cs := #[.int .i64 st.Kind, .int .i64 st.Role, .int .i64 st.K, .int .i64 st.Power, .int .i64 st.Node.Role, .int .i64 st.Node.N, .slice a_st_6 st.Data.length n_st_6, .slice a_st_7 st.Keeps.length n_st_7]) (by kernel_rfl) (by kernel_rfl) s0 ?_
 intro b20 h21 s22
 refine Op.pg 1 [] ?_
 refine At.rg 2 ?_
 refine Op.c0 (some 10) (formsS _ _ _ s22.sub hG   ) s22 ?_
 rintro _ g27 _ h23 hle28 s24 ⟨m25, rfl, hF26, rfl⟩
 replace hG := hG.mono hle28
 replace hP := hP.mono hle28
 replace h_st_6 := h_st_6.mono hle28
 replace h_st_7 := h_st_7.mono hle28
 obtain ⟨es29, clk30, ks31, hm32, hR33, hF34⟩ := hF26
 refine Op.rangeM (d := .string) (z := (.agg #[.int .i64 0, .int .i64 0, .slice none 0 0, .bool false])) (mt := 95) (x := (.tmp 10)) (dst := 11) (m := m25) (by kernel_rfl) (by kernel_rfl) (by kernel_rfl) (s24.sub _ _ hm32) hR33 s24 ?_
 intro it35 o36 h37 hM38 s39
 refine Op.gt 2 ?_
 have loop2 : ∀ (m : Nat) (g43 : GH) (hleg43 : gle g27 g43) (vs : List (Str × Value)) (rs : List (Str × Value)) (o1 : Obj) (h42 : Heap) (hm : rs.length < m) (hpm : (vs ++ rs).Perm ks31) (hno : noneI st vs)    (hM40 : MIt encS es29 clk30 m25 vs rs o1) (s41 : St h g (ids []) g43 [[(it35, o1)], [(b20, Obj.cells #[.int .i64 st.Kind, .int .i64 st.Role, .int .i64 st.K, .int .i64 st.Power, .int .i64 st.Node.Role, .int .i64 st.Node.N, .slice a_st_6 st.Data.length n_st_6, .slice a_st_7 st.Keeps.length n_st_7] 94 (0, 0))]] h42), At (fctx Tryz.prog B 62 Tryz.f62 R) [] 2 [(1, .pointer (some ⟨b20, 0, none⟩)), (11, .pointer (some ⟨it35, 0, none⟩))] h42 := by
  intro m; induction m with
  | zero => intros; omega
  | succ m ih2 =>
   intro g43 hleg43 vs rs o1 h42 hm hpm hno hM40 s41
   replace hF34 := hF34.mono hleg43
   replace hG := hG.mono hleg43
   replace hP := hP.mono hleg43
   replace h_st_6 := h_st_6.mono hleg43
   replace h_st_7 := h_st_7.mono hleg43
   replace hm32 := hleg43 _ _ hm32
   refine At.rg 2 ?_
   refine Op.nextM (x := (.tmp 11)) (dst := 12) (it := it35) (m := m25) (by kernel_rfl) (by kernel_rfl) (s41.sub _ _ hm32) hR33 hM40 s41 0 rfl (fun _ => trivial) ⟨fun hrs50 => ?_, fun ra44 k45 v46 rb47 o48 h49 hrs50 hM51 s52 => ?_⟩
   ·refine Op.pg 3 [(13, .bool false)] ?_
    refine At.ifF 13 24 ?_
    refine At.go 25 1 [(2, .string (mkS []))] ?_
    refine At.rt (.string (mkS [])) ?_
    have s53 := s41.drop.drop
    refine hR _ _ _ _ s53 ⟨?_, rfl⟩
    exact (eqS (by exact text_none (none_all hF34 hpm (by assumption) hno)))
   ·obtain ⟨f54, v55, rfl, hT56, hs57⟩ := forms_mem hF34 hpm hrs50
    obtain ⟨a58, n59, rfl⟩ := hs57.form
    refine Op.pg 3 [(13, .bool true)] ?_
    refine At.ifT 13 4 ?_
    refine At.rg 6 ?_
    refine Op.entryM (x := (.tmp 11)) (dst := 14) (it := it35) (m := m25) (vs := vs) (k := k45) (v := .agg #[.int .i64 f54.kind, .int .i64 f54.role, .slice a58 ((f54.words).length) n59, .bool f54.more]) (by kernel_rfl) (by kernel_rfl) (s52.sub _ _ hm32) hR33 hM51 (s52.chunk 0 rfl) ?_
    refine Op.px 2 [(15, .string (mkS k45)), (16, .agg #[.int .i64 f54.kind, .int .i64 f54.role, .slice a58 ((f54.words).length) n59, .bool f54.more])] ?_
    refine Op.al 4 104 #[.int .i64 0, .int .i64 0, .slice none 0 0, .bool false] s52 ?_
    intro b60 h61 s62
    refine Op.px 1 [(3, .string (mkS k45))] ?_
    refine Op.store (T := 104) (x := (.tmp 4)) (y := (.tmp 16)) (b := b60) (o := 0) (vs := [.int .i64 f54.kind, .int .i64 f54.role, .slice a58 ((f54.words).length) n59, .bool f54.more]) (a? := true) (n := 4) (by kernel_rfl) (by kernel_rfl) (by kernel_rfl) (by kernel_rfl) rfl (by simp [Value.oneCell']) s62 0 rfl (Nat.le_of_ble_eq_true (by kernel_rfl)) (cs := #[.int .i64 0, .int .i64 0, .slice none 0 0, .bool false]) (cs' := #[.int .i64 f54.kind, .int .i64 f54.role, .slice a58 ((f54.words).length) n59, .bool f54.more]) (by kernel_rfl) (fun _ => trivial) ?_
    intro h63 s64
    refine Op.gt 5 ?_
    refine At.rp 5 1 [(17, .pointer (some ⟨b60, 0, none⟩))] ?_
    refine Op.ld (n := 1) 3 (.tmp 17) 18 0 (.int .i64 f54.kind) (s64.chunk 0 rfl) ?_
    refine Op.px 1 [(19, .pointer (some ⟨b20, 0, none⟩))] ?_
    refine Op.ld (n := 1) 3 (.tmp 19) 20 0 (.int .i64 st.Kind) (s64.chunk 2 rfl) ?_
    refine Op.pg 6 [(21, .bool (f54.kind != st.Kind))] ?_
    refine At.if' (f54.kind != st.Kind) 21 2 7 (fun c65 => ?_) (fun c66 => ?_)
    ·replace c65 := bneT c65
     refine At.kp [(1, .pointer (some ⟨b20, 0, none⟩)), (11, .pointer (some ⟨it35, 0, none⟩))] ?_
     have s67 := s64.drop
     exact ih2 _ hleg43 (vs ++ [(k45, .agg #[.int .i64 f54.kind, .int .i64 f54.role, .slice a58 ((f54.words).length) n59, .bool f54.more])]) (ra44 ++ rb47) o48 _ (by have hz := congrArg List.length hrs50; simp only [List.length_append, List.length_cons] at hz ⊢; omega) (by exact perm_step hpm (by assumption)) (by exact noneI_step hno (by assumption) (by assumption)) hM51 s67
    ·replace c66 := bneF c66
     refine At.rp 3 1 [(22, .string (mkS k45))] ?_
     refine Op.lit (T := 54) (len := 1) (parts := #[(0, (.tmp 22))]) (dst := 23) (E := 9) (ps := [(0, .string (mkS k45))]) (cs := #[.string (mkS k45)]) (by kernel_rfl) (by kernel_rfl) (by kernel_rfl) s64 ?_
     intro b68 h69 s70
     refine Op.pg 8 [(5, .slice (some ⟨b68, 0, none⟩) 1 1)] ?_
     refine At.rp 4 1 [(24, .pointer (some ⟨b60, 2, none⟩))] ?_
     refine Op.ld (n := 1) 102 (.tmp 24) 25 2 (.slice a58 ((f54.words).length) n59) (s70.chunk 1 rfl) ?_
     refine Op.pg 9 [(26, .int .i64 ((f54.words).length : Int)), (27, .int .i64 0)] ?_
     have loop9 : ∀ (m : Nat) (out : List Str) (i : Int) (a71 : Option Addr) (n72 : Nat) (ch73 : Chunk) (h76 : Heap) (hm : f54.words.length - i.toNat < m) (h0 : 0 ≤ i) (hi : i ≤ f54.words.length) (hol : out.length ≤ 1 + i) (hS : sayI st k45 f54 out i) (R74 : Row 9 kStr g43 (.slice a71 out.length n72) out ch73)    (s75 : St h g (ids []) g43 [ch73, [(b60, Obj.cells #[.int .i64 f54.kind, .int .i64 f54.role, .slice a58 ((f54.words).length) n59, .bool f54.more] 104 (0, 0))], [(it35, o48)], [(b20, Obj.cells #[.int .i64 st.Kind, .int .i64 st.Role, .int .i64 st.K, .int .i64 st.Power, .int .i64 st.Node.Role, .int .i64 st.Node.N, .slice a_st_6 st.Data.length n_st_6, .slice a_st_7 st.Keeps.length n_st_7] 94 (0, 0))]] h76), At (fctx Tryz.prog B 62 Tryz.f62 R) [] 9 [(1, .pointer (some ⟨b20, 0, none⟩)), (4, .pointer (some ⟨b60, 0, none⟩)), (5, .slice a71 out.length n72), (25, .slice a58 ((f54.words).length) n59), (26, .int .i64 ((f54.words).length : Int)), (27, .int .i64 i)] h76 := by
      intro m; induction m with
      | zero => intros; omega
      | succ m ih9 =>
       intro out i a71 n72 ch73 h76 hm h0 hi hol hS R74 s75
       refine At.go 10 1 [(28, .bool (decide (i < ((f54.words).length : Int))))] ?_
       refine At.if' (decide (i < ((f54.words).length : Int))) 28 11 14 (fun c77 => ?_) (fun c78 => ?_)
       ·replace c77 := of_decide_eq_true c77
        refine At.rg 4 ?_
        obtain ⟨x79, hx80⟩ := getAt (l := f54.words) (i := i) (by omega)
        obtain ⟨b81, o82, cu83, fz84, ha85, hb86, hk87⟩ := SlR.at_ hs57 _ hx80
        cases ha85
        refine Op.ix 102 153 2 16 ((f54.words).length) n59 (.tmp 25) (.tmp 27) 29 b81 o82 i (by omega) (by omega) ?_
        have hn90 : x79 ≠ .nul := by exact forms_nn (by assumption) x79 (List.mem_of_getElem? hx80)
        obtain ⟨cp88, hw89, hk87⟩ := word_open hn90 hk87
        refine Op.la 153 (.tmp 29) 30 (o82 + (i : Int).toNat * 2) 2 [.func (.func (rdF x79)) #[] cp88, .func (.func (syF x79)) #[] cp88] (s75.sub _ _ hb86) ?_ (hv := (hk87))
        refine Op.al 7 153 #[.nilFunc, .nilFunc] s75 ?_
        intro b91 h92 s93
        refine Op.store (T := 153) (x := (.tmp 7)) (y := (.tmp 30)) (b := b91) (o := 0) (vs := [.func (.func (rdF x79)) #[] cp88, .func (.func (syF x79)) #[] cp88]) (a? := true) (n := 2) (by kernel_rfl) (by kernel_rfl) (by kernel_rfl) (by kernel_rfl) rfl (by simp [Value.oneCell']) s93 0 rfl (Nat.le_of_ble_eq_true (by kernel_rfl)) (cs := #[.nilFunc, .nilFunc]) (cs' := #[.func (.func (rdF x79)) #[] cp88, .func (.func (syF x79)) #[] cp88]) (by kernel_rfl) (fun _ => trivial) ?_
        intro h94 s95
        refine Op.gt 12 ?_
        refine At.rp 8 2 [(31, .slice a71 out.length n72), (32, .pointer (some ⟨b91, 1, none⟩))] ?_
        refine Op.ld (n := 1) 114 (.tmp 32) 33 1 (.func (.func (syF x79)) #[] cp88) (s95.chunk 0 rfl) ?_
        refine Op.la 94 (.tmp 1) 34 0 8 [.int .i64 st.Kind, .int .i64 st.Role, .int .i64 st.K, .int .i64 st.Power, .int .i64 st.Node.Role, .int .i64 st.Node.N, .slice a_st_6 st.Data.length n_st_6, .slice a_st_7 st.Keeps.length n_st_7] (s95.chunk 4 rfl) ?_
        refine Op.callV (dst := some 35) (x := (.tmp 33)) (ops := #[(.tmp 34)]) (ts := #[94]) (f := (syF x79)) (first := #[]) (cap := cp88) (Lc := []) (L := [[(b91, Obj.cells #[.func (.func (rdF x79)) #[] cp88, .func (.func (syF x79)) #[] cp88] 153 (0, 0))], ch73, [(b60, Obj.cells #[.int .i64 f54.kind, .int .i64 f54.role, .slice (some ⟨b81, o82, none⟩) ((f54.words).length) n59, .bool f54.more] 104 (0, 0))], [(it35, o48)], [(b20, Obj.cells #[.int .i64 st.Kind, .int .i64 st.Role, .int .i64 st.K, .int .i64 st.Power, .int .i64 st.Node.Role, .int .i64 st.Node.N, .slice a_st_6 st.Data.length n_st_6, .slice a_st_7 st.Keeps.length n_st_7] 94 (0, 0))]]) (args := ((#[.agg #[.int .i64 st.Kind, .int .i64 st.Role, .int .i64 st.K, .int .i64 st.Power, .int .i64 st.Node.Role, .int .i64 st.Node.N, .slice a_st_6 st.Data.length n_st_6, .slice a_st_7 st.Keeps.length n_st_7]] : Array Value) ++ cp88)) (by kernel_rfl) (by kernel_rfl) (sy_ent x79 hn90) (args1 (by kernel_rfl)) s95 (say_spec _ _ _ s95.sub hG x79 hn90 cp88 hw89 st _ h_st_6 _ h_st_7 hP (by ((try dsimp only) <;> (omega))) ) (fun _ _ h => absurd h (ids_nil _)) ?_
        rintro _ g98 _ h96 hle99 s97 ⟨rfl, hgg, rfl⟩; subst g98; clear hle99
        refine Op.lit (T := 54) (len := 1) (parts := #[(0, (.tmp 35))]) (dst := 36) (E := 9) (ps := [(0, .string (mkS (wordW st x79.ch)))]) (cs := #[.string (mkS (wordW st x79.ch))]) (by kernel_rfl) (by kernel_rfl) (by kernel_rfl) s97 ?_
        intro b100 h101 s102
        refine Op.append (x := (.tmp 31)) (y := (.tmp 36)) (t := 54) (t' := 54) (dst := 37) (E := 9) (by_ := 16) (d := kStr) (by kernel_rfl) (by kernel_rfl) (by kernel_rfl) (by kernel_rfl) rfl R74 s102 2 rfl (Src.lit (m := 1) (sz := 1) (s102.chunk 0 rfl) (news := [.string (mkS (wordW st x79.ch))]) rfl rfl (by simp [Value.oneCell']) _) (ys := [wordW st x79.ch]) (⟨_, _, rfl, rfl, Reads.nil⟩) rfl (by (have := forms_wl (by assumption); simp only [List.length_append, List.length_cons, List.length_nil]; omega)) (fun _ _ _ => trivial) ?_
        intro v103 ch104 h105 R106 s107 nn108
        obtain ⟨a109, n110, rfl⟩ := R106.form
        have s111 := (s107.front 0 rfl).drop
        refine Op.pg 13 [(5, .slice a109 ((out ++ ([wordW st x79.ch])).length) n110)] ?_
        refine At.rg 2 ?_
        refine Op.v64 38 (i + 1) (by omega) (by (have := forms_wl (by assumption); omega)) ?_
        refine Op.pg 9 [(27, .int .i64 (i + 1))] ?_
        refine At.kp [(1, .pointer (some ⟨b20, 0, none⟩)), (4, .pointer (some ⟨b60, 0, none⟩)), (5, .slice a109 ((out ++ ([wordW st x79.ch])).length) n110), (25, .slice (some ⟨b81, o82, none⟩) ((f54.words).length) n59), (26, .int .i64 ((f54.words).length : Int)), (27, .int .i64 (i + 1))] ?_
        have s112 := s111.drop
        exact ih9  (out ++ ([wordW st x79.ch])) (i + 1) _ _ _ _ (by omega) (by omega) (by omega) (by (simp only [List.length_append, List.length_cons, List.length_nil]; omega)) (by exact sayI_step hS h0 hx80) R106 s112
       ·replace c78 := of_decide_eq_false c78
        refine At.rp 4 1 [(39, .pointer (some ⟨b20, 7, none⟩))] ?_
        refine Op.ld (n := 1) 44 (.tmp 39) 40 7 (.slice a_st_7 st.Keeps.length n_st_7) (s75.chunk 3 rfl) ?_
        refine Op.pg 15 [(41, .int .i64 (st.Keeps.length : Int)), (42, .int .i64 0)] ?_
        have loop15 : ∀ (m : Nat) (out2 : List Str) (j : Int) (a113 : Option Addr) (n114 : Nat) (ch115 : Chunk) (h118 : Heap) (hm : st.Keeps.length - j.toNat < m) (j0 : 0 ≤ j) (hj : j ≤ st.Keeps.length) (hol2 : out2.length ≤ 20 + j) (hJ : kepJ st k45 f54 out2 j) (R116 : Row 9 kStr g43 (.slice a113 out2.length n114) out2 ch115)    (s117 : St h g (ids []) g43 [ch115, [(b60, Obj.cells #[.int .i64 f54.kind, .int .i64 f54.role, .slice a58 ((f54.words).length) n59, .bool f54.more] 104 (0, 0))], [(it35, o48)], [(b20, Obj.cells #[.int .i64 st.Kind, .int .i64 st.Role, .int .i64 st.K, .int .i64 st.Power, .int .i64 st.Node.Role, .int .i64 st.Node.N, .slice a_st_6 st.Data.length n_st_6, .slice a_st_7 st.Keeps.length n_st_7] 94 (0, 0))]] h118), At (fctx Tryz.prog B 62 Tryz.f62 R) [] 15 [(4, .pointer (some ⟨b60, 0, none⟩)), (5, .slice a113 out2.length n114), (40, .slice a_st_7 st.Keeps.length n_st_7), (41, .int .i64 (st.Keeps.length : Int)), (42, .int .i64 j)] h118 := by
         intro m; induction m with
         | zero => intros; omega
         | succ m ih15 =>
          intro out2 j a113 n114 ch115 h118 hm j0 hj hol2 hJ R116 s117
          refine At.go 16 1 [(43, .bool (decide (j < (st.Keeps.length : Int))))] ?_
          refine At.if' (decide (j < (st.Keeps.length : Int))) 43 17 22 (fun c119 => ?_) (fun c120 => ?_)
          ·replace c119 := of_decide_eq_true c119
           refine At.rg 3 ?_
           obtain ⟨x121, hx122⟩ := getAt (l := st.Keeps) (i := j) (by omega)
           obtain ⟨b123, o124, cu125, fz126, ha127, hb128, hk129⟩ := SlR.at_ h_st_7 _ hx122
           cases ha127
           refine Op.ix 44 3 1 8 st.Keeps.length n_st_7 (.tmp 40) (.tmp 42) 44 b123 o124 j (by omega) (by omega) ?_
           replace hk129 : cut _ _ _ = [.int .i64 x121] := hk129
           refine Op.ld (n := 1) 3 (.tmp 44) 45 (o124 + (j : Int).toNat * 1) (.int .i64 x121) (s117.sub _ _ hb128) ?_ (hv := (cut_get hk129 0 rfl))
           refine Op.pg 18 [(9, .int .i64 x121)] ?_
           refine At.rp 2 1 [(46, .pointer (some ⟨b60, 3, none⟩))] ?_
           refine Op.ld (n := 1) 4 (.tmp 46) 47 3 (.bool f54.more) (s117.chunk 1 rfl) ?_
           refine Op.gt 19 ?_
           refine At.if' f54.more 47 20 21 (fun c130 => ?_) (fun c131 => ?_)
           ·refine At.rp 6 2 [(48, .slice a113 out2.length n114), (49, .int .i64 x121)] ?_
            refine Op.c1 50 (itoa_spec _ _ _ s117.sub hG x121 hP (by ((try dsimp only) <;> ((have h7 := ho.2.2.2.2.2.2.2.2 x121 (List.mem_of_getElem? hx122); omega)))) (by ((try dsimp only) <;> ((have h7 := ho.2.2.2.2.2.2.2.2 x121 (List.mem_of_getElem? hx122); omega)))) ) s117 ?_
            intro h132 s133
            refine Op.lit (T := 54) (len := 1) (parts := #[(0, (.tmp 50))]) (dst := 51) (E := 9) (ps := [(0, .string (mkS (Lib.itoa x121)))]) (cs := #[.string (mkS (Lib.itoa x121))]) (by kernel_rfl) (by kernel_rfl) (by kernel_rfl) s133 ?_
            intro b136 h137 s138
            refine Op.append (x := (.tmp 48)) (y := (.tmp 51)) (t := 54) (t' := 54) (dst := 52) (E := 9) (by_ := 16) (d := kStr) (by kernel_rfl) (by kernel_rfl) (by kernel_rfl) (by kernel_rfl) rfl R116 s138 1 rfl (Src.lit (m := 1) (sz := 1) (s138.chunk 0 rfl) (news := [.string (mkS (Lib.itoa x121))]) rfl rfl (by simp [Value.oneCell']) _) (ys := [Lib.itoa x121]) (⟨_, _, rfl, rfl, Reads.nil⟩) rfl (by (have := forms_wl (by assumption); unfold stOk at ho; simp only [List.length_append, List.length_cons, List.length_nil]; omega)) (fun _ _ _ => trivial) ?_
            intro v139 ch140 h141 R142 s143 nn144
            obtain ⟨a145, n146, rfl⟩ := R142.form
            have s147 := (s143.front 0 rfl).drop
            refine Op.pg 21 [(5, .slice a145 ((out2 ++ ([Lib.itoa x121])).length) n146)] ?_
            refine At.rg 2 ?_
            refine Op.v64 53 (j + 1) (by omega) (by (unfold stOk at ho; omega)) ?_
            refine Op.pg 15 [(42, .int .i64 (j + 1))] ?_
            refine At.kp [(4, .pointer (some ⟨b60, 0, none⟩)), (5, .slice a145 ((out2 ++ ([Lib.itoa x121])).length) n146), (40, .slice (some ⟨b123, o124, none⟩) st.Keeps.length n_st_7), (41, .int .i64 (st.Keeps.length : Int)), (42, .int .i64 (j + 1))] ?_
            exact ih15  (out2 ++ ([Lib.itoa x121])) (j + 1) _ _ _ _ (by omega) (by omega) (by omega) (by (simp only [List.length_append, List.length_cons, List.length_nil]; omega)) (by exact kepJ_y hJ j0 (by assumption) hx122) R142 s147
           ·refine At.rg 2 ?_
            refine Op.v64 53 (j + 1) (by omega) (by (unfold stOk at ho; omega)) ?_
            refine Op.pg 15 [(42, .int .i64 (j + 1))] ?_
            refine At.kp [(4, .pointer (some ⟨b60, 0, none⟩)), (5, .slice a113 out2.length n114), (40, .slice (some ⟨b123, o124, none⟩) st.Keeps.length n_st_7), (41, .int .i64 (st.Keeps.length : Int)), (42, .int .i64 (j + 1))] ?_
            exact ih15  out2 (j + 1) _ _ _ _ (by omega) (by omega) (by omega) (by omega) (by exact kepJ_n hJ (by assumption)) R116 s117
          ·replace c120 := of_decide_eq_false c120
           refine At.rp 3 1 [(54, .slice a113 out2.length n114)] ?_
           have hl148 := s117.frzle
           have hz149 := R116.frz s117
           refine Op.lend (dst := some 55) (f := 68) (args := #[.slice a113 out2.length n114, .string (mkS ([32]))]) (cf := (ch115 : Chunk)) (Lc := []) (L := [[(b60, Obj.cells #[.int .i64 f54.kind, .int .i64 f54.role, .slice a58 ((f54.words).length) n59, .bool f54.more] 104 (0, 0))], [(it35, o48)], [(b20, Obj.cells #[.int .i64 st.Kind, .int .i64 st.Role, .int .i64 st.K, .int .i64 st.Power, .int .i64 st.Node.Role, .int .i64 st.Node.N, .slice a_st_6 st.Data.length n_st_6, .slice a_st_7 st.Keeps.length n_st_7] 94 (0, 0))]]) (by kernel_rfl) s117 (join_spec _ _ _ s117.frzsub (hG.mono hl148) _ _ hz149 ([32]) (by ((try dsimp only) <;> ((unfold stOk at ho; omega)))) (by ((try dsimp only) <;> ((rw [kepJ_end hJ (by assumption), line_text (by assumption) (by assumption)]; have := textW_len ho; omega)))) ) (fun _ _ _ hp => by obtain ⟨_, hgg, _⟩ := hp; exact hgg) (fun _ _ h => absurd h (ids_nil _)) ?_
           rintro _ _ h150 s151 ⟨rfl, hgg, rfl⟩; clear hgg
           refine Op.pg 23 [(2, .string (mkS (Lib.join out2 ([32]))))] ?_
           refine At.rt (.string (mkS (Lib.join out2 ([32])))) ?_
           have s154 := s151.drop.drop.drop.drop
           refine hR _ _ _ _ s154 ⟨?_, rfl⟩
           exact (eqS (by (rw [kepJ_end hJ (by assumption)]; exact line_text (by assumption) (by assumption))))
        refine At.kp [(4, .pointer (some ⟨b60, 0, none⟩)), (5, .slice a71 out.length n72), (40, .slice a_st_7 st.Keeps.length n_st_7), (41, .int .i64 (st.Keeps.length : Int)), (42, .int .i64 0)] ?_
        exact loop15 _  out 0 _ _ _ _ (Nat.lt_succ_self _) (by omega) (by omega) (by (have := forms_wl (by assumption); omega)) (by exact kepJ_0 hS (by assumption)) R74 s75
     refine At.kp [(1, .pointer (some ⟨b20, 0, none⟩)), (4, .pointer (some ⟨b60, 0, none⟩)), (5, .slice (some ⟨b68, 0, none⟩) 1 1), (25, .slice a58 ((f54.words).length) n59), (26, .int .i64 ((f54.words).length : Int)), (27, .int .i64 0)] ?_
     have R155 : Row 9 kStr g43 (.slice (some ⟨b68, 0, none⟩) 1 1) [k45] [(b68, Obj.cells #[.string (mkS k45)] 9 (0, 0))] := Row.lit (by kernel_rfl) (by unfold maxLen; decide) (by kernel_rfl) ⟨_, _, rfl, rfl, Reads.nil⟩
     exact loop9 _  ([k45]) 0 _ _ _ _ (Nat.lt_succ_self _) (by omega) (by omega) (by (have := forms_wl (by assumption); simp only [List.length_append, List.length_cons, List.length_nil]; omega)) (by exact sayI_0 _ _ _) R155 s70
 refine At.kp [(1, .pointer (some ⟨b20, 0, none⟩)), (11, .pointer (some ⟨it35, 0, none⟩))] ?_
 exact loop2 _ _ (gle.refl _) [] ks31 o36 _ (Nat.lt_succ_self _) (by exact List.Perm.refl _) (by exact noneI_0 _) hM38 s39
theorem writeS (B : World) (h : Heap) (g : GH) (hg : Sub g h) (hG : Glob g) (b_b : Nat) (b : List UInt8) (c_b : Chunk) (o_b : IsBld g b_b b c_b) (s : List UInt8) (hl : b.length + s.length ≤ 140737488355328) (hs : St h g (ids [c_b]) g [c_b] h) :
  Spec Tryz.prog B 64 #[.pointer (some ⟨b_b, 0, none⟩), .string (mkS s)] h g [c_b] (fun rv g' L' => ∃ k_b, rv = .tuple #[.int .i64 (s.length : Int), .nilIface] ∧ IsBld g' b_b (b ++ s) k_b ∧ g' = g ∧ L' = [k_b]) := by
 refine Spec.at' Tryz.func64 ?_
 intro R hR
 refine At.go 1 2 [] ?_
 refine At.rp 2 1 [(6, .pointer (some ⟨b_b, 0, none⟩))] ?_
 obtain ⟨v20, v21, c22, e23, R24, R25⟩ := o_b
 obtain ⟨a26, n27, rfl⟩ := R25.form
 have s28 : St h g (ids [c_b]) g [[(b_b, Obj.cells #[.pointer v20, .slice a26 b.length n27] 113 (0, 0))], c22] h := St.flat (L := [c_b]) (by rw [e23]; simp only [List.flatten_cons, List.append_assoc, List.cons_append, List.nil_append, List.append_nil]) hs
 refine Op.call (dst := some 7) (f := 114) (args := #[.pointer (some ⟨b_b, 0, none⟩)]) (Lc := [[(b_b, Obj.cells #[.pointer v20, .slice a26 b.length n27] 113 (0, 0))]]) (L := [c22]) (by kernel_rfl) s28 (copyCheck_spec _ _ _ s28.sub hG b_b v20 R24 _ (St.part (Lc := [[(b_b, Obj.cells #[.pointer v20, .slice a26 b.length n27] 113 (0, 0))]]) (L := [c22]) s28)) (fun _ _ _ => trivial) ?_
 rintro _ g29 _ h30 hle31 s32 ⟨rfl, hgg33, rfl⟩; subst g29; clear hle31
 refine Op.gt 2 ?_
 refine At.rp 10 4 [(8, .pointer (some ⟨b_b, 0, none⟩)), (11, .pointer (some ⟨b_b, 1, none⟩))] ?_
 refine Op.ld (n := 1) 29 (.tmp 11) 12 1 (.slice a26 b.length n27) (s32.chunk 0 rfl) ?_
 refine Op.px 1 [(13, .string (mkS s))] ?_
 refine Op.appendT (x := (.tmp 12)) (y := (.tmp 13)) (t := 29) (t' := 9) (dst := 14) (E := 5) (by_ := 1) (d := kU8) (by kernel_rfl) (by kernel_rfl) (by kernel_rfl) (by kernel_rfl) rfl R25 s32 1 rfl (Src.str _ _ _) (ys := s) (reads_str _ _) rfl (by omega) (fun _ _ _ => trivial) ?_
 intro v34 ch35 h36 R37 s38 nn39
 obtain ⟨a40, n41, rfl⟩ := R37.form
 refine Op.px 2 [(16, .pointer (some ⟨b_b, 1, none⟩))] ?_
 refine Op.s1 29 (.tmp 16) (.tmp 14) 1 (.slice a40 ((b ++ s).length) n41) 0 #[.pointer (some ⟨b_b, 0, none⟩), .slice a40 ((b ++ s).length) n41] s38 (fun _ => trivial) ?_
 intro h42 s43
 refine Op.gt 3 ?_
 refine At.go 4 4 [(4, .int .i64 (s.length : Int)), (5, .nilIface)] ?_
 obtain ⟨c44, o45, s46⟩ := St.pack (Q := IsBld g b_b (b ++ s)) 2 s43 ⟨_, _, _, rfl, (Or.inr rfl), R37⟩
 refine At.rt (.tuple #[.int .i64 (s.length : Int), .nilIface]) ?_
 refine hR _ _ _ _ s46 ⟨c44, ?_, ?_, rfl, rfl⟩
 ·exact eqT2 (eqI (by rfl)) rfl
 ·exact o45.eq (by rfl)
set_option maxHeartbeats 2000000 in
theorem showS (B : World) (h : Heap) (g : GH) (hg : Sub g h) (hG : Glob g) (v_list : Value) (list : List Step) (h_list : SlR g 94 kStep v_list list) (hP : Pow10 g) (hl : list.length ≤ 100000) (hst : ∀ st ∈ list, stOk st) :
  Spec Tryz.prog B 20 #[v_list] h g [] (fun rv g' L' => rv = .tuple #[.string (mkS ((showW list).1)), .int .i64 ((showW list).2)] ∧ g' = g ∧ L' = []) := by
 obtain ⟨a_list, n_list, rfl⟩ := h_list.form
 refine Spec.at' Tryz.func20 ?_
 intro R hR
 have s0 := St.init hg
 refine At.go 1 2 [] ?_
 refine At.rg 1 ?_
 refine Op.al 4 113 #[.pointer none, .slice none 0 0] s0 ?_
 intro b20 h21 s22
 refine Op.gt 2 ?_
 refine At.go 3 3 [(11, .slice a_list list.length n_list), (12, .int .i64 (list.length : Int)), (13, .int .i64 0)] ?_
 have R23 := RowT.nil 5 kU8 g
 have s24 := s22.nl
 have s25 := (s24.front 0 rfl).front 1 rfl
 obtain ⟨c26, o27, s28⟩ := St.pack (Q := IsBld g b20 ([] : List UInt8)) 2 s25 ⟨_, _, _, rfl, (Or.inl rfl), R23⟩
 have loop3 : ∀ (m : Nat) (g33 : GH) (hleg33 : gle g g33) (out : List UInt8) (i : Int) (c29 : Chunk) (h32 : Heap) (hm : list.length - i.toNat < m) (h0 : 0 ≤ i) (hi : i ≤ list.length) (hol : out.length ≤ i * 13300001) (hS : shI list out i)  (o30 : IsBld g33 b20 out c29)   (s31 : St h g (ids []) g33 [c29] h32), At (fctx Tryz.prog B 20 Tryz.f20 R) [] 3 [(4, .pointer (some ⟨b20, 0, none⟩)), (11, .slice a_list list.length n_list), (12, .int .i64 (list.length : Int)), (13, .int .i64 i)] h32 := by
  intro m; induction m with
  | zero => intros; omega
  | succ m ih3 =>
   intro g33 hleg33 out i c29 h32 hm h0 hi hol hS o30 s31
   replace hG := hG.mono hleg33
   replace hP := hP.mono hleg33
   replace h_list := h_list.mono hleg33
   refine At.go 4 1 [(14, .bool (decide (i < (list.length : Int))))] ?_
   refine At.if' (decide (i < (list.length : Int))) 14 5 14 (fun c34 => ?_) (fun c35 => ?_)
   ·replace c34 := of_decide_eq_true c34
    refine At.rg 4 ?_
    obtain ⟨x36, hx37⟩ := getAt (l := list) (i := i) (by omega)
    obtain ⟨b38, o39, cu40, fz41, ha42, hb43, hk44⟩ := SlR.at_ h_list _ hx37
    cases ha42
    refine Op.ix 23 94 8 96 list.length n_list (.tmp 11) (.tmp 13) 15 b38 o39 i (by omega) (by omega) ?_
    obtain ⟨v45, v47, hv46, hv48, hk44⟩ := hk44
    obtain ⟨a49, n50, rfl⟩ := hv46.form
    obtain ⟨a51, n52, rfl⟩ := hv48.form
    refine Op.la 94 (.tmp 15) 16 (o39 + (i : Int).toNat * 8) 8 [.int .i64 x36.Kind, .int .i64 x36.Role, .int .i64 x36.K, .int .i64 x36.Power, .int .i64 x36.Node.Role, .int .i64 x36.Node.N, .slice a49 x36.Data.length n50, .slice a51 x36.Keeps.length n52] (s31.sub _ _ hb43) ?_ (hv := (hk44))
    refine Op.al 6 94 #[.int .i64 0, .int .i64 0, .int .i64 0, .int .i64 0, .int .i64 0, .int .i64 0, .slice none 0 0, .slice none 0 0] s31 ?_
    intro b53 h54 s55
    refine Op.store (T := 94) (x := (.tmp 6)) (y := (.tmp 16)) (b := b53) (o := 0) (vs := [.int .i64 x36.Kind, .int .i64 x36.Role, .int .i64 x36.K, .int .i64 x36.Power, .int .i64 x36.Node.Role, .int .i64 x36.Node.N, .slice a49 x36.Data.length n50, .slice a51 x36.Keeps.length n52]) (a? := true) (n := 8) (by kernel_rfl) (by kernel_rfl) (by kernel_rfl) (by kernel_rfl) rfl (by simp [Value.oneCell']) s55 0 rfl (Nat.le_of_ble_eq_true (by kernel_rfl)) (cs := #[.int .i64 0, .int .i64 0, .int .i64 0, .int .i64 0, .int .i64 0, .int .i64 0, .slice none 0 0, .slice none 0 0]) (cs' := #[.int .i64 x36.Kind, .int .i64 x36.Role, .int .i64 x36.K, .int .i64 x36.Power, .int .i64 x36.Node.Role, .int .i64 x36.Node.N, .slice a49 x36.Data.length n50, .slice a51 x36.Keeps.length n52]) (by kernel_rfl) (fun _ => trivial) ?_
    intro h56 s57
    refine Op.gt 6 ?_
    refine At.rg 3 ?_
    refine Op.la 94 (.tmp 6) 17 0 8 [.int .i64 x36.Kind, .int .i64 x36.Role, .int .i64 x36.K, .int .i64 x36.Power, .int .i64 x36.Node.Role, .int .i64 x36.Node.N, .slice a49 x36.Data.length n50, .slice a51 x36.Keeps.length n52] (s57.chunk 0 rfl) ?_
    refine Op.c0 (some 18) (lineS _ _ _ s57.sub hG x36 _ hv46 _ hv48 hP (by ((try dsimp only) <;> (exact hst _ (List.mem_of_getElem? hx37)))) ) s57 ?_
    rintro _ g60 _ h58 hle61 s59 ⟨rfl, rfl⟩
    replace hb43 := hle61 _ _ hb43
    replace hG := hG.mono hle61
    replace hP := hP.mono hle61
    replace h_list := h_list.mono hle61
    replace hv46 := hv46.mono hle61
    replace hv48 := hv48.mono hle61
    replace o30 := o30.mono hle61
    refine Op.pg 7 [(7, .string (mkS (textW x36)))] ?_
    refine At.rp 9 1 [(20, .string (mkS (textW x36)))] ?_
    refine Op.c0 (some 21) (parseS _ _ _ s59.sub hG (textW x36) (by ((try dsimp only) <;> ((have h7 := textW_len (hst x36 (List.mem_of_getElem? hx37)); omega)))) ) s59 ?_
    rintro _ g69 _ h62 hle70 s63 ⟨v64, ch65, rfl, R66, rfl⟩
    obtain ⟨a67, n68, rfl⟩ := R66.form
    replace hG := hG.mono hle70
    replace hP := hP.mono hle70
    replace h_list := h_list.mono hle70
    replace hv46 := hv46.mono hle70
    replace hv48 := hv48.mono hle70
    replace o30 := o30.mono hle70
    refine Op.pg 8 [(8, .slice a67 (((parseW (textW x36)).1).length) n68), (10, .int .i64 ((parseW (textW x36)).2.2))] ?_
    refine At.draw (by kernel_rfl) (fun _ => False) [(0, true), (1, true), (2, true), (3, true), (4, true), (5, true), (6, true), (7, true), (8, true), (9, true), (10, true), (11, false), (12, false), (13, true), (14, true)] (by kernel_rfl) ?_
    refine Op.px 3 [(27, .bool (((parseW (textW x36)).2.2) != (0 : Int)))] ?_
    refine Op.wb (((parseW (textW x36)).2.2) != (0 : Int)) 27 (fun c71 => ?_) (fun c72 => ?_)
    ·replace c71 := bneT c71
     refine Op.pg 9 [(39, .bool true)] ?_
     refine At.ifT 39 10 ?_
     refine At.go 11 2 [(2, .string (mkS [])), (3, .int .i64 240)] ?_
     refine At.rt (.tuple #[.string (mkS []), .int .i64 240]) ?_
     have s73 := s63.drop.drop.drop
     have s74 : St h g (ids []) g [] h62 := s73.unfrz
     refine hR _ _ _ _ s74 ⟨?_, rfl, rfl⟩
     exact eqT2 (eqS (by exact (show_bad hx37 (by first | exact okS_1 (by assumption) | exact okS_2 (by assumption) | exact okS_4 {hx1} (decide_eq_false (by assumption)))).1)) (eqI (by exact (show_bad hx37 (by first | exact okS_1 (by assumption) | exact okS_2 (by assumption) | exact okS_4 {hx1} (decide_eq_false (by assumption)))).2))
    ·replace c72 := bneF c72
     refine Op.px 5 [(32, .bool ((((parseW (textW x36)).1).length : Int) != (1 : Int)))] ?_
     refine Op.wb ((((parseW (textW x36)).1).length : Int) != (1 : Int)) 32 (fun c75 => ?_) (fun c76 => ?_)
     ·replace c75 := bneT c75
      refine Op.pg 9 [(39, .bool true)] ?_
      refine At.ifT 39 10 ?_
      refine At.go 11 2 [(2, .string (mkS [])), (3, .int .i64 240)] ?_
      refine At.rt (.tuple #[.string (mkS []), .int .i64 240]) ?_
      have s77 := s63.drop.drop.drop
      have s78 : St h g (ids []) g [] h62 := s77.unfrz
      refine hR _ _ _ _ s78 ⟨?_, rfl, rfl⟩
      exact eqT2 (eqS (by exact (show_bad hx37 (by first | exact okS_1 (by assumption) | exact okS_2 (by assumption) | exact okS_4 {hx1} (decide_eq_false (by assumption)))).1)) (eqI (by exact (show_bad hx37 (by first | exact okS_1 (by assumption) | exact okS_2 (by assumption) | exact okS_4 {hx1} (decide_eq_false (by assumption)))).2))
     ·replace c76 := bneF c76
      refine Op.px 1 [(33, .slice a67 (((parseW (textW x36)).1).length) n68)] ?_
      obtain ⟨x79, hx80⟩ := getAt (l := (parseW (textW x36)).1) (i := 0) (by omega)
      obtain ⟨b81, o82, cu83, fz84, ha85, hb86, hk87⟩ := SlH.at_ (R66.toH s63 0 rfl) _ hx80
      cases ha85
      refine Op.ix 23 94 8 96 (((parseW (textW x36)).1).length) n68 (.tmp 33) (.const (.int .i64 0)) 34 b81 o82 0 (by omega) (by omega) ?_
      obtain ⟨v88, v90, hv89, hv91, hk87⟩ := hk87
      obtain ⟨a92, n93, rfl⟩ := hv89.form
      obtain ⟨a94, n95, rfl⟩ := hv91.form
      refine Op.loadAF (T := 94) (x := (.tmp 34)) (o := o82 + (0 : Int).toNat * 8) (d := 35) (n := 8) (vs := [.int .i64 x79.Kind, .int .i64 x79.Role, .int .i64 x79.K, .int .i64 x79.Power, .int .i64 x79.Node.Role, .int .i64 x79.Node.N, .slice a92 x79.Data.length n93, .slice a94 x79.Keeps.length n95]) (by kernel_rfl) (by kernel_rfl) (by kernel_rfl) (fun h => h) hb86 (hk87) rfl ?_
      refine Op.la 94 (.tmp 6) 36 0 8 [.int .i64 x36.Kind, .int .i64 x36.Role, .int .i64 x36.K, .int .i64 x36.Power, .int .i64 x36.Node.Role, .int .i64 x36.Node.N, .slice a49 x36.Data.length n50, .slice a51 x36.Keeps.length n52] (s63.chunk 1 rfl) ?_
      refine Op.c1 37 (sameS _ _ _ s63.sub hG x79 _ hv89 _ hv91 x36 _ hv46 _ hv48 (by ((try dsimp only) <;> ((have h7 := textW_len (hst x36 (List.mem_of_getElem? hx37)); (obtain ⟨_, _, _, _, _, _, h8, h9, _⟩ := (parse_b (textW x36)).1 x79 (List.mem_of_getElem? hx80); omega))))) (by ((try dsimp only) <;> ((have h7 := textW_len (hst x36 (List.mem_of_getElem? hx37)); (obtain ⟨_, _, _, _, _, _, h8, h9, _⟩ := (parse_b (textW x36)).1 x79 (List.mem_of_getElem? hx80); omega))))) ) s63 ?_
      intro h96 s97
      refine Op.pg 9 [(39, .bool (!(decide (x79 = x36))))] ?_
      refine At.if' (!(decide (x79 = x36))) 39 10 12 (fun c100 => ?_) (fun c101 => ?_)
      ·replace c100 := of_decide_eq_false (notT c100)
       refine At.go 11 2 [(2, .string (mkS [])), (3, .int .i64 240)] ?_
       refine At.rt (.tuple #[.string (mkS []), .int .i64 240]) ?_
       have s102 := s97.drop.drop.drop
       have s103 : St h g (ids []) g [] h96 := s102.unfrz
       refine hR _ _ _ _ s103 ⟨?_, rfl, rfl⟩
       exact eqT2 (eqS (by exact (show_bad hx37 (by first | exact okS_1 (by assumption) | exact okS_2 (by assumption) | exact okS_4 hx80 (decide_eq_false (by assumption)))).1)) (eqI (by exact (show_bad hx37 (by first | exact okS_1 (by assumption) | exact okS_2 (by assumption) | exact okS_4 hx80 (decide_eq_false (by assumption)))).2))
      ·replace c101 := of_decide_eq_true (notF c101)
       refine At.rp 3 1 [(40, .string (mkS (textW x36)))] ?_
       refine Op.sa 9 9 (.tmp 40) (.const (.string (mkS ([10])))) 41 (textW x36) ([10]) (by (have h7 := textW_len (hst x36 (List.mem_of_getElem? hx37)); (simp only [List.length_append, List.length_cons, List.length_nil]; omega))) ?_
       have s104 := ((s97.front 1 rfl).front 1 rfl).front 2 rfl
       refine Op.call (dst := some 42) (f := 64) (args := #[.pointer (some ⟨b20, 0, none⟩), .string (mkS ((textW x36) ++ ([10])))]) (Lc := [c29]) (L := [ch65, [(b53, Obj.cells #[.int .i64 x36.Kind, .int .i64 x36.Role, .int .i64 x36.K, .int .i64 x36.Power, .int .i64 x36.Node.Role, .int .i64 x36.Node.N, .slice a49 x36.Data.length n50, .slice a51 x36.Keeps.length n52] 94 (0, 0))]]) (by kernel_rfl) s104 (writeS _ _ _ s104.sub hG b20 out _ o30 ((textW x36) ++ ([10])) (by ((try dsimp only) <;> ((have h7 := textW_len (hst x36 (List.mem_of_getElem? hx37)); (simp only [List.length_append, List.length_cons, List.length_nil]; omega))))) (St.part (Lc := [c29]) (L := [ch65, [(b53, Obj.cells #[.int .i64 x36.Kind, .int .i64 x36.Role, .int .i64 x36.K, .int .i64 x36.Power, .int .i64 x36.Node.Role, .int .i64 x36.Node.N, .slice a49 x36.Data.length n50, .slice a51 x36.Keeps.length n52] 94 (0, 0))]]) s104)) (fun _ _ _ => trivial) ?_
       rintro _ g109 _ h105 hle110 s106 ⟨c107, rfl, o108, hgg, rfl⟩; subst g109; clear hle110
       refine Op.gt 13 ?_
       refine At.rg 2 ?_
       refine Op.v64 43 (i + 1) (by omega) (by omega) ?_
       refine Op.pg 3 [(13, .int .i64 (i + 1))] ?_
       refine At.kp [(4, .pointer (some ⟨b20, 0, none⟩)), (11, .slice (some ⟨b38, o39, none⟩) list.length n_list), (12, .int .i64 (list.length : Int)), (13, .int .i64 (i + 1))] ?_
       have s111 := ((s106.front 0 rfl).front 2 rfl).front 2 rfl
       have s112 := s111.drop.drop
       exact ih3 _ (gle.trans hleg33 (by repeat (first | assumption | apply gle.trans))) (out ++ ((textW x36) ++ ([10]))) (i + 1) _ _ (by omega) (by omega) (by omega) (by (have h7 := textW_len (hst x36 (List.mem_of_getElem? hx37)); (simp only [List.length_append, List.length_cons, List.length_nil]; omega))) (by exact shI_step hS h0 hx37 (okS_y1 (by assumption) hx80 (by assumption) (decide_eq_true (by assumption)))) o108 s112
   ·replace c35 := of_decide_eq_false c35
    refine At.rg 3 ?_
    refine Op.bldString (dst := 44) (b := b20) (x := out) rfl (by kernel_rfl) o30 s31 hg rfl ?_
    intro h113 s114
    refine Op.pg 15 [(2, .string (mkS out)), (3, .int .i64 0)] ?_
    refine At.rt (.tuple #[.string (mkS out), .int .i64 0]) ?_
    refine hR _ _ _ _ s114 ⟨?_, rfl, rfl⟩
    exact eqT2 (eqS (by exact (shI_end hS (by assumption)).1)) (eqI (by exact (shI_end hS (by assumption)).2))
 refine At.kp [(4, .pointer (some ⟨b20, 0, none⟩)), (11, .slice a_list list.length n_list), (12, .int .i64 (list.length : Int)), (13, .int .i64 0)] ?_
 exact loop3 _ _ (gle.refl _) ([] : List UInt8) 0 _ _ (Nat.lt_succ_self _) (by omega) (by omega) (by exact Int.le_refl _) (by exact shI_0 _) o27 s28
theorem tellS (B : World) (h : Heap) (g : GH) (hg : Sub g h) (hG : Glob g) (e : Event) (v_e_4 : Value) (h_e_4 : SlR g 5 kU8 v_e_4 e.Op) (v_e_5 : Value) (h_e_5 : SlR g 5 kU8 v_e_5 e.Answer) (hP : Pow10 g) (he : evOk e) :
  Spec Tryz.prog B 22 #[.agg #[.int .i64 e.Client, .int .i64 e.Stamp, .int .i64 e.Asked, .int .i64 e.Answered, v_e_4, v_e_5]] h g [] (fun rv g' L' => rv = .string (mkS (tellW e)) ∧ g' = g ∧ L' = []) := by
 obtain ⟨a_e_4, n_e_4, rfl⟩ := h_e_4.form
 obtain ⟨a_e_5, n_e_5, rfl⟩ := h_e_5.form
 refine Spec.at' Tryz.func22 ?_
 intro R hR
 have s0 := St.init hg
 refine At.rg 2 ?_
 refine Op.box (T := 31) (x := (.tmp 0)) (d := 1) (cs := #[.int .i64 e.Client, .int .i64 e.Stamp, .int .i64 e.Asked, .int .i64 e.Answered, .slice a_e_4 e.Op.length n_e_4, .slice a_e_5 e.Answer.length n_e_5]) (by kernel_rfl) (by kernel_rfl) s0 ?_
 intro b20 h21 s22
 refine Op.pg 1 [] ?_
 refine At.go 2 1 [(3, .slice none 0 0)] ?_
 refine At.rp 10 1 [(6, .pointer (some ⟨b20, 0, none⟩))] ?_
 refine Op.ld (n := 1) 3 (.tmp 6) 7 0 (.int .i64 e.Client) (s22.chunk 0 rfl) ?_
 refine Op.px 1 [(8, .pointer (some ⟨b20, 1, none⟩))] ?_
 refine Op.ld (n := 1) 3 (.tmp 8) 9 1 (.int .i64 e.Stamp) (s22.chunk 0 rfl) ?_
 refine Op.px 1 [(10, .pointer (some ⟨b20, 2, none⟩))] ?_
 refine Op.ld (n := 1) 3 (.tmp 10) 11 2 (.int .i64 e.Asked) (s22.chunk 0 rfl) ?_
 refine Op.px 1 [(12, .pointer (some ⟨b20, 3, none⟩))] ?_
 refine Op.ld (n := 1) 3 (.tmp 12) 13 3 (.int .i64 e.Answered) (s22.chunk 0 rfl) ?_
 refine Op.pg 3 [(14, .agg #[.int .i64 e.Client, .int .i64 e.Stamp, .int .i64 e.Asked, .int .i64 e.Answered]), (15, .int .i64 0)] ?_
 refine At.go 4 1 [(16, .bool true)] ?_
 refine At.ifT 16 5 ?_
 refine At.go 6 2 [(5, .int .i64 e.Client)] ?_
 refine At.rp 6 2 [(18, .slice none 0 0), (19, .int .i64 e.Client)] ?_
 refine Op.c1 20 (itoa_spec _ _ _ s22.sub hG e.Client hP (by ((try dsimp only) <;> ((unfold evOk at he; omega)))) (by ((try dsimp only) <;> ((unfold evOk at he; omega)))) ) s22 ?_
 intro h23 s24
 refine Op.lit (T := 54) (len := 1) (parts := #[(0, (.tmp 20))]) (dst := 21) (E := 9) (ps := [(0, .string (mkS (Lib.itoa e.Client)))]) (cs := #[.string (mkS (Lib.itoa e.Client))]) (by kernel_rfl) (by kernel_rfl) (by kernel_rfl) s24 ?_
 intro b27 h28 s29
 have s30 := s29.nl
 have R31 := Row.nil 9 kStr g
 refine Op.append (x := (.tmp 18)) (y := (.tmp 21)) (t := 54) (t' := 54) (dst := 22) (E := 9) (by_ := 16) (d := kStr) (by kernel_rfl) (by kernel_rfl) (by kernel_rfl) (by kernel_rfl) rfl R31 s30 0 rfl (Src.lit (m := 1) (sz := 1) (s30.chunk 1 rfl) (news := [.string (mkS (Lib.itoa e.Client))]) rfl rfl (by simp [Value.oneCell']) _) (ys := [Lib.itoa e.Client]) (⟨_, _, rfl, rfl, Reads.nil⟩) rfl (by (simp only [List.length_append, List.length_cons, List.length_nil]; omega)) (fun _ _ _ => trivial) ?_
 intro v32 ch33 h34 R35 s36 nn37
 obtain ⟨a38, n39, rfl⟩ := R35.form
 have s40 := (s36.front 1 rfl).drop
 refine Op.pg 7 [(3, .slice a38 ((([] : List (List UInt8)) ++ ([Lib.itoa e.Client])).length) n39)] ?_
 refine At.go 3 2 [(15, .int .i64 1)] ?_
 refine At.go 4 1 [(16, .bool true)] ?_
 refine At.ifT 16 5 ?_
 refine At.go 6 2 [(5, .int .i64 e.Stamp)] ?_
 refine At.rp 6 2 [(18, .slice a38 ((([] : List (List UInt8)) ++ ([Lib.itoa e.Client])).length) n39), (19, .int .i64 e.Stamp)] ?_
 refine Op.c1 20 (itoa_spec _ _ _ s40.sub hG e.Stamp hP (by ((try dsimp only) <;> ((unfold evOk at he; omega)))) (by ((try dsimp only) <;> ((unfold evOk at he; omega)))) ) s40 ?_
 intro h41 s42
 refine Op.lit (T := 54) (len := 1) (parts := #[(0, (.tmp 20))]) (dst := 21) (E := 9) (ps := [(0, .string (mkS (Lib.itoa e.Stamp)))]) (cs := #[.string (mkS (Lib.itoa e.Stamp))]) (by kernel_rfl) (by kernel_rfl) (by kernel_rfl) s42 ?_
 intro b45 h46 s47
 refine Op.append (x := (.tmp 18)) (y := (.tmp 21)) (t := 54) (t' := 54) (dst := 22) (E := 9) (by_ := 16) (d := kStr) (by kernel_rfl) (by kernel_rfl) (by kernel_rfl) (by kernel_rfl) rfl R35 s47 1 rfl (Src.lit (m := 1) (sz := 1) (s47.chunk 0 rfl) (news := [.string (mkS (Lib.itoa e.Stamp))]) rfl rfl (by simp [Value.oneCell']) _) (ys := [Lib.itoa e.Stamp]) (⟨_, _, rfl, rfl, Reads.nil⟩) rfl (by (simp only [List.length_append, List.length_cons, List.length_nil]; omega)) (fun _ _ _ => trivial) ?_
 intro v48 ch49 h50 R51 s52 nn53
 obtain ⟨a54, n55, rfl⟩ := R51.form
 have s56 := (s52.front 0 rfl).drop
 refine Op.pg 7 [(3, .slice a54 (((([] : List (List UInt8)) ++ ([Lib.itoa e.Client])) ++ ([Lib.itoa e.Stamp])).length) n55)] ?_
 refine At.go 3 2 [(15, .int .i64 2)] ?_
 refine At.go 4 1 [(16, .bool true)] ?_
 refine At.ifT 16 5 ?_
 refine At.go 6 2 [(5, .int .i64 e.Asked)] ?_
 refine At.rp 6 2 [(18, .slice a54 (((([] : List (List UInt8)) ++ ([Lib.itoa e.Client])) ++ ([Lib.itoa e.Stamp])).length) n55), (19, .int .i64 e.Asked)] ?_
 refine Op.c1 20 (itoa_spec _ _ _ s56.sub hG e.Asked hP (by ((try dsimp only) <;> ((unfold evOk at he; omega)))) (by ((try dsimp only) <;> ((unfold evOk at he; omega)))) ) s56 ?_
 intro h57 s58
 refine Op.lit (T := 54) (len := 1) (parts := #[(0, (.tmp 20))]) (dst := 21) (E := 9) (ps := [(0, .string (mkS (Lib.itoa e.Asked)))]) (cs := #[.string (mkS (Lib.itoa e.Asked))]) (by kernel_rfl) (by kernel_rfl) (by kernel_rfl) s58 ?_
 intro b61 h62 s63
 refine Op.append (x := (.tmp 18)) (y := (.tmp 21)) (t := 54) (t' := 54) (dst := 22) (E := 9) (by_ := 16) (d := kStr) (by kernel_rfl) (by kernel_rfl) (by kernel_rfl) (by kernel_rfl) rfl R51 s63 1 rfl (Src.lit (m := 1) (sz := 1) (s63.chunk 0 rfl) (news := [.string (mkS (Lib.itoa e.Asked))]) rfl rfl (by simp [Value.oneCell']) _) (ys := [Lib.itoa e.Asked]) (⟨_, _, rfl, rfl, Reads.nil⟩) rfl (by (simp only [List.length_append, List.length_cons, List.length_nil]; omega)) (fun _ _ _ => trivial) ?_
 intro v64 ch65 h66 R67 s68 nn69
 obtain ⟨a70, n71, rfl⟩ := R67.form
 have s72 := (s68.front 0 rfl).drop
 refine Op.pg 7 [(3, .slice a70 ((((([] : List (List UInt8)) ++ ([Lib.itoa e.Client])) ++ ([Lib.itoa e.Stamp])) ++ ([Lib.itoa e.Asked])).length) n71)] ?_
 refine At.go 3 2 [(15, .int .i64 3)] ?_
 refine At.go 4 1 [(16, .bool true)] ?_
 refine At.ifT 16 5 ?_
 refine At.go 6 2 [(5, .int .i64 e.Answered)] ?_
 refine At.rp 6 2 [(18, .slice a70 ((((([] : List (List UInt8)) ++ ([Lib.itoa e.Client])) ++ ([Lib.itoa e.Stamp])) ++ ([Lib.itoa e.Asked])).length) n71), (19, .int .i64 e.Answered)] ?_
 refine Op.c1 20 (itoa_spec _ _ _ s72.sub hG e.Answered hP (by ((try dsimp only) <;> ((unfold evOk at he; omega)))) (by ((try dsimp only) <;> ((unfold evOk at he; omega)))) ) s72 ?_
 intro h73 s74
 refine Op.lit (T := 54) (len := 1) (parts := #[(0, (.tmp 20))]) (dst := 21) (E := 9) (ps := [(0, .string (mkS (Lib.itoa e.Answered)))]) (cs := #[.string (mkS (Lib.itoa e.Answered))]) (by kernel_rfl) (by kernel_rfl) (by kernel_rfl) s74 ?_
 intro b77 h78 s79
 refine Op.append (x := (.tmp 18)) (y := (.tmp 21)) (t := 54) (t' := 54) (dst := 22) (E := 9) (by_ := 16) (d := kStr) (by kernel_rfl) (by kernel_rfl) (by kernel_rfl) (by kernel_rfl) rfl R67 s79 1 rfl (Src.lit (m := 1) (sz := 1) (s79.chunk 0 rfl) (news := [.string (mkS (Lib.itoa e.Answered))]) rfl rfl (by simp [Value.oneCell']) _) (ys := [Lib.itoa e.Answered]) (⟨_, _, rfl, rfl, Reads.nil⟩) rfl (by (simp only [List.length_append, List.length_cons, List.length_nil]; omega)) (fun _ _ _ => trivial) ?_
 intro v80 ch81 h82 R83 s84 nn85
 obtain ⟨a86, n87, rfl⟩ := R83.form
 have s88 := (s84.front 0 rfl).drop
 refine Op.pg 7 [(3, .slice a86 (((((([] : List (List UInt8)) ++ ([Lib.itoa e.Client])) ++ ([Lib.itoa e.Stamp])) ++ ([Lib.itoa e.Asked])) ++ ([Lib.itoa e.Answered])).length) n87)] ?_
 refine At.go 3 2 [(15, .int .i64 4)] ?_
 refine At.go 4 1 [(16, .bool false)] ?_
 refine At.ifF 16 8 ?_
 refine At.draw (by kernel_rfl) (fun _ => False) [(0, true), (1, true), (4, true), (2, true), (5, true), (3, false), (6, false), (7, false), (1008, false), (8, false), (9, false), (10, true)] (by kernel_rfl) ?_
 refine Op.px 3 [(24, .slice a86 (((((([] : List (List UInt8)) ++ ([Lib.itoa e.Client])) ++ ([Lib.itoa e.Stamp])) ++ ([Lib.itoa e.Asked])) ++ ([Lib.itoa e.Answered])).length) n87), (25, .pointer (some ⟨b20, 4, none⟩)), (28, .pointer (some ⟨b20, 5, none⟩))] ?_
 refine Op.loadF (T := 29) (x := (.tmp 25)) (o := 4) (d := 26) (n := 1) (v := .slice a_e_4 e.Op.length n_e_4) (by kernel_rfl) (by kernel_rfl) (by kernel_rfl) (fun h => h) (s88.chunk 1 rfl) (by kernel_rfl) ?_
 refine Op.loadF (T := 29) (x := (.tmp 28)) (o := 5) (d := 29) (n := 1) (v := .slice a_e_5 e.Answer.length n_e_5) (by kernel_rfl) (by kernel_rfl) (by kernel_rfl) (fun h => h) (s88.chunk 1 rfl) (by kernel_rfl) ?_
 refine Op.c1 27 (hexScr _ _ _ s88.sub hG _ _ h_e_4 (by ((try dsimp only) <;> ((unfold evOk at he; omega)))) ) s88 ?_
 intro h89 s90
 refine Op.c1 30 (hexScr _ _ _ s90.sub hG _ _ h_e_5 (by ((try dsimp only) <;> ((unfold evOk at he; omega)))) ) s90 ?_
 intro h93 s94
 refine Op.lit (T := 54) (len := 2) (parts := #[(0, (.tmp 27)), (1, (.tmp 30))]) (dst := 31) (E := 9) (ps := [(0, .string (mkS (hexW e.Op))), (1, .string (mkS (hexW e.Answer)))]) (cs := #[.string (mkS (hexW e.Op)), .string (mkS (hexW e.Answer))]) (by kernel_rfl) (by kernel_rfl) (by kernel_rfl) s94 ?_
 intro b97 h98 s99
 refine Op.barrier (by kernel_rfl) ?_
 refine Op.append (x := (.tmp 24)) (y := (.tmp 31)) (t := 54) (t' := 54) (dst := 32) (E := 9) (by_ := 16) (d := kStr) (by kernel_rfl) (by kernel_rfl) (by kernel_rfl) (by kernel_rfl) rfl R83 s99 1 rfl (Src.lit (m := 2) (sz := 1) (s99.chunk 0 rfl) (news := [.string (mkS (hexW e.Op)), .string (mkS (hexW e.Answer))]) rfl rfl (by simp [Value.oneCell']) _) (ys := [hexW e.Op, hexW e.Answer]) (⟨_, _, rfl, rfl, ⟨_, _, rfl, rfl, Reads.nil⟩⟩) rfl (by (simp only [List.length_append, List.length_cons, List.length_nil]; omega)) (fun _ _ _ => trivial) ?_
 intro v100 ch101 h102 R103 s104 nn105
 obtain ⟨a106, n107, rfl⟩ := R103.form
 have s108 := (s104.front 0 rfl).drop
 have hl109 := s108.frzle
 have hz110 := R103.frz s108
 refine Op.lend (dst := some 33) (f := 68) (args := #[.slice a106 ((((((([] : List (List UInt8)) ++ ([Lib.itoa e.Client])) ++ ([Lib.itoa e.Stamp])) ++ ([Lib.itoa e.Asked])) ++ ([Lib.itoa e.Answered])) ++ ([hexW e.Op, hexW e.Answer])).length) n107, .string (mkS ([32]))]) (cf := (ch101 : Chunk)) (Lc := []) (L := [[(b20, Obj.cells #[.int .i64 e.Client, .int .i64 e.Stamp, .int .i64 e.Asked, .int .i64 e.Answered, .slice a_e_4 e.Op.length n_e_4, .slice a_e_5 e.Answer.length n_e_5] 31 (0, 0))]]) (by kernel_rfl) s108 (join_spec _ _ _ s108.frzsub (hG.mono hl109) _ _ hz110 ([32]) (by ((try dsimp only) <;> ((simp only [List.length_append, List.length_cons, List.length_nil]; omega)))) (by ((try dsimp only) <;> ((refine Nat.le_trans (Nat.le_of_eq (congrArg List.length (tell_join e))) ?_; have := tellW_len he; omega)))) ) (fun _ _ _ hp => by obtain ⟨_, hgg, _⟩ := hp; exact hgg) (fun _ _ h => absurd h (ids_nil _)) ?_
 rintro _ _ h111 s112 ⟨rfl, hgg, rfl⟩; clear hgg
 refine Op.pg 9 [(2, .string (mkS (Lib.join (((((([] : List (List UInt8)) ++ ([Lib.itoa e.Client])) ++ ([Lib.itoa e.Stamp])) ++ ([Lib.itoa e.Asked])) ++ ([Lib.itoa e.Answered])) ++ ([hexW e.Op, hexW e.Answer])) ([32]))))] ?_
 refine At.rt (.string (mkS (Lib.join (((((([] : List (List UInt8)) ++ ([Lib.itoa e.Client])) ++ ([Lib.itoa e.Stamp])) ++ ([Lib.itoa e.Asked])) ++ ([Lib.itoa e.Answered])) ++ ([hexW e.Op, hexW e.Answer])) ([32])))) ?_
 have s115 := s112.drop.drop
 refine hR _ _ _ _ s115 ⟨?_, rfl, rfl⟩
 exact (eqS (by exact tell_join e))
end Go.Proofs.YtmjebehhpojihaaGreatDoor.Sw
namespace Go.Proofs.YtmjebehhpojihaaGreatDoor.Sw
set_option linter.unusedVariables false
set_option linter.unusedSimpArgs false
set_option linter.deprecated false
open Go
def gsN : List Step → Int → Int
  | [], n => n
  | st :: l, n => if n ≤ 100000 then gsN l (n + (1 + (st.Data.length : Int) + (st.Keeps.length : Int))) else n
def grS (list : List Step) : Bool := decide (gsN list 0 > 10000)
section
variable {list : List Step} {n i : Int} {st : Step}
theorem gs_step (H : gsN list 0 = gsN (list.drop i.toNat) n) (h0 : 0 ≤ i) (hx : list[i.toNat]? = some st) (hn : n ≤ 100000) : gsN list 0 = gsN (list.drop (i + 1).toNat) (n + (1 + (st.Data.length : Int) + (st.Keeps.length : Int))) := by
  rw [H, drop_atI hx h0, gsN, if_pos hn]
theorem gs_end1 (H : gsN list 0 = gsN (list.drop i.toNat) n) (h : ¬ i < (list.length : Int)) : gsN list 0 = n := by
  rw [H, List.drop_of_length_le (by omega), gsN]
theorem gs_end2 (H : gsN list 0 = gsN (list.drop i.toNat) n) (h : ¬ n ≤ 100000) : gsN list 0 = n := by
  rw [H]
  cases list.drop i.toNat with
  | nil => rfl
  | cons a l => rw [gsN, if_neg h]
theorem gs_small : ∀ (l : List Step) (n : Int), gsN l n ≤ 10000 → n + l.length ≤ 10000 ∧ ∀ st ∈ l, n + st.Data.length ≤ 10000 ∧ n + st.Keeps.length ≤ 10000
  | [], n, h => ⟨by simpa [gsN] using h, fun st hst => by cases hst⟩
  | st :: l, n, h => by
    rw [gsN] at h
    split at h
    · obtain ⟨h1, h2⟩ := gs_small l _ h
      have hd : (0 : Int) ≤ (st.Data.length : Int) := Int.natCast_nonneg _
      have hk : (0 : Int) ≤ (st.Keeps.length : Int) := Int.natCast_nonneg _
      have hl : (0 : Int) ≤ (l.length : Int) := Int.natCast_nonneg _
      refine ⟨by rw [List.length_cons]; omega, fun x hx => ?_⟩
      rcases List.mem_cons.1 hx with rfl | hx
      · omega
      · have := h2 x hx; omega
    · omega
def stI (st : Step) : Prop := (-9223372036854775808 ≤ st.Kind ∧ st.Kind ≤ 9223372036854775807) ∧ (-9223372036854775808 ≤ st.Role ∧ st.Role ≤ 9223372036854775807) ∧ (-9223372036854775808 ≤ st.K ∧ st.K ≤ 9223372036854775807) ∧
  (-9223372036854775808 ≤ st.Power ∧ st.Power ≤ 9223372036854775807) ∧ (-9223372036854775808 ≤ st.Node.Role ∧ st.Node.Role ≤ 9223372036854775807) ∧ (-9223372036854775808 ≤ st.Node.N ∧ st.Node.N ≤ 9223372036854775807) ∧
  st.Data.length ≤ 2000000 ∧ st.Keeps.length ≤ 2000000 ∧ ∀ k ∈ st.Keeps, -9223372036854775808 ≤ k ∧ k ≤ 9223372036854775807
theorem small_ok (hg : grS list = false) (hI : ∀ st ∈ list, stI st) : list.length ≤ 10000 ∧ ∀ st ∈ list, stOk st ∧ st.Data.length ≤ 10000 ∧ st.Keeps.length ≤ 10000 := by
  have h := of_decide_eq_false hg
  obtain ⟨h1, h2⟩ := gs_small list 0 (by omega)
  refine ⟨by omega, fun st hst => ?_⟩
  obtain ⟨a1, a2, a3, a4, a5, a6, a7, a8, a9⟩ := hI st hst
  have := h2 st hst
  exact ⟨⟨a1, a2, a3, a4, a5, a6, by omega, by omega, a9⟩, by omega, by omega⟩
end
theorem parse_stOk {s : List UInt8} (h : s.length ≤ 90000) : ∀ st ∈ (parseW s).1, stOk st := fun st hst => ((parse_b s).1 st hst).ok (by omega) (by omega)
def alS1 : Step := ⟨1, 0, 0, 0, ⟨4, 0⟩, [10, 255], []⟩
def alS2 : Step := ⟨7, 2, -1, 0, ⟨1, 2⟩, [0], [1, 3]⟩
theorem al_p : parseW [97, 115, 107, 32, 48, 32, 48, 97, 102, 102, 10, 10, 35, 32, 120, 10, 115, 97, 121, 32, 107, 101, 101, 112, 101, 114, 32, 50, 32, 111, 114, 100, 101, 114, 101, 114, 32, 45, 49, 32, 48, 48, 32, 49, 32, 51] = ([alS1, alS2], 0, 0) := by decide +kernel
theorem al_x {x : Step} (h : (parseW [97, 115, 107, 32, 48, 32, 48, 97, 102, 102, 10, 10, 35, 32, 120, 10, 115, 97, 121, 32, 107, 101, 101, 112, 101, 114, 32, 50, 32, 111, 114, 100, 101, 114, 101, 114, 32, 45, 49, 32, 48, 48, 32, 49, 32, 51]).1[(1 : Int).toNat]? = some x) : x = alS2 := by rw [al_p] at h; exact (Option.some.inj h).symm
theorem al_ok : ∀ st ∈ (parseW [97, 115, 107, 32, 48, 32, 48, 97, 102, 102, 10, 10, 35, 32, 120, 10, 115, 97, 121, 32, 107, 101, 101, 112, 101, 114, 32, 50, 32, 111, 114, 100, 101, 114, 101, 114, 32, 45, 49, 32, 48, 48, 32, 49, 32, 51]).1, stOk st := parse_stOk (by decide)
theorem dig1 {n : Nat} (h : n < 10) : Lib.itoa (n : Int) = [UInt8.ofNat (48 + n)] := by unfold Lib.itoa; rw [if_neg (by omega)]; exact Lib.decDigits_one h
theorem i0 : Lib.itoa 0 = [48] := dig1 (n := 0) (by decide)
theorem i1 : Lib.itoa 1 = [49] := dig1 (n := 1) (by decide)
theorem i2 : Lib.itoa 2 = [50] := dig1 (n := 2) (by decide)
theorem i3 : Lib.itoa 3 = [51] := dig1 (n := 3) (by decide)
theorem im1 : Lib.itoa (-1) = [45, 49] := by unfold Lib.itoa; rw [if_pos (by decide)]; exact congrArg _ (Lib.decDigits_one (i := 1) (by decide))
theorem al_t : tellW ⟨1, 2, 3, -1, [10], []⟩ = [49, 32, 50, 32, 51, 32, 45, 49, 32, 48, 97, 32, 46] := by
  unfold tellW
  show ((((((((((Lib.itoa 1 ++ [32]) ++ Lib.itoa 2) ++ [32]) ++ Lib.itoa 3) ++ [32]) ++ Lib.itoa (-1)) ++ [32]) ++ hexW [10]) ++ [32]) ++ hexW []) = _
  rw [i1, i2, i3, im1]
  decide
theorem al_e : evOk ⟨1, 2, 3, -1, [10], []⟩ := ⟨by decide, by decide, by decide, by decide, by decide, by decide⟩
section
variable {a b : List UInt8} {n i : Int} {c : UInt8}
end
theorem ev_one {e x : Event} (h : ([e] : List Event)[(0 : Int).toNat]? = some x) : x = e := (Option.some.inj h).symm
def evI (e : Event) : Prop := (-9223372036854775808 ≤ e.Client ∧ e.Client ≤ 9223372036854775807) ∧ (-9223372036854775808 ≤ e.Stamp ∧ e.Stamp ≤ 9223372036854775807) ∧ (-9223372036854775808 ≤ e.Asked ∧ e.Asked ≤ 9223372036854775807) ∧
  (-9223372036854775808 ≤ e.Answered ∧ e.Answered ≤ 9223372036854775807) ∧ e.Op.length ≤ 2000000 ∧ e.Answer.length ≤ 2000000
theorem ev_ok {e : Event} (h : evI e) (hl : e.Op.length ≤ 5000 ∧ e.Answer.length ≤ 5000) : evOk e := ⟨h.1, h.2.1, h.2.2.1, h.2.2.2.1, by omega, by omega⟩
end Go.Proofs.YtmjebehhpojihaaGreatDoor.Sw
namespace Go.Proofs.YtmjebehhpojihaaGreatDoor.Sw
open Go
set_option maxRecDepth 100000
set_option linter.unusedVariables false
set_option linter.unusedSimpArgs false
set_option linter.deprecated false
theorem great24 (B : World) (h : Heap) (g : GH) (hg : Sub g h) (hG : Glob g) (v_list : Value) (list : List Step) (h_list : SlR g 94 kStep v_list list) (h1 : list.length ≤ 2000000) (hb : ∀ o ∈ list, o.Data.length ≤ 2000000 ∧ o.Keeps.length ≤ 2000000) :
  Spec Tryz.prog B 18 #[v_list] h g [] (fun rv g' L' => rv = .bool (grS list) ∧ g' = g ∧ L' = []) := by
 obtain ⟨a_list, n_list, rfl⟩ := h_list.form
 refine Spec.at' Tryz.func18 ?_
 intro R hR
 have s0 := St.init hg
 refine At.go 1 1 [] ?_
 refine At.go 2 1 [(3, .int .i64 0)] ?_
 refine At.go 3 1 [(4, .int .i64 0)] ?_
 have loop3 : ∀ (m : Nat) (n : Int) (i : Int) (h21 : Heap) (hm : list.length - i.toNat < m) (h0 : 0 ≤ i) (h3 : i ≤ list.length) (hn0 : 0 ≤ n) (hn1 : n ≤ 4100002) (hg2 : gsN list 0 = gsN (list.drop i.toNat) n)     (s20 : St h g (ids []) g [] h21), At (fctx Tryz.prog B 18 Tryz.f18 R) [] 3 [(0, .slice a_list list.length n_list), (3, .int .i64 n), (4, .int .i64 i)] h21 := by
  intro m; induction m with
  | zero => intros; omega
  | succ m ih3 =>
   intro n i h21 hm h0 h3 hn0 hn1 hg2 s20
   refine At.rp 8 5 [(9, .bool (decide (i < (list.length : Int))))] ?_
   refine Op.wb (decide (i < (list.length : Int))) 9 (fun c22 => ?_) (fun c23 => ?_)
   ·replace c22 := of_decide_eq_true c22
    refine Op.pg 4 [(12, .bool (decide (n ≤ (100000 : Int))))] ?_
    refine At.if' (decide (n ≤ (100000 : Int))) 12 5 7 (fun c24 => ?_) (fun c25 => ?_)
    ·replace c24 := of_decide_eq_true c24
     refine At.draw (by kernel_rfl) (fun _ => False) [(0, true), (1, true), (2, true), (3, true), (4, true), (8, true), (9, true), (10, true), (11, true), (5, true), (6, true), (7, true), (12, false), (13, true), (14, true), (15, true), (16, true)] (by kernel_rfl) ?_
     refine Op.px 3 [(15, .int .i64 n), (16, .slice a_list list.length n_list), (17, .int .i64 i)] ?_
     obtain ⟨x26, hx27⟩ := getAt (l := list) (i := i) (by omega)
     obtain ⟨b28, o29, cu30, fz31, ha32, hb33, hk34⟩ := SlR.at_ h_list _ hx27
     cases ha32
     refine Op.ix 23 94 8 96 list.length n_list (.tmp 16) (.tmp 17) 18 b28 o29 i (by omega) (by omega) ?_
     obtain ⟨v35, v37, hv36, hv38, hk34⟩ := hk34
     obtain ⟨a39, n40, rfl⟩ := hv36.form
     obtain ⟨a41, n42, rfl⟩ := hv38.form
     refine Op.px 3 [(19, .pointer (some ⟨b28, o29 + (i : Int).toNat * 8 + 6, none⟩)), (23, .slice (some ⟨b28, o29, none⟩) list.length n_list), (24, .int .i64 i)] ?_
     obtain ⟨b45, o46, cu47, fz48, ha49, hb50, hk51⟩ := SlR.at_ h_list _ hx27
     cases ha49
     refine Op.ix 23 94 8 96 list.length n_list (.tmp 23) (.tmp 24) 25 b28 o29 i (by omega) (by omega) ?_
     obtain ⟨v52, v54, hv53, hv55, hk51⟩ := hk51
     obtain ⟨a56, n57, rfl⟩ := hv53.form
     obtain ⟨a58, n59, rfl⟩ := hv55.form
     refine Op.px 1 [(26, .pointer (some ⟨b28, o29 + (i : Int).toNat * 8 + 7, none⟩))] ?_
     refine Op.loadF (T := 29) (x := (.tmp 19)) (o := o29 + (i : Int).toNat * 8 + 6) (d := 20) (n := 1) (v := .slice a39 x26.Data.length n40) (by kernel_rfl) (by kernel_rfl) (by kernel_rfl) (fun h => h) (s20.sub _ _ hb33) (cut_get hk34 6 rfl) ?_
     refine Op.px 1 [(21, .int .i64 (x26.Data.length : Int))] ?_
     refine Op.v64 22 ((1 : Int) + (x26.Data.length : Int)) (by omega) (by (have hbb := hb _ (List.mem_of_getElem? hx27); omega)) ?_
     refine Op.ld (n := 1) 44 (.tmp 26) 27 (o29 + (i : Int).toNat * 8 + 7) (.slice a58 x26.Keeps.length n59) (s20.sub _ _ hb50) ?_ (hv := (cut_get hk51 7 rfl))
     refine Op.px 1 [(28, .int .i64 (x26.Keeps.length : Int))] ?_
     refine Op.v64 29 (((1 : Int) + (x26.Data.length : Int)) + (x26.Keeps.length : Int)) (by omega) (by (have hbb := hb _ (List.mem_of_getElem? hx27); omega)) ?_
     refine Op.v64 30 (n + (((1 : Int) + (x26.Data.length : Int)) + (x26.Keeps.length : Int))) (by omega) (by (have hbb := hb _ (List.mem_of_getElem? hx27); omega)) ?_
     refine Op.pg 6 [(3, .int .i64 (n + (((1 : Int) + (x26.Data.length : Int)) + (x26.Keeps.length : Int))))] ?_
     refine At.rp 3 1 [(13, .int .i64 i)] ?_
     refine Op.v64 14 (i + 1) (by omega) (by omega) ?_
     refine Op.pg 3 [(4, .int .i64 (i + 1))] ?_
     refine At.kp [(0, .slice (some ⟨b28, o29, none⟩) list.length n_list), (3, .int .i64 (n + (((1 : Int) + (x26.Data.length : Int)) + (x26.Keeps.length : Int)))), (4, .int .i64 (i + 1))] ?_
     exact ih3  (n + (((1 : Int) + (x26.Data.length : Int)) + (x26.Keeps.length : Int))) (i + 1) _ (by omega) (by omega) (by omega) (by omega) (by (have hbb := hb _ (List.mem_of_getElem? hx27); omega)) (by exact gs_step hg2 h0 hx27 (by assumption))  s20
    ·replace c25 := of_decide_eq_false c25
     refine At.go 8 3 [(2, .bool (decide (n > (10000 : Int))))] ?_
     refine At.rt (.bool (decide (n > (10000 : Int)))) ?_
     refine hR _ _ _ _ s20 ⟨?_, rfl, rfl⟩
     exact (eqB (by (unfold grS; rw [gs_end2 hg2 (by assumption)])))
   ·replace c23 := of_decide_eq_false c23
    refine Op.pg 4 [(12, .bool false)] ?_
    refine At.ifF 12 7 ?_
    refine At.go 8 3 [(2, .bool (decide (n > (10000 : Int))))] ?_
    refine At.rt (.bool (decide (n > (10000 : Int)))) ?_
    refine hR _ _ _ _ s20 ⟨?_, rfl, rfl⟩
    exact (eqB (by (unfold grS; rw [gs_end1 hg2 (by assumption)])))
 refine At.kp [(0, .slice a_list list.length n_list), (3, .int .i64 0), (4, .int .i64 0)] ?_
 exact loop3 _  0 0 _ (Nat.lt_succ_self _) (by omega) (by omega) (by omega) (by omega) (by rfl)  s0
theorem copies24 (B : World) (h : Heap) (g : GH) (hg : Sub g h) (hG : Glob g) (v_list : Value) (list : List Step) (h_list : SlR g 94 kStep v_list list) (h1 : list.length ≤ 1000000) (hd : ∀ n ∈ list, n.Data.length ≤ 1000000000 ∧ n.Keeps.length ≤ 1000000000) :
  Spec Tryz.prog B 19 #[v_list] h g [] (fun rv g' L' => ∃ v0 k0, rv = v0 ∧ Row 94 kStep g' v0 list k0 ∧ L' = [k0]) := by
 obtain ⟨a_list, n_list, rfl⟩ := h_list.form
 refine Spec.at' Tryz.func19 ?_
 intro R hR
 have s0 := St.init hg
 refine At.go 1 1 [] ?_
 refine At.rg 2 ?_
 refine Op.lit (T := 23) (len := 0) (parts := #[]) (dst := 5) (E := 94) (ps := []) (cs := #[]) (by kernel_rfl) (by kernel_rfl) (by kernel_rfl) s0 ?_
 intro b20 h21 s22
 refine Op.pg 2 [(3, .slice (some ⟨b20, 0, none⟩) 0 0)] ?_
 refine At.go 3 1 [(4, .int .i64 0)] ?_
 have loop3 : ∀ (m : Nat) (g29 : GH) (hleg29 : gle g g29) (out : List Step) (i : Int) (a23 : Option Addr) (n24 : Nat) (ch25 : Chunk) (h28 : Heap) (hm : list.length - i.toNat < m) (h0 : 0 ≤ i) (h2 : i ≤ list.length) (ho : out = list.take i.toNat) (R26 : Row 94 kStep g29 (.slice a23 out.length n24) out ch25)    (s27 : St h g (ids []) g29 [ch25] h28), At (fctx Tryz.prog B 19 Tryz.f19 R) [] 3 [(0, .slice a_list list.length n_list), (3, .slice a23 out.length n24), (4, .int .i64 i)] h28 := by
  intro m; induction m with
  | zero => intros; omega
  | succ m ih3 =>
   intro g29 hleg29 out i a23 n24 ch25 h28 hm h0 h2 ho R26 s27
   replace hG := hG.mono hleg29
   replace h_list := h_list.mono hleg29
   refine At.go 4 4 [(9, .bool (decide (i < (list.length : Int))))] ?_
   refine At.if' (decide (i < (list.length : Int))) 9 5 7 (fun c30 => ?_) (fun c31 => ?_)
   ·replace c30 := of_decide_eq_true c30
    refine At.rp 9 3 [(12, .slice a23 out.length n24), (13, .slice a_list list.length n_list), (14, .int .i64 i)] ?_
    obtain ⟨x32, hx33⟩ := getAt (l := list) (i := i) (by omega)
    obtain ⟨b34, o35, cu36, fz37, ha38, hb39, hk40⟩ := SlR.at_ h_list _ hx33
    cases ha38
    refine Op.ix 23 94 8 96 list.length n_list (.tmp 13) (.tmp 14) 15 b34 o35 i (by omega) (by omega) ?_
    obtain ⟨v41, v43, hv42, hv44, hk40⟩ := hk40
    obtain ⟨a45, n46, rfl⟩ := hv42.form
    obtain ⟨a47, n48, rfl⟩ := hv44.form
    refine Op.la 94 (.tmp 15) 16 (o35 + (i : Int).toNat * 8) 8 [.int .i64 x32.Kind, .int .i64 x32.Role, .int .i64 x32.K, .int .i64 x32.Power, .int .i64 x32.Node.Role, .int .i64 x32.Node.N, .slice a45 x32.Data.length n46, .slice a47 x32.Keeps.length n48] (s27.sub _ _ hb39) ?_ (hv := (hk40))
    refine Op.c0 (some 17) (copyStep _ _ _ s27.sub hG x32 _ hv42 _ hv44 (by ((try dsimp only) <;> (exact (hd _ (List.mem_of_getElem? hx33)).1))) (by ((try dsimp only) <;> (exact (hd _ (List.mem_of_getElem? hx33)).2))) ) s27 ?_
    rintro _ g61 _ h49 hle62 s50 ⟨v51, ch52, v56, ch57, rfl, R53, R58, hgg, rfl⟩; subst g61; clear hle62
    obtain ⟨a54, n55, rfl⟩ := R53.form
    obtain ⟨a59, n60, rfl⟩ := R58.form
    obtain ⟨g63, s64, hle65, hf66⟩ := Row.freeze R53 (s50.front 0 rfl)
    replace hb39 := hle65 _ _ hb39
    replace R26 := R26.mono hle65
    replace R58 := R58.mono hle65
    replace hG := hG.mono hle65
    replace h_list := h_list.mono hle65
    replace hv42 := hv42.mono hle65
    replace hv44 := hv44.mono hle65
    obtain ⟨g67, s68, hle69, hf70⟩ := Row.freeze R58 (s64.front 0 rfl)
    replace hb39 := hle69 _ _ hb39
    replace R26 := R26.mono hle69
    replace hG := hG.mono hle69
    replace h_list := h_list.mono hle69
    replace hf66 := hf66.mono hle69
    replace hv42 := hv42.mono hle69
    replace hv44 := hv44.mono hle69
    refine Op.lit (T := 23) (len := 1) (parts := #[(0, (.tmp 17))]) (dst := 18) (E := 94) (ps := [(0, .agg #[.int .i64 x32.Kind, .int .i64 x32.Role, .int .i64 x32.K, .int .i64 x32.Power, .int .i64 x32.Node.Role, .int .i64 x32.Node.N, .slice a54 ((x32.Data).length) n55, .slice a59 ((x32.Keeps).length) n60])]) (cs := #[.int .i64 x32.Kind, .int .i64 x32.Role, .int .i64 x32.K, .int .i64 x32.Power, .int .i64 x32.Node.Role, .int .i64 x32.Node.N, .slice a54 ((x32.Data).length) n55, .slice a59 ((x32.Keeps).length) n60]) (by kernel_rfl) (by kernel_rfl) (by kernel_rfl) s68 ?_
    intro b71 h72 s73
    refine Op.append (x := (.tmp 12)) (y := (.tmp 18)) (t := 23) (t' := 23) (dst := 19) (E := 94) (by_ := 96) (d := kStep) (by kernel_rfl) (by kernel_rfl) (by kernel_rfl) (by kernel_rfl) rfl R26 s73 1 rfl (Src.lit (m := 1) (sz := 8) (s73.chunk 0 rfl) (news := [.int .i64 x32.Kind, .int .i64 x32.Role, .int .i64 x32.K, .int .i64 x32.Power, .int .i64 x32.Node.Role, .int .i64 x32.Node.N, .slice a54 ((x32.Data).length) n55, .slice a59 ((x32.Keeps).length) n60]) rfl rfl (by simp [Value.oneCell']) _) (ys := [x32]) (⟨_, _, rfl, ⟨_, _, hf66, hf70, rfl⟩, Reads.nil⟩) rfl (by (have hz := congrArg List.length ho; simp only [List.length_take, List.length_cons, List.length_nil] at *; omega)) (fun _ _ _ => trivial) ?_
    intro v74 ch75 h76 R77 s78 nn79
    obtain ⟨a80, n81, rfl⟩ := R77.form
    have s82 := (s78.front 0 rfl).drop
    refine Op.pg 6 [(3, .slice a80 ((out ++ ([x32])).length) n81)] ?_
    refine At.rp 3 1 [(10, .int .i64 i)] ?_
    refine Op.v64 11 (i + 1) (by omega) (by omega) ?_
    refine Op.pg 3 [(4, .int .i64 (i + 1))] ?_
    refine At.kp [(0, .slice (some ⟨b34, o35, none⟩) list.length n_list), (3, .slice a80 ((out ++ ([x32])).length) n81), (4, .int .i64 (i + 1))] ?_
    exact ih3 _ (gle.trans hleg29 (by repeat (first | assumption | apply gle.trans))) (out ++ ([x32])) (i + 1) _ _ _ _ (by omega) (by omega) (by omega) (by rw [toNat_succ h0, take_at hx33, ho]) R77 s82
   ·replace c31 := of_decide_eq_false c31
    refine At.go 8 2 [(2, .slice a23 out.length n24)] ?_
    refine At.rt (.slice a23 out.length n24) ?_
    refine hR _ _ _ _ s27 ⟨(.slice a23 out.length n24), ch25, ?_, ?_, rfl⟩
    ·exact rfl
    ·exact rowEq R26 (by rw [ho, List.take_of_length_le (by omega)])
 refine At.kp [(0, .slice a_list list.length n_list), (3, .slice (some ⟨b20, 0, none⟩) 0 0), (4, .int .i64 0)] ?_
 have R83 : Row 94 kStep g (.slice (some ⟨b20, 0, none⟩) 0 0) ([] : List Step) [(b20, Obj.cells #[] 94 (0, 0))] := Row.lit (by kernel_rfl) (by unfold maxLen; decide) (by kernel_rfl) Reads.nil
 exact loop3 _ _ (gle.refl _) ([] : List Step) 0 _ _ _ _ (Nat.lt_succ_self _) (by omega) (by omega) (by rfl) R83 s22
theorem alive24 (B : World) (h : Heap) (g : GH) (hg : Sub g h) (hG : Glob g)  (hP : Pow10 g) :
  Spec Tryz.prog B 14 #[] h g [] (fun rv g' L' => rv = .bool true ∧ L' = []) := by
 refine Spec.at' Tryz.func14 ?_
 intro R hR
 have s0 := St.init hg
 refine At.go 1 1 [] ?_
 refine At.rg 8 ?_
 refine Op.c0 (some 6) (parseS _ _ _ s0.sub hG ([97, 115, 107, 32, 48, 32, 48, 97, 102, 102, 10, 10, 35, 32, 120, 10, 115, 97, 121, 32, 107, 101, 101, 112, 101, 114, 32, 50, 32, 111, 114, 100, 101, 114, 101, 114, 32, 45, 49, 32, 48, 48, 32, 49, 32, 51]) (by ((try dsimp only) <;> (decide))) ) s0 ?_
 rintro _ g27 _ h20 hle28 s21 ⟨v22, ch23, rfl, R24, rfl⟩
 obtain ⟨a25, n26, rfl⟩ := R24.form
 replace hG := hG.mono hle28
 replace hP := hP.mono hle28
 refine Op.pg 2 [(1, .slice a25 (((parseW ([97, 115, 107, 32, 48, 32, 48, 97, 102, 102, 10, 10, 35, 32, 120, 10, 115, 97, 121, 32, 107, 101, 101, 112, 101, 114, 32, 50, 32, 111, 114, 100, 101, 114, 101, 114, 32, 45, 49, 32, 48, 48, 32, 49, 32, 51])).1).length) n26), (2, .int .i64 ((parseW ([97, 115, 107, 32, 48, 32, 48, 97, 102, 102, 10, 10, 35, 32, 120, 10, 115, 97, 121, 32, 107, 101, 101, 112, 101, 114, 32, 50, 32, 111, 114, 100, 101, 114, 101, 114, 32, 45, 49, 32, 48, 48, 32, 49, 32, 51])).2.1)), (3, .int .i64 ((parseW ([97, 115, 107, 32, 48, 32, 48, 97, 102, 102, 10, 10, 35, 32, 120, 10, 115, 97, 121, 32, 107, 101, 101, 112, 101, 114, 32, 50, 32, 111, 114, 100, 101, 114, 101, 114, 32, 45, 49, 32, 48, 48, 32, 49, 32, 51])).2.2))] ?_
 refine At.rp 33 3 [(12, .bool (((parseW ([97, 115, 107, 32, 48, 32, 48, 97, 102, 102, 10, 10, 35, 32, 120, 10, 115, 97, 121, 32, 107, 101, 101, 112, 101, 114, 32, 50, 32, 111, 114, 100, 101, 114, 101, 114, 32, 45, 49, 32, 48, 48, 32, 49, 32, 51])).2.1) != (0 : Int)))] ?_
 refine Op.wb (((parseW ([97, 115, 107, 32, 48, 32, 48, 97, 102, 102, 10, 10, 35, 32, 120, 10, 115, 97, 121, 32, 107, 101, 101, 112, 101, 114, 32, 50, 32, 111, 114, 100, 101, 114, 101, 114, 32, 45, 49, 32, 48, 48, 32, 49, 32, 51])).2.1) != (0 : Int)) 12 (fun c29 => ?_) (fun c30 => ?_)
 ·replace c29 := bneT c29
  refine Op.pg 3 [(42, .bool true)] ?_
  refine At.ifT 42 4 ?_
  refine At.go 5 1 [(0, .bool false)] ?_
  refine At.rt (.bool false) ?_
  have s31 := s21.drop
  refine hR _ _ _ _ s31 ⟨?_, rfl⟩
  exact (eqB (by exact absurd (by rw [al_p]; first | done | rfl | decide +kernel) c29))
 ·replace c30 := bneF c30
  refine Op.px 4 [(16, .bool (((parseW ([97, 115, 107, 32, 48, 32, 48, 97, 102, 102, 10, 10, 35, 32, 120, 10, 115, 97, 121, 32, 107, 101, 101, 112, 101, 114, 32, 50, 32, 111, 114, 100, 101, 114, 101, 114, 32, 45, 49, 32, 48, 48, 32, 49, 32, 51])).2.2) != (0 : Int)))] ?_
  refine Op.wb (((parseW ([97, 115, 107, 32, 48, 32, 48, 97, 102, 102, 10, 10, 35, 32, 120, 10, 115, 97, 121, 32, 107, 101, 101, 112, 101, 114, 32, 50, 32, 111, 114, 100, 101, 114, 101, 114, 32, 45, 49, 32, 48, 48, 32, 49, 32, 51])).2.2) != (0 : Int)) 16 (fun c32 => ?_) (fun c33 => ?_)
  ·replace c32 := bneT c32
   refine Op.pg 3 [(42, .bool true)] ?_
   refine At.ifT 42 4 ?_
   refine At.go 5 1 [(0, .bool false)] ?_
   refine At.rt (.bool false) ?_
   have s34 := s21.drop
   refine hR _ _ _ _ s34 ⟨?_, rfl⟩
   exact (eqB (by exact absurd (by rw [al_p]; first | done | rfl | decide +kernel) c32))
  ·replace c33 := bneF c33
   refine Op.px 5 [(21, .bool ((((parseW ([97, 115, 107, 32, 48, 32, 48, 97, 102, 102, 10, 10, 35, 32, 120, 10, 115, 97, 121, 32, 107, 101, 101, 112, 101, 114, 32, 50, 32, 111, 114, 100, 101, 114, 101, 114, 32, 45, 49, 32, 48, 48, 32, 49, 32, 51])).1).length : Int) != (2 : Int)))] ?_
   refine Op.wb ((((parseW ([97, 115, 107, 32, 48, 32, 48, 97, 102, 102, 10, 10, 35, 32, 120, 10, 115, 97, 121, 32, 107, 101, 101, 112, 101, 114, 32, 50, 32, 111, 114, 100, 101, 114, 101, 114, 32, 45, 49, 32, 48, 48, 32, 49, 32, 51])).1).length : Int) != (2 : Int)) 21 (fun c35 => ?_) (fun c36 => ?_)
   ·replace c35 := bneT c35
    refine Op.pg 3 [(42, .bool true)] ?_
    refine At.ifT 42 4 ?_
    refine At.go 5 1 [(0, .bool false)] ?_
    refine At.rt (.bool false) ?_
    have s37 := s21.drop
    refine hR _ _ _ _ s37 ⟨?_, rfl⟩
    exact (eqB (by exact absurd (by rw [al_p]; first | done | rfl | decide +kernel) c35))
   ·replace c36 := bneF c36
    refine Op.px 1 [(22, .slice a25 (((parseW ([97, 115, 107, 32, 48, 32, 48, 97, 102, 102, 10, 10, 35, 32, 120, 10, 115, 97, 121, 32, 107, 101, 101, 112, 101, 114, 32, 50, 32, 111, 114, 100, 101, 114, 101, 114, 32, 45, 49, 32, 48, 48, 32, 49, 32, 51])).1).length) n26)] ?_
    obtain ⟨x38, hx39⟩ := getAt (l := (parseW ([97, 115, 107, 32, 48, 32, 48, 97, 102, 102, 10, 10, 35, 32, 120, 10, 115, 97, 121, 32, 107, 101, 101, 112, 101, 114, 32, 50, 32, 111, 114, 100, 101, 114, 101, 114, 32, 45, 49, 32, 48, 48, 32, 49, 32, 51])).1) (i := 1) (by omega)
    obtain ⟨b40, o41, cu42, fz43, ha44, hb45, hk46⟩ := SlH.at_ (R24.toH s21 0 rfl) _ hx39
    cases ha44
    refine Op.ix 23 94 8 96 (((parseW ([97, 115, 107, 32, 48, 32, 48, 97, 102, 102, 10, 10, 35, 32, 120, 10, 115, 97, 121, 32, 107, 101, 101, 112, 101, 114, 32, 50, 32, 111, 114, 100, 101, 114, 101, 114, 32, 45, 49, 32, 48, 48, 32, 49, 32, 51])).1).length) n26 (.tmp 22) (.const (.int .i64 1)) 23 b40 o41 1 (by omega) (by omega) ?_
    obtain ⟨v47, v49, hv48, hv50, hk46⟩ := hk46
    obtain ⟨a51, n52, rfl⟩ := hv48.form
    obtain ⟨a53, n54, rfl⟩ := hv50.form
    refine Op.px 1 [(24, .pointer (some ⟨b40, o41 + (1 : Int).toNat * 8 + 2, none⟩))] ?_
    refine Op.ld (n := 1) 3 (.tmp 24) 25 (o41 + (1 : Int).toNat * 8 + 2) (.int .i64 x38.K) hb45 ?_ (hv := (cut_get hk46 2 rfl))
    refine Op.px 3 [(28, .bool (x38.K != ((-1) : Int)))] ?_
    refine Op.wb (x38.K != ((-1) : Int)) 28 (fun c55 => ?_) (fun c56 => ?_)
    ·replace c55 := bneT c55
     refine Op.pg 3 [(42, .bool true)] ?_
     refine At.ifT 42 4 ?_
     refine At.go 5 1 [(0, .bool false)] ?_
     refine At.rt (.bool false) ?_
     have s57 := s21.drop
     refine hR _ _ _ _ s57 ⟨?_, rfl⟩
     exact (eqB (by exact absurd (by rw [al_x hx39]; first | done | rfl | decide +kernel) c55))
    ·replace c56 := bneF c56
     refine Op.px 1 [(29, .slice (some ⟨b40, o41, none⟩) (((parseW ([97, 115, 107, 32, 48, 32, 48, 97, 102, 102, 10, 10, 35, 32, 120, 10, 115, 97, 121, 32, 107, 101, 101, 112, 101, 114, 32, 50, 32, 111, 114, 100, 101, 114, 101, 114, 32, 45, 49, 32, 48, 48, 32, 49, 32, 51])).1).length) n26)] ?_
     obtain ⟨b60, o61, cu62, fz63, ha64, hb65, hk66⟩ := SlH.at_ (R24.toH s21 0 rfl) _ hx39
     cases ha64
     refine Op.ix 23 94 8 96 (((parseW ([97, 115, 107, 32, 48, 32, 48, 97, 102, 102, 10, 10, 35, 32, 120, 10, 115, 97, 121, 32, 107, 101, 101, 112, 101, 114, 32, 50, 32, 111, 114, 100, 101, 114, 101, 114, 32, 45, 49, 32, 48, 48, 32, 49, 32, 51])).1).length) n26 (.tmp 29) (.const (.int .i64 1)) 30 b40 o41 1 (by omega) (by omega) ?_
     obtain ⟨v67, v69, hv68, hv70, hk66⟩ := hk66
     obtain ⟨a71, n72, rfl⟩ := hv68.form
     obtain ⟨a73, n74, rfl⟩ := hv70.form
     refine Op.px 1 [(31, .pointer (some ⟨b40, o41 + (1 : Int).toNat * 8 + 1, none⟩))] ?_
     refine Op.ld (n := 1) 3 (.tmp 31) 32 (o41 + (1 : Int).toNat * 8 + 1) (.int .i64 x38.Role) hb65 ?_ (hv := (cut_get hk66 1 rfl))
     refine Op.px 3 [(35, .bool (x38.Role != (2 : Int)))] ?_
     refine Op.wb (x38.Role != (2 : Int)) 35 (fun c75 => ?_) (fun c76 => ?_)
     ·replace c75 := bneT c75
      refine Op.pg 3 [(42, .bool true)] ?_
      refine At.ifT 42 4 ?_
      refine At.go 5 1 [(0, .bool false)] ?_
      refine At.rt (.bool false) ?_
      have s77 := s21.drop
      refine hR _ _ _ _ s77 ⟨?_, rfl⟩
      exact (eqB (by exact absurd (by rw [al_x hx39]; first | done | rfl | decide +kernel) c75))
     ·replace c76 := bneF c76
      refine Op.px 1 [(36, .slice (some ⟨b40, o41, none⟩) (((parseW ([97, 115, 107, 32, 48, 32, 48, 97, 102, 102, 10, 10, 35, 32, 120, 10, 115, 97, 121, 32, 107, 101, 101, 112, 101, 114, 32, 50, 32, 111, 114, 100, 101, 114, 101, 114, 32, 45, 49, 32, 48, 48, 32, 49, 32, 51])).1).length) n26)] ?_
      obtain ⟨b80, o81, cu82, fz83, ha84, hb85, hk86⟩ := SlH.at_ (R24.toH s21 0 rfl) _ hx39
      cases ha84
      refine Op.ix 23 94 8 96 (((parseW ([97, 115, 107, 32, 48, 32, 48, 97, 102, 102, 10, 10, 35, 32, 120, 10, 115, 97, 121, 32, 107, 101, 101, 112, 101, 114, 32, 50, 32, 111, 114, 100, 101, 114, 101, 114, 32, 45, 49, 32, 48, 48, 32, 49, 32, 51])).1).length) n26 (.tmp 36) (.const (.int .i64 1)) 37 b40 o41 1 (by omega) (by omega) ?_
      obtain ⟨v87, v89, hv88, hv90, hk86⟩ := hk86
      obtain ⟨a91, n92, rfl⟩ := hv88.form
      obtain ⟨a93, n94, rfl⟩ := hv90.form
      refine Op.px 1 [(38, .pointer (some ⟨b40, o41 + (1 : Int).toNat * 8 + 4, none⟩))] ?_
      refine Op.la 92 (.tmp 38) 39 (o41 + (1 : Int).toNat * 8 + 4) 2 [.int .i64 x38.Node.Role, .int .i64 x38.Node.N] hb85 ?_ (hv := (cut_sub hk86 4 2 rfl (by decide)))
      refine Op.px 1 [(40, .agg #[.int .i64 1, .int .i64 2])] ?_
      refine Op.eqAgg (T := 92) (T' := 92) (x := (.tmp 39)) (y := (.tmp 40)) (neq := true) (dst := 41) (xs := #[.int .i64 x38.Node.Role, .int .i64 x38.Node.N]) (ys := #[.int .i64 1, .int .i64 2]) (q := ((x38.Node.Role == (1 : Int)) && ((x38.Node.N == (2 : Int)) && true))) (q' := !(decide (x38.Node = (⟨1, 2⟩ : Id)))) (by kernel_rfl) (by kernel_rfl) (by kernel_rfl) (by kernel_rfl) (by kernel_rfl) (congrArg (fun z => !z) (eqT_Id x38.Node (⟨1, 2⟩ : Id))) ?_
      refine Op.pg 3 [(42, .bool (!(decide (x38.Node = (⟨1, 2⟩ : Id)))))] ?_
      refine At.if' (!(decide (x38.Node = (⟨1, 2⟩ : Id)))) 42 4 6 (fun c95 => ?_) (fun c96 => ?_)
      ·replace c95 := of_decide_eq_false (notT c95)
       refine At.go 5 1 [(0, .bool false)] ?_
       refine At.rt (.bool false) ?_
       have s97 := s21.drop
       refine hR _ _ _ _ s97 ⟨?_, rfl⟩
       exact (eqB (by exact absurd (by rw [al_x hx39]; first | done | rfl | decide +kernel) c95))
      ·replace c96 := of_decide_eq_true (notF c96)
       refine At.rp 7 1 [(44, .slice (some ⟨b40, o41, none⟩) (((parseW ([97, 115, 107, 32, 48, 32, 48, 97, 102, 102, 10, 10, 35, 32, 120, 10, 115, 97, 121, 32, 107, 101, 101, 112, 101, 114, 32, 50, 32, 111, 114, 100, 101, 114, 101, 114, 32, 45, 49, 32, 48, 48, 32, 49, 32, 51])).1).length) n26)] ?_
       have hl98 := s21.frzle
       have hz99 := R24.frz s21
       refine Op.lend (dst := some 45) (f := 20) (args := #[.slice (some ⟨b40, o41, none⟩) (((parseW ([97, 115, 107, 32, 48, 32, 48, 97, 102, 102, 10, 10, 35, 32, 120, 10, 115, 97, 121, 32, 107, 101, 101, 112, 101, 114, 32, 50, 32, 111, 114, 100, 101, 114, 101, 114, 32, 45, 49, 32, 48, 48, 32, 49, 32, 51])).1).length) n26]) (cf := (ch23 : Chunk)) (Lc := []) (L := []) (by kernel_rfl) s21 (showS _ _ _ s21.frzsub (hG.mono hl98) _ _ hz99 (hP.mono hl98) (by ((try dsimp only) <;> (decide))) (by ((try dsimp only) <;> (exact al_ok))) ) (fun _ _ _ hp => by obtain ⟨_, hgg, _⟩ := hp; exact hgg) (fun _ _ h => absurd h (ids_nil _)) ?_
       rintro _ _ h100 s101 ⟨rfl, hgg, rfl⟩; clear hgg
       refine Op.pg 7 [(3, .int .i64 ((showW ((parseW ([97, 115, 107, 32, 48, 32, 48, 97, 102, 102, 10, 10, 35, 32, 120, 10, 115, 97, 121, 32, 107, 101, 101, 112, 101, 114, 32, 50, 32, 111, 114, 100, 101, 114, 101, 114, 32, 45, 49, 32, 48, 48, 32, 49, 32, 51])).1)).2)), (4, .string (mkS ((showW ((parseW ([97, 115, 107, 32, 48, 32, 48, 97, 102, 102, 10, 10, 35, 32, 120, 10, 115, 97, 121, 32, 107, 101, 101, 112, 101, 114, 32, 50, 32, 111, 114, 100, 101, 114, 101, 114, 32, 45, 49, 32, 48, 48, 32, 49, 32, 51])).1)).1)))] ?_
       refine At.rp 13 3 [(50, .bool (((showW ((parseW ([97, 115, 107, 32, 48, 32, 48, 97, 102, 102, 10, 10, 35, 32, 120, 10, 115, 97, 121, 32, 107, 101, 101, 112, 101, 114, 32, 50, 32, 111, 114, 100, 101, 114, 101, 114, 32, 45, 49, 32, 48, 48, 32, 49, 32, 51])).1)).2) == (0 : Int)))] ?_
       refine Op.wb (((showW ((parseW ([97, 115, 107, 32, 48, 32, 48, 97, 102, 102, 10, 10, 35, 32, 120, 10, 115, 97, 121, 32, 107, 101, 101, 112, 101, 114, 32, 50, 32, 111, 114, 100, 101, 114, 101, 114, 32, 45, 49, 32, 48, 48, 32, 49, 32, 51])).1)).2) == (0 : Int)) 50 (fun c104 => ?_) (fun c105 => ?_)
       ·replace c104 := eq_of_beq c104
        refine Op.px 1 [(51, .string (mkS ((showW ((parseW ([97, 115, 107, 32, 48, 32, 48, 97, 102, 102, 10, 10, 35, 32, 120, 10, 115, 97, 121, 32, 107, 101, 101, 112, 101, 114, 32, 50, 32, 111, 114, 100, 101, 114, 101, 114, 32, 45, 49, 32, 48, 48, 32, 49, 32, 51])).1)).1)))] ?_
        refine Op.vl 52 (.bool ((mkS ((showW ((parseW ([97, 115, 107, 32, 48, 32, 48, 97, 102, 102, 10, 10, 35, 32, 120, 10, 115, 97, 121, 32, 107, 101, 101, 112, 101, 114, 32, 50, 32, 111, 114, 100, 101, 114, 101, 114, 32, 45, 49, 32, 48, 48, 32, 49, 32, 51])).1)).1)).toList == (mkS ([97, 115, 107, 32, 48, 32, 48, 97, 102, 102, 10, 115, 97, 121, 32, 107, 101, 101, 112, 101, 114, 32, 50, 32, 111, 114, 100, 101, 114, 101, 114, 32, 45, 49, 32, 48, 48, 32, 49, 32, 51, 10])).toList)) (.bool (((showW ((parseW ([97, 115, 107, 32, 48, 32, 48, 97, 102, 102, 10, 10, 35, 32, 120, 10, 115, 97, 121, 32, 107, 101, 101, 112, 101, 114, 32, 50, 32, 111, 114, 100, 101, 114, 101, 114, 32, 45, 49, 32, 48, 48, 32, 49, 32, 51])).1)).1) == ([97, 115, 107, 32, 48, 32, 48, 97, 102, 102, 10, 115, 97, 121, 32, 107, 101, 101, 112, 101, 114, 32, 50, 32, 111, 114, 100, 101, 114, 101, 114, 32, 45, 49, 32, 48, 48, 32, 49, 32, 51, 10]))) (by rw [toList_mkS, toList_mkS]) ?_
        refine Op.px 2 [(54, .bool (((showW ((parseW ([97, 115, 107, 32, 48, 32, 48, 97, 102, 102, 10, 10, 35, 32, 120, 10, 115, 97, 121, 32, 107, 101, 101, 112, 101, 114, 32, 50, 32, 111, 114, 100, 101, 114, 101, 114, 32, 45, 49, 32, 48, 48, 32, 49, 32, 51])).1)).1) == ([97, 115, 107, 32, 48, 32, 48, 97, 102, 102, 10, 115, 97, 121, 32, 107, 101, 101, 112, 101, 114, 32, 50, 32, 111, 114, 100, 101, 114, 101, 114, 32, 45, 49, 32, 48, 48, 32, 49, 32, 51, 10])))] ?_
        refine Op.wb (((showW ((parseW ([97, 115, 107, 32, 48, 32, 48, 97, 102, 102, 10, 10, 35, 32, 120, 10, 115, 97, 121, 32, 107, 101, 101, 112, 101, 114, 32, 50, 32, 111, 114, 100, 101, 114, 101, 114, 32, 45, 49, 32, 48, 48, 32, 49, 32, 51])).1)).1) == ([97, 115, 107, 32, 48, 32, 48, 97, 102, 102, 10, 115, 97, 121, 32, 107, 101, 101, 112, 101, 114, 32, 50, 32, 111, 114, 100, 101, 114, 101, 114, 32, 45, 49, 32, 48, 48, 32, 49, 32, 51, 10])) 54 (fun c106 => ?_) (fun c107 => ?_)
        ·replace c106 := eq_of_beq c106
         refine Op.lit (T := 29) (len := 1) (parts := #[(0, (.const (.int .u8 10)))]) (dst := 55) (E := 5) (ps := [(0, .int .u8 10)]) (cs := #[.int .u8 10]) (by kernel_rfl) (by kernel_rfl) (by kernel_rfl) s101 ?_
         intro b108 h109 s110
         refine Op.px 1 [(56, .agg #[.int .i64 1, .int .i64 2, .int .i64 3, .int .i64 (-1), .slice (some ⟨b108, 0, none⟩) 1 1, .slice none 0 0])] ?_
         have R111 : Row 5 kU8 g27 (.slice (some ⟨b108, 0, none⟩) 1 1) [(10 : UInt8)] [(b108, Obj.cells #[.int .u8 10] 5 (0, 0))] := Row.lit (by kernel_rfl) (by unfold maxLen; decide) (by kernel_rfl) ⟨_, _, rfl, rfl, Reads.nil⟩
         have hl112 := s110.frzle
         have hz113 := R111.frz s110
         refine Op.lend (dst := some 57) (f := 22) (args := #[.agg #[.int .i64 1, .int .i64 2, .int .i64 3, .int .i64 (-1), .slice (some ⟨b108, 0, none⟩) 1 1, .slice none 0 0]]) (cf := ([(b108, Obj.cells #[.int .u8 10] 5 (0, 0))] : Chunk)) (Lc := []) (L := [ch23]) (by kernel_rfl) s110 (tellS _ _ _ s110.frzsub (hG.mono hl112) (⟨1, 2, 3, (-1), [(10 : UInt8)], []⟩ : Event) _ hz113 _ (SlR.nil _ _ _) (hP.mono hl112) (by ((try dsimp only) <;> (exact al_e))) ) (fun _ _ _ hp => by obtain ⟨_, hgg, _⟩ := hp; exact hgg) (fun _ _ h => absurd h (ids_nil _)) ?_
         rintro _ _ h114 s115 ⟨rfl, hgg, rfl⟩; clear hgg
         refine Op.vl 58 (.bool ((mkS (tellW (⟨1, 2, 3, (-1), [(10 : UInt8)], []⟩ : Event))).toList == (mkS ([49, 32, 50, 32, 51, 32, 45, 49, 32, 48, 97, 32, 46])).toList)) (.bool ((tellW (⟨1, 2, 3, (-1), [(10 : UInt8)], []⟩ : Event)) == ([49, 32, 50, 32, 51, 32, 45, 49, 32, 48, 97, 32, 46]))) (by rw [toList_mkS, toList_mkS]) ?_
         refine Op.pg 8 [(0, .bool ((tellW (⟨1, 2, 3, (-1), [(10 : UInt8)], []⟩ : Event)) == ([49, 32, 50, 32, 51, 32, 45, 49, 32, 48, 97, 32, 46])))] ?_
         refine At.rt (.bool ((tellW (⟨1, 2, 3, (-1), [(10 : UInt8)], []⟩ : Event)) == ([49, 32, 50, 32, 51, 32, 45, 49, 32, 48, 97, 32, 46]))) ?_
         have s118 := s115.drop.drop
         refine hR _ _ _ _ s118 ⟨?_, rfl⟩
         exact (eqB (by exact beq_iff_eq.2 al_t))
        ·replace c107 := neF c107
         refine Op.pg 8 [(0, .bool false)] ?_
         refine At.rt (.bool false) ?_
         have s119 := s101.drop
         refine hR _ _ _ _ s119 ⟨?_, rfl⟩
         exact (eqB (by exact absurd (by rw [al_p]; first | done | rfl | decide +kernel) c107))
       ·replace c105 := neF c105
        refine Op.pg 8 [(0, .bool false)] ?_
        refine At.rt (.bool false) ?_
        have s120 := s101.drop
        refine hR _ _ _ _ s120 ⟨?_, rfl⟩
        exact (eqB (by exact absurd (by rw [al_p]; first | done | rfl | decide +kernel) c105))
end Go.Proofs.YtmjebehhpojihaaGreatDoor.Sw
namespace Go.Proofs.YtmjebehhpojihaaGreatDoor.Sw
open Go
set_option maxRecDepth 100000
set_option linter.unusedVariables false
set_option linter.unusedSimpArgs false
set_option linter.deprecated false
set_option maxHeartbeats 2000000 in
theorem lawShows24 (B : World) (h : Heap) (g : GH) (hg : Sub g h) (hG : Glob g) (v_list : Value) (list : List Step) (h_list : SlR g 94 kStep v_list list) (ev : Event) (v_ev_4 : Value) (h_ev_4 : SlR g 5 kU8 v_ev_4 ev.Op) (v_ev_5 : Value) (h_ev_5 : SlR g 5 kU8 v_ev_5 ev.Answer) (hP : Pow10 g) (h1 : list.length ≤ 2000000) (hI : ∀ st ∈ list, stI st) (hE : evI ev) :
  Spec Tryz.prog B 4 #[v_list, .agg #[.int .i64 ev.Client, .int .i64 ev.Stamp, .int .i64 ev.Asked, .int .i64 ev.Answered, v_ev_4, v_ev_5]] h g [] (fun rv g' L' => rv = .bool true ∧ g' = g ∧ L' = []) := by
 obtain ⟨a_list, n_list, rfl⟩ := h_list.form
 obtain ⟨a_ev_4, n_ev_4, rfl⟩ := h_ev_4.form
 obtain ⟨a_ev_5, n_ev_5, rfl⟩ := h_ev_5.form
 refine Spec.at' Tryz.func4 ?_
 intro R hR
 have s0 := St.init hg
 refine At.rg 2 ?_
 refine Op.box (T := 31) (x := (.tmp 1)) (d := 3) (cs := #[.int .i64 ev.Client, .int .i64 ev.Stamp, .int .i64 ev.Asked, .int .i64 ev.Answered, .slice a_ev_4 ev.Op.length n_ev_4, .slice a_ev_5 ev.Answer.length n_ev_5]) (by kernel_rfl) (by kernel_rfl) s0 ?_
 intro b20 h21 s22
 refine Op.pg 1 [] ?_
 refine At.rg 2 ?_
 refine Op.c0 (some 10) (alive24 _ _ _ s22.sub hG  hP ) s22 ?_
 rintro _ g25 _ h23 hle26 s24 ⟨rfl, rfl⟩
 replace hG := hG.mono hle26
 replace hP := hP.mono hle26
 replace h_ev_4 := h_ev_4.mono hle26
 replace h_ev_5 := h_ev_5.mono hle26
 replace h_list := h_list.mono hle26
 refine Op.pg 2 [(11, .bool false)] ?_
 refine At.ifF 11 5 ?_
 refine At.rp 12 1 [(12, .slice a_list list.length n_list)] ?_
 refine Op.c1 13 (great24 _ _ _ s24.sub hG _ _ h_list (by ((try dsimp only) <;> (omega))) (by ((try dsimp only) <;> (exact fun o ho => ⟨(hI o ho).2.2.2.2.2.2.1, (hI o ho).2.2.2.2.2.2.2.1⟩))) ) s24 ?_
 intro h27 s28
 refine Op.px 1 [(14, .bool (grS list))] ?_
 refine Op.wb (grS list) 14 (fun c31 => ?_) (fun c32 => ?_)
 ·refine Op.pg 6 [(23, .bool true)] ?_
  refine At.ifT 23 7 ?_
  refine At.go 8 1 [(4, .bool true)] ?_
  refine At.rt (.bool true) ?_
  have s33 := s28.drop
  have s34 : St h g (ids []) g [] h27 := s33.unfrz
  refine hR _ _ _ _ s34 ⟨?_, rfl, rfl⟩
  exact (eqB (by rfl))
 ·refine Op.px 1 [(15, .pointer (some ⟨b20, 4, none⟩))] ?_
  refine Op.ld (n := 1) 29 (.tmp 15) 16 4 (.slice a_ev_4 ev.Op.length n_ev_4) (s28.chunk 0 rfl) ?_
  refine Op.px 2 [(17, .int .i64 (ev.Op.length : Int)), (18, .pointer (some ⟨b20, 5, none⟩))] ?_
  refine Op.ld (n := 1) 29 (.tmp 18) 19 5 (.slice a_ev_5 ev.Answer.length n_ev_5) (s28.chunk 0 rfl) ?_
  refine Op.px 1 [(20, .int .i64 (ev.Answer.length : Int))] ?_
  refine Op.v64 21 ((ev.Op.length : Int) + (ev.Answer.length : Int)) (by omega) (by (unfold evI at hE; omega)) ?_
  refine Op.pg 6 [(23, .bool (decide (((ev.Op.length : Int) + (ev.Answer.length : Int)) > (5000 : Int))))] ?_
  refine At.if' (decide (((ev.Op.length : Int) + (ev.Answer.length : Int)) > (5000 : Int))) 23 7 9 (fun c35 => ?_) (fun c36 => ?_)
  ·replace c35 := of_decide_eq_true c35
   refine At.go 8 1 [(4, .bool true)] ?_
   refine At.rt (.bool true) ?_
   have s37 := s28.drop
   have s38 : St h g (ids []) g [] h27 := s37.unfrz
   refine hR _ _ _ _ s38 ⟨?_, rfl, rfl⟩
   exact (eqB (by rfl))
  ·replace c36 := of_decide_eq_false c36
   refine At.rp 3 1 [(24, .slice a_list list.length n_list)] ?_
   refine Op.c0 (some 25) (copies24 _ _ _ s28.sub hG _ _ h_list (by ((try dsimp only) <;> ((have hq := (small_ok (by assumption) hI).1; omega)))) (by ((try dsimp only) <;> (exact fun n hn => by have := ((small_ok (by assumption) hI).2 n hn).2; omega))) ) s28 ?_
   rintro _ g46 _ h39 hle47 s40 ⟨v41, ch42, rfl, R43, rfl⟩
   obtain ⟨a44, n45, rfl⟩ := R43.form
   replace hG := hG.mono hle47
   replace hP := hP.mono hle47
   replace h_ev_4 := h_ev_4.mono hle47
   replace h_ev_5 := h_ev_5.mono hle47
   replace h_list := h_list.mono hle47
   refine Op.pg 10 [(5, .slice a44 ((list).length) n45)] ?_
   refine At.rp 7 1 [(27, .slice a44 ((list).length) n45)] ?_
   have hl48 := s40.frzle
   have hz49 := R43.frz s40
   refine Op.lend (dst := some 28) (f := 20) (args := #[.slice a44 ((list).length) n45]) (cf := (ch42 : Chunk)) (Lc := []) (L := [[(b20, Obj.cells #[.int .i64 ev.Client, .int .i64 ev.Stamp, .int .i64 ev.Asked, .int .i64 ev.Answered, .slice a_ev_4 ev.Op.length n_ev_4, .slice a_ev_5 ev.Answer.length n_ev_5] 31 (0, 0))]]) (by kernel_rfl) s40 (showS _ _ _ s40.frzsub (hG.mono hl48) _ _ hz49 (hP.mono hl48) (by ((try dsimp only) <;> ((have hq := (small_ok (by assumption) hI).1; omega)))) (by ((try dsimp only) <;> (exact fun st hst => ((small_ok (by assumption) hI).2 st hst).1))) ) (fun _ _ _ hp => by obtain ⟨_, hgg, _⟩ := hp; exact hgg) (fun _ _ h => absurd h (ids_nil _)) ?_
   rintro _ _ h50 s51 ⟨rfl, hgg, rfl⟩; clear hgg
   refine Op.pg 11 [(6, .string (mkS ((showW list).1))), (7, .int .i64 ((showW list).2))] ?_
   refine At.rp 7 1 [(32, .slice a_list list.length n_list)] ?_
   refine Op.c1 33 (showR24 _ _ _ s51.sub hG _ _ h_list (by ((try dsimp only) <;> ((have hq := (small_ok (by assumption) hI).1; omega)))) (by ((try dsimp only) <;> (exact fun st hst => ((small_ok (by assumption) hI).2 st hst).1))) ) s51 ?_
   intro h54 s55
   refine Op.pg 12 [(8, .string (mkS ((showW list).1))), (9, .int .i64 ((showW list).2))] ?_
   refine At.draw (by kernel_rfl) (fun _ => False) [(0, true), (1, true), (2, true), (3, true), (4, true), (5, true), (6, true), (7, true), (8, true), (9, true), (10, true), (11, false), (12, true), (13, true), (14, true), (20, true), (15, false), (16, false), (17, true), (18, false), (19, false), (21, false), (22, true), (23, true), (24, true)] (by kernel_rfl) ?_
   refine Op.px 2 [(36, .string (mkS ((showW list).1))), (37, .string (mkS ((showW list).1)))] ?_
   refine Op.vl 38 (.bool ((mkS ((showW list).1)).toList == (mkS ((showW list).1)).toList)) (.bool true) (by simp) ?_
   refine Op.px 3 [(39, .bool true), (40, .int .i64 ((showW list).2)), (41, .int .i64 ((showW list).2))] ?_
   refine Op.vl 42 (.bool (((showW list).2) == ((showW list).2))) (.bool true) (by simp) ?_
   refine Op.px 4 [(44, .bool true), (45, .slice a44 ((list).length) n45), (46, .slice a_list list.length n_list)] ?_
   have hl58 := s55.frzle
   have hz59 := R43.frz s55
   refine Op.lend (dst := some 47) (f := 17) (args := #[.slice a44 ((list).length) n45, .slice a_list list.length n_list]) (cf := (ch42 : Chunk)) (Lc := []) (L := [[(b20, Obj.cells #[.int .i64 ev.Client, .int .i64 ev.Stamp, .int .i64 ev.Asked, .int .i64 ev.Answered, .slice a_ev_4 ev.Op.length n_ev_4, .slice a_ev_5 ev.Answer.length n_ev_5] 31 (0, 0))]]) (by kernel_rfl) s55 (sameSteps _ _ _ s55.frzsub (hG.mono hl58) _ _ hz59 _ _ (h_list.mono hl58) (by ((try dsimp only) <;> (omega))) (by ((try dsimp only) <;> (exact fun n hn => by have := ((small_ok (by assumption) hI).2 n hn).2; omega))) ) (fun _ _ _ hp => by obtain ⟨_, hgg, _⟩ := hp; exact hgg) (fun _ _ h => absurd h (ids_nil _)) ?_
   rintro _ _ h60 s61 ⟨rfl, hgg, rfl⟩; clear hgg
   refine Op.px 2 [(49, .bool (decide (list = list)))] ?_
   refine Op.wb (decide (list = list)) 49 (fun c64 => ?_) (fun c65 => ?_)
   ·replace c64 := of_decide_eq_true c64
    refine Op.loadAF (T := 31) (x := (.tmp 3)) (o := 0) (d := 50) (n := 6) (vs := [.int .i64 ev.Client, .int .i64 ev.Stamp, .int .i64 ev.Asked, .int .i64 ev.Answered, .slice a_ev_4 ev.Op.length n_ev_4, .slice a_ev_5 ev.Answer.length n_ev_5]) (by kernel_rfl) (by kernel_rfl) (by kernel_rfl) (fun h => h) (s55.chunk 1 rfl) (by kernel_rfl) rfl ?_
    refine Op.loadAF (T := 31) (x := (.tmp 3)) (o := 0) (d := 56) (n := 6) (vs := [.int .i64 ev.Client, .int .i64 ev.Stamp, .int .i64 ev.Asked, .int .i64 ev.Answered, .slice a_ev_4 ev.Op.length n_ev_4, .slice a_ev_5 ev.Answer.length n_ev_5]) (by kernel_rfl) (by kernel_rfl) (by kernel_rfl) (fun h => h) (s55.chunk 1 rfl) (by kernel_rfl) rfl ?_
    refine Op.lit (T := 38) (len := 1) (parts := #[(0, (.tmp 50))]) (dst := 51) (E := 31) (ps := [(0, .agg #[.int .i64 ev.Client, .int .i64 ev.Stamp, .int .i64 ev.Asked, .int .i64 ev.Answered, .slice a_ev_4 ev.Op.length n_ev_4, .slice a_ev_5 ev.Answer.length n_ev_5])]) (cs := #[.int .i64 ev.Client, .int .i64 ev.Stamp, .int .i64 ev.Asked, .int .i64 ev.Answered, .slice a_ev_4 ev.Op.length n_ev_4, .slice a_ev_5 ev.Answer.length n_ev_5]) (by kernel_rfl) (by kernel_rfl) (by kernel_rfl) s61 ?_
    intro b66 h67 s68
    have R69 : Row 31 kEvent g46 (.slice (some ⟨b66, 0, none⟩) 1 1) [ev] [(b66, Obj.cells #[.int .i64 ev.Client, .int .i64 ev.Stamp, .int .i64 ev.Asked, .int .i64 ev.Answered, .slice a_ev_4 ev.Op.length n_ev_4, .slice a_ev_5 ev.Answer.length n_ev_5] 31 (0, 0))] := Row.lit (by kernel_rfl) (by unfold maxLen; decide) (by kernel_rfl) ⟨_, _, rfl, ⟨_, _, h_ev_4, h_ev_5, rfl⟩, Reads.nil⟩
    obtain ⟨g70, s71, hle72, hf73⟩ := Row.freeze R69 (s68.front 0 rfl)
    replace R43 := R43.mono hle72
    replace hG := hG.mono hle72
    replace hP := hP.mono hle72
    replace h_ev_4 := h_ev_4.mono hle72
    replace h_ev_5 := h_ev_5.mono hle72
    refine Op.c0 (some 52) (copyEvents _ _ _ s71.sub hG _ _ hf73 (by ((try dsimp only) <;> ((simp only [List.length_cons, List.length_nil]; omega)))) (by ((try dsimp only) <;> ((intro n hn; rw [List.mem_singleton.1 hn]; omega)))) ) s71 ?_
    rintro _ g81 _ h74 hle82 s75 ⟨v76, ch77, rfl, R78, rfl⟩
    obtain ⟨a79, n80, rfl⟩ := R78.form
    replace R43 := R43.mono hle82
    replace hG := hG.mono hle82
    replace hP := hP.mono hle82
    replace h_ev_4 := h_ev_4.mono hle82
    replace h_ev_5 := h_ev_5.mono hle82
    replace hf73 := hf73.mono hle82
    obtain ⟨x83, hx84⟩ := getAt (l := ([ev])) (i := 0) (by (simp only [List.length_cons, List.length_nil]; omega))
    obtain ⟨b85, o86, cu87, fz88, ha89, hb90, hk91⟩ := SlH.at_ (R78.toH s75 0 rfl) _ hx84
    cases ha89
    refine Op.ix 38 31 6 80 ((([ev])).length) n80 (.tmp 52) (.const (.int .i64 0)) 53 b85 o86 0 (by omega) (by (simp only [List.length_cons, List.length_nil]; omega)) ?_
    obtain ⟨v92, v94, hv93, hv95, hk91⟩ := hk91
    obtain ⟨a96, n97, rfl⟩ := hv93.form
    obtain ⟨a98, n99, rfl⟩ := hv95.form
    refine Op.la 31 (.tmp 53) 54 (o86 + (0 : Int).toNat * 6) 6 [.int .i64 x83.Client, .int .i64 x83.Stamp, .int .i64 x83.Asked, .int .i64 x83.Answered, .slice a96 x83.Op.length n97, .slice a98 x83.Answer.length n99] hb90 ?_ (hv := (hk91))
    refine Op.c1 55 (tellS _ _ _ s75.sub hG x83 _ hv93 _ hv95 hP (by ((try dsimp only) <;> ((rw [ev_one hx84]; exact ev_ok hE (by omega))))) ) s75 ?_
    intro h100 s101
    refine Op.c1 57 (tellR24 _ _ _ s101.sub hG ev _ h_ev_4 _ h_ev_5 (by ((try dsimp only) <;> (exact ev_ok hE (by omega)))) ) s101 ?_
    intro h104 s105
    refine Op.vl 58 (.bool ((mkS (tellW x83)).toList == (mkS (tellW ev)).toList)) (.bool ((tellW x83) == (tellW ev))) (by rw [toList_mkS, toList_mkS]) ?_
    refine Op.pg 13 [(4, .bool ((tellW x83) == (tellW ev)))] ?_
    refine At.rt (.bool ((tellW x83) == (tellW ev))) ?_
    have s108 := s105.drop.drop.drop
    have s109 : St h g (ids []) g [] h104 := s108.unfrz
    refine hR _ _ _ _ s109 ⟨?_, rfl, rfl⟩
    exact (eqB (by exact beq_iff_eq.2 (by rw [ev_one hx84])))
   ·replace c65 := of_decide_eq_false c65
    refine Op.pg 13 [(4, .bool false)] ?_
    refine At.rt (.bool false) ?_
    have s110 := s61.drop.drop
    have s111 : St h g (ids []) g [] h60 := s110.unfrz
    refine hR _ _ _ _ s111 ⟨?_, rfl, rfl⟩
    exact (eqB (by exact absurd rfl c65))
end Go.Proofs.YtmjebehhpojihaaGreatDoor.Sw
