/- Lemmas for a law of this seat: what the functions compute, and plain facts of it. Own text. -/
import Derived.Test.YtmjebehhpojihaaGreatDoorTRightK
namespace Go.Proofs.YtmjebehhpojihaaGreatDoor.Sw
set_option linter.unusedVariables false
set_option linter.unusedSimpArgs false
set_option linter.deprecated false
open Go
def atP (ns : List Leaf) (p : Str) : Int := findI (fun n => decide (n.Path = p)) ns
theorem atP_cons (n : Leaf) (ns : List Leaf) (p : Str) : atP (n :: ns) p = if n.Path = p then 0 else if atP ns p < 0 then -1 else atP ns p + 1 := by
  unfold atP
  conv => lhs; unfold findI
  by_cases h : n.Path = p <;> simp [h]
theorem findL_cons (n : Leaf) (ns : List Leaf) (p : Str) : findL (n :: ns) p = if n.Path = p then some n else findL ns p := by
  unfold findL
  rw [List.find?_cons]
  by_cases h : n.Path = p <;> simp [h]
theorem atP_spec : ∀ (ns : List Leaf) (p : Str), (atP ns p = -1 ∧ findL ns p = none) ∨ (0 ≤ atP ns p ∧ atP ns p < ns.length ∧ ∃ x, ns[(atP ns p).toNat]? = some x ∧ findL ns p = some x)
  | [], p => .inl ⟨rfl, rfl⟩
  | n :: ns, p => by
    have ih := atP_spec ns p
    rw [atP_cons, findL_cons]
    by_cases h : n.Path = p
    · refine .inr ?_
      rw [if_pos h, if_pos h]
      exact ⟨by omega, by rw [List.length_cons]; omega, n, rfl, rfl⟩
    · rw [if_neg h, if_neg h]
      rcases ih with ⟨h1, h2⟩ | ⟨h1, h2, x, h3, h4⟩
      · rw [h1]
        exact .inl ⟨rfl, h2⟩
      · refine .inr ?_
        rw [if_neg (by omega)]
        refine ⟨by omega, by rw [List.length_cons]; omega, x, ?_, h4⟩
        rw [toNat_succ h1]
        exact h3
theorem atP_none {ns : List Leaf} {p : Str} (h : atP ns p < 0) : findL ns p = none := by
  rcases atP_spec ns p with ⟨_, h2⟩ | ⟨h1, _⟩
  · exact h2
  · omega
theorem atP_no {ns : List Leaf} {p : Str} (h : ¬ atP ns p ≥ 0) : findL ns p = none := atP_none (by omega)
section
variable {ns out : List Leaf} {l x : Leaf} {i : Int} {put : Bool}
end
section
variable {ns : List Leaf} {p data q : Str} {owner born ver o' b' : Int} {num : Bool} {up x : Leaf} {k : Int}
theorem rm_8 (h : cutErr p = 0) (h2 : ¬ (data.length : Int) > 128) (h3 : findL ns (parentOf p) = some up) (h4 : up.Owner = -1) (h5 : makeE up p num = 0 ∧ makeN up p num = q) (h6 : ¬ atP ns q ≥ 0) (hl : ¬ (ns.length : Int) ≥ 32) : makeT ns p data owner born num = (madeL ns up q data owner born num, q, 0) :=
  mk_5 (parE_5 h h2 h3 h4) h3 h5.1 h5.2 (atP_no h6) hl
theorem kt_1 (h : ¬ (getT ns p).2 = 0) : kidsT ns p = ([], (getT ns p).2) := by
  unfold getT at h ⊢; unfold kidsT
  by_cases hp : pErr p = 0
  · rw [if_pos hp] at h ⊢
    rw [if_neg (by simpa using hp)]
    cases hf : findL ns p with
    | none => rfl
    | some l => rw [hf] at h; exact absurd rfl h
  · rw [if_neg hp, if_pos hp]
theorem kt_2 (h : (getT ns p).2 = 0) : kidsT ns p = (kidsL ns p, 0) := by
  unfold getT at h; unfold kidsT
  by_cases hp : pErr p = 0
  · rw [if_pos hp] at h
    rw [if_neg (by simpa using hp)]
    cases hf : findL ns p with
    | none => rw [hf] at h; cases h
    | some l => rfl
  · rw [if_neg hp] at h; exact absurd h hp
theorem u8_eq {a b : UInt8} (h : (a.toNat : Int) = (b.toNat : Int)) : a = b := UInt8.toNat_inj.1 (by omega)
theorem u8_ne {a b : UInt8} (h : ¬ (a.toNat : Int) = (b.toNat : Int)) : ¬ a = b := fun e => h (by rw [e])
theorem leaf_eq (a b : Leaf) : decide (a = b) = (decide (a.Path = b.Path) && (decide (a.Data = b.Data) && (decide (a.Version = b.Version) && (decide (a.Owner = b.Owner) && (decide (a.Next = b.Next) && decide (a.Born = b.Born)))))) := by
  obtain ⟨a1, a2, a3, a4, a5, a6⟩ := a
  obtain ⟨b1, b2, b3, b4, b5, b6⟩ := b
  rw [Bool.eq_iff_iff]
  simp [Leaf.mk.injEq]
theorem lfN {a b : Leaf} (h : ¬ a.Path = b.Path ∨ ¬ a.Data = b.Data ∨ ¬ a.Version = b.Version ∨ ¬ a.Owner = b.Owner ∨ ¬ a.Next = b.Next) : false = decide (a = b) := by
  refine (decide_eq_false fun e => ?_).symm
  subst e
  rcases h with h | h | h | h | h
  all_goals exact h rfl
theorem lfY {a b : Leaf} (h1 : a.Path = b.Path) (h2 : a.Data = b.Data) (h3 : a.Version = b.Version) (h4 : a.Owner = b.Owner) (h5 : a.Next = b.Next) : (a.Born == b.Born) = decide (a = b) := by
  rw [leaf_eq, decide_eq_true h2, decide_eq_true h1, decide_eq_true h3, decide_eq_true h4, decide_eq_true h5]
  simp only [Bool.true_and]
  rw [Bool.eq_iff_iff]
  simp
end
def RightAt (list : List Leaf) (i : Nat) (l : Leaf) : Prop := rightL (list.take i) l = true ∧ ∀ x, (list.take i).getLast? = some x → lt8 x.Path l.Path = true
theorem rights_iff : ∀ (rest seen : List Leaf), rightsL seen rest = true ↔ ∀ i l, rest[i]? = some l → rightL (seen ++ rest.take i) l = true ∧ ∀ x, (seen ++ rest.take i).getLast? = some x → lt8 x.Path l.Path = true
  | [], seen => by simp [rightsL]
  | n :: rest, seen => by
    unfold rightsL
    rw [Bool.and_eq_true, Bool.and_eq_true, rights_iff rest (seen ++ [n])]
    constructor
    · rintro ⟨⟨h1, h2⟩, h3⟩ i l hl
      cases i with
      | zero =>
        simp only [List.getElem?_cons_zero, Option.some.injEq] at hl
        subst hl
        simp only [List.take_zero, List.append_nil]
        refine ⟨h1, fun x hx => ?_⟩
        rw [hx] at h2
        exact h2
      | succ i =>
        simp only [List.getElem?_cons_succ] at hl
        have := h3 i l hl
        simpa using this
    · intro H
      refine ⟨?_, fun i l hl => ?_⟩
      · have := H 0 n rfl
        simp only [List.take_zero, List.append_nil] at this
        refine ⟨this.1, ?_⟩
        cases hg : seen.getLast? with
        | none => rfl
        | some x => exact this.2 x hg
      · have := H (i + 1) l (by simpa using hl)
        simpa using this
theorem load_iff {list : List Leaf} : loadB list = true ↔ (1 ≤ list.length ∧ list.length ≤ 32) ∧ ∀ i l, list[i]? = some l → RightAt list i l := by
  unfold loadB RightAt
  rw [Bool.and_eq_true, Bool.and_eq_true, rights_iff]
  simp only [List.nil_append, decide_eq_true_eq]
  constructor
  · rintro ⟨⟨h1, h2⟩, h3⟩; exact ⟨⟨h2, h3⟩, h1⟩
  · rintro ⟨⟨h2, h3⟩, h1⟩; exact ⟨⟨h1, h2⟩, h3⟩
theorem load_f {list : List Leaf} {i : Nat} {l : Leaf} (hl : list[i]? = some l) (h : ¬ RightAt list i l) : false = loadB list := by
  cases hb : loadB list with
  | false => rfl
  | true => exact absurd ((load_iff.1 hb).2 i l hl) h
theorem load_len {list : List Leaf} (h : (list.length : Int) < 1 ∨ (list.length : Int) > 32) : false = loadB list := by
  cases hb : loadB list with
  | false => rfl
  | true => have := (load_iff.1 hb).1; omega
theorem last_take {list : List Leaf} {i : Int} {x : Leaf} (h : 0 < i) (hx : list[(i - 1).toNat]? = some x) : (list.take i.toNat).getLast? = some x := by
  have e : i.toNat = (i - 1).toNat + 1 := by omega
  rw [e, take_at hx]
  simp
section
variable {list : List Leaf} {i : Int} {l x : Leaf}
theorem ld_rise (h0 : 0 < i) (hl : list[i.toNat]? = some l) (hx : list[(i - 1).toNat]? = some x) (h : Go.Op.bytesLess x.Path l.Path = false) : false = loadB list :=
  load_f hl fun hr => by
    have := hr.2 x (last_take h0 hx)
    unfold lt8 at this
    rw [h] at this
    cases this
end
theorem insL_last {l : Leaf} : ∀ {ns : List Leaf}, (∀ n ∈ ns, lt8 n.Path l.Path = true) → insL l ns = ns ++ [l]
  | [], _ => rfl
  | n :: ns, h => by
    unfold insL
    rw [if_neg, insL_last fun m hm => h m (.tail _ hm)]
    · rfl
    · have := h n (.head _)
      unfold lt8 at this ⊢
      rw [bl_asym this]
      simp
def SeenT (list : List Leaf) (i : Int) : Prop := (∀ j l, j < i.toNat → list[j]? = some l → RightAt list j l) ∧ SortL (list.take i.toNat)
theorem SeenT_0 (list : List Leaf) : SeenT list 0 := ⟨fun j l hj => absurd hj (by simp), by simp [SortL]⟩
section
variable {list : List Leaf} {i : Int} {l x : Leaf}
theorem SeenT_lt (H : SeenT list i) (hr : ∀ x, (list.take i.toNat).getLast? = some x → lt8 x.Path l.Path = true) : ∀ n ∈ list.take i.toNat, lt8 n.Path l.Path = true := by
  intro n hn
  rcases List.eq_nil_or_concat (list.take i.toNat) with e | ⟨a, x, e⟩
  · rw [e] at hn; cases hn
  · rw [List.concat_eq_append] at e
    have h1 := hr x (by rw [e]; simp)
    have hs := H.2
    rw [e] at hs hn
    rcases List.mem_append.1 hn with hn | hn
    · exact bl_trans ((List.pairwise_append.1 hs).2.2 n hn x (by simp)) h1
    · rw [List.mem_singleton] at hn
      exact hn ▸ h1
theorem SeenT_step (H : SeenT list i) (h0 : 0 ≤ i) (hl : list[i.toNat]? = some l) (hr : RightAt list i.toNat l) : SeenT list (i + 1) ∧ findL (list.take i.toNat) l.Path = none ∧ withL (list.take i.toNat) l = list.take (i + 1).toNat := by
  have hlt := SeenT_lt H hr.2
  have hnone : findL (list.take i.toNat) l.Path = none := findL_none.2 fun n hn => bl_ne (hlt n hn)
  refine ⟨⟨?_, ?_⟩, hnone, ?_⟩
  · intro j l' hj hl'
    rcases Nat.lt_or_ge j i.toNat with h | h
    · exact H.1 j l' h hl'
    · obtain rfl : j = i.toNat := by omega
      rw [hl] at hl'
      cases hl'
      exact hr
  · rw [toNat_succ h0, take_at hl]
    refine List.pairwise_append.2 ⟨H.2, List.pairwise_singleton _ _, fun a ha b hb => ?_⟩
    rw [List.mem_singleton] at hb
    subst hb
    exact hlt a ha
  · unfold withL
    rw [delL_none hnone, insL_last hlt, toNat_succ h0, take_at hl]
theorem SeenT_r0 (hi : ¬ 0 < i) (h0 : 0 ≤ i) (h : rightL (list.take i.toNat) l = true) : RightAt list i.toNat l :=
  ⟨h, fun x hx => by
    have : i.toNat = 0 := by omega
    rw [this] at hx
    simp at hx⟩
theorem SeenT_r1 (hi : 0 < i) (h : rightL (list.take i.toNat) l = true) (hx : list[(i - 1).toNat]? = some x) (hlt : Go.Op.bytesLess x.Path l.Path = true) : RightAt list i.toNat l :=
  ⟨h, fun y hy => by
    rw [last_take hi hx] at hy
    cases hy
    exact hlt⟩
theorem SeenT_f0 (hl : list[i.toNat]? = some l) (h : rightL (list.take i.toNat) l = false) : false = loadB list := load_f hl fun hr => by have h9 := hr.1; rw [h] at h9; cases h9
theorem SeenT_end (H : SeenT list i) (hi : ¬ i < list.length) (h1 : ¬ (list.length : Int) = 0) (h2 : ¬ (list.length : Int) > 32) : true = loadB list ∧ list.take i.toNat = list :=
  ⟨(load_iff.2 ⟨by omega, fun j l hl => H.1 j l (by have := (List.getElem?_eq_some_iff.1 hl).1; omega) hl⟩).symm, List.take_of_length_le (by omega)⟩
end
end Go.Proofs.YtmjebehhpojihaaGreatDoor.Sw
namespace Go.Proofs.YtmjebehhpojihaaGreatDoor.Sw
open Go
set_option maxRecDepth 100000
set_option linter.unusedVariables false
set_option linter.unusedSimpArgs false
set_option linter.deprecated false
theorem right_path {ns : List Leaf} {l : Leaf} (h : rightL ns l = true) : l.Path.length ≤ 64 := by
 unfold rightL at h
 simp only [Bool.and_eq_true] at h
 have h := h.2
 split at h
 ·simp only [Bool.and_eq_true, decide_eq_true_eq] at h
  rw [h.1.1]; decide
 ·simp only [Bool.and_eq_true, decide_eq_true_eq] at h
  exact cut_len h.1
theorem loadF (B : World) (h : Heap) (g : GH) (hg : Sub g h) (hG : Glob g) (b_t : Nat) (t : List Leaf) (c_t : Chunk) (o_t : IsTree g b_t t c_t) (v_list : Value) (list : List Leaf) (h_list : SlR g 59 kLeaf v_list list) (h1 : list.length ≤ 1000000) (hl : ∀ n ∈ list, n.Path.length ≤ 1000000 ∧ n.Data.length ≤ 1000000) (hs : St h g (ids [c_t]) g [c_t] h) :
  Spec Tryz.prog B 52 #[.pointer (some ⟨b_t, 0, none⟩), v_list] h g [c_t] (fun rv g' L' => ∃ k_t, rv = .bool (loadB list) ∧ IsTree g' b_t (if loadB list = true then list else t) k_t ∧ g' = g ∧ L' = [k_t]) := by
 obtain ⟨a_list, n_list, rfl⟩ := h_list.form
 refine Spec.of_at (f := Tryz.f52) (e := [(0, .pointer (some ⟨b_t, 0, none⟩)), (1, .slice a_list list.length n_list)]) Tryz.func52 (by kernel_rfl) (Nat.le_of_ble_eq_true (by kernel_rfl)) (by kernel_rfl) (by kernel_rfl) ?_
 intro R hR
 refine At.reg (L := [(0, false)]) (by kernel_rfl) ?_
 refine Op.pures 1 [0, 1] (L' := []) (e' := [(0, .pointer (some ⟨b_t, 0, none⟩)), (1, .slice a_list list.length n_list)]) (by kernel_rfl) ?_
 refine Op.goto 1 (by kernel_rfl) ?_
 refine At.reg (L := [(0, false), (1, false)]) (by kernel_rfl) ?_
 refine Op.makeMap (mt := 126) (dst := 9) (by kernel_rfl) hs ?_
 intro m1001 h1002 s1003
 have s1004 : St h g (ids [c_t]) g [[(m1001, .map #[] 0)], [], c_t] h1002 := St.flat (L := [[(m1001, .map #[] 0)], c_t]) rfl s1003
 have hR1005 : MapR encS #[] 0 ([] : List (Str × Value)) := MapR.empty _ _
 have hO1006 := OpenLm.nil
 refine Op.pures 1 [0, 1, 5] (L' := []) (e' := [(0, .pointer (some ⟨b_t, 0, none⟩)), (1, .slice a_list list.length n_list), (5, .map (some m1001))]) (by kernel_rfl) ?_
 refine Op.goto 2 (by kernel_rfl) ?_
 refine At.reg (L := [(0, false), (1, false), (2, false)]) (by kernel_rfl) ?_
 refine Op.pures 3 [0, 1, 5, 10, 11, 12] (L' := []) (e' := [(0, .pointer (some ⟨b_t, 0, none⟩)), (1, .slice a_list list.length n_list), (5, .map (some m1001)), (10, .slice a_list list.length n_list), (11, .int .i64 (list.length : Int)), (12, .int .i64 0)]) (by kernel_rfl) ?_
 refine Op.goto 3 (by kernel_rfl) ?_
 obtain ⟨c1007, o1008, s1009⟩ : ∃ c, IsLm g m1001 ([] : List Leaf) c ∧ St h g (ids [c_t]) g (c :: [c_t]) h1002 := ⟨_, hO1006.close hR1005 (List.Perm.refl _), St.flat (L := [(m1001, .map #[] 0)] :: [] :: [c_t]) (by simp only [List.flatten_cons, List.append_assoc, List.cons_append, List.nil_append, List.append_nil]) s1004⟩
 have loop3 : ∀ (m : Nat) (g1013 : GH) (hleg1013 : gle g g1013) (i : Int) (lv : List Leaf) (c1010 : Chunk) (h1012 : Heap) (hm : list.length - i.toNat < m) (h0 : 0 ≤ i) (h3 : i ≤ list.length) (hlv : lv = list.take i.toNat) (hsn : SeenT list i)  (o1011 : IsLm g1013 m1001 lv c1010)   (s_loop31011 : St h g (ids [c_t]) g1013 [c1010, c_t] h1012), At (fctx Tryz.prog B 52 Tryz.f52 R) [] 3 [(0, .pointer (some ⟨b_t, 0, none⟩)), (1, .slice a_list list.length n_list), (5, .map (some m1001)), (10, .slice a_list list.length n_list), (11, .int .i64 (list.length : Int)), (12, .int .i64 i)] h1012 := by
  intro m; induction m with
  | zero => intros; omega
  | succ m ih3 =>
   intro g1013 hleg1013 i lv c1010 h1012 hm h0 h3 hlv hsn o1011 s_loop31011
   replace hG := hG.mono hleg1013
   replace h_list := h_list.mono hleg1013
   replace o_t := o_t.mono hleg1013
   refine At.reg (L := [(0, false)]) (by kernel_rfl) ?_
   refine Op.pures 1 [0, 1, 5, 10, 11, 12, 13] (L' := []) (e' := [(0, .pointer (some ⟨b_t, 0, none⟩)), (1, .slice a_list list.length n_list), (5, .map (some m1001)), (10, .slice a_list list.length n_list), (11, .int .i64 (list.length : Int)), (12, .int .i64 i), (13, .bool (decide (i < (list.length : Int))))]) (by kernel_rfl) ?_
   refine Op.goto 4 (by kernel_rfl) ?_
   refine At.cond (b := decide (i < (list.length : Int))) (c := .tmp 13) (by kernel_rfl) (by kernel_rfl) (by kernel_rfl) 5 13 (by kernel_rfl) (by kernel_rfl) (fun hb => ?_) (fun hb => ?_)
   ·have c1014 : i < (list.length : Int) := of_decide_eq_true hb
    clear hb
    refine At.keep [0, 1, 5, 10, 11, 12] ?_; show At _ _ _ [(0, .pointer (some ⟨b_t, 0, none⟩)), (1, .slice a_list list.length n_list), (5, .map (some m1001)), (10, .slice a_list list.length n_list), (11, .int .i64 (list.length : Int)), (12, .int .i64 i)] _
    refine At.reg (L := [(0, false), (1, false), (2, false), (3, false), (4, false), (5, false)]) (by kernel_rfl) ?_
    refine Op.pures 1 [0, 1, 5, 10, 11, 12, 14] (L' := [(1, false), (2, false), (3, false), (4, false), (5, false)]) (e' := [(0, .pointer (some ⟨b_t, 0, none⟩)), (1, .slice a_list list.length n_list), (5, .map (some m1001)), (10, .slice a_list list.length n_list), (11, .int .i64 (list.length : Int)), (12, .int .i64 i), (14, .int .i64 i)]) (by kernel_rfl) ?_
    obtain ⟨x1015, hx1016⟩ : ∃ c, list[(i : Int).toNat]? = some c := ⟨_, List.getElem?_eq_getElem (by omega)⟩
    obtain ⟨b1017, o1018, cu1019, fz1020, ha1021, hb1022, hk1023⟩ := SlR.at_ h_list _ hx1016
    cases ha1021
    refine Op.idx (T := 52) (E := 59) (sz := 6) (by_ := 72) (n := list.length) (c := n_list) (k := .i64) (x := (.tmp 10)) (ix := (.tmp 12)) (dst := 15) (bk := b1017) (o := o1018) (m := i) (by kernel_rfl) (by kernel_rfl) (by kernel_rfl) (by kernel_rfl) (by omega) (by omega) ?_
    obtain ⟨v1024, hv1025, hk1023⟩ := hk1023
    obtain ⟨a1026, n1027, rfl⟩ := hv1025.form
    refine Op.loadA (T := 59) (x := (.tmp 15)) (o := o1018 + (i : Int).toNat * 6) (d := 16) (n := 6) (vs := [.string (mkS x1015.Path), .slice a1026 x1015.Data.length n1027, .int .i64 x1015.Version, .int .i64 x1015.Owner, .int .i64 x1015.Next, .int .i64 x1015.Born]) (by kernel_rfl) (by kernel_rfl) (by kernel_rfl) (s_loop31011.sub _ _ hb1022) (hk1023) rfl ?_
    refine Op.alloc (T := 59) (dst := 7) (cs := #[.string (mkS []), .slice none 0 0, .int .i64 0, .int .i64 0, .int .i64 0, .int .i64 0]) (by kernel_rfl) (by kernel_rfl) s_loop31011 ?_
    intro b1028 h1029 s1030
    refine Op.pures 1 [0, 1, 5, 6, 7, 10, 11, 12, 16] (L' := [(5, false)]) (e' := [(0, .pointer (some ⟨b_t, 0, none⟩)), (1, .slice (some ⟨b1017, o1018, none⟩) list.length n_list), (5, .map (some m1001)), (6, .int .i64 i), (7, .pointer (some ⟨b1028, 0, none⟩)), (10, .slice (some ⟨b1017, o1018, none⟩) list.length n_list), (11, .int .i64 (list.length : Int)), (12, .int .i64 i), (16, .agg #[.string (mkS x1015.Path), .slice a1026 x1015.Data.length n1027, .int .i64 x1015.Version, .int .i64 x1015.Owner, .int .i64 x1015.Next, .int .i64 x1015.Born])]) (by kernel_rfl) ?_
    refine Op.store (T := 59) (x := (.tmp 7)) (y := (.tmp 16)) (b := b1028) (o := 0) (vs := [.string (mkS x1015.Path), .slice a1026 x1015.Data.length n1027, .int .i64 x1015.Version, .int .i64 x1015.Owner, .int .i64 x1015.Next, .int .i64 x1015.Born]) (a? := true) (n := 6) (by kernel_rfl) (by kernel_rfl) (by kernel_rfl) (by kernel_rfl) rfl (by simp [Value.oneCell']) s1030 0 rfl (Nat.le_of_ble_eq_true (by kernel_rfl)) (cs := #[.string (mkS []), .slice none 0 0, .int .i64 0, .int .i64 0, .int .i64 0, .int .i64 0]) (cs' := #[.string (mkS x1015.Path), .slice a1026 x1015.Data.length n1027, .int .i64 x1015.Version, .int .i64 x1015.Owner, .int .i64 x1015.Next, .int .i64 x1015.Born]) (by kernel_rfl) (fun _ => trivial) ?_
    intro h1031 s1032
    refine Op.goto 6 (by kernel_rfl) ?_
    have join10 : ∀ (m : Nat)  (h1033 : Heap) (hm : 0 < m) (hra : RightAt list i.toNat x1015)     (s_join101032 : St h g (ids [c_t]) g1013 [[(b1028, Obj.cells #[.string (mkS x1015.Path), .slice a1026 x1015.Data.length n1027, .int .i64 x1015.Version, .int .i64 x1015.Owner, .int .i64 x1015.Next, .int .i64 x1015.Born] 59 (0, 0))], c1010, c_t] h1033), At (fctx Tryz.prog B 52 Tryz.f52 R) [] 10 [(0, .pointer (some ⟨b_t, 0, none⟩)), (1, .slice (some ⟨b1017, o1018, none⟩) list.length n_list), (5, .map (some m1001)), (7, .pointer (some ⟨b1028, 0, none⟩)), (10, .slice (some ⟨b1017, o1018, none⟩) list.length n_list), (11, .int .i64 (list.length : Int)), (12, .int .i64 i)] h1033 := by
     intro m; induction m with
     | zero => intros; omega
     | succ m ih10 =>
      intro h1033 hm hra s_join101032
      refine At.reg (L := [(0, false), (1, false), (2, false)]) (by kernel_rfl) ?_
      obtain ⟨s1035, hle1036⟩ := St.freeze (s_join101032.front 0 rfl)
      have hb1037 := gadd_one (g := g1013) b1028 (.cells #[.string (mkS x1015.Path), .slice a1026 x1015.Data.length n1027, .int .i64 x1015.Version, .int .i64 x1015.Owner, .int .i64 x1015.Next, .int .i64 x1015.Born] 59 (0, 0))
      generalize hg_g1034 : gadd g1013 _ = g1034 at s1035 hle1036 hb1037; clear hg_g1034
      replace hG := hG.mono hle1036
      replace h_list := h_list.mono hle1036
      replace hv1025 := hv1025.mono hle1036
      replace o1011 := o1011.mono hle1036
      replace o_t := o_t.mono hle1036
      refine Op.call0 (dst := some 36) (f := 76) (args := #[.pointer (some ⟨b1028, 0, none⟩)]) (by kernel_rfl) s1035 (clonedT _ _ _ s1035.sub hG x1015 _ hv1025 b1028 hb1037 (by ((try dsimp only) <;> ((have := (hl _ (List.mem_of_getElem? hx1016)).2; omega)))) ) ?_
      rintro _ g1045 _ h1038 hle1046 s1039 ⟨v1040, ch1041, rfl, R1042, hgg, rfl⟩; subst g1045; clear hle1046
      obtain ⟨a1043, n1044, rfl⟩ := R1042.form
      refine Op.alloc (T := 59) (dst := 8) (cs := #[.string (mkS []), .slice none 0 0, .int .i64 0, .int .i64 0, .int .i64 0, .int .i64 0]) (by kernel_rfl) (by kernel_rfl) s1039 ?_
      intro b1047 h1048 s1049
      refine Op.store (T := 59) (x := (.tmp 8)) (y := (.tmp 36)) (b := b1047) (o := 0) (vs := [.string (mkS x1015.Path), .slice a1043 ((x1015.Data).length) n1044, .int .i64 x1015.Version, .int .i64 x1015.Owner, .int .i64 x1015.Next, .int .i64 x1015.Born]) (a? := true) (n := 6) (by kernel_rfl) (by kernel_rfl) (by kernel_rfl) (by kernel_rfl) rfl (by simp [Value.oneCell']) s1049 0 rfl (Nat.le_of_ble_eq_true (by kernel_rfl)) (cs := #[.string (mkS []), .slice none 0 0, .int .i64 0, .int .i64 0, .int .i64 0, .int .i64 0]) (cs' := #[.string (mkS x1015.Path), .slice a1043 ((x1015.Data).length) n1044, .int .i64 x1015.Version, .int .i64 x1015.Owner, .int .i64 x1015.Next, .int .i64 x1015.Born]) (by kernel_rfl) (fun _ => trivial) ?_
      intro h1050 s1051
      refine Op.goto 11 (by kernel_rfl) ?_
      refine At.reg (L := [(0, false), (1, false), (2, false), (3, false)]) (by kernel_rfl) ?_
      refine Op.pures 2 [0, 1, 5, 8, 10, 11, 12, 37, 38] (L' := [(2, false), (3, false)]) (e' := [(0, .pointer (some ⟨b_t, 0, none⟩)), (1, .slice (some ⟨b1017, o1018, none⟩) list.length n_list), (5, .map (some m1001)), (8, .pointer (some ⟨b1047, 0, none⟩)), (10, .slice (some ⟨b1017, o1018, none⟩) list.length n_list), (11, .int .i64 (list.length : Int)), (12, .int .i64 i), (37, .map (some m1001)), (38, .pointer (some ⟨b1028, 0, none⟩))]) (by kernel_rfl) ?_
      refine Op.load (T := 9) (x := (.tmp 38)) (o := 0) (d := 39) (n := 1) (v := .string (mkS x1015.Path)) (by kernel_rfl) (by kernel_rfl) (by kernel_rfl) (s1051.sub _ _ hb1037) (by kernel_rfl) ?_
      have s1052 : St h g (ids [c_t]) g1034 [c1010, [(b1047, Obj.cells #[.string (mkS x1015.Path), .slice a1043 ((x1015.Data).length) n1044, .int .i64 x1015.Version, .int .i64 x1015.Owner, .int .i64 x1015.Next, .int .i64 x1015.Born] 59 (0, 0))], ch1041, c_t] h1050 := (((s1051.front 1 rfl).front 1 rfl).front 2 rfl)
      obtain ⟨es1053, clk1054, ks1055, F1056, hp1057, hR1058, hO1059⟩ := IsLm.open_ o1011
      have s1060 : St h g (ids [c_t]) g1034 ([(m1001, .map es1053 clk1054)] :: F1056 :: [[(b1047, Obj.cells #[.string (mkS x1015.Path), .slice a1043 ((x1015.Data).length) n1044, .int .i64 x1015.Version, .int .i64 x1015.Owner, .int .i64 x1015.Next, .int .i64 x1015.Born] 59 (0, 0))], ch1041, c_t]) h1050 := St.permF (L := c1010 :: [[(b1047, Obj.cells #[.string (mkS x1015.Path), .slice a1043 ((x1015.Data).length) n1044, .int .i64 x1015.Version, .int .i64 x1015.Owner, .int .i64 x1015.Next, .int .i64 x1015.Born] 59 (0, 0))], ch1041, c_t]) (hp1057.append_right _) s1052
      refine Op.mapSet (d := .string) (z := .pointer none) (mt := 126) (x := (.tmp 37)) (ix := (.tmp 39)) (y := (.tmp 8)) (k := x1015.Path) (v := .pointer (some ⟨b1047, 0, none⟩)) (.inl (by kernel_rfl)) (by kernel_rfl) keyS (by kernel_rfl) (by kernel_rfl) (by kernel_rfl) s1060 0 rfl hR1058 (fun _ => trivial) ?_
      intro es1061 clk1062 h1063 hR1064 s1065
      have hO1066 : OpenLm (updK ks1055 x1015.Path (.pointer (some ⟨b1047, 0, none⟩))) ((b1047, .cells #[.string (mkS x1015.Path), .slice a1043 ((x1015.Data).length) n1044, .int .i64 x1015.Version, .int .i64 x1015.Owner, .int .i64 x1015.Next, .int .i64 x1015.Born] 59 (0, 0)) :: ch1041 ++ F1056 : Chunk) (withL lv (⟨x1015.Path, x1015.Data, x1015.Version, x1015.Owner, x1015.Next, x1015.Born⟩ : Leaf)) := hO1059.ins (g := g1034) (l := (⟨x1015.Path, x1015.Data, x1015.Version, x1015.Owner, x1015.Next, x1015.Born⟩ : Leaf)) (by (rw [hlv]; exact (SeenT_step hsn h0 hx1016 hra).2.1)) R1042 (by exact right_path hra.1)
      have s1068 : St h g (ids [c_t]) g1034 [[(m1001, .map es1061 clk1062)], [(b1047, Obj.cells #[.string (mkS x1015.Path), .slice a1043 ((x1015.Data).length) n1044, .int .i64 x1015.Version, .int .i64 x1015.Owner, .int .i64 x1015.Next, .int .i64 x1015.Born] 59 (0, 0))], ch1041, F1056, c_t] h1063 := ((((s1065.front 1 rfl).front 3 rfl).front 3 rfl).front 3 rfl)
      have s1067 : St h g (ids [c_t]) g1034 [[(m1001, .map es1061 clk1062)], ((b1047, .cells #[.string (mkS x1015.Path), .slice a1043 ((x1015.Data).length) n1044, .int .i64 x1015.Version, .int .i64 x1015.Owner, .int .i64 x1015.Next, .int .i64 x1015.Born] 59 (0, 0)) :: ch1041 ++ F1056 : Chunk), c_t] h1063 := St.flat (L := [[(m1001, .map es1061 clk1062)], [(b1047, Obj.cells #[.string (mkS x1015.Path), .slice a1043 ((x1015.Data).length) n1044, .int .i64 x1015.Version, .int .i64 x1015.Owner, .int .i64 x1015.Next, .int .i64 x1015.Born] 59 (0, 0))], ch1041, F1056, c_t]) (by simp only [List.flatten_cons, List.flatten_nil, List.append_assoc, List.cons_append, List.nil_append, List.append_nil]) s1068
      refine Op.goto 12 (by kernel_rfl) ?_
      refine At.reg (L := [(0, false), (1, false)]) (by kernel_rfl) ?_
      refine Op.val (dst := some 40) (v := .int .i64 (IntKind.wrap .i64 (i + 1))) (v' := .int .i64 (i + 1)) (by kernel_rfl) (wrapEq_i64 (by omega) (by omega)) ?_
      refine Op.pures 1 [0, 1, 5, 10, 11, 12] (L' := []) (e' := [(0, .pointer (some ⟨b_t, 0, none⟩)), (1, .slice (some ⟨b1017, o1018, none⟩) list.length n_list), (5, .map (some m1001)), (10, .slice (some ⟨b1017, o1018, none⟩) list.length n_list), (11, .int .i64 (list.length : Int)), (12, .int .i64 (i + 1))]) (by kernel_rfl) ?_
      refine Op.goto 3 (by kernel_rfl) ?_
      obtain ⟨c1069, o1070, s1071⟩ : ∃ c, IsLm g1034 m1001 (withL lv (⟨x1015.Path, x1015.Data, x1015.Version, x1015.Owner, x1015.Next, x1015.Born⟩ : Leaf)) c ∧ St h g (ids [c_t]) g1034 (c :: [c_t]) h1063 := ⟨_, hO1066.close hR1064 (List.Perm.refl _), St.flat (L := [(m1001, .map es1061 clk1062)] :: ((b1047, .cells #[.string (mkS x1015.Path), .slice a1043 ((x1015.Data).length) n1044, .int .i64 x1015.Version, .int .i64 x1015.Owner, .int .i64 x1015.Next, .int .i64 x1015.Born] 59 (0, 0)) :: ch1041 ++ F1056 : Chunk) :: [c_t]) (by simp only [List.flatten_cons, List.append_assoc, List.cons_append, List.nil_append, List.append_nil]) s1067⟩
      exact ih3 _ (gle.trans hleg1013 (by repeat (first | assumption | apply gle.trans))) (i + 1) (withL lv (⟨x1015.Path, x1015.Data, x1015.Version, x1015.Owner, x1015.Next, x1015.Born⟩ : Leaf)) _ _ (by omega) (by omega) (by omega) (by (rw [hlv]; exact (SeenT_step hsn h0 hx1016 hra).2.2)) (by exact (SeenT_step hsn h0 hx1016 hra).1) o1070 s1071
    refine At.draw (by kernel_rfl) (fun _ => False) [(0, true), (1, false), (2, false), (3, true), (4, true), (5, true), (6, true), (7, true), (8, true), (9, true), (10, true), (11, true), (12, true), (14, true), (13, true), (15, false), (16, true), (17, true), (18, true)] (by kernel_rfl) ?_
    refine Op.pures 1 [0, 1, 5, 6, 7, 10, 11, 12, 17] (L' := [(1, false), (2, false), (3, true), (4, true), (5, true), (6, true), (7, true), (8, true), (9, true), (10, true), (11, true), (12, true), (14, true), (13, true), (15, false), (16, true), (17, true), (18, true)]) (e' := [(0, .pointer (some ⟨b_t, 0, none⟩)), (1, .slice (some ⟨b1017, o1018, none⟩) list.length n_list), (5, .map (some m1001)), (6, .int .i64 i), (7, .pointer (some ⟨b1028, 0, none⟩)), (10, .slice (some ⟨b1017, o1018, none⟩) list.length n_list), (11, .int .i64 (list.length : Int)), (12, .int .i64 i), (17, .map (some m1001))]) (by kernel_rfl) ?_
    refine Op.loadA (T := 59) (x := (.tmp 7)) (o := 0) (d := 18) (n := 6) (vs := [.string (mkS x1015.Path), .slice a1026 x1015.Data.length n1027, .int .i64 x1015.Version, .int .i64 x1015.Owner, .int .i64 x1015.Next, .int .i64 x1015.Born]) (by kernel_rfl) (by kernel_rfl) (by kernel_rfl) (s1032.chunk 0 rfl) (by kernel_rfl) rfl ?_
    have s1072 : St h g (ids [c_t]) g1013 [c1010, [(b1028, Obj.cells #[.string (mkS x1015.Path), .slice a1026 x1015.Data.length n1027, .int .i64 x1015.Version, .int .i64 x1015.Owner, .int .i64 x1015.Next, .int .i64 x1015.Born] 59 (0, 0))], c_t] h1031 := ((s1032.front 0 rfl).front 1 rfl)
    have hl1073 := s1072.frzle
    have hz1074 := IsLm.frz o1011 s1072 (by intro p hp; simp only [List.mem_append, hp, true_or, or_true])
    refine Op.lend (dst := some 19) (f := 91) (args := #[.map (some m1001), .agg #[.string (mkS x1015.Path), .slice a1026 x1015.Data.length n1027, .int .i64 x1015.Version, .int .i64 x1015.Owner, .int .i64 x1015.Next, .int .i64 x1015.Born]]) (cf := (c1010 : Chunk)) (Lc := []) (L := [[(b1028, Obj.cells #[.string (mkS x1015.Path), .slice a1026 x1015.Data.length n1027, .int .i64 x1015.Version, .int .i64 x1015.Owner, .int .i64 x1015.Next, .int .i64 x1015.Born] 59 (0, 0))], c_t]) (by kernel_rfl) s1072 (rightF _ _ _ s1072.frzsub (hG.mono hl1073) m1001 lv hz1074 x1015 _ (hv1025.mono hl1073) (by ((try dsimp only) <;> ((have := (hl _ (List.mem_of_getElem? hx1016)).1; omega)))) ) (fun _ _ _ hp => by obtain ⟨_, hgg, _⟩ := hp; exact hgg) (fun _ _ h => absurd h (ids_nil _)) ?_
    rintro _ _ h1075 s1076 ⟨rfl, hgg, rfl⟩; clear hgg
    refine Op.pures 2 [0, 1, 5, 6, 7, 10, 11, 12, 21] (L' := [(5, true), (6, true), (7, true), (8, true), (9, true), (10, true), (11, true), (12, true), (14, true), (13, true), (15, false), (16, true), (17, true), (18, true)]) (e' := [(0, .pointer (some ⟨b_t, 0, none⟩)), (1, .slice (some ⟨b1017, o1018, none⟩) list.length n_list), (5, .map (some m1001)), (6, .int .i64 i), (7, .pointer (some ⟨b1028, 0, none⟩)), (10, .slice (some ⟨b1017, o1018, none⟩) list.length n_list), (11, .int .i64 (list.length : Int)), (12, .int .i64 i), (21, .bool (!(rightL lv x1015)))]) (by kernel_rfl) ?_
    refine Op.ways (b := !(rightL lv x1015)) ⟨fun hb => ?_, fun hb => ?_⟩
    ·refine Op.cast (e' := [(0, .pointer (some ⟨b_t, 0, none⟩)), (1, .slice (some ⟨b1017, o1018, none⟩) list.length n_list), (5, .map (some m1001)), (6, .int .i64 i), (7, .pointer (some ⟨b1028, 0, none⟩)), (10, .slice (some ⟨b1017, o1018, none⟩) list.length n_list), (11, .int .i64 (list.length : Int)), (12, .int .i64 i), (21, .bool true)]) (by rw [hb]) ?_
     have c1079 : (rightL lv x1015) = false := (notT hb)
     clear hb
     refine Op.pures 14 [0, 1, 5, 7, 10, 11, 12, 35] (L' := []) (e' := [(0, .pointer (some ⟨b_t, 0, none⟩)), (1, .slice (some ⟨b1017, o1018, none⟩) list.length n_list), (5, .map (some m1001)), (7, .pointer (some ⟨b1028, 0, none⟩)), (10, .slice (some ⟨b1017, o1018, none⟩) list.length n_list), (11, .int .i64 (list.length : Int)), (12, .int .i64 i), (35, .bool true)]) (by kernel_rfl) ?_
     refine Op.goto 7 (by kernel_rfl) ?_
     refine At.condT (c := .tmp 35) (by kernel_rfl) (by kernel_rfl) (by kernel_rfl) 8 (by kernel_rfl) ?_
     refine At.reg (L := [(0, false)]) (by kernel_rfl) ?_
     refine Op.pures 1 [4] (L' := []) (e' := [(4, .bool false)]) (by kernel_rfl) ?_
     refine Op.goto 9 (by kernel_rfl) ?_
     refine At.ret (f := Tryz.f52) (v := .bool false) (by kernel_rfl) (by kernel_rfl) ?_
     have s1080 : St h g (ids [c_t]) g1013 [c_t] h1075 := (s1076).drop.drop
     have s1081 : St h g (ids [c_t]) g [c_t] h1075 := s1080.unfrz
     replace o_t := o_t.flat (g' := g)
     refine hR _ _ _ _ s1081 ⟨c_t, ?_, ?_, rfl, rfl⟩
     ·exact (eqB (by exact SeenT_f0 hx1016 (by rw [← hlv]; assumption)))
     ·exact o_t.eq (by (rw [← SeenT_f0 hx1016 (by rw [← hlv]; assumption)]; rfl))
    ·refine Op.cast (e' := [(0, .pointer (some ⟨b_t, 0, none⟩)), (1, .slice (some ⟨b1017, o1018, none⟩) list.length n_list), (5, .map (some m1001)), (6, .int .i64 i), (7, .pointer (some ⟨b1028, 0, none⟩)), (10, .slice (some ⟨b1017, o1018, none⟩) list.length n_list), (11, .int .i64 (list.length : Int)), (12, .int .i64 i), (21, .bool false)]) (by rw [hb]) ?_
     have c1082 : (rightL lv x1015) = true := (notF hb)
     clear hb
     refine Op.pures 3 [0, 1, 5, 6, 7, 10, 11, 12, 21, 24] (L' := [(8, true), (9, true), (10, true), (11, true), (12, true), (14, true), (13, true), (15, false), (16, true), (17, true), (18, true)]) (e' := [(0, .pointer (some ⟨b_t, 0, none⟩)), (1, .slice (some ⟨b1017, o1018, none⟩) list.length n_list), (5, .map (some m1001)), (6, .int .i64 i), (7, .pointer (some ⟨b1028, 0, none⟩)), (10, .slice (some ⟨b1017, o1018, none⟩) list.length n_list), (11, .int .i64 (list.length : Int)), (12, .int .i64 i), (21, .bool false), (24, .bool (decide (i > (0 : Int))))]) (by kernel_rfl) ?_
     refine Op.ways (b := decide (i > (0 : Int))) ⟨fun hb => ?_, fun hb => ?_⟩
     ·refine Op.cast (e' := [(0, .pointer (some ⟨b_t, 0, none⟩)), (1, .slice (some ⟨b1017, o1018, none⟩) list.length n_list), (5, .map (some m1001)), (6, .int .i64 i), (7, .pointer (some ⟨b1028, 0, none⟩)), (10, .slice (some ⟨b1017, o1018, none⟩) list.length n_list), (11, .int .i64 (list.length : Int)), (12, .int .i64 i), (21, .bool false), (24, .bool true)]) (by rw [hb]) ?_
      have c1083 : i > (0 : Int) := of_decide_eq_true hb
      clear hb
      refine Op.pures 2 [0, 1, 5, 7, 10, 11, 12, 21, 24, 25, 26] (L' := [(10, true), (11, true), (12, true), (14, true), (13, true), (15, false), (16, true), (17, true), (18, true)]) (e' := [(0, .pointer (some ⟨b_t, 0, none⟩)), (1, .slice (some ⟨b1017, o1018, none⟩) list.length n_list), (5, .map (some m1001)), (7, .pointer (some ⟨b1028, 0, none⟩)), (10, .slice (some ⟨b1017, o1018, none⟩) list.length n_list), (11, .int .i64 (list.length : Int)), (12, .int .i64 i), (21, .bool false), (24, .bool true), (25, .slice (some ⟨b1017, o1018, none⟩) list.length n_list), (26, .int .i64 i)]) (by kernel_rfl) ?_
      refine Op.val (dst := some 27) (v := .int .i64 (IntKind.wrap .i64 (i - 1))) (v' := .int .i64 (i - 1)) (by kernel_rfl) (wrapEq_i64 (by omega) (by omega)) ?_
      obtain ⟨x1084, hx1085⟩ : ∃ c, list[(i - 1 : Int).toNat]? = some c := ⟨_, List.getElem?_eq_getElem (by omega)⟩
      obtain ⟨b1086, o1087, cu1088, fz1089, ha1090, hb1091, hk1092⟩ := SlR.at_ h_list _ hx1085
      cases ha1090
      refine Op.idx (T := 52) (E := 59) (sz := 6) (by_ := 72) (n := list.length) (c := n_list) (k := .i64) (x := (.tmp 25)) (ix := (.tmp 27)) (dst := 28) (bk := b1017) (o := o1018) (m := i - 1) (by kernel_rfl) (by kernel_rfl) (by kernel_rfl) (by kernel_rfl) (by omega) (by omega) ?_
      obtain ⟨v1093, hv1094, hk1092⟩ := hk1092
      obtain ⟨a1095, n1096, rfl⟩ := hv1094.form
      refine Op.pures 2 [0, 1, 5, 7, 10, 11, 12, 21, 24, 29, 31] (L' := [(13, true), (15, false), (16, true), (17, true), (18, true)]) (e' := [(0, .pointer (some ⟨b_t, 0, none⟩)), (1, .slice (some ⟨b1017, o1018, none⟩) list.length n_list), (5, .map (some m1001)), (7, .pointer (some ⟨b1028, 0, none⟩)), (10, .slice (some ⟨b1017, o1018, none⟩) list.length n_list), (11, .int .i64 (list.length : Int)), (12, .int .i64 i), (21, .bool false), (24, .bool true), (29, .pointer (some ⟨b1017, o1018 + (i - 1 : Int).toNat * 6, none⟩)), (31, .pointer (some ⟨b1028, 0, none⟩))]) (by kernel_rfl) ?_
      refine Op.loadF (T := 9) (x := (.tmp 29)) (o := o1018 + (i - 1 : Int).toNat * 6) (d := 30) (n := 1) (v := .string (mkS x1084.Path)) (by kernel_rfl) (by kernel_rfl) (by kernel_rfl) (fun h => h) (s1032.sub _ _ hb1091) (cut_get hk1092 0 rfl) ?_
      refine Op.load (T := 9) (x := (.tmp 31)) (o := 0) (d := 32) (n := 1) (v := .string (mkS x1015.Path)) (by kernel_rfl) (by kernel_rfl) (by kernel_rfl) (s1076.chunk 1 rfl) (by kernel_rfl) ?_
      refine Op.val (dst := some 33) (v := .bool (!(Go.Op.bytesLess (mkS x1084.Path).toList (mkS x1015.Path).toList))) (v' := .bool (!(Go.Op.bytesLess x1084.Path x1015.Path))) (by kernel_rfl) (by rw [toList_mkS, toList_mkS]) ?_
      refine Op.pures 2 [0, 1, 5, 7, 10, 11, 12, 35] (L' := []) (e' := [(0, .pointer (some ⟨b_t, 0, none⟩)), (1, .slice (some ⟨b1017, o1018, none⟩) list.length n_list), (5, .map (some m1001)), (7, .pointer (some ⟨b1028, 0, none⟩)), (10, .slice (some ⟨b1017, o1018, none⟩) list.length n_list), (11, .int .i64 (list.length : Int)), (12, .int .i64 i), (35, .bool (!(Go.Op.bytesLess x1084.Path x1015.Path)))]) (by kernel_rfl) ?_
      refine Op.goto 7 (by kernel_rfl) ?_
      refine At.cond (b := !(Go.Op.bytesLess x1084.Path x1015.Path)) (c := .tmp 35) (by kernel_rfl) (by kernel_rfl) (by kernel_rfl) 8 10 (by kernel_rfl) (by kernel_rfl) (fun hb => ?_) (fun hb => ?_)
      ·have c1097 : (Go.Op.bytesLess x1084.Path x1015.Path) = false := (notT hb)
       clear hb
       refine At.keep [] ?_; show At _ _ _ [] _
       refine At.reg (L := [(0, false)]) (by kernel_rfl) ?_
       refine Op.pures 1 [4] (L' := []) (e' := [(4, .bool false)]) (by kernel_rfl) ?_
       refine Op.goto 9 (by kernel_rfl) ?_
       refine At.ret (f := Tryz.f52) (v := .bool false) (by kernel_rfl) (by kernel_rfl) ?_
       have s1098 : St h g (ids [c_t]) g1013 [c_t] h1075 := (s1076).drop.drop
       have s1099 : St h g (ids [c_t]) g [c_t] h1075 := s1098.unfrz
       replace o_t := o_t.flat (g' := g)
       refine hR _ _ _ _ s1099 ⟨c_t, ?_, ?_, rfl, rfl⟩
       ·exact (eqB (by exact ld_rise (by omega) hx1016 hx1085 (by assumption)))
       ·exact o_t.eq (by (rw [← ld_rise (by omega) hx1016 hx1085 (by assumption)]; rfl))
      ·have c1100 : (Go.Op.bytesLess x1084.Path x1015.Path) = true := (notF hb)
       clear hb
       refine At.keep [0, 1, 5, 7, 10, 11, 12] ?_; show At _ _ _ [(0, .pointer (some ⟨b_t, 0, none⟩)), (1, .slice (some ⟨b1017, o1018, none⟩) list.length n_list), (5, .map (some m1001)), (7, .pointer (some ⟨b1028, 0, none⟩)), (10, .slice (some ⟨b1017, o1018, none⟩) list.length n_list), (11, .int .i64 (list.length : Int)), (12, .int .i64 i)] _
       have s1101 : St h g (ids [c_t]) g1013 [[(b1028, Obj.cells #[.string (mkS x1015.Path), .slice a1026 x1015.Data.length n1027, .int .i64 x1015.Version, .int .i64 x1015.Owner, .int .i64 x1015.Next, .int .i64 x1015.Born] 59 (0, 0))], c1010, c_t] h1075 := ((s1076.front 0 rfl).front 1 rfl)
       exact join10 _   _ (Nat.lt_succ_self _) (by exact SeenT_r1 (by omega) (by rw [← hlv]; assumption) hx1085 c1100)  s1101
     ·refine Op.cast (e' := [(0, .pointer (some ⟨b_t, 0, none⟩)), (1, .slice (some ⟨b1017, o1018, none⟩) list.length n_list), (5, .map (some m1001)), (6, .int .i64 i), (7, .pointer (some ⟨b1028, 0, none⟩)), (10, .slice (some ⟨b1017, o1018, none⟩) list.length n_list), (11, .int .i64 (list.length : Int)), (12, .int .i64 i), (21, .bool false), (24, .bool false)]) (by rw [hb]) ?_
      have c1102 : ¬ (i > (0 : Int)) := of_decide_eq_false hb
      clear hb
      refine Op.pures 11 [0, 1, 5, 7, 10, 11, 12, 35] (L' := []) (e' := [(0, .pointer (some ⟨b_t, 0, none⟩)), (1, .slice (some ⟨b1017, o1018, none⟩) list.length n_list), (5, .map (some m1001)), (7, .pointer (some ⟨b1028, 0, none⟩)), (10, .slice (some ⟨b1017, o1018, none⟩) list.length n_list), (11, .int .i64 (list.length : Int)), (12, .int .i64 i), (35, .bool false)]) (by kernel_rfl) ?_
      refine Op.goto 7 (by kernel_rfl) ?_
      refine At.condF (c := .tmp 35) (by kernel_rfl) (by kernel_rfl) (by kernel_rfl) 10 (by kernel_rfl) ?_
      refine At.keep [0, 1, 5, 7, 10, 11, 12] ?_; show At _ _ _ [(0, .pointer (some ⟨b_t, 0, none⟩)), (1, .slice (some ⟨b1017, o1018, none⟩) list.length n_list), (5, .map (some m1001)), (7, .pointer (some ⟨b1028, 0, none⟩)), (10, .slice (some ⟨b1017, o1018, none⟩) list.length n_list), (11, .int .i64 (list.length : Int)), (12, .int .i64 i)] _
      have s1103 : St h g (ids [c_t]) g1013 [[(b1028, Obj.cells #[.string (mkS x1015.Path), .slice a1026 x1015.Data.length n1027, .int .i64 x1015.Version, .int .i64 x1015.Owner, .int .i64 x1015.Next, .int .i64 x1015.Born] 59 (0, 0))], c1010, c_t] h1075 := ((s1076.front 0 rfl).front 1 rfl)
      exact join10 _   _ (Nat.lt_succ_self _) (by exact SeenT_r0 (by omega) h0 (by rw [← hlv]; assumption))  s1103
   ·have c1104 : ¬ (i < (list.length : Int)) := of_decide_eq_false hb
    clear hb
    refine At.keep [0, 1, 5] ?_; show At _ _ _ [(0, .pointer (some ⟨b_t, 0, none⟩)), (1, .slice a_list list.length n_list), (5, .map (some m1001))] _
    have join17 : ∀ (m : Nat)  (h1105 : Heap) (hm : 0 < m) (hle : true = loadB list ∧ list.take i.toNat = list)     (s_join171104 : St h g (ids [c_t]) g1013 [c1010, c_t] h1105), At (fctx Tryz.prog B 52 Tryz.f52 R) [] 17 [(0, .pointer (some ⟨b_t, 0, none⟩)), (5, .map (some m1001))] h1105 := by
     intro m; induction m with
     | zero => intros; omega
     | succ m ih17 =>
      intro h1105 hm hle s_join171104
      refine At.reg (L := [(0, false), (1, false), (2, false), (3, false), (4, false)]) (by kernel_rfl) ?_
      refine Op.pures 4 [50, 52] (L' := [(4, false)]) (e' := [(50, .map (some m1001)), (52, .pointer (some ⟨b_t, 0, none⟩))]) (by kernel_rfl) ?_
      obtain ⟨b1106, c1107, e1108, R1109⟩ := o_t
      have s1110 : St h g (ids [c_t]) g1013 [c_t, c1010] h1105 := ((s_join171104.front 0 rfl).front 1 rfl)
      have s1111 : St h g (ids [c_t]) g1013 [[(b_t, Obj.cells #[.map (some b1106)] 128 (0, 0))], c1107, c1010] h1105 := St.flat (L := [c_t, c1010]) (by rw [e1108]; simp only [List.flatten_cons, List.append_assoc, List.cons_append, List.nil_append, List.append_nil]) s1110
      refine Op.store (T := 126) (x := (.tmp 52)) (y := (.tmp 50)) (b := b_t) (o := 0) (vs := [.map (some m1001)]) (a? := false) (n := 1) (by kernel_rfl) (by kernel_rfl) (by kernel_rfl) (by kernel_rfl) rfl (by simp [Value.oneCell']) s1111 0 rfl (Nat.le_of_ble_eq_true (by kernel_rfl)) (cs := #[.map (some b1106)]) (cs' := #[.map (some m1001)]) (by kernel_rfl) (fun _ => trivial) ?_
      intro h1112 s1113
      refine Op.goto 18 (by kernel_rfl) ?_
      refine At.reg (L := [(0, false)]) (by kernel_rfl) ?_
      refine Op.pures 1 [4] (L' := []) (e' := [(4, .bool true)]) (by kernel_rfl) ?_
      refine Op.goto 19 (by kernel_rfl) ?_
      have s1114 : St h g (ids [c_t]) g1013 [[(b_t, Obj.cells #[.map (some m1001)] 128 (0, 0))], c1010, c1107] h1112 := (((s1113.front 1 rfl).front 2 rfl).front 2 rfl)
      obtain ⟨c1115, o1116, s1117⟩ : ∃ c, IsTree g1013 b_t lv c ∧ St h g (ids [c_t]) g1013 (c :: [c1107]) h1112 := ⟨_, ⟨_, _, rfl, o1011⟩, St.flat (L := [[(b_t, Obj.cells #[.map (some m1001)] 128 (0, 0))], c1010, c1107]) (by simp only [List.flatten_cons, List.append_assoc, List.cons_append, List.nil_append, List.append_nil]) s1114⟩
      refine At.ret (f := Tryz.f52) (v := .bool true) (by kernel_rfl) (by kernel_rfl) ?_
      have s1118 : St h g (ids [c_t]) g1013 [c1107, c1115] h1112 := ((s1117.front 0 rfl).front 1 rfl)
      have s1119 : St h g (ids [c_t]) g1013 [c1115] h1112 := (s1118).drop
      have s1120 : St h g (ids [c_t]) g [c1115] h1112 := s1119.unfrz
      replace o1116 := o1116.flat (g' := g)
      refine hR _ _ _ _ s1120 ⟨c1115, ?_, ?_, rfl, rfl⟩
      ·exact (eqB (by exact hle.1))
      ·exact o1116.eq (by (rw [← hle.1, hlv]; exact hle.2))
    refine At.reg (L := [(0, false), (1, false), (2, false), (3, false), (4, false), (5, false), (6, false), (7, false)]) (by kernel_rfl) ?_
    refine Op.pures 4 [0, 1, 5, 44] (L' := [(4, false), (5, false), (6, false), (7, false)]) (e' := [(0, .pointer (some ⟨b_t, 0, none⟩)), (1, .slice a_list list.length n_list), (5, .map (some m1001)), (44, .bool ((list.length : Int) == (0 : Int)))]) (by kernel_rfl) ?_
    refine Op.ways (b := (list.length : Int) == (0 : Int)) ⟨fun hb => ?_, fun hb => ?_⟩
    ·refine Op.cast (e' := [(0, .pointer (some ⟨b_t, 0, none⟩)), (1, .slice a_list list.length n_list), (5, .map (some m1001)), (44, .bool true)]) (by rw [hb]) ?_
     have c1121 : (list.length : Int) = (0 : Int) := eq_of_beq hb
     clear hb
     refine Op.pures 4 [0, 5, 48] (L' := []) (e' := [(0, .pointer (some ⟨b_t, 0, none⟩)), (5, .map (some m1001)), (48, .bool true)]) (by kernel_rfl) ?_
     refine Op.goto 14 (by kernel_rfl) ?_
     refine At.condT (c := .tmp 48) (by kernel_rfl) (by kernel_rfl) (by kernel_rfl) 15 (by kernel_rfl) ?_
     refine At.reg (L := [(0, false)]) (by kernel_rfl) ?_
     refine Op.pures 1 [4] (L' := []) (e' := [(4, .bool false)]) (by kernel_rfl) ?_
     refine Op.goto 16 (by kernel_rfl) ?_
     refine At.ret (f := Tryz.f52) (v := .bool false) (by kernel_rfl) (by kernel_rfl) ?_
     have s1122 : St h g (ids [c_t]) g1013 [c_t] h1012 := (s_loop31011).drop
     have s1123 : St h g (ids [c_t]) g [c_t] h1012 := s1122.unfrz
     replace o_t := o_t.flat (g' := g)
     refine hR _ _ _ _ s1123 ⟨c_t, ?_, ?_, rfl, rfl⟩
     ·exact (eqB (by exact load_len (by omega)))
     ·exact o_t.eq (by (rw [← load_len (by omega)]; rfl))
    ·refine Op.cast (e' := [(0, .pointer (some ⟨b_t, 0, none⟩)), (1, .slice a_list list.length n_list), (5, .map (some m1001)), (44, .bool false)]) (by rw [hb]) ?_
     have c1124 : ¬ ((list.length : Int) = (0 : Int)) := neF hb
     clear hb
     refine Op.pures 4 [0, 5, 48] (L' := []) (e' := [(0, .pointer (some ⟨b_t, 0, none⟩)), (5, .map (some m1001)), (48, .bool (decide ((list.length : Int) > (32 : Int))))]) (by kernel_rfl) ?_
     refine Op.goto 14 (by kernel_rfl) ?_
     refine At.cond (b := decide ((list.length : Int) > (32 : Int))) (c := .tmp 48) (by kernel_rfl) (by kernel_rfl) (by kernel_rfl) 15 17 (by kernel_rfl) (by kernel_rfl) (fun hb => ?_) (fun hb => ?_)
     ·have c1125 : (list.length : Int) > (32 : Int) := of_decide_eq_true hb
      clear hb
      refine At.keep [] ?_; show At _ _ _ [] _
      refine At.reg (L := [(0, false)]) (by kernel_rfl) ?_
      refine Op.pures 1 [4] (L' := []) (e' := [(4, .bool false)]) (by kernel_rfl) ?_
      refine Op.goto 16 (by kernel_rfl) ?_
      refine At.ret (f := Tryz.f52) (v := .bool false) (by kernel_rfl) (by kernel_rfl) ?_
      have s1126 : St h g (ids [c_t]) g1013 [c_t] h1012 := (s_loop31011).drop
      have s1127 : St h g (ids [c_t]) g [c_t] h1012 := s1126.unfrz
      replace o_t := o_t.flat (g' := g)
      refine hR _ _ _ _ s1127 ⟨c_t, ?_, ?_, rfl, rfl⟩
      ·exact (eqB (by exact load_len (by omega)))
      ·exact o_t.eq (by (rw [← load_len (by omega)]; rfl))
     ·have c1128 : ¬ ((list.length : Int) > (32 : Int)) := of_decide_eq_false hb
      clear hb
      refine At.keep [0, 5] ?_; show At _ _ _ [(0, .pointer (some ⟨b_t, 0, none⟩)), (5, .map (some m1001))] _
      exact join17 _   _ (Nat.lt_succ_self _) (by exact SeenT_end hsn (by assumption) (by omega) (by omega))  s_loop31011
 exact loop3 _ _ (gle.refl _) 0 ([] : List Leaf) _ _ (Nat.lt_succ_self _) (by omega) (by omega) (by rfl) (by exact SeenT_0 _) o1008 s1009
end Go.Proofs.YtmjebehhpojihaaGreatDoor.Sw
namespace Go.Proofs.YtmjebehhpojihaaGreatDoor.Sw
set_option linter.unusedVariables false
set_option linter.unusedSimpArgs false
set_option linter.deprecated false
open Go
section
variable {k : Int} {ns : List Leaf} {ow : List Int}
end
section
variable {k : Int} {ns : List Leaf} {p data : Str} {num : Bool}
structure Back (k : Int) (ns : List Leaf) (p data : Str) (num : Bool) (q : Str) (up : Leaf) (n1 : List Leaf) : Prop where
  make : makeT ns p data (-1) 5 num = (n1, q, 0)
  ok : TreeOk (k + 1) n1
  get : getT n1 q = (⟨q, data, 0, -1, 0, 5⟩, 0)
  len : n1.length = ns.length + 1
  set : ∀ d : Str, d.length ≤ 128 → setT n1 q d 0 = (withL n1 ⟨q, d, 1, -1, 0, 5⟩, 1, 0)
  ok2 : ∀ d : Str, d.length ≤ 128 → TreeOk (k + 2) (withL n1 ⟨q, d, 1, -1, 0, 5⟩)
  set2 : ∀ d d2 : Str, d.length ≤ 128 → setT (withL n1 ⟨q, d, 1, -1, 0, 5⟩) q d2 0 = (withL n1 ⟨q, d, 1, -1, 0, 5⟩, 0, 102)
  drop1 : ∀ d : Str, d.length ≤ 128 → dropT (withL n1 ⟨q, d, 1, -1, 0, 5⟩) q 0 = (withL n1 ⟨q, d, 1, -1, 0, 5⟩, 102)
  drop2 : ∀ d : Str, d.length ≤ 128 → dropT (withL n1 ⟨q, d, 1, -1, 0, 5⟩) q 1 = (upL ns up num, 0)
  up : up ∈ ns ∧ parentOf q = up.Path ∧ cutErr q = 0
end
section
variable {k : Int} {ns : List Leaf}
end
end Go.Proofs.YtmjebehhpojihaaGreatDoor.Sw
namespace Go.Proofs.YtmjebehhpojihaaGreatDoor.Sw
open Go
set_option maxRecDepth 100000
set_option linter.unusedVariables false
set_option linter.unusedSimpArgs false
set_option linter.deprecated false
theorem copyBytes (B : World) (h : Heap) (g : GH) (hg : Sub g h) (hG : Glob g) (v_s : Value) (s : List UInt8) (h_s : SlR g 5 kU8 v_s s) (h1 : s.length ≤ 1000000000) :
  Spec Tryz.prog B 29 #[v_s] h g [] (fun rv g' L' => ∃ v0 k0, rv = v0 ∧ Row 5 kU8 g' v0 s k0 ∧ g' = g ∧ L' = [k0]) := by
 obtain ⟨a_s, n_s, rfl⟩ := h_s.form
 refine Spec.of_at (f := Tryz.f29) (e := [(0, .slice a_s s.length n_s)]) Tryz.func29 (by kernel_rfl) (Nat.le_of_ble_eq_true (by kernel_rfl)) (by kernel_rfl) (by kernel_rfl) ?_
 intro R hR
 have s0 := St.init hg
 refine At.reg (L := [(0, false)]) (by kernel_rfl) ?_
 refine Op.pures 1 [0] (L' := []) (e' := [(0, .slice a_s s.length n_s)]) (by kernel_rfl) ?_
 refine Op.goto 1 (by kernel_rfl) ?_
 refine At.reg (L := [(0, false), (1, false)]) (by kernel_rfl) ?_
 refine Op.lit (T := 29) (len := 0) (parts := #[]) (dst := 4) (E := 5) (ps := []) (cs := #[]) (by kernel_rfl) (by kernel_rfl) (by kernel_rfl) s0 ?_
 intro b1001 h1002 s1003
 refine Op.pures 1 [0, 3] (L' := []) (e' := [(0, .slice a_s s.length n_s), (3, .slice (some ⟨b1001, 0, none⟩) 0 0)]) (by kernel_rfl) ?_
 refine Op.goto 2 (by kernel_rfl) ?_
 refine At.reg (L := [(0, false), (1, false), (2, false), (3, false)]) (by kernel_rfl) ?_
 refine Op.pures 2 [3, 5, 6] (L' := [(2, false), (3, false)]) (e' := [(3, .slice (some ⟨b1001, 0, none⟩) 0 0), (5, .slice (some ⟨b1001, 0, none⟩) 0 0), (6, .slice a_s s.length n_s)]) (by kernel_rfl) ?_
 have R1004 : Row 5 kU8 g (.slice (some ⟨b1001, 0, none⟩) 0 0) ([] : List UInt8) [(b1001, Obj.cells #[] 5 (0, 0))] := Row.lit (by kernel_rfl) (by unfold maxLen; decide) (by kernel_rfl) Reads.nil
 obtain ⟨ns1005, hs1006, hr1007⟩ := Src.slice (P := Tryz.prog) (h_s.toH s1003.sub)
 refine Op.append (x := (.tmp 5)) (y := (.tmp 6)) (t := 29) (t' := 29) (dst := 7) (E := 5) (by_ := 1) (d := kU8) (by kernel_rfl) (by kernel_rfl) (by kernel_rfl) (by kernel_rfl) rfl R1004 s1003 0 rfl hs1006 (ys := s) hr1007 rfl (by (simp only [List.length_append, List.length_cons, List.length_nil, List.length_take, List.length_drop]; omega)) (fun _ _ _ => trivial) ?_
 intro v1008 ch1009 h1010 R1011 s1012 nn1013
 obtain ⟨a1014, n1015, rfl⟩ := R1011.form
 refine Op.pures 1 [3] (L' := []) (e' := [(3, .slice a1014 ((([] : List UInt8) ++ s).length) n1015)]) (by kernel_rfl) ?_
 refine Op.goto 3 (by kernel_rfl) ?_
 refine At.reg (L := [(0, false), (1, false)]) (by kernel_rfl) ?_
 refine Op.pures 2 [2] (L' := []) (e' := [(2, .slice a1014 ((([] : List UInt8) ++ s).length) n1015)]) (by kernel_rfl) ?_
 refine Op.goto 4 (by kernel_rfl) ?_
 refine At.ret (f := Tryz.f29) (v := .slice a1014 ((([] : List UInt8) ++ s).length) n1015) (by kernel_rfl) (by kernel_rfl) ?_
 refine hR _ _ _ _ s1012 ⟨(.slice a1014 ((([] : List UInt8) ++ s).length) n1015), ch1009, ?_, ?_, rfl, rfl⟩
 ·exact rfl
 ·exact rowEq R1011 (by simp)
theorem sameBytes (B : World) (h : Heap) (g : GH) (hg : Sub g h) (hG : Glob g) (v_a : Value) (a : List UInt8) (h_a : SlR g 5 kU8 v_a a) (v_b : Value) (b : List UInt8) (h_b : SlR g 5 kU8 v_b b) (h1 : a.length ≤ 1000000000) :
  Spec Tryz.prog B 40 #[v_a, v_b] h g [] (fun rv g' L' => rv = .bool (decide (a = b)) ∧ g' = g ∧ L' = []) := by
 obtain ⟨a_a, n_a, rfl⟩ := h_a.form
 obtain ⟨a_b, n_b, rfl⟩ := h_b.form
 refine Spec.of_at (f := Tryz.f40) (e := [(0, .slice a_a a.length n_a), (1, .slice a_b b.length n_b)]) Tryz.func40 (by kernel_rfl) (Nat.le_of_ble_eq_true (by kernel_rfl)) (by kernel_rfl) (by kernel_rfl) ?_
 intro R hR
 have s0 := St.init hg
 refine At.reg (L := [(0, false)]) (by kernel_rfl) ?_
 refine Op.pures 1 [0, 1] (L' := []) (e' := [(0, .slice a_a a.length n_a), (1, .slice a_b b.length n_b)]) (by kernel_rfl) ?_
 refine Op.goto 1 (by kernel_rfl) ?_
 refine At.reg (L := [(0, false), (1, false), (2, false), (3, false), (4, false)]) (by kernel_rfl) ?_
 refine Op.pures 5 [0, 1, 10] (L' := []) (e' := [(0, .slice a_a a.length n_a), (1, .slice a_b b.length n_b), (10, .bool ((a.length : Int) != (b.length : Int)))]) (by kernel_rfl) ?_
 refine Op.goto 2 (by kernel_rfl) ?_
 refine At.cond (b := (a.length : Int) != (b.length : Int)) (c := .tmp 10) (by kernel_rfl) (by kernel_rfl) (by kernel_rfl) 3 5 (by kernel_rfl) (by kernel_rfl) (fun hb => ?_) (fun hb => ?_)
 ·have c1031 : ¬ ((a.length : Int) = (b.length : Int)) := bneT hb
  clear hb
  refine At.keep [] ?_; show At _ _ _ [] _
  refine At.reg (L := [(0, false)]) (by kernel_rfl) ?_
  refine Op.pures 1 [4] (L' := []) (e' := [(4, .bool false)]) (by kernel_rfl) ?_
  refine Op.goto 4 (by kernel_rfl) ?_
  refine At.ret (f := Tryz.f40) (v := .bool false) (by kernel_rfl) (by kernel_rfl) ?_
  refine hR _ _ _ _ s0 ⟨?_, rfl, rfl⟩
  exact (eqB (by exact sameE_len (by assumption)))
 ·have c1032 : (a.length : Int) = (b.length : Int) := bneF hb
  clear hb
  refine At.keep [0, 1] ?_; show At _ _ _ [(0, .slice a_a a.length n_a), (1, .slice a_b b.length n_b)] _
  refine At.reg (L := [(0, false)]) (by kernel_rfl) ?_
  refine Op.pures 1 [0, 1, 5] (L' := []) (e' := [(0, .slice a_a a.length n_a), (1, .slice a_b b.length n_b), (5, .int .i64 0)]) (by kernel_rfl) ?_
  refine Op.goto 6 (by kernel_rfl) ?_
  have loop6 : ∀ (m : Nat) (i : Int) (h1033 : Heap) (hm : a.length - i.toNat < m) (h0 : 0 ≤ i) (h2 : i ≤ a.length) (ht : a.take i.toNat = b.take i.toNat)     (s_loop61032 : St h g (ids []) g [] h1033), At (fctx Tryz.prog B 40 Tryz.f40 R) [] 6 [(0, .slice a_a a.length n_a), (1, .slice a_b b.length n_b), (5, .int .i64 i)] h1033 := by
   intro m; induction m with
   | zero => intros; omega
   | succ m ih6 =>
    intro i h1033 hm h0 h2 ht s_loop61032
    refine At.reg (L := [(0, false), (1, false), (2, false), (3, false)]) (by kernel_rfl) ?_
    refine Op.pures 4 [0, 1, 5, 14] (L' := []) (e' := [(0, .slice a_a a.length n_a), (1, .slice a_b b.length n_b), (5, .int .i64 i), (14, .bool (decide (i < (a.length : Int))))]) (by kernel_rfl) ?_
    refine Op.goto 7 (by kernel_rfl) ?_
    refine At.cond (b := decide (i < (a.length : Int))) (c := .tmp 14) (by kernel_rfl) (by kernel_rfl) (by kernel_rfl) 8 13 (by kernel_rfl) (by kernel_rfl) (fun hb => ?_) (fun hb => ?_)
    ·have c1034 : i < (a.length : Int) := of_decide_eq_true hb
     clear hb
     refine At.keep [0, 1, 5] ?_; show At _ _ _ [(0, .slice a_a a.length n_a), (1, .slice a_b b.length n_b), (5, .int .i64 i)] _
     refine At.draw (by kernel_rfl) (fun _ => False) [(0, true), (1, true), (2, true), (4, true), (5, true), (6, true), (3, true), (7, false), (8, true)] (by kernel_rfl) ?_
     refine Op.pures 2 [0, 1, 5, 17, 18] (L' := [(2, true), (4, true), (5, true), (6, true), (3, true), (7, false), (8, true)]) (e' := [(0, .slice a_a a.length n_a), (1, .slice a_b b.length n_b), (5, .int .i64 i), (17, .slice a_a a.length n_a), (18, .int .i64 i)]) (by kernel_rfl) ?_
     obtain ⟨x1035, hx1036⟩ : ∃ c, a[(i : Int).toNat]? = some c := ⟨_, List.getElem?_eq_getElem (by omega)⟩
     obtain ⟨b1037, o1038, cu1039, fz1040, ha1041, hb1042, hk1043⟩ := SlR.at_ h_a _ hx1036
     cases ha1041
     refine Op.idx (T := 29) (E := 5) (sz := 1) (by_ := 1) (n := a.length) (c := n_a) (k := .i64) (x := (.tmp 17)) (ix := (.tmp 18)) (dst := 19) (bk := b1037) (o := o1038) (m := i) (by kernel_rfl) (by kernel_rfl) (by kernel_rfl) (by kernel_rfl) (by omega) (by omega) ?_
     replace hk1043 : cut _ _ _ = [.int .u8 (x1035.toNat : Int)] := hk1043
     refine Op.pures 2 [0, 1, 5, 19, 21, 22] (L' := [(6, true), (3, true), (7, false), (8, true)]) (e' := [(0, .slice (some ⟨b1037, o1038, none⟩) a.length n_a), (1, .slice a_b b.length n_b), (5, .int .i64 i), (19, .pointer (some ⟨b1037, o1038 + (i : Int).toNat * 1, none⟩)), (21, .slice a_b b.length n_b), (22, .int .i64 i)]) (by kernel_rfl) ?_
     obtain ⟨x1044, hx1045⟩ : ∃ c, b[(i : Int).toNat]? = some c := ⟨_, List.getElem?_eq_getElem (by omega)⟩
     obtain ⟨b1046, o1047, cu1048, fz1049, ha1050, hb1051, hk1052⟩ := SlR.at_ h_b _ hx1045
     cases ha1050
     refine Op.idx (T := 29) (E := 5) (sz := 1) (by_ := 1) (n := b.length) (c := n_b) (k := .i64) (x := (.tmp 21)) (ix := (.tmp 22)) (dst := 23) (bk := b1046) (o := o1047) (m := i) (by kernel_rfl) (by kernel_rfl) (by kernel_rfl) (by kernel_rfl) (by omega) (by omega) ?_
     replace hk1052 : cut _ _ _ = [.int .u8 (x1044.toNat : Int)] := hk1052
     refine Op.loadF (T := 5) (x := (.tmp 19)) (o := o1038 + (i : Int).toNat * 1) (d := 20) (n := 1) (v := .int .u8 (x1035.toNat : Int)) (by kernel_rfl) (by kernel_rfl) (by kernel_rfl) (fun h => h) (s_loop61032.sub _ _ hb1042) (cut_get hk1043 0 rfl) ?_
     refine Op.load (T := 5) (x := (.tmp 23)) (o := o1047 + (i : Int).toNat * 1) (d := 24) (n := 1) (v := .int .u8 (x1044.toNat : Int)) (by kernel_rfl) (by kernel_rfl) (by kernel_rfl) (s_loop61032.sub _ _ hb1051) (cut_get hk1052 0 rfl) ?_
     refine Op.pures 1 [0, 1, 5, 25] (L' := []) (e' := [(0, .slice (some ⟨b1037, o1038, none⟩) a.length n_a), (1, .slice (some ⟨b1046, o1047, none⟩) b.length n_b), (5, .int .i64 i), (25, .bool ((x1035.toNat : Int) != (x1044.toNat : Int)))]) (by kernel_rfl) ?_
     refine Op.goto 9 (by kernel_rfl) ?_
     refine At.cond (b := (x1035.toNat : Int) != (x1044.toNat : Int)) (c := .tmp 25) (by kernel_rfl) (by kernel_rfl) (by kernel_rfl) 10 12 (by kernel_rfl) (by kernel_rfl) (fun hb => ?_) (fun hb => ?_)
     ·have c1053 : ¬ ((x1035.toNat : Int) = (x1044.toNat : Int)) := bneT hb
      clear hb
      refine At.keep [] ?_; show At _ _ _ [] _
      refine At.reg (L := [(0, false)]) (by kernel_rfl) ?_
      refine Op.pures 1 [4] (L' := []) (e' := [(4, .bool false)]) (by kernel_rfl) ?_
      refine Op.goto 11 (by kernel_rfl) ?_
      refine At.ret (f := Tryz.f40) (v := .bool false) (by kernel_rfl) (by kernel_rfl) ?_
      refine hR _ _ _ _ s_loop61032 ⟨?_, rfl, rfl⟩
      exact (eqB (by exact sameE_ne hx1036 hx1045 (u8_ne c1053)))
     ·have c1054 : (x1035.toNat : Int) = (x1044.toNat : Int) := bneF hb
      clear hb
      refine At.keep [0, 1, 5] ?_; show At _ _ _ [(0, .slice (some ⟨b1037, o1038, none⟩) a.length n_a), (1, .slice (some ⟨b1046, o1047, none⟩) b.length n_b), (5, .int .i64 i)] _
      refine At.reg (L := [(0, false), (1, false), (2, false)]) (by kernel_rfl) ?_
      refine Op.pures 1 [0, 1, 5, 15] (L' := [(1, false), (2, false)]) (e' := [(0, .slice (some ⟨b1037, o1038, none⟩) a.length n_a), (1, .slice (some ⟨b1046, o1047, none⟩) b.length n_b), (5, .int .i64 i), (15, .int .i64 i)]) (by kernel_rfl) ?_
      refine Op.val (dst := some 16) (v := .int .i64 (IntKind.wrap .i64 (i + 1))) (v' := .int .i64 (i + 1)) (by kernel_rfl) (wrapEq_i64 (by omega) (by omega)) ?_
      refine Op.pures 1 [0, 1, 5] (L' := []) (e' := [(0, .slice (some ⟨b1037, o1038, none⟩) a.length n_a), (1, .slice (some ⟨b1046, o1047, none⟩) b.length n_b), (5, .int .i64 (i + 1))]) (by kernel_rfl) ?_
      refine Op.goto 6 (by kernel_rfl) ?_
      exact ih6  (i + 1) _ (by omega) (by omega) (by omega) (by exact take_step ht h0 hx1036 hx1045 (u8_eq c1054))  s_loop61032
    ·have c1055 : ¬ (i < (a.length : Int)) := of_decide_eq_false hb
     clear hb
     refine At.keep [] ?_; show At _ _ _ [] _
     refine At.reg (L := [(0, false)]) (by kernel_rfl) ?_
     refine Op.pures 1 [4] (L' := []) (e' := [(4, .bool true)]) (by kernel_rfl) ?_
     refine Op.goto 14 (by kernel_rfl) ?_
     refine At.ret (f := Tryz.f40) (v := .bool true) (by kernel_rfl) (by kernel_rfl) ?_
     refine hR _ _ _ _ s_loop61032 ⟨?_, rfl, rfl⟩
     exact (eqB (by exact sameE_end (by assumption) c1055 ht))
  exact loop6 _  0 _ (Nat.lt_succ_self _) (by omega) (by omega) (by rfl)  s0
theorem copyLeaves (B : World) (h : Heap) (g : GH) (hg : Sub g h) (hG : Glob g) (v_s : Value) (s : List Leaf) (h_s : SlR g 59 kLeaf v_s s) (h1 : s.length ≤ 1000000) (hd : ∀ n ∈ s, n.Data.length ≤ 1000000000) :
  Spec Tryz.prog B 51 #[v_s] h g [] (fun rv g' L' => ∃ v0, rv = v0 ∧ SlR g' 59 kLeaf v0 s ∧ L' = []) := by
 obtain ⟨a_s, n_s, rfl⟩ := h_s.form
 refine Spec.of_at (f := Tryz.f51) (e := [(0, .slice a_s s.length n_s)]) Tryz.func51 (by kernel_rfl) (Nat.le_of_ble_eq_true (by kernel_rfl)) (by kernel_rfl) (by kernel_rfl) ?_
 intro R hR
 have s0 := St.init hg
 refine At.reg (L := [(0, false)]) (by kernel_rfl) ?_
 refine Op.pures 1 [0] (L' := []) (e' := [(0, .slice a_s s.length n_s)]) (by kernel_rfl) ?_
 refine Op.goto 1 (by kernel_rfl) ?_
 refine At.reg (L := [(0, false), (1, false)]) (by kernel_rfl) ?_
 refine Op.lit (T := 52) (len := 0) (parts := #[]) (dst := 6) (E := 59) (ps := []) (cs := #[]) (by kernel_rfl) (by kernel_rfl) (by kernel_rfl) s0 ?_
 intro b1084 h1085 s1086
 refine Op.pures 1 [0, 3] (L' := []) (e' := [(0, .slice a_s s.length n_s), (3, .slice (some ⟨b1084, 0, none⟩) 0 0)]) (by kernel_rfl) ?_
 refine Op.goto 2 (by kernel_rfl) ?_
 refine At.reg (L := [(0, false)]) (by kernel_rfl) ?_
 refine Op.pures 1 [0, 3, 4] (L' := []) (e' := [(0, .slice a_s s.length n_s), (3, .slice (some ⟨b1084, 0, none⟩) 0 0), (4, .int .i64 0)]) (by kernel_rfl) ?_
 refine Op.goto 3 (by kernel_rfl) ?_
 have loop3 : ∀ (m : Nat) (g1092 : GH) (hleg1092 : gle g g1092) (out : List Leaf) (i : Int) (a1087 : Option Addr) (n1088 : Nat) (ch1089 : Chunk) (h1091 : Heap) (hm : s.length - i.toNat < m) (h0 : 0 ≤ i) (h2 : i ≤ s.length) (ho : out = s.take i.toNat) (R1090 : Row 59 kLeaf g1092 (.slice a1087 out.length n1088) out ch1089)    (s_loop31090 : St h g (ids []) g1092 [ch1089] h1091), At (fctx Tryz.prog B 51 Tryz.f51 R) [] 3 [(0, .slice a_s s.length n_s), (3, .slice a1087 out.length n1088), (4, .int .i64 i)] h1091 := by
  intro m; induction m with
  | zero => intros; omega
  | succ m ih3 =>
   intro g1092 hleg1092 out i a1087 n1088 ch1089 h1091 hm h0 h2 ho R1090 s_loop31090
   replace hG := hG.mono hleg1092
   replace h_s := h_s.mono hleg1092
   refine At.reg (L := [(0, false), (1, false), (2, false), (3, false)]) (by kernel_rfl) ?_
   refine Op.pures 4 [0, 3, 4, 10] (L' := []) (e' := [(0, .slice a_s s.length n_s), (3, .slice a1087 out.length n1088), (4, .int .i64 i), (10, .bool (decide (i < (s.length : Int))))]) (by kernel_rfl) ?_
   refine Op.goto 4 (by kernel_rfl) ?_
   refine At.cond (b := decide (i < (s.length : Int))) (c := .tmp 10) (by kernel_rfl) (by kernel_rfl) (by kernel_rfl) 5 9 (by kernel_rfl) (by kernel_rfl) (fun hb => ?_) (fun hb => ?_)
   ·have c1093 : i < (s.length : Int) := of_decide_eq_true hb
    clear hb
    refine At.keep [0, 3, 4] ?_; show At _ _ _ [(0, .slice a_s s.length n_s), (3, .slice a1087 out.length n1088), (4, .int .i64 i)] _
    refine At.reg (L := [(0, false), (1, false), (2, false), (3, false), (4, false), (5, false)]) (by kernel_rfl) ?_
    refine Op.pures 2 [0, 3, 4, 13, 14] (L' := [(2, false), (3, false), (4, false), (5, false)]) (e' := [(0, .slice a_s s.length n_s), (3, .slice a1087 out.length n1088), (4, .int .i64 i), (13, .slice a_s s.length n_s), (14, .int .i64 i)]) (by kernel_rfl) ?_
    obtain ⟨x1094, hx1095⟩ : ∃ c, s[(i : Int).toNat]? = some c := ⟨_, List.getElem?_eq_getElem (by omega)⟩
    obtain ⟨b1096, o1097, cu1098, fz1099, ha1100, hb1101, hk1102⟩ := SlR.at_ h_s _ hx1095
    cases ha1100
    refine Op.idx (T := 52) (E := 59) (sz := 6) (by_ := 72) (n := s.length) (c := n_s) (k := .i64) (x := (.tmp 13)) (ix := (.tmp 14)) (dst := 15) (bk := b1096) (o := o1097) (m := i) (by kernel_rfl) (by kernel_rfl) (by kernel_rfl) (by kernel_rfl) (by omega) (by omega) ?_
    obtain ⟨v1103, hv1104, hk1102⟩ := hk1102
    obtain ⟨a1105, n1106, rfl⟩ := hv1104.form
    refine Op.loadA (T := 59) (x := (.tmp 15)) (o := o1097 + (i : Int).toNat * 6) (d := 16) (n := 6) (vs := [.string (mkS x1094.Path), .slice a1105 x1094.Data.length n1106, .int .i64 x1094.Version, .int .i64 x1094.Owner, .int .i64 x1094.Next, .int .i64 x1094.Born]) (by kernel_rfl) (by kernel_rfl) (by kernel_rfl) (s_loop31090.sub _ _ hb1101) (hk1102) rfl ?_
    refine Op.alloc (T := 59) (dst := 5) (cs := #[.string (mkS []), .slice none 0 0, .int .i64 0, .int .i64 0, .int .i64 0, .int .i64 0]) (by kernel_rfl) (by kernel_rfl) s_loop31090 ?_
    intro b1107 h1108 s1109
    refine Op.store (T := 59) (x := (.tmp 5)) (y := (.tmp 16)) (b := b1107) (o := 0) (vs := [.string (mkS x1094.Path), .slice a1105 x1094.Data.length n1106, .int .i64 x1094.Version, .int .i64 x1094.Owner, .int .i64 x1094.Next, .int .i64 x1094.Born]) (a? := true) (n := 6) (by kernel_rfl) (by kernel_rfl) (by kernel_rfl) (by kernel_rfl) rfl (by simp [Value.oneCell']) s1109 0 rfl (Nat.le_of_ble_eq_true (by kernel_rfl)) (cs := #[.string (mkS []), .slice none 0 0, .int .i64 0, .int .i64 0, .int .i64 0, .int .i64 0]) (cs' := #[.string (mkS x1094.Path), .slice a1105 x1094.Data.length n1106, .int .i64 x1094.Version, .int .i64 x1094.Owner, .int .i64 x1094.Next, .int .i64 x1094.Born]) (by kernel_rfl) (fun _ => trivial) ?_
    intro h1110 s1111
    refine Op.goto 6 (by kernel_rfl) ?_
    refine At.reg (L := [(0, false), (1, false), (2, false), (3, false), (4, false)]) (by kernel_rfl) ?_
    refine Op.pures 1 [0, 3, 4, 5, 17] (L' := [(1, false), (2, false), (3, false), (4, false)]) (e' := [(0, .slice (some ⟨b1096, o1097, none⟩) s.length n_s), (3, .slice a1087 out.length n1088), (4, .int .i64 i), (5, .pointer (some ⟨b1107, 0, none⟩)), (17, .pointer (some ⟨b1107, 1, none⟩))]) (by kernel_rfl) ?_
    refine Op.load (T := 29) (x := (.tmp 17)) (o := 1) (d := 18) (n := 1) (v := .slice a1105 x1094.Data.length n1106) (by kernel_rfl) (by kernel_rfl) (by kernel_rfl) (s1111.chunk 0 rfl) (by kernel_rfl) ?_
    refine Op.call0 (dst := some 19) (f := 29) (args := #[.slice a1105 x1094.Data.length n1106]) (by kernel_rfl) s1111 (copyBytes _ _ _ s1111.sub hG _ _ hv1104 (by ((try dsimp only) <;> (exact hd _ (List.mem_of_getElem? hx1095)))) ) ?_
    rintro _ g1119 _ h1112 hle1120 s1113 ⟨v1114, ch1115, rfl, R1116, hgg, rfl⟩; subst g1119; clear hle1120
    obtain ⟨a1117, n1118, rfl⟩ := R1116.form
    refine Op.pures 1 [0, 3, 4, 5, 19, 20] (L' := [(4, false)]) (e' := [(0, .slice (some ⟨b1096, o1097, none⟩) s.length n_s), (3, .slice a1087 out.length n1088), (4, .int .i64 i), (5, .pointer (some ⟨b1107, 0, none⟩)), (19, .slice a1117 ((x1094.Data).length) n1118), (20, .pointer (some ⟨b1107, 1, none⟩))]) (by kernel_rfl) ?_
    refine Op.store (T := 29) (x := (.tmp 20)) (y := (.tmp 19)) (b := b1107) (o := 1) (vs := [.slice a1117 ((x1094.Data).length) n1118]) (a? := false) (n := 1) (by kernel_rfl) (by kernel_rfl) (by kernel_rfl) (by kernel_rfl) rfl (by simp [Value.oneCell']) s1113 1 rfl (Nat.le_of_ble_eq_true (by kernel_rfl)) (cs := #[.string (mkS x1094.Path), .slice a1105 x1094.Data.length n1106, .int .i64 x1094.Version, .int .i64 x1094.Owner, .int .i64 x1094.Next, .int .i64 x1094.Born]) (cs' := #[.string (mkS x1094.Path), .slice a1117 ((x1094.Data).length) n1118, .int .i64 x1094.Version, .int .i64 x1094.Owner, .int .i64 x1094.Next, .int .i64 x1094.Born]) (by kernel_rfl) (fun _ => trivial) ?_
    intro h1121 s1122
    refine Op.goto 7 (by kernel_rfl) ?_
    obtain ⟨g1123, s1124, hle1125, hf1126⟩ := Row.freeze R1116 (s1122.front 0 rfl)
    replace R1090 := R1090.mono hle1125
    replace hG := hG.mono hle1125
    replace h_s := h_s.mono hle1125
    refine At.reg (L := [(0, false), (1, false), (2, false), (3, false), (4, false)]) (by kernel_rfl) ?_
    refine Op.pures 1 [0, 3, 4, 5, 21] (L' := [(1, false), (2, false), (3, false), (4, false)]) (e' := [(0, .slice (some ⟨b1096, o1097, none⟩) s.length n_s), (3, .slice a1087 out.length n1088), (4, .int .i64 i), (5, .pointer (some ⟨b1107, 0, none⟩)), (21, .slice a1087 out.length n1088)]) (by kernel_rfl) ?_
    refine Op.loadA (T := 59) (x := (.tmp 5)) (o := 0) (d := 22) (n := 6) (vs := [.string (mkS x1094.Path), .slice a1117 ((x1094.Data).length) n1118, .int .i64 x1094.Version, .int .i64 x1094.Owner, .int .i64 x1094.Next, .int .i64 x1094.Born]) (by kernel_rfl) (by kernel_rfl) (by kernel_rfl) (s1124.chunk 0 rfl) (by kernel_rfl) rfl ?_
    refine Op.lit (T := 52) (len := 1) (parts := #[(0, (.tmp 22))]) (dst := 23) (E := 59) (ps := [(0, .agg #[.string (mkS x1094.Path), .slice a1117 ((x1094.Data).length) n1118, .int .i64 x1094.Version, .int .i64 x1094.Owner, .int .i64 x1094.Next, .int .i64 x1094.Born])]) (cs := #[.string (mkS x1094.Path), .slice a1117 ((x1094.Data).length) n1118, .int .i64 x1094.Version, .int .i64 x1094.Owner, .int .i64 x1094.Next, .int .i64 x1094.Born]) (by kernel_rfl) (by kernel_rfl) (by kernel_rfl) s1124 ?_
    intro b1127 h1128 s1129
    refine Op.append (x := (.tmp 21)) (y := (.tmp 23)) (t := 52) (t' := 52) (dst := 24) (E := 59) (by_ := 72) (d := kLeaf) (by kernel_rfl) (by kernel_rfl) (by kernel_rfl) (by kernel_rfl) rfl R1090 s1129 2 rfl (Src.lit (m := 1) (sz := 6) (s1129.chunk 0 rfl) (news := [.string (mkS x1094.Path), .slice a1117 ((x1094.Data).length) n1118, .int .i64 x1094.Version, .int .i64 x1094.Owner, .int .i64 x1094.Next, .int .i64 x1094.Born]) rfl rfl (by simp [Value.oneCell']) _) (ys := [x1094]) (⟨_, _, rfl, ⟨_, hf1126, rfl⟩, Reads.nil⟩) rfl (by (have hz := congrArg List.length ho; simp only [List.length_take, List.length_cons, List.length_nil] at *; omega)) (fun _ _ _ => trivial) ?_
    intro v1130 ch1131 h1132 R1133 s1134 nn1135
    obtain ⟨a1136, n1137, rfl⟩ := R1133.form
    have s1138 := (s1134.front 0 rfl).drop
    refine Op.pures 1 [0, 3, 4] (L' := []) (e' := [(0, .slice (some ⟨b1096, o1097, none⟩) s.length n_s), (3, .slice a1136 ((out ++ ([x1094])).length) n1137), (4, .int .i64 i)]) (by kernel_rfl) ?_
    refine Op.goto 8 (by kernel_rfl) ?_
    refine At.reg (L := [(0, false), (1, false), (2, false)]) (by kernel_rfl) ?_
    refine Op.pures 1 [0, 3, 4, 11] (L' := [(1, false), (2, false)]) (e' := [(0, .slice (some ⟨b1096, o1097, none⟩) s.length n_s), (3, .slice a1136 ((out ++ ([x1094])).length) n1137), (4, .int .i64 i), (11, .int .i64 i)]) (by kernel_rfl) ?_
    refine Op.val (dst := some 12) (v := .int .i64 (IntKind.wrap .i64 (i + 1))) (v' := .int .i64 (i + 1)) (by kernel_rfl) (wrapEq_i64 (by omega) (by omega)) ?_
    refine Op.pures 1 [0, 3, 4] (L' := []) (e' := [(0, .slice (some ⟨b1096, o1097, none⟩) s.length n_s), (3, .slice a1136 ((out ++ ([x1094])).length) n1137), (4, .int .i64 (i + 1))]) (by kernel_rfl) ?_
    refine Op.goto 3 (by kernel_rfl) ?_
    have s1139 : St h g (ids []) g1123 [ch1131] h1132 := (s1138).drop
    exact ih3 _ (gle.trans hleg1092 (by repeat (first | assumption | apply gle.trans))) (out ++ ([x1094])) (i + 1) _ _ _ _ (by omega) (by omega) (by omega) (by rw [toNat_succ h0, take_at hx1095, ho]) R1133 s1139
   ·have c1140 : ¬ (i < (s.length : Int)) := of_decide_eq_false hb
    clear hb
    refine At.keep [3] ?_; show At _ _ _ [(3, .slice a1087 out.length n1088)] _
    refine At.reg (L := [(0, false), (1, false)]) (by kernel_rfl) ?_
    refine Op.pures 2 [2] (L' := []) (e' := [(2, .slice a1087 out.length n1088)]) (by kernel_rfl) ?_
    refine Op.goto 10 (by kernel_rfl) ?_
    obtain ⟨g1141, s1142, hle1143, hf1144⟩ := Row.freeze R1090 (s_loop31090.front 0 rfl)
    replace hG := hG.mono hle1143
    refine At.ret (f := Tryz.f51) (v := .slice a1087 out.length n1088) (by kernel_rfl) (by kernel_rfl) ?_
    refine hR _ _ _ _ s1142 ⟨(.slice a1087 out.length n1088), ?_, ?_, rfl⟩
    ·exact rfl
    ·exact slEq hf1144 (by rw [ho, List.take_of_length_le (by omega)])
 have R1145 : Row 59 kLeaf g (.slice (some ⟨b1084, 0, none⟩) 0 0) ([] : List Leaf) [(b1084, Obj.cells #[] 59 (0, 0))] := Row.lit (by kernel_rfl) (by unfold maxLen; decide) (by kernel_rfl) Reads.nil
 exact loop3 _ _ (gle.refl _) ([] : List Leaf) 0 _ _ _ _ (Nat.lt_succ_self _) (by omega) (by omega) (by rfl) R1145 s1086
theorem sameLeaf (B : World) (h : Heap) (g : GH) (hg : Sub g h) (hG : Glob g) (a : Leaf) (v_a_1 : Value) (h_a_1 : SlR g 5 kU8 v_a_1 a.Data) (b : Leaf) (v_b_1 : Value) (h_b_1 : SlR g 5 kU8 v_b_1 b.Data) (h1 : a.Data.length ≤ 1000000000) :
  Spec Tryz.prog B 35 #[.agg #[.string (mkS a.Path), v_a_1, .int .i64 a.Version, .int .i64 a.Owner, .int .i64 a.Next, .int .i64 a.Born], .agg #[.string (mkS b.Path), v_b_1, .int .i64 b.Version, .int .i64 b.Owner, .int .i64 b.Next, .int .i64 b.Born]] h g [] (fun rv g' L' => rv = .bool (decide (a = b)) ∧ g' = g ∧ L' = []) := by
 obtain ⟨a_a_1, n_a_1, rfl⟩ := h_a_1.form
 obtain ⟨a_b_1, n_b_1, rfl⟩ := h_b_1.form
 refine Spec.of_at (f := Tryz.f35) (e := [(0, .agg #[.string (mkS a.Path), .slice a_a_1 a.Data.length n_a_1, .int .i64 a.Version, .int .i64 a.Owner, .int .i64 a.Next, .int .i64 a.Born]), (1, .agg #[.string (mkS b.Path), .slice a_b_1 b.Data.length n_b_1, .int .i64 b.Version, .int .i64 b.Owner, .int .i64 b.Next, .int .i64 b.Born])]) Tryz.func35 (by kernel_rfl) (Nat.le_of_ble_eq_true (by kernel_rfl)) (by kernel_rfl) (by kernel_rfl) ?_
 intro R hR
 have s0 := St.init hg
 refine At.reg (L := [(0, false), (1, false), (2, false)]) (by kernel_rfl) ?_
 refine Op.box (T := 59) (x := (.tmp 0)) (d := 2) (cs := #[.string (mkS a.Path), .slice a_a_1 a.Data.length n_a_1, .int .i64 a.Version, .int .i64 a.Owner, .int .i64 a.Next, .int .i64 a.Born]) (by kernel_rfl) (by kernel_rfl) s0 ?_
 intro b1146 h1147 s1148
 refine Op.box (T := 59) (x := (.tmp 1)) (d := 3) (cs := #[.string (mkS b.Path), .slice a_b_1 b.Data.length n_b_1, .int .i64 b.Version, .int .i64 b.Owner, .int .i64 b.Next, .int .i64 b.Born]) (by kernel_rfl) (by kernel_rfl) s1148 ?_
 intro b1149 h1150 s1151
 refine Op.pures 1 [2, 3] (L' := []) (e' := [(2, .pointer (some ⟨b1146, 0, none⟩)), (3, .pointer (some ⟨b1149, 0, none⟩))]) (by kernel_rfl) ?_
 refine Op.goto 1 (by kernel_rfl) ?_
 refine At.reg (L := [(0, false), (1, false), (2, false), (3, false), (4, false), (5, false), (6, false), (7, false), (8, false), (9, false), (10, false), (11, false), (12, false), (13, false), (14, false), (15, false), (16, false), (17, false), (18, false), (19, false), (20, false), (21, false), (22, false), (23, false), (24, false), (25, false), (26, false), (27, false), (28, false), (29, false), (30, false), (31, false), (32, false), (33, false), (34, false), (35, false), (36, false), (37, false), (38, false), (39, false), (40, false)]) (by kernel_rfl) ?_
 refine Op.pures 1 [2, 3, 5] (L' := [(1, false), (2, false), (3, false), (4, false), (5, false), (6, false), (7, false), (8, false), (9, false), (10, false), (11, false), (12, false), (13, false), (14, false), (15, false), (16, false), (17, false), (18, false), (19, false), (20, false), (21, false), (22, false), (23, false), (24, false), (25, false), (26, false), (27, false), (28, false), (29, false), (30, false), (31, false), (32, false), (33, false), (34, false), (35, false), (36, false), (37, false), (38, false), (39, false), (40, false)]) (e' := [(2, .pointer (some ⟨b1146, 0, none⟩)), (3, .pointer (some ⟨b1149, 0, none⟩)), (5, .pointer (some ⟨b1146, 0, none⟩))]) (by kernel_rfl) ?_
 refine Op.load (T := 9) (x := (.tmp 5)) (o := 0) (d := 6) (n := 1) (v := .string (mkS a.Path)) (by kernel_rfl) (by kernel_rfl) (by kernel_rfl) (s1151.chunk 1 rfl) (by kernel_rfl) ?_
 refine Op.pures 1 [2, 3, 6, 7] (L' := [(3, false), (4, false), (5, false), (6, false), (7, false), (8, false), (9, false), (10, false), (11, false), (12, false), (13, false), (14, false), (15, false), (16, false), (17, false), (18, false), (19, false), (20, false), (21, false), (22, false), (23, false), (24, false), (25, false), (26, false), (27, false), (28, false), (29, false), (30, false), (31, false), (32, false), (33, false), (34, false), (35, false), (36, false), (37, false), (38, false), (39, false), (40, false)]) (e' := [(2, .pointer (some ⟨b1146, 0, none⟩)), (3, .pointer (some ⟨b1149, 0, none⟩)), (6, .string (mkS a.Path)), (7, .pointer (some ⟨b1149, 0, none⟩))]) (by kernel_rfl) ?_
 refine Op.load (T := 9) (x := (.tmp 7)) (o := 0) (d := 8) (n := 1) (v := .string (mkS b.Path)) (by kernel_rfl) (by kernel_rfl) (by kernel_rfl) (s1151.chunk 0 rfl) (by kernel_rfl) ?_
 refine Op.val (dst := some 9) (v := .bool ((mkS a.Path).toList == (mkS b.Path).toList)) (v' := .bool (a.Path == b.Path)) (by kernel_rfl) (by rw [toList_mkS, toList_mkS]) ?_
 refine Op.pures 1 [2, 3, 10] (L' := [(6, false), (7, false), (8, false), (9, false), (10, false), (11, false), (12, false), (13, false), (14, false), (15, false), (16, false), (17, false), (18, false), (19, false), (20, false), (21, false), (22, false), (23, false), (24, false), (25, false), (26, false), (27, false), (28, false), (29, false), (30, false), (31, false), (32, false), (33, false), (34, false), (35, false), (36, false), (37, false), (38, false), (39, false), (40, false)]) (e' := [(2, .pointer (some ⟨b1146, 0, none⟩)), (3, .pointer (some ⟨b1149, 0, none⟩)), (10, .bool (a.Path == b.Path))]) (by kernel_rfl) ?_
 refine Op.ways (b := a.Path == b.Path) ⟨fun hb => ?_, fun hb => ?_⟩
 ·refine Op.cast (e' := [(2, .pointer (some ⟨b1146, 0, none⟩)), (3, .pointer (some ⟨b1149, 0, none⟩)), (10, .bool true)]) (by rw [hb]) ?_
  have c1152 : a.Path = b.Path := eq_of_beq hb
  clear hb
  refine Op.pures 1 [2, 3, 10, 11] (L' := [(7, false), (8, false), (9, false), (10, false), (11, false), (12, false), (13, false), (14, false), (15, false), (16, false), (17, false), (18, false), (19, false), (20, false), (21, false), (22, false), (23, false), (24, false), (25, false), (26, false), (27, false), (28, false), (29, false), (30, false), (31, false), (32, false), (33, false), (34, false), (35, false), (36, false), (37, false), (38, false), (39, false), (40, false)]) (e' := [(2, .pointer (some ⟨b1146, 0, none⟩)), (3, .pointer (some ⟨b1149, 0, none⟩)), (10, .bool true), (11, .pointer (some ⟨b1146, 1, none⟩))]) (by kernel_rfl) ?_
  refine Op.load (T := 29) (x := (.tmp 11)) (o := 1) (d := 12) (n := 1) (v := .slice a_a_1 a.Data.length n_a_1) (by kernel_rfl) (by kernel_rfl) (by kernel_rfl) (s1151.chunk 1 rfl) (by kernel_rfl) ?_
  refine Op.pures 1 [2, 3, 10, 12, 13] (L' := [(9, false), (10, false), (11, false), (12, false), (13, false), (14, false), (15, false), (16, false), (17, false), (18, false), (19, false), (20, false), (21, false), (22, false), (23, false), (24, false), (25, false), (26, false), (27, false), (28, false), (29, false), (30, false), (31, false), (32, false), (33, false), (34, false), (35, false), (36, false), (37, false), (38, false), (39, false), (40, false)]) (e' := [(2, .pointer (some ⟨b1146, 0, none⟩)), (3, .pointer (some ⟨b1149, 0, none⟩)), (10, .bool true), (12, .slice a_a_1 a.Data.length n_a_1), (13, .pointer (some ⟨b1149, 1, none⟩))]) (by kernel_rfl) ?_
  refine Op.load (T := 29) (x := (.tmp 13)) (o := 1) (d := 14) (n := 1) (v := .slice a_b_1 b.Data.length n_b_1) (by kernel_rfl) (by kernel_rfl) (by kernel_rfl) (s1151.chunk 0 rfl) (by kernel_rfl) ?_
  refine Op.call0 (dst := some 15) (f := 40) (args := #[.slice a_a_1 a.Data.length n_a_1, .slice a_b_1 b.Data.length n_b_1]) (by kernel_rfl) s1151 (sameBytes _ _ _ s1151.sub hG _ _ h_a_1 _ _ h_b_1 (by ((try dsimp only) <;> (omega))) ) ?_
  rintro _ g1155 _ h1153 hle1156 s1154 ⟨rfl, hgg, rfl⟩; subst g1155; clear hle1156
  refine Op.pures 2 [2, 3, 17] (L' := [(13, false), (14, false), (15, false), (16, false), (17, false), (18, false), (19, false), (20, false), (21, false), (22, false), (23, false), (24, false), (25, false), (26, false), (27, false), (28, false), (29, false), (30, false), (31, false), (32, false), (33, false), (34, false), (35, false), (36, false), (37, false), (38, false), (39, false), (40, false)]) (e' := [(2, .pointer (some ⟨b1146, 0, none⟩)), (3, .pointer (some ⟨b1149, 0, none⟩)), (17, .bool (decide (a.Data = b.Data)))]) (by kernel_rfl) ?_
  refine Op.ways (b := decide (a.Data = b.Data)) ⟨fun hb => ?_, fun hb => ?_⟩
  ·refine Op.cast (e' := [(2, .pointer (some ⟨b1146, 0, none⟩)), (3, .pointer (some ⟨b1149, 0, none⟩)), (17, .bool true)]) (by rw [hb]) ?_
   have c1157 : a.Data = b.Data := of_decide_eq_true hb
   clear hb
   refine Op.pures 1 [2, 3, 17, 18] (L' := [(14, false), (15, false), (16, false), (17, false), (18, false), (19, false), (20, false), (21, false), (22, false), (23, false), (24, false), (25, false), (26, false), (27, false), (28, false), (29, false), (30, false), (31, false), (32, false), (33, false), (34, false), (35, false), (36, false), (37, false), (38, false), (39, false), (40, false)]) (e' := [(2, .pointer (some ⟨b1146, 0, none⟩)), (3, .pointer (some ⟨b1149, 0, none⟩)), (17, .bool true), (18, .pointer (some ⟨b1146, 2, none⟩))]) (by kernel_rfl) ?_
   refine Op.load (T := 3) (x := (.tmp 18)) (o := 2) (d := 19) (n := 1) (v := .int .i64 a.Version) (by kernel_rfl) (by kernel_rfl) (by kernel_rfl) (s1154.chunk 1 rfl) (by kernel_rfl) ?_
   refine Op.pures 1 [2, 3, 17, 19, 20] (L' := [(16, false), (17, false), (18, false), (19, false), (20, false), (21, false), (22, false), (23, false), (24, false), (25, false), (26, false), (27, false), (28, false), (29, false), (30, false), (31, false), (32, false), (33, false), (34, false), (35, false), (36, false), (37, false), (38, false), (39, false), (40, false)]) (e' := [(2, .pointer (some ⟨b1146, 0, none⟩)), (3, .pointer (some ⟨b1149, 0, none⟩)), (17, .bool true), (19, .int .i64 a.Version), (20, .pointer (some ⟨b1149, 2, none⟩))]) (by kernel_rfl) ?_
   refine Op.load (T := 3) (x := (.tmp 20)) (o := 2) (d := 21) (n := 1) (v := .int .i64 b.Version) (by kernel_rfl) (by kernel_rfl) (by kernel_rfl) (s1154.chunk 0 rfl) (by kernel_rfl) ?_
   refine Op.pures 3 [2, 3, 24] (L' := [(20, false), (21, false), (22, false), (23, false), (24, false), (25, false), (26, false), (27, false), (28, false), (29, false), (30, false), (31, false), (32, false), (33, false), (34, false), (35, false), (36, false), (37, false), (38, false), (39, false), (40, false)]) (e' := [(2, .pointer (some ⟨b1146, 0, none⟩)), (3, .pointer (some ⟨b1149, 0, none⟩)), (24, .bool (a.Version == b.Version))]) (by kernel_rfl) ?_
   refine Op.ways (b := a.Version == b.Version) ⟨fun hb => ?_, fun hb => ?_⟩
   ·refine Op.cast (e' := [(2, .pointer (some ⟨b1146, 0, none⟩)), (3, .pointer (some ⟨b1149, 0, none⟩)), (24, .bool true)]) (by rw [hb]) ?_
    have c1158 : a.Version = b.Version := eq_of_beq hb
    clear hb
    refine Op.pures 1 [2, 3, 24, 25] (L' := [(21, false), (22, false), (23, false), (24, false), (25, false), (26, false), (27, false), (28, false), (29, false), (30, false), (31, false), (32, false), (33, false), (34, false), (35, false), (36, false), (37, false), (38, false), (39, false), (40, false)]) (e' := [(2, .pointer (some ⟨b1146, 0, none⟩)), (3, .pointer (some ⟨b1149, 0, none⟩)), (24, .bool true), (25, .pointer (some ⟨b1146, 3, none⟩))]) (by kernel_rfl) ?_
    refine Op.load (T := 3) (x := (.tmp 25)) (o := 3) (d := 26) (n := 1) (v := .int .i64 a.Owner) (by kernel_rfl) (by kernel_rfl) (by kernel_rfl) (s1154.chunk 1 rfl) (by kernel_rfl) ?_
    refine Op.pures 1 [2, 3, 24, 26, 27] (L' := [(23, false), (24, false), (25, false), (26, false), (27, false), (28, false), (29, false), (30, false), (31, false), (32, false), (33, false), (34, false), (35, false), (36, false), (37, false), (38, false), (39, false), (40, false)]) (e' := [(2, .pointer (some ⟨b1146, 0, none⟩)), (3, .pointer (some ⟨b1149, 0, none⟩)), (24, .bool true), (26, .int .i64 a.Owner), (27, .pointer (some ⟨b1149, 3, none⟩))]) (by kernel_rfl) ?_
    refine Op.load (T := 3) (x := (.tmp 27)) (o := 3) (d := 28) (n := 1) (v := .int .i64 b.Owner) (by kernel_rfl) (by kernel_rfl) (by kernel_rfl) (s1154.chunk 0 rfl) (by kernel_rfl) ?_
    refine Op.pures 3 [2, 3, 31] (L' := [(27, false), (28, false), (29, false), (30, false), (31, false), (32, false), (33, false), (34, false), (35, false), (36, false), (37, false), (38, false), (39, false), (40, false)]) (e' := [(2, .pointer (some ⟨b1146, 0, none⟩)), (3, .pointer (some ⟨b1149, 0, none⟩)), (31, .bool (a.Owner == b.Owner))]) (by kernel_rfl) ?_
    refine Op.ways (b := a.Owner == b.Owner) ⟨fun hb => ?_, fun hb => ?_⟩
    ·refine Op.cast (e' := [(2, .pointer (some ⟨b1146, 0, none⟩)), (3, .pointer (some ⟨b1149, 0, none⟩)), (31, .bool true)]) (by rw [hb]) ?_
     have c1159 : a.Owner = b.Owner := eq_of_beq hb
     clear hb
     refine Op.pures 1 [2, 3, 31, 32] (L' := [(28, false), (29, false), (30, false), (31, false), (32, false), (33, false), (34, false), (35, false), (36, false), (37, false), (38, false), (39, false), (40, false)]) (e' := [(2, .pointer (some ⟨b1146, 0, none⟩)), (3, .pointer (some ⟨b1149, 0, none⟩)), (31, .bool true), (32, .pointer (some ⟨b1146, 4, none⟩))]) (by kernel_rfl) ?_
     refine Op.load (T := 3) (x := (.tmp 32)) (o := 4) (d := 33) (n := 1) (v := .int .i64 a.Next) (by kernel_rfl) (by kernel_rfl) (by kernel_rfl) (s1154.chunk 1 rfl) (by kernel_rfl) ?_
     refine Op.pures 1 [2, 3, 31, 33, 34] (L' := [(30, false), (31, false), (32, false), (33, false), (34, false), (35, false), (36, false), (37, false), (38, false), (39, false), (40, false)]) (e' := [(2, .pointer (some ⟨b1146, 0, none⟩)), (3, .pointer (some ⟨b1149, 0, none⟩)), (31, .bool true), (33, .int .i64 a.Next), (34, .pointer (some ⟨b1149, 4, none⟩))]) (by kernel_rfl) ?_
     refine Op.load (T := 3) (x := (.tmp 34)) (o := 4) (d := 35) (n := 1) (v := .int .i64 b.Next) (by kernel_rfl) (by kernel_rfl) (by kernel_rfl) (s1154.chunk 0 rfl) (by kernel_rfl) ?_
     refine Op.pures 3 [2, 3, 38] (L' := [(34, false), (35, false), (36, false), (37, false), (38, false), (39, false), (40, false)]) (e' := [(2, .pointer (some ⟨b1146, 0, none⟩)), (3, .pointer (some ⟨b1149, 0, none⟩)), (38, .bool (a.Next == b.Next))]) (by kernel_rfl) ?_
     refine Op.ways (b := a.Next == b.Next) ⟨fun hb => ?_, fun hb => ?_⟩
     ·refine Op.cast (e' := [(2, .pointer (some ⟨b1146, 0, none⟩)), (3, .pointer (some ⟨b1149, 0, none⟩)), (38, .bool true)]) (by rw [hb]) ?_
      have c1160 : a.Next = b.Next := eq_of_beq hb
      clear hb
      refine Op.pures 1 [3, 38, 39] (L' := [(35, false), (36, false), (37, false), (38, false), (39, false), (40, false)]) (e' := [(3, .pointer (some ⟨b1149, 0, none⟩)), (38, .bool true), (39, .pointer (some ⟨b1146, 5, none⟩))]) (by kernel_rfl) ?_
      refine Op.load (T := 3) (x := (.tmp 39)) (o := 5) (d := 40) (n := 1) (v := .int .i64 a.Born) (by kernel_rfl) (by kernel_rfl) (by kernel_rfl) (s1154.chunk 1 rfl) (by kernel_rfl) ?_
      refine Op.pures 1 [38, 40, 41] (L' := [(37, false), (38, false), (39, false), (40, false)]) (e' := [(38, .bool true), (40, .int .i64 a.Born), (41, .pointer (some ⟨b1149, 5, none⟩))]) (by kernel_rfl) ?_
      refine Op.load (T := 3) (x := (.tmp 41)) (o := 5) (d := 42) (n := 1) (v := .int .i64 b.Born) (by kernel_rfl) (by kernel_rfl) (by kernel_rfl) (s1154.chunk 0 rfl) (by kernel_rfl) ?_
      refine Op.pures 3 [4] (L' := []) (e' := [(4, .bool (a.Born == b.Born))]) (by kernel_rfl) ?_
      refine Op.goto 2 (by kernel_rfl) ?_
      refine At.ret (f := Tryz.f35) (v := .bool (a.Born == b.Born)) (by kernel_rfl) (by kernel_rfl) ?_
      have s1161 : St h g (ids []) g [] h1153 := (s1154).drop.drop
      refine hR _ _ _ _ s1161 ⟨?_, rfl, rfl⟩
      exact (eqB (by exact lfY (by assumption) (by assumption) (by assumption) (by assumption) (by assumption)))
     ·refine Op.cast (e' := [(2, .pointer (some ⟨b1146, 0, none⟩)), (3, .pointer (some ⟨b1149, 0, none⟩)), (38, .bool false)]) (by rw [hb]) ?_
      have c1162 : ¬ (a.Next = b.Next) := neF hb
      clear hb
      refine Op.pures 7 [4] (L' := []) (e' := [(4, .bool false)]) (by kernel_rfl) ?_
      refine Op.goto 2 (by kernel_rfl) ?_
      refine At.ret (f := Tryz.f35) (v := .bool false) (by kernel_rfl) (by kernel_rfl) ?_
      have s1163 : St h g (ids []) g [] h1153 := (s1154).drop.drop
      refine hR _ _ _ _ s1163 ⟨?_, rfl, rfl⟩
      exact (eqB (by exact lfN (.inr (.inr (.inr (.inr (by assumption)))))))
    ·refine Op.cast (e' := [(2, .pointer (some ⟨b1146, 0, none⟩)), (3, .pointer (some ⟨b1149, 0, none⟩)), (31, .bool false)]) (by rw [hb]) ?_
     have c1164 : ¬ (a.Owner = b.Owner) := neF hb
     clear hb
     refine Op.pures 14 [4] (L' := []) (e' := [(4, .bool false)]) (by kernel_rfl) ?_
     refine Op.goto 2 (by kernel_rfl) ?_
     refine At.ret (f := Tryz.f35) (v := .bool false) (by kernel_rfl) (by kernel_rfl) ?_
     have s1165 : St h g (ids []) g [] h1153 := (s1154).drop.drop
     refine hR _ _ _ _ s1165 ⟨?_, rfl, rfl⟩
     exact (eqB (by exact lfN (.inr (.inr (.inr (.inl (by assumption)))))))
   ·refine Op.cast (e' := [(2, .pointer (some ⟨b1146, 0, none⟩)), (3, .pointer (some ⟨b1149, 0, none⟩)), (24, .bool false)]) (by rw [hb]) ?_
    have c1166 : ¬ (a.Version = b.Version) := neF hb
    clear hb
    refine Op.pures 21 [4] (L' := []) (e' := [(4, .bool false)]) (by kernel_rfl) ?_
    refine Op.goto 2 (by kernel_rfl) ?_
    refine At.ret (f := Tryz.f35) (v := .bool false) (by kernel_rfl) (by kernel_rfl) ?_
    have s1167 : St h g (ids []) g [] h1153 := (s1154).drop.drop
    refine hR _ _ _ _ s1167 ⟨?_, rfl, rfl⟩
    exact (eqB (by exact lfN (.inr (.inr (.inl (by assumption))))))
  ·refine Op.cast (e' := [(2, .pointer (some ⟨b1146, 0, none⟩)), (3, .pointer (some ⟨b1149, 0, none⟩)), (17, .bool false)]) (by rw [hb]) ?_
   have c1168 : ¬ (a.Data = b.Data) := of_decide_eq_false hb
   clear hb
   refine Op.pures 28 [4] (L' := []) (e' := [(4, .bool false)]) (by kernel_rfl) ?_
   refine Op.goto 2 (by kernel_rfl) ?_
   refine At.ret (f := Tryz.f35) (v := .bool false) (by kernel_rfl) (by kernel_rfl) ?_
   have s1169 : St h g (ids []) g [] h1153 := (s1154).drop.drop
   refine hR _ _ _ _ s1169 ⟨?_, rfl, rfl⟩
   exact (eqB (by exact lfN (.inr (.inl (by assumption)))))
 ·refine Op.cast (e' := [(2, .pointer (some ⟨b1146, 0, none⟩)), (3, .pointer (some ⟨b1149, 0, none⟩)), (10, .bool false)]) (by rw [hb]) ?_
  have c1170 : ¬ (a.Path = b.Path) := neF hb
  clear hb
  refine Op.pures 35 [4] (L' := []) (e' := [(4, .bool false)]) (by kernel_rfl) ?_
  refine Op.goto 2 (by kernel_rfl) ?_
  refine At.ret (f := Tryz.f35) (v := .bool false) (by kernel_rfl) (by kernel_rfl) ?_
  have s1171 : St h g (ids []) g [] h1150 := (s1151).drop.drop
  refine hR _ _ _ _ s1171 ⟨?_, rfl, rfl⟩
  exact (eqB (by exact lfN (.inl (by assumption))))
theorem sameLeaves (B : World) (h : Heap) (g : GH) (hg : Sub g h) (hG : Glob g) (v_a : Value) (a : List Leaf) (h_a : SlR g 59 kLeaf v_a a) (v_b : Value) (b : List Leaf) (h_b : SlR g 59 kLeaf v_b b) (h1 : a.length ≤ 1000000000) (hd : ∀ n ∈ a, n.Data.length ≤ 1000000000) :
  Spec Tryz.prog B 39 #[v_a, v_b] h g [] (fun rv g' L' => rv = .bool (decide (a = b)) ∧ g' = g ∧ L' = []) := by
 obtain ⟨a_a, n_a, rfl⟩ := h_a.form
 obtain ⟨a_b, n_b, rfl⟩ := h_b.form
 refine Spec.of_at (f := Tryz.f39) (e := [(0, .slice a_a a.length n_a), (1, .slice a_b b.length n_b)]) Tryz.func39 (by kernel_rfl) (Nat.le_of_ble_eq_true (by kernel_rfl)) (by kernel_rfl) (by kernel_rfl) ?_
 intro R hR
 have s0 := St.init hg
 refine At.reg (L := [(0, false)]) (by kernel_rfl) ?_
 refine Op.pures 1 [0, 1] (L' := []) (e' := [(0, .slice a_a a.length n_a), (1, .slice a_b b.length n_b)]) (by kernel_rfl) ?_
 refine Op.goto 1 (by kernel_rfl) ?_
 refine At.reg (L := [(0, false), (1, false), (2, false), (3, false), (4, false)]) (by kernel_rfl) ?_
 refine Op.pures 5 [0, 1, 10] (L' := []) (e' := [(0, .slice a_a a.length n_a), (1, .slice a_b b.length n_b), (10, .bool ((a.length : Int) != (b.length : Int)))]) (by kernel_rfl) ?_
 refine Op.goto 2 (by kernel_rfl) ?_
 refine At.cond (b := (a.length : Int) != (b.length : Int)) (c := .tmp 10) (by kernel_rfl) (by kernel_rfl) (by kernel_rfl) 3 5 (by kernel_rfl) (by kernel_rfl) (fun hb => ?_) (fun hb => ?_)
 ·have c1172 : ¬ ((a.length : Int) = (b.length : Int)) := bneT hb
  clear hb
  refine At.keep [] ?_; show At _ _ _ [] _
  refine At.reg (L := [(0, false)]) (by kernel_rfl) ?_
  refine Op.pures 1 [4] (L' := []) (e' := [(4, .bool false)]) (by kernel_rfl) ?_
  refine Op.goto 4 (by kernel_rfl) ?_
  refine At.ret (f := Tryz.f39) (v := .bool false) (by kernel_rfl) (by kernel_rfl) ?_
  refine hR _ _ _ _ s0 ⟨?_, rfl, rfl⟩
  exact (eqB (by exact sameE_len (by assumption)))
 ·have c1173 : (a.length : Int) = (b.length : Int) := bneF hb
  clear hb
  refine At.keep [0, 1] ?_; show At _ _ _ [(0, .slice a_a a.length n_a), (1, .slice a_b b.length n_b)] _
  refine At.reg (L := [(0, false)]) (by kernel_rfl) ?_
  refine Op.pures 1 [0, 1, 5] (L' := []) (e' := [(0, .slice a_a a.length n_a), (1, .slice a_b b.length n_b), (5, .int .i64 0)]) (by kernel_rfl) ?_
  refine Op.goto 6 (by kernel_rfl) ?_
  have loop6 : ∀ (m : Nat) (i : Int) (h1174 : Heap) (hm : a.length - i.toNat < m) (h0 : 0 ≤ i) (h2 : i ≤ a.length) (ht : a.take i.toNat = b.take i.toNat)     (s_loop61173 : St h g (ids []) g [] h1174), At (fctx Tryz.prog B 39 Tryz.f39 R) [] 6 [(0, .slice a_a a.length n_a), (1, .slice a_b b.length n_b), (5, .int .i64 i)] h1174 := by
   intro m; induction m with
   | zero => intros; omega
   | succ m ih6 =>
    intro i h1174 hm h0 h2 ht s_loop61173
    refine At.reg (L := [(0, false), (1, false), (2, false), (3, false)]) (by kernel_rfl) ?_
    refine Op.pures 4 [0, 1, 5, 14] (L' := []) (e' := [(0, .slice a_a a.length n_a), (1, .slice a_b b.length n_b), (5, .int .i64 i), (14, .bool (decide (i < (a.length : Int))))]) (by kernel_rfl) ?_
    refine Op.goto 7 (by kernel_rfl) ?_
    refine At.cond (b := decide (i < (a.length : Int))) (c := .tmp 14) (by kernel_rfl) (by kernel_rfl) (by kernel_rfl) 8 13 (by kernel_rfl) (by kernel_rfl) (fun hb => ?_) (fun hb => ?_)
    ·have c1175 : i < (a.length : Int) := of_decide_eq_true hb
     clear hb
     refine At.keep [0, 1, 5] ?_; show At _ _ _ [(0, .slice a_a a.length n_a), (1, .slice a_b b.length n_b), (5, .int .i64 i)] _
     refine At.draw (by kernel_rfl) (fun _ => False) [(0, true), (1, true), (2, true), (4, true), (5, true), (6, true), (3, true), (7, false), (8, false), (9, true)] (by kernel_rfl) ?_
     refine Op.pures 2 [0, 1, 5, 17, 18] (L' := [(2, true), (4, true), (5, true), (6, true), (3, true), (7, false), (8, false), (9, true)]) (e' := [(0, .slice a_a a.length n_a), (1, .slice a_b b.length n_b), (5, .int .i64 i), (17, .slice a_a a.length n_a), (18, .int .i64 i)]) (by kernel_rfl) ?_
     obtain ⟨x1176, hx1177⟩ : ∃ c, a[(i : Int).toNat]? = some c := ⟨_, List.getElem?_eq_getElem (by omega)⟩
     obtain ⟨b1178, o1179, cu1180, fz1181, ha1182, hb1183, hk1184⟩ := SlR.at_ h_a _ hx1177
     cases ha1182
     refine Op.idx (T := 52) (E := 59) (sz := 6) (by_ := 72) (n := a.length) (c := n_a) (k := .i64) (x := (.tmp 17)) (ix := (.tmp 18)) (dst := 19) (bk := b1178) (o := o1179) (m := i) (by kernel_rfl) (by kernel_rfl) (by kernel_rfl) (by kernel_rfl) (by omega) (by omega) ?_
     obtain ⟨v1185, hv1186, hk1184⟩ := hk1184
     obtain ⟨a1187, n1188, rfl⟩ := hv1186.form
     refine Op.pures 2 [0, 1, 5, 19, 21, 22] (L' := [(6, true), (3, true), (7, false), (8, false), (9, true)]) (e' := [(0, .slice (some ⟨b1178, o1179, none⟩) a.length n_a), (1, .slice a_b b.length n_b), (5, .int .i64 i), (19, .pointer (some ⟨b1178, o1179 + (i : Int).toNat * 6, none⟩)), (21, .slice a_b b.length n_b), (22, .int .i64 i)]) (by kernel_rfl) ?_
     obtain ⟨x1189, hx1190⟩ : ∃ c, b[(i : Int).toNat]? = some c := ⟨_, List.getElem?_eq_getElem (by omega)⟩
     obtain ⟨b1191, o1192, cu1193, fz1194, ha1195, hb1196, hk1197⟩ := SlR.at_ h_b _ hx1190
     cases ha1195
     refine Op.idx (T := 52) (E := 59) (sz := 6) (by_ := 72) (n := b.length) (c := n_b) (k := .i64) (x := (.tmp 21)) (ix := (.tmp 22)) (dst := 23) (bk := b1191) (o := o1192) (m := i) (by kernel_rfl) (by kernel_rfl) (by kernel_rfl) (by kernel_rfl) (by omega) (by omega) ?_
     obtain ⟨v1198, hv1199, hk1197⟩ := hk1197
     obtain ⟨a1200, n1201, rfl⟩ := hv1199.form
     refine Op.loadAF (T := 59) (x := (.tmp 19)) (o := o1179 + (i : Int).toNat * 6) (d := 20) (n := 6) (vs := [.string (mkS x1176.Path), .slice a1187 x1176.Data.length n1188, .int .i64 x1176.Version, .int .i64 x1176.Owner, .int .i64 x1176.Next, .int .i64 x1176.Born]) (by kernel_rfl) (by kernel_rfl) (by kernel_rfl) (fun h => h) (s_loop61173.sub _ _ hb1183) (hk1184) rfl ?_
     refine Op.loadA (T := 59) (x := (.tmp 23)) (o := o1192 + (i : Int).toNat * 6) (d := 24) (n := 6) (vs := [.string (mkS x1189.Path), .slice a1200 x1189.Data.length n1201, .int .i64 x1189.Version, .int .i64 x1189.Owner, .int .i64 x1189.Next, .int .i64 x1189.Born]) (by kernel_rfl) (by kernel_rfl) (by kernel_rfl) (s_loop61173.sub _ _ hb1196) (hk1197) rfl ?_
     refine Op.call0 (dst := some 25) (f := 35) (args := #[.agg #[.string (mkS x1176.Path), .slice a1187 x1176.Data.length n1188, .int .i64 x1176.Version, .int .i64 x1176.Owner, .int .i64 x1176.Next, .int .i64 x1176.Born], .agg #[.string (mkS x1189.Path), .slice a1200 x1189.Data.length n1201, .int .i64 x1189.Version, .int .i64 x1189.Owner, .int .i64 x1189.Next, .int .i64 x1189.Born]]) (by kernel_rfl) s_loop61173 (sameLeaf _ _ _ s_loop61173.sub hG x1176 _ hv1186 x1189 _ hv1199 (by ((try dsimp only) <;> (exact hd _ (List.mem_of_getElem? hx1177)))) ) ?_
     rintro _ g1204 _ h1202 hle1205 s1203 ⟨rfl, hgg, rfl⟩; subst g1204; clear hle1205
     refine Op.pures 1 [0, 1, 5, 26] (L' := []) (e' := [(0, .slice (some ⟨b1178, o1179, none⟩) a.length n_a), (1, .slice (some ⟨b1191, o1192, none⟩) b.length n_b), (5, .int .i64 i), (26, .bool (!(decide (x1176 = x1189))))]) (by kernel_rfl) ?_
     refine Op.goto 9 (by kernel_rfl) ?_
     refine At.cond (b := !(decide (x1176 = x1189))) (c := .tmp 26) (by kernel_rfl) (by kernel_rfl) (by kernel_rfl) 10 12 (by kernel_rfl) (by kernel_rfl) (fun hb => ?_) (fun hb => ?_)
     ·have c1206 : ¬ (x1176 = x1189) := of_decide_eq_false (notT hb)
      clear hb
      refine At.keep [] ?_; show At _ _ _ [] _
      refine At.reg (L := [(0, false)]) (by kernel_rfl) ?_
      refine Op.pures 1 [4] (L' := []) (e' := [(4, .bool false)]) (by kernel_rfl) ?_
      refine Op.goto 11 (by kernel_rfl) ?_
      refine At.ret (f := Tryz.f39) (v := .bool false) (by kernel_rfl) (by kernel_rfl) ?_
      refine hR _ _ _ _ s1203 ⟨?_, rfl, rfl⟩
      exact (eqB (by exact sameE_ne hx1177 hx1190 (c1206)))
     ·have c1207 : x1176 = x1189 := of_decide_eq_true (notF hb)
      clear hb
      refine At.keep [0, 1, 5] ?_; show At _ _ _ [(0, .slice (some ⟨b1178, o1179, none⟩) a.length n_a), (1, .slice (some ⟨b1191, o1192, none⟩) b.length n_b), (5, .int .i64 i)] _
      refine At.reg (L := [(0, false), (1, false), (2, false)]) (by kernel_rfl) ?_
      refine Op.pures 1 [0, 1, 5, 15] (L' := [(1, false), (2, false)]) (e' := [(0, .slice (some ⟨b1178, o1179, none⟩) a.length n_a), (1, .slice (some ⟨b1191, o1192, none⟩) b.length n_b), (5, .int .i64 i), (15, .int .i64 i)]) (by kernel_rfl) ?_
      refine Op.val (dst := some 16) (v := .int .i64 (IntKind.wrap .i64 (i + 1))) (v' := .int .i64 (i + 1)) (by kernel_rfl) (wrapEq_i64 (by omega) (by omega)) ?_
      refine Op.pures 1 [0, 1, 5] (L' := []) (e' := [(0, .slice (some ⟨b1178, o1179, none⟩) a.length n_a), (1, .slice (some ⟨b1191, o1192, none⟩) b.length n_b), (5, .int .i64 (i + 1))]) (by kernel_rfl) ?_
      refine Op.goto 6 (by kernel_rfl) ?_
      exact ih6  (i + 1) _ (by omega) (by omega) (by omega) (by exact take_step ht h0 hx1177 hx1190 (c1207))  s1203
    ·have c1208 : ¬ (i < (a.length : Int)) := of_decide_eq_false hb
     clear hb
     refine At.keep [] ?_; show At _ _ _ [] _
     refine At.reg (L := [(0, false)]) (by kernel_rfl) ?_
     refine Op.pures 1 [4] (L' := []) (e' := [(4, .bool true)]) (by kernel_rfl) ?_
     refine Op.goto 14 (by kernel_rfl) ?_
     refine At.ret (f := Tryz.f39) (v := .bool true) (by kernel_rfl) (by kernel_rfl) ?_
     refine hR _ _ _ _ s_loop61173 ⟨?_, rfl, rfl⟩
     exact (eqB (by exact sameE_end (by assumption) c1208 ht))
  exact loop6 _  0 _ (Nat.lt_succ_self _) (by omega) (by omega) (by rfl)  s0
end Go.Proofs.YtmjebehhpojihaaGreatDoor.Sw
namespace Go.Proofs.YtmjebehhpojihaaGreatDoor.Sw
open Go
set_option maxRecDepth 100000
set_option linter.unusedVariables false
set_option linter.unusedSimpArgs false
set_option linter.deprecated false
theorem atR (B : World) (h : Heap) (g : GH) (hg : Sub g h) (hG : Glob g) (t : R10Tree) (v_t_0 : Value) (h_t_0 : SlR g 59 kLeaf v_t_0 t.All) (p : List UInt8) (h1 : t.All.length ≤ 1000000000) :
  Spec Tryz.prog B 86 #[.agg #[v_t_0], .string (mkS p)] h g [] (fun rv g' L' => rv = .int .i64 (atP t.All p) ∧ g' = g ∧ L' = []) := by
 obtain ⟨a_t_0, n_t_0, rfl⟩ := h_t_0.form
 refine Spec.of_at (f := Tryz.f86) (e := [(0, .agg #[.slice a_t_0 t.All.length n_t_0]), (1, .string (mkS p))]) Tryz.func86 (by kernel_rfl) (Nat.le_of_ble_eq_true (by kernel_rfl)) (by kernel_rfl) (by kernel_rfl) ?_
 intro R hR
 have s0 := St.init hg
 refine At.reg (L := [(0, false), (1, false)]) (by kernel_rfl) ?_
 refine Op.box (T := 75) (x := (.tmp 0)) (d := 2) (cs := #[.slice a_t_0 t.All.length n_t_0]) (by kernel_rfl) (by kernel_rfl) s0 ?_
 intro b1015 h1016 s1017
 refine Op.pures 1 [1, 2] (L' := []) (e' := [(1, .string (mkS p)), (2, .pointer (some ⟨b1015, 0, none⟩))]) (by kernel_rfl) ?_
 refine Op.goto 1 (by kernel_rfl) ?_
 refine At.reg (L := [(0, false)]) (by kernel_rfl) ?_
 refine Op.pures 1 [1, 2, 5] (L' := []) (e' := [(1, .string (mkS p)), (2, .pointer (some ⟨b1015, 0, none⟩)), (5, .int .i64 0)]) (by kernel_rfl) ?_
 refine Op.goto 2 (by kernel_rfl) ?_
 have loop2 : ∀ (m : Nat) (i : Int) (h1018 : Heap) (hm : t.All.length - i.toNat < m) (h0 : 0 ≤ i) (h3 : i ≤ t.All.length) (hat : findAt (fun n : Leaf => decide (n.Path = p)) t.All i)     (s_loop21017 : St h g (ids []) g [[(b1015, Obj.cells #[.slice a_t_0 t.All.length n_t_0] 75 (0, 0))]] h1018), At (fctx Tryz.prog B 86 Tryz.f86 R) [] 2 [(1, .string (mkS p)), (2, .pointer (some ⟨b1015, 0, none⟩)), (5, .int .i64 i)] h1018 := by
  intro m; induction m with
  | zero => intros; omega
  | succ m ih2 =>
   intro i h1018 hm h0 h3 hat s_loop21017
   refine At.reg (L := [(0, false), (1, false), (2, false), (3, false), (4, false)]) (by kernel_rfl) ?_
   refine Op.pures 2 [1, 2, 5, 6, 7] (L' := [(2, false), (3, false), (4, false)]) (e' := [(1, .string (mkS p)), (2, .pointer (some ⟨b1015, 0, none⟩)), (5, .int .i64 i), (6, .int .i64 i), (7, .pointer (some ⟨b1015, 0, none⟩))]) (by kernel_rfl) ?_
   refine Op.load (T := 52) (x := (.tmp 7)) (o := 0) (d := 8) (n := 1) (v := .slice a_t_0 t.All.length n_t_0) (by kernel_rfl) (by kernel_rfl) (by kernel_rfl) (s_loop21017.chunk 0 rfl) (by kernel_rfl) ?_
   refine Op.pures 2 [1, 2, 5, 10] (L' := []) (e' := [(1, .string (mkS p)), (2, .pointer (some ⟨b1015, 0, none⟩)), (5, .int .i64 i), (10, .bool (decide (i < (t.All.length : Int))))]) (by kernel_rfl) ?_
   refine Op.goto 3 (by kernel_rfl) ?_
   refine At.cond (b := decide (i < (t.All.length : Int))) (c := .tmp 10) (by kernel_rfl) (by kernel_rfl) (by kernel_rfl) 4 9 (by kernel_rfl) (by kernel_rfl) (fun hb => ?_) (fun hb => ?_)
   ·have c1019 : i < (t.All.length : Int) := of_decide_eq_true hb
    clear hb
    refine At.keep [1, 2, 5] ?_; show At _ _ _ [(1, .string (mkS p)), (2, .pointer (some ⟨b1015, 0, none⟩)), (5, .int .i64 i)] _
    refine At.reg (L := [(0, false), (1, false), (2, false), (3, false), (4, false), (5, false), (6, false), (7, false)]) (by kernel_rfl) ?_
    refine Op.pures 1 [1, 2, 5, 13] (L' := [(1, false), (2, false), (3, false), (4, false), (5, false), (6, false), (7, false)]) (e' := [(1, .string (mkS p)), (2, .pointer (some ⟨b1015, 0, none⟩)), (5, .int .i64 i), (13, .pointer (some ⟨b1015, 0, none⟩))]) (by kernel_rfl) ?_
    refine Op.load (T := 52) (x := (.tmp 13)) (o := 0) (d := 14) (n := 1) (v := .slice a_t_0 t.All.length n_t_0) (by kernel_rfl) (by kernel_rfl) (by kernel_rfl) (s_loop21017.chunk 0 rfl) (by kernel_rfl) ?_
    refine Op.pures 1 [1, 2, 5, 14, 15] (L' := [(3, false), (4, false), (5, false), (6, false), (7, false)]) (e' := [(1, .string (mkS p)), (2, .pointer (some ⟨b1015, 0, none⟩)), (5, .int .i64 i), (14, .slice a_t_0 t.All.length n_t_0), (15, .int .i64 i)]) (by kernel_rfl) ?_
    obtain ⟨x1020, hx1021⟩ : ∃ c, t.All[(i : Int).toNat]? = some c := ⟨_, List.getElem?_eq_getElem (by omega)⟩
    obtain ⟨b1022, o1023, cu1024, fz1025, ha1026, hb1027, hk1028⟩ := SlR.at_ h_t_0 _ hx1021
    cases ha1026
    refine Op.idx (T := 52) (E := 59) (sz := 6) (by_ := 72) (n := t.All.length) (c := n_t_0) (k := .i64) (x := (.tmp 14)) (ix := (.tmp 15)) (dst := 16) (bk := b1022) (o := o1023) (m := i) (by kernel_rfl) (by kernel_rfl) (by kernel_rfl) (by kernel_rfl) (by omega) (by omega) ?_
    obtain ⟨v1029, hv1030, hk1028⟩ := hk1028
    obtain ⟨a1031, n1032, rfl⟩ := hv1030.form
    refine Op.pures 1 [1, 2, 5, 17] (L' := [(5, false), (6, false), (7, false)]) (e' := [(1, .string (mkS p)), (2, .pointer (some ⟨b1015, 0, none⟩)), (5, .int .i64 i), (17, .pointer (some ⟨b1022, o1023 + (i : Int).toNat * 6, none⟩))]) (by kernel_rfl) ?_
    refine Op.load (T := 9) (x := (.tmp 17)) (o := o1023 + (i : Int).toNat * 6) (d := 18) (n := 1) (v := .string (mkS x1020.Path)) (by kernel_rfl) (by kernel_rfl) (by kernel_rfl) (s_loop21017.sub _ _ hb1027) (cut_get hk1028 0 rfl) ?_
    refine Op.pures 1 [1, 2, 5, 18, 19] (L' := [(7, false)]) (e' := [(1, .string (mkS p)), (2, .pointer (some ⟨b1015, 0, none⟩)), (5, .int .i64 i), (18, .string (mkS x1020.Path)), (19, .string (mkS p))]) (by kernel_rfl) ?_
    refine Op.val (dst := some 20) (v := .bool ((mkS x1020.Path).toList == (mkS p).toList)) (v' := .bool (x1020.Path == p)) (by kernel_rfl) (by rw [toList_mkS, toList_mkS]) ?_
    refine Op.goto 5 (by kernel_rfl) ?_
    refine At.cond (b := x1020.Path == p) (c := .tmp 20) (by kernel_rfl) (by kernel_rfl) (by kernel_rfl) 6 8 (by kernel_rfl) (by kernel_rfl) (fun hb => ?_) (fun hb => ?_)
    ·have c1033 : x1020.Path = p := eq_of_beq hb
     clear hb
     refine At.keep [5] ?_; show At _ _ _ [(5, .int .i64 i)] _
     refine At.reg (L := [(0, false), (1, false)]) (by kernel_rfl) ?_
     refine Op.pures 2 [4] (L' := []) (e' := [(4, .int .i64 i)]) (by kernel_rfl) ?_
     refine Op.goto 7 (by kernel_rfl) ?_
     refine At.ret (f := Tryz.f86) (v := .int .i64 i) (by kernel_rfl) (by kernel_rfl) ?_
     have s1034 : St h g (ids []) g [] h1018 := (s_loop21017).drop
     refine hR _ _ _ _ s1034 ⟨?_, rfl, rfl⟩
     exact (eqI (by exact findAt_hit hat hx1021 (decide_eq_true c1033)))
    ·have c1035 : ¬ (x1020.Path = p) := neF hb
     clear hb
     refine At.keep [1, 2, 5] ?_; show At _ _ _ [(1, .string (mkS p)), (2, .pointer (some ⟨b1015, 0, none⟩)), (5, .int .i64 i)] _
     refine At.reg (L := [(0, false), (1, false), (2, false)]) (by kernel_rfl) ?_
     refine Op.pures 1 [1, 2, 5, 11] (L' := [(1, false), (2, false)]) (e' := [(1, .string (mkS p)), (2, .pointer (some ⟨b1015, 0, none⟩)), (5, .int .i64 i), (11, .int .i64 i)]) (by kernel_rfl) ?_
     refine Op.val (dst := some 12) (v := .int .i64 (IntKind.wrap .i64 (i + 1))) (v' := .int .i64 (i + 1)) (by kernel_rfl) (wrapEq_i64 (by omega) (by omega)) ?_
     refine Op.pures 1 [1, 2, 5] (L' := []) (e' := [(1, .string (mkS p)), (2, .pointer (some ⟨b1015, 0, none⟩)), (5, .int .i64 (i + 1))]) (by kernel_rfl) ?_
     refine Op.goto 2 (by kernel_rfl) ?_
     exact ih2  (i + 1) _ (by omega) (by omega) (by omega) (by exact findAt_miss hat h0 hx1021 (decide_eq_false c1035))  s_loop21017
   ·have c1036 : ¬ (i < (t.All.length : Int)) := of_decide_eq_false hb
    clear hb
    refine At.keep [] ?_; show At _ _ _ [] _
    refine At.reg (L := [(0, false)]) (by kernel_rfl) ?_
    refine Op.pures 1 [4] (L' := []) (e' := [(4, .int .i64 (-1))]) (by kernel_rfl) ?_
    refine Op.goto 10 (by kernel_rfl) ?_
    refine At.ret (f := Tryz.f86) (v := .int .i64 (-1)) (by kernel_rfl) (by kernel_rfl) ?_
    have s1037 : St h g (ids []) g [] h1018 := (s_loop21017).drop
    refine hR _ _ _ _ s1037 ⟨?_, rfl, rfl⟩
    exact (eqI (by exact findAt_end hat c1036))
 exact loop2 _  0 _ (Nat.lt_succ_self _) (by omega) (by omega) (by exact findAt_0 _ _)  s1017
end Go.Proofs.YtmjebehhpojihaaGreatDoor.Sw
namespace Go.Proofs.YtmjebehhpojihaaGreatDoor.Sw
set_option linter.unusedVariables false
set_option linter.unusedSimpArgs false
set_option linter.deprecated false
open Go
def al1 : List Leaf := [⟨[47], [], 0, -1, 0, 0⟩, ⟨[47, 113], [], 0, -1, 0, 1⟩]
def al2 : List Leaf := [⟨[47], [], 0, -1, 0, 0⟩, ⟨[47, 113], [], 0, -1, 1, 1⟩, ⟨[47, 113, 47, 116, 45, 48, 48, 48, 48, 48], [120], 0, 3, 0, 2⟩]
theorem al_1 : makeT [⟨[47], [], 0, -1, 0, 0⟩] [47, 113] [] (-1) 1 false = (al1, [47, 113], 0) := by decide +kernel
theorem al_num : numS [47, 113, 47, 116, 45] 0 = [47, 113, 47, 116, 45, 48, 48, 48, 48, 48] ∧ numE [47, 113, 47, 116, 45] 0 = 0 := by
  have h : numOk [47, 113, 47, 116, 45] 0 = true := by decide +kernel
  have hd : dig5 0 = [48, 48, 48, 48, 48] := by rw [← low_dig (by decide) (by decide)]; decide +kernel
  unfold numS numE
  rw [if_pos h, if_pos h, hd]
  decide +kernel
theorem al_2 : makeT al1 [47, 113, 47, 116, 45] [120] 3 2 true = (al2, [47, 113, 47, 116, 45, 48, 48, 48, 48, 48], 0) := by
  have h := rm_8 (ns := al1) (p := [47, 113, 47, 116, 45]) (data := [120]) (owner := 3) (born := 2) (num := true) (up := ⟨[47, 113], [], 0, -1, 0, 1⟩) (q := [47, 113, 47, 116, 45, 48, 48, 48, 48, 48])
    (by decide +kernel) (by decide) (by decide +kernel) rfl ⟨al_num.2, al_num.1⟩ (by decide +kernel) (by decide +kernel)
  rw [h]
  have : madeL al1 ⟨[47, 113], [], 0, -1, 0, 1⟩ [47, 113, 47, 116, 45, 48, 48, 48, 48, 48] [120] 3 2 true = al2 := by decide +kernel
  rw [this]
theorem al_3 : getT al2 [47, 113, 47, 116, 45, 48, 48, 48, 48, 48] = (⟨[47, 113, 47, 116, 45, 48, 48, 48, 48, 48], [120], 0, 3, 0, 2⟩, 0) := by decide +kernel
theorem al_4 : dropT al2 [47, 113] (-1) = (al2, 103) := by decide +kernel
theorem al_b0 : TreeB [⟨[47], [], 0, -1, 0, 0⟩] := (TreeOk.new).b (by decide)
theorem al_b1 : TreeB al1 := ⟨by decide, by decide⟩
theorem al_b2 : TreeB al2 := ⟨by decide, by decide⟩
def opZ (o : L10Op) : Int := (1 + (o.Path.length : Int)) + (o.Data.length : Int)
def grN : List L10Op → Int → Int
  | [], n => n
  | o :: r, n => if n ≤ 100000 then grN r (n + opZ o) else n
theorem gr_step {l : List L10Op} {i n : Int} {o : L10Op} (h : grN l 0 = grN (l.drop i.toNat) n) (h0 : 0 ≤ i) (hx : l[i.toNat]? = some o) (hn : n ≤ 100000) : grN l 0 = grN (l.drop (i + 1).toNat) (n + opZ o) := by
  rw [h, drop_at hx, toNat_succ h0, grN, if_pos hn]
theorem gr_end1 {l : List L10Op} {i n : Int} (h : grN l 0 = grN (l.drop i.toNat) n) (hi : ¬ (i < (l.length : Int))) : n = grN l 0 := by
  rw [h, List.drop_eq_nil_of_le (by omega)]; rfl
theorem gr_end2 {l : List L10Op} {i n : Int} (h : grN l 0 = grN (l.drop i.toNat) n) (hn : ¬ (n ≤ 100000)) : n = grN l 0 := by
  rw [h]
  cases l.drop i.toNat with
  | nil => rfl
  | cons o r => rw [grN, if_neg hn]
theorem grN_ge : ∀ (l : List L10Op) (n : Int), n ≤ grN l n
  | [], n => by simp [grN]
  | o :: r, n => by
    unfold grN
    split
    · have := grN_ge r (n + opZ o)
      unfold opZ at *
      omega
    · omega
def greatB (l : List L10Op) : Bool := decide (grN l 0 > 10000) || decide ((l.length : Int) > 150)
theorem gr_mem : ∀ (l : List L10Op) (n : Int), 0 ≤ n → grN l n ≤ 10000 → ∀ o ∈ l, o.Path.length ≤ 10000 ∧ o.Data.length ≤ 10000
  | [], n, _, _, o, ho => absurd ho (by simp)
  | q :: r, n, h0, h, o, ho => by
    unfold grN at h
    split at h
    · have hz : 0 ≤ opZ q := by unfold opZ; omega
      rcases List.mem_cons.1 ho with rfl | ho
      · have := grN_ge r (n + opZ o)
        unfold opZ at *
        omega
      · exact gr_mem r (n + opZ q) (by omega) h o ho
    · omega
theorem small {l : List L10Op} (h : greatB l = false) : l.length ≤ 150 ∧ ∀ o ∈ l, o.Path.length ≤ 10000 ∧ o.Data.length ≤ 10000 := by
  unfold greatB at h
  rw [Bool.or_eq_false_iff] at h
  have h1 := of_decide_eq_false h.1
  have h2 := of_decide_eq_false h.2
  exact ⟨by omega, gr_mem l 0 (by omega) (by omega)⟩
theorem greatB_1 {l : List L10Op} {n : Int} (h : n = grN l 0) (hn : n > 10000) : true = greatB l := by
  unfold greatB; rw [← h, decide_eq_true hn]; rfl
theorem greatB_2 {l : List L10Op} {n : Int} (h : n = grN l 0) (hn : ¬ n > 10000) : decide ((l.length : Int) > 150) = greatB l := by
  unfold greatB; rw [← h, decide_eq_false hn]; rfl
section
variable {k : Int} {ns : List Leaf} {p : Str}
theorem kids_yes2 (h : (getT ns p).2 = 0) : (kidsT ns p).1 = kidsL ns p := by rw [kt_2 h]
theorem kidsT_len (ns : List Leaf) (p : Str) : ((kidsT ns p).1).length ≤ ns.length := by
  by_cases h : (getT ns p).2 = 0
  · rw [kids_yes2 h]; exact kidsL_len ns p
  · rw [kt_1 h]; exact Nat.zero_le _
section
variable {cur : List Leaf} {ow : List Int} {j z : Int} {inn : Bool} {x : Leaf}
end
section
variable {j z n : Int} {x y : Leaf} {q : Str}
theorem right_n (H : TreeOk k ns) (h : n = (sumK ns (ns.take j.toNat) : Int)) (h0 : 0 ≤ j) (hx : ns[j.toNat]? = some x) : n + (((kidsT ns x.Path).1).length : Int) = (sumK ns (ns.take (j + 1).toNat) : Int) := by
  rw [H.kids (List.mem_of_getElem? hx)]
  exact sumK_step h h0 hx
theorem right_e (H : TreeOk k ns) (hx : ns[j.toNat]? = some x) : (kidsT ns x.Path).2 = 0 := by rw [H.kids (List.mem_of_getElem? hx)]
theorem right_b (H : TreeOk k ns) (hx : ns[j.toNat]? = some x) (ho : ¬ x.Owner = -1) : ¬ (((kidsT ns x.Path).1).length : Int) > 0 := by
  rw [H.kids (List.mem_of_getElem? hx), H.brief (List.mem_of_getElem? hx) ho]
  decide
theorem right_s (H : TreeOk k ns) (h0 : j > 0) (hy : ns[(j - 1).toNat]? = some y) (hx : ns[j.toNat]? = some x) : Go.Op.bytesLess y.Path x.Path = true := by
  have h1 := (List.getElem?_eq_some_iff.1 hy)
  have h2 := (List.getElem?_eq_some_iff.1 hx)
  obtain ⟨a, e1⟩ := h1
  obtain ⟨b, e2⟩ := h2
  have := List.pairwise_iff_getElem.1 H.sort (j - 1).toNat j.toNat a b (by omega)
  rw [e1, e2] at this
  exact this
theorem right_k (H : TreeOk k ns) (hx : ns[j.toNat]? = some x) (hk : ((kidsT ns x.Path).1)[z.toNat]? = some q) (hy : ns[j.toNat]? = some y) : parentOf q = y.Path := by
  rw [hx] at hy
  cases hy
  rw [H.kids (List.mem_of_getElem? hx)] at hk
  obtain ⟨_, _, _, _, e⟩ := kids_mem.1 (List.mem_of_getElem? hk)
  exact e
theorem right_q (H : TreeOk k ns) (hx : ns[j.toNat]? = some x) (hk : ((kidsT ns x.Path).1)[z.toNat]? = some q) : q.length ≤ 64 := by
  rw [H.kids (List.mem_of_getElem? hx)] at hk
  obtain ⟨m, hm, e, _, _⟩ := kids_mem.1 (List.mem_of_getElem? hk)
  rw [← e]
  exact pOk_len (H.node m hm).1
theorem TreeOk.len1 (H : TreeOk k ns) : ¬ (ns.length : Int) < 1 := by
  obtain ⟨r, hr, _⟩ := H.root
  have := List.length_pos_of_mem hr
  omega
end
section
variable {x last : Str} {m z a : Int} {c : List Leaf} {n : Leaf}
end
section
variable {A af : List Leaf} {z : Int} {x : Leaf} {up : Str} {num : Bool}
end
section
variable {upl : Leaf} {q p data d dd : Str} {n1 : List Leaf} {num : Bool}
theorem Back.s1 (H : Back k ns p data num q upl n1) (h : d.length ≤ 128) : (setT n1 q d 0).2.2 = 0 ∧ (setT n1 q d 0).2.1 = 1 := by
  rw [H.set d h]; exact ⟨rfl, rfl⟩
theorem Back.s2 (H : Back k ns p data num q upl n1) (h : d.length ≤ 128) : (setT (withL n1 ⟨q, d, 1, -1, 0, 5⟩) q dd 0).2.2 = 102 := by
  rw [H.set2 d dd h]
end
end
end Go.Proofs.YtmjebehhpojihaaGreatDoor.Sw
namespace Go.Proofs.YtmjebehhpojihaaGreatDoor.Sw
set_option linter.unusedVariables false
set_option linter.unusedSimpArgs false
set_option linter.deprecated false
open Go
section
variable {C : Ctx} {ds : List Deferred} {i j : Nat} {r : Heap} {M : Nat → Prop} {Ls : List (Nat × Bool)} {e : Env} {h : Heap}
variable {h0 : Heap} {g0 : GH} {S0 : Nat → Prop} {g : GH} {L : List Chunk}
theorem Op.convLit {dst : Nat} {T E : TypeId} {x : Operand} {b n : Nat} {cs : Array Value} {xs : List UInt8} (ho : nextDO C i j e = some (some dst, .convert T T x)) (hT : C.P.underlying T = some (.slice E)) (hE : C.P.underlying E = some (.int .u8))
    (hx : e.ev x = .slice (some ⟨b, 0, none⟩) n n) (hn : xs.length = n) (s : St h0 g0 S0 g ([(b, .cells cs E (0, 0))] :: L) h) (hr : Reads kU8 g xs (cut cs 0 (xs.length * kU8.sz))) (hM : b < r.size → M b)
    (K : ∀ g' h', gle g g' → St h0 g0 S0 g' L h' → SlR g' E kU8 (.slice (some ⟨b, 0, none⟩) n n) xs → Op C ds i r M Ls ((dst, .slice (some ⟨b, 0, none⟩) n n) :: e) h') : Op C ds i r M ((j, false) :: Ls) e h := by
  obtain ⟨o', h1, h2, h3⟩ := nextDO_spec ho
  have hb := s.chunk 0 rfl
  let f : Obj → Obj := fun | .cells c elem (lo, hi) => .cells c elem (if lo == hi then (cs.size, cs.size + 1) else (min lo cs.size, max hi (cs.size + 1))) | o => o
  have u : Upd h b (.cells cs E (cs.size, cs.size + 1)) (h.modify b f) := Upd.modify f hb
  refine Op.run h1 (R := fun nx h' => nx = .value (.slice (some ⟨b, 0, none⟩) n n) ∧ h' = h.modify b f) ?_ ?_
  · intro w is
    have hbw : w.heap[b]? = some (.cells cs E (0, 0)) := by rw [is.heap]; exact hb
    have hsh : w.shape? b = some (E, cs.size) := by unfold World.shape?; rw [hbw]
    refine ⟨_, w.freeze ⟨b, cs.size, none⟩ 1, ?_, ⟨rfl, is.os, is.tape, is.output⟩, rfl, ?_⟩
    · unfold semOf execOp
      simp only [h3, hx, Sem.run_bind]
      simp [convert, run_underlying hT, run_underlying hE, markStringish, hsh]
    · unfold World.freeze
      rw [if_neg (by decide)]
      rw [← is.heap]
      rfl
  · rintro _ _ ⟨rfl, rfl⟩
    refine ⟨_, rfl, u.keep hM, ?_⟩
    rw [h2]
    obtain ⟨s', hle⟩ := (s.upd u).freeze
    refine K _ _ hle s' ⟨_, _, by rw [hn], by omega, fun _ => ⟨b, 0, cs, (E, cs.size, cs.size + 1), rfl, gadd_one _ _, hr.mono hle⟩⟩
end
theorem Deep.row {h0 : Heap} {g0 : GH} {S0 : Nat → Prop} {g : GH} {L : List Chunk} {h : Heap} {α : Type} {T : TypeId} {d : Kd α} {v : Value} {xs : List α} {c dc : Chunk} (hr : Row T d (gadd gE dc) v xs c) (s : St h0 g0 S0 g (c :: dc :: L) h) :
    ∃ g', St h0 g0 S0 g' (c :: L) h ∧ gle g g' ∧ Row T d g' v xs c := by
  have s1 := s.perm (L' := dc :: c :: L) (List.Perm.swap _ _ _)
  obtain ⟨s2, hl2⟩ := St.freeze s1
  exact ⟨_, s2, hl2, hr.mono (gadd_le fun p hp => s1.sep p (by simp [hp]))⟩
end Go.Proofs.YtmjebehhpojihaaGreatDoor.Sw
namespace Go.Proofs.YtmjebehhpojihaaGreatDoor.Sw
open Go
set_option maxRecDepth 100000
set_option linter.unusedVariables false
set_option linter.unusedSimpArgs false
set_option linter.deprecated false
theorem great10 (B : World) (h : Heap) (g : GH) (hg : Sub g h) (hG : Glob g) (v_script : Value) (script : List L10Op) (h_script : SlR g 49 kL10Op v_script script) (h1 : script.length ≤ 2000000) (hb : ∀ o ∈ script, o.Path.length ≤ 2000000 ∧ o.Data.length ≤ 2000000) :
  Spec Tryz.prog B 26 #[v_script] h g [] (fun rv g' L' => rv = .bool (greatB script) ∧ g' = g ∧ L' = []) := by
 obtain ⟨a_script, n_script, rfl⟩ := h_script.form
 refine Spec.of_at (f := Tryz.f26) (e := [(0, .slice a_script script.length n_script)]) Tryz.func26 (by kernel_rfl) (Nat.le_of_ble_eq_true (by kernel_rfl)) (by kernel_rfl) (by kernel_rfl) ?_
 intro R hR
 have s0 := St.init hg
 refine At.reg (L := [(0, false)]) (by kernel_rfl) ?_
 refine Op.pures 1 [0] (L' := []) (e' := [(0, .slice a_script script.length n_script)]) (by kernel_rfl) ?_
 refine Op.goto 1 (by kernel_rfl) ?_
 refine At.reg (L := [(0, false)]) (by kernel_rfl) ?_
 refine Op.pures 1 [0, 3] (L' := []) (e' := [(0, .slice a_script script.length n_script), (3, .int .i64 0)]) (by kernel_rfl) ?_
 refine Op.goto 2 (by kernel_rfl) ?_
 refine At.reg (L := [(0, false)]) (by kernel_rfl) ?_
 refine Op.pures 1 [0, 3, 4] (L' := []) (e' := [(0, .slice a_script script.length n_script), (3, .int .i64 0), (4, .int .i64 0)]) (by kernel_rfl) ?_
 refine Op.goto 3 (by kernel_rfl) ?_
 have loop3 : ∀ (m : Nat) (n : Int) (i : Int) (h1024 : Heap) (hm : script.length - i.toNat < m) (h0 : 0 ≤ i) (h3 : i ≤ script.length) (hn0 : 0 ≤ n) (hn1 : n ≤ 4100002) (hg : grN script 0 = grN (script.drop i.toNat) n)     (s_loop31023 : St h g (ids []) g [] h1024), At (fctx Tryz.prog B 26 Tryz.f26 R) [] 3 [(0, .slice a_script script.length n_script), (3, .int .i64 n), (4, .int .i64 i)] h1024 := by
  intro m; induction m with
  | zero => intros; omega
  | succ m ih3 =>
   intro n i h1024 hm h0 h3 hn0 hn1 hg s_loop31023
   refine At.reg (L := [(0, false), (1, false), (2, false), (3, false), (4, false), (5, false), (6, false), (7, false)]) (by kernel_rfl) ?_
   refine Op.pures 5 [0, 3, 4, 9] (L' := [(5, false), (6, false), (7, false)]) (e' := [(0, .slice a_script script.length n_script), (3, .int .i64 n), (4, .int .i64 i), (9, .bool (decide (i < (script.length : Int))))]) (by kernel_rfl) ?_
   refine Op.ways (b := decide (i < (script.length : Int))) ⟨fun hb => ?_, fun hb => ?_⟩
   ·refine Op.cast (e' := [(0, .slice a_script script.length n_script), (3, .int .i64 n), (4, .int .i64 i), (9, .bool true)]) (by rw [hb]) ?_
    have c1025 : i < (script.length : Int) := of_decide_eq_true hb
    clear hb
    refine Op.pures 3 [0, 3, 4, 12] (L' := []) (e' := [(0, .slice a_script script.length n_script), (3, .int .i64 n), (4, .int .i64 i), (12, .bool (decide (n ≤ (100000 : Int))))]) (by kernel_rfl) ?_
    refine Op.goto 4 (by kernel_rfl) ?_
    refine At.cond (b := decide (n ≤ (100000 : Int))) (c := .tmp 12) (by kernel_rfl) (by kernel_rfl) (by kernel_rfl) 5 7 (by kernel_rfl) (by kernel_rfl) (fun hb => ?_) (fun hb => ?_)
    ·have c1026 : n ≤ (100000 : Int) := of_decide_eq_true hb
     clear hb
     refine At.keep [0, 3, 4] ?_; show At _ _ _ [(0, .slice a_script script.length n_script), (3, .int .i64 n), (4, .int .i64 i)] _
     refine At.draw (by kernel_rfl) (fun _ => False) [(0, true), (1, true), (2, true), (3, true), (4, true), (8, true), (9, true), (10, true), (11, true), (5, true), (6, true), (7, true), (12, false), (13, true), (14, true), (15, true), (16, true)] (by kernel_rfl) ?_
     refine Op.pures 3 [0, 3, 4, 15, 16, 17] (L' := [(3, true), (4, true), (8, true), (9, true), (10, true), (11, true), (5, true), (6, true), (7, true), (12, false), (13, true), (14, true), (15, true), (16, true)]) (e' := [(0, .slice a_script script.length n_script), (3, .int .i64 n), (4, .int .i64 i), (15, .int .i64 n), (16, .slice a_script script.length n_script), (17, .int .i64 i)]) (by kernel_rfl) ?_
     obtain ⟨x1027, hx1028⟩ : ∃ c, script[(i : Int).toNat]? = some c := ⟨_, List.getElem?_eq_getElem (by omega)⟩
     obtain ⟨b1029, o1030, cu1031, fz1032, ha1033, hb1034, hk1035⟩ := SlR.at_ h_script _ hx1028
     cases ha1033
     refine Op.idx (T := 43) (E := 49) (sz := 7) (by_ := 80) (n := script.length) (c := n_script) (k := .i64) (x := (.tmp 16)) (ix := (.tmp 17)) (dst := 18) (bk := b1029) (o := o1030) (m := i) (by kernel_rfl) (by kernel_rfl) (by kernel_rfl) (by kernel_rfl) (by omega) (by omega) ?_
     obtain ⟨v1036, hv1037, hk1035⟩ := hk1035
     obtain ⟨a1038, n1039, rfl⟩ := hv1037.form
     refine Op.pures 3 [0, 3, 4, 15, 19, 23, 24] (L' := [(10, true), (11, true), (5, true), (6, true), (7, true), (12, false), (13, true), (14, true), (15, true), (16, true)]) (e' := [(0, .slice (some ⟨b1029, o1030, none⟩) script.length n_script), (3, .int .i64 n), (4, .int .i64 i), (15, .int .i64 n), (19, .pointer (some ⟨b1029, o1030 + (i : Int).toNat * 7 + 4, none⟩)), (23, .slice (some ⟨b1029, o1030, none⟩) script.length n_script), (24, .int .i64 i)]) (by kernel_rfl) ?_
     obtain ⟨b1042, o1043, cu1044, fz1045, ha1046, hb1047, hk1048⟩ := SlR.at_ h_script _ hx1028
     cases ha1046
     refine Op.idx (T := 43) (E := 49) (sz := 7) (by_ := 80) (n := script.length) (c := n_script) (k := .i64) (x := (.tmp 23)) (ix := (.tmp 24)) (dst := 25) (bk := b1029) (o := o1030) (m := i) (by kernel_rfl) (by kernel_rfl) (by kernel_rfl) (by kernel_rfl) (by omega) (by omega) ?_
     obtain ⟨v1049, hv1050, hk1048⟩ := hk1048
     obtain ⟨a1051, n1052, rfl⟩ := hv1050.form
     refine Op.pures 1 [0, 3, 4, 15, 19, 26] (L' := [(5, true), (6, true), (7, true), (12, false), (13, true), (14, true), (15, true), (16, true)]) (e' := [(0, .slice (some ⟨b1029, o1030, none⟩) script.length n_script), (3, .int .i64 n), (4, .int .i64 i), (15, .int .i64 n), (19, .pointer (some ⟨b1029, o1030 + (i : Int).toNat * 7 + 4, none⟩)), (26, .pointer (some ⟨b1029, o1030 + (i : Int).toNat * 7 + 5, none⟩))]) (by kernel_rfl) ?_
     refine Op.loadF (T := 9) (x := (.tmp 19)) (o := o1030 + (i : Int).toNat * 7 + 4) (d := 20) (n := 1) (v := .string (mkS x1027.Path)) (by kernel_rfl) (by kernel_rfl) (by kernel_rfl) (fun h => h) (s_loop31023.sub _ _ hb1034) (cut_get hk1035 4 rfl) ?_
     refine Op.pures 1 [0, 3, 4, 15, 21, 26] (L' := [(7, true), (12, false), (13, true), (14, true), (15, true), (16, true)]) (e' := [(0, .slice (some ⟨b1029, o1030, none⟩) script.length n_script), (3, .int .i64 n), (4, .int .i64 i), (15, .int .i64 n), (21, .int .i64 (x1027.Path.length : Int)), (26, .pointer (some ⟨b1029, o1030 + (i : Int).toNat * 7 + 5, none⟩))]) (by kernel_rfl) ?_
     refine Op.val (dst := some 22) (v := .int .i64 (IntKind.wrap .i64 ((1 : Int) + (x1027.Path.length : Int)))) (v' := .int .i64 ((1 : Int) + (x1027.Path.length : Int))) (by kernel_rfl) (wrapEq_i64 (by omega) (by (have hbb := hb _ (List.mem_of_getElem? hx1028); omega))) ?_
     refine Op.load (T := 29) (x := (.tmp 26)) (o := o1030 + (i : Int).toNat * 7 + 5) (d := 27) (n := 1) (v := .slice a1051 x1027.Data.length n1052) (by kernel_rfl) (by kernel_rfl) (by kernel_rfl) (s_loop31023.sub _ _ hb1047) (cut_get hk1048 5 rfl) ?_
     refine Op.pures 1 [0, 3, 4, 15, 22, 28] (L' := [(14, true), (15, true), (16, true)]) (e' := [(0, .slice (some ⟨b1029, o1030, none⟩) script.length n_script), (3, .int .i64 n), (4, .int .i64 i), (15, .int .i64 n), (22, .int .i64 ((1 : Int) + (x1027.Path.length : Int))), (28, .int .i64 (x1027.Data.length : Int))]) (by kernel_rfl) ?_
     refine Op.val (dst := some 29) (v := .int .i64 (IntKind.wrap .i64 (((1 : Int) + (x1027.Path.length : Int)) + (x1027.Data.length : Int)))) (v' := .int .i64 (((1 : Int) + (x1027.Path.length : Int)) + (x1027.Data.length : Int))) (by kernel_rfl) (wrapEq_i64 (by omega) (by (have hbb := hb _ (List.mem_of_getElem? hx1028); omega))) ?_
     refine Op.val (dst := some 30) (v := .int .i64 (IntKind.wrap .i64 (n + (((1 : Int) + (x1027.Path.length : Int)) + (x1027.Data.length : Int))))) (v' := .int .i64 (n + (((1 : Int) + (x1027.Path.length : Int)) + (x1027.Data.length : Int)))) (by kernel_rfl) (wrapEq_i64 (by omega) (by (have hbb := hb _ (List.mem_of_getElem? hx1028); omega))) ?_
     refine Op.pures 1 [0, 3, 4] (L' := []) (e' := [(0, .slice (some ⟨b1029, o1030, none⟩) script.length n_script), (3, .int .i64 (n + (((1 : Int) + (x1027.Path.length : Int)) + (x1027.Data.length : Int)))), (4, .int .i64 i)]) (by kernel_rfl) ?_
     refine Op.goto 6 (by kernel_rfl) ?_
     refine At.reg (L := [(0, false), (1, false), (2, false)]) (by kernel_rfl) ?_
     refine Op.pures 1 [0, 3, 4, 13] (L' := [(1, false), (2, false)]) (e' := [(0, .slice (some ⟨b1029, o1030, none⟩) script.length n_script), (3, .int .i64 (n + (((1 : Int) + (x1027.Path.length : Int)) + (x1027.Data.length : Int)))), (4, .int .i64 i), (13, .int .i64 i)]) (by kernel_rfl) ?_
     refine Op.val (dst := some 14) (v := .int .i64 (IntKind.wrap .i64 (i + 1))) (v' := .int .i64 (i + 1)) (by kernel_rfl) (wrapEq_i64 (by omega) (by omega)) ?_
     refine Op.pures 1 [0, 3, 4] (L' := []) (e' := [(0, .slice (some ⟨b1029, o1030, none⟩) script.length n_script), (3, .int .i64 (n + (((1 : Int) + (x1027.Path.length : Int)) + (x1027.Data.length : Int)))), (4, .int .i64 (i + 1))]) (by kernel_rfl) ?_
     refine Op.goto 3 (by kernel_rfl) ?_
     exact ih3  (n + (((1 : Int) + (x1027.Path.length : Int)) + (x1027.Data.length : Int))) (i + 1) _ (by omega) (by omega) (by omega) (by omega) (by (have hbb := hb _ (List.mem_of_getElem? hx1028); omega)) (by exact gr_step hg h0 hx1028 (by assumption))  s_loop31023
    ·have c1053 : ¬ (n ≤ (100000 : Int)) := of_decide_eq_false hb
     clear hb
     refine At.keep [0, 3] ?_; show At _ _ _ [(0, .slice a_script script.length n_script), (3, .int .i64 n)] _
     refine At.reg (L := [(0, false), (1, false), (2, false), (3, false), (4, false), (5, false), (6, false), (7, false)]) (by kernel_rfl) ?_
     refine Op.pures 3 [0, 33] (L' := [(3, false), (4, false), (5, false), (6, false), (7, false)]) (e' := [(0, .slice a_script script.length n_script), (33, .bool (decide (n > (10000 : Int))))]) (by kernel_rfl) ?_
     refine Op.ways (b := decide (n > (10000 : Int))) ⟨fun hb => ?_, fun hb => ?_⟩
     ·refine Op.cast (e' := [(0, .slice a_script script.length n_script), (33, .bool true)]) (by rw [hb]) ?_
      have c1054 : n > (10000 : Int) := of_decide_eq_true hb
      clear hb
      refine Op.pures 5 [2] (L' := []) (e' := [(2, .bool true)]) (by kernel_rfl) ?_
      refine Op.goto 8 (by kernel_rfl) ?_
      refine At.ret (f := Tryz.f26) (v := .bool true) (by kernel_rfl) (by kernel_rfl) ?_
      refine hR _ _ _ _ s_loop31023 ⟨?_, rfl, rfl⟩
      exact (eqB (by exact greatB_1 (gr_end2 hg (by assumption)) (by assumption)))
     ·refine Op.cast (e' := [(0, .slice a_script script.length n_script), (33, .bool false)]) (by rw [hb]) ?_
      have c1055 : ¬ (n > (10000 : Int)) := of_decide_eq_false hb
      clear hb
      refine Op.pures 5 [2] (L' := []) (e' := [(2, .bool (decide ((script.length : Int) > (150 : Int))))]) (by kernel_rfl) ?_
      refine Op.goto 8 (by kernel_rfl) ?_
      refine At.ret (f := Tryz.f26) (v := .bool (decide ((script.length : Int) > (150 : Int)))) (by kernel_rfl) (by kernel_rfl) ?_
      refine hR _ _ _ _ s_loop31023 ⟨?_, rfl, rfl⟩
      exact (eqB (by exact greatB_2 (gr_end2 hg (by assumption)) (by assumption)))
   ·refine Op.cast (e' := [(0, .slice a_script script.length n_script), (3, .int .i64 n), (4, .int .i64 i), (9, .bool false)]) (by rw [hb]) ?_
    have c1056 : ¬ (i < (script.length : Int)) := of_decide_eq_false hb
    clear hb
    refine Op.pures 3 [0, 3, 4, 12] (L' := []) (e' := [(0, .slice a_script script.length n_script), (3, .int .i64 n), (4, .int .i64 i), (12, .bool false)]) (by kernel_rfl) ?_
    refine Op.goto 4 (by kernel_rfl) ?_
    refine At.condF (c := .tmp 12) (by kernel_rfl) (by kernel_rfl) (by kernel_rfl) 7 (by kernel_rfl) ?_
    refine At.reg (L := [(0, false), (1, false), (2, false), (3, false), (4, false), (5, false), (6, false), (7, false)]) (by kernel_rfl) ?_
    refine Op.pures 3 [0, 33] (L' := [(3, false), (4, false), (5, false), (6, false), (7, false)]) (e' := [(0, .slice a_script script.length n_script), (33, .bool (decide (n > (10000 : Int))))]) (by kernel_rfl) ?_
    refine Op.ways (b := decide (n > (10000 : Int))) ⟨fun hb => ?_, fun hb => ?_⟩
    ·refine Op.cast (e' := [(0, .slice a_script script.length n_script), (33, .bool true)]) (by rw [hb]) ?_
     have c1057 : n > (10000 : Int) := of_decide_eq_true hb
     clear hb
     refine Op.pures 5 [2] (L' := []) (e' := [(2, .bool true)]) (by kernel_rfl) ?_
     refine Op.goto 8 (by kernel_rfl) ?_
     refine At.ret (f := Tryz.f26) (v := .bool true) (by kernel_rfl) (by kernel_rfl) ?_
     refine hR _ _ _ _ s_loop31023 ⟨?_, rfl, rfl⟩
     exact (eqB (by exact greatB_1 (gr_end1 hg (by assumption)) (by assumption)))
    ·refine Op.cast (e' := [(0, .slice a_script script.length n_script), (33, .bool false)]) (by rw [hb]) ?_
     have c1058 : ¬ (n > (10000 : Int)) := of_decide_eq_false hb
     clear hb
     refine Op.pures 5 [2] (L' := []) (e' := [(2, .bool (decide ((script.length : Int) > (150 : Int))))]) (by kernel_rfl) ?_
     refine Op.goto 8 (by kernel_rfl) ?_
     refine At.ret (f := Tryz.f26) (v := .bool (decide ((script.length : Int) > (150 : Int)))) (by kernel_rfl) (by kernel_rfl) ?_
     refine hR _ _ _ _ s_loop31023 ⟨?_, rfl, rfl⟩
     exact (eqB (by exact greatB_2 (gr_end1 hg (by assumption)) (by assumption)))
 exact loop3 _  0 0 _ (Nat.lt_succ_self _) (by omega) (by omega) (by omega) (by omega) (by rfl)  s0
theorem alive10 (B : World) (h : Heap) (g : GH) (hg : Sub g h) (hG : Glob g)  (hP : Pow10 g) :
  Spec Tryz.prog B 25 #[] h g [] (fun rv g' L' => rv = .bool true ∧ g' = g ∧ L' = []) := by
 refine Spec.of_at (f := Tryz.f25) (e := []) Tryz.func25 (by kernel_rfl) (Nat.le_of_ble_eq_true (by kernel_rfl)) (by kernel_rfl) (by kernel_rfl) ?_
 intro R hR
 have s0 := St.init hg
 refine At.reg (L := [(0, false)]) (by kernel_rfl) ?_
 refine Op.pures 1 [] (L' := []) (e' := []) (by kernel_rfl) ?_
 refine Op.goto 1 (by kernel_rfl) ?_
 refine At.reg (L := [(0, false), (1, false)]) (by kernel_rfl) ?_
 refine Op.call0 (dst := some 8) (f := 27) (args := #[]) (by kernel_rfl) s0 (newT _ _ _ s0.sub hG   ) ?_
 rintro _ g1064 _ h1059 hle1065 s1060 ⟨b1061, c1062, rfl, o1063, hgg, rfl⟩; subst g1064; clear hle1065
 refine Op.pures 1 [1] (L' := []) (e' := [(1, .pointer (some ⟨b1061, 0, none⟩))]) (by kernel_rfl) ?_
 refine Op.goto 2 (by kernel_rfl) ?_
 refine At.reg (L := [(0, false), (1, false)]) (by kernel_rfl) ?_
 refine Op.pures 2 [1, 10] (L' := []) (e' := [(1, .pointer (some ⟨b1061, 0, none⟩)), (10, .bool false)]) (by kernel_rfl) ?_
 refine Op.goto 3 (by kernel_rfl) ?_
 refine At.condF (c := .tmp 10) (by kernel_rfl) (by kernel_rfl) (by kernel_rfl) 6 (by kernel_rfl) ?_
 refine At.reg (L := [(0, false), (1, false), (2, false), (3, false), (4, false), (5, false), (6, false)]) (by kernel_rfl) ?_
 refine Op.pures 1 [1, 12] (L' := [(1, false), (2, false), (3, false), (4, false), (5, false), (6, false)]) (e' := [(1, .pointer (some ⟨b1061, 0, none⟩)), (12, .pointer (some ⟨b1061, 0, none⟩))]) (by kernel_rfl) ?_
 refine Op.call (dst := some 13) (f := 28) (args := #[.pointer (some ⟨b1061, 0, none⟩), .string (mkS ([47, 113])), .slice none 0 0, .int .i64 (-1), .int .i64 1, .bool false]) (Lc := [c1062]) (L := []) (by kernel_rfl) s1060 (makeF _ _ _ s1060.sub hG b1061 ([⟨[47], [], 0, -1, 0, 0⟩]) _ o1063 ([47, 113]) _ _ (SlR.nil _ _ _) (-1) 1 false hP (by ((try dsimp only) <;> (exact al_b0))) (by ((try dsimp only) <;> (decide))) (by ((try dsimp only) <;> (decide))) (St.part (Lc := [c1062]) (L := []) s1060)) (fun _ _ _ => trivial) ?_
 rintro _ g1070 _ h1066 hle1071 s1067 ⟨c1068, rfl, o1069, hgg, rfl⟩; subst g1070; clear hle1071
 refine Op.pures 5 [1, 2, 3] (L' := []) (e' := [(1, .pointer (some ⟨b1061, 0, none⟩)), (2, .string (mkS ((makeT ([⟨[47], [], 0, -1, 0, 0⟩]) ([47, 113]) [] (-1) 1 false).2.1))), (3, .int .i64 ((makeT ([⟨[47], [], 0, -1, 0, 0⟩]) ([47, 113]) [] (-1) 1 false).2.2))]) (by kernel_rfl) ?_
 refine Op.goto 7 (by kernel_rfl) ?_
 have o1072 := IsTree.eq o1069 (show _ = al1 from by rw [al_1])
 refine At.reg (L := [(0, false), (1, false), (2, false), (3, false), (4, false), (5, false), (6, false), (7, false), (8, false)]) (by kernel_rfl) ?_
 refine Op.pures 1 [1, 2, 3, 17] (L' := [(1, false), (2, false), (3, false), (4, false), (5, false), (6, false), (7, false), (8, false)]) (e' := [(1, .pointer (some ⟨b1061, 0, none⟩)), (2, .string (mkS ((makeT ([⟨[47], [], 0, -1, 0, 0⟩]) ([47, 113]) [] (-1) 1 false).2.1))), (3, .int .i64 ((makeT ([⟨[47], [], 0, -1, 0, 0⟩]) ([47, 113]) [] (-1) 1 false).2.2)), (17, .pointer (some ⟨b1061, 0, none⟩))]) (by kernel_rfl) ?_
 refine Op.lit (T := 29) (len := 1) (parts := #[(0, (.const (.int .u8 120)))]) (dst := 18) (E := 5) (ps := [(0, .int .u8 120)]) (cs := #[.int .u8 120]) (by kernel_rfl) (by kernel_rfl) (by kernel_rfl) s1067 ?_
 intro b1073 h1074 s1075
 refine Op.convLit (T := 29) (E := 5) (x := (.tmp 18)) (dst := 19) (b := b1073) (n := 1) (cs := #[.int .u8 120]) (xs := ([(120 : UInt8)] : List UInt8)) (by kernel_rfl) (by kernel_rfl) (by kernel_rfl) (by kernel_rfl) rfl s1075 ⟨_, _, rfl, rfl, Reads.nil⟩ (fun _ => trivial) ?_
 intro g1076 h1077 hle1078 s1079 hf1080
 replace hG := hG.mono hle1078
 replace hP := hP.mono hle1078
 replace o1072 := o1072.mono hle1078
 refine Op.call (dst := some 20) (f := 28) (args := #[.pointer (some ⟨b1061, 0, none⟩), .string (mkS ([47, 113, 47, 116, 45])), .slice (some ⟨b1073, 0, none⟩) 1 1, .int .i64 3, .int .i64 2, .bool true]) (Lc := [c1068]) (L := []) (by kernel_rfl) s1079 (makeF _ _ _ s1079.sub hG b1061 al1 _ o1072 ([47, 113, 47, 116, 45]) _ _ hf1080 3 2 true hP (by ((try dsimp only) <;> (exact al_b1))) (by ((try dsimp only) <;> (decide))) (by ((try dsimp only) <;> (decide))) (St.part (Lc := [c1068]) (L := []) s1079)) (fun _ _ _ => trivial) ?_
 rintro _ g1085 _ h1081 hle1086 s1082 ⟨c1083, rfl, o1084, hgg, rfl⟩; subst g1085; clear hle1086
 refine Op.pures 5 [1, 2, 3, 4, 5] (L' := []) (e' := [(1, .pointer (some ⟨b1061, 0, none⟩)), (2, .string (mkS ((makeT ([⟨[47], [], 0, -1, 0, 0⟩]) ([47, 113]) [] (-1) 1 false).2.1))), (3, .int .i64 ((makeT ([⟨[47], [], 0, -1, 0, 0⟩]) ([47, 113]) [] (-1) 1 false).2.2)), (4, .string (mkS ((makeT al1 ([47, 113, 47, 116, 45]) ([(120 : UInt8)] : List UInt8) 3 2 true).2.1))), (5, .int .i64 ((makeT al1 ([47, 113, 47, 116, 45]) ([(120 : UInt8)] : List UInt8) 3 2 true).2.2))]) (by kernel_rfl) ?_
 refine Op.goto 8 (by kernel_rfl) ?_
 have o1087 := IsTree.eq o1084 (show _ = al2 from by rw [al_2])
 refine At.reg (L := [(0, false), (1, false), (2, false), (3, false), (4, false), (5, false), (6, false), (7, false)]) (by kernel_rfl) ?_
 refine Op.pures 1 [1, 2, 3, 4, 5, 24] (L' := [(1, false), (2, false), (3, false), (4, false), (5, false), (6, false), (7, false)]) (e' := [(1, .pointer (some ⟨b1061, 0, none⟩)), (2, .string (mkS ((makeT ([⟨[47], [], 0, -1, 0, 0⟩]) ([47, 113]) [] (-1) 1 false).2.1))), (3, .int .i64 ((makeT ([⟨[47], [], 0, -1, 0, 0⟩]) ([47, 113]) [] (-1) 1 false).2.2)), (4, .string (mkS ((makeT al1 ([47, 113, 47, 116, 45]) ([(120 : UInt8)] : List UInt8) 3 2 true).2.1))), (5, .int .i64 ((makeT al1 ([47, 113, 47, 116, 45]) ([(120 : UInt8)] : List UInt8) 3 2 true).2.2)), (24, .pointer (some ⟨b1061, 0, none⟩))]) (by kernel_rfl) ?_
 have hl1088 := s1082.frzle
 have hz1089 := IsTree.frz o1087 s1082 (by intro p hp; simp only [List.mem_append, hp, true_or, or_true])
 refine Op.lend (dst := some 25) (f := 34) (args := #[.pointer (some ⟨b1061, 0, none⟩), .string (mkS ([47, 113, 47, 116, 45, 48, 48, 48, 48, 48]))]) (cf := (c1083 : Chunk)) (Lc := []) (L := []) (by kernel_rfl) s1082 (getF _ _ _ s1082.frzsub (hG.mono hl1088) b1061 al2 hz1089 ([47, 113, 47, 116, 45, 48, 48, 48, 48, 48]) (by ((try dsimp only) <;> (exact al_b2))) (by ((try dsimp only) <;> (decide))) ) (fun _ _ _ hp => by obtain ⟨_, _, _, _, hgg, _⟩ := hp; exact hgg) (fun _ _ h => absurd h (ids_nil _)) ?_
 rintro _ _ h1090 s1091 ⟨v1092, ch1093, rfl, R1094, hgg, rfl⟩; clear hgg
 obtain ⟨a1095, n1096, rfl⟩ := R1094.form
 replace R1094 := R1094.flat (fun _ _ _ _ h => h) (g' := g1076)
 refine Op.pures 3 [1, 2, 3, 4, 5, 26, 27] (L' := [(5, false), (6, false), (7, false)]) (e' := [(1, .pointer (some ⟨b1061, 0, none⟩)), (2, .string (mkS ((makeT ([⟨[47], [], 0, -1, 0, 0⟩]) ([47, 113]) [] (-1) 1 false).2.1))), (3, .int .i64 ((makeT ([⟨[47], [], 0, -1, 0, 0⟩]) ([47, 113]) [] (-1) 1 false).2.2)), (4, .string (mkS ((makeT al1 ([47, 113, 47, 116, 45]) ([(120 : UInt8)] : List UInt8) 3 2 true).2.1))), (5, .int .i64 ((makeT al1 ([47, 113, 47, 116, 45]) ([(120 : UInt8)] : List UInt8) 3 2 true).2.2)), (26, .agg #[.string (mkS (((getT al2 ([47, 113, 47, 116, 45, 48, 48, 48, 48, 48])).1).Path)), .slice a1095 ((((getT al2 ([47, 113, 47, 116, 45, 48, 48, 48, 48, 48])).1).Data).length) n1096, .int .i64 (((getT al2 ([47, 113, 47, 116, 45, 48, 48, 48, 48, 48])).1).Version), .int .i64 (((getT al2 ([47, 113, 47, 116, 45, 48, 48, 48, 48, 48])).1).Owner), .int .i64 (((getT al2 ([47, 113, 47, 116, 45, 48, 48, 48, 48, 48])).1).Next), .int .i64 (((getT al2 ([47, 113, 47, 116, 45, 48, 48, 48, 48, 48])).1).Born)]), (27, .int .i64 ((getT al2 ([47, 113, 47, 116, 45, 48, 48, 48, 48, 48])).2))]) (by kernel_rfl) ?_
 refine Op.alloc (T := 59) (dst := 6) (cs := #[.string (mkS []), .slice none 0 0, .int .i64 0, .int .i64 0, .int .i64 0, .int .i64 0]) (by kernel_rfl) (by kernel_rfl) s1091 ?_
 intro b1099 h1100 s1101
 refine Op.store (T := 59) (x := (.tmp 6)) (y := (.tmp 26)) (b := b1099) (o := 0) (vs := [.string (mkS (((getT al2 ([47, 113, 47, 116, 45, 48, 48, 48, 48, 48])).1).Path)), .slice a1095 ((((getT al2 ([47, 113, 47, 116, 45, 48, 48, 48, 48, 48])).1).Data).length) n1096, .int .i64 (((getT al2 ([47, 113, 47, 116, 45, 48, 48, 48, 48, 48])).1).Version), .int .i64 (((getT al2 ([47, 113, 47, 116, 45, 48, 48, 48, 48, 48])).1).Owner), .int .i64 (((getT al2 ([47, 113, 47, 116, 45, 48, 48, 48, 48, 48])).1).Next), .int .i64 (((getT al2 ([47, 113, 47, 116, 45, 48, 48, 48, 48, 48])).1).Born)]) (a? := true) (n := 6) (by kernel_rfl) (by kernel_rfl) (by kernel_rfl) (by kernel_rfl) rfl (by simp [Value.oneCell']) s1101 0 rfl (Nat.le_of_ble_eq_true (by kernel_rfl)) (cs := #[.string (mkS []), .slice none 0 0, .int .i64 0, .int .i64 0, .int .i64 0, .int .i64 0]) (cs' := #[.string (mkS (((getT al2 ([47, 113, 47, 116, 45, 48, 48, 48, 48, 48])).1).Path)), .slice a1095 ((((getT al2 ([47, 113, 47, 116, 45, 48, 48, 48, 48, 48])).1).Data).length) n1096, .int .i64 (((getT al2 ([47, 113, 47, 116, 45, 48, 48, 48, 48, 48])).1).Version), .int .i64 (((getT al2 ([47, 113, 47, 116, 45, 48, 48, 48, 48, 48])).1).Owner), .int .i64 (((getT al2 ([47, 113, 47, 116, 45, 48, 48, 48, 48, 48])).1).Next), .int .i64 (((getT al2 ([47, 113, 47, 116, 45, 48, 48, 48, 48, 48])).1).Born)]) (by kernel_rfl) (fun _ => trivial) ?_
 intro h1102 s1103
 refine Op.pures 1 [1, 2, 3, 4, 5, 6, 7] (L' := []) (e' := [(1, .pointer (some ⟨b1061, 0, none⟩)), (2, .string (mkS ((makeT ([⟨[47], [], 0, -1, 0, 0⟩]) ([47, 113]) [] (-1) 1 false).2.1))), (3, .int .i64 ((makeT ([⟨[47], [], 0, -1, 0, 0⟩]) ([47, 113]) [] (-1) 1 false).2.2)), (4, .string (mkS ((makeT al1 ([47, 113, 47, 116, 45]) ([(120 : UInt8)] : List UInt8) 3 2 true).2.1))), (5, .int .i64 ((makeT al1 ([47, 113, 47, 116, 45]) ([(120 : UInt8)] : List UInt8) 3 2 true).2.2)), (6, .pointer (some ⟨b1099, 0, none⟩)), (7, .int .i64 ((getT al2 ([47, 113, 47, 116, 45, 48, 48, 48, 48, 48])).2))]) (by kernel_rfl) ?_
 refine Op.goto 9 (by kernel_rfl) ?_
 refine At.reg (L := [(0, false), (1, false), (2, false), (3, false), (4, false), (5, false), (6, false), (7, false), (8, false), (9, false), (10, false), (11, false), (12, false), (13, false), (14, false), (15, false), (16, false), (17, false), (18, false), (19, false), (20, false), (21, false), (22, false), (23, false), (24, false), (25, false), (26, false), (27, false), (28, false), (29, false), (30, false), (31, false), (32, false), (33, false), (34, false), (35, false), (36, false), (37, false), (38, false), (39, false), (40, false), (41, false), (42, false), (43, false), (44, false), (45, false), (46, false), (47, false)]) (by kernel_rfl) ?_
 refine Op.pures 3 [1, 2, 4, 5, 6, 7, 30] (L' := [(3, false), (4, false), (5, false), (6, false), (7, false), (8, false), (9, false), (10, false), (11, false), (12, false), (13, false), (14, false), (15, false), (16, false), (17, false), (18, false), (19, false), (20, false), (21, false), (22, false), (23, false), (24, false), (25, false), (26, false), (27, false), (28, false), (29, false), (30, false), (31, false), (32, false), (33, false), (34, false), (35, false), (36, false), (37, false), (38, false), (39, false), (40, false), (41, false), (42, false), (43, false), (44, false), (45, false), (46, false), (47, false)]) (e' := [(1, .pointer (some ⟨b1061, 0, none⟩)), (2, .string (mkS ((makeT ([⟨[47], [], 0, -1, 0, 0⟩]) ([47, 113]) [] (-1) 1 false).2.1))), (4, .string (mkS ((makeT al1 ([47, 113, 47, 116, 45]) ([(120 : UInt8)] : List UInt8) 3 2 true).2.1))), (5, .int .i64 ((makeT al1 ([47, 113, 47, 116, 45]) ([(120 : UInt8)] : List UInt8) 3 2 true).2.2)), (6, .pointer (some ⟨b1099, 0, none⟩)), (7, .int .i64 ((getT al2 ([47, 113, 47, 116, 45, 48, 48, 48, 48, 48])).2)), (30, .bool (((makeT ([⟨[47], [], 0, -1, 0, 0⟩]) ([47, 113]) [] (-1) 1 false).2.2) == (0 : Int)))]) (by kernel_rfl) ?_
 refine Op.ways (b := ((makeT ([⟨[47], [], 0, -1, 0, 0⟩]) ([47, 113]) [] (-1) 1 false).2.2) == (0 : Int)) ⟨fun hb => ?_, fun hb => ?_⟩
 ·refine Op.cast (e' := [(1, .pointer (some ⟨b1061, 0, none⟩)), (2, .string (mkS ((makeT ([⟨[47], [], 0, -1, 0, 0⟩]) ([47, 113]) [] (-1) 1 false).2.1))), (4, .string (mkS ((makeT al1 ([47, 113, 47, 116, 45]) ([(120 : UInt8)] : List UInt8) 3 2 true).2.1))), (5, .int .i64 ((makeT al1 ([47, 113, 47, 116, 45]) ([(120 : UInt8)] : List UInt8) 3 2 true).2.2)), (6, .pointer (some ⟨b1099, 0, none⟩)), (7, .int .i64 ((getT al2 ([47, 113, 47, 116, 45, 48, 48, 48, 48, 48])).2)), (30, .bool true)]) (by rw [hb]) ?_
  have c1104 : ((makeT ([⟨[47], [], 0, -1, 0, 0⟩]) ([47, 113]) [] (-1) 1 false).2.2) = (0 : Int) := eq_of_beq hb
  clear hb
  refine Op.pures 4 [1, 2, 4, 6, 7, 34] (L' := [(7, false), (8, false), (9, false), (10, false), (11, false), (12, false), (13, false), (14, false), (15, false), (16, false), (17, false), (18, false), (19, false), (20, false), (21, false), (22, false), (23, false), (24, false), (25, false), (26, false), (27, false), (28, false), (29, false), (30, false), (31, false), (32, false), (33, false), (34, false), (35, false), (36, false), (37, false), (38, false), (39, false), (40, false), (41, false), (42, false), (43, false), (44, false), (45, false), (46, false), (47, false)]) (e' := [(1, .pointer (some ⟨b1061, 0, none⟩)), (2, .string (mkS ((makeT ([⟨[47], [], 0, -1, 0, 0⟩]) ([47, 113]) [] (-1) 1 false).2.1))), (4, .string (mkS ((makeT al1 ([47, 113, 47, 116, 45]) ([(120 : UInt8)] : List UInt8) 3 2 true).2.1))), (6, .pointer (some ⟨b1099, 0, none⟩)), (7, .int .i64 ((getT al2 ([47, 113, 47, 116, 45, 48, 48, 48, 48, 48])).2)), (34, .bool (((makeT al1 ([47, 113, 47, 116, 45]) ([(120 : UInt8)] : List UInt8) 3 2 true).2.2) == (0 : Int)))]) (by kernel_rfl) ?_
  refine Op.ways (b := ((makeT al1 ([47, 113, 47, 116, 45]) ([(120 : UInt8)] : List UInt8) 3 2 true).2.2) == (0 : Int)) ⟨fun hb => ?_, fun hb => ?_⟩
  ·refine Op.cast (e' := [(1, .pointer (some ⟨b1061, 0, none⟩)), (2, .string (mkS ((makeT ([⟨[47], [], 0, -1, 0, 0⟩]) ([47, 113]) [] (-1) 1 false).2.1))), (4, .string (mkS ((makeT al1 ([47, 113, 47, 116, 45]) ([(120 : UInt8)] : List UInt8) 3 2 true).2.1))), (6, .pointer (some ⟨b1099, 0, none⟩)), (7, .int .i64 ((getT al2 ([47, 113, 47, 116, 45, 48, 48, 48, 48, 48])).2)), (34, .bool true)]) (by rw [hb]) ?_
   have c1105 : ((makeT al1 ([47, 113, 47, 116, 45]) ([(120 : UInt8)] : List UInt8) 3 2 true).2.2) = (0 : Int) := eq_of_beq hb
   clear hb
   refine Op.pures 4 [1, 2, 4, 6, 38] (L' := [(11, false), (12, false), (13, false), (14, false), (15, false), (16, false), (17, false), (18, false), (19, false), (20, false), (21, false), (22, false), (23, false), (24, false), (25, false), (26, false), (27, false), (28, false), (29, false), (30, false), (31, false), (32, false), (33, false), (34, false), (35, false), (36, false), (37, false), (38, false), (39, false), (40, false), (41, false), (42, false), (43, false), (44, false), (45, false), (46, false), (47, false)]) (e' := [(1, .pointer (some ⟨b1061, 0, none⟩)), (2, .string (mkS ((makeT ([⟨[47], [], 0, -1, 0, 0⟩]) ([47, 113]) [] (-1) 1 false).2.1))), (4, .string (mkS ((makeT al1 ([47, 113, 47, 116, 45]) ([(120 : UInt8)] : List UInt8) 3 2 true).2.1))), (6, .pointer (some ⟨b1099, 0, none⟩)), (38, .bool (((getT al2 ([47, 113, 47, 116, 45, 48, 48, 48, 48, 48])).2) == (0 : Int)))]) (by kernel_rfl) ?_
   refine Op.ways (b := ((getT al2 ([47, 113, 47, 116, 45, 48, 48, 48, 48, 48])).2) == (0 : Int)) ⟨fun hb => ?_, fun hb => ?_⟩
   ·refine Op.cast (e' := [(1, .pointer (some ⟨b1061, 0, none⟩)), (2, .string (mkS ((makeT ([⟨[47], [], 0, -1, 0, 0⟩]) ([47, 113]) [] (-1) 1 false).2.1))), (4, .string (mkS ((makeT al1 ([47, 113, 47, 116, 45]) ([(120 : UInt8)] : List UInt8) 3 2 true).2.1))), (6, .pointer (some ⟨b1099, 0, none⟩)), (38, .bool true)]) (by rw [hb]) ?_
    have c1106 : ((getT al2 ([47, 113, 47, 116, 45, 48, 48, 48, 48, 48])).2) = (0 : Int) := eq_of_beq hb
    clear hb
    refine Op.pures 1 [1, 4, 6, 38, 39] (L' := [(12, false), (13, false), (14, false), (15, false), (16, false), (17, false), (18, false), (19, false), (20, false), (21, false), (22, false), (23, false), (24, false), (25, false), (26, false), (27, false), (28, false), (29, false), (30, false), (31, false), (32, false), (33, false), (34, false), (35, false), (36, false), (37, false), (38, false), (39, false), (40, false), (41, false), (42, false), (43, false), (44, false), (45, false), (46, false), (47, false)]) (e' := [(1, .pointer (some ⟨b1061, 0, none⟩)), (4, .string (mkS ((makeT al1 ([47, 113, 47, 116, 45]) ([(120 : UInt8)] : List UInt8) 3 2 true).2.1))), (6, .pointer (some ⟨b1099, 0, none⟩)), (38, .bool true), (39, .string (mkS ((makeT ([⟨[47], [], 0, -1, 0, 0⟩]) ([47, 113]) [] (-1) 1 false).2.1)))]) (by kernel_rfl) ?_
    refine Op.val (dst := some 40) (v := .bool ((mkS ((makeT ([⟨[47], [], 0, -1, 0, 0⟩]) ([47, 113]) [] (-1) 1 false).2.1)).toList == (mkS ([47, 113])).toList)) (v' := .bool (((makeT ([⟨[47], [], 0, -1, 0, 0⟩]) ([47, 113]) [] (-1) 1 false).2.1) == ([47, 113]))) (by kernel_rfl) (by rw [toList_mkS, toList_mkS]) ?_
    refine Op.pures 2 [1, 4, 6, 42] (L' := [(15, false), (16, false), (17, false), (18, false), (19, false), (20, false), (21, false), (22, false), (23, false), (24, false), (25, false), (26, false), (27, false), (28, false), (29, false), (30, false), (31, false), (32, false), (33, false), (34, false), (35, false), (36, false), (37, false), (38, false), (39, false), (40, false), (41, false), (42, false), (43, false), (44, false), (45, false), (46, false), (47, false)]) (e' := [(1, .pointer (some ⟨b1061, 0, none⟩)), (4, .string (mkS ((makeT al1 ([47, 113, 47, 116, 45]) ([(120 : UInt8)] : List UInt8) 3 2 true).2.1))), (6, .pointer (some ⟨b1099, 0, none⟩)), (42, .bool (((makeT ([⟨[47], [], 0, -1, 0, 0⟩]) ([47, 113]) [] (-1) 1 false).2.1) == ([47, 113])))]) (by kernel_rfl) ?_
    refine Op.ways (b := ((makeT ([⟨[47], [], 0, -1, 0, 0⟩]) ([47, 113]) [] (-1) 1 false).2.1) == ([47, 113])) ⟨fun hb => ?_, fun hb => ?_⟩
    ·refine Op.cast (e' := [(1, .pointer (some ⟨b1061, 0, none⟩)), (4, .string (mkS ((makeT al1 ([47, 113, 47, 116, 45]) ([(120 : UInt8)] : List UInt8) 3 2 true).2.1))), (6, .pointer (some ⟨b1099, 0, none⟩)), (42, .bool true)]) (by rw [hb]) ?_
     have c1107 : ((makeT ([⟨[47], [], 0, -1, 0, 0⟩]) ([47, 113]) [] (-1) 1 false).2.1) = ([47, 113]) := eq_of_beq hb
     clear hb
     refine Op.pures 1 [1, 6, 42, 43] (L' := [(16, false), (17, false), (18, false), (19, false), (20, false), (21, false), (22, false), (23, false), (24, false), (25, false), (26, false), (27, false), (28, false), (29, false), (30, false), (31, false), (32, false), (33, false), (34, false), (35, false), (36, false), (37, false), (38, false), (39, false), (40, false), (41, false), (42, false), (43, false), (44, false), (45, false), (46, false), (47, false)]) (e' := [(1, .pointer (some ⟨b1061, 0, none⟩)), (6, .pointer (some ⟨b1099, 0, none⟩)), (42, .bool true), (43, .string (mkS ((makeT al1 ([47, 113, 47, 116, 45]) ([(120 : UInt8)] : List UInt8) 3 2 true).2.1)))]) (by kernel_rfl) ?_
     refine Op.val (dst := some 44) (v := .bool ((mkS ((makeT al1 ([47, 113, 47, 116, 45]) ([(120 : UInt8)] : List UInt8) 3 2 true).2.1)).toList == (mkS ([47, 113, 47, 116, 45, 48, 48, 48, 48, 48])).toList)) (v' := .bool (((makeT al1 ([47, 113, 47, 116, 45]) ([(120 : UInt8)] : List UInt8) 3 2 true).2.1) == ([47, 113, 47, 116, 45, 48, 48, 48, 48, 48]))) (by kernel_rfl) (by rw [toList_mkS, toList_mkS]) ?_
     refine Op.pures 2 [1, 6, 46] (L' := [(19, false), (20, false), (21, false), (22, false), (23, false), (24, false), (25, false), (26, false), (27, false), (28, false), (29, false), (30, false), (31, false), (32, false), (33, false), (34, false), (35, false), (36, false), (37, false), (38, false), (39, false), (40, false), (41, false), (42, false), (43, false), (44, false), (45, false), (46, false), (47, false)]) (e' := [(1, .pointer (some ⟨b1061, 0, none⟩)), (6, .pointer (some ⟨b1099, 0, none⟩)), (46, .bool (((makeT al1 ([47, 113, 47, 116, 45]) ([(120 : UInt8)] : List UInt8) 3 2 true).2.1) == ([47, 113, 47, 116, 45, 48, 48, 48, 48, 48])))]) (by kernel_rfl) ?_
     refine Op.ways (b := ((makeT al1 ([47, 113, 47, 116, 45]) ([(120 : UInt8)] : List UInt8) 3 2 true).2.1) == ([47, 113, 47, 116, 45, 48, 48, 48, 48, 48])) ⟨fun hb => ?_, fun hb => ?_⟩
     ·refine Op.cast (e' := [(1, .pointer (some ⟨b1061, 0, none⟩)), (6, .pointer (some ⟨b1099, 0, none⟩)), (46, .bool true)]) (by rw [hb]) ?_
      have c1108 : ((makeT al1 ([47, 113, 47, 116, 45]) ([(120 : UInt8)] : List UInt8) 3 2 true).2.1) = ([47, 113, 47, 116, 45, 48, 48, 48, 48, 48]) := eq_of_beq hb
      clear hb
      refine Op.pures 1 [1, 6, 46, 47] (L' := [(20, false), (21, false), (22, false), (23, false), (24, false), (25, false), (26, false), (27, false), (28, false), (29, false), (30, false), (31, false), (32, false), (33, false), (34, false), (35, false), (36, false), (37, false), (38, false), (39, false), (40, false), (41, false), (42, false), (43, false), (44, false), (45, false), (46, false), (47, false)]) (e' := [(1, .pointer (some ⟨b1061, 0, none⟩)), (6, .pointer (some ⟨b1099, 0, none⟩)), (46, .bool true), (47, .pointer (some ⟨b1099, 3, none⟩))]) (by kernel_rfl) ?_
      refine Op.load (T := 3) (x := (.tmp 47)) (o := 3) (d := 48) (n := 1) (v := .int .i64 (((getT al2 ([47, 113, 47, 116, 45, 48, 48, 48, 48, 48])).1).Owner)) (by kernel_rfl) (by kernel_rfl) (by kernel_rfl) (s1103.chunk 0 rfl) (by kernel_rfl) ?_
      refine Op.pures 3 [1, 6, 51] (L' := [(24, false), (25, false), (26, false), (27, false), (28, false), (29, false), (30, false), (31, false), (32, false), (33, false), (34, false), (35, false), (36, false), (37, false), (38, false), (39, false), (40, false), (41, false), (42, false), (43, false), (44, false), (45, false), (46, false), (47, false)]) (e' := [(1, .pointer (some ⟨b1061, 0, none⟩)), (6, .pointer (some ⟨b1099, 0, none⟩)), (51, .bool ((((getT al2 ([47, 113, 47, 116, 45, 48, 48, 48, 48, 48])).1).Owner) == (3 : Int)))]) (by kernel_rfl) ?_
      refine Op.ways (b := (((getT al2 ([47, 113, 47, 116, 45, 48, 48, 48, 48, 48])).1).Owner) == (3 : Int)) ⟨fun hb => ?_, fun hb => ?_⟩
      ·refine Op.cast (e' := [(1, .pointer (some ⟨b1061, 0, none⟩)), (6, .pointer (some ⟨b1099, 0, none⟩)), (51, .bool true)]) (by rw [hb]) ?_
       have c1109 : (((getT al2 ([47, 113, 47, 116, 45, 48, 48, 48, 48, 48])).1).Owner) = (3 : Int) := eq_of_beq hb
       clear hb
       refine Op.pures 1 [1, 51, 52] (L' := [(25, false), (26, false), (27, false), (28, false), (29, false), (30, false), (31, false), (32, false), (33, false), (34, false), (35, false), (36, false), (37, false), (38, false), (39, false), (40, false), (41, false), (42, false), (43, false), (44, false), (45, false), (46, false), (47, false)]) (e' := [(1, .pointer (some ⟨b1061, 0, none⟩)), (51, .bool true), (52, .pointer (some ⟨b1099, 1, none⟩))]) (by kernel_rfl) ?_
       refine Op.load (T := 29) (x := (.tmp 52)) (o := 1) (d := 53) (n := 1) (v := .slice a1095 ((((getT al2 ([47, 113, 47, 116, 45, 48, 48, 48, 48, 48])).1).Data).length) n1096) (by kernel_rfl) (by kernel_rfl) (by kernel_rfl) (s1103.chunk 0 rfl) (by kernel_rfl) ?_
       refine Op.ofBytes (T := 29) (S := 9) (E := 5) (x := (.tmp 53)) (dst := 54) (l := ((getT al2 ([47, 113, 47, 116, 45, 48, 48, 48, 48, 48])).1).Data) (by kernel_rfl) (by kernel_rfl) (by kernel_rfl) (by kernel_rfl) (by kernel_rfl) (R1094.toH s1103 2 rfl) ?_
       refine Op.val (dst := some 55) (v := .bool ((mkS (((getT al2 ([47, 113, 47, 116, 45, 48, 48, 48, 48, 48])).1).Data)).toList == (mkS ([120])).toList)) (v' := .bool ((((getT al2 ([47, 113, 47, 116, 45, 48, 48, 48, 48, 48])).1).Data) == ([120]))) (by kernel_rfl) (by rw [toList_mkS, toList_mkS]) ?_
       refine Op.pures 2 [1, 57] (L' := [(30, false), (31, false), (32, false), (33, false), (34, false), (35, false), (36, false), (37, false), (38, false), (39, false), (40, false), (41, false), (42, false), (43, false), (44, false), (45, false), (46, false), (47, false)]) (e' := [(1, .pointer (some ⟨b1061, 0, none⟩)), (57, .bool ((((getT al2 ([47, 113, 47, 116, 45, 48, 48, 48, 48, 48])).1).Data) == ([120])))]) (by kernel_rfl) ?_
       refine Op.ways (b := (((getT al2 ([47, 113, 47, 116, 45, 48, 48, 48, 48, 48])).1).Data) == ([120])) ⟨fun hb => ?_, fun hb => ?_⟩
       ·refine Op.cast (e' := [(1, .pointer (some ⟨b1061, 0, none⟩)), (57, .bool true)]) (by rw [hb]) ?_
        have c1110 : (((getT al2 ([47, 113, 47, 116, 45, 48, 48, 48, 48, 48])).1).Data) = ([120]) := eq_of_beq hb
        clear hb
        refine Op.pures 1 [1, 57, 58] (L' := [(31, false), (32, false), (33, false), (34, false), (35, false), (36, false), (37, false), (38, false), (39, false), (40, false), (41, false), (42, false), (43, false), (44, false), (45, false), (46, false), (47, false)]) (e' := [(1, .pointer (some ⟨b1061, 0, none⟩)), (57, .bool true), (58, .pointer (some ⟨b1061, 0, none⟩))]) (by kernel_rfl) ?_
        have s1111 : St h g (ids []) g1076 [c1083, [(b1099, Obj.cells #[.string (mkS (((getT al2 ([47, 113, 47, 116, 45, 48, 48, 48, 48, 48])).1).Path)), .slice a1095 ((((getT al2 ([47, 113, 47, 116, 45, 48, 48, 48, 48, 48])).1).Data).length) n1096, .int .i64 (((getT al2 ([47, 113, 47, 116, 45, 48, 48, 48, 48, 48])).1).Version), .int .i64 (((getT al2 ([47, 113, 47, 116, 45, 48, 48, 48, 48, 48])).1).Owner), .int .i64 (((getT al2 ([47, 113, 47, 116, 45, 48, 48, 48, 48, 48])).1).Next), .int .i64 (((getT al2 ([47, 113, 47, 116, 45, 48, 48, 48, 48, 48])).1).Born)] 59 (0, 0))], ch1093] h1102 := ((s1103.front 0 rfl).front 1 rfl)
        refine Op.call (dst := some 59) (f := 33) (args := #[.pointer (some ⟨b1061, 0, none⟩), .string (mkS ([47, 113])), .int .i64 (-1)]) (Lc := [c1083]) (L := [[(b1099, Obj.cells #[.string (mkS (((getT al2 ([47, 113, 47, 116, 45, 48, 48, 48, 48, 48])).1).Path)), .slice a1095 ((((getT al2 ([47, 113, 47, 116, 45, 48, 48, 48, 48, 48])).1).Data).length) n1096, .int .i64 (((getT al2 ([47, 113, 47, 116, 45, 48, 48, 48, 48, 48])).1).Version), .int .i64 (((getT al2 ([47, 113, 47, 116, 45, 48, 48, 48, 48, 48])).1).Owner), .int .i64 (((getT al2 ([47, 113, 47, 116, 45, 48, 48, 48, 48, 48])).1).Next), .int .i64 (((getT al2 ([47, 113, 47, 116, 45, 48, 48, 48, 48, 48])).1).Born)] 59 (0, 0))], ch1093]) (by kernel_rfl) s1111 (dropF _ _ _ s1111.sub hG b1061 al2 _ o1087 ([47, 113]) (-1) (by ((try dsimp only) <;> (exact al_b2))) (by ((try dsimp only) <;> (decide))) (St.part (Lc := [c1083]) (L := [[(b1099, Obj.cells #[.string (mkS (((getT al2 ([47, 113, 47, 116, 45, 48, 48, 48, 48, 48])).1).Path)), .slice a1095 ((((getT al2 ([47, 113, 47, 116, 45, 48, 48, 48, 48, 48])).1).Data).length) n1096, .int .i64 (((getT al2 ([47, 113, 47, 116, 45, 48, 48, 48, 48, 48])).1).Version), .int .i64 (((getT al2 ([47, 113, 47, 116, 45, 48, 48, 48, 48, 48])).1).Owner), .int .i64 (((getT al2 ([47, 113, 47, 116, 45, 48, 48, 48, 48, 48])).1).Next), .int .i64 (((getT al2 ([47, 113, 47, 116, 45, 48, 48, 48, 48, 48])).1).Born)] 59 (0, 0))], ch1093]) s1111)) (fun _ _ _ => trivial) ?_
        rintro _ g1116 _ h1112 hle1117 s1113 ⟨c1114, rfl, o1115, hgg, rfl⟩; subst g1116; clear hle1117
        refine Op.pures 3 [1, 62] (L' := [(35, false), (36, false), (37, false), (38, false), (39, false), (40, false), (41, false), (42, false), (43, false), (44, false), (45, false), (46, false), (47, false)]) (e' := [(1, .pointer (some ⟨b1061, 0, none⟩)), (62, .bool (((dropT al2 ([47, 113]) (-1)).2) == (103 : Int)))]) (by kernel_rfl) ?_
        refine Op.ways (b := ((dropT al2 ([47, 113]) (-1)).2) == (103 : Int)) ⟨fun hb => ?_, fun hb => ?_⟩
        ·refine Op.cast (e' := [(1, .pointer (some ⟨b1061, 0, none⟩)), (62, .bool true)]) (by rw [hb]) ?_
         have c1118 : ((dropT al2 ([47, 113]) (-1)).2) = (103 : Int) := eq_of_beq hb
         clear hb
         refine Op.pures 1 [1, 62, 63] (L' := [(36, false), (37, false), (38, false), (39, false), (40, false), (41, false), (42, false), (43, false), (44, false), (45, false), (46, false), (47, false)]) (e' := [(1, .pointer (some ⟨b1061, 0, none⟩)), (62, .bool true), (63, .pointer (some ⟨b1061, 0, none⟩))]) (by kernel_rfl) ?_
         have hl1119 := s1113.frzle
         have hz1120 := IsTree.frz o1115 s1113 (by intro p hp; simp only [List.mem_append, hp, true_or, or_true])
         refine Op.lend (dst := some 64) (f := 30) (args := #[.pointer (some ⟨b1061, 0, none⟩)]) (cf := (c1114 : Chunk)) (Lc := []) (L := [[(b1099, Obj.cells #[.string (mkS (((getT al2 ([47, 113, 47, 116, 45, 48, 48, 48, 48, 48])).1).Path)), .slice a1095 ((((getT al2 ([47, 113, 47, 116, 45, 48, 48, 48, 48, 48])).1).Data).length) n1096, .int .i64 (((getT al2 ([47, 113, 47, 116, 45, 48, 48, 48, 48, 48])).1).Version), .int .i64 (((getT al2 ([47, 113, 47, 116, 45, 48, 48, 48, 48, 48])).1).Owner), .int .i64 (((getT al2 ([47, 113, 47, 116, 45, 48, 48, 48, 48, 48])).1).Next), .int .i64 (((getT al2 ([47, 113, 47, 116, 45, 48, 48, 48, 48, 48])).1).Born)] 59 (0, 0))], ch1093]) (by kernel_rfl) s1113 (allF _ _ _ s1113.frzsub (hG.mono hl1119) b1061 ((dropT al2 ([47, 113]) (-1)).1) hz1120 (by ((try dsimp only) <;> (exact al_b2))) ) (fun _ _ _ hp => by obtain ⟨_, _, _, _, _, hgg, _⟩ := hp; exact hgg) (fun _ _ h => absurd h (ids_nil _)) ?_
         rintro _ _ h1121 s1122 ⟨v1123, ch1124, dc1125, rfl, R1126, hgg, rfl⟩; clear hgg
         have s1129 : St h g (ids []) g1076 [ch1124, dc1125, c1114, [(b1099, Obj.cells #[.string (mkS (((getT al2 ([47, 113, 47, 116, 45, 48, 48, 48, 48, 48])).1).Path)), .slice a1095 ((((getT al2 ([47, 113, 47, 116, 45, 48, 48, 48, 48, 48])).1).Data).length) n1096, .int .i64 (((getT al2 ([47, 113, 47, 116, 45, 48, 48, 48, 48, 48])).1).Version), .int .i64 (((getT al2 ([47, 113, 47, 116, 45, 48, 48, 48, 48, 48])).1).Owner), .int .i64 (((getT al2 ([47, 113, 47, 116, 45, 48, 48, 48, 48, 48])).1).Next), .int .i64 (((getT al2 ([47, 113, 47, 116, 45, 48, 48, 48, 48, 48])).1).Born)] 59 (0, 0))], ch1093] h1121 := (((s1122.front 0 rfl).front 2 rfl).front 2 rfl)
         obtain ⟨g1130, s1131, hle1132, hf1133⟩ := Deep.freeze R1126 s1129
         replace R1094 := R1094.mono hle1132
         replace hG := hG.mono hle1132
         replace hP := hP.mono hle1132
         replace o1115 := o1115.mono hle1132
         obtain ⟨a1134, n1135, rfl⟩ := hf1133.form
         refine Op.pures 4 [1, 68] (L' := [(41, false), (42, false), (43, false), (44, false), (45, false), (46, false), (47, false)]) (e' := [(1, .pointer (some ⟨b1061, 0, none⟩)), (68, .bool (((((dropT al2 ([47, 113]) (-1)).1)).length : Int) == (3 : Int)))]) (by kernel_rfl) ?_
         refine Op.ways (b := ((((dropT al2 ([47, 113]) (-1)).1)).length : Int) == (3 : Int)) ⟨fun hb => ?_, fun hb => ?_⟩
         ·refine Op.cast (e' := [(1, .pointer (some ⟨b1061, 0, none⟩)), (68, .bool true)]) (by rw [hb]) ?_
          have c1136 : ((((dropT al2 ([47, 113]) (-1)).1)).length : Int) = (3 : Int) := eq_of_beq hb
          clear hb
          refine Op.pures 1 [68, 69] (L' := [(42, false), (43, false), (44, false), (45, false), (46, false), (47, false)]) (e' := [(68, .bool true), (69, .pointer (some ⟨b1061, 0, none⟩))]) (by kernel_rfl) ?_
          refine Op.lit (T := 44) (len := 1) (parts := #[(0, (.const (.int .i64 3)))]) (dst := 70) (E := 3) (ps := [(0, .int .i64 3)]) (cs := #[.int .i64 3]) (by kernel_rfl) (by kernel_rfl) (by kernel_rfl) s1131 ?_
          intro b1137 h1138 s1139
          have R1140 : Row 3 (kInt .i64) g1130 (.slice (some ⟨b1137, 0, none⟩) 1 1) [3] [(b1137, Obj.cells #[.int .i64 3] 3 (0, 0))] := Row.lit (by kernel_rfl) (by unfold maxLen; decide) (by kernel_rfl) ⟨_, _, rfl, rfl, Reads.nil⟩
          have s1141 : St h g (ids []) g1130 (([(b1137, Obj.cells #[.int .i64 3] 3 (0, 0))] ++ c1114 : Chunk) :: [[(b1099, Obj.cells #[.string (mkS (((getT al2 ([47, 113, 47, 116, 45, 48, 48, 48, 48, 48])).1).Path)), .slice a1095 ((((getT al2 ([47, 113, 47, 116, 45, 48, 48, 48, 48, 48])).1).Data).length) n1096, .int .i64 (((getT al2 ([47, 113, 47, 116, 45, 48, 48, 48, 48, 48])).1).Version), .int .i64 (((getT al2 ([47, 113, 47, 116, 45, 48, 48, 48, 48, 48])).1).Owner), .int .i64 (((getT al2 ([47, 113, 47, 116, 45, 48, 48, 48, 48, 48])).1).Next), .int .i64 (((getT al2 ([47, 113, 47, 116, 45, 48, 48, 48, 48, 48])).1).Born)] 59 (0, 0))], ch1093]) h1138 := St.flat (by simp only [List.flatten_cons, List.append_assoc, List.cons_append, List.nil_append, List.append_nil]) s1139
          have hl1142 := s1141.frzle
          have hz1143 := R1140.frzIn (c := ([(b1137, Obj.cells #[.int .i64 3] 3 (0, 0))] ++ c1114 : Chunk)) s1141 (by intro p hp; simp only [List.mem_append, hp, true_or, or_true])
          have hz1144 := IsTree.frz o1115 s1141 (by intro p hp; simp only [List.mem_append, hp, true_or, or_true])
          refine Op.lend (dst := some 71) (f := 31) (args := #[.pointer (some ⟨b1061, 0, none⟩), .slice (some ⟨b1137, 0, none⟩) 1 1]) (cf := ([(b1137, Obj.cells #[.int .i64 3] 3 (0, 0))] ++ c1114 : Chunk)) (Lc := []) (L := [[(b1099, Obj.cells #[.string (mkS (((getT al2 ([47, 113, 47, 116, 45, 48, 48, 48, 48, 48])).1).Path)), .slice a1095 ((((getT al2 ([47, 113, 47, 116, 45, 48, 48, 48, 48, 48])).1).Data).length) n1096, .int .i64 (((getT al2 ([47, 113, 47, 116, 45, 48, 48, 48, 48, 48])).1).Version), .int .i64 (((getT al2 ([47, 113, 47, 116, 45, 48, 48, 48, 48, 48])).1).Owner), .int .i64 (((getT al2 ([47, 113, 47, 116, 45, 48, 48, 48, 48, 48])).1).Next), .int .i64 (((getT al2 ([47, 113, 47, 116, 45, 48, 48, 48, 48, 48])).1).Born)] 59 (0, 0))], ch1093]) (by kernel_rfl) s1141 (ownedF _ _ _ s1141.frzsub (hG.mono hl1142) b1061 ((dropT al2 ([47, 113]) (-1)).1) hz1144 _ _ hz1143 (by ((try dsimp only) <;> (exact al_b2))) (by ((try dsimp only) <;> (decide))) ) (fun _ _ _ hp => by obtain ⟨_, _, _, _, hgg, _⟩ := hp; exact hgg) (fun _ _ h => absurd h (ids_nil _)) ?_
          rintro _ _ h1145 s1146 ⟨v1147, ch1148, rfl, R1149, hgg, rfl⟩; clear hgg
          obtain ⟨a1150, n1151, rfl⟩ := R1149.form
          replace R1149 := R1149.flat (fun _ _ _ _ h => h) (g' := g1130)
          have s1154 : St h g (ids []) g1130 [[(b1137, Obj.cells #[.int .i64 3] 3 (0, 0))], c1114, ch1148, [(b1099, Obj.cells #[.string (mkS (((getT al2 ([47, 113, 47, 116, 45, 48, 48, 48, 48, 48])).1).Path)), .slice a1095 ((((getT al2 ([47, 113, 47, 116, 45, 48, 48, 48, 48, 48])).1).Data).length) n1096, .int .i64 (((getT al2 ([47, 113, 47, 116, 45, 48, 48, 48, 48, 48])).1).Version), .int .i64 (((getT al2 ([47, 113, 47, 116, 45, 48, 48, 48, 48, 48])).1).Owner), .int .i64 (((getT al2 ([47, 113, 47, 116, 45, 48, 48, 48, 48, 48])).1).Next), .int .i64 (((getT al2 ([47, 113, 47, 116, 45, 48, 48, 48, 48, 48])).1).Born)] 59 (0, 0))], ch1093] h1145 := St.flat (by simp only [List.flatten_cons, List.append_assoc, List.cons_append, List.nil_append, List.append_nil]) s1146
          refine Op.pures 4 [0] (L' := []) (e' := [(0, .bool (((ownedL ((dropT al2 ([47, 113]) (-1)).1) ([3])).length : Int) == (1 : Int)))]) (by kernel_rfl) ?_
          refine Op.goto 10 (by kernel_rfl) ?_
          refine At.ret (f := Tryz.f25) (v := .bool (((ownedL ((dropT al2 ([47, 113]) (-1)).1) ([3])).length : Int) == (1 : Int))) (by kernel_rfl) (by kernel_rfl) ?_
          have s1155 : St h g (ids []) g1130 [] h1145 := (s1154).drop.drop.drop.drop.drop
          have s1156 : St h g (ids []) g [] h1145 := s1155.unfrz
          refine hR _ _ _ _ s1156 ⟨?_, rfl, rfl⟩
          exact (eqB (by rfl))
         ·refine Op.cast (e' := [(1, .pointer (some ⟨b1061, 0, none⟩)), (68, .bool false)]) (by rw [hb]) ?_
          have c1157 : ¬ (((((dropT al2 ([47, 113]) (-1)).1)).length : Int) = (3 : Int)) := neF hb
          clear hb
          refine Op.pures 7 [0] (L' := []) (e' := [(0, .bool false)]) (by kernel_rfl) ?_
          refine Op.goto 10 (by kernel_rfl) ?_
          refine At.ret (f := Tryz.f25) (v := .bool false) (by kernel_rfl) (by kernel_rfl) ?_
          have s1158 : St h g (ids []) g1130 [] h1121 := (s1131).drop.drop.drop
          have s1159 : St h g (ids []) g [] h1121 := s1158.unfrz
          refine hR _ _ _ _ s1159 ⟨?_, rfl, rfl⟩
          exact (eqB (by exact absurd (by rw [al_4]; first | done | rfl | decide +kernel) c1157))
        ·refine Op.cast (e' := [(1, .pointer (some ⟨b1061, 0, none⟩)), (62, .bool false)]) (by rw [hb]) ?_
         have c1160 : ¬ (((dropT al2 ([47, 113]) (-1)).2) = (103 : Int)) := neF hb
         clear hb
         refine Op.pures 13 [0] (L' := []) (e' := [(0, .bool false)]) (by kernel_rfl) ?_
         refine Op.goto 10 (by kernel_rfl) ?_
         refine At.ret (f := Tryz.f25) (v := .bool false) (by kernel_rfl) (by kernel_rfl) ?_
         have s1161 : St h g (ids []) g1076 [] h1112 := (s1113).drop.drop.drop
         have s1162 : St h g (ids []) g [] h1112 := s1161.unfrz
         refine hR _ _ _ _ s1162 ⟨?_, rfl, rfl⟩
         exact (eqB (by exact absurd (by rw [al_4]; first | done | rfl | decide +kernel) c1160))
       ·refine Op.cast (e' := [(1, .pointer (some ⟨b1061, 0, none⟩)), (57, .bool false)]) (by rw [hb]) ?_
        have c1163 : ¬ ((((getT al2 ([47, 113, 47, 116, 45, 48, 48, 48, 48, 48])).1).Data) = ([120])) := neF hb
        clear hb
        refine Op.pures 18 [0] (L' := []) (e' := [(0, .bool false)]) (by kernel_rfl) ?_
        refine Op.goto 10 (by kernel_rfl) ?_
        refine At.ret (f := Tryz.f25) (v := .bool false) (by kernel_rfl) (by kernel_rfl) ?_
        have s1164 : St h g (ids []) g1076 [] h1102 := (s1103).drop.drop.drop
        have s1165 : St h g (ids []) g [] h1102 := s1164.unfrz
        refine hR _ _ _ _ s1165 ⟨?_, rfl, rfl⟩
        exact (eqB (by exact absurd (by rw [al_3]; first | done | rfl | decide +kernel) c1163))
      ·refine Op.cast (e' := [(1, .pointer (some ⟨b1061, 0, none⟩)), (6, .pointer (some ⟨b1099, 0, none⟩)), (51, .bool false)]) (by rw [hb]) ?_
       have c1166 : ¬ ((((getT al2 ([47, 113, 47, 116, 45, 48, 48, 48, 48, 48])).1).Owner) = (3 : Int)) := neF hb
       clear hb
       refine Op.pures 24 [0] (L' := []) (e' := [(0, .bool false)]) (by kernel_rfl) ?_
       refine Op.goto 10 (by kernel_rfl) ?_
       refine At.ret (f := Tryz.f25) (v := .bool false) (by kernel_rfl) (by kernel_rfl) ?_
       have s1167 : St h g (ids []) g1076 [] h1102 := (s1103).drop.drop.drop
       have s1168 : St h g (ids []) g [] h1102 := s1167.unfrz
       refine hR _ _ _ _ s1168 ⟨?_, rfl, rfl⟩
       exact (eqB (by exact absurd (by rw [al_3]; first | done | rfl | decide +kernel) c1166))
     ·refine Op.cast (e' := [(1, .pointer (some ⟨b1061, 0, none⟩)), (6, .pointer (some ⟨b1099, 0, none⟩)), (46, .bool false)]) (by rw [hb]) ?_
      have c1169 : ¬ (((makeT al1 ([47, 113, 47, 116, 45]) ([(120 : UInt8)] : List UInt8) 3 2 true).2.1) = ([47, 113, 47, 116, 45, 48, 48, 48, 48, 48])) := neF hb
      clear hb
      refine Op.pures 29 [0] (L' := []) (e' := [(0, .bool false)]) (by kernel_rfl) ?_
      refine Op.goto 10 (by kernel_rfl) ?_
      refine At.ret (f := Tryz.f25) (v := .bool false) (by kernel_rfl) (by kernel_rfl) ?_
      have s1170 : St h g (ids []) g1076 [] h1102 := (s1103).drop.drop.drop
      have s1171 : St h g (ids []) g [] h1102 := s1170.unfrz
      refine hR _ _ _ _ s1171 ⟨?_, rfl, rfl⟩
      exact (eqB (by exact absurd (by rw [al_2]; first | done | rfl | decide +kernel) c1169))
    ·refine Op.cast (e' := [(1, .pointer (some ⟨b1061, 0, none⟩)), (4, .string (mkS ((makeT al1 ([47, 113, 47, 116, 45]) ([(120 : UInt8)] : List UInt8) 3 2 true).2.1))), (6, .pointer (some ⟨b1099, 0, none⟩)), (42, .bool false)]) (by rw [hb]) ?_
     have c1172 : ¬ (((makeT ([⟨[47], [], 0, -1, 0, 0⟩]) ([47, 113]) [] (-1) 1 false).2.1) = ([47, 113])) := neF hb
     clear hb
     refine Op.pures 33 [0] (L' := []) (e' := [(0, .bool false)]) (by kernel_rfl) ?_
     refine Op.goto 10 (by kernel_rfl) ?_
     refine At.ret (f := Tryz.f25) (v := .bool false) (by kernel_rfl) (by kernel_rfl) ?_
     have s1173 : St h g (ids []) g1076 [] h1102 := (s1103).drop.drop.drop
     have s1174 : St h g (ids []) g [] h1102 := s1173.unfrz
     refine hR _ _ _ _ s1174 ⟨?_, rfl, rfl⟩
     exact (eqB (by exact absurd (by rw [al_1]; first | done | rfl | decide +kernel) c1172))
   ·refine Op.cast (e' := [(1, .pointer (some ⟨b1061, 0, none⟩)), (2, .string (mkS ((makeT ([⟨[47], [], 0, -1, 0, 0⟩]) ([47, 113]) [] (-1) 1 false).2.1))), (4, .string (mkS ((makeT al1 ([47, 113, 47, 116, 45]) ([(120 : UInt8)] : List UInt8) 3 2 true).2.1))), (6, .pointer (some ⟨b1099, 0, none⟩)), (38, .bool false)]) (by rw [hb]) ?_
    have c1175 : ¬ (((getT al2 ([47, 113, 47, 116, 45, 48, 48, 48, 48, 48])).2) = (0 : Int)) := neF hb
    clear hb
    refine Op.pures 37 [0] (L' := []) (e' := [(0, .bool false)]) (by kernel_rfl) ?_
    refine Op.goto 10 (by kernel_rfl) ?_
    refine At.ret (f := Tryz.f25) (v := .bool false) (by kernel_rfl) (by kernel_rfl) ?_
    have s1176 : St h g (ids []) g1076 [] h1102 := (s1103).drop.drop.drop
    have s1177 : St h g (ids []) g [] h1102 := s1176.unfrz
    refine hR _ _ _ _ s1177 ⟨?_, rfl, rfl⟩
    exact (eqB (by exact absurd (by rw [al_3]; first | done | rfl | decide +kernel) c1175))
  ·refine Op.cast (e' := [(1, .pointer (some ⟨b1061, 0, none⟩)), (2, .string (mkS ((makeT ([⟨[47], [], 0, -1, 0, 0⟩]) ([47, 113]) [] (-1) 1 false).2.1))), (4, .string (mkS ((makeT al1 ([47, 113, 47, 116, 45]) ([(120 : UInt8)] : List UInt8) 3 2 true).2.1))), (6, .pointer (some ⟨b1099, 0, none⟩)), (7, .int .i64 ((getT al2 ([47, 113, 47, 116, 45, 48, 48, 48, 48, 48])).2)), (34, .bool false)]) (by rw [hb]) ?_
   have c1178 : ¬ (((makeT al1 ([47, 113, 47, 116, 45]) ([(120 : UInt8)] : List UInt8) 3 2 true).2.2) = (0 : Int)) := neF hb
   clear hb
   refine Op.pures 41 [0] (L' := []) (e' := [(0, .bool false)]) (by kernel_rfl) ?_
   refine Op.goto 10 (by kernel_rfl) ?_
   refine At.ret (f := Tryz.f25) (v := .bool false) (by kernel_rfl) (by kernel_rfl) ?_
   have s1179 : St h g (ids []) g1076 [] h1102 := (s1103).drop.drop.drop
   have s1180 : St h g (ids []) g [] h1102 := s1179.unfrz
   refine hR _ _ _ _ s1180 ⟨?_, rfl, rfl⟩
   exact (eqB (by exact absurd (by rw [al_2]; first | done | rfl | decide +kernel) c1178))
 ·refine Op.cast (e' := [(1, .pointer (some ⟨b1061, 0, none⟩)), (2, .string (mkS ((makeT ([⟨[47], [], 0, -1, 0, 0⟩]) ([47, 113]) [] (-1) 1 false).2.1))), (4, .string (mkS ((makeT al1 ([47, 113, 47, 116, 45]) ([(120 : UInt8)] : List UInt8) 3 2 true).2.1))), (5, .int .i64 ((makeT al1 ([47, 113, 47, 116, 45]) ([(120 : UInt8)] : List UInt8) 3 2 true).2.2)), (6, .pointer (some ⟨b1099, 0, none⟩)), (7, .int .i64 ((getT al2 ([47, 113, 47, 116, 45, 48, 48, 48, 48, 48])).2)), (30, .bool false)]) (by rw [hb]) ?_
  have c1181 : ¬ (((makeT ([⟨[47], [], 0, -1, 0, 0⟩]) ([47, 113]) [] (-1) 1 false).2.2) = (0 : Int)) := neF hb
  clear hb
  refine Op.pures 45 [0] (L' := []) (e' := [(0, .bool false)]) (by kernel_rfl) ?_
  refine Op.goto 10 (by kernel_rfl) ?_
  refine At.ret (f := Tryz.f25) (v := .bool false) (by kernel_rfl) (by kernel_rfl) ?_
  have s1182 : St h g (ids []) g1076 [] h1102 := (s1103).drop.drop.drop
  have s1183 : St h g (ids []) g [] h1102 := s1182.unfrz
  refine hR _ _ _ _ s1183 ⟨?_, rfl, rfl⟩
  exact (eqB (by exact absurd (by rw [al_1]; first | done | rfl | decide +kernel) c1181))
end Go.Proofs.YtmjebehhpojihaaGreatDoor.Sw
