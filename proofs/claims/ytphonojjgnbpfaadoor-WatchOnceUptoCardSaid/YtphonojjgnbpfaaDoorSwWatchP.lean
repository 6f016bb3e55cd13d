/- Plain words on watches. No program in sight. Own text. -/
import Derived.Test.YtphonojjgnbpfaaDoorSwPathQ
import Derived.Test.YtphonojjgnbpfaaDoorSwTypes
namespace Go.Proofs.YtphonojjgnbpfaaDoor.Sw
set_option linter.unusedVariables false
set_option linter.unusedSimpArgs false
set_option linter.deprecated false
open Go
def cmpI (a b : Int) : Int := if a < b then -1 else if a > b then 1 else 0
def cmpS (a b : List UInt8) : Int := if Go.Op.bytesLess a b = true then -1 else if (Go.Op.bytesLess a b || a == b) = true then 0 else 1
theorem cmpS_a {a b : List UInt8} (h : Go.Op.bytesLess a b = true) : -1 = cmpS a b := by rw [cmpS, if_pos h]
theorem cmpS_b {a b : List UInt8} (h : Go.Op.bytesLess a b = false) (h2 : (Go.Op.bytesLess a b || a == b) = true) : 0 = cmpS a b := by rw [cmpS, if_neg (Bool.eq_false_iff.1 h), if_pos h2]
theorem cmpS_c {a b : List UInt8} (h : Go.Op.bytesLess a b = false) (h2 : (Go.Op.bytesLess a b || a == b) = false) : 1 = cmpS a b := by rw [cmpS, if_neg (Bool.eq_false_iff.1 h), if_neg (Bool.eq_false_iff.1 h2)]
def orI : List Int → Int
  | [] => 0
  | x :: l => if x = 0 then orI l else x
def ordW (a b : Watch) : Int := orI [cmpS a.Path b.Path, cmpI a.Kind b.Kind, cmpI a.Client b.Client]
theorem orI_step {l : List Int} {i x : Int} (h : orI l = orI (l.drop i.toNat)) (h0 : 0 ≤ i) (hx : l[i.toNat]? = some x) (hz : x = 0) : orI l = orI (l.drop (i + 1).toNat) := by
  rw [h, drop_at hx, toNat_succ h0, orI, if_pos hz]
theorem orI_hit {l : List Int} {i x : Int} (h : orI l = orI (l.drop i.toNat)) (hx : l[i.toNat]? = some x) (hz : ¬ (x = 0)) : x = orI l := by
  rw [h, drop_at hx, orI, if_neg hz]
theorem orI_end {l : List Int} {i : Int} (h : orI l = orI (l.drop i.toNat)) (hi : ¬ (i < (l.length : Int))) : 0 = orI l := by
  rw [h, List.drop_eq_nil_of_le (by omega)]; rfl
def lessW (a b : Watch) : Bool := if a.Path ≠ b.Path then Go.Op.bytesLess a.Path b.Path else if a.Kind ≠ b.Kind then decide (a.Kind < b.Kind) else decide (a.Client < b.Client)
def cnt (c : Int) : List Watch → Nat
  | [] => 0
  | x :: xs => (if x.Client = c then 1 else 0) + cnt c xs
theorem cnt_hit {c n i : Int} {l : List Watch} {x : Watch} (h : n + (cnt c (l.drop i.toNat) : Int) = cnt c l) (h0 : 0 ≤ i) (hx : l[i.toNat]? = some x) (hc : x.Client = c) : n + 1 + (cnt c (l.drop (i + 1).toNat) : Int) = cnt c l := by
  rw [drop_at hx, cnt, if_pos hc] at h; rw [toNat_succ h0]; omega
theorem cnt_miss {c n i : Int} {l : List Watch} {x : Watch} (h : n + (cnt c (l.drop i.toNat) : Int) = cnt c l) (h0 : 0 ≤ i) (hx : l[i.toNat]? = some x) (hc : ¬ (x.Client = c)) : n + (cnt c (l.drop (i + 1).toNat) : Int) = cnt c l := by
  rw [drop_at hx, cnt, if_neg hc] at h; rw [toNat_succ h0]; omega
theorem cnt_end {c n i : Int} {l : List Watch} (h : n + (cnt c (l.drop i.toNat) : Int) = cnt c l) (hi : ¬ (i < (l.length : Int))) : n = (cnt c l : Int) := by
  rw [List.drop_eq_nil_of_le (by omega)] at h; simpa [cnt] using h
def rightW (w : Watch) : Bool := decide (w.Client ≥ 0) && (decide (w.Client < 8) && ((w.Kind == 1 || w.Kind == 2) && pErr w.Path == 0))
def atW (l : List Watch) (i : Int) : Watch := l.getD i.toNat ⟨0, 0, []⟩
theorem filtLen {q : Watch → Bool} {l out : List Watch} {i : Int} (h : out = (l.take i.toNat).filter q) : out.length ≤ l.length := by
  rw [h]; exact Nat.le_trans (List.length_filter_le _ _) (List.length_take_le' _ _)
theorem filt_in {q : Watch → Bool} {l out : List Watch} {i : Int} {x : Watch} (h : out = (l.take i.toNat).filter q) (h0 : 0 ≤ i) (hx : l[i.toNat]? = some x) (hq : q x = true) : out ++ [x] = (l.take (i + 1).toNat).filter q := by
  rw [toNat_succ h0, take_at hx, List.filter_append, h]; simp [hq]
theorem filt_out {q : Watch → Bool} {l out : List Watch} {i : Int} {x : Watch} (h : out = (l.take i.toNat).filter q) (h0 : 0 ≤ i) (hx : l[i.toNat]? = some x) (hq : q x = false) : out = (l.take (i + 1).toNat).filter q := by
  rw [toNat_succ h0, take_at hx, List.filter_append, h]; simp [hq]
theorem filt_end {q : Watch → Bool} {l out : List Watch} {i : Int} (h : out = (l.take i.toNat).filter q) (hi : ¬ (i < (l.length : Int))) : out = l.filter q := by
  rwa [List.take_of_length_le (by omega)] at h
theorem atW_eq {l : List Watch} {i : Int} {x : Watch} (hx : l[i.toNat]? = some x) : atW l i = x := by simp [atW, List.getD, hx]
theorem beq_dec (a b : Int) : (a == b) = decide (a = b) := by rw [Bool.eq_iff_iff]; simp
theorem any_t {α : Type} {q : α → Bool} {l : List α} {k : Int} {b : Bool} (h : b = (l.take k.toNat).any q) (h0 : 0 ≤ k) (hb : b = true) : true = (l.take (k + 1).toNat).any q := by
  subst hb
  rw [toNat_succ h0, List.take_add_one, List.any_append, ← h, Bool.true_or]
theorem any_s {α : Type} {q : α → Bool} {l : List α} {k : Int} {b v : Bool} {x : α} (h : b = (l.take k.toNat).any q) (hb : b = false) (h0 : 0 ≤ k) (hx : l[k.toNat]? = some x) (hv : v = q x) : v = (l.take (k + 1).toNat).any q := by
  subst hb
  rw [toNat_succ h0, take_at hx, List.any_append, ← h, hv]; simp
theorem drop_in {clients : List Int} {l out : List Watch} {i k : Int} {inn : Bool} {x : Watch} (ho : out = (l.take i.toNat).filter (fun w => !clients.any (fun c => decide (c = w.Client)))) (h0 : 0 ≤ i) (hx : l[i.toNat]? = some x)
    (hin : inn = (clients.take k.toNat).any (fun c => decide (c = (atW l i).Client))) (hk : ¬ (k < (clients.length : Int))) (hf : inn = false) : out ++ [x] = (l.take (i + 1).toNat).filter (fun w => !clients.any (fun c => decide (c = w.Client))) := by
  rw [List.take_of_length_le (by omega), atW_eq hx, hf] at hin
  exact filt_in ho h0 hx (by rw [← hin]; rfl)
theorem drop_out {clients : List Int} {l out : List Watch} {i k : Int} {inn : Bool} (ho : out = (l.take i.toNat).filter (fun w => !clients.any (fun c => decide (c = w.Client)))) (h0 : 0 ≤ i) (hi : i < (l.length : Int))
    (hin : inn = (clients.take k.toNat).any (fun c => decide (c = (atW l i).Client))) (hk : ¬ (k < (clients.length : Int))) (hf : inn = true) : out = (l.take (i + 1).toNat).filter (fun w => !clients.any (fun c => decide (c = w.Client))) := by
  have hx : l[i.toNat]? = some l[i.toNat] := List.getElem?_eq_getElem (by omega)
  rw [List.take_of_length_le (by omega), atW_eq hx, hf] at hin
  exact filt_out ho h0 hx (by rw [← hin]; rfl)
def qDrop (clients : List Int) (w : Watch) : Bool := clients.any fun c => decide (c = w.Client)
def qFire (kind : Int) (paths : List (List UInt8)) (w : Watch) : Bool := paths.any (fun p => decide (p = w.Path)) && decide (w.Kind = kind)
theorem beq_decL (a b : List UInt8) : (a == b) = decide (a = b) := by rw [Bool.eq_iff_iff]; simp
section
variable {kind : Int} {paths : List (List UInt8)} {l : List Watch} {i k : Int} {inn : Bool} {x : Watch}
theorem fire_inn (hx : l[i.toNat]? = some x) (hin : inn = (paths.take k.toNat).any (fun p => decide (p = (atW l i).Path))) (hk : ¬ (k < (paths.length : Int))) : inn = paths.any (fun p => decide (p = x.Path)) := by
  rwa [List.take_of_length_le (by omega), atW_eq hx] at hin
theorem fire_t (hx : l[i.toNat]? = some x) (hin : inn = (paths.take k.toNat).any (fun p => decide (p = (atW l i).Path))) (hk : ¬ (k < (paths.length : Int))) (hi : inn = true) (hkd : x.Kind = kind) : qFire kind paths x = true := by
  rw [qFire, ← fire_inn hx hin hk, hi, decide_eq_true hkd]; rfl
theorem fire_f1 (hx : l[i.toNat]? = some x) (hin : inn = (paths.take k.toNat).any (fun p => decide (p = (atW l i).Path))) (hk : ¬ (k < (paths.length : Int))) (hi : inn = false) : qFire kind paths x = false := by
  rw [qFire, ← fire_inn hx hin hk, hi]; rfl
theorem fire_f2 (hkd : ¬ (x.Kind = kind)) : qFire kind paths x = false := by rw [qFire, decide_eq_false hkd, Bool.and_false]
end
def opW (o : L11Op) : Int := ((1 + (o.Paths.length : Int)) + (o.Clients.length : Int)) + (o.Watch.Path.length : Int)
def greatN : List L11Op → Int → Int
  | [], n => n
  | o :: r, n => if n ≤ 100000 then greatN r (n + opW o) else n
theorem great_step {l : List L11Op} {i n : Int} {o : L11Op} (h : greatN l 0 = greatN (l.drop i.toNat) n) (h0 : 0 ≤ i) (hx : l[i.toNat]? = some o) (hn : n ≤ 100000) : greatN l 0 = greatN (l.drop (i + 1).toNat) (n + opW o) := by
  rw [h, drop_at hx, toNat_succ h0, greatN, if_pos hn]
theorem great_end1 {l : List L11Op} {i n : Int} (h : greatN l 0 = greatN (l.drop i.toNat) n) (hi : ¬ (i < (l.length : Int))) : n = greatN l 0 := by
  rw [h, List.drop_eq_nil_of_le (by omega)]; rfl
theorem great_end2 {l : List L11Op} {i n : Int} (h : greatN l 0 = greatN (l.drop i.toNat) n) (hn : ¬ (n ≤ 100000)) : n = greatN l 0 := by
  rw [h]
  cases l.drop i.toNat with
  | nil => rfl
  | cons o r => rw [greatN, if_neg hn]
theorem greatN_ge : ∀ (l : List L11Op) (n : Int), n ≤ greatN l n
  | [], n => by simp [greatN]
  | o :: r, n => by
    unfold greatN
    split
    · have := greatN_ge r (n + opW o)
      unfold opW at *
      omega
    · omega
/-- What a script weighs that isn't great. -/
def wt : List L11Op → Int
  | [] => 0
  | o :: r => opW o + wt r
theorem great_no : ∀ (l : List L11Op) (n : Int), 0 ≤ n → greatN l n ≤ 5000 → greatN l n = n + wt l
  | [], n, _, _ => by simp [greatN, wt]
  | o :: r, n, h0, h => by
    have hw : 0 ≤ opW o := by unfold opW; omega
    unfold greatN at h ⊢
    split at h
    · rename_i hn
      rw [if_pos hn, great_no r (n + opW o) (by omega) h, wt]; omega
    · omega
end Go.Proofs.YtphonojjgnbpfaaDoor.Sw
