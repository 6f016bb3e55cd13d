/- Lemmas for a law of this seat: what the functions compute, and plain facts of it. Own text. -/
import Derived.Test.YtmjebehhpojihaaGreatDoorCShowsN
import Derived.Shelf.Strings.Prefix
import Derived.Shelf.Strings.OnBuilder
import Derived.Shelf.Strconv.Atoi
import Derived.Shelf.Small.Strs
import Derived.Shelf.LaysM
import Derived.Test.YtmjebehhpojihaaGreatDoorProg
namespace Go.Proofs
set_option linter.unusedVariables false
set_option linter.unusedSimpArgs false
set_option linter.deprecated false
open Go.Shelf
def Tryz.lays169_ren : Go.Shelf.Ren := ⟨fun | 169 => 65 | n => n, fun | 70 => 111 | 9 => 9 | 0 => 0 | 72 => 113 | 37 => 29 | 127 => 167 | 3 => 3 | 5 => 5 | n => n, fun | n => n⟩
theorem Tryz.lays169 : Go.Proofs.Lays.n169 Tryz.prog Tryz.lays169_ren := {
  mixed := by kernel_rfl
  f169 := Tryz.func65.trans (congrArg some (by kernel_rfl))
  t0 := Tryz.underlying0
  a0 := Tryz.isAgg0
  z0 := Tryz.sizeOf0
  v0 := Tryz.zeroValue0
  t3 := Tryz.underlying3
  a3 := Tryz.isAgg3
  z3 := Tryz.sizeOf3
  v3 := Tryz.zeroValue3
  t9 := Tryz.underlying9
  a9 := Tryz.isAgg9
  z9 := Tryz.sizeOf9
  v9 := Tryz.zeroValue9
  t37 := Tryz.underlying29
  a37 := Tryz.isAgg29
  z37 := Tryz.sizeOf29
  v37 := Tryz.zeroValue29
  t70 := Tryz.underlying111
  a70 := Tryz.isAgg111
  z70 := Tryz.sizeOf111
  v70 := Tryz.zeroValue111
  t72 := Tryz.underlying113
  a72 := Tryz.isAgg113
  z72 := Tryz.sizeOf113
  v72 := Tryz.zeroValue113
  t127 := Tryz.underlying167
  a127 := Tryz.isAgg167
  z127 := Tryz.sizeOf167
  v127 := Tryz.zeroValue167 }
theorem Tryz.Builder_Extra_169 : Builder.Extra Tryz.prog Tryz.lays169_ren := {
  sizeBuilder := by kernel_rfl
  liesBuilder := by kernel_rfl
  t5 := Tryz.underlying5
  a5 := Tryz.isAgg5
  z5 := Tryz.sizeOf5
  v5 := Tryz.zeroValue5
  infoByte := by kernel_rfl
  cellsByte := by kernel_rfl
  sizeByte := by kernel_rfl
  neB5 := by decide }
open Go.RowKit in
theorem Tryz.Builder_String_any (B b : Nat) (l : List UInt8) (w : World) (h : Lib.IsBuilder 113 5 B b (Lib.byteCells l) w) (hBw : B ≤ w.heap.size) :
    Calls Tryz.prog 65 #[.pointer (some ⟨b, 0, none⟩)] w fun e w' => e = .returned (.string ⟨l.toArray⟩) ∧ Below B w w' := Any.Builder_String_any Tryz.lays169 Tryz.Builder_Extra_169 B b l w h hBw
def Tryz.lays137_ren : Go.Shelf.Ren := ⟨fun | 137 => 103 | 217 => 139 | 266 => 164 | n => n, fun | 9 => 9 | 5 => 5 | 3 => 3 | n => n, fun | n => n⟩
theorem Tryz.lays137 : Go.Proofs.Lays.n137 Tryz.prog Tryz.lays137_ren := {
  mixed := by kernel_rfl
  f137 := Tryz.func103.trans (congrArg some (by kernel_rfl))
  f217 := Tryz.func139.trans (congrArg some (by kernel_rfl))
  f266 := Tryz.func164.trans (congrArg some (by kernel_rfl))
  t3 := Tryz.underlying3
  a3 := Tryz.isAgg3
  z3 := Tryz.sizeOf3
  v3 := Tryz.zeroValue3
  t5 := Tryz.underlying5
  a5 := Tryz.isAgg5
  z5 := Tryz.sizeOf5
  v5 := Tryz.zeroValue5
  t9 := Tryz.underlying9
  a9 := Tryz.isAgg9
  z9 := Tryz.sizeOf9
  v9 := Tryz.zeroValue9 }
open Go.RowKit in
theorem Tryz.strings_IndexByte (s : ByteArray) (c : Int) (w : World) :
    Calls Tryz.prog 103 #[.string s, .int .u8 c] w fun e w' => e = .returned (.int .i64 (Lib.indexByte s.data.toList c.toNat.toUInt8)) ∧ w' = w := Any.strings_IndexByte Tryz.lays137 s c w
def Tryz.lays172_ren : Go.Shelf.Ren := ⟨fun | 172 => 146 | 244 => 177 | 245 => 178 | 247 => 207 | 279 => 208 | 280 => 209 | 281 => 210 | 282 => 211 | 287 => 225 | 316 => 226 | 171 => 67 | 205 => 227 | 321 => 232 | 322 => 233 | 243 => 116 | 246 => 149 | 283 => 179 | 284 => 180 | 285 => 181 | 286 => 182 | 129 => 199 | 317 => 212 | 318 => 213 | 319 => 214 | 320 => 215 | 337 => 228 | 338 => 229 | n => n, fun | 9 => 9 | 3 => 3 | 75 => 117 | 76 => 118 | 4 => 4 | 5 => 5 | 167 => 232 | 37 => 29 | 0 => 0 | 85 => 233 | 2 => 2 | 168 => 235 | 53 => 209 | 175 => 253 | 46 => 171 | 210 => 257 | 127 => 167 | 145 => 266 | 143 => 264 | 21 => 21 | 171 => 208 | 173 => 212 | 212 => 239 | 51 => 215 | 20 => 20 | 213 => 240 | 232 => 267 | 233 => 268 | 80 => 120 | n => n, fun | 15 => 4 | 16 => 5 | 17 => 1 | 18 => 6 | 19 => 7 | n => n⟩
theorem Tryz.lays172 : Go.Proofs.Lays.n172 Tryz.prog Tryz.lays172_ren := {
  mixed := by kernel_rfl
  f129 := Tryz.func199.trans (congrArg some (by kernel_rfl))
  f171 := Tryz.func67.trans (congrArg some (by kernel_rfl))
  f172 := Tryz.func146.trans (congrArg some (by kernel_rfl))
  f205 := Tryz.func227.trans (congrArg some (by kernel_rfl))
  f243 := Tryz.func116.trans (congrArg some (by kernel_rfl))
  f244 := Tryz.func177.trans (congrArg some (by kernel_rfl))
  f245 := Tryz.func178.trans (congrArg some (by kernel_rfl))
  f246 := Tryz.func149.trans (congrArg some (by kernel_rfl))
  f247 := Tryz.func207.trans (congrArg some (by kernel_rfl))
  f279 := Tryz.func208.trans (congrArg some (by kernel_rfl))
  f280 := Tryz.func209.trans (congrArg some (by kernel_rfl))
  f281 := Tryz.func210.trans (congrArg some (by kernel_rfl))
  f282 := Tryz.func211.trans (congrArg some (by kernel_rfl))
  f283 := Tryz.func179.trans (congrArg some (by kernel_rfl))
  f284 := Tryz.func180.trans (congrArg some (by kernel_rfl))
  f285 := Tryz.func181.trans (congrArg some (by kernel_rfl))
  f286 := Tryz.func182.trans (congrArg some (by kernel_rfl))
  f287 := Tryz.func225.trans (congrArg some (by kernel_rfl))
  f316 := Tryz.func226.trans (congrArg some (by kernel_rfl))
  f317 := Tryz.func212.trans (congrArg some (by kernel_rfl))
  f318 := Tryz.func213.trans (congrArg some (by kernel_rfl))
  f319 := Tryz.func214.trans (congrArg some (by kernel_rfl))
  f320 := Tryz.func215.trans (congrArg some (by kernel_rfl))
  f321 := Tryz.func232.trans (congrArg some (by kernel_rfl))
  f322 := Tryz.func233.trans (congrArg some (by kernel_rfl))
  f337 := Tryz.func228.trans (congrArg some (by kernel_rfl))
  f338 := Tryz.func229.trans (congrArg some (by kernel_rfl))
  t0 := Tryz.underlying0
  a0 := Tryz.isAgg0
  z0 := Tryz.sizeOf0
  v0 := Tryz.zeroValue0
  t2 := Tryz.underlying2
  a2 := Tryz.isAgg2
  z2 := Tryz.sizeOf2
  v2 := Tryz.zeroValue2
  t3 := Tryz.underlying3
  a3 := Tryz.isAgg3
  z3 := Tryz.sizeOf3
  v3 := Tryz.zeroValue3
  t4 := Tryz.underlying4
  a4 := Tryz.isAgg4
  z4 := Tryz.sizeOf4
  v4 := Tryz.zeroValue4
  t5 := Tryz.underlying5
  a5 := Tryz.isAgg5
  z5 := Tryz.sizeOf5
  v5 := Tryz.zeroValue5
  t9 := Tryz.underlying9
  a9 := Tryz.isAgg9
  z9 := Tryz.sizeOf9
  v9 := Tryz.zeroValue9
  t20 := Tryz.underlying20
  a20 := Tryz.isAgg20
  z20 := Tryz.sizeOf20
  v20 := Tryz.zeroValue20
  t21 := Tryz.underlying21
  a21 := Tryz.isAgg21
  z21 := Tryz.sizeOf21
  v21 := Tryz.zeroValue21
  t37 := Tryz.underlying29
  a37 := Tryz.isAgg29
  z37 := Tryz.sizeOf29
  v37 := Tryz.zeroValue29
  t46 := Tryz.underlying171
  a46 := Tryz.isAgg171
  z46 := Tryz.sizeOf171
  v46 := Tryz.zeroValue171
  t51 := Tryz.underlying215
  a51 := Tryz.isAgg215
  z51 := Tryz.sizeOf215
  v51 := Tryz.zeroValue215
  t53 := Tryz.underlying209
  a53 := Tryz.isAgg209
  z53 := Tryz.sizeOf209
  v53 := Tryz.zeroValue209
  t75 := Tryz.underlying117
  a75 := Tryz.isAgg117
  z75 := Tryz.sizeOf117
  v75 := Tryz.zeroValue117
  t76 := Tryz.underlying118
  a76 := Tryz.isAgg118
  z76 := Tryz.sizeOf118
  v76 := Tryz.zeroValue118
  t85 := Tryz.underlying233
  a85 := Tryz.isAgg233
  z85 := Tryz.sizeOf233
  v85 := Tryz.zeroValue233
  t127 := Tryz.underlying167
  a127 := Tryz.isAgg167
  z127 := Tryz.sizeOf167
  v127 := Tryz.zeroValue167
  t143 := Tryz.underlying264
  a143 := Tryz.isAgg264
  z143 := Tryz.sizeOf264
  v143 := Tryz.zeroValue264
  t145 := Tryz.underlying266
  a145 := Tryz.isAgg266
  z145 := Tryz.sizeOf266
  v145 := Tryz.zeroValue266
  t167 := Tryz.underlying232
  a167 := Tryz.isAgg232
  z167 := Tryz.sizeOf232
  v167 := Tryz.zeroValue232
  t168 := Tryz.underlying235
  a168 := Tryz.isAgg235
  z168 := Tryz.sizeOf235
  v168 := Tryz.zeroValue235
  t171 := Tryz.underlying208
  a171 := Tryz.isAgg208
  z171 := Tryz.sizeOf208
  v171 := Tryz.zeroValue208
  t173 := Tryz.underlying212
  a173 := Tryz.isAgg212
  z173 := Tryz.sizeOf212
  v173 := Tryz.zeroValue212
  t175 := Tryz.underlying253
  a175 := Tryz.isAgg253
  z175 := Tryz.sizeOf253
  v175 := Tryz.zeroValue253
  t210 := Tryz.underlying257
  a210 := Tryz.isAgg257
  z210 := Tryz.sizeOf257
  v210 := Tryz.zeroValue257
  t212 := Tryz.underlying239
  a212 := Tryz.isAgg239
  z212 := Tryz.sizeOf239
  v212 := Tryz.zeroValue239
  t213 := Tryz.underlying240
  a213 := Tryz.isAgg240
  z213 := Tryz.sizeOf240
  t232 := Tryz.underlying267
  a232 := Tryz.isAgg267
  z232 := Tryz.sizeOf267
  v232 := Tryz.zeroValue267
  t233 := Tryz.underlying268
  a233 := Tryz.isAgg268
  z233 := Tryz.sizeOf268
  v233 := Tryz.zeroValue268
  g15 := by kernel_rfl
  g16 := by kernel_rfl
  g17 := by kernel_rfl
  g18 := by kernel_rfl
  g19 := by kernel_rfl }
open Go.RowKit in
theorem Tryz.strconv_Atoi (s : ByteArray) (n : Int) (hl : s.size ≤ 18) (h : Lib.atoi s.data.toList = some n) (w : World) :
    Calls Tryz.prog 146 #[.string s] w fun e w' => e = .returned (.tuple #[.int .i64 n, .nilIface]) ∧ ∃ t, w' = Lib.bytesWorld w 5 t := Any.strconv_Atoi Tryz.lays172 s n hl h w
def Tryz.lays101_ren : Go.Shelf.Ren := ⟨fun | 101 => 144 | 208 => 169 | 206 => 186 | n => n, fun | 9 => 9 | 4 => 4 | 3 => 3 | n => n, fun | n => n⟩
theorem Tryz.lays101 : Go.Proofs.Lays.n101 Tryz.prog Tryz.lays101_ren := {
  mixed := by kernel_rfl
  f101 := Tryz.func144.trans (congrArg some (by kernel_rfl))
  f206 := Tryz.func186.trans (congrArg some (by kernel_rfl))
  f208 := Tryz.func169.trans (congrArg some (by kernel_rfl))
  t3 := Tryz.underlying3
  a3 := Tryz.isAgg3
  z3 := Tryz.sizeOf3
  v3 := Tryz.zeroValue3
  t4 := Tryz.underlying4
  a4 := Tryz.isAgg4
  z4 := Tryz.sizeOf4
  v4 := Tryz.zeroValue4
  t9 := Tryz.underlying9
  a9 := Tryz.isAgg9
  z9 := Tryz.sizeOf9
  v9 := Tryz.zeroValue9 }
open Go.RowKit Go.Lib in
theorem Tryz.strings_TrimPrefix (s p : ByteArray) (w : World) :
    Calls Tryz.prog 144 #[.string s, .string p] w fun e w' => e = .returned (.string ⟨(Lib.trimPrefix s.data.toList p.data.toList).toArray⟩) ∧ w' = w := Any.strings_TrimPrefix Tryz.lays101 s p w
def Tryz.lays102_ren : Go.Shelf.Ren := ⟨fun | 102 => 56 | 209 => 104 | 207 => 140 | n => n, fun | 9 => 9 | 4 => 4 | 3 => 3 | n => n, fun | n => n⟩
theorem Tryz.lays102 : Go.Proofs.Lays.n102 Tryz.prog Tryz.lays102_ren := {
  mixed := by kernel_rfl
  f102 := Tryz.func56.trans (congrArg some (by kernel_rfl))
  f207 := Tryz.func140.trans (congrArg some (by kernel_rfl))
  f209 := Tryz.func104.trans (congrArg some (by kernel_rfl))
  t3 := Tryz.underlying3
  a3 := Tryz.isAgg3
  z3 := Tryz.sizeOf3
  v3 := Tryz.zeroValue3
  t4 := Tryz.underlying4
  a4 := Tryz.isAgg4
  z4 := Tryz.sizeOf4
  v4 := Tryz.zeroValue4
  t9 := Tryz.underlying9
  a9 := Tryz.isAgg9
  z9 := Tryz.sizeOf9
  v9 := Tryz.zeroValue9 }
open Go.RowKit Go.Lib in
theorem Tryz.strings_TrimSuffix (s p : ByteArray) (w : World) (hs : s.size ≤ 9223372036854775807) :
    Calls Tryz.prog 56 #[.string s, .string p] w fun e w' => e = .returned (.string ⟨(Lib.trimSuffix s.data.toList p.data.toList).toArray⟩) ∧ w' = w := Any.strings_TrimSuffix Tryz.lays102 s p w hs
end Go.Proofs
namespace Go.Proofs.YtmjebehhpojihaaGreatDoor.Sw
set_option linter.unusedVariables false
set_option linter.unusedSimpArgs false
set_option linter.deprecated false
open Go Go.RowKit
theorem bytes_below (w : World) (e : TypeId) (t : ByteArray) : Below w.heap.size w (Lib.bytesWorld w e t) :=
  ⟨rfl, rfl, rfl, by rw [Lib.bytesWorld_size]; omega, fun b hb => Lib.bytesWorld_at_old w e t b hb⟩
theorem trimPre_spec (B : World) (h : Heap) (g : GH) (hg : Sub g h) (hG : Glob g) (s p : List UInt8) :
    Spec Tryz.prog B 144 #[.string (mkS s), .string (mkS p)] h g [] fun v g' L' => v = .string (mkS (Lib.trimPrefix s p)) ∧ g' = g ∧ L' = [] :=
  Spec.of_below hg fun w is => (Tryz.strings_TrimPrefix (mkS s) (mkS p) w).mono fun e w' ⟨he, hw⟩ => ⟨he, hw ▸ Below.refl _ _⟩
theorem trimSuf_spec (B : World) (h : Heap) (g : GH) (hg : Sub g h) (hG : Glob g) (s p : List UInt8) (hs : s.length ≤ 9223372036854775807) :
    Spec Tryz.prog B 56 #[.string (mkS s), .string (mkS p)] h g [] fun v g' L' => v = .string (mkS (Lib.trimSuffix s p)) ∧ g' = g ∧ L' = [] :=
  Spec.of_below hg fun w is => (Tryz.strings_TrimSuffix (mkS s) (mkS p) w (by rw [size_mkS]; exact hs)).mono fun e w' ⟨he, hw⟩ => ⟨he, hw ▸ Below.refl _ _⟩
def idxB (s : List UInt8) (c : Int) : Int := Lib.indexByte s c.toNat.toUInt8
theorem idxB_spec (B : World) (h : Heap) (g : GH) (hg : Sub g h) (hG : Glob g) (s : List UInt8) (c : Int) :
    Spec Tryz.prog B 103 #[.string (mkS s), .int .u8 c] h g [] fun v g' L' => v = .int .i64 (idxB s c) ∧ g' = g ∧ L' = [] :=
  Spec.of_below hg fun w is => (Tryz.strings_IndexByte (mkS s) c w).mono fun e w' ⟨he, hw⟩ => ⟨he, hw ▸ Below.refl _ _⟩
theorem atoi_spec (B : World) (h : Heap) (g : GH) (hg : Sub g h) (hG : Glob g) (s : List UInt8) (n : Int) (hl : s.length ≤ 18) (hn : Lib.atoi s = some n) :
    Spec Tryz.prog B 146 #[.string (mkS s)] h g [] fun v g' L' => v = .tuple #[.int .i64 n, .nilIface] ∧ g' = g ∧ L' = [] :=
  Spec.of_below hg fun w is => (Tryz.strconv_Atoi (mkS s) n (by rw [size_mkS]; exact hl) hn w).mono fun e w' ⟨he, t, hw⟩ => ⟨he, hw ▸ bytes_below _ _ _⟩
theorem trimPre1 (w : List UInt8) : Lib.trimPrefix w [45] = (sgnW w).2 := by
  rcases w with _ | ⟨a, w⟩
  · rfl
  · unfold Lib.trimPrefix Lib.hasPrefix sgnW
    by_cases h : a = 45
    · subst h; simp
    · have : ¬ (a :: w).head? = some 45 := by simpa using h
      rw [if_neg this]
      simp [List.isPrefixOf, h, Ne.symm h]
def digs : List UInt8 := [48, 49, 50, 51, 52, 53, 54, 55, 56, 57]
theorem digs_dig (c : UInt8) : digs.contains c = isDig c := by
  have h : ∀ n : Fin 256, digs.contains (UInt8.ofFin n) = isDig (UInt8.ofFin n) := by decide +kernel
  exact h c.toFin
theorem trim_dig (d : List UInt8) : (Lib.trimS d digs = []) ↔ d.all isDig = true := by
  rw [trimS_nil, List.all_eq_true]
  constructor
  · intro H x hx; rw [← digs_dig]; exact H x hx
  · intro H x hx; rw [digs_dig]; exact H x hx
section
variable {w d : List UInt8} {c : UInt8}
theorem decNat_of : ∀ (d : List UInt8) (acc : Nat), d.all isDig = true → ∃ n, Lib.decFrom acc d = some n ∧ (n : Int) = valD acc d := by
  intro d
  induction d with
  | nil => intro acc _; exact ⟨acc, rfl, rfl⟩
  | cons c d ih =>
    intro acc h
    rw [List.all_cons, Bool.and_eq_true] at h
    have h2 := h.1
    unfold isDig at h2
    simp only [Bool.and_eq_true, decide_eq_true_eq] at h2
    have hd : Lib.digitVal c = some (c.toNat - 48) := by unfold Lib.digitVal; rw [if_pos (by omega)]
    obtain ⟨n, hn, hv⟩ := ih (acc * 10 + (c.toNat - 48)) h.2
    refine ⟨n, ?_, ?_⟩
    · rw [Lib.decFrom, hd]; exact hn
    · rw [hv]
      show valD _ d = valD ((acc : Int) * 10 + (c.toNat : Int) - 48) d
      congr 1
      omega
theorem atoi_of (h : okD (sgnW w).2 = true) : Lib.atoi w = some ((sgnW w).1 * valD 0 (sgnW w).2) := by
  have ok := h
  unfold okD at ok
  simp only [Bool.and_eq_true, decide_eq_true_eq] at ok
  have hall := ok.2
  have hne : (sgnW w).2 ≠ [] := fun e => by rw [e] at ok; simp at ok
  rcases w with _ | ⟨a, w⟩
  · exact absurd rfl hne
  · by_cases ha : a = 45
    · subst ha
      have e : sgnW (45 :: w) = (-1, w) := by unfold sgnW; simp
      rw [e] at hall hne ⊢
      obtain ⟨n, hn, hv⟩ := decNat_of w 0 hall
      rw [Lib.atoi, if_pos (by decide)]
      have : Lib.decNat w = some n := by rw [← hn]; rcases w with _ | ⟨x, y⟩; exact absurd rfl hne; rfl
      rw [this, Option.map_some]
      congr 1
      rw [show valD 0 w = (n : Int) from hv.symm]
      show -(n : Int) = -1 * (n : Int)
      omega
    · have e : sgnW (a :: w) = (1, a :: w) := by unfold sgnW; rw [if_neg (by simpa using ha)]
      rw [e] at hall hne ⊢
      obtain ⟨n, hn, hv⟩ := decNat_of (a :: w) 0 hall
      have hd := hall
      rw [List.all_cons, Bool.and_eq_true] at hd
      have h2 := hd.1
      unfold isDig at h2
      simp only [Bool.and_eq_true, decide_eq_true_eq] at h2
      have h43 : ¬ a = 43 := fun e => by subst e; simp at h2
      rw [Lib.atoi, if_neg (by simpa using ha), if_neg (by simpa using h43)]
      have : Lib.decNat (a :: w) = some n := by rw [← hn]; rfl
      rw [this, Option.map_some]
      congr 1
      rw [show valD 0 (a :: w) = (n : Int) from hv.symm]
      show (n : Int) = 1 * (n : Int)
      omega
theorem okD_all (h1 : ¬ d = []) (h9 : ¬ (d.length : Int) > 9) (hc : d[(0 : Int).toNat]? = some c) (h48 : ¬ (c.toNat : Int) = 48) (ht : Lib.trimS d digs = []) : okD d = true := by
  have hall := (trim_dig d).1 ht
  have hl := (List.getElem?_eq_some_iff.1 hc).1
  unfold okD
  rw [decide_eq_true (by omega), decide_eq_true (p := d.length ≤ 9) (by omega), hall, List.head?_eq_getElem?, show d[0]? = some c from hc]
  simp only [Bool.true_and, Bool.and_true, Option.some.injEq]
  rw [decide_eq_false (by intro e; rw [e] at h48; exact h48 rfl)]
  rfl
theorem okD_no (ht : ¬ Lib.trimS d digs = []) : okD d = false := by
  have : d.all isDig = false := by
    rw [← Bool.not_eq_true]
    exact fun h => ht ((trim_dig d).2 h)
  unfold okD
  rw [this, Bool.and_false]
theorem okD_e (h : d = []) : okD d = false := by subst h; rfl
theorem num_ok (hw : ¬ w = [48]) (h : okD (sgnW w).2 = true) : numW w = some ((sgnW w).1 * valD 0 (sgnW w).2) := by unfold numW; rw [if_neg hw, if_pos h]
theorem num_at (hw : ¬ w = [48]) (h : okD (sgnW w).2 = true) : Lib.atoi w = some ((numW w).getD 0) := by rw [num_ok hw h, atoi_of h]; rfl
theorem num_is (hw : ¬ w = [48]) (h : okD (sgnW w).2 = true) : true = (numW w).isSome := by rw [num_ok hw h]; rfl
theorem sgn_len (w : List UInt8) : w.length ≤ (sgnW w).2.length + 1 ∧ (sgnW w).2.length ≤ w.length := by
  unfold sgnW
  split
  · simp; omega
  · simp
theorem okD_len (h : okD d = true) : d.length ≤ 9 := by
  unfold okD at h
  simp only [Bool.and_eq_true, decide_eq_true_eq] at h
  exact h.1.1.2
end
theorem atoiW_spec (B : World) (h : Heap) (g : GH) (hg : Sub g h) (hG : Glob g) (s : List UInt8) (hw : ¬ s = [48]) (hd : okD (sgnW s).2 = true) :
    Spec Tryz.prog B 146 #[.string (mkS s)] h g [] fun v g' L' => v = .tuple #[.int .i64 ((numW s).getD 0), .nilIface] ∧ g' = g ∧ L' = [] :=
  atoi_spec B h g hg hG s _ (by have h1 := okD_len hd; have h2 := (sgn_len s).1; omega) (num_at hw hd)
theorem idx_hex (c : UInt8) : idxB hexS (c.toNat : Int) = digN c := by
  have h : ∀ n : Fin 256, idxB hexS ((UInt8.ofFin n).toNat : Int) = digN (UInt8.ofFin n) := by decide +kernel
  exact h c.toFin
theorem hexIdx_spec (B : World) (h : Heap) (g : GH) (hg : Sub g h) (hG : Glob g) (c : Int) (h0 : 0 ≤ c) (h1 : c ≤ 255) :
    Spec Tryz.prog B 103 #[.string (mkS [48, 49, 50, 51, 52, 53, 54, 55, 56, 57, 97, 98, 99, 100, 101, 102]), .int .u8 c] h g [] fun v g' L' => v = .int .i64 (digI c) ∧ g' = g ∧ L' = [] := by
  have e := idx_hex (UInt8.ofNat c.toNat)
  have e2 : ((UInt8.ofNat c.toNat).toNat : Int) = c := by rw [UInt8.toNat_ofNat']; omega
  unfold digN at e
  rw [e2] at e
  have H := idxB_spec B h g hg hG hexS c
  rw [e] at H
  exact H
theorem trimSuf1 (l : List UInt8) (h : 10 ∉ l) : Lib.trimSuffix (l ++ [10]) [10] = l := by
  unfold Lib.trimSuffix Lib.hasSuffix
  rw [if_pos (by rw [List.isSuffixOf_iff_suffix]; exact List.suffix_append _ _)]
  simp
theorem trimSuf2 (l : List UInt8) (h : 10 ∉ l) : Lib.trimSuffix l [10] = l := by
  unfold Lib.trimSuffix Lib.hasSuffix
  rw [if_neg]
  intro hh
  rw [List.isSuffixOf_iff_suffix] at hh
  exact h (hh.subset (by simp))
end Go.Proofs.YtmjebehhpojihaaGreatDoor.Sw
namespace Go.Proofs.YtmjebehhpojihaaGreatDoor.Sw
set_option linter.unusedVariables false
set_option linter.unusedSimpArgs false
set_option linter.deprecated false
open Go
def idxL (s : List (List UInt8)) (v : List UInt8) : Int := match s.idxOf? v with
  | some k => (k : Int)
  | none => -1
def idxI (s : List (List UInt8)) (v : List UInt8) (i : Int) : Prop := v ∉ s.take i.toNat
section
variable {s : List (List UInt8)} {v x : List UInt8} {i : Int}
theorem idxI_0 (s : List (List UInt8)) (v : List UInt8) : idxI s v 0 := by unfold idxI; simp
theorem idxI_step (H : idxI s v i) (h0 : 0 ≤ i) (hx : s[i.toNat]? = some x) (h : ¬ v = x) : idxI s v (i + 1) := by
  unfold idxI at *
  rw [toNat_succ h0, take_at hx, List.mem_append, not_or]
  exact ⟨H, by simpa using h⟩
theorem idxI_hit (H : idxI s v i) (h0 : 0 ≤ i) (hx : s[i.toNat]? = some x) (h : v = x) : i = idxL s v := by
  subst h
  obtain ⟨hl, hg⟩ := List.getElem?_eq_some_iff.1 hx
  have : s.idxOf? v = some i.toNat := by
    unfold List.idxOf?
    rw [List.findIdx?_eq_some_iff_getElem]
    refine ⟨hl, by simp [hg], fun j hj => ?_⟩
    have : s[j] ∈ s.take i.toNat := by rw [List.mem_take_iff_getElem]; exact ⟨j, by omega, rfl⟩
    have hne : ¬ s[j] = v := fun e => H (e ▸ this)
    simpa using hne
  unfold idxL
  rw [this]
  show i = ((i.toNat : Nat) : Int)
  omega
theorem idxI_end (H : idxI s v i) (h : ¬ i < (s.length : Int)) : (-1 : Int) = idxL s v := by
  unfold idxI at H
  rw [List.take_of_length_le (by omega)] at H
  have : s.idxOf? v = none := by
    rw [List.idxOf?_eq_none_iff]; exact H
  unfold idxL
  rw [this]
end
theorem idx_role (w : List UInt8) : idxL rolesL w = if w = [] then 0 else (roleW w).getD (-1) := by
  unfold idxL roleW rolesL
  by_cases h0 : w = []
  · subst h0; rfl
  · rw [if_neg h0]
    simp only [List.idxOf?_cons, List.idxOf?_nil]
    by_cases h1 : [107, 101, 101, 112, 101, 114] = w
    · subst h1; rfl
    · by_cases h2 : [111, 114, 100, 101, 114, 101, 114] = w
      · subst h2; rfl
      · by_cases h3 : [100, 111, 101, 114] = w
        · subst h3; rfl
        · by_cases h4 : [112, 101, 101, 114] = w
          · subst h4; rfl
          · have e0 : (([] : List UInt8) == w) = false := by simpa using Ne.symm h0
            have e1 : (([107, 101, 101, 112, 101, 114] : List UInt8) == w) = false := by simpa using h1
            have e2 : (([111, 114, 100, 101, 114, 101, 114] : List UInt8) == w) = false := by simpa using h2
            have e3 : (([100, 111, 101, 114] : List UInt8) == w) = false := by simpa using h3
            have e4 : (([112, 101, 101, 114] : List UInt8) == w) = false := by simpa using h4
            rw [e0, e1, e2, e3, e4]
            have f1 : ¬ ([[], [107, 101, 101, 112, 101, 114], [111, 114, 100, 101, 114, 101, 114], [100, 111, 101, 114], [112, 101, 101, 114]] : List (List UInt8)).getD 1 [] = w := h1
            have f2 : ¬ ([[], [107, 101, 101, 112, 101, 114], [111, 114, 100, 101, 114, 101, 114], [100, 111, 101, 114], [112, 101, 101, 114]] : List (List UInt8)).getD 2 [] = w := h2
            have f3 : ¬ ([[], [107, 101, 101, 112, 101, 114], [111, 114, 100, 101, 114, 101, 114], [100, 111, 101, 114], [112, 101, 101, 114]] : List (List UInt8)).getD 3 [] = w := h3
            have f4 : ¬ ([[], [107, 101, 101, 112, 101, 114], [111, 114, 100, 101, 114, 101, 114], [100, 111, 101, 114], [112, 101, 101, 114]] : List (List UInt8)).getD 4 [] = w := h4
            rw [if_neg f1, if_neg f2, if_neg f3, if_neg f4]
            rfl
theorem idx_pos (w : List UInt8) : decide (idxL rolesL w > 0) = (roleW w).isSome := by
  rw [idx_role]
  by_cases h0 : w = []
  · subst h0; decide
  · rw [if_neg h0]
    have hb := roleW_b w
    cases hr : roleW w with
    | none => decide
    | some v =>
      have : v = 1 ∨ v = 2 ∨ v = 3 ∨ v = 4 := by
        unfold roleW at hr
        repeat' split at hr
        all_goals (cases hr <;> simp)
      rcases this with rfl | rfl | rfl | rfl <;> decide
theorem digs_128 : ∀ (j : Nat) (b : UInt8), ([48, 49, 50, 51, 52, 53, 54, 55, 56, 57] : List UInt8)[j]? = some b → b.toNat < 128 := by
  intro j b hj
  have h9 : ∀ x ∈ ([48, 49, 50, 51, 52, 53, 54, 55, 56, 57] : List UInt8), x.toNat < 128 := by decide
  exact h9 b (List.mem_of_getElem? hj)
def b9 (b : List UInt8) : List UInt8 := b.flatMap fun c => [hexC (c.toNat / 16), hexC (c.toNat % 16)]
theorem b9_end {b out : List UInt8} {i : Int} (h : out = (b.take i.toNat).flatMap fun c => [hexC (c.toNat / 16), hexC (c.toNat % 16)]) (hi : ¬ i < (b.length : Int)) : out = b9 b := by
  rw [h, List.take_of_length_le (by omega)]; rfl
theorem b9_hex {b : List UInt8} (hb : ¬ (b.length : Int) = 0) : b9 b = hexW b := by
  unfold hexW
  rw [if_neg (by intro e; subst e; exact hb rfl)]
  rfl
def pairsL (s : List UInt8) : List (List UInt8) := (List.range ((s.length + 1) / 2)).map fun k => (s.drop (2 * k)).take 2
def chI (s : List UInt8) (i : Int) : List (List UInt8) := (List.range (i.toNat / 2)).map fun k => (s.drop (2 * k)).take 2
section
variable {s : List UInt8} {i : Int}
theorem ch_0 (s : List UInt8) : chI s 0 = [] := rfl
theorem ch_step (s : List UInt8) (h0 : 0 ≤ i) (he : i % 2 = 0) : chI s (i + 2) = chI s i ++ [(s.take (i + min (2 : Int) ((s.drop (i : Int).toNat).length : Int) : Int).toNat).drop (i : Int).toNat] := by
  unfold chI
  have e1 : (i + 2).toNat / 2 = i.toNat / 2 + 1 := by omega
  rw [e1, List.range_succ, List.map_append]
  congr 1
  simp only [List.map_cons, List.map_nil]
  congr 1
  have e2 : 2 * (i.toNat / 2) = i.toNat := by omega
  rw [e2, List.drop_take]
  by_cases hl : (s.drop i.toNat).length ≤ 2
  · rw [List.take_of_length_le hl, List.take_of_length_le]
    omega
  · congr 1
    omega
theorem ch_end (he : i % 2 = 0) (h : ¬ i < (s.length : Int)) (hi : i ≤ (s.length : Int) + 1) : chI s i = pairsL s := by
  unfold chI pairsL
  rw [show i.toNat / 2 = (s.length + 1) / 2 by omega]
theorem ch_pre (h0 : 0 ≤ i) (he : i % 2 = 0) (h : i < (s.length : Int)) : chI s (i + 2) <+: pairsL s := by
  unfold chI pairsL
  have : List.range ((i + 2).toNat / 2) <+: List.range ((s.length + 1) / 2) := by
    have e : (s.length + 1) / 2 = (i + 2).toNat / 2 + ((s.length + 1) / 2 - (i + 2).toNat / 2) := by omega
    rw [e, List.range_add]
    exact List.prefix_append _ _
  exact this.map _
theorem pairs_flat (s : List UInt8) : (pairsL s).flatten = s := by
  have : ∀ m : Nat, ((List.range m).map fun k => (s.drop (2 * k)).take 2).flatten = s.take (2 * m) := by
    intro m
    induction m with
    | zero => simp
    | succ m ih =>
      rw [List.range_succ, List.map_append, List.flatten_append, ih]
      simp only [List.map_cons, List.map_nil, List.flatten_cons, List.flatten_nil, List.append_nil]
      rw [show 2 * (m + 1) = 2 * m + 2 by omega, List.take_add]
  unfold pairsL
  rw [this, List.take_of_length_le (by omega)]
theorem pairs_len (h : s.length % 2 = 0) {x : List UInt8} (hx : x ∈ pairsL s) : x.length = 2 := by
  unfold pairsL at hx
  obtain ⟨k, hk, rfl⟩ := List.mem_map.1 hx
  have := List.mem_range.1 hk
  rw [List.length_take, List.length_drop]
  omega
end
theorem unhexL_snoc : ∀ (n : Nat) (p : List UInt8), p.length ≤ n → p.length % 2 = 0 → ∀ q : List UInt8, unhexL (p ++ q) = (unhexL p).bind fun o => (unhexL q).map fun t => o ++ t
  | _, [], _, _, q => by simp [unhexL]
  | _, [_], _, h, _ => by simp at h
  | 0, _ :: _ :: _, h, _, _ => by simp at h
  | n + 1, a :: b :: p, hn, he, q => by
    have ih := unhexL_snoc n p (by simp at hn; omega) (by simp at he; omega) q
    rw [List.cons_append, List.cons_append, unhexL, unhexL, ih]
    split
    · rfl
    · cases unhexL p with
      | none => rfl
      | some o => cases unhexL q <;> simp
def unI (xs : List (List UInt8)) (out : List UInt8) : Prop := (∀ x ∈ xs, x.length = 2) → ∀ o, unhexL xs.flatten = some o → o = out
def goU (xs : List (List UInt8)) : Bool := (unhexL xs.flatten).isSome
def pendU (xs : List (List UInt8)) : Option Code := if goU xs = true then none else some .ret
section
variable {xs full : List (List UInt8)} {out w : List UInt8} {x : List UInt8} {a b : UInt8}
theorem flat_even (h : ∀ x ∈ xs, x.length = 2) : xs.flatten.length % 2 = 0 := by
  induction xs with
  | nil => rfl
  | cons x xs ih =>
    rw [List.flatten_cons, List.length_append, h x (by simp)]
    have := ih (fun y hy => h y (by simp [hy]))
    omega
theorem two_of (hl : x.length = 2) (ha : x[(0 : Int).toNat]? = some a) (hb : x[(1 : Int).toNat]? = some b) : x = [a, b] := by
  match x, hl with
  | [c, d], _ => simp at ha hb; rw [ha, hb]
theorem unI_0 : unI [] [] := fun _ o h => by simp [unhexL] at h; exact h
theorem goU_bad (hx : ∀ y ∈ xs ++ [x], y.length = 2) (ha : x[(0 : Int).toNat]? = some a) (hb : x[(1 : Int).toNat]? = some b) (h : digN a < 0 ∨ digN b < 0) : unhexL (xs ++ [x]).flatten = none := by
  have e := two_of (hx x (by simp)) ha hb
  subst e
  rw [List.flatten_append, unhexL_snoc _ _ (Nat.le_refl _) (flat_even fun y hy => hx y (by simp [hy]))]
  have : unhexL ([[a, b]] : List (List UInt8)).flatten = none := by simp [unhexL, h]
  rw [this]
  cases unhexL xs.flatten <;> rfl
theorem goU_ok (hx : ∀ y ∈ xs ++ [x], y.length = 2) (ha : x[(0 : Int).toNat]? = some a) (hb : x[(1 : Int).toNat]? = some b) (h1 : ¬ digN a < 0) (h2 : ¬ digN b < 0) : unhexL (xs ++ [x]).flatten = (unhexL xs.flatten).map fun o => o ++ [hexB a b] := by
  have e := two_of (hx x (by simp)) ha hb
  subst e
  rw [List.flatten_append, unhexL_snoc _ _ (Nat.le_refl _) (flat_even fun y hy => hx y (by simp [hy]))]
  have : unhexL ([[a, b]] : List (List UInt8)).flatten = some [hexB a b] := by simp [unhexL, h1, h2]
  rw [this]
  cases unhexL xs.flatten <;> rfl
theorem unI_ok (H : unI xs out) (hx : ∀ y ∈ xs ++ [x], y.length = 2) (ha : x[(0 : Int).toNat]? = some a) (hb : x[(1 : Int).toNat]? = some b) (h1 : ¬ digN a < 0) (h2 : ¬ digN b < 0) {c : UInt8} (hc : c = hexB a b) : unI (xs ++ [x]) (out ++ [c]) := by
  intro _ o ho
  rw [goU_ok hx ha hb h1 h2] at ho
  obtain ⟨t, ht, rfl⟩ := Option.map_eq_some_iff.1 ho
  rw [H (fun y hy => hx y (by simp [hy])) t ht, hc]
theorem unI_bad (out : List UInt8) (h : unhexL (xs ++ [x]).flatten = none) : unI (xs ++ [x]) out := by
  intro _ o ho
  rw [h] at ho
  cases ho
theorem els_two (hf : ∃ full, full = pairsL w ∧ xs ++ [x] <+: full) (he : (w.length : Int) % 2 = 0) : ∀ y ∈ xs ++ [x], y.length = 2 := by
  obtain ⟨full, rfl, hp⟩ := hf
  exact fun y hy => pairs_len (by omega) (hp.subset hy)
theorem unhex_end (hw : ¬ w = [46]) (hn : ¬ w = []) (he : (w.length : Int) % 2 = 0) (H : unI (pairsL w) out) (hg : goU (pairsL w) = true) : out = (unhexW w).getD [] ∧ true = (unhexW w).isSome := by
  unfold goU at hg
  obtain ⟨o, ho⟩ := Option.isSome_iff_exists.1 hg
  have := H (fun x hx => pairs_len (by omega) hx) o ho
  subst this
  rw [pairs_flat] at ho
  have hl : 0 < w.length := List.length_pos_iff.2 hn
  unfold unhexW
  rw [if_neg hw, if_neg (by omega), ho]
  exact ⟨rfl, rfl⟩
theorem unhex_stop (hw : ¬ w = [46]) (he : (w.length : Int) % 2 = 0) (hp : xs <+: pairsL w) (hg : goU xs = false) : [] = (unhexW w).getD [] ∧ false = (unhexW w).isSome := by
  unfold goU at hg
  have hn : unhexL xs.flatten = none := by simpa using hg
  have hall : unhexL w = none := by
    rw [← pairs_flat w]
    obtain ⟨t, ht⟩ := hp
    rw [← ht, List.flatten_append, unhexL_snoc _ _ (Nat.le_refl _) (flat_even fun y hy => pairs_len (s := w) (by omega) (by rw [← ht]; simp [hy])), hn]
    rfl
  unfold unhexW
  rw [if_neg hw]
  split
  · exact ⟨rfl, rfl⟩
  · rw [hall]; exact ⟨rfl, rfl⟩
theorem unhex_s1 (hw : ¬ w = [46]) (h : w = [] ∨ ¬ (w.length : Int) % 2 = 0) : [] = (unhexW w).getD [] ∧ false = (unhexW w).isSome := by
  unfold unhexW
  rw [if_neg hw, if_pos]
  · exact ⟨rfl, rfl⟩
  · rcases h with rfl | h
    · exact .inl (by decide)
    · exact .inr (by omega)
theorem pendU_0 (h : goU xs = true) : pendU xs = none := by unfold pendU; rw [if_pos h]
theorem pendU_1 (h : unhexL xs.flatten = none) : pendU xs = some .ret := by unfold pendU goU; rw [h]; rfl
theorem goU_1 (h : unhexL xs.flatten = none) : goU xs = false := by unfold goU; rw [h]; rfl
theorem goU_ok2 (hg : goU xs = true) (hx : ∀ y ∈ xs ++ [x], y.length = 2) (ha : x[(0 : Int).toNat]? = some a) (hb : x[(1 : Int).toNat]? = some b) (h1 : ¬ digN a < 0) (h2 : ¬ digN b < 0) : goU (xs ++ [x]) = true := by
  unfold goU at *
  rw [goU_ok hx ha hb h1 h2]
  rw [Option.isSome_map]
  exact hg
end
theorem orHex {a b : Int} (a0 : 0 ≤ a) (a1 : a < 16) (b0 : 0 ≤ b) (b1 : b < 16) : IntKind.wrap .i64 (((BitVec.ofInt (IntKind.bits .i64) (a * 16) ||| BitVec.ofInt (IntKind.bits .i64) b).toNat : Nat) : Int) = a * 16 + b := by
  have h : ∀ (x y : Fin 16), IntKind.wrap .i64 (((BitVec.ofInt (IntKind.bits .i64) (((x.val : Nat) : Int) * 16) ||| BitVec.ofInt (IntKind.bits .i64) ((y.val : Nat) : Int)).toNat : Nat) : Int) = ((x.val : Nat) : Int) * 16 + ((y.val : Nat) : Int) := by decide +kernel
  have := h ⟨a.toNat, by omega⟩ ⟨b.toNat, by omega⟩
  simp only [Int.toNat_of_nonneg a0, Int.toNat_of_nonneg b0] at this
  exact this
theorem shl4 {x : Int} (h0 : 0 ≤ x) (h1 : x < 16) : Value.int .i64 (IntKind.wrap .i64 (x * 2 ^ 4)) = .int .i64 (x * 16) := by
  rw [show x * 2 ^ 4 = x * 16 from rfl]
  exact wrapEq_i64 (by omega) (by omega)
theorem hexB_at {a b : UInt8} (h1 : ¬ digN a < 0) (h2 : ¬ digN b < 0) : (UInt8.ofNat (digN a * 16 + digN b : Int).toNat) = hexB a b := by
  unfold hexB
  rw [Int.mul_comm]
end Go.Proofs.YtmjebehhpojihaaGreatDoor.Sw
namespace Go.Proofs.YtmjebehhpojihaaGreatDoor.Sw
open Go
set_option maxRecDepth 100000
set_option linter.unusedVariables false
set_option linter.unusedSimpArgs false
set_option linter.deprecated false
theorem number (B : World) (h : Heap) (g : GH) (hg : Sub g h) (hG : Glob g) (w : List UInt8) (hw : w.length ≤ 1000000000) :
  Spec Tryz.prog B 106 #[.string (mkS w)] h g [] (fun rv g' L' => rv = .tuple #[.int .i64 ((numW w).getD 0), .bool ((numW w).isSome)] ∧ g' = g ∧ L' = []) := by
 refine Spec.at' Tryz.func106 ?_
 intro R hR
 have s0 := St.init hg
 refine At.go 1 2 [] ?_
 refine At.rp 3 1 [(7, .string (mkS w))] ?_
 refine Op.c1 8 (trimPre_spec _ _ _ s0.sub hG w ([45])  ) s0 ?_
 intro h20 s21
 refine Op.pg 2 [(4, .string (mkS (Lib.trimPrefix w ([45]))))] ?_
 refine At.rp 2 1 [(9, .string (mkS w))] ?_
 refine Op.vl 10 (.bool ((mkS w).toList == (mkS ([48])).toList)) (.bool (w == ([48]))) (by rw [toList_mkS, toList_mkS]) ?_
 refine Op.gt 3 ?_
 refine At.if' (w == ([48])) 10 4 6 (fun c24 => ?_) (fun c25 => ?_)
 ·replace c24 := eq_of_beq c24
  refine At.go 5 2 [(2, .int .i64 0), (3, .bool true)] ?_
  refine At.rt (.tuple #[.int .i64 0, .bool true]) ?_
  refine hR _ _ _ _ s21 ⟨?_, rfl, rfl⟩
  exact eqT2 (eqI (by exact (num_0 (by assumption)).1)) (eqB (by exact (num_0 (by assumption)).2))
 ·replace c25 := neF c25
  refine At.rp 17 1 [(11, .string (mkS (Lib.trimPrefix w ([45]))))] ?_
  refine Op.vl 12 (.bool ((mkS (Lib.trimPrefix w ([45]))).toList == (mkS []).toList)) (.bool ((Lib.trimPrefix w ([45])) == ([] : List UInt8))) (by rw [toList_mkS, toList_mkS]) ?_
  refine Op.px 1 [(13, .bool ((Lib.trimPrefix w ([45])) == ([] : List UInt8)))] ?_
  refine Op.wb ((Lib.trimPrefix w ([45])) == ([] : List UInt8)) 13 (fun c26 => ?_) (fun c27 => ?_)
  ·replace c26 := eq_of_beq c26
   refine Op.pg 7 [(27, .bool true)] ?_
   refine At.ifT 27 8 ?_
   refine At.go 9 2 [(2, .int .i64 0), (3, .bool false)] ?_
   refine At.rt (.tuple #[.int .i64 0, .bool false]) ?_
   refine hR _ _ _ _ s21 ⟨?_, rfl, rfl⟩
   exact eqT2 (eqI (by exact (num_bad (by assumption) (by rw [← trimPre1]; first | exact okD_e (by assumption) | exact okD_2 (by assumption) | exact okD_3 {hx0} (by assumption) | exact okD_no (by assumption))).1)) (eqB (by exact (num_bad (by assumption) (by rw [← trimPre1]; first | exact okD_e (by assumption) | exact okD_2 (by assumption) | exact okD_3 {hx0} (by assumption) | exact okD_no (by assumption))).2))
  ·replace c27 := neF c27
   refine Op.px 5 [(18, .bool (decide (((Lib.trimPrefix w ([45])).length : Int) > (9 : Int))))] ?_
   refine Op.wb (decide (((Lib.trimPrefix w ([45])).length : Int) > (9 : Int))) 18 (fun c28 => ?_) (fun c29 => ?_)
   ·replace c28 := of_decide_eq_true c28
    refine Op.pg 7 [(27, .bool true)] ?_
    refine At.ifT 27 8 ?_
    refine At.go 9 2 [(2, .int .i64 0), (3, .bool false)] ?_
    refine At.rt (.tuple #[.int .i64 0, .bool false]) ?_
    refine hR _ _ _ _ s21 ⟨?_, rfl, rfl⟩
    exact eqT2 (eqI (by exact (num_bad (by assumption) (by rw [← trimPre1]; first | exact okD_e (by assumption) | exact okD_2 (by assumption) | exact okD_3 {hx0} (by assumption) | exact okD_no (by assumption))).1)) (eqB (by exact (num_bad (by assumption) (by rw [← trimPre1]; first | exact okD_e (by assumption) | exact okD_2 (by assumption) | exact okD_3 {hx0} (by assumption) | exact okD_no (by assumption))).2))
   ·replace c29 := of_decide_eq_false c29
    refine Op.px 1 [(19, .string (mkS (Lib.trimPrefix w ([45]))))] ?_
    obtain ⟨x30, hx31⟩ := getAt (l := Lib.trimPrefix w ([45])) (i := 0) (by (have : (Lib.trimPrefix w [45]).length ≠ 0 := fun e => absurd (List.eq_nil_of_length_eq_zero e) (by assumption); omega))
    refine Op.si 9 (.tmp 19) (.const (.int .i64 0)) 20 (Lib.trimPrefix w ([45])) 0 (by omega) hx31 ?_
    refine Op.px 3 [(23, .bool ((x30.toNat : Int) == (48 : Int)))] ?_
    refine Op.wb ((x30.toNat : Int) == (48 : Int)) 23 (fun c32 => ?_) (fun c33 => ?_)
    ·replace c32 := eq_of_beq c32
     refine Op.pg 7 [(27, .bool true)] ?_
     refine At.ifT 27 8 ?_
     refine At.go 9 2 [(2, .int .i64 0), (3, .bool false)] ?_
     refine At.rt (.tuple #[.int .i64 0, .bool false]) ?_
     refine hR _ _ _ _ s21 ⟨?_, rfl, rfl⟩
     exact eqT2 (eqI (by exact (num_bad (by assumption) (by rw [← trimPre1]; first | exact okD_e (by assumption) | exact okD_2 (by assumption) | exact okD_3 hx31 (by assumption) | exact okD_no (by assumption))).1)) (eqB (by exact (num_bad (by assumption) (by rw [← trimPre1]; first | exact okD_e (by assumption) | exact okD_2 (by assumption) | exact okD_3 hx31 (by assumption) | exact okD_no (by assumption))).2))
    ·replace c33 := neF c33
     refine Op.px 1 [(24, .string (mkS (Lib.trimPrefix w ([45]))))] ?_
     refine Op.c1 25 (trim_spec _ _ _ s21.sub hG (Lib.trimPrefix w ([45])) ([48, 49, 50, 51, 52, 53, 54, 55, 56, 57]) (by ((try dsimp only) <;> (omega))) (by ((try dsimp only) <;> ((show (10 : Nat) < _; omega)))) (by ((try dsimp only) <;> (exact digs_128))) ) s21 ?_
     intro h34 s35
     refine Op.vl 26 (.bool (!((mkS (Lib.trimS (Lib.trimPrefix w ([45])) ([48, 49, 50, 51, 52, 53, 54, 55, 56, 57]))).toList == (mkS []).toList))) (.bool (!((Lib.trimS (Lib.trimPrefix w ([45])) ([48, 49, 50, 51, 52, 53, 54, 55, 56, 57])) == ([] : List UInt8)))) (by rw [toList_mkS, toList_mkS]) ?_
     refine Op.pg 7 [(27, .bool (!((Lib.trimS (Lib.trimPrefix w ([45])) ([48, 49, 50, 51, 52, 53, 54, 55, 56, 57])) == ([] : List UInt8))))] ?_
     refine At.if' (!((Lib.trimS (Lib.trimPrefix w ([45])) ([48, 49, 50, 51, 52, 53, 54, 55, 56, 57])) == ([] : List UInt8))) 27 8 10 (fun c38 => ?_) (fun c39 => ?_)
     ·replace c38 := neF (notT c38)
      refine At.go 9 2 [(2, .int .i64 0), (3, .bool false)] ?_
      refine At.rt (.tuple #[.int .i64 0, .bool false]) ?_
      refine hR _ _ _ _ s35 ⟨?_, rfl, rfl⟩
      exact eqT2 (eqI (by exact (num_bad (by assumption) (by rw [← trimPre1]; first | exact okD_e (by assumption) | exact okD_2 (by assumption) | exact okD_3 hx31 (by assumption) | exact okD_no (by assumption))).1)) (eqB (by exact (num_bad (by assumption) (by rw [← trimPre1]; first | exact okD_e (by assumption) | exact okD_2 (by assumption) | exact okD_3 hx31 (by assumption) | exact okD_no (by assumption))).2))
     ·replace c39 := eq_of_beq (notF c39)
      refine At.rp 7 1 [(29, .string (mkS w))] ?_
      refine Op.c1 30 (atoiW_spec _ _ _ s35.sub hG w (by ((try dsimp only) <;> (omega))) (by ((try dsimp only) <;> ((exact (by rw [← trimPre1]; exact okD_all (by assumption) (by assumption) hx31 (by assumption) (by assumption)))))) ) s35 ?_
      intro h40 s41
      refine Op.pg 11 [(5, .int .i64 ((numW w).getD 0)), (6, .nilIface)] ?_
      refine At.draw (by kernel_rfl) (fun _ => False) [(0, true), (1, true), (2, true), (3, true), (4, true)] (by kernel_rfl) ?_
      refine Op.pg 12 [(2, .int .i64 ((numW w).getD 0)), (3, .bool true)] ?_
      refine At.rt (.tuple #[.int .i64 ((numW w).getD 0), .bool true]) ?_
      refine hR _ _ _ _ s41 ⟨?_, rfl, rfl⟩
      exact eqT2 (eqI (by rfl)) (eqB (by exact num_is (by assumption) (by rw [← trimPre1]; exact okD_all (by assumption) (by assumption) hx31 (by assumption) (by assumption))))
theorem rolesS (B : World) (h : Heap) (g : GH) (hg : Sub g h) (hG : Glob g)   :
  Spec Tryz.prog B 134 #[] h g [] (fun rv g' L' => ∃ v0 k0, rv = v0 ∧ Row 9 kStr g' v0 rolesL k0 ∧ g' = g ∧ L' = [k0]) := by
 refine Spec.at' Tryz.func134 ?_
 intro R hR
 have s0 := St.init hg
 refine At.go 1 1 [] ?_
 refine At.rg 2 ?_
 refine Op.lit (T := 54) (len := 5) (parts := #[(1, (.const (.string (mkS ([107, 101, 101, 112, 101, 114]))))), (2, (.const (.string (mkS ([111, 114, 100, 101, 114, 101, 114]))))), (3, (.const (.string (mkS ([100, 111, 101, 114]))))), (4, (.const (.string (mkS ([112, 101, 101, 114])))))]) (dst := 1) (E := 9) (ps := [(1, .string (mkS ([107, 101, 101, 112, 101, 114]))), (2, .string (mkS ([111, 114, 100, 101, 114, 101, 114]))), (3, .string (mkS ([100, 111, 101, 114]))), (4, .string (mkS ([112, 101, 101, 114])))]) (cs := #[.string (mkS []), .string (mkS ([107, 101, 101, 112, 101, 114])), .string (mkS ([111, 114, 100, 101, 114, 101, 114])), .string (mkS ([100, 111, 101, 114])), .string (mkS ([112, 101, 101, 114]))]) (by kernel_rfl) (by kernel_rfl) (by kernel_rfl) s0 ?_
 intro b20 h21 s22
 refine Op.pg 2 [(0, .slice (some ⟨b20, 0, none⟩) 5 5)] ?_
 have R23 : Row 9 kStr g (.slice (some ⟨b20, 0, none⟩) 5 5) [[], [107, 101, 101, 112, 101, 114], [111, 114, 100, 101, 114, 101, 114], [100, 111, 101, 114], [112, 101, 101, 114]] [(b20, Obj.cells #[.string (mkS []), .string (mkS ([107, 101, 101, 112, 101, 114])), .string (mkS ([111, 114, 100, 101, 114, 101, 114])), .string (mkS ([100, 111, 101, 114])), .string (mkS ([112, 101, 101, 114]))] 9 (0, 0))] := Row.lit (by kernel_rfl) (by unfold maxLen; decide) (by kernel_rfl) ⟨_, _, rfl, rfl, ⟨_, _, rfl, rfl, ⟨_, _, rfl, rfl, ⟨_, _, rfl, rfl, ⟨_, _, rfl, rfl, Reads.nil⟩⟩⟩⟩⟩
 refine At.rt (.slice (some ⟨b20, 0, none⟩) 5 5) ?_
 refine hR _ _ _ _ s22 ⟨(.slice (some ⟨b20, 0, none⟩) 5 5), [(b20, Obj.cells #[.string (mkS []), .string (mkS ([107, 101, 101, 112, 101, 114])), .string (mkS ([111, 114, 100, 101, 114, 101, 114])), .string (mkS ([100, 111, 101, 114])), .string (mkS ([112, 101, 101, 114]))] 9 (0, 0))], ?_, ?_, rfl, rfl⟩
 ·exact rfl
 ·exact rowEq R23 (by rfl)
theorem indexS (B : World) (h : Heap) (g : GH) (hg : Sub g h) (hG : Glob g) (v_s : Value) (s : List (List UInt8)) (h_s : SlR g 9 kStr v_s s) (v : List UInt8) (h1 : s.length ≤ 1000000) :
  Spec Tryz.prog B 133 #[v_s, .string (mkS v)] h g [] (fun rv g' L' => rv = .int .i64 (idxL s v) ∧ g' = g ∧ L' = []) := by
 obtain ⟨a_s, n_s, rfl⟩ := h_s.form
 refine Spec.at' Tryz.func133 ?_
 intro R hR
 have s0 := St.init hg
 refine At.go 1 1 [] ?_
 refine At.go 2 3 [(7, .int .i64 (s.length : Int)), (8, .int .i64 0)] ?_
 have loop2 : ∀ (m : Nat) (i : Int) (h21 : Heap) (hm : s.length - i.toNat < m) (h0 : 0 ≤ i) (hi : i ≤ s.length) (hI : idxI s v i)     (s20 : St h g (ids []) g [] h21), At (fctx Tryz.prog B 133 Tryz.f133 R) [] 2 [(0, .slice a_s s.length n_s), (1, .string (mkS v)), (7, .int .i64 (s.length : Int)), (8, .int .i64 i)] h21 := by
  intro m; induction m with
  | zero => intros; omega
  | succ m ih2 =>
   intro i h21 hm h0 hi hI s20
   refine At.go 3 1 [(9, .bool (decide (i < (s.length : Int))))] ?_
   refine At.if' (decide (i < (s.length : Int))) 9 4 10 (fun c22 => ?_) (fun c23 => ?_)
   ·replace c22 := of_decide_eq_true c22
    refine At.go 5 2 [(5, .int .i64 i)] ?_
    refine At.rp 6 3 [(11, .string (mkS v)), (12, .slice a_s s.length n_s), (13, .int .i64 i)] ?_
    obtain ⟨x24, hx25⟩ := getAt (l := s) (i := i) (by omega)
    obtain ⟨b26, o27, cu28, fz29, ha30, hb31, hk32⟩ := SlR.at_ h_s _ hx25
    cases ha30
    refine Op.ix 54 9 1 16 s.length n_s (.tmp 12) (.tmp 13) 14 b26 o27 i (by omega) (by omega) ?_
    replace hk32 : cut _ _ _ = [.string (mkS x24)] := hk32
    refine Op.ld (n := 1) 9 (.tmp 14) 15 (o27 + (i : Int).toNat * 1) (.string (mkS x24)) (s20.sub _ _ hb31) ?_ (hv := (cut_get hk32 0 rfl))
    refine Op.vl 16 (.bool ((mkS v).toList == (mkS x24).toList)) (.bool (v == x24)) (by rw [toList_mkS, toList_mkS]) ?_
    refine Op.gt 6 ?_
    refine At.if' (v == x24) 16 7 9 (fun c33 => ?_) (fun c34 => ?_)
    ·replace c33 := eq_of_beq c33
     refine At.go 8 2 [(4, .int .i64 i)] ?_
     refine At.rt (.int .i64 i) ?_
     refine hR _ _ _ _ s20 ⟨?_, rfl, rfl⟩
     exact (eqI (by exact idxI_hit hI h0 hx25 (by assumption)))
    ·replace c34 := neF c34
     refine At.rg 2 ?_
     refine Op.v64 18 (i + 1) (by omega) (by omega) ?_
     refine Op.pg 2 [(8, .int .i64 (i + 1))] ?_
     refine At.kp [(0, .slice (some ⟨b26, o27, none⟩) s.length n_s), (1, .string (mkS v)), (7, .int .i64 (s.length : Int)), (8, .int .i64 (i + 1))] ?_
     exact ih2  (i + 1) _ (by omega) (by omega) (by omega) (by exact idxI_step hI h0 hx25 (by assumption))  s20
   ·replace c23 := of_decide_eq_false c23
    refine At.go 11 1 [(4, .int .i64 (-1))] ?_
    refine At.rt (.int .i64 (-1)) ?_
    refine hR _ _ _ _ s20 ⟨?_, rfl, rfl⟩
    exact (eqI (by exact idxI_end hI (by assumption)))
 refine At.kp [(0, .slice a_s s.length n_s), (1, .string (mkS v)), (7, .int .i64 (s.length : Int)), (8, .int .i64 0)] ?_
 exact loop2 _  0 _ (Nat.lt_succ_self _) (by omega) (by omega) (by exact idxI_0 _ _)  s0
theorem hexS_ (B : World) (h : Heap) (g : GH) (hg : Sub g h) (hG : Glob g) (v_b : Value) (b : List UInt8) (h_b : SlR g 5 kU8 v_b b) (hb : b.length ≤ 100000000) :
  Spec Tryz.prog B 118 #[v_b] h g [] (fun rv g' L' => rv = .string (mkS (b9 b)) ∧ g' = g ∧ L' = []) := by
 obtain ⟨a_b, n_b, rfl⟩ := h_b.form
 refine Spec.at' Tryz.func118 ?_
 intro R hR
 have s0 := St.init hg
 refine At.go 1 1 [] ?_
 refine At.rp 5 2 [(7, .int .i64 (b.length : Int))] ?_
 refine Op.v64 8 ((2 : Int) * (b.length : Int)) (by omega) (by omega) ?_
 refine Op.makeB (T := 29) (E := 5) (x := (.const (.int .i64 0))) (y := (.tmp 8)) (dst := 9) (c := (2 : Int) * (b.length : Int)) (by kernel_rfl) (by kernel_rfl) (by kernel_rfl) (by kernel_rfl) (by kernel_rfl) (by omega) (by omega) s0 ?_
 intro b20 ch21 h22 R23 s24
 refine Op.pg 2 [(3, .slice (some ⟨b20, 0, none⟩) 0 (((2 : Int) * (b.length : Int) : Int).toNat))] ?_
 refine At.go 3 3 [(10, .slice a_b b.length n_b), (11, .int .i64 (b.length : Int)), (12, .int .i64 0)] ?_
 have loop3 : ∀ (m : Nat) (out : List UInt8) (i : Int) (a25 : Option Addr) (n26 : Nat) (ch27 : Chunk) (h30 : Heap) (hm : b.length - i.toNat < m) (h0 : 0 ≤ i) (h2 : i ≤ b.length) (ho : out = (b.take i.toNat).flatMap fun c => [hexC (c.toNat / 16), hexC (c.toNat % 16)]) (R28 : Row 5 kU8 g (.slice a25 out.length n26) out ch27)    (s29 : St h g (ids []) g [ch27] h30), At (fctx Tryz.prog B 118 Tryz.f118 R) [] 3 [(3, .slice a25 out.length n26), (10, .slice a_b b.length n_b), (11, .int .i64 (b.length : Int)), (12, .int .i64 i)] h30 := by
  intro m; induction m with
  | zero => intros; omega
  | succ m ih3 =>
   intro out i a25 n26 ch27 h30 hm h0 h2 ho R28 s29
   refine At.go 4 1 [(13, .bool (decide (i < (b.length : Int))))] ?_
   refine At.if' (decide (i < (b.length : Int))) 13 5 8 (fun c31 => ?_) (fun c32 => ?_)
   ·replace c31 := of_decide_eq_true c31
    refine At.rg 3 ?_
    obtain ⟨x33, hx34⟩ := getAt (l := b) (i := i) (by omega)
    obtain ⟨b35, o36, cu37, fz38, ha39, hb40, hk41⟩ := SlR.at_ h_b _ hx34
    cases ha39
    refine Op.ix 29 5 1 1 b.length n_b (.tmp 10) (.tmp 12) 14 b35 o36 i (by omega) (by omega) ?_
    replace hk41 : cut _ _ _ = [.int .u8 (x33.toNat : Int)] := hk41
    refine Op.ld (n := 1) 5 (.tmp 14) 15 (o36 + (i : Int).toNat * 1) (.int .u8 (x33.toNat : Int)) (s29.sub _ _ hb40) ?_ (hv := (cut_get hk41 0 rfl))
    refine Op.pg 6 [(5, .int .u8 (x33.toNat : Int))] ?_
    refine At.draw (by kernel_rfl) (fun _ => False) [(0, true), (1, true), (2, true), (3, true), (4, true), (5, true), (6, true), (7, false), (1008, false), (8, false), (9, true)] (by kernel_rfl) ?_
    refine Op.px 2 [(16, .slice a25 out.length n26), (17, .int .u8 (x33.toNat : Int))] ?_
    refine Op.vl 18 (.int .u8 (Int.fdiv (x33.toNat : Int) (2 ^ 4))) (.int .u8 ((x33.toNat : Int) / 16)) (shrEq _ _ _ rfl (by decide)) ?_
    obtain ⟨x42, hx43⟩ := getAt (l := ([48, 49, 50, 51, 52, 53, 54, 55, 56, 57, 97, 98, 99, 100, 101, 102] : List UInt8)) (i := (x33.toNat : Int) / 16) (by (have := UInt8.toNat_lt x33; simp only [List.length_cons, List.length_nil]; omega))
    refine Op.strIdx (T := 9) (k := .u8) (x := (.const (.string (mkS ([48, 49, 50, 51, 52, 53, 54, 55, 56, 57, 97, 98, 99, 100, 101, 102]))))) (ix := (.tmp 18)) (dst := 19) (l := [48, 49, 50, 51, 52, 53, 54, 55, 56, 57, 97, 98, 99, 100, 101, 102]) (n := (x33.toNat : Int) / 16) (by kernel_rfl) (by kernel_rfl) (by kernel_rfl) (by kernel_rfl) (by omega) hx43 ?_
    refine Op.px 1 [(20, .int .u8 (x33.toNat : Int))] ?_
    refine Op.vl 21 (.int .u8 (IntKind.wrap .u8 (((BitVec.ofInt (IntKind.bits .u8) (x33.toNat : Int) &&& BitVec.ofInt (IntKind.bits .u8) (15 : Int)).toNat : Nat) : Int))) (.int .u8 ((x33.toNat % 16 : Nat) : Int)) (by rw [and15]) ?_
    obtain ⟨x44, hx45⟩ := getAt (l := ([48, 49, 50, 51, 52, 53, 54, 55, 56, 57, 97, 98, 99, 100, 101, 102] : List UInt8)) (i := ((x33.toNat % 16 : Nat) : Int)) (by (have := UInt8.toNat_lt x33; simp only [List.length_cons, List.length_nil]; omega))
    refine Op.strIdx (T := 9) (k := .u8) (x := (.const (.string (mkS ([48, 49, 50, 51, 52, 53, 54, 55, 56, 57, 97, 98, 99, 100, 101, 102]))))) (ix := (.tmp 21)) (dst := 22) (l := [48, 49, 50, 51, 52, 53, 54, 55, 56, 57, 97, 98, 99, 100, 101, 102]) (n := ((x33.toNat % 16 : Nat) : Int)) (by kernel_rfl) (by kernel_rfl) (by kernel_rfl) (by kernel_rfl) (by omega) hx45 ?_
    refine Op.lit (T := 29) (len := 2) (parts := #[(0, (.tmp 19)), (1, (.tmp 22))]) (dst := 23) (E := 5) (ps := [(0, .int .u8 (x42.toNat : Int)), (1, .int .u8 (x44.toNat : Int))]) (cs := #[.int .u8 (x42.toNat : Int), .int .u8 (x44.toNat : Int)]) (by kernel_rfl) (by kernel_rfl) (by kernel_rfl) s29 ?_
    intro b46 h47 s48
    refine Op.barrier (by kernel_rfl) ?_
    refine Op.append (x := (.tmp 16)) (y := (.tmp 23)) (t := 29) (t' := 29) (dst := 24) (E := 5) (by_ := 1) (d := kU8) (by kernel_rfl) (by kernel_rfl) (by kernel_rfl) (by kernel_rfl) rfl R28 s48 1 rfl (Src.lit (m := 2) (sz := 1) (s48.chunk 0 rfl) (news := [.int .u8 (x42.toNat : Int), .int .u8 (x44.toNat : Int)]) rfl rfl (by simp [Value.oneCell']) _) (ys := [x42, x44]) (⟨_, _, rfl, rfl, ⟨_, _, rfl, rfl, Reads.nil⟩⟩) rfl (by (have := hexI_len ho; simp only [List.length_cons, List.length_nil]; omega)) (fun _ _ _ => trivial) ?_
    intro v49 ch50 h51 R52 s53 nn54
    obtain ⟨a55, n56, rfl⟩ := R52.form
    have s57 := (s53.front 0 rfl).drop
    refine Op.pg 7 [(3, .slice a55 ((out ++ ([x42, x44])).length) n56)] ?_
    refine At.rg 2 ?_
    refine Op.v64 25 (i + 1) (by omega) (by omega) ?_
    refine Op.pg 3 [(12, .int .i64 (i + 1))] ?_
    refine At.kp [(3, .slice a55 ((out ++ ([x42, x44])).length) n56), (10, .slice (some ⟨b35, o36, none⟩) b.length n_b), (11, .int .i64 (b.length : Int)), (12, .int .i64 (i + 1))] ?_
    exact ih3  (out ++ ([x42, x44])) (i + 1) _ _ _ _ (by omega) (by omega) (by omega) (by exact hexI_step ho h0 hx34 (hexC_at (by omega) hx43) (hexC_at rfl hx45)) R52 s57
   ·replace c32 := of_decide_eq_false c32
    refine At.rp 3 1 [(26, .slice a25 out.length n26)] ?_
    refine Op.ofBytes (T := 29) (S := 9) (E := 5) (x := (.tmp 26)) (dst := 27) (l := out) (by kernel_rfl) (by kernel_rfl) (by kernel_rfl) (by kernel_rfl) (by kernel_rfl) (R28.toH s29 0 rfl) ?_
    refine Op.pg 9 [(2, .string (mkS out))] ?_
    refine At.rt (.string (mkS out)) ?_
    have s58 := s29.drop
    refine hR _ _ _ _ s58 ⟨?_, rfl, rfl⟩
    exact (eqS (by exact b9_end ho (by assumption)))
 refine At.kp [(3, .slice (some ⟨b20, 0, none⟩) 0 (((2 : Int) * (b.length : Int) : Int).toNat)), (10, .slice a_b b.length n_b), (11, .int .i64 (b.length : Int)), (12, .int .i64 0)] ?_
 exact loop3 _  ([] : List UInt8) 0 _ _ _ _ (Nat.lt_succ_self _) (by omega) (by omega) (by rfl) R23 s24
theorem hexScr (B : World) (h : Heap) (g : GH) (hg : Sub g h) (hG : Glob g) (v_b : Value) (b : List UInt8) (h_b : SlR g 5 kU8 v_b b) (hb : b.length ≤ 100000000) :
  Spec Tryz.prog B 69 #[v_b] h g [] (fun rv g' L' => rv = .string (mkS (hexW b)) ∧ g' = g ∧ L' = []) := by
 obtain ⟨a_b, n_b, rfl⟩ := h_b.form
 refine Spec.at' Tryz.func69 ?_
 intro R hR
 have s0 := St.init hg
 refine At.go 1 1 [] ?_
 refine At.go 2 3 [(5, .bool ((b.length : Int) == (0 : Int)))] ?_
 refine At.if' ((b.length : Int) == (0 : Int)) 5 3 5 (fun c20 => ?_) (fun c21 => ?_)
 ·replace c20 := eq_of_beq c20
  refine At.go 4 1 [(2, .string (mkS ([46])))] ?_
  refine At.rt (.string (mkS ([46]))) ?_
  refine hR _ _ _ _ s0 ⟨?_, rfl, rfl⟩
  exact (eqS (by exact hexW_0 (by assumption)))
 ·replace c21 := neF c21
  refine At.rp 3 1 [(6, .slice a_b b.length n_b)] ?_
  refine Op.c1 7 (hexS_ _ _ _ s0.sub hG _ _ h_b (by ((try dsimp only) <;> (omega))) ) s0 ?_
  intro h22 s23
  refine Op.pg 6 [(2, .string (mkS (b9 b)))] ?_
  refine At.rt (.string (mkS (b9 b))) ?_
  refine hR _ _ _ _ s23 ⟨?_, rfl, rfl⟩
  exact (eqS (by exact b9_hex (by assumption)))
theorem at_who (B : World) (h : Heap) (g : GH) (hg : Sub g h) (hG : Glob g) (b_s : Nat)  :
  Spec Tryz.prog B 93 #[.pointer (some ⟨b_s, 0, none⟩)] h g [] (fun rv g' L' => rv = .pointer (some ⟨b_s, 4, none⟩) ∧ g' = g ∧ L' = []) := by
 refine Spec.at' Tryz.func93 ?_
 intro R hR
 have s0 := St.init hg
 refine At.go 1 1 [] ?_
 refine At.go 2 5 [(2, .pointer (some ⟨b_s, 4, none⟩))] ?_
 refine At.rt (.pointer (some ⟨b_s, 4, none⟩)) ?_
 refine hR _ _ _ _ s0 ⟨?_, rfl, rfl⟩
 exact rfl
theorem at_n (B : World) (h : Heap) (g : GH) (hg : Sub g h) (hG : Glob g) (b_s : Nat)  :
  Spec Tryz.prog B 95 #[.pointer (some ⟨b_s, 0, none⟩)] h g [] (fun rv g' L' => rv = .pointer (some ⟨b_s, 5, none⟩) ∧ g' = g ∧ L' = []) := by
 refine Spec.at' Tryz.func95 ?_
 intro R hR
 have s0 := St.init hg
 refine At.go 1 1 [] ?_
 refine At.go 2 5 [(2, .pointer (some ⟨b_s, 5, none⟩))] ?_
 refine At.rt (.pointer (some ⟨b_s, 5, none⟩)) ?_
 refine hR _ _ _ _ s0 ⟨?_, rfl, rfl⟩
 exact rfl
theorem at_to (B : World) (h : Heap) (g : GH) (hg : Sub g h) (hG : Glob g) (b_s : Nat)  :
  Spec Tryz.prog B 96 #[.pointer (some ⟨b_s, 0, none⟩)] h g [] (fun rv g' L' => rv = .pointer (some ⟨b_s, 1, none⟩) ∧ g' = g ∧ L' = []) := by
 refine Spec.at' Tryz.func96 ?_
 intro R hR
 have s0 := St.init hg
 refine At.go 1 1 [] ?_
 refine At.go 2 4 [(2, .pointer (some ⟨b_s, 1, none⟩))] ?_
 refine At.rt (.pointer (some ⟨b_s, 1, none⟩)) ?_
 refine hR _ _ _ _ s0 ⟨?_, rfl, rfl⟩
 exact rfl
theorem at_k (B : World) (h : Heap) (g : GH) (hg : Sub g h) (hG : Glob g) (b_s : Nat)  :
  Spec Tryz.prog B 97 #[.pointer (some ⟨b_s, 0, none⟩)] h g [] (fun rv g' L' => rv = .pointer (some ⟨b_s, 2, none⟩) ∧ g' = g ∧ L' = []) := by
 refine Spec.at' Tryz.func97 ?_
 intro R hR
 have s0 := St.init hg
 refine At.go 1 1 [] ?_
 refine At.go 2 4 [(2, .pointer (some ⟨b_s, 2, none⟩))] ?_
 refine At.rt (.pointer (some ⟨b_s, 2, none⟩)) ?_
 refine hR _ _ _ _ s0 ⟨?_, rfl, rfl⟩
 exact rfl
theorem at_power (B : World) (h : Heap) (g : GH) (hg : Sub g h) (hG : Glob g) (b_s : Nat)  :
  Spec Tryz.prog B 98 #[.pointer (some ⟨b_s, 0, none⟩)] h g [] (fun rv g' L' => rv = .pointer (some ⟨b_s, 3, none⟩) ∧ g' = g ∧ L' = []) := by
 refine Spec.at' Tryz.func98 ?_
 intro R hR
 have s0 := St.init hg
 refine At.go 1 1 [] ?_
 refine At.go 2 4 [(2, .pointer (some ⟨b_s, 3, none⟩))] ?_
 refine At.rt (.pointer (some ⟨b_s, 3, none⟩)) ?_
 refine hR _ _ _ _ s0 ⟨?_, rfl, rfl⟩
 exact rfl
end Go.Proofs.YtmjebehhpojihaaGreatDoor.Sw
namespace Go.Proofs.YtmjebehhpojihaaGreatDoor.Sw
open Go
set_option maxRecDepth 100000
set_option linter.unusedVariables false
set_option linter.unusedSimpArgs false
set_option linter.deprecated false
theorem chunk_seq (g0 : GH) (b_s : Nat) (v_s : Value) (s : List UInt8) (hb_s : g0 b_s = some (.cells #[v_s] 29 (0, 0))) (h_s : SlR g0 5 kU8 v_s s) (b_n : Nat) (hb_n : g0 b_n = some (.cells #[.int .i64 2] 3 (0, 0))) (hlen : s.length ≤ 1000000000) : SeqOk Tryz.prog g0 163 #[.pointer (some ⟨b_s, 0, none⟩), .pointer (some ⟨b_n, 0, none⟩)] enB (fun full => full = pairsL s) := by
 intro B h g l I go c hgg hg hG hY hgo0 hI0 hs
 obtain ⟨a_s, n_s, rfl⟩ := h_s.form
 replace hb_s := hgg _ _ hb_s
 replace h_s := h_s.mono hgg
 replace hb_n := hgg _ _ hb_n
 refine Spec.at' Tryz.func163 ?_
 intro R hR
 refine At.go 1 1 [(4, .int .i64 0)] ?_
 have loop1 : ∀ (m : Nat) (g23 : GH) (hleg23 : gle g g23) (i : Int) (c1 : Chunk) (h22 : Heap) (hm : (s.length + 2 - i.toNat) < m) (h0 : 0 ≤ i) (he : i % 2 = 0) (h1 : i ≤ (s.length : Int) + 1) (hgo : go (chI s i) = true) (hpre : pre1 go (chI s i))    (hI20 : I (chI s i) g23 c1) (s21 : St h g (ids [c]) g23 [c1] h22), At (fctx Tryz.prog B 163 Tryz.f163 R) [] 1 [(0, .func (.yield l) #[] #[]), (1, .pointer (some ⟨b_s, 0, none⟩)), (2, .pointer (some ⟨b_n, 0, none⟩)), (4, .int .i64 i)] h22 := by
  intro m; induction m with
  | zero => intros; omega
  | succ m ih1 =>
   intro g23 hleg23 i c1 h22 hm h0 he h1 hgo hpre hI20 s21
   replace hG := hG.mono hleg23
   replace hY := hY.mono hleg23
   replace h_s := h_s.mono hleg23
   replace hb_s := hleg23 _ _ hb_s
   replace hb_n := hleg23 _ _ hb_n
   refine At.rp 4 1 [(6, .int .i64 i)] ?_
   refine Op.ld (n := 1) 29 (.tmp 1) 7 0 (.slice a_s s.length n_s) (s21.sub _ _ hb_s) ?_
   refine Op.pg 2 [(9, .bool (decide (i < (s.length : Int))))] ?_
   refine At.if' (decide (i < (s.length : Int))) 9 3 8 (fun c24 => ?_) (fun c25 => ?_)
   ·replace c24 := of_decide_eq_true c24
    refine At.draw (by kernel_rfl) (fun _ => False) [(2, true), (0, true), (1, false), (3, true), (4, true), (5, true), (6, true)] (by kernel_rfl) ?_
    refine Op.px 1 [(15, .int .i64 i)] ?_
    refine Op.loadF (T := 3) (x := (.tmp 2)) (o := 0) (d := 13) (n := 1) (v := .int .i64 2) (by kernel_rfl) (by kernel_rfl) (by kernel_rfl) (fun h => h) (s21.sub _ _ hb_n) (by kernel_rfl) ?_
    refine Op.ld (n := 1) 29 (.tmp 1) 14 0 (.slice a_s s.length n_s) (s21.sub _ _ hb_s) ?_
    refine Op.slLoD (T := 29) (E := 5) (by_ := 1) (x := (.tmp 14)) (ao := a_s) (n := s.length) (c := n_s) (dst := 16) (d := kU8) (lo := (.tmp 15)) (k := .i64) (m := i) (by kernel_rfl) (by kernel_rfl) (by kernel_rfl) (by kernel_rfl) h_s (by omega) (by omega) ?_
    intro v26 hr27
    obtain ⟨a28, n29, rfl⟩ := hr27.form
    refine Op.px 1 [(17, .int .i64 ((s.drop (i : Int).toNat).length : Int))] ?_
    refine Op.vl 18 (.int .i64 (if ((s.drop (i : Int).toNat).length : Int) < (2 : Int) then ((s.drop (i : Int).toNat).length : Int) else (2 : Int))) (.int .i64 (min (2 : Int) ((s.drop (i : Int).toNat).length : Int))) (minEq _ _) ?_
    refine Op.pg 4 [(5, .int .i64 (min (2 : Int) ((s.drop (i : Int).toNat).length : Int)))] ?_
    refine At.rp 12 1 [(19, .func (.yield l) #[] #[])] ?_
    refine Op.ld (n := 1) 29 (.tmp 1) 20 0 (.slice a_s s.length n_s) (s21.sub _ _ hb_s) ?_
    refine Op.px 3 [(21, .int .i64 i), (22, .int .i64 i), (23, .int .i64 (min (2 : Int) ((s.drop (i : Int).toNat).length : Int)))] ?_
    refine Op.v64 24 (i + (min (2 : Int) ((s.drop (i : Int).toNat).length : Int))) (by omega) (by omega) ?_
    refine Op.px 2 [(25, .int .i64 i), (26, .int .i64 (min (2 : Int) ((s.drop (i : Int).toNat).length : Int)))] ?_
    refine Op.v64 27 (i + (min (2 : Int) ((s.drop (i : Int).toNat).length : Int))) (by omega) (by omega) ?_
    refine Op.slMaxD (T := 29) (E := 5) (by_ := 1) (x := (.tmp 20)) (ao := a_s) (n := s.length) (c := n_s) (dst := 28) (d := kU8) (lo := (.tmp 21)) (hi := (.tmp 24)) (mx := (.tmp 27)) (k := .i64) (k' := .i64) (k'' := .i64) (m := i) (m' := i + (min (2 : Int) ((s.drop (i : Int).toNat).length : Int))) (by kernel_rfl) (by kernel_rfl) (by kernel_rfl) (by kernel_rfl) (by kernel_rfl) (by kernel_rfl) h_s (by omega) (by omega) (by (simp only [List.length_drop]; omega)) ?_
    intro v30 hr31
    obtain ⟨a32, n33, rfl⟩ := hr31.form
    refine Op.yield (dst := some 29) (x := (.tmp 19)) (ops := #[(.tmp 28)]) (ts := #[29]) (l := l) (args := #[.slice a32 (((s.take (i + (min (2 : Int) ((s.drop (i : Int).toNat).length : Int)) : Int).toNat).drop (i : Int).toNat).length) n33]) (Lc := [c1]) (L := []) (by kernel_rfl) (by kernel_rfl) (by kernel_rfl) s21 (hY _ _ (chI s i) ((s.take (i + (min (2 : Int) ((s.drop (i : Int).toNat).length : Int)) : Int).toNat).drop (i : Int).toNat) _ _ (by repeat (first | assumption | exact gle.refl _ | apply gle.trans)) hG (by exact hgo) (by exact ⟨_, rfl, by assumption⟩) ⟨pairsL s, by rfl, by (rw [← ch_step s h0 he]; exact ch_pre h0 he (by assumption))⟩ hI20 (St.part (Lc := [c1]) (L := []) s21)) (fun _ _ _ => trivial) ?_
    rintro _ g35 _ h36 hle37 s38 ⟨c39, rfl, rfl, hI40⟩
    replace hG := hG.mono hle37
    replace hY := hY.mono hle37
    replace h_s := h_s.mono hle37
    replace hr31 := hr31.mono hle37
    replace hb_s := hle37 _ _ hb_s
    replace hb_n := hle37 _ _ hb_n
    refine Op.pg 5 [(30, .bool (!(go (chI s i ++ [(s.take (i + (min (2 : Int) ((s.drop (i : Int).toNat).length : Int)) : Int).toNat).drop (i : Int).toNat]))))] ?_
    refine At.if' (!(go (chI s i ++ [(s.take (i + (min (2 : Int) ((s.drop (i : Int).toNat).length : Int)) : Int).toNat).drop (i : Int).toNat]))) 30 6 7 (fun c42 => ?_) (fun c43 => ?_)
    ·replace c42 := (notT c42)
     refine At.rt (.tuple #[]) ?_
     refine hR _ _ _ _ s38 ⟨pairsL s, chI s i ++ [(s.take (i + (min (2 : Int) ((s.drop (i : Int).toNat).length : Int)) : Int).toNat).drop (i : Int).toNat], c39, rfl, by rfl, by (rw [← ch_step s h0 he]; exact ch_pre h0 he (by assumption)), by exact fun h => absurd h (Bool.eq_false_iff.1 (by assumption)), by exact pre_step hpre hgo, rfl, hI40⟩
    ·replace c43 := (notF c43)
     refine At.rp 4 1 [(10, .int .i64 i)] ?_
     refine Op.ld (n := 1) 3 (.tmp 2) 11 0 (.int .i64 2) (s38.sub _ _ hb_n) ?_
     refine Op.v64 12 (i + 2) (by omega) (by omega) ?_
     refine Op.pg 1 [(4, .int .i64 (i + 2))] ?_
     refine At.kp [(0, .func (.yield l) #[] #[]), (1, .pointer (some ⟨b_s, 0, none⟩)), (2, .pointer (some ⟨b_n, 0, none⟩)), (4, .int .i64 (i + 2))] ?_
     exact ih1 _ (gle.trans hleg23 (by repeat (first | assumption | apply gle.trans))) (i + 2) c39 _ (by omega) (by omega) (by omega) (by omega) (by rw [ch_step s h0 he]; assumption) (by rw [ch_step s h0 he]; exact pre_step hpre hgo) (by rw [ch_step s h0 he]; exact hI40) s38
   ·replace c25 := of_decide_eq_false c25
    refine At.rt (.tuple #[]) ?_
    refine hR _ _ _ _ s21 ⟨(chI s i), chI s i, c1, rfl, by exact ch_end he (by assumption) h1, by exact List.prefix_refl _, by exact fun _ => rfl, by exact hpre, rfl, hI20⟩
 refine At.kp [(0, .func (.yield l) #[] #[]), (1, .pointer (some ⟨b_s, 0, none⟩)), (2, .pointer (some ⟨b_n, 0, none⟩)), (4, .int .i64 0)] ?_
 exact loop1 _ _ (gle.refl _) 0 c _ (Nat.lt_succ_self _) (by omega) (by omega) (by omega) (by rw [ch_0]; exact hgo0) (by rw [ch_0]; exact pre_0 go) (by rw [ch_0]; exact hI0) hs
theorem chunkF (B : World) (h : Heap) (g : GH) (hg : Sub g h) (hG : Glob g) (v_s : Value) (s : List UInt8) (h_s : SlR g 5 kU8 v_s s) (hlen : s.length ≤ 1000000000) :
  Spec Tryz.prog B 138 #[v_s, .int .i64 2] h g [] (fun rv g' L' => ∃ f0 cp0, rv = .func (.func f0) #[] cp0 ∧ Enterable Tryz.prog f0 ∧ SeqOk Tryz.prog g' f0 cp0 enB (fun full => full = pairsL s) ∧ L' = []) := by
 obtain ⟨a_s, n_s, rfl⟩ := h_s.form
 refine Spec.at' Tryz.func138 ?_
 intro R hR
 have s0 := St.init hg
 refine At.rg 3 ?_
 refine Op.box (T := 29) (x := (.tmp 0)) (d := 2) (cs := #[.slice a_s s.length n_s]) (by kernel_rfl) (by kernel_rfl) s0 ?_
 intro b20 h21 s22
 refine Op.box (T := 3) (x := (.tmp 1)) (d := 3) (cs := #[.int .i64 2]) (by kernel_rfl) (by kernel_rfl) s22 ?_
 intro b23 h24 s25
 refine Op.pg 1 [] ?_
 refine At.rg 2 ?_
 refine Op.ld (n := 1) 3 (.tmp 3) 5 0 (.int .i64 2) (s25.chunk 0 rfl) ?_
 refine Op.pg 2 [(6, .bool false)] ?_
 refine At.ifF 6 4 ?_
 refine At.go 5 2 [(4, .func (.func 163) #[] #[.pointer (some ⟨b20, 0, none⟩), .pointer (some ⟨b23, 0, none⟩)])] ?_
 obtain ⟨s27, hle28⟩ := St.freeze (s25.front 1 rfl)
 have hb29 := gadd_one (g := g) b20 (.cells #[.slice a_s s.length n_s] 29 (0, 0))
 generalize hg_g26 : gadd g _ = g26 at s27 hle28 hb29; clear hg_g26
 replace hG := hG.mono hle28
 replace h_s := h_s.mono hle28
 obtain ⟨s31, hle32⟩ := St.freeze (s27.front 0 rfl)
 have hb33 := gadd_one (g := g26) b23 (.cells #[.int .i64 2] 3 (0, 0))
 generalize hg_g30 : gadd g26 _ = g30 at s31 hle32 hb33; clear hg_g30
 replace hG := hG.mono hle32
 replace h_s := h_s.mono hle32
 replace hb29 := hle32 _ _ hb29
 refine At.rt (.func (.func 163) #[] #[.pointer (some ⟨b20, 0, none⟩), .pointer (some ⟨b23, 0, none⟩)]) ?_
 refine hR _ _ _ _ s31 ⟨163, #[.pointer (some ⟨b20, 0, none⟩), .pointer (some ⟨b23, 0, none⟩)], ?_, ?_, ?_, rfl⟩
 ·exact rfl
 ·exact Enterable.of (by kernel_rfl)
 ·exact chunk_seq _ b20 _ s hb29 h_s b23 hb33 (by assumption)
theorem unhexS (B : World) (h : Heap) (g : GH) (hg : Sub g h) (hG : Glob g) (w : List UInt8) (hlw : w.length ≤ 100000000) :
  Spec Tryz.prog B 100 #[.string (mkS w)] h g [] (fun rv g' L' => ∃ v0 k0, rv = .tuple #[v0, .bool ((unhexW w).isSome)] ∧ Row 5 kU8 g' v0 ((unhexW w).getD []) k0 ∧ g' = g ∧ L' = [k0]) := by
 refine Spec.at' Tryz.func100 ?_
 intro R hR
 have s0 := St.init hg
 refine At.rg 2 ?_
 refine Op.al 2 29 #[.slice none 0 0] s0 ?_
 intro b20 h21 s22
 refine Op.al 3 4 #[.bool false] s22 ?_
 intro b23 h24 s25
 refine Op.gt 1 ?_
 refine At.rp 2 1 [(8, .string (mkS w))] ?_
 refine Op.vl 9 (.bool ((mkS w).toList == (mkS ([46])).toList)) (.bool (w == ([46]))) (by rw [toList_mkS, toList_mkS]) ?_
 refine Op.gt 2 ?_
 refine At.if' (w == ([46])) 9 3 5 (fun c26 => ?_) (fun c27 => ?_)
 ·replace c26 := eq_of_beq c26
  refine At.rg 2 ?_
  refine Op.s1 29 (.tmp 2) (.const (.slice none 0 0)) 0 (.slice none 0 0) 1 #[.slice none 0 0] s25 (fun _ => trivial) ?_
  intro h28 s29
  refine Op.s1 4 (.tmp 3) (.const (.bool true)) 0 (.bool true) 0 #[.bool true] s29 (fun _ => trivial) ?_
  intro h30 s31
  refine Op.gt 4 ?_
  have R32 := Row.zero 5 kU8 g none
  have s33 := s31.nl
  refine At.retM (f := Tryz.f100) (vs := [.slice none 0 0, .bool true]) (rl := [.cell 2 29, .cell 3 4]) (v := .tuple #[.slice none 0 0, .bool true]) (by kernel_rfl) (by kernel_rfl) ⟨⟨_, _, rfl, resOne (n := 1) (by kernel_rfl) (s33.chunk 2 rfl) (by kernel_rfl)⟩, ⟨_, _, rfl, resOne (n := 1) (by kernel_rfl) (s33.chunk 1 rfl) (by kernel_rfl)⟩, trivial⟩ rfl ?_
  have s34 := ((s33.front 0 rfl).front 2 rfl).front 2 rfl
  have s35 := s34.drop.drop
  refine hR _ _ _ _ s35 ⟨(.slice none 0 0), [], ?_, ?_, rfl, rfl⟩
  ·exact eqT2 rfl (eqB (by exact (unhex_1 (by assumption)).2))
  ·exact rowEq R32 (by exact (unhex_1 (by assumption)).1)
 ·replace c27 := neF c27
  refine At.rp 8 1 [(10, .string (mkS w))] ?_
  refine Op.vl 11 (.bool ((mkS w).toList == (mkS []).toList)) (.bool (w == ([] : List UInt8))) (by rw [toList_mkS, toList_mkS]) ?_
  refine Op.px 1 [(12, .bool (w == ([] : List UInt8)))] ?_
  refine Op.wb (w == ([] : List UInt8)) 12 (fun c36 => ?_) (fun c37 => ?_)
  ·replace c36 := eq_of_beq c36
   refine Op.pg 6 [(17, .bool true)] ?_
   refine At.ifT 17 7 ?_
   refine At.rg 2 ?_
   refine Op.s1 29 (.tmp 2) (.const (.slice none 0 0)) 0 (.slice none 0 0) 1 #[.slice none 0 0] s25 (fun _ => trivial) ?_
   intro h38 s39
   refine Op.s1 4 (.tmp 3) (.const (.bool false)) 0 (.bool false) 0 #[.bool false] s39 (fun _ => trivial) ?_
   intro h40 s41
   refine Op.gt 8 ?_
   have R42 := Row.zero 5 kU8 g none
   have s43 := s41.nl
   refine At.retM (f := Tryz.f100) (vs := [.slice none 0 0, .bool false]) (rl := [.cell 2 29, .cell 3 4]) (v := .tuple #[.slice none 0 0, .bool false]) (by kernel_rfl) (by kernel_rfl) ⟨⟨_, _, rfl, resOne (n := 1) (by kernel_rfl) (s43.chunk 2 rfl) (by kernel_rfl)⟩, ⟨_, _, rfl, resOne (n := 1) (by kernel_rfl) (s43.chunk 1 rfl) (by kernel_rfl)⟩, trivial⟩ rfl ?_
   have s44 := ((s43.front 0 rfl).front 2 rfl).front 2 rfl
   have s45 := s44.drop.drop
   refine hR _ _ _ _ s45 ⟨(.slice none 0 0), [], ?_, ?_, rfl, rfl⟩
   ·exact eqT2 rfl (eqB (by exact (unhex_s1 (by assumption) (by first | exact .inl (by assumption) | exact .inr (by assumption))).2))
   ·exact rowEq R42 (by exact (unhex_s1 (by assumption) (by first | exact .inl (by assumption) | exact .inr (by assumption))).1)
  ·replace c37 := neF c37
   refine Op.px 2 [(14, .int .i64 (w.length : Int))] ?_
   refine Op.vl 15 (.int .i64 (Int.tmod (w.length : Int) (2 : Int))) (.int .i64 ((w.length : Int) % (2 : Int))) (remEq (by omega)) ?_
   refine Op.pg 6 [(17, .bool (((w.length : Int) % 2) != (0 : Int)))] ?_
   refine At.if' (((w.length : Int) % 2) != (0 : Int)) 17 7 9 (fun c46 => ?_) (fun c47 => ?_)
   ·replace c46 := bneT c46
    refine At.rg 2 ?_
    refine Op.s1 29 (.tmp 2) (.const (.slice none 0 0)) 0 (.slice none 0 0) 1 #[.slice none 0 0] s25 (fun _ => trivial) ?_
    intro h48 s49
    refine Op.s1 4 (.tmp 3) (.const (.bool false)) 0 (.bool false) 0 #[.bool false] s49 (fun _ => trivial) ?_
    intro h50 s51
    refine Op.gt 8 ?_
    have R52 := Row.zero 5 kU8 g none
    have s53 := s51.nl
    refine At.retM (f := Tryz.f100) (vs := [.slice none 0 0, .bool false]) (rl := [.cell 2 29, .cell 3 4]) (v := .tuple #[.slice none 0 0, .bool false]) (by kernel_rfl) (by kernel_rfl) ⟨⟨_, _, rfl, resOne (n := 1) (by kernel_rfl) (s53.chunk 2 rfl) (by kernel_rfl)⟩, ⟨_, _, rfl, resOne (n := 1) (by kernel_rfl) (s53.chunk 1 rfl) (by kernel_rfl)⟩, trivial⟩ rfl ?_
    have s54 := ((s53.front 0 rfl).front 2 rfl).front 2 rfl
    have s55 := s54.drop.drop
    refine hR _ _ _ _ s55 ⟨(.slice none 0 0), [], ?_, ?_, rfl, rfl⟩
    ·exact eqT2 rfl (eqB (by exact (unhex_s1 (by assumption) (by first | exact .inl (by assumption) | exact .inr (by assumption))).2))
    ·exact rowEq R52 (by exact (unhex_s1 (by assumption) (by first | exact .inl (by assumption) | exact .inr (by assumption))).1)
   ·replace c47 := bneF c47
    refine At.rg 1 ?_
    refine Op.al 4 29 #[.slice none 0 0] s25 ?_
    intro b56 h57 s58
    refine Op.gt 10 ?_
    refine At.rp 3 1 [(18, .string (mkS w))] ?_
    refine Op.toBytes (S := 9) (T := 29) (E := 5) (x := (.tmp 18)) (dst := 19) (l := w) (by kernel_rfl) (by kernel_rfl) (by kernel_rfl) (by kernel_rfl) (by kernel_rfl) (by omega) s58 ?_
    intro v59 ch60 h61 R62 s63
    obtain ⟨a64, n65, rfl⟩ := R62.form
    obtain ⟨g66, s67, hle68, hf69⟩ := RowS.freeze R62 (s63.front 0 rfl)
    replace hG := hG.mono hle68
    refine Op.c0 (some 20) (chunkF _ _ _ s67.sub hG _ _ hf69 (by ((try dsimp only) <;> (omega))) ) s67 ?_
    rintro _ g76 _ h70 hle77 s71 ⟨f72, cp73, rfl, e74, hq75, rfl⟩
    replace hG := hG.mono hle77
    replace hf69 := hf69.mono hle77
    refine Op.gt 11 ?_
    refine At.kp [(2, .pointer (some ⟨b20, 0, none⟩)), (3, .pointer (some ⟨b23, 0, none⟩)), (4, .pointer (some ⟨b56, 0, none⟩)), (20, .func (.func f72) #[] cp73)] ?_
    have R79 := Row.zero 5 kU8 g76 none
    have s78 := s71.nl
    have R81 := Row.zero 5 kU8 g76 none
    have s80 := s78.nl
    refine At.rangeFunc (x := (.tmp 20)) (f := f72) (cp := cp73) (by kernel_rfl) rfl (by kernel_rfl) (by kernel_rfl) e74 s80 ?_
    intro r82 l83 tm84 h85 ft86 s87
    have s88 := ((((((s87.front 1 rfl).front 5 rfl).front 3 rfl).front 6 rfl).front 5 rfl).front 6 rfl).front 6 rfl
    have s89 : St h g (ids []) g76 [(([(l83, .loop (mkL (mkQ 100 tm84 (pt (codeOf Tryz.f100) 11) r82) none))] : Chunk) ++ ([(b56, Obj.cells #[.slice none (([] : List UInt8).length) 0] 29 (0, 0))] : Chunk) ++ ([] : Chunk) ++ ([(b20, Obj.cells #[.slice none (([] : List UInt8).length) 0] 29 (0, 0))] : Chunk) ++ ([] : Chunk) ++ ([(b23, Obj.cells #[.bool false] 4 (0, 0))] : Chunk) : Chunk), [(r82, .deferred (some []))]] h85 := St.flat (L := [[(l83, .loop (mkL (mkQ 100 tm84 (pt (codeOf Tryz.f100) 11) r82) none))], [(b56, Obj.cells #[.slice none (([] : List UInt8).length) 0] 29 (0, 0))], [], [(b20, Obj.cells #[.slice none (([] : List UInt8).length) 0] 29 (0, 0))], [], [(b23, Obj.cells #[.bool false] 4 (0, 0))], [(r82, .deferred (some []))]]) (by simp only [List.flatten_cons, List.flatten_nil, List.append_assoc, List.cons_append, List.nil_append, List.append_nil]) s88
    obtain ⟨I90, hI91⟩ : ∃ I : List Str → GH → Chunk → Prop, I = (fun xs g2 c2 => ∃ (out : List UInt8) (ao_out : Option Addr) (n_out : Nat) (k_out : Chunk) (r2 : List UInt8) (ao_r2 : Option Addr) (n_r2 : Nat) (k_r2 : Chunk) (okv : Bool), c2 = (([(l83, .loop (mkL (mkQ 100 tm84 (pt (codeOf Tryz.f100) 11) r82) (pendU xs)))] : Chunk) ++ ([(b56, Obj.cells #[.slice ao_out out.length n_out] 29 (0, 0))] : Chunk) ++ (k_out : Chunk) ++ ([(b20, Obj.cells #[.slice ao_r2 r2.length n_r2] 29 (0, 0))] : Chunk) ++ (k_r2 : Chunk) ++ ([(b23, Obj.cells #[.bool okv] 4 (0, 0))] : Chunk) : Chunk) ∧ Row 5 kU8 g2 (.slice ao_out out.length n_out) out k_out ∧ Row 5 kU8 g2 (.slice ao_r2 r2.length n_r2) r2 k_r2 ∧ unI xs out ∧ r2 = [] ∧ okv = false ∧ out.length ≤ xs.length) := ⟨_, rfl⟩
    have hY92 : Yld Tryz.prog B l83 enB (fun full => full = pairsL w) (goU) I90 g76 := by
     intro h93 g94 xs95 x96 args97 c98 hgg99 hG100 hgo101 hen102 hfp103 hI104 hs105
     rw [hI91] at hI104
     obtain ⟨out106, ao107, n108, k109, r2111, ao112, n113, k114, okv116, rfl, R110, R115, hU117, hr2118, hokv119, hol120⟩ := hI104
     obtain ⟨v121, rfl, hr122⟩ := hen102
     obtain ⟨a123, n124, rfl⟩ := hr122.form
     have hev : (w.length : Int) % 2 = 0 := by first | assumption | omega
     have hel2 := els_two hfp103 hev
     have hln : xs95.length ≤ w.length := (by obtain ⟨full, rfl, hp⟩ := hfp103; have := hp.length_le; unfold pairsL at this; simp at this; omega)
     rw [show (pendU xs95) = none from by exact pendU_0 hgo101] at hs105 ⊢
     have s125 : St h93 g94 (ids [(([(l83, .loop (mkL (mkQ 100 tm84 (pt (codeOf Tryz.f100) 11) r82) none))] : Chunk) ++ ([(b56, Obj.cells #[.slice ao107 out106.length n108] 29 (0, 0))] : Chunk) ++ (k109 : Chunk) ++ ([(b20, Obj.cells #[.slice ao112 r2111.length n113] 29 (0, 0))] : Chunk) ++ (k114 : Chunk) ++ ([(b23, Obj.cells #[.bool okv116] 4 (0, 0))] : Chunk) : Chunk)]) g94 [[(l83, .loop (mkL (mkQ 100 tm84 (pt (codeOf Tryz.f100) 11) r82) none))], [(b56, Obj.cells #[.slice ao107 out106.length n108] 29 (0, 0))], k109, [(b20, Obj.cells #[.slice ao112 r2111.length n113] 29 (0, 0))], k114, [(b23, Obj.cells #[.bool okv116] 4 (0, 0))]] h93 := St.flat (by simp only [List.flatten_cons, List.flatten_nil, List.append_assoc, List.cons_append, List.nil_append, List.append_nil]) hs105
     replace hG := hG.mono hgg99
     replace hq75 := hq75.mono hgg99
     refine YSpec.of_at (n := Tryz.f100.ntmps) (e0 := [(2, .pointer (some ⟨b20, 0, none⟩)), (3, .pointer (some ⟨b23, 0, none⟩)), (4, .pointer (some ⟨b56, 0, none⟩)), (20, .func (.func f72) #[] cp73)]) (e := [(21, .slice a123 x96.length n124), (2, .pointer (some ⟨b20, 0, none⟩)), (3, .pointer (some ⟨b23, 0, none⟩)), (4, .pointer (some ⟨b56, 0, none⟩)), (20, .func (.func f72) #[] cp73)]) (s125.chunk 0 rfl) ft86 (by kernel_rfl) (by kernel_rfl) (by kernel_rfl) (by kernel_rfl) ?_
     intro R2 hR2
     refine At.go 1 1 [(5, .slice a123 x96.length n124)] ?_
     refine At.beginRound rfl (by kernel_rfl) s125 0 rfl 2 (by kernel_rfl) ?_
     intro h126 s127
     refine At.draw (by kernel_rfl) (fun _ => False) [(0, true), (1, true), (4, true), (5, true), (2, true), (6, true), (3, false), (7, false), (8, true), (9, true)] (by kernel_rfl) ?_
     refine Op.px 1 [(22, .slice a123 x96.length n124)] ?_
     obtain ⟨x128, hx129⟩ := getAt (l := x96) (i := 0) (by (have h7 := hel2 x96 (by simp); omega))
     obtain ⟨b130, o131, cu132, fz133, ha134, hb135, hk136⟩ := SlR.at_ hr122 _ hx129
     cases ha134
     refine Op.ix 29 5 1 1 x96.length n124 (.tmp 22) (.const (.int .i64 0)) 23 b130 o131 0 (by omega) (by (have h7 := hel2 x96 (by simp); omega)) ?_
     replace hk136 : cut _ _ _ = [.int .u8 (x128.toNat : Int)] := hk136
     refine Op.px 1 [(26, .slice (some ⟨b130, o131, none⟩) x96.length n124)] ?_
     obtain ⟨x137, hx138⟩ := getAt (l := x96) (i := 1) (by (have h7 := hel2 x96 (by simp); omega))
     obtain ⟨b139, o140, cu141, fz142, ha143, hb144, hk145⟩ := SlR.at_ hr122 _ hx138
     cases ha143
     refine Op.ix 29 5 1 1 x96.length n124 (.tmp 26) (.const (.int .i64 1)) 27 b130 o131 1 (by omega) (by (have h7 := hel2 x96 (by simp); omega)) ?_
     replace hk145 : cut _ _ _ = [.int .u8 (x137.toNat : Int)] := hk145
     refine Op.loadF (T := 5) (x := (.tmp 23)) (o := o131 + (0 : Int).toNat * 1) (d := 24) (n := 1) (v := .int .u8 (x128.toNat : Int)) (by kernel_rfl) (by kernel_rfl) (by kernel_rfl) (fun h => h) (s127.sub _ _ hb135) (cut_get hk136 0 rfl) ?_
     refine Op.loadF (T := 5) (x := (.tmp 27)) (o := o131 + (1 : Int).toNat * 1) (d := 28) (n := 1) (v := .int .u8 (x137.toNat : Int)) (by kernel_rfl) (by kernel_rfl) (by kernel_rfl) (fun h => h) (s127.sub _ _ hb144) (cut_get hk145 0 rfl) ?_
     refine Op.c1 25 (hexIdx_spec _ _ _ s127.sub hG (x128.toNat : Int) (by ((try dsimp only) <;> (omega))) (by ((try dsimp only) <;> ((have := UInt8.toNat_lt x128; omega)))) ) s127 ?_
     intro h146 s147
     refine Op.c1 29 (hexIdx_spec _ _ _ s147.sub hG (x137.toNat : Int) (by ((try dsimp only) <;> (omega))) (by ((try dsimp only) <;> ((have := UInt8.toNat_lt x137; omega)))) ) s147 ?_
     intro h150 s151
     refine Op.pg 3 [(6, .int .i64 (digI (x128.toNat : Int))), (7, .int .i64 (digI (x137.toNat : Int)))] ?_
     refine At.rp 6 3 [(32, .bool (decide ((digI (x128.toNat : Int)) < (0 : Int))))] ?_
     refine Op.wb (decide ((digI (x128.toNat : Int)) < (0 : Int))) 32 (fun c154 => ?_) (fun c155 => ?_)
     ·replace c154 := of_decide_eq_true c154
      refine Op.pg 4 [(35, .bool true)] ?_
      refine At.ifT 35 5 ?_
      refine At.rg 2 ?_
      refine Op.s1 29 (.tmp 2) (.const (.slice none 0 0)) 0 (.slice none 0 0) 3 #[.slice none 0 0] s151 (fun _ => trivial) ?_
      intro h156 s157
      refine Op.s1 4 (.tmp 3) (.const (.bool false)) 0 (.bool false) 5 #[.bool false] s157 (fun _ => trivial) ?_
      intro h158 s159
      refine Op.gt 6 ?_
      refine At.roundEnd (j := (some .ret)) (by kernel_rfl) s159 0 rfl ?_
      intro h160 s161
      have R163 := Row.zero 5 kU8 g94 none
      have s162 := s161.nl
      have s164 := (((((s162.front 0 rfl).front 4 rfl).front 4 rfl).front 4 rfl).front 4 rfl).front 5 rfl
      have s165 := s164.drop
      have s166 : St h93 g94 (ids [(([(l83, .loop (mkL (mkQ 100 tm84 (pt (codeOf Tryz.f100) 11) r82) none))] : Chunk) ++ ([(b56, Obj.cells #[.slice ao107 out106.length n108] 29 (0, 0))] : Chunk) ++ (k109 : Chunk) ++ ([(b20, Obj.cells #[.slice ao112 r2111.length n113] 29 (0, 0))] : Chunk) ++ (k114 : Chunk) ++ ([(b23, Obj.cells #[.bool okv116] 4 (0, 0))] : Chunk) : Chunk)]) g94 [(([(l83, .loop (mkL (mkQ 100 tm84 (pt (codeOf Tryz.f100) 11) r82) (some .ret)))] : Chunk) ++ ([(b56, Obj.cells #[.slice ao107 out106.length n108] 29 (0, 0))] : Chunk) ++ (k109 : Chunk) ++ ([(b20, Obj.cells #[.slice none (([] : List UInt8).length) 0] 29 (0, 0))] : Chunk) ++ ([] : Chunk) ++ ([(b23, Obj.cells #[.bool false] 4 (0, 0))] : Chunk) : Chunk)] h160 := St.flat (L := [[(l83, .loop (mkL (mkQ 100 tm84 (pt (codeOf Tryz.f100) 11) r82) (some .ret)))], [(b56, Obj.cells #[.slice ao107 out106.length n108] 29 (0, 0))], k109, [(b20, Obj.cells #[.slice none (([] : List UInt8).length) 0] 29 (0, 0))], [], [(b23, Obj.cells #[.bool false] 4 (0, 0))]]) (by simp only [List.flatten_cons, List.flatten_nil, List.append_assoc, List.cons_append, List.nil_append, List.append_nil]) s165
      refine hR2 _ _ _ _ s166 ⟨_, by (rw [goU_1 (goU_bad hel2 hx129 hx138 (by exact .inl (by assumption)))]; rfl), rfl, ?_⟩
      rw [← pendU_1 (goU_bad hel2 hx129 hx138 (by exact .inl (by assumption)))]
      rw [hI91]; exact ⟨out106, ao107, n108, k109, ([] : List UInt8), none, 0, [], false, rfl, R110, R163, (by exact unI_bad _ (goU_bad hel2 hx129 hx138 (by first | exact .inl (by assumption) | exact .inr (by assumption)))), (by rfl), (by rfl), (by (simp only [List.length_append, List.length_cons, List.length_nil]; have := hol120; omega))⟩
     ·replace c155 := of_decide_eq_false c155
      refine Op.pg 4 [(35, .bool (decide ((digI (x137.toNat : Int)) < (0 : Int))))] ?_
      refine At.if' (decide ((digI (x137.toNat : Int)) < (0 : Int))) 35 5 7 (fun c167 => ?_) (fun c168 => ?_)
      ·replace c167 := of_decide_eq_true c167
       refine At.rg 2 ?_
       refine Op.s1 29 (.tmp 2) (.const (.slice none 0 0)) 0 (.slice none 0 0) 3 #[.slice none 0 0] s151 (fun _ => trivial) ?_
       intro h169 s170
       refine Op.s1 4 (.tmp 3) (.const (.bool false)) 0 (.bool false) 5 #[.bool false] s170 (fun _ => trivial) ?_
       intro h171 s172
       refine Op.gt 6 ?_
       refine At.roundEnd (j := (some .ret)) (by kernel_rfl) s172 0 rfl ?_
       intro h173 s174
       have R176 := Row.zero 5 kU8 g94 none
       have s175 := s174.nl
       have s177 := (((((s175.front 0 rfl).front 4 rfl).front 4 rfl).front 4 rfl).front 4 rfl).front 5 rfl
       have s178 := s177.drop
       have s179 : St h93 g94 (ids [(([(l83, .loop (mkL (mkQ 100 tm84 (pt (codeOf Tryz.f100) 11) r82) none))] : Chunk) ++ ([(b56, Obj.cells #[.slice ao107 out106.length n108] 29 (0, 0))] : Chunk) ++ (k109 : Chunk) ++ ([(b20, Obj.cells #[.slice ao112 r2111.length n113] 29 (0, 0))] : Chunk) ++ (k114 : Chunk) ++ ([(b23, Obj.cells #[.bool okv116] 4 (0, 0))] : Chunk) : Chunk)]) g94 [(([(l83, .loop (mkL (mkQ 100 tm84 (pt (codeOf Tryz.f100) 11) r82) (some .ret)))] : Chunk) ++ ([(b56, Obj.cells #[.slice ao107 out106.length n108] 29 (0, 0))] : Chunk) ++ (k109 : Chunk) ++ ([(b20, Obj.cells #[.slice none (([] : List UInt8).length) 0] 29 (0, 0))] : Chunk) ++ ([] : Chunk) ++ ([(b23, Obj.cells #[.bool false] 4 (0, 0))] : Chunk) : Chunk)] h173 := St.flat (L := [[(l83, .loop (mkL (mkQ 100 tm84 (pt (codeOf Tryz.f100) 11) r82) (some .ret)))], [(b56, Obj.cells #[.slice ao107 out106.length n108] 29 (0, 0))], k109, [(b20, Obj.cells #[.slice none (([] : List UInt8).length) 0] 29 (0, 0))], [], [(b23, Obj.cells #[.bool false] 4 (0, 0))]]) (by simp only [List.flatten_cons, List.flatten_nil, List.append_assoc, List.cons_append, List.nil_append, List.append_nil]) s178
       refine hR2 _ _ _ _ s179 ⟨_, by (rw [goU_1 (goU_bad hel2 hx129 hx138 (by exact .inr (by assumption)))]; rfl), rfl, ?_⟩
       rw [← pendU_1 (goU_bad hel2 hx129 hx138 (by exact .inr (by assumption)))]
       rw [hI91]; exact ⟨out106, ao107, n108, k109, ([] : List UInt8), none, 0, [], false, rfl, R110, R176, (by exact unI_bad _ (goU_bad hel2 hx129 hx138 (by first | exact .inl (by assumption) | exact .inr (by assumption)))), (by rfl), (by rfl), (by (simp only [List.length_append, List.length_cons, List.length_nil]; have := hol120; omega))⟩
      ·replace c168 := of_decide_eq_false c168
       refine At.rg 9 ?_
       refine Op.ld (n := 1) 29 (.tmp 4) 36 0 (.slice ao107 out106.length n108) (s151.chunk 1 rfl) ?_
       refine Op.px 1 [(37, .int .i64 (digI (x128.toNat : Int)))] ?_
       refine Op.vl 38 (.int .i64 (IntKind.wrap .i64 ((digI (x128.toNat : Int)) * 2 ^ 4))) (.int .i64 ((digI (x128.toNat : Int)) * 16)) (shl4 (by omega) (by (have h7 := digI_b x128.toNat; have h8 := digI_b x137.toNat; omega))) ?_
       refine Op.px 1 [(39, .int .i64 (digI (x137.toNat : Int)))] ?_
       refine Op.vl 40 (.int .i64 (IntKind.wrap .i64 (((BitVec.ofInt (IntKind.bits .i64) ((digI (x128.toNat : Int)) * 16) ||| BitVec.ofInt (IntKind.bits .i64) (digI (x137.toNat : Int))).toNat : Nat) : Int))) (.int .i64 ((digI (x128.toNat : Int)) * 16 + (digI (x137.toNat : Int)))) (by rw [orHex (a := (digI (x128.toNat : Int))) (b := digI (x137.toNat : Int)) (by omega) (by (have h7 := digI_b x128.toNat; have h8 := digI_b x137.toNat; omega)) (by omega) (by (have h7 := digI_b x128.toNat; have h8 := digI_b x137.toNat; omega))]) ?_
       refine Op.vl 41 (.int .u8 (IntKind.wrap .u8 ((digI (x128.toNat : Int)) * 16 + (digI (x137.toNat : Int))))) (.int .u8 ((digI (x128.toNat : Int)) * 16 + (digI (x137.toNat : Int)))) (wrapEq_u8 (by omega) (by (have h7 := digI_b x128.toNat; have h8 := digI_b x137.toNat; omega))) ?_
       refine Op.lit (T := 29) (len := 1) (parts := #[(0, (.tmp 41))]) (dst := 42) (E := 5) (ps := [(0, .int .u8 ((digI (x128.toNat : Int)) * 16 + (digI (x137.toNat : Int))))]) (cs := #[.int .u8 ((digI (x128.toNat : Int)) * 16 + (digI (x137.toNat : Int)))]) (by kernel_rfl) (by kernel_rfl) (by kernel_rfl) s151 ?_
       intro b180 h181 s182
       refine Op.append (x := (.tmp 36)) (y := (.tmp 42)) (t := 29) (t' := 29) (dst := 43) (E := 5) (by_ := 1) (d := kU8) (by kernel_rfl) (by kernel_rfl) (by kernel_rfl) (by kernel_rfl) rfl R110 s182 3 rfl (Src.lit (m := 1) (sz := 1) (s182.chunk 0 rfl) (news := [.int .u8 ((digI (x128.toNat : Int)) * 16 + (digI (x137.toNat : Int)))]) rfl rfl (by simp [Value.oneCell']) _) (ys := [(UInt8.ofNat ((digI (x128.toNat : Int)) * 16 + (digI (x137.toNat : Int)) : Int).toNat)]) (⟨_, _, rfl, (u8K (by omega) (by (have h7 := digI_b x128.toNat; have h8 := digI_b x137.toNat; omega))), Reads.nil⟩) rfl (by (simp only [List.length_cons, List.length_nil]; omega)) (fun _ _ _ => trivial) ?_
       intro v183 ch184 h185 R186 s187 nn188
       obtain ⟨a189, n190, rfl⟩ := R186.form
       have s191 := (s187.front 0 rfl).drop
       refine Op.s1 29 (.tmp 4) (.tmp 43) 0 (.slice a189 ((out106 ++ ([(UInt8.ofNat ((digI (x128.toNat : Int)) * 16 + (digI (x137.toNat : Int)) : Int).toNat)])).length) n190) 1 #[.slice a189 ((out106 ++ ([(UInt8.ofNat ((digI (x128.toNat : Int)) * 16 + (digI (x137.toNat : Int)) : Int).toNat)])).length) n190] s191 (fun _ => trivial) ?_
       intro h192 s193
       refine Op.gt 8 ?_
       refine At.roundEnd (j := none) (by kernel_rfl) s193 0 rfl ?_
       intro h194 s195
       have s196 : St h93 g94 (ids [(([(l83, .loop (mkL (mkQ 100 tm84 (pt (codeOf Tryz.f100) 11) r82) none))] : Chunk) ++ ([(b56, Obj.cells #[.slice ao107 out106.length n108] 29 (0, 0))] : Chunk) ++ (k109 : Chunk) ++ ([(b20, Obj.cells #[.slice ao112 r2111.length n113] 29 (0, 0))] : Chunk) ++ (k114 : Chunk) ++ ([(b23, Obj.cells #[.bool okv116] 4 (0, 0))] : Chunk) : Chunk)]) g94 [(([(l83, .loop (mkL (mkQ 100 tm84 (pt (codeOf Tryz.f100) 11) r82) none))] : Chunk) ++ ([(b56, Obj.cells #[.slice a189 ((out106 ++ ([(UInt8.ofNat ((digI (x128.toNat : Int)) * 16 + (digI (x137.toNat : Int)) : Int).toNat)])).length) n190] 29 (0, 0))] : Chunk) ++ (ch184 : Chunk) ++ ([(b20, Obj.cells #[.slice ao112 r2111.length n113] 29 (0, 0))] : Chunk) ++ (k114 : Chunk) ++ ([(b23, Obj.cells #[.bool okv116] 4 (0, 0))] : Chunk) : Chunk)] h194 := St.flat (L := [[(l83, .loop (mkL (mkQ 100 tm84 (pt (codeOf Tryz.f100) 11) r82) none))], [(b56, Obj.cells #[.slice a189 ((out106 ++ ([(UInt8.ofNat ((digI (x128.toNat : Int)) * 16 + (digI (x137.toNat : Int)) : Int).toNat)])).length) n190] 29 (0, 0))], ch184, [(b20, Obj.cells #[.slice ao112 r2111.length n113] 29 (0, 0))], k114, [(b23, Obj.cells #[.bool okv116] 4 (0, 0))]]) (by simp only [List.flatten_cons, List.flatten_nil, List.append_assoc, List.cons_append, List.nil_append, List.append_nil]) s195
       refine hR2 _ _ _ _ s196 ⟨_, by (rw [goU_ok2 hgo101 hel2 hx129 hx138 (by assumption) (by assumption)]; rfl), rfl, ?_⟩
       rw [← pendU_0 (goU_ok2 hgo101 hel2 hx129 hx138 (by assumption) (by assumption))]
       rw [hI91]; exact ⟨(out106 ++ ([(UInt8.ofNat ((digI (x128.toNat : Int)) * 16 + (digI (x137.toNat : Int)) : Int).toNat)])), a189, n190, ch184, r2111, ao112, n113, k114, okv116, rfl, R186, R115, (by exact unI_ok hU117 hel2 hx129 hx138 (by assumption) (by assumption) (hexB_at (by assumption) (by assumption))), (by exact hr2118), (by exact hokv119), (by (simp only [List.length_append, List.length_cons, List.length_nil]; have := hol120; omega))⟩
    refine AtIn.call (Lc := [(([(l83, .loop (mkL (mkQ 100 tm84 (pt (codeOf Tryz.f100) 11) r82) none))] : Chunk) ++ ([(b56, Obj.cells #[.slice none (([] : List UInt8).length) 0] 29 (0, 0))] : Chunk) ++ ([] : Chunk) ++ ([(b20, Obj.cells #[.slice none (([] : List UInt8).length) 0] 29 (0, 0))] : Chunk) ++ ([] : Chunk) ++ ([(b23, Obj.cells #[.bool false] 4 (0, 0))] : Chunk) : Chunk)]) (L := [[(r82, .deferred (some []))]]) s89 (hq75 B _ _ _ I90 (goU) _ (gle.refl _) s89.sub hG hY92 rfl (by rw [hI91]; exact ⟨([] : List UInt8), none, 0, [], ([] : List UInt8), none, 0, [], false, rfl, R79, R81, (by exact unI_0), (by rfl), (by rfl), (by simp)⟩) (St.part (Lc := [(([(l83, .loop (mkL (mkQ 100 tm84 (pt (codeOf Tryz.f100) 11) r82) none))] : Chunk) ++ ([(b56, Obj.cells #[.slice none (([] : List UInt8).length) 0] 29 (0, 0))] : Chunk) ++ ([] : Chunk) ++ ([(b20, Obj.cells #[.slice none (([] : List UInt8).length) 0] 29 (0, 0))] : Chunk) ++ ([] : Chunk) ++ ([(b23, Obj.cells #[.bool false] 4 (0, 0))] : Chunk) : Chunk)]) (L := [[(r82, .deferred (some []))]]) s89)) ?_
    rintro _ g197 _ h198 hle199 s200 ⟨full201, xs202, c203, rfl, ho204, hp205, hf206, hpr207, rfl, hI208⟩
    replace hG := hG.mono hle199
    replace hq75 := hq75.mono hle199
    have hgq : goU xs202 = true ∨ goU xs202 = false := by cases goU xs202 <;> simp
    rcases hgq with hgq | hgq
    ·have hfull := hf206 hgq
     rw [hI91] at hI208
     obtain ⟨out209, ao210, n211, k212, r2214, ao215, n216, k217, okv219, rfl, R213, R218, hU220, hr2221, hokv222, hol223⟩ := hI208
     rw [show (pendU xs202) = none from by exact pendU_0 hgq] at s200
     have s224 : St h g (ids []) g197 [[(l83, .loop (mkL (mkQ 100 tm84 (pt (codeOf Tryz.f100) 11) r82) none))], [(b56, Obj.cells #[.slice ao210 out209.length n211] 29 (0, 0))], k212, [(b20, Obj.cells #[.slice ao215 r2214.length n216] 29 (0, 0))], k217, [(b23, Obj.cells #[.bool okv219] 4 (0, 0))], [(r82, .deferred (some []))]] h198 := St.flat (by simp only [List.flatten_cons, List.flatten_nil, List.append_assoc, List.cons_append, List.nil_append, List.append_nil]) s200
     refine AtI.endLoop (j := none) s224 0 rfl ?_
     intro h225 s226
     have s227 := s226.drop
     refine AtI.at_ 12 (by kernel_rfl) ?_
     refine At.rg 3 ?_
     refine Op.ld (n := 1) 29 (.tmp 4) 44 0 (.slice ao210 out209.length n211) (s227.chunk 0 rfl) ?_
     refine Op.s1 29 (.tmp 2) (.tmp 44) 0 (.slice ao210 out209.length n211) 2 #[.slice ao210 out209.length n211] s227 (fun _ => trivial) ?_
     intro h228 s229
     refine Op.s1 4 (.tmp 3) (.const (.bool true)) 0 (.bool true) 4 #[.bool true] s229 (fun _ => trivial) ?_
     intro h230 s231
     refine Op.gt 13 ?_
     have s232 := (((((s231.front 4 rfl).front 4 rfl).front 4 rfl).front 4 rfl).front 4 rfl).front 5 rfl
     refine At.ofI (AtI.retMD (L := [[(b56, Obj.cells #[.slice ao210 out209.length n211] 29 (0, 0))], k212, [(b20, Obj.cells #[.slice ao210 out209.length n211] 29 (0, 0))], k217, [(b23, Obj.cells #[.bool true] 4 (0, 0))]]) (f := Tryz.f100) (vs := [.slice ao210 out209.length n211, .bool true]) (rl := [.cell 2 29, .cell 3 4]) (v := .tuple #[.slice ao210 out209.length n211, .bool true]) [r82] (by kernel_rfl) (by kernel_rfl) rfl s232 ?_)
     intro h233 s234
     refine ⟨⟨⟨_, _, rfl, resOne (n := 1) (by kernel_rfl) (s234.chunk 2 rfl) (by kernel_rfl)⟩, ⟨_, _, rfl, resOne (n := 1) (by kernel_rfl) (s234.chunk 4 rfl) (by kernel_rfl)⟩, trivial⟩, ?_⟩
     have s235 := ((((s234.front 1 rfl).front 4 rfl).front 4 rfl).front 4 rfl).front 4 rfl
     have s236 := s235.drop.drop.drop.drop
     have s237 : St h g (ids []) g [k212] h233 := s236.unfrz
     replace R213 := R213.flat (fun _ _ _ _ h => h) (g' := g)
     refine hR _ _ _ _ s237 ⟨(.slice ao210 out209.length n211), k212, ?_, ?_, rfl, rfl⟩
     ·exact eqT2 rfl (eqB (by (subst hfull; subst ho204; first | exact (unhex_end (by assumption) (by assumption) (by assumption) hU220 hgq).1 | exact (unhex_end (by assumption) (by assumption) (by assumption) hU220 hgq).2)))
     ·exact rowEq R213 (by (subst hfull; subst ho204; first | exact (unhex_end (by assumption) (by assumption) (by assumption) hU220 hgq).1 | exact (unhex_end (by assumption) (by assumption) (by first | assumption | omega) hU220 hgq).2))
    ·rw [hI91] at hI208
     obtain ⟨out238, ao239, n240, k241, r2243, ao244, n245, k246, okv248, rfl, R242, R247, hU249, hr2250, hokv251, hol252⟩ := hI208
     rw [show (pendU xs202) = (some .ret) from by (unfold pendU; rw [if_neg (by rw [hgq]; decide)])] at s200
     have s253 : St h g (ids []) g197 [[(l83, .loop (mkL (mkQ 100 tm84 (pt (codeOf Tryz.f100) 11) r82) (some .ret)))], [(b56, Obj.cells #[.slice ao239 out238.length n240] 29 (0, 0))], k241, [(b20, Obj.cells #[.slice ao244 r2243.length n245] 29 (0, 0))], k246, [(b23, Obj.cells #[.bool okv248] 4 (0, 0))], [(r82, .deferred (some []))]] h198 := St.flat (by simp only [List.flatten_cons, List.flatten_nil, List.append_assoc, List.cons_append, List.nil_append, List.append_nil]) s200
     refine AtI.endLoop (j := (some .ret)) s253 0 rfl ?_
     intro h254 s255
     have s256 := s255.drop
     have s257 := (((((s256.front 4 rfl).front 4 rfl).front 4 rfl).front 4 rfl).front 4 rfl).front 5 rfl
     refine AtI.retMD (L := [[(b56, Obj.cells #[.slice ao239 out238.length n240] 29 (0, 0))], k241, [(b20, Obj.cells #[.slice ao244 r2243.length n245] 29 (0, 0))], k246, [(b23, Obj.cells #[.bool okv248] 4 (0, 0))]]) (f := Tryz.f100) (vs := [.slice ao244 r2243.length n245, .bool okv248]) (rl := [.cell 2 29, .cell 3 4]) (v := .tuple #[.slice ao244 r2243.length n245, .bool okv248]) [r82] (by kernel_rfl) (by kernel_rfl) rfl s257 ?_
     intro h258 s259
     refine ⟨⟨⟨_, _, rfl, resOne (n := 1) (by kernel_rfl) (s259.chunk 2 rfl) (by kernel_rfl)⟩, ⟨_, _, rfl, resOne (n := 1) (by kernel_rfl) (s259.chunk 4 rfl) (by kernel_rfl)⟩, trivial⟩, ?_⟩
     have s260 := ((((s259.front 3 rfl).front 4 rfl).front 4 rfl).front 4 rfl).front 4 rfl
     have s261 := s260.drop.drop.drop.drop
     have s262 : St h g (ids []) g [k246] h258 := s261.unfrz
     replace R247 := R247.flat (fun _ _ _ _ h => h) (g' := g)
     refine hR _ _ _ _ s262 ⟨(.slice ao244 r2243.length n245), k246, ?_, ?_, rfl, rfl⟩
     ·exact eqT2 rfl (eqB (by (subst ho204; first | (rw [hr2250]; exact (unhex_stop (by assumption) (by first | assumption | omega) hp205 hgq).1) | (rw [hokv251]; exact (unhex_stop (by assumption) (by assumption) hp205 hgq).2))))
     ·exact rowEq R247 (by (subst ho204; first | (rw [hr2250]; exact (unhex_stop (by assumption) (by assumption) hp205 hgq).1) | (rw [hokv251]; exact (unhex_stop (by assumption) (by first | assumption | omega) hp205 hgq).2)))
end Go.Proofs.YtmjebehhpojihaaGreatDoor.Sw
namespace Go.Proofs.YtmjebehhpojihaaGreatDoor.Sw
set_option linter.unusedVariables false
set_option linter.unusedSimpArgs false
set_option linter.deprecated false
open Go
inductive scriptWord where
  | nul | who | n | tow | k | power | data
  deriving DecidableEq
def scriptWord.ch : scriptWord → UInt8
  | .nul => 0 | .who => 114 | .n => 110 | .tow => 116 | .k => 107 | .power => 112 | .data => 104
structure scriptForm where
  kind : Int
  role : Int
  words : List scriptWord
  more : Bool
def setS (c : UInt8) (st : Step) (w : List UInt8) : Step × Bool :=
  if c = 114 then (⟨st.Kind, st.Role, st.K, st.Power, ⟨idxL rolesL w, st.Node.N⟩, st.Data, st.Keeps⟩, (roleW w).isSome)
  else if c = 116 then (⟨st.Kind, idxL rolesL w, st.K, st.Power, st.Node, st.Data, st.Keeps⟩, (roleW w).isSome)
  else setW c st w
theorem idx_some {w : List UInt8} (h : (roleW w).isSome = true) : idxL rolesL w = (roleW w).getD 0 := by
  rw [idx_role]
  by_cases h0 : w = []
  · subst h0; simp [roleW, rolesL] at h
  · rw [if_neg h0]
    cases hr : roleW w with
    | none => rw [hr] at h; cases h
    | some v => rfl
theorem setS_W (c : UInt8) (st : Step) (w : List UInt8) : (setS c st w).2 = (setW c st w).2 ∧ ((setS c st w).2 = true → (setS c st w).1 = (setW c st w).1) := by
  unfold setS
  split
  · rename_i h; subst h
    exact ⟨rfl, fun h => by rw [idx_some h]; rfl⟩
  · split
    · rename_i h; subst h
      exact ⟨rfl, fun h => by rw [idx_some h]; rfl⟩
    · exact ⟨rfl, fun _ => rfl⟩
theorem setS_keeps (c : UInt8) (st : Step) (w : List UInt8) : (setS c st w).1.Keeps = st.Keeps := by
  unfold setS setW
  repeat' split
  all_goals rfl
def keepsS : List (List UInt8) → Step → Step × Bool
  | [], st => (st, true)
  | w :: r, st => if (numW w).isSome then keepsS r (addK st ((numW w).getD 0)) else (st, false)
def wrdsS : List scriptWord → List (List UInt8) → Step → Step × Bool
  | [], r, st => keepsS r st
  | _ :: _, [], st => (st, false)
  | w :: ws, x :: r, st => if (setS w.ch st x).2 then wrdsS ws r (setS w.ch st x).1 else setS w.ch st x
def form0 (f : scriptForm) : Step := ⟨f.kind, 0, 0, 0, ⟨f.role, 0⟩, [], []⟩
def readS (f : scriptForm) (list : List (List UInt8)) : Step × Bool :=
  if list.length < f.words.length ∨ (list.length > f.words.length ∧ f.more = false) then (form0 f, false) else wrdsS f.words list (form0 f)
def formsT : List (List UInt8 × scriptForm) := [(cmdK 0, ⟨1, 4, [.n, .data], false⟩), (cmdK 1, ⟨2, 0, [.k], false⟩), (cmdK 2, ⟨3, 0, [.k], false⟩), (cmdK 3, ⟨4, 0, [.k], false⟩), (cmdK 4, ⟨5, 0, [.who, .n], false⟩), (cmdK 5, ⟨6, 0, [.who, .n, .power], true⟩), (cmdK 6, ⟨7, 0, [.who, .n, .tow, .k, .data], true⟩), (cmdK 7, ⟨8, 2, [.n, .power, .k], true⟩), (cmdK 8, ⟨9, 0, [.who, .n, .data], false⟩)]
section
variable {f : scriptForm} {list : List (List UInt8)} {st : Step} {i j : Int} {w : scriptWord} {x : List UInt8}
def wrdI (f : scriptForm) (list : List (List UInt8)) (st : Step) (i : Int) : Prop := wrdsS f.words list (form0 f) = wrdsS (f.words.drop i.toNat) (list.drop i.toNat) st
def kpsI (f : scriptForm) (list : List (List UInt8)) (st : Step) (j : Int) : Prop := wrdsS f.words list (form0 f) = keepsS ((list.drop f.words.length).drop j.toNat) st
theorem wrdI_0 (f : scriptForm) (list : List (List UInt8)) : wrdI f list (form0 f) 0 := rfl
theorem wrdI_step (H : wrdI f list st i) (h0 : 0 ≤ i) (hw : f.words[i.toNat]? = some w) (hx : list[i.toNat]? = some x) (ok : (setS w.ch st x).2 = true) : wrdI f list (setS w.ch st x).1 (i + 1) := by
  unfold wrdI at *
  rw [H, drop_atI hw h0, drop_atI hx h0, wrdsS, if_pos ok]
theorem wrdI_bad (H : wrdI f list st i) (h0 : 0 ≤ i) (hw : f.words[i.toNat]? = some w) (hx : list[i.toNat]? = some x) (ok : (setS w.ch st x).2 = false) : wrdsS f.words list (form0 f) = setS w.ch st x := by
  unfold wrdI at *
  rw [H, drop_atI hw h0, drop_atI hx h0, wrdsS, if_neg (by rw [ok]; decide)]
theorem kpsI_0 (H : wrdI f list st i) (h : ¬ i < (f.words.length : Int)) (hi : i ≤ (f.words.length : Int)) : kpsI f list st 0 := by
  unfold wrdI at H
  unfold kpsI
  have : i.toNat = f.words.length := by omega
  rw [H, this, List.drop_length, wrdsS]
  rfl
theorem kpsI_step (H : kpsI f list st j) (h0 : 0 ≤ j) (hx : (list.drop f.words.length)[j.toNat]? = some x) (ok : (numW x).isSome = true) : kpsI f list (addK st ((numW x).getD 0)) (j + 1) := by
  unfold kpsI at *
  rw [H, drop_atI hx h0, keepsS, if_pos ok]
theorem kpsI_bad (H : kpsI f list st j) (h0 : 0 ≤ j) (hx : (list.drop f.words.length)[j.toNat]? = some x) (ok : (numW x).isSome = false) : wrdsS f.words list (form0 f) = (st, false) := by
  unfold kpsI at *
  rw [H, drop_atI hx h0, keepsS, if_neg (by rw [ok]; decide)]
theorem kpsI_end (H : kpsI f list st j) (h : ¬ j < ((list.drop f.words.length).length : Int)) : wrdsS f.words list (form0 f) = (st, true) := by
  unfold kpsI at H
  rw [H, List.drop_of_length_le (l := list.drop f.words.length) (by omega)]
  rfl
theorem read_no (h : (list.length : Int) < (f.words.length : Int) ∨ ((list.length : Int) > (f.words.length : Int) ∧ f.more = false)) : form0 f = (readS f list).1 ∧ false = (readS f list).2 := by
  unfold readS
  rw [if_pos]
  · exact ⟨rfl, rfl⟩
  · rcases h with h | h
    · exact .inl (by omega)
    · exact .inr ⟨by omega, h.2⟩
theorem read_yes {r : Step × Bool} (h1 : ¬ (list.length : Int) < (f.words.length : Int)) (h2 : ¬ ((list.length : Int) > (f.words.length : Int) ∧ f.more = false)) (h : wrdsS f.words list (form0 f) = r) : r.1 = (readS f list).1 ∧ r.2 = (readS f list).2 := by
  unfold readS
  rw [if_neg, h]
  · exact ⟨rfl, rfl⟩
  · rintro (h | h)
    · exact h1 (by omega)
    · exact h2 ⟨by omega, h.2⟩
end
theorem keepsS_R : ∀ (r : List (List UInt8)) (st : Step), (keepsS r st).2 = (keepsR r st).2 ∧ ((keepsS r st).2 = true → (keepsS r st).1 = (keepsR r st).1)
  | [], st => ⟨rfl, fun _ => rfl⟩
  | w :: r, st => by
    rw [keepsS, keepsR]
    split
    · exact keepsS_R r _
    · exact ⟨rfl, fun h => by cases h⟩
def tailF (more : Bool) : List UInt8 := if more then [42] else []
theorem ch_42 {w : scriptWord} : ¬ w.ch = 42 := by cases w <;> decide
theorem fill_tail (more : Bool) (r : List (List UInt8)) (st : Step) : (fillR (tailF more) r st).2 = (if r.length > 0 ∧ more = false then false else (keepsS r st).2) ∧ ((fillR (tailF more) r st).2 = true → (fillR (tailF more) r st).1 = (keepsS r st).1) := by
  have h := keepsS_R r st
  unfold tailF
  cases more with
  | true =>
    rw [if_pos rfl, fillR_cons, if_pos rfl]
    have e1 : (if r.length > 0 ∧ true = false then false else (keepsS r st).2) = (keepsS r st).2 := if_neg (by simp)
    rw [e1]
    cases hk : (keepsR r st).2 with
    | true =>
      rw [if_pos rfl]
      refine ⟨by rw [h.1, hk]; rfl, fun _ => ?_⟩
      rw [h.2 (by rw [h.1, hk])]
      rfl
    | false =>
      rw [if_neg (by decide)]
      exact ⟨h.1.symm, fun hh => by rw [hk] at hh; cases hh⟩
  | false =>
    rw [if_neg (by decide)]
    rcases r with _ | ⟨a, r⟩
    · exact ⟨rfl, fun _ => rfl⟩
    · rw [if_pos (by simp)]
      exact ⟨rfl, fun hh => by cases hh⟩
theorem fill_words (more : Bool) : ∀ (ws : List scriptWord) (r : List (List UInt8)) (st : Step),
    (fillR (ws.map (·.ch) ++ tailF more) r st).2 = (if r.length < ws.length ∨ (r.length > ws.length ∧ more = false) then false else (wrdsS ws r st).2) ∧
    ((fillR (ws.map (·.ch) ++ tailF more) r st).2 = true → (fillR (ws.map (·.ch) ++ tailF more) r st).1 = (wrdsS ws r st).1)
  | [], r, st => by
    have h := fill_tail more r st
    rw [List.map_nil, List.nil_append, wrdsS]
    refine ⟨?_, h.2⟩
    rw [h.1]
    simp
  | w :: ws, r, st => by
    rw [List.map_cons, List.cons_append, fillR_cons, if_neg ch_42]
    rcases r with _ | ⟨x, r⟩
    · exact ⟨by rw [if_pos (by simp)], fun h => by cases h⟩
    · have hs := setS_W w.ch st x
      have ih := fill_words more ws r (setS w.ch st x).1
      show (if (setW w.ch st x).2 then fillR (ws.map (·.ch) ++ tailF more) r (setW w.ch st x).1 else setW w.ch st x).2 = _ ∧ ((if (setW w.ch st x).2 then fillR (ws.map (·.ch) ++ tailF more) r (setW w.ch st x).1 else setW w.ch st x).2 = true → (if (setW w.ch st x).2 then fillR (ws.map (·.ch) ++ tailF more) r (setW w.ch st x).1 else setW w.ch st x).1 = _)
      rw [wrdsS]
      cases hok : (setS w.ch st x).2 with
      | true =>
        rw [← hs.1, hok, if_pos rfl, ← hs.2 hok, if_pos rfl]
        refine ⟨?_, ih.2⟩
        rw [ih.1]
        simp only [List.length_cons, Nat.add_lt_add_iff_right, gt_iff_lt]
      | false =>
        have hw : (setW w.ch st x).2 = false := by rw [← hs.1, hok]
        simp only [hw, hok, Bool.false_eq_true, if_false]
        exact ⟨by split <;> rfl, fun h => by cases h⟩
theorem forms_at {k : Nat} (hk : k < 9) : ∃ f : scriptForm, formsT[k]? = some (cmdK k, f) ∧ cmdF k = f.words.map (·.ch) ++ tailF f.more ∧ initS k = form0 f ∧ (∀ w ∈ f.words, w ≠ .nul) := by
  rcases (by omega : k = 0 ∨ k = 1 ∨ k = 2 ∨ k = 3 ∨ k = 4 ∨ k = 5 ∨ k = 6 ∨ k = 7 ∨ k = 8) with rfl | rfl | rfl | rfl | rfl | rfl | rfl | rfl | rfl
  all_goals exact ⟨_, rfl, by decide, rfl, by decide⟩
def findF (w : List UInt8) : Option scriptForm := (formsT.find? fun p => decide (p.1 = w)).map (·.2)
theorem find_cmd (w : List UInt8) : findF w = (cmdI w).bind fun k => (formsT[k]?).map (·.2) := by
  unfold findF cmdI
  have e : (List.range 9) = [0, 1, 2, 3, 4, 5, 6, 7, 8] := rfl
  rw [e]
  unfold formsT
  simp only [List.find?_cons, List.find?_nil]
  by_cases h0 : cmdK 0 = w
  · simp [h0]
  · have b0 : (cmdK 0 == w) = false := beq_eq_false_iff_ne.2 h0
    by_cases h1 : cmdK 1 = w
    · simp [h0, b0, h1]
    · have b1 : (cmdK 1 == w) = false := beq_eq_false_iff_ne.2 h1
      by_cases h2 : cmdK 2 = w
      · simp [h0, b0, h1, b1, h2]
      · have b2 : (cmdK 2 == w) = false := beq_eq_false_iff_ne.2 h2
        by_cases h3 : cmdK 3 = w
        · simp [h0, b0, h1, b1, h2, b2, h3]
        · have b3 : (cmdK 3 == w) = false := beq_eq_false_iff_ne.2 h3
          by_cases h4 : cmdK 4 = w
          · simp [h0, b0, h1, b1, h2, b2, h3, b3, h4]
          · have b4 : (cmdK 4 == w) = false := beq_eq_false_iff_ne.2 h4
            by_cases h5 : cmdK 5 = w
            · simp [h0, b0, h1, b1, h2, b2, h3, b3, h4, b4, h5]
            · have b5 : (cmdK 5 == w) = false := beq_eq_false_iff_ne.2 h5
              by_cases h6 : cmdK 6 = w
              · simp [h0, b0, h1, b1, h2, b2, h3, b3, h4, b4, h5, b5, h6]
              · have b6 : (cmdK 6 == w) = false := beq_eq_false_iff_ne.2 h6
                by_cases h7 : cmdK 7 = w
                · simp [h0, b0, h1, b1, h2, b2, h3, b3, h4, b4, h5, b5, h6, b6, h7]
                · have b7 : (cmdK 7 == w) = false := beq_eq_false_iff_ne.2 h7
                  by_cases h8 : cmdK 8 = w
                  · simp [h0, b0, h1, b1, h2, b2, h3, b3, h4, b4, h5, b5, h6, b6, h7, b7, h8]
                  · have b8 : (cmdK 8 == w) = false := beq_eq_false_iff_ne.2 h8
                    simp [h0, b0, h1, b1, h2, b2, h3, b3, h4, b4, h5, b5, h6, b6, h7, b7, h8, b8]
theorem read_line {l w : List UInt8} {f : scriptForm} (hw : (splitOn 32 l)[(0 : Int).toNat]? = some w) (hf : findF w = some f) :
    (readS f ((splitOn 32 l).drop (1 : Int).toNat)).2 = (lineR l).2 ∧ ((lineR l).2 = true → (readS f ((splitOn 32 l).drop (1 : Int).toNat)).1 = (lineR l).1) := by
  have hh := head_of hw
  rw [find_cmd] at hf
  obtain ⟨k, hk, hf⟩ := Option.bind_eq_some_iff.1 hf
  obtain ⟨f', h1, h2, h3, _⟩ := forms_at (cmdI_lt hk)
  rw [h1] at hf
  have hf : f' = f := by simpa using hf
  subst hf
  rw [← hh.2]
  unfold lineR
  rw [hh.1, hk]
  show (readS f' (splitOn 32 l).tail).2 = (fillR (cmdF k) (splitOn 32 l).tail (initS k)).2 ∧ ((fillR (cmdF k) (splitOn 32 l).tail (initS k)).2 = true → (readS f' (splitOn 32 l).tail).1 = (fillR (cmdF k) (splitOn 32 l).tail (initS k)).1)
  rw [h2, h3]
  have h := fill_words f'.more f'.words (splitOn 32 l).tail (form0 f')
  unfold readS
  split
  · rename_i hc
    rw [if_pos hc] at h
    exact ⟨h.1.symm, fun hh => by rw [h.1] at hh; cases hh⟩
  · rename_i hc
    rw [if_neg hc] at h
    exact ⟨h.1.symm, fun hh => (h.2 hh).symm⟩
theorem line_no {l w : List UInt8} (hw : (splitOn 32 l)[(0 : Int).toNat]? = some w) (hf : findF w = none) : (lineR l).2 = false := by
  have hh := head_of hw
  rw [find_cmd] at hf
  have : cmdI w = none := by
    cases hk : cmdI w with
    | none => rfl
    | some k =>
      obtain ⟨f', h1, _⟩ := forms_at (cmdI_lt hk)
      rw [hk] at hf
      simp [h1] at hf
  unfold lineR
  rw [hh.1, this]
end Go.Proofs.YtmjebehhpojihaaGreatDoor.Sw
namespace Go.Proofs.YtmjebehhpojihaaGreatDoor.Sw
open Go
set_option maxRecDepth 100000
set_option linter.unusedVariables false
set_option linter.unusedSimpArgs false
set_option linter.deprecated false
theorem args2 {e : Env} {x y : Operand} {v u : Value} {cp : Array Value} (h : e.ev x = v) (h2 : e.ev y = u) : #[] ++ #[x, y].map e.ev ++ cp = #[v, u] ++ cp := by subst h; subst h2; simp
theorem sayR0 {st : Step} (h : ¬ (st.Node.Role > 0 ∧ st.Node.Role < 5)) : [] = wordW st 114 := by show [] = roleS st.Node.Role; unfold roleS; rw [if_neg h]
theorem sayT0 {st : Step} (h : ¬ (st.Role > 0 ∧ st.Role < 5)) : [] = wordW st 116 := by show [] = roleS st.Role; unfold roleS; rw [if_neg h]
theorem sayR {st : Step} {x : List UInt8} (h : st.Node.Role > 0 ∧ st.Node.Role < 5) (hx : rolesL[st.Node.Role.toNat]? = some x) : x = wordW st 114 := by
 show x = roleS st.Node.Role
 unfold roleS
 rw [if_pos h, List.getD_eq_getElem?_getD, hx]
 rfl
theorem sayT {st : Step} {x : List UInt8} (h : st.Role > 0 ∧ st.Role < 5) (hx : rolesL[st.Role.toNat]? = some x) : x = wordW st 116 := by
 show x = roleS st.Role
 unfold roleS
 rw [if_pos h, List.getD_eq_getElem?_getD, hx]
 rfl
theorem rd_who (B : World) (h : Heap) (g : GH) (hg : Sub g h) (hG : Glob g) (b_s : Nat) (s : Step) (c_s : Chunk) (o_s : IsStep g b_s s c_s) (w : List UInt8) (b_at : Nat) (hb_at : g b_at = some (.cells #[.func (.func 93) #[] #[]] 157 (0, 0))) (hw8 : w.length ≤ 100000000) (hs : St h g (ids [c_s]) g [c_s] h) :
  Spec Tryz.prog B 132 #[.pointer (some ⟨b_s, 0, none⟩), .string (mkS w), .pointer (some ⟨b_at, 0, none⟩)] h g [c_s] (fun rv g' L' => ∃ k_s, rv = .bool ((setS 114 s w).2) ∧ IsStep g' b_s ((setS 114 s w).1) k_s ∧ g' = g ∧ L' = [k_s]) := by
 refine Spec.at' Tryz.func132 ?_
 intro R hR
 refine At.go 1 1 [] ?_
 refine At.rg 4 ?_
 refine Op.c0 (some 7) (rolesS _ _ _ hs.sub hG   ) hs ?_
 rintro _ g27 _ h20 hle28 s21 ⟨v22, ch23, rfl, R24, hgg, rfl⟩; subst g27; clear hle28
 obtain ⟨a25, n26, rfl⟩ := R24.form
 refine Op.px 1 [(8, .string (mkS w))] ?_
 have hl29 := s21.frzle
 have hz30 := R24.frz s21
 refine Op.lend (dst := some 9) (f := 133) (args := #[.slice a25 ((rolesL).length) n26, .string (mkS w)]) (cf := (ch23 : Chunk)) (Lc := []) (L := [c_s]) (by kernel_rfl) s21 (indexS _ _ _ s21.frzsub (hG.mono hl29) _ _ hz30 w (by ((try dsimp only) <;> ((rw [show rolesL.length = 5 from rfl]; omega)))) ) (fun _ _ _ hp => by obtain ⟨_, hgg, _⟩ := hp; exact hgg) (fun _ _ h => absurd h (ids_nil _)) ?_
 rintro _ _ h31 s32 ⟨rfl, hgg, rfl⟩; clear hgg
 refine Op.pg 2 [(6, .int .i64 (idxL rolesL w))] ?_
 refine At.rg 6 ?_
 refine Op.ld (n := 1) 157 (.tmp 2) 10 0 (.func (.func 93) #[] #[]) (s32.sub _ _ hb_at) ?_
 refine Op.px 1 [(11, .pointer (some ⟨b_s, 0, none⟩))] ?_
 refine Op.callV (dst := some 12) (x := (.tmp 10)) (ops := #[(.tmp 11)]) (ts := #[155]) (f := 93) (first := #[]) (cap := #[]) (Lc := []) (L := [ch23, c_s]) (args := #[.pointer (some ⟨b_s, 0, none⟩)]) (by kernel_rfl) (by kernel_rfl) (Enterable.of (by kernel_rfl)) (by kernel_rfl) s32 (at_who _ _ _ s32.sub hG b_s  ) (fun _ _ h => absurd h (ids_nil _)) ?_
 rintro _ g37 _ h35 hle38 s36 ⟨rfl, hgg, rfl⟩; subst g37; clear hle38
 refine Op.px 2 [(13, .int .i64 (idxL rolesL w)), (14, .pointer (some ⟨b_s, 4, none⟩))] ?_
 obtain ⟨v39, c40, v41, c42, e43, R44, R45⟩ := o_s
 obtain ⟨a46, n47, rfl⟩ := R44.form
 obtain ⟨a48, n49, rfl⟩ := R45.form
 have s50 := (s36.front 0 rfl).front 1 rfl
 have s51 : St h g (ids [c_s]) g [[(b_s, Obj.cells #[.int .i64 s.Kind, .int .i64 s.Role, .int .i64 s.K, .int .i64 s.Power, .int .i64 s.Node.Role, .int .i64 s.Node.N, .slice a46 s.Data.length n47, .slice a48 s.Keeps.length n49] 94 (0, 0))], c40, c42, ch23] h35 := St.flat (L := [c_s, ch23]) (by rw [e43]; simp only [List.flatten_cons, List.append_assoc, List.cons_append, List.nil_append, List.append_nil]) s50
 refine Op.s1 3 (.tmp 14) (.tmp 13) 4 (.int .i64 (idxL rolesL w)) 0 #[.int .i64 s.Kind, .int .i64 s.Role, .int .i64 s.K, .int .i64 s.Power, .int .i64 (idxL rolesL w), .int .i64 s.Node.N, .slice a46 s.Data.length n47, .slice a48 s.Keeps.length n49] s51 (fun _ => trivial) ?_
 intro h52 s53
 refine Op.gt 3 ?_
 refine At.go 4 3 [(5, .bool (decide ((idxL rolesL w) > (0 : Int))))] ?_
 obtain ⟨c54, o55, s56⟩ := St.pack (Q := IsStep g b_s (⟨s.Kind, s.Role, s.K, s.Power, ⟨idxL rolesL w, s.Node.N⟩, s.Data, s.Keeps⟩ : Step)) 3 s53 ⟨_, _, _, _, rfl, R44, R45⟩
 refine At.rt (.bool (decide ((idxL rolesL w) > (0 : Int)))) ?_
 have s57 := (s56.front 0 rfl).front 1 rfl
 have s58 := s57.drop
 refine hR _ _ _ _ s58 ⟨c54, ?_, ?_, rfl, rfl⟩
 ·exact (eqB (by exact idx_pos _))
 ·exact o55.eq (by rfl)
theorem rd_tow (B : World) (h : Heap) (g : GH) (hg : Sub g h) (hG : Glob g) (b_s : Nat) (s : Step) (c_s : Chunk) (o_s : IsStep g b_s s c_s) (w : List UInt8) (b_at : Nat) (hb_at : g b_at = some (.cells #[.func (.func 96) #[] #[]] 157 (0, 0))) (hw8 : w.length ≤ 100000000) (hs : St h g (ids [c_s]) g [c_s] h) :
  Spec Tryz.prog B 132 #[.pointer (some ⟨b_s, 0, none⟩), .string (mkS w), .pointer (some ⟨b_at, 0, none⟩)] h g [c_s] (fun rv g' L' => ∃ k_s, rv = .bool ((setS 116 s w).2) ∧ IsStep g' b_s ((setS 116 s w).1) k_s ∧ g' = g ∧ L' = [k_s]) := by
 refine Spec.at' Tryz.func132 ?_
 intro R hR
 refine At.go 1 1 [] ?_
 refine At.rg 4 ?_
 refine Op.c0 (some 7) (rolesS _ _ _ hs.sub hG   ) hs ?_
 rintro _ g27 _ h20 hle28 s21 ⟨v22, ch23, rfl, R24, hgg, rfl⟩; subst g27; clear hle28
 obtain ⟨a25, n26, rfl⟩ := R24.form
 refine Op.px 1 [(8, .string (mkS w))] ?_
 have hl29 := s21.frzle
 have hz30 := R24.frz s21
 refine Op.lend (dst := some 9) (f := 133) (args := #[.slice a25 ((rolesL).length) n26, .string (mkS w)]) (cf := (ch23 : Chunk)) (Lc := []) (L := [c_s]) (by kernel_rfl) s21 (indexS _ _ _ s21.frzsub (hG.mono hl29) _ _ hz30 w (by ((try dsimp only) <;> ((rw [show rolesL.length = 5 from rfl]; omega)))) ) (fun _ _ _ hp => by obtain ⟨_, hgg, _⟩ := hp; exact hgg) (fun _ _ h => absurd h (ids_nil _)) ?_
 rintro _ _ h31 s32 ⟨rfl, hgg, rfl⟩; clear hgg
 refine Op.pg 2 [(6, .int .i64 (idxL rolesL w))] ?_
 refine At.rg 6 ?_
 refine Op.ld (n := 1) 157 (.tmp 2) 10 0 (.func (.func 96) #[] #[]) (s32.sub _ _ hb_at) ?_
 refine Op.px 1 [(11, .pointer (some ⟨b_s, 0, none⟩))] ?_
 refine Op.callV (dst := some 12) (x := (.tmp 10)) (ops := #[(.tmp 11)]) (ts := #[155]) (f := 96) (first := #[]) (cap := #[]) (Lc := []) (L := [ch23, c_s]) (args := #[.pointer (some ⟨b_s, 0, none⟩)]) (by kernel_rfl) (by kernel_rfl) (Enterable.of (by kernel_rfl)) (by kernel_rfl) s32 (at_to _ _ _ s32.sub hG b_s  ) (fun _ _ h => absurd h (ids_nil _)) ?_
 rintro _ g37 _ h35 hle38 s36 ⟨rfl, hgg, rfl⟩; subst g37; clear hle38
 refine Op.px 2 [(13, .int .i64 (idxL rolesL w)), (14, .pointer (some ⟨b_s, 1, none⟩))] ?_
 obtain ⟨v39, c40, v41, c42, e43, R44, R45⟩ := o_s
 obtain ⟨a46, n47, rfl⟩ := R44.form
 obtain ⟨a48, n49, rfl⟩ := R45.form
 have s50 := (s36.front 0 rfl).front 1 rfl
 have s51 : St h g (ids [c_s]) g [[(b_s, Obj.cells #[.int .i64 s.Kind, .int .i64 s.Role, .int .i64 s.K, .int .i64 s.Power, .int .i64 s.Node.Role, .int .i64 s.Node.N, .slice a46 s.Data.length n47, .slice a48 s.Keeps.length n49] 94 (0, 0))], c40, c42, ch23] h35 := St.flat (L := [c_s, ch23]) (by rw [e43]; simp only [List.flatten_cons, List.append_assoc, List.cons_append, List.nil_append, List.append_nil]) s50
 refine Op.s1 3 (.tmp 14) (.tmp 13) 1 (.int .i64 (idxL rolesL w)) 0 #[.int .i64 s.Kind, .int .i64 (idxL rolesL w), .int .i64 s.K, .int .i64 s.Power, .int .i64 s.Node.Role, .int .i64 s.Node.N, .slice a46 s.Data.length n47, .slice a48 s.Keeps.length n49] s51 (fun _ => trivial) ?_
 intro h52 s53
 refine Op.gt 3 ?_
 refine At.go 4 3 [(5, .bool (decide ((idxL rolesL w) > (0 : Int))))] ?_
 obtain ⟨c54, o55, s56⟩ := St.pack (Q := IsStep g b_s (⟨s.Kind, idxL rolesL w, s.K, s.Power, ⟨s.Node.Role, s.Node.N⟩, s.Data, s.Keeps⟩ : Step)) 3 s53 ⟨_, _, _, _, rfl, R44, R45⟩
 refine At.rt (.bool (decide ((idxL rolesL w) > (0 : Int)))) ?_
 have s57 := (s56.front 0 rfl).front 1 rfl
 have s58 := s57.drop
 refine hR _ _ _ _ s58 ⟨c54, ?_, ?_, rfl, rfl⟩
 ·exact (eqB (by exact idx_pos _))
 ·exact o55.eq (by rfl)
theorem rd_n (B : World) (h : Heap) (g : GH) (hg : Sub g h) (hG : Glob g) (b_s : Nat) (s : Step) (c_s : Chunk) (o_s : IsStep g b_s s c_s) (w : List UInt8) (b_at : Nat) (hb_at : g b_at = some (.cells #[.func (.func 95) #[] #[]] 157 (0, 0))) (hw8 : w.length ≤ 100000000) (hs : St h g (ids [c_s]) g [c_s] h) :
  Spec Tryz.prog B 136 #[.pointer (some ⟨b_s, 0, none⟩), .string (mkS w), .pointer (some ⟨b_at, 0, none⟩)] h g [c_s] (fun rv g' L' => ∃ k_s, rv = .bool ((setS 110 s w).2) ∧ IsStep g' b_s ((setS 110 s w).1) k_s ∧ g' = g ∧ L' = [k_s]) := by
 refine Spec.at' Tryz.func136 ?_
 intro R hR
 refine At.go 1 1 [] ?_
 refine At.rp 7 1 [(9, .string (mkS w))] ?_
 refine Op.c1 10 (number _ _ _ hs.sub hG w (by ((try dsimp only) <;> (omega))) ) hs ?_
 intro h20 s21
 refine Op.pg 2 [(6, .int .i64 ((numW w).getD 0)), (7, .bool ((numW w).isSome))] ?_
 refine At.rg 6 ?_
 refine Op.ld (n := 1) 157 (.tmp 2) 13 0 (.func (.func 95) #[] #[]) (s21.sub _ _ hb_at) ?_
 refine Op.px 1 [(14, .pointer (some ⟨b_s, 0, none⟩))] ?_
 refine Op.callV (dst := some 15) (x := (.tmp 13)) (ops := #[(.tmp 14)]) (ts := #[155]) (f := 95) (first := #[]) (cap := #[]) (Lc := []) (L := [c_s]) (args := #[.pointer (some ⟨b_s, 0, none⟩)]) (by kernel_rfl) (by kernel_rfl) (Enterable.of (by kernel_rfl)) (by kernel_rfl) s21 (at_n _ _ _ s21.sub hG b_s  ) (fun _ _ h => absurd h (ids_nil _)) ?_
 rintro _ g26 _ h24 hle27 s25 ⟨rfl, hgg, rfl⟩; subst g26; clear hle27
 refine Op.px 2 [(16, .int .i64 ((numW w).getD 0)), (17, .pointer (some ⟨b_s, 5, none⟩))] ?_
 obtain ⟨v28, c29, v30, c31, e32, R33, R34⟩ := o_s
 obtain ⟨a35, n36, rfl⟩ := R33.form
 obtain ⟨a37, n38, rfl⟩ := R34.form
 have s39 : St h g (ids [c_s]) g [[(b_s, Obj.cells #[.int .i64 s.Kind, .int .i64 s.Role, .int .i64 s.K, .int .i64 s.Power, .int .i64 s.Node.Role, .int .i64 s.Node.N, .slice a35 s.Data.length n36, .slice a37 s.Keeps.length n38] 94 (0, 0))], c29, c31] h24 := St.flat (L := [c_s]) (by rw [e32]; simp only [List.flatten_cons, List.append_assoc, List.cons_append, List.nil_append, List.append_nil]) s25
 refine Op.s1 3 (.tmp 17) (.tmp 16) 5 (.int .i64 ((numW w).getD 0)) 0 #[.int .i64 s.Kind, .int .i64 s.Role, .int .i64 s.K, .int .i64 s.Power, .int .i64 s.Node.Role, .int .i64 ((numW w).getD 0), .slice a35 s.Data.length n36, .slice a37 s.Keeps.length n38] s39 (fun _ => trivial) ?_
 intro h40 s41
 refine Op.gt 3 ?_
 refine At.go 4 2 [(5, .bool ((numW w).isSome))] ?_
 obtain ⟨c42, o43, s44⟩ := St.pack (Q := IsStep g b_s (⟨s.Kind, s.Role, s.K, s.Power, ⟨s.Node.Role, (numW w).getD 0⟩, s.Data, s.Keeps⟩ : Step)) 3 s41 ⟨_, _, _, _, rfl, R33, R34⟩
 refine At.rt (.bool ((numW w).isSome)) ?_
 refine hR _ _ _ _ s44 ⟨c42, ?_, ?_, rfl, rfl⟩
 ·exact (eqB (by rfl))
 ·exact o43.eq (by rfl)
theorem rd_k (B : World) (h : Heap) (g : GH) (hg : Sub g h) (hG : Glob g) (b_s : Nat) (s : Step) (c_s : Chunk) (o_s : IsStep g b_s s c_s) (w : List UInt8) (b_at : Nat) (hb_at : g b_at = some (.cells #[.func (.func 97) #[] #[]] 157 (0, 0))) (hw8 : w.length ≤ 100000000) (hs : St h g (ids [c_s]) g [c_s] h) :
  Spec Tryz.prog B 136 #[.pointer (some ⟨b_s, 0, none⟩), .string (mkS w), .pointer (some ⟨b_at, 0, none⟩)] h g [c_s] (fun rv g' L' => ∃ k_s, rv = .bool ((setS 107 s w).2) ∧ IsStep g' b_s ((setS 107 s w).1) k_s ∧ g' = g ∧ L' = [k_s]) := by
 refine Spec.at' Tryz.func136 ?_
 intro R hR
 refine At.go 1 1 [] ?_
 refine At.rp 7 1 [(9, .string (mkS w))] ?_
 refine Op.c1 10 (number _ _ _ hs.sub hG w (by ((try dsimp only) <;> (omega))) ) hs ?_
 intro h20 s21
 refine Op.pg 2 [(6, .int .i64 ((numW w).getD 0)), (7, .bool ((numW w).isSome))] ?_
 refine At.rg 6 ?_
 refine Op.ld (n := 1) 157 (.tmp 2) 13 0 (.func (.func 97) #[] #[]) (s21.sub _ _ hb_at) ?_
 refine Op.px 1 [(14, .pointer (some ⟨b_s, 0, none⟩))] ?_
 refine Op.callV (dst := some 15) (x := (.tmp 13)) (ops := #[(.tmp 14)]) (ts := #[155]) (f := 97) (first := #[]) (cap := #[]) (Lc := []) (L := [c_s]) (args := #[.pointer (some ⟨b_s, 0, none⟩)]) (by kernel_rfl) (by kernel_rfl) (Enterable.of (by kernel_rfl)) (by kernel_rfl) s21 (at_k _ _ _ s21.sub hG b_s  ) (fun _ _ h => absurd h (ids_nil _)) ?_
 rintro _ g26 _ h24 hle27 s25 ⟨rfl, hgg, rfl⟩; subst g26; clear hle27
 refine Op.px 2 [(16, .int .i64 ((numW w).getD 0)), (17, .pointer (some ⟨b_s, 2, none⟩))] ?_
 obtain ⟨v28, c29, v30, c31, e32, R33, R34⟩ := o_s
 obtain ⟨a35, n36, rfl⟩ := R33.form
 obtain ⟨a37, n38, rfl⟩ := R34.form
 have s39 : St h g (ids [c_s]) g [[(b_s, Obj.cells #[.int .i64 s.Kind, .int .i64 s.Role, .int .i64 s.K, .int .i64 s.Power, .int .i64 s.Node.Role, .int .i64 s.Node.N, .slice a35 s.Data.length n36, .slice a37 s.Keeps.length n38] 94 (0, 0))], c29, c31] h24 := St.flat (L := [c_s]) (by rw [e32]; simp only [List.flatten_cons, List.append_assoc, List.cons_append, List.nil_append, List.append_nil]) s25
 refine Op.s1 3 (.tmp 17) (.tmp 16) 2 (.int .i64 ((numW w).getD 0)) 0 #[.int .i64 s.Kind, .int .i64 s.Role, .int .i64 ((numW w).getD 0), .int .i64 s.Power, .int .i64 s.Node.Role, .int .i64 s.Node.N, .slice a35 s.Data.length n36, .slice a37 s.Keeps.length n38] s39 (fun _ => trivial) ?_
 intro h40 s41
 refine Op.gt 3 ?_
 refine At.go 4 2 [(5, .bool ((numW w).isSome))] ?_
 obtain ⟨c42, o43, s44⟩ := St.pack (Q := IsStep g b_s (⟨s.Kind, s.Role, (numW w).getD 0, s.Power, ⟨s.Node.Role, s.Node.N⟩, s.Data, s.Keeps⟩ : Step)) 3 s41 ⟨_, _, _, _, rfl, R33, R34⟩
 refine At.rt (.bool ((numW w).isSome)) ?_
 refine hR _ _ _ _ s44 ⟨c42, ?_, ?_, rfl, rfl⟩
 ·exact (eqB (by rfl))
 ·exact o43.eq (by rfl)
theorem rd_power (B : World) (h : Heap) (g : GH) (hg : Sub g h) (hG : Glob g) (b_s : Nat) (s : Step) (c_s : Chunk) (o_s : IsStep g b_s s c_s) (w : List UInt8) (b_at : Nat) (hb_at : g b_at = some (.cells #[.func (.func 98) #[] #[]] 157 (0, 0))) (hw8 : w.length ≤ 100000000) (hs : St h g (ids [c_s]) g [c_s] h) :
  Spec Tryz.prog B 136 #[.pointer (some ⟨b_s, 0, none⟩), .string (mkS w), .pointer (some ⟨b_at, 0, none⟩)] h g [c_s] (fun rv g' L' => ∃ k_s, rv = .bool ((setS 112 s w).2) ∧ IsStep g' b_s ((setS 112 s w).1) k_s ∧ g' = g ∧ L' = [k_s]) := by
 refine Spec.at' Tryz.func136 ?_
 intro R hR
 refine At.go 1 1 [] ?_
 refine At.rp 7 1 [(9, .string (mkS w))] ?_
 refine Op.c1 10 (number _ _ _ hs.sub hG w (by ((try dsimp only) <;> (omega))) ) hs ?_
 intro h20 s21
 refine Op.pg 2 [(6, .int .i64 ((numW w).getD 0)), (7, .bool ((numW w).isSome))] ?_
 refine At.rg 6 ?_
 refine Op.ld (n := 1) 157 (.tmp 2) 13 0 (.func (.func 98) #[] #[]) (s21.sub _ _ hb_at) ?_
 refine Op.px 1 [(14, .pointer (some ⟨b_s, 0, none⟩))] ?_
 refine Op.callV (dst := some 15) (x := (.tmp 13)) (ops := #[(.tmp 14)]) (ts := #[155]) (f := 98) (first := #[]) (cap := #[]) (Lc := []) (L := [c_s]) (args := #[.pointer (some ⟨b_s, 0, none⟩)]) (by kernel_rfl) (by kernel_rfl) (Enterable.of (by kernel_rfl)) (by kernel_rfl) s21 (at_power _ _ _ s21.sub hG b_s  ) (fun _ _ h => absurd h (ids_nil _)) ?_
 rintro _ g26 _ h24 hle27 s25 ⟨rfl, hgg, rfl⟩; subst g26; clear hle27
 refine Op.px 2 [(16, .int .i64 ((numW w).getD 0)), (17, .pointer (some ⟨b_s, 3, none⟩))] ?_
 obtain ⟨v28, c29, v30, c31, e32, R33, R34⟩ := o_s
 obtain ⟨a35, n36, rfl⟩ := R33.form
 obtain ⟨a37, n38, rfl⟩ := R34.form
 have s39 : St h g (ids [c_s]) g [[(b_s, Obj.cells #[.int .i64 s.Kind, .int .i64 s.Role, .int .i64 s.K, .int .i64 s.Power, .int .i64 s.Node.Role, .int .i64 s.Node.N, .slice a35 s.Data.length n36, .slice a37 s.Keeps.length n38] 94 (0, 0))], c29, c31] h24 := St.flat (L := [c_s]) (by rw [e32]; simp only [List.flatten_cons, List.append_assoc, List.cons_append, List.nil_append, List.append_nil]) s25
 refine Op.s1 3 (.tmp 17) (.tmp 16) 3 (.int .i64 ((numW w).getD 0)) 0 #[.int .i64 s.Kind, .int .i64 s.Role, .int .i64 s.K, .int .i64 ((numW w).getD 0), .int .i64 s.Node.Role, .int .i64 s.Node.N, .slice a35 s.Data.length n36, .slice a37 s.Keeps.length n38] s39 (fun _ => trivial) ?_
 intro h40 s41
 refine Op.gt 3 ?_
 refine At.go 4 2 [(5, .bool ((numW w).isSome))] ?_
 obtain ⟨c42, o43, s44⟩ := St.pack (Q := IsStep g b_s (⟨s.Kind, s.Role, s.K, (numW w).getD 0, ⟨s.Node.Role, s.Node.N⟩, s.Data, s.Keeps⟩ : Step)) 3 s41 ⟨_, _, _, _, rfl, R33, R34⟩
 refine At.rt (.bool ((numW w).isSome)) ?_
 refine hR _ _ _ _ s44 ⟨c42, ?_, ?_, rfl, rfl⟩
 ·exact (eqB (by rfl))
 ·exact o43.eq (by rfl)
theorem rd_data (B : World) (h : Heap) (g : GH) (hg : Sub g h) (hG : Glob g) (b_s : Nat) (s : Step) (c_s : Chunk) (o_s : IsStep g b_s s c_s) (w : List UInt8) (hw8 : w.length ≤ 100000000) (hs : St h g (ids [c_s]) g [c_s] h) :
  Spec Tryz.prog B 99 #[.pointer (some ⟨b_s, 0, none⟩), .string (mkS w)] h g [c_s] (fun rv g' L' => ∃ k_s, rv = .bool ((setS 104 s w).2) ∧ IsStep g' b_s ((setS 104 s w).1) k_s ∧ g' = g ∧ L' = [k_s]) := by
 refine Spec.at' Tryz.func99 ?_
 intro R hR
 refine At.go 1 1 [] ?_
 refine At.rp 7 1 [(8, .string (mkS w))] ?_
 refine Op.c0 (some 9) (unhexS _ _ _ hs.sub hG w (by ((try dsimp only) <;> (omega))) ) hs ?_
 rintro _ g27 _ h20 hle28 s21 ⟨v22, ch23, rfl, R24, hgg, rfl⟩; subst g27; clear hle28
 obtain ⟨a25, n26, rfl⟩ := R24.form
 refine Op.pg 2 [(5, .slice a25 (((unhexW w).getD []).length) n26), (6, .bool ((unhexW w).isSome))] ?_
 refine At.rp 5 4 [(13, .slice a25 (((unhexW w).getD []).length) n26), (15, .pointer (some ⟨b_s, 6, none⟩))] ?_
 obtain ⟨v29, c30, v31, c32, e33, R34, R35⟩ := o_s
 obtain ⟨a36, n37, rfl⟩ := R34.form
 obtain ⟨a38, n39, rfl⟩ := R35.form
 have s40 := (s21.front 0 rfl).front 1 rfl
 have s41 : St h g (ids [c_s]) g [[(b_s, Obj.cells #[.int .i64 s.Kind, .int .i64 s.Role, .int .i64 s.K, .int .i64 s.Power, .int .i64 s.Node.Role, .int .i64 s.Node.N, .slice a36 s.Data.length n37, .slice a38 s.Keeps.length n39] 94 (0, 0))], c30, c32, ch23] h20 := St.flat (L := [c_s, ch23]) (by rw [e33]; simp only [List.flatten_cons, List.append_assoc, List.cons_append, List.nil_append, List.append_nil]) s40
 refine Op.s1 29 (.tmp 15) (.tmp 13) 6 (.slice a25 (((unhexW w).getD []).length) n26) 0 #[.int .i64 s.Kind, .int .i64 s.Role, .int .i64 s.K, .int .i64 s.Power, .int .i64 s.Node.Role, .int .i64 s.Node.N, .slice a25 (((unhexW w).getD []).length) n26, .slice a38 s.Keeps.length n39] s41 (fun _ => trivial) ?_
 intro h42 s43
 refine Op.gt 3 ?_
 refine At.go 4 2 [(4, .bool ((unhexW w).isSome))] ?_
 have s44 := (((s43.front 1 rfl).front 2 rfl).front 3 rfl).front 3 rfl
 obtain ⟨c45, o46, s47⟩ := St.pack (Q := IsStep g b_s (⟨s.Kind, s.Role, s.K, s.Power, ⟨s.Node.Role, s.Node.N⟩, (unhexW w).getD [], s.Keeps⟩ : Step)) 3 s44 ⟨_, _, _, _, rfl, R24, R35⟩
 refine At.rt (.bool ((unhexW w).isSome)) ?_
 have s48 := (s47.front 0 rfl).front 1 rfl
 have s49 := s48.drop
 refine hR _ _ _ _ s49 ⟨c45, ?_, ?_, rfl, rfl⟩
 ·exact (eqB (by rfl))
 ·exact o46.eq (by rfl)
theorem sy_who (B : World) (h : Heap) (g : GH) (hg : Sub g h) (hG : Glob g) (s : Step) (v_s_6 : Value) (h_s_6 : SlR g 5 kU8 v_s_6 s.Data) (v_s_7 : Value) (h_s_7 : SlR g 3 (kInt .i64) v_s_7 s.Keeps) (b_at : Nat) (hb_at : g b_at = some (.cells #[.func (.func 93) #[] #[]] 157 (0, 0))) (hP : Pow10 g) (ho : stOk s) :
  Spec Tryz.prog B 135 #[.agg #[.int .i64 s.Kind, .int .i64 s.Role, .int .i64 s.K, .int .i64 s.Power, .int .i64 s.Node.Role, .int .i64 s.Node.N, v_s_6, v_s_7], .pointer (some ⟨b_at, 0, none⟩)] h g [] (fun rv g' L' => rv = .string (mkS (wordW s 114)) ∧ g' = g ∧ L' = []) := by
 obtain ⟨a_s_6, n_s_6, rfl⟩ := h_s_6.form
 obtain ⟨a_s_7, n_s_7, rfl⟩ := h_s_7.form
 refine Spec.at' Tryz.func135 ?_
 intro R hR
 have s0 := St.init hg
 refine At.rg 2 ?_
 refine Op.box (T := 94) (x := (.tmp 0)) (d := 2) (cs := #[.int .i64 s.Kind, .int .i64 s.Role, .int .i64 s.K, .int .i64 s.Power, .int .i64 s.Node.Role, .int .i64 s.Node.N, .slice a_s_6 s.Data.length n_s_6, .slice a_s_7 s.Keeps.length n_s_7]) (by kernel_rfl) (by kernel_rfl) s0 ?_
 intro b20 h21 s22
 refine Op.pg 1 [] ?_
 refine At.rg 5 ?_
 refine Op.ld (n := 1) 157 (.tmp 1) 5 0 (.func (.func 93) #[] #[]) (s22.sub _ _ hb_at) ?_
 refine Op.callV (dst := some 6) (x := (.tmp 5)) (ops := #[(.tmp 2)]) (ts := #[155]) (f := 93) (first := #[]) (cap := #[]) (Lc := []) (L := [[(b20, Obj.cells #[.int .i64 s.Kind, .int .i64 s.Role, .int .i64 s.K, .int .i64 s.Power, .int .i64 s.Node.Role, .int .i64 s.Node.N, .slice a_s_6 s.Data.length n_s_6, .slice a_s_7 s.Keeps.length n_s_7] 94 (0, 0))]]) (args := #[.pointer (some ⟨b20, 0, none⟩)]) (by kernel_rfl) (by kernel_rfl) (Enterable.of (by kernel_rfl)) (by kernel_rfl) s22 (at_who _ _ _ s22.sub hG b20  ) (fun _ _ h => absurd h (ids_nil _)) ?_
 rintro _ g25 _ h23 hle26 s24 ⟨rfl, hgg, rfl⟩; subst g25; clear hle26
 refine Op.px 1 [(7, .pointer (some ⟨b20, 4, none⟩))] ?_
 refine Op.ld (n := 1) 3 (.tmp 7) 8 4 (.int .i64 s.Node.Role) (s24.chunk 0 rfl) ?_
 refine Op.pg 2 [(4, .int .i64 s.Node.Role)] ?_
 refine At.rp 8 3 [(11, .bool (decide (s.Node.Role > (0 : Int))))] ?_
 refine Op.wb (decide (s.Node.Role > (0 : Int))) 11 (fun c27 => ?_) (fun c28 => ?_)
 ·replace c27 := of_decide_eq_true c27
  refine Op.px 1 [(12, .int .i64 s.Node.Role)] ?_
  refine Op.c0 (some 13) (rolesS _ _ _ s24.sub hG   ) s24 ?_
  rintro _ g36 _ h29 hle37 s30 ⟨v31, ch32, rfl, R33, hgg, rfl⟩; subst g36; clear hle37
  obtain ⟨a34, n35, rfl⟩ := R33.form
  refine Op.pg 3 [(16, .bool (decide (s.Node.Role < ((rolesL).length : Int))))] ?_
  refine At.if' (decide (s.Node.Role < ((rolesL).length : Int))) 16 4 6 (fun c38 => ?_) (fun c39 => ?_)
  ·replace c38 := of_decide_eq_true c38
   refine At.rg 5 ?_
   refine Op.c0 (some 17) (rolesS _ _ _ s30.sub hG   ) s30 ?_
   rintro _ g47 _ h40 hle48 s41 ⟨v42, ch43, rfl, R44, hgg, rfl⟩; subst g47; clear hle48
   obtain ⟨a45, n46, rfl⟩ := R44.form
   refine Op.px 1 [(18, .int .i64 s.Node.Role)] ?_
   obtain ⟨x49, hx50⟩ := getAt (l := rolesL) (i := s.Node.Role) (by omega)
   obtain ⟨b51, o52, cu53, fz54, ha55, hb56, hk57⟩ := SlH.at_ (R44.toH s41 0 rfl) _ hx50
   cases ha55
   refine Op.ix 54 9 1 16 ((rolesL).length) n46 (.tmp 17) (.tmp 18) 19 b51 o52 s.Node.Role (by omega) (by omega) ?_
   replace hk57 : cut _ _ _ = [.string (mkS x49)] := hk57
   refine Op.ld (n := 1) 9 (.tmp 19) 20 (o52 + (s.Node.Role : Int).toNat * 1) (.string (mkS x49)) hb56 ?_ (hv := (cut_get hk57 0 rfl))
   refine Op.pg 5 [(3, .string (mkS x49))] ?_
   refine At.rt (.string (mkS x49)) ?_
   have s58 := s41.drop.drop.drop
   refine hR _ _ _ _ s58 ⟨?_, rfl, rfl⟩
   exact (eqS (by (have h5 : (rolesL.length : Int) = 5 := rfl; exact sayR (by omega) hx50)))
  ·replace c39 := of_decide_eq_false c39
   refine At.go 7 1 [(3, .string (mkS []))] ?_
   refine At.rt (.string (mkS [])) ?_
   have s59 := s30.drop.drop
   refine hR _ _ _ _ s59 ⟨?_, rfl, rfl⟩
   exact (eqS (by (have h5 : (rolesL.length : Int) = 5 := rfl; exact sayR0 (by omega))))
 ·replace c28 := of_decide_eq_false c28
  refine Op.pg 3 [(16, .bool false)] ?_
  refine At.ifF 16 6 ?_
  refine At.go 7 1 [(3, .string (mkS []))] ?_
  refine At.rt (.string (mkS [])) ?_
  have s60 := s24.drop
  refine hR _ _ _ _ s60 ⟨?_, rfl, rfl⟩
  exact (eqS (by (have h5 : (rolesL.length : Int) = 5 := rfl; exact sayR0 (by omega))))
theorem sy_tow (B : World) (h : Heap) (g : GH) (hg : Sub g h) (hG : Glob g) (s : Step) (v_s_6 : Value) (h_s_6 : SlR g 5 kU8 v_s_6 s.Data) (v_s_7 : Value) (h_s_7 : SlR g 3 (kInt .i64) v_s_7 s.Keeps) (b_at : Nat) (hb_at : g b_at = some (.cells #[.func (.func 96) #[] #[]] 157 (0, 0))) (hP : Pow10 g) (ho : stOk s) :
  Spec Tryz.prog B 135 #[.agg #[.int .i64 s.Kind, .int .i64 s.Role, .int .i64 s.K, .int .i64 s.Power, .int .i64 s.Node.Role, .int .i64 s.Node.N, v_s_6, v_s_7], .pointer (some ⟨b_at, 0, none⟩)] h g [] (fun rv g' L' => rv = .string (mkS (wordW s 116)) ∧ g' = g ∧ L' = []) := by
 obtain ⟨a_s_6, n_s_6, rfl⟩ := h_s_6.form
 obtain ⟨a_s_7, n_s_7, rfl⟩ := h_s_7.form
 refine Spec.at' Tryz.func135 ?_
 intro R hR
 have s0 := St.init hg
 refine At.rg 2 ?_
 refine Op.box (T := 94) (x := (.tmp 0)) (d := 2) (cs := #[.int .i64 s.Kind, .int .i64 s.Role, .int .i64 s.K, .int .i64 s.Power, .int .i64 s.Node.Role, .int .i64 s.Node.N, .slice a_s_6 s.Data.length n_s_6, .slice a_s_7 s.Keeps.length n_s_7]) (by kernel_rfl) (by kernel_rfl) s0 ?_
 intro b20 h21 s22
 refine Op.pg 1 [] ?_
 refine At.rg 5 ?_
 refine Op.ld (n := 1) 157 (.tmp 1) 5 0 (.func (.func 96) #[] #[]) (s22.sub _ _ hb_at) ?_
 refine Op.callV (dst := some 6) (x := (.tmp 5)) (ops := #[(.tmp 2)]) (ts := #[155]) (f := 96) (first := #[]) (cap := #[]) (Lc := []) (L := [[(b20, Obj.cells #[.int .i64 s.Kind, .int .i64 s.Role, .int .i64 s.K, .int .i64 s.Power, .int .i64 s.Node.Role, .int .i64 s.Node.N, .slice a_s_6 s.Data.length n_s_6, .slice a_s_7 s.Keeps.length n_s_7] 94 (0, 0))]]) (args := #[.pointer (some ⟨b20, 0, none⟩)]) (by kernel_rfl) (by kernel_rfl) (Enterable.of (by kernel_rfl)) (by kernel_rfl) s22 (at_to _ _ _ s22.sub hG b20  ) (fun _ _ h => absurd h (ids_nil _)) ?_
 rintro _ g25 _ h23 hle26 s24 ⟨rfl, hgg, rfl⟩; subst g25; clear hle26
 refine Op.px 1 [(7, .pointer (some ⟨b20, 1, none⟩))] ?_
 refine Op.ld (n := 1) 3 (.tmp 7) 8 1 (.int .i64 s.Role) (s24.chunk 0 rfl) ?_
 refine Op.pg 2 [(4, .int .i64 s.Role)] ?_
 refine At.rp 8 3 [(11, .bool (decide (s.Role > (0 : Int))))] ?_
 refine Op.wb (decide (s.Role > (0 : Int))) 11 (fun c27 => ?_) (fun c28 => ?_)
 ·replace c27 := of_decide_eq_true c27
  refine Op.px 1 [(12, .int .i64 s.Role)] ?_
  refine Op.c0 (some 13) (rolesS _ _ _ s24.sub hG   ) s24 ?_
  rintro _ g36 _ h29 hle37 s30 ⟨v31, ch32, rfl, R33, hgg, rfl⟩; subst g36; clear hle37
  obtain ⟨a34, n35, rfl⟩ := R33.form
  refine Op.pg 3 [(16, .bool (decide (s.Role < ((rolesL).length : Int))))] ?_
  refine At.if' (decide (s.Role < ((rolesL).length : Int))) 16 4 6 (fun c38 => ?_) (fun c39 => ?_)
  ·replace c38 := of_decide_eq_true c38
   refine At.rg 5 ?_
   refine Op.c0 (some 17) (rolesS _ _ _ s30.sub hG   ) s30 ?_
   rintro _ g47 _ h40 hle48 s41 ⟨v42, ch43, rfl, R44, hgg, rfl⟩; subst g47; clear hle48
   obtain ⟨a45, n46, rfl⟩ := R44.form
   refine Op.px 1 [(18, .int .i64 s.Role)] ?_
   obtain ⟨x49, hx50⟩ := getAt (l := rolesL) (i := s.Role) (by omega)
   obtain ⟨b51, o52, cu53, fz54, ha55, hb56, hk57⟩ := SlH.at_ (R44.toH s41 0 rfl) _ hx50
   cases ha55
   refine Op.ix 54 9 1 16 ((rolesL).length) n46 (.tmp 17) (.tmp 18) 19 b51 o52 s.Role (by omega) (by omega) ?_
   replace hk57 : cut _ _ _ = [.string (mkS x49)] := hk57
   refine Op.ld (n := 1) 9 (.tmp 19) 20 (o52 + (s.Role : Int).toNat * 1) (.string (mkS x49)) hb56 ?_ (hv := (cut_get hk57 0 rfl))
   refine Op.pg 5 [(3, .string (mkS x49))] ?_
   refine At.rt (.string (mkS x49)) ?_
   have s58 := s41.drop.drop.drop
   refine hR _ _ _ _ s58 ⟨?_, rfl, rfl⟩
   exact (eqS (by (have h5 : (rolesL.length : Int) = 5 := rfl; exact sayT (by omega) hx50)))
  ·replace c39 := of_decide_eq_false c39
   refine At.go 7 1 [(3, .string (mkS []))] ?_
   refine At.rt (.string (mkS [])) ?_
   have s59 := s30.drop.drop
   refine hR _ _ _ _ s59 ⟨?_, rfl, rfl⟩
   exact (eqS (by (have h5 : (rolesL.length : Int) = 5 := rfl; exact sayT0 (by omega))))
 ·replace c28 := of_decide_eq_false c28
  refine Op.pg 3 [(16, .bool false)] ?_
  refine At.ifF 16 6 ?_
  refine At.go 7 1 [(3, .string (mkS []))] ?_
  refine At.rt (.string (mkS [])) ?_
  have s60 := s24.drop
  refine hR _ _ _ _ s60 ⟨?_, rfl, rfl⟩
  exact (eqS (by (have h5 : (rolesL.length : Int) = 5 := rfl; exact sayT0 (by omega))))
theorem sy_n (B : World) (h : Heap) (g : GH) (hg : Sub g h) (hG : Glob g) (s : Step) (v_s_6 : Value) (h_s_6 : SlR g 5 kU8 v_s_6 s.Data) (v_s_7 : Value) (h_s_7 : SlR g 3 (kInt .i64) v_s_7 s.Keeps) (b_at : Nat) (hb_at : g b_at = some (.cells #[.func (.func 95) #[] #[]] 157 (0, 0))) (hP : Pow10 g) (ho : stOk s) :
  Spec Tryz.prog B 137 #[.agg #[.int .i64 s.Kind, .int .i64 s.Role, .int .i64 s.K, .int .i64 s.Power, .int .i64 s.Node.Role, .int .i64 s.Node.N, v_s_6, v_s_7], .pointer (some ⟨b_at, 0, none⟩)] h g [] (fun rv g' L' => rv = .string (mkS (wordW s 110)) ∧ g' = g ∧ L' = []) := by
 obtain ⟨a_s_6, n_s_6, rfl⟩ := h_s_6.form
 obtain ⟨a_s_7, n_s_7, rfl⟩ := h_s_7.form
 refine Spec.at' Tryz.func137 ?_
 intro R hR
 have s0 := St.init hg
 refine At.rg 2 ?_
 refine Op.box (T := 94) (x := (.tmp 0)) (d := 2) (cs := #[.int .i64 s.Kind, .int .i64 s.Role, .int .i64 s.K, .int .i64 s.Power, .int .i64 s.Node.Role, .int .i64 s.Node.N, .slice a_s_6 s.Data.length n_s_6, .slice a_s_7 s.Keeps.length n_s_7]) (by kernel_rfl) (by kernel_rfl) s0 ?_
 intro b20 h21 s22
 refine Op.pg 1 [] ?_
 refine At.rg 6 ?_
 refine Op.ld (n := 1) 157 (.tmp 1) 4 0 (.func (.func 95) #[] #[]) (s22.sub _ _ hb_at) ?_
 refine Op.callV (dst := some 5) (x := (.tmp 4)) (ops := #[(.tmp 2)]) (ts := #[155]) (f := 95) (first := #[]) (cap := #[]) (Lc := []) (L := [[(b20, Obj.cells #[.int .i64 s.Kind, .int .i64 s.Role, .int .i64 s.K, .int .i64 s.Power, .int .i64 s.Node.Role, .int .i64 s.Node.N, .slice a_s_6 s.Data.length n_s_6, .slice a_s_7 s.Keeps.length n_s_7] 94 (0, 0))]]) (args := #[.pointer (some ⟨b20, 0, none⟩)]) (by kernel_rfl) (by kernel_rfl) (Enterable.of (by kernel_rfl)) (by kernel_rfl) s22 (at_n _ _ _ s22.sub hG b20  ) (fun _ _ h => absurd h (ids_nil _)) ?_
 rintro _ g25 _ h23 hle26 s24 ⟨rfl, hgg, rfl⟩; subst g25; clear hle26
 refine Op.px 1 [(6, .pointer (some ⟨b20, 5, none⟩))] ?_
 refine Op.ld (n := 1) 3 (.tmp 6) 7 5 (.int .i64 s.Node.N) (s24.chunk 0 rfl) ?_
 refine Op.c1 8 (itoa_spec _ _ _ s24.sub hG s.Node.N hP (by ((try dsimp only) <;> ((unfold stOk at ho; omega)))) (by ((try dsimp only) <;> ((unfold stOk at ho; omega)))) ) s24 ?_
 intro h27 s28
 refine Op.pg 2 [(3, .string (mkS (Lib.itoa s.Node.N)))] ?_
 refine At.rt (.string (mkS (Lib.itoa s.Node.N))) ?_
 have s31 := s28.drop
 refine hR _ _ _ _ s31 ⟨?_, rfl, rfl⟩
 exact (eqS (by rfl))
theorem sy_k (B : World) (h : Heap) (g : GH) (hg : Sub g h) (hG : Glob g) (s : Step) (v_s_6 : Value) (h_s_6 : SlR g 5 kU8 v_s_6 s.Data) (v_s_7 : Value) (h_s_7 : SlR g 3 (kInt .i64) v_s_7 s.Keeps) (b_at : Nat) (hb_at : g b_at = some (.cells #[.func (.func 97) #[] #[]] 157 (0, 0))) (hP : Pow10 g) (ho : stOk s) :
  Spec Tryz.prog B 137 #[.agg #[.int .i64 s.Kind, .int .i64 s.Role, .int .i64 s.K, .int .i64 s.Power, .int .i64 s.Node.Role, .int .i64 s.Node.N, v_s_6, v_s_7], .pointer (some ⟨b_at, 0, none⟩)] h g [] (fun rv g' L' => rv = .string (mkS (wordW s 107)) ∧ g' = g ∧ L' = []) := by
 obtain ⟨a_s_6, n_s_6, rfl⟩ := h_s_6.form
 obtain ⟨a_s_7, n_s_7, rfl⟩ := h_s_7.form
 refine Spec.at' Tryz.func137 ?_
 intro R hR
 have s0 := St.init hg
 refine At.rg 2 ?_
 refine Op.box (T := 94) (x := (.tmp 0)) (d := 2) (cs := #[.int .i64 s.Kind, .int .i64 s.Role, .int .i64 s.K, .int .i64 s.Power, .int .i64 s.Node.Role, .int .i64 s.Node.N, .slice a_s_6 s.Data.length n_s_6, .slice a_s_7 s.Keeps.length n_s_7]) (by kernel_rfl) (by kernel_rfl) s0 ?_
 intro b20 h21 s22
 refine Op.pg 1 [] ?_
 refine At.rg 6 ?_
 refine Op.ld (n := 1) 157 (.tmp 1) 4 0 (.func (.func 97) #[] #[]) (s22.sub _ _ hb_at) ?_
 refine Op.callV (dst := some 5) (x := (.tmp 4)) (ops := #[(.tmp 2)]) (ts := #[155]) (f := 97) (first := #[]) (cap := #[]) (Lc := []) (L := [[(b20, Obj.cells #[.int .i64 s.Kind, .int .i64 s.Role, .int .i64 s.K, .int .i64 s.Power, .int .i64 s.Node.Role, .int .i64 s.Node.N, .slice a_s_6 s.Data.length n_s_6, .slice a_s_7 s.Keeps.length n_s_7] 94 (0, 0))]]) (args := #[.pointer (some ⟨b20, 0, none⟩)]) (by kernel_rfl) (by kernel_rfl) (Enterable.of (by kernel_rfl)) (by kernel_rfl) s22 (at_k _ _ _ s22.sub hG b20  ) (fun _ _ h => absurd h (ids_nil _)) ?_
 rintro _ g25 _ h23 hle26 s24 ⟨rfl, hgg, rfl⟩; subst g25; clear hle26
 refine Op.px 1 [(6, .pointer (some ⟨b20, 2, none⟩))] ?_
 refine Op.ld (n := 1) 3 (.tmp 6) 7 2 (.int .i64 s.K) (s24.chunk 0 rfl) ?_
 refine Op.c1 8 (itoa_spec _ _ _ s24.sub hG s.K hP (by ((try dsimp only) <;> ((unfold stOk at ho; omega)))) (by ((try dsimp only) <;> ((unfold stOk at ho; omega)))) ) s24 ?_
 intro h27 s28
 refine Op.pg 2 [(3, .string (mkS (Lib.itoa s.K)))] ?_
 refine At.rt (.string (mkS (Lib.itoa s.K))) ?_
 have s31 := s28.drop
 refine hR _ _ _ _ s31 ⟨?_, rfl, rfl⟩
 exact (eqS (by rfl))
theorem sy_power (B : World) (h : Heap) (g : GH) (hg : Sub g h) (hG : Glob g) (s : Step) (v_s_6 : Value) (h_s_6 : SlR g 5 kU8 v_s_6 s.Data) (v_s_7 : Value) (h_s_7 : SlR g 3 (kInt .i64) v_s_7 s.Keeps) (b_at : Nat) (hb_at : g b_at = some (.cells #[.func (.func 98) #[] #[]] 157 (0, 0))) (hP : Pow10 g) (ho : stOk s) :
  Spec Tryz.prog B 137 #[.agg #[.int .i64 s.Kind, .int .i64 s.Role, .int .i64 s.K, .int .i64 s.Power, .int .i64 s.Node.Role, .int .i64 s.Node.N, v_s_6, v_s_7], .pointer (some ⟨b_at, 0, none⟩)] h g [] (fun rv g' L' => rv = .string (mkS (wordW s 112)) ∧ g' = g ∧ L' = []) := by
 obtain ⟨a_s_6, n_s_6, rfl⟩ := h_s_6.form
 obtain ⟨a_s_7, n_s_7, rfl⟩ := h_s_7.form
 refine Spec.at' Tryz.func137 ?_
 intro R hR
 have s0 := St.init hg
 refine At.rg 2 ?_
 refine Op.box (T := 94) (x := (.tmp 0)) (d := 2) (cs := #[.int .i64 s.Kind, .int .i64 s.Role, .int .i64 s.K, .int .i64 s.Power, .int .i64 s.Node.Role, .int .i64 s.Node.N, .slice a_s_6 s.Data.length n_s_6, .slice a_s_7 s.Keeps.length n_s_7]) (by kernel_rfl) (by kernel_rfl) s0 ?_
 intro b20 h21 s22
 refine Op.pg 1 [] ?_
 refine At.rg 6 ?_
 refine Op.ld (n := 1) 157 (.tmp 1) 4 0 (.func (.func 98) #[] #[]) (s22.sub _ _ hb_at) ?_
 refine Op.callV (dst := some 5) (x := (.tmp 4)) (ops := #[(.tmp 2)]) (ts := #[155]) (f := 98) (first := #[]) (cap := #[]) (Lc := []) (L := [[(b20, Obj.cells #[.int .i64 s.Kind, .int .i64 s.Role, .int .i64 s.K, .int .i64 s.Power, .int .i64 s.Node.Role, .int .i64 s.Node.N, .slice a_s_6 s.Data.length n_s_6, .slice a_s_7 s.Keeps.length n_s_7] 94 (0, 0))]]) (args := #[.pointer (some ⟨b20, 0, none⟩)]) (by kernel_rfl) (by kernel_rfl) (Enterable.of (by kernel_rfl)) (by kernel_rfl) s22 (at_power _ _ _ s22.sub hG b20  ) (fun _ _ h => absurd h (ids_nil _)) ?_
 rintro _ g25 _ h23 hle26 s24 ⟨rfl, hgg, rfl⟩; subst g25; clear hle26
 refine Op.px 1 [(6, .pointer (some ⟨b20, 3, none⟩))] ?_
 refine Op.ld (n := 1) 3 (.tmp 6) 7 3 (.int .i64 s.Power) (s24.chunk 0 rfl) ?_
 refine Op.c1 8 (itoa_spec _ _ _ s24.sub hG s.Power hP (by ((try dsimp only) <;> ((unfold stOk at ho; omega)))) (by ((try dsimp only) <;> ((unfold stOk at ho; omega)))) ) s24 ?_
 intro h27 s28
 refine Op.pg 2 [(3, .string (mkS (Lib.itoa s.Power)))] ?_
 refine At.rt (.string (mkS (Lib.itoa s.Power))) ?_
 have s31 := s28.drop
 refine hR _ _ _ _ s31 ⟨?_, rfl, rfl⟩
 exact (eqS (by rfl))
theorem sy_data (B : World) (h : Heap) (g : GH) (hg : Sub g h) (hG : Glob g) (s : Step) (v_s_6 : Value) (h_s_6 : SlR g 5 kU8 v_s_6 s.Data) (v_s_7 : Value) (h_s_7 : SlR g 3 (kInt .i64) v_s_7 s.Keeps) (hP : Pow10 g) (ho : stOk s) :
  Spec Tryz.prog B 101 #[.agg #[.int .i64 s.Kind, .int .i64 s.Role, .int .i64 s.K, .int .i64 s.Power, .int .i64 s.Node.Role, .int .i64 s.Node.N, v_s_6, v_s_7]] h g [] (fun rv g' L' => rv = .string (mkS (wordW s 104)) ∧ g' = g ∧ L' = []) := by
 obtain ⟨a_s_6, n_s_6, rfl⟩ := h_s_6.form
 obtain ⟨a_s_7, n_s_7, rfl⟩ := h_s_7.form
 refine Spec.at' Tryz.func101 ?_
 intro R hR
 have s0 := St.init hg
 refine At.rg 2 ?_
 refine Op.box (T := 94) (x := (.tmp 0)) (d := 1) (cs := #[.int .i64 s.Kind, .int .i64 s.Role, .int .i64 s.K, .int .i64 s.Power, .int .i64 s.Node.Role, .int .i64 s.Node.N, .slice a_s_6 s.Data.length n_s_6, .slice a_s_7 s.Keeps.length n_s_7]) (by kernel_rfl) (by kernel_rfl) s0 ?_
 intro b20 h21 s22
 refine Op.pg 1 [] ?_
 refine At.rp 4 1 [(3, .pointer (some ⟨b20, 6, none⟩))] ?_
 refine Op.ld (n := 1) 29 (.tmp 3) 4 6 (.slice a_s_6 s.Data.length n_s_6) (s22.chunk 0 rfl) ?_
 refine Op.c1 5 (hexScr _ _ _ s22.sub hG _ _ h_s_6 (by ((try dsimp only) <;> ((unfold stOk at ho; omega)))) ) s22 ?_
 intro h23 s24
 refine Op.pg 2 [(2, .string (mkS (hexW s.Data)))] ?_
 refine At.rt (.string (mkS (hexW s.Data))) ?_
 have s27 := s24.drop
 refine hR _ _ _ _ s27 ⟨?_, rfl, rfl⟩
 exact (eqS (by rfl))
theorem roleF (B : World) (h : Heap) (g : GH) (hg : Sub g h) (hG : Glob g) (f_at : Nat)  :
  Spec Tryz.prog B 92 #[.func (.func f_at) #[] #[]] h g [] (fun rv g' L' => ∃ b0, rv = .agg #[.func (.func 132) #[] #[.pointer (some ⟨b0, 0, none⟩)], .func (.func 135) #[] #[.pointer (some ⟨b0, 0, none⟩)]] ∧ g' b0 = some (.cells #[.func (.func f_at) #[] #[]] 157 (0, 0)) ∧ L' = []) := by
 refine Spec.at' Tryz.func92 ?_
 intro R hR
 have s0 := St.init hg
 refine At.rg 2 ?_
 refine Op.box (T := 157) (x := (.tmp 0)) (d := 1) (cs := #[.func (.func f_at) #[] #[]]) (by kernel_rfl) (by kernel_rfl) s0 ?_
 intro b20 h21 s22
 refine Op.al 2 153 #[.nilFunc, .nilFunc] s22 ?_
 intro b23 h24 s25
 refine Op.gt 1 ?_
 refine At.rp 4 3 [(5, .agg #[.func (.func 132) #[] #[.pointer (some ⟨b20, 0, none⟩)], .func (.func 135) #[] #[.pointer (some ⟨b20, 0, none⟩)]])] ?_
 refine Op.store (T := 153) (x := (.tmp 2)) (y := (.tmp 5)) (b := b23) (o := 0) (vs := [.func (.func 132) #[] #[.pointer (some ⟨b20, 0, none⟩)], .func (.func 135) #[] #[.pointer (some ⟨b20, 0, none⟩)]]) (a? := true) (n := 2) (by kernel_rfl) (by kernel_rfl) (by kernel_rfl) (by kernel_rfl) rfl (by simp [Value.oneCell']) s25 0 rfl (Nat.le_of_ble_eq_true (by kernel_rfl)) (cs := #[.nilFunc, .nilFunc]) (cs' := #[.func (.func 132) #[] #[.pointer (some ⟨b20, 0, none⟩)], .func (.func 135) #[] #[.pointer (some ⟨b20, 0, none⟩)]]) (by kernel_rfl) (fun _ => trivial) ?_
 intro h26 s27
 refine Op.gt 2 ?_
 obtain ⟨s29, hle30⟩ := St.freeze (s27.front 1 rfl)
 have hb31 := gadd_one (g := g) b20 (.cells #[.func (.func f_at) #[] #[]] 157 (0, 0))
 generalize hg_g28 : gadd g _ = g28 at s29 hle30 hb31; clear hg_g28
 replace hG := hG.mono hle30
 refine At.retM (f := Tryz.f92) (vs := [.agg #[.func (.func 132) #[] #[.pointer (some ⟨b20, 0, none⟩)], .func (.func 135) #[] #[.pointer (some ⟨b20, 0, none⟩)]]]) (rl := [.cell 2 153]) (v := .agg #[.func (.func 132) #[] #[.pointer (some ⟨b20, 0, none⟩)], .func (.func 135) #[] #[.pointer (some ⟨b20, 0, none⟩)]]) (by kernel_rfl) (by kernel_rfl) ⟨⟨_, _, rfl, resAgg (n := 2) (by kernel_rfl) (s29.chunk 0 rfl) (by kernel_rfl) rfl⟩, trivial⟩ rfl ?_
 have s32 := s29.drop
 refine hR _ _ _ _ s32 ⟨b20, ?_, ?_, rfl⟩
 ·exact (by rfl)
 ·exact hb31
theorem numF (B : World) (h : Heap) (g : GH) (hg : Sub g h) (hG : Glob g) (f_at : Nat)  :
  Spec Tryz.prog B 94 #[.func (.func f_at) #[] #[]] h g [] (fun rv g' L' => ∃ b0, rv = .agg #[.func (.func 136) #[] #[.pointer (some ⟨b0, 0, none⟩)], .func (.func 137) #[] #[.pointer (some ⟨b0, 0, none⟩)]] ∧ g' b0 = some (.cells #[.func (.func f_at) #[] #[]] 157 (0, 0)) ∧ L' = []) := by
 refine Spec.at' Tryz.func94 ?_
 intro R hR
 have s0 := St.init hg
 refine At.rg 2 ?_
 refine Op.box (T := 157) (x := (.tmp 0)) (d := 1) (cs := #[.func (.func f_at) #[] #[]]) (by kernel_rfl) (by kernel_rfl) s0 ?_
 intro b20 h21 s22
 refine Op.al 2 153 #[.nilFunc, .nilFunc] s22 ?_
 intro b23 h24 s25
 refine Op.gt 1 ?_
 refine At.rp 4 3 [(5, .agg #[.func (.func 136) #[] #[.pointer (some ⟨b20, 0, none⟩)], .func (.func 137) #[] #[.pointer (some ⟨b20, 0, none⟩)]])] ?_
 refine Op.store (T := 153) (x := (.tmp 2)) (y := (.tmp 5)) (b := b23) (o := 0) (vs := [.func (.func 136) #[] #[.pointer (some ⟨b20, 0, none⟩)], .func (.func 137) #[] #[.pointer (some ⟨b20, 0, none⟩)]]) (a? := true) (n := 2) (by kernel_rfl) (by kernel_rfl) (by kernel_rfl) (by kernel_rfl) rfl (by simp [Value.oneCell']) s25 0 rfl (Nat.le_of_ble_eq_true (by kernel_rfl)) (cs := #[.nilFunc, .nilFunc]) (cs' := #[.func (.func 136) #[] #[.pointer (some ⟨b20, 0, none⟩)], .func (.func 137) #[] #[.pointer (some ⟨b20, 0, none⟩)]]) (by kernel_rfl) (fun _ => trivial) ?_
 intro h26 s27
 refine Op.gt 2 ?_
 obtain ⟨s29, hle30⟩ := St.freeze (s27.front 1 rfl)
 have hb31 := gadd_one (g := g) b20 (.cells #[.func (.func f_at) #[] #[]] 157 (0, 0))
 generalize hg_g28 : gadd g _ = g28 at s29 hle30 hb31; clear hg_g28
 replace hG := hG.mono hle30
 refine At.retM (f := Tryz.f94) (vs := [.agg #[.func (.func 136) #[] #[.pointer (some ⟨b20, 0, none⟩)], .func (.func 137) #[] #[.pointer (some ⟨b20, 0, none⟩)]]]) (rl := [.cell 2 153]) (v := .agg #[.func (.func 136) #[] #[.pointer (some ⟨b20, 0, none⟩)], .func (.func 137) #[] #[.pointer (some ⟨b20, 0, none⟩)]]) (by kernel_rfl) (by kernel_rfl) ⟨⟨_, _, rfl, resAgg (n := 2) (by kernel_rfl) (s29.chunk 0 rfl) (by kernel_rfl) rfl⟩, trivial⟩ rfl ?_
 have s32 := s29.drop
 refine hR _ _ _ _ s32 ⟨b20, ?_, ?_, rfl⟩
 ·exact (by rfl)
 ·exact hb31
end Go.Proofs.YtmjebehhpojihaaGreatDoor.Sw
namespace Go.Proofs.YtmjebehhpojihaaGreatDoor.Sw
open Go
set_option maxRecDepth 100000
set_option linter.unusedVariables false
set_option linter.unusedSimpArgs false
set_option linter.deprecated false
def rdF : scriptWord → Nat
 | .who => 132 | .tow => 132 | .n => 136 | .k => 136 | .power => 136 | .data => 99 | .nul => 0
def syF : scriptWord → Nat
 | .who => 135 | .tow => 135 | .n => 137 | .k => 137 | .power => 137 | .data => 101 | .nul => 0
def WdAt (g : GH) : scriptWord → Array Value → Prop
 | .nul, _ => False
 | .data, cp => cp = #[]
 | .who, cp => ∃ b, cp = #[.pointer (some ⟨b, 0, none⟩)] ∧ g b = some (.cells #[.func (.func 93) #[] #[]] 157 (0, 0))
 | .n, cp => ∃ b, cp = #[.pointer (some ⟨b, 0, none⟩)] ∧ g b = some (.cells #[.func (.func 95) #[] #[]] 157 (0, 0))
 | .tow, cp => ∃ b, cp = #[.pointer (some ⟨b, 0, none⟩)] ∧ g b = some (.cells #[.func (.func 96) #[] #[]] 157 (0, 0))
 | .k, cp => ∃ b, cp = #[.pointer (some ⟨b, 0, none⟩)] ∧ g b = some (.cells #[.func (.func 97) #[] #[]] 157 (0, 0))
 | .power, cp => ∃ b, cp = #[.pointer (some ⟨b, 0, none⟩)] ∧ g b = some (.cells #[.func (.func 98) #[] #[]] 157 (0, 0))
theorem WdAt.mono {g g' : GH} {w : scriptWord} {cp : Array Value} (h : WdAt g w cp) (hg : gle g g') : WdAt g' w cp := by
 cases w
 case nul => exact h
 case data => exact h
 all_goals (obtain ⟨b, h1, h2⟩ := h; exact ⟨b, h1, hg _ _ h2⟩)
def kscriptWord : Kd scriptWord where
 sz := 2
 K g w cs := (w = .nul ∧ cs = [.nilFunc, .nilFunc]) ∨ ∃ cp, WdAt g w cp ∧ cs = [.func (.func (rdF w)) #[] cp, .func (.func (syF w)) #[] cp]
 len h := by rcases h with ⟨_, rfl⟩ | ⟨cp, _, rfl⟩ <;> rfl
 one h := by
  rcases h with ⟨_, rfl⟩ | ⟨cp, _, rfl⟩ <;> simp [Value.oneCell']
 mono hg h := by
  rcases h with h | ⟨cp, h, e⟩
  ·exact .inl h
  ·exact .inr ⟨cp, h.mono hg, e⟩
 zv := .nul
 zc := [.nilFunc, .nilFunc]
 zK _ := .inl ⟨rfl, rfl⟩
theorem word_open {g : GH} {w : scriptWord} {cs : List Value} (hn : w ≠ .nul) (h : kscriptWord.K g w cs) : ∃ cp, WdAt g w cp ∧ cs = [.func (.func (rdF w)) #[] cp, .func (.func (syF w)) #[] cp] := by
 rcases h with ⟨h, _⟩ | h
 ·exact absurd h hn
 ·exact h
theorem rd_ent (w : scriptWord) (hn : w ≠ .nul) : Enterable Tryz.prog (rdF w) := by
 cases w
 case nul => exact absurd rfl hn
 all_goals exact Enterable.of (by kernel_rfl)
theorem sy_ent (w : scriptWord) (hn : w ≠ .nul) : Enterable Tryz.prog (syF w) := by
 cases w
 case nul => exact absurd rfl hn
 all_goals exact Enterable.of (by kernel_rfl)
theorem read_spec (B : World) (h : Heap) (g : GH) (hg : Sub g h) (hG : Glob g) (W : scriptWord) (hn : W ≠ .nul) (cp : Array Value) (hc : WdAt g W cp) (b_s : Nat) (s : Step) (c_s : Chunk) (o_s : IsStep g b_s s c_s) (w : List UInt8) (hw : w.length ≤ 100000000) (hs : St h g (ids [c_s]) g [c_s] h) :
  Spec Tryz.prog B (rdF W) ((#[.pointer (some ⟨b_s, 0, none⟩), .string (mkS w)] : Array Value) ++ cp) h g [c_s] (fun rv g' L' => ∃ k_s, rv = .bool (setS W.ch s w).2 ∧ IsStep g' b_s (setS W.ch s w).1 k_s ∧ g' = g ∧ L' = [k_s]) := by
 cases W
 case nul => exact absurd rfl hn
 case data => obtain rfl : cp = #[] := hc; exact rd_data B h g hg hG b_s s c_s o_s w hw hs
 case who => obtain ⟨b, rfl, hb⟩ := hc; exact rd_who B h g hg hG b_s s c_s o_s w b hb hw hs
 case n => obtain ⟨b, rfl, hb⟩ := hc; exact rd_n B h g hg hG b_s s c_s o_s w b hb hw hs
 case tow => obtain ⟨b, rfl, hb⟩ := hc; exact rd_tow B h g hg hG b_s s c_s o_s w b hb hw hs
 case k => obtain ⟨b, rfl, hb⟩ := hc; exact rd_k B h g hg hG b_s s c_s o_s w b hb hw hs
 case power => obtain ⟨b, rfl, hb⟩ := hc; exact rd_power B h g hg hG b_s s c_s o_s w b hb hw hs
theorem say_spec (B : World) (h : Heap) (g : GH) (hg : Sub g h) (hG : Glob g) (W : scriptWord) (hn : W ≠ .nul) (cp : Array Value) (hc : WdAt g W cp) (s : Step) (v6 : Value) (h6 : SlR g 5 kU8 v6 s.Data) (v7 : Value) (h7 : SlR g 3 (kInt .i64) v7 s.Keeps) (hP : Pow10 g) (ho : stOk s) :
  Spec Tryz.prog B (syF W) ((#[.agg #[.int .i64 s.Kind, .int .i64 s.Role, .int .i64 s.K, .int .i64 s.Power, .int .i64 s.Node.Role, .int .i64 s.Node.N, v6, v7]] : Array Value) ++ cp) h g [] (fun rv g' L' => rv = .string (mkS (wordW s W.ch)) ∧ g' = g ∧ L' = []) := by
 cases W
 case nul => exact absurd rfl hn
 case data => obtain rfl : cp = #[] := hc; exact sy_data B h g hg hG s v6 h6 v7 h7 hP ho
 case who => obtain ⟨b, rfl, hb⟩ := hc; exact sy_who B h g hg hG s v6 h6 v7 h7 b hb hP ho
 case n => obtain ⟨b, rfl, hb⟩ := hc; exact sy_n B h g hg hG s v6 h6 v7 h7 b hb hP ho
 case tow => obtain ⟨b, rfl, hb⟩ := hc; exact sy_tow B h g hg hG s v6 h6 v7 h7 b hb hP ho
 case k => obtain ⟨b, rfl, hb⟩ := hc; exact sy_k B h g hg hG s v6 h6 v7 h7 b hb hP ho
 case power => obtain ⟨b, rfl, hb⟩ := hc; exact sy_power B h g hg hG s v6 h6 v7 h7 b hb hP ho
inductive All2 {α β : Type} (R : α → β → Prop) : List α → List β → Prop where
 | nil : All2 R [] []
 | cons {a : α} {b : β} {l : List α} {m : List β} (h : R a b) (t : All2 R l m) : All2 R (a :: l) (b :: m)
def EntOk (g : GH) (p : Str × Value) (q : Str × scriptForm) : Prop := p.1 = q.1 ∧ ∃ v, p.2 = .agg #[.int .i64 q.2.kind, .int .i64 q.2.role, v, .bool q.2.more] ∧ SlR g 153 kscriptWord v q.2.words
def FormsOk (g : GH) (m : Nat) : Prop := ∃ es clk ks, g m = some (.map es clk) ∧ MapR encS es clk ks ∧ All2 (EntOk g) ks formsT
theorem EntOk.mono {g g' : GH} {p : Str × Value} {q : Str × scriptForm} (h : EntOk g p q) (hg : gle g g') : EntOk g' p q := let ⟨h1, v, h2, h3⟩ := h; ⟨h1, v, h2, h3.mono hg⟩
theorem FormsOk.mono {g g' : GH} {m : Nat} (h : FormsOk g m) (hg : gle g g') : FormsOk g' m := by
 obtain ⟨es, clk, ks, h1, h2, h3⟩ := h
 refine ⟨es, clk, ks, hg _ _ h1, h2, ?_⟩
 clear h2
 revert h3
 generalize formsT = T
 intro h3
 induction h3 with
 | nil => exact .nil
 | cons h _ ih => exact .cons (h.mono hg) ih
theorem look2 {g : GH} {w : Str} : ∀ {ks : List (Str × Value)} {T : List (Str × scriptForm)}, All2 (EntOk g) ks T →
  ((T.find? fun p => decide (p.1 = w)) = none ∧ lookK ks w = none) ∨ ∃ n f v, (T.find? fun p => decide (p.1 = w)) = some (n, f) ∧ lookK ks w = some (.agg #[.int .i64 f.kind, .int .i64 f.role, v, .bool f.more]) ∧ SlR g 153 kscriptWord v f.words
 | _, _, .nil => .inl ⟨rfl, rfl⟩
 | _, _, .cons (a := p) (b := q) h ht => by
  obtain ⟨h1, v, h2, h3⟩ := h
  by_cases hw : q.1 = w
  ·refine .inr ⟨q.1, q.2, v, ?_, ?_, h3⟩
   ·rw [List.find?_cons, decide_eq_true hw]
   ·unfold lookK
    rw [List.find?_cons, decide_eq_true (by rw [h1]; exact hw), ← h2]
    rfl
  ·rcases look2 ht with ⟨a1, a2⟩ | ⟨n, f, v', a1, a2, a3⟩
   ·refine .inl ⟨?_, ?_⟩
    ·rw [List.find?_cons, decide_eq_false hw]; exact a1
    ·unfold lookK at *
     rw [List.find?_cons, decide_eq_false (by rw [h1]; exact hw)]; exact a2
   ·refine .inr ⟨n, f, v', ?_, ?_, a3⟩
    ·rw [List.find?_cons, decide_eq_false hw]; exact a1
    ·unfold lookK at *
     rw [List.find?_cons, decide_eq_false (by rw [h1]; exact hw)]; exact a2
theorem forms_look {g : GH} {ks : List (Str × Value)} (h : All2 (EntOk g) ks formsT) (w : Str) :
  (findF w = none ∧ lookK ks w = none) ∨ ∃ f v, findF w = some f ∧ lookK ks w = some (.agg #[.int .i64 f.kind, .int .i64 f.role, v, .bool f.more]) ∧ SlR g 153 kscriptWord v f.words := by
 rcases look2 (w := w) h with ⟨a1, a2⟩ | ⟨n, f, v, a1, a2, a3⟩
 ·exact .inl ⟨by unfold findF; rw [a1]; rfl, a2⟩
 ·exact .inr ⟨f, v, by unfold findF; rw [a1]; rfl, a2, a3⟩
theorem find_nn {w : Str} {f : scriptForm} (h : findF w = some f) : ∀ x ∈ f.words, x ≠ .nul := by
 unfold findF at h
 obtain ⟨⟨n, f'⟩, h1, rfl⟩ := Option.map_eq_some_iff.1 h
 have hm := List.mem_of_find?_eq_some h1
 have hall : ∀ p ∈ formsT, ∀ x ∈ p.2.words, x ≠ .nul := by decide
 exact hall _ hm
theorem forms_upd (v0 v1 v2 v3 v4 v5 v6 v7 v8 : Value) : (updK (updK (updK (updK (updK (updK (updK (updK (updK ([] : List (Str × Value)) ([97, 115, 107] : List UInt8) (.agg #[.int .i64 1, .int .i64 4, v0, .bool false])) ([100, 101, 108, 105, 118, 101, 114] : List UInt8) (.agg #[.int .i64 2, .int .i64 0, v1, .bool false])) ([108, 111, 115, 101] : List UInt8) (.agg #[.int .i64 3, .int .i64 0, v2, .bool false])) ([99, 111, 112, 121] : List UInt8) (.agg #[.int .i64 4, .int .i64 0, v3, .bool false])) ([116, 105, 99, 107] : List UInt8) (.agg #[.int .i64 5, .int .i64 0, v4, .bool false])) ([99, 114, 97, 115, 104] : List UInt8) (.agg #[.int .i64 6, .int .i64 0, v5, .bool true])) ([115, 97, 121] : List UInt8) (.agg #[.int .i64 7, .int .i64 0, v6, .bool true])) ([102, 97, 107, 101] : List UInt8) (.agg #[.int .i64 8, .int .i64 2, v7, .bool true])) ([114, 97, 119] : List UInt8) (.agg #[.int .i64 9, .int .i64 0, v8, .bool false])) = [(([97, 115, 107] : List UInt8), .agg #[.int .i64 1, .int .i64 4, v0, .bool false]), (([100, 101, 108, 105, 118, 101, 114] : List UInt8), .agg #[.int .i64 2, .int .i64 0, v1, .bool false]), (([108, 111, 115, 101] : List UInt8), .agg #[.int .i64 3, .int .i64 0, v2, .bool false]), (([99, 111, 112, 121] : List UInt8), .agg #[.int .i64 4, .int .i64 0, v3, .bool false]), (([116, 105, 99, 107] : List UInt8), .agg #[.int .i64 5, .int .i64 0, v4, .bool false]), (([99, 114, 97, 115, 104] : List UInt8), .agg #[.int .i64 6, .int .i64 0, v5, .bool true]), (([115, 97, 121] : List UInt8), .agg #[.int .i64 7, .int .i64 0, v6, .bool true]), (([102, 97, 107, 101] : List UInt8), .agg #[.int .i64 8, .int .i64 2, v7, .bool true]), (([114, 97, 119] : List UInt8), .agg #[.int .i64 9, .int .i64 0, v8, .bool false])] := by kernel_rfl
theorem forms_all {g : GH} {v0 v1 v2 v3 v4 v5 v6 v7 v8 : Value} (h0 : SlR g 153 kscriptWord v0 [.n, .data]) (h1 : SlR g 153 kscriptWord v1 [.k]) (h2 : SlR g 153 kscriptWord v2 [.k]) (h3 : SlR g 153 kscriptWord v3 [.k]) (h4 : SlR g 153 kscriptWord v4 [.who, .n]) (h5 : SlR g 153 kscriptWord v5 [.who, .n, .power]) (h6 : SlR g 153 kscriptWord v6 [.who, .n, .tow, .k, .data]) (h7 : SlR g 153 kscriptWord v7 [.n, .power, .k]) (h8 : SlR g 153 kscriptWord v8 [.who, .n, .data]) : All2 (EntOk g) (updK (updK (updK (updK (updK (updK (updK (updK (updK ([] : List (Str × Value)) ([97, 115, 107] : List UInt8) (.agg #[.int .i64 1, .int .i64 4, v0, .bool false])) ([100, 101, 108, 105, 118, 101, 114] : List UInt8) (.agg #[.int .i64 2, .int .i64 0, v1, .bool false])) ([108, 111, 115, 101] : List UInt8) (.agg #[.int .i64 3, .int .i64 0, v2, .bool false])) ([99, 111, 112, 121] : List UInt8) (.agg #[.int .i64 4, .int .i64 0, v3, .bool false])) ([116, 105, 99, 107] : List UInt8) (.agg #[.int .i64 5, .int .i64 0, v4, .bool false])) ([99, 114, 97, 115, 104] : List UInt8) (.agg #[.int .i64 6, .int .i64 0, v5, .bool true])) ([115, 97, 121] : List UInt8) (.agg #[.int .i64 7, .int .i64 0, v6, .bool true])) ([102, 97, 107, 101] : List UInt8) (.agg #[.int .i64 8, .int .i64 2, v7, .bool true])) ([114, 97, 119] : List UInt8) (.agg #[.int .i64 9, .int .i64 0, v8, .bool false])) formsT := by
 rw [forms_upd]
 exact .cons ⟨rfl, _, rfl, h0⟩ (.cons ⟨rfl, _, rfl, h1⟩ (.cons ⟨rfl, _, rfl, h2⟩ (.cons ⟨rfl, _, rfl, h3⟩ (.cons ⟨rfl, _, rfl, h4⟩ (.cons ⟨rfl, _, rfl, h5⟩ (.cons ⟨rfl, _, rfl, h6⟩ (.cons ⟨rfl, _, rfl, h7⟩ (.cons ⟨rfl, _, rfl, h8⟩ (.nil)))))))))
theorem formsS (B : World) (h : Heap) (g : GH) (hg : Sub g h) (hG : Glob g)   :
  Spec Tryz.prog B 54 #[] h g [] (fun rv g' L' => ∃ m0, rv = .map (some m0) ∧ FormsOk g' m0 ∧ L' = []) := by
 refine Spec.at' Tryz.func54 ?_
 intro R hR
 have s0 := St.init hg
 refine At.go 1 1 [] ?_
 refine At.rg 3 ?_
 refine Op.c0 (some 7) (roleF _ _ _ s0.sub hG 93  ) s0 ?_
 rintro _ g24 _ h20 hle25 s21 ⟨b22, rfl, hb23, rfl⟩
 replace hG := hG.mono hle25
 refine Op.al 1 153 #[.nilFunc, .nilFunc] s21 ?_
 intro b26 h27 s28
 refine Op.store (T := 153) (x := (.tmp 1)) (y := (.tmp 7)) (b := b26) (o := 0) (vs := [.func (.func 132) #[] #[.pointer (some ⟨b22, 0, none⟩)], .func (.func 135) #[] #[.pointer (some ⟨b22, 0, none⟩)]]) (a? := true) (n := 2) (by kernel_rfl) (by kernel_rfl) (by kernel_rfl) (by kernel_rfl) rfl (by simp [Value.oneCell']) s28 0 rfl (Nat.le_of_ble_eq_true (by kernel_rfl)) (cs := #[.nilFunc, .nilFunc]) (cs' := #[.func (.func 132) #[] #[.pointer (some ⟨b22, 0, none⟩)], .func (.func 135) #[] #[.pointer (some ⟨b22, 0, none⟩)]]) (by kernel_rfl) (fun _ => trivial) ?_
 intro h29 s30
 refine Op.gt 2 ?_
 refine At.rg 3 ?_
 refine Op.c0 (some 8) (numF _ _ _ s30.sub hG 95  ) s30 ?_
 rintro _ g35 _ h31 hle36 s32 ⟨b33, rfl, hb34, rfl⟩
 replace hG := hG.mono hle36
 replace hb23 := hle36 _ _ hb23
 refine Op.al 2 153 #[.nilFunc, .nilFunc] s32 ?_
 intro b37 h38 s39
 refine Op.store (T := 153) (x := (.tmp 2)) (y := (.tmp 8)) (b := b37) (o := 0) (vs := [.func (.func 136) #[] #[.pointer (some ⟨b33, 0, none⟩)], .func (.func 137) #[] #[.pointer (some ⟨b33, 0, none⟩)]]) (a? := true) (n := 2) (by kernel_rfl) (by kernel_rfl) (by kernel_rfl) (by kernel_rfl) rfl (by simp [Value.oneCell']) s39 0 rfl (Nat.le_of_ble_eq_true (by kernel_rfl)) (cs := #[.nilFunc, .nilFunc]) (cs' := #[.func (.func 136) #[] #[.pointer (some ⟨b33, 0, none⟩)], .func (.func 137) #[] #[.pointer (some ⟨b33, 0, none⟩)]]) (by kernel_rfl) (fun _ => trivial) ?_
 intro h40 s41
 refine Op.gt 3 ?_
 refine At.rg 3 ?_
 refine Op.c0 (some 9) (roleF _ _ _ s41.sub hG 96  ) s41 ?_
 rintro _ g46 _ h42 hle47 s43 ⟨b44, rfl, hb45, rfl⟩
 replace hG := hG.mono hle47
 replace hb23 := hle47 _ _ hb23
 replace hb34 := hle47 _ _ hb34
 refine Op.al 3 153 #[.nilFunc, .nilFunc] s43 ?_
 intro b48 h49 s50
 refine Op.store (T := 153) (x := (.tmp 3)) (y := (.tmp 9)) (b := b48) (o := 0) (vs := [.func (.func 132) #[] #[.pointer (some ⟨b44, 0, none⟩)], .func (.func 135) #[] #[.pointer (some ⟨b44, 0, none⟩)]]) (a? := true) (n := 2) (by kernel_rfl) (by kernel_rfl) (by kernel_rfl) (by kernel_rfl) rfl (by simp [Value.oneCell']) s50 0 rfl (Nat.le_of_ble_eq_true (by kernel_rfl)) (cs := #[.nilFunc, .nilFunc]) (cs' := #[.func (.func 132) #[] #[.pointer (some ⟨b44, 0, none⟩)], .func (.func 135) #[] #[.pointer (some ⟨b44, 0, none⟩)]]) (by kernel_rfl) (fun _ => trivial) ?_
 intro h51 s52
 refine Op.gt 4 ?_
 refine At.rg 3 ?_
 refine Op.c0 (some 10) (numF _ _ _ s52.sub hG 97  ) s52 ?_
 rintro _ g57 _ h53 hle58 s54 ⟨b55, rfl, hb56, rfl⟩
 replace hG := hG.mono hle58
 replace hb23 := hle58 _ _ hb23
 replace hb34 := hle58 _ _ hb34
 replace hb45 := hle58 _ _ hb45
 refine Op.al 4 153 #[.nilFunc, .nilFunc] s54 ?_
 intro b59 h60 s61
 refine Op.store (T := 153) (x := (.tmp 4)) (y := (.tmp 10)) (b := b59) (o := 0) (vs := [.func (.func 136) #[] #[.pointer (some ⟨b55, 0, none⟩)], .func (.func 137) #[] #[.pointer (some ⟨b55, 0, none⟩)]]) (a? := true) (n := 2) (by kernel_rfl) (by kernel_rfl) (by kernel_rfl) (by kernel_rfl) rfl (by simp [Value.oneCell']) s61 0 rfl (Nat.le_of_ble_eq_true (by kernel_rfl)) (cs := #[.nilFunc, .nilFunc]) (cs' := #[.func (.func 136) #[] #[.pointer (some ⟨b55, 0, none⟩)], .func (.func 137) #[] #[.pointer (some ⟨b55, 0, none⟩)]]) (by kernel_rfl) (fun _ => trivial) ?_
 intro h62 s63
 refine Op.gt 5 ?_
 refine At.rg 3 ?_
 refine Op.c0 (some 11) (numF _ _ _ s63.sub hG 98  ) s63 ?_
 rintro _ g68 _ h64 hle69 s65 ⟨b66, rfl, hb67, rfl⟩
 replace hG := hG.mono hle69
 replace hb23 := hle69 _ _ hb23
 replace hb34 := hle69 _ _ hb34
 replace hb45 := hle69 _ _ hb45
 replace hb56 := hle69 _ _ hb56
 refine Op.al 5 153 #[.nilFunc, .nilFunc] s65 ?_
 intro b70 h71 s72
 refine Op.store (T := 153) (x := (.tmp 5)) (y := (.tmp 11)) (b := b70) (o := 0) (vs := [.func (.func 136) #[] #[.pointer (some ⟨b66, 0, none⟩)], .func (.func 137) #[] #[.pointer (some ⟨b66, 0, none⟩)]]) (a? := true) (n := 2) (by kernel_rfl) (by kernel_rfl) (by kernel_rfl) (by kernel_rfl) rfl (by simp [Value.oneCell']) s72 0 rfl (Nat.le_of_ble_eq_true (by kernel_rfl)) (cs := #[.nilFunc, .nilFunc]) (cs' := #[.func (.func 136) #[] #[.pointer (some ⟨b66, 0, none⟩)], .func (.func 137) #[] #[.pointer (some ⟨b66, 0, none⟩)]]) (by kernel_rfl) (fun _ => trivial) ?_
 intro h73 s74
 refine Op.gt 6 ?_
 refine At.rp 3 1 [(12, .agg #[.func (.func 99) #[] #[], .func (.func 101) #[] #[]])] ?_
 refine Op.al 6 153 #[.nilFunc, .nilFunc] s74 ?_
 intro b75 h76 s77
 refine Op.store (T := 153) (x := (.tmp 6)) (y := (.tmp 12)) (b := b75) (o := 0) (vs := [.func (.func 99) #[] #[], .func (.func 101) #[] #[]]) (a? := true) (n := 2) (by kernel_rfl) (by kernel_rfl) (by kernel_rfl) (by kernel_rfl) rfl (by simp [Value.oneCell']) s77 0 rfl (Nat.le_of_ble_eq_true (by kernel_rfl)) (cs := #[.nilFunc, .nilFunc]) (cs' := #[.func (.func 99) #[] #[], .func (.func 101) #[] #[]]) (by kernel_rfl) (fun _ => trivial) ?_
 intro h78 s79
 refine Op.gt 7 ?_
 refine At.rg 51 ?_
 refine Op.makeMap (mt := 95) (dst := 13) (by kernel_rfl) s79 ?_
 intro m80 h81 s82
 have hR83 : MapR encS #[] 0 ([] : List (Str × Value)) := MapR.empty _ _
 refine Op.la 153 (.tmp 2) 14 0 2 [.func (.func 136) #[] #[.pointer (some ⟨b33, 0, none⟩)], .func (.func 137) #[] #[.pointer (some ⟨b33, 0, none⟩)]] (s82.chunk 5 rfl) ?_
 refine Op.la 153 (.tmp 6) 15 0 2 [.func (.func 99) #[] #[], .func (.func 101) #[] #[]] (s82.chunk 1 rfl) ?_
 refine Op.lit (T := 102) (len := 2) (parts := #[(0, (.tmp 14)), (1, (.tmp 15))]) (dst := 16) (E := 153) (ps := [(0, .agg #[.func (.func 136) #[] #[.pointer (some ⟨b33, 0, none⟩)], .func (.func 137) #[] #[.pointer (some ⟨b33, 0, none⟩)]]), (1, .agg #[.func (.func 99) #[] #[], .func (.func 101) #[] #[]])]) (cs := #[.func (.func 136) #[] #[.pointer (some ⟨b33, 0, none⟩)], .func (.func 137) #[] #[.pointer (some ⟨b33, 0, none⟩)], .func (.func 99) #[] #[], .func (.func 101) #[] #[]]) (by kernel_rfl) (by kernel_rfl) (by kernel_rfl) s82 ?_
 intro b84 h85 s86
 refine Op.px 1 [(17, .agg #[.int .i64 1, .int .i64 4, .slice (some ⟨b84, 0, none⟩) 2 2, .bool false])] ?_
 have R87 : Row 153 kscriptWord g68 (.slice (some ⟨b84, 0, none⟩) 2 2) [scriptWord.n, scriptWord.data] [(b84, Obj.cells #[.func (.func 136) #[] #[.pointer (some ⟨b33, 0, none⟩)], .func (.func 137) #[] #[.pointer (some ⟨b33, 0, none⟩)], .func (.func 99) #[] #[], .func (.func 101) #[] #[]] 153 (0, 0))] := Row.lit (by kernel_rfl) (by unfold maxLen; decide) (by kernel_rfl) ⟨_, _, rfl, (.inr ⟨#[.pointer (some ⟨b33, 0, none⟩)], ⟨b33, rfl, hb34⟩, rfl⟩), ⟨_, _, rfl, (.inr ⟨#[], rfl, rfl⟩), Reads.nil⟩⟩
 obtain ⟨g88, s89, hle90, hf91⟩ := Row.freeze R87 (s86.front 0 rfl)
 replace hG := hG.mono hle90
 replace hb23 := hle90 _ _ hb23
 replace hb34 := hle90 _ _ hb34
 replace hb45 := hle90 _ _ hb45
 replace hb56 := hle90 _ _ hb56
 replace hb67 := hle90 _ _ hb67
 refine Op.mapSet (d := .string) (z := (.agg #[.int .i64 0, .int .i64 0, .slice none 0 0, .bool false])) (mt := 95) (x := (.tmp 13)) (ix := (.const (.string (mkS ([97, 115, 107]))))) (y := (.tmp 17)) (k := ([97, 115, 107] : List UInt8)) (v := .agg #[.int .i64 1, .int .i64 4, .slice (some ⟨b84, 0, none⟩) 2 2, .bool false]) (.inr (by kernel_rfl)) (by kernel_rfl) keyS (by kernel_rfl) (by kernel_rfl) (by kernel_rfl) s89 0 rfl hR83 (fun _ => trivial) ?_
 intro es92 clk93 h94 hR95 s96
 refine Op.la 153 (.tmp 4) 18 0 2 [.func (.func 136) #[] #[.pointer (some ⟨b55, 0, none⟩)], .func (.func 137) #[] #[.pointer (some ⟨b55, 0, none⟩)]] (s96.chunk 3 rfl) ?_
 refine Op.lit (T := 102) (len := 1) (parts := #[(0, (.tmp 18))]) (dst := 19) (E := 153) (ps := [(0, .agg #[.func (.func 136) #[] #[.pointer (some ⟨b55, 0, none⟩)], .func (.func 137) #[] #[.pointer (some ⟨b55, 0, none⟩)]])]) (cs := #[.func (.func 136) #[] #[.pointer (some ⟨b55, 0, none⟩)], .func (.func 137) #[] #[.pointer (some ⟨b55, 0, none⟩)]]) (by kernel_rfl) (by kernel_rfl) (by kernel_rfl) s96 ?_
 intro b97 h98 s99
 refine Op.px 1 [(20, .agg #[.int .i64 2, .int .i64 0, .slice (some ⟨b97, 0, none⟩) 1 1, .bool false])] ?_
 have R100 : Row 153 kscriptWord g88 (.slice (some ⟨b97, 0, none⟩) 1 1) [scriptWord.k] [(b97, Obj.cells #[.func (.func 136) #[] #[.pointer (some ⟨b55, 0, none⟩)], .func (.func 137) #[] #[.pointer (some ⟨b55, 0, none⟩)]] 153 (0, 0))] := Row.lit (by kernel_rfl) (by unfold maxLen; decide) (by kernel_rfl) ⟨_, _, rfl, (.inr ⟨#[.pointer (some ⟨b55, 0, none⟩)], ⟨b55, rfl, hb56⟩, rfl⟩), Reads.nil⟩
 obtain ⟨g101, s102, hle103, hf104⟩ := Row.freeze R100 (s99.front 0 rfl)
 replace hG := hG.mono hle103
 replace hf91 := hf91.mono hle103
 replace hb23 := hle103 _ _ hb23
 replace hb34 := hle103 _ _ hb34
 replace hb45 := hle103 _ _ hb45
 replace hb56 := hle103 _ _ hb56
 replace hb67 := hle103 _ _ hb67
 refine Op.mapSet (d := .string) (z := (.agg #[.int .i64 0, .int .i64 0, .slice none 0 0, .bool false])) (mt := 95) (x := (.tmp 13)) (ix := (.const (.string (mkS ([100, 101, 108, 105, 118, 101, 114]))))) (y := (.tmp 20)) (k := ([100, 101, 108, 105, 118, 101, 114] : List UInt8)) (v := .agg #[.int .i64 2, .int .i64 0, .slice (some ⟨b97, 0, none⟩) 1 1, .bool false]) (.inr (by kernel_rfl)) (by kernel_rfl) keyS (by kernel_rfl) (by kernel_rfl) (by kernel_rfl) s102 0 rfl hR95 (fun _ => trivial) ?_
 intro es105 clk106 h107 hR108 s109
 refine Op.la 153 (.tmp 4) 21 0 2 [.func (.func 136) #[] #[.pointer (some ⟨b55, 0, none⟩)], .func (.func 137) #[] #[.pointer (some ⟨b55, 0, none⟩)]] (s109.chunk 3 rfl) ?_
 refine Op.lit (T := 102) (len := 1) (parts := #[(0, (.tmp 21))]) (dst := 22) (E := 153) (ps := [(0, .agg #[.func (.func 136) #[] #[.pointer (some ⟨b55, 0, none⟩)], .func (.func 137) #[] #[.pointer (some ⟨b55, 0, none⟩)]])]) (cs := #[.func (.func 136) #[] #[.pointer (some ⟨b55, 0, none⟩)], .func (.func 137) #[] #[.pointer (some ⟨b55, 0, none⟩)]]) (by kernel_rfl) (by kernel_rfl) (by kernel_rfl) s109 ?_
 intro b110 h111 s112
 refine Op.px 1 [(23, .agg #[.int .i64 3, .int .i64 0, .slice (some ⟨b110, 0, none⟩) 1 1, .bool false])] ?_
 have R113 : Row 153 kscriptWord g101 (.slice (some ⟨b110, 0, none⟩) 1 1) [scriptWord.k] [(b110, Obj.cells #[.func (.func 136) #[] #[.pointer (some ⟨b55, 0, none⟩)], .func (.func 137) #[] #[.pointer (some ⟨b55, 0, none⟩)]] 153 (0, 0))] := Row.lit (by kernel_rfl) (by unfold maxLen; decide) (by kernel_rfl) ⟨_, _, rfl, (.inr ⟨#[.pointer (some ⟨b55, 0, none⟩)], ⟨b55, rfl, hb56⟩, rfl⟩), Reads.nil⟩
 obtain ⟨g114, s115, hle116, hf117⟩ := Row.freeze R113 (s112.front 0 rfl)
 replace hG := hG.mono hle116
 replace hf104 := hf104.mono hle116
 replace hf91 := hf91.mono hle116
 replace hb23 := hle116 _ _ hb23
 replace hb34 := hle116 _ _ hb34
 replace hb45 := hle116 _ _ hb45
 replace hb56 := hle116 _ _ hb56
 replace hb67 := hle116 _ _ hb67
 refine Op.mapSet (d := .string) (z := (.agg #[.int .i64 0, .int .i64 0, .slice none 0 0, .bool false])) (mt := 95) (x := (.tmp 13)) (ix := (.const (.string (mkS ([108, 111, 115, 101]))))) (y := (.tmp 23)) (k := ([108, 111, 115, 101] : List UInt8)) (v := .agg #[.int .i64 3, .int .i64 0, .slice (some ⟨b110, 0, none⟩) 1 1, .bool false]) (.inr (by kernel_rfl)) (by kernel_rfl) keyS (by kernel_rfl) (by kernel_rfl) (by kernel_rfl) s115 0 rfl hR108 (fun _ => trivial) ?_
 intro es118 clk119 h120 hR121 s122
 refine Op.la 153 (.tmp 4) 24 0 2 [.func (.func 136) #[] #[.pointer (some ⟨b55, 0, none⟩)], .func (.func 137) #[] #[.pointer (some ⟨b55, 0, none⟩)]] (s122.chunk 3 rfl) ?_
 refine Op.lit (T := 102) (len := 1) (parts := #[(0, (.tmp 24))]) (dst := 25) (E := 153) (ps := [(0, .agg #[.func (.func 136) #[] #[.pointer (some ⟨b55, 0, none⟩)], .func (.func 137) #[] #[.pointer (some ⟨b55, 0, none⟩)]])]) (cs := #[.func (.func 136) #[] #[.pointer (some ⟨b55, 0, none⟩)], .func (.func 137) #[] #[.pointer (some ⟨b55, 0, none⟩)]]) (by kernel_rfl) (by kernel_rfl) (by kernel_rfl) s122 ?_
 intro b123 h124 s125
 refine Op.px 1 [(26, .agg #[.int .i64 4, .int .i64 0, .slice (some ⟨b123, 0, none⟩) 1 1, .bool false])] ?_
 have R126 : Row 153 kscriptWord g114 (.slice (some ⟨b123, 0, none⟩) 1 1) [scriptWord.k] [(b123, Obj.cells #[.func (.func 136) #[] #[.pointer (some ⟨b55, 0, none⟩)], .func (.func 137) #[] #[.pointer (some ⟨b55, 0, none⟩)]] 153 (0, 0))] := Row.lit (by kernel_rfl) (by unfold maxLen; decide) (by kernel_rfl) ⟨_, _, rfl, (.inr ⟨#[.pointer (some ⟨b55, 0, none⟩)], ⟨b55, rfl, hb56⟩, rfl⟩), Reads.nil⟩
 obtain ⟨g127, s128, hle129, hf130⟩ := Row.freeze R126 (s125.front 0 rfl)
 replace hG := hG.mono hle129
 replace hf104 := hf104.mono hle129
 replace hf117 := hf117.mono hle129
 replace hf91 := hf91.mono hle129
 replace hb23 := hle129 _ _ hb23
 replace hb34 := hle129 _ _ hb34
 replace hb45 := hle129 _ _ hb45
 replace hb56 := hle129 _ _ hb56
 replace hb67 := hle129 _ _ hb67
 refine Op.mapSet (d := .string) (z := (.agg #[.int .i64 0, .int .i64 0, .slice none 0 0, .bool false])) (mt := 95) (x := (.tmp 13)) (ix := (.const (.string (mkS ([99, 111, 112, 121]))))) (y := (.tmp 26)) (k := ([99, 111, 112, 121] : List UInt8)) (v := .agg #[.int .i64 4, .int .i64 0, .slice (some ⟨b123, 0, none⟩) 1 1, .bool false]) (.inr (by kernel_rfl)) (by kernel_rfl) keyS (by kernel_rfl) (by kernel_rfl) (by kernel_rfl) s128 0 rfl hR121 (fun _ => trivial) ?_
 intro es131 clk132 h133 hR134 s135
 refine Op.la 153 (.tmp 1) 27 0 2 [.func (.func 132) #[] #[.pointer (some ⟨b22, 0, none⟩)], .func (.func 135) #[] #[.pointer (some ⟨b22, 0, none⟩)]] (s135.chunk 6 rfl) ?_
 refine Op.la 153 (.tmp 2) 28 0 2 [.func (.func 136) #[] #[.pointer (some ⟨b33, 0, none⟩)], .func (.func 137) #[] #[.pointer (some ⟨b33, 0, none⟩)]] (s135.chunk 5 rfl) ?_
 refine Op.lit (T := 102) (len := 2) (parts := #[(0, (.tmp 27)), (1, (.tmp 28))]) (dst := 29) (E := 153) (ps := [(0, .agg #[.func (.func 132) #[] #[.pointer (some ⟨b22, 0, none⟩)], .func (.func 135) #[] #[.pointer (some ⟨b22, 0, none⟩)]]), (1, .agg #[.func (.func 136) #[] #[.pointer (some ⟨b33, 0, none⟩)], .func (.func 137) #[] #[.pointer (some ⟨b33, 0, none⟩)]])]) (cs := #[.func (.func 132) #[] #[.pointer (some ⟨b22, 0, none⟩)], .func (.func 135) #[] #[.pointer (some ⟨b22, 0, none⟩)], .func (.func 136) #[] #[.pointer (some ⟨b33, 0, none⟩)], .func (.func 137) #[] #[.pointer (some ⟨b33, 0, none⟩)]]) (by kernel_rfl) (by kernel_rfl) (by kernel_rfl) s135 ?_
 intro b136 h137 s138
 refine Op.px 1 [(30, .agg #[.int .i64 5, .int .i64 0, .slice (some ⟨b136, 0, none⟩) 2 2, .bool false])] ?_
 have R139 : Row 153 kscriptWord g127 (.slice (some ⟨b136, 0, none⟩) 2 2) [scriptWord.who, scriptWord.n] [(b136, Obj.cells #[.func (.func 132) #[] #[.pointer (some ⟨b22, 0, none⟩)], .func (.func 135) #[] #[.pointer (some ⟨b22, 0, none⟩)], .func (.func 136) #[] #[.pointer (some ⟨b33, 0, none⟩)], .func (.func 137) #[] #[.pointer (some ⟨b33, 0, none⟩)]] 153 (0, 0))] := Row.lit (by kernel_rfl) (by unfold maxLen; decide) (by kernel_rfl) ⟨_, _, rfl, (.inr ⟨#[.pointer (some ⟨b22, 0, none⟩)], ⟨b22, rfl, hb23⟩, rfl⟩), ⟨_, _, rfl, (.inr ⟨#[.pointer (some ⟨b33, 0, none⟩)], ⟨b33, rfl, hb34⟩, rfl⟩), Reads.nil⟩⟩
 obtain ⟨g140, s141, hle142, hf143⟩ := Row.freeze R139 (s138.front 0 rfl)
 replace hG := hG.mono hle142
 replace hf104 := hf104.mono hle142
 replace hf117 := hf117.mono hle142
 replace hf130 := hf130.mono hle142
 replace hf91 := hf91.mono hle142
 replace hb23 := hle142 _ _ hb23
 replace hb34 := hle142 _ _ hb34
 replace hb45 := hle142 _ _ hb45
 replace hb56 := hle142 _ _ hb56
 replace hb67 := hle142 _ _ hb67
 refine Op.mapSet (d := .string) (z := (.agg #[.int .i64 0, .int .i64 0, .slice none 0 0, .bool false])) (mt := 95) (x := (.tmp 13)) (ix := (.const (.string (mkS ([116, 105, 99, 107]))))) (y := (.tmp 30)) (k := ([116, 105, 99, 107] : List UInt8)) (v := .agg #[.int .i64 5, .int .i64 0, .slice (some ⟨b136, 0, none⟩) 2 2, .bool false]) (.inr (by kernel_rfl)) (by kernel_rfl) keyS (by kernel_rfl) (by kernel_rfl) (by kernel_rfl) s141 0 rfl hR134 (fun _ => trivial) ?_
 intro es144 clk145 h146 hR147 s148
 refine Op.la 153 (.tmp 1) 31 0 2 [.func (.func 132) #[] #[.pointer (some ⟨b22, 0, none⟩)], .func (.func 135) #[] #[.pointer (some ⟨b22, 0, none⟩)]] (s148.chunk 6 rfl) ?_
 refine Op.la 153 (.tmp 2) 32 0 2 [.func (.func 136) #[] #[.pointer (some ⟨b33, 0, none⟩)], .func (.func 137) #[] #[.pointer (some ⟨b33, 0, none⟩)]] (s148.chunk 5 rfl) ?_
 refine Op.la 153 (.tmp 5) 33 0 2 [.func (.func 136) #[] #[.pointer (some ⟨b66, 0, none⟩)], .func (.func 137) #[] #[.pointer (some ⟨b66, 0, none⟩)]] (s148.chunk 2 rfl) ?_
 refine Op.lit (T := 102) (len := 3) (parts := #[(0, (.tmp 31)), (1, (.tmp 32)), (2, (.tmp 33))]) (dst := 34) (E := 153) (ps := [(0, .agg #[.func (.func 132) #[] #[.pointer (some ⟨b22, 0, none⟩)], .func (.func 135) #[] #[.pointer (some ⟨b22, 0, none⟩)]]), (1, .agg #[.func (.func 136) #[] #[.pointer (some ⟨b33, 0, none⟩)], .func (.func 137) #[] #[.pointer (some ⟨b33, 0, none⟩)]]), (2, .agg #[.func (.func 136) #[] #[.pointer (some ⟨b66, 0, none⟩)], .func (.func 137) #[] #[.pointer (some ⟨b66, 0, none⟩)]])]) (cs := #[.func (.func 132) #[] #[.pointer (some ⟨b22, 0, none⟩)], .func (.func 135) #[] #[.pointer (some ⟨b22, 0, none⟩)], .func (.func 136) #[] #[.pointer (some ⟨b33, 0, none⟩)], .func (.func 137) #[] #[.pointer (some ⟨b33, 0, none⟩)], .func (.func 136) #[] #[.pointer (some ⟨b66, 0, none⟩)], .func (.func 137) #[] #[.pointer (some ⟨b66, 0, none⟩)]]) (by kernel_rfl) (by kernel_rfl) (by kernel_rfl) s148 ?_
 intro b149 h150 s151
 refine Op.px 1 [(35, .agg #[.int .i64 6, .int .i64 0, .slice (some ⟨b149, 0, none⟩) 3 3, .bool true])] ?_
 have R152 : Row 153 kscriptWord g140 (.slice (some ⟨b149, 0, none⟩) 3 3) [scriptWord.who, scriptWord.n, scriptWord.power] [(b149, Obj.cells #[.func (.func 132) #[] #[.pointer (some ⟨b22, 0, none⟩)], .func (.func 135) #[] #[.pointer (some ⟨b22, 0, none⟩)], .func (.func 136) #[] #[.pointer (some ⟨b33, 0, none⟩)], .func (.func 137) #[] #[.pointer (some ⟨b33, 0, none⟩)], .func (.func 136) #[] #[.pointer (some ⟨b66, 0, none⟩)], .func (.func 137) #[] #[.pointer (some ⟨b66, 0, none⟩)]] 153 (0, 0))] := Row.lit (by kernel_rfl) (by unfold maxLen; decide) (by kernel_rfl) ⟨_, _, rfl, (.inr ⟨#[.pointer (some ⟨b22, 0, none⟩)], ⟨b22, rfl, hb23⟩, rfl⟩), ⟨_, _, rfl, (.inr ⟨#[.pointer (some ⟨b33, 0, none⟩)], ⟨b33, rfl, hb34⟩, rfl⟩), ⟨_, _, rfl, (.inr ⟨#[.pointer (some ⟨b66, 0, none⟩)], ⟨b66, rfl, hb67⟩, rfl⟩), Reads.nil⟩⟩⟩
 obtain ⟨g153, s154, hle155, hf156⟩ := Row.freeze R152 (s151.front 0 rfl)
 replace hG := hG.mono hle155
 replace hf104 := hf104.mono hle155
 replace hf117 := hf117.mono hle155
 replace hf130 := hf130.mono hle155
 replace hf143 := hf143.mono hle155
 replace hf91 := hf91.mono hle155
 replace hb23 := hle155 _ _ hb23
 replace hb34 := hle155 _ _ hb34
 replace hb45 := hle155 _ _ hb45
 replace hb56 := hle155 _ _ hb56
 replace hb67 := hle155 _ _ hb67
 refine Op.mapSet (d := .string) (z := (.agg #[.int .i64 0, .int .i64 0, .slice none 0 0, .bool false])) (mt := 95) (x := (.tmp 13)) (ix := (.const (.string (mkS ([99, 114, 97, 115, 104]))))) (y := (.tmp 35)) (k := ([99, 114, 97, 115, 104] : List UInt8)) (v := .agg #[.int .i64 6, .int .i64 0, .slice (some ⟨b149, 0, none⟩) 3 3, .bool true]) (.inr (by kernel_rfl)) (by kernel_rfl) keyS (by kernel_rfl) (by kernel_rfl) (by kernel_rfl) s154 0 rfl hR147 (fun _ => trivial) ?_
 intro es157 clk158 h159 hR160 s161
 refine Op.la 153 (.tmp 1) 36 0 2 [.func (.func 132) #[] #[.pointer (some ⟨b22, 0, none⟩)], .func (.func 135) #[] #[.pointer (some ⟨b22, 0, none⟩)]] (s161.chunk 6 rfl) ?_
 refine Op.la 153 (.tmp 2) 37 0 2 [.func (.func 136) #[] #[.pointer (some ⟨b33, 0, none⟩)], .func (.func 137) #[] #[.pointer (some ⟨b33, 0, none⟩)]] (s161.chunk 5 rfl) ?_
 refine Op.la 153 (.tmp 3) 38 0 2 [.func (.func 132) #[] #[.pointer (some ⟨b44, 0, none⟩)], .func (.func 135) #[] #[.pointer (some ⟨b44, 0, none⟩)]] (s161.chunk 4 rfl) ?_
 refine Op.la 153 (.tmp 4) 39 0 2 [.func (.func 136) #[] #[.pointer (some ⟨b55, 0, none⟩)], .func (.func 137) #[] #[.pointer (some ⟨b55, 0, none⟩)]] (s161.chunk 3 rfl) ?_
 refine Op.la 153 (.tmp 6) 40 0 2 [.func (.func 99) #[] #[], .func (.func 101) #[] #[]] (s161.chunk 1 rfl) ?_
 refine Op.lit (T := 102) (len := 5) (parts := #[(0, (.tmp 36)), (1, (.tmp 37)), (2, (.tmp 38)), (3, (.tmp 39)), (4, (.tmp 40))]) (dst := 41) (E := 153) (ps := [(0, .agg #[.func (.func 132) #[] #[.pointer (some ⟨b22, 0, none⟩)], .func (.func 135) #[] #[.pointer (some ⟨b22, 0, none⟩)]]), (1, .agg #[.func (.func 136) #[] #[.pointer (some ⟨b33, 0, none⟩)], .func (.func 137) #[] #[.pointer (some ⟨b33, 0, none⟩)]]), (2, .agg #[.func (.func 132) #[] #[.pointer (some ⟨b44, 0, none⟩)], .func (.func 135) #[] #[.pointer (some ⟨b44, 0, none⟩)]]), (3, .agg #[.func (.func 136) #[] #[.pointer (some ⟨b55, 0, none⟩)], .func (.func 137) #[] #[.pointer (some ⟨b55, 0, none⟩)]]), (4, .agg #[.func (.func 99) #[] #[], .func (.func 101) #[] #[]])]) (cs := #[.func (.func 132) #[] #[.pointer (some ⟨b22, 0, none⟩)], .func (.func 135) #[] #[.pointer (some ⟨b22, 0, none⟩)], .func (.func 136) #[] #[.pointer (some ⟨b33, 0, none⟩)], .func (.func 137) #[] #[.pointer (some ⟨b33, 0, none⟩)], .func (.func 132) #[] #[.pointer (some ⟨b44, 0, none⟩)], .func (.func 135) #[] #[.pointer (some ⟨b44, 0, none⟩)], .func (.func 136) #[] #[.pointer (some ⟨b55, 0, none⟩)], .func (.func 137) #[] #[.pointer (some ⟨b55, 0, none⟩)], .func (.func 99) #[] #[], .func (.func 101) #[] #[]]) (by kernel_rfl) (by kernel_rfl) (by kernel_rfl) s161 ?_
 intro b162 h163 s164
 refine Op.px 1 [(42, .agg #[.int .i64 7, .int .i64 0, .slice (some ⟨b162, 0, none⟩) 5 5, .bool true])] ?_
 have R165 : Row 153 kscriptWord g153 (.slice (some ⟨b162, 0, none⟩) 5 5) [scriptWord.who, scriptWord.n, scriptWord.tow, scriptWord.k, scriptWord.data] [(b162, Obj.cells #[.func (.func 132) #[] #[.pointer (some ⟨b22, 0, none⟩)], .func (.func 135) #[] #[.pointer (some ⟨b22, 0, none⟩)], .func (.func 136) #[] #[.pointer (some ⟨b33, 0, none⟩)], .func (.func 137) #[] #[.pointer (some ⟨b33, 0, none⟩)], .func (.func 132) #[] #[.pointer (some ⟨b44, 0, none⟩)], .func (.func 135) #[] #[.pointer (some ⟨b44, 0, none⟩)], .func (.func 136) #[] #[.pointer (some ⟨b55, 0, none⟩)], .func (.func 137) #[] #[.pointer (some ⟨b55, 0, none⟩)], .func (.func 99) #[] #[], .func (.func 101) #[] #[]] 153 (0, 0))] := Row.lit (by kernel_rfl) (by unfold maxLen; decide) (by kernel_rfl) ⟨_, _, rfl, (.inr ⟨#[.pointer (some ⟨b22, 0, none⟩)], ⟨b22, rfl, hb23⟩, rfl⟩), ⟨_, _, rfl, (.inr ⟨#[.pointer (some ⟨b33, 0, none⟩)], ⟨b33, rfl, hb34⟩, rfl⟩), ⟨_, _, rfl, (.inr ⟨#[.pointer (some ⟨b44, 0, none⟩)], ⟨b44, rfl, hb45⟩, rfl⟩), ⟨_, _, rfl, (.inr ⟨#[.pointer (some ⟨b55, 0, none⟩)], ⟨b55, rfl, hb56⟩, rfl⟩), ⟨_, _, rfl, (.inr ⟨#[], rfl, rfl⟩), Reads.nil⟩⟩⟩⟩⟩
 obtain ⟨g166, s167, hle168, hf169⟩ := Row.freeze R165 (s164.front 0 rfl)
 replace hG := hG.mono hle168
 replace hf104 := hf104.mono hle168
 replace hf117 := hf117.mono hle168
 replace hf130 := hf130.mono hle168
 replace hf143 := hf143.mono hle168
 replace hf156 := hf156.mono hle168
 replace hf91 := hf91.mono hle168
 replace hb23 := hle168 _ _ hb23
 replace hb34 := hle168 _ _ hb34
 replace hb45 := hle168 _ _ hb45
 replace hb56 := hle168 _ _ hb56
 replace hb67 := hle168 _ _ hb67
 refine Op.mapSet (d := .string) (z := (.agg #[.int .i64 0, .int .i64 0, .slice none 0 0, .bool false])) (mt := 95) (x := (.tmp 13)) (ix := (.const (.string (mkS ([115, 97, 121]))))) (y := (.tmp 42)) (k := ([115, 97, 121] : List UInt8)) (v := .agg #[.int .i64 7, .int .i64 0, .slice (some ⟨b162, 0, none⟩) 5 5, .bool true]) (.inr (by kernel_rfl)) (by kernel_rfl) keyS (by kernel_rfl) (by kernel_rfl) (by kernel_rfl) s167 0 rfl hR160 (fun _ => trivial) ?_
 intro es170 clk171 h172 hR173 s174
 refine Op.la 153 (.tmp 2) 43 0 2 [.func (.func 136) #[] #[.pointer (some ⟨b33, 0, none⟩)], .func (.func 137) #[] #[.pointer (some ⟨b33, 0, none⟩)]] (s174.chunk 5 rfl) ?_
 refine Op.la 153 (.tmp 5) 44 0 2 [.func (.func 136) #[] #[.pointer (some ⟨b66, 0, none⟩)], .func (.func 137) #[] #[.pointer (some ⟨b66, 0, none⟩)]] (s174.chunk 2 rfl) ?_
 refine Op.la 153 (.tmp 4) 45 0 2 [.func (.func 136) #[] #[.pointer (some ⟨b55, 0, none⟩)], .func (.func 137) #[] #[.pointer (some ⟨b55, 0, none⟩)]] (s174.chunk 3 rfl) ?_
 refine Op.lit (T := 102) (len := 3) (parts := #[(0, (.tmp 43)), (1, (.tmp 44)), (2, (.tmp 45))]) (dst := 46) (E := 153) (ps := [(0, .agg #[.func (.func 136) #[] #[.pointer (some ⟨b33, 0, none⟩)], .func (.func 137) #[] #[.pointer (some ⟨b33, 0, none⟩)]]), (1, .agg #[.func (.func 136) #[] #[.pointer (some ⟨b66, 0, none⟩)], .func (.func 137) #[] #[.pointer (some ⟨b66, 0, none⟩)]]), (2, .agg #[.func (.func 136) #[] #[.pointer (some ⟨b55, 0, none⟩)], .func (.func 137) #[] #[.pointer (some ⟨b55, 0, none⟩)]])]) (cs := #[.func (.func 136) #[] #[.pointer (some ⟨b33, 0, none⟩)], .func (.func 137) #[] #[.pointer (some ⟨b33, 0, none⟩)], .func (.func 136) #[] #[.pointer (some ⟨b66, 0, none⟩)], .func (.func 137) #[] #[.pointer (some ⟨b66, 0, none⟩)], .func (.func 136) #[] #[.pointer (some ⟨b55, 0, none⟩)], .func (.func 137) #[] #[.pointer (some ⟨b55, 0, none⟩)]]) (by kernel_rfl) (by kernel_rfl) (by kernel_rfl) s174 ?_
 intro b175 h176 s177
 refine Op.px 1 [(47, .agg #[.int .i64 8, .int .i64 2, .slice (some ⟨b175, 0, none⟩) 3 3, .bool true])] ?_
 have R178 : Row 153 kscriptWord g166 (.slice (some ⟨b175, 0, none⟩) 3 3) [scriptWord.n, scriptWord.power, scriptWord.k] [(b175, Obj.cells #[.func (.func 136) #[] #[.pointer (some ⟨b33, 0, none⟩)], .func (.func 137) #[] #[.pointer (some ⟨b33, 0, none⟩)], .func (.func 136) #[] #[.pointer (some ⟨b66, 0, none⟩)], .func (.func 137) #[] #[.pointer (some ⟨b66, 0, none⟩)], .func (.func 136) #[] #[.pointer (some ⟨b55, 0, none⟩)], .func (.func 137) #[] #[.pointer (some ⟨b55, 0, none⟩)]] 153 (0, 0))] := Row.lit (by kernel_rfl) (by unfold maxLen; decide) (by kernel_rfl) ⟨_, _, rfl, (.inr ⟨#[.pointer (some ⟨b33, 0, none⟩)], ⟨b33, rfl, hb34⟩, rfl⟩), ⟨_, _, rfl, (.inr ⟨#[.pointer (some ⟨b66, 0, none⟩)], ⟨b66, rfl, hb67⟩, rfl⟩), ⟨_, _, rfl, (.inr ⟨#[.pointer (some ⟨b55, 0, none⟩)], ⟨b55, rfl, hb56⟩, rfl⟩), Reads.nil⟩⟩⟩
 obtain ⟨g179, s180, hle181, hf182⟩ := Row.freeze R178 (s177.front 0 rfl)
 replace hG := hG.mono hle181
 replace hf104 := hf104.mono hle181
 replace hf117 := hf117.mono hle181
 replace hf130 := hf130.mono hle181
 replace hf143 := hf143.mono hle181
 replace hf156 := hf156.mono hle181
 replace hf169 := hf169.mono hle181
 replace hf91 := hf91.mono hle181
 replace hb23 := hle181 _ _ hb23
 replace hb34 := hle181 _ _ hb34
 replace hb45 := hle181 _ _ hb45
 replace hb56 := hle181 _ _ hb56
 replace hb67 := hle181 _ _ hb67
 refine Op.mapSet (d := .string) (z := (.agg #[.int .i64 0, .int .i64 0, .slice none 0 0, .bool false])) (mt := 95) (x := (.tmp 13)) (ix := (.const (.string (mkS ([102, 97, 107, 101]))))) (y := (.tmp 47)) (k := ([102, 97, 107, 101] : List UInt8)) (v := .agg #[.int .i64 8, .int .i64 2, .slice (some ⟨b175, 0, none⟩) 3 3, .bool true]) (.inr (by kernel_rfl)) (by kernel_rfl) keyS (by kernel_rfl) (by kernel_rfl) (by kernel_rfl) s180 0 rfl hR173 (fun _ => trivial) ?_
 intro es183 clk184 h185 hR186 s187
 refine Op.la 153 (.tmp 1) 48 0 2 [.func (.func 132) #[] #[.pointer (some ⟨b22, 0, none⟩)], .func (.func 135) #[] #[.pointer (some ⟨b22, 0, none⟩)]] (s187.chunk 6 rfl) ?_
 refine Op.la 153 (.tmp 2) 49 0 2 [.func (.func 136) #[] #[.pointer (some ⟨b33, 0, none⟩)], .func (.func 137) #[] #[.pointer (some ⟨b33, 0, none⟩)]] (s187.chunk 5 rfl) ?_
 refine Op.la 153 (.tmp 6) 50 0 2 [.func (.func 99) #[] #[], .func (.func 101) #[] #[]] (s187.chunk 1 rfl) ?_
 refine Op.lit (T := 102) (len := 3) (parts := #[(0, (.tmp 48)), (1, (.tmp 49)), (2, (.tmp 50))]) (dst := 51) (E := 153) (ps := [(0, .agg #[.func (.func 132) #[] #[.pointer (some ⟨b22, 0, none⟩)], .func (.func 135) #[] #[.pointer (some ⟨b22, 0, none⟩)]]), (1, .agg #[.func (.func 136) #[] #[.pointer (some ⟨b33, 0, none⟩)], .func (.func 137) #[] #[.pointer (some ⟨b33, 0, none⟩)]]), (2, .agg #[.func (.func 99) #[] #[], .func (.func 101) #[] #[]])]) (cs := #[.func (.func 132) #[] #[.pointer (some ⟨b22, 0, none⟩)], .func (.func 135) #[] #[.pointer (some ⟨b22, 0, none⟩)], .func (.func 136) #[] #[.pointer (some ⟨b33, 0, none⟩)], .func (.func 137) #[] #[.pointer (some ⟨b33, 0, none⟩)], .func (.func 99) #[] #[], .func (.func 101) #[] #[]]) (by kernel_rfl) (by kernel_rfl) (by kernel_rfl) s187 ?_
 intro b188 h189 s190
 refine Op.px 1 [(52, .agg #[.int .i64 9, .int .i64 0, .slice (some ⟨b188, 0, none⟩) 3 3, .bool false])] ?_
 have R191 : Row 153 kscriptWord g179 (.slice (some ⟨b188, 0, none⟩) 3 3) [scriptWord.who, scriptWord.n, scriptWord.data] [(b188, Obj.cells #[.func (.func 132) #[] #[.pointer (some ⟨b22, 0, none⟩)], .func (.func 135) #[] #[.pointer (some ⟨b22, 0, none⟩)], .func (.func 136) #[] #[.pointer (some ⟨b33, 0, none⟩)], .func (.func 137) #[] #[.pointer (some ⟨b33, 0, none⟩)], .func (.func 99) #[] #[], .func (.func 101) #[] #[]] 153 (0, 0))] := Row.lit (by kernel_rfl) (by unfold maxLen; decide) (by kernel_rfl) ⟨_, _, rfl, (.inr ⟨#[.pointer (some ⟨b22, 0, none⟩)], ⟨b22, rfl, hb23⟩, rfl⟩), ⟨_, _, rfl, (.inr ⟨#[.pointer (some ⟨b33, 0, none⟩)], ⟨b33, rfl, hb34⟩, rfl⟩), ⟨_, _, rfl, (.inr ⟨#[], rfl, rfl⟩), Reads.nil⟩⟩⟩
 obtain ⟨g192, s193, hle194, hf195⟩ := Row.freeze R191 (s190.front 0 rfl)
 replace hG := hG.mono hle194
 replace hf104 := hf104.mono hle194
 replace hf117 := hf117.mono hle194
 replace hf130 := hf130.mono hle194
 replace hf143 := hf143.mono hle194
 replace hf156 := hf156.mono hle194
 replace hf169 := hf169.mono hle194
 replace hf182 := hf182.mono hle194
 replace hf91 := hf91.mono hle194
 replace hb23 := hle194 _ _ hb23
 replace hb34 := hle194 _ _ hb34
 replace hb45 := hle194 _ _ hb45
 replace hb56 := hle194 _ _ hb56
 replace hb67 := hle194 _ _ hb67
 refine Op.mapSet (d := .string) (z := (.agg #[.int .i64 0, .int .i64 0, .slice none 0 0, .bool false])) (mt := 95) (x := (.tmp 13)) (ix := (.const (.string (mkS ([114, 97, 119]))))) (y := (.tmp 52)) (k := ([114, 97, 119] : List UInt8)) (v := .agg #[.int .i64 9, .int .i64 0, .slice (some ⟨b188, 0, none⟩) 3 3, .bool false]) (.inr (by kernel_rfl)) (by kernel_rfl) keyS (by kernel_rfl) (by kernel_rfl) (by kernel_rfl) s193 0 rfl hR186 (fun _ => trivial) ?_
 intro es196 clk197 h198 hR199 s200
 refine Op.pg 8 [(0, .map (some m80))] ?_
 obtain ⟨s202, hle203⟩ := St.freeze (s200.front 0 rfl)
 have hb204 := gadd_one (g := g192) m80 (.map es196 clk197)
 generalize hg_g201 : gadd g192 _ = g201 at s202 hle203 hb204; clear hg_g201
 replace hG := hG.mono hle203
 replace hf104 := hf104.mono hle203
 replace hf117 := hf117.mono hle203
 replace hf130 := hf130.mono hle203
 replace hf143 := hf143.mono hle203
 replace hf156 := hf156.mono hle203
 replace hf169 := hf169.mono hle203
 replace hf182 := hf182.mono hle203
 replace hf195 := hf195.mono hle203
 replace hf91 := hf91.mono hle203
 replace hb23 := hle203 _ _ hb23
 replace hb34 := hle203 _ _ hb34
 replace hb45 := hle203 _ _ hb45
 replace hb56 := hle203 _ _ hb56
 replace hb67 := hle203 _ _ hb67
 refine At.rt (.map (some m80)) ?_
 have s205 := s202.drop.drop.drop.drop.drop.drop
 refine hR _ _ _ _ s205 ⟨m80, ?_, ?_, rfl⟩
 ·exact rfl
 ·exact ⟨_, _, _, hb204, hR199, forms_all hf91 hf104 hf117 hf130 hf143 hf156 hf169 hf182 hf195⟩
end Go.Proofs.YtmjebehhpojihaaGreatDoor.Sw
namespace Go.Proofs.YtmjebehhpojihaaGreatDoor.Sw
open Go
set_option maxRecDepth 100000
set_option linter.unusedVariables false
set_option linter.unusedSimpArgs false
set_option linter.deprecated false
set_option maxHeartbeats 2000000 in
theorem readF (B : World) (h : Heap) (g : GH) (hg : Sub g h) (hG : Glob g) (f : scriptForm) (v_f_2 : Value) (h_f_2 : SlR g 153 kscriptWord v_f_2 f.words) (v_list : Value) (list : List (List UInt8)) (h_list : SlR g 9 kStr v_list list) (hnn : ∀ w ∈ f.words, w ≠ .nul) (hxl : ∀ x ∈ list, x.length ≤ 100000000) (hll : list.length ≤ 100000000) (hwl : f.words.length ≤ 10) :
  Spec Tryz.prog B 58 #[.agg #[.int .i64 f.kind, .int .i64 f.role, v_f_2, .bool f.more], v_list] h g [] (fun rv g' L' => ∃ v0 k0_0 v1 k0_1, rv = .tuple #[.agg #[.int .i64 (((readS f list).1).Kind), .int .i64 (((readS f list).1).Role), .int .i64 (((readS f list).1).K), .int .i64 (((readS f list).1).Power), .int .i64 (((readS f list).1).Node.Role), .int .i64 (((readS f list).1).Node.N), v0, v1], .bool ((readS f list).2)] ∧ Row 5 kU8 g' v0 (((readS f list).1).Data) k0_0 ∧ Row 3 (kInt .i64) g' v1 (((readS f list).1).Keeps) k0_1 ∧ g' = g ∧ L' = [k0_0, k0_1]) := by
 obtain ⟨a_f_2, n_f_2, rfl⟩ := h_f_2.form
 obtain ⟨a_list, n_list, rfl⟩ := h_list.form
 refine Spec.at' Tryz.func58 ?_
 intro R hR
 have s0 := St.init hg
 refine At.rg 3 ?_
 refine Op.box (T := 104) (x := (.tmp 0)) (d := 2) (cs := #[.int .i64 f.kind, .int .i64 f.role, .slice a_f_2 f.words.length n_f_2, .bool f.more]) (by kernel_rfl) (by kernel_rfl) s0 ?_
 intro b20 h21 s22
 refine Op.al 4 94 #[.int .i64 0, .int .i64 0, .int .i64 0, .int .i64 0, .int .i64 0, .int .i64 0, .slice none 0 0, .slice none 0 0] s22 ?_
 intro b23 h24 s25
 refine Op.pg 1 [] ?_
 refine At.rp 8 1 [(13, .pointer (some ⟨b20, 0, none⟩))] ?_
 refine Op.ld (n := 1) 3 (.tmp 13) 14 0 (.int .i64 f.kind) (s25.chunk 1 rfl) ?_
 refine Op.px 1 [(15, .pointer (some ⟨b20, 1, none⟩))] ?_
 refine Op.ld (n := 1) 3 (.tmp 15) 16 1 (.int .i64 f.role) (s25.chunk 1 rfl) ?_
 refine Op.px 2 [(18, .agg #[.int .i64 f.kind, .int .i64 0, .int .i64 0, .int .i64 0, .int .i64 f.role, .int .i64 0, .slice none 0 0, .slice none 0 0])] ?_
 refine Op.al 6 94 #[.int .i64 0, .int .i64 0, .int .i64 0, .int .i64 0, .int .i64 0, .int .i64 0, .slice none 0 0, .slice none 0 0] s25 ?_
 intro b26 h27 s28
 refine Op.store (T := 94) (x := (.tmp 6)) (y := (.tmp 18)) (b := b26) (o := 0) (vs := [.int .i64 f.kind, .int .i64 0, .int .i64 0, .int .i64 0, .int .i64 f.role, .int .i64 0, .slice none 0 0, .slice none 0 0]) (a? := true) (n := 8) (by kernel_rfl) (by kernel_rfl) (by kernel_rfl) (by kernel_rfl) rfl (by simp [Value.oneCell']) s28 0 rfl (Nat.le_of_ble_eq_true (by kernel_rfl)) (cs := #[.int .i64 0, .int .i64 0, .int .i64 0, .int .i64 0, .int .i64 0, .int .i64 0, .slice none 0 0, .slice none 0 0]) (cs' := #[.int .i64 f.kind, .int .i64 0, .int .i64 0, .int .i64 0, .int .i64 f.role, .int .i64 0, .slice none 0 0, .slice none 0 0]) (by kernel_rfl) (fun _ => trivial) ?_
 intro h29 s30
 refine Op.gt 2 ?_
 refine At.rp 19 3 [(20, .int .i64 (list.length : Int)), (21, .pointer (some ⟨b20, 2, none⟩))] ?_
 refine Op.ld (n := 1) 102 (.tmp 21) 22 2 (.slice a_f_2 f.words.length n_f_2) (s30.chunk 2 rfl) ?_
 refine Op.px 3 [(25, .bool (decide ((list.length : Int) < (f.words.length : Int))))] ?_
 refine Op.wb (decide ((list.length : Int) < (f.words.length : Int))) 25 (fun c31 => ?_) (fun c32 => ?_)
 ·replace c31 := of_decide_eq_true c31
  refine Op.pg 3 [(37, .bool true)] ?_
  refine At.ifT 37 4 ?_
  refine At.rg 3 ?_
  refine Op.la 94 (.tmp 6) 38 0 8 [.int .i64 f.kind, .int .i64 0, .int .i64 0, .int .i64 0, .int .i64 f.role, .int .i64 0, .slice none 0 0, .slice none 0 0] (s30.chunk 0 rfl) ?_
  refine Op.store (T := 94) (x := (.tmp 4)) (y := (.tmp 38)) (b := b23) (o := 0) (vs := [.int .i64 f.kind, .int .i64 0, .int .i64 0, .int .i64 0, .int .i64 f.role, .int .i64 0, .slice none 0 0, .slice none 0 0]) (a? := true) (n := 8) (by kernel_rfl) (by kernel_rfl) (by kernel_rfl) (by kernel_rfl) rfl (by simp [Value.oneCell']) s30 1 rfl (Nat.le_of_ble_eq_true (by kernel_rfl)) (cs := #[.int .i64 0, .int .i64 0, .int .i64 0, .int .i64 0, .int .i64 0, .int .i64 0, .slice none 0 0, .slice none 0 0]) (cs' := #[.int .i64 f.kind, .int .i64 0, .int .i64 0, .int .i64 0, .int .i64 f.role, .int .i64 0, .slice none 0 0, .slice none 0 0]) (by kernel_rfl) (fun _ => trivial) ?_
  intro h33 s34
  refine Op.pg 5 [(5, .bool false)] ?_
  have R35 := Row.zero 5 kU8 g none
  have s36 := s34.nl
  have R37 := Row.zero 3 (kInt .i64) g none
  have s38 := s36.nl
  refine At.retM (f := Tryz.f58) (vs := [.agg #[.int .i64 f.kind, .int .i64 0, .int .i64 0, .int .i64 0, .int .i64 f.role, .int .i64 0, .slice none 0 0, .slice none 0 0], .bool false]) (rl := [.cell 4 94, .tmp 5]) (v := .tuple #[.agg #[.int .i64 f.kind, .int .i64 0, .int .i64 0, .int .i64 0, .int .i64 f.role, .int .i64 0, .slice none 0 0, .slice none 0 0], .bool false]) (by kernel_rfl) (by kernel_rfl) ⟨⟨_, _, rfl, resAgg (n := 8) (by kernel_rfl) (s38.chunk 3 rfl) (by kernel_rfl) rfl⟩, rfl, trivial⟩ rfl ?_
  have s39 := ((((s38.front 0 rfl).front 1 rfl).front 4 rfl).front 4 rfl).front 4 rfl
  have s40 := s39.drop.drop.drop
  refine hR _ _ _ _ s40 ⟨(.slice none 0 0), [], (.slice none 0 0), [], ?_, ?_, ?_, rfl, rfl⟩
  ·exact eqT2 (by (rw [← (read_no (by first | exact .inl (by assumption) | exact .inr ⟨by assumption, by assumption⟩)).1]; rfl)) (eqB (by exact (read_no (by first | exact .inl (by assumption) | exact .inr ⟨by assumption, by assumption⟩)).2))
  ·exact rowEq R35 (by (rw [← (read_no (by first | exact .inl (by assumption) | exact .inr ⟨by assumption, by assumption⟩)).1]; rfl))
  ·exact rowEq R37 (by (rw [← (read_no (by first | exact .inl (by assumption) | exact .inr ⟨by assumption, by assumption⟩)).1]; rfl))
 ·replace c32 := of_decide_eq_false c32
  refine Op.px 3 [(27, .int .i64 (list.length : Int)), (28, .pointer (some ⟨b20, 2, none⟩))] ?_
  refine Op.ld (n := 1) 102 (.tmp 28) 29 2 (.slice a_f_2 f.words.length n_f_2) (s30.chunk 2 rfl) ?_
  refine Op.px 3 [(32, .bool (decide ((list.length : Int) > (f.words.length : Int))))] ?_
  refine Op.wb (decide ((list.length : Int) > (f.words.length : Int))) 32 (fun c41 => ?_) (fun c42 => ?_)
  ·replace c41 := of_decide_eq_true c41
   refine Op.px 1 [(33, .pointer (some ⟨b20, 3, none⟩))] ?_
   refine Op.ld (n := 1) 4 (.tmp 33) 34 3 (.bool f.more) (s30.chunk 2 rfl) ?_
   refine Op.pg 3 [(37, .bool (!f.more))] ?_
   refine At.if' (!f.more) 37 4 6 (fun c43 => ?_) (fun c44 => ?_)
   ·replace c43 := (notT c43)
    refine At.rg 3 ?_
    refine Op.la 94 (.tmp 6) 38 0 8 [.int .i64 f.kind, .int .i64 0, .int .i64 0, .int .i64 0, .int .i64 f.role, .int .i64 0, .slice none 0 0, .slice none 0 0] (s30.chunk 0 rfl) ?_
    refine Op.store (T := 94) (x := (.tmp 4)) (y := (.tmp 38)) (b := b23) (o := 0) (vs := [.int .i64 f.kind, .int .i64 0, .int .i64 0, .int .i64 0, .int .i64 f.role, .int .i64 0, .slice none 0 0, .slice none 0 0]) (a? := true) (n := 8) (by kernel_rfl) (by kernel_rfl) (by kernel_rfl) (by kernel_rfl) rfl (by simp [Value.oneCell']) s30 1 rfl (Nat.le_of_ble_eq_true (by kernel_rfl)) (cs := #[.int .i64 0, .int .i64 0, .int .i64 0, .int .i64 0, .int .i64 0, .int .i64 0, .slice none 0 0, .slice none 0 0]) (cs' := #[.int .i64 f.kind, .int .i64 0, .int .i64 0, .int .i64 0, .int .i64 f.role, .int .i64 0, .slice none 0 0, .slice none 0 0]) (by kernel_rfl) (fun _ => trivial) ?_
    intro h45 s46
    refine Op.pg 5 [(5, .bool false)] ?_
    have R47 := Row.zero 5 kU8 g none
    have s48 := s46.nl
    have R49 := Row.zero 3 (kInt .i64) g none
    have s50 := s48.nl
    refine At.retM (f := Tryz.f58) (vs := [.agg #[.int .i64 f.kind, .int .i64 0, .int .i64 0, .int .i64 0, .int .i64 f.role, .int .i64 0, .slice none 0 0, .slice none 0 0], .bool false]) (rl := [.cell 4 94, .tmp 5]) (v := .tuple #[.agg #[.int .i64 f.kind, .int .i64 0, .int .i64 0, .int .i64 0, .int .i64 f.role, .int .i64 0, .slice none 0 0, .slice none 0 0], .bool false]) (by kernel_rfl) (by kernel_rfl) ⟨⟨_, _, rfl, resAgg (n := 8) (by kernel_rfl) (s50.chunk 3 rfl) (by kernel_rfl) rfl⟩, rfl, trivial⟩ rfl ?_
    have s51 := ((((s50.front 0 rfl).front 1 rfl).front 4 rfl).front 4 rfl).front 4 rfl
    have s52 := s51.drop.drop.drop
    refine hR _ _ _ _ s52 ⟨(.slice none 0 0), [], (.slice none 0 0), [], ?_, ?_, ?_, rfl, rfl⟩
    ·exact eqT2 (by (rw [← (read_no (by first | exact .inl (by assumption) | exact .inr ⟨by assumption, by assumption⟩)).1]; rfl)) (eqB (by exact (read_no (by first | exact .inl (by assumption) | exact .inr ⟨by assumption, by assumption⟩)).2))
    ·exact rowEq R47 (by (rw [← (read_no (by first | exact .inl (by assumption) | exact .inr ⟨by assumption, by assumption⟩)).1]; rfl))
    ·exact rowEq R49 (by (rw [← (read_no (by first | exact .inl (by assumption) | exact .inr ⟨by assumption, by assumption⟩)).1]; rfl))
   ·replace c44 := (notF c44)
    refine At.rp 4 1 [(39, .pointer (some ⟨b20, 2, none⟩))] ?_
    refine Op.ld (n := 1) 102 (.tmp 39) 40 2 (.slice a_f_2 f.words.length n_f_2) (s30.chunk 2 rfl) ?_
    refine Op.pg 7 [(41, .int .i64 (f.words.length : Int)), (42, .int .i64 0)] ?_
    have R53 := Row.nil 5 kU8 g
    have s54 := s30.nl
    have R55 := Row.nil 3 (kInt .i64) g
    have s56 := s54.nl
    have s57 := ((s56.front 0 rfl).front 1 rfl).front 2 rfl
    obtain ⟨c58, o59, s60⟩ := St.pack (Q := IsStep g b26 (⟨f.kind, 0, 0, 0, ⟨f.role, 0⟩, ([] : List UInt8), ([] : List Int)⟩ : Step)) 3 s57 ⟨_, _, _, _, rfl, R53, R55⟩
    have loop7 : ∀ (m : Nat) (st : Step) (i : Int) (c61 : Chunk) (h64 : Heap) (hm : f.words.length - i.toNat < m) (h0 : 0 ≤ i) (hi : i ≤ f.words.length) (hlen : f.words.length ≤ list.length) (hK : st.Keeps = []) (hW : wrdI f list st i)  (o62 : IsStep g b26 st c61)   (s63 : St h g (ids []) g [c61, [(b23, Obj.cells #[.int .i64 0, .int .i64 0, .int .i64 0, .int .i64 0, .int .i64 0, .int .i64 0, .slice none 0 0, .slice none 0 0] 94 (0, 0))], [(b20, Obj.cells #[.int .i64 f.kind, .int .i64 f.role, .slice a_f_2 f.words.length n_f_2, .bool f.more] 104 (0, 0))]] h64), At (fctx Tryz.prog B 58 Tryz.f58 R) [] 7 [(1, .slice a_list list.length n_list), (2, .pointer (some ⟨b20, 0, none⟩)), (4, .pointer (some ⟨b23, 0, none⟩)), (6, .pointer (some ⟨b26, 0, none⟩)), (40, .slice a_f_2 f.words.length n_f_2), (41, .int .i64 (f.words.length : Int)), (42, .int .i64 i)] h64 := by
     intro m; induction m with
     | zero => intros; omega
     | succ m ih7 =>
      intro st i c61 h64 hm h0 hi hlen hK hW o62 s63
      refine At.go 8 1 [(43, .bool (decide (i < (f.words.length : Int))))] ?_
      refine At.if' (decide (i < (f.words.length : Int))) 43 9 15 (fun c65 => ?_) (fun c66 => ?_)
      ·replace c65 := of_decide_eq_true c65
       refine At.rp 6 1 [(44, .int .i64 i)] ?_
       obtain ⟨x67, hx68⟩ := getAt (l := f.words) (i := i) (by omega)
       obtain ⟨b69, o70, cu71, fz72, ha73, hb74, hk75⟩ := SlR.at_ h_f_2 _ hx68
       cases ha73
       refine Op.ix 102 153 2 16 f.words.length n_f_2 (.tmp 40) (.tmp 42) 45 b69 o70 i (by omega) (by omega) ?_
       have hn78 : x67 ≠ .nul := by exact hnn x67 (List.mem_of_getElem? hx68)
       obtain ⟨cp76, hw77, hk75⟩ := word_open hn78 hk75
       refine Op.la 153 (.tmp 45) 46 (o70 + (i : Int).toNat * 2) 2 [.func (.func (rdF x67)) #[] cp76, .func (.func (syF x67)) #[] cp76] (s63.sub _ _ hb74) ?_ (hv := (hk75))
       refine Op.al 8 153 #[.nilFunc, .nilFunc] s63 ?_
       intro b79 h80 s81
       refine Op.px 1 [(7, .int .i64 i)] ?_
       refine Op.store (T := 153) (x := (.tmp 8)) (y := (.tmp 46)) (b := b79) (o := 0) (vs := [.func (.func (rdF x67)) #[] cp76, .func (.func (syF x67)) #[] cp76]) (a? := true) (n := 2) (by kernel_rfl) (by kernel_rfl) (by kernel_rfl) (by kernel_rfl) rfl (by simp [Value.oneCell']) s81 0 rfl (Nat.le_of_ble_eq_true (by kernel_rfl)) (cs := #[.nilFunc, .nilFunc]) (cs' := #[.func (.func (rdF x67)) #[] cp76, .func (.func (syF x67)) #[] cp76]) (by kernel_rfl) (fun _ => trivial) ?_
       intro h82 s83
       refine Op.gt 10 ?_
       refine At.draw (by kernel_rfl) (fun _ => False) [(0, true), (2, true), (3, true), (4, true), (1, true), (5, false), (1006, false), (6, false), (7, true)] (by kernel_rfl) ?_
       refine Op.px 3 [(47, .pointer (some ⟨b79, 0, none⟩)), (49, .slice a_list list.length n_list), (50, .int .i64 i)] ?_
       obtain ⟨x84, hx85⟩ := getAt (l := list) (i := i) (by omega)
       obtain ⟨b86, o87, cu88, fz89, ha90, hb91, hk92⟩ := SlR.at_ h_list _ hx85
       cases ha90
       refine Op.ix 54 9 1 16 list.length n_list (.tmp 49) (.tmp 50) 51 b86 o87 i (by omega) (by omega) ?_
       replace hk92 : cut _ _ _ = [.string (mkS x84)] := hk92
       refine Op.loadF (T := 151) (x := (.tmp 47)) (o := 0) (d := 48) (n := 1) (v := .func (.func (rdF x67)) #[] cp76) (by kernel_rfl) (by kernel_rfl) (by kernel_rfl) (fun h => h) (s83.chunk 0 rfl) (by kernel_rfl) ?_
       refine Op.ld (n := 1) 9 (.tmp 51) 52 (o87 + (i : Int).toNat * 1) (.string (mkS x84)) (s83.sub _ _ hb91) ?_ (hv := (cut_get hk92 0 rfl))
       refine Op.barrier (by kernel_rfl) ?_
       have s93 := (s83.front 0 rfl).front 1 rfl
       refine Op.callV (dst := some 53) (x := (.tmp 48)) (ops := #[(.tmp 6), (.tmp 52)]) (ts := #[155, 9]) (f := (rdF x67)) (first := #[]) (cap := cp76) (Lc := [c61]) (L := [[(b79, Obj.cells #[.func (.func (rdF x67)) #[] cp76, .func (.func (syF x67)) #[] cp76] 153 (0, 0))], [(b23, Obj.cells #[.int .i64 0, .int .i64 0, .int .i64 0, .int .i64 0, .int .i64 0, .int .i64 0, .slice none 0 0, .slice none 0 0] 94 (0, 0))], [(b20, Obj.cells #[.int .i64 f.kind, .int .i64 f.role, .slice (some ⟨b69, o70, none⟩) f.words.length n_f_2, .bool f.more] 104 (0, 0))]]) (args := ((#[.pointer (some ⟨b26, 0, none⟩), .string (mkS x84)] : Array Value) ++ cp76)) (by kernel_rfl) (by kernel_rfl) (rd_ent x67 hn78) (args2 (by kernel_rfl) (by kernel_rfl)) s93 (read_spec _ _ _ s93.sub hG x67 hn78 cp76 hw77 b26 st _ o62 x84 (by ((try dsimp only) <;> (exact hxl _ (List.mem_of_getElem? hx85)))) (St.part (Lc := [c61]) (L := [[(b79, Obj.cells #[.func (.func (rdF x67)) #[] cp76, .func (.func (syF x67)) #[] cp76] 153 (0, 0))], [(b23, Obj.cells #[.int .i64 0, .int .i64 0, .int .i64 0, .int .i64 0, .int .i64 0, .int .i64 0, .slice none 0 0, .slice none 0 0] 94 (0, 0))], [(b20, Obj.cells #[.int .i64 f.kind, .int .i64 f.role, .slice (some ⟨b69, o70, none⟩) f.words.length n_f_2, .bool f.more] 104 (0, 0))]]) s93)) (fun _ _ _ => trivial) ?_
       rintro _ g98 _ h94 hle99 s95 ⟨c96, rfl, o97, hgg, rfl⟩; subst g98; clear hle99
       refine Op.pg 11 [(54, .bool (!((setS x67.ch st x84).2)))] ?_
       refine At.if' (!((setS x67.ch st x84).2)) 54 12 14 (fun c100 => ?_) (fun c101 => ?_)
       ·replace c100 := (notT c100)
        refine At.rg 3 ?_
        obtain ⟨v102, c103, v104, c105, e106, R107, R108⟩ := o97
        obtain ⟨a109, n110, rfl⟩ := R107.form
        obtain ⟨a111, n112, rfl⟩ := R108.form
        have s113 : St h g (ids []) g [[(b26, Obj.cells #[.int .i64 (((setS x67.ch st x84).1).Kind), .int .i64 (((setS x67.ch st x84).1).Role), .int .i64 (((setS x67.ch st x84).1).K), .int .i64 (((setS x67.ch st x84).1).Power), .int .i64 (((setS x67.ch st x84).1).Node.Role), .int .i64 (((setS x67.ch st x84).1).Node.N), .slice a109 ((((setS x67.ch st x84).1).Data).length) n110, .slice a111 ((((setS x67.ch st x84).1).Keeps).length) n112] 94 (0, 0))], c103, c105, [(b79, Obj.cells #[.func (.func (rdF x67)) #[] cp76, .func (.func (syF x67)) #[] cp76] 153 (0, 0))], [(b23, Obj.cells #[.int .i64 0, .int .i64 0, .int .i64 0, .int .i64 0, .int .i64 0, .int .i64 0, .slice none 0 0, .slice none 0 0] 94 (0, 0))], [(b20, Obj.cells #[.int .i64 f.kind, .int .i64 f.role, .slice (some ⟨b69, o70, none⟩) f.words.length n_f_2, .bool f.more] 104 (0, 0))]] h94 := St.flat (L := [c96, [(b79, Obj.cells #[.func (.func (rdF x67)) #[] cp76, .func (.func (syF x67)) #[] cp76] 153 (0, 0))], [(b23, Obj.cells #[.int .i64 0, .int .i64 0, .int .i64 0, .int .i64 0, .int .i64 0, .int .i64 0, .slice none 0 0, .slice none 0 0] 94 (0, 0))], [(b20, Obj.cells #[.int .i64 f.kind, .int .i64 f.role, .slice (some ⟨b69, o70, none⟩) f.words.length n_f_2, .bool f.more] 104 (0, 0))]]) (by rw [e106]; simp only [List.flatten_cons, List.append_assoc, List.cons_append, List.nil_append, List.append_nil]) s95
        refine Op.la 94 (.tmp 6) 55 0 8 [.int .i64 (((setS x67.ch st x84).1).Kind), .int .i64 (((setS x67.ch st x84).1).Role), .int .i64 (((setS x67.ch st x84).1).K), .int .i64 (((setS x67.ch st x84).1).Power), .int .i64 (((setS x67.ch st x84).1).Node.Role), .int .i64 (((setS x67.ch st x84).1).Node.N), .slice a109 ((((setS x67.ch st x84).1).Data).length) n110, .slice a111 ((((setS x67.ch st x84).1).Keeps).length) n112] (s113.chunk 0 rfl) ?_
        refine Op.store (T := 94) (x := (.tmp 4)) (y := (.tmp 55)) (b := b23) (o := 0) (vs := [.int .i64 (((setS x67.ch st x84).1).Kind), .int .i64 (((setS x67.ch st x84).1).Role), .int .i64 (((setS x67.ch st x84).1).K), .int .i64 (((setS x67.ch st x84).1).Power), .int .i64 (((setS x67.ch st x84).1).Node.Role), .int .i64 (((setS x67.ch st x84).1).Node.N), .slice a109 ((((setS x67.ch st x84).1).Data).length) n110, .slice a111 ((((setS x67.ch st x84).1).Keeps).length) n112]) (a? := true) (n := 8) (by kernel_rfl) (by kernel_rfl) (by kernel_rfl) (by kernel_rfl) rfl (by simp [Value.oneCell']) s113 4 rfl (Nat.le_of_ble_eq_true (by kernel_rfl)) (cs := #[.int .i64 0, .int .i64 0, .int .i64 0, .int .i64 0, .int .i64 0, .int .i64 0, .slice none 0 0, .slice none 0 0]) (cs' := #[.int .i64 (((setS x67.ch st x84).1).Kind), .int .i64 (((setS x67.ch st x84).1).Role), .int .i64 (((setS x67.ch st x84).1).K), .int .i64 (((setS x67.ch st x84).1).Power), .int .i64 (((setS x67.ch st x84).1).Node.Role), .int .i64 (((setS x67.ch st x84).1).Node.N), .slice a109 ((((setS x67.ch st x84).1).Data).length) n110, .slice a111 ((((setS x67.ch st x84).1).Keeps).length) n112]) (by kernel_rfl) (fun _ => trivial) ?_
        intro h114 s115
        refine Op.pg 13 [(5, .bool false)] ?_
        refine At.retM (f := Tryz.f58) (vs := [.agg #[.int .i64 (((setS x67.ch st x84).1).Kind), .int .i64 (((setS x67.ch st x84).1).Role), .int .i64 (((setS x67.ch st x84).1).K), .int .i64 (((setS x67.ch st x84).1).Power), .int .i64 (((setS x67.ch st x84).1).Node.Role), .int .i64 (((setS x67.ch st x84).1).Node.N), .slice a109 ((((setS x67.ch st x84).1).Data).length) n110, .slice a111 ((((setS x67.ch st x84).1).Keeps).length) n112], .bool false]) (rl := [.cell 4 94, .tmp 5]) (v := .tuple #[.agg #[.int .i64 (((setS x67.ch st x84).1).Kind), .int .i64 (((setS x67.ch st x84).1).Role), .int .i64 (((setS x67.ch st x84).1).K), .int .i64 (((setS x67.ch st x84).1).Power), .int .i64 (((setS x67.ch st x84).1).Node.Role), .int .i64 (((setS x67.ch st x84).1).Node.N), .slice a109 ((((setS x67.ch st x84).1).Data).length) n110, .slice a111 ((((setS x67.ch st x84).1).Keeps).length) n112], .bool false]) (by kernel_rfl) (by kernel_rfl) ⟨⟨_, _, rfl, resAgg (n := 8) (by kernel_rfl) (s115.chunk 4 rfl) (by kernel_rfl) rfl⟩, rfl, trivial⟩ rfl ?_
        have s116 := (((((s115.front 2 rfl).front 2 rfl).front 5 rfl).front 5 rfl).front 5 rfl).front 5 rfl
        have s117 := s116.drop.drop.drop.drop
        refine hR _ _ _ _ s117 ⟨(.slice a109 ((((setS x67.ch st x84).1).Data).length) n110), c103, (.slice a111 ((((setS x67.ch st x84).1).Keeps).length) n112), c105, ?_, ?_, ?_, rfl, rfl⟩
        ·exact eqT2 (by (rw [← (read_yes (by assumption) (by first | exact (fun q => absurd q.1 (by assumption)) | exact (fun q => absurd (q.2.symm.trans (show f.more = true by assumption)) (by decide))) (wrdI_bad hW h0 hx68 hx85 (by assumption))).1])) (eqB (by exact ((by assumption : (setS x67.ch st x84).2 = false)).symm.trans (read_yes (by assumption) (by first | exact (fun q => absurd q.1 (by assumption)) | exact (fun q => absurd (q.2.symm.trans (show f.more = true by assumption)) (by decide))) (wrdI_bad hW h0 hx68 hx85 (by assumption))).2))
        ·exact rowEq R107 (by (rw [← (read_yes (by assumption) (by first | exact (fun q => absurd q.1 (by assumption)) | exact (fun q => absurd (q.2.symm.trans (show f.more = true by assumption)) (by decide))) (wrdI_bad hW h0 hx68 hx85 (by assumption))).1]))
        ·exact rowEq R108 (by (rw [← (read_yes (by assumption) (by first | exact (fun q => absurd q.1 (by assumption)) | exact (fun q => absurd (q.2.symm.trans (show f.more = true by assumption)) (by decide))) (wrdI_bad hW h0 hx68 hx85 (by assumption))).1]))
       ·replace c101 := (notF c101)
        refine At.rg 2 ?_
        refine Op.v64 56 (i + 1) (by omega) (by omega) ?_
        refine Op.pg 7 [(42, .int .i64 (i + 1))] ?_
        refine At.kp [(1, .slice (some ⟨b86, o87, none⟩) list.length n_list), (2, .pointer (some ⟨b20, 0, none⟩)), (4, .pointer (some ⟨b23, 0, none⟩)), (6, .pointer (some ⟨b26, 0, none⟩)), (40, .slice (some ⟨b69, o70, none⟩) f.words.length n_f_2), (41, .int .i64 (f.words.length : Int)), (42, .int .i64 (i + 1))] ?_
        have s118 := (s95.front 0 rfl).front 1 rfl
        have s119 := s118.drop
        exact ih7  ((setS x67.ch st x84).1) (i + 1) _ _ (by omega) (by omega) (by omega) (by omega) (by (rw [setS_keeps]; exact hK)) (by exact wrdI_step hW h0 hx68 hx85 (by assumption)) o97 s119
      ·replace c66 := of_decide_eq_false c66
       refine At.rp 7 2 [(57, .slice a_list list.length n_list), (58, .pointer (some ⟨b20, 2, none⟩))] ?_
       refine Op.ld (n := 1) 102 (.tmp 58) 59 2 (.slice a_f_2 f.words.length n_f_2) (s63.chunk 2 rfl) ?_
       refine Op.px 1 [(60, .int .i64 (f.words.length : Int))] ?_
       refine Op.slLoD (T := 54) (E := 9) (by_ := 16) (x := (.tmp 57)) (ao := a_list) (n := list.length) (c := n_list) (dst := 61) (d := kStr) (lo := (.tmp 60)) (k := .i64) (m := (f.words.length : Int)) (by kernel_rfl) (by kernel_rfl) (by kernel_rfl) (by kernel_rfl) h_list (by omega) (by omega) ?_
       intro v120 hr121
       obtain ⟨a122, n123, rfl⟩ := hr121.form
       refine Op.pg 16 [(62, .int .i64 ((list.drop ((f.words.length : Int) : Int).toNat).length : Int)), (63, .int .i64 0)] ?_
       have loop16 : ∀ (m : Nat) (st2 : Step) (j : Int) (c124 : Chunk) (h127 : Heap) (hm : (list.drop (f.words.length : Int).toNat).length - j.toNat < m) (j0 : 0 ≤ j) (hj : j ≤ (list.drop (f.words.length : Int).toNat).length) (hkl : st2.Keeps.length ≤ j) (hS : kpsI f list st2 j)  (o125 : IsStep g b26 st2 c124)   (s126 : St h g (ids []) g [c124, [(b23, Obj.cells #[.int .i64 0, .int .i64 0, .int .i64 0, .int .i64 0, .int .i64 0, .int .i64 0, .slice none 0 0, .slice none 0 0] 94 (0, 0))], [(b20, Obj.cells #[.int .i64 f.kind, .int .i64 f.role, .slice a_f_2 f.words.length n_f_2, .bool f.more] 104 (0, 0))]] h127), At (fctx Tryz.prog B 58 Tryz.f58 R) [] 16 [(4, .pointer (some ⟨b23, 0, none⟩)), (6, .pointer (some ⟨b26, 0, none⟩)), (61, .slice a122 ((list.drop ((f.words.length : Int) : Int).toNat).length) n123), (62, .int .i64 ((list.drop ((f.words.length : Int) : Int).toNat).length : Int)), (63, .int .i64 j)] h127 := by
        intro m; induction m with
        | zero => intros; omega
        | succ m ih16 =>
         intro st2 j c124 h127 hm j0 hj hkl hS o125 s126
         refine At.go 17 1 [(64, .bool (decide (j < ((list.drop ((f.words.length : Int) : Int).toNat).length : Int))))] ?_
         refine At.if' (decide (j < ((list.drop ((f.words.length : Int) : Int).toNat).length : Int))) 64 18 26 (fun c128 => ?_) (fun c129 => ?_)
         ·replace c128 := of_decide_eq_true c128
          refine At.rg 3 ?_
          obtain ⟨x130, hx131⟩ := getAt (l := list.drop ((f.words.length : Int) : Int).toNat) (i := j) (by omega)
          obtain ⟨b132, o133, cu134, fz135, ha136, hb137, hk138⟩ := SlR.at_ hr121 _ hx131
          cases ha136
          refine Op.ix 54 9 1 16 ((list.drop ((f.words.length : Int) : Int).toNat).length) n123 (.tmp 61) (.tmp 63) 65 b132 o133 j (by omega) (by omega) ?_
          replace hk138 : cut _ _ _ = [.string (mkS x130)] := hk138
          refine Op.ld (n := 1) 9 (.tmp 65) 66 (o133 + (j : Int).toNat * 1) (.string (mkS x130)) (s126.sub _ _ hb137) ?_ (hv := (cut_get hk138 0 rfl))
          refine Op.pg 19 [(10, .string (mkS x130))] ?_
          refine At.rp 7 1 [(68, .string (mkS x130))] ?_
          refine Op.c1 69 (number _ _ _ s126.sub hG x130 (by ((try dsimp only) <;> ((have := hxl x130 (List.mem_of_mem_drop (List.mem_of_getElem? hx131)); omega)))) ) s126 ?_
          intro h139 s140
          refine Op.pg 20 [(11, .int .i64 ((numW x130).getD 0)), (12, .bool ((numW x130).isSome))] ?_
          refine At.go 21 2 [(73, .bool (!((numW x130).isSome)))] ?_
          refine At.if' (!((numW x130).isSome)) 73 22 24 (fun c143 => ?_) (fun c144 => ?_)
          ·replace c143 := (notT c143)
           refine At.rg 3 ?_
           obtain ⟨v145, c146, v147, c148, e149, R150, R151⟩ := o125
           obtain ⟨a152, n153, rfl⟩ := R150.form
           obtain ⟨a154, n155, rfl⟩ := R151.form
           have s156 : St h g (ids []) g [[(b26, Obj.cells #[.int .i64 st2.Kind, .int .i64 st2.Role, .int .i64 st2.K, .int .i64 st2.Power, .int .i64 st2.Node.Role, .int .i64 st2.Node.N, .slice a152 st2.Data.length n153, .slice a154 st2.Keeps.length n155] 94 (0, 0))], c146, c148, [(b23, Obj.cells #[.int .i64 0, .int .i64 0, .int .i64 0, .int .i64 0, .int .i64 0, .int .i64 0, .slice none 0 0, .slice none 0 0] 94 (0, 0))], [(b20, Obj.cells #[.int .i64 f.kind, .int .i64 f.role, .slice a_f_2 f.words.length n_f_2, .bool f.more] 104 (0, 0))]] h139 := St.flat (L := [c124, [(b23, Obj.cells #[.int .i64 0, .int .i64 0, .int .i64 0, .int .i64 0, .int .i64 0, .int .i64 0, .slice none 0 0, .slice none 0 0] 94 (0, 0))], [(b20, Obj.cells #[.int .i64 f.kind, .int .i64 f.role, .slice a_f_2 f.words.length n_f_2, .bool f.more] 104 (0, 0))]]) (by rw [e149]; simp only [List.flatten_cons, List.append_assoc, List.cons_append, List.nil_append, List.append_nil]) s140
           refine Op.la 94 (.tmp 6) 74 0 8 [.int .i64 st2.Kind, .int .i64 st2.Role, .int .i64 st2.K, .int .i64 st2.Power, .int .i64 st2.Node.Role, .int .i64 st2.Node.N, .slice a152 st2.Data.length n153, .slice a154 st2.Keeps.length n155] (s156.chunk 0 rfl) ?_
           refine Op.store (T := 94) (x := (.tmp 4)) (y := (.tmp 74)) (b := b23) (o := 0) (vs := [.int .i64 st2.Kind, .int .i64 st2.Role, .int .i64 st2.K, .int .i64 st2.Power, .int .i64 st2.Node.Role, .int .i64 st2.Node.N, .slice a152 st2.Data.length n153, .slice a154 st2.Keeps.length n155]) (a? := true) (n := 8) (by kernel_rfl) (by kernel_rfl) (by kernel_rfl) (by kernel_rfl) rfl (by simp [Value.oneCell']) s156 3 rfl (Nat.le_of_ble_eq_true (by kernel_rfl)) (cs := #[.int .i64 0, .int .i64 0, .int .i64 0, .int .i64 0, .int .i64 0, .int .i64 0, .slice none 0 0, .slice none 0 0]) (cs' := #[.int .i64 st2.Kind, .int .i64 st2.Role, .int .i64 st2.K, .int .i64 st2.Power, .int .i64 st2.Node.Role, .int .i64 st2.Node.N, .slice a152 st2.Data.length n153, .slice a154 st2.Keeps.length n155]) (by kernel_rfl) (fun _ => trivial) ?_
           intro h157 s158
           refine Op.pg 23 [(5, .bool false)] ?_
           refine At.retM (f := Tryz.f58) (vs := [.agg #[.int .i64 st2.Kind, .int .i64 st2.Role, .int .i64 st2.K, .int .i64 st2.Power, .int .i64 st2.Node.Role, .int .i64 st2.Node.N, .slice a152 st2.Data.length n153, .slice a154 st2.Keeps.length n155], .bool false]) (rl := [.cell 4 94, .tmp 5]) (v := .tuple #[.agg #[.int .i64 st2.Kind, .int .i64 st2.Role, .int .i64 st2.K, .int .i64 st2.Power, .int .i64 st2.Node.Role, .int .i64 st2.Node.N, .slice a152 st2.Data.length n153, .slice a154 st2.Keeps.length n155], .bool false]) (by kernel_rfl) (by kernel_rfl) ⟨⟨_, _, rfl, resAgg (n := 8) (by kernel_rfl) (s158.chunk 3 rfl) (by kernel_rfl) rfl⟩, rfl, trivial⟩ rfl ?_
           have s159 := ((((s158.front 2 rfl).front 2 rfl).front 4 rfl).front 4 rfl).front 4 rfl
           have s160 := s159.drop.drop.drop
           refine hR _ _ _ _ s160 ⟨(.slice a152 st2.Data.length n153), c146, (.slice a154 st2.Keeps.length n155), c148, ?_, ?_, ?_, rfl, rfl⟩
           ·exact eqT2 (by (rw [← (read_yes (by assumption) (by first | exact (fun q => absurd q.1 (by assumption)) | exact (fun q => absurd (q.2.symm.trans (show f.more = true by assumption)) (by decide))) (kpsI_bad hS j0 hx131 (by assumption))).1])) (eqB (by exact (read_yes (by assumption) (by first | exact (fun q => absurd q.1 (by assumption)) | exact (fun q => absurd (q.2.symm.trans (show f.more = true by assumption)) (by decide))) (kpsI_bad hS j0 hx131 (by assumption))).2))
           ·exact rowEq R150 (by (rw [← (read_yes (by assumption) (by first | exact (fun q => absurd q.1 (by assumption)) | exact (fun q => absurd (q.2.symm.trans (show f.more = true by assumption)) (by decide))) (kpsI_bad hS j0 hx131 (by assumption))).1]))
           ·exact rowEq R151 (by (rw [← (read_yes (by assumption) (by first | exact (fun q => absurd q.1 (by assumption)) | exact (fun q => absurd (q.2.symm.trans (show f.more = true by assumption)) (by decide))) (kpsI_bad hS j0 hx131 (by assumption))).1]))
          ·replace c144 := (notF c144)
           refine At.rp 7 1 [(75, .pointer (some ⟨b26, 7, none⟩))] ?_
           obtain ⟨v161, c162, v163, c164, e165, R166, R167⟩ := o125
           obtain ⟨a168, n169, rfl⟩ := R166.form
           obtain ⟨a170, n171, rfl⟩ := R167.form
           have s172 : St h g (ids []) g [[(b26, Obj.cells #[.int .i64 st2.Kind, .int .i64 st2.Role, .int .i64 st2.K, .int .i64 st2.Power, .int .i64 st2.Node.Role, .int .i64 st2.Node.N, .slice a168 st2.Data.length n169, .slice a170 st2.Keeps.length n171] 94 (0, 0))], c162, c164, [(b23, Obj.cells #[.int .i64 0, .int .i64 0, .int .i64 0, .int .i64 0, .int .i64 0, .int .i64 0, .slice none 0 0, .slice none 0 0] 94 (0, 0))], [(b20, Obj.cells #[.int .i64 f.kind, .int .i64 f.role, .slice a_f_2 f.words.length n_f_2, .bool f.more] 104 (0, 0))]] h139 := St.flat (L := [c124, [(b23, Obj.cells #[.int .i64 0, .int .i64 0, .int .i64 0, .int .i64 0, .int .i64 0, .int .i64 0, .slice none 0 0, .slice none 0 0] 94 (0, 0))], [(b20, Obj.cells #[.int .i64 f.kind, .int .i64 f.role, .slice a_f_2 f.words.length n_f_2, .bool f.more] 104 (0, 0))]]) (by rw [e165]; simp only [List.flatten_cons, List.append_assoc, List.cons_append, List.nil_append, List.append_nil]) s140
           refine Op.ld (n := 1) 44 (.tmp 75) 76 7 (.slice a170 st2.Keeps.length n171) (s172.chunk 0 rfl) ?_
           refine Op.px 1 [(77, .int .i64 ((numW x130).getD 0))] ?_
           refine Op.lit (T := 44) (len := 1) (parts := #[(0, (.tmp 77))]) (dst := 78) (E := 3) (ps := [(0, .int .i64 ((numW x130).getD 0))]) (cs := #[.int .i64 ((numW x130).getD 0)]) (by kernel_rfl) (by kernel_rfl) (by kernel_rfl) s172 ?_
           intro b173 h174 s175
           refine Op.append (x := (.tmp 76)) (y := (.tmp 78)) (t := 44) (t' := 44) (dst := 79) (E := 3) (by_ := 8) (d := (kInt .i64)) (by kernel_rfl) (by kernel_rfl) (by kernel_rfl) (by kernel_rfl) rfl R167 s175 3 rfl (Src.lit (m := 1) (sz := 1) (s175.chunk 0 rfl) (news := [.int .i64 ((numW x130).getD 0)]) rfl rfl (by simp [Value.oneCell']) _) (ys := [(numW x130).getD 0]) (⟨_, _, rfl, rfl, Reads.nil⟩) rfl (by (simp only [List.length_drop] at *; simp only [List.length_cons, List.length_nil]; omega)) (fun _ _ _ => trivial) ?_
           intro v176 ch177 h178 R179 s180 nn181
           obtain ⟨a182, n183, rfl⟩ := R179.form
           have s184 := (s180.front 0 rfl).drop
           refine Op.px 1 [(80, .pointer (some ⟨b26, 7, none⟩))] ?_
           refine Op.s1 44 (.tmp 80) (.tmp 79) 7 (.slice a182 ((st2.Keeps ++ ([(numW x130).getD 0])).length) n183) 0 #[.int .i64 st2.Kind, .int .i64 st2.Role, .int .i64 st2.K, .int .i64 st2.Power, .int .i64 st2.Node.Role, .int .i64 st2.Node.N, .slice a168 st2.Data.length n169, .slice a182 ((st2.Keeps ++ ([(numW x130).getD 0])).length) n183] s184 (fun _ => trivial) ?_
           intro h185 s186
           refine Op.gt 25 ?_
           refine At.rg 2 ?_
           refine Op.v64 81 (j + 1) (by omega) (by (simp only [List.length_drop] at *; omega)) ?_
           refine Op.pg 16 [(63, .int .i64 (j + 1))] ?_
           obtain ⟨c187, o188, s189⟩ := St.pack (Q := IsStep g b26 (⟨st2.Kind, st2.Role, st2.K, st2.Power, ⟨st2.Node.Role, st2.Node.N⟩, st2.Data, st2.Keeps ++ ([(numW x130).getD 0])⟩ : Step)) 3 s186 ⟨_, _, _, _, rfl, R166, R179⟩
           refine At.kp [(4, .pointer (some ⟨b23, 0, none⟩)), (6, .pointer (some ⟨b26, 0, none⟩)), (61, .slice (some ⟨b132, o133, none⟩) ((list.drop ((f.words.length : Int) : Int).toNat).length) n123), (62, .int .i64 ((list.drop ((f.words.length : Int) : Int).toNat).length : Int)), (63, .int .i64 (j + 1))] ?_
           exact ih16  (⟨st2.Kind, st2.Role, st2.K, st2.Power, ⟨st2.Node.Role, st2.Node.N⟩, st2.Data, st2.Keeps ++ ([(numW x130).getD 0])⟩ : Step) (j + 1) _ _ (by omega) (by omega) (by omega) (by (simp only [List.length_append, List.length_cons, List.length_nil]; omega)) (by exact kpsI_step hS j0 hx131 (by assumption)) o188 s189
         ·replace c129 := of_decide_eq_false c129
          refine At.rg 3 ?_
          obtain ⟨v190, c191, v192, c193, e194, R195, R196⟩ := o125
          obtain ⟨a197, n198, rfl⟩ := R195.form
          obtain ⟨a199, n200, rfl⟩ := R196.form
          have s201 : St h g (ids []) g [[(b26, Obj.cells #[.int .i64 st2.Kind, .int .i64 st2.Role, .int .i64 st2.K, .int .i64 st2.Power, .int .i64 st2.Node.Role, .int .i64 st2.Node.N, .slice a197 st2.Data.length n198, .slice a199 st2.Keeps.length n200] 94 (0, 0))], c191, c193, [(b23, Obj.cells #[.int .i64 0, .int .i64 0, .int .i64 0, .int .i64 0, .int .i64 0, .int .i64 0, .slice none 0 0, .slice none 0 0] 94 (0, 0))], [(b20, Obj.cells #[.int .i64 f.kind, .int .i64 f.role, .slice a_f_2 f.words.length n_f_2, .bool f.more] 104 (0, 0))]] h127 := St.flat (L := [c124, [(b23, Obj.cells #[.int .i64 0, .int .i64 0, .int .i64 0, .int .i64 0, .int .i64 0, .int .i64 0, .slice none 0 0, .slice none 0 0] 94 (0, 0))], [(b20, Obj.cells #[.int .i64 f.kind, .int .i64 f.role, .slice a_f_2 f.words.length n_f_2, .bool f.more] 104 (0, 0))]]) (by rw [e194]; simp only [List.flatten_cons, List.append_assoc, List.cons_append, List.nil_append, List.append_nil]) s126
          refine Op.la 94 (.tmp 6) 82 0 8 [.int .i64 st2.Kind, .int .i64 st2.Role, .int .i64 st2.K, .int .i64 st2.Power, .int .i64 st2.Node.Role, .int .i64 st2.Node.N, .slice a197 st2.Data.length n198, .slice a199 st2.Keeps.length n200] (s201.chunk 0 rfl) ?_
          refine Op.store (T := 94) (x := (.tmp 4)) (y := (.tmp 82)) (b := b23) (o := 0) (vs := [.int .i64 st2.Kind, .int .i64 st2.Role, .int .i64 st2.K, .int .i64 st2.Power, .int .i64 st2.Node.Role, .int .i64 st2.Node.N, .slice a197 st2.Data.length n198, .slice a199 st2.Keeps.length n200]) (a? := true) (n := 8) (by kernel_rfl) (by kernel_rfl) (by kernel_rfl) (by kernel_rfl) rfl (by simp [Value.oneCell']) s201 3 rfl (Nat.le_of_ble_eq_true (by kernel_rfl)) (cs := #[.int .i64 0, .int .i64 0, .int .i64 0, .int .i64 0, .int .i64 0, .int .i64 0, .slice none 0 0, .slice none 0 0]) (cs' := #[.int .i64 st2.Kind, .int .i64 st2.Role, .int .i64 st2.K, .int .i64 st2.Power, .int .i64 st2.Node.Role, .int .i64 st2.Node.N, .slice a197 st2.Data.length n198, .slice a199 st2.Keeps.length n200]) (by kernel_rfl) (fun _ => trivial) ?_
          intro h202 s203
          refine Op.pg 27 [(5, .bool true)] ?_
          refine At.retM (f := Tryz.f58) (vs := [.agg #[.int .i64 st2.Kind, .int .i64 st2.Role, .int .i64 st2.K, .int .i64 st2.Power, .int .i64 st2.Node.Role, .int .i64 st2.Node.N, .slice a197 st2.Data.length n198, .slice a199 st2.Keeps.length n200], .bool true]) (rl := [.cell 4 94, .tmp 5]) (v := .tuple #[.agg #[.int .i64 st2.Kind, .int .i64 st2.Role, .int .i64 st2.K, .int .i64 st2.Power, .int .i64 st2.Node.Role, .int .i64 st2.Node.N, .slice a197 st2.Data.length n198, .slice a199 st2.Keeps.length n200], .bool true]) (by kernel_rfl) (by kernel_rfl) ⟨⟨_, _, rfl, resAgg (n := 8) (by kernel_rfl) (s203.chunk 3 rfl) (by kernel_rfl) rfl⟩, rfl, trivial⟩ rfl ?_
          have s204 := ((((s203.front 2 rfl).front 2 rfl).front 4 rfl).front 4 rfl).front 4 rfl
          have s205 := s204.drop.drop.drop
          refine hR _ _ _ _ s205 ⟨(.slice a197 st2.Data.length n198), c191, (.slice a199 st2.Keeps.length n200), c193, ?_, ?_, ?_, rfl, rfl⟩
          ·exact eqT2 (by (rw [← (read_yes (by assumption) (by first | exact (fun q => absurd q.1 (by assumption)) | exact (fun q => absurd (q.2.symm.trans (show f.more = true by assumption)) (by decide))) (kpsI_end hS (by assumption))).1])) (eqB (by exact (read_yes (by assumption) (by first | exact (fun q => absurd q.1 (by assumption)) | exact (fun q => absurd (q.2.symm.trans (show f.more = true by assumption)) (by decide))) (kpsI_end hS (by assumption))).2))
          ·exact rowEq R195 (by (rw [← (read_yes (by assumption) (by first | exact (fun q => absurd q.1 (by assumption)) | exact (fun q => absurd (q.2.symm.trans (show f.more = true by assumption)) (by decide))) (kpsI_end hS (by assumption))).1]))
          ·exact rowEq R196 (by (rw [← (read_yes (by assumption) (by first | exact (fun q => absurd q.1 (by assumption)) | exact (fun q => absurd (q.2.symm.trans (show f.more = true by assumption)) (by decide))) (kpsI_end hS (by assumption))).1]))
       refine At.kp [(4, .pointer (some ⟨b23, 0, none⟩)), (6, .pointer (some ⟨b26, 0, none⟩)), (61, .slice a122 ((list.drop ((f.words.length : Int) : Int).toNat).length) n123), (62, .int .i64 ((list.drop ((f.words.length : Int) : Int).toNat).length : Int)), (63, .int .i64 0)] ?_
       exact loop16 _  st 0 _ _ (Nat.lt_succ_self _) (by omega) (by omega) (by (rw [hK]; exact Int.le_refl _)) (by exact kpsI_0 hW (by assumption) hi) o62 s63
    refine At.kp [(1, .slice a_list list.length n_list), (2, .pointer (some ⟨b20, 0, none⟩)), (4, .pointer (some ⟨b23, 0, none⟩)), (6, .pointer (some ⟨b26, 0, none⟩)), (40, .slice a_f_2 f.words.length n_f_2), (41, .int .i64 (f.words.length : Int)), (42, .int .i64 0)] ?_
    exact loop7 _  (⟨f.kind, 0, 0, 0, ⟨f.role, 0⟩, ([] : List UInt8), ([] : List Int)⟩ : Step) 0 _ _ (Nat.lt_succ_self _) (by omega) (by omega) (by omega) (by rfl) (by exact wrdI_0 f list) o59 s60
  ·replace c42 := of_decide_eq_false c42
   refine Op.pg 3 [(37, .bool false)] ?_
   refine At.ifF 37 6 ?_
   refine At.rp 4 1 [(39, .pointer (some ⟨b20, 2, none⟩))] ?_
   refine Op.ld (n := 1) 102 (.tmp 39) 40 2 (.slice a_f_2 f.words.length n_f_2) (s30.chunk 2 rfl) ?_
   refine Op.pg 7 [(41, .int .i64 (f.words.length : Int)), (42, .int .i64 0)] ?_
   have R206 := Row.nil 5 kU8 g
   have s207 := s30.nl
   have R208 := Row.nil 3 (kInt .i64) g
   have s209 := s207.nl
   have s210 := ((s209.front 0 rfl).front 1 rfl).front 2 rfl
   obtain ⟨c211, o212, s213⟩ := St.pack (Q := IsStep g b26 (⟨f.kind, 0, 0, 0, ⟨f.role, 0⟩, ([] : List UInt8), ([] : List Int)⟩ : Step)) 3 s210 ⟨_, _, _, _, rfl, R206, R208⟩
   have loop7 : ∀ (m : Nat) (st : Step) (i : Int) (c214 : Chunk) (h217 : Heap) (hm : f.words.length - i.toNat < m) (h0 : 0 ≤ i) (hi : i ≤ f.words.length) (hlen : f.words.length ≤ list.length) (hK : st.Keeps = []) (hW : wrdI f list st i)  (o215 : IsStep g b26 st c214)   (s216 : St h g (ids []) g [c214, [(b23, Obj.cells #[.int .i64 0, .int .i64 0, .int .i64 0, .int .i64 0, .int .i64 0, .int .i64 0, .slice none 0 0, .slice none 0 0] 94 (0, 0))], [(b20, Obj.cells #[.int .i64 f.kind, .int .i64 f.role, .slice a_f_2 f.words.length n_f_2, .bool f.more] 104 (0, 0))]] h217), At (fctx Tryz.prog B 58 Tryz.f58 R) [] 7 [(1, .slice a_list list.length n_list), (2, .pointer (some ⟨b20, 0, none⟩)), (4, .pointer (some ⟨b23, 0, none⟩)), (6, .pointer (some ⟨b26, 0, none⟩)), (40, .slice a_f_2 f.words.length n_f_2), (41, .int .i64 (f.words.length : Int)), (42, .int .i64 i)] h217 := by
    intro m; induction m with
    | zero => intros; omega
    | succ m ih7 =>
     intro st i c214 h217 hm h0 hi hlen hK hW o215 s216
     refine At.go 8 1 [(43, .bool (decide (i < (f.words.length : Int))))] ?_
     refine At.if' (decide (i < (f.words.length : Int))) 43 9 15 (fun c218 => ?_) (fun c219 => ?_)
     ·replace c218 := of_decide_eq_true c218
      refine At.rp 6 1 [(44, .int .i64 i)] ?_
      obtain ⟨x220, hx221⟩ := getAt (l := f.words) (i := i) (by omega)
      obtain ⟨b222, o223, cu224, fz225, ha226, hb227, hk228⟩ := SlR.at_ h_f_2 _ hx221
      cases ha226
      refine Op.ix 102 153 2 16 f.words.length n_f_2 (.tmp 40) (.tmp 42) 45 b222 o223 i (by omega) (by omega) ?_
      have hn231 : x220 ≠ .nul := by exact hnn x220 (List.mem_of_getElem? hx221)
      obtain ⟨cp229, hw230, hk228⟩ := word_open hn231 hk228
      refine Op.la 153 (.tmp 45) 46 (o223 + (i : Int).toNat * 2) 2 [.func (.func (rdF x220)) #[] cp229, .func (.func (syF x220)) #[] cp229] (s216.sub _ _ hb227) ?_ (hv := (hk228))
      refine Op.al 8 153 #[.nilFunc, .nilFunc] s216 ?_
      intro b232 h233 s234
      refine Op.px 1 [(7, .int .i64 i)] ?_
      refine Op.store (T := 153) (x := (.tmp 8)) (y := (.tmp 46)) (b := b232) (o := 0) (vs := [.func (.func (rdF x220)) #[] cp229, .func (.func (syF x220)) #[] cp229]) (a? := true) (n := 2) (by kernel_rfl) (by kernel_rfl) (by kernel_rfl) (by kernel_rfl) rfl (by simp [Value.oneCell']) s234 0 rfl (Nat.le_of_ble_eq_true (by kernel_rfl)) (cs := #[.nilFunc, .nilFunc]) (cs' := #[.func (.func (rdF x220)) #[] cp229, .func (.func (syF x220)) #[] cp229]) (by kernel_rfl) (fun _ => trivial) ?_
      intro h235 s236
      refine Op.gt 10 ?_
      refine At.draw (by kernel_rfl) (fun _ => False) [(0, true), (2, true), (3, true), (4, true), (1, true), (5, false), (1006, false), (6, false), (7, true)] (by kernel_rfl) ?_
      refine Op.px 3 [(47, .pointer (some ⟨b232, 0, none⟩)), (49, .slice a_list list.length n_list), (50, .int .i64 i)] ?_
      obtain ⟨x237, hx238⟩ := getAt (l := list) (i := i) (by omega)
      obtain ⟨b239, o240, cu241, fz242, ha243, hb244, hk245⟩ := SlR.at_ h_list _ hx238
      cases ha243
      refine Op.ix 54 9 1 16 list.length n_list (.tmp 49) (.tmp 50) 51 b239 o240 i (by omega) (by omega) ?_
      replace hk245 : cut _ _ _ = [.string (mkS x237)] := hk245
      refine Op.loadF (T := 151) (x := (.tmp 47)) (o := 0) (d := 48) (n := 1) (v := .func (.func (rdF x220)) #[] cp229) (by kernel_rfl) (by kernel_rfl) (by kernel_rfl) (fun h => h) (s236.chunk 0 rfl) (by kernel_rfl) ?_
      refine Op.ld (n := 1) 9 (.tmp 51) 52 (o240 + (i : Int).toNat * 1) (.string (mkS x237)) (s236.sub _ _ hb244) ?_ (hv := (cut_get hk245 0 rfl))
      refine Op.barrier (by kernel_rfl) ?_
      have s246 := (s236.front 0 rfl).front 1 rfl
      refine Op.callV (dst := some 53) (x := (.tmp 48)) (ops := #[(.tmp 6), (.tmp 52)]) (ts := #[155, 9]) (f := (rdF x220)) (first := #[]) (cap := cp229) (Lc := [c214]) (L := [[(b232, Obj.cells #[.func (.func (rdF x220)) #[] cp229, .func (.func (syF x220)) #[] cp229] 153 (0, 0))], [(b23, Obj.cells #[.int .i64 0, .int .i64 0, .int .i64 0, .int .i64 0, .int .i64 0, .int .i64 0, .slice none 0 0, .slice none 0 0] 94 (0, 0))], [(b20, Obj.cells #[.int .i64 f.kind, .int .i64 f.role, .slice (some ⟨b222, o223, none⟩) f.words.length n_f_2, .bool f.more] 104 (0, 0))]]) (args := ((#[.pointer (some ⟨b26, 0, none⟩), .string (mkS x237)] : Array Value) ++ cp229)) (by kernel_rfl) (by kernel_rfl) (rd_ent x220 hn231) (args2 (by kernel_rfl) (by kernel_rfl)) s246 (read_spec _ _ _ s246.sub hG x220 hn231 cp229 hw230 b26 st _ o215 x237 (by ((try dsimp only) <;> (exact hxl _ (List.mem_of_getElem? hx238)))) (St.part (Lc := [c214]) (L := [[(b232, Obj.cells #[.func (.func (rdF x220)) #[] cp229, .func (.func (syF x220)) #[] cp229] 153 (0, 0))], [(b23, Obj.cells #[.int .i64 0, .int .i64 0, .int .i64 0, .int .i64 0, .int .i64 0, .int .i64 0, .slice none 0 0, .slice none 0 0] 94 (0, 0))], [(b20, Obj.cells #[.int .i64 f.kind, .int .i64 f.role, .slice (some ⟨b222, o223, none⟩) f.words.length n_f_2, .bool f.more] 104 (0, 0))]]) s246)) (fun _ _ _ => trivial) ?_
      rintro _ g251 _ h247 hle252 s248 ⟨c249, rfl, o250, hgg, rfl⟩; subst g251; clear hle252
      refine Op.pg 11 [(54, .bool (!((setS x220.ch st x237).2)))] ?_
      refine At.if' (!((setS x220.ch st x237).2)) 54 12 14 (fun c253 => ?_) (fun c254 => ?_)
      ·replace c253 := (notT c253)
       refine At.rg 3 ?_
       obtain ⟨v255, c256, v257, c258, e259, R260, R261⟩ := o250
       obtain ⟨a262, n263, rfl⟩ := R260.form
       obtain ⟨a264, n265, rfl⟩ := R261.form
       have s266 : St h g (ids []) g [[(b26, Obj.cells #[.int .i64 (((setS x220.ch st x237).1).Kind), .int .i64 (((setS x220.ch st x237).1).Role), .int .i64 (((setS x220.ch st x237).1).K), .int .i64 (((setS x220.ch st x237).1).Power), .int .i64 (((setS x220.ch st x237).1).Node.Role), .int .i64 (((setS x220.ch st x237).1).Node.N), .slice a262 ((((setS x220.ch st x237).1).Data).length) n263, .slice a264 ((((setS x220.ch st x237).1).Keeps).length) n265] 94 (0, 0))], c256, c258, [(b232, Obj.cells #[.func (.func (rdF x220)) #[] cp229, .func (.func (syF x220)) #[] cp229] 153 (0, 0))], [(b23, Obj.cells #[.int .i64 0, .int .i64 0, .int .i64 0, .int .i64 0, .int .i64 0, .int .i64 0, .slice none 0 0, .slice none 0 0] 94 (0, 0))], [(b20, Obj.cells #[.int .i64 f.kind, .int .i64 f.role, .slice (some ⟨b222, o223, none⟩) f.words.length n_f_2, .bool f.more] 104 (0, 0))]] h247 := St.flat (L := [c249, [(b232, Obj.cells #[.func (.func (rdF x220)) #[] cp229, .func (.func (syF x220)) #[] cp229] 153 (0, 0))], [(b23, Obj.cells #[.int .i64 0, .int .i64 0, .int .i64 0, .int .i64 0, .int .i64 0, .int .i64 0, .slice none 0 0, .slice none 0 0] 94 (0, 0))], [(b20, Obj.cells #[.int .i64 f.kind, .int .i64 f.role, .slice (some ⟨b222, o223, none⟩) f.words.length n_f_2, .bool f.more] 104 (0, 0))]]) (by rw [e259]; simp only [List.flatten_cons, List.append_assoc, List.cons_append, List.nil_append, List.append_nil]) s248
       refine Op.la 94 (.tmp 6) 55 0 8 [.int .i64 (((setS x220.ch st x237).1).Kind), .int .i64 (((setS x220.ch st x237).1).Role), .int .i64 (((setS x220.ch st x237).1).K), .int .i64 (((setS x220.ch st x237).1).Power), .int .i64 (((setS x220.ch st x237).1).Node.Role), .int .i64 (((setS x220.ch st x237).1).Node.N), .slice a262 ((((setS x220.ch st x237).1).Data).length) n263, .slice a264 ((((setS x220.ch st x237).1).Keeps).length) n265] (s266.chunk 0 rfl) ?_
       refine Op.store (T := 94) (x := (.tmp 4)) (y := (.tmp 55)) (b := b23) (o := 0) (vs := [.int .i64 (((setS x220.ch st x237).1).Kind), .int .i64 (((setS x220.ch st x237).1).Role), .int .i64 (((setS x220.ch st x237).1).K), .int .i64 (((setS x220.ch st x237).1).Power), .int .i64 (((setS x220.ch st x237).1).Node.Role), .int .i64 (((setS x220.ch st x237).1).Node.N), .slice a262 ((((setS x220.ch st x237).1).Data).length) n263, .slice a264 ((((setS x220.ch st x237).1).Keeps).length) n265]) (a? := true) (n := 8) (by kernel_rfl) (by kernel_rfl) (by kernel_rfl) (by kernel_rfl) rfl (by simp [Value.oneCell']) s266 4 rfl (Nat.le_of_ble_eq_true (by kernel_rfl)) (cs := #[.int .i64 0, .int .i64 0, .int .i64 0, .int .i64 0, .int .i64 0, .int .i64 0, .slice none 0 0, .slice none 0 0]) (cs' := #[.int .i64 (((setS x220.ch st x237).1).Kind), .int .i64 (((setS x220.ch st x237).1).Role), .int .i64 (((setS x220.ch st x237).1).K), .int .i64 (((setS x220.ch st x237).1).Power), .int .i64 (((setS x220.ch st x237).1).Node.Role), .int .i64 (((setS x220.ch st x237).1).Node.N), .slice a262 ((((setS x220.ch st x237).1).Data).length) n263, .slice a264 ((((setS x220.ch st x237).1).Keeps).length) n265]) (by kernel_rfl) (fun _ => trivial) ?_
       intro h267 s268
       refine Op.pg 13 [(5, .bool false)] ?_
       refine At.retM (f := Tryz.f58) (vs := [.agg #[.int .i64 (((setS x220.ch st x237).1).Kind), .int .i64 (((setS x220.ch st x237).1).Role), .int .i64 (((setS x220.ch st x237).1).K), .int .i64 (((setS x220.ch st x237).1).Power), .int .i64 (((setS x220.ch st x237).1).Node.Role), .int .i64 (((setS x220.ch st x237).1).Node.N), .slice a262 ((((setS x220.ch st x237).1).Data).length) n263, .slice a264 ((((setS x220.ch st x237).1).Keeps).length) n265], .bool false]) (rl := [.cell 4 94, .tmp 5]) (v := .tuple #[.agg #[.int .i64 (((setS x220.ch st x237).1).Kind), .int .i64 (((setS x220.ch st x237).1).Role), .int .i64 (((setS x220.ch st x237).1).K), .int .i64 (((setS x220.ch st x237).1).Power), .int .i64 (((setS x220.ch st x237).1).Node.Role), .int .i64 (((setS x220.ch st x237).1).Node.N), .slice a262 ((((setS x220.ch st x237).1).Data).length) n263, .slice a264 ((((setS x220.ch st x237).1).Keeps).length) n265], .bool false]) (by kernel_rfl) (by kernel_rfl) ⟨⟨_, _, rfl, resAgg (n := 8) (by kernel_rfl) (s268.chunk 4 rfl) (by kernel_rfl) rfl⟩, rfl, trivial⟩ rfl ?_
       have s269 := (((((s268.front 2 rfl).front 2 rfl).front 5 rfl).front 5 rfl).front 5 rfl).front 5 rfl
       have s270 := s269.drop.drop.drop.drop
       refine hR _ _ _ _ s270 ⟨(.slice a262 ((((setS x220.ch st x237).1).Data).length) n263), c256, (.slice a264 ((((setS x220.ch st x237).1).Keeps).length) n265), c258, ?_, ?_, ?_, rfl, rfl⟩
       ·exact eqT2 (by (rw [← (read_yes (by assumption) (by first | exact (fun q => absurd q.1 (by assumption)) | exact (fun q => absurd (q.2.symm.trans (show f.more = true by assumption)) (by decide))) (wrdI_bad hW h0 hx221 hx238 (by assumption))).1])) (eqB (by exact ((by assumption : (setS x220.ch st x237).2 = false)).symm.trans (read_yes (by assumption) (by first | exact (fun q => absurd q.1 (by assumption)) | exact (fun q => absurd (q.2.symm.trans (show f.more = true by assumption)) (by decide))) (wrdI_bad hW h0 hx221 hx238 (by assumption))).2))
       ·exact rowEq R260 (by (rw [← (read_yes (by assumption) (by first | exact (fun q => absurd q.1 (by assumption)) | exact (fun q => absurd (q.2.symm.trans (show f.more = true by assumption)) (by decide))) (wrdI_bad hW h0 hx221 hx238 (by assumption))).1]))
       ·exact rowEq R261 (by (rw [← (read_yes (by assumption) (by first | exact (fun q => absurd q.1 (by assumption)) | exact (fun q => absurd (q.2.symm.trans (show f.more = true by assumption)) (by decide))) (wrdI_bad hW h0 hx221 hx238 (by assumption))).1]))
      ·replace c254 := (notF c254)
       refine At.rg 2 ?_
       refine Op.v64 56 (i + 1) (by omega) (by omega) ?_
       refine Op.pg 7 [(42, .int .i64 (i + 1))] ?_
       refine At.kp [(1, .slice (some ⟨b239, o240, none⟩) list.length n_list), (2, .pointer (some ⟨b20, 0, none⟩)), (4, .pointer (some ⟨b23, 0, none⟩)), (6, .pointer (some ⟨b26, 0, none⟩)), (40, .slice (some ⟨b222, o223, none⟩) f.words.length n_f_2), (41, .int .i64 (f.words.length : Int)), (42, .int .i64 (i + 1))] ?_
       have s271 := (s248.front 0 rfl).front 1 rfl
       have s272 := s271.drop
       exact ih7  ((setS x220.ch st x237).1) (i + 1) _ _ (by omega) (by omega) (by omega) (by omega) (by (rw [setS_keeps]; exact hK)) (by exact wrdI_step hW h0 hx221 hx238 (by assumption)) o250 s272
     ·replace c219 := of_decide_eq_false c219
      refine At.rp 7 2 [(57, .slice a_list list.length n_list), (58, .pointer (some ⟨b20, 2, none⟩))] ?_
      refine Op.ld (n := 1) 102 (.tmp 58) 59 2 (.slice a_f_2 f.words.length n_f_2) (s216.chunk 2 rfl) ?_
      refine Op.px 1 [(60, .int .i64 (f.words.length : Int))] ?_
      refine Op.slLoD (T := 54) (E := 9) (by_ := 16) (x := (.tmp 57)) (ao := a_list) (n := list.length) (c := n_list) (dst := 61) (d := kStr) (lo := (.tmp 60)) (k := .i64) (m := (f.words.length : Int)) (by kernel_rfl) (by kernel_rfl) (by kernel_rfl) (by kernel_rfl) h_list (by omega) (by omega) ?_
      intro v273 hr274
      obtain ⟨a275, n276, rfl⟩ := hr274.form
      refine Op.pg 16 [(62, .int .i64 ((list.drop ((f.words.length : Int) : Int).toNat).length : Int)), (63, .int .i64 0)] ?_
      have loop16 : ∀ (m : Nat) (st2 : Step) (j : Int) (c277 : Chunk) (h280 : Heap) (hm : (list.drop (f.words.length : Int).toNat).length - j.toNat < m) (j0 : 0 ≤ j) (hj : j ≤ (list.drop (f.words.length : Int).toNat).length) (hkl : st2.Keeps.length ≤ j) (hS : kpsI f list st2 j)  (o278 : IsStep g b26 st2 c277)   (s279 : St h g (ids []) g [c277, [(b23, Obj.cells #[.int .i64 0, .int .i64 0, .int .i64 0, .int .i64 0, .int .i64 0, .int .i64 0, .slice none 0 0, .slice none 0 0] 94 (0, 0))], [(b20, Obj.cells #[.int .i64 f.kind, .int .i64 f.role, .slice a_f_2 f.words.length n_f_2, .bool f.more] 104 (0, 0))]] h280), At (fctx Tryz.prog B 58 Tryz.f58 R) [] 16 [(4, .pointer (some ⟨b23, 0, none⟩)), (6, .pointer (some ⟨b26, 0, none⟩)), (61, .slice a275 ((list.drop ((f.words.length : Int) : Int).toNat).length) n276), (62, .int .i64 ((list.drop ((f.words.length : Int) : Int).toNat).length : Int)), (63, .int .i64 j)] h280 := by
       intro m; induction m with
       | zero => intros; omega
       | succ m ih16 =>
        intro st2 j c277 h280 hm j0 hj hkl hS o278 s279
        refine At.go 17 1 [(64, .bool (decide (j < ((list.drop ((f.words.length : Int) : Int).toNat).length : Int))))] ?_
        refine At.if' (decide (j < ((list.drop ((f.words.length : Int) : Int).toNat).length : Int))) 64 18 26 (fun c281 => ?_) (fun c282 => ?_)
        ·replace c281 := of_decide_eq_true c281
         refine At.rg 3 ?_
         obtain ⟨x283, hx284⟩ := getAt (l := list.drop ((f.words.length : Int) : Int).toNat) (i := j) (by omega)
         obtain ⟨b285, o286, cu287, fz288, ha289, hb290, hk291⟩ := SlR.at_ hr274 _ hx284
         cases ha289
         refine Op.ix 54 9 1 16 ((list.drop ((f.words.length : Int) : Int).toNat).length) n276 (.tmp 61) (.tmp 63) 65 b285 o286 j (by omega) (by omega) ?_
         replace hk291 : cut _ _ _ = [.string (mkS x283)] := hk291
         refine Op.ld (n := 1) 9 (.tmp 65) 66 (o286 + (j : Int).toNat * 1) (.string (mkS x283)) (s279.sub _ _ hb290) ?_ (hv := (cut_get hk291 0 rfl))
         refine Op.pg 19 [(10, .string (mkS x283))] ?_
         refine At.rp 7 1 [(68, .string (mkS x283))] ?_
         refine Op.c1 69 (number _ _ _ s279.sub hG x283 (by ((try dsimp only) <;> ((have := hxl x283 (List.mem_of_mem_drop (List.mem_of_getElem? hx284)); omega)))) ) s279 ?_
         intro h292 s293
         refine Op.pg 20 [(11, .int .i64 ((numW x283).getD 0)), (12, .bool ((numW x283).isSome))] ?_
         refine At.go 21 2 [(73, .bool (!((numW x283).isSome)))] ?_
         refine At.if' (!((numW x283).isSome)) 73 22 24 (fun c296 => ?_) (fun c297 => ?_)
         ·replace c296 := (notT c296)
          refine At.rg 3 ?_
          obtain ⟨v298, c299, v300, c301, e302, R303, R304⟩ := o278
          obtain ⟨a305, n306, rfl⟩ := R303.form
          obtain ⟨a307, n308, rfl⟩ := R304.form
          have s309 : St h g (ids []) g [[(b26, Obj.cells #[.int .i64 st2.Kind, .int .i64 st2.Role, .int .i64 st2.K, .int .i64 st2.Power, .int .i64 st2.Node.Role, .int .i64 st2.Node.N, .slice a305 st2.Data.length n306, .slice a307 st2.Keeps.length n308] 94 (0, 0))], c299, c301, [(b23, Obj.cells #[.int .i64 0, .int .i64 0, .int .i64 0, .int .i64 0, .int .i64 0, .int .i64 0, .slice none 0 0, .slice none 0 0] 94 (0, 0))], [(b20, Obj.cells #[.int .i64 f.kind, .int .i64 f.role, .slice a_f_2 f.words.length n_f_2, .bool f.more] 104 (0, 0))]] h292 := St.flat (L := [c277, [(b23, Obj.cells #[.int .i64 0, .int .i64 0, .int .i64 0, .int .i64 0, .int .i64 0, .int .i64 0, .slice none 0 0, .slice none 0 0] 94 (0, 0))], [(b20, Obj.cells #[.int .i64 f.kind, .int .i64 f.role, .slice a_f_2 f.words.length n_f_2, .bool f.more] 104 (0, 0))]]) (by rw [e302]; simp only [List.flatten_cons, List.append_assoc, List.cons_append, List.nil_append, List.append_nil]) s293
          refine Op.la 94 (.tmp 6) 74 0 8 [.int .i64 st2.Kind, .int .i64 st2.Role, .int .i64 st2.K, .int .i64 st2.Power, .int .i64 st2.Node.Role, .int .i64 st2.Node.N, .slice a305 st2.Data.length n306, .slice a307 st2.Keeps.length n308] (s309.chunk 0 rfl) ?_
          refine Op.store (T := 94) (x := (.tmp 4)) (y := (.tmp 74)) (b := b23) (o := 0) (vs := [.int .i64 st2.Kind, .int .i64 st2.Role, .int .i64 st2.K, .int .i64 st2.Power, .int .i64 st2.Node.Role, .int .i64 st2.Node.N, .slice a305 st2.Data.length n306, .slice a307 st2.Keeps.length n308]) (a? := true) (n := 8) (by kernel_rfl) (by kernel_rfl) (by kernel_rfl) (by kernel_rfl) rfl (by simp [Value.oneCell']) s309 3 rfl (Nat.le_of_ble_eq_true (by kernel_rfl)) (cs := #[.int .i64 0, .int .i64 0, .int .i64 0, .int .i64 0, .int .i64 0, .int .i64 0, .slice none 0 0, .slice none 0 0]) (cs' := #[.int .i64 st2.Kind, .int .i64 st2.Role, .int .i64 st2.K, .int .i64 st2.Power, .int .i64 st2.Node.Role, .int .i64 st2.Node.N, .slice a305 st2.Data.length n306, .slice a307 st2.Keeps.length n308]) (by kernel_rfl) (fun _ => trivial) ?_
          intro h310 s311
          refine Op.pg 23 [(5, .bool false)] ?_
          refine At.retM (f := Tryz.f58) (vs := [.agg #[.int .i64 st2.Kind, .int .i64 st2.Role, .int .i64 st2.K, .int .i64 st2.Power, .int .i64 st2.Node.Role, .int .i64 st2.Node.N, .slice a305 st2.Data.length n306, .slice a307 st2.Keeps.length n308], .bool false]) (rl := [.cell 4 94, .tmp 5]) (v := .tuple #[.agg #[.int .i64 st2.Kind, .int .i64 st2.Role, .int .i64 st2.K, .int .i64 st2.Power, .int .i64 st2.Node.Role, .int .i64 st2.Node.N, .slice a305 st2.Data.length n306, .slice a307 st2.Keeps.length n308], .bool false]) (by kernel_rfl) (by kernel_rfl) ⟨⟨_, _, rfl, resAgg (n := 8) (by kernel_rfl) (s311.chunk 3 rfl) (by kernel_rfl) rfl⟩, rfl, trivial⟩ rfl ?_
          have s312 := ((((s311.front 2 rfl).front 2 rfl).front 4 rfl).front 4 rfl).front 4 rfl
          have s313 := s312.drop.drop.drop
          refine hR _ _ _ _ s313 ⟨(.slice a305 st2.Data.length n306), c299, (.slice a307 st2.Keeps.length n308), c301, ?_, ?_, ?_, rfl, rfl⟩
          ·exact eqT2 (by (rw [← (read_yes (by assumption) (by first | exact (fun q => absurd q.1 (by assumption)) | exact (fun q => absurd (q.2.symm.trans (show f.more = true by assumption)) (by decide))) (kpsI_bad hS j0 hx284 (by assumption))).1])) (eqB (by exact (read_yes (by assumption) (by first | exact (fun q => absurd q.1 (by assumption)) | exact (fun q => absurd (q.2.symm.trans (show f.more = true by assumption)) (by decide))) (kpsI_bad hS j0 hx284 (by assumption))).2))
          ·exact rowEq R303 (by (rw [← (read_yes (by assumption) (by first | exact (fun q => absurd q.1 (by assumption)) | exact (fun q => absurd (q.2.symm.trans (show f.more = true by assumption)) (by decide))) (kpsI_bad hS j0 hx284 (by assumption))).1]))
          ·exact rowEq R304 (by (rw [← (read_yes (by assumption) (by first | exact (fun q => absurd q.1 (by assumption)) | exact (fun q => absurd (q.2.symm.trans (show f.more = true by assumption)) (by decide))) (kpsI_bad hS j0 hx284 (by assumption))).1]))
         ·replace c297 := (notF c297)
          refine At.rp 7 1 [(75, .pointer (some ⟨b26, 7, none⟩))] ?_
          obtain ⟨v314, c315, v316, c317, e318, R319, R320⟩ := o278
          obtain ⟨a321, n322, rfl⟩ := R319.form
          obtain ⟨a323, n324, rfl⟩ := R320.form
          have s325 : St h g (ids []) g [[(b26, Obj.cells #[.int .i64 st2.Kind, .int .i64 st2.Role, .int .i64 st2.K, .int .i64 st2.Power, .int .i64 st2.Node.Role, .int .i64 st2.Node.N, .slice a321 st2.Data.length n322, .slice a323 st2.Keeps.length n324] 94 (0, 0))], c315, c317, [(b23, Obj.cells #[.int .i64 0, .int .i64 0, .int .i64 0, .int .i64 0, .int .i64 0, .int .i64 0, .slice none 0 0, .slice none 0 0] 94 (0, 0))], [(b20, Obj.cells #[.int .i64 f.kind, .int .i64 f.role, .slice a_f_2 f.words.length n_f_2, .bool f.more] 104 (0, 0))]] h292 := St.flat (L := [c277, [(b23, Obj.cells #[.int .i64 0, .int .i64 0, .int .i64 0, .int .i64 0, .int .i64 0, .int .i64 0, .slice none 0 0, .slice none 0 0] 94 (0, 0))], [(b20, Obj.cells #[.int .i64 f.kind, .int .i64 f.role, .slice a_f_2 f.words.length n_f_2, .bool f.more] 104 (0, 0))]]) (by rw [e318]; simp only [List.flatten_cons, List.append_assoc, List.cons_append, List.nil_append, List.append_nil]) s293
          refine Op.ld (n := 1) 44 (.tmp 75) 76 7 (.slice a323 st2.Keeps.length n324) (s325.chunk 0 rfl) ?_
          refine Op.px 1 [(77, .int .i64 ((numW x283).getD 0))] ?_
          refine Op.lit (T := 44) (len := 1) (parts := #[(0, (.tmp 77))]) (dst := 78) (E := 3) (ps := [(0, .int .i64 ((numW x283).getD 0))]) (cs := #[.int .i64 ((numW x283).getD 0)]) (by kernel_rfl) (by kernel_rfl) (by kernel_rfl) s325 ?_
          intro b326 h327 s328
          refine Op.append (x := (.tmp 76)) (y := (.tmp 78)) (t := 44) (t' := 44) (dst := 79) (E := 3) (by_ := 8) (d := (kInt .i64)) (by kernel_rfl) (by kernel_rfl) (by kernel_rfl) (by kernel_rfl) rfl R320 s328 3 rfl (Src.lit (m := 1) (sz := 1) (s328.chunk 0 rfl) (news := [.int .i64 ((numW x283).getD 0)]) rfl rfl (by simp [Value.oneCell']) _) (ys := [(numW x283).getD 0]) (⟨_, _, rfl, rfl, Reads.nil⟩) rfl (by (simp only [List.length_drop] at *; simp only [List.length_cons, List.length_nil]; omega)) (fun _ _ _ => trivial) ?_
          intro v329 ch330 h331 R332 s333 nn334
          obtain ⟨a335, n336, rfl⟩ := R332.form
          have s337 := (s333.front 0 rfl).drop
          refine Op.px 1 [(80, .pointer (some ⟨b26, 7, none⟩))] ?_
          refine Op.s1 44 (.tmp 80) (.tmp 79) 7 (.slice a335 ((st2.Keeps ++ ([(numW x283).getD 0])).length) n336) 0 #[.int .i64 st2.Kind, .int .i64 st2.Role, .int .i64 st2.K, .int .i64 st2.Power, .int .i64 st2.Node.Role, .int .i64 st2.Node.N, .slice a321 st2.Data.length n322, .slice a335 ((st2.Keeps ++ ([(numW x283).getD 0])).length) n336] s337 (fun _ => trivial) ?_
          intro h338 s339
          refine Op.gt 25 ?_
          refine At.rg 2 ?_
          refine Op.v64 81 (j + 1) (by omega) (by (simp only [List.length_drop] at *; omega)) ?_
          refine Op.pg 16 [(63, .int .i64 (j + 1))] ?_
          obtain ⟨c340, o341, s342⟩ := St.pack (Q := IsStep g b26 (⟨st2.Kind, st2.Role, st2.K, st2.Power, ⟨st2.Node.Role, st2.Node.N⟩, st2.Data, st2.Keeps ++ ([(numW x283).getD 0])⟩ : Step)) 3 s339 ⟨_, _, _, _, rfl, R319, R332⟩
          refine At.kp [(4, .pointer (some ⟨b23, 0, none⟩)), (6, .pointer (some ⟨b26, 0, none⟩)), (61, .slice (some ⟨b285, o286, none⟩) ((list.drop ((f.words.length : Int) : Int).toNat).length) n276), (62, .int .i64 ((list.drop ((f.words.length : Int) : Int).toNat).length : Int)), (63, .int .i64 (j + 1))] ?_
          exact ih16  (⟨st2.Kind, st2.Role, st2.K, st2.Power, ⟨st2.Node.Role, st2.Node.N⟩, st2.Data, st2.Keeps ++ ([(numW x283).getD 0])⟩ : Step) (j + 1) _ _ (by omega) (by omega) (by omega) (by (simp only [List.length_append, List.length_cons, List.length_nil]; omega)) (by exact kpsI_step hS j0 hx284 (by assumption)) o341 s342
        ·replace c282 := of_decide_eq_false c282
         refine At.rg 3 ?_
         obtain ⟨v343, c344, v345, c346, e347, R348, R349⟩ := o278
         obtain ⟨a350, n351, rfl⟩ := R348.form
         obtain ⟨a352, n353, rfl⟩ := R349.form
         have s354 : St h g (ids []) g [[(b26, Obj.cells #[.int .i64 st2.Kind, .int .i64 st2.Role, .int .i64 st2.K, .int .i64 st2.Power, .int .i64 st2.Node.Role, .int .i64 st2.Node.N, .slice a350 st2.Data.length n351, .slice a352 st2.Keeps.length n353] 94 (0, 0))], c344, c346, [(b23, Obj.cells #[.int .i64 0, .int .i64 0, .int .i64 0, .int .i64 0, .int .i64 0, .int .i64 0, .slice none 0 0, .slice none 0 0] 94 (0, 0))], [(b20, Obj.cells #[.int .i64 f.kind, .int .i64 f.role, .slice a_f_2 f.words.length n_f_2, .bool f.more] 104 (0, 0))]] h280 := St.flat (L := [c277, [(b23, Obj.cells #[.int .i64 0, .int .i64 0, .int .i64 0, .int .i64 0, .int .i64 0, .int .i64 0, .slice none 0 0, .slice none 0 0] 94 (0, 0))], [(b20, Obj.cells #[.int .i64 f.kind, .int .i64 f.role, .slice a_f_2 f.words.length n_f_2, .bool f.more] 104 (0, 0))]]) (by rw [e347]; simp only [List.flatten_cons, List.append_assoc, List.cons_append, List.nil_append, List.append_nil]) s279
         refine Op.la 94 (.tmp 6) 82 0 8 [.int .i64 st2.Kind, .int .i64 st2.Role, .int .i64 st2.K, .int .i64 st2.Power, .int .i64 st2.Node.Role, .int .i64 st2.Node.N, .slice a350 st2.Data.length n351, .slice a352 st2.Keeps.length n353] (s354.chunk 0 rfl) ?_
         refine Op.store (T := 94) (x := (.tmp 4)) (y := (.tmp 82)) (b := b23) (o := 0) (vs := [.int .i64 st2.Kind, .int .i64 st2.Role, .int .i64 st2.K, .int .i64 st2.Power, .int .i64 st2.Node.Role, .int .i64 st2.Node.N, .slice a350 st2.Data.length n351, .slice a352 st2.Keeps.length n353]) (a? := true) (n := 8) (by kernel_rfl) (by kernel_rfl) (by kernel_rfl) (by kernel_rfl) rfl (by simp [Value.oneCell']) s354 3 rfl (Nat.le_of_ble_eq_true (by kernel_rfl)) (cs := #[.int .i64 0, .int .i64 0, .int .i64 0, .int .i64 0, .int .i64 0, .int .i64 0, .slice none 0 0, .slice none 0 0]) (cs' := #[.int .i64 st2.Kind, .int .i64 st2.Role, .int .i64 st2.K, .int .i64 st2.Power, .int .i64 st2.Node.Role, .int .i64 st2.Node.N, .slice a350 st2.Data.length n351, .slice a352 st2.Keeps.length n353]) (by kernel_rfl) (fun _ => trivial) ?_
         intro h355 s356
         refine Op.pg 27 [(5, .bool true)] ?_
         refine At.retM (f := Tryz.f58) (vs := [.agg #[.int .i64 st2.Kind, .int .i64 st2.Role, .int .i64 st2.K, .int .i64 st2.Power, .int .i64 st2.Node.Role, .int .i64 st2.Node.N, .slice a350 st2.Data.length n351, .slice a352 st2.Keeps.length n353], .bool true]) (rl := [.cell 4 94, .tmp 5]) (v := .tuple #[.agg #[.int .i64 st2.Kind, .int .i64 st2.Role, .int .i64 st2.K, .int .i64 st2.Power, .int .i64 st2.Node.Role, .int .i64 st2.Node.N, .slice a350 st2.Data.length n351, .slice a352 st2.Keeps.length n353], .bool true]) (by kernel_rfl) (by kernel_rfl) ⟨⟨_, _, rfl, resAgg (n := 8) (by kernel_rfl) (s356.chunk 3 rfl) (by kernel_rfl) rfl⟩, rfl, trivial⟩ rfl ?_
         have s357 := ((((s356.front 2 rfl).front 2 rfl).front 4 rfl).front 4 rfl).front 4 rfl
         have s358 := s357.drop.drop.drop
         refine hR _ _ _ _ s358 ⟨(.slice a350 st2.Data.length n351), c344, (.slice a352 st2.Keeps.length n353), c346, ?_, ?_, ?_, rfl, rfl⟩
         ·exact eqT2 (by (rw [← (read_yes (by assumption) (by first | exact (fun q => absurd q.1 (by assumption)) | exact (fun q => absurd (q.2.symm.trans (show f.more = true by assumption)) (by decide))) (kpsI_end hS (by assumption))).1])) (eqB (by exact (read_yes (by assumption) (by first | exact (fun q => absurd q.1 (by assumption)) | exact (fun q => absurd (q.2.symm.trans (show f.more = true by assumption)) (by decide))) (kpsI_end hS (by assumption))).2))
         ·exact rowEq R348 (by (rw [← (read_yes (by assumption) (by first | exact (fun q => absurd q.1 (by assumption)) | exact (fun q => absurd (q.2.symm.trans (show f.more = true by assumption)) (by decide))) (kpsI_end hS (by assumption))).1]))
         ·exact rowEq R349 (by (rw [← (read_yes (by assumption) (by first | exact (fun q => absurd q.1 (by assumption)) | exact (fun q => absurd (q.2.symm.trans (show f.more = true by assumption)) (by decide))) (kpsI_end hS (by assumption))).1]))
      refine At.kp [(4, .pointer (some ⟨b23, 0, none⟩)), (6, .pointer (some ⟨b26, 0, none⟩)), (61, .slice a275 ((list.drop ((f.words.length : Int) : Int).toNat).length) n276), (62, .int .i64 ((list.drop ((f.words.length : Int) : Int).toNat).length : Int)), (63, .int .i64 0)] ?_
      exact loop16 _  st 0 _ _ (Nat.lt_succ_self _) (by omega) (by omega) (by (rw [hK]; exact Int.le_refl _)) (by exact kpsI_0 hW (by assumption) hi) o215 s216
   refine At.kp [(1, .slice a_list list.length n_list), (2, .pointer (some ⟨b20, 0, none⟩)), (4, .pointer (some ⟨b23, 0, none⟩)), (6, .pointer (some ⟨b26, 0, none⟩)), (40, .slice a_f_2 f.words.length n_f_2), (41, .int .i64 (f.words.length : Int)), (42, .int .i64 0)] ?_
   exact loop7 _  (⟨f.kind, 0, 0, 0, ⟨f.role, 0⟩, ([] : List UInt8), ([] : List Int)⟩ : Step) 0 _ _ (Nat.lt_succ_self _) (by omega) (by omega) (by omega) (by rfl) (by exact wrdI_0 f list) o212 s213
end Go.Proofs.YtmjebehhpojihaaGreatDoor.Sw
namespace Go.Proofs.YtmjebehhpojihaaGreatDoor.Sw
set_option linter.unusedVariables false
set_option linter.unusedSimpArgs false
set_option linter.deprecated false
open Go
def SeqOwn {α : Type} (P : Program) (g : GH) (f : FuncId) (b : Nat) (o : Obj) (en : GH → α → Array Value → Prop) (ord : List α → Prop) : Prop :=
  ∀ (B : World) (h : Heap) (g' : GH) (l : Nat) (I : List α → GH → Chunk → Prop) (go : List α → Bool) (c : Chunk), gle g g' → Sub g' h → Glob g' → Yld P B l en ord go I g' → go [] = true → I [] g' c → St h g' (ids [c, [(b, o)]]) g' [c, [(b, o)]] h →
    Spec P B f (#[.func (.yield l) #[] #[]] ++ #[.pointer (some ⟨b, 0, none⟩)]) h g' [c, [(b, o)]] fun v g'' L' => ∃ full xs c' o', v = .tuple #[] ∧ ord full ∧ xs <+: full ∧ (go xs = true → xs = full) ∧ (∀ ys, ys <+: xs → ys ≠ xs → go ys = true) ∧ L' = [c', [(b, o')]] ∧ I xs g'' c'
theorem SeqOwn.mono {α : Type} {P : Program} {g g' : GH} {f : FuncId} {b : Nat} {o : Obj} {en : GH → α → Array Value → Prop} {ord : List α → Prop} (H : SeqOwn P g f b o en ord) (hg : gle g g') : SeqOwn P g' f b o en ord :=
  fun B h k l I go c hk => H B h k l I go c (gle.trans hg hk)
theorem idx10 : ∀ s : List UInt8, (10 ∉ s ∧ idxB s 10 = -1) ∨ ∃ a r, s = a ++ 10 :: r ∧ 10 ∉ a ∧ idxB s 10 = a.length
  | [] => .inl ⟨by simp, rfl⟩
  | b :: s => by
    by_cases hb : b = 10
    · subst hb
      exact .inr ⟨[], s, rfl, by simp, rfl⟩
    · have hb2 : (b == (10 : Int).toNat.toUInt8) = false := by simpa using hb
      rcases idx10 s with ⟨h1, h2⟩ | ⟨a, r, h1, h2, h3⟩
      · refine .inl ⟨by simp [h1, Ne.symm hb], ?_⟩
        unfold idxB at *
        rw [Lib.indexByte, hb2, h2]
        rfl
      · refine .inr ⟨b :: a, r, by rw [h1]; rfl, by simp [h2, Ne.symm hb], ?_⟩
        unfold idxB at *
        rw [Lib.indexByte, hb2, h3]
        have : ((a.length : Int) == -1) = false := by simp
        rw [this]
        simp
theorem idx10_b (s : List UInt8) : -1 ≤ idxB s 10 ∧ idxB s 10 < s.length := by
  rcases idx10 s with ⟨_, h⟩ | ⟨a, r, h1, _, h⟩
  · rw [h]; omega
  · rw [h, h1]; simp; omega
def linesF : Nat → List UInt8 → List (List UInt8)
  | 0, _ => []
  | n + 1, s => if s = [] then [] else if idxB s 10 < 0 then [s] else s.take (idxB s 10 + 1).toNat :: linesF n (s.drop (idxB s 10 + 1).toNat)
def linesN (s : List UInt8) : List (List UInt8) := linesF s.length s
theorem linesF_eq : ∀ (n m : Nat) (s : List UInt8), s.length ≤ n → s.length ≤ m → linesF n s = linesF m s
  | 0, m, s, h, _ => by
    obtain rfl : s = [] := List.eq_nil_of_length_eq_zero (by omega)
    cases m <;> rfl
  | n + 1, 0, s, _, h => by
    obtain rfl : s = [] := List.eq_nil_of_length_eq_zero (by omega)
    rfl
  | n + 1, m + 1, s, h1, h2 => by
    have := idx10_b s
    rw [linesF, linesF]
    split
    · rfl
    · rename_i hne
      have hl : 0 < s.length := List.length_pos_iff.2 hne
      split
      · rfl
      · rw [linesF_eq n m _ (by rw [List.length_drop]; omega) (by rw [List.length_drop]; omega)]
theorem linesN_nil : linesN [] = [] := rfl
theorem linesN_hit {s : List UInt8} (h : idxB s 10 ≥ 0) : linesN s = s.take (idxB s 10 + 1).toNat :: linesN (s.drop (idxB s 10 + 1).toNat) := by
  have hb := idx10_b s
  have hl : 0 < s.length := by omega
  have hne : ¬ s = [] := List.length_pos_iff.1 hl
  unfold linesN
  obtain ⟨n, hn⟩ : ∃ n, s.length = n + 1 := ⟨s.length - 1, by omega⟩
  rw [hn, linesF, if_neg hne, if_neg (by omega)]
  rw [linesF_eq n _ _ (by rw [List.length_drop]; omega) (Nat.le_refl _)]
theorem linesN_miss {s : List UInt8} (h : ¬ idxB s 10 ≥ 0) (hs : (s.length : Int) > 0) : linesN s = [s] := by
  have hne : ¬ s = [] := List.length_pos_iff.1 (by omega)
  unfold linesN
  obtain ⟨n, hn⟩ : ∃ n, s.length = n + 1 := ⟨s.length - 1, by omega⟩
  rw [hn, linesF, if_neg hne, if_pos (by omega)]
section
variable {s sv : List UInt8} {H : List (List UInt8)}
theorem ln_hit (hH : linesN s = H ++ linesN sv) (h : idxB sv 10 ≥ 0) : linesN s = (H ++ [sv.take (idxB sv 10 + 1).toNat]) ++ linesN (sv.drop (idxB sv 10 + 1).toNat) := by rw [hH, linesN_hit h]; simp
theorem ln_miss (hH : linesN s = H ++ linesN sv) (h : ¬ idxB sv 10 ≥ 0) (hs : (sv.length : Int) > 0) : linesN s = (H ++ [sv]) ++ linesN [] := by rw [hH, linesN_miss h hs, linesN_nil]; simp
theorem ln_end (hH : linesN s = H ++ linesN sv) (hs : ¬ (sv.length : Int) > 0) : H = linesN s := by
  have : sv = [] := List.eq_nil_of_length_eq_zero (by omega)
  subst this
  rw [hH, linesN_nil, List.append_nil]
theorem ln_pre1 (hH : linesN s = H ++ linesN sv) (h : idxB sv 10 ≥ 0) : H ++ [sv.take (idxB sv 10 + 1).toNat] <+: linesN s := by rw [ln_hit hH h]; exact List.prefix_append _ _
theorem ln_pre2 (hH : linesN s = H ++ linesN sv) (h : ¬ idxB sv 10 ≥ 0) (hs : (sv.length : Int) > 0) : H ++ [sv] <+: linesN s := by rw [ln_miss hH h hs]; exact List.prefix_append _ _
end
theorem lines_trim : ∀ (n : Nat) (s : List UInt8), s.length ≤ n → (linesN s).map (fun l => Lib.trimSuffix l [10]) = linesW s
  | 0, s, h => by
    obtain rfl : s = [] := List.eq_nil_of_length_eq_zero (by omega)
    rfl
  | n + 1, s, h => by
    by_cases hne : s = []
    · subst hne; rfl
    · have hl : 0 < s.length := List.length_pos_iff.2 hne
      rcases idx10 s with ⟨h1, h2⟩ | ⟨a, r, h1, h2, h3⟩
      · rw [linesN_miss (by omega) (by omega), linesW_miss s h1 hne, List.map_cons, List.map_nil, trimSuf2 s h1]
      · have e1 : (idxB s 10 + 1).toNat = a.length + 1 := by omega
        have e2 : s.take (a.length + 1) = a ++ [10] := by rw [h1, show a ++ 10 :: r = (a ++ [10]) ++ r by simp, List.take_left' (by simp)]
        have e3 : s.drop (a.length + 1) = r := by rw [h1, show a ++ 10 :: r = (a ++ [10]) ++ r by simp, List.drop_left' (by simp)]
        rw [linesN_hit (by omega), e1, e2, e3, List.map_cons, trimSuf1 a h2, lines_trim n r (by rw [h1] at h; simp at h; omega)]
        conv => rhs; rw [h1]
        rw [linesW_hit a r h2]
end Go.Proofs.YtmjebehhpojihaaGreatDoor.Sw
