/- Structs of the program as Lean structures, and how their cells read. Printed by a program of our own. -/
import Derived.Test.YtphonojjgnbpfaaDoorSwObj
namespace Go.Proofs.YtphonojjgnbpfaaDoor.Sw
open Go

structure Watch where
  Client : Int
  Kind : Int
  Path : List UInt8
  deriving DecidableEq

def kWatch : Kd Watch where
  sz := 3
  K _ x cs := cs = [.int .i64 x.Client, .int .i64 x.Kind, .string (mkS x.Path)]
  len h := by subst h; rfl
  one h := by subst h; simp [Value.oneCell']
  mono _ h := h
  zv := ⟨0, 0, []⟩
  zc := [.int .i64 0, .int .i64 0, .string (mkS [])]
  zK _ := rfl

structure R11Table where
  All : List Watch
  deriving DecidableEq

def kR11Table : Kd R11Table where
  sz := 1
  K g x cs := ∃ v0, SlR g 27 kWatch v0 x.All ∧ cs = [v0]
  len h := by obtain ⟨v0, h0, rfl⟩ := h; rfl
  one h := by
    obtain ⟨v0, h0, rfl⟩ := h
    obtain ⟨_, _, rfl⟩ := h0.form
    simp [Value.oneCell']
  mono hg h := by obtain ⟨v0, h0, rfl⟩ := h; exact ⟨v0, h0.mono hg, rfl⟩
  zv := ⟨[]⟩
  zc := [.slice none 0 0]
  zK _ := ⟨_, SlR.nil _ _ _, rfl⟩

structure L11Op where
  What : Int
  Watch : Watch
  Paths : List (List UInt8)
  Clients : List Int
  deriving DecidableEq

def kL11Op : Kd L11Op where
  sz := 6
  K g x cs := ∃ v0 v1, SlR g 9 kStr v0 x.Paths ∧ SlR g 3 (kInt .i64) v1 x.Clients ∧ cs = [.int .i64 x.What, .int .i64 x.Watch.Client, .int .i64 x.Watch.Kind, .string (mkS x.Watch.Path), v0, v1]
  len h := by obtain ⟨v0, v1, h0, h1, rfl⟩ := h; rfl
  one h := by
    obtain ⟨v0, v1, h0, h1, rfl⟩ := h
    obtain ⟨_, _, rfl⟩ := h0.form
    obtain ⟨_, _, rfl⟩ := h1.form
    simp [Value.oneCell']
  mono hg h := by obtain ⟨v0, v1, h0, h1, rfl⟩ := h; exact ⟨v0, v1, h0.mono hg, h1.mono hg, rfl⟩
  zv := ⟨0, ⟨0, 0, []⟩, [], []⟩
  zc := [.int .i64 0, .int .i64 0, .int .i64 0, .string (mkS []), .slice none 0 0, .slice none 0 0]
  zK _ := ⟨_, _, SlR.nil _ _ _, SlR.nil _ _ _, rfl⟩

theorem eqT_Watch (a b : Watch) : ((a.Client == b.Client) && ((a.Kind == b.Kind) && ((mkS a.Path == mkS b.Path) && true))) = decide (a = b) := by
  obtain ⟨a0, a1, a2⟩ := a; obtain ⟨b0, b1, b2⟩ := b
  rw [Bool.eq_iff_iff]; simp [mkS_beq, Bool.and_eq_true, Watch.mk.injEq]

end Go.Proofs.YtphonojjgnbpfaaDoor.Sw
