/- Structs of the program as Lean structures, and how their cells read. Printed by a program of our own. -/
import Derived.Test.YtphonojjgnbpfaaDoorSwRules
namespace Go.Proofs.YtphonojjgnbpfaaDoor.Sw
open Go

structure Watch where
  Client : Int
  Kind : Int
  Path : List UInt8

def kWatch : Kd Watch where
  sz := 3
  K _ x cs := cs = [.int .i64 x.Client, .int .i64 x.Kind, .string (mkS x.Path)]
  len h := by subst h; rfl
  one h := by subst h; simp [Value.oneCell']
  mono _ h := h

structure L11Op where
  What : Int
  Watch : Watch
  Paths : List (List UInt8)
  Clients : List Int

def kL11Op : Kd L11Op where
  sz := 6
  K g x cs := ∃ v0 v1, SlR g 9 kStr v0 x.Paths ∧ SlR g 3 (kInt .i64) v1 x.Clients ∧ cs = [.int .i64 x.What, .int .i64 x.Watch.Client, .int .i64 x.Watch.Kind, .string (mkS x.Watch.Path), v0, v1]
  len h := by obtain ⟨v0, v1, h0, h1, rfl⟩ := h; rfl
  one h := by
    obtain ⟨v0, v1, h0, h1, rfl⟩ := h
    obtain ⟨_, _, rfl⟩ := h0.form
    obtain ⟨_, _, rfl⟩ := h1.form
    simp [Value.oneCell']
  mono hg h := by obtain ⟨v0, v1, h0, h1, rfl⟩ := h; exact ⟨v0, v1, h0.mono hg, h1.mono hg, rfl⟩

end Go.Proofs.YtphonojjgnbpfaaDoor.Sw
