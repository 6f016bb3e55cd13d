/- How structs that come in are read. Printed by a program of our own. -/
import Derived.Test.YtphonojjgnbpfaaDoorSwLaw
import Derived.Test.YtphonojjgnbpfaaDoorSwTypes
namespace Go.Proofs.YtphonojjgnbpfaaDoor.Sw
open Go Go.ChangeShapes Go.WideShapes Go.ChangeAt Go.RowKit Go.Deep Go.ChangeMaps
set_option maxRecDepth 100000
set_option linter.unusedVariables false
set_option linter.unusedSimpArgs false
set_option linter.deprecated false

def okWatch (x : Watch) : Prop := (IntKind.min .i64 ≤ x.Client ∧ x.Client ≤ IntKind.max .i64) ∧ (IntKind.min .i64 ≤ x.Kind ∧ x.Kind ≤ IntKind.max .i64) ∧ (x.Path.length ≤ 1048576)
theorem opnWatch : Opn Tryd.prog 27 kWatch okWatch := ⟨fun {H enc w fuel cs x} h hb => by
  obtain ⟨xs, n, _, rfl, hl, hlen, hf⟩ := DataW.trod_struct Tryd.underlying27 h
  have hl : cs.length = 3 := hl.trans (by kernel_rfl)
  have hlen : xs.length = 3 := hlen
  obtain ⟨a0, a1, a2, rfl⟩ : ∃ a0 a1 a2, cs = [a0, a1, a2] := by match cs, hl with | [a0, a1, a2], _ => exact ⟨a0, a1, a2, rfl⟩
  obtain ⟨z0, z1, z2, rfl⟩ : ∃ z0 z1 z2, xs = [z0, z1, z2] := by match xs, hlen with | [z0, z1, z2], _ => exact ⟨z0, z1, z2, rfl⟩
  have hb : Rows.uptoBulkAll [z0.1, z1.1, z2.1] ≤ 1048576 := by simp only [Rows.uptoBulk, List.map_cons, List.map_nil] at hb; omega
  have g0 := trod_field hf 0 3 0 1 (by kernel_rfl) (by kernel_rfl)
  replace g0 : DataW.trod enc Tryd.prog w 0 (fun _ => true) true n 3 [a0] = some z0 := g0
  obtain ⟨y0, k0, o0⟩ := (Opn.int Tryd.underlying3).out g0 (Nat.le_trans (bulk_mem (by simp)) hb)
  have k0 : [a0] = _ := k0; cases k0
  have g1 := trod_field hf 1 3 1 1 (by kernel_rfl) (by kernel_rfl)
  replace g1 : DataW.trod enc Tryd.prog w 0 (fun _ => true) true n 3 [a1] = some z1 := g1
  obtain ⟨y1, k1, o1⟩ := (Opn.int Tryd.underlying3).out g1 (Nat.le_trans (bulk_mem (by simp)) hb)
  have k1 : [a1] = _ := k1; cases k1
  have g2 := trod_field hf 2 9 2 1 (by kernel_rfl) (by kernel_rfl)
  replace g2 : DataW.trod enc Tryd.prog w 0 (fun _ => true) true n 9 [a2] = some z2 := g2
  obtain ⟨y2, k2, o2⟩ := (Opn.str Tryd.underlying9).out g2 (Nat.le_trans (bulk_mem (by simp)) hb)
  have k2 : [a2] = _ := k2; cases k2
  exact ⟨⟨y0, y1, y2⟩, rfl, ⟨o0, o1, o2⟩⟩⟩

def okL11Op (x : L11Op) : Prop := (IntKind.min .i64 ≤ x.What ∧ x.What ≤ IntKind.max .i64) ∧ (okWatch x.Watch) ∧ (x.Paths.length ≤ 1048576 ∧ ∀ y ∈ x.Paths, (y.length ≤ 1048576)) ∧ (x.Clients.length ≤ 1048576 ∧ ∀ y ∈ x.Clients, (IntKind.min .i64 ≤ y ∧ y ≤ IntKind.max .i64))
theorem opnL11Op : Opn Tryd.prog 40 kL11Op okL11Op := ⟨fun {H enc w fuel cs x} h hb => by
  obtain ⟨xs, n, _, rfl, hl, hlen, hf⟩ := DataW.trod_struct Tryd.underlying40 h
  have hl : cs.length = 6 := hl.trans (by kernel_rfl)
  have hlen : xs.length = 4 := hlen
  obtain ⟨a0, a1, a2, a3, a4, a5, rfl⟩ : ∃ a0 a1 a2 a3 a4 a5, cs = [a0, a1, a2, a3, a4, a5] := by match cs, hl with | [a0, a1, a2, a3, a4, a5], _ => exact ⟨a0, a1, a2, a3, a4, a5, rfl⟩
  obtain ⟨z0, z1, z2, z3, rfl⟩ : ∃ z0 z1 z2 z3, xs = [z0, z1, z2, z3] := by match xs, hlen with | [z0, z1, z2, z3], _ => exact ⟨z0, z1, z2, z3, rfl⟩
  have hb : Rows.uptoBulkAll [z0.1, z1.1, z2.1, z3.1] ≤ 1048576 := by simp only [Rows.uptoBulk, List.map_cons, List.map_nil] at hb; omega
  have g0 := trod_field hf 0 3 0 1 (by kernel_rfl) (by kernel_rfl)
  replace g0 : DataW.trod enc Tryd.prog w 0 (fun _ => true) true n 3 [a0] = some z0 := g0
  obtain ⟨y0, k0, o0⟩ := (Opn.int Tryd.underlying3).out g0 (Nat.le_trans (bulk_mem (by simp)) hb)
  have k0 : [a0] = _ := k0; cases k0
  have g1 := trod_field hf 1 27 1 3 (by kernel_rfl) (by kernel_rfl)
  replace g1 : DataW.trod enc Tryd.prog w 0 (fun _ => true) true n 27 [a1, a2, a3] = some z1 := g1
  obtain ⟨y1, k1, o1⟩ := opnWatch.out g1 (Nat.le_trans (bulk_mem (by simp)) hb)
  have k1 : [a1, a2, a3] = _ := k1; cases k1
  have g2 := trod_field hf 2 37 4 1 (by kernel_rfl) (by kernel_rfl)
  replace g2 : DataW.trod enc Tryd.prog w 0 (fun _ => true) true n 37 [a4] = some z2 := g2
  obtain ⟨y2, k2, o2⟩ := (Opn.sl (Opn.str Tryd.underlying9) Tryd.underlying37 (by kernel_rfl) (by decide)).out g2 (Nat.le_trans (bulk_mem (by simp)) hb)
  obtain ⟨v2, e2, s2⟩ := k2; cases e2
  have g3 := trod_field hf 3 38 5 1 (by kernel_rfl) (by kernel_rfl)
  replace g3 : DataW.trod enc Tryd.prog w 0 (fun _ => true) true n 38 [a5] = some z3 := g3
  obtain ⟨y3, k3, o3⟩ := (Opn.sl (Opn.int Tryd.underlying3) Tryd.underlying38 (by kernel_rfl) (by decide)).out g3 (Nat.le_trans (bulk_mem (by simp)) hb)
  obtain ⟨v3, e3, s3⟩ := k3; cases e3
  exact ⟨⟨y0, y1, y2, y3⟩, ⟨_, _, s2, s3, rfl⟩, ⟨o0, o1, o2, o3⟩⟩⟩

end Go.Proofs.YtphonojjgnbpfaaDoor.Sw
