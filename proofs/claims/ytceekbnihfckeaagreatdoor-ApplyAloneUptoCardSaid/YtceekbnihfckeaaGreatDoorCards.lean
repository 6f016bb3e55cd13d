/-
  DERIVED. GIVEN WITH THE SEED: THE CARDS: each row of YtceekbnihfckeaaGreatDoorRows.lean that lists a variable, with what it lists TIED to the program's text (the seventh form; the later family's looks); each row that meets fmt, with fmt's text TOLD by the authors' own Lean function (tested against real Go, not proved from fmt's source: count such statements apart). THE CARD IS WHAT COUNTS. Prove the row's statement (the work); the ties are given (YtceekbnihfckeaaGreatDoorTie.lean); close each card by the builder's one call (the guide's Derived/Test/ToyasCard.lean, 'card_holds'). Laid BY PROGRAM, IN A SANDBOX (cutbox-door.mjs). By AI agents, Wed Nov 11 2026. No macro, syntax, notation, axiom, sorry.
-/
import Derived.Test.YtceekbnihfckeaaGreatDoorRows
import GoSem.ClaimSeven
namespace Go.Proofs.YtceekbnihfckeaaGreatDoor
namespace Rows

/-- THE TIED CARD OF 'stanchionlaw13.ApplyOps'. -/
def applyOpsCard : Claim7 := { stood := { row := applyOpsRow, standIns := [], harness := (true, "327ac6919600c5e564078f5e614d5a426b60460259c58ba534929734c22e0642"), looks := false }, kinds := [], alts := [], laidByText := true, laidKinds := [.data, .data, .data, .data, .pinned], laidTests := true, laidLooks := .later }
def ApplyOpsCardSaid : Prop := Claim7.holds Tryz.pinned (.plain (OpenSpec.ofChange applyOpsSpec)) applyOpsCard

/-- THE TIED CARD OF 'stanchionlaw13.ApplyResults'. -/
def applyResultsCard : Claim7 := { stood := { row := applyResultsRow, standIns := [], harness := (true, "327ac6919600c5e564078f5e614d5a426b60460259c58ba534929734c22e0642"), looks := false }, kinds := [], alts := [], laidByText := true, laidKinds := [.data, .data, .data, .data, .pinned], laidTests := true, laidLooks := .later }
def ApplyResultsCardSaid : Prop := Claim7.holds Tryz.pinned (.plain (OpenSpec.ofChange applyResultsSpec)) applyResultsCard

/-- THE TIED CARD OF 'stanchionlaw13.ApplySteps'. -/
def applyStepsCard : Claim7 := { stood := { row := applyStepsRow, standIns := [], harness := (true, "327ac6919600c5e564078f5e614d5a426b60460259c58ba534929734c22e0642"), looks := false }, kinds := [], alts := [], laidByText := true, laidKinds := [.data, .data, .data, .data, .pinned], laidTests := true, laidLooks := .later }
def ApplyStepsCardSaid : Prop := Claim7.holds Tryz.pinned (.plain (OpenSpec.ofChange applyStepsSpec)) applyStepsCard

/-- THE TIED CARD OF 'stanchionlaw13.ApplyOnce'. -/
def applyOnceCard : Claim7 := { stood := { row := applyOnceRow, standIns := [], harness := (true, "327ac6919600c5e564078f5e614d5a426b60460259c58ba534929734c22e0642"), looks := false }, kinds := [], alts := [], laidByText := true, laidKinds := [.data, .data, .data, .data, .pinned], laidTests := true, laidLooks := .later }
def ApplyOnceCardSaid : Prop := Claim7.holds Tryz.pinned (.plain (OpenSpec.ofChange applyOnceSpec)) applyOnceCard

/-- THE TIED CARD OF 'stanchionlaw13.ApplyBrief'. -/
def applyBriefCard : Claim7 := { stood := { row := applyBriefRow, standIns := [], harness := (true, "327ac6919600c5e564078f5e614d5a426b60460259c58ba534929734c22e0642"), looks := false }, kinds := [], alts := [], laidByText := true, laidKinds := [.data, .data, .data, .data, .pinned], laidTests := true, laidLooks := .later }
def ApplyBriefCardSaid : Prop := Claim7.holds Tryz.pinned (.plain (OpenSpec.ofChange applyBriefSpec)) applyBriefCard

/-- THE TIED CARD OF 'stanchionlaw13.ApplyWatch'. -/
def applyWatchCard : Claim7 := { stood := { row := applyWatchRow, standIns := [], harness := (true, "327ac6919600c5e564078f5e614d5a426b60460259c58ba534929734c22e0642"), looks := false }, kinds := [], alts := [], laidByText := true, laidKinds := [.data, .data, .data, .data, .pinned], laidTests := true, laidLooks := .later }
def ApplyWatchCardSaid : Prop := Claim7.holds Tryz.pinned (.plain (OpenSpec.ofChange applyWatchSpec)) applyWatchCard

/-- THE TIED CARD OF 'stanchionlaw13.ApplyReads'. -/
def applyReadsCard : Claim7 := { stood := { row := applyReadsRow, standIns := [], harness := (true, "327ac6919600c5e564078f5e614d5a426b60460259c58ba534929734c22e0642"), looks := false }, kinds := [], alts := [], laidByText := true, laidKinds := [.data, .data, .data, .data, .pinned], laidTests := true, laidLooks := .later }
def ApplyReadsCardSaid : Prop := Claim7.holds Tryz.pinned (.plain (OpenSpec.ofChange applyReadsSpec)) applyReadsCard

/-- THE TIED CARD OF 'stanchionlaw13.ApplyAlone'. -/
def applyAloneCard : Claim7 := { stood := { row := applyAloneRow, standIns := [], harness := (true, "327ac6919600c5e564078f5e614d5a426b60460259c58ba534929734c22e0642"), looks := false }, kinds := [], alts := [], laidByText := true, laidKinds := [.data, .data, .data, .data, .pinned], laidTests := true, laidLooks := .later }
def ApplyAloneCardSaid : Prop := Claim7.holds Tryz.pinned (.plain (OpenSpec.ofChange applyAloneSpec)) applyAloneCard

/-- THE TIED CARD OF 'stanchionlaw13.ApplyLoads'. -/
def applyLoadsCard : Claim7 := { stood := { row := applyLoadsRow, standIns := [], harness := (true, "327ac6919600c5e564078f5e614d5a426b60460259c58ba534929734c22e0642"), looks := false }, kinds := [], alts := [], laidByText := true, laidKinds := [.data, .data, .data, .data, .pinned], laidTests := true, laidLooks := .later }
def ApplyLoadsCardSaid : Prop := Claim7.holds Tryz.pinned (.plain (OpenSpec.ofChange applyLoadsSpec)) applyLoadsCard

/-- THE TIED CARD OF 'stanchionlaw13.ApplyGoesOn'. -/
def applyGoesOnCard : Claim7 := { stood := { row := applyGoesOnRow, standIns := [], harness := (true, "327ac6919600c5e564078f5e614d5a426b60460259c58ba534929734c22e0642"), looks := false }, kinds := [], alts := [], laidByText := true, laidKinds := [.data, .data, .data, .data, .pinned], laidTests := true, laidLooks := .later }
def ApplyGoesOnCardSaid : Prop := Claim7.holds Tryz.pinned (.plain (OpenSpec.ofChange applyGoesOnSpec)) applyGoesOnCard

/-- THE TIED CARD OF 'stanchionlaw13.ApplyMulti'. -/
def applyMultiCard : Claim7 := { stood := { row := applyMultiRow, standIns := [], harness := (true, "327ac6919600c5e564078f5e614d5a426b60460259c58ba534929734c22e0642"), looks := false }, kinds := [], alts := [], laidByText := true, laidKinds := [.data, .data, .data, .data, .pinned], laidTests := true, laidLooks := .later }
def ApplyMultiCardSaid : Prop := Claim7.holds Tryz.pinned (.plain (OpenSpec.ofChange applyMultiSpec)) applyMultiCard

/-- THE SECOND FORM's CARD OF 'stanchionlaw13.ApplyOps'. -/
def applyOpsUptoCard : Claim7 := { stood := { row := applyOpsUptoRow, standIns := [], harness := (true, "327ac6919600c5e564078f5e614d5a426b60460259c58ba534929734c22e0642"), looks := false }, kinds := [], alts := [], laidByText := true, laidKinds := [.data, .data, .data, .data, .pinned], laidTests := true, laidLooks := .later }
def ApplyOpsUptoCardSaid : Prop := Claim7.holds Tryz.pinned (.plain (OpenSpec.upto applyOpsSpec)) applyOpsUptoCard

/-- THE SECOND FORM's CARD OF 'stanchionlaw13.ApplyResults'. -/
def applyResultsUptoCard : Claim7 := { stood := { row := applyResultsUptoRow, standIns := [], harness := (true, "327ac6919600c5e564078f5e614d5a426b60460259c58ba534929734c22e0642"), looks := false }, kinds := [], alts := [], laidByText := true, laidKinds := [.data, .data, .data, .data, .pinned], laidTests := true, laidLooks := .later }
def ApplyResultsUptoCardSaid : Prop := Claim7.holds Tryz.pinned (.plain (OpenSpec.upto applyResultsSpec)) applyResultsUptoCard

/-- THE SECOND FORM's CARD OF 'stanchionlaw13.ApplySteps'. -/
def applyStepsUptoCard : Claim7 := { stood := { row := applyStepsUptoRow, standIns := [], harness := (true, "327ac6919600c5e564078f5e614d5a426b60460259c58ba534929734c22e0642"), looks := false }, kinds := [], alts := [], laidByText := true, laidKinds := [.data, .data, .data, .data, .pinned], laidTests := true, laidLooks := .later }
def ApplyStepsUptoCardSaid : Prop := Claim7.holds Tryz.pinned (.plain (OpenSpec.upto applyStepsSpec)) applyStepsUptoCard

/-- THE SECOND FORM's CARD OF 'stanchionlaw13.ApplyOnce'. -/
def applyOnceUptoCard : Claim7 := { stood := { row := applyOnceUptoRow, standIns := [], harness := (true, "327ac6919600c5e564078f5e614d5a426b60460259c58ba534929734c22e0642"), looks := false }, kinds := [], alts := [], laidByText := true, laidKinds := [.data, .data, .data, .data, .pinned], laidTests := true, laidLooks := .later }
def ApplyOnceUptoCardSaid : Prop := Claim7.holds Tryz.pinned (.plain (OpenSpec.upto applyOnceSpec)) applyOnceUptoCard

/-- THE SECOND FORM's CARD OF 'stanchionlaw13.ApplyBrief'. -/
def applyBriefUptoCard : Claim7 := { stood := { row := applyBriefUptoRow, standIns := [], harness := (true, "327ac6919600c5e564078f5e614d5a426b60460259c58ba534929734c22e0642"), looks := false }, kinds := [], alts := [], laidByText := true, laidKinds := [.data, .data, .data, .data, .pinned], laidTests := true, laidLooks := .later }
def ApplyBriefUptoCardSaid : Prop := Claim7.holds Tryz.pinned (.plain (OpenSpec.upto applyBriefSpec)) applyBriefUptoCard

/-- THE SECOND FORM's CARD OF 'stanchionlaw13.ApplyWatch'. -/
def applyWatchUptoCard : Claim7 := { stood := { row := applyWatchUptoRow, standIns := [], harness := (true, "327ac6919600c5e564078f5e614d5a426b60460259c58ba534929734c22e0642"), looks := false }, kinds := [], alts := [], laidByText := true, laidKinds := [.data, .data, .data, .data, .pinned], laidTests := true, laidLooks := .later }
def ApplyWatchUptoCardSaid : Prop := Claim7.holds Tryz.pinned (.plain (OpenSpec.upto applyWatchSpec)) applyWatchUptoCard

/-- THE SECOND FORM's CARD OF 'stanchionlaw13.ApplyReads'. -/
def applyReadsUptoCard : Claim7 := { stood := { row := applyReadsUptoRow, standIns := [], harness := (true, "327ac6919600c5e564078f5e614d5a426b60460259c58ba534929734c22e0642"), looks := false }, kinds := [], alts := [], laidByText := true, laidKinds := [.data, .data, .data, .data, .pinned], laidTests := true, laidLooks := .later }
def ApplyReadsUptoCardSaid : Prop := Claim7.holds Tryz.pinned (.plain (OpenSpec.upto applyReadsSpec)) applyReadsUptoCard

/-- THE SECOND FORM's CARD OF 'stanchionlaw13.ApplyAlone'. -/
def applyAloneUptoCard : Claim7 := { stood := { row := applyAloneUptoRow, standIns := [], harness := (true, "327ac6919600c5e564078f5e614d5a426b60460259c58ba534929734c22e0642"), looks := false }, kinds := [], alts := [], laidByText := true, laidKinds := [.data, .data, .data, .data, .pinned], laidTests := true, laidLooks := .later }
def ApplyAloneUptoCardSaid : Prop := Claim7.holds Tryz.pinned (.plain (OpenSpec.upto applyAloneSpec)) applyAloneUptoCard

/-- THE SECOND FORM's CARD OF 'stanchionlaw13.ApplyLoads'. -/
def applyLoadsUptoCard : Claim7 := { stood := { row := applyLoadsUptoRow, standIns := [], harness := (true, "327ac6919600c5e564078f5e614d5a426b60460259c58ba534929734c22e0642"), looks := false }, kinds := [], alts := [], laidByText := true, laidKinds := [.data, .data, .data, .data, .pinned], laidTests := true, laidLooks := .later }
def ApplyLoadsUptoCardSaid : Prop := Claim7.holds Tryz.pinned (.plain (OpenSpec.upto applyLoadsSpec)) applyLoadsUptoCard

/-- THE SECOND FORM's CARD OF 'stanchionlaw13.ApplyGoesOn'. -/
def applyGoesOnUptoCard : Claim7 := { stood := { row := applyGoesOnUptoRow, standIns := [], harness := (true, "327ac6919600c5e564078f5e614d5a426b60460259c58ba534929734c22e0642"), looks := false }, kinds := [], alts := [], laidByText := true, laidKinds := [.data, .data, .data, .data, .pinned], laidTests := true, laidLooks := .later }
def ApplyGoesOnUptoCardSaid : Prop := Claim7.holds Tryz.pinned (.plain (OpenSpec.upto applyGoesOnSpec)) applyGoesOnUptoCard

/-- THE SECOND FORM's CARD OF 'stanchionlaw13.ApplyMulti'. -/
def applyMultiUptoCard : Claim7 := { stood := { row := applyMultiUptoRow, standIns := [], harness := (true, "327ac6919600c5e564078f5e614d5a426b60460259c58ba534929734c22e0642"), looks := false }, kinds := [], alts := [], laidByText := true, laidKinds := [.data, .data, .data, .data, .pinned], laidTests := true, laidLooks := .later }
def ApplyMultiUptoCardSaid : Prop := Claim7.holds Tryz.pinned (.plain (OpenSpec.upto applyMultiSpec)) applyMultiUptoCard
end Rows
end Go.Proofs.YtceekbnihfckeaaGreatDoor
