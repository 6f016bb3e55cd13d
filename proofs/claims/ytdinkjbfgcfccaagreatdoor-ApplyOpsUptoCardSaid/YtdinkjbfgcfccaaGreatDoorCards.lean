/-
  DERIVED. GIVEN WITH THE SEED: THE CARDS: each row of YtdinkjbfgcfccaaGreatDoorRows.lean that lists a variable, with what it lists TIED to the program's text (the seventh form; the later family's looks); each row that meets fmt, with fmt's text TOLD by the authors' own Lean function (tested against real Go, not proved from fmt's source: count such statements apart). THE CARD IS WHAT COUNTS. Prove the row's statement (the work); the ties are given (YtdinkjbfgcfccaaGreatDoorTie.lean); close each card by the builder's one call (the guide's Derived/Test/ToyasCard.lean, 'card_holds'). Laid BY PROGRAM, IN A SANDBOX (cutbox-door.mjs). By AI agents, Wed Nov 11 2026. No macro, syntax, notation, axiom, sorry.
-/
import Derived.Test.YtdinkjbfgcfccaaGreatDoorRows
import GoSem.ClaimSeven
namespace Go.Proofs.YtdinkjbfgcfccaaGreatDoor
namespace Rows

/-- THE TIED CARD OF 'stanchionlaw13.ApplyOps'. -/
def applyOpsCard : Claim7 := { stood := { row := applyOpsRow, standIns := [], harness := (true, "5e49423215b1392a57eaf455bec3eebc3fd4362a30e431a36610d719540cefc0"), looks := false }, kinds := [], alts := [], laidByText := true, laidKinds := [.data, .data, .data, .data, .pinned], laidTests := true, laidLooks := .later }
def ApplyOpsCardSaid : Prop := Claim7.holds Tryz.pinned (.plain (OpenSpec.ofChange applyOpsSpec)) applyOpsCard

/-- THE TIED CARD OF 'stanchionlaw13.ApplyResults'. -/
def applyResultsCard : Claim7 := { stood := { row := applyResultsRow, standIns := [], harness := (true, "5e49423215b1392a57eaf455bec3eebc3fd4362a30e431a36610d719540cefc0"), looks := false }, kinds := [], alts := [], laidByText := true, laidKinds := [.data, .data, .data, .data, .pinned], laidTests := true, laidLooks := .later }
def ApplyResultsCardSaid : Prop := Claim7.holds Tryz.pinned (.plain (OpenSpec.ofChange applyResultsSpec)) applyResultsCard

/-- THE SECOND FORM's CARD OF 'stanchionlaw13.ApplyOps'. -/
def applyOpsUptoCard : Claim7 := { stood := { row := applyOpsUptoRow, standIns := [], harness := (true, "5e49423215b1392a57eaf455bec3eebc3fd4362a30e431a36610d719540cefc0"), looks := false }, kinds := [], alts := [], laidByText := true, laidKinds := [.data, .data, .data, .data, .pinned], laidTests := true, laidLooks := .later }
def ApplyOpsUptoCardSaid : Prop := Claim7.holds Tryz.pinned (.plain (OpenSpec.upto applyOpsSpec)) applyOpsUptoCard

/-- THE SECOND FORM's CARD OF 'stanchionlaw13.ApplyResults'. -/
def applyResultsUptoCard : Claim7 := { stood := { row := applyResultsUptoRow, standIns := [], harness := (true, "5e49423215b1392a57eaf455bec3eebc3fd4362a30e431a36610d719540cefc0"), looks := false }, kinds := [], alts := [], laidByText := true, laidKinds := [.data, .data, .data, .data, .pinned], laidTests := true, laidLooks := .later }
def ApplyResultsUptoCardSaid : Prop := Claim7.holds Tryz.pinned (.plain (OpenSpec.upto applyResultsSpec)) applyResultsUptoCard
end Rows
end Go.Proofs.YtdinkjbfgcfccaaGreatDoor
