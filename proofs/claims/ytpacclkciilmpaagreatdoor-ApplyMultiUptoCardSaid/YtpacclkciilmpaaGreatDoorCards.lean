/-
  DERIVED. GIVEN WITH THE SEED: THE CARDS: each row of YtpacclkciilmpaaGreatDoorRows.lean that lists a variable, with what it lists TIED to the program's text (the seventh form; the later family's looks); each row that meets fmt, with fmt's text TOLD by the authors' own Lean function (tested against real Go, not proved from fmt's source: count such statements apart). THE CARD IS WHAT COUNTS. Prove the row's statement (the work); the ties are given (YtpacclkciilmpaaGreatDoorTie.lean); close each card by the builder's one call (the guide's Derived/Test/ToyasCard.lean, 'card_holds'). Laid BY PROGRAM, IN A SANDBOX (cutbox-door.mjs). By AI agents, Wed Nov 11 2026. No macro, syntax, notation, axiom, sorry.
-/
import Derived.Test.YtpacclkciilmpaaGreatDoorRows
import GoSem.ClaimSeven
namespace Go.Proofs.YtpacclkciilmpaaGreatDoor
namespace Rows

/-- THE TIED CARD OF 'stanchionlaw13.ApplyGoesOn'. -/
def applyGoesOnCard : Claim7 := { stood := { row := applyGoesOnRow, standIns := [], harness := (true, "e9b26a513ec748bca8011507a77de69f040c68cadbd5c75f0c9abe7c7b7fec27"), looks := false }, kinds := [], alts := [], laidByText := true, laidKinds := [.data, .data, .data, .data, .pinned], laidTests := true, laidLooks := .later }
def ApplyGoesOnCardSaid : Prop := Claim7.holds Tryz.pinned (.plain (OpenSpec.ofChange applyGoesOnSpec)) applyGoesOnCard

/-- THE TIED CARD OF 'stanchionlaw13.ApplyMulti'. -/
def applyMultiCard : Claim7 := { stood := { row := applyMultiRow, standIns := [], harness := (true, "e9b26a513ec748bca8011507a77de69f040c68cadbd5c75f0c9abe7c7b7fec27"), looks := false }, kinds := [], alts := [], laidByText := true, laidKinds := [.data, .data, .data, .data, .pinned], laidTests := true, laidLooks := .later }
def ApplyMultiCardSaid : Prop := Claim7.holds Tryz.pinned (.plain (OpenSpec.ofChange applyMultiSpec)) applyMultiCard

/-- THE SECOND FORM's CARD OF 'stanchionlaw13.ApplyGoesOn'. -/
def applyGoesOnUptoCard : Claim7 := { stood := { row := applyGoesOnUptoRow, standIns := [], harness := (true, "e9b26a513ec748bca8011507a77de69f040c68cadbd5c75f0c9abe7c7b7fec27"), looks := false }, kinds := [], alts := [], laidByText := true, laidKinds := [.data, .data, .data, .data, .pinned], laidTests := true, laidLooks := .later }
def ApplyGoesOnUptoCardSaid : Prop := Claim7.holds Tryz.pinned (.plain (OpenSpec.upto applyGoesOnSpec)) applyGoesOnUptoCard

/-- THE SECOND FORM's CARD OF 'stanchionlaw13.ApplyMulti'. -/
def applyMultiUptoCard : Claim7 := { stood := { row := applyMultiUptoRow, standIns := [], harness := (true, "e9b26a513ec748bca8011507a77de69f040c68cadbd5c75f0c9abe7c7b7fec27"), looks := false }, kinds := [], alts := [], laidByText := true, laidKinds := [.data, .data, .data, .data, .pinned], laidTests := true, laidLooks := .later }
def ApplyMultiUptoCardSaid : Prop := Claim7.holds Tryz.pinned (.plain (OpenSpec.upto applyMultiSpec)) applyMultiUptoCard
end Rows
end Go.Proofs.YtpacclkciilmpaaGreatDoor
