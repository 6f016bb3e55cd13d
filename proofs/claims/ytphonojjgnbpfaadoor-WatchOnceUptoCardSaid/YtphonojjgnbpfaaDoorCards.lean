/-
  DERIVED. GIVEN WITH THE SEED: THE CARDS: each row of YtphonojjgnbpfaaDoorRows.lean that lists a variable, with what it lists TIED to the program's text (the seventh form; the later family's looks); each row that meets fmt, with fmt's text TOLD by the authors' own Lean function (tested against real Go, not proved from fmt's source: count such statements apart). THE CARD IS WHAT COUNTS. Prove the row's statement (the work); the ties are given (YtphonojjgnbpfaaDoorTie.lean); close each card by the builder's one call (the guide's Derived/Test/ToyasCard.lean, 'card_holds'). Laid BY PROGRAM, IN A SANDBOX (cutbox-door.mjs). By AI agents, Wed Nov 11 2026. No macro, syntax, notation, axiom, sorry.
-/
import Derived.Test.YtphonojjgnbpfaaDoorRows
import GoSem.ClaimSeven
namespace Go.Proofs.YtphonojjgnbpfaaDoor
namespace Rows

/-- THE TIED CARD OF 'stanchionlaw11.WatchOrder'. -/
def watchOrderCard : Claim7 := { stood := { row := watchOrderRow, standIns := [], harness := (true, "e02ab4c80646e58624f9d3cd100e27136eace84c6a94cbb22e6d1c4481551657"), looks := false }, kinds := [], alts := [], laidByText := true, laidKinds := [.data, .pinned], laidTests := true, laidLooks := .later }
def WatchOrderCardSaid : Prop := Claim7.holds Tryd.pinned (.plain (OpenSpec.ofChange watchOrderSpec)) watchOrderCard

/-- THE TIED CARD OF 'stanchionlaw11.WatchSteps'. -/
def watchStepsCard : Claim7 := { stood := { row := watchStepsRow, standIns := [], harness := (true, "e02ab4c80646e58624f9d3cd100e27136eace84c6a94cbb22e6d1c4481551657"), looks := false }, kinds := [], alts := [], laidByText := true, laidKinds := [.data, .pinned], laidTests := true, laidLooks := .later }
def WatchStepsCardSaid : Prop := Claim7.holds Tryd.pinned (.plain (OpenSpec.ofChange watchStepsSpec)) watchStepsCard

/-- THE TIED CARD OF 'stanchionlaw11.WatchRoom'. -/
def watchRoomCard : Claim7 := { stood := { row := watchRoomRow, standIns := [], harness := (true, "e02ab4c80646e58624f9d3cd100e27136eace84c6a94cbb22e6d1c4481551657"), looks := false }, kinds := [], alts := [], laidByText := true, laidKinds := [.data, .pinned], laidTests := true, laidLooks := .later }
def WatchRoomCardSaid : Prop := Claim7.holds Tryd.pinned (.plain (OpenSpec.ofChange watchRoomSpec)) watchRoomCard

/-- THE TIED CARD OF 'stanchionlaw11.WatchLoads'. -/
def watchLoadsCard : Claim7 := { stood := { row := watchLoadsRow, standIns := [], harness := (true, "e02ab4c80646e58624f9d3cd100e27136eace84c6a94cbb22e6d1c4481551657"), looks := false }, kinds := [], alts := [], laidByText := true, laidKinds := [.data, .pinned], laidTests := true, laidLooks := .later }
def WatchLoadsCardSaid : Prop := Claim7.holds Tryd.pinned (.plain (OpenSpec.ofChange watchLoadsSpec)) watchLoadsCard

/-- THE TIED CARD OF 'stanchionlaw11.WatchOnce'. -/
def watchOnceCard : Claim7 := { stood := { row := watchOnceRow, standIns := [], harness := (true, "e02ab4c80646e58624f9d3cd100e27136eace84c6a94cbb22e6d1c4481551657"), looks := false }, kinds := [], alts := [], laidByText := true, laidKinds := [.data, .pinned], laidTests := true, laidLooks := .later }
def WatchOnceCardSaid : Prop := Claim7.holds Tryd.pinned (.plain (OpenSpec.ofChange watchOnceSpec)) watchOnceCard

/-- THE TIED CARD OF 'stanchionlaw09.PathAnswers'. -/
def pathAnswersCard : Claim7 := { stood := { row := pathAnswersRow, standIns := [], harness := (true, "e02ab4c80646e58624f9d3cd100e27136eace84c6a94cbb22e6d1c4481551657"), looks := false }, kinds := [], alts := [], laidByText := true, laidKinds := [.data, .data, .data, .data, .pinned], laidTests := true, laidLooks := .later }
def PathAnswersCardSaid : Prop := Claim7.holds Tryd.pinned (.plain (OpenSpec.ofChange pathAnswersSpec)) pathAnswersCard

/-- THE TIED CARD OF 'stanchionlaw09.PathJoins'. -/
def pathJoinsCard : Claim7 := { stood := { row := pathJoinsRow, standIns := [], harness := (true, "e02ab4c80646e58624f9d3cd100e27136eace84c6a94cbb22e6d1c4481551657"), looks := false }, kinds := [], alts := [], laidByText := true, laidKinds := [.data, .data, .data, .data, .pinned], laidTests := true, laidLooks := .later }
def PathJoinsCardSaid : Prop := Claim7.holds Tryd.pinned (.plain (OpenSpec.ofChange pathJoinsSpec)) pathJoinsCard

/-- THE TIED CARD OF 'stanchionlaw09.PathRound'. -/
def pathRoundCard : Claim7 := { stood := { row := pathRoundRow, standIns := [], harness := (true, "e02ab4c80646e58624f9d3cd100e27136eace84c6a94cbb22e6d1c4481551657"), looks := false }, kinds := [], alts := [], laidByText := true, laidKinds := [.data, .data, .data, .data, .pinned], laidTests := true, laidLooks := .later }
def PathRoundCardSaid : Prop := Claim7.holds Tryd.pinned (.plain (OpenSpec.ofChange pathRoundSpec)) pathRoundCard

/-- THE TIED CARD OF 'stanchionlaw09.PathNumbers'. -/
def pathNumbersCard : Claim7 := { stood := { row := pathNumbersRow, standIns := [], harness := (true, "e02ab4c80646e58624f9d3cd100e27136eace84c6a94cbb22e6d1c4481551657"), looks := false }, kinds := [], alts := [], laidByText := true, laidKinds := [.data, .data, .data, .data, .pinned], laidTests := true, laidLooks := .later }
def PathNumbersCardSaid : Prop := Claim7.holds Tryd.pinned (.plain (OpenSpec.ofChange pathNumbersSpec)) pathNumbersCard

/-- THE TIED CARD OF 'stanchionlaw09.PathWithin'. -/
def pathWithinCard : Claim7 := { stood := { row := pathWithinRow, standIns := [], harness := (true, "e02ab4c80646e58624f9d3cd100e27136eace84c6a94cbb22e6d1c4481551657"), looks := false }, kinds := [], alts := [], laidByText := true, laidKinds := [.data, .data, .data, .data, .pinned], laidTests := true, laidLooks := .later }
def PathWithinCardSaid : Prop := Claim7.holds Tryd.pinned (.plain (OpenSpec.ofChange pathWithinSpec)) pathWithinCard

/-- THE TIED CARD OF 'stanchionlaw09.PathBounds'. -/
def pathBoundsCard : Claim7 := { stood := { row := pathBoundsRow, standIns := [], harness := (true, "e02ab4c80646e58624f9d3cd100e27136eace84c6a94cbb22e6d1c4481551657"), looks := false }, kinds := [], alts := [], laidByText := true, laidKinds := [.data, .data, .data, .data, .pinned], laidTests := true, laidLooks := .later }
def PathBoundsCardSaid : Prop := Claim7.holds Tryd.pinned (.plain (OpenSpec.ofChange pathBoundsSpec)) pathBoundsCard

/-- THE SECOND FORM's CARD OF 'stanchionlaw11.WatchOrder'. -/
def watchOrderUptoCard : Claim7 := { stood := { row := watchOrderUptoRow, standIns := [], harness := (true, "e02ab4c80646e58624f9d3cd100e27136eace84c6a94cbb22e6d1c4481551657"), looks := false }, kinds := [], alts := [], laidByText := true, laidKinds := [.data, .pinned], laidTests := true, laidLooks := .later }
def WatchOrderUptoCardSaid : Prop := Claim7.holds Tryd.pinned (.plain (OpenSpec.upto watchOrderSpec)) watchOrderUptoCard

/-- THE SECOND FORM's CARD OF 'stanchionlaw11.WatchSteps'. -/
def watchStepsUptoCard : Claim7 := { stood := { row := watchStepsUptoRow, standIns := [], harness := (true, "e02ab4c80646e58624f9d3cd100e27136eace84c6a94cbb22e6d1c4481551657"), looks := false }, kinds := [], alts := [], laidByText := true, laidKinds := [.data, .pinned], laidTests := true, laidLooks := .later }
def WatchStepsUptoCardSaid : Prop := Claim7.holds Tryd.pinned (.plain (OpenSpec.upto watchStepsSpec)) watchStepsUptoCard

/-- THE SECOND FORM's CARD OF 'stanchionlaw11.WatchRoom'. -/
def watchRoomUptoCard : Claim7 := { stood := { row := watchRoomUptoRow, standIns := [], harness := (true, "e02ab4c80646e58624f9d3cd100e27136eace84c6a94cbb22e6d1c4481551657"), looks := false }, kinds := [], alts := [], laidByText := true, laidKinds := [.data, .pinned], laidTests := true, laidLooks := .later }
def WatchRoomUptoCardSaid : Prop := Claim7.holds Tryd.pinned (.plain (OpenSpec.upto watchRoomSpec)) watchRoomUptoCard

/-- THE SECOND FORM's CARD OF 'stanchionlaw11.WatchLoads'. -/
def watchLoadsUptoCard : Claim7 := { stood := { row := watchLoadsUptoRow, standIns := [], harness := (true, "e02ab4c80646e58624f9d3cd100e27136eace84c6a94cbb22e6d1c4481551657"), looks := false }, kinds := [], alts := [], laidByText := true, laidKinds := [.data, .pinned], laidTests := true, laidLooks := .later }
def WatchLoadsUptoCardSaid : Prop := Claim7.holds Tryd.pinned (.plain (OpenSpec.upto watchLoadsSpec)) watchLoadsUptoCard

/-- THE SECOND FORM's CARD OF 'stanchionlaw11.WatchOnce'. -/
def watchOnceUptoCard : Claim7 := { stood := { row := watchOnceUptoRow, standIns := [], harness := (true, "e02ab4c80646e58624f9d3cd100e27136eace84c6a94cbb22e6d1c4481551657"), looks := false }, kinds := [], alts := [], laidByText := true, laidKinds := [.data, .pinned], laidTests := true, laidLooks := .later }
def WatchOnceUptoCardSaid : Prop := Claim7.holds Tryd.pinned (.plain (OpenSpec.upto watchOnceSpec)) watchOnceUptoCard

/-- THE SECOND FORM's CARD OF 'stanchionlaw09.PathAnswers'. -/
def pathAnswersUptoCard : Claim7 := { stood := { row := pathAnswersUptoRow, standIns := [], harness := (true, "e02ab4c80646e58624f9d3cd100e27136eace84c6a94cbb22e6d1c4481551657"), looks := false }, kinds := [], alts := [], laidByText := true, laidKinds := [.data, .data, .data, .data, .pinned], laidTests := true, laidLooks := .later }
def PathAnswersUptoCardSaid : Prop := Claim7.holds Tryd.pinned (.plain (OpenSpec.upto pathAnswersSpec)) pathAnswersUptoCard

/-- THE SECOND FORM's CARD OF 'stanchionlaw09.PathJoins'. -/
def pathJoinsUptoCard : Claim7 := { stood := { row := pathJoinsUptoRow, standIns := [], harness := (true, "e02ab4c80646e58624f9d3cd100e27136eace84c6a94cbb22e6d1c4481551657"), looks := false }, kinds := [], alts := [], laidByText := true, laidKinds := [.data, .data, .data, .data, .pinned], laidTests := true, laidLooks := .later }
def PathJoinsUptoCardSaid : Prop := Claim7.holds Tryd.pinned (.plain (OpenSpec.upto pathJoinsSpec)) pathJoinsUptoCard

/-- THE SECOND FORM's CARD OF 'stanchionlaw09.PathRound'. -/
def pathRoundUptoCard : Claim7 := { stood := { row := pathRoundUptoRow, standIns := [], harness := (true, "e02ab4c80646e58624f9d3cd100e27136eace84c6a94cbb22e6d1c4481551657"), looks := false }, kinds := [], alts := [], laidByText := true, laidKinds := [.data, .data, .data, .data, .pinned], laidTests := true, laidLooks := .later }
def PathRoundUptoCardSaid : Prop := Claim7.holds Tryd.pinned (.plain (OpenSpec.upto pathRoundSpec)) pathRoundUptoCard

/-- THE SECOND FORM's CARD OF 'stanchionlaw09.PathNumbers'. -/
def pathNumbersUptoCard : Claim7 := { stood := { row := pathNumbersUptoRow, standIns := [], harness := (true, "e02ab4c80646e58624f9d3cd100e27136eace84c6a94cbb22e6d1c4481551657"), looks := false }, kinds := [], alts := [], laidByText := true, laidKinds := [.data, .data, .data, .data, .pinned], laidTests := true, laidLooks := .later }
def PathNumbersUptoCardSaid : Prop := Claim7.holds Tryd.pinned (.plain (OpenSpec.upto pathNumbersSpec)) pathNumbersUptoCard

/-- THE SECOND FORM's CARD OF 'stanchionlaw09.PathWithin'. -/
def pathWithinUptoCard : Claim7 := { stood := { row := pathWithinUptoRow, standIns := [], harness := (true, "e02ab4c80646e58624f9d3cd100e27136eace84c6a94cbb22e6d1c4481551657"), looks := false }, kinds := [], alts := [], laidByText := true, laidKinds := [.data, .data, .data, .data, .pinned], laidTests := true, laidLooks := .later }
def PathWithinUptoCardSaid : Prop := Claim7.holds Tryd.pinned (.plain (OpenSpec.upto pathWithinSpec)) pathWithinUptoCard

/-- THE SECOND FORM's CARD OF 'stanchionlaw09.PathBounds'. -/
def pathBoundsUptoCard : Claim7 := { stood := { row := pathBoundsUptoRow, standIns := [], harness := (true, "e02ab4c80646e58624f9d3cd100e27136eace84c6a94cbb22e6d1c4481551657"), looks := false }, kinds := [], alts := [], laidByText := true, laidKinds := [.data, .data, .data, .data, .pinned], laidTests := true, laidLooks := .later }
def PathBoundsUptoCardSaid : Prop := Claim7.holds Tryd.pinned (.plain (OpenSpec.upto pathBoundsSpec)) pathBoundsUptoCard
end Rows
end Go.Proofs.YtphonojjgnbpfaaDoor
