/-
  DERIVED. GIVEN WITH THE SEED: THE CARDS: each row of YtmjebehhpojihaaGreatDoorRows.lean that lists a variable, with what it lists TIED to the program's text (the seventh form; the later family's looks); each row that meets fmt, with fmt's text TOLD by the authors' own Lean function (tested against real Go, not proved from fmt's source: count such statements apart). THE CARD IS WHAT COUNTS. Prove the row's statement (the work); the ties are given (YtmjebehhpojihaaGreatDoorTie.lean); close each card by the builder's one call (the guide's Derived/Test/ToyasCard.lean, 'card_holds'). Laid BY PROGRAM, IN A SANDBOX (cutbox-door.mjs). By AI agents, Wed Nov 11 2026. No macro, syntax, notation, axiom, sorry.
-/
import Derived.Test.YtmjebehhpojihaaGreatDoorRows
import GoSem.ClaimSeven
namespace Go.Proofs.YtmjebehhpojihaaGreatDoor
namespace Rows

/-- THE TIED CARD OF 'stanchionlaw24.ScriptParses'. -/
def scriptParsesCard : Claim7 := { stood := { row := scriptParsesRow, standIns := [], harness := (true, "6e15d4dc56769cad3e1036818b80e6cf21c779e2763447931e5af5140b6b6e6f"), looks := true }, kinds := [], alts := [], laidByText := true, laidKinds := [.data, .data, .data, .data, .sentinel, .sentinel, .pinned], laidTests := true, laidLooks := .later }
def ScriptParsesCardSaid : Prop := Claim7.holds Tryz.pinned (.plain (OpenSpec.ofChange scriptParsesSpec)) scriptParsesCard

/-- THE TIED CARD OF 'stanchionlaw24.ScriptShows'. -/
def scriptShowsCard : Claim7 := { stood := { row := scriptShowsRow, standIns := [], harness := (true, "6e15d4dc56769cad3e1036818b80e6cf21c779e2763447931e5af5140b6b6e6f"), looks := true }, kinds := [], alts := [], laidByText := true, laidKinds := [.data, .data, .data, .data, .sentinel, .sentinel, .pinned], laidTests := true, laidLooks := .later }
def ScriptShowsCardSaid : Prop := Claim7.holds Tryz.pinned (.plain (OpenSpec.ofChange scriptShowsSpec)) scriptShowsCard

/-- THE TIED CARD OF 'stanchionlaw24.ScriptRound'. -/
def scriptRoundCard : Claim7 := { stood := { row := scriptRoundRow, standIns := [], harness := (true, "6e15d4dc56769cad3e1036818b80e6cf21c779e2763447931e5af5140b6b6e6f"), looks := true }, kinds := [], alts := [], laidByText := true, laidKinds := [.data, .data, .data, .data, .sentinel, .sentinel, .pinned], laidTests := true, laidLooks := .later }
def ScriptRoundCardSaid : Prop := Claim7.holds Tryz.pinned (.plain (OpenSpec.ofChange scriptRoundSpec)) scriptRoundCard

/-- THE TIED CARD OF 'stanchionlaw24.ScriptBehind'. -/
def scriptBehindCard : Claim7 := { stood := { row := scriptBehindRow, standIns := [], harness := (true, "6e15d4dc56769cad3e1036818b80e6cf21c779e2763447931e5af5140b6b6e6f"), looks := true }, kinds := [], alts := [], laidByText := true, laidKinds := [.data, .data, .data, .data, .sentinel, .sentinel, .pinned], laidTests := true, laidLooks := .later }
def ScriptBehindCardSaid : Prop := Claim7.holds Tryz.pinned (.plain (OpenSpec.ofChange scriptBehindSpec)) scriptBehindCard

/-- THE TIED CARD OF 'stanchionlaw10.TreeOwned'. -/
def treeOwnedCard : Claim7 := { stood := { row := treeOwnedRow, standIns := [], harness := (true, "6e15d4dc56769cad3e1036818b80e6cf21c779e2763447931e5af5140b6b6e6f"), looks := true }, kinds := [], alts := [], laidByText := true, laidKinds := [.data, .data, .data, .data, .pinned], laidTests := true, laidLooks := .later }
def TreeOwnedCardSaid : Prop := Claim7.holds Tryz.pinned (.plain (OpenSpec.ofChange treeOwnedSpec)) treeOwnedCard

/-- THE TIED CARD OF 'stanchionlaw10.TreeRoom'. -/
def treeRoomCard : Claim7 := { stood := { row := treeRoomRow, standIns := [], harness := (true, "6e15d4dc56769cad3e1036818b80e6cf21c779e2763447931e5af5140b6b6e6f"), looks := true }, kinds := [], alts := [], laidByText := true, laidKinds := [.data, .data, .data, .data, .pinned], laidTests := true, laidLooks := .later }
def TreeRoomCardSaid : Prop := Claim7.holds Tryz.pinned (.plain (OpenSpec.ofChange treeRoomSpec)) treeRoomCard

/-- THE TIED CARD OF 'stanchionlaw10.TreeKids'. -/
def treeKidsCard : Claim7 := { stood := { row := treeKidsRow, standIns := [], harness := (true, "6e15d4dc56769cad3e1036818b80e6cf21c779e2763447931e5af5140b6b6e6f"), looks := true }, kinds := [], alts := [], laidByText := true, laidKinds := [.data, .data, .data, .data, .pinned], laidTests := true, laidLooks := .later }
def TreeKidsCardSaid : Prop := Claim7.holds Tryz.pinned (.plain (OpenSpec.ofChange treeKidsSpec)) treeKidsCard

/-- THE TIED CARD OF 'stanchionlaw10.TreeBack'. -/
def treeBackCard : Claim7 := { stood := { row := treeBackRow, standIns := [], harness := (true, "6e15d4dc56769cad3e1036818b80e6cf21c779e2763447931e5af5140b6b6e6f"), looks := true }, kinds := [], alts := [], laidByText := true, laidKinds := [.data, .data, .data, .data, .pinned], laidTests := true, laidLooks := .later }
def TreeBackCardSaid : Prop := Claim7.holds Tryz.pinned (.plain (OpenSpec.ofChange treeBackSpec)) treeBackCard

/-- THE TIED CARD OF 'stanchionlaw10.TreeSteps'. -/
def treeStepsCard : Claim7 := { stood := { row := treeStepsRow, standIns := [], harness := (true, "6e15d4dc56769cad3e1036818b80e6cf21c779e2763447931e5af5140b6b6e6f"), looks := true }, kinds := [], alts := [], laidByText := true, laidKinds := [.data, .data, .data, .data, .pinned], laidTests := true, laidLooks := .later }
def TreeStepsCardSaid : Prop := Claim7.holds Tryz.pinned (.plain (OpenSpec.ofChange treeStepsSpec)) treeStepsCard

/-- THE TIED CARD OF 'stanchionlaw10.TreeLoads'. -/
def treeLoadsCard : Claim7 := { stood := { row := treeLoadsRow, standIns := [], harness := (true, "6e15d4dc56769cad3e1036818b80e6cf21c779e2763447931e5af5140b6b6e6f"), looks := true }, kinds := [], alts := [], laidByText := true, laidKinds := [.data, .data, .data, .data, .pinned], laidTests := true, laidLooks := .later }
def TreeLoadsCardSaid : Prop := Claim7.holds Tryz.pinned (.plain (OpenSpec.ofChange treeLoadsSpec)) treeLoadsCard

/-- THE TIED CARD OF 'stanchionlaw10.TreeRight'. -/
def treeRightCard : Claim7 := { stood := { row := treeRightRow, standIns := [], harness := (true, "6e15d4dc56769cad3e1036818b80e6cf21c779e2763447931e5af5140b6b6e6f"), looks := true }, kinds := [], alts := [], laidByText := true, laidKinds := [.data, .data, .data, .data, .pinned], laidTests := true, laidLooks := .later }
def TreeRightCardSaid : Prop := Claim7.holds Tryz.pinned (.plain (OpenSpec.ofChange treeRightSpec)) treeRightCard

/-- THE SECOND FORM's CARD OF 'stanchionlaw24.ScriptParses'. -/
def scriptParsesUptoCard : Claim7 := { stood := { row := scriptParsesUptoRow, standIns := [], harness := (true, "6e15d4dc56769cad3e1036818b80e6cf21c779e2763447931e5af5140b6b6e6f"), looks := true }, kinds := [], alts := [], laidByText := true, laidKinds := [.data, .data, .data, .data, .sentinel, .sentinel, .pinned], laidTests := true, laidLooks := .later }
def ScriptParsesUptoCardSaid : Prop := Claim7.holds Tryz.pinned (.plain (OpenSpec.upto scriptParsesSpec)) scriptParsesUptoCard

/-- THE SECOND FORM's CARD OF 'stanchionlaw24.ScriptShows'. -/
def scriptShowsUptoCard : Claim7 := { stood := { row := scriptShowsUptoRow, standIns := [], harness := (true, "6e15d4dc56769cad3e1036818b80e6cf21c779e2763447931e5af5140b6b6e6f"), looks := true }, kinds := [], alts := [], laidByText := true, laidKinds := [.data, .data, .data, .data, .sentinel, .sentinel, .pinned], laidTests := true, laidLooks := .later }
def ScriptShowsUptoCardSaid : Prop := Claim7.holds Tryz.pinned (.plain (OpenSpec.upto scriptShowsSpec)) scriptShowsUptoCard

/-- THE SECOND FORM's CARD OF 'stanchionlaw24.ScriptRound'. -/
def scriptRoundUptoCard : Claim7 := { stood := { row := scriptRoundUptoRow, standIns := [], harness := (true, "6e15d4dc56769cad3e1036818b80e6cf21c779e2763447931e5af5140b6b6e6f"), looks := true }, kinds := [], alts := [], laidByText := true, laidKinds := [.data, .data, .data, .data, .sentinel, .sentinel, .pinned], laidTests := true, laidLooks := .later }
def ScriptRoundUptoCardSaid : Prop := Claim7.holds Tryz.pinned (.plain (OpenSpec.upto scriptRoundSpec)) scriptRoundUptoCard

/-- THE SECOND FORM's CARD OF 'stanchionlaw24.ScriptBehind'. -/
def scriptBehindUptoCard : Claim7 := { stood := { row := scriptBehindUptoRow, standIns := [], harness := (true, "6e15d4dc56769cad3e1036818b80e6cf21c779e2763447931e5af5140b6b6e6f"), looks := true }, kinds := [], alts := [], laidByText := true, laidKinds := [.data, .data, .data, .data, .sentinel, .sentinel, .pinned], laidTests := true, laidLooks := .later }
def ScriptBehindUptoCardSaid : Prop := Claim7.holds Tryz.pinned (.plain (OpenSpec.upto scriptBehindSpec)) scriptBehindUptoCard

/-- THE SECOND FORM's CARD OF 'stanchionlaw10.TreeOwned'. -/
def treeOwnedUptoCard : Claim7 := { stood := { row := treeOwnedUptoRow, standIns := [], harness := (true, "6e15d4dc56769cad3e1036818b80e6cf21c779e2763447931e5af5140b6b6e6f"), looks := true }, kinds := [], alts := [], laidByText := true, laidKinds := [.data, .data, .data, .data, .pinned], laidTests := true, laidLooks := .later }
def TreeOwnedUptoCardSaid : Prop := Claim7.holds Tryz.pinned (.plain (OpenSpec.upto treeOwnedSpec)) treeOwnedUptoCard

/-- THE SECOND FORM's CARD OF 'stanchionlaw10.TreeRoom'. -/
def treeRoomUptoCard : Claim7 := { stood := { row := treeRoomUptoRow, standIns := [], harness := (true, "6e15d4dc56769cad3e1036818b80e6cf21c779e2763447931e5af5140b6b6e6f"), looks := true }, kinds := [], alts := [], laidByText := true, laidKinds := [.data, .data, .data, .data, .pinned], laidTests := true, laidLooks := .later }
def TreeRoomUptoCardSaid : Prop := Claim7.holds Tryz.pinned (.plain (OpenSpec.upto treeRoomSpec)) treeRoomUptoCard

/-- THE SECOND FORM's CARD OF 'stanchionlaw10.TreeKids'. -/
def treeKidsUptoCard : Claim7 := { stood := { row := treeKidsUptoRow, standIns := [], harness := (true, "6e15d4dc56769cad3e1036818b80e6cf21c779e2763447931e5af5140b6b6e6f"), looks := true }, kinds := [], alts := [], laidByText := true, laidKinds := [.data, .data, .data, .data, .pinned], laidTests := true, laidLooks := .later }
def TreeKidsUptoCardSaid : Prop := Claim7.holds Tryz.pinned (.plain (OpenSpec.upto treeKidsSpec)) treeKidsUptoCard

/-- THE SECOND FORM's CARD OF 'stanchionlaw10.TreeBack'. -/
def treeBackUptoCard : Claim7 := { stood := { row := treeBackUptoRow, standIns := [], harness := (true, "6e15d4dc56769cad3e1036818b80e6cf21c779e2763447931e5af5140b6b6e6f"), looks := true }, kinds := [], alts := [], laidByText := true, laidKinds := [.data, .data, .data, .data, .pinned], laidTests := true, laidLooks := .later }
def TreeBackUptoCardSaid : Prop := Claim7.holds Tryz.pinned (.plain (OpenSpec.upto treeBackSpec)) treeBackUptoCard

/-- THE SECOND FORM's CARD OF 'stanchionlaw10.TreeSteps'. -/
def treeStepsUptoCard : Claim7 := { stood := { row := treeStepsUptoRow, standIns := [], harness := (true, "6e15d4dc56769cad3e1036818b80e6cf21c779e2763447931e5af5140b6b6e6f"), looks := true }, kinds := [], alts := [], laidByText := true, laidKinds := [.data, .data, .data, .data, .pinned], laidTests := true, laidLooks := .later }
def TreeStepsUptoCardSaid : Prop := Claim7.holds Tryz.pinned (.plain (OpenSpec.upto treeStepsSpec)) treeStepsUptoCard

/-- THE SECOND FORM's CARD OF 'stanchionlaw10.TreeLoads'. -/
def treeLoadsUptoCard : Claim7 := { stood := { row := treeLoadsUptoRow, standIns := [], harness := (true, "6e15d4dc56769cad3e1036818b80e6cf21c779e2763447931e5af5140b6b6e6f"), looks := true }, kinds := [], alts := [], laidByText := true, laidKinds := [.data, .data, .data, .data, .pinned], laidTests := true, laidLooks := .later }
def TreeLoadsUptoCardSaid : Prop := Claim7.holds Tryz.pinned (.plain (OpenSpec.upto treeLoadsSpec)) treeLoadsUptoCard

/-- THE SECOND FORM's CARD OF 'stanchionlaw10.TreeRight'. -/
def treeRightUptoCard : Claim7 := { stood := { row := treeRightUptoRow, standIns := [], harness := (true, "6e15d4dc56769cad3e1036818b80e6cf21c779e2763447931e5af5140b6b6e6f"), looks := true }, kinds := [], alts := [], laidByText := true, laidKinds := [.data, .data, .data, .data, .pinned], laidTests := true, laidLooks := .later }
def TreeRightUptoCardSaid : Prop := Claim7.holds Tryz.pinned (.plain (OpenSpec.upto treeRightSpec)) treeRightUptoCard
end Rows
end Go.Proofs.YtmjebehhpojihaaGreatDoor
