/-
  DERIVED. GIVEN WITH THE SEED: THE CARDS: each row of YtedekogkeamacaaGreatDoorRows.lean that lists a variable, with what it lists TIED to the program's text (the seventh form; the later family's looks); each row that meets fmt, with fmt's text TOLD by the authors' own Lean function (tested against real Go, not proved from fmt's source: count such statements apart). THE CARD IS WHAT COUNTS. Prove the row's statement (the work); the ties are given (YtedekogkeamacaaGreatDoorTie.lean); close each card by the builder's one call (the guide's Derived/Test/ToyasCard.lean, 'card_holds'). Laid BY PROGRAM, IN A SANDBOX (cutbox-door.mjs). By AI agents, Wed Nov 11 2026. No macro, syntax, notation, axiom, sorry.
-/
import Derived.Test.YtedekogkeamacaaGreatDoorRows
import GoSem.ClaimSeven
namespace Go.Proofs.YtedekogkeamacaaGreatDoor
namespace Rows

/-- THE TIED CARD OF 'patrollaw06.CustodyHolders'. -/
def custodyHoldersCard : Claim7 := { stood := { row := custodyHoldersRow, standIns := [], harness := (true, "148335100913c75db5f774f45d65280128c4de1966a22adff01c026a36e43601"), looks := true }, kinds := [], alts := [], laidByText := true, laidKinds := [.data, .data, .data], laidTests := true, laidLooks := .later }
def CustodyHoldersCardSaid : Prop := Claim7.holds Tryz.pinned (.plain (OpenSpec.ofChange custodyHoldersSpec)) custodyHoldersCard

/-- THE TIED CARD OF 'patrollaw06.CustodyEntries'. -/
def custodyEntriesCard : Claim7 := { stood := { row := custodyEntriesRow, standIns := [], harness := (true, "148335100913c75db5f774f45d65280128c4de1966a22adff01c026a36e43601"), looks := true }, kinds := [], alts := [], laidByText := true, laidKinds := [.data, .data, .data], laidTests := true, laidLooks := .later }
def CustodyEntriesCardSaid : Prop := Claim7.holds Tryz.pinned (.plain (OpenSpec.ofChange custodyEntriesSpec)) custodyEntriesCard

/-- THE TIED CARD OF 'patrollaw06.CustodyAttained'. -/
def custodyAttainedCard : Claim7 := { stood := { row := custodyAttainedRow, standIns := [], harness := (true, "148335100913c75db5f774f45d65280128c4de1966a22adff01c026a36e43601"), looks := true }, kinds := [], alts := [], laidByText := true, laidKinds := [.data, .data, .data], laidTests := true, laidLooks := .later }
def CustodyAttainedCardSaid : Prop := Claim7.holds Tryz.pinned (.plain (OpenSpec.ofChange custodyAttainedSpec)) custodyAttainedCard

/-- THE TIED CARD OF 'patrollaw06.CustodyMore'. -/
def custodyMoreCard : Claim7 := { stood := { row := custodyMoreRow, standIns := [], harness := (true, "148335100913c75db5f774f45d65280128c4de1966a22adff01c026a36e43601"), looks := true }, kinds := [], alts := [], laidByText := true, laidKinds := [.data, .data, .data], laidTests := true, laidLooks := .later }
def CustodyMoreCardSaid : Prop := Claim7.holds Tryz.pinned (.plain (OpenSpec.ofChange custodyMoreSpec)) custodyMoreCard

/-- THE TIED CARD OF 'patrollaw06.CustodyBooks'. -/
def custodyBooksCard : Claim7 := { stood := { row := custodyBooksRow, standIns := [], harness := (true, "148335100913c75db5f774f45d65280128c4de1966a22adff01c026a36e43601"), looks := true }, kinds := [], alts := [], laidByText := true, laidKinds := [.data, .data, .data], laidTests := true, laidLooks := .later }
def CustodyBooksCardSaid : Prop := Claim7.holds Tryz.pinned (.plain (OpenSpec.ofChange custodyBooksSpec)) custodyBooksCard

/-- THE TIED CARD OF 'patrollaw06.CustodyHistories'. -/
def custodyHistoriesCard : Claim7 := { stood := { row := custodyHistoriesRow, standIns := [], harness := (true, "148335100913c75db5f774f45d65280128c4de1966a22adff01c026a36e43601"), looks := true }, kinds := [], alts := [], laidByText := true, laidKinds := [.data, .data, .data], laidTests := true, laidLooks := .later }
def CustodyHistoriesCardSaid : Prop := Claim7.holds Tryz.pinned (.plain (OpenSpec.ofChange custodyHistoriesSpec)) custodyHistoriesCard

/-- THE TIED CARD OF 'patrollaw06.CustodyTold'. -/
def custodyToldCard : Claim7 := { stood := { row := custodyToldRow, standIns := [], harness := (true, "148335100913c75db5f774f45d65280128c4de1966a22adff01c026a36e43601"), looks := true }, kinds := [], alts := [], laidByText := true, laidKinds := [.data, .data, .data], laidTests := true, laidLooks := .later }
def CustodyToldCardSaid : Prop := Claim7.holds Tryz.pinned (.plain (OpenSpec.ofChange custodyToldSpec)) custodyToldCard

/-- THE TIED CARD OF 'patrollaw06.CustodyOrder'. -/
def custodyOrderCard : Claim7 := { stood := { row := custodyOrderRow, standIns := [], harness := (true, "148335100913c75db5f774f45d65280128c4de1966a22adff01c026a36e43601"), looks := true }, kinds := [], alts := [], laidByText := true, laidKinds := [.data, .data, .data], laidTests := true, laidLooks := .later }
def CustodyOrderCardSaid : Prop := Claim7.holds Tryz.pinned (.plain (OpenSpec.ofChange custodyOrderSpec)) custodyOrderCard

/-- THE TIED CARD OF 'patrollaw06.CustodyUses'. -/
def custodyUsesCard : Claim7 := { stood := { row := custodyUsesRow, standIns := [], harness := (true, "148335100913c75db5f774f45d65280128c4de1966a22adff01c026a36e43601"), looks := true }, kinds := [], alts := [], laidByText := true, laidKinds := [.data, .data, .data], laidTests := true, laidLooks := .later }
def CustodyUsesCardSaid : Prop := Claim7.holds Tryz.pinned (.plain (OpenSpec.ofChange custodyUsesSpec)) custodyUsesCard

/-- THE TIED CARD OF 'patrollaw06.CustodyParts'. -/
def custodyPartsCard : Claim7 := { stood := { row := custodyPartsRow, standIns := [], harness := (true, "148335100913c75db5f774f45d65280128c4de1966a22adff01c026a36e43601"), looks := true }, kinds := [], alts := [], laidByText := true, laidKinds := [.data, .data, .data], laidTests := true, laidLooks := .later }
def CustodyPartsCardSaid : Prop := Claim7.holds Tryz.pinned (.plain (OpenSpec.ofChange custodyPartsSpec)) custodyPartsCard

/-- THE TIED CARD OF 'patrollaw06.CustodyTexts'. -/
def custodyTextsCard : Claim7 := { stood := { row := custodyTextsRow, standIns := [], harness := (true, "148335100913c75db5f774f45d65280128c4de1966a22adff01c026a36e43601"), looks := true }, kinds := [], alts := [], laidByText := true, laidKinds := [.data, .data, .data, .data, .sentinel, .sentinel, .pinned], laidTests := true, laidLooks := .later }
def CustodyTextsCardSaid : Prop := Claim7.holds Tryz.pinned (.plain (OpenSpec.ofChange custodyTextsSpec)) custodyTextsCard

/-- THE TIED CARD OF 'patrollaw06.CustodyBack'. -/
def custodyBackCard : Claim7 := { stood := { row := custodyBackRow, standIns := [], harness := (true, "148335100913c75db5f774f45d65280128c4de1966a22adff01c026a36e43601"), looks := true }, kinds := [], alts := [], laidByText := true, laidKinds := [.data, .data, .data, .data, .sentinel, .sentinel, .pinned], laidTests := true, laidLooks := .later }
def CustodyBackCardSaid : Prop := Claim7.holds Tryz.pinned (.plain (OpenSpec.ofChange custodyBackSpec)) custodyBackCard

/-- THE SECOND FORM's CARD OF 'patrollaw06.CustodyHolders'. -/
def custodyHoldersUptoCard : Claim7 := { stood := { row := custodyHoldersUptoRow, standIns := [], harness := (true, "148335100913c75db5f774f45d65280128c4de1966a22adff01c026a36e43601"), looks := true }, kinds := [], alts := [], laidByText := true, laidKinds := [.data, .data, .data], laidTests := true, laidLooks := .later }
def CustodyHoldersUptoCardSaid : Prop := Claim7.holds Tryz.pinned (.plain (OpenSpec.upto custodyHoldersSpec)) custodyHoldersUptoCard

/-- THE SECOND FORM's CARD OF 'patrollaw06.CustodyEntries'. -/
def custodyEntriesUptoCard : Claim7 := { stood := { row := custodyEntriesUptoRow, standIns := [], harness := (true, "148335100913c75db5f774f45d65280128c4de1966a22adff01c026a36e43601"), looks := true }, kinds := [], alts := [], laidByText := true, laidKinds := [.data, .data, .data], laidTests := true, laidLooks := .later }
def CustodyEntriesUptoCardSaid : Prop := Claim7.holds Tryz.pinned (.plain (OpenSpec.upto custodyEntriesSpec)) custodyEntriesUptoCard

/-- THE SECOND FORM's CARD OF 'patrollaw06.CustodyAttained'. -/
def custodyAttainedUptoCard : Claim7 := { stood := { row := custodyAttainedUptoRow, standIns := [], harness := (true, "148335100913c75db5f774f45d65280128c4de1966a22adff01c026a36e43601"), looks := true }, kinds := [], alts := [], laidByText := true, laidKinds := [.data, .data, .data], laidTests := true, laidLooks := .later }
def CustodyAttainedUptoCardSaid : Prop := Claim7.holds Tryz.pinned (.plain (OpenSpec.upto custodyAttainedSpec)) custodyAttainedUptoCard

/-- THE SECOND FORM's CARD OF 'patrollaw06.CustodyMore'. -/
def custodyMoreUptoCard : Claim7 := { stood := { row := custodyMoreUptoRow, standIns := [], harness := (true, "148335100913c75db5f774f45d65280128c4de1966a22adff01c026a36e43601"), looks := true }, kinds := [], alts := [], laidByText := true, laidKinds := [.data, .data, .data], laidTests := true, laidLooks := .later }
def CustodyMoreUptoCardSaid : Prop := Claim7.holds Tryz.pinned (.plain (OpenSpec.upto custodyMoreSpec)) custodyMoreUptoCard

/-- THE SECOND FORM's CARD OF 'patrollaw06.CustodyBooks'. -/
def custodyBooksUptoCard : Claim7 := { stood := { row := custodyBooksUptoRow, standIns := [], harness := (true, "148335100913c75db5f774f45d65280128c4de1966a22adff01c026a36e43601"), looks := true }, kinds := [], alts := [], laidByText := true, laidKinds := [.data, .data, .data], laidTests := true, laidLooks := .later }
def CustodyBooksUptoCardSaid : Prop := Claim7.holds Tryz.pinned (.plain (OpenSpec.upto custodyBooksSpec)) custodyBooksUptoCard

/-- THE SECOND FORM's CARD OF 'patrollaw06.CustodyHistories'. -/
def custodyHistoriesUptoCard : Claim7 := { stood := { row := custodyHistoriesUptoRow, standIns := [], harness := (true, "148335100913c75db5f774f45d65280128c4de1966a22adff01c026a36e43601"), looks := true }, kinds := [], alts := [], laidByText := true, laidKinds := [.data, .data, .data], laidTests := true, laidLooks := .later }
def CustodyHistoriesUptoCardSaid : Prop := Claim7.holds Tryz.pinned (.plain (OpenSpec.upto custodyHistoriesSpec)) custodyHistoriesUptoCard

/-- THE SECOND FORM's CARD OF 'patrollaw06.CustodyTold'. -/
def custodyToldUptoCard : Claim7 := { stood := { row := custodyToldUptoRow, standIns := [], harness := (true, "148335100913c75db5f774f45d65280128c4de1966a22adff01c026a36e43601"), looks := true }, kinds := [], alts := [], laidByText := true, laidKinds := [.data, .data, .data], laidTests := true, laidLooks := .later }
def CustodyToldUptoCardSaid : Prop := Claim7.holds Tryz.pinned (.plain (OpenSpec.upto custodyToldSpec)) custodyToldUptoCard

/-- THE SECOND FORM's CARD OF 'patrollaw06.CustodyOrder'. -/
def custodyOrderUptoCard : Claim7 := { stood := { row := custodyOrderUptoRow, standIns := [], harness := (true, "148335100913c75db5f774f45d65280128c4de1966a22adff01c026a36e43601"), looks := true }, kinds := [], alts := [], laidByText := true, laidKinds := [.data, .data, .data], laidTests := true, laidLooks := .later }
def CustodyOrderUptoCardSaid : Prop := Claim7.holds Tryz.pinned (.plain (OpenSpec.upto custodyOrderSpec)) custodyOrderUptoCard

/-- THE SECOND FORM's CARD OF 'patrollaw06.CustodyUses'. -/
def custodyUsesUptoCard : Claim7 := { stood := { row := custodyUsesUptoRow, standIns := [], harness := (true, "148335100913c75db5f774f45d65280128c4de1966a22adff01c026a36e43601"), looks := true }, kinds := [], alts := [], laidByText := true, laidKinds := [.data, .data, .data], laidTests := true, laidLooks := .later }
def CustodyUsesUptoCardSaid : Prop := Claim7.holds Tryz.pinned (.plain (OpenSpec.upto custodyUsesSpec)) custodyUsesUptoCard

/-- THE SECOND FORM's CARD OF 'patrollaw06.CustodyParts'. -/
def custodyPartsUptoCard : Claim7 := { stood := { row := custodyPartsUptoRow, standIns := [], harness := (true, "148335100913c75db5f774f45d65280128c4de1966a22adff01c026a36e43601"), looks := true }, kinds := [], alts := [], laidByText := true, laidKinds := [.data, .data, .data], laidTests := true, laidLooks := .later }
def CustodyPartsUptoCardSaid : Prop := Claim7.holds Tryz.pinned (.plain (OpenSpec.upto custodyPartsSpec)) custodyPartsUptoCard

/-- THE SECOND FORM's CARD OF 'patrollaw06.CustodyTexts'. -/
def custodyTextsUptoCard : Claim7 := { stood := { row := custodyTextsUptoRow, standIns := [], harness := (true, "148335100913c75db5f774f45d65280128c4de1966a22adff01c026a36e43601"), looks := true }, kinds := [], alts := [], laidByText := true, laidKinds := [.data, .data, .data, .data, .sentinel, .sentinel, .pinned], laidTests := true, laidLooks := .later }
def CustodyTextsUptoCardSaid : Prop := Claim7.holds Tryz.pinned (.plain (OpenSpec.upto custodyTextsSpec)) custodyTextsUptoCard

/-- THE SECOND FORM's CARD OF 'patrollaw06.CustodyBack'. -/
def custodyBackUptoCard : Claim7 := { stood := { row := custodyBackUptoRow, standIns := [], harness := (true, "148335100913c75db5f774f45d65280128c4de1966a22adff01c026a36e43601"), looks := true }, kinds := [], alts := [], laidByText := true, laidKinds := [.data, .data, .data, .data, .sentinel, .sentinel, .pinned], laidTests := true, laidLooks := .later }
def CustodyBackUptoCardSaid : Prop := Claim7.holds Tryz.pinned (.plain (OpenSpec.upto custodyBackSpec)) custodyBackUptoCard
end Rows
end Go.Proofs.YtedekogkeamacaaGreatDoor
