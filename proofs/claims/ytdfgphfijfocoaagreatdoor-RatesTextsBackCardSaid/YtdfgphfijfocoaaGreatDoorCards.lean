/-
  DERIVED. GIVEN WITH THE SEED: THE CARDS: each row of YtdfgphfijfocoaaGreatDoorRows.lean that lists a variable, with what it lists TIED to the program's text (the seventh form; the later family's looks); each row that meets fmt, with fmt's text TOLD by the authors' own Lean function (tested against real Go, not proved from fmt's source: count such statements apart). THE CARD IS WHAT COUNTS. Prove the row's statement (the work); the ties are given (YtdfgphfijfocoaaGreatDoorTie.lean); close each card by the builder's one call (the guide's Derived/Test/ToyasCard.lean, 'card_holds'). Laid BY PROGRAM, IN A SANDBOX (cutbox-door.mjs). By AI agents, Wed Nov 11 2026. No macro, syntax, notation, axiom, sorry.
-/
import Derived.Test.YtdfgphfijfocoaaGreatDoorRows
import GoSem.ClaimSeven
namespace Go.Proofs.YtdfgphfijfocoaaGreatDoor
namespace Rows

/-- THE TIED CARD OF 'patrollaw07.RatesRests'. -/
def ratesRestsCard : Claim7 := { stood := { row := ratesRestsRow, standIns := [], harness := (true, "8d817be492e2669bc65ea87e0ef3aa0e08edfda61b6332d4af6137fc27967ca7"), looks := true }, kinds := [], alts := [], laidByText := true, laidKinds := [.data, .data, .data], laidTests := true, laidLooks := .later }
def RatesRestsCardSaid : Prop := Claim7.holds Tryz.pinned (.plain (OpenSpec.ofChange ratesRestsSpec)) ratesRestsCard

/-- THE TIED CARD OF 'patrollaw07.RatesOutlooks'. -/
def ratesOutlooksCard : Claim7 := { stood := { row := ratesOutlooksRow, standIns := [], harness := (true, "8d817be492e2669bc65ea87e0ef3aa0e08edfda61b6332d4af6137fc27967ca7"), looks := true }, kinds := [], alts := [], laidByText := true, laidKinds := [.data, .data, .data], laidTests := true, laidLooks := .later }
def RatesOutlooksCardSaid : Prop := Claim7.holds Tryz.pinned (.plain (OpenSpec.ofChange ratesOutlooksSpec)) ratesOutlooksCard

/-- THE TIED CARD OF 'patrollaw07.RatesPostings'. -/
def ratesPostingsCard : Claim7 := { stood := { row := ratesPostingsRow, standIns := [], harness := (true, "8d817be492e2669bc65ea87e0ef3aa0e08edfda61b6332d4af6137fc27967ca7"), looks := true }, kinds := [], alts := [], laidByText := true, laidKinds := [.data, .data, .data], laidTests := true, laidLooks := .later }
def RatesPostingsCardSaid : Prop := Claim7.holds Tryz.pinned (.plain (OpenSpec.ofChange ratesPostingsSpec)) ratesPostingsCard

/-- THE TIED CARD OF 'patrollaw07.RatesConserve'. -/
def ratesConserveCard : Claim7 := { stood := { row := ratesConserveRow, standIns := [], harness := (true, "8d817be492e2669bc65ea87e0ef3aa0e08edfda61b6332d4af6137fc27967ca7"), looks := true }, kinds := [], alts := [], laidByText := true, laidKinds := [.data, .data, .data], laidTests := true, laidLooks := .later }
def RatesConserveCardSaid : Prop := Claim7.holds Tryz.pinned (.plain (OpenSpec.ofChange ratesConserveSpec)) ratesConserveCard

/-- THE TIED CARD OF 'patrollaw07.RatesSettles'. -/
def ratesSettlesCard : Claim7 := { stood := { row := ratesSettlesRow, standIns := [], harness := (true, "8d817be492e2669bc65ea87e0ef3aa0e08edfda61b6332d4af6137fc27967ca7"), looks := true }, kinds := [], alts := [], laidByText := true, laidKinds := [.data, .data, .data], laidTests := true, laidLooks := .later }
def RatesSettlesCardSaid : Prop := Claim7.holds Tryz.pinned (.plain (OpenSpec.ofChange ratesSettlesSpec)) ratesSettlesCard

/-- THE TIED CARD OF 'patrollaw07.RatesSettled'. -/
def ratesSettledCard : Claim7 := { stood := { row := ratesSettledRow, standIns := [], harness := (true, "8d817be492e2669bc65ea87e0ef3aa0e08edfda61b6332d4af6137fc27967ca7"), looks := true }, kinds := [], alts := [], laidByText := true, laidKinds := [.data, .data, .data], laidTests := true, laidLooks := .later }
def RatesSettledCardSaid : Prop := Claim7.holds Tryz.pinned (.plain (OpenSpec.ofChange ratesSettledSpec)) ratesSettledCard

/-- THE TIED CARD OF 'patrollaw07.RatesCorrects'. -/
def ratesCorrectsCard : Claim7 := { stood := { row := ratesCorrectsRow, standIns := [], harness := (true, "8d817be492e2669bc65ea87e0ef3aa0e08edfda61b6332d4af6137fc27967ca7"), looks := true }, kinds := [], alts := [], laidByText := true, laidKinds := [.data, .data, .data], laidTests := true, laidLooks := .later }
def RatesCorrectsCardSaid : Prop := Claim7.holds Tryz.pinned (.plain (OpenSpec.ofChange ratesCorrectsSpec)) ratesCorrectsCard

/-- THE TIED CARD OF 'patrollaw07.RatesCorrected'. -/
def ratesCorrectedCard : Claim7 := { stood := { row := ratesCorrectedRow, standIns := [], harness := (true, "8d817be492e2669bc65ea87e0ef3aa0e08edfda61b6332d4af6137fc27967ca7"), looks := true }, kinds := [], alts := [], laidByText := true, laidKinds := [.data, .data, .data], laidTests := true, laidLooks := .later }
def RatesCorrectedCardSaid : Prop := Claim7.holds Tryz.pinned (.plain (OpenSpec.ofChange ratesCorrectedSpec)) ratesCorrectedCard

/-- THE TIED CARD OF 'patrollaw07.RatesTexts'. -/
def ratesTextsCard : Claim7 := { stood := { row := ratesTextsRow, standIns := [], harness := (true, "8d817be492e2669bc65ea87e0ef3aa0e08edfda61b6332d4af6137fc27967ca7"), looks := true }, kinds := [], alts := [], laidByText := true, laidKinds := [.data, .data, .data, .data, .sentinel, .sentinel, .pinned], laidTests := true, laidLooks := .later }
def RatesTextsCardSaid : Prop := Claim7.holds Tryz.pinned (.plain (OpenSpec.ofChange ratesTextsSpec)) ratesTextsCard

/-- THE TIED CARD OF 'patrollaw07.RatesTextsBack'. -/
def ratesTextsBackCard : Claim7 := { stood := { row := ratesTextsBackRow, standIns := [], harness := (true, "8d817be492e2669bc65ea87e0ef3aa0e08edfda61b6332d4af6137fc27967ca7"), looks := true }, kinds := [], alts := [], laidByText := true, laidKinds := [.data, .data, .data, .data, .sentinel, .sentinel, .pinned], laidTests := true, laidLooks := .later }
def RatesTextsBackCardSaid : Prop := Claim7.holds Tryz.pinned (.plain (OpenSpec.ofChange ratesTextsBackSpec)) ratesTextsBackCard

/-- THE SECOND FORM's CARD OF 'patrollaw07.RatesRests'. -/
def ratesRestsUptoCard : Claim7 := { stood := { row := ratesRestsUptoRow, standIns := [], harness := (true, "8d817be492e2669bc65ea87e0ef3aa0e08edfda61b6332d4af6137fc27967ca7"), looks := true }, kinds := [], alts := [], laidByText := true, laidKinds := [.data, .data, .data], laidTests := true, laidLooks := .later }
def RatesRestsUptoCardSaid : Prop := Claim7.holds Tryz.pinned (.plain (OpenSpec.upto ratesRestsSpec)) ratesRestsUptoCard

/-- THE SECOND FORM's CARD OF 'patrollaw07.RatesOutlooks'. -/
def ratesOutlooksUptoCard : Claim7 := { stood := { row := ratesOutlooksUptoRow, standIns := [], harness := (true, "8d817be492e2669bc65ea87e0ef3aa0e08edfda61b6332d4af6137fc27967ca7"), looks := true }, kinds := [], alts := [], laidByText := true, laidKinds := [.data, .data, .data], laidTests := true, laidLooks := .later }
def RatesOutlooksUptoCardSaid : Prop := Claim7.holds Tryz.pinned (.plain (OpenSpec.upto ratesOutlooksSpec)) ratesOutlooksUptoCard

/-- THE SECOND FORM's CARD OF 'patrollaw07.RatesPostings'. -/
def ratesPostingsUptoCard : Claim7 := { stood := { row := ratesPostingsUptoRow, standIns := [], harness := (true, "8d817be492e2669bc65ea87e0ef3aa0e08edfda61b6332d4af6137fc27967ca7"), looks := true }, kinds := [], alts := [], laidByText := true, laidKinds := [.data, .data, .data], laidTests := true, laidLooks := .later }
def RatesPostingsUptoCardSaid : Prop := Claim7.holds Tryz.pinned (.plain (OpenSpec.upto ratesPostingsSpec)) ratesPostingsUptoCard

/-- THE SECOND FORM's CARD OF 'patrollaw07.RatesConserve'. -/
def ratesConserveUptoCard : Claim7 := { stood := { row := ratesConserveUptoRow, standIns := [], harness := (true, "8d817be492e2669bc65ea87e0ef3aa0e08edfda61b6332d4af6137fc27967ca7"), looks := true }, kinds := [], alts := [], laidByText := true, laidKinds := [.data, .data, .data], laidTests := true, laidLooks := .later }
def RatesConserveUptoCardSaid : Prop := Claim7.holds Tryz.pinned (.plain (OpenSpec.upto ratesConserveSpec)) ratesConserveUptoCard

/-- THE SECOND FORM's CARD OF 'patrollaw07.RatesSettles'. -/
def ratesSettlesUptoCard : Claim7 := { stood := { row := ratesSettlesUptoRow, standIns := [], harness := (true, "8d817be492e2669bc65ea87e0ef3aa0e08edfda61b6332d4af6137fc27967ca7"), looks := true }, kinds := [], alts := [], laidByText := true, laidKinds := [.data, .data, .data], laidTests := true, laidLooks := .later }
def RatesSettlesUptoCardSaid : Prop := Claim7.holds Tryz.pinned (.plain (OpenSpec.upto ratesSettlesSpec)) ratesSettlesUptoCard

/-- THE SECOND FORM's CARD OF 'patrollaw07.RatesSettled'. -/
def ratesSettledUptoCard : Claim7 := { stood := { row := ratesSettledUptoRow, standIns := [], harness := (true, "8d817be492e2669bc65ea87e0ef3aa0e08edfda61b6332d4af6137fc27967ca7"), looks := true }, kinds := [], alts := [], laidByText := true, laidKinds := [.data, .data, .data], laidTests := true, laidLooks := .later }
def RatesSettledUptoCardSaid : Prop := Claim7.holds Tryz.pinned (.plain (OpenSpec.upto ratesSettledSpec)) ratesSettledUptoCard

/-- THE SECOND FORM's CARD OF 'patrollaw07.RatesCorrects'. -/
def ratesCorrectsUptoCard : Claim7 := { stood := { row := ratesCorrectsUptoRow, standIns := [], harness := (true, "8d817be492e2669bc65ea87e0ef3aa0e08edfda61b6332d4af6137fc27967ca7"), looks := true }, kinds := [], alts := [], laidByText := true, laidKinds := [.data, .data, .data], laidTests := true, laidLooks := .later }
def RatesCorrectsUptoCardSaid : Prop := Claim7.holds Tryz.pinned (.plain (OpenSpec.upto ratesCorrectsSpec)) ratesCorrectsUptoCard

/-- THE SECOND FORM's CARD OF 'patrollaw07.RatesCorrected'. -/
def ratesCorrectedUptoCard : Claim7 := { stood := { row := ratesCorrectedUptoRow, standIns := [], harness := (true, "8d817be492e2669bc65ea87e0ef3aa0e08edfda61b6332d4af6137fc27967ca7"), looks := true }, kinds := [], alts := [], laidByText := true, laidKinds := [.data, .data, .data], laidTests := true, laidLooks := .later }
def RatesCorrectedUptoCardSaid : Prop := Claim7.holds Tryz.pinned (.plain (OpenSpec.upto ratesCorrectedSpec)) ratesCorrectedUptoCard

/-- THE SECOND FORM's CARD OF 'patrollaw07.RatesTexts'. -/
def ratesTextsUptoCard : Claim7 := { stood := { row := ratesTextsUptoRow, standIns := [], harness := (true, "8d817be492e2669bc65ea87e0ef3aa0e08edfda61b6332d4af6137fc27967ca7"), looks := true }, kinds := [], alts := [], laidByText := true, laidKinds := [.data, .data, .data, .data, .sentinel, .sentinel, .pinned], laidTests := true, laidLooks := .later }
def RatesTextsUptoCardSaid : Prop := Claim7.holds Tryz.pinned (.plain (OpenSpec.upto ratesTextsSpec)) ratesTextsUptoCard

/-- THE SECOND FORM's CARD OF 'patrollaw07.RatesTextsBack'. -/
def ratesTextsBackUptoCard : Claim7 := { stood := { row := ratesTextsBackUptoRow, standIns := [], harness := (true, "8d817be492e2669bc65ea87e0ef3aa0e08edfda61b6332d4af6137fc27967ca7"), looks := true }, kinds := [], alts := [], laidByText := true, laidKinds := [.data, .data, .data, .data, .sentinel, .sentinel, .pinned], laidTests := true, laidLooks := .later }
def RatesTextsBackUptoCardSaid : Prop := Claim7.holds Tryz.pinned (.plain (OpenSpec.upto ratesTextsBackSpec)) ratesTextsBackUptoCard
end Rows
end Go.Proofs.YtdfgphfijfocoaaGreatDoor
