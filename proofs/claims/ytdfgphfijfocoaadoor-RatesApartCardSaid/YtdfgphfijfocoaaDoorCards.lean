/-
  DERIVED. GIVEN WITH THE SEED: THE CARDS: each row of YtdfgphfijfocoaaDoorRows.lean that lists a variable, with what it lists TIED to the program's text (the seventh form; the later family's looks); each row that meets fmt, with fmt's text TOLD by the authors' own Lean function (tested against real Go, not proved from fmt's source: count such statements apart). THE CARD IS WHAT COUNTS. Prove the row's statement (the work); the ties are given (YtdfgphfijfocoaaDoorTie.lean); close each card by the builder's one call (the guide's Derived/Test/ToyasCard.lean, 'card_holds'). Laid BY PROGRAM, IN A SANDBOX (cutbox-door.mjs). By AI agents, Wed Nov 11 2026. No macro, syntax, notation, axiom, sorry.
-/
import Derived.Test.YtdfgphfijfocoaaDoorRows
import GoSem.ClaimSeven
namespace Go.Proofs.YtdfgphfijfocoaaDoor
namespace Rows

/-- THE TIED CARD OF 'patrollaw07.RatesSplits'. -/
def ratesSplitsCard : Claim7 := { stood := { row := ratesSplitsRow, standIns := [], harness := (true, "aa44b2473d6380c9ac2d6ce83aaa5bb84c1b7b2564f93ddd61b73c91f5dd5979"), looks := false }, kinds := [], alts := [], laidByText := true, laidKinds := [.data, .data, .data], laidTests := true, laidLooks := .later }
def RatesSplitsCardSaid : Prop := Claim7.holds Tryd.pinned (.plain (OpenSpec.ofChange ratesSplitsSpec)) ratesSplitsCard

/-- THE TIED CARD OF 'patrollaw07.RatesFair'. -/
def ratesFairCard : Claim7 := { stood := { row := ratesFairRow, standIns := [], harness := (true, "aa44b2473d6380c9ac2d6ce83aaa5bb84c1b7b2564f93ddd61b73c91f5dd5979"), looks := false }, kinds := [], alts := [], laidByText := true, laidKinds := [.data, .data, .data], laidTests := true, laidLooks := .later }
def RatesFairCardSaid : Prop := Claim7.holds Tryd.pinned (.plain (OpenSpec.ofChange ratesFairSpec)) ratesFairCard

/-- THE TIED CARD OF 'patrollaw07.RatesChecks'. -/
def ratesChecksCard : Claim7 := { stood := { row := ratesChecksRow, standIns := [], harness := (true, "aa44b2473d6380c9ac2d6ce83aaa5bb84c1b7b2564f93ddd61b73c91f5dd5979"), looks := false }, kinds := [], alts := [], laidByText := true, laidKinds := [.data, .data, .data], laidTests := true, laidLooks := .later }
def RatesChecksCardSaid : Prop := Claim7.holds Tryd.pinned (.plain (OpenSpec.ofChange ratesChecksSpec)) ratesChecksCard

/-- THE TIED CARD OF 'patrollaw07.RatesNights'. -/
def ratesNightsCard : Claim7 := { stood := { row := ratesNightsRow, standIns := [], harness := (true, "aa44b2473d6380c9ac2d6ce83aaa5bb84c1b7b2564f93ddd61b73c91f5dd5979"), looks := false }, kinds := [], alts := [], laidByText := true, laidKinds := [.data, .data, .data], laidTests := true, laidLooks := .later }
def RatesNightsCardSaid : Prop := Claim7.holds Tryd.pinned (.plain (OpenSpec.ofChange ratesNightsSpec)) ratesNightsCard

/-- THE TIED CARD OF 'patrollaw07.RatesEarned'. -/
def ratesEarnedCard : Claim7 := { stood := { row := ratesEarnedRow, standIns := [], harness := (true, "aa44b2473d6380c9ac2d6ce83aaa5bb84c1b7b2564f93ddd61b73c91f5dd5979"), looks := false }, kinds := [], alts := [], laidByText := true, laidKinds := [.data, .data, .data], laidTests := true, laidLooks := .later }
def RatesEarnedCardSaid : Prop := Claim7.holds Tryd.pinned (.plain (OpenSpec.ofChange ratesEarnedSpec)) ratesEarnedCard

/-- THE TIED CARD OF 'patrollaw07.RatesAttained'. -/
def ratesAttainedCard : Claim7 := { stood := { row := ratesAttainedRow, standIns := [], harness := (true, "aa44b2473d6380c9ac2d6ce83aaa5bb84c1b7b2564f93ddd61b73c91f5dd5979"), looks := false }, kinds := [], alts := [], laidByText := true, laidKinds := [.data, .data, .data], laidTests := true, laidLooks := .later }
def RatesAttainedCardSaid : Prop := Claim7.holds Tryd.pinned (.plain (OpenSpec.ofChange ratesAttainedSpec)) ratesAttainedCard

/-- THE TIED CARD OF 'patrollaw07.RatesApart'. -/
def ratesApartCard : Claim7 := { stood := { row := ratesApartRow, standIns := [], harness := (true, "aa44b2473d6380c9ac2d6ce83aaa5bb84c1b7b2564f93ddd61b73c91f5dd5979"), looks := false }, kinds := [], alts := [], laidByText := true, laidKinds := [.data, .data, .data], laidTests := true, laidLooks := .later }
def RatesApartCardSaid : Prop := Claim7.holds Tryd.pinned (.plain (OpenSpec.ofChange ratesApartSpec)) ratesApartCard

/-- THE TIED CARD OF 'patrollaw07.RatesBounds'. -/
def ratesBoundsCard : Claim7 := { stood := { row := ratesBoundsRow, standIns := [], harness := (true, "aa44b2473d6380c9ac2d6ce83aaa5bb84c1b7b2564f93ddd61b73c91f5dd5979"), looks := false }, kinds := [], alts := [], laidByText := true, laidKinds := [.data, .data, .data], laidTests := true, laidLooks := .later }
def RatesBoundsCardSaid : Prop := Claim7.holds Tryd.pinned (.plain (OpenSpec.ofChange ratesBoundsSpec)) ratesBoundsCard

/-- THE SECOND FORM's CARD OF 'patrollaw07.RatesSplits'. -/
def ratesSplitsUptoCard : Claim7 := { stood := { row := ratesSplitsUptoRow, standIns := [], harness := (true, "aa44b2473d6380c9ac2d6ce83aaa5bb84c1b7b2564f93ddd61b73c91f5dd5979"), looks := false }, kinds := [], alts := [], laidByText := true, laidKinds := [.data, .data, .data], laidTests := true, laidLooks := .later }
def RatesSplitsUptoCardSaid : Prop := Claim7.holds Tryd.pinned (.plain (OpenSpec.upto ratesSplitsSpec)) ratesSplitsUptoCard

/-- THE SECOND FORM's CARD OF 'patrollaw07.RatesFair'. -/
def ratesFairUptoCard : Claim7 := { stood := { row := ratesFairUptoRow, standIns := [], harness := (true, "aa44b2473d6380c9ac2d6ce83aaa5bb84c1b7b2564f93ddd61b73c91f5dd5979"), looks := false }, kinds := [], alts := [], laidByText := true, laidKinds := [.data, .data, .data], laidTests := true, laidLooks := .later }
def RatesFairUptoCardSaid : Prop := Claim7.holds Tryd.pinned (.plain (OpenSpec.upto ratesFairSpec)) ratesFairUptoCard

/-- THE SECOND FORM's CARD OF 'patrollaw07.RatesChecks'. -/
def ratesChecksUptoCard : Claim7 := { stood := { row := ratesChecksUptoRow, standIns := [], harness := (true, "aa44b2473d6380c9ac2d6ce83aaa5bb84c1b7b2564f93ddd61b73c91f5dd5979"), looks := false }, kinds := [], alts := [], laidByText := true, laidKinds := [.data, .data, .data], laidTests := true, laidLooks := .later }
def RatesChecksUptoCardSaid : Prop := Claim7.holds Tryd.pinned (.plain (OpenSpec.upto ratesChecksSpec)) ratesChecksUptoCard

/-- THE SECOND FORM's CARD OF 'patrollaw07.RatesNights'. -/
def ratesNightsUptoCard : Claim7 := { stood := { row := ratesNightsUptoRow, standIns := [], harness := (true, "aa44b2473d6380c9ac2d6ce83aaa5bb84c1b7b2564f93ddd61b73c91f5dd5979"), looks := false }, kinds := [], alts := [], laidByText := true, laidKinds := [.data, .data, .data], laidTests := true, laidLooks := .later }
def RatesNightsUptoCardSaid : Prop := Claim7.holds Tryd.pinned (.plain (OpenSpec.upto ratesNightsSpec)) ratesNightsUptoCard

/-- THE SECOND FORM's CARD OF 'patrollaw07.RatesEarned'. -/
def ratesEarnedUptoCard : Claim7 := { stood := { row := ratesEarnedUptoRow, standIns := [], harness := (true, "aa44b2473d6380c9ac2d6ce83aaa5bb84c1b7b2564f93ddd61b73c91f5dd5979"), looks := false }, kinds := [], alts := [], laidByText := true, laidKinds := [.data, .data, .data], laidTests := true, laidLooks := .later }
def RatesEarnedUptoCardSaid : Prop := Claim7.holds Tryd.pinned (.plain (OpenSpec.upto ratesEarnedSpec)) ratesEarnedUptoCard

/-- THE SECOND FORM's CARD OF 'patrollaw07.RatesAttained'. -/
def ratesAttainedUptoCard : Claim7 := { stood := { row := ratesAttainedUptoRow, standIns := [], harness := (true, "aa44b2473d6380c9ac2d6ce83aaa5bb84c1b7b2564f93ddd61b73c91f5dd5979"), looks := false }, kinds := [], alts := [], laidByText := true, laidKinds := [.data, .data, .data], laidTests := true, laidLooks := .later }
def RatesAttainedUptoCardSaid : Prop := Claim7.holds Tryd.pinned (.plain (OpenSpec.upto ratesAttainedSpec)) ratesAttainedUptoCard

/-- THE SECOND FORM's CARD OF 'patrollaw07.RatesApart'. -/
def ratesApartUptoCard : Claim7 := { stood := { row := ratesApartUptoRow, standIns := [], harness := (true, "aa44b2473d6380c9ac2d6ce83aaa5bb84c1b7b2564f93ddd61b73c91f5dd5979"), looks := false }, kinds := [], alts := [], laidByText := true, laidKinds := [.data, .data, .data], laidTests := true, laidLooks := .later }
def RatesApartUptoCardSaid : Prop := Claim7.holds Tryd.pinned (.plain (OpenSpec.upto ratesApartSpec)) ratesApartUptoCard

/-- THE SECOND FORM's CARD OF 'patrollaw07.RatesBounds'. -/
def ratesBoundsUptoCard : Claim7 := { stood := { row := ratesBoundsUptoRow, standIns := [], harness := (true, "aa44b2473d6380c9ac2d6ce83aaa5bb84c1b7b2564f93ddd61b73c91f5dd5979"), looks := false }, kinds := [], alts := [], laidByText := true, laidKinds := [.data, .data, .data], laidTests := true, laidLooks := .later }
def RatesBoundsUptoCardSaid : Prop := Claim7.holds Tryd.pinned (.plain (OpenSpec.upto ratesBoundsSpec)) ratesBoundsUptoCard
end Rows
end Go.Proofs.YtdfgphfijfocoaaDoor
