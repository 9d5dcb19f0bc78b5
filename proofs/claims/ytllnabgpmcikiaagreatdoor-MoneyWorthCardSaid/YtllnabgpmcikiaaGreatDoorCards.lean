/-
  DERIVED. GIVEN WITH THE SEED: THE CARDS: each row of YtllnabgpmcikiaaGreatDoorRows.lean that lists a variable, with what it lists TIED to the program's text (the seventh form; the later family's looks); each row that meets fmt, with fmt's text TOLD by the authors' own Lean function (tested against real Go, not proved from fmt's source: count such statements apart). THE CARD IS WHAT COUNTS. Prove the row's statement (the work); the ties are given (YtllnabgpmcikiaaGreatDoorTie.lean); close each card by the builder's one call (the guide's Derived/Test/ToyasCard.lean, 'card_holds'). Laid BY PROGRAM, IN A SANDBOX (cutbox-door.mjs). By AI agents, Wed Nov 11 2026. No macro, syntax, notation, axiom, sorry.
-/
import Derived.Test.YtllnabgpmcikiaaGreatDoorRows
import GoSem.ClaimSeven
namespace Go.Proofs.YtllnabgpmcikiaaGreatDoor
namespace Rows

/-- THE TIED CARD OF 'wagonpoollaw07.MoneyPartsMatchReference'. -/
def moneyPartsMatchReferenceCard : Claim7 := { stood := { row := moneyPartsMatchReferenceRow, standIns := [], harness := (true, "cbb8616a306064059c342f3cd3ef86619281bdf42ef1e2bf4c40d3c39049f890"), looks := true }, kinds := [], alts := [], laidByText := true, laidKinds := [.data, .data, .data, .data, .sentinel, .sentinel, .pinned], laidTests := true, laidLooks := .later }
def MoneyPartsMatchReferenceCardSaid : Prop := Claim7.holds Tryz.pinned (.plain (OpenSpec.ofChange moneyPartsMatchReferenceSpec)) moneyPartsMatchReferenceCard

/-- THE TIED CARD OF 'wagonpoollaw07.MoneyDivision'. -/
def moneyDivisionCard : Claim7 := { stood := { row := moneyDivisionRow, standIns := [], harness := (true, "cbb8616a306064059c342f3cd3ef86619281bdf42ef1e2bf4c40d3c39049f890"), looks := true }, kinds := [], alts := [], laidByText := true, laidKinds := [.data, .data, .data, .data, .sentinel, .sentinel, .pinned], laidTests := true, laidLooks := .later }
def MoneyDivisionCardSaid : Prop := Claim7.holds Tryz.pinned (.plain (OpenSpec.ofChange moneyDivisionSpec)) moneyDivisionCard

/-- THE TIED CARD OF 'wagonpoollaw07.MoneyMonotonic'. -/
def moneyMonotonicCard : Claim7 := { stood := { row := moneyMonotonicRow, standIns := [], harness := (true, "cbb8616a306064059c342f3cd3ef86619281bdf42ef1e2bf4c40d3c39049f890"), looks := true }, kinds := [], alts := [], laidByText := true, laidKinds := [.data, .data, .data, .data, .sentinel, .sentinel, .pinned], laidTests := true, laidLooks := .later }
def MoneyMonotonicCardSaid : Prop := Claim7.holds Tryz.pinned (.plain (OpenSpec.ofChange moneyMonotonicSpec)) moneyMonotonicCard

/-- THE TIED CARD OF 'wagonpoollaw07.MoneySums'. -/
def moneySumsCard : Claim7 := { stood := { row := moneySumsRow, standIns := [], harness := (true, "cbb8616a306064059c342f3cd3ef86619281bdf42ef1e2bf4c40d3c39049f890"), looks := true }, kinds := [], alts := [], laidByText := true, laidKinds := [.data, .data, .data, .data, .sentinel, .sentinel, .pinned], laidTests := true, laidLooks := .later }
def MoneySumsCardSaid : Prop := Claim7.holds Tryz.pinned (.plain (OpenSpec.ofChange moneySumsSpec)) moneySumsCard

/-- THE TIED CARD OF 'wagonpoollaw07.MoneyShares'. -/
def moneySharesCard : Claim7 := { stood := { row := moneySharesRow, standIns := [], harness := (true, "cbb8616a306064059c342f3cd3ef86619281bdf42ef1e2bf4c40d3c39049f890"), looks := true }, kinds := [], alts := [], laidByText := true, laidKinds := [.data, .data, .data, .data, .sentinel, .sentinel, .pinned], laidTests := true, laidLooks := .later }
def MoneySharesCardSaid : Prop := Claim7.holds Tryz.pinned (.plain (OpenSpec.ofChange moneySharesSpec)) moneySharesCard

/-- THE TIED CARD OF 'wagonpoollaw07.MoneyTextRoundTrip'. -/
def moneyTextRoundTripCard : Claim7 := { stood := { row := moneyTextRoundTripRow, standIns := [], harness := (true, "cbb8616a306064059c342f3cd3ef86619281bdf42ef1e2bf4c40d3c39049f890"), looks := true }, kinds := [], alts := [], laidByText := true, laidKinds := [.data, .data, .data, .data, .sentinel, .sentinel, .pinned], laidTests := true, laidLooks := .later }
def MoneyTextRoundTripCardSaid : Prop := Claim7.holds Tryz.pinned (.plain (OpenSpec.ofChange moneyTextRoundTripSpec)) moneyTextRoundTripCard

/-- THE TIED CARD OF 'wagonpoollaw07.MoneyWorth'. -/
def moneyWorthCard : Claim7 := { stood := { row := moneyWorthRow, standIns := [], harness := (true, "cbb8616a306064059c342f3cd3ef86619281bdf42ef1e2bf4c40d3c39049f890"), looks := true }, kinds := [], alts := [], laidByText := true, laidKinds := [.data, .data, .data, .data, .sentinel, .sentinel, .pinned], laidTests := true, laidLooks := .later }
def MoneyWorthCardSaid : Prop := Claim7.holds Tryz.pinned (.plain (OpenSpec.ofChange moneyWorthSpec)) moneyWorthCard

/-- THE TIED CARD OF 'wagonpoollaw07.MoneyMatchesReference'. -/
def moneyMatchesReferenceCard : Claim7 := { stood := { row := moneyMatchesReferenceRow, standIns := [], harness := (true, "cbb8616a306064059c342f3cd3ef86619281bdf42ef1e2bf4c40d3c39049f890"), looks := true }, kinds := [], alts := [], laidByText := true, laidKinds := [.data, .data, .data, .data, .sentinel, .sentinel, .pinned], laidTests := true, laidLooks := .later }
def MoneyMatchesReferenceCardSaid : Prop := Claim7.holds Tryz.pinned (.plain (OpenSpec.ofChange moneyMatchesReferenceSpec)) moneyMatchesReferenceCard

/-- THE TIED CARD OF 'wagonpoollaw07.MoneyArithmetic'. -/
def moneyArithmeticCard : Claim7 := { stood := { row := moneyArithmeticRow, standIns := [], harness := (true, "cbb8616a306064059c342f3cd3ef86619281bdf42ef1e2bf4c40d3c39049f890"), looks := true }, kinds := [], alts := [], laidByText := true, laidKinds := [.data, .data, .data, .data, .sentinel, .sentinel, .pinned], laidTests := true, laidLooks := .later }
def MoneyArithmeticCardSaid : Prop := Claim7.holds Tryz.pinned (.plain (OpenSpec.ofChange moneyArithmeticSpec)) moneyArithmeticCard

/-- THE SECOND FORM's CARD OF 'wagonpoollaw07.MoneyPartsMatchReference'. -/
def moneyPartsMatchReferenceUptoCard : Claim7 := { stood := { row := moneyPartsMatchReferenceUptoRow, standIns := [], harness := (true, "cbb8616a306064059c342f3cd3ef86619281bdf42ef1e2bf4c40d3c39049f890"), looks := true }, kinds := [], alts := [], laidByText := true, laidKinds := [.data, .data, .data, .data, .sentinel, .sentinel, .pinned], laidTests := true, laidLooks := .later }
def MoneyPartsMatchReferenceUptoCardSaid : Prop := Claim7.holds Tryz.pinned (.plain (OpenSpec.upto moneyPartsMatchReferenceSpec)) moneyPartsMatchReferenceUptoCard

/-- THE SECOND FORM's CARD OF 'wagonpoollaw07.MoneyDivision'. -/
def moneyDivisionUptoCard : Claim7 := { stood := { row := moneyDivisionUptoRow, standIns := [], harness := (true, "cbb8616a306064059c342f3cd3ef86619281bdf42ef1e2bf4c40d3c39049f890"), looks := true }, kinds := [], alts := [], laidByText := true, laidKinds := [.data, .data, .data, .data, .sentinel, .sentinel, .pinned], laidTests := true, laidLooks := .later }
def MoneyDivisionUptoCardSaid : Prop := Claim7.holds Tryz.pinned (.plain (OpenSpec.upto moneyDivisionSpec)) moneyDivisionUptoCard

/-- THE SECOND FORM's CARD OF 'wagonpoollaw07.MoneyMonotonic'. -/
def moneyMonotonicUptoCard : Claim7 := { stood := { row := moneyMonotonicUptoRow, standIns := [], harness := (true, "cbb8616a306064059c342f3cd3ef86619281bdf42ef1e2bf4c40d3c39049f890"), looks := true }, kinds := [], alts := [], laidByText := true, laidKinds := [.data, .data, .data, .data, .sentinel, .sentinel, .pinned], laidTests := true, laidLooks := .later }
def MoneyMonotonicUptoCardSaid : Prop := Claim7.holds Tryz.pinned (.plain (OpenSpec.upto moneyMonotonicSpec)) moneyMonotonicUptoCard

/-- THE SECOND FORM's CARD OF 'wagonpoollaw07.MoneySums'. -/
def moneySumsUptoCard : Claim7 := { stood := { row := moneySumsUptoRow, standIns := [], harness := (true, "cbb8616a306064059c342f3cd3ef86619281bdf42ef1e2bf4c40d3c39049f890"), looks := true }, kinds := [], alts := [], laidByText := true, laidKinds := [.data, .data, .data, .data, .sentinel, .sentinel, .pinned], laidTests := true, laidLooks := .later }
def MoneySumsUptoCardSaid : Prop := Claim7.holds Tryz.pinned (.plain (OpenSpec.upto moneySumsSpec)) moneySumsUptoCard

/-- THE SECOND FORM's CARD OF 'wagonpoollaw07.MoneyShares'. -/
def moneySharesUptoCard : Claim7 := { stood := { row := moneySharesUptoRow, standIns := [], harness := (true, "cbb8616a306064059c342f3cd3ef86619281bdf42ef1e2bf4c40d3c39049f890"), looks := true }, kinds := [], alts := [], laidByText := true, laidKinds := [.data, .data, .data, .data, .sentinel, .sentinel, .pinned], laidTests := true, laidLooks := .later }
def MoneySharesUptoCardSaid : Prop := Claim7.holds Tryz.pinned (.plain (OpenSpec.upto moneySharesSpec)) moneySharesUptoCard

/-- THE SECOND FORM's CARD OF 'wagonpoollaw07.MoneyTextRoundTrip'. -/
def moneyTextRoundTripUptoCard : Claim7 := { stood := { row := moneyTextRoundTripUptoRow, standIns := [], harness := (true, "cbb8616a306064059c342f3cd3ef86619281bdf42ef1e2bf4c40d3c39049f890"), looks := true }, kinds := [], alts := [], laidByText := true, laidKinds := [.data, .data, .data, .data, .sentinel, .sentinel, .pinned], laidTests := true, laidLooks := .later }
def MoneyTextRoundTripUptoCardSaid : Prop := Claim7.holds Tryz.pinned (.plain (OpenSpec.upto moneyTextRoundTripSpec)) moneyTextRoundTripUptoCard

/-- THE SECOND FORM's CARD OF 'wagonpoollaw07.MoneyWorth'. -/
def moneyWorthUptoCard : Claim7 := { stood := { row := moneyWorthUptoRow, standIns := [], harness := (true, "cbb8616a306064059c342f3cd3ef86619281bdf42ef1e2bf4c40d3c39049f890"), looks := true }, kinds := [], alts := [], laidByText := true, laidKinds := [.data, .data, .data, .data, .sentinel, .sentinel, .pinned], laidTests := true, laidLooks := .later }
def MoneyWorthUptoCardSaid : Prop := Claim7.holds Tryz.pinned (.plain (OpenSpec.upto moneyWorthSpec)) moneyWorthUptoCard

/-- THE SECOND FORM's CARD OF 'wagonpoollaw07.MoneyMatchesReference'. -/
def moneyMatchesReferenceUptoCard : Claim7 := { stood := { row := moneyMatchesReferenceUptoRow, standIns := [], harness := (true, "cbb8616a306064059c342f3cd3ef86619281bdf42ef1e2bf4c40d3c39049f890"), looks := true }, kinds := [], alts := [], laidByText := true, laidKinds := [.data, .data, .data, .data, .sentinel, .sentinel, .pinned], laidTests := true, laidLooks := .later }
def MoneyMatchesReferenceUptoCardSaid : Prop := Claim7.holds Tryz.pinned (.plain (OpenSpec.upto moneyMatchesReferenceSpec)) moneyMatchesReferenceUptoCard

/-- THE SECOND FORM's CARD OF 'wagonpoollaw07.MoneyArithmetic'. -/
def moneyArithmeticUptoCard : Claim7 := { stood := { row := moneyArithmeticUptoRow, standIns := [], harness := (true, "cbb8616a306064059c342f3cd3ef86619281bdf42ef1e2bf4c40d3c39049f890"), looks := true }, kinds := [], alts := [], laidByText := true, laidKinds := [.data, .data, .data, .data, .sentinel, .sentinel, .pinned], laidTests := true, laidLooks := .later }
def MoneyArithmeticUptoCardSaid : Prop := Claim7.holds Tryz.pinned (.plain (OpenSpec.upto moneyArithmeticSpec)) moneyArithmeticUptoCard
end Rows
end Go.Proofs.YtllnabgpmcikiaaGreatDoor
