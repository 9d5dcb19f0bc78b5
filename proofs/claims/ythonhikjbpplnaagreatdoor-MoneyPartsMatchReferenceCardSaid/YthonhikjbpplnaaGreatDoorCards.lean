/-
  DERIVED. GIVEN WITH THE SEED: THE CARDS: each row of YthonhikjbpplnaaGreatDoorRows.lean that lists a variable, with what it lists TIED to the program's text (the seventh form; the later family's looks); each row that meets fmt, with fmt's text TOLD by the authors' own Lean function (tested against real Go, not proved from fmt's source: count such statements apart). THE CARD IS WHAT COUNTS. Prove the row's statement (the work); the ties are given (YthonhikjbpplnaaGreatDoorTie.lean); close each card by the builder's one call (the guide's Derived/Test/ToyasCard.lean, 'card_holds'). Laid BY PROGRAM, IN A SANDBOX (cutbox-door.mjs). By AI agents, Wed Nov 11 2026. No macro, syntax, notation, axiom, sorry.
-/
import Derived.Test.YthonhikjbpplnaaGreatDoorRows
import GoSem.ClaimSeven
namespace Go.Proofs.YthonhikjbpplnaaGreatDoor
namespace Rows

/-- THE TIED CARD OF 'wagonpoollaw07.MoneyPartsMatchReference'. -/
def moneyPartsMatchReferenceCard : Claim7 := { stood := { row := moneyPartsMatchReferenceRow, standIns := [], harness := (true, "08bb5ad0c2a3f8da4a01e0934b0195fefa26022237015b082316db8e86beb4e2"), looks := true }, kinds := [], alts := [], laidByText := true, laidKinds := [.data, .data, .data, .data, .sentinel, .sentinel, .pinned], laidTests := true, laidLooks := .later }
def MoneyPartsMatchReferenceCardSaid : Prop := Claim7.holds Tryz.pinned (.plain (OpenSpec.ofChange moneyPartsMatchReferenceSpec)) moneyPartsMatchReferenceCard

/-- THE TIED CARD OF 'wagonpoollaw07.MoneyShares'. -/
def moneySharesCard : Claim7 := { stood := { row := moneySharesRow, standIns := [], harness := (true, "08bb5ad0c2a3f8da4a01e0934b0195fefa26022237015b082316db8e86beb4e2"), looks := true }, kinds := [], alts := [], laidByText := true, laidKinds := [.data, .data, .data, .data, .sentinel, .sentinel, .pinned], laidTests := true, laidLooks := .later }
def MoneySharesCardSaid : Prop := Claim7.holds Tryz.pinned (.plain (OpenSpec.ofChange moneySharesSpec)) moneySharesCard

/-- THE TIED CARD OF 'wagonpoollaw07.MoneyTextRoundTrip'. -/
def moneyTextRoundTripCard : Claim7 := { stood := { row := moneyTextRoundTripRow, standIns := [], harness := (true, "08bb5ad0c2a3f8da4a01e0934b0195fefa26022237015b082316db8e86beb4e2"), looks := true }, kinds := [], alts := [], laidByText := true, laidKinds := [.data, .data, .data, .data, .sentinel, .sentinel, .pinned], laidTests := true, laidLooks := .later }
def MoneyTextRoundTripCardSaid : Prop := Claim7.holds Tryz.pinned (.plain (OpenSpec.ofChange moneyTextRoundTripSpec)) moneyTextRoundTripCard

/-- THE SECOND FORM's CARD OF 'wagonpoollaw07.MoneyPartsMatchReference'. -/
def moneyPartsMatchReferenceUptoCard : Claim7 := { stood := { row := moneyPartsMatchReferenceUptoRow, standIns := [], harness := (true, "08bb5ad0c2a3f8da4a01e0934b0195fefa26022237015b082316db8e86beb4e2"), looks := true }, kinds := [], alts := [], laidByText := true, laidKinds := [.data, .data, .data, .data, .sentinel, .sentinel, .pinned], laidTests := true, laidLooks := .later }
def MoneyPartsMatchReferenceUptoCardSaid : Prop := Claim7.holds Tryz.pinned (.plain (OpenSpec.upto moneyPartsMatchReferenceSpec)) moneyPartsMatchReferenceUptoCard

/-- THE SECOND FORM's CARD OF 'wagonpoollaw07.MoneyShares'. -/
def moneySharesUptoCard : Claim7 := { stood := { row := moneySharesUptoRow, standIns := [], harness := (true, "08bb5ad0c2a3f8da4a01e0934b0195fefa26022237015b082316db8e86beb4e2"), looks := true }, kinds := [], alts := [], laidByText := true, laidKinds := [.data, .data, .data, .data, .sentinel, .sentinel, .pinned], laidTests := true, laidLooks := .later }
def MoneySharesUptoCardSaid : Prop := Claim7.holds Tryz.pinned (.plain (OpenSpec.upto moneySharesSpec)) moneySharesUptoCard

/-- THE SECOND FORM's CARD OF 'wagonpoollaw07.MoneyTextRoundTrip'. -/
def moneyTextRoundTripUptoCard : Claim7 := { stood := { row := moneyTextRoundTripUptoRow, standIns := [], harness := (true, "08bb5ad0c2a3f8da4a01e0934b0195fefa26022237015b082316db8e86beb4e2"), looks := true }, kinds := [], alts := [], laidByText := true, laidKinds := [.data, .data, .data, .data, .sentinel, .sentinel, .pinned], laidTests := true, laidLooks := .later }
def MoneyTextRoundTripUptoCardSaid : Prop := Claim7.holds Tryz.pinned (.plain (OpenSpec.upto moneyTextRoundTripSpec)) moneyTextRoundTripUptoCard
end Rows
end Go.Proofs.YthonhikjbpplnaaGreatDoor
