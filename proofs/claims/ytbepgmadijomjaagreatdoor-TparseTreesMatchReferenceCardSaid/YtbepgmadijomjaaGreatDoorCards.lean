/-
  DERIVED. GIVEN WITH THE SEED: THE CARDS: each row of YtbepgmadijomjaaGreatDoorRows.lean that lists a variable, with what it lists TIED to the program's text (the seventh form; the later family's looks); each row that meets fmt, with fmt's text TOLD by the authors' own Lean function (tested against real Go, not proved from fmt's source: count such statements apart). THE CARD IS WHAT COUNTS. Prove the row's statement (the work); the ties are given (YtbepgmadijomjaaGreatDoorTie.lean); close each card by the builder's one call (the guide's Derived/Test/ToyasCard.lean, 'card_holds'). Laid BY PROGRAM, IN A SANDBOX (cutbox-door.mjs). By AI agents, Wed Nov 11 2026. No macro, syntax, notation, axiom, sorry.
-/
import Derived.Test.YtbepgmadijomjaaGreatDoorRows
import GoSem.ClaimSeven
namespace Go.Proofs.YtbepgmadijomjaaGreatDoor
namespace Rows

/-- THE TIED CARD OF 'wagonpoollaw16.TparseMatchesReference'. -/
def tparseMatchesReferenceCard : Claim7 := { stood := { row := tparseMatchesReferenceRow, standIns := [], harness := (true, "8eb057c64c3985b9c61d9fef37ea96aa7e5f6c85259d6a0647e4b67041a0a548"), looks := true }, kinds := [], alts := [], laidByText := true, laidKinds := [.data, .data, .data, .data, .listed, .data, .mapped, .mapped, .pinned], laidTests := true, laidLooks := .later }
def TparseMatchesReferenceCardSaid : Prop := Claim7.holds Tryz.pinned (.plain (OpenSpec.ofChange tparseMatchesReferenceSpec)) tparseMatchesReferenceCard

/-- THE TIED CARD OF 'wagonpoollaw16.TparseTreesMatchReference'. -/
def tparseTreesMatchReferenceCard : Claim7 := { stood := { row := tparseTreesMatchReferenceRow, standIns := [], harness := (true, "8eb057c64c3985b9c61d9fef37ea96aa7e5f6c85259d6a0647e4b67041a0a548"), looks := true }, kinds := [], alts := [], laidByText := true, laidKinds := [.data, .data, .data, .data, .listed, .data, .mapped, .mapped, .pinned], laidTests := true, laidLooks := .later }
def TparseTreesMatchReferenceCardSaid : Prop := Claim7.holds Tryz.pinned (.plain (OpenSpec.ofChange tparseTreesMatchReferenceSpec)) tparseTreesMatchReferenceCard

/-- THE TIED CARD OF 'wagonpoollaw16.TparseRoundTrip'. -/
def tparseRoundTripCard : Claim7 := { stood := { row := tparseRoundTripRow, standIns := [], harness := (true, "8eb057c64c3985b9c61d9fef37ea96aa7e5f6c85259d6a0647e4b67041a0a548"), looks := true }, kinds := [], alts := [], laidByText := true, laidKinds := [.data, .data, .data, .data, .listed, .data, .mapped, .mapped, .pinned], laidTests := true, laidLooks := .later }
def TparseRoundTripCardSaid : Prop := Claim7.holds Tryz.pinned (.plain (OpenSpec.ofChange tparseRoundTripSpec)) tparseRoundTripCard

/-- THE TIED CARD OF 'wagonpoollaw16.TparseGroups'. -/
def tparseGroupsCard : Claim7 := { stood := { row := tparseGroupsRow, standIns := [], harness := (true, "8eb057c64c3985b9c61d9fef37ea96aa7e5f6c85259d6a0647e4b67041a0a548"), looks := true }, kinds := [], alts := [], laidByText := true, laidKinds := [.data, .data, .data, .data, .listed, .data, .mapped, .mapped, .pinned], laidTests := true, laidLooks := .later }
def TparseGroupsCardSaid : Prop := Claim7.holds Tryz.pinned (.plain (OpenSpec.ofChange tparseGroupsSpec)) tparseGroupsCard

/-- THE TIED CARD OF 'wagonpoollaw16.TparseClauses'. -/
def tparseClausesCard : Claim7 := { stood := { row := tparseClausesRow, standIns := [], harness := (true, "8eb057c64c3985b9c61d9fef37ea96aa7e5f6c85259d6a0647e4b67041a0a548"), looks := true }, kinds := [], alts := [], laidByText := true, laidKinds := [.data, .data, .data, .data, .listed, .data, .mapped, .mapped, .pinned], laidTests := true, laidLooks := .later }
def TparseClausesCardSaid : Prop := Claim7.holds Tryz.pinned (.plain (OpenSpec.ofChange tparseClausesSpec)) tparseClausesCard

/-- THE TIED CARD OF 'wagonpoollaw16.TparseReads'. -/
def tparseReadsCard : Claim7 := { stood := { row := tparseReadsRow, standIns := [], harness := (true, "8eb057c64c3985b9c61d9fef37ea96aa7e5f6c85259d6a0647e4b67041a0a548"), looks := true }, kinds := [], alts := [], laidByText := true, laidKinds := [.data, .data, .data, .data, .listed, .data, .mapped, .mapped, .pinned], laidTests := true, laidLooks := .later }
def TparseReadsCardSaid : Prop := Claim7.holds Tryz.pinned (.plain (OpenSpec.ofChange tparseReadsSpec)) tparseReadsCard

/-- THE TIED CARD OF 'wagonpoollaw16.TparsePrints'. -/
def tparsePrintsCard : Claim7 := { stood := { row := tparsePrintsRow, standIns := [], harness := (true, "8eb057c64c3985b9c61d9fef37ea96aa7e5f6c85259d6a0647e4b67041a0a548"), looks := true }, kinds := [], alts := [], laidByText := true, laidKinds := [.data, .data, .data, .data, .listed, .data, .mapped, .mapped, .pinned], laidTests := true, laidLooks := .later }
def TparsePrintsCardSaid : Prop := Claim7.holds Tryz.pinned (.plain (OpenSpec.ofChange tparsePrintsSpec)) tparsePrintsCard

/-- THE SECOND FORM's CARD OF 'wagonpoollaw16.TparseMatchesReference'. -/
def tparseMatchesReferenceUptoCard : Claim7 := { stood := { row := tparseMatchesReferenceUptoRow, standIns := [], harness := (true, "8eb057c64c3985b9c61d9fef37ea96aa7e5f6c85259d6a0647e4b67041a0a548"), looks := true }, kinds := [], alts := [], laidByText := true, laidKinds := [.data, .data, .data, .data, .listed, .data, .mapped, .mapped, .pinned], laidTests := true, laidLooks := .later }
def TparseMatchesReferenceUptoCardSaid : Prop := Claim7.holds Tryz.pinned (.plain (OpenSpec.upto tparseMatchesReferenceSpec)) tparseMatchesReferenceUptoCard

/-- THE SECOND FORM's CARD OF 'wagonpoollaw16.TparseTreesMatchReference'. -/
def tparseTreesMatchReferenceUptoCard : Claim7 := { stood := { row := tparseTreesMatchReferenceUptoRow, standIns := [], harness := (true, "8eb057c64c3985b9c61d9fef37ea96aa7e5f6c85259d6a0647e4b67041a0a548"), looks := true }, kinds := [], alts := [], laidByText := true, laidKinds := [.data, .data, .data, .data, .listed, .data, .mapped, .mapped, .pinned], laidTests := true, laidLooks := .later }
def TparseTreesMatchReferenceUptoCardSaid : Prop := Claim7.holds Tryz.pinned (.plain (OpenSpec.upto tparseTreesMatchReferenceSpec)) tparseTreesMatchReferenceUptoCard

/-- THE SECOND FORM's CARD OF 'wagonpoollaw16.TparseRoundTrip'. -/
def tparseRoundTripUptoCard : Claim7 := { stood := { row := tparseRoundTripUptoRow, standIns := [], harness := (true, "8eb057c64c3985b9c61d9fef37ea96aa7e5f6c85259d6a0647e4b67041a0a548"), looks := true }, kinds := [], alts := [], laidByText := true, laidKinds := [.data, .data, .data, .data, .listed, .data, .mapped, .mapped, .pinned], laidTests := true, laidLooks := .later }
def TparseRoundTripUptoCardSaid : Prop := Claim7.holds Tryz.pinned (.plain (OpenSpec.upto tparseRoundTripSpec)) tparseRoundTripUptoCard

/-- THE SECOND FORM's CARD OF 'wagonpoollaw16.TparseGroups'. -/
def tparseGroupsUptoCard : Claim7 := { stood := { row := tparseGroupsUptoRow, standIns := [], harness := (true, "8eb057c64c3985b9c61d9fef37ea96aa7e5f6c85259d6a0647e4b67041a0a548"), looks := true }, kinds := [], alts := [], laidByText := true, laidKinds := [.data, .data, .data, .data, .listed, .data, .mapped, .mapped, .pinned], laidTests := true, laidLooks := .later }
def TparseGroupsUptoCardSaid : Prop := Claim7.holds Tryz.pinned (.plain (OpenSpec.upto tparseGroupsSpec)) tparseGroupsUptoCard

/-- THE SECOND FORM's CARD OF 'wagonpoollaw16.TparseClauses'. -/
def tparseClausesUptoCard : Claim7 := { stood := { row := tparseClausesUptoRow, standIns := [], harness := (true, "8eb057c64c3985b9c61d9fef37ea96aa7e5f6c85259d6a0647e4b67041a0a548"), looks := true }, kinds := [], alts := [], laidByText := true, laidKinds := [.data, .data, .data, .data, .listed, .data, .mapped, .mapped, .pinned], laidTests := true, laidLooks := .later }
def TparseClausesUptoCardSaid : Prop := Claim7.holds Tryz.pinned (.plain (OpenSpec.upto tparseClausesSpec)) tparseClausesUptoCard

/-- THE SECOND FORM's CARD OF 'wagonpoollaw16.TparseReads'. -/
def tparseReadsUptoCard : Claim7 := { stood := { row := tparseReadsUptoRow, standIns := [], harness := (true, "8eb057c64c3985b9c61d9fef37ea96aa7e5f6c85259d6a0647e4b67041a0a548"), looks := true }, kinds := [], alts := [], laidByText := true, laidKinds := [.data, .data, .data, .data, .listed, .data, .mapped, .mapped, .pinned], laidTests := true, laidLooks := .later }
def TparseReadsUptoCardSaid : Prop := Claim7.holds Tryz.pinned (.plain (OpenSpec.upto tparseReadsSpec)) tparseReadsUptoCard

/-- THE SECOND FORM's CARD OF 'wagonpoollaw16.TparsePrints'. -/
def tparsePrintsUptoCard : Claim7 := { stood := { row := tparsePrintsUptoRow, standIns := [], harness := (true, "8eb057c64c3985b9c61d9fef37ea96aa7e5f6c85259d6a0647e4b67041a0a548"), looks := true }, kinds := [], alts := [], laidByText := true, laidKinds := [.data, .data, .data, .data, .listed, .data, .mapped, .mapped, .pinned], laidTests := true, laidLooks := .later }
def TparsePrintsUptoCardSaid : Prop := Claim7.holds Tryz.pinned (.plain (OpenSpec.upto tparsePrintsSpec)) tparsePrintsUptoCard
end Rows
end Go.Proofs.YtbepgmadijomjaaGreatDoor
