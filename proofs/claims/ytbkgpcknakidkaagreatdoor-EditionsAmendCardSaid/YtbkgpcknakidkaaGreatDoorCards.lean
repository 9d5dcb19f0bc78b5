/-
  DERIVED. GIVEN WITH THE SEED: THE CARDS: each row of YtbkgpcknakidkaaGreatDoorRows.lean that lists a variable, with what it lists TIED to the program's text (the seventh form; the later family's looks); each row that meets fmt, with fmt's text TOLD by the authors' own Lean function (tested against real Go, not proved from fmt's source: count such statements apart). THE CARD IS WHAT COUNTS. Prove the row's statement (the work); the ties are given (YtbkgpcknakidkaaGreatDoorTie.lean); close each card by the builder's one call (the guide's Derived/Test/ToyasCard.lean, 'card_holds'). Laid BY PROGRAM, IN A SANDBOX (cutbox-door.mjs). By AI agents, Wed Nov 11 2026. No macro, syntax, notation, axiom, sorry.
-/
import Derived.Test.YtbkgpcknakidkaaGreatDoorRows
import GoSem.ClaimSeven
namespace Go.Proofs.YtbkgpcknakidkaaGreatDoor
namespace Rows

/-- THE TIED CARD OF 'wagonpoollaw22.EditionsGood'. -/
def editionsGoodCard : Claim7 := { stood := { row := editionsGoodRow, standIns := [], harness := (true, "6488f0a9aab4fe9ef1a6a6ba27ce4482ca39d24c000ec1af8753be1490dc8f73"), looks := true }, kinds := [], alts := [], laidByText := true, laidKinds := [.data, .data, .data, .data, .listed, .data, .mapped, .mapped, .pinned], laidTests := true, laidLooks := .later }
def EditionsGoodCardSaid : Prop := Claim7.holds Tryz.pinned (.plain (OpenSpec.ofChange editionsGoodSpec)) editionsGoodCard

/-- THE TIED CARD OF 'wagonpoollaw22.EditionsAmend'. -/
def editionsAmendCard : Claim7 := { stood := { row := editionsAmendRow, standIns := [], harness := (true, "6488f0a9aab4fe9ef1a6a6ba27ce4482ca39d24c000ec1af8753be1490dc8f73"), looks := true }, kinds := [], alts := [], laidByText := true, laidKinds := [.data, .data, .data, .data, .listed, .data, .mapped, .mapped, .pinned], laidTests := true, laidLooks := .later }
def EditionsAmendCardSaid : Prop := Claim7.holds Tryz.pinned (.plain (OpenSpec.ofChange editionsAmendSpec)) editionsAmendCard

/-- THE SECOND FORM's CARD OF 'wagonpoollaw22.EditionsGood'. -/
def editionsGoodUptoCard : Claim7 := { stood := { row := editionsGoodUptoRow, standIns := [], harness := (true, "6488f0a9aab4fe9ef1a6a6ba27ce4482ca39d24c000ec1af8753be1490dc8f73"), looks := true }, kinds := [], alts := [], laidByText := true, laidKinds := [.data, .data, .data, .data, .listed, .data, .mapped, .mapped, .pinned], laidTests := true, laidLooks := .later }
def EditionsGoodUptoCardSaid : Prop := Claim7.holds Tryz.pinned (.plain (OpenSpec.upto editionsGoodSpec)) editionsGoodUptoCard

/-- THE SECOND FORM's CARD OF 'wagonpoollaw22.EditionsAmend'. -/
def editionsAmendUptoCard : Claim7 := { stood := { row := editionsAmendUptoRow, standIns := [], harness := (true, "6488f0a9aab4fe9ef1a6a6ba27ce4482ca39d24c000ec1af8753be1490dc8f73"), looks := true }, kinds := [], alts := [], laidByText := true, laidKinds := [.data, .data, .data, .data, .listed, .data, .mapped, .mapped, .pinned], laidTests := true, laidLooks := .later }
def EditionsAmendUptoCardSaid : Prop := Claim7.holds Tryz.pinned (.plain (OpenSpec.upto editionsAmendSpec)) editionsAmendUptoCard
end Rows
end Go.Proofs.YtbkgpcknakidkaaGreatDoor
