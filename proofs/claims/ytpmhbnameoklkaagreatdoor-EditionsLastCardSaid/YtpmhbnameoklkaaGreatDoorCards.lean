/-
  DERIVED. GIVEN WITH THE SEED: THE CARDS: each row of YtpmhbnameoklkaaGreatDoorRows.lean that lists a variable, with what it lists TIED to the program's text (the seventh form; the later family's looks); each row that meets fmt, with fmt's text TOLD by the authors' own Lean function (tested against real Go, not proved from fmt's source: count such statements apart). THE CARD IS WHAT COUNTS. Prove the row's statement (the work); the ties are given (YtpmhbnameoklkaaGreatDoorTie.lean); close each card by the builder's one call (the guide's Derived/Test/ToyasCard.lean, 'card_holds'). Laid BY PROGRAM, IN A SANDBOX (cutbox-door.mjs). By AI agents, Wed Nov 11 2026. No macro, syntax, notation, axiom, sorry.
-/
import Derived.Test.YtpmhbnameoklkaaGreatDoorRows
import GoSem.ClaimSeven
namespace Go.Proofs.YtpmhbnameoklkaaGreatDoor
namespace Rows

/-- THE TIED CARD OF 'wagonpoollaw22.EditionsMatchesReference'. -/
def editionsMatchesReferenceCard : Claim7 := { stood := { row := editionsMatchesReferenceRow, standIns := [], harness := (true, "1d3dfa4aa572b2fe794702d35ba00370b457a21f3f06aa294548a69039eb282a"), looks := true }, kinds := [], alts := [], laidByText := true, laidKinds := [.data, .data, .data, .data, .listed, .data, .mapped, .mapped, .pinned], laidTests := true, laidLooks := .later }
def EditionsMatchesReferenceCardSaid : Prop := Claim7.holds Tryz.pinned (.plain (OpenSpec.ofChange editionsMatchesReferenceSpec)) editionsMatchesReferenceCard

/-- THE TIED CARD OF 'wagonpoollaw22.EditionsGood'. -/
def editionsGoodCard : Claim7 := { stood := { row := editionsGoodRow, standIns := [], harness := (true, "1d3dfa4aa572b2fe794702d35ba00370b457a21f3f06aa294548a69039eb282a"), looks := true }, kinds := [], alts := [], laidByText := true, laidKinds := [.data, .data, .data, .data, .listed, .data, .mapped, .mapped, .pinned], laidTests := true, laidLooks := .later }
def EditionsGoodCardSaid : Prop := Claim7.holds Tryz.pinned (.plain (OpenSpec.ofChange editionsGoodSpec)) editionsGoodCard

/-- THE TIED CARD OF 'wagonpoollaw22.EditionsOrder'. -/
def editionsOrderCard : Claim7 := { stood := { row := editionsOrderRow, standIns := [], harness := (true, "1d3dfa4aa572b2fe794702d35ba00370b457a21f3f06aa294548a69039eb282a"), looks := true }, kinds := [], alts := [], laidByText := true, laidKinds := [.data, .data, .data, .data, .listed, .data, .mapped, .mapped, .pinned], laidTests := true, laidLooks := .later }
def EditionsOrderCardSaid : Prop := Claim7.holds Tryz.pinned (.plain (OpenSpec.ofChange editionsOrderSpec)) editionsOrderCard

/-- THE TIED CARD OF 'wagonpoollaw22.EditionsSteps'. -/
def editionsStepsCard : Claim7 := { stood := { row := editionsStepsRow, standIns := [], harness := (true, "1d3dfa4aa572b2fe794702d35ba00370b457a21f3f06aa294548a69039eb282a"), looks := true }, kinds := [], alts := [], laidByText := true, laidKinds := [.data, .data, .data, .data, .listed, .data, .mapped, .mapped, .pinned], laidTests := true, laidLooks := .later }
def EditionsStepsCardSaid : Prop := Claim7.holds Tryz.pinned (.plain (OpenSpec.ofChange editionsStepsSpec)) editionsStepsCard

/-- THE TIED CARD OF 'wagonpoollaw22.EditionsLast'. -/
def editionsLastCard : Claim7 := { stood := { row := editionsLastRow, standIns := [], harness := (true, "1d3dfa4aa572b2fe794702d35ba00370b457a21f3f06aa294548a69039eb282a"), looks := true }, kinds := [], alts := [], laidByText := true, laidKinds := [.data, .data, .data, .data, .listed, .data, .mapped, .mapped, .pinned], laidTests := true, laidLooks := .later }
def EditionsLastCardSaid : Prop := Claim7.holds Tryz.pinned (.plain (OpenSpec.ofChange editionsLastSpec)) editionsLastCard

/-- THE TIED CARD OF 'wagonpoollaw22.EditionsAmend'. -/
def editionsAmendCard : Claim7 := { stood := { row := editionsAmendRow, standIns := [], harness := (true, "1d3dfa4aa572b2fe794702d35ba00370b457a21f3f06aa294548a69039eb282a"), looks := true }, kinds := [], alts := [], laidByText := true, laidKinds := [.data, .data, .data, .data, .listed, .data, .mapped, .mapped, .pinned], laidTests := true, laidLooks := .later }
def EditionsAmendCardSaid : Prop := Claim7.holds Tryz.pinned (.plain (OpenSpec.ofChange editionsAmendSpec)) editionsAmendCard

/-- THE TIED CARD OF 'wagonpoollaw22.EditionsCompiles'. -/
def editionsCompilesCard : Claim7 := { stood := { row := editionsCompilesRow, standIns := [], harness := (true, "1d3dfa4aa572b2fe794702d35ba00370b457a21f3f06aa294548a69039eb282a"), looks := true }, kinds := [], alts := [], laidByText := true, laidKinds := [.data, .data, .data, .data, .listed, .data, .mapped, .mapped, .pinned], laidTests := true, laidLooks := .later }
def EditionsCompilesCardSaid : Prop := Claim7.holds Tryz.pinned (.plain (OpenSpec.ofChange editionsCompilesSpec)) editionsCompilesCard

/-- THE SECOND FORM's CARD OF 'wagonpoollaw22.EditionsMatchesReference'. -/
def editionsMatchesReferenceUptoCard : Claim7 := { stood := { row := editionsMatchesReferenceUptoRow, standIns := [], harness := (true, "1d3dfa4aa572b2fe794702d35ba00370b457a21f3f06aa294548a69039eb282a"), looks := true }, kinds := [], alts := [], laidByText := true, laidKinds := [.data, .data, .data, .data, .listed, .data, .mapped, .mapped, .pinned], laidTests := true, laidLooks := .later }
def EditionsMatchesReferenceUptoCardSaid : Prop := Claim7.holds Tryz.pinned (.plain (OpenSpec.upto editionsMatchesReferenceSpec)) editionsMatchesReferenceUptoCard

/-- THE SECOND FORM's CARD OF 'wagonpoollaw22.EditionsGood'. -/
def editionsGoodUptoCard : Claim7 := { stood := { row := editionsGoodUptoRow, standIns := [], harness := (true, "1d3dfa4aa572b2fe794702d35ba00370b457a21f3f06aa294548a69039eb282a"), looks := true }, kinds := [], alts := [], laidByText := true, laidKinds := [.data, .data, .data, .data, .listed, .data, .mapped, .mapped, .pinned], laidTests := true, laidLooks := .later }
def EditionsGoodUptoCardSaid : Prop := Claim7.holds Tryz.pinned (.plain (OpenSpec.upto editionsGoodSpec)) editionsGoodUptoCard

/-- THE SECOND FORM's CARD OF 'wagonpoollaw22.EditionsOrder'. -/
def editionsOrderUptoCard : Claim7 := { stood := { row := editionsOrderUptoRow, standIns := [], harness := (true, "1d3dfa4aa572b2fe794702d35ba00370b457a21f3f06aa294548a69039eb282a"), looks := true }, kinds := [], alts := [], laidByText := true, laidKinds := [.data, .data, .data, .data, .listed, .data, .mapped, .mapped, .pinned], laidTests := true, laidLooks := .later }
def EditionsOrderUptoCardSaid : Prop := Claim7.holds Tryz.pinned (.plain (OpenSpec.upto editionsOrderSpec)) editionsOrderUptoCard

/-- THE SECOND FORM's CARD OF 'wagonpoollaw22.EditionsSteps'. -/
def editionsStepsUptoCard : Claim7 := { stood := { row := editionsStepsUptoRow, standIns := [], harness := (true, "1d3dfa4aa572b2fe794702d35ba00370b457a21f3f06aa294548a69039eb282a"), looks := true }, kinds := [], alts := [], laidByText := true, laidKinds := [.data, .data, .data, .data, .listed, .data, .mapped, .mapped, .pinned], laidTests := true, laidLooks := .later }
def EditionsStepsUptoCardSaid : Prop := Claim7.holds Tryz.pinned (.plain (OpenSpec.upto editionsStepsSpec)) editionsStepsUptoCard

/-- THE SECOND FORM's CARD OF 'wagonpoollaw22.EditionsLast'. -/
def editionsLastUptoCard : Claim7 := { stood := { row := editionsLastUptoRow, standIns := [], harness := (true, "1d3dfa4aa572b2fe794702d35ba00370b457a21f3f06aa294548a69039eb282a"), looks := true }, kinds := [], alts := [], laidByText := true, laidKinds := [.data, .data, .data, .data, .listed, .data, .mapped, .mapped, .pinned], laidTests := true, laidLooks := .later }
def EditionsLastUptoCardSaid : Prop := Claim7.holds Tryz.pinned (.plain (OpenSpec.upto editionsLastSpec)) editionsLastUptoCard

/-- THE SECOND FORM's CARD OF 'wagonpoollaw22.EditionsAmend'. -/
def editionsAmendUptoCard : Claim7 := { stood := { row := editionsAmendUptoRow, standIns := [], harness := (true, "1d3dfa4aa572b2fe794702d35ba00370b457a21f3f06aa294548a69039eb282a"), looks := true }, kinds := [], alts := [], laidByText := true, laidKinds := [.data, .data, .data, .data, .listed, .data, .mapped, .mapped, .pinned], laidTests := true, laidLooks := .later }
def EditionsAmendUptoCardSaid : Prop := Claim7.holds Tryz.pinned (.plain (OpenSpec.upto editionsAmendSpec)) editionsAmendUptoCard

/-- THE SECOND FORM's CARD OF 'wagonpoollaw22.EditionsCompiles'. -/
def editionsCompilesUptoCard : Claim7 := { stood := { row := editionsCompilesUptoRow, standIns := [], harness := (true, "1d3dfa4aa572b2fe794702d35ba00370b457a21f3f06aa294548a69039eb282a"), looks := true }, kinds := [], alts := [], laidByText := true, laidKinds := [.data, .data, .data, .data, .listed, .data, .mapped, .mapped, .pinned], laidTests := true, laidLooks := .later }
def EditionsCompilesUptoCardSaid : Prop := Claim7.holds Tryz.pinned (.plain (OpenSpec.upto editionsCompilesSpec)) editionsCompilesUptoCard
end Rows
end Go.Proofs.YtpmhbnameoklkaaGreatDoor
