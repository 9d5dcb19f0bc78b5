/-
  DERIVED. GIVEN WITH THE SEED: THE CARDS: each row of YtpmkapclhlmbbaaGreatDoorRows.lean that lists a variable, with what it lists TIED to the program's text (the seventh form; the later family's looks); each row that meets fmt, with fmt's text TOLD by the authors' own Lean function (tested against real Go, not proved from fmt's source: count such statements apart). THE CARD IS WHAT COUNTS. Prove the row's statement (the work); the ties are given (YtpmkapclhlmbbaaGreatDoorTie.lean); close each card by the builder's one call (the guide's Derived/Test/ToyasCard.lean, 'card_holds'). Laid BY PROGRAM, IN A SANDBOX (cutbox-door.mjs). By AI agents, Wed Nov 11 2026. No macro, syntax, notation, axiom, sorry.
-/
import Derived.Test.YtpmkapclhlmbbaaGreatDoorRows
import GoSem.ClaimSeven
namespace Go.Proofs.YtpmkapclhlmbbaaGreatDoor
namespace Rows

/-- THE TIED CARD OF 'wagonpoollaw20.TcodeCompileMatchesReference'. -/
def tcodeCompileMatchesReferenceCard : Claim7 := { stood := { row := tcodeCompileMatchesReferenceRow, standIns := [], harness := (true, "c4d36a2424befea3e83faa70a958eb95ad5874525f598decf170b65f3b236d54"), looks := true }, kinds := [], alts := [], laidByText := true, laidKinds := [.data, .data, .data, .data, .sentinel, .sentinel, .listed, .data, .mapped, .mapped, .widerDeep, .pinned], laidTests := true, laidLooks := .later }
def TcodeCompileMatchesReferenceCardSaid : Prop := Claim7.holds Tryz.pinned (.plain (OpenSpec.ofChange tcodeCompileMatchesReferenceSpec)) tcodeCompileMatchesReferenceCard

/-- THE TIED CARD OF 'wagonpoollaw20.TcodeCompiledIsSafe'. -/
def tcodeCompiledIsSafeCard : Claim7 := { stood := { row := tcodeCompiledIsSafeRow, standIns := [], harness := (true, "c4d36a2424befea3e83faa70a958eb95ad5874525f598decf170b65f3b236d54"), looks := true }, kinds := [], alts := [], laidByText := true, laidKinds := [.data, .data, .data, .data, .sentinel, .sentinel, .listed, .data, .mapped, .mapped, .widerDeep, .pinned], laidTests := true, laidLooks := .later }
def TcodeCompiledIsSafeCardSaid : Prop := Claim7.holds Tryz.pinned (.plain (OpenSpec.ofChange tcodeCompiledIsSafeSpec)) tcodeCompiledIsSafeCard

/-- THE TIED CARD OF 'wagonpoollaw20.TcodeTextRoundTrip'. -/
def tcodeTextRoundTripCard : Claim7 := { stood := { row := tcodeTextRoundTripRow, standIns := [], harness := (true, "c4d36a2424befea3e83faa70a958eb95ad5874525f598decf170b65f3b236d54"), looks := true }, kinds := [], alts := [], laidByText := true, laidKinds := [.data, .data, .data, .data, .sentinel, .sentinel, .listed, .data, .mapped, .mapped, .widerDeep, .pinned], laidTests := true, laidLooks := .later }
def TcodeTextRoundTripCardSaid : Prop := Claim7.holds Tryz.pinned (.plain (OpenSpec.ofChange tcodeTextRoundTripSpec)) tcodeTextRoundTripCard

/-- THE TIED CARD OF 'wagonpoollaw20.TcodeFurtherClause'. -/
def tcodeFurtherClauseCard : Claim7 := { stood := { row := tcodeFurtherClauseRow, standIns := [], harness := (true, "c4d36a2424befea3e83faa70a958eb95ad5874525f598decf170b65f3b236d54"), looks := true }, kinds := [], alts := [], laidByText := true, laidKinds := [.data, .data, .data, .data, .sentinel, .sentinel, .listed, .data, .mapped, .mapped, .widerDeep, .pinned], laidTests := true, laidLooks := .later }
def TcodeFurtherClauseCardSaid : Prop := Claim7.holds Tryz.pinned (.plain (OpenSpec.ofChange tcodeFurtherClauseSpec)) tcodeFurtherClauseCard

/-- THE TIED CARD OF 'wagonpoollaw20.TcodeMeans'. -/
def tcodeMeansCard : Claim7 := { stood := { row := tcodeMeansRow, standIns := [], harness := (true, "c4d36a2424befea3e83faa70a958eb95ad5874525f598decf170b65f3b236d54"), looks := true }, kinds := [], alts := [], laidByText := true, laidKinds := [.data, .data, .data, .data, .sentinel, .sentinel, .listed, .data, .mapped, .mapped, .widerDeep, .pinned], laidTests := true, laidLooks := .later }
def TcodeMeansCardSaid : Prop := Claim7.holds Tryz.pinned (.plain (OpenSpec.ofChange tcodeMeansSpec)) tcodeMeansCard

/-- THE SECOND FORM's CARD OF 'wagonpoollaw20.TcodeCompileMatchesReference'. -/
def tcodeCompileMatchesReferenceUptoCard : Claim7 := { stood := { row := tcodeCompileMatchesReferenceUptoRow, standIns := [], harness := (true, "c4d36a2424befea3e83faa70a958eb95ad5874525f598decf170b65f3b236d54"), looks := true }, kinds := [], alts := [], laidByText := true, laidKinds := [.data, .data, .data, .data, .sentinel, .sentinel, .listed, .data, .mapped, .mapped, .widerDeep, .pinned], laidTests := true, laidLooks := .later }
def TcodeCompileMatchesReferenceUptoCardSaid : Prop := Claim7.holds Tryz.pinned (.plain (OpenSpec.upto tcodeCompileMatchesReferenceSpec)) tcodeCompileMatchesReferenceUptoCard

/-- THE SECOND FORM's CARD OF 'wagonpoollaw20.TcodeCompiledIsSafe'. -/
def tcodeCompiledIsSafeUptoCard : Claim7 := { stood := { row := tcodeCompiledIsSafeUptoRow, standIns := [], harness := (true, "c4d36a2424befea3e83faa70a958eb95ad5874525f598decf170b65f3b236d54"), looks := true }, kinds := [], alts := [], laidByText := true, laidKinds := [.data, .data, .data, .data, .sentinel, .sentinel, .listed, .data, .mapped, .mapped, .widerDeep, .pinned], laidTests := true, laidLooks := .later }
def TcodeCompiledIsSafeUptoCardSaid : Prop := Claim7.holds Tryz.pinned (.plain (OpenSpec.upto tcodeCompiledIsSafeSpec)) tcodeCompiledIsSafeUptoCard

/-- THE SECOND FORM's CARD OF 'wagonpoollaw20.TcodeTextRoundTrip'. -/
def tcodeTextRoundTripUptoCard : Claim7 := { stood := { row := tcodeTextRoundTripUptoRow, standIns := [], harness := (true, "c4d36a2424befea3e83faa70a958eb95ad5874525f598decf170b65f3b236d54"), looks := true }, kinds := [], alts := [], laidByText := true, laidKinds := [.data, .data, .data, .data, .sentinel, .sentinel, .listed, .data, .mapped, .mapped, .widerDeep, .pinned], laidTests := true, laidLooks := .later }
def TcodeTextRoundTripUptoCardSaid : Prop := Claim7.holds Tryz.pinned (.plain (OpenSpec.upto tcodeTextRoundTripSpec)) tcodeTextRoundTripUptoCard

/-- THE SECOND FORM's CARD OF 'wagonpoollaw20.TcodeFurtherClause'. -/
def tcodeFurtherClauseUptoCard : Claim7 := { stood := { row := tcodeFurtherClauseUptoRow, standIns := [], harness := (true, "c4d36a2424befea3e83faa70a958eb95ad5874525f598decf170b65f3b236d54"), looks := true }, kinds := [], alts := [], laidByText := true, laidKinds := [.data, .data, .data, .data, .sentinel, .sentinel, .listed, .data, .mapped, .mapped, .widerDeep, .pinned], laidTests := true, laidLooks := .later }
def TcodeFurtherClauseUptoCardSaid : Prop := Claim7.holds Tryz.pinned (.plain (OpenSpec.upto tcodeFurtherClauseSpec)) tcodeFurtherClauseUptoCard

/-- THE SECOND FORM's CARD OF 'wagonpoollaw20.TcodeMeans'. -/
def tcodeMeansUptoCard : Claim7 := { stood := { row := tcodeMeansUptoRow, standIns := [], harness := (true, "c4d36a2424befea3e83faa70a958eb95ad5874525f598decf170b65f3b236d54"), looks := true }, kinds := [], alts := [], laidByText := true, laidKinds := [.data, .data, .data, .data, .sentinel, .sentinel, .listed, .data, .mapped, .mapped, .widerDeep, .pinned], laidTests := true, laidLooks := .later }
def TcodeMeansUptoCardSaid : Prop := Claim7.holds Tryz.pinned (.plain (OpenSpec.upto tcodeMeansSpec)) tcodeMeansUptoCard
end Rows
end Go.Proofs.YtpmkapclhlmbbaaGreatDoor
