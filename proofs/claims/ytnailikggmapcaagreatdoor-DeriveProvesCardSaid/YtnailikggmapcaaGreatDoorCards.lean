/-
  DERIVED. GIVEN WITH THE SEED: THE CARDS: each row of YtnailikggmapcaaGreatDoorRows.lean that lists a variable, with what it lists TIED to the program's text (the seventh form; the later family's looks); each row that meets fmt, with fmt's text TOLD by the authors' own Lean function (tested against real Go, not proved from fmt's source: count such statements apart). THE CARD IS WHAT COUNTS. Prove the row's statement (the work); the ties are given (YtnailikggmapcaaGreatDoorTie.lean); close each card by the builder's one call (the guide's Derived/Test/ToyasCard.lean, 'card_holds'). Laid BY PROGRAM, IN A SANDBOX (cutbox-door.mjs). By AI agents, Wed Nov 11 2026. No macro, syntax, notation, axiom, sorry.
-/
import Derived.Test.YtnailikggmapcaaGreatDoorRows
import GoSem.ClaimSeven
namespace Go.Proofs.YtnailikggmapcaaGreatDoor
namespace Rows

/-- THE TIED CARD OF 'wagonpoollaw30.DeriveChecks'. -/
def deriveChecksCard : Claim7 := { stood := { row := deriveChecksRow, standIns := [], harness := (true, "99306d6463f243287e3678710cf00fbac9e130cc170b65ed839d676a7bca4f89"), looks := true }, kinds := [], alts := [], laidByText := true, laidKinds := [.data, .data, .data, .funcs], laidTests := true, laidLooks := .later }
def DeriveChecksCardSaid : Prop := Claim7.holds Tryz.pinned (.plain (OpenSpec.ofChange deriveChecksSpec)) deriveChecksCard

/-- THE TIED CARD OF 'wagonpoollaw30.DeriveSteps'. -/
def deriveStepsCard : Claim7 := { stood := { row := deriveStepsRow, standIns := [], harness := (true, "99306d6463f243287e3678710cf00fbac9e130cc170b65ed839d676a7bca4f89"), looks := true }, kinds := [], alts := [], laidByText := true, laidKinds := [.data, .data, .data, .funcs], laidTests := true, laidLooks := .later }
def DeriveStepsCardSaid : Prop := Claim7.holds Tryz.pinned (.plain (OpenSpec.ofChange deriveStepsSpec)) deriveStepsCard

/-- THE TIED CARD OF 'wagonpoollaw30.DeriveDiscloses'. -/
def deriveDisclosesCard : Claim7 := { stood := { row := deriveDisclosesRow, standIns := [], harness := (true, "99306d6463f243287e3678710cf00fbac9e130cc170b65ed839d676a7bca4f89"), looks := true }, kinds := [], alts := [], laidByText := true, laidKinds := [.data, .data, .data, .funcs], laidTests := true, laidLooks := .later }
def DeriveDisclosesCardSaid : Prop := Claim7.holds Tryz.pinned (.plain (OpenSpec.ofChange deriveDisclosesSpec)) deriveDisclosesCard

/-- THE TIED CARD OF 'wagonpoollaw30.DeriveProves'. -/
def deriveProvesCard : Claim7 := { stood := { row := deriveProvesRow, standIns := [], harness := (true, "99306d6463f243287e3678710cf00fbac9e130cc170b65ed839d676a7bca4f89"), looks := true }, kinds := [], alts := [], laidByText := true, laidKinds := [.data, .data, .data, .funcs], laidTests := true, laidLooks := .later }
def DeriveProvesCardSaid : Prop := Claim7.holds Tryz.pinned (.plain (OpenSpec.ofChange deriveProvesSpec)) deriveProvesCard

/-- THE SECOND FORM's CARD OF 'wagonpoollaw30.DeriveChecks'. -/
def deriveChecksUptoCard : Claim7 := { stood := { row := deriveChecksUptoRow, standIns := [], harness := (true, "99306d6463f243287e3678710cf00fbac9e130cc170b65ed839d676a7bca4f89"), looks := true }, kinds := [], alts := [], laidByText := true, laidKinds := [.data, .data, .data, .funcs], laidTests := true, laidLooks := .later }
def DeriveChecksUptoCardSaid : Prop := Claim7.holds Tryz.pinned (.plain (OpenSpec.upto deriveChecksSpec)) deriveChecksUptoCard
end Rows
end Go.Proofs.YtnailikggmapcaaGreatDoor
