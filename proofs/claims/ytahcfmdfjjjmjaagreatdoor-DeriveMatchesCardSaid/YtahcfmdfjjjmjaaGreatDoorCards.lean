/-
  DERIVED. GIVEN WITH THE SEED: THE CARDS: each row of YtahcfmdfjjjmjaaGreatDoorRows.lean that lists a variable, with what it lists TIED to the program's text (the seventh form; the later family's looks); each row that meets fmt, with fmt's text TOLD by the authors' own Lean function (tested against real Go, not proved from fmt's source: count such statements apart). THE CARD IS WHAT COUNTS. Prove the row's statement (the work); the ties are given (YtahcfmdfjjjmjaaGreatDoorTie.lean); close each card by the builder's one call (the guide's Derived/Test/ToyasCard.lean, 'card_holds'). Laid BY PROGRAM, IN A SANDBOX (cutbox-door.mjs). By AI agents, Wed Nov 11 2026. No macro, syntax, notation, axiom, sorry.
-/
import Derived.Test.YtahcfmdfjjjmjaaGreatDoorRows
import GoSem.ClaimSeven
namespace Go.Proofs.YtahcfmdfjjjmjaaGreatDoor
namespace Rows

/-- THE TIED CARD OF 'wagonpoollaw30.DeriveMatches'. -/
def deriveMatchesCard : Claim7 := { stood := { row := deriveMatchesRow, standIns := [], harness := (true, "6ad3788ce570272f8064151a6981ddf85a5656d3e07d7d36f781397f54282f63"), looks := true }, kinds := [], alts := [], laidByText := true, laidKinds := [.data, .data, .data, .funcs], laidTests := true, laidLooks := .later }
def DeriveMatchesCardSaid : Prop := Claim7.holds Tryz.pinned (.plain (OpenSpec.ofChange deriveMatchesSpec)) deriveMatchesCard
end Rows
end Go.Proofs.YtahcfmdfjjjmjaaGreatDoor
