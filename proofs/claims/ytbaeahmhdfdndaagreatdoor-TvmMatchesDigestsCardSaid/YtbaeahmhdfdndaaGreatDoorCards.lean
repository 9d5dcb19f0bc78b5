/-
  DERIVED. GIVEN WITH THE SEED: THE CARDS: each row of YtbaeahmhdfdndaaGreatDoorRows.lean that lists a variable, with what it lists TIED to the program's text (the seventh form; the later family's looks); each row that meets fmt, with fmt's text TOLD by the authors' own Lean function (tested against real Go, not proved from fmt's source: count such statements apart). THE CARD IS WHAT COUNTS. Prove the row's statement (the work); the ties are given (YtbaeahmhdfdndaaGreatDoorTie.lean); close each card by the builder's one call (the guide's Derived/Test/ToyasCard.lean, 'card_holds'). Laid BY PROGRAM, IN A SANDBOX (cutbox-door.mjs). By AI agents, Wed Nov 11 2026. No macro, syntax, notation, axiom, sorry.
-/
import Derived.Test.YtbaeahmhdfdndaaGreatDoorRows
import GoSem.ClaimSeven
namespace Go.Proofs.YtbaeahmhdfdndaaGreatDoor
namespace Rows

/-- THE TIED CARD OF 'wagonpoollaw21.TvmMatchesDigests'. -/
def tvmMatchesDigestsCard : Claim7 := { stood := { row := tvmMatchesDigestsRow, standIns := [], harness := (true, "a980d4a7b916369c1db714cb0599bafe7e1d7be7b29b44f52ce8188f9247d361"), looks := false }, kinds := [], alts := [], laidByText := true, laidKinds := [.data, .funcs], laidTests := true, laidLooks := .later }
def TvmMatchesDigestsCardSaid : Prop := Claim7.holds Tryz.pinned (.plain (OpenSpec.ofChange tvmMatchesDigestsSpec)) tvmMatchesDigestsCard

/-- THE SECOND FORM's CARD OF 'wagonpoollaw21.TvmMatchesDigests'. -/
def tvmMatchesDigestsUptoCard : Claim7 := { stood := { row := tvmMatchesDigestsUptoRow, standIns := [], harness := (true, "a980d4a7b916369c1db714cb0599bafe7e1d7be7b29b44f52ce8188f9247d361"), looks := false }, kinds := [], alts := [], laidByText := true, laidKinds := [.data, .funcs], laidTests := true, laidLooks := .later }
def TvmMatchesDigestsUptoCardSaid : Prop := Claim7.holds Tryz.pinned (.plain (OpenSpec.upto tvmMatchesDigestsSpec)) tvmMatchesDigestsUptoCard
end Rows
end Go.Proofs.YtbaeahmhdfdndaaGreatDoor
