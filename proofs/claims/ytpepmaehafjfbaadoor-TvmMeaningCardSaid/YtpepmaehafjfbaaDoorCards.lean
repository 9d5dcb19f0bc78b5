/-
  DERIVED. GIVEN WITH THE SEED: THE CARDS: each row of YtpepmaehafjfbaaDoorRows.lean that lists a variable, with what it lists TIED to the program's text (the seventh form; the later family's looks); each row that meets fmt, with fmt's text TOLD by the authors' own Lean function (tested against real Go, not proved from fmt's source: count such statements apart). THE CARD IS WHAT COUNTS. Prove the row's statement (the work); the ties are given (YtpepmaehafjfbaaDoorTie.lean); close each card by the builder's one call (the guide's Derived/Test/ToyasCard.lean, 'card_holds'). Laid BY PROGRAM, IN A SANDBOX (cutbox-door.mjs). By AI agents, Wed Nov 11 2026. No macro, syntax, notation, axiom, sorry.
-/
import Derived.Test.YtpepmaehafjfbaaDoorRows
import GoSem.ClaimSeven
namespace Go.Proofs.YtpepmaehafjfbaaDoor
namespace Rows

/-- THE TIED CARD OF 'wagonpoollaw21.TvmMeaning'. -/
def tvmMeaningCard : Claim7 := { stood := { row := tvmMeaningRow, standIns := [], harness := (true, "e33631527e653db4dba928defb7d68c692c100a1d2e588e7d38a96f9c962741f"), looks := true }, kinds := [], alts := [], laidByText := true, laidKinds := [.data, .mapped, .funcs, .pinned], laidTests := true, laidLooks := .later }
def TvmMeaningCardSaid : Prop := Claim7.holds Tryd.pinned (.plain (OpenSpec.ofChange tvmMeaningSpec)) tvmMeaningCard

/-- THE SECOND FORM's CARD OF 'wagonpoollaw21.TvmMeaning'. -/
def tvmMeaningUptoCard : Claim7 := { stood := { row := tvmMeaningUptoRow, standIns := [], harness := (true, "e33631527e653db4dba928defb7d68c692c100a1d2e588e7d38a96f9c962741f"), looks := true }, kinds := [], alts := [], laidByText := true, laidKinds := [.data, .mapped, .funcs, .pinned], laidTests := true, laidLooks := .later }
def TvmMeaningUptoCardSaid : Prop := Claim7.holds Tryd.pinned (.plain (OpenSpec.upto tvmMeaningSpec)) tvmMeaningUptoCard
end Rows
end Go.Proofs.YtpepmaehafjfbaaDoor
