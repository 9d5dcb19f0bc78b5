/-
  DERIVED. GIVEN WITH THE SEED: THE CARDS: each row of YtcaomfbcchemnaaDoorRows.lean that lists a variable, with what it lists TIED to the program's text (the seventh form; the later family's looks); each row that meets fmt, with fmt's text TOLD by the authors' own Lean function (tested against real Go, not proved from fmt's source: count such statements apart). THE CARD IS WHAT COUNTS. Prove the row's statement (the work); the ties are given (YtcaomfbcchemnaaDoorTie.lean); close each card by the builder's one call (the guide's Derived/Test/ToyasCard.lean, 'card_holds'). Laid BY PROGRAM, IN A SANDBOX (cutbox-door.mjs). By AI agents, Wed Nov 11 2026. No macro, syntax, notation, axiom, sorry.
-/
import Derived.Test.YtcaomfbcchemnaaDoorRows
import GoSem.ClaimSeven
namespace Go.Proofs.YtcaomfbcchemnaaDoor
namespace Rows

/-- THE TIED CARD OF 'wagonpoollaw21.TvmEnds'. -/
def tvmEndsCard : Claim7 := { stood := { row := tvmEndsRow, standIns := [], harness := (true, "5a8e72c57796d9724aaf6177d7fa51cd9878c704aac07e52254c097161255700"), looks := false }, kinds := [], alts := [], laidByText := true, laidKinds := [.funcs], laidTests := true, laidLooks := .later }
def TvmEndsCardSaid : Prop := Claim7.holds Tryd.pinned (.plain (OpenSpec.ofChange tvmEndsSpec)) tvmEndsCard

/-- THE TIED CARD OF 'wagonpoollaw21.TvmMatches'. -/
def tvmMatchesCard : Claim7 := { stood := { row := tvmMatchesRow, standIns := [], harness := (true, "5a8e72c57796d9724aaf6177d7fa51cd9878c704aac07e52254c097161255700"), looks := false }, kinds := [], alts := [], laidByText := true, laidKinds := [.funcs], laidTests := true, laidLooks := .later }
def TvmMatchesCardSaid : Prop := Claim7.holds Tryd.pinned (.plain (OpenSpec.ofChange tvmMatchesSpec)) tvmMatchesCard

/-- THE TIED CARD OF 'wagonpoollaw21.TvmSteps'. -/
def tvmStepsCard : Claim7 := { stood := { row := tvmStepsRow, standIns := [], harness := (true, "5a8e72c57796d9724aaf6177d7fa51cd9878c704aac07e52254c097161255700"), looks := false }, kinds := [], alts := [], laidByText := true, laidKinds := [.funcs], laidTests := true, laidLooks := .later }
def TvmStepsCardSaid : Prop := Claim7.holds Tryd.pinned (.plain (OpenSpec.ofChange tvmStepsSpec)) tvmStepsCard

/-- THE TIED CARD OF 'wagonpoollaw21.TvmChains'. -/
def tvmChainsCard : Claim7 := { stood := { row := tvmChainsRow, standIns := [], harness := (true, "5a8e72c57796d9724aaf6177d7fa51cd9878c704aac07e52254c097161255700"), looks := false }, kinds := [], alts := [], laidByText := true, laidKinds := [.data, .funcs], laidTests := true, laidLooks := .later }
def TvmChainsCardSaid : Prop := Claim7.holds Tryd.pinned (.plain (OpenSpec.ofChange tvmChainsSpec)) tvmChainsCard

/-- THE TIED CARD OF 'wagonpoollaw21.TvmReveals'. -/
def tvmRevealsCard : Claim7 := { stood := { row := tvmRevealsRow, standIns := [], harness := (true, "5a8e72c57796d9724aaf6177d7fa51cd9878c704aac07e52254c097161255700"), looks := false }, kinds := [], alts := [], laidByText := true, laidKinds := [.data, .funcs], laidTests := true, laidLooks := .later }
def TvmRevealsCardSaid : Prop := Claim7.holds Tryd.pinned (.plain (OpenSpec.ofChange tvmRevealsSpec)) tvmRevealsCard

/-- THE SECOND FORM's CARD OF 'wagonpoollaw21.TvmEnds'. -/
def tvmEndsUptoCard : Claim7 := { stood := { row := tvmEndsUptoRow, standIns := [], harness := (true, "5a8e72c57796d9724aaf6177d7fa51cd9878c704aac07e52254c097161255700"), looks := false }, kinds := [], alts := [], laidByText := true, laidKinds := [.funcs], laidTests := true, laidLooks := .later }
def TvmEndsUptoCardSaid : Prop := Claim7.holds Tryd.pinned (.plain (OpenSpec.upto tvmEndsSpec)) tvmEndsUptoCard

/-- THE SECOND FORM's CARD OF 'wagonpoollaw21.TvmMatches'. -/
def tvmMatchesUptoCard : Claim7 := { stood := { row := tvmMatchesUptoRow, standIns := [], harness := (true, "5a8e72c57796d9724aaf6177d7fa51cd9878c704aac07e52254c097161255700"), looks := false }, kinds := [], alts := [], laidByText := true, laidKinds := [.funcs], laidTests := true, laidLooks := .later }
def TvmMatchesUptoCardSaid : Prop := Claim7.holds Tryd.pinned (.plain (OpenSpec.upto tvmMatchesSpec)) tvmMatchesUptoCard

/-- THE SECOND FORM's CARD OF 'wagonpoollaw21.TvmSteps'. -/
def tvmStepsUptoCard : Claim7 := { stood := { row := tvmStepsUptoRow, standIns := [], harness := (true, "5a8e72c57796d9724aaf6177d7fa51cd9878c704aac07e52254c097161255700"), looks := false }, kinds := [], alts := [], laidByText := true, laidKinds := [.funcs], laidTests := true, laidLooks := .later }
def TvmStepsUptoCardSaid : Prop := Claim7.holds Tryd.pinned (.plain (OpenSpec.upto tvmStepsSpec)) tvmStepsUptoCard

/-- THE SECOND FORM's CARD OF 'wagonpoollaw21.TvmChains'. -/
def tvmChainsUptoCard : Claim7 := { stood := { row := tvmChainsUptoRow, standIns := [], harness := (true, "5a8e72c57796d9724aaf6177d7fa51cd9878c704aac07e52254c097161255700"), looks := false }, kinds := [], alts := [], laidByText := true, laidKinds := [.data, .funcs], laidTests := true, laidLooks := .later }
def TvmChainsUptoCardSaid : Prop := Claim7.holds Tryd.pinned (.plain (OpenSpec.upto tvmChainsSpec)) tvmChainsUptoCard

/-- THE SECOND FORM's CARD OF 'wagonpoollaw21.TvmReveals'. -/
def tvmRevealsUptoCard : Claim7 := { stood := { row := tvmRevealsUptoRow, standIns := [], harness := (true, "5a8e72c57796d9724aaf6177d7fa51cd9878c704aac07e52254c097161255700"), looks := false }, kinds := [], alts := [], laidByText := true, laidKinds := [.data, .funcs], laidTests := true, laidLooks := .later }
def TvmRevealsUptoCardSaid : Prop := Claim7.holds Tryd.pinned (.plain (OpenSpec.upto tvmRevealsSpec)) tvmRevealsUptoCard
end Rows
end Go.Proofs.YtcaomfbcchemnaaDoor
