/-
  DERIVED. GIVEN WITH THE SEED: THE CARDS: each row of YtddgkebdlgglaaaGreatDoorRows.lean that lists a variable, with what it lists TIED to the program's text (the seventh form; the later family's looks); each row that meets fmt, with fmt's text TOLD by the authors' own Lean function (tested against real Go, not proved from fmt's source: count such statements apart). THE CARD IS WHAT COUNTS. Prove the row's statement (the work); the ties are given (YtddgkebdlgglaaaGreatDoorTie.lean); close each card by the builder's one call (the guide's Derived/Test/ToyasCard.lean, 'card_holds'). Laid BY PROGRAM, IN A SANDBOX (cutbox-door.mjs). By AI agents, Wed Nov 11 2026. No macro, syntax, notation, axiom, sorry.
-/
import Derived.Test.YtddgkebdlgglaaaGreatDoorRows
import GoSem.ClaimSeven
namespace Go.Proofs.YtddgkebdlgglaaaGreatDoor
namespace Rows

/-- THE TIED CARD OF 'wagonpoollaw17.TtypePrinted'. -/
def ttypePrintedCard : Claim7 := { stood := { row := ttypePrintedRow, standIns := [], harness := (true, "b8b66563b5afd0b9e131394a0da3adafbacf6e1cd5f7fcf29604f96349539b70"), looks := true }, kinds := [], alts := [], laidByText := true, laidKinds := [.data, .data, .data, .data, .listed, .data, .mapped, .mapped, .pinned], laidTests := true, laidLooks := .later }
def TtypePrintedCardSaid : Prop := Claim7.holds Tryz.pinned (.plain (OpenSpec.ofChange ttypePrintedSpec)) ttypePrintedCard

/-- THE TIED CARD OF 'wagonpoollaw18.TevalSource'. -/
def tevalSourceCard : Claim7 := { stood := { row := tevalSourceRow, standIns := [], harness := (true, "b8b66563b5afd0b9e131394a0da3adafbacf6e1cd5f7fcf29604f96349539b70"), looks := true }, kinds := [], alts := [], laidByText := true, laidKinds := [.data, .data, .data, .data, .listed, .data, .mapped, .mapped, .pinned], laidTests := true, laidLooks := .later }
def TevalSourceCardSaid : Prop := Claim7.holds Tryz.pinned (.plain (OpenSpec.ofChange tevalSourceSpec)) tevalSourceCard

/-- THE TIED CARD OF 'wagonpoollaw18.TevalDemurrage'. -/
def tevalDemurrageCard : Claim7 := { stood := { row := tevalDemurrageRow, standIns := [], harness := (true, "b8b66563b5afd0b9e131394a0da3adafbacf6e1cd5f7fcf29604f96349539b70"), looks := true }, kinds := [], alts := [], laidByText := true, laidKinds := [.data, .data, .data, .data, .listed, .data, .mapped, .mapped, .pinned], laidTests := true, laidLooks := .later }
def TevalDemurrageCardSaid : Prop := Claim7.holds Tryz.pinned (.plain (OpenSpec.ofChange tevalDemurrageSpec)) tevalDemurrageCard

/-- THE SECOND FORM's CARD OF 'wagonpoollaw17.TtypePrinted'. -/
def ttypePrintedUptoCard : Claim7 := { stood := { row := ttypePrintedUptoRow, standIns := [], harness := (true, "b8b66563b5afd0b9e131394a0da3adafbacf6e1cd5f7fcf29604f96349539b70"), looks := true }, kinds := [], alts := [], laidByText := true, laidKinds := [.data, .data, .data, .data, .listed, .data, .mapped, .mapped, .pinned], laidTests := true, laidLooks := .later }
def TtypePrintedUptoCardSaid : Prop := Claim7.holds Tryz.pinned (.plain (OpenSpec.upto ttypePrintedSpec)) ttypePrintedUptoCard

/-- THE SECOND FORM's CARD OF 'wagonpoollaw18.TevalSource'. -/
def tevalSourceUptoCard : Claim7 := { stood := { row := tevalSourceUptoRow, standIns := [], harness := (true, "b8b66563b5afd0b9e131394a0da3adafbacf6e1cd5f7fcf29604f96349539b70"), looks := true }, kinds := [], alts := [], laidByText := true, laidKinds := [.data, .data, .data, .data, .listed, .data, .mapped, .mapped, .pinned], laidTests := true, laidLooks := .later }
def TevalSourceUptoCardSaid : Prop := Claim7.holds Tryz.pinned (.plain (OpenSpec.upto tevalSourceSpec)) tevalSourceUptoCard

/-- THE SECOND FORM's CARD OF 'wagonpoollaw18.TevalDemurrage'. -/
def tevalDemurrageUptoCard : Claim7 := { stood := { row := tevalDemurrageUptoRow, standIns := [], harness := (true, "b8b66563b5afd0b9e131394a0da3adafbacf6e1cd5f7fcf29604f96349539b70"), looks := true }, kinds := [], alts := [], laidByText := true, laidKinds := [.data, .data, .data, .data, .listed, .data, .mapped, .mapped, .pinned], laidTests := true, laidLooks := .later }
def TevalDemurrageUptoCardSaid : Prop := Claim7.holds Tryz.pinned (.plain (OpenSpec.upto tevalDemurrageSpec)) tevalDemurrageUptoCard
end Rows
end Go.Proofs.YtddgkebdlgglaaaGreatDoor
