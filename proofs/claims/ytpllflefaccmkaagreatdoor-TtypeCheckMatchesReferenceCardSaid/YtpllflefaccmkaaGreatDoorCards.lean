/-
  DERIVED. GIVEN WITH THE SEED: THE CARDS: each row of YtpllflefaccmkaaGreatDoorRows.lean that lists a variable, with what it lists TIED to the program's text (the seventh form; the later family's looks); each row that meets fmt, with fmt's text TOLD by the authors' own Lean function (tested against real Go, not proved from fmt's source: count such statements apart). THE CARD IS WHAT COUNTS. Prove the row's statement (the work); the ties are given (YtpllflefaccmkaaGreatDoorTie.lean); close each card by the builder's one call (the guide's Derived/Test/ToyasCard.lean, 'card_holds'). Laid BY PROGRAM, IN A SANDBOX (cutbox-door.mjs). By AI agents, Wed Nov 11 2026. No macro, syntax, notation, axiom, sorry.
-/
import Derived.Test.YtpllflefaccmkaaGreatDoorRows
import GoSem.ClaimSeven
namespace Go.Proofs.YtpllflefaccmkaaGreatDoor
namespace Rows

/-- THE TIED CARD OF 'wagonpoollaw17.TtypeCheckMatchesReference'. -/
def ttypeCheckMatchesReferenceCard : Claim7 := { stood := { row := ttypeCheckMatchesReferenceRow, standIns := [], harness := (true, "dd655a8f4eb2405271853c5b8d35e991f0eeff459b110dadd45211db8afb1210"), looks := true }, kinds := [], alts := [], laidByText := true, laidKinds := [.data, .listed, .data, .mapped, .mapped, .pinned], laidTests := true, laidLooks := .later }
def TtypeCheckMatchesReferenceCardSaid : Prop := Claim7.holds Tryz.pinned (.plain (OpenSpec.ofChange ttypeCheckMatchesReferenceSpec)) ttypeCheckMatchesReferenceCard

/-- THE TIED CARD OF 'wagonpoollaw17.TtypePrinted'. -/
def ttypePrintedCard : Claim7 := { stood := { row := ttypePrintedRow, standIns := [], harness := (true, "dd655a8f4eb2405271853c5b8d35e991f0eeff459b110dadd45211db8afb1210"), looks := true }, kinds := [], alts := [], laidByText := true, laidKinds := [.data, .data, .data, .data, .listed, .data, .mapped, .mapped, .pinned], laidTests := true, laidLooks := .later }
def TtypePrintedCardSaid : Prop := Claim7.holds Tryz.pinned (.plain (OpenSpec.ofChange ttypePrintedSpec)) ttypePrintedCard

/-- THE SECOND FORM's CARD OF 'wagonpoollaw17.TtypeCheckMatchesReference'. -/
def ttypeCheckMatchesReferenceUptoCard : Claim7 := { stood := { row := ttypeCheckMatchesReferenceUptoRow, standIns := [], harness := (true, "dd655a8f4eb2405271853c5b8d35e991f0eeff459b110dadd45211db8afb1210"), looks := true }, kinds := [], alts := [], laidByText := true, laidKinds := [.data, .listed, .data, .mapped, .mapped, .pinned], laidTests := true, laidLooks := .later }
def TtypeCheckMatchesReferenceUptoCardSaid : Prop := Claim7.holds Tryz.pinned (.plain (OpenSpec.upto ttypeCheckMatchesReferenceSpec)) ttypeCheckMatchesReferenceUptoCard

/-- THE SECOND FORM's CARD OF 'wagonpoollaw17.TtypePrinted'. -/
def ttypePrintedUptoCard : Claim7 := { stood := { row := ttypePrintedUptoRow, standIns := [], harness := (true, "dd655a8f4eb2405271853c5b8d35e991f0eeff459b110dadd45211db8afb1210"), looks := true }, kinds := [], alts := [], laidByText := true, laidKinds := [.data, .data, .data, .data, .listed, .data, .mapped, .mapped, .pinned], laidTests := true, laidLooks := .later }
def TtypePrintedUptoCardSaid : Prop := Claim7.holds Tryz.pinned (.plain (OpenSpec.upto ttypePrintedSpec)) ttypePrintedUptoCard
end Rows
end Go.Proofs.YtpllflefaccmkaaGreatDoor
