/-
  DERIVED. GIVEN WITH THE SEED: THE CARDS: each row of YtpllflefaccmkaaDoorRows.lean that lists a variable, with what it lists TIED to the program's text (the seventh form; the later family's looks); each row that meets fmt, with fmt's text TOLD by the authors' own Lean function (tested against real Go, not proved from fmt's source: count such statements apart). THE CARD IS WHAT COUNTS. Prove the row's statement (the work); the ties are given (YtpllflefaccmkaaDoorTie.lean); close each card by the builder's one call (the guide's Derived/Test/ToyasCard.lean, 'card_holds'). Laid BY PROGRAM, IN A SANDBOX (cutbox-door.mjs). By AI agents, Wed Nov 11 2026. No macro, syntax, notation, axiom, sorry.
-/
import Derived.Test.YtpllflefaccmkaaDoorRows
import GoSem.ClaimSeven
namespace Go.Proofs.YtpllflefaccmkaaDoor
namespace Rows

/-- THE TIED CARD OF 'wagonpoollaw17.TtypeUnitMatchesReference'. -/
def ttypeUnitMatchesReferenceCard : Claim7 := { stood := { row := ttypeUnitMatchesReferenceRow, standIns := [], harness := (true, "319295b78f067bf42d1153db93b93d949b27fa016a00b5624df1bcd9a0003e27"), looks := true }, kinds := [], alts := [], laidByText := true, laidKinds := [.data, .listed, .data, .mapped, .mapped, .pinned], laidTests := true, laidLooks := .later }
def TtypeUnitMatchesReferenceCardSaid : Prop := Claim7.holds Tryd.pinned (.plain (OpenSpec.ofChange ttypeUnitMatchesReferenceSpec)) ttypeUnitMatchesReferenceCard

/-- THE TIED CARD OF 'wagonpoollaw17.TtypeRules'. -/
def ttypeRulesCard : Claim7 := { stood := { row := ttypeRulesRow, standIns := [], harness := (true, "319295b78f067bf42d1153db93b93d949b27fa016a00b5624df1bcd9a0003e27"), looks := true }, kinds := [], alts := [], laidByText := true, laidKinds := [.data, .listed, .data, .mapped, .mapped, .pinned], laidTests := true, laidLooks := .later }
def TtypeRulesCardSaid : Prop := Claim7.holds Tryd.pinned (.plain (OpenSpec.ofChange ttypeRulesSpec)) ttypeRulesCard

/-- THE TIED CARD OF 'wagonpoollaw17.TtypeParts'. -/
def ttypePartsCard : Claim7 := { stood := { row := ttypePartsRow, standIns := [], harness := (true, "319295b78f067bf42d1153db93b93d949b27fa016a00b5624df1bcd9a0003e27"), looks := true }, kinds := [], alts := [], laidByText := true, laidKinds := [.data, .listed, .data, .mapped, .mapped, .pinned], laidTests := true, laidLooks := .later }
def TtypePartsCardSaid : Prop := Claim7.holds Tryd.pinned (.plain (OpenSpec.ofChange ttypePartsSpec)) ttypePartsCard

/-- THE TIED CARD OF 'wagonpoollaw17.TtypeFirstClause'. -/
def ttypeFirstClauseCard : Claim7 := { stood := { row := ttypeFirstClauseRow, standIns := [], harness := (true, "319295b78f067bf42d1153db93b93d949b27fa016a00b5624df1bcd9a0003e27"), looks := true }, kinds := [], alts := [], laidByText := true, laidKinds := [.data, .listed, .data, .mapped, .mapped, .pinned], laidTests := true, laidLooks := .later }
def TtypeFirstClauseCardSaid : Prop := Claim7.holds Tryd.pinned (.plain (OpenSpec.ofChange ttypeFirstClauseSpec)) ttypeFirstClauseCard

/-- THE SECOND FORM's CARD OF 'wagonpoollaw17.TtypeUnitMatchesReference'. -/
def ttypeUnitMatchesReferenceUptoCard : Claim7 := { stood := { row := ttypeUnitMatchesReferenceUptoRow, standIns := [], harness := (true, "319295b78f067bf42d1153db93b93d949b27fa016a00b5624df1bcd9a0003e27"), looks := true }, kinds := [], alts := [], laidByText := true, laidKinds := [.data, .listed, .data, .mapped, .mapped, .pinned], laidTests := true, laidLooks := .later }
def TtypeUnitMatchesReferenceUptoCardSaid : Prop := Claim7.holds Tryd.pinned (.plain (OpenSpec.upto ttypeUnitMatchesReferenceSpec)) ttypeUnitMatchesReferenceUptoCard

/-- THE SECOND FORM's CARD OF 'wagonpoollaw17.TtypeRules'. -/
def ttypeRulesUptoCard : Claim7 := { stood := { row := ttypeRulesUptoRow, standIns := [], harness := (true, "319295b78f067bf42d1153db93b93d949b27fa016a00b5624df1bcd9a0003e27"), looks := true }, kinds := [], alts := [], laidByText := true, laidKinds := [.data, .listed, .data, .mapped, .mapped, .pinned], laidTests := true, laidLooks := .later }
def TtypeRulesUptoCardSaid : Prop := Claim7.holds Tryd.pinned (.plain (OpenSpec.upto ttypeRulesSpec)) ttypeRulesUptoCard

/-- THE SECOND FORM's CARD OF 'wagonpoollaw17.TtypeParts'. -/
def ttypePartsUptoCard : Claim7 := { stood := { row := ttypePartsUptoRow, standIns := [], harness := (true, "319295b78f067bf42d1153db93b93d949b27fa016a00b5624df1bcd9a0003e27"), looks := true }, kinds := [], alts := [], laidByText := true, laidKinds := [.data, .listed, .data, .mapped, .mapped, .pinned], laidTests := true, laidLooks := .later }
def TtypePartsUptoCardSaid : Prop := Claim7.holds Tryd.pinned (.plain (OpenSpec.upto ttypePartsSpec)) ttypePartsUptoCard

/-- THE SECOND FORM's CARD OF 'wagonpoollaw17.TtypeFirstClause'. -/
def ttypeFirstClauseUptoCard : Claim7 := { stood := { row := ttypeFirstClauseUptoRow, standIns := [], harness := (true, "319295b78f067bf42d1153db93b93d949b27fa016a00b5624df1bcd9a0003e27"), looks := true }, kinds := [], alts := [], laidByText := true, laidKinds := [.data, .listed, .data, .mapped, .mapped, .pinned], laidTests := true, laidLooks := .later }
def TtypeFirstClauseUptoCardSaid : Prop := Claim7.holds Tryd.pinned (.plain (OpenSpec.upto ttypeFirstClauseSpec)) ttypeFirstClauseUptoCard
end Rows
end Go.Proofs.YtpllflefaccmkaaDoor
