/-
  NARROWER THAN 'FOR EVERY INPUT', by the rows' own cells (each row's printed sentence says how): TtypeUnitMatchesReference: loops, laid · TtypeRules: loops, laid · TtypeParts: loops, laid · TtypeFirstClause: loops, laid.
  DERIVED. THE GIVEN ROWS OF THIS SEAT. 4 by the template 'for every input the law returns true; each argument reads behind the call as it read before'; 0 by the template 'total and deterministic' (their statements: YtpllflefaccmkaaDoorTotals.lean).
  GIVEN WITH THE SEED: the statements are not yours to turn. If you find one false, say at which input.
  Laid BY PROGRAM, IN A SANDBOX (cutbox-rows.mjs): the forced cells as the released guide's own fill.sh prints them over the translation 605aa01cd47379b3… (all of the seat's roots in one cut). By AI agents, Wed Nov 11 2026. No macro, syntax, notation, axiom, sorry.
-/
import Derived.Test.YtpllflefaccmkaaDoorChecked
import GoSem.PinnedTables
import GoSem.Claim
import GoSem.ClaimJoined
import GoSem.ClaimMapViews
import Derived.JoinedTies
import Derived.KernelRfl
namespace Go.Proofs.YtpllflefaccmkaaDoor
/- THE CELL 'sum', in the pinned program and in every row, IS THE sha256 OF THE DUMP (.gsa) THAT YtpllflefaccmkaaDoorProg.lean LOADS. Nothing in Lean hashes anything: it is a label: what it is worth is what the hold of that sum in a sandbox is worth. -/
noncomputable def Tryd.pinned : Pinned := { name := "ytpllflefaccmkaadoor", sum := "605aa01cd47379b3419dabd8a5edb17a1d20c53351735fdc06668b0865d0a9ac", checked := Tryd.checked }
namespace Rows
def none {H : Type} : Left H := { results := [], args := [] }

/- WHAT THE LISTED PACKAGE-LEVEL VARIABLES READ AS WHEN THE CALL BEGINS. Each datum BY PROGRAM (the guide's laid-datum.mjs) off the statement by which the dump's own 'gosem.cut.vars' lays the variable. In a bare row this is a premise. The card (YtpllflefaccmkaaDoorCards.lean) ties it to the program's text. -/
def laid_unicode_utf8_acceptRanges {H : Type} : DataW H := .agg [.agg [.lit (.int .u8 128), .lit (.int .u8 191)], .agg [.lit (.int .u8 160), .lit (.int .u8 191)], .agg [.lit (.int .u8 128), .lit (.int .u8 159)], .agg [.lit (.int .u8 144), .lit (.int .u8 191)], .agg [.lit (.int .u8 128), .lit (.int .u8 143)], .agg [.lit (.int .u8 0), .lit (.int .u8 0)], .agg [.lit (.int .u8 0), .lit (.int .u8 0)], .agg [.lit (.int .u8 0), .lit (.int .u8 0)], .agg [.lit (.int .u8 0), .lit (.int .u8 0)], .agg [.lit (.int .u8 0), .lit (.int .u8 0)], .agg [.lit (.int .u8 0), .lit (.int .u8 0)], .agg [.lit (.int .u8 0), .lit (.int .u8 0)], .agg [.lit (.int .u8 0), .lit (.int .u8 0)], .agg [.lit (.int .u8 0), .lit (.int .u8 0)], .agg [.lit (.int .u8 0), .lit (.int .u8 0)], .agg [.lit (.int .u8 0), .lit (.int .u8 0)]]
def laid_unicode_White_Space {H : Type} : DataW H := .ptr (.agg [.slice [.agg [.lit (.int .u16 9), .lit (.int .u16 13), .lit (.int .u16 1)], .agg [.lit (.int .u16 32), .lit (.int .u16 133), .lit (.int .u16 101)], .agg [.lit (.int .u16 160), .lit (.int .u16 5760), .lit (.int .u16 5600)], .agg [.lit (.int .u16 8192), .lit (.int .u16 8202), .lit (.int .u16 1)], .agg [.lit (.int .u16 8232), .lit (.int .u16 8233), .lit (.int .u16 1)], .agg [.lit (.int .u16 8239), .lit (.int .u16 8287), .lit (.int .u16 48)], .agg [.lit (.int .u16 12288), .lit (.int .u16 12288), .lit (.int .u16 1)]] [], .nil, .lit (.int .i64 2)])
def laid_strings_asciiSpace {H : Type} : DataW H := .agg [.lit (.int .u8 0), .lit (.int .u8 0), .lit (.int .u8 0), .lit (.int .u8 0), .lit (.int .u8 0), .lit (.int .u8 0), .lit (.int .u8 0), .lit (.int .u8 0), .lit (.int .u8 0), .lit (.int .u8 1), .lit (.int .u8 1), .lit (.int .u8 1), .lit (.int .u8 1), .lit (.int .u8 1), .lit (.int .u8 0), .lit (.int .u8 0), .lit (.int .u8 0), .lit (.int .u8 0), .lit (.int .u8 0), .lit (.int .u8 0), .lit (.int .u8 0), .lit (.int .u8 0), .lit (.int .u8 0), .lit (.int .u8 0), .lit (.int .u8 0), .lit (.int .u8 0), .lit (.int .u8 0), .lit (.int .u8 0), .lit (.int .u8 0), .lit (.int .u8 0), .lit (.int .u8 0), .lit (.int .u8 0), .lit (.int .u8 1), .lit (.int .u8 0), .lit (.int .u8 0), .lit (.int .u8 0), .lit (.int .u8 0), .lit (.int .u8 0), .lit (.int .u8 0), .lit (.int .u8 0), .lit (.int .u8 0), .lit (.int .u8 0), .lit (.int .u8 0), .lit (.int .u8 0), .lit (.int .u8 0), .lit (.int .u8 0), .lit (.int .u8 0), .lit (.int .u8 0), .lit (.int .u8 0), .lit (.int .u8 0), .lit (.int .u8 0), .lit (.int .u8 0), .lit (.int .u8 0), .lit (.int .u8 0), .lit (.int .u8 0), .lit (.int .u8 0), .lit (.int .u8 0), .lit (.int .u8 0), .lit (.int .u8 0), .lit (.int .u8 0), .lit (.int .u8 0), .lit (.int .u8 0), .lit (.int .u8 0), .lit (.int .u8 0), .lit (.int .u8 0), .lit (.int .u8 0), .lit (.int .u8 0), .lit (.int .u8 0), .lit (.int .u8 0), .lit (.int .u8 0), .lit (.int .u8 0), .lit (.int .u8 0), .lit (.int .u8 0), .lit (.int .u8 0), .lit (.int .u8 0), .lit (.int .u8 0), .lit (.int .u8 0), .lit (.int .u8 0), .lit (.int .u8 0), .lit (.int .u8 0), .lit (.int .u8 0), .lit (.int .u8 0), .lit (.int .u8 0), .lit (.int .u8 0), .lit (.int .u8 0), .lit (.int .u8 0), .lit (.int .u8 0), .lit (.int .u8 0), .lit (.int .u8 0), .lit (.int .u8 0), .lit (.int .u8 0), .lit (.int .u8 0), .lit (.int .u8 0), .lit (.int .u8 0), .lit (.int .u8 0), .lit (.int .u8 0), .lit (.int .u8 0), .lit (.int .u8 0), .lit (.int .u8 0), .lit (.int .u8 0), .lit (.int .u8 0), .lit (.int .u8 0), .lit (.int .u8 0), .lit (.int .u8 0), .lit (.int .u8 0), .lit (.int .u8 0), .lit (.int .u8 0), .lit (.int .u8 0), .lit (.int .u8 0), .lit (.int .u8 0), .lit (.int .u8 0), .lit (.int .u8 0), .lit (.int .u8 0), .lit (.int .u8 0), .lit (.int .u8 0), .lit (.int .u8 0), .lit (.int .u8 0), .lit (.int .u8 0), .lit (.int .u8 0), .lit (.int .u8 0), .lit (.int .u8 0), .lit (.int .u8 0), .lit (.int .u8 0), .lit (.int .u8 0), .lit (.int .u8 0), .lit (.int .u8 0), .lit (.int .u8 0), .lit (.int .u8 0), .lit (.int .u8 0), .lit (.int .u8 0), .lit (.int .u8 0), .lit (.int .u8 0), .lit (.int .u8 0), .lit (.int .u8 0), .lit (.int .u8 0), .lit (.int .u8 0), .lit (.int .u8 0), .lit (.int .u8 0), .lit (.int .u8 0), .lit (.int .u8 0), .lit (.int .u8 0), .lit (.int .u8 0), .lit (.int .u8 0), .lit (.int .u8 0), .lit (.int .u8 0), .lit (.int .u8 0), .lit (.int .u8 0), .lit (.int .u8 0), .lit (.int .u8 0), .lit (.int .u8 0), .lit (.int .u8 0), .lit (.int .u8 0), .lit (.int .u8 0), .lit (.int .u8 0), .lit (.int .u8 0), .lit (.int .u8 0), .lit (.int .u8 0), .lit (.int .u8 0), .lit (.int .u8 0), .lit (.int .u8 0), .lit (.int .u8 0), .lit (.int .u8 0), .lit (.int .u8 0), .lit (.int .u8 0), .lit (.int .u8 0), .lit (.int .u8 0), .lit (.int .u8 0), .lit (.int .u8 0), .lit (.int .u8 0), .lit (.int .u8 0), .lit (.int .u8 0), .lit (.int .u8 0), .lit (.int .u8 0), .lit (.int .u8 0), .lit (.int .u8 0), .lit (.int .u8 0), .lit (.int .u8 0), .lit (.int .u8 0), .lit (.int .u8 0), .lit (.int .u8 0), .lit (.int .u8 0), .lit (.int .u8 0), .lit (.int .u8 0), .lit (.int .u8 0), .lit (.int .u8 0), .lit (.int .u8 0), .lit (.int .u8 0), .lit (.int .u8 0), .lit (.int .u8 0), .lit (.int .u8 0), .lit (.int .u8 0), .lit (.int .u8 0), .lit (.int .u8 0), .lit (.int .u8 0), .lit (.int .u8 0), .lit (.int .u8 0), .lit (.int .u8 0), .lit (.int .u8 0), .lit (.int .u8 0), .lit (.int .u8 0), .lit (.int .u8 0), .lit (.int .u8 0), .lit (.int .u8 0), .lit (.int .u8 0), .lit (.int .u8 0), .lit (.int .u8 0), .lit (.int .u8 0), .lit (.int .u8 0), .lit (.int .u8 0), .lit (.int .u8 0), .lit (.int .u8 0), .lit (.int .u8 0), .lit (.int .u8 0), .lit (.int .u8 0), .lit (.int .u8 0), .lit (.int .u8 0), .lit (.int .u8 0), .lit (.int .u8 0), .lit (.int .u8 0), .lit (.int .u8 0), .lit (.int .u8 0), .lit (.int .u8 0), .lit (.int .u8 0), .lit (.int .u8 0), .lit (.int .u8 0), .lit (.int .u8 0), .lit (.int .u8 0), .lit (.int .u8 0), .lit (.int .u8 0), .lit (.int .u8 0), .lit (.int .u8 0), .lit (.int .u8 0), .lit (.int .u8 0), .lit (.int .u8 0), .lit (.int .u8 0), .lit (.int .u8 0), .lit (.int .u8 0), .lit (.int .u8 0), .lit (.int .u8 0), .lit (.int .u8 0), .lit (.int .u8 0), .lit (.int .u8 0), .lit (.int .u8 0), .lit (.int .u8 0), .lit (.int .u8 0), .lit (.int .u8 0), .lit (.int .u8 0), .lit (.int .u8 0), .lit (.int .u8 0), .lit (.int .u8 0), .lit (.int .u8 0), .lit (.int .u8 0), .lit (.int .u8 0), .lit (.int .u8 0), .lit (.int .u8 0), .lit (.int .u8 0)]
def laid_wagonpool_tlex_signs {H : Type} : DataW H := .map [(.int .u8 40, .lit (.string [40])), (.int .u8 41, .lit (.string [41])), (.int .u8 42, .lit (.string [42])), (.int .u8 43, .lit (.string [43])), (.int .u8 44, .lit (.string [44])), (.int .u8 45, .lit (.string [45])), (.int .u8 46, .lit (.string [46, 46])), (.int .u8 59, .lit (.string [59])), (.int .u8 60, .lit (.string [60])), (.int .u8 123, .lit (.string [123])), (.int .u8 125, .lit (.string [125]))]
def laid_wagonpool_tlex_reserved {H : Type} : DataW H := .map [(.string [97, 110, 100], .lit (.bool true)), (.string [98, 101, 103, 105, 110], .lit (.bool true)), (.string [99, 108, 97, 115, 115], .lit (.bool true)), (.string [99, 108, 97, 117, 115, 101], .lit (.bool true)), (.string [99, 108, 101, 97, 110, 105, 110, 103], .lit (.bool true)), (.string [99, 111, 100, 101], .lit (.bool true)), (.string [99, 111, 115, 116], .lit (.bool true)), (.string [100, 101, 109, 117, 114, 114, 97, 103, 101], .lit (.bool true)), (.string [100, 111, 119, 110], .lit (.bool true)), (.string [102, 111, 114], .lit (.bool true)), (.string [102, 114, 101, 105, 103, 104, 116], .lit (.bool true)), (.string [104, 97, 108, 102], .lit (.bool true)), (.string [104, 105, 114, 101], .lit (.bool true)), (.string [105, 102], .lit (.bool true)), (.string [105, 110], .lit (.bool true)), (.string [105, 115], .lit (.bool true)), (.string [107, 103], .lit (.bool true)), (.string [107, 109], .lit (.bool true)), (.string [108, 111, 115, 115], .lit (.bool true)), (.string [109, 97, 120], .lit (.bool true)), (.string [109, 105, 110], .lit (.bool true)), (.string [109, 105, 110, 117, 116, 101], .lit (.bool true)), (.string [109, 105, 110, 117, 116, 101, 115], .lit (.bool true)), (.string [109, 111, 110, 101, 121], .lit (.bool true)), (.string [109, 111, 110, 116, 104], .lit (.bool true)), (.string [111, 119, 110, 101, 114], .lit (.bool true)), (.string [112, 97, 114, 116], .lit (.bool true)), (.string [112, 97, 114, 116, 115], .lit (.bool true)), (.string [112, 97, 121], .lit (.bool true)), (.string [112, 101, 114], .lit (.bool true)), (.string [114, 97, 105, 108, 119, 97, 121], .lit (.bool true)), (.string [114, 101, 112, 97, 105, 114], .lit (.bool true)), (.string [115, 104, 105, 112, 112, 101, 114], .lit (.bool true)), (.string [116, 97, 114, 105, 102, 102], .lit (.bool true)), (.string [116, 121, 112, 101], .lit (.bool true)), (.string [117, 112], .lit (.bool true)), (.string [119, 101, 105, 103, 104, 116], .lit (.bool true)), (.string [119, 104, 101, 110], .lit (.bool true)), (.string [119, 111, 114, 107, 105, 110, 103], .lit (.bool true)), (.string [119, 111, 114, 116, 104], .lit (.bool true))]
/-- One of Go's own tables, pinned by name: the form's constant. -/
def laid_unicode_utf8_first : DataW Unit := Go.Pinned.utf8First

/-- 'wagonpoollaw17.TtypeUnitMatchesReference': WHATEVER THE INPUT: true; the input reads as it did. -/
def ttypeUnitMatchesReferenceSpec : ChangeSpec := { name := "ttypeUnitMatchesReference", fn := fun _ => fun
  | [d1, d2] => { results := [.lit (.bool true)], args := [d1, d2] }
  | _ => none }
def ttypeUnitMatchesReferenceRow : OpenClaim := { program := "ytpllflefaccmkaadoor", sum := "605aa01cd47379b3419dabd8a5edb17a1d20c53351735fdc06668b0865d0a9ac", func := "wagonpool/wagonpoollaw17.TtypeUnitMatchesReference", spec := "ttypeUnitMatchesReference", inPlace := ["internal/bytealg.IndexByteString", "internal/bytealg.IndexString"], unfollowed := true, recurses := true, named := ["wagonpool/tlex.signs", "wagonpool/tlex.reserved", "strings.asciiSpace", "unicode.White_Space", "unicode/utf8.first", "unicode/utf8.acceptRanges", "internal/bytealg.MaxLen"], loops := true, apart := false, laid := [("unicode/utf8.acceptRanges", laid_unicode_utf8_acceptRanges), ("unicode.White_Space", laid_unicode_White_Space), ("strings.asciiSpace", laid_strings_asciiSpace), ("wagonpool/tlex.signs", laid_wagonpool_tlex_signs), ("wagonpool/tlex.reserved", laid_wagonpool_tlex_reserved), ("unicode/utf8.first", laid_unicode_utf8_first)] }
def TtypeUnitMatchesReferenceSaid : Prop := ttypeUnitMatchesReferenceRow.holds Tryd.pinned (OpenSpec.ofChange ttypeUnitMatchesReferenceSpec)

/-- ITS FALSE NEIGHBOUR: 'it returns false'. Refute it at one input. -/
def ttypeUnitMatchesReferenceWrong : ChangeSpec := { name := "ttypeUnitMatchesReference", fn := fun _ => fun
  | [d1, d2] => { results := [.lit (.bool false)], args := [d1, d2] }
  | _ => none }
def TtypeUnitMatchesReferenceWrongFalsely : Prop := ttypeUnitMatchesReferenceRow.holds Tryd.pinned (OpenSpec.ofChange ttypeUnitMatchesReferenceWrong)

/-- 'wagonpoollaw17.TtypeRules': WHATEVER THE INPUT: true; the input reads as it did. -/
def ttypeRulesSpec : ChangeSpec := { name := "ttypeRules", fn := fun _ => fun
  | [d1, d2, d3] => { results := [.lit (.bool true)], args := [d1, d2, d3] }
  | _ => none }
def ttypeRulesRow : OpenClaim := { program := "ytpllflefaccmkaadoor", sum := "605aa01cd47379b3419dabd8a5edb17a1d20c53351735fdc06668b0865d0a9ac", func := "wagonpool/wagonpoollaw17.TtypeRules", spec := "ttypeRules", inPlace := ["internal/bytealg.IndexByteString", "internal/bytealg.IndexString"], unfollowed := true, recurses := true, named := ["wagonpool/tlex.signs", "wagonpool/tlex.reserved", "strings.asciiSpace", "unicode.White_Space", "unicode/utf8.first", "unicode/utf8.acceptRanges", "internal/bytealg.MaxLen"], loops := true, apart := false, laid := [("unicode/utf8.acceptRanges", laid_unicode_utf8_acceptRanges), ("unicode.White_Space", laid_unicode_White_Space), ("strings.asciiSpace", laid_strings_asciiSpace), ("wagonpool/tlex.signs", laid_wagonpool_tlex_signs), ("wagonpool/tlex.reserved", laid_wagonpool_tlex_reserved), ("unicode/utf8.first", laid_unicode_utf8_first)] }
def TtypeRulesSaid : Prop := ttypeRulesRow.holds Tryd.pinned (OpenSpec.ofChange ttypeRulesSpec)

/-- ITS FALSE NEIGHBOUR: 'it returns false'. Refute it at one input. -/
def ttypeRulesWrong : ChangeSpec := { name := "ttypeRules", fn := fun _ => fun
  | [d1, d2, d3] => { results := [.lit (.bool false)], args := [d1, d2, d3] }
  | _ => none }
def TtypeRulesWrongFalsely : Prop := ttypeRulesRow.holds Tryd.pinned (OpenSpec.ofChange ttypeRulesWrong)

/-- 'wagonpoollaw17.TtypeParts': WHATEVER THE INPUT: true; the input reads as it did. -/
def ttypePartsSpec : ChangeSpec := { name := "ttypeParts", fn := fun _ => fun
  | [d1, d2, d3] => { results := [.lit (.bool true)], args := [d1, d2, d3] }
  | _ => none }
def ttypePartsRow : OpenClaim := { program := "ytpllflefaccmkaadoor", sum := "605aa01cd47379b3419dabd8a5edb17a1d20c53351735fdc06668b0865d0a9ac", func := "wagonpool/wagonpoollaw17.TtypeParts", spec := "ttypeParts", inPlace := ["internal/bytealg.IndexByteString", "internal/bytealg.IndexString"], unfollowed := true, recurses := true, named := ["wagonpool/tlex.signs", "wagonpool/tlex.reserved", "strings.asciiSpace", "unicode.White_Space", "unicode/utf8.first", "unicode/utf8.acceptRanges", "internal/bytealg.MaxLen"], loops := true, apart := false, laid := [("unicode/utf8.acceptRanges", laid_unicode_utf8_acceptRanges), ("unicode.White_Space", laid_unicode_White_Space), ("strings.asciiSpace", laid_strings_asciiSpace), ("wagonpool/tlex.signs", laid_wagonpool_tlex_signs), ("wagonpool/tlex.reserved", laid_wagonpool_tlex_reserved), ("unicode/utf8.first", laid_unicode_utf8_first)] }
def TtypePartsSaid : Prop := ttypePartsRow.holds Tryd.pinned (OpenSpec.ofChange ttypePartsSpec)

/-- ITS FALSE NEIGHBOUR: 'it returns false'. Refute it at one input. -/
def ttypePartsWrong : ChangeSpec := { name := "ttypeParts", fn := fun _ => fun
  | [d1, d2, d3] => { results := [.lit (.bool false)], args := [d1, d2, d3] }
  | _ => none }
def TtypePartsWrongFalsely : Prop := ttypePartsRow.holds Tryd.pinned (OpenSpec.ofChange ttypePartsWrong)

/-- 'wagonpoollaw17.TtypeFirstClause': WHATEVER THE INPUT: true; the input reads as it did. -/
def ttypeFirstClauseSpec : ChangeSpec := { name := "ttypeFirstClause", fn := fun _ => fun
  | [d] => { results := [.lit (.bool true)], args := [d] }
  | _ => none }
def ttypeFirstClauseRow : OpenClaim := { program := "ytpllflefaccmkaadoor", sum := "605aa01cd47379b3419dabd8a5edb17a1d20c53351735fdc06668b0865d0a9ac", func := "wagonpool/wagonpoollaw17.TtypeFirstClause", spec := "ttypeFirstClause", inPlace := ["internal/bytealg.IndexByteString", "internal/bytealg.IndexString"], unfollowed := true, recurses := true, named := ["wagonpool/tlex.signs", "wagonpool/tlex.reserved", "strings.asciiSpace", "unicode.White_Space", "unicode/utf8.first", "unicode/utf8.acceptRanges", "internal/bytealg.MaxLen"], loops := true, apart := false, laid := [("unicode/utf8.acceptRanges", laid_unicode_utf8_acceptRanges), ("unicode.White_Space", laid_unicode_White_Space), ("strings.asciiSpace", laid_strings_asciiSpace), ("wagonpool/tlex.signs", laid_wagonpool_tlex_signs), ("wagonpool/tlex.reserved", laid_wagonpool_tlex_reserved), ("unicode/utf8.first", laid_unicode_utf8_first)] }
def TtypeFirstClauseSaid : Prop := ttypeFirstClauseRow.holds Tryd.pinned (OpenSpec.ofChange ttypeFirstClauseSpec)

/-- ITS FALSE NEIGHBOUR: 'it returns false'. Refute it at one input. -/
def ttypeFirstClauseWrong : ChangeSpec := { name := "ttypeFirstClause", fn := fun _ => fun
  | [d] => { results := [.lit (.bool false)], args := [d] }
  | _ => none }
def TtypeFirstClauseWrongFalsely : Prop := ttypeFirstClauseRow.holds Tryd.pinned (OpenSpec.ofChange ttypeFirstClauseWrong)

/- THE SECOND FORM. 'bulk': how many values and letters a reading holds, each counted each time it is reached (what is shared counts as often as it is met; a slice's spare places count too). A statement '..UptoSaid' is the law's where the arguments, and the package variables that the reading takes, are together of bulk at most 1048576: NARROWER than '..Said'. Prove '..Said' where nothing that the law and all that it calls make is longer than what came in: it says more and counts as full. Else prove '..UptoSaid'. A law counts once. -/
mutual
def uptoBulk {H : Type} : DataW H → Nat
  | .lit (.string bytes) => bytes.length + 1
  | .lit _ => 1
  | .nil => 1
  | .ptr d => uptoBulk d + 1
  | .slice elems spare => uptoBulkAll elems + uptoBulkAll spare + 1
  | .agg parts => uptoBulkAll parts + 1
  | .iface _ d => uptoBulk d + 1
  | .map entries => uptoBulkEntries entries + 1
  | .held _ => 1
def uptoBulkAll {H : Type} : List (DataW H) → Nat
  | [] => 0
  | d :: r => uptoBulk d + uptoBulkAll r
def uptoBulkEntries {H : Type} : List (Lit × DataW H) → Nat
  | [] => 0
  | x :: r => uptoBulkEntry x + uptoBulkEntries r
def uptoBulkEntry {H : Type} : Lit × DataW H → Nat
  | (.string bytes, d) => bytes.length + uptoBulk d + 1
  | (_, d) => uptoBulk d + 1
 end
def uptoSmall : (H : Type) → List (DataW H) → Bool := fun _ ds => decide (uptoBulkAll ds ≤ 1048576)
def OpenSpec.upto (s : _root_.Go.ChangeSpec) : _root_.Go.OpenSpec := { _root_.Go.OpenSpec.ofChange s with cond := some uptoSmall }

/-- 'wagonpoollaw17.TtypeUnitMatchesReference', WHERE WHAT IT READS IS OF BULK AT MOST 1048576: true; the input reads as it did. -/
def ttypeUnitMatchesReferenceUptoRow : OpenClaim := { program := "ytpllflefaccmkaadoor", sum := "605aa01cd47379b3419dabd8a5edb17a1d20c53351735fdc06668b0865d0a9ac", func := "wagonpool/wagonpoollaw17.TtypeUnitMatchesReference", spec := "ttypeUnitMatchesReference", inPlace := ["internal/bytealg.IndexByteString", "internal/bytealg.IndexString"], unfollowed := true, recurses := true, named := ["wagonpool/tlex.signs", "wagonpool/tlex.reserved", "strings.asciiSpace", "unicode.White_Space", "unicode/utf8.first", "unicode/utf8.acceptRanges", "internal/bytealg.MaxLen"], loops := true, apart := false, laid := [("unicode/utf8.acceptRanges", laid_unicode_utf8_acceptRanges), ("unicode.White_Space", laid_unicode_White_Space), ("strings.asciiSpace", laid_strings_asciiSpace), ("wagonpool/tlex.signs", laid_wagonpool_tlex_signs), ("wagonpool/tlex.reserved", laid_wagonpool_tlex_reserved), ("unicode/utf8.first", laid_unicode_utf8_first)], narrowed := true }
def TtypeUnitMatchesReferenceUptoSaid : Prop := ttypeUnitMatchesReferenceUptoRow.holds Tryd.pinned (OpenSpec.upto ttypeUnitMatchesReferenceSpec)

/-- 'wagonpoollaw17.TtypeRules', WHERE WHAT IT READS IS OF BULK AT MOST 1048576: true; the input reads as it did. -/
def ttypeRulesUptoRow : OpenClaim := { program := "ytpllflefaccmkaadoor", sum := "605aa01cd47379b3419dabd8a5edb17a1d20c53351735fdc06668b0865d0a9ac", func := "wagonpool/wagonpoollaw17.TtypeRules", spec := "ttypeRules", inPlace := ["internal/bytealg.IndexByteString", "internal/bytealg.IndexString"], unfollowed := true, recurses := true, named := ["wagonpool/tlex.signs", "wagonpool/tlex.reserved", "strings.asciiSpace", "unicode.White_Space", "unicode/utf8.first", "unicode/utf8.acceptRanges", "internal/bytealg.MaxLen"], loops := true, apart := false, laid := [("unicode/utf8.acceptRanges", laid_unicode_utf8_acceptRanges), ("unicode.White_Space", laid_unicode_White_Space), ("strings.asciiSpace", laid_strings_asciiSpace), ("wagonpool/tlex.signs", laid_wagonpool_tlex_signs), ("wagonpool/tlex.reserved", laid_wagonpool_tlex_reserved), ("unicode/utf8.first", laid_unicode_utf8_first)], narrowed := true }
def TtypeRulesUptoSaid : Prop := ttypeRulesUptoRow.holds Tryd.pinned (OpenSpec.upto ttypeRulesSpec)

/-- 'wagonpoollaw17.TtypeParts', WHERE WHAT IT READS IS OF BULK AT MOST 1048576: true; the input reads as it did. -/
def ttypePartsUptoRow : OpenClaim := { program := "ytpllflefaccmkaadoor", sum := "605aa01cd47379b3419dabd8a5edb17a1d20c53351735fdc06668b0865d0a9ac", func := "wagonpool/wagonpoollaw17.TtypeParts", spec := "ttypeParts", inPlace := ["internal/bytealg.IndexByteString", "internal/bytealg.IndexString"], unfollowed := true, recurses := true, named := ["wagonpool/tlex.signs", "wagonpool/tlex.reserved", "strings.asciiSpace", "unicode.White_Space", "unicode/utf8.first", "unicode/utf8.acceptRanges", "internal/bytealg.MaxLen"], loops := true, apart := false, laid := [("unicode/utf8.acceptRanges", laid_unicode_utf8_acceptRanges), ("unicode.White_Space", laid_unicode_White_Space), ("strings.asciiSpace", laid_strings_asciiSpace), ("wagonpool/tlex.signs", laid_wagonpool_tlex_signs), ("wagonpool/tlex.reserved", laid_wagonpool_tlex_reserved), ("unicode/utf8.first", laid_unicode_utf8_first)], narrowed := true }
def TtypePartsUptoSaid : Prop := ttypePartsUptoRow.holds Tryd.pinned (OpenSpec.upto ttypePartsSpec)

/-- 'wagonpoollaw17.TtypeFirstClause', WHERE WHAT IT READS IS OF BULK AT MOST 1048576: true; the input reads as it did. -/
def ttypeFirstClauseUptoRow : OpenClaim := { program := "ytpllflefaccmkaadoor", sum := "605aa01cd47379b3419dabd8a5edb17a1d20c53351735fdc06668b0865d0a9ac", func := "wagonpool/wagonpoollaw17.TtypeFirstClause", spec := "ttypeFirstClause", inPlace := ["internal/bytealg.IndexByteString", "internal/bytealg.IndexString"], unfollowed := true, recurses := true, named := ["wagonpool/tlex.signs", "wagonpool/tlex.reserved", "strings.asciiSpace", "unicode.White_Space", "unicode/utf8.first", "unicode/utf8.acceptRanges", "internal/bytealg.MaxLen"], loops := true, apart := false, laid := [("unicode/utf8.acceptRanges", laid_unicode_utf8_acceptRanges), ("unicode.White_Space", laid_unicode_White_Space), ("strings.asciiSpace", laid_strings_asciiSpace), ("wagonpool/tlex.signs", laid_wagonpool_tlex_signs), ("wagonpool/tlex.reserved", laid_wagonpool_tlex_reserved), ("unicode/utf8.first", laid_unicode_utf8_first)], narrowed := true }
def TtypeFirstClauseUptoSaid : Prop := ttypeFirstClauseUptoRow.holds Tryd.pinned (OpenSpec.upto ttypeFirstClauseSpec)

end Rows
end Go.Proofs.YtpllflefaccmkaaDoor
