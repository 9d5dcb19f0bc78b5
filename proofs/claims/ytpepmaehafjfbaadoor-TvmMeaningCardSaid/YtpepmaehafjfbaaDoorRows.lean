/-
  NARROWER THAN 'FOR EVERY INPUT', by the rows' own cells (each row's printed sentence says how): TvmMeaning: loops, laid.
  DERIVED. THE GIVEN ROWS OF THIS SEAT. 1 by the template 'for every input the law returns true; each argument reads behind the call as it read before'; 0 by the template 'total and deterministic' (their statements: YtpepmaehafjfbaaDoorTotals.lean).
  GIVEN WITH THE SEED: the statements are not yours to turn. If you find one false, say at which input.
  Laid BY PROGRAM, IN A SANDBOX (cutbox-rows.mjs): the forced cells as the released guide's own fill.sh prints them over the translation c57c207ccdcc0d23… (all of the seat's roots in one cut). By AI agents, Wed Nov 11 2026. No macro, syntax, notation, axiom, sorry.
-/
import Derived.Test.YtpepmaehafjfbaaDoorChecked
import GoSem.PinnedTables
import GoSem.Claim
import GoSem.ClaimJoined
import GoSem.ClaimMapViews
import Derived.JoinedTies
import Derived.KernelRfl
namespace Go.Proofs.YtpepmaehafjfbaaDoor
/- THE CELL 'sum', in the pinned program and in every row, IS THE sha256 OF THE DUMP (.gsa) THAT YtpepmaehafjfbaaDoorProg.lean LOADS. Nothing in Lean hashes anything: it is a label: what it is worth is what the hold of that sum in a sandbox is worth. -/
noncomputable def Tryd.pinned : Pinned := { name := "ytpepmaehafjfbaadoor", sum := "c57c207ccdcc0d23f294dbcdea59f39cff75948559a25182dfa8106ad559722d", checked := Tryd.checked }
namespace Rows
def none {H : Type} : Left H := { results := [], args := [] }

/- WHAT THE LISTED PACKAGE-LEVEL VARIABLES READ AS WHEN THE CALL BEGINS. Each datum BY PROGRAM (the guide's laid-datum.mjs) off the statement by which the dump's own 'gosem.cut.vars' lays the variable. In a bare row this is a premise. The card (YtpepmaehafjfbaaDoorCards.lean) ties it to the program's text. -/
def laid_unicode_utf8_acceptRanges {H : Type} : DataW H := .agg [.agg [.lit (.int .u8 128), .lit (.int .u8 191)], .agg [.lit (.int .u8 160), .lit (.int .u8 191)], .agg [.lit (.int .u8 128), .lit (.int .u8 159)], .agg [.lit (.int .u8 144), .lit (.int .u8 191)], .agg [.lit (.int .u8 128), .lit (.int .u8 143)], .agg [.lit (.int .u8 0), .lit (.int .u8 0)], .agg [.lit (.int .u8 0), .lit (.int .u8 0)], .agg [.lit (.int .u8 0), .lit (.int .u8 0)], .agg [.lit (.int .u8 0), .lit (.int .u8 0)], .agg [.lit (.int .u8 0), .lit (.int .u8 0)], .agg [.lit (.int .u8 0), .lit (.int .u8 0)], .agg [.lit (.int .u8 0), .lit (.int .u8 0)], .agg [.lit (.int .u8 0), .lit (.int .u8 0)], .agg [.lit (.int .u8 0), .lit (.int .u8 0)], .agg [.lit (.int .u8 0), .lit (.int .u8 0)], .agg [.lit (.int .u8 0), .lit (.int .u8 0)]]
def laid_wagonpool_tlex_reserved {H : Type} : DataW H := .map [(.string [97, 110, 100], .lit (.bool true)), (.string [98, 101, 103, 105, 110], .lit (.bool true)), (.string [99, 108, 97, 115, 115], .lit (.bool true)), (.string [99, 108, 97, 117, 115, 101], .lit (.bool true)), (.string [99, 108, 101, 97, 110, 105, 110, 103], .lit (.bool true)), (.string [99, 111, 100, 101], .lit (.bool true)), (.string [99, 111, 115, 116], .lit (.bool true)), (.string [100, 101, 109, 117, 114, 114, 97, 103, 101], .lit (.bool true)), (.string [100, 111, 119, 110], .lit (.bool true)), (.string [102, 111, 114], .lit (.bool true)), (.string [102, 114, 101, 105, 103, 104, 116], .lit (.bool true)), (.string [104, 97, 108, 102], .lit (.bool true)), (.string [104, 105, 114, 101], .lit (.bool true)), (.string [105, 102], .lit (.bool true)), (.string [105, 110], .lit (.bool true)), (.string [105, 115], .lit (.bool true)), (.string [107, 103], .lit (.bool true)), (.string [107, 109], .lit (.bool true)), (.string [108, 111, 115, 115], .lit (.bool true)), (.string [109, 97, 120], .lit (.bool true)), (.string [109, 105, 110], .lit (.bool true)), (.string [109, 105, 110, 117, 116, 101], .lit (.bool true)), (.string [109, 105, 110, 117, 116, 101, 115], .lit (.bool true)), (.string [109, 111, 110, 101, 121], .lit (.bool true)), (.string [109, 111, 110, 116, 104], .lit (.bool true)), (.string [111, 119, 110, 101, 114], .lit (.bool true)), (.string [112, 97, 114, 116], .lit (.bool true)), (.string [112, 97, 114, 116, 115], .lit (.bool true)), (.string [112, 97, 121], .lit (.bool true)), (.string [112, 101, 114], .lit (.bool true)), (.string [114, 97, 105, 108, 119, 97, 121], .lit (.bool true)), (.string [114, 101, 112, 97, 105, 114], .lit (.bool true)), (.string [115, 104, 105, 112, 112, 101, 114], .lit (.bool true)), (.string [116, 97, 114, 105, 102, 102], .lit (.bool true)), (.string [116, 121, 112, 101], .lit (.bool true)), (.string [117, 112], .lit (.bool true)), (.string [119, 101, 105, 103, 104, 116], .lit (.bool true)), (.string [119, 104, 101, 110], .lit (.bool true)), (.string [119, 111, 114, 107, 105, 110, 103], .lit (.bool true)), (.string [119, 111, 114, 116, 104], .lit (.bool true))]
def laid_wagonpool_tvm_binaries {H : Type} : DataW H := .iface "func table" (.map [(.int .i64 3, .agg [.iface "func" (.lit (.string [119, 97, 103, 111, 110, 112, 111, 111, 108, 47, 109, 111, 110, 101, 121, 46, 65, 100, 100]))]), (.int .i64 4, .agg [.iface "func" (.lit (.string [119, 97, 103, 111, 110, 112, 111, 111, 108, 47, 109, 111, 110, 101, 121, 46, 83, 117, 98]))]), (.int .i64 5, .agg [.iface "func" (.lit (.string [119, 97, 103, 111, 110, 112, 111, 111, 108, 47, 109, 111, 110, 101, 121, 46, 77, 117, 108]))]), (.int .i64 6, .agg [.iface "func" (.lit (.string [119, 97, 103, 111, 110, 112, 111, 111, 108, 47, 116, 118, 109, 46, 98, 105, 110, 97, 114, 105, 101, 115, 36, 49]))]), (.int .i64 7, .agg [.iface "func" (.lit (.string [119, 97, 103, 111, 110, 112, 111, 111, 108, 47, 116, 118, 109, 46, 98, 105, 110, 97, 114, 105, 101, 115, 36, 50]))]), (.int .i64 8, .agg [.iface "func" (.lit (.string [119, 97, 103, 111, 110, 112, 111, 111, 108, 47, 116, 118, 109, 46, 98, 105, 110, 97, 114, 105, 101, 115, 36, 51]))]), (.int .i64 9, .agg [.iface "func" (.lit (.string [119, 97, 103, 111, 110, 112, 111, 111, 108, 47, 116, 118, 109, 46, 98, 105, 110, 97, 114, 105, 101, 115, 36, 52]))]), (.int .i64 10, .agg [.iface "func" (.lit (.string [119, 97, 103, 111, 110, 112, 111, 111, 108, 47, 116, 118, 109, 46, 98, 105, 110, 97, 114, 105, 101, 115, 36, 53]))]), (.int .i64 11, .agg [.iface "func" (.lit (.string [119, 97, 103, 111, 110, 112, 111, 111, 108, 47, 116, 118, 109, 46, 98, 105, 110, 97, 114, 105, 101, 115, 36, 54]))])])
/-- One of Go's own tables, pinned by name: the form's constant. -/
def laid_unicode_utf8_first : DataW Unit := Go.Pinned.utf8First

/-- 'wagonpoollaw21.TvmMeaning': WHATEVER THE INPUT: true; the input reads as it did. -/
def tvmMeaningSpec : ChangeSpec := { name := "tvmMeaning", fn := fun _ => fun
  | [d1, d2] => { results := [.lit (.bool true)], args := [d1, d2] }
  | _ => none }
def tvmMeaningRow : OpenClaim := { program := "ytpepmaehafjfbaadoor", sum := "c57c207ccdcc0d23f294dbcdea59f39cff75948559a25182dfa8106ad559722d", func := "wagonpool/wagonpoollaw21.TvmMeaning", spec := "tvmMeaning", inPlace := ["internal/bytealg.IndexByteString", "internal/bytealg.IndexString"], unfollowed := true, recurses := true, named := ["wagonpool/tvm.binaries", "unicode/utf8.first", "unicode/utf8.acceptRanges", "wagonpool/tlex.reserved", "internal/bytealg.MaxLen"], loops := true, apart := false, laid := [("unicode/utf8.acceptRanges", laid_unicode_utf8_acceptRanges), ("wagonpool/tlex.reserved", laid_wagonpool_tlex_reserved), ("wagonpool/tvm.binaries", laid_wagonpool_tvm_binaries), ("unicode/utf8.first", laid_unicode_utf8_first)] }
def TvmMeaningSaid : Prop := tvmMeaningRow.holds Tryd.pinned (OpenSpec.ofChange tvmMeaningSpec)

/-- ITS FALSE NEIGHBOUR: 'it returns false'. Refute it at one input. -/
def tvmMeaningWrong : ChangeSpec := { name := "tvmMeaning", fn := fun _ => fun
  | [d1, d2] => { results := [.lit (.bool false)], args := [d1, d2] }
  | _ => none }
def TvmMeaningWrongFalsely : Prop := tvmMeaningRow.holds Tryd.pinned (OpenSpec.ofChange tvmMeaningWrong)

/- THE SECOND FORM. 'bulk': how many values and letters a reading holds, each counted each time it is reached (what is shared counts as often as it is met; a slice's spare places count too). A statement '..UptoSaid' is the law's where the arguments, and the package variables that the reading takes, are together of bulk at most 1048576: NARROWER than '..Said'. Prove '..Said' where nothing that the law and all that it calls make is longer than what came in: it says more and counts as full. Else prove '..UptoSaid'. A law counts once. -/
mutual
def uptoBulk {H : Type} : DataW H → Nat
  | .lit (.string bytes) => bytes.length + 1
  | .lit _ => 1
  | .nil => 1
  | .ptr d => uptoBulk d + 1
  | .slice elems spare => uptoBulkAll elems + uptoBulkAll spare + 1
  | .agg parts => uptoBulkAll parts + 1
  | .iface _ d => uptoBulk d + 1
  | .map entries => uptoBulkEntries entries + 1
  | .held _ => 1
def uptoBulkAll {H : Type} : List (DataW H) → Nat
  | [] => 0
  | d :: r => uptoBulk d + uptoBulkAll r
def uptoBulkEntries {H : Type} : List (Lit × DataW H) → Nat
  | [] => 0
  | x :: r => uptoBulkEntry x + uptoBulkEntries r
def uptoBulkEntry {H : Type} : Lit × DataW H → Nat
  | (.string bytes, d) => bytes.length + uptoBulk d + 1
  | (_, d) => uptoBulk d + 1
 end
def uptoSmall : (H : Type) → List (DataW H) → Bool := fun _ ds => decide (uptoBulkAll ds ≤ 1048576)
def OpenSpec.upto (s : _root_.Go.ChangeSpec) : _root_.Go.OpenSpec := { _root_.Go.OpenSpec.ofChange s with cond := some uptoSmall }

/-- 'wagonpoollaw21.TvmMeaning', WHERE WHAT IT READS IS OF BULK AT MOST 1048576: true; the input reads as it did. -/
def tvmMeaningUptoRow : OpenClaim := { program := "ytpepmaehafjfbaadoor", sum := "c57c207ccdcc0d23f294dbcdea59f39cff75948559a25182dfa8106ad559722d", func := "wagonpool/wagonpoollaw21.TvmMeaning", spec := "tvmMeaning", inPlace := ["internal/bytealg.IndexByteString", "internal/bytealg.IndexString"], unfollowed := true, recurses := true, named := ["wagonpool/tvm.binaries", "unicode/utf8.first", "unicode/utf8.acceptRanges", "wagonpool/tlex.reserved", "internal/bytealg.MaxLen"], loops := true, apart := false, laid := [("unicode/utf8.acceptRanges", laid_unicode_utf8_acceptRanges), ("wagonpool/tlex.reserved", laid_wagonpool_tlex_reserved), ("wagonpool/tvm.binaries", laid_wagonpool_tvm_binaries), ("unicode/utf8.first", laid_unicode_utf8_first)], narrowed := true }
def TvmMeaningUptoSaid : Prop := tvmMeaningUptoRow.holds Tryd.pinned (OpenSpec.upto tvmMeaningSpec)

end Rows
end Go.Proofs.YtpepmaehafjfbaaDoor
