/-
  NARROWER THAN 'FOR EVERY INPUT', by the rows' own cells (each row's printed sentence says how): TevalMatches: loops · TevalMatchesAmount: loops · TevalLocal: loops · TevalCombines: loops · TevalChooses: loops · TevalFirst: loops.
  DERIVED. THE GIVEN ROWS OF THIS SEAT. 6 by the template 'for every input the law returns true; each argument reads behind the call as it read before'; 0 by the template 'total and deterministic' (their statements: YtophdbbbojnobaaTotals.lean).
  GIVEN WITH THE SEED: the statements are not yours to turn. If you find one false, say at which input.
  Laid BY PROGRAM, IN A SANDBOX (cutbox-rows.mjs): the forced cells as the released guide's own fill.sh prints them over the translation e0f7957f6fda6a19… (all of the seat's roots in one cut). By AI agents, Wed Nov 11 2026. No macro, syntax, notation, axiom, sorry.
-/
import Derived.Test.YtophdbbbojnobaaChecked
import GoSem.Claim
import GoSem.ClaimJoined
import GoSem.ClaimMapViews
import Derived.JoinedTies
import Derived.KernelRfl
namespace Go.Proofs.Ytophdbbbojnobaa
/- THE CELL 'sum', in the pinned program and in every row, IS THE sha256 OF THE DUMP (.gsa) THAT YtophdbbbojnobaaProg.lean LOADS. Nothing in Lean hashes anything: it is a label: what it is worth is what the hold of that sum in a sandbox is worth. -/
noncomputable def Try.pinned : Pinned := { name := "ytophdbbbojnobaa", sum := "e0f7957f6fda6a1972c249e78a4ca81be8236814fa929339e6c0a17281021db0", checked := Try.checked }
namespace Rows
def none {H : Type} : Left H := { results := [], args := [] }

/-- 'wagonpoollaw18.TevalMatches': WHATEVER THE INPUT: true; the input reads as it did. -/
def tevalMatchesSpec : ChangeSpec := { name := "tevalMatches", fn := fun _ => fun
  | [d1, d2] => { results := [.lit (.bool true)], args := [d1, d2] }
  | _ => none }
def tevalMatchesRow : OpenClaim := { program := "ytophdbbbojnobaa", sum := "e0f7957f6fda6a1972c249e78a4ca81be8236814fa929339e6c0a17281021db0", func := "wagonpool/wagonpoollaw18.TevalMatches", spec := "tevalMatches", unfollowed := true, recurses := true, loops := true, apart := false }
def TevalMatchesSaid : Prop := tevalMatchesRow.holds Try.pinned (OpenSpec.ofChange tevalMatchesSpec)

/-- ITS FALSE NEIGHBOUR: 'it returns false'. Refute it at one input. -/
def tevalMatchesWrong : ChangeSpec := { name := "tevalMatches", fn := fun _ => fun
  | [d1, d2] => { results := [.lit (.bool false)], args := [d1, d2] }
  | _ => none }
def TevalMatchesWrongFalsely : Prop := tevalMatchesRow.holds Try.pinned (OpenSpec.ofChange tevalMatchesWrong)

/-- 'wagonpoollaw18.TevalMatchesAmount': WHATEVER THE INPUT: true; the input reads as it did. -/
def tevalMatchesAmountSpec : ChangeSpec := { name := "tevalMatchesAmount", fn := fun _ => fun
  | [d1, d2] => { results := [.lit (.bool true)], args := [d1, d2] }
  | _ => none }
def tevalMatchesAmountRow : OpenClaim := { program := "ytophdbbbojnobaa", sum := "e0f7957f6fda6a1972c249e78a4ca81be8236814fa929339e6c0a17281021db0", func := "wagonpool/wagonpoollaw18.TevalMatchesAmount", spec := "tevalMatchesAmount", unfollowed := true, recurses := true, loops := true, apart := false }
def TevalMatchesAmountSaid : Prop := tevalMatchesAmountRow.holds Try.pinned (OpenSpec.ofChange tevalMatchesAmountSpec)

/-- ITS FALSE NEIGHBOUR: 'it returns false'. Refute it at one input. -/
def tevalMatchesAmountWrong : ChangeSpec := { name := "tevalMatchesAmount", fn := fun _ => fun
  | [d1, d2] => { results := [.lit (.bool false)], args := [d1, d2] }
  | _ => none }
def TevalMatchesAmountWrongFalsely : Prop := tevalMatchesAmountRow.holds Try.pinned (OpenSpec.ofChange tevalMatchesAmountWrong)

/-- 'wagonpoollaw18.TevalLocal': WHATEVER THE INPUT: true; the input reads as it did. -/
def tevalLocalSpec : ChangeSpec := { name := "tevalLocal", fn := fun _ => fun
  | [d1, d2, d3] => { results := [.lit (.bool true)], args := [d1, d2, d3] }
  | _ => none }
def tevalLocalRow : OpenClaim := { program := "ytophdbbbojnobaa", sum := "e0f7957f6fda6a1972c249e78a4ca81be8236814fa929339e6c0a17281021db0", func := "wagonpool/wagonpoollaw18.TevalLocal", spec := "tevalLocal", unfollowed := true, recurses := true, loops := true, apart := false }
def TevalLocalSaid : Prop := tevalLocalRow.holds Try.pinned (OpenSpec.ofChange tevalLocalSpec)

/-- ITS FALSE NEIGHBOUR: 'it returns false'. Refute it at one input. -/
def tevalLocalWrong : ChangeSpec := { name := "tevalLocal", fn := fun _ => fun
  | [d1, d2, d3] => { results := [.lit (.bool false)], args := [d1, d2, d3] }
  | _ => none }
def TevalLocalWrongFalsely : Prop := tevalLocalRow.holds Try.pinned (OpenSpec.ofChange tevalLocalWrong)

/-- 'wagonpoollaw18.TevalCombines': WHATEVER THE INPUT: true; the input reads as it did. -/
def tevalCombinesSpec : ChangeSpec := { name := "tevalCombines", fn := fun _ => fun
  | [d1, d2, d3] => { results := [.lit (.bool true)], args := [d1, d2, d3] }
  | _ => none }
def tevalCombinesRow : OpenClaim := { program := "ytophdbbbojnobaa", sum := "e0f7957f6fda6a1972c249e78a4ca81be8236814fa929339e6c0a17281021db0", func := "wagonpool/wagonpoollaw18.TevalCombines", spec := "tevalCombines", unfollowed := true, recurses := true, loops := true, apart := false }
def TevalCombinesSaid : Prop := tevalCombinesRow.holds Try.pinned (OpenSpec.ofChange tevalCombinesSpec)

/-- ITS FALSE NEIGHBOUR: 'it returns false'. Refute it at one input. -/
def tevalCombinesWrong : ChangeSpec := { name := "tevalCombines", fn := fun _ => fun
  | [d1, d2, d3] => { results := [.lit (.bool false)], args := [d1, d2, d3] }
  | _ => none }
def TevalCombinesWrongFalsely : Prop := tevalCombinesRow.holds Try.pinned (OpenSpec.ofChange tevalCombinesWrong)

/-- 'wagonpoollaw18.TevalChooses': WHATEVER THE INPUT: true; the input reads as it did. -/
def tevalChoosesSpec : ChangeSpec := { name := "tevalChooses", fn := fun _ => fun
  | [d1, d2, d3, d4, d5] => { results := [.lit (.bool true)], args := [d1, d2, d3, d4, d5] }
  | _ => none }
def tevalChoosesRow : OpenClaim := { program := "ytophdbbbojnobaa", sum := "e0f7957f6fda6a1972c249e78a4ca81be8236814fa929339e6c0a17281021db0", func := "wagonpool/wagonpoollaw18.TevalChooses", spec := "tevalChooses", unfollowed := true, recurses := true, loops := true, apart := false }
def TevalChoosesSaid : Prop := tevalChoosesRow.holds Try.pinned (OpenSpec.ofChange tevalChoosesSpec)

/-- ITS FALSE NEIGHBOUR: 'it returns false'. Refute it at one input. -/
def tevalChoosesWrong : ChangeSpec := { name := "tevalChooses", fn := fun _ => fun
  | [d1, d2, d3, d4, d5] => { results := [.lit (.bool false)], args := [d1, d2, d3, d4, d5] }
  | _ => none }
def TevalChoosesWrongFalsely : Prop := tevalChoosesRow.holds Try.pinned (OpenSpec.ofChange tevalChoosesWrong)

/-- 'wagonpoollaw18.TevalFirst': WHATEVER THE INPUT: true; the input reads as it did. -/
def tevalFirstSpec : ChangeSpec := { name := "tevalFirst", fn := fun _ => fun
  | [d1, d2] => { results := [.lit (.bool true)], args := [d1, d2] }
  | _ => none }
def tevalFirstRow : OpenClaim := { program := "ytophdbbbojnobaa", sum := "e0f7957f6fda6a1972c249e78a4ca81be8236814fa929339e6c0a17281021db0", func := "wagonpool/wagonpoollaw18.TevalFirst", spec := "tevalFirst", unfollowed := true, recurses := true, loops := true, apart := false }
def TevalFirstSaid : Prop := tevalFirstRow.holds Try.pinned (OpenSpec.ofChange tevalFirstSpec)

/-- ITS FALSE NEIGHBOUR: 'it returns false'. Refute it at one input. -/
def tevalFirstWrong : ChangeSpec := { name := "tevalFirst", fn := fun _ => fun
  | [d1, d2] => { results := [.lit (.bool false)], args := [d1, d2] }
  | _ => none }
def TevalFirstWrongFalsely : Prop := tevalFirstRow.holds Try.pinned (OpenSpec.ofChange tevalFirstWrong)

/- THE SECOND FORM. 'bulk': how many values and letters a reading holds, each counted each time it is reached (what is shared counts as often as it is met; a slice's spare places count too). A statement '..UptoSaid' is the law's where the arguments, and the package variables that the reading takes, are together of bulk at most 1048576: NARROWER than '..Said'. Prove '..Said' where nothing that the law and all that it calls make is longer than what came in: it says more and counts as full. Else prove '..UptoSaid'. A law counts once. -/
mutual
def uptoBulk {H : Type} : DataW H → Nat
  | .lit (.string bytes) => bytes.length + 1
  | .lit _ => 1
  | .nil => 1
  | .ptr d => uptoBulk d + 1
  | .slice elems spare => uptoBulkAll elems + uptoBulkAll spare + 1
  | .agg parts => uptoBulkAll parts + 1
  | .iface _ d => uptoBulk d + 1
  | .map entries => uptoBulkEntries entries + 1
  | .held _ => 1
def uptoBulkAll {H : Type} : List (DataW H) → Nat
  | [] => 0
  | d :: r => uptoBulk d + uptoBulkAll r
def uptoBulkEntries {H : Type} : List (Lit × DataW H) → Nat
  | [] => 0
  | x :: r => uptoBulkEntry x + uptoBulkEntries r
def uptoBulkEntry {H : Type} : Lit × DataW H → Nat
  | (.string bytes, d) => bytes.length + uptoBulk d + 1
  | (_, d) => uptoBulk d + 1
 end
def uptoSmall : (H : Type) → List (DataW H) → Bool := fun _ ds => decide (uptoBulkAll ds ≤ 1048576)
def OpenSpec.upto (s : _root_.Go.ChangeSpec) : _root_.Go.OpenSpec := { _root_.Go.OpenSpec.ofChange s with cond := some uptoSmall }

/-- 'wagonpoollaw18.TevalMatches', WHERE WHAT IT READS IS OF BULK AT MOST 1048576: true; the input reads as it did. -/
def tevalMatchesUptoRow : OpenClaim := { program := "ytophdbbbojnobaa", sum := "e0f7957f6fda6a1972c249e78a4ca81be8236814fa929339e6c0a17281021db0", func := "wagonpool/wagonpoollaw18.TevalMatches", spec := "tevalMatches", unfollowed := true, recurses := true, loops := true, apart := false, narrowed := true }
def TevalMatchesUptoSaid : Prop := tevalMatchesUptoRow.holds Try.pinned (OpenSpec.upto tevalMatchesSpec)

/-- 'wagonpoollaw18.TevalMatchesAmount', WHERE WHAT IT READS IS OF BULK AT MOST 1048576: true; the input reads as it did. -/
def tevalMatchesAmountUptoRow : OpenClaim := { program := "ytophdbbbojnobaa", sum := "e0f7957f6fda6a1972c249e78a4ca81be8236814fa929339e6c0a17281021db0", func := "wagonpool/wagonpoollaw18.TevalMatchesAmount", spec := "tevalMatchesAmount", unfollowed := true, recurses := true, loops := true, apart := false, narrowed := true }
def TevalMatchesAmountUptoSaid : Prop := tevalMatchesAmountUptoRow.holds Try.pinned (OpenSpec.upto tevalMatchesAmountSpec)

/-- 'wagonpoollaw18.TevalLocal', WHERE WHAT IT READS IS OF BULK AT MOST 1048576: true; the input reads as it did. -/
def tevalLocalUptoRow : OpenClaim := { program := "ytophdbbbojnobaa", sum := "e0f7957f6fda6a1972c249e78a4ca81be8236814fa929339e6c0a17281021db0", func := "wagonpool/wagonpoollaw18.TevalLocal", spec := "tevalLocal", unfollowed := true, recurses := true, loops := true, apart := false, narrowed := true }
def TevalLocalUptoSaid : Prop := tevalLocalUptoRow.holds Try.pinned (OpenSpec.upto tevalLocalSpec)

/-- 'wagonpoollaw18.TevalCombines', WHERE WHAT IT READS IS OF BULK AT MOST 1048576: true; the input reads as it did. -/
def tevalCombinesUptoRow : OpenClaim := { program := "ytophdbbbojnobaa", sum := "e0f7957f6fda6a1972c249e78a4ca81be8236814fa929339e6c0a17281021db0", func := "wagonpool/wagonpoollaw18.TevalCombines", spec := "tevalCombines", unfollowed := true, recurses := true, loops := true, apart := false, narrowed := true }
def TevalCombinesUptoSaid : Prop := tevalCombinesUptoRow.holds Try.pinned (OpenSpec.upto tevalCombinesSpec)

/-- 'wagonpoollaw18.TevalChooses', WHERE WHAT IT READS IS OF BULK AT MOST 1048576: true; the input reads as it did. -/
def tevalChoosesUptoRow : OpenClaim := { program := "ytophdbbbojnobaa", sum := "e0f7957f6fda6a1972c249e78a4ca81be8236814fa929339e6c0a17281021db0", func := "wagonpool/wagonpoollaw18.TevalChooses", spec := "tevalChooses", unfollowed := true, recurses := true, loops := true, apart := false, narrowed := true }
def TevalChoosesUptoSaid : Prop := tevalChoosesUptoRow.holds Try.pinned (OpenSpec.upto tevalChoosesSpec)

/-- 'wagonpoollaw18.TevalFirst', WHERE WHAT IT READS IS OF BULK AT MOST 1048576: true; the input reads as it did. -/
def tevalFirstUptoRow : OpenClaim := { program := "ytophdbbbojnobaa", sum := "e0f7957f6fda6a1972c249e78a4ca81be8236814fa929339e6c0a17281021db0", func := "wagonpool/wagonpoollaw18.TevalFirst", spec := "tevalFirst", unfollowed := true, recurses := true, loops := true, apart := false, narrowed := true }
def TevalFirstUptoSaid : Prop := tevalFirstUptoRow.holds Try.pinned (OpenSpec.upto tevalFirstSpec)

end Rows
end Go.Proofs.Ytophdbbbojnobaa
