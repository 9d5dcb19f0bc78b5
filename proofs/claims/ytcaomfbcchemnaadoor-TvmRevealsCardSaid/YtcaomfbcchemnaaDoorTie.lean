/-
  DERIVED. GIVEN WITH THE SEED: THE PROGRAM's TIES (one call each: nine closed facts by the kernel) AND EACH ROW's TIE, after the 31st guide's Derived/Test/Toyas{Tie, Card}.lean. No idea stands in it: it is a product of the set-up. Laid BY PROGRAM, IN A SANDBOX (cutbox-door.mjs). By AI agents, Wed Nov 11 2026. No macro, syntax, notation, axiom, sorry.
-/
import Derived.Test.YtcaomfbcchemnaaDoorRows
import Derived.LaidByTextLater
import Derived.SevenTiedAt
import Derived.LaidSub
import Derived.LaidOnce
namespace Go.Proofs.YtcaomfbcchemnaaDoor
open Go
set_option maxRecDepth 100000
theorem seatTie1 : Tryd.prog.laidByTextLater [("wagonpool/digest.k", Rows.laid_wagonpool_digest_k), ("wagonpool/tvm.binaries", Rows.laid_wagonpool_tvm_binaries)] [.data, .funcs] true :=
  Program.laidByTextLater_by_one 73 8 65 (by kernel_rfl) (by kernel_rfl) (by kernel_rfl) (by kernel_rfl) (by kernel_rfl) (by kernel_rfl) (fun _ _ => by kernel_rfl)
theorem noOwnUnsafe : Tryd.pinned.checked.prog.headLifts.contains "ownunsafe" = false := by kernel_rfl
theorem tie : Tryd.prog.laidByTextLater [("wagonpool/tvm.binaries", Rows.laid_wagonpool_tvm_binaries)] [.funcs] true :=
  Program.laidByTextLater.sub seatTie1 ["wagonpool/tvm.binaries"] (by kernel_rfl) (by kernel_rfl)
theorem tvmEnds_row_tie : Rows.tvmEndsRow.laidByTextAt .later Tryd.pinned [.funcs] true :=
  OpenClaim.laidByTextAt_later rfl rfl tie noOwnUnsafe
theorem tvmMatches_row_tie : Rows.tvmMatchesRow.laidByTextAt .later Tryd.pinned [.funcs] true :=
  OpenClaim.laidByTextAt_later rfl rfl tie noOwnUnsafe
theorem tvmSteps_row_tie : Rows.tvmStepsRow.laidByTextAt .later Tryd.pinned [.funcs] true :=
  OpenClaim.laidByTextAt_later rfl rfl tie noOwnUnsafe
theorem tie2 : Tryd.prog.laidByTextLater [("wagonpool/digest.k", Rows.laid_wagonpool_digest_k), ("wagonpool/tvm.binaries", Rows.laid_wagonpool_tvm_binaries)] [.data, .funcs] true :=
  Program.laidByTextLater.sub seatTie1 ["wagonpool/digest.k", "wagonpool/tvm.binaries"] (by kernel_rfl) (by kernel_rfl)
theorem tvmChains_row_tie : Rows.tvmChainsRow.laidByTextAt .later Tryd.pinned [.data, .funcs] true :=
  OpenClaim.laidByTextAt_later rfl rfl tie2 noOwnUnsafe
theorem tvmReveals_row_tie : Rows.tvmRevealsRow.laidByTextAt .later Tryd.pinned [.data, .funcs] true :=
  OpenClaim.laidByTextAt_later rfl rfl tie2 noOwnUnsafe
theorem tvmEndsUpto_row_tie : Rows.tvmEndsUptoRow.laidByTextAt .later Tryd.pinned [.funcs] true :=
  OpenClaim.laidByTextAt_later rfl rfl tie noOwnUnsafe
theorem tvmMatchesUpto_row_tie : Rows.tvmMatchesUptoRow.laidByTextAt .later Tryd.pinned [.funcs] true :=
  OpenClaim.laidByTextAt_later rfl rfl tie noOwnUnsafe
theorem tvmStepsUpto_row_tie : Rows.tvmStepsUptoRow.laidByTextAt .later Tryd.pinned [.funcs] true :=
  OpenClaim.laidByTextAt_later rfl rfl tie noOwnUnsafe
theorem tvmChainsUpto_row_tie : Rows.tvmChainsUptoRow.laidByTextAt .later Tryd.pinned [.data, .funcs] true :=
  OpenClaim.laidByTextAt_later rfl rfl tie2 noOwnUnsafe
theorem tvmRevealsUpto_row_tie : Rows.tvmRevealsUptoRow.laidByTextAt .later Tryd.pinned [.data, .funcs] true :=
  OpenClaim.laidByTextAt_later rfl rfl tie2 noOwnUnsafe
end Go.Proofs.YtcaomfbcchemnaaDoor
