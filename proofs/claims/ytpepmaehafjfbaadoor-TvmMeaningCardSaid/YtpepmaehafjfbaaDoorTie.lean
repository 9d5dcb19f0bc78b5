/-
  DERIVED. GIVEN WITH THE SEED: THE PROGRAM's TIES (one call each: nine closed facts by the kernel) AND EACH ROW's TIE, after the 31st guide's Derived/Test/Toyas{Tie, Card}.lean. No idea stands in it: it is a product of the set-up. Laid BY PROGRAM, IN A SANDBOX (cutbox-door.mjs). By AI agents, Wed Nov 11 2026. No macro, syntax, notation, axiom, sorry.
-/
import Derived.Test.YtpepmaehafjfbaaDoorRows
import Derived.LaidByTextLater
import Derived.SevenTiedAt
import Derived.LaidSub
import Derived.LaidOnce
namespace Go.Proofs.YtpepmaehafjfbaaDoor
open Go
set_option maxRecDepth 100000
theorem seatTie1 : Tryd.prog.laidByTextLater [("unicode/utf8.acceptRanges", Rows.laid_unicode_utf8_acceptRanges), ("wagonpool/tlex.reserved", Rows.laid_wagonpool_tlex_reserved), ("wagonpool/tvm.binaries", Rows.laid_wagonpool_tvm_binaries)] [.data, .mapped, .funcs] true :=
  Program.laidByTextLater_by_one 283 8 33 (by kernel_rfl) (by kernel_rfl) (by kernel_rfl) (by kernel_rfl) (by kernel_rfl) (by kernel_rfl) (fun _ _ => by kernel_rfl)
theorem pin_laid_unicode_utf8_first : Tryd.pinned.checked.prog.pinnedFits "unicode/utf8.first" = true := by kernel_rfl
theorem noOwnUnsafe : Tryd.pinned.checked.prog.headLifts.contains "ownunsafe" = false := by kernel_rfl
theorem fits1 : Tryd.pinned.checked.prog.listedFits [("unicode/utf8.acceptRanges", Rows.laid_unicode_utf8_acceptRanges), ("wagonpool/tlex.reserved", Rows.laid_wagonpool_tlex_reserved), ("wagonpool/tvm.binaries", Rows.laid_wagonpool_tvm_binaries), ("unicode/utf8.first", Rows.laid_unicode_utf8_first)] = true := by
  unfold Program.listedFits
  rw [noOwnUnsafe]
  kernel_rfl
theorem tie : Tryd.prog.laidByTextLater [("unicode/utf8.acceptRanges", Rows.laid_unicode_utf8_acceptRanges), ("wagonpool/tlex.reserved", Rows.laid_wagonpool_tlex_reserved), ("wagonpool/tvm.binaries", Rows.laid_wagonpool_tvm_binaries)] [.data, .mapped, .funcs] true :=
  Program.laidByTextLater.sub seatTie1 ["unicode/utf8.acceptRanges", "wagonpool/tlex.reserved", "wagonpool/tvm.binaries"] (by kernel_rfl) (by kernel_rfl)
theorem tvmMeaning_row_tie : Rows.tvmMeaningRow.laidByTextAt .later Tryd.pinned [.data, .mapped, .funcs, .pinned] true :=
  OpenClaim.laidByTextAt_pinned rfl rfl tie rfl rfl rfl rfl (fun y hy _e => by
    simp only [Rows.tvmMeaningRow, List.zip_cons_cons, List.zip_nil_right, List.mem_cons, List.mem_nil_iff, or_false] at hy
    rcases hy with rfl | rfl | rfl | rfl
    · cases _e
    · cases _e
    · cases _e
    · exact ⟨pin_laid_unicode_utf8_first, by kernel_rfl⟩) fits1
theorem tvmMeaningUpto_row_tie : Rows.tvmMeaningUptoRow.laidByTextAt .later Tryd.pinned [.data, .mapped, .funcs, .pinned] true :=
  OpenClaim.laidByTextAt_pinned rfl rfl tie rfl rfl rfl rfl (fun y hy _e => by
    simp only [Rows.tvmMeaningUptoRow, List.zip_cons_cons, List.zip_nil_right, List.mem_cons, List.mem_nil_iff, or_false] at hy
    rcases hy with rfl | rfl | rfl | rfl
    · cases _e
    · cases _e
    · cases _e
    · exact ⟨pin_laid_unicode_utf8_first, by kernel_rfl⟩) fits1
end Go.Proofs.YtpepmaehafjfbaaDoor
