/- The chapter's examples: sane returns true. -/
import Derived.Test.YtophdbbbojnobaaProg
import Derived.Test.YtophdbbbojnobaaSaneR
namespace Go.Proofs.Ytophdbbbojnobaa
open Go.RowKit
set_option linter.unusedVariables false

set_option maxHeartbeats 4000000 in
set_option maxRecDepth 100000 in
theorem sane_any (w : World) : Calls Try.prog 9 #[] w fun en w' => en = .returned (.bool true) ∧ Ext w w' := by
  go_enter Try.func9, Try.ntmps9
  go_wp2_with fail
  refine (attribute_any _ _).mono ?_
  rintro e1 w1 ⟨rfl, hx1⟩
  have hr1 : w1.rangeAt w.heap.size 0 ev0.cells := by
    refine hx1.range ?_
    intro j v hv
    clear hx1
    simp [go_sem]
    exact hv
  have HX1 := Lib.hid (Ext.trans ((Ext.refl w).alloc _) hx1 : Ext w w1)
  clear hx1
  unfold leafCells
  go_wp2_with fail
  refine (attribute_any _ _).mono ?_
  rintro e2 w2 ⟨rfl, hx2⟩
  have HX2 := Lib.hid (Ext.trans ((Ext.refl _).alloc _) hx2 : Ext w1 w2)
  have hr2 : w2.rangeAt w1.heap.size 0 (leafCells 2 5) := hx2.range fun j v hv => by simpa [go_sem, leafCells] using hv
  have HR2 := Lib.hid hr2
  have HR1 := Lib.hid hr1
  clear hx2 hr2 hr1
  unfold leafCells
  go_wp2_with fail
  refine (attribute_any _ _).mono ?_
  rintro e3 w3 ⟨rfl, hx3⟩
  have HX3 := Lib.hid (Ext.trans ((Ext.refl _).alloc _) hx3 : Ext w2 w3)
  have hr3 : w3.rangeAt w2.heap.size 0 (leafCells 2 6) := hx3.range fun j v hv => by simpa [go_sem, leafCells] using hv
  have HR3 := Lib.hid hr3
  clear hx3 hr3
  unfold leafCells
  go_wp2_with fail
  generalize hWW : World.alloc _ _ = W
  have h3 : Ext w3 W := hWW ▸ (Ext.refl _).alloc _
  have hr4 : W.rangeAt w3.heap.size 0 (leafCells 2 4) := hWW ▸ fun j v hv => by simpa [go_sem, leafCells] using hv
  refine sr7 _ _ _ rfl ⟨_, _, rfl, rfl, h3.range HR3.out, rfl⟩ ⟨_, _, rfl, rfl, hr4, rfl⟩ fun a7 W7 hx7 ho7 hs7 hd7 f7 => ?_
  have g1 : VarP 17 (Is (.agg ev0.cells.toArray)) W7 (a7.eval (.tmp 1)) := by
    rw [ho7 1 rfl]
    exact ⟨_, _, rfl, rfl, ((HX2.out.trans HX3.out).trans (h3.trans hx7)).range HR1.out, rfl⟩
  have g2 : VarP 7 (Is (.agg (leafCells 2 5).toArray)) W7 (a7.eval (.tmp 2)) := by
    rw [ho7 2 rfl]
    exact ⟨_, _, rfl, rfl, (HX3.out.trans (h3.trans hx7)).range HR2.out, rfl⟩
  have g3 : VarP 7 (Is (.agg (leafCells 2 6).toArray)) W7 (a7.eval (.tmp 3)) := by
    rw [ho7 3 rfl]
    exact ⟨_, _, rfl, rfl, (h3.trans hx7).range HR3.out, rfl⟩
  have g4 : VarP 7 (Is (.agg (leafCells 2 4).toArray)) W7 (a7.eval (.tmp 4)) := by
    rw [ho7 4 rfl]
    exact ⟨_, _, rfl, rfl, hx7.range hr4, rfl⟩
  have g5 := f7
  have hW : Ext w W7 := HX1.out.trans (HX2.out.trans (HX3.out.trans (h3.trans hx7)))
  replace hd7 : a7.defers = [] := hd7
  clear f7 ho7 hx7 hr4 h3 HX1 HX2 HX3 HR1 HR2 HR3
  go_step
  go_step
  go_step
  refine sr8 _ _ _ hs7 g3 g4 fun a8 W8 hx8 ho8 hs8 hd8 g6 => ?_
  replace g1 : (VarP 17 (Is (.agg ev0.cells.toArray))) W8 (a8.eval (.tmp 1)) := by rw [ho8 1 rfl]; exact (VarP.st (Is.st _)) _ _ _ hx8 g1
  replace g2 : (VarP 7 (Is (.agg (leafCells 2 5).toArray))) W8 (a8.eval (.tmp 2)) := by rw [ho8 2 rfl]; exact (VarP.st (Is.st _)) _ _ _ hx8 g2
  replace g3 : (VarP 7 (Is (.agg (leafCells 2 6).toArray))) W8 (a8.eval (.tmp 3)) := by rw [ho8 3 rfl]; exact (VarP.st (Is.st _)) _ _ _ hx8 g3
  replace g4 : (VarP 7 (Is (.agg (leafCells 2 4).toArray))) W8 (a8.eval (.tmp 4)) := by rw [ho8 4 rfl]; exact (VarP.st (Is.st _)) _ _ _ hx8 g4
  replace g5 : (VarP 7 (ExD 11 ch1)) W8 (a8.eval (.tmp 5)) := by rw [ho8 5 rfl]; exact (VarP.st ExD.st) _ _ _ hx8 g5
  replace hW : Ext w W8 := hW.trans hx8
  replace hd7 : a8.defers = [] := hd8.trans hd7
  clear hx8 ho8 hd8
  go_step
  go_step
  go_step
  refine sr9 _ _ _ hs8 g1 fun a9 W9 hx9 ho9 hs9 hd9 g7 g8 => ?_
  replace g1 : (VarP 17 (Is (.agg ev0.cells.toArray))) W9 (a9.eval (.tmp 1)) := by rw [ho9 1 rfl]; exact (VarP.st (Is.st _)) _ _ _ hx9 g1
  replace g2 : (VarP 7 (Is (.agg (leafCells 2 5).toArray))) W9 (a9.eval (.tmp 2)) := by rw [ho9 2 rfl]; exact (VarP.st (Is.st _)) _ _ _ hx9 g2
  replace g3 : (VarP 7 (Is (.agg (leafCells 2 6).toArray))) W9 (a9.eval (.tmp 3)) := by rw [ho9 3 rfl]; exact (VarP.st (Is.st _)) _ _ _ hx9 g3
  replace g4 : (VarP 7 (Is (.agg (leafCells 2 4).toArray))) W9 (a9.eval (.tmp 4)) := by rw [ho9 4 rfl]; exact (VarP.st (Is.st _)) _ _ _ hx9 g4
  replace g5 : (VarP 7 (ExD 11 ch1)) W9 (a9.eval (.tmp 5)) := by rw [ho9 5 rfl]; exact (VarP.st ExD.st) _ _ _ hx9 g5
  replace g6 : (VarP 7 (ExD 11 ch2)) W9 (a9.eval (.tmp 6)) := by rw [ho9 6 rfl]; exact (VarP.st ExD.st) _ _ _ hx9 g6
  replace hW : Ext w W9 := hW.trans hx9
  replace hd7 : a9.defers = [] := hd9.trans hd7
  clear hx9 ho9 hd9
  go_step
  go_step
  go_step
  refine sr10 _ _ _ hs9 g1 fun a10 W10 hx10 ho10 hs10 hd10 g9 g10 => ?_
  replace g1 : (VarP 17 (Is (.agg ev0.cells.toArray))) W10 (a10.eval (.tmp 1)) := by rw [ho10 1 rfl]; exact (VarP.st (Is.st _)) _ _ _ hx10 g1
  replace g2 : (VarP 7 (Is (.agg (leafCells 2 5).toArray))) W10 (a10.eval (.tmp 2)) := by rw [ho10 2 rfl]; exact (VarP.st (Is.st _)) _ _ _ hx10 g2
  replace g3 : (VarP 7 (Is (.agg (leafCells 2 6).toArray))) W10 (a10.eval (.tmp 3)) := by rw [ho10 3 rfl]; exact (VarP.st (Is.st _)) _ _ _ hx10 g3
  replace g4 : (VarP 7 (Is (.agg (leafCells 2 4).toArray))) W10 (a10.eval (.tmp 4)) := by rw [ho10 4 rfl]; exact (VarP.st (Is.st _)) _ _ _ hx10 g4
  replace g5 : (VarP 7 (ExD 11 ch1)) W10 (a10.eval (.tmp 5)) := by rw [ho10 5 rfl]; exact (VarP.st ExD.st) _ _ _ hx10 g5
  replace g6 : (VarP 7 (ExD 11 ch2)) W10 (a10.eval (.tmp 6)) := by rw [ho10 6 rfl]; exact (VarP.st ExD.st) _ _ _ hx10 g6
  replace g7 : (Is (.bool true)) W10 (a10.eval (.tmp 7)) := by rw [ho10 7 rfl]; exact (Is.st _) _ _ _ hx10 g7
  replace g8 : (Is (.int .i64 0)) W10 (a10.eval (.tmp 8)) := by rw [ho10 8 rfl]; exact (Is.st _) _ _ _ hx10 g8
  replace hW : Ext w W10 := hW.trans hx10
  replace hd7 : a10.defers = [] := hd10.trans hd7
  clear hx10 ho10 hd10
  go_step
  go_step
  go_step
  refine sr11 _ _ _ hs10  fun a11 W11 hx11 ho11 hs11 hd11 g11 => ?_
  replace g1 : (VarP 17 (Is (.agg ev0.cells.toArray))) W11 (a11.eval (.tmp 1)) := by rw [ho11 1 rfl]; exact (VarP.st (Is.st _)) _ _ _ hx11 g1
  replace g2 : (VarP 7 (Is (.agg (leafCells 2 5).toArray))) W11 (a11.eval (.tmp 2)) := by rw [ho11 2 rfl]; exact (VarP.st (Is.st _)) _ _ _ hx11 g2
  replace g3 : (VarP 7 (Is (.agg (leafCells 2 6).toArray))) W11 (a11.eval (.tmp 3)) := by rw [ho11 3 rfl]; exact (VarP.st (Is.st _)) _ _ _ hx11 g3
  replace g4 : (VarP 7 (Is (.agg (leafCells 2 4).toArray))) W11 (a11.eval (.tmp 4)) := by rw [ho11 4 rfl]; exact (VarP.st (Is.st _)) _ _ _ hx11 g4
  replace g5 : (VarP 7 (ExD 11 ch1)) W11 (a11.eval (.tmp 5)) := by rw [ho11 5 rfl]; exact (VarP.st ExD.st) _ _ _ hx11 g5
  replace g6 : (VarP 7 (ExD 11 ch2)) W11 (a11.eval (.tmp 6)) := by rw [ho11 6 rfl]; exact (VarP.st ExD.st) _ _ _ hx11 g6
  replace g7 : (Is (.bool true)) W11 (a11.eval (.tmp 7)) := by rw [ho11 7 rfl]; exact (Is.st _) _ _ _ hx11 g7
  replace g8 : (Is (.int .i64 0)) W11 (a11.eval (.tmp 8)) := by rw [ho11 8 rfl]; exact (Is.st _) _ _ _ hx11 g8
  replace g9 : (Is (.bool false)) W11 (a11.eval (.tmp 9)) := by rw [ho11 9 rfl]; exact (Is.st _) _ _ _ hx11 g9
  replace g10 : (Is (.int .i64 0)) W11 (a11.eval (.tmp 10)) := by rw [ho11 10 rfl]; exact (Is.st _) _ _ _ hx11 g10
  replace hW : Ext w W11 := hW.trans hx11
  replace hd7 : a11.defers = [] := hd11.trans hd7
  clear hx11 ho11 hd11
  go_step
  go_step
  go_step
  refine sr12 _ _ _ hs11 g1 g11 fun a12 W12 hx12 ho12 hs12 hd12 g12 g13 g14 => ?_
  replace g1 : (VarP 17 (Is (.agg ev0.cells.toArray))) W12 (a12.eval (.tmp 1)) := by rw [ho12 1 rfl]; exact (VarP.st (Is.st _)) _ _ _ hx12 g1
  replace g2 : (VarP 7 (Is (.agg (leafCells 2 5).toArray))) W12 (a12.eval (.tmp 2)) := by rw [ho12 2 rfl]; exact (VarP.st (Is.st _)) _ _ _ hx12 g2
  replace g3 : (VarP 7 (Is (.agg (leafCells 2 6).toArray))) W12 (a12.eval (.tmp 3)) := by rw [ho12 3 rfl]; exact (VarP.st (Is.st _)) _ _ _ hx12 g3
  replace g4 : (VarP 7 (Is (.agg (leafCells 2 4).toArray))) W12 (a12.eval (.tmp 4)) := by rw [ho12 4 rfl]; exact (VarP.st (Is.st _)) _ _ _ hx12 g4
  replace g5 : (VarP 7 (ExD 11 ch1)) W12 (a12.eval (.tmp 5)) := by rw [ho12 5 rfl]; exact (VarP.st ExD.st) _ _ _ hx12 g5
  replace g6 : (VarP 7 (ExD 11 ch2)) W12 (a12.eval (.tmp 6)) := by rw [ho12 6 rfl]; exact (VarP.st ExD.st) _ _ _ hx12 g6
  replace g7 : (Is (.bool true)) W12 (a12.eval (.tmp 7)) := by rw [ho12 7 rfl]; exact (Is.st _) _ _ _ hx12 g7
  replace g8 : (Is (.int .i64 0)) W12 (a12.eval (.tmp 8)) := by rw [ho12 8 rfl]; exact (Is.st _) _ _ _ hx12 g8
  replace g9 : (Is (.bool false)) W12 (a12.eval (.tmp 9)) := by rw [ho12 9 rfl]; exact (Is.st _) _ _ _ hx12 g9
  replace g10 : (Is (.int .i64 0)) W12 (a12.eval (.tmp 10)) := by rw [ho12 10 rfl]; exact (Is.st _) _ _ _ hx12 g10
  replace g11 : (VarP 3 (TfP tf1)) W12 (a12.eval (.tmp 11)) := by rw [ho12 11 rfl]; exact (VarP.st TfP.st) _ _ _ hx12 g11
  replace hW : Ext w W12 := hW.trans hx12
  replace hd7 : a12.defers = [] := hd12.trans hd7
  clear hx12 ho12 hd12
  go_step
  go_step
  go_step
  go_step
  refine sr13 _ _ _ hs12 g1 g2 g3 fun a13 W13 hx13 ho13 hs13 hd13 g101 => ?_
  replace g1 : (VarP 17 (Is (.agg ev0.cells.toArray))) W13 (a13.eval (.tmp 1)) := by rw [ho13 1 rfl]; exact (VarP.st (Is.st _)) _ _ _ hx13 g1
  replace g2 : (VarP 7 (Is (.agg (leafCells 2 5).toArray))) W13 (a13.eval (.tmp 2)) := by rw [ho13 2 rfl]; exact (VarP.st (Is.st _)) _ _ _ hx13 g2
  replace g3 : (VarP 7 (Is (.agg (leafCells 2 6).toArray))) W13 (a13.eval (.tmp 3)) := by rw [ho13 3 rfl]; exact (VarP.st (Is.st _)) _ _ _ hx13 g3
  replace g4 : (VarP 7 (Is (.agg (leafCells 2 4).toArray))) W13 (a13.eval (.tmp 4)) := by rw [ho13 4 rfl]; exact (VarP.st (Is.st _)) _ _ _ hx13 g4
  replace g5 : (VarP 7 (ExD 11 ch1)) W13 (a13.eval (.tmp 5)) := by rw [ho13 5 rfl]; exact (VarP.st ExD.st) _ _ _ hx13 g5
  replace g6 : (VarP 7 (ExD 11 ch2)) W13 (a13.eval (.tmp 6)) := by rw [ho13 6 rfl]; exact (VarP.st ExD.st) _ _ _ hx13 g6
  replace g7 : (Is (.bool true)) W13 (a13.eval (.tmp 7)) := by rw [ho13 7 rfl]; exact (Is.st _) _ _ _ hx13 g7
  replace g8 : (Is (.int .i64 0)) W13 (a13.eval (.tmp 8)) := by rw [ho13 8 rfl]; exact (Is.st _) _ _ _ hx13 g8
  replace g9 : (Is (.bool false)) W13 (a13.eval (.tmp 9)) := by rw [ho13 9 rfl]; exact (Is.st _) _ _ _ hx13 g9
  replace g10 : (Is (.int .i64 0)) W13 (a13.eval (.tmp 10)) := by rw [ho13 10 rfl]; exact (Is.st _) _ _ _ hx13 g10
  replace g11 : (VarP 3 (TfP tf1)) W13 (a13.eval (.tmp 11)) := by rw [ho13 11 rfl]; exact (VarP.st TfP.st) _ _ _ hx13 g11
  replace g12 : (Is (.int .i64 2)) W13 (a13.eval (.tmp 12)) := by rw [ho13 12 rfl]; exact (Is.st _) _ _ _ hx13 g12
  replace g13 : (Is (.int .i64 1)) W13 (a13.eval (.tmp 13)) := by rw [ho13 13 rfl]; exact (Is.st _) _ _ _ hx13 g13
  replace g14 : (Is (.int .i64 0)) W13 (a13.eval (.tmp 14)) := by rw [ho13 14 rfl]; exact (Is.st _) _ _ _ hx13 g14
  replace hW : Ext w W13 := hW.trans hx13
  replace hd7 : a13.defers = [] := hd13.trans hd7
  clear hx13 ho13 hd13
  go_step
  go_step
  refine wp_cond_split (t := false) g101 (fun h => Bool.noConfusion h) fun _ => ?_
  go_step
  go_step
  go_step
  go_step
  refine sr15 _ _ _ hs13 g1 g3 g5 g6 g7 g8 g9 g10 g12 g13 g14 fun a15 W15 hx15 ho15 hs15 hd15 g0 => ?_
  go_step
  go_step
  go_step
  refine bodyPost_ret (v := .bool true) ?_ (hd15.trans hd7) ⟨rfl, hW.trans hx15⟩
  rw [results_tmp (t := 0) Try.results9]
  exact congrArg (fun v => Result.ok v W15) g0
end Go.Proofs.Ytophdbbbojnobaa
