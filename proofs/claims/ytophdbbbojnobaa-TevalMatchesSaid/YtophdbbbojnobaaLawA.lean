/- TevalMatches: the walk. -/
import Derived.Test.YtophdbbbojnobaaProg
import Derived.Test.YtophdbbbojnobaaSane
import Derived.Test.YtophdbbbojnobaaOpen
namespace Go.Proofs.Ytophdbbbojnobaa
open Go.RowKit
set_option linter.unusedVariables false

set_option maxHeartbeats 2000000 in
theorem tevalMatches_any (x : Ev) (hx : x.ok) (d : Nat) (cs : List Value) (e : Ex) (w : World) (he : ExIn w d cs e) :
    Calls Try.prog 3 #[.agg cs.toArray, .agg x.cells.toArray] w fun en w' => en = .returned (.bool true) ∧ Ext w w' := by
  have HXL := Lib.hid (show x.cells.length = 17 by simp [Ev.cells, hx.1])
  have HT := Lib.hid fun (W : World) (h : Ext w W) => EvalT_any x hx d cs e W (he.ext h)
  have HR := Lib.hid fun (W : World) (h : Ext w W) => EvalR_any x hx d cs e W (he.ext h)
  have HF := Lib.hid fun (W : World) (h : Ext w W) => few_any d cs e W (he.ext h)
  have HL := Lib.hid he.len
  obtain ⟨A0, cap0, u0, u1, u2, u3, rfl, _⟩ := he.open_
  clear he
  generalize hcs : [Value.int .i64 e.op, .int .i64 e.n, .int .i64 u0, .int .i64 u1, .int .i64 u2, .int .i64 u3, .slice A0 e.l.length cap0] = cs at HL HF HR HT
  have HRA := Lib.hid (show ((w.alloc (.cells cs.toArray 26)).alloc (.cells x.cells.toArray 29)).rangeAt w.heap.size 0 cs from by intro j v hv; simp [go_sem, hv])
  have HRB := Lib.hid (show ((w.alloc (.cells cs.toArray 26)).alloc (.cells x.cells.toArray 29)).rangeAt (w.heap.size + 1) 0 x.cells from by intro j v hv; simp [go_sem, hv])
  have HX0 := Lib.hid (show Ext w ((w.alloc (.cells cs.toArray 26)).alloc (.cells x.cells.toArray 29)) from ((Ext.refl _).alloc _).alloc _)
  subst hcs
  go_enter Try.func3, Try.ntmps3
  go_wp2_with fail
  refine (sane_any _).mono ?_
  rintro e1 w1 ⟨rfl, hx1⟩
  have HX1 := Lib.hid (HX0.out.trans hx1)
  have HRA1 := Lib.hid (hx1.range HRA.out)
  have HRB1 := Lib.hid (hx1.range HRB.out)
  clear hx1 HRA HRB HX0
  go_wp2_with (refine wpList_load_mid rfl 26 _ rfl w.heap.size 0 rfl _ _ HRA1.out Try.underlying26 rfl (by rw [HL.out]; exact info_expr) ?_)
  refine (HF.out w1 HX1.out).mono ?_
  rintro e2 w2 ⟨rfl, hx2⟩
  have HX2 := Lib.hid (HX1.out.trans hx2)
  have HRA2 := Lib.hid (hx2.range HRA1.out)
  have HRB2 := Lib.hid (hx2.range HRB1.out)
  clear hx2 HRA1 HRB1 HX1
  by_cases hfew : fewF e = true
  · rw [hfew]
    go_wp2_with first
      | (refine wpList_load_mid rfl 26 _ rfl w.heap.size 0 rfl _ _ HRA2.out Try.underlying26 rfl (by rw [HL.out]; exact info_expr) ?_)
      | (refine wpList_load_mid rfl 29 _ rfl (w.heap.size + 1) 0 rfl x.cells _ HRB2.out Try.underlying29 rfl (by rw [HXL.out]; exact info_env) ?_)
    refine (HT.out w2 HX2.out).mono ?_
    rintro e3 w3 ⟨rfl, hx3⟩
    have HX3 := Lib.hid (HX2.out.trans hx3)
    have HRA3 := Lib.hid (hx3.range HRA2.out)
    have HRB3 := Lib.hid (hx3.range HRB2.out)
    clear hx3 HRA2 HRB2 HX2
    generalize EvalF e x = p at *
    go_wp2_with first
      | (refine wpList_load_mid rfl 26 _ rfl w.heap.size 0 rfl _ _ HRA3.out Try.underlying26 rfl (by rw [HL.out]; exact info_expr) ?_)
      | (refine wpList_load_mid rfl 29 _ rfl (w.heap.size + 1) 0 rfl x.cells _ HRB3.out Try.underlying29 rfl (by rw [HXL.out]; exact info_env) ?_)
    refine (HR.out w3 HX3.out).mono ?_
    rintro e4 w4 ⟨rfl, hx4⟩
    have HX4 := Lib.hid (HX3.out.trans hx4)
    clear hx4
    go_wp2_with fail
    go_ret
    exact ⟨ret_bool (by simp), HX4.out⟩
  · rw [Bool.not_eq_true] at hfew
    rw [hfew]
    go_wp2_with fail
    go_ret
    exact ⟨rfl, HX2.out⟩
end Go.Proofs.Ytophdbbbojnobaa
