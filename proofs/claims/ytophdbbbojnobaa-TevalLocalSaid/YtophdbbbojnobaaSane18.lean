/- The law's own helpers: integer, attribute, pair, value, few, fewClauses, and the chapter's examples. -/
import Derived.Test.YtophdbbbojnobaaProg
import Derived.Test.YtophdbbbojnobaaAmount
namespace Go.Proofs.Ytophdbbbojnobaa
open Go.RowKit
set_option linter.unusedVariables false

/-- the cells of an expression without operands -/
def leafCells (op n : Int) : List Value := [.int .i64 op, .int .i64 n, .int .i64 0, .int .i64 0, .int .i64 0, .int .i64 0, .slice none 0 0]
theorem leaf_in (op n : Int) (h1 : I64 op) (h2 : I64 n) (w : World) (d : Nat) : ExIn w (d + 1) (leafCells op n) (.mk op n 0 0 0 0 []) :=
  ⟨.slice none 0 0, rfl, h1, h2, by constructor <;> decide, by constructor <;> decide, by constructor <;> decide, by constructor <;> decide, none, 0, rfl, by decide, by decide, fun h => absurd h (by decide)⟩

set_option maxHeartbeats 1000000 in
theorem integer_any (n : Int) (w : World) : Calls Try.prog 24 #[.int .i64 n] w fun en w' => en = .returned (.agg (leafCells 1 n).toArray) ∧ Ext w w' := by
  go_enter Try.func24, Try.ntmps24
  go_wp2_with fail
  exact bodyPost_ret (v := .agg (leafCells 1 n).toArray) (by simp [results, Try.results24, go_sem, leafCells]) rfl ⟨rfl, (Ext.refl _).alloc _⟩

set_option maxHeartbeats 1000000 in
theorem attribute_any (n : Int) (w : World) : Calls Try.prog 25 #[.int .i64 n] w fun en w' => en = .returned (.agg (leafCells 2 n).toArray) ∧ Ext w w' := by
  go_enter Try.func25, Try.ntmps25
  go_wp2_with fail
  exact bodyPost_ret (v := .agg (leafCells 2 n).toArray) (by simp [results, Try.results25, go_sem, leafCells]) rfl ⟨rfl, (Ext.refl _).alloc _⟩

def PairOut (op : Int) (a b : Ex) (d : Nat) (w : World) (en : Ending) (w' : World) : Prop := (∃ cs, en = .returned (.agg cs.toArray) ∧ ExIn w' (d + 1) cs (.mk op 0 0 0 0 0 [a, b])) ∧ Ext w w'

theorem ExIn.up {w : World} : ∀ {d : Nat} {cs : List Value} {e : Ex}, ExIn w d cs e → ExIn w (d + 1) cs e := by
  intro d
  induction d with
  | zero => intro cs e h; exact h.elim
  | succ d ih =>
    intro cs e h
    cases e with
    | mk op n u0 u1 u2 u3 l =>
      obtain ⟨sv, hcs, h0, h1, h2, h3, h4, h5, hs⟩ := h
      exact ⟨sv, hcs, h0, h1, h2, h3, h4, h5, hs.mono (Ext.refl _) fun _ _ _ h => ih h⟩
theorem ExIn.le {w : World} {d e : Nat} {cs : List Value} {x : Ex} (h : ExIn w d cs x) (hd : d ≤ e) : ExIn w e cs x := by
  induction hd with
  | refl => exact h
  | step _ ih => exact ih.up

/-- a slice of two expressions that has just been made -/
theorem two_in {w w' : World} {d : Nat} {ca cb : List Value} {a b : Ex} (ha : ExIn w d ca a) (hb : ExIn w d cb b) (hx : Ext w w') {B : Nat} (hB : B < w'.heap.size) (hr : w'.rangeAt B 0 (ca ++ cb)) :
    SlIn w' 7 (ExIn w' d) (.slice (some ⟨B, 0, none⟩) 2 2) [a, b] := by
  refine ⟨some ⟨B, 0, none⟩, 2, rfl, Nat.le_refl _, by decide, fun _ => ⟨B, 0, rfl, hB, fun i x hi => ?_⟩⟩
  have hl := ha.len
  match i, hi with
  | 0, hi =>
    obtain rfl : a = x := by simpa using hi
    exact ⟨ca, hl, fun j v hv => hr j v (by rw [List.getElem?_append_left (List.getElem?_eq_some_iff.1 hv).1]; exact hv), ha.ext hx⟩
  | 1, hi =>
    obtain rfl : b = x := by simpa using hi
    refine ⟨cb, hb.len, fun j v hv => ?_, hb.ext hx⟩
    have := hr (7 + j) v (by rw [List.getElem?_append_right (by omega), hl]; simpa using hv)
    simpa using this

set_option maxHeartbeats 1000000 in
theorem pair_any (op : Int) (hop : I64 op) (d : Nat) (ca cb : List Value) (a b : Ex) (w : World) (ha : ExIn w d ca a) (hb : ExIn w d cb b) :
    Calls Try.prog 20 #[.int .i64 op, .agg ca.toArray, .agg cb.toArray] w (PairOut op a b d w) := by
  have HA := Lib.hid ha
  have HB := Lib.hid hb
  obtain ⟨A0, cap0, u0, u1, u2, u3, rfl, _⟩ := ha.open_
  obtain ⟨A1, cap1, v0, v1, v2, v3, rfl, _⟩ := hb.open_
  clear ha hb
  go_enter Try.func20, Try.ntmps20
  go_wp2_with fail
  have hz : I64 0 := by constructor <;> decide
  refine bodyPost_ret (v := .agg [.int .i64 op, .int .i64 0, .int .i64 0, .int .i64 0, .int .i64 0, .int .i64 0, .slice (some ⟨w.heap.size + 1 + 1 + 1, 0, none⟩) 2 2].toArray) (by simp [results, Try.results20, go_sem]) rfl ⟨⟨_, rfl, _, rfl, hop, hz, hz, hz, hz, hz, ?_⟩, ((((Ext.refl _).alloc _).alloc _).alloc _).alloc _⟩
  refine two_in HA.out HB.out (((((Ext.refl _).alloc _).alloc _).alloc _).alloc _) (by simp) ?_
  intro j v hv
  simp [go_sem] at hv ⊢
  exact hv

set_option maxHeartbeats 1000000 in
theorem value_any (x : Ev) (hx : x.ok) (d : Nat) (cs : List Value) (e : Ex) (w : World) (he : ExIn w d cs e) (r : Int) (hr : Hid ((if (EvalF e x).2 ≠ 0 then -(EvalF e x).2 else (EvalF e x).1) = r)) (hb : -1000 ≤ (EvalF e x).2 ∧ (EvalF e x).2 ≤ 1000) :
    Calls Try.prog 26 #[.agg cs.toArray, .agg x.cells.toArray] w fun en w' => en = .returned (.int .i64 r) ∧ Ext w w' := by
  have HXL := Lib.hid (show x.cells.length = 17 by simp [Ev.cells, hx.1])
  have HEV := Lib.hid fun (W : World) (h : Ext w W) => EvalT_any x hx d cs e W (he.ext h)
  obtain ⟨A0, cap0, u0, u1, u2, u3, rfl, _⟩ := he.open_
  clear he
  generalize EvalF e x = p at *
  obtain ⟨p1, p2⟩ := p
  obtain ⟨hb1, hb2⟩ := hb
  simp only at hb1 hb2
  have hr3 : ∀ o, ((w.alloc o).alloc (.cells x.cells.toArray 29)).rangeAt (w.heap.size + 1) 0 x.cells := by
    intro o j v hv; simp [go_sem, hv]
  have HR3 := Lib.hid hr3
  clear hr3
  by_cases hp : p2 = 0
  · subst hp
    go_enter Try.func26, Try.ntmps26
    go_wp2_with (refine wpList_load_mid rfl 29 _ rfl (w.heap.size + 1) 0 rfl x.cells _ (HR3.out _) Try.underlying29 rfl (by rw [HXL.out]; exact info_env) ?_)
    refine (HEV.out _ (((Ext.refl _).alloc _).alloc _)).mono ?_
    rintro e1 w1 ⟨rfl, hx1⟩
    go_wp2_with fail
    go_ret
    exact ⟨ret_int (by rw [← hr.out]; simp), (((Ext.refl _).alloc _).alloc _).trans hx1⟩
  · have hp' : (p2 != 0) = true := by rw [bne_iff_ne]; exact hp
    have HP := Lib.hid hp
    clear hp
    go_enter Try.func26, Try.ntmps26
    go_wp2_with (refine wpList_load_mid rfl 29 _ rfl (w.heap.size + 1) 0 rfl x.cells _ (HR3.out _) Try.underlying29 rfl (by rw [HXL.out]; exact info_env) ?_)
    refine (HEV.out _ (((Ext.refl _).alloc _).alloc _)).mono ?_
    rintro e1 w1 ⟨rfl, hx1⟩
    go_wp2_with fail
    go_ret
    exact ⟨ret_int (by rw [← hr.out]; simp [HP.out]), (((Ext.refl _).alloc _).alloc _).trans hx1⟩

set_option maxHeartbeats 1000000 in
theorem few_any (d : Nat) (cs : List Value) (e : Ex) (w : World) (he : ExIn w d cs e) :
    Calls Try.prog 10 #[.agg cs.toArray] w fun en w' => en = .returned (.bool (fewF e)) ∧ Ext w w' := by
  have hfew : fewF e = decide (((sizeF (2000 + 1) e 2000 : Nat) : Int) < 2000) := by
    unfold fewF; rw [Bool.eq_iff_iff]; simp; omega
  have HE := Lib.hid fun (W : World) (h : Ext w W) => size_any 2000 2000 d cs e W (by omega) (by omega) (by omega) (he.ext h)
  obtain ⟨A0, cap0, u0, u1, u2, u3, rfl, _⟩ := he.open_
  clear he
  generalize sizeF (2000 + 1) e 2000 = q at *
  have HF := Lib.hid hfew
  clear hfew
  go_enter Try.func10, Try.ntmps10
  go_wp2_with fail
  refine (HE.out _ ((Ext.refl _).alloc _)).mono ?_
  rintro e1 w1 ⟨rfl, hx1⟩
  go_wp2_with fail
  go_ret
  exact ⟨ret_bool HF.out.symm, ((Ext.refl _).alloc _).trans hx1⟩
end Go.Proofs.Ytophdbbbojnobaa
