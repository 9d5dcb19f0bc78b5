/- Expressions of four operands: built, and evaluated. -/
import Derived.Test.YtophdbbbojnobaaCall18
import Derived.Test.YtophdbbbojnobaaPlain18
import Derived.Test.YtophdbbbojnobaaOpen
namespace Go.Proofs.Ytophdbbbojnobaa
open Go.RowKit
set_option linter.unusedVariables false

def quad (a b c d : Ex) : Ex := .mk 11 0 0 0 0 0 [a, b, c, d]
theorem form_quad {n : Nat} {a b c d : Ex} (ha : formF n a = true) (hb : formF n b = true) (hc : formF n c = true) (hd : formF n d = true) : formF (n + 1) (quad a b c d) = true := by
  have e : formF (n + 1) (quad a b c d) = (decide (((4 : Nat) : Int) = opsF 11) && [a, b, c, d].all (formF n)) := rfl
  rw [e]
  simp [ha, hb, hc, hd, show opsF 11 = 4 from rfl]
theorem quad_eval {a b c d : Ex} {x : Ev} (ha : formF 23 a = true) (hb : formF 23 b = true) (hc : formF 23 c = true) (hd : formF 23 d = true) :
    EvalF (quad a b c d) x = if (EvalF a x).2 ≠ 0 then (0, (EvalF a x).2) else if (EvalF b x).2 ≠ 0 then (0, (EvalF b x).2) else if (EvalF a x).1 < (EvalF b x).1 then EvalF c x else EvalF d x := by
  rw [EvalF_of ha, EvalF_of hb, EvalF_of hc, EvalF_of hd]
  have : EvalF (quad a b c d) x = evalF 24 (quad a b c d) x := by unfold EvalF; rw [if_pos (form_quad ha hb hc hd)]
  rw [this]
  show evalF (23 + 1) (quad a b c d) x = _
  rw [evalF_succ]
  simp only [quad, Ex.op, Ex.l, List.getD_cons_zero, List.getD_cons_succ]
  rw [if_neg (by decide : ¬ (11 : Int) = 1), if_neg (by decide : ¬ (11 : Int) = 2)]
  simp only [ne_eq, not_true_eq_false, if_false]
theorem int_form {k : Int} (h0 : 0 ≤ k) (h1 : k ≤ 1099511627776) : formF 23 (leaf 1 k) = true := by
  have e : formF 23 (leaf 1 k) = (true && (decide (0 ≤ k) && decide (k ≤ 1099511627776))) := rfl
  rw [e]; simp [h0, h1]
theorem int_eval {k : Int} {x : Ev} (h0 : 0 ≤ k) (h1 : k ≤ 1099511627776) : EvalF (leaf 1 k) x = (k, 0) := by
  rw [EvalF_of (int_form h0 h1)]; rfl
def failsE : Ex := two 8 (leaf 1 1) (leaf 1 0)
theorem fails_form : formF 23 failsE = true := by kernel_rfl
theorem left_eval {k : Int} {e : Ex} {x : Ev} (h0 : 0 ≤ k) (h1 : k < 1073741824) (he : formF 23 e = true) : EvalF (quad (leaf 1 k) (leaf 1 (k + 1)) e failsE) x = EvalF e x := by
  rw [quad_eval (int_form h0 (by omega)) (int_form (by omega) (by omega)) he fails_form, int_eval h0 (by omega), int_eval (by omega) (by omega)]
  simp
  intro h; omega
theorem right_eval {k : Int} {e : Ex} {x : Ev} (h0 : 0 ≤ k) (h1 : k < 1073741824) (he : formF 23 e = true) : EvalF (quad (leaf 1 k) (leaf 1 k) failsE e) x = EvalF e x := by
  rw [quad_eval (int_form h0 (by omega)) (int_form h0 (by omega)) fails_form he, int_eval h0 (by omega)]
  simp

/-- the number that the law makes of n -/
def kF (n : Int) : Int := n % 18446744073709551616 % 1073741824
theorem kF_bd (n : Int) : 0 ≤ kF n ∧ kF n < 1073741824 := by unfold kF; omega
theorem leafR {w : World} {op n : Int} (h1 : I64 op) (h2 : I64 n) : ExR w (leafCells op n) (leaf op n) := ⟨1, leaf_in op n h1 h2 w 0⟩
theorem fails_in {w : World} {S : Nat} (hS : S < w.heap.size) (hr : w.rangeAt S 0 (leafCells 1 1 ++ leafCells 1 0)) : ExR w [.int .i64 8, .int .i64 0, .int .i64 0, .int .i64 0, .int .i64 0, .int .i64 0, .slice (some ⟨S, 0, none⟩) 2 2] failsE := by
  have hz : I64 0 := by constructor <;> decide
  have h1 : I64 1 := by constructor <;> decide
  exact ⟨2, _, rfl, by constructor <;> decide, hz, hz, hz, hz, hz, two_in (leaf_in 1 1 h1 h1 w 0) (leaf_in 1 0 h1 hz w 0) (Ext.refl w) hS hr⟩
section
variable {o : Oper} {ρ : Operand → Value} {w : World} {dsts : List (Option Tmp)} {a0 : Act} {v : Nat → Value}
set_option maxHeartbeats 2000000
theorem op_integerV {x : Operand} {n : Int} {ts : Array TypeId} (ho : o.op = .call { callee := .value (.func 24), args := #[x], argTypes := ts }) (S : Sees dsts a0 v ρ) (hx : Is (.int .i64 n) w (ρ x)) : OpPost Try.prog o ρ w fun u w' => Ext w w' ∧ Is (.agg (leafCells 1 n).toArray) w' u :=
  call_integer ho S hx (integer_any n w) (by rintro en w' ⟨rfl, h⟩; exact ⟨_, rfl, h, rfl⟩)
theorem op_u64 {x : Operand} {n : Int} (ho : o.op = .convert 3 54 x) (hx : Is (.int .i64 n) w (ρ x)) : OpPost Try.prog o ρ w fun u w' => Ext w w' ∧ Is (.int .u64 (n % 18446744073709551616)) w' u := by
  have e : ρ x = _ := hx
  clear hx
  exact post_value (u := .int .u64 (n % 18446744073709551616)) (w' := w) (by unfold execOp; rw [ho]; go_simp <;> rw [IntKind.wrap_u64]) ⟨.refl _, rfl⟩
theorem op_rem {x : Operand} {n : Int} (h0 : 0 ≤ n) (ho : o.op = .binOp .rem 54 x (.const (.int .u64 1073741824)) 54) (S : Sees dsts a0 v ρ) (hx : Is (.int .u64 n) w (ρ x)) : OpPost Try.prog o ρ w fun u w' => Ext w w' ∧ Is (.int .u64 (n % 1073741824)) w' u := by
  have e : ρ x = _ := hx
  have c := S.c
  clear hx S
  exact post_value (u := .int .u64 (n % 1073741824)) (w' := w) (by unfold execOp; rw [ho, ← Int.tmod_eq_emod_of_nonneg h0]; clear h0; go_simp) ⟨.refl _, rfl⟩
theorem op_i64 {x : Operand} {n : Int} (h0 : 0 ≤ n ∧ n < 1073741824) (ho : o.op = .convert 54 3 x) (hx : Is (.int .u64 n) w (ρ x)) : OpPost Try.prog o ρ w fun u w' => Ext w w' ∧ Is (.int .i64 n) w' u := by
  have e : ρ x = _ := hx
  clear hx
  have hw : IntKind.i64.wrap n = n := by rw [IntKind.wrap_i64]; omega
  exact post_value (u := .int .i64 n) (w' := w) (by unfold execOp; rw [ho]; go_simp) ⟨.refl _, rfl⟩
theorem op_row4 {x0 x1 x2 x3 : Operand} {c0 c1 c2 c3 : List Value} (ho : o.op = .buildSlice 24 4 #[(0, x0), (1, x1), (2, x2), (3, x3)]) (h0 : c0.length = 7) (h1 : c1.length = 7) (h2 : c2.length = 7) (h3 : c3.length = 7)
    (g0 : Is (.agg c0.toArray) w (ρ x0)) (g1 : Is (.agg c1.toArray) w (ρ x1)) (g2 : Is (.agg c2.toArray) w (ρ x2)) (g3 : Is (.agg c3.toArray) w (ρ x3)) : OpPost Try.prog o ρ w fun u w' => Ext w w' ∧ WithRow (fun s => s) 4 (c0 ++ c1 ++ c2 ++ c3) w' u := by
  obtain ⟨a0, a1, a2, a3, a4, a5, a6, rfl⟩ := len7 h0
  obtain ⟨b0, b1, b2, b3, b4, b5, b6, rfl⟩ := len7 h1
  obtain ⟨d0, d1, d2, d3, d4, d5, d6, rfl⟩ := len7 h2
  obtain ⟨f0, f1, f2, f3, f4, f5, f6, rfl⟩ := len7 h3
  have e0 : ρ x0 = _ := g0
  have e1 : ρ x1 = _ := g1
  have e2 : ρ x2 = _ := g2
  have e3 : ρ x3 = _ := g3
  clear g0 g1 g2 g3 h0 h1 h2 h3
  exact op_row 4 ([a0, a1, a2, a3, a4, a5, a6] ++ [b0, b1, b2, b3, b4, b5, b6] ++ [d0, d1, d2, d3, d4, d5, d6] ++ [f0, f1, f2, f3, f4, f5, f6]) (T := 26) (by unfold execOp; rw [ho]; go_simp)
theorem op_quad {x : Operand} {row : List Value} (ho : o.op = .build 26 #[(0, .const (.int .i64 11)), (3, x)]) (S : Sees dsts a0 v ρ) (h : WithRow (fun s => s) 4 row w (ρ x)) :
    OpPost Try.prog o ρ w fun u w' => Ext w w' ∧ WithRow (fun s => .agg #[.int .i64 11, .int .i64 0, .int .i64 0, .int .i64 0, .int .i64 0, .int .i64 0, s]) 4 row w' u := by
  obtain ⟨X, e, h1, h2⟩ := h
  have c := S.c
  clear S
  exact post_value (u := .agg #[.int .i64 11, .int .i64 0, .int .i64 0, .int .i64 0, .int .i64 0, .int .i64 0, .slice (some ⟨X, 0, none⟩) 4 4]) (w' := w) (by unfold execOp; rw [ho]; clear h2; go_simp) ⟨.refl _, X, rfl, h1, h2⟩
def zero7 : List Value := leafCells 0 0
theorem op_allocEx {W : World} (ho : o.op = .alloc 26) (hx : Ext W w) : OpPost Try.prog o ρ w fun u w' => Ext w w' ∧ FreshV W.heap.size zero7 26 w' u :=
  op_alloc zero7 (by unfold execOp zero7 leafCells; rw [ho]; go_simp) hx
/-- pair, with the row that it lays -/
theorem pair_row (op : Int) (ca cb : List Value) (ha : ca.length = 7) (hb : cb.length = 7) (w : World) :
    Calls Try.prog 20 #[.int .i64 op, .agg ca.toArray, .agg cb.toArray] w fun en w' => Ext w w' ∧ ∃ u, en = .returned u ∧ WithRow (fun s => .agg #[.int .i64 op, .int .i64 0, .int .i64 0, .int .i64 0, .int .i64 0, .int .i64 0, s]) 2 (ca ++ cb) w' u := by
  obtain ⟨a0, a1, a2, a3, a4, a5, a6, rfl⟩ := len7 ha
  obtain ⟨b0, b1, b2, b3, b4, b5, b6, rfl⟩ := len7 hb
  go_enter Try.func20, Try.ntmps20
  go_wp2_with fail
  refine bodyPost_ret (v := .agg [.int .i64 op, .int .i64 0, .int .i64 0, .int .i64 0, .int .i64 0, .int .i64 0, .slice (some ⟨w.heap.size + 1 + 1 + 1, 0, none⟩) 2 2].toArray) (by simp [results, Try.results20, go_sem]) rfl ⟨((((Ext.refl _).alloc _).alloc _).alloc _).alloc _, _, rfl, w.heap.size + 1 + 1 + 1, rfl, by simp, ?_⟩
  intro j v hv
  simp [go_sem] at hv ⊢
  exact hv
theorem op_pairRow (op : Int) {x y : Operand} {ts : Array TypeId} {ca cb : List Value} (ha : ca.length = 7) (hb : cb.length = 7) (ho : o.op = .call { callee := .value (.func 20), args := #[.const (.int .i64 op), x, y], argTypes := ts }) (S : Sees dsts a0 v ρ) (hx : Is (.agg ca.toArray) w (ρ x)) (hy : Is (.agg cb.toArray) w (ρ y)) :
    OpPost Try.prog o ρ w fun u w' => Ext w w' ∧ WithRow (fun s => .agg #[.int .i64 op, .int .i64 0, .int .i64 0, .int .i64 0, .int .i64 0, .int .i64 0, s]) 2 (ca ++ cb) w' u :=
  call_pair ho S (S.c _) hx hy (pair_row op ca cb ha hb w) (by rintro en w' ⟨h, u, he, hu⟩; exact ⟨u, he, h, hu⟩)
/-- four expressions whose row has been laid -/
theorem quad_in {a b c d : Ex} {ca cb cc cd : List Value} (ha : ExR w ca a) (hb : ExR w cb b) (hc : ExR w cc c) (hd : ExR w cd d) {S : Nat} (hS : S < w.heap.size) (hr : w.rangeAt S 0 (ca ++ cb ++ cc ++ cd)) :
    ExR w [.int .i64 11, .int .i64 0, .int .i64 0, .int .i64 0, .int .i64 0, .int .i64 0, .slice (some ⟨S, 0, none⟩) 4 4] (quad a b c d) := by
  obtain ⟨na, ha⟩ := ha
  obtain ⟨nb, hb⟩ := hb
  obtain ⟨nc, hc⟩ := hc
  obtain ⟨nd, hd⟩ := hd
  have hz : I64 0 := by constructor <;> decide
  refine ⟨(na + nb + nc + nd) + 1, _, rfl, by constructor <;> decide, hz, hz, hz, hz, hz, ?_⟩
  refine row_in [(ca, a), (cb, b), (cc, c), (cd, d)] ?_ hS (by simpa [List.append_assoc] using hr) rfl (by decide)
  intro p hp
  simp only [List.mem_cons, List.mem_nil_iff, or_false] at hp
  rcases hp with rfl | rfl | rfl | rfl
  · exact ⟨ha.len, ha.le (by omega)⟩
  · exact ⟨hb.len, hb.le (by omega)⟩
  · exact ⟨hc.len, hc.le (by omega)⟩
  · exact ⟨hd.len, hd.le (by omega)⟩
end
end Go.Proofs.Ytophdbbbojnobaa
