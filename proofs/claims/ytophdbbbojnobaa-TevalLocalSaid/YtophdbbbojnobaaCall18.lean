/- The calls of law 18's functions as operations of a statement. -/
import Derived.Test.YtophdbbbojnobaaProg
import Derived.Test.YtophdbbbojnobaaOps2
import Derived.Test.YtophdbbbojnobaaSane
namespace Go.Proofs.Ytophdbbbojnobaa
open Go.RowKit
set_option linter.unusedVariables false

section
variable {o : Oper} {ρ : Operand → Value} {w : World} {dsts : List (Option Tmp)} {a0 : Act} {v : Nat → Value}
set_option maxHeartbeats 1000000
theorem call_sane {ts : Array TypeId} {F : Value → World → Prop} {Post : Ending → World → Prop} (ho : o.op = .call { callee := .value (.func 9), args := #[], argTypes := ts }) (S : Sees dsts a0 v ρ)  (hc : Calls Try.prog 9 #[] w Post) (h : ∀ en w', Post en w' → ∃ u, en = .returned u ∧ F u w') : OpPost Try.prog o ρ w F := by
  have hf := S.f
  clear S
  exact post_enter (w' := w) (f := 9) (args := #[]) (by unfold execOp; rw [ho]; clear hc h; go_simp) hc h
theorem call_few {x0 : Operand} {u0 : Value} {ts : Array TypeId} {F : Value → World → Prop} {Post : Ending → World → Prop} (ho : o.op = .call { callee := .value (.func 10), args := #[x0], argTypes := ts }) (S : Sees dsts a0 v ρ) (e0 : ρ x0 = u0) (hc : Calls Try.prog 10 #[u0] w Post) (h : ∀ en w', Post en w' → ∃ u, en = .returned u ∧ F u w') : OpPost Try.prog o ρ w F := by
  have hf := S.f
  clear S
  exact post_enter (w' := w) (f := 10) (args := #[u0]) (by unfold execOp; rw [ho]; clear hc h; go_simp) hc h
theorem call_fewClauses {x0 : Operand} {u0 : Value} {ts : Array TypeId} {F : Value → World → Prop} {Post : Ending → World → Prop} (ho : o.op = .call { callee := .value (.func 13), args := #[x0], argTypes := ts }) (S : Sees dsts a0 v ρ) (e0 : ρ x0 = u0) (hc : Calls Try.prog 13 #[u0] w Post) (h : ∀ en w', Post en w' → ∃ u, en = .returned u ∧ F u w') : OpPost Try.prog o ρ w F := by
  have hf := S.f
  clear S
  exact post_enter (w' := w) (f := 13) (args := #[u0]) (by unfold execOp; rw [ho]; clear hc h; go_simp) hc h
theorem call_occurs {x0 : Operand} {u0 : Value} {ts : Array TypeId} {F : Value → World → Prop} {Post : Ending → World → Prop} (ho : o.op = .call { callee := .value (.func 18), args := #[x0], argTypes := ts }) (S : Sees dsts a0 v ρ) (e0 : ρ x0 = u0) (hc : Calls Try.prog 18 #[u0] w Post) (h : ∀ en w', Post en w' → ∃ u, en = .returned u ∧ F u w') : OpPost Try.prog o ρ w F := by
  have hf := S.f
  clear S
  exact post_enter (w' := w) (f := 18) (args := #[u0]) (by unfold execOp; rw [ho]; clear hc h; go_simp) hc h
theorem call_evalT {x0 x1 : Operand} {u0 u1 : Value} {ts : Array TypeId} {F : Value → World → Prop} {Post : Ending → World → Prop} (ho : o.op = .call { callee := .value (.func 11), args := #[x0, x1], argTypes := ts }) (S : Sees dsts a0 v ρ) (e0 : ρ x0 = u0) (e1 : ρ x1 = u1) (hc : Calls Try.prog 11 #[u0, u1] w Post) (h : ∀ en w', Post en w' → ∃ u, en = .returned u ∧ F u w') : OpPost Try.prog o ρ w F := by
  have hf := S.f
  clear S
  exact post_enter (w' := w) (f := 11) (args := #[u0, u1]) (by unfold execOp; rw [ho]; clear hc h; go_simp) hc h
theorem call_evalR {x0 x1 : Operand} {u0 u1 : Value} {ts : Array TypeId} {F : Value → World → Prop} {Post : Ending → World → Prop} (ho : o.op = .call { callee := .value (.func 12), args := #[x0, x1], argTypes := ts }) (S : Sees dsts a0 v ρ) (e0 : ρ x0 = u0) (e1 : ρ x1 = u1) (hc : Calls Try.prog 12 #[u0, u1] w Post) (h : ∀ en w', Post en w' → ∃ u, en = .returned u ∧ F u w') : OpPost Try.prog o ρ w F := by
  have hf := S.f
  clear S
  exact post_enter (w' := w) (f := 12) (args := #[u0, u1]) (by unfold execOp; rw [ho]; clear hc h; go_simp) hc h
theorem call_holdsT {x0 x1 : Operand} {u0 u1 : Value} {ts : Array TypeId} {F : Value → World → Prop} {Post : Ending → World → Prop} (ho : o.op = .call { callee := .value (.func 16), args := #[x0, x1], argTypes := ts }) (S : Sees dsts a0 v ρ) (e0 : ρ x0 = u0) (e1 : ρ x1 = u1) (hc : Calls Try.prog 16 #[u0, u1] w Post) (h : ∀ en w', Post en w' → ∃ u, en = .returned u ∧ F u w') : OpPost Try.prog o ρ w F := by
  have hf := S.f
  clear S
  exact post_enter (w' := w) (f := 16) (args := #[u0, u1]) (by unfold execOp; rw [ho]; clear hc h; go_simp) hc h
theorem call_holdsR {x0 x1 : Operand} {u0 u1 : Value} {ts : Array TypeId} {F : Value → World → Prop} {Post : Ending → World → Prop} (ho : o.op = .call { callee := .value (.func 17), args := #[x0, x1], argTypes := ts }) (S : Sees dsts a0 v ρ) (e0 : ρ x0 = u0) (e1 : ρ x1 = u1) (hc : Calls Try.prog 17 #[u0, u1] w Post) (h : ∀ en w', Post en w' → ∃ u, en = .returned u ∧ F u w') : OpPost Try.prog o ρ w F := by
  have hf := S.f
  clear S
  exact post_enter (w' := w) (f := 17) (args := #[u0, u1]) (by unfold execOp; rw [ho]; clear hc h; go_simp) hc h
theorem call_amountT {x0 x1 : Operand} {u0 u1 : Value} {ts : Array TypeId} {F : Value → World → Prop} {Post : Ending → World → Prop} (ho : o.op = .call { callee := .value (.func 14), args := #[x0, x1], argTypes := ts }) (S : Sees dsts a0 v ρ) (e0 : ρ x0 = u0) (e1 : ρ x1 = u1) (hc : Calls Try.prog 14 #[u0, u1] w Post) (h : ∀ en w', Post en w' → ∃ u, en = .returned u ∧ F u w') : OpPost Try.prog o ρ w F := by
  have hf := S.f
  clear S
  exact post_enter (w' := w) (f := 14) (args := #[u0, u1]) (by unfold execOp; rw [ho]; clear hc h; go_simp) hc h
theorem call_amountR {x0 x1 : Operand} {u0 u1 : Value} {ts : Array TypeId} {F : Value → World → Prop} {Post : Ending → World → Prop} (ho : o.op = .call { callee := .value (.func 15), args := #[x0, x1], argTypes := ts }) (S : Sees dsts a0 v ρ) (e0 : ρ x0 = u0) (e1 : ρ x1 = u1) (hc : Calls Try.prog 15 #[u0, u1] w Post) (h : ∀ en w', Post en w' → ∃ u, en = .returned u ∧ F u w') : OpPost Try.prog o ρ w F := by
  have hf := S.f
  clear S
  exact post_enter (w' := w) (f := 15) (args := #[u0, u1]) (by unfold execOp; rw [ho]; clear hc h; go_simp) hc h
theorem call_formed {x0 x1 : Operand} {u0 u1 : Value} {ts : Array TypeId} {F : Value → World → Prop} {Post : Ending → World → Prop} (ho : o.op = .call { callee := .value (.func 19), args := #[x0, x1], argTypes := ts }) (S : Sees dsts a0 v ρ) (e0 : ρ x0 = u0) (e1 : ρ x1 = u1) (hc : Calls Try.prog 19 #[u0, u1] w Post) (h : ∀ en w', Post en w' → ∃ u, en = .returned u ∧ F u w') : OpPost Try.prog o ρ w F := by
  have hf := S.f
  clear S
  exact post_enter (w' := w) (f := 19) (args := #[u0, u1]) (by unfold execOp; rw [ho]; clear hc h; go_simp) hc h
theorem call_pair {x0 x1 x2 : Operand} {u0 u1 u2 : Value} {ts : Array TypeId} {F : Value → World → Prop} {Post : Ending → World → Prop} (ho : o.op = .call { callee := .value (.func 20), args := #[x0, x1, x2], argTypes := ts }) (S : Sees dsts a0 v ρ) (e0 : ρ x0 = u0) (e1 : ρ x1 = u1) (e2 : ρ x2 = u2) (hc : Calls Try.prog 20 #[u0, u1, u2] w Post) (h : ∀ en w', Post en w' → ∃ u, en = .returned u ∧ F u w') : OpPost Try.prog o ρ w F := by
  have hf := S.f
  clear S
  exact post_enter (w' := w) (f := 20) (args := #[u0, u1, u2]) (by unfold execOp; rw [ho]; clear hc h; go_simp) hc h
theorem call_integer {x0 : Operand} {u0 : Value} {ts : Array TypeId} {F : Value → World → Prop} {Post : Ending → World → Prop} (ho : o.op = .call { callee := .value (.func 24), args := #[x0], argTypes := ts }) (S : Sees dsts a0 v ρ) (e0 : ρ x0 = u0) (hc : Calls Try.prog 24 #[u0] w Post) (h : ∀ en w', Post en w' → ∃ u, en = .returned u ∧ F u w') : OpPost Try.prog o ρ w F := by
  have hf := S.f
  clear S
  exact post_enter (w' := w) (f := 24) (args := #[u0]) (by unfold execOp; rw [ho]; clear hc h; go_simp) hc h
theorem call_add {x0 x1 : Operand} {u0 u1 : Value} {ts : Array TypeId} {F : Value → World → Prop} {Post : Ending → World → Prop} (ho : o.op = .call { callee := .value (.func 21), args := #[x0, x1], argTypes := ts }) (S : Sees dsts a0 v ρ) (e0 : ρ x0 = u0) (e1 : ρ x1 = u1) (hc : Calls Try.prog 21 #[u0, u1] w Post) (h : ∀ en w', Post en w' → ∃ u, en = .returned u ∧ F u w') : OpPost Try.prog o ρ w F := by
  have hf := S.f
  clear S
  exact post_enter (w' := w) (f := 21) (args := #[u0, u1]) (by unfold execOp; rw [ho]; clear hc h; go_simp) hc h
theorem call_sub {x0 x1 : Operand} {u0 u1 : Value} {ts : Array TypeId} {F : Value → World → Prop} {Post : Ending → World → Prop} (ho : o.op = .call { callee := .value (.func 23), args := #[x0, x1], argTypes := ts }) (S : Sees dsts a0 v ρ) (e0 : ρ x0 = u0) (e1 : ρ x1 = u1) (hc : Calls Try.prog 23 #[u0, u1] w Post) (h : ∀ en w', Post en w' → ∃ u, en = .returned u ∧ F u w') : OpPost Try.prog o ρ w F := by
  have hf := S.f
  clear S
  exact post_enter (w' := w) (f := 23) (args := #[u0, u1]) (by unfold execOp; rw [ho]; clear hc h; go_simp) hc h
theorem call_mul {x0 x1 : Operand} {u0 u1 : Value} {ts : Array TypeId} {F : Value → World → Prop} {Post : Ending → World → Prop} (ho : o.op = .call { callee := .value (.func 22), args := #[x0, x1], argTypes := ts }) (S : Sees dsts a0 v ρ) (e0 : ρ x0 = u0) (e1 : ρ x1 = u1) (hc : Calls Try.prog 22 #[u0, u1] w Post) (h : ∀ en w', Post en w' → ∃ u, en = .returned u ∧ F u w') : OpPost Try.prog o ρ w F := by
  have hf := S.f
  clear S
  exact post_enter (w' := w) (f := 22) (args := #[u0, u1]) (by unfold execOp; rw [ho]; clear hc h; go_simp) hc h

theorem op_sane {ts : Array TypeId} (ho : o.op = .call { callee := .value (.func 9), args := #[], argTypes := ts }) (S : Sees dsts a0 v ρ) : OpPost Try.prog o ρ w fun u w' => Ext w w' ∧ Is (.bool true) w' u :=
  call_sane ho S (sane_any w) (by rintro en w' ⟨rfl, h⟩; exact ⟨_, rfl, h, rfl⟩)
theorem op_few {x : Operand} {ts : Array TypeId} {e : Ex} (ho : o.op = .call { callee := .value (.func 10), args := #[x], argTypes := ts }) (S : Sees dsts a0 v ρ) (hx : ExA e w (ρ x)) : OpPost Try.prog o ρ w fun u w' => Ext w w' ∧ Is (.bool (fewF e)) w' u := by
  obtain ⟨cs, h1, d, h2⟩ := hx
  exact call_few ho S h1 (few_any d cs e w h2) (by rintro en w' ⟨rfl, h⟩; exact ⟨_, rfl, h, rfl⟩)
theorem op_evalT (x : Ev) (hx : x.ok) {p q : Operand} {ts : Array TypeId} {e : Ex} (ho : o.op = .call { callee := .value (.func 11), args := #[p, q], argTypes := ts }) (S : Sees dsts a0 v ρ) (hp : ExA e w (ρ p)) (hq : Is (.agg x.cells.toArray) w (ρ q)) : OpPost Try.prog o ρ w fun u w' => Ext w w' ∧ Is (.tuple #[.int .i64 (EvalF e x).1, .int .i64 (EvalF e x).2]) w' u := by
  obtain ⟨cs, h1, d, h2⟩ := hp
  exact call_evalT ho S h1 hq (EvalT_any x hx d cs e w h2) (by rintro en w' ⟨rfl, h⟩; exact ⟨_, rfl, h, rfl⟩)
theorem op_evalR (x : Ev) (hx : x.ok) {p q : Operand} {ts : Array TypeId} {e : Ex} (ho : o.op = .call { callee := .value (.func 12), args := #[p, q], argTypes := ts }) (S : Sees dsts a0 v ρ) (hp : ExA e w (ρ p)) (hq : Is (.agg x.cells.toArray) w (ρ q)) : OpPost Try.prog o ρ w fun u w' => Ext w w' ∧ Is (.tuple #[.int .i64 (EvalF e x).1, .int .i64 (EvalF e x).2]) w' u := by
  obtain ⟨cs, h1, d, h2⟩ := hp
  exact call_evalR ho S h1 hq (EvalR_any x hx d cs e w h2) (by rintro en w' ⟨rfl, h⟩; exact ⟨_, rfl, h, rfl⟩)
theorem op_holdsT (x : Ev) (hx : x.ok) {p q : Operand} {ts : Array TypeId} {c : Cl} (ho : o.op = .call { callee := .value (.func 16), args := #[p, q], argTypes := ts }) (S : Sees dsts a0 v ρ) (hp : ClP c w (ρ p)) (hq : Is (.agg x.cells.toArray) w (ρ q)) : OpPost Try.prog o ρ w fun u w' => Ext w w' ∧ Is (.tuple #[.bool (holdsF x c.tests).1, .int .i64 (holdsF x c.tests).2]) w' u := by
  obtain ⟨cs, h1, h2⟩ := hp
  exact call_holdsT ho S h1 hq (holdsT_any x hx cs c w h2) (by rintro en w' ⟨rfl, h⟩; exact ⟨_, rfl, h, rfl⟩)
theorem op_holdsR (x : Ev) (hx : x.ok) {p q : Operand} {ts : Array TypeId} {c : Cl} (ho : o.op = .call { callee := .value (.func 17), args := #[p, q], argTypes := ts }) (S : Sees dsts a0 v ρ) (hp : ClP c w (ρ p)) (hq : Is (.agg x.cells.toArray) w (ρ q)) : OpPost Try.prog o ρ w fun u w' => Ext w w' ∧ Is (.tuple #[.bool (holdsF x c.tests).1, .int .i64 (holdsF x c.tests).2]) w' u := by
  obtain ⟨cs, h1, h2⟩ := hp
  exact call_holdsR ho S h1 hq (holdsR_any x hx cs c w h2) (by rintro en w' ⟨rfl, h⟩; exact ⟨_, rfl, h, rfl⟩)
theorem op_amountT (x : Ev) (hx : x.ok) {p q : Operand} {ts : Array TypeId} {t : Tf} (ho : o.op = .call { callee := .value (.func 14), args := #[p, q], argTypes := ts }) (S : Sees dsts a0 v ρ) (hp : TfP t w (ρ p)) (hq : Is (.agg x.cells.toArray) w (ρ q)) : OpPost Try.prog o ρ w fun u w' => Ext w w' ∧ Is (.tuple #[.int .i64 (amountF x t.cls 0).1, .int .i64 (amountF x t.cls 0).2.1, .int .i64 (amountF x t.cls 0).2.2]) w' u := by
  obtain ⟨cs, h1, h2⟩ := hp
  exact call_amountT ho S h1 hq (amountT_any x hx cs t w h2) (by rintro en w' ⟨rfl, h⟩; exact ⟨_, rfl, h, rfl⟩)
theorem op_amountR (x : Ev) (hx : x.ok) {p q : Operand} {ts : Array TypeId} {t : Tf} (ho : o.op = .call { callee := .value (.func 15), args := #[p, q], argTypes := ts }) (S : Sees dsts a0 v ρ) (hp : TfP t w (ρ p)) (hq : Is (.agg x.cells.toArray) w (ρ q)) : OpPost Try.prog o ρ w fun u w' => Ext w w' ∧ Is (.tuple #[.int .i64 (amountF x t.cls 0).1, .int .i64 (amountF x t.cls 0).2.1, .int .i64 (amountF x t.cls 0).2.2]) w' u := by
  obtain ⟨cs, h1, h2⟩ := hp
  exact call_amountR ho S h1 hq (amountR_any x hx cs t w h2) (by rintro en w' ⟨rfl, h⟩; exact ⟨_, rfl, h, rfl⟩)
theorem op_formed {x : Operand} {dn : Nat} {n : Int} {ts : Array TypeId} {e : Ex} (hn : n = dn) (hd : dn ≤ 1000) (ho : o.op = .call { callee := .value (.func 19), args := #[x, .const (.int .i64 n)], argTypes := ts }) (S : Sees dsts a0 v ρ) (hx : ExA e w (ρ x)) : OpPost Try.prog o ρ w fun u w' => Ext w w' ∧ Is (.bool (formF dn e)) w' u := by
  obtain ⟨cs, h1, d, h2⟩ := hx
  subst hn
  exact call_formed ho S h1 (S.c _) (formR_any dn d cs e w hd h2) (by rintro en w' ⟨rfl, h⟩; exact ⟨_, rfl, h, rfl⟩)
theorem op_pairA (op : Int) (hop : I64 op) {x y : Operand} {ts : Array TypeId} (ho : o.op = .call { callee := .value (.func 20), args := #[.const (.int .i64 op), x, y], argTypes := ts }) (S : Sees dsts a0 v ρ) {a b : Ex} (ha : ExA a w (ρ x)) (hb : ExA b w (ρ y)) : OpPost Try.prog o ρ w fun u w' => Ext w w' ∧ ExA (two op a b) w' u := by
  obtain ⟨ca, ea, da, ha⟩ := ha
  obtain ⟨cb, eb, db, hb⟩ := hb
  refine call_pair ho S (S.c _) ea eb (pair_any op hop (max da db) ca cb a b w (ha.le (Nat.le_max_left _ _)) (hb.le (Nat.le_max_right _ _))) ?_
  rintro en w' ⟨⟨cs, rfl, h1⟩, h⟩
  exact ⟨_, rfl, h, cs, rfl, _, h1⟩
theorem op_madd {x y : Operand} {ts : Array TypeId} {a b : Int} (ho : o.op = .call { callee := .value (.func 21), args := #[x, y], argTypes := ts }) (S : Sees dsts a0 v ρ) (hx : Is (.int .i64 a) w (ρ x)) (hy : Is (.int .i64 b) w (ρ y)) : OpPost Try.prog o ρ w fun u w' => Ext w w' ∧ Is (.tuple #[.int .i64 (addF a b).1, .int .i64 (addF a b).2]) w' u :=
  call_add ho S hx hy (add_any a b w) (by rintro en w' ⟨rfl, h⟩; exact ⟨_, rfl, h, rfl⟩)
theorem op_msub {x y : Operand} {ts : Array TypeId} {a b : Int} (ho : o.op = .call { callee := .value (.func 23), args := #[x, y], argTypes := ts }) (S : Sees dsts a0 v ρ) (hx : Is (.int .i64 a) w (ρ x)) (hy : Is (.int .i64 b) w (ρ y)) : OpPost Try.prog o ρ w fun u w' => Ext w w' ∧ Is (.tuple #[.int .i64 (subF a b).1, .int .i64 (subF a b).2]) w' u :=
  call_sub ho S hx hy (sub_any a b w) (by rintro en w' ⟨rfl, h⟩; exact ⟨_, rfl, h, rfl⟩)
theorem op_mmul {x y : Operand} {ts : Array TypeId} {a b : Int} (ho : o.op = .call { callee := .value (.func 22), args := #[x, y], argTypes := ts }) (S : Sees dsts a0 v ρ) (hx : Is (.int .i64 a) w (ρ x)) (hy : Is (.int .i64 b) w (ρ y)) : OpPost Try.prog o ρ w fun u w' => Ext w w' ∧ Is (.tuple #[.int .i64 (mulF a b).1, .int .i64 (mulF a b).2]) w' u :=
  call_mul ho S hx hy (mul_any a b w) (by rintro en w' ⟨rfl, h⟩; exact ⟨_, rfl, h, rfl⟩)
end
end Go.Proofs.Ytophdbbbojnobaa
