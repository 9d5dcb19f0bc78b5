/- The law's helpers integer, attribute, pair and value as operations of a statement. -/
import Derived.Test.YtophdbbbojnobaaProg
import Derived.Test.YtophdbbbojnobaaSane18
import Derived.Test.YtophdbbbojnobaaOps
import Derived.Test.YtophdbbbojnobaaRow
namespace Go.Proofs.Ytophdbbbojnobaa
open Go.RowKit
set_option linter.unusedVariables false

def regionOf (n : Nat) : Code → Option Code
  | .region id ops d => if id = n then some (.region id ops d) else none
  | .seq a b => match regionOf n a with
    | some c => some c
    | none => regionOf n b
  | .loop c => regionOf n c
  | .block _ c => regionOf n c
  | .scope c => regionOf n c
  | .cond _ a b => match regionOf n a with
    | some c => some c
    | none => regionOf n b
  | _ => none

def ExD (d : Nat) (e : Ex) : World → Value → Prop := fun w u => ∃ cs, u = .agg cs.toArray ∧ ExIn w d cs e
theorem ExD.st {d : Nat} {e : Ex} : St (ExD d e) := fun w w' u hx ⟨cs, h1, h2⟩ => ⟨cs, h1, h2.ext hx⟩
def leaf (op n : Int) : Ex := .mk op n 0 0 0 0 []
def two (op : Int) (a b : Ex) : Ex := .mk op 0 0 0 0 0 [a, b]
theorem leaf_D {d : Nat} {op n : Int} {w : World} {u : Value} (h1 : I64 op) (h2 : I64 n) (h : Is (.agg (leafCells op n).toArray) w u) : ExD (d + 1) (leaf op n) w u := ⟨_, h, leaf_in op n h1 h2 w d⟩
theorem ExD.le {d e : Nat} {x : Ex} {w : World} {u : Value} (h : ExD d x w u) (hd : d ≤ e) : ExD e x w u := h.elim fun cs h => ⟨cs, h.1, h.2.le hd⟩

variable {o : Oper} {ρ : Operand → Value} {w : World} {dsts : List (Option Tmp)} {a0 : Act} {v : Nat → Value}

set_option maxHeartbeats 1000000 in
theorem op_integer (n : Int) {ts : Array TypeId} (ho : o.op = .call { callee := .value (.func 24), args := #[.const (.int .i64 n)], argTypes := ts }) (S : Sees dsts a0 v ρ) :
    OpPost Try.prog o ρ w fun u w' => Ext w w' ∧ Is (.agg (leafCells 1 n).toArray) w' u := by
  have hc := S.c
  have hf := S.f
  clear S
  refine post_enter (w' := w) (f := 24) (args := #[.int .i64 n]) (by unfold execOp; rw [ho]; go_simp) (integer_any n w) ?_
  rintro en w' ⟨rfl, h⟩
  exact ⟨_, rfl, h, rfl⟩

set_option maxHeartbeats 1000000 in
theorem op_attribute (n : Int) {ts : Array TypeId} (ho : o.op = .call { callee := .value (.func 25), args := #[.const (.int .i64 n)], argTypes := ts }) (S : Sees dsts a0 v ρ) :
    OpPost Try.prog o ρ w fun u w' => Ext w w' ∧ Is (.agg (leafCells 2 n).toArray) w' u := by
  have hc := S.c
  have hf := S.f
  clear S
  refine post_enter (w' := w) (f := 25) (args := #[.int .i64 n]) (by unfold execOp; rw [ho]; go_simp) (attribute_any n w) ?_
  rintro en w' ⟨rfl, h⟩
  exact ⟨_, rfl, h, rfl⟩

set_option maxHeartbeats 1000000 in
theorem op_pair (op : Int) (hop : I64 op) {x y : Tmp} {ts : Array TypeId} (ho : o.op = .call { callee := .value (.func 20), args := #[.const (.int .i64 op), .tmp x, .tmp y], argTypes := ts }) (S : Sees dsts a0 v ρ) {d : Nat} {a b : Ex} (ha : ExD d a w (ρ (.tmp x))) (hb : ExD d b w (ρ (.tmp y))) :
    OpPost Try.prog o ρ w fun u w' => Ext w w' ∧ ExD (d + 1) (two op a b) w' u := by
  have hc := S.c
  have hf := S.f
  clear S
  obtain ⟨ca, ea, ha⟩ := ha
  obtain ⟨cb, eb, hb⟩ := hb
  refine post_enter (w' := w) (f := 20) (args := #[.int .i64 op, .agg ca.toArray, .agg cb.toArray]) (by unfold execOp; rw [ho]; clear ha hb; go_simp) (pair_any op hop d ca cb a b w ha hb) ?_
  rintro en w' ⟨⟨cs, rfl, h1⟩, h⟩
  exact ⟨_, rfl, h, cs, rfl, h1⟩

set_option maxHeartbeats 1000000 in
theorem op_value (x : Ev) (hx : x.ok) {p q : Tmp} {ts : Array TypeId} (ho : o.op = .call { callee := .value (.func 26), args := #[.tmp p, .tmp q], argTypes := ts }) (S : Sees dsts a0 v ρ) {d : Nat} {e : Ex} (ha : ExD d e w (ρ (.tmp p))) (hq : Is (.agg x.cells.toArray) w (ρ (.tmp q)))
    (r s : Int) (hr : EvalF e x = (r, s)) (hs : -1000 ≤ s ∧ s ≤ 1000) :
    OpPost Try.prog o ρ w fun u w' => Ext w w' ∧ Is (.int .i64 (if s ≠ 0 then -s else r)) w' u := by
  have hc := S.c
  have hf := S.f
  clear S
  obtain ⟨ca, ea, ha⟩ := ha
  have hq' : ρ (.tmp q) = _ := hq
  clear hq
  refine post_enter (w' := w) (f := 26) (args := #[.agg ca.toArray, .agg x.cells.toArray]) (by unfold execOp; rw [ho]; clear ha hr hs hx; generalize x.cells = xc at *; go_simp) (value_any x hx d ca e w ha (if s ≠ 0 then -s else r) (Lib.hid (by rw [hr])) (by rw [hr]; exact hs)) ?_
  rintro en w' ⟨rfl, h⟩
  exact ⟨_, rfl, h, rfl⟩

def ClP (c : Cl) : World → Value → Prop := fun w u => ∃ cs, u = .agg cs.toArray ∧ ClIn w cs c
theorem ClP.st {c : Cl} : St (ClP c) := fun w w' u hx ⟨cs, h1, h2⟩ => ⟨cs, h1, h2.ext hx⟩
def TfP (t : Tf) : World → Value → Prop := fun w u => ∃ cs, u = .agg cs.toArray ∧ TfIn w cs t
theorem TfP.st {t : Tf} : St (TfP t) := fun w w' u hx ⟨cs, h1, h2⟩ => ⟨cs, h1, h2.ext hx⟩
def tstCells (t : Tst) : List Value := [.int .i64 t.a, .int .i64 t.lo, .int .i64 t.hi]

theorem tests_row {ts : List Tst} (h0 : ∀ t ∈ ts, I64 t.a ∧ I64 t.lo ∧ I64 t.hi) {S k : Nat} (hk : k = ts.length) (hk2 : k ≤ 9223372036854775807) (hS : S < w.heap.size) (hr : w.rangeAt S 0 (ts.map tstCells).flatten) : SlIn w 3 TstIn (.slice (some ⟨S, 0, none⟩) k k) ts := by
  have h := row_in (w := w) (k := 3) (R := TstIn) (ts.map fun t => (tstCells t, t)) (by
    intro p hp
    obtain ⟨t, ht, rfl⟩ := List.mem_map.1 hp
    exact ⟨rfl, rfl, h0 t ht⟩) hS (by simpa [List.map_map, Function.comp_def] using hr) (n := k) (by simpa using hk) hk2
  simpa [List.map_map, Function.comp_def] using h

theorem cl_row {ts : List Tst} {op n : Int} (h1 : I64 op) (h2 : I64 n) (h0 : ∀ t ∈ ts, I64 t.a ∧ I64 t.lo ∧ I64 t.hi) {k : Nat} (hk : k = ts.length) (hk2 : k ≤ 9223372036854775807) {u : Value} (h : WithRow (fun s => .agg (.string ⟨#[]⟩ :: s :: leafCells op n).toArray) k (ts.map tstCells).flatten w u) : ClP ⟨⟨#[]⟩, ts, leaf op n⟩ w u := by
  obtain ⟨S, rfl, hS, hr⟩ := h
  exact ⟨_, rfl, _, _, rfl, tests_row h0 hk hk2 hS hr, 1, leaf_in op n h1 h2 w 0⟩

set_option maxHeartbeats 1000000 in
theorem op_holds (x : Ev) (hx : x.ok) {p q : Tmp} {ts : Array TypeId} (ho : o.op = .call { callee := .value (.func 16), args := #[.tmp p, .tmp q], argTypes := ts }) (S : Sees dsts a0 v ρ) {c : Cl} (ha : ClP c w (ρ (.tmp p))) (hq : Is (.agg x.cells.toArray) w (ρ (.tmp q)))
    (r : Bool) (s : Int) (hr : holdsF x c.tests = (r, s)) :
    OpPost Try.prog o ρ w fun u w' => Ext w w' ∧ Is (.tuple #[.bool r, .int .i64 s]) w' u := by
  have hc := S.c
  have hf := S.f
  clear S
  obtain ⟨ca, ea, ha⟩ := ha
  have hq' : ρ (.tmp q) = _ := hq
  clear hq
  refine post_enter (w' := w) (f := 16) (args := #[.agg ca.toArray, .agg x.cells.toArray]) (by unfold execOp; rw [ho]; clear ha hr hx; generalize x.cells = xc at *; go_simp) (holdsT_any x hx ca c w ha) ?_
  rintro en w' ⟨rfl, h⟩
  rw [hr]
  exact ⟨_, rfl, h, rfl⟩

set_option maxHeartbeats 1000000 in
theorem op_amount (x : Ev) (hx : x.ok) {p q : Tmp} {ts : Array TypeId} (ho : o.op = .call { callee := .value (.func 14), args := #[.tmp p, .tmp q], argTypes := ts }) (S : Sees dsts a0 v ρ) {t : Tf} (ha : TfP t w (ρ (.tmp p))) (hq : Is (.agg x.cells.toArray) w (ρ (.tmp q)))
    (r s m : Int) (hr : amountF x t.cls 0 = (r, s, m)) :
    OpPost Try.prog o ρ w fun u w' => Ext w w' ∧ Is (.tuple #[.int .i64 r, .int .i64 s, .int .i64 m]) w' u := by
  have hc := S.c
  have hf := S.f
  clear S
  obtain ⟨ca, ea, ha⟩ := ha
  have hq' : ρ (.tmp q) = _ := hq
  clear hq
  refine post_enter (w' := w) (f := 14) (args := #[.agg ca.toArray, .agg x.cells.toArray]) (by unfold execOp; rw [ho]; clear ha hr hx; generalize x.cells = xc at *; go_simp) (amountT_any x hx ca t w ha) ?_
  rintro en w' ⟨rfl, h⟩
  rw [hr]
  exact ⟨_, rfl, h, rfl⟩
end Go.Proofs.Ytophdbbbojnobaa
