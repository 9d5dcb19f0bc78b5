/- Fields of expressions; shifts and bits. -/
import Derived.Test.YtophdbbbojnobaaOps4
namespace Go.Proofs.Ytophdbbbojnobaa
open Go.RowKit
set_option linter.unusedVariables false

theorem ofInt_nat (a : Nat) (ha : a < 9223372036854775808) : (BitVec.ofInt 64 (a : Int)).toNat = a := by
  have := ofInt_toNat (a : Int)
  omega
theorem or_nat (a b : Nat) (ha : a < 65536) (hb : b < 65536) : bits .or .i64 (a : Int) (b : Int) = ((a ||| b : Nat) : Int) := by
  have hx : a ||| b < 2 ^ 16 := Nat.or_lt_two_pow (by omega) (by omega)
  show IntKind.i64.wrap ((BitVec.ofInt 64 (a : Int) ||| BitVec.ofInt 64 (b : Int)).toNat : Int) = _
  rw [BitVec.toNat_or, ofInt_nat a (by omega), ofInt_nat b (by omega), IntKind.wrap_i64]
  omega
/-- the attribute of a node -/
def occ0 (e : Ex) : Nat := if e.op = 2 ∧ 0 ≤ e.n ∧ e.n < 16 then 2 ^ e.n.toNat else 0
/-- the attributes that occur -/
def occN : Nat → Ex → Nat
  | 0, _ => 0
  | d + 1, e => e.l.foldl (fun s y => s ||| occN d y) (occ0 e)
theorem occ0_lt (e : Ex) : occ0 e < 65536 := by
  unfold occ0
  split
  · rename_i h
    have h1 : e.n.toNat < 16 := by omega
    have : 2 ^ e.n.toNat < 2 ^ 16 := Nat.pow_lt_pow_right (by decide) h1
    omega
  · omega
theorem fold_lt {f : Ex → Nat} (hf : ∀ y, f y < 65536) : ∀ (l : List Ex) (s : Nat), s < 65536 → l.foldl (fun s y => s ||| f y) s < 65536 := by
  intro l
  induction l with
  | nil => intro s h; exact h
  | cons y l ih => intro s h; exact ih _ (Nat.or_lt_two_pow (n := 16) h (hf y))
theorem occN_lt : ∀ (d : Nat) (e : Ex), occN d e < 65536 := by
  intro d
  induction d with
  | zero => intro e; exact (by decide : 0 < 65536)
  | succ d ih => intro e; exact fold_lt ih _ _ (occ0_lt e)

section
variable {o : Oper} {ρ : Operand → Value} {w : World}
set_option maxHeartbeats 1000000
theorem op_or {x y : Operand} {ty ty2 : TypeId} {a b : Nat} (ha : a < 65536) (hb : b < 65536) (ho : o.op = .binOp .or ty x y ty2) (hx : Is (.int .i64 a) w (ρ x)) (hy : Is (.int .i64 b) w (ρ y)) : OpPost Try.prog o ρ w fun u w' => Ext w w' ∧ Is (.int .i64 ((a ||| b : Nat) : Int)) w' u := by
  have e1 : ρ x = _ := hx
  have e2 : ρ y = _ := hy
  exact post_value (u := .int .i64 ((a ||| b : Nat) : Int)) (w' := w) (by unfold execOp; rw [ho, ← or_nat a b ha hb]; simp [e1, e2, go_sem]) ⟨.refl _, rfl⟩
theorem op_exOp {d : Nat} {x : Operand} {e : Ex} (ho : o.op = .fieldAddr 26 x 0) (h : LocP 7 (ExD d e) w (ρ x)) : OpPost Try.prog o ρ w fun u w' => Ext w w' ∧ CellP (Is (.int .i64 e.op)) w' u := by
  obtain ⟨b, off, cs, he, _, hr, cs', hcs, hin⟩ := h
  obtain rfl : cs = cs' := by simpa using hcs
  obtain ⟨A, cap, u0, u1, u2, u3, rfl, _⟩ := hin.open_
  exact post_value (u := .pointer (some ⟨b, off, none⟩)) (w' := w) (by unfold execOp; rw [ho]; clear hr hin; go_simp) ⟨.refl _, b, off, _, rfl, hr 0 _ rfl, rfl⟩
theorem op_exN {d : Nat} {x : Operand} {e : Ex} (ho : o.op = .fieldAddr 26 x 1) (h : LocP 7 (ExD d e) w (ρ x)) : OpPost Try.prog o ρ w fun u w' => Ext w w' ∧ CellP (Is (.int .i64 e.n)) w' u := by
  obtain ⟨b, off, cs, he, _, hr, cs', hcs, hin⟩ := h
  obtain rfl : cs = cs' := by simpa using hcs
  obtain ⟨A, cap, u0, u1, u2, u3, rfl, _⟩ := hin.open_
  exact post_value (u := .pointer (some ⟨b, off + 1, none⟩)) (w' := w) (by unfold execOp; rw [ho]; clear hr hin; go_simp) ⟨.refl _, b, off + 1, _, rfl, hr 1 _ rfl, rfl⟩
theorem exD_l {d : Nat} {cs : List Value} {e : Ex} (h : ExIn w (d + 1) cs e) : ∃ sv, cs[6]? = some sv ∧ SlIn w 7 (ExIn w d) sv e.l := by
  cases e with
  | mk op n u0 u1 u2 u3 l =>
    obtain ⟨sv, rfl, _, _, _, _, _, _, hs⟩ := h
    exact ⟨sv, rfl, hs⟩
theorem op_exL {d : Nat} {x : Operand} {e : Ex} (ho : o.op = .fieldAddr 26 x 3) (h : LocP 7 (ExD (d + 1) e) w (ρ x)) : OpPost Try.prog o ρ w fun u w' => Ext w w' ∧ CellP (SlP 7 (fun w => ExIn w d) e.l) w' u := by
  obtain ⟨b, off, cs, he, _, hr, cs', hcs, hin⟩ := h
  obtain rfl : cs = cs' := by simpa using hcs
  obtain ⟨sv, h6, hs⟩ := exD_l hin
  exact post_value (u := .pointer (some ⟨b, off + 6, none⟩)) (w' := w) (by unfold execOp; rw [ho]; clear hr hin hs h6; go_simp) ⟨.refl _, b, off + 6, sv, rfl, hr 6 sv h6, hs⟩
theorem ExIn.st {d : Nat} : StR (fun w => ExIn w d) := fun _ _ _ _ hx h => h.ext hx
theorem op_exAtD {d : Nat} {x y : Operand} {l : List Ex} {i : Nat} {c : Ex} (ho : o.op = .indexAddr 24 x y) (h : SlP 7 (fun w => ExIn w d) l w (ρ x)) (hy : Is (.int .i64 i) w (ρ y)) (hi : l[i]? = some c) : OpPost Try.prog o ρ w fun u w' => Ext w w' ∧ LocP 7 (ExD d c) w' u := by
  obtain ⟨A, cap, e, _, _, hs⟩ := h
  have hlt : i < l.length := (List.getElem?_eq_some_iff.1 hi).1
  obtain ⟨b, off, rfl, _, hel⟩ := hs (by omega)
  obtain ⟨cs, hl, hr, hc⟩ := hel i c hi
  have ey : ρ y = .int .i64 i := hy
  clear hy hs hel
  have h1 : (0 : Int) ≤ i := by omega
  have h2 : (i : Int) < l.length := by omega
  refine post_value (u := .pointer (some ⟨b, off + i * 7, none⟩)) (w' := w) (by unfold execOp; rw [ho]; clear hr hc hi; go_simp) ⟨.refl _, b, off + i * 7, cs, rfl, hl, hr, cs, rfl, hc⟩
theorem op_shl1 {x : Operand} {n : Int} {ty2 : TypeId} {dsts : List (Option Tmp)} {a0 : Act} {v : Nat → Value} (h0 : 0 ≤ n) (h1 : n < 16) (ho : o.op = .binOp .shl 3 (.const (.int .i64 1)) x ty2) (S : Sees dsts a0 v ρ) (hx : Is (.int .i64 n) w (ρ x)) : OpPost Try.prog o ρ w fun u w' => Ext w w' ∧ Is (.int .i64 ((2 ^ n.toNat : Nat) : Int)) w' u := by
  have e1 : ρ x = _ := hx
  have c := S.c
  clear S hx
  obtain ⟨m, rfl⟩ : ∃ m : Nat, n = m := ⟨n.toNat, by omega⟩
  have hm : m < 16 := by omega
  clear h0 h1
  unfold OpPost execOp
  rw [ho]
  have hc : m = 0 ∨ m = 1 ∨ m = 2 ∨ m = 3 ∨ m = 4 ∨ m = 5 ∨ m = 6 ∨ m = 7 ∨ m = 8 ∨ m = 9 ∨ m = 10 ∨ m = 11 ∨ m = 12 ∨ m = 13 ∨ m = 14 ∨ m = 15 := by omega
  clear hm
  rcases hc with rfl | rfl | rfl | rfl | rfl | rfl | rfl | rfl | rfl | rfl | rfl | rfl | rfl | rfl | rfl | rfl
  all_goals
    go_simp
    exact ⟨.refl _, rfl⟩
end
end Go.Proofs.Ytophdbbbojnobaa
