/- Slices of clauses cut, and tariffs built around them. -/
import Derived.Test.YtophdbbbojnobaaFewCl
namespace Go.Proofs.Ytophdbbbojnobaa
open Go.RowKit
set_option linter.unusedVariables false

theorem SlIn.drop {α : Type} {w : World} {k : Nat} {R : List Value → α → Prop} {A : Option Addr} {l : List α} {cap : Nat} {i : Nat} (h : SlIn w k R (.slice A l.length cap) l) (hi : i < l.length) :
    SlIn w k R (.slice (if cap = i then A else A.map (·.add (i * k))) (l.length - i) (cap - i)) (l.drop i) := by
  obtain ⟨A', cap', he, h1, h2, h3⟩ := h
  simp only [Value.slice.injEq] at he
  obtain ⟨rfl, _, rfl⟩ := he
  rw [if_neg (by omega)]
  obtain ⟨b, o, rfl, hb, hel⟩ := h3 (by omega)
  have ha : (Addr.mk b o none).add (i * k) = ⟨b, o + i * k, none⟩ := by
    unfold Addr.add
    split
    · rename_i hz; simp [hz]
    · rfl
  refine ⟨some ⟨b, o + i * k, none⟩, cap - i, by simp [ha], by simp; omega, by omega, fun h0 => ⟨b, o + i * k, rfl, hb, fun j x hj => ?_⟩⟩
  · rw [List.getElem?_drop] at hj
    obtain ⟨cs, hl, hr, hR⟩ := hel (i + j) x hj
    exact ⟨cs, hl, by rw [show o + i * k + j * k = o + (i + j) * k by rw [Nat.add_mul]; omega]; exact hr, hR⟩
theorem SlIn.take {α : Type} {w : World} {k : Nat} {R : List Value → α → Prop} {A : Option Addr} {l : List α} {cap : Nat} {i : Nat} (h : SlIn w k R (.slice A l.length cap) l) (hi : i ≤ l.length) :
    SlIn w k R (.slice A i cap) (l.take i) := by
  obtain ⟨A', cap', he, h1, h2, h3⟩ := h
  simp only [Value.slice.injEq] at he
  obtain ⟨rfl, _, rfl⟩ := he
  refine ⟨A, cap, by simp [Nat.min_eq_left hi], by simp; omega, h2, fun h0 => ?_⟩
  obtain ⟨b, o, rfl, hb, hel⟩ := h3 (by simp at h0; omega)
  exact ⟨b, o, rfl, hb, fun j x hj => by
    rw [List.getElem?_take] at hj
    split at hj
    · exact hel j x hj
    · cases hj⟩

section
variable {o : Oper} {ρ : Operand → Value} {w : World}
set_option maxHeartbeats 1000000
theorem op_clFrom {x y : Operand} {l : List Cl} {i : Nat} (ho : o.op = .slice 36 x (some y) none none) (h : SlP 9 ClIn l w (ρ x)) (hy : Is (.int .i64 i) w (ρ y)) (hi : i < l.length) : OpPost Try.prog o ρ w fun u w' => Ext w w' ∧ SlP 9 ClIn (l.drop i) w' u := by
  have h' : SlIn w 9 (ClIn w) (ρ x) l := h
  obtain ⟨A, cap, e, hc1, hc2, hs⟩ := h
  rw [e] at h'
  have ey : ρ y = .int .i64 i := hy
  clear hy hs
  have h1 : (0 : Int) ≤ i := by omega
  have h2 : (i : Int) ≤ l.length := by omega
  have h3 : (l.length : Int) ≤ cap := by omega
  have h4 : (i : Int) ≤ cap := by omega
  refine post_value (u := .slice (if cap = i then A else A.map (·.add (i * 9))) (l.length - i) (cap - i)) (w' := w) (by unfold execOp; rw [ho]; clear h'; go_simp) ⟨.refl _, h'.drop hi⟩
theorem op_clTo {x y : Operand} {l : List Cl} {i : Nat} (ho : o.op = .slice 36 x none (some y) none) (h : SlP 9 ClIn l w (ρ x)) (hy : Is (.int .i64 i) w (ρ y)) (hi : i ≤ l.length) : OpPost Try.prog o ρ w fun u w' => Ext w w' ∧ SlP 9 ClIn (l.take i) w' u := by
  have h' : SlIn w 9 (ClIn w) (ρ x) l := h
  obtain ⟨A, cap, e, hc1, hc2, hs⟩ := h
  rw [e] at h'
  have ey : ρ y = .int .i64 i := hy
  clear hy hs
  have h1 : (0 : Int) ≤ i := by omega
  have h2 : (i : Int) ≤ l.length := by omega
  have h3 : (l.length : Int) ≤ cap := by omega
  have h4 : (i : Int) ≤ cap := by omega
  refine post_value (u := .slice A i cap) (w' := w) (by unfold execOp; rw [ho]; clear h'; go_simp) ⟨.refl _, h'.take hi⟩
/-- a tariff of these clauses, its other fields zero -/
def tfOf (l : List Cl) : Tf := ⟨⟨#[]⟩, 0, l⟩
theorem op_tfBuild {x : Operand} {l : List Cl} (ho : o.op = .build 38 #[(2, x)]) (h : SlP 9 ClIn l w (ρ x)) : OpPost Try.prog o ρ w fun u w' => Ext w w' ∧ TfP (tfOf l) w' u := by
  have h' : SlIn w 9 (ClIn w) (ρ x) l := h
  obtain ⟨A, cap, e, _, _, hs⟩ := h
  clear hs
  rw [e] at h'
  refine post_value (u := .agg #[.string ⟨#[]⟩, .int .i64 0, .slice A l.length cap]) (w' := w) (by unfold execOp; rw [ho]; clear h'; go_simp) ⟨.refl _, _, rfl, _, rfl, (by constructor <;> decide : I64 0), h'⟩
end
end Go.Proofs.Ytophdbbbojnobaa
