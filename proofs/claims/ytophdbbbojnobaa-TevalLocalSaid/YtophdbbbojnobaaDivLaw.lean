/- The three quotients: rounded down, up and to the nearest. -/
import Derived.Test.YtophdbbbojnobaaOp18
namespace Go.Proofs.Ytophdbbbojnobaa
open Go.RowKit
set_option linter.unusedVariables false

/-- the code behind the statement n -/
def behind (n : Nat) : Code → Option Code
  | .seq a b => match regionOf n a with
    | some _ => some b
    | none => behind n b
  | _ => none

theorem div_bad {a b m : Int} (h8 : 8 ≤ m) (h10 : m ≤ 10) (ha : inR a = true) (hb : inR b = true) (h0 : b ≤ 0) : applyF m a b = (0, 70) := by
  unfold applyF divF
  rw [if_neg (by omega), if_neg (by omega), if_neg (by omega), if_neg (by omega), if_neg (by omega), if_neg (by omega)]
  simp [ha, hb, h0]
theorem le_of_lt_mul {x y c : Int} (hc : 0 < c) (h : x * c < (y + 1) * c) : x ≤ y := by
  have := Int.lt_of_mul_lt_mul_right h (by omega)
  omega
theorem div_good {a b : Int} (ha : -9007199254740992 ≤ a ∧ a ≤ 9007199254740992) (hb : -9007199254740992 ≤ b ∧ b ≤ 9007199254740992) (h0 : 0 < b) :
    (divF a b 8).2 = 0 ∧ (divF a b 9).2 = 0 ∧ (divF a b 10).2 = 0 ∧ (divF a b 8).1 ≤ (divF a b 10).1 ∧ (divF a b 10).1 ≤ (divF a b 9).1 ∧ (divF a b 9).1 - (divF a b 8).1 ≤ 1 ∧
    (divF a b 8).1 * b ≤ a ∧ a ≤ (divF a b 9).1 * b ∧ I64 ((divF a b 9).1 - (divF a b 8).1) ∧ I64 ((divF a b 8).1 * b) ∧ I64 ((divF a b 9).1 * b) ∧ (((divF a b 9).1 == (divF a b 8).1) == ((divF a b 8).1 * b == a)) = true := by
  have ia : inR a = true := inR_iff.2 ha
  have ib : inR b = true := inR_iff.2 hb
  have e8 : divF a b 8 = (a / b, 0) := by unfold divF; simp [ia, ib]; omega
  have e9 : divF a b 9 = (-((-a) / b), 0) := by unfold divF; simp [ia, ib]; omega
  have e10 : divF a b 10 = ((2 * a + b) / (2 * b), 0) := by unfold divF; simp [ia, ib]; omega
  rw [e8, e9, e10]
  simp only
  have q1 : a / b * b ≤ a := Int.ediv_mul_le a (by omega)
  have q2 : a < (a / b + 1) * b := Int.lt_ediv_add_one_mul_self a h0
  have p1 : (-a) / b * b ≤ -a := Int.ediv_mul_le (-a) (by omega)
  have p2 : -a < ((-a) / b + 1) * b := Int.lt_ediv_add_one_mul_self (-a) h0
  have r1 : (2 * a + b) / (2 * b) * (2 * b) ≤ 2 * a + b := Int.ediv_mul_le _ (by omega)
  have r2 : 2 * a + b < ((2 * a + b) / (2 * b) + 1) * (2 * b) := Int.lt_ediv_add_one_mul_self _ (by omega)
  generalize a / b = q at *
  generalize hp : (-a) / b = p at *
  generalize (2 * a + b) / (2 * b) = h at *
  obtain ⟨u, rfl⟩ : ∃ u, p = -u := ⟨-p, by omega⟩
  rw [Int.neg_neg]
  rw [Int.neg_mul] at p1
  have p3 : (-u + 1) * b = b - u * b := by rw [Int.add_mul, Int.neg_mul]; omega
  rw [p3] at p2
  have q3 : (q + 1) * b = q * b + b := by rw [Int.add_mul]; omega
  rw [q3] at q2
  have s1 : ∀ z : Int, z * (2 * b) = 2 * (z * b) := fun z => Int.mul_left_comm z 2 b
  rw [s1] at r1 r2
  have s2 : (h + 1) * b = h * b + b := by rw [Int.add_mul]; omega
  rw [s2] at r2
  have k1 : q ≤ h := le_of_lt_mul h0 (by rw [s2]; omega)
  have k2 : h ≤ u := le_of_lt_mul h0 (by rw [Int.add_mul]; omega)
  have k3 : u - 1 ≤ q := le_of_lt_mul h0 (by rw [q3, Int.sub_mul]; omega)
  refine ⟨trivial, trivial, trivial, k1, k2, by omega, q1, by omega, ⟨by omega, by omega⟩, ⟨by omega, by omega⟩, ⟨by omega, by omega⟩, ?_⟩
  rw [beq_iff_eq, Bool.eq_iff_iff, beq_iff_eq, beq_iff_eq]
  constructor
  · rintro rfl; omega
  · intro he
    have : u ≤ q := le_of_lt_mul h0 (by rw [q3]; omega)
    omega
end Go.Proofs.Ytophdbbbojnobaa
