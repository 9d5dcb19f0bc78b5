/- Chapter 21: the specification's Verify. -/
import Derived.Test.YtcaomfbcchemnaaDoorTvF
namespace Go.Proofs.YtcaomfbcchemnaaDoor
open Go
set_option linter.unusedVariables false
set_option linter.unusedSimpArgs false
/-- the first loop of the specification's Verify -/
def A36a : Fr thy → Hp thy → Nat → Ann thy := fun T h i => { X := LX, fr := fun x => [(0, T 0), (4, T 4), (5, .int false .i64 x.k)], bl := fun x => [(bOf (T 4), .rows .ints x.D 0)], src := [], md := [bOf (T 4)], ih := i, M := i + 30, meas := fun x => x.r }
/-- its second loop -/
def A36b : Fr thy → Hp thy → Nat → Ann thy := fun T h i => { X := LX, fr := fun x => [(0, T 0), (4, T 4), (6, .int false .i64 x.m), (7, .int false .i64 x.k)], bl := fun x => [(bOf (T 4), .rows .ints x.D 0)], src := [], md := [bOf (T 4)], ih := i, M := i + 30, meas := fun x => x.r }
/-- the loop over what can follow -/
def A36c : Fr thy → Hp thy → Nat → Ann thy := fun T h i => { X := LX, fr := fun x => [(0, T 0), (4, T 4), (6, T 6), (7, T 7), (11, T 11), (12, T 12), (13, .int false .i64 x.k)], bl := fun x => [(bOf (T 4), .rows .ints x.D 0)], src := [], md := [bOf (T 4)], ih := i, M := i + 20, meas := fun x => x.r }
noncomputable def F8 : Fns thy := addL (addL (addL F4 36 7 A36a E) 36 15 A36b E) 36 26 A36c E
theorem F8_ok : FnsOk E F8 := addL_ok E_ok (addL_ok E_ok (addL_ok E_ok F4_ok _ _ _) _ _ _) _ _ _
--@cond rverify | 36 | F8 | 400 | (c : List Ins) | [.psl .ins c false] | (p q : Int) | .tup [.int false .i64 p, .int false .i64 q]
theorem cond_rverify (c : List Ins) (p q : Int) : callF E F8 (vc E F8 400) 36 [.psl .ins c false] hp0 0 (fun r => ret E (patch hp0 0 r) r.v (.tup [.int false .i64 p, .int false .i64 q])) = (
  (decide ((↑(List.length c) : Int) > (4096 : Int)) = true → (0 : Int) = p ∧ (2 : Int) = q ∧ True) ∧ (decide ((↑(List.length c) : Int) > (4096 : Int)) = false → (((↑(List.length c) :
  Int) == (0 : Int)) = true → (0 : Int) = p ∧ (200 : Int) = q ∧ True) ∧ (((↑(List.length c) : Int) == (0 : Int)) = false → (0 : Int) ≤ (↑(List.length c) : Int) ∧ (↑(List.length c) :
  Int) ≤ (↑(List.length c) : Int) ∧ (↑(8 : Nat) : Int) * (↑(List.length c) : Int) ≤ (281474976710656 : Int) ∧ ∃ (R : LX → Prop), (∃ (x : LX), R x ∧ true = true ∧ ((c = c ∧ (false =
  true → false = true)) ∧ ((0 : Nat) = (0 : Nat) ∧ Int.toNat (↑(List.length c) : Int) = Int.toNat (↑(List.length c) : Int) ∧ Int.toNat (↑(List.length c) : Int) = Int.toNat
  (↑(List.length c) : Int)) ∧ (0 : Int) = (↑(LX.k x) : Int) ∧ True) ∧ (List.replicate (Int.toNat (↑(List.length c) : Int)) (0 : Int) = LX.D x ∧ (0 : Nat) = (0 : Nat)) ∧ True) ∧ ∀ (x
  : LX), R x → (decide ((↑(LX.k x) : Int) < (↑(List.length c) : Int)) = true → (0 : Int) ≤ (↑(LX.k x) : Int) ∧ (↑(LX.k x) : Int) + (1 : Int) ≤ (↑(List.length c) : Int) ∧ ∀ (x_1 :
  Ins), c[Int.toNat (↑(LX.k x) : Int)]? = some x_1 → True ∧ ((!formedF x_1) = true → (0 : Int) = p ∧ (200 : Int) = q ∧ True) ∧ ((!formedF x_1) = false → ((0 : Int) ≤ (↑(LX.k x) :
  Int) ∧ (↑(LX.k x) : Int) + (1 : Int) ≤ (↑(Int.toNat (↑(List.length c) : Int)) : Int)) ∧ (0 : Nat) ≤ (0 : Nat) + Int.toNat (↑(LX.k x) : Int) ∧ (0 : Nat) + Int.toNat (↑(LX.k x) :
  Int) + (1 : Nat) ≤ List.length (LX.D x) ∧ ∀ (x_2 : Int), (LX.D x)[(0 : Nat) + Int.toNat (↑(LX.k x) : Int)]? = some x_2 → ∃ (x' : LX), R x' ∧ x'.2 + (1 : Nat) ≤ x.2 ∧ true = true ∧
  ((c = c ∧ (false = true → false = true)) ∧ ((0 : Nat) = (0 : Nat) ∧ Int.toNat (↑(List.length c) : Int) = Int.toNat (↑(List.length c) : Int) ∧ Int.toNat (↑(List.length c) : Int) =
  Int.toNat (↑(List.length c) : Int)) ∧ wr IntKind.i64 ((↑(LX.k x) : Int) + (1 : Int)) = (↑(LX.k x') : Int) ∧ True) ∧ (List.set (LX.D x) ((0 : Nat) + Int.toNat (↑(LX.k x) : Int)) (-1
  : Int) = LX.D x' ∧ (0 : Nat) = (0 : Nat)) ∧ True)) ∧ (decide ((↑(LX.k x) : Int) < (↑(List.length c) : Int)) = false → ((0 : Int) ≤ (0 : Int) ∧ (0 : Int) + (1 : Int) ≤ (↑(Int.toNat
  (↑(List.length c) : Int)) : Int)) ∧ (0 : Nat) ≤ (0 : Nat) + Int.toNat (0 : Int) ∧ (0 : Nat) + Int.toNat (0 : Int) + (1 : Nat) ≤ List.length (LX.D x) ∧ ∀ (x_1 : Int), (LX.D x)[(0 :
  Nat) + Int.toNat (0 : Int)]? = some x_1 → ∃ (R : LX → Prop), (∃ (x_2 : LX), R x_2 ∧ true = true ∧ ((c = c ∧ (false = true → false = true)) ∧ ((0 : Nat) = (0 : Nat) ∧ Int.toNat
  (↑(List.length c) : Int) = Int.toNat (↑(List.length c) : Int) ∧ Int.toNat (↑(List.length c) : Int) = Int.toNat (↑(List.length c) : Int)) ∧ (0 : Int) = LX.m x_2 ∧ (0 : Int) =
  (↑(LX.k x_2) : Int) ∧ True) ∧ (List.set (LX.D x) ((0 : Nat) + Int.toNat (0 : Int)) (0 : Int) = LX.D x_2 ∧ (0 : Nat) = (0 : Nat)) ∧ True) ∧ ∀ (x : LX), R x → (decide ((↑(LX.k x) :
  Int) < (↑(List.length c) : Int)) = true → ((0 : Int) ≤ (↑(LX.k x) : Int) ∧ (↑(LX.k x) : Int) + (1 : Int) ≤ (↑(Int.toNat (↑(List.length c) : Int)) : Int)) ∧ (0 : Nat) + Int.toNat
  (↑(LX.k x) : Int) + (1 : Nat) ≤ List.length (LX.D x) ∧ ∀ (x_2 : Int), (LX.D x)[(0 : Nat) + Int.toNat (↑(LX.k x) : Int)]? = some x_2 → (decide (x_2 < (0 : Int)) = true → ∃ (x' :
  LX), R x' ∧ x'.2 + (1 : Nat) ≤ x.2 ∧ true = true ∧ ((c = c ∧ (false = true → false = true)) ∧ ((0 : Nat) = (0 : Nat) ∧ Int.toNat (↑(List.length c) : Int) = Int.toNat (↑(List.length
  c) : Int) ∧ Int.toNat (↑(List.length c) : Int) = Int.toNat (↑(List.length c) : Int)) ∧ LX.m x = LX.m x' ∧ wr IntKind.i64 ((↑(LX.k x) : Int) + (1 : Int)) = (↑(LX.k x') : Int) ∧
  True) ∧ (LX.D x = LX.D x' ∧ (0 : Nat) = (0 : Nat)) ∧ True) ∧ (decide (x_2 < (0 : Int)) = false → (0 : Int) ≤ (↑(LX.k x) : Int) ∧ (↑(LX.k x) : Int) + (1 : Int) ≤ (↑(List.length c) :
  Int) ∧ ∀ (x_3 : Ins), c[Int.toNat (↑(LX.k x) : Int)]? = some x_3 → True ∧ ∃ (Q : Bool → Prop), ((decide (x_2 < Prod.fst (eff (Ins.op x_3))) = true → Q true) ∧ (decide (x_2 <
  Prod.fst (eff (Ins.op x_3))) = false → (0 : Int) ≤ (↑(LX.k x) : Int) ∧ (↑(LX.k x) : Int) + (1 : Int) ≤ (↑(List.length c) : Int) ∧ ∀ (x_4 : Ins), c[Int.toNat (↑(LX.k x) : Int)]? =
  some x_4 → ((Ins.op x_4 == (15 : Int)) = true → ((x_2 != (1 : Int)) = true → Q true) ∧ ((x_2 != (1 : Int)) = false → (0 : Int) ≤ (↑(LX.k x) : Int) ∧ (↑(LX.k x) : Int) + (1 : Int) ≤
  (↑(List.length c) : Int) ∧ ∀ (x_5 : Ins), c[Int.toNat (↑(LX.k x) : Int)]? = some x_5 → ((Ins.op x_5 == (16 : Int)) = true → ((x_2 != (0 : Int)) = true → Q true) ∧ ((x_2 != (0 :
  Int)) = false → Q false)) ∧ ((Ins.op x_5 == (16 : Int)) = false → Q false))) ∧ ((Ins.op x_4 == (15 : Int)) = false → (0 : Int) ≤ (↑(LX.k x) : Int) ∧ (↑(LX.k x) : Int) + (1 : Int) ≤
  (↑(List.length c) : Int) ∧ ∀ (x_5 : Ins), c[Int.toNat (↑(LX.k x) : Int)]? = some x_5 → ((Ins.op x_5 == (16 : Int)) = true → ((x_2 != (0 : Int)) = true → Q true) ∧ ((x_2 != (0 :
  Int)) = false → Q false)) ∧ ((Ins.op x_5 == (16 : Int)) = false → Q false)))) ∧ (Q true → (0 : Int) = p ∧ (200 : Int) = q ∧ True) ∧ (Q false → ((0 : Int) ≤ (↑(LX.k x) : Int) ∧
  (↑(LX.k x) : Int) + (1 : Int) ≤ (↑(List.length c) : Int) ∧ List.length c ≤ (4096 : Nat)) ∧ ∃ (R_1 : LX → Prop), (∃ (x_4 : LX), R_1 x_4 ∧ true = true ∧ ((c = c ∧ (false = true →
  false = true)) ∧ ((0 : Nat) = (0 : Nat) ∧ Int.toNat (↑(List.length c) : Int) = Int.toNat (↑(List.length c) : Int) ∧ Int.toNat (↑(List.length c) : Int) = Int.toNat (↑(List.length c)
  : Int)) ∧ mm2 true (mm2 true (LX.m x) x_2) (wr IntKind.i64 (wr IntKind.i64 (x_2 - Prod.fst (eff (Ins.op x_3))) + Prod.snd (eff (Ins.op x_3)))) = mm2 true (mm2 true (LX.m x) x_2)
  (wr IntKind.i64 (wr IntKind.i64 (x_2 - Prod.fst (eff (Ins.op x_3))) + Prod.snd (eff (Ins.op x_3)))) ∧ (↑(LX.k x) : Int) = (↑(LX.k x) : Int) ∧ wr IntKind.i64 (wr IntKind.i64 (x_2 -
  Prod.fst (eff (Ins.op x_3))) + Prod.snd (eff (Ins.op x_3))) = wr IntKind.i64 (wr IntKind.i64 (x_2 - Prod.fst (eff (Ins.op x_3))) + Prod.snd (eff (Ins.op x_3))) ∧ (nextC c (↑(LX.k
  x) : Int) = nextC c (↑(LX.k x) : Int) ∧ (false = true → false = true)) ∧ (0 : Int) = (↑(LX.k x_4) : Int) ∧ True) ∧ (LX.D x = LX.D x_4 ∧ (0 : Nat) = (0 : Nat)) ∧ True) ∧ ∀ (x_4 :
  LX), R_1 x_4 → (decide ((↑(LX.k x_4) : Int) < (↑(List.length (nextC c (↑(LX.k x) : Int))) : Int)) = true → (0 : Int) ≤ (↑(LX.k x_4) : Int) ∧ (↑(LX.k x_4) : Int) + (1 : Int) ≤
  (↑(List.length (nextC c (↑(LX.k x) : Int))) : Int) ∧ ∀ (x_5 : Int), (nextC c (↑(LX.k x) : Int))[Int.toNat (↑(LX.k x_4) : Int)]? = some x_5 → ∃ (Q : Bool → Prop), ((decide (x_5 ≤
  (↑(LX.k x) : Int)) = true → Q true) ∧ (decide (x_5 ≤ (↑(LX.k x) : Int)) = false → (decide (x_5 ≥ (↑(List.length c) : Int)) = true → Q true) ∧ (decide (x_5 ≥ (↑(List.length c) :
  Int)) = false → ((0 : Int) ≤ x_5 ∧ x_5 + (1 : Int) ≤ (↑(Int.toNat (↑(List.length c) : Int)) : Int)) ∧ (0 : Nat) + Int.toNat x_5 + (1 : Nat) ≤ List.length (LX.D x_4) ∧ ∀ (x : Int),
  (LX.D x_4)[(0 : Nat) + Int.toNat x_5]? = some x → (decide (x ≥ (0 : Int)) = true → ((0 : Int) ≤ x_5 ∧ x_5 + (1 : Int) ≤ (↑(Int.toNat (↑(List.length c) : Int)) : Int)) ∧ (0 : Nat) +
  Int.toNat x_5 + (1 : Nat) ≤ List.length (LX.D x_4) ∧ ∀ (x : Int), (LX.D x_4)[(0 : Nat) + Int.toNat x_5]? = some x → ((x != wr IntKind.i64 (wr IntKind.i64 (x_2 - Prod.fst (eff
  (Ins.op x_3))) + Prod.snd (eff (Ins.op x_3)))) = true → Q true) ∧ ((x != wr IntKind.i64 (wr IntKind.i64 (x_2 - Prod.fst (eff (Ins.op x_3))) + Prod.snd (eff (Ins.op x_3)))) = false
  → Q false)) ∧ (decide (x ≥ (0 : Int)) = false → Q false)))) ∧ (Q true → (0 : Int) = p ∧ (200 : Int) = q ∧ True) ∧ (Q false → ((0 : Int) ≤ x_5 ∧ x_5 + (1 : Int) ≤ (↑(Int.toNat
  (↑(List.length c) : Int)) : Int)) ∧ (0 : Nat) ≤ (0 : Nat) + Int.toNat x_5 ∧ (0 : Nat) + Int.toNat x_5 + (1 : Nat) ≤ List.length (LX.D x_4) ∧ ∀ (x_6 : Int), (LX.D x_4)[(0 : Nat) +
  Int.toNat x_5]? = some x_6 → ∃ (x' : LX), R_1 x' ∧ x'.2 + (1 : Nat) ≤ x_4.2 ∧ true = true ∧ ((c = c ∧ (false = true → false = true)) ∧ ((0 : Nat) = (0 : Nat) ∧ Int.toNat
  (↑(List.length c) : Int) = Int.toNat (↑(List.length c) : Int) ∧ Int.toNat (↑(List.length c) : Int) = Int.toNat (↑(List.length c) : Int)) ∧ mm2 true (mm2 true (LX.m x) x_2) (wr
  IntKind.i64 (wr IntKind.i64 (x_2 - Prod.fst (eff (Ins.op x_3))) + Prod.snd (eff (Ins.op x_3)))) = mm2 true (mm2 true (LX.m x) x_2) (wr IntKind.i64 (wr IntKind.i64 (x_2 - Prod.fst
  (eff (Ins.op x_3))) + Prod.snd (eff (Ins.op x_3)))) ∧ (↑(LX.k x) : Int) = (↑(LX.k x) : Int) ∧ wr IntKind.i64 (wr IntKind.i64 (x_2 - Prod.fst (eff (Ins.op x_3))) + Prod.snd (eff
  (Ins.op x_3))) = wr IntKind.i64 (wr IntKind.i64 (x_2 - Prod.fst (eff (Ins.op x_3))) + Prod.snd (eff (Ins.op x_3))) ∧ (nextC c (↑(LX.k x) : Int) = nextC c (↑(LX.k x) : Int) ∧ (false
  = true → false = true)) ∧ wr IntKind.i64 ((↑(LX.k x_4) : Int) + (1 : Int)) = (↑(LX.k x') : Int) ∧ True) ∧ (List.set (LX.D x_4) ((0 : Nat) + Int.toNat x_5) (wr IntKind.i64 (wr
  IntKind.i64 (x_2 - Prod.fst (eff (Ins.op x_3))) + Prod.snd (eff (Ins.op x_3)))) = LX.D x' ∧ (0 : Nat) = (0 : Nat)) ∧ True)) ∧ (decide ((↑(LX.k x_4) : Int) < (↑(List.length (nextC c
  (↑(LX.k x) : Int))) : Int)) = false → ∃ (x' : LX), R x' ∧ x'.2 + (1 : Nat) ≤ x.2 ∧ true = true ∧ ((c = c ∧ (false = true → false = true)) ∧ ((0 : Nat) = (0 : Nat) ∧ Int.toNat
  (↑(List.length c) : Int) = Int.toNat (↑(List.length c) : Int) ∧ Int.toNat (↑(List.length c) : Int) = Int.toNat (↑(List.length c) : Int)) ∧ mm2 true (mm2 true (LX.m x) x_2) (wr
  IntKind.i64 (wr IntKind.i64 (x_2 - Prod.fst (eff (Ins.op x_3))) + Prod.snd (eff (Ins.op x_3)))) = LX.m x' ∧ wr IntKind.i64 ((↑(LX.k x) : Int) + (1 : Int)) = (↑(LX.k x') : Int) ∧
  True) ∧ (LX.D x_4 = LX.D x' ∧ (0 : Nat) = (0 : Nat)) ∧ True)))) ∧ (decide ((↑(LX.k x) : Int) < (↑(List.length c) : Int)) = false → (decide (LX.m x > (64 : Int)) = true → (0 : Int)
  = p ∧ (2 : Int) = q ∧ True) ∧ (decide (LX.m x > (64 : Int)) = false → LX.m x = p ∧ (0 : Int) = q ∧ True)))))
  ) := by kernel_rfl
--@end
theorem setF_next {len i after : Int} {D : List Int} {x : Ins} (hi : 0 ≤ i) (ha : 0 ≤ after) (hD : (D.length : Int) = len) : setF len i after (nextR i x) D = setF len i after (nextF i x) D := by
  unfold nextR nextF
  split
  · rfl
  · split
    · rfl
    · split
      · exact setF_swap ha hi hD
      · rfl
theorem neg_step {n k : Nat} (hk : k < n) : (List.replicate k (-1 : Int) ++ List.replicate (n - k) 0).set k (-1) = List.replicate (k + 1) (-1) ++ List.replicate (n - (k + 1)) 0 := by
  obtain ⟨m, hm⟩ : ∃ m, n - k = m + 1 := ⟨n - k - 1, by omega⟩
  rw [hm, show n - (k + 1) = m by omega, List.replicate_succ, List.set_append_right _ _ (by simp), List.length_replicate, Nat.sub_self, List.set_cons_zero, List.replicate_succ', List.append_assoc]
  rfl
theorem rverify_pure (c : List Ins) : PureC E 36 [.psl .ins c false] (.tup [.int false .i64 (verF c).1, .int false .i64 (verF c).2]) := by
  refine pure_of_call E_ok (callOk_of E_ok F8_ok 400) ?_
  rw [cond_rverify]
  have s1 : 4096 < c.length → verF c = (0, 2) := fun h => by unfold verF; rw [if_pos h]
  have s2 : c.length = 0 → verF c = (0, 200) := fun h => by unfold verF; rw [if_neg (by omega), if_pos (.inl h)]
  have s3 : c.length ≤ 4096 → c.all formedF = false → verF c = (0, 200) := fun h h2 => by unfold verF; rw [if_neg (by omega), if_pos (.inr h2)]
  have s4 : c.length ≤ 4096 → c.length ≠ 0 → c.all formedF = true → verF c = endF (fromF c.length c 0 (deps c) 0) := fun h h2 h3 => by unfold verF; rw [if_neg (by omega), if_neg (by simp [h2, h3])]
  generalize verF c = V at *
  simp only [bif_true, bif_false, bif_nt, bif_tf, bif_ft, beq_iff_eq, bne_iff_ne, beq_eq_false_iff_ne, bne_eq_false_iff_eq, decide_eq_true_eq, decide_eq_false_iff_not, Bool.or_eq_true, Bool.or_eq_false_iff, Bool.not_eq_true', Bool.not_eq_false', Bool.and_eq_true, Bool.and_true, Bool.true_and, Bool.and_eq_false_iff, beq_self_eq_true, mm2_max, mm2_min, ne_eq, and_true, true_and, Bool.true_eq_false, Bool.false_eq_true, false_or, or_false, true_implies, Int.ofNat_eq_natCast, not_true_eq_false, not_false_eq_true, Decidable.not_not, gt_iff_lt, ge_iff_le, Int.toNat_natCast, Nat.zero_add, Int.toNat_zero]
  refine ⟨fun h => ?_, fun h => ⟨fun h2 => ?_, fun h2 => ⟨by omega, Int.le_refl _, by omega, ?_⟩⟩⟩
  · rw [s1 (by omega)]; simp
  · rw [s2 (by omega)]; simp
  have hn : c.length ≤ 4096 := by omega
  refine ⟨fun x => x.k + x.r = c.length ∧ x.D = List.replicate x.k (-1) ++ List.replicate (c.length - x.k) 0 ∧ (c.take x.k).all formedF = true, ⟨⟨0, c.length, List.replicate c.length 0, 0⟩, by simp, by simp⟩, fun x hx => ?_⟩
  obtain ⟨hkr, hD, hall⟩ := hx
  have hDl : x.D.length = c.length := by rw [hD]; simp; omega
  refine ⟨fun hlt => ⟨by omega, by omega, fun y hy => ⟨fun hf => ?_, fun hf => ⟨by omega, Nat.zero_le _, by omega, fun z hz => ?_⟩⟩⟩, fun hge => ?_⟩
  · rw [s3 hn (all_of_take hy hf)]; simp
  · refine ⟨⟨x.k + 1, x.r - 1, x.D.set x.k (-1), 0⟩, ⟨by show x.k + 1 + (x.r - 1) = _; omega, ?_, ?_⟩, by show x.r - 1 + 1 ≤ x.r; omega, ?_⟩
    · show x.D.set x.k (-1) = _
      rw [hD]; exact neg_step (by omega)
    · show (c.take (x.k + 1)).all formedF = true
      rw [all_take_succ hy, hall, hf]; rfl
    · rw [wr64 (by omega) (by omega)]; simp
  have hkn : x.k = c.length := by omega
  rw [hkn, List.take_of_length_le (Nat.le_refl _)] at hall
  have h3 : c.all formedF = true := hall
  rw [s4 hn (by omega) h3]
  clear s1 s2 s3 s4 V h
  have hD : x.D = List.replicate c.length (-1) := by rw [hD, hkn, Nat.sub_self]; simp
  clear hkr hge
  refine ⟨by omega, Nat.zero_le _, by omega, fun z hz => ?_⟩
  rw [hD] at hDl ⊢
  clear hz hD hkn
  refine ⟨RV c, ⟨⟨0, c.length, deps c, 0⟩, ⟨by show 0 + c.length = _; omega, by simp [deps], ?_, by simp⟩, by simp [deps]⟩, fun x hR => ?_⟩
  · intro d hd
    rcases List.mem_or_eq_of_mem_set hd with h | h
    · rw [List.mem_replicate] at h; show -1 ≤ d ∧ d ≤ 0; omega
    · show -1 ≤ d ∧ d ≤ 0; omega
  have hlen := hR.len
  refine ⟨fun hlt => ⟨by omega, by omega, fun x3 hx3 => ?_⟩, fun hge => ?_⟩
  · have hb := hR.lo x3 (List.mem_of_getElem? hx3)
    have hkr := hR.kr
    have hget : x.D.getD x.k 0 = x3 := by simp [List.getD_eq_getElem?_getD, hx3]
    obtain ⟨x2, hx2⟩ : ∃ x2, c[x.k]? = some x2 := ⟨c[x.k]'(by omega), by simp⟩
    have he := eff_bd x2.op
    have hdrop : c.drop x.k = x2 :: c.drop (x.k + 1) := by
      obtain ⟨h1, rfl⟩ := List.getElem?_eq_some_iff.1 hx2
      exact List.drop_eq_getElem_cons h1
    have hrun := hR.run
    rw [hdrop] at hrun
    simp only [fromF] at hrun
    have eK : wr .i64 ((x.k : Int) + 1) = x.k + 1 := wr64 (by omega) (by omega)
    have eA : wr .i64 (wr .i64 (x3 - (eff x2.op).1) + (eff x2.op).2) = x3 - (eff x2.op).1 + (eff x2.op).2 := by
      have e0 : wr .i64 (x3 - (eff x2.op).1) = x3 - (eff x2.op).1 := wr64 (by omega) (by omega)
      rw [e0]; exact wr64 (by omega) (by omega)
    have hnc : nextC c x.k = nextR x.k x2 := by unfold nextC; rw [Int.toNat_natCast, hx2]
    simp only [hx2, Option.some.injEq, forall_eq', eK, eA, hnc]
    refine ⟨fun hneg => ?_, fun hneg => ⟨by omega, by omega, ?_⟩⟩
    · have hsome : rndF c.length x.k x2 x.D x.m = some (x.D, x.m) := by unfold rndF; rw [hget, if_pos hneg]
      rw [hsome] at hrun
      exact ⟨⟨x.k + 1, x.r - 1, x.D, x.m⟩, ⟨by show x.k + 1 + (x.r - 1) = _; omega, hlen, fun d hd => by have := hR.lo d hd; show -1 ≤ d ∧ d ≤ ((x.k + 1 : Nat) : Int); omega, hrun⟩, by show x.r - 1 + 1 ≤ x.r; omega, by simp⟩
    refine ⟨fun b => (b = true ↔ (x3 < (eff x2.op).1 ∨ (x2.op = 15 ∧ x3 ≠ 1) ∨ (x2.op = 16 ∧ x3 ≠ 0))), ?_, fun hQ => ?_, fun hQ => ?_⟩
    · repeat' (first | (refine And.intro ?_ ?_) | (intro h))
      all_goals try simp
      all_goals omega
    · have hQ := hQ.1 rfl
      have hnone : rndF c.length x.k x2 x.D x.m = none := by unfold rndF; rw [hget, if_neg hneg, if_pos hQ]
      rw [hnone] at hrun
      rw [← hrun]
      simp [endF]
    have hbad : ¬ (x3 < (eff x2.op).1 ∨ (x2.op = 15 ∧ x3 ≠ 1) ∨ (x2.op = 16 ∧ x3 ≠ 0)) := fun h => absurd (hQ.2 h) (by simp)
    have hsw := setF_next (x := x2) (D := x.D) (len := c.length) (i := x.k) (after := x3 - (eff x2.op).1 + (eff x2.op).2) (by omega) (by omega) (by omega)
    generalize hNS : nextR x.k x2 = NS at *
    have hNl : NS.length ≤ 2 := by
      rw [← hNS]; unfold nextR
      repeat' split
      all_goals simp
    refine ⟨by omega, ?_⟩
    refine ⟨RN c x (x3 - (eff x2.op).1 + (eff x2.op).2) NS, ⟨⟨0, NS.length, x.D, 0⟩, ⟨by simp, hR.len, fun d hd => ⟨(hR.lo d hd).1, by have := (hR.lo d hd).2; omega⟩, rfl⟩, by simp⟩, fun y hy => ⟨fun hlt => ?_, fun hge => ?_⟩⟩
    · refine ⟨by omega, by omega, fun n hy5 => ?_⟩
      have hns : NS.drop y.k = n :: NS.drop (y.k + 1) := by
        obtain ⟨h1, rfl⟩ := List.getElem?_eq_some_iff.1 hy5
        exact List.drop_eq_getElem_cons h1
      have hset := hy.run
      rw [hns] at hset
      generalize hS : setF c.length x.k (x3 - (eff x2.op).1 + (eff x2.op).2) NS x.D = SF at hset
      simp only [setF] at hset
      refine ⟨fun b => (b = true ↔ (n ≤ x.k ∨ (c.length : Int) ≤ n ∨ (0 ≤ y.D.getD n.toNat 0 ∧ y.D.getD n.toNat 0 ≠ x3 - (eff x2.op).1 + (eff x2.op).2))), ?_, fun hQ => ?_, fun hQ => ?_⟩
      · refine ⟨fun h => by simp [h], fun h => ⟨fun h' => by simp [h'], fun h' => ⟨by omega, by rw [hy.len]; omega, fun z hz => ?_⟩⟩⟩
        have hg : y.D.getD n.toNat 0 = z := by simp [List.getD_eq_getElem?_getD, hz]
        rw [hg]
        refine ⟨fun h0 => ⟨by omega, by rw [hy.len]; omega, fun z2 hz2 => ?_⟩, fun h0 => by simp; omega⟩
        rw [hz] at hz2; cases hz2
        exact ⟨fun h1 => by simp; omega, fun h1 => by simp; omega⟩
      · have hQ := hQ.1 rfl
        rw [if_pos hQ] at hset
        have hnone : rndF c.length x.k x2 x.D x.m = none := by
          unfold rndF
          rw [hget, if_neg hneg, if_neg hbad, ← hsw, hS, ← hset]
        rw [hnone] at hrun
        rw [← hrun]
        simp [endF]
      · have hQ : ¬ (n ≤ x.k ∨ (c.length : Int) ≤ n ∨ (0 ≤ y.D.getD n.toNat 0 ∧ y.D.getD n.toNat 0 ≠ x3 - (eff x2.op).1 + (eff x2.op).2)) := fun h => by simp at hQ; exact absurd h (by simpa using hQ)
        rw [if_neg hQ] at hset
        refine ⟨by omega, Nat.zero_le _, by rw [hy.len]; omega, fun z hz => ?_⟩
        refine ⟨⟨y.k + 1, y.r - 1, y.D.set n.toNat (x3 - (eff x2.op).1 + (eff x2.op).2), 0⟩, ⟨by have := hy.kr; show y.k + 1 + (y.r - 1) = _; omega, by simp [hy.len], mem_set_bd hy.lo (by omega), hset.trans hS.symm⟩, by have := hy.kr; show y.r - 1 + 1 ≤ y.r; omega, ?_⟩
        rw [wr64 (by omega) (by omega)]
        simp
    · have hyk : NS.drop y.k = [] := List.drop_eq_nil_of_le (by omega)
      have hset := hy.run
      rw [hyk] at hset
      generalize hS : setF c.length x.k (x3 - (eff x2.op).1 + (eff x2.op).2) NS x.D = SF at hset
      simp only [setF] at hset
      have hsome : rndF c.length x.k x2 x.D x.m = some (y.D, max (max x.m x3) (x3 - (eff x2.op).1 + (eff x2.op).2)) := by
        unfold rndF
        rw [hget, if_neg hneg, if_neg hbad, ← hsw, hS, ← hset]
      rw [hsome] at hrun
      refine ⟨⟨x.k + 1, x.r - 1, y.D, _⟩, ⟨by have := hR.kr; show x.k + 1 + (x.r - 1) = _; omega, hy.len, fun d hd => by have := hy.lo d hd; show -1 ≤ d ∧ d ≤ ((x.k + 1 : Nat) : Int); omega, hrun⟩, by have := hR.kr; show x.r - 1 + 1 ≤ x.r; omega, ?_⟩
      simp
  · have hrun := hR.run
    rw [List.drop_eq_nil_of_le (by omega)] at hrun
    simp only [fromF] at hrun
    rw [← hrun]
    refine ⟨fun h => ?_, fun h => ?_⟩
    · simp [endF, h]
    · simp [endF, h]
end Go.Proofs.YtcaomfbcchemnaaDoor
