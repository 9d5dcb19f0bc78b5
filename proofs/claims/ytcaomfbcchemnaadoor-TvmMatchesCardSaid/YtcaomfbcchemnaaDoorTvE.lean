/- Chapter 21: Verify of the program. -/
import Derived.Test.YtcaomfbcchemnaaDoorTvD
namespace Go.Proofs.YtcaomfbcchemnaaDoor
open Go
set_option linter.unusedVariables false
set_option linter.unusedSimpArgs false
noncomputable def dFn (f : Nat) : Dc E Unit where
  dec v := match v with | .fn (.func g) [] [] => (match Nat.beq g f with | true => some () | false => none) | _ => none
  enc _ := .fn (.func f) [] []
  ok v a h := by
    split at h
    · split at h
      · rename_i e
        rw [Nat.eq_of_beq_eq_true e]
        exact ⟨rfl, rfl, fun σ g u hd => hd⟩
      · cases h
    · cases h
noncomputable def Scontains : Sum thy := sumP (dL2 dCode (dFn 30)) (fun x => x.1.length ≤ 4096) fun x => .bool false (!x.1.all formedF)
noncomputable def Sbmul : Sum thy := sumP (dL2 (dInt .u64) (dInt .u64)) (fun x => x.1 = 1 ∧ 0 ≤ x.2.1 ∧ x.2.1 < 4294967296) fun x => .tup [.int false .u64 0, .int false .u64 x.2.1]
noncomputable def F4 : Fns thy := addS (addS F3 29 Scontains) 50 Sbmul
theorem F4_ok : FnsOk E F4 := by
  refine addS_ok (addS_ok F3_ok ?_) ?_
  · exact sumP_ok E_ok (good_of (f := 29) rfl) fun x h => contains_pure x.1 h
  · refine sumP_ok E_ok (good_of (f := 50) rfl) fun x h => ?_
    obtain ⟨x, y, u⟩ := x
    obtain ⟨rfl, h1, h2⟩ := h
    exact bmul_pure y h1 h2
--@cond verify | 9 | F4 | 400 | (c : List Ins) | [.psl .ins c false] | (p q : Int) | .tup [.int false .i64 p, .int false .i64 q]
theorem cond_verify (c : List Ins) (p q : Int) : callF E F4 (vc E F4 400) 9 [.psl .ins c false] hp0 0 (fun r => ret E (patch hp0 0 r) r.v (.tup [.int false .i64 p, .int false .i64 q])) = (
  (decide ((↑(List.length c) : Int) > (4096 : Int)) = true → (0 : Int) = p ∧ (2 : Int) = q ∧ True) ∧ (decide ((↑(List.length c) : Int) > (4096 : Int)) = false → (((↑(List.length c) :
  Int) == (0 : Int)) = true → (0 : Int) = p ∧ (200 : Int) = q ∧ True) ∧ (((↑(List.length c) : Int) == (0 : Int)) = false → List.length c ≤ (4096 : Nat) ∧ ((!List.all c formedF) =
  true → (0 : Int) = p ∧ (200 : Int) = q ∧ True) ∧ ((!List.all c formedF) = false → (decide ((↑(List.length c) : Int) < (0 : Int)) = true → False) ∧ (decide ((↑(List.length c) : Int)
  < (0 : Int)) = false → ((1 : Int) = (1 : Int) ∧ (0 : Int) ≤ wr IntKind.u64 (↑(List.length c) : Int) ∧ wr IntKind.u64 (↑(List.length c) : Int) + (1 : Int) ≤ (4294967296 : Int)) ∧ ∃
  (Q : Bool → Prop), ((decide ((0 : Int) > (0 : Int)) = true → Q true) ∧ (decide ((0 : Int) > (0 : Int)) = false → (decide (wr IntKind.u64 (↑(List.length c) : Int) >
  (9223372036854775807 : Int)) = true → Q true) ∧ (decide (wr IntKind.u64 (↑(List.length c) : Int) > (9223372036854775807 : Int)) = false → Q false))) ∧ (Q true → False) ∧ (Q false →
  (0 : Int) ≤ wr IntKind.i64 (wr IntKind.u64 (↑(List.length c) : Int)) ∧ wr IntKind.i64 (wr IntKind.u64 (↑(List.length c) : Int)) ≤ wr IntKind.i64 (wr IntKind.u64 (↑(List.length c) :
  Int)) ∧ (↑(8 : Nat) : Int) * wr IntKind.i64 (wr IntKind.u64 (↑(List.length c) : Int)) ≤ (281474976710656 : Int) ∧ ((0 : Nat) ≤ (0 : Nat) ∧ (0 : Nat) + Int.toNat (wr IntKind.i64 (wr
  IntKind.u64 (↑(List.length c) : Int))) ≤ List.length (List.replicate (Int.toNat (wr IntKind.i64 (wr IntKind.u64 (↑(List.length c) : Int)))) (0 : Int))) ∧ ∃ (R : LX → Prop), (∃ (x :
  LX), R x ∧ true = true ∧ (((0 : Nat) = (0 : Nat) ∧ Int.toNat (wr IntKind.i64 (wr IntKind.u64 (↑(List.length c) : Int))) = Int.toNat (wr IntKind.i64 (wr IntKind.u64 (↑(List.length
  c) : Int))) ∧ Int.toNat (wr IntKind.i64 (wr IntKind.u64 (↑(List.length c) : Int))) = Int.toNat (wr IntKind.i64 (wr IntKind.u64 (↑(List.length c) : Int)))) ∧ (↑(min (List.length
  [(-1 : Int)]) (Int.toNat (wr IntKind.i64 (wr IntKind.u64 (↑(List.length c) : Int))))) : Int) = (↑(LX.k x) : Int) ∧ True) ∧ (List.take (0 : Nat) (List.replicate (Int.toNat (wr
  IntKind.i64 (wr IntKind.u64 (↑(List.length c) : Int)))) (0 : Int)) ++ List.take (Int.toNat (wr IntKind.i64 (wr IntKind.u64 (↑(List.length c) : Int)))) [(-1 : Int)] ++ List.drop ((0
  : Nat) + min (List.length [(-1 : Int)]) (Int.toNat (wr IntKind.i64 (wr IntKind.u64 (↑(List.length c) : Int))))) (List.replicate (Int.toNat (wr IntKind.i64 (wr IntKind.u64
  (↑(List.length c) : Int)))) (0 : Int)) = LX.D x ∧ (0 : Nat) = (0 : Nat)) ∧ True) ∧ ∀ (x : LX), R x → (decide ((↑(LX.k x) : Int) < (↑(Int.toNat (wr IntKind.i64 (wr IntKind.u64
  (↑(List.length c) : Int)))) : Int)) = true → ((0 : Int) ≤ (↑(LX.k x) : Int) ∧ (↑(LX.k x) : Int) ≤ (↑(Int.toNat (wr IntKind.i64 (wr IntKind.u64 (↑(List.length c) : Int)))) : Int)) ∧
  (decide ((↑(LX.k x) : Int) < (↑(Int.toNat (wr IntKind.i64 (wr IntKind.u64 (↑(List.length c) : Int)))) : Int)) = true → ((0 : Int) ≤ (↑(LX.k x) : Int) ∧ (↑(LX.k x) : Int) ≤
  (↑(Int.toNat (wr IntKind.i64 (wr IntKind.u64 (↑(List.length c) : Int)))) : Int)) ∧ (0 : Nat) + Int.toNat (↑(LX.k x) : Int) ≤ List.length (LX.D x) ∧ ((0 : Nat) ≤ (0 : Nat) +
  Int.toNat (↑(LX.k x) : Int) ∧ (0 : Nat) + Int.toNat (↑(LX.k x) : Int) + (Int.toNat (wr IntKind.i64 (wr IntKind.u64 (↑(List.length c) : Int))) - Int.toNat (↑(LX.k x) : Int)) ≤
  List.length (LX.D x)) ∧ ∃ (x' : LX), R x' ∧ x'.2 + (1 : Nat) ≤ x.2 ∧ true = true ∧ (((0 : Nat) = (0 : Nat) ∧ Int.toNat (wr IntKind.i64 (wr IntKind.u64 (↑(List.length c) : Int))) =
  Int.toNat (wr IntKind.i64 (wr IntKind.u64 (↑(List.length c) : Int))) ∧ Int.toNat (wr IntKind.i64 (wr IntKind.u64 (↑(List.length c) : Int))) = Int.toNat (wr IntKind.i64 (wr
  IntKind.u64 (↑(List.length c) : Int)))) ∧ wr IntKind.i64 ((↑(LX.k x) : Int) + (↑(min (List.length (List.take (Int.toNat (↑(LX.k x) : Int)) (LX.D x))) (Int.toNat (wr IntKind.i64 (wr
  IntKind.u64 (↑(List.length c) : Int))) - Int.toNat (↑(LX.k x) : Int))) : Int)) = (↑(LX.k x') : Int) ∧ True) ∧ (List.take ((0 : Nat) + Int.toNat (↑(LX.k x) : Int)) (LX.D x) ++
  List.take (Int.toNat (wr IntKind.i64 (wr IntKind.u64 (↑(List.length c) : Int))) - Int.toNat (↑(LX.k x) : Int)) (List.take (Int.toNat (↑(LX.k x) : Int)) (LX.D x)) ++ List.drop ((0 :
  Nat) + Int.toNat (↑(LX.k x) : Int) + min (List.length (List.take (Int.toNat (↑(LX.k x) : Int)) (LX.D x))) (Int.toNat (wr IntKind.i64 (wr IntKind.u64 (↑(List.length c) : Int))) -
  Int.toNat (↑(LX.k x) : Int))) (LX.D x) = LX.D x' ∧ (0 : Nat) = (0 : Nat)) ∧ True) ∧ (decide ((↑(LX.k x) : Int) < (↑(Int.toNat (wr IntKind.i64 (wr IntKind.u64 (↑(List.length c) :
  Int)))) : Int)) = false → ((0 : Int) ≤ (↑(LX.k x) : Int) ∧ (↑(LX.k x) : Int) ≤ (↑(Int.toNat (wr IntKind.i64 (wr IntKind.u64 (↑(List.length c) : Int)))) : Int)) ∧ False)) ∧ (decide
  ((↑(LX.k x) : Int) < (↑(Int.toNat (wr IntKind.i64 (wr IntKind.u64 (↑(List.length c) : Int)))) : Int)) = false → ((0 : Int) ≤ (0 : Int) ∧ (0 : Int) + (1 : Int) ≤ (↑(Int.toNat (wr
  IntKind.i64 (wr IntKind.u64 (↑(List.length c) : Int)))) : Int)) ∧ (0 : Nat) ≤ (0 : Nat) + Int.toNat (0 : Int) ∧ (0 : Nat) + Int.toNat (0 : Int) + (1 : Nat) ≤ List.length (LX.D x) ∧
  ∀ (x_1 : Int), (LX.D x)[(0 : Nat) + Int.toNat (0 : Int)]? = some x_1 → ∃ (R : LX → Prop), (∃ (x_2 : LX), R x_2 ∧ true = true ∧ ((c = c ∧ (false = true → false = true)) ∧ (0 : Int)
  = LX.m x_2 ∧ ((0 : Nat) = (0 : Nat) ∧ Int.toNat (wr IntKind.i64 (wr IntKind.u64 (↑(List.length c) : Int))) = Int.toNat (wr IntKind.i64 (wr IntKind.u64 (↑(List.length c) : Int))) ∧
  Int.toNat (wr IntKind.i64 (wr IntKind.u64 (↑(List.length c) : Int))) = Int.toNat (wr IntKind.i64 (wr IntKind.u64 (↑(List.length c) : Int)))) ∧ (c = c ∧ (false = true → false =
  true)) ∧ (↑(List.length c) : Int) = (↑(List.length c) : Int) ∧ (0 : Int) = (↑(LX.k x_2) : Int) ∧ True) ∧ (List.set (LX.D x) ((0 : Nat) + Int.toNat (0 : Int)) (0 : Int) = LX.D x_2 ∧
  (0 : Nat) = (0 : Nat)) ∧ True) ∧ ∀ (x : LX), R x → (decide ((↑(LX.k x) : Int) < (↑(List.length c) : Int)) = true → (0 : Int) ≤ (↑(LX.k x) : Int) ∧ (↑(LX.k x) : Int) + (1 : Int) ≤
  (↑(List.length c) : Int) ∧ ∀ (x_2 : Ins), c[Int.toNat (↑(LX.k x) : Int)]? = some x_2 → ((0 : Int) ≤ (↑(LX.k x) : Int) ∧ (↑(LX.k x) : Int) + (1 : Int) ≤ (↑(Int.toNat (wr IntKind.i64
  (wr IntKind.u64 (↑(List.length c) : Int)))) : Int)) ∧ (0 : Nat) + Int.toNat (↑(LX.k x) : Int) + (1 : Nat) ≤ List.length (LX.D x) ∧ ∀ (x_3 : Int), (LX.D x)[(0 : Nat) + Int.toNat
  (↑(LX.k x) : Int)]? = some x_3 → (decide (x_3 < (0 : Int)) = true → ∃ (x' : LX), R x' ∧ x'.2 + (1 : Nat) ≤ x.2 ∧ true = true ∧ ((c = c ∧ (false = true → false = true)) ∧ LX.m x =
  LX.m x' ∧ ((0 : Nat) = (0 : Nat) ∧ Int.toNat (wr IntKind.i64 (wr IntKind.u64 (↑(List.length c) : Int))) = Int.toNat (wr IntKind.i64 (wr IntKind.u64 (↑(List.length c) : Int))) ∧
  Int.toNat (wr IntKind.i64 (wr IntKind.u64 (↑(List.length c) : Int))) = Int.toNat (wr IntKind.i64 (wr IntKind.u64 (↑(List.length c) : Int)))) ∧ (c = c ∧ (false = true → false =
  true)) ∧ (↑(List.length c) : Int) = (↑(List.length c) : Int) ∧ wr IntKind.i64 ((↑(LX.k x) : Int) + (1 : Int)) = (↑(LX.k x') : Int) ∧ True) ∧ (LX.D x = LX.D x' ∧ (0 : Nat) = (0 :
  Nat)) ∧ True) ∧ (decide (x_3 < (0 : Int)) = false → True ∧ ∃ (Q : Bool → Prop), ((decide (x_3 < Prod.fst (eff (Ins.op x_2))) = true → Q true) ∧ (decide (x_3 < Prod.fst (eff (Ins.op
  x_2))) = false → ((Ins.op x_2 == (15 : Int)) = true → ((x_3 != (1 : Int)) = true → Q true) ∧ ((x_3 != (1 : Int)) = false → ((Ins.op x_2 == (16 : Int)) = true → ((x_3 != (0 : Int))
  = true → Q true) ∧ ((x_3 != (0 : Int)) = false → Q false)) ∧ ((Ins.op x_2 == (16 : Int)) = false → Q false))) ∧ ((Ins.op x_2 == (15 : Int)) = false → ((Ins.op x_2 == (16 : Int)) =
  true → ((x_3 != (0 : Int)) = true → Q true) ∧ ((x_3 != (0 : Int)) = false → Q false)) ∧ ((Ins.op x_2 == (16 : Int)) = false → Q false)))) ∧ (Q true → (0 : Int) = p ∧ (200 : Int) =
  q ∧ True) ∧ (Q false → ∃ (Q : Bool → Prop), (((Ins.op x_2 == (13 : Int)) = true → Q true) ∧ ((Ins.op x_2 == (13 : Int)) = false → ((Ins.op x_2 == (14 : Int)) = true → Q true) ∧
  ((Ins.op x_2 == (14 : Int)) = false → Q false))) ∧ (Q true → ∃ (Q : Bool → Prop), (((Ins.op x_2 != (14 : Int)) = true → ((Ins.op x_2 != (15 : Int)) = true → ((Ins.op x_2 != (16 :
  Int)) = true → Q true) ∧ ((Ins.op x_2 != (16 : Int)) = false → Q false)) ∧ ((Ins.op x_2 != (15 : Int)) = false → Q false)) ∧ ((Ins.op x_2 != (14 : Int)) = false → Q false)) ∧ (Q
  true → (List.length [Ins.n x_2] ≤ List.length [Ins.n x_2] ∧ (0 : Nat) ≤ List.length [Ins.n x_2] ∧ (List.length [Ins.n x_2] + List.length [wr IntKind.i64 ((↑(LX.k x) : Int) + (1 :
  Int))]) * (8 : Nat) ≤ (140737488355328 : Nat)) ∧ ∃ (R_1 : LX → Prop), (∃ (x_4 : LX), R_1 x_4 ∧ true = true ∧ ((c = c ∧ (false = true → false = true)) ∧ mm2 true (mm2 true (LX.m x)
  x_3) (wr IntKind.i64 (wr IntKind.i64 (x_3 - Prod.fst (eff (Ins.op x_2))) + Prod.snd (eff (Ins.op x_2)))) = mm2 true (mm2 true (LX.m x) x_3) (wr IntKind.i64 (wr IntKind.i64 (x_3 -
  Prod.fst (eff (Ins.op x_2))) + Prod.snd (eff (Ins.op x_2)))) ∧ ((0 : Nat) = (0 : Nat) ∧ Int.toNat (wr IntKind.i64 (wr IntKind.u64 (↑(List.length c) : Int))) = Int.toNat (wr
  IntKind.i64 (wr IntKind.u64 (↑(List.length c) : Int))) ∧ Int.toNat (wr IntKind.i64 (wr IntKind.u64 (↑(List.length c) : Int))) = Int.toNat (wr IntKind.i64 (wr IntKind.u64
  (↑(List.length c) : Int)))) ∧ (↑(LX.k x) : Int) = (↑(LX.k x) : Int) ∧ wr IntKind.i64 (wr IntKind.i64 (x_3 - Prod.fst (eff (Ins.op x_2))) + Prod.snd (eff (Ins.op x_2))) = wr
  IntKind.i64 (wr IntKind.i64 (x_3 - Prod.fst (eff (Ins.op x_2))) + Prod.snd (eff (Ins.op x_2))) ∧ (c = c ∧ (false = true → false = true)) ∧ (↑(List.length c) : Int) = (↑(List.length
  c) : Int) ∧ (↑(LX.k x) : Int) = (↑(LX.k x) : Int) ∧ ((0 : Nat) = (0 : Nat) ∧ List.length [Ins.n x_2] + List.length [wr IntKind.i64 ((↑(LX.k x) : Int) + (1 : Int))] = List.length
  [Ins.n x_2] + List.length [wr IntKind.i64 ((↑(LX.k x) : Int) + (1 : Int))] ∧ True) ∧ (↑(List.length [Ins.n x_2] + List.length [wr IntKind.i64 ((↑(LX.k x) : Int) + (1 : Int))]) :
  Int) = (↑(List.length [Ins.n x_2] + List.length [wr IntKind.i64 ((↑(LX.k x) : Int) + (1 : Int))]) : Int) ∧ (0 : Int) = (↑(LX.k x_4) : Int) ∧ True) ∧ (LX.D x = LX.D x_4 ∧ (0 : Nat)
  = (0 : Nat)) ∧ (List.take (List.length [Ins.n x_2]) [Ins.n x_2] ++ [wr IntKind.i64 ((↑(LX.k x) : Int) + (1 : Int))] = List.take (List.length [Ins.n x_2]) [Ins.n x_2] ++ [wr
  IntKind.i64 ((↑(LX.k x) : Int) + (1 : Int))] ∧ (0 : Nat) = (0 : Nat)) ∧ True) ∧ ∀ (x_4 : LX), R_1 x_4 → (decide ((↑(LX.k x_4) : Int) < (↑(List.length [Ins.n x_2] + List.length [wr
  IntKind.i64 ((↑(LX.k x) : Int) + (1 : Int))]) : Int)) = true → ((0 : Int) ≤ (↑(LX.k x_4) : Int) ∧ (↑(LX.k x_4) : Int) + (1 : Int) ≤ (↑(List.length [Ins.n x_2] + List.length [wr
  IntKind.i64 ((↑(LX.k x) : Int) + (1 : Int))]) : Int)) ∧ (0 : Nat) + Int.toNat (↑(LX.k x_4) : Int) + (1 : Nat) ≤ List.length (List.take (List.length [Ins.n x_2]) [Ins.n x_2] ++ [wr
  IntKind.i64 ((↑(LX.k x) : Int) + (1 : Int))]) ∧ ∀ (x_5 : Int), (List.take (List.length [Ins.n x_2]) [Ins.n x_2] ++ [wr IntKind.i64 ((↑(LX.k x) : Int) + (1 : Int))])[(0 : Nat) +
  Int.toNat (↑(LX.k x_4) : Int)]? = some x_5 → ∃ (Q : Bool → Prop), ((decide (x_5 ≤ (↑(LX.k x) : Int)) = true → Q true) ∧ (decide (x_5 ≤ (↑(LX.k x) : Int)) = false → (decide (x_5 ≥
  (↑(List.length c) : Int)) = true → Q true) ∧ (decide (x_5 ≥ (↑(List.length c) : Int)) = false → ((0 : Int) ≤ x_5 ∧ x_5 + (1 : Int) ≤ (↑(Int.toNat (wr IntKind.i64 (wr IntKind.u64
  (↑(List.length c) : Int)))) : Int)) ∧ (0 : Nat) + Int.toNat x_5 + (1 : Nat) ≤ List.length (LX.D x_4) ∧ ∀ (x : Int), (LX.D x_4)[(0 : Nat) + Int.toNat x_5]? = some x → (decide (x ≥
  (0 : Int)) = true → ((0 : Int) ≤ x_5 ∧ x_5 + (1 : Int) ≤ (↑(Int.toNat (wr IntKind.i64 (wr IntKind.u64 (↑(List.length c) : Int)))) : Int)) ∧ (0 : Nat) + Int.toNat x_5 + (1 : Nat) ≤
  List.length (LX.D x_4) ∧ ∀ (x : Int), (LX.D x_4)[(0 : Nat) + Int.toNat x_5]? = some x → ((x != wr IntKind.i64 (wr IntKind.i64 (x_3 - Prod.fst (eff (Ins.op x_2))) + Prod.snd (eff
  (Ins.op x_2)))) = true → Q true) ∧ ((x != wr IntKind.i64 (wr IntKind.i64 (x_3 - Prod.fst (eff (Ins.op x_2))) + Prod.snd (eff (Ins.op x_2)))) = false → Q false)) ∧ (decide (x ≥ (0 :
  Int)) = false → Q false)))) ∧ (Q true → (0 : Int) = p ∧ (200 : Int) = q ∧ True) ∧ (Q false → ((0 : Int) ≤ x_5 ∧ x_5 + (1 : Int) ≤ (↑(Int.toNat (wr IntKind.i64 (wr IntKind.u64
  (↑(List.length c) : Int)))) : Int)) ∧ (0 : Nat) ≤ (0 : Nat) + Int.toNat x_5 ∧ (0 : Nat) + Int.toNat x_5 + (1 : Nat) ≤ List.length (LX.D x_4) ∧ ∀ (x_6 : Int), (LX.D x_4)[(0 : Nat) +
  Int.toNat x_5]? = some x_6 → ∃ (x' : LX), R_1 x' ∧ x'.2 + (1 : Nat) ≤ x_4.2 ∧ true = true ∧ ((c = c ∧ (false = true → false = true)) ∧ mm2 true (mm2 true (LX.m x) x_3) (wr
  IntKind.i64 (wr IntKind.i64 (x_3 - Prod.fst (eff (Ins.op x_2))) + Prod.snd (eff (Ins.op x_2)))) = mm2 true (mm2 true (LX.m x) x_3) (wr IntKind.i64 (wr IntKind.i64 (x_3 - Prod.fst
  (eff (Ins.op x_2))) + Prod.snd (eff (Ins.op x_2)))) ∧ ((0 : Nat) = (0 : Nat) ∧ Int.toNat (wr IntKind.i64 (wr IntKind.u64 (↑(List.length c) : Int))) = Int.toNat (wr IntKind.i64 (wr
  IntKind.u64 (↑(List.length c) : Int))) ∧ Int.toNat (wr IntKind.i64 (wr IntKind.u64 (↑(List.length c) : Int))) = Int.toNat (wr IntKind.i64 (wr IntKind.u64 (↑(List.length c) :
  Int)))) ∧ (↑(LX.k x) : Int) = (↑(LX.k x) : Int) ∧ wr IntKind.i64 (wr IntKind.i64 (x_3 - Prod.fst (eff (Ins.op x_2))) + Prod.snd (eff (Ins.op x_2))) = wr IntKind.i64 (wr IntKind.i64
  (x_3 - Prod.fst (eff (Ins.op x_2))) + Prod.snd (eff (Ins.op x_2))) ∧ (c = c ∧ (false = true → false = true)) ∧ (↑(List.length c) : Int) = (↑(List.length c) : Int) ∧ (↑(LX.k x) :
  Int) = (↑(LX.k x) : Int) ∧ ((0 : Nat) = (0 : Nat) ∧ List.length [Ins.n x_2] + List.length [wr IntKind.i64 ((↑(LX.k x) : Int) + (1 : Int))] = List.length [Ins.n x_2] + List.length
  [wr IntKind.i64 ((↑(LX.k x) : Int) + (1 : Int))] ∧ True) ∧ (↑(List.length [Ins.n x_2] + List.length [wr IntKind.i64 ((↑(LX.k x) : Int) + (1 : Int))]) : Int) = (↑(List.length [Ins.n
  x_2] + List.length [wr IntKind.i64 ((↑(LX.k x) : Int) + (1 : Int))]) : Int) ∧ wr IntKind.i64 ((↑(LX.k x_4) : Int) + (1 : Int)) = (↑(LX.k x') : Int) ∧ True) ∧ (List.set (LX.D x_4)
  ((0 : Nat) + Int.toNat x_5) (wr IntKind.i64 (wr IntKind.i64 (x_3 - Prod.fst (eff (Ins.op x_2))) + Prod.snd (eff (Ins.op x_2)))) = LX.D x' ∧ (0 : Nat) = (0 : Nat)) ∧ (List.take
  (List.length [Ins.n x_2]) [Ins.n x_2] ++ [wr IntKind.i64 ((↑(LX.k x) : Int) + (1 : Int))] = List.take (List.length [Ins.n x_2]) [Ins.n x_2] ++ [wr IntKind.i64 ((↑(LX.k x) : Int) +
  (1 : Int))] ∧ (0 : Nat) = (0 : Nat)) ∧ True)) ∧ (decide ((↑(LX.k x_4) : Int) < (↑(List.length [Ins.n x_2] + List.length [wr IntKind.i64 ((↑(LX.k x) : Int) + (1 : Int))]) : Int)) =
  false → ∃ (x' : LX), R x' ∧ x'.2 + (1 : Nat) ≤ x.2 ∧ true = true ∧ ((c = c ∧ (false = true → false = true)) ∧ mm2 true (mm2 true (LX.m x) x_3) (wr IntKind.i64 (wr IntKind.i64 (x_3
  - Prod.fst (eff (Ins.op x_2))) + Prod.snd (eff (Ins.op x_2)))) = LX.m x' ∧ ((0 : Nat) = (0 : Nat) ∧ Int.toNat (wr IntKind.i64 (wr IntKind.u64 (↑(List.length c) : Int))) = Int.toNat
  (wr IntKind.i64 (wr IntKind.u64 (↑(List.length c) : Int))) ∧ Int.toNat (wr IntKind.i64 (wr IntKind.u64 (↑(List.length c) : Int))) = Int.toNat (wr IntKind.i64 (wr IntKind.u64
  (↑(List.length c) : Int)))) ∧ (c = c ∧ (false = true → false = true)) ∧ (↑(List.length c) : Int) = (↑(List.length c) : Int) ∧ wr IntKind.i64 ((↑(LX.k x) : Int) + (1 : Int)) =
  (↑(LX.k x') : Int) ∧ True) ∧ (LX.D x_4 = LX.D x' ∧ (0 : Nat) = (0 : Nat)) ∧ True)) ∧ (Q false → ∃ (R_1 : LX → Prop), (∃ (x_4 : LX), R_1 x_4 ∧ true = true ∧ ((c = c ∧ (false = true
  → false = true)) ∧ mm2 true (mm2 true (LX.m x) x_3) (wr IntKind.i64 (wr IntKind.i64 (x_3 - Prod.fst (eff (Ins.op x_2))) + Prod.snd (eff (Ins.op x_2)))) = mm2 true (mm2 true (LX.m
  x) x_3) (wr IntKind.i64 (wr IntKind.i64 (x_3 - Prod.fst (eff (Ins.op x_2))) + Prod.snd (eff (Ins.op x_2)))) ∧ ((0 : Nat) = (0 : Nat) ∧ Int.toNat (wr IntKind.i64 (wr IntKind.u64
  (↑(List.length c) : Int))) = Int.toNat (wr IntKind.i64 (wr IntKind.u64 (↑(List.length c) : Int))) ∧ Int.toNat (wr IntKind.i64 (wr IntKind.u64 (↑(List.length c) : Int))) = Int.toNat
  (wr IntKind.i64 (wr IntKind.u64 (↑(List.length c) : Int)))) ∧ (↑(LX.k x) : Int) = (↑(LX.k x) : Int) ∧ wr IntKind.i64 (wr IntKind.i64 (x_3 - Prod.fst (eff (Ins.op x_2))) + Prod.snd
  (eff (Ins.op x_2))) = wr IntKind.i64 (wr IntKind.i64 (x_3 - Prod.fst (eff (Ins.op x_2))) + Prod.snd (eff (Ins.op x_2))) ∧ (c = c ∧ (false = true → false = true)) ∧ (↑(List.length
  c) : Int) = (↑(List.length c) : Int) ∧ (↑(LX.k x) : Int) = (↑(LX.k x) : Int) ∧ ((0 : Nat) = (0 : Nat) ∧ List.length [Ins.n x_2] = List.length [Ins.n x_2] ∧ True) ∧ (↑(List.length
  [Ins.n x_2]) : Int) = (↑(List.length [Ins.n x_2]) : Int) ∧ (0 : Int) = (↑(LX.k x_4) : Int) ∧ True) ∧ (LX.D x = LX.D x_4 ∧ (0 : Nat) = (0 : Nat)) ∧ ([Ins.n x_2] = [Ins.n x_2] ∧ (0 :
  Nat) = (0 : Nat)) ∧ True) ∧ ∀ (x_4 : LX), R_1 x_4 → (decide ((↑(LX.k x_4) : Int) < (↑(List.length [Ins.n x_2]) : Int)) = true → ((0 : Int) ≤ (↑(LX.k x_4) : Int) ∧ (↑(LX.k x_4) :
  Int) + (1 : Int) ≤ (↑(List.length [Ins.n x_2]) : Int)) ∧ (0 : Nat) + Int.toNat (↑(LX.k x_4) : Int) + (1 : Nat) ≤ List.length [Ins.n x_2] ∧ ∀ (x_5 : Int), [Ins.n x_2][(0 : Nat) +
  Int.toNat (↑(LX.k x_4) : Int)]? = some x_5 → ∃ (Q : Bool → Prop), ((decide (x_5 ≤ (↑(LX.k x) : Int)) = true → Q true) ∧ (decide (x_5 ≤ (↑(LX.k x) : Int)) = false → (decide (x_5 ≥
  (↑(List.length c) : Int)) = true → Q true) ∧ (decide (x_5 ≥ (↑(List.length c) : Int)) = false → ((0 : Int) ≤ x_5 ∧ x_5 + (1 : Int) ≤ (↑(Int.toNat (wr IntKind.i64 (wr IntKind.u64
  (↑(List.length c) : Int)))) : Int)) ∧ (0 : Nat) + Int.toNat x_5 + (1 : Nat) ≤ List.length (LX.D x_4) ∧ ∀ (x : Int), (LX.D x_4)[(0 : Nat) + Int.toNat x_5]? = some x → (decide (x ≥
  (0 : Int)) = true → ((0 : Int) ≤ x_5 ∧ x_5 + (1 : Int) ≤ (↑(Int.toNat (wr IntKind.i64 (wr IntKind.u64 (↑(List.length c) : Int)))) : Int)) ∧ (0 : Nat) + Int.toNat x_5 + (1 : Nat) ≤
  List.length (LX.D x_4) ∧ ∀ (x : Int), (LX.D x_4)[(0 : Nat) + Int.toNat x_5]? = some x → ((x != wr IntKind.i64 (wr IntKind.i64 (x_3 - Prod.fst (eff (Ins.op x_2))) + Prod.snd (eff
  (Ins.op x_2)))) = true → Q true) ∧ ((x != wr IntKind.i64 (wr IntKind.i64 (x_3 - Prod.fst (eff (Ins.op x_2))) + Prod.snd (eff (Ins.op x_2)))) = false → Q false)) ∧ (decide (x ≥ (0 :
  Int)) = false → Q false)))) ∧ (Q true → (0 : Int) = p ∧ (200 : Int) = q ∧ True) ∧ (Q false → ((0 : Int) ≤ x_5 ∧ x_5 + (1 : Int) ≤ (↑(Int.toNat (wr IntKind.i64 (wr IntKind.u64
  (↑(List.length c) : Int)))) : Int)) ∧ (0 : Nat) ≤ (0 : Nat) + Int.toNat x_5 ∧ (0 : Nat) + Int.toNat x_5 + (1 : Nat) ≤ List.length (LX.D x_4) ∧ ∀ (x_6 : Int), (LX.D x_4)[(0 : Nat) +
  Int.toNat x_5]? = some x_6 → ∃ (x' : LX), R_1 x' ∧ x'.2 + (1 : Nat) ≤ x_4.2 ∧ true = true ∧ ((c = c ∧ (false = true → false = true)) ∧ mm2 true (mm2 true (LX.m x) x_3) (wr
  IntKind.i64 (wr IntKind.i64 (x_3 - Prod.fst (eff (Ins.op x_2))) + Prod.snd (eff (Ins.op x_2)))) = mm2 true (mm2 true (LX.m x) x_3) (wr IntKind.i64 (wr IntKind.i64 (x_3 - Prod.fst
  (eff (Ins.op x_2))) + Prod.snd (eff (Ins.op x_2)))) ∧ ((0 : Nat) = (0 : Nat) ∧ Int.toNat (wr IntKind.i64 (wr IntKind.u64 (↑(List.length c) : Int))) = Int.toNat (wr IntKind.i64 (wr
  IntKind.u64 (↑(List.length c) : Int))) ∧ Int.toNat (wr IntKind.i64 (wr IntKind.u64 (↑(List.length c) : Int))) = Int.toNat (wr IntKind.i64 (wr IntKind.u64 (↑(List.length c) :
  Int)))) ∧ (↑(LX.k x) : Int) = (↑(LX.k x) : Int) ∧ wr IntKind.i64 (wr IntKind.i64 (x_3 - Prod.fst (eff (Ins.op x_2))) + Prod.snd (eff (Ins.op x_2))) = wr IntKind.i64 (wr IntKind.i64
  (x_3 - Prod.fst (eff (Ins.op x_2))) + Prod.snd (eff (Ins.op x_2))) ∧ (c = c ∧ (false = true → false = true)) ∧ (↑(List.length c) : Int) = (↑(List.length c) : Int) ∧ (↑(LX.k x) :
  Int) = (↑(LX.k x) : Int) ∧ ((0 : Nat) = (0 : Nat) ∧ List.length [Ins.n x_2] = List.length [Ins.n x_2] ∧ True) ∧ (↑(List.length [Ins.n x_2]) : Int) = (↑(List.length [Ins.n x_2]) :
  Int) ∧ wr IntKind.i64 ((↑(LX.k x_4) : Int) + (1 : Int)) = (↑(LX.k x') : Int) ∧ True) ∧ (List.set (LX.D x_4) ((0 : Nat) + Int.toNat x_5) (wr IntKind.i64 (wr IntKind.i64 (x_3 -
  Prod.fst (eff (Ins.op x_2))) + Prod.snd (eff (Ins.op x_2)))) = LX.D x' ∧ (0 : Nat) = (0 : Nat)) ∧ ([Ins.n x_2] = [Ins.n x_2] ∧ (0 : Nat) = (0 : Nat)) ∧ True)) ∧ (decide ((↑(LX.k
  x_4) : Int) < (↑(List.length [Ins.n x_2]) : Int)) = false → ∃ (x' : LX), R x' ∧ x'.2 + (1 : Nat) ≤ x.2 ∧ true = true ∧ ((c = c ∧ (false = true → false = true)) ∧ mm2 true (mm2 true
  (LX.m x) x_3) (wr IntKind.i64 (wr IntKind.i64 (x_3 - Prod.fst (eff (Ins.op x_2))) + Prod.snd (eff (Ins.op x_2)))) = LX.m x' ∧ ((0 : Nat) = (0 : Nat) ∧ Int.toNat (wr IntKind.i64 (wr
  IntKind.u64 (↑(List.length c) : Int))) = Int.toNat (wr IntKind.i64 (wr IntKind.u64 (↑(List.length c) : Int))) ∧ Int.toNat (wr IntKind.i64 (wr IntKind.u64 (↑(List.length c) : Int)))
  = Int.toNat (wr IntKind.i64 (wr IntKind.u64 (↑(List.length c) : Int)))) ∧ (c = c ∧ (false = true → false = true)) ∧ (↑(List.length c) : Int) = (↑(List.length c) : Int) ∧ wr
  IntKind.i64 ((↑(LX.k x) : Int) + (1 : Int)) = (↑(LX.k x') : Int) ∧ True) ∧ (LX.D x_4 = LX.D x' ∧ (0 : Nat) = (0 : Nat)) ∧ True))) ∧ (Q false → ∃ (Q : Bool → Prop), (((Ins.op x_2 !=
  (14 : Int)) = true → ((Ins.op x_2 != (15 : Int)) = true → ((Ins.op x_2 != (16 : Int)) = true → Q true) ∧ ((Ins.op x_2 != (16 : Int)) = false → Q false)) ∧ ((Ins.op x_2 != (15 :
  Int)) = false → Q false)) ∧ ((Ins.op x_2 != (14 : Int)) = false → Q false)) ∧ (Q true → ∃ (R_1 : LX → Prop), (∃ (x_4 : LX), R_1 x_4 ∧ true = true ∧ ((c = c ∧ (false = true → false
  = true)) ∧ mm2 true (mm2 true (LX.m x) x_3) (wr IntKind.i64 (wr IntKind.i64 (x_3 - Prod.fst (eff (Ins.op x_2))) + Prod.snd (eff (Ins.op x_2)))) = mm2 true (mm2 true (LX.m x) x_3)
  (wr IntKind.i64 (wr IntKind.i64 (x_3 - Prod.fst (eff (Ins.op x_2))) + Prod.snd (eff (Ins.op x_2)))) ∧ ((0 : Nat) = (0 : Nat) ∧ Int.toNat (wr IntKind.i64 (wr IntKind.u64
  (↑(List.length c) : Int))) = Int.toNat (wr IntKind.i64 (wr IntKind.u64 (↑(List.length c) : Int))) ∧ Int.toNat (wr IntKind.i64 (wr IntKind.u64 (↑(List.length c) : Int))) = Int.toNat
  (wr IntKind.i64 (wr IntKind.u64 (↑(List.length c) : Int)))) ∧ (↑(LX.k x) : Int) = (↑(LX.k x) : Int) ∧ wr IntKind.i64 (wr IntKind.i64 (x_3 - Prod.fst (eff (Ins.op x_2))) + Prod.snd
  (eff (Ins.op x_2))) = wr IntKind.i64 (wr IntKind.i64 (x_3 - Prod.fst (eff (Ins.op x_2))) + Prod.snd (eff (Ins.op x_2))) ∧ (c = c ∧ (false = true → false = true)) ∧ (↑(List.length
  c) : Int) = (↑(List.length c) : Int) ∧ (↑(LX.k x) : Int) = (↑(LX.k x) : Int) ∧ ((0 : Nat) = (0 : Nat) ∧ List.length [wr IntKind.i64 ((↑(LX.k x) : Int) + (1 : Int))] = List.length
  [wr IntKind.i64 ((↑(LX.k x) : Int) + (1 : Int))] ∧ True) ∧ (↑(List.length [wr IntKind.i64 ((↑(LX.k x) : Int) + (1 : Int))]) : Int) = (↑(List.length [wr IntKind.i64 ((↑(LX.k x) :
  Int) + (1 : Int))]) : Int) ∧ (0 : Int) = (↑(LX.k x_4) : Int) ∧ True) ∧ (LX.D x = LX.D x_4 ∧ (0 : Nat) = (0 : Nat)) ∧ ([wr IntKind.i64 ((↑(LX.k x) : Int) + (1 : Int))] = [wr
  IntKind.i64 ((↑(LX.k x) : Int) + (1 : Int))] ∧ (0 : Nat) = (0 : Nat)) ∧ True) ∧ ∀ (x_4 : LX), R_1 x_4 → (decide ((↑(LX.k x_4) : Int) < (↑(List.length [wr IntKind.i64 ((↑(LX.k x) :
  Int) + (1 : Int))]) : Int)) = true → ((0 : Int) ≤ (↑(LX.k x_4) : Int) ∧ (↑(LX.k x_4) : Int) + (1 : Int) ≤ (↑(List.length [wr IntKind.i64 ((↑(LX.k x) : Int) + (1 : Int))]) : Int)) ∧
  (0 : Nat) + Int.toNat (↑(LX.k x_4) : Int) + (1 : Nat) ≤ List.length [wr IntKind.i64 ((↑(LX.k x) : Int) + (1 : Int))] ∧ ∀ (x_5 : Int), [wr IntKind.i64 ((↑(LX.k x) : Int) + (1 :
  Int))][(0 : Nat) + Int.toNat (↑(LX.k x_4) : Int)]? = some x_5 → ∃ (Q : Bool → Prop), ((decide (x_5 ≤ (↑(LX.k x) : Int)) = true → Q true) ∧ (decide (x_5 ≤ (↑(LX.k x) : Int)) = false
  → (decide (x_5 ≥ (↑(List.length c) : Int)) = true → Q true) ∧ (decide (x_5 ≥ (↑(List.length c) : Int)) = false → ((0 : Int) ≤ x_5 ∧ x_5 + (1 : Int) ≤ (↑(Int.toNat (wr IntKind.i64
  (wr IntKind.u64 (↑(List.length c) : Int)))) : Int)) ∧ (0 : Nat) + Int.toNat x_5 + (1 : Nat) ≤ List.length (LX.D x_4) ∧ ∀ (x : Int), (LX.D x_4)[(0 : Nat) + Int.toNat x_5]? = some x
  → (decide (x ≥ (0 : Int)) = true → ((0 : Int) ≤ x_5 ∧ x_5 + (1 : Int) ≤ (↑(Int.toNat (wr IntKind.i64 (wr IntKind.u64 (↑(List.length c) : Int)))) : Int)) ∧ (0 : Nat) + Int.toNat x_5
  + (1 : Nat) ≤ List.length (LX.D x_4) ∧ ∀ (x : Int), (LX.D x_4)[(0 : Nat) + Int.toNat x_5]? = some x → ((x != wr IntKind.i64 (wr IntKind.i64 (x_3 - Prod.fst (eff (Ins.op x_2))) +
  Prod.snd (eff (Ins.op x_2)))) = true → Q true) ∧ ((x != wr IntKind.i64 (wr IntKind.i64 (x_3 - Prod.fst (eff (Ins.op x_2))) + Prod.snd (eff (Ins.op x_2)))) = false → Q false)) ∧
  (decide (x ≥ (0 : Int)) = false → Q false)))) ∧ (Q true → (0 : Int) = p ∧ (200 : Int) = q ∧ True) ∧ (Q false → ((0 : Int) ≤ x_5 ∧ x_5 + (1 : Int) ≤ (↑(Int.toNat (wr IntKind.i64 (wr
  IntKind.u64 (↑(List.length c) : Int)))) : Int)) ∧ (0 : Nat) ≤ (0 : Nat) + Int.toNat x_5 ∧ (0 : Nat) + Int.toNat x_5 + (1 : Nat) ≤ List.length (LX.D x_4) ∧ ∀ (x_6 : Int), (LX.D
  x_4)[(0 : Nat) + Int.toNat x_5]? = some x_6 → ∃ (x' : LX), R_1 x' ∧ x'.2 + (1 : Nat) ≤ x_4.2 ∧ true = true ∧ ((c = c ∧ (false = true → false = true)) ∧ mm2 true (mm2 true (LX.m x)
  x_3) (wr IntKind.i64 (wr IntKind.i64 (x_3 - Prod.fst (eff (Ins.op x_2))) + Prod.snd (eff (Ins.op x_2)))) = mm2 true (mm2 true (LX.m x) x_3) (wr IntKind.i64 (wr IntKind.i64 (x_3 -
  Prod.fst (eff (Ins.op x_2))) + Prod.snd (eff (Ins.op x_2)))) ∧ ((0 : Nat) = (0 : Nat) ∧ Int.toNat (wr IntKind.i64 (wr IntKind.u64 (↑(List.length c) : Int))) = Int.toNat (wr
  IntKind.i64 (wr IntKind.u64 (↑(List.length c) : Int))) ∧ Int.toNat (wr IntKind.i64 (wr IntKind.u64 (↑(List.length c) : Int))) = Int.toNat (wr IntKind.i64 (wr IntKind.u64
  (↑(List.length c) : Int)))) ∧ (↑(LX.k x) : Int) = (↑(LX.k x) : Int) ∧ wr IntKind.i64 (wr IntKind.i64 (x_3 - Prod.fst (eff (Ins.op x_2))) + Prod.snd (eff (Ins.op x_2))) = wr
  IntKind.i64 (wr IntKind.i64 (x_3 - Prod.fst (eff (Ins.op x_2))) + Prod.snd (eff (Ins.op x_2))) ∧ (c = c ∧ (false = true → false = true)) ∧ (↑(List.length c) : Int) = (↑(List.length
  c) : Int) ∧ (↑(LX.k x) : Int) = (↑(LX.k x) : Int) ∧ ((0 : Nat) = (0 : Nat) ∧ List.length [wr IntKind.i64 ((↑(LX.k x) : Int) + (1 : Int))] = List.length [wr IntKind.i64 ((↑(LX.k x)
  : Int) + (1 : Int))] ∧ True) ∧ (↑(List.length [wr IntKind.i64 ((↑(LX.k x) : Int) + (1 : Int))]) : Int) = (↑(List.length [wr IntKind.i64 ((↑(LX.k x) : Int) + (1 : Int))]) : Int) ∧
  wr IntKind.i64 ((↑(LX.k x_4) : Int) + (1 : Int)) = (↑(LX.k x') : Int) ∧ True) ∧ (List.set (LX.D x_4) ((0 : Nat) + Int.toNat x_5) (wr IntKind.i64 (wr IntKind.i64 (x_3 - Prod.fst
  (eff (Ins.op x_2))) + Prod.snd (eff (Ins.op x_2)))) = LX.D x' ∧ (0 : Nat) = (0 : Nat)) ∧ ([wr IntKind.i64 ((↑(LX.k x) : Int) + (1 : Int))] = [wr IntKind.i64 ((↑(LX.k x) : Int) + (1
  : Int))] ∧ (0 : Nat) = (0 : Nat)) ∧ True)) ∧ (decide ((↑(LX.k x_4) : Int) < (↑(List.length [wr IntKind.i64 ((↑(LX.k x) : Int) + (1 : Int))]) : Int)) = false → ∃ (x' : LX), R x' ∧
  x'.2 + (1 : Nat) ≤ x.2 ∧ true = true ∧ ((c = c ∧ (false = true → false = true)) ∧ mm2 true (mm2 true (LX.m x) x_3) (wr IntKind.i64 (wr IntKind.i64 (x_3 - Prod.fst (eff (Ins.op
  x_2))) + Prod.snd (eff (Ins.op x_2)))) = LX.m x' ∧ ((0 : Nat) = (0 : Nat) ∧ Int.toNat (wr IntKind.i64 (wr IntKind.u64 (↑(List.length c) : Int))) = Int.toNat (wr IntKind.i64 (wr
  IntKind.u64 (↑(List.length c) : Int))) ∧ Int.toNat (wr IntKind.i64 (wr IntKind.u64 (↑(List.length c) : Int))) = Int.toNat (wr IntKind.i64 (wr IntKind.u64 (↑(List.length c) :
  Int)))) ∧ (c = c ∧ (false = true → false = true)) ∧ (↑(List.length c) : Int) = (↑(List.length c) : Int) ∧ wr IntKind.i64 ((↑(LX.k x) : Int) + (1 : Int)) = (↑(LX.k x') : Int) ∧
  True) ∧ (LX.D x_4 = LX.D x' ∧ (0 : Nat) = (0 : Nat)) ∧ True)) ∧ (Q false → ∃ (R_1 : LX → Prop), (∃ (x_4 : LX), R_1 x_4 ∧ true = true ∧ ((c = c ∧ (false = true → false = true)) ∧
  mm2 true (mm2 true (LX.m x) x_3) (wr IntKind.i64 (wr IntKind.i64 (x_3 - Prod.fst (eff (Ins.op x_2))) + Prod.snd (eff (Ins.op x_2)))) = mm2 true (mm2 true (LX.m x) x_3) (wr
  IntKind.i64 (wr IntKind.i64 (x_3 - Prod.fst (eff (Ins.op x_2))) + Prod.snd (eff (Ins.op x_2)))) ∧ ((0 : Nat) = (0 : Nat) ∧ Int.toNat (wr IntKind.i64 (wr IntKind.u64 (↑(List.length
  c) : Int))) = Int.toNat (wr IntKind.i64 (wr IntKind.u64 (↑(List.length c) : Int))) ∧ Int.toNat (wr IntKind.i64 (wr IntKind.u64 (↑(List.length c) : Int))) = Int.toNat (wr
  IntKind.i64 (wr IntKind.u64 (↑(List.length c) : Int)))) ∧ (↑(LX.k x) : Int) = (↑(LX.k x) : Int) ∧ wr IntKind.i64 (wr IntKind.i64 (x_3 - Prod.fst (eff (Ins.op x_2))) + Prod.snd (eff
  (Ins.op x_2))) = wr IntKind.i64 (wr IntKind.i64 (x_3 - Prod.fst (eff (Ins.op x_2))) + Prod.snd (eff (Ins.op x_2))) ∧ (c = c ∧ (false = true → false = true)) ∧ (↑(List.length c) :
  Int) = (↑(List.length c) : Int) ∧ (↑(LX.k x) : Int) = (↑(LX.k x) : Int) ∧ Value.slice none (0 : Nat) (0 : Nat) = Value.slice none (0 : Nat) (0 : Nat) ∧ (0 : Int) = (0 : Int) ∧ (0 :
  Int) = (↑(LX.k x_4) : Int) ∧ True) ∧ (LX.D x = LX.D x_4 ∧ (0 : Nat) = (0 : Nat)) ∧ True) ∧ ∀ (x_4 : LX), R_1 x_4 → (decide ((↑(LX.k x_4) : Int) < (0 : Int)) = true → False) ∧
  (decide ((↑(LX.k x_4) : Int) < (0 : Int)) = false → ∃ (x' : LX), R x' ∧ x'.2 + (1 : Nat) ≤ x.2 ∧ true = true ∧ ((c = c ∧ (false = true → false = true)) ∧ mm2 true (mm2 true (LX.m
  x) x_3) (wr IntKind.i64 (wr IntKind.i64 (x_3 - Prod.fst (eff (Ins.op x_2))) + Prod.snd (eff (Ins.op x_2)))) = LX.m x' ∧ ((0 : Nat) = (0 : Nat) ∧ Int.toNat (wr IntKind.i64 (wr
  IntKind.u64 (↑(List.length c) : Int))) = Int.toNat (wr IntKind.i64 (wr IntKind.u64 (↑(List.length c) : Int))) ∧ Int.toNat (wr IntKind.i64 (wr IntKind.u64 (↑(List.length c) : Int)))
  = Int.toNat (wr IntKind.i64 (wr IntKind.u64 (↑(List.length c) : Int)))) ∧ (c = c ∧ (false = true → false = true)) ∧ (↑(List.length c) : Int) = (↑(List.length c) : Int) ∧ wr
  IntKind.i64 ((↑(LX.k x) : Int) + (1 : Int)) = (↑(LX.k x') : Int) ∧ True) ∧ (LX.D x_4 = LX.D x' ∧ (0 : Nat) = (0 : Nat)) ∧ True)))))) ∧ (decide ((↑(LX.k x) : Int) < (↑(List.length
  c) : Int)) = false → (decide (LX.m x > (64 : Int)) = true → (0 : Int) = p ∧ (2 : Int) = q ∧ True) ∧ (decide (LX.m x > (64 : Int)) = false → LX.m x = p ∧ (0 : Int) = q ∧
  True))))))))
  ) := by kernel_rfl
--@end
end Go.Proofs.YtcaomfbcchemnaaDoor
