/- Chapter 21: the laws of runs. -/
import Derived.Test.YtcaomfbcchemnaaDoorTvJ
import Derived.Test.YtcaomfbcchemnaaDoorTvL
namespace Go.Proofs.YtcaomfbcchemnaaDoor
open Go
set_option linter.unusedVariables false
set_option linter.unusedSimpArgs false
noncomputable def Ssane : Sum thy := sumP (DcL.nil : DcL E Unit) (fun _ => True) fun _ => .bool false true
noncomputable def Srun : Sum thy := sumP (dL3 dCode dEnv dI) (fun _ => True) fun x => .tup [stV (runF x.1 x.2.1 x.2.2.1).1, .int false .i64 (runF x.1 x.2.1 x.2.2.1).2]
noncomputable def Sstep : Sum thy := sumP (dL3 dCode dEnv dSt) (fun _ => True) fun x => .tup [stV (stepF x.1 x.2.1 x.2.2.1).1, .int false .i64 (stepF x.1 x.2.1 x.2.2.1).2]
noncomputable def Sstart : Sum thy := sumP (dL1 dI) (fun _ => True) fun x => .tup [stV (startF x.1).1, .int false .i64 (startF x.1).2]
noncomputable def Sresult : Sum thy := sumP (dL1 dSt) (fun x => x.1.stack.length ≤ 1000000) fun x => .tup [.int false .i64 (resultF x.1).1, .int false .i64 (resultF x.1).2.1, .int false .i64 (resultF x.1).2.2]
noncomputable def Ssame : Sum thy := sumP (dL2 dSt dSt) (fun x => x.1.stack.length ≤ 1000000) fun x => .bool false (sameF x.1 x.2.1)
/-- a machine's state, an index, and how many rounds are left -/
structure S5 where
  s : St
  k : Nat
  r : Nat
/-- the loop of TvmSteps -/
def A5 : Fr thy → Hp thy → Nat → Ann thy := fun T h i => { X := S5, fr := fun x => [(0, T 0), (3, T 3), (7, T 7), (9, T 9), (11, .int false .i64 x.k)], bl := fun x => [(bOf (T 7), .raw (stV x.s).cells 0 none)] ++ blkP h (T 3) ++ blkP h (T 9), src := [], md := [bOf (T 7)], ih := i, M := i + 30, meas := fun x => x.r }
noncomputable def F7 : Fns thy := addL (addS (addS (addS (addS (addS (addS F6 8 Ssane) 11 Srun) 15 Sstep) 13 Sstart) 18 Sresult) 12 Ssame) 5 11 A5 E
theorem F7_ok : FnsOk E F7 := by
  refine addL_ok E_ok (addS_ok (addS_ok (addS_ok (addS_ok (addS_ok (addS_ok F6_ok ?_) ?_) ?_) ?_) ?_) ?_) _ _ _
  · exact sumP_ok E_ok (good_of (f := 8) rfl) fun x _ => sane_pure
  · exact sumP_ok E_ok (good_of (f := 11) rfl) fun x _ => run_pure x.1 x.2.1 x.2.2.1
  · exact sumP_ok E_ok (good_of (f := 15) rfl) fun x _ => step_pure x.1 x.2.1 x.2.2.1
  · exact sumP_ok E_ok (good_of (f := 13) rfl) fun x _ => start_pure x.1
  · exact sumP_ok E_ok (good_of (f := 18) rfl) fun x h => result_pure x.1 h
  · exact sumP_ok E_ok (good_of (f := 12) rfl) fun x h => same_pure x.1 x.2.1 h
--@cond ends | 3 | F7 | 400 | (c : List Ins) (v : Env) (f : Int) | [.psl .ins c false, envV v, .int false .i64 f] | (b : Bool) | .bool false b
theorem cond_ends (c : List Ins) (v : Env) (f : Int) (b : Bool) : callF E F7 (vc E F7 400) 3 [.psl .ins c false, envV v, .int false .i64 f] hp0 0 (fun r => ret E (patch hp0 0 r) r.v (.bool false b)) = (
  True ∧ ((!true) = true → false = b) ∧ ((!true) = false → True ∧ (decide ((↑(List.length c) : Int) ≤ (60 : Int)) = true → ((Prod.snd (verF c) != (0 : Int)) = true → true = b) ∧
  ((Prod.snd (verF c) != (0 : Int)) = false → True ∧ ∃ (Q : Bool → Prop), (((Prod.snd (runF c v (↑(List.length c) : Int)) != (0 : Int)) = true → Q true) ∧ ((Prod.snd (runF c v
  (↑(List.length c) : Int)) != (0 : Int)) = false → ((St.status (Prod.fst (runF c v (↑(List.length c) : Int))) == (0 : Int)) = true → Q true) ∧ ((St.status (Prod.fst (runF c v
  (↑(List.length c) : Int))) == (0 : Int)) = false → ((St.status (Prod.fst (runF c v (↑(List.length c) : Int))) == (220 : Int)) = true → Q true) ∧ ((St.status (Prod.fst (runF c v
  (↑(List.length c) : Int))) == (220 : Int)) = false → (decide (St.fuel (Prod.fst (runF c v (↑(List.length c) : Int))) < (0 : Int)) = true → Q true) ∧ (decide (St.fuel (Prod.fst
  (runF c v (↑(List.length c) : Int))) < (0 : Int)) = false → (decide (St.fuel (Prod.fst (runF c v (↑(List.length c) : Int))) > (↑(List.length c) : Int)) = true → Q true) ∧ (decide
  (St.fuel (Prod.fst (runF c v (↑(List.length c) : Int))) > (↑(List.length c) : Int)) = false → Q false)))))) ∧ (Q true → false = b) ∧ (Q false → True ∧ ((Prod.snd (runF c v (wr
  IntKind.i64 (Int.tmod (wr IntKind.u64 f) (32769 : Int)))) != (0 : Int)) = true → false = b) ∧ ((Prod.snd (runF c v (wr IntKind.i64 (Int.tmod (wr IntKind.u64 f) (32769 : Int)))) !=
  (0 : Int)) = false → (decide (wr IntKind.i64 (Int.tmod (wr IntKind.u64 f) (32769 : Int)) < wr IntKind.i64 ((↑(List.length c) : Int) - St.fuel (Prod.fst (runF c v (↑(List.length c)
  : Int))))) = true → ((St.status (Prod.fst (runF c v (wr IntKind.i64 (Int.tmod (wr IntKind.u64 f) (32769 : Int))))) == (220 : Int)) = true → ((St.fuel (Prod.fst (runF c v (wr
  IntKind.i64 (Int.tmod (wr IntKind.u64 f) (32769 : Int))))) == (0 : Int)) = true → true = b) ∧ ((St.fuel (Prod.fst (runF c v (wr IntKind.i64 (Int.tmod (wr IntKind.u64 f) (32769 :
  Int))))) == (0 : Int)) = false → false = b)) ∧ ((St.status (Prod.fst (runF c v (wr IntKind.i64 (Int.tmod (wr IntKind.u64 f) (32769 : Int))))) == (220 : Int)) = false → false = b))
  ∧ (decide (wr IntKind.i64 (Int.tmod (wr IntKind.u64 f) (32769 : Int)) < wr IntKind.i64 ((↑(List.length c) : Int) - St.fuel (Prod.fst (runF c v (↑(List.length c) : Int))))) = false
  → List.length (St.stack (Prod.fst (runF c v (wr IntKind.i64 (Int.tmod (wr IntKind.u64 f) (32769 : Int)))))) ≤ (1000000 : Nat) ∧ sameF (St.mk (St.pc (Prod.fst (runF c v (wr
  IntKind.i64 (Int.tmod (wr IntKind.u64 f) (32769 : Int)))))) (wr IntKind.i64 (St.fuel (Prod.fst (runF c v (wr IntKind.i64 (Int.tmod (wr IntKind.u64 f) (32769 : Int))))) - wr
  IntKind.i64 (wr IntKind.i64 (Int.tmod (wr IntKind.u64 f) (32769 : Int)) - (↑(List.length c) : Int)))) (St.status (Prod.fst (runF c v (wr IntKind.i64 (Int.tmod (wr IntKind.u64 f)
  (32769 : Int)))))) (St.clause (Prod.fst (runF c v (wr IntKind.i64 (Int.tmod (wr IntKind.u64 f) (32769 : Int)))))) (St.stack (Prod.fst (runF c v (wr IntKind.i64 (Int.tmod (wr
  IntKind.u64 f) (32769 : Int))))))) (Prod.fst (runF c v (↑(List.length c) : Int))) = b))))) ∧ (decide ((↑(List.length c) : Int) ≤ (60 : Int)) = false → true = b))
  ) := by kernel_rfl
--@end
--@cond steps | 5 | F7 | 400 | (c : List Ins) (v : Env) | [.psl .ins c false, envV v] | (b : Bool) | .bool false b
theorem cond_steps (c : List Ins) (v : Env) (b : Bool) : callF E F7 (vc E F7 400) 5 [.psl .ins c false, envV v] hp0 0 (fun r => ret E (patch hp0 0 r) r.v (.bool false b)) = (
  True ∧ ((!true) = true → false = b) ∧ ((!true) = false → True ∧ (decide ((↑(List.length c) : Int) ≤ (60 : Int)) = true → ((Prod.snd (verF c) != (0 : Int)) = true → true = b) ∧
  ((Prod.snd (verF c) != (0 : Int)) = false → True ∧ True ∧ ∃ (Q : Bool → Prop), (((Prod.snd (startF (↑(List.length c) : Int)) != (0 : Int)) = true → Q true) ∧ ((Prod.snd (startF
  (↑(List.length c) : Int)) != (0 : Int)) = false → ((Prod.snd (runF c v (↑(List.length c) : Int)) != (0 : Int)) = true → Q true) ∧ ((Prod.snd (runF c v (↑(List.length c) : Int)) !=
  (0 : Int)) = false → Q false))) ∧ (Q true → false = b) ∧ (Q false → ∃ (R : S5 → Prop), (∃ (x : S5), R x ∧ true = true ∧ ((c = c ∧ (false = true → false = true)) ∧ (0 : Nat) = (0 :
  Nat) ∧ (0 : Nat) = (0 : Nat) ∧ (0 : Nat) = (0 : Nat) ∧ (0 : Int) = (↑(S5.k x) : Int) ∧ True) ∧ (St.pc (Prod.fst (startF (↑(List.length c) : Int))) = St.pc (S5.s x) ∧ St.fuel
  (Prod.fst (startF (↑(List.length c) : Int))) = St.fuel (S5.s x) ∧ St.status (Prod.fst (startF (↑(List.length c) : Int))) = St.status (S5.s x) ∧ St.clause (Prod.fst (startF
  (↑(List.length c) : Int))) = St.clause (S5.s x) ∧ (St.stack (Prod.fst (startF (↑(List.length c) : Int))) = St.stack (S5.s x) ∧ (false = true → false = true)) ∧ True) ∧ (Env.has v =
  Env.has v ∧ Env.v0 v = Env.v0 v ∧ Env.v1 v = Env.v1 v ∧ Env.v2 v = Env.v2 v ∧ Env.v3 v = Env.v3 v ∧ Env.v4 v = Env.v4 v ∧ Env.v5 v = Env.v5 v ∧ Env.v6 v = Env.v6 v ∧ Env.v7 v =
  Env.v7 v ∧ Env.v8 v = Env.v8 v ∧ Env.v9 v = Env.v9 v ∧ Env.v10 v = Env.v10 v ∧ Env.v11 v = Env.v11 v ∧ Env.v12 v = Env.v12 v ∧ Env.v13 v = Env.v13 v ∧ Env.v14 v = Env.v14 v ∧
  Env.v15 v = Env.v15 v ∧ True) ∧ (St.pc (Prod.fst (runF c v (↑(List.length c) : Int))) = St.pc (Prod.fst (runF c v (↑(List.length c) : Int))) ∧ St.fuel (Prod.fst (runF c v
  (↑(List.length c) : Int))) = St.fuel (Prod.fst (runF c v (↑(List.length c) : Int))) ∧ St.status (Prod.fst (runF c v (↑(List.length c) : Int))) = St.status (Prod.fst (runF c v
  (↑(List.length c) : Int))) ∧ St.clause (Prod.fst (runF c v (↑(List.length c) : Int))) = St.clause (Prod.fst (runF c v (↑(List.length c) : Int))) ∧ (St.stack (Prod.fst (runF c v
  (↑(List.length c) : Int))) = St.stack (Prod.fst (runF c v (↑(List.length c) : Int))) ∧ (false = true → false = true)) ∧ True) ∧ True) ∧ ∀ (x : S5), R x → ∃ (Q : Bool → Prop),
  ((decide ((↑(S5.k x) : Int) < (↑(List.length c) : Int)) = true → ((St.status (S5.s x) == (0 : Int)) = true → Q true) ∧ ((St.status (S5.s x) == (0 : Int)) = false → Q false)) ∧
  (decide ((↑(S5.k x) : Int) < (↑(List.length c) : Int)) = false → Q false)) ∧ (Q true → True ∧ ∃ (Q : Bool → Prop), (((Prod.snd (stepF c v (S5.s x)) != (0 : Int)) = true → Q true) ∧
  ((Prod.snd (stepF c v (S5.s x)) != (0 : Int)) = false → ((St.fuel (Prod.fst (stepF c v (S5.s x))) != wr IntKind.i64 (St.fuel (S5.s x) - (1 : Int))) = true → Q true) ∧ ((St.fuel
  (Prod.fst (stepF c v (S5.s x))) != wr IntKind.i64 (St.fuel (S5.s x) - (1 : Int))) = false → ((St.status (Prod.fst (stepF c v (S5.s x))) == (0 : Int)) = true → (decide (St.pc
  (Prod.fst (stepF c v (S5.s x))) ≤ St.pc (S5.s x)) = true → Q true) ∧ (decide (St.pc (Prod.fst (stepF c v (S5.s x))) ≤ St.pc (S5.s x)) = false → ((St.status (Prod.fst (stepF c v
  (S5.s x))) != (0 : Int)) = true → ((St.pc (Prod.fst (stepF c v (S5.s x))) != St.pc (S5.s x)) = true → Q true) ∧ ((St.pc (Prod.fst (stepF c v (S5.s x))) != St.pc (S5.s x)) = false →
  Q false)) ∧ ((St.status (Prod.fst (stepF c v (S5.s x))) != (0 : Int)) = false → Q false))) ∧ ((St.status (Prod.fst (stepF c v (S5.s x))) == (0 : Int)) = false → ((St.status
  (Prod.fst (stepF c v (S5.s x))) != (0 : Int)) = true → ((St.pc (Prod.fst (stepF c v (S5.s x))) != St.pc (S5.s x)) = true → Q true) ∧ ((St.pc (Prod.fst (stepF c v (S5.s x))) !=
  St.pc (S5.s x)) = false → Q false)) ∧ ((St.status (Prod.fst (stepF c v (S5.s x))) != (0 : Int)) = false → Q false))))) ∧ (Q true → false = b) ∧ (Q false → ∃ (x' : S5), R x' ∧ x'.3
  + (1 : Nat) ≤ x.3 ∧ true = true ∧ ((c = c ∧ (false = true → false = true)) ∧ (0 : Nat) = (0 : Nat) ∧ (0 : Nat) = (0 : Nat) ∧ (0 : Nat) = (0 : Nat) ∧ wr IntKind.i64 ((↑(S5.k x) :
  Int) + (1 : Int)) = (↑(S5.k x') : Int) ∧ True) ∧ (St.pc (Prod.fst (stepF c v (S5.s x))) = St.pc (S5.s x') ∧ St.fuel (Prod.fst (stepF c v (S5.s x))) = St.fuel (S5.s x') ∧ St.status
  (Prod.fst (stepF c v (S5.s x))) = St.status (S5.s x') ∧ St.clause (Prod.fst (stepF c v (S5.s x))) = St.clause (S5.s x') ∧ (St.stack (Prod.fst (stepF c v (S5.s x))) = St.stack (S5.s
  x') ∧ (false = true → false = true)) ∧ True) ∧ (Env.has v = Env.has v ∧ Env.v0 v = Env.v0 v ∧ Env.v1 v = Env.v1 v ∧ Env.v2 v = Env.v2 v ∧ Env.v3 v = Env.v3 v ∧ Env.v4 v = Env.v4 v
  ∧ Env.v5 v = Env.v5 v ∧ Env.v6 v = Env.v6 v ∧ Env.v7 v = Env.v7 v ∧ Env.v8 v = Env.v8 v ∧ Env.v9 v = Env.v9 v ∧ Env.v10 v = Env.v10 v ∧ Env.v11 v = Env.v11 v ∧ Env.v12 v = Env.v12
  v ∧ Env.v13 v = Env.v13 v ∧ Env.v14 v = Env.v14 v ∧ Env.v15 v = Env.v15 v ∧ True) ∧ (St.pc (Prod.fst (runF c v (↑(List.length c) : Int))) = St.pc (Prod.fst (runF c v (↑(List.length
  c) : Int))) ∧ St.fuel (Prod.fst (runF c v (↑(List.length c) : Int))) = St.fuel (Prod.fst (runF c v (↑(List.length c) : Int))) ∧ St.status (Prod.fst (runF c v (↑(List.length c) :
  Int))) = St.status (Prod.fst (runF c v (↑(List.length c) : Int))) ∧ St.clause (Prod.fst (runF c v (↑(List.length c) : Int))) = St.clause (Prod.fst (runF c v (↑(List.length c) :
  Int))) ∧ (St.stack (Prod.fst (runF c v (↑(List.length c) : Int))) = St.stack (Prod.fst (runF c v (↑(List.length c) : Int))) ∧ (false = true → false = true)) ∧ True) ∧ True)) ∧ (Q
  false → True ∧ List.length (St.stack (S5.s x)) ≤ (1000000 : Nat) ∧ (sameF (S5.s x) (Prod.fst (runF c v (↑(List.length c) : Int))) = true → ((Prod.snd (stepF c v (S5.s x)) == (211 :
  Int)) = true → true = b) ∧ ((Prod.snd (stepF c v (S5.s x)) == (211 : Int)) = false → false = b)) ∧ (sameF (S5.s x) (Prod.fst (runF c v (↑(List.length c) : Int))) = false → false =
  b))))) ∧ (decide ((↑(List.length c) : Int) ≤ (60 : Int)) = false → true = b))
  ) := by kernel_rfl
--@end
end Go.Proofs.YtcaomfbcchemnaaDoor
