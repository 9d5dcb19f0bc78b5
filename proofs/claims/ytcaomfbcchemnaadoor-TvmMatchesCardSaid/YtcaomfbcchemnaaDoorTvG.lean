/- Chapter 21: a step of the machine. -/
import Derived.Test.YtcaomfbcchemnaaDoorTvF
namespace Go.Proofs.YtcaomfbcchemnaaDoor
open Go
set_option linter.unusedVariables false
set_option linter.unusedSimpArgs false
noncomputable def dEnvL := (.cons dI (.cons dI (.cons dI (.cons dI (.cons dI (.cons dI (.cons dI (.cons dI (.cons dI (.cons dI (.cons dI (.cons dI (.cons dI (.cons dI (.cons dI (.cons dI (.cons dI .nil)))))))))))))))) : DcL E (Int × Int × Int × Int × Int × Int × Int × Int × Int × Int × Int × Int × Int × Int × Int × Int × Int × Unit))
noncomputable def dEnv : Dc E Env := .map (dAgg dEnvL) (fun x => ⟨x.1, x.2.1, x.2.2.1, x.2.2.2.1, x.2.2.2.2.1, x.2.2.2.2.2.1, x.2.2.2.2.2.2.1, x.2.2.2.2.2.2.2.1, x.2.2.2.2.2.2.2.2.1, x.2.2.2.2.2.2.2.2.2.1, x.2.2.2.2.2.2.2.2.2.2.1, x.2.2.2.2.2.2.2.2.2.2.2.1, x.2.2.2.2.2.2.2.2.2.2.2.2.1, x.2.2.2.2.2.2.2.2.2.2.2.2.2.1, x.2.2.2.2.2.2.2.2.2.2.2.2.2.2.1, x.2.2.2.2.2.2.2.2.2.2.2.2.2.2.2.1, x.2.2.2.2.2.2.2.2.2.2.2.2.2.2.2.2.1⟩)
  (fun x => (x.has, x.v0, x.v1, x.v2, x.v3, x.v4, x.v5, x.v6, x.v7, x.v8, x.v9, x.v10, x.v11, x.v12, x.v13, x.v14, x.v15, ())) (fun _ => rfl)
noncomputable def dSt : Dc E St := .map (dAgg (.cons dI (.cons dI (.cons dI (.cons dI (dL1 dInts))))) : Dc E (Int × Int × Int × Int × List Int × Unit)) (fun x => ⟨x.1, x.2.1, x.2.2.1, x.2.2.2.1, x.2.2.2.2.1⟩) (fun s => (s.pc, s.fuel, s.status, s.clause, s.stack, ())) (fun _ => rfl)
def envV (v : Env) : SV thy := .agg [.int false .i64 v.has, .int false .i64 v.v0, .int false .i64 v.v1, .int false .i64 v.v2, .int false .i64 v.v3, .int false .i64 v.v4, .int false .i64 v.v5, .int false .i64 v.v6, .int false .i64 v.v7, .int false .i64 v.v8, .int false .i64 v.v9, .int false .i64 v.v10, .int false .i64 v.v11, .int false .i64 v.v12, .int false .i64 v.v13, .int false .i64 v.v14, .int false .i64 v.v15]
def stV (s : St) : SV thy := .agg [.int false .i64 s.pc, .int false .i64 s.fuel, .int false .i64 s.status, .int false .i64 s.clause, .psl .ints s.stack false]
noncomputable def Sver : Sum thy := sumP (dL1 dCode) (fun _ => True) fun x => .tup [.int false .i64 (verF x.1).1, .int false .i64 (verF x.1).2]
noncomputable def F5 : Fns thy := addS F4 9 Sver
theorem F5_ok : FnsOk E F5 := addS_ok F4_ok (sumP_ok E_ok (good_of (f := 9) rfl) fun x _ => verify_pure x.1)
--@cond advance | 34 | F5 | 400 | (c : List Ins) (v : Env) (s : St) (below : Int) | [.psl .ins c false, envV v, stV s, .int false .i64 below] | (z : St) | stV z
theorem cond_advance (c : List Ins) (v : Env) (s : St) (below : Int) (z : St) : callF E F5 (vc E F5 400) 34 [.psl .ins c false, envV v, stV s, .int false .i64 below] hp0 0 (fun r => ret E (patch hp0 0 r) r.v (stV z)) = (
  ((St.fuel s == (0 : Int)) = true → St.pc s = St.pc z ∧ St.fuel s = St.fuel z ∧ (220 : Int) = St.status z ∧ St.clause s = St.clause z ∧ (St.stack s = St.stack z ∧ (false = true →
  false = true)) ∧ True) ∧ ((St.fuel s == (0 : Int)) = false → (0 : Int) ≤ St.pc s ∧ St.pc s + (1 : Int) ≤ (↑(List.length c) : Int) ∧ ∀ (x : Ins), c[Int.toNat (St.pc s)]? = some x →
  True ∧ (decide ((↑(List.length (St.stack s)) : Int) < needsF (Ins.op x)) = true → St.pc s = St.pc z ∧ wr IntKind.i64 (St.fuel s - (1 : Int)) = St.fuel z ∧ (210 : Int) = St.status z
  ∧ St.clause s = St.clause z ∧ (St.stack s = St.stack z ∧ (false = true → false = true)) ∧ True) ∧ (decide ((↑(List.length (St.stack s)) : Int) < needsF (Ins.op x)) = false →
  ((Ins.op x == (1 : Int)) = true → (decide (wr IntKind.i64 (below + (↑(List.length (St.stack s)) : Int)) ≥ (64 : Int)) = true → St.pc s = St.pc z ∧ wr IntKind.i64 (St.fuel s - (1 :
  Int)) = St.fuel z ∧ (210 : Int) = St.status z ∧ St.clause s = St.clause z ∧ (St.stack s = St.stack z ∧ (false = true → false = true)) ∧ True) ∧ (decide (wr IntKind.i64 (below +
  (↑(List.length (St.stack s)) : Int)) ≥ (64 : Int)) = false → ((0 : Int) ≤ wr IntKind.i64 ((↑(List.length (St.stack s)) : Int) - (0 : Int)) ∧ wr IntKind.i64 ((↑(List.length
  (St.stack s)) : Int) - (0 : Int)) = wr IntKind.i64 ((↑(List.length (St.stack s)) : Int) - (0 : Int)) ∧ wr IntKind.i64 ((↑(List.length (St.stack s)) : Int) - (0 : Int)) ≤
  (↑(List.length (St.stack s)) : Int)) ∧ (List.length (List.take (Int.toNat (wr IntKind.i64 ((↑(List.length (St.stack s)) : Int) - (0 : Int)))) (St.stack s)) + (1 : Nat)) * (8 : Nat)
  ≤ (140737488355328 : Nat) ∧ wr IntKind.i64 (St.pc s + (1 : Int)) = St.pc z ∧ wr IntKind.i64 (St.fuel s - (1 : Int)) = St.fuel z ∧ St.status s = St.status z ∧ St.clause s =
  St.clause z ∧ ((0 : Nat) + (List.length (List.take (Int.toNat (wr IntKind.i64 ((↑(List.length (St.stack s)) : Int) - (0 : Int)))) (St.stack s)) + (1 : Nat)) ≤ List.length
  (List.take (Int.toNat (wr IntKind.i64 ((↑(List.length (St.stack s)) : Int) - (0 : Int)))) (St.stack s) ++ [Ins.n x]) ∧ List.take (List.length (List.take (Int.toNat (wr IntKind.i64
  ((↑(List.length (St.stack s)) : Int) - (0 : Int)))) (St.stack s)) + (1 : Nat)) (List.take (Int.toNat (wr IntKind.i64 ((↑(List.length (St.stack s)) : Int) - (0 : Int)))) (St.stack
  s) ++ [Ins.n x]) = St.stack z) ∧ True)) ∧ ((Ins.op x == (1 : Int)) = false → ((Ins.op x == (2 : Int)) = true → (decide (wr IntKind.i64 (below + (↑(List.length (St.stack s)) : Int))
  ≥ (64 : Int)) = true → St.pc s = St.pc z ∧ wr IntKind.i64 (St.fuel s - (1 : Int)) = St.fuel z ∧ (210 : Int) = St.status z ∧ St.clause s = St.clause z ∧ (St.stack s = St.stack z ∧
  (false = true → false = true)) ∧ True) ∧ (decide (wr IntKind.i64 (below + (↑(List.length (St.stack s)) : Int)) ≥ (64 : Int)) = false → (0 : Int) ≤ Ins.n x ∧ ((bitsOp BinOp.and
  IntKind.i64 (Env.has v) (wr IntKind.i64 ((1 : Int) * (2 : Int) ^ min (Int.toNat (Ins.n x)) (IntKind.bits IntKind.i64))) == (0 : Int)) = true → St.pc s = St.pc z ∧ wr IntKind.i64
  (St.fuel s - (1 : Int)) = St.fuel z ∧ (191 : Int) = St.status z ∧ St.clause s = St.clause z ∧ (St.stack s = St.stack z ∧ (false = true → false = true)) ∧ True) ∧ ((bitsOp BinOp.and
  IntKind.i64 (Env.has v) (wr IntKind.i64 ((1 : Int) * (2 : Int) ^ min (Int.toNat (Ins.n x)) (IntKind.bits IntKind.i64))) == (0 : Int)) = false → (0 : Int) ≤ Ins.n x ∧ Ins.n x + (1 :
  Int) ≤ (↑(16 : Nat) : Int) ∧ ((Ins.n x == (↑(0 : Nat) : Int)) = true → ∃ (Q : Bool → Prop), ((decide (Env.v0 v < (-9007199254740992 : Int)) = true → Q true) ∧ (decide (Env.v0 v <
  (-9007199254740992 : Int)) = false → (decide (Env.v0 v > (9007199254740992 : Int)) = true → Q true) ∧ (decide (Env.v0 v > (9007199254740992 : Int)) = false → Q false))) ∧ (Q true →
  St.pc s = St.pc z ∧ wr IntKind.i64 (St.fuel s - (1 : Int)) = St.fuel z ∧ (13 : Int) = St.status z ∧ St.clause s = St.clause z ∧ (St.stack s = St.stack z ∧ (false = true → false =
  true)) ∧ True) ∧ (Q false → ((0 : Int) ≤ wr IntKind.i64 ((↑(List.length (St.stack s)) : Int) - (0 : Int)) ∧ wr IntKind.i64 ((↑(List.length (St.stack s)) : Int) - (0 : Int)) = wr
  IntKind.i64 ((↑(List.length (St.stack s)) : Int) - (0 : Int)) ∧ wr IntKind.i64 ((↑(List.length (St.stack s)) : Int) - (0 : Int)) ≤ (↑(List.length (St.stack s)) : Int)) ∧
  (List.length (List.take (Int.toNat (wr IntKind.i64 ((↑(List.length (St.stack s)) : Int) - (0 : Int)))) (St.stack s)) + (1 : Nat)) * (8 : Nat) ≤ (140737488355328 : Nat) ∧ wr
  IntKind.i64 (St.pc s + (1 : Int)) = St.pc z ∧ wr IntKind.i64 (St.fuel s - (1 : Int)) = St.fuel z ∧ St.status s = St.status z ∧ St.clause s = St.clause z ∧ ((0 : Nat) + (List.length
  (List.take (Int.toNat (wr IntKind.i64 ((↑(List.length (St.stack s)) : Int) - (0 : Int)))) (St.stack s)) + (1 : Nat)) ≤ List.length (List.take (Int.toNat (wr IntKind.i64
  ((↑(List.length (St.stack s)) : Int) - (0 : Int)))) (St.stack s) ++ [Env.v0 v]) ∧ List.take (List.length (List.take (Int.toNat (wr IntKind.i64 ((↑(List.length (St.stack s)) : Int)
  - (0 : Int)))) (St.stack s)) + (1 : Nat)) (List.take (Int.toNat (wr IntKind.i64 ((↑(List.length (St.stack s)) : Int) - (0 : Int)))) (St.stack s) ++ [Env.v0 v]) = St.stack z) ∧
  True)) ∧ ((Ins.n x == (↑(0 : Nat) : Int)) = false → ((Ins.n x == (↑((0 : Nat) + (1 : Nat)) : Int)) = true → ∃ (Q : Bool → Prop), ((decide (Env.v1 v < (-9007199254740992 : Int)) =
  true → Q true) ∧ (decide (Env.v1 v < (-9007199254740992 : Int)) = false → (decide (Env.v1 v > (9007199254740992 : Int)) = true → Q true) ∧ (decide (Env.v1 v > (9007199254740992 :
  Int)) = false → Q false))) ∧ (Q true → St.pc s = St.pc z ∧ wr IntKind.i64 (St.fuel s - (1 : Int)) = St.fuel z ∧ (13 : Int) = St.status z ∧ St.clause s = St.clause z ∧ (St.stack s =
  St.stack z ∧ (false = true → false = true)) ∧ True) ∧ (Q false → ((0 : Int) ≤ wr IntKind.i64 ((↑(List.length (St.stack s)) : Int) - (0 : Int)) ∧ wr IntKind.i64 ((↑(List.length
  (St.stack s)) : Int) - (0 : Int)) = wr IntKind.i64 ((↑(List.length (St.stack s)) : Int) - (0 : Int)) ∧ wr IntKind.i64 ((↑(List.length (St.stack s)) : Int) - (0 : Int)) ≤
  (↑(List.length (St.stack s)) : Int)) ∧ (List.length (List.take (Int.toNat (wr IntKind.i64 ((↑(List.length (St.stack s)) : Int) - (0 : Int)))) (St.stack s)) + (1 : Nat)) * (8 : Nat)
  ≤ (140737488355328 : Nat) ∧ wr IntKind.i64 (St.pc s + (1 : Int)) = St.pc z ∧ wr IntKind.i64 (St.fuel s - (1 : Int)) = St.fuel z ∧ St.status s = St.status z ∧ St.clause s =
  St.clause z ∧ ((0 : Nat) + (List.length (List.take (Int.toNat (wr IntKind.i64 ((↑(List.length (St.stack s)) : Int) - (0 : Int)))) (St.stack s)) + (1 : Nat)) ≤ List.length
  (List.take (Int.toNat (wr IntKind.i64 ((↑(List.length (St.stack s)) : Int) - (0 : Int)))) (St.stack s) ++ [Env.v1 v]) ∧ List.take (List.length (List.take (Int.toNat (wr IntKind.i64
  ((↑(List.length (St.stack s)) : Int) - (0 : Int)))) (St.stack s)) + (1 : Nat)) (List.take (Int.toNat (wr IntKind.i64 ((↑(List.length (St.stack s)) : Int) - (0 : Int)))) (St.stack
  s) ++ [Env.v1 v]) = St.stack z) ∧ True)) ∧ ((Ins.n x == (↑((0 : Nat) + (1 : Nat)) : Int)) = false → ((Ins.n x == (↑((0 : Nat) + (1 : Nat) + (1 : Nat)) : Int)) = true → ∃ (Q : Bool
  → Prop), ((decide (Env.v2 v < (-9007199254740992 : Int)) = true → Q true) ∧ (decide (Env.v2 v < (-9007199254740992 : Int)) = false → (decide (Env.v2 v > (9007199254740992 : Int)) =
  true → Q true) ∧ (decide (Env.v2 v > (9007199254740992 : Int)) = false → Q false))) ∧ (Q true → St.pc s = St.pc z ∧ wr IntKind.i64 (St.fuel s - (1 : Int)) = St.fuel z ∧ (13 : Int)
  = St.status z ∧ St.clause s = St.clause z ∧ (St.stack s = St.stack z ∧ (false = true → false = true)) ∧ True) ∧ (Q false → ((0 : Int) ≤ wr IntKind.i64 ((↑(List.length (St.stack s))
  : Int) - (0 : Int)) ∧ wr IntKind.i64 ((↑(List.length (St.stack s)) : Int) - (0 : Int)) = wr IntKind.i64 ((↑(List.length (St.stack s)) : Int) - (0 : Int)) ∧ wr IntKind.i64
  ((↑(List.length (St.stack s)) : Int) - (0 : Int)) ≤ (↑(List.length (St.stack s)) : Int)) ∧ (List.length (List.take (Int.toNat (wr IntKind.i64 ((↑(List.length (St.stack s)) : Int) -
  (0 : Int)))) (St.stack s)) + (1 : Nat)) * (8 : Nat) ≤ (140737488355328 : Nat) ∧ wr IntKind.i64 (St.pc s + (1 : Int)) = St.pc z ∧ wr IntKind.i64 (St.fuel s - (1 : Int)) = St.fuel z
  ∧ St.status s = St.status z ∧ St.clause s = St.clause z ∧ ((0 : Nat) + (List.length (List.take (Int.toNat (wr IntKind.i64 ((↑(List.length (St.stack s)) : Int) - (0 : Int))))
  (St.stack s)) + (1 : Nat)) ≤ List.length (List.take (Int.toNat (wr IntKind.i64 ((↑(List.length (St.stack s)) : Int) - (0 : Int)))) (St.stack s) ++ [Env.v2 v]) ∧ List.take
  (List.length (List.take (Int.toNat (wr IntKind.i64 ((↑(List.length (St.stack s)) : Int) - (0 : Int)))) (St.stack s)) + (1 : Nat)) (List.take (Int.toNat (wr IntKind.i64
  ((↑(List.length (St.stack s)) : Int) - (0 : Int)))) (St.stack s) ++ [Env.v2 v]) = St.stack z) ∧ True)) ∧ ((Ins.n x == (↑((0 : Nat) + (1 : Nat) + (1 : Nat)) : Int)) = false →
  ((Ins.n x == (↑((0 : Nat) + (1 : Nat) + (1 : Nat) + (1 : Nat)) : Int)) = true → ∃ (Q : Bool → Prop), ((decide (Env.v3 v < (-9007199254740992 : Int)) = true → Q true) ∧ (decide
  (Env.v3 v < (-9007199254740992 : Int)) = false → (decide (Env.v3 v > (9007199254740992 : Int)) = true → Q true) ∧ (decide (Env.v3 v > (9007199254740992 : Int)) = false → Q false)))
  ∧ (Q true → St.pc s = St.pc z ∧ wr IntKind.i64 (St.fuel s - (1 : Int)) = St.fuel z ∧ (13 : Int) = St.status z ∧ St.clause s = St.clause z ∧ (St.stack s = St.stack z ∧ (false = true
  → false = true)) ∧ True) ∧ (Q false → ((0 : Int) ≤ wr IntKind.i64 ((↑(List.length (St.stack s)) : Int) - (0 : Int)) ∧ wr IntKind.i64 ((↑(List.length (St.stack s)) : Int) - (0 :
  Int)) = wr IntKind.i64 ((↑(List.length (St.stack s)) : Int) - (0 : Int)) ∧ wr IntKind.i64 ((↑(List.length (St.stack s)) : Int) - (0 : Int)) ≤ (↑(List.length (St.stack s)) : Int)) ∧
  (List.length (List.take (Int.toNat (wr IntKind.i64 ((↑(List.length (St.stack s)) : Int) - (0 : Int)))) (St.stack s)) + (1 : Nat)) * (8 : Nat) ≤ (140737488355328 : Nat) ∧ wr
  IntKind.i64 (St.pc s + (1 : Int)) = St.pc z ∧ wr IntKind.i64 (St.fuel s - (1 : Int)) = St.fuel z ∧ St.status s = St.status z ∧ St.clause s = St.clause z ∧ ((0 : Nat) + (List.length
  (List.take (Int.toNat (wr IntKind.i64 ((↑(List.length (St.stack s)) : Int) - (0 : Int)))) (St.stack s)) + (1 : Nat)) ≤ List.length (List.take (Int.toNat (wr IntKind.i64
  ((↑(List.length (St.stack s)) : Int) - (0 : Int)))) (St.stack s) ++ [Env.v3 v]) ∧ List.take (List.length (List.take (Int.toNat (wr IntKind.i64 ((↑(List.length (St.stack s)) : Int)
  - (0 : Int)))) (St.stack s)) + (1 : Nat)) (List.take (Int.toNat (wr IntKind.i64 ((↑(List.length (St.stack s)) : Int) - (0 : Int)))) (St.stack s) ++ [Env.v3 v]) = St.stack z) ∧
  True)) ∧ ((Ins.n x == (↑((0 : Nat) + (1 : Nat) + (1 : Nat) + (1 : Nat)) : Int)) = false → ((Ins.n x == (↑((0 : Nat) + (1 : Nat) + (1 : Nat) + (1 : Nat) + (1 : Nat)) : Int)) = true
  → ∃ (Q : Bool → Prop), ((decide (Env.v4 v < (-9007199254740992 : Int)) = true → Q true) ∧ (decide (Env.v4 v < (-9007199254740992 : Int)) = false → (decide (Env.v4 v >
  (9007199254740992 : Int)) = true → Q true) ∧ (decide (Env.v4 v > (9007199254740992 : Int)) = false → Q false))) ∧ (Q true → St.pc s = St.pc z ∧ wr IntKind.i64 (St.fuel s - (1 :
  Int)) = St.fuel z ∧ (13 : Int) = St.status z ∧ St.clause s = St.clause z ∧ (St.stack s = St.stack z ∧ (false = true → false = true)) ∧ True) ∧ (Q false → ((0 : Int) ≤ wr
  IntKind.i64 ((↑(List.length (St.stack s)) : Int) - (0 : Int)) ∧ wr IntKind.i64 ((↑(List.length (St.stack s)) : Int) - (0 : Int)) = wr IntKind.i64 ((↑(List.length (St.stack s)) :
  Int) - (0 : Int)) ∧ wr IntKind.i64 ((↑(List.length (St.stack s)) : Int) - (0 : Int)) ≤ (↑(List.length (St.stack s)) : Int)) ∧ (List.length (List.take (Int.toNat (wr IntKind.i64
  ((↑(List.length (St.stack s)) : Int) - (0 : Int)))) (St.stack s)) + (1 : Nat)) * (8 : Nat) ≤ (140737488355328 : Nat) ∧ wr IntKind.i64 (St.pc s + (1 : Int)) = St.pc z ∧ wr
  IntKind.i64 (St.fuel s - (1 : Int)) = St.fuel z ∧ St.status s = St.status z ∧ St.clause s = St.clause z ∧ ((0 : Nat) + (List.length (List.take (Int.toNat (wr IntKind.i64
  ((↑(List.length (St.stack s)) : Int) - (0 : Int)))) (St.stack s)) + (1 : Nat)) ≤ List.length (List.take (Int.toNat (wr IntKind.i64 ((↑(List.length (St.stack s)) : Int) - (0 :
  Int)))) (St.stack s) ++ [Env.v4 v]) ∧ List.take (List.length (List.take (Int.toNat (wr IntKind.i64 ((↑(List.length (St.stack s)) : Int) - (0 : Int)))) (St.stack s)) + (1 : Nat))
  (List.take (Int.toNat (wr IntKind.i64 ((↑(List.length (St.stack s)) : Int) - (0 : Int)))) (St.stack s) ++ [Env.v4 v]) = St.stack z) ∧ True)) ∧ ((Ins.n x == (↑((0 : Nat) + (1 : Nat)
  + (1 : Nat) + (1 : Nat) + (1 : Nat)) : Int)) = false → ((Ins.n x == (↑((0 : Nat) + (1 : Nat) + (1 : Nat) + (1 : Nat) + (1 : Nat) + (1 : Nat)) : Int)) = true → ∃ (Q : Bool → Prop),
  ((decide (Env.v5 v < (-9007199254740992 : Int)) = true → Q true) ∧ (decide (Env.v5 v < (-9007199254740992 : Int)) = false → (decide (Env.v5 v > (9007199254740992 : Int)) = true → Q
  true) ∧ (decide (Env.v5 v > (9007199254740992 : Int)) = false → Q false))) ∧ (Q true → St.pc s = St.pc z ∧ wr IntKind.i64 (St.fuel s - (1 : Int)) = St.fuel z ∧ (13 : Int) =
  St.status z ∧ St.clause s = St.clause z ∧ (St.stack s = St.stack z ∧ (false = true → false = true)) ∧ True) ∧ (Q false → ((0 : Int) ≤ wr IntKind.i64 ((↑(List.length (St.stack s)) :
  Int) - (0 : Int)) ∧ wr IntKind.i64 ((↑(List.length (St.stack s)) : Int) - (0 : Int)) = wr IntKind.i64 ((↑(List.length (St.stack s)) : Int) - (0 : Int)) ∧ wr IntKind.i64
  ((↑(List.length (St.stack s)) : Int) - (0 : Int)) ≤ (↑(List.length (St.stack s)) : Int)) ∧ (List.length (List.take (Int.toNat (wr IntKind.i64 ((↑(List.length (St.stack s)) : Int) -
  (0 : Int)))) (St.stack s)) + (1 : Nat)) * (8 : Nat) ≤ (140737488355328 : Nat) ∧ wr IntKind.i64 (St.pc s + (1 : Int)) = St.pc z ∧ wr IntKind.i64 (St.fuel s - (1 : Int)) = St.fuel z
  ∧ St.status s = St.status z ∧ St.clause s = St.clause z ∧ ((0 : Nat) + (List.length (List.take (Int.toNat (wr IntKind.i64 ((↑(List.length (St.stack s)) : Int) - (0 : Int))))
  (St.stack s)) + (1 : Nat)) ≤ List.length (List.take (Int.toNat (wr IntKind.i64 ((↑(List.length (St.stack s)) : Int) - (0 : Int)))) (St.stack s) ++ [Env.v5 v]) ∧ List.take
  (List.length (List.take (Int.toNat (wr IntKind.i64 ((↑(List.length (St.stack s)) : Int) - (0 : Int)))) (St.stack s)) + (1 : Nat)) (List.take (Int.toNat (wr IntKind.i64
  ((↑(List.length (St.stack s)) : Int) - (0 : Int)))) (St.stack s) ++ [Env.v5 v]) = St.stack z) ∧ True)) ∧ ((Ins.n x == (↑((0 : Nat) + (1 : Nat) + (1 : Nat) + (1 : Nat) + (1 : Nat) +
  (1 : Nat)) : Int)) = false → ((Ins.n x == (↑((0 : Nat) + (1 : Nat) + (1 : Nat) + (1 : Nat) + (1 : Nat) + (1 : Nat) + (1 : Nat)) : Int)) = true → ∃ (Q : Bool → Prop), ((decide
  (Env.v6 v < (-9007199254740992 : Int)) = true → Q true) ∧ (decide (Env.v6 v < (-9007199254740992 : Int)) = false → (decide (Env.v6 v > (9007199254740992 : Int)) = true → Q true) ∧
  (decide (Env.v6 v > (9007199254740992 : Int)) = false → Q false))) ∧ (Q true → St.pc s = St.pc z ∧ wr IntKind.i64 (St.fuel s - (1 : Int)) = St.fuel z ∧ (13 : Int) = St.status z ∧
  St.clause s = St.clause z ∧ (St.stack s = St.stack z ∧ (false = true → false = true)) ∧ True) ∧ (Q false → ((0 : Int) ≤ wr IntKind.i64 ((↑(List.length (St.stack s)) : Int) - (0 :
  Int)) ∧ wr IntKind.i64 ((↑(List.length (St.stack s)) : Int) - (0 : Int)) = wr IntKind.i64 ((↑(List.length (St.stack s)) : Int) - (0 : Int)) ∧ wr IntKind.i64 ((↑(List.length
  (St.stack s)) : Int) - (0 : Int)) ≤ (↑(List.length (St.stack s)) : Int)) ∧ (List.length (List.take (Int.toNat (wr IntKind.i64 ((↑(List.length (St.stack s)) : Int) - (0 : Int))))
  (St.stack s)) + (1 : Nat)) * (8 : Nat) ≤ (140737488355328 : Nat) ∧ wr IntKind.i64 (St.pc s + (1 : Int)) = St.pc z ∧ wr IntKind.i64 (St.fuel s - (1 : Int)) = St.fuel z ∧ St.status s
  = St.status z ∧ St.clause s = St.clause z ∧ ((0 : Nat) + (List.length (List.take (Int.toNat (wr IntKind.i64 ((↑(List.length (St.stack s)) : Int) - (0 : Int)))) (St.stack s)) + (1 :
  Nat)) ≤ List.length (List.take (Int.toNat (wr IntKind.i64 ((↑(List.length (St.stack s)) : Int) - (0 : Int)))) (St.stack s) ++ [Env.v6 v]) ∧ List.take (List.length (List.take
  (Int.toNat (wr IntKind.i64 ((↑(List.length (St.stack s)) : Int) - (0 : Int)))) (St.stack s)) + (1 : Nat)) (List.take (Int.toNat (wr IntKind.i64 ((↑(List.length (St.stack s)) : Int)
  - (0 : Int)))) (St.stack s) ++ [Env.v6 v]) = St.stack z) ∧ True)) ∧ ((Ins.n x == (↑((0 : Nat) + (1 : Nat) + (1 : Nat) + (1 : Nat) + (1 : Nat) + (1 : Nat) + (1 : Nat)) : Int)) =
  false → ((Ins.n x == (↑((0 : Nat) + (1 : Nat) + (1 : Nat) + (1 : Nat) + (1 : Nat) + (1 : Nat) + (1 : Nat) + (1 : Nat)) : Int)) = true → ∃ (Q : Bool → Prop), ((decide (Env.v7 v <
  (-9007199254740992 : Int)) = true → Q true) ∧ (decide (Env.v7 v < (-9007199254740992 : Int)) = false → (decide (Env.v7 v > (9007199254740992 : Int)) = true → Q true) ∧ (decide
  (Env.v7 v > (9007199254740992 : Int)) = false → Q false))) ∧ (Q true → St.pc s = St.pc z ∧ wr IntKind.i64 (St.fuel s - (1 : Int)) = St.fuel z ∧ (13 : Int) = St.status z ∧ St.clause
  s = St.clause z ∧ (St.stack s = St.stack z ∧ (false = true → false = true)) ∧ True) ∧ (Q false → ((0 : Int) ≤ wr IntKind.i64 ((↑(List.length (St.stack s)) : Int) - (0 : Int)) ∧ wr
  IntKind.i64 ((↑(List.length (St.stack s)) : Int) - (0 : Int)) = wr IntKind.i64 ((↑(List.length (St.stack s)) : Int) - (0 : Int)) ∧ wr IntKind.i64 ((↑(List.length (St.stack s)) :
  Int) - (0 : Int)) ≤ (↑(List.length (St.stack s)) : Int)) ∧ (List.length (List.take (Int.toNat (wr IntKind.i64 ((↑(List.length (St.stack s)) : Int) - (0 : Int)))) (St.stack s)) + (1
  : Nat)) * (8 : Nat) ≤ (140737488355328 : Nat) ∧ wr IntKind.i64 (St.pc s + (1 : Int)) = St.pc z ∧ wr IntKind.i64 (St.fuel s - (1 : Int)) = St.fuel z ∧ St.status s = St.status z ∧
  St.clause s = St.clause z ∧ ((0 : Nat) + (List.length (List.take (Int.toNat (wr IntKind.i64 ((↑(List.length (St.stack s)) : Int) - (0 : Int)))) (St.stack s)) + (1 : Nat)) ≤
  List.length (List.take (Int.toNat (wr IntKind.i64 ((↑(List.length (St.stack s)) : Int) - (0 : Int)))) (St.stack s) ++ [Env.v7 v]) ∧ List.take (List.length (List.take (Int.toNat (wr
  IntKind.i64 ((↑(List.length (St.stack s)) : Int) - (0 : Int)))) (St.stack s)) + (1 : Nat)) (List.take (Int.toNat (wr IntKind.i64 ((↑(List.length (St.stack s)) : Int) - (0 : Int))))
  (St.stack s) ++ [Env.v7 v]) = St.stack z) ∧ True)) ∧ ((Ins.n x == (↑((0 : Nat) + (1 : Nat) + (1 : Nat) + (1 : Nat) + (1 : Nat) + (1 : Nat) + (1 : Nat) + (1 : Nat)) : Int)) = false
  → ((Ins.n x == (↑((0 : Nat) + (1 : Nat) + (1 : Nat) + (1 : Nat) + (1 : Nat) + (1 : Nat) + (1 : Nat) + (1 : Nat) + (1 : Nat)) : Int)) = true → ∃ (Q : Bool → Prop), ((decide (Env.v8
  v < (-9007199254740992 : Int)) = true → Q true) ∧ (decide (Env.v8 v < (-9007199254740992 : Int)) = false → (decide (Env.v8 v > (9007199254740992 : Int)) = true → Q true) ∧ (decide
  (Env.v8 v > (9007199254740992 : Int)) = false → Q false))) ∧ (Q true → St.pc s = St.pc z ∧ wr IntKind.i64 (St.fuel s - (1 : Int)) = St.fuel z ∧ (13 : Int) = St.status z ∧ St.clause
  s = St.clause z ∧ (St.stack s = St.stack z ∧ (false = true → false = true)) ∧ True) ∧ (Q false → ((0 : Int) ≤ wr IntKind.i64 ((↑(List.length (St.stack s)) : Int) - (0 : Int)) ∧ wr
  IntKind.i64 ((↑(List.length (St.stack s)) : Int) - (0 : Int)) = wr IntKind.i64 ((↑(List.length (St.stack s)) : Int) - (0 : Int)) ∧ wr IntKind.i64 ((↑(List.length (St.stack s)) :
  Int) - (0 : Int)) ≤ (↑(List.length (St.stack s)) : Int)) ∧ (List.length (List.take (Int.toNat (wr IntKind.i64 ((↑(List.length (St.stack s)) : Int) - (0 : Int)))) (St.stack s)) + (1
  : Nat)) * (8 : Nat) ≤ (140737488355328 : Nat) ∧ wr IntKind.i64 (St.pc s + (1 : Int)) = St.pc z ∧ wr IntKind.i64 (St.fuel s - (1 : Int)) = St.fuel z ∧ St.status s = St.status z ∧
  St.clause s = St.clause z ∧ ((0 : Nat) + (List.length (List.take (Int.toNat (wr IntKind.i64 ((↑(List.length (St.stack s)) : Int) - (0 : Int)))) (St.stack s)) + (1 : Nat)) ≤
  List.length (List.take (Int.toNat (wr IntKind.i64 ((↑(List.length (St.stack s)) : Int) - (0 : Int)))) (St.stack s) ++ [Env.v8 v]) ∧ List.take (List.length (List.take (Int.toNat (wr
  IntKind.i64 ((↑(List.length (St.stack s)) : Int) - (0 : Int)))) (St.stack s)) + (1 : Nat)) (List.take (Int.toNat (wr IntKind.i64 ((↑(List.length (St.stack s)) : Int) - (0 : Int))))
  (St.stack s) ++ [Env.v8 v]) = St.stack z) ∧ True)) ∧ ((Ins.n x == (↑((0 : Nat) + (1 : Nat) + (1 : Nat) + (1 : Nat) + (1 : Nat) + (1 : Nat) + (1 : Nat) + (1 : Nat) + (1 : Nat)) :
  Int)) = false → ((Ins.n x == (↑((0 : Nat) + (1 : Nat) + (1 : Nat) + (1 : Nat) + (1 : Nat) + (1 : Nat) + (1 : Nat) + (1 : Nat) + (1 : Nat) + (1 : Nat)) : Int)) = true → ∃ (Q : Bool
  → Prop), ((decide (Env.v9 v < (-9007199254740992 : Int)) = true → Q true) ∧ (decide (Env.v9 v < (-9007199254740992 : Int)) = false → (decide (Env.v9 v > (9007199254740992 : Int)) =
  true → Q true) ∧ (decide (Env.v9 v > (9007199254740992 : Int)) = false → Q false))) ∧ (Q true → St.pc s = St.pc z ∧ wr IntKind.i64 (St.fuel s - (1 : Int)) = St.fuel z ∧ (13 : Int)
  = St.status z ∧ St.clause s = St.clause z ∧ (St.stack s = St.stack z ∧ (false = true → false = true)) ∧ True) ∧ (Q false → ((0 : Int) ≤ wr IntKind.i64 ((↑(List.length (St.stack s))
  : Int) - (0 : Int)) ∧ wr IntKind.i64 ((↑(List.length (St.stack s)) : Int) - (0 : Int)) = wr IntKind.i64 ((↑(List.length (St.stack s)) : Int) - (0 : Int)) ∧ wr IntKind.i64
  ((↑(List.length (St.stack s)) : Int) - (0 : Int)) ≤ (↑(List.length (St.stack s)) : Int)) ∧ (List.length (List.take (Int.toNat (wr IntKind.i64 ((↑(List.length (St.stack s)) : Int) -
  (0 : Int)))) (St.stack s)) + (1 : Nat)) * (8 : Nat) ≤ (140737488355328 : Nat) ∧ wr IntKind.i64 (St.pc s + (1 : Int)) = St.pc z ∧ wr IntKind.i64 (St.fuel s - (1 : Int)) = St.fuel z
  ∧ St.status s = St.status z ∧ St.clause s = St.clause z ∧ ((0 : Nat) + (List.length (List.take (Int.toNat (wr IntKind.i64 ((↑(List.length (St.stack s)) : Int) - (0 : Int))))
  (St.stack s)) + (1 : Nat)) ≤ List.length (List.take (Int.toNat (wr IntKind.i64 ((↑(List.length (St.stack s)) : Int) - (0 : Int)))) (St.stack s) ++ [Env.v9 v]) ∧ List.take
  (List.length (List.take (Int.toNat (wr IntKind.i64 ((↑(List.length (St.stack s)) : Int) - (0 : Int)))) (St.stack s)) + (1 : Nat)) (List.take (Int.toNat (wr IntKind.i64
  ((↑(List.length (St.stack s)) : Int) - (0 : Int)))) (St.stack s) ++ [Env.v9 v]) = St.stack z) ∧ True)) ∧ ((Ins.n x == (↑((0 : Nat) + (1 : Nat) + (1 : Nat) + (1 : Nat) + (1 : Nat) +
  (1 : Nat) + (1 : Nat) + (1 : Nat) + (1 : Nat) + (1 : Nat)) : Int)) = false → ((Ins.n x == (↑((0 : Nat) + (1 : Nat) + (1 : Nat) + (1 : Nat) + (1 : Nat) + (1 : Nat) + (1 : Nat) + (1
  : Nat) + (1 : Nat) + (1 : Nat) + (1 : Nat)) : Int)) = true → ∃ (Q : Bool → Prop), ((decide (Env.v10 v < (-9007199254740992 : Int)) = true → Q true) ∧ (decide (Env.v10 v <
  (-9007199254740992 : Int)) = false → (decide (Env.v10 v > (9007199254740992 : Int)) = true → Q true) ∧ (decide (Env.v10 v > (9007199254740992 : Int)) = false → Q false))) ∧ (Q true
  → St.pc s = St.pc z ∧ wr IntKind.i64 (St.fuel s - (1 : Int)) = St.fuel z ∧ (13 : Int) = St.status z ∧ St.clause s = St.clause z ∧ (St.stack s = St.stack z ∧ (false = true → false =
  true)) ∧ True) ∧ (Q false → ((0 : Int) ≤ wr IntKind.i64 ((↑(List.length (St.stack s)) : Int) - (0 : Int)) ∧ wr IntKind.i64 ((↑(List.length (St.stack s)) : Int) - (0 : Int)) = wr
  IntKind.i64 ((↑(List.length (St.stack s)) : Int) - (0 : Int)) ∧ wr IntKind.i64 ((↑(List.length (St.stack s)) : Int) - (0 : Int)) ≤ (↑(List.length (St.stack s)) : Int)) ∧
  (List.length (List.take (Int.toNat (wr IntKind.i64 ((↑(List.length (St.stack s)) : Int) - (0 : Int)))) (St.stack s)) + (1 : Nat)) * (8 : Nat) ≤ (140737488355328 : Nat) ∧ wr
  IntKind.i64 (St.pc s + (1 : Int)) = St.pc z ∧ wr IntKind.i64 (St.fuel s - (1 : Int)) = St.fuel z ∧ St.status s = St.status z ∧ St.clause s = St.clause z ∧ ((0 : Nat) + (List.length
  (List.take (Int.toNat (wr IntKind.i64 ((↑(List.length (St.stack s)) : Int) - (0 : Int)))) (St.stack s)) + (1 : Nat)) ≤ List.length (List.take (Int.toNat (wr IntKind.i64
  ((↑(List.length (St.stack s)) : Int) - (0 : Int)))) (St.stack s) ++ [Env.v10 v]) ∧ List.take (List.length (List.take (Int.toNat (wr IntKind.i64 ((↑(List.length (St.stack s)) : Int)
  - (0 : Int)))) (St.stack s)) + (1 : Nat)) (List.take (Int.toNat (wr IntKind.i64 ((↑(List.length (St.stack s)) : Int) - (0 : Int)))) (St.stack s) ++ [Env.v10 v]) = St.stack z) ∧
  True)) ∧ ((Ins.n x == (↑((0 : Nat) + (1 : Nat) + (1 : Nat) + (1 : Nat) + (1 : Nat) + (1 : Nat) + (1 : Nat) + (1 : Nat) + (1 : Nat) + (1 : Nat) + (1 : Nat)) : Int)) = false →
  ((Ins.n x == (↑((0 : Nat) + (1 : Nat) + (1 : Nat) + (1 : Nat) + (1 : Nat) + (1 : Nat) + (1 : Nat) + (1 : Nat) + (1 : Nat) + (1 : Nat) + (1 : Nat) + (1 : Nat)) : Int)) = true → ∃ (Q
  : Bool → Prop), ((decide (Env.v11 v < (-9007199254740992 : Int)) = true → Q true) ∧ (decide (Env.v11 v < (-9007199254740992 : Int)) = false → (decide (Env.v11 v > (9007199254740992
  : Int)) = true → Q true) ∧ (decide (Env.v11 v > (9007199254740992 : Int)) = false → Q false))) ∧ (Q true → St.pc s = St.pc z ∧ wr IntKind.i64 (St.fuel s - (1 : Int)) = St.fuel z ∧
  (13 : Int) = St.status z ∧ St.clause s = St.clause z ∧ (St.stack s = St.stack z ∧ (false = true → false = true)) ∧ True) ∧ (Q false → ((0 : Int) ≤ wr IntKind.i64 ((↑(List.length
  (St.stack s)) : Int) - (0 : Int)) ∧ wr IntKind.i64 ((↑(List.length (St.stack s)) : Int) - (0 : Int)) = wr IntKind.i64 ((↑(List.length (St.stack s)) : Int) - (0 : Int)) ∧ wr
  IntKind.i64 ((↑(List.length (St.stack s)) : Int) - (0 : Int)) ≤ (↑(List.length (St.stack s)) : Int)) ∧ (List.length (List.take (Int.toNat (wr IntKind.i64 ((↑(List.length (St.stack
  s)) : Int) - (0 : Int)))) (St.stack s)) + (1 : Nat)) * (8 : Nat) ≤ (140737488355328 : Nat) ∧ wr IntKind.i64 (St.pc s + (1 : Int)) = St.pc z ∧ wr IntKind.i64 (St.fuel s - (1 : Int))
  = St.fuel z ∧ St.status s = St.status z ∧ St.clause s = St.clause z ∧ ((0 : Nat) + (List.length (List.take (Int.toNat (wr IntKind.i64 ((↑(List.length (St.stack s)) : Int) - (0 :
  Int)))) (St.stack s)) + (1 : Nat)) ≤ List.length (List.take (Int.toNat (wr IntKind.i64 ((↑(List.length (St.stack s)) : Int) - (0 : Int)))) (St.stack s) ++ [Env.v11 v]) ∧ List.take
  (List.length (List.take (Int.toNat (wr IntKind.i64 ((↑(List.length (St.stack s)) : Int) - (0 : Int)))) (St.stack s)) + (1 : Nat)) (List.take (Int.toNat (wr IntKind.i64
  ((↑(List.length (St.stack s)) : Int) - (0 : Int)))) (St.stack s) ++ [Env.v11 v]) = St.stack z) ∧ True)) ∧ ((Ins.n x == (↑((0 : Nat) + (1 : Nat) + (1 : Nat) + (1 : Nat) + (1 : Nat)
  + (1 : Nat) + (1 : Nat) + (1 : Nat) + (1 : Nat) + (1 : Nat) + (1 : Nat) + (1 : Nat)) : Int)) = false → ((Ins.n x == (↑((0 : Nat) + (1 : Nat) + (1 : Nat) + (1 : Nat) + (1 : Nat) +
  (1 : Nat) + (1 : Nat) + (1 : Nat) + (1 : Nat) + (1 : Nat) + (1 : Nat) + (1 : Nat) + (1 : Nat)) : Int)) = true → ∃ (Q : Bool → Prop), ((decide (Env.v12 v < (-9007199254740992 :
  Int)) = true → Q true) ∧ (decide (Env.v12 v < (-9007199254740992 : Int)) = false → (decide (Env.v12 v > (9007199254740992 : Int)) = true → Q true) ∧ (decide (Env.v12 v >
  (9007199254740992 : Int)) = false → Q false))) ∧ (Q true → St.pc s = St.pc z ∧ wr IntKind.i64 (St.fuel s - (1 : Int)) = St.fuel z ∧ (13 : Int) = St.status z ∧ St.clause s =
  St.clause z ∧ (St.stack s = St.stack z ∧ (false = true → false = true)) ∧ True) ∧ (Q false → ((0 : Int) ≤ wr IntKind.i64 ((↑(List.length (St.stack s)) : Int) - (0 : Int)) ∧ wr
  IntKind.i64 ((↑(List.length (St.stack s)) : Int) - (0 : Int)) = wr IntKind.i64 ((↑(List.length (St.stack s)) : Int) - (0 : Int)) ∧ wr IntKind.i64 ((↑(List.length (St.stack s)) :
  Int) - (0 : Int)) ≤ (↑(List.length (St.stack s)) : Int)) ∧ (List.length (List.take (Int.toNat (wr IntKind.i64 ((↑(List.length (St.stack s)) : Int) - (0 : Int)))) (St.stack s)) + (1
  : Nat)) * (8 : Nat) ≤ (140737488355328 : Nat) ∧ wr IntKind.i64 (St.pc s + (1 : Int)) = St.pc z ∧ wr IntKind.i64 (St.fuel s - (1 : Int)) = St.fuel z ∧ St.status s = St.status z ∧
  St.clause s = St.clause z ∧ ((0 : Nat) + (List.length (List.take (Int.toNat (wr IntKind.i64 ((↑(List.length (St.stack s)) : Int) - (0 : Int)))) (St.stack s)) + (1 : Nat)) ≤
  List.length (List.take (Int.toNat (wr IntKind.i64 ((↑(List.length (St.stack s)) : Int) - (0 : Int)))) (St.stack s) ++ [Env.v12 v]) ∧ List.take (List.length (List.take (Int.toNat
  (wr IntKind.i64 ((↑(List.length (St.stack s)) : Int) - (0 : Int)))) (St.stack s)) + (1 : Nat)) (List.take (Int.toNat (wr IntKind.i64 ((↑(List.length (St.stack s)) : Int) - (0 :
  Int)))) (St.stack s) ++ [Env.v12 v]) = St.stack z) ∧ True)) ∧ ((Ins.n x == (↑((0 : Nat) + (1 : Nat) + (1 : Nat) + (1 : Nat) + (1 : Nat) + (1 : Nat) + (1 : Nat) + (1 : Nat) + (1 :
  Nat) + (1 : Nat) + (1 : Nat) + (1 : Nat) + (1 : Nat)) : Int)) = false → ((Ins.n x == (↑((0 : Nat) + (1 : Nat) + (1 : Nat) + (1 : Nat) + (1 : Nat) + (1 : Nat) + (1 : Nat) + (1 :
  Nat) + (1 : Nat) + (1 : Nat) + (1 : Nat) + (1 : Nat) + (1 : Nat) + (1 : Nat)) : Int)) = true → ∃ (Q : Bool → Prop), ((decide (Env.v13 v < (-9007199254740992 : Int)) = true → Q
  true) ∧ (decide (Env.v13 v < (-9007199254740992 : Int)) = false → (decide (Env.v13 v > (9007199254740992 : Int)) = true → Q true) ∧ (decide (Env.v13 v > (9007199254740992 : Int)) =
  false → Q false))) ∧ (Q true → St.pc s = St.pc z ∧ wr IntKind.i64 (St.fuel s - (1 : Int)) = St.fuel z ∧ (13 : Int) = St.status z ∧ St.clause s = St.clause z ∧ (St.stack s =
  St.stack z ∧ (false = true → false = true)) ∧ True) ∧ (Q false → ((0 : Int) ≤ wr IntKind.i64 ((↑(List.length (St.stack s)) : Int) - (0 : Int)) ∧ wr IntKind.i64 ((↑(List.length
  (St.stack s)) : Int) - (0 : Int)) = wr IntKind.i64 ((↑(List.length (St.stack s)) : Int) - (0 : Int)) ∧ wr IntKind.i64 ((↑(List.length (St.stack s)) : Int) - (0 : Int)) ≤
  (↑(List.length (St.stack s)) : Int)) ∧ (List.length (List.take (Int.toNat (wr IntKind.i64 ((↑(List.length (St.stack s)) : Int) - (0 : Int)))) (St.stack s)) + (1 : Nat)) * (8 : Nat)
  ≤ (140737488355328 : Nat) ∧ wr IntKind.i64 (St.pc s + (1 : Int)) = St.pc z ∧ wr IntKind.i64 (St.fuel s - (1 : Int)) = St.fuel z ∧ St.status s = St.status z ∧ St.clause s =
  St.clause z ∧ ((0 : Nat) + (List.length (List.take (Int.toNat (wr IntKind.i64 ((↑(List.length (St.stack s)) : Int) - (0 : Int)))) (St.stack s)) + (1 : Nat)) ≤ List.length
  (List.take (Int.toNat (wr IntKind.i64 ((↑(List.length (St.stack s)) : Int) - (0 : Int)))) (St.stack s) ++ [Env.v13 v]) ∧ List.take (List.length (List.take (Int.toNat (wr
  IntKind.i64 ((↑(List.length (St.stack s)) : Int) - (0 : Int)))) (St.stack s)) + (1 : Nat)) (List.take (Int.toNat (wr IntKind.i64 ((↑(List.length (St.stack s)) : Int) - (0 : Int))))
  (St.stack s) ++ [Env.v13 v]) = St.stack z) ∧ True)) ∧ ((Ins.n x == (↑((0 : Nat) + (1 : Nat) + (1 : Nat) + (1 : Nat) + (1 : Nat) + (1 : Nat) + (1 : Nat) + (1 : Nat) + (1 : Nat) + (1
  : Nat) + (1 : Nat) + (1 : Nat) + (1 : Nat) + (1 : Nat)) : Int)) = false → ((Ins.n x == (↑((0 : Nat) + (1 : Nat) + (1 : Nat) + (1 : Nat) + (1 : Nat) + (1 : Nat) + (1 : Nat) + (1 :
  Nat) + (1 : Nat) + (1 : Nat) + (1 : Nat) + (1 : Nat) + (1 : Nat) + (1 : Nat) + (1 : Nat)) : Int)) = true → ∃ (Q : Bool → Prop), ((decide (Env.v14 v < (-9007199254740992 : Int)) =
  true → Q true) ∧ (decide (Env.v14 v < (-9007199254740992 : Int)) = false → (decide (Env.v14 v > (9007199254740992 : Int)) = true → Q true) ∧ (decide (Env.v14 v > (9007199254740992
  : Int)) = false → Q false))) ∧ (Q true → St.pc s = St.pc z ∧ wr IntKind.i64 (St.fuel s - (1 : Int)) = St.fuel z ∧ (13 : Int) = St.status z ∧ St.clause s = St.clause z ∧ (St.stack s
  = St.stack z ∧ (false = true → false = true)) ∧ True) ∧ (Q false → ((0 : Int) ≤ wr IntKind.i64 ((↑(List.length (St.stack s)) : Int) - (0 : Int)) ∧ wr IntKind.i64 ((↑(List.length
  (St.stack s)) : Int) - (0 : Int)) = wr IntKind.i64 ((↑(List.length (St.stack s)) : Int) - (0 : Int)) ∧ wr IntKind.i64 ((↑(List.length (St.stack s)) : Int) - (0 : Int)) ≤
  (↑(List.length (St.stack s)) : Int)) ∧ (List.length (List.take (Int.toNat (wr IntKind.i64 ((↑(List.length (St.stack s)) : Int) - (0 : Int)))) (St.stack s)) + (1 : Nat)) * (8 : Nat)
  ≤ (140737488355328 : Nat) ∧ wr IntKind.i64 (St.pc s + (1 : Int)) = St.pc z ∧ wr IntKind.i64 (St.fuel s - (1 : Int)) = St.fuel z ∧ St.status s = St.status z ∧ St.clause s =
  St.clause z ∧ ((0 : Nat) + (List.length (List.take (Int.toNat (wr IntKind.i64 ((↑(List.length (St.stack s)) : Int) - (0 : Int)))) (St.stack s)) + (1 : Nat)) ≤ List.length
  (List.take (Int.toNat (wr IntKind.i64 ((↑(List.length (St.stack s)) : Int) - (0 : Int)))) (St.stack s) ++ [Env.v14 v]) ∧ List.take (List.length (List.take (Int.toNat (wr
  IntKind.i64 ((↑(List.length (St.stack s)) : Int) - (0 : Int)))) (St.stack s)) + (1 : Nat)) (List.take (Int.toNat (wr IntKind.i64 ((↑(List.length (St.stack s)) : Int) - (0 : Int))))
  (St.stack s) ++ [Env.v14 v]) = St.stack z) ∧ True)) ∧ ((Ins.n x == (↑((0 : Nat) + (1 : Nat) + (1 : Nat) + (1 : Nat) + (1 : Nat) + (1 : Nat) + (1 : Nat) + (1 : Nat) + (1 : Nat) + (1
  : Nat) + (1 : Nat) + (1 : Nat) + (1 : Nat) + (1 : Nat) + (1 : Nat)) : Int)) = false → ((Ins.n x == (↑((0 : Nat) + (1 : Nat) + (1 : Nat) + (1 : Nat) + (1 : Nat) + (1 : Nat) + (1 :
  Nat) + (1 : Nat) + (1 : Nat) + (1 : Nat) + (1 : Nat) + (1 : Nat) + (1 : Nat) + (1 : Nat) + (1 : Nat) + (1 : Nat)) : Int)) = true → ∃ (Q : Bool → Prop), ((decide (Env.v15 v <
  (-9007199254740992 : Int)) = true → Q true) ∧ (decide (Env.v15 v < (-9007199254740992 : Int)) = false → (decide (Env.v15 v > (9007199254740992 : Int)) = true → Q true) ∧ (decide
  (Env.v15 v > (9007199254740992 : Int)) = false → Q false))) ∧ (Q true → St.pc s = St.pc z ∧ wr IntKind.i64 (St.fuel s - (1 : Int)) = St.fuel z ∧ (13 : Int) = St.status z ∧
  St.clause s = St.clause z ∧ (St.stack s = St.stack z ∧ (false = true → false = true)) ∧ True) ∧ (Q false → ((0 : Int) ≤ wr IntKind.i64 ((↑(List.length (St.stack s)) : Int) - (0 :
  Int)) ∧ wr IntKind.i64 ((↑(List.length (St.stack s)) : Int) - (0 : Int)) = wr IntKind.i64 ((↑(List.length (St.stack s)) : Int) - (0 : Int)) ∧ wr IntKind.i64 ((↑(List.length
  (St.stack s)) : Int) - (0 : Int)) ≤ (↑(List.length (St.stack s)) : Int)) ∧ (List.length (List.take (Int.toNat (wr IntKind.i64 ((↑(List.length (St.stack s)) : Int) - (0 : Int))))
  (St.stack s)) + (1 : Nat)) * (8 : Nat) ≤ (140737488355328 : Nat) ∧ wr IntKind.i64 (St.pc s + (1 : Int)) = St.pc z ∧ wr IntKind.i64 (St.fuel s - (1 : Int)) = St.fuel z ∧ St.status s
  = St.status z ∧ St.clause s = St.clause z ∧ ((0 : Nat) + (List.length (List.take (Int.toNat (wr IntKind.i64 ((↑(List.length (St.stack s)) : Int) - (0 : Int)))) (St.stack s)) + (1 :
  Nat)) ≤ List.length (List.take (Int.toNat (wr IntKind.i64 ((↑(List.length (St.stack s)) : Int) - (0 : Int)))) (St.stack s) ++ [Env.v15 v]) ∧ List.take (List.length (List.take
  (Int.toNat (wr IntKind.i64 ((↑(List.length (St.stack s)) : Int) - (0 : Int)))) (St.stack s)) + (1 : Nat)) (List.take (Int.toNat (wr IntKind.i64 ((↑(List.length (St.stack s)) : Int)
  - (0 : Int)))) (St.stack s) ++ [Env.v15 v]) = St.stack z) ∧ True)) ∧ ((Ins.n x == (↑((0 : Nat) + (1 : Nat) + (1 : Nat) + (1 : Nat) + (1 : Nat) + (1 : Nat) + (1 : Nat) + (1 : Nat) +
  (1 : Nat) + (1 : Nat) + (1 : Nat) + (1 : Nat) + (1 : Nat) + (1 : Nat) + (1 : Nat) + (1 : Nat)) : Int)) = false → True))))))))))))))))))) ∧ ((Ins.op x == (2 : Int)) = false →
  ((Ins.op x == (12 : Int)) = true → (0 : Int) ≤ wr IntKind.i64 (wr IntKind.i64 ((↑(List.length (St.stack s)) : Int) - (1 : Int)) - (0 : Int)) ∧ wr IntKind.i64 (wr IntKind.i64
  ((↑(List.length (St.stack s)) : Int) - (1 : Int)) - (0 : Int)) + (1 : Int) ≤ (↑(List.length (St.stack s)) : Int) ∧ ∀ (x_1 : Int), (St.stack s)[Int.toNat (wr IntKind.i64 (wr
  IntKind.i64 ((↑(List.length (St.stack s)) : Int) - (1 : Int)) - (0 : Int)))]? = some x_1 → (decide (Ins.n x ≤ x_1) = true → (0 : Int) ≤ wr IntKind.i64 (wr IntKind.i64
  ((↑(List.length (St.stack s)) : Int) - (1 : Int)) - (0 : Int)) ∧ wr IntKind.i64 (wr IntKind.i64 ((↑(List.length (St.stack s)) : Int) - (1 : Int)) - (0 : Int)) + (1 : Int) ≤
  (↑(List.length (St.stack s)) : Int) ∧ ∀ (x_2 : Int), (St.stack s)[Int.toNat (wr IntKind.i64 (wr IntKind.i64 ((↑(List.length (St.stack s)) : Int) - (1 : Int)) - (0 : Int)))]? = some
  x_2 → (decide (x_2 ≤ Ins.m x) = true → ((0 : Int) ≤ wr IntKind.i64 ((↑(List.length (St.stack s)) : Int) - (1 : Int)) ∧ wr IntKind.i64 ((↑(List.length (St.stack s)) : Int) - (1 :
  Int)) = wr IntKind.i64 ((↑(List.length (St.stack s)) : Int) - (1 : Int)) ∧ wr IntKind.i64 ((↑(List.length (St.stack s)) : Int) - (1 : Int)) ≤ (↑(List.length (St.stack s)) : Int)) ∧
  (List.length (List.take (Int.toNat (wr IntKind.i64 ((↑(List.length (St.stack s)) : Int) - (1 : Int)))) (St.stack s)) + (1 : Nat)) * (8 : Nat) ≤ (140737488355328 : Nat) ∧ wr
  IntKind.i64 (St.pc s + (1 : Int)) = St.pc z ∧ wr IntKind.i64 (St.fuel s - (1 : Int)) = St.fuel z ∧ St.status s = St.status z ∧ St.clause s = St.clause z ∧ ((0 : Nat) + (List.length
  (List.take (Int.toNat (wr IntKind.i64 ((↑(List.length (St.stack s)) : Int) - (1 : Int)))) (St.stack s)) + (1 : Nat)) ≤ List.length (List.take (Int.toNat (wr IntKind.i64
  ((↑(List.length (St.stack s)) : Int) - (1 : Int)))) (St.stack s) ++ [(1 : Int)]) ∧ List.take (List.length (List.take (Int.toNat (wr IntKind.i64 ((↑(List.length (St.stack s)) : Int)
  - (1 : Int)))) (St.stack s)) + (1 : Nat)) (List.take (Int.toNat (wr IntKind.i64 ((↑(List.length (St.stack s)) : Int) - (1 : Int)))) (St.stack s) ++ [(1 : Int)]) = St.stack z) ∧
  True) ∧ (decide (x_2 ≤ Ins.m x) = false → ((0 : Int) ≤ wr IntKind.i64 ((↑(List.length (St.stack s)) : Int) - (1 : Int)) ∧ wr IntKind.i64 ((↑(List.length (St.stack s)) : Int) - (1 :
  Int)) = wr IntKind.i64 ((↑(List.length (St.stack s)) : Int) - (1 : Int)) ∧ wr IntKind.i64 ((↑(List.length (St.stack s)) : Int) - (1 : Int)) ≤ (↑(List.length (St.stack s)) : Int)) ∧
  (List.length (List.take (Int.toNat (wr IntKind.i64 ((↑(List.length (St.stack s)) : Int) - (1 : Int)))) (St.stack s)) + (1 : Nat)) * (8 : Nat) ≤ (140737488355328 : Nat) ∧ wr
  IntKind.i64 (St.pc s + (1 : Int)) = St.pc z ∧ wr IntKind.i64 (St.fuel s - (1 : Int)) = St.fuel z ∧ St.status s = St.status z ∧ St.clause s = St.clause z ∧ ((0 : Nat) + (List.length
  (List.take (Int.toNat (wr IntKind.i64 ((↑(List.length (St.stack s)) : Int) - (1 : Int)))) (St.stack s)) + (1 : Nat)) ≤ List.length (List.take (Int.toNat (wr IntKind.i64
  ((↑(List.length (St.stack s)) : Int) - (1 : Int)))) (St.stack s) ++ [(0 : Int)]) ∧ List.take (List.length (List.take (Int.toNat (wr IntKind.i64 ((↑(List.length (St.stack s)) : Int)
  - (1 : Int)))) (St.stack s)) + (1 : Nat)) (List.take (Int.toNat (wr IntKind.i64 ((↑(List.length (St.stack s)) : Int) - (1 : Int)))) (St.stack s) ++ [(0 : Int)]) = St.stack z) ∧
  True)) ∧ (decide (Ins.n x ≤ x_1) = false → ((0 : Int) ≤ wr IntKind.i64 ((↑(List.length (St.stack s)) : Int) - (1 : Int)) ∧ wr IntKind.i64 ((↑(List.length (St.stack s)) : Int) - (1
  : Int)) = wr IntKind.i64 ((↑(List.length (St.stack s)) : Int) - (1 : Int)) ∧ wr IntKind.i64 ((↑(List.length (St.stack s)) : Int) - (1 : Int)) ≤ (↑(List.length (St.stack s)) : Int))
  ∧ (List.length (List.take (Int.toNat (wr IntKind.i64 ((↑(List.length (St.stack s)) : Int) - (1 : Int)))) (St.stack s)) + (1 : Nat)) * (8 : Nat) ≤ (140737488355328 : Nat) ∧ wr
  IntKind.i64 (St.pc s + (1 : Int)) = St.pc z ∧ wr IntKind.i64 (St.fuel s - (1 : Int)) = St.fuel z ∧ St.status s = St.status z ∧ St.clause s = St.clause z ∧ ((0 : Nat) + (List.length
  (List.take (Int.toNat (wr IntKind.i64 ((↑(List.length (St.stack s)) : Int) - (1 : Int)))) (St.stack s)) + (1 : Nat)) ≤ List.length (List.take (Int.toNat (wr IntKind.i64
  ((↑(List.length (St.stack s)) : Int) - (1 : Int)))) (St.stack s) ++ [(0 : Int)]) ∧ List.take (List.length (List.take (Int.toNat (wr IntKind.i64 ((↑(List.length (St.stack s)) : Int)
  - (1 : Int)))) (St.stack s)) + (1 : Nat)) (List.take (Int.toNat (wr IntKind.i64 ((↑(List.length (St.stack s)) : Int) - (1 : Int)))) (St.stack s) ++ [(0 : Int)]) = St.stack z) ∧
  True)) ∧ ((Ins.op x == (12 : Int)) = false → ((Ins.op x == (13 : Int)) = true → (0 : Int) ≤ wr IntKind.i64 (wr IntKind.i64 ((↑(List.length (St.stack s)) : Int) - (1 : Int)) - (0 :
  Int)) ∧ wr IntKind.i64 (wr IntKind.i64 ((↑(List.length (St.stack s)) : Int) - (1 : Int)) - (0 : Int)) + (1 : Int) ≤ (↑(List.length (St.stack s)) : Int) ∧ ∀ (x_1 : Int), (St.stack
  s)[Int.toNat (wr IntKind.i64 (wr IntKind.i64 ((↑(List.length (St.stack s)) : Int) - (1 : Int)) - (0 : Int)))]? = some x_1 → ((0 : Int) ≤ wr IntKind.i64 ((↑(List.length (St.stack
  s)) : Int) - (1 : Int)) ∧ wr IntKind.i64 ((↑(List.length (St.stack s)) : Int) - (1 : Int)) = wr IntKind.i64 ((↑(List.length (St.stack s)) : Int) - (1 : Int)) ∧ wr IntKind.i64
  ((↑(List.length (St.stack s)) : Int) - (1 : Int)) ≤ (↑(List.length (St.stack s)) : Int)) ∧ ((x_1 == (0 : Int)) = true → Ins.n x = St.pc z ∧ wr IntKind.i64 (St.fuel s - (1 : Int)) =
  St.fuel z ∧ St.status s = St.status z ∧ St.clause s = St.clause z ∧ (List.take (Int.toNat (wr IntKind.i64 ((↑(List.length (St.stack s)) : Int) - (1 : Int)))) (St.stack s) =
  St.stack z ∧ (false = true → true = true)) ∧ True) ∧ ((x_1 == (0 : Int)) = false → wr IntKind.i64 (St.pc s + (1 : Int)) = St.pc z ∧ wr IntKind.i64 (St.fuel s - (1 : Int)) = St.fuel
  z ∧ St.status s = St.status z ∧ St.clause s = St.clause z ∧ (List.take (Int.toNat (wr IntKind.i64 ((↑(List.length (St.stack s)) : Int) - (1 : Int)))) (St.stack s) = St.stack z ∧
  (false = true → true = true)) ∧ True)) ∧ ((Ins.op x == (13 : Int)) = false → ((Ins.op x == (14 : Int)) = true → Ins.n x = St.pc z ∧ wr IntKind.i64 (St.fuel s - (1 : Int)) = St.fuel
  z ∧ St.status s = St.status z ∧ St.clause s = St.clause z ∧ (St.stack s = St.stack z ∧ (false = true → false = true)) ∧ True) ∧ ((Ins.op x == (14 : Int)) = false → ((Ins.op x ==
  (15 : Int)) = true → St.pc s = St.pc z ∧ wr IntKind.i64 (St.fuel s - (1 : Int)) = St.fuel z ∧ (1 : Int) = St.status z ∧ Ins.n x = St.clause z ∧ (St.stack s = St.stack z ∧ (false =
  true → false = true)) ∧ True) ∧ ((Ins.op x == (15 : Int)) = false → ((Ins.op x == (16 : Int)) = true → St.pc s = St.pc z ∧ wr IntKind.i64 (St.fuel s - (1 : Int)) = St.fuel z ∧ (190
  : Int) = St.status z ∧ St.clause s = St.clause z ∧ (St.stack s = St.stack z ∧ (false = true → false = true)) ∧ True) ∧ ((Ins.op x == (16 : Int)) = false → ((Ins.op x == (↑(3 : Nat)
  : Int)) = true → (0 : Int) ≤ wr IntKind.i64 (wr IntKind.i64 ((↑(List.length (St.stack s)) : Int) - (1 : Int)) - (1 : Int)) ∧ wr IntKind.i64 (wr IntKind.i64 ((↑(List.length
  (St.stack s)) : Int) - (1 : Int)) - (1 : Int)) + (1 : Int) ≤ (↑(List.length (St.stack s)) : Int) ∧ ∀ (x : Int), (St.stack s)[Int.toNat (wr IntKind.i64 (wr IntKind.i64
  ((↑(List.length (St.stack s)) : Int) - (1 : Int)) - (1 : Int)))]? = some x → (0 : Int) ≤ wr IntKind.i64 (wr IntKind.i64 ((↑(List.length (St.stack s)) : Int) - (1 : Int)) - (0 :
  Int)) ∧ wr IntKind.i64 (wr IntKind.i64 ((↑(List.length (St.stack s)) : Int) - (1 : Int)) - (0 : Int)) + (1 : Int) ≤ (↑(List.length (St.stack s)) : Int) ∧ ∀ (x_1 : Int), (St.stack
  s)[Int.toNat (wr IntKind.i64 (wr IntKind.i64 ((↑(List.length (St.stack s)) : Int) - (1 : Int)) - (0 : Int)))]? = some x_1 → True ∧ ((Prod.snd (addF x x_1) != (0 : Int)) = true →
  ((Prod.snd (addF x x_1) != (0 : Int)) = true → St.pc s = St.pc z ∧ wr IntKind.i64 (St.fuel s - (1 : Int)) = St.fuel z ∧ wr IntKind.i64 ((10 : Int) + Prod.snd (addF x x_1)) =
  St.status z ∧ St.clause s = St.clause z ∧ (St.stack s = St.stack z ∧ (false = true → false = true)) ∧ True) ∧ ((Prod.snd (addF x x_1) != (0 : Int)) = false → St.pc s = St.pc z ∧ wr
  IntKind.i64 (St.fuel s - (1 : Int)) = St.fuel z ∧ St.status s = St.status z ∧ St.clause s = St.clause z ∧ (St.stack s = St.stack z ∧ (false = true → false = true)) ∧ True)) ∧
  ((Prod.snd (addF x x_1) != (0 : Int)) = false → ((0 : Int) ≤ wr IntKind.i64 ((↑(List.length (St.stack s)) : Int) - (2 : Int)) ∧ wr IntKind.i64 ((↑(List.length (St.stack s)) : Int)
  - (2 : Int)) = wr IntKind.i64 ((↑(List.length (St.stack s)) : Int) - (2 : Int)) ∧ wr IntKind.i64 ((↑(List.length (St.stack s)) : Int) - (2 : Int)) ≤ (↑(List.length (St.stack s)) :
  Int)) ∧ (List.length (List.take (Int.toNat (wr IntKind.i64 ((↑(List.length (St.stack s)) : Int) - (2 : Int)))) (St.stack s)) + (1 : Nat)) * (8 : Nat) ≤ (140737488355328 : Nat) ∧ wr
  IntKind.i64 (St.pc s + (1 : Int)) = St.pc z ∧ wr IntKind.i64 (St.fuel s - (1 : Int)) = St.fuel z ∧ St.status s = St.status z ∧ St.clause s = St.clause z ∧ ((0 : Nat) + (List.length
  (List.take (Int.toNat (wr IntKind.i64 ((↑(List.length (St.stack s)) : Int) - (2 : Int)))) (St.stack s)) + (1 : Nat)) ≤ List.length (List.take (Int.toNat (wr IntKind.i64
  ((↑(List.length (St.stack s)) : Int) - (2 : Int)))) (St.stack s) ++ [Prod.fst (addF x x_1)]) ∧ List.take (List.length (List.take (Int.toNat (wr IntKind.i64 ((↑(List.length
  (St.stack s)) : Int) - (2 : Int)))) (St.stack s)) + (1 : Nat)) (List.take (Int.toNat (wr IntKind.i64 ((↑(List.length (St.stack s)) : Int) - (2 : Int)))) (St.stack s) ++ [Prod.fst
  (addF x x_1)]) = St.stack z) ∧ True)) ∧ ((Ins.op x == (↑(3 : Nat) : Int)) = false → ((Ins.op x == (↑(4 : Nat) : Int)) = true → (0 : Int) ≤ wr IntKind.i64 (wr IntKind.i64
  ((↑(List.length (St.stack s)) : Int) - (1 : Int)) - (1 : Int)) ∧ wr IntKind.i64 (wr IntKind.i64 ((↑(List.length (St.stack s)) : Int) - (1 : Int)) - (1 : Int)) + (1 : Int) ≤
  (↑(List.length (St.stack s)) : Int) ∧ ∀ (x : Int), (St.stack s)[Int.toNat (wr IntKind.i64 (wr IntKind.i64 ((↑(List.length (St.stack s)) : Int) - (1 : Int)) - (1 : Int)))]? = some x
  → (0 : Int) ≤ wr IntKind.i64 (wr IntKind.i64 ((↑(List.length (St.stack s)) : Int) - (1 : Int)) - (0 : Int)) ∧ wr IntKind.i64 (wr IntKind.i64 ((↑(List.length (St.stack s)) : Int) -
  (1 : Int)) - (0 : Int)) + (1 : Int) ≤ (↑(List.length (St.stack s)) : Int) ∧ ∀ (x_1 : Int), (St.stack s)[Int.toNat (wr IntKind.i64 (wr IntKind.i64 ((↑(List.length (St.stack s)) :
  Int) - (1 : Int)) - (0 : Int)))]? = some x_1 → True ∧ ((Prod.snd (subF x x_1) != (0 : Int)) = true → ((Prod.snd (subF x x_1) != (0 : Int)) = true → St.pc s = St.pc z ∧ wr
  IntKind.i64 (St.fuel s - (1 : Int)) = St.fuel z ∧ wr IntKind.i64 ((10 : Int) + Prod.snd (subF x x_1)) = St.status z ∧ St.clause s = St.clause z ∧ (St.stack s = St.stack z ∧ (false
  = true → false = true)) ∧ True) ∧ ((Prod.snd (subF x x_1) != (0 : Int)) = false → St.pc s = St.pc z ∧ wr IntKind.i64 (St.fuel s - (1 : Int)) = St.fuel z ∧ St.status s = St.status z
  ∧ St.clause s = St.clause z ∧ (St.stack s = St.stack z ∧ (false = true → false = true)) ∧ True)) ∧ ((Prod.snd (subF x x_1) != (0 : Int)) = false → ((0 : Int) ≤ wr IntKind.i64
  ((↑(List.length (St.stack s)) : Int) - (2 : Int)) ∧ wr IntKind.i64 ((↑(List.length (St.stack s)) : Int) - (2 : Int)) = wr IntKind.i64 ((↑(List.length (St.stack s)) : Int) - (2 :
  Int)) ∧ wr IntKind.i64 ((↑(List.length (St.stack s)) : Int) - (2 : Int)) ≤ (↑(List.length (St.stack s)) : Int)) ∧ (List.length (List.take (Int.toNat (wr IntKind.i64 ((↑(List.length
  (St.stack s)) : Int) - (2 : Int)))) (St.stack s)) + (1 : Nat)) * (8 : Nat) ≤ (140737488355328 : Nat) ∧ wr IntKind.i64 (St.pc s + (1 : Int)) = St.pc z ∧ wr IntKind.i64 (St.fuel s -
  (1 : Int)) = St.fuel z ∧ St.status s = St.status z ∧ St.clause s = St.clause z ∧ ((0 : Nat) + (List.length (List.take (Int.toNat (wr IntKind.i64 ((↑(List.length (St.stack s)) :
  Int) - (2 : Int)))) (St.stack s)) + (1 : Nat)) ≤ List.length (List.take (Int.toNat (wr IntKind.i64 ((↑(List.length (St.stack s)) : Int) - (2 : Int)))) (St.stack s) ++ [Prod.fst
  (subF x x_1)]) ∧ List.take (List.length (List.take (Int.toNat (wr IntKind.i64 ((↑(List.length (St.stack s)) : Int) - (2 : Int)))) (St.stack s)) + (1 : Nat)) (List.take (Int.toNat
  (wr IntKind.i64 ((↑(List.length (St.stack s)) : Int) - (2 : Int)))) (St.stack s) ++ [Prod.fst (subF x x_1)]) = St.stack z) ∧ True)) ∧ ((Ins.op x == (↑(4 : Nat) : Int)) = false →
  ((Ins.op x == (↑(5 : Nat) : Int)) = true → (0 : Int) ≤ wr IntKind.i64 (wr IntKind.i64 ((↑(List.length (St.stack s)) : Int) - (1 : Int)) - (1 : Int)) ∧ wr IntKind.i64 (wr
  IntKind.i64 ((↑(List.length (St.stack s)) : Int) - (1 : Int)) - (1 : Int)) + (1 : Int) ≤ (↑(List.length (St.stack s)) : Int) ∧ ∀ (x : Int), (St.stack s)[Int.toNat (wr IntKind.i64
  (wr IntKind.i64 ((↑(List.length (St.stack s)) : Int) - (1 : Int)) - (1 : Int)))]? = some x → (0 : Int) ≤ wr IntKind.i64 (wr IntKind.i64 ((↑(List.length (St.stack s)) : Int) - (1 :
  Int)) - (0 : Int)) ∧ wr IntKind.i64 (wr IntKind.i64 ((↑(List.length (St.stack s)) : Int) - (1 : Int)) - (0 : Int)) + (1 : Int) ≤ (↑(List.length (St.stack s)) : Int) ∧ ∀ (x_1 :
  Int), (St.stack s)[Int.toNat (wr IntKind.i64 (wr IntKind.i64 ((↑(List.length (St.stack s)) : Int) - (1 : Int)) - (0 : Int)))]? = some x_1 → True ∧ ((Prod.snd (mulF x x_1) != (0 :
  Int)) = true → ((Prod.snd (mulF x x_1) != (0 : Int)) = true → St.pc s = St.pc z ∧ wr IntKind.i64 (St.fuel s - (1 : Int)) = St.fuel z ∧ wr IntKind.i64 ((10 : Int) + Prod.snd (mulF x
  x_1)) = St.status z ∧ St.clause s = St.clause z ∧ (St.stack s = St.stack z ∧ (false = true → false = true)) ∧ True) ∧ ((Prod.snd (mulF x x_1) != (0 : Int)) = false → St.pc s =
  St.pc z ∧ wr IntKind.i64 (St.fuel s - (1 : Int)) = St.fuel z ∧ St.status s = St.status z ∧ St.clause s = St.clause z ∧ (St.stack s = St.stack z ∧ (false = true → false = true)) ∧
  True)) ∧ ((Prod.snd (mulF x x_1) != (0 : Int)) = false → ((0 : Int) ≤ wr IntKind.i64 ((↑(List.length (St.stack s)) : Int) - (2 : Int)) ∧ wr IntKind.i64 ((↑(List.length (St.stack
  s)) : Int) - (2 : Int)) = wr IntKind.i64 ((↑(List.length (St.stack s)) : Int) - (2 : Int)) ∧ wr IntKind.i64 ((↑(List.length (St.stack s)) : Int) - (2 : Int)) ≤ (↑(List.length
  (St.stack s)) : Int)) ∧ (List.length (List.take (Int.toNat (wr IntKind.i64 ((↑(List.length (St.stack s)) : Int) - (2 : Int)))) (St.stack s)) + (1 : Nat)) * (8 : Nat) ≤
  (140737488355328 : Nat) ∧ wr IntKind.i64 (St.pc s + (1 : Int)) = St.pc z ∧ wr IntKind.i64 (St.fuel s - (1 : Int)) = St.fuel z ∧ St.status s = St.status z ∧ St.clause s = St.clause
  z ∧ ((0 : Nat) + (List.length (List.take (Int.toNat (wr IntKind.i64 ((↑(List.length (St.stack s)) : Int) - (2 : Int)))) (St.stack s)) + (1 : Nat)) ≤ List.length (List.take
  (Int.toNat (wr IntKind.i64 ((↑(List.length (St.stack s)) : Int) - (2 : Int)))) (St.stack s) ++ [Prod.fst (mulF x x_1)]) ∧ List.take (List.length (List.take (Int.toNat (wr
  IntKind.i64 ((↑(List.length (St.stack s)) : Int) - (2 : Int)))) (St.stack s)) + (1 : Nat)) (List.take (Int.toNat (wr IntKind.i64 ((↑(List.length (St.stack s)) : Int) - (2 : Int))))
  (St.stack s) ++ [Prod.fst (mulF x x_1)]) = St.stack z) ∧ True)) ∧ ((Ins.op x == (↑(5 : Nat) : Int)) = false → ((Ins.op x == (↑(6 : Nat) : Int)) = true → (0 : Int) ≤ wr IntKind.i64
  (wr IntKind.i64 ((↑(List.length (St.stack s)) : Int) - (1 : Int)) - (1 : Int)) ∧ wr IntKind.i64 (wr IntKind.i64 ((↑(List.length (St.stack s)) : Int) - (1 : Int)) - (1 : Int)) + (1
  : Int) ≤ (↑(List.length (St.stack s)) : Int) ∧ ∀ (x : Int), (St.stack s)[Int.toNat (wr IntKind.i64 (wr IntKind.i64 ((↑(List.length (St.stack s)) : Int) - (1 : Int)) - (1 : Int)))]?
  = some x → (0 : Int) ≤ wr IntKind.i64 (wr IntKind.i64 ((↑(List.length (St.stack s)) : Int) - (1 : Int)) - (0 : Int)) ∧ wr IntKind.i64 (wr IntKind.i64 ((↑(List.length (St.stack s))
  : Int) - (1 : Int)) - (0 : Int)) + (1 : Int) ≤ (↑(List.length (St.stack s)) : Int) ∧ ∀ (x_1 : Int), (St.stack s)[Int.toNat (wr IntKind.i64 (wr IntKind.i64 ((↑(List.length (St.stack
  s)) : Int) - (1 : Int)) - (0 : Int)))]? = some x_1 → ((0 : Int) ≤ wr IntKind.i64 ((↑(List.length (St.stack s)) : Int) - (2 : Int)) ∧ wr IntKind.i64 ((↑(List.length (St.stack s)) :
  Int) - (2 : Int)) = wr IntKind.i64 ((↑(List.length (St.stack s)) : Int) - (2 : Int)) ∧ wr IntKind.i64 ((↑(List.length (St.stack s)) : Int) - (2 : Int)) ≤ (↑(List.length (St.stack
  s)) : Int)) ∧ (List.length (List.take (Int.toNat (wr IntKind.i64 ((↑(List.length (St.stack s)) : Int) - (2 : Int)))) (St.stack s)) + (1 : Nat)) * (8 : Nat) ≤ (140737488355328 :
  Nat) ∧ wr IntKind.i64 (St.pc s + (1 : Int)) = St.pc z ∧ wr IntKind.i64 (St.fuel s - (1 : Int)) = St.fuel z ∧ St.status s = St.status z ∧ St.clause s = St.clause z ∧ ((0 : Nat) +
  (List.length (List.take (Int.toNat (wr IntKind.i64 ((↑(List.length (St.stack s)) : Int) - (2 : Int)))) (St.stack s)) + (1 : Nat)) ≤ List.length (List.take (Int.toNat (wr
  IntKind.i64 ((↑(List.length (St.stack s)) : Int) - (2 : Int)))) (St.stack s) ++ [mm2 false x x_1]) ∧ List.take (List.length (List.take (Int.toNat (wr IntKind.i64 ((↑(List.length
  (St.stack s)) : Int) - (2 : Int)))) (St.stack s)) + (1 : Nat)) (List.take (Int.toNat (wr IntKind.i64 ((↑(List.length (St.stack s)) : Int) - (2 : Int)))) (St.stack s) ++ [mm2 false
  x x_1]) = St.stack z) ∧ True) ∧ ((Ins.op x == (↑(6 : Nat) : Int)) = false → ((Ins.op x == (↑(7 : Nat) : Int)) = true → (0 : Int) ≤ wr IntKind.i64 (wr IntKind.i64 ((↑(List.length
  (St.stack s)) : Int) - (1 : Int)) - (1 : Int)) ∧ wr IntKind.i64 (wr IntKind.i64 ((↑(List.length (St.stack s)) : Int) - (1 : Int)) - (1 : Int)) + (1 : Int) ≤ (↑(List.length
  (St.stack s)) : Int) ∧ ∀ (x : Int), (St.stack s)[Int.toNat (wr IntKind.i64 (wr IntKind.i64 ((↑(List.length (St.stack s)) : Int) - (1 : Int)) - (1 : Int)))]? = some x → (0 : Int) ≤
  wr IntKind.i64 (wr IntKind.i64 ((↑(List.length (St.stack s)) : Int) - (1 : Int)) - (0 : Int)) ∧ wr IntKind.i64 (wr IntKind.i64 ((↑(List.length (St.stack s)) : Int) - (1 : Int)) -
  (0 : Int)) + (1 : Int) ≤ (↑(List.length (St.stack s)) : Int) ∧ ∀ (x_1 : Int), (St.stack s)[Int.toNat (wr IntKind.i64 (wr IntKind.i64 ((↑(List.length (St.stack s)) : Int) - (1 :
  Int)) - (0 : Int)))]? = some x_1 → ((0 : Int) ≤ wr IntKind.i64 ((↑(List.length (St.stack s)) : Int) - (2 : Int)) ∧ wr IntKind.i64 ((↑(List.length (St.stack s)) : Int) - (2 : Int))
  = wr IntKind.i64 ((↑(List.length (St.stack s)) : Int) - (2 : Int)) ∧ wr IntKind.i64 ((↑(List.length (St.stack s)) : Int) - (2 : Int)) ≤ (↑(List.length (St.stack s)) : Int)) ∧
  (List.length (List.take (Int.toNat (wr IntKind.i64 ((↑(List.length (St.stack s)) : Int) - (2 : Int)))) (St.stack s)) + (1 : Nat)) * (8 : Nat) ≤ (140737488355328 : Nat) ∧ wr
  IntKind.i64 (St.pc s + (1 : Int)) = St.pc z ∧ wr IntKind.i64 (St.fuel s - (1 : Int)) = St.fuel z ∧ St.status s = St.status z ∧ St.clause s = St.clause z ∧ ((0 : Nat) + (List.length
  (List.take (Int.toNat (wr IntKind.i64 ((↑(List.length (St.stack s)) : Int) - (2 : Int)))) (St.stack s)) + (1 : Nat)) ≤ List.length (List.take (Int.toNat (wr IntKind.i64
  ((↑(List.length (St.stack s)) : Int) - (2 : Int)))) (St.stack s) ++ [mm2 true x x_1]) ∧ List.take (List.length (List.take (Int.toNat (wr IntKind.i64 ((↑(List.length (St.stack s)) :
  Int) - (2 : Int)))) (St.stack s)) + (1 : Nat)) (List.take (Int.toNat (wr IntKind.i64 ((↑(List.length (St.stack s)) : Int) - (2 : Int)))) (St.stack s) ++ [mm2 true x x_1]) =
  St.stack z) ∧ True) ∧ ((Ins.op x == (↑(7 : Nat) : Int)) = false → ((Ins.op x == (↑(8 : Nat) : Int)) = true → (0 : Int) ≤ wr IntKind.i64 (wr IntKind.i64 ((↑(List.length (St.stack
  s)) : Int) - (1 : Int)) - (1 : Int)) ∧ wr IntKind.i64 (wr IntKind.i64 ((↑(List.length (St.stack s)) : Int) - (1 : Int)) - (1 : Int)) + (1 : Int) ≤ (↑(List.length (St.stack s)) :
  Int) ∧ ∀ (x : Int), (St.stack s)[Int.toNat (wr IntKind.i64 (wr IntKind.i64 ((↑(List.length (St.stack s)) : Int) - (1 : Int)) - (1 : Int)))]? = some x → (0 : Int) ≤ wr IntKind.i64
  (wr IntKind.i64 ((↑(List.length (St.stack s)) : Int) - (1 : Int)) - (0 : Int)) ∧ wr IntKind.i64 (wr IntKind.i64 ((↑(List.length (St.stack s)) : Int) - (1 : Int)) - (0 : Int)) + (1
  : Int) ≤ (↑(List.length (St.stack s)) : Int) ∧ ∀ (x_1 : Int), (St.stack s)[Int.toNat (wr IntKind.i64 (wr IntKind.i64 ((↑(List.length (St.stack s)) : Int) - (1 : Int)) - (0 :
  Int)))]? = some x_1 → True ∧ ((Prod.snd (divF x x_1 (8 : Int)) != (0 : Int)) = true → ((Prod.snd (divF x x_1 (8 : Int)) != (0 : Int)) = true → St.pc s = St.pc z ∧ wr IntKind.i64
  (St.fuel s - (1 : Int)) = St.fuel z ∧ wr IntKind.i64 ((10 : Int) + Prod.snd (divF x x_1 (8 : Int))) = St.status z ∧ St.clause s = St.clause z ∧ (St.stack s = St.stack z ∧ (false =
  true → false = true)) ∧ True) ∧ ((Prod.snd (divF x x_1 (8 : Int)) != (0 : Int)) = false → St.pc s = St.pc z ∧ wr IntKind.i64 (St.fuel s - (1 : Int)) = St.fuel z ∧ St.status s =
  St.status z ∧ St.clause s = St.clause z ∧ (St.stack s = St.stack z ∧ (false = true → false = true)) ∧ True)) ∧ ((Prod.snd (divF x x_1 (8 : Int)) != (0 : Int)) = false → ((0 : Int)
  ≤ wr IntKind.i64 ((↑(List.length (St.stack s)) : Int) - (2 : Int)) ∧ wr IntKind.i64 ((↑(List.length (St.stack s)) : Int) - (2 : Int)) = wr IntKind.i64 ((↑(List.length (St.stack s))
  : Int) - (2 : Int)) ∧ wr IntKind.i64 ((↑(List.length (St.stack s)) : Int) - (2 : Int)) ≤ (↑(List.length (St.stack s)) : Int)) ∧ (List.length (List.take (Int.toNat (wr IntKind.i64
  ((↑(List.length (St.stack s)) : Int) - (2 : Int)))) (St.stack s)) + (1 : Nat)) * (8 : Nat) ≤ (140737488355328 : Nat) ∧ wr IntKind.i64 (St.pc s + (1 : Int)) = St.pc z ∧ wr
  IntKind.i64 (St.fuel s - (1 : Int)) = St.fuel z ∧ St.status s = St.status z ∧ St.clause s = St.clause z ∧ ((0 : Nat) + (List.length (List.take (Int.toNat (wr IntKind.i64
  ((↑(List.length (St.stack s)) : Int) - (2 : Int)))) (St.stack s)) + (1 : Nat)) ≤ List.length (List.take (Int.toNat (wr IntKind.i64 ((↑(List.length (St.stack s)) : Int) - (2 :
  Int)))) (St.stack s) ++ [Prod.fst (divF x x_1 (8 : Int))]) ∧ List.take (List.length (List.take (Int.toNat (wr IntKind.i64 ((↑(List.length (St.stack s)) : Int) - (2 : Int))))
  (St.stack s)) + (1 : Nat)) (List.take (Int.toNat (wr IntKind.i64 ((↑(List.length (St.stack s)) : Int) - (2 : Int)))) (St.stack s) ++ [Prod.fst (divF x x_1 (8 : Int))]) = St.stack
  z) ∧ True)) ∧ ((Ins.op x == (↑(8 : Nat) : Int)) = false → ((Ins.op x == (↑(9 : Nat) : Int)) = true → (0 : Int) ≤ wr IntKind.i64 (wr IntKind.i64 ((↑(List.length (St.stack s)) : Int)
  - (1 : Int)) - (1 : Int)) ∧ wr IntKind.i64 (wr IntKind.i64 ((↑(List.length (St.stack s)) : Int) - (1 : Int)) - (1 : Int)) + (1 : Int) ≤ (↑(List.length (St.stack s)) : Int) ∧ ∀ (x :
  Int), (St.stack s)[Int.toNat (wr IntKind.i64 (wr IntKind.i64 ((↑(List.length (St.stack s)) : Int) - (1 : Int)) - (1 : Int)))]? = some x → (0 : Int) ≤ wr IntKind.i64 (wr IntKind.i64
  ((↑(List.length (St.stack s)) : Int) - (1 : Int)) - (0 : Int)) ∧ wr IntKind.i64 (wr IntKind.i64 ((↑(List.length (St.stack s)) : Int) - (1 : Int)) - (0 : Int)) + (1 : Int) ≤
  (↑(List.length (St.stack s)) : Int) ∧ ∀ (x_1 : Int), (St.stack s)[Int.toNat (wr IntKind.i64 (wr IntKind.i64 ((↑(List.length (St.stack s)) : Int) - (1 : Int)) - (0 : Int)))]? = some
  x_1 → True ∧ ((Prod.snd (divF x x_1 (9 : Int)) != (0 : Int)) = true → ((Prod.snd (divF x x_1 (9 : Int)) != (0 : Int)) = true → St.pc s = St.pc z ∧ wr IntKind.i64 (St.fuel s - (1 :
  Int)) = St.fuel z ∧ wr IntKind.i64 ((10 : Int) + Prod.snd (divF x x_1 (9 : Int))) = St.status z ∧ St.clause s = St.clause z ∧ (St.stack s = St.stack z ∧ (false = true → false =
  true)) ∧ True) ∧ ((Prod.snd (divF x x_1 (9 : Int)) != (0 : Int)) = false → St.pc s = St.pc z ∧ wr IntKind.i64 (St.fuel s - (1 : Int)) = St.fuel z ∧ St.status s = St.status z ∧
  St.clause s = St.clause z ∧ (St.stack s = St.stack z ∧ (false = true → false = true)) ∧ True)) ∧ ((Prod.snd (divF x x_1 (9 : Int)) != (0 : Int)) = false → ((0 : Int) ≤ wr
  IntKind.i64 ((↑(List.length (St.stack s)) : Int) - (2 : Int)) ∧ wr IntKind.i64 ((↑(List.length (St.stack s)) : Int) - (2 : Int)) = wr IntKind.i64 ((↑(List.length (St.stack s)) :
  Int) - (2 : Int)) ∧ wr IntKind.i64 ((↑(List.length (St.stack s)) : Int) - (2 : Int)) ≤ (↑(List.length (St.stack s)) : Int)) ∧ (List.length (List.take (Int.toNat (wr IntKind.i64
  ((↑(List.length (St.stack s)) : Int) - (2 : Int)))) (St.stack s)) + (1 : Nat)) * (8 : Nat) ≤ (140737488355328 : Nat) ∧ wr IntKind.i64 (St.pc s + (1 : Int)) = St.pc z ∧ wr
  IntKind.i64 (St.fuel s - (1 : Int)) = St.fuel z ∧ St.status s = St.status z ∧ St.clause s = St.clause z ∧ ((0 : Nat) + (List.length (List.take (Int.toNat (wr IntKind.i64
  ((↑(List.length (St.stack s)) : Int) - (2 : Int)))) (St.stack s)) + (1 : Nat)) ≤ List.length (List.take (Int.toNat (wr IntKind.i64 ((↑(List.length (St.stack s)) : Int) - (2 :
  Int)))) (St.stack s) ++ [Prod.fst (divF x x_1 (9 : Int))]) ∧ List.take (List.length (List.take (Int.toNat (wr IntKind.i64 ((↑(List.length (St.stack s)) : Int) - (2 : Int))))
  (St.stack s)) + (1 : Nat)) (List.take (Int.toNat (wr IntKind.i64 ((↑(List.length (St.stack s)) : Int) - (2 : Int)))) (St.stack s) ++ [Prod.fst (divF x x_1 (9 : Int))]) = St.stack
  z) ∧ True)) ∧ ((Ins.op x == (↑(9 : Nat) : Int)) = false → ((Ins.op x == (↑(10 : Nat) : Int)) = true → (0 : Int) ≤ wr IntKind.i64 (wr IntKind.i64 ((↑(List.length (St.stack s)) :
  Int) - (1 : Int)) - (1 : Int)) ∧ wr IntKind.i64 (wr IntKind.i64 ((↑(List.length (St.stack s)) : Int) - (1 : Int)) - (1 : Int)) + (1 : Int) ≤ (↑(List.length (St.stack s)) : Int) ∧ ∀
  (x : Int), (St.stack s)[Int.toNat (wr IntKind.i64 (wr IntKind.i64 ((↑(List.length (St.stack s)) : Int) - (1 : Int)) - (1 : Int)))]? = some x → (0 : Int) ≤ wr IntKind.i64 (wr
  IntKind.i64 ((↑(List.length (St.stack s)) : Int) - (1 : Int)) - (0 : Int)) ∧ wr IntKind.i64 (wr IntKind.i64 ((↑(List.length (St.stack s)) : Int) - (1 : Int)) - (0 : Int)) + (1 :
  Int) ≤ (↑(List.length (St.stack s)) : Int) ∧ ∀ (x_1 : Int), (St.stack s)[Int.toNat (wr IntKind.i64 (wr IntKind.i64 ((↑(List.length (St.stack s)) : Int) - (1 : Int)) - (0 : Int)))]?
  = some x_1 → True ∧ ((Prod.snd (divF x x_1 (10 : Int)) != (0 : Int)) = true → ((Prod.snd (divF x x_1 (10 : Int)) != (0 : Int)) = true → St.pc s = St.pc z ∧ wr IntKind.i64 (St.fuel
  s - (1 : Int)) = St.fuel z ∧ wr IntKind.i64 ((10 : Int) + Prod.snd (divF x x_1 (10 : Int))) = St.status z ∧ St.clause s = St.clause z ∧ (St.stack s = St.stack z ∧ (false = true →
  false = true)) ∧ True) ∧ ((Prod.snd (divF x x_1 (10 : Int)) != (0 : Int)) = false → St.pc s = St.pc z ∧ wr IntKind.i64 (St.fuel s - (1 : Int)) = St.fuel z ∧ St.status s = St.status
  z ∧ St.clause s = St.clause z ∧ (St.stack s = St.stack z ∧ (false = true → false = true)) ∧ True)) ∧ ((Prod.snd (divF x x_1 (10 : Int)) != (0 : Int)) = false → ((0 : Int) ≤ wr
  IntKind.i64 ((↑(List.length (St.stack s)) : Int) - (2 : Int)) ∧ wr IntKind.i64 ((↑(List.length (St.stack s)) : Int) - (2 : Int)) = wr IntKind.i64 ((↑(List.length (St.stack s)) :
  Int) - (2 : Int)) ∧ wr IntKind.i64 ((↑(List.length (St.stack s)) : Int) - (2 : Int)) ≤ (↑(List.length (St.stack s)) : Int)) ∧ (List.length (List.take (Int.toNat (wr IntKind.i64
  ((↑(List.length (St.stack s)) : Int) - (2 : Int)))) (St.stack s)) + (1 : Nat)) * (8 : Nat) ≤ (140737488355328 : Nat) ∧ wr IntKind.i64 (St.pc s + (1 : Int)) = St.pc z ∧ wr
  IntKind.i64 (St.fuel s - (1 : Int)) = St.fuel z ∧ St.status s = St.status z ∧ St.clause s = St.clause z ∧ ((0 : Nat) + (List.length (List.take (Int.toNat (wr IntKind.i64
  ((↑(List.length (St.stack s)) : Int) - (2 : Int)))) (St.stack s)) + (1 : Nat)) ≤ List.length (List.take (Int.toNat (wr IntKind.i64 ((↑(List.length (St.stack s)) : Int) - (2 :
  Int)))) (St.stack s) ++ [Prod.fst (divF x x_1 (10 : Int))]) ∧ List.take (List.length (List.take (Int.toNat (wr IntKind.i64 ((↑(List.length (St.stack s)) : Int) - (2 : Int))))
  (St.stack s)) + (1 : Nat)) (List.take (Int.toNat (wr IntKind.i64 ((↑(List.length (St.stack s)) : Int) - (2 : Int)))) (St.stack s) ++ [Prod.fst (divF x x_1 (10 : Int))]) = St.stack
  z) ∧ True)) ∧ ((Ins.op x == (↑(10 : Nat) : Int)) = false → ((Ins.op x == (↑(11 : Nat) : Int)) = true → (0 : Int) ≤ wr IntKind.i64 (wr IntKind.i64 ((↑(List.length (St.stack s)) :
  Int) - (1 : Int)) - (1 : Int)) ∧ wr IntKind.i64 (wr IntKind.i64 ((↑(List.length (St.stack s)) : Int) - (1 : Int)) - (1 : Int)) + (1 : Int) ≤ (↑(List.length (St.stack s)) : Int) ∧ ∀
  (x : Int), (St.stack s)[Int.toNat (wr IntKind.i64 (wr IntKind.i64 ((↑(List.length (St.stack s)) : Int) - (1 : Int)) - (1 : Int)))]? = some x → (0 : Int) ≤ wr IntKind.i64 (wr
  IntKind.i64 ((↑(List.length (St.stack s)) : Int) - (1 : Int)) - (0 : Int)) ∧ wr IntKind.i64 (wr IntKind.i64 ((↑(List.length (St.stack s)) : Int) - (1 : Int)) - (0 : Int)) + (1 :
  Int) ≤ (↑(List.length (St.stack s)) : Int) ∧ ∀ (x_1 : Int), (St.stack s)[Int.toNat (wr IntKind.i64 (wr IntKind.i64 ((↑(List.length (St.stack s)) : Int) - (1 : Int)) - (0 : Int)))]?
  = some x_1 → (decide (x < x_1) = true → ((0 : Int) ≤ wr IntKind.i64 ((↑(List.length (St.stack s)) : Int) - (2 : Int)) ∧ wr IntKind.i64 ((↑(List.length (St.stack s)) : Int) - (2 :
  Int)) = wr IntKind.i64 ((↑(List.length (St.stack s)) : Int) - (2 : Int)) ∧ wr IntKind.i64 ((↑(List.length (St.stack s)) : Int) - (2 : Int)) ≤ (↑(List.length (St.stack s)) : Int)) ∧
  (List.length (List.take (Int.toNat (wr IntKind.i64 ((↑(List.length (St.stack s)) : Int) - (2 : Int)))) (St.stack s)) + (1 : Nat)) * (8 : Nat) ≤ (140737488355328 : Nat) ∧ wr
  IntKind.i64 (St.pc s + (1 : Int)) = St.pc z ∧ wr IntKind.i64 (St.fuel s - (1 : Int)) = St.fuel z ∧ St.status s = St.status z ∧ St.clause s = St.clause z ∧ ((0 : Nat) + (List.length
  (List.take (Int.toNat (wr IntKind.i64 ((↑(List.length (St.stack s)) : Int) - (2 : Int)))) (St.stack s)) + (1 : Nat)) ≤ List.length (List.take (Int.toNat (wr IntKind.i64
  ((↑(List.length (St.stack s)) : Int) - (2 : Int)))) (St.stack s) ++ [(1 : Int)]) ∧ List.take (List.length (List.take (Int.toNat (wr IntKind.i64 ((↑(List.length (St.stack s)) : Int)
  - (2 : Int)))) (St.stack s)) + (1 : Nat)) (List.take (Int.toNat (wr IntKind.i64 ((↑(List.length (St.stack s)) : Int) - (2 : Int)))) (St.stack s) ++ [(1 : Int)]) = St.stack z) ∧
  True) ∧ (decide (x < x_1) = false → ((0 : Int) ≤ wr IntKind.i64 ((↑(List.length (St.stack s)) : Int) - (2 : Int)) ∧ wr IntKind.i64 ((↑(List.length (St.stack s)) : Int) - (2 : Int))
  = wr IntKind.i64 ((↑(List.length (St.stack s)) : Int) - (2 : Int)) ∧ wr IntKind.i64 ((↑(List.length (St.stack s)) : Int) - (2 : Int)) ≤ (↑(List.length (St.stack s)) : Int)) ∧
  (List.length (List.take (Int.toNat (wr IntKind.i64 ((↑(List.length (St.stack s)) : Int) - (2 : Int)))) (St.stack s)) + (1 : Nat)) * (8 : Nat) ≤ (140737488355328 : Nat) ∧ wr
  IntKind.i64 (St.pc s + (1 : Int)) = St.pc z ∧ wr IntKind.i64 (St.fuel s - (1 : Int)) = St.fuel z ∧ St.status s = St.status z ∧ St.clause s = St.clause z ∧ ((0 : Nat) + (List.length
  (List.take (Int.toNat (wr IntKind.i64 ((↑(List.length (St.stack s)) : Int) - (2 : Int)))) (St.stack s)) + (1 : Nat)) ≤ List.length (List.take (Int.toNat (wr IntKind.i64
  ((↑(List.length (St.stack s)) : Int) - (2 : Int)))) (St.stack s) ++ [(0 : Int)]) ∧ List.take (List.length (List.take (Int.toNat (wr IntKind.i64 ((↑(List.length (St.stack s)) : Int)
  - (2 : Int)))) (St.stack s)) + (1 : Nat)) (List.take (Int.toNat (wr IntKind.i64 ((↑(List.length (St.stack s)) : Int) - (2 : Int)))) (St.stack s) ++ [(0 : Int)]) = St.stack z) ∧
  True)) ∧ ((Ins.op x == (↑(11 : Nat) : Int)) = false → (0 : Int) ≤ wr IntKind.i64 (wr IntKind.i64 ((↑(List.length (St.stack s)) : Int) - (1 : Int)) - (1 : Int)) ∧ wr IntKind.i64 (wr
  IntKind.i64 ((↑(List.length (St.stack s)) : Int) - (1 : Int)) - (1 : Int)) + (1 : Int) ≤ (↑(List.length (St.stack s)) : Int) ∧ ∀ (x : Int), (St.stack s)[Int.toNat (wr IntKind.i64
  (wr IntKind.i64 ((↑(List.length (St.stack s)) : Int) - (1 : Int)) - (1 : Int)))]? = some x → (0 : Int) ≤ wr IntKind.i64 (wr IntKind.i64 ((↑(List.length (St.stack s)) : Int) - (1 :
  Int)) - (0 : Int)) ∧ wr IntKind.i64 (wr IntKind.i64 ((↑(List.length (St.stack s)) : Int) - (1 : Int)) - (0 : Int)) + (1 : Int) ≤ (↑(List.length (St.stack s)) : Int) ∧ ∀ (x : Int),
  (St.stack s)[Int.toNat (wr IntKind.i64 (wr IntKind.i64 ((↑(List.length (St.stack s)) : Int) - (1 : Int)) - (0 : Int)))]? = some x → False))))))))))))))))))
  ) := by kernel_rfl
--@end
--@cond radvance | 38 | F5 | 400 | (c : List Ins) (v : Env) (s : St) (below : Int) | [.psl .ins c false, envV v, stV s, .int false .i64 below] | (z : St) | stV z
theorem cond_radvance (c : List Ins) (v : Env) (s : St) (below : Int) (z : St) : callF E F5 (vc E F5 400) 38 [.psl .ins c false, envV v, stV s, .int false .i64 below] hp0 0 (fun r => ret E (patch hp0 0 r) r.v (stV z)) = (
  ((St.fuel s == (0 : Int)) = true → St.pc s = St.pc z ∧ St.fuel s = St.fuel z ∧ (220 : Int) = St.status z ∧ St.clause s = St.clause z ∧ (St.stack s = St.stack z ∧ (false = true →
  false = true)) ∧ True) ∧ ((St.fuel s == (0 : Int)) = false → (0 : Int) ≤ St.pc s ∧ St.pc s + (1 : Int) ≤ (↑(List.length c) : Int) ∧ ∀ (x : Ins), c[Int.toNat (St.pc s)]? = some x →
  True ∧ (decide ((↑(List.length (St.stack s)) : Int) < needsF (Ins.op x)) = true → St.pc s = St.pc z ∧ wr IntKind.i64 (St.fuel s - (1 : Int)) = St.fuel z ∧ (210 : Int) = St.status z
  ∧ St.clause s = St.clause z ∧ (St.stack s = St.stack z ∧ (false = true → false = true)) ∧ True) ∧ (decide ((↑(List.length (St.stack s)) : Int) < needsF (Ins.op x)) = false →
  ((Ins.op x == (1 : Int)) = true → (decide (wr IntKind.i64 (below + (↑(List.length (St.stack s)) : Int)) ≥ (64 : Int)) = true → St.pc s = St.pc z ∧ wr IntKind.i64 (St.fuel s - (1 :
  Int)) = St.fuel z ∧ (210 : Int) = St.status z ∧ St.clause s = St.clause z ∧ (St.stack s = St.stack z ∧ (false = true → false = true)) ∧ True) ∧ (decide (wr IntKind.i64 (below +
  (↑(List.length (St.stack s)) : Int)) ≥ (64 : Int)) = false → ((Ins.op x == (2 : Int)) = true → (0 : Int) ≤ Ins.n x ∧ ((bitsOp BinOp.and IntKind.i64 (Int.fdiv (Env.has v) ((2 : Int)
  ^ min (Int.toNat (Ins.n x)) (IntKind.bits IntKind.i64))) (1 : Int) == (0 : Int)) = true → St.pc s = St.pc z ∧ wr IntKind.i64 (St.fuel s - (1 : Int)) = St.fuel z ∧ (191 : Int) =
  St.status z ∧ St.clause s = St.clause z ∧ (St.stack s = St.stack z ∧ (false = true → false = true)) ∧ True) ∧ ((bitsOp BinOp.and IntKind.i64 (Int.fdiv (Env.has v) ((2 : Int) ^ min
  (Int.toNat (Ins.n x)) (IntKind.bits IntKind.i64))) (1 : Int) == (0 : Int)) = false → (0 : Int) ≤ Ins.n x ∧ Ins.n x + (1 : Int) ≤ (↑(16 : Nat) : Int) ∧ ((Ins.n x == (↑(0 : Nat) :
  Int)) = true → ∃ (Q : Bool → Prop), ((decide (Env.v0 v < (-9007199254740992 : Int)) = true → Q true) ∧ (decide (Env.v0 v < (-9007199254740992 : Int)) = false → (decide (Env.v0 v >
  (9007199254740992 : Int)) = true → Q true) ∧ (decide (Env.v0 v > (9007199254740992 : Int)) = false → Q false))) ∧ (Q true → St.pc s = St.pc z ∧ wr IntKind.i64 (St.fuel s - (1 :
  Int)) = St.fuel z ∧ (13 : Int) = St.status z ∧ St.clause s = St.clause z ∧ (St.stack s = St.stack z ∧ (false = true → false = true)) ∧ True) ∧ (Q false → (St.stack s = [] → wr
  IntKind.i64 (St.pc s + (1 : Int)) = St.pc z ∧ wr IntKind.i64 (St.fuel s - (1 : Int)) = St.fuel z ∧ St.status s = St.status z ∧ St.clause s = St.clause z ∧ ((0 : Nat) + ((0 : Nat) +
  (1 : Nat)) ≤ List.length ([] ++ [Env.v0 v]) ∧ List.take ((0 : Nat) + (1 : Nat)) ([] ++ [Env.v0 v]) = St.stack z) ∧ True) ∧ (St.stack s ≠ [] → ((0 : Nat) + (1 : Nat) ≤ (0 : Nat) +
  List.length (St.stack s) ∧ ((0 : Nat) + List.length (St.stack s)) * (8 : Nat) ≤ (140737488355328 : Nat)) ∧ ((0 : Nat) + List.length (St.stack s) ≤ List.length ([] ++ St.stack s) ∧
  (0 : Nat) ≤ (0 : Nat) + List.length (St.stack s) ∧ ((0 : Nat) + List.length (St.stack s) + (1 : Nat)) * (8 : Nat) ≤ (140737488355328 : Nat)) ∧ wr IntKind.i64 (St.pc s + (1 : Int))
  = St.pc z ∧ wr IntKind.i64 (St.fuel s - (1 : Int)) = St.fuel z ∧ St.status s = St.status z ∧ St.clause s = St.clause z ∧ ((0 : Nat) + ((0 : Nat) + List.length (St.stack s) + (1 :
  Nat)) ≤ List.length (List.take ((0 : Nat) + List.length (St.stack s)) ([] ++ St.stack s) ++ [Env.v0 v]) ∧ List.take ((0 : Nat) + List.length (St.stack s) + (1 : Nat)) (List.take
  ((0 : Nat) + List.length (St.stack s)) ([] ++ St.stack s) ++ [Env.v0 v]) = St.stack z) ∧ True))) ∧ ((Ins.n x == (↑(0 : Nat) : Int)) = false → ((Ins.n x == (↑((0 : Nat) + (1 : Nat))
  : Int)) = true → ∃ (Q : Bool → Prop), ((decide (Env.v1 v < (-9007199254740992 : Int)) = true → Q true) ∧ (decide (Env.v1 v < (-9007199254740992 : Int)) = false → (decide (Env.v1 v
  > (9007199254740992 : Int)) = true → Q true) ∧ (decide (Env.v1 v > (9007199254740992 : Int)) = false → Q false))) ∧ (Q true → St.pc s = St.pc z ∧ wr IntKind.i64 (St.fuel s - (1 :
  Int)) = St.fuel z ∧ (13 : Int) = St.status z ∧ St.clause s = St.clause z ∧ (St.stack s = St.stack z ∧ (false = true → false = true)) ∧ True) ∧ (Q false → (St.stack s = [] → wr
  IntKind.i64 (St.pc s + (1 : Int)) = St.pc z ∧ wr IntKind.i64 (St.fuel s - (1 : Int)) = St.fuel z ∧ St.status s = St.status z ∧ St.clause s = St.clause z ∧ ((0 : Nat) + ((0 : Nat) +
  (1 : Nat)) ≤ List.length ([] ++ [Env.v1 v]) ∧ List.take ((0 : Nat) + (1 : Nat)) ([] ++ [Env.v1 v]) = St.stack z) ∧ True) ∧ (St.stack s ≠ [] → ((0 : Nat) + (1 : Nat) ≤ (0 : Nat) +
  List.length (St.stack s) ∧ ((0 : Nat) + List.length (St.stack s)) * (8 : Nat) ≤ (140737488355328 : Nat)) ∧ ((0 : Nat) + List.length (St.stack s) ≤ List.length ([] ++ St.stack s) ∧
  (0 : Nat) ≤ (0 : Nat) + List.length (St.stack s) ∧ ((0 : Nat) + List.length (St.stack s) + (1 : Nat)) * (8 : Nat) ≤ (140737488355328 : Nat)) ∧ wr IntKind.i64 (St.pc s + (1 : Int))
  = St.pc z ∧ wr IntKind.i64 (St.fuel s - (1 : Int)) = St.fuel z ∧ St.status s = St.status z ∧ St.clause s = St.clause z ∧ ((0 : Nat) + ((0 : Nat) + List.length (St.stack s) + (1 :
  Nat)) ≤ List.length (List.take ((0 : Nat) + List.length (St.stack s)) ([] ++ St.stack s) ++ [Env.v1 v]) ∧ List.take ((0 : Nat) + List.length (St.stack s) + (1 : Nat)) (List.take
  ((0 : Nat) + List.length (St.stack s)) ([] ++ St.stack s) ++ [Env.v1 v]) = St.stack z) ∧ True))) ∧ ((Ins.n x == (↑((0 : Nat) + (1 : Nat)) : Int)) = false → ((Ins.n x == (↑((0 :
  Nat) + (1 : Nat) + (1 : Nat)) : Int)) = true → ∃ (Q : Bool → Prop), ((decide (Env.v2 v < (-9007199254740992 : Int)) = true → Q true) ∧ (decide (Env.v2 v < (-9007199254740992 :
  Int)) = false → (decide (Env.v2 v > (9007199254740992 : Int)) = true → Q true) ∧ (decide (Env.v2 v > (9007199254740992 : Int)) = false → Q false))) ∧ (Q true → St.pc s = St.pc z ∧
  wr IntKind.i64 (St.fuel s - (1 : Int)) = St.fuel z ∧ (13 : Int) = St.status z ∧ St.clause s = St.clause z ∧ (St.stack s = St.stack z ∧ (false = true → false = true)) ∧ True) ∧ (Q
  false → (St.stack s = [] → wr IntKind.i64 (St.pc s + (1 : Int)) = St.pc z ∧ wr IntKind.i64 (St.fuel s - (1 : Int)) = St.fuel z ∧ St.status s = St.status z ∧ St.clause s = St.clause
  z ∧ ((0 : Nat) + ((0 : Nat) + (1 : Nat)) ≤ List.length ([] ++ [Env.v2 v]) ∧ List.take ((0 : Nat) + (1 : Nat)) ([] ++ [Env.v2 v]) = St.stack z) ∧ True) ∧ (St.stack s ≠ [] → ((0 :
  Nat) + (1 : Nat) ≤ (0 : Nat) + List.length (St.stack s) ∧ ((0 : Nat) + List.length (St.stack s)) * (8 : Nat) ≤ (140737488355328 : Nat)) ∧ ((0 : Nat) + List.length (St.stack s) ≤
  List.length ([] ++ St.stack s) ∧ (0 : Nat) ≤ (0 : Nat) + List.length (St.stack s) ∧ ((0 : Nat) + List.length (St.stack s) + (1 : Nat)) * (8 : Nat) ≤ (140737488355328 : Nat)) ∧ wr
  IntKind.i64 (St.pc s + (1 : Int)) = St.pc z ∧ wr IntKind.i64 (St.fuel s - (1 : Int)) = St.fuel z ∧ St.status s = St.status z ∧ St.clause s = St.clause z ∧ ((0 : Nat) + ((0 : Nat) +
  List.length (St.stack s) + (1 : Nat)) ≤ List.length (List.take ((0 : Nat) + List.length (St.stack s)) ([] ++ St.stack s) ++ [Env.v2 v]) ∧ List.take ((0 : Nat) + List.length
  (St.stack s) + (1 : Nat)) (List.take ((0 : Nat) + List.length (St.stack s)) ([] ++ St.stack s) ++ [Env.v2 v]) = St.stack z) ∧ True))) ∧ ((Ins.n x == (↑((0 : Nat) + (1 : Nat) + (1 :
  Nat)) : Int)) = false → ((Ins.n x == (↑((0 : Nat) + (1 : Nat) + (1 : Nat) + (1 : Nat)) : Int)) = true → ∃ (Q : Bool → Prop), ((decide (Env.v3 v < (-9007199254740992 : Int)) = true
  → Q true) ∧ (decide (Env.v3 v < (-9007199254740992 : Int)) = false → (decide (Env.v3 v > (9007199254740992 : Int)) = true → Q true) ∧ (decide (Env.v3 v > (9007199254740992 : Int))
  = false → Q false))) ∧ (Q true → St.pc s = St.pc z ∧ wr IntKind.i64 (St.fuel s - (1 : Int)) = St.fuel z ∧ (13 : Int) = St.status z ∧ St.clause s = St.clause z ∧ (St.stack s =
  St.stack z ∧ (false = true → false = true)) ∧ True) ∧ (Q false → (St.stack s = [] → wr IntKind.i64 (St.pc s + (1 : Int)) = St.pc z ∧ wr IntKind.i64 (St.fuel s - (1 : Int)) =
  St.fuel z ∧ St.status s = St.status z ∧ St.clause s = St.clause z ∧ ((0 : Nat) + ((0 : Nat) + (1 : Nat)) ≤ List.length ([] ++ [Env.v3 v]) ∧ List.take ((0 : Nat) + (1 : Nat)) ([] ++
  [Env.v3 v]) = St.stack z) ∧ True) ∧ (St.stack s ≠ [] → ((0 : Nat) + (1 : Nat) ≤ (0 : Nat) + List.length (St.stack s) ∧ ((0 : Nat) + List.length (St.stack s)) * (8 : Nat) ≤
  (140737488355328 : Nat)) ∧ ((0 : Nat) + List.length (St.stack s) ≤ List.length ([] ++ St.stack s) ∧ (0 : Nat) ≤ (0 : Nat) + List.length (St.stack s) ∧ ((0 : Nat) + List.length
  (St.stack s) + (1 : Nat)) * (8 : Nat) ≤ (140737488355328 : Nat)) ∧ wr IntKind.i64 (St.pc s + (1 : Int)) = St.pc z ∧ wr IntKind.i64 (St.fuel s - (1 : Int)) = St.fuel z ∧ St.status s
  = St.status z ∧ St.clause s = St.clause z ∧ ((0 : Nat) + ((0 : Nat) + List.length (St.stack s) + (1 : Nat)) ≤ List.length (List.take ((0 : Nat) + List.length (St.stack s)) ([] ++
  St.stack s) ++ [Env.v3 v]) ∧ List.take ((0 : Nat) + List.length (St.stack s) + (1 : Nat)) (List.take ((0 : Nat) + List.length (St.stack s)) ([] ++ St.stack s) ++ [Env.v3 v]) =
  St.stack z) ∧ True))) ∧ ((Ins.n x == (↑((0 : Nat) + (1 : Nat) + (1 : Nat) + (1 : Nat)) : Int)) = false → ((Ins.n x == (↑((0 : Nat) + (1 : Nat) + (1 : Nat) + (1 : Nat) + (1 : Nat))
  : Int)) = true → ∃ (Q : Bool → Prop), ((decide (Env.v4 v < (-9007199254740992 : Int)) = true → Q true) ∧ (decide (Env.v4 v < (-9007199254740992 : Int)) = false → (decide (Env.v4 v
  > (9007199254740992 : Int)) = true → Q true) ∧ (decide (Env.v4 v > (9007199254740992 : Int)) = false → Q false))) ∧ (Q true → St.pc s = St.pc z ∧ wr IntKind.i64 (St.fuel s - (1 :
  Int)) = St.fuel z ∧ (13 : Int) = St.status z ∧ St.clause s = St.clause z ∧ (St.stack s = St.stack z ∧ (false = true → false = true)) ∧ True) ∧ (Q false → (St.stack s = [] → wr
  IntKind.i64 (St.pc s + (1 : Int)) = St.pc z ∧ wr IntKind.i64 (St.fuel s - (1 : Int)) = St.fuel z ∧ St.status s = St.status z ∧ St.clause s = St.clause z ∧ ((0 : Nat) + ((0 : Nat) +
  (1 : Nat)) ≤ List.length ([] ++ [Env.v4 v]) ∧ List.take ((0 : Nat) + (1 : Nat)) ([] ++ [Env.v4 v]) = St.stack z) ∧ True) ∧ (St.stack s ≠ [] → ((0 : Nat) + (1 : Nat) ≤ (0 : Nat) +
  List.length (St.stack s) ∧ ((0 : Nat) + List.length (St.stack s)) * (8 : Nat) ≤ (140737488355328 : Nat)) ∧ ((0 : Nat) + List.length (St.stack s) ≤ List.length ([] ++ St.stack s) ∧
  (0 : Nat) ≤ (0 : Nat) + List.length (St.stack s) ∧ ((0 : Nat) + List.length (St.stack s) + (1 : Nat)) * (8 : Nat) ≤ (140737488355328 : Nat)) ∧ wr IntKind.i64 (St.pc s + (1 : Int))
  = St.pc z ∧ wr IntKind.i64 (St.fuel s - (1 : Int)) = St.fuel z ∧ St.status s = St.status z ∧ St.clause s = St.clause z ∧ ((0 : Nat) + ((0 : Nat) + List.length (St.stack s) + (1 :
  Nat)) ≤ List.length (List.take ((0 : Nat) + List.length (St.stack s)) ([] ++ St.stack s) ++ [Env.v4 v]) ∧ List.take ((0 : Nat) + List.length (St.stack s) + (1 : Nat)) (List.take
  ((0 : Nat) + List.length (St.stack s)) ([] ++ St.stack s) ++ [Env.v4 v]) = St.stack z) ∧ True))) ∧ ((Ins.n x == (↑((0 : Nat) + (1 : Nat) + (1 : Nat) + (1 : Nat) + (1 : Nat)) :
  Int)) = false → ((Ins.n x == (↑((0 : Nat) + (1 : Nat) + (1 : Nat) + (1 : Nat) + (1 : Nat) + (1 : Nat)) : Int)) = true → ∃ (Q : Bool → Prop), ((decide (Env.v5 v < (-9007199254740992
  : Int)) = true → Q true) ∧ (decide (Env.v5 v < (-9007199254740992 : Int)) = false → (decide (Env.v5 v > (9007199254740992 : Int)) = true → Q true) ∧ (decide (Env.v5 v >
  (9007199254740992 : Int)) = false → Q false))) ∧ (Q true → St.pc s = St.pc z ∧ wr IntKind.i64 (St.fuel s - (1 : Int)) = St.fuel z ∧ (13 : Int) = St.status z ∧ St.clause s =
  St.clause z ∧ (St.stack s = St.stack z ∧ (false = true → false = true)) ∧ True) ∧ (Q false → (St.stack s = [] → wr IntKind.i64 (St.pc s + (1 : Int)) = St.pc z ∧ wr IntKind.i64
  (St.fuel s - (1 : Int)) = St.fuel z ∧ St.status s = St.status z ∧ St.clause s = St.clause z ∧ ((0 : Nat) + ((0 : Nat) + (1 : Nat)) ≤ List.length ([] ++ [Env.v5 v]) ∧ List.take ((0
  : Nat) + (1 : Nat)) ([] ++ [Env.v5 v]) = St.stack z) ∧ True) ∧ (St.stack s ≠ [] → ((0 : Nat) + (1 : Nat) ≤ (0 : Nat) + List.length (St.stack s) ∧ ((0 : Nat) + List.length (St.stack
  s)) * (8 : Nat) ≤ (140737488355328 : Nat)) ∧ ((0 : Nat) + List.length (St.stack s) ≤ List.length ([] ++ St.stack s) ∧ (0 : Nat) ≤ (0 : Nat) + List.length (St.stack s) ∧ ((0 : Nat)
  + List.length (St.stack s) + (1 : Nat)) * (8 : Nat) ≤ (140737488355328 : Nat)) ∧ wr IntKind.i64 (St.pc s + (1 : Int)) = St.pc z ∧ wr IntKind.i64 (St.fuel s - (1 : Int)) = St.fuel z
  ∧ St.status s = St.status z ∧ St.clause s = St.clause z ∧ ((0 : Nat) + ((0 : Nat) + List.length (St.stack s) + (1 : Nat)) ≤ List.length (List.take ((0 : Nat) + List.length
  (St.stack s)) ([] ++ St.stack s) ++ [Env.v5 v]) ∧ List.take ((0 : Nat) + List.length (St.stack s) + (1 : Nat)) (List.take ((0 : Nat) + List.length (St.stack s)) ([] ++ St.stack s)
  ++ [Env.v5 v]) = St.stack z) ∧ True))) ∧ ((Ins.n x == (↑((0 : Nat) + (1 : Nat) + (1 : Nat) + (1 : Nat) + (1 : Nat) + (1 : Nat)) : Int)) = false → ((Ins.n x == (↑((0 : Nat) + (1 :
  Nat) + (1 : Nat) + (1 : Nat) + (1 : Nat) + (1 : Nat) + (1 : Nat)) : Int)) = true → ∃ (Q : Bool → Prop), ((decide (Env.v6 v < (-9007199254740992 : Int)) = true → Q true) ∧ (decide
  (Env.v6 v < (-9007199254740992 : Int)) = false → (decide (Env.v6 v > (9007199254740992 : Int)) = true → Q true) ∧ (decide (Env.v6 v > (9007199254740992 : Int)) = false → Q false)))
  ∧ (Q true → St.pc s = St.pc z ∧ wr IntKind.i64 (St.fuel s - (1 : Int)) = St.fuel z ∧ (13 : Int) = St.status z ∧ St.clause s = St.clause z ∧ (St.stack s = St.stack z ∧ (false = true
  → false = true)) ∧ True) ∧ (Q false → (St.stack s = [] → wr IntKind.i64 (St.pc s + (1 : Int)) = St.pc z ∧ wr IntKind.i64 (St.fuel s - (1 : Int)) = St.fuel z ∧ St.status s =
  St.status z ∧ St.clause s = St.clause z ∧ ((0 : Nat) + ((0 : Nat) + (1 : Nat)) ≤ List.length ([] ++ [Env.v6 v]) ∧ List.take ((0 : Nat) + (1 : Nat)) ([] ++ [Env.v6 v]) = St.stack z)
  ∧ True) ∧ (St.stack s ≠ [] → ((0 : Nat) + (1 : Nat) ≤ (0 : Nat) + List.length (St.stack s) ∧ ((0 : Nat) + List.length (St.stack s)) * (8 : Nat) ≤ (140737488355328 : Nat)) ∧ ((0 :
  Nat) + List.length (St.stack s) ≤ List.length ([] ++ St.stack s) ∧ (0 : Nat) ≤ (0 : Nat) + List.length (St.stack s) ∧ ((0 : Nat) + List.length (St.stack s) + (1 : Nat)) * (8 : Nat)
  ≤ (140737488355328 : Nat)) ∧ wr IntKind.i64 (St.pc s + (1 : Int)) = St.pc z ∧ wr IntKind.i64 (St.fuel s - (1 : Int)) = St.fuel z ∧ St.status s = St.status z ∧ St.clause s =
  St.clause z ∧ ((0 : Nat) + ((0 : Nat) + List.length (St.stack s) + (1 : Nat)) ≤ List.length (List.take ((0 : Nat) + List.length (St.stack s)) ([] ++ St.stack s) ++ [Env.v6 v]) ∧
  List.take ((0 : Nat) + List.length (St.stack s) + (1 : Nat)) (List.take ((0 : Nat) + List.length (St.stack s)) ([] ++ St.stack s) ++ [Env.v6 v]) = St.stack z) ∧ True))) ∧ ((Ins.n x
  == (↑((0 : Nat) + (1 : Nat) + (1 : Nat) + (1 : Nat) + (1 : Nat) + (1 : Nat) + (1 : Nat)) : Int)) = false → ((Ins.n x == (↑((0 : Nat) + (1 : Nat) + (1 : Nat) + (1 : Nat) + (1 : Nat)
  + (1 : Nat) + (1 : Nat) + (1 : Nat)) : Int)) = true → ∃ (Q : Bool → Prop), ((decide (Env.v7 v < (-9007199254740992 : Int)) = true → Q true) ∧ (decide (Env.v7 v < (-9007199254740992
  : Int)) = false → (decide (Env.v7 v > (9007199254740992 : Int)) = true → Q true) ∧ (decide (Env.v7 v > (9007199254740992 : Int)) = false → Q false))) ∧ (Q true → St.pc s = St.pc z
  ∧ wr IntKind.i64 (St.fuel s - (1 : Int)) = St.fuel z ∧ (13 : Int) = St.status z ∧ St.clause s = St.clause z ∧ (St.stack s = St.stack z ∧ (false = true → false = true)) ∧ True) ∧ (Q
  false → (St.stack s = [] → wr IntKind.i64 (St.pc s + (1 : Int)) = St.pc z ∧ wr IntKind.i64 (St.fuel s - (1 : Int)) = St.fuel z ∧ St.status s = St.status z ∧ St.clause s = St.clause
  z ∧ ((0 : Nat) + ((0 : Nat) + (1 : Nat)) ≤ List.length ([] ++ [Env.v7 v]) ∧ List.take ((0 : Nat) + (1 : Nat)) ([] ++ [Env.v7 v]) = St.stack z) ∧ True) ∧ (St.stack s ≠ [] → ((0 :
  Nat) + (1 : Nat) ≤ (0 : Nat) + List.length (St.stack s) ∧ ((0 : Nat) + List.length (St.stack s)) * (8 : Nat) ≤ (140737488355328 : Nat)) ∧ ((0 : Nat) + List.length (St.stack s) ≤
  List.length ([] ++ St.stack s) ∧ (0 : Nat) ≤ (0 : Nat) + List.length (St.stack s) ∧ ((0 : Nat) + List.length (St.stack s) + (1 : Nat)) * (8 : Nat) ≤ (140737488355328 : Nat)) ∧ wr
  IntKind.i64 (St.pc s + (1 : Int)) = St.pc z ∧ wr IntKind.i64 (St.fuel s - (1 : Int)) = St.fuel z ∧ St.status s = St.status z ∧ St.clause s = St.clause z ∧ ((0 : Nat) + ((0 : Nat) +
  List.length (St.stack s) + (1 : Nat)) ≤ List.length (List.take ((0 : Nat) + List.length (St.stack s)) ([] ++ St.stack s) ++ [Env.v7 v]) ∧ List.take ((0 : Nat) + List.length
  (St.stack s) + (1 : Nat)) (List.take ((0 : Nat) + List.length (St.stack s)) ([] ++ St.stack s) ++ [Env.v7 v]) = St.stack z) ∧ True))) ∧ ((Ins.n x == (↑((0 : Nat) + (1 : Nat) + (1 :
  Nat) + (1 : Nat) + (1 : Nat) + (1 : Nat) + (1 : Nat) + (1 : Nat)) : Int)) = false → ((Ins.n x == (↑((0 : Nat) + (1 : Nat) + (1 : Nat) + (1 : Nat) + (1 : Nat) + (1 : Nat) + (1 :
  Nat) + (1 : Nat) + (1 : Nat)) : Int)) = true → ∃ (Q : Bool → Prop), ((decide (Env.v8 v < (-9007199254740992 : Int)) = true → Q true) ∧ (decide (Env.v8 v < (-9007199254740992 :
  Int)) = false → (decide (Env.v8 v > (9007199254740992 : Int)) = true → Q true) ∧ (decide (Env.v8 v > (9007199254740992 : Int)) = false → Q false))) ∧ (Q true → St.pc s = St.pc z ∧
  wr IntKind.i64 (St.fuel s - (1 : Int)) = St.fuel z ∧ (13 : Int) = St.status z ∧ St.clause s = St.clause z ∧ (St.stack s = St.stack z ∧ (false = true → false = true)) ∧ True) ∧ (Q
  false → (St.stack s = [] → wr IntKind.i64 (St.pc s + (1 : Int)) = St.pc z ∧ wr IntKind.i64 (St.fuel s - (1 : Int)) = St.fuel z ∧ St.status s = St.status z ∧ St.clause s = St.clause
  z ∧ ((0 : Nat) + ((0 : Nat) + (1 : Nat)) ≤ List.length ([] ++ [Env.v8 v]) ∧ List.take ((0 : Nat) + (1 : Nat)) ([] ++ [Env.v8 v]) = St.stack z) ∧ True) ∧ (St.stack s ≠ [] → ((0 :
  Nat) + (1 : Nat) ≤ (0 : Nat) + List.length (St.stack s) ∧ ((0 : Nat) + List.length (St.stack s)) * (8 : Nat) ≤ (140737488355328 : Nat)) ∧ ((0 : Nat) + List.length (St.stack s) ≤
  List.length ([] ++ St.stack s) ∧ (0 : Nat) ≤ (0 : Nat) + List.length (St.stack s) ∧ ((0 : Nat) + List.length (St.stack s) + (1 : Nat)) * (8 : Nat) ≤ (140737488355328 : Nat)) ∧ wr
  IntKind.i64 (St.pc s + (1 : Int)) = St.pc z ∧ wr IntKind.i64 (St.fuel s - (1 : Int)) = St.fuel z ∧ St.status s = St.status z ∧ St.clause s = St.clause z ∧ ((0 : Nat) + ((0 : Nat) +
  List.length (St.stack s) + (1 : Nat)) ≤ List.length (List.take ((0 : Nat) + List.length (St.stack s)) ([] ++ St.stack s) ++ [Env.v8 v]) ∧ List.take ((0 : Nat) + List.length
  (St.stack s) + (1 : Nat)) (List.take ((0 : Nat) + List.length (St.stack s)) ([] ++ St.stack s) ++ [Env.v8 v]) = St.stack z) ∧ True))) ∧ ((Ins.n x == (↑((0 : Nat) + (1 : Nat) + (1 :
  Nat) + (1 : Nat) + (1 : Nat) + (1 : Nat) + (1 : Nat) + (1 : Nat) + (1 : Nat)) : Int)) = false → ((Ins.n x == (↑((0 : Nat) + (1 : Nat) + (1 : Nat) + (1 : Nat) + (1 : Nat) + (1 :
  Nat) + (1 : Nat) + (1 : Nat) + (1 : Nat) + (1 : Nat)) : Int)) = true → ∃ (Q : Bool → Prop), ((decide (Env.v9 v < (-9007199254740992 : Int)) = true → Q true) ∧ (decide (Env.v9 v <
  (-9007199254740992 : Int)) = false → (decide (Env.v9 v > (9007199254740992 : Int)) = true → Q true) ∧ (decide (Env.v9 v > (9007199254740992 : Int)) = false → Q false))) ∧ (Q true →
  St.pc s = St.pc z ∧ wr IntKind.i64 (St.fuel s - (1 : Int)) = St.fuel z ∧ (13 : Int) = St.status z ∧ St.clause s = St.clause z ∧ (St.stack s = St.stack z ∧ (false = true → false =
  true)) ∧ True) ∧ (Q false → (St.stack s = [] → wr IntKind.i64 (St.pc s + (1 : Int)) = St.pc z ∧ wr IntKind.i64 (St.fuel s - (1 : Int)) = St.fuel z ∧ St.status s = St.status z ∧
  St.clause s = St.clause z ∧ ((0 : Nat) + ((0 : Nat) + (1 : Nat)) ≤ List.length ([] ++ [Env.v9 v]) ∧ List.take ((0 : Nat) + (1 : Nat)) ([] ++ [Env.v9 v]) = St.stack z) ∧ True) ∧
  (St.stack s ≠ [] → ((0 : Nat) + (1 : Nat) ≤ (0 : Nat) + List.length (St.stack s) ∧ ((0 : Nat) + List.length (St.stack s)) * (8 : Nat) ≤ (140737488355328 : Nat)) ∧ ((0 : Nat) +
  List.length (St.stack s) ≤ List.length ([] ++ St.stack s) ∧ (0 : Nat) ≤ (0 : Nat) + List.length (St.stack s) ∧ ((0 : Nat) + List.length (St.stack s) + (1 : Nat)) * (8 : Nat) ≤
  (140737488355328 : Nat)) ∧ wr IntKind.i64 (St.pc s + (1 : Int)) = St.pc z ∧ wr IntKind.i64 (St.fuel s - (1 : Int)) = St.fuel z ∧ St.status s = St.status z ∧ St.clause s = St.clause
  z ∧ ((0 : Nat) + ((0 : Nat) + List.length (St.stack s) + (1 : Nat)) ≤ List.length (List.take ((0 : Nat) + List.length (St.stack s)) ([] ++ St.stack s) ++ [Env.v9 v]) ∧ List.take
  ((0 : Nat) + List.length (St.stack s) + (1 : Nat)) (List.take ((0 : Nat) + List.length (St.stack s)) ([] ++ St.stack s) ++ [Env.v9 v]) = St.stack z) ∧ True))) ∧ ((Ins.n x == (↑((0
  : Nat) + (1 : Nat) + (1 : Nat) + (1 : Nat) + (1 : Nat) + (1 : Nat) + (1 : Nat) + (1 : Nat) + (1 : Nat) + (1 : Nat)) : Int)) = false → ((Ins.n x == (↑((0 : Nat) + (1 : Nat) + (1 :
  Nat) + (1 : Nat) + (1 : Nat) + (1 : Nat) + (1 : Nat) + (1 : Nat) + (1 : Nat) + (1 : Nat) + (1 : Nat)) : Int)) = true → ∃ (Q : Bool → Prop), ((decide (Env.v10 v < (-9007199254740992
  : Int)) = true → Q true) ∧ (decide (Env.v10 v < (-9007199254740992 : Int)) = false → (decide (Env.v10 v > (9007199254740992 : Int)) = true → Q true) ∧ (decide (Env.v10 v >
  (9007199254740992 : Int)) = false → Q false))) ∧ (Q true → St.pc s = St.pc z ∧ wr IntKind.i64 (St.fuel s - (1 : Int)) = St.fuel z ∧ (13 : Int) = St.status z ∧ St.clause s =
  St.clause z ∧ (St.stack s = St.stack z ∧ (false = true → false = true)) ∧ True) ∧ (Q false → (St.stack s = [] → wr IntKind.i64 (St.pc s + (1 : Int)) = St.pc z ∧ wr IntKind.i64
  (St.fuel s - (1 : Int)) = St.fuel z ∧ St.status s = St.status z ∧ St.clause s = St.clause z ∧ ((0 : Nat) + ((0 : Nat) + (1 : Nat)) ≤ List.length ([] ++ [Env.v10 v]) ∧ List.take ((0
  : Nat) + (1 : Nat)) ([] ++ [Env.v10 v]) = St.stack z) ∧ True) ∧ (St.stack s ≠ [] → ((0 : Nat) + (1 : Nat) ≤ (0 : Nat) + List.length (St.stack s) ∧ ((0 : Nat) + List.length
  (St.stack s)) * (8 : Nat) ≤ (140737488355328 : Nat)) ∧ ((0 : Nat) + List.length (St.stack s) ≤ List.length ([] ++ St.stack s) ∧ (0 : Nat) ≤ (0 : Nat) + List.length (St.stack s) ∧
  ((0 : Nat) + List.length (St.stack s) + (1 : Nat)) * (8 : Nat) ≤ (140737488355328 : Nat)) ∧ wr IntKind.i64 (St.pc s + (1 : Int)) = St.pc z ∧ wr IntKind.i64 (St.fuel s - (1 : Int))
  = St.fuel z ∧ St.status s = St.status z ∧ St.clause s = St.clause z ∧ ((0 : Nat) + ((0 : Nat) + List.length (St.stack s) + (1 : Nat)) ≤ List.length (List.take ((0 : Nat) +
  List.length (St.stack s)) ([] ++ St.stack s) ++ [Env.v10 v]) ∧ List.take ((0 : Nat) + List.length (St.stack s) + (1 : Nat)) (List.take ((0 : Nat) + List.length (St.stack s)) ([] ++
  St.stack s) ++ [Env.v10 v]) = St.stack z) ∧ True))) ∧ ((Ins.n x == (↑((0 : Nat) + (1 : Nat) + (1 : Nat) + (1 : Nat) + (1 : Nat) + (1 : Nat) + (1 : Nat) + (1 : Nat) + (1 : Nat) + (1
  : Nat) + (1 : Nat)) : Int)) = false → ((Ins.n x == (↑((0 : Nat) + (1 : Nat) + (1 : Nat) + (1 : Nat) + (1 : Nat) + (1 : Nat) + (1 : Nat) + (1 : Nat) + (1 : Nat) + (1 : Nat) + (1 :
  Nat) + (1 : Nat)) : Int)) = true → ∃ (Q : Bool → Prop), ((decide (Env.v11 v < (-9007199254740992 : Int)) = true → Q true) ∧ (decide (Env.v11 v < (-9007199254740992 : Int)) = false
  → (decide (Env.v11 v > (9007199254740992 : Int)) = true → Q true) ∧ (decide (Env.v11 v > (9007199254740992 : Int)) = false → Q false))) ∧ (Q true → St.pc s = St.pc z ∧ wr
  IntKind.i64 (St.fuel s - (1 : Int)) = St.fuel z ∧ (13 : Int) = St.status z ∧ St.clause s = St.clause z ∧ (St.stack s = St.stack z ∧ (false = true → false = true)) ∧ True) ∧ (Q
  false → (St.stack s = [] → wr IntKind.i64 (St.pc s + (1 : Int)) = St.pc z ∧ wr IntKind.i64 (St.fuel s - (1 : Int)) = St.fuel z ∧ St.status s = St.status z ∧ St.clause s = St.clause
  z ∧ ((0 : Nat) + ((0 : Nat) + (1 : Nat)) ≤ List.length ([] ++ [Env.v11 v]) ∧ List.take ((0 : Nat) + (1 : Nat)) ([] ++ [Env.v11 v]) = St.stack z) ∧ True) ∧ (St.stack s ≠ [] → ((0 :
  Nat) + (1 : Nat) ≤ (0 : Nat) + List.length (St.stack s) ∧ ((0 : Nat) + List.length (St.stack s)) * (8 : Nat) ≤ (140737488355328 : Nat)) ∧ ((0 : Nat) + List.length (St.stack s) ≤
  List.length ([] ++ St.stack s) ∧ (0 : Nat) ≤ (0 : Nat) + List.length (St.stack s) ∧ ((0 : Nat) + List.length (St.stack s) + (1 : Nat)) * (8 : Nat) ≤ (140737488355328 : Nat)) ∧ wr
  IntKind.i64 (St.pc s + (1 : Int)) = St.pc z ∧ wr IntKind.i64 (St.fuel s - (1 : Int)) = St.fuel z ∧ St.status s = St.status z ∧ St.clause s = St.clause z ∧ ((0 : Nat) + ((0 : Nat) +
  List.length (St.stack s) + (1 : Nat)) ≤ List.length (List.take ((0 : Nat) + List.length (St.stack s)) ([] ++ St.stack s) ++ [Env.v11 v]) ∧ List.take ((0 : Nat) + List.length
  (St.stack s) + (1 : Nat)) (List.take ((0 : Nat) + List.length (St.stack s)) ([] ++ St.stack s) ++ [Env.v11 v]) = St.stack z) ∧ True))) ∧ ((Ins.n x == (↑((0 : Nat) + (1 : Nat) + (1
  : Nat) + (1 : Nat) + (1 : Nat) + (1 : Nat) + (1 : Nat) + (1 : Nat) + (1 : Nat) + (1 : Nat) + (1 : Nat) + (1 : Nat)) : Int)) = false → ((Ins.n x == (↑((0 : Nat) + (1 : Nat) + (1 :
  Nat) + (1 : Nat) + (1 : Nat) + (1 : Nat) + (1 : Nat) + (1 : Nat) + (1 : Nat) + (1 : Nat) + (1 : Nat) + (1 : Nat) + (1 : Nat)) : Int)) = true → ∃ (Q : Bool → Prop), ((decide
  (Env.v12 v < (-9007199254740992 : Int)) = true → Q true) ∧ (decide (Env.v12 v < (-9007199254740992 : Int)) = false → (decide (Env.v12 v > (9007199254740992 : Int)) = true → Q true)
  ∧ (decide (Env.v12 v > (9007199254740992 : Int)) = false → Q false))) ∧ (Q true → St.pc s = St.pc z ∧ wr IntKind.i64 (St.fuel s - (1 : Int)) = St.fuel z ∧ (13 : Int) = St.status z
  ∧ St.clause s = St.clause z ∧ (St.stack s = St.stack z ∧ (false = true → false = true)) ∧ True) ∧ (Q false → (St.stack s = [] → wr IntKind.i64 (St.pc s + (1 : Int)) = St.pc z ∧ wr
  IntKind.i64 (St.fuel s - (1 : Int)) = St.fuel z ∧ St.status s = St.status z ∧ St.clause s = St.clause z ∧ ((0 : Nat) + ((0 : Nat) + (1 : Nat)) ≤ List.length ([] ++ [Env.v12 v]) ∧
  List.take ((0 : Nat) + (1 : Nat)) ([] ++ [Env.v12 v]) = St.stack z) ∧ True) ∧ (St.stack s ≠ [] → ((0 : Nat) + (1 : Nat) ≤ (0 : Nat) + List.length (St.stack s) ∧ ((0 : Nat) +
  List.length (St.stack s)) * (8 : Nat) ≤ (140737488355328 : Nat)) ∧ ((0 : Nat) + List.length (St.stack s) ≤ List.length ([] ++ St.stack s) ∧ (0 : Nat) ≤ (0 : Nat) + List.length
  (St.stack s) ∧ ((0 : Nat) + List.length (St.stack s) + (1 : Nat)) * (8 : Nat) ≤ (140737488355328 : Nat)) ∧ wr IntKind.i64 (St.pc s + (1 : Int)) = St.pc z ∧ wr IntKind.i64 (St.fuel
  s - (1 : Int)) = St.fuel z ∧ St.status s = St.status z ∧ St.clause s = St.clause z ∧ ((0 : Nat) + ((0 : Nat) + List.length (St.stack s) + (1 : Nat)) ≤ List.length (List.take ((0 :
  Nat) + List.length (St.stack s)) ([] ++ St.stack s) ++ [Env.v12 v]) ∧ List.take ((0 : Nat) + List.length (St.stack s) + (1 : Nat)) (List.take ((0 : Nat) + List.length (St.stack s))
  ([] ++ St.stack s) ++ [Env.v12 v]) = St.stack z) ∧ True))) ∧ ((Ins.n x == (↑((0 : Nat) + (1 : Nat) + (1 : Nat) + (1 : Nat) + (1 : Nat) + (1 : Nat) + (1 : Nat) + (1 : Nat) + (1 :
  Nat) + (1 : Nat) + (1 : Nat) + (1 : Nat) + (1 : Nat)) : Int)) = false → ((Ins.n x == (↑((0 : Nat) + (1 : Nat) + (1 : Nat) + (1 : Nat) + (1 : Nat) + (1 : Nat) + (1 : Nat) + (1 :
  Nat) + (1 : Nat) + (1 : Nat) + (1 : Nat) + (1 : Nat) + (1 : Nat) + (1 : Nat)) : Int)) = true → ∃ (Q : Bool → Prop), ((decide (Env.v13 v < (-9007199254740992 : Int)) = true → Q
  true) ∧ (decide (Env.v13 v < (-9007199254740992 : Int)) = false → (decide (Env.v13 v > (9007199254740992 : Int)) = true → Q true) ∧ (decide (Env.v13 v > (9007199254740992 : Int)) =
  false → Q false))) ∧ (Q true → St.pc s = St.pc z ∧ wr IntKind.i64 (St.fuel s - (1 : Int)) = St.fuel z ∧ (13 : Int) = St.status z ∧ St.clause s = St.clause z ∧ (St.stack s =
  St.stack z ∧ (false = true → false = true)) ∧ True) ∧ (Q false → (St.stack s = [] → wr IntKind.i64 (St.pc s + (1 : Int)) = St.pc z ∧ wr IntKind.i64 (St.fuel s - (1 : Int)) =
  St.fuel z ∧ St.status s = St.status z ∧ St.clause s = St.clause z ∧ ((0 : Nat) + ((0 : Nat) + (1 : Nat)) ≤ List.length ([] ++ [Env.v13 v]) ∧ List.take ((0 : Nat) + (1 : Nat)) ([]
  ++ [Env.v13 v]) = St.stack z) ∧ True) ∧ (St.stack s ≠ [] → ((0 : Nat) + (1 : Nat) ≤ (0 : Nat) + List.length (St.stack s) ∧ ((0 : Nat) + List.length (St.stack s)) * (8 : Nat) ≤
  (140737488355328 : Nat)) ∧ ((0 : Nat) + List.length (St.stack s) ≤ List.length ([] ++ St.stack s) ∧ (0 : Nat) ≤ (0 : Nat) + List.length (St.stack s) ∧ ((0 : Nat) + List.length
  (St.stack s) + (1 : Nat)) * (8 : Nat) ≤ (140737488355328 : Nat)) ∧ wr IntKind.i64 (St.pc s + (1 : Int)) = St.pc z ∧ wr IntKind.i64 (St.fuel s - (1 : Int)) = St.fuel z ∧ St.status s
  = St.status z ∧ St.clause s = St.clause z ∧ ((0 : Nat) + ((0 : Nat) + List.length (St.stack s) + (1 : Nat)) ≤ List.length (List.take ((0 : Nat) + List.length (St.stack s)) ([] ++
  St.stack s) ++ [Env.v13 v]) ∧ List.take ((0 : Nat) + List.length (St.stack s) + (1 : Nat)) (List.take ((0 : Nat) + List.length (St.stack s)) ([] ++ St.stack s) ++ [Env.v13 v]) =
  St.stack z) ∧ True))) ∧ ((Ins.n x == (↑((0 : Nat) + (1 : Nat) + (1 : Nat) + (1 : Nat) + (1 : Nat) + (1 : Nat) + (1 : Nat) + (1 : Nat) + (1 : Nat) + (1 : Nat) + (1 : Nat) + (1 :
  Nat) + (1 : Nat) + (1 : Nat)) : Int)) = false → ((Ins.n x == (↑((0 : Nat) + (1 : Nat) + (1 : Nat) + (1 : Nat) + (1 : Nat) + (1 : Nat) + (1 : Nat) + (1 : Nat) + (1 : Nat) + (1 :
  Nat) + (1 : Nat) + (1 : Nat) + (1 : Nat) + (1 : Nat) + (1 : Nat)) : Int)) = true → ∃ (Q : Bool → Prop), ((decide (Env.v14 v < (-9007199254740992 : Int)) = true → Q true) ∧ (decide
  (Env.v14 v < (-9007199254740992 : Int)) = false → (decide (Env.v14 v > (9007199254740992 : Int)) = true → Q true) ∧ (decide (Env.v14 v > (9007199254740992 : Int)) = false → Q
  false))) ∧ (Q true → St.pc s = St.pc z ∧ wr IntKind.i64 (St.fuel s - (1 : Int)) = St.fuel z ∧ (13 : Int) = St.status z ∧ St.clause s = St.clause z ∧ (St.stack s = St.stack z ∧
  (false = true → false = true)) ∧ True) ∧ (Q false → (St.stack s = [] → wr IntKind.i64 (St.pc s + (1 : Int)) = St.pc z ∧ wr IntKind.i64 (St.fuel s - (1 : Int)) = St.fuel z ∧
  St.status s = St.status z ∧ St.clause s = St.clause z ∧ ((0 : Nat) + ((0 : Nat) + (1 : Nat)) ≤ List.length ([] ++ [Env.v14 v]) ∧ List.take ((0 : Nat) + (1 : Nat)) ([] ++ [Env.v14
  v]) = St.stack z) ∧ True) ∧ (St.stack s ≠ [] → ((0 : Nat) + (1 : Nat) ≤ (0 : Nat) + List.length (St.stack s) ∧ ((0 : Nat) + List.length (St.stack s)) * (8 : Nat) ≤ (140737488355328
  : Nat)) ∧ ((0 : Nat) + List.length (St.stack s) ≤ List.length ([] ++ St.stack s) ∧ (0 : Nat) ≤ (0 : Nat) + List.length (St.stack s) ∧ ((0 : Nat) + List.length (St.stack s) + (1 :
  Nat)) * (8 : Nat) ≤ (140737488355328 : Nat)) ∧ wr IntKind.i64 (St.pc s + (1 : Int)) = St.pc z ∧ wr IntKind.i64 (St.fuel s - (1 : Int)) = St.fuel z ∧ St.status s = St.status z ∧
  St.clause s = St.clause z ∧ ((0 : Nat) + ((0 : Nat) + List.length (St.stack s) + (1 : Nat)) ≤ List.length (List.take ((0 : Nat) + List.length (St.stack s)) ([] ++ St.stack s) ++
  [Env.v14 v]) ∧ List.take ((0 : Nat) + List.length (St.stack s) + (1 : Nat)) (List.take ((0 : Nat) + List.length (St.stack s)) ([] ++ St.stack s) ++ [Env.v14 v]) = St.stack z) ∧
  True))) ∧ ((Ins.n x == (↑((0 : Nat) + (1 : Nat) + (1 : Nat) + (1 : Nat) + (1 : Nat) + (1 : Nat) + (1 : Nat) + (1 : Nat) + (1 : Nat) + (1 : Nat) + (1 : Nat) + (1 : Nat) + (1 : Nat)
  + (1 : Nat) + (1 : Nat)) : Int)) = false → ((Ins.n x == (↑((0 : Nat) + (1 : Nat) + (1 : Nat) + (1 : Nat) + (1 : Nat) + (1 : Nat) + (1 : Nat) + (1 : Nat) + (1 : Nat) + (1 : Nat) +
  (1 : Nat) + (1 : Nat) + (1 : Nat) + (1 : Nat) + (1 : Nat) + (1 : Nat)) : Int)) = true → ∃ (Q : Bool → Prop), ((decide (Env.v15 v < (-9007199254740992 : Int)) = true → Q true) ∧
  (decide (Env.v15 v < (-9007199254740992 : Int)) = false → (decide (Env.v15 v > (9007199254740992 : Int)) = true → Q true) ∧ (decide (Env.v15 v > (9007199254740992 : Int)) = false →
  Q false))) ∧ (Q true → St.pc s = St.pc z ∧ wr IntKind.i64 (St.fuel s - (1 : Int)) = St.fuel z ∧ (13 : Int) = St.status z ∧ St.clause s = St.clause z ∧ (St.stack s = St.stack z ∧
  (false = true → false = true)) ∧ True) ∧ (Q false → (St.stack s = [] → wr IntKind.i64 (St.pc s + (1 : Int)) = St.pc z ∧ wr IntKind.i64 (St.fuel s - (1 : Int)) = St.fuel z ∧
  St.status s = St.status z ∧ St.clause s = St.clause z ∧ ((0 : Nat) + ((0 : Nat) + (1 : Nat)) ≤ List.length ([] ++ [Env.v15 v]) ∧ List.take ((0 : Nat) + (1 : Nat)) ([] ++ [Env.v15
  v]) = St.stack z) ∧ True) ∧ (St.stack s ≠ [] → ((0 : Nat) + (1 : Nat) ≤ (0 : Nat) + List.length (St.stack s) ∧ ((0 : Nat) + List.length (St.stack s)) * (8 : Nat) ≤ (140737488355328
  : Nat)) ∧ ((0 : Nat) + List.length (St.stack s) ≤ List.length ([] ++ St.stack s) ∧ (0 : Nat) ≤ (0 : Nat) + List.length (St.stack s) ∧ ((0 : Nat) + List.length (St.stack s) + (1 :
  Nat)) * (8 : Nat) ≤ (140737488355328 : Nat)) ∧ wr IntKind.i64 (St.pc s + (1 : Int)) = St.pc z ∧ wr IntKind.i64 (St.fuel s - (1 : Int)) = St.fuel z ∧ St.status s = St.status z ∧
  St.clause s = St.clause z ∧ ((0 : Nat) + ((0 : Nat) + List.length (St.stack s) + (1 : Nat)) ≤ List.length (List.take ((0 : Nat) + List.length (St.stack s)) ([] ++ St.stack s) ++
  [Env.v15 v]) ∧ List.take ((0 : Nat) + List.length (St.stack s) + (1 : Nat)) (List.take ((0 : Nat) + List.length (St.stack s)) ([] ++ St.stack s) ++ [Env.v15 v]) = St.stack z) ∧
  True))) ∧ ((Ins.n x == (↑((0 : Nat) + (1 : Nat) + (1 : Nat) + (1 : Nat) + (1 : Nat) + (1 : Nat) + (1 : Nat) + (1 : Nat) + (1 : Nat) + (1 : Nat) + (1 : Nat) + (1 : Nat) + (1 : Nat)
  + (1 : Nat) + (1 : Nat) + (1 : Nat)) : Int)) = false → True)))))))))))))))))) ∧ ((Ins.op x == (2 : Int)) = false → (St.stack s = [] → wr IntKind.i64 (St.pc s + (1 : Int)) = St.pc z
  ∧ wr IntKind.i64 (St.fuel s - (1 : Int)) = St.fuel z ∧ St.status s = St.status z ∧ St.clause s = St.clause z ∧ ((0 : Nat) + ((0 : Nat) + (1 : Nat)) ≤ List.length ([] ++ [Ins.n x])
  ∧ List.take ((0 : Nat) + (1 : Nat)) ([] ++ [Ins.n x]) = St.stack z) ∧ True) ∧ (St.stack s ≠ [] → ((0 : Nat) + (1 : Nat) ≤ (0 : Nat) + List.length (St.stack s) ∧ ((0 : Nat) +
  List.length (St.stack s)) * (8 : Nat) ≤ (140737488355328 : Nat)) ∧ ((0 : Nat) + List.length (St.stack s) ≤ List.length ([] ++ St.stack s) ∧ (0 : Nat) ≤ (0 : Nat) + List.length
  (St.stack s) ∧ ((0 : Nat) + List.length (St.stack s) + (1 : Nat)) * (8 : Nat) ≤ (140737488355328 : Nat)) ∧ wr IntKind.i64 (St.pc s + (1 : Int)) = St.pc z ∧ wr IntKind.i64 (St.fuel
  s - (1 : Int)) = St.fuel z ∧ St.status s = St.status z ∧ St.clause s = St.clause z ∧ ((0 : Nat) + ((0 : Nat) + List.length (St.stack s) + (1 : Nat)) ≤ List.length (List.take ((0 :
  Nat) + List.length (St.stack s)) ([] ++ St.stack s) ++ [Ins.n x]) ∧ List.take ((0 : Nat) + List.length (St.stack s) + (1 : Nat)) (List.take ((0 : Nat) + List.length (St.stack s))
  ([] ++ St.stack s) ++ [Ins.n x]) = St.stack z) ∧ True)))) ∧ ((Ins.op x == (1 : Int)) = false → ((Ins.op x == (2 : Int)) = true → (decide (wr IntKind.i64 (below + (↑(List.length
  (St.stack s)) : Int)) ≥ (64 : Int)) = true → St.pc s = St.pc z ∧ wr IntKind.i64 (St.fuel s - (1 : Int)) = St.fuel z ∧ (210 : Int) = St.status z ∧ St.clause s = St.clause z ∧
  (St.stack s = St.stack z ∧ (false = true → false = true)) ∧ True) ∧ (decide (wr IntKind.i64 (below + (↑(List.length (St.stack s)) : Int)) ≥ (64 : Int)) = false → ((Ins.op x == (2 :
  Int)) = true → (0 : Int) ≤ Ins.n x ∧ ((bitsOp BinOp.and IntKind.i64 (Int.fdiv (Env.has v) ((2 : Int) ^ min (Int.toNat (Ins.n x)) (IntKind.bits IntKind.i64))) (1 : Int) == (0 :
  Int)) = true → St.pc s = St.pc z ∧ wr IntKind.i64 (St.fuel s - (1 : Int)) = St.fuel z ∧ (191 : Int) = St.status z ∧ St.clause s = St.clause z ∧ (St.stack s = St.stack z ∧ (false =
  true → false = true)) ∧ True) ∧ ((bitsOp BinOp.and IntKind.i64 (Int.fdiv (Env.has v) ((2 : Int) ^ min (Int.toNat (Ins.n x)) (IntKind.bits IntKind.i64))) (1 : Int) == (0 : Int)) =
  false → (0 : Int) ≤ Ins.n x ∧ Ins.n x + (1 : Int) ≤ (↑(16 : Nat) : Int) ∧ ((Ins.n x == (↑(0 : Nat) : Int)) = true → ∃ (Q : Bool → Prop), ((decide (Env.v0 v < (-9007199254740992 :
  Int)) = true → Q true) ∧ (decide (Env.v0 v < (-9007199254740992 : Int)) = false → (decide (Env.v0 v > (9007199254740992 : Int)) = true → Q true) ∧ (decide (Env.v0 v >
  (9007199254740992 : Int)) = false → Q false))) ∧ (Q true → St.pc s = St.pc z ∧ wr IntKind.i64 (St.fuel s - (1 : Int)) = St.fuel z ∧ (13 : Int) = St.status z ∧ St.clause s =
  St.clause z ∧ (St.stack s = St.stack z ∧ (false = true → false = true)) ∧ True) ∧ (Q false → (St.stack s = [] → wr IntKind.i64 (St.pc s + (1 : Int)) = St.pc z ∧ wr IntKind.i64
  (St.fuel s - (1 : Int)) = St.fuel z ∧ St.status s = St.status z ∧ St.clause s = St.clause z ∧ ((0 : Nat) + ((0 : Nat) + (1 : Nat)) ≤ List.length ([] ++ [Env.v0 v]) ∧ List.take ((0
  : Nat) + (1 : Nat)) ([] ++ [Env.v0 v]) = St.stack z) ∧ True) ∧ (St.stack s ≠ [] → ((0 : Nat) + (1 : Nat) ≤ (0 : Nat) + List.length (St.stack s) ∧ ((0 : Nat) + List.length (St.stack
  s)) * (8 : Nat) ≤ (140737488355328 : Nat)) ∧ ((0 : Nat) + List.length (St.stack s) ≤ List.length ([] ++ St.stack s) ∧ (0 : Nat) ≤ (0 : Nat) + List.length (St.stack s) ∧ ((0 : Nat)
  + List.length (St.stack s) + (1 : Nat)) * (8 : Nat) ≤ (140737488355328 : Nat)) ∧ wr IntKind.i64 (St.pc s + (1 : Int)) = St.pc z ∧ wr IntKind.i64 (St.fuel s - (1 : Int)) = St.fuel z
  ∧ St.status s = St.status z ∧ St.clause s = St.clause z ∧ ((0 : Nat) + ((0 : Nat) + List.length (St.stack s) + (1 : Nat)) ≤ List.length (List.take ((0 : Nat) + List.length
  (St.stack s)) ([] ++ St.stack s) ++ [Env.v0 v]) ∧ List.take ((0 : Nat) + List.length (St.stack s) + (1 : Nat)) (List.take ((0 : Nat) + List.length (St.stack s)) ([] ++ St.stack s)
  ++ [Env.v0 v]) = St.stack z) ∧ True))) ∧ ((Ins.n x == (↑(0 : Nat) : Int)) = false → ((Ins.n x == (↑((0 : Nat) + (1 : Nat)) : Int)) = true → ∃ (Q : Bool → Prop), ((decide (Env.v1 v
  < (-9007199254740992 : Int)) = true → Q true) ∧ (decide (Env.v1 v < (-9007199254740992 : Int)) = false → (decide (Env.v1 v > (9007199254740992 : Int)) = true → Q true) ∧ (decide
  (Env.v1 v > (9007199254740992 : Int)) = false → Q false))) ∧ (Q true → St.pc s = St.pc z ∧ wr IntKind.i64 (St.fuel s - (1 : Int)) = St.fuel z ∧ (13 : Int) = St.status z ∧ St.clause
  s = St.clause z ∧ (St.stack s = St.stack z ∧ (false = true → false = true)) ∧ True) ∧ (Q false → (St.stack s = [] → wr IntKind.i64 (St.pc s + (1 : Int)) = St.pc z ∧ wr IntKind.i64
  (St.fuel s - (1 : Int)) = St.fuel z ∧ St.status s = St.status z ∧ St.clause s = St.clause z ∧ ((0 : Nat) + ((0 : Nat) + (1 : Nat)) ≤ List.length ([] ++ [Env.v1 v]) ∧ List.take ((0
  : Nat) + (1 : Nat)) ([] ++ [Env.v1 v]) = St.stack z) ∧ True) ∧ (St.stack s ≠ [] → ((0 : Nat) + (1 : Nat) ≤ (0 : Nat) + List.length (St.stack s) ∧ ((0 : Nat) + List.length (St.stack
  s)) * (8 : Nat) ≤ (140737488355328 : Nat)) ∧ ((0 : Nat) + List.length (St.stack s) ≤ List.length ([] ++ St.stack s) ∧ (0 : Nat) ≤ (0 : Nat) + List.length (St.stack s) ∧ ((0 : Nat)
  + List.length (St.stack s) + (1 : Nat)) * (8 : Nat) ≤ (140737488355328 : Nat)) ∧ wr IntKind.i64 (St.pc s + (1 : Int)) = St.pc z ∧ wr IntKind.i64 (St.fuel s - (1 : Int)) = St.fuel z
  ∧ St.status s = St.status z ∧ St.clause s = St.clause z ∧ ((0 : Nat) + ((0 : Nat) + List.length (St.stack s) + (1 : Nat)) ≤ List.length (List.take ((0 : Nat) + List.length
  (St.stack s)) ([] ++ St.stack s) ++ [Env.v1 v]) ∧ List.take ((0 : Nat) + List.length (St.stack s) + (1 : Nat)) (List.take ((0 : Nat) + List.length (St.stack s)) ([] ++ St.stack s)
  ++ [Env.v1 v]) = St.stack z) ∧ True))) ∧ ((Ins.n x == (↑((0 : Nat) + (1 : Nat)) : Int)) = false → ((Ins.n x == (↑((0 : Nat) + (1 : Nat) + (1 : Nat)) : Int)) = true → ∃ (Q : Bool →
  Prop), ((decide (Env.v2 v < (-9007199254740992 : Int)) = true → Q true) ∧ (decide (Env.v2 v < (-9007199254740992 : Int)) = false → (decide (Env.v2 v > (9007199254740992 : Int)) =
  true → Q true) ∧ (decide (Env.v2 v > (9007199254740992 : Int)) = false → Q false))) ∧ (Q true → St.pc s = St.pc z ∧ wr IntKind.i64 (St.fuel s - (1 : Int)) = St.fuel z ∧ (13 : Int)
  = St.status z ∧ St.clause s = St.clause z ∧ (St.stack s = St.stack z ∧ (false = true → false = true)) ∧ True) ∧ (Q false → (St.stack s = [] → wr IntKind.i64 (St.pc s + (1 : Int)) =
  St.pc z ∧ wr IntKind.i64 (St.fuel s - (1 : Int)) = St.fuel z ∧ St.status s = St.status z ∧ St.clause s = St.clause z ∧ ((0 : Nat) + ((0 : Nat) + (1 : Nat)) ≤ List.length ([] ++
  [Env.v2 v]) ∧ List.take ((0 : Nat) + (1 : Nat)) ([] ++ [Env.v2 v]) = St.stack z) ∧ True) ∧ (St.stack s ≠ [] → ((0 : Nat) + (1 : Nat) ≤ (0 : Nat) + List.length (St.stack s) ∧ ((0 :
  Nat) + List.length (St.stack s)) * (8 : Nat) ≤ (140737488355328 : Nat)) ∧ ((0 : Nat) + List.length (St.stack s) ≤ List.length ([] ++ St.stack s) ∧ (0 : Nat) ≤ (0 : Nat) +
  List.length (St.stack s) ∧ ((0 : Nat) + List.length (St.stack s) + (1 : Nat)) * (8 : Nat) ≤ (140737488355328 : Nat)) ∧ wr IntKind.i64 (St.pc s + (1 : Int)) = St.pc z ∧ wr
  IntKind.i64 (St.fuel s - (1 : Int)) = St.fuel z ∧ St.status s = St.status z ∧ St.clause s = St.clause z ∧ ((0 : Nat) + ((0 : Nat) + List.length (St.stack s) + (1 : Nat)) ≤
  List.length (List.take ((0 : Nat) + List.length (St.stack s)) ([] ++ St.stack s) ++ [Env.v2 v]) ∧ List.take ((0 : Nat) + List.length (St.stack s) + (1 : Nat)) (List.take ((0 : Nat)
  + List.length (St.stack s)) ([] ++ St.stack s) ++ [Env.v2 v]) = St.stack z) ∧ True))) ∧ ((Ins.n x == (↑((0 : Nat) + (1 : Nat) + (1 : Nat)) : Int)) = false → ((Ins.n x == (↑((0 :
  Nat) + (1 : Nat) + (1 : Nat) + (1 : Nat)) : Int)) = true → ∃ (Q : Bool → Prop), ((decide (Env.v3 v < (-9007199254740992 : Int)) = true → Q true) ∧ (decide (Env.v3 v <
  (-9007199254740992 : Int)) = false → (decide (Env.v3 v > (9007199254740992 : Int)) = true → Q true) ∧ (decide (Env.v3 v > (9007199254740992 : Int)) = false → Q false))) ∧ (Q true →
  St.pc s = St.pc z ∧ wr IntKind.i64 (St.fuel s - (1 : Int)) = St.fuel z ∧ (13 : Int) = St.status z ∧ St.clause s = St.clause z ∧ (St.stack s = St.stack z ∧ (false = true → false =
  true)) ∧ True) ∧ (Q false → (St.stack s = [] → wr IntKind.i64 (St.pc s + (1 : Int)) = St.pc z ∧ wr IntKind.i64 (St.fuel s - (1 : Int)) = St.fuel z ∧ St.status s = St.status z ∧
  St.clause s = St.clause z ∧ ((0 : Nat) + ((0 : Nat) + (1 : Nat)) ≤ List.length ([] ++ [Env.v3 v]) ∧ List.take ((0 : Nat) + (1 : Nat)) ([] ++ [Env.v3 v]) = St.stack z) ∧ True) ∧
  (St.stack s ≠ [] → ((0 : Nat) + (1 : Nat) ≤ (0 : Nat) + List.length (St.stack s) ∧ ((0 : Nat) + List.length (St.stack s)) * (8 : Nat) ≤ (140737488355328 : Nat)) ∧ ((0 : Nat) +
  List.length (St.stack s) ≤ List.length ([] ++ St.stack s) ∧ (0 : Nat) ≤ (0 : Nat) + List.length (St.stack s) ∧ ((0 : Nat) + List.length (St.stack s) + (1 : Nat)) * (8 : Nat) ≤
  (140737488355328 : Nat)) ∧ wr IntKind.i64 (St.pc s + (1 : Int)) = St.pc z ∧ wr IntKind.i64 (St.fuel s - (1 : Int)) = St.fuel z ∧ St.status s = St.status z ∧ St.clause s = St.clause
  z ∧ ((0 : Nat) + ((0 : Nat) + List.length (St.stack s) + (1 : Nat)) ≤ List.length (List.take ((0 : Nat) + List.length (St.stack s)) ([] ++ St.stack s) ++ [Env.v3 v]) ∧ List.take
  ((0 : Nat) + List.length (St.stack s) + (1 : Nat)) (List.take ((0 : Nat) + List.length (St.stack s)) ([] ++ St.stack s) ++ [Env.v3 v]) = St.stack z) ∧ True))) ∧ ((Ins.n x == (↑((0
  : Nat) + (1 : Nat) + (1 : Nat) + (1 : Nat)) : Int)) = false → ((Ins.n x == (↑((0 : Nat) + (1 : Nat) + (1 : Nat) + (1 : Nat) + (1 : Nat)) : Int)) = true → ∃ (Q : Bool → Prop),
  ((decide (Env.v4 v < (-9007199254740992 : Int)) = true → Q true) ∧ (decide (Env.v4 v < (-9007199254740992 : Int)) = false → (decide (Env.v4 v > (9007199254740992 : Int)) = true → Q
  true) ∧ (decide (Env.v4 v > (9007199254740992 : Int)) = false → Q false))) ∧ (Q true → St.pc s = St.pc z ∧ wr IntKind.i64 (St.fuel s - (1 : Int)) = St.fuel z ∧ (13 : Int) =
  St.status z ∧ St.clause s = St.clause z ∧ (St.stack s = St.stack z ∧ (false = true → false = true)) ∧ True) ∧ (Q false → (St.stack s = [] → wr IntKind.i64 (St.pc s + (1 : Int)) =
  St.pc z ∧ wr IntKind.i64 (St.fuel s - (1 : Int)) = St.fuel z ∧ St.status s = St.status z ∧ St.clause s = St.clause z ∧ ((0 : Nat) + ((0 : Nat) + (1 : Nat)) ≤ List.length ([] ++
  [Env.v4 v]) ∧ List.take ((0 : Nat) + (1 : Nat)) ([] ++ [Env.v4 v]) = St.stack z) ∧ True) ∧ (St.stack s ≠ [] → ((0 : Nat) + (1 : Nat) ≤ (0 : Nat) + List.length (St.stack s) ∧ ((0 :
  Nat) + List.length (St.stack s)) * (8 : Nat) ≤ (140737488355328 : Nat)) ∧ ((0 : Nat) + List.length (St.stack s) ≤ List.length ([] ++ St.stack s) ∧ (0 : Nat) ≤ (0 : Nat) +
  List.length (St.stack s) ∧ ((0 : Nat) + List.length (St.stack s) + (1 : Nat)) * (8 : Nat) ≤ (140737488355328 : Nat)) ∧ wr IntKind.i64 (St.pc s + (1 : Int)) = St.pc z ∧ wr
  IntKind.i64 (St.fuel s - (1 : Int)) = St.fuel z ∧ St.status s = St.status z ∧ St.clause s = St.clause z ∧ ((0 : Nat) + ((0 : Nat) + List.length (St.stack s) + (1 : Nat)) ≤
  List.length (List.take ((0 : Nat) + List.length (St.stack s)) ([] ++ St.stack s) ++ [Env.v4 v]) ∧ List.take ((0 : Nat) + List.length (St.stack s) + (1 : Nat)) (List.take ((0 : Nat)
  + List.length (St.stack s)) ([] ++ St.stack s) ++ [Env.v4 v]) = St.stack z) ∧ True))) ∧ ((Ins.n x == (↑((0 : Nat) + (1 : Nat) + (1 : Nat) + (1 : Nat) + (1 : Nat)) : Int)) = false →
  ((Ins.n x == (↑((0 : Nat) + (1 : Nat) + (1 : Nat) + (1 : Nat) + (1 : Nat) + (1 : Nat)) : Int)) = true → ∃ (Q : Bool → Prop), ((decide (Env.v5 v < (-9007199254740992 : Int)) = true
  → Q true) ∧ (decide (Env.v5 v < (-9007199254740992 : Int)) = false → (decide (Env.v5 v > (9007199254740992 : Int)) = true → Q true) ∧ (decide (Env.v5 v > (9007199254740992 : Int))
  = false → Q false))) ∧ (Q true → St.pc s = St.pc z ∧ wr IntKind.i64 (St.fuel s - (1 : Int)) = St.fuel z ∧ (13 : Int) = St.status z ∧ St.clause s = St.clause z ∧ (St.stack s =
  St.stack z ∧ (false = true → false = true)) ∧ True) ∧ (Q false → (St.stack s = [] → wr IntKind.i64 (St.pc s + (1 : Int)) = St.pc z ∧ wr IntKind.i64 (St.fuel s - (1 : Int)) =
  St.fuel z ∧ St.status s = St.status z ∧ St.clause s = St.clause z ∧ ((0 : Nat) + ((0 : Nat) + (1 : Nat)) ≤ List.length ([] ++ [Env.v5 v]) ∧ List.take ((0 : Nat) + (1 : Nat)) ([] ++
  [Env.v5 v]) = St.stack z) ∧ True) ∧ (St.stack s ≠ [] → ((0 : Nat) + (1 : Nat) ≤ (0 : Nat) + List.length (St.stack s) ∧ ((0 : Nat) + List.length (St.stack s)) * (8 : Nat) ≤
  (140737488355328 : Nat)) ∧ ((0 : Nat) + List.length (St.stack s) ≤ List.length ([] ++ St.stack s) ∧ (0 : Nat) ≤ (0 : Nat) + List.length (St.stack s) ∧ ((0 : Nat) + List.length
  (St.stack s) + (1 : Nat)) * (8 : Nat) ≤ (140737488355328 : Nat)) ∧ wr IntKind.i64 (St.pc s + (1 : Int)) = St.pc z ∧ wr IntKind.i64 (St.fuel s - (1 : Int)) = St.fuel z ∧ St.status s
  = St.status z ∧ St.clause s = St.clause z ∧ ((0 : Nat) + ((0 : Nat) + List.length (St.stack s) + (1 : Nat)) ≤ List.length (List.take ((0 : Nat) + List.length (St.stack s)) ([] ++
  St.stack s) ++ [Env.v5 v]) ∧ List.take ((0 : Nat) + List.length (St.stack s) + (1 : Nat)) (List.take ((0 : Nat) + List.length (St.stack s)) ([] ++ St.stack s) ++ [Env.v5 v]) =
  St.stack z) ∧ True))) ∧ ((Ins.n x == (↑((0 : Nat) + (1 : Nat) + (1 : Nat) + (1 : Nat) + (1 : Nat) + (1 : Nat)) : Int)) = false → ((Ins.n x == (↑((0 : Nat) + (1 : Nat) + (1 : Nat) +
  (1 : Nat) + (1 : Nat) + (1 : Nat) + (1 : Nat)) : Int)) = true → ∃ (Q : Bool → Prop), ((decide (Env.v6 v < (-9007199254740992 : Int)) = true → Q true) ∧ (decide (Env.v6 v <
  (-9007199254740992 : Int)) = false → (decide (Env.v6 v > (9007199254740992 : Int)) = true → Q true) ∧ (decide (Env.v6 v > (9007199254740992 : Int)) = false → Q false))) ∧ (Q true →
  St.pc s = St.pc z ∧ wr IntKind.i64 (St.fuel s - (1 : Int)) = St.fuel z ∧ (13 : Int) = St.status z ∧ St.clause s = St.clause z ∧ (St.stack s = St.stack z ∧ (false = true → false =
  true)) ∧ True) ∧ (Q false → (St.stack s = [] → wr IntKind.i64 (St.pc s + (1 : Int)) = St.pc z ∧ wr IntKind.i64 (St.fuel s - (1 : Int)) = St.fuel z ∧ St.status s = St.status z ∧
  St.clause s = St.clause z ∧ ((0 : Nat) + ((0 : Nat) + (1 : Nat)) ≤ List.length ([] ++ [Env.v6 v]) ∧ List.take ((0 : Nat) + (1 : Nat)) ([] ++ [Env.v6 v]) = St.stack z) ∧ True) ∧
  (St.stack s ≠ [] → ((0 : Nat) + (1 : Nat) ≤ (0 : Nat) + List.length (St.stack s) ∧ ((0 : Nat) + List.length (St.stack s)) * (8 : Nat) ≤ (140737488355328 : Nat)) ∧ ((0 : Nat) +
  List.length (St.stack s) ≤ List.length ([] ++ St.stack s) ∧ (0 : Nat) ≤ (0 : Nat) + List.length (St.stack s) ∧ ((0 : Nat) + List.length (St.stack s) + (1 : Nat)) * (8 : Nat) ≤
  (140737488355328 : Nat)) ∧ wr IntKind.i64 (St.pc s + (1 : Int)) = St.pc z ∧ wr IntKind.i64 (St.fuel s - (1 : Int)) = St.fuel z ∧ St.status s = St.status z ∧ St.clause s = St.clause
  z ∧ ((0 : Nat) + ((0 : Nat) + List.length (St.stack s) + (1 : Nat)) ≤ List.length (List.take ((0 : Nat) + List.length (St.stack s)) ([] ++ St.stack s) ++ [Env.v6 v]) ∧ List.take
  ((0 : Nat) + List.length (St.stack s) + (1 : Nat)) (List.take ((0 : Nat) + List.length (St.stack s)) ([] ++ St.stack s) ++ [Env.v6 v]) = St.stack z) ∧ True))) ∧ ((Ins.n x == (↑((0
  : Nat) + (1 : Nat) + (1 : Nat) + (1 : Nat) + (1 : Nat) + (1 : Nat) + (1 : Nat)) : Int)) = false → ((Ins.n x == (↑((0 : Nat) + (1 : Nat) + (1 : Nat) + (1 : Nat) + (1 : Nat) + (1 :
  Nat) + (1 : Nat) + (1 : Nat)) : Int)) = true → ∃ (Q : Bool → Prop), ((decide (Env.v7 v < (-9007199254740992 : Int)) = true → Q true) ∧ (decide (Env.v7 v < (-9007199254740992 :
  Int)) = false → (decide (Env.v7 v > (9007199254740992 : Int)) = true → Q true) ∧ (decide (Env.v7 v > (9007199254740992 : Int)) = false → Q false))) ∧ (Q true → St.pc s = St.pc z ∧
  wr IntKind.i64 (St.fuel s - (1 : Int)) = St.fuel z ∧ (13 : Int) = St.status z ∧ St.clause s = St.clause z ∧ (St.stack s = St.stack z ∧ (false = true → false = true)) ∧ True) ∧ (Q
  false → (St.stack s = [] → wr IntKind.i64 (St.pc s + (1 : Int)) = St.pc z ∧ wr IntKind.i64 (St.fuel s - (1 : Int)) = St.fuel z ∧ St.status s = St.status z ∧ St.clause s = St.clause
  z ∧ ((0 : Nat) + ((0 : Nat) + (1 : Nat)) ≤ List.length ([] ++ [Env.v7 v]) ∧ List.take ((0 : Nat) + (1 : Nat)) ([] ++ [Env.v7 v]) = St.stack z) ∧ True) ∧ (St.stack s ≠ [] → ((0 :
  Nat) + (1 : Nat) ≤ (0 : Nat) + List.length (St.stack s) ∧ ((0 : Nat) + List.length (St.stack s)) * (8 : Nat) ≤ (140737488355328 : Nat)) ∧ ((0 : Nat) + List.length (St.stack s) ≤
  List.length ([] ++ St.stack s) ∧ (0 : Nat) ≤ (0 : Nat) + List.length (St.stack s) ∧ ((0 : Nat) + List.length (St.stack s) + (1 : Nat)) * (8 : Nat) ≤ (140737488355328 : Nat)) ∧ wr
  IntKind.i64 (St.pc s + (1 : Int)) = St.pc z ∧ wr IntKind.i64 (St.fuel s - (1 : Int)) = St.fuel z ∧ St.status s = St.status z ∧ St.clause s = St.clause z ∧ ((0 : Nat) + ((0 : Nat) +
  List.length (St.stack s) + (1 : Nat)) ≤ List.length (List.take ((0 : Nat) + List.length (St.stack s)) ([] ++ St.stack s) ++ [Env.v7 v]) ∧ List.take ((0 : Nat) + List.length
  (St.stack s) + (1 : Nat)) (List.take ((0 : Nat) + List.length (St.stack s)) ([] ++ St.stack s) ++ [Env.v7 v]) = St.stack z) ∧ True))) ∧ ((Ins.n x == (↑((0 : Nat) + (1 : Nat) + (1 :
  Nat) + (1 : Nat) + (1 : Nat) + (1 : Nat) + (1 : Nat) + (1 : Nat)) : Int)) = false → ((Ins.n x == (↑((0 : Nat) + (1 : Nat) + (1 : Nat) + (1 : Nat) + (1 : Nat) + (1 : Nat) + (1 :
  Nat) + (1 : Nat) + (1 : Nat)) : Int)) = true → ∃ (Q : Bool → Prop), ((decide (Env.v8 v < (-9007199254740992 : Int)) = true → Q true) ∧ (decide (Env.v8 v < (-9007199254740992 :
  Int)) = false → (decide (Env.v8 v > (9007199254740992 : Int)) = true → Q true) ∧ (decide (Env.v8 v > (9007199254740992 : Int)) = false → Q false))) ∧ (Q true → St.pc s = St.pc z ∧
  wr IntKind.i64 (St.fuel s - (1 : Int)) = St.fuel z ∧ (13 : Int) = St.status z ∧ St.clause s = St.clause z ∧ (St.stack s = St.stack z ∧ (false = true → false = true)) ∧ True) ∧ (Q
  false → (St.stack s = [] → wr IntKind.i64 (St.pc s + (1 : Int)) = St.pc z ∧ wr IntKind.i64 (St.fuel s - (1 : Int)) = St.fuel z ∧ St.status s = St.status z ∧ St.clause s = St.clause
  z ∧ ((0 : Nat) + ((0 : Nat) + (1 : Nat)) ≤ List.length ([] ++ [Env.v8 v]) ∧ List.take ((0 : Nat) + (1 : Nat)) ([] ++ [Env.v8 v]) = St.stack z) ∧ True) ∧ (St.stack s ≠ [] → ((0 :
  Nat) + (1 : Nat) ≤ (0 : Nat) + List.length (St.stack s) ∧ ((0 : Nat) + List.length (St.stack s)) * (8 : Nat) ≤ (140737488355328 : Nat)) ∧ ((0 : Nat) + List.length (St.stack s) ≤
  List.length ([] ++ St.stack s) ∧ (0 : Nat) ≤ (0 : Nat) + List.length (St.stack s) ∧ ((0 : Nat) + List.length (St.stack s) + (1 : Nat)) * (8 : Nat) ≤ (140737488355328 : Nat)) ∧ wr
  IntKind.i64 (St.pc s + (1 : Int)) = St.pc z ∧ wr IntKind.i64 (St.fuel s - (1 : Int)) = St.fuel z ∧ St.status s = St.status z ∧ St.clause s = St.clause z ∧ ((0 : Nat) + ((0 : Nat) +
  List.length (St.stack s) + (1 : Nat)) ≤ List.length (List.take ((0 : Nat) + List.length (St.stack s)) ([] ++ St.stack s) ++ [Env.v8 v]) ∧ List.take ((0 : Nat) + List.length
  (St.stack s) + (1 : Nat)) (List.take ((0 : Nat) + List.length (St.stack s)) ([] ++ St.stack s) ++ [Env.v8 v]) = St.stack z) ∧ True))) ∧ ((Ins.n x == (↑((0 : Nat) + (1 : Nat) + (1 :
  Nat) + (1 : Nat) + (1 : Nat) + (1 : Nat) + (1 : Nat) + (1 : Nat) + (1 : Nat)) : Int)) = false → ((Ins.n x == (↑((0 : Nat) + (1 : Nat) + (1 : Nat) + (1 : Nat) + (1 : Nat) + (1 :
  Nat) + (1 : Nat) + (1 : Nat) + (1 : Nat) + (1 : Nat)) : Int)) = true → ∃ (Q : Bool → Prop), ((decide (Env.v9 v < (-9007199254740992 : Int)) = true → Q true) ∧ (decide (Env.v9 v <
  (-9007199254740992 : Int)) = false → (decide (Env.v9 v > (9007199254740992 : Int)) = true → Q true) ∧ (decide (Env.v9 v > (9007199254740992 : Int)) = false → Q false))) ∧ (Q true →
  St.pc s = St.pc z ∧ wr IntKind.i64 (St.fuel s - (1 : Int)) = St.fuel z ∧ (13 : Int) = St.status z ∧ St.clause s = St.clause z ∧ (St.stack s = St.stack z ∧ (false = true → false =
  true)) ∧ True) ∧ (Q false → (St.stack s = [] → wr IntKind.i64 (St.pc s + (1 : Int)) = St.pc z ∧ wr IntKind.i64 (St.fuel s - (1 : Int)) = St.fuel z ∧ St.status s = St.status z ∧
  St.clause s = St.clause z ∧ ((0 : Nat) + ((0 : Nat) + (1 : Nat)) ≤ List.length ([] ++ [Env.v9 v]) ∧ List.take ((0 : Nat) + (1 : Nat)) ([] ++ [Env.v9 v]) = St.stack z) ∧ True) ∧
  (St.stack s ≠ [] → ((0 : Nat) + (1 : Nat) ≤ (0 : Nat) + List.length (St.stack s) ∧ ((0 : Nat) + List.length (St.stack s)) * (8 : Nat) ≤ (140737488355328 : Nat)) ∧ ((0 : Nat) +
  List.length (St.stack s) ≤ List.length ([] ++ St.stack s) ∧ (0 : Nat) ≤ (0 : Nat) + List.length (St.stack s) ∧ ((0 : Nat) + List.length (St.stack s) + (1 : Nat)) * (8 : Nat) ≤
  (140737488355328 : Nat)) ∧ wr IntKind.i64 (St.pc s + (1 : Int)) = St.pc z ∧ wr IntKind.i64 (St.fuel s - (1 : Int)) = St.fuel z ∧ St.status s = St.status z ∧ St.clause s = St.clause
  z ∧ ((0 : Nat) + ((0 : Nat) + List.length (St.stack s) + (1 : Nat)) ≤ List.length (List.take ((0 : Nat) + List.length (St.stack s)) ([] ++ St.stack s) ++ [Env.v9 v]) ∧ List.take
  ((0 : Nat) + List.length (St.stack s) + (1 : Nat)) (List.take ((0 : Nat) + List.length (St.stack s)) ([] ++ St.stack s) ++ [Env.v9 v]) = St.stack z) ∧ True))) ∧ ((Ins.n x == (↑((0
  : Nat) + (1 : Nat) + (1 : Nat) + (1 : Nat) + (1 : Nat) + (1 : Nat) + (1 : Nat) + (1 : Nat) + (1 : Nat) + (1 : Nat)) : Int)) = false → ((Ins.n x == (↑((0 : Nat) + (1 : Nat) + (1 :
  Nat) + (1 : Nat) + (1 : Nat) + (1 : Nat) + (1 : Nat) + (1 : Nat) + (1 : Nat) + (1 : Nat) + (1 : Nat)) : Int)) = true → ∃ (Q : Bool → Prop), ((decide (Env.v10 v < (-9007199254740992
  : Int)) = true → Q true) ∧ (decide (Env.v10 v < (-9007199254740992 : Int)) = false → (decide (Env.v10 v > (9007199254740992 : Int)) = true → Q true) ∧ (decide (Env.v10 v >
  (9007199254740992 : Int)) = false → Q false))) ∧ (Q true → St.pc s = St.pc z ∧ wr IntKind.i64 (St.fuel s - (1 : Int)) = St.fuel z ∧ (13 : Int) = St.status z ∧ St.clause s =
  St.clause z ∧ (St.stack s = St.stack z ∧ (false = true → false = true)) ∧ True) ∧ (Q false → (St.stack s = [] → wr IntKind.i64 (St.pc s + (1 : Int)) = St.pc z ∧ wr IntKind.i64
  (St.fuel s - (1 : Int)) = St.fuel z ∧ St.status s = St.status z ∧ St.clause s = St.clause z ∧ ((0 : Nat) + ((0 : Nat) + (1 : Nat)) ≤ List.length ([] ++ [Env.v10 v]) ∧ List.take ((0
  : Nat) + (1 : Nat)) ([] ++ [Env.v10 v]) = St.stack z) ∧ True) ∧ (St.stack s ≠ [] → ((0 : Nat) + (1 : Nat) ≤ (0 : Nat) + List.length (St.stack s) ∧ ((0 : Nat) + List.length
  (St.stack s)) * (8 : Nat) ≤ (140737488355328 : Nat)) ∧ ((0 : Nat) + List.length (St.stack s) ≤ List.length ([] ++ St.stack s) ∧ (0 : Nat) ≤ (0 : Nat) + List.length (St.stack s) ∧
  ((0 : Nat) + List.length (St.stack s) + (1 : Nat)) * (8 : Nat) ≤ (140737488355328 : Nat)) ∧ wr IntKind.i64 (St.pc s + (1 : Int)) = St.pc z ∧ wr IntKind.i64 (St.fuel s - (1 : Int))
  = St.fuel z ∧ St.status s = St.status z ∧ St.clause s = St.clause z ∧ ((0 : Nat) + ((0 : Nat) + List.length (St.stack s) + (1 : Nat)) ≤ List.length (List.take ((0 : Nat) +
  List.length (St.stack s)) ([] ++ St.stack s) ++ [Env.v10 v]) ∧ List.take ((0 : Nat) + List.length (St.stack s) + (1 : Nat)) (List.take ((0 : Nat) + List.length (St.stack s)) ([] ++
  St.stack s) ++ [Env.v10 v]) = St.stack z) ∧ True))) ∧ ((Ins.n x == (↑((0 : Nat) + (1 : Nat) + (1 : Nat) + (1 : Nat) + (1 : Nat) + (1 : Nat) + (1 : Nat) + (1 : Nat) + (1 : Nat) + (1
  : Nat) + (1 : Nat)) : Int)) = false → ((Ins.n x == (↑((0 : Nat) + (1 : Nat) + (1 : Nat) + (1 : Nat) + (1 : Nat) + (1 : Nat) + (1 : Nat) + (1 : Nat) + (1 : Nat) + (1 : Nat) + (1 :
  Nat) + (1 : Nat)) : Int)) = true → ∃ (Q : Bool → Prop), ((decide (Env.v11 v < (-9007199254740992 : Int)) = true → Q true) ∧ (decide (Env.v11 v < (-9007199254740992 : Int)) = false
  → (decide (Env.v11 v > (9007199254740992 : Int)) = true → Q true) ∧ (decide (Env.v11 v > (9007199254740992 : Int)) = false → Q false))) ∧ (Q true → St.pc s = St.pc z ∧ wr
  IntKind.i64 (St.fuel s - (1 : Int)) = St.fuel z ∧ (13 : Int) = St.status z ∧ St.clause s = St.clause z ∧ (St.stack s = St.stack z ∧ (false = true → false = true)) ∧ True) ∧ (Q
  false → (St.stack s = [] → wr IntKind.i64 (St.pc s + (1 : Int)) = St.pc z ∧ wr IntKind.i64 (St.fuel s - (1 : Int)) = St.fuel z ∧ St.status s = St.status z ∧ St.clause s = St.clause
  z ∧ ((0 : Nat) + ((0 : Nat) + (1 : Nat)) ≤ List.length ([] ++ [Env.v11 v]) ∧ List.take ((0 : Nat) + (1 : Nat)) ([] ++ [Env.v11 v]) = St.stack z) ∧ True) ∧ (St.stack s ≠ [] → ((0 :
  Nat) + (1 : Nat) ≤ (0 : Nat) + List.length (St.stack s) ∧ ((0 : Nat) + List.length (St.stack s)) * (8 : Nat) ≤ (140737488355328 : Nat)) ∧ ((0 : Nat) + List.length (St.stack s) ≤
  List.length ([] ++ St.stack s) ∧ (0 : Nat) ≤ (0 : Nat) + List.length (St.stack s) ∧ ((0 : Nat) + List.length (St.stack s) + (1 : Nat)) * (8 : Nat) ≤ (140737488355328 : Nat)) ∧ wr
  IntKind.i64 (St.pc s + (1 : Int)) = St.pc z ∧ wr IntKind.i64 (St.fuel s - (1 : Int)) = St.fuel z ∧ St.status s = St.status z ∧ St.clause s = St.clause z ∧ ((0 : Nat) + ((0 : Nat) +
  List.length (St.stack s) + (1 : Nat)) ≤ List.length (List.take ((0 : Nat) + List.length (St.stack s)) ([] ++ St.stack s) ++ [Env.v11 v]) ∧ List.take ((0 : Nat) + List.length
  (St.stack s) + (1 : Nat)) (List.take ((0 : Nat) + List.length (St.stack s)) ([] ++ St.stack s) ++ [Env.v11 v]) = St.stack z) ∧ True))) ∧ ((Ins.n x == (↑((0 : Nat) + (1 : Nat) + (1
  : Nat) + (1 : Nat) + (1 : Nat) + (1 : Nat) + (1 : Nat) + (1 : Nat) + (1 : Nat) + (1 : Nat) + (1 : Nat) + (1 : Nat)) : Int)) = false → ((Ins.n x == (↑((0 : Nat) + (1 : Nat) + (1 :
  Nat) + (1 : Nat) + (1 : Nat) + (1 : Nat) + (1 : Nat) + (1 : Nat) + (1 : Nat) + (1 : Nat) + (1 : Nat) + (1 : Nat) + (1 : Nat)) : Int)) = true → ∃ (Q : Bool → Prop), ((decide
  (Env.v12 v < (-9007199254740992 : Int)) = true → Q true) ∧ (decide (Env.v12 v < (-9007199254740992 : Int)) = false → (decide (Env.v12 v > (9007199254740992 : Int)) = true → Q true)
  ∧ (decide (Env.v12 v > (9007199254740992 : Int)) = false → Q false))) ∧ (Q true → St.pc s = St.pc z ∧ wr IntKind.i64 (St.fuel s - (1 : Int)) = St.fuel z ∧ (13 : Int) = St.status z
  ∧ St.clause s = St.clause z ∧ (St.stack s = St.stack z ∧ (false = true → false = true)) ∧ True) ∧ (Q false → (St.stack s = [] → wr IntKind.i64 (St.pc s + (1 : Int)) = St.pc z ∧ wr
  IntKind.i64 (St.fuel s - (1 : Int)) = St.fuel z ∧ St.status s = St.status z ∧ St.clause s = St.clause z ∧ ((0 : Nat) + ((0 : Nat) + (1 : Nat)) ≤ List.length ([] ++ [Env.v12 v]) ∧
  List.take ((0 : Nat) + (1 : Nat)) ([] ++ [Env.v12 v]) = St.stack z) ∧ True) ∧ (St.stack s ≠ [] → ((0 : Nat) + (1 : Nat) ≤ (0 : Nat) + List.length (St.stack s) ∧ ((0 : Nat) +
  List.length (St.stack s)) * (8 : Nat) ≤ (140737488355328 : Nat)) ∧ ((0 : Nat) + List.length (St.stack s) ≤ List.length ([] ++ St.stack s) ∧ (0 : Nat) ≤ (0 : Nat) + List.length
  (St.stack s) ∧ ((0 : Nat) + List.length (St.stack s) + (1 : Nat)) * (8 : Nat) ≤ (140737488355328 : Nat)) ∧ wr IntKind.i64 (St.pc s + (1 : Int)) = St.pc z ∧ wr IntKind.i64 (St.fuel
  s - (1 : Int)) = St.fuel z ∧ St.status s = St.status z ∧ St.clause s = St.clause z ∧ ((0 : Nat) + ((0 : Nat) + List.length (St.stack s) + (1 : Nat)) ≤ List.length (List.take ((0 :
  Nat) + List.length (St.stack s)) ([] ++ St.stack s) ++ [Env.v12 v]) ∧ List.take ((0 : Nat) + List.length (St.stack s) + (1 : Nat)) (List.take ((0 : Nat) + List.length (St.stack s))
  ([] ++ St.stack s) ++ [Env.v12 v]) = St.stack z) ∧ True))) ∧ ((Ins.n x == (↑((0 : Nat) + (1 : Nat) + (1 : Nat) + (1 : Nat) + (1 : Nat) + (1 : Nat) + (1 : Nat) + (1 : Nat) + (1 :
  Nat) + (1 : Nat) + (1 : Nat) + (1 : Nat) + (1 : Nat)) : Int)) = false → ((Ins.n x == (↑((0 : Nat) + (1 : Nat) + (1 : Nat) + (1 : Nat) + (1 : Nat) + (1 : Nat) + (1 : Nat) + (1 :
  Nat) + (1 : Nat) + (1 : Nat) + (1 : Nat) + (1 : Nat) + (1 : Nat) + (1 : Nat)) : Int)) = true → ∃ (Q : Bool → Prop), ((decide (Env.v13 v < (-9007199254740992 : Int)) = true → Q
  true) ∧ (decide (Env.v13 v < (-9007199254740992 : Int)) = false → (decide (Env.v13 v > (9007199254740992 : Int)) = true → Q true) ∧ (decide (Env.v13 v > (9007199254740992 : Int)) =
  false → Q false))) ∧ (Q true → St.pc s = St.pc z ∧ wr IntKind.i64 (St.fuel s - (1 : Int)) = St.fuel z ∧ (13 : Int) = St.status z ∧ St.clause s = St.clause z ∧ (St.stack s =
  St.stack z ∧ (false = true → false = true)) ∧ True) ∧ (Q false → (St.stack s = [] → wr IntKind.i64 (St.pc s + (1 : Int)) = St.pc z ∧ wr IntKind.i64 (St.fuel s - (1 : Int)) =
  St.fuel z ∧ St.status s = St.status z ∧ St.clause s = St.clause z ∧ ((0 : Nat) + ((0 : Nat) + (1 : Nat)) ≤ List.length ([] ++ [Env.v13 v]) ∧ List.take ((0 : Nat) + (1 : Nat)) ([]
  ++ [Env.v13 v]) = St.stack z) ∧ True) ∧ (St.stack s ≠ [] → ((0 : Nat) + (1 : Nat) ≤ (0 : Nat) + List.length (St.stack s) ∧ ((0 : Nat) + List.length (St.stack s)) * (8 : Nat) ≤
  (140737488355328 : Nat)) ∧ ((0 : Nat) + List.length (St.stack s) ≤ List.length ([] ++ St.stack s) ∧ (0 : Nat) ≤ (0 : Nat) + List.length (St.stack s) ∧ ((0 : Nat) + List.length
  (St.stack s) + (1 : Nat)) * (8 : Nat) ≤ (140737488355328 : Nat)) ∧ wr IntKind.i64 (St.pc s + (1 : Int)) = St.pc z ∧ wr IntKind.i64 (St.fuel s - (1 : Int)) = St.fuel z ∧ St.status s
  = St.status z ∧ St.clause s = St.clause z ∧ ((0 : Nat) + ((0 : Nat) + List.length (St.stack s) + (1 : Nat)) ≤ List.length (List.take ((0 : Nat) + List.length (St.stack s)) ([] ++
  St.stack s) ++ [Env.v13 v]) ∧ List.take ((0 : Nat) + List.length (St.stack s) + (1 : Nat)) (List.take ((0 : Nat) + List.length (St.stack s)) ([] ++ St.stack s) ++ [Env.v13 v]) =
  St.stack z) ∧ True))) ∧ ((Ins.n x == (↑((0 : Nat) + (1 : Nat) + (1 : Nat) + (1 : Nat) + (1 : Nat) + (1 : Nat) + (1 : Nat) + (1 : Nat) + (1 : Nat) + (1 : Nat) + (1 : Nat) + (1 :
  Nat) + (1 : Nat) + (1 : Nat)) : Int)) = false → ((Ins.n x == (↑((0 : Nat) + (1 : Nat) + (1 : Nat) + (1 : Nat) + (1 : Nat) + (1 : Nat) + (1 : Nat) + (1 : Nat) + (1 : Nat) + (1 :
  Nat) + (1 : Nat) + (1 : Nat) + (1 : Nat) + (1 : Nat) + (1 : Nat)) : Int)) = true → ∃ (Q : Bool → Prop), ((decide (Env.v14 v < (-9007199254740992 : Int)) = true → Q true) ∧ (decide
  (Env.v14 v < (-9007199254740992 : Int)) = false → (decide (Env.v14 v > (9007199254740992 : Int)) = true → Q true) ∧ (decide (Env.v14 v > (9007199254740992 : Int)) = false → Q
  false))) ∧ (Q true → St.pc s = St.pc z ∧ wr IntKind.i64 (St.fuel s - (1 : Int)) = St.fuel z ∧ (13 : Int) = St.status z ∧ St.clause s = St.clause z ∧ (St.stack s = St.stack z ∧
  (false = true → false = true)) ∧ True) ∧ (Q false → (St.stack s = [] → wr IntKind.i64 (St.pc s + (1 : Int)) = St.pc z ∧ wr IntKind.i64 (St.fuel s - (1 : Int)) = St.fuel z ∧
  St.status s = St.status z ∧ St.clause s = St.clause z ∧ ((0 : Nat) + ((0 : Nat) + (1 : Nat)) ≤ List.length ([] ++ [Env.v14 v]) ∧ List.take ((0 : Nat) + (1 : Nat)) ([] ++ [Env.v14
  v]) = St.stack z) ∧ True) ∧ (St.stack s ≠ [] → ((0 : Nat) + (1 : Nat) ≤ (0 : Nat) + List.length (St.stack s) ∧ ((0 : Nat) + List.length (St.stack s)) * (8 : Nat) ≤ (140737488355328
  : Nat)) ∧ ((0 : Nat) + List.length (St.stack s) ≤ List.length ([] ++ St.stack s) ∧ (0 : Nat) ≤ (0 : Nat) + List.length (St.stack s) ∧ ((0 : Nat) + List.length (St.stack s) + (1 :
  Nat)) * (8 : Nat) ≤ (140737488355328 : Nat)) ∧ wr IntKind.i64 (St.pc s + (1 : Int)) = St.pc z ∧ wr IntKind.i64 (St.fuel s - (1 : Int)) = St.fuel z ∧ St.status s = St.status z ∧
  St.clause s = St.clause z ∧ ((0 : Nat) + ((0 : Nat) + List.length (St.stack s) + (1 : Nat)) ≤ List.length (List.take ((0 : Nat) + List.length (St.stack s)) ([] ++ St.stack s) ++
  [Env.v14 v]) ∧ List.take ((0 : Nat) + List.length (St.stack s) + (1 : Nat)) (List.take ((0 : Nat) + List.length (St.stack s)) ([] ++ St.stack s) ++ [Env.v14 v]) = St.stack z) ∧
  True))) ∧ ((Ins.n x == (↑((0 : Nat) + (1 : Nat) + (1 : Nat) + (1 : Nat) + (1 : Nat) + (1 : Nat) + (1 : Nat) + (1 : Nat) + (1 : Nat) + (1 : Nat) + (1 : Nat) + (1 : Nat) + (1 : Nat)
  + (1 : Nat) + (1 : Nat)) : Int)) = false → ((Ins.n x == (↑((0 : Nat) + (1 : Nat) + (1 : Nat) + (1 : Nat) + (1 : Nat) + (1 : Nat) + (1 : Nat) + (1 : Nat) + (1 : Nat) + (1 : Nat) +
  (1 : Nat) + (1 : Nat) + (1 : Nat) + (1 : Nat) + (1 : Nat) + (1 : Nat)) : Int)) = true → ∃ (Q : Bool → Prop), ((decide (Env.v15 v < (-9007199254740992 : Int)) = true → Q true) ∧
  (decide (Env.v15 v < (-9007199254740992 : Int)) = false → (decide (Env.v15 v > (9007199254740992 : Int)) = true → Q true) ∧ (decide (Env.v15 v > (9007199254740992 : Int)) = false →
  Q false))) ∧ (Q true → St.pc s = St.pc z ∧ wr IntKind.i64 (St.fuel s - (1 : Int)) = St.fuel z ∧ (13 : Int) = St.status z ∧ St.clause s = St.clause z ∧ (St.stack s = St.stack z ∧
  (false = true → false = true)) ∧ True) ∧ (Q false → (St.stack s = [] → wr IntKind.i64 (St.pc s + (1 : Int)) = St.pc z ∧ wr IntKind.i64 (St.fuel s - (1 : Int)) = St.fuel z ∧
  St.status s = St.status z ∧ St.clause s = St.clause z ∧ ((0 : Nat) + ((0 : Nat) + (1 : Nat)) ≤ List.length ([] ++ [Env.v15 v]) ∧ List.take ((0 : Nat) + (1 : Nat)) ([] ++ [Env.v15
  v]) = St.stack z) ∧ True) ∧ (St.stack s ≠ [] → ((0 : Nat) + (1 : Nat) ≤ (0 : Nat) + List.length (St.stack s) ∧ ((0 : Nat) + List.length (St.stack s)) * (8 : Nat) ≤ (140737488355328
  : Nat)) ∧ ((0 : Nat) + List.length (St.stack s) ≤ List.length ([] ++ St.stack s) ∧ (0 : Nat) ≤ (0 : Nat) + List.length (St.stack s) ∧ ((0 : Nat) + List.length (St.stack s) + (1 :
  Nat)) * (8 : Nat) ≤ (140737488355328 : Nat)) ∧ wr IntKind.i64 (St.pc s + (1 : Int)) = St.pc z ∧ wr IntKind.i64 (St.fuel s - (1 : Int)) = St.fuel z ∧ St.status s = St.status z ∧
  St.clause s = St.clause z ∧ ((0 : Nat) + ((0 : Nat) + List.length (St.stack s) + (1 : Nat)) ≤ List.length (List.take ((0 : Nat) + List.length (St.stack s)) ([] ++ St.stack s) ++
  [Env.v15 v]) ∧ List.take ((0 : Nat) + List.length (St.stack s) + (1 : Nat)) (List.take ((0 : Nat) + List.length (St.stack s)) ([] ++ St.stack s) ++ [Env.v15 v]) = St.stack z) ∧
  True))) ∧ ((Ins.n x == (↑((0 : Nat) + (1 : Nat) + (1 : Nat) + (1 : Nat) + (1 : Nat) + (1 : Nat) + (1 : Nat) + (1 : Nat) + (1 : Nat) + (1 : Nat) + (1 : Nat) + (1 : Nat) + (1 : Nat)
  + (1 : Nat) + (1 : Nat) + (1 : Nat)) : Int)) = false → True)))))))))))))))))) ∧ ((Ins.op x == (2 : Int)) = false → (St.stack s = [] → wr IntKind.i64 (St.pc s + (1 : Int)) = St.pc z
  ∧ wr IntKind.i64 (St.fuel s - (1 : Int)) = St.fuel z ∧ St.status s = St.status z ∧ St.clause s = St.clause z ∧ ((0 : Nat) + ((0 : Nat) + (1 : Nat)) ≤ List.length ([] ++ [Ins.n x])
  ∧ List.take ((0 : Nat) + (1 : Nat)) ([] ++ [Ins.n x]) = St.stack z) ∧ True) ∧ (St.stack s ≠ [] → ((0 : Nat) + (1 : Nat) ≤ (0 : Nat) + List.length (St.stack s) ∧ ((0 : Nat) +
  List.length (St.stack s)) * (8 : Nat) ≤ (140737488355328 : Nat)) ∧ ((0 : Nat) + List.length (St.stack s) ≤ List.length ([] ++ St.stack s) ∧ (0 : Nat) ≤ (0 : Nat) + List.length
  (St.stack s) ∧ ((0 : Nat) + List.length (St.stack s) + (1 : Nat)) * (8 : Nat) ≤ (140737488355328 : Nat)) ∧ wr IntKind.i64 (St.pc s + (1 : Int)) = St.pc z ∧ wr IntKind.i64 (St.fuel
  s - (1 : Int)) = St.fuel z ∧ St.status s = St.status z ∧ St.clause s = St.clause z ∧ ((0 : Nat) + ((0 : Nat) + List.length (St.stack s) + (1 : Nat)) ≤ List.length (List.take ((0 :
  Nat) + List.length (St.stack s)) ([] ++ St.stack s) ++ [Ins.n x]) ∧ List.take ((0 : Nat) + List.length (St.stack s) + (1 : Nat)) (List.take ((0 : Nat) + List.length (St.stack s))
  ([] ++ St.stack s) ++ [Ins.n x]) = St.stack z) ∧ True)))) ∧ ((Ins.op x == (2 : Int)) = false → ((Ins.op x == (12 : Int)) = true → (0 : Int) ≤ wr IntKind.i64 ((↑(List.length
  (St.stack s)) : Int) - (1 : Int)) ∧ wr IntKind.i64 ((↑(List.length (St.stack s)) : Int) - (1 : Int)) + (1 : Int) ≤ (↑(List.length (St.stack s)) : Int) ∧ ∀ (x_1 : Int), (St.stack
  s)[Int.toNat (wr IntKind.i64 ((↑(List.length (St.stack s)) : Int) - (1 : Int)))]? = some x_1 → (decide (Ins.n x ≤ x_1) = true → (0 : Int) ≤ wr IntKind.i64 ((↑(List.length (St.stack
  s)) : Int) - (1 : Int)) ∧ wr IntKind.i64 ((↑(List.length (St.stack s)) : Int) - (1 : Int)) + (1 : Int) ≤ (↑(List.length (St.stack s)) : Int) ∧ ∀ (x_2 : Int), (St.stack s)[Int.toNat
  (wr IntKind.i64 ((↑(List.length (St.stack s)) : Int) - (1 : Int)))]? = some x_2 → (decide (x_2 ≤ Ins.m x) = true → ((0 : Int) ≤ wr IntKind.i64 ((↑(List.length (St.stack s)) : Int)
  - (1 : Int)) ∧ wr IntKind.i64 ((↑(List.length (St.stack s)) : Int) - (1 : Int)) ≤ (↑(List.length (St.stack s)) : Int)) ∧ (List.take (Int.toNat (wr IntKind.i64 ((↑(List.length
  (St.stack s)) : Int) - (1 : Int)))) (St.stack s) = [] → wr IntKind.i64 (St.pc s + (1 : Int)) = St.pc z ∧ wr IntKind.i64 (St.fuel s - (1 : Int)) = St.fuel z ∧ St.status s =
  St.status z ∧ St.clause s = St.clause z ∧ ((0 : Nat) + ((0 : Nat) + (1 : Nat)) ≤ List.length ([] ++ [(1 : Int)]) ∧ List.take ((0 : Nat) + (1 : Nat)) ([] ++ [(1 : Int)]) = St.stack
  z) ∧ True) ∧ (List.take (Int.toNat (wr IntKind.i64 ((↑(List.length (St.stack s)) : Int) - (1 : Int)))) (St.stack s) ≠ [] → ((0 : Nat) + (1 : Nat) ≤ (0 : Nat) + List.length
  (List.take (Int.toNat (wr IntKind.i64 ((↑(List.length (St.stack s)) : Int) - (1 : Int)))) (St.stack s)) ∧ ((0 : Nat) + List.length (List.take (Int.toNat (wr IntKind.i64
  ((↑(List.length (St.stack s)) : Int) - (1 : Int)))) (St.stack s))) * (8 : Nat) ≤ (140737488355328 : Nat)) ∧ ((0 : Nat) + List.length (List.take (Int.toNat (wr IntKind.i64
  ((↑(List.length (St.stack s)) : Int) - (1 : Int)))) (St.stack s)) ≤ List.length ([] ++ List.take (Int.toNat (wr IntKind.i64 ((↑(List.length (St.stack s)) : Int) - (1 : Int))))
  (St.stack s)) ∧ (0 : Nat) ≤ (0 : Nat) + List.length (List.take (Int.toNat (wr IntKind.i64 ((↑(List.length (St.stack s)) : Int) - (1 : Int)))) (St.stack s)) ∧ ((0 : Nat) +
  List.length (List.take (Int.toNat (wr IntKind.i64 ((↑(List.length (St.stack s)) : Int) - (1 : Int)))) (St.stack s)) + (1 : Nat)) * (8 : Nat) ≤ (140737488355328 : Nat)) ∧ wr
  IntKind.i64 (St.pc s + (1 : Int)) = St.pc z ∧ wr IntKind.i64 (St.fuel s - (1 : Int)) = St.fuel z ∧ St.status s = St.status z ∧ St.clause s = St.clause z ∧ ((0 : Nat) + ((0 : Nat) +
  List.length (List.take (Int.toNat (wr IntKind.i64 ((↑(List.length (St.stack s)) : Int) - (1 : Int)))) (St.stack s)) + (1 : Nat)) ≤ List.length (List.take ((0 : Nat) + List.length
  (List.take (Int.toNat (wr IntKind.i64 ((↑(List.length (St.stack s)) : Int) - (1 : Int)))) (St.stack s))) ([] ++ List.take (Int.toNat (wr IntKind.i64 ((↑(List.length (St.stack s)) :
  Int) - (1 : Int)))) (St.stack s)) ++ [(1 : Int)]) ∧ List.take ((0 : Nat) + List.length (List.take (Int.toNat (wr IntKind.i64 ((↑(List.length (St.stack s)) : Int) - (1 : Int))))
  (St.stack s)) + (1 : Nat)) (List.take ((0 : Nat) + List.length (List.take (Int.toNat (wr IntKind.i64 ((↑(List.length (St.stack s)) : Int) - (1 : Int)))) (St.stack s))) ([] ++
  List.take (Int.toNat (wr IntKind.i64 ((↑(List.length (St.stack s)) : Int) - (1 : Int)))) (St.stack s)) ++ [(1 : Int)]) = St.stack z) ∧ True)) ∧ (decide (x_2 ≤ Ins.m x) = false →
  ((0 : Int) ≤ wr IntKind.i64 ((↑(List.length (St.stack s)) : Int) - (1 : Int)) ∧ wr IntKind.i64 ((↑(List.length (St.stack s)) : Int) - (1 : Int)) ≤ (↑(List.length (St.stack s)) :
  Int)) ∧ (List.take (Int.toNat (wr IntKind.i64 ((↑(List.length (St.stack s)) : Int) - (1 : Int)))) (St.stack s) = [] → wr IntKind.i64 (St.pc s + (1 : Int)) = St.pc z ∧ wr
  IntKind.i64 (St.fuel s - (1 : Int)) = St.fuel z ∧ St.status s = St.status z ∧ St.clause s = St.clause z ∧ ((0 : Nat) + ((0 : Nat) + (1 : Nat)) ≤ List.length ([] ++ [(0 : Int)]) ∧
  List.take ((0 : Nat) + (1 : Nat)) ([] ++ [(0 : Int)]) = St.stack z) ∧ True) ∧ (List.take (Int.toNat (wr IntKind.i64 ((↑(List.length (St.stack s)) : Int) - (1 : Int)))) (St.stack s)
  ≠ [] → ((0 : Nat) + (1 : Nat) ≤ (0 : Nat) + List.length (List.take (Int.toNat (wr IntKind.i64 ((↑(List.length (St.stack s)) : Int) - (1 : Int)))) (St.stack s)) ∧ ((0 : Nat) +
  List.length (List.take (Int.toNat (wr IntKind.i64 ((↑(List.length (St.stack s)) : Int) - (1 : Int)))) (St.stack s))) * (8 : Nat) ≤ (140737488355328 : Nat)) ∧ ((0 : Nat) +
  List.length (List.take (Int.toNat (wr IntKind.i64 ((↑(List.length (St.stack s)) : Int) - (1 : Int)))) (St.stack s)) ≤ List.length ([] ++ List.take (Int.toNat (wr IntKind.i64
  ((↑(List.length (St.stack s)) : Int) - (1 : Int)))) (St.stack s)) ∧ (0 : Nat) ≤ (0 : Nat) + List.length (List.take (Int.toNat (wr IntKind.i64 ((↑(List.length (St.stack s)) : Int) -
  (1 : Int)))) (St.stack s)) ∧ ((0 : Nat) + List.length (List.take (Int.toNat (wr IntKind.i64 ((↑(List.length (St.stack s)) : Int) - (1 : Int)))) (St.stack s)) + (1 : Nat)) * (8 :
  Nat) ≤ (140737488355328 : Nat)) ∧ wr IntKind.i64 (St.pc s + (1 : Int)) = St.pc z ∧ wr IntKind.i64 (St.fuel s - (1 : Int)) = St.fuel z ∧ St.status s = St.status z ∧ St.clause s =
  St.clause z ∧ ((0 : Nat) + ((0 : Nat) + List.length (List.take (Int.toNat (wr IntKind.i64 ((↑(List.length (St.stack s)) : Int) - (1 : Int)))) (St.stack s)) + (1 : Nat)) ≤
  List.length (List.take ((0 : Nat) + List.length (List.take (Int.toNat (wr IntKind.i64 ((↑(List.length (St.stack s)) : Int) - (1 : Int)))) (St.stack s))) ([] ++ List.take (Int.toNat
  (wr IntKind.i64 ((↑(List.length (St.stack s)) : Int) - (1 : Int)))) (St.stack s)) ++ [(0 : Int)]) ∧ List.take ((0 : Nat) + List.length (List.take (Int.toNat (wr IntKind.i64
  ((↑(List.length (St.stack s)) : Int) - (1 : Int)))) (St.stack s)) + (1 : Nat)) (List.take ((0 : Nat) + List.length (List.take (Int.toNat (wr IntKind.i64 ((↑(List.length (St.stack
  s)) : Int) - (1 : Int)))) (St.stack s))) ([] ++ List.take (Int.toNat (wr IntKind.i64 ((↑(List.length (St.stack s)) : Int) - (1 : Int)))) (St.stack s)) ++ [(0 : Int)]) = St.stack z)
  ∧ True))) ∧ (decide (Ins.n x ≤ x_1) = false → ((0 : Int) ≤ wr IntKind.i64 ((↑(List.length (St.stack s)) : Int) - (1 : Int)) ∧ wr IntKind.i64 ((↑(List.length (St.stack s)) : Int) -
  (1 : Int)) ≤ (↑(List.length (St.stack s)) : Int)) ∧ (List.take (Int.toNat (wr IntKind.i64 ((↑(List.length (St.stack s)) : Int) - (1 : Int)))) (St.stack s) = [] → wr IntKind.i64
  (St.pc s + (1 : Int)) = St.pc z ∧ wr IntKind.i64 (St.fuel s - (1 : Int)) = St.fuel z ∧ St.status s = St.status z ∧ St.clause s = St.clause z ∧ ((0 : Nat) + ((0 : Nat) + (1 : Nat))
  ≤ List.length ([] ++ [(0 : Int)]) ∧ List.take ((0 : Nat) + (1 : Nat)) ([] ++ [(0 : Int)]) = St.stack z) ∧ True) ∧ (List.take (Int.toNat (wr IntKind.i64 ((↑(List.length (St.stack
  s)) : Int) - (1 : Int)))) (St.stack s) ≠ [] → ((0 : Nat) + (1 : Nat) ≤ (0 : Nat) + List.length (List.take (Int.toNat (wr IntKind.i64 ((↑(List.length (St.stack s)) : Int) - (1 :
  Int)))) (St.stack s)) ∧ ((0 : Nat) + List.length (List.take (Int.toNat (wr IntKind.i64 ((↑(List.length (St.stack s)) : Int) - (1 : Int)))) (St.stack s))) * (8 : Nat) ≤
  (140737488355328 : Nat)) ∧ ((0 : Nat) + List.length (List.take (Int.toNat (wr IntKind.i64 ((↑(List.length (St.stack s)) : Int) - (1 : Int)))) (St.stack s)) ≤ List.length ([] ++
  List.take (Int.toNat (wr IntKind.i64 ((↑(List.length (St.stack s)) : Int) - (1 : Int)))) (St.stack s)) ∧ (0 : Nat) ≤ (0 : Nat) + List.length (List.take (Int.toNat (wr IntKind.i64
  ((↑(List.length (St.stack s)) : Int) - (1 : Int)))) (St.stack s)) ∧ ((0 : Nat) + List.length (List.take (Int.toNat (wr IntKind.i64 ((↑(List.length (St.stack s)) : Int) - (1 :
  Int)))) (St.stack s)) + (1 : Nat)) * (8 : Nat) ≤ (140737488355328 : Nat)) ∧ wr IntKind.i64 (St.pc s + (1 : Int)) = St.pc z ∧ wr IntKind.i64 (St.fuel s - (1 : Int)) = St.fuel z ∧
  St.status s = St.status z ∧ St.clause s = St.clause z ∧ ((0 : Nat) + ((0 : Nat) + List.length (List.take (Int.toNat (wr IntKind.i64 ((↑(List.length (St.stack s)) : Int) - (1 :
  Int)))) (St.stack s)) + (1 : Nat)) ≤ List.length (List.take ((0 : Nat) + List.length (List.take (Int.toNat (wr IntKind.i64 ((↑(List.length (St.stack s)) : Int) - (1 : Int))))
  (St.stack s))) ([] ++ List.take (Int.toNat (wr IntKind.i64 ((↑(List.length (St.stack s)) : Int) - (1 : Int)))) (St.stack s)) ++ [(0 : Int)]) ∧ List.take ((0 : Nat) + List.length
  (List.take (Int.toNat (wr IntKind.i64 ((↑(List.length (St.stack s)) : Int) - (1 : Int)))) (St.stack s)) + (1 : Nat)) (List.take ((0 : Nat) + List.length (List.take (Int.toNat (wr
  IntKind.i64 ((↑(List.length (St.stack s)) : Int) - (1 : Int)))) (St.stack s))) ([] ++ List.take (Int.toNat (wr IntKind.i64 ((↑(List.length (St.stack s)) : Int) - (1 : Int))))
  (St.stack s)) ++ [(0 : Int)]) = St.stack z) ∧ True))) ∧ ((Ins.op x == (12 : Int)) = false → ((Ins.op x == (13 : Int)) = true → (0 : Int) ≤ wr IntKind.i64 ((↑(List.length (St.stack
  s)) : Int) - (1 : Int)) ∧ wr IntKind.i64 ((↑(List.length (St.stack s)) : Int) - (1 : Int)) + (1 : Int) ≤ (↑(List.length (St.stack s)) : Int) ∧ ∀ (x_1 : Int), (St.stack s)[Int.toNat
  (wr IntKind.i64 ((↑(List.length (St.stack s)) : Int) - (1 : Int)))]? = some x_1 → ((0 : Int) ≤ wr IntKind.i64 ((↑(List.length (St.stack s)) : Int) - (1 : Int)) ∧ wr IntKind.i64
  ((↑(List.length (St.stack s)) : Int) - (1 : Int)) ≤ (↑(List.length (St.stack s)) : Int)) ∧ ((x_1 == (0 : Int)) = true → Ins.n x = St.pc z ∧ wr IntKind.i64 (St.fuel s - (1 : Int)) =
  St.fuel z ∧ St.status s = St.status z ∧ St.clause s = St.clause z ∧ (List.take (Int.toNat (wr IntKind.i64 ((↑(List.length (St.stack s)) : Int) - (1 : Int)))) (St.stack s) =
  St.stack z ∧ (false = true → false = true)) ∧ True) ∧ ((x_1 == (0 : Int)) = false → wr IntKind.i64 (St.pc s + (1 : Int)) = St.pc z ∧ wr IntKind.i64 (St.fuel s - (1 : Int)) =
  St.fuel z ∧ St.status s = St.status z ∧ St.clause s = St.clause z ∧ (List.take (Int.toNat (wr IntKind.i64 ((↑(List.length (St.stack s)) : Int) - (1 : Int)))) (St.stack s) =
  St.stack z ∧ (false = true → false = true)) ∧ True)) ∧ ((Ins.op x == (13 : Int)) = false → ((Ins.op x == (14 : Int)) = true → Ins.n x = St.pc z ∧ wr IntKind.i64 (St.fuel s - (1 :
  Int)) = St.fuel z ∧ St.status s = St.status z ∧ St.clause s = St.clause z ∧ (St.stack s = St.stack z ∧ (false = true → false = true)) ∧ True) ∧ ((Ins.op x == (14 : Int)) = false →
  ((Ins.op x == (15 : Int)) = true → St.pc s = St.pc z ∧ wr IntKind.i64 (St.fuel s - (1 : Int)) = St.fuel z ∧ (1 : Int) = St.status z ∧ Ins.n x = St.clause z ∧ (St.stack s = St.stack
  z ∧ (false = true → false = true)) ∧ True) ∧ ((Ins.op x == (15 : Int)) = false → ((Ins.op x == (16 : Int)) = true → St.pc s = St.pc z ∧ wr IntKind.i64 (St.fuel s - (1 : Int)) =
  St.fuel z ∧ (190 : Int) = St.status z ∧ St.clause s = St.clause z ∧ (St.stack s = St.stack z ∧ (false = true → false = true)) ∧ True) ∧ ((Ins.op x == (16 : Int)) = false → (0 :
  Int) ≤ wr IntKind.i64 ((↑(List.length (St.stack s)) : Int) - (2 : Int)) ∧ wr IntKind.i64 ((↑(List.length (St.stack s)) : Int) - (2 : Int)) + (1 : Int) ≤ (↑(List.length (St.stack
  s)) : Int) ∧ ∀ (x_1 : Int), (St.stack s)[Int.toNat (wr IntKind.i64 ((↑(List.length (St.stack s)) : Int) - (2 : Int)))]? = some x_1 → (0 : Int) ≤ wr IntKind.i64 ((↑(List.length
  (St.stack s)) : Int) - (1 : Int)) ∧ wr IntKind.i64 ((↑(List.length (St.stack s)) : Int) - (1 : Int)) + (1 : Int) ≤ (↑(List.length (St.stack s)) : Int) ∧ ∀ (x_2 : Int), (St.stack
  s)[Int.toNat (wr IntKind.i64 ((↑(List.length (St.stack s)) : Int) - (1 : Int)))]? = some x_2 → True ∧ ((Prod.snd (binF (Ins.op x) x_1 x_2) != (0 : Int)) = true → ((Prod.snd (binF
  (Ins.op x) x_1 x_2) != (0 : Int)) = true → St.pc s = St.pc z ∧ wr IntKind.i64 (St.fuel s - (1 : Int)) = St.fuel z ∧ wr IntKind.i64 ((10 : Int) + Prod.snd (binF (Ins.op x) x_1 x_2))
  = St.status z ∧ St.clause s = St.clause z ∧ (St.stack s = St.stack z ∧ (false = true → false = true)) ∧ True) ∧ ((Prod.snd (binF (Ins.op x) x_1 x_2) != (0 : Int)) = false → St.pc s
  = St.pc z ∧ wr IntKind.i64 (St.fuel s - (1 : Int)) = St.fuel z ∧ St.status s = St.status z ∧ St.clause s = St.clause z ∧ (St.stack s = St.stack z ∧ (false = true → false = true)) ∧
  True)) ∧ ((Prod.snd (binF (Ins.op x) x_1 x_2) != (0 : Int)) = false → ((0 : Int) ≤ wr IntKind.i64 ((↑(List.length (St.stack s)) : Int) - (2 : Int)) ∧ wr IntKind.i64 ((↑(List.length
  (St.stack s)) : Int) - (2 : Int)) ≤ (↑(List.length (St.stack s)) : Int)) ∧ (List.take (Int.toNat (wr IntKind.i64 ((↑(List.length (St.stack s)) : Int) - (2 : Int)))) (St.stack s) =
  [] → wr IntKind.i64 (St.pc s + (1 : Int)) = St.pc z ∧ wr IntKind.i64 (St.fuel s - (1 : Int)) = St.fuel z ∧ St.status s = St.status z ∧ St.clause s = St.clause z ∧ ((0 : Nat) + ((0
  : Nat) + (1 : Nat)) ≤ List.length ([] ++ [Prod.fst (binF (Ins.op x) x_1 x_2)]) ∧ List.take ((0 : Nat) + (1 : Nat)) ([] ++ [Prod.fst (binF (Ins.op x) x_1 x_2)]) = St.stack z) ∧
  True) ∧ (List.take (Int.toNat (wr IntKind.i64 ((↑(List.length (St.stack s)) : Int) - (2 : Int)))) (St.stack s) ≠ [] → ((0 : Nat) + (1 : Nat) ≤ (0 : Nat) + List.length (List.take
  (Int.toNat (wr IntKind.i64 ((↑(List.length (St.stack s)) : Int) - (2 : Int)))) (St.stack s)) ∧ ((0 : Nat) + List.length (List.take (Int.toNat (wr IntKind.i64 ((↑(List.length
  (St.stack s)) : Int) - (2 : Int)))) (St.stack s))) * (8 : Nat) ≤ (140737488355328 : Nat)) ∧ ((0 : Nat) + List.length (List.take (Int.toNat (wr IntKind.i64 ((↑(List.length (St.stack
  s)) : Int) - (2 : Int)))) (St.stack s)) ≤ List.length ([] ++ List.take (Int.toNat (wr IntKind.i64 ((↑(List.length (St.stack s)) : Int) - (2 : Int)))) (St.stack s)) ∧ (0 : Nat) ≤ (0
  : Nat) + List.length (List.take (Int.toNat (wr IntKind.i64 ((↑(List.length (St.stack s)) : Int) - (2 : Int)))) (St.stack s)) ∧ ((0 : Nat) + List.length (List.take (Int.toNat (wr
  IntKind.i64 ((↑(List.length (St.stack s)) : Int) - (2 : Int)))) (St.stack s)) + (1 : Nat)) * (8 : Nat) ≤ (140737488355328 : Nat)) ∧ wr IntKind.i64 (St.pc s + (1 : Int)) = St.pc z ∧
  wr IntKind.i64 (St.fuel s - (1 : Int)) = St.fuel z ∧ St.status s = St.status z ∧ St.clause s = St.clause z ∧ ((0 : Nat) + ((0 : Nat) + List.length (List.take (Int.toNat (wr
  IntKind.i64 ((↑(List.length (St.stack s)) : Int) - (2 : Int)))) (St.stack s)) + (1 : Nat)) ≤ List.length (List.take ((0 : Nat) + List.length (List.take (Int.toNat (wr IntKind.i64
  ((↑(List.length (St.stack s)) : Int) - (2 : Int)))) (St.stack s))) ([] ++ List.take (Int.toNat (wr IntKind.i64 ((↑(List.length (St.stack s)) : Int) - (2 : Int)))) (St.stack s)) ++
  [Prod.fst (binF (Ins.op x) x_1 x_2)]) ∧ List.take ((0 : Nat) + List.length (List.take (Int.toNat (wr IntKind.i64 ((↑(List.length (St.stack s)) : Int) - (2 : Int)))) (St.stack s)) +
  (1 : Nat)) (List.take ((0 : Nat) + List.length (List.take (Int.toNat (wr IntKind.i64 ((↑(List.length (St.stack s)) : Int) - (2 : Int)))) (St.stack s))) ([] ++ List.take (Int.toNat
  (wr IntKind.i64 ((↑(List.length (St.stack s)) : Int) - (2 : Int)))) (St.stack s)) ++ [Prod.fst (binF (Ins.op x) x_1 x_2)]) = St.stack z) ∧ True)))))))))))
  ) := by kernel_rfl
--@end
end Go.Proofs.YtcaomfbcchemnaaDoor
